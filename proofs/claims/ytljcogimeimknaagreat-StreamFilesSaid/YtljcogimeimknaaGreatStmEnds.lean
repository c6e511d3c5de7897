/- A writer of streams: New, ends: contracts. Conditions: the writer stands rightly. -/
import Derived.Test.YtljcogimeimknaaGreatK8f
import Derived.Deep.RegionLaw
import Derived.Lib.SlBytesConst
namespace Go.Proofs.YtljcogimeimknaaGreat
open Go.RowKit
set_option linter.unusedVariables false

set_option maxRecDepth 100000 in
theorem snewbad_any (n : Int) (w : World) (hn : n < 1 ∨ 64 < n) :
    Calls Tryz.prog 73 #[.int .i64 n] w fun e w' => e = .returned (.tuple #[.pointer none, .int .i64 1]) ∧ w = w' := by
  by_cases h1 : n < 1
  · have t1 : decide (n < 1) = true := decide_eq_true h1
    clear hn h1
    go_enter Tryz.func73, Tryz.ntmps73
    go_wp2_with fail
    go_ret2
    exact ⟨rfl, rfl⟩
  · have h2 : 64 < n := by omega
    have t1 : decide (n < 1) = false := decide_eq_false h1
    have t2 : decide (n > 64) = true := decide_eq_true h2
    have t3 : decide (64 < n) = true := decide_eq_true h2
    clear hn h1 h2
    go_enter Tryz.func73, Tryz.ntmps73
    go_wp2_with fail
    go_ret2
    exact ⟨rfl, rfl⟩

theorem Wr.init (w : World) (m : Nat) :
    WrS (((w.alloc (.cells #[.int .i64 0, .slice none 0 0, .slice none 0 0, .slice none 0 0] 208)).alloc (.cells #[.int .u8 99, .int .u8 111, .int .u8 112, .int .u8 112, .int .u8 105, .int .u8 99, .int .u8 101, .int .u8 1] 5 (8, 9))).alloc (.cells #[.int .i64 (m : Nat), .pointer (some ⟨w.heap.size, 0, none⟩), .slice none 0 0, .slice none 0 0, .bool false, .slice (some ⟨w.heap.size + 1, 0, none⟩) 8 8] 187)) w.heap.size (w.heap.size + 2) m WS0 (fun j => if j = w.heap.size then 2 else if j = w.heap.size + 1 then 4 else if j = w.heap.size + 2 then 1 else 0) := by
  obtain ⟨w1, hw1⟩ : ∃ w1, w.alloc (.cells #[.int .i64 0, .slice none 0 0, .slice none 0 0, .slice none 0 0] 208) = w1 := ⟨_, rfl⟩
  have hB : Bl w1 w.heap.size w.heap.size (fun _ => .slice none 0 0) [] := hw1 ▸ Bl.new w
  have s1 : w1.heap.size = w.heap.size + 1 := by rw [← hw1]; simp
  rw [hw1]
  clear hw1
  obtain ⟨w2, hw2⟩ : ∃ w2, w1.alloc (.cells #[.int .u8 99, .int .u8 111, .int .u8 112, .int .u8 112, .int .u8 105, .int .u8 99, .int .u8 101, .int .u8 1] 5 (8, 9)) = w2 := ⟨_, rfl⟩
  have b2 : Below w1.heap.size w1 w2 := hw2 ▸ (Below.refl _ _).alloc (Nat.le_refl _) _
  have h2 : w2.heap[w.heap.size + 1]? = some (.cells (headB.map Bf).toArray 5 (8, 9)) := by rw [← s1, ← hw2]; exact heap_new w1 _
  have s2 : w2.heap.size = w.heap.size + 2 := by rw [← hw2]; simp; omega
  rw [hw2]
  clear hw2
  obtain ⟨w3, hw3⟩ : ∃ w3, w2.alloc (.cells #[.int .i64 (m : Nat), .pointer (some ⟨w.heap.size, 0, none⟩), .slice none 0 0, .slice none 0 0, .bool false, .slice (some ⟨w.heap.size + 1, 0, none⟩) 8 8] 187) = w3 := ⟨_, rfl⟩
  have b3 : Below w2.heap.size w2 w3 := hw3 ▸ (Below.refl _ _).alloc (Nat.le_refl _) _
  have h3 : w3.heap[w.heap.size + 2]? = some (.cells #[.int .i64 (m : Nat), .pointer (some ⟨w.heap.size, 0, none⟩), .slice none 0 0, .slice none 0 0, .bool false, .slice (some ⟨w.heap.size + 1, 0, none⟩) 8 8] 187 (0, 0)) := by rw [← s2, ← hw3]; exact heap_new w2 _
  have s3 : w3.heap.size = w.heap.size + 3 := by rw [← hw3]; simp; omega
  rw [hw3]
  clear hw3
  have hr : WS0.ready = headB := by simp [WS0, WS.ready, WS.whole, outL]
  refine ⟨w.heap.size, fun _ => .slice none 0 0, .slice none 0 0, .slice none 0 0, .slice (some ⟨w.heap.size + 1, 0, none⟩) 8 8, [], ⟨fun j hj => ?_, by omega, h3, by simp, (hB.keep b2).keep b3, fun j hj => ?_, .inl ⟨rfl, rfl⟩, OwT.nil _ _ _ _, fun j hj => by simp [Value.ownBlock] at hj, rfl, fun i x r hx _ => by simp at hx, ?_, fun j hj => ?_⟩⟩
  · by_cases h1 : j = w.heap.size
    · omega
    by_cases h2 : j = w.heap.size + 1
    · omega
    by_cases h3 : j = w.heap.size + 2
    · omega
    simp [h1, h2, h3] at hj
  · rw [BlS_nil hj]; simp
  · rw [hr]
    exact .inr ⟨w.heap.size + 1, rfl, (b3.block _ (by omega)).trans h2, by omega⟩
  · simp [Value.ownBlock] at hj
    subst hj
    simp

set_option maxRecDepth 100000 in
theorem snew_any (m : Nat) (w : World) (h1 : 1 ≤ m) (h2 : m ≤ 64) :
    Calls Tryz.prog 73 #[.int .i64 (m : Nat)] w fun e w' => ∃ g who, e = .returned (.tuple #[.pointer (some ⟨g, 0, none⟩), .int .i64 0]) ∧ WrS w' w.heap.size g m WS0 who ∧ Below w.heap.size w w' := by
  have t1 : decide ((m : Int) < 1) = false := decide_eq_false (by omega)
  have t2 : decide ((m : Int) > 64) = false := decide_eq_false (by omega)
  have t3 : decide (64 < (m : Int)) = false := decide_eq_false (by omega)
  have t3' : decide (64 < m) = false := decide_eq_false (by omega)
  have t1' : decide (m < 1) = false := decide_eq_false (by omega)
  have I := Lib.hid (Wr.init w m)
  have kc := fun (w : World) (C : Array Value) (n c : Nat) => Lib.run_convert_bytes_const (P := Tryz.prog) w 22 5 C n c Tryz.underlying22 Tryz.underlying5
  have kc2 : ∀ C n c, (convert 22 22 (.slice (some ⟨w.heap.size + 1, 0, none⟩) n c)).run Tryz.prog ((w.alloc (.cells #[.int .i64 0, .slice none 0 0, .slice none 0 0, .slice none 0 0] 208)).alloc (.cells C 5)) = .ok (.slice (some ⟨w.heap.size + 1, 0, none⟩) n c) ((w.alloc (.cells #[.int .i64 0, .slice none 0 0, .slice none 0 0, .slice none 0 0] 208)).alloc (.cells C 5 (C.size, C.size + 1))) := fun C n c => by
    have := kc (w.alloc (.cells #[.int .i64 0, .slice none 0 0, .slice none 0 0, .slice none 0 0] 208)) C n c
    rwa [show (w.alloc (.cells #[.int .i64 0, .slice none 0 0, .slice none 0 0, .slice none 0 0] 208)).heap.size = w.heap.size + 1 by simp] at this
  go_enter Tryz.func73, Tryz.ntmps73
  go_wp2_with (go_at_call 109; refine (bnew_any _).mono ?_; rintro e w1 ⟨rfl, rfl⟩)
  go_ret2
  refine ⟨_, _, rfl, I.out, ?_⟩
  exact (((Below.refl _ _).alloc (Nat.le_refl _) _).alloc (by simp) _).alloc (by simp; omega) _

theorem WrS.cut_fin {w : World} {lo g gb m : Nat} {v : Nat → Value} {lv rv yv : Value} {vs : List RV} {s : WS} {EL n2 nn : Nat} {who : Nat → Nat}
    (h : Wr w lo g gb v lv rv yv vs m [] s.last (rowsL s.L ++ [(s.last, ((EL : Int), (n2 : Int), (nn : Int)))]) s.shut (s.ready ++ blkf s.now) who) (h0 : s.now ≠ []) (hok : s.Ok' m) (hE : endL s.L = EL) (hN : s.now.length = nn) (h2 : (blkf s.now).length = n2) : WrS w lo g m s.cut who := by
  have hrc := WS.ready_cut (m := m) hok.told h0 hok.open'
  have hll : s.last = lastK s.now := hok.last h0
  rw [WS.cut_some h0] at hrc ⊢
  refine ⟨gb, v, lv, rv, yv, vs, ?_⟩
  rw [hrc]
  show Wr _ _ _ _ _ _ _ _ _ _ [] s.last (rowsL (s.L ++ [s.now])) s.shut _ _
  rw [rowsL_snoc, hE, hN, h2, ← hll]
  exact h
set_option maxRecDepth 100000 in
set_option maxHeartbeats 2000000 in
theorem sends_any (w : World) (lo g m : Nat) (s : WS) (who : Nat → Nat) (h : WrS w lo g m s who) (hok : s.Ok' m) :
    Calls Tryz.prog 113 #[.pointer (some ⟨g, 0, none⟩)] w fun e w' => e = .returned (.tuple #[]) ∧ WPost w w' lo g m s.cut who := by
  obtain ⟨gb, v, lv, rv, yv, vs, hW⟩ := h
  have W0 := Lib.hid hW
  have c1 := hW.c1
  obtain ⟨nn, hnn⟩ : ∃ nn, s.now.length = nn := ⟨_, rfl⟩
  have BL := Lib.hid (blen_any lo gb v s.now w hW.bl)
  rw [hnn] at BL
  by_cases h0 : s.now = []
  · have hn0 : nn = 0 := by rw [← hnn, h0]; rfl
    subst hn0
    have FIN := Lib.hid (show WPost w w lo g m s.cut who by rw [WS.cut_nil h0]; exact ⟨who, ⟨gb, v, lv, rv, yv, vs, hW⟩, Gr.refl _ _⟩)
    clear hW hok h0 hnn
    go_enter Tryz.func113, Tryz.ntmps113
    go_wp2_with (go_at_call 111; refine BL.out.mono ?_; rintro e w1 ⟨rfl, rfl⟩)
    exact bodyPost_ret (results_none rfl _ _ _) rfl ⟨rfl, FIN.out⟩
  · have hn0 : nn ≠ 0 := by rw [← hnn]; intro e; exact h0 (List.eq_nil_of_length_eq_zero e)
    have t1 : ((nn : Int) == 0) = false := by rw [beq_eq_false_iff_ne]; omega
    have t1' : (nn == 0) = false := by rw [beq_eq_false_iff_ne]; omega
    have hokay := srt_okay hok.n.2
    have hll : s.last = lastK s.now := hok.last h0
    have hlne : s.last ≠ [] := by rw [hll]; exact bst_last_ne h0 hokay
    have BB := Lib.hid (bbytes_any lo gb v s.now w hok.n.1 hokay hW.bl)
    have hbl := bld_le hok.n.1 hokay
    have hfl := blkf_le hok.n.1 hokay
    have hrd := outL_le hok.l
    have hmany := hok.many
    have hyl : s.ready.length ≤ 200000000000 := by
      unfold WS.ready WS.whole
      rw [List.length_drop]
      simp only [hok.open', Bool.false_eq_true, if_false, List.length_append, headB, List.length_cons, List.length_nil]
      omega
    have LN := Lib.hid hlne
    have LE := Lib.hid hll
    have OK := Lib.hid hok
    have HN := Lib.hid hnn
    have H0 := Lib.hid h0
    have RC := Lib.hid (WS.ready_cut (m := m) hok.told h0 hok.open')
    have CUT := Lib.hid (WS.cut_some h0)
    clear hW hok h0 hnn hll hlne hn0 hokay hrd
    go_enter Tryz.func113, Tryz.ntmps113
    go_upto_region 2 with (go_at_call 111; refine BL.out.mono ?_; rintro e w1 ⟨rfl, rfl⟩)
    go_wp2_with fail
    refine BB.out.mono ?_
    rintro e w1 ⟨x1, rfl, ho1, ⟨v', hb1, hs1⟩, ht1⟩
    obtain ⟨who1, hW1, hG1⟩ := W0.out.newB (ht1.mono fun j _ e => .inl e) hb1 (fun j hj => .inl (hs1 j hj))
    obtain ⟨a1, n1, c1', rfl, z1⟩ := ho1.slN
    have Z1 := Lib.hid z1
    have W1 := Lib.hid hW1
    have G1 := Lib.hid hG1
    have hn1 : n1 ≤ 23000 := by rw [← z1.len]; exact hbl
    clear ho1 hb1 hs1 ht1 hW1 hG1 z1 BB c1 BL
    go_wp2_with fail
    refine (sframe_any 66 66 rfl a1 n1 c1' (bld s.now) w1 (by omega) Z1.out).mono ?_
    rintro e w2 ⟨x2, rfl, ho2, hb2⟩
    obtain ⟨a2, n2, c2, rfl, z2⟩ := ho2.slN
    have Z2 := Lib.hid z2
    have hW2 := W1.out.keep hb2
    have W2 := Lib.hid hW2
    have G2 := Lib.hid (G1.out.trans (Gr.below hb2))
    have hn2 : n2 ≤ 23015 := by rw [← z2.len]; exact hfl
    have hn2p : 0 < n2 := by rw [← z2.len, frm_len]; omega
    have N2 := Lib.hid (show (blkf s.now).length = n2 from z2.len)
    obtain ⟨aY, nY, cY, hyv, zY⟩ := hW2.yr.slN
    subst hyv
    have hnY : nY ≤ 200000000000 := by rw [← zY.len]; exact hyl
    have NY := Lib.hid zY.len
    have c5 := hW2.c5
    clear ho2 hb2 z2 hW2 zY W1 G1 W0 Z1
    go_upto_region 4 with (at_builtin; refine wpList_appY rfl (.tmp 21) (.tmp 22) rfl lo (.slice aY nY cY) s.ready (by rfl) W2.out.yr a2 n2 c2 (blkf s.now) (by rfl) Z2.out hn2p (by rw [NY.out]; unfold maxLen; omega) (by rw [NY.out]; omega) W2.out.lw ?_; intro v3 w3 h3 hg3 hv3; obtain ⟨a3, n3, k3, rfl, z3⟩ := h3.slN; have O3 := Lib.hid h3; have V3 := Lib.hid hv3; have TU3 : Hid (Turns (fun j => Value.ownBlock (.slice aY nY cY) = some j) w2 w3) := Lib.hid (.of_grown hg3 fun j e => e); have hgo : ¬ (Value.ownBlock (.slice aY nY cY) = some g) := (fun e => by have := W2.out.yb g e; rw [W2.out.gw] at this; cases this); have hblk3 := TU3.out.heap W2.out.blk hgo; have d5 := cell_of hblk3 5 (v := .slice aY nY cY) rfl; have f5 := free_block hblk3 5; clear h3 hg3 hv3 hblk3 z3)
    obtain ⟨who3, hW3, hG3⟩ := W2.out.setY TU3.out (.inl O3.out) (fun j hj => by rcases V3.out with e | e; (exact .inl (e.symm.trans hj)); (rw [e] at hj; injection hj with hj; exact .inr (by omega)))
    have W3 := Lib.hid hW3
    have G3 := Lib.hid (G2.out.trans hG3)
    clear hW3 hG3 c5 d5 f5 W2 G2 Z2 O3 V3 TU3 hgo
    generalize w3.setCell ⟨g, 5, none⟩ (.slice a3 n3 k3) = w4 at *
    obtain ⟨v3, hv3⟩ : ∃ v3, Value.slice a3 n3 k3 = v3 := ⟨_, rfl⟩
    rw [hv3] at W3
    clear hv3
    obtain ⟨aR, nR, cR, hrv, hsp⟩ := W3.out.spv
    subst hrv
    have hnR : nR ≤ 8388608 := by rw [← hsp.spans.1, rowsL_len]; exact hmany
    have hVL : vs.length = nR := hsp.1.1
    have VL := Lib.hid hVL
    obtain ⟨bL, oL, cL, hlv⟩ : ∃ b o c, lv = .slice (some ⟨b, o, none⟩) s.last.length c := by
      rcases W3.out.ls with ⟨e, _⟩ | ⟨e, b, o, c, e1, _⟩
      · exact absurd e LN.out
      · exact ⟨b, o, c, e1⟩
    subst hlv
    obtain ⟨nK, hnK⟩ : ∃ nK, s.last.length = nK := ⟨_, rfl⟩
    have NK := Lib.hid hnK
    have WB := Lib.hid W3.out.blk
    replace WB : Hid (w4.heap[g]? = some (.cells #[.int .i64 (m : Nat), .pointer (some ⟨gb, 0, none⟩), .slice (some ⟨bL, oL, none⟩) nK cL, .slice aR nR cR, .bool s.shut, v3] 187 (0, 0))) := Lib.hid (by have := WB.out; rw [hnK] at this; exact this)
    have c2' := cell_of WB.out 2 (v := .slice (some ⟨bL, oL, none⟩) nK cL) rfl
    have c3 := cell_of WB.out 3 (v := .slice aR nR cR) rfl
    obtain ⟨EL, hEL⟩ : ∃ q, endL s.L = q := ⟨_, rfl⟩
    have SE := Lib.hid (fun (W : World) (hb : Below w4.heap.size w4 W) => hEL ▸ send_any aR nR cR s.L W hmany OK.out.l (hsp.spans.keep hb))
    have HE := Lib.hid hEL
    have hgw4 : g < w4.heap.size := W3.out.lt
    have NB := Lib.hid (show ∀ (x5 : World), Below w4.heap.size w4 x5 → x5.cell? ⟨g, 2, none⟩ = some (.slice (some ⟨bL, oL, none⟩) nK cL) ∧ x5.cell? ⟨g, 3, none⟩ = some (.slice aR nR cR) from fun x5 hb => ⟨(World.cell?_of_block (hb.block _ hgw4)).trans c2', (World.cell?_of_block (hb.block _ hgw4)).trans c3⟩)
    clear hsp hVL hnK hEL
    have c2d : w4.drew.cell? ⟨g, 2, none⟩ = some (.slice (some ⟨bL, oL, none⟩) nK cL) := c2'
    have c3d : w4.drew.cell? ⟨g, 3, none⟩ = some (.slice aR nR cR) := c3
    go_region_law (first
      | (refine step_appT eltTR rfl (.tmp 30) (.tmp 44) rfl lo (.slice aR nR cR) vs (by simp [Act.eval]) RW5.out (some ⟨w5.heap.size, 0, none⟩) 1 1 [((some ⟨bL, oL, none⟩, nK, cL), (EL : Int), (n2 : Int), (nn : Int))] (by simp [Act.eval]) (SlT.litR w5 ((some ⟨bL, oL, none⟩, nK, cL), (EL : Int), (n2 : Int), (nn : Int)) w5.heap.size rfl) (by rw [VL.out]; unfold maxLen; omega) (by rw [VL.out]; omega) (by have := W3.out.lw; have := H5.out.size; simp; omega) _ rfl ?_; intro v6 w6 h6 hg6 hv6 hb6; obtain ⟨a6, n6, c6, rfl, -, -⟩ := h6.slR; have O6 := Lib.hid h6; have V6 := Lib.hid hv6; have TU6 : Hid (Turns (fun j => Value.ownBlock (.slice aR nR cR) = some j) w4 w6) := Lib.hid ((Turns.of_below (keep_trans H5.out ((Below.refl _ _).alloc (Nat.le_refl _) _))).trans (.of_grown hg6 fun j e => e) fun _ _ e => e); have hgo : ¬ (Value.ownBlock (.slice aR nR cR) = some g) := (fun e => by have := W3.out.rb g e; rw [W3.out.gw] at this; cases this); have hblk6 := TU6.out.heap WB.out hgo; have d3 := cell_of hblk6 3 (v := .slice aR nR cR) rfl; have f3 := free_block hblk6 3; have l6 : w4.heap.size ≤ w5.heap.size := H5.out.size; clear h6 hg6 hv6 hb6 hblk6 hgo)
      | (go_simp; go_at_call 38; refine (SE.out _ ((Below.refl _ _).drew)).mono ?_; rintro e w5 ⟨rfl, hb5⟩; have H5 : Hid (Below w4.heap.size w4 w5) := Lib.hid (((Below.refl _ _).drew).trans hb5); obtain ⟨e2, e3⟩ := NB.out w5 H5.out; obtain ⟨k2, k3⟩ := NB.out (w5.alloc (.cells #[.slice (some ⟨bL, oL, none⟩) nK cL, .int .i64 (EL : Nat), .int .i64 (n2 : Nat), .int .i64 (nn : Nat)] 94)) (keep_trans H5.out ((Below.refl _ _).alloc (Nat.le_refl _) _)); have RW5 := Lib.hid ((W3.out.rw.keep H5.out).alloc (.cells #[.slice (some ⟨bL, oL, none⟩) nK cL, .int .i64 (EL : Nat), .int .i64 (n2 : Nat), .int .i64 (nn : Nat)] 94)); clear hb5))
    all_goals
      go_wp2_with fail
      obtain ⟨who6, hW6, hG6⟩ := W3.out.setR TU6.out (x := .slice a6 n6 c6) LN.out (a := some ⟨bL, oL, none⟩) (n := nK) (c := cL) (by rw [NK.out]) O6.out (fun j hj => by rcases V6.out with e | e; (exact .inl (e.symm.trans hj)); (rw [e] at hj; injection hj with hj; exact .inr (by simp at hj; omega)))
      go_end0
      exact ⟨rfl, who6, WrS.cut_fin hW6 H0.out OK.out HE.out HN.out N2.out, G3.out.trans hG6⟩
end Go.Proofs.YtljcogimeimknaaGreat

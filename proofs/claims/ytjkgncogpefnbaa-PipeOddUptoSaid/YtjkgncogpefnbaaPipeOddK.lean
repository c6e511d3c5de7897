/- The document's reader and writer of any behaviour as readers and writers: contracts of Read and Write. Conditions: numbers within reach. -/
import Derived.Test.YtjkgncogpefnbaaPipeOddR
namespace Go.Proofs.Ytjkgncogpefnbaa
open Go.RowKit
set_option linter.unusedVariables false
set_option linter.unusedSimpArgs false

set_option maxRecDepth 100000 in
set_option maxHeartbeats 2000000 in
theorem roread_any (g lo : Nat) (s : Od) (S : Nat → Prop) (gp n c : Nat) (zs : List UInt8) (w : World) (h : RoP g lo s S w) (hc : s.calls ≤ 1099511627776) (hn : n ≤ zs.length) (hnc : n ≤ c) (hz : n ≤ 140737488351232) (hp : w.heap[gp]? = some (.cells (zs.map Bf).toArray 5 (0, 0))) (hg : ¬ S gp) (hgb : lo ≤ gp) :
    Calls Try.prog 29 #[.pointer (some ⟨g, 0, none⟩), .slice (some ⟨gp, 0, none⟩) n c] w fun e w' => e = .returned (.tuple #[.int .i64 (oddM.num s n), .int .i64 (oddM.er s n)]) ∧ ∃ S', RoP g lo (oddM.nxt s n) S' w' ∧ (∀ j, S' j → S j ∨ w.heap.size ≤ j) ∧
      Turns (fun j => S j ∨ j = gp) w w' ∧ w'.heap[gp]? = some (.cells ((oddM.lay s n ++ zs.drop (oddM.lay s n).length).map Bf).toArray 5 (0, 0)) := by
  obtain ⟨vn, ve, vs, ss, hb, h1, h2, h3, h4, h5⟩ := h.blk
  have hgp : g ≠ gp := fun e => hg (e ▸ h.own)
  have hgl := (h.inS g h.own).1
  have c4 : w.cell? ⟨g, 4, none⟩ = some (.int .i64 (s.calls : Nat)) := cell_of hb 4 rfl
  have f4 : w.frozen? ⟨g, 4, none⟩ = false := free_block hb 4
  have hset : (w.setCell ⟨g, 4, none⟩ (.int .i64 ((s.calls : Int) + 1))).heap[g]? = some (.cells (rocells vn ve (s.calls + 1) s.nx vs) 48 (0, 0)) := set_block (i := 4) hb (.int .i64 ((s.calls : Int) + 1))
  have d6 : (w.setCell ⟨g, 4, none⟩ (.int .i64 ((s.calls : Int) + 1))).cell? ⟨g, 6, none⟩ = some (.bool true) := cell_of hset 6 rfl
  have TS := Turns.set (S := fun j => j = g) w (b := g) (i := 4) rfl (.int .i64 ((s.calls : Int) + 1))
  have hz1 : (w.setCell ⟨g, 4, none⟩ (.int .i64 ((s.calls : Int) + 1))).heap.size = w.heap.size := by simp
  have RO := Lib.hid (rodd_any g lo gp n c zs _ vn ve vs ss s.n s.e s.calls s.nx hset (h1.turns TS fun j e => by omega) (h2.turns TS fun j e => by omega) (h3.turns TS fun j hj e => (h5 j hj).2 e) h4 (fun j hj => ⟨(h5 j hj).2, fun e => hg (e ▸ (h5 j hj).1)⟩) hgl hgb hgp (TS.heap hp (fun e => hgp e.symm)) hn hnc hz hc)
  have FIN := Lib.hid (show ∀ (r : Ending) w', RoddPost g lo gp n zs (w.setCell ⟨g, 4, none⟩ (.int .i64 ((s.calls : Int) + 1))) vn ve vs ss s.n s.e s.calls s.nx r w' → (∃ S', RoP g lo (oddM.nxt s n) S' w' ∧ (∀ j, S' j → S j ∨ w.heap.size ≤ j) ∧ Turns (fun j => S j ∨ j = gp) w w' ∧ w'.heap[gp]? = some (.cells ((oddM.lay s n ++ zs.drop (oddM.lay s n).length).map Bf).toArray 5 (0, 0))) from by
    rintro r w' ⟨-, vs', q1, q2, q3, q4, q5⟩
    have TT : Turns (fun j => S j ∨ j = gp) w w' := (TS.mono (T := fun j => S j ∨ j = gp) fun j _ e => .inl (e ▸ h.own)).trans q4 fun j _ e => by
      rcases e with e | e | e
      · exact .inl (e ▸ h.own)
      · exact .inr e
      · exact .inl (h5 j e).1
    have tb : ∀ j, S j ∨ j = gp → lo ≤ j := fun j e => by rcases e with e | e; (exact (h.inS j e).1); (omega)
    have hgw := (h.inS g h.own).2
    refine ⟨fun j => S j ∨ vs'.ownBlock = some j, ⟨⟨vn, ve, vs', ss ++ [(n : Int)], q1, h1.turns TT tb, h2.turns TT tb, q2, by rw [List.length_append, h4]; rfl, fun j hj => ⟨.inr hj, fun e => ?_⟩⟩, .inl h.own, fun j hj => ?_⟩, fun j hj => ?_, TT, ?_⟩
    · rcases q3 j hj with k | k
      · exact (h5 j k).2 e
      · omega
    · rcases hj with hj | hj
      · exact ⟨(h.inS j hj).1, Nat.lt_of_lt_of_le (h.inS j hj).2 TT.size⟩
      · exact q2.lt j hj
    · rcases hj with hj | hj
      · exact .inl hj
      · rcases q3 j hj with k | k
        · exact .inl (h5 j k).1
        · exact .inr (by omega)
    · show w'.heap[gp]? = some (.cells ((ups s.nx (cl (numO s.n s.calls 0) n) ++ zs.drop (ups s.nx (cl (numO s.n s.calls 0) n)).length).map Bf).toArray 5 (0, 0))
      rw [ups_len]; exact q5)
  have r1 : IntKind.i64.wrap ((s.calls : Int) + 1) = (s.calls : Int) + 1 := IntWalk.i64_in _ (by omega)
  clear hb h1 h2 h3 h4 h5 hset TS hp hg h hgp
  go_enter Try.func29, Try.ntmps29
  go_wp2_with fail
  refine RO.out.mono ?_
  rintro e w2 hpst
  have FF := Lib.hid (FIN.out _ _ hpst)
  obtain ⟨rfl, -⟩ := hpst
  clear RO FIN
  go_wp2_with fail
  go_ret2
  exact ⟨rfl, FF.out⟩
theorem roddL (g lo : Nat) : RdrL oddM (.pointer (some ⟨g, 0, none⟩)) lo 1099511627776 (RoP g lo) where
  frame _ _ _ _ _ h ht hd hT := h.turns ht hd hT
  inS _ _ _ h := h.inS
  read s S w p n c zs h hc hn hnc hz hp hg hlg := roread_any g lo s S p n c zs w h (Nat.le_of_lt hc) hn hnc (by omega) hp hg hlg
set_option maxRecDepth 100000 in
set_option maxHeartbeats 4000000 in
theorem rowrite_any (g lo : Nat) (s : Od) (S : Nat → Prop) (ap : Option Addr) (n c : Nat) (xs : List UInt8) (w : World) (h : KoP g lo s S w) (hc : s.calls ≤ 1099511627776) (hz : s.took.length + n ≤ 140737488355328) (hp : Sl Bf w ap n c xs) (hg : ∀ b o, ap = some ⟨b, o, none⟩ → 0 < n → ¬ S b) :
    Calls Try.prog 23 #[.pointer (some ⟨g, 0, none⟩), .slice ap n c] w fun e w' => e = .returned (.tuple #[.int .i64 (oddW.num s xs), .int .i64 (oddW.er s xs)]) ∧ ∃ S', KoP g lo (oddW.nxt s xs) S' w' ∧ (∀ j, S' j → S j ∨ w.heap.size ≤ j) ∧ Turns S w w' := by
  obtain ⟨vn, ve, vt, vs, ss, hb, h1, h2, h3, h4, h5, h6, h7, h8⟩ := h.blk
  obtain rfl : xs.length = n := hp.len
  obtain ⟨at', nt, ct, rfl, zt⟩ := h6.slN
  obtain ⟨as', cs', rfl, -⟩ := h3.slZ
  have hnt : s.took.length = nt := zt.len
  have hgl := (h.inS g h.own).1
  have hgw := (h.inS g h.own).2
  have c2 : w.cell? ⟨g, 2, none⟩ = some (.int .i64 (s.calls : Nat)) := cell_of hb 2 rfl
  have f2 : w.frozen? ⟨g, 2, none⟩ = false := free_block hb 2
  have hset : (w.setCell ⟨g, 2, none⟩ (.int .i64 ((s.calls : Int) + 1))).heap[g]? = some (.cells (kocells vn ve (s.calls + 1) (.slice at' nt ct) (.slice as' ss.length cs')) 50 (0, 0)) := set_block (i := 2) hb (.int .i64 ((s.calls : Int) + 1))
  have TS := Lib.hid (Turns.set (S := S) w (b := g) (i := 2) h.own (.int .i64 ((s.calls : Int) + 1)))
  have tg : ∀ j, Value.ownBlock (.slice at' nt ct) = some j → (w.setCell ⟨g, 2, none⟩ (.int .i64 ((s.calls : Int) + 1))).heap[j]? = w.heap[j]? := fun j hj => Below.heap_setCell _ _ _ _ (h7 j hj).2
  have SET := Lib.hid hset
  have d4 : (w.setCell ⟨g, 2, none⟩ (.int .i64 ((s.calls : Int) + 1))).cell? ⟨g, 4, none⟩ = some (.bool true) := cell_of hset 4 rfl
  have hz1 : (w.setCell ⟨g, 2, none⟩ (.int .i64 ((s.calls : Int) + 1))).heap.size = w.heap.size := by simp
  have tb : ∀ j, S j → lo ≤ j := fun j hj => (h.inS j hj).1
  have TB := Lib.hid tb
  have O3 := Lib.hid (show OwT fZs (w.setCell ⟨g, 2, none⟩ (.int .i64 ((s.calls : Int) + 1))) lo 3 (.slice as' ss.length cs') ss from h3.of_block fun j hj => Below.heap_setCell _ _ _ _ (h5 j hj).2)
  have O6 := Lib.hid (show OwT fB (w.setCell ⟨g, 2, none⟩ (.int .i64 ((s.calls : Int) + 1))) lo 5 (.slice at' nt ct) s.took from h6.of_block tg)
  have XP := Lib.hid (show Sl Bf (w.setCell ⟨g, 2, none⟩ (.int .i64 ((s.calls : Int) + 1))) ap xs.length c xs from hp.turns TS.out fun b o e hn0 e2 => hg b o e hn0 e2)
  have r1 : IntKind.i64.wrap ((s.calls : Int) + 1) = (s.calls : Int) + 1 := IntWalk.i64_in _ (by omega)
  have H := Lib.hid h; have H1 := Lib.hid h1; have H2 := Lib.hid h2; have H4 := Lib.hid h4; have H5 := Lib.hid h5; have H7 := Lib.hid h7; have H8 := Lib.hid h8; have HG := Lib.hid hg; have HNT := Lib.hid hnt
  clear hb h1 h2 h3 h4 h5 h6 h7 h8 h hp hg zt hset tg tb hnt
  go_enter Try.func23, Try.ntmps23
  go_upto_region 3 with (fail)
  generalize w.setCell ⟨g, 2, none⟩ (.int .i64 ((s.calls : Int) + 1)) = W at *
  have HZ1 := Lib.hid hz1
  clear c2 f2 hz1
  have c7 : W.cell? ⟨g, 7, none⟩ = some (.slice as' ss.length cs') := cell_of SET.out 7 rfl
  have LIT := Lib.hid (Sl.lit (f := fZ) W 3 #[.int .i64 (xs.length : Nat)] [(xs.length : Int)] 1 rfl rfl).toT
  have BA := Lib.hid ((Below.refl W.heap.size W).alloc (Nat.le_refl _) (.cells #[.int .i64 (xs.length : Nat)] 3))
  go_upto_region 4 with (at_builtin; refine wpList_appT eltTZ rfl (.tmp 24) (.tmp 27) rfl lo _ ss (by rfl) (O3.out.alloc _) _ 1 1 [(xs.length : Int)] (by rfl) LIT.out (by have := H4.out; unfold maxLen; omega) (by have := H4.out; omega) (by have := HZ1.out; simp; omega) _ rfl ?_; intro v2 w2 h2 hg2 hv2 hb2; obtain ⟨a2, n2, c2, rfl⟩ : ∃ a n c, v2 = .slice a n c := (by obtain ⟨a, c, e, _⟩ := h2.slZ; exact ⟨_, _, _, e⟩); have BE := (Turns.of_below (S := fun j => Value.ownBlock (.slice as' ss.length cs') = some j) BA.out).trans (T := fun j => Value.ownBlock (.slice as' ss.length cs') = some j) (Turns.of_grown hg2 fun j e => e) (fun _ _ e => e); have OW2 := Lib.hid h2; have V2 := Lib.hid hv2; have HB2 := Lib.hid (BE.heap SET.out (fun e => (H5.out _ e).2 rfl)); have s7 := cell_of HB2.out 7 rfl; have f7 := free_block HB2.out 7; have BE2 := Lib.hid BE; clear h2 hg2 hv2 hb2 BE)
  have hsz1 : (W.alloc (.cells #[.int .i64 (xs.length : Nat)] 3)).heap.size = W.heap.size + 1 := by simp
  have hW := HZ1.out
  have hv2 : ∀ j, Value.ownBlock (.slice a2 n2 c2) = some j → Value.ownBlock (.slice as' ss.length cs') = some j ∨ w.heap.size ≤ j := fun j hj => by
    rcases V2.out with e | e
    · exact .inl (e ▸ hj)
    · rw [e] at hj; injection hj with hj; exact .inr (by omega)
  have hv2g : ∀ j, Value.ownBlock (.slice a2 n2 c2) = some j → j ≠ g := fun j hj e => by
    rcases hv2 j hj with h | h
    · exact (H5.out j h).2 e
    · omega
  have TA := Lib.hid ((TS.out.trans (T := fun j => Value.ownBlock (.slice as' ss.length cs') = some j) BE2.out fun j _ e => (H5.out j e).1).trans (T := S) (Turns.set (S := S) w2 (b := g) (i := 7) H.out.own (.slice a2 n2 c2)) fun _ _ e => e)
  have NB := Lib.hid (show (w2.setCell ⟨g, 7, none⟩ (.slice a2 n2 c2)).heap[g]? = some (.cells (kocells vn ve (s.calls + 1) (.slice at' nt ct) (.slice a2 n2 c2)) 50 (0, 0)) from set_block (i := 7) HB2.out (.slice a2 n2 c2))
  have NO := Lib.hid (show OwT fZs (w2.setCell ⟨g, 7, none⟩ (.slice a2 n2 c2)) lo 3 (.slice a2 n2 c2) (ss ++ [(xs.length : Int)]) from OW2.out.of_block fun j hj => Below.heap_setCell _ _ _ _ (hv2g j hj))
  have N6 := Lib.hid (show OwT fB (w2.setCell ⟨g, 7, none⟩ (.slice a2 n2 c2)) lo 5 (.slice at' nt ct) s.took from (O6.out.turns BE2.out fun j hj e => H8.out j hj e).of_block fun j hj => Below.heap_setCell _ _ _ _ (H7.out j hj).2)
  have NX := Lib.hid (show Sl Bf (w2.setCell ⟨g, 7, none⟩ (.slice a2 n2 c2)) ap xs.length c xs from (XP.out.turns BE2.out fun b o e hn0 e2 => HG.out b o e hn0 (H5.out b e2).1).of_block fun b o e hn0 => Below.heap_setCell _ _ _ _ (show b ≠ g from fun e2 => HG.out b o e hn0 (e2 ▸ H.out.own)))
  have HV2 := Lib.hid hv2
  have HV2G := Lib.hid hv2g
  clear BE2 HB2 OW2 V2 s7 f7 c7 hv2 hv2g hsz1 O3 O6 XP SET BA LIT hW HZ1 d4
  generalize w2.setCell ⟨g, 7, none⟩ (.slice a2 n2 c2) = W2 at *
  have N1 := Lib.hid (H1.out.turns TA.out TB.out)
  have N2 := Lib.hid (H2.out.turns TA.out TB.out)
  obtain ⟨z, hzz⟩ : ∃ z, numO s.n s.calls (xs.length : Nat) = z := ⟨_, rfl⟩
  obtain ⟨er, hee⟩ : ∃ z, erO s.n s.e s.calls 0 = z := ⟨_, rfl⟩
  obtain ⟨k, hk⟩ : ∃ k, cl z xs.length = k := ⟨_, rfl⟩
  have TO := Lib.hid (fun (V : World) (hV : Drw W2 V) => show Calls Try.prog 36 #[vn, ve, .int .i64 ((s.calls : Int) + 1), .int .i64 (xs.length : Nat), .int .i64 0] V (fun r w' => r = .returned (.tuple #[.int .i64 z, .int .i64 er]) ∧ Drw V w') from by
    have := rtold_any lo vn ve s.n s.e s.calls (xs.length : Nat) 0 V (N1.out.turns (.of_below hV.below) (fun _ e => e.elim) (T := fun _ => False)) (N2.out.turns (.of_below hV.below) (fun _ e => e.elim) (T := fun _ => False)) (by omega)
    rwa [hzz, hee] at this)
  have hkl : k ≤ xs.length := by rw [← hk]; exact cl_le _ _
  have hkm : max 0 (min z (xs.length : Int)) = (k : Int) := by rw [← hk]; exact (cl_cast _ _).symm
  have ZZ := Lib.hid (And.intro hzz (And.intro hee hk))
  have hcut := fun V : World => run_cutto eltB V ap xs.length c .i64 k (by have := NX.out.le; omega)
  have e2 : W2.cell? ⟨g, 2, none⟩ = some (.int .i64 ((s.calls : Int) + 1)) := cell_of NB.out 2 (v := .int .i64 ((s.calls + 1 : Nat) : Int)) rfl
  have e5 := cell_of NB.out 5 (v := vn) rfl
  have e6 := cell_of NB.out 6 (v := ve) rfl
  clear hzz hee hk
  go_cut [6, 7] (fun a b wx => a = .int .i64 z ∧ b = .int .i64 er ∧ Drw W2 wx)
  case first =>
    go_quiet ((go_at_call 36; exact Calls.quiet_of_drw (TO.out _ (by first | exact (Drw.refl _).more _ | exact ((Drw.refl _).more _).more _))))
    go_wp2_with fail
    go_meet
    exact ⟨rfl, rfl, by first | exact (Drw.refl _).more _ | exact ((Drw.refl _).more _).more _ | exact Drw.refl _⟩
  obtain ⟨rfl, rfl, hcw⟩ := hcut
  have DB := Lib.hid hcw.below
  have SET := Lib.hid (blk_keep NB.out DB.out)
  have HT := Lib.hid (N6.out.keep DB.out)
  have OS := Lib.hid (NO.out.keep DB.out)
  have XK := Lib.hid ((NX.out.keep DB.out).upto k hkl)
  have TV := Lib.hid (TA.out.trans_below DB.out)
  clear hcw DB NB N6 NO NX TA TO e2 e5 e6
  obtain ⟨V, hV⟩ : ∃ V, wc = V := ⟨_, rfl⟩
  rw [hV] at SET HT OS XK TV ⊢
  clear hV
  have s3 : V.cell? ⟨g, 3, none⟩ = some (.slice at' nt ct) := cell_of SET.out 3 rfl
  have hVl : lo ≤ V.heap.size := by have := TV.out.size; omega
  have GB := Lib.hid (fun (V' w3 : World) (hg3 : V'.grownBy w3 (Value.ownBlock (.slice at' nt ct))) (hV : V'.heap = V.heap) => (show w3.heap[g]? = V.heap[g]? ∧ w3.cell? ⟨g, 3, none⟩ = some (.slice at' nt ct) ∧ w3.frozen? ⟨g, 3, none⟩ = false from by
    have e : w3.heap[g]? = V.heap[g]? := by
      rw [hg3.block g (by rw [hV]; exact (Array.getElem?_eq_some_iff.1 SET.out).1) (fun e => (H7.out g e.symm).2 rfl), hV]
    exact ⟨e, cell_of (e.trans SET.out) 3 rfl, free_block (e.trans SET.out) 3⟩))
  go_wp2_with fail
  go_region_law (refine step_appT eltTB rfl (.tmp 53) (.tmp 60) rfl lo _ s.took (by simp [Act.eval, Act.put]) HT.out ap k c (xs.take k) (by simp [Act.eval, Act.put]) XK.out.toT (by unfold maxLen; omega) (by omega) (by simp <;> omega) (s.took ++ xs.take k) rfl ?_; intro v3 w3 h3 hg3 hv3 hb3; obtain ⟨a3, n3, c3, rfl, z3⟩ := h3.slN; have H3 := Lib.hid h3; have G3 := Lib.hid hg3; have V3 := Lib.hid hv3; obtain ⟨gb1, gb2, gb3⟩ := GB.out _ w3 hg3 rfl; have GB3 := Lib.hid gb1; clear h3 hg3 hv3 hb3 z3 gb1)
  all_goals
    go_wp2_with fail
    go_ret2
    have hb5 := set_block (i := 3) (GB3.out.trans SET.out) (.slice a3 n3 c3)
    have hVz := TV.out.size
    have hv3 : ∀ j, Value.ownBlock (.slice a3 n3 c3) = some j → Value.ownBlock (.slice at' nt ct) = some j ∨ j = V.heap.size := fun j hj => by
      rcases V3.out with e | e
      · exact .inl (e ▸ hj)
      · rw [e] at hj; injection hj with hj; exact .inr (by rw [← hj]; rfl)
    have hng : ∀ j, Value.ownBlock (.slice a3 n3 c3) = some j → j ≠ g := fun j hj e => by
      rcases hv3 j hj with h | h
      · exact (H7.out j h).2 e
      · omega
    have hOSl := OS.out.lt
    have h2not : ∀ j, Value.ownBlock (.slice a2 n2 c2) = some j → Value.ownBlock (.slice at' nt ct) ≠ some j := fun j hj e => by
      rcases HV2.out j hj with h | h
      · exact H8.out j e h
      · have := (H.out.inS j (H7.out j e).1).2; omega
    have t0 : Turns S w V.drew := TV.out.trans_below (show Below V.heap.size V V.drew from (Below.refl _ _).drew)
    have t1 : Turns S w w3 := t0.trans (T := S) (.of_grown G3.out fun j e => (H7.out j e).1) fun _ _ e => e
    have t2 : Turns S w (w3.setCell ⟨g, 3, none⟩ (.slice a3 n3 c3)) := t1.trans (T := S) (Turns.set w3 H.out.own _) fun _ _ e => e
    have hz3 : w.heap.size ≤ w3.heap.size := t1.size
    obtain ⟨z1, z2, z4⟩ := ZZ.out
    refine ⟨by show _ = Ending.returned (.tuple #[.int .i64 (numO s.n s.calls (xs.length : Nat)), .int .i64 (erO s.n s.e s.calls 0)]); rw [z1, z2]; rfl, fun j => S j ∨ Value.ownBlock (.slice a3 n3 c3) = some j ∨ Value.ownBlock (.slice a2 n2 c2) = some j,
      ⟨⟨vn, ve, .slice a3 n3 c3, .slice a2 n2 c2, ss ++ [(xs.length : Int)], hb5, H1.out.turns t2 TB.out, H2.out.turns t2 TB.out, ?_, by rw [List.length_append, H4.out]; rfl, fun j hj => ⟨.inr (.inr hj), HV2G.out j hj⟩, ?_, fun j hj => ⟨.inr (.inl hj), hng j hj⟩, fun j hj e => ?_⟩, .inl H.out.own, fun j hj => ?_⟩, fun j hj => ?_, t2⟩
    · refine (show OwT fZs w3 lo 3 (.slice a2 n2 c2) (ss ++ [(xs.length : Int)]) from ?_).of_block fun j hj => Below.heap_setCell _ _ _ _ (HV2G.out j hj)
      exact (show OwT fZs V.drew lo 3 (.slice a2 n2 c2) (ss ++ [(xs.length : Int)]) from OS.out).of_block fun j hj => G3.out.block j (hOSl j hj).2 (fun e => h2not j hj e.symm)
    · show OwT fB _ lo 5 (.slice a3 n3 c3) (s.took ++ xs.take (cl (numO s.n s.calls (xs.length : Nat)) xs.length))
      rw [z1, z4]
      exact H3.out.of_block fun j hj => Below.heap_setCell _ _ _ _ (hng j hj)
    · rcases hv3 j hj with h | h
      · exact h2not j e h
      · have := (hOSl j e).2; omega
    · rcases hj with hj | hj | hj
      · exact ⟨(H.out.inS j hj).1, Nat.lt_of_lt_of_le (H.out.inS j hj).2 t2.size⟩
      · have := H3.out.lt j hj
        exact ⟨this.1, by simpa using this.2⟩
      · have q := hOSl j hj
        have q2 : V.heap.size ≤ w3.heap.size := G3.out.size
        exact ⟨q.1, by simp; omega⟩
    · rcases hj with hj | hj | hj
      · exact .inl hj
      · rcases hv3 j hj with h | h
        · exact .inl (H7.out j h).1
        · exact .inr (by omega)
      · rcases HV2.out j hj with h | h
        · exact .inl (H5.out j h).1
        · exact .inr h
theorem koddL (g lo : Nat) : WrtL oddW (.pointer (some ⟨g, 0, none⟩)) lo 1099511627776 140737488355328 (KoP g lo) where
  frame _ _ _ _ _ h ht hd hT := h.turns ht hd hT
  inS _ _ _ h := h.inS
  write t S w ap n c xs h hc hr hn hx hg := rowrite_any g lo t S ap n c xs w h (Nat.le_of_lt hc) hr hx hg
end Go.Proofs.Ytjkgncogpefnbaa

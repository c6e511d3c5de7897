/- Sources that go as they are told, in memory: contracts of Read, Calls, Left. Conditions: numbers within reach. -/
import Derived.Test.YtpenbaafhbbmhaaPipeNext
import Derived.Shelf.Spec.SlicesInsert
import Derived.Laws.CopyOwn
import Derived.Deep.RegionLaw
namespace Go.Proofs.Ytpenbaafhbbmhaa
open Go.RowKit
set_option maxRecDepth 100000
set_option linter.unusedVariables false

/-- copy onto the head of a block of bytes -/
theorem run_copyB (w : World) (ty : TypeId) (g n c : Nat) (zs : List UInt8) (sp : Option Addr) (sn sc : Nat) (xs : List UInt8) (hg : w.heap[g]? = some (.cells (zs.map Bf).toArray 5 (0, 0))) (hn : n ≤ zs.length) (hs : Sl Bf w sp sn sc xs) :
    ∃ w', (Builtin.copy_ #[22, 22] ty #[.slice (some ⟨g, 0, none⟩) n c, .slice sp sn sc]).run Try.prog w = .ok (goInt (Nat.min sn n : Nat)) w' ∧ w'.heap[g]? = some (.cells ((xs.take n ++ zs.drop (xs.take n).length).map Bf).toArray 5 (0, 0)) ∧ Turns (fun j => j = g) w w' := by
  obtain rfl : xs.length = sn := hs.len
  have hsz : (Try.prog.info? 5).map (·.size) = some 1 := by kernel_rfl
  have hl : (xs.take n).length = Nat.min xs.length n := by rw [List.length_take]; exact Nat.min_comm _ _
  by_cases h0 : (xs.take n).length = 0
  · have hr := run_copy_none (P := Try.prog) w 22 22 ty 5 (some ⟨g, 0, none⟩) sp n c xs.length sc Try.underlying22 hsz (by rw [← hl]; exact h0)
    refine ⟨w, by rw [hr, ← hl, h0]; rfl, ?_, .refl _ _⟩
    rw [h0, List.eq_nil_of_length_eq_zero h0]; simpa using hg
  · cases sp with
    | none => have := hs.none_eq.2.2; subst this; simp at h0
    | some ad =>
      have hsrc := (src_of hs).2 ad rfl
      have hr := run_copy_row (P := Try.prog) w 22 22 ty 5 g 0 n c ad xs.length sc (zs.map Bf).toArray 5 ((xs.take n).map Bf) Try.underlying22 hsz hg (by rw [List.length_map]; exact hl)
        (fun j v hj => hsrc j v (by
          rw [List.getElem?_map] at hj ⊢
          rw [List.getElem?_take] at hj
          split at hj
          · exact hj
          · cases hj)) (by simp; omega) (bf_one _)
      rw [List.length_map, hl] at hr
      refine ⟨_, hr, ?_, ⟨rfl, rfl, rfl, by simp [World.setRow], fun j hj hne => setRow_other w g j _ hne⟩⟩
      rw [setRow_heap w g _ _ _ _ hg]
      congr 2
      apply Array.ext'
      rw [hl]
      simp [List.map_drop]
theorem step_copyB {ops : Array Oper} {o : Oper} {a : Act} {w : World} {K : Act → World → Prop} {Q : Exit → Act → World → Prop} {E : Prop} (hgd : o.guard = none) (d x : Operand) (ho : o.op = Op.call { callee := Callee.builtin Builtin.copy, args := #[d, x], argTypes := #[22, 22] })
    (g n c : Nat) (zs : List UInt8) (sp : Option Addr) (sn sc : Nat) (xs : List UInt8) (hd : a.eval d = .slice (some ⟨g, 0, none⟩) n c) (hx : a.eval x = .slice sp sn sc) (hg : w.heap[g]? = some (.cells (zs.map Bf).toArray 5 (0, 0))) (hn : n ≤ zs.length) (hs : Sl Bf w sp sn sc xs) (m : Nat) (hm : Nat.min sn n = m)
    (h : ∀ w', w'.heap[g]? = some (.cells ((xs.take n ++ zs.drop (xs.take n).length).map Bf).toArray 5 (0, 0)) → Turns (fun j => j = g) w w' → K (a.put o.dst (goInt (m : Nat))) w') :
    if Region.wanted o (yielded ops a.tmps) = true then Oper.wp Try.prog o a w K Q else E := by
  subst hm
  obtain ⟨w', hr, h1, h2⟩ := run_copyB w o.type g n c zs sp sn sc xs hg hn hs
  exact step_copy_runI hgd d x _ _ ho _ _ hd hx hr (h w' h1 h2)
/-- a slice's value that reads so, its block in S, not g -/
def Lsv {α : Type} (f : α → Value) (w : World) (S : Nat → Prop) (g : Nat) (v : Value) (xs : List α) : Prop := ∃ a n c, v = .slice a n c ∧ Sl f w a n c xs ∧ ∀ b o, a = some ⟨b, o, none⟩ → 0 < n → S b ∧ b ≠ g
theorem Lsv.turns {α : Type} {f : α → Value} {w w' : World} {S T : Nat → Prop} {g : Nat} {v : Value} {xs : List α} (h : Lsv f w S g v xs) (ht : Turns T w w') (hd : ∀ j, S j → j ≠ g → ¬ T j) : Lsv f w' S g v xs := by
  obtain ⟨a, n, c, rfl, hs, hb⟩ := h
  exact ⟨a, n, c, rfl, hs.turns ht fun b o e hn => hd b (hb b o e hn).1 (hb b o e hn).2, hb⟩
/-- a source in block g, all its blocks in S -/
structure SrcP (g lo : Nat) (s : Src) (S : Nat → Prop) (w : World) : Prop where
  blk : ∃ vm vl, w.heap[g]? = some (.cells #[vm, .int .i64 s.fail, .int .i64 (s.calls : Nat), vl, .bool s.eager] 102 (0, 0)) ∧ Lsv fZ w S g vm s.most ∧ Lsv Bf w S g vl s.left
  own : S g
  inS : ∀ j, S j → lo ≤ j ∧ j < w.heap.size
  ints : Ints s.most
theorem SrcP.turns {g lo : Nat} {s : Src} {S T : Nat → Prop} {w w' : World} (h : SrcP g lo s S w) (ht : Turns T w w') (hd : ∀ j, S j → ¬ T j) : SrcP g lo s S w' := by
  obtain ⟨vm, vl, hb, h1, h2⟩ := h.blk
  exact ⟨⟨vm, vl, ht.heap hb (hd g h.own), h1.turns ht fun j hj _ => hd j hj, h2.turns ht fun j hj _ => hd j hj⟩, h.own, fun j hj => ⟨(h.inS j hj).1, Nat.lt_of_lt_of_le (h.inS j hj).2 ht.size⟩, h.ints⟩
theorem SrcP.keep {g lo : Nat} {s : Src} {S : Nat → Prop} {w w' : World} (h : SrcP g lo s S w) (hb : Below w.heap.size w w') : SrcP g lo s S w' := h.turns (T := fun _ => False) (.of_below hb) fun _ _ e => e
/-- it has gone on -/
theorem SrcP.upd {g lo gp : Nat} {s s' : Src} {S : Nat → Prop} {w w1 : World} (h : SrcP g lo s S w) (ht : Turns (fun j => j = g ∨ j = gp) w w1) (hg : ¬ S gp) (e1 : s'.most = s.most) (e2 : s'.fail = s.fail) (e3 : s'.eager = s.eager) {vm vl : Value}
    (hb : w1.heap[g]? = some (.cells #[vm, .int .i64 s.fail, .int .i64 (s'.calls : Nat), vl, .bool s.eager] 102 (0, 0))) (hm : Lsv fZ w S g vm s.most) (hl : Lsv Bf w1 S g vl s'.left) : SrcP g lo s' S w1 :=
  ⟨⟨vm, vl, by rw [e2, e3]; exact hb, by rw [e1]; exact hm.turns ht fun j hj hne e => by rcases e with e | e; (exact hne e); (exact hg (e ▸ hj)), hl⟩, h.own, fun j hj => ⟨(h.inS j hj).1, Nat.lt_of_lt_of_le (h.inS j hj).2 ht.size⟩, by rw [e1]; exact h.ints⟩
theorem Src.next_most (s : Src) (n : Nat) : (s.next n).most = s.most := rfl
theorem Src.bad {s : Src} {n : Nat} (h : badB s.fail s.calls = true) : s.gives n = [] ∧ s.err n = 32 ∧ s.rest n = s.left := by
  have hb : s.broken = true := h
  unfold Src.gives Src.err Src.rest
  rw [hb]; exact ⟨rfl, rfl, rfl⟩
theorem Src.good {s : Src} {n : Nat} (h : badB s.fail s.calls = false) : s.gives n = s.left.take (mostN s.most (s.calls + 1) n) ∧ s.rest n = s.left.drop (mostN s.most (s.calls + 1) n) ∧ s.err n = (if s.left = [] then 31 else if s.eager ∧ s.left.drop (mostN s.most (s.calls + 1) n) = [] then 31 else 0) := by
  have hb : s.broken = false := h
  unfold Src.gives Src.err Src.rest
  rw [hb]; exact ⟨rfl, rfl, rfl⟩
theorem calls_any (g lo : Nat) (s : Src) (S : Nat → Prop) (w : World) (h : SrcP g lo s S w) :
    Calls Try.prog 13 #[.pointer (some ⟨g, 0, none⟩)] w fun e w' => e = .returned (.int .i64 (s.calls : Nat)) ∧ w = w' := by
  obtain ⟨vm, vl, hb, h1, h2⟩ := h.blk
  have c2 := cell_of hb 2 rfl
  clear hb h1 h2 h
  go_enter Try.func13, Try.ntmps13
  go_wp2_with fail
  go_ret
  exact ⟨rfl, rfl⟩
theorem left_any (g lo : Nat) (s : Src) (S : Nat → Prop) (w : World) (h : SrcP g lo s S w) :
    Calls Try.prog 14 #[.pointer (some ⟨g, 0, none⟩)] w fun e w' => e = .returned (.int .i64 (s.left.length : Nat)) ∧ w = w' := by
  obtain ⟨vm, vl, hb, h1, ⟨a, n, c, rfl, hs, _⟩⟩ := h.blk
  obtain rfl : s.left.length = n := hs.len
  have c3 := cell_of hb 3 rfl
  clear hb h1 hs h
  go_enter Try.func14, Try.ntmps14
  go_wp2_with fail
  go_ret
  exact ⟨rfl, rfl⟩
/-- behind Read -/
def RdPostS (g lo : Nat) (s : Src) (S : Nat → Prop) (w : World) (gp n : Nat) (zs : List UInt8) (r : Ending) (w' : World) : Prop :=
  r = .returned (.tuple #[.int .i64 ((s.gives n).length : Nat), .int .i64 (s.err n : Nat)]) ∧ SrcP g lo (s.next n) S w' ∧ Turns (fun j => j = g ∨ j = gp) w w' ∧ w'.heap[gp]? = some (.cells ((s.gives n ++ zs.drop (s.gives n).length).map Bf).toArray 5 (0, 0))
set_option maxRecDepth 100000 in
set_option maxHeartbeats 2000000 in
theorem sread_any (g lo : Nat) (s : Src) (S : Nat → Prop) (gp n c : Nat) (zs : List UInt8) (w : World) (h : SrcP g lo s S w) (hc : s.calls ≤ 4611686018427387904) (hn : n ≤ zs.length) (hnc : n ≤ c) (hz : n ≤ 140737488351232) (hp : w.heap[gp]? = some (.cells (zs.map Bf).toArray 5 (0, 0))) (hg : ¬ S gp) :
    Calls Try.prog 75 #[.pointer (some ⟨g, 0, none⟩), .slice (some ⟨gp, 0, none⟩) n c] w (RdPostS g lo s S w gp n zs) := by
  obtain ⟨vm, vl, hb, ⟨am, nm, cm, rfl, hm, hmS⟩, ⟨al, nl, cl, rfl, hl, hlS⟩⟩ := h.blk
  obtain rfl : s.left.length = nl := hl.len
  have NX := Lib.hid (next_any g _ 102 am nm cm s.most s.fail s.calls n w hb rfl rfl rfl hm (fun b o e hn0 => (hmS b o e hn0).2) h.ints hc (by omega))
  have hset := set_block (i := 2) hb (.int .i64 ((s.calls : Int) + 1))
  have hgp : g ≠ gp := fun e => hg (e ▸ h.own)
  have H := Lib.hid h
  have T1 := Lib.hid (Turns.set (S := fun j => j = g) w (b := g) (i := 2) rfl (.int .i64 ((s.calls : Int) + 1)))
  have SET := Lib.hid hset
  have HP := Lib.hid hp
  have HM := Lib.hid (And.intro hm hmS)
  have HL := Lib.hid (And.intro hl hlS)
  have HG := Lib.hid hg
  clear hb hm hmS hl hlS hset h hp hg
  by_cases hbad : badB s.fail s.calls = true
  · have HB := Lib.hid hbad
    have NX2 := NX.out
    rw [nextK_bad hbad, hbad] at NX2
    replace NX := Lib.hid NX2
    clear NX2 hbad
    go_enter Try.func75, Try.ntmps75
    go_wp2_with fail
    refine NX.out.mono ?_
    rintro e w1 ⟨rfl, hd⟩
    have D1 := Lib.hid hd
    clear hd NX
    go_wp2_with fail
    go_ret2
    obtain ⟨e1, e2, e3⟩ := Src.bad (n := n) HB.out
    have ht := D1.out.below
    have tt := (T1.out.trans_below ht).mono (T := fun j => j = g ∨ j = gp) fun j _ e => .inl e
    refine ⟨by rw [e1, e2]; rfl, H.out.upd tt HG.out rfl rfl rfl ((ht.block g (Array.getElem?_eq_some_iff.1 SET.out).1).trans SET.out) ⟨am, _, cm, rfl, HM.out.1, HM.out.2⟩ ?_, tt, by rw [e1]; exact (ht.block gp (by simp; exact (Array.getElem?_eq_some_iff.1 HP.out).1)).trans ((Below.heap_setCell _ _ _ _ (Ne.symm hgp)).trans HP.out)⟩
    show Lsv Bf _ S g _ (s.rest n)
    rw [e3]
    exact (show Lsv Bf w S g _ s.left from ⟨al, _, cl, rfl, HL.out.1, HL.out.2⟩).turns tt fun j hj hne e => by rcases e with e | e; (exact hne e); (exact HG.out (e ▸ hj))
  · have hbad : badB s.fail s.calls = false := by simpa using hbad
    obtain ⟨e1, e2, e3⟩ := Src.good (n := n) hbad
    have NX2 := NX.out
    rw [nextK_ok hbad, hbad] at NX2
    replace NX := Lib.hid NX2
    have hk := mostN_le s.most (s.calls + 1) n
    obtain ⟨k, hkk⟩ : ∃ k, mostN s.most (s.calls + 1) n = k := ⟨_, rfl⟩
    rw [hkk] at e1 e2 e3 NX hk
    have E1 := Lib.hid e1
    have E2 := Lib.hid e2
    have E3 := Lib.hid e3
    have s3 : (w.setCell ⟨g, 2, none⟩ (.int .i64 ((s.calls : Int) + 1))).cell? ⟨g, 3, none⟩ = some (.slice al s.left.length cl) := cell_of SET.out 3 rfl
    have s4 : (w.setCell ⟨g, 2, none⟩ (.int .i64 ((s.calls : Int) + 1))).cell? ⟨g, 4, none⟩ = some (.bool s.eager) := cell_of SET.out 4 rfl
    have f3 : (w.setCell ⟨g, 2, none⟩ (.int .i64 ((s.calls : Int) + 1))).frozen? ⟨g, 3, none⟩ = false := free_block SET.out 3
    clear NX2 hbad hkk e1 e2 e3
    go_enter Try.func75, Try.ntmps75
    go_wp2_with fail
    refine NX.out.mono ?_
    rintro e w1 ⟨rfl, m, rfl⟩
    clear NX
    have HPW := Lib.hid (show (w.setCell ⟨g, 2, none⟩ (.int .i64 ((s.calls : Int) + 1))).heap[gp]? = some (.cells (zs.map Bf).toArray 5 (0, 0)) from (Below.heap_setCell _ _ _ _ (Ne.symm hgp)).trans HP.out)
    have HLW := Lib.hid (show Sl Bf (w.setCell ⟨g, 2, none⟩ (.int .i64 ((s.calls : Int) + 1))) al s.left.length cl s.left from HL.out.1.turns T1.out fun b o e hn0 e2 => (HL.out.2 b o e hn0).2 e2)
    generalize w.setCell ⟨g, 2, none⟩ (.int .i64 ((s.calls : Int) + 1)) = W at *
    by_cases hl0 : s.left.length = 0
    · have hl1 : s.left = [] := List.eq_nil_of_length_eq_zero hl0
      have HL1 := Lib.hid hl1
      have t1 : ((s.left.length : Int) == 0) = true := by rw [beq_iff_eq]; omega
      have t1' : (s.left.length == 0) = true := by rw [beq_iff_eq]; exact hl0
      clear hl0 hl1
      go_wp2_with fail
      go_ret2
      have hb1 : Below W.heap.size W (W.drewN m) := keep_drewN (Below.refl _ _) m
      have tt := (T1.out.trans_below hb1).mono (T := fun j => j = g ∨ j = gp) fun j _ e => .inl e
      have q1 : s.gives n = [] := by rw [E1.out, HL1.out, List.take_nil]
      refine ⟨by rw [q1, E3.out, if_pos HL1.out]; rfl, H.out.upd tt HG.out rfl rfl rfl SET.out ⟨am, _, cm, rfl, HM.out.1, HM.out.2⟩ ?_, tt, by rw [q1]; exact HPW.out⟩
      show Lsv Bf _ S g _ (s.rest n)
      rw [E2.out, HL1.out, List.drop_nil]
      refine ⟨al, _, cl, rfl, ?_, fun b o e hn0 => absurd hn0 (by simp)⟩
      have := HLW.out
      rw [HL1.out] at this
      exact this
    · have hl1 : s.left ≠ [] := fun e => hl0 (by rw [e]; rfl)
      have HL1 := Lib.hid hl1
      have t1 : ((s.left.length : Int) == 0) = false := by rw [beq_eq_false_iff_ne]; omega
      have t1' : (s.left.length == 0) = false := by rw [beq_eq_false_iff_ne]; exact hl0
      have hcut := fun V : World => run_cutto eltB V (some ⟨gp, 0, none⟩) n c .i64 k (by omega)
      obtain ⟨q, hq⟩ : ∃ q, Nat.min s.left.length k = q := ⟨_, rfl⟩
      have hq1 : q ≤ s.left.length := hq ▸ Nat.min_le_left _ _
      have HQ := Lib.hid hq
      have hcut2 := fun V : World => run_cutfrom eltB V al s.left.length cl .i64 q hq1
      clear hl0 hl1 hq
      go_wp2_with fail
      go_region_law (refine step_copyB rfl (.tmp 30) (.tmp 34) rfl gp k c zs al s.left.length cl s.left (by simp [Act.eval]) (by simp [Act.eval]) HPW.out (by omega) HLW.out q HQ.out ?_; intro w3 h3 t3)
      have T3 := Lib.hid t3
      have H3 := Lib.hid h3
      have HB3 := Lib.hid (t3.heap (show ((W.drewN m).drew).heap[g]? = _ from SET.out) hgp)
      have c3 : w3.cell? ⟨g, 3, none⟩ = some (.slice al s.left.length cl) := cell_of HB3.out 3 rfl
      have z3 : w3.frozen? ⟨g, 3, none⟩ = false := free_block HB3.out 3
      have hb5 := set_block (i := 3) HB3.out (.slice (adv al cl q) (s.left.length - q) (cl - q))
      have HB5 := Lib.hid hb5
      have d3 : (w3.setCell ⟨g, 3, none⟩ (.slice (adv al cl q) (s.left.length - q) (cl - q))).cell? ⟨g, 3, none⟩ = some (.slice (adv al cl q) (s.left.length - q) (cl - q)) := cell_of hb5 3 rfl
      have d4 : (w3.setCell ⟨g, 3, none⟩ (.slice (adv al cl q) (s.left.length - q) (cl - q))).cell? ⟨g, 4, none⟩ = some (.bool s.eager) := cell_of hb5 4 rfl
      clear h3 t3 s3 s4 f3 hb5
      have FIN := Lib.hid (show ∀ V : World, Drw (w3.setCell ⟨g, 3, none⟩ (.slice (adv al cl q) (s.left.length - q) (cl - q))) V → SrcP g lo (s.next n) S V ∧ Turns (fun j => j = g ∨ j = gp) w V ∧ V.heap[gp]? = some (.cells ((s.gives n ++ zs.drop (s.gives n).length).map Bf).toArray 5 (0, 0)) from fun V hV => by
        have t3 := T3.out
        have tA : Turns (fun j => j = g ∨ j = gp) w w3 := ((T1.out.trans_below (show Below W.heap.size W (W.drewN m).drew from keep_drewN (keep_drewN (Below.refl _ _) m) 1)).mono (T := fun j => j = g ∨ j = gp) fun j _ e => .inl e).trans (T := fun j => j = g ∨ j = gp) (t3.mono fun j _ e => .inr e) fun _ _ e => e
        have tB := (tA.trans (T := fun j => j = g ∨ j = gp) (Turns.set (S := fun j => j = g ∨ j = gp) w3 (b := g) (i := 3) (.inl rfl) (.slice (adv al cl q) (s.left.length - q) (cl - q))) fun _ _ e => e).trans_below hV.below
        refine ⟨H.out.upd tB HG.out rfl rfl rfl ((hV.below.block g (Array.getElem?_eq_some_iff.1 HB5.out).1).trans HB5.out) ⟨am, nm, cm, rfl, HM.out.1, HM.out.2⟩ ?_, tB, ?_⟩
        · show Lsv Bf V S g _ (s.rest n)
          rw [E2.out]
          have hq2 : s.left.drop k = s.left.drop q := by
            rw [← HQ.out]
            by_cases hh : k ≤ s.left.length
            · rw [show Nat.min s.left.length k = k from Nat.min_eq_right hh]
            · rw [show Nat.min s.left.length k = s.left.length from Nat.min_eq_left (by omega), List.drop_of_length_le (by omega), List.drop_of_length_le (Nat.le_refl _)]
          rw [hq2]
          have hs3 : Sl Bf V al s.left.length cl s.left := HL.out.1.turns tB fun b o e hn0 e2 => by
            have := HL.out.2 b o e hn0
            rcases e2 with e2 | e2
            · exact this.2 e2
            · exact HG.out (e2 ▸ this.1)
          refine ⟨adv al cl q, _, _, rfl, hs3.from q hq1, fun b o e hn0 => ?_⟩
          cases al with
          | none => unfold adv at e; split at e <;> simp at e
          | some ad =>
            obtain ⟨b0, o0, e0, _⟩ := HL.out.1.lt (by omega)
            have hb0 : b = b0 := by
              unfold adv at e
              split at e
              · rw [e0] at e; injection e with e; injection e with e; exact e.symm
              · rw [e0] at e; simp only [Option.map_some, Addr.add] at e; split at e <;> (injection e with e; injection e with e; exact e.symm)
            subst hb0
            exact HL.out.2 b o0 e0 (by omega)
        · rw [hV.below.block gp (by have := (Array.getElem?_eq_some_iff.1 H3.out).1; simpa using this), Below.heap_setCell _ _ _ _ (Ne.symm hgp), H3.out, E1.out])
      have GL := Lib.hid (show (s.gives n).length = q by rw [E1.out, List.length_take, ← HQ.out]; exact Nat.min_comm _ _)
      have hdr : s.left.drop k = [] ↔ s.left.length - q = 0 := by
        have := HQ.out
        rw [List.drop_eq_nil_iff]
        have e : Nat.min s.left.length k = min s.left.length k := rfl
        omega
      obtain ⟨eg, heg⟩ : ∃ e, s.eager = e := ⟨_, rfl⟩
      rw [heg] at d4
      cases eg with
      | false =>
        have HER := Lib.hid (show s.err n = 0 by rw [E3.out, if_neg HL1.out, heg]; rfl)
        clear hdr heg T3 H3 HB3 HB5 HP HM HL H T1 SET HPW HLW
        go_wp2_with fail
        go_ret2
        exact ⟨by rw [GL.out, HER.out]; rfl, FIN.out _ (Drw.refl _)⟩
      | true =>
        by_cases h0 : s.left.length - q = 0
        · have HER := Lib.hid (show s.err n = 31 by rw [E3.out, if_neg HL1.out, heg, if_pos ⟨rfl, hdr.2 h0⟩])
          have t5 : (((s.left.length - q : Nat) : Int) == 0) = true := by rw [beq_iff_eq]; omega
          have t5' : (s.left.length - q == 0) = true := by rw [beq_iff_eq]; exact h0
          clear hdr heg h0 T3 H3 HB3 HB5 HP HM HL H T1 SET HPW HLW
          go_wp2_with fail
          go_ret2
          exact ⟨by rw [GL.out, HER.out]; rfl, FIN.out _ (Drw.refl _)⟩
        · have HER := Lib.hid (show s.err n = 0 by rw [E3.out, if_neg HL1.out, heg, if_neg fun e => h0 (hdr.1 e.2)])
          have t5 : (((s.left.length - q : Nat) : Int) == 0) = false := by rw [beq_eq_false_iff_ne]; omega
          have t5' : (s.left.length - q == 0) = false := by rw [beq_eq_false_iff_ne]; exact h0
          clear hdr heg h0 T3 H3 HB3 HB5 HP HM HL H T1 SET HPW HLW
          go_wp2_with fail
          go_ret2
          exact ⟨by rw [GL.out, HER.out]; rfl, FIN.out _ (Drw.refl _)⟩
end Go.Proofs.Ytpenbaafhbbmhaa

/- Several texts in one: RdFn, BEq, BlockRdr, EntSpoil, EntCopyZ, PairPZ. Each has its own sentence and conditions below. -/
import Derived.Test.YtljcogimeimknaaK8r
import Derived.Test.YtljcogimeimknaaK8e
import Derived.Test.YtljcogimeimknaaPairRead
import Derived.Laws.EntriesVeiled
import Derived.Test.YtljcogimeimknaaK8b
import Derived.Test.YtljcogimeimknaaK8a
import Derived.Defers
import Derived.Recover
import Derived.WalkLawsBesides
import Derived.WalkSpells
import Derived.Test.YtljcogimeimknaaK8q
import Derived.BigQuiet
import Derived.Deep.QuietTactic
import Derived.Deep.Cut
/- A reader of streams: fails, ended, body: contracts. Conditions: the reader's budget and the places within reach. -/
namespace Go.Proofs.Ytljcogimeimknaa
open Go.RowKit Go.Shelf
set_option linter.unusedVariables false
set_option linter.unusedSimpArgs false

section
variable {w : World} {lo gs g gi : Nat} {S : Nat → Prop} {lv rv : Value} {vs : List RV} {s : RS} {who : Nat → Nat}
set_option maxRecDepth 100000 in
theorem rfails_any (h : Rdp w lo gs g gi S lv rv vs s who) (e : Int) (p : Nat) :
    Calls Try.prog 82 #[.pointer (some ⟨g, 0, none⟩), .int .i64 e, .int .i64 (p : Nat)] w fun r w' => r = .returned (.tuple #[.slice none 0 0, .bool false]) ∧ Rdp w' lo gs g gi S lv rv vs ⟨s.c, 2, s.rows, e, p⟩ who ∧ Gr w w' who who := by
  have c1 := h.c1
  have c4 := h.c4
  have c5 := h.c5
  have f1 := h.free 1
  have f4 := h.free 4
  have f5 := h.free 5
  have hb := set_block (i := 5) (set_block (i := 4) h.blk (.int .i64 e)) (.int .i64 (p : Nat))
  have d1 := cell_of hb 1 (v := nextV g s.ph) rfl
  have g1 := free_block hb 1
  clear hb
  obtain ⟨q, hq⟩ : ∃ q, nextV g s.ph = .func (.func q) #[.pointer (some ⟨g, 0, none⟩)] #[] := ⟨_, rfl⟩
  rw [hq] at c1 d1
  clear hq
  have hmf : ∀ (fn : Fn) (first cap : Array Value) (w : World), (Instr.makeFunc fn first cap).run Try.prog w = .ok (.func fn first cap) w := fun _ _ _ _ => rfl
  have FIN := Lib.hid (h.updG (w' := ((w.setCell ⟨g, 4, none⟩ (.int .i64 e)).setCell ⟨g, 5, none⟩ (.int .i64 (p : Nat))).setCell ⟨g, 1, none⟩ (nextV g 2)) (lv' := lv) (ph := 2) (er := e) (pt := p) (((Turns.set (S := fun j => j = g) w (i := 4) rfl _).trans (Turns.set (S := fun j => j = g) _ (i := 5) rfl _) fun _ _ e => e).trans (Turns.set (S := fun j => j = g) _ (i := 1) rfl _) fun _ _ e => e) (set_block (set_block (set_block h.blk _) _) _))
  clear h
  go_enter Try.func82, Try.ntmps82
  go_wp2_with fail
  go_ret2
  exact ⟨rfl, FIN.out⟩
theorem rended_any (w : World) (g : Nat) : Calls Try.prog 100 #[.pointer (some ⟨g, 0, none⟩)] w fun r w' => r = .returned (.tuple #[.slice none 0 0, .bool false]) ∧ w = w' := by
  go_enter Try.func100, Try.ntmps100
  go_wp2_with fail
  go_ret2
  exact ⟨rfl, rfl⟩

theorem src_capR {L : Nat} {s : Src} (h : SrcR L s) (hL : L ≤ 140737488351232) (n : Nat) : Caps srcM s n :=
  .inr ⟨fun s => s.left.length, fun s n h1 h2 => srcM.volS s n h1 h2, Nat.le_trans h hL⟩
/-- behind the In's Bytes -/
def RBPost (lo gs g gi : Nat) (lv rv : Value) (vs : List RV) (s : RS) (who : Nat → Nat) (w : World) (X : List UInt8 × Int × CIn Src) (r : Ending) (w' : World) : Prop :=
  ∃ bv S' who', r = .returned (.tuple #[bv, .int .i64 X.2.1]) ∧ OwT fB w' w.heap.size 5 bv X.1 ∧ (∀ j, bv.ownBlock = some j → who' j = 0) ∧ Rdp w' lo gs g gi S' lv rv vs { s with c := X.2.2 } who' ∧ Gr w w' who who'
variable {L Bd : Nat}
theorem inBytes_any (h : Rdp w lo gs g gi S lv rv vs s who) (hO : OkayC srcM (SrcR L) mxI Bd s.c) (hBd : Bd + 400 ≤ 4611686018427387904) (hL : L ≤ 140737488351232) (n : Nat) (hn : n ≤ 9223372036854775807) :
    Calls Try.prog 81 #[.pointer (some ⟨gi, 0, none⟩), .int .i64 (n : Nat)] w (RBPost lo gs g gi lv rv vs s who w (bytesM srcM mxI (n : Int) s.c)) := by
  refine (cbytes_any (srcR gs lo) 59 (fun w => methR gs w) (enters_of Try.func151 (by kernel_rfl) rfl) src_muR gi mxI (n : Int) s.c S w (SrcR L) Bd hO h.io h.st h.ni (Nat.zero_le _) (by omega) (by decide) (by omega) (fun _ _ => src_capR hO.p hL _)).mono ?_
  rintro r w' ⟨bv, S', rfl, ho, hn2, ha⟩
  obtain ⟨who', hR, hG, hz⟩ := h.newI ha
  exact ⟨bv, S', who', rfl, ho, fun j hj => hz j (ho.lt j hj).1 (hn2 j hj), hR, hG⟩
theorem inByte_any (h : Rdp w lo gs g gi S lv rv vs s who) (hO : OkayC srcM (SrcR L) mxI Bd s.c) (hBd : Bd + 400 ≤ 4611686018427387904) :
    Calls Try.prog 102 #[.pointer (some ⟨gi, 0, none⟩)] w fun r w' => ∃ S' who', r = .returned (.tuple #[.int .u8 (B (byteM srcM mxI s.c).1), .int .i64 (byteM srcM mxI s.c).2.1]) ∧ Rdp w' lo gs g gi S' lv rv vs { s with c := (byteM srcM mxI s.c).2.2 } who' ∧ Gr w w' who who' := by
  refine (cbyte_any (srcR gs lo) 59 (fun w => methR gs w) (enters_of Try.func151 (by kernel_rfl) rfl) src_muR gi mxI s.c S w (SrcR L) (src_leR L) Bd hO h.io h.st h.ni (Nat.zero_le _) (by decide) (by omega)).mono ?_
  rintro r w' ⟨S', rfl, ha⟩
  obtain ⟨who', hR, hG, -⟩ := h.newI ha
  exact ⟨S', who', rfl, hR, hG⟩
theorem inNum_any (h : Rdp w lo gs g gi S lv rv vs s who) (hO : OkayC srcM (SrcR L) mxI Bd s.c) (hBd : Bd + 400 ≤ 4611686018427387904) :
    Calls Try.prog 104 #[.pointer (some ⟨gi, 0, none⟩)] w fun r w' => ∃ S' who', r = .returned (.tuple #[.int .u64 ((numM srcM mxI s.c).1 : Nat), .int .i64 (numM srcM mxI s.c).2.1]) ∧ Rdp w' lo gs g gi S' lv rv vs { s with c := (numM srcM mxI s.c).2.2 } who' ∧ Gr w w' who who' := by
  refine (cnum_any (srcR gs lo) 59 (fun w => methR gs w) (enters_of Try.func151 (by kernel_rfl) rfl) src_muR gi mxI s.c S w (SrcR L) (src_leR L) Bd hO h.io h.st h.ni (Nat.zero_le _) (by decide) (by omega)).mono ?_
  rintro r w' ⟨S', rfl, ha⟩
  obtain ⟨who', hR, hG, -⟩ := h.newI ha
  exact ⟨S', who', rfl, hR, hG⟩
theorem inEnd_any (h : Rdp w lo gs g gi S lv rv vs s who) (hO : OkayC srcM (SrcR L) mxI Bd s.c) (hBd : Bd + 400 ≤ 4611686018427387904) :
    Calls Try.prog 118 #[.pointer (some ⟨gi, 0, none⟩)] w fun r w' => ∃ S' who', r = .returned (.tuple #[.bool (endM srcM s.c).1, .int .i64 (endM srcM s.c).2.1]) ∧ Rdp w' lo gs g gi S' lv rv vs { s with c := (endM srcM s.c).2.2 } who' ∧ Gr w w' who who' := by
  refine (cend_any (srcR gs lo) 59 (fun w => methR gs w) (enters_of Try.func151 (by kernel_rfl) rfl) src_muR gi mxI s.c S w (SrcR L) (src_leR L) Bd hO h.io h.st h.ni (Nat.zero_le _) (by omega)).mono ?_
  rintro r w' ⟨S', rfl, ha⟩
  obtain ⟨who', hR, hG, -⟩ := h.newI ha
  exact ⟨S', who', rfl, hR, hG⟩
theorem inAt_any (h : Rdp w lo gs g gi S lv rv vs s who) :
    Calls Try.prog 101 #[.pointer (some ⟨gi, 0, none⟩)] w fun r w' => r = .returned (.int .i64 (s.c.pl : Nat)) ∧ w = w' := cat_any gi mxI (srcI gs) s.c.pl s.c.er s.c.idle s.c.held w h.io
set_option maxRecDepth 100000 in
set_option maxHeartbeats 2000000 in
theorem rbody_any (h : Rdp w lo gs g gi S lv rv vs s who) (hO : OkayC srcM (SrcR L) mxI Bd s.c) (hBd : Bd + 1000 ≤ 4611686018427387904) (hL : L ≤ 140737488351232) (n : Nat) (hn : n ≤ 1000000000) :
    Calls Try.prog 105 #[.pointer (some ⟨g, 0, none⟩), .int .i64 (n : Nat)] w fun r w' => ∃ bv S' who', r = .returned (.tuple #[bv, .int .i64 (bodyM mxI s.c n).2.1, .int .i64 ((bodyM mxI s.c n).2.2.1 : Nat)]) ∧
      OwT fB w' w.heap.size 5 bv (bodyM mxI s.c n).1 ∧ (∀ j, bv.ownBlock = some j → who' j = 0) ∧ Rdp w' lo gs g gi S' lv rv vs { s with c := (bodyM mxI s.c n).2.2.2 } who' ∧ Gr w w' who who' := by
  obtain ⟨⟨b, e1, k1⟩, hX1⟩ : ∃ X, bytesM srcM mxI (n : Int) s.c = X := ⟨_, rfl⟩
  obtain ⟨⟨b2, e2, k2⟩, hX2⟩ : ∃ X, bytesM srcM mxI 4 k1 = X := ⟨_, rfl⟩
  obtain ⟨E, hE⟩ : ∃ E, openE (b ++ b2) = E := ⟨_, rfl⟩
  have hM : bodyM mxI s.c n = if e1 ≠ 0 then ([], e1, s.c.pl, k1) else if e2 ≠ 0 then ([], e2, k1.pl, k2) else if E ≠ 0 then ([], E, k1.pl, k2) else (b, 0, 0, k2) := by
    unfold bodyM bdB bdS; rw [hX1]; dsimp only; rw [hX2]; dsimp only; rw [hE]
  have hb1 := (hO.bytes (n := (n : Int)) src_muR (src_leR L))
  rw [hX1] at hb1
  obtain ⟨hO1, hl1, hz1⟩ := hb1
  dsimp only at hO1 hl1 hz1
  have hb2 := (hO1.bytes (n := 4) src_muR (src_leR L))
  rw [hX2] at hb2
  obtain ⟨hO2, hl2, hz2⟩ := hb2
  dsimp only at hO2 hl2 hz2
  obtain ⟨Y, hY⟩ : ∃ Y, bodyM mxI s.c n = Y := ⟨_, rfl⟩
  rw [hY] at hM ⊢
  clear hY
  have AT := Lib.hid (inAt_any h)
  have BY := Lib.hid (inBytes_any h hO (by omega) hL n (by omega))
  rw [hX1] at BY
  have c0 := h.c0
  have HM := Lib.hid hM
  have HE := Lib.hid hE
  have O1 := Lib.hid hO1
  have L1 := Lib.hid hl1
  have L2 := Lib.hid hl2
  have HX2 := Lib.hid hX2
  clear h hO hX1 hX2 hM hE hO1 hO2 hl1 hl2 hz1 hz2
  obtain ⟨pl, hpl⟩ : ∃ p, s.c.pl = p := ⟨_, rfl⟩
  rw [hpl] at AT HM
  clear hpl
  go_enter Try.func105, Try.ntmps105
  go_wp2_with (go_at_call 101; refine AT.out.mono ?_; rintro r w1 ⟨rfl, rfl⟩)
  refine BY.out.mono ?_
  rintro r w1 ⟨bv, S1, who1, rfl, ho1, hz1, hR1, hG1⟩
  by_cases h1 : e1 = 0
  case neg =>
    have t1 : (e1 != 0) = true := by rw [bne_iff_ne]; exact h1
    have FIN := Lib.hid (show Y = ([], e1, pl, k1) by rw [HM.out, if_pos h1])
    have R1 := Lib.hid hR1
    have G1 := Lib.hid hG1
    clear ho1 hz1 hR1 hG1 h1
    go_wp2_with fail
    go_ret3
    rw [FIN.out]
    exact ⟨_, S1, who1, rfl, OwT.nil _ _ _ _, fun j e => (by cases e), R1.out, G1.out⟩
  subst h1
  have t1 : ((0 : Int) != 0) = false := by decide
  obtain ⟨a1, n1, m1, rfl, z1⟩ := ho1.slN
  have AT1 := Lib.hid (inAt_any hR1)
  have BY1 := Lib.hid (inBytes_any hR1 O1.out (by omega) hL 4 (by omega))
  have BY1' : Hid (Calls Try.prog 81 #[.pointer (some ⟨gi, 0, none⟩), .int .i64 4] w1 (RBPost lo gs g gi lv rv vs { s with c := k1 } who1 w1 (b2, e2, k2))) := Lib.hid (by rw [← HX2.out]; exact BY1.out)
  have c0 := hR1.c0
  have R1 := Lib.hid hR1
  have G1 := Lib.hid hG1
  have OW1 := Lib.hid ho1
  have Z1 := Lib.hid hz1
  have SL1 := Lib.hid z1
  have N1 := Lib.hid z1.len
  clear ho1 hz1 hR1 hG1 z1 BY1 BY AT
  obtain ⟨pl1, hpl1⟩ : ∃ p, k1.pl = p := ⟨_, rfl⟩
  dsimp only at AT1
  rw [hpl1] at AT1 HM
  clear hpl1
  go_wp2_with (go_at_call 101; refine AT1.out.mono ?_; rintro r w2 ⟨rfl, rfl⟩)
  refine BY1'.out.mono ?_
  rintro r w2 ⟨bv2, S2, who2, rfl, ho2, hz2, hR2, hG2⟩
  have G2 := Lib.hid (G1.out.trans hG2)
  have R2 := Lib.hid hR2
  by_cases h2 : e2 = 0
  case neg =>
    have t2 : (e2 != 0) = true := by rw [bne_iff_ne]; exact h2
    have FIN := Lib.hid (show Y = ([], e2, pl1, k2) by rw [HM.out, if_neg (by simp), if_pos h2])
    clear ho2 hz2 hR2 hG2 h2
    go_wp2_with fail
    go_ret3
    rw [FIN.out]
    exact ⟨_, S2, who2, rfl, OwT.nil _ _ _ _, fun j e => (by cases e), R2.out, G2.out⟩
  subst h2
  have t2 : ((0 : Int) != 0) = false := by decide
  obtain ⟨a2, n2, m2, rfl, z2⟩ := ho2.slN
  have OWN : ∀ j, Value.ownBlock (.slice a1 n1 m1) = some j → who2 j = 0 := fun j hj => by rw [hG2.o j (OW1.out.lt j hj).2]; exact Z1.out j hj
  have OWB := Lib.hid (show OwT fB w2 w.heap.size 5 (.slice a1 n1 m1) b from OW1.out.turns hG2.t fun j hj => fun h => h (Z1.out j hj))
  have OWN2 := Lib.hid OWN
  have SL1b := Lib.hid (show Sl Bf w2 a1 n1 m1 b from SL1.out.turns hG2.t fun b' o' hb h0 => fun h => h (Z1.out b' (by subst hb; rfl)))
  have RW := Lib.hid (rows2_2 w2 _ _ _ _ _ _ _ _ SL1b.out z2)
  have HN : Hid (b.length + b2.length ≤ 1000000004) := Lib.hid (by have := (L1.out (by simp)).2; have := (L2.out (by simp)).2; omega)
  have HF := Lib.hid (show [b, b2].flatten = b ++ b2 by simp)
  clear ho2 hz2 hR2 hG2 z2 OWN BY1' AT1
  have HB0 : Hid (Below w2.heap.size w2 (w2.alloc (.cells #[.slice a1 n1 m1, .slice a2 n2 m2] 25))) := Lib.hid ((Below.refl _ _).alloc (Nat.le_refl _) _)
  by_cases h3 : E = 0
  case neg =>
    have t3 : (E != 0) = true := by rw [bne_iff_ne]; exact h3
    have FIN := Lib.hid (show Y = ([], E, pl1, k2) by rw [HM.out, if_neg (by simp), if_neg (by simp), if_pos h3])
    clear h3
    go_wp2_with (first
      | (go_at_call 47; refine (concat_any _ 2 2 [b, b2] _ (by omega) (by rw [HF.out, List.length_append]; have := HN.out; omega) RW.out).mono ?_; rintro r w3 ⟨x3, rfl, ho3, hb3⟩; rw [HF.out] at ho3; obtain ⟨a3, n3, m3, rfl, z3⟩ := ho3.slN; have B3 := Lib.hid (keep_trans HB0.out hb3); have N3 : n3 ≤ 1000000004 := (by rw [← z3.len, List.length_append]; exact HN.out); have Z3 := Lib.hid z3; clear ho3 hb3 z3)
      | (go_at_call 122; refine (open_any a3 n3 m3 (b ++ b2) _ (by omega) Z3.out).mono ?_; rintro r w4 ⟨x4, rfl, -, hb4⟩; rw [HE.out]; have B4 := Lib.hid (keep_trans B3.out hb4); clear hb4))
    go_ret3
    rw [FIN.out]
    exact ⟨_, S2, who2, rfl, OwT.nil _ _ _ _, fun j e => (by cases e), R2.out.keep B4.out, G2.out.trans (Gr.below B4.out)⟩
  case pos =>
    subst h3
    have t3 : ((0 : Int) != 0) = false := by decide
    have FIN := Lib.hid (show Y = (b, 0, 0, k2) by rw [HM.out, if_neg (by simp), if_neg (by simp), if_neg (by simp)])
    go_wp2_with (first
      | (go_at_call 47; refine (concat_any _ 2 2 [b, b2] _ (by omega) (by rw [HF.out, List.length_append]; have := HN.out; omega) RW.out).mono ?_; rintro r w3 ⟨x3, rfl, ho3, hb3⟩; rw [HF.out] at ho3; obtain ⟨a3, n3, m3, rfl, z3⟩ := ho3.slN; have B3 := Lib.hid (keep_trans HB0.out hb3); have N3 : n3 ≤ 1000000004 := (by rw [← z3.len, List.length_append]; exact HN.out); have Z3 := Lib.hid z3; clear ho3 hb3 z3)
      | (go_at_call 122; refine (open_any a3 n3 m3 (b ++ b2) _ (by omega) Z3.out).mono ?_; rintro r w4 ⟨x4, rfl, -, hb4⟩; rw [HE.out]; have B4 := Lib.hid (keep_trans B3.out hb4); clear hb4))
    go_ret3
    rw [FIN.out]
    exact ⟨_, S2, who2, rfl, OWB.out.keep B4.out, OWN2.out, R2.out.keep B4.out, G2.out.trans (Gr.below B4.out)⟩
end
end Go.Proofs.Ytljcogimeimknaa
/- bytes.Equal: contract. No condition. -/
namespace Go.Proofs.Ytljcogimeimknaa
open Go.RowKit
set_option linter.unusedVariables false

theorem strB_eqE (xs ys : List UInt8) : ((strB xs).toList == (strB ys).toList) = decide (xs = ys) := by
  rw [strB_list, strB_list]
  by_cases h : xs = ys
  · subst h; simp
  · rw [decide_eq_false h]; simp [h]
theorem bequal_any (a : Option Addr) (n c : Nat) (xs : List UInt8) (a' : Option Addr) (n' c' : Nat) (ys : List UInt8) (w : World) (h : Sl Bf w a n c xs) (h' : Sl Bf w a' n' c' ys) :
    Calls Try.prog 117 #[.slice a n c, .slice a' n' c'] w fun e w' => e = .returned (.bool (decide (xs = ys))) ∧ w = w' := by
  have r1 := run_str (P := Try.prog) (dst := 9) Try.underlying25 Try.underlying5 (by kernel_rfl) _ _ _ _ _ h
  have r2 := run_str (P := Try.prog) (dst := 9) Try.underlying25 Try.underlying5 (by kernel_rfl) _ _ _ _ _ h'
  have hq := strB_eqE xs ys
  clear h h'
  go_enter Try.func117, Try.ntmps117
  go_wp2_with fail
  go_ret
  exact ⟨rfl, rfl⟩
end Go.Proofs.Ytljcogimeimknaa
/- block.tried, and a reader of blocks in memory. Condition: what is done ends, or is given up by a wrong. -/
namespace Go.Proofs.Ytljcogimeimknaa
open Go.RowKit
set_option linter.unusedVariables false

/-- what a reader gives up by -/
def wrongBy (e q : Int) : Ending := .panicked [{ v := .iface 162 (.agg #[.int .i64 e, .int .i64 q]), recovered := false }]
/-- the cell of the named result -/
def WB (w : World) (g : Nat) (e q : Int) : Prop := w.heap[g]? = some (.cells #[.int .i64 e, .int .i64 q] 162 (0, 0))
theorem assertW (v : Value) (w : World) : (Instr.typeAssert (.iface 162 v) 20 162 false).run Try.prog w = .ok v w := by kernel_rfl
theorem WB.set {w : World} {g : Nat} {x y : Int} (h : WB w g x y) (e q : Int) : WB ((w.setCell ⟨g, 0, none⟩ (.int .i64 e)).setCell ⟨g, 1, none⟩ (.int .i64 q)) g e q := by
  unfold WB at h ⊢
  have h1 := set_block (i := 0) h (.int .i64 e)
  have h2 := set_block (i := 1) h1 (.int .i64 q)
  rw [h2]; rfl
set_option maxRecDepth 100000 in
theorem caught (g : Nat) (x y e q : Int) (w : World) (h : WB w g x y) :
    CallsD Try.prog 130 #[.pointer (some ⟨g, 0, none⟩)] (.panicking [{ v := .iface 162 (.agg #[.int .i64 e, .int .i64 q]), recovered := false }]) w fun r u' w' =>
      r = .returned (.tuple #[]) ∧ u' = .panicking [{ v := .iface 162 (.agg #[.int .i64 e, .int .i64 q]), recovered := true }] ∧ WB w' g e q ∧ Turns (fun j => j = g) w w' := by
  have c0 := cell_of h 0 rfl
  have c1 := cell_of h 1 rfl
  have z0 := free_block h 0
  have z1 := free_block h 1
  refine callsD_of_wpS Try.func130 rfl fun c₀ cs hu => ?_
  apply wpS_seq
  apply wpS_region
  simp [wpOpsS, go_sem, recoverD, hu, Try.ntmps130, Exit.thenS]
  apply wpS_seq
  apply wpS_region
  simp [wpOpsS, go_sem, recoverD, Exit.thenS]
  refine wpS_cond (t := true) (by simp [Act.eval, Array.replicate]) ?_
  simp only [if_true]
  apply wpS_region
  simp [wpOpsS, go_sem, assertW, c0, c1, z0, z1, bodyPostS, results, Try.results130]
  exact ⟨h.set e q, (Turns.set (S := fun j => j = g) _ rfl _).trans (T := fun j => j = g) (Turns.set (S := fun j => j = g) _ rfl _) fun _ _ t => t⟩
set_option maxRecDepth 100000 in
theorem idle (g : Nat) (w : World) :
    CallsD Try.prog 130 #[.pointer (some ⟨g, 0, none⟩)] .returning w fun e u' w' => e = .returned (.tuple #[]) ∧ u' = .returning ∧ w' = w := by
  refine callsD_of_wpS Try.func130 rfl fun c₀ cs hu => ?_
  apply wpS_seq
  apply wpS_region
  simp [wpOpsS, go_sem, recoverD, hu, Try.ntmps130, Exit.thenS]
  apply wpS_seq
  apply wpS_region
  simp [wpOpsS, go_sem, recoverD, Exit.thenS]
  refine wpS_cond (t := false) (by simp [Act.eval, Array.replicate]) ?_
  simp only [Bool.false_eq_true, if_false]
  refine wpS_of_wp (wp_skip ?_)
  cases c₀
  simp_all [bodyPostS, results, Try.results130]
set_option maxRecDepth 100000 in
theorem tried_any (fn : FuncId) (caps : Array Value) (Q : Int → Int → World → Prop) (w : World) (hr : ∀ (args : Array Value) (W : World), (callFunc fn args).run Try.prog W = .ok (.enter fn args) W)
    (h : Calls Try.prog fn caps (w.alloc (.cells #[.int .i64 0, .int .i64 0] 162)) fun r w2 => ∃ e q : Int, ((e = 0 ∧ q = 0 ∧ r = .returned (.tuple #[])) ∨ r = wrongBy e q) ∧ Q e q w2 ∧ WB w2 w.heap.size 0 0) :
    Calls Try.prog 123 #[.func (.func fn) #[] caps] w fun r w' => ∃ (e q : Int) (w2 : World), r = .returned (.agg #[.int .i64 e, .int .i64 q]) ∧ Q e q w2 ∧ Turns (fun j => j = w.heap.size) w2 w' := by
  have hmf : ∀ (fn : Fn) (first cap : Array Value) (w : World), (Instr.makeFunc fn first cap).run Try.prog w = .ok (.func fn first cap) w := fun _ _ _ _ => rfl
  have H := Lib.hid h; clear h
  go_enter_defers Try.func123, Try.ntmps123
  go_wp2_with fail
  refine H.out.mono ?_
  rintro r w2 ⟨e, q, hr2, hQ, hW⟩
  rcases hr2 with ⟨rfl, rfl, rfl⟩ | rfl
  · go_wp2_with fail
    refine leaves_cons (f := 130) (args := #[.pointer (some ⟨w.heap.size, 0, none⟩)]) (by simp) (by simp [go_sem]) ?_
    refine (idle w.heap.size _).mono ?_
    rintro e u' w'' ⟨rfl, rfl, rfl⟩
    have c0 := cell_of hW 0 rfl
    have c1 := cell_of hW 1 rfl
    simp [Leaves, settle, results, Try.results123, go_sem, c0, c1]
    exact ⟨0, 0, ⟨rfl, rfl⟩, w'', hQ, .refl _ _⟩
  · unfold wrongBy
    go_wp2_with fail
    refine leaves_cons (f := 130) (args := #[.pointer (some ⟨w.heap.size, 0, none⟩)]) (by simp) (by simp [go_sem]) ?_
    refine (caught w.heap.size 0 0 e q _ hW).mono ?_
    rintro r u' w'' ⟨rfl, rfl, hw, ht⟩
    have c0 := cell_of hw 0 rfl
    have c1 := cell_of hw 1 rfl
    simp [Leaves, settle, results, Try.results123, go_sem, c0, c1]
    exact ⟨e, q, ⟨rfl, rfl⟩, w2, hQ, ht⟩
abbrev fI (a : Nat) : List Value := [.int .i64 (a : Nat)]
theorem fI_len (x : Nat) : (fI x).length = 1 := rfl
theorem eltTI : EltT Try.prog 61 3 fI 1 8 := by
  have hi : (Try.prog.info? 3).map (fun i => (i.zero, i.size, i.bytes)) = some (some (.int .i64 0), 1, 8) := by kernel_rfl
  obtain ⟨i, hi1, hi2, hi3, hi4⟩ := info_parts hi
  exact ⟨Try.underlying61, ⟨i, _, hi1, hi2, hi3, hi4, 0, rfl⟩, fun _ => rfl, by decide, fun x u hu => by simp [fI] at hu; rw [hu]; rfl⟩
theorem OwT.slRI {w : World} {base : Nat} {e : TypeId} {v : Value} {vs : List Nat} (h : OwT fI w base e v vs) : ∃ a n c, v = .slice a n c ∧ n = vs.length ∧ n ≤ c := by
  obtain ⟨a, c, hv, hs⟩ := h.sl fI_len
  exact ⟨a, _, c, hv, rfl, hs.2.1⟩
theorem SlT.litI (w : World) (x g : Nat) (hg : w.heap.size = g) : SlT fI 1 (w.alloc (.cells #[.int .i64 (x : Nat)] 3)) (some ⟨g, 0, none⟩) 1 1 [x] := by
  subst hg
  obtain ⟨a, c, hv, hs⟩ := (OwT.lit fI w w.heap.size 3 #[.int .i64 (x : Nat)] [x] 1 rfl rfl (Nat.le_refl _) (by decide)).sl fI_len
  cases hv; exact hs
/-- a reader: the bytes, how many entries, how many were read, the place, the last key, the restarts -/
structure Rdr (w : World) (lo g : Nat) (ab : Option Addr) (nb cb n d a : Nat) (vl vr : Value) (last : List UInt8) (runs : List Nat) : Prop where
  blk : w.heap[g]? = some (.cells #[.slice ab nb cb, .int .i64 (n : Nat), .int .i64 (d : Nat), .int .i64 (a : Nat), vl, vr] 167 (0, 0))
  rl : OwT fB w lo 5 vl last
  rr : OwT fI w lo 3 vr runs
  ol : Off vl g
  orr : Off vr g
  dis : ∀ b, vl.ownBlock = some b → vr.ownBlock ≠ some b
  low : lo ≤ g
  nil : vl = .slice none 0 0 ∧ last = [] ∨ 0 < last.length
def RdS (g : Nat) (vl vr : Value) (j : Nat) : Prop := j = g ∨ vl.ownBlock = some j ∨ vr.ownBlock = some j
section
variable {w w1 : World} {lo g nb cb n d a : Nat} {ab : Option Addr} {vl vr : Value} {last : List UInt8} {runs : List Nat}
theorem Rdr.lt (h : Rdr w lo g ab nb cb n d a vl vr last runs) : g < w.heap.size := (Array.getElem?_eq_some_iff.1 h.blk).1
theorem Rdr.inS (h : Rdr w lo g ab nb cb n d a vl vr last runs) : ∀ j, RdS g vl vr j → lo ≤ j ∧ j < w.heap.size := fun j hj => by
  rcases hj with rfl | hj | hj
  · exact ⟨h.low, h.lt⟩
  · exact h.rl.lt j hj
  · exact h.rr.lt j hj
theorem Rdr.turns {S : Nat → Prop} (h : Rdr w lo g ab nb cb n d a vl vr last runs) (ht : Turns S w w1) (hs : ∀ j, RdS g vl vr j → ¬ S j) : Rdr w1 lo g ab nb cb n d a vl vr last runs :=
  ⟨ht.heap h.blk (hs g (.inl rfl)), h.rl.turns ht fun j hj => hs j (.inr (.inl hj)), h.rr.turns ht fun j hj => hs j (.inr (.inr hj)), h.ol, h.orr, h.dis, h.low, h.nil⟩
theorem Rdr.keep (h : Rdr w lo g ab nb cb n d a vl vr last runs) (hb : Below w.heap.size w w1) : Rdr w1 lo g ab nb cb n d a vl vr last runs := h.turns (S := fun _ => False) (.of_below hb) fun _ _ e => e
theorem Rdr.drewN (h : Rdr w lo g ab nb cb n d a vl vr last runs) (m : Nat) : Rdr (w.drewN m) lo g ab nb cb n d a vl vr last runs := h.keep (keep_drewN (Below.refl _ _) m)
theorem Rdr.c0 (h : Rdr w lo g ab nb cb n d a vl vr last runs) : w.cell? ⟨g, 0, none⟩ = some (.slice ab nb cb) := cell_of h.blk 0 rfl
theorem Rdr.c1 (h : Rdr w lo g ab nb cb n d a vl vr last runs) : w.cell? ⟨g, 1, none⟩ = some (.int .i64 (n : Nat)) := cell_of h.blk 1 rfl
theorem Rdr.c2 (h : Rdr w lo g ab nb cb n d a vl vr last runs) : w.cell? ⟨g, 2, none⟩ = some (.int .i64 (d : Nat)) := cell_of h.blk 2 rfl
theorem Rdr.c3 (h : Rdr w lo g ab nb cb n d a vl vr last runs) : w.cell? ⟨g, 3, none⟩ = some (.int .i64 (a : Nat)) := cell_of h.blk 3 rfl
theorem Rdr.c4 (h : Rdr w lo g ab nb cb n d a vl vr last runs) : w.cell? ⟨g, 4, none⟩ = some vl := cell_of h.blk 4 rfl
theorem Rdr.c5 (h : Rdr w lo g ab nb cb n d a vl vr last runs) : w.cell? ⟨g, 5, none⟩ = some vr := cell_of h.blk 5 rfl
theorem Rdr.free (h : Rdr w lo g ab nb cb n d a vl vr last runs) (i : Nat) : w.frozen? ⟨g, i, none⟩ = false := free_block h.blk i
theorem Rdr.num (h : Rdr w lo g ab nb cb n d a vl vr last runs) (k : Nat) : Rdr (w.setCell ⟨g, 2, none⟩ (.int .i64 (k : Nat))) lo g ab nb cb n k a vl vr last runs :=
  ⟨set_block (i := 2) h.blk _, h.rl.of_block fun j hj => Below.heap_setCell _ _ _ _ (h.ol j hj), h.rr.of_block fun j hj => Below.heap_setCell _ _ _ _ (h.orr j hj), h.ol, h.orr, h.dis, h.low, h.nil⟩
theorem Rdr.place (h : Rdr w lo g ab nb cb n d a vl vr last runs) (k : Nat) : Rdr (w.setCell ⟨g, 3, none⟩ (.int .i64 (k : Nat))) lo g ab nb cb n d k vl vr last runs :=
  ⟨set_block (i := 3) h.blk _, h.rl.of_block fun j hj => Below.heap_setCell _ _ _ _ (h.ol j hj), h.rr.of_block fun j hj => Below.heap_setCell _ _ _ _ (h.orr j hj), h.ol, h.orr, h.dis, h.low, h.nil⟩
/-- the last key is laid anew -/
theorem Rdr.key {x : Value} {xs : List UInt8} (h : Rdr w lo g ab nb cb n d a vl vr last runs) (ho : OwT fB w lo 5 x xs) (hx : ∀ j, x.ownBlock = some j → ¬ RdS g vl vr j) (hn : 0 < xs.length) : Rdr (w.setCell ⟨g, 4, none⟩ x) lo g ab nb cb n d a x vr xs runs :=
  ⟨set_block (i := 4) h.blk _, ho.of_block fun j hj => Below.heap_setCell _ _ _ _ (fun e => hx j hj (.inl e)), h.rr.of_block fun j hj => Below.heap_setCell _ _ _ _ (h.orr j hj), fun j hj e => hx j hj (.inl e), h.orr, fun b hb hr => hx b hb (.inr (.inr hr)), h.low, .inr hn⟩
/-- a restart more -/
theorem Rdr.app {w0 : World} {x : Value} {ys : List Nat} (h : Rdr w lo g ab nb cb n d a vl vr last runs) (hw : Below w.heap.size w w0) (hg : w0.grownBy w1 vr.ownBlock) (ho : OwT fI w1 lo 3 x ys) (hx : x.ownBlock = vr.ownBlock ∨ x.ownBlock = some w0.heap.size) :
    w1.cell? ⟨g, 5, none⟩ = some vr ∧ w1.frozen? ⟨g, 5, none⟩ = false ∧ Rdr (w1.setCell ⟨g, 5, none⟩ x) lo g ab nb cb n d a vl x last ys ∧ Turns (RdS g vl vr) w w1 ∧ Turns (RdS g vl vr) w (w1.setCell ⟨g, 5, none⟩ x) ∧ ∀ j, RdS g vl x j → RdS g vl vr j ∨ w.heap.size ≤ j := by
  have ht : Turns (fun j => vr.ownBlock = some j) w w1 := (Turns.of_below hw).trans (.of_grown hg fun j e => e) fun _ _ e => e
  have hblk := ht.heap h.blk fun e => h.orr g e rfl
  have hz := hw.size
  have hxn : ∀ j, x.ownBlock = some j → vr.ownBlock = some j ∨ w.heap.size ≤ j := fun j hj => by
    rcases hx with e | e
    · exact .inl (e.symm.trans hj)
    · rw [e] at hj; injection hj with hj; exact .inr (by omega)
  have hxg : Off x g := fun j hj e => by
    rcases hxn j hj with h2 | h2
    · exact h.orr j h2 e
    · have := h.lt; omega
  have hlx : ∀ b, vl.ownBlock = some b → x.ownBlock ≠ some b := fun b hb hxb => by
    rcases hxn b hxb with h2 | h2
    · exact h.dis b hb h2
    · have := (h.rl.lt b hb).2; omega
  refine ⟨cell_of hblk 5 rfl, free_block hblk 5, ⟨set_block (i := 5) hblk _, ?_, ho.of_block fun j hj => Below.heap_setCell _ _ _ _ (hxg j hj), h.ol, hxg, hlx, h.low, h.nil⟩, ht.mono fun j _ hj => .inr (.inr hj), ?_, fun j hj => ?_⟩
  · exact (h.rl.turns ht fun j hj e2 => h.dis j hj e2).of_block fun j hj => Below.heap_setCell _ _ _ _ (h.ol j hj)
  · exact (ht.mono (T := RdS g vl vr) fun j _ hj => .inr (.inr hj)).trans (Turns.set (S := RdS g vl vr) w1 (.inl rfl) x) fun _ _ e => e
  · rcases hj with e | e | e
    · exact .inl (.inl e)
    · exact .inl (.inr (.inl e))
    · exact (hxn j e).imp (fun h => .inr (.inr h)) id
end
/-- behind a step: given up, or an entry of the call's own, the reader gone on -/
def NextPost (w : World) (lo g : Nat) (ab : Option Addr) (nb cb n d a : Nat) (vl vr : Value) (last : List UInt8) (runs : List Nat) (b : List UInt8) (r : Ending) (w' : World) : Prop :=
  ∃ (x : Ent) (q : Nat) (er : Int), erd (if d % 8 = 0 then [] else last) b a = (x, q, er) ∧ Turns (RdS g vl vr) w w' ∧
    (er ≠ 0 → r = wrongBy er q) ∧ (er = 0 → d % 8 = 0 ∧ 0 < last.length ∧ 0 ≤ cmp last x.1 → r = wrongBy 51 a) ∧
    (er = 0 → ¬ (d % 8 = 0 ∧ 0 < last.length ∧ 0 ≤ cmp last x.1) → ∃ vk vv vl' vr' mid, r = .returned (.agg #[vk, vv]) ∧ OwT fB w' w.heap.size 5 vk x.1 ∧ OwT fB w' mid 5 vv x.2 ∧ (∀ j, vk.ownBlock = some j → j < mid) ∧ w.heap.size ≤ mid ∧
      Rdr w' lo g ab nb cb n (d + 1) q vl' vr' x.1 (runs ++ if d % 8 = 0 then [a] else []) ∧ (∀ j, RdS g vl' vr' j → RdS g vl vr j ∨ w.heap.size ≤ j) ∧ ∀ j, RdS g vl' vr' j → vk.ownBlock ≠ some j ∧ vv.ownBlock ≠ some j)
/-- behind the reading of an entry in a step: where it lies -/
def ReadCut (w : World) (x : Ent) (q : Nat) (er : Int) (b5 b6 b7 : Value) (wx : World) : Prop :=
  ∃ gb vk vv mid, b5 = .pointer (some ⟨gb, 0, none⟩) ∧ b6 = .int .i64 q ∧ b7 = .int .i64 er ∧ Eb wx gb vk vv ∧ OwT fB wx w.heap.size 5 vk x.1 ∧ OwT fB wx mid 5 vv x.2 ∧ (∀ j, vk.ownBlock = some j → j < mid) ∧ w.heap.size ≤ mid ∧ w.heap.size ≤ gb ∧ Below w.heap.size w wx
theorem erd_in {p b : List UInt8} {z : Int} {x : Ent} {q : Nat} (h : erd p b z = (x, q, 0)) : 0 < x.1.length ∧ x.1.length ≤ 64 ∧ x.2.length ≤ 256 ∧ q ≤ b.length ∧ z < q ∧ (p.length = 0 ∨ cmp p x.1 < 0) := by
  unfold erd at h
  by_cases hz : 0 ≤ z ∧ z ≤ b.length
  · rw [if_pos hz] at h
    obtain ⟨hc, h1, h2, h3⟩ := pread_in h (by omega)
    refine ⟨?_, ?_, ?_, h2, by omega, h3⟩ <;> (unfold chk chkN keyN valN at hc; split at hc <;> split at hc <;> simp at hc <;> omega)
  · rw [if_neg hz] at h
    simp only [Prod.mk.injEq] at h
    exact absurd h.2.2 (by decide)
end Go.Proofs.Ytljcogimeimknaa
/- Whoever has entries writes over them: contract of the reference's Spoil. Conditions: the entries lie in memory of their own. Written by a program of this place (gen_EntSpoil.py). -/
namespace Go.Proofs.Ytljcogimeimknaa
open Go.RowKit
set_option linter.unusedVariables false

/-- a text's block holds bytes -/
def KbE (w : World) (gl lo hi : Nat) (s : Sv) : Prop :=
  (s.1 = none ∧ s.2.2 = 0) ∨ ∃ (g : Nat) (bs : List UInt8), s.1 = some ⟨g, 0, none⟩ ∧ w.heap[g]? = some (.cells (bs.map Bf).toArray 5 (0, 0)) ∧ bs.length = s.2.2 ∧ g ≠ gl ∧ lo ≤ g ∧ g < hi ∧ s.2.2 ≤ 9223372036854775807
theorem KbE.setL {w : World} {gl lo hi i : Nat} {s : Sv} (h : KbE w gl lo hi s) {v : Value} : KbE (w.setCell ⟨gl, i, none⟩ v) gl lo hi s := by
  rcases h with h | ⟨g', bs, h1, h2, h3, h4, h5⟩
  · exact .inl h
  · exact .inr ⟨g', bs, h1, (Below.heap_setCell w ⟨gl, i, none⟩ _ g' h4).trans h2, h3, h4, h5⟩
theorem KbE.cap {w : World} {gl lo hi : Nat} {s : Sv} (h : KbE w gl lo hi s) : s.2.2 ≤ 9223372036854775807 := by
  rcases h with ⟨_, h⟩ | ⟨_, _, _, _, _, _, _, _, h⟩
  · omega
  · exact h
end Go.Proofs.Ytljcogimeimknaa
/- Copy of entries, its memory told whole: contract. Conditions: the entries within reach. -/
namespace Go.Proofs.Ytljcogimeimknaa
open Go.RowKit
set_option linter.unusedVariables false

abbrev zE : Sv × Sv := ((none, 0, 0), (none, 0, 0))
theorem zE_ok : ∃ i z, Try.prog.info? 42 = some i ∧ i.zero = some z ∧ z.cells.toList = fE zE := by
  have hi : (Try.prog.info? 42).map (fun i => (i.zero, i.size, i.bytes)) = some (some (.agg #[.slice none 0 0, .slice none 0 0]), 2, 48) := by kernel_rfl
  obtain ⟨i, hi1, hi2, hi3, hi4⟩ := info_parts hi
  exact ⟨i, _, hi1, hi2, rfl⟩
end Go.Proofs.Ytljcogimeimknaa
/- What is read of bytes behind a text, from any place: contract of the program's. Conditions: the texts within reach. -/
namespace Go.Proofs.Ytljcogimeimknaa
open Go.RowKit
set_option linter.unusedVariables false

theorem epread_z (ap : Option Addr) (np cp : Nat) (p : List UInt8) (ab : Option Addr) (nb cb : Nat) (b : List UInt8) (z : Int) (w : World) (hp : np ≤ 140737488351232) (hb : nb ≤ 140737499999999) (h0 : Sl Bf w ap np cp p) (h1 : Sl Bf w ab nb cb b) :
    Calls Try.prog 132 #[.slice ap np cp, .slice ab nb cb, .int .i64 z] w fun e w' => RdPost w (erd p b z).1.1 (erd p b z).1.2 (erd p b z).2.1 (erd p b z).2.2 e w' := by
  have hl := h1.len
  unfold erd
  by_cases hz : 0 ≤ z ∧ z ≤ b.length
  · rw [if_pos hz]
    obtain ⟨a, rfl⟩ : ∃ a : Nat, z = a := ⟨z.toNat, by omega⟩
    exact epread_any ap np cp p ab nb cb b a w hp hb (by omega) h0 h1
  · rw [if_neg hz]
    exact epread_bad ap np cp ab nb cb z w hb (by omega)
end Go.Proofs.Ytljcogimeimknaa

/- Law PipeOdd: the walk. Conditions: no list longer than 2^20. -/
import Derived.Test.YtjkgncogpefnbaaPipeOddB
import Derived.Test.YtjkgncogpefnbaaSameS
import Derived.Deep.DeepCutAuto
import Derived.Test.YtjkgncogpefnbaaPipeHelp
namespace Go.Proofs.Ytjkgncogpefnbaa
open Go.RowKit Go.Shelf
set_option linter.unusedVariables false
set_option linter.unusedSimpArgs false
attribute [local go_sem] Oper.semAt_some

/-- what stands behind a body that returns -/
def onlyRet (Q : Exit → Act → World → Prop) : Exit → Act → World → Prop
  | .ret, a, w => Q .ret a w
  | _, _, _ => False
theorem onlyRet_imp {Q : Exit → Act → World → Prop} : ∀ e a w, onlyRet Q e a w → Q e a w := by
  intro e a w h
  cases e with
  | ret => exact h
  | _ => exact h.elim
set_option maxRecDepth 100000 in
set_option maxHeartbeats 4000000 in
theorem pipeOdd_walk (ag : Option Addr) (ng cg : Nat) (gs : List Int) (ae : Option Addr) (ne ce : Nat) (es : List Int) (at' : Option Addr) (nt ct : Nat) (ts : List Int) (af : Option Addr) (nf cf : Nat) (fs : List Int) (size : Int) (w : World)
    (hng : ng ≤ 1048576) (hnt : nt ≤ 1048576) (hI : Ints gs) (hI2 : Ints ts) (hG : Sl fZ w ag ng cg gs) (hE : Sl fZ w ae ne ce es) (hT : Sl fZ w at' nt ct ts) (hF : Sl fZ w af nf cf fs) :
    Calls Try.prog 4 #[.agg #[.slice ag ng cg, .slice ae ne ce, .slice at' nt ct, .slice af nf cf, .int .i64 size]] w fun e w' => e = .returned (.bool true) ∧ Below w.heap.size w w' := by
  obtain rfl : gs.length = ng := hG.len
  obtain rfl : es.length = ne := hE.len
  obtain rfl : ts.length = nt := hT.len
  obtain rfl : fs.length = nf := hF.len
  have NG := Lib.hid (show ∀ W, Below w.heap.size w W → Nums W w.heap.size (.slice ag gs.length cg) gs from fun W hb => ⟨_, _, rfl, hG.keep hb, fun b o e hn => by subst e; exact hG.blt hn⟩)
  have NE := Lib.hid (show ∀ W, Below w.heap.size w W → Nums W w.heap.size (.slice ae es.length ce) es from fun W hb => ⟨_, _, rfl, hE.keep hb, fun b o e hn => by subst e; exact hE.blt hn⟩)
  have NT := Lib.hid (show ∀ W, Below w.heap.size w W → Nums W w.heap.size (.slice at' ts.length ct) ts from fun W hb => ⟨_, _, rfl, hT.keep hb, fun b o e hn => by subst e; exact hT.blt hn⟩)
  have NF := Lib.hid (show ∀ W, Below w.heap.size w W → Nums W w.heap.size (.slice af fs.length cf) fs from fun W hb => ⟨_, _, rfl, hF.keep hb, fun b o e hn => by subst e; exact hF.blt hn⟩)
  clear hG hE hT hF
  refine (callsIn_wide (n := 4)).1 ?_
  refine callsIn_of_wp_marks Try.func4 rfl trivial ?_ rfl
  simp only [Try.ntmps4, List.size_toArray, List.length_cons, List.length_nil, Nat.reduceAdd, Nat.reduceSub, Array.replicate_succ, Array.replicate_zero, List.push_toArray, List.append_toArray, List.nil_append, List.cons_append]
  refine wpIn_mono (Q := onlyRet _) ?_ onlyRet_imp
  refine wpIn_wide.2 ?_
  go_wp2_with fail
  obtain ⟨xd, hxd⟩ : ∃ xd : Obj, xd = .cells #[.slice ag gs.length cg, .slice ae es.length ce, .slice at' ts.length ct, .slice af fs.length cf, .int .i64 size] 43 := ⟨_, rfl⟩
  have hA := allocs_get w [xd, .cells #[.bool false] 4]
  have B0 := Lib.hid (show Below w.heap.size w ((w.alloc xd).alloc (.cells #[.bool false] 4)) from hA.2.1)
  have BX := Lib.hid (show ((w.alloc xd).alloc (.cells #[.bool false] 4)).heap[w.heap.size]? = some xd from hA.2.2 0 _ rfl)
  have B6 := Lib.hid (show Boxed ((w.alloc xd).alloc (.cells #[.bool false] 4)) (w.heap.size + 1) 4 (.bool false) from hA.2.2 1 _ rfl)
  have hz1 : ((w.alloc xd).alloc (.cells #[.bool false] 4)).heap.size = w.heap.size + 2 := by simp
  subst hxd
  clear hA
  generalize (w.alloc (.cells #[.slice ag gs.length cg, .slice ae es.length ce, .slice at' ts.length ct, .slice af fs.length cf, .int .i64 size] 43)).alloc (.cells #[.bool false] 4) = w1 at *
  obtain ⟨g1, hg1⟩ : ∃ g, w.heap.size = g := ⟨_, rfl⟩
  have HW := Lib.hid hg1
  rw [hg1] at BX B6 hz1 ⊢
  clear hg1
  refine (lives_any _).mono ?_
  rintro e w2 ⟨rfl, hb⟩
  replace B0 := Lib.hid (keep_trans B0.out hb)
  replace BX := Lib.hid (blk_keep BX.out hb)
  replace B6 := Lib.hid (show Boxed w2 (g1 + 1) 4 (.bool false) from blk_keep B6.out hb)
  have hz2 := hb.size
  clear hb
  have KA := Lib.hid (fun (W : World) (h : Below w2.heap.size w2 W) => blk_keep BX.out h)
  obtain ⟨oa, hoa⟩ : ∃ o : Obj, o = .cells #[.slice ag gs.length cg, .slice ae es.length ce, .int .i64 0, .int .u8 0, .slice none 0 0] 46 := ⟨_, rfl⟩
  obtain ⟨ob, hob⟩ : ∃ o : Obj, o = .cells #[.slice none 0 0, .slice none 0 0, .int .i64 0, .bool false, .int .i64 0, .int .i64 0, .bool true, .slice ag gs.length cg, .slice ae es.length ce, .int .u8 1, .int .u8 0, .slice none 0 0] 48 := ⟨_, rfl⟩
  obtain ⟨oc, hoc⟩ : ∃ o : Obj, o = .cells #[.slice at' ts.length ct, .slice af fs.length cf, .int .i64 0, .int .u8 0, .slice none 0 0] 46 := ⟨_, rfl⟩
  obtain ⟨od, hod⟩ : ∃ o : Obj, o = .cells #[.slice none 0 0, .int .i64 0, .int .i64 0, .slice none 0 0, .bool true, .slice at' ts.length ct, .slice af fs.length cf, .slice none 0 0] 50 := ⟨_, rfl⟩
  have hA := allocs_get w2 [oa, ob, oc, od]
  have ka : Below w2.heap.size w2 (w2.alloc oa) := (Below.refl _ _).alloc (Nat.le_refl _) _
  have kb : Below w2.heap.size w2 ((w2.alloc oa).alloc ob) := ka.alloc (by simp) _
  have kc : Below w2.heap.size w2 (((w2.alloc oa).alloc ob).alloc oc) := kb.alloc (by simp; omega) _
  have kd : Below w2.heap.size w2 ((((w2.alloc oa).alloc ob).alloc oc).alloc od) := kc.alloc (by simp; omega) _
  have p0 := cell_of (KA.out w2 (Below.refl _ _)) 0 rfl
  have p1 := cell_of (KA.out w2 (Below.refl _ _)) 1 rfl
  have a0 := cell_of (KA.out _ ka) 0 rfl
  have a1 := cell_of (KA.out _ ka) 1 rfl
  have b2 := cell_of (KA.out _ kb) 2 rfl
  have b3 := cell_of (KA.out _ kb) 3 rfl
  have c2 := cell_of (KA.out _ kc) 2 rfl
  have c3 := cell_of (KA.out _ kc) 3 rfl
  have d4 := cell_of (KA.out _ kd) 4 rfl
  have KD := Lib.hid kd
  have BX4 := Lib.hid (KA.out _ kd)
  have GA := Lib.hid (hA.2.2 0 _ rfl)
  have GB := Lib.hid (hA.2.2 1 _ rfl)
  have GC := Lib.hid (hA.2.2 2 _ rfl)
  have GD := Lib.hid (hA.2.2 3 _ rfl)
  have hz4 : ((((w2.alloc oa).alloc ob).alloc oc).alloc od).heap.size = w2.heap.size + 4 := by simp
  simp only [List.foldl] at GA GB GC GD
  subst hoa hob hoc hod
  clear hA ka kb kc kd
  go_wp2_with fail
  generalize (((w2.alloc (.cells #[.slice ag gs.length cg, .slice ae es.length ce, .int .i64 0, .int .u8 0, .slice none 0 0] 46)).alloc (.cells #[.slice none 0 0, .slice none 0 0, .int .i64 0, .bool false, .int .i64 0, .int .i64 0, .bool true, .slice ag gs.length cg, .slice ae es.length ce, .int .u8 1, .int .u8 0, .slice none 0 0] 48)).alloc (.cells #[.slice at' ts.length ct, .slice af fs.length cf, .int .i64 0, .int .u8 0, .slice none 0 0] 46)).alloc (.cells #[.slice none 0 0, .int .i64 0, .int .i64 0, .slice none 0 0, .bool true, .slice at' ts.length ct, .slice af fs.length cf, .slice none 0 0] 50) = W4 at *
  obtain ⟨a, ha⟩ : ∃ a, w2.heap.size = a := ⟨_, rfl⟩
  have HA := Lib.hid ha
  rw [ha] at KD hz2 GA GB GC GD hz4 ⊢
  clear ha p0 p1 a0 a1 b2 b3 c2 c3
  have B4 := Lib.hid (keep_trans B0.out (HA.out ▸ KD.out))
  have hga : w.heap.size + 2 ≤ a := by have := HW.out; omega
  have nm : ∀ (v : Value) (l : List Int), (∀ W, Below w.heap.size w W → Nums W w.heap.size v l) → Nums W4 a v l := fun v l h => by
    obtain ⟨q1, q2, q3, q4, q5⟩ := h W4 B4.out
    exact ⟨q1, q2, q3, q4, fun b o e hn => by have := q5 b o e hn; omega⟩
  obtain ⟨s0, hs0⟩ : ∃ s0 : Od, s0 = ⟨gs, es, 0, 0, [], hI⟩ := ⟨_, rfl⟩
  obtain ⟨t0, ht0⟩ : ∃ t0 : Od, t0 = ⟨ts, fs, 0, 0, [], hI2⟩ := ⟨_, rfl⟩
  have SA := Lib.hid (show OdP a a a s0 (fun j => j = a) W4 from by
    subst hs0
    exact ⟨⟨_, _, _, GA.out, nm _ _ NG.out, nm _ _ NE.out, .nil _ _ _ _, fun j hj => by cases hj⟩, rfl, fun j hj => by subst hj; exact ⟨Nat.le_refl _, by omega⟩, Nat.le_refl _⟩)
  have RA := Lib.hid (show RoP (a + 1) a s0 (fun j => j = a + 1) W4 from by
    subst hs0
    exact ⟨⟨_, _, _, [], GB.out, nm _ _ NG.out, nm _ _ NE.out, .nil _ _ _ _, rfl, fun j hj => by cases hj⟩, rfl, fun j hj => by subst hj; exact ⟨by omega, by omega⟩⟩)
  have SC := Lib.hid (show OdP (a + 2) a a t0 (fun j => j = a + 2) W4 from by
    subst ht0
    exact ⟨⟨_, _, _, GC.out, nm _ _ NT.out, nm _ _ NF.out, .nil _ _ _ _, fun j hj => by cases hj⟩, rfl, fun j hj => by subst hj; exact ⟨by omega, by omega⟩, Nat.le_refl _⟩)
  have KC := Lib.hid (show KoP (a + 3) a t0 (fun j => j = a + 3) W4 from by
    subst ht0
    exact ⟨⟨_, _, _, _, [], GD.out, nm _ _ NT.out, nm _ _ NF.out, .nil _ _ _ _, rfl, (fun j hj => by cases hj), .nil _ _ _ _, (fun j hj => by cases hj), fun j hj => by cases hj⟩, rfl, fun j hj => by subst hj; exact ⟨by omega, by omega⟩⟩)
  have hn0 : s0.n.length ≤ 1048576 := by rw [hs0]; exact hng
  have hc0 : s0.calls = 0 := by rw [hs0]
  have hc1 : t0.calls = 0 := by rw [ht0]
  have hk1 : t0.took.length = 0 := by rw [ht0]; rfl
  clear hs0 ht0 nm GA GB GC GD NG NE NT NF
  refine (ocopy_any a a a s0 _ (a + 2) a t0 _ size W4 SA.out SC.out (fun j h1 h2 => by omega) hn0 (by omega) (by omega) (by omega)).mono ?_
  have hkp := cpsO_keep size s0 t0
  obtain ⟨⟨m, f, s1, t1⟩, hX⟩ : ∃ X, cpsO size s0 t0 = X := ⟨_, rfl⟩
  rw [hX] at hkp ⊢
  obtain ⟨hk2, hk3⟩ := hkp
  replace hk2 : s1.n.length = s0.n.length := congrArg List.length hk2
  replace hk3 : s1.calls ≤ s0.calls + (s0.n.length * 17 + 17) := hk3
  have HX := Lib.hid hX
  clear hX
  rintro e W5 ⟨rfl, S1, U1, hs1, hu1, hd1, hS1, hU1, hT5⟩
  have SA5 := Lib.hid (show OdP a a a s1 S1 W5 from hs1)
  have SC5 := Lib.hid (show OdP (a + 2) a a t1 U1 W5 from hu1)
  have D5 := Lib.hid hd1
  have SS := Lib.hid (show ∀ j, S1 j → j = a ∨ a + 4 ≤ j from fun j hj => by rcases hS1 j hj with h | h; (exact .inl h); (exact .inr (by omega)))
  have UU := Lib.hid (show ∀ j, U1 j → j = a + 2 ∨ a + 4 ≤ j from fun j hj => by rcases hU1 j hj with h | h; (exact .inl h); (exact .inr (by omega)))
  have RA5 := Lib.hid (RA.out.turns hT5 (fun j hj e => by rcases e with e | e <;> omega) (fun j e => by rcases e with e | e <;> omega))
  have KC5 := Lib.hid (KC.out.turns hT5 (fun j hj e => by rcases e with e | e <;> omega) (fun j e => by rcases e with e | e <;> omega))
  have BX5 := Lib.hid (hT5.heap BX4.out (fun e => by rcases e with e | e <;> omega))
  have B65 := Lib.hid (hT5.heap (show W4.heap[g1 + 1]? = _ from blk_keep B6.out (HA.out ▸ KD.out)) (fun e => by rcases e with e | e <;> omega))
  have BE5 := Lib.hid (hT5.below B4.out B4.out.size fun j e => by rcases e with e | e <;> omega)
  have hz5 := hT5.size
  have e4 := cell_of BX5.out 4 rfl
  clear hs1 hu1 hd1 hS1 hU1 hT5 BX4 SA RA SC KC d4 BX KA B6 B0 B4 KD
  dsimp only
  go_wp2_with fail
  refine (orcopy_any (a + 1) (a + 3) a s0 _ t0 _ size W5 (by omega) RA5.out KC5.out (fun j h1 h2 => by omega) hn0 (by omega) (by omega) (by omega)).mono ?_
  rw [HX.out]
  rintro e W6 ⟨rfl, R1, Q1, hr, hq, hd2, hRs, hQs, hT6⟩
  have RR := Lib.hid (show ∀ j, R1 j → j = a + 1 ∨ W5.heap.size ≤ j from hRs)
  have QQ := Lib.hid (show ∀ j, Q1 j → j = a + 3 ∨ W5.heap.size ≤ j from hQs)
  have SA6 := Lib.hid (SA5.out.turns hT6 (fun j hj e => by rcases SS.out j hj with h | h <;> rcases e with e | e <;> omega) (fun j e => by rcases e with e | e <;> omega))
  have SC6 := Lib.hid (SC5.out.turns hT6 (fun j hj e => by rcases UU.out j hj with h | h <;> rcases e with e | e <;> omega) (fun j e => by rcases e with e | e <;> omega))
  have RA6 := Lib.hid (show RoP (a + 1) a s1 R1 W6 from hr)
  have KC6 := Lib.hid (show KoP (a + 3) a t1 Q1 W6 from hq)
  have D6 := Lib.hid hd2
  have BX6 := Lib.hid (hT6.heap BX5.out (fun e => by rcases e with e | e <;> omega))
  have B66 := Lib.hid (hT6.heap B65.out (fun e => by rcases e with e | e <;> omega))
  have BE6 := Lib.hid (hT6.below BE5.out BE5.out.size fun j e => by rcases e with e | e <;> omega)
  have hz6 := hT6.size
  have S5L := Lib.hid (show ∀ j, S1 j → j < W5.heap.size from fun j hj => (SA5.out.inS j hj).2)
  have SR6 := Lib.hid (show ∀ j, S1 j → ¬ R1 j from fun j hj h => by
    have := S5L.out j hj
    rcases RR.out j h with e | e
    · rcases SS.out j hj with q | q <;> omega
    · omega)
  clear hr hq hd2 hRs hQs hT6 e4 SA5 SC5 RA5 KC5 BX5 B65 BE5
  dsimp only
  go_wp2_with fail
  obtain ⟨vn, ve, vt, hcb, -, -, ht3, -⟩ := SC6.out.blk
  obtain ⟨a19, n19, c19, rfl, hs19⟩ := ht3.slN
  obtain ⟨wn, we, wt, wv, zs, hkb, -, -, -, -, -, hot, -⟩ := KC6.out.blk
  obtain ⟨a20, n20, c20, rfl, hs20⟩ := hot.slN
  have y4 : W6.cell? ⟨a + 1 + 1, 4, none⟩ = some (.slice a19 n19 c19) := cell_of hcb 4 rfl
  have y3 : W6.cell? ⟨a + 1 + 1 + 1, 3, none⟩ = some (.slice a20 n20 c20) := cell_of hkb 3 rfl
  have y4a : ∀ k (o : Obj), ((W6.drewN k).alloc o).cell? ⟨a + 1 + 1, 4, none⟩ = some (.slice a19 n19 c19) := fun k o => cell_of (blk_keep hcb ((keep_drewN (Below.refl _ _) k).alloc (Nat.le_refl _) o)) 4 rfl
  have y3a : ∀ k (o : Obj), ((W6.drewN k).alloc o).cell? ⟨a + 1 + 1 + 1, 3, none⟩ = some (.slice a20 n20 c20) := fun k o => cell_of (blk_keep hkb ((keep_drewN (Below.refl _ _) k).alloc (Nat.le_refl _) o)) 3 rfl
  have y4b : ∀ (o : Obj), (W6.alloc o).cell? ⟨a + 1 + 1, 4, none⟩ = some (.slice a19 n19 c19) := fun o => cell_of (blk_keep hcb ((Below.refl _ _).alloc (Nat.le_refl _) o)) 4 rfl
  have y3b : ∀ (o : Obj), (W6.alloc o).cell? ⟨a + 1 + 1 + 1, 3, none⟩ = some (.slice a20 n20 c20) := fun o => cell_of (blk_keep hkb ((Below.refl _ _).alloc (Nat.le_refl _) o)) 3 rfl
  have k19 := ht3.capB
  have k20 := hot.capB
  have l19 := hs19.le
  have l20 := hs20.le
  have SMV := Lib.hid (show ∀ V, Below W6.heap.size W6 V → Calls Try.prog 17 #[.slice a19 n19 c19, .slice a20 n20 c20] V (fun e w' => e = .returned (.bool true) ∧ Drw V w') from fun V hV => by
    have := sameD_any a19 n19 c19 _ a20 n20 c20 _ V (by omega) (by omega) (hs19.keep hV) (hs20.keep hV)
    rwa [decide_eq_true rfl] at this)
  clear hcb ht3 hs19 hkb hot hs20 k19 k20 l19 l20
  go_cut [12] from 60 to 68 (fun b wx => ∃ g12, b = .pointer (some ⟨g12, 0, none⟩) ∧ Boxed wx g12 4 (.bool true) ∧ W6.heap.size ≤ g12 ∧ Below W6.heap.size W6 wx)
  case first =>
    have q1 : ∀ k, ((W6.drewN k).alloc (.cells #[.bool false] 4)).cell? ⟨W6.heap.size, 0, none⟩ = some (.bool false) := fun k => cell_of (heap_new (W6.drewN k) (.cells #[.bool false] 4)) 0 rfl
    have q2 : ∀ k, ((W6.drewN k).alloc (.cells #[.bool false] 4)).frozen? ⟨W6.heap.size, 0, none⟩ = false := fun k => free_block (heap_new (W6.drewN k) (.cells #[.bool false] 4)) 0
    have q3 : (W6.alloc (.cells #[.bool false] 4)).cell? ⟨W6.heap.size, 0, none⟩ = some (.bool false) := cell_of (heap_new W6 (.cells #[.bool false] 4)) 0 rfl
    have q4 : (W6.alloc (.cells #[.bool false] 4)).frozen? ⟨W6.heap.size, 0, none⟩ = false := free_block (heap_new W6 (.cells #[.bool false] 4)) 0
    have FA := Lib.hid (show ∀ k, Boxed (((W6.drewN k).alloc (.cells #[.bool false] 4)).setCell ⟨W6.heap.size, 0, none⟩ (.bool true)) W6.heap.size 4 (.bool true) ∧ Below W6.heap.size W6 (((W6.drewN k).alloc (.cells #[.bool false] 4)).setCell ⟨W6.heap.size, 0, none⟩ (.bool true)) from fun k =>
      ⟨boxed_set (heap_new (W6.drewN k) (.cells #[.bool false] 4)) _, (Turns.set (S := fun j => j = W6.heap.size) _ (b := W6.heap.size) (i := 0) rfl (.bool true)).below ((keep_drewN (Below.refl _ _) k).alloc (Nat.le_refl _) _) (by simp) (fun j e => by omega)⟩)
    have FB := Lib.hid (show ∀ k, Boxed (((W6.alloc (.cells #[.bool false] 4)).drewN k).setCell ⟨W6.heap.size, 0, none⟩ (.bool true)) W6.heap.size 4 (.bool true) ∧ Below W6.heap.size W6 (((W6.alloc (.cells #[.bool false] 4)).drewN k).setCell ⟨W6.heap.size, 0, none⟩ (.bool true)) from fun k =>
      ⟨boxed_set (show Boxed ((W6.alloc (.cells #[.bool false] 4)).drewN k) W6.heap.size 4 (.bool false) from heap_new W6 (.cells #[.bool false] 4)) _, (Turns.set (S := fun j => j = W6.heap.size) _ (b := W6.heap.size) (i := 0) rfl (.bool true)).below (keep_drewN ((Below.refl _ _).alloc (Nat.le_refl _) _) k) (by simp) (fun j e => by omega)⟩)
    go_region_with (go_at_call 17; refine (SMV.out _ (by first | exact (Below.refl _ _).drew | exact ((Below.refl _ _).drew).alloc (Nat.le_refl _) _ | exact ((Below.refl _ _).alloc (Nat.le_refl _) _).drew)).mono ?_; rintro e w7 ⟨rfl, m7, rfl⟩)
    all_goals
      go_wp2_with fail
      go_meet
      first | exact ⟨_, rfl, (FA.out _).1, Nat.le_refl _, (FA.out _).2⟩ | exact ⟨_, rfl, (FB.out _).1, Nat.le_refl _, (FB.out _).2⟩
  obtain ⟨g12, rfl, hb12, hg12, hbc⟩ := hcut
  have BE7 := Lib.hid (keep_trans BE6.out hbc)
  have SA7 := Lib.hid (SA6.out.turns (T := fun _ => False) (.of_below hbc) (fun _ _ e => e) (fun _ e => e.elim))
  have SC7 := Lib.hid (SC6.out.turns (T := fun _ => False) (.of_below hbc) (fun _ _ e => e) (fun _ e => e.elim))
  have RA7 := Lib.hid (RA6.out.turns (T := fun _ => False) (.of_below hbc) (fun _ _ e => e) (fun _ e => e.elim))
  have KC7 := Lib.hid (KC6.out.turns (T := fun _ => False) (.of_below hbc) (fun _ _ e => e) (fun _ e => e.elim))
  have BX7 := Lib.hid (blk_keep BX6.out hbc)
  have B67 := Lib.hid (show Boxed wc (g1 + 1) 4 (.bool false) from blk_keep B66.out hbc)
  have B12 := Lib.hid hb12
  have hz7 := hbc.size
  have HG12 := Lib.hid (show ¬ S1 g12 ∧ ¬ R1 g12 from ⟨fun e => by have := (SA6.out.inS _ e).2; omega, fun e => by have := (RA6.out.inS _ e).2; omega⟩)
  clear hb12 hbc SA6 SC6 RA6 KC6 BX6 B66 BE6 y4 y3 y4a y3a y4b y3b SMV
  obtain ⟨W7, hW7⟩ : ∃ V, wc = V := ⟨_, rfl⟩
  rw [hW7] at BE7 SA7 SC7 RA7 KC7 BX7 B67 B12 hz7 ⊢
  clear hW7
  obtain ⟨vn, ve, vt, hb1, -⟩ := SA7.out.blk
  obtain ⟨_, _, _, _, hb2, -⟩ := RA7.out.blk
  obtain ⟨_, _, _, hb3, -⟩ := SC7.out.blk
  obtain ⟨_, _, _, _, _, hb4, -⟩ := KC7.out.blk
  obtain ⟨cs, hcs⟩ : ∃ c, s1.calls = c := ⟨_, rfl⟩
  obtain ⟨ct', hct⟩ : ∃ c, t1.calls = c := ⟨_, rfl⟩
  rw [hcs] at hb1 hb2 hk3
  rw [hct] at hb3 hb4
  have HCS := Lib.hid hcs
  have i12 := cell_of B12.out 0 rfl
  have i1 : W7.cell? ⟨a, 2, none⟩ = some (.int .i64 (cs : Nat)) := cell_of hb1 2 rfl
  have i2 : W7.cell? ⟨a + 1, 4, none⟩ = some (.int .i64 (cs : Nat)) := cell_of hb2 4 rfl
  have i3 : W7.cell? ⟨a + 1 + 1, 2, none⟩ = some (.int .i64 (ct' : Nat)) := cell_of hb3 2 rfl
  have i4 : W7.cell? ⟨a + 1 + 1 + 1, 2, none⟩ = some (.int .i64 (ct' : Nat)) := cell_of hb4 2 rfl
  have x4 := cell_of BX7.out 4 rfl
  have u1 : ((m : Int) != (m : Int)) = false := by simp
  have u2 : (f != f) = false := by simp
  have u3 : ((cs : Int) != (cs : Int)) = false := by simp
  have u4 : ((ct' : Int) != (ct' : Int)) = false := by simp
  clear hb1 hb2 hb3 hb4 hcs hct SC7 KC7
  go_wp2_with fail
  go_quiet (fail)
  go_wp2_with fail
  obtain ⟨W8, hW8⟩ : ∃ V, W7.drewN nq = V := ⟨_, rfl⟩
  have hb8 : Below W7.heap.size W7 W8 := hW8 ▸ keep_drewN (Below.refl _ _) nq
  rw [hW8]
  clear hW8
  have SA8 := Lib.hid (SA7.out.turns (T := fun _ => False) (.of_below hb8) (fun _ _ e => e) (fun _ e => e.elim))
  have RA8 := Lib.hid (RA7.out.turns (T := fun _ => False) (.of_below hb8) (fun _ _ e => e) (fun _ e => e.elim))
  have BX8 := Lib.hid (blk_keep BX7.out hb8)
  have B68 := Lib.hid (show Boxed W8 (g1 + 1) 4 (.bool false) from blk_keep B67.out hb8)
  have B128 := Lib.hid (show Boxed W8 g12 4 (.bool true) from blk_keep B12.out hb8)
  have BE8 := Lib.hid (keep_trans BE7.out hb8)
  have hz8 := hb8.size
  clear hb8 SA7 RA7 BX7 B67 B12 BE7 i1 i2 i3 i4 i12 x4 u1 u2 u3 u4
  have hsc : s1.calls ≤ 18874368 := by rw [HCS.out]; omega
  refine (orchunks_any (a + 1) a s1 R1 size 2147483648 W8 (Nat.le_refl _) (by omega) RA8.out (by omega) (by omega)).mono ?_
  have hLl := chkIO_len size s1 2147483648
  obtain ⟨⟨L, sf⟩, hX2⟩ : ∃ X, chkI oddM size s1 2147483648 = X := ⟨_, rfl⟩
  rw [hX2] at hLl ⊢
  replace hLl : L.length ≤ s1.n.length + 1 := hLl
  have HX2 := Lib.hid hX2
  clear hX2
  rintro e W9 ⟨v, R2, rfl, hch, hrp, hR2, hT9⟩
  have hl8 : ∀ j, R1 j → a ≤ j ∧ j < W8.heap.size := RA8.out.inS
  have hs8 : ∀ j, S1 j → a ≤ j ∧ j < W8.heap.size := SA8.out.inS
  have hn12 := HG12.out
  have h12l : g12 < W8.heap.size := B128.out.lt
  have hz9 := hT9.size
  have CH9 := Lib.hid (show ChL W9 W8.heap.size R2 v L from hch)
  have RA9 := Lib.hid (show RoP (a + 1) a sf R2 W9 from hrp)
  have SA9 := Lib.hid (SA8.out.turns hT9 (fun j hj e => SR6.out j hj e) (fun j e => (hl8 j e).1))
  have BX9 := Lib.hid (hT9.heap BX8.out (fun e => by have := hl8 _ e; omega))
  have B69 := Lib.hid (show Boxed W9 (g1 + 1) 4 (.bool false) from hT9.heap B68.out (fun e => by have := hl8 _ e; omega))
  have B129 := Lib.hid (show Boxed W9 g12 4 (.bool true) from hT9.heap B128.out hn12.2)
  have BE9 := Lib.hid (hT9.below BE8.out BE8.out.size fun j e => by have := hl8 _ e; omega)
  have R2S := Lib.hid (show (∀ j, R2 j → a ≤ j ∧ j < W9.heap.size) ∧ (∀ j, S1 j → ¬ R2 j) ∧ ¬ R2 g12 from ⟨RA9.out.inS, fun j hj e => by
    rcases hR2 j e with h | h
    · exact SR6.out j hj h
    · have := hs8 j hj; omega, fun e => by
    rcases hR2 _ e with h | h
    · exact hn12.2 h
    · omega⟩)
  obtain ⟨av, cv, hv⟩ := hch.slice
  subst hv
  have x4b : ((W9.alloc (.cells #[.slice av L.length cv] 52)).alloc (.cells #[.int .i64 0] 3)).cell? ⟨g1, 4, none⟩ = some (.int .i64 size) := cell_of (blk_keep BX9.out (((Below.refl _ _).alloc (Nat.le_refl _) _).alloc (by simp) _)) 4 rfl
  have S1H := Lib.hid (And.intro hs8 hn12)
  clear hch hrp hR2 hT9 SA8 RA8 BX8 B68 B128 BE8 hl8 hs8 hn12
  go_wp2_with fail
  refine (chunks_any _ _ _ _).mono ?_
  rintro e W10 ⟨rfl, rfl⟩
  go_wp2_with fail
  have hA := allocs_get W9 [.cells #[.slice av L.length cv] 52, .cells #[.int .i64 0] 3, .cells #[.iface 44 (.pointer (some ⟨a, 0, none⟩))] 78, .cells #[.int .i64 size] 3]
  obtain ⟨hz3a, hb3a, hget⟩ := hA
  obtain ⟨B, hBB⟩ : ∃ B, W9.heap.size = B := ⟨_, rfl⟩
  rw [hBB] at hz3a hb3a hget hz9 ⊢
  have X12 := Lib.hid (show Boxed _ B 52 (.slice av L.length cv) from hget 0 _ rfl)
  have X13 := Lib.hid (show Boxed _ (B + 1) 3 (.int .i64 ((0 : Nat) : Int)) from hget 1 _ rfl)
  have X14 := Lib.hid (show Boxed _ (B + 2) 78 (.iface 44 (.pointer (some ⟨a, 0, none⟩))) from hget 2 _ rfl)
  have X15 := Lib.hid (show Boxed _ (B + 3) 3 (.int .i64 size) from hget 3 _ rfl)
  have B23 := Lib.hid (show Below W9.heap.size W9 _ from hBB.symm ▸ hb3a)
  have ZZ2 := Lib.hid hBB
  clear hb3a hget hBB x4b
  simp only [List.foldl] at hz3a X12 X13 X14 X15 B23
  replace hz3a := show _ = B + 4 from hz3a
  generalize (((W9.alloc (.cells #[.slice av L.length cv] 52)).alloc (.cells #[.int .i64 0] 3)).alloc (.cells #[.iface 44 (.pointer (some ⟨a, 0, none⟩))] 78)).alloc (.cells #[.int .i64 size] 3) = W3 at *
  refine (wpIn_wide (n := 4)).1 ?_
  refine range_cut (fun ds' W' => ∃ S', OdP a a a sf S' W' ∧ ∃ rc, PoM w (g1 + 1) g12 (a + 1) a W8.heap.size B ds' (.slice av L.length cv) L sf rc R2 S' L.length W') ?_ ?_
  · rintro ds' W11 ⟨S', hst, rc, hp⟩
    obtain ⟨_, _, _, hb1, -⟩ := hst.blk
    obtain ⟨_, _, _, _, hb2, -⟩ := hp.rp.blk
    have PM := Lib.hid hp
    obtain ⟨cc, hcc⟩ : ∃ c, sf.calls = c := ⟨_, rfl⟩
    rw [hcc] at hb1 hb2
    have j14 := cell_of hp.bk 0 rfl
    have j13 := cell_of hp.bW 0 rfl
    have j1 : W11.cell? ⟨a, 2, none⟩ = some (.int .i64 (cc : Nat)) := cell_of hb1 2 rfl
    have j2 : W11.cell? ⟨a + 1, 4, none⟩ = some (.int .i64 (cc : Nat)) := cell_of hb2 4 rfl
    have c6 := cell_of hp.b2 0 rfl
    have f6 := free_block hp.b2 0
    have u1 : ((L.length : Int) == (L.length : Int)) = true := by simp
    have u2 : ((cc : Int) == (cc : Int)) = true := by simp
    have TS := Turns.set (S := fun j => j = g1 + 1) W11 (b := g1 + 1) (i := 0) rfl (.bool true)
    have FN := Lib.hid (show Marks w.heap.size (fun _ => False) ds' (W11.setCell ⟨g1 + 1, 0, none⟩ (.bool true)).drew ∧ Boxed (W11.setCell ⟨g1 + 1, 0, none⟩ (.bool true)).drew (g1 + 1) 4 (.bool true) ∧ Below w.heap.size w (W11.setCell ⟨g1 + 1, 0, none⟩ (.bool true)).drew from
      ⟨⟨hp.mks.1, fun d hd => by
          obtain ⟨D, h1, hn, he, hk⟩ := hp.mks.2 d hd
          exact ⟨D, h1, fun e => e, he, show (W11.setCell ⟨g1 + 1, 0, none⟩ (.bool true)).heap[D]? = _ from (Below.heap_setCell _ _ _ _ (show D ≠ g1 + 1 from fun e => by subst e; rw [show W11.heap[g1 + 1]? = _ from hp.b2] at hk; cases hk)).trans hk⟩⟩,
        boxed_set hp.b2 (.bool true), (TS.below hp.bel hp.bel.size fun j e => by have := HW.out; omega).drew⟩)
    clear hst hp hb1 hb2 hcc TS X12 X13 X14 X15 B23 CH9 RA9 SA9 BX9 B69 B129 BE9
    go_wp2_with fail
    go_region
    go_wp2_with fail
    show LeavesInM _ _ _ _ _ _ _ _ _
    exact bool_leaves (w := w) (g6 := g1 + 1) (fun W hc => by simp [results, Try.results4, hc, go_sem]) _ _ FN.out.1 FN.out.2.1 FN.out.2.2
  · intro JR hJR
    have HJR := Lib.hid hJR
    clear hJR
    refine range_outer rfl (by omega) (gf := 34) (lb := #[.pointer (some ⟨B + 2, 0, none⟩), .pointer (some ⟨B + 3, 0, none⟩)]) rfl trivial (enters_of Try.func34 (by kernel_rfl) rfl) ?_
    intro fn hfn
    rw [hz3a]
    generalize hrc : lrec fn _ _ _ _ (B + 4) = rc
    have e1 : (W3.alloc (.deferred (some []))).heap.size = B + 5 := by simp [hz3a]
    have e2 : ((W3.alloc (.deferred (some []))).alloc (rc .ready none)).heap.size = B + 6 := by simp [hz3a]
    have k1 : Below W3.heap.size W3 ((W3.alloc (.deferred (some []))).alloc (rc .ready none)) := ((Below.refl _ _).alloc (Nat.le_refl _) _).alloc (by simp) _
    have d1 : ((W3.alloc (.deferred (some []))).alloc (rc .ready none)).heap[B + 5]? = some (rc .ready none) := by rw [← e1]; exact heap_new _ _
    have d2 : ((W3.alloc (.deferred (some []))).alloc (rc .ready none)).heap[B + 4]? = some (.deferred (some [])) := by
      rw [← hz3a]
      exact (Below.heap_alloc _ _ _ (by simp)).trans (heap_new _ _)
    generalize (W3.alloc (.deferred (some []))).alloc (rc .ready none) = W4' at *
    have B24 := B23.out.trans (k1.mono (by have := ZZ2.out; omega))
    obtain ⟨hs8, hn12⟩ := S1H.out
    obtain ⟨r1', r2', r3'⟩ := R2S.out
    have hwa : w.heap.size ≤ g1 + 1 ∧ g1 + 1 < a := by have := HW.out; omega
    have PC0 := Lib.hid (show PoM w (g1 + 1) g12 (a + 1) a W8.heap.size B ({ target := .collected (B + 4), args := #[] } :: []) (.slice av L.length cv) L sf (rc .ready none) R2 S1 0 W4' from
      { b2 := blk_keep B69.out B24, b12 := blk_keep B129.out B24, bW := (k1.block B (by omega)).trans X12.out, bk := (k1.block (B + 1) (by omega)).trans X13.out, rcd := d1
        ch := CH9.out.turns (T := fun _ => False) (.of_below B24) (fun _ e => e.elim) (fun j e => by rcases e with e | e | e; (exact .inr (.inl (hs8 j e).2)); (exact .inl e); (exact .inr (.inr (by have := ZZ2.out; omega))))
        rp := RA9.out.turns (T := fun _ => False) (.of_below B24) (fun _ _ e => e) (fun _ e => e.elim)
        sO := fun j hj => .inl (hs8 j hj), rO := fun j hj => ⟨(r1' j hj).1, by have := (r1' j hj).2; have := ZZ2.out; omega⟩
        dis := r2', n12 := ⟨hn12.1, r3'⟩
        mks := (Marks.nil w.heap.size (fun j => S1 j ∨ R2 j ∨ j = g12 ∨ j = B + 1 ∨ B + 5 ≤ j) W4').more (B := 0) (fun d hd => by cases hd) (by omega) (by omega) (fun e => by
          rcases e with e | e | e | e | e
          · have := hs8 _ e; omega
          · have := r1' _ e; have := ZZ2.out; omega
          · omega
          · omega
          · omega) d2
        bel := keep_trans BE9.out B24
        ord := ⟨hwa.1, hwa.2, by omega, by omega, by omega⟩ })
    have ST0 := Lib.hid (SA9.out.turns (T := fun _ => False) (.of_below B24) (fun _ _ e => e) (fun _ e => e.elim))
    have BR4 := Lib.hid (show Boxed W4' (B + 2) 78 (.iface 44 (.pointer (some ⟨a, 0, none⟩))) from (k1.block (B + 2) (by omega)).trans X14.out)
    have BS4 := Lib.hid (show Boxed W4' (B + 3) 3 (.int .i64 size) from (k1.block (B + 3) (by omega)).trans X15.out)
    have LS := Lib.hid hs8
    clear X12 X13 X14 X15 B23 CH9 RA9 SA9 BX9 B69 B129 BE9 B24 d1 d2 k1 hs8 hn12 r1' r2' r3' e1
    refine (iter_any (oddR a a a) 44 (methOR a) (enters_of Try.func56 (by kernel_rfl) rfl) (B + 5) (B + 2) (B + 3) size W4' BR4.out BS4.out s1 S1 ST0.out (fun e => by have := LS.out _ e; omega) (fun e => by have := LS.out _ e; omega) (show s1.calls + ((s1.n.length - s1.calls) * 17 + 17) < 4611686018427387904 by omega) (by omega) 2147483648 (by omega) L sf HX2.out
      (fun S' kk W' => PoM w (g1 + 1) g12 (a + 1) a W8.heap.size B ({ target := .collected (B + 4), args := #[] } :: []) (.slice av L.length cv) L sf (rc .ready none) R2 S' kk W')
      (fun s' S' kk W' => False) ?_ ?_ PC0.out).mono ?_
    · intro Sa S2 T kk Wa Wb hp hz ht hT hS
      have ho := hp.ord
      have nT : ∀ o, o ≤ 5 → ¬ T (B + o) := fun o ho e => by
        rcases hT _ e with q | q
        · rcases hp.sO _ q with r | r <;> omega
        · omega
      exact hp.turn ht (fun j e => by rcases hT j e with q | q; (exact .inl q); (exact .inr (.inr (.inr (by omega))))) hS (by omega) (boxed_turns hp.b12 ht (fun e => by rcases hT _ e with q | q; (exact hp.n12.1 q); (omega))) (boxed_turns hp.bk ht (nT 1 (by omega))) (ht.heap hp.rcd (nT 5 (by omega)))
    · intro ap n xs e Wa Sa sx kk hp hz hst hsl hsoft hn hap hLk hkl2
      have hsx : ∀ j, Sa j → a ≤ j ∧ j < W8.heap.size ∨ B + 6 ≤ j := hp.sO
      have hz6 : B + 6 ≤ Wa.heap.size := by omega
      have M5 := Lib.hid (hp.put hz6 (rc .busy none))
      have TP := turns_put (w := Wa) (g := B + 5) (rc .busy none)
      have ST5 := Lib.hid (hst.turns TP (fun j hj e => by rcases hsx j hj with r | r <;> omega) (fun j e => by omega))
      have SL5 := Lib.hid (hsl.turns TP fun b1 o e hn0 e2 => by
        rcases hap with rfl | ⟨b2, rfl, q1, q2, q3⟩
        · cases e
        · injection e with e; injection e with e; omega)
      have T5 := Lib.hid (TP.mono (T := fun j => j = B + 5 ∨ j = B + 1 ∨ j = g12) fun j _ e => .inl e)
      have HSX := Lib.hid hsx
      have HLK := Lib.hid hLk
      have hkL : kk < L.length := (List.getElem?_eq_some_iff.1 hLk).1
      have HRD := Lib.hid hp.rcd
      have HN12 := Lib.hid hp.n12.1
      have ho := hp.ord
      have hze : (Wa.putObj (B + 5) (rc .busy none)).heap.size = Wa.heap.size := by simp
      clear hp hst hsl hsoft hap hLk hsx TP PC0 BR4 BS4 ST0
      refine round_at2 (D := B + 4) (fn := fn) trivial (by rw [hrc]; exact HRD.out) rfl ?_
      rw [hrc]
      intro K9 hK9
      have KK9 := Lib.hid hK9
      clear hK9
      gi_wp2
      refine KK9.out _ _ HRD.out ?_
      clear KK9
      change Code.wpIn _ _ _ _ _ _ (Wa.putObj (B + 5) (rc .busy none))
      generalize Wa.putObj (B + 5) (rc .busy none) = W5' at *
      have c13 := cell_of M5.out.bk 0 rfl
      have c12 := cell_of M5.out.bW 0 rfl
      obtain ⟨b', o', ax, nx, cx, hav, hc0, hc1, hsx⟩ := M5.out.ch.at HLK.out
      subst hav
      have hnx : nx = n := by have := hsx.len; have := SL5.out.len; omega
      subst hnx
      have t1 : decide ((kk : Int) ≥ (L.length : Int)) = false := decide_eq_false (by omega)
      have t1' : decide (L.length ≤ kk) = false := decide_eq_false (by omega)
      have SM := Lib.hid (show Calls Try.prog 17 #[.slice ap nx nx, .slice ax nx cx] W5' (fun e w' => e = .returned (.bool true) ∧ Below W5'.heap.size W5' w') from by have := same_any ap nx nx xs ax nx cx xs W5' (by omega) (by omega) SL5.out hsx; rwa [decide_eq_true rfl] at this)
      clear hsx hc1
      gi_wp2
      refine ⟨trivial, ?_⟩
      refine (CallsIn.inRound _ (callsIn_wide.2 SM.out)).mono ?_
      rintro e6 W6' ⟨rfl, hb6⟩
      have M6 := Lib.hid (M5.out.keep (by omega) hb6)
      have ST6 := Lib.hid (ST5.out.turns (T := fun _ => False) (.of_below hb6) (fun _ _ e => e) (fun _ e => e.elim))
      have T6 := Lib.hid (T5.out.trans_below hb6)
      have hz66 := hb6.size
      clear hb6 M5 ST5 SL5 T5 SM c13 c12 hc0
      have c12o := cell_of M6.out.b12 0 rfl
      have f12o := free_block M6.out.b12 0
      have M7 := Lib.hid (M6.out.ok (by omega))
      have T67 := Turns.set (S := fun j => j = g12) W6' (b := g12) (i := 0) rfl (.bool true)
      have ST7 := Lib.hid (ST6.out.turns T67 (fun j hj e => HN12.out (e ▸ hj)) (fun j e => by omega))
      have T7 := Lib.hid (T6.out.trans T67 fun j _ e => .inr (.inr e))
      have hz7' : (W6'.setCell ⟨g12, 0, none⟩ (.bool true)).heap.size = W6'.heap.size := by simp
      obtain ⟨b2, o2, ax2, nx2, cx2, hav, -, hc1, -⟩ := M7.out.ch.at HLK.out
      injection hav with hav
      injection hav with hav1 hav2
      subst hav1 hav2
      have e12 : (W6'.setCell ⟨g12, 0, none⟩ (.bool true)).cell? ⟨g12, 0, none⟩ = some (.bool true) := cell_of M7.out.b12 0 rfl
      have c13 : (W6'.setCell ⟨g12, 0, none⟩ (.bool true)).cell? ⟨B + 1, 0, none⟩ = some (.int .i64 (kk : Nat)) := cell_of M7.out.bk 0 rfl
      have c12 : (W6'.setCell ⟨g12, 0, none⟩ (.bool true)).cell? ⟨B, 0, none⟩ = some (.slice (some ⟨b', o', none⟩) L.length cv) := cell_of M7.out.bW 0 rfl
      have f13 : (W6'.setCell ⟨g12, 0, none⟩ (.bool true)).frozen? ⟨B + 1, 0, none⟩ = false := free_block M7.out.bk 0
      have r1 : IntKind.i64.wrap ((kk : Int) + 1) = (kk : Int) + 1 := IntWalk.i64_in _ (by omega)
      have t2 : (e != e) = false := by simp
      have M8 := Lib.hid (show PoM w (g1 + 1) g12 (a + 1) a W8.heap.size B ({ target := .collected (B + 4), args := #[] } :: []) (.slice (some ⟨b', o', none⟩) L.length cv) L sf (rc .busy none) R2 Sa (kk + 1) ((W6'.setCell ⟨g12, 0, none⟩ (.bool true)).setCell ⟨B + 1, 0, none⟩ (.int .i64 ((kk : Int) + 1))) from M7.out.cnt (by omega) (kk + 1))
      have T78 := Turns.set (S := fun j => j = B + 1) (W6'.setCell ⟨g12, 0, none⟩ (.bool true)) (b := B + 1) (i := 0) rfl (.int .i64 ((kk : Int) + 1))
      have ST8 := Lib.hid (ST7.out.turns T78 (fun j hj e => by rcases HSX.out j hj with r | r <;> omega) (fun j e => by omega))
      have T8 := Lib.hid (T7.out.trans T78 fun j _ e => .inr (.inl e))
      have hz8' : ((W6'.setCell ⟨g12, 0, none⟩ (.bool true)).setCell ⟨B + 1, 0, none⟩ (.int .i64 ((kk : Int) + 1))).heap.size = W6'.heap.size := by simp
      clear M6 ST6 T6 M7 ST7 T7 T78 T67
      gi_wp2
      refine ⟨M8.out.rcd, ?_⟩
      have T9 := T8.out.trans (T := fun j => j = B + 5) (turns_put (w := (W6'.setCell ⟨g12, 0, none⟩ (.bool true)).setCell ⟨B + 1, 0, none⟩ (.int .i64 ((kk : Int) + 1))) (g := B + 5) (rc .ready none)) fun j _ e => .inl e
      exact .inl ⟨rfl, by omega, M8.out.put (by omega) _, ST8.out.turns (turns_put _) (fun j hj e => by rcases HSX.out j hj with r | r <;> omega) (fun j e => by omega), fun hgwl j hj => T9.block j (by omega) (fun e => by omega), T9.size⟩
    · rintro e W ⟨hv, (⟨S', hp, hst⟩ | ⟨S', hf⟩)⟩
      · have hz : B + 6 ≤ W.heap.size := (Array.getElem?_eq_some_iff.1 hp.rcd).1
        exact ⟨hv, .inl ⟨hp.rcd, .inl rfl, rfl, HJR.out _ _ ⟨S', hst.turns (turns_put _) (fun j hj e => by rcases hp.sO j hj with r | r <;> omega) (fun j e => by omega), _, hp.put hz _⟩⟩⟩
      · exact hf.elim
end Go.Proofs.Ytjkgncogpefnbaa

/- The program's Out: Lay, Push, Flush, Left, At, Err, NewOut: contracts over any writer. Conditions: numbers and what is laid within reach. -/
import Derived.Test.YtpenbaafhbbmhaaCurOutM
import Derived.Test.YtpenbaafhbbmhaaPipeMeth
import Derived.Deep.DeepCutAuto
import Derived.Deep.LoopGhost
import Derived.BigQuiet
namespace Go.Proofs.Ytpenbaafhbbmhaa
open Go.RowKit Go.Shelf
set_option maxRecDepth 100000
set_option linter.unusedVariables false
set_option linter.unusedSimpArgs false
attribute [local go_sem] Oper.semAt_some

/-- an Out in block g -/
def OutB (g : Nat) (wv : Value) (w : World) (pl : Nat) (er : Int) (i : Nat) (qv : Value) : Prop :=
  w.heap[g]? = some (.cells #[.int .i64 (pl : Nat), .int .i64 er, .int .i64 (i : Nat), wv, qv] 95 (0, 0))
section
variable {w w' : World} {g pl i : Nat} {er : Int} {wv qv : Value}
theorem OutB.c0 (h : OutB g wv w pl er i qv) : w.cell? ⟨g, 0, none⟩ = some (.int .i64 (pl : Nat)) := cell_of h 0 rfl
theorem OutB.c1 (h : OutB g wv w pl er i qv) : w.cell? ⟨g, 1, none⟩ = some (.int .i64 er) := cell_of h 1 rfl
theorem OutB.c2 (h : OutB g wv w pl er i qv) : w.cell? ⟨g, 2, none⟩ = some (.int .i64 (i : Nat)) := cell_of h 2 rfl
theorem OutB.c3 (h : OutB g wv w pl er i qv) : w.cell? ⟨g, 3, none⟩ = some wv := cell_of h 3 rfl
theorem OutB.c4 (h : OutB g wv w pl er i qv) : w.cell? ⟨g, 4, none⟩ = some qv := cell_of h 4 rfl
theorem OutB.free (h : OutB g wv w pl er i qv) (k : Nat) : w.frozen? ⟨g, k, none⟩ = false := free_block h k
theorem OutB.lt (h : OutB g wv w pl er i qv) : g < w.heap.size := (Array.getElem?_eq_some_iff.1 h).1
theorem OutB.turns {T : Nat → Prop} (h : OutB g wv w pl er i qv) (ht : Turns T w w') (hs : ¬ T g) : OutB g wv w' pl er i qv := ht.heap h hs
theorem OutB.s0 (h : OutB g wv w pl er i qv) (k : Nat) : OutB g wv (w.setCell ⟨g, 0, none⟩ (.int .i64 (k : Nat))) k er i qv := set_block (i := 0) h _
theorem OutB.s1 (h : OutB g wv w pl er i qv) (e : Int) : OutB g wv (w.setCell ⟨g, 1, none⟩ (.int .i64 e)) pl e i qv := set_block (i := 1) h _
theorem OutB.s2 (h : OutB g wv w pl er i qv) (k : Nat) : OutB g wv (w.setCell ⟨g, 2, none⟩ (.int .i64 (k : Nat))) pl er k qv := set_block (i := 2) h _
theorem OutB.s4 (h : OutB g wv w pl er i qv) (x : Value) : OutB g wv (w.setCell ⟨g, 4, none⟩ x) pl er i x := set_block (i := 4) h _
end
theorem setO {g : Nat} (w : World) (i : Nat) (v : Value) : Turns (fun j => j = g) w (w.setCell ⟨g, i, none⟩ v) := Turns.set (S := fun j => j = g) w (b := g) (i := i) rfl v
theorem owaits_any (g : Nat) (wv : Value) (pl : Nat) (er : Int) (i : Nat) (qv : Value) (mv : Bool) (w : World) (h : OutB g wv w pl er i qv) (hi : i ≤ 1000) :
    Calls Try.prog 52 #[.pointer (some ⟨g, 0, none⟩), .bool mv] w fun e w' => e = .returned (.bool (decide (waitN i mv = 16))) ∧ OutB g wv w' pl er (waitN i mv) qv ∧ Turns (fun j => j = g) w w' := by
  have c2 := h.c2
  have f2 := h.free 2
  have r1 : IntKind.i64.wrap ((i : Int) + 1) = (i : Int) + 1 := IntWalk.i64_in _ (by omega)
  have h1 := h.s2 (i + 1)
  have H1 := Lib.hid h1
  have d2 : (w.setCell ⟨g, 2, none⟩ (.int .i64 ((i : Int) + 1))).cell? ⟨g, 2, none⟩ = some (.int .i64 ((i : Int) + 1)) := h1.c2
  have e2 : (w.setCell ⟨g, 2, none⟩ (.int .i64 ((i : Int) + 1))).frozen? ⟨g, 2, none⟩ = false := h1.free 2
  clear h1
  cases mv with
  | true =>
    have h2 := H1.out.s2 0
    have g2 : ((w.setCell ⟨g, 2, none⟩ (.int .i64 ((i : Int) + 1))).setCell ⟨g, 2, none⟩ (.int .i64 0)).cell? ⟨g, 2, none⟩ = some (.int .i64 0) := h2.c2
    have H2 := Lib.hid h2
    clear h h2
    go_enter Try.func52, Try.ntmps52
    go_wp2_with fail
    go_ret
    exact ⟨rfl, H2.out, (setO _ _ _).trans (setO _ _ _) fun _ _ e => e⟩
  | false =>
    have t1 : ((i : Int) + 1 == 16) = decide (waitN i false = 16) := by rw [waitN_idle, Bool.eq_iff_iff]; simp; omega
    clear h
    go_enter Try.func52, Try.ntmps52
    go_wp2_with fail
    go_ret
    exact ⟨rfl, H1.out, setO _ _ _⟩
theorem oends_any (g : Nat) (wv : Value) (pl : Nat) (er e : Int) (i : Nat) (qv : Value) (w : World) (h : OutB g wv w pl er i qv) :
    Calls Try.prog 39 #[.pointer (some ⟨g, 0, none⟩), .int .i64 e] w fun r w' => r = .returned (.int .i64 e) ∧ OutB g wv w' pl e i qv ∧ Turns (fun j => j = g) w w' := by
  have c1 := h.c1
  have f1 := h.free 1
  have H1 := Lib.hid (h.s1 e)
  clear h
  go_enter Try.func39, Try.ntmps39
  go_wp2_with fail
  go_ret
  exact ⟨rfl, H1.out, setO _ _ _⟩
theorem oat_any (g : Nat) (wv : Value) (pl : Nat) (er : Int) (i : Nat) (qv : Value) (w : World) (h : OutB g wv w pl er i qv) :
    Calls Try.prog 16 #[.pointer (some ⟨g, 0, none⟩)] w fun r w' => r = .returned (.int .i64 (pl : Nat)) ∧ w = w' := by
  have c0 := h.c0
  clear h
  go_enter Try.func16, Try.ntmps16
  go_wp2_with fail
  go_ret
  exact ⟨rfl, rfl⟩
theorem oerr_any (g : Nat) (wv : Value) (pl : Nat) (er : Int) (i : Nat) (qv : Value) (w : World) (h : OutB g wv w pl er i qv) :
    Calls Try.prog 15 #[.pointer (some ⟨g, 0, none⟩)] w fun r w' => r = .returned (.int .i64 er) ∧ w = w' := by
  have c1 := h.c1
  clear h
  go_enter Try.func15, Try.ntmps15
  go_wp2_with fail
  go_ret
  exact ⟨rfl, rfl⟩
theorem newOut_any (T : TypeId) (v : Value) (w : World) :
    Calls Try.prog 22 #[.iface T v] w fun r w' => r = .returned (.pointer (some ⟨w.heap.size, 0, none⟩)) ∧ OutB w.heap.size (.iface T v) w' 0 0 0 (.slice none 0 0) ∧ Below w.heap.size w w' := by
  go_enter Try.func22, Try.ntmps22
  go_wp2_with fail
  go_ret
  exact ⟨rfl, heap_new w _, (Below.refl _ _).alloc (Nat.le_refl _) _⟩
section
variable {τ : Type} {V : Wm τ} {fn : FuncId} {v : Value} {lo2 Bw Rmx bd lo : Nat} {St : τ → (Nat → Prop) → World → Prop}
theorem out_frm (WR : Writer V fn v lo2 Bw Rmx St bd) (T : TypeId) (g : Nat) (hbl : bd ≤ lo) : Frm (OutB g (.iface T v)) St lo g :=
  ⟨fun _ _ _ _ _ _ _ h ht hg => h.turns ht hg, fun s S T w w' h ht hd hl => WR.frame s S T w w' h ht hd fun j e => Nat.le_trans hbl (hl j e)⟩
theorem oleft_any (g : Nat) (wv : Value) (c : COut τ) (S : Nat → Prop) (w : World) (h : OObj (OutB g wv) St lo g c S w) :
    Calls Try.prog 30 #[.pointer (some ⟨g, 0, none⟩)] w fun r w' => r = .returned (.int .i64 (c.q.length : Nat)) ∧ w = w' := by
  obtain ⟨Sr, qv, h⟩ := h
  obtain ⟨a, k, rfl, -⟩ := h.q.sl
  have c4 := h.io.c4
  clear h
  go_enter Try.func30, Try.ntmps30
  go_wp2_with fail
  go_ret
  exact ⟨rfl, rfl⟩
set_option maxHeartbeats 2000000 in
theorem olay_any (T : TypeId) (g : Nat) (F : Frm (OutB g (.iface T v)) St lo g) (c : COut τ) (S : Nat → Prop) (w : World) (ax : Option Addr) (nx cx : Nat) (xs : List UInt8) (hO : OObj (OutB g (.iface T v)) St lo g c S w) (hx : Sl Bf w ax nx cx xs) (hb : c.q.length + nx ≤ 140737488355328) :
    Calls Try.prog 28 #[.pointer (some ⟨g, 0, none⟩), .slice ax nx cx] w fun r w' => r = .returned (.int .i64 c.er) ∧ OAns (OutB g (.iface T v)) St lo g S w (layM xs c) w' := by
  have SAME := Lib.hid (OAns.same F hO (Below.refl _ w))
  obtain ⟨Sr, qv, h⟩ := hO
  have H := Lib.hid h
  have HX := Lib.hid hx
  have c1 := h.io.c1
  have c4 := h.io.c4
  have lg := h.io.lt
  have hlg := (h.inS g h.sg).1
  by_cases he : c.er = 0
  · have t1 : (c.er == 0) = true := by rw [beq_iff_eq]; exact he
    have LE := Lib.hid (show layM xs c = { c with q := c.q ++ xs } by unfold layM; rw [if_pos he])
    clear h hx he
    go_enter Try.func28, Try.ntmps28
    go_wp2_with (at_builtin; refine wpList_appQ rfl (.tmp 15) (.tmp 16) rfl lo qv c.q (by rfl) H.out.q ax nx cx xs (by rfl) HX.out hb (by omega) _ rfl ?_; intro v9 w9 h9 hg9 hv9; obtain ⟨a9, n9, c9, rfl, -⟩ := h9.slN; have Q9 := Lib.hid h9; have G9 := Lib.hid (Turns.of_grown (S := fun j => qv.ownBlock = some j) hg9 fun j e => e); have V9 := Lib.hid hv9; have I9 := Lib.hid (H.out.io.turns G9.out fun e => (H.out.hq g e).2.2 rfl); have d1 := I9.out.c1; have d4 := I9.out.c4; have f4 := I9.out.free 4; have k1 := (I9.out.s4 (.slice a9 n9 c9)).c1; clear h9 hg9 hv9)
    go_ret
    refine ⟨rfl, ?_⟩
    rw [LE.out]
    have hst9 := F.st _ _ _ _ _ H.out.st G9.out (fun j hj e => (H.out.hq j e).2.1 hj) (fun j e => (H.out.q.lt j e).1)
    have TT := setO (g := g) w9 4 (.slice a9 n9 c9)
    have hin := Q9.out.lt
    have hown : ∀ j, Value.ownBlock (.slice a9 n9 c9) = some j → (S j ∧ ¬ Sr j ∧ j ≠ g) ∨ w.heap.size ≤ j ∧ ¬ Sr j ∧ j ≠ g := fun j hj => by
      rcases V9.out with e | e
      · exact .inl (H.out.hq j (e ▸ hj))
      · rw [e] at hj
        injection hj with hj
        subst hj
        exact .inr ⟨Nat.le_refl _, fun q => by have := (H.out.inS _ (H.out.sr _ q)).2; omega, by omega⟩
    refine ⟨fun j => S j ∨ Value.ownBlock (.slice a9 n9 c9) = some j, ⟨Sr, .slice a9 n9 c9, { io := I9.out.s4 _, q := Q9.out.turns TT fun j hj e => ?_, st := F.st _ _ _ _ _ hst9 TT (fun j hj e => by have e : j = g := e; subst e; exact H.out.ng hj) (fun j e => by have e : j = g := e; omega), sr := fun j hj => .inl (H.out.sr j hj), sg := .inl H.out.sg, ng := H.out.ng, hq := fun j hj => ?_, inS := fun j hj => ?_ }⟩, fun j hj => ?_, ?_⟩
    · rcases hown j hj with q | q
      · exact q.2.2 e
      · exact q.2.2 e
    · rcases hown j hj with q | q
      · exact ⟨.inr hj, q.2⟩
      · exact ⟨.inr hj, q.2⟩
    · rcases hj with hj | hj
      · have := H.out.inS j hj
        have := G9.out.size
        simp; omega
      · have := hin j hj
        simp; omega
    · rcases hj with hj | hj
      · exact .inl hj
      · rcases hown j hj with q | q
        · exact .inl q.1
        · exact .inr q.1
    · exact (G9.out.mono (T := S) fun j _ e => (H.out.hq j e).1).trans TT fun j _ e => by have e : j = g := e; subst e; exact H.out.sg
  · have t1 : (c.er == 0) = false := by rw [beq_eq_false_iff_ne]; exact he
    have LE := Lib.hid (show layM xs c = c by unfold layM; rw [if_neg he])
    clear h hx he c4
    go_enter Try.func28, Try.ntmps28
    go_wp2_with fail
    go_ret
    rw [LE.out]
    exact ⟨rfl, SAME.out⟩
end
end Go.Proofs.Ytpenbaafhbbmhaa

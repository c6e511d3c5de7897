/- The program's In: waits, ends, take: contracts over any reader. Conditions: numbers and what is taken within reach. -/
import Derived.Test.YtpenbaafhbbmhaaCurM
import Derived.Test.YtpenbaafhbbmhaaPipeMeth
import Derived.Deep.DeepCutAuto
import Derived.Deep.LoopGhost
import Derived.BigQuiet
namespace Go.Proofs.Ytpenbaafhbbmhaa
open Go.RowKit Go.Shelf
set_option maxRecDepth 100000
set_option linter.unusedVariables false
set_option linter.unusedSimpArgs false
attribute [local go_sem] Oper.semAt_some

/-- an In in block g, a byte held or none -/
def InB (w : World) (g : Nat) (most : Int) (rv : Value) (pl : Nat) (er : Int) (i : Nat) (y : UInt8) (ho : Bool) : Prop :=
  w.heap[g]? = some (.cells #[.int .i64 (pl : Nat), .int .i64 er, .int .i64 (i : Nat), rv, .int .i64 most, .int .u8 (B y), .bool ho] 51 (0, 0))
def InP (w : World) (g : Nat) (most : Int) (rv : Value) (pl : Nat) (er : Int) (i : Nat) (held : List UInt8) : Prop :=
  ∃ y, InB w g most rv pl er i y (decide (held ≠ [])) ∧ (held = [] ∨ held = [y])
section
variable {w w' : World} {g pl i : Nat} {most er : Int} {rv : Value} {y : UInt8} {ho : Bool}
theorem InB.c0 (h : InB w g most rv pl er i y ho) : w.cell? ⟨g, 0, none⟩ = some (.int .i64 (pl : Nat)) := cell_of h 0 rfl
theorem InB.c1 (h : InB w g most rv pl er i y ho) : w.cell? ⟨g, 1, none⟩ = some (.int .i64 er) := cell_of h 1 rfl
theorem InB.c2 (h : InB w g most rv pl er i y ho) : w.cell? ⟨g, 2, none⟩ = some (.int .i64 (i : Nat)) := cell_of h 2 rfl
theorem InB.c3 (h : InB w g most rv pl er i y ho) : w.cell? ⟨g, 3, none⟩ = some rv := cell_of h 3 rfl
theorem InB.c4 (h : InB w g most rv pl er i y ho) : w.cell? ⟨g, 4, none⟩ = some (.int .i64 most) := cell_of h 4 rfl
theorem InB.c5 (h : InB w g most rv pl er i y ho) : w.cell? ⟨g, 5, none⟩ = some (.int .u8 (B y)) := cell_of h 5 rfl
theorem InB.c6 (h : InB w g most rv pl er i y ho) : w.cell? ⟨g, 6, none⟩ = some (.bool ho) := cell_of h 6 rfl
theorem InB.free (h : InB w g most rv pl er i y ho) (k : Nat) : w.frozen? ⟨g, k, none⟩ = false := free_block h k
theorem InB.lt (h : InB w g most rv pl er i y ho) : g < w.heap.size := (Array.getElem?_eq_some_iff.1 h).1
theorem InB.turns {S : Nat → Prop} (h : InB w g most rv pl er i y ho) (ht : Turns S w w') (hs : ¬ S g) : InB w' g most rv pl er i y ho := ht.heap h hs
theorem InB.s0 (h : InB w g most rv pl er i y ho) (k : Nat) : InB (w.setCell ⟨g, 0, none⟩ (.int .i64 (k : Nat))) g most rv k er i y ho := set_block (i := 0) h _
theorem InB.s1 (h : InB w g most rv pl er i y ho) (e : Int) : InB (w.setCell ⟨g, 1, none⟩ (.int .i64 e)) g most rv pl e i y ho := set_block (i := 1) h _
theorem InB.s2 (h : InB w g most rv pl er i y ho) (k : Nat) : InB (w.setCell ⟨g, 2, none⟩ (.int .i64 (k : Nat))) g most rv pl er k y ho := set_block (i := 2) h _
theorem InB.s5 (h : InB w g most rv pl er i y ho) (z : UInt8) : InB (w.setCell ⟨g, 5, none⟩ (.int .u8 (B z))) g most rv pl er i z ho := set_block (i := 5) h _
theorem InB.s6 (h : InB w g most rv pl er i y ho) (b : Bool) : InB (w.setCell ⟨g, 6, none⟩ (.bool b)) g most rv pl er i y b := set_block (i := 6) h _
end
theorem setT {g : Nat} (w : World) (i : Nat) (v : Value) : Turns (fun j => j = g) w (w.setCell ⟨g, i, none⟩ v) := Turns.set (S := fun j => j = g) w (b := g) (i := i) rfl v
theorem waits_any (g : Nat) (most : Int) (rv : Value) (pl : Nat) (er : Int) (i : Nat) (y : UInt8) (ho mv : Bool) (w : World) (h : InB w g most rv pl er i y ho) (hi : i ≤ 1000) :
    Calls Try.prog 52 #[.pointer (some ⟨g, 0, none⟩), .bool mv] w fun e w' => e = .returned (.bool (decide (waitN i mv = 16))) ∧ InB w' g most rv pl er (waitN i mv) y ho ∧ Turns (fun j => j = g) w w' := by
  have c2 := h.c2
  have f2 := h.free 2
  have r1 : IntKind.i64.wrap ((i : Int) + 1) = (i : Int) + 1 := IntWalk.i64_in _ (by omega)
  have h1 := h.s2 (i + 1)
  have H1 := Lib.hid h1
  have d2 : (w.setCell ⟨g, 2, none⟩ (.int .i64 ((i : Int) + 1))).cell? ⟨g, 2, none⟩ = some (.int .i64 ((i : Int) + 1)) := h1.c2
  have e2 : (w.setCell ⟨g, 2, none⟩ (.int .i64 ((i : Int) + 1))).frozen? ⟨g, 2, none⟩ = false := h1.free 2
  clear h1
  cases mv with
  | true =>
    have h2 := H1.out.s2 0
    have g2 : ((w.setCell ⟨g, 2, none⟩ (.int .i64 ((i : Int) + 1))).setCell ⟨g, 2, none⟩ (.int .i64 0)).cell? ⟨g, 2, none⟩ = some (.int .i64 0) := h2.c2
    have H2 := Lib.hid h2
    clear h h2
    go_enter Try.func52, Try.ntmps52
    go_wp2_with fail
    go_ret
    exact ⟨rfl, H2.out, (setT _ _ _).trans (setT _ _ _) fun _ _ e => e⟩
  | false =>
    have t1 : ((i : Int) + 1 == 16) = decide (waitN i false = 16) := by rw [waitN_idle, Bool.eq_iff_iff]; simp; omega
    clear h
    go_enter Try.func52, Try.ntmps52
    go_wp2_with fail
    go_ret
    exact ⟨rfl, H1.out, setT _ _ _⟩
theorem ends_any (g : Nat) (most : Int) (rv : Value) (pl : Nat) (er e : Int) (i : Nat) (y : UInt8) (ho : Bool) (w : World) (h : InB w g most rv pl er i y ho) :
    Calls Try.prog 39 #[.pointer (some ⟨g, 0, none⟩), .int .i64 e] w fun r w' => r = .returned (.int .i64 e) ∧ InB w' g most rv pl e i y ho ∧ Turns (fun j => j = g) w w' := by
  have c1 := h.c1
  have f1 := h.free 1
  have H1 := Lib.hid (h.s1 e)
  clear h
  go_enter Try.func39, Try.ntmps39
  go_wp2_with fail
  go_ret
  exact ⟨rfl, H1.out, setT _ _ _⟩
/-- behind take -/
def TakePost {σ : Type} (St : σ → (Nat → Prop) → World → Prop) (X : List UInt8 × Int × σ × Nat) (S0 : Nat → Prop) (g : Nat) (most : Int) (rv : Value) (pl : Nat) (er : Int) (w : World) (r : Ending) (w' : World) : Prop :=
  ∃ bv S', r = .returned (.tuple #[bv, .int .i64 X.2.1]) ∧ OwT fB w' w.heap.size 5 bv X.1 ∧ InP w' g most rv pl er X.2.2.2 [] ∧ St X.2.2.1 S' w' ∧ (∀ j, S' j → S0 j ∨ w.heap.size ≤ j) ∧ (∀ j, bv.ownBlock = some j → ¬ S' j) ∧ Turns (fun j => S0 j ∨ j = g) w w'
/-- what is taken fits -/
def Caps {σ : Type} (R : Rm σ) (s : σ) (n : Nat) : Prop := n ≤ 140737488355328 ∨ ∃ vo : σ → Nat, (∀ s n, 0 ≤ R.num s n → R.num s n ≤ n → vo (R.nxt s n) + (R.num s n).toNat ≤ vo s) ∧ vo s ≤ 140737488351232
/-- in the midst of take -/
structure TkM {σ : Type} (R : Rm σ) (St : σ → (Nat → Prop) → World → Prop) (X : List UInt8 × Int × σ × Nat) (w : World) (S0 : Nat → Prop) (g : Nat) (most : Int) (rv : Value) (pl : Nat) (er : Int) (y : UInt8) (n i0 : Nat) (s0 : σ) (F : Nat) (bv : Value) (b : List UInt8) (s : σ) (S : Nat → Prop) (i : Nat) (W : World) : Prop where
  eq : tk R F s i b n = X
  ow : OwT fB W w.heap.size 5 bv b
  io : InB W g most rv pl er i y false
  st : St s S W
  sub : ∀ j, S j → S0 j ∨ w.heap.size ≤ j
  dis : ∀ j, bv.ownBlock = some j → ¬ S j
  tu : Turns (fun j => S0 j ∨ j = g) w W
  il : i ≤ 15
  len : b.length ≤ n
  cap : n ≤ 140737488355328 ∨ ∃ vo : σ → Nat, (∀ s n, 0 ≤ R.num s n → R.num s n ≤ n → vo (R.nxt s n) + (R.num s n).toNat ≤ vo s) ∧ b.length + vo s ≤ 140737488351233
  fl : n ≤ b.length ∨ (R.mu s * 17 + 16 - i < F ∧ R.cnt s + R.mu s * 17 + i0 ≤ R.cnt s0 + R.mu s0 * 17 + i)
set_option maxHeartbeats 4000000 in
theorem ctake_any {σ : Type} {R : Rm σ} {fn : FuncId} {v : Value} {lo Br bd : Nat} {St : σ → (Nat → Prop) → World → Prop} (RD : Reader R fn v lo Br St bd) (T : TypeId)
    (hme : ∀ w, (method 249 T v "Read").run Try.prog w = .ok (fn, v) w) (hen : ∀ (args : Array Value) (W : World), (callFunc fn args).run Try.prog W = .ok (.enter fn args) W) (hmu : ∀ s n, R.mu (R.nxt s n) ≤ R.mu s)
    (g : Nat) (most : Int) (pl : Nat) (er : Int) (s0 : σ) (S0 : Nat → Prop) (i0 : Nat) (held : List UInt8) (n : Nat) (w : World) (hI : InP w g most (.iface T v) pl er i0 held) (hS : St s0 S0 w) (hgS : ¬ S0 g) (hbd : bd ≤ g)
    (hn1 : 1 ≤ n) (hn : n ≤ 9223372036854775807) (hi : i0 ≤ 15) (hc : R.cnt s0 + R.mu s0 * 17 + 32 ≤ Br) (hcap : Caps R s0 n) :
    Calls Try.prog 40 #[.pointer (some ⟨g, 0, none⟩), .int .i64 (n : Nat)] w (TakePost St (tk R (R.mu s0 * 17 + 17) s0 i0 held n) S0 g most (.iface T v) pl er w) := by
  obtain ⟨X, hX⟩ : ∃ X, tk R (R.mu s0 * 17 + 17) s0 i0 held n = X := ⟨_, rfl⟩
  rw [hX]
  have HX := Lib.hid hX
  obtain ⟨y, hB, hh⟩ := hI
  have HB := Lib.hid hB
  have ST := Lib.hid hS
  have HC := Lib.hid hc
  have HCAP := Lib.hid hcap
  have lg := hB.lt
  have NG := Lib.hid hgS
  have c6 := hB.c6
  have c5 := hB.c5
  have f6 := hB.free 6
  have t0 : decide ((n : Int) > 0) = true := decide_eq_true (by omega)
  have t0' : decide (0 < n) = true := decide_eq_true hn1
  have HH := Lib.hid hh
  clear hX hB hS hc hcap hgS hh
  go_enter Try.func40, Try.ntmps40
  obtain ⟨hb, hhb⟩ : ∃ hb, decide (held ≠ []) = hb := ⟨_, rfl⟩
  have HHB := Lib.hid hhb
  clear hhb
  go_upto_region 2 with (fail)
  go_cut [18] (fun v18 wx => v18 = .bool hb ∧ w = wx)
  case first =>
    rcases HH.out with rfl | rfl
    · obtain rfl : hb = false := HHB.out.symm
      have c6' : w.cell? ⟨g, 6, none⟩ = some (.bool false) := c6
      clear c6
      go_wp2_with fail
      go_meet
      exact ⟨rfl, rfl⟩
    · obtain rfl : hb = true := HHB.out.symm
      have c6' : w.cell? ⟨g, 6, none⟩ = some (.bool true) := c6
      clear c6
      go_wp2_with fail
      go_meet
      exact ⟨rfl, rfl⟩
  case rest =>
  obtain ⟨rfl, h2⟩ := hcut
  subst h2
  go_upto_if 18 with (fail)
  go_cut [6] (fun v6 wx => OwT fB wx w.heap.size 5 v6 held ∧ InB wx g most (.iface T v) pl er i0 y false ∧ Turns (fun j => j = g) w wx)
  case first =>
    rcases HH.out with rfl | rfl
    · obtain rfl : hb = false := HHB.out.symm
      have c6' : w.cell? ⟨g, 6, none⟩ = some (.bool false) := c6
      clear c6
      go_wp2_with fail
      go_meet
      exact ⟨OwT.nil _ _ _ _, HB.out, .refl _ _⟩
    · obtain rfl : hb = true := HHB.out.symm
      have c6' : w.cell? ⟨g, 6, none⟩ = some (.bool true) := c6
      clear c6
      go_wp2_with (at_builtin; refine wpList_appT eltTB rfl (.tmp 20) (.tmp 25) rfl w.heap.size _ [] (by rfl) (OwT.nil fB _ w.heap.size _) _ 1 1 [y] (by rfl) (Sl.lit _ _ _ _ _ rfl rfl).toT (by unfold maxLen; simp) (by simp) (by simp) [y] rfl ?_; intro v9 w9 h9 hg9 hv9 hb9; have O9 := Lib.hid h9; have B9 := Lib.hid (((Below.refl w.heap.size w).alloc (Nat.le_refl _) (.cells #[.int .u8 (B y)] 5)).trans hb9); have I9 := Lib.hid (show InB w9 g most (.iface T v) pl er i0 y true from (B9.out.block g lg).trans HB.out); have d6 := I9.out.c6; have e6 := I9.out.free 6; clear h9 hg9 hv9 hb9)
      go_meet
      exact ⟨O9.out.of_block fun j hj => Below.heap_setCell _ _ _ _ (by have := (O9.out.lt j hj).1; intro e; have e : j = g := e; omega), I9.out.s6 false, (Turns.of_below B9.out).trans (setT _ _ _) fun _ _ e => e⟩
  case rest =>
  obtain ⟨w2, rfl⟩ : ∃ w5, w5 = wc := ⟨_, rfl⟩
  obtain ⟨ho, hio, ht⟩ := hcut
  have ST2 := RD.frame s0 S0 _ _ _ ST.out ht (fun j hj e => by subst e; exact NG.out hj) (fun j e => by omega)
  have T0 := Lib.hid (show TkM R St X w S0 g most (.iface T v) pl er y n i0 s0 (R.mu s0 * 17 + 17) u6 held s0 S0 i0 w2 from
    { eq := HX.out, ow := ho, io := hio, st := ST2, sub := fun j hj => .inl hj, dis := fun j hj h => by have := (ho.lt j hj).1; have := (RD.inS _ _ _ ST.out j h).2; omega, tu := ht.mono fun j _ e => .inr e, il := hi
      len := by rcases HH.out with e | e <;> rw [e] <;> simp <;> omega
      cap := by
        rcases HCAP.out with h | ⟨vo, h1, h2⟩
        · exact .inl h
        · refine .inr ⟨vo, h1, ?_⟩
          rcases HH.out with e | e <;> rw [e] <;> simp <;> omega
      fl := .inr ⟨by omega, Nat.le_refl _⟩ })
  clear ho hio ht ST2 HX HB HCAP HH c5 c6 f6 t0 t0'
  go_wp2_with fail
  go_loopg [6] (R.mu s0 * 17 + 17) (fun F v6 wr => ∃ b s S i, TkM R St X w S0 g most (.iface T v) pl er y n i0 s0 F v6 b s S i wr)
  case atStart => exact ⟨held, s0, S0, i0, T0.out⟩
  case round =>
    obtain ⟨b, s, S, i, hM⟩ := hrel
    have M := Lib.hid hM
    obtain ⟨a, cc, hv6, -⟩ := hM.ow.slB
    subst hv6
    clear hM T0
    by_cases hlt : b.length < n
    · have c3 := M.out.io.c3
      obtain ⟨r, hr⟩ : ∃ r, n - b.length = r := ⟨_, rfl⟩
      obtain ⟨m, hm⟩ : ∃ m, askN n b.length = m := ⟨_, rfl⟩
      have hmr : m = min r 4096 := by rw [← hm, ← hr]; rfl
      have HM := Lib.hid hm
      have t1 : decide ((b.length : Int) < (n : Int)) = true := decide_eq_true (by omega)
      have t1' : decide (b.length < n) = true := decide_eq_true hlt
      have r1 : IntKind.i64.wrap ((n : Int) - (b.length : Int)) = (r : Nat) := by rw [IntWalk.i64_in _ (by omega)]; omega
      have hM1 : (if (r : Int) < 4096 then (r : Int) else 4096) = (m : Nat) := by split <;> omega
      have hM2 : (if 4096 < (r : Int) then 4096 else (r : Int)) = (m : Nat) := by split <;> omega
      have hM3 : min (r : Int) 4096 = (m : Nat) := by omega
      have hm1 : 1 ≤ m ∧ m ≤ 4096 := by omega
      clear hm hr hmr
      go_wp2_with (refine wpList_mkT eltTB rfl (.tmp 37) (.tmp 37) rfl 0 m m (Nat.le_refl _) (by rfl) (by rfl) rfl rfl (by omega) (by simp only [maxLen]; omega) (Nat.zero_le _) ?_; intro x0 wp hp _ _ hbp; have HP := Lib.hid (show wp.heap[wr.heap.size]? = some (.cells ((List.replicate m x0).map Bf).toArray 5 (0, 0)) by rw [← flat_fB]; exact hp); have HBP := Lib.hid hbp; have c3p := (M.out.io.turns (Turns.of_below (S := fun _ => False) HBP.out) id).c3; clear hp hbp)
      have hgp : ¬ S wr.heap.size := fun h => by have := (RD.inS _ _ _ M.out.st _ h).2; omega
      have hlg : g < wr.heap.size := M.out.io.lt
      have STP := Lib.hid (RD.frame _ _ (fun _ => False) _ _ M.out.st (.of_below HBP.out) (fun _ _ e => e) (fun _ e => e.elim))
      have hnb := R.numB s m (by omega)
      have hlayE := R.layE s m
      have hfl : R.mu s * 17 + 16 - i < gk ∧ R.cnt s + R.mu s * 17 + i0 ≤ R.cnt s0 + R.mu s0 * 17 + i := by
        rcases M.out.fl with h | h
        · omega
        · exact h
      have hil := M.out.il
      refine (RD.read s S wp wr.heap.size m m (List.replicate m x0) STP.out (by have := HC.out; omega) (by simp) (Nat.le_refl _) (by omega) HP.out hgp (by omega)).mono ?_
      rintro e W1 ⟨rfl, S1, hst1, hS1, hT1, hr1⟩
      have T1 := (Turns.of_below (S := fun j => S j ∨ j = wr.heap.size) HBP.out).trans hT1 fun _ _ e => e
      have hwz : w.heap.size ≤ wr.heap.size := M.out.tu.size
      have hlo := M.out.ow.lt
      have hSS : ∀ j, S1 j → S j ∨ wr.heap.size ≤ j := fun j hj => by
        rcases hS1 j hj with e | e
        · exact .inl e
        · exact .inr (Nat.le_trans HBP.out.size e)
      have gS : ¬ S g := fun h => by rcases M.out.sub g h with e | e; (exact NG.out e); (omega)
      have O1 := Lib.hid (M.out.ow.turns T1 fun j hj e => by rcases e with e | e; (exact M.out.dis j hj e); (have := (hlo j hj).2; omega))
      have IO1 := Lib.hid (M.out.io.turns T1 fun e => by rcases e with e | e; (exact gS e); (omega))
      have SUB1 := Lib.hid (show ∀ j, S1 j → S0 j ∨ w.heap.size ≤ j from fun j hj => by rcases hSS j hj with e | e; (exact M.out.sub j e); (exact .inr (by omega)))
      have DIS1 := Lib.hid (show ∀ j, Value.ownBlock (.slice a b.length cc) = some j → ¬ S1 j from fun j hj h => by rcases hSS j h with e | e; (exact M.out.dis j hj e); (have := (hlo j hj).2; omega))
      have TU1 := Lib.hid (M.out.tu.trans T1 fun j hj e => by
        rcases e with e | e
        · rcases M.out.sub j e with h | h
          · exact .inl h
          · omega
        · omega)
      have ST1 := Lib.hid hst1
      have R1 := Lib.hid hr1
      have LT1 := Lib.hid (show ∀ j, Value.ownBlock (.slice a b.length cc) = some j → w.heap.size ≤ j ∧ j < W1.heap.size from fun j hj => ⟨(hlo j hj).1, by have := (hlo j hj).2; have := T1.size; omega⟩)
      have gS1 : ¬ S1 g := fun h => by rcases hSS g h with e | e; (exact gS e); (omega)
      have GS1 := Lib.hid gS1
      have hgp1 : wr.heap.size < W1.heap.size := by have := T1.size; have := hT1.size; have := (Array.getElem?_eq_some_iff.1 HP.out).1; omega
      have hwz1 : w.heap.size ≤ W1.heap.size := by omega
      have HIN := Lib.hid (RD.inS _ _ _ hst1)
      have NP1 := Lib.hid (show ¬ S1 wr.heap.size from fun h => by
        rcases hS1 _ h with e | e
        · exact hgp e
        · have := (Array.getElem?_eq_some_iff.1 HP.out).1; omega)
      obtain ⟨F, hF⟩ : ∃ F, gk = F + 1 := ⟨gk - 1, by omega⟩
      subst hF
      obtain ⟨z, hz⟩ : ∃ z, R.num s m = z := ⟨_, rfl⟩
      obtain ⟨ee, hee⟩ : ∃ ee, R.er s m = ee := ⟨_, rfl⟩
      have HZ := Lib.hid hz
      have HEE := Lib.hid hee
      rw [hz] at hnb hlayE
      rw [hz, hee]
      have HFL := Lib.hid hfl
      have EQ := Lib.hid M.out.eq
      have CAP := Lib.hid M.out.cap
      have hbl := M.out.len
      clear hz hee T1 hst1 hS1 hT1 hr1 STP HP HBP hgp hSS gS M hlo hfl gS1 hM1 hM2 hM3 r1 c3 c3p
      by_cases hbad : z < 0 ∨ (m : Int) < z
      · have XE := Lib.hid (show X = ([], 34, R.nxt s m, i) by rw [← EQ.out]; exact tk_bad (by omega) HM.out (by rw [HZ.out]; exact hbad))
        rcases hbad with h | h
        case' inl =>
          have u1 : decide (z < 0) = true := decide_eq_true h
          clear h
        case' inr =>
          have u1 : decide (z < 0) = false := decide_eq_false (by omega)
          have u2 : decide (z > (m : Int)) = true := decide_eq_true h
          have u2' : decide ((m : Int) < z) = true := decide_eq_true h
          clear h
        all_goals
          go_wp2_with fail
          go_ret2
          rw [XE.out]
          exact ⟨.slice none 0 0, S1, rfl, OwT.nil _ _ _ _, ⟨y, IO1.out, .inl rfl⟩, ST1.out, SUB1.out, fun j e => (by cases e), TU1.out⟩
      · obtain ⟨k, rfl⟩ : ∃ k : Nat, z = k := ⟨z.toNat, by omega⟩
        have hks : k ≤ m := by omega
        have hlk : (R.lay s m).length = k := by have := hlayE (by omega) (by omega); omega
        obtain ⟨P, hP⟩ : ∃ P, R.lay s m = P := ⟨_, rfl⟩
        rw [hP] at R1 hlk
        have NB := Lib.hid (show ¬ (R.num s m < 0 ∨ (m : Int) < R.num s m) by rw [HZ.out]; omega)
        have TB := Lib.hid (show tkB R s b n = b ++ P by unfold tkB; rw [HM.out, hP, HZ.out, Int.toNat_natCast, List.take_of_length_le (by omega)])
        have hcut := fun W : World => run_cutto eltB W (some ⟨wr.heap.size, 0, none⟩) m m .i64 k hks
        have SL1 := Lib.hid (show Sl Bf W1 (some ⟨wr.heap.size, 0, none⟩) k m P from Sl.of_row _ _ _ R1.out hlk hks (by rw [List.map_append, List.take_left' (by rw [List.length_map]; exact hlk)]))
        have v1 : decide ((k : Int) < 0) = false := decide_eq_false (by omega)
        have v2 : decide ((k : Int) > (m : Int)) = false := decide_eq_false (by omega)
        have v2' : decide (m < k) = false := decide_eq_false (by omega)
        have hbn : b.length + k ≤ n := by have hh := HM.out; unfold askN at hh; omega
        have hbk : b.length + k ≤ 140737488355328 := by
          rcases CAP.out with h | ⟨vo, h1, h2⟩
          · omega
          · have := h1 s m (by rw [HZ.out]; omega) (by rw [HZ.out]; omega)
            rw [HZ.out, Int.toNat_natCast] at this
            omega
        have HLK := Lib.hid hlk
        clear hP hlk hlayE hbad hnb R1
        go_upto_region 9 with (fail)
        obtain ⟨mv, hmv⟩ : ∃ mv, (decide (0 < k) || decide (ee ≠ 0)) = mv := ⟨_, rfl⟩
        have HMV := Lib.hid hmv
        have hti : tkI R s i m = waitN i mv := by unfold tkI; rw [HZ.out, HEE.out, ← hmv]; simp
        have HTI := Lib.hid hti
        clear hmv hti
        go_upto_region 10 with (at_builtin; refine wpList_appT eltTB rfl (.tmp 56) (.tmp 59) rfl w.heap.size _ b (by rfl) O1.out (some ⟨wr.heap.size, 0, none⟩) k m P (by rfl) SL1.out.toT (by unfold maxLen; omega) (by omega) hwz1 _ rfl ?_; intro v9 w9 h9 hg9 hv9 hb9; obtain ⟨a9, n9, c9, rfl, z9⟩ := h9.slN; have O9 := Lib.hid h9; have G9 := Lib.hid (Turns.of_grown (S := fun j => Value.ownBlock (.slice a b.length cc) = some j) hg9 fun j e => e); have V9 := Lib.hid hv9; have L9 := Lib.hid z9.len; clear h9 hg9 hv9 hb9 z9)
        have IO9 := Lib.hid (IO1.out.turns G9.out fun e => by have := (LT1.out g e).1; omega)
        have HN9 := Lib.hid (show n9 = b.length + k by rw [← L9.out, List.length_append, HLK.out])
        obtain ⟨bi, hbi⟩ : ∃ bi, decide (waitN i mv = 16) = bi := ⟨_, rfl⟩
        have HBI := Lib.hid hbi
        have WT := Lib.hid (waits_any g most (.iface T v) pl er i y false mv w9 IO9.out (by omega))
        rw [hbi] at WT
        clear hbi
        have ST9 := Lib.hid (RD.frame _ _ _ _ _ ST1.out G9.out (fun j hj e => DIS1.out j e hj) (fun j e => by have := (LT1.out j e).1; omega))
        have DIS9 := Lib.hid (show ∀ j, Value.ownBlock (.slice a9 n9 c9) = some j → ¬ S1 j from fun j hj h => by
          rcases V9.out with e | e
          · exact DIS1.out j (e ▸ hj) h
          · rw [e] at hj; injection hj with hj; have := (HIN.out j h).2; omega)
        have TU9 := Lib.hid (TU1.out.trans G9.out fun j hj e => by have := (LT1.out j e).1; omega)
        clear O1 IO1 TU1 ST1 G9 V9 LT1 SL1 DIS1 hcut
        go_cut [10] (fun v10 wx => v10 = .bool bi ∧ InB wx g most (.iface T v) pl er (waitN i mv) y false ∧ Turns (fun j => j = g) w9 wx)
        case first =>
          by_cases hk0 : 0 < k
          · have u4 : decide ((k : Int) > 0) = true := decide_eq_true (by omega)
            have u4' : decide (0 < k) = true := decide_eq_true hk0
            obtain rfl : mv = true := by rw [← HMV.out, u4']; rfl
            clear hk0
            go_wp2_with fail
            refine WT.out.mono ?_
            rintro e w5 ⟨rfl, h1, h2⟩
            have I5 := Lib.hid h1
            have T5 := Lib.hid h2
            clear h1 h2
            go_wp2_with fail
            go_meet
            exact ⟨rfl, I5.out, T5.out⟩
          · have u4 : decide ((k : Int) > 0) = false := decide_eq_false (by omega)
            have u4' : decide (0 < k) = false := decide_eq_false hk0
            have hmv : decide (ee ≠ 0) = mv := by rw [← HMV.out, u4']; rfl
            have u5 : (ee != 0) = mv := by rw [← hmv]; by_cases h : ee = 0 <;> simp [h]
            clear hk0 hmv
            go_wp2_with fail
            refine WT.out.mono ?_
            rintro e w5 ⟨rfl, h1, h2⟩
            have I5 := Lib.hid h1
            have T5 := Lib.hid h2
            clear h1 h2
            go_wp2_with fail
            go_meet
            exact ⟨rfl, I5.out, T5.out⟩
        case rest =>
          obtain ⟨w5, rfl⟩ : ∃ w6, w6 = wc := ⟨_, rfl⟩
          obtain ⟨rfl, hi5, ht5⟩ := hcut
          have I5 := Lib.hid hi5
          have O5 := Lib.hid (O9.out.turns ht5 fun j hj e => by have := (O9.out.lt j hj).1; omega)
          have ST5 := Lib.hid (RD.frame _ _ _ _ _ ST9.out ht5 (fun j hj e => by subst e; exact GS1.out hj) (fun j e => by omega))
          have TU5 := Lib.hid (TU9.out.trans ht5 fun j hj e => .inr e)
          clear hi5 ht5 O9 IO9 WT ST9 TU9
          have NEXT := Lib.hid (fun (F' : Nat) (h1 : tk R F' (R.nxt s m) (waitN i mv) (b ++ P) n = X) (h2 : waitN i mv ≤ 15) (h3 : n ≤ (b ++ P).length ∨ (R.mu (R.nxt s m) * 17 + 16 - waitN i mv < F' ∧ R.cnt (R.nxt s m) + R.mu (R.nxt s m) * 17 + i0 ≤ R.cnt s0 + R.mu s0 * 17 + waitN i mv)) =>
            show TkM R St X w S0 g most (.iface T v) pl er y n i0 s0 F' (.slice a9 n9 c9) (b ++ P) (R.nxt s m) S1 (waitN i mv) w5 from
            { eq := h1, ow := O5.out, io := I5.out, st := ST5.out, sub := SUB1.out, dis := DIS9.out, tu := TU5.out, il := h2, len := by rw [L9.out, HN9.out]; exact hbn
              cap := by
                rcases CAP.out with h | ⟨vo, q1, q2⟩
                · exact .inl h
                · have := q1 s m (by rw [HZ.out]; omega) (by rw [HZ.out]; omega)
                  rw [HZ.out, Int.toNat_natCast] at this
                  exact .inr ⟨vo, q1, by rw [L9.out, HN9.out]; omega⟩
              fl := h3 })
          by_cases hfull : n9 = n
          · have hk0 : 0 < k := by have := HN9.out; omega
            have hmt : mv = true := by rw [← HMV.out, decide_eq_true hk0]; rfl
            have GO := Lib.hid (NEXT.out F (by rw [tk_has (by rw [L9.out, hfull]; exact Nat.le_refl _), ← EQ.out, tk_full (by omega) HM.out NB.out (by rw [TB.out, L9.out]; exact hfull), TB.out, HTI.out]) (by rw [hmt]; exact Nat.zero_le _) (.inl (by rw [L9.out, hfull]; exact Nat.le_refl _)))
            have t2 : ((n9 : Int) == (n : Int)) = true := by rw [beq_iff_eq]; omega
            have t2' : (n9 == n) = true := by rw [beq_iff_eq]; exact hfull
            clear hfull hk0 hmt
            go_wp2_with fail
            go_roundg F
            case measure => omega
            case rel => exact ⟨_, _, _, _, GO.out⟩
          · have NF := Lib.hid (show (tkB R s b n).length ≠ n by rw [TB.out, L9.out]; exact hfull)
            have t2 : ((n9 : Int) == (n : Int)) = false := by rw [beq_eq_false_iff_ne]; omega
            have t2' : (n9 == n) = false := by rw [beq_eq_false_iff_ne]; exact hfull
            clear hfull
            by_cases h31 : ee = 31
            · have XE := Lib.hid (show X = ([], 41, R.nxt s m, waitN i mv) by rw [← EQ.out, tk_end (by omega) HM.out NB.out NF.out (by rw [HEE.out]; exact h31), HTI.out])
              have t3 : (ee == 31) = true := by rw [beq_iff_eq]; exact h31
              clear h31
              go_wp2_with fail
              go_ret2
              rw [XE.out]
              exact ⟨.slice none 0 0, S1, rfl, OwT.nil _ _ _ _, ⟨y, I5.out, .inl rfl⟩, ST5.out, SUB1.out, fun j e => (by cases e), TU5.out⟩
            · have t3 : (ee == 31) = false := by rw [beq_eq_false_iff_ne]; exact h31
              by_cases he0 : ee = 0
              · have t4 : (ee != 0) = false := by rw [bne_eq_false_iff_eq]; exact he0
                by_cases h16 : waitN i mv = 16
                · have XE := Lib.hid (show X = ([], 33, R.nxt s m, waitN i mv) by rw [← EQ.out, tk_idle (by omega) HM.out NB.out NF.out (by rw [HEE.out]; exact he0) (by rw [HTI.out]; exact h16), h16])
                  obtain rfl : bi = true := by rw [← HBI.out]; exact decide_eq_true h16
                  clear h31 he0 h16
                  go_wp2_with fail
                  go_ret2
                  rw [XE.out]
                  exact ⟨.slice none 0 0, S1, rfl, OwT.nil _ _ _ _, ⟨y, I5.out, .inl rfl⟩, ST5.out, SUB1.out, fun j e => (by cases e), TU5.out⟩
                · have GO := Lib.hid (NEXT.out F (by rw [← EQ.out, tk_go (by omega) HM.out NB.out NF.out (by rw [HEE.out]; exact he0) (by rw [HTI.out]; exact h16), HTI.out, TB.out]) (by have := tkI_le (R := R) (s := s) (m := m) hil; rw [HTI.out] at this; omega) (by
                    right
                    have hf := HFL.out
                    have hc := R.cntS s m
                    by_cases hk0 : 0 < k
                    · have hmt : mv = true := by rw [← HMV.out, decide_eq_true hk0]; rfl
                      have := R.muL s m (by rw [HEE.out]; exact he0) (by rw [HZ.out]; omega) (by rw [HZ.out]; omega)
                      rw [hmt, waitN_move]
                      omega
                    · have hmt : mv = false := by rw [← HMV.out, decide_eq_false hk0, he0]; rfl
                      have := R.muE s m (by rw [HEE.out]; exact he0)
                      rw [hmt, waitN_idle]
                      omega))
                  obtain rfl : bi = false := by rw [← HBI.out]; exact decide_eq_false h16
                  clear h31 he0 h16
                  go_wp2_with fail
                  go_roundg F
                  case measure => omega
                  case rel => exact ⟨_, _, _, _, GO.out⟩
              · have XE := Lib.hid (show X = ([], ee, R.nxt s m, waitN i mv) by rw [← EQ.out, tk_err (by omega) HM.out NB.out NF.out (by rw [HEE.out]; exact h31) (by rw [HEE.out]; exact he0), HTI.out, HEE.out])
                have t4 : (ee != 0) = true := by rw [bne_iff_ne]; exact he0
                clear h31 he0
                go_wp2_with fail
                go_ret2
                rw [XE.out]
                exact ⟨.slice none 0 0, S1, rfl, OwT.nil _ _ _ _, ⟨y, I5.out, .inl rfl⟩, ST5.out, SUB1.out, fun j e => (by cases e), TU5.out⟩
    · have XE := Lib.hid (show X = (b, 0, s, i) by rw [← M.out.eq]; exact tk_has (by omega))
      have t1 : decide ((b.length : Int) < (n : Int)) = false := decide_eq_false (by omega)
      have t1' : decide (b.length < n) = false := decide_eq_false hlt
      go_wp2_with fail
      go_ret2
      rw [XE.out]
      exact ⟨_, S, rfl, M.out.ow, ⟨y, M.out.io, .inl rfl⟩, M.out.st, M.out.sub, M.out.dis, M.out.tu⟩
end Go.Proofs.Ytpenbaafhbbmhaa

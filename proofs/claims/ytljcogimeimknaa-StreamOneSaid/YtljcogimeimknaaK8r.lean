/- Several texts in one: CurIn, CurIn2, CurNum, RdDef, PairRdDef, VintRdM, VintRead. Each has its own sentence and conditions below. -/
import Derived.Test.YtljcogimeimknaaK8q
import Derived.Deep.DeepCutAuto
import Derived.Deep.LoopGhost
import Derived.BigQuiet
import Derived.Test.YtljcogimeimknaaK8f
import Derived.Test.YtljcogimeimknaaK8b
import Derived.WalkMore
import Derived.Test.YtljcogimeimknaaK8a
/- The program's In: waits, ends, take: contracts over any reader. Conditions: numbers and what is taken within reach. -/
namespace Go.Proofs.Ytljcogimeimknaa
open Go.RowKit Go.Shelf
set_option maxRecDepth 100000
set_option linter.unusedVariables false
set_option linter.unusedSimpArgs false
attribute [local go_sem] Oper.semAt_some

/-- an In in block g, a byte held or none -/
def InB (w : World) (g : Nat) (most : Int) (rv : Value) (pl : Nat) (er : Int) (i : Nat) (y : UInt8) (ho : Bool) : Prop :=
  w.heap[g]? = some (.cells #[.int .i64 (pl : Nat), .int .i64 er, .int .i64 (i : Nat), rv, .int .i64 most, .int .u8 (B y), .bool ho] 121 (0, 0))
def InP (w : World) (g : Nat) (most : Int) (rv : Value) (pl : Nat) (er : Int) (i : Nat) (held : List UInt8) : Prop :=
  ∃ y, InB w g most rv pl er i y (decide (held ≠ [])) ∧ (held = [] ∨ held = [y])
section
variable {w w' : World} {g pl i : Nat} {most er : Int} {rv : Value} {y : UInt8} {ho : Bool}
theorem InB.c0 (h : InB w g most rv pl er i y ho) : w.cell? ⟨g, 0, none⟩ = some (.int .i64 (pl : Nat)) := cell_of h 0 rfl
theorem InB.c1 (h : InB w g most rv pl er i y ho) : w.cell? ⟨g, 1, none⟩ = some (.int .i64 er) := cell_of h 1 rfl
theorem InB.c2 (h : InB w g most rv pl er i y ho) : w.cell? ⟨g, 2, none⟩ = some (.int .i64 (i : Nat)) := cell_of h 2 rfl
theorem InB.c3 (h : InB w g most rv pl er i y ho) : w.cell? ⟨g, 3, none⟩ = some rv := cell_of h 3 rfl
theorem InB.c4 (h : InB w g most rv pl er i y ho) : w.cell? ⟨g, 4, none⟩ = some (.int .i64 most) := cell_of h 4 rfl
theorem InB.c5 (h : InB w g most rv pl er i y ho) : w.cell? ⟨g, 5, none⟩ = some (.int .u8 (B y)) := cell_of h 5 rfl
theorem InB.c6 (h : InB w g most rv pl er i y ho) : w.cell? ⟨g, 6, none⟩ = some (.bool ho) := cell_of h 6 rfl
theorem InB.free (h : InB w g most rv pl er i y ho) (k : Nat) : w.frozen? ⟨g, k, none⟩ = false := free_block h k
theorem InB.lt (h : InB w g most rv pl er i y ho) : g < w.heap.size := (Array.getElem?_eq_some_iff.1 h).1
theorem InB.turns {S : Nat → Prop} (h : InB w g most rv pl er i y ho) (ht : Turns S w w') (hs : ¬ S g) : InB w' g most rv pl er i y ho := ht.heap h hs
theorem InB.s0 (h : InB w g most rv pl er i y ho) (k : Nat) : InB (w.setCell ⟨g, 0, none⟩ (.int .i64 (k : Nat))) g most rv k er i y ho := set_block (i := 0) h _
theorem InB.s1 (h : InB w g most rv pl er i y ho) (e : Int) : InB (w.setCell ⟨g, 1, none⟩ (.int .i64 e)) g most rv pl e i y ho := set_block (i := 1) h _
theorem InB.s2 (h : InB w g most rv pl er i y ho) (k : Nat) : InB (w.setCell ⟨g, 2, none⟩ (.int .i64 (k : Nat))) g most rv pl er k y ho := set_block (i := 2) h _
theorem InB.s5 (h : InB w g most rv pl er i y ho) (z : UInt8) : InB (w.setCell ⟨g, 5, none⟩ (.int .u8 (B z))) g most rv pl er i z ho := set_block (i := 5) h _
theorem InB.s6 (h : InB w g most rv pl er i y ho) (b : Bool) : InB (w.setCell ⟨g, 6, none⟩ (.bool b)) g most rv pl er i y b := set_block (i := 6) h _
end
theorem setT {g : Nat} (w : World) (i : Nat) (v : Value) : Turns (fun j => j = g) w (w.setCell ⟨g, i, none⟩ v) := Turns.set (S := fun j => j = g) w (b := g) (i := i) rfl v
theorem waits_any (g : Nat) (most : Int) (rv : Value) (pl : Nat) (er : Int) (i : Nat) (y : UInt8) (ho mv : Bool) (w : World) (h : InB w g most rv pl er i y ho) (hi : i ≤ 1000) :
    Calls Try.prog 116 #[.pointer (some ⟨g, 0, none⟩), .bool mv] w fun e w' => e = .returned (.bool (decide (waitN i mv = 16))) ∧ InB w' g most rv pl er (waitN i mv) y ho ∧ Turns (fun j => j = g) w w' := by
  have c2 := h.c2
  have f2 := h.free 2
  have r1 : IntKind.i64.wrap ((i : Int) + 1) = (i : Int) + 1 := IntWalk.i64_in _ (by omega)
  have h1 := h.s2 (i + 1)
  have H1 := Lib.hid h1
  have d2 : (w.setCell ⟨g, 2, none⟩ (.int .i64 ((i : Int) + 1))).cell? ⟨g, 2, none⟩ = some (.int .i64 ((i : Int) + 1)) := h1.c2
  have e2 : (w.setCell ⟨g, 2, none⟩ (.int .i64 ((i : Int) + 1))).frozen? ⟨g, 2, none⟩ = false := h1.free 2
  clear h1
  cases mv with
  | true =>
    have h2 := H1.out.s2 0
    have g2 : ((w.setCell ⟨g, 2, none⟩ (.int .i64 ((i : Int) + 1))).setCell ⟨g, 2, none⟩ (.int .i64 0)).cell? ⟨g, 2, none⟩ = some (.int .i64 0) := h2.c2
    have H2 := Lib.hid h2
    clear h h2
    go_enter Try.func116, Try.ntmps116
    go_wp2_with fail
    go_ret
    exact ⟨rfl, H2.out, (setT _ _ _).trans (setT _ _ _) fun _ _ e => e⟩
  | false =>
    have t1 : ((i : Int) + 1 == 16) = decide (waitN i false = 16) := by rw [waitN_idle, Bool.eq_iff_iff]; simp; omega
    clear h
    go_enter Try.func116, Try.ntmps116
    go_wp2_with fail
    go_ret
    exact ⟨rfl, H1.out, setT _ _ _⟩
theorem ends_any (g : Nat) (most : Int) (rv : Value) (pl : Nat) (er e : Int) (i : Nat) (y : UInt8) (ho : Bool) (w : World) (h : InB w g most rv pl er i y ho) :
    Calls Try.prog 98 #[.pointer (some ⟨g, 0, none⟩), .int .i64 e] w fun r w' => r = .returned (.int .i64 e) ∧ InB w' g most rv pl e i y ho ∧ Turns (fun j => j = g) w w' := by
  have c1 := h.c1
  have f1 := h.free 1
  have H1 := Lib.hid (h.s1 e)
  clear h
  go_enter Try.func98, Try.ntmps98
  go_wp2_with fail
  go_ret
  exact ⟨rfl, H1.out, setT _ _ _⟩
/-- behind take -/
def TakePost {σ : Type} (St : σ → (Nat → Prop) → World → Prop) (X : List UInt8 × Int × σ × Nat) (S0 : Nat → Prop) (g : Nat) (most : Int) (rv : Value) (pl : Nat) (er : Int) (w : World) (r : Ending) (w' : World) : Prop :=
  ∃ bv S', r = .returned (.tuple #[bv, .int .i64 X.2.1]) ∧ OwT fB w' w.heap.size 5 bv X.1 ∧ InP w' g most rv pl er X.2.2.2 [] ∧ St X.2.2.1 S' w' ∧ (∀ j, S' j → S0 j ∨ w.heap.size ≤ j) ∧ (∀ j, bv.ownBlock = some j → ¬ S' j) ∧ Turns (fun j => S0 j ∨ j = g) w w'
/-- what is taken fits -/
def Caps {σ : Type} (R : Rm σ) (s : σ) (n : Nat) : Prop := n ≤ 140737488355328 ∨ ∃ vo : σ → Nat, (∀ s n, 0 ≤ R.num s n → R.num s n ≤ n → vo (R.nxt s n) + (R.num s n).toNat ≤ vo s) ∧ vo s ≤ 140737488351232
/-- in the midst of take -/
structure TkM {σ : Type} (R : Rm σ) (St : σ → (Nat → Prop) → World → Prop) (X : List UInt8 × Int × σ × Nat) (w : World) (S0 : Nat → Prop) (g : Nat) (most : Int) (rv : Value) (pl : Nat) (er : Int) (y : UInt8) (n i0 : Nat) (s0 : σ) (F : Nat) (bv : Value) (b : List UInt8) (s : σ) (S : Nat → Prop) (i : Nat) (W : World) : Prop where
  eq : tk R F s i b n = X
  ow : OwT fB W w.heap.size 5 bv b
  io : InB W g most rv pl er i y false
  st : St s S W
  sub : ∀ j, S j → S0 j ∨ w.heap.size ≤ j
  dis : ∀ j, bv.ownBlock = some j → ¬ S j
  tu : Turns (fun j => S0 j ∨ j = g) w W
  il : i ≤ 15
  len : b.length ≤ n
  cap : n ≤ 140737488355328 ∨ ∃ vo : σ → Nat, (∀ s n, 0 ≤ R.num s n → R.num s n ≤ n → vo (R.nxt s n) + (R.num s n).toNat ≤ vo s) ∧ b.length + vo s ≤ 140737488351233
  fl : n ≤ b.length ∨ (R.mu s * 17 + 16 - i < F ∧ R.cnt s + R.mu s * 17 + i0 ≤ R.cnt s0 + R.mu s0 * 17 + i)
set_option maxHeartbeats 4000000 in
theorem ctake_any {σ : Type} {R : Rm σ} {fn : FuncId} {v : Value} {lo Br bd : Nat} {St : σ → (Nat → Prop) → World → Prop} (RD : Reader R fn v lo Br St bd) (T : TypeId)
    (hme : ∀ w, (method 296 T v "Read").run Try.prog w = .ok (fn, v) w) (hen : ∀ (args : Array Value) (W : World), (callFunc fn args).run Try.prog W = .ok (.enter fn args) W) (hmu : ∀ s n, R.mu (R.nxt s n) ≤ R.mu s)
    (g : Nat) (most : Int) (pl : Nat) (er : Int) (s0 : σ) (S0 : Nat → Prop) (i0 : Nat) (held : List UInt8) (n : Nat) (w : World) (hI : InP w g most (.iface T v) pl er i0 held) (hS : St s0 S0 w) (hgS : ¬ S0 g) (hbd : bd ≤ g)
    (hn1 : 1 ≤ n) (hn : n ≤ 9223372036854775807) (hi : i0 ≤ 15) (hc : R.cnt s0 + R.mu s0 * 17 + 32 ≤ Br) (hcap : Caps R s0 n) :
    Calls Try.prog 99 #[.pointer (some ⟨g, 0, none⟩), .int .i64 (n : Nat)] w (TakePost St (tk R (R.mu s0 * 17 + 17) s0 i0 held n) S0 g most (.iface T v) pl er w) := by
  obtain ⟨X, hX⟩ : ∃ X, tk R (R.mu s0 * 17 + 17) s0 i0 held n = X := ⟨_, rfl⟩
  rw [hX]
  have HX := Lib.hid hX
  obtain ⟨y, hB, hh⟩ := hI
  have HB := Lib.hid hB
  have ST := Lib.hid hS
  have HC := Lib.hid hc
  have HCAP := Lib.hid hcap
  have lg := hB.lt
  have NG := Lib.hid hgS
  have c6 := hB.c6
  have c5 := hB.c5
  have f6 := hB.free 6
  have t0 : decide ((n : Int) > 0) = true := decide_eq_true (by omega)
  have t0' : decide (0 < n) = true := decide_eq_true hn1
  have HH := Lib.hid hh
  clear hX hB hS hc hcap hgS hh
  go_enter Try.func99, Try.ntmps99
  obtain ⟨hb, hhb⟩ : ∃ hb, decide (held ≠ []) = hb := ⟨_, rfl⟩
  have HHB := Lib.hid hhb
  clear hhb
  go_upto_region 2 with (fail)
  go_cut [18] (fun v18 wx => v18 = .bool hb ∧ w = wx)
  case first =>
    rcases HH.out with rfl | rfl
    · obtain rfl : hb = false := HHB.out.symm
      have c6' : w.cell? ⟨g, 6, none⟩ = some (.bool false) := c6
      clear c6
      go_wp2_with fail
      go_meet
      exact ⟨rfl, rfl⟩
    · obtain rfl : hb = true := HHB.out.symm
      have c6' : w.cell? ⟨g, 6, none⟩ = some (.bool true) := c6
      clear c6
      go_wp2_with fail
      go_meet
      exact ⟨rfl, rfl⟩
  case rest =>
  obtain ⟨rfl, h2⟩ := hcut
  subst h2
  go_upto_if 18 with (fail)
  go_cut [6] (fun v6 wx => OwT fB wx w.heap.size 5 v6 held ∧ InB wx g most (.iface T v) pl er i0 y false ∧ Turns (fun j => j = g) w wx)
  case first =>
    rcases HH.out with rfl | rfl
    · obtain rfl : hb = false := HHB.out.symm
      have c6' : w.cell? ⟨g, 6, none⟩ = some (.bool false) := c6
      clear c6
      go_wp2_with fail
      go_meet
      exact ⟨OwT.nil _ _ _ _, HB.out, .refl _ _⟩
    · obtain rfl : hb = true := HHB.out.symm
      have c6' : w.cell? ⟨g, 6, none⟩ = some (.bool true) := c6
      clear c6
      go_wp2_with (at_builtin; refine wpList_appT eltTB rfl (.tmp 20) (.tmp 25) rfl w.heap.size _ [] (by rfl) (OwT.nil fB _ w.heap.size _) _ 1 1 [y] (by rfl) (Sl.lit _ _ _ _ _ rfl rfl).toT (by unfold maxLen; simp) (by simp) (by simp) [y] rfl ?_; intro v9 w9 h9 hg9 hv9 hb9; have O9 := Lib.hid h9; have B9 := Lib.hid (((Below.refl w.heap.size w).alloc (Nat.le_refl _) (.cells #[.int .u8 (B y)] 5)).trans hb9); have I9 := Lib.hid (show InB w9 g most (.iface T v) pl er i0 y true from (B9.out.block g lg).trans HB.out); have d6 := I9.out.c6; have e6 := I9.out.free 6; clear h9 hg9 hv9 hb9)
      go_meet
      exact ⟨O9.out.of_block fun j hj => Below.heap_setCell _ _ _ _ (by have := (O9.out.lt j hj).1; intro e; have e : j = g := e; omega), I9.out.s6 false, (Turns.of_below B9.out).trans (setT _ _ _) fun _ _ e => e⟩
  case rest =>
  obtain ⟨w2, rfl⟩ : ∃ w5, w5 = wc := ⟨_, rfl⟩
  obtain ⟨ho, hio, ht⟩ := hcut
  have ST2 := RD.frame s0 S0 _ _ _ ST.out ht (fun j hj e => by subst e; exact NG.out hj) (fun j e => by omega)
  have T0 := Lib.hid (show TkM R St X w S0 g most (.iface T v) pl er y n i0 s0 (R.mu s0 * 17 + 17) u6 held s0 S0 i0 w2 from
    { eq := HX.out, ow := ho, io := hio, st := ST2, sub := fun j hj => .inl hj, dis := fun j hj h => by have := (ho.lt j hj).1; have := (RD.inS _ _ _ ST.out j h).2; omega, tu := ht.mono fun j _ e => .inr e, il := hi
      len := by rcases HH.out with e | e <;> rw [e] <;> simp <;> omega
      cap := by
        rcases HCAP.out with h | ⟨vo, h1, h2⟩
        · exact .inl h
        · refine .inr ⟨vo, h1, ?_⟩
          rcases HH.out with e | e <;> rw [e] <;> simp <;> omega
      fl := .inr ⟨by omega, Nat.le_refl _⟩ })
  clear ho hio ht ST2 HX HB HCAP HH c5 c6 f6 t0 t0'
  go_wp2_with fail
  go_loopg [6] (R.mu s0 * 17 + 17) (fun F v6 wr => ∃ b s S i, TkM R St X w S0 g most (.iface T v) pl er y n i0 s0 F v6 b s S i wr)
  case atStart => exact ⟨held, s0, S0, i0, T0.out⟩
  case round =>
    obtain ⟨b, s, S, i, hM⟩ := hrel
    have M := Lib.hid hM
    obtain ⟨a, cc, hv6, -⟩ := hM.ow.slB
    subst hv6
    clear hM T0
    by_cases hlt : b.length < n
    · have c3 := M.out.io.c3
      obtain ⟨r, hr⟩ : ∃ r, n - b.length = r := ⟨_, rfl⟩
      obtain ⟨m, hm⟩ : ∃ m, askN n b.length = m := ⟨_, rfl⟩
      have hmr : m = min r 4096 := by rw [← hm, ← hr]; rfl
      have HM := Lib.hid hm
      have t1 : decide ((b.length : Int) < (n : Int)) = true := decide_eq_true (by omega)
      have t1' : decide (b.length < n) = true := decide_eq_true hlt
      have r1 : IntKind.i64.wrap ((n : Int) - (b.length : Int)) = (r : Nat) := by rw [IntWalk.i64_in _ (by omega)]; omega
      have hM1 : (if (r : Int) < 4096 then (r : Int) else 4096) = (m : Nat) := by split <;> omega
      have hM2 : (if 4096 < (r : Int) then 4096 else (r : Int)) = (m : Nat) := by split <;> omega
      have hM3 : min (r : Int) 4096 = (m : Nat) := by omega
      have hm1 : 1 ≤ m ∧ m ≤ 4096 := by omega
      clear hm hr hmr
      go_wp2_with (refine wpList_mkT eltTB rfl (.tmp 37) (.tmp 37) rfl 0 m m (Nat.le_refl _) (by rfl) (by rfl) rfl rfl (by omega) (by simp only [maxLen]; omega) (Nat.zero_le _) ?_; intro x0 wp hp _ _ hbp; have HP := Lib.hid (show wp.heap[wr.heap.size]? = some (.cells ((List.replicate m x0).map Bf).toArray 5 (0, 0)) by rw [← flat_fB]; exact hp); have HBP := Lib.hid hbp; have c3p := (M.out.io.turns (Turns.of_below (S := fun _ => False) HBP.out) id).c3; clear hp hbp)
      have hgp : ¬ S wr.heap.size := fun h => by have := (RD.inS _ _ _ M.out.st _ h).2; omega
      have hlg : g < wr.heap.size := M.out.io.lt
      have STP := Lib.hid (RD.frame _ _ (fun _ => False) _ _ M.out.st (.of_below HBP.out) (fun _ _ e => e) (fun _ e => e.elim))
      have hnb := R.numB s m (by omega)
      have hlayE := R.layE s m
      have hfl : R.mu s * 17 + 16 - i < gk ∧ R.cnt s + R.mu s * 17 + i0 ≤ R.cnt s0 + R.mu s0 * 17 + i := by
        rcases M.out.fl with h | h
        · omega
        · exact h
      have hil := M.out.il
      refine (RD.read s S wp wr.heap.size m m (List.replicate m x0) STP.out (by have := HC.out; omega) (by simp) (Nat.le_refl _) (by omega) HP.out hgp (by omega)).mono ?_
      rintro e W1 ⟨rfl, S1, hst1, hS1, hT1, hr1⟩
      have T1 := (Turns.of_below (S := fun j => S j ∨ j = wr.heap.size) HBP.out).trans hT1 fun _ _ e => e
      have hwz : w.heap.size ≤ wr.heap.size := M.out.tu.size
      have hlo := M.out.ow.lt
      have hSS : ∀ j, S1 j → S j ∨ wr.heap.size ≤ j := fun j hj => by
        rcases hS1 j hj with e | e
        · exact .inl e
        · exact .inr (Nat.le_trans HBP.out.size e)
      have gS : ¬ S g := fun h => by rcases M.out.sub g h with e | e; (exact NG.out e); (omega)
      have O1 := Lib.hid (M.out.ow.turns T1 fun j hj e => by rcases e with e | e; (exact M.out.dis j hj e); (have := (hlo j hj).2; omega))
      have IO1 := Lib.hid (M.out.io.turns T1 fun e => by rcases e with e | e; (exact gS e); (omega))
      have SUB1 := Lib.hid (show ∀ j, S1 j → S0 j ∨ w.heap.size ≤ j from fun j hj => by rcases hSS j hj with e | e; (exact M.out.sub j e); (exact .inr (by omega)))
      have DIS1 := Lib.hid (show ∀ j, Value.ownBlock (.slice a b.length cc) = some j → ¬ S1 j from fun j hj h => by rcases hSS j h with e | e; (exact M.out.dis j hj e); (have := (hlo j hj).2; omega))
      have TU1 := Lib.hid (M.out.tu.trans T1 fun j hj e => by
        rcases e with e | e
        · rcases M.out.sub j e with h | h
          · exact .inl h
          · omega
        · omega)
      have ST1 := Lib.hid hst1
      have R1 := Lib.hid hr1
      have LT1 := Lib.hid (show ∀ j, Value.ownBlock (.slice a b.length cc) = some j → w.heap.size ≤ j ∧ j < W1.heap.size from fun j hj => ⟨(hlo j hj).1, by have := (hlo j hj).2; have := T1.size; omega⟩)
      have gS1 : ¬ S1 g := fun h => by rcases hSS g h with e | e; (exact gS e); (omega)
      have GS1 := Lib.hid gS1
      have hgp1 : wr.heap.size < W1.heap.size := by have := T1.size; have := hT1.size; have := (Array.getElem?_eq_some_iff.1 HP.out).1; omega
      have hwz1 : w.heap.size ≤ W1.heap.size := by omega
      have HIN := Lib.hid (RD.inS _ _ _ hst1)
      have NP1 := Lib.hid (show ¬ S1 wr.heap.size from fun h => by
        rcases hS1 _ h with e | e
        · exact hgp e
        · have := (Array.getElem?_eq_some_iff.1 HP.out).1; omega)
      obtain ⟨F, hF⟩ : ∃ F, gk = F + 1 := ⟨gk - 1, by omega⟩
      subst hF
      obtain ⟨z, hz⟩ : ∃ z, R.num s m = z := ⟨_, rfl⟩
      obtain ⟨ee, hee⟩ : ∃ ee, R.er s m = ee := ⟨_, rfl⟩
      have HZ := Lib.hid hz
      have HEE := Lib.hid hee
      rw [hz] at hnb hlayE
      rw [hz, hee]
      have HFL := Lib.hid hfl
      have EQ := Lib.hid M.out.eq
      have CAP := Lib.hid M.out.cap
      have hbl := M.out.len
      clear hz hee T1 hst1 hS1 hT1 hr1 STP HP HBP hgp hSS gS M hlo hfl gS1 hM1 hM2 hM3 r1 c3 c3p
      by_cases hbad : z < 0 ∨ (m : Int) < z
      · have XE := Lib.hid (show X = ([], 34, R.nxt s m, i) by rw [← EQ.out]; exact tk_bad (by omega) HM.out (by rw [HZ.out]; exact hbad))
        rcases hbad with h | h
        case' inl =>
          have u1 : decide (z < 0) = true := decide_eq_true h
          clear h
        case' inr =>
          have u1 : decide (z < 0) = false := decide_eq_false (by omega)
          have u2 : decide (z > (m : Int)) = true := decide_eq_true h
          have u2' : decide ((m : Int) < z) = true := decide_eq_true h
          clear h
        all_goals
          go_wp2_with fail
          go_ret2
          rw [XE.out]
          exact ⟨.slice none 0 0, S1, rfl, OwT.nil _ _ _ _, ⟨y, IO1.out, .inl rfl⟩, ST1.out, SUB1.out, fun j e => (by cases e), TU1.out⟩
      · obtain ⟨k, rfl⟩ : ∃ k : Nat, z = k := ⟨z.toNat, by omega⟩
        have hks : k ≤ m := by omega
        have hlk : (R.lay s m).length = k := by have := hlayE (by omega) (by omega); omega
        obtain ⟨P, hP⟩ : ∃ P, R.lay s m = P := ⟨_, rfl⟩
        rw [hP] at R1 hlk
        have NB := Lib.hid (show ¬ (R.num s m < 0 ∨ (m : Int) < R.num s m) by rw [HZ.out]; omega)
        have TB := Lib.hid (show tkB R s b n = b ++ P by unfold tkB; rw [HM.out, hP, HZ.out, Int.toNat_natCast, List.take_of_length_le (by omega)])
        have hcut := fun W : World => run_cutto eltB W (some ⟨wr.heap.size, 0, none⟩) m m .i64 k hks
        have SL1 := Lib.hid (show Sl Bf W1 (some ⟨wr.heap.size, 0, none⟩) k m P from Sl.of_row _ _ _ R1.out hlk hks (by rw [List.map_append, List.take_left' (by rw [List.length_map]; exact hlk)]))
        have v1 : decide ((k : Int) < 0) = false := decide_eq_false (by omega)
        have v2 : decide ((k : Int) > (m : Int)) = false := decide_eq_false (by omega)
        have v2' : decide (m < k) = false := decide_eq_false (by omega)
        have hbn : b.length + k ≤ n := by have hh := HM.out; unfold askN at hh; omega
        have hbk : b.length + k ≤ 140737488355328 := by
          rcases CAP.out with h | ⟨vo, h1, h2⟩
          · omega
          · have := h1 s m (by rw [HZ.out]; omega) (by rw [HZ.out]; omega)
            rw [HZ.out, Int.toNat_natCast] at this
            omega
        have HLK := Lib.hid hlk
        clear hP hlk hlayE hbad hnb R1
        go_upto_region 9 with (fail)
        obtain ⟨mv, hmv⟩ : ∃ mv, (decide (0 < k) || decide (ee ≠ 0)) = mv := ⟨_, rfl⟩
        have HMV := Lib.hid hmv
        have hti : tkI R s i m = waitN i mv := by unfold tkI; rw [HZ.out, HEE.out, ← hmv]; simp
        have HTI := Lib.hid hti
        clear hmv hti
        go_upto_region 10 with (at_builtin; refine wpList_appT eltTB rfl (.tmp 56) (.tmp 59) rfl w.heap.size _ b (by rfl) O1.out (some ⟨wr.heap.size, 0, none⟩) k m P (by rfl) SL1.out.toT (by unfold maxLen; omega) (by omega) hwz1 _ rfl ?_; intro v9 w9 h9 hg9 hv9 hb9; obtain ⟨a9, n9, c9, rfl, z9⟩ := h9.slN; have O9 := Lib.hid h9; have G9 := Lib.hid (Turns.of_grown (S := fun j => Value.ownBlock (.slice a b.length cc) = some j) hg9 fun j e => e); have V9 := Lib.hid hv9; have L9 := Lib.hid z9.len; clear h9 hg9 hv9 hb9 z9)
        have IO9 := Lib.hid (IO1.out.turns G9.out fun e => by have := (LT1.out g e).1; omega)
        have HN9 := Lib.hid (show n9 = b.length + k by rw [← L9.out, List.length_append, HLK.out])
        obtain ⟨bi, hbi⟩ : ∃ bi, decide (waitN i mv = 16) = bi := ⟨_, rfl⟩
        have HBI := Lib.hid hbi
        have WT := Lib.hid (waits_any g most (.iface T v) pl er i y false mv w9 IO9.out (by omega))
        rw [hbi] at WT
        clear hbi
        have ST9 := Lib.hid (RD.frame _ _ _ _ _ ST1.out G9.out (fun j hj e => DIS1.out j e hj) (fun j e => by have := (LT1.out j e).1; omega))
        have DIS9 := Lib.hid (show ∀ j, Value.ownBlock (.slice a9 n9 c9) = some j → ¬ S1 j from fun j hj h => by
          rcases V9.out with e | e
          · exact DIS1.out j (e ▸ hj) h
          · rw [e] at hj; injection hj with hj; have := (HIN.out j h).2; omega)
        have TU9 := Lib.hid (TU1.out.trans G9.out fun j hj e => by have := (LT1.out j e).1; omega)
        clear O1 IO1 TU1 ST1 G9 V9 LT1 SL1 DIS1 hcut
        go_cut [10] (fun v10 wx => v10 = .bool bi ∧ InB wx g most (.iface T v) pl er (waitN i mv) y false ∧ Turns (fun j => j = g) w9 wx)
        case first =>
          by_cases hk0 : 0 < k
          · have u4 : decide ((k : Int) > 0) = true := decide_eq_true (by omega)
            have u4' : decide (0 < k) = true := decide_eq_true hk0
            obtain rfl : mv = true := by rw [← HMV.out, u4']; rfl
            clear hk0
            go_wp2_with fail
            refine WT.out.mono ?_
            rintro e w5 ⟨rfl, h1, h2⟩
            have I5 := Lib.hid h1
            have T5 := Lib.hid h2
            clear h1 h2
            go_wp2_with fail
            go_meet
            exact ⟨rfl, I5.out, T5.out⟩
          · have u4 : decide ((k : Int) > 0) = false := decide_eq_false (by omega)
            have u4' : decide (0 < k) = false := decide_eq_false hk0
            have hmv : decide (ee ≠ 0) = mv := by rw [← HMV.out, u4']; rfl
            have u5 : (ee != 0) = mv := by rw [← hmv]; by_cases h : ee = 0 <;> simp [h]
            clear hk0 hmv
            go_wp2_with fail
            refine WT.out.mono ?_
            rintro e w5 ⟨rfl, h1, h2⟩
            have I5 := Lib.hid h1
            have T5 := Lib.hid h2
            clear h1 h2
            go_wp2_with fail
            go_meet
            exact ⟨rfl, I5.out, T5.out⟩
        case rest =>
          obtain ⟨w5, rfl⟩ : ∃ w6, w6 = wc := ⟨_, rfl⟩
          obtain ⟨rfl, hi5, ht5⟩ := hcut
          have I5 := Lib.hid hi5
          have O5 := Lib.hid (O9.out.turns ht5 fun j hj e => by have := (O9.out.lt j hj).1; omega)
          have ST5 := Lib.hid (RD.frame _ _ _ _ _ ST9.out ht5 (fun j hj e => by subst e; exact GS1.out hj) (fun j e => by omega))
          have TU5 := Lib.hid (TU9.out.trans ht5 fun j hj e => .inr e)
          clear hi5 ht5 O9 IO9 WT ST9 TU9
          have NEXT := Lib.hid (fun (F' : Nat) (h1 : tk R F' (R.nxt s m) (waitN i mv) (b ++ P) n = X) (h2 : waitN i mv ≤ 15) (h3 : n ≤ (b ++ P).length ∨ (R.mu (R.nxt s m) * 17 + 16 - waitN i mv < F' ∧ R.cnt (R.nxt s m) + R.mu (R.nxt s m) * 17 + i0 ≤ R.cnt s0 + R.mu s0 * 17 + waitN i mv)) =>
            show TkM R St X w S0 g most (.iface T v) pl er y n i0 s0 F' (.slice a9 n9 c9) (b ++ P) (R.nxt s m) S1 (waitN i mv) w5 from
            { eq := h1, ow := O5.out, io := I5.out, st := ST5.out, sub := SUB1.out, dis := DIS9.out, tu := TU5.out, il := h2, len := by rw [L9.out, HN9.out]; exact hbn
              cap := by
                rcases CAP.out with h | ⟨vo, q1, q2⟩
                · exact .inl h
                · have := q1 s m (by rw [HZ.out]; omega) (by rw [HZ.out]; omega)
                  rw [HZ.out, Int.toNat_natCast] at this
                  exact .inr ⟨vo, q1, by rw [L9.out, HN9.out]; omega⟩
              fl := h3 })
          by_cases hfull : n9 = n
          · have hk0 : 0 < k := by have := HN9.out; omega
            have hmt : mv = true := by rw [← HMV.out, decide_eq_true hk0]; rfl
            have GO := Lib.hid (NEXT.out F (by rw [tk_has (by rw [L9.out, hfull]; exact Nat.le_refl _), ← EQ.out, tk_full (by omega) HM.out NB.out (by rw [TB.out, L9.out]; exact hfull), TB.out, HTI.out]) (by rw [hmt]; exact Nat.zero_le _) (.inl (by rw [L9.out, hfull]; exact Nat.le_refl _)))
            have t2 : ((n9 : Int) == (n : Int)) = true := by rw [beq_iff_eq]; omega
            have t2' : (n9 == n) = true := by rw [beq_iff_eq]; exact hfull
            clear hfull hk0 hmt
            go_wp2_with fail
            go_roundg F
            case measure => omega
            case rel => exact ⟨_, _, _, _, GO.out⟩
          · have NF := Lib.hid (show (tkB R s b n).length ≠ n by rw [TB.out, L9.out]; exact hfull)
            have t2 : ((n9 : Int) == (n : Int)) = false := by rw [beq_eq_false_iff_ne]; omega
            have t2' : (n9 == n) = false := by rw [beq_eq_false_iff_ne]; exact hfull
            clear hfull
            by_cases h31 : ee = 31
            · have XE := Lib.hid (show X = ([], 41, R.nxt s m, waitN i mv) by rw [← EQ.out, tk_end (by omega) HM.out NB.out NF.out (by rw [HEE.out]; exact h31), HTI.out])
              have t3 : (ee == 31) = true := by rw [beq_iff_eq]; exact h31
              clear h31
              go_wp2_with fail
              go_ret2
              rw [XE.out]
              exact ⟨.slice none 0 0, S1, rfl, OwT.nil _ _ _ _, ⟨y, I5.out, .inl rfl⟩, ST5.out, SUB1.out, fun j e => (by cases e), TU5.out⟩
            · have t3 : (ee == 31) = false := by rw [beq_eq_false_iff_ne]; exact h31
              by_cases he0 : ee = 0
              · have t4 : (ee != 0) = false := by rw [bne_eq_false_iff_eq]; exact he0
                by_cases h16 : waitN i mv = 16
                · have XE := Lib.hid (show X = ([], 33, R.nxt s m, waitN i mv) by rw [← EQ.out, tk_idle (by omega) HM.out NB.out NF.out (by rw [HEE.out]; exact he0) (by rw [HTI.out]; exact h16), h16])
                  obtain rfl : bi = true := by rw [← HBI.out]; exact decide_eq_true h16
                  clear h31 he0 h16
                  go_wp2_with fail
                  go_ret2
                  rw [XE.out]
                  exact ⟨.slice none 0 0, S1, rfl, OwT.nil _ _ _ _, ⟨y, I5.out, .inl rfl⟩, ST5.out, SUB1.out, fun j e => (by cases e), TU5.out⟩
                · have GO := Lib.hid (NEXT.out F (by rw [← EQ.out, tk_go (by omega) HM.out NB.out NF.out (by rw [HEE.out]; exact he0) (by rw [HTI.out]; exact h16), HTI.out, TB.out]) (by have := tkI_le (R := R) (s := s) (m := m) hil; rw [HTI.out] at this; omega) (by
                    right
                    have hf := HFL.out
                    have hc := R.cntS s m
                    by_cases hk0 : 0 < k
                    · have hmt : mv = true := by rw [← HMV.out, decide_eq_true hk0]; rfl
                      have := R.muL s m (by rw [HEE.out]; exact he0) (by rw [HZ.out]; omega) (by rw [HZ.out]; omega)
                      rw [hmt, waitN_move]
                      omega
                    · have hmt : mv = false := by rw [← HMV.out, decide_eq_false hk0, he0]; rfl
                      have := R.muE s m (by rw [HEE.out]; exact he0)
                      rw [hmt, waitN_idle]
                      omega))
                  obtain rfl : bi = false := by rw [← HBI.out]; exact decide_eq_false h16
                  clear h31 he0 h16
                  go_wp2_with fail
                  go_roundg F
                  case measure => omega
                  case rel => exact ⟨_, _, _, _, GO.out⟩
              · have XE := Lib.hid (show X = ([], ee, R.nxt s m, waitN i mv) by rw [← EQ.out, tk_err (by omega) HM.out NB.out NF.out (by rw [HEE.out]; exact h31) (by rw [HEE.out]; exact he0), HTI.out, HEE.out])
                have t4 : (ee != 0) = true := by rw [bne_iff_ne]; exact he0
                clear h31 he0
                go_wp2_with fail
                go_ret2
                rw [XE.out]
                exact ⟨.slice none 0 0, S1, rfl, OwT.nil _ _ _ _, ⟨y, I5.out, .inl rfl⟩, ST5.out, SUB1.out, fun j e => (by cases e), TU5.out⟩
    · have XE := Lib.hid (show X = (b, 0, s, i) by rw [← M.out.eq]; exact tk_has (by omega))
      have t1 : decide ((b.length : Int) < (n : Int)) = false := decide_eq_false (by omega)
      have t1' : decide (b.length < n) = false := decide_eq_false hlt
      go_wp2_with fail
      go_ret2
      rw [XE.out]
      exact ⟨_, S, rfl, M.out.ow, ⟨y, M.out.io, .inl rfl⟩, M.out.st, M.out.sub, M.out.dis, M.out.tu⟩
end Go.Proofs.Ytljcogimeimknaa
/- The program's In: Bytes, Byte, End, At, Err, NewIn: contracts over any reader. Conditions: numbers and what is taken within reach. -/
namespace Go.Proofs.Ytljcogimeimknaa
open Go.RowKit Go.Shelf
set_option maxRecDepth 100000
set_option linter.unusedVariables false
set_option linter.unusedSimpArgs false

set_option maxHeartbeats 2000000 in
theorem ctake0_any (g : Nat) (most : Int) (rv : Value) (pl : Nat) (er : Int) (i : Nat) (y : UInt8) (ho : Bool) (w : World) (h : InB w g most rv pl er i y ho) :
    Calls Try.prog 99 #[.pointer (some ⟨g, 0, none⟩), .int .i64 0] w fun r w' => r = .returned (.tuple #[.slice none 0 0, .int .i64 0]) ∧ w = w' := by
  have c6 := h.c6
  clear h
  cases ho
  case' false =>
    go_enter Try.func99, Try.ntmps99
    go_wp2_with fail
  case' true =>
    go_enter Try.func99, Try.ntmps99
    go_wp2_with fail
  all_goals
    go_loopg [6] 1 (fun F v6 wr => v6 = .slice none 0 0 ∧ w = wr)
    case atStart => exact ⟨rfl, rfl⟩
    case round =>
      obtain ⟨rfl, rfl⟩ := hrel
      go_wp2_with fail
      go_ret2
      exact ⟨rfl, rfl⟩
/-- behind taking -/
def TakeHPost {σ : Type} (St : σ → (Nat → Prop) → World → Prop) (S0 : Nat → Prop) (g : Nat) (most : Int) (rv : Value) (pl : Nat) (er : Int) (w : World) (b : List UInt8) (e : Int) (s' : σ) (i' : Nat) (hd : List UInt8) (r : Ending) (w' : World) : Prop :=
  ∃ bv S', r = .returned (.tuple #[bv, .int .i64 e]) ∧ OwT fB w' w.heap.size 5 bv b ∧ InP w' g most rv pl er i' hd ∧ St s' S' w' ∧ (∀ j, S' j → S0 j ∨ w.heap.size ≤ j) ∧ (∀ j, bv.ownBlock = some j → ¬ S' j) ∧ Turns (fun j => S0 j ∨ j = g) w w'
section
variable {σ : Type} {R : Rm σ} {fn : FuncId} {v : Value} {lo Br bd : Nat} {St : σ → (Nat → Prop) → World → Prop}
theorem ctakeH_any (RD : Reader R fn v lo Br St bd) (T : TypeId)
    (hme : ∀ w, (method 296 T v "Read").run Try.prog w = .ok (fn, v) w) (hen : ∀ (args : Array Value) (W : World), (callFunc fn args).run Try.prog W = .ok (.enter fn args) W) (hmu : ∀ s n, R.mu (R.nxt s n) ≤ R.mu s)
    (g : Nat) (most : Int) (pl : Nat) (er : Int) (s0 : σ) (S0 : Nat → Prop) (i0 : Nat) (held : List UInt8) (n : Nat) (w : World) (hI : InP w g most (.iface T v) pl er i0 held) (hS : St s0 S0 w) (hgS : ¬ S0 g) (hbd : bd ≤ g)
    (hn : n ≤ 9223372036854775807) (hi : i0 ≤ 15) (hc : R.cnt s0 + R.mu s0 * 17 + 32 ≤ Br) (hcap : Caps R s0 n) {b : List UInt8} {e : Int} {s' : σ} {i' : Nat} {hd : List UInt8} (hX : tkH R s0 i0 held n = (b, e, s', i', hd)) :
    Calls Try.prog 99 #[.pointer (some ⟨g, 0, none⟩), .int .i64 (n : Nat)] w (TakeHPost St S0 g most (.iface T v) pl er w b e s' i' hd) := by
  unfold tkH at hX
  by_cases h0 : n = 0
  · subst h0
    rw [if_pos rfl] at hX
    simp only [Prod.mk.injEq] at hX
    obtain ⟨rfl, rfl, rfl, rfl, rfl⟩ := hX
    obtain ⟨y, hB, hh⟩ := hI
    refine (ctake0_any g most _ pl er i0 y _ w hB).mono ?_
    rintro r w' ⟨rfl, rfl⟩
    exact ⟨.slice none 0 0, S0, rfl, OwT.nil _ _ _ _, ⟨y, hB, hh⟩, hS, fun j hj => .inl hj, fun j e => (by cases e), .refl _ _⟩
  · rw [if_neg h0] at hX
    simp only [Prod.mk.injEq] at hX
    obtain ⟨rfl, rfl, rfl, rfl, rfl⟩ := hX
    exact (ctake_any RD T hme hen hmu g most pl er s0 S0 i0 held n w hI hS hgS hbd (by omega) hn hi hc hcap).mono fun r w' ⟨bv, S', h1, h2, h3, h4, h5, h6, h7⟩ => ⟨bv, S', h1, h2, h3, h4, h5, h6, h7⟩
/-- an In in memory behind an answer -/
structure InA (St : σ → (Nat → Prop) → World → Prop) (g : Nat) (most : Int) (rv : Value) (w : World) (S0 : Nat → Prop) (c : CIn σ) (S : Nat → Prop) (w' : World) : Prop where
  io : InP w' g most rv c.pl c.er c.idle c.held
  st : St c.s S w'
  sub : ∀ j, S j → S0 j ∨ w.heap.size ≤ j
  tu : Turns (fun j => S0 j ∨ j = g) w w'
def CBytesPost (St : σ → (Nat → Prop) → World → Prop) (X : List UInt8 × Int × CIn σ) (S0 : Nat → Prop) (g : Nat) (most : Int) (rv : Value) (w : World) (r : Ending) (w' : World) : Prop :=
  ∃ bv S', r = .returned (.tuple #[bv, .int .i64 X.2.1]) ∧ OwT fB w' w.heap.size 5 bv X.1 ∧ (∀ j, bv.ownBlock = some j → ¬ S' j) ∧ InA St g most rv w S0 X.2.2 S' w'
set_option maxHeartbeats 4000000 in
theorem cbytes_any (RD : Reader R fn v lo Br St bd) (T : TypeId)
    (hme : ∀ w, (method 296 T v "Read").run Try.prog w = .ok (fn, v) w) (hen : ∀ (args : Array Value) (W : World), (callFunc fn args).run Try.prog W = .ok (.enter fn args) W) (hmu : ∀ s n, R.mu (R.nxt s n) ≤ R.mu s)
    (g : Nat) (most n : Int) (c : CIn σ) (S0 : Nat → Prop) (w : World) (P : σ → Prop) (Bd : Nat) (hO : OkayC R P most Bd c) (hI : InP w g most (.iface T v) c.pl c.er c.idle c.held) (hS : St c.s S0 w) (hgS : ¬ S0 g) (hbd : bd ≤ g)
    (hn : -9223372036854775808 ≤ n ∧ n ≤ 9223372036854775807) (hm : most ≤ 9223372036854775807) (hc : Bd + 32 ≤ Br) (hcap : 0 ≤ n → n ≤ most → Caps R c.s n.toNat) :
    Calls Try.prog 81 #[.pointer (some ⟨g, 0, none⟩), .int .i64 n] w (CBytesPost St (bytesM R most n c) S0 g most (.iface T v) w) := by
  obtain ⟨X, hX⟩ : ∃ X, bytesM R most n c = X := ⟨_, rfl⟩
  rw [hX]
  obtain ⟨y, hB, hh⟩ := hI
  have c0 := hB.c0
  have c1 := hB.c1
  have c4 := hB.c4
  have c7 : w.cell? ⟨g, 0, none⟩ = some (.int .i64 (c.pl : Nat)) := c0
  have HB := Lib.hid hB
  have HH := Lib.hid hh
  have ST := Lib.hid hS
  have NG := Lib.hid hgS
  have HX := Lib.hid hX
  have HO := Lib.hid hO
  have hpl := hO.pl
  have lg := hB.lt
  have SAME := Lib.hid (fun (W : World) (hW : Drw w W) => show InA St g most (.iface T v) w S0 c S0 W from
    { io := ⟨y, HB.out.turns (Turns.of_below (S := fun _ => False) hW.below) id, HH.out⟩, st := RD.frame _ _ (fun _ => False) _ _ ST.out (.of_below hW.below) (fun _ _ e => e) (fun _ e => e.elim), sub := fun j hj => .inl hj, tu := .of_below hW.below })
  clear hX hB hh hS hgS hO
  by_cases he : c.er ≠ 0
  · have XE := Lib.hid (show X = ([], c.er, c) by rw [← HX.out]; exact bytes_er he)
    have t1 : (c.er != 0) = true := by rw [bne_iff_ne]; exact he
    clear he hcap c0 c7
    go_enter Try.func81, Try.ntmps81
    go_wp2_with fail
    go_quiet (fail)
    go_wp2_with fail
    go_ret2
    rw [XE.out]
    exact ⟨.slice none 0 0, S0, rfl, OwT.nil _ _ _ _, fun j e => (by cases e), SAME.out _ ((Drw.refl _).more _)⟩
  have he : c.er = 0 := by simpa using he
  have t1 : (c.er != 0) = false := by rw [bne_eq_false_iff_eq]; exact he
  by_cases hneg : n < 0
  · have XE := Lib.hid (show X = ([], 1, c) by rw [← HX.out]; exact bytes_neg he hneg)
    have t2 : decide (n < 0) = true := decide_eq_true hneg
    clear he hcap c0 c7
    go_enter Try.func81, Try.ntmps81
    go_wp2_with fail
    go_ret2
    rw [XE.out]
    exact ⟨.slice none 0 0, S0, rfl, OwT.nil _ _ _ _, fun j e => (by cases e), SAME.out _ (Drw.refl _)⟩
  have t2 : decide (n < 0) = false := decide_eq_false hneg
  have r1 : IntKind.i64.wrap (most - (c.pl : Int)) = most - (c.pl : Int) := IntWalk.i64_in _ (by omega)
  by_cases hmo : most - c.pl < n
  · have XE := Lib.hid (show X = ([], 42, { c with er := 42 }) by rw [← HX.out]; exact bytes_most he hneg hmo)
    have t3 : decide (n > most - (c.pl : Int)) = true := decide_eq_true hmo
    have t3' : decide (most - (c.pl : Int) < n) = true := decide_eq_true hmo
    clear he hcap hneg hmo
    go_enter Try.func81, Try.ntmps81
    go_wp2_with fail
    go_quiet (fail)
    have D1 := Lib.hid ((Drw.refl w).more nq)
    generalize w.drewN nq = w1 at *
    have HB1 := Lib.hid (HB.out.turns (Turns.of_below (S := fun _ => False) D1.out.below) id)
    go_wp2_with fail
    refine (ends_any g most (.iface T v) c.pl c.er 42 c.idle y _ w1 HB1.out).mono ?_
    rintro r w2 ⟨rfl, hb2, ht2⟩
    have FIN := Lib.hid (show InA St g most (.iface T v) w S0 { c with er := 42 } S0 w2 from
      { io := ⟨y, hb2, HH.out⟩, st := RD.frame _ _ _ _ _ (SAME.out w1 D1.out).st ht2 (fun j hj e => by subst e; exact NG.out hj) (fun j e => by omega), sub := fun j hj => .inl hj, tu := (SAME.out w1 D1.out).tu.trans ht2 fun j hj e => .inr e })
    clear hb2 ht2
    go_wp2_with fail
    go_ret2
    rw [XE.out]
    exact ⟨.slice none 0 0, S0, rfl, OwT.nil _ _ _ _, fun j e => (by cases e), FIN.out⟩
  have t3 : decide (n > most - (c.pl : Int)) = false := decide_eq_false hmo
  have t3' : decide (most - (c.pl : Int) < n) = false := decide_eq_false hmo
  obtain ⟨k, rfl⟩ : ∃ k : Nat, n = (k : Nat) := ⟨n.toNat, by omega⟩
  obtain ⟨⟨b, e, s', i', hd⟩, hK⟩ : ∃ Y, tkH R c.s c.idle c.held k = Y := ⟨_, rfl⟩
  have XE := Lib.hid (show X = if e = 0 then (b, 0, ⟨s', c.pl + k, 0, i', hd⟩) else ([], e, ⟨s', c.pl, e, i', hd⟩) by
    have hK2 : tkH R c.s c.idle c.held (k : Int).toNat = (b, e, s', i', hd) := by rw [Int.toNat_natCast]; exact hK
    have h := bytes_take he hneg hmo hK2
    rw [Int.toNat_natCast] at h
    rw [← HX.out]; exact h)
  have CAP := Lib.hid (hcap (by omega) (by omega))
  have HID := Lib.hid (HO.out.idle he)
  have HBU := Lib.hid HO.out.bud
  have r2 : IntKind.i64.wrap ((c.pl : Int) + (k : Int)) = (c.pl : Int) + (k : Int) := IntWalk.i64_in _ (by omega)
  have KH := Lib.hid hK
  clear hcap hneg hmo hK he
  go_enter Try.func81, Try.ntmps81
  go_wp2_with fail
  go_quiet (fail)
  have D1 := Lib.hid ((Drw.refl w).more nq)
  generalize w.drewN nq = w1 at *
  have A1 := Lib.hid (SAME.out w1 D1.out)
  have hw1 : w.heap.size ≤ w1.heap.size := A1.out.tu.size
  have TK := Lib.hid (ctakeH_any RD T hme hen hmu g most c.pl c.er c.s S0 c.idle c.held k w1 A1.out.io A1.out.st NG.out hbd (by omega) HID.out (by have := HBU.out; omega) CAP.out KH.out)
  clear c0 c1 c4 c7
  go_wp2_with fail
  refine TK.out.mono ?_
  rintro r w2 ⟨bv, S2, rfl, ho, hio, hst, hsub, hdis, htu⟩
  obtain ⟨ab, nb, cb, rfl, -⟩ := ho.slN
  have O2 := Lib.hid (ho.base hw1)
  have ST2 := Lib.hid hst
  have SUB2 := Lib.hid (show ∀ j, S2 j → S0 j ∨ w.heap.size ≤ j from fun j hj => by rcases hsub j hj with h | h; (exact .inl h); (exact .inr (by omega)))
  have DIS2 := Lib.hid hdis
  have TU2 := Lib.hid (A1.out.tu.trans htu fun j hj e => e)
  have NG2 := Lib.hid (show ¬ S2 g from fun h => by rcases SUB2.out g h with e | e; (exact NG.out e); (omega))
  obtain ⟨y2, hb2, hh2⟩ := hio
  have IB2 := Lib.hid hb2
  have HH2 := Lib.hid hh2
  clear ho hst hsub hdis htu hb2 hh2 TK
  by_cases h0 : e = 0
  · have t4 : (e != 0) = false := by rw [bne_eq_false_iff_eq]; exact h0
    have d0 := IB2.out.c0
    have f0 := IB2.out.free 0
    have FIN := Lib.hid (show InA St g most (.iface T v) w S0 ⟨s', c.pl + k, 0, i', hd⟩ S2 (w2.setCell ⟨g, 0, none⟩ (.int .i64 ((c.pl : Int) + (k : Int)))) from
      { io := ⟨y2, by have := IB2.out.s0 (c.pl + k); rw [show c.er = 0 by have := t1; rwa [bne_eq_false_iff_eq] at this] at this; exact this, HH2.out⟩
        st := RD.frame _ _ _ _ _ ST2.out (setT w2 0 _) (fun j hj e => by subst e; exact NG2.out hj) (fun j e => by omega), sub := SUB2.out, tu := TU2.out.trans (setT w2 0 _) fun j hj e => .inr e })
    have OF := Lib.hid (O2.out.turns (setT w2 0 (.int .i64 ((c.pl : Int) + (k : Int)))) fun j hj e => by have := (O2.out.lt j hj).1; have e : j = g := e; omega)
    have XF := Lib.hid (show X = (b, 0, ⟨s', c.pl + k, 0, i', hd⟩) by rw [XE.out, if_pos h0])
    clear h0
    go_wp2_with fail
    go_ret2
    rw [XF.out]
    exact ⟨_, S2, rfl, OF.out, DIS2.out, FIN.out⟩
  · have t4 : (e != 0) = true := by rw [bne_iff_ne]; exact h0
    have XF := Lib.hid (show X = ([], e, ⟨s', c.pl, e, i', hd⟩) by rw [XE.out, if_neg h0])
    clear h0
    go_wp2_with fail
    refine (ends_any g most (.iface T v) c.pl c.er e i' y2 _ w2 IB2.out).mono ?_
    rintro r w3 ⟨rfl, hb3, ht3⟩
    have FIN := Lib.hid (show InA St g most (.iface T v) w S0 ⟨s', c.pl, e, i', hd⟩ S2 w3 from
      { io := ⟨y2, hb3, HH2.out⟩, st := RD.frame _ _ _ _ _ ST2.out ht3 (fun j hj e => by subst e; exact NG2.out hj) (fun j e => by omega), sub := SUB2.out, tu := TU2.out.trans ht3 fun j hj e => .inr e })
    clear hb3 ht3
    go_wp2_with fail
    go_ret2
    rw [XF.out]
    exact ⟨.slice none 0 0, S2, rfl, OwT.nil _ _ _ _, fun j e => (by cases e), FIN.out⟩
/-- behind Byte -/
def BytePost (St : σ → (Nat → Prop) → World → Prop) (X : UInt8 × Int × CIn σ) (S0 : Nat → Prop) (g : Nat) (most : Int) (rv : Value) (w : World) (r : Ending) (w' : World) : Prop :=
  ∃ S', r = .returned (.tuple #[.int .u8 (B X.1), .int .i64 X.2.1]) ∧ InA St g most rv w S0 X.2.2 S' w'
set_option maxHeartbeats 2000000 in
theorem cbyte_any (RD : Reader R fn v lo Br St bd) (T : TypeId)
    (hme : ∀ w, (method 296 T v "Read").run Try.prog w = .ok (fn, v) w) (hen : ∀ (args : Array Value) (W : World), (callFunc fn args).run Try.prog W = .ok (.enter fn args) W) (hmu : ∀ s n, R.mu (R.nxt s n) ≤ R.mu s)
    (g : Nat) (most : Int) (c : CIn σ) (S0 : Nat → Prop) (w : World) (P : σ → Prop) (hP : ∀ s n, P s → P (R.nxt s n)) (Bd : Nat) (hO : OkayC R P most Bd c) (hI : InP w g most (.iface T v) c.pl c.er c.idle c.held) (hS : St c.s S0 w) (hgS : ¬ S0 g) (hbd : bd ≤ g)
    (hm : most ≤ 9223372036854775807) (hc : Bd + 32 ≤ Br) :
    Calls Try.prog 102 #[.pointer (some ⟨g, 0, none⟩)] w (BytePost St (byteM R most c) S0 g most (.iface T v) w) := by
  have BY := Lib.hid (cbytes_any RD T hme hen hmu g most 1 c S0 w P Bd hO hI hS hgS hbd (by omega) hm hc (fun _ _ => .inl (by decide)))
  obtain ⟨-, k1, k2⟩ := hO.bytes (n := 1) hmu hP
  unfold byteM
  obtain ⟨⟨b, e, c'⟩, hX⟩ : ∃ X, bytesM R most 1 c = X := ⟨_, rfl⟩
  rw [hX] at BY k1 k2 ⊢
  dsimp only at k1 k2 ⊢
  clear hX hI hS hO
  go_enter Try.func102, Try.ntmps102
  go_wp2_with fail
  refine BY.out.mono ?_
  rintro r w2 ⟨bv, S2, rfl, ho, hdis, hA⟩
  have A := Lib.hid hA
  dsimp only at ho ⊢
  by_cases h0 : e = 0
  · obtain ⟨x, rfl⟩ : ∃ x, b = [x] := by
      have := (k1 h0).2
      match b, this with
      | [x], _ => exact ⟨x, rfl⟩
    subst h0
    obtain ⟨ab, nb, cb, rfl, hs⟩ := ho.slN
    obtain rfl : 1 = nb := hs.len
    obtain ⟨b1, o1, rfl, hcell⟩ := hs.2.2.2 0 x rfl
    have hcell : w2.cell? ⟨b1, o1, none⟩ = some (.int .u8 (B x)) := hcell
    clear hA ho hdis hs k1 k2
    go_wp2_with fail
    go_ret2
    exact ⟨S2, rfl, A.out⟩
  · obtain rfl := k2 h0
    have t4 : (e != 0) = true := by rw [bne_iff_ne]; exact h0
    clear hA ho hdis k1 k2 h0
    go_wp2_with fail
    go_ret2
    exact ⟨S2, rfl, A.out⟩
/-- behind End -/
def CEndPost (St : σ → (Nat → Prop) → World → Prop) (X : Bool × Int × CIn σ) (S0 : Nat → Prop) (g : Nat) (most : Int) (rv : Value) (w : World) (r : Ending) (w' : World) : Prop :=
  ∃ S', r = .returned (.tuple #[.bool X.1, .int .i64 X.2.1]) ∧ InA St g most rv w S0 X.2.2 S' w'
set_option maxHeartbeats 4000000 in
theorem cend_any (RD : Reader R fn v lo Br St bd) (T : TypeId)
    (hme : ∀ w, (method 296 T v "Read").run Try.prog w = .ok (fn, v) w) (hen : ∀ (args : Array Value) (W : World), (callFunc fn args).run Try.prog W = .ok (.enter fn args) W) (hmu : ∀ s n, R.mu (R.nxt s n) ≤ R.mu s)
    (g : Nat) (most : Int) (c : CIn σ) (S0 : Nat → Prop) (w : World) (P : σ → Prop) (hP : ∀ s n, P s → P (R.nxt s n)) (Bd : Nat) (hO : OkayC R P most Bd c) (hI : InP w g most (.iface T v) c.pl c.er c.idle c.held) (hS : St c.s S0 w) (hgS : ¬ S0 g) (hbd : bd ≤ g) (hc : Bd + 32 ≤ Br) :
    Calls Try.prog 118 #[.pointer (some ⟨g, 0, none⟩)] w (CEndPost St (endM R c) S0 g most (.iface T v) w) := by
  obtain ⟨X, hX⟩ : ∃ X, endM R c = X := ⟨_, rfl⟩
  rw [hX]
  obtain ⟨y, hB, hh⟩ := hI
  have c1 := hB.c1
  have c6 := hB.c6
  have HB := Lib.hid hB
  have HH := Lib.hid hh
  have ST := Lib.hid hS
  have NG := Lib.hid hgS
  have HX := Lib.hid hX
  have lg := hB.lt
  have SAME := Lib.hid (fun (W : World) (hW : Drw w W) => show InA St g most (.iface T v) w S0 c S0 W from
    { io := ⟨y, HB.out.turns (Turns.of_below (S := fun _ => False) hW.below) id, HH.out⟩, st := RD.frame _ _ (fun _ => False) _ _ ST.out (.of_below hW.below) (fun _ _ e => e) (fun _ e => e.elim), sub := fun j hj => .inl hj, tu := .of_below hW.below })
  by_cases he : c.er ≠ 0
  · have XE := Lib.hid (show X = (false, c.er, c) by rw [← HX.out]; exact end_er he)
    have t1 : (c.er != 0) = true := by rw [bne_iff_ne]; exact he
    clear he hX hB hh hS hgS hO c6
    go_enter Try.func118, Try.ntmps118
    go_wp2_with fail
    go_quiet (fail)
    go_wp2_with fail
    go_ret2
    rw [XE.out]
    exact ⟨S0, rfl, SAME.out _ ((Drw.refl _).more _)⟩
  have he : c.er = 0 := by simpa using he
  have t1 : (c.er != 0) = false := by rw [bne_eq_false_iff_eq]; exact he
  by_cases hhe : c.held ≠ []
  · have XE := Lib.hid (show X = (false, c.er, c) by rw [← HX.out, he]; exact end_held he hhe)
    have c6' : w.cell? ⟨g, 6, none⟩ = some (.bool true) := by rw [c6, decide_eq_true hhe]
    clear he hX hB hh hS hgS hO c6 hhe
    go_enter Try.func118, Try.ntmps118
    go_wp2_with fail
    go_quiet (fail)
    go_wp2_with fail
    go_ret2
    rw [XE.out]
    exact ⟨S0, rfl, SAME.out _ ((Drw.refl _).more _)⟩
  have hhe : c.held = [] := by simpa using hhe
  have c6' : w.cell? ⟨g, 6, none⟩ = some (.bool false) := by rw [c6, decide_eq_false (by simpa using hhe)]
  obtain ⟨⟨b, e, s', i'⟩, hK⟩ : ∃ Y, tk R (R.mu c.s * 17 + 17) c.s c.idle [] 1 = Y := ⟨_, rfl⟩
  have XE := Lib.hid (show X = if e = 0 then (false, 0, ⟨s', c.pl, 0, i', b⟩) else if e = 41 then (true, 0, ⟨s', c.pl, 0, i', []⟩) else (false, e, ⟨s', c.pl, e, i', []⟩) by rw [← HX.out]; exact end_take he hhe hK)
  have hsum := (tk_sum hmu (R.mu c.s * 17 + 17) c.s c.idle [] 1 (hO.idle he) (by simp) (.inr (by have := hO.idle he; omega)))
  rw [hK] at hsum
  obtain ⟨k1, k2, k3, k4, k5⟩ := hsum
  dsimp only at k1 k2 k3 k4 k5
  have TK := Lib.hid (ctake_any RD T hme hen hmu g most c.pl c.er c.s S0 c.idle [] 1 w (by rw [← hhe]; exact ⟨y, hB, hh⟩) hS hgS hbd (Nat.le_refl _) (by omega) (hO.idle he) (by have := hO.bud; omega) (.inl (by decide)))
  rw [hK] at TK
  have HE0 := Lib.hid he
  clear hX hB hh hS hgS hO c6 hhe hK k3 k4 k5 he
  go_enter Try.func118, Try.ntmps118
  go_wp2_with fail
  refine TK.out.mono ?_
  rintro r w2 ⟨bv, S2, rfl, ho, hio, hst, hsub, hdis, htu⟩
  dsimp only at ho hio hst
  have ST2 := Lib.hid hst
  have SUB2 := Lib.hid hsub
  have TU2 := Lib.hid htu
  have NG2 := Lib.hid (show ¬ S2 g from fun h => by rcases SUB2.out g h with e | e; (exact NG.out e); (omega))
  obtain ⟨y2, hb2, -⟩ := hio
  have IB2 := Lib.hid hb2
  by_cases h0 : e = 0
  · obtain ⟨x, rfl⟩ : ∃ x, b = [x] := by
      have := (k1 h0).1
      match b, this with
      | [x], _ => exact ⟨x, rfl⟩
    subst h0
    obtain ⟨ab, nb, cb, rfl, hs⟩ := ho.slN
    obtain rfl : 1 = nb := hs.len
    obtain ⟨b1, o1, rfl, hcell⟩ := hs.2.2.2 0 x rfl
    have hcell : w2.cell? ⟨b1, o1, none⟩ = some (.int .u8 (B x)) := hcell
    have d5 := hb2.c5
    have d6 := hb2.c6
    have f5 := hb2.free 5
    have f6 := hb2.free 6
    have e6 : (w2.setCell ⟨g, 5, none⟩ (.int .u8 (B x))).cell? ⟨g, 6, none⟩ = some (.bool (decide (([] : List UInt8) ≠ []))) := (hb2.s5 x).c6
    have e6f : (w2.setCell ⟨g, 5, none⟩ (.int .u8 (B x))).frozen? ⟨g, 6, none⟩ = false := (hb2.s5 x).free 6
    have TT : Turns (fun j => j = g) w2 ((w2.setCell ⟨g, 5, none⟩ (.int .u8 (B x))).setCell ⟨g, 6, none⟩ (.bool true)) := (setT _ _ _).trans (setT _ _ _) fun _ _ e => e
    have FIN := Lib.hid (show InA St g most (.iface T v) w S0 ⟨s', c.pl, 0, i', [x]⟩ S2 ((w2.setCell ⟨g, 5, none⟩ (.int .u8 (B x))).setCell ⟨g, 6, none⟩ (.bool true)) from
      { io := ⟨x, by have := (hb2.s5 x).s6 true; rw [HE0.out] at this; exact this, .inr rfl⟩
        st := RD.frame _ _ _ _ _ ST2.out TT (fun j hj e => by subst e; exact NG2.out hj) (fun j e => by omega), sub := SUB2.out, tu := TU2.out.trans TT fun j hj e => .inr e })
    have XF := Lib.hid (show X = (false, 0, ⟨s', c.pl, 0, i', [x]⟩) by rw [XE.out, if_pos rfl])
    clear ho hst hsub hdis htu hb2 hs k1 k2 TT
    go_wp2_with fail
    go_ret2
    rw [XF.out]
    exact ⟨S2, rfl, FIN.out⟩
  · obtain rfl := k2 h0
    have t4 : (e == 0) = false := by rw [beq_eq_false_iff_ne]; exact h0
    by_cases h41 : e = 41
    · have t5 : (e == 41) = true := by rw [beq_iff_eq]; exact h41
      have FIN := Lib.hid (show InA St g most (.iface T v) w S0 ⟨s', c.pl, 0, i', []⟩ S2 w2 from { io := ⟨y2, by have := hb2; rw [HE0.out] at this; exact this, .inl rfl⟩, st := ST2.out, sub := SUB2.out, tu := TU2.out })
      have XF := Lib.hid (show X = (true, 0, ⟨s', c.pl, 0, i', []⟩) by rw [XE.out, if_neg h0, if_pos h41])
      clear ho hst hsub hdis htu hb2 k1 k2 h0 h41
      go_wp2_with fail
      go_ret2
      rw [XF.out]
      exact ⟨S2, rfl, FIN.out⟩
    · have t5 : (e == 41) = false := by rw [beq_eq_false_iff_ne]; exact h41
      have XF := Lib.hid (show X = (false, e, ⟨s', c.pl, e, i', []⟩) by rw [XE.out, if_neg h0, if_neg h41])
      clear ho hst hsub hdis htu hb2 k1 k2 h0 h41
      go_wp2_with fail
      refine (ends_any g most (.iface T v) c.pl c.er e i' y2 _ w2 IB2.out).mono ?_
      rintro r w3 ⟨rfl, hb3, ht3⟩
      have FIN := Lib.hid (show InA St g most (.iface T v) w S0 ⟨s', c.pl, e, i', []⟩ S2 w3 from
        { io := ⟨y2, hb3, .inl rfl⟩, st := RD.frame _ _ _ _ _ ST2.out ht3 (fun j hj e => by subst e; exact NG2.out hj) (fun j e => by omega), sub := SUB2.out, tu := TU2.out.trans ht3 fun j hj e => .inr e })
      clear hb3 ht3
      go_wp2_with fail
      go_ret2
      rw [XF.out]
      exact ⟨S2, rfl, FIN.out⟩
theorem cat_any (g : Nat) (most : Int) (rv : Value) (pl : Nat) (er : Int) (i : Nat) (held : List UInt8) (w : World) (h : InP w g most rv pl er i held) :
    Calls Try.prog 101 #[.pointer (some ⟨g, 0, none⟩)] w fun r w' => r = .returned (.int .i64 (pl : Nat)) ∧ w = w' := by
  obtain ⟨y, hB, -⟩ := h
  have c0 := hB.c0
  clear hB
  go_enter Try.func101, Try.ntmps101
  go_wp2_with fail
  go_ret
  exact ⟨rfl, rfl⟩
theorem newIn_any (T : TypeId) (v : Value) (most : Int) (w : World) (hm : most ≤ 9223372036854775807) :
    Calls Try.prog 56 #[.iface T v, .int .i64 most] w fun r w' => r = .returned (.pointer (some ⟨w.heap.size, 0, none⟩)) ∧ InP w' w.heap.size (max 0 most) (.iface T v) 0 0 0 [] ∧ Below w.heap.size w w' := by
  obtain ⟨m, hm0⟩ : ∃ m, max 0 most = m := ⟨_, rfl⟩
  rw [hm0]
  have hM1 : (if most > 0 then most else 0) = m := by split <;> omega
  have hM2 : (if 0 < most then most else 0) = m := by split <;> omega
  go_enter Try.func56, Try.ntmps56
  go_wp2_with fail
  go_ret
  exact ⟨rfl, ⟨0, heap_new w _, .inl rfl⟩, (Below.refl _ _).alloc (Nat.le_refl _) _⟩
end
end Go.Proofs.Ytljcogimeimknaa
/- The program's In: Number: contract over any reader. Conditions: numbers within reach. -/
namespace Go.Proofs.Ytljcogimeimknaa
open Go.RowKit Go.Shelf
set_option maxRecDepth 100000
set_option linter.unusedVariables false
set_option linter.unusedSimpArgs false

theorem tq_go {n : Nat} {bs : List UInt8} {x : UInt8} {d : Bool} {n2 s2 : Nat} {b2 : List UInt8} (h : tq 0 n bs x = (d, 0, n2, s2, b2)) : (d = true → s2 = 1) ∧ (d = false → s2 = 0) ∧ b2 = bs ++ [x] := by
  unfold tq at h
  rw [if_neg (by simp)] at h
  split at h
  · simp only [Prod.mk.injEq] at h; exact absurd h.2.1 (by decide)
  split at h
  · simp only [Prod.mk.injEq] at h; exact absurd h.2.1 (by decide)
  simp only [Prod.mk.injEq] at h
  obtain ⟨rfl, -, -, rfl, rfl⟩ := h
  refine ⟨fun h => ?_, fun h => ?_, rfl⟩
  · rw [if_pos (by simpa using h)]
  · rw [if_neg (by simpa using h)]
section
variable {σ : Type} {R : Rm σ} {St : σ → (Nat → Prop) → World → Prop} {g : Nat} {most : Int} {rv : Value} {w w1 w2 : World} {S0 S S2 : Nat → Prop} {c c2 : CIn σ}
theorem InA.step (h : InA St g most rv w S0 c S w1) (k : InA St g most rv w1 S c2 S2 w2) : InA St g most rv w S0 c2 S2 w2 where
  io := k.io
  st := k.st
  sub j hj := by
    rcases k.sub j hj with e | e
    · exact h.sub j e
    · exact .inr (Nat.le_trans h.tu.size e)
  tu := h.tu.trans k.tu fun j hj e => by
    rcases e with e | e
    · rcases h.sub j e with q | q
      · exact .inl q
      · omega
    · exact .inr e
theorem InP.turns {T : Nat → Prop} {pl i : Nat} {er : Int} {held : List UInt8} (h : InP w g most rv pl er i held) (ht : Turns T w w1) (hg : ¬ T g) : InP w1 g most rv pl er i held := by
  obtain ⟨y, hb, hh⟩ := h
  exact ⟨y, hb.turns ht hg, hh⟩
theorem InA.turns {bd : Nat} (hfr : ∀ s S T w w', St s S w → Turns T w w' → (∀ j, S j → ¬ T j) → (∀ j, T j → bd ≤ j) → St s S w') {T : Nat → Prop} (h : InA St g most rv w S0 c S w1) (ht : Turns T w1 w2) (hg : ¬ T g) (hd : ∀ j, S j → ¬ T j) (hl : ∀ j, T j → bd ≤ j) (hn : ∀ j, T j → w.heap.size ≤ j) : InA St g most rv w S0 c S w2 where
  io := h.io.turns ht hg
  st := hfr _ _ _ _ _ h.st ht hd hl
  sub := h.sub
  tu := h.tu.trans ht fun j hj e => by have := hn j e; omega
theorem InP.lt {pl i : Nat} {er : Int} {held : List UInt8} (h : InP w g most rv pl er i held) : g < w.heap.size := by
  obtain ⟨y, hb, -⟩ := h
  exact hb.lt
/-- behind Number -/
def NumPost (St : σ → (Nat → Prop) → World → Prop) (X : Nat × Int × CIn σ) (S0 : Nat → Prop) (g : Nat) (most : Int) (rv : Value) (w : World) (r : Ending) (w' : World) : Prop :=
  ∃ S', r = .returned (.tuple #[.int .u64 (X.1 : Nat), .int .i64 X.2.1]) ∧ InA St g most rv w S0 X.2.2 S' w'
/-- in the midst of it -/
structure NuM (R : Rm σ) (P : σ → Prop) (St : σ → (Nat → Prop) → World → Prop) (g : Nat) (most : Int) (rv : Value) (w : World) (S0 : Nat → Prop) (X : Nat × Int × CIn σ) (at0 gt Bd F : Nat) (c : CIn σ) (n : Nat) (bs : List UInt8) (S : Nat → Prop) (W : World) : Prop where
  eq : numG R most at0 F c n 0 bs = X
  ia : InA St g most rv w S0 c S W
  tk : Tk W gt n bs.length 0
  inv : Inv bs n 0
  fl : F + bs.length = 11
  ok : OkayC R P most (Bd + 32 * bs.length) c
  nt : ¬ S gt
end
theorem numG_step {σ : Type} {R : Rm σ} {most : Int} {at0 F n : Nat} {c c' : CIn σ} {bs b2 : List UInt8} {x : UInt8} {e : Int} {d : Bool} {er n2 s2 : Nat} (hb : byteM R most c = (x, e, c')) (hq : tq 0 n bs x = (d, er, n2, s2, b2)) :
    numG R most at0 (F + 1) c n 0 bs = if e ≠ 0 then (0, e, { c' with pl := at0 }) else if er ≠ 0 then (0, (er : Int), { c' with pl := at0, er := er }) else if d then (n2, 0, c') else numG R most at0 F c' n2 s2 b2 := by
  conv => lhs; unfold numG
  rw [hb]
  dsimp only
  rw [hq]
set_option maxHeartbeats 4000000 in
theorem cnum_any {σ : Type} {R : Rm σ} {fn : FuncId} {v : Value} {lo Br bd : Nat} {St : σ → (Nat → Prop) → World → Prop} (RD : Reader R fn v lo Br St bd) (T : TypeId)
    (hme : ∀ w, (method 296 T v "Read").run Try.prog w = .ok (fn, v) w) (hen : ∀ (args : Array Value) (W : World), (callFunc fn args).run Try.prog W = .ok (.enter fn args) W) (hmu : ∀ s n, R.mu (R.nxt s n) ≤ R.mu s)
    (g : Nat) (most : Int) (c : CIn σ) (S0 : Nat → Prop) (w : World) (P : σ → Prop) (hP : ∀ s n, P s → P (R.nxt s n)) (Bd : Nat) (hO : OkayC R P most Bd c) (hI : InP w g most (.iface T v) c.pl c.er c.idle c.held) (hS : St c.s S0 w) (hgS : ¬ S0 g) (hbd : bd ≤ g)
    (hm : most ≤ 9223372036854775807) (hc : Bd + 400 ≤ Br) :
    Calls Try.prog 104 #[.pointer (some ⟨g, 0, none⟩)] w (NumPost St (numM R most c) S0 g most (.iface T v) w) := by
  obtain ⟨X, hX⟩ : ∃ X, numM R most c = X := ⟨_, rfl⟩
  rw [hX]
  have HX := Lib.hid hX
  obtain ⟨at0, hat⟩ : ∃ a, c.pl = a := ⟨_, rfl⟩
  have HAT := Lib.hid hat
  have lg := hI.lt
  have c0 : w.cell? ⟨g, 0, none⟩ = some (.int .i64 (at0 : Nat)) := by obtain ⟨y, hB, -⟩ := hI; rw [hB.c0, hat]
  have HI := Lib.hid hI
  have ST := Lib.hid hS
  have NG := Lib.hid hgS
  have HO := Lib.hid hO
  clear hX hat hI hS hgS hO
  go_enter Try.func104, Try.ntmps104
  go_wp2_with fail
  refine (new_any _).mono ?_
  rintro r w1 ⟨rfl, htk, hb1⟩
  have M0 := Lib.hid (show NuM R P St g most (.iface T v) w S0 X at0 w.heap.size Bd 11 c 0 [] S0 w1 from
    { eq := by rw [← HX.out, ← HAT.out]; rfl
      ia := { io := HI.out.turns (Turns.of_below (S := fun _ => False) hb1) id, st := RD.frame _ _ (fun _ => False) _ _ ST.out (.of_below hb1) (fun _ _ e => e) (fun _ e => e.elim), sub := fun j hj => .inl hj, tu := .of_below hb1 }
      tk := htk, inv := .start, fl := rfl, ok := HO.out.mono (by omega), nt := fun h => by have := (RD.inS _ _ _ ST.out _ h).2; omega })
  have hg1 : w.heap.size < w1.heap.size := htk.lt
  clear htk hb1 c0
  obtain ⟨gt, hgt⟩ : ∃ gt, w.heap.size = gt := ⟨_, rfl⟩
  rw [hgt] at M0 lg hg1 ⊢
  have HGT := Lib.hid hgt
  clear hgt
  go_wp2_with fail
  go_loopg [] 11 (fun F wr => ∃ c' n bs S, NuM R P St g most (.iface T v) w S0 X at0 gt Bd F c' n bs S wr)
  case atStart => exact ⟨_, _, _, _, M0.out⟩
  case round =>
    obtain ⟨c', n, bs, S, hM⟩ := hrel
    have M := Lib.hid hM
    clear hM M0
    have hbl : bs.length ≤ 9 := by
      rcases M.out.inv with h | h | h
      · exact h.2.1
      · exact absurd h.1 (by decide)
      · exact absurd h.1 (by decide)
    obtain ⟨F, hF⟩ : ∃ F, gk = F + 1 := ⟨gk - 1, by have := M.out.fl; omega⟩
    subst hF
    have gS : ¬ S g := fun h => by rcases M.out.ia.sub g h with e | e; (exact NG.out e); (have := HGT.out; omega)
    have BY := Lib.hid (cbyte_any RD T hme hen hmu g most c' S wr P hP (Bd + 32 * bs.length) M.out.ok M.out.ia.io M.out.ia.st gS hbd hm (by omega))
    have OB := Lib.hid (M.out.ok.byte hmu hP)
    obtain ⟨⟨x, e, c2⟩, hX2⟩ : ∃ Y, byteM R most c' = Y := ⟨_, rfl⟩
    obtain ⟨⟨d, er, n2, s2, b2⟩, hq⟩ : ∃ Y, tq 0 n bs x = Y := ⟨_, rfl⟩
    have EQ := Lib.hid (show X = _ from M.out.eq.symm.trans (numG_step hX2 hq))
    rw [hX2] at BY OB
    dsimp only at OB
    have HQ := Lib.hid hq
    have GS := Lib.hid gS
    clear hX2 hq gS
    go_wp2_with fail
    refine BY.out.mono ?_
    rintro r w2 ⟨S2, rfl, hA⟩
    have A := Lib.hid (M.out.ia.step hA)
    have hwr : gt < wr.heap.size := by have := M.out.ia.tu.size; have := M.out.tk.lt; omega
    have TK := Lib.hid (show Tk w2 gt n bs.length 0 from hA.tu.heap M.out.tk fun e => by rcases e with e | e; (exact M.out.nt e); (omega))
    have NT := Lib.hid (show ¬ S2 gt from fun h => by rcases hA.sub gt h with e | e; (exact M.out.nt e); (omega))
    have NG2 := Lib.hid (show ¬ S2 g from fun h => by rcases hA.sub g h with e | e; (exact GS.out e); (have := M.out.ia.io.lt; omega))
    obtain ⟨y, hB, hh⟩ := A.out.io
    have IB := Lib.hid hB
    have HH := Lib.hid hh
    dsimp only at hB
    clear hA hB hh BY
    by_cases h0 : e = 0
    · subst h0
      have TKE := Lib.hid (ptake_any gt n 0 bs x w2 d er n2 s2 b2 HQ.out M.out.inv TK.out)
      go_wp2_with fail
      refine TKE.out.mono ?_
      rintro r w3 ⟨rfl, htk, hgr⟩
      have T3 := Turns.of_grown (S := fun j => j = gt) hgr fun j e => by injection e with e; exact e.symm
      have A3 := Lib.hid (A.out.turns RD.frame T3 (by omega) (fun j hj e => by subst e; exact NT.out hj) (fun j e => by have e : j = gt := e; omega) (fun j e => by have e : j = gt := e; have := HGT.out; omega))
      have IB3 := Lib.hid (IB.out.turns T3 (show ¬ g = gt by omega))
      have TK3 := Lib.hid htk
      clear htk hgr T3 TKE
      by_cases hr0 : er = 0
      · subst hr0
        obtain ⟨k1, k2, k3⟩ := tq_go HQ.out
        cases d
        · obtain rfl := k2 rfl
          obtain rfl := k3
          have GO := Lib.hid (show NuM R P St g most (.iface T v) w S0 X at0 gt Bd F c2 n2 (bs ++ [x]) S2 w3 from
            { eq := by rw [EQ.out]; rfl
              ia := A3.out, tk := TK3.out, inv := M.out.inv.step x HQ.out, fl := by have := M.out.fl; rw [List.length_append]; simp; omega, ok := OB.out.mono (by rw [List.length_append]; simp; omega), nt := NT.out })
          clear k1 k2
          go_wp2_with fail
          go_roundg F
          case measure => omega
          case rel => exact ⟨_, _, _, _, GO.out⟩
        · obtain rfl := k1 rfl
          have XE := Lib.hid (show X = (n2, 0, c2) by rw [EQ.out]; rfl)
          have PN := Lib.hid (pnumber_any gt n2 b2.length 1 w3 TK3.out)
          clear k1 k2 k3
          go_wp2_with fail
          refine PN.out.mono ?_
          rintro r w4 ⟨rfl, rfl⟩
          go_wp2_with fail
          go_ret2
          rw [XE.out]
          exact ⟨S2, rfl, A3.out⟩
      · have XE := Lib.hid (show X = (0, (er : Int), { c2 with pl := at0, er := er }) by rw [EQ.out, if_neg (by simp), if_pos hr0])
        have t2 : ((er : Int) != 0) = true := by rw [bne_iff_ne]; omega
        have t2' : (er != 0) = true := by rw [bne_iff_ne]; exact hr0
        have d0 := IB3.out.c0
        have f0 := IB3.out.free 0
        have IB4 := Lib.hid (IB3.out.s0 at0)
        have EN := Lib.hid (ends_any g most (.iface T v) at0 c2.er (er : Int) c2.idle y _ _ IB4.out)
        clear hr0
        go_wp2_with fail
        refine EN.out.mono ?_
        rintro r w5 ⟨rfl, hb5, ht5⟩
        have T5 : Turns (fun j => j = g) w3 w5 := (setT w3 0 (.int .i64 (at0 : Nat))).trans ht5 fun _ _ e => e
        have FIN := Lib.hid (show InA St g most (.iface T v) w S0 { c2 with pl := at0, er := er } S2 w5 from
          { io := ⟨y, hb5, HH.out⟩, st := RD.frame _ _ _ _ _ A3.out.st T5 (fun j hj e => by subst e; exact NG2.out hj) (fun j e => by have e : j = g := e; omega), sub := A3.out.sub, tu := A3.out.tu.trans T5 fun j hj e => .inr e })
        clear hb5 ht5 T5
        go_wp2_with fail
        go_ret2
        rw [XE.out]
        exact ⟨S2, rfl, FIN.out⟩
    · have XE := Lib.hid (show X = (0, e, { c2 with pl := at0 }) by rw [EQ.out, if_pos h0])
      have t1 : (e != 0) = true := by rw [bne_iff_ne]; exact h0
      have d0 := IB.out.c0
      have f0 := IB.out.free 0
      have FIN := Lib.hid (show InA St g most (.iface T v) w S0 { c2 with pl := at0 } S2 (w2.setCell ⟨g, 0, none⟩ (.int .i64 (at0 : Nat))) from
        { io := ⟨y, IB.out.s0 at0, HH.out⟩, st := RD.frame _ _ _ _ _ A.out.st (setT w2 0 _) (fun j hj e => by subst e; exact NG2.out hj) (fun j e => by have e : j = g := e; omega), sub := A.out.sub, tu := A.out.tu.trans (setT w2 0 _) fun j hj e => .inr e })
      clear h0
      go_wp2_with fail
      go_ret2
      rw [XE.out]
      exact ⟨S2, rfl, FIN.out⟩
end Go.Proofs.Ytljcogimeimknaa
/- A reader of streams in memory. No condition. -/
namespace Go.Proofs.Ytljcogimeimknaa
open Go.RowKit Go.Shelf
set_option linter.unusedVariables false

def nextV (g ph : Nat) : Value := .func (.func (if ph = 0 then 57 else if ph = 1 then 83 else 100)) #[.pointer (some ⟨g, 0, none⟩)] #[]
abbrev srcI (gs : Nat) : Value := .iface 59 (.pointer (some ⟨gs, 0, none⟩))
abbrev mxI : Int := 9223372036854775807
abbrev rdC (g gi ph : Nat) (lv rv : Value) (er : Int) (pt : Nat) : Array Value := #[.pointer (some ⟨gi, 0, none⟩), nextV g ph, lv, rv, .int .i64 er, .int .i64 (pt : Nat)]

/-- a reader: who: 1 the reader, 2 its In, 3 the source's, 4 the rows, 5 their keys -/
structure Rdp (w : World) (lo gs g gi : Nat) (S : Nat → Prop) (lv rv : Value) (vs : List RV) (s : RS) (who : Nat → Nat) : Prop where
  low : ∀ j, who j ≠ 0 → lo ≤ j ∧ j < w.heap.size
  lw : lo ≤ w.heap.size
  blk : w.heap[g]? = some (.cells (rdC g gi s.ph lv rv s.er s.pt) 98 (0, 0))
  gw : who g = 1
  io : InP w gi mxI (srcI gs) s.c.pl s.c.er s.c.idle s.c.held
  iw : who gi = 2
  st : SrcP gs lo s.c.s S w
  sw : ∀ j, S j → who j = 3
  rw : OwT fR w lo 89 rv vs
  rb : ∀ j, rv.ownBlock = some j → who j = 4
  rl : vs.length = s.rows.length
  rk : ∀ (i : Nat) (x : RV) (r : Row), vs[i]? = some x → s.rows[i]? = some r → x.2 = r.2 ∧ Sl Bf w x.1.1 x.1.2.1 x.1.2.2 r.1 ∧ ∀ b o, x.1.1 = some ⟨b, o, none⟩ → 0 < x.1.2.1 → who b = 5

section
variable {w w' w1 : World} {lo gs g gi : Nat} {S S' : Nat → Prop} {lv rv : Value} {vs : List RV} {s : RS} {who : Nat → Nat}

theorem Rdp.turn {T : Nat → Prop} (h : Rdp w lo gs g gi S lv rv vs s who) (ht : Turns T w w') (hS : ∀ j, T j → who j = 0) : Rdp w' lo gs g gi S lv rv vs s who := by
  have hn : ∀ j k, who j = k → k ≠ 0 → ¬ T j := fun j k e hk hs => hk (e ▸ hS j hs)
  refine ⟨fun j hj => ⟨(h.low j hj).1, Nat.lt_of_lt_of_le (h.low j hj).2 ht.size⟩, Nat.le_trans h.lw ht.size, ht.heap h.blk (hn g 1 h.gw (by decide)), h.gw, h.io.turns ht (hn gi 2 h.iw (by decide)), h.iw, h.st.turns ht (fun j hj => hn j 3 (h.sw j hj) (by decide)), h.sw, h.rw.turns ht (fun j hj => hn j 4 (h.rb j hj) (by decide)), h.rb, h.rl, ?_⟩
  intro i x r hx hr
  obtain ⟨e, e2, e3⟩ := h.rk i x r hx hr
  exact ⟨e, e2.turns ht (fun b o hb h0 => hn b 5 (e3 b o hb h0) (by decide)), e3⟩
theorem Rdp.keep (h : Rdp w lo gs g gi S lv rv vs s who) (hb : Below w.heap.size w w') : Rdp w' lo gs g gi S lv rv vs s who :=
  h.turn (T := fun _ => False) (.of_below hb) (fun _ e => e.elim)
theorem Rdp.c0 (h : Rdp w lo gs g gi S lv rv vs s who) : w.cell? ⟨g, 0, none⟩ = some (.pointer (some ⟨gi, 0, none⟩)) := cell_of h.blk 0 rfl
theorem Rdp.c1 (h : Rdp w lo gs g gi S lv rv vs s who) : w.cell? ⟨g, 1, none⟩ = some (nextV g s.ph) := cell_of h.blk 1 rfl
theorem Rdp.c2 (h : Rdp w lo gs g gi S lv rv vs s who) : w.cell? ⟨g, 2, none⟩ = some lv := cell_of h.blk 2 rfl
theorem Rdp.c3 (h : Rdp w lo gs g gi S lv rv vs s who) : w.cell? ⟨g, 3, none⟩ = some rv := cell_of h.blk 3 rfl
theorem Rdp.c4 (h : Rdp w lo gs g gi S lv rv vs s who) : w.cell? ⟨g, 4, none⟩ = some (.int .i64 s.er) := cell_of h.blk 4 rfl
theorem Rdp.c5 (h : Rdp w lo gs g gi S lv rv vs s who) : w.cell? ⟨g, 5, none⟩ = some (.int .i64 (s.pt : Nat)) := cell_of h.blk 5 rfl
theorem Rdp.free (h : Rdp w lo gs g gi S lv rv vs s who) (i : Nat) : w.frozen? ⟨g, i, none⟩ = false := free_block h.blk i
theorem Rdp.lt (h : Rdp w lo gs g gi S lv rv vs s who) : g < w.heap.size := (h.low g (by rw [h.gw]; decide)).2
theorem Rdp.ni (h : Rdp w lo gs g gi S lv rv vs s who) : ¬ S gi := fun e => by have := h.sw gi e; rw [h.iw] at this; cases this
theorem Rdp.spv (h : Rdp w lo gs g gi S lv rv vs s who) : ∃ a n c, rv = .slice a n c ∧ SpV w a n c vs s.rows := by
  obtain ⟨a, c, e, hs⟩ := h.rw.sl fR_len
  exact ⟨a, _, c, e, hs, h.rl, fun i x r hx hr => ⟨(h.rk i x r hx hr).1, (h.rk i x r hx hr).2.1⟩⟩

/-- who owns a block: new blocks that P names are k's -/
noncomputable def whoP (who : Nat → Nat) (n : Nat) (P : Nat → Prop) (k : Nat) : Nat → Nat := by
  classical exact fun j => if j < n then who j else if P j then k else 0
theorem whoP_old {who : Nat → Nat} {n k j : Nat} {P : Nat → Prop} (h : j < n) : whoP who n P k j = who j := by unfold whoP; rw [if_pos h]
theorem whoP_new {who : Nat → Nat} {n k j : Nat} {P : Nat → Prop} (h : n ≤ j) (h2 : P j) : whoP who n P k j = k := by unfold whoP; rw [if_neg (by omega), if_pos h2]
theorem whoP_not {who : Nat → Nat} {n k j : Nat} {P : Nat → Prop} (h : n ≤ j) (h2 : ¬ P j) : whoP who n P k j = 0 := by unfold whoP; rw [if_neg (by omega), if_neg h2]

noncomputable def whoQ (who : Nat → Nat) (n : Nat) (P : Nat → Prop) (k : Nat) (Q : Nat → Prop) (l : Nat) : Nat → Nat := by
  classical exact fun j => if j < n then who j else if P j then k else if Q j then l else 0
section
variable {n k l j : Nat} {P Q : Nat → Prop}
theorem whoQ_old (h : j < n) : whoQ who n P k Q l j = who j := by unfold whoQ; rw [if_pos h]
theorem whoQ_one (h : n ≤ j) (h2 : P j) : whoQ who n P k Q l j = k := by unfold whoQ; rw [if_neg (by omega), if_pos h2]
theorem whoQ_two (h : n ≤ j) (h1 : ¬ P j) (h2 : Q j) : whoQ who n P k Q l j = l := by unfold whoQ; rw [if_neg (by omega), if_neg h1, if_pos h2]
theorem whoQ_not (h : n ≤ j) (h1 : ¬ P j) (h2 : ¬ Q j) : whoQ who n P k Q l j = 0 := by unfold whoQ; rw [if_neg (by omega), if_neg h1, if_neg h2]
end
/-- its In has gone on -/
theorem Rdp.newI (h : Rdp w lo gs g gi S lv rv vs s who) {c : CIn Src} (ha : InA (SrcP gs lo) gi mxI (srcI gs) w S c S' w') :
    ∃ who', Rdp w' lo gs g gi S' lv rv vs { s with c := c } who' ∧ Gr w w' who who' ∧ ∀ j, w.heap.size ≤ j → ¬ S' j → who' j = 0 := by
  have hn : ∀ j k, who j = k → k ≠ 2 → k ≠ 3 → ¬ (S j ∨ j = gi) := fun j k e h2 h3 hs => by
    rcases hs with hs | hs
    · exact h3 (e ▸ h.sw j hs)
    · subst hs; exact h2 (e ▸ h.iw)
  have ht := ha.tu
  have hlt : ∀ j k, who j = k → k ≠ 0 → j < w.heap.size := fun j k e hk => (h.low j (by omega)).2
  have old : ∀ j, j < w.heap.size → whoP who w.heap.size S' 3 j = who j := fun j hj => whoP_old hj
  refine ⟨whoP who w.heap.size S' 3, ⟨fun j hj => ?_, Nat.le_trans h.lw ht.size, ht.heap h.blk (hn g 1 h.gw (by decide) (by decide)), by rw [old g h.lt]; exact h.gw, ha.io, by rw [old gi (hlt gi 2 h.iw (by decide))]; exact h.iw, ha.st, fun j hj => ?_, h.rw.turns ht (fun j hj => hn j 4 (h.rb j hj) (by decide) (by decide)), fun j hj => by rw [old j (hlt j 4 (h.rb j hj) (by decide))]; exact h.rb j hj, h.rl, fun i x r hx hr => ?_⟩, ⟨ht.mono fun j _ e => ?_, old⟩, fun j hj hs => whoP_not hj hs⟩
  · by_cases hl : j < w.heap.size
    · rw [old j hl] at hj; have := h.low j hj; exact ⟨this.1, Nat.lt_of_lt_of_le this.2 ht.size⟩
    · by_cases hs : S' j
      · exact ha.st.inS j hs
      · rw [whoP_not (by omega) hs] at hj; exact absurd rfl hj
  · rcases ha.sub j hj with e | e
    · rw [old j (hlt j 3 (h.sw j e) (by decide))]; exact h.sw j e
    · exact whoP_new e hj
  · obtain ⟨e, e2, e3⟩ := h.rk i x r hx hr
    exact ⟨e, e2.turns ht (fun b o hb h0 => hn b 5 (e3 b o hb h0) (by decide) (by decide)), fun b o hb h0 => by rw [old b (hlt b 5 (e3 b o hb h0) (by decide))]; exact e3 b o hb h0⟩
  · rcases e with e | e
    · rw [h.sw j e]; decide
    · subst e; rw [h.iw]; decide
/-- its own cells have been written -/
theorem Rdp.updG (h : Rdp w lo gs g gi S lv rv vs s who) (ht : Turns (fun j => j = g) w w') {lv' : Value} {ph pt : Nat} {er : Int} (hb : w'.heap[g]? = some (.cells (rdC g gi ph lv' rv er pt) 98 (0, 0))) :
    Rdp w' lo gs g gi S lv' rv vs ⟨s.c, ph, s.rows, er, pt⟩ who ∧ Gr w w' who who := by
  have hn : ∀ j k, who j = k → k ≠ 1 → ¬ j = g := fun j k e hk hg => hk (by rw [← e, hg, h.gw])
  refine ⟨⟨fun j hj => ⟨(h.low j hj).1, Nat.lt_of_lt_of_le (h.low j hj).2 ht.size⟩, Nat.le_trans h.lw ht.size, hb, h.gw, h.io.turns ht (hn gi 2 h.iw (by decide)), h.iw, h.st.turns ht (fun j hj => hn j 3 (h.sw j hj) (by decide)), h.sw, h.rw.turns ht (fun j hj => hn j 4 (h.rb j hj) (by decide)), h.rb, h.rl, fun i x r hx hr => ?_⟩, ⟨ht.mono fun j _ e => by rw [e, h.gw]; decide, fun _ _ => rfl⟩⟩
  obtain ⟨e, e2, e3⟩ := h.rk i x r hx hr
  exact ⟨e, e2.turns ht (fun b o hb h0 => hn b 5 (e3 b o hb h0) (by decide)), e3⟩
/-- one more row, its key in new memory -/
theorem Rdp.setR (h : Rdp w lo gs g gi S lv rv vs s who) (ht1 : Turns (fun j => rv.ownBlock = some j) w w1) {x : Value} {a : Option Addr} {n c : Nat} {y : Int × Int × Int} {k : List UInt8} (hk : Sl Bf w1 a n c k) (hkb : ∀ b o, a = some ⟨b, o, none⟩ → w.heap.size ≤ b ∧ x.ownBlock ≠ some b)
    (ho : OwT fR w1 lo 89 x (vs ++ [((a, n, c), y)])) (hx : ∀ j, x.ownBlock = some j → rv.ownBlock = some j ∨ w.heap.size ≤ j) :
    ∃ who', Rdp (w1.setCell ⟨g, 3, none⟩ x) lo gs g gi S lv x (vs ++ [((a, n, c), y)]) { s with rows := s.rows ++ [(k, y)] } who' ∧ Gr w (w1.setCell ⟨g, 3, none⟩ x) who who' ∧
      ∀ j, w.heap.size ≤ j → x.ownBlock ≠ some j → (∀ b o, a = some ⟨b, o, none⟩ → b ≠ j) → who' j = 0 := by
  have h4 : ∀ j k, who j = k → k ≠ 4 → ¬ (rv.ownBlock = some j) := fun j k e hk hs => hk (e ▸ h.rb j hs)
  have hn : ∀ j k, who j = k → k ≠ 1 → ¬ j = g := fun j k e hk hg => hk (by rw [← e, hg, h.gw])
  have ht := Turns.set (S := fun j => j = g) w1 (i := 3) rfl x
  have hlt : ∀ j k, who j = k → k ≠ 0 → j < w.heap.size := fun j k e hk => (h.low j (by omega)).2
  have hxg : ∀ j, x.ownBlock = some j → ¬ j = g := fun j hj e => by
    rcases hx j hj with e1 | e1
    · exact hn j 4 (h.rb j e1) (by decide) e
    · have := h.lt; omega
  obtain ⟨wk, hwk⟩ : ∃ f, f = whoQ who w.heap.size (fun j => x.ownBlock = some j) 4 (fun j => 0 < n ∧ ∃ o, a = some ⟨j, o, none⟩) 5 := ⟨_, rfl⟩
  have old : ∀ j, j < w.heap.size → wk j = who j := fun j hj => by rw [hwk]; exact whoQ_old hj
  have hz : w.heap.size ≤ w1.heap.size := ht1.size
  have e2 : ∀ {b o}, a = some ⟨b, o, none⟩ → 0 < n → wk b = 5 := fun {b o} e h0 => by rw [hwk]; exact whoQ_two (hkb b o e).1 (hkb b o e).2 ⟨h0, o, e⟩
  refine ⟨wk, ⟨fun j hj => ?_, by simpa using Nat.le_trans h.lw hz, set_block (ht1.heap h.blk (h4 g 1 h.gw (by decide))) _, by rw [old g h.lt]; exact h.gw, (h.io.turns ht1 (h4 gi 2 h.iw (by decide))).turns ht (hn gi 2 h.iw (by decide)), by rw [old gi (hlt gi 2 h.iw (by decide))]; exact h.iw, (h.st.turns ht1 (fun j hj => h4 j 3 (h.sw j hj) (by decide))).turns ht (fun j hj => hn j 3 (h.sw j hj) (by decide)), fun j hj => by rw [old j (hlt j 3 (h.sw j hj) (by decide))]; exact h.sw j hj, ho.turns ht hxg, fun j hj => ?_, by rw [List.length_append, List.length_append, h.rl]; rfl, fun i v r hv hr => ?_⟩, ⟨(ht1.mono fun j _ e => by rw [h.rb j e]; decide).trans ht fun j _ e => by rw [e, h.gw]; decide, old⟩, fun j hj h1 h2 => by rw [hwk]; exact whoQ_not hj h1 fun ⟨_, o, e⟩ => h2 j o e rfl⟩
  · by_cases hl : j < w.heap.size
    · rw [old j hl] at hj; have := h.low j hj; exact ⟨this.1, by simp; omega⟩
    · by_cases h1 : x.ownBlock = some j
      · have := ho.lt j h1; exact ⟨this.1, by simpa using this.2⟩
      · by_cases h2 : 0 < n ∧ ∃ o, a = some ⟨j, o, none⟩
        · obtain ⟨h0, o, e⟩ := h2
          subst e
          have := hk.blt h0
          have := h.lw
          exact ⟨by omega, by simpa using hk.blt h0⟩
        · rw [hwk, whoQ_not (by omega) h1 h2] at hj; exact absurd rfl hj
  · rcases hx j hj with e | e
    · rw [old j (hlt j 4 (h.rb j e) (by decide))]; exact h.rb j e
    · rw [hwk]; exact whoQ_one e hj
  · by_cases hi : i < vs.length
    · rw [List.getElem?_append_left hi] at hv
      rw [List.getElem?_append_left (by rw [← h.rl]; exact hi)] at hr
      obtain ⟨k1, k2, k3⟩ := h.rk i v r hv hr
      exact ⟨k1, (k2.turns ht1 (fun b o e h0 => h4 b 5 (k3 b o e h0) (by decide))).turns ht (fun b o e h0 => hn b 5 (k3 b o e h0) (by decide)), fun b o e h0 => by rw [old b (hlt b 5 (k3 b o e h0) (by decide))]; exact k3 b o e h0⟩
    · rw [List.getElem?_append_right (by omega)] at hv
      rw [List.getElem?_append_right (by rw [← h.rl]; omega), ← h.rl] at hr
      obtain ⟨d, hd⟩ : ∃ d, i - vs.length = d := ⟨_, rfl⟩
      rw [hd] at hv hr
      cases d with
      | zero =>
        simp only [List.getElem?_cons_zero, Option.some.injEq] at hv hr
        subst hv
        subst hr
        exact ⟨rfl, hk.turns ht (fun b o e _ => fun hg => by have := (hkb b o e).1; have := h.lt; omega), fun b o e h0 => e2 e h0⟩
      | succ d => simp at hv
end
end Go.Proofs.Ytljcogimeimknaa
/- What a reading of an entry answers; an entry's cell. No condition. -/
namespace Go.Proofs.Ytljcogimeimknaa
open Go.RowKit
set_option linter.unusedVariables false

/-- an entry of the call's own, a place, an error -/
def RdPost (w : World) (k v : List UInt8) (q : Nat) (er : Int) (e : Ending) (w' : World) : Prop :=
  ∃ vk vv mid, e = .returned (.tuple #[.agg #[vk, vv], .int .i64 q, .int .i64 er]) ∧ OwT fB w' w.heap.size 5 vk k ∧ OwT fB w' mid 5 vv v ∧ (∀ j, vk.ownBlock = some j → j < mid) ∧ w.heap.size ≤ mid ∧ Below w.heap.size w w'
theorem RdPost.no {w w' : World} {q : Nat} {er : Int} (hb : Below w.heap.size w w') : RdPost w [] [] q er (.returned (.tuple #[.agg #[.slice none 0 0, .slice none 0 0], .int .i64 q, .int .i64 er])) w' :=
  ⟨_, _, w.heap.size, rfl, OwT.nil _ _ _ _, OwT.nil _ _ _ _, (fun j hj => by cases hj), Nat.le_refl _, hb⟩
theorem OwT.offB {w : World} {base g : Nat} {e : TypeId} {x : Value} {xs : List UInt8} (h : OwT fB w base e x xs) (hg : g < base) (i : Nat) (v : Value) : OwT fB (w.setCell ⟨g, i, none⟩ v) base e x xs :=
  h.of_block fun j hj => Below.heap_setCell _ _ _ _ (by have := (h.lt j hj).1; intro e; have e : j = g := e; omega)
/-- one cell entry block -/
def Eb (w : World) (g : Nat) (x y : Value) : Prop := w.heap[g]? = some (.cells #[x, y] 42 (0, 0))
theorem Eb.c0 {w : World} {g : Nat} {x y : Value} (h : Eb w g x y) : w.cell? ⟨g, 0, none⟩ = some x := by unfold Eb at h; simp [World.cell?, h]
theorem Eb.c1 {w : World} {g : Nat} {x y : Value} (h : Eb w g x y) : w.cell? ⟨g, 1, none⟩ = some y := by unfold Eb at h; simp [World.cell?, h]
theorem Eb.free {w : World} {g : Nat} {x y : Value} (h : Eb w g x y) (i : Nat) : w.frozen? ⟨g, i, none⟩ = false := by unfold Eb at h; simp [World.frozen?, h]
theorem Eb.lt {w : World} {g : Nat} {x y : Value} (h : Eb w g x y) : g < w.heap.size := (Array.getElem?_eq_some_iff.1 h).1
theorem Eb.keep {w w' : World} {g : Nat} {x y : Value} (h : Eb w g x y) (hb : Below w.heap.size w w') : Eb w' g x y := (hb.block g h.lt).trans h
theorem Eb.off {w : World} {g ga : Nat} {x y : Value} (h : Eb w g x y) (hne : g ≠ ga) (k : Nat) (v : Value) : Eb (w.setCell ⟨ga, k, none⟩ v) g x y := (Below.heap_setCell _ _ _ _ hne).trans h
theorem Eb.set0 {w : World} {g : Nat} {x y : Value} (h : Eb w g x y) (z : Value) : Eb (w.setCell ⟨g, 0, none⟩ z) g z y := by
  unfold Eb at h ⊢
  simp only [World.setCell, Array.getElem?_modify, if_true]
  rw [h]; rfl
theorem Eb.set1 {w : World} {g : Nat} {x y : Value} (h : Eb w g x y) (z : Value) : Eb (w.setCell ⟨g, 1, none⟩ z) g x z := by
  unfold Eb at h ⊢
  simp only [World.setCell, Array.getElem?_modify, if_true]
  rw [h]; rfl
theorem Eb.none2 {w : World} {g : Nat} {x y : Value} (h : Eb w g x y) : Eb ((w.setCell ⟨g, 0, none⟩ (.slice none 0 0)).setCell ⟨g, 1, none⟩ (.slice none 0 0)) g (.slice none 0 0) (.slice none 0 0) := (h.set0 _).set1 _
def erd (p b : List UInt8) (z : Int) : Ent × Nat × Int := if 0 ≤ z ∧ z ≤ b.length then pread p b z.toNat else (([], []), 0, 1)
end Go.Proofs.Ytljcogimeimknaa
/- What a list shows at a place. No condition. -/
namespace Go.Proofs.Ytljcogimeimknaa
set_option linter.unusedVariables false
open Go.RowKit

theorem vdrop_cons {xs : List UInt8} {k : Nat} {x : UInt8} (h : xs[k]? = some x) : xs.drop k = x :: xs.drop (k + 1) := by
  obtain ⟨hk, e⟩ := List.getElem?_eq_some_iff.1 h
  rw [List.drop_eq_getElem_cons hk, e]
end Go.Proofs.Ytljcogimeimknaa
/- Read, the program's and the reference's: contracts. Conditions: the slice within reach. -/
namespace Go.Proofs.Ytljcogimeimknaa
set_option linter.unusedVariables false
open Go.RowKit

set_option maxRecDepth 100000 in
set_option maxHeartbeats 1000000 in
theorem vread_any (a : Option Addr) (n c : Nat) (xs : List UInt8) (m : Nat) (w : World) (hn : n ≤ 1000000000000000) (hm : m ≤ n) (h : Sl Bf w a n c xs) :
    Calls Try.prog 131 #[.slice a n c, .int .i64 m] w fun e w' => e = .returned (.tuple #[.int .u64 (((rd (xs.drop m) 0 0).1 : Nat) : Int), .int .i64 ((m + (rd (xs.drop m) 0 0).2.1 : Nat) : Int), .int .i64 (rd (xs.drop m) 0 0).2.2]) ∧ Below w.heap.size w w' := by
  obtain rfl : n = xs.length := h.len.symm
  have H := Lib.hid h; clear h
  obtain ⟨R, hR⟩ : ∃ R, rd (xs.drop m) 0 0 = R := ⟨_, rfl⟩
  rw [hR]
  have g1 : ¬ ((m : Int) < 0) := by omega
  have g2 : ¬ ((xs.length : Int) < m) := by omega
  have g3 : decide ((m : Int) < 0) = false := decide_eq_false (by omega)
  have g4 : decide (xs.length < m) = false := decide_eq_false (by omega)
  have HR0 := Lib.hid hR; clear hR
  have t0 : Tk (w.alloc (.cells #[.int .u64 0, .int .i64 0, .int .i64 0] 172)) w.heap.size 0 0 0 := heap_new w _
  have b0 : Below w.heap.size w (w.alloc (.cells #[.int .u64 0, .int .i64 0, .int .i64 0] 172)) := (Below.refl _ _).alloc (Nat.le_refl _) _
  have T0 := Lib.hid t0; clear t0
  have B0 := Lib.hid b0; clear b0
  go_enter Try.func131, Try.ntmps131
  go_wp2_with fail
  go_step3
  go_wp2_with fail
  go_step3
  go_wp2_with fail
  go_loopw [8] (fun i wr => ∃ p k v : Nat, p = m + k ∧ p ≤ xs.length ∧ k ≤ 9 ∧ i = .int .i64 p ∧ Tk wr w.heap.size v k 0 ∧ v < 128 ^ k ∧ rd (xs.drop p) k v = R ∧ Below w.heap.size w wr) (fun i _ => xs.length - (intOf i).toNat)
  case atStart => exact ⟨m, 0, 0, rfl, hm, by omega, rfl, T0.out, by decide, HR0.out, B0.out⟩
  case round =>
    obtain ⟨p, k, v, hp, hpl, hk, rfl, ht, hv, hr, hb⟩ := hrel
    have HP := Lib.hid hp; clear hp
    have HT := Lib.hid ht; clear ht
    have HB := Lib.hid hb; clear hb
    clear HR0 T0 B0
    by_cases hlt : p < xs.length
    · obtain ⟨x, b, o, hx, rfl, hc⟩ := (H.out.keep HB.out).at p hlt
      have hc : wr.cell? ⟨b, o + p, none⟩ = some (.int .u8 (B x)) := hc
      rw [vdrop_cons hx] at hr
      clear hx
      by_cases c1 : k = 9 ∧ 1 < x.toNat
      · obtain ⟨rfl, c1⟩ := c1
        rw [rd_long ⟨rfl, c1⟩] at hr
        have HRR := Lib.hid hr; clear hr
        go_wp2_with fail
        refine (take_long _ _ x _ c1 HT.out).mono ?_
        rintro e w2 ⟨rfl, _, hg⟩
        have G := Lib.hid (HB.out.grown hg HB.out.size (fun j hj => by cases hj; exact Nat.le_refl _)); clear hg
        go_wp2_with fail
        try rw [Exit.noGoto_ret]
        go_ret3
        refine ⟨?_, G.out⟩
        rw [← HRR.out, ← HP.out]; rfl
      · by_cases c2 : 0 < k ∧ x.toNat = 0
        · rw [rd_form c2] at hr
          have HRR := Lib.hid hr; clear hr
          go_wp2_with fail
          refine (take_form _ _ k x _ c2.1 hk c2.2 HT.out).mono ?_
          rintro e w2 ⟨rfl, _, hg⟩
          have G := Lib.hid (HB.out.grown hg HB.out.size (fun j hj => by cases hj; exact Nat.le_refl _)); clear hg
          go_wp2_with fail
          try rw [Exit.noGoto_ret]
          go_ret3
          refine ⟨?_, G.out⟩
          rw [← HRR.out, ← HP.out]; rfl
        · by_cases c3 : x.toNat < 128
          · rw [rd_last c1 c2 c3] at hr
            have HRR := Lib.hid hr; clear hr
            have hgo := take_go w.heap.size v k x wr hk c1 c2 hv HT.out
            rw [if_pos c3, decide_eq_true c3] at hgo
            have HGO := Lib.hid hgo; clear hgo c1 c2 c3
            go_wp2_with fail
            refine HGO.out.mono ?_
            rintro e w2 ⟨rfl, ht2, hg⟩
            have G := Lib.hid (HB.out.grown hg HB.out.size (fun j hj => by cases hj; exact Nat.le_refl _)); clear hg
            have c0 := ht2.c0
            clear ht2
            go_wp2_with fail
            try rw [Exit.noGoto_ret]
            go_ret3
            refine ⟨?_, G.out⟩
            rw [← HRR.out]
            show _ = Ending.returned (.tuple #[_, .int .i64 ((m + (k + 1) : Nat) : Int), _])
            rw [← Nat.add_assoc, ← HP.out]; rfl
          · rw [rd_go c1 c2 c3] at hr
            have hv2 := go_small (c := x) hv
            have hk9 : k ≠ 9 := fun e => c1 ⟨e, by omega⟩
            have HRR := Lib.hid hr; clear hr
            have HV2 := Lib.hid hv2; clear hv2
            have hgo := take_go w.heap.size v k x wr hk c1 c2 hv HT.out
            rw [if_neg c3, decide_eq_false c3] at hgo
            have HGO := Lib.hid hgo; clear hgo c1 c2 c3
            go_wp2_with fail
            refine HGO.out.mono ?_
            rintro e w2 ⟨rfl, ht2, hg⟩
            have G := Lib.hid (HB.out.grown hg HB.out.size (fun j hj => by cases hj; exact Nat.le_refl _)); clear hg
            have HT2 := Lib.hid ht2; clear ht2
            go_wp2_with fail
            go_roundw
            case rel => exact ⟨p + 1, k + 1, _, by have := HP.out; omega, by omega, by omega, by go_num, HT2.out, HV2.out, HRR.out, G.out⟩
            case measure => simp [intOf]; omega
    · have hpe : xs.drop p = [] := List.drop_of_length_le (by omega)
      rw [hpe, rd_nil] at hr
      have HRR := Lib.hid hr; clear hr hpe
      have f1 : ((p : Int) == (xs.length : Int)) = true := by rw [beq_iff_eq]; omega
      have f2 : (p == xs.length) = true := by rw [beq_iff_eq]; omega
      go_wp2_with fail
      try rw [Exit.noGoto_ret]
      go_ret3
      refine ⟨?_, HB.out⟩
      rw [← HRR.out, ← HP.out]; rfl
end Go.Proofs.Ytljcogimeimknaa

/- Copy, over any reader and any writer: contract. Conditions: numbers and what is moved within reach. -/
import Derived.Test.YtjkgncogpefnbaaPipeChunks
namespace Go.Proofs.Ytjkgncogpefnbaa
open Go.RowKit Go.Shelf
set_option linter.unusedVariables false
attribute [local go_sem] Oper.semAt_some

def cpyT {σ τ : Type} (R : Rm σ) (V : Wm τ) (size : Nat) (s : σ) (t : τ) : Nat × Int × σ × τ := cpy R V size (R.mu s * 17 + 17) s t 0 0 0
theorem hndT_nil {τ : Type} {V : Wm τ} {t : τ} {wt tk : Nat} (h : wt ≤ 16) : hndT V t [] wt tk = (tk, 0, t, wt) := by
  unfold hndT
  rw [show ([] : List UInt8).length * 17 + 17 - wt = (16 - wt) + 1 by simp; omega]
  exact hnd_nil
theorem hndT_add {τ : Type} {V : Wm τ} {t t' : τ} {p : List UInt8} {wt tk tk1 wt' : Nat} {f : Int} (h : hndT V t p wt 0 = (tk1, f, t', wt')) : hndT V t p wt tk = (tk + tk1, f, t', wt') := by
  unfold hndT at h ⊢
  have := hnd_shift (V := V) (p.length * 17 + 17 - wt) t p wt 0 tk
  rw [Nat.zero_add, h] at this
  rw [this, Nat.add_comm]
theorem allocs_get (w : World) : ∀ (os : List Obj), (os.foldl World.alloc w).heap.size = w.heap.size + os.length ∧ Below w.heap.size w (os.foldl World.alloc w) ∧ ∀ i o, os[i]? = some o → (os.foldl World.alloc w).heap[w.heap.size + i]? = some o := by
  intro os
  have main : ∀ r : List Obj, (r.reverse.foldl World.alloc w).heap.size = w.heap.size + r.reverse.length ∧ Below w.heap.size w (r.reverse.foldl World.alloc w) ∧ ∀ i o, r.reverse[i]? = some o → (r.reverse.foldl World.alloc w).heap[w.heap.size + i]? = some o := by
    intro r
    induction r with
    | nil => exact ⟨rfl, Below.refl _ _, fun i o h => by simp at h⟩
    | cons x r ih =>
      obtain ⟨h1, h2, h3⟩ := ih
      rw [List.reverse_cons, List.foldl_append]
      generalize r.reverse = q at *
      show ((q.foldl World.alloc w).alloc x).heap.size = _ ∧ Below w.heap.size w ((q.foldl World.alloc w).alloc x) ∧ ∀ i o, _ → ((q.foldl World.alloc w).alloc x).heap[w.heap.size + i]? = some o
      refine ⟨by simp [h1]; omega, h2.alloc (by omega) _, fun i o hi => ?_⟩
      by_cases hq : i < q.length
      · rw [List.getElem?_append_left hq] at hi
        exact (Below.heap_alloc _ x _ (by rw [h1]; omega)).trans (h3 i o hi)
      · rw [List.getElem?_append_right (by omega)] at hi
        have hi0 : i - q.length = 0 := by have := (List.getElem?_eq_some_iff.1 hi).1; simp at this; omega
        rw [hi0] at hi
        obtain rfl : x = o := by simpa using hi
        have hw : w.heap.size + i = (q.foldl World.alloc w).heap.size := by rw [h1]; omega
        rw [hw]; exact heap_new _ _
  have := main os.reverse
  rwa [List.reverse_reverse] at this
theorem turns_put {w : World} {g : Nat} (o : Obj) : Turns (fun j => j = g) w (w.putObj g o) := by
  have h := grownBy_putObj' w g o
  exact ⟨h.os, h.tape, h.output, h.size, fun j hj hn => h.block j hj (fun e => by injection e with e; exact hn e)⟩
section
variable {σ τ : Type} {R : Rm σ} {V : Wm τ} {St : σ → (Nat → Prop) → World → Prop} {Wt : τ → (Nat → Prop) → World → Prop}
/-- a writer's frame, what Copy turns lies high enough -/
structure FrB (Wt : τ → (Nat → Prop) → World → Prop) (bd b : Nat) (S0 U0 : Nat → Prop) : Prop where
  fr : ∀ s S T w w', Wt s S w → Turns T w w' → (∀ j, S j → ¬ T j) → (∀ j, T j → bd ≤ j) → Wt s S w'
  lo : bd ≤ b
  s0 : ∀ j, S0 j → bd ≤ j
  u0 : ∀ j, U0 j → bd ≤ j
/-- in the midst of Copy, in memory: b: where its own ten blocks begin -/
structure CpM (Wt : τ → (Nat → Prop) → World → Prop) (w : World) (b : Nat) (S0 U0 : Nat → Prop) (TW : TypeId) (vw : Value) (rc : Obj) (S : Nat → Prop) (t : τ) (U : Nat → Prop) (x6 : Nat) (x7 : Int) (tk wt : Nat) (W : World) : Prop where
  wr : Wt t U W
  dis : ∀ j, S j → ¬ U j
  sO : ∀ j, S j → S0 j ∧ j < b ∨ b + 10 ≤ j
  uO : ∀ j, U j → U0 j ∧ j < b ∨ b + 10 ≤ j
  b3 : Boxed W b 76 (.iface TW vw)
  b6 : Boxed W (b + 1) 3 (.int .i64 (x6 : Nat))
  b7 : Boxed W (b + 2) 35 (.int .i64 x7)
  b8 : Boxed W (b + 3) 3 (.int .i64 (tk : Nat))
  b9 : Boxed W (b + 4) 80 (.int .i64 (wt : Nat))
  rcd : W.heap[b + 8]? = some rc
  dfr : W.heap[b + 7]? = some (.deferred (some []))
  tu : Turns (fun j => S0 j ∨ U0 j) w W
  low : w.heap.size = b
/-- the numbers in the midst of it -/
structure CpN (R : Rm σ) (V : Wm τ) (size Bw Rmx : Nat) (X : Nat × Int × σ × τ) (s : σ) (gv : Nat) (t : τ) (tk wt F : Nat) : Prop where
  eq : cpy R V size F s t gv wt tk = X
  fl : R.mu s * 17 + 16 - gv < F
  gl : gv ≤ 15
  wl : wt ≤ 15
  cn : V.cnt t + R.vol s size * 17 + F * 17 < Bw
  rm : V.room t + R.vol s size ≤ Rmx
  tb : tk + R.vol s size ≤ 4611686018427387904
variable {w W W' : World} {b x6 tk wt bd : Nat} {x7 : Int} {S0 U0 S U : Nat → Prop} {TW : TypeId} {vw : Value} {rc : Obj} {t : τ}
theorem CpM.turns {T : Nat → Prop} (h : CpM Wt w b S0 U0 TW vw rc S t U x6 x7 tk wt W) (hF : FrB Wt bd b S0 U0) (ht : Turns T W W') (h1 : ∀ j, U j → ¬ T j) (h2 : ∀ j, T j → S0 j ∧ j < b ∨ b + 9 ≤ j) :
    CpM Wt w b S0 U0 TW vw rc S t U x6 x7 tk wt W' :=
  have k : ∀ j, b ≤ j → j < b + 9 → ¬ T j := fun j a c e => by rcases h2 j e with h | h <;> omega
  { wr := hF.fr _ _ _ _ _ h.wr ht h1 (fun j e => by have := hF.lo; rcases h2 j e with q | q; (exact hF.s0 j q.1); (omega)), dis := h.dis, sO := h.sO, uO := h.uO,
    b3 := boxed_turns h.b3 ht (k _ (by omega) (by omega)), b6 := boxed_turns h.b6 ht (k _ (by omega) (by omega)), b7 := boxed_turns h.b7 ht (k _ (by omega) (by omega)), b8 := boxed_turns h.b8 ht (k _ (by omega) (by omega)), b9 := boxed_turns h.b9 ht (k _ (by omega) (by omega)),
    rcd := ht.heap h.rcd (k _ (by omega) (by omega)), dfr := ht.heap h.dfr (k _ (by omega) (by omega)),
    tu := h.tu.trans ht fun j hj e => by rcases h2 j e with h3 | h3; (exact .inl h3.1); (have := h.low; omega),
    low := h.low }
/-- the reader's blocks anew -/
theorem CpM.rd {S' : Nat → Prop} {n : Nat} (h : CpM Wt w b S0 U0 TW vw rc S t U x6 x7 tk wt W) (hS : ∀ j, S' j → S j ∨ n ≤ j) (hn : b + 10 ≤ n) (hU : ∀ j, U j → j < n) : CpM Wt w b S0 U0 TW vw rc S' t U x6 x7 tk wt W :=
  { h with dis := fun j hj hu => by rcases hS j hj with h1 | h1; (exact h.dis j h1 hu); (have := hU j hu; omega)
           sO := fun j hj => by rcases hS j hj with h1 | h1; (exact h.sO j h1); (exact .inr (by omega)) }
theorem CpM.put (h : CpM Wt w b S0 U0 TW vw rc S t U x6 x7 tk wt W) (hF : FrB Wt bd b S0 U0) (rc' : Obj) : CpM Wt w b S0 U0 TW vw rc' S t U x6 x7 tk wt (W.putObj (b + 8) rc') := by
  have ht := turns_put (w := W) (g := b + 8) rc'
  have hlt := (Array.getElem?_eq_some_iff.1 h.rcd).1
  exact { wr := hF.fr _ _ _ _ _ h.wr ht (fun j hj e => by rcases h.uO j hj with h1 | h1 <;> omega) (fun j e => by have := hF.lo; omega)
          dis := h.dis, sO := h.sO, uO := h.uO, b3 := boxed_turns h.b3 ht (by omega), b6 := boxed_turns h.b6 ht (by omega), b7 := boxed_turns h.b7 ht (by omega), b8 := boxed_turns h.b8 ht (by omega), b9 := boxed_turns h.b9 ht (by omega)
          rcd := World.putObj_heap_same hlt, dfr := ht.heap h.dfr (by omega), tu := h.tu.trans ht fun j hj e => by have := h.low; omega
          low := h.low }
/-- behind hand -/
theorem CpM.hand {t' : τ} {U' : Nat → Prop} {wt' : Nat} (h : CpM Wt w b S0 U0 TW vw rc S t U x6 x7 tk wt W) (hb : b + 10 ≤ W.heap.size) (hS : ∀ j, S j → j < W.heap.size) (hw : Wt t' U' W') (hU : ∀ j, U' j → U j ∨ W.heap.size ≤ j) (ht : Turns (fun j => U j ∨ j = b + 4) W W') (h9 : Boxed W' (b + 4) 80 (.int .i64 (wt' : Nat))) :
    CpM Wt w b S0 U0 TW vw rc S t' U' x6 x7 tk wt' W' :=
  have k : ∀ j, b ≤ j → j < b + 10 → j ≠ b + 4 → ¬ (U j ∨ j = b + 4) := fun j a c d e => by
    rcases e with e | e
    · rcases h.uO j e with h1 | h1 <;> omega
    · exact d e
  { wr := hw, dis := fun j hj hu => by rcases hU j hu with h1 | h1; (exact h.dis j hj h1); (have := hS j hj; omega)
    sO := h.sO, uO := fun j hj => by rcases hU j hj with h1 | h1; (exact h.uO j h1); (exact .inr (by omega))
    b3 := boxed_turns h.b3 ht (k _ (by omega) (by omega) (by omega)), b6 := boxed_turns h.b6 ht (k _ (by omega) (by omega) (by omega)), b7 := boxed_turns h.b7 ht (k _ (by omega) (by omega) (by omega)), b8 := boxed_turns h.b8 ht (k _ (by omega) (by omega) (by omega)), b9 := h9
    rcd := ht.heap h.rcd (k _ (by omega) (by omega) (by omega)), dfr := ht.heap h.dfr (k _ (by omega) (by omega) (by omega))
    tu := h.tu.trans ht fun j hj e => by
      rcases e with e | e
      · rcases h.uO j e with h1 | h1
        · exact .inr h1.1
        · have := h.low; omega
      · have := h.low; omega
    low := h.low }
theorem CpM.take (h : CpM Wt w b S0 U0 TW vw rc S t U x6 x7 tk wt W) (hF : FrB Wt bd b S0 U0) (n : Nat) : CpM Wt w b S0 U0 TW vw rc S t U x6 x7 n wt (W.setCell ⟨b + 3, 0, none⟩ (.int .i64 (n : Nat))) := by
  have ht := Turns.set (S := fun j => j = b + 3) W (b := b + 3) (i := 0) rfl (.int .i64 (n : Nat))
  exact { wr := hF.fr _ _ _ _ _ h.wr ht (fun j hj e => by rcases h.uO j hj with h1 | h1 <;> omega) (fun j e => by have := hF.lo; omega)
          dis := h.dis, sO := h.sO, uO := h.uO, b3 := boxed_turns h.b3 ht (by omega), b6 := boxed_turns h.b6 ht (by omega), b7 := boxed_turns h.b7 ht (by omega), b8 := boxed_set h.b8 _, b9 := boxed_turns h.b9 ht (by omega)
          rcd := ht.heap h.rcd (by omega), dfr := ht.heap h.dfr (by omega), tu := h.tu.trans ht fun j hj e => by have := h.low; omega
          low := h.low }
theorem CpM.res (h : CpM Wt w b S0 U0 TW vw rc S t U x6 x7 tk wt W) (hF : FrB Wt bd b S0 U0) (n : Nat) (f : Int) :
    CpM Wt w b S0 U0 TW vw rc S t U n f tk wt ((W.setCell ⟨b + 1, 0, none⟩ (.int .i64 (n : Nat))).setCell ⟨b + 2, 0, none⟩ (.int .i64 f)) := by
  have ht : Turns (fun j => j = b + 1 ∨ j = b + 2) W ((W.setCell ⟨b + 1, 0, none⟩ (.int .i64 (n : Nat))).setCell ⟨b + 2, 0, none⟩ (.int .i64 f)) :=
    (Turns.set (S := fun j => j = b + 1 ∨ j = b + 2) W (b := b + 1) (i := 0) (.inl rfl) _).trans (Turns.set (S := fun j => j = b + 1 ∨ j = b + 2) _ (b := b + 2) (i := 0) (.inr rfl) _) fun _ _ e => e
  have h1 := boxed_set h.b6 (.int .i64 (n : Nat))
  have h2 := boxed_set (boxed_turns h.b7 (Turns.set (S := fun j => j = b + 1) W (b := b + 1) (i := 0) rfl (.int .i64 (n : Nat))) (by omega)) (.int .i64 f)
  exact { wr := hF.fr _ _ _ _ _ h.wr ht (fun j hj e => by rcases h.uO j hj with h1 | h1 <;> omega) (fun j e => by have := hF.lo; omega)
          dis := h.dis, sO := h.sO, uO := h.uO, b3 := boxed_turns h.b3 ht (by omega)
          b6 := boxed_turns h1 (Turns.set (S := fun j => j = b + 2) _ (b := b + 2) (i := 0) rfl _) (by omega), b7 := h2
          b8 := boxed_turns h.b8 ht (by omega), b9 := boxed_turns h.b9 ht (by omega)
          rcd := ht.heap h.rcd (by omega), dfr := ht.heap h.dfr (by omega), tu := h.tu.trans ht fun j hj e => by have := h.low; omega
          low := h.low }
end
/-- behind Copy -/
def CopyPost {σ τ : Type} (St : σ → (Nat → Prop) → World → Prop) (Wt : τ → (Nat → Prop) → World → Prop) (X : Nat × Int × σ × τ) (S0 U0 : Nat → Prop) (w : World) (e : Ending) (w' : World) : Prop :=
  e = .returned (.tuple #[.int .i64 (X.1 : Nat), .int .i64 X.2.1]) ∧ ∃ S U, St X.2.2.1 S w' ∧ Wt X.2.2.2 U w' ∧ (∀ j, S j → ¬ U j) ∧ (∀ j, S j → S0 j ∨ w.heap.size ≤ j) ∧ (∀ j, U j → U0 j ∨ w.heap.size ≤ j) ∧ Turns (fun j => S0 j ∨ U0 j) w w'
set_option maxRecDepth 100000 in
set_option maxHeartbeats 4000000 in
theorem copy_any {σ τ : Type} {R : Rm σ} {V : Wm τ} {fr fw : FuncId} {vr vw : Value} {lo lo2 Br Bw Rmx bd : Nat} {St : σ → (Nat → Prop) → World → Prop} {Wt : τ → (Nat → Prop) → World → Prop} (RD : Reader R fr vr lo Br St bd) (WR : Writer V fw vw lo2 Bw Rmx Wt bd) (TR TW : TypeId)
    (hmr : ∀ w, (method 215 TR vr "Read").run Try.prog w = .ok (fr, vr) w) (her : ∀ (args : Array Value) (W : World), (callFunc fr args).run Try.prog W = .ok (.enter fr args) W)
    (hmw : ∀ w, (method 215 TW vw "Write").run Try.prog w = .ok (fw, vw) w) (hew : ∀ (args : Array Value) (W : World), (callFunc fw args).run Try.prog W = .ok (.enter fw args) W)
    (size : Nat) (w : World) (hs1 : 1 ≤ size) (hs2 : size ≤ 4096) (s0 : σ) (S0 : Nat → Prop) (t0 : τ) (U0 : Nat → Prop) (hS : St s0 S0 w) (hU : Wt t0 U0 w) (hd : ∀ j, S0 j → ¬ U0 j)
    (hcr : R.cnt s0 + (R.mu s0 * 17 + 17) < Br) (hcw : V.cnt t0 + R.vol s0 size * 17 + (R.mu s0 * 17 + 17) * 17 < Bw) (hrm : V.room t0 + R.vol s0 size ≤ Rmx) (hvb : R.vol s0 size ≤ 4611686018427387904) (hbd : bd ≤ w.heap.size) (hbS : ∀ j, S0 j → bd ≤ j) (hbU : ∀ j, U0 j → bd ≤ j) :
    Calls Try.prog 14 #[.iface TW vw, .iface TR vr, .int .i64 (size : Nat)] w (CopyPost St Wt (cpyT R V size s0 t0) S0 U0 w) := by
  have WRG := Lib.hid (fun W : World => wrong_any (size : Nat) W)
  have t0d : decide ((size : Int) < 1 ∨ 4096 < (size : Int)) = false := decide_eq_false (by omega)
  rw [t0d] at WRG
  clear t0d
  refine (callsIn_wide (n := 4)).1 ?_
  refine callsIn_of_wp_marks Try.func14 rfl trivial ?_ rfl
  simp only [Try.ntmps14, List.size_toArray, List.length_cons, List.length_nil, Nat.reduceAdd, Nat.reduceSub, Array.replicate_succ, Array.replicate_zero, List.push_toArray, List.append_toArray, List.nil_append, List.cons_append]
  gi_wp2
  refine ⟨trivial, ?_⟩
  refine (callsIn_wide.2 (WRG.out _)).mono ?_
  rintro e w1 ⟨rfl, rfl⟩
  gi_wp2
  refine ⟨trivial, ?_⟩
  refine (callsIn_wide.2 (chunks_any _ _ _ _)).mono ?_
  rintro e w2 ⟨rfl, hw2⟩
  obtain ⟨os, hos⟩ : ∃ os : List Obj, os = [.cells #[.iface TW vw] 76, .cells #[.int .i64 0] 3, .cells #[.int .i64 0] 35, .cells #[.int .i64 0] 3, .cells #[.int .i64 0] 80, .cells #[.iface TR vr] 78, .cells #[.int .i64 (size : Nat)] 3] := ⟨_, rfl⟩
  have hA := allocs_get w os
  rw [show os.foldl World.alloc w = w2 by rw [hos]; exact hw2.symm] at hA
  obtain ⟨hz, hbl, hg⟩ := hA
  rw [hos] at hz hg
  clear hw2
  gi_wp2
  obtain ⟨b, hb⟩ : ∃ b, w.heap.size = b := ⟨_, rfl⟩
  have HB := Lib.hid hb
  rw [hb] at hz hg hbd ⊢
  have FW : FrB Wt bd b S0 U0 := ⟨WR.frame, hbd, hbS, hbU⟩
  clear hbS hbU
  have a3 : Boxed w2 b 76 (.iface TW vw) := hg 0 _ rfl
  have a6 : Boxed w2 (b + 1) 3 (.int .i64 ((0 : Nat) : Int)) := hg 1 _ rfl
  have a7 : Boxed w2 (b + 2) 35 (.int .i64 0) := hg 2 _ rfl
  have a8 : Boxed w2 (b + 3) 3 (.int .i64 ((0 : Nat) : Int)) := hg 3 _ rfl
  have a9 : Boxed w2 (b + 4) 80 (.int .i64 ((0 : Nat) : Int)) := hg 4 _ rfl
  have ar : Boxed w2 (b + 5) 78 (.iface TR vr) := hg 5 _ rfl
  have as' : Boxed w2 (b + 6) 3 (.int .i64 (size : Nat)) := hg 6 _ rfl
  have hz2 : w2.heap.size = b + 7 := hz
  obtain ⟨X, hX⟩ : ∃ X, cpyT R V size s0 t0 = X := ⟨_, rfl⟩
  have HX := Lib.hid hX
  clear hos
  have A3 := Lib.hid a3; have A6 := Lib.hid a6; have A7 := Lib.hid a7; have A8 := Lib.hid a8; have A9 := Lib.hid a9; have AR := Lib.hid ar; have AS := Lib.hid as'
  have HBL := Lib.hid hbl
  have HZ2 := Lib.hid hz2
  have HS0 := Lib.hid hS; have HU0 := Lib.hid hU; have HD0 := Lib.hid hd
  have HC1 := Lib.hid hcr; have HC2 := Lib.hid hcw; have HC3 := Lib.hid (And.intro hrm hvb)
  clear a3 a6 a7 a8 a9 ar as' hbl hz hg hX hS hU hd hcr hcw hrm hvb WRG
  refine range_outer rfl (by omega) (gf := 34) (lb := #[.pointer (some ⟨b + 5, 0, none⟩), .pointer (some ⟨b + 6, 0, none⟩)]) rfl trivial (enters_of Try.func34 (by kernel_rfl) rfl) ?_
  intro fn hfn
  rw [hz2]
  generalize hrc : lrec fn _ _ _ _ (b + 7) = rc
  have HRC := Lib.hid hrc
  have e1 : (w2.alloc (.deferred (some []))).heap.size = b + 8 := by simp [hz2]
  have e2 : ((w2.alloc (.deferred (some []))).alloc (rc .ready none)).heap.size = b + 9 := by simp [hz2]
  have k1 : Below w2.heap.size w2 ((w2.alloc (.deferred (some []))).alloc (rc .ready none)) := ((Below.refl _ _).alloc (Nat.le_refl _) _).alloc (by simp) _
  have d1 : ((w2.alloc (.deferred (some []))).alloc (rc .ready none)).heap[b + 8]? = some (rc .ready none) := by rw [← e1]; exact heap_new _ _
  have d2 : ((w2.alloc (.deferred (some []))).alloc (rc .ready none)).heap[b + 7]? = some (.deferred (some [])) := by
    rw [← hz2]
    exact (Below.heap_alloc _ _ _ (by simp)).trans (heap_new _ _)
  generalize (w2.alloc (.deferred (some []))).alloc (rc .ready none) = W1 at *
  have t1 : Turns (fun j => S0 j ∨ U0 j) w W1 := .of_below (HBL.out.trans (k1.mono (by have := HB.out; omega)))
  have kb := fun (j : Nat) (hj : j < b + 7) => k1.block j (by omega)
  have MM := Lib.hid (show CpM Wt w b S0 U0 TW vw (rc .ready none) S0 t0 U0 0 0 0 0 W1 from
    { wr := WR.frame _ _ (fun _ => False) _ _ HU0.out (.of_below (by rw [HB.out]; exact HBL.out |> fun q => (by have := HB.out; rw [this] at q; exact q.trans (k1.mono (by omega))))) (fun _ _ e => e) (fun _ e => e.elim)
      dis := HD0.out, sO := fun j hj => .inl ⟨hj, by have := (RD.inS _ _ _ HS0.out j hj).2; have := HB.out; omega⟩, uO := fun j hj => .inl ⟨hj, by have := (WR.inS _ _ _ HU0.out j hj).2; have := HB.out; omega⟩
      b3 := (kb _ (by omega)).trans A3.out, b6 := (kb _ (by omega)).trans A6.out, b7 := (kb _ (by omega)).trans A7.out, b8 := (kb _ (by omega)).trans A8.out, b9 := (kb _ (by omega)).trans A9.out
      rcd := d1, dfr := d2, tu := t1, low := HB.out })
  have STW := Lib.hid (RD.frame s0 S0 (fun _ => False) w W1 HS0.out (.of_below (by rw [HB.out]; exact HBL.out |> fun q => (by have := HB.out; rw [this] at q; exact q.trans (k1.mono (by omega))))) (fun _ _ e => e) (fun _ e => e.elim))
  have BR1 : Boxed W1 (b + 5) 78 (.iface TR vr) := (kb _ (by omega)).trans AR.out
  have BS1 : Boxed W1 (b + 6) 3 (.int .i64 (size : Nat)) := (kb _ (by omega)).trans AS.out
  have hlow : ∀ j, S0 j → j < b := fun j hj => by have := (RD.inS _ _ _ HS0.out j hj).2; have := HB.out; omega
  obtain ⟨J, hJ⟩ : ∃ J : σ → (Nat → Prop) → Nat → World → Prop, J = fun s S gv W => ∃ t U tk wt F, CpM Wt w b S0 U0 TW vw (rc .ready none) S t U 0 0 tk wt W ∧ CpN R V size Bw Rmx X s gv t tk wt F := ⟨_, rfl⟩
  obtain ⟨Jx, hJx⟩ : ∃ Jx : World → Prop, Jx = fun W => ∃ S U tk wt, CpM Wt w b S0 U0 TW vw (rc .done (some .ret)) S X.2.2.2 U X.1 X.2.1 tk wt W ∧ St X.2.2.1 S W := ⟨_, rfl⟩
  have BODY : ∀ (ap : Option Addr) (n c : Nat) (xs : List UInt8) (e : Int) (W : World) (S U : Nat → Prop) (t : τ) (tk wt : Nat), CpM Wt w b S0 U0 TW vw (rc .ready none) S t U 0 0 tk wt W → Sl Bf W ap n c xs → n ≤ 4096 → (∀ b' o, ap = some ⟨b', o, none⟩ → ¬ U b' ∧ b + 10 ≤ b' ∧ b' < W.heap.size) → b + 10 ≤ W.heap.size → (∀ j, S j → j < W.heap.size) → wt ≤ 15 →
      V.cnt t + (n * 17 + 17) < Bw → V.room t + n ≤ Rmx → tk ≤ 4611686018427387904 → ∀ RR : Ending → World → Prop,
      (∀ tk1 t' U' wt' W', hndT V t xs wt 0 = (tk1, 0, t', wt') → e = 0 → CpM Wt w b S0 U0 TW vw (rc .ready none) S t' U' 0 0 (tk + tk1) wt' W' → (∀ s', St s' S W → St s' S W') → (∀ j, j = b + 9 ∨ j = b + 5 ∨ j = b + 6 → W'.heap[j]? = W.heap[j]?) → W.heap.size ≤ W'.heap.size → V.cnt t' ≤ V.cnt t + (xs.length * 17 + 17) → V.room t' ≤ V.room t + tk1 → tk1 ≤ xs.length → wt' ≤ 15 → RR (.returned (.bool true)) W') →
      (∀ tk1 f f' t' U' wt' W', hndT V t xs wt 0 = (tk1, f, t', wt') → (f ≠ 0 ∧ f' = f ∨ f = 0 ∧ e = 31 ∧ f' = 0 ∨ f = 0 ∧ e ≠ 31 ∧ e ≠ 0 ∧ f' = e) → CpM Wt w b S0 U0 TW vw (rc .done (some .ret)) S t' U' (tk + tk1) f' (tk + tk1) wt' W' → (∀ s', St s' S W → St s' S W') → RR (.returned (.bool false)) W') →
      YieldAt Fence.wide 2 Try.prog (b + 7 + 1) #[.slice ap n c, .int .i64 e] W RR := by
    clear MM STW BR1 BS1 hlow kb t1 d1 d2 k1 HX HC1 HC2 HC3 HS0 HU0 HD0 A3 A6 A7 A8 A9 AR AS HBL
    intro ap n c xs e W S U t tk wt hM hsl hn hap hsz hSl hwt hcn hrm htb RR hA hB
    have M := Lib.hid hM
    have A := Lib.hid hA
    have B := Lib.hid hB
    have hU4 : ∀ o, o ≤ 9 → ¬ U (b + o) := fun o ho e => by rcases M.out.uO _ e with h | h <;> omega
    have hS4 : ∀ o, o ≤ 9 → ¬ S (b + o) := fun o ho e => by rcases M.out.sO _ e with h | h <;> omega
    have M2 := Lib.hid (M.out.put FW (rc .busy none))
    have TP := Lib.hid (turns_put (w := W) (g := b + 8) (rc .busy none))
    have HH := Lib.hid (hand_any WR TW hmw hew t U (W.putObj (b + 8) (rc .busy none)) ap n c xs (b + 4) wt M2.out.wr (hsl.turns TP.out fun b' o e hn0 e2 => by have := hap b' o e; omega) (by omega) (fun b' o e => by have := hap b' o e; exact ⟨this.1, by have h2 := TP.out.size; omega, by omega⟩) M2.out.b9 (hU4 4 (by omega)) hwt (by omega) hcn hrm)
    have HS4 := Lib.hid hS4
    have HU4 := Lib.hid hU4
    have HSL := Lib.hid hSl
    have HXL := Lib.hid hsl.len
    clear hM hsl hap hA hB hU4 hS4 hSl hcn hrm
    refine round_at2 (D := b + 7) (fn := fn) trivial (by rw [hrc]; exact M.out.rcd) rfl ?_
    rw [hrc]
    clear hrc
    intro K hK
    have KK := Lib.hid hK
    clear hK
    gi_wp2
    refine KK.out _ _ M.out.rcd ?_
    have c3 := cell_of M2.out.b3 0 rfl
    clear KK
    change Code.wpIn _ _ _ _ _ _ (W.putObj (b + 8) (rc .busy none))
    have hz2' : b + 10 ≤ (W.putObj (b + 8) (rc .busy none)).heap.size := by have := TP.out.size; omega
    generalize W.putObj (b + 8) (rc .busy none) = W2 at *
    gi_wp2
    refine ⟨trivial, ?_⟩
    refine (CallsIn.inRound _ (callsIn_wide.2 HH.out)).mono ?_
    rintro e3 W3 ⟨tk1, f, t', wt', U', hh, rfl, hw', hU', hT', h9', hcn', hrm', htk', hwl'⟩
    have hSW2 : ∀ j, S j → j < W2.heap.size := fun j hj => by have := HSL.out j hj; have := TP.out.size; omega
    have M3 := Lib.hid (M2.out.hand hz2' hSW2 hw' hU' hT' h9')
    have ST3 := Lib.hid (fun (s' : σ) (h : St s' S W) => RD.frame s' S _ W2 W3 (RD.frame s' S _ W W2 h TP.out (fun j hj e => by subst e; exact HS4.out 8 (by omega) hj) (fun j e => by omega)) hT' (fun j hj e => by
      rcases e with e | e
      · exact M2.out.dis j hj e
      · subst e; exact HS4.out 4 (by omega) hj) (fun j e => by
      rcases e with e | e
      · rcases M2.out.uO j e with q | q
        · exact FW.u0 j q.1
        · omega
      · omega))
    have H1 := Lib.hid hh
    have H2 := Lib.hid (And.intro hcn' (And.intro hrm' (And.intro htk' hwl')))
    have K3 := Lib.hid (show ∀ j, j = b + 9 ∨ j = b + 5 ∨ j = b + 6 → W3.heap[j]? = W.heap[j]? from fun j hj => by
      have hjb : ∃ o, o ≤ 9 ∧ j = b + o := by rcases hj with rfl | rfl | rfl; (exact ⟨9, by omega, rfl⟩); (exact ⟨5, by omega, rfl⟩); (exact ⟨6, by omega, rfl⟩)
      obtain ⟨o, ho, rfl⟩ := hjb
      rw [hT'.block _ (by omega) (fun e => by
        rcases e with e | e
        · exact HU4.out o ho e
        · omega)]
      exact TP.out.block _ (by omega) (by omega))
    have hz3 : W.heap.size ≤ W3.heap.size := Nat.le_trans TP.out.size hT'.size
    have c8 : W3.cell? ⟨b + 1 + 1 + 1, 0, none⟩ = some (.int .i64 (tk : Nat)) := cell_of M3.out.b8 0 rfl
    have f8 : W3.frozen? ⟨b + 1 + 1 + 1, 0, none⟩ = false := free_block M3.out.b8 0
    have r1 : IntKind.i64.wrap ((tk : Int) + (tk1 : Int)) = (tk : Int) + (tk1 : Int) := IntWalk.i64_in _ (by have := HXL.out; omega)
    have M4' := Lib.hid (show CpM Wt w b S0 U0 TW vw (rc .busy none) S t' U' 0 0 (tk + tk1) wt' (W3.setCell ⟨b + 1 + 1 + 1, 0, none⟩ (.int .i64 ((tk : Int) + (tk1 : Int)))) from M3.out.take FW (tk + tk1))
    have ST4' := Lib.hid (fun (s' : σ) (h : St s' S W) => RD.frame s' S _ W3 (W3.setCell ⟨b + 1 + 1 + 1, 0, none⟩ (.int .i64 ((tk : Int) + (tk1 : Int)))) (ST3.out s' h) (Turns.set (S := fun j => j = b + 3) W3 (b := b + 3) (i := 0) rfl _) (fun j hj e => by subst e; exact HS4.out 3 (by omega) hj) (fun j e => by omega))
    have K4' := Lib.hid (show ∀ j, j = b + 9 ∨ j = b + 5 ∨ j = b + 6 → (W3.setCell ⟨b + 1 + 1 + 1, 0, none⟩ (.int .i64 ((tk : Int) + (tk1 : Int)))).heap[j]? = W.heap[j]? from fun j hj => (Below.heap_setCell _ _ _ _ (show j ≠ b + 3 by omega)).trans (K3.out j hj))
    have hz4' : W.heap.size ≤ (W3.setCell ⟨b + 1 + 1 + 1, 0, none⟩ (.int .i64 ((tk : Int) + (tk1 : Int)))).heap.size := by simpa using hz3
    have d8 : (W3.setCell ⟨b + 1 + 1 + 1, 0, none⟩ (.int .i64 ((tk : Int) + (tk1 : Int)))).cell? ⟨b + 1 + 1 + 1, 0, none⟩ = some (.int .i64 ((tk : Int) + (tk1 : Int))) := cell_of M4'.out.b8 0 rfl
    have d6 : (W3.setCell ⟨b + 1 + 1 + 1, 0, none⟩ (.int .i64 ((tk : Int) + (tk1 : Int)))).cell? ⟨b + 1, 0, none⟩ = some (.int .i64 0) := cell_of M4'.out.b6 0 rfl
    have e6 : (W3.setCell ⟨b + 1 + 1 + 1, 0, none⟩ (.int .i64 ((tk : Int) + (tk1 : Int)))).frozen? ⟨b + 1, 0, none⟩ = false := free_block M4'.out.b6 0
    clear hh hw' hU' hT' h9' hcn' hrm' htk' hwl' hSW2 HH c3 M2 M3 K3 hz3 ST3
    have q7 : ((W3.setCell ⟨b + 1 + 1 + 1, 0, none⟩ (.int .i64 ((tk : Int) + (tk1 : Int)))).setCell ⟨b + 1, 0, none⟩ (.int .i64 ((tk : Int) + (tk1 : Int)))).cell? ⟨b + 1 + 1, 0, none⟩ = some (.int .i64 0) := cell_of (boxed_turns M4'.out.b7 (Turns.set (S := fun j => j = b + 1) (W3.setCell ⟨b + 1 + 1 + 1, 0, none⟩ (.int .i64 ((tk : Int) + (tk1 : Int)))) (b := b + 1) (i := 0) rfl _) (by omega)) 0 rfl
    have p7 : ((W3.setCell ⟨b + 1 + 1 + 1, 0, none⟩ (.int .i64 ((tk : Int) + (tk1 : Int)))).setCell ⟨b + 1, 0, none⟩ (.int .i64 ((tk : Int) + (tk1 : Int)))).frozen? ⟨b + 1 + 1, 0, none⟩ = false := free_block (boxed_turns M4'.out.b7 (Turns.set (S := fun j => j = b + 1) (W3.setCell ⟨b + 1 + 1 + 1, 0, none⟩ (.int .i64 ((tk : Int) + (tk1 : Int)))) (b := b + 1) (i := 0) rfl _) (by omega)) 0
    by_cases hf : f = 0
    · subst hf
      have t0f : ((0 : Int) != 0) = false := by simp
      by_cases h31 : e = 31
      · have E31 := Lib.hid h31
        have t1f : (e == 31) = true := by rw [beq_iff_eq]; exact h31
        clear h31 A
        have M5 := Lib.hid (show CpM Wt w b S0 U0 TW vw (rc .busy none) S t' U' (tk + tk1) (0) (tk + tk1) wt' (((W3.setCell ⟨b + 1 + 1 + 1, 0, none⟩ (.int .i64 ((tk : Int) + (tk1 : Int)))).setCell ⟨b + 1, 0, none⟩ (.int .i64 ((tk : Int) + (tk1 : Int)))).setCell ⟨b + 1 + 1, 0, none⟩ (.int .i64 (0))) from M4'.out.res FW (tk + tk1) (0))
        have ST5 := Lib.hid (fun (s' : σ) (h : St s' S W) => RD.frame s' S (fun j => j = b + 8) _ ((((W3.setCell ⟨b + 1 + 1 + 1, 0, none⟩ (.int .i64 ((tk : Int) + (tk1 : Int)))).setCell ⟨b + 1, 0, none⟩ (.int .i64 ((tk : Int) + (tk1 : Int)))).setCell ⟨b + 1 + 1, 0, none⟩ (.int .i64 (0))).putObj (b + 8) (rc .done (some .ret))) (RD.frame s' S (fun j => j = b + 1 ∨ j = b + 2) (W3.setCell ⟨b + 1 + 1 + 1, 0, none⟩ (.int .i64 ((tk : Int) + (tk1 : Int)))) _ (ST4'.out s' h) ((Turns.set (S := fun j => j = b + 1 ∨ j = b + 2) (W3.setCell ⟨b + 1 + 1 + 1, 0, none⟩ (.int .i64 ((tk : Int) + (tk1 : Int)))) (b := b + 1) (i := 0) (.inl rfl) _).trans (Turns.set (S := fun j => j = b + 1 ∨ j = b + 2) _ (b := b + 2) (i := 0) (.inr rfl) _) fun _ _ e => e) (fun j hj e => by rcases e with rfl | rfl; (exact HS4.out 1 (by omega) hj); (exact HS4.out 2 (by omega) hj)) (fun j e => by omega)) (turns_put _) (fun j hj e => by subst e; exact HS4.out 8 (by omega) hj) (fun j e => by omega))
        gi_wp2
        refine ⟨M5.out.rcd, ?_⟩
        exact B.out tk1 0 (0) t' U' wt' _ H1.out (.inr (.inl ⟨rfl, E31.out, rfl⟩)) (M5.out.put FW _) ST5.out
      · have E31 := Lib.hid h31
        have t1f : (e == 31) = false := by rw [beq_eq_false_iff_ne]; exact h31
        by_cases he0 : e = 0
        · have E0 := Lib.hid he0
          have t2f : (e != 0) = false := by rw [bne_eq_false_iff_eq]; exact he0
          clear h31 he0 B
          gi_wp2
          refine ⟨M4'.out.rcd, ?_⟩
          exact A.out tk1 t' U' wt' _ H1.out E0.out (M4'.out.put FW _) (fun s' h => RD.frame s' S _ _ _ (ST4'.out s' h) (turns_put _) (fun j hj e => by subst e; exact HS4.out 8 (by omega) hj) (fun j e => by omega)) (fun j hj => ((turns_put (w := (W3.setCell ⟨b + 1 + 1 + 1, 0, none⟩ (.int .i64 ((tk : Int) + (tk1 : Int))))) (g := b + 8) (rc .ready none)).block j (by have := K4'.out j hj; have h9 : j < W.heap.size := (by omega); omega) (by omega)).trans (K4'.out j hj)) (Nat.le_trans hz4' (turns_put _).size) H2.out.1 (H2.out.2.1 (by decide)) H2.out.2.2.1 (H2.out.2.2.2 (by trivial))
        · have E0 := Lib.hid he0
          have t2f : (e != 0) = true := by rw [bne_iff_ne]; exact he0
          clear h31 he0 A
          have M5 := Lib.hid (show CpM Wt w b S0 U0 TW vw (rc .busy none) S t' U' (tk + tk1) (e) (tk + tk1) wt' (((W3.setCell ⟨b + 1 + 1 + 1, 0, none⟩ (.int .i64 ((tk : Int) + (tk1 : Int)))).setCell ⟨b + 1, 0, none⟩ (.int .i64 ((tk : Int) + (tk1 : Int)))).setCell ⟨b + 1 + 1, 0, none⟩ (.int .i64 (e))) from M4'.out.res FW (tk + tk1) (e))
          have ST5 := Lib.hid (fun (s' : σ) (h : St s' S W) => RD.frame s' S (fun j => j = b + 8) _ ((((W3.setCell ⟨b + 1 + 1 + 1, 0, none⟩ (.int .i64 ((tk : Int) + (tk1 : Int)))).setCell ⟨b + 1, 0, none⟩ (.int .i64 ((tk : Int) + (tk1 : Int)))).setCell ⟨b + 1 + 1, 0, none⟩ (.int .i64 (e))).putObj (b + 8) (rc .done (some .ret))) (RD.frame s' S (fun j => j = b + 1 ∨ j = b + 2) (W3.setCell ⟨b + 1 + 1 + 1, 0, none⟩ (.int .i64 ((tk : Int) + (tk1 : Int)))) _ (ST4'.out s' h) ((Turns.set (S := fun j => j = b + 1 ∨ j = b + 2) (W3.setCell ⟨b + 1 + 1 + 1, 0, none⟩ (.int .i64 ((tk : Int) + (tk1 : Int)))) (b := b + 1) (i := 0) (.inl rfl) _).trans (Turns.set (S := fun j => j = b + 1 ∨ j = b + 2) _ (b := b + 2) (i := 0) (.inr rfl) _) fun _ _ e => e) (fun j hj e => by rcases e with rfl | rfl; (exact HS4.out 1 (by omega) hj); (exact HS4.out 2 (by omega) hj)) (fun j e => by omega)) (turns_put _) (fun j hj e => by subst e; exact HS4.out 8 (by omega) hj) (fun j e => by omega))
          gi_wp2
          refine ⟨M5.out.rcd, ?_⟩
          exact B.out tk1 0 (e) t' U' wt' _ H1.out (.inr (.inr ⟨rfl, E31.out, E0.out, rfl⟩)) (M5.out.put FW _) ST5.out
    · have F0 := Lib.hid hf
      have t0f : (f != 0) = true := by rw [bne_iff_ne]; exact hf
      clear hf A
      have M5 := Lib.hid (show CpM Wt w b S0 U0 TW vw (rc .busy none) S t' U' (tk + tk1) (f) (tk + tk1) wt' (((W3.setCell ⟨b + 1 + 1 + 1, 0, none⟩ (.int .i64 ((tk : Int) + (tk1 : Int)))).setCell ⟨b + 1, 0, none⟩ (.int .i64 ((tk : Int) + (tk1 : Int)))).setCell ⟨b + 1 + 1, 0, none⟩ (.int .i64 (f))) from M4'.out.res FW (tk + tk1) (f))
      have ST5 := Lib.hid (fun (s' : σ) (h : St s' S W) => RD.frame s' S (fun j => j = b + 8) _ ((((W3.setCell ⟨b + 1 + 1 + 1, 0, none⟩ (.int .i64 ((tk : Int) + (tk1 : Int)))).setCell ⟨b + 1, 0, none⟩ (.int .i64 ((tk : Int) + (tk1 : Int)))).setCell ⟨b + 1 + 1, 0, none⟩ (.int .i64 (f))).putObj (b + 8) (rc .done (some .ret))) (RD.frame s' S (fun j => j = b + 1 ∨ j = b + 2) (W3.setCell ⟨b + 1 + 1 + 1, 0, none⟩ (.int .i64 ((tk : Int) + (tk1 : Int)))) _ (ST4'.out s' h) ((Turns.set (S := fun j => j = b + 1 ∨ j = b + 2) (W3.setCell ⟨b + 1 + 1 + 1, 0, none⟩ (.int .i64 ((tk : Int) + (tk1 : Int)))) (b := b + 1) (i := 0) (.inl rfl) _).trans (Turns.set (S := fun j => j = b + 1 ∨ j = b + 2) _ (b := b + 2) (i := 0) (.inr rfl) _) fun _ _ e => e) (fun j hj e => by rcases e with rfl | rfl; (exact HS4.out 1 (by omega) hj); (exact HS4.out 2 (by omega) hj)) (fun j e => by omega)) (turns_put _) (fun j hj e => by subst e; exact HS4.out 8 (by omega) hj) (fun j e => by omega))
      gi_wp2
      refine ⟨M5.out.rcd, ?_⟩
      exact B.out tk1 f (f) t' U' wt' _ H1.out (.inl ⟨F0.out, rfl⟩) (M5.out.put FW _) ST5.out
  have EATS : Eats R St (b + 7 + 1) (b + 9) (b + 5) (b + 6) size J (fun _ => False) Jx := by
    clear MM STW BR1 BS1 hlow kb t1 d1 d2 k1
    have gwU : ∀ (S U : Nat → Prop) (t : τ) (x6 : Nat) (x7 : Int) (tk wt : Nat) (o : Obj) (W : World), CpM Wt w b S0 U0 TW vw o S t U x6 x7 tk wt W → (∀ j, U j → ¬ (S j ∨ j = b + 9)) ∧ (∀ j, (S j ∨ j = b + 9) → S0 j ∧ j < b ∨ b + 9 ≤ j) := fun S U t x6 x7 tk wt o W h =>
      ⟨fun j hj e => by
        rcases e with e | e
        · exact h.dis j e hj
        · rcases h.uO j hj with h1 | h1 <;> omega, fun j e => by
        rcases e with e | e
        · rcases h.sO j e with h1 | h1
          · exact .inl h1
          · exact .inr (by omega)
        · exact .inr (by omega)⟩
    subst hJ hJx
    refine { stab := ?_, move := ?_, idle := ?_, bad := ?_, tired := ?_ }
    · rintro s S gv W W' ⟨t, U, tk, wt, F, h, hn⟩ ht
      obtain ⟨g1, g2⟩ := gwU _ _ _ _ _ _ _ _ _ h
      exact ⟨t, U, tk, wt, F, h.turns FW ht (fun j hj e => g1 j hj (.inr e)) (fun j e => g2 j (.inr e)), hn⟩
    · rintro s S gv W S' W1' gp k zs hgw ⟨t, U, tk, wt, F, h, hn⟩ hst hnum hk hmv hst' hS' hT hgp hgp1 hSg hhp hzl hzt
      obtain ⟨g1, g2⟩ := gwU _ _ _ _ _ _ _ _ _ h
      have hUlt : ∀ j, U j → j < W.heap.size := fun j hj => (WR.inS _ _ _ h.wr j hj).2
      have M1 := Lib.hid ((h.turns FW hT g1 g2).rd hS' (by omega) hUlt)
      have hgU : ¬ U gp := fun e => by have := hUlt gp e; omega
      obtain ⟨F, rfl⟩ : ∃ F', F = F' + 1 := ⟨F - 1, by have := hn.fl; omega⟩
      have hvS := R.volS s size (by omega) (by omega)
      have hmL := R.muL s size
      have hlay : (R.lay s size).take (R.num s size).toNat = zs.take k := by rw [hnum, Int.toNat_natCast, ← hzt]
      have hnb : ¬ (R.num s size < 0 ∨ (size : Int) < R.num s size) := by omega
      have hmv' : 0 < R.num s size ∨ R.er s size ≠ 0 := by rcases hmv with h | h; (exact .inl (by omega)); (exact .inr h)
      have hkl : (zs.take k).length = k := by rw [List.length_take]; omega
      rw [hnum, Int.toNat_natCast] at hvS
      have hcn := hn.cn; have hrm := hn.rm; have htb := hn.tb; have hfl := hn.fl; have hgl := hn.gl
      refine BODY (some ⟨gp, 0, none⟩) k k (zs.take k) (R.er s size) W1' S' U t tk wt M1.out (Sl.of_row (zs.take k) k k hhp hkl (Nat.le_refl _) (by simp [List.map_take])) (by omega) (fun b' o e => by injection e with e; injection e with e1 e2; subst e1; exact ⟨hgU, by omega, hgp1⟩) (by omega) (fun j hj => (RD.inS _ _ _ hst' j hj).2) hn.wl (by omega) (by omega) (by omega) _ ?_ ?_
      · intro tk1 t' U' wt' W' hh he hM' hst2 hk3 hz3 hc3 hr3 htk3 hw3
        rw [hkl] at hc3 htk3
        have hxe := hn.eq
        have hc := cpy_hand (R := R) (F := F) (gv := gv) hnb hmv' (show hndT V t ((R.lay s size).take (R.num s size).toNat) wt tk = (tk + tk1, 0, t', wt') by rw [hlay]; exact hndT_add hh)
        rw [hc, if_neg (by simp), if_neg (by rw [he]; decide), if_neg (by simpa using he)] at hxe
        have h0k : 0 < k := by
          rcases hmv with h | h
          · exact h
          · exact absurd he h
        have hmu := hmL he (by omega) (by omega)
        exact .inl ⟨rfl, fun _ => ⟨⟨t', U', tk + tk1, wt', F, hM', ⟨hxe, by omega, by omega, hw3, by omega, by omega, by omega⟩⟩, hst2 _ hst', hk3, hz3⟩, fun h => h he⟩
      · intro tk1 f f' t' U' wt' W' hh hcase hM' hst2
        have hxe := hn.eq
        have hc := cpy_hand (R := R) (F := F) (gv := gv) hnb hmv' (show hndT V t ((R.lay s size).take (R.num s size).toNat) wt tk = (tk + tk1, f, t', wt') by rw [hlay]; exact hndT_add hh)
        rw [hc] at hxe
        have hX' : X = (tk + tk1, f', R.nxt s size, t') := by
          rw [← hxe]
          rcases hcase with ⟨h1, h2⟩ | ⟨h1, h2, h3⟩ | ⟨h1, h2, h3, h4⟩
          · rw [if_pos h1, h2]
          · rw [if_neg (by simpa using h1), if_pos h2, h3]
          · rw [if_neg (by simpa using h1), if_neg h2, if_pos h3, h4]
        refine .inr ⟨rfl, S', U', tk + tk1, wt', ?_, ?_⟩
        · rw [hX']; exact hM'
        · rw [hX']; exact hst2 _ hst'
    · rintro s S gv W S' W1' hgw ⟨t, U, tk, wt, F, h, hn⟩ hst hnum her' hg hst' hS' hT
      obtain ⟨g1, g2⟩ := gwU _ _ _ _ _ _ _ _ _ h
      have hUlt : ∀ j, U j → j < W.heap.size := fun j hj => (WR.inS _ _ _ h.wr j hj).2
      obtain ⟨F, rfl⟩ : ∃ F', F = F' + 1 := ⟨F - 1, by have := hn.fl; omega⟩
      have hvS := R.volS s size (by omega) (by omega)
      have hmE := R.muE s size her'
      have hxe := hn.eq
      rw [cpy_wait (by omega) (by rw [her']; omega) (by omega)] at hxe
      have hcn := hn.cn; have hrm := hn.rm; have htb := hn.tb; have hfl := hn.fl; have hgl := hn.gl
      exact ⟨t, U, tk, wt, F, (h.turns FW hT g1 g2).rd hS' (by omega) hUlt, ⟨hxe, by omega, by omega, hn.wl, by omega, by omega, by omega⟩⟩
    · rintro s S gv W S' W1' hgw ⟨t, U, tk, wt, F, h, hn⟩ hst hbad hst' hS' hT
      obtain ⟨g1, g2⟩ := gwU _ _ _ _ _ _ _ _ _ h
      have hUlt : ∀ j, U j → j < W.heap.size := fun j hj => (WR.inS _ _ _ h.wr j hj).2
      obtain ⟨F, rfl⟩ : ∃ F', F = F' + 1 := ⟨F - 1, by have := hn.fl; omega⟩
      have hxe := hn.eq
      rw [cpy_bad hbad] at hxe
      have hcn := hn.cn; have hrm := hn.rm; have htb := hn.tb; have hsz := hT.size
      refine BODY none 0 0 [] 34 W1' S' U t tk wt ((h.turns FW hT g1 g2).rd hS' (by omega) hUlt) (Sl.nil _ _) (by omega) (fun b' o e => by cases e) (by omega) (fun j hj => (RD.inS _ _ _ hst' j hj).2) hn.wl (by omega) (by omega) (by omega) _ ?_ ?_
      · intro tk1 t' U' wt' W' hh he
        exact absurd he (by decide)
      · intro tk1 f f' t' U' wt' W' hh hcase hM' hst2
        rw [hndT_nil (by have := hn.wl; omega)] at hh
        simp only [Prod.mk.injEq] at hh
        obtain ⟨rfl, rfl, rfl, rfl⟩ := hh
        have hf' : f' = 34 := by rcases hcase with ⟨h1, h2⟩ | ⟨h1, h2, h3⟩ | ⟨h1, h2, h3, h4⟩; (exact absurd rfl h1); (exact absurd h2 (by decide)); (exact h4)
        subst hf'
        refine .inr ⟨rfl, S', U', tk, wt, ?_, ?_⟩
        · rw [← hxe]; exact hM'
        · rw [← hxe]; exact hst2 _ hst'
    · rintro s S gv W S' W1' hgw ⟨t, U, tk, wt, F, h, hn⟩ hst hnum her' hg hst' hS' hT
      obtain ⟨g1, g2⟩ := gwU _ _ _ _ _ _ _ _ _ h
      have hUlt : ∀ j, U j → j < W.heap.size := fun j hj => (WR.inS _ _ _ h.wr j hj).2
      obtain ⟨F, rfl⟩ : ∃ F', F = F' + 1 := ⟨F - 1, by have := hn.fl; omega⟩
      have hxe := hn.eq
      rw [cpy_idle (by omega) (by rw [her']; omega) hg] at hxe
      have hcn := hn.cn; have hrm := hn.rm; have htb := hn.tb; have hsz := hT.size
      refine BODY none 0 0 [] 33 W1' S' U t tk wt ((h.turns FW hT g1 g2).rd hS' (by omega) hUlt) (Sl.nil _ _) (by omega) (fun b' o e => by cases e) (by omega) (fun j hj => (RD.inS _ _ _ hst' j hj).2) hn.wl (by omega) (by omega) (by omega) _ ?_ ?_
      · intro tk1 t' U' wt' W' hh he
        exact absurd he (by decide)
      · intro tk1 f f' t' U' wt' W' hh hcase hM' hst2
        rw [hndT_nil (by have := hn.wl; omega)] at hh
        simp only [Prod.mk.injEq] at hh
        obtain ⟨rfl, rfl, rfl, rfl⟩ := hh
        have hf' : f' = 33 := by rcases hcase with ⟨h1, h2⟩ | ⟨h1, h2, h3⟩ | ⟨h1, h2, h3, h4⟩; (exact absurd rfl h1); (exact absurd h2 (by decide)); (exact h4)
        subst hf'
        refine .inr ⟨rfl, S', U', tk, wt, ?_, ?_⟩
        · rw [← hxe]; exact hM'
        · rw [← hxe]; exact hst2 _ hst'
  have EE := Lib.hid EATS
  have hJ0 : J s0 S0 0 W1 := by
    subst hJ
    exact ⟨t0, U0, 0, 0, R.mu s0 * 17 + 17, MM.out, ⟨HX.out, by omega, by omega, by omega, HC2.out, HC3.out.1, by have := HC3.out.2; omega⟩⟩
  have hn5 : ¬ S0 (b + 5) := fun h => by have := hlow _ h; omega
  have hn6 : ¬ S0 (b + 6) := fun h => by have := hlow _ h; omega
  rw [show cpyT R V size s0 t0 = X from HX.out]
  clear EATS BODY MM hrc HRC t1 kb d1 d2 k1
  refine (chunks1_in RD TR hmr her (b + 7 + 1) (b + 5) (b + 6) size W1 hs1 hs2 BR1 BS1 J (fun _ => False) Jx (by rw [e2]; exact EE.out) s0 S0 STW.out hJ0 hn5 hn6 HC1.out (by omega)).mono ?_
  rintro e W ⟨hv, (hf | hx)⟩
  · exact hf.elim
  · subst hJx
    obtain ⟨S, U, tk, wt, hM, hst⟩ := hx
    refine ⟨hv, .inr ⟨.ret, hM.rcd, wpIn_ret ?_⟩⟩
    have M := Lib.hid (hM.put FW (rc .exhausted (some .ret)))
    have TP := turns_put (w := W) (g := b + 8) (rc .exhausted (some .ret))
    have hS8 : ∀ o, o ≤ 9 → ¬ S (b + o) := fun o ho e => by rcases hM.sO _ e with h | h <;> omega
    have STP := Lib.hid (RD.frame _ S _ W _ hst TP (fun j hj e => by subst e; exact hS8 8 (by omega) hj) (fun j e => by omega))
    have HS8 := Lib.hid hS8
    clear hM hst TP EE hJ0 hJ
    change (Exit.inBlock 0 (Exit.then _ _)) _ _ (W.putObj (b + 8) (rc .exhausted (some .ret)))
    generalize W.putObj (b + 8) (rc .exhausted (some .ret)) = W2 at *
    show LeavesInM _ _ _ _ _ _ _ _ _
    have hK : W2.heap[b + 7]? = some (.deferred (some [])) := M.out.dfr
    refine ⟨by simp, .inl ⟨_, _, rfl, run_takeDeferred hK, ?_⟩⟩
    have TD := turns_put (w := W2) (g := b + 7) (.deferred none)
    have c6 : (W2.putObj (b + 7) (.deferred none)).cell? ⟨b + 1, 0, none⟩ = some (.int .i64 (X.1 : Nat)) := cell_of (TD.heap M.out.b6 (by omega)) 0 rfl
    have c7 : (W2.putObj (b + 7) (.deferred none)).cell? ⟨b + 1 + 1, 0, none⟩ = some (.int .i64 X.2.1) := cell_of (TD.heap M.out.b7 (by omega)) 0 rfl
    have hlw := M.out.low
    refine ⟨.tuple #[.int .i64 (X.1 : Nat), .int .i64 X.2.1], by simp [results, Try.results14, go_sem, c6, c7], rfl, S, U, ?_, ?_, M.out.dis, ?_, ?_, ?_⟩
    · exact RD.frame _ S _ W2 _ STP.out TD (fun j hj e => by subst e; exact HS8.out 7 (by omega) hj) (fun j e => by omega)
    · exact WR.frame _ U _ W2 _ M.out.wr TD (fun j hj e => by subst e; rcases M.out.uO _ hj with h | h <;> omega) (fun j e => by omega)
    · exact fun j hj => by rcases M.out.sO j hj with h | h; (exact .inl h.1); (exact .inr (by omega))
    · exact fun j hj => by rcases M.out.uO j hj with h | h; (exact .inl h.1); (exact .inr (by omega))
    · exact M.out.tu.trans TD fun j hj e => by omega
end Go.Proofs.Ytjkgncogpefnbaa

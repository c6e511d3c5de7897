/- Readers and writers of any make: what a call tells, what it leaves; what Copy hands on: plain words; in memory. No condition. -/
import Derived.Test.YtpenbaafhbbmhaaPipeNew
namespace Go.Proofs.Ytpenbaafhbbmhaa
open Go.RowKit
set_option maxRecDepth 100000
set_option linter.unusedVariables false

/-- a reader in plain words: the number, the error, what is laid at the buffer's head, what it is then; how much it can give still; how many calls there were -/
structure Rm (σ : Type) where
  num : σ → Nat → Int
  er : σ → Nat → Int
  lay : σ → Nat → List UInt8
  nxt : σ → Nat → σ
  mu : σ → Nat
  cnt : σ → Nat
  numB : ∀ s n, n ≤ 65537 → -9223372036854775808 ≤ num s n ∧ num s n ≤ 9223372036854775807
  layN : ∀ s n, (lay s n).length ≤ n
  layE : ∀ s n, 0 ≤ num s n → num s n ≤ n → ((lay s n).length : Int) = num s n
  muL : ∀ s n, er s n = 0 → 0 < num s n → num s n ≤ n → mu (nxt s n) < mu s
  muE : ∀ s n, er s n = 0 → mu (nxt s n) ≤ mu s
  cntS : ∀ s n, cnt (nxt s n) = cnt s + 1
  vol : σ → Nat → Nat
  volS : ∀ s n, 0 ≤ num s n → num s n ≤ n → vol (nxt s n) n + (num s n).toNat ≤ vol s n
/-- a writer in plain words -/
structure Wm (τ : Type) where
  num : τ → List UInt8 → Int
  er : τ → List UInt8 → Int
  nxt : τ → List UInt8 → τ
  cnt : τ → Nat
  room : τ → Nat
  numB : ∀ t p, p.length ≤ 65537 → -9223372036854775808 ≤ num t p ∧ num t p ≤ 9223372036854775807
  cntS : ∀ t p, cnt (nxt t p) = cnt t + 1
  roomS : ∀ t p, 0 ≤ num t p → num t p ≤ p.length → room (nxt t p) ≤ room t + (num t p).toNat
/-- how many calls running that move nothing -/
def waitN (wt : Nat) (moved : Bool) : Nat := if moved then 0 else wt + 1
section
variable {σ τ : Type} (R : Rm σ) (V : Wm τ)
/-- handing bytes on: how many were taken, the error, the writer then, the waits -/
def hnd : Nat → τ → List UInt8 → Nat → Nat → Nat × Int × τ × Nat
  | 0, t, p, wt, tk => (tk, 0, t, wt)
  | F + 1, t, p, wt, tk =>
    if p = [] then (tk, 0, t, wt)
    else if V.num t p < 0 ∨ (p.length : Int) < V.num t p then (tk, 34, V.nxt t p, wt)
    else if V.er t p ≠ 0 then (tk + (V.num t p).toNat, V.er t p, V.nxt t p, wt)
    else if waitN wt (decide (0 < V.num t p)) = 16 then (tk + (V.num t p).toNat, 33, V.nxt t p, 16)
    else hnd F (V.nxt t p) (p.drop (V.num t p).toNat) (waitN wt (decide (0 < V.num t p))) (tk + (V.num t p).toNat)
def hndT (t : τ) (p : List UInt8) (wt tk : Nat) : Nat × Int × τ × Nat := hnd V (p.length * 17 + 17 - wt) t p wt tk
/-- Copy: how many were taken, the error, the reader and the writer then -/
def cpy (size : Nat) : Nat → σ → τ → Nat → Nat → Nat → Nat × Int × σ × τ
  | 0, s, t, gv, wt, tk => (tk, 0, s, t)
  | F + 1, s, t, gv, wt, tk =>
    if R.num s size < 0 ∨ (size : Int) < R.num s size then (tk, 34, R.nxt s size, t)
    else if 0 < R.num s size ∨ R.er s size ≠ 0 then
      if (hndT V t ((R.lay s size).take (R.num s size).toNat) wt tk).2.1 ≠ 0 then
        ((hndT V t ((R.lay s size).take (R.num s size).toNat) wt tk).1, (hndT V t ((R.lay s size).take (R.num s size).toNat) wt tk).2.1, R.nxt s size, (hndT V t ((R.lay s size).take (R.num s size).toNat) wt tk).2.2.1)
      else if R.er s size = 31 then ((hndT V t ((R.lay s size).take (R.num s size).toNat) wt tk).1, 0, R.nxt s size, (hndT V t ((R.lay s size).take (R.num s size).toNat) wt tk).2.2.1)
      else if R.er s size ≠ 0 then ((hndT V t ((R.lay s size).take (R.num s size).toNat) wt tk).1, R.er s size, R.nxt s size, (hndT V t ((R.lay s size).take (R.num s size).toNat) wt tk).2.2.1)
      else cpy size F (R.nxt s size) (hndT V t ((R.lay s size).take (R.num s size).toNat) wt tk).2.2.1 0 (hndT V t ((R.lay s size).take (R.num s size).toNat) wt tk).2.2.2 (hndT V t ((R.lay s size).take (R.num s size).toNat) wt tk).1
    else if gv + 1 = 16 then (tk, 33, R.nxt s size, t)
    else cpy size F (R.nxt s size) t (gv + 1) wt tk
end
section
variable {σ τ : Type} {R : Rm σ} {V : Wm τ}
theorem waitN_move (wt : Nat) : waitN wt true = 0 := rfl
theorem waitN_idle (wt : Nat) : waitN wt false = wt + 1 := rfl
theorem hnd_nil {F : Nat} {t : τ} {wt tk : Nat} : hnd V (F + 1) t [] wt tk = (tk, 0, t, wt) := by unfold hnd; rw [if_pos rfl]
theorem hnd_bad {F : Nat} {t : τ} {p : List UInt8} {wt tk : Nat} (hp : p ≠ []) (h : V.num t p < 0 ∨ (p.length : Int) < V.num t p) : hnd V (F + 1) t p wt tk = (tk, 34, V.nxt t p, wt) := by unfold hnd; rw [if_neg hp, if_pos h]
theorem hnd_err {F : Nat} {t : τ} {p : List UInt8} {wt tk : Nat} (hp : p ≠ []) (h : ¬ (V.num t p < 0 ∨ (p.length : Int) < V.num t p)) (he : V.er t p ≠ 0) : hnd V (F + 1) t p wt tk = (tk + (V.num t p).toNat, V.er t p, V.nxt t p, wt) := by
  unfold hnd; rw [if_neg hp, if_neg h, if_pos he]
theorem hnd_idle {F : Nat} {t : τ} {p : List UInt8} {wt tk : Nat} (hp : p ≠ []) (h : ¬ (V.num t p < 0 ∨ (p.length : Int) < V.num t p)) (he : V.er t p = 0) (hw : waitN wt (decide (0 < V.num t p)) = 16) : hnd V (F + 1) t p wt tk = (tk + (V.num t p).toNat, 33, V.nxt t p, 16) := by
  unfold hnd; rw [if_neg hp, if_neg h, if_neg (by simpa using he), if_pos hw]
theorem hnd_go {F : Nat} {t : τ} {p : List UInt8} {wt tk : Nat} (hp : p ≠ []) (h : ¬ (V.num t p < 0 ∨ (p.length : Int) < V.num t p)) (he : V.er t p = 0) (hw : waitN wt (decide (0 < V.num t p)) ≠ 16) :
    hnd V (F + 1) t p wt tk = hnd V F (V.nxt t p) (p.drop (V.num t p).toNat) (waitN wt (decide (0 < V.num t p))) (tk + (V.num t p).toNat) := by
  conv => lhs; unfold hnd
  rw [if_neg hp, if_neg h, if_neg (by simpa using he), if_neg hw]
variable {size F gv wt tk : Nat} {s : σ} {t : τ}
theorem cpy_bad (h : R.num s size < 0 ∨ (size : Int) < R.num s size) : cpy R V size (F + 1) s t gv wt tk = (tk, 34, R.nxt s size, t) := by unfold cpy; rw [if_pos h]
theorem cpy_hand {tk' : Nat} {f : Int} {t' : τ} {wt' : Nat} (h : ¬ (R.num s size < 0 ∨ (size : Int) < R.num s size)) (hm : 0 < R.num s size ∨ R.er s size ≠ 0) (hh : hndT V t ((R.lay s size).take (R.num s size).toNat) wt tk = (tk', f, t', wt')) :
    cpy R V size (F + 1) s t gv wt tk = if f ≠ 0 then (tk', f, R.nxt s size, t') else if R.er s size = 31 then (tk', 0, R.nxt s size, t') else if R.er s size ≠ 0 then (tk', R.er s size, R.nxt s size, t') else cpy R V size F (R.nxt s size) t' 0 wt' tk' := by
  conv => lhs; unfold cpy
  rw [if_neg h, if_pos hm, hh]
theorem cpy_idle (h : ¬ (R.num s size < 0 ∨ (size : Int) < R.num s size)) (hm : ¬ (0 < R.num s size ∨ R.er s size ≠ 0)) (hg : gv + 1 = 16) : cpy R V size (F + 1) s t gv wt tk = (tk, 33, R.nxt s size, t) := by unfold cpy; rw [if_neg h, if_neg hm, if_pos hg]
theorem cpy_wait (h : ¬ (R.num s size < 0 ∨ (size : Int) < R.num s size)) (hm : ¬ (0 < R.num s size ∨ R.er s size ≠ 0)) (hg : gv + 1 ≠ 16) : cpy R V size (F + 1) s t gv wt tk = cpy R V size F (R.nxt s size) t (gv + 1) wt tk := by
  conv => lhs; unfold cpy
  rw [if_neg h, if_neg hm, if_neg hg]
end
/-- a reader in memory: St s S w: in state s, its blocks S -/
structure Reader {σ : Type} (R : Rm σ) (fn : FuncId) (v : Value) (lo Bd : Nat) (St : σ → (Nat → Prop) → World → Prop) (bd : Nat) : Prop where
  frame : ∀ s S T w w', St s S w → Turns T w w' → (∀ j, S j → ¬ T j) → (∀ j, T j → bd ≤ j) → St s S w'
  inS : ∀ s S w, St s S w → ∀ j, S j → lo ≤ j ∧ j < w.heap.size
  read : ∀ s S w g n c (zs : List UInt8), St s S w → R.cnt s < Bd → n ≤ zs.length → n ≤ c → n ≤ 65537 → w.heap[g]? = some (.cells (zs.map Bf).toArray 5 (0, 0)) → ¬ S g → bd ≤ g →
    Calls Try.prog fn #[v, .slice (some ⟨g, 0, none⟩) n c] w fun e w' => e = .returned (.tuple #[.int .i64 (R.num s n), .int .i64 (R.er s n)]) ∧ ∃ S', St (R.nxt s n) S' w' ∧ (∀ j, S' j → S j ∨ w.heap.size ≤ j) ∧
      Turns (fun j => S j ∨ j = g) w w' ∧ w'.heap[g]? = some (.cells ((R.lay s n ++ zs.drop (R.lay s n).length).map Bf).toArray 5 (0, 0))
/-- a writer in memory -/
structure Writer {τ : Type} (V : Wm τ) (fn : FuncId) (v : Value) (lo Bd Rm : Nat) (St : τ → (Nat → Prop) → World → Prop) (bd : Nat) : Prop where
  frame : ∀ s S T w w', St s S w → Turns T w w' → (∀ j, S j → ¬ T j) → (∀ j, T j → bd ≤ j) → St s S w'
  inS : ∀ s S w, St s S w → ∀ j, S j → lo ≤ j ∧ j < w.heap.size
  write : ∀ t S w ap n c (xs : List UInt8), St t S w → V.cnt t < Bd → V.room t + n ≤ Rm → n ≤ 65537 → Sl Bf w ap n c xs → (∀ b o, ap = some ⟨b, o, none⟩ → 0 < n → ¬ S b) →
    Calls Try.prog fn #[v, .slice ap n c] w fun e w' => e = .returned (.tuple #[.int .i64 (V.num t xs), .int .i64 (V.er t xs)]) ∧ ∃ S', St (V.nxt t xs) S' w' ∧ (∀ j, S' j → S j ∨ w.heap.size ≤ j) ∧ Turns S w w'
/-- the program's source -/
def srcM : Rm Src where
  num s n := (s.gives n).length
  er s n := s.err n
  lay s n := s.gives n
  nxt s n := s.next n
  mu s := s.left.length
  cnt s := s.calls
  numB s n hn := by have := s.gives_le n; exact ⟨by omega, by show ((s.gives n).length : Int) ≤ _; omega⟩
  layN s n := s.gives_le n
  layE s n _ _ := rfl
  muL s n he h _ := by
    have := congrArg List.length (s.parts n)
    rw [List.length_append] at this
    show (s.rest n).length < s.left.length
    have h : (0 : Int) < ((s.gives n).length : Nat) := h
    omega
  muE s n _ := by
    have := congrArg List.length (s.parts n)
    rw [List.length_append] at this
    show (s.rest n).length ≤ s.left.length
    omega
  cntS _ _ := rfl
  vol s _ := s.left.length
  volS s n _ _ := by
    have := congrArg List.length (s.parts n)
    rw [List.length_append] at this
    show (s.rest n).length + ((s.gives n).length : Int).toNat ≤ s.left.length
    rw [Int.toNat_natCast]
    omega
/-- the program's sink -/
def snkM : Wm Snk where
  num t p := t.takes p.length
  er t _ := t.err
  nxt t p := t.next p
  cnt t := t.calls
  room t := t.took.length
  numB t p hp := by have := t.takes_le p.length; exact ⟨by omega, by show ((t.takes p.length : Nat) : Int) ≤ _; omega⟩
  cntS _ _ := rfl
  roomS t p _ _ := by
    show (t.took ++ p.take (t.takes p.length)).length ≤ t.took.length + ((t.takes p.length : Nat) : Int).toNat
    rw [List.length_append, List.length_take, Int.toNat_natCast]
    omega
theorem srcR (g lo : Nat) : Reader srcM 75 (.pointer (some ⟨g, 0, none⟩)) lo 4611686018427387904 (SrcP g lo) 0 where
  frame _ _ _ _ _ h ht hd _ := h.turns ht hd
  inS _ _ _ h := h.inS
  read s S w gp n c zs h hc hn hnc hn2 hp hg _ := (sread_any g lo s S gp n c zs w h (by have : s.calls < 4611686018427387904 := hc; omega) hn hnc (by omega) hp hg).mono fun e w' ⟨h1, h2, h3, h4⟩ =>
    ⟨h1, S, h2, fun j hj => .inl hj, h3.mono fun j _ hj => by rcases hj with rfl | rfl; (exact .inl h.own); (exact .inr rfl), h4⟩
theorem snkW (g lo : Nat) : Writer snkM 78 (.pointer (some ⟨g, 0, none⟩)) lo 4611686018427387904 140737488355328 (SnkP g lo) 0 where
  frame _ _ _ _ _ h ht hd _ := h.turns ht hd
  inS _ _ _ h := h.inS
  write t S w ap n c xs h hc hr hn hp hg := (swrite_any g lo t S ap n c xs w h (by have : t.calls < 4611686018427387904 := hc; omega) hr hp hg).mono fun e w' ⟨h1, S', h2, h3, h4⟩ => ⟨h1, S', h2, h3, h4⟩
/-- how a chain of takings adds up -/
theorem hnd_shift {τ : Type} {V : Wm τ} : ∀ (F : Nat) (t : τ) (p : List UInt8) (wt tk a : Nat), hnd V F t p wt (tk + a) = ((hnd V F t p wt tk).1 + a, (hnd V F t p wt tk).2)
  | 0, t, p, wt, tk, a => rfl
  | F + 1, t, p, wt, tk, a => by
    by_cases hp : p = []
    · subst hp; rw [hnd_nil, hnd_nil]
    · by_cases hb : V.num t p < 0 ∨ (p.length : Int) < V.num t p
      · rw [hnd_bad hp hb, hnd_bad hp hb]
      · by_cases he : V.er t p = 0
        · by_cases hw : waitN wt (decide (0 < V.num t p)) = 16
          · rw [hnd_idle hp hb he hw, hnd_idle hp hb he hw]; simp only [Prod.mk.injEq, and_true]; omega
          · rw [hnd_go hp hb he hw, hnd_go hp hb he hw, show tk + a + (V.num t p).toNat = tk + (V.num t p).toNat + a by omega]
            exact hnd_shift F _ _ _ _ _
        · rw [hnd_err hp hb he, hnd_err hp hb he]; simp only [Prod.mk.injEq, and_true]; omega
end Go.Proofs.Ytpenbaafhbbmhaa

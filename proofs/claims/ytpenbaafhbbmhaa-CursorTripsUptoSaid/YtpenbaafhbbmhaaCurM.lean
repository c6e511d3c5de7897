/- An In and an Out, over readers and writers of any make: plain words. No condition. -/
import Derived.Test.YtpenbaafhbbmhaaPipeGen
import Derived.Test.YtpenbaafhbbmhaaCurTk
namespace Go.Proofs.Ytpenbaafhbbmhaa
set_option linter.unusedVariables false

/-- an In: its reader, how many bytes were moved, the error, the idle calls, the byte held -/
structure CIn (σ : Type) where
  s : σ
  pl : Nat
  er : Int
  idle : Nat
  held : List UInt8
/-- how many are asked for in one call -/
def askN (n k : Nat) : Nat := min (n - k) 4096
section
variable {σ : Type} (R : Rm σ)
/-- the bytes behind a call -/
def tkB (s : σ) (b : List UInt8) (n : Nat) : List UInt8 := b ++ (R.lay s (askN n b.length)).take (R.num s (askN n b.length)).toNat
/-- the idle calls behind a call -/
def tkI (s : σ) (i m : Nat) : Nat := waitN i (decide (0 < R.num s m) || decide (R.er s m ≠ 0))
/-- n bytes are taken: what came, the error, the reader, the idle calls -/
def tk : Nat → σ → Nat → List UInt8 → Nat → List UInt8 × Int × σ × Nat
  | 0, s, i, b, n => (b, 0, s, i)
  | F + 1, s, i, b, n =>
    if n ≤ b.length then (b, 0, s, i)
    else if R.num s (askN n b.length) < 0 ∨ (askN n b.length : Int) < R.num s (askN n b.length) then ([], 34, R.nxt s (askN n b.length), i)
    else if (tkB R s b n).length = n then (tkB R s b n, 0, R.nxt s (askN n b.length), tkI R s i (askN n b.length))
    else if R.er s (askN n b.length) = 31 then ([], 41, R.nxt s (askN n b.length), tkI R s i (askN n b.length))
    else if R.er s (askN n b.length) ≠ 0 then ([], R.er s (askN n b.length), R.nxt s (askN n b.length), tkI R s i (askN n b.length))
    else if tkI R s i (askN n b.length) = 16 then ([], 33, R.nxt s (askN n b.length), 16)
    else tk F (R.nxt s (askN n b.length)) (tkI R s i (askN n b.length)) (tkB R s b n) n
section
variable {R} {F n i m : Nat} {s : σ} {b : List UInt8}
theorem tk_has (h : n ≤ b.length) : tk R F s i b n = (b, 0, s, i) := by
  cases F with
  | zero => rfl
  | succ F => unfold tk; rw [if_pos h]
theorem tk_bad (h : ¬ n ≤ b.length) (hm : askN n b.length = m) (hb : R.num s m < 0 ∨ (m : Int) < R.num s m) : tk R (F + 1) s i b n = ([], 34, R.nxt s m, i) := by
  subst hm; unfold tk; rw [if_neg h, if_pos hb]
theorem tk_full (h : ¬ n ≤ b.length) (hm : askN n b.length = m) (hb : ¬ (R.num s m < 0 ∨ (m : Int) < R.num s m)) (hl : (tkB R s b n).length = n) : tk R (F + 1) s i b n = (tkB R s b n, 0, R.nxt s m, tkI R s i m) := by
  subst hm; unfold tk; rw [if_neg h, if_neg hb, if_pos hl]
theorem tk_end (h : ¬ n ≤ b.length) (hm : askN n b.length = m) (hb : ¬ (R.num s m < 0 ∨ (m : Int) < R.num s m)) (hl : (tkB R s b n).length ≠ n) (he : R.er s m = 31) : tk R (F + 1) s i b n = ([], 41, R.nxt s m, tkI R s i m) := by
  subst hm; unfold tk; rw [if_neg h, if_neg hb, if_neg hl, if_pos he]
theorem tk_err (h : ¬ n ≤ b.length) (hm : askN n b.length = m) (hb : ¬ (R.num s m < 0 ∨ (m : Int) < R.num s m)) (hl : (tkB R s b n).length ≠ n) (he : R.er s m ≠ 31) (h0 : R.er s m ≠ 0) : tk R (F + 1) s i b n = ([], R.er s m, R.nxt s m, tkI R s i m) := by
  subst hm; unfold tk; rw [if_neg h, if_neg hb, if_neg hl, if_neg he, if_pos h0]
theorem tk_idle (h : ¬ n ≤ b.length) (hm : askN n b.length = m) (hb : ¬ (R.num s m < 0 ∨ (m : Int) < R.num s m)) (hl : (tkB R s b n).length ≠ n) (h0 : R.er s m = 0) (hi : tkI R s i m = 16) : tk R (F + 1) s i b n = ([], 33, R.nxt s m, 16) := by
  subst hm; unfold tk; rw [if_neg h, if_neg hb, if_neg hl, if_neg (by rw [h0]; decide), if_neg (by simpa using h0), if_pos hi]
theorem tk_go (h : ¬ n ≤ b.length) (hm : askN n b.length = m) (hb : ¬ (R.num s m < 0 ∨ (m : Int) < R.num s m)) (hl : (tkB R s b n).length ≠ n) (h0 : R.er s m = 0) (hi : tkI R s i m ≠ 16) : tk R (F + 1) s i b n = tk R F (R.nxt s m) (tkI R s i m) (tkB R s b n) n := by
  subst hm
  conv => lhs; unfold tk
  rw [if_neg h, if_neg hb, if_neg hl, if_neg (by rw [h0]; decide), if_neg (by simpa using h0), if_neg hi]
theorem tkB_len (hm : askN n b.length = m) (hb : ¬ (R.num s m < 0 ∨ (m : Int) < R.num s m)) : (tkB R s b n).length = b.length + (R.num s m).toNat := by
  subst hm
  unfold tkB
  rw [List.length_append, List.length_take]
  have := R.layE s (askN n b.length) (by omega) (by omega)
  omega
theorem tkI_le (hi : i ≤ 15) : tkI R s i m ≤ 16 := by
  unfold tkI waitN; split <;> omega
end
/-- n bytes are asked for -/
def bytesM (most n : Int) (c : CIn σ) : List UInt8 × Int × CIn σ :=
  if c.er ≠ 0 then ([], c.er, c)
  else if n < 0 then ([], 1, c)
  else if most - c.pl < n then ([], 42, { c with er := 42 })
  else if n = 0 then ([], 0, c)
  else if (tk R (R.mu c.s * 17 + 17) c.s c.idle c.held n.toNat).2.1 = 0 then
    ((tk R (R.mu c.s * 17 + 17) c.s c.idle c.held n.toNat).1, 0, ⟨(tk R (R.mu c.s * 17 + 17) c.s c.idle c.held n.toNat).2.2.1, c.pl + n.toNat, 0, (tk R (R.mu c.s * 17 + 17) c.s c.idle c.held n.toNat).2.2.2, []⟩)
  else ([], (tk R (R.mu c.s * 17 + 17) c.s c.idle c.held n.toNat).2.1, ⟨(tk R (R.mu c.s * 17 + 17) c.s c.idle c.held n.toNat).2.2.1, c.pl, (tk R (R.mu c.s * 17 + 17) c.s c.idle c.held n.toNat).2.1, (tk R (R.mu c.s * 17 + 17) c.s c.idle c.held n.toNat).2.2.2, []⟩)
def byteM (most : Int) (c : CIn σ) : UInt8 × Int × CIn σ := ((bytesM R most 1 c).1.headD 0, (bytesM R most 1 c).2.1, (bytesM R most 1 c).2.2)
/-- a number: the taker stands at (n, s), having taken bs; at0: where it began -/
def numG (most : Int) (at0 : Nat) : Nat → CIn σ → Nat → Nat → List UInt8 → Nat × Int × CIn σ
  | 0, c, n, s, bs => (0, 0, c)
  | F + 1, c, n, s, bs =>
    if (byteM R most c).2.1 ≠ 0 then (0, (byteM R most c).2.1, { (byteM R most c).2.2 with pl := at0 })
    else if (tq s n bs (byteM R most c).1).2.1 ≠ 0 then (0, (tq s n bs (byteM R most c).1).2.1, { (byteM R most c).2.2 with pl := at0, er := (tq s n bs (byteM R most c).1).2.1 })
    else if (tq s n bs (byteM R most c).1).1 then ((tq s n bs (byteM R most c).1).2.2.1, 0, (byteM R most c).2.2)
    else numG most at0 F (byteM R most c).2.2 (tq s n bs (byteM R most c).1).2.2.1 (tq s n bs (byteM R most c).1).2.2.2.1 (tq s n bs (byteM R most c).1).2.2.2.2
def numM (most : Int) (c : CIn σ) : Nat × Int × CIn σ := numG R most c.pl 11 c 0 0 []
def endM (c : CIn σ) : Bool × Int × CIn σ :=
  if c.er ≠ 0 then (false, c.er, c)
  else if c.held ≠ [] then (false, 0, c)
  else if (tk R (R.mu c.s * 17 + 17) c.s c.idle [] 1).2.1 = 0 then (false, 0, ⟨(tk R (R.mu c.s * 17 + 17) c.s c.idle [] 1).2.2.1, c.pl, 0, (tk R (R.mu c.s * 17 + 17) c.s c.idle [] 1).2.2.2, (tk R (R.mu c.s * 17 + 17) c.s c.idle [] 1).1⟩)
  else if (tk R (R.mu c.s * 17 + 17) c.s c.idle [] 1).2.1 = 41 then (true, 0, ⟨(tk R (R.mu c.s * 17 + 17) c.s c.idle [] 1).2.2.1, c.pl, 0, (tk R (R.mu c.s * 17 + 17) c.s c.idle [] 1).2.2.2, []⟩)
  else (false, (tk R (R.mu c.s * 17 + 17) c.s c.idle [] 1).2.1, ⟨(tk R (R.mu c.s * 17 + 17) c.s c.idle [] 1).2.2.1, c.pl, (tk R (R.mu c.s * 17 + 17) c.s c.idle [] 1).2.1, (tk R (R.mu c.s * 17 + 17) c.s c.idle [] 1).2.2.2, []⟩)
end
/-- an Out: its writer, the bytes that wait, how many bytes were moved, the error, the idle calls -/
structure COut (τ : Type) where
  t : τ
  q : List UInt8
  pl : Nat
  er : Int
  idle : Nat
section
variable {τ : Type} (V : Wm τ)
def layM (p : List UInt8) (c : COut τ) : COut τ := if c.er = 0 then { c with q := c.q ++ p } else c
def pushM (c : COut τ) : Nat × Int × COut τ :=
  if c.er ≠ 0 then (0, c.er, c)
  else if c.q = [] then (0, 0, c)
  else if V.num c.t (c.q.take 4096) < 0 ∨ ((c.q.take 4096).length : Int) < V.num c.t (c.q.take 4096) then (0, 34, { c with t := V.nxt c.t (c.q.take 4096), er := 34 })
  else if V.er c.t (c.q.take 4096) ≠ 0 then ((V.num c.t (c.q.take 4096)).toNat, V.er c.t (c.q.take 4096), ⟨V.nxt c.t (c.q.take 4096), c.q.drop (V.num c.t (c.q.take 4096)).toNat, c.pl + (V.num c.t (c.q.take 4096)).toNat, V.er c.t (c.q.take 4096), c.idle⟩)
  else if waitN c.idle (decide (0 < V.num c.t (c.q.take 4096))) = 16 then ((V.num c.t (c.q.take 4096)).toNat, 33, ⟨V.nxt c.t (c.q.take 4096), c.q.drop (V.num c.t (c.q.take 4096)).toNat, c.pl + (V.num c.t (c.q.take 4096)).toNat, 33, 16⟩)
  else ((V.num c.t (c.q.take 4096)).toNat, 0, ⟨V.nxt c.t (c.q.take 4096), c.q.drop (V.num c.t (c.q.take 4096)).toNat, c.pl + (V.num c.t (c.q.take 4096)).toNat, 0, waitN c.idle (decide (0 < V.num c.t (c.q.take 4096)))⟩)
def flushG : Nat → COut τ → COut τ
  | 0, c => c
  | F + 1, c => if c.q = [] ∨ c.er ≠ 0 then c else flushG F (pushM V c).2.2
def flushM (c : COut τ) : COut τ := flushG V (c.q.length * 17 + 17) c
end
end Go.Proofs.Ytpenbaafhbbmhaa

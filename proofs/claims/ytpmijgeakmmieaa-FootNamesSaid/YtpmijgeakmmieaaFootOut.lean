/- The rows that Read hands out, in memory of their own. No condition. -/
import Derived.Test.YtpmijgeakmmieaaFootReadM
import Derived.Test.YtpmijgeakmmieaaFootRV
import Derived.Test.YtpmijgeakmmieaaRowZ
import Derived.Test.YtpmijgeakmmieaaByte
namespace Go.Proofs.Ytpmijgeakmmieaa
open Go.RowKit

abbrev zR : RV := ((none, 0, 0), 0, 0, 0)
theorem zR_ok : ∃ i z, Try.prog.info? 49 = some i ∧ i.zero = some z ∧ z.cells.toList = fR zR := by
  have hi : (Try.prog.info? 49).map (fun i => (i.zero, i.size, i.bytes)) = some (some (.agg #[.slice none 0 0, .int .i64 0, .int .i64 0, .int .i64 0]), 4, 48) := by kernel_rfl
  obtain ⟨i, hi1, hi2, hi3, hi4⟩ := info_parts hi
  exact ⟨i, _, hi1, hi2, rfl⟩
abbrev OwR (w : World) (base : Nat) (v : Value) (vs : List RV) : Prop := OwZ fR zR w base 49 v vs
abbrev kV (x : RV) : Value := .slice x.1.1 x.1.2.1 x.1.2.2
/-- each row's key in a row of bytes of its own between lo and hi, apart from the list's own block -/
def KTx (w : World) (lo hi : Nat) (v : Value) (vs : List RV) (rs : List Row) : Prop :=
  vs.length = rs.length ∧ ∀ (i : Nat) (x : RV) (r : Row), vs[i]? = some x → rs[i]? = some r → x.2 = r.2 ∧ OwT fB w lo 5 (kV x) r.1 ∧ (∀ j, (kV x).ownBlock = some j → lo ≤ j ∧ j < hi) ∧ ∀ j, v.ownBlock = some j → Off (kV x) j
theorem KTx.nil (w : World) (lo hi : Nat) (v : Value) : KTx w lo hi v [] [] := ⟨rfl, fun i x r h _ => by simp at h⟩
theorem KTx.same {w w' : World} {lo hi : Nat} {v : Value} {vs : List RV} {rs : List Row} (h : KTx w lo hi v vs rs) (hs : ∀ j, lo ≤ j → j < hi → w'.heap[j]? = w.heap[j]?) : KTx w' lo hi v vs rs :=
  ⟨h.1, fun i x r hx hr => by
    obtain ⟨e, ho, hb, hf⟩ := h.2 i x r hx hr
    exact ⟨e, ho.of_block fun j hj => hs j (hb j hj).1 (hb j hj).2, hb, hf⟩⟩
theorem KTx.widen {w : World} {lo hi lo' hi' : Nat} {v : Value} {vs : List RV} {rs : List Row} (h : KTx w lo hi v vs rs) (hl : lo' ≤ lo) (hh : hi ≤ hi') : KTx w lo' hi' v vs rs :=
  ⟨h.1, fun i x r hx hr => by
    obtain ⟨e, ho, hb, hf⟩ := h.2 i x r hx hr
    exact ⟨e, ho.base hl, fun j hj => ⟨Nat.le_trans hl (hb j hj).1, Nat.lt_of_lt_of_le (hb j hj).2 hh⟩, hf⟩⟩
theorem KTx.step {wr w2 w3 : World} {lo : Nat} {v v' : Value} {vs : List RV} {rs : List Row} {x : RV} {r : Row} (h : KTx wr lo wr.heap.size v vs rs) (hlo : lo ≤ wr.heap.size) (hsz : wr.heap.size ≤ w2.heap.size)
    (hw : ∀ j, lo ≤ j → j < wr.heap.size → w2.heap[j]? = wr.heap[j]?) (hx : x.2 = r.2) (hk : OwT fB w2 wr.heap.size 5 (kV x) r.1) (hv : ∀ j, v.ownBlock = some j → j < wr.heap.size) (hg : w2.grownBy w3 v.ownBlock) (hv' : v'.ownBlock = v.ownBlock ∨ v'.ownBlock = some w2.heap.size) :
    KTx w3 lo w3.heap.size v' (vs ++ [x]) (rs ++ [r]) := by
  have hs3 := hg.size
  refine ⟨by rw [List.length_append, List.length_append, h.1]; rfl, fun i y r' hy hr' => ?_⟩
  by_cases hi : i < vs.length
  · rw [List.getElem?_append_left hi] at hy
    rw [List.getElem?_append_left (by rw [← h.1]; exact hi)] at hr'
    obtain ⟨e, ho, hb, hf⟩ := h.2 i y r' hy hr'
    refine ⟨e, ho.of_block fun j hj => ?_, fun j hj => ⟨(hb j hj).1, by have := (hb j hj).2; omega⟩, fun j hj => ?_⟩
    · exact (hg.block j (by have := (hb j hj).2; omega) (fun e => hf j e.symm j hj rfl)).trans (hw j (hb j hj).1 (hb j hj).2)
    · rcases hv' with e2 | e2
      · exact hf j (e2.symm.trans hj)
      · rw [e2] at hj; injection hj with hj
        intro j' hj' e3
        have := (hb j' hj').2; omega
  · have hi2 : i < (vs ++ [x]).length := (List.getElem?_eq_some_iff.1 hy).1
    rw [List.length_append] at hi2
    obtain rfl : i = vs.length := by simp at hi2; omega
    obtain rfl : x = y := by simpa using hy
    obtain rfl : r = r' := by rw [h.1] at hr'; simpa using hr'
    have off : ∀ j, v.ownBlock = some j → Off (kV x) j := fun j hj j' hj' e => by have := hv j hj; have := (hk.lt j' hj').1; omega
    refine ⟨hx, (hk.base hlo).of_block fun j hj => hg.block j (hk.lt j hj).2 (fun e => off j e.symm j hj rfl), fun j hj => ⟨by have := (hk.lt j hj).1; omega, by have := (hk.lt j hj).2; omega⟩, fun j hj => ?_⟩
    rcases hv' with e2 | e2
    · exact off j (e2.symm.trans hj)
    · rw [e2] at hj; injection hj with hj
      intro j' hj' e3
      have := (hk.lt j' hj').2; omega
theorem KTx.spans {w : World} {lo hi n c : Nat} {a : Option Addr} {vs : List RV} {rs : List Row} (hO : OwR w lo (.slice a n c) vs) (h : KTx w lo hi (.slice a n c) vs rs) : Spans w a n c rs := by
  obtain ⟨a', c', hv, hs⟩ := hO.t.sl fR_len
  injection hv with e1 e2 e3
  subst e1 e2 e3
  refine ⟨h.1.symm, hs.2.1, hs.2.2.1, fun i k x y z hr => ?_⟩
  have hin : i < vs.length := by have := (List.getElem?_eq_some_iff.1 hr).1; rw [h.1]; exact this
  have hx : vs[i]? = some vs[i] := List.getElem?_eq_getElem hin
  obtain ⟨b, o, ha, hc⟩ := hs.2.2.2 i _ hx
  obtain ⟨e, ho, _, _⟩ := h.2 i _ _ hx hr
  have e1 : vs[i].2.1 = x := congrArg (·.1) e
  have e2 : vs[i].2.2.1 = y := congrArg (·.2.1) e
  have e3 : vs[i].2.2.2 = z := congrArg (·.2.2) e
  refine ⟨b, o, _, _, _, ha, hc 0 _ rfl, ?_, ?_, ?_, ho.slI⟩
  · rw [← e1]; exact hc 1 _ rfl
  · rw [← e2]; exact hc 2 _ rfl
  · rw [← e3]; exact hc 3 _ rfl
/-- what Read hands out -/
def ROut (w w' : World) (ret : Ending) (rs : List Row) (q : Nat) (e : Int) : Prop :=
  ∃ a n c vs, ret = .returned (.tuple #[.slice a n c, .int .i64 e, .int .i64 (q : Nat)]) ∧ OwR w' w.heap.size (.slice a n c) vs ∧ KTx w' w.heap.size w'.heap.size (.slice a n c) vs rs ∧ Below w.heap.size w w'
theorem ROut.fail {w w' : World} {q : Nat} {e : Int} (hb : Below w.heap.size w w') : ROut w w' (.returned (.tuple #[.slice none 0 0, .int .i64 e, .int .i64 (q : Nat)])) [] q e :=
  ⟨none, 0, 0, [], rfl, OwZ.nil _ _ _ _ _, KTx.nil _ _ _ _, hb⟩
theorem endR_bound : ∀ (rs : List Row), (∀ r, r ∈ rs → (0 ≤ r.2.1 ∧ r.2.1 ≤ 1099511627784) ∧ (0 ≤ r.2.2.1 ∧ r.2.2.1 ≤ 131072)) → 0 ≤ endR rs ∧ endR rs ≤ 2199023255552 := by
  intro rs h
  rcases List.eq_nil_or_concat rs with rfl | ⟨r, x, rfl⟩
  · rw [endR_nil]; omega
  · rw [List.concat_eq_append, endR_snoc]
    have := h x (by simp)
    omega
end Go.Proofs.Ytpmijgeakmmieaa

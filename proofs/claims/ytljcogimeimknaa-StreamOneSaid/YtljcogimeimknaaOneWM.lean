/- Entries written one by one, cut behind some: plain words. No condition. -/
import Derived.Test.YtljcogimeimknaaK8y
namespace Go.Proofs.Ytljcogimeimknaa
open Go.RowKit
set_option linter.unusedVariables false

/-- an entry is added; behind it one cuts, and takes what is ready, or not -/
def w1 (x : WS × List UInt8) (p : Ent × Bool) : WS × List UInt8 :=
  if p.2 then ((x.1.add 64 p.1).2.cut.next, x.2 ++ (x.1.add 64 p.1).2.cut.ready) else ((x.1.add 64 p.1).2, x.2)
/-- none is refused -/
def AllIn : WS × List UInt8 → List (Ent × Bool) → Prop
  | _, [] => True
  | x, p :: t => (x.1.add 64 p.1).1 = 0 ∧ AllIn (w1 x p) t
theorem AllIn.app : ∀ {l m : List (Ent × Bool)} {x : WS × List UInt8}, AllIn x l → AllIn (l.foldl w1 x) m → AllIn x (l ++ m)
  | [], m, x, _, h => h
  | p :: t, m, x, h, k => ⟨h.1, AllIn.app (l := t) h.2 k⟩
/-- how a writer stands, and what was taken of it -/
structure Wst (x : WS × List UInt8) : Prop where
  ok : x.1.Ok 64
  sh : x.1.shut = false
  tl : x.2.length = x.1.told
theorem add_told (m : Nat) (s : WS) (e : Ent) : (s.add m e).2.told = s.told := by
  unfold WS.add
  split
  · rfl
  split
  · rfl
  split
  · rfl
  split
  · rfl
  · dsimp only
    split
    · unfold WS.cut; split <;> rfl
    · rfl
theorem cut_told (s : WS) : s.cut.told = s.told := by unfold WS.cut; split <;> rfl
theorem Wst.zero : Wst (WS0, []) := ⟨WS.Ok.zero (by decide), rfl, rfl⟩
theorem ready_len {s : WS} {m : Nat} {b : List UInt8} (h : s.Ok m) (hb : b.length = s.told) : (b ++ s.ready).length = s.whole.length := by
  unfold WS.ready
  have := h.told
  rw [List.length_append, List.length_drop]; omega
theorem Wst.step {x : WS × List UInt8} (h : Wst x) (p : Ent × Bool) : Wst (w1 x p) := by
  have h1 := h.ok.add p.1
  have h2 := add_shut (m := 64) p.1 h.sh
  have h3 := add_told 64 x.1 p.1
  unfold w1
  split
  · refine ⟨h1.cut.next, ?_, ?_⟩
    · show (x.1.add 64 p.1).2.cut.shut = false
      rw [WS.cut_shut]; exact h2
    · exact ready_len h1.cut (by rw [cut_told, h3]; exact h.tl)
  · exact ⟨h1, h2, by show x.2.length = _; rw [h3]; exact h.tl⟩
theorem Wst.size {x : WS × List UInt8} (h : Wst x) : x.2.length ≤ 200000000000 := by
  have := h.ok.told; have := WS.whole_le h.ok; have := h.tl; omega
theorem ready_size {s : WS} {m : Nat} {b : List UInt8} (h : s.Ok m) (hb : b.length = s.told) : b.length + s.ready.length ≤ 200000000000 := by
  have := ready_len h hb; rw [List.length_append] at this
  have := WS.whole_le h; omega
end Go.Proofs.Ytljcogimeimknaa

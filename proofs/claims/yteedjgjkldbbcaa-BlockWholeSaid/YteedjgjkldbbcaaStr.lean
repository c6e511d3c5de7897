/- Bytes as a string. No condition. -/
import Derived.Test.YteedjgjkldbbcaaNum
import Derived.Test.YteedjgjkldbbcaaRow
import Derived.Laws.BytesArg
import Derived.Lib.Strings
namespace Go.Proofs.Yteedjgjkldbbcaa
open Go.RowKit

def strB (xs : List UInt8) : ByteArray := ⟨xs.toArray⟩
theorem strB_inj {xs ys : List UInt8} (h : strB xs = strB ys) : xs = ys := by
  have := congrArg (fun s : ByteArray => s.data.toList) h
  simpa [strB] using this
theorem strB_list (xs : List UInt8) : (strB xs).toList = xs := by rw [Lib.toList_data]; simp [strB]
theorem run_str {P : Program} {src e dst : TypeId} (hs : P.underlying src = some (.slice e)) (he : P.underlying e = some (.int .u8)) (hd : P.underlying dst = some .string)
    (w : World) (a : Option Addr) (n c : Nat) (xs : List UInt8) (h : Sl Bf w a n c xs) : (convert src dst (.slice a n c)).run P w = .ok (.string (strB xs)) w := by
  cases xs with
  | nil =>
    have hn : n = 0 := h.len.symm
    subst hn
    cases a with
    | none => exact run_convert_bytes_nil w src e hs he 0 c dst hd
    | some q =>
      rw [run_convert_bytes_string w src dst e _ 0 c hs he hd, run_bytesToString w _ 0 c [] (by simp [loadCells, loadCellsFrom])]
      rfl
  | cons x r =>
    obtain ⟨_, b, o, _, rfl, _⟩ := h.at 0 (by have := h.len; simp at this; omega)
    have := run_convert_bytes_arg (P := P) w src e hs he b o n c ((x :: r).map B) (by rw [List.length_map]; exact h.len) (fun i hi => by
      obtain ⟨y, b', o', hy, e, hc⟩ := h.at i hi
      cases e
      rw [hc, List.getD, List.getElem?_map, hy]; rfl) dst hd
    rw [this]
    congr 2
    unfold strOfNums strB
    congr 2
    rw [List.map_map]
    conv => rhs; rw [← List.map_id (x :: r)]
    apply List.map_congr_left
    intro y _
    simp [B]
end Go.Proofs.Yteedjgjkldbbcaa

/- Join: contract. Conditions: the numbers fit; their bytes within reach. -/
import Derived.Test.YteedjgjkldbbcaaVintPut
namespace Go.Proofs.Yteedjgjkldbbcaa
open Go.RowKit

/-- the bytes of some numbers -/
def vbs (l : List Nat) : List UInt8 := l.flatMap vb
theorem vbs_snoc (l : List Nat) (n : Nat) : vbs (l ++ [n]) = vbs l ++ vb n := by unfold vbs; simp
abbrev Nf (n : Nat) : Value := .int .u64 (n : Int)
theorem vbs_take {l : List Nat} {k n : Nat} (h : l[k]? = some n) : vbs (l.take (k + 1)) = vbs (l.take k) ++ vb n := by
  rw [List.take_add_one, h]; exact vbs_snoc _ _
theorem vbs_le (l : List Nat) (k : Nat) : (vbs (l.take k)).length ≤ (vbs l).length := by
  conv => rhs; rw [← List.take_append_drop k l]
  unfold vbs
  rw [List.flatMap_append, List.length_append]; omega

set_option maxRecDepth 100000 in
set_option maxHeartbeats 1000000 in
theorem join_any (a : Option Addr) (n c : Nat) (l : List Nat) (w : World) (hn : n ≤ 140737488351232) (hl : ∀ m, m ∈ l → m < 18446744073709551616) (hb : (vbs l).length ≤ 200000000000000) (h : Sl Nf w a n c l) :
    Calls Try.prog 69 #[.slice a n c] w fun e w' => ∃ v, e = .returned v ∧ OwT fB w' w.heap.size 5 v (vbs l) ∧ Below w.heap.size w w' := by
  obtain rfl : n = l.length := h.len.symm
  have H := Lib.hid h; clear h
  have HL := Lib.hid hl; clear hl
  go_enter Try.func69, Try.ntmps69
  go_wp2_with fail
  go_loopw [3, 8] (fun s i wr => ∃ k : Nat, k ≤ l.length ∧ i = .int .i64 k ∧ OwT fB wr w.heap.size 5 s (vbs (l.take k)) ∧ Below w.heap.size w wr) (fun _ i _ => l.length - (intOf i).toNat)
  case atStart => exact ⟨0, Nat.zero_le _, rfl, OwT.nil _ _ _ _, Below.refl _ _⟩
  case round =>
    obtain ⟨k, hk, rfl, ho, hbb⟩ := hrel
    have O := Lib.hid ho; clear ho
    have G := Lib.hid hbb; clear hbb
    by_cases hlt : k < l.length
    · obtain ⟨x, b, o, hx, rfl, hc⟩ := (H.out.keep G.out).at k hlt
      have hc : wr.cell? ⟨b, o + k, none⟩ = some (.int .u64 x) := hc
      have HX := Lib.hid hx; clear hx
      have hkl := vbs_le l k
      go_wp2_with fail
      refine (vput_any _ (vbs (l.take k)) w.heap.size x _ G.out.size (by omega) (HL.out x (List.mem_of_getElem? HX.out)) O.out).mono ?_
      rintro e w2 ⟨v', rfl, hv, hb2⟩
      have O2 := Lib.hid hv; clear hv
      have G2 := Lib.hid (G.out.trans hb2); clear hb2
      go_wp2_with fail
      go_roundw
      case rel => exact ⟨k + 1, by omega, by go_num, by rw [vbs_take HX.out]; exact O2.out, G2.out⟩
      case measure => simp [intOf]; omega
    · have HT := Lib.hid (show l.take k = l from List.take_of_length_le (by omega))
      go_wp2_with fail
      go_ret
      exact ⟨_, rfl, by have := O.out; rw [HT.out] at this; exact this, G.out⟩
end Go.Proofs.Yteedjgjkldbbcaa

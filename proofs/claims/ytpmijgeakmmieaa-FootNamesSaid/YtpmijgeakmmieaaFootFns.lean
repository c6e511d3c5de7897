/- Rows of a foot: above, end, the rules, Total, Key: contracts. Conditions: the slices read as rows. -/
import Derived.Test.YtpmijgeakmmieaaFootM
import Derived.Test.YtpmijgeakmmieaaBCmp
import Derived.Test.YtpmijgeakmmieaaRCmp
import Derived.Test.YtpmijgeakmmieaaStab
import Derived.IntWalk
namespace Go.Proofs.Ytpmijgeakmmieaa
set_option linter.unusedVariables false
open Go.RowKit

theorem Stab.spans {w : World} {a : Option Addr} {n c : Nat} {rs : List Row} (h : Spans w a n c rs) : Stab w (fun W => Spans W a n c rs) := fun _ h' => h.keep h'
/-- may a key be: the error's number -/
def fkN (n : Nat) : Nat := if n = 0 ∨ 64 < n then 3 else 0
theorem fkN_bad {n : Nat} (h : n = 0 ∨ 64 < n) : fkN n = 3 := by unfold fkN; rw [if_pos h]
theorem fkN_ok {n : Nat} (h : ¬ (n = 0 ∨ 64 < n)) : fkN n = 0 := by unfold fkN; rw [if_neg h]
theorem fkeyn_any (a : Option Addr) (n c : Nat) (w : World) (hn : n ≤ 140737488351232) :
    Calls Try.prog 29 #[.slice a n c] w fun e w' => e = .returned (.int .i64 (fkN n : Nat)) ∧ w' = w := by
  by_cases h : n = 0 ∨ 64 < n
  · have HK := Lib.hid (fkN_bad h)
    by_cases h0 : n = 0
    · subst h0
      go_enter Try.func29, Try.ntmps29
      go_wp2_with fail
      go_ret
      exact ⟨ret_int (by rw [HK.out]; rfl), rfl⟩
    · have f1 : ((n : Int) == 0) = false := by rw [beq_eq_false_iff_ne]; omega
      have f2 : (n == 0) = false := by rw [beq_eq_false_iff_ne]; omega
      have f3 : (n : Int) > 64 := by omega
      clear h h0
      go_enter Try.func29, Try.ntmps29
      go_wp2_with fail
      go_ret
      exact ⟨ret_int (by rw [HK.out]; rfl), rfl⟩
  · have HK := Lib.hid (fkN_ok h)
    have f1 : ((n : Int) == 0) = false := by rw [beq_eq_false_iff_ne]; omega
    have f2 : (n == 0) = false := by rw [beq_eq_false_iff_ne]; omega
    have f3 : ¬ (n : Int) > 64 := by omega
    clear h
    go_enter Try.func29, Try.ntmps29
    go_wp2_with fail
    go_ret
    exact ⟨ret_int (by rw [HK.out]; rfl), rfl⟩
theorem frkeyn_any (a : Option Addr) (n c : Nat) (w : World) (hn : n ≤ 140737488351232) :
    Calls Try.prog 32 #[.slice a n c] w fun e w' => e = .returned (.int .i64 (fkN n : Nat)) ∧ w' = w := by
  by_cases h : n = 0 ∨ 64 < n
  · have HK := Lib.hid (fkN_bad h)
    by_cases h0 : (n : Int) < 1
    · go_enter Try.func32, Try.ntmps32
      go_wp2_with fail
      go_ret
      exact ⟨ret_int (by rw [HK.out]; rfl), rfl⟩
    · have f3 : (n : Int) > 64 := by omega
      clear h
      go_enter Try.func32, Try.ntmps32
      go_wp2_with fail
      go_ret
      exact ⟨ret_int (by rw [HK.out]; rfl), rfl⟩
  · have HK := Lib.hid (fkN_ok h)
    have f1 : ¬ (n : Int) < 1 := by omega
    have f3 : ¬ (n : Int) > 64 := by omega
    clear h
    go_enter Try.func32, Try.ntmps32
    go_wp2_with fail
    go_ret
    exact ⟨ret_int (by rw [HK.out]; rfl), rfl⟩

theorem above0_any (a : Option Addr) (c : Nat) (ak : Option Addr) (nk ck : Nat) (w : World) :
    Calls Try.prog 30 #[.slice a 0 c, .slice ak nk ck] w fun e w' => e = .returned (.bool true) ∧ w = w' := by
  go_enter Try.func30, Try.ntmps30
  go_wp2_with fail
  go_ret
  exact ⟨rfl, rfl⟩
theorem above_any (a : Option Addr) (j c : Nat) (rs : List Row) (l : List UInt8) (x y z : Int) (ak : Option Addr) (nk ck : Nat) (k : List UInt8) (w : World) (hn : j + 1 ≤ 140737488351232) (h : Spans w a (j + 1) c rs) (hl : rs[j]? = some (l, x, y, z)) (hk : Sl Bf w ak nk ck k) :
    Calls Try.prog 30 #[.slice a (j + 1) c, .slice ak nk ck] w fun e w' => e = .returned (.bool (decide (cmp l k < 0))) ∧ w = w' := by
  obtain ⟨b, o, al, nl, cl, rfl, c0, _, _, _, s0⟩ := h.2.2.2 j l x y z hl
  obtain ⟨q, hq⟩ : ∃ q, cmp l k = q := ⟨_, rfl⟩
  have hc := bcompare_any _ _ _ l _ _ _ k w s0 hk
  rw [hq] at hc ⊢
  have HC := Lib.hid hc
  have e1 : IntKind.i64.wrap ((j : Int) + 1 - 1) = (j : Int) := by rw [show (j : Int) + 1 - 1 = (j : Int) by omega]; exact IntWalk.i64_in _ (by omega)
  have t1 : ((j : Int) + 1 == 0) = false := by rw [beq_eq_false_iff_ne]; omega
  have t2 : ((((j + 1 : Nat) : Int)) == 0) = false := by rw [beq_eq_false_iff_ne]; omega
  clear h hl s0 hk hc hq
  go_enter Try.func30, Try.ntmps30
  go_wp2_with fail
  refine HC.out.mono ?_
  rintro e w' ⟨rfl, rfl⟩
  go_wp2_with fail
  go_ret
  exact ⟨rfl, rfl⟩
theorem end0_any (a : Option Addr) (c : Nat) (w : World) :
    Calls Try.prog 31 #[.slice a 0 c] w fun e w' => e = .returned (.int .i64 8) ∧ Below w.heap.size w w' := by
  go_enter Try.func31, Try.ntmps31
  go_wp2_with fail
  go_ret
  exact ⟨rfl, Below.refl _ _⟩
theorem end_any (a : Option Addr) (j c : Nat) (rs : List Row) (l : List UInt8) (x y z p : Int) (w : World) (hn : j + 1 ≤ 140737488351232) (h : Spans w a (j + 1) c rs) (hl : rs[j]? = some (l, x, y, z)) (hp : x + y = p) (hp2 : -9223372036854775808 ≤ p ∧ p ≤ 9223372036854775807) :
    Calls Try.prog 31 #[.slice a (j + 1) c] w fun e w' => e = .returned (.int .i64 p) ∧ Below w.heap.size w w' := by
  obtain ⟨b, o, al, nl, cl, rfl, c0, c1, c2, c3, s0⟩ := h.2.2.2 j l x y z hl
  have e1 : IntKind.i64.wrap ((j : Int) + 1 - 1) = (j : Int) := by rw [show (j : Int) + 1 - 1 = (j : Int) by omega]; exact IntWalk.i64_in _ (by omega)
  have t1 : ((j : Int) + 1 == 0) = false := by rw [beq_eq_false_iff_ne]; omega
  have t2 : ((((j + 1 : Nat) : Int)) == 0) = false := by rw [beq_eq_false_iff_ne]; omega
  have e2 : IntKind.i64.wrap (x + y) = p := by rw [hp]; exact IntWalk.i64_in _ (by omega)
  clear h hl s0 hp
  go_enter Try.func31, Try.ntmps31
  go_wp2_with fail
  go_ret
  exact ⟨rfl, (Below.refl _ _).alloc (Nat.le_refl _) _⟩
theorem run_store_fn (P : Program) (w : World) (p : Addr) (m : Mode) (f : Fn) (x y : Array Value) : (store p (.func f x y) m).run P w = stored P w p (.func f x y) m := run_store P w p _ m rfl
attribute [local go_sem] run_store_fn
theorem rules_any (w : World) :
    Calls Try.prog 28 #[] w fun e w' => e = .returned (.agg #[.func (.func 44) #[] #[], .func (.func 45) #[] #[], .int .i64 73, .func (.func 46) #[] #[], .func (.func 47) #[] #[], .int .i64 74, .func (.func 48) #[] #[], .func (.func 49) #[] #[], .int .i64 75]) ∧ Below w.heap.size w w' := by
  go_enter Try.func28, Try.ntmps28
  go_wp2_with fail
  exact bodyPost_ret (v := .agg #[.func (.func 44) #[] #[], .func (.func 45) #[] #[], .int .i64 73, .func (.func 46) #[] #[], .func (.func 47) #[] #[], .int .i64 74, .func (.func 48) #[] #[], .func (.func 49) #[] #[], .int .i64 75]) (by simp [results, Try.results28, go_sem]) rfl ⟨rfl, (Below.refl _ _).alloc (Nat.le_refl _) _⟩
theorem of1_any (b : Nat) (w : World) : Calls Try.prog 44 #[.pointer (some ⟨b, 0, none⟩)] w fun e w' => e = .returned (.pointer (some ⟨b, 1, none⟩)) ∧ w = w' := by
  go_enter Try.func44, Try.ntmps44
  go_wp2_with fail
  go_ret
  exact ⟨rfl, rfl⟩
theorem of3_any (b : Nat) (w : World) : Calls Try.prog 46 #[.pointer (some ⟨b, 0, none⟩)] w fun e w' => e = .returned (.pointer (some ⟨b, 2, none⟩)) ∧ w = w' := by
  go_enter Try.func46, Try.ntmps46
  go_wp2_with fail
  go_ret
  exact ⟨rfl, rfl⟩
theorem of5_any (b : Nat) (w : World) : Calls Try.prog 48 #[.pointer (some ⟨b, 0, none⟩)] w fun e w' => e = .returned (.pointer (some ⟨b, 3, none⟩)) ∧ w = w' := by
  go_enter Try.func48, Try.ntmps48
  go_wp2_with fail
  go_ret
  exact ⟨rfl, rfl⟩
theorem may2_any (n p : Int) (w : World) (hp : 0 ≤ p ∧ p ≤ 9223372036854775807) : Calls Try.prog 45 #[.int .u64 n, .int .i64 p] w fun e w' => e = .returned (.bool (n == p)) ∧ w = w' := by
  have e1 : IntKind.u64.wrap p = p := by rw [IntKind.wrap_u64]; omega
  go_enter Try.func45, Try.ntmps45
  go_wp2_with fail
  go_ret
  exact ⟨rfl, rfl⟩
theorem may4_any (n p : Int) (w : World) (h0 : 0 ≤ n) : Calls Try.prog 47 #[.int .u64 n, .int .i64 p] w fun e w' => e = .returned (.bool (decide (1 ≤ n ∧ n ≤ 131072))) ∧ w = w' := by
  by_cases h1 : n ≥ 1
  · by_cases h2 : n ≤ 131072
    · go_enter Try.func47, Try.ntmps47
      go_wp2_with fail
      go_ret
      exact ⟨ret_bool (decide_eq_true ⟨h1, h2⟩).symm, rfl⟩
    · have h3 : decide (n ≤ 131072) = false := decide_eq_false h2
      go_enter Try.func47, Try.ntmps47
      go_wp2_with fail
      go_ret
      exact ⟨rfl, rfl⟩
  · have h3 : decide (1 ≤ n) = false := decide_eq_false h1
    go_enter Try.func47, Try.ntmps47
    go_wp2_with fail
    go_ret
    exact ⟨rfl, rfl⟩
theorem may6_any (n p : Int) (w : World) (h0 : 0 ≤ n) : Calls Try.prog 49 #[.int .u64 n, .int .i64 p] w fun e w' => e = .returned (.bool (decide (1 ≤ n ∧ n ≤ 64))) ∧ w = w' := by
  by_cases h1 : n ≥ 1
  · by_cases h2 : n ≤ 64
    · go_enter Try.func49, Try.ntmps49
      go_wp2_with fail
      go_ret
      exact ⟨ret_bool (decide_eq_true ⟨h1, h2⟩).symm, rfl⟩
    · have h3 : decide (n ≤ 64) = false := decide_eq_false h2
      go_enter Try.func49, Try.ntmps49
      go_wp2_with fail
      go_ret
      exact ⟨rfl, rfl⟩
  · have h3 : decide (1 ≤ n) = false := decide_eq_false h1
    go_enter Try.func49, Try.ntmps49
    go_wp2_with fail
    go_ret
    exact ⟨rfl, rfl⟩
theorem total_any (a : Option Addr) (n c : Nat) (rs : List Row) (w : World) (hn : n ≤ 140737488351232) (h : Spans w a n c rs) :
    Calls Try.prog 17 #[.slice a n c] w fun e w' => e = .returned (.int .i64 (tot rs)) ∧ Below w.heap.size w w' := by
  obtain rfl : n = rs.length := h.1.symm
  have H := Lib.hid h; clear h
  go_enter Try.func17, Try.ntmps17
  go_wp2_with fail
  go_loopw [3, 8] (fun t i wr => ∃ k : Nat, k ≤ rs.length ∧ i = .int .i64 k ∧ t = .int .i64 (tot (rs.take k)) ∧ Below w.heap.size w wr) (fun _ i _ => rs.length - (intOf i).toNat)
  case atStart => exact ⟨0, Nat.zero_le _, rfl, rfl, Below.refl _ _⟩
  case round =>
    obtain ⟨k, hk, rfl, rfl, hb⟩ := hrel
    have B := Lib.hid hb; clear hb
    by_cases hlt : k < rs.length
    · obtain ⟨⟨kk, x, y, z⟩, hx⟩ : ∃ e, rs[k]? = some e := ⟨_, List.getElem?_eq_getElem hlt⟩
      obtain ⟨b, o, ak, nk, ck, rfl, c0, c1, c2, c3, _⟩ := (H.out.keep B.out).2.2.2 k kk x y z hx
      have hs := tot_snoc (rs.take k) (kk, x, y, z)
      rw [← rtake_snoc hx] at hs
      have HS := Lib.hid hs
      have lw := B.out.size
      clear hs hx
      go_wp2_with fail
      go_roundw
      case rel => exact ⟨k + 1, by omega, by go_num, val_int HS.out.symm, B.out.alloc lw _⟩
      case measure => simp [intOf]; omega
    · have e : rs.take k = rs := List.take_of_length_le (by omega)
      have E := Lib.hid e; clear e
      go_wp2_with fail
      go_ret
      exact ⟨ret_int (by rw [E.out]), B.out⟩
theorem rtotal_any (a : Option Addr) (n c : Nat) (rs : List Row) (w : World) (hn : n ≤ 140737488351232) (h : Spans w a n c rs) :
    Calls Try.prog 22 #[.slice a n c] w fun e w' => e = .returned (.int .i64 (tot rs)) ∧ Below w.heap.size w w' := by
  obtain rfl : n = rs.length := h.1.symm
  have H := Lib.hid h; clear h
  go_enter Try.func22, Try.ntmps22
  go_wp2_with fail
  go_loopw [3, 4] (fun t i wr => ∃ k : Nat, k ≤ rs.length ∧ i = .int .i64 k ∧ t = .int .i64 (tot (rs.take k)) ∧ Below w.heap.size w wr) (fun _ i _ => rs.length - (intOf i).toNat)
  case atStart => exact ⟨0, Nat.zero_le _, rfl, rfl, Below.refl _ _⟩
  case round =>
    obtain ⟨k, hk, rfl, rfl, hb⟩ := hrel
    have B := Lib.hid hb; clear hb
    by_cases hlt : k < rs.length
    · obtain ⟨⟨kk, x, y, z⟩, hx⟩ : ∃ e, rs[k]? = some e := ⟨_, List.getElem?_eq_getElem hlt⟩
      obtain ⟨b, o, ak, nk, ck, rfl, c0, c1, c2, c3, _⟩ := (H.out.keep B.out).2.2.2 k kk x y z hx
      have hs := tot_snoc (rs.take k) (kk, x, y, z)
      rw [← rtake_snoc hx] at hs
      have HS := Lib.hid hs
      have lw := B.out.size
      clear hs hx
      go_wp2_with fail
      go_roundw
      case rel => exact ⟨k + 1, by omega, by go_num, val_int HS.out.symm, B.out⟩
      case measure => simp [intOf]; omega
    · have e : rs.take k = rs := List.take_of_length_le (by omega)
      have E := Lib.hid e; clear e
      go_wp2_with fail
      go_ret
      exact ⟨ret_int (by rw [E.out]), B.out⟩
end Go.Proofs.Ytpmijgeakmmieaa

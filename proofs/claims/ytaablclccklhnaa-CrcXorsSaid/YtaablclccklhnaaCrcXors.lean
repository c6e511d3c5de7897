/- CrcXors: the walk: the law's Go text returns true and writes nothing that was there. Conditions: each slice within 2^47 bytes. -/
import Derived.Test.YtaablclccklhnaaCrcSums
import Derived.Deep.RegionHeld3
namespace Go.Proofs.Ytaablclccklhnaa
open Go.RowKit

set_option maxHeartbeats 1000000 in
theorem crcXors_walk (a : Option Addr) (n c : Nat) (xs : List UInt8) (a' : Option Addr) (n' c' : Nat) (ys : List UInt8) (a'' : Option Addr) (n'' c'' : Nat) (zs : List UInt8) (w : World)
    (hn : n ≤ 140737488351232) (hn' : n' ≤ 140737488351232) (hn'' : n'' ≤ 140737488351232) (h : Sl Bf w a n c xs) (h' : Sl Bf w a' n' c' ys) (h'' : Sl Bf w a'' n'' c'' zs) :
    Calls Try.prog 3 #[.slice a n c, .slice a' n' c', .slice a'' n'' c''] w fun e w' => e = .returned (.bool true) ∧ Below w.heap.size w w' := by
  have H := Lib.hid h; clear h
  have H' := Lib.hid h'; clear h'
  have H'' := Lib.hid h''; clear h''
  obtain ⟨m, hm⟩ : ∃ m : Nat, m = min (min n n') n'' := ⟨_, rfl⟩
  have hm1 : m ≤ n := by omega
  have hm2 : m ≤ n' := by omega
  have hm3 : m ≤ n'' := by omega
  have hmin : ∀ (W : World) (ts : Array TypeId) (t : TypeId), (Builtin.min_ ts t #[.int .i64 n, .int .i64 n', .int .i64 n'']).run Try.prog W = .ok (.int .i64 m) W := by
    intro W ts t
    simp [Builtin.min_, Builtin.min2]
    split <;> split <;> omega
  have HM := Lib.hid hm; clear hm
  go_enter Try.func3, Try.ntmps3
  go_wp2_with fail
  refine (lives_any _).mono ?_
  rintro e w1 ⟨rfl, hb1⟩
  have G1 := Lib.hid hb1; clear hb1
  go_wp2_with fail
  have r1 := B_xor
  clear hmin
  go_loopw [9, 10] (fun v i wr => ∃ k : Nat, k ≤ m ∧ i = .int .i64 k ∧ wr.ownsRow w1.heap.size 5 1 v k (((xor3 xs ys zs).take k).map Bf) ∧ Below w1.heap.size w1 wr) (fun _ i _ => m - (intOf i).toNat)
  case atStart => exact ⟨0, Nat.zero_le _, rfl, World.ownsRow_nil _ _ _ _, Below.refl _ _⟩
  case round =>
    obtain ⟨k, hk, rfl, ho, hb⟩ := hrel
    have HO := Lib.hid ho; clear ho
    have HB := Lib.hid hb; clear hb
    by_cases hlt : k < m
    · obtain ⟨x, b, o, hx, rfl, hc⟩ := ((H.out.keep G1.out).keep HB.out).at k (by omega)
      obtain ⟨y, b', o', hy, rfl, hc'⟩ := ((H'.out.keep G1.out).keep HB.out).at k (by omega)
      obtain ⟨z, b'', o'', hz, rfl, hc''⟩ := ((H''.out.keep G1.out).keep HB.out).at k (by omega)
      have hc : wr.cell? ⟨b, o + k, none⟩ = some (.int .u8 (B x)) := hc
      have hc' : wr.cell? ⟨b', o' + k, none⟩ = some (.int .u8 (B y)) := hc'
      have hc'' : wr.cell? ⟨b'', o'' + k, none⟩ = some (.int .u8 (B z)) := hc''
      have HX := Lib.hid (xor3_get xs ys zs k x y z hx hy hz); clear hx hy hz
      have e0 : (0 : Int) ≤ (k : Int) := by omega
      have e1 : (k : Int) < (n : Int) := by omega
      have e2 : (k : Int) < (n' : Int) := by omega
      have e3 : (k : Int) < (n'' : Int) := by omega
      have lb := (H.out.keep G1.out).blt (by omega)
      have lb' := (H'.out.keep G1.out).blt (by omega)
      have lb'' := (H''.out.keep G1.out).blt (by omega)
      go_wp2_with fail
      go_region_held3 (fun w' => w'.cell? ⟨b, o + k, none⟩ = some (.int .u8 (B x)) ∧ w'.cell? ⟨b', o' + k, none⟩ = some (.int .u8 (B y)) ∧ w'.cell? ⟨b'', o'' + k, none⟩ = some (.int .u8 (B z)))
        (first | go_keep | (go_split_ands; exact ⟨(hb5.cell lb).trans (by assumption), (hb5.cell lb').trans (by assumption), (hb5.cell lb'').trans (by assumption)⟩))
        ((refine step_app eltB (by rfl) (.tmp 28) (.tmp 43) rfl w1.heap.size _ k _ (by rfl) (World.ownsRow.drew (World.ownsRow.alloc HO.out _)) _ 1 1 [Bf (x ^^^ y ^^^ z)] (by rfl) (Sl.drew (Sl.lit _ _ _ _ _ rfl rfl)) (by simp [Value.oneCell']) (by unfold maxLen; omega) (by omega) (by have := HB.out.size; simp; omega) (k + 1) rfl _ rfl ?_; intro v5 w5 hown5 hg5 hv5 hb5))
      go_wp2_with fail
      go_roundw
      case rel => exact ⟨k + 1, by omega, by go_num, by rw [take_snoc HX.out]; simpa using hown5, ((HB.out.alloc (by have := HB.out.size; omega) _).drew).trans hb5⟩
      case measure => simp [intOf]; omega
    · obtain rfl : k = m := by omega
      have hc1 := fun (W : World) => run_cutto eltB W a n c .i64 k (by have := H.out.le; omega)
      have hc2 := fun (W : World) => run_cutto eltB W a' n' c' .i64 k (by have := H'.out.le; omega)
      have hc3 := fun (W : World) => run_cutto eltB W a'' n'' c'' .i64 k (by have := H''.out.le; omega)
      have K1 := Lib.hid (((H.out.keep G1.out).keep HB.out).upto k hm1)
      have K2 := Lib.hid (((H'.out.keep G1.out).keep HB.out).upto k hm2)
      have K3 := Lib.hid (((H''.out.keep G1.out).keep HB.out).upto k hm3)
      obtain ⟨a5, c5, rfl, hs5⟩ := Sl.of_own _ HO.out
      have K5 := Lib.hid hs5; clear hs5
      go_wp2_with fail
      refine (sum_any _ _ _ _ _ (by omega) K1.out).mono ?_
      rintro e w' ⟨rfl, rfl⟩
      go_wp2_with fail
      refine (sum_any _ _ _ _ _ (by omega) K2.out).mono ?_
      rintro e w' ⟨rfl, rfl⟩
      go_wp2_with fail
      refine (sum_any _ _ _ _ _ (by omega) K3.out).mono ?_
      rintro e w' ⟨rfl, rfl⟩
      go_wp2_with fail
      refine (sum_any _ _ _ _ _ (by omega) K5.out).mono ?_
      rintro e w' ⟨rfl, rfl⟩
      have r2 := U_xor
      go_wp2_with fail
      go_ret
      refine ⟨ret_bool ?_, G1.out.trans (HB.out.mono G1.out.size)⟩
      rw [← xor3_take, sum_xor3 _ _ _ (by have := H.out.len; have := H'.out.len; simp; omega) (by have := H''.out.len; have := H'.out.len; simp; omega)]
      simp
end Go.Proofs.Ytaablclccklhnaa

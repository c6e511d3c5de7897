/- Where the search begins: contract. Conditions: numbers within reach. -/
import Derived.Test.YtljcogimeimknaaGreatBlockPred
import Derived.Test.YtljcogimeimknaaGreatSortSearch
import Derived.Test.YtljcogimeimknaaGreatOnlyRet
namespace Go.Proofs.YtljcogimeimknaaGreat
open Go.RowKit
set_option linter.unusedVariables false
set_option linter.unusedSimpArgs false

/-- a function's value is stored as every other value of one cell is -/
theorem run_store_fn' (P : Program) (w : World) (p : Addr) (m : Mode) (f : Fn) (x y : Array Value) : (store p (.func f x y) m).run P w = stored P w p (.func f x y) m := run_store P w p _ m rfl
attribute [local go_sem] run_store_fn'
set_option maxRecDepth 100000 in
set_option maxHeartbeats 4000000 in
theorem restart_any (ab : Option Addr) (nb cb : Nat) (b : List UInt8) (ak : Option Addr) (nk ck : Nat) (key : List UInt8) (n : Nat) (w : World) (hn : 1 ≤ n ∧ n ≤ 64) (hnb : nb ≤ 140737488351232) (hB : Sl Bf w ab nb cb b) (hK : Sl Bf w ak nk ck key) :
    Calls Tryz.prog 95 #[.slice ab nb cb, .int .i64 (n : Nat), .slice ak nk ck] w fun e w' => (∃ i at' : Nat, RSf b key n i at' ∧ 8 * i < n ∧ at' ≤ 65535 ∧ e = .returned (.tuple #[.int .i64 (i : Nat), .int .i64 (at' : Nat)])) ∧ Below w.heap.size w w' := by
  have hmf : ∀ (fn : Fn) (first cap : Array Value) (w : World), (Instr.makeFunc fn first cap).run Tryz.prog w = .ok (.func fn first cap) w := fun _ _ _ _ => rfl
  obtain rfl : b.length = nb := hB.len
  obtain ⟨m, hm⟩ : ∃ m, (n + 7) / 8 = m := ⟨_, rfl⟩
  have HM := Lib.hid hm
  have hm8 : 1 ≤ m ∧ m ≤ 8 := by omega
  have r1 : IntKind.i64.wrap ((n : Int) + 8) = (n : Int) + 8 := IntWalk.i64_in _ (by omega)
  have r2 : IntKind.i64.wrap ((n : Int) + 8 - 1) = (n : Int) + 8 - 1 := IntWalk.i64_in _ (by omega)
  have r3 : ((n : Int) + 8 - 1).tdiv 8 = (m : Nat) := by rw [Int.tdiv_eq_ediv_of_nonneg (by omega)]; omega
  have r4 : IntKind.i64.wrap ((m : Nat) : Int) = (m : Nat) := IntWalk.i64_in _ (by omega)
  have r5 : IntKind.i64.wrap (2 * (m : Int)) = 2 * (m : Int) := IntWalk.i64_in _ (by omega)
  obtain ⟨x, hx⟩ : ∃ x, (b.length : Int) - 2 * (m : Int) = x := ⟨_, rfl⟩
  have r6 : IntKind.i64.wrap ((b.length : Int) - 2 * (m : Int)) = x := by rw [← hx]; exact IntWalk.i64_in _ (by omega)
  obtain ⟨d, hd⟩ : ∃ d, b.length - 2 * m = d := ⟨_, rfl⟩
  have hX : (if x > 0 then x else 0) = (d : Nat) := by split <;> omega
  have hX' : (if 0 < x then x else 0) = (d : Nat) := by split <;> omega
  have hX2 : max 0 x = ((d : Nat) : Int) := by omega
  obtain ⟨N, hN⟩ : ∃ N, b.length - d = N := ⟨_, rfl⟩
  have T0 := Lib.hid (hN ▸ hB.from d (by omega))
  have hcut : ∀ W : World, (Instr.slice 22 (.slice ab b.length cb) (some (.int .i64 (d : Nat))) none none).run Tryz.prog W = .ok (.slice (adv ab cb d) N (cb - d)) W := fun W => by
    rw [run_cutfrom eltB W ab b.length cb .i64 d (by omega), hN]
  obtain ⟨aT, haT⟩ : ∃ a, adv ab cb d = a := ⟨_, rfl⟩
  obtain ⟨cT, hcT⟩ : ∃ c, cb - d = c := ⟨_, rfl⟩
  rw [haT, hcT] at T0 hcut
  have HND := Lib.hid (And.intro hN hd)
  have H0 := Lib.hid hB
  have HK0 := Lib.hid hK
  clear hB hK hm hx haT hcT
  by_cases hs : b.length < 2 * m
  · have t1 : decide ((N : Int) < 2 * (m : Int)) = true := decide_eq_true (by omega)
    have t1' : decide (N < 2 * m) = true := decide_eq_true (by omega)
    clear hN hd
    go_enter Tryz.func95, Tryz.ntmps95
    go_wp2_with fail
    refine bodyPost_ret (v := .tuple #[.int .i64 0, .int .i64 0]) (by simp [results, Tryz.results95, go_sem]) rfl ?_
    refine ⟨⟨0, 0, ?_, by omega, by omega, rfl⟩, ?_⟩
    · unfold RSf
      rw [HM.out]
      exact ⟨fun _ => ⟨rfl, rfl⟩, fun h => absurd hs h⟩
    · exact (allocs_get w [_, _, _, _]).2.1
  · have t1 : decide ((N : Int) < 2 * (m : Int)) = false := decide_eq_false (by omega)
    have t1' : decide (N < 2 * m) = false := decide_eq_false (by omega)
    have HN2 := Lib.hid (show N = 2 * m by omega)
    clear hN hd
    go_enter Tryz.func95, Tryz.ntmps95
    go_wp2_with fail
    have hA := allocs_get w [.cells #[.slice ab b.length cb] 22, .cells #[.slice ak nk ck] 22, .cells #[.slice aT N cT] 22, .cells #[.func (.func 133) #[] #[.pointer (some ⟨w.heap.size + 1 + 1, 0, none⟩)]] 199]
    obtain ⟨W4, hW4⟩ : ∃ V, (((w.alloc (.cells #[.slice ab b.length cb] 22)).alloc (.cells #[.slice ak nk ck] 22)).alloc (.cells #[.slice aT N cT] 22)).alloc (.cells #[.func (.func 133) #[] #[.pointer (some ⟨w.heap.size + 1 + 1, 0, none⟩)]] 199) = V := ⟨_, rfl⟩
    rw [show List.foldl World.alloc w [_, _, _, _] = W4 from hW4] at hA
    rw [hW4]
    obtain ⟨z4, b4, h4⟩ := hA
    clear hW4
    have F3 := Lib.hid (show W4.heap[w.heap.size]? = some (.cells #[.slice ab b.length cb] 22 (0, 0)) from h4 0 _ rfl)
    have F5 := Lib.hid (show W4.heap[w.heap.size + 1]? = some (.cells #[.slice ak nk ck] 22 (0, 0)) from h4 1 _ rfl)
    have F9 := Lib.hid (show W4.heap[w.heap.size + 1 + 1]? = some (.cells #[.slice aT N cT] 22 (0, 0)) from h4 2 _ rfl)
    have F10 := Lib.hid (show W4.heap[w.heap.size + 1 + 1 + 1]? = some (.cells #[.func (.func 133) #[] #[.pointer (some ⟨w.heap.size + 1 + 1, 0, none⟩)]] 199 (0, 0)) from h4 3 _ rfl)
    have B4 := Lib.hid b4
    have hdm : d = b.length - 2 * m := by have := HND.out; omega
    have PR := Lib.hid (fun (i : Nat) (W : World) (hi : i < m) (hW : Below W4.heap.size W4 W) => pred_any w.heap.size (w.heap.size + 1 + 1 + 1) (w.heap.size + 1) (w.heap.size + 1 + 1) ab b.length cb b aT N cT (b.drop d) ak nk ck key m i W hnb (H0.out.keep (keep_trans B4.out hW)) (T0.out.keep (keep_trans B4.out hW)) (HK0.out.keep (keep_trans B4.out hW)) (by rw [hdm]) (by omega) hi (blk_keep' F3.out hW) (blk_keep' F9.out hW) (blk_keep' F5.out hW) (blk_keep' F10.out hW))
    have HDM := Lib.hid hdm
    clear h4 b4 hX hX' hX2 r6 hcut hdm
    refine (bsearch_any _ _ _ m (fpr b key m) W4 (by omega) PR.out).mono ?_
    rintro e w5 ⟨⟨r, hr, hlo, hhi, rfl⟩, hb5⟩
    obtain ⟨y, hy⟩ : ∃ y, (r : Int) - 1 = y := ⟨_, rfl⟩
    obtain ⟨i, hi⟩ : ∃ i, r - 1 = i := ⟨_, rfl⟩
    have r7 : IntKind.i64.wrap ((r : Int) - 1) = y := by rw [← hy]; exact IntWalk.i64_in _ (by omega)
    have hY : (if y > 0 then y else 0) = (i : Nat) := by split <;> omega
    have hY' : (if 0 < y then y else 0) = (i : Nat) := by split <;> omega
    have hY2 : max 0 y = ((i : Nat) : Int) := by omega
    have hRS : RSf b key n i (plc b m i) := by
      unfold RSf
      rw [HM.out]
      exact ⟨fun h => absurd h hs, fun _ => ⟨r, hr, hlo, hhi, hi.symm, rfl⟩⟩
    have HRS := Lib.hid hRS
    have him : i < m := by omega
    have c10 := cell_of (blk_keep' F10.out hb5) 0 rfl
    have hPL := place_any (w.heap.size + 1 + 1) aT N cT (b.drop d) i w5 (by have := HN2.out; omega) (T0.out.keep (keep_trans B4.out hb5)) (blk_keep' F9.out hb5) (by rw [List.length_drop]; have := HND.out; omega)
    have hpe : (((b.drop d).getD (2 * i) 0).toNat + 256 * ((b.drop d).getD (2 * i + 1) 0).toNat : Nat) = plc b m i := by
      unfold plc
      rw [HDM.out]
      simp only [List.getD_eq_getElem?_getD, List.getElem?_drop]
      rfl
    rw [hpe] at hPL
    have PL := Lib.hid hPL
    have hle := plc_le b m i
    have B5 := Lib.hid (keep_trans B4.out hb5)
    generalize plc b m i = pz at *
    clear hPL hpe hb5 hlo hhi hRS PR hy hi
    go_wp2_with fail
    refine PL.out.mono ?_
    rintro e w6 ⟨rfl, hb6⟩
    have B6 := Lib.hid (keep_trans B5.out hb6)
    clear hb6 c10
    go_wp2_with fail
    refine bodyPost_ret (v := .tuple #[.int .i64 (i : Nat), .int .i64 (pz : Nat)]) (by simp [results, Tryz.results95, go_sem]) rfl ?_
    exact ⟨⟨i, pz, HRS.out, by have := HM.out; omega, hle, rfl⟩, B6.out⟩
end Go.Proofs.YtljcogimeimknaaGreat

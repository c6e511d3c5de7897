/- Common and lives: walks. Conditions: the slices within reach. Written by a program of this place (gen_PairWalk.py). -/
import Derived.Test.YtajmojldckpchaaPairCmp
import Derived.Test.YtajmojldckpchaaBy
import Derived.Lib.SlBytesConst
import Derived.Deep.DeepCutAuto
namespace Go.Proofs.Ytajmojldckpchaa
open Go.RowKit

set_option maxHeartbeats 400000 in
theorem common_any (a : Option Addr) (n c : Nat) (xs : List UInt8) (a' : Option Addr) (n' c' : Nat) (ys : List UInt8) (w : World) (hn : n ≤ 9223372036854775807) (hn' : n' ≤ 9223372036854775807)
    (h : Sl Bf w a n c xs) (h' : Sl Bf w a' n' c' ys) :
    Calls Try.prog 14 #[.slice a n c, .slice a' n' c'] w fun e w' => e = .returned (.int .i64 (com xs ys)) ∧ Below w.heap.size w w' := by
  obtain rfl : n = xs.length := h.len.symm
  obtain rfl : n' = ys.length := h'.len.symm
  have H := Lib.hid h; clear h
  have H' := Lib.hid h'; clear h'
  by_cases hmn : ys.length < xs.length
  · go_enter Try.func14, Try.ntmps14
    go_wp2_with fail
    go_loopw [13] (fun i wr => ∃ k : Nat, k ≤ ys.length ∧ i = .int .i64 k ∧ xs.take k = ys.take k ∧ Below w.heap.size w wr) (fun i _ => ys.length - (intOf i).toNat)
    case atStart => exact ⟨0, Nat.zero_le _, rfl, by simp, Below.refl _ _⟩
    case round =>
      obtain ⟨k, hk, rfl, he, hb⟩ := hrel
      have HE := Lib.hid he; clear he
      have HB := Lib.hid hb; clear hb
      by_cases hlt : k < ys.length
      · obtain ⟨x, b, o, hx, rfl, hc⟩ := (H.out.keep HB.out).at k (by omega)
        obtain ⟨y, b', o', hy, rfl, hc'⟩ := (H'.out.keep HB.out).at k (by omega)
        have hc : wr.cell? ⟨b, o + k, none⟩ = some (.int .u8 (B x)) := hc
        have hc' : wr.cell? ⟨b', o' + k, none⟩ = some (.int .u8 (B y)) := hc'
        have HX := Lib.hid hx; clear hx
        have HY := Lib.hid hy; clear hy
        by_cases hxy : x = y
        · subst hxy
          go_wp2_with fail
          go_quiet (fail)
          go_wp2_with fail
          go_roundw
          case rel => exact ⟨k + 1, by omega, by go_num, (take_eq_snoc HX.out HY.out HE.out).2 rfl, keep_drewN HB.out _⟩
          case measure => simp [intOf]; omega
        · have hne : (B x != B y) = true := by rw [bne_iff_ne]; exact fun e => hxy (B_inj e)
          go_wp2_with fail
          go_quiet (fail)
          go_wp2_with fail
          go_ret
          refine ⟨ret_int ?_, keep_drewN HB.out _⟩
          rw [com_diff HE.out HX.out HY.out hxy]
      · have ek : k = ys.length := by omega
        have EK := Lib.hid ek; clear ek
        go_wp2_with fail
        go_ret
        refine ⟨ret_int ?_, HB.out⟩
        rw [com_full HE.out (by have := EK.out; omega) (by have := EK.out; omega) (by have := EK.out; omega)]
        have := EK.out; omega
  · go_enter Try.func14, Try.ntmps14
    go_wp2_with fail
    go_loopw [13] (fun i wr => ∃ k : Nat, k ≤ xs.length ∧ i = .int .i64 k ∧ xs.take k = ys.take k ∧ Below w.heap.size w wr) (fun i _ => xs.length - (intOf i).toNat)
    case atStart => exact ⟨0, Nat.zero_le _, rfl, by simp, Below.refl _ _⟩
    case round =>
      obtain ⟨k, hk, rfl, he, hb⟩ := hrel
      have HE := Lib.hid he; clear he
      have HB := Lib.hid hb; clear hb
      by_cases hlt : k < xs.length
      · obtain ⟨x, b, o, hx, rfl, hc⟩ := (H.out.keep HB.out).at k (by omega)
        obtain ⟨y, b', o', hy, rfl, hc'⟩ := (H'.out.keep HB.out).at k (by omega)
        have hc : wr.cell? ⟨b, o + k, none⟩ = some (.int .u8 (B x)) := hc
        have hc' : wr.cell? ⟨b', o' + k, none⟩ = some (.int .u8 (B y)) := hc'
        have HX := Lib.hid hx; clear hx
        have HY := Lib.hid hy; clear hy
        by_cases hxy : x = y
        · subst hxy
          go_wp2_with fail
          go_quiet (fail)
          go_wp2_with fail
          go_roundw
          case rel => exact ⟨k + 1, by omega, by go_num, (take_eq_snoc HX.out HY.out HE.out).2 rfl, keep_drewN HB.out _⟩
          case measure => simp [intOf]; omega
        · have hne : (B x != B y) = true := by rw [bne_iff_ne]; exact fun e => hxy (B_inj e)
          go_wp2_with fail
          go_quiet (fail)
          go_wp2_with fail
          go_ret
          refine ⟨ret_int ?_, keep_drewN HB.out _⟩
          rw [com_diff HE.out HX.out HY.out hxy]
      · have ek : k = xs.length := by omega
        have EK := Lib.hid ek; clear ek
        go_wp2_with fail
        go_ret
        refine ⟨ret_int ?_, HB.out⟩
        rw [com_full HE.out (by have := EK.out; omega) (by have := EK.out; omega) (by have := EK.out; omega)]
        have := EK.out; omega

theorem sl_const (w : World) (E : TypeId) (cur : Array Value) (fr : Nat × Nat) (xs : List UInt8) (n : Nat) (hl : xs.length = n) (hx : cur.toList = xs.map Bf) :
    Sl Bf (w.alloc (.cells cur E fr)) (some ⟨w.heap.size, 0, none⟩) n n xs :=
  Sl.of_row xs n n (g := w.heap.size) (E := E) (fr := fr) (cur := cur) (heap_new w _) hl (Nat.le_refl _) (by rw [hx, List.take_of_length_le (by simp [hl])])
/-- two constant texts, one behind the other -/
theorem two_const (w : World) (xs ys : List UInt8) (cx cy : Array Value) (fx fy : Nat × Nat) (hx : cx.toList = xs.map Bf) (hy : cy.toList = ys.map Bf) :
    Sl Bf ((w.alloc (.cells cx 5 fx)).alloc (.cells cy 5 fy)) (some ⟨w.heap.size, 0, none⟩) xs.length xs.length xs ∧
    Sl Bf ((w.alloc (.cells cx 5 fx)).alloc (.cells cy 5 fy)) (some ⟨w.heap.size + 1, 0, none⟩) ys.length ys.length ys ∧
    Below w.heap.size w ((w.alloc (.cells cx 5 fx)).alloc (.cells cy 5 fy)) := by
  refine ⟨(sl_const w _ cx fx xs _ rfl hx).keep ((Below.refl _ _).alloc (Nat.le_refl _) _), ?_, ((Below.refl _ _).alloc (Nat.le_refl _) _).alloc (by simp) _⟩
  have := sl_const (w.alloc (.cells cx 5 fx)) 5 cy fy ys _ rfl hy
  rwa [World.size_alloc] at this

theorem conv2 (w : World) (o : Obj) (C : Array Value) (n c : Nat) : Sem.run Try.prog (convert 22 22 (.slice (some ⟨w.heap.size + 1, 0, none⟩) n c)) ((w.alloc o).alloc (.cells C 5)) =
    .ok (.slice (some ⟨w.heap.size + 1, 0, none⟩) n c) ((w.alloc o).alloc (.cells C 5 (C.size, C.size + 1))) := by
  have := Lib.run_convert_bytes_const (P := Try.prog) (w.alloc o) 22 5 C n c Try.underlying22 Try.underlying5
  rwa [World.size_alloc] at this
theorem lives_any (w : World) :
    Calls Try.prog 11 #[] w fun e w' => e = .returned (.bool true) ∧ Below w.heap.size w w' := by
  have kc := fun (w : World) (C : Array Value) (n c : Nat) => Lib.run_convert_bytes_const (P := Try.prog) w 22 5 C n c Try.underlying22 Try.underlying5
  have kc2 := conv2
  have e1 : cmp [97, 98] [98] = -1 := by decide
  have e2 : com [97, 98, 99] [97, 98, 100] = 2 := by decide
  have hk := two_const w [97, 98] [98] #[.int .u8 97, .int .u8 98] #[.int .u8 98] (2, 3) (1, 2) rfl rfl
  have K1 := Lib.hid hk; clear hk
  have E1 := Lib.hid e1; clear e1
  have E2 := Lib.hid e2; clear e2
  go_enter Try.func11, Try.ntmps11
  go_wp2_with fail
  refine (compare_any _ _ _ [97, 98] _ _ _ [98] _ K1.out.1 K1.out.2.1).mono ?_
  rintro e w1 ⟨rfl, rfl⟩
  rw [E1.out]
  have G := Lib.hid K1.out.2.2
  clear K1
  generalize ((w.alloc (.cells #[.int .u8 97, .int .u8 98] 5 (2, 3))).alloc (.cells #[.int .u8 98] 5 (1, 2))) = w1 at *
  have hk := two_const w1 [97, 98, 99] [97, 98, 100] #[.int .u8 97, .int .u8 98, .int .u8 99] #[.int .u8 97, .int .u8 98, .int .u8 100] (3, 4) (3, 4) rfl rfl
  have K1 := Lib.hid hk; clear hk
  go_wp2_with fail
  refine (common_any _ _ _ [97, 98, 99] _ _ _ [97, 98, 100] _ (by decide) (by decide) K1.out.1 K1.out.2.1).mono ?_
  rintro e w2 ⟨rfl, hb⟩
  rw [E2.out]
  have G2 := Lib.hid (keep_trans (keep_trans G.out K1.out.2.2) hb)
  clear K1 G hb
  go_wp2_with fail
  go_ret
  exact ⟨ret_bool rfl, G2.out⟩
end Go.Proofs.Ytajmojldckpchaa

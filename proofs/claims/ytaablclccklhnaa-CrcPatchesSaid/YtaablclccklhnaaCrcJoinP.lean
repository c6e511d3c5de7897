/- The contract of the program's Join. No condition. -/
import Derived.Test.YtaablclccklhnaaCrcTab
namespace Go.Proofs.Ytaablclccklhnaa
open Go.RowKit

theorem join_neg (a b : BitVec 32) (n : Int) (w : World) (hn : n < 0) :
    Calls Try.prog 34 #[.int .u32 (U a), .int .u32 (U b), .int .i64 n] w fun e w' => e = .returned (.tuple #[.int .u32 0, .int .i64 1]) ∧ w = w' := by
  go_enter Try.func34, Try.ntmps34
  go_wp2_with fail
  go_ret2
  exact ⟨rfl, rfl⟩

theorem in_bit (k : Nat) {x : Int} (hx : x = U (1#32 <<< k)) (g : Nat) (w : World) (h : Sl Bf w (some ⟨g, 0, none⟩) 1 1 [0]) :
    Calls Try.prog 36 #[.int .u32 x, .slice (some ⟨g, 0, none⟩) 1 1] w fun e w' => e = .returned (.int .u32 (U (tab 8 k))) ∧ w = w' := by
  refine (in_int (1#32 <<< k) hx _ _ _ _ _ (by decide) h).mono ?_
  rintro e w' ⟨rfl, rfl⟩
  refine ⟨ret_int (congrArg U ?_), rfl⟩
  show stpN 8 ((1#32 <<< k) ^^^ ext 0) = _
  have : ext 0 = 0#32 := by decide
  rw [this, BitVec.xor_zero]; rfl

theorem U_one_shl (k : Nat) : (2 : Int) ^ k % 4294967296 = U (1#32 <<< k) := by
  unfold U
  rw [BitVec.toNat_shiftLeft, Nat.shiftLeft_eq]
  show _ = ((1 * 2 ^ k % 2 ^ 32 : Nat) : Int)
  rw [Nat.one_mul, Int.natCast_emod, Int.natCast_pow]; rfl
theorem bit_one (q : Nat) : bits .and .i64 (q : Int) 1 = ((q % 2 : Nat) : Int) := by
  show IntKind.i64.wrap ((BitVec.ofInt 64 (q : Int) &&& 1#64).toNat : Int) = _
  rw [BitVec.ofInt_natCast, BitVec.toNat_and, BitVec.toNat_ofNat]
  have e : (1#64).toNat = 1 := rfl
  rw [e, Nat.and_one_is_mod]
  rw [IntWalk.i64_left, IntWalk.wrap64_in _ ⟨by omega, by omega⟩]; omega
theorem bit_odd (q : Nat) (h : q % 2 = 1) : (bits .and .i64 (q : Int) 1 == 1) = true := by rw [bit_one, h]; rfl
theorem bit_even (q : Nat) (h : q % 2 = 0) : (bits .and .i64 (q : Int) 1 == 1) = false := by rw [bit_one, h]; rfl
theorem twice_tab {t : Nat → BitVec 32} {m : Nat} (h : ∀ i, i < 32 → t i = tab m i) : ∀ i, i < 32 → ofN t (t i) 32 = tab (m + m) i := by
  intro i hi
  rw [ofN_congr t (tab m) (t i) 32 h, of_tab, h i hi]
  unfold tab
  rw [stpN_add]
theorem arr_upto8 {w : World} {g k : Nat} (h : Arr w g (fun i => if i < k then tab 8 i else 0#32)) (hk : 32 ≤ k) : Arr w g (fun i => if i < 32 then tab 8 i else 0#32) := by
  unfold Arr at h ⊢
  rw [h]
  have : tcs (fun i => if i < k then tab 8 i else 0#32) = tcs (fun i => if i < 32 then tab 8 i else 0#32) := by
    apply List.map_congr_left
    intro i hi
    have h1 : i < 32 := by simpa using hi
    have h2 : i < k := by omega
    simp [h1, h2]
  rw [this]

set_option maxHeartbeats 400000 in
theorem join_any (a b : BitVec 32) (n : Nat) (w : World) (_hn : Fits n) :
    Calls Try.prog 34 #[.int .u32 (U a), .int .u32 (U b), .int .i64 n] w fun e w' => e = .returned (.tuple #[.int .u32 (U (joinS a b n)), .int .i64 0]) ∧ Below w.heap.size w w' := by
  go_enter Try.func34, Try.ntmps34
  go_wp2_with fail
  go_loopw [12] (fun i wr => ∃ k : Nat, k ≤ 32 ∧ i = .int .i64 k ∧ Arr wr w.heap.size (fun i => if i < k then tab 8 i else 0#32) ∧ Below w.heap.size w wr) (fun i _ => 32 - (intOf i).toNat)
  case atStart =>
    have a1 := Arr.new w (fun _ => 0#32) _ rfl
    refine ⟨0, Nat.zero_le _, rfl, ?_, (Below.refl _ _).alloc (Nat.le_refl _) _⟩
    have e : (fun i => if i < 0 then tab 8 i else 0#32) = fun _ => 0#32 := by funext i; rw [if_neg (by omega)]
    rw [e]; exact a1
  case round =>
    obtain ⟨k, hk, rfl, h0, hb⟩ := hrel
    have H0 := Lib.hid h0; clear h0
    have HB := Lib.hid hb; clear hb
    by_cases hlt : (k : Int) < 32
    · go_wp2_with fail
      refine (in_bit k (U_one_shl k) _ _ (Sl.lit wr 5 #[.int .u8 0] [0] 1 rfl rfl)).mono ?_
      rintro e w1 ⟨rfl, rfl⟩
      have hb1 : Below wr.heap.size wr (wr.alloc (.cells #[.int .u8 0] 5)) := (Below.refl _ _).alloc (Nat.le_refl _) _
      have hs1 := (H0.out.keep hb1).cell k (by omega)
      have hf1 := (H0.out.keep hb1).free k
      have K0 := Lib.hid (H0.out.keep hb1)
      have KB := Lib.hid (keep_trans HB.out hb1); clear hb1
      go_wp2_with fail

      go_roundw
      case rel =>
        refine ⟨k + 1, by omega, by go_num, ?_, KB.out.setCell (p := ⟨w.heap.size, k, none⟩) (Nat.le_refl _) _⟩
        have e : (fun i => if i = k then tab 8 k else if i < k then tab 8 i else 0#32) = fun i => if i < k + 1 then tab 8 i else 0#32 := by
          funext i
          by_cases h1 : i = k
          · subst h1; simp
          · rw [if_neg h1]
            by_cases h2 : i < k
            · rw [if_pos h2, if_pos (by omega)]
            · rw [if_neg h2, if_neg (by omega)]
        rw [← e]
        exact K0.out.set k _
      case measure => simp [intOf]; omega
    · have h8 := arr_upto8 H0.out (by omega)
      have H8 := Lib.hid h8; clear h8 H0

      go_wp2_with fail

      go_loopw [0, 2] (fun x i wq => ∃ (m q : Nat) (s : BitVec 32) (t : Nat → BitVec 32), q ≤ n ∧ i = .int .i64 q ∧ x = .int .u32 (U s) ∧ Arr wq w.heap.size t ∧ (∀ i, i < 32 → t i = tab m i) ∧ stpN (m * q) s = stpN (8 * n) a ∧ Below w.heap.size w wq) (fun _ i _ => (intOf i).toNat)
      case atStart => exact ⟨8, n, a, _, Nat.le_refl _, rfl, rfl, H8.out, fun i hi => by rw [if_pos (by omega)], rfl, HB.out⟩
      case round =>
        obtain ⟨m, q, s, t, hq, rfl, rfl, h0, ht, he, hb⟩ := hrel
        have H0 := Lib.hid h0; clear h0 H8
        have HT := Lib.hid ht; clear ht
        have HE := Lib.hid he; clear he
        have HW := Lib.hid hb; clear hb
        by_cases hpos : (0 : Int) < q
        · by_cases ho : q % 2 = 1
          · have ho2 := bit_odd q ho
            have he2 := half_odd m q s ho
            have HE2 := Lib.hid (he2.trans HE.out); clear he2 HE ho
            go_wp2_with fail
            refine (of_any w.heap.size t s _ H0.out.tab).mono ?_
            rintro e w2 ⟨rfl, hb⟩
            have K0 := Lib.hid (H0.out.keep hb); clear H0
            have KW := Lib.hid (keep_trans HW.out hb); clear HW hb
            go_upto_region 13 with (fail)
            iterate 3 go_step
            refine (twice_any w.heap.size t w2 K0.out.tab).mono ?_
            rintro e w3 ⟨rfl, hb⟩
            have Z0 := Lib.hid (K0.out.keep hb); clear K0
            have ZW := Lib.hid (keep_trans KW.out hb); clear KW hb
            dsimp only
            go_step
            have hi : (Try.prog.info? 61).map (·.size) = some 32 := by kernel_rfl
            refine wpList_store_mid rfl 61 (.tmp 8) (.tmp 31) rfl w.heap.size 0 (tcs (fun i => ofN t (t i) 32)).toArray (by rfl) (by rfl) (Z0.out.there _ (by simp [tcs_length])) (by rw [List.size_toArray, tcs_length]; exact hi) (all_oneCell_toArray (tcs_one _)) ?_
            refine wpList_nil ?_
            have Y0 := Lib.hid (Z0.out.setAll (fun i => ofN t (t i) 32))
            have YW := Lib.hid (below_setCells w.heap.size (Nat.le_refl _) (tcs (fun i => ofN t (t i) 32)) _ ZW.out 0); clear Z0 ZW
            go_wp2_with fail
            go_roundw
            case rel => exact ⟨m + m, q / 2, _, _, by omega, val_int (by omega), rfl, Y0.out, twice_tab HT.out, by rw [ofN_congr t (tab m) s 32 HT.out, of_tab]; exact HE2.out, YW.out⟩
            case measure => simp only [intOf]; omega
          · have ho2 := bit_even q (by omega)
            have he2 := half_even m q s (by omega)
            have HE2 := Lib.hid (he2.trans HE.out); clear he2 HE ho
            have K0 := Lib.hid H0.out; clear H0
            have KW := Lib.hid HW.out; clear HW
            go_upto_region 13 with (fail)
            iterate 3 go_step
            refine (twice_any w.heap.size t _ K0.out.tab).mono ?_
            rintro e w3 ⟨rfl, hb⟩
            have Z0 := Lib.hid (K0.out.keep hb); clear K0
            have ZW := Lib.hid (keep_trans KW.out hb); clear KW hb
            dsimp only
            go_step
            have hi : (Try.prog.info? 61).map (·.size) = some 32 := by kernel_rfl
            refine wpList_store_mid rfl 61 (.tmp 8) (.tmp 31) rfl w.heap.size 0 (tcs (fun i => ofN t (t i) 32)).toArray (by rfl) (by rfl) (Z0.out.there _ (by simp [tcs_length])) (by rw [List.size_toArray, tcs_length]; exact hi) (all_oneCell_toArray (tcs_one _)) ?_
            refine wpList_nil ?_
            have Y0 := Lib.hid (Z0.out.setAll (fun i => ofN t (t i) 32))
            have YW := Lib.hid (below_setCells w.heap.size (Nat.le_refl _) (tcs (fun i => ofN t (t i) 32)) _ ZW.out 0); clear Z0 ZW
            go_wp2_with fail
            go_roundw
            case rel => exact ⟨m + m, q / 2, _, _, by omega, val_int (by omega), rfl, Y0.out, twice_tab HT.out, HE2.out, YW.out⟩
            case measure => simp only [intOf]; omega
        · go_wp2_with fail
          go_ret2
          obtain rfl : q = 0 := by omega
          have := HE.out
          rw [Nat.mul_zero] at this
          refine ⟨?_, HW.out⟩
          unfold joinS; rw [← this, ← U_xor]; rfl
end Go.Proofs.Ytaablclccklhnaa

/- CrcOnly: the walk: the law's Go text returns true and writes nothing that was there. Conditions: the slice within reach. -/
import Derived.Test.YtaablclccklhnaaCrcBursts
import Derived.Test.YtaablclccklhnaaCrcPatchP
import Derived.Deep.DeepCutAuto
namespace Go.Proofs.Ytaablclccklhnaa
open Go.RowKit

/-- an array of two registers in a block of its own -/
def Two (w : World) (g : Nat) (p q : BitVec 32) : Prop := w.heap[g]? = some (.cells #[.int .u32 (U p), .int .u32 (U q)] 49 (0, 0))
theorem Two.lt {w : World} {g : Nat} {p q : BitVec 32} (h : Two w g p q) : g < w.heap.size := (Array.getElem?_eq_some_iff.1 h).1
theorem Two.keep {w w' : World} {g : Nat} {p q : BitVec 32} (h : Two w g p q) (hb : Below w.heap.size w w') : Two w' g p q := (hb.block g h.lt).trans h
theorem Two.c0 {w : World} {g : Nat} {p q : BitVec 32} (h : Two w g p q) : w.cell? ⟨g, 0, none⟩ = some (.int .u32 (U p)) := by
  unfold Two at h; simp [World.cell?, h]
theorem Two.c1 {w : World} {g : Nat} {p q : BitVec 32} (h : Two w g p q) : w.cell? ⟨g, 1, none⟩ = some (.int .u32 (U q)) := by
  unfold Two at h; simp [World.cell?, h]

/-- the bytes of r over those at m, k of them -/
def setK (ys : List UInt8) (m : Nat) (r : BitVec 32) : Nat → List UInt8
  | 0 => ys
  | k + 1 => (setK ys m r k).set (m + k) (by8 r (8 * k))
theorem setK_length (ys : List UInt8) (m : Nat) (r : BitVec 32) : ∀ k, (setK ys m r k).length = ys.length
  | 0 => rfl
  | k + 1 => by show ((setK ys m r k).set _ _).length = _; rw [List.length_set, setK_length ys m r k]
theorem setK_four (xs : List UInt8) (m : Nat) (q r : BitVec 32) (hm : m + 4 ≤ xs.length) : setK (put4 xs m q) m r 4 = put4 xs m r := by
  unfold put4
  have hl : (xs.take m).length = m := by simp; omega
  generalize xs.take m = a at *
  generalize xs.drop (m + 4) = b
  subst hl
  simp [setK, four]
theorem put4_get (xs : List UInt8) (m i : Nat) (q : BitVec 32) (hm : m + 4 ≤ xs.length) (hi : i < m ∨ m + 4 ≤ i) : (put4 xs m q)[i]? = xs[i]? := by
  have hl : (xs.take m).length = m := by simp; omega
  have h4 : (four q).length = 4 := rfl
  unfold put4
  rcases hi with hi | hi
  · rw [List.append_assoc, List.getElem?_append_left (by omega), List.getElem?_take_of_lt hi]
  · rw [List.getElem?_append_right (by simp [h4]; omega), List.length_append, hl, h4, List.getElem?_drop]
    congr 1; omega
theorem B_by8 (r : BitVec 32) (k : Nat) : U r / (2 : Int) ^ k % 256 = B (by8 r k) := by
  rw [U_shr]
  unfold by8 U B
  rw [UInt8.toNat_ofNat']; omega

set_option maxHeartbeats 1000000 in
theorem crcOnly_bad (a : Option Addr) (n c : Nat) (x : Int) (p q : BitVec 32) (w : World) (hn : n ≤ 140737488351232) (hx : x < 0 ∨ n < 4 ∨ (n : Int) - 4 < x) :
    Calls Try.prog 9 #[.slice a n c, .int .i64 x, .agg #[.int .u32 (U p), .int .u32 (U q)]] w fun e w' => e = .returned (.bool true) ∧ Below w.heap.size w w' := by
  have HP := Lib.hid (fun w => patch_bad a n c x p w hn hx)
  have tw : Two (w.alloc (.cells #[.int .u32 (U p), .int .u32 (U q)] 49)) w.heap.size p q := heap_new w _
  have T := Lib.hid tw; clear tw
  have hb0 : Below w.heap.size w (w.alloc (.cells #[.int .u32 (U p), .int .u32 (U q)] 49)) := (Below.refl _ _).alloc (Nat.le_refl _) _
  have G := Lib.hid hb0; clear hb0
  have HX := Lib.hid hx; clear hx
  go_enter Try.func9, Try.ntmps9
  go_wp2_with fail
  refine (lives_any _).mono ?_
  rintro e w1 ⟨rfl, hb⟩
  replace T := Lib.hid (T.out.keep hb)
  replace G := Lib.hid (keep_trans G.out hb); clear hb
  have c0 := T.out.c0
  go_wp2_with fail
  refine (HP.out _).mono ?_
  rintro e w2 ⟨rfl, rfl⟩
  have hx := HX.out; clear HX
  by_cases h1 : x < 0
  · go_wp2_with fail
    go_ret
    exact ⟨rfl, G.out⟩
  · by_cases h2 : (n : Int) < 4
    · go_wp2_with fail
      go_ret
      exact ⟨rfl, G.out⟩
    · have h3 : (n : Int) - 4 < x := by omega
      clear hx
      go_wp2_with fail
      go_ret
      exact ⟨rfl, G.out⟩
theorem only_end (xs : List UInt8) (m : Nat) (q d p : BitVec 32) (hs : sum (put4 xs m d) = p) : (decide (put4 xs m q = put4 xs m d) == (U (sum (put4 xs m q)) == U p)) = true := by
  subst hs
  by_cases h : q = d
  · subst h; simp
  · have h1 : ¬ (sum (put4 xs m q) = sum (put4 xs m d)) := fun e => h (put4_inj xs m e)
    have h2 : ¬ (put4 xs m q = put4 xs m d) := fun e => h1 (by rw [e])
    rw [U_beq, decide_eq_false h2, beq_eq_false_iff_ne.2 h1]; rfl

set_option maxHeartbeats 2000000 in
theorem crcOnly_good (a : Option Addr) (n c : Nat) (xs : List UInt8) (m : Nat) (p q : BitVec 32) (w : World) (hn : n ≤ 140737488351232) (hm : m + 4 ≤ n) (h : Sl Bf w a n c xs) :
    Calls Try.prog 9 #[.slice a n c, .int .i64 m, .agg #[.int .u32 (U p), .int .u32 (U q)]] w fun e w' => e = .returned (.bool true) ∧ Below w.heap.size w w' := by
  obtain rfl : n = xs.length := h.len.symm
  have tw : Two (w.alloc (.cells #[.int .u32 (U p), .int .u32 (U q)] 49)) w.heap.size p q := heap_new w _
  have T := Lib.hid tw; clear tw
  have hb0 : Below w.heap.size w (w.alloc (.cells #[.int .u32 (U p), .int .u32 (U q)] 49)) := (Below.refl _ _).alloc (Nat.le_refl _) _
  have G := Lib.hid hb0; clear hb0
  have H := Lib.hid h; clear h
  have g1 : ¬ ((m : Int) < 0) := by omega
  have g2 : ¬ ((xs.length : Int) < 4) := by omega
  have g3 : ¬ ((xs.length : Int) - 4 < m) := by omega
  go_enter Try.func9, Try.ntmps9
  go_wp2_with fail
  refine (lives_any _).mono ?_
  rintro e w1 ⟨rfl, hb⟩
  replace T := Lib.hid (T.out.keep hb)
  replace G := Lib.hid (keep_trans G.out hb); clear hb
  have c0 := T.out.c0
  go_wp2_with fail
  refine (patch_any a xs.length c xs m p _ hn hm (H.out.keep G.out)).mono ?_
  rintro e w2 ⟨v, d, rfl, hv, hs, hb⟩
  have lw : w.heap.size ≤ w1.heap.size := G.out.size
  replace T := Lib.hid (T.out.keep hb)
  replace G := Lib.hid (keep_trans G.out hb); clear hb c0
  obtain ⟨ad, nn, cp, rfl, zv⟩ := hv.slN
  obtain rfl : nn = xs.length := by rw [← zv.len, put4_length xs m d hm]
  have O := Lib.hid hv; clear hv
  have S := Lib.hid zv; clear zv
  have c0 := T.out.c0
  have HS := Lib.hid hs; clear hs
  have hsum : ∀ W : World, Sl Bf W ad xs.length cp (put4 xs m d) → Calls Try.prog 14 #[.slice ad xs.length cp] W fun e w' => e = .returned (.int .u32 (U p)) ∧ W = w' := by
    intro W hW
    rw [← HS.out]; exact sum_any _ _ _ _ _ (by omega) hW
  have HC := Lib.hid hsum; clear hsum
  go_upto_region 5 with (fail)
  go_quiet ((go_at_call 14; exact Calls.quiet_of_same ((HC.out _ (S.out.drewN _)).mono fun _ _ h => ⟨h.1, h.2.symm⟩)))
  replace T := Lib.hid (show Two (w2.drewN nq) w.heap.size p q from T.out)
  replace O := Lib.hid (O.out.drewN nq)
  replace S := Lib.hid (S.out.drewN nq)
  replace G := Lib.hid (keep_drewN G.out nq)
  generalize w2.drewN nq = w3 at *
  clear c0
  go_wp2_with fail
  go_loopw [10] (fun i wr => ∃ k j : Nat, k ≤ xs.length ∧ i = .int .i64 k ∧ wr = w3.drewN j) (fun i _ => xs.length - (intOf i).toNat)
  case atStart => exact ⟨0, 0, Nat.zero_le _, rfl, rfl⟩
  case round =>
    obtain ⟨k, j, hk, rfl, rfl⟩ := hrel
    by_cases hlt : k < xs.length
    · by_cases hin : (m : Int) ≤ k ∧ (k : Int) < m + 4
      · have i1 := hin.1
        have i2 := hin.2
        clear hin
        have wq : IntKind.i64.wrap ((m : Int) + 4) = (m : Int) + 4 := IntWalk.i64_in _ (by omega)
        have d1 : decide (k < m) = false := decide_eq_false (by omega)
        have d2 : decide ((m : Int) + 4 ≤ k) = false := decide_eq_false (by omega)
        go_wp2_with fail
        go_quiet (fail)
        go_wp2_with fail
        go_roundw
        case rel => exact ⟨k + 1, j + nq, by omega, by go_num, rfl⟩
        case measure => simp [intOf]; omega
      · obtain ⟨x, b, o, hx, rfl, hc⟩ := (H.out.keep G.out).at k hlt
        have hc : w3.cell? ⟨b, o + k, none⟩ = some (.int .u8 (B x)) := hc
        obtain ⟨y, b', o', hy, rfl, hc'⟩ := S.out.at k hlt
        have hyx : y = x := by
          rw [put4_get xs m k d hm (by omega), hx] at hy
          exact (Option.some.inj hy).symm
        subst hyx
        have hc' : w3.cell? ⟨b', o' + k, none⟩ = some (.int .u8 (B y)) := hc'
        clear hx hy
        by_cases i1 : (k : Int) < m
        · clear hin
          have wq : IntKind.i64.wrap ((m : Int) + 4) = (m : Int) + 4 := IntWalk.i64_in _ (by omega)
          have d1 : decide (k < m) = true := decide_eq_true (by omega)
          have d2 : decide ((m : Int) + 4 ≤ k) = false := decide_eq_false (by omega)
          go_wp2_with fail
          go_quiet (fail)
          go_wp2_with fail
          go_roundw
          case rel => exact ⟨k + 1, j + nq, by omega, by go_num, rfl⟩
          case measure => simp [intOf]; omega
        · have i2 : (m : Int) + 4 ≤ k := by omega
          clear hin
          have wq : IntKind.i64.wrap ((m : Int) + 4) = (m : Int) + 4 := IntWalk.i64_in _ (by omega)
          have d1 : decide (k < m) = false := decide_eq_false (by omega)
          have d2 : decide ((m : Int) + 4 ≤ k) = true := decide_eq_true (by omega)
          go_wp2_with fail
          go_quiet (fail)
          go_wp2_with fail
          go_roundw
          case rel => exact ⟨k + 1, j + nq, by omega, by go_num, rfl⟩
          case measure => simp [intOf]; omega
    · replace T := Lib.hid (show Two (w3.drewN j) w.heap.size p q from T.out)
      replace O := Lib.hid (O.out.drewN j)
      replace S := Lib.hid (S.out.drewN j)
      replace G := Lib.hid (keep_drewN G.out j)
      generalize w3.drewN j = w4 at *
      go_wp2_with (at_builtin; refine wpList_appT eltTB rfl _ _ rfl w4.heap.size _ [] (by rfl) (OwT.lit fB _ w4.heap.size _ _ [] 0 rfl rfl (Nat.le_refl _) (Nat.zero_le _)) ad xs.length cp (put4 xs m d) (by rfl) (S.out.keep ((Below.refl _ _).alloc (Nat.le_refl _) _)).toT (by unfold maxLen; simp; omega) (by simp; omega) (by simp) _ rfl ?_; intro v5 w5 h5 hg5 hv5 hb5)
      have h5 : OwT fB w5 w4.heap.size 5 v5 (put4 xs m d) := h5
      obtain ⟨ge, ce, rfl⟩ : ∃ ge ce, v5 = .slice (some ⟨ge, 0, none⟩) xs.length ce := by
        have hl := put4_length xs m d hm
        rcases h5 with ⟨_, e0⟩ | ⟨g, cap, ys, rfl, _⟩
        · rw [e0] at hl; simp at hl; omega
        · exact ⟨g, cap, by rw [hl]⟩
      have hb5 : Below w4.heap.size w4 w5 := ((Below.refl _ _).alloc (Nat.le_refl _) _).trans hb5
      have N := Lib.hid hb5
      have E := Lib.hid h5
      clear h5 hg5 hv5 hb5
      go_wp2_with fail
      go_loopw [12] (fun i wr => ∃ k : Nat, k ≤ 4 ∧ i = .int .i64 k ∧ OwT fB wr w4.heap.size 5 (.slice (some ⟨ge, 0, none⟩) xs.length ce) (setK (put4 xs m d) m q k) ∧ Below w4.heap.size w4 wr) (fun i _ => 4 - (intOf i).toNat)
      case atStart => exact ⟨0, Nat.zero_le _, rfl, E.out, N.out⟩
      case round =>
        obtain ⟨k, hk, rfl, he, hb⟩ := hrel
        have E2 := Lib.hid he; clear he
        have N2 := Lib.hid hb; clear hb
        by_cases hlt : (k : Int) < 4
        · have c1 := (T.out.keep N2.out).c1
          have hcp := E2.out.capB
          obtain ⟨x, b, o, e, hc, hf⟩ := E2.out.soft (m + k) (by rw [setK_length, put4_length xs m d hm] at hcp; omega)
          cases e
          rw [Nat.zero_add] at hc hf
          clear hcp
          go_wp2_with fail
          go_roundw
          case rel =>
            have hge := (E2.out.lt ge rfl).1
            obtain ⟨x2, hx2⟩ : ∃ x2, (setK (put4 xs m d) m q k)[m + k]? = some x2 := ⟨_, List.getElem?_eq_getElem (by rw [setK_length, put4_length xs m d hm]; omega)⟩
            have hset := E2.out.setB (m + k) x2 (by8 q (8 * k)) hx2
            rw [Nat.zero_add] at hset
            rw [B_by8]
            exact ⟨k + 1, by omega, by go_num, hset, N2.out.setCell (p := ⟨ge, m + k, none⟩) hge _⟩
          case measure => simp [intOf]; omega
        · have he3 : OwT fB wr w4.heap.size 5 (.slice (some ⟨ge, 0, none⟩) xs.length ce) (put4 xs m q) := by
            have := E2.out
            rw [show k = 4 by omega, setK_four xs m d q hm] at this
            exact this
          have E3 := Lib.hid he3; clear he3
          have c0 := (T.out.keep N2.out).c0
          go_wp2_with fail
          refine (same_any _ _ _ _ _ _ _ _ _ (by omega) (by omega) E3.out.slI (S.out.keep N2.out)).mono ?_
          rintro e w6 ⟨rfl, hb⟩
          replace E3 := Lib.hid (E3.out.keep hb)
          replace T := Lib.hid ((T.out.keep N2.out).keep hb)
          replace G := Lib.hid (keep_trans (keep_trans G.out N2.out) hb)
          clear c0 hb
          have c0 := T.out.c0
          go_wp2_with fail
          refine (sum_any _ _ _ (put4 xs m q) _ (by omega) E3.out.slI).mono ?_
          rintro e w' ⟨rfl, rfl⟩
          go_wp2_with fail
          go_ret
          refine ⟨ret_bool ?_, G.out⟩
          exact only_end xs m q d p HS.out

theorem crcOnly_walk (a : Option Addr) (n c : Nat) (xs : List UInt8) (x : Int) (p q : BitVec 32) (w : World) (hn : n ≤ 140737488351232) (h : Sl Bf w a n c xs) :
    Calls Try.prog 9 #[.slice a n c, .int .i64 x, .agg #[.int .u32 (U p), .int .u32 (U q)]] w fun e w' => e = .returned (.bool true) ∧ Below w.heap.size w w' := by
  by_cases hx : x < 0 ∨ n < 4 ∨ (n : Int) - 4 < x
  · exact crcOnly_bad a n c x p q w hn hx
  · obtain ⟨m, rfl⟩ : ∃ m : Nat, x = m := ⟨x.toNat, by omega⟩
    exact crcOnly_good a n c xs m p q w hn (by omega) h
end Go.Proofs.Ytaablclccklhnaa

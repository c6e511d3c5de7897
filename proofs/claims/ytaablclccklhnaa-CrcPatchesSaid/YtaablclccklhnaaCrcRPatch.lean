/- The contract of the reference's Patch. Condition: the slice within reach. -/
import Derived.Test.YtaablclccklhnaaCrcOnly
import Derived.Test.YtaablclccklhnaaCrcJoinP
import Derived.Test.YtaablclccklhnaaCrcGauss
import Derived.BigRegion
namespace Go.Proofs.Ytaablclccklhnaa
open Go.RowKit

/-- 32 registers that fill a block -/
def Ar (w : World) (g : Nat) (t : Nat → BitVec 32) : Prop := w.heap[g]? = some (.cells (tcs t).toArray 60 (0, 0))
theorem Ar.lt {w : World} {g : Nat} {t : Nat → BitVec 32} (h : Ar w g t) : g < w.heap.size := (Array.getElem?_eq_some_iff.1 h).1
theorem Ar.keep {w w' : World} {g : Nat} {t : Nat → BitVec 32} (h : Ar w g t) (hb : Below w.heap.size w w') : Ar w' g t := (hb.block g h.lt).trans h
theorem Ar.cell {w : World} {g : Nat} {t : Nat → BitVec 32} (h : Ar w g t) (i : Nat) (hi : i < 32) : w.cell? ⟨g, i, none⟩ = some (.int .u32 (U (t i))) := by
  unfold Ar at h
  simp only [World.cell?, h]
  simpa using tcs_get t i hi
theorem Ar.free {w : World} {g : Nat} {t : Nat → BitVec 32} (h : Ar w g t) (i : Nat) : w.frozen? ⟨g, i, none⟩ = false := by
  unfold Ar at h
  simp [World.frozen?, h]
theorem Ar.set {w : World} {g : Nat} {t : Nat → BitVec 32} (h : Ar w g t) (k : Nat) (v : BitVec 32) : Ar (w.setCell ⟨g, k, none⟩ (.int .u32 (U v))) g (fun i => if i = k then v else t i) := by
  unfold Ar at h ⊢
  simp only [World.setCell, Array.getElem?_modify, if_true]
  rw [h]
  simp [← tcs_set]
theorem Ar.other {w : World} {g g' : Nat} {t : Nat → BitVec 32} (h : Ar w g t) (k : Nat) (v : Value) (hne : g ≠ g') : Ar (w.setCell ⟨g', k, none⟩ v) g t := by
  unfold Ar at h ⊢
  rw [Below.heap_setCell _ _ _ _ hne]; exact h
theorem Ar.new (w : World) (t : Nat → BitVec 32) (cs : Array Value) (h : cs = (tcs t).toArray) : Ar (w.alloc (.cells cs 60)) w.heap.size t := by
  subst h; exact heap_new w _
theorem OwT.otherB {w : World} {base : Nat} {e : TypeId} {g n c g' : Nat} {xs : List UInt8} (h : OwT fB w base e (.slice (some ⟨g, 0, none⟩) n c) xs) (k : Nat) (v : Value) (hne : g ≠ g') :
    OwT fB (w.setCell ⟨g', k, none⟩ v) base e (.slice (some ⟨g, 0, none⟩) n c) xs :=
  h.of_block fun j hj => by cases hj; exact Below.heap_setCell _ _ _ _ hne

theorem by8_zero (k : Nat) : by8 0#32 k = 0 := by unfold by8; simp
theorem setK_put (xs : List UInt8) (m : Nat) (r : BitVec 32) (hm : m + 4 ≤ xs.length) : setK xs m r 4 = put4 xs m r := by
  obtain ⟨a, b, c, d, t, e⟩ : ∃ a b c d t, xs.drop m = a :: b :: c :: d :: t := by
    have hl : (xs.drop m).length = xs.length - m := List.length_drop
    match h : xs.drop m with
    | a :: b :: c :: d :: t => exact ⟨a, b, c, d, t, rfl⟩
    | [] => rw [h] at hl; simp at hl; omega
    | [_] => rw [h] at hl; simp at hl; omega
    | [_, _] => rw [h] at hl; simp at hl; omega
    | [_, _, _] => rw [h] at hl; simp at hl; omega
  have e4 : xs.drop (m + 4) = t := by rw [← List.drop_drop, e]; rfl
  unfold put4
  rw [e4]
  have hx : xs = xs.take m ++ (a :: b :: c :: d :: t) := by rw [← e]; exact (List.take_append_drop m xs).symm
  have hl : (xs.take m).length = m := by simp; omega
  generalize xs.take m = p at *
  subst hx
  subst hl
  simp [setK, four]
theorem four_bit (k : Nat) (hk : k < 32) : four (1#32 <<< k) = (four 0#32).set (k / 8) (bit8 (k % 8)) ∧ (four (1#32 <<< k)).set (k / 8) 0 = four 0#32 := by
  have : ∀ k : Fin 32, four (1#32 <<< k.val) = (four 0#32).set (k.val / 8) (bit8 (k.val % 8)) ∧ (four (1#32 <<< k.val)).set (k.val / 8) 0 = four 0#32 := by decide +kernel
  exact this ⟨k, hk⟩
theorem put4_set (xs : List UInt8) (m j : Nat) (q : BitVec 32) (x : UInt8) (hm : m + 4 ≤ xs.length) (hj : j < 4) : (put4 xs m q).set (m + j) x = xs.take m ++ (four q).set j x ++ xs.drop (m + 4) := by
  have hl : (xs.take m).length = m := by simp; omega
  have h4 : (four q).length = 4 := rfl
  unfold put4
  rw [List.append_assoc, List.append_assoc, List.set_append, if_neg (by omega), hl, show m + j - m = j by omega, List.set_append, if_pos (by omega)]
theorem put4_bit (xs : List UInt8) (m k : Nat) (hm : m + 4 ≤ xs.length) (hk : k < 32) : (put4 xs m 0#32).set (m + k / 8) (bit8 (k % 8)) = put4 xs m (1#32 <<< k) ∧ (put4 xs m (1#32 <<< k)).set (m + k / 8) 0 = put4 xs m 0#32 := by
  obtain ⟨h1, h2⟩ := four_bit k hk
  rw [put4_set xs m (k / 8) _ _ hm (by omega), put4_set xs m (k / 8) _ _ hm (by omega), ← h1, h2]
  exact ⟨rfl, rfl⟩

set_option maxRecDepth 100000 in
theorem rpatch_bad (a : Option Addr) (n c : Nat) (x : Int) (want : BitVec 32) (w : World) (hn : n ≤ 140737488351232) (hx : x < 0 ∨ n < 4 ∨ (n : Int) - 4 < x) :
    Calls Try.prog 33 #[.slice a n c, .int .i64 x, .int .u32 (U want)] w fun e w' => e = .returned (.tuple #[.slice none 0 0, .int .i64 1]) ∧ w = w' := by
  by_cases h1 : x < 0
  · go_enter Try.func33, Try.ntmps33
    go_wp2_with fail
    go_ret2
    exact ⟨rfl, rfl⟩
  · by_cases h2 : (n : Int) < 4
    · go_enter Try.func33, Try.ntmps33
      go_wp2_with fail
      go_ret2
      exact ⟨rfl, rfl⟩
    · have h3 : (n : Int) - 4 < x := by omega
      clear hx
      go_enter Try.func33, Try.ntmps33
      go_wp2_with fail
      go_ret2
      exact ⟨rfl, rfl⟩
theorem turn_eq (xs : List UInt8) (m : Nat) (q : BitVec 32) (M : Nat) (hM : M = 8 * (xs.drop (m + 4)).length + 32) : sum (put4 xs m q) ^^^ sum (put4 xs m 0#32) = stpN M q := by
  rw [sum_put4 xs m q, hM]
  generalize sum (put4 xs m 0#32) = b
  have : b ^^^ stpN (8 * (xs.drop (m + 4)).length + 32) q ^^^ b = stpN (8 * (xs.drop (m + 4)).length + 32) q ^^^ (b ^^^ b) := by ac_rfl
  rw [this, BitVec.xor_self, BitVec.xor_zero]
theorem upd_next (f : Nat → BitVec 32) (k : Nat) : (fun i => if i = k then f k else if i < k then f i else 0#32) = fun i => if i < k + 1 then f i else 0#32 := by
  funext i
  by_cases h1 : i = k
  · subst h1; simp
  · rw [if_neg h1]
    by_cases h2 : i < k
    · rw [if_pos h2, if_pos (by omega)]
    · rw [if_neg h2, if_neg (by omega)]

theorem U_bit0 (a : BitVec 32) (k : Nat) : (U (a >>> k &&& 1#32) == 0) = !a.getLsbD k := by
  rw [← U_bit a k]
  have hlo := U_lo (a >>> k &&& 1#32)
  have h2 : U (a >>> k &&& 1#32) ≤ 1 := by
    unfold U
    rw [BitVec.toNat_and]
    have : (a >>> k).toNat &&& (1#32).toNat ≤ 1 := Nat.and_le_right
    generalize (a >>> k).toNat &&& (1#32).toNat = z at *
    omega
  generalize U (a >>> k &&& 1#32) = z at *
  rcases (by omega : z = 0 ∨ z = 1) with h | h <;> subst h <;> rfl
theorem next_zero {T : Nat → BitVec 32} {k q : Nat} (h : ∀ i, k ≤ i → i < q → (T i).getLsbD k = false) (hq : (T q).getLsbD k = false) : ∀ i, k ≤ i → i < q + 1 → (T i).getLsbD k = false := by
  intro i h1 h2
  by_cases e : i = q
  · subst e; exact hq
  · exact h i h1 (by omega)

theorem Ar.swp {w : World} {g : Nat} {t : Nat → BitVec 32} (h : Ar w g t) (k q : Nat) : Ar (((w.setCell ⟨g, k, none⟩ (.int .u32 (U (t q)))).setCell ⟨g, q, none⟩ (.int .u32 (U (t k)))).drew) g (swp t k q) := (h.set k (t q)).set q (t k)
theorem clr_self (T D : Nat → BitVec 32) (k i : Nat) : clr T D k i i = D i := by unfold clr; rw [if_neg (by omega)]
theorem clr_k (T D : Nat → BitVec 32) (k i : Nat) : clr T D k i k = D k := by unfold clr; rw [if_neg (by simp)]
theorem clr_stay {T D : Nat → BitVec 32} {k i : Nat} (h : ¬ (i ≠ k ∧ (T i).getLsbD k = true)) : clr T D k (i + 1) = clr T D k i := by
  rw [clr_step]
  funext j
  by_cases e : j = i
  · subst e; rw [if_pos rfl, if_neg h]
  · rw [if_neg e]
theorem clr_go {T D : Nat → BitVec 32} {k i : Nat} (h1 : i ≠ k) (h2 : (T i).getLsbD k = true) : clr T D k (i + 1) = fun j => if j = i then D i ^^^ D k else clr T D k i j := by
  rw [clr_step]
  funext j
  by_cases e : j = i
  · subst e; rw [if_pos rfl, if_pos rfl, if_pos ⟨h1, h2⟩, clr_self, clr_k]
  · rw [if_neg e, if_neg e]
theorem Ar.clr {w : World} {g : Nat} {T D : Nat → BitVec 32} {k i : Nat} (h : Ar w g (Go.Proofs.Ytaablclccklhnaa.clr T D k i)) (h1 : i ≠ k) (h2 : (T i).getLsbD k = true) :
    Ar (w.setCell ⟨g, i, none⟩ (.int .u32 (U (D i ^^^ D k)))) g (Go.Proofs.Ytaablclccklhnaa.clr T D k (i + 1)) := by
  rw [clr_go h1 h2]
  exact h.set i (D i ^^^ D k)
theorem wsum_on {Bt : Nat → BitVec 32} {s : BitVec 32} {n : Nat} (h : s.getLsbD n = true) : wsum Bt s (n + 1) = wsum Bt s n ^^^ Bt n := by
  show (if s.getLsbD n then _ else _) = _; rw [if_pos h]
theorem wsum_off {Bt : Nat → BitVec 32} {s : BitVec 32} {n : Nat} (h : s.getLsbD n = false) : wsum Bt s (n + 1) = wsum Bt s n := by
  show (if s.getLsbD n then _ else _) = _; rw [h]; rfl
theorem lowb_on {s : BitVec 32} {n : Nat} (h : s.getLsbD n = true) : lowb s (n + 1) = lowb s n ^^^ (1#32 <<< n) := by
  show _ ^^^ (if s.getLsbD n then _ else _) = _; rw [if_pos h]
theorem lowb_off {s : BitVec 32} {n : Nat} (h : s.getLsbD n = false) : lowb s (n + 1) = lowb s n := by
  show _ ^^^ (if s.getLsbD n then _ else _) = _; rw [h]; exact BitVec.xor_zero
theorem put4_put4 (xs : List UInt8) (m : Nat) (p q : BitVec 32) (hm : m + 4 ≤ xs.length) : put4 (put4 xs m p) m q = put4 xs m q := by
  have hl : (xs.take m).length = m := by simp; omega
  have h4 : (four p).length = 4 := rfl
  have e1 : (put4 xs m p).take m = xs.take m := by unfold put4; rw [List.append_assoc, List.take_left' hl]
  have e2 : (put4 xs m p).drop (m + 4) = xs.drop (m + 4) := by unfold put4; rw [List.drop_left' (by rw [List.length_append, hl, h4])]
  show (put4 xs m p).take m ++ four q ++ (put4 xs m p).drop (m + 4) = _
  rw [e1, e2]; rfl
theorem xor_want {a b c : BitVec 32} (h : a ^^^ b = c ^^^ b) : a = c := by
  have := congrArg (· ^^^ b) h
  simpa [BitVec.xor_assoc] using this

set_option maxRecDepth 100000 in
set_option maxHeartbeats 4000000 in
theorem rpatch_any (a : Option Addr) (n c : Nat) (xs : List UInt8) (m : Nat) (want : BitVec 32) (w : World) (hn : n ≤ 140737488351232) (hm : m + 4 ≤ n) (h : Sl Bf w a n c xs) :
    Calls Try.prog 33 #[.slice a n c, .int .i64 m, .int .u32 (U want)] w fun e w' => ∃ v q, e = .returned (.tuple #[v, .int .i64 0]) ∧ OwT fB w' w.heap.size 5 v (put4 xs m q) ∧ sum (put4 xs m q) = want ∧ Below w.heap.size w w' := by
  obtain rfl : n = xs.length := h.len.symm
  have g1 : ¬ ((m : Int) < 0) := by omega
  have g2 : ¬ ((xs.length : Int) < 4) := by omega
  have g3 : ¬ ((xs.length : Int) - 4 < m) := by omega
  have H := Lib.hid h; clear h
  go_enter Try.func33, Try.ntmps33
  go_wp2_with (at_builtin; refine wpList_appT eltTB rfl _ _ rfl w.heap.size _ [] (by rfl) (OwT.lit fB _ w.heap.size _ _ [] 0 rfl rfl (Nat.le_refl _) (Nat.zero_le _)) a xs.length c xs (by rfl) (H.out.keep ((Below.refl _ _).alloc (Nat.le_refl _) _)).toT (by unfold maxLen; simp; omega) (by simp; omega) (by simp) _ rfl ?_; intro v5 w5 h5 hg5 hv5 hb5)
  have h5 : OwT fB w5 w.heap.size 5 v5 xs := h5
  obtain ⟨ge, ce, rfl⟩ : ∃ ge ce, v5 = .slice (some ⟨ge, 0, none⟩) xs.length ce := by
    rcases h5 with ⟨_, e0⟩ | ⟨g, cap, ys, rfl, _⟩
    · subst e0; simp at hm
    · exact ⟨g, cap, rfl⟩
  have hb5 : Below w.heap.size w w5 := ((Below.refl _ _).alloc (Nat.le_refl _) _).trans hb5
  have E := Lib.hid h5
  have N := Lib.hid hb5
  clear h5 hg5 hv5 hb5
  go_wp2_with fail
  go_loopw [9] (fun i wr => ∃ k : Nat, k ≤ 4 ∧ i = .int .i64 k ∧ OwT fB wr w.heap.size 5 (.slice (some ⟨ge, 0, none⟩) xs.length ce) (setK xs m 0#32 k) ∧ Below w.heap.size w wr) (fun i _ => 4 - (intOf i).toNat)
  case atStart => exact ⟨0, Nat.zero_le _, rfl, E.out, N.out⟩
  case round =>
    obtain ⟨k, hk, rfl, he, hb⟩ := hrel
    have E2 := Lib.hid he; clear he
    have N2 := Lib.hid hb; clear hb
    by_cases hlt : (k : Int) < 4
    · have hcp := E2.out.capB
      obtain ⟨x, b, o, e, hc, hf⟩ := E2.out.soft (m + k) (by rw [setK_length] at hcp; omega)
      cases e
      rw [Nat.zero_add] at hc hf
      clear hcp
      go_wp2_with fail
      go_roundw
      case rel =>
        have hge := (E2.out.lt ge rfl).1
        obtain ⟨x2, hx2⟩ : ∃ x2, (setK xs m 0#32 k)[m + k]? = some x2 := ⟨_, List.getElem?_eq_getElem (by rw [setK_length]; omega)⟩
        have hset := E2.out.setB (m + k) x2 (by8 0#32 (8 * k)) hx2
        rw [Nat.zero_add] at hset
        have hz : B (by8 0#32 (8 * k)) = 0 := by rw [by8_zero]; rfl
        rw [hz] at hset
        exact ⟨k + 1, by omega, by go_num, hset, N2.out.setCell (p := ⟨ge, m + k, none⟩) hge _⟩
      case measure => simp [intOf]; omega
    · have he3 : OwT fB wr w.heap.size 5 (.slice (some ⟨ge, 0, none⟩) xs.length ce) (put4 xs m 0#32) := by
        have := E2.out
        rw [show k = 4 by omega, setK_put xs m 0#32 hm] at this
        exact this
      have E3 := Lib.hid he3; clear he3 E2
      go_wp2_with fail
      refine (rsum_any _ _ _ (put4 xs m 0#32) _ (by omega) E3.out.slI).mono ?_
      rintro e w' ⟨rfl, rfl⟩
      go_wp2_with fail
      obtain ⟨M, hM⟩ : ∃ M, M = 8 * (xs.drop (m + 4)).length + 32 := ⟨_, rfl⟩
      have HM := Lib.hid hM; clear hM
      have hgl : ge < wr.heap.size := (E3.out.lt ge rfl).2
      have hwa : ∃ wa, wa = wr := ⟨_, rfl⟩
      obtain ⟨wa, rfl⟩ := hwa
      have n1 := Ar.new wa (fun _ => 0#32) _ rfl
      have n2 := Ar.new (wa.alloc (.cells (tcs fun _ => 0#32).toArray 60)) (fun _ => 0#32) _ rfl
      have b1 : Below wa.heap.size wa (wa.alloc (.cells (tcs fun _ => 0#32).toArray 60)) := (Below.refl _ _).alloc (Nat.le_refl _) _
      have b2 : Below wa.heap.size wa ((wa.alloc (.cells (tcs fun _ => 0#32).toArray 60)).alloc (.cells (tcs fun _ => 0#32).toArray 60)) := b1.alloc (by simp) _
      have n1 := n1.keep ((Below.refl _ _).alloc (Nat.le_refl _) (.cells (tcs fun _ => 0#32).toArray 60))
      rw [World.size_alloc] at n2
      have Z1 := Lib.hid n1; clear n1
      have Z2 := Lib.hid n2; clear n2
      have E4 := Lib.hid (E3.out.keep b2)
      have N4 := Lib.hid (keep_trans N2.out b2)
      clear b1 b2 E3
      have hge := (E4.out.lt ge rfl).1
      have lwr := N2.out.size
      go_loopw [13] (fun i wq => ∃ k : Nat, k ≤ 32 ∧ i = .int .i64 k ∧ OwT fB wq w.heap.size 5 (.slice (some ⟨ge, 0, none⟩) xs.length ce) (put4 xs m 0#32) ∧
        Ar wq wa.heap.size (fun i => if i < k then stpN M (1#32 <<< i) else 0#32) ∧ Ar wq (wa.heap.size + 1) (fun i => if i < k then 1#32 <<< i else 0#32) ∧ Below w.heap.size w wq) (fun i _ => 32 - (intOf i).toNat)
      case atStart =>
        have e1 : (fun i => if i < 0 then stpN M (1#32 <<< i) else 0#32) = fun _ => 0#32 := by funext i; rw [if_neg (by omega)]
        have e2 : (fun i => if i < 0 then 1#32 <<< i else 0#32) = fun _ => 0#32 := by funext i; rw [if_neg (by omega)]
        exact ⟨0, Nat.zero_le _, rfl, E4.out, by rw [e1]; exact Z1.out, by rw [e2]; exact Z2.out, N4.out⟩
      case round =>
        obtain ⟨k, hk, rfl, he, ht, hb', hbb⟩ := hrel
        have E5 := Lib.hid he; clear he
        have T5 := Lib.hid ht; clear ht
        have B5 := Lib.hid hb'; clear hb'
        have N5 := Lib.hid hbb; clear hbb
        by_cases hlt : (k : Int) < 32
        · obtain ⟨j, hj⟩ : ∃ j, j = k / 8 := ⟨_, rfl⟩
          obtain ⟨m8, hm8⟩ : ∃ m8, m8 = k % 8 := ⟨_, rfl⟩
          have t1 : (k : Int) / 8 = j := by omega
          have t2 : (k : Int) % 8 = m8 := by omega
          have hj4 : j < 4 := by omega
          have HJ := Lib.hid hj; clear hj
          have HM8 := Lib.hid hm8; clear hm8
          have hcp := E5.out.capB
          obtain ⟨x, b, o, e, hc, hf⟩ := E5.out.soft (m + j) (by rw [put4_length xs m _ hm] at hcp; omega)
          cases e
          rw [Nat.zero_add] at hc hf
          clear hcp
          have hpb := put4_bit xs m k hm (by omega)
          rw [← HJ.out, ← HM8.out] at hpb
          obtain ⟨x2, hx2⟩ : ∃ x2, (put4 xs m 0#32)[m + j]? = some x2 := ⟨_, List.getElem?_eq_getElem (by rw [put4_length xs m _ hm]; omega)⟩
          have hset := E5.out.setB (m + j) x2 (bit8 m8) hx2
          rw [Nat.zero_add, hpb.1, ← B_bit8 m8 (by have := HM8.out; omega)] at hset
          have EX := Lib.hid hset; clear hset hx2
          have TX := Lib.hid (T5.out.other (m + j) (.int .u8 ((2 : Int) ^ m8 % 256)) (g' := ge) (by omega))
          have BX := Lib.hid (B5.out.other (m + j) (.int .u8 ((2 : Int) ^ m8 % 256)) (g' := ge) (by omega))
          have NX := Lib.hid (N5.out.setCell (p := ⟨ge, m + j, none⟩) hge (.int .u8 ((2 : Int) ^ m8 % 256)))
          have hp2 := Lib.hid hpb.2; clear hpb
          have HK := Lib.hid hk; clear hk
          go_wp2_with fail
          refine (rsum_any _ _ _ (put4 xs m (1#32 <<< k)) _ (by omega) EX.out.slI).mono ?_
          rintro e w' ⟨rfl, rfl⟩
          generalize wr.setCell ⟨ge, m + j, none⟩ (.int .u8 ((2 : Int) ^ m8 % 256)) = wx at *
          have r1 := U_xor
          have c1 := TX.out.cell k (by omega)
          have f1 := TX.out.free k
          have c2 := fun v => (BX.out.other k v (g' := wa.heap.size) (by omega)).cell k (by omega)
          have f2 := fun v => (BX.out.other k v (g' := wa.heap.size) (by omega)).free k
          have hcp := EX.out.capB
          obtain ⟨y, b, o, e, hcx, hfx⟩ := EX.out.soft (m + j) (by rw [put4_length xs m _ hm] at hcp; omega)
          cases e
          rw [Nat.zero_add] at hcx hfx
          have c3 : ∀ v v', ((wx.setCell ⟨wa.heap.size, k, none⟩ v).setCell ⟨wa.heap.size + 1, k, none⟩ v').cell? ⟨ge, m + j, none⟩ = some (.int .u8 (B y)) := fun v v' =>
            (World.cell?_setCell_other _ _ _ _ (by intro e; injection e; omega)).trans ((World.cell?_setCell_other _ _ _ _ (by intro e; injection e; omega)).trans hcx)
          have f3 : ∀ v v', ((wx.setCell ⟨wa.heap.size, k, none⟩ v).setCell ⟨wa.heap.size + 1, k, none⟩ v').frozen? ⟨ge, m + j, none⟩ = false := fun v v' =>
            (World.frozen?_setCell _ _ _ _).trans ((World.frozen?_setCell _ _ _ _).trans hfx)
          clear hc hf hcp hcx hfx
          have hkk : (k : Int) < 32 := hlt
          go_wp2_with fail
          go_roundw
          case rel =>
            obtain ⟨y2, hy2⟩ : ∃ y2, (put4 xs m (1#32 <<< k))[m + j]? = some y2 := ⟨_, List.getElem?_eq_getElem (by rw [put4_length xs m _ hm]; omega)⟩
            have hs2 := turn_eq xs m (1#32 <<< k) M HM.out
            rw [hs2, U_one_shl]
            have hE := ((EX.out.otherB k (.int .u32 (U (stpN M (1#32 <<< k)))) (g' := wa.heap.size) (by omega)).otherB k (.int .u32 (U (1#32 <<< k))) (g' := wa.heap.size + 1) (by omega)).setB (m + j) y2 0 hy2
            rw [Nat.zero_add, hp2.out] at hE
            have hT := ((TX.out.set k (stpN M (1#32 <<< k))).other k (.int .u32 (U (1#32 <<< k))) (g' := wa.heap.size + 1) (by omega)).other (m + j) (.int .u8 0) (g' := ge) (by omega)
            rw [upd_next (fun i => stpN M (1#32 <<< i)) k] at hT
            have hB := ((BX.out.other k (.int .u32 (U (stpN M (1#32 <<< k)))) (g' := wa.heap.size) (by omega)).set k (1#32 <<< k)).other (m + j) (.int .u8 0) (g' := ge) (by omega)
            rw [upd_next (fun i => 1#32 <<< i) k] at hB
            exact ⟨k + 1, by omega, by go_num, hE, hT, hB, ((NX.out.setCell (p := ⟨wa.heap.size, k, none⟩) lwr _).setCell (p := ⟨wa.heap.size + 1, k, none⟩) (by show w.heap.size ≤ wa.heap.size + 1; omega) _).setCell (p := ⟨ge, m + j, none⟩) hge _⟩
          case measure => simp [intOf]; omega
        · have hk32 : k = 32 := by omega
          have hT6 : Elim M 0 (fun i => if i < k then stpN M (1#32 <<< i) else 0#32) (fun i => if i < k then 1#32 <<< i else 0#32) :=
            Elim.start M _ _ (fun i hi => by rw [if_pos (by omega)]) (fun i hi => by rw [if_pos (by omega)])
          have H6 := Lib.hid hT6; clear hT6 hk32
          have r1 := U_xor
          clear E4 N4 Z1 Z2
          go_wp2_with fail
          go_loopw [15, 16] (fun s i wq => ∃ (kk : Nat) (T Bt : Nat → BitVec 32), kk ≤ 32 ∧ i = .int .i64 kk ∧ s = .int .u32 (U (lowb (want ^^^ sum (put4 xs m 0#32)) kk)) ∧ Elim M kk T Bt ∧
            OwT fB wq w.heap.size 5 (.slice (some ⟨ge, 0, none⟩) xs.length ce) (put4 xs m 0#32) ∧ Ar wq wa.heap.size T ∧ Ar wq (wa.heap.size + 1) Bt ∧ Below w.heap.size w wq) (fun _ i _ => 32 - (intOf i).toNat)
          case atStart => exact ⟨0, _, _, Nat.zero_le _, rfl, rfl, H6.out, E5.out, T5.out, B5.out, N5.out⟩
          case round =>
            clear H6 E5 T5 B5 N5
            obtain ⟨kk, T, Bt, hkk, rfl, rfl, hel, he, ht, hb', hbb⟩ := hrel
            have EL := Lib.hid hel; clear hel
            have E5 := Lib.hid he; clear he
            have T5 := Lib.hid ht; clear ht
            have B5 := Lib.hid hb'; clear hb'
            have N5 := Lib.hid hbb; clear hbb
            by_cases hlk : (kk : Int) < 32
            · go_wp2_with fail
              obtain ⟨wb, rfl⟩ : ∃ wb, wb = wr := ⟨_, rfl⟩
              go_loopw [17] (fun i wq => ∃ q : Nat, q ≤ 32 ∧ kk ≤ q ∧ i = .int .i64 q ∧ (∀ i, kk ≤ i → i < q → (T i).getLsbD kk = false) ∧ wq = wb) (fun i _ => 32 - (intOf i).toNat)
              case atStart => exact ⟨kk, by omega, Nat.le_refl _, rfl, fun i h1 h2 => absurd h1 (by omega), rfl⟩
              case round =>
                obtain ⟨q, hq, hkq, rfl, hz, hwq⟩ := hrel
                subst hwq
                have HZ := Lib.hid hz; clear hz
                by_cases hq32 : (q : Int) < 32
                · have ct := T5.out.cell q (by omega)
                  by_cases hbit : (T q).getLsbD kk = true
                  · have hb0 := U_bit0 (T q) kk
                    rw [hbit] at hb0
                    have hb0 : (U (T q >>> kk &&& 1#32) == 0) = false := hb0
                    have HBit := Lib.hid hbit; clear hbit
                    have hq3 : ¬ (q : Int) = 32 := by omega
                    have hq4 : ((q : Int) == 32) = false := by simpa using hq3
                    have r7 := U_shr; have r8 := U_and1
                    go_upto_region 28 with (fail)
                    clear r7 r8 hb0
                    have ck := T5.out.cell kk (by omega)
                    have fk := T5.out.free kk
                    have fq := T5.out.free q
                    obtain ⟨zq, c2⟩ : ∃ z, (wr.setCell ⟨wa.heap.size, kk, none⟩ (.int .u32 (U (T q)))).cell? ⟨wa.heap.size, q, none⟩ = some z := ⟨_, (T5.out.set kk (T q)).cell q (by omega)⟩
                    go_region
                    have T6 := T5.out.swp kk q
                    have B6 : Ar ((wr.setCell ⟨wa.heap.size, kk, none⟩ (.int .u32 (U (T q)))).setCell ⟨wa.heap.size, q, none⟩ (.int .u32 (U (T kk)))).drew (wa.heap.size + 1) Bt :=
                      (B5.out.other kk (.int .u32 (U (T q))) (g' := wa.heap.size) (by omega)).other q (.int .u32 (U (T kk))) (g' := wa.heap.size) (by omega)
                    have E6 : OwT fB ((wr.setCell ⟨wa.heap.size, kk, none⟩ (.int .u32 (U (T q)))).setCell ⟨wa.heap.size, q, none⟩ (.int .u32 (U (T kk)))).drew w.heap.size 5 (.slice (some ⟨ge, 0, none⟩) xs.length ce) (put4 xs m 0#32) :=
                      ((E5.out.otherB kk (.int .u32 (U (T q))) (g' := wa.heap.size) (by omega)).otherB q (.int .u32 (U (T kk))) (g' := wa.heap.size) (by omega)).drew
                    have N6 : Below w.heap.size w ((wr.setCell ⟨wa.heap.size, kk, none⟩ (.int .u32 (U (T q)))).setCell ⟨wa.heap.size, q, none⟩ (.int .u32 (U (T kk)))).drew :=
                      ((N5.out.setCell (p := ⟨wa.heap.size, kk, none⟩) lwr _).setCell (p := ⟨wa.heap.size, q, none⟩) lwr _).drew
                    generalize ((wr.setCell ⟨wa.heap.size, kk, none⟩ (.int .u32 (U (T q)))).setCell ⟨wa.heap.size, q, none⟩ (.int .u32 (U (T kk)))).drew = ws at *
                    clear c2 ct ck fk fq T5 B5 E5 N5
                    have T6 := Lib.hid T6
                    have E6 := Lib.hid E6
                    have N6 := Lib.hid N6
                    have cb := B6.cell q (by omega)
                    have cbk := B6.cell kk (by omega)
                    have fb := B6.free q
                    have fbk := B6.free kk
                    obtain ⟨zq, c2⟩ : ∃ z, (ws.setCell ⟨wa.heap.size + 1, kk, none⟩ (.int .u32 (U (Bt q)))).cell? ⟨wa.heap.size + 1, q, none⟩ = some z := ⟨_, (B6.set kk (Bt q)).cell q (by omega)⟩
                    have B6 := Lib.hid B6
                    go_upto_region 29 with (fail)
                    go_region
                    have B7 := B6.out.swp kk q
                    have T7 : Ar ((ws.setCell ⟨wa.heap.size + 1, kk, none⟩ (.int .u32 (U (Bt q)))).setCell ⟨wa.heap.size + 1, q, none⟩ (.int .u32 (U (Bt kk)))).drew wa.heap.size (swp T kk q) :=
                      (T6.out.other kk (.int .u32 (U (Bt q))) (g' := wa.heap.size + 1) (by omega)).other q (.int .u32 (U (Bt kk))) (g' := wa.heap.size + 1) (by omega)
                    have E7 : OwT fB ((ws.setCell ⟨wa.heap.size + 1, kk, none⟩ (.int .u32 (U (Bt q)))).setCell ⟨wa.heap.size + 1, q, none⟩ (.int .u32 (U (Bt kk)))).drew w.heap.size 5 (.slice (some ⟨ge, 0, none⟩) xs.length ce) (put4 xs m 0#32) :=
                      ((E6.out.otherB kk (.int .u32 (U (Bt q))) (g' := wa.heap.size + 1) (by omega)).otherB q (.int .u32 (U (Bt kk))) (g' := wa.heap.size + 1) (by omega)).drew
                    have N7 : Below w.heap.size w ((ws.setCell ⟨wa.heap.size + 1, kk, none⟩ (.int .u32 (U (Bt q)))).setCell ⟨wa.heap.size + 1, q, none⟩ (.int .u32 (U (Bt kk)))).drew :=
                      ((N6.out.setCell (p := ⟨wa.heap.size + 1, kk, none⟩) (by show w.heap.size ≤ wa.heap.size + 1; omega) _).setCell (p := ⟨wa.heap.size + 1, q, none⟩) (by show w.heap.size ≤ wa.heap.size + 1; omega) _).drew
                    generalize ((ws.setCell ⟨wa.heap.size + 1, kk, none⟩ (.int .u32 (U (Bt q)))).setCell ⟨wa.heap.size + 1, q, none⟩ (.int .u32 (U (Bt kk)))).drew = wv at *
                    clear c2 cb cbk fb fbk T6 B6 E6 N6
                    have T7 := Lib.hid T7
                    have B7 := Lib.hid B7
                    have E7 := Lib.hid E7
                    have N7 := Lib.hid N7
                    have hst := EL.out.step (by omega) hkq (by omega) HBit.out
                    have ES := Lib.hid hst; clear hst
                    have hTb : (swp T kk q kk).getLsbD kk = true := by
                      have e : swp T kk q kk = T q := by unfold swp; by_cases e : kk = q <;> simp [e]
                      rw [e]; exact HBit.out
                    have HTb := Lib.hid hTb; clear hTb
                    clear hq3 hq4 HZ EL HBit
                    generalize swp T kk q = T1 at *
                    generalize swp Bt kk q = B1 at *
                    go_wp2_with fail
                    go_loopw [18] (fun i wq => ∃ n : Nat, n ≤ 32 ∧ i = .int .i64 n ∧
                      OwT fB wq w.heap.size 5 (.slice (some ⟨ge, 0, none⟩) xs.length ce) (put4 xs m 0#32) ∧ Ar wq wa.heap.size (clr T1 T1 kk n) ∧ Ar wq (wa.heap.size + 1) (clr T1 B1 kk n) ∧ Below w.heap.size w wq) (fun i _ => 32 - (intOf i).toNat)
                    case atStart => exact ⟨0, Nat.zero_le _, rfl, E7.out, by rw [clr_zero]; exact T7.out, by rw [clr_zero]; exact B7.out, N7.out⟩
                    case round =>
                      clear E7 T7 B7 N7
                      obtain ⟨n, hn2, rfl, he, ht, hb', hbb⟩ := hrel
                      have E5 := Lib.hid he; clear he
                      have T5 := Lib.hid ht; clear ht
                      have B5 := Lib.hid hb'; clear hb'
                      have N5 := Lib.hid hbb; clear hbb
                      by_cases hn32 : (n : Int) < 32
                      · by_cases hnk : (n : Int) = kk
                        · have hnk2 : ((n : Int) == kk) = true := by simpa using hnk
                          have hnk3 : (n == kk) = true := by simp; omega
                          have hnk4 : ((n : Int) != kk) = false := by rw [bne, hnk2]; rfl
                          have hnk5 : (n != kk) = false := by rw [bne, hnk3]; rfl
                          go_wp2_with fail
                          go_roundw
                          case rel =>
                            have hs : ¬ (n ≠ kk ∧ (T1 n).getLsbD kk = true) := fun h => h.1 (by omega)
                            exact ⟨n + 1, by omega, by go_num, E5.out, by rw [clr_stay hs]; exact T5.out, by rw [clr_stay hs]; exact B5.out, N5.out⟩
                          case measure => simp [intOf]; omega
                        · have hnk2 : ((n : Int) == kk) = false := by simpa using hnk
                          have hnk3 : (n == kk) = false := by simp; omega
                          have hnk4 : ((n : Int) != kk) = true := by rw [bne, hnk2]; rfl
                          have hnk5 : (n != kk) = true := by rw [bne, hnk3]; rfl
                          have ct := T5.out.cell n (by omega)
                          rw [clr_self] at ct
                          have hb1 := U_bit (T1 n) kk
                          by_cases hbit : (T1 n).getLsbD kk = true
                          · rw [hbit] at hb1
                            have HB := Lib.hid hbit; clear hbit
                            have r7 := U_shr; have r8 := U_and1
                            have ck := T5.out.cell kk (by omega)
                            rw [clr_k] at ck
                            have fk := T5.out.free kk
                            have fn := T5.out.free n
                            go_upto_region 34 with (fail)
                            clear r7 r8 hb1
                            go_region
                            have T6 := T5.out.clr (by omega) HB.out
                            have B6 := B5.out.other n (.int .u32 (U (T1 n ^^^ T1 kk))) (g' := wa.heap.size) (by omega)
                            have E6 := E5.out.otherB n (.int .u32 (U (T1 n ^^^ T1 kk))) (g' := wa.heap.size) (by omega)
                            have N6 := N5.out.setCell (p := ⟨wa.heap.size, n, none⟩) lwr (.int .u32 (U (T1 n ^^^ T1 kk)))
                            generalize wr.setCell ⟨wa.heap.size, n, none⟩ (.int .u32 (U (T1 n ^^^ T1 kk))) = ws at *
                            clear ct ck fk fn T5 B5 E5 N5
                            have cb := B6.cell n (by omega)
                            rw [clr_self] at cb
                            have cbk := B6.cell kk (by omega)
                            rw [clr_k] at cbk
                            have fb := B6.free n
                            have fbk := B6.free kk
                            have T6 := Lib.hid T6
                            have B6 := Lib.hid B6
                            have E6 := Lib.hid E6
                            have N6 := Lib.hid N6
                            go_upto_region 35 with (fail)
                            go_region
                            go_wp2_with fail
                            go_roundw
                            case rel =>
                              exact ⟨n + 1, by omega, by go_num, (E6.out.otherB n (.int .u32 (U (B1 n ^^^ B1 kk))) (g' := wa.heap.size + 1) (by omega)).drew.drew, T6.out.other n (.int .u32 (U (B1 n ^^^ B1 kk))) (g' := wa.heap.size + 1) (by omega),
                                B6.out.clr (by omega) HB.out, ((N6.out.setCell (p := ⟨wa.heap.size + 1, n, none⟩) (by show w.heap.size ≤ wa.heap.size + 1; omega) (.int .u32 (U (B1 n ^^^ B1 kk))))).drew.drew⟩
                            case measure => simp [intOf]; omega
                          · have hbit := eq_false_of_ne_true hbit
                            rw [hbit] at hb1
                            have HB := Lib.hid hbit; clear hbit
                            have r7 := U_shr; have r8 := U_and1
                            go_wp2_with fail
                            go_roundw
                            case rel =>
                              have hs : ¬ (n ≠ kk ∧ (T1 n).getLsbD kk = true) := fun h => by rw [HB.out] at h; cases h.2
                              exact ⟨n + 1, by omega, by go_num, E5.out, by rw [clr_stay hs]; exact T5.out, by rw [clr_stay hs]; exact B5.out, N5.out⟩
                            case measure => simp [intOf]; omega
                      · have e32 : n = 32 := by omega
                        rw [e32] at T5 B5
                        have hb1 := U_bit (want ^^^ sum (put4 xs m 0#32)) kk
                        have hsz := U_one_shl kk
                        by_cases hbit : (want ^^^ sum (put4 xs m 0#32)).getLsbD kk = true
                        · rw [hbit] at hb1
                          have HB := Lib.hid hbit; clear hbit e32
                          have r7 := U_shr; have r8 := U_and1
                          go_wp2_with fail
                          go_roundw
                          case rel =>
                            exact ⟨kk + 1, _, _, by omega, by go_num, by rw [lowb_on HB.out], ES.out, E5.out, T5.out, B5.out, N5.out⟩
                          case measure => simp [intOf]; omega
                        · have hbit := eq_false_of_ne_true hbit
                          rw [hbit] at hb1
                          have HB := Lib.hid hbit; clear hbit e32
                          have r7 := U_shr; have r8 := U_and1
                          go_wp2_with fail
                          go_roundw
                          case rel =>
                            exact ⟨kk + 1, _, _, by omega, by go_num, by rw [lowb_off HB.out], ES.out, E5.out, T5.out, B5.out, N5.out⟩
                          case measure => simp [intOf]; omega
                  · have hbit := eq_false_of_ne_true hbit
                    have hb0 := U_bit0 (T q) kk
                    rw [hbit] at hb0
                    have hb0 : (U (T q >>> kk &&& 1#32) == 0) = true := hb0
                    have HBit := Lib.hid hbit; clear hbit
                    have r7 := U_shr; have r8 := U_and1
                    go_wp2_with fail
                    go_roundw
                    case rel => exact ⟨q + 1, by omega, by omega, by go_num, next_zero HZ.out HBit.out, trivial⟩
                    case measure => simp [intOf]; omega
                · exfalso
                  obtain ⟨p, h1, h2, h3⟩ := pivot (by omega) EL.out.unit EL.out.span
                  have := HZ.out p h1 (by omega)
                  rw [this] at h3; cases h3
            · have ekk : kk = 32 := by omega
              have EL2 : Elim M 32 T Bt := by have := EL.out; rwa [ekk] at this
              have hs1 : lowb (want ^^^ sum (put4 xs m 0#32)) kk = want ^^^ sum (put4 xs m 0#32) := by rw [ekk, lowb_all]
              have EL3 := Lib.hid EL2; clear EL2
              have HS1 := Lib.hid hs1; clear hs1 ekk EL
              generalize lowb (want ^^^ sum (put4 xs m 0#32)) kk = sv at *
              go_wp2_with fail
              obtain ⟨wb, rfl⟩ : ∃ wb, wb = wr := ⟨_, rfl⟩
              go_loopw [19, 20] (fun s i wq => ∃ n : Nat, n ≤ 32 ∧ i = .int .i64 n ∧ s = .int .u32 (U (wsum Bt sv n)) ∧ wq = wb) (fun _ i _ => 32 - (intOf i).toNat)
              case atStart => exact ⟨0, Nat.zero_le _, rfl, rfl, rfl⟩
              case round =>
                obtain ⟨n, hn2, rfl, rfl, hwq⟩ := hrel
                subst hwq
                by_cases hn32 : (n : Int) < 32
                · have cb := B5.out.cell n (by omega)
                  have hb1 := U_bit sv n
                  by_cases hbit : sv.getLsbD n = true
                  · rw [hbit] at hb1
                    have HB := Lib.hid hbit; clear hbit
                    have r7 := U_shr; have r8 := U_and1
                    go_wp2_with fail
                    go_roundw
                    case rel => exact ⟨n + 1, by omega, by go_num, by rw [wsum_on HB.out], trivial⟩
                    case measure => simp [intOf]; omega
                  · have hbit := eq_false_of_ne_true hbit
                    rw [hbit] at hb1
                    have HB := Lib.hid hbit; clear hbit
                    have r7 := U_shr; have r8 := U_and1
                    go_wp2_with fail
                    go_roundw
                    case rel => exact ⟨n + 1, by omega, by go_num, by rw [wsum_off HB.out], trivial⟩
                    case measure => simp [intOf]; omega
                · have hend : sum (put4 xs m (wsum Bt sv n)) = want := by
                    have e32 : n = 32 := by omega
                    have h1 := turn_eq xs m (wsum Bt sv n) M HM.out
                    rw [e32, EL3.out.ends sv 32 (Nat.le_refl _), lowb_all] at h1
                    rw [e32]
                    exact xor_want (h1.trans HS1.out)
                  generalize wsum Bt sv n = q at *
                  have HE := Lib.hid hend; clear hend EL3 HS1 T5 B5
                  have hE5 := E5.out
                  have h4 : (put4 xs m 0#32).length = xs.length := put4_length xs m _ hm
                  rcases hE5 with ⟨hv, _⟩ | ⟨g, cap, ys, hv, hbg, hg, hyl, hxc, hcm, hyx⟩
                  · cases hv
                  · rw [h4] at hv
                    cases hv
                    rw [flat_fB] at hg
                    rw [h4] at hxc hyx
                    have hc2 := fun (W : World) => run_cutfrom eltB W (some ⟨ge, 0, none⟩) xs.length ce .i64 m (by omega)
                    rw [adv_in ge ce m (by omega)] at hc2
                    have HG := Lib.hid hg
                    have HX := Lib.hid hyx; clear hyx
                    have gl : ge < wr.heap.size := (Array.getElem?_eq_some_iff.1 hg).1
                    clear hg
                    have lwq : w.heap.size ≤ wr.heap.size := N5.out.size
                    go_upto_region 44 with (fail)
                    go_region_law (first
                      | (go_simp; go_at_call 39; refine (rfour_any _ wr.drew).mono ?_; rintro e w3 ⟨v3, rfl, h3, hb3⟩; have h3 : OwT fB w3 wr.heap.size 5 v3 (four q) := h3; obtain ⟨a3, c3, rfl, hs3⟩ := h3.slB; have HB3 := Lib.hid hb3; have HS3 := Lib.hid hs3; clear h3 hs3 hb3)
                      | (refine step_copy_splice rfl (.tmp 180) (.tmp 182) 22 22 rfl 5 Try.underlying22 (by kernel_rfl) (some ⟨ge, m, none⟩) a3 (xs.length - m) (ce - m) (four q).length c3 (by simp [Act.eval]) (by simp [Act.eval]) ge m (ys.map Bf) 5 ((HB3.out.block ge gl).trans HG.out) ((four q).map Bf) (copy_len q hm) (fun _ => ⟨rfl, src_some HS3.out (by simp [four_len q])⟩) (by simp [four_len q]; omega) (bf_one _) w.heap.size w (N5.out.drew.trans (HB3.out.mono lwq)) hbg ?_; intro w5 h5 hb5))
                    all_goals go_wp2_with fail
                    all_goals go_ret2
                    all_goals exact ⟨_, rfl, q, by have := OwT.splice4 (e := 5) (xs := put4 xs m 0#32) (q := q) h5.out hbg hyl (by rw [h4]; exact HX.out) (by rw [h4]; exact hxc) hcm (by rw [h4]; exact hm); rw [h4, put4_put4 xs m _ _ hm] at this; exact this, HE.out, hb5⟩
end Go.Proofs.Ytaablclccklhnaa

/- CrcBursts: the walk: the law's Go text returns true and writes nothing that was there. Conditions: the slice within reach. -/
import Derived.Test.YtaablclccklhnaaCrcSeals
import Derived.Test.YtaablclccklhnaaCrcBurstM
import Derived.StillTailTactics
namespace Go.Proofs.Ytaablclccklhnaa
open Go.RowKit

theorem pick_any (n m : Int) (w : World) (h0 : 1 ≤ m) (h1 : m ≤ 9223372036854775807) (h2 : -9223372036854775808 ≤ n) (h3 : n ≤ 9223372036854775807) :
    Calls Try.prog 31 #[.int .i64 n, .int .i64 m] w fun e w' => ∃ p : Nat, e = .returned (.int .i64 p) ∧ (p : Int) < m ∧ w = w' := by
  have b1 : n.tmod m < m := Int.tmod_lt_of_pos n (by omega)
  have b2 : -m < n.tmod m := by
    have := Int.tmod_lt_of_pos (-n) (show 0 < m by omega)
    rw [Int.neg_tmod] at this; omega
  have hm0 : (m == 0) = false := by simp; omega
  obtain ⟨q, hq⟩ : ∃ q, n.tmod m = q := ⟨_, rfl⟩
  have hq2 : 0 ≤ n → n % m = q := fun h => by rw [← hq, Int.tmod_eq_emod_of_nonneg h]
  rw [hq] at b1 b2
  by_cases hn : 0 ≤ n
  · have hq3 := hq2 hn
    have hq0 : 0 ≤ q := by rw [← hq3]; exact Int.emod_nonneg _ (by omega)
    obtain ⟨p, rfl⟩ := Int.eq_ofNat_of_zero_le hq0
    clear hq hq2
    go_enter Try.func31, Try.ntmps31
    go_wp2_with fail
    go_ret
    exact ⟨p, ret_int hq3, b1, rfl⟩
  · clear hq2
    by_cases hq0 : q < 0
    · obtain ⟨p, hp⟩ := Int.eq_ofNat_of_zero_le (show 0 ≤ q + m by omega)
      go_enter Try.func31, Try.ntmps31
      go_wp2_with fail
      go_ret
      exact ⟨p, rfl, by omega, rfl⟩
    · obtain ⟨p, rfl⟩ := Int.eq_ofNat_of_zero_le (show 0 ≤ q by omega)
      go_enter Try.func31, Try.ntmps31
      go_wp2_with fail
      go_ret
      exact ⟨p, rfl, by omega, rfl⟩

theorem OwT.setB {w : World} {base : Nat} {e : TypeId} {g o n c : Nat} {xs : List UInt8} (h : OwT fB w base e (.slice (some ⟨g, o, none⟩) n c) xs) (k : Nat) (x y : UInt8) (hx : xs[k]? = some x) :
    OwT fB (w.setCell ⟨g, o + k, none⟩ (.int .u8 (B y))) base e (.slice (some ⟨g, o, none⟩) n c) (xs.set k y) := by
  rcases h with ⟨hv, _⟩ | ⟨g', cap, ys, hv, hg, hh, hl, hn, hc, ht⟩
  · cases hv
  · cases hv
    have hk : k < xs.length := (List.getElem?_eq_some_iff.1 hx).1
    refine .inr ⟨g, c, ys.set k y, by rw [List.length_set], hg, ?_, by rw [List.length_set]; exact hl, by rw [List.length_set]; exact hn, hc, ?_⟩
    · have hlt : g < w.heap.size := (Array.getElem?_eq_some_iff.1 hh).1
      simp only [World.setCell, Array.getElem?_modify, if_true]
      rw [hh]
      simp only [Option.map_some, Nat.zero_add]
      congr 2
      rw [flat_fB, flat_fB]
      simp [List.map_set]
    · rw [List.length_set, List.take_set, ht]

def Burst (w wr : World) (av : Option Addr) (nv cv : Nat) (xs : List UInt8) (bits : BitVec 32) (m k tn : Nat) : Prop :=
  ∃ L : List UInt8, OwT fB wr w.heap.size 5 (.slice av nv cv) L ∧ L.length = xs.length + 4 ∧ inn ones L = stpN 32 ones ^^^ stpN m (wbits bits m k) ∧
    (tn = 0 → L = xs ++ four (sum xs)) ∧ (0 < tn → wbits bits m k ≠ 0#32) ∧ Below w.heap.size w wr

theorem B_bit8 (k : Nat) (h : k < 8) : (2 : Int) ^ k % 256 = B (bit8 k) := by
  have : ∀ k : Fin 8, (2 : Int) ^ k.val % 256 = B (bit8 k.val) := by decide +kernel
  exact this ⟨k, h⟩

theorem Burst.turn {w wr : World} {b o nv cv : Nat} {xs : List UInt8} {bt : BitVec 32} {p k tn j m8 : Nat} {x : UInt8} (h : Burst w wr (some ⟨b, o, none⟩) nv cv xs bt (8 * nv - p) k tn)
    (hnv : nv = xs.length + 4) (hp : p + k < 8 * nv) (hk : k < 32) (hbit : bt.getLsbD k = true) (hj : j = (p + k) / 8) (hm8 : m8 = (p + k) % 8) (hc : wr.cell? ⟨b, o + j, none⟩ = some (.int .u8 (B x))) :
    Burst w ((wr.setCell ⟨b, o + j, none⟩ (.int .u8 (bits .xor .u8 (B x) ((2 : Int) ^ m8 % 256)))).drew) (some ⟨b, o, none⟩) nv cv xs bt (8 * nv - p) (k + 1) (tn + 1) := by
  obtain ⟨L, hO, hL, hin, ht0, ht1, hbel⟩ := h
  have hjn : j < nv := by omega
  obtain ⟨x2, b2, o2, hx, e, hc2⟩ := hO.slI.at j hjn
  cases e
  have hxx : x = x2 := by
    rw [hc] at hc2
    have := Option.some.inj hc2
    injection this with _ h2
    exact B_inj h2
  subst hxx
  have hlt : b < wr.heap.size := cell_lt hc
  have hbb : w.heap.size ≤ b := (hO.lt b rfl).1
  rw [B_bit8 m8 (by omega), B_xor]
  refine ⟨L.set j (x ^^^ bit8 m8), (hO.setB j x _ hx).drew, by rw [List.length_set, hL], ?_, fun h0 => by omega, fun _ => ?_, (hbel.setCell hbb _).drew⟩
  · have hx' : L[(p + k) / 8]? = some x := by rw [← hj]; exact hx
    have e1 : L.set j (x ^^^ bit8 m8) = flip L (p + k) := by rw [flip_set L (p + k) x hx', hj, hm8]
    rw [e1, inn_flip L (p + k) ones (by omega), hin]
    have e2 : 8 * L.length - (p + k) = (8 * nv - p) - k := by omega
    rw [e2, stpN_down (8 * nv - p) k hk (by omega), BitVec.xor_assoc, ← stpN_xor]
    congr 2
    show _ = (if k < 8 * nv - p ∧ bt.getLsbD k = true then _ else _)
    rw [if_pos ⟨by omega, hbit⟩]
  · show (if k < 8 * nv - p ∧ bt.getLsbD k = true then _ else _) ≠ 0#32
    rw [if_pos ⟨by omega, hbit⟩]
    exact wbits_ne _ _ _ hk

theorem Burst.pass {w wr : World} {a : Option Addr} {nv cv : Nat} {xs : List UInt8} {bt : BitVec 32} {m k tn : Nat} (h : Burst w wr a nv cv xs bt m k tn) (hbit : bt.getLsbD k = false) :
    Burst w wr a nv cv xs bt m (k + 1) tn := by
  have e : wbits bt m (k + 1) = wbits bt m k := by
    show (if k < m ∧ bt.getLsbD k = true then _ else _) = _
    rw [if_neg (by simp [hbit])]
  obtain ⟨L, h1, h2, h3, h4, h5, h6⟩ := h
  exact ⟨L, h1, h2, by rw [e]; exact h3, h4, fun h => by rw [e]; exact h5 h, h6⟩

theorem Burst.ends {w wr : World} {a : Option Addr} {nv cv : Nat} {xs : List UInt8} {bt : BitVec 32} {m k tn : Nat} (h : Burst w wr a nv cv xs bt m k tn) :
    ∃ L, OwT fB wr w.heap.size 5 (.slice a nv cv) L ∧ L.length = xs.length + 4 ∧ Below w.heap.size w wr ∧ (tn = 0 → openE L = 0 ∧ openV L = xs) ∧ (0 < tn → openE L = 22 ∧ openV L = []) := by
  obtain ⟨L, h1, h2, h3, h4, h5, h6⟩ := h
  refine ⟨L, h1, h2, h6, fun h0 => by rw [h4 h0]; exact open_seal xs, fun h0 => ?_⟩
  have hne : ¬ (inn ones L = stpN 32 ones) := by
    rw [h3]
    intro e
    have e2 : stpN m (wbits bt m k) = 0#32 := by
      have := congrArg (fun z => stpN 32 ones ^^^ z) e
      simp only [← BitVec.xor_assoc, BitVec.xor_self, BitVec.zero_xor] at this
      exact this
    exact h5 h0 (stpN_eq_zero m e2)
  have hq := mt (seal_iff L xs.length h2).1 hne
  have h4 : ¬ (xs.length + 4 < 4) := by omega
  unfold openE openV
  rw [h2, if_neg h4, if_neg h4, show xs.length + 4 - 4 = xs.length by omega, if_neg hq, if_neg hq]
  exact ⟨rfl, rfl⟩

theorem Burst.start {w w2 : World} {a : Option Addr} {nv cv : Nat} {xs : List UInt8} {bt : BitVec 32} {m : Nat} (h : OwT fB w2 w.heap.size 5 (.slice a nv cv) (xs ++ four (sum xs))) (hb : Below w.heap.size w w2) :
    Burst w w2 a nv cv xs bt m 0 0 := by
  have hl : (xs ++ four (sum xs)).length = xs.length + 4 := by rw [List.length_append, four_length]
  refine ⟨_, h, hl, ?_, fun _ => rfl, fun h => by omega, hb⟩
  have := (seal_iff (xs ++ four (sum xs)) xs.length hl).1 (by simp)
  rw [this]
  show _ = stpN 32 ones ^^^ stpN m 0#32
  rw [stpN_zero]; simp

set_option maxHeartbeats 1000000 in
set_option maxRecDepth 100000 in
theorem crcBursts_walk (a : Option Addr) (n c : Nat) (xs : List UInt8) (ai : Int) (bt : BitVec 32) (w : World) (hn : n ≤ 140737488351232) (ha : -9223372036854775808 ≤ ai ∧ ai ≤ 9223372036854775807) (h : Sl Bf w a n c xs) :
    Calls Try.prog 7 #[.slice a n c, .int .i64 ai, .int .u32 (U bt)] w fun e w' => e = .returned (.bool true) ∧ Below w.heap.size w w' := by
  obtain rfl : n = xs.length := h.len.symm
  have H := Lib.hid h; clear h
  have HA := Lib.hid ha; clear ha
  have r1 := U_shr; have r2 := U_and1
  go_enter Try.func7, Try.ntmps7
  go_wp2_with fail
  refine (lives_any _).mono ?_
  rintro e w1 ⟨rfl, hb⟩
  have G := Lib.hid hb; clear hb
  have lw1 := G.out.size
  go_wp2_with fail
  refine (seal_any _ _ _ xs _ (by omega) (H.out.keep G.out)).mono ?_
  rintro e w2 ⟨v, rfl, hs, hb⟩
  replace G := Lib.hid (keep_trans G.out hb)
  obtain ⟨av, nv, cv, rfl, zv⟩ := hs.slN
  have hnv : nv = xs.length + 4 := by rw [← zv.len, List.length_append, four_length]
  have hs := hs.base lw1
  have HS := Lib.hid hs; clear hs
  have hne : ((nv : Int) != (xs.length : Int) + 4) = false := by rw [hnv]; simp
  have hnv2 : (nv : Int) ≤ 140737488351236 := by omega
  have N := Lib.hid hnv; clear hnv
  clear hb zv lw1
  go_wp2_with fail
  refine (pick_any _ _ _ (by have := N.out; omega) (by have := N.out; omega) HA.out.1 HA.out.2).mono ?_
  rintro e w' ⟨p, rfl, hp, rfl⟩
  go_wp2_with fail
  go_loopw [10, 11] (fun t i wr => ∃ k tn : Nat, k ≤ 32 ∧ i = .int .i64 k ∧ t = .int .i64 tn ∧ tn ≤ k ∧ Burst w wr av nv cv xs bt (8 * nv - p) k tn) (fun _ i _ => 32 - (intOf i).toNat)
  case atStart => exact ⟨0, 0, Nat.zero_le _, rfl, rfl, Nat.le_refl _, Burst.start HS.out G.out⟩
  case round =>
    obtain ⟨k, tn, hk, rfl, rfl, htn, hB⟩ := hrel
    have HB := Lib.hid hB; clear hB
    have n4 := N.out
    have N4 : (nv : Int) = xs.length + 4 := by omega
    have N5 := Lib.hid N4; clear n4 N4
    by_cases h1 : (k : Int) < 32 ∧ (p : Int) + k < 8 * nv
    · obtain ⟨h1, h2⟩ := h1
      have hb8 := U_bit bt k
      by_cases hbit : bt.getLsbD k = true
      · rw [hbit] at hb8
        have HBT := Lib.hid hbit; clear hbit
        obtain ⟨L, hO, hL, hin, ht0, ht1, hbel⟩ := HB.out
        obtain ⟨j, hj⟩ : ∃ j, j = (p + k) / 8 := ⟨_, rfl⟩
        obtain ⟨m8, hm8⟩ : ∃ m8, m8 = (p + k) % 8 := ⟨_, rfl⟩
        have hjn : j < nv := by omega
        obtain ⟨x, b, o, hx, rfl, hc⟩ := hO.slI.at j hjn
        have hc : wr.cell? ⟨b, o + j, none⟩ = some (.int .u8 (B x)) := hc
        obtain ⟨x', b', o', e', hc', hf⟩ := hO.soft j (by have := hO.capB; omega)
        cases e'
        clear hc' ht0 ht1 hin hO hL hbel
        have HX := Lib.hid hx; clear hx
        have q1 : (j : Int) < nv := by omega
        have q3 : (m8 : Int) < 8 := by omega
        have t1 : IntKind.i64.wrap ((p : Int) + k) = p + k := IntWalk.i64_in _ (by omega)
        have t2 : ((p : Int) + k).tdiv 8 = j := by rw [Int.tdiv_eq_ediv_of_nonneg (by omega)]; omega
        have t3 : IntKind.i64.wrap (j : Int) = j := IntWalk.i64_in _ (by omega)
        have t4 : ((p : Int) + k).tmod 8 = m8 := by rw [Int.tmod_eq_emod_of_nonneg (by omega)]; omega
        have t5 : ((p : Int) + k) / 8 = j := by omega
        have t6 : ((p : Int) + k) % 8 = m8 := by omega
        have HJ := Lib.hid hj; clear hj
        have HM := Lib.hid hm8; clear hm8
        go_wp2_with fail
        clear hb8 r1 r2
        go_still_tail 19, (by kernel_rfl)
        change wpList _ _ _ _ _ wr.drew
        go_wp2_with fail
        go_roundw
        case rel => exact ⟨k + 1, tn + 1, by omega, by go_num, by go_num, by omega, HB.out.turn N.out (by omega) (by omega) HBT.out HJ.out HM.out hc⟩
        case measure => simp [intOf]; omega
      · have hbit := eq_false_of_ne_true hbit
        rw [hbit] at hb8
        go_wp2_with fail
        go_roundw
        case rel => exact ⟨k + 1, tn, by omega, by go_num, rfl, by omega, HB.out.pass hbit⟩
        case measure => simp [intOf]; omega
    · by_cases h2 : (k : Int) < 32
      · have h3 : ¬ ((p : Int) + k < 8 * nv) := fun h => h1 ⟨h2, h⟩
        clear h1
        obtain ⟨L, hO, hL, hbel, hz0, hz1⟩ := HB.out.ends
        have K := Lib.hid hbel; clear hbel
        have O := Lib.hid hO; clear hO
        by_cases htz : tn = 0
        · have htz2 : ((tn : Int) == 0) = true := by simp; omega
          obtain ⟨he, hv⟩ := hz0 htz
          have HE := Lib.hid he; have HV := Lib.hid hv
          clear hz0 hz1 htz he hv hL
          go_wp2_with fail
          refine (open_any _ _ _ L _ (by omega) O.out.slI).mono ?_
          rintro e w4 ⟨v4, rfl, h4, hb⟩
          rw [HE.out]
          rw [HV.out] at h4
          obtain ⟨a4, n4, c4, rfl, z4⟩ := h4.slN
          have Z4 := Lib.hid z4; clear z4 h4
          replace K := Lib.hid (keep_trans K.out hb); clear hb
          go_wp2_with fail
          refine (same_any _ _ _ _ _ _ _ _ _ (by have := Z4.out.len; omega) (by omega) Z4.out (H.out.keep K.out)).mono ?_
          rintro e w5 ⟨rfl, hb⟩
          replace K := Lib.hid (keep_trans K.out hb); clear hb
          go_wp2_with fail
          go_ret
          exact ⟨ret_bool (by simp), K.out⟩
        · have htz2 : ((tn : Int) == 0) = false := by simp; omega
          obtain ⟨he, hv⟩ := hz1 (by omega)
          have HE := Lib.hid he; have HV := Lib.hid hv
          clear hz0 hz1 htz he hv hL
          go_wp2_with fail
          refine (open_any _ _ _ L _ (by omega) O.out.slI).mono ?_
          rintro e w4 ⟨v4, rfl, h4, hb⟩
          rw [HE.out]
          rw [HV.out] at h4
          obtain ⟨a4, n4, c4, rfl, z4⟩ := h4.slN
          have z5 : n4 = 0 := z4.len.symm
          subst z5
          clear z4 h4
          replace K := Lib.hid (keep_trans K.out hb); clear hb
          go_wp2_with fail
          go_ret
          exact ⟨ret_bool (by simp), K.out⟩
      · clear h1
        obtain ⟨L, hO, hL, hbel, hz0, hz1⟩ := HB.out.ends
        have K := Lib.hid hbel; clear hbel
        have O := Lib.hid hO; clear hO
        by_cases htz : tn = 0
        · have htz2 : ((tn : Int) == 0) = true := by simp; omega
          obtain ⟨he, hv⟩ := hz0 htz
          have HE := Lib.hid he; have HV := Lib.hid hv
          clear hz0 hz1 htz he hv hL
          go_wp2_with fail
          refine (open_any _ _ _ L _ (by omega) O.out.slI).mono ?_
          rintro e w4 ⟨v4, rfl, h4, hb⟩
          rw [HE.out]
          rw [HV.out] at h4
          obtain ⟨a4, n4, c4, rfl, z4⟩ := h4.slN
          have Z4 := Lib.hid z4; clear z4 h4
          replace K := Lib.hid (keep_trans K.out hb); clear hb
          go_wp2_with fail
          refine (same_any _ _ _ _ _ _ _ _ _ (by have := Z4.out.len; omega) (by omega) Z4.out (H.out.keep K.out)).mono ?_
          rintro e w5 ⟨rfl, hb⟩
          replace K := Lib.hid (keep_trans K.out hb); clear hb
          go_wp2_with fail
          go_ret
          exact ⟨ret_bool (by simp), K.out⟩
        · have htz2 : ((tn : Int) == 0) = false := by simp; omega
          obtain ⟨he, hv⟩ := hz1 (by omega)
          have HE := Lib.hid he; have HV := Lib.hid hv
          clear hz0 hz1 htz he hv hL
          go_wp2_with fail
          refine (open_any _ _ _ L _ (by omega) O.out.slI).mono ?_
          rintro e w4 ⟨v4, rfl, h4, hb⟩
          rw [HE.out]
          rw [HV.out] at h4
          obtain ⟨a4, n4, c4, rfl, z4⟩ := h4.slN
          have z5 : n4 = 0 := z4.len.symm
          subst z5
          clear z4 h4
          replace K := Lib.hid (keep_trans K.out hb); clear hb
          go_wp2_with fail
          go_ret
          exact ⟨ret_bool (by simp), K.out⟩

end Go.Proofs.Ytaablclccklhnaa

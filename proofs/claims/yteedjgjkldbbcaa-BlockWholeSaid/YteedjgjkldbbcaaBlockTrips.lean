/- BlockTrips: the walk. Conditions: the texts within reach. -/
import Derived.Test.YteedjgjkldbbcaaBlockLives
import Derived.Test.YteedjgjkldbbcaaBlockBuild
import Derived.Test.YteedjgjkldbbcaaBlockRead
import Derived.Test.YteedjgjkldbbcaaBlockTripsM
namespace Go.Proofs.Yteedjgjkldbbcaa
open Go.RowKit
set_option linter.unusedVariables false

theorem bbuild_len2 (es : List Ent) : (bbuild es).1.length ≤ 23000 := by
  by_cases hc : es.length < 1 ∨ 64 < es.length
  · rw [bbuild_count hc]; exact Nat.zero_le _
  · by_cases hz : (srt es).2 = 0
    · rw [bbuild_ok hc hz]
      have hb := bst_le es (srt_okay hz)
      show (bld es).length ≤ _
      rw [bld_some (by intro e; subst e; simp at hc), vb_lt (show es.length < 128 by omega)]
      simp only [List.length_append, List.length_cons, List.length_nil]
      omega
    · rw [bbuild_srt hc hz]; exact Nat.zero_le _
theorem okay_fit {l : List Ent} (h : Okay l) : Fit 140737488351232 l := fun e he => by
  have := chk_zero (h e he)
  exact ⟨by omega, by omega⟩
theorem bbuild_zero {es : List Ent} (h : (bbuild es).2.1 = 0) : ¬ (es.length < 1 ∨ 64 < es.length) ∧ (srt es).2 = 0 ∧ bbuild es = (bld es, 0, 0) := by
  by_cases hc : es.length < 1 ∨ 64 < es.length
  · rw [bbuild_count hc] at h; cases h
  · by_cases hz : (srt es).2 = 0
    · exact ⟨hc, hz, bbuild_ok hc hz⟩
    · rw [bbuild_srt hc hz] at h; exact absurd h hz
set_option maxHeartbeats 4000000 in
set_option maxRecDepth 100000 in
theorem blockTrips_walk (a : Option Addr) (n c : Nat) (es : List Ent) (ab : Option Addr) (nb cb : Nat) (b : List UInt8) (w : World) (hn : n ≤ 2932031007317) (hf : Fit 140737488351232 es) (hnb : nb ≤ 140737488351232) (h : Ents w a n c es) (hB : Sl Bf w ab nb cb b) :
    Calls Try.prog 7 #[.slice a n c, .slice ab nb cb] w fun e w' => e = .returned (.bool true) ∧ Below w.heap.size w w' := by
  obtain rfl : n = es.length := h.1.symm
  obtain rfl : b.length = nb := hB.len
  have HF := Lib.hid hf
  have G := Lib.hid (Below.refl w.heap.size w)
  have H := Lib.hid h
  have B := Lib.hid hB
  have hl := bbuild_len2 es
  clear hf h hB
  go_enter Try.func7, Try.ntmps7
  go_wp2_with fail
  refine (lives_any _).mono ?_
  rintro e w1 ⟨rfl, hb⟩
  replace G := Lib.hid (keep_trans G.out hb)
  clear hb
  go_wp2_with fail
  refine (bbuild_any a es.length c es w1 hn HF.out (H.out.keep G.out)).mono ?_
  rintro e w2 ⟨vs, rfl, ho, hb⟩
  obtain ⟨aS, ns, cs, rfl, zs⟩ := ho.slN
  replace G := Lib.hid (keep_trans G.out hb)
  have ZS := Lib.hid zs
  clear ho zs hb
  rcases Classical.em ((bbuild es).2.1 = 0) with hz | hz
  case' inl =>
    obtain ⟨hc, hs, he⟩ := bbuild_zero hz
    rw [he] at hl ZS
    dsimp only at hl
    have hns : ns ≤ 23000 := by have : (bld es).length = ns := ZS.out.len; omega
    have hbr := bread_of hc hs []
    rw [List.append_nil, if_pos rfl] at hbr
    have HBR := Lib.hid hbr
    have t1 : (((bbuild es).2.1 : Int) == 0) = true := by rw [beq_iff_eq]; omega
    have t1' : ((bbuild es).2.1 == 0) = true := by rw [beq_iff_eq]; exact hz
    have t5 : decide ((ns : Int) > 65535) = false := decide_eq_false (by omega)
    have t5' : decide (65535 < ns) = false := decide_eq_false (by omega)
    clear hz hc hs he hbr hl
    go_wp2_with fail
    refine (bread_any aS ns cs (bld es) w2 (by omega) ZS.out).mono ?_
    rintro e w3 ⟨hb, y, vs, rfl, hL⟩
    rw [HBR.out] at hL
    rw [HBR.out]
    obtain ⟨ay, cy, rfl, hE⟩ := hL.ents
    have E3 := Lib.hid hE
    replace G := Lib.hid (keep_trans G.out hb)
    clear hL hE hb
    go_wp2_with fail
    have HS := sameAll_any ay es.length cy a es.length c es es w3 (by omega) (by omega) E3.out (H.out.keep G.out)
    rw [decide_eq_true rfl] at HS
    refine HS.mono ?_
    rintro e wA ⟨rfl, hb⟩
    replace G := Lib.hid (keep_trans G.out hb)
    clear hb HS
    go_wp2_with fail
  case' inr =>
    have t1 : (((bbuild es).2.1 : Int) == 0) = false := by rw [beq_eq_false_iff_ne]; omega
    have t1' : ((bbuild es).2.1 == 0) = false := by rw [beq_eq_false_iff_ne]; exact hz
    clear hz hl
    obtain ⟨wA, hwA⟩ : ∃ wA, w2 = wA := ⟨_, rfl⟩
    subst hwA
    go_wp2_with fail
  all_goals
    refine (bread_any ab b.length cb b _ (by omega) (B.out.keep G.out)).mono ?_
    rintro e w5 ⟨hb, y, vs, rfl, hL⟩
    replace G := Lib.hid (keep_trans G.out hb)
    obtain ⟨⟨l2, q2, e2⟩, hR⟩ : ∃ X, bread b = X := ⟨_, rfl⟩
    rw [hR] at hL ⊢
    obtain ⟨ay2, cy2, rfl, hE⟩ := hL.ents
    have E5 := Lib.hid hE
    clear hL hE hb
    by_cases hz2 : e2 = 0
    · subst hz2
      obtain ⟨k1, k2, k3⟩ := bread_back (by omega) hR
      have hfit := okay_fit (srt_okay k2)
      have hbb : bbuild l2 = (b, 0, 0) := by rw [bbuild_ok k1 k2, k3]
      have hl2 : l2.length ≤ 64 := by omega
      clear k1 k2 k3 hR
      go_wp2_with fail
      have HB2 := bbuild_any ay2 l2.length cy2 l2 w5 (by omega) hfit E5.out
      rw [hbb] at HB2
      refine HB2.mono ?_
      rintro e w6 ⟨vt, rfl, ho, hb⟩
      obtain ⟨aT, nt, ct, rfl, zt⟩ := ho.slN
      replace G := Lib.hid (keep_trans G.out hb)
      have ZT := Lib.hid zt
      have hnt : nt ≤ 140737488351232 := by have : b.length = nt := zt.len; omega
      clear ho zt hb HB2 hbb hfit
      go_wp2_with fail
      have HS2 := same_any aT nt ct b ab b.length cb b w6 (by omega) (by omega) ZT.out (B.out.keep G.out)
      rw [decide_eq_true rfl] at HS2
      refine HS2.mono ?_
      rintro e w7 ⟨rfl, hb⟩
      replace G := Lib.hid (keep_trans G.out hb)
      clear hb HS2
      go_wp2_with fail
      go_ret
      exact ⟨rfl, G.out⟩
    · have t3 : (e2 == 0) = false := by rw [beq_eq_false_iff_ne]; exact hz2
      clear hz2 hR
      go_wp2_with fail
      go_ret
      exact ⟨rfl, G.out⟩
end Go.Proofs.Yteedjgjkldbbcaa

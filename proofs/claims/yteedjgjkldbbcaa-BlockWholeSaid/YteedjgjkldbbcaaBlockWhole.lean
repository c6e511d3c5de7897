/- BlockWhole: the walk. Conditions: the texts within reach. -/
import Derived.Test.YteedjgjkldbbcaaBlockTrips
import Derived.Test.YteedjgjkldbbcaaBlockPlaceM
namespace Go.Proofs.Yteedjgjkldbbcaa
open Go.RowKit
set_option linter.unusedVariables false

theorem bbuild_bad {es : List Ent} (h : (bbuild es).2.1 ≠ 0) : (bbuild es).1 = [] := by
  by_cases hc : es.length < 1 ∨ 64 < es.length
  · rw [bbuild_count hc]
  · by_cases hz : (srt es).2 = 0
    · rw [bbuild_ok hc hz] at h; exact absurd rfl h
    · rw [bbuild_srt hc hz]
set_option maxHeartbeats 4000000 in
set_option maxRecDepth 100000 in
theorem blockWhole_walk (a : Option Addr) (n c : Nat) (es : List Ent) (z : Int) (ab : Option Addr) (nb cb : Nat) (b : List UInt8) (w : World) (hn : n ≤ 2932031007317) (hf : Fit 140737488351232 es) (hz : -9223372036854775808 ≤ z ∧ z ≤ 9223372036854775807) (hnb : nb ≤ 140737488351232) (h : Ents w a n c es) (hB : Sl Bf w ab nb cb b) :
    Calls Try.prog 8 #[.slice a n c, .int .i64 z, .slice ab nb cb] w fun e w' => e = .returned (.bool true) ∧ Below w.heap.size w w' := by
  obtain rfl : n = es.length := h.1.symm
  obtain rfl : b.length = nb := hB.len
  have HF := Lib.hid hf
  have G := Lib.hid (Below.refl w.heap.size w)
  have H := Lib.hid h
  have B := Lib.hid hB
  have hl := bbuild_len2 es
  clear hf h hB
  go_enter Try.func8, Try.ntmps8
  go_wp2_with fail
  refine (lives_any _).mono ?_
  rintro e w1 ⟨rfl, hb⟩
  replace G := Lib.hid (keep_trans G.out hb)
  clear hb
  go_wp2_with fail
  refine (bbuild_any a es.length c es w1 hn HF.out (H.out.keep G.out)).mono ?_
  rintro e w2 ⟨vs, rfl, ho, hb⟩
  obtain ⟨aS, ns, cs, rfl, zs⟩ := ho.slN
  replace G := Lib.hid (keep_trans G.out hb)
  have ZS := Lib.hid zs
  clear ho zs hb
  rcases Classical.em ((bbuild es).2.1 = 0) with hz0 | hz0
  · obtain ⟨hc, hs, he⟩ := bbuild_zero hz0
    rw [he] at hl ZS
    dsimp only at hl
    have hns : (bld es).length = ns := ZS.out.len
    have hne : es ≠ [] := by intro e; subst e; simp at hc
    have hns1 : 1 ≤ ns := by rw [← hns, bld_some hne, vb_lt (show es.length < 128 by omega)]; simp only [List.length_append, List.length_cons, List.length_nil]; omega
    have hns2 : ns ≤ 23000 := by omega
    have hcs : ns ≤ cs := ZS.out.le
    have t1 : (((bbuild es).2.1 : Int) != 0) = false := by rw [bne_eq_false_iff_eq]; omega
    have t1' : ((bbuild es).2.1 != 0) = false := by rw [bne_eq_false_iff_eq]; exact hz0
    have t2 : ((ns : Int) == 0) = false := by rw [beq_eq_false_iff_ne]; omega
    have t2' : (ns == 0) = false := by rw [beq_eq_false_iff_ne]; omega
    obtain ⟨m, hm⟩ : ∃ m, z.tmod ns = m := ⟨_, rfl⟩
    have hm1 : -(ns : Int) < m ∧ m < ns := by
      have := Int.tmod_lt_of_pos z (show (0 : Int) < ns by omega)
      have := Int.lt_tmod_of_pos z (show (0 : Int) < ns by omega)
      omega
    have HC := Lib.hid hc
    have HS := Lib.hid hs
    have HNS := Lib.hid hns
    have r1 : IntKind.i64.wrap m = m := IntWalk.i64_in _ (by omega)
    clear hz0 hc hs he hne hl hns
    have JJ : ∃ j : Nat, j < ns ∧ ((m < 0 ∧ m + (ns : Int) = j) ∨ (0 ≤ m ∧ m = j)) := by
      by_cases h0 : m < 0
      · exact ⟨(m + ns).toNat, by omega, .inl ⟨h0, by omega⟩⟩
      · exact ⟨m.toNat, by omega, .inr ⟨by omega, by omega⟩⟩
    obtain ⟨j, hj, h0⟩ := JJ
    have hbp := bread_place ((bld es).take j)
    have hbs := bread_short HC.out HS.out (n := j) (by have := HNS.out; omega) (by have := HNS.out; omega)
    have hbz := bread_zero (b := (bld es).take j)
    obtain ⟨⟨lk, qk, fk⟩, hX⟩ : ∃ X, bread ((bld es).take j) = X := ⟨_, rfl⟩
    rw [hX] at hbp hbs hbz
    dsimp only at hbp hbs hbz
    obtain rfl := hbz.2 hbs
    have hqk : qk ≤ j := by rw [List.length_take] at hbp; omega
    have HX := Lib.hid hX
    have hcut := fun W : World => run_cutto eltB W aS ns cs .i64 j (by omega)
    have hbr := bread_of HC.out HS.out b
    have u1 : (fk == 0) = false := by rw [beq_eq_false_iff_ne]; exact hbs
    have u2 : decide ((qk : Int) < 0) = false := decide_eq_false (by omega)
    have u3 : decide ((qk : Int) > (j : Nat)) = false := decide_eq_false (by omega)
    have u3' : decide (j < qk) = false := decide_eq_false (by omega)
    have ZJ := Lib.hid (ZS.out.upto j (by omega))
    have hl64 : es.length ≤ 64 := by have := HC.out; omega
    clear hbp hbs hbz hX
    rcases h0 with ⟨h0, h1⟩ | ⟨h0, h1⟩
    case' inl =>
      have r2 : IntKind.i64.wrap (m + (ns : Int)) = (j : Int) := by rw [h1]; exact IntWalk.i64_in _ (by omega)
      have t3 : decide (m < 0) = true := decide_eq_true h0
      go_wp2_with fail
    case' inr =>
      subst h1
      have t3 : decide ((j : Int) < 0) = false := decide_eq_false (by omega)
      go_wp2_with fail
    all_goals
      clear hm
      refine (bread_any aS j cs ((bld es).take j) w2 (by omega) ZJ.out).mono ?_
      rintro e w3 ⟨hb, y, vs, rfl, hL⟩
      rw [HX.out] at hL ⊢
      obtain ⟨ay, cy, rfl, -⟩ := hL.ents
      have Z3 := Lib.hid (ZS.out.keep hb)
      have G3 := Lib.hid (keep_trans G.out hb)
      clear hL hb
      dsimp only
      go_wp2_with (first
        | (at_builtin; go_loud (refine wpList_appT eltTB rfl (.tmp 57) (.tmp 58) rfl w3.heap.size _ [] (by rfl) (OwT.lit fB _ w3.heap.size _ _ [] 0 rfl rfl (Nat.le_refl _) (Nat.zero_le _)) aS ns cs (bld es) (by rfl) (Z3.out.keep ((Below.refl _ _).alloc (Nat.le_refl _) _)).toT (by simp; unfold maxLen; omega) (by simp; omega) (by simp) (bld es) rfl ?_; intro v4 w4 h4 hg4 hv4 hb4; obtain ⟨a4, n4, c4, rfl, z4⟩ := h4.slN; have O4 := Lib.hid h4; have hb4' := ((Below.refl w3.heap.size w3).alloc (Nat.le_refl _) (.cells #[] 5)).trans hb4; have B4 := Lib.hid hb4'; have G4 := Lib.hid (keep_trans G3.out hb4'); have S4 := Lib.hid z4; have hn4 := Lib.hid (show n4 = ns by rw [← z4.len, HNS.out]); clear h4 hg4 hv4 hb4 hb4' z4))
        | (at_builtin; go_loud (refine wpList_appG eltTB rfl (.tmp 59) (.tmp 60) rfl w3.heap.size _ (bld es) (by rfl) O4.out ab b.length cb b (by rfl) (B.out.keep G4.out).toT (by rw [HNS.out]; unfold maxLen; omega) (Fits.wide (by rw [HNS.out]; omega)) B4.out.size (bld es ++ b) rfl ?_; intro v5 w5 h5 hg5 hv5 hb5; obtain ⟨a5, n5, c5, rfl, z5⟩ := h5.slN; have S5 := Lib.hid z5; have G5 := Lib.hid (keep_trans G3.out (B4.out.trans hb5)); have hn5 := Lib.hid (show n5 = ns + b.length by rw [← z5.len, List.length_append, HNS.out]); have hn5' : n5 ≤ 140737499999999 := (by have := hn5.out; omega); clear h5 hg5 hv5 hb5 z5)))
      refine (bread_any a5 n5 c5 (bld es ++ b) w5 hn5' S5.out).mono ?_
      rintro e w6 ⟨hb, y, vs5, rfl, hL⟩
      have G6 := Lib.hid (keep_trans G5.out hb)
      have hbr2 := hbr
      by_cases hm0 : b = []
      · rw [if_pos hm0] at hbr2
        rw [hbr2] at hL ⊢
        obtain ⟨ay2, cy2, rfl, hE⟩ := hL.ents
        have E6 := Lib.hid hE
        have hb0 : b.length = 0 := by rw [hm0]; rfl
        have v1 : decide ((b.length : Int) > 0) = false := decide_eq_false (by omega)
        have v1' : decide (0 < b.length) = false := decide_eq_false (by omega)
        clear hL hE hb hbr hbr2 hm0 hb0
        dsimp only
        go_wp2_with fail
        have HSA := sameAll_any ay2 es.length cy2 a es.length c es es w6 (by omega) (by omega) E6.out (H.out.keep G6.out)
        rw [decide_eq_true rfl] at HSA
        refine HSA.mono ?_
        rintro e wA ⟨rfl, hb⟩
        have GA := Lib.hid (keep_trans G6.out hb)
        clear hb HSA
        go_wp2_with fail
        go_ret
        exact ⟨rfl, GA.out⟩
      · rw [if_neg hm0] at hbr2
        rw [hbr2] at hL ⊢
        obtain ⟨ay2, cy2, rfl, hE⟩ := hL.ents
        have hb0 : 0 < b.length := by cases b with | nil => exact absurd rfl hm0 | cons _ _ => simp
        have v1 : decide ((b.length : Int) > 0) = true := decide_eq_true (by omega)
        have v1' : decide (0 < b.length) = true := decide_eq_true hb0
        rw [HNS.out]
        clear hL hE hb hbr hbr2 hm0 hb0
        dsimp only
        go_wp2_with fail
        go_ret
        exact ⟨rfl, G6.out⟩
  · have hbb := bbuild_bad hz0
    rw [hbb] at ZS
    obtain rfl : 0 = ns := ZS.out.len
    have t1 : (((bbuild es).2.1 : Int) != 0) = true := by rw [bne_iff_ne]; omega
    have t1' : ((bbuild es).2.1 != 0) = true := by rw [bne_iff_ne]; exact hz0
    clear hz0 hbb hl
    go_wp2_with fail
    go_ret
    exact ⟨rfl, G.out⟩
end Go.Proofs.Yteedjgjkldbbcaa

/- stream.Open: contract. Conditions: the bytes within reach. -/
import Derived.Test.YtljcogimeimknaaGreatF8a
import Derived.Test.YtljcogimeimknaaGreatFootPRead
import Derived.Test.YtljcogimeimknaaGreatK8b
import Derived.Test.YtljcogimeimknaaGreatF8d
namespace Go.Proofs.YtljcogimeimknaaGreat
open Go.RowKit
open Lib (hid)
open Lib (hid)
open Lib (hid)
open Lib (hid)
open Lib (hid)
set_option linter.unusedVariables false
set_option linter.unusedSimpArgs false

/-- behind Open -/
def OpPost (w : World) (b : List UInt8) (r : Ending) (w' : World) : Prop :=
  Below w.heap.size w w' ∧ (((fopn b).2.1 ≠ 0 ∧ r = .returned (.tuple #[.pointer none, .int .i64 (fopn b).2.1, .int .i64 ((fopn b).2.2 : Nat)])) ∨
    ∃ g a c a2 c2 vs, (fopn b).2.1 = 0 ∧ (fopn b).2.2 = 0 ∧ r = .returned (.tuple #[.pointer (some ⟨g, 0, none⟩), .int .i64 0, .int .i64 0]) ∧ FlO w' w.heap.size w'.heap.size g b (fopn b).1 a c a2 c2 vs)
theorem OpPost.no {w w' : World} {b : List UInt8} {e : Int} {q : Nat} {l : List Row} (h : fopn b = (l, e, q)) (he : e ≠ 0) (hb : Below w.heap.size w w') : OpPost w b (.returned (.tuple #[.pointer none, .int .i64 e, .int .i64 (q : Nat)])) w' :=
  ⟨hb, .inl (by rw [h]; exact ⟨he, rfl⟩)⟩
theorem fread_end {b : List UInt8} {rs : List Row} {q : Nat} (h : fread b = (rs, q, 0)) : ∃ m : Nat, endR rs = (m : Int) ∧ m ≤ 1099511627784 := by
  obtain ⟨c1, c2⟩ := fchk_in (fread_back h).1
  rcases List.eq_nil_or_concat rs with rfl | ⟨r, x, rfl⟩
  · exact ⟨8, rfl, by decide⟩
  · rw [List.concat_eq_append] at *
    have hx : (r ++ [x])[r.length]? = some x := by simp
    obtain ⟨d1, d2, d3, d4, d5⟩ := c2 _ _ hx
    have hfin : ∀ (rs : List Row) (i : Nat) (p : Int) (l : List UInt8), (fck i p l rs).2 = 0 → rs ≠ [] → endR rs ≤ p + 131072 * (rs.length : Int) := by
      intro rs
      induction rs with
      | nil => intro i p l _ h; exact absurd rfl h
      | cons y t ih =>
        intro i p l h _
        obtain ⟨q1, q2, q3, q4⟩ := fck_in (y :: t) i p l h 0 y rfl
        obtain ⟨k, x, y', z⟩ := y
        by_cases h0 : (k.length = 0 ∨ 64 < k.length) ∨ (0 < i ∧ 0 ≤ cmp l k)
        · rw [fck_key h0] at h; cases h
        by_cases h1 : x = p
        · by_cases h2 : y' < 1 ∨ 131072 < y'
          · rw [fck_len h0 h1 h2] at h; cases h
          by_cases h3 : z < 1 ∨ 64 < z
          · rw [fck_ent h0 h1 h2 h3] at h; cases h
          rw [fck_go h0 h1 h2 h3] at h
          cases t with
          | nil => show x + y' ≤ p + 131072 * ((0 + 1 : Nat) : Int); omega
          | cons y2 t2 =>
            rw [endR_cons]
            have := ih (i + 1) (p + y') k h (by simp)
            simp only [List.length_cons] at this ⊢
            push_cast at this ⊢
            omega
        · rw [fck_at h0 h1] at h; cases h
    have hh : (fck 0 8 [] (r ++ [x])).2 = 0 := by
      have := (fread_back h).1
      unfold fchk at this
      split at this
      · cases this
      · exact this
    have hm := hfin _ 0 8 [] hh (by simp)
    obtain ⟨m, hm2⟩ : ∃ m : Nat, endR (r ++ [x]) = (m : Int) := ⟨(endR (r ++ [x])).toNat, by rw [Int.toNat_of_nonneg (by omega)]⟩
    exact ⟨m, hm2, by omega⟩

set_option maxRecDepth 100000 in
set_option maxHeartbeats 8000000 in
theorem sopen_any (ab : Option Addr) (nb cb : Nat) (b : List UInt8) (w : World) (hnb : nb ≤ 140737488351232) (hB : Sl Bf w ab nb cb b) :
    Calls Tryz.prog 9 #[.slice ab nb cb] w (OpPost w b) := by
  obtain rfl : b.length = nb := hB.len
  have kc := fun (w : World) (C : Array Value) (n c : Nat) => Lib.run_convert_bytes_const (P := Tryz.prog) w 22 5 C n c Tryz.underlying22 Tryz.underlying5
  obtain ⟨w1, hw1⟩ : ∃ V, w.alloc (.cells #[.int .u8 99, .int .u8 111, .int .u8 112, .int .u8 112, .int .u8 105, .int .u8 99, .int .u8 101, .int .u8 1] 5 (8, 9)) = V := ⟨_, rfl⟩
  have b1 : Below w.heap.size w w1 := hw1 ▸ (Below.refl _ _).alloc (Nat.le_refl _) _
  have s1 : Sl Bf w1 (some ⟨w.heap.size, 0, none⟩) 8 8 headB := hw1 ▸ Sl.of_row headB 8 8 (heap_new w _) rfl (Nat.le_refl _) rfl
  have HW1 := hid hw1
  have H := hid hB
  have HP := hasPrefix_any ab b.length cb b (some ⟨w.heap.size, 0, none⟩) 8 8 headB w1 (by omega) (hB.keep b1) s1
  have hcb : b.length ≤ cb := hB.le
  obtain ⟨R, hR⟩ : ∃ R, fopn b = R := ⟨_, rfl⟩
  have B1 := hid b1
  obtain ⟨x, hx⟩ : ∃ x, (b.length : Int) - 12 = x := ⟨_, rfl⟩
  have r1 : IntKind.i64.wrap ((b.length : Int) - 12) = x := by rw [← hx]; exact IntWalk.i64_in _ (by omega)
  have HX := hid hx
  clear hx
  clear hB hw1 s1 b1
  by_cases hp : b.take 8 = headB
  case neg =>
    rw [show decide (b.take headB.length = headB) = false from decide_eq_false hp] at HP
    have HP := hid HP
    have FIN := hid (show fopn b = ([], 81, 0) by unfold fopn; exact if_pos hp)
    clear hp hR
    go_enter Tryz.func9, Tryz.ntmps9
    go_wp2_with fail
    rw [HW1.out]
    refine HP.out.mono ?_
    rintro e w2 ⟨rfl, hb⟩
    have B2 := hid (keep_trans B1.out hb)
    clear hb
    go_wp2_with fail
    go_ret3
    exact OpPost.no (q := 0) FIN.out (by decide) B2.out
  rw [show decide (b.take headB.length = headB) = true from decide_eq_true hp] at HP
  have HP := hid HP
  by_cases hl : b.length < 20
  · have m1 : (if x < 8 then 8 else x) = 8 := by have := HX.out; split <;> omega
    have m2 : max x 8 = 8 := by have := HX.out; omega
    have t1 : decide ((b.length : Int) < 20) = true := decide_eq_true (by omega)
    have t1' : decide (b.length < 20) = true := decide_eq_true hl
    have FIN := hid (show fopn b = ([], 85, 8) by unfold fopn; rw [if_neg (fun e => e hp)]; exact if_pos hl)
    clear hp hR hl
    go_enter Tryz.func9, Tryz.ntmps9
    go_wp2_with fail
    rw [HW1.out]
    refine HP.out.mono ?_
    rintro e w2 ⟨rfl, hb⟩
    have B2 := hid (keep_trans B1.out hb)
    clear hb
    go_wp2_with fail
    go_ret3
    exact OpPost.no (q := 8) FIN.out (by decide) B2.out
  obtain ⟨t, ht⟩ : ∃ t, b.length - 12 = t := ⟨_, rfl⟩
  have m1 : (if x < 8 then 8 else x) = (t : Nat) := by have := HX.out; split <;> omega
  have m2 : max x 8 = (t : Nat) := by have := HX.out; omega
  have t1 : decide ((b.length : Int) < 20) = false := decide_eq_false (by omega)
  have t1' : decide (b.length < 20) = false := decide_eq_false hl
  have hct : ∀ W : World, (Instr.slice 22 (.slice ab b.length cb) (some (.int .i64 (t : Nat))) none none).run Tryz.prog W = .ok (.slice (adv ab cb t) 12 (cb - t)) W := fun W => by
    have := run_cutfrom eltB W ab b.length cb .i64 t (by omega)
    rwa [show b.length - t = 12 by omega] at this
  have ST := hid (show Sl Bf w (adv ab cb t) 12 (cb - t) (b.drop t) by have := H.out.from t (by omega); rwa [show b.length - t = 12 by omega] at this)
  have PL := hid (fun (W : World) (hb : Below w.heap.size w W) => splace_any (adv ab cb t) (cb - t) (b.drop t) t W (by rw [List.length_drop]; omega) (by omega) (ST.out.keep hb))
  obtain ⟨o, ho⟩ : ∃ o, fplc (b.drop t) t = o := ⟨_, rfl⟩
  have ht8 : 8 ≤ t := by omega
  have htb : t ≤ b.length := by omega
  have HL := hid (show b.length = t + 12 by omega)
  have FO := hid (show fopn b = fopP b o by unfold fopn; rw [if_neg (fun e => e hp), if_neg hl, ht, ho])
  have HO := hid ho
  have HT := hid ht
  have htm : t ≤ 140737488351232 := by omega
  clear hp hl ho ht hR
  go_enter Tryz.func9, Tryz.ntmps9
  go_wp2_with fail
  rw [HW1.out]
  refine HP.out.mono ?_
  rintro e w2 ⟨rfl, hb⟩
  have B2 := hid (keep_trans B1.out hb)
  clear hb HP
  go_wp2_with fail
  refine (PL.out _ B2.out).mono ?_
  rintro e w3 ⟨rfl, hb⟩
  have B3 := hid (keep_trans B2.out hb)
  clear hb PL ST B2 B1 HW1 r1 m1 m2 hct
  cases o with
  | none =>
    have HV : plcV (b.drop t) t = .tuple #[.int .i64 0, .bool false] := by unfold plcV; rw [HO.out]
    have FIN := hid (show fopn b = ([], 85, t) by rw [FO.out]; unfold fopP; rw [HT.out])
    rw [HV]
    clear HV
    go_wp2_with fail
    go_ret3
    exact OpPost.no FIN.out (by decide) B3.out
  | some p =>
    have HV : plcV (b.drop t) t = .tuple #[.int .i64 (p : Nat), .bool true] := by unfold plcV; rw [HO.out]
    rw [HV]
    obtain ⟨hp8, hpt, -⟩ := (fplc_some (by rw [List.length_drop]; have := HL.out; omega) (by omega)).1 HO.out
    have hcut := fun W : World => run_cut eltB W ab b.length cb .i64 .i64 p t hpt (by omega)
    obtain ⟨F, hF⟩ : ∃ F, (b.take t).drop p = F := ⟨_, rfl⟩
    have SF := hid (show Sl Bf w (adv ab cb p) (t - p) (cb - p) F from hF ▸ H.out.cut p t hpt htb)
    obtain ⟨⟨B, e1, q1⟩, hI⟩ : ∃ I, fin F 70 = I := ⟨_, rfl⟩
    have IN := fun (W : World) (hb : Below w.heap.size w W) => inner_any (adv ab cb p) (t - p) (cb - p) F 70 (ki := 70) rfl W (by omega) (SF.out.keep hb)
    rw [hI] at IN
    dsimp only at IN
    have IN := hid IN
    have FL : F.length = t - p := SF.out.len
    have hq1 : q1 ≤ t - p + 1 := by have := fin_place F 70; rw [hI] at this; dsimp only at this; omega
    have hBl : B.length ≤ t := by have := fin_len F 70; rw [hI] at this; dsimp only at this; omega
    have FP := hid (show fopn b = fopI p (B, e1, q1) by rw [FO.out, ← hI, ← hF, ← HT.out]; rfl)
    clear HV hI hF FL
    obtain ⟨j1, hj1⟩ : ∃ j, p + q1 = j := ⟨_, rfl⟩
    have r2 : IntKind.i64.wrap ((p : Int) + (q1 : Int)) = (j1 : Int) := by rw [IntWalk.i64_in _ (by omega)]; omega
    have HJ := hid hj1
    clear hj1
    go_wp2_with fail
    refine (IN.out _ B3.out).mono ?_
    rintro e w4 ⟨v, rfl, ho, hb⟩
    have B4 := hid (keep_trans B3.out hb)
    have O4 := hid ho
    clear hb ho IN SF hcut
    by_cases he : e1 = 0
    case neg =>
      have t2 : (e1 != 0) = true := by rw [bne_iff_ne]; exact he
      have FIN := hid (show fopn b = ([], e1, j1) by rw [FP.out]; unfold fopI; dsimp only; rw [if_pos he, HJ.out])
      have HE := hid he
      clear he O4
      go_wp2_with fail
      go_ret3
      exact OpPost.no FIN.out HE.out B4.out
    subst he
    have t2 : ((0 : Int) != 0) = false := by decide
    obtain ⟨a4, n4, c4, rfl, z4⟩ := O4.out.slN
    have hn4 : n4 = B.length := z4.len.symm
    have FR := hid (fpread_any a4 n4 c4 B w4 (by omega) z4)
    obtain ⟨⟨rs, q5, e5⟩, hY⟩ : ∃ Y, fread B = Y := ⟨_, rfl⟩
    rw [hY] at FR
    have hq5 : q5 ≤ B.length := by have := fread_place B; rw [hY] at this; exact this
    replace FP := hid (show fopn b = fopR p q1 (rs, q5, e5) by rw [FP.out, ← hY]; unfold fopI; dsimp only; rw [if_neg (fun e => e rfl)])
    obtain ⟨j2, hj2⟩ : ∃ j, j1 + q5 = j := ⟨_, rfl⟩
    have r3 : IntKind.i64.wrap ((j1 : Int) + (q5 : Int)) = (j2 : Int) := by have := HJ.out; rw [IntWalk.i64_in _ (by omega)]; omega
    have HJ2 := hid hj2
    have HY := hid hY
    have HN4 := hid hn4
    clear hj2 hY z4 hn4 O4
    go_wp2_with fail
    refine FR.out.mono ?_
    rintro e w5 ⟨ar, nr, cr, vs, rfl, hrow, hkey, hb⟩
    have B5 := hid (keep_trans B4.out hb)
    have O5 := hid hrow
    have K5 := hid hkey
    have S5 := hid (KTx.spans hrow hkey)
    have hz4 := hb.size
    clear hb FR hrow hkey
    by_cases he : e5 = 0
    case neg =>
      have t3 : (e5 != 0) = true := by rw [bne_iff_ne]; exact he
      have FIN := hid (show fopn b = ([], e5, j2) by rw [FP.out]; unfold fopR; dsimp only; rw [if_pos he, ← HJ2.out, ← HJ.out])
      have HE := hid he
      clear he
      go_wp2_with fail
      go_ret3
      exact OpPost.no FIN.out HE.out B5.out
    subst he
    obtain ⟨m, hm, hm2⟩ := fread_end HY.out
    obtain ⟨hmany, -⟩ := fchk_in (fread_back HY.out).1
    have hnr : nr ≤ 8388608 := by rw [← S5.out.1]; exact hmany
    have EN := hid (send2_any ar nr cr rs m w5 (by omega) S5.out hm (by omega))
    have HM := hid hm
    clear hm hmany
    go_wp2_with fail
    refine EN.out.mono ?_
    rintro e w6 ⟨rfl, hb⟩
    have B6 := hid (keep_trans B5.out hb)
    have O6 := hid (O5.out.keep hb)
    have K6 := hid (K5.out.same (w' := w6) fun j _ hj => hb.block j hj)
    have hz5 := hb.size
    have OL := hid (fun j hj => (O5.out.t.lt j hj).2)
    clear hb EN O5 K5 S5
    by_cases hmp : m = p
    case neg =>
      have t4 : ((m : Int) != (p : Int)) = true := by rw [bne_iff_ne]; omega
      have t4' : (m != p) = true := by rw [bne_iff_ne]; omega
      have FIN := hid (show fopn b = ([], 84, p) by rw [FP.out]; unfold fopR; dsimp only; rw [if_neg (fun e => e rfl), HM.out, if_pos (by omega)])
      clear hmp
      go_wp2_with fail
      go_ret3
      exact OpPost.no FIN.out (by decide) B6.out
    subst hmp
    have t4 : ((m : Int) != (m : Int)) = false := by simp
    have t4' : (m != m) = false := by simp
    have FIN := hid (show fopn b = (rs, 0, 0) by rw [FP.out]; unfold fopR; dsimp only; rw [if_neg (fun e => e rfl), HM.out, if_neg (by simp)])
    go_wp2_with fail
    refine (clone_any ab b.length cb b w6 (by omega) (H.out.keep B6.out)).mono ?_
    rintro e w7 ⟨v7, rfl, ho7, hb⟩
    obtain ⟨a7, n7, c7, rfl, z7⟩ := ho7.slN
    obtain rfl : b.length = n7 := z7.len
    have B7 := hid (keep_trans B6.out hb)
    have O7 := hid ho7
    have OR7 := hid (O6.out.keep hb)
    have K7 := hid (K6.out.same (w' := w7) fun j _ hj => hb.block j (by omega))
    have hz6 := hb.size
    clear hb ho7 z7 O6 K6
    go_wp2_with fail
    go_ret3
    have hob : w.heap.size ≤ w4.heap.size := B4.out.size
    have hz75 : w4.heap.size ≤ w7.heap.size := by omega
    have hnv : nr = rs.length := by rw [← K7.out.1]; exact (OR7.out.t.slR).elim fun a h => by obtain ⟨n, c, hv, hn, -⟩ := h; cases hv; exact hn
    subst hnv
    refine ⟨(B7.out.alloc B7.out.size _), .inr ⟨w7.heap.size, a7, c7, ar, cr, vs, by rw [FIN.out], by rw [FIN.out], rfl, ?_⟩⟩
    rw [FIN.out]
    have bN := (Below.refl w7.heap.size w7).alloc (Nat.le_refl _) (.cells #[.slice a7 b.length c7, .slice ar rs.length cr] 85)
    refine ⟨⟨B7.out.size, by simp⟩, Nat.le_refl _, heap_new w7 _, (O7.out.base (by have := B6.out.size; omega)).keep bN, fun j hj => ?_, (OR7.out.of_block fun j hj => bN.block j (OR7.out.t.lt j hj).2).base hob, fun j hj => ?_, (K7.out.same fun j _ hj => bN.block j (by omega)).widen hob (by simp; omega)⟩
    · have := (O7.out.lt j hj).2; simp; omega
    · have := (OR7.out.t.lt j hj).2; simp; omega
end Go.Proofs.YtljcogimeimknaaGreat

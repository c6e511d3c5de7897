/- Find of the reference: contract. Conditions: numbers within reach. -/
import Derived.Test.YtljcogimeimknaaGreatBlockFindM
import Derived.Test.YtljcogimeimknaaGreatK8b
import Derived.BigQuiet
namespace Go.Proofs.YtljcogimeimknaaGreat
open Go.RowKit
set_option linter.unusedVariables false
set_option linter.unusedSimpArgs false

theorem strB_eqG (xs ys : List UInt8) : ((strB xs).toList == (strB ys).toList) = decide (xs = ys) := by
  rw [strB_list, strB_list]
  by_cases h : xs = ys
  · subst h; simp
  · rw [decide_eq_false h]; simp [h]
/-- what was found: an entry's value, as the list holds it -/
def FoundS (Q : Value → List UInt8 → Prop) (v : Value) (ov : Option (List UInt8)) : Prop := (ov = none ∧ v = .slice none 0 0) ∨ ∃ x, ov = some x ∧ Q v x
set_option maxHeartbeats 2000000 in
set_option maxRecDepth 100000 in
theorem rfind_any (al : Option Addr) (nl cl : Nat) (es : List Ent) (ak : Option Addr) (nk ck : Nat) (key : List UInt8) (w : World) (Q : Value → List UInt8 → Prop) (hQ : ∀ (W : World) (i : Nat) (k v : List UInt8) (b o : Nat) (z : Value), Below w.heap.size w W → es[i]? = some (k, v) → al = some ⟨b, o, none⟩ → W.cell? ⟨b, o + i * 2 + 1, none⟩ = some z → Q z v) (hn : nl ≤ 140737488351232) (h : Ents w al nl cl es) (hK : Sl Bf w ak nk ck key) :
    Calls Tryz.prog 51 #[.slice al nl cl, .slice ak nk ck] w fun e w' => (∃ v, e = .returned (.tuple #[v, .bool (lfind es key).isSome]) ∧ FoundS Q v (lfind es key)) ∧ Below w.heap.size w w' := by
  obtain rfl : nl = es.length := h.1.symm
  have H := Lib.hid h
  have HK := Lib.hid hK
  have hcl := h.2.1
  have HQ := Lib.hid hQ
  clear h hK hQ
  obtain ⟨ov, hov⟩ : ∃ ov, lfind es key = ov := ⟨_, rfl⟩
  have HOV := Lib.hid hov
  rw [hov]
  clear hov
  go_enter Tryz.func51, Tryz.ntmps51
  go_wp2_with fail
  go_loopw [6] (fun i wr => ∃ k : Nat, k ≤ es.length ∧ i = .int .i64 (k : Nat) ∧ lfind (es.drop k) key = ov ∧ Below w.heap.size w wr) (fun i _ => es.length - (intOf i).toNat)
  case atStart => exact ⟨0, Nat.zero_le _, rfl, by rw [List.drop_zero]; exact HOV.out, Below.refl _ _⟩
  case round =>
    obtain ⟨k, hk, rfl, he, hb⟩ := hrel
    have HE := Lib.hid he
    have B := Lib.hid hb
    clear he hb
    by_cases hlt : k < es.length
    · obtain ⟨⟨kk, vv⟩, hx⟩ : ∃ e, es[k]? = some e := ⟨_, List.getElem?_eq_getElem hlt⟩
      obtain ⟨b, o, a1, n1, c1, a2, n2, c2, rfl, e1, e2, s1, s2⟩ := (show Ents wr al es.length cl es from Ents.keep H.out B.out).2.2.2 k kk vv hx
      have r1 := fun q : Nat => run_str (P := Tryz.prog) (dst := 9) Tryz.underlying22 Tryz.underlying5 (by kernel_rfl) _ _ _ _ _ (s1.drewN q)
      have r2 := fun q : Nat => run_str (P := Tryz.prog) (dst := 9) Tryz.underlying22 Tryz.underlying5 (by kernel_rfl) _ _ _ _ _ ((HK.out.keep B.out).drewN q)
      have hdr : es.drop k = (kk, vv) :: es.drop (k + 1) := by
        obtain ⟨h, h2⟩ := List.getElem?_eq_some_iff.1 hx
        rw [← h2]; exact List.drop_eq_getElem_cons h
      have HD := Lib.hid hdr
      have S2 := Lib.hid (HQ.out wr k kk vv b o _ B.out hx rfl e2)
      clear hdr hx s1 s2
      by_cases hkk : kk = key
      · have q1 : ((strB kk).toList == (strB key).toList) = true := by rw [strB_eqG, decide_eq_true hkk]
        have HX := Lib.hid (show ov = some vv by rw [← HE.out, HD.out]; unfold lfind; rw [if_pos hkk])
        clear hkk
        go_wp2_with fail
        go_quiet (fail)
        go_wp2_with fail
        refine bodyPost_ret (v := .tuple #[.slice a2 n2 c2, .bool ov.isSome]) (by simp [results, Tryz.results51, go_sem, HX.out]) rfl ?_
        exact ⟨⟨_, rfl, .inr ⟨vv, HX.out, S2.out⟩⟩, keep_drewN B.out _⟩
      · have q1 : ((strB kk).toList == (strB key).toList) = false := by rw [strB_eqG, decide_eq_false hkk]
        have hx2 : lfind ((kk, vv) :: es.drop (k + 1)) key = lfind (es.drop (k + 1)) key := if_neg hkk
        have HX := Lib.hid (show lfind (es.drop (k + 1)) key = ov by rw [← HE.out, HD.out, hx2])
        clear hx2
        clear hkk
        go_wp2_with fail
        go_quiet (fail)
        go_wp2_with fail
        go_roundw
        case rel => exact ⟨k + 1, by omega, by go_num, HX.out, keep_drewN B.out _⟩
        case measure => simp [intOf]; omega
    · have HX := Lib.hid (show ov = none by rw [← HE.out, List.drop_of_length_le (by omega)]; rfl)
      go_wp2_with fail
      refine bodyPost_ret (v := .tuple #[.slice none 0 0, .bool ov.isSome]) (by simp [results, Tryz.results51, go_sem, HX.out]) rfl ?_
      exact ⟨⟨_, rfl, .inl ⟨HX.out, rfl⟩⟩, B.out⟩
end Go.Proofs.YtljcogimeimknaaGreat

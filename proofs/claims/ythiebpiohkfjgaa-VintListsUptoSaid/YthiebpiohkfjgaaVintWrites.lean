/- VintWrites: the walk. Conditions: the numbers fit; the list within reach. -/
import Derived.Test.YthiebpiohkfjgaaVintSame
import Derived.Test.YthiebpiohkfjgaaVintSpoil
import Derived.Test.YthiebpiohkfjgaaVintRPut
import Derived.Test.YthiebpiohkfjgaaVintApart
import Derived.Test.YthiebpiohkfjgaaVintSize
namespace Go.Proofs.Ythiebpiohkfjgaa
open Go.RowKit

theorem eltN : Elt Try.prog 48 26 (.int .u64 0) 8 := ⟨Try.underlying48, by kernel_rfl, rfl⟩
abbrev fN (n : Nat) : List Value := [Nf n]
theorem eltTN : EltT Try.prog 48 26 fN 1 8 := EltT.mk1 Try.underlying48 (z := .int .u64 0) (by kernel_rfl) 0 rfl (fun _ => rfl)
theorem fN_len (x : Nat) : (fN x).length = 1 := rfl
theorem OwT.slM {w : World} {base : Nat} {e : TypeId} {v : Value} {xs : List Nat} (h : OwT fN w base e v xs) : ∃ a n c, v = .slice a n c ∧ Sl Nf w a n c xs := by
  obtain ⟨a, c, hv, hs⟩ := h.sl fN_len
  exact ⟨a, _, c, hv, hs.to1⟩
theorem OwT.slJ {w : World} {base : Nat} {e : TypeId} {a : Option Addr} {n c : Nat} {l : List Nat} {x : Nat} (h : OwT fN w base e (.slice a n c) (l ++ [x])) : Sl Nf w a l.length c l := by
  obtain ⟨a', n', c', hv, hs⟩ := h.slM
  cases hv
  have := hs.upto l.length (by have := hs.len; simp at this; omega)
  rwa [List.take_left] at this
theorem OwT.slK {w : World} {base : Nat} {e : TypeId} {b o n c : Nat} {l : List Nat} {x : Nat} (h : OwT fN w base e (.slice (some ⟨b, o, none⟩) n c) (l ++ [x])) : w.cell? ⟨b, o + l.length, none⟩ = some (Nf x) := by
  obtain ⟨a', n', c', hv, hs⟩ := h.slM
  cases hv
  obtain ⟨b', o', e', hc⟩ := hs.2.2.2 l.length x (by simp)
  cases e'; exact hc
theorem vbs_ten (l : List Nat) (h : ∀ m, m ∈ l → m < 18446744073709551616) : (vbs l).length ≤ 10 * l.length := by
  induction l with
  | nil => simp [vbs]
  | cons x r ih =>
    have h1 := vb_ten (h x (by simp))
    have h2 := ih (fun m hm => h m (by simp [hm]))
    unfold vbs at h2 ⊢
    simp only [List.flatMap_cons, List.length_append, List.length_cons]
    omega
theorem vbs_next {l : List Nat} {k n : Nat} (h : l[k]? = some n) : (vbs (l.take k)).length + (vb n).length ≤ (vbs l).length := by
  have h1 := vbs_le l (k + 1)
  rw [vbs_take h, List.length_append] at h1
  exact h1

set_option maxHeartbeats 2000000 in
set_option maxRecDepth 100000 in
theorem vintWrites_walk (a : Option Addr) (n c : Nat) (l : List Nat) (w : World) (hn : n ≤ 17592186043904) (hl : ∀ m, m ∈ l → m < 18446744073709551616) (h : Sl Nf w a n c l) :
    Calls Try.prog 7 #[.slice a n c] w fun e w' => e = .returned (.bool true) ∧ Below w.heap.size w w' := by
  obtain rfl : n = l.length := h.len.symm
  have H := Lib.hid h; clear h
  have hbl := vbs_ten l hl
  have HL := Lib.hid hl; clear hl
  go_enter Try.func7, Try.ntmps7
  go_wp2_with fail
  refine (lives_any _).mono ?_
  rintro e w1 ⟨rfl, hb⟩
  have G0 := Lib.hid hb; clear hb
  go_wp2_with fail
  go_loopw [4, 5] (fun s i wr => ∃ k : Nat, k ≤ l.length ∧ i = .int .i64 k ∧ OwT fB wr w.heap.size 5 s (vbs (l.take k)) ∧ Below w.heap.size w wr) (fun _ i _ => l.length - (intOf i).toNat)
  case atStart => exact ⟨0, Nat.zero_le _, rfl, OwT.nil _ _ _ _, G0.out⟩
  case round =>
    obtain ⟨k, hk, rfl, ho, hbb⟩ := hrel
    obtain ⟨aO, nO, cO, rfl, zO⟩ := ho.slN
    have eO := zO.len
    have O := Lib.hid ho
    have OL := Lib.hid ho.lt; clear ho zO
    have G := Lib.hid hbb; clear hbb G0
    have hgs := G.out.size
    by_cases hlt : k < l.length
    · obtain ⟨x, b, o, hx, rfl, hc⟩ := (H.out.keep G.out).at k hlt
      have hc : wr.cell? ⟨b, o + k, none⟩ = some (.int .u64 x) := hc
      have hbw : b < w.heap.size := H.out.blt (by omega)
      have hnx := vbs_next hx
      rw [eO] at hnx
      have hxm := HL.out x (List.mem_of_getElem? hx)
      have HX := Lib.hid hx; clear hx
      have HXM := Lib.hid hxm; clear hxm
      obtain ⟨lx, hlx⟩ : ∃ lx, (vb x).length = lx := ⟨_, rfl⟩
      rw [hlx] at hnx
      have LX := Lib.hid hlx; clear hlx
      have EO := Lib.hid eO; clear eO
      have HC := Lib.hid hc; clear hc
      have hc := HC.out
      go_wp2_with fail
      refine (rbytes_any x _ HXM.out).mono ?_
      rintro e w1 ⟨_, rfl, hv, hb⟩
      have s1 : wr.heap.size ≤ w1.heap.size := hb.size
      clear hc
      obtain ⟨aOw, nOw, cOw, rfl, zOw⟩ := hv.slN
      obtain rfl : lx = nOw := by rw [← zOw.len, LX.out]
      have OwL := Lib.hid hv.lt
      have Ow := Lib.hid hv; clear hv zOw
      replace G := Lib.hid (keep_trans G.out hb)
      replace O := Lib.hid (O.out.keep hb)
      replace HC : Hid (w1.cell? ⟨b, o + k, none⟩ = some (.int .u64 x)) := Lib.hid ((World.cell?_of_block (hb.block _ (by have := G.out.size; show b < _; omega))).trans HC.out)
      clear hb
      have hc := HC.out
      go_wp2_with fail
      refine (size_any x _ HXM.out).mono ?_
      rintro e w' ⟨rfl, rfl⟩
      rw [LX.out]
      go_wp2_with fail
      refine (vbytes_any x _ HXM.out).mono ?_
      rintro e w2 ⟨_, rfl, hv, hb⟩
      have s2 : w1.heap.size ≤ w2.heap.size := hb.size
      clear hc
      obtain ⟨aOa, nOa, cOa, rfl, zOa⟩ := hv.slN
      obtain rfl : lx = nOa := by rw [← zOa.len, LX.out]
      have OaL := Lib.hid hv.lt
      have Oa := Lib.hid hv; clear hv zOa
      replace G := Lib.hid (keep_trans G.out hb)
      replace O := Lib.hid (O.out.keep hb)
      replace HC : Hid (w2.cell? ⟨b, o + k, none⟩ = some (.int .u64 x)) := Lib.hid ((World.cell?_of_block (hb.block _ (by have := G.out.size; show b < _; omega))).trans HC.out)
      replace Ow := Lib.hid (Ow.out.keep hb)
      clear hb
      have hc := HC.out
      go_wp2_with fail
      refine (vbytes_any x _ HXM.out).mono ?_
      rintro e w3 ⟨_, rfl, hv, hb⟩
      have s3 : w2.heap.size ≤ w3.heap.size := hb.size
      clear hc
      obtain ⟨aOb, nOb, cOb, rfl, zOb⟩ := hv.slN
      obtain rfl : lx = nOb := by rw [← zOb.len, LX.out]
      have ObL := Lib.hid hv.lt
      have Ob := Lib.hid hv; clear hv zOb
      replace G := Lib.hid (keep_trans G.out hb)
      replace O := Lib.hid (O.out.keep hb)
      replace HC : Hid (w3.cell? ⟨b, o + k, none⟩ = some (.int .u64 x)) := Lib.hid ((World.cell?_of_block (hb.block _ (by have := G.out.size; show b < _; omega))).trans HC.out)
      replace Ow := Lib.hid (Ow.out.keep hb)
      replace Oa := Lib.hid (Oa.out.keep hb)
      clear hb
      clear HC
      go_wp2_with fail
      refine (same_any _ _ _ (vb x) _ _ _ (vb x) _ (by omega) (by omega) Oa.out.slI Ow.out.slI).mono ?_
      rintro e w4 ⟨rfl, hb⟩
      have s4 : w3.heap.size ≤ w4.heap.size := hb.size
      rw [decide_eq_true rfl]
      replace G := Lib.hid (keep_trans G.out hb)
      replace O := Lib.hid (O.out.keep hb)
      replace Ow := Lib.hid (Ow.out.keep hb)
      replace Oa := Lib.hid (Oa.out.keep hb)
      replace Ob := Lib.hid (Ob.out.keep hb)
      clear hb
      have hcb : cOa ≤ 9223372036854775807 := Oa.out.capB.2.2
      have hcut := fun (W : World) => run_cutto eltB W aOa lx cOa .i64 cOa (Nat.le_refl _)
      have hcap : ∀ W : World, (Builtin.cap_ #[22] 3 #[.slice aOa lx cOa]).run Try.prog W = .ok (goInt cOa) W := fun W => run_cap_slice W _ _ _ _ _ Try.underlying22
      go_wp2_with fail
      refine (spoilv_any _ _ _ hcb Oa.out.soft).mono ?_
      rintro e w5 ⟨rfl, hg⟩
      have s5 : w4.heap.size ≤ w5.heap.size := hg.size
      replace G := Lib.hid (G.out.grown hg G.out.size (fun j hj => by have := OaL.out j (by rw [← own_map] at hj; exact hj); omega))
      replace O := Lib.hid (O.out.grown hg (other_row' OaL.out OL.out (by omega)))
      replace Ow := Lib.hid (Ow.out.grown hg (other_row' OaL.out OwL.out (by omega)))
      replace Ob := Lib.hid (Ob.out.grown hg (other_row OaL.out ObL.out (by omega)))
      clear Oa
      clear hg
      clear hcut hcap hcb
      go_wp2_with fail
      refine (same_any _ _ _ (vb x) _ _ _ (vb x) _ (by omega) (by omega) Ob.out.slI Ow.out.slI).mono ?_
      rintro e w6 ⟨rfl, hb⟩
      have s6 : w5.heap.size ≤ w6.heap.size := hb.size
      rw [decide_eq_true rfl]
      replace G := Lib.hid (keep_trans G.out hb)
      replace O := Lib.hid (O.out.keep hb)
      replace Ow := Lib.hid (Ow.out.keep hb)
      replace Ob := Lib.hid (Ob.out.keep hb)
      clear hb
      clear Ob
      have lw := G.out.size
      have hnz : (vbs (l.take k)).length = nO := EO.out
      have HNZ := Lib.hid hnz; clear hnz
      go_wp2_with (at_builtin; refine wpList_appG eltTB rfl _ _ rfl w.heap.size _ (vbs (l.take k)) (by rfl) O.out _ lx cOw (vb x) (by rfl) Ow.out.slI.toT (by rw [HNZ.out]; unfold maxLen; omega) (by rw [HNZ.out]; exact .wide (by omega)) lw _ rfl ?_; intro v5 w15 h5 hg5 hv5 hb5; have O5 := Lib.hid h5; have G5 := Lib.hid (G.out.trans hb5); clear h5 hb5 hg5 hv5)
      go_roundw
      case rel => exact ⟨k + 1, by omega, by go_num, by rw [vbs_take HX.out]; exact O5.out, G5.out⟩
      case measure => simp [intOf]; omega
    · skip
      have ho := O.out
      rw [show l.take k = l from List.take_of_length_le (by omega)] at ho eO
      obtain rfl : nO = (vbs l).length := eO.symm
      replace O := Lib.hid ho; clear ho eO
      obtain ⟨kk, hkk⟩ : ∃ kk, l.length + 1 = kk := ⟨_, rfl⟩
      have hm1 : ((l.length : Int) + 1) = (kk : Int) := by omega
      have HM1 := Lib.hid hm1; clear hm1
      have hk1 : kk ≤ 17592186043905 := by omega
      have hk2 : l.length < kk := by omega
      have HKK := Lib.hid hkk; clear hkk
      go_wp2_with (first
        | (at_make; refine wpList_mkT eltTN rfl _ _ rfl wr.heap.size 0 kk (Nat.zero_le _) rfl rfl rfl HM1.out (by omega) (by unfold maxLen; omega) (Nat.le_refl _) ?_; intro x0 w21 _ h21 _ hb21;  have s21 := hb21.size; have OM := Lib.hid h21; have B21 := Lib.hid hb21; clear h21 hb21)
        | (at_builtin; refine wpList_appT eltTN rfl (.tmp 74) (.tmp 75) rfl wr.heap.size _ [] (by rfl) OM.out a l.length c l (by rfl) (H.out.keep (keep_trans G.out B21.out)).toT (by simp; unfold maxLen; omega) (by simp; omega) B21.out.size l rfl ?_; intro v22 w22 h22 hg22 hv22 hb22; obtain ⟨aR, nR, cR, rfl, zR⟩ := h22.slM; obtain rfl : nR = l.length := zR.len.symm; clear zR; have B22 := Lib.hid (B21.out.trans hb22); replace OM := Lib.hid h22; clear h22 hg22 hv22 hb22)
        | (at_builtin; go_loud (refine wpList_appT eltTN rfl (.tmp 76) (.tmp 77) rfl wr.heap.size _ l (by rfl) (OM.out.alloc _) _ 1 1 [77] (by rfl) (Sl.lit _ _ _ _ _ rfl rfl).toT (by unfold maxLen; omega) (by omega) (by have := B22.out.size; simp; omega) (l ++ [77]) rfl ?_); intro v23 w23 h23 hg23 hv23 hb23; obtain ⟨aR, nR, cR, rfl, zR⟩ := h23.slM; have B23 := Lib.hid ((B22.out.alloc B22.out.size _).trans hb23); have OR := Lib.hid h23; have ORL := Lib.hid h23.lt; obtain rfl : kk = nR := by rw [← zR.len, List.length_append, ← HKK.out]; rfl
           have hcR : kk ≤ cR := zR.le
           have ZR := Lib.hid zR; clear zR h23 hg23 hv23 hb23; have s23 : wr.heap.size ≤ w23.heap.size := B23.out.size; replace G := Lib.hid (keep_trans G.out B23.out); replace O := Lib.hid (O.out.keep B23.out)))
      obtain ⟨xz, bR, oR, _, rfl, _⟩ := ZR.out.at l.length hk2
      clear ZR
      have hcutl := fun (W : World) => run_cutto eltN W (some ⟨bR, oR, none⟩) kk cR .i64 l.length (by omega)
      refine (join_any _ _ _ l _ (by omega) HL.out (by omega) OR.out.slJ).mono ?_
      rintro e w24 ⟨_, rfl, hv, hb⟩
      have s24 : w23.heap.size ≤ w24.heap.size := hb.size
      obtain ⟨aJa, nJa, cJa, rfl, zJa⟩ := hv.slN
      obtain rfl : (vbs l).length = nJa := by exact zJa.len
      have JaL := Lib.hid hv.lt
      have Ja := Lib.hid hv; clear hv zJa
      replace G := Lib.hid (keep_trans G.out hb)
      replace O := Lib.hid (O.out.keep hb)
      replace OR := Lib.hid (OR.out.keep hb)
      clear hb
      go_wp2_with fail
      refine (join_any _ _ _ l _ (by omega) HL.out (by omega) OR.out.slJ).mono ?_
      rintro e w25 ⟨_, rfl, hv, hb⟩
      have s25 : w24.heap.size ≤ w25.heap.size := hb.size
      obtain ⟨aJb, nJb, cJb, rfl, zJb⟩ := hv.slN
      obtain rfl : (vbs l).length = nJb := by exact zJb.len
      have JbL := Lib.hid hv.lt
      have Jb := Lib.hid hv; clear hv zJb
      replace G := Lib.hid (keep_trans G.out hb)
      replace O := Lib.hid (O.out.keep hb)
      replace OR := Lib.hid (OR.out.keep hb)
      replace Ja := Lib.hid (Ja.out.keep hb)
      clear hb
      go_wp2_with fail
      refine (same_any _ _ _ (vbs l) _ _ _ (vbs l) _ (by omega) (by omega) Ja.out.slI O.out.slI).mono ?_
      rintro e w26 ⟨rfl, hb⟩
      have s26 : w25.heap.size ≤ w26.heap.size := hb.size
      rw [decide_eq_true rfl]
      replace G := Lib.hid (keep_trans G.out hb)
      replace O := Lib.hid (O.out.keep hb)
      replace OR := Lib.hid (OR.out.keep hb)
      replace Ja := Lib.hid (Ja.out.keep hb)
      replace Jb := Lib.hid (Jb.out.keep hb)
      clear hb
      have hcb : cJa ≤ 9223372036854775807 := Ja.out.capB.2.2
      have hcut := fun (W : World) => run_cutto eltB W aJa (vbs l).length cJa .i64 cJa (Nat.le_refl _)
      have hcap : ∀ W : World, (Builtin.cap_ #[22] 3 #[.slice aJa (vbs l).length cJa]).run Try.prog W = .ok (goInt cJa) W := fun W => run_cap_slice W _ _ _ _ _ Try.underlying22
      go_wp2_with fail
      refine (spoilv_any _ _ _ hcb Ja.out.soft).mono ?_
      rintro e w27 ⟨rfl, hg⟩
      have s27 : w26.heap.size ≤ w27.heap.size := hg.size
      replace G := Lib.hid (G.out.grown hg G.out.size (fun j hj => by have := JaL.out j (by rw [← own_map] at hj; exact hj); omega))
      replace O := Lib.hid (O.out.grown hg (other_row' JaL.out OL.out (by omega)))
      replace OR := Lib.hid (OR.out.grown hg (other_row' JaL.out ORL.out (by omega)))
      replace Jb := Lib.hid (Jb.out.grown hg (other_row JaL.out JbL.out (by omega)))
      clear Ja
      clear hg
      clear hcut hcap hcb
      go_wp2_with fail
      refine (same_any _ _ _ (vbs l) _ _ _ (vbs l) _ (by omega) (by omega) Jb.out.slI O.out.slI).mono ?_
      rintro e w28 ⟨rfl, hb⟩
      have s28 : w27.heap.size ≤ w28.heap.size := hb.size
      rw [decide_eq_true rfl]
      replace G := Lib.hid (keep_trans G.out hb)
      replace O := Lib.hid (O.out.keep hb)
      replace OR := Lib.hid (OR.out.keep hb)
      replace Jb := Lib.hid (Jb.out.keep hb)
      clear hb
      go_wp2_with fail
      refine (sameNum_any _ _ _ l _ _ _ (by omega) OR.out.slJ (H.out.keep G.out)).mono ?_
      rintro e w29 ⟨rfl, hb⟩
      have s29 : w28.heap.size ≤ w29.heap.size := hb.size
      replace G := Lib.hid (keep_trans G.out hb)
      replace O := Lib.hid (O.out.keep hb)
      replace OR := Lib.hid (OR.out.keep hb)
      replace Jb := Lib.hid (Jb.out.keep hb)
      clear hb
      have hc77 : w29.cell? ⟨bR, oR + l.length, none⟩ = some (.int .u64 77) := OR.out.slK
      go_wp2_with fail
      go_ret
      exact ⟨ret_bool (by simp), G.out⟩
end Go.Proofs.Ythiebpiohkfjgaa

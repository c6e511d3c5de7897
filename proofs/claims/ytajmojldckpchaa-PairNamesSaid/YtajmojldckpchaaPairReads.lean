/- PairReads: the walk. Conditions: the texts within reach. Written by a program of this place (gen_PairReads.py). -/
import Derived.Test.YtajmojldckpchaaPairRRead
namespace Go.Proofs.Ytajmojldckpchaa
open Go.RowKit

/-- what is read at whatever place -/
def erd (p b : List UInt8) (z : Int) : Ent × Nat × Int := if 0 ≤ z ∧ z ≤ b.length then pread p b z.toNat else (([], []), 0, 1)
theorem epread_z (ap : Option Addr) (np cp : Nat) (p : List UInt8) (ab : Option Addr) (nb cb : Nat) (b : List UInt8) (z : Int) (w : World) (hp : np ≤ 140737488351232) (hb : nb ≤ 140737488351232) (h0 : Sl Bf w ap np cp p) (h1 : Sl Bf w ab nb cb b) :
    Calls Try.prog 36 #[.slice ap np cp, .slice ab nb cb, .int .i64 z] w fun e w' => RdPost w (erd p b z).1.1 (erd p b z).1.2 (erd p b z).2.1 (erd p b z).2.2 e w' := by
  have hl := h1.len
  unfold erd
  by_cases hz : 0 ≤ z ∧ z ≤ b.length
  · rw [if_pos hz]
    obtain ⟨a, rfl⟩ : ∃ a : Nat, z = a := ⟨z.toNat, by omega⟩
    exact epread_any ap np cp p ab nb cb b a w hp hb (by omega) h0 h1
  · rw [if_neg hz]
    exact epread_bad ap np cp ab nb cb z w hb (by omega)
theorem erread_z (ap : Option Addr) (np cp : Nat) (p : List UInt8) (ab : Option Addr) (nb cb : Nat) (b : List UInt8) (z : Int) (w : World) (hp : np ≤ 140737488351232) (hb : nb ≤ 140737488351232) (h0 : Sl Bf w ap np cp p) (h1 : Sl Bf w ab nb cb b) :
    Calls Try.prog 37 #[.slice ap np cp, .slice ab nb cb, .int .i64 z] w fun e w' => RdPost w (erd p b z).1.1 (erd p b z).1.2 (erd p b z).2.1 (erd p b z).2.2 e w' := by
  have hl := h1.len
  unfold erd
  by_cases hz : 0 ≤ z ∧ z ≤ b.length
  · rw [if_pos hz]
    obtain ⟨a, rfl⟩ : ∃ a : Nat, z = a := ⟨z.toNat, by omega⟩
    exact erread_any ap np cp p ab nb cb b a w hp hb (by omega) h0 h1
  · rw [if_neg hz]
    exact erread_bad ap np cp ab nb cb z w hb (by omega)

set_option maxHeartbeats 2000000 in
set_option maxRecDepth 100000 in
theorem pairReads_walk (ap : Option Addr) (np cp : Nat) (p : List UInt8) (ab : Option Addr) (nb cb : Nat) (b : List UInt8) (a' : Option Addr) (n' c' : Nat) (zs : List Int) (w : World) (hp : np ≤ 140737488351232) (hb : nb ≤ 140737488351232) (hn' : n' ≤ 140737488351232) (h0 : Sl Bf w ap np cp p) (h1 : Sl Bf w ab nb cb b) (h' : Sl (Value.int .i64) w a' n' c' zs) :
    Calls Try.prog 8 #[.slice ap np cp, .slice ab nb cb, .slice a' n' c'] w fun e w' => e = .returned (.bool true) ∧ Below w.heap.size w w' := by
  obtain rfl : np = p.length := h0.len.symm
  obtain rfl : nb = b.length := h1.len.symm
  obtain rfl : n' = zs.length := h'.len.symm
  have P := Lib.hid h0; clear h0
  have S := Lib.hid h1; clear h1
  have H' := Lib.hid h'; clear h'
  go_enter Try.func8, Try.ntmps8
  go_wp2_with fail
  refine (lives_any _).mono ?_
  rintro e w1 ⟨rfl, hb1⟩
  have G := Lib.hid hb1; clear hb1
  go_wp2_with fail
  refine (lent_any _ _ _ p _ (by omega) (P.out.keep G.out)).mono ?_
  rintro e w2 ⟨gp, rfl, hgp, hL, hb2⟩
  have Lp := Lib.hid hL
  have lgp := hL.lt; clear hL
  have lw1 := G.out.size
  replace G := Lib.hid (keep_trans G.out hb2); clear hb2
  go_wp2_with fail
  refine (lent_any _ _ _ b _ (by omega) (S.out.keep G.out)).mono ?_
  rintro e w3 ⟨gb, rfl, hgb, hL, hb3⟩
  have Lb := Lib.hid hL
  have lgb := hL.lt; clear hL
  replace Lp : Hid (Lent w3 gp p) := Lib.hid (Lp.out.keep hb3)
  have lw2 := G.out.size
  replace lgp : gp < w3.heap.size := by omega
  replace G := Lib.hid (keep_trans G.out hb3); clear hb3
  have q1 : w.heap.size ≤ gp := by omega
  have q2 : w.heap.size ≤ gb := by omega
  clear hgp hgb lw1 lw2 lgp lgb
  go_wp2_with fail
  go_loopw [10] (fun i wr => ∃ k : Nat, k ≤ zs.length ∧ i = .int .i64 k ∧ Lent wr gp p ∧ Lent wr gb b ∧ Below w.heap.size w wr) (fun i _ => zs.length - (intOf i).toNat)
  case atStart => exact ⟨0, Nat.zero_le _, rfl, Lp.out, Lb.out, G.out⟩
  case round =>
    obtain ⟨k, hk, rfl, hlp, hlb, hbb⟩ := hrel
    clear G Lp Lb
    have lgp := hlp.lt
    have lgb := hlb.lt
    have Lp := Lib.hid hlp; clear hlp
    have Lb := Lib.hid hlb; clear hlb
    have G := Lib.hid hbb; clear hbb
    have lwr := G.out.size
    by_cases hlt : k < zs.length
    · obtain ⟨z, bz, oz, hz, rfl, hc⟩ := (H'.out.keep G.out).at k hlt
      have hbz : bz < w.heap.size := H'.out.blt (by omega)
      have hc : wr.cell? ⟨bz, oz + k, none⟩ = some (.int .i64 z) := hc
      clear hz
      obtain ⟨⟨⟨rk, rv⟩, rq, re⟩, hR⟩ : ∃ R, erd p b z = R := ⟨_, rfl⟩
      have hr1 := epread_z _ _ _ p _ _ _ b z wr (by omega) (by omega) Lp.out.sl Lb.out.sl
      have hr2 := fun W (h0 : Sl Bf W ap p.length cp p) (h1 : Sl Bf W ab b.length cb b) => erread_z _ _ _ p _ _ _ b z W (by omega) (by omega) h0 h1
      rw [hR] at hr1 hr2
      dsimp only at hr1 hr2
      have HR1 := Lib.hid hr1; clear hr1
      have HR2 := Lib.hid hr2; clear hr2 hR
      go_wp2_with fail
      refine HR1.out.mono ?_
      rintro e w4 ⟨vk, vv, mid, rfl, hk1, hv1, hkm, hm1, hb4⟩
      obtain ⟨ak, nk, ck, rfl, zk⟩ := hk1.slN
      obtain ⟨av, nv, cv, rfl, zv⟩ := hv1.slN
      obtain rfl : rk.length = nk := zk.len
      obtain rfl : rv.length = nv := zv.len
      have Xk := Lib.hid hk1
      have XkL := Lib.hid hk1.lt
      have Xv := Lib.hid hv1
      have XvL := Lib.hid hv1.lt
      have KM := Lib.hid hkm
      have s4 : wr.heap.size ≤ w4.heap.size := hb4.size
      clear hk1 hv1 zk zv hkm
      have HC := Lib.hid hc; clear hc
      replace G := Lib.hid (keep_trans G.out hb4)
      replace Lp : Hid (Lent w4 gp p) := Lib.hid ((hb4.block gp (by omega)).trans Lp.out)
      replace Lb : Hid (Lent w4 gb b) := Lib.hid ((hb4.block gb (by omega)).trans Lb.out)
      replace HC : Hid (w4.cell? ⟨bz, oz + k, none⟩ = some (.int .i64 z)) := Lib.hid ((World.cell?_of_block (hb4.block _ (by show bz < _; omega))).trans HC.out)
      clear hb4 HR1
      have he := heap_new w4 (.cells #[.slice ak rk.length ck, .slice av rv.length cv] 29)
      have E1 : Hid (Eb (w4.alloc (.cells #[.slice ak rk.length ck, .slice av rv.length cv] 29)) w4.heap.size (.slice ak rk.length ck) (.slice av rv.length cv)) := Lib.hid he; clear he
      have hba : Below w4.heap.size w4 (w4.alloc (.cells #[.slice ak rk.length ck, .slice av rv.length cv] 29)) := (Below.refl _ _).alloc (Nat.le_refl _) _
      replace G := Lib.hid (keep_trans G.out hba)
      replace Lp : Hid (Lent (w4.alloc (.cells #[.slice ak rk.length ck, .slice av rv.length cv] 29)) gp p) := Lib.hid ((hba.block gp (by omega)).trans Lp.out)
      replace Lb : Hid (Lent (w4.alloc (.cells #[.slice ak rk.length ck, .slice av rv.length cv] 29)) gb b) := Lib.hid ((hba.block gb (by omega)).trans Lb.out)
      replace HC : Hid ((w4.alloc (.cells #[.slice ak rk.length ck, .slice av rv.length cv] 29)).cell? ⟨bz, oz + k, none⟩ = some (.int .i64 z)) := Lib.hid ((World.cell?_of_block (hba.block _ (by show bz < _; omega))).trans HC.out)
      replace Xk := Lib.hid (Xk.out.keep hba)
      replace Xv := Lib.hid (Xv.out.keep hba)
      have s5 : w4.heap.size ≤ (w4.alloc (.cells #[.slice ak rk.length ck, .slice av rv.length cv] 29)).heap.size := hba.size
      clear hba
      have hc := HC.out
      go_upto_region 8 with (fail)
      obtain ⟨ge, hge⟩ : ∃ g, w4.heap.size = g := ⟨_, rfl⟩
      rw [hge] at E1 ⊢
      have hge2 : w4.heap.size ≤ ge := by omega
      clear hge
      generalize w4.alloc (.cells #[.slice ak rk.length ck, .slice av rv.length cv] 29) = w5 at *
      have lge := E1.out.lt
      go_wp2_with fail
      refine (HR2.out _ (P.out.keep G.out) (S.out.keep G.out)).mono ?_
      rintro e w6 ⟨yk, yv, mid2, rfl, hk2, hv2, hkm2, hm2, hb⟩
      have s6 : w5.heap.size ≤ w6.heap.size := hb.size
      clear HR2 hkm2 hm2 hc
      replace G := Lib.hid (keep_trans G.out hb)
      replace Lp : Hid (Lent w6 gp p) := Lib.hid ((hb.block gp (by omega)).trans Lp.out)
      replace Lb : Hid (Lent w6 gb b) := Lib.hid ((hb.block gb (by omega)).trans Lb.out)
      replace HC : Hid (w6.cell? ⟨bz, oz + k, none⟩ = some (.int .i64 z)) := Lib.hid ((World.cell?_of_block (hb.block _ (by show bz < _; omega))).trans HC.out)
      replace Xk := Lib.hid (Xk.out.keep hb)
      replace Xv := Lib.hid (Xv.out.keep hb)
      replace E1 : Hid (Eb w6 ge (.slice ak rk.length ck) (.slice av rv.length cv)) := Lib.hid ((hb.block ge (by omega)).trans E1.out)
      clear hb
      clear HC
      obtain ⟨bk, mk, dk, rfl, yk0⟩ := hk2.slN
      obtain ⟨bv, mv, dv, rfl, yv0⟩ := hv2.slN
      have Yk := Lib.hid yk0
      have Yv := Lib.hid yv0
      clear yk0 yv0 hk2 hv2
      have he := heap_new w6 (.cells #[.slice bk mk dk, .slice bv mv dv] 29)
      have E2 : Hid (Eb (w6.alloc (.cells #[.slice bk mk dk, .slice bv mv dv] 29)) w6.heap.size (.slice bk mk dk) (.slice bv mv dv)) := Lib.hid he; clear he
      have hba : Below w6.heap.size w6 (w6.alloc (.cells #[.slice bk mk dk, .slice bv mv dv] 29)) := (Below.refl _ _).alloc (Nat.le_refl _) _
      replace G := Lib.hid (keep_trans G.out hba)
      replace Lp : Hid (Lent (w6.alloc (.cells #[.slice bk mk dk, .slice bv mv dv] 29)) gp p) := Lib.hid ((hba.block gp (by omega)).trans Lp.out)
      replace Lb : Hid (Lent (w6.alloc (.cells #[.slice bk mk dk, .slice bv mv dv] 29)) gb b) := Lib.hid ((hba.block gb (by omega)).trans Lb.out)
      replace Xk := Lib.hid (Xk.out.keep hba)
      replace Xv := Lib.hid (Xv.out.keep hba)
      replace E1 : Hid (Eb (w6.alloc (.cells #[.slice bk mk dk, .slice bv mv dv] 29)) ge (.slice ak rk.length ck) (.slice av rv.length cv)) := Lib.hid ((hba.block ge (by omega)).trans E1.out)
      replace Yk := Lib.hid (Yk.out.keep hba)
      replace Yv := Lib.hid (Yv.out.keep hba)
      have s7 : w6.heap.size ≤ (w6.alloc (.cells #[.slice bk mk dk, .slice bv mv dv] 29)).heap.size := hba.size
      clear hba
      go_upto_region 9 with (fail)
      obtain ⟨gf, hgf⟩ : ∃ g, w6.heap.size = g := ⟨_, rfl⟩
      rw [hgf] at E2 ⊢
      clear hgf
      generalize w6.alloc (.cells #[.slice bk mk dk, .slice bv mv dv] 29) = w7 at *
      have e10 := E1.out.c0
      have e11 := E1.out.c1
      have e20 := E2.out.c0
      have e21 := E2.out.c1
      go_wp2_with fail
      refine (esame_any _ _ _ _ _ _ _ _ _ _ _ _ rk rv rk rv _ Xk.out.slI Xv.out.slI Yk.out Yv.out).mono ?_
      rintro e w8 ⟨rfl, hb⟩
      have s8 : w7.heap.size ≤ w8.heap.size := hb.size
      rw [decide_eq_true rfl, decide_eq_true rfl, Bool.true_and]
      clear e10 e11 e20 e21 E2
      replace G := Lib.hid (keep_trans G.out hb)
      replace Lp : Hid (Lent w8 gp p) := Lib.hid ((hb.block gp (by omega)).trans Lp.out)
      replace Lb : Hid (Lent w8 gb b) := Lib.hid ((hb.block gb (by omega)).trans Lb.out)
      replace Xk := Lib.hid (Xk.out.keep hb)
      replace Xv := Lib.hid (Xv.out.keep hb)
      replace E1 : Hid (Eb w8 ge (.slice ak rk.length ck) (.slice av rv.length cv)) := Lib.hid ((hb.block ge (by omega)).trans E1.out)
      replace Yk := Lib.hid (Yk.out.keep hb)
      replace Yv := Lib.hid (Yv.out.keep hb)
      clear hb
      clear Yk Yv
      have e10 := E1.out.c0
      go_wp2_with fail
      refine (spoil_any _ _ _ _ Xk.out.capB.2.2 Xk.out.soft).mono ?_
      rintro e w9 ⟨rfl, hg⟩
      have s9 : w8.heap.size ≤ w9.heap.size := hg.size
      have hrow : ∀ j, ak.map (·.block) = some j → wr.heap.size ≤ j ∧ j < w4.heap.size := fun j hj => XkL.out j (by rw [own_map]; exact hj)
      replace G := Lib.hid (G.out.grown hg G.out.size (fun j hj => by have := hrow j hj; omega))
      replace Lp : Hid (Lent w9 gp p) := Lib.hid ((hg.block gp (by omega) (fun e => by have := hrow _ e.symm; omega)).trans Lp.out)
      replace Lb : Hid (Lent w9 gb b) := Lib.hid ((hg.block gb (by omega) (fun e => by have := hrow _ e.symm; omega)).trans Lb.out)
      replace E1 : Hid (Eb w9 ge (.slice ak rk.length ck) (.slice av rv.length cv)) := Lib.hid ((hg.block ge (by omega) (fun e => by have := hrow _ e.symm; omega)).trans E1.out)
      replace Xv := Lib.hid (Xv.out.of_block fun j hj => hg.block j (by have := XvL.out j hj; omega) (fun e => by have h1 := XvL.out j hj; have h2 := KM.out j (by rw [own_map]; exact e.symm); omega))
      clear hg hrow Xk e10
      have e11 := E1.out.c1
      go_wp2_with fail
      refine (spoil_any _ _ _ _ Xv.out.capB.2.2 Xv.out.soft).mono ?_
      rintro e w10 ⟨rfl, hg⟩
      have s10 : w9.heap.size ≤ w10.heap.size := hg.size
      have hrow : ∀ j, av.map (·.block) = some j → mid ≤ j ∧ j < w4.heap.size := fun j hj => XvL.out j (by rw [own_map]; exact hj)
      replace G := Lib.hid (G.out.grown hg G.out.size (fun j hj => by have := hrow j hj; omega))
      replace Lp : Hid (Lent w10 gp p) := Lib.hid ((hg.block gp (by omega) (fun e => by have := hrow _ e.symm; omega)).trans Lp.out)
      replace Lb : Hid (Lent w10 gb b) := Lib.hid ((hg.block gb (by omega) (fun e => by have := hrow _ e.symm; omega)).trans Lb.out)
      clear hg hrow Xv e11 E1
      go_wp2_with fail
      refine (kept_any gp _ _ _ p _ (by omega) Lp.out (P.out.keep G.out)).mono ?_
      rintro e w11 ⟨rfl, hb⟩
      have s11 : w10.heap.size ≤ w11.heap.size := hb.size
      replace G := Lib.hid (keep_trans G.out hb)
      replace Lp : Hid (Lent w11 gp p) := Lib.hid ((hb.block gp (by omega)).trans Lp.out)
      replace Lb : Hid (Lent w11 gb b) := Lib.hid ((hb.block gb (by omega)).trans Lb.out)
      clear hb
      go_wp2_with fail
      refine (kept_any gb _ _ _ b _ (by omega) Lb.out (S.out.keep G.out)).mono ?_
      rintro e w12 ⟨rfl, hb⟩
      have s12 : w11.heap.size ≤ w12.heap.size := hb.size
      replace G := Lib.hid (keep_trans G.out hb)
      replace Lp : Hid (Lent w12 gp p) := Lib.hid ((hb.block gp (by omega)).trans Lp.out)
      replace Lb : Hid (Lent w12 gb b) := Lib.hid ((hb.block gb (by omega)).trans Lb.out)
      clear hb
      go_wp2_with fail
      go_roundw
      case rel => exact ⟨k + 1, by omega, by go_num, Lp.out, Lb.out, G.out⟩
      case measure => simp [intOf]; omega
    · go_wp2_with fail
      go_ret
      exact ⟨ret_bool rfl, G.out⟩
end Go.Proofs.Ytajmojldckpchaa

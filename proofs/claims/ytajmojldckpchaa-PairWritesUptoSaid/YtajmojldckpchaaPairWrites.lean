/- PairWrites: the walk. Conditions: the texts within reach. Written by a program of this place (gen_PairWrites.py). -/
import Derived.Test.YtajmojldckpchaaPairBytes
namespace Go.Proofs.Ytajmojldckpchaa
open Go.RowKit

theorem Ents.one (w : World) (ak : Option Addr) (nk ck : Nat) (k : List UInt8) (av : Option Addr) (nv cv : Nat) (v : List UInt8) (h1 : Sl Bf w ak nk ck k) (h2 : Sl Bf w av nv cv v) :
    Ents (w.alloc (.cells #[.slice ak nk ck, .slice av nv cv] 29)) (some ⟨w.heap.size, 0, none⟩) 1 1 [(k, v)] := by
  have hb : Below w.heap.size w (w.alloc (.cells #[.slice ak nk ck, .slice av nv cv] 29)) := (Below.refl _ _).alloc (Nat.le_refl _) _
  have hh : (w.alloc (.cells #[.slice ak nk ck, .slice av nv cv] 29)).heap[w.heap.size]? = some (.cells #[.slice ak nk ck, .slice av nv cv] 29 (0, 0)) := heap_new w _
  refine ⟨rfl, Nat.le_refl _, by simp, fun i x y hi => ?_⟩
  obtain rfl : i = 0 := by have := (List.getElem?_eq_some_iff.1 hi).1; simp at this; omega
  simp at hi
  obtain ⟨rfl, rfl⟩ := hi
  exact ⟨_, 0, ak, nk, ck, av, nv, cv, rfl, by simp only [World.cell?, hh]; rfl, by simp only [World.cell?, hh]; rfl, h1.keep hb, h2.keep hb⟩

set_option maxHeartbeats 2000000 in
set_option maxRecDepth 100000 in
theorem pairWrites_walk (ap : Option Addr) (np cp : Nat) (p : List UInt8) (ak : Option Addr) (nk ck : Nat) (k : List UInt8) (av : Option Addr) (nv cv : Nat) (v : List UInt8) (w : World)
    (hp : np ≤ 1048576) (hb : nk + nv ≤ 1048576) (h0 : Sl Bf w ap np cp p) (h1 : Sl Bf w ak nk ck k) (h2 : Sl Bf w av nv cv v) :
    Calls Try.prog 7 #[.slice ap np cp, .agg #[.slice ak nk ck, .slice av nv cv]] w fun e w' => e = .returned (.bool true) ∧ Below w.heap.size w w' := by
  obtain rfl : np = p.length := h0.len.symm
  obtain rfl : nk = k.length := h1.len.symm
  obtain rfl : nv = v.length := h2.len.symm
  have P := Lib.hid h0; clear h0
  have K := Lib.hid h1; clear h1
  have V := Lib.hid h2; clear h2
  have hbe : Below w.heap.size w (w.alloc (.cells #[.slice ak k.length ck, .slice av v.length cv] 29)) := (Below.refl _ _).alloc (Nat.le_refl _) _
  have hoe : (w.alloc (.cells #[.slice ak k.length ck, .slice av v.length cv] 29)).heap[w.heap.size]? = some (.cells #[.slice ak k.length ck, .slice av v.length cv] 29 (0, 0)) := heap_new w _
  have E := Lib.hid hoe
  have G := Lib.hid hbe
  clear hbe hoe
  have hl : (ebytes p (k, v)).length ≤ 1048606 := by
    have hc := com_le p k
    unfold ebytes
    have t0 := vb_ten (n := com p k) (by omega)
    have t1 := vb_ten (n := k.length - com p k) (by omega)
    have t2 := vb_ten (n := v.length) (by omega)
    simp; omega
  obtain ⟨eb, heb⟩ : ∃ eb, ebytes p (k, v) = eb := ⟨_, rfl⟩
  rw [heb] at hl
  have HEB := Lib.hid heb; clear heb
  have hfit : Fit 140737488351232 [(k, v)] := by intro e he; simp at he; subst he; exact ⟨by show k.length ≤ _; omega, by show v.length ≤ _; omega⟩
  have HFit := Lib.hid hfit; clear hfit
  go_enter Try.func7, Try.ntmps7
  go_upto_region 1 with (fail)
  obtain ⟨g, hg⟩ : ∃ g, w.heap.size = g := ⟨_, rfl⟩
  rw [hg] at E ⊢
  have hgw : w.heap.size ≤ g := by omega
  have lg := (Array.getElem?_eq_some_iff.1 E.out).1
  generalize w.alloc (.cells #[.slice ak k.length ck, .slice av v.length cv] 29) = w0 at *
  clear hg
  go_wp2_with fail
  refine (lives_any _).mono ?_
  rintro e w1 ⟨rfl, hb⟩
  have s1 : w0.heap.size ≤ w1.heap.size := hb.size
  replace G := Lib.hid (keep_trans G.out hb)
  replace E : Hid (w1.heap[g]? = some (.cells #[.slice ak k.length ck, .slice av v.length cv] 29 (0, 0))) := Lib.hid ((hb.block g (by omega)).trans E.out)
  clear hb
  go_wp2_with fail
  refine (lent_any _ _ _ p _ (by omega) (P.out.keep G.out)).mono ?_
  rintro e w2 ⟨gp, rfl, hgp, hL, hb⟩
  have s2 : w1.heap.size ≤ w2.heap.size := hb.size
  have lp := hL.lt
  have Lp := Lib.hid hL; clear hL
  replace G := Lib.hid (keep_trans G.out hb)
  replace E : Hid (w2.heap[g]? = some (.cells #[.slice ak k.length ck, .slice av v.length cv] 29 (0, 0))) := Lib.hid ((hb.block g (by omega)).trans E.out)
  clear hb
  have p0 : w2.cell? ⟨g, 0, none⟩ = some (.slice ak k.length ck) := by have := E.out; simp [World.cell?, this]
  have p1 : w2.cell? ⟨g, 1, none⟩ = some (.slice av v.length cv) := by have := E.out; simp [World.cell?, this]
  have hen := Ents.one w2 _ _ _ k _ _ _ v (K.out.keep G.out) (V.out.keep G.out)
  have EN := Lib.hid hen; clear hen
  have hba : Below w2.heap.size w2 (w2.alloc (.cells #[.slice ak k.length ck, .slice av v.length cv] 29)) := (Below.refl _ _).alloc (Nat.le_refl _) _
  replace G := Lib.hid (keep_trans G.out hba)
  replace E : Hid ((w2.alloc (.cells #[.slice ak k.length ck, .slice av v.length cv] 29)).heap[g]? = some (.cells #[.slice ak k.length ck, .slice av v.length cv] 29 (0, 0))) := Lib.hid ((hba.block g (by omega)).trans E.out)
  replace Lp : Hid (Lent (w2.alloc (.cells #[.slice ak k.length ck, .slice av v.length cv] 29)) gp p) := Lib.hid ((hba.block gp (by omega)).trans Lp.out)
  have sA : w2.heap.size ≤ (w2.alloc (.cells #[.slice ak k.length ck, .slice av v.length cv] 29)).heap.size := hba.size
  clear hba
  go_wp2_with fail
  generalize w2.alloc (.cells #[.slice ak k.length ck, .slice av v.length cv] 29) = wa at *
  refine (copy_any _ 1 1 [(k, v)] _ (by omega) HFit.out EN.out).mono ?_
  rintro e w3 ⟨ac, cc, rfl, hC, hb⟩
  have s3 : wa.heap.size ≤ w3.heap.size := hb.size
  have C := Lib.hid hC; clear hC EN p0 p1
  replace G := Lib.hid (keep_trans G.out hb)
  replace E : Hid (w3.heap[g]? = some (.cells #[.slice ak k.length ck, .slice av v.length cv] 29 (0, 0))) := Lib.hid ((hb.block g (by omega)).trans E.out)
  replace Lp : Hid (Lent w3 gp p) := Lib.hid ((hb.block gp (by omega)).trans Lp.out)
  clear hb
  obtain ⟨bc, oc, ⟨ax, nx, cx⟩, ⟨ay, ny, cy⟩, e0, c0, c1, m0, m1⟩ := C.out.at 0 (k, v) rfl
  replace e0 : ac = some ⟨bc, oc, none⟩ := e0
  subst e0
  obtain rfl : nx = k.length := m0.1
  obtain rfl : ny = v.length := m1.1
  replace c0 : w3.cell? ⟨bc, oc, none⟩ = some (.slice ax k.length cx) := by rw [Nat.zero_mul, Nat.add_zero] at c0; exact c0
  replace c1 : w3.cell? ⟨bc, oc + 1, none⟩ = some (.slice ay v.length cy) := by rw [Nat.zero_mul, Nat.add_zero] at c1; exact c1
  have lbc := cell_lt c0
  replace lbc : bc < w3.heap.size := lbc
  have M0 := Lib.hid m0; have M1 := Lib.hid m1; clear m0 m1
  go_wp2_with fail
  refine (pbytes_any _ p.length _ p ax k.length cx k ay v.length cy v _ (by omega) (by omega) Lp.out.sl M0.out.sl M1.out.sl).mono ?_
  rintro e w4 ⟨_, rfl, ho, hb⟩
  have s4 : w3.heap.size ≤ w4.heap.size := hb.size
  rw [HEB.out] at ho
  replace c0 : w4.cell? ⟨bc, oc, none⟩ = some (.slice ax k.length cx) := (World.cell?_of_block (a := ⟨bc, _, none⟩) (hb.block bc lbc)).trans c0
  replace c1 : w4.cell? ⟨bc, oc + 1, none⟩ = some (.slice ay v.length cy) := (World.cell?_of_block (a := ⟨bc, _, none⟩) (hb.block bc lbc)).trans c1
  replace lbc : bc < w4.heap.size := by omega
  obtain ⟨aOa, nOa, cOa, rfl, zOa⟩ := ho.slN
  obtain rfl : eb.length = nOa := by exact zOa.len
  have OaL := Lib.hid ho.lt
  have Oa := Lib.hid ho; clear ho zOa
  replace G := Lib.hid (keep_trans G.out hb)
  replace E : Hid (w4.heap[g]? = some (.cells #[.slice ak k.length ck, .slice av v.length cv] 29 (0, 0))) := Lib.hid ((hb.block g (by omega)).trans E.out)
  replace Lp : Hid (Lent w4 gp p) := Lib.hid ((hb.block gp (by omega)).trans Lp.out)
  replace C := Lib.hid (C.out.keep hb (by omega))
  replace M0 := Lib.hid (M0.out.same (fun j _ h2 => hb.block j (by omega)))
  replace M1 := Lib.hid (M1.out.same (fun j _ h2 => hb.block j (by omega)))
  clear hb
  go_wp2_with fail
  refine (pbytes_any _ p.length _ p ax k.length cx k ay v.length cy v _ (by omega) (by omega) Lp.out.sl M0.out.sl M1.out.sl).mono ?_
  rintro e w5 ⟨_, rfl, ho, hb⟩
  have s5 : w4.heap.size ≤ w5.heap.size := hb.size
  rw [HEB.out] at ho
  replace c0 : w5.cell? ⟨bc, oc, none⟩ = some (.slice ax k.length cx) := (World.cell?_of_block (a := ⟨bc, _, none⟩) (hb.block bc lbc)).trans c0
  replace c1 : w5.cell? ⟨bc, oc + 1, none⟩ = some (.slice ay v.length cy) := (World.cell?_of_block (a := ⟨bc, _, none⟩) (hb.block bc lbc)).trans c1
  replace lbc : bc < w5.heap.size := by omega
  obtain ⟨aOb, nOb, cOb, rfl, zOb⟩ := ho.slN
  obtain rfl : eb.length = nOb := by exact zOb.len
  have ObL := Lib.hid ho.lt
  have Ob := Lib.hid ho; clear ho zOb
  replace G := Lib.hid (keep_trans G.out hb)
  replace E : Hid (w5.heap[g]? = some (.cells #[.slice ak k.length ck, .slice av v.length cv] 29 (0, 0))) := Lib.hid ((hb.block g (by omega)).trans E.out)
  replace Lp : Hid (Lent w5 gp p) := Lib.hid ((hb.block gp (by omega)).trans Lp.out)
  replace C := Lib.hid (C.out.keep hb (by omega))
  replace Oa := Lib.hid (Oa.out.keep hb)
  replace M0 := Lib.hid (M0.out.same (fun j _ h2 => hb.block j (by omega)))
  replace M1 := Lib.hid (M1.out.same (fun j _ h2 => hb.block j (by omega)))
  clear hb
  clear M0 M1
  clear c0 c1
  have p0 : w5.cell? ⟨g, 0, none⟩ = some (.slice ak k.length ck) := by have := E.out; simp [World.cell?, this]
  have p1 : w5.cell? ⟨g, 1, none⟩ = some (.slice av v.length cv) := by have := E.out; simp [World.cell?, this]
  go_wp2_with fail
  refine (prbytes_any _ _ _ p _ _ _ k _ _ _ v _ (by omega) (by omega) (P.out.keep G.out) (K.out.keep G.out) (V.out.keep G.out)).mono ?_
  rintro e w6 ⟨_, rfl, ho, hb⟩
  have s6 : w5.heap.size ≤ w6.heap.size := hb.size
  rw [HEB.out] at ho
  clear p0 p1
  obtain ⟨aOw, nOw, cOw, rfl, zOw⟩ := ho.slN
  obtain rfl : eb.length = nOw := by exact zOw.len
  have OwL := Lib.hid ho.lt
  have Ow := Lib.hid ho; clear ho zOw
  replace G := Lib.hid (keep_trans G.out hb)
  replace E : Hid (w6.heap[g]? = some (.cells #[.slice ak k.length ck, .slice av v.length cv] 29 (0, 0))) := Lib.hid ((hb.block g (by omega)).trans E.out)
  replace Lp : Hid (Lent w6 gp p) := Lib.hid ((hb.block gp (by omega)).trans Lp.out)
  replace C := Lib.hid (C.out.keep hb (by omega))
  replace Oa := Lib.hid (Oa.out.keep hb)
  replace Ob := Lib.hid (Ob.out.keep hb)
  clear hb
  go_wp2_with fail
  refine (same_any _ _ _ eb _ _ _ eb _ (by omega) (by omega) Oa.out.slI Ow.out.slI).mono ?_
  rintro e w7 ⟨rfl, hb⟩
  have s7 : w6.heap.size ≤ w7.heap.size := hb.size
  rw [decide_eq_true rfl]
  replace G := Lib.hid (keep_trans G.out hb)
  replace E : Hid (w7.heap[g]? = some (.cells #[.slice ak k.length ck, .slice av v.length cv] 29 (0, 0))) := Lib.hid ((hb.block g (by omega)).trans E.out)
  replace Lp : Hid (Lent w7 gp p) := Lib.hid ((hb.block gp (by omega)).trans Lp.out)
  replace C := Lib.hid (C.out.keep hb (by omega))
  replace Oa := Lib.hid (Oa.out.keep hb)
  replace Ob := Lib.hid (Ob.out.keep hb)
  replace Ow := Lib.hid (Ow.out.keep hb)
  clear hb
  go_wp2_with fail
  refine (spoil_any _ _ _ _ Oa.out.capB.2.2 Oa.out.soft).mono ?_
  rintro e w8 ⟨rfl, hg⟩
  have s8 : w7.heap.size ≤ w8.heap.size := hg.size
  have hrow : ∀ j, aOa.map (·.block) = some j → w3.heap.size ≤ j ∧ j < w4.heap.size := fun j hj => OaL.out j (by rw [own_map]; exact hj)
  replace G := Lib.hid (G.out.grown hg G.out.size (fun j hj => by have := hrow j hj; omega))
  replace E : Hid (w8.heap[g]? = some (.cells #[.slice ak k.length ck, .slice av v.length cv] 29 (0, 0))) := Lib.hid ((hg.block g (by omega) (fun e => by have := hrow _ e.symm; omega)).trans E.out)
  replace Lp : Hid (Lent w8 gp p) := Lib.hid ((hg.block gp (by omega) (fun e => by have := hrow _ e.symm; omega)).trans Lp.out)
  replace C := Lib.hid (C.out.same (fun j h1 h2 => hg.block j (by omega) (fun e => by have := hrow j e.symm; omega)))
  replace Ob := Lib.hid (Ob.out.grown hg (other_row OaL.out ObL.out (by omega)))
  replace Ow := Lib.hid (Ow.out.grown hg (other_row OaL.out OwL.out (by omega)))
  clear Oa hrow
  clear hg
  go_wp2_with fail
  refine (same_any _ _ _ eb _ _ _ eb _ (by omega) (by omega) Ob.out.slI Ow.out.slI).mono ?_
  rintro e w9 ⟨rfl, hb⟩
  have s9 : w8.heap.size ≤ w9.heap.size := hb.size
  rw [decide_eq_true rfl]
  replace G := Lib.hid (keep_trans G.out hb)
  replace E : Hid (w9.heap[g]? = some (.cells #[.slice ak k.length ck, .slice av v.length cv] 29 (0, 0))) := Lib.hid ((hb.block g (by omega)).trans E.out)
  replace Lp : Hid (Lent w9 gp p) := Lib.hid ((hb.block gp (by omega)).trans Lp.out)
  replace C := Lib.hid (C.out.keep hb (by omega))
  replace Ob := Lib.hid (Ob.out.keep hb)
  replace Ow := Lib.hid (Ow.out.keep hb)
  clear hb
  go_wp2_with fail
  refine (kept_any gp _ _ _ p _ (by omega) Lp.out (P.out.keep G.out)).mono ?_
  rintro e w10 ⟨rfl, hb⟩
  have s10 : w9.heap.size ≤ w10.heap.size := hb.size
  replace G := Lib.hid (keep_trans G.out hb)
  replace E : Hid (w10.heap[g]? = some (.cells #[.slice ak k.length ck, .slice av v.length cv] 29 (0, 0))) := Lib.hid ((hb.block g (by omega)).trans E.out)
  replace Lp : Hid (Lent w10 gp p) := Lib.hid ((hb.block gp (by omega)).trans Lp.out)
  replace C := Lib.hid (C.out.keep hb (by omega))
  replace Ob := Lib.hid (Ob.out.keep hb)
  replace Ow := Lib.hid (Ow.out.keep hb)
  clear hb
  have p0 : w10.cell? ⟨g, 0, none⟩ = some (.slice ak k.length ck) := by have := E.out; simp [World.cell?, this]
  have p1 : w10.cell? ⟨g, 1, none⟩ = some (.slice av v.length cv) := by have := E.out; simp [World.cell?, this]
  have hen := Ents.one w10 _ _ _ k _ _ _ v (K.out.keep G.out) (V.out.keep G.out)
  have EN := Lib.hid hen; clear hen
  have hba : Below w10.heap.size w10 (w10.alloc (.cells #[.slice ak k.length ck, .slice av v.length cv] 29)) := (Below.refl _ _).alloc (Nat.le_refl _) _
  replace G := Lib.hid (keep_trans G.out hba)
  replace E : Hid ((w10.alloc (.cells #[.slice ak k.length ck, .slice av v.length cv] 29)).heap[g]? = some (.cells #[.slice ak k.length ck, .slice av v.length cv] 29 (0, 0))) := Lib.hid ((hba.block g (by omega)).trans E.out)
  replace Lp : Hid (Lent (w10.alloc (.cells #[.slice ak k.length ck, .slice av v.length cv] 29)) gp p) := Lib.hid ((hba.block gp (by omega)).trans Lp.out)
  replace C := Lib.hid (C.out.keep hba (by omega))
  replace Ob := Lib.hid (Ob.out.keep hba)
  replace Ow := Lib.hid (Ow.out.keep hba)
  have sB : w10.heap.size ≤ (w10.alloc (.cells #[.slice ak k.length ck, .slice av v.length cv] 29)).heap.size := hba.size
  clear hba
  go_wp2_with fail
  generalize w10.alloc (.cells #[.slice ak k.length ck, .slice av v.length cv] 29) = wb at *
  refine (ekept_any _ _ _ _ _ _ [(k, v)] _ _ _ (by show 1 ≤ _; omega) HFit.out C.out (by omega) EN.out).mono ?_
  rintro e w11 ⟨rfl, hb⟩
  have s11 : wb.heap.size ≤ w11.heap.size := hb.size
  replace G := Lib.hid (keep_trans G.out hb)
  replace E : Hid (w11.heap[g]? = some (.cells #[.slice ak k.length ck, .slice av v.length cv] 29 (0, 0))) := Lib.hid ((hb.block g (by omega)).trans E.out)
  replace Lp : Hid (Lent w11 gp p) := Lib.hid ((hb.block gp (by omega)).trans Lp.out)
  replace C := Lib.hid (C.out.keep hb (by omega))
  replace Ob := Lib.hid (Ob.out.keep hb)
  replace Ow := Lib.hid (Ow.out.keep hb)
  clear hb
  go_wp2_with fail
  go_ret
  exact ⟨ret_bool (by simp), G.out⟩
end Go.Proofs.Ytajmojldckpchaa

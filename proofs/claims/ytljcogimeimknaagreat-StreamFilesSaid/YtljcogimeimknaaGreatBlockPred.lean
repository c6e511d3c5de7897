/- Is a restart above a key: contract. Conditions: numbers within reach. -/
import Derived.Test.YtljcogimeimknaaGreatBlockPlace
import Derived.Deep.RegionLaw
import Derived.Deep.DeepCutAuto
import Derived.Deep.DeepMust
namespace Go.Proofs.YtljcogimeimknaaGreat
open Go.RowKit
set_option linter.unusedVariables false
set_option linter.unusedSimpArgs false

theorem blk_keep' {w w' : World} {g : Nat} {o : Obj} (h : w.heap[g]? = some o) (hb : Below w.heap.size w w') : w'.heap[g]? = some o := (hb.block g (Array.getElem?_eq_some_iff.1 h).1).trans h
theorem kd1' {w : World} : Below w.heap.size w w.drew := keep_drewN (Below.refl _ _) 1
theorem kdA' {w : World} (o : Obj) : Below w.heap.size w (w.alloc o).drew := keep_drewN ((Below.refl _ _).alloc (Nat.le_refl _) o) 1
theorem bal {w V : World} (h : Below w.heap.size w V) (o : Obj) : Below w.heap.size w (V.alloc o) := h.trans (((Below.refl _ _).alloc (Nat.le_refl V.heap.size) o).mono h.size)
theorem ReadCut.old {w V w2 : World} {x : Ent} {q mid g : Nat} {er : Int} {vk vv y0 y1 : Value} (hV : Below w.heap.size w V) (e : Eb w2 g y0 y1) (hg : w.heap.size ≤ g) (hgV : g < V.heap.size) (o1 : OwT fB w2 V.heap.size 5 vk x.1) (o2 : OwT fB w2 mid 5 vv x.2) (o3 : ∀ j, vk.ownBlock = some j → j < mid) (o4 : V.heap.size ≤ mid) (hb : Below V.heap.size V w2) :
    ReadCut w x q er (.pointer (some ⟨g, 0, none⟩)) (.int .i64 q) (.int .i64 er) ((w2.setCell ⟨g, 0, none⟩ vk).setCell ⟨g, 1, none⟩ vv) := by
  have hb0 : Below w.heap.size w w2 := hV.trans (hb.mono hV.size)
  have hs := hV.size
  exact ⟨_, vk, vv, mid, rfl, rfl, rfl, (e.set0 vk).set1 vv, ((o1.offB hgV 0 vk).offB hgV 1 vv).base hs, (o2.offB (by omega) 0 vk).offB (by omega) 1 vv, o3, by omega, hg, (hb0.setCell (p := ⟨g, 0, none⟩) hg _).setCell (p := ⟨g, 1, none⟩) hg _⟩
theorem ReadCut.fresh {w V w2 : World} {x : Ent} {q mid : Nat} {er : Int} {vk vv : Value} (hV : Below w.heap.size w V) (o1 : OwT fB w2 V.heap.size 5 vk x.1) (o2 : OwT fB w2 mid 5 vv x.2) (o3 : ∀ j, vk.ownBlock = some j → j < mid) (o4 : V.heap.size ≤ mid) (hb : Below V.heap.size V w2) :
    ReadCut w x q er (.pointer (some ⟨w2.heap.size, 0, none⟩)) (.int .i64 q) (.int .i64 er) (w2.alloc (.cells #[vk, vv] 51)) := by
  have hb0 : Below w.heap.size w w2 := hV.trans (hb.mono hV.size)
  have hs := hV.size
  have h : Below w2.heap.size w2 (w2.alloc (.cells #[vk, vv] 51)) := (Below.refl _ _).alloc (Nat.le_refl _) _
  exact ⟨_, vk, vv, mid, rfl, rfl, rfl, heap_new w2 _, (o1.keep h).base hs, o2.keep h, o3, by omega, hb0.size, hb0.trans (h.mono hb0.size)⟩
set_option maxRecDepth 100000 in
set_option maxHeartbeats 4000000 in
theorem pred_any (g3 g10 g5 g9 : Nat) (ab : Option Addr) (nb cb : Nat) (b : List UInt8) (at' : Option Addr) (nt ct : Nat) (t : List UInt8) (ak : Option Addr) (nk ck : Nat) (key : List UInt8) (m i : Nat) (w : World)
    (hnb : nb ≤ 140737488351232) (hB : Sl Bf w ab nb cb b) (hT : Sl Bf w at' nt ct t) (hK : Sl Bf w ak nk ck key) (ht : t = b.drop (b.length - 2 * m)) (hm : 2 * m ≤ b.length) (hi : i < m)
    (h3 : w.heap[g3]? = some (.cells #[.slice ab nb cb] 22 (0, 0))) (h9 : w.heap[g9]? = some (.cells #[.slice at' nt ct] 22 (0, 0))) (h5 : w.heap[g5]? = some (.cells #[.slice ak nk ck] 22 (0, 0)))
    (h10 : w.heap[g10]? = some (.cells #[.func (.func 133) #[] #[.pointer (some ⟨g9, 0, none⟩)]] 199 (0, 0))) :
    Calls Tryz.prog 134 #[.int .i64 (i : Nat), .pointer (some ⟨g3, 0, none⟩), .pointer (some ⟨g10, 0, none⟩), .pointer (some ⟨g5, 0, none⟩)] w fun e w' => e = .returned (.bool (fpr b key m i)) ∧ Below w.heap.size w w' := by
  obtain rfl : b.length = nb := hB.len
  obtain ⟨⟨x, q, er⟩, hX⟩ : ∃ X, erd [] b (plc b m i : Nat) = X := ⟨_, rfl⟩
  have HX := Lib.hid hX
  have hnt : t.length = nt := hT.len
  have htl : t.length = 2 * m := by rw [ht, List.length_drop]; omega
  have hpl : ((t.getD (2 * i) 0).toNat + 256 * (t.getD (2 * i + 1) 0).toNat : Nat) = plc b m i := by
    unfold plc
    rw [ht]
    simp only [List.getD_eq_getElem?_getD, List.getElem?_drop]
    rfl
  have HP := Lib.hid (fun (W : World) (hW : Below w.heap.size w W) => by
    have := place_any g9 at' nt ct t i W (by omega) (hT.keep hW) ((hW.block g9 (Array.getElem?_eq_some_iff.1 h9).1).trans h9) (by omega)
    rw [hpl] at this
    exact this)
  have HRD := Lib.hid (fun (W : World) (hW : Below w.heap.size w W) => show Calls Tryz.prog 135 #[.slice none 0 0, .slice ab b.length cb, .int .i64 (plc b m i : Nat)] W (fun e w' => RdPost W x.1 x.2 q er e w') from by
    have := epread_z none 0 0 [] ab b.length cb b (plc b m i : Nat) W (by omega) (by omega) (Sl.nil Bf W) (hB.keep hW)
    rw [hX] at this
    exact this)
  have HK := Lib.hid hK
  have H5 := Lib.hid h5
  have H3 := Lib.hid h3
  have l3 : g3 < w.heap.size := (Array.getElem?_eq_some_iff.1 h3).1
  have l10 : g10 < w.heap.size := (Array.getElem?_eq_some_iff.1 h10).1
  have n3 : g3 ≠ w.heap.size := by omega
  have n10 : g10 ≠ w.heap.size := by omega
  have c3 := cell_of h3 0 rfl
  have c10 := cell_of h10 0 rfl
  have EA := Lib.hid (show Eb (w.alloc (.cells #[.slice none 0 0, .slice none 0 0] 51)).drew w.heap.size (.slice none 0 0) (.slice none 0 0) from heap_new w _)
  have HF := Lib.hid (show fpr b key m i = (decide (er ≠ 0) || decide (0 < cmp x.1 key)) by unfold fpr; rw [hX])
  generalize fpr b key m i = fr at *
  generalize plc b m i = pz at *
  clear hX h3 h9 h5 h10 hB hT hK ht hnt htl hpl
  go_enter Tryz.func134, Tryz.ntmps134
  go_upto_region 1 with (fail)
  go_cut [6, 7, 8] (fun b6 b7 b8 wx => ReadCut w x q er b6 b7 b8 wx)
  case first =>
    go_region_with (first
      | (go_at_call 133; first
        | (refine (HP.out w.drew kd1').mono ?_; rintro r V ⟨rfl, hb⟩; have HV := Lib.hid (keep_trans (kd1' (w := w)) hb); have v3 := cell_of (blk_keep' H3.out HV.out) 0 rfl; have q3 : g3 < V.heap.size := Nat.lt_of_lt_of_le l3 HV.out.size; have q3n : g3 ≠ V.heap.size := Nat.ne_of_lt q3)
        | (go_must (refine (HP.out (w.alloc (.cells #[.slice none 0 0, .slice none 0 0] 51)).drew (kdA' _)).mono ?_; rintro r V ⟨rfl, hb⟩; have HV := Lib.hid (keep_trans (kdA' (w := w) _) hb); have EV := Lib.hid (Eb.keep EA.out hb); have hgV := EV.out.lt; have v3 := cell_of (blk_keep' H3.out HV.out) 0 rfl; have q3 : g3 < V.heap.size := Nat.lt_of_lt_of_le l3 HV.out.size; have q3n : g3 ≠ V.heap.size := Nat.ne_of_lt q3)))
      | (go_at_call 135; first
        | (refine (HRD.out V HV.out).mono ?_; rintro r w2 ⟨vk, vv, mid, rfl, o1, o2, o3, o4, hb6⟩; obtain ⟨ax, nx, cx, rfl, zk⟩ := o1.slN; obtain ⟨av, nv, cv, rfl, zv⟩ := o2.slN; first
            | (have eb := Eb.keep EV.out hb6; have x0 := eb.c0; have x1 := eb.c1; have f0 := eb.free 0; have f1 := eb.free 1)
            | skip)
        | (refine (HRD.out (V.alloc (.cells #[.slice none 0 0, .slice none 0 0] 51)) (bal HV.out _)).mono ?_; rintro r w2 ⟨vk, vv, mid, rfl, o1, o2, o3, o4, hb6⟩; obtain ⟨ax, nx, cx, rfl, zk⟩ := o1.slN; obtain ⟨av, nv, cv, rfl, zv⟩ := o2.slN; have eb := Eb.keep (heap_new V _ : Eb (V.alloc (.cells #[.slice none 0 0, .slice none 0 0] 51)) V.heap.size (.slice none 0 0) (.slice none 0 0)) hb6; have x0 := eb.c0; have x1 := eb.c1; have f0 := eb.free 0; have f1 := eb.free 1)))
    all_goals
      go_wp2_with fail
      go_meet
      first | exact .fresh HV.out o1 o2 o3 o4 hb6 | exact .old HV.out eb (Nat.le_refl _) hgV o1 o2 o3 o4 hb6 | exact .old (bal HV.out _) eb HV.out.size (by simp) o1 o2 o3 o4 hb6
  case rest =>
    obtain ⟨w5, rfl⟩ : ∃ w5, w5 = wc := ⟨_, rfl⟩
    obtain ⟨ge, vk, vv, mid, rfl, rfl, rfl, he, o1, o2, o3, o4, hge, hb5⟩ := hcut
    obtain ⟨ax, nx, cx, rfl, zk⟩ := o1.slN
    obtain ⟨av, nv, cv, rfl, zv⟩ := o2.slN
    have e0 := he.c0
    have c5 := cell_of (blk_keep' H5.out hb5) 0 rfl
    have CM := Lib.hid (bcompare_any ax nx cx x.1 ak nk ck key w5 zk (HK.out.keep hb5))
    have B5 := Lib.hid hb5
    clear c3 c10 hb5 he o1 o2 o3 o4 zk zv HP HRD EA HK
    by_cases hz : er = 0
    · subst hz
      go_wp2_with fail
      refine CM.out.mono ?_
      rintro e w6 ⟨rfl, rfl⟩
      go_wp2_with fail
      go_ret
      exact ⟨by rw [HF.out]; simp, B5.out⟩
    · have t1 : (er != 0) = true := by rw [bne_iff_ne]; exact hz
      have HZ := Lib.hid hz
      clear hz
      go_wp2_with fail
      go_ret
      exact ⟨by rw [HF.out]; simp [HZ.out], B5.out⟩
end Go.Proofs.YtljcogimeimknaaGreat

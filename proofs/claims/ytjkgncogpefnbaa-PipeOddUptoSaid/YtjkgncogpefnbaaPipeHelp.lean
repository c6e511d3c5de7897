/- The helpers source and sink: the program's and the document's, what they were made of written over: contracts. Conditions: what they are handed within reach. -/
import Derived.Test.YtjkgncogpefnbaaPipeLives
import Derived.Deep.RegionHeld3
import Derived.Deep.DeepCutAuto
namespace Go.Proofs.Ytjkgncogpefnbaa
open Go.RowKit
set_option linter.unusedVariables false
set_option linter.unusedSimpArgs false

/-- every place of a slice holds something and may be written -/
def SoftV (w : World) (a : Option Addr) (n : Nat) : Prop := ∀ i, i < n → ∃ v b o, a = some ⟨b, o, none⟩ ∧ w.cell? ⟨b, o + i, none⟩ = some v ∧ w.frozen? ⟨b, o + i, none⟩ = false
theorem SoftV.set {w : World} {b o n k : Nat} (h : SoftV w (some ⟨b, o, none⟩) n) (y : Value) : SoftV (w.setCell ⟨b, o + k, none⟩ y) (some ⟨b, o, none⟩) n := by
  intro i hi
  obtain ⟨x, b', o', e, hc, hf⟩ := h i hi
  cases e
  by_cases hik : i = k
  · subst hik
    exact ⟨y, b, o, rfl, World.cell?_setCell_same _ _ _ hc, (World.frozen?_setCell _ _ _ _).trans hf⟩
  · exact ⟨x, b, o, rfl, (World.cell?_setCell_other _ _ _ _ (by simp)).trans hc, (World.frozen?_setCell _ _ _ _).trans hf⟩
theorem OwT.softZ {w : World} {base : Nat} {e : TypeId} {a : Option Addr} {n c : Nat} {xs : List Int} (h : OwT fZs w base e (.slice a n c) xs) : SoftV w a n := by
  rcases h with ⟨hv, _⟩ | ⟨g, cap, ys, hv, hg, hh, hl, hn, hc, ht⟩
  · cases hv; intro i hi; omega
  · cases hv
    intro i hi
    have hy : ys[i]? = some ys[i] := List.getElem?_eq_getElem (by omega)
    have e : ys.flatMap fZs = ys.map fZ := by clear hh hl hn hc ht hy hi; induction ys <;> simp_all [fZs]
    refine ⟨fZ ys[i], g, 0, rfl, ?_, ?_⟩
    · simp only [World.cell?, hh, Nat.zero_add, e]; simp [hy]
    · simp [World.frozen?, hh]
theorem frozen_block {w w' : World} {b i : Nat} (h : w'.heap[b]? = w.heap[b]?) : w'.frozen? ⟨b, i, none⟩ = w.frozen? ⟨b, i, none⟩ := by simp only [World.frozen?, h]
theorem SoftV.turns {w w' : World} {a : Option Addr} {n : Nat} {T : Nat → Prop} (h : SoftV w a n) (ht : Turns T w w') (hd : ∀ b o, a = some ⟨b, o, none⟩ → ¬ T b) : SoftV w' a n := by
  intro i hi
  obtain ⟨x, b, o, e, hc, hf⟩ := h i hi
  have hb := ht.block b (cell_lt hc) (hd b o e)
  exact ⟨x, b, o, e, (World.cell?_of_block (w := w) hb).trans hc, (frozen_block hb).trans hf⟩
theorem Soft.turns {w w' : World} {a : Option Addr} {n : Nat} {T : Nat → Prop} (h : Soft w a n) (ht : Turns T w w') (hd : ∀ b o, a = some ⟨b, o, none⟩ → ¬ T b) : Soft w' a n := by
  intro i hi
  obtain ⟨x, b, o, e, hc, hf⟩ := h i hi
  have hb := ht.block b (cell_lt hc) (hd b o e)
  exact ⟨x, b, o, e, (World.cell?_of_block (w := w) hb).trans hc, (frozen_block hb).trans hf⟩
/-- the reference's source, not odd, called k times, at byte i -/
def rcells (ab : Option Addr) (nb cb : Nat) (ag : Option Addr) (ng cg : Nat) (xf : Int) (eager : Bool) (k i : Nat) : Array Value :=
  #[.slice ab nb cb, .slice ag ng cg, .int .i64 xf, .bool eager, .int .i64 (k : Nat), .int .i64 (i : Nat), .bool false, .slice none 0 0, .slice none 0 0, .int .u8 0, .int .u8 0, .slice none 0 0]
set_option maxRecDepth 100000 in
set_option maxHeartbeats 4000000 in
theorem source_any (ab : Option Addr) (nb cb : Nat) (bs : List UInt8) (ag : Option Addr) (ng cg : Nat) (gs : List Int) (xf : Int) (eager : Bool) (w : World)
    (hnb : nb ≤ 140737488351232) (hng : ng ≤ 17592186043904) (hI : Ints gs) (hB : Sl Bf w ab nb cb bs) (hG : Sl fZ w ag ng cg gs) :
    Calls Try.prog 12 #[.agg #[.slice ab nb cb, .slice ag ng cg, .int .i64 xf, .bool eager]] w fun e w' => ∃ g S gr, e = .returned (.tuple #[.pointer (some ⟨g, 0, none⟩), .pointer (some ⟨gr, 0, none⟩)]) ∧ SrcP g w.heap.size ⟨gs, xf, 0, bs, eager⟩ S w' ∧
      w'.heap[gr]? = some (.cells (rcells ab nb cb ag ng cg xf eager 0 0) 48 (0, 0)) ∧ ¬ S gr ∧ w.heap.size ≤ gr ∧ Below w.heap.size w w' := by
  obtain rfl : bs.length = nb := hB.len
  obtain rfl : gs.length = ng := hG.len
  have b0 : Below w.heap.size w (w.alloc (.cells #[.slice ab bs.length cb, .slice ag gs.length cg, .int .i64 xf, .bool eager] 26)) := (Below.refl _ _).alloc (Nat.le_refl _) _
  have BX := Lib.hid (heap_new w (.cells #[.slice ab bs.length cb, .slice ag gs.length cg, .int .i64 xf, .bool eager] 26))
  have c0 := cell_of BX.out 0 rfl
  have c1 := cell_of BX.out 1 rfl
  have c2 := cell_of BX.out 2 rfl
  have c3 := cell_of BX.out 3 rfl
  have HB := Lib.hid hB; have HG := Lib.hid hG; have HI := Lib.hid hI
  have B0 := Lib.hid b0
  clear hB hG hI b0
  go_enter Try.func12, Try.ntmps12
  go_upto_region 2 with (fail)
  have BX0 := Lib.hid (show ((w.alloc (.cells #[.slice ab bs.length cb, .slice ag gs.length cg, .int .i64 xf, .bool eager] 26)).alloc (.cells #[.slice ab bs.length cb, .slice ag gs.length cg, .int .i64 xf, .bool eager] 26)).heap[w.heap.size]? = some (.cells #[.slice ab bs.length cb, .slice ag gs.length cg, .int .i64 xf, .bool eager] 26 (0, 0)) from blk_keep BX.out ((Below.refl _ _).alloc (Nat.le_refl _) _))
  have BO0 := Lib.hid (show ((w.alloc (.cells #[.slice ab bs.length cb, .slice ag gs.length cg, .int .i64 xf, .bool eager] 26)).alloc (.cells #[.slice ab bs.length cb, .slice ag gs.length cg, .int .i64 xf, .bool eager] 26)).heap[w.heap.size + 1]? = some (.cells #[.slice ab bs.length cb, .slice ag gs.length cg, .int .i64 xf, .bool eager] 26 (0, 0)) from by have := heap_new (w.alloc (.cells #[.slice ab bs.length cb, .slice ag gs.length cg, .int .i64 xf, .bool eager] 26)) (.cells #[.slice ab bs.length cb, .slice ag gs.length cg, .int .i64 xf, .bool eager] 26); simpa using this)
  have B00 := Lib.hid (show Below w.heap.size w ((w.alloc (.cells #[.slice ab bs.length cb, .slice ag gs.length cg, .int .i64 xf, .bool eager] 26)).alloc (.cells #[.slice ab bs.length cb, .slice ag gs.length cg, .int .i64 xf, .bool eager] 26)) from ((Below.refl _ _).alloc (Nat.le_refl _) _).alloc (by simp) _)
  clear c0 c1 c2 c3 BX B0
  generalize (w.alloc (.cells #[.slice ab bs.length cb, .slice ag gs.length cg, .int .i64 xf, .bool eager] 26)).alloc (.cells #[.slice ab bs.length cb, .slice ag gs.length cg, .int .i64 xf, .bool eager] 26) = w0 at *
  obtain ⟨go, hgo⟩ : ∃ go, w.heap.size + 1 = go := ⟨_, rfl⟩
  rw [hgo] at BO0 ⊢
  have hwgo : w.heap.size < go := by omega
  clear hgo
  have hz0 : go < w0.heap.size := (Array.getElem?_eq_some_iff.1 BO0.out).1
  have HBW := Lib.hid (HB.out.keep B00.out)
  have HGW := Lib.hid (HG.out.keep B00.out)
  have k0 : (w0.alloc (.cells #[] 5)).cell? ⟨w.heap.size, 0, none⟩ = some (.slice ab bs.length cb) := cell_of (blk_keep BX0.out ((Below.refl _ _).alloc (Nat.le_refl _) _)) 0 rfl
  go_upto_region 3 with (at_builtin; refine wpList_appT eltTB rfl (.tmp 8) (.tmp 10) rfl w0.heap.size _ [] (by rfl) (OwT.lit fB _ w0.heap.size _ _ [] 0 rfl rfl (Nat.le_refl _) (Nat.zero_le _)) ab bs.length cb bs (by rfl) (HBW.out.keep ((Below.refl _ _).alloc (Nat.le_refl _) _)).toT (by unfold maxLen; simp; omega) (by simp; omega) (by simp) bs rfl ?_; intro v2 w2 h2 hg2 hv2 hb2; obtain ⟨a2, n2, c2, rfl, z2⟩ := h2.slN; have L2 := z2.len; have O2 := Lib.hid h2; have BE2 := Lib.hid ((((Below.refl w0.heap.size w0).alloc (Nat.le_refl _) (.cells #[] 5)).trans hb2)); have BO2 := Lib.hid (blk_keep BO0.out BE2.out); have s0 := cell_of BO2.out 0 rfl; have f0 := free_block BO2.out 0; clear h2 hg2 hv2 hb2 z2)
  subst L2
  have T2 := Lib.hid ((Turns.of_below (S := fun j => j = go) BE2.out).trans (Turns.set (S := fun j => j = go) w2 (b := go) (i := 0) rfl (.slice a2 bs.length c2)) fun _ _ e => e)
  have BO3 := Lib.hid (set_block (i := 0) BO2.out (.slice a2 bs.length c2))
  have O3 := Lib.hid (O2.out.turns (Turns.set (S := fun j => j = go) w2 (b := go) (i := 0) rfl (.slice a2 bs.length c2)) fun j hj e => by have := (O2.out.lt j hj).1; omega)
  clear BE2 BO2 O2 s0 f0 k0
  generalize w2.setCell ⟨go, 0, none⟩ (.slice a2 bs.length c2) = W2 at *
  have BX2 := Lib.hid (T2.out.heap BX0.out (by omega))
  have HGX := Lib.hid (HGW.out.turns T2.out fun b o e hn h => by have : b < w.heap.size := by subst e; exact HG.out.blt hn
                                                                 omega)
  have k1 : (W2.alloc (.cells #[] 3)).cell? ⟨w.heap.size, 1, none⟩ = some (.slice ag gs.length cg) := cell_of (blk_keep BX2.out ((Below.refl _ _).alloc (Nat.le_refl _) _)) 1 rfl
  have hz2 : w0.heap.size ≤ W2.heap.size := T2.out.size
  go_upto_region 4 with (at_builtin; refine wpList_appT eltTZ rfl (.tmp 13) (.tmp 15) rfl W2.heap.size _ [] (by rfl) (OwT.lit fZs _ W2.heap.size _ _ [] 0 rfl rfl (Nat.le_refl _) (Nat.zero_le _)) ag gs.length cg gs (by rfl) (HGX.out.keep ((Below.refl _ _).alloc (Nat.le_refl _) _)).toT (by unfold maxLen; simp; omega) (by simp; omega) (by simp) gs rfl ?_; intro v4 w4 h4 hg4 hv4 hb4; obtain ⟨a4, c4, rfl, z4⟩ := h4.slZ; have O4 := Lib.hid h4; have BE4 := Lib.hid ((((Below.refl W2.heap.size W2).alloc (Nat.le_refl _) (.cells #[] 3)).trans hb4)); have BO4 := Lib.hid (blk_keep BO3.out BE4.out); have s1 := cell_of BO4.out 1 rfl; have f1 := free_block BO4.out 1; clear h4 hg4 hv4 hb4 z4)
  have T4 := Lib.hid ((Turns.of_below (S := fun j => j = go) BE4.out).trans (Turns.set (S := fun j => j = go) w4 (b := go) (i := 1) rfl (.slice a4 gs.length c4)) fun _ _ e => e)
  have BO5 : Hid ((w4.setCell ⟨go, 1, none⟩ (.slice a4 gs.length c4)).heap[go]? = some (.cells #[.slice a2 bs.length c2, .slice a4 gs.length c4, .int .i64 xf, .bool eager] 26 (0, 0))) := Lib.hid (set_block (i := 1) BO4.out (.slice a4 gs.length c4))
  have O5 := Lib.hid (O4.out.turns (Turns.set (S := fun j => j = go) w4 (b := go) (i := 1) rfl (.slice a4 gs.length c4)) fun j hj e => by have := (O4.out.lt j hj).1; omega)
  clear BE4 BO4 O4 s1 f1 k1 BO3
  generalize w4.setCell ⟨go, 1, none⟩ (.slice a4 gs.length c4) = W4 at *
  have O3' := Lib.hid (O3.out.turns T4.out fun j hj e => by have := (O3.out.lt j hj).1; omega)
  have BX4 := Lib.hid (T4.out.heap BX2.out (by omega))
  have B4 := Lib.hid ((T2.out.trans T4.out fun _ _ e => e).below B00.out B00.out.size fun j e => by omega)
  have hz4 : W2.heap.size ≤ W4.heap.size := T4.out.size
  have o0 := cell_of BO5.out 0 rfl
  have o1 := cell_of BO5.out 1 rfl
  have o2 := cell_of BO5.out 2 rfl
  have o3 := cell_of BO5.out 3 rfl
  have S3 := Lib.hid (show Sl Bf W4 a2 bs.length c2 bs from O3'.out.slI)
  have S5 := Lib.hid (show Sl fZ W4 a4 gs.length c4 gs by obtain ⟨_, _, e, hs⟩ := O5.out.slZ; cases e; exact hs)
  go_wp2_with fail
  refine (newSource_any a2 bs.length c2 bs a4 gs.length c4 gs xf eager W4 hnb hng HI.out S3.out S5.out).mono ?_
  rintro e w5 ⟨g, S, rfl, hs5, hb5⟩
  have SP5 := Lib.hid hs5
  have B5 := Lib.hid (keep_trans B4.out hb5)
  have BX5 := Lib.hid (blk_keep BX4.out hb5)
  have BO6 := Lib.hid (blk_keep BO5.out hb5)
  have OB5 := Lib.hid (O3'.out.keep hb5)
  have OZ5 := Lib.hid (O5.out.keep hb5)
  have hcap := OB5.out.capB
  have hcc : c2 ≤ 9223372036854775807 := hcap.2.2
  have p0 := cell_of BO6.out 0 rfl
  have lB := O3.out.lt
  have lZ := O5.out.lt
  have LB := Lib.hid lB
  have LZ := Lib.hid lZ
  have hz5 : W4.heap.size ≤ w5.heap.size := hb5.size
  clear hs5 hb5 o0 o1 o2 o3 hcap lB lZ
  go_wp2_with fail
  refine (spoil_any a2 bs.length c2 w5 hcc OB5.out.soft).mono ?_
  rintro e w6 ⟨rfl, hg6⟩
  have T6 := Lib.hid (Turns.of_grown (S := fun j => Value.ownBlock (.slice a2 bs.length c2) = some j) hg6 fun j e => by rw [own_map]; exact e)
  have SP6 := Lib.hid (SP5.out.turns T6.out fun j hj e => by have := (SP5.out.inS j hj).1; have := LB.out j e; omega)
  have BO7 := Lib.hid (T6.out.heap BO6.out fun e => by have := LB.out _ e; omega)
  have BX6 := Lib.hid (T6.out.heap BX5.out fun e => by have := LB.out _ e; omega)
  have SV6 := Lib.hid (OZ5.out.softZ.turns T6.out fun b o e h => by subst e; have := LZ.out b rfl; have := LB.out b h; omega)
  have B6 := Lib.hid (T6.out.below B5.out B5.out.size fun j e => by have := LB.out j e; omega)
  have hz6 : w5.heap.size ≤ w6.heap.size := T6.out.size
  clear hg6 p0 SP5 BO6 BX5 OB5 OZ5
  go_wp2_with fail
  go_loopw [6] (fun i wr => ∃ k : Nat, k ≤ gs.length ∧ i = .int .i64 (k : Nat) ∧ SoftV wr a4 gs.length ∧ Turns (fun j => Value.ownBlock (.slice a4 gs.length c4) = some j) w6 wr) (fun i _ => gs.length - (intOf i).toNat)
  case atStart => exact ⟨0, Nat.zero_le _, rfl, SV6.out, .refl _ _⟩
  case round =>
    obtain ⟨k, hk, rfl, hs, ht⟩ := hrel
    have SV := Lib.hid hs
    have TT := Lib.hid ht
    clear hs ht
    have BOR := Lib.hid (TT.out.heap BO7.out fun e => by have := LZ.out _ e; omega)
    have q1 := cell_of BOR.out 1 rfl
    by_cases hlt : k < gs.length
    · obtain ⟨v, b, o, rfl, hc, hf⟩ := SV.out k hlt
      go_wp2_with fail
      go_roundw
      case rel => exact ⟨k + 1, by omega, by go_num, SV.out.set _, TT.out.trans (Turns.set (S := fun j => Value.ownBlock (.slice (some ⟨b, o, none⟩) gs.length c4) = some j) wr (b := b) (i := o + k) rfl (.int .i64 1)) fun _ _ e => e⟩
      case measure => simp [intOf]; omega
    · have SPR := Lib.hid (SP6.out.turns TT.out fun j hj e => by have := (SP6.out.inS j hj).1; have := LZ.out j e; omega)
      have BXR := Lib.hid (TT.out.heap BX6.out fun e => by have := LZ.out _ e; omega)
      have BR := Lib.hid (TT.out.below B6.out B6.out.size fun j e => by have := LZ.out j e; omega)
      have q0 := cell_of BXR.out 0 rfl
      have q2 := cell_of BXR.out 1 rfl
      have q3 := cell_of BXR.out 2 rfl
      have q4 := cell_of BXR.out 3 rfl
      go_wp2_with fail
      go_region
      go_wp2_with fail
      go_ret2
      have hb9 : Below wr.heap.size wr (wr.alloc (.cells (rcells ab bs.length cb ag gs.length cg xf eager 0 0) 48)).drew := (((Below.refl _ _).alloc (Nat.le_refl _) _).drew)
      have sp9 := SPR.out.keep hb9
      have hbs := BR.out.size
      exact ⟨g, S, wr.heap.size, rfl, ⟨sp9.blk, sp9.own, fun j hj => ⟨by have := (SP6.out.inS j hj).1; have := hwgo; omega, (sp9.inS j hj).2⟩, sp9.ints⟩, heap_new wr _, fun h => by have := (SPR.out.inS _ h).2; omega, hbs, keep_trans BR.out hb9⟩
end Go.Proofs.Ytjkgncogpefnbaa

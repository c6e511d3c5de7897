/- The contracts of the program's table.twice and Join. No condition. -/
import Derived.Test.YtaablclccklhnaaCrcJoin
import Derived.Deep.Cut
namespace Go.Proofs.Ytaablclccklhnaa
open Go.RowKit

/-- the cells of a table -/
def tcs (t : Nat → BitVec 32) : List Value := (List.range 32).map fun i => .int .u32 (U (t i))
theorem tcs_length (t : Nat → BitVec 32) : (tcs t).length = 32 := by simp [tcs]
theorem tcs_get (t : Nat → BitVec 32) (i : Nat) (h : i < 32) : (tcs t)[i]? = some (.int .u32 (U (t i))) := by simp [tcs, h]
theorem tcs_one (t : Nat → BitVec 32) : ∀ v ∈ tcs t, v.oneCell' = true := by
  intro v hv; simp only [tcs, List.mem_map] at hv; obtain ⟨i, _, rfl⟩ := hv; rfl
theorem tcs_set (t : Nat → BitVec 32) (k : Nat) (v : BitVec 32) : (tcs t).set k (.int .u32 (U v)) = tcs (fun i => if i = k then v else t i) := by
  apply List.ext_getElem?
  intro i
  by_cases hi : i < 32
  · have r := tcs_get (fun i => if i = k then v else t i) i hi
    rw [r, List.getElem?_set, tcs_get t i hi]
    by_cases hik : k = i
    · subst hik; simp [tcs_length, hi]
    · have : ¬ i = k := fun e => hik e.symm
      simp [hik, this]
  · rw [List.getElem?_eq_none (by simp [tcs_length]; omega), List.getElem?_eq_none (by simp [tcs_length]; omega)]

/-- a table that fills a block -/
def Arr (w : World) (g : Nat) (t : Nat → BitVec 32) : Prop := w.heap[g]? = some (.cells (tcs t).toArray 61 (0, 0))
theorem Arr.lt {w : World} {g : Nat} {t : Nat → BitVec 32} (h : Arr w g t) : g < w.heap.size := (Array.getElem?_eq_some_iff.1 h).1
theorem Arr.keep {w w' : World} {g : Nat} {t : Nat → BitVec 32} (h : Arr w g t) (hb : Below w.heap.size w w') : Arr w' g t := (hb.block g h.lt).trans h
theorem Arr.cell {w : World} {g : Nat} {t : Nat → BitVec 32} (h : Arr w g t) (i : Nat) (hi : i < 32) : w.cell? ⟨g, i, none⟩ = some (.int .u32 (U (t i))) := by
  unfold Arr at h
  simp only [World.cell?, h]
  simpa using tcs_get t i hi
theorem Arr.tab {w : World} {g : Nat} {t : Nat → BitVec 32} (h : Arr w g t) : Tab w g t := fun i hi => h.cell i hi
theorem Arr.free {w : World} {g : Nat} {t : Nat → BitVec 32} (h : Arr w g t) (i : Nat) : w.frozen? ⟨g, i, none⟩ = false := by
  unfold Arr at h
  simp [World.frozen?, h]
theorem Arr.range {w : World} {g : Nat} {t : Nat → BitVec 32} (h : Arr w g t) : w.rangeAt g 0 (tcs t) := by
  intro j v hv
  have hj : j < 32 := by have := (List.getElem?_eq_some_iff.1 hv).1; simpa [tcs_length] using this
  rw [Nat.zero_add, h.cell j hj, ← tcs_get t j hj, hv]
theorem Arr.there {w : World} {g : Nat} {t : Nat → BitVec 32} (h : Arr w g t) (n : Nat) (hn : n = 32) : w.there g 0 n := by
  subst hn
  intro j hj
  rw [Nat.zero_add]
  exact ⟨by rw [h.cell j hj]; rfl, h.free j⟩
theorem Arr.set {w : World} {g : Nat} {t : Nat → BitVec 32} (h : Arr w g t) (k : Nat) (v : BitVec 32) : Arr (w.setCell ⟨g, k, none⟩ (.int .u32 (U v))) g (fun i => if i = k then v else t i) := by
  unfold Arr at h ⊢
  simp only [World.setCell, Array.getElem?_modify, if_true]
  rw [h]
  simp [← tcs_set]
theorem Arr.other {w : World} {g g' : Nat} {t : Nat → BitVec 32} (h : Arr w g t) (k : Nat) (v : Value) (hne : g ≠ g') : Arr (w.setCell ⟨g', k, none⟩ v) g t := by
  unfold Arr at h ⊢
  rw [Below.heap_setCell _ _ _ _ hne]; exact h
theorem Arr.setAll {w : World} {g : Nat} {t : Nat → BitVec 32} (h : Arr w g t) (t' : Nat → BitVec 32) : Arr (w.setCells g 0 (tcs t')) g t' := by
  have key : ∀ (vs : List Value) (o : Nat) (w : World) (cur : Array Value), w.heap[g]? = some (.cells cur 61 (0, 0)) → o + vs.length ≤ cur.size →
      ∃ cur', (w.setCells g o vs).heap[g]? = some (.cells cur' 61 (0, 0)) ∧ cur'.toList = cur.toList.take o ++ vs ++ cur.toList.drop (o + vs.length) := by
    intro vs
    induction vs with
    | nil => intro o w cur hw _; exact ⟨cur, hw, by simp⟩
    | cons v vs ih =>
      intro o w cur hw hle
      simp only [List.length_cons] at hle
      have h1 : (w.setCell ⟨g, o, none⟩ v).heap[g]? = some (.cells (cur.setIfInBounds o v) 61 (0, 0)) := by
        simp only [World.setCell, Array.getElem?_modify, if_true]
        rw [hw]; simp
      obtain ⟨cur', h2, h3⟩ := ih (o + 1) _ _ h1 (by simp; omega)
      refine ⟨cur', h2, ?_⟩
      rw [h3]
      simp only [Array.toList_setIfInBounds, List.length_cons]
      have ho : o < cur.toList.length := by simp; omega
      rw [List.take_succ_eq_append_getElem (by simpa using ho)]
      simp
      rw [show o + (vs.length + 1) = o + 1 + vs.length by omega, List.take_set, List.set_eq_of_length_le (by simp; omega), List.drop_set_of_lt (by omega)]
  obtain ⟨cur', h2, h3⟩ := key (tcs t') 0 w _ h (by simp [tcs_length])
  unfold Arr
  rw [h2]
  have : cur'.toList = tcs t' := by rw [h3]; simp [tcs_length]
  rw [← this]
theorem below_setCells {b : Nat} {w : World} (g : Nat) (hg : b ≤ g) : ∀ (vs : List Value) (w1 : World), Below b w w1 → ∀ o, Below b w (w1.setCells g o vs)
  | [], _, h, _ => h
  | v :: vs, _, h, o => below_setCells g hg vs _ (h.setCell (p := ⟨g, o, none⟩) hg v) (o + 1)
theorem Arr.new (w : World) (t : Nat → BitVec 32) (cs : Array Value) (h : cs = (tcs t).toArray) : Arr (w.alloc (.cells cs 61)) w.heap.size t := by
  subst h; exact heap_new w _

theorem results_cell1 {fn : Func} {p : Tmp} {ty : TypeId} (h : fn.results = #[.cell p ty]) (tmps : Array Value) (P : Program) (w : World) (a : Addr) (v : Value)
    (hp : tmps.getD p undef = .pointer (some a)) (hl : (loadVar ty a).run P w = .ok v w) : (results fn tmps).run P w = .ok v w := by
  have hp' : tmps[p]?.getD undef = .pointer (some a) := by rw [← hp]; simp
  simp [results, h, hp', asAddr, hl]

set_option maxHeartbeats 400000 in
set_option maxRecDepth 100000 in
theorem twice_any (g : Nat) (t : Nat → BitVec 32) (w : World) (h : Tab w g t) :
    Calls Try.prog 42 #[.pointer (some ⟨g, 0, none⟩)] w fun e w' => e = .returned (.agg (tcs (fun i => ofN t (t i) 32)).toArray) ∧ Below w.heap.size w w' := by
  have H := Lib.hid h; clear h
  go_enter Try.func42, Try.ntmps42
  go_wp2_with fail
  go_loopw [5] (fun i wr => ∃ k : Nat, k ≤ 32 ∧ i = .int .i64 k ∧ Arr wr w.heap.size (fun _ => 0#32) ∧ Arr wr (w.heap.size + 1) (fun i => if i < k then ofN t (t i) 32 else 0#32) ∧ Below w.heap.size w wr) (fun i _ => 32 - (intOf i).toNat)
  case atStart =>
    have a1 := (Arr.new w (fun _ => 0#32) _ rfl).keep ((Below.refl _ _).alloc (Nat.le_refl _) (.cells (tcs fun _ => 0#32).toArray 61))
    have a2 := Arr.new (w.alloc (.cells (tcs fun _ => 0#32).toArray 61)) (fun _ => 0#32) _ rfl
    refine ⟨0, Nat.zero_le _, rfl, a1, ?_, ((Below.refl _ _).alloc (Nat.le_refl _) _).alloc (by simp) _⟩
    have e : (fun i => if i < 0 then ofN t (t i) 32 else 0#32) = fun _ => 0#32 := by funext i; rw [if_neg (by omega)]
    rw [e]; rw [World.size_alloc] at a2; exact a2
  case round =>
    obtain ⟨k, hk, rfl, h0, h1, hb⟩ := hrel
    have H0 := Lib.hid h0; clear h0
    have H1 := Lib.hid h1; clear h1
    have HB := Lib.hid hb; clear hb
    by_cases hlt : (k : Int) < 32
    · have hc := (H.out.keep HB.out) k (by omega)
      go_wp2_with fail
      refine (of_any g t _ _ (H.out.keep HB.out)).mono ?_
      rintro e w1 ⟨rfl, hb⟩
      have hs1 := (H1.out.keep hb).cell k (by omega)
      have hf1 := (H1.out.keep hb).free k
      have K0 := Lib.hid (H0.out.keep hb)
      have K1 := Lib.hid (H1.out.keep hb)
      have KB := Lib.hid (keep_trans HB.out hb); clear hb hc
      go_wp2_with fail
      go_roundw
      case rel =>
        refine ⟨k + 1, by omega, by go_num, K0.out.other k _ (by omega), ?_, KB.out.setCell (p := ⟨w.heap.size + 1, k, none⟩) (by show w.heap.size ≤ w.heap.size + 1; omega) _⟩
        have e : (fun i => if i = k then ofN t (t k) 32 else if i < k then ofN t (t i) 32 else 0#32) = fun i => if i < k + 1 then ofN t (t i) 32 else 0#32 := by
          funext i
          by_cases h1 : i = k
          · subst h1; simp
          · rw [if_neg h1]
            by_cases h2 : i < k
            · rw [if_pos h2, if_pos (by omega)]
            · rw [if_neg h2, if_neg (by omega)]
        rw [← e]
        exact K1.out.set k _
      case measure => simp [intOf]; omega
    · have e : tcs (fun i => if i < k then ofN t (t i) 32 else 0#32) = tcs (fun i => ofN t (t i) 32) := by
        apply List.map_congr_left
        intro i hi
        have : i < 32 := by simpa using hi
        have : i < k := by omega
        simp [this]
      have hr := H1.out.range
      rw [e] at hr
      have HR := Lib.hid hr; clear hr e
      have HT := Lib.hid (H0.out.there (tcs (fun i => ofN t (t i) 32)).toArray.size (by simp [tcs_length]))
      have hi : (Try.prog.info? 61).map (·.size) = some 32 := by kernel_rfl
      have HI := Lib.hid hi; clear hi
      go_upto_region 7 with (fail)
      go_step
      refine wpList_load_mid rfl 61 (.tmp 3) rfl (w.heap.size + 1) 0 (by rfl) (tcs (fun i => ofN t (t i) 32)) _ HR.out Try.underlying61 rfl (by rw [tcs_length]; exact HI.out) ?_
      refine wpList_store_mid rfl 61 (.tmp 2) (.tmp 18) rfl w.heap.size 0 (tcs (fun i => ofN t (t i) 32)).toArray (by rfl) (by rfl) HT.out (by rw [List.size_toArray, tcs_length]; exact HI.out) (all_oneCell_toArray (tcs_one _)) ?_
      refine wpList_nil ?_
      iterate 3 go_step
      have hA := H0.out.setAll (fun i => ofN t (t i) 32)
      have hl := run_loadVar_mid (P := Try.prog) (wr.setCells w.heap.size 0 (tcs (fun i => ofN t (t i) 32)).toArray.toList) w.heap.size 0 61 (tcs (fun i => ofN t (t i) 32)) _ hA.range Try.underlying61 rfl (by rw [tcs_length]; exact HI.out)
      have HL := Lib.hid hl; clear hl
      refine bodyPost_ret (v := .agg (tcs fun i => ofN t (t i) 32).toArray) ?_ rfl ⟨rfl, below_setCells w.heap.size (Nat.le_refl _) _ _ HB.out 0⟩
      exact results_cell1 rfl _ _ _ _ _ rfl HL.out
end Go.Proofs.Ytaablclccklhnaa

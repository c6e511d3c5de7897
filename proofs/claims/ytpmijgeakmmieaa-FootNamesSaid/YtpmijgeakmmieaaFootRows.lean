/- Rows in memory of the call's own: contracts of the law's rows and keptRows, of Same. Conditions: the slices within reach. -/
import Derived.Test.YtpmijgeakmmieaaFootRV
import Derived.Test.YtpmijgeakmmieaaHelp
import Derived.Test.YtpmijgeakmmieaaStr
import Derived.Test.YtpmijgeakmmieaaStab
import Derived.Deep.RegionLaw
import Derived.Deep.Cut
import Derived.Deep.RegionHeld3
namespace Go.Proofs.Ytpmijgeakmmieaa
open Go.RowKit

/-- a row's words: its key in a block of its own -/
def Rv (g : Nat) (r : Row) : RV := ((some ⟨g, 0, none⟩, r.1.length, r.1.length + 2), r.2.1, r.2.2.1, r.2.2.2)
/-- keys in blocks of their own between lo and hi, apart from the list's own block -/
def RTx (w : World) (lo hi : Nat) (v : Value) (vs : List RV) (rs : List Row) : Prop :=
  ∀ (i : Nat) (x : RV) (r : Row), vs[i]? = some x → rs[i]? = some r → ∃ g, x = Rv g r ∧ Lent w g r.1 ∧ lo ≤ g ∧ g < hi ∧ Off v g
theorem RTx.nil (w : World) (lo hi : Nat) (v : Value) (rs : List Row) : RTx w lo hi v [] rs := fun i x r hx _ => by simp at hx
theorem RTx.step {wr w2 w3 : World} {lo g : Nat} {v v' : Value} {vs : List RV} {rs : List Row} {r : Row} (h : RTx wr lo wr.heap.size v vs rs) (hlo : lo ≤ wr.heap.size) (hl : rs[vs.length]? = some r)
    (hw : Below wr.heap.size wr w2) (h1 : Lent w2 g r.1) (hgl : wr.heap.size ≤ g) (hv : ∀ j, v.ownBlock = some j → j < wr.heap.size) (hg : w2.grownBy w3 v.ownBlock) (hv' : v'.ownBlock = v.ownBlock ∨ v'.ownBlock = some w2.heap.size) :
    RTx w3 lo w3.heap.size v' (vs ++ [Rv g r]) rs := by
  have hs3 := hg.size
  have hs2 := hw.size
  intro i x r' hx hr'
  by_cases hi : i < vs.length
  · rw [List.getElem?_append_left hi] at hx
    obtain ⟨k, rfl, hL, hk1, hk2, hoff⟩ := h i x r' hx hr'
    have hL2 : Lent w2 k r'.1 := hL.keep hw
    exact ⟨k, rfl, hoff.keep hg hL2, hk1, by omega, hoff.step (w := w2) (by omega) hv'⟩
  · have hi2 : i < (vs ++ [Rv g r]).length := (List.getElem?_eq_some_iff.1 hx).1
    rw [List.length_append] at hi2
    obtain rfl : i = vs.length := by simp at hi2; omega
    obtain rfl : Rv g r = x := by simpa using hx
    obtain rfl : r = r' := by rw [hl] at hr'; exact Option.some.inj hr'
    have hlt := h1.lt
    have hoff : Off v g := fun j hj e => by have := hv j hj; omega
    exact ⟨g, rfl, hoff.keep hg h1, by omega, by omega, hoff.step hlt hv'⟩
/-- a list of rows of the call's own between lo and hi, each key in a block of its own, a mark behind the list -/
def Rws (w : World) (lo hi : Nat) (a : Option Addr) (n c : Nat) (rs : List Row) : Prop :=
  n = rs.length ∧ ∃ (vs : List RV) (mk : RV), vs.length = rs.length ∧ OwT fR w lo 49 (.slice a (rs.length + 1) c) (vs ++ [mk]) ∧ mk.2.1 = 77 ∧
    (∀ j, Value.ownBlock (.slice a (rs.length + 1) c) = some j → lo ≤ j ∧ j < hi) ∧ ∀ (i : Nat) (x : RV) (r : Row), vs[i]? = some x → rs[i]? = some r → ∃ g, x = Rv g r ∧ Lent w g r.1 ∧ lo ≤ g ∧ g < hi
theorem Rws.same {w w' : World} {lo hi n c : Nat} {a : Option Addr} {rs : List Row} (h : Rws w lo hi a n c rs) (hs : ∀ j, lo ≤ j → j < hi → w'.heap[j]? = w.heap[j]?) : Rws w' lo hi a n c rs := by
  obtain ⟨h1, vs, mk, h2, h3, h4, h5, h6⟩ := h
  refine ⟨h1, vs, mk, h2, h3.of_block fun j hj => hs j (h5 j hj).1 (h5 j hj).2, h4, h5, fun i x r hx hr => ?_⟩
  obtain ⟨g, e, hL, k1, k2⟩ := h6 i x r hx hr
  exact ⟨g, e, (hs g k1 k2).trans hL, k1, k2⟩
theorem Rws.keep {w w' : World} {lo hi n c : Nat} {a : Option Addr} {rs : List Row} (h : Rws w lo hi a n c rs) (hb : Below w.heap.size w w') (hh : hi ≤ w.heap.size) : Rws w' lo hi a n c rs := h.same fun j _ hj => hb.block j (by omega)
theorem Rws.cap {w : World} {lo hi n c : Nat} {a : Option Addr} {rs : List Row} (h : Rws w lo hi a n c rs) : n + 1 ≤ c := by
  obtain ⟨rfl, vs, mk, h2, h3, h4, h5, h6⟩ := h
  obtain ⟨a', n', c', hv, hn, hc⟩ := h3.slR
  cases hv; exact hc
theorem Rws.at {w : World} {lo hh n c : Nat} {a : Option Addr} {rs : List Row} (h : Rws w lo hh a n c rs) (i : Nat) (r : Row) (hi : rs[i]? = some r) :
    ∃ b o g, a = some ⟨b, o, none⟩ ∧ w.cell? ⟨b, o + i * 4, none⟩ = some (.slice (some ⟨g, 0, none⟩) r.1.length (r.1.length + 2)) ∧ w.cell? ⟨b, o + i * 4 + 1, none⟩ = some (.int .i64 r.2.1) ∧ w.cell? ⟨b, o + i * 4 + 2, none⟩ = some (.int .i64 r.2.2.1) ∧ w.cell? ⟨b, o + i * 4 + 3, none⟩ = some (.int .i64 r.2.2.2) ∧ Lent w g r.1 := by
  obtain ⟨h1, vs, mk, h2, h3, h4, h5, h6⟩ := h
  obtain ⟨a', c', hv, hs⟩ := h3.sl fR_len
  injection hv with e1 e2 e3
  subst e1 e3
  have hin : i < vs.length := by have := (List.getElem?_eq_some_iff.1 hi).1; omega
  have hx : (vs ++ [mk])[i]? = some vs[i] := by rw [List.getElem?_append_left hin]; exact List.getElem?_eq_getElem hin
  obtain ⟨b, o, ha, hc⟩ := hs.2.2.2 i _ hx
  obtain ⟨g, e, hL, _, _⟩ := h6 i _ r (List.getElem?_eq_getElem hin) hi
  rw [e] at hc
  exact ⟨b, o, g, ha, hc 0 _ rfl, hc 1 _ rfl, hc 2 _ rfl, hc 3 _ rfl, hL⟩
theorem Rws.spans {w : World} {lo hi n c : Nat} {a : Option Addr} {rs : List Row} (h : Rws w lo hi a n c rs) : Spans w a n c rs := by
  have hcap := h.cap
  refine ⟨h.1.symm, by omega, fun e => ?_, fun i k x y z hr => ?_⟩
  · obtain ⟨_, vs, mk, h2, h3, _, _, _⟩ := h
    obtain ⟨a', c', hv, hs⟩ := h3.sl fR_len
    injection hv with e1 e2 e3
    subst e1 e3
    exact hs.2.2.1 e
  · obtain ⟨b, o, g, ha, c0, c1, c2, c3, hL⟩ := h.at i _ hr
    exact ⟨b, o, _, _, _, ha, c0, c1, c2, c3, hL.sl⟩
/-- the list's own mark -/
theorem Rws.last {w : World} {lo hh n c : Nat} {a : Option Addr} {rs : List Row} (h : Rws w lo hh a n c rs) : ∃ b o, a = some ⟨b, o, none⟩ ∧ w.cell? ⟨b, o + rs.length * 4 + 1, none⟩ = some (.int .i64 77) := by
  obtain ⟨h1, vs, mk, h2, h3, h4, h5, h6⟩ := h
  obtain ⟨a', c', hv, hs⟩ := h3.sl fR_len
  injection hv with e1 e2 e3
  subst e1 e3
  have hx : (vs ++ [mk])[rs.length]? = some mk := by rw [← h2]; simp
  obtain ⟨b, o, ha, hc⟩ := hs.2.2.2 _ _ hx
  refine ⟨b, o, ha, ?_⟩
  rw [← h4]; exact hc 1 _ rfl

set_option maxHeartbeats 2000000 in
set_option maxRecDepth 100000 in
theorem rows_any (a : Option Addr) (n c : Nat) (rs : List Row) (w : World) (hn : n ≤ 2932031007317) (hf : FitR 140737488351232 rs) (h : Spans w a n c rs) :
    Calls Try.prog 9 #[.slice a n c] w fun e w' => ∃ a2 c2, e = .returned (.slice a2 n c2) ∧ Rws w' w.heap.size w'.heap.size a2 n c2 rs ∧ Below w.heap.size w w' := by
  obtain rfl : n = rs.length := h.1.symm
  have H := Lib.hid h; clear h
  have HF := Lib.hid hf; clear hf
  obtain ⟨m, hm⟩ : ∃ m, rs.length + 1 = m := ⟨_, rfl⟩
  have hm1 : ((rs.length : Int) + 1) = (m : Int) := by omega
  have HM1 := Lib.hid hm1; clear hm1
  have hm2 : m ≤ 2932031007318 := by omega
  have hm3 : rs.length ≤ m := by omega
  have HM := Lib.hid hm; clear hm
  go_enter Try.func9, Try.ntmps9
  go_wp2_with (at_make; refine wpList_mkT eltTR rfl _ _ rfl w.heap.size 0 m (Nat.zero_le _) rfl rfl rfl HM1.out (by omega) (by unfold maxLen; omega) (Nat.le_refl _) ?_; intro x0 w1 _ h1 _ hb1; have O1 := Lib.hid h1; have B1 := Lib.hid hb1; clear h1 hb1)
  go_loopw [3, 4] (fun s i wr => ∃ (k : Nat) (vs : List RV), k ≤ rs.length ∧ i = .int .i64 k ∧ vs.length = k ∧ OwT fR wr w.heap.size 49 s vs ∧ RTx wr w.heap.size wr.heap.size s vs rs ∧ Below w.heap.size w wr) (fun _ i _ => rs.length - (intOf i).toNat)
  case atStart => exact ⟨0, [], Nat.zero_le _, rfl, rfl, O1.out, RTx.nil _ _ _ _ _, B1.out⟩
  case round =>
    obtain ⟨k, vs, hk, rfl, hvk, ho, ht, hb⟩ := hrel
    have B := Lib.hid hb; clear hb B1 O1
    have T := Lib.hid ht; clear ht
    have hlo := B.out.size
    obtain ⟨a1, n1, c1, rfl, hn1, hc1⟩ := ho.slR
    obtain rfl : k = n1 := by omega
    have HVK := Lib.hid hvk; clear hvk hn1
    have O := Lib.hid ho; clear ho
    by_cases hlt : k < rs.length
    · obtain ⟨⟨kk, x, y, z⟩, hx⟩ : ∃ e, rs[k]? = some e := ⟨_, List.getElem?_eq_getElem hlt⟩
      obtain ⟨fk, _, _, _⟩ := HF.out.at hx
      obtain ⟨b, o, ak, nk, ck, rfl, c0, c1', c2, c3, s0⟩ := (H.out.keep B.out).2.2.2 k kk x y z hx
      obtain rfl : kk.length = nk := s0.len
      have HX := Lib.hid hx; clear hx
      have S := Lib.hid ((Stab.new wr (.cells #[.slice ak kk.length ck, .int .i64 x, .int .i64 y, .int .i64 z] 49)).and (((Stab.sl s0).and (Stab.below (Below.refl wr.heap.size wr))).alloc _))
      have hl3 := le_allocF wr (.cells #[.slice ak kk.length ck, .int .i64 x, .int .i64 y, .int .i64 z] 49)
      clear s0
      go_upto_region 6 with (fail)
      obtain ⟨g5, hg⟩ : ∃ g, wr.heap.size = g := ⟨_, rfl⟩
      have HG := Lib.hid hg
      rw [hg] at S ⊢
      clear c0 c1' c2 c3
      have lg : g5 < (wr.alloc (.cells #[.slice ak kk.length ck, .int .i64 x, .int .i64 y, .int .i64 z] 49)).heap.size := (Array.getElem?_eq_some_iff.1 S.out.now.1).1
      generalize wr.alloc (.cells #[.slice ak kk.length ck, .int .i64 x, .int .i64 y, .int .i64 z] 49) = w3 at *
      have c0 := cell_of S.out.now.1 0 rfl
      go_wp2_with fail
      refine (lent_any ak kk.length ck kk _ (by omega) S.out.now.2.1).mono ?_
      rintro e w4 ⟨g, rfl, hgl, hL, hb⟩
      have L := Lib.hid hL
      have hgn : g ≠ g5 := by omega
      have lg4 : g5 < w4.heap.size := Nat.lt_of_lt_of_le lg hb.size
      have X := Lib.hid (S.out.keep hb).now
      have c0 := cell_of X.out.1 0 rfl
      have fz := free_block X.out.1 0
      have X1 := Lib.hid (show (w4.setCell ⟨g5, 0, none⟩ (.slice (some ⟨g, 0, none⟩) kk.length (kk.length + 2))).heap[g5]? = some (.cells #[.slice (some ⟨g, 0, none⟩) kk.length (kk.length + 2), .int .i64 x, .int .i64 y, .int .i64 z] 49 (0, 0)) from set_block (i := 0) X.out.1 (.slice (some ⟨g, 0, none⟩) kk.length (kk.length + 2)))
      have y0 := cell_of X1.out 0 rfl
      have y1 := cell_of X1.out 1 rfl
      have y2 := cell_of X1.out 2 rfl
      have y3 := cell_of X1.out 3 rfl
      have B4 : Hid (Below wr.heap.size wr _) := Lib.hid (by rw [HG.out]; exact X.out.2.2.setCell (p := ⟨g5, 0, none⟩) (Nat.le_refl _) (.slice (some ⟨g, 0, none⟩) kk.length (kk.length + 2)))
      have L4 : Hid (Lent (w4.setCell ⟨g5, 0, none⟩ (.slice (some ⟨g, 0, none⟩) kk.length (kk.length + 2))) g kk) := Lib.hid ((Below.heap_setCell w4 ⟨g5, 0, none⟩ _ g hgn).trans L.out)
      have O4 := Lib.hid (O.out.keep B4.out)
      clear hL hb S
      go_upto_region 7 with (fail)
      clear c0 fz y0 y1 y2 y3 X L HG
      generalize w4.setCell ⟨g5, 0, none⟩ (.slice (some ⟨g, 0, none⟩) kk.length (kk.length + 2)) = w5 at *
      have y0 := cell_of X1.out 0 rfl
      have y1 := cell_of X1.out 1 rfl
      have y2 := cell_of X1.out 2 rfl
      have y3 := cell_of X1.out 3 rfl
      go_wp2_with (at_builtin; refine wpList_appT eltTR rfl (.tmp 24) (.tmp 26) rfl w.heap.size (.slice a1 k c1) vs (by rfl) (O4.out.alloc _) (some ⟨w5.heap.size, 0, none⟩) 1 1 [Rv g (kk, x, y, z)] (by rfl) (SlT.litR _ (Rv g (kk, x, y, z)) _ rfl) (by rw [HVK.out]; unfold maxLen; omega) (by rw [HVK.out]; omega) (by have := B4.out.size; simp; omega) (vs ++ [Rv g (kk, x, y, z)]) rfl ?_; intro v7 w7 h7 hg7 hv7 hb7)
      have B5 := Lib.hid (B4.out.alloc B4.out.size (.cells (fR (Rv g (kk, x, y, z))).toArray 49))
      have L5 : Hid (Lent (w5.alloc (.cells (fR (Rv g (kk, x, y, z))).toArray 49)) g kk) := Lib.hid (L4.out.keep ((Below.refl _ _).alloc (Nat.le_refl _) _))
      have HT := Lib.hid (T.out.step (g := g) (r := (kk, x, y, z)) hlo (by rw [HVK.out]; exact HX.out) B5.out L5.out (by omega) (fun j hj => (O.out.lt j hj).2) hg7 hv7)
      have O7 := Lib.hid h7
      have B7 := Lib.hid ((B.out.trans (B5.out.mono hlo)).trans hb7)
      clear h7 hg7 hv7 hb7 B5 L5 y0 y1 y2 y3 X1 L4 O4
      go_roundw
      case rel => exact ⟨k + 1, _, by omega, by go_num, by rw [List.length_append, HVK.out]; rfl, O7.out, HT.out, B7.out⟩
      case measure => simp [intOf]; omega
    · obtain rfl : k = rs.length := by omega
      have hmc : m ≤ 140737488351233 := by omega
      go_wp2_with (at_builtin; refine wpList_appT eltTR rfl (.tmp 28) (.tmp 30) rfl w.heap.size (.slice a1 rs.length c1) vs (by rfl) (O.out.alloc _) (some ⟨wr.heap.size, 0, none⟩) 1 1 [((none, 0, 0), 77, 0, 0)] (by rfl) (SlT.litR _ ((none, 0, 0), 77, 0, 0) _ rfl) (by rw [HVK.out]; unfold maxLen; omega) (by rw [HVK.out]; omega) (by simp; omega) _ rfl ?_; intro v7 w7 h7 hg7 hv7 hb7; obtain ⟨a7, n7, c7, rfl, hn7, hc7⟩ := h7.slR; obtain rfl : m = n7 := (by rw [hn7, List.length_append, HVK.out, ← HM.out]; rfl); have O7 := Lib.hid h7; have HG7 := Lib.hid hg7; have HV7 := Lib.hid hv7; have B7 := Lib.hid hb7; have hcut := fun (W : World) => run_cutR W a7 m c7 .i64 rs.length (by omega); clear h7 hg7 hv7 hb7 hn7)
      go_ret
      have hal : Below wr.heap.size wr (wr.alloc (.cells (fR ((none, 0, 0), 77, 0, 0)).toArray 49)) := (Below.refl _ _).alloc (Nat.le_refl _) _
      have hsz : wr.heap.size ≤ w7.heap.size := Nat.le_trans hal.size HG7.out.size
      refine ⟨a7, c7, rfl, ⟨rfl, vs, ((none, 0, 0), 77, 0, 0), HVK.out, ?_, rfl, ?_, fun i x r hx hr => ?_⟩, (B.out.trans (hal.mono hlo)).trans B7.out⟩
      · have := O7.out; rw [← HM.out] at this; exact this
      · intro j hj; exact O7.out.lt j (by rw [own_map] at hj ⊢; exact hj)
      · obtain ⟨g, e, hL, k1, k2, hoff⟩ := T.out i x r hx hr
        have hL2 : Lent _ g r.1 := hL.keep hal
        exact ⟨g, e, hoff.keep HG7.out hL2, k1, by omega⟩
theorem strB_eqF (xs ys : List UInt8) : ((strB xs).toList == (strB ys).toList) = decide (xs = ys) := by
  rw [strB_list, strB_list]
  by_cases h : xs = ys
  · subst h; simp
  · rw [decide_eq_false h]; simp [h]
set_option maxHeartbeats 2000000 in
set_option maxRecDepth 100000 in
theorem rsame_any (a : Option Addr) (n c : Nat) (a' : Option Addr) (n' c' : Nat) (rs rs' : List Row) (w : World) (hn : n ≤ 9223372036854775807) (hn' : n' ≤ 9223372036854775807)
    (h : Spans w a n c rs) (h' : Spans w a' n' c' rs') :
    Calls Try.prog 25 #[.slice a n c, .slice a' n' c'] w fun e w' => e = .returned (.bool (decide (rs = rs'))) ∧ Below w.heap.size w w' := by
  obtain rfl : n = rs.length := h.1.symm
  obtain rfl : n' = rs'.length := h'.1.symm
  have H := Lib.hid h; clear h
  have H' := Lib.hid h'; clear h'
  by_cases hl : rs.length = rs'.length
  · have f1 : ((rs.length : Int) != (rs'.length : Int)) = false := by rw [hl]; simp
    have f2 : (rs.length != rs'.length) = false := by rw [hl]; simp
    have hl2 : rs'.length ≤ rs.length := by omega
    have HL := Lib.hid hl; clear hl
    go_enter Try.func25, Try.ntmps25
    go_wp2_with fail
    go_loopw [5] (fun i wr => ∃ k : Nat, k ≤ rs.length ∧ i = .int .i64 k ∧ rs.take k = rs'.take k ∧ Below w.heap.size w wr) (fun i _ => rs.length - (intOf i).toNat)
    case atStart => exact ⟨0, Nat.zero_le _, rfl, by simp, Below.refl _ _⟩
    case round =>
      obtain ⟨k, hk, rfl, he, hb⟩ := hrel
      have HE := Lib.hid he; clear he
      have B := Lib.hid hb; clear hb
      by_cases hlt : k < rs.length
      · obtain ⟨⟨kk, x, y, z⟩, hx⟩ : ∃ e, rs[k]? = some e := ⟨_, List.getElem?_eq_getElem hlt⟩
        obtain ⟨⟨kk', x', y', z'⟩, hy⟩ : ∃ e, rs'[k]? = some e := ⟨_, List.getElem?_eq_getElem (by have := HL.out; omega)⟩
        obtain ⟨b, o, ak, nk, ck, rfl, c0, c1, c2, c3, s0⟩ := (H.out.keep B.out).2.2.2 k kk x y z hx
        obtain ⟨b', o', ak', nk', ck', rfl, c0', c1', c2', c3', s0'⟩ := (H'.out.keep B.out).2.2.2 k kk' x' y' z' hy
        have r1 := fun q : Nat => run_str (P := Try.prog) (dst := 9) Try.underlying28 Try.underlying5 (by kernel_rfl) _ _ _ _ _ (s0.drewN q)
        have r2 := fun q : Nat => run_str (P := Try.prog) (dst := 9) Try.underlying28 Try.underlying5 (by kernel_rfl) _ _ _ _ _ (s0'.drewN q)
        have HX := Lib.hid hx; clear hx
        have HY := Lib.hid hy; clear hy
        have hlt' : k < rs'.length := by have := HL.out; omega
        have key : (kk, x, y, z) = (kk', x', y', z') ↔ rs.take (k + 1) = rs'.take (k + 1) := by
          rw [List.take_add_one, List.take_add_one, HX.out, HY.out, HE.out]; simp
        have KEY := Lib.hid key; clear key
        by_cases e1 : kk = kk'
        · have q1 : ((strB kk).toList == (strB kk').toList) = true := by rw [strB_eqF, decide_eq_true e1]
          by_cases e2 : x = x'
          · have q2 : (x != x') = false := by rw [e2]; simp
            by_cases e3 : y = y'
            · have q3 : (y != y') = false := by rw [e3]; simp
              by_cases e4 : z = z'
              · have q4 : (z != z') = false := by rw [e4]; simp
                have EQ := Lib.hid (show (kk, x, y, z) = (kk', x', y', z') by rw [e1, e2, e3, e4])
                clear e1 e2 e3 e4
                go_wp2_with fail
                go_quiet (fail)
                go_wp2_with fail
                go_roundw
                case rel => exact ⟨k + 1, by omega, by go_num, KEY.out.1 EQ.out, keep_drewN B.out _⟩
                case measure => simp [intOf]; omega
              · have q4 : (z != z') = true := by rw [bne_iff_ne]; exact e4
                have NE := Lib.hid (show ¬ (kk, x, y, z) = (kk', x', y', z') from fun e => e4 (by simp at e; exact e.2.2.2))
                clear e1 e2 e3 e4
                go_wp2_with fail
                go_quiet (fail)
                go_wp2_with fail
                go_ret
                exact ⟨ret_bool (by symm; rw [decide_eq_false_iff_not]; intro e; exact NE.out (KEY.out.2 (by rw [e]))), keep_drewN B.out _⟩
            · have q3 : (y != y') = true := by rw [bne_iff_ne]; exact e3
              have NE := Lib.hid (show ¬ (kk, x, y, z) = (kk', x', y', z') from fun e => e3 (by simp at e; exact e.2.2.1))
              clear e1 e2 e3
              go_wp2_with fail
              go_quiet (fail)
              go_wp2_with fail
              go_ret
              exact ⟨ret_bool (by symm; rw [decide_eq_false_iff_not]; intro e; exact NE.out (KEY.out.2 (by rw [e]))), keep_drewN B.out _⟩
          · have q2 : (x != x') = true := by rw [bne_iff_ne]; exact e2
            have NE := Lib.hid (show ¬ (kk, x, y, z) = (kk', x', y', z') from fun e => e2 (by simp at e; exact e.2.1))
            clear e1 e2
            go_wp2_with fail
            go_quiet (fail)
            go_wp2_with fail
            go_ret
            exact ⟨ret_bool (by symm; rw [decide_eq_false_iff_not]; intro e; exact NE.out (KEY.out.2 (by rw [e]))), keep_drewN B.out _⟩
        · have q1 : ((strB kk).toList == (strB kk').toList) = false := by rw [strB_eqF, decide_eq_false e1]
          have NE := Lib.hid (show ¬ (kk, x, y, z) = (kk', x', y', z') from fun e => e1 (by simp at e; exact e.1))
          clear e1
          go_wp2_with fail
          go_quiet (fail)
          go_wp2_with fail
          go_ret
          exact ⟨ret_bool (by symm; rw [decide_eq_false_iff_not]; intro e; exact NE.out (KEY.out.2 (by rw [e]))), keep_drewN B.out _⟩
      · go_wp2_with fail
        go_ret
        refine ⟨ret_bool ?_, B.out⟩
        have e1 := HE.out; have e2 := HL.out
        rw [List.take_of_length_le (by omega), List.take_of_length_le (by omega)] at e1
        symm; rw [decide_eq_true_eq]; exact e1
  · have f1 : ((rs.length : Int) != (rs'.length : Int)) = true := by rw [bne_iff_ne]; omega
    have f2 : (rs.length != rs'.length) = true := by rw [bne_iff_ne]; omega
    go_enter Try.func25, Try.ntmps25
    go_wp2_with fail
    go_ret
    refine ⟨ret_bool ?_, Below.refl _ _⟩
    symm; rw [decide_eq_false_iff_not]
    intro e; exact hl (by rw [e])
end Go.Proofs.Ytpmijgeakmmieaa

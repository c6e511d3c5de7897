/- Several texts in one: EntSpP, FootSame, FootSpoil. Each has its own sentence and conditions below. -/
import Derived.Test.YtljcogimeimknaaGreatF8q
import Derived.Test.YtljcogimeimknaaGreatBlockRead
import Derived.Test.YtljcogimeimknaaGreatK8d
import Derived.Test.YtljcogimeimknaaGreatK8b
import Derived.Test.YtljcogimeimknaaGreatK8a
import Derived.BigQuiet
import Derived.Deep.QuietTactic
import Derived.Deep.Cut
/- Whoever has entries writes over them: contract of the reference's Spoil, the blocks named by a predicate. Conditions: the entries lie in memory of their own. Written by a program of this place (gen_EntSpP.py). -/
namespace Go.Proofs.YtljcogimeimknaaGreat
open Go.RowKit
set_option linter.unusedVariables false

/-- a text's block holds bytes -/
def KbP (w : World) (gl : Nat) (P : Nat → Prop) (s : Sv) : Prop :=
  (s.1 = none ∧ s.2.2 = 0) ∨ ∃ (g : Nat) (bs : List UInt8), s.1 = some ⟨g, 0, none⟩ ∧ w.heap[g]? = some (.cells (bs.map Bf).toArray 5 (0, 0)) ∧ bs.length = s.2.2 ∧ g ≠ gl ∧ P g ∧ s.2.2 ≤ 9223372036854775807
theorem KbP.setB {w : World} {gl g i : Nat} {P : Nat → Prop} {s : Sv} (h : KbP w gl P s) {y : UInt8} : KbP (w.setCell ⟨g, i, none⟩ (.int .u8 (B y))) gl P s := by
  rcases h with h | ⟨g', bs, h1, h2, h3, h4⟩
  · exact .inl h
  · by_cases e : g' = g
    · subst e
      refine .inr ⟨g', bs.set i y, h1, ?_, by rw [List.length_set]; exact h3, h4⟩
      rw [set_block h2]
      congr 2
      apply Array.ext'
      rw [Array.toList_setIfInBounds]
      simp only [List.map_set]
    · exact .inr ⟨g', bs, h1, (Below.heap_setCell w ⟨g, i, none⟩ _ g' (by exact e)).trans h2, h3, h4⟩
theorem KbP.setL {w : World} {gl i : Nat} {P : Nat → Prop} {s : Sv} (h : KbP w gl P s) {v : Value} : KbP (w.setCell ⟨gl, i, none⟩ v) gl P s := by
  rcases h with h | ⟨g', bs, h1, h2, h3, h4, h5⟩
  · exact .inl h
  · exact .inr ⟨g', bs, h1, (Below.heap_setCell w ⟨gl, i, none⟩ _ g' h4).trans h2, h3, h4, h5⟩
theorem KbP.cap {w : World} {gl : Nat} {P : Nat → Prop} {s : Sv} (h : KbP w gl P s) : s.2.2 ≤ 9223372036854775807 := by
  rcases h with ⟨_, h⟩ | ⟨_, _, _, _, _, _, _, h⟩
  · omega
  · exact h
theorem KbP.of_own {w : World} {lo gl : Nat} {P : Nat → Prop} {s : Sv} {e : TypeId} {xs : List UInt8} {n : Nat} (he : e = 5) (h : OwT fB w lo e (.slice s.1 n s.2.2) xs) (hb : ∀ j, Value.ownBlock (.slice s.1 n s.2.2) = some j → P j) (hf : Off (.slice s.1 n s.2.2) gl) : KbP w gl P s := by
  subst he
  rcases h with ⟨e, _⟩ | ⟨g, cap, ys, e, hg, hh, hl, hn, hc, ht⟩
  · left
    injection e with e1 e2 e3
    exact ⟨e1, e3⟩
  · right
    injection e with e1 e2 e3
    have hob : Value.ownBlock (.slice s.1 n s.2.2) = some g := by rw [e1]; rfl
    refine ⟨g, ys, e1, by rw [hh, flat_fB], by rw [hl, e3], hf g hob, hb g hob, ?_⟩
    rw [e3]; unfold maxLen at hc; omega
/-- a list of entries that may be written over -/
def SpP (w : World) (P : Nat → Prop) (a : Option Addr) (n c : Nat) : Prop :=
  (a = none ∧ n = 0 ∧ c = 0) ∨ ∃ (gl : Nat) (ys : List (Sv × Sv)), a = some ⟨gl, 0, none⟩ ∧ w.heap[gl]? = some (.cells (ys.flatMap fE).toArray 51 (0, 0)) ∧ ys.length = c ∧ n ≤ c ∧ c ≤ 9223372036854775807 ∧ P gl ∧ ∀ x, x ∈ ys → KbP w gl P x.1 ∧ KbP w gl P x.2
set_option maxHeartbeats 4000000 in
set_option maxRecDepth 100000 in
theorem espoilP_any (a : Option Addr) (n c : Nat) (P : Nat → Prop) (w : World) (h : SpP w P a n c) :
    Calls Tryz.prog 22 #[.slice a n c] w fun e w' => e = .returned (.tuple #[]) ∧ Turns P w w' := by
  rcases h with ⟨rfl, rfl, rfl⟩ | ⟨gl, ys, rfl, hb, hyl, hnc, hcm2, hl1, hkb⟩
  · have hcut := fun W : World => run_cutE W none 0 0 .i64 0 (Nat.le_refl _)
    have hcap : ∀ W : World, (Builtin.cap_ #[48] 3 #[.slice none 0 0]).run Tryz.prog W = .ok (goInt 0) W := fun W => run_cap_slice W _ _ _ _ _ Tryz.underlying48
    go_enter Tryz.func22, Tryz.ntmps22
    go_wp2_with fail
    go_loopw [2] (fun i wr => i = .int .i64 0 ∧ Turns P w wr) (fun _ _ => 0)
    case atStart => exact ⟨rfl, Turns.refl _ _⟩
    case round =>
      obtain ⟨rfl, hc⟩ := hrel
      have C := Lib.hid hc; clear hc
      go_wp2_with fail
      go_end0
      exact ⟨rfl, C.out⟩
  · have HB := Lib.hid hb
    have HKB := Lib.hid hkb
    have HYL := Lib.hid hyl
    have hcut := fun W : World => run_cutE W (some ⟨gl, 0, none⟩) n c .i64 c (Nat.le_refl _)
    have hcap : ∀ W : World, (Builtin.cap_ #[48] 3 #[.slice (some ⟨gl, 0, none⟩) n c]).run Tryz.prog W = .ok (goInt c) W := fun W => run_cap_slice W _ _ _ _ _ Tryz.underlying48
    clear hb hkb hyl
    go_enter Tryz.func22, Tryz.ntmps22
    go_wp2_with fail
    go_loopw [2] (fun i wr => ∃ (k : Nat) (ys : List (Sv × Sv)), k ≤ c ∧ i = .int .i64 (k : Nat) ∧ ys.length = c ∧ wr.heap[gl]? = some (.cells (ys.flatMap fE).toArray 51 (0, 0)) ∧ (∀ x, x ∈ ys → KbP wr gl P x.1 ∧ KbP wr gl P x.2) ∧ Turns P w wr) (fun i _ => c - (intOf i).toNat)
    case atStart => exact ⟨0, ys, Nat.zero_le _, rfl, HYL.out, HB.out, HKB.out, Turns.refl _ _⟩
    case round =>
      clear HB HKB HYL
      obtain ⟨k, zs, hk, rfl, hzl, hb, hkb, hc⟩ := hrel
      have C := Lib.hid hc
      have L := Lib.hid hb
      have KB := Lib.hid hkb
      have HZL := Lib.hid hzl
      clear hc hkb
      by_cases hlt : k < c
      · obtain ⟨⟨⟨ax, nx, cx⟩, ⟨ay, ny, cy⟩⟩, hx⟩ : ∃ e, zs[k]? = some e := ⟨_, List.getElem?_eq_getElem (by rw [hzl]; exact hlt)⟩
        obtain ⟨hkx, hky⟩ := KB.out _ (List.mem_of_getElem? hx)
        dsimp only at hkx hky
        have hcx : cx ≤ 9223372036854775807 := hkx.cap
        have hcy : cy ≤ 9223372036854775807 := hky.cap
        have HX := Lib.hid hkx
        have HY := Lib.hid hky
        have HXX := Lib.hid hx
        have hcut2 := fun W : World => run_cutto eltB W ax nx cx .i64 cx (Nat.le_refl _)
        have hcap2 : ∀ W : World, (Builtin.cap_ #[22] 3 #[.slice ax nx cx]).run Tryz.prog W = .ok (goInt cx) W := fun W => run_cap_slice W _ _ _ _ _ Tryz.underlying22
        have c0 : wr.cell? ⟨gl, k * 2, none⟩ = some (.slice ax nx cx) := by
          have := eflat_at hx 0 (by omega)
          exact cell_of hb (k * 2) (by simpa [sv] using this)
        clear hb hx hkx hky hzl hcut hcap
        go_wp2_with fail
        go_quiet (fail)
        go_wp2_with fail
        replace C := Lib.hid (C.out.drewN nq)
        replace L : Hid ((wr.drewN nq).heap[gl]? = some (.cells (zs.flatMap fE).toArray 51 (0, 0))) := L
        replace KB : Hid (∀ x, x ∈ zs → KbP (wr.drewN nq) gl P x.1 ∧ KbP (wr.drewN nq) gl P x.2) := KB
        replace HX : Hid (KbP (wr.drewN nq) gl P (ax, nx, cx)) := HX
        replace HY : Hid (KbP (wr.drewN nq) gl P (ay, ny, cy)) := HY
        clear c0 hcut2 hcap2
        generalize wr.drewN nq = w2 at *
        go_loopw [4] (fun i wr => ∃ m : Nat, m ≤ cx ∧ i = .int .i64 (m : Nat) ∧ wr.heap[gl]? = some (.cells (zs.flatMap fE).toArray 51 (0, 0)) ∧ ((∀ x, x ∈ zs → KbP wr gl P x.1 ∧ KbP wr gl P x.2) ∧ KbP wr gl P (ax, nx, cx) ∧ KbP wr gl P (ay, ny, cy)) ∧ Turns P w wr) (fun i _ => cx - (intOf i).toNat)
        case atStart => exact ⟨0, Nat.zero_le _, rfl, L.out, ⟨KB.out, HX.out, HY.out⟩, C.out⟩
        case round =>
          clear L KB HX HY C
          obtain ⟨m, hm, rfl, hb, ⟨hkb, hkx, hky⟩, hc⟩ := hrel
          have C := Lib.hid hc
          have L := Lib.hid hb
          have KB := Lib.hid hkb
          have HX := Lib.hid hkx
          have HY := Lib.hid hky
          clear hc hkb
          by_cases hlt2 : m < cx
          · rcases hkx with ⟨_, h⟩ | ⟨g, bs, e1, hg, hbl, hne, hg1, _⟩
            · have h : cx = 0 := h; omega
            · have e1 : ax = some ⟨g, 0, none⟩ := e1
              subst e1
              have hbl : bs.length = cx := hbl
              obtain ⟨y, hy⟩ : ∃ e, bs[m]? = some e := ⟨_, List.getElem?_eq_getElem (by omega)⟩
              have c0 : wr.cell? ⟨g, m, none⟩ = some (.int .u8 (B y)) := cell_of hg m (by simp [hy])
              have f0 := free_block hg m
              have hyx : bits .xor .u8 (B y) 255 = B (y ^^^ 255) := B_xor y 255
              have L2 := Lib.hid ((Below.heap_setCell wr ⟨g, m, none⟩ (.int .u8 (B (y ^^^ 255))) gl (fun e => hne e.symm)).trans L.out)
              have KB2 := Lib.hid (show ∀ x, x ∈ zs → KbP (wr.setCell ⟨g, m, none⟩ (.int .u8 (B (y ^^^ 255)))) gl P x.1 ∧ KbP (wr.setCell ⟨g, m, none⟩ (.int .u8 (B (y ^^^ 255)))) gl P x.2 from fun x hx => ⟨(KB.out x hx).1.setB, (KB.out x hx).2.setB⟩)
              have HX2 := Lib.hid (HX.out.setB (g := g) (i := m) (y := y ^^^ 255))
              have HY2 := Lib.hid (HY.out.setB (g := g) (i := m) (y := y ^^^ 255))
              have C2 := Lib.hid (C.out.trans (Turns.set (S := P) wr (b := g) (i := m) hg1 (.int .u8 (B (y ^^^ 255)))) fun _ _ e => e)
              clear hb hg hbl hy HX HY KB hky
              go_wp2_with fail
              go_roundw
              case rel => exact ⟨m + 1, by omega, by go_num, L2.out, ⟨KB2.out, HX2.out, HY2.out⟩, C2.out⟩
              case measure => simp [intOf]; omega
          · have c0 : wr.cell? ⟨gl, k * 2 + 1, none⟩ = some (.slice ay ny cy) := by
              have := eflat_at HXX.out 1 (by omega)
              exact cell_of hb (k * 2 + 1) (by simpa [sv] using this)
            have hcut2 := fun W : World => run_cutto eltB W ay ny cy .i64 cy (Nat.le_refl _)
            have hcap2 : ∀ W : World, (Builtin.cap_ #[22] 3 #[.slice ay ny cy]).run Tryz.prog W = .ok (goInt cy) W := fun W => run_cap_slice W _ _ _ _ _ Tryz.underlying22
            obtain ⟨wo, rfl⟩ : ∃ wo : World, wo = wr := ⟨_, rfl⟩
            clear hb hkx hky
            go_wp2_with fail
            go_quiet (fail)
            go_wp2_with fail
            replace C := Lib.hid (C.out.drewN nq)
            replace L : Hid ((wo.drewN nq).heap[gl]? = some (.cells (zs.flatMap fE).toArray 51 (0, 0))) := L
            replace KB : Hid (∀ x, x ∈ zs → KbP (wo.drewN nq) gl P x.1 ∧ KbP (wo.drewN nq) gl P x.2) := KB
            replace HX : Hid (KbP (wo.drewN nq) gl P (ax, nx, cx)) := HX
            replace HY : Hid (KbP (wo.drewN nq) gl P (ay, ny, cy)) := HY
            clear c0 hcut2 hcap2
            generalize wo.drewN nq = w3 at *
            go_loopw [6] (fun i wr => ∃ m : Nat, m ≤ cy ∧ i = .int .i64 (m : Nat) ∧ wr.heap[gl]? = some (.cells (zs.flatMap fE).toArray 51 (0, 0)) ∧ ((∀ x, x ∈ zs → KbP wr gl P x.1 ∧ KbP wr gl P x.2) ∧ KbP wr gl P (ax, nx, cx) ∧ KbP wr gl P (ay, ny, cy)) ∧ Turns P w wr) (fun i _ => cy - (intOf i).toNat)
            case atStart => exact ⟨0, Nat.zero_le _, rfl, L.out, ⟨KB.out, HX.out, HY.out⟩, C.out⟩
            case round =>
              clear L KB HX HY C
              obtain ⟨m, hm, rfl, hb, ⟨hkb, hkx, hky⟩, hc⟩ := hrel
              have C := Lib.hid hc
              have L := Lib.hid hb
              have KB := Lib.hid hkb
              have HX := Lib.hid hkx
              have HY := Lib.hid hky
              clear hc hkb
              by_cases hlt2 : m < cy
              · rcases hky with ⟨_, h⟩ | ⟨g, bs, e1, hg, hbl, hne, hg1, _⟩
                · have h : cy = 0 := h; omega
                · have e1 : ay = some ⟨g, 0, none⟩ := e1
                  subst e1
                  have hbl : bs.length = cy := hbl
                  obtain ⟨y, hy⟩ : ∃ e, bs[m]? = some e := ⟨_, List.getElem?_eq_getElem (by omega)⟩
                  have c0 : wr.cell? ⟨g, m, none⟩ = some (.int .u8 (B y)) := cell_of hg m (by simp [hy])
                  have f0 := free_block hg m
                  have hyx : bits .xor .u8 (B y) 255 = B (y ^^^ 255) := B_xor y 255
                  have L2 := Lib.hid ((Below.heap_setCell wr ⟨g, m, none⟩ (.int .u8 (B (y ^^^ 255))) gl (fun e => hne e.symm)).trans L.out)
                  have KB2 := Lib.hid (show ∀ x, x ∈ zs → KbP (wr.setCell ⟨g, m, none⟩ (.int .u8 (B (y ^^^ 255)))) gl P x.1 ∧ KbP (wr.setCell ⟨g, m, none⟩ (.int .u8 (B (y ^^^ 255)))) gl P x.2 from fun x hx => ⟨(KB.out x hx).1.setB, (KB.out x hx).2.setB⟩)
                  have HX2 := Lib.hid (HX.out.setB (g := g) (i := m) (y := y ^^^ 255))
                  have HY2 := Lib.hid (HY.out.setB (g := g) (i := m) (y := y ^^^ 255))
                  have C2 := Lib.hid (C.out.trans (Turns.set (S := P) wr (b := g) (i := m) hg1 (.int .u8 (B (y ^^^ 255)))) fun _ _ e => e)
                  clear hb hg hbl hy HX HY KB hkx
                  go_wp2_with fail
                  go_roundw
                  case rel => exact ⟨m + 1, by omega, by go_num, L2.out, ⟨KB2.out, HX2.out, HY2.out⟩, C2.out⟩
                  case measure => simp [intOf]; omega
              · obtain ⟨v0, v1, ⟨c0, f0⟩, ⟨c1, f1⟩, hF⟩ := erow_set2 L.out (k := k) (by rw [HZL.out]; exact hlt) ((none, 0, 0), (none, 0, 0)) (s1 := .slice none 0 0) (s2 := .slice none 0 0) rfl
                have HF := Lib.hid hF
                have KF := Lib.hid (show ∀ x, x ∈ zs.set k ((none, 0, 0), (none, 0, 0)) → KbP ((wr.setCell ⟨gl, k * 2, none⟩ (.slice none 0 0)).setCell ⟨gl, k * 2 + 1, none⟩ (.slice none 0 0)) gl P x.1 ∧ KbP ((wr.setCell ⟨gl, k * 2, none⟩ (.slice none 0 0)).setCell ⟨gl, k * 2 + 1, none⟩ (.slice none 0 0)) gl P x.2 from fun x hx => by
                  rcases List.mem_or_eq_of_mem_set hx with h | h
                  · exact ⟨((KB.out x h).1.setL).setL, ((KB.out x h).2.setL).setL⟩
                  · subst h; exact ⟨.inl ⟨rfl, rfl⟩, .inl ⟨rfl, rfl⟩⟩)
                have CF := Lib.hid ((C.out.trans (Turns.set (S := P) wr (b := gl) (i := k * 2) hl1 (.slice none 0 0)) fun _ _ e => e).trans (Turns.set (S := P) _ (b := gl) (i := k * 2 + 1) hl1 (.slice none 0 0)) fun _ _ e => e)
                clear hF hb hkx hky HX HY KB
                go_wp2_with fail
                go_roundw
                case rel => exact ⟨k + 1, _, by omega, by go_num, by rw [List.length_set]; exact HZL.out, HF.out, KF.out, CF.out⟩
                case measure => simp [intOf]; omega
      · go_wp2_with fail
        go_end0
        exact ⟨rfl, C.out⟩
theorem RdW.spoilP {w : World} {lo : Nat} {vs : List (Sv × Sv)} {es : List Ent} {a : Option Addr} {n c : Nat} (h : RdW w lo (.slice a n c) vs es) : SpP w (RLB (.slice a n c) vs) a n c := by
  rcases h.own with ⟨e, _⟩ | ⟨g, cap, e, hg, hb, hn, hc⟩
  · injection e with e1 e2 e3
    exact .inl ⟨e1, e2, e3⟩
  · injection e with e1 e2 e3
    have hob : Value.ownBlock (.slice a n c) = some g := by rw [e1]; rfl
    refine .inr ⟨g, vs ++ List.replicate (cap - vs.length) zE, e1, hb, by simp; omega, by omega, by unfold maxLen at hc; omega, .inl hob, fun x hx => ?_⟩
    rw [List.mem_append] at hx
    rcases hx with hx | hx
    · obtain ⟨i, hil, rfl⟩ := List.mem_iff_getElem.1 hx
      have hx' : vs[i]? = some vs[i] := List.getElem?_eq_getElem hil
      obtain ⟨q, hq⟩ := h.get hx'
      obtain ⟨o1, o2⟩ := h.txt i _ q hx' hq
      have hoff := h.off i _ hx' g hob
      exact ⟨.of_own (n := vs[i].1.2.1) rfl o1 (fun j hj => .inr ⟨i, _, hx', .inl hj⟩) (fun j hj e => hoff.1 (by rw [← e]; exact hj)),
        .of_own (n := vs[i].2.2.1) rfl o2 (fun j hj => .inr ⟨i, _, hx', .inr hj⟩) (fun j hj e => hoff.2 (by rw [← e]; exact hj))⟩
    · rw [(List.mem_replicate.1 hx).2]
      exact ⟨.inl ⟨rfl, rfl⟩, .inl ⟨rfl, rfl⟩⟩
end Go.Proofs.YtljcogimeimknaaGreat
/- Are rows the same: contract of the reference's Same. Conditions: the slices within reach. -/
namespace Go.Proofs.YtljcogimeimknaaGreat
set_option linter.unusedVariables false
open Go.RowKit

theorem strB_eqF (xs ys : List UInt8) : ((strB xs).toList == (strB ys).toList) = decide (xs = ys) := by
  rw [strB_list, strB_list]
  by_cases h : xs = ys
  · subst h; simp
  · rw [decide_eq_false h]; simp [h]
set_option maxHeartbeats 2000000 in
set_option maxRecDepth 100000 in
theorem rsame_any (a : Option Addr) (n c : Nat) (a' : Option Addr) (n' c' : Nat) (rs rs' : List Row) (w : World) (hn : n ≤ 9223372036854775807) (hn' : n' ≤ 9223372036854775807)
    (h : Spans w a n c rs) (h' : Spans w a' n' c' rs') :
    Calls Tryz.prog 14 #[.slice a n c, .slice a' n' c'] w fun e w' => e = .returned (.bool (decide (rs = rs'))) ∧ Below w.heap.size w w' := by
  obtain rfl : n = rs.length := h.1.symm
  obtain rfl : n' = rs'.length := h'.1.symm
  have H := Lib.hid h; clear h
  have H' := Lib.hid h'; clear h'
  by_cases hl : rs.length = rs'.length
  · have f1 : ((rs.length : Int) != (rs'.length : Int)) = false := by rw [hl]; simp
    have f2 : (rs.length != rs'.length) = false := by rw [hl]; simp
    have hl2 : rs'.length ≤ rs.length := by omega
    have HL := Lib.hid hl; clear hl
    go_enter Tryz.func14, Tryz.ntmps14
    go_wp2_with fail
    go_loopw [5] (fun i wr => ∃ k : Nat, k ≤ rs.length ∧ i = .int .i64 k ∧ rs.take k = rs'.take k ∧ Below w.heap.size w wr) (fun i _ => rs.length - (intOf i).toNat)
    case atStart => exact ⟨0, Nat.zero_le _, rfl, by simp, Below.refl _ _⟩
    case round =>
      obtain ⟨k, hk, rfl, he, hb⟩ := hrel
      have HE := Lib.hid he; clear he
      have B := Lib.hid hb; clear hb
      by_cases hlt : k < rs.length
      · obtain ⟨⟨kk, x, y, z⟩, hx⟩ : ∃ e, rs[k]? = some e := ⟨_, List.getElem?_eq_getElem hlt⟩
        obtain ⟨⟨kk', x', y', z'⟩, hy⟩ : ∃ e, rs'[k]? = some e := ⟨_, List.getElem?_eq_getElem (by have := HL.out; omega)⟩
        obtain ⟨b, o, ak, nk, ck, rfl, c0, c1, c2, c3, s0⟩ := (H.out.keep B.out).2.2.2 k kk x y z hx
        obtain ⟨b', o', ak', nk', ck', rfl, c0', c1', c2', c3', s0'⟩ := (H'.out.keep B.out).2.2.2 k kk' x' y' z' hy
        have r1 := fun q : Nat => run_str (P := Tryz.prog) (dst := 9) Tryz.underlying22 Tryz.underlying5 (by kernel_rfl) _ _ _ _ _ (s0.drewN q)
        have r2 := fun q : Nat => run_str (P := Tryz.prog) (dst := 9) Tryz.underlying22 Tryz.underlying5 (by kernel_rfl) _ _ _ _ _ (s0'.drewN q)
        have HX := Lib.hid hx; clear hx
        have HY := Lib.hid hy; clear hy
        have hlt' : k < rs'.length := by have := HL.out; omega
        have key : (kk, x, y, z) = (kk', x', y', z') ↔ rs.take (k + 1) = rs'.take (k + 1) := by
          rw [List.take_add_one, List.take_add_one, HX.out, HY.out, HE.out]; simp
        have KEY := Lib.hid key; clear key
        by_cases e1 : kk = kk'
        · have q1 : ((strB kk).toList == (strB kk').toList) = true := by rw [strB_eqF, decide_eq_true e1]
          by_cases e2 : x = x'
          · have q2 : (x != x') = false := by rw [e2]; simp
            by_cases e3 : y = y'
            · have q3 : (y != y') = false := by rw [e3]; simp
              by_cases e4 : z = z'
              · have q4 : (z != z') = false := by rw [e4]; simp
                have EQ := Lib.hid (show (kk, x, y, z) = (kk', x', y', z') by rw [e1, e2, e3, e4])
                clear e1 e2 e3 e4
                go_wp2_with fail
                go_quiet (fail)
                go_wp2_with fail
                go_roundw
                case rel => exact ⟨k + 1, by omega, by go_num, KEY.out.1 EQ.out, keep_drewN B.out _⟩
                case measure => simp [intOf]; omega
              · have q4 : (z != z') = true := by rw [bne_iff_ne]; exact e4
                have NE := Lib.hid (show ¬ (kk, x, y, z) = (kk', x', y', z') from fun e => e4 (by simp at e; exact e.2.2.2))
                clear e1 e2 e3 e4
                go_wp2_with fail
                go_quiet (fail)
                go_wp2_with fail
                go_ret
                exact ⟨ret_bool (by symm; rw [decide_eq_false_iff_not]; intro e; exact NE.out (KEY.out.2 (by rw [e]))), keep_drewN B.out _⟩
            · have q3 : (y != y') = true := by rw [bne_iff_ne]; exact e3
              have NE := Lib.hid (show ¬ (kk, x, y, z) = (kk', x', y', z') from fun e => e3 (by simp at e; exact e.2.2.1))
              clear e1 e2 e3
              go_wp2_with fail
              go_quiet (fail)
              go_wp2_with fail
              go_ret
              exact ⟨ret_bool (by symm; rw [decide_eq_false_iff_not]; intro e; exact NE.out (KEY.out.2 (by rw [e]))), keep_drewN B.out _⟩
          · have q2 : (x != x') = true := by rw [bne_iff_ne]; exact e2
            have NE := Lib.hid (show ¬ (kk, x, y, z) = (kk', x', y', z') from fun e => e2 (by simp at e; exact e.2.1))
            clear e1 e2
            go_wp2_with fail
            go_quiet (fail)
            go_wp2_with fail
            go_ret
            exact ⟨ret_bool (by symm; rw [decide_eq_false_iff_not]; intro e; exact NE.out (KEY.out.2 (by rw [e]))), keep_drewN B.out _⟩
        · have q1 : ((strB kk).toList == (strB kk').toList) = false := by rw [strB_eqF, decide_eq_false e1]
          have NE := Lib.hid (show ¬ (kk, x, y, z) = (kk', x', y', z') from fun e => e1 (by simp at e; exact e.1))
          clear e1
          go_wp2_with fail
          go_quiet (fail)
          go_wp2_with fail
          go_ret
          exact ⟨ret_bool (by symm; rw [decide_eq_false_iff_not]; intro e; exact NE.out (KEY.out.2 (by rw [e]))), keep_drewN B.out _⟩
      · go_wp2_with fail
        go_ret
        refine ⟨ret_bool ?_, B.out⟩
        have e1 := HE.out; have e2 := HL.out
        rw [List.take_of_length_le (by omega), List.take_of_length_le (by omega)] at e1
        symm; rw [decide_eq_true_eq]; exact e1
  · have f1 : ((rs.length : Int) != (rs'.length : Int)) = true := by rw [bne_iff_ne]; omega
    have f2 : (rs.length != rs'.length) = true := by rw [bne_iff_ne]; omega
    go_enter Tryz.func14, Tryz.ntmps14
    go_wp2_with fail
    go_ret
    refine ⟨ret_bool ?_, Below.refl _ _⟩
    symm; rw [decide_eq_false_iff_not]
    intro e; exact hl (by rw [e])
end Go.Proofs.YtljcogimeimknaaGreat
/- Whoever has rows writes over them: contract of the reference's Spoil. Conditions: the rows lie in memory of their own. -/
namespace Go.Proofs.YtljcogimeimknaaGreat
set_option linter.unusedVariables false
open Go.RowKit

/-- blocks between lo and hi alone may have changed -/
structure Chg (lo hi : Nat) (w w' : World) : Prop where
  os : w'.os = w.os
  tape : w'.tape = w.tape
  output : w'.output = w.output
  size : w.heap.size ≤ w'.heap.size
  block : ∀ j, j < w.heap.size → ¬ (lo ≤ j ∧ j < hi) → w'.heap[j]? = w.heap[j]?
theorem Chg.refl (lo hi : Nat) (w : World) : Chg lo hi w w := ⟨rfl, rfl, rfl, Nat.le_refl _, fun _ _ _ => rfl⟩
theorem Chg.set {lo hi : Nat} {w w' : World} (h : Chg lo hi w w') {g i : Nat} (hl : lo ≤ g) (hh : g < hi) (v : Value) : Chg lo hi w (w'.setCell ⟨g, i, none⟩ v) :=
  ⟨h.os, h.tape, h.output, by simpa using h.size, fun j hj hn => (Below.heap_setCell w' ⟨g, i, none⟩ v j (fun e => hn (by subst e; exact ⟨hl, hh⟩))).trans (h.block j hj hn)⟩
theorem Chg.drewN {lo hi : Nat} {w w' : World} (h : Chg lo hi w w') (n : Nat) : Chg lo hi w (w'.drewN n) := ⟨h.os, h.tape, h.output, h.size, h.block⟩
theorem Chg.below {lo hi B : Nat} {w0 w w' : World} (h : Chg lo hi w w') (hb : Below B w0 w) (hB : B ≤ lo) (hBw : B ≤ w.heap.size) : Below B w0 w' :=
  hb.trans ⟨h.os, h.tape, h.output, h.size, fun j hj => h.block j (by omega) (by omega)⟩
/-- a key's block holds bytes -/
def Kb (w : World) (gl lo hi : Nat) (x : RV) : Prop :=
  (x.1.1 = none ∧ x.1.2.2 = 0) ∨ ∃ (g : Nat) (bs : List UInt8), x.1.1 = some ⟨g, 0, none⟩ ∧ w.heap[g]? = some (.cells (bs.map Bf).toArray 5 (0, 0)) ∧ bs.length = x.1.2.2 ∧ g ≠ gl ∧ lo ≤ g ∧ g < hi ∧ x.1.2.2 ≤ 9223372036854775807
theorem Kb.setB {w : World} {gl lo hi g i : Nat} {x : RV} (h : Kb w gl lo hi x) {y : UInt8} : Kb (w.setCell ⟨g, i, none⟩ (.int .u8 (B y))) gl lo hi x := by
  rcases h with h | ⟨g', bs, h1, h2, h3, h4⟩
  · exact .inl h
  · by_cases e : g' = g
    · subst e
      refine .inr ⟨g', bs.set i y, h1, ?_, by rw [List.length_set]; exact h3, h4⟩
      rw [set_block h2]
      congr 2
      apply Array.ext'
      rw [Array.toList_setIfInBounds]
      simp only [List.map_set]
    · exact .inr ⟨g', bs, h1, (Below.heap_setCell w ⟨g, i, none⟩ _ g' (by exact e)).trans h2, h3, h4⟩
theorem Kb.setL {w : World} {gl lo hi i : Nat} {x : RV} (h : Kb w gl lo hi x) {v : Value} : Kb (w.setCell ⟨gl, i, none⟩ v) gl lo hi x := by
  rcases h with h | ⟨g', bs, h1, h2, h3, h4, h5⟩
  · exact .inl h
  · exact .inr ⟨g', bs, h1, (Below.heap_setCell w ⟨gl, i, none⟩ _ g' h4).trans h2, h3, h4, h5⟩
theorem Kb.of_own {w : World} {lo hi gl : Nat} {x : RV} {k : List UInt8} (h : OwT fB w lo 5 (kV x) k) (hb : ∀ j, (kV x).ownBlock = some j → lo ≤ j ∧ j < hi) (hf : Off (kV x) gl) : Kb w gl lo hi x := by
  rcases h with ⟨e, _⟩ | ⟨g, cap, ys, e, hg, hh, hl, hn, hc, ht⟩
  · left
    injection e with e1 e2 e3
    exact ⟨e1, e3⟩
  · right
    injection e with e1 e2 e3
    have hob : (kV x).ownBlock = some g := by show Value.ownBlock (.slice x.1.1 x.1.2.1 x.1.2.2) = some g; rw [e1]; rfl
    refine ⟨g, ys, e1, by rw [hh, flat_fB], by rw [hl, e3], hf g hob, (hb g hob).1, (hb g hob).2, ?_⟩
    rw [e3]; unfold maxLen at hc; omega
theorem flat_set4 {ys : List RV} {k : Nat} {x : RV} (hk : k < ys.length) (a b c d : Value) (hx : fR x = [a, b, c, d]) :
    (((((ys.flatMap fR).set (k * 4) a).set (k * 4 + 1) b).set (k * 4 + 2) c).set (k * 4 + 3) d) = (ys.set k x).flatMap fR := by
  induction ys generalizing k with
  | nil => simp at hk
  | cons y r ih =>
    cases k with
    | zero =>
      rw [List.set_cons_zero, List.flatMap_cons, List.flatMap_cons, hx]
      rfl
    | succ k =>
      have e := ih (k := k) (by simpa using hk)
      rw [List.set_cons_succ, List.flatMap_cons, List.flatMap_cons, ← e]
      have s : ∀ (l : List Value) (i : Nat) (v : Value), (fR y ++ l).set (i + 4) v = fR y ++ l.set i v := by
        intro l i v
        rw [List.set_append_right _ _ (by rw [fR_len]; omega), fR_len]
        rfl
      rw [show (k + 1) * 4 = k * 4 + 4 by omega, show k * 4 + 4 + 1 = k * 4 + 1 + 4 by omega, show k * 4 + 4 + 2 = k * 4 + 2 + 4 by omega, show k * 4 + 4 + 3 = k * 4 + 3 + 4 by omega, s, s, s, s]
theorem flat_at {ys : List RV} {k : Nat} {x : RV} (h : ys[k]? = some x) (j : Nat) (hj : j < 4) : (ys.flatMap fR)[k * 4 + j]? = (fR x)[j]? := by
  have := flat_get fR_len ys k x j ((fR x)[j]'(by rw [fR_len]; exact hj)) h (List.getElem?_eq_getElem _)
  rw [this]; exact (List.getElem?_eq_getElem _).symm
theorem row_cells {w : World} {gl : Nat} {t : TypeId} {cs : Array Value} (h : w.heap[gl]? = some (.cells cs t (0, 0))) (i : Nat) (hi : i < cs.size) (v : Value) :
    (∃ u, w.cell? ⟨gl, i, none⟩ = some u ∧ w.frozen? ⟨gl, i, none⟩ = false) ∧ (w.setCell ⟨gl, i, none⟩ v).heap[gl]? = some (.cells (cs.setIfInBounds i v) t (0, 0)) :=
  ⟨⟨cs[i], cell_of h i (Array.getElem?_eq_getElem hi), free_block h i⟩, set_block (i := i) h v⟩
set_option maxHeartbeats 2000000 in
theorem row_set4 {w : World} {gl : Nat} {ys : List RV} {t : TypeId} (h : w.heap[gl]? = some (.cells (ys.flatMap fR).toArray t (0, 0))) {k : Nat} (hk : k < ys.length) (x : RV) :
    ∃ v0 v1 v2 v3, (w.cell? ⟨gl, k * 4, none⟩ = some v0 ∧ w.frozen? ⟨gl, k * 4, none⟩ = false) ∧ ((w.setCell ⟨gl, k * 4, none⟩ (kV x)).cell? ⟨gl, k * 4 + 1, none⟩ = some v1 ∧ (w.setCell ⟨gl, k * 4, none⟩ (kV x)).frozen? ⟨gl, k * 4 + 1, none⟩ = false) ∧
      (((w.setCell ⟨gl, k * 4, none⟩ (kV x)).setCell ⟨gl, k * 4 + 1, none⟩ (.int .i64 x.2.1)).cell? ⟨gl, k * 4 + 2, none⟩ = some v2 ∧ ((w.setCell ⟨gl, k * 4, none⟩ (kV x)).setCell ⟨gl, k * 4 + 1, none⟩ (.int .i64 x.2.1)).frozen? ⟨gl, k * 4 + 2, none⟩ = false) ∧
      ((((w.setCell ⟨gl, k * 4, none⟩ (kV x)).setCell ⟨gl, k * 4 + 1, none⟩ (.int .i64 x.2.1)).setCell ⟨gl, k * 4 + 2, none⟩ (.int .i64 x.2.2.1)).cell? ⟨gl, k * 4 + 3, none⟩ = some v3 ∧ (((w.setCell ⟨gl, k * 4, none⟩ (kV x)).setCell ⟨gl, k * 4 + 1, none⟩ (.int .i64 x.2.1)).setCell ⟨gl, k * 4 + 2, none⟩ (.int .i64 x.2.2.1)).frozen? ⟨gl, k * 4 + 3, none⟩ = false) ∧
      ((((w.setCell ⟨gl, k * 4, none⟩ (kV x)).setCell ⟨gl, k * 4 + 1, none⟩ (.int .i64 x.2.1)).setCell ⟨gl, k * 4 + 2, none⟩ (.int .i64 x.2.2.1)).setCell ⟨gl, k * 4 + 3, none⟩ (.int .i64 x.2.2.2)).heap[gl]? = some (.cells ((ys.set k x).flatMap fR).toArray t (0, 0)) := by
  have hl : (ys.flatMap fR).length = ys.length * 4 := flat_length fR_len ys
  obtain ⟨cs, hcs⟩ : ∃ cs, (ys.flatMap fR).toArray = cs := ⟨_, rfl⟩
  have hsz : cs.size = ys.length * 4 := by rw [← hcs, List.size_toArray, hl]
  rw [hcs] at h
  obtain ⟨⟨v0, c0⟩, h1⟩ := row_cells h (k * 4) (by omega) (kV x)
  obtain ⟨⟨v1, c1⟩, h2⟩ := row_cells h1 (k * 4 + 1) (by rw [Array.size_setIfInBounds]; omega) (.int .i64 x.2.1)
  obtain ⟨⟨v2, c2⟩, h3⟩ := row_cells h2 (k * 4 + 2) (by rw [Array.size_setIfInBounds, Array.size_setIfInBounds]; omega) (.int .i64 x.2.2.1)
  obtain ⟨⟨v3, c3⟩, h4⟩ := row_cells h3 (k * 4 + 3) (by rw [Array.size_setIfInBounds, Array.size_setIfInBounds, Array.size_setIfInBounds]; omega) (.int .i64 x.2.2.2)
  refine ⟨v0, v1, v2, v3, c0, c1, c2, c3, ?_⟩
  rw [h4, ← hcs]
  congr 2
  apply Array.ext'
  simp only [Array.toList_setIfInBounds]
  exact flat_set4 hk _ _ _ _ rfl

set_option maxHeartbeats 4000000 in
set_option maxRecDepth 100000 in
theorem rspoil_any (a : Option Addr) (n c : Nat) (vs : List RV) (rs : List Row) (lo hi : Nat) (w : World) (hO : OwR w lo (.slice a n c) vs) (hK : KTx w lo hi (.slice a n c) vs rs) (hh : ∀ j, Value.ownBlock (.slice a n c) = some j → lo ≤ j ∧ j < hi) :
    Calls Tryz.prog 15 #[.slice a n c] w fun e w' => e = .returned (.tuple #[]) ∧ Chg lo hi w w' := by
  rcases hO with ⟨hv, rfl⟩ | ⟨gl, cap, hv, hg, hb, hnc, hcm⟩
  · injection hv with e1 e2 e3
    subst e1 e2 e3
    have hcut := fun W : World => run_cutR W none 0 0 .i64 0 (Nat.le_refl _)
    have hcap : ∀ W : World, (Builtin.cap_ #[33] 3 #[.slice none 0 0]).run Tryz.prog W = .ok (goInt 0) W := fun W => run_cap_slice W _ _ _ _ _ Tryz.underlying33
    go_enter Tryz.func15, Tryz.ntmps15
    go_wp2_with fail
    go_loopw [2] (fun i wr => i = .int .i64 0 ∧ Chg lo hi w wr) (fun _ _ => 0)
    case atStart => exact ⟨rfl, Chg.refl _ _ _⟩
    case round =>
      obtain ⟨rfl, hc⟩ := hrel
      have C := Lib.hid hc; clear hc
      go_wp2_with fail
      go_end0
      exact ⟨rfl, C.out⟩
  · injection hv with e1 e2 e3
    subst e1 e2 e3
    obtain ⟨hl1, hl2⟩ := hh gl rfl
    have hkb : ∀ x, x ∈ vs ++ List.replicate (c - vs.length) zR → Kb w gl lo hi x := by
      intro x hx
      rcases List.mem_append.1 hx with hx | hx
      · obtain ⟨i, hi2, e⟩ := List.mem_iff_getElem.1 hx
        obtain ⟨r, hr⟩ : ∃ r, rs[i]? = some r := ⟨_, List.getElem?_eq_getElem (by rw [← hK.1]; exact hi2)⟩
        obtain ⟨_, ho, hb2, hf⟩ := hK.2 i x r (by rw [← e]; exact List.getElem?_eq_getElem hi2) hr
        exact Kb.of_own ho hb2 (hf gl rfl)
      · obtain ⟨_, rfl⟩ := List.mem_replicate.1 hx
        exact .inl ⟨rfl, rfl⟩
    obtain ⟨ys, hys⟩ : ∃ ys, vs ++ List.replicate (c - vs.length) zR = ys := ⟨_, rfl⟩
    have hyl : ys.length = c := by rw [← hys]; simp; omega
    rw [hys] at hb hkb
    have HB := Lib.hid hb
    have HKB := Lib.hid hkb
    have hcm2 : c ≤ 9223372036854775807 := by unfold maxLen at hcm; omega
    have HYL := Lib.hid hyl
    obtain ⟨nv, hnv⟩ : ∃ x, vs.length = x := ⟨_, rfl⟩
    rw [hnv] at hnc ⊢
    have hcut := fun W : World => run_cutR W (some ⟨gl, 0, none⟩) nv c .i64 c (Nat.le_refl _)
    have hcap : ∀ W : World, (Builtin.cap_ #[33] 3 #[.slice (some ⟨gl, 0, none⟩) nv c]).run Tryz.prog W = .ok (goInt c) W := fun W => run_cap_slice W _ _ _ _ _ Tryz.underlying33
    clear hb hkb hys hh hK hyl hnv hcm
    go_enter Tryz.func15, Tryz.ntmps15
    go_wp2_with fail
    go_loopw [2] (fun i wr => ∃ (k : Nat) (ys : List RV), k ≤ c ∧ i = .int .i64 (k : Nat) ∧ ys.length = c ∧ wr.heap[gl]? = some (.cells (ys.flatMap fR).toArray 94 (0, 0)) ∧ (∀ x, x ∈ ys → Kb wr gl lo hi x) ∧ Chg lo hi w wr) (fun i _ => c - (intOf i).toNat)
    case atStart => exact ⟨0, ys, Nat.zero_le _, rfl, HYL.out, HB.out, HKB.out, Chg.refl _ _ _⟩
    case round =>
      clear HB HKB HYL
      obtain ⟨k, zs, hk, rfl, hzl, hb, hkb, hc⟩ := hrel
      have C := Lib.hid hc
      have L := Lib.hid hb
      have KB := Lib.hid hkb
      have HZL := Lib.hid hzl
      clear hc hkb
      by_cases hlt : k < c
      · obtain ⟨x, hx⟩ : ∃ e, zs[k]? = some e := ⟨_, List.getElem?_eq_getElem (by rw [hzl]; exact hlt)⟩
        have c0 : wr.cell? ⟨gl, k * 4, none⟩ = some (kV x) := by
          have := flat_at hx 0 (by omega)
          exact cell_of hb (k * 4) (by simpa using this)
        obtain ⟨⟨ax, nx, cx⟩, X, Y, Z⟩ := x
        replace c0 : wr.cell? ⟨gl, k * 4, none⟩ = some (.slice ax nx cx) := c0
        have hkx := KB.out _ (List.mem_of_getElem? hx)
        have hcx : cx ≤ 9223372036854775807 := by
          rcases hkx with ⟨_, h⟩ | ⟨_, _, _, _, _, _, _, _, h⟩
          · have h : cx = 0 := h; omega
          · exact h
        have HX := Lib.hid hkx
        have hcut2 := fun W : World => run_cutto eltB W ax nx cx .i64 cx (Nat.le_refl _)
        have hcap2 : ∀ W : World, (Builtin.cap_ #[22] 3 #[.slice ax nx cx]).run Tryz.prog W = .ok (goInt cx) W := fun W => run_cap_slice W _ _ _ _ _ Tryz.underlying22
        clear hb hx hkx hzl hcut hcap
        go_wp2_with fail
        go_quiet (fail)
        go_wp2_with fail
        replace C := Lib.hid (C.out.drewN nq)
        replace L : Hid ((wr.drewN nq).heap[gl]? = some (.cells (zs.flatMap fR).toArray 94 (0, 0))) := L
        replace KB : Hid (∀ x, x ∈ zs → Kb (wr.drewN nq) gl lo hi x) := KB
        replace HX : Hid (Kb (wr.drewN nq) gl lo hi ((ax, nx, cx), X, Y, Z)) := HX
        clear c0 hcut2 hcap2
        generalize wr.drewN nq = w2 at *
        go_loopw [4] (fun i wr => ∃ m : Nat, m ≤ cx ∧ i = .int .i64 (m : Nat) ∧ wr.heap[gl]? = some (.cells (zs.flatMap fR).toArray 94 (0, 0)) ∧ ((∀ x, x ∈ zs → Kb wr gl lo hi x) ∧ Kb wr gl lo hi ((ax, nx, cx), X, Y, Z)) ∧ Chg lo hi w wr) (fun i _ => cx - (intOf i).toNat)
        case atStart => exact ⟨0, Nat.zero_le _, rfl, L.out, ⟨KB.out, HX.out⟩, C.out⟩
        case round =>
          clear L KB HX C
          obtain ⟨m, hm, rfl, hb, ⟨hkb, hkx⟩, hc⟩ := hrel
          have C := Lib.hid hc
          have L := Lib.hid hb
          have KB := Lib.hid hkb
          have HX := Lib.hid hkx
          clear hc hkb
          by_cases hlt2 : m < cx
          · rcases hkx with ⟨_, h⟩ | ⟨g, bs, e1, hg, hbl, hne, hg1, hg2, _⟩
            · have h : cx = 0 := h; omega
            · have e1 : ax = some ⟨g, 0, none⟩ := e1
              subst e1
              have hbl : bs.length = cx := hbl
              obtain ⟨y, hy⟩ : ∃ e, bs[m]? = some e := ⟨_, List.getElem?_eq_getElem (by omega)⟩
              have c0 : wr.cell? ⟨g, m, none⟩ = some (.int .u8 (B y)) := cell_of hg m (by simp [hy])
              have f0 := free_block hg m
              have hyx : bits .xor .u8 (B y) 255 = B (y ^^^ 255) := B_xor y 255
              have L2 := Lib.hid ((Below.heap_setCell wr ⟨g, m, none⟩ (.int .u8 (B (y ^^^ 255))) gl (fun e => hne e.symm)).trans L.out)
              have KB2 := Lib.hid (show ∀ x, x ∈ zs → Kb (wr.setCell ⟨g, m, none⟩ (.int .u8 (B (y ^^^ 255)))) gl lo hi x from fun x hx => (KB.out x hx).setB)
              have HX2 := Lib.hid (HX.out.setB (g := g) (i := m) (y := y ^^^ 255))
              have C2 := Lib.hid (C.out.set (g := g) (i := m) hg1 hg2 (.int .u8 (B (y ^^^ 255))))
              clear hb hg hbl hy HX KB
              go_wp2_with fail
              go_roundw
              case rel => exact ⟨m + 1, by omega, by go_num, L2.out, ⟨KB2.out, HX2.out⟩, C2.out⟩
              case measure => simp [intOf]; omega
          · obtain ⟨v0, v1, v2, v3, ⟨c0, f0⟩, ⟨c1, f1⟩, ⟨c2, f2⟩, ⟨c3, f3⟩, hF⟩ := row_set4 L.out (k := k) (by rw [HZL.out]; exact hlt) ((none, 0, 0), -1, 0, 0)
            have HF := Lib.hid hF
            have KF := Lib.hid (show ∀ x, x ∈ zs.set k ((none, 0, 0), -1, 0, 0) → Kb ((((wr.setCell ⟨gl, k * 4, none⟩ (.slice none 0 0)).setCell ⟨gl, k * 4 + 1, none⟩ (.int .i64 (-1))).setCell ⟨gl, k * 4 + 2, none⟩ (.int .i64 0)).setCell ⟨gl, k * 4 + 3, none⟩ (.int .i64 0)) gl lo hi x from fun x hx => by
              rcases List.mem_or_eq_of_mem_set hx with h | h
              · exact (((KB.out x h).setL.setL).setL).setL
              · subst h; exact .inl ⟨rfl, rfl⟩)
            have CF := Lib.hid ((((C.out.set (g := gl) (i := k * 4) hl1 hl2 (.slice none 0 0)).set (g := gl) (i := k * 4 + 1) hl1 hl2 (.int .i64 (-1))).set (g := gl) (i := k * 4 + 2) hl1 hl2 (.int .i64 0)).set (g := gl) (i := k * 4 + 3) hl1 hl2 (.int .i64 0))
            clear hF hb hkx HX KB
            go_wp2_with fail
            go_roundw
            case rel => exact ⟨k + 1, _, by omega, by go_num, by rw [List.length_set]; exact HZL.out, HF.out, KF.out, CF.out⟩
            case measure => simp [intOf]; omega
      · go_wp2_with fail
        go_end0
        exact ⟨rfl, C.out⟩
end Go.Proofs.YtljcogimeimknaaGreat

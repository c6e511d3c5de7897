/- Whoever has entries writes over them: contract of the reference's Spoil. Conditions: the entries lie in memory of their own. Written by a program of this place (gen_EntSpoil.py). -/
import Derived.Test.YtljcogimeimknaaK8b
import Derived.Test.YtljcogimeimknaaK8a
import Derived.BigQuiet
import Derived.Deep.QuietTactic
import Derived.Deep.Cut
namespace Go.Proofs.Ytljcogimeimknaa
open Go.RowKit
set_option linter.unusedVariables false

/-- a text's block holds bytes -/
def KbE (w : World) (gl lo hi : Nat) (s : Sv) : Prop :=
  (s.1 = none ∧ s.2.2 = 0) ∨ ∃ (g : Nat) (bs : List UInt8), s.1 = some ⟨g, 0, none⟩ ∧ w.heap[g]? = some (.cells (bs.map Bf).toArray 5 (0, 0)) ∧ bs.length = s.2.2 ∧ g ≠ gl ∧ lo ≤ g ∧ g < hi ∧ s.2.2 ≤ 9223372036854775807
theorem KbE.setB {w : World} {gl lo hi g i : Nat} {s : Sv} (h : KbE w gl lo hi s) {y : UInt8} : KbE (w.setCell ⟨g, i, none⟩ (.int .u8 (B y))) gl lo hi s := by
  rcases h with h | ⟨g', bs, h1, h2, h3, h4⟩
  · exact .inl h
  · by_cases e : g' = g
    · subst e
      refine .inr ⟨g', bs.set i y, h1, ?_, by rw [List.length_set]; exact h3, h4⟩
      rw [set_block h2]
      congr 2
      apply Array.ext'
      rw [Array.toList_setIfInBounds]
      simp only [List.map_set]
    · exact .inr ⟨g', bs, h1, (Below.heap_setCell w ⟨g, i, none⟩ _ g' (by exact e)).trans h2, h3, h4⟩
theorem KbE.setL {w : World} {gl lo hi i : Nat} {s : Sv} (h : KbE w gl lo hi s) {v : Value} : KbE (w.setCell ⟨gl, i, none⟩ v) gl lo hi s := by
  rcases h with h | ⟨g', bs, h1, h2, h3, h4, h5⟩
  · exact .inl h
  · exact .inr ⟨g', bs, h1, (Below.heap_setCell w ⟨gl, i, none⟩ _ g' h4).trans h2, h3, h4, h5⟩
theorem KbE.cap {w : World} {gl lo hi : Nat} {s : Sv} (h : KbE w gl lo hi s) : s.2.2 ≤ 9223372036854775807 := by
  rcases h with ⟨_, h⟩ | ⟨_, _, _, _, _, _, _, _, h⟩
  · omega
  · exact h
theorem KbE.of_own {w : World} {lo hi gl : Nat} {s : Sv} {e : TypeId} {xs : List UInt8} {n : Nat} (he : e = 5) (h : OwT fB w lo e (.slice s.1 n s.2.2) xs) (hb : ∀ j, Value.ownBlock (.slice s.1 n s.2.2) = some j → lo ≤ j ∧ j < hi) (hf : Off (.slice s.1 n s.2.2) gl) : KbE w gl lo hi s := by
  subst he
  rcases h with ⟨e, _⟩ | ⟨g, cap, ys, e, hg, hh, hl, hn, hc, ht⟩
  · left
    injection e with e1 e2 e3
    exact ⟨e1, e3⟩
  · right
    injection e with e1 e2 e3
    have hob : Value.ownBlock (.slice s.1 n s.2.2) = some g := by rw [e1]; rfl
    refine ⟨g, ys, e1, by rw [hh, flat_fB], by rw [hl, e3], hf g hob, (hb g hob).1, (hb g hob).2, ?_⟩
    rw [e3]; unfold maxLen at hc; omega
/-- a list of entries that may be written over -/
def SpE (w : World) (lo hi : Nat) (a : Option Addr) (n c : Nat) : Prop :=
  (a = none ∧ n = 0 ∧ c = 0) ∨ ∃ (gl : Nat) (ys : List (Sv × Sv)), a = some ⟨gl, 0, none⟩ ∧ w.heap[gl]? = some (.cells (ys.flatMap fE).toArray 42 (0, 0)) ∧ ys.length = c ∧ n ≤ c ∧ c ≤ 9223372036854775807 ∧ lo ≤ gl ∧ gl < hi ∧ ∀ x, x ∈ ys → KbE w gl lo hi x.1 ∧ KbE w gl lo hi x.2
theorem eflat_at {ys : List (Sv × Sv)} {k : Nat} {x : Sv × Sv} (h : ys[k]? = some x) (j : Nat) (hj : j < 2) : (ys.flatMap fE)[k * 2 + j]? = (fE x)[j]? := by
  have := flat_get fE_len ys k x j ((fE x)[j]'(by rw [fE_len]; exact hj)) h (List.getElem?_eq_getElem _)
  rw [this]; exact (List.getElem?_eq_getElem _).symm
theorem eflat_set2 {ys : List (Sv × Sv)} {k : Nat} {x : Sv × Sv} (hk : k < ys.length) (a b : Value) (hx : fE x = [a, b]) : (((ys.flatMap fE).set (k * 2) a).set (k * 2 + 1) b) = (ys.set k x).flatMap fE := by
  induction ys generalizing k with
  | nil => simp at hk
  | cons y r ih =>
    cases k with
    | zero => rw [List.set_cons_zero, List.flatMap_cons, List.flatMap_cons, hx]; rfl
    | succ k =>
      have e := ih (k := k) (by simpa using hk)
      rw [List.set_cons_succ, List.flatMap_cons, List.flatMap_cons, ← e]
      have s : ∀ (l : List Value) (i : Nat) (v : Value), (fE y ++ l).set (i + 2) v = fE y ++ l.set i v := by
        intro l i v
        rw [List.set_append_right _ _ (by rw [fE_len]; omega), fE_len]
        rfl
      rw [show (k + 1) * 2 = k * 2 + 2 by omega, show k * 2 + 2 + 1 = k * 2 + 1 + 2 by omega, s, s]
theorem erow_cells {w : World} {gl : Nat} {t : TypeId} {cs : Array Value} (h : w.heap[gl]? = some (.cells cs t (0, 0))) (i : Nat) (hi : i < cs.size) (v : Value) :
    (∃ u, w.cell? ⟨gl, i, none⟩ = some u ∧ w.frozen? ⟨gl, i, none⟩ = false) ∧ (w.setCell ⟨gl, i, none⟩ v).heap[gl]? = some (.cells (cs.setIfInBounds i v) t (0, 0)) :=
  ⟨⟨cs[i], cell_of h i (Array.getElem?_eq_getElem hi), free_block h i⟩, set_block (i := i) h v⟩
theorem erow_set2 {w : World} {gl : Nat} {ys : List (Sv × Sv)} {t : TypeId} (h : w.heap[gl]? = some (.cells (ys.flatMap fE).toArray t (0, 0))) {k : Nat} (hk : k < ys.length) (x : Sv × Sv) {s1 s2 : Value} (hx : fE x = [s1, s2]) :
    ∃ v0 v1, (w.cell? ⟨gl, k * 2, none⟩ = some v0 ∧ w.frozen? ⟨gl, k * 2, none⟩ = false) ∧ ((w.setCell ⟨gl, k * 2, none⟩ s1).cell? ⟨gl, k * 2 + 1, none⟩ = some v1 ∧ (w.setCell ⟨gl, k * 2, none⟩ s1).frozen? ⟨gl, k * 2 + 1, none⟩ = false) ∧
      ((w.setCell ⟨gl, k * 2, none⟩ s1).setCell ⟨gl, k * 2 + 1, none⟩ s2).heap[gl]? = some (.cells ((ys.set k x).flatMap fE).toArray t (0, 0)) := by
  have hl : (ys.flatMap fE).length = ys.length * 2 := flat_length fE_len ys
  obtain ⟨cs, hcs⟩ : ∃ cs, (ys.flatMap fE).toArray = cs := ⟨_, rfl⟩
  have hsz : cs.size = ys.length * 2 := by rw [← hcs, List.size_toArray, hl]
  rw [hcs] at h
  obtain ⟨⟨v0, c0⟩, h1⟩ := erow_cells h (k * 2) (by omega) s1
  obtain ⟨⟨v1, c1⟩, h2⟩ := erow_cells h1 (k * 2 + 1) (by rw [Array.size_setIfInBounds]; omega) s2
  refine ⟨v0, v1, c0, c1, ?_⟩
  rw [h2, ← hcs]
  congr 2
  apply Array.ext'
  simp only [Array.toList_setIfInBounds]
  exact eflat_set2 hk _ _ hx
set_option maxHeartbeats 4000000 in
set_option maxRecDepth 100000 in
theorem espoil_any (a : Option Addr) (n c : Nat) (lo hi : Nat) (w : World) (h : SpE w lo hi a n c) :
    Calls Try.prog 17 #[.slice a n c] w fun e w' => e = .returned (.tuple #[]) ∧ Turns (fun j => lo ≤ j ∧ j < hi) w w' := by
  rcases h with ⟨rfl, rfl, rfl⟩ | ⟨gl, ys, rfl, hb, hyl, hnc, hcm2, hl1, hl2, hkb⟩
  · have hcut := fun W : World => run_cutE W none 0 0 .i64 0 (Nat.le_refl _)
    have hcap : ∀ W : World, (Builtin.cap_ #[22] 3 #[.slice none 0 0]).run Try.prog W = .ok (goInt 0) W := fun W => run_cap_slice W _ _ _ _ _ Try.underlying22
    go_enter Try.func17, Try.ntmps17
    go_wp2_with fail
    go_loopw [2] (fun i wr => i = .int .i64 0 ∧ Turns (fun j => lo ≤ j ∧ j < hi) w wr) (fun _ _ => 0)
    case atStart => exact ⟨rfl, Turns.refl _ _⟩
    case round =>
      obtain ⟨rfl, hc⟩ := hrel
      have C := Lib.hid hc; clear hc
      go_wp2_with fail
      go_end0
      exact ⟨rfl, C.out⟩
  · have HB := Lib.hid hb
    have HKB := Lib.hid hkb
    have HYL := Lib.hid hyl
    have hcut := fun W : World => run_cutE W (some ⟨gl, 0, none⟩) n c .i64 c (Nat.le_refl _)
    have hcap : ∀ W : World, (Builtin.cap_ #[22] 3 #[.slice (some ⟨gl, 0, none⟩) n c]).run Try.prog W = .ok (goInt c) W := fun W => run_cap_slice W _ _ _ _ _ Try.underlying22
    clear hb hkb hyl
    go_enter Try.func17, Try.ntmps17
    go_wp2_with fail
    go_loopw [2] (fun i wr => ∃ (k : Nat) (ys : List (Sv × Sv)), k ≤ c ∧ i = .int .i64 (k : Nat) ∧ ys.length = c ∧ wr.heap[gl]? = some (.cells (ys.flatMap fE).toArray 42 (0, 0)) ∧ (∀ x, x ∈ ys → KbE wr gl lo hi x.1 ∧ KbE wr gl lo hi x.2) ∧ Turns (fun j => lo ≤ j ∧ j < hi) w wr) (fun i _ => c - (intOf i).toNat)
    case atStart => exact ⟨0, ys, Nat.zero_le _, rfl, HYL.out, HB.out, HKB.out, Turns.refl _ _⟩
    case round =>
      clear HB HKB HYL
      obtain ⟨k, zs, hk, rfl, hzl, hb, hkb, hc⟩ := hrel
      have C := Lib.hid hc
      have L := Lib.hid hb
      have KB := Lib.hid hkb
      have HZL := Lib.hid hzl
      clear hc hkb
      by_cases hlt : k < c
      · obtain ⟨⟨⟨ax, nx, cx⟩, ⟨ay, ny, cy⟩⟩, hx⟩ : ∃ e, zs[k]? = some e := ⟨_, List.getElem?_eq_getElem (by rw [hzl]; exact hlt)⟩
        obtain ⟨hkx, hky⟩ := KB.out _ (List.mem_of_getElem? hx)
        dsimp only at hkx hky
        have hcx : cx ≤ 9223372036854775807 := hkx.cap
        have hcy : cy ≤ 9223372036854775807 := hky.cap
        have HX := Lib.hid hkx
        have HY := Lib.hid hky
        have HXX := Lib.hid hx
        have hcut2 := fun W : World => run_cutto eltB W ax nx cx .i64 cx (Nat.le_refl _)
        have hcap2 : ∀ W : World, (Builtin.cap_ #[25] 3 #[.slice ax nx cx]).run Try.prog W = .ok (goInt cx) W := fun W => run_cap_slice W _ _ _ _ _ Try.underlying25
        have c0 : wr.cell? ⟨gl, k * 2, none⟩ = some (.slice ax nx cx) := by
          have := eflat_at hx 0 (by omega)
          exact cell_of hb (k * 2) (by simpa [sv] using this)
        clear hb hx hkx hky hzl hcut hcap
        go_wp2_with fail
        go_quiet (fail)
        go_wp2_with fail
        replace C := Lib.hid (C.out.drewN nq)
        replace L : Hid ((wr.drewN nq).heap[gl]? = some (.cells (zs.flatMap fE).toArray 42 (0, 0))) := L
        replace KB : Hid (∀ x, x ∈ zs → KbE (wr.drewN nq) gl lo hi x.1 ∧ KbE (wr.drewN nq) gl lo hi x.2) := KB
        replace HX : Hid (KbE (wr.drewN nq) gl lo hi (ax, nx, cx)) := HX
        replace HY : Hid (KbE (wr.drewN nq) gl lo hi (ay, ny, cy)) := HY
        clear c0 hcut2 hcap2
        generalize wr.drewN nq = w2 at *
        go_loopw [4] (fun i wr => ∃ m : Nat, m ≤ cx ∧ i = .int .i64 (m : Nat) ∧ wr.heap[gl]? = some (.cells (zs.flatMap fE).toArray 42 (0, 0)) ∧ ((∀ x, x ∈ zs → KbE wr gl lo hi x.1 ∧ KbE wr gl lo hi x.2) ∧ KbE wr gl lo hi (ax, nx, cx) ∧ KbE wr gl lo hi (ay, ny, cy)) ∧ Turns (fun j => lo ≤ j ∧ j < hi) w wr) (fun i _ => cx - (intOf i).toNat)
        case atStart => exact ⟨0, Nat.zero_le _, rfl, L.out, ⟨KB.out, HX.out, HY.out⟩, C.out⟩
        case round =>
          clear L KB HX HY C
          obtain ⟨m, hm, rfl, hb, ⟨hkb, hkx, hky⟩, hc⟩ := hrel
          have C := Lib.hid hc
          have L := Lib.hid hb
          have KB := Lib.hid hkb
          have HX := Lib.hid hkx
          have HY := Lib.hid hky
          clear hc hkb
          by_cases hlt2 : m < cx
          · rcases hkx with ⟨_, h⟩ | ⟨g, bs, e1, hg, hbl, hne, hg1, hg2, _⟩
            · have h : cx = 0 := h; omega
            · have e1 : ax = some ⟨g, 0, none⟩ := e1
              subst e1
              have hbl : bs.length = cx := hbl
              obtain ⟨y, hy⟩ : ∃ e, bs[m]? = some e := ⟨_, List.getElem?_eq_getElem (by omega)⟩
              have c0 : wr.cell? ⟨g, m, none⟩ = some (.int .u8 (B y)) := cell_of hg m (by simp [hy])
              have f0 := free_block hg m
              have hyx : bits .xor .u8 (B y) 255 = B (y ^^^ 255) := B_xor y 255
              have L2 := Lib.hid ((Below.heap_setCell wr ⟨g, m, none⟩ (.int .u8 (B (y ^^^ 255))) gl (fun e => hne e.symm)).trans L.out)
              have KB2 := Lib.hid (show ∀ x, x ∈ zs → KbE (wr.setCell ⟨g, m, none⟩ (.int .u8 (B (y ^^^ 255)))) gl lo hi x.1 ∧ KbE (wr.setCell ⟨g, m, none⟩ (.int .u8 (B (y ^^^ 255)))) gl lo hi x.2 from fun x hx => ⟨(KB.out x hx).1.setB, (KB.out x hx).2.setB⟩)
              have HX2 := Lib.hid (HX.out.setB (g := g) (i := m) (y := y ^^^ 255))
              have HY2 := Lib.hid (HY.out.setB (g := g) (i := m) (y := y ^^^ 255))
              have C2 := Lib.hid (C.out.trans (Turns.set (S := fun j => lo ≤ j ∧ j < hi) wr (b := g) (i := m) ⟨hg1, hg2⟩ (.int .u8 (B (y ^^^ 255)))) fun _ _ e => e)
              clear hb hg hbl hy HX HY KB hky
              go_wp2_with fail
              go_roundw
              case rel => exact ⟨m + 1, by omega, by go_num, L2.out, ⟨KB2.out, HX2.out, HY2.out⟩, C2.out⟩
              case measure => simp [intOf]; omega
          · have c0 : wr.cell? ⟨gl, k * 2 + 1, none⟩ = some (.slice ay ny cy) := by
              have := eflat_at HXX.out 1 (by omega)
              exact cell_of hb (k * 2 + 1) (by simpa [sv] using this)
            have hcut2 := fun W : World => run_cutto eltB W ay ny cy .i64 cy (Nat.le_refl _)
            have hcap2 : ∀ W : World, (Builtin.cap_ #[25] 3 #[.slice ay ny cy]).run Try.prog W = .ok (goInt cy) W := fun W => run_cap_slice W _ _ _ _ _ Try.underlying25
            obtain ⟨wo, rfl⟩ : ∃ wo : World, wo = wr := ⟨_, rfl⟩
            clear hb hkx hky
            go_wp2_with fail
            go_quiet (fail)
            go_wp2_with fail
            replace C := Lib.hid (C.out.drewN nq)
            replace L : Hid ((wo.drewN nq).heap[gl]? = some (.cells (zs.flatMap fE).toArray 42 (0, 0))) := L
            replace KB : Hid (∀ x, x ∈ zs → KbE (wo.drewN nq) gl lo hi x.1 ∧ KbE (wo.drewN nq) gl lo hi x.2) := KB
            replace HX : Hid (KbE (wo.drewN nq) gl lo hi (ax, nx, cx)) := HX
            replace HY : Hid (KbE (wo.drewN nq) gl lo hi (ay, ny, cy)) := HY
            clear c0 hcut2 hcap2
            generalize wo.drewN nq = w3 at *
            go_loopw [6] (fun i wr => ∃ m : Nat, m ≤ cy ∧ i = .int .i64 (m : Nat) ∧ wr.heap[gl]? = some (.cells (zs.flatMap fE).toArray 42 (0, 0)) ∧ ((∀ x, x ∈ zs → KbE wr gl lo hi x.1 ∧ KbE wr gl lo hi x.2) ∧ KbE wr gl lo hi (ax, nx, cx) ∧ KbE wr gl lo hi (ay, ny, cy)) ∧ Turns (fun j => lo ≤ j ∧ j < hi) w wr) (fun i _ => cy - (intOf i).toNat)
            case atStart => exact ⟨0, Nat.zero_le _, rfl, L.out, ⟨KB.out, HX.out, HY.out⟩, C.out⟩
            case round =>
              clear L KB HX HY C
              obtain ⟨m, hm, rfl, hb, ⟨hkb, hkx, hky⟩, hc⟩ := hrel
              have C := Lib.hid hc
              have L := Lib.hid hb
              have KB := Lib.hid hkb
              have HX := Lib.hid hkx
              have HY := Lib.hid hky
              clear hc hkb
              by_cases hlt2 : m < cy
              · rcases hky with ⟨_, h⟩ | ⟨g, bs, e1, hg, hbl, hne, hg1, hg2, _⟩
                · have h : cy = 0 := h; omega
                · have e1 : ay = some ⟨g, 0, none⟩ := e1
                  subst e1
                  have hbl : bs.length = cy := hbl
                  obtain ⟨y, hy⟩ : ∃ e, bs[m]? = some e := ⟨_, List.getElem?_eq_getElem (by omega)⟩
                  have c0 : wr.cell? ⟨g, m, none⟩ = some (.int .u8 (B y)) := cell_of hg m (by simp [hy])
                  have f0 := free_block hg m
                  have hyx : bits .xor .u8 (B y) 255 = B (y ^^^ 255) := B_xor y 255
                  have L2 := Lib.hid ((Below.heap_setCell wr ⟨g, m, none⟩ (.int .u8 (B (y ^^^ 255))) gl (fun e => hne e.symm)).trans L.out)
                  have KB2 := Lib.hid (show ∀ x, x ∈ zs → KbE (wr.setCell ⟨g, m, none⟩ (.int .u8 (B (y ^^^ 255)))) gl lo hi x.1 ∧ KbE (wr.setCell ⟨g, m, none⟩ (.int .u8 (B (y ^^^ 255)))) gl lo hi x.2 from fun x hx => ⟨(KB.out x hx).1.setB, (KB.out x hx).2.setB⟩)
                  have HX2 := Lib.hid (HX.out.setB (g := g) (i := m) (y := y ^^^ 255))
                  have HY2 := Lib.hid (HY.out.setB (g := g) (i := m) (y := y ^^^ 255))
                  have C2 := Lib.hid (C.out.trans (Turns.set (S := fun j => lo ≤ j ∧ j < hi) wr (b := g) (i := m) ⟨hg1, hg2⟩ (.int .u8 (B (y ^^^ 255)))) fun _ _ e => e)
                  clear hb hg hbl hy HX HY KB hkx
                  go_wp2_with fail
                  go_roundw
                  case rel => exact ⟨m + 1, by omega, by go_num, L2.out, ⟨KB2.out, HX2.out, HY2.out⟩, C2.out⟩
                  case measure => simp [intOf]; omega
              · obtain ⟨v0, v1, ⟨c0, f0⟩, ⟨c1, f1⟩, hF⟩ := erow_set2 L.out (k := k) (by rw [HZL.out]; exact hlt) ((none, 0, 0), (none, 0, 0)) (s1 := .slice none 0 0) (s2 := .slice none 0 0) rfl
                have HF := Lib.hid hF
                have KF := Lib.hid (show ∀ x, x ∈ zs.set k ((none, 0, 0), (none, 0, 0)) → KbE ((wr.setCell ⟨gl, k * 2, none⟩ (.slice none 0 0)).setCell ⟨gl, k * 2 + 1, none⟩ (.slice none 0 0)) gl lo hi x.1 ∧ KbE ((wr.setCell ⟨gl, k * 2, none⟩ (.slice none 0 0)).setCell ⟨gl, k * 2 + 1, none⟩ (.slice none 0 0)) gl lo hi x.2 from fun x hx => by
                  rcases List.mem_or_eq_of_mem_set hx with h | h
                  · exact ⟨((KB.out x h).1.setL).setL, ((KB.out x h).2.setL).setL⟩
                  · subst h; exact ⟨.inl ⟨rfl, rfl⟩, .inl ⟨rfl, rfl⟩⟩)
                have CF := Lib.hid ((C.out.trans (Turns.set (S := fun j => lo ≤ j ∧ j < hi) wr (b := gl) (i := k * 2) ⟨hl1, hl2⟩ (.slice none 0 0)) fun _ _ e => e).trans (Turns.set (S := fun j => lo ≤ j ∧ j < hi) _ (b := gl) (i := k * 2 + 1) ⟨hl1, hl2⟩ (.slice none 0 0)) fun _ _ e => e)
                clear hF hb hkx hky HX HY KB
                go_wp2_with fail
                go_roundw
                case rel => exact ⟨k + 1, _, by omega, by go_num, by rw [List.length_set]; exact HZL.out, HF.out, KF.out, CF.out⟩
                case measure => simp [intOf]; omega
      · go_wp2_with fail
        go_end0
        exact ⟨rfl, C.out⟩
end Go.Proofs.Ytljcogimeimknaa

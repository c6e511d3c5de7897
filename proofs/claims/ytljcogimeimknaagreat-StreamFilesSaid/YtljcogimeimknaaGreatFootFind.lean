/- In which block a key would be: contracts of Find, the program's and the reference's. Conditions: the slices within reach. -/
import Derived.Test.YtljcogimeimknaaGreatK8d
import Derived.Test.YtljcogimeimknaaGreatSearch
import Derived.Deep.QuietTactic
import Derived.BigQuiet
namespace Go.Proofs.YtljcogimeimknaaGreat
open Go.RowKit
attribute [local go_sem] run_store_fn

/-- the first row at a key or above -/
def fnd : List Row → List UInt8 → Nat
  | [], _ => 0
  | r :: rs, k => if 0 ≤ cmp r.1 k then 0 else fnd rs k + 1
theorem fnd_le : ∀ (rs : List Row) (k : List UInt8), fnd rs k ≤ rs.length
  | [], _ => Nat.le_refl _
  | r :: rs, k => by
    have := fnd_le rs k
    unfold fnd
    split
    · omega
    · simp only [List.length_cons]; omega
theorem fnd_here {r : Row} {rs : List Row} {k : List UInt8} (h : 0 ≤ cmp r.1 k) : fnd (r :: rs) k = 0 := by unfold fnd; rw [if_pos h]
theorem fnd_on {r : Row} {rs : List Row} {k : List UInt8} (h : ¬ 0 ≤ cmp r.1 k) : fnd (r :: rs) k = fnd rs k + 1 := by
  conv => lhs; unfold fnd
  rw [if_neg h]
/-- is a row's key at a key or above -/
def askR (rs : List Row) (k : List UInt8) (i : Nat) : Bool := match rs[i]? with
  | some r => decide (0 ≤ cmp r.1 k)
  | none => false
theorem askR_some {rs : List Row} {k : List UInt8} {i : Nat} {r : Row} (h : rs[i]? = some r) : askR rs k i = decide (0 ≤ cmp r.1 k) := by unfold askR; rw [h]

set_option maxHeartbeats 1000000 in
theorem find1_any (g2 g3 : Nat) (a : Option Addr) (n c : Nat) (rs : List Row) (ak : Option Addr) (nk ck : Nat) (k : List UInt8) (i : Nat) (w : World) (hn : n ≤ 140737488351232) (hi : i < n)
    (h2 : w.cell? ⟨g2, 0, none⟩ = some (.slice a n c)) (h3 : w.cell? ⟨g3, 0, none⟩ = some (.slice ak nk ck)) (h : Spans w a n c rs) (hk : Sl Bf w ak nk ck k) :
    Calls Tryz.prog 90 #[.int .i64 (i : Nat), .pointer (some ⟨g2, 0, none⟩), .pointer (some ⟨g3, 0, none⟩)] w fun e w' => e = .returned (.bool (askR rs k i)) ∧ Drw w w' := by
  obtain rfl : n = rs.length := h.1.symm
  obtain ⟨⟨kk, x, y, z⟩, hx⟩ : ∃ e, rs[i]? = some e := ⟨_, List.getElem?_eq_getElem hi⟩
  obtain ⟨b, o, al, nl, cl, rfl, c0, _, _, _, s0⟩ := h.2.2.2 i kk x y z hx
  rw [askR_some hx]
  obtain ⟨q, hq⟩ : ∃ q, cmp kk k = q := ⟨_, rfl⟩
  have hc := fun m : Nat => bcompare_any _ _ _ kk _ _ _ k (w.drewN m) (s0.drewN m) (hk.drewN m)
  rw [hq] at hc
  have hq2 : decide (0 ≤ cmp kk k) = decide (0 ≤ q) := by rw [hq]
  have hc' := fun m : Nat => (hc m).mono (fun _ _ (h : _ ∧ _) => (⟨h.1, Drw.of h.2.symm⟩ : _ ∧ Drw (w.drewN m) _))
  have HC := Lib.hid hc'
  rw [hq2]
  clear hc hc' hq hq2 hx h hk s0
  go_enter Tryz.func90, Tryz.ntmps90
  go_wp2_with fail
  go_quiet ((go_at_call 53; exact Calls.quiet_of_drw (HC.out _)))
  go_wp2_with fail
  go_ret
  exact ⟨rfl, ⟨_, rfl⟩⟩
set_option maxHeartbeats 1000000 in
theorem find_any (a : Option Addr) (n c : Nat) (rs : List Row) (ak : Option Addr) (nk ck : Nat) (k : List UInt8) (w : World) (hn : n ≤ 140737488351232) (h : Spans w a n c rs) (hk : Sl Bf w ak nk ck k) :
    Calls Tryz.prog 46 #[.slice a n c, .slice ak nk ck] w fun e w' => (∃ r : Nat, e = .returned (.int .i64 (r : Nat)) ∧ r ≤ n ∧ (0 < r → askR rs k (r - 1) = false) ∧ (r < n → askR rs k r = true)) ∧ Below w.heap.size w w' := by
  have S := Lib.hid ((((Stab.spans h).and (Stab.sl hk)).and (Stab.below (Below.refl w.heap.size w))).alloc (.cells #[.slice a n c] 33) |>.and (Stab.new w (.cells #[.slice a n c] 33)) |>.alloc (.cells #[.slice ak nk ck] 22) |>.and (Stab.new (w.alloc (.cells #[.slice a n c] 33)) (.cells #[.slice ak nk ck] 22)))
  clear h hk
  go_enter Tryz.func46, Tryz.ntmps46
  go_upto_region 1 with (fail)
  have e3 : (w.alloc (.cells #[.slice a n c] 33)).heap.size = w.heap.size + 1 := by simp
  rw [e3] at S
  generalize (w.alloc (.cells #[.slice a n c] 33)).alloc (.cells #[.slice ak nk ck] 22) = w1 at *
  clear e3
  obtain ⟨g2, hg2⟩ : ∃ g, w.heap.size = g := ⟨_, rfl⟩
  obtain ⟨g3, hg3⟩ : ∃ g, w.heap.size + 1 = g := ⟨_, rfl⟩
  have S2 : Hid (Stab w1 (fun W => ((Spans W a n c rs ∧ Sl Bf W ak nk ck k) ∧ W.heap[g2]? = some (.cells #[.slice a n c] 33 (0, 0))) ∧ W.heap[g3]? = some (.cells #[.slice ak nk ck] 22 (0, 0)))) := Lib.hid (S.out.imp fun W h => ⟨⟨h.1.1.1, hg2 ▸ h.1.2⟩, hg3 ▸ h.2⟩)
  have FB : Hid (Below w.heap.size w w1) := Lib.hid S.out.now.1.1.2
  rw [hg3, hg2]
  clear S hg2 hg3
  have c2 := cell_of S2.out.now.1.2 0 rfl
  have HS := Lib.hid (search_any 90 (.pointer (some ⟨g2, 0, none⟩)) (.pointer (some ⟨g3, 0, none⟩)) n (askR rs k) w1 (by omega) (fun args W => MuLone.run_callFunc_enter Tryz.func90 (by kernel_rfl) rfl args W)
    (fun i W hi hd => by
      obtain ⟨⟨⟨s1, s2⟩, s3⟩, s4⟩ := (S2.out.keep hd.below).now
      exact find1_any g2 g3 a n c rs ak nk ck k i W hn hi (cell_of s3 0 rfl) (cell_of s4 0 rfl) s1 s2))
  clear S2
  go_wp2_with fail
  refine HS.out.mono ?_
  rintro e w2 ⟨⟨r, rfl, h1, h2, h3⟩, hd⟩
  have HP := Lib.hid (show r ≤ n ∧ (0 < r → askR rs k (r - 1) = false) ∧ (r < n → askR rs k r = true) from ⟨h1, h2, h3⟩)
  have FB2 := Lib.hid (keep_trans FB.out hd.below)
  clear h1 h2 h3 hd c2
  go_wp2_with fail
  go_ret
  exact ⟨⟨r, rfl, HP.out⟩, FB2.out⟩
set_option maxHeartbeats 1000000 in
theorem frfind_any (a : Option Addr) (n c : Nat) (rs : List Row) (ak : Option Addr) (nk ck : Nat) (k : List UInt8) (w : World) (hn : n ≤ 140737488351232) (hf : FitR 140737488351232 rs) (hkl : nk ≤ 140737488351232) (h : Spans w a n c rs) (hk : Sl Bf w ak nk ck k) :
    Calls Tryz.prog 49 #[.slice a n c, .slice ak nk ck] w fun e w' => e = .returned (.int .i64 (fnd rs k : Nat)) ∧ Below w.heap.size w w' := by
  obtain rfl : n = rs.length := h.1.symm
  have S := Lib.hid (((Stab.spans h).and (Stab.sl hk)).and (Stab.below (Below.refl w.heap.size w)))
  have HF := Lib.hid hf
  clear h hk hf
  go_enter Tryz.func49, Tryz.ntmps49
  go_wp2_with fail
  go_loopw [5] (fun i wr => ∃ j : Nat, j ≤ rs.length ∧ i = .int .i64 j ∧ fnd rs k = j + fnd (rs.drop j) k ∧ Stab wr (fun W => (Spans W a rs.length c rs ∧ Sl Bf W ak nk ck k) ∧ Below w.heap.size w W)) (fun i _ => rs.length - (intOf i).toNat)
  case atStart => exact ⟨0, Nat.zero_le _, rfl, by simp, S.out⟩
  case round =>
    obtain ⟨j, hj, rfl, he, hs⟩ := hrel
    replace S := Lib.hid hs; clear hs
    by_cases hlt : j < rs.length
    · obtain ⟨⟨kk, x, y, z⟩, hx⟩ : ∃ e, rs[j]? = some e := ⟨_, List.getElem?_eq_getElem hlt⟩
      obtain ⟨fk, _, _, _⟩ := HF.out.at hx
      obtain ⟨b, o, al, nl, cl, rfl, c0, _, _, _, s0⟩ := S.out.now.1.1.2.2.2 j kk x y z hx
      obtain rfl : kk.length = nl := s0.len
      rw [rdrop_cons hx] at he
      have hc := rcompare_any al kk.length cl kk ak nk ck k wr (by omega) (by omega) s0 S.out.now.1.2
      obtain ⟨q, hq⟩ : ∃ q, cmp kk k = q := ⟨_, rfl⟩
      rw [hq] at hc
      have HC := Lib.hid hc
      by_cases hq0 : 0 ≤ q
      · rw [fnd_here (by rw [hq]; exact hq0), Nat.add_zero] at he
        have HE := Lib.hid he
        clear hc hx s0 hq he
        go_wp2_with fail
        refine HC.out.mono ?_
        rintro e w2 ⟨rfl, hb⟩
        have FB := Lib.hid (S.out.keep hb).now.2
        clear hb c0
        go_wp2_with fail
        go_ret
        exact ⟨ret_int (by rw [HE.out]), FB.out⟩
      · rw [fnd_on (by rw [hq]; exact hq0)] at he
        have HE := Lib.hid (show fnd rs k = (j + 1) + fnd (rs.drop (j + 1)) k by omega)
        clear hc hx s0 hq he
        go_wp2_with fail
        refine HC.out.mono ?_
        rintro e w2 ⟨rfl, hb⟩
        replace S := Lib.hid (S.out.keep hb)
        clear hb c0
        go_wp2_with fail
        go_roundw
        case rel => exact ⟨j + 1, by omega, by go_num, HE.out, S.out⟩
        case measure => simp [intOf]; omega
    · obtain rfl : j = rs.length := by omega
      have e : fnd rs k = rs.length := by rw [he, List.drop_length]; rfl
      have HE := Lib.hid e
      have FB := Lib.hid S.out.now.2
      clear he e
      go_wp2_with fail
      go_ret
      exact ⟨ret_int (by rw [HE.out]), FB.out⟩
/-- keys rise: the first at a key or above is where the questions part -/
theorem fck_rise : ∀ (rs : List Row) (i : Nat) (p : Int) (l : List UInt8), (fck i p l rs).2 = 0 → ∀ (j : Nat) (x y : Row), rs[j]? = some x → rs[j + 1]? = some y → cmp x.1 y.1 < 0
  | [], _, _, _, _, j, x, y, hx, _ => by simp at hx
  | [_], _, _, _, _, j, x, y, _, hy => by simp at hy
  | (k, x0, y0, z0) :: (k', x1, y1, z1) :: rs, i, p, l, h, j, x, y, hx, hy => by
    have go : ∀ {k x y z r i p l}, (fck i p l ((k, x, y, z) :: r)).2 = 0 → ¬ (0 < i ∧ 0 ≤ cmp l k) ∧ (fck (i + 1) (p + y) k r).2 = 0 := by
      intro k x y z r i p l h
      by_cases h0 : (k.length = 0 ∨ 64 < k.length) ∨ (0 < i ∧ 0 ≤ cmp l k)
      · rw [fck_key h0] at h; cases h
      by_cases h1 : x = p
      · by_cases h2 : y < 1 ∨ 131072 < y
        · rw [fck_len h0 h1 h2] at h; cases h
        by_cases h3 : z < 1 ∨ 64 < z
        · rw [fck_ent h0 h1 h2 h3] at h; cases h
        rw [fck_go h0 h1 h2 h3] at h
        exact ⟨fun e => h0 (.inr e), h⟩
      · rw [fck_at h0 h1] at h; cases h
    obtain ⟨_, h1⟩ := go h
    cases j with
    | zero =>
      obtain ⟨h2, _⟩ := go h1
      simp at hx hy
      subst hx hy
      show cmp k k' < 0
      omega
    | succ j => exact fck_rise ((k', x1, y1, z1) :: rs) (i + 1) (p + y0) k h1 j x y (by simpa using hx) (by simpa using hy)
theorem cmp_up {a b k : List UInt8} (h1 : cmp a b < 0) (h2 : 0 ≤ cmp a k) : 0 ≤ cmp b k := by
  rcases Int.lt_or_le (cmp b k) 0 with h | h
  · have := (cmp_trans a b k (by omega) (by omega))
    have h3 : cmp a k ≤ 0 := this.1
    have h4 : cmp a k = 0 := by omega
    have := this.2 h4
    omega
  · exact h
theorem ask_rise {rs : List Row} {k : List UInt8} (h : (fchk rs).2 = 0) : ∀ (d j : Nat), j + d < rs.length → askR rs k j = true → askR rs k (j + d) = true
  | 0, _, _, hq => hq
  | d + 1, j, hl, hq => by
    have hp := ask_rise h d j (by omega) hq
    obtain ⟨x, hx⟩ : ∃ e, rs[j + d]? = some e := ⟨_, List.getElem?_eq_getElem (by omega)⟩
    obtain ⟨y, hy⟩ : ∃ e, rs[j + d + 1]? = some e := ⟨_, List.getElem?_eq_getElem (by omega)⟩
    rw [askR_some hx, decide_eq_true_eq] at hp
    rw [show j + (d + 1) = j + d + 1 by omega, askR_some hy, decide_eq_true_eq]
    refine cmp_up ?_ hp
    unfold fchk at h
    split at h
    · cases h
    · exact fck_rise rs 0 8 [] h (j + d) x y hx hy
theorem fnd_at : ∀ (rs : List Row) (k : List UInt8) (r : Nat), r ≤ rs.length → (∀ j, j < r → askR rs k j = false) → (r < rs.length → askR rs k r = true) → fnd rs k = r
  | [], _, r, hr, _, _ => by simp at hr; subst hr; rfl
  | x :: rs, k, 0, _, _, h => by
    have := h (by simp)
    rw [askR_some (r := x) rfl, decide_eq_true_eq] at this
    exact fnd_here this
  | x :: rs, k, r + 1, hr, h0, h => by
    have h1 := h0 0 (by omega)
    rw [askR_some (r := x) rfl, decide_eq_false_iff_not] at h1
    rw [fnd_on h1]
    congr 1
    exact fnd_at rs k r (by simpa using hr) (fun j hj => by have := h0 (j + 1) (by omega); simpa [askR] using this) (fun hl => by have := h (by simpa using hl); simpa [askR] using this)
theorem fnd_of {rs : List Row} {k : List UInt8} {r : Nat} (h : (fchk rs).2 = 0) (hr : r ≤ rs.length) (h0 : 0 < r → askR rs k (r - 1) = false) (h1 : r < rs.length → askR rs k r = true) : fnd rs k = r := by
  refine fnd_at rs k r hr (fun j hj => ?_) h1
  rcases e : askR rs k j with _ | _
  · rfl
  · have := ask_rise h (r - 1 - j) j (by omega) e
    rw [show j + (r - 1 - j) = r - 1 by omega, h0 (by omega)] at this
    cases this
end Go.Proofs.YtljcogimeimknaaGreat

/- What pair.Read reads: contract. Conditions: the texts within reach. -/
import Derived.Test.YtljcogimeimknaaGreatF8q
import Derived.Test.YtljcogimeimknaaGreatK8b
namespace Go.Proofs.YtljcogimeimknaaGreat
open Go.RowKit
set_option linter.unusedVariables false

theorem run_cut3 (w : World) (aa : Option Addr) (n c : Nat) (k1 k2 : IntKind) (r q : Nat) (hr : r ≤ q) (hq : q ≤ c) :
    (Instr.slice 22 (.slice aa n c) none (some (.int k1 r)) (some (.int k2 q))).run Tryz.prog w = .ok (.slice aa r q) w := by
  obtain ⟨ht, hi, hz⟩ := eltB
  obtain ⟨i, hi1, hi2, hi3, hi4⟩ := info_parts hi
  cases aa <;> simp [Instr.slice, run_underlying ht, Instr.sliceBounds, Instr.sliceBound, asIntOf, sizeOf, typeInfo, hi1, hr, hq, Addr.add]
theorem Sl.tight {α : Type} {f : α → Value} {w : World} {a : Option Addr} {n c : Nat} {xs : List α} (h : Sl f w a n c xs) : Sl f w a n n xs :=
  ⟨h.1, Nat.le_refl _, fun e => by have := h.2.2.1 e; have := h.2.1; omega, h.2.2.2⟩
theorem rows2_2 (w : World) (a1 : Option Addr) (n1 c1 : Nat) (xs1 : List UInt8) (a2 : Option Addr) (n2 c2 : Nat) (xs2 : List UInt8) (h1 : Sl Bf w a1 n1 c1 xs1) (h2 : Sl Bf w a2 n2 c2 xs2) :
    Rows2 (w.alloc (.cells #[.slice a1 n1 c1, .slice a2 n2 c2] 22)) (some ⟨w.heap.size, 0, none⟩) 2 2 [xs1, xs2] := by
  have hb : Below w.heap.size w (w.alloc (.cells #[.slice a1 n1 c1, .slice a2 n2 c2] 22)) := (Below.refl _ _).alloc (Nat.le_refl _) _
  have hh : (w.alloc (.cells #[.slice a1 n1 c1, .slice a2 n2 c2] 22)).heap[w.heap.size]? = some (.cells #[.slice a1 n1 c1, .slice a2 n2 c2] 22 (0, 0)) := heap_new w _
  refine ⟨rfl, Nat.le_refl _, fun i xs hi => ?_⟩
  have hl : i < 2 := (List.getElem?_eq_some_iff.1 hi).1
  rcases (by omega : i = 0 ∨ i = 1) with e | e <;> subst e <;> (simp at hi; subst hi)
  · exact ⟨_, _, _, _, _, rfl, by simp only [World.cell?, hh]; rfl, h1.keep hb⟩
  · exact ⟨_, _, _, _, _, rfl, by simp only [World.cell?, hh]; rfl, h2.keep hb⟩
/-- three numbers in a block -/
def A3 (w : World) (g : Nat) (x y z : Nat) : Prop := w.heap[g]? = some (.cells #[.int .u64 x, .int .u64 y, .int .u64 z] 215 (0, 0))
theorem A3.lt {w : World} {g x y z : Nat} (h : A3 w g x y z) : g < w.heap.size := (Array.getElem?_eq_some_iff.1 h).1
theorem A3.keep {w w' : World} {g x y z : Nat} (h : A3 w g x y z) (hb : Below w.heap.size w w') : A3 w' g x y z := (hb.block g h.lt).trans h
theorem A3.c0 {w : World} {g x y z : Nat} (h : A3 w g x y z) : w.cell? ⟨g, 0, none⟩ = some (.int .u64 x) := by unfold A3 at h; simp [World.cell?, h]
theorem A3.c1 {w : World} {g x y z : Nat} (h : A3 w g x y z) : w.cell? ⟨g, 1, none⟩ = some (.int .u64 y) := by unfold A3 at h; simp [World.cell?, h]
theorem A3.c2 {w : World} {g x y z : Nat} (h : A3 w g x y z) : w.cell? ⟨g, 2, none⟩ = some (.int .u64 z) := by unfold A3 at h; simp [World.cell?, h]
theorem A3.free {w : World} {g x y z : Nat} (h : A3 w g x y z) (i : Nat) : w.frozen? ⟨g, i, none⟩ = false := by unfold A3 at h; simp [World.frozen?, h]
theorem A3.any {w : World} {g x y z : Nat} (h : A3 w g x y z) (i : Nat) (hi : i < 3) : ∃ v, w.cell? ⟨g, i, none⟩ = some v := by
  rcases (by omega : i = 0 ∨ i = 1 ∨ i = 2) with e | e | e <;> subst e
  · exact ⟨_, h.c0⟩
  · exact ⟨_, h.c1⟩
  · exact ⟨_, h.c2⟩
theorem A3.set {w : World} {g : Nat} {l : List Nat} (h : A3 w g (l.getD 0 0) (l.getD 1 0) (l.getD 2 0)) (hl : l.length < 3) (v : Nat) :
    A3 (w.setCell ⟨g, l.length, none⟩ (.int .u64 v)) g ((l ++ [v]).getD 0 0) ((l ++ [v]).getD 1 0) ((l ++ [v]).getD 2 0) := by
  unfold A3 at h ⊢
  simp only [World.setCell, Array.getElem?_modify, if_true]
  rw [h]
  match l, hl with
  | [], _ => rfl
  | [a], _ => rfl
  | [a, b], _ => rfl

set_option maxHeartbeats 1000000 in
set_option maxRecDepth 100000 in
theorem epread_bad (ap : Option Addr) (np cp : Nat) (ab : Option Addr) (nb cb : Nat) (x : Int) (w : World) (hn : nb ≤ 140737499999999) (hx : x < 0 ∨ (nb : Int) < x) :
    Calls Tryz.prog 135 #[.slice ap np cp, .slice ab nb cb, .int .i64 x] w fun e w' => RdPost w [] [] 0 1 e w' := by
  by_cases h0 : x < 0
  · go_enter Tryz.func135, Tryz.ntmps135
    go_wp2_with fail
    exact bodyPost_ret (v := .tuple #[.agg #[.slice none 0 0, .slice none 0 0], .int .i64 0, .int .i64 1]) (by simp [results, Tryz.results135, go_sem]) rfl (RdPost.no (((Below.refl _ _).alloc (Nat.le_refl _) _).alloc (by simp) _))
  · have h1 : (nb : Int) < x := by omega
    go_enter Tryz.func135, Tryz.ntmps135
    go_wp2_with fail
    exact bodyPost_ret (v := .tuple #[.agg #[.slice none 0 0, .slice none 0 0], .int .i64 0, .int .i64 1]) (by simp [results, Tryz.results135, go_sem]) rfl (RdPost.no (((Below.refl _ _).alloc (Nat.le_refl _) _).alloc (by simp) _))

set_option maxHeartbeats 4000000 in
set_option maxRecDepth 100000 in
theorem epread_any (ap : Option Addr) (np cp : Nat) (p : List UInt8) (ab : Option Addr) (nb cb : Nat) (b : List UInt8) (a : Nat) (w : World) (hp : np ≤ 140737488351232) (hb : nb ≤ 140737499999999) (ha : a ≤ nb) (h0 : Sl Bf w ap np cp p) (h1 : Sl Bf w ab nb cb b) :
    Calls Tryz.prog 135 #[.slice ap np cp, .slice ab nb cb, .int .i64 a] w fun e w' => RdPost w (pread p b a).1.1 (pread p b a).1.2 (pread p b a).2.1 (pread p b a).2.2 e w' := by
  obtain rfl : np = p.length := h0.len.symm
  obtain rfl : nb = b.length := h1.len.symm
  have P := Lib.hid h0; clear h0
  have S := Lib.hid h1; clear h1
  obtain ⟨⟨⟨rk, rv⟩, rq, re⟩, hR⟩ : ∃ R, pread p b a = R := ⟨_, rfl⟩
  rw [hR]
  dsimp only
  obtain ⟨⟨xl, xq, xe⟩, hX⟩ : ∃ R, pr3 b 3 [] a = R := ⟨_, rfl⟩
  have HX := Lib.hid hX; clear hX
  have HR := Lib.hid hR; clear hR
  have fa : ¬ ((a : Int) < 0) := by omega
  have fb : ¬ ((b.length : Int) < (a : Int)) := by omega
  go_enter Tryz.func135, Tryz.ntmps135
  go_upto_region 5 with (fail)
  obtain ⟨w3, hw3⟩ : ∃ w3, ((w.alloc (.cells #[.slice none 0 0, .slice none 0 0] 51)).alloc (.cells #[.slice none 0 0, .slice none 0 0] 51)).alloc (.cells #[.int .u64 0, .int .u64 0, .int .u64 0] 215) = w3 := ⟨_, rfl⟩
  have hb3 : Below w.heap.size w w3 := hw3 ▸ (((Below.refl _ _).alloc (Nat.le_refl _) _).alloc (by simp) _).alloc (by simp; omega) _
  have h6 : Eb w3 w.heap.size (.slice none 0 0) (.slice none 0 0) := by
    subst hw3
    exact (((Below.refl (w.heap.size + 1) _).alloc (by simp) _).alloc (by simp) _).block w.heap.size (by omega) |>.trans (heap_new w _)
  have h9 : Eb w3 (w.heap.size + 1) (.slice none 0 0) (.slice none 0 0) := by
    subst hw3
    have := heap_new (w.alloc (.cells #[.slice none 0 0, .slice none 0 0] 51)) (.cells #[.slice none 0 0, .slice none 0 0] 51)
    rw [World.size_alloc] at this
    exact ((Below.refl (w.heap.size + 2) _).alloc (by simp) _).block (w.heap.size + 1) (by omega) |>.trans this
  have h10 : A3 w3 (w.heap.size + 1 + 1) 0 0 0 := by
    subst hw3
    have := heap_new ((w.alloc (.cells #[.slice none 0 0, .slice none 0 0] 51)).alloc (.cells #[.slice none 0 0, .slice none 0 0] 51)) (.cells #[.int .u64 0, .int .u64 0, .int .u64 0] 215)
    rw [World.size_alloc, World.size_alloc] at this
    exact this
  rw [hw3]
  clear hw3
  obtain ⟨g6, hg6⟩ : ∃ g, w.heap.size = g := ⟨_, rfl⟩
  obtain ⟨g9, hg9⟩ : ∃ g, w.heap.size + 1 = g := ⟨_, rfl⟩
  obtain ⟨ga, hga⟩ : ∃ g, w.heap.size + 1 + 1 = g := ⟨_, rfl⟩
  rw [hga] at h10
  rw [hg9] at h9
  rw [hga, hg9]
  rw [hg6] at h6 ⊢
  have q1 : w.heap.size ≤ g6 := by omega
  have q2 : g6 < g9 := by omega
  have q3 : g9 < ga := by omega
  clear hg6 hg9 hga
  have E6 := Lib.hid h6; clear h6
  have E9 := Lib.hid h9; clear h9
  have AA := Lib.hid h10; clear h10
  have B := Lib.hid hb3; clear hb3
  go_wp2_with fail
  go_loopw [11, 30] (fun q i wr => ∃ (k pl : Nat) (l : List Nat), k ≤ 3 ∧ i = .int .i64 k ∧ q = .int .i64 pl ∧ pl ≤ b.length ∧ l.length = k ∧ A3 wr ga (l.getD 0 0) (l.getD 1 0) (l.getD 2 0) ∧ Eb wr g6 (.slice none 0 0) (.slice none 0 0) ∧ Eb wr g9 (.slice none 0 0) (.slice none 0 0) ∧
    pr3 b (3 - k) l pl = (xl, xq, xe) ∧ (∀ v, v ∈ l → v < 18446744073709551616) ∧ Below w.heap.size w wr) (fun _ i _ => 3 - (intOf i).toNat)
  case atStart => exact ⟨0, a, [], by omega, rfl, rfl, ha, rfl, AA.out, E6.out, E9.out, HX.out, by simp, B.out⟩
  case round =>
    obtain ⟨k, pl, l, hk, rfl, rfl, hpl, hlk, hA, h6, h9, hpr, hlt, hbb⟩ := hrel
    clear E6 E9 AA B
    have E6 := Lib.hid h6; clear h6
    have E9 := Lib.hid h9; clear h9
    have AA := Lib.hid hA; clear hA
    have B := Lib.hid hbb; clear hbb
    have HPR := Lib.hid hpr; clear hpr
    have HLT := Lib.hid hlt; clear hlt
    have HLK := Lib.hid hlk; clear hlk
    by_cases h3 : (k : Int) < 3
    · obtain ⟨⟨v, j, e⟩, hr⟩ : ∃ R, rd (b.drop pl) 0 0 = R := ⟨_, rfl⟩
      have hv := vread_any _ _ _ b pl wr (by omega) hpl (S.out.keep B.out)
      rw [hr] at hv
      dsimp only at hv
      have HV := Lib.hid hv; clear hv
      have hpr := HPR.out
      rw [show 3 - k = (2 - k) + 1 by omega] at hpr
      have hsz := B.out.size
      by_cases he : e = 0
      · subst he
        rw [pr3_go hr] at hpr
        obtain ⟨hj, hv64⟩ := rd_in hr
        rw [List.length_drop] at hj
        have HPR2 := Lib.hid hpr; clear hpr hr
        go_wp2_with fail
        refine HV.out.mono ?_
        rintro e w4 ⟨rfl, hb4⟩
        replace E6 := Lib.hid (E6.out.keep hb4)
        replace E9 := Lib.hid (E9.out.keep hb4)
        replace AA := Lib.hid (AA.out.keep hb4)
        replace B := Lib.hid (keep_trans B.out hb4); clear hb4
        obtain ⟨v0, hcv⟩ := AA.out.any k (by omega)
        have hcf := AA.out.free k
        go_wp2_with fail
        have A2 := AA.out.set (l := l) (by rw [HLK.out]; omega) v
        rw [HLK.out] at A2
        have A2' := Lib.hid A2; clear A2
        have E6' := Lib.hid (E6.out.off (by omega : g6 ≠ ga) k (.int .u64 v))
        have E9' := Lib.hid (E9.out.off (by omega : g9 ≠ ga) k (.int .u64 v))
        have B' := Lib.hid (B.out.setCell (p := ⟨ga, k, none⟩) (by show w.heap.size ≤ ga; omega) (.int .u64 v))
        go_roundw
        case rel => exact ⟨k + 1, pl + j, l ++ [v], by omega, by go_num, rfl, by omega, by rw [List.length_append, HLK.out]; rfl, A2'.out, E6'.out, E9'.out, (by rw [show 3 - (k + 1) = 2 - k by omega]; exact HPR2.out), (fun z hz => by
          rcases List.mem_append.1 hz with h | h
          · exact HLT.out z h
          · simp at h; omega), B'.out⟩
        case measure => simp [intOf]; omega
      · rw [pr3_no hr he] at hpr
        obtain ⟨rfl, rfl, rfl⟩ : [] = xl ∧ pl + j = xq ∧ e = xe := by simpa using hpr
        have f1 : (e != 0) = true := by rw [bne_iff_ne]; exact he
        have hpe : pread p b a = (([], []), pl + j, e) := pread_no HX.out he
        rw [hpe] at HR
        obtain ⟨⟨rfl, rfl⟩, rfl, rfl⟩ : ([] = rk ∧ [] = rv) ∧ pl + j = rq ∧ e = re := by simpa using HR.out
        clear hpr hr he hpe HR HX
        go_wp2_with fail
        refine HV.out.mono ?_
        rintro e' w4 ⟨rfl, hb4⟩
        replace E6 := Lib.hid (E6.out.keep hb4)
        replace E9 := Lib.hid (E9.out.keep hb4)
        replace B := Lib.hid (keep_trans B.out hb4); clear hb4
        have c60 := E6.out.c0
        have c61 := E6.out.c1
        have c90 := E9.out.c0
        have c91 := E9.out.c1
        have c6f := E6.out.free
        go_wp2_with fail
        have D := E6.out.none2
        have d0 := D.c0
        have d1 := D.c1
        exact bodyPost_ret (v := .tuple #[.agg #[.slice none 0 0, .slice none 0 0], .int .i64 (((pl + j : Nat) : Int)), .int .i64 (e)]) (by simp [results, Tryz.results135, d0, d1, go_sem]) rfl (RdPost.no ((B.out.setCell (p := ⟨g6, 0, none⟩) q1 _).setCell (p := ⟨g6, 1, none⟩) q1 _))
    · obtain rfl : k = 3 := by omega
      obtain ⟨s, m, n, rfl⟩ : ∃ s m n, l = [s, m, n] := by
        match l, HLK.out with
        | [s, m, n], _ => exact ⟨s, m, n, rfl⟩
      have hpr := HPR.out
      obtain ⟨rfl, rfl, rfl⟩ : [s, m, n] = xl ∧ pl = xq ∧ 0 = xe := by simpa [pr3] using hpr
      have hpe := HR.out
      rw [pread_ok HX.out] at hpe
      have A0 := Lib.hid (show A3 wr ga s m n from AA.out); clear AA
      have hs64 : s < 18446744073709551616 := HLT.out s (by simp)
      have hm64 : m < 18446744073709551616 := HLT.out m (by simp)
      have hn64 : n < 18446744073709551616 := HLT.out n (by simp)
      clear hpr HPR HLT HLK HX HR
      have a0 := A0.out.c0
      have a1 := A0.out.c1
      have a2 := A0.out.c2
      have c60 := E6.out.c0
      have c61 := E6.out.c1
      have c90 := E9.out.c0
      have c91 := E9.out.c1
      have c6f := E6.out.free
      have up : IntKind.u64.wrap (p.length : Int) = p.length := by rw [IntKind.wrap_u64]; omega
      by_cases k1 : p.length < s
      · rw [pend_s k1] at hpe
        obtain ⟨⟨rfl, rfl⟩, rfl, rfl⟩ : ([] = rk ∧ [] = rv) ∧ a = rq ∧ 52 = re := by simpa using hpe
        clear hpe 
        go_wp2_with fail
        have D := E6.out.none2
        have d0 := D.c0
        have d1 := D.c1
        exact bodyPost_ret (v := .tuple #[.agg #[.slice none 0 0, .slice none 0 0], .int .i64 (((a : Nat) : Int)), .int .i64 (52)]) (by simp [results, Tryz.results135, d0, d1, go_sem]) rfl (RdPost.no ((B.out.setCell (p := ⟨g6, 0, none⟩) q1 _).setCell (p := ⟨g6, 1, none⟩) q1 _))
      · have ps : s ≤ p.length := by omega
        have K1 := Lib.hid k1
        by_cases m1 : (64 : Int) < (m : Int)
        · rw [pend_long k1 (.inl (by omega))] at hpe
          obtain ⟨⟨rfl, rfl⟩, rfl, rfl⟩ : ([] = rk ∧ [] = rv) ∧ a = rq ∧ 3 = re := by simpa using hpe
          clear hpe k1
          go_wp2_with fail
          have D := E6.out.none2
          have d0 := D.c0
          have d1 := D.c1
          exact bodyPost_ret (v := .tuple #[.agg #[.slice none 0 0, .slice none 0 0], .int .i64 (((a : Nat) : Int)), .int .i64 (3)]) (by simp [results, Tryz.results135, d0, d1, go_sem]) rfl (RdPost.no ((B.out.setCell (p := ⟨g6, 0, none⟩) q1 _).setCell (p := ⟨g6, 1, none⟩) q1 _))
        · by_cases m2 : (256 : Int) < (n : Int)
          · rw [pend_long k1 (.inr (.inl (by omega)))] at hpe
            obtain ⟨⟨rfl, rfl⟩, rfl, rfl⟩ : ([] = rk ∧ [] = rv) ∧ a = rq ∧ 3 = re := by simpa using hpe
            clear hpe k1
            go_wp2_with fail
            have D := E6.out.none2
            have d0 := D.c0
            have d1 := D.c1
            exact bodyPost_ret (v := .tuple #[.agg #[.slice none 0 0, .slice none 0 0], .int .i64 (((a : Nat) : Int)), .int .i64 (3)]) (by simp [results, Tryz.results135, d0, d1, go_sem]) rfl (RdPost.no ((B.out.setCell (p := ⟨g6, 0, none⟩) q1 _).setCell (p := ⟨g6, 1, none⟩) q1 _))
          · have mm : m ≤ 64 := by omega
            have nn : n ≤ 256 := by omega
            by_cases m3 : s + m = 0
            · rw [pend_long k1 (.inr (.inr (.inl m3)))] at hpe
              obtain rfl : s = 0 := by omega
              obtain rfl : m = 0 := by omega
              obtain ⟨⟨rfl, rfl⟩, rfl, rfl⟩ : ([] = rk ∧ [] = rv) ∧ a = rq ∧ 3 = re := by simpa using hpe
              clear hpe k1 m3 mm nn
              go_wp2_with fail
              have D := E6.out.none2
              have d0 := D.c0
              have d1 := D.c1
              exact bodyPost_ret (v := .tuple #[.agg #[.slice none 0 0, .slice none 0 0], .int .i64 (((a : Nat) : Int)), .int .i64 (3)]) (by simp [results, Tryz.results135, d0, d1, go_sem]) rfl (RdPost.no ((B.out.setCell (p := ⟨g6, 0, none⟩) q1 _).setCell (p := ⟨g6, 1, none⟩) q1 _))
            · have m3a : ((s : Int) + (m : Int) == 0) = false := by rw [beq_eq_false_iff_ne]; omega
              have m3b : (s + m == 0) = false := by rw [beq_eq_false_iff_ne]; exact m3
              by_cases m4 : (64 : Int) < (s : Int) + (m : Int)
              · rw [pend_long k1 (.inr (.inr (.inr (by omega))))] at hpe
                obtain ⟨⟨rfl, rfl⟩, rfl, rfl⟩ : ([] = rk ∧ [] = rv) ∧ a = rq ∧ 3 = re := by simpa using hpe
                clear hpe k1 m3
                go_wp2_with fail
                have D := E6.out.none2
                have d0 := D.c0
                have d1 := D.c1
                exact bodyPost_ret (v := .tuple #[.agg #[.slice none 0 0, .slice none 0 0], .int .i64 (((a : Nat) : Int)), .int .i64 (3)]) (by simp [results, Tryz.results135, d0, d1, go_sem]) rfl (RdPost.no ((B.out.setCell (p := ⟨g6, 0, none⟩) q1 _).setCell (p := ⟨g6, 1, none⟩) q1 _))
              · have hlong : ¬ (64 < m ∨ 256 < n ∨ s + m = 0 ∨ 64 < s + m) := by omega
                have HLong := Lib.hid hlong; clear hlong
                have up2 : IntKind.u64.wrap ((b.length : Int) - (pl : Int)) = (b.length : Int) - pl := by rw [IntKind.wrap_u64]; omega
                by_cases k3 : (b.length : Int) - (pl : Int) < (m : Int) + (n : Int)
                · rw [pend_short k1 HLong.out (by omega)] at hpe
                  obtain ⟨⟨rfl, rfl⟩, rfl, rfl⟩ : ([] = rk ∧ [] = rv) ∧ b.length = rq ∧ 53 = re := by simpa using hpe
                  clear hpe k1 m3
                  go_wp2_with fail
                  have D := E6.out.none2
                  have d0 := D.c0
                  have d1 := D.c1
                  exact bodyPost_ret (v := .tuple #[.agg #[.slice none 0 0, .slice none 0 0], .int .i64 (((b.length : Nat) : Int)), .int .i64 (53)]) (by simp [results, Tryz.results135, d0, d1, go_sem]) rfl (RdPost.no ((B.out.setCell (p := ⟨g6, 0, none⟩) q1 _).setCell (p := ⟨g6, 1, none⟩) q1 _))
                · have k3n : ¬ b.length - pl < m + n := by omega
                  have K3 := Lib.hid k3n; clear k3n
                  have mb : pl + m + n ≤ b.length := by omega
                  have ips : IntKind.i64.wrap (s : Int) = s := by rw [IntKind.wrap_i64]; omega
                  obtain ⟨key, hkey⟩ : ∃ key, p.take s ++ (b.drop pl).take m = key := ⟨_, rfl⟩
                  have hkl : key.length = s + m := by rw [← hkey]; simp; omega
                  have HKey := Lib.hid hkey; clear hkey
                  clear k1 m3
                  have hcb := S.out.le
                  have hcp := P.out.le
                  have cut1 := fun W : World => run_cutfrom eltB W ab b.length cb .i64 pl hpl
                  have cut2 := fun W : World => run_cut3 W (adv ab cb pl) (b.length - pl) (cb - pl) .u64 .u64 m m (Nat.le_refl _) (by omega)
                  have cut3 := fun W : World => run_cutto eltB W ap p.length cp .i64 s (by omega)
                  go_upto_region 21 with (fail)
                  go_quiet (fail)
                  generalize hwq : wr.drewN _ = wq
                  have E6' := Lib.hid (show Eb wq g6 (.slice none 0 0) (.slice none 0 0) by rw [← hwq]; exact E6.out)
                  have E9' := Lib.hid (show Eb wq g9 (.slice none 0 0) (.slice none 0 0) by rw [← hwq]; exact E9.out)
                  have A0' := Lib.hid (show A3 wq ga s m n by rw [← hwq]; exact A0.out)
                  have B' := Lib.hid (show Below w.heap.size w wq by rw [← hwq]; exact keep_drewN B.out _)
                  clear hwq E6 E9 A0 B c60 c61 c90 c91 c6f a0 a1 a2
                  have c90 := E9'.out.c0
                  have c91 := E9'.out.c1
                  have SP := Lib.hid ((P.out.keep B'.out).upto s (by omega))
                  have SB := Lib.hid (((S.out.keep B'.out).from pl hpl).upto m (by omega)).tight
                  have hr2 := rows2_2 wq _ _ _ _ _ _ _ _ SP.out SB.out
                  have hb6 : Below wq.heap.size wq (wq.alloc (.cells #[.slice ap s cp, .slice (adv ab cb pl) m m] 22)) := (Below.refl _ _).alloc (Nat.le_refl _) _
                  have hkf : [p.take s, (b.drop pl).take m].flatten = key := by rw [← HKey.out]; simp
                  have R2 := Lib.hid hr2
                  have KF := Lib.hid hkf
                  have B6 := Lib.hid hb6
                  clear hr2 hkf hb6 SP SB
                  go_wp2_with fail
                  refine (concat_any _ 2 2 [p.take s, (b.drop pl).take m] _ (by omega) (by rw [KF.out]; omega) R2.out).mono ?_
                  rintro e w5 ⟨x5, rfl, ho, hb5⟩
                  rw [KF.out] at ho
                  have hg6q := E6'.out.lt
                  have hbq : Below wq.heap.size wq w5 := B6.out.trans (hb5.mono B6.out.size)
                  replace E6' := Lib.hid (E6'.out.keep hbq)
                  replace E9' := Lib.hid (E9'.out.keep hbq)
                  replace A0' := Lib.hid (A0'.out.keep hbq)
                  have lq := B'.out.size
                  replace B' := Lib.hid (keep_trans B'.out hbq)
                  obtain ⟨ak, nk, ck, rfl, zk⟩ := ho.slN
                  have lk := zk.len
                  have g6q : g6 < wq.heap.size := by
                    have := E6'.out.lt; have := hg6q; omega
                  obtain ⟨kb, hkb⟩ : ∃ kb, (wq.alloc (.cells #[.slice ap s cp, .slice (adv ab cb pl) m m] 22)).heap.size = kb := ⟨_, rfl⟩
                  rw [hkb] at ho
                  have kb1 : g6 < kb := by have := B6.out.size; omega
                  have kb2 : w.heap.size ≤ kb := by have := B6.out.size; omega
                  have kb3 : kb ≤ w5.heap.size := by have := hb5.size; omega
                  have K := Lib.hid ho
                  clear ho hb5 hbq zk B6 R2 KF c90 c91 hkb g6q
                  rw [hkl] at lk
                  have hcom := common_any _ _ _ p _ _ _ key w5 (by omega) (by omega) (P.out.keep B'.out) K.out.slI
                  obtain ⟨cc, hcc⟩ : ∃ cc, com p key = cc := ⟨_, rfl⟩
                  rw [hcc] at hcom
                  have HCom := Lib.hid hcom; clear hcom
                  go_wp2_with fail
                  refine HCom.out.mono ?_
                  rintro e w6 ⟨rfl, hb6⟩
                  replace E6' := Lib.hid (E6'.out.keep hb6)
                  replace E9' := Lib.hid (E9'.out.keep hb6)
                  replace A0' := Lib.hid (A0'.out.keep hb6)
                  replace B' := Lib.hid (keep_trans B'.out hb6)
                  replace K := Lib.hid (K.out.keep hb6)
                  replace kb3 : kb ≤ w6.heap.size := Nat.le_trans kb3 hb6.size
                  clear hb6 HCom
                  have E6 := E6'; have B := B'
                  have c90 := E9'.out.c0
                  have c91 := E9'.out.c1
                  have c60 := E6.out.c0
                  have c61 := E6.out.c1
                  have c6f := E6.out.free
                  have hpe2 := hpe
                  by_cases k4 : cc = s
                  · subst k4
                    have f4 : ((cc : Int) != (cc : Int)) = false := by simp
                    have hk4 : com p (p.take cc ++ (b.drop pl).take m) = cc := by rw [HKey.out]; exact hcc
                    have HK4 := Lib.hid hk4
                    clear hk4 hcc hpe2 f4
                    have a2 := A0'.out.c2
                    have S4 := Lib.hid (((S.out.keep B.out).cut (pl + m) (pl + m + n) (by omega) mb))
                    obtain ⟨cm, hcm⟩ : ∃ cm, cmp p key = cm := ⟨_, rfl⟩
                    have hcmp := bcompare_any _ _ _ p _ _ _ key w6 (P.out.keep B.out) K.out.slI
                    rw [hcm] at hcmp
                    have HCmp := Lib.hid hcmp; clear hcmp
                    have HCM := Lib.hid hcm; clear hcm
                    have E5 : (pl + m + n) - (pl + m) = n := by omega
                    have cut4 := fun W : World => run_cut eltB W ab b.length cb .i64 .i64 (pl + m) (pl + m + n) (by omega) (by omega)
                    rw [E5] at S4 cut4
                    push_cast at cut4
                    have EQ := Lib.hid (show (b.take (pl + m + n)).drop (pl + m) = (b.drop (pl + m)).take n by rw [List.drop_take, E5])
                    rw [EQ.out] at S4
                    clear E5
                    have inn : IntKind.i64.wrap (n : Int) = n := by rw [IntKind.wrap_i64]; omega
                    have K2 := Lib.hid (K.out.lt)
                    by_cases k5 : 0 < p.length
                    · by_cases k6 : 0 ≤ cm
                      · rw [pend_cmp K1.out HLong.out K3.out HK4.out ⟨k5, by rw [HKey.out, HCM.out]; exact k6⟩] at hpe
                        obtain ⟨⟨rfl, rfl⟩, rfl, rfl⟩ : ([] = rk ∧ [] = rv) ∧ a = rq ∧ 51 = re := by simpa using hpe
                        clear hpe 
                        go_wp2_with fail
                        refine HCmp.out.mono ?_
                        rintro e w' ⟨rfl, rfl⟩
                        go_wp2_with fail
                        have D := E6.out.none2
                        have d0 := D.c0
                        have d1 := D.c1
                        exact bodyPost_ret (v := .tuple #[.agg #[.slice none 0 0, .slice none 0 0], .int .i64 (((a : Nat) : Int)), .int .i64 (51)]) (by simp [results, Tryz.results135, d0, d1, go_sem]) rfl (RdPost.no ((B.out.setCell (p := ⟨g6, 0, none⟩) q1 _).setCell (p := ⟨g6, 1, none⟩) q1 _))
                      · skip
                        rw [pend_ok K1.out HLong.out K3.out HK4.out (fun h => k6 (by have := h.2; rw [HKey.out, HCM.out] at this; exact this))] at hpe
                        rw [HKey.out] at hpe
                        obtain ⟨⟨rfl, hrv⟩, rfl, rfl⟩ : (key = rk ∧ (b.drop (pl + m)).take n = rv) ∧ pl + m + n = rq ∧ 0 = re := by simpa using hpe
                        have HRV := Lib.hid hrv; clear hrv hpe
                        go_wp2_with fail
                        refine HCmp.out.mono ?_
                        rintro e w' ⟨rfl, rfl⟩
                        go_wp2_with fail
                        refine (clone_any _ n _ ((b.drop (pl + m)).take n) _ (by omega) S4.out).mono ?_
                        rintro e w7 ⟨x7, rfl, ho, hb7⟩
                        replace E6' := Lib.hid (E6'.out.keep hb7)
                        replace B := Lib.hid (keep_trans B.out hb7)
                        replace K := Lib.hid (K.out.keep hb7)
                        have kl := K.out.lt
                        obtain ⟨a7, n7, c7, rfl, z7⟩ := ho.slN
                        have V := Lib.hid ho
                        have s7 := hb7.size
                        clear ho hb7 z7 c60 c61 c90 c91 c6f E6
                        have c60 := E6'.out.c0
                        have c61 := E6'.out.c1
                        have c6f := E6'.out.free
                        have KL := Lib.hid kl; clear kl
                        go_wp2_with fail
                        have D := (E6'.out.set0 (.slice ak nk ck)).set1 (.slice a7 n7 c7)
                        have d0 := D.c0
                        have d1 := D.c1
                        have kk := (K.out.offB kb1 0 (.slice ak nk ck)).offB kb1 1 (.slice a7 n7 c7)
                        have vv := (V.out.offB (show g6 < w6.heap.size by omega) 0 (.slice ak nk ck)).offB (show g6 < w6.heap.size by omega) 1 (.slice a7 n7 c7)
                        rw [HRV.out] at vv
                        have bb := (B.out.setCell (p := ⟨g6, 0, none⟩) q1 (.slice ak nk ck)).setCell (p := ⟨g6, 1, none⟩) q1 (.slice a7 n7 c7)
                        exact bodyPost_ret (v := .tuple #[.agg #[.slice ak nk ck, .slice a7 n7 c7], .int .i64 ((pl + m + n : Nat) : Int), .int .i64 0]) (by simp [results, Tryz.results135, d0, d1, go_sem]) rfl
                          ⟨_, _, w6.heap.size, rfl, kk.base kb2, vv, fun j hj => (K2.out j hj).2, by omega, bb⟩
                    · obtain ⟨k5b, k5c⟩ : ¬ (p.length : Int) > 0 ∧ decide (0 < p.length) = false := ⟨by omega, decide_eq_false k5⟩
                      rw [pend_ok K1.out HLong.out K3.out HK4.out (fun h => k5 h.1)] at hpe
                      rw [HKey.out] at hpe
                      obtain ⟨⟨rfl, hrv⟩, rfl, rfl⟩ : (key = rk ∧ (b.drop (pl + m)).take n = rv) ∧ pl + m + n = rq ∧ 0 = re := by simpa using hpe
                      have HRV := Lib.hid hrv; clear hrv hpe
                      go_wp2_with fail
                      refine (clone_any _ n _ ((b.drop (pl + m)).take n) _ (by omega) S4.out).mono ?_
                      rintro e w7 ⟨x7, rfl, ho, hb7⟩
                      replace E6' := Lib.hid (E6'.out.keep hb7)
                      replace B := Lib.hid (keep_trans B.out hb7)
                      replace K := Lib.hid (K.out.keep hb7)
                      have kl := K.out.lt
                      obtain ⟨a7, n7, c7, rfl, z7⟩ := ho.slN
                      have V := Lib.hid ho
                      have s7 := hb7.size
                      clear ho hb7 z7 c60 c61 c90 c91 c6f E6
                      have c60 := E6'.out.c0
                      have c61 := E6'.out.c1
                      have c6f := E6'.out.free
                      have KL := Lib.hid kl; clear kl
                      go_wp2_with fail
                      have D := (E6'.out.set0 (.slice ak nk ck)).set1 (.slice a7 n7 c7)
                      have d0 := D.c0
                      have d1 := D.c1
                      have kk := (K.out.offB kb1 0 (.slice ak nk ck)).offB kb1 1 (.slice a7 n7 c7)
                      have vv := (V.out.offB (show g6 < w6.heap.size by omega) 0 (.slice ak nk ck)).offB (show g6 < w6.heap.size by omega) 1 (.slice a7 n7 c7)
                      rw [HRV.out] at vv
                      have bb := (B.out.setCell (p := ⟨g6, 0, none⟩) q1 (.slice ak nk ck)).setCell (p := ⟨g6, 1, none⟩) q1 (.slice a7 n7 c7)
                      exact bodyPost_ret (v := .tuple #[.agg #[.slice ak nk ck, .slice a7 n7 c7], .int .i64 ((pl + m + n : Nat) : Int), .int .i64 0]) (by simp [results, Tryz.results135, d0, d1, go_sem]) rfl
                        ⟨_, _, w6.heap.size, rfl, kk.base kb2, vv, fun j hj => (K2.out j hj).2, by omega, bb⟩
                  · have f4 : ((cc : Int) != (s : Int)) = true := by rw [bne_iff_ne]; omega
                    have f4b : (cc != s) = true := by rw [bne_iff_ne]; omega
                    rw [pend_com K1.out HLong.out K3.out (by rw [HKey.out, hcc]; exact k4)] at hpe
                    clear hpe2 hcc
                    obtain ⟨⟨rfl, rfl⟩, rfl, rfl⟩ : ([] = rk ∧ [] = rv) ∧ a = rq ∧ 52 = re := by simpa using hpe
                    clear hpe k4
                    go_wp2_with fail
                    have D := E6.out.none2
                    have d0 := D.c0
                    have d1 := D.c1
                    exact bodyPost_ret (v := .tuple #[.agg #[.slice none 0 0, .slice none 0 0], .int .i64 (((a : Nat) : Int)), .int .i64 (52)]) (by simp [results, Tryz.results135, d0, d1, go_sem]) rfl (RdPost.no ((B.out.setCell (p := ⟨g6, 0, none⟩) q1 _).setCell (p := ⟨g6, 1, none⟩) q1 _))
end Go.Proofs.YtljcogimeimknaaGreat

/- Going through a range of a file: (*File).Range's iterator: what it hands back. Conditions: the file's bytes within reach. -/
import Derived.Test.YtljcogimeimknaaGreatFileGet
import Derived.Test.YtljcogimeimknaaGreatGiven
import Derived.RangeFuncBox
import Derived.WalkMore
import Derived.Deep.Cut
import Derived.Deep.RegionHeld3
import Derived.OwnWalkIn
import Derived.TacticsInMore
import Derived.LoopNIn
import Derived.LoopIn
import Derived.Sort.LoopGhostIn
namespace Go.Proofs.YtljcogimeimknaaGreat
open Go.RowKit Go.Shelf
open Lib (hid)
attribute [local go_sem] Oper.semAt_some
set_option linter.unusedVariables false
set_option linter.unusedSimpArgs false

/-! ### a range, entry by entry -/
def rrst (b lo hi : List UInt8) (T : List Row) (l : List Ent) : List Ent := (rngL lo hi l).1 ++ if (rngL lo hi l).2 = true then rngR b lo hi T else []
section
variable {b lo hi : List UInt8} {T : List Row} {x : Row} {e : Ent} {t : List Ent}
theorem rrst_nil : rrst b lo hi T [] = rngR b lo hi T := by unfold rrst rngL; rfl
theorem rrst_stop (h : 0 < hi.length ∧ 0 ≤ cmp e.1 hi) : rrst b lo hi T (e :: t) = [] := by unfold rrst rngL; rw [if_pos h]; rfl
theorem rrst_low (h : ¬ (0 < hi.length ∧ 0 ≤ cmp e.1 hi)) (h2 : cmp e.1 lo < 0) : rrst b lo hi T (e :: t) = rrst b lo hi T t := by
  conv => lhs; unfold rrst rngL
  rw [if_neg h, if_pos h2]; rfl
theorem rrst_take (h : ¬ (0 < hi.length ∧ 0 ≤ cmp e.1 hi)) (h2 : ¬ cmp e.1 lo < 0) : rrst b lo hi T (e :: t) = e :: rrst b lo hi T t := by
  conv => lhs; unfold rrst rngL
  rw [if_neg h, if_neg h2]; rfl
theorem rngR_no (h : (fblk b x).2.2 ≠ 0) : rngR b lo hi (x :: T) = [] := by unfold rngR; rw [if_pos h]
theorem rngR_go (h : (fblk b x).2.2 = 0) : rngR b lo hi (x :: T) = rrst b lo hi T (fblk b x).2.1 := by
  conv => lhs; unfold rngR
  rw [if_neg (fun e => e h)]
  unfold rrst
  split
  · rfl
  · rw [List.append_nil]
theorem rngL_len : ∀ l : List Ent, (rngL lo hi l).1.length ≤ l.length
  | [] => Nat.le_refl _
  | e :: t => by
    have := rngL_len t
    unfold rngL
    split
    · exact Nat.zero_le _
    split
    · simp only [List.length_cons]; omega
    · simp only [List.length_cons]; omega
theorem rngR_len (hb : b.length < 18446744073709551616) : ∀ T : List Row, (rngR b lo hi T).length ≤ 64 * T.length
  | [] => Nat.le_refl _
  | x :: T => by
    have h1 := rngR_len hb T
    have h2 := rngL_len (lo := lo) (hi := hi) (fblk b x).2.1
    unfold rngR
    split
    · exact Nat.zero_le _
    rename_i h0
    have h3 : (fblk b x).2.1.length ≤ 64 := by
      obtain ⟨⟨B, l, er⟩, hX⟩ : ∃ X, fblk b x = X := ⟨_, rfl⟩
      rw [hX] at h0 ⊢
      obtain rfl : er = 0 := Classical.byContradiction fun q => h0 q
      obtain ⟨⟨q, hq⟩, hBl⟩ := fblk_good hX
      exact (bread_fine (by omega) hq).2.1
    split
    · rw [List.length_append, List.length_cons]; omega
    · rw [List.length_cons]; omega
end
theorem frng_len {b lo hi : List UInt8} {rs : List Row} (hb : b.length < 18446744073709551616) (hm : rs.length ≤ 8388608) : (frng b rs lo hi).length ≤ 536870912 := by
  have := rngR_len (lo := lo) (hi := hi) hb (rs.drop (fnd rs lo))
  rw [List.length_drop] at this
  unfold frng; omega
/-- rows from one on -/
theorem run_cutRf (a : Option Addr) (n c r : Nat) (hr : r ≤ n) (hn : n ≤ c) (hs : ∀ p, a = some p → p.spot = none) :
    ∃ ar, (∀ w : World, (Instr.slice 33 (.slice a n c) (some (.int .i64 (r : Nat))) none none).run Tryz.prog w = .ok (.slice ar (n - r) (c - r)) w) ∧ ∀ b o, a = some ⟨b, o, none⟩ → r < n → ar = some ⟨b, o + r * 4, none⟩ := by
  obtain ⟨ht, ⟨i, z, hi1, hi2, hi3, hi4, x0, hz⟩, hf, hk, h1⟩ := eltTR
  cases a with
  | none =>
    refine ⟨none, fun w => ?_, fun b o e => by cases e⟩
    simp [Instr.slice, run_underlying ht, Instr.sliceBounds, Instr.sliceBound, asIntOf, sizeOf, typeInfo, hi1, hi3, hr, Addr.add]
  | some p =>
    refine ⟨if c = r then some p else some (p.add (r * 4)), fun w => ?_, fun b o e hrn => ?_⟩
    · simp [Instr.slice, run_underlying ht, Instr.sliceBounds, Instr.sliceBound, asIntOf, sizeOf, typeInfo, hi1, hi3, hr, Addr.add]
    · cases e
      rw [if_neg (by omega)]
      unfold Addr.add
      split <;> simp_all

/-! ### what the iterator hands back -/
structure FlR (w0 : World) (X : List Ent) (pre : List (Sv × Sv)) (who : Nat → Nat) (W : World) : Prop where
  b : Below w0.heap.size w0 W
  o1 : ∀ j, j < w0.heap.size → who j = 1
  lt : ∀ j, who j ≠ 0 → j < W.heap.size
  le : pre.length ≤ X.length
  gv : GvP W w0.heap.size pre (X.take pre.length) who
def FlE (w0 : World) (X : List Ent) (pre : List (Sv × Sv)) (who : Nat → Nat) (W : World) : Prop := FlR w0 X pre who W ∧ pre.length = X.length
section
variable {w0 A B W : World} {X : List Ent} {pre : List (Sv × Sv)} {who : Nat → Nat}
theorem FlR.turn (h : FlR w0 X pre who A) (ht : Turns (fun j => who j = 0) A B) : FlR w0 X pre who B :=
  ⟨ht.below h.b h.b.size fun j hj => Classical.byContradiction fun e => by have h1 := h.o1 j (by omega); have h2 : who j = 0 := hj; omega, h.o1, fun j hj => Nat.lt_of_lt_of_le (h.lt j hj) ht.size, h.le, h.gv.turn ht (fun j hj => by have hj : who j = 0 := hj; rw [hj]; decide) (fun _ e => e)⟩
theorem FlR.keep (h : FlR w0 X pre who A) (hb : Below A.heap.size A B) : FlR w0 X pre who B := h.turn ((Turns.of_below (S := fun _ => False) hb).mono fun _ _ e => e.elim)
/-- new blocks are given -/
theorem FlR.own6 (h : FlR w0 X pre who A) {P : Nat → Prop} (hb : Below A.heap.size A B) (hP : ∀ j, P j → A.heap.size ≤ j ∧ j < B.heap.size) : FlR w0 X pre (who6 who P) B := by
  have hs := h.b.size
  refine ⟨keep_trans h.b hb, fun j hj => by rw [who6_no fun hp => by have := hP j hp; omega]; exact h.o1 j hj, fun j hj => ?_, h.le, h.gv.turn (Turns.of_below (S := fun _ => False) hb) (fun _ e => e.elim) (fun _ e => who6_six e)⟩
  rcases who6_ne hj with hp | hp
  · exact (hP j hp).2
  · exact Nat.lt_of_lt_of_le (h.lt j hp) hb.size
theorem FlR.app (h : FlR w0 X pre who A) {x : Sv × Sv} {e : Ent} (he : X[pre.length]? = some e) (hx : OwT fB A w0.heap.size 5 (sv x.1) e.1 ∧ OwT fB A w0.heap.size 5 (sv x.2) e.2 ∧ ∀ j, (sv x.1).ownBlock = some j ∨ (sv x.2).ownBlock = some j → who j = 6) : FlR w0 X (pre ++ [x]) who A := by
  have hl := (List.getElem?_eq_some_iff.1 he).1
  refine ⟨h.b, h.o1, h.lt, by rw [List.length_append]; exact hl, ?_⟩
  rw [List.length_append, List.length_singleton, List.take_add_one, he]
  exact h.gv.snoc hx
end

set_option maxRecDepth 100000 in
set_option maxHeartbeats 16000000 in
theorem frange1_in (l : Nat) {w0 : World} {lo hi g : Nat} {b : List UInt8} {rs : List Row} {a : Option Addr} {c : Nat} {a2 : Option Addr} {c2 : Nat} {vs : List RV} (hF : FlO w0 lo hi g b rs a c a2 c2 vs) (hR : FRows b.length rs) (hb : b.length ≤ 140737488351232)
    (Gf Gl Gh : Nat) (al : Option Addr) (nl cl : Nat) (kl : List UInt8) (ah : Option Addr) (nh ch : Nat) (kh : List UInt8) (bf : Boxed w0 Gf 29 (.pointer (some ⟨g, 0, none⟩))) (bl : Boxed w0 Gl 22 (.slice al nl cl)) (bh : Boxed w0 Gh 22 (.slice ah nh ch))
    (sl : Sl Bf w0 al nl cl kl) (sh : Sl Bf w0 ah nh ch kh) (who0 : Nat → Nat) (J Jx : List (Sv × Sv) → (Nat → Nat) → World → Prop)
    (hJ : ∀ pre who who' A B, J pre who A → Gr A B who who' → J pre who' B)
    (hY : ∀ pre x who W, J pre who W → FlR w0 (frng b rs kl kh) (pre ++ [x]) who W → YieldAt Fence.wide 2 Tryz.prog l #[sv x.1, sv x.2] W fun e W' =>
      (e = .returned (.bool true) ∧ J (pre ++ [x]) who W' ∧ Turns (fun j => who j = 0) W W') ∨ (e = .returned (.bool false) ∧ Jx (pre ++ [x]) who W' ∧ Turns (fun j => who j = 0) W W'))
    (W : World) (hW : FlR w0 (frng b rs kl kh) [] who0 W) (h0 : J [] who0 W) :
    CallsIn Fence.wide 3 Tryz.prog 52 #[.func (.yield l) #[] #[], .pointer (some ⟨Gf, 0, none⟩), .pointer (some ⟨Gl, 0, none⟩), .pointer (some ⟨Gh, 0, none⟩)] W fun e W' => (∃ v, e = .returned v) ∧
      ((∃ xs who, FlE w0 (frng b rs kl kh) xs who W' ∧ J xs who W') ∨ (∃ pre who, FlR w0 (frng b rs kl kh) pre who W' ∧ Jx pre who W')) := by
  have HY := hid hY; clear hY
  have HJ := hid hJ; clear hJ
  have HJ0 := hid h0; clear h0
  have HW0 := hid hW
  have HR := hid hR
  obtain ⟨X, hX⟩ : ∃ X, frng b rs kl kh = X := ⟨_, rfl⟩
  rw [hX] at HY HW0 ⊢
  have KF := hid (show ∀ V, Below w0.heap.size w0 V → FlO V lo hi g b rs a c a2 c2 vs ∧ V.cell? ⟨Gf, 0, none⟩ = some (.pointer (some ⟨g, 0, none⟩)) ∧ V.cell? ⟨Gl, 0, none⟩ = some (.slice al nl cl) ∧ V.cell? ⟨Gh, 0, none⟩ = some (.slice ah nh ch) ∧ Sl Bf V al nl cl kl ∧ Sl Bf V ah nh ch kh from
    fun V hb => ⟨hF.keep hb hF.top, Boxed.cell ((hb.block _ bf.lt).trans bf), Boxed.cell ((hb.block _ bl.lt).trans bl), Boxed.cell ((hb.block _ bh.lt).trans bh), sl.keep hb, sh.keep hb⟩)
  obtain ⟨n, hn⟩ : ∃ n, rs.length = n := ⟨_, rfl⟩
  have hm : n ≤ 8388608 := by rw [← hn]; exact hR.many
  obtain ⟨r, hr⟩ : ∃ r, fnd rs kl = r := ⟨_, rfl⟩
  have hrn : r ≤ n := by rw [← hr, ← hn]; exact fnd_le rs kl
  have hnc : n ≤ c2 := by rw [← hn]; exact hF.spans.2.1
  obtain ⟨ar, hcut, har⟩ := run_cutRf a2 n c2 r hrn hnc (fun p hp => by
    rcases hF.row.t with ⟨e, -⟩ | ⟨g1, cap, ys, e, -⟩
    · injection e with e1; rw [e1] at hp; cases hp
    · injection e with e1; rw [e1] at hp; cases hp; rfl)
  have HAR := hid har
  have HX := hid (show rngR b kl kh (rs.drop r) = X by rw [← hX, ← hr]; rfl)
  have HN := hid hn
  have HRR := hid hr
  obtain ⟨K0, K1, K2, K3, K4, K5⟩ := KF.out W hW.b
  have k1 := K0.blk
  rw [hn] at k1
  have k2 := cell_of k1 1 rfl
  have ss := K0.spans
  rw [hn] at ss
  have hgs : W.heap.size ≤ W.heap.size := Nat.le_refl _
  have FND := hid (fun (m : Nat) => find_any a2 n c2 rs al nl cl kl (W.drewN m) (by omega) (ss.keep (keep_drewN (Below.refl _ _) m)) (K4.keep (keep_drewN (Below.refl _ _) m)))
  clear hF hR bf bl bh sl sh hX hn hr har hnc K0 K4 K5 ss k1 hW
  refine callsIn_of_wp Tryz.func52 rfl trivial ?_ rfl
  simp only [Tryz.ntmps52, List.size_toArray, List.length_cons, List.length_nil, Nat.reduceAdd, Nat.reduceSub, Array.replicate_succ, Array.replicate_zero, List.push_toArray, List.append_toArray, List.nil_append, List.cons_append]
  refine wpIn_wide.2 ?_
  go_step3
  go_upto_region 0 with (fail)
  go_step3
  go_upto_region 0 with (fail)
  go_cut [22, 23, 24] (fun v22 v23 v24 wx => (v22 = .slice ar (n - r) (c2 - r) ∧ v23 = .int .i64 ((n - r : Nat) : Int) ∧ v24 = .int .i64 0) ∧ Below W.heap.size W wx)
  case first =>
    have FN1 := hid ((FND.out 1).mono (fun e w' h => (by
      obtain ⟨⟨r', rfl, h1, h2, h3⟩, hb⟩ := h
      have : fnd rs kl = r' := fnd_of HR.out.chk (by rw [HN.out]; exact h1) h2 (by rw [HN.out]; exact h3)
      rw [HRR.out] at this
      subst this
      exact ⟨rfl, hb⟩ : e = .returned (.int .i64 (r : Nat)) ∧ Below (W.drewN 1).heap.size (W.drewN 1) w')))
    have KB := hid (fun (V : World) (hb : Below W.heap.size W V) => (show V.cell? ⟨Gf, 0, none⟩ = some (.pointer (some ⟨g, 0, none⟩)) ∧ V.cell? ⟨g, 1, none⟩ = some (.slice a2 n c2) ∧ V.cell? ⟨Gl, 0, none⟩ = some (.slice al nl cl) from
      ⟨(World.cell?_of_block (hb.block _ (cell_lt K1))).trans K1, (World.cell?_of_block (hb.block _ (cell_lt k2))).trans k2, (World.cell?_of_block (hb.block _ (cell_lt K2))).trans K2⟩))
    have HD : Hid (Below W.heap.size W W.drew) := hid ((Below.refl _ _).drew)
    obtain ⟨q1, q2, q3⟩ := KB.out _ HD.out
    go_region_held3 (fun w' => w'.cell? ⟨Gf, 0, none⟩ = some (.pointer (some ⟨g, 0, none⟩)) ∧ w'.cell? ⟨g, 1, none⟩ = some (.slice a2 n c2) ∧ w'.cell? ⟨Gl, 0, none⟩ = some (.slice al nl cl)) (first | go_keep | assumption | exact ⟨by assumption, by assumption, by assumption⟩) ((go_at_call 46; refine FN1.out.mono ?_; rintro e w3 ⟨rfl, hb3⟩; have H3 := hid (keep_trans HD.out hb3); obtain ⟨d1, d2, d3⟩ := KB.out _ H3.out; clear hb3))
    all_goals
      go_wp2_with fail
      go_meet
      exact ⟨⟨rfl, rfl, rfl⟩, H3.out⟩
  case rest =>
    obtain ⟨⟨rfl, rfl, rfl⟩, hb⟩ := hcut
    obtain ⟨w1, rfl⟩ : ∃ w5, w5 = wc := ⟨_, rfl⟩
    have B1 := hid hb
    have R1 := hid (HW0.out.keep hb)
    have J1 := hid (HJ.out _ _ _ _ _ HJ0.out (Gr.below hb))
    obtain ⟨N, hNr⟩ : ∃ N, n - r = N := ⟨_, rfl⟩
    rw [hNr]
    have HNR := hid (show r + N = n by omega)
    have hNb : N ≤ 8388608 := by omega
    clear hb K1 K2 K3 k2 FND hcut HW0 HJ0 hNr
    go_wp2_with fail
    refine (wpIn_wide (n := 3)).1 ?_
    gi_loopg [24] (N + 1) (fun f v24 wr => ∃ (i : Nat) (pre : List (Sv × Sv)) (who : Nat → Nat), v24 = .int .i64 (i : Nat) ∧ f + i = N + 1 ∧ i ≤ N ∧ FlR w0 X pre who wr ∧ J pre who wr ∧ X.drop pre.length = rngR b kl kh (rs.drop (r + i)))
    case atStart => exact ⟨0, [], who0, rfl, rfl, Nat.zero_le _, R1.out, J1.out, by rw [Nat.add_zero]; exact HX.out.symm⟩
    case round =>
      obtain ⟨fo, rfl⟩ : ∃ z, z = gk := ⟨_, rfl⟩
      obtain ⟨wro, rfl⟩ : ∃ z, z = wr := ⟨_, rfl⟩
      obtain ⟨i, pre, who, rfl, hf, hiN, hfl, hj, hd⟩ := hrel
      have FL := hid hfl
      have JJ := hid hj
      have HDR := hid hd
      have BW := hid hfl.b
      have HFU := hid hf
      clear hfl hj hd R1 J1 B1 hf
      by_cases hi : i < N
      case neg =>
        have t1 : decide ((i : Int) < (N : Int)) = false := decide_eq_false (by omega)
        have t1' : decide (i < N) = false := decide_eq_false hi
        have EE : Hid (FlE w0 X pre who wro) := hid ⟨FL.out, by
          have h1 := HDR.out
          rw [List.drop_of_length_le (show rs.length ≤ r + i by have := HNR.out; have := HN.out; omega)] at h1
          have h2 := congrArg List.length h1
          rw [List.length_drop] at h2
          have h3 := FL.out.le
          have h4 : (rngR b kl kh []).length = 0 := rfl
          omega⟩
        clear hi
        gi_wp2
        rw [Exit.noGoto_normal]
        go_end0
        exact ⟨⟨_, rfl⟩, .inl ⟨pre, who, EE.out, JJ.out⟩⟩
      obtain ⟨x, hx⟩ : ∃ x, rs[r + i]? = some x := ⟨_, List.getElem?_eq_getElem (by have := HNR.out; have := HN.out; omega)⟩
      obtain ⟨K0, K1, K2, K3, K4, K5⟩ := KF.out wro BW.out
      obtain ⟨bb, oo, ax, nx, cx, ha, c0, c1, c2', c3, sx⟩ := K0.spans.rowF hx
      have har2 := HAR.out bb oo ha (by have := HNR.out; omega)
      obtain ⟨o2, ho2⟩ : ∃ o2, oo + r * 4 = o2 := ⟨_, rfl⟩
      have q4 : ∀ t, oo + (r + i) * 4 + t = o2 + i * 4 + t := fun t => by omega
      have q40 : oo + (r + i) * 4 = o2 + i * 4 := by omega
      rw [q40] at c0 c1 c2' c3
      rw [ho2] at har2
      have t1 : decide ((i : Int) < (N : Int)) = true := decide_eq_true (by omega)
      have t1' : decide (i < N) = true := decide_eq_true hi
      obtain ⟨w4, hw4⟩ : ∃ V, wro.alloc (.cells #[.slice ax nx cx, .int .i64 x.2.1, .int .i64 x.2.2.1, .int .i64 x.2.2.2] 94) = V := ⟨_, rfl⟩
      have b4 : Below wro.heap.size wro w4 := hw4 ▸ (Below.refl _ _).alloc (Nat.le_refl _) _
      have g4 : w4.heap[wro.heap.size]? = some (.cells #[.slice ax nx cx, .int .i64 x.2.1, .int .i64 x.2.2.1, .int .i64 x.2.2.2] 94 (0, 0)) := hw4 ▸ heap_new wro _
      have B4 := hid (keep_trans BW.out b4)
      obtain ⟨L0, L1, L2, L3, L4, L5⟩ := KF.out w4 B4.out
      have BLK := hid (sblock_any L0 hb x (HR.out.row x (List.mem_of_getElem? hx)) ax nx cx (sx.keep b4))
      have FL4 := hid (FL.out.keep b4)
      have JJ4 := hid (HJ.out _ _ _ _ _ JJ.out (Gr.below b4))
      have HX2 := hid hx
      subst har2
      have e0 := cell_of g4 0 (v := .slice ax nx cx) rfl
      have e1 := cell_of g4 1 (v := .int .i64 x.2.1) rfl
      have e2 := cell_of g4 2 (v := .int .i64 x.2.2.1) rfl
      have e3 := cell_of g4 3 (v := .int .i64 x.2.2.2) rfl
      rw [← hw4] at e0 e1 e2 e3 L1
      have HW4 := hid hw4
      clear K0 K1 K2 K3 K4 K5 L0 L2 L3 L4 L5 q4 q40 ho2 hw4 b4 g4 ha sx hx FL JJ
      gi_wp2
      refine ⟨trivial, ?_⟩
      rw [HW4.out]
      refine (callsIn_wide.2 BLK.out).mono ?_
      rintro e w5 ⟨hb5, v, y, vl, rfl, -, hl⟩
      obtain ⟨⟨Bk, L, er⟩, hXX⟩ : ∃ Z, fblk b x = Z := ⟨_, rfl⟩
      rw [hXX] at hl ⊢
      dsimp only at hl ⊢
      have hds : rs.drop (r + i) = x :: rs.drop (r + i + 1) := rdrop_cons HX2.out
      obtain ⟨T, hT⟩ : ∃ T, rs.drop (r + i + 1) = T := ⟨_, rfl⟩
      rw [hT] at hds
      have HT := hid hT
      have BW5 := hid (keep_trans B4.out hb5)
      clear e0 e1 e2 e3 L1 HW4 c0 c1 c2' c3 hT
      by_cases he : er = 0
      case neg =>
        have t2 : (er != 0) = true := by rw [bne_iff_ne]; exact he
        have EE : Hid (FlE w0 X pre who w5) := hid ⟨FL4.out.keep hb5, by
          have h1 := HDR.out
          rw [hds, rngR_no (by rw [hXX]; exact he)] at h1
          have h2 := congrArg List.length h1
          rw [List.length_drop] at h2
          have h3 := FL4.out.le
          have h4 : ([] : List Ent).length = 0 := rfl
          omega⟩
        have J5 := hid (HJ.out _ _ _ _ _ JJ4.out (Gr.below hb5))
        clear he hb5 hl hds
        gi_wp2
        rw [Exit.noGoto_normal]
        go_end0
        exact ⟨⟨_, rfl⟩, .inl ⟨pre, who, EE.out, J5.out⟩⟩
      subst he
      have t2 : ((0 : Int) != 0) = false := by decide
      obtain ⟨⟨qb, hqb⟩, hBl⟩ := fblk_good hXX
      have hL64 : L.length ≤ 64 := (bread_fine (by omega) hqb).2.1
      have HDL := hid (show X.drop pre.length = rrst b kl kh T L by rw [HDR.out, hds, rngR_go (by rw [hXX]), hXX])
      obtain ⟨who1, hwho1⟩ : ∃ f, who6 who (RLB y vl) = f := ⟨_, rfl⟩
      have hin := hl.inB
      have FL5 := hid (show FlR w0 X pre who1 w5 from hwho1 ▸ FL4.out.own6 hb5 hin)
      have JJ5 := hid (show J pre who1 w5 from hwho1 ▸ HJ.out _ _ _ _ _ JJ4.out ((Gr.below hb5).own6 fun j hj => (hin j hj).1))
      have H65 := hid (show ∀ j, RLB y vl j → who1 j = 6 from fun j hj => hwho1 ▸ who6_in hj)
      have LO := hid (show w0.heap.size ≤ w4.heap.size from B4.out.size)
      have RL5 := hid hl
      obtain ⟨ay, cy, rfl, hEN0⟩ := hl.ents
      obtain ⟨M, hM⟩ : ∃ M, L.length = M := ⟨_, rfl⟩
      rw [hM] at hL64
      have HM := hid hM
      clear hin hl hqb hBl hwho1 hds hXX hb5 FL4 JJ4 HDR BLK hEN0
      rw [HM.out] at RL5 H65 ⊢
      clear hM
      gi_wp2
      gi_loopg [39] (M + 1) (fun f2 v39 wr2 => ∃ (k : Nat) (pre2 : List (Sv × Sv)) (who2 : Nat → Nat), v39 = .int .i64 (k : Nat) ∧ f2 + k = M + 1 ∧ k ≤ M ∧ FlR w0 X pre2 who2 wr2 ∧ J pre2 who2 wr2 ∧ X.drop pre2.length = rrst b kl kh T (L.drop k) ∧ RdL wr2 w4.heap.size (.slice ay M cy) vl L ∧ ∀ j, RLB (.slice ay M cy) vl j → who2 j = 6)
      case atStart => exact ⟨0, pre, who1, rfl, rfl, Nat.zero_le _, FL5.out, JJ5.out, HDL.out, RL5.out, H65.out⟩
      case round =>
        obtain ⟨f2, rfl⟩ : ∃ z, z = gk := ⟨_, rfl⟩
        obtain ⟨wr2, rfl⟩ : ∃ z, z = wr := ⟨_, rfl⟩
        obtain ⟨k, pre2, who2, rfl, hf2, hkM, hfl2, hj2, hd2, hrl2, h62⟩ := hrel
        have FL2 := hid hfl2
        have JJ2 := hid hj2
        have HD2 := hid hd2
        have RL2 := hid hrl2
        have H6 := hid h62
        have HF2 := hid hf2
        have BW2 := hid hfl2.b
        clear hfl2 hj2 hd2 hrl2 h62 hf2 FL5 JJ5 HDL RL5 H65
        by_cases hk : k < M
        case neg =>
          have t3 : decide ((k : Int) < (M : Int)) = false := decide_eq_false (by omega)
          have t3' : decide (k < M) = false := decide_eq_false hk
          have NX := hid (show X.drop pre2.length = rngR b kl kh (rs.drop (r + (i + 1))) by rw [HD2.out, List.drop_of_length_le (by rw [HM.out]; omega), rrst_nil, ← Nat.add_assoc, HT.out])
          clear hk
          gi_wp2
          gi_roundg (fo - 1)
          case rel => exact ⟨i + 1, pre2, who2, by go_num, by have := HFU.out; omega, by omega, FL2.out, JJ2.out, NX.out⟩
          case measure => have := HFU.out; omega
        obtain ⟨⟨ek, ev⟩, hek⟩ : ∃ e, L[k]? = some e := ⟨_, List.getElem?_eq_getElem (by rw [HM.out]; exact hk)⟩
        obtain ⟨ay', cy', hye, hEN⟩ := RL2.out.ents
        injection hye with hye1 hye2 hye3
        subst hye1 hye3
        have hv2 : vl.length = L.length := RL2.out.len
        obtain ⟨⟨⟨a1, n1, k1⟩, ⟨a3, n3, k3⟩⟩, hvk⟩ : ∃ z, vl[k]? = some z := ⟨_, List.getElem?_eq_getElem (by rw [hv2, HM.out]; exact hk)⟩
        obtain ⟨ox1, ox2⟩ := RL2.out.txt k _ _ hvk hek
        obtain ⟨bL, oL, ha1, hcells⟩ : ∃ bL oL, ay = some ⟨bL, oL, none⟩ ∧ wr2.cell? ⟨bL, oL + k * 2, none⟩ = some (.slice a1 n1 k1) ∧ wr2.cell? ⟨bL, oL + k * 2 + 1, none⟩ = some (.slice a3 n3 k3) := by
          obtain ⟨a', c', hv', hs'⟩ := RL2.out.own.t.sl fE_len
          injection hv' with e1 e2 e3
          subst e1
          obtain ⟨b', o', h1, h2⟩ := hs'.2.2.2 k _ hvk
          exact ⟨b', o', h1, by have q := h2 0 _ rfl; rw [Nat.add_zero] at q; exact q, h2 1 _ rfl⟩
        obtain ⟨d0, d1⟩ := hcells
        subst ha1
        have t3 : decide ((k : Int) < (M : Int)) = true := decide_eq_true (by omega)
        have t3' : decide (k < M) = true := decide_eq_true hk
        have hdk : L.drop k = (ek, ev) :: L.drop (k + 1) := edrop_cons hek
        obtain ⟨w7, hw7⟩ : ∃ V, wr2.alloc (.cells #[.slice a1 n1 k1, .slice a3 n3 k3] 51) = V := ⟨_, rfl⟩
        have b7 : Below wr2.heap.size wr2 w7 := hw7 ▸ (Below.refl _ _).alloc (Nat.le_refl _) _
        have g7 : w7.heap[wr2.heap.size]? = some (.cells #[.slice a1 n1 k1, .slice a3 n3 k3] 51 (0, 0)) := hw7 ▸ heap_new wr2 _
        have B7 := hid (keep_trans BW2.out b7)
        have FLY := hid (FL2.out.keep b7)
        have JJY := hid (HJ.out _ _ _ _ _ JJ2.out (Gr.below b7))
        have RLY := hid (RL2.out.keep b7)
        have l1 := ox1.lt
        have l2 := ox2.lt
        have ETX := hid (show OwT fB w7 w0.heap.size 5 (sv (a1, n1, k1)) ek ∧ OwT fB w7 w0.heap.size 5 (sv (a3, n3, k3)) ev ∧ ∀ j, (sv (a1, n1, k1)).ownBlock = some j ∨ (sv (a3, n3, k3)).ownBlock = some j → who2 j = 6 from
          ⟨(ox1.base LO.out).keep b7, (ox2.base LO.out).keep b7, fun j hj => H6.out j (.inr ⟨k, _, hvk, hj⟩)⟩)
        obtain ⟨L0, L1, L2, L3, L4, L5⟩ := KF.out w7 B7.out
        obtain ⟨ql, hql⟩ : ∃ q, cmp ek kl = q := ⟨_, rfl⟩
        obtain ⟨qh, hqh⟩ : ∃ q, cmp ek kh = q := ⟨_, rfl⟩
        have sk : Sl Bf w7 a1 n1 k1 ek := ETX.out.1.slI
        have CL := hid (hql ▸ bcompare_any a1 n1 k1 ek al nl cl kl w7 sk L4)
        have CH := hid (hqh ▸ bcompare_any a1 n1 k1 ek ah nh ch kh w7 sk L5)
        have hkn : kh.length = nh := L5.len
        have e0 := cell_of g7 0 (v := .slice a1 n1 k1) rfl
        have e1 := cell_of g7 1 (v := .slice a3 n3 k3) rfl
        have HQL := hid hql
        have HQH := hid hqh
        have HKN := hid hkn
        have HW7 := hid hw7
        clear L0 L1 L4 L5 hql hqh sk hkn l1 l2 ox1 ox2 hvk hek hv2 hEN b7 g7 hye2 FL2 JJ2 RL2
        by_cases hn0 : 0 < nh
        · have t4 : decide ((nh : Int) > 0) = true := decide_eq_true (by omega)
          have t4' : decide (0 < (nh : Int)) = true := decide_eq_true (by omega)
          have t4'' : decide (0 < nh) = true := decide_eq_true hn0
          by_cases hq : 0 ≤ qh
          · have t5 : decide (qh ≥ 0) = true := decide_eq_true hq
            have t5' : decide (0 ≤ qh) = true := decide_eq_true hq
            have EE : Hid (FlE w0 X pre2 who2 w7) := hid ⟨FLY.out, by
              have h1 := HD2.out
              rw [hdk, rrst_stop ⟨by rw [HKN.out]; exact hn0, by rw [HQH.out]; exact hq⟩] at h1
              have h2 := congrArg List.length h1
              rw [List.length_drop] at h2
              have h3 := FLY.out.le
              have h4 : ([] : List Ent).length = 0 := rfl
              omega⟩
            clear hdk hq hn0
            gi_wp2
            refine ⟨trivial, ?_⟩
            refine (callsIn_wide.2 CH.out).mono ?_
            rintro e w8 ⟨rfl, rfl⟩
            gi_wp2
            rw [Exit.noGoto_normal]
            go_end0
            exact ⟨⟨_, rfl⟩, .inl ⟨pre2, who2, EE.out, JJY.out⟩⟩
          · have t5 : decide (qh ≥ 0) = false := decide_eq_false hq
            have t5' : decide (0 ≤ qh) = false := decide_eq_false hq
            have HNA := hid (show ¬ (0 < kh.length ∧ 0 ≤ cmp (ek, ev).1 kh) from fun h => hq (by rw [← HQH.out]; exact h.2))
            clear hq
            gi_wp2
            refine ⟨trivial, ?_⟩
            refine (callsIn_wide.2 CH.out).mono ?_
            rintro e w8 ⟨rfl, rfl⟩
            by_cases hlow : cmp ek kl < 0
            · have t6 : decide (ql < 0) = true := decide_eq_true (by rw [← HQL.out]; exact hlow)
              have NX := hid (show X.drop pre2.length = rrst b kl kh T (L.drop (k + 1)) by rw [HD2.out, hdk, rrst_low HNA.out hlow])
              clear hlow hdk
              gi_wp2
              refine ⟨trivial, ?_⟩
              refine (callsIn_wide.2 CL.out).mono ?_
              rintro e w8 ⟨rfl, rfl⟩
              gi_wp2
              gi_roundg (f2 - 1)
              case rel => exact ⟨k + 1, pre2, who2, by go_num, by have := HF2.out; omega, by omega, FLY.out, JJY.out, NX.out, RLY.out, H6.out⟩
              case measure => have := HF2.out; omega
            · have t6 : decide (ql < 0) = false := decide_eq_false (by rw [← HQL.out]; exact hlow)
              have hdd := HD2.out
              rw [hdk, rrst_take HNA.out hlow] at hdd
              have hxe : X[pre2.length]? = some (ek, ev) := by
                have := congrArg (fun z => z[0]?) hdd
                simpa using this
              have hdr : X.drop (pre2.length + 1) = rrst b kl kh T (L.drop (k + 1)) := by
                have := congrArg (List.drop 1) hdd
                simpa using this
              have FLA := FLY.out.app (x := ((a1, n1, k1), (a3, n3, k3))) hxe ETX.out
              obtain ⟨fn, tmps, assign, body, hy, hRd⟩ := HY.out pre2 ((a1, n1, k1), (a3, n3, k3)) who2 w7 JJY.out FLA
              dsimp only [sv] at hy
              have AR := hid FLA
              have RDY := hid hRd
              have HDR2 := hid hdr
              clear hlow hdk hdd hxe hdr FLA hRd
              gi_wp2
              refine ⟨trivial, ?_⟩
              refine (callsIn_wide.2 CL.out).mono ?_
              rintro e w8 ⟨rfl, rfl⟩
              gi_wp2
              refine RDY.out.mono ?_
              rintro e3 W3 (⟨rfl, hJ3, hk3⟩ | ⟨rfl, hJx3, hk3⟩)
              · have J3 := hid hJ3
                have A3 := hid (AR.out.turn hk3)
                have RL3 := hid (RLY.out.turns hk3 fun j hj e => by have h6 := H6.out j hj; have e : who2 j = 0 := e; omega)
                clear hJ3 hk3
                gi_wp2
                gi_roundg (f2 - 1)
                case rel => exact ⟨k + 1, _, who2, by go_num, by have := HF2.out; omega, by omega, A3.out, J3.out, by rw [List.length_append]; exact HDR2.out, RL3.out, H6.out⟩
                case measure => have := HF2.out; omega
              · have J3 := hid hJx3
                have A3 := hid (AR.out.turn hk3)
                clear hJx3 hk3
                gi_wp2
                rw [Exit.noGoto_normal]
                go_end0
                exact ⟨⟨_, rfl⟩, .inr ⟨_, who2, A3.out, J3.out⟩⟩
        · have t4 : decide ((nh : Int) > 0) = false := decide_eq_false (by omega)
          have t4' : decide (0 < (nh : Int)) = false := decide_eq_false (by omega)
          have t4'' : decide (0 < nh) = false := decide_eq_false hn0
          have HNA := hid (show ¬ (0 < kh.length ∧ 0 ≤ cmp (ek, ev).1 kh) from fun h => hn0 (by rw [← HKN.out]; exact h.1))
          gi_wp2
          refine ⟨trivial, ?_⟩
          by_cases hlow : cmp ek kl < 0
          · have t6 : decide (ql < 0) = true := decide_eq_true (by rw [← HQL.out]; exact hlow)
            have NX := hid (show X.drop pre2.length = rrst b kl kh T (L.drop (k + 1)) by rw [HD2.out, hdk, rrst_low HNA.out hlow])
            clear hlow hdk
            gi_wp2
            refine ⟨trivial, ?_⟩
            refine (callsIn_wide.2 CL.out).mono ?_
            rintro e w8 ⟨rfl, rfl⟩
            gi_wp2
            gi_roundg (f2 - 1)
            case rel => exact ⟨k + 1, pre2, who2, by go_num, by have := HF2.out; omega, by omega, FLY.out, JJY.out, NX.out, RLY.out, H6.out⟩
            case measure => have := HF2.out; omega
          · have t6 : decide (ql < 0) = false := decide_eq_false (by rw [← HQL.out]; exact hlow)
            have hdd := HD2.out
            rw [hdk, rrst_take HNA.out hlow] at hdd
            have hxe : X[pre2.length]? = some (ek, ev) := by
              have := congrArg (fun z => z[0]?) hdd
              simpa using this
            have hdr : X.drop (pre2.length + 1) = rrst b kl kh T (L.drop (k + 1)) := by
              have := congrArg (List.drop 1) hdd
              simpa using this
            have FLA := FLY.out.app (x := ((a1, n1, k1), (a3, n3, k3))) hxe ETX.out
            obtain ⟨fn, tmps, assign, body, hy, hRd⟩ := HY.out pre2 ((a1, n1, k1), (a3, n3, k3)) who2 w7 JJY.out FLA
            dsimp only [sv] at hy
            have AR := hid FLA
            have RDY := hid hRd
            have HDR2 := hid hdr
            clear hlow hdk hdd hxe hdr FLA hRd
            gi_wp2
            refine ⟨trivial, ?_⟩
            refine (callsIn_wide.2 CL.out).mono ?_
            rintro e w8 ⟨rfl, rfl⟩
            gi_wp2
            refine RDY.out.mono ?_
            rintro e3 W3 (⟨rfl, hJ3, hk3⟩ | ⟨rfl, hJx3, hk3⟩)
            · have J3 := hid hJ3
              have A3 := hid (AR.out.turn hk3)
              have RL3 := hid (RLY.out.turns hk3 fun j hj e => by have h6 := H6.out j hj; have e : who2 j = 0 := e; omega)
              clear hJ3 hk3
              gi_wp2
              gi_roundg (f2 - 1)
              case rel => exact ⟨k + 1, _, who2, by go_num, by have := HF2.out; omega, by omega, A3.out, J3.out, by rw [List.length_append]; exact HDR2.out, RL3.out, H6.out⟩
              case measure => have := HF2.out; omega
            · have J3 := hid hJx3
              have A3 := hid (AR.out.turn hk3)
              clear hJx3 hk3
              gi_wp2
              rw [Exit.noGoto_normal]
              go_end0
              exact ⟨⟨_, rfl⟩, .inr ⟨_, who2, A3.out, J3.out⟩⟩

theorem frange_seq {w0 : World} {lo hi g : Nat} {b : List UInt8} {rs : List Row} {a : Option Addr} {c : Nat} {a2 : Option Addr} {c2 : Nat} {vs : List RV} (hF : FlO w0 lo hi g b rs a c a2 c2 vs) (hR : FRows b.length rs) (hb : b.length ≤ 140737488351232)
    (Gf Gl Gh : Nat) (al : Option Addr) (nl cl : Nat) (kl : List UInt8) (ah : Option Addr) (nh ch : Nat) (kh : List UInt8) (bf : Boxed w0 Gf 29 (.pointer (some ⟨g, 0, none⟩))) (bl : Boxed w0 Gl 22 (.slice al nl cl)) (bh : Boxed w0 Gh 22 (.slice ah nh ch))
    (sl : Sl Bf w0 al nl cl kl) (sh : Sl Bf w0 ah nh ch kh) (who0 : Nat → Nat) :
    SeqW Fence.wide 3 Tryz.prog 52 #[.pointer (some ⟨Gf, 0, none⟩), .pointer (some ⟨Gl, 0, none⟩), .pointer (some ⟨Gh, 0, none⟩)] (fun x : Sv × Sv => #[sv x.1, sv x.2]) (FlR w0 (frng b rs kl kh)) (FlE w0 (frng b rs kl kh)) who0 :=
  fun l J Jx W hW hJ hY h0 => frange1_in l hF hR hb Gf Gl Gh al nl cl kl ah nh ch kh bf bl bh sl sh who0 J Jx hJ hY W hW h0
end Go.Proofs.YtljcogimeimknaaGreat

/- All's iterator, over any body of a range: contract. Conditions: numbers within reach. -/
import Derived.Test.YteedjgjkldbbcaaBlockGoC
import Derived.RangeFuncBound
import Derived.Shelf.Abstract
import Derived.OwnWalkIn
import Derived.TacticsInMore
import Derived.LoopNIn
import Derived.LoopIn
import Derived.Sort.LoopGhostIn
namespace Go.Proofs.Yteedjgjkldbbcaa
open Go.RowKit Go.Shelf
set_option linter.unusedVariables false
set_option linter.unusedSimpArgs false
attribute [local go_sem] Oper.semAt_some

theorem bents_pre {b : List UInt8} : ∀ (j : Nat) (l : List Ent) (ps : List Nat) (p : Nat) (X : List Ent × List Nat × Nat × Int × Nat), bents b j l ps p = X → ∃ r, X.1 = l ++ r
  | 0, l, ps, p, X, h => ⟨[], by subst h; simp [bents]⟩
  | j + 1, l, ps, p, X, h => by
    unfold bents at h
    split at h
    · exact ⟨[], by subst h; simp⟩
    · split at h
      · exact ⟨[], by subst h; simp⟩
      · obtain ⟨r, hr⟩ := bents_pre j _ _ _ X h
        exact ⟨_, by rw [hr, List.append_assoc]⟩
/-- between two entries -/
structure GoSt (W : World) (lo g gr gw : Nat) (ab : Option Addr) (cb n : Nat) (b : List UInt8) (X : List Ent × List Nat × Nat × Int × Nat) (P : Nat → World → Prop) (k m : Nat) (vl vr y : Value) (es : List Ent) (ps : List Nat) : Prop where
  rd : Rdr W lo g ab b.length cb n k m vl vr (bst es).last (bruns 0 ps)
  bg : W.heap[gr]? = some (.cells #[.pointer (some ⟨g, 0, none⟩)] 84 (0, 0))
  bw : W.heap[gw]? = some (.cells #[.int .i64 0, y] 86 (0, 0))
  p : P k W
  kn : k ≤ n
  el : es.length = k
  pl : ps.length = k
  mb : m ≤ b.length
  ll : (bst es).last.length ≤ 64 ∧ (0 < k → 0 < (bst es).last.length)
  eq : bents b (n - k) es ps m = X
  nw : ¬ RdS g vl vr gw
section
variable {W : World} {lo g gr gw cb n k m : Nat} {ab : Option Addr} {b : List UInt8} {X : List Ent × List Nat × Nat × Int × Nat} {P : Nat → World → Prop} {vl vr y : Value} {es : List Ent} {ps : List Nat}
theorem GoSt.prd (S : GoSt W lo g gr gw ab cb n b X P k m vl vr y es ps) : erd (if k % 8 = 0 then [] else (bst es).last) b m = pread (bP es.length (bst es).last) b m := by
  rw [S.el]
  unfold erd
  rw [if_pos ⟨by omega, by have := S.mb; omega⟩, Int.toNat_natCast]; rfl
theorem GoSt.bad (S : GoSt W lo g gr gw ab cb n b X P k m vl vr y es ps) (hk : k < n) {x : Ent} {q : Nat} {er : Int} (hx : erd (if k % 8 = 0 then [] else (bst es).last) b m = (x, q, er)) (h : er ≠ 0) : X.1.length = k := by
  have := S.eq
  rw [show n - k = (n - k - 1) + 1 by omega, bents_no (S.prd ▸ hx) h] at this
  rw [← this]; exact S.el
theorem GoSt.low (S : GoSt W lo g gr gw ab cb n b X P k m vl vr y es ps) (hk : k < n) {x : Ent} {q : Nat} (hx : erd (if k % 8 = 0 then [] else (bst es).last) b m = (x, q, 0)) (h : k % 8 = 0 ∧ 0 < (bst es).last.length ∧ 0 ≤ cmp (bst es).last x.1) : X.1.length = k := by
  have h0 : 0 < es.length := by
    rcases Nat.eq_zero_or_pos es.length with h0 | h0
    · have : es = [] := List.length_eq_zero_iff.1 h0
      subst this
      exact absurd h.2.1 (by decide)
    · exact h0
  have := S.eq
  rw [show n - k = (n - k - 1) + 1 by omega, bents_low (S.prd ▸ hx) ⟨h0, h.2.2⟩] at this
  rw [← this]; exact S.el
theorem GoSt.go (S : GoSt W lo g gr gw ab cb n b X P k m vl vr y es ps) (hk : k < n) {x : Ent} {q : Nat} (hx : erd (if k % 8 = 0 then [] else (bst es).last) b m = (x, q, 0)) (h : ¬ (k % 8 = 0 ∧ 0 < (bst es).last.length ∧ 0 ≤ cmp (bst es).last x.1)) : bents b (n - (k + 1)) (es ++ [x]) (ps ++ [m]) q = X ∧ X.1[k]? = some x := by
  have h1 : bents b (n - (k + 1)) (es ++ [x]) (ps ++ [m]) q = X := by
    rw [← S.eq, show n - k = (n - (k + 1)) + 1 by omega]
    refine (bents_go (S.prd ▸ hx) fun h2 => ?_).symm
    obtain ⟨_, _, _, _, _, h6⟩ := erd_in hx
    have hl0 : 0 < (bst es).last.length := S.ll.2 (by have := S.el; omega)
    by_cases h8 : k % 8 = 0
    · exact h ⟨h8, hl0, h2.2⟩
    · rw [if_neg h8] at h6
      rcases h6 with h6 | h6 <;> omega
  obtain ⟨r, hr⟩ := bents_pre _ _ _ _ _ h1
  refine ⟨h1, ?_⟩
  rw [hr, List.append_assoc, List.getElem?_append_right (by have := S.el; omega), S.el, Nat.sub_self]
  rfl
theorem GoSt.fin (S : GoSt W lo g gr gw ab cb n b X P k m vl vr y es ps) (hk : ¬ k < n) : X.1.length = k := by
  have := S.eq
  rw [show n - k = 0 by have := S.kn; omega] at this
  rw [← this]; exact S.el
end
set_option maxRecDepth 100000 in
set_option maxHeartbeats 4000000 in
theorem goiter_any (l gb : Nat) (ab : Option Addr) (cb : Nat) (b : List UInt8) (W0 : World) (hnb : b.length ≤ 140737499999999) (hgb : gb < W0.heap.size) (hlow : ∀ bb o, ab = some ⟨bb, o, none⟩ → 0 < b.length → bb < W0.heap.size) (P : Nat → World → Prop) (PX : World → Prop)
    (hPk : ∀ kk W, P kk W → Sl Bf W ab b.length cb b ∧ W.heap[gb]? = some (.cells #[.slice ab b.length cb] 25 (0, 0)))
    (hPt : ∀ kk W W' (T : Nat → Prop), P kk W → Turns T W W' → (∀ j, T j → W0.heap.size ≤ j) → P kk W')
    (hB : ∀ kk W vk vv (x : Ent), P kk W → W0.heap.size ≤ W.heap.size → (bentries b).1[kk]? = some x → OwT fB W W0.heap.size 5 vk x.1 → OwT fB W W0.heap.size 5 vv x.2 → (∀ j, vk.ownBlock = some j → vv.ownBlock ≠ some j) →
      YieldAt Fence.wide 2 Try.prog l #[vk, vv] W fun e W' => (e = .returned (.bool true) ∧ P (kk + 1) W' ∧ ∃ T : Nat → Prop, Turns T W W' ∧ ∀ j, T j → j < W0.heap.size ∨ vk.ownBlock = some j ∨ vv.ownBlock = some j) ∨ (e = .returned (.bool false) ∧ PX W'))
    (h0 : P 0 W0) :
    CallsIn Fence.wide 3 Try.prog 52 #[.func (.yield l) #[] #[], .pointer (some ⟨gb, 0, none⟩)] W0 fun e W' => (∃ v, e = .returned v) ∧ (P (bentries b).1.length W' ∨ PX W') := by
  have hmf : ∀ (fn : Fn) (first cap : Array Value) (w : World), (Instr.makeFunc fn first cap).run Try.prog w = .ok (.func fn first cap) w := fun _ _ _ _ => rfl
  have PK := Lib.hid hPk
  have PT := Lib.hid hPt
  have HB := Lib.hid hB
  have P0 := Lib.hid h0
  have HL := Lib.hid hlow
  clear hPk hPt hB h0 hlow
  refine callsIn_of_wp Try.func52 rfl trivial ?_ rfl
  simp only [Try.ntmps52, List.size_toArray, List.length_cons, List.length_nil, Nat.reduceAdd, Nat.reduceSub, Array.replicate_succ, Array.replicate_zero, List.push_toArray, List.append_toArray, List.nil_append, List.cons_append]
  gi_wp2
  refine ⟨trivial, ?_⟩
  obtain ⟨W1, hW1⟩ : ∃ V, W0.alloc (.cells #[.pointer none] 84) = V := ⟨_, rfl⟩
  have b1 : Below W0.heap.size W0 W1 := hW1 ▸ (Below.refl _ _).alloc (Nat.le_refl _) _
  have g1 : W1.heap[W0.heap.size]? = some (.cells #[.pointer none] 84 (0, 0)) := hW1 ▸ heap_new W0 _
  have z1 : W1.heap.size = W0.heap.size + 1 := by rw [← hW1]; simp
  rw [hW1]
  clear hW1
  obtain ⟨gr, hgr⟩ : ∃ g, W0.heap.size = g := ⟨_, rfl⟩
  have HGR := Lib.hid hgr
  have P1 := PT.out 0 W0 W1 (fun _ => False) P0.out (.of_below b1) (fun _ e => e.elim)
  rw [hgr] at g1 z1 hgb PT HB HL ⊢
  clear hgr b1 P0
  obtain ⟨W1a, hW1a⟩ : ∃ V, W1.alloc (.cells #[.int .i64 0, .int .i64 0] 86) = V := ⟨_, rfl⟩
  have b1a : Below W1.heap.size W1 W1a := hW1a ▸ (Below.refl _ _).alloc (Nat.le_refl _) _
  have g1a : WB W1a W1.heap.size 0 0 := hW1a ▸ heap_new W1 _
  have z1a : W1a.heap.size = gr + 2 := by rw [← hW1a]; simp; omega
  have hB1 := PK.out 0 W1 P1
  have BEG := gobeg_any gb gr ab b.length cb b W1a hnb (hB1.1.keep b1a) (blk_keep hB1.2 b1a) (blk_keep g1 b1a) (by omega)
  refine (callsIn_wide.2 (tried_any 54 #[.pointer (some ⟨gb, 0, none⟩), .pointer (some ⟨gr, 0, none⟩)] (fun e q w' => Turns (fun j => j = gr) W1a w' ∧ (e ≠ 0 → (bentries b).1 = []) ∧
      (e = 0 → ∃ n qq g, rd b 0 0 = (n, qq, 0) ∧ ¬ (n < 1 ∨ 64 < n) ∧ w'.heap[gr]? = some (.cells #[.pointer (some ⟨g, 0, none⟩)] 84 (0, 0)) ∧ Rdr w' W1a.heap.size g ab b.length cb n 0 qq (.slice none 0 0) (.slice none 0 0) [] [])) W1 (enters_of Try.func54 (by kernel_rfl) rfl)
      (by rw [hW1a]; exact BEG.mono fun r w2 ⟨e, q, h1, h2, h3, h4⟩ => ⟨e, q, h1, ⟨h2, h3, h4⟩, h2.heap g1a (by omega)⟩))).mono ?_
  rintro r W2 ⟨e1, q1, w2, rfl, ⟨hT2, hE2, hS2⟩, hT3⟩
  have TT : Turns (fun j => j = gr) W1 W2 := ((Turns.of_below (S := fun j => j = gr) b1a).trans hT2 fun _ _ e => e).trans hT3 fun j hj e => by omega
  have P2 := PT.out 0 W1 W2 _ P1 TT (fun j e => by omega)
  have hz2 : gr + 2 ≤ W2.heap.size := by have := hT2.size; have := hT3.size; omega
  clear hB1 BEG g1a P1
  by_cases he : e1 = 0
  · subst he
    obtain ⟨n, qq, g, hrd, hn, hbg, hR⟩ := hS2 rfl
    have hR2 := hR.turns hT3 fun j hj e => by have := (hR.inS j hj).1; omega
    have hbg2 := hT3.heap hbg (by omega)
    have hqb : qq ≤ b.length := (rd_vbs (l := b) hrd).1
    obtain ⟨X, hX⟩ : ∃ X, bents b n [] [] qq = X := ⟨_, rfl⟩
    have BE := Lib.hid (show bentries b = X by rw [← hX]; exact bentries_go hrd hn)
    rw [z1a] at hR2
    have hn64 : n ≤ 64 := by omega
    obtain ⟨W3, hW3⟩ : ∃ V, W2.alloc (.cells #[.int .i64 0, .int .i64 q1] 86) = V := ⟨_, rfl⟩
    have b3 : Below W2.heap.size W2 W3 := hW3 ▸ (Below.refl _ _).alloc (Nat.le_refl _) _
    obtain ⟨gw, hgw⟩ : ∃ g, W2.heap.size = g := ⟨_, rfl⟩
    have g3 : W3.heap[gw]? = some (.cells #[.int .i64 0, .int .i64 q1] 86 (0, 0)) := by rw [← hW3, ← hgw]; exact heap_new W2 _
    have ST0 := Lib.hid (show GoSt W3 (gr + 2) g gr gw ab cb n b X P 0 qq (.slice none 0 0) (.slice none 0 0) (.int .i64 q1) [] [] from
      { rd := hR2.keep b3, bg := blk_keep hbg2 b3, bw := g3, p := PT.out 0 W2 W3 (fun _ => False) P2 (.of_below b3) (fun _ e => e.elim), kn := Nat.zero_le _, el := rfl, pl := rfl, mb := hqb, ll := ⟨by show (0 : Nat) ≤ 64; omega, fun h => by omega⟩, eq := hX, nw := fun e => by have := (hR2.inS _ e).2; omega })
    have hgwz : gr + 2 ≤ gw := by omega
    have GL := Lib.hid (Array.getElem?_eq_some_iff.1 g3).1
    clear hR2 hbg2 hqb hX hR hbg hS2 hE2 hT2 hT3 TT P2 b3 g3 hrd hn hz2
    gi_wp2
    clear hW3 hgw
    gi_loopg [] (n + 1) (fun f wr => ∃ (k m : Nat) (vl vr y : Value) (es : List Ent) (ps : List Nat), GoSt wr (gr + 2) g gr gw ab cb n b X P k m vl vr y es ps ∧ f + k = n + 1)
    case atStart => exact ⟨0, qq, _, _, _, _, _, ST0.out, rfl⟩
    case round =>
      obtain ⟨k, m, vl, vr, y, es, ps, hS, hfk⟩ := hrel
      have S := Lib.hid hS
      have c1 := hS.rd.c1
      have c2 := hS.rd.c2
      have cr := cell_of hS.bg 0 rfl
      have cw := cell_of hS.bw 0 (v := .int .i64 0) rfl
      have hgl := hS.rd.lt
      clear hS ST0
      by_cases hk : k < n
      · have t1 : decide ((k : Int) < (n : Nat)) = true := decide_eq_true (by omega)
        have t1' : decide (k < n) = true := decide_eq_true hk
        gi_wp2
        refine wpIn_wide.2 ?_
        go_quiet (fail)
        gi_wp2
        refine ⟨trivial, ?_⟩
        obtain ⟨Wx, hWx⟩ : ∃ V, (wr.drewN nq).alloc (.cells #[.slice none 0 0, .slice none 0 0] 41) = V := ⟨_, rfl⟩
        have bx : Below wr.heap.size wr Wx := hWx ▸ (keep_drewN (Below.refl _ _) nq).alloc (Nat.le_refl _) _
        have gx0 : Wx.heap[wr.heap.size]? = some (.cells #[.slice none 0 0, .slice none 0 0] 41 (0, 0)) := hWx ▸ heap_new (wr.drewN nq) _
        have zx : Wx.heap.size = wr.heap.size + 1 := by rw [← hWx]; simp
        rw [hWx]
        clear hWx
        obtain ⟨gx, hgx⟩ : ∃ g, wr.heap.size = g := ⟨_, rfl⟩
        have HGX := Lib.hid hgx
        rw [hgx] at bx gx0 zx ⊢
        clear hgx
        obtain ⟨Wy, hWy⟩ : ∃ V, Wx.alloc (.cells #[.int .i64 0, .int .i64 0] 86) = V := ⟨_, rfl⟩
        have bY : Below Wx.heap.size Wx Wy := hWy ▸ (Below.refl _ _).alloc (Nat.le_refl _) _
        have gy : WB Wy Wx.heap.size 0 0 := hWy ▸ heap_new Wx _
        have zy : Wy.heap.size = gx + 2 := by rw [← hWy]; simp; omega
        have bxy : Below wr.heap.size wr Wy := by rw [HGX.out]; exact bx.trans (bY.mono (by omega))
        have hin := S.out.rd.inS
        rw [HGX.out] at hin
        have hgwl : gw < gx := by have := (Array.getElem?_eq_some_iff.1 S.out.bw).1; have := HGX.out; omega
        have NXT := gonext_any gr gx (gr + 2) g ab b.length cb n k m vl vr _ _ (bst es).last (bruns 0 ps) b Wy hnb (by omega) (by have := S.out.mb; omega) S.out.ll.1 (by have := bruns_len 0 ps; have := S.out.pl; omega) (S.out.rd.keep bxy) ((PK.out k wr S.out.p).1.keep bxy)
          (fun bb o e hn => by have := HL.out bb o e hn; omega) (blk_keep S.out.bg bxy) ((bY.block gx (by omega)).trans gx0) (fun e => by have := (hin gx e).2; omega)
        refine (callsIn_wide.2 (tried_any 56 #[.pointer (some ⟨gr, 0, none⟩), .pointer (some ⟨gx, 0, none⟩)] (fun e q w' => GoNext Wy (gr + 2) g gx ab b.length cb n k m vl vr (bst es).last (bruns 0 ps) b e w') Wx (enters_of Try.func56 (by kernel_rfl) rfl)
          (by rw [hWy]; exact NXT.mono fun r w2 ⟨e, q, h1, h2⟩ => ⟨e, q, h1, h2, h2.1.heap gy (fun e => by rcases e with e | e; (have := (hin _ e).2; omega); (omega))⟩))).mono ?_
        rintro r W5 ⟨e2, q2, w5, rfl, ⟨hNT, x, qq2, er, hx, hne, heq⟩, hT5⟩
        have TT5 : Turns (RdS g vl vr) wr W5 := ((Turns.of_below (S := RdS g vl vr) bxy).trans hNT fun j hj e => by
          rcases e with e | e
          · exact e
          · have := HGX.out; omega).trans hT5 fun j hj e => by have := HGX.out; omega
        have P5 := PT.out k wr W5 _ S.out.p TT5 (fun j e => by have := (hin j e).1; omega)
        have bw5 := TT5.heap S.out.bw S.out.nw
        have bg5 := TT5.heap S.out.bg (fun e => by have := (hin gr e).1; omega)
        have cw0 := cell_of bw5 0 (v := .int .i64 0) rfl
        have fw0 := free_block bw5 0
        have bw6 := set_block (i := 0) bw5 (.int .i64 e2)
        have cw1 := cell_of bw6 1 (v := y) rfl
        have fw1 := free_block bw6 1
        have bw7 := set_block (i := 1) bw6 (.int .i64 q2)
        have TW : Turns (fun j => j = gw) W5 ((W5.setCell ⟨gw, 0, none⟩ (.int .i64 e2)).setCell ⟨gw, 1, none⟩ (.int .i64 q2)) := (Turns.set (S := fun j => j = gw) W5 (b := gw) (i := 0) rfl _).trans (Turns.set (S := fun j => j = gw) _ (b := gw) (i := 1) rfl _) fun _ _ e => e
        have P7 := PT.out k W5 _ _ P5 TW (fun j e => by omega)
        have d0 : ((W5.setCell ⟨gw, 0, none⟩ (.int .i64 e2)).setCell ⟨gw, 1, none⟩ (.int .i64 q2)).cell? ⟨gw, 0, none⟩ = some (.int .i64 e2) := cell_of bw7 0 rfl
        by_cases he2 : e2 = 0
        · obtain ⟨rfl, hlow, vk, vv, vl', vr', mid, hgx5, o1, o2, o3, o4, hR5, hS5, hD5⟩ := heq he2
          obtain ⟨ak, nk, ck, rfl, -⟩ := o1.slN
          obtain ⟨av, nv, cv, rfl, -⟩ := o2.slN
          have hwyx : Wx.heap.size = gx + 1 := zx
          have hxm : gx + 2 ≤ mid := by omega
          have l1 := o1.lt
          have l2 := o2.lt
          have O1 := (o1.turns hT5 fun j hj e => by have := (l1 j hj).1; omega).turns TW fun j hj e => by have := (l1 j hj).1; omega
          have O2 := (o2.turns hT5 fun j hj e => by have := (l2 j hj).1; omega).turns TW fun j hj e => by have := (l2 j hj).1; omega
          have hin5 : ∀ j, RdS g vl' vr' j → gr + 2 ≤ j ∧ j ≠ gx ∧ j ≠ gx + 1 ∧ j ≠ gw := fun j hj => by
            have h1 := (hR5.inS j hj).1
            rcases hS5 j hj with h | h
            · have := (hin j h).2
              exact ⟨h1, by omega, by omega, fun e => S.out.nw (e ▸ h)⟩
            · exact ⟨h1, by omega, by omega, by omega⟩
          have R7 := (hR5.turns hT5 fun j hj e => by have := hin5 j hj; omega).turns TW fun j hj e => (hin5 j hj).2.2.2 e
          have gx7 := TW.heap (hT5.heap hgx5 (by omega)) (by omega)
          have bg7 := TW.heap bg5 (by omega)
          have d1 := cell_of gx7 0 (v := .slice ak nk ck) rfl
          have d2 := cell_of gx7 1 (v := .slice av nv cv) rfl
          obtain ⟨hbe, hXk⟩ := S.out.go hk hx hlow
          have HY := HB.out k _ _ _ x P7 (by have := TT5.size; have := HGX.out; simp; omega) (by rw [BE.out]; exact hXk) (O1.base (by omega)) (O2.base (by omega)) (fun j hj e => by have := o3 j hj; have := (l2 j e).1; omega)
          obtain ⟨fn', tm, asg, bod, hy, hRR⟩ := HY
          have HR := Lib.hid hRR
          obtain ⟨i1, i2, i3, i4, i5, _⟩ := erd_in hx
          have R7H := Lib.hid R7
          have HIN := Lib.hid hin5
          have HD := Lib.hid hD5
          have HBE := Lib.hid hbe
          have BG7 := Lib.hid bg7
          have BW7 := Lib.hid bw7
          have L12 := Lib.hid (And.intro l1 l2)
          have I12 := Lib.hid (And.intro i1 (And.intro i2 i4))
          clear R7 hin5 hD5 hbe bg7 bw7 bw6 bw5 bg5 l1 l2 i1 i2 i3 i4 i5 hRR hx hne heq hlow hR5 hS5 o1 o2 O1 O2 o3 o4 TT5 P5 P7 TW hNT hT5 hgx5 gx7 NXT gy gx0 bxy bx bY
          subst he2
          gi_wp2
          refine HR.out.mono ?_
          rintro e3 W7 (⟨rfl, hp7, T7, hT7, hTb⟩ | ⟨rfl, hx7⟩)
          · gi_wp2
            gi_roundg (gk - 1)
            case rel =>
              have nT : ∀ j, gr ≤ j → j < gx + 2 → ¬ T7 j := fun j h1 h2 e => by
                rcases hTb j e with q | q | q
                · omega
                · have := (L12.out.1 j q).1; omega
                · have := (L12.out.2 j q).1; omega
              refine ⟨k + 1, qq2, vl', vr', .int .i64 q2, es ++ [x], ps ++ [m], ⟨?_, hT7.heap BG7.out (nT gr (by omega) (by omega)), hT7.heap BW7.out (nT gw (by omega) (by omega)), hp7, hk, by rw [List.length_append, S.out.el]; rfl, by rw [List.length_append, S.out.pl]; rfl, I12.out.2.2, ?_, HBE.out, fun e => (HIN.out gw e).2.2.2 rfl⟩, by omega⟩
              · have e1 : (bst (es ++ [x])).last = x.1 := by rw [bst_snoc]; rfl
                have e2 : bruns 0 (ps ++ [m]) = bruns 0 ps ++ if k % 8 = 0 then [m] else [] := by rw [bruns_snoc, Nat.zero_add, S.out.pl]
                rw [e1, e2]
                exact R7H.out.turns hT7 fun j hj e => by
                  rcases hTb j e with q | q | q
                  · have := (HIN.out j hj).1; omega
                  · exact (HD.out j hj).1 q
                  · exact (HD.out j hj).2 q
              · have e1 : (bst (es ++ [x])).last = x.1 := by rw [bst_snoc]; rfl
                rw [e1]; exact ⟨I12.out.2.1, fun _ => I12.out.1⟩
            case measure => omega
          · gi_wp2
            refine bodyPost_ret (results_none rfl _ _ _) rfl ?_
            exact ⟨⟨_, rfl⟩, .inr hx7⟩
        · have hXl : (bentries b).1.length = k := by
            rw [BE.out]
            rcases hne he2 with h | ⟨rfl, h⟩
            · exact S.out.bad hk hx h
            · exact S.out.low hk hx h
          have PF := Lib.hid (show P (bentries b).1.length ((W5.setCell ⟨gw, 0, none⟩ (.int .i64 e2)).setCell ⟨gw, 1, none⟩ (.int .i64 q2)) by rw [hXl]; exact P7)
          have t5 : (e2 != 0) = true := by rw [bne_iff_ne]; exact he2
          clear hXl hne heq hx he2 NXT bw7 bw6 bw5 bg5 TT5 P5 P7 TW hNT hT5
          gi_wp2
          refine ⟨fun _ h => (by cases h), ?_⟩
          gi_wp2
          refine bodyPost_ret (results_none rfl _ _ _) rfl ?_
          exact ⟨⟨_, rfl⟩, .inl PF.out⟩
      · have t1 : decide ((k : Int) < (n : Nat)) = false := decide_eq_false (by omega)
        have t1' : decide (k < n) = false := decide_eq_false hk
        have PF := Lib.hid (show P (bentries b).1.length wr by rw [BE.out, S.out.fin hk]; exact S.out.p)
        gi_wp2
        refine wpIn_wide.2 ?_
        go_quiet (fail)
        gi_wp2
        go_end0
        exact ⟨⟨_, rfl⟩, .inl (PT.out _ _ _ (fun _ => False) PF.out (.of_below (keep_drewN (Below.refl _ _) _)) (fun _ e => e.elim))⟩
  · have hXl : (bentries b).1.length = 0 := by rw [hE2 he]; rfl
    obtain ⟨W3, hW3⟩ : ∃ V, W2.alloc (.cells #[.int .i64 e1, .int .i64 q1] 86) = V := ⟨_, rfl⟩
    have b3 : Below W2.heap.size W2 W3 := hW3 ▸ (Below.refl _ _).alloc (Nat.le_refl _) _
    obtain ⟨gw, hgw⟩ : ∃ g, W2.heap.size = g := ⟨_, rfl⟩
    have g3 : W3.heap[gw]? = some (.cells #[.int .i64 e1, .int .i64 q1] 86 (0, 0)) := by rw [← hW3, ← hgw]; exact heap_new W2 _
    have P3 := PT.out 0 W2 W3 (fun _ => False) P2 (.of_below b3) (fun _ e => e.elim)
    have G3 := Lib.hid g3
    have HP3 := Lib.hid P3
    have HXL := Lib.hid hXl
    have t0 : (e1 == 0) = false := by rw [beq_eq_false_iff_ne]; exact he
    clear hS2 hE2 hT2 hT3 TT P2 b3 g3 hz2 he P3 hXl
    gi_wp2
    clear hW3 hgw
    gi_loopg [] 1 (fun f wr => wr = W3 ∧ f = 1)
    case atStart => exact ⟨rfl, rfl⟩
    case round =>
      obtain ⟨rfl, hf⟩ := hrel
      have cw := cell_of G3.out 0 (v := .int .i64 e1) rfl
      gi_wp2
      refine wpIn_wide.2 ?_
      go_quiet (fail)
      gi_wp2
      go_end0
      exact ⟨⟨_, rfl⟩, .inl (by rw [HXL.out]; exact PT.out _ _ _ (fun _ => False) HP3.out (.of_below (keep_drewN (Below.refl _ _) _)) (fun _ e => e.elim))⟩
end Go.Proofs.Yteedjgjkldbbcaa

/- The document's Chunks over any reader of its own: contract. Conditions: numbers within reach, the limit at most 2^31. -/
import Derived.Test.YtjkgncogpefnbaaPipeChkM
import Derived.Deep.LoopGhost
import Derived.Deep.DeepCutAuto
namespace Go.Proofs.Ytjkgncogpefnbaa
open Go.RowKit
set_option linter.unusedVariables false
set_option linter.unusedSimpArgs false

theorem slT_one (w : World) (x : Cv × Int) : SlT fC 2 (w.alloc (.cells #[cvl x.1, .int .i64 x.2] 58)) (some ⟨w.heap.size, 0, none⟩) 1 1 [x] := by
  obtain ⟨a, c, hv, hs⟩ := (OwT.lit fC w w.heap.size 58 #[cvl x.1, .int .i64 x.2] [x] 1 rfl rfl (Nat.le_refl _) (by decide)).sl fC_len
  injection hv with e1 e2 e3
  subst e1 e3
  exact hs
/-- behind Chunks -/
def ChunksPost {σ : Type} (St : σ → (Nat → Prop) → World → Prop) (X : List Ck × σ) (S0 : Nat → Prop) (w : World) (e : Ending) (w' : World) : Prop :=
  ∃ v S, e = .returned v ∧ ChL w' w.heap.size S v X.1 ∧ St X.2 S w' ∧ (∀ j, S j → S0 j ∨ w.heap.size ≤ j) ∧ Turns S0 w w'
/-- in the midst of it -/
structure RkM {σ : Type} (St : σ → (Nat → Prop) → World → Prop) (w : World) (S0 : Nat → Prop) (v : Value) (cs : List Ck) (s : σ) (S : Nat → Prop) (W : World) : Prop where
  ch : ChL W w.heap.size S v cs
  st : St s S W
  sO : ∀ j, S j → S0 j ∨ w.heap.size ≤ j
  tu : Turns S0 w W
section
variable {σ : Type} {R : Rm σ} {vr : Value} {lo Br : Nat} {St : σ → (Nat → Prop) → World → Prop} {w W W1 : World} {S0 S S' : Nat → Prop} {s s' : σ} {gp : Nat} {v : Value} {cs : List Ck}
theorem RkM.rd (h : RkM St w S0 v cs s S W) (RD : RdrL R vr lo Br St) (hgp : W.heap.size ≤ gp) (ht : Turns (fun j => S j ∨ j = gp) W W1) (hs : St s' S' W1) (hS : ∀ j, S' j → S j ∨ W.heap.size ≤ j) : RkM St w S0 v cs s' S' W1 :=
  { ch := h.ch.turns ht (fun j e => by rcases e with e | e; (exact .inl e); (exact .inr (.inr (by omega)))) (fun j hj => by rcases hS j hj with e | e; (exact .inl e); (exact .inr (.inr e)))
    st := hs
    sO := fun j hj => by rcases hS j hj with e | e; (exact h.sO j e); (exact .inr (Nat.le_trans h.tu.size e))
    tu := h.tu.trans ht fun j hj e => by
      rcases e with e | e
      · rcases h.sO j e with e2 | e2
        · exact e2
        · omega
      · have := h.tu.size; omega }
theorem RkM.fin {X : List Ck × σ} (h : RkM St w S0 v cs s S W) (hX : X = (cs, s)) : ChunksPost St X S0 w (.returned v) W := by
  subst hX
  exact ⟨v, S, rfl, h.ch, h.st, h.sO, h.tu⟩
/-- one more behind: the literal in a block of its own -/
theorem RkM.app {w' : World} {v' : Value} {x : Cv × Int} {c : Ck} {vs : List (Cv × Int)} (h : RkM St w S0 v cs s S W) (RD : RdrL R vr lo Br St) (h2 : vs.length = cs.length) (h3 : ∀ j, v.ownBlock = some j → ¬ S j) (h4 : ∀ (i : Nat) (x : Cv × Int) (c : Ck), vs[i]? = some x → cs[i]? = some c → CkAt W w.heap.size S v.ownBlock x c) (hlo : lo ≤ w.heap.size) (hv0 : ∀ j, v.ownBlock = some j → w.heap.size ≤ j ∧ j < W.heap.size)
    (o : Obj) (hx : CkAt W w.heap.size S v.ownBlock x c) (ho : OwT fC w' w.heap.size 58 v' (vs ++ [x])) (hg : (W.alloc o).grownBy w' v.ownBlock) (hv : v'.ownBlock = v.ownBlock ∨ v'.ownBlock = some (W.alloc o).heap.size) : RkM St w S0 v' (cs ++ [c]) s S w' := by
  have hb : Below W.heap.size W (W.alloc o) := (Below.refl _ _).alloc (Nat.le_refl _) _
  have hz := hb.size
  have hin := RD.inS _ _ _ h.st
  have tg : Turns (fun j => v.ownBlock = some j) (W.alloc o) w' := Turns.of_grown hg fun j e => e
  have tA : Turns (fun j => v.ownBlock = some j) W w' := (Turns.of_below hb).trans tg fun _ _ e => e
  have sm : ∀ j, w.heap.size ≤ j → j < W.heap.size → ¬ S j → v.ownBlock ≠ some j → (W.alloc o).heap[j]? = W.heap[j]? ∧ ¬ S j ∧ v.ownBlock ≠ some j := fun j _ a b c => ⟨hb.block j a, b, c⟩
  exact { ch := ChL.snoc h2 (fun j hj => Nat.lt_of_lt_of_le (hin j hj).2 hz) h3 (fun i x c hx hc => (h4 i x c hx hc).of_same hz sm) (hx.of_same hz sm) ho hg hv
          st := RD.frame _ _ _ _ _ h.st tA (fun j hj e => h3 j e hj) (fun j e => by have := (hv0 j e).1; omega)
          sO := h.sO
          tu := h.tu.trans tA fun j hj e => by have := (hv0 j e).1; omega }
set_option maxRecDepth 100000 in
theorem rchunks_wrong (gr : Nat) (size : Int) (lim : Nat) (w : World) (hs : size < 1 ∨ 4096 < size) :
    Calls Try.prog 19 #[.pointer (some ⟨gr, 0, none⟩), .int .i64 size, .int .i64 (lim : Nat)] w fun e w' => ∃ v, e = .returned v ∧ (∀ S : Nat → Prop, (∀ j, S j → j < w.heap.size) → ChL w' w.heap.size S v [([], 1)]) ∧ Below w.heap.size w w' := by
  have FIN := Lib.hid (fun (S : Nat → Prop) (hS : ∀ j, S j → j < w.heap.size) => show ChL (w.alloc (.cells #[.slice none 0 0, .int .i64 1] 58)) w.heap.size S (.slice (some ⟨w.heap.size, 0, none⟩) 1 1) [([], 1)] from
    ⟨[((none, 0, 0), 1)], OwT.lit fC w w.heap.size 58 #[.slice none 0 0, .int .i64 1] [((none, 0, 0), 1)] 1 rfl rfl (Nat.le_refl _) (by decide), rfl, (fun j hj h => by have e : w.heap.size = j := Option.some.inj hj; have := hS j h; omega), fun i x c hx hc => by
      have hi : i = 0 := by have := (List.getElem?_eq_some_iff.1 hx).1; simp at this; omega
      subst hi
      simp at hx hc
      subst hx hc
      exact ⟨rfl, Sl.nil _ _, fun b o e => by cases e⟩⟩)
  have FB := Lib.hid (show Below w.heap.size w (w.alloc (.cells #[.slice none 0 0, .int .i64 1] 58)) from (Below.refl _ _).alloc (Nat.le_refl _) _)
  by_cases h : size < 1
  · have t1 : decide (size < 1) = true := decide_eq_true h
    clear h hs
    go_enter Try.func19, Try.ntmps19
    go_wp2_with fail
    go_ret
    exact ⟨_, rfl, FIN.out, FB.out⟩
  · have t1 : decide (size < 1) = false := decide_eq_false h
    have t2 : decide (size > 4096) = true := decide_eq_true (by omega)
    have t2' : decide (4096 < size) = true := decide_eq_true (by omega)
    clear h hs
    go_enter Try.func19, Try.ntmps19
    go_wp2_with fail
    go_ret
    exact ⟨_, rfl, FIN.out, FB.out⟩
set_option maxRecDepth 100000 in
set_option maxHeartbeats 4000000 in
theorem rchunks_any {gr : Nat} (RD : RdrL R (.pointer (some ⟨gr, 0, none⟩)) lo Br St)
    (size lim : Nat) (w : World) (hs1 : 1 ≤ size) (hs2 : size ≤ 4096) (hlm : lim ≤ 2147483648) (hlo : lo ≤ w.heap.size) (s0 : σ) (hS : St s0 S0 w) (hcr : R.cnt s0 + (R.mu s0 * 17 + 17) < Br) :
    Calls Try.prog 19 #[.pointer (some ⟨gr, 0, none⟩), .int .i64 (size : Nat), .int .i64 (lim : Nat)] w (ChunksPost St (chkT R size s0 lim) S0 w) := by
  obtain ⟨X, hX⟩ : ∃ X, chkT R size s0 lim = X := ⟨_, rfl⟩
  rw [hX]
  have M0 := Lib.hid (show RkM St w S0 (.slice none 0 0) [] s0 S0 w from ⟨.nil _ _ _, hS, fun j h => .inl h, .refl _ _⟩)
  have X0 := Lib.hid (show chk R size (R.mu s0 * 17 + 17) s0 0 (lim - ([] : List Ck).length) = (X.1, X.2) from hX)
  have t1 : decide ((size : Int) < 1) = false := decide_eq_false (by omega)
  have t2 : decide ((size : Int) > 4096) = false := decide_eq_false (by omega)
  have t2' : decide (4096 < size) = false := decide_eq_false (by omega)
  have HCR := Lib.hid hcr
  clear hX hS hcr
  go_enter Try.func19, Try.ntmps19
  go_wp2_with fail
  clear t1 t2 t2'
  go_loopg [7, 8] (R.mu s0 * 17 + 17) (fun n x7 x8 wr => ∃ (s : σ) (S : Nat → Prop) (gv : Nat) (cs L : List Ck), x8 = .int .i64 (gv : Nat) ∧ RkM St w S0 x7 cs s S wr ∧ chk R size n s gv (lim - cs.length) = (L, X.2) ∧ cs ++ L = X.1 ∧ cs.length ≤ lim ∧ gv ≤ 15 ∧ R.mu s * 17 + 16 - gv < n ∧ R.cnt s + n < Br)
  case atStart => exact ⟨s0, S0, 0, [], X.1, rfl, M0.out, X0.out, rfl, Nat.zero_le _, by omega, by omega, HCR.out⟩
  case round =>
    obtain ⟨s, S, gv, cs, L, rfl, hm, hq, hxl, hcl, hgl, hfl, hcb⟩ := hrel
    have M := Lib.hid hm
    have EQ := Lib.hid hq
    have XL := Lib.hid hxl
    have HCB := Lib.hid hcb
    have HFL := Lib.hid hfl
    obtain ⟨vs, ho, hvl, hv3, hv4⟩ := M.out.ch
    obtain ⟨a, cc, hve, hsl⟩ := ho.sl fC_len
    rw [hvl] at hve
    subst hve
    have HO := Lib.hid ho
    have V3 := Lib.hid hv3
    have V4 := Lib.hid hv4
    have VL := Lib.hid hvl
    clear hm hq hxl hcb hfl ho hv3 hv4 hvl hsl M0 X0 HCR
    by_cases hlt : cs.length < lim
    · have HNL := Lib.hid (show lim - cs.length ≠ 0 by omega)
      have t0 : decide ((cs.length : Int) < (lim : Int)) = true := decide_eq_true (by omega)
      have t0' : decide (cs.length < lim) = true := decide_eq_true hlt
      go_wp2_with (refine wpList_mkT eltTB rfl (.tmp 28) (.tmp 28) rfl 0 size size (Nat.le_refl _) (by rfl) (by rfl) rfl rfl (by omega) (by simp only [maxLen]; omega) (Nat.zero_le _) ?_; intro x0 wp hp _ _ hbp; have HP := Lib.hid (show wp.heap[wr.heap.size]? = some (.cells ((List.replicate size x0).map Bf).toArray 5 (0, 0)) by rw [← flat_fB]; exact hp); have HBP := Lib.hid hbp; clear hp hbp)
      have hgp : ¬ S wr.heap.size := fun h => by have := (RD.inS _ _ _ M.out.st _ h).2; omega
      have hlw : lo ≤ wr.heap.size := Nat.le_trans hlo M.out.tu.size
      have hnb := R.numB s size (by omega)
      have hlayN := R.layN s size
      have hlayE := R.layE s size
      have STP := Lib.hid (RD.frame _ _ (fun _ => False) _ _ M.out.st (.of_below HBP.out) (fun _ _ e => e) (fun _ e => e.elim))
      refine (RD.read s S wp wr.heap.size size size (List.replicate size x0) STP.out (by have := HCB.out; have := HFL.out; omega) (by simp) (Nat.le_refl _) (by omega) HP.out hgp hlw).mono ?_
      rintro e W1 ⟨rfl, S1, hst1, hS1, hT1, hr1⟩
      have T1 := (Turns.of_below (S := fun j => S j ∨ j = wr.heap.size) HBP.out).trans hT1 fun _ _ e => e
      have hSS : ∀ j, S1 j → S j ∨ wr.heap.size ≤ j := fun j hj => by
        rcases hS1 j hj with e | e
        · exact .inl e
        · exact .inr (Nat.le_trans HBP.out.size e)
      have M1 := Lib.hid (M.out.rd RD (Nat.le_refl _) T1 hst1 hSS)
      have hgpl : wr.heap.size < wp.heap.size := (Array.getElem?_eq_some_iff.1 HP.out).1
      have hlt0 := HO.out.lt
      have V31 := Lib.hid (show ∀ j, Value.ownBlock (.slice a cs.length cc) = some j → ¬ S1 j from fun j hj h => by
        rcases hSS j h with e | e
        · exact V3.out j hj e
        · have := (hlt0 j hj).2; omega)
      have same1 : ∀ j, w.heap.size ≤ j → j < wr.heap.size → ¬ S j → W1.heap[j]? = wr.heap[j]? ∧ ¬ S1 j := fun j h1 h2 h3 => ⟨T1.block j h2 fun e => by rcases e with e | e; (exact h3 e); (omega), fun e => by rcases hSS j e with e | e; (exact h3 e); (omega)⟩
      have V41 := Lib.hid (show ∀ (i : Nat) (x : Cv × Int) (c : Ck), vs[i]? = some x → cs[i]? = some c → CkAt W1 w.heap.size S1 (Value.ownBlock (.slice a cs.length cc)) x c from fun i x c hx hc => (V4.out i x c hx hc).of_same T1.size fun j h1 h2 h3 h4 => ⟨(same1 j h1 h2 h3).1, (same1 j h1 h2 h3).2, h4⟩)
      have HO1 := Lib.hid (HO.out.of_block fun j hj => (same1 j (hlt0 j hj).1 (hlt0 j hj).2 (V3.out j hj)).1)
      have LT1 := Lib.hid (show ∀ j, Value.ownBlock (.slice a cs.length cc) = some j → w.heap.size ≤ j ∧ j < W1.heap.size from fun j hj => ⟨(hlt0 j hj).1, by have := (hlt0 j hj).2; have := T1.size; omega⟩)
      have R1 := Lib.hid hr1
      have hwz : w.heap.size ≤ wr.heap.size := M.out.tu.size
      have NGP := Lib.hid (show ¬ S1 wr.heap.size from fun h => by
        rcases hS1 _ h with e | e
        · exact hgp e
        · omega)
      have NOW := Lib.hid (show Value.ownBlock (.slice a cs.length cc) ≠ some wr.heap.size from fun h => by have := (hlt0 _ h).2; omega)
      obtain ⟨F, hF⟩ : ∃ F, gk = F + 1 := ⟨gk - 1, by have := HFL.out; omega⟩
      subst hF
      obtain ⟨z, hz⟩ : ∃ z, R.num s size = z := ⟨_, rfl⟩
      obtain ⟨ee, hee⟩ : ∃ ee, R.er s size = ee := ⟨_, rfl⟩
      have HZ := Lib.hid hz
      have HEE := Lib.hid hee
      rw [hz] at hnb hlayE
      rw [hz, hee]
      have hgp1 : wr.heap.size < W1.heap.size := by have := T1.size; have := hT1.size; omega
      have HB1 := Lib.hid (fun o : Obj => (Below.refl W1.heap.size W1).alloc (Nat.le_refl _) o)
      clear hz hee T1 hst1 hS1 hT1 hr1 STP HP HBP hgp hlt0 same1 hSS M V3 V4 HO
      by_cases hbad : z < 0 ∨ (size : Int) < z
      · have XE := Lib.hid (show X = (cs ++ [([], 34)], R.nxt s size) by
          have := EQ.out
          rw [chk_bad HNL.out (by rw [HZ.out]; exact hbad)] at this
          simp only [Prod.mk.injEq] at this
          obtain ⟨e1, e2⟩ := this
          exact Prod.ext (by rw [← XL.out, ← e1]) e2.symm)
        rcases hbad with h | h
        case' inl =>
          have u1 : decide (z < 0) = true := decide_eq_true h
          clear h
        case' inr =>
          have u1 : decide (z < 0) = false := decide_eq_false (by omega)
          have u2 : decide (z > (size : Int)) = true := decide_eq_true h
          have u2' : decide ((size : Int) < z) = true := decide_eq_true h
          clear h
        all_goals
          go_wp2_with (at_builtin; refine wpList_appT eltTC rfl (.tmp 43) (.tmp 45) rfl w.heap.size _ vs (by rfl) (HO1.out.alloc _) _ 1 1 [((none, 0, 0), 34)] (by rfl) (slT_one W1 ((none, 0, 0), 34)) (by rw [VL.out]; unfold maxLen; omega) (by rw [VL.out]; omega) (by simp; omega) _ rfl ?_; intro v9 w9 h9 hg9 hv9 hb9; have FM := Lib.hid (M1.out.app RD VL.out V31.out V41.out hlo LT1.out _ (x := ((none, 0, 0), 34)) (c := ([], 34)) ⟨rfl, Sl.nil _ _, fun b o e => by cases e⟩ h9 hg9 hv9); clear h9 hg9 hv9 hb9)
          go_ret
          exact FM.out.fin XE.out
      · obtain ⟨k, rfl⟩ : ∃ k : Nat, z = k := ⟨z.toNat, by omega⟩
        have hks : k ≤ size := by omega
        have hlk : (R.lay s size).length = k := by have := hlayE (by omega) (by omega); omega
        obtain ⟨P, hP⟩ : ∃ P, R.lay s size = P := ⟨_, rfl⟩
        rw [hP] at R1 hlk
        have NB := Lib.hid (show ¬ (R.num s size < 0 ∨ (size : Int) < R.num s size) by rw [HZ.out]; omega)
        have LTK := Lib.hid (show (R.lay s size).take (R.num s size).toNat = P by rw [hP, HZ.out, Int.toNat_natCast]; exact List.take_of_length_le (by omega))
        have hcut := fun W : World => run_cutto eltB W (some ⟨wr.heap.size, 0, none⟩) size size .i64 k hks
        have SL1 := Lib.hid (show Sl Bf W1 (some ⟨wr.heap.size, 0, none⟩) k size P from Sl.of_row _ _ _ R1.out hlk hks (by rw [List.map_append, List.take_left' (by rw [List.length_map]; exact hlk)]))
        have CK1 := Lib.hid (show CkAt W1 w.heap.size S1 (Value.ownBlock (.slice a cs.length cc)) ((some ⟨wr.heap.size, 0, none⟩, k, size), ee) (P, ee) from ⟨rfl, SL1.out, fun b o e => by injection e with e; injection e with e; subst e; exact ⟨hwz, hgp1, NGP.out, NOW.out⟩⟩)
        have v1 : decide ((k : Int) < 0) = false := decide_eq_false (by omega)
        have v2 : decide ((k : Int) > (size : Int)) = false := decide_eq_false (by omega)
        have v2' : decide (size < k) = false := decide_eq_false (by omega)
        have r1 : IntKind.i64.wrap ((gv : Int) + 1) = (gv : Int) + 1 := IntWalk.i64_in _ (by omega)
        have hmuL := R.muL s size
        have hmuE := R.muE s size
        have hcS := R.cntS s size
        clear hP hlk hlayN hlayE hbad hnb R1 SL1
        by_cases hmv : 0 < k ∨ ee ≠ 0
        · rcases Nat.eq_zero_or_pos k with hk0 | hk0
          case' inl =>
            have hene : ee ≠ 0 := by rcases hmv with h | h; (omega); (exact h)
            have u4 : decide ((k : Int) > 0) = false := decide_eq_false (by omega)
            have u4' : decide (0 < k) = false := decide_eq_false (by omega)
            have u5 : (ee != 0) = true := by rw [bne_iff_ne]; exact hene
            have HKE := Lib.hid (show 0 < k ∨ ee ≠ 0 from .inr hene)
            clear hmv hk0 hene
            go_upto_region 11 with (fail)
            clear u5
          case' inr =>
            have u4 : decide ((k : Int) > 0) = true := decide_eq_true (by omega)
            have u4' : decide (0 < k) = true := decide_eq_true hk0
            have HKE := Lib.hid (show 0 < k ∨ ee ≠ 0 from .inl hk0)
            clear hmv hk0
            go_upto_region 11 with (fail)
          all_goals
            by_cases he0 : ee = 0
            · have u3 : (ee != 0) = false := by rw [bne_eq_false_iff_eq]; exact he0
              have hk0 : 0 < k := by
                rcases HKE.out with h | h
                · exact h
                · exact absurd he0 h
              have XE := Lib.hid (show ∃ L', chk R size F (R.nxt s size) 0 (lim - (cs ++ [(P, ee)]).length) = (L', X.2) ∧ (cs ++ [(P, ee)]) ++ L' = X.1 by
                have := EQ.out
                rw [chk_go HNL.out NB.out (by rw [HZ.out]; omega) (by rw [HEE.out]; exact he0), LTK.out] at this
                simp only [Prod.mk.injEq] at this
                obtain ⟨e1, e2⟩ := this
                rw [List.length_append, List.length_singleton, show lim - (cs.length + 1) = lim - cs.length - 1 by omega]
                exact ⟨_, Prod.ext rfl e2, by rw [← XL.out, ← e1, he0, List.append_assoc]; rfl⟩)
              have hmu := hmuL (by rw [HEE.out]; exact he0) (by rw [HZ.out]; omega) (by rw [HZ.out]; omega)
              have hfl := HFL.out
              clear he0
              go_wp2_with (at_builtin; refine wpList_appT eltTC rfl (.tmp 53) (.tmp 59) rfl w.heap.size _ vs (by rfl) (HO1.out.alloc _) _ 1 1 [((some ⟨wr.heap.size, 0, none⟩, k, size), ee)] (by rfl) (slT_one W1 ((some ⟨wr.heap.size, 0, none⟩, k, size), ee)) (by rw [VL.out]; unfold maxLen; omega) (by rw [VL.out]; omega) (by simp; omega) _ rfl ?_; intro v9 w9 h9 hg9 hv9 hb9; have FM := Lib.hid (M1.out.app RD VL.out V31.out V41.out hlo LT1.out _ CK1.out h9 hg9 hv9); clear h9 hg9 hv9 hb9)
              go_roundg F
              case measure => omega
              case rel =>
                obtain ⟨L', x1, x2⟩ := XE.out
                exact ⟨R.nxt s size, S1, 0, cs ++ [(P, ee)], L', rfl, FM.out, x1, x2, by rw [List.length_append, List.length_singleton]; omega, by omega, by omega, by have := HCB.out; omega⟩
            · have u3 : (ee != 0) = true := by rw [bne_iff_ne]; exact he0
              have XE := Lib.hid (show X = (cs ++ [(P, ee)], R.nxt s size) by
                have := EQ.out
                rw [chk_end HNL.out NB.out (by rw [HEE.out]; exact he0), LTK.out, HEE.out] at this
                simp only [Prod.mk.injEq] at this
                obtain ⟨e1, e2⟩ := this
                exact Prod.ext (by rw [← XL.out, ← e1]) e2.symm)
              clear he0
              go_wp2_with (at_builtin; refine wpList_appT eltTC rfl (.tmp 53) (.tmp 59) rfl w.heap.size _ vs (by rfl) (HO1.out.alloc _) _ 1 1 [((some ⟨wr.heap.size, 0, none⟩, k, size), ee)] (by rfl) (slT_one W1 ((some ⟨wr.heap.size, 0, none⟩, k, size), ee)) (by rw [VL.out]; unfold maxLen; omega) (by rw [VL.out]; omega) (by simp; omega) _ rfl ?_; intro v9 w9 h9 hg9 hv9 hb9; have FM := Lib.hid (M1.out.app RD VL.out V31.out V41.out hlo LT1.out _ CK1.out h9 hg9 hv9); clear h9 hg9 hv9 hb9)
              go_ret
              exact FM.out.fin XE.out
        · obtain rfl : k = 0 := by omega
          obtain rfl : ee = 0 := by
            by_cases h : ee = 0
            · exact h
            · exact absurd (.inr h) hmv
          have NM := Lib.hid (show ¬ (0 < R.num s size ∨ R.er s size ≠ 0) from fun h => by
            rw [HZ.out, HEE.out] at h
            rcases h with h | h
            · omega
            · exact h rfl)
          have hmu := hmuE HEE.out
          have hfl := HFL.out
          clear hmv
          by_cases h16 : gv + 1 = 16
          · have u3 : ((gv : Int) + 1 == 16) = true := by rw [beq_iff_eq]; omega
            have u3' : (gv + 1 == 16) = true := by rw [beq_iff_eq]; exact h16
            have XE := Lib.hid (show X = (cs ++ [([], 33)], R.nxt s size) by
              have := EQ.out
              rw [chk_idle HNL.out NB.out NM.out h16] at this
              simp only [Prod.mk.injEq] at this
              obtain ⟨e1, e2⟩ := this
              exact Prod.ext (by rw [← XL.out, ← e1]) e2.symm)
            clear h16
            go_wp2_with (at_builtin; refine wpList_appT eltTC rfl (.tmp 68) (.tmp 70) rfl w.heap.size _ vs (by rfl) (HO1.out.alloc _) _ 1 1 [((none, 0, 0), 33)] (by rfl) (slT_one W1 ((none, 0, 0), 33)) (by rw [VL.out]; unfold maxLen; omega) (by rw [VL.out]; omega) (by simp; omega) _ rfl ?_; intro v9 w9 h9 hg9 hv9 hb9; have FM := Lib.hid (M1.out.app RD VL.out V31.out V41.out hlo LT1.out _ (x := ((none, 0, 0), 33)) (c := ([], 33)) ⟨rfl, Sl.nil _ _, fun b o e => by cases e⟩ h9 hg9 hv9); clear h9 hg9 hv9 hb9)
            go_ret
            exact FM.out.fin XE.out
          · have u3 : ((gv : Int) + 1 == 16) = false := by rw [beq_eq_false_iff_ne]; omega
            have u3' : (gv + 1 == 16) = false := by rw [beq_eq_false_iff_ne]; exact h16
            have XE := Lib.hid (show chk R size F (R.nxt s size) (gv + 1) (lim - cs.length) = (L, X.2) by rw [← EQ.out, chk_wait HNL.out NB.out NM.out h16])
            go_wp2_with fail
            go_roundg F
            case measure => omega
            case rel => exact ⟨R.nxt s size, S1, gv + 1, cs, L, by go_num, M1.out, XE.out, XL.out, hcl, by omega, by omega, by have := HCB.out; omega⟩
    · have t0 : decide ((cs.length : Int) < (lim : Int)) = false := decide_eq_false (by omega)
      have t0' : decide (cs.length < lim) = false := decide_eq_false hlt
      have XE := Lib.hid (show X = (cs, s) by
        have := EQ.out
        rw [show lim - cs.length = 0 by omega, chk_lim] at this
        simp only [Prod.mk.injEq] at this
        obtain ⟨e1, e2⟩ := this
        exact Prod.ext (by rw [← XL.out, ← e1, List.append_nil]) e2.symm)
      go_wp2_with fail
      go_ret
      exact M.out.fin XE.out
end
end Go.Proofs.Ytjkgncogpefnbaa

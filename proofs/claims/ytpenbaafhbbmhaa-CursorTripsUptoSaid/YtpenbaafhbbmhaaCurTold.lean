/- The program's Out and the document's side by side; told: contract. Conditions: numbers and what is laid within reach. -/
import Derived.Test.YtpenbaafhbbmhaaCurROut
import Derived.Test.YtpenbaafhbbmhaaHelpS
import Derived.Deep.CutBlock
namespace Go.Proofs.Ytpenbaafhbbmhaa
open Go.RowKit Go.Shelf
set_option maxRecDepth 100000
set_option linter.unusedVariables false
set_option linter.unusedSimpArgs false

def tellM {τ : Type} (V : Wm τ) (kind : Int) (xs : List UInt8) (c : COut τ) : COut τ :=
  if kind = 0 then layM xs c else if kind = 1 then (pushM V c).2.2 else if kind = 2 then flushM V c else c
section
variable {τ : Type} {V : Wm τ} {kind : Int} {xs : List UInt8} {c : COut τ}
theorem tellM_0 : tellM V 0 xs c = layM xs c := by unfold tellM; rw [if_pos rfl]
theorem tellM_1 : tellM V 1 xs c = (pushM V c).2.2 := by unfold tellM; rw [if_neg (by decide), if_pos rfl]
theorem tellM_2 : tellM V 2 xs c = flushM V c := by unfold tellM; rw [if_neg (by decide), if_neg (by decide), if_pos rfl]
theorem tellM_no (h0 : kind ≠ 0) (h1 : kind ≠ 1) (h2 : kind ≠ 2) : tellM V kind xs c = c := by unfold tellM; rw [if_neg h0, if_neg h1, if_neg h2]
theorem OOk.tell {M Bd : Nat} (h : OOk V M Bd c) : OOk V (M + xs.length) (Bd + (M * 17 + 17)) (tellM V kind xs c) := by
  unfold tellM
  split
  · exact (h.lay xs).mono (Nat.le_refl _) (by omega)
  split
  · exact h.push.mono (by omega) (by omega)
  split
  · exact h.flush.mono (by omega) (Nat.le_refl _)
  · exact h.mono (by omega) (by omega)
end
/-- both Outs in memory -/
structure ODuo {τ : Type} (St St2 : τ → (Nat → Prop) → World → Prop) (lo g : Nat) (wv : Value) (g2 : Nat) (v2 : Value) (c : COut τ) (S Sd : Nat → Prop) (w : World) : Prop where
  p : OObj (OutB g wv) St lo g c S w
  r : OObj (ROutB g2 v2) St2 lo g2 c Sd w
  dis : ∀ j, S j → ¬ Sd j
def ODAns {τ : Type} (St St2 : τ → (Nat → Prop) → World → Prop) (lo g : Nat) (wv : Value) (g2 : Nat) (v2 : Value) (S Sd : Nat → Prop) (w : World) (c' : COut τ) (w' : World) : Prop :=
  ∃ S' Sd', ODuo St St2 lo g wv g2 v2 c' S' Sd' w' ∧ (∀ j, S' j → S j ∨ w.heap.size ≤ j) ∧ (∀ j, Sd' j → Sd j ∨ w.heap.size ≤ j) ∧ Turns (fun j => S j ∨ Sd j) w w'
section
variable {τ : Type} {St St2 : τ → (Nat → Prop) → World → Prop} {lo g g2 : Nat} {wv v2 : Value} {c c' : COut τ} {S Sd T : Nat → Prop} {w w1 w2 : World}
theorem ODuo.turns (F : Frm (OutB g wv) St lo g) (F2 : Frm (ROutB g2 v2) St2 lo g2) (h : ODuo St St2 lo g wv g2 v2 c S Sd w) (ht : Turns T w w1) (h1 : ∀ j, (S j ∨ Sd j) → ¬ T j) (h2 : ∀ j, T j → lo ≤ j) : ODuo St St2 lo g wv g2 v2 c S Sd w1 :=
  ⟨h.p.turns F ht (fun j hj => h1 j (.inl hj)) h2, h.r.turns F2 ht (fun j hj => h1 j (.inr hj)) h2, h.dis⟩
/-- the document's stands behind the program's answer -/
theorem ODuo.mid (F2 : Frm (ROutB g2 v2) St2 lo g2) (h : ODuo St St2 lo g wv g2 v2 c S Sd w) (ht : Turns S w w1) : OObj (ROutB g2 v2) St2 lo g2 c Sd w1 :=
  h.r.turns F2 ht (fun j hj e => h.dis j e hj) fun j e => (h.p.inS j e).1
theorem ODuo.ans (F : Frm (OutB g wv) St lo g) (h : ODuo St St2 lo g wv g2 v2 c S Sd w) (hA : OAns (OutB g wv) St lo g S w c' w1) (hB : OAns (ROutB g2 v2) St2 lo g2 Sd w1 c' w2) : ODAns St St2 lo g wv g2 v2 S Sd w c' w2 := by
  obtain ⟨S1, a1, a2, a3⟩ := hA
  obtain ⟨Sd1, b1, b2, b3⟩ := hB
  have hz := a3.size
  have hin := a1.inS
  have hd : ∀ j, S1 j → ¬ Sd j := fun j hj e => by
    rcases a2 j hj with q | q
    · exact h.dis j q e
    · have := (h.r.inS j e).2; omega
  refine ⟨S1, Sd1, ⟨a1.turns F b3 hd fun j e => (h.r.inS j e).1, b1, fun j hj e => ?_⟩, a2, fun j hj => ?_, (a3.mono (T := fun j => S j ∨ Sd j) fun j _ e => .inl e).trans b3 fun j _ e => .inr e⟩
  · rcases b2 j e with q | q
    · exact hd j hj q
    · have := (hin j hj).2; omega
  · rcases b2 j hj with q | q
    · exact .inl q
    · exact .inr (by omega)
theorem ODAns.base (hb : Below w.heap.size w w1) (h : ODAns St St2 lo g wv g2 v2 S Sd w1 c w2) : ODAns St St2 lo g wv g2 v2 S Sd w c w2 := by
  obtain ⟨S', Sd', k1, k2, k3, k4⟩ := h
  have hz := hb.size
  exact ⟨S', Sd', k1, fun j hj => by rcases k2 j hj with e | e; (exact .inl e); (exact .inr (by omega)), fun j hj => by rcases k3 j hj with e | e; (exact .inl e); (exact .inr (by omega)), (Turns.of_below (S := fun j => S j ∨ Sd j) hb).trans k4 fun _ _ e => e⟩
theorem ODAns.turns (F : Frm (OutB g wv) St lo g) (F2 : Frm (ROutB g2 v2) St2 lo g2) (h : ODAns St St2 lo g wv g2 v2 S Sd w c w1) (ht : Turns T w1 w2) (h1 : ∀ j, T j → lo ≤ j ∧ w.heap.size ≤ j)
    (h2 : ∀ S' Sd', (∀ j, S' j → S j ∨ w.heap.size ≤ j) → (∀ j, Sd' j → Sd j ∨ w.heap.size ≤ j) → ODuo St St2 lo g wv g2 v2 c S' Sd' w1 → ∀ j, (S' j ∨ Sd' j) → ¬ T j) : ODAns St St2 lo g wv g2 v2 S Sd w c w2 := by
  obtain ⟨S', Sd', k1, k2, k3, k4⟩ := h
  exact ⟨S', Sd', k1.turns F F2 ht (h2 S' Sd' k2 k3 k1) (fun j e => (h1 j e).1), k2, k3, k4.trans ht fun j hj e => by have := (h1 j e).2; omega⟩
end
set_option maxHeartbeats 8000000 in
theorem told_any {τ : Type} {V : Wm τ} {fn : FuncId} {v v2 : Value} {lo2 Bw Rmx bd lo Bw2 Rmx2 : Nat} {St St2 : τ → (Nat → Prop) → World → Prop} (WR : Writer V fn v lo2 Bw Rmx St bd) (T : TypeId)
    (hme : ∀ w, (method 249 T v "Write").run Try.prog w = .ok (fn, v) w) (hen : ∀ (args : Array Value) (W : World), (callFunc fn args).run Try.prog W = .ok (.enter fn args) W) (WL : WrtL V v2 lo Bw2 Rmx2 St2)
    (g g2 : Nat) (hbl : bd ≤ lo) (kind : Int) (ax : Option Addr) (nx cx : Nat) (xs : List UInt8) (c : COut τ) (S Sd : Nat → Prop) (w : World) (M Bd : Nat) (hK : OOk V M Bd c) (hD : ODuo St St2 lo g (.iface T v) g2 v2 c S Sd w) (hx : Sl Bf w ax nx cx xs)
    (hlw : lo ≤ w.heap.size) (hxb : ∀ b o, ax = some ⟨b, o, none⟩ → 0 < nx → ¬ S b ∧ ¬ Sd b) (hM : M + nx ≤ 1099511627776) (hMr : M ≤ Rmx ∧ M ≤ Rmx2) (hB : Bd + (M * 17 + 17) < Bw ∧ Bd + (M * 17 + 17) < Bw2) :
    Calls Try.prog 23 #[.pointer (some ⟨g, 0, none⟩), .pointer (some ⟨g2, 0, none⟩), .agg #[.int .i64 kind, .slice ax nx cx]] w fun r w' => r = .returned (.bool true) ∧ ODAns St St2 lo g (.iface T v) g2 v2 S Sd w (tellM V kind xs c) w' := by
  obtain ⟨c9, hc9⟩ : ∃ c9, tellM V kind xs c = c9 := ⟨_, rfl⟩
  have HC9 := Lib.hid hc9
  rw [hc9]
  clear hc9
  have F := out_frm WR T g hbl
  have F2 := rout_frm WL g2
  obtain ⟨gb, hgb⟩ : ∃ gb, w.heap.size = gb := ⟨_, rfl⟩
  have hb1 : Below w.heap.size w (w.alloc (.cells #[.int .i64 kind, .slice ax nx cx] 74)) := (Below.refl _ _).alloc (Nat.le_refl _) _
  have x1 : (w.alloc (.cells #[.int .i64 kind, .slice ax nx cx] 74)).heap[gb]? = some (.cells #[.int .i64 kind, .slice ax nx cx] 74 (0, 0)) := by rw [← hgb]; exact heap_new w _
  have D1 := Lib.hid (hD.turns F F2 (T := fun _ => False) (.of_below hb1) (fun _ _ e => e) (fun _ e => e.elim))
  have NGB := Lib.hid (show ¬ S gb ∧ ¬ Sd gb from ⟨fun h => by have := (hD.p.inS _ h).2; omega, fun h => by have := (hD.r.inS _ h).2; omega⟩)
  have B1 := Lib.hid hb1
  have X1 := Lib.hid x1
  have HGB := Lib.hid hgb
  have HXS := Lib.hid (hx.keep hb1)
  have HXB := Lib.hid hxb
  have hnx : xs.length = nx := hx.len
  have HNX := Lib.hid hnx
  have HK := Lib.hid hK
  have hz1 : (w.alloc (.cells #[.int .i64 kind, .slice ax nx cx] 74)).heap.size = gb + 1 := by simp [hgb]
  have HLW := Lib.hid (show lo ≤ gb by omega)
  have HZ1 := Lib.hid hz1
  clear hD hb1 x1 hgb hx hxb hnx hK hlw hz1
  go_enter Try.func23, Try.ntmps23
  go_upto_block 0 with (fail)
  rw [HGB.out]
  generalize w.alloc (.cells #[.int .i64 kind, .slice ax nx cx] 74) = w1 at *
  have k0 := cell_of X1.out 0 rfl
  have k1 := cell_of X1.out 1 rfl
  go_cut [7] (fun v7 wx => v7 = .bool true ∧ ODAns St St2 lo g (.iface T v) g2 v2 S Sd w c9 wx)
  case first =>
    by_cases h0 : kind = 0
    · subst h0
      have HE := Lib.hid (show c9 = layM xs c by rw [← HC9.out, tellM_0])
      have hgl : gb < w1.heap.size := by have := HZ1.out; omega
      have hgn : gb ≠ w1.heap.size := by omega
      go_upto_region 5 with (at_builtin; go_must (refine wpList_appT eltTB rfl (.tmp 21) (.tmp 23) rfl w1.heap.size _ [] (by rfl) (OwT.lit fB _ w1.heap.size _ #[] [] 0 rfl rfl (Nat.le_refl _) (Nat.zero_le _)) ax nx cx xs (by rfl) (HXS.out.keep ((Below.refl _ _).alloc (Nat.le_refl _) _)).toT (by unfold maxLen; simp; omega) (by simp; omega) (by simp) xs rfl ?_; intro v9 w9 h9 hg9 hv9 hb9; obtain ⟨a9, n9, c9', rfl, z9⟩ := h9.slN; have O9 := Lib.hid h9; have B9 := Lib.hid (show Below w1.heap.size w1 w9 from ((Below.refl w1.heap.size w1).alloc (Nat.le_refl _) (.cells #[] 5)).trans hb9); have Z9 := Lib.hid z9; clear h9 hg9 hv9 hb9 z9))
      have hn9 : n9 = nx := by have := Z9.out.len; have := HNX.out; omega
      have HN9 := Lib.hid hn9
      have D9 := Lib.hid (D1.out.turns F F2 (T := fun _ => False) (.of_below B9.out) (fun _ _ e => e) (fun _ e => e.elim))
      have hlen := HK.out.len
      have LY := Lib.hid (olay_any T g F c S w9 a9 n9 c9' xs D9.out.p Z9.out (by omega))
      have hol := O9.out.lt
      have HOL := Lib.hid hol
      clear hn9 hol
      go_wp2_with fail
      refine LY.out.mono ?_
      rintro r w10 ⟨rfl, hA⟩
      have A10 := Lib.hid hA
      have T10 := Lib.hid (show Turns S w9 w10 by obtain ⟨_, _, _, h⟩ := hA; exact h)
      have NS := Lib.hid (show ∀ j, Value.ownBlock (.slice a9 n9 c9') = some j → ¬ S j ∧ ¬ Sd j from fun j hj => ⟨fun h => by have := (D1.out.p.inS j h).2; have := (HOL.out j hj).1; omega, fun h => by have := (D1.out.r.inS j h).2; have := (HOL.out j hj).1; omega⟩)
      have O10 := Lib.hid (O9.out.turns T10.out fun j hj => (NS.out j hj).1)
      have k1' := cell_of (T10.out.heap ((B9.out.block gb (by have := HZ1.out; omega)).trans X1.out) NGB.out.1) 1 rfl
      have XS10 := Lib.hid ((HXS.out.keep B9.out).turns T10.out fun b o e hn => (HXB.out b o e hn).1)
      have hcap := O10.out.capB
      have hnle := XS10.out.le
      have SM := Lib.hid (same_any a9 n9 c9' xs ax nx cx xs w10 (by omega) (by omega) O10.out.slI XS10.out)
      rw [decide_eq_true rfl] at SM
      have hc9 : c9' ≤ 9223372036854775807 := hcap.2.2
      clear hA hcap LY
      go_wp2_with fail
      refine SM.out.mono ?_
      rintro r w11 ⟨rfl, hb11⟩
      have B11 := Lib.hid hb11
      have A11 := Lib.hid (A10.out.keep F hb11)
      have T11 := Lib.hid (T10.out.trans_below hb11)
      have k1'' := (World.cell?_of_block (a := ⟨gb, 1, none⟩) (hb11.block gb (by have := T10.out.size; have := B9.out.size; have := HZ1.out; show gb < _; omega))).trans k1'
      have RL := Lib.hid (rolay_any g2 F2 c Sd w11 ax nx cx xs (D9.out.mid F2 T11.out) (XS10.out.keep hb11) (by omega))
      clear hb11 SM k1'
      go_wp2_with fail
      refine RL.out.mono ?_
      rintro r w12 ⟨rfl, hB⟩
      have T12 := Lib.hid (show Turns Sd w11 w12 by obtain ⟨_, _, _, h⟩ := hB; exact h)
      obtain ⟨S', Sd', q1, q2, q3, q4⟩ := D9.out.ans F A11.out hB
      have Q1 := Lib.hid q1
      have Q2 := Lib.hid q2
      have Q3 := Lib.hid q3
      have Q4 := Lib.hid q4
      have SF := Lib.hid (((O10.out.keep B11.out).turns T12.out fun j hj => (NS.out j hj).2)).soft
      have t5 : (c.er == c.er) = true := by simp
      clear hB q1 q2 q3 q4 RL
      go_wp2_with fail
      refine (spoil_any a9 n9 c9' w12 hc9 SF.out).mono ?_
      rintro r w13 ⟨rfl, hg13⟩
      have T13 := Turns.of_grown (S := fun j => Value.ownBlock (.slice a9 n9 c9') = some j) hg13 fun j e => by rw [own_map]; exact e
      have hz9 : w.heap.size ≤ w9.heap.size := by have := B9.out.size; have := HGB.out; have := HZ1.out; omega
      have hz91 := HZ1.out
      have FIN := Lib.hid (show ODAns St St2 lo g (.iface T v) g2 v2 S Sd w (layM xs c) w13 from
        ⟨S', Sd', Q1.out.turns F F2 T13 (fun j hj e => by
            have h1 := HOL.out j e
            have h2 := NS.out j e
            rcases hj with hj | hj
            · rcases Q2.out j hj with q | q
              · exact h2.1 q
              · omega
            · rcases Q3.out j hj with q | q
              · exact h2.2 q
              · omega) (fun j e => by have := (HOL.out j e).1; have := HLW.out; omega),
          fun j hj => by rcases Q2.out j hj with q | q; (exact .inl q); (exact .inr (by omega)), fun j hj => by rcases Q3.out j hj with q | q; (exact .inl q); (exact .inr (by omega)),
          (((Turns.of_below (S := fun j => S j ∨ Sd j) B1.out).trans_below B9.out).trans Q4.out fun _ _ e => e).trans T13 fun j hj e => by have := (HOL.out j e).1; have := HGB.out; omega⟩)
      clear hg13 T13
      go_wp2_with fail
      go_meet
      exact ⟨rfl, by rw [HE.out]; exact FIN.out⟩
    have t0 : (kind == 0) = false := by rw [beq_eq_false_iff_ne]; exact h0
    by_cases h1 : kind = 1
    · subst h1
      have OP := Lib.hid (opush_any WR T hme hen g hbl c S w1 M Bd HK.out D1.out.p (by omega) hMr.1 (by omega))
      have RP := Lib.hid (fun (W : World) (hW : OObj (ROutB g2 v2) St2 lo g2 c Sd W) => ropush_any WL g2 c Sd W M Bd HK.out hW (by omega) hMr.2 (by omega))
      have HE := Lib.hid (show c9 = (pushM V c).2.2 by rw [← HC9.out, tellM_1])
      go_wp2_with fail
      refine OP.out.mono ?_
      rintro r w2 ⟨rfl, hA⟩
      have A := Lib.hid hA
      have RQ := Lib.hid (RP.out w2 (D1.out.mid F2 (by obtain ⟨_, _, _, h⟩ := hA; exact h)))
      clear hA OP RP
      go_wp2_with fail
      refine RQ.out.mono ?_
      rintro r w3 ⟨rfl, hB⟩
      have FIN := Lib.hid ((D1.out.ans F A.out hB).base B1.out)
      have u1 : (((pushM V c).1 : Int) == ((pushM V c).1 : Int)) = true := by simp
      have u2 : ((pushM V c).2.1 == (pushM V c).2.1) = true := by simp
      clear hB RQ
      go_wp2_with fail
      go_meet
      exact ⟨rfl, by rw [HE.out]; exact FIN.out⟩
    have t1 : (kind == 1) = false := by rw [beq_eq_false_iff_ne]; exact h1
    by_cases h2 : kind = 2
    · subst h2
      have OP := Lib.hid (oflush_any WR T hme hen g hbl c S w1 M Bd HK.out D1.out.p (by omega) hMr.1 (by omega))
      have RP := Lib.hid (fun (W : World) (hW : OObj (ROutB g2 v2) St2 lo g2 c Sd W) => roflush_any WL g2 c Sd W M Bd HK.out hW (by omega) hMr.2 (by omega))
      have HE := Lib.hid (show c9 = flushM V c by rw [← HC9.out, tellM_2])
      go_wp2_with fail
      refine OP.out.mono ?_
      rintro r w2 ⟨rfl, hA⟩
      have A := Lib.hid hA
      have RQ := Lib.hid (RP.out w2 (D1.out.mid F2 (by obtain ⟨_, _, _, h⟩ := hA; exact h)))
      clear hA OP RP
      go_wp2_with fail
      refine RQ.out.mono ?_
      rintro r w3 ⟨rfl, hB⟩
      have FIN := Lib.hid ((D1.out.ans F A.out hB).base B1.out)
      have u2 : ((flushM V c).er == (flushM V c).er) = true := by simp
      clear hB RQ
      go_wp2_with fail
      go_meet
      exact ⟨rfl, by rw [HE.out]; exact FIN.out⟩
    have t2 : (kind == 2) = false := by rw [beq_eq_false_iff_ne]; exact h2
    have HE := Lib.hid (show c9 = c by rw [← HC9.out]; exact tellM_no h0 h1 h2)
    have FIN := Lib.hid ((show ODAns St St2 lo g (.iface T v) g2 v2 S Sd w1 c w1 from ⟨S, Sd, D1.out, fun j h => .inl h, fun j h => .inl h, .refl _ _⟩).base B1.out)
    clear h0 h1 h2
    go_wp2_with fail
    go_meet
    exact ⟨rfl, by rw [HE.out]; exact FIN.out⟩
  case rest =>
    obtain ⟨w5, rfl⟩ : ∃ w6, w6 = wc := ⟨_, rfl⟩
    obtain ⟨rfl, hans⟩ := hcut
    have ANS := Lib.hid hans
    obtain ⟨S', Sd', hD, -, -, -⟩ := hans
    have CL := Lib.hid (oleft_any g (.iface T v) c9 S' w5 hD.p)
    obtain ⟨Sp, qp, hP⟩ := hD.p
    have CA := Lib.hid (oat_any g _ _ _ _ _ w5 hP.io)
    have CE := Lib.hid (oerr_any g _ _ _ _ _ w5 hP.io)
    obtain ⟨Sr, qv, hR⟩ := hD.r
    have d1 := hR.io.c1
    have d2 := hR.io.c2
    have d3 := hR.io.c3
    obtain ⟨aq, cq, rfl, -⟩ := hR.q.sl
    clear hD hR hP k0 k1 D1 HK
    go_wp2_with fail
    refine CL.out.mono ?_
    rintro r w6 ⟨rfl, rfl⟩
    go_wp2_with fail
    refine CA.out.mono ?_
    rintro r w6 ⟨rfl, rfl⟩
    go_wp2_with fail
    refine CE.out.mono ?_
    rintro r w6 ⟨rfl, rfl⟩
    have t1 : ((c9.pl : Int) == (c9.pl : Int)) = true := by simp
    have t2 : (c9.er == c9.er) = true := by simp
    have t3 : ((c9.q.length : Int) == (c9.q.length : Int)) = true := by simp
    go_wp2_with fail
    go_ret
    exact ⟨rfl, ANS.out⟩
end Go.Proofs.Ytpenbaafhbbmhaa

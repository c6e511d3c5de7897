/- An Out over a writer of any make, in memory: frames; what its answers leave: plain laws. No condition. -/
import Derived.Test.YtpenbaafhbbmhaaCurM2
import Derived.Test.YtpenbaafhbbmhaaQueue
namespace Go.Proofs.Ytpenbaafhbbmhaa
open Go.RowKit
set_option linter.unusedVariables false

/-- an Out in memory: its own block g, as B says; its writer; its queue; its blocks are S -/
structure OIn {τ : Type} (B : World → Nat → Int → Nat → Value → Prop) (St : τ → (Nat → Prop) → World → Prop) (lo g : Nat) (c : COut τ) (S Sr : Nat → Prop) (qv : Value) (w : World) : Prop where
  io : B w c.pl c.er c.idle qv
  q : QuB w lo qv c.q
  st : St c.t Sr w
  sr : ∀ j, Sr j → S j
  sg : S g
  ng : ¬ Sr g
  hq : ∀ j, qv.ownBlock = some j → S j ∧ ¬ Sr j ∧ j ≠ g
  inS : ∀ j, S j → lo ≤ j ∧ j < w.heap.size
/-- what such a block and such a writer bear -/
structure Frm {τ : Type} (B : World → Nat → Int → Nat → Value → Prop) (St : τ → (Nat → Prop) → World → Prop) (lo g : Nat) : Prop where
  b : ∀ T w w' pl er i qv, B w pl er i qv → Turns T w w' → ¬ T g → B w' pl er i qv
  st : ∀ s S T w w', St s S w → Turns T w w' → (∀ j, S j → ¬ T j) → (∀ j, T j → lo ≤ j) → St s S w'
def OObj {τ : Type} (B : World → Nat → Int → Nat → Value → Prop) (St : τ → (Nat → Prop) → World → Prop) (lo g : Nat) (c : COut τ) (S : Nat → Prop) (w : World) : Prop := ∃ Sr qv, OIn B St lo g c S Sr qv w
def OAns {τ : Type} (B : World → Nat → Int → Nat → Value → Prop) (St : τ → (Nat → Prop) → World → Prop) (lo g : Nat) (S : Nat → Prop) (w : World) (c' : COut τ) (w' : World) : Prop :=
  ∃ S', OObj B St lo g c' S' w' ∧ (∀ j, S' j → S j ∨ w.heap.size ≤ j) ∧ Turns S w w'
section
variable {τ : Type} {B : World → Nat → Int → Nat → Value → Prop} {St : τ → (Nat → Prop) → World → Prop} {lo g : Nat} {c c2 c3 : COut τ} {S Sr T : Nat → Prop} {qv : Value} {w w1 w2 : World}
theorem OIn.turns (F : Frm B St lo g) (h : OIn B St lo g c S Sr qv w) (ht : Turns T w w1) (hd : ∀ j, S j → ¬ T j) (hl : ∀ j, T j → lo ≤ j) : OIn B St lo g c S Sr qv w1 where
  io := F.b _ _ _ _ _ _ _ h.io ht (hd g h.sg)
  q := h.q.turns ht fun j hj => hd j (h.hq j hj).1
  st := F.st _ _ _ _ _ h.st ht (fun j hj => hd j (h.sr j hj)) hl
  sr := h.sr
  sg := h.sg
  ng := h.ng
  hq := h.hq
  inS j hj := ⟨(h.inS j hj).1, Nat.lt_of_lt_of_le (h.inS j hj).2 ht.size⟩
theorem OObj.turns (F : Frm B St lo g) (h : OObj B St lo g c S w) (ht : Turns T w w1) (hd : ∀ j, S j → ¬ T j) (hl : ∀ j, T j → lo ≤ j) : OObj B St lo g c S w1 := by
  obtain ⟨Sr, qv, h⟩ := h
  exact ⟨Sr, qv, h.turns F ht hd hl⟩
theorem OObj.keep (F : Frm B St lo g) (h : OObj B St lo g c S w) (hb : Below w.heap.size w w1) : OObj B St lo g c S w1 := h.turns F (T := fun _ => False) (.of_below hb) (fun _ _ e => e) (fun _ e => e.elim)
theorem OObj.inS (h : OObj B St lo g c S w) : ∀ j, S j → lo ≤ j ∧ j < w.heap.size := by
  obtain ⟨Sr, qv, h⟩ := h
  exact h.inS
theorem OAns.same (F : Frm B St lo g) (h : OObj B St lo g c S w) (hb : Below w.heap.size w w1) : OAns B St lo g S w c w1 := ⟨S, h.keep F hb, fun j hj => .inl hj, .of_below hb⟩
theorem OAns.step (h : OAns B St lo g S w c2 w1) (k : ∀ S2, OObj B St lo g c2 S2 w1 → OAns B St lo g S2 w1 c3 w2) : OAns B St lo g S w c3 w2 := by
  obtain ⟨S2, h1, h2, h3⟩ := h
  obtain ⟨S3, k1, k2, k3⟩ := k S2 h1
  refine ⟨S3, k1, fun j hj => ?_, h3.trans k3 fun j hj e => ?_⟩
  · rcases k2 j hj with e | e
    · exact h2 j e
    · exact .inr (Nat.le_trans h3.size e)
  · rcases h2 j e with q | q
    · exact q
    · omega
theorem OAns.keep (F : Frm B St lo g) (h : OAns B St lo g S w c w1) (hb : Below w1.heap.size w1 w2) : OAns B St lo g S w c w2 := by
  obtain ⟨S2, h1, h2, h3⟩ := h
  exact ⟨S2, h1.keep F hb, h2, h3.trans_below hb⟩
theorem OAns.base (hb : Below w.heap.size w w1) (h : OAns B St lo g S w1 c w2) : OAns B St lo g S w c w2 := by
  obtain ⟨S2, h1, h2, h3⟩ := h
  exact ⟨S2, h1, fun j hj => by rcases h2 j hj with e | e; (exact .inl e); (exact .inr (Nat.le_trans hb.size e)), (Turns.of_below (S := S) hb).trans h3 fun _ _ e => e⟩
end
section
variable {τ : Type} {V : Wm τ} {c : COut τ}
theorem push_er (h : c.er ≠ 0) : pushM V c = (0, c.er, c) := by unfold pushM; rw [if_pos h]
theorem push_nil (h : c.er = 0) (hq : c.q = []) : pushM V c = (0, 0, c) := by unfold pushM; rw [if_neg (by simpa using h), if_pos hq]
variable {p : List UInt8} {z e : Int} {k : Nat}
theorem push_bad (h : c.er = 0) (hq : c.q ≠ []) (hp : c.q.take 4096 = p) (hb : V.num c.t p < 0 ∨ (p.length : Int) < V.num c.t p) : pushM V c = (0, 34, { c with t := V.nxt c.t p, er := 34 }) := by
  subst hp; unfold pushM; rw [if_neg (by simpa using h), if_neg hq, if_pos hb]
theorem push_err (h : c.er = 0) (hq : c.q ≠ []) (hp : c.q.take 4096 = p) (hz : V.num c.t p = (k : Nat)) (hk : k ≤ p.length) (he : V.er c.t p = e) (h0 : e ≠ 0) : pushM V c = (k, e, ⟨V.nxt c.t p, c.q.drop k, c.pl + k, e, c.idle⟩) := by
  subst hp; unfold pushM; rw [if_neg (by simpa using h), if_neg hq, hz, he, if_neg (by omega), if_pos h0, Int.toNat_natCast]
theorem push_idle (h : c.er = 0) (hq : c.q ≠ []) (hp : c.q.take 4096 = p) (hz : V.num c.t p = (k : Nat)) (hk : k ≤ p.length) (he : V.er c.t p = 0) (hi : waitN c.idle (decide (0 < k)) = 16) : pushM V c = (k, 33, ⟨V.nxt c.t p, c.q.drop k, c.pl + k, 33, 16⟩) := by
  subst hp; unfold pushM; rw [if_neg (by simpa using h), if_neg hq, hz, he, if_neg (by omega), if_neg (by simp), if_pos (by rw [show decide (0 < ((k : Nat) : Int)) = decide (0 < k) by simp]; exact hi), Int.toNat_natCast]
theorem push_go (h : c.er = 0) (hq : c.q ≠ []) (hp : c.q.take 4096 = p) (hz : V.num c.t p = (k : Nat)) (hk : k ≤ p.length) (he : V.er c.t p = 0) (hi : waitN c.idle (decide (0 < k)) ≠ 16) : pushM V c = (k, 0, ⟨V.nxt c.t p, c.q.drop k, c.pl + k, 0, waitN c.idle (decide (0 < k))⟩) := by
  subst hp; unfold pushM
  rw [if_neg (by simpa using h), if_neg hq, hz, he, if_neg (by omega), if_neg (by simp), show decide (0 < ((k : Nat) : Int)) = decide (0 < k) by simp, if_neg hi, Int.toNat_natCast]
/-- an Out that stands rightly: M bytes at most, Bd calls -/
structure OOk (V : Wm τ) (M Bd : Nat) (c : COut τ) : Prop where
  id : c.er = 0 → c.idle ≤ 15
  id2 : c.idle ≤ 16
  len : c.q.length + c.pl ≤ M
  room : c.er = 0 → V.room c.t + c.q.length ≤ M
  cnt : V.cnt c.t ≤ Bd
theorem OOk.mono {M M' Bd Bd' : Nat} (h : OOk V M Bd c) (hm : M ≤ M') (hb : Bd ≤ Bd') : OOk V M' Bd' c := ⟨h.id, h.id2, Nat.le_trans h.len hm, fun e => Nat.le_trans (h.room e) hm, Nat.le_trans h.cnt hb⟩
theorem OOk.lay {M Bd : Nat} (h : OOk V M Bd c) (xs : List UInt8) : OOk V (M + xs.length) Bd (layM xs c) := by
  unfold layM
  split
  · rename_i he
    exact ⟨h.id, h.id2, by have := h.len; show (c.q ++ xs).length + c.pl ≤ _; rw [List.length_append]; omega, fun e => by have := h.room e; show V.room c.t + (c.q ++ xs).length ≤ _; rw [List.length_append]; omega, h.cnt⟩
  · exact h.mono (by omega) (Nat.le_refl _)
theorem OOk.push {M Bd : Nat} (h : OOk V M Bd c) : OOk V M (Bd + 1) (pushM V c).2.2 := by
  by_cases he : c.er ≠ 0
  · rw [push_er he]; exact h.mono (Nat.le_refl _) (by omega)
  have he : c.er = 0 := by simpa using he
  by_cases hq : c.q = []
  · rw [push_nil he hq]; exact h.mono (Nat.le_refl _) (by omega)
  obtain ⟨p, hp⟩ : ∃ p, c.q.take 4096 = p := ⟨_, rfl⟩
  have hc := V.cntS c.t p
  have hb := h.cnt
  by_cases hbad : V.num c.t p < 0 ∨ (p.length : Int) < V.num c.t p
  · rw [push_bad he hq hp hbad]
    exact ⟨fun (e : (34 : Int) = 0) => absurd e (by decide), h.id2, h.len, fun (e : (34 : Int) = 0) => absurd e (by decide), by show V.cnt (V.nxt c.t p) ≤ _; omega⟩
  obtain ⟨k, hk⟩ : ∃ k : Nat, V.num c.t p = k := ⟨(V.num c.t p).toNat, by omega⟩
  have hkp : k ≤ p.length := by omega
  have hpq : p.length ≤ c.q.length := by rw [← hp, List.length_take]; omega
  have hrm := V.roomS c.t p (by omega) (by omega)
  rw [hk, Int.toNat_natCast] at hrm
  have hlen := h.len
  have hroom := h.room he
  have hid := h.id he
  have hw : waitN c.idle (decide (0 < k)) ≤ 16 := by unfold waitN; split <;> omega
  by_cases h0 : V.er c.t p = 0
  · by_cases h16 : waitN c.idle (decide (0 < k)) = 16
    · rw [push_idle he hq hp hk hkp h0 h16]
      exact ⟨fun (e : (33 : Int) = 0) => absurd e (by decide), Nat.le_refl _, by show (c.q.drop k).length + (c.pl + k) ≤ M; rw [List.length_drop]; omega, fun (e : (33 : Int) = 0) => absurd e (by decide), by show V.cnt (V.nxt c.t p) ≤ _; omega⟩
    · rw [push_go he hq hp hk hkp h0 h16]
      exact ⟨fun _ => by show waitN c.idle (decide (0 < k)) ≤ 15; omega, hw, by show (c.q.drop k).length + (c.pl + k) ≤ M; rw [List.length_drop]; omega, fun _ => by show V.room (V.nxt c.t p) + (c.q.drop k).length ≤ M; rw [List.length_drop]; omega, by show V.cnt (V.nxt c.t p) ≤ _; omega⟩
  · rw [push_err he hq hp hk hkp rfl h0]
    exact ⟨fun e => absurd e h0, h.id2, by show (c.q.drop k).length + (c.pl + k) ≤ M; rw [List.length_drop]; omega, fun e => absurd e h0, by show V.cnt (V.nxt c.t p) ≤ _; omega⟩
/-- a push moves something, or waits once more -/
theorem push_less (h : c.er = 0) (hq : c.q ≠ []) (hi : c.idle ≤ 15) (h2 : (pushM V c).2.2.er = 0) : (pushM V c).2.2.q.length * 17 + 16 - (pushM V c).2.2.idle < c.q.length * 17 + 16 - c.idle ∧ (pushM V c).2.2.idle ≤ 15 := by
  obtain ⟨p, hp⟩ : ∃ p, c.q.take 4096 = p := ⟨_, rfl⟩
  by_cases hbad : V.num c.t p < 0 ∨ (p.length : Int) < V.num c.t p
  · rw [push_bad h hq hp hbad] at h2
    exact absurd h2 (by show ¬ (34 : Int) = 0; decide)
  obtain ⟨k, hk⟩ : ∃ k : Nat, V.num c.t p = k := ⟨(V.num c.t p).toNat, by omega⟩
  have hkp : k ≤ p.length := by omega
  have hpq : p.length ≤ c.q.length := by rw [← hp, List.length_take]; omega
  by_cases h0 : V.er c.t p = 0
  · by_cases h16 : waitN c.idle (decide (0 < k)) = 16
    · rw [push_idle h hq hp hk hkp h0 h16] at h2
      exact absurd h2 (by show ¬ (33 : Int) = 0; decide)
    · rw [push_go h hq hp hk hkp h0 h16]
      show (c.q.drop k).length * 17 + 16 - waitN c.idle (decide (0 < k)) < _ ∧ waitN c.idle (decide (0 < k)) ≤ 15
      rw [List.length_drop]
      by_cases hk0 : 0 < k
      · rw [decide_eq_true hk0, waitN_move]; omega
      · rw [decide_eq_false hk0, waitN_idle] at h16 ⊢; omega
  · rw [push_err h hq hp hk hkp rfl h0] at h2
    exact absurd h2 h0
theorem flush_end {F : Nat} (h : c.q = [] ∨ c.er ≠ 0) : flushG V F c = c := by
  cases F with
  | zero => rfl
  | succ F => unfold flushG; rw [if_pos h]
theorem flush_go {F : Nat} (h1 : c.q ≠ []) (h2 : c.er = 0) : flushG V (F + 1) c = flushG V F (pushM V c).2.2 := by
  conv => lhs; unfold flushG
  rw [if_neg (fun e => by rcases e with e | e; (exact h1 e); (exact e h2))]
theorem OOk.flushG {M : Nat} : ∀ (F Bd : Nat) (c : COut τ), OOk V M Bd c → OOk V M (Bd + F) (flushG V F c)
  | 0, Bd, c, h => h
  | F + 1, Bd, c, h => by
    unfold Go.Proofs.Ytpenbaafhbbmhaa.flushG
    split
    · exact h.mono (Nat.le_refl _) (by omega)
    · exact (OOk.flushG F (Bd + 1) _ h.push).mono (Nat.le_refl _) (by omega)
theorem OOk.flush {M Bd : Nat} (h : OOk V M Bd c) : OOk V M (Bd + (M * 17 + 17)) (flushM V c) := (OOk.flushG (c.q.length * 17 + 17) Bd c h).mono (Nat.le_refl _) (by have := h.len; omega)
end
end Go.Proofs.Ytpenbaafhbbmhaa

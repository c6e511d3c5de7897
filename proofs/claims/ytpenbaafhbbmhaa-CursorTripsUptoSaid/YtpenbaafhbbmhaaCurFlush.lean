/- The program's Out: Flush: contract over any writer. Conditions: numbers and what is laid within reach. -/
import Derived.Test.YtpenbaafhbbmhaaCurPush
namespace Go.Proofs.Ytpenbaafhbbmhaa
open Go.RowKit Go.Shelf
set_option maxRecDepth 100000
set_option linter.unusedVariables false
set_option linter.unusedSimpArgs false

/-- in the midst of Flush -/
structure FlM {τ : Type} (V : Wm τ) (B : World → Nat → Int → Nat → Value → Prop) (St : τ → (Nat → Prop) → World → Prop) (lo g : Nat) (M Bd0 F0 : Nat) (X : COut τ) (S0 : Nat → Prop) (w : World) (F : Nat) (c : COut τ) (S : Nat → Prop) (W : World) : Prop where
  eq : flushG V F c = X
  ob : OObj B St lo g c S W
  sub : ∀ j, S j → S0 j ∨ w.heap.size ≤ j
  tu : Turns S0 w W
  ok : OOk V M (Bd0 + (F0 - F)) c
  fl : F ≤ F0 ∧ (c.q = [] ∨ c.er ≠ 0 ∨ c.q.length * 17 + 16 - c.idle < F)
section
variable {τ : Type} {V : Wm τ} {fn : FuncId} {v : Value} {lo2 Bw Rmx bd lo : Nat} {St : τ → (Nat → Prop) → World → Prop}
/-- behind Flush -/
def FlushPost {τ : Type} (B : World → Nat → Int → Nat → Value → Prop) (St : τ → (Nat → Prop) → World → Prop) (lo g : Nat) (X : COut τ) (S : Nat → Prop) (w : World) (r : Ending) (w' : World) : Prop :=
  r = .returned (.int .i64 X.er) ∧ OAns B St lo g S w X w'
set_option maxHeartbeats 4000000 in
theorem oflush_any (WR : Writer V fn v lo2 Bw Rmx St bd) (T : TypeId) (hme : ∀ w, (method 249 T v "Write").run Try.prog w = .ok (fn, v) w) (hen : ∀ (args : Array Value) (W : World), (callFunc fn args).run Try.prog W = .ok (.enter fn args) W)
    (g : Nat) (hbl : bd ≤ lo) (c : COut τ) (S : Nat → Prop) (w : World) (M Bd : Nat) (hK : OOk V M Bd c) (hO : OObj (OutB g (.iface T v)) St lo g c S w) (hM : M ≤ 1099511627776) (hMr : M ≤ Rmx) (hB : Bd + (M * 17 + 17) < Bw) :
    Calls Try.prog 29 #[.pointer (some ⟨g, 0, none⟩)] w (FlushPost (OutB g (.iface T v)) St lo g (flushM V c) S w) := by
  obtain ⟨X, hX⟩ : ∃ X, flushM V c = X := ⟨_, rfl⟩
  rw [hX]
  have HX := Lib.hid hX
  have HK := Lib.hid hK
  have OB := Lib.hid hO
  obtain ⟨F0, hF0⟩ : ∃ F0, c.q.length * 17 + 17 = F0 := ⟨_, rfl⟩
  have hF0M : F0 ≤ M * 17 + 17 := by have := hK.len; omega
  have M0 := Lib.hid (show FlM V (OutB g (.iface T v)) St lo g M Bd F0 X S w F0 c S w from
    { eq := by rw [← hX, ← hF0]; rfl, ob := hO, sub := fun j hj => .inl hj, tu := .refl _ _, ok := hK.mono (Nat.le_refl _) (by omega), fl := ⟨Nat.le_refl _, .inr (.inr (by omega))⟩ })
  clear hX hK hO hF0
  go_enter Try.func29, Try.ntmps29
  go_wp2_with fail
  go_loopg [] F0 (fun F wr => ∃ c' S', FlM V (OutB g (.iface T v)) St lo g M Bd F0 X S w F c' S' wr)
  case atStart => exact ⟨_, _, M0.out⟩
  case round =>
    obtain ⟨c', S', hM2⟩ := hrel
    have MM := Lib.hid hM2
    obtain ⟨Sr, qv, hR⟩ := hM2.ob
    have c1 := hR.io.c1
    have c4 := hR.io.c4
    obtain ⟨aq, cq, rfl, -⟩ := hR.q.sl
    obtain ⟨L, hL⟩ : ∃ L, c'.q.length = L := ⟨_, rfl⟩
    rw [hL] at c4
    clear hM2 hR M0
    by_cases hq : c'.q = []
    · have hL0 : L = 0 := by rw [← hL, hq]; rfl
      have t1 : decide ((L : Int) > 0) = false := decide_eq_false (by omega)
      have t1' : decide (0 < L) = false := decide_eq_false (by omega)
      have XE := Lib.hid (show X = c' by rw [← MM.out.eq]; exact flush_end (.inl hq))
      clear hq hL hL0
      go_wp2_with fail
      go_ret
      rw [XE.out]
      exact ⟨rfl, S', MM.out.ob, MM.out.sub, MM.out.tu⟩
    · have hL0 : 0 < L := by rw [← hL]; exact List.length_pos_iff.2 hq
      have t1 : decide ((L : Int) > 0) = true := decide_eq_true (by omega)
      have t1' : decide (0 < L) = true := decide_eq_true hL0
      by_cases he : c'.er = 0
      · have t2 : (c'.er == 0) = true := by rw [beq_iff_eq]; exact he
        have hfl : F0 ≥ gk ∧ c'.q.length * 17 + 16 - c'.idle < gk := by
          have := MM.out.fl
          rcases this.2 with h | h | h
          · exact absurd h hq
          · exact absurd he h
          · exact ⟨this.1, h⟩
        obtain ⟨F, hF⟩ : ∃ F, gk = F + 1 := ⟨gk - 1, by omega⟩
        subst hF
        have EQ := Lib.hid (show flushG V F (pushM V c').2.2 = X by rw [← MM.out.eq, flush_go hq he])
        have PL := Lib.hid (fun h => push_less (V := V) he hq (MM.out.ok.id he) h)
        have OK2 := Lib.hid (MM.out.ok.push)
        have PU := Lib.hid (opush_any WR T hme hen g hbl c' S' wr M (Bd + (F0 - (F + 1))) MM.out.ok MM.out.ob hM hMr (by omega))
        clear hq he hL
        go_wp2_with fail
        refine PU.out.mono ?_
        rintro r w2 ⟨rfl, S2, ho2, hs2, ht2⟩
        have GO := Lib.hid (show FlM V (OutB g (.iface T v)) St lo g M Bd F0 X S w F (pushM V c').2.2 S2 w2 from
          { eq := EQ.out, ob := ho2, sub := fun j hj => by
              rcases hs2 j hj with e | e
              · exact MM.out.sub j e
              · exact .inr (Nat.le_trans MM.out.tu.size e)
            tu := MM.out.tu.trans ht2 fun j hj e => by
              rcases MM.out.sub j e with q | q
              · exact q
              · omega
            ok := OK2.out.mono (Nat.le_refl _) (by omega), fl := ⟨by omega, by
              by_cases h : (pushM V c').2.2.er = 0
              · have := (PL.out h).1
                exact .inr (.inr (by omega))
              · exact .inr (.inl h)⟩ })
        clear ho2 hs2 ht2 PU
        go_wp2_with fail
        go_roundg F
        case measure => omega
        case rel => exact ⟨_, _, GO.out⟩
      · have t2 : (c'.er == 0) = false := by rw [beq_eq_false_iff_ne]; exact he
        have XE := Lib.hid (show X = c' by rw [← MM.out.eq]; exact flush_end (.inr he))
        clear hq he hL
        go_wp2_with fail
        go_ret
        rw [XE.out]
        exact ⟨rfl, S', MM.out.ob, MM.out.sub, MM.out.tu⟩
end
end Go.Proofs.Ytpenbaafhbbmhaa

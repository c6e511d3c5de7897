/- The program's In: Number: contract over any reader. Conditions: numbers within reach. -/
import Derived.Test.YtpenbaafhbbmhaaCurIn2
namespace Go.Proofs.Ytpenbaafhbbmhaa
open Go.RowKit Go.Shelf
set_option maxRecDepth 100000
set_option linter.unusedVariables false
set_option linter.unusedSimpArgs false

theorem tq_go {n : Nat} {bs : List UInt8} {x : UInt8} {d : Bool} {n2 s2 : Nat} {b2 : List UInt8} (h : tq 0 n bs x = (d, 0, n2, s2, b2)) : (d = true → s2 = 1) ∧ (d = false → s2 = 0) ∧ b2 = bs ++ [x] := by
  unfold tq at h
  rw [if_neg (by simp)] at h
  split at h
  · simp only [Prod.mk.injEq] at h; exact absurd h.2.1 (by decide)
  split at h
  · simp only [Prod.mk.injEq] at h; exact absurd h.2.1 (by decide)
  simp only [Prod.mk.injEq] at h
  obtain ⟨rfl, -, -, rfl, rfl⟩ := h
  refine ⟨fun h => ?_, fun h => ?_, rfl⟩
  · rw [if_pos (by simpa using h)]
  · rw [if_neg (by simpa using h)]
section
variable {σ : Type} {R : Rm σ} {St : σ → (Nat → Prop) → World → Prop} {g : Nat} {most : Int} {rv : Value} {w w1 w2 : World} {S0 S S2 : Nat → Prop} {c c2 : CIn σ}
theorem InA.step (h : InA St g most rv w S0 c S w1) (k : InA St g most rv w1 S c2 S2 w2) : InA St g most rv w S0 c2 S2 w2 where
  io := k.io
  st := k.st
  sub j hj := by
    rcases k.sub j hj with e | e
    · exact h.sub j e
    · exact .inr (Nat.le_trans h.tu.size e)
  tu := h.tu.trans k.tu fun j hj e => by
    rcases e with e | e
    · rcases h.sub j e with q | q
      · exact .inl q
      · omega
    · exact .inr e
theorem InP.turns {T : Nat → Prop} {pl i : Nat} {er : Int} {held : List UInt8} (h : InP w g most rv pl er i held) (ht : Turns T w w1) (hg : ¬ T g) : InP w1 g most rv pl er i held := by
  obtain ⟨y, hb, hh⟩ := h
  exact ⟨y, hb.turns ht hg, hh⟩
theorem InA.turns {bd : Nat} (hfr : ∀ s S T w w', St s S w → Turns T w w' → (∀ j, S j → ¬ T j) → (∀ j, T j → bd ≤ j) → St s S w') {T : Nat → Prop} (h : InA St g most rv w S0 c S w1) (ht : Turns T w1 w2) (hg : ¬ T g) (hd : ∀ j, S j → ¬ T j) (hl : ∀ j, T j → bd ≤ j) (hn : ∀ j, T j → w.heap.size ≤ j) : InA St g most rv w S0 c S w2 where
  io := h.io.turns ht hg
  st := hfr _ _ _ _ _ h.st ht hd hl
  sub := h.sub
  tu := h.tu.trans ht fun j hj e => by have := hn j e; omega
theorem InP.lt {pl i : Nat} {er : Int} {held : List UInt8} (h : InP w g most rv pl er i held) : g < w.heap.size := by
  obtain ⟨y, hb, -⟩ := h
  exact hb.lt
/-- behind Number -/
def NumPost (St : σ → (Nat → Prop) → World → Prop) (X : Nat × Int × CIn σ) (S0 : Nat → Prop) (g : Nat) (most : Int) (rv : Value) (w : World) (r : Ending) (w' : World) : Prop :=
  ∃ S', r = .returned (.tuple #[.int .u64 (X.1 : Nat), .int .i64 X.2.1]) ∧ InA St g most rv w S0 X.2.2 S' w'
/-- in the midst of it -/
structure NuM (R : Rm σ) (P : σ → Prop) (St : σ → (Nat → Prop) → World → Prop) (g : Nat) (most : Int) (rv : Value) (w : World) (S0 : Nat → Prop) (X : Nat × Int × CIn σ) (at0 gt Bd F : Nat) (c : CIn σ) (n : Nat) (bs : List UInt8) (S : Nat → Prop) (W : World) : Prop where
  eq : numG R most at0 F c n 0 bs = X
  ia : InA St g most rv w S0 c S W
  tk : Tk W gt n bs.length 0
  inv : Inv bs n 0
  fl : F + bs.length = 11
  ok : Okay R P most (Bd + 32 * bs.length) c
  nt : ¬ S gt
end
theorem numG_step {σ : Type} {R : Rm σ} {most : Int} {at0 F n : Nat} {c c' : CIn σ} {bs b2 : List UInt8} {x : UInt8} {e : Int} {d : Bool} {er n2 s2 : Nat} (hb : byteM R most c = (x, e, c')) (hq : tq 0 n bs x = (d, er, n2, s2, b2)) :
    numG R most at0 (F + 1) c n 0 bs = if e ≠ 0 then (0, e, { c' with pl := at0 }) else if er ≠ 0 then (0, (er : Int), { c' with pl := at0, er := er }) else if d then (n2, 0, c') else numG R most at0 F c' n2 s2 b2 := by
  conv => lhs; unfold numG
  rw [hb]
  dsimp only
  rw [hq]
set_option maxHeartbeats 4000000 in
theorem cnum_any {σ : Type} {R : Rm σ} {fn : FuncId} {v : Value} {lo Br bd : Nat} {St : σ → (Nat → Prop) → World → Prop} (RD : Reader R fn v lo Br St bd) (T : TypeId)
    (hme : ∀ w, (method 249 T v "Read").run Try.prog w = .ok (fn, v) w) (hen : ∀ (args : Array Value) (W : World), (callFunc fn args).run Try.prog W = .ok (.enter fn args) W) (hmu : ∀ s n, R.mu (R.nxt s n) ≤ R.mu s)
    (g : Nat) (most : Int) (c : CIn σ) (S0 : Nat → Prop) (w : World) (P : σ → Prop) (hP : ∀ s n, P s → P (R.nxt s n)) (Bd : Nat) (hO : Okay R P most Bd c) (hI : InP w g most (.iface T v) c.pl c.er c.idle c.held) (hS : St c.s S0 w) (hgS : ¬ S0 g) (hbd : bd ≤ g)
    (hm : most ≤ 9223372036854775807) (hc : Bd + 400 ≤ Br) :
    Calls Try.prog 19 #[.pointer (some ⟨g, 0, none⟩)] w (NumPost St (numM R most c) S0 g most (.iface T v) w) := by
  obtain ⟨X, hX⟩ : ∃ X, numM R most c = X := ⟨_, rfl⟩
  rw [hX]
  have HX := Lib.hid hX
  obtain ⟨at0, hat⟩ : ∃ a, c.pl = a := ⟨_, rfl⟩
  have HAT := Lib.hid hat
  have lg := hI.lt
  have c0 : w.cell? ⟨g, 0, none⟩ = some (.int .i64 (at0 : Nat)) := by obtain ⟨y, hB, -⟩ := hI; rw [hB.c0, hat]
  have HI := Lib.hid hI
  have ST := Lib.hid hS
  have NG := Lib.hid hgS
  have HO := Lib.hid hO
  clear hX hat hI hS hgS hO
  go_enter Try.func19, Try.ntmps19
  go_wp2_with fail
  refine (new_any _).mono ?_
  rintro r w1 ⟨rfl, htk, hb1⟩
  have M0 := Lib.hid (show NuM R P St g most (.iface T v) w S0 X at0 w.heap.size Bd 11 c 0 [] S0 w1 from
    { eq := by rw [← HX.out, ← HAT.out]; rfl
      ia := { io := HI.out.turns (Turns.of_below (S := fun _ => False) hb1) id, st := RD.frame _ _ (fun _ => False) _ _ ST.out (.of_below hb1) (fun _ _ e => e) (fun _ e => e.elim), sub := fun j hj => .inl hj, tu := .of_below hb1 }
      tk := htk, inv := .start, fl := rfl, ok := HO.out.mono (by omega), nt := fun h => by have := (RD.inS _ _ _ ST.out _ h).2; omega })
  have hg1 : w.heap.size < w1.heap.size := htk.lt
  clear htk hb1 c0
  obtain ⟨gt, hgt⟩ : ∃ gt, w.heap.size = gt := ⟨_, rfl⟩
  rw [hgt] at M0 lg hg1 ⊢
  have HGT := Lib.hid hgt
  clear hgt
  go_wp2_with fail
  go_loopg [] 11 (fun F wr => ∃ c' n bs S, NuM R P St g most (.iface T v) w S0 X at0 gt Bd F c' n bs S wr)
  case atStart => exact ⟨_, _, _, _, M0.out⟩
  case round =>
    obtain ⟨c', n, bs, S, hM⟩ := hrel
    have M := Lib.hid hM
    clear hM M0
    have hbl : bs.length ≤ 9 := by
      rcases M.out.inv with h | h | h
      · exact h.2.1
      · exact absurd h.1 (by decide)
      · exact absurd h.1 (by decide)
    obtain ⟨F, hF⟩ : ∃ F, gk = F + 1 := ⟨gk - 1, by have := M.out.fl; omega⟩
    subst hF
    have gS : ¬ S g := fun h => by rcases M.out.ia.sub g h with e | e; (exact NG.out e); (have := HGT.out; omega)
    have BY := Lib.hid (cbyte_any RD T hme hen hmu g most c' S wr P hP (Bd + 32 * bs.length) M.out.ok M.out.ia.io M.out.ia.st gS hbd hm (by omega))
    have OB := Lib.hid (M.out.ok.byte hmu hP)
    obtain ⟨⟨x, e, c2⟩, hX2⟩ : ∃ Y, byteM R most c' = Y := ⟨_, rfl⟩
    obtain ⟨⟨d, er, n2, s2, b2⟩, hq⟩ : ∃ Y, tq 0 n bs x = Y := ⟨_, rfl⟩
    have EQ := Lib.hid (show X = _ from M.out.eq.symm.trans (numG_step hX2 hq))
    rw [hX2] at BY OB
    dsimp only at OB
    have HQ := Lib.hid hq
    have GS := Lib.hid gS
    clear hX2 hq gS
    go_wp2_with fail
    refine BY.out.mono ?_
    rintro r w2 ⟨S2, rfl, hA⟩
    have A := Lib.hid (M.out.ia.step hA)
    have hwr : gt < wr.heap.size := by have := M.out.ia.tu.size; have := M.out.tk.lt; omega
    have TK := Lib.hid (show Tk w2 gt n bs.length 0 from hA.tu.heap M.out.tk fun e => by rcases e with e | e; (exact M.out.nt e); (omega))
    have NT := Lib.hid (show ¬ S2 gt from fun h => by rcases hA.sub gt h with e | e; (exact M.out.nt e); (omega))
    have NG2 := Lib.hid (show ¬ S2 g from fun h => by rcases hA.sub g h with e | e; (exact GS.out e); (have := M.out.ia.io.lt; omega))
    obtain ⟨y, hB, hh⟩ := A.out.io
    have IB := Lib.hid hB
    have HH := Lib.hid hh
    dsimp only at hB
    clear hA hB hh BY
    by_cases h0 : e = 0
    · subst h0
      have TKE := Lib.hid (ptake_any gt n 0 bs x w2 d er n2 s2 b2 HQ.out M.out.inv TK.out)
      go_wp2_with fail
      refine TKE.out.mono ?_
      rintro r w3 ⟨rfl, htk, hgr⟩
      have T3 := Turns.of_grown (S := fun j => j = gt) hgr fun j e => by injection e with e; exact e.symm
      have A3 := Lib.hid (A.out.turns RD.frame T3 (by omega) (fun j hj e => by subst e; exact NT.out hj) (fun j e => by have e : j = gt := e; omega) (fun j e => by have e : j = gt := e; have := HGT.out; omega))
      have IB3 := Lib.hid (IB.out.turns T3 (show ¬ g = gt by omega))
      have TK3 := Lib.hid htk
      clear htk hgr T3 TKE
      by_cases hr0 : er = 0
      · subst hr0
        obtain ⟨k1, k2, k3⟩ := tq_go HQ.out
        cases d
        · obtain rfl := k2 rfl
          obtain rfl := k3
          have GO := Lib.hid (show NuM R P St g most (.iface T v) w S0 X at0 gt Bd F c2 n2 (bs ++ [x]) S2 w3 from
            { eq := by rw [EQ.out]; rfl
              ia := A3.out, tk := TK3.out, inv := M.out.inv.step x HQ.out, fl := by have := M.out.fl; rw [List.length_append]; simp; omega, ok := OB.out.mono (by rw [List.length_append]; simp; omega), nt := NT.out })
          clear k1 k2
          go_wp2_with fail
          go_roundg F
          case measure => omega
          case rel => exact ⟨_, _, _, _, GO.out⟩
        · obtain rfl := k1 rfl
          have XE := Lib.hid (show X = (n2, 0, c2) by rw [EQ.out]; rfl)
          have PN := Lib.hid (pnumber_any gt n2 b2.length 1 w3 TK3.out)
          clear k1 k2 k3
          go_wp2_with fail
          refine PN.out.mono ?_
          rintro r w4 ⟨rfl, rfl⟩
          go_wp2_with fail
          go_ret2
          rw [XE.out]
          exact ⟨S2, rfl, A3.out⟩
      · have XE := Lib.hid (show X = (0, (er : Int), { c2 with pl := at0, er := er }) by rw [EQ.out, if_neg (by simp), if_pos hr0])
        have t2 : ((er : Int) != 0) = true := by rw [bne_iff_ne]; omega
        have t2' : (er != 0) = true := by rw [bne_iff_ne]; exact hr0
        have d0 := IB3.out.c0
        have f0 := IB3.out.free 0
        have IB4 := Lib.hid (IB3.out.s0 at0)
        have EN := Lib.hid (ends_any g most (.iface T v) at0 c2.er (er : Int) c2.idle y _ _ IB4.out)
        clear hr0
        go_wp2_with fail
        refine EN.out.mono ?_
        rintro r w5 ⟨rfl, hb5, ht5⟩
        have T5 : Turns (fun j => j = g) w3 w5 := (setT w3 0 (.int .i64 (at0 : Nat))).trans ht5 fun _ _ e => e
        have FIN := Lib.hid (show InA St g most (.iface T v) w S0 { c2 with pl := at0, er := er } S2 w5 from
          { io := ⟨y, hb5, HH.out⟩, st := RD.frame _ _ _ _ _ A3.out.st T5 (fun j hj e => by subst e; exact NG2.out hj) (fun j e => by have e : j = g := e; omega), sub := A3.out.sub, tu := A3.out.tu.trans T5 fun j hj e => .inr e })
        clear hb5 ht5 T5
        go_wp2_with fail
        go_ret2
        rw [XE.out]
        exact ⟨S2, rfl, FIN.out⟩
    · have XE := Lib.hid (show X = (0, e, { c2 with pl := at0 }) by rw [EQ.out, if_pos h0])
      have t1 : (e != 0) = true := by rw [bne_iff_ne]; exact h0
      have d0 := IB.out.c0
      have f0 := IB.out.free 0
      have FIN := Lib.hid (show InA St g most (.iface T v) w S0 { c2 with pl := at0 } S2 (w2.setCell ⟨g, 0, none⟩ (.int .i64 (at0 : Nat))) from
        { io := ⟨y, IB.out.s0 at0, HH.out⟩, st := RD.frame _ _ _ _ _ A.out.st (setT w2 0 _) (fun j hj e => by subst e; exact NG2.out hj) (fun j e => by have e : j = g := e; omega), sub := A.out.sub, tu := A.out.tu.trans (setT w2 0 _) fun j hj e => .inr e })
      clear h0
      go_wp2_with fail
      go_ret2
      rw [XE.out]
      exact ⟨S2, rfl, FIN.out⟩
end Go.Proofs.Ytpenbaafhbbmhaa

/- The program's In: Bytes, Byte, End, At, Err, NewIn: contracts over any reader. Conditions: numbers and what is taken within reach. -/
import Derived.Test.YtpenbaafhbbmhaaCurIn
import Derived.Test.YtpenbaafhbbmhaaCurM2
namespace Go.Proofs.Ytpenbaafhbbmhaa
open Go.RowKit Go.Shelf
set_option maxRecDepth 100000
set_option linter.unusedVariables false
set_option linter.unusedSimpArgs false

set_option maxHeartbeats 2000000 in
theorem ctake0_any (g : Nat) (most : Int) (rv : Value) (pl : Nat) (er : Int) (i : Nat) (y : UInt8) (ho : Bool) (w : World) (h : InB w g most rv pl er i y ho) :
    Calls Try.prog 40 #[.pointer (some ⟨g, 0, none⟩), .int .i64 0] w fun r w' => r = .returned (.tuple #[.slice none 0 0, .int .i64 0]) ∧ w = w' := by
  have c6 := h.c6
  clear h
  cases ho
  case' false =>
    go_enter Try.func40, Try.ntmps40
    go_wp2_with fail
  case' true =>
    go_enter Try.func40, Try.ntmps40
    go_wp2_with fail
  all_goals
    go_loopg [6] 1 (fun F v6 wr => v6 = .slice none 0 0 ∧ w = wr)
    case atStart => exact ⟨rfl, rfl⟩
    case round =>
      obtain ⟨rfl, rfl⟩ := hrel
      go_wp2_with fail
      go_ret2
      exact ⟨rfl, rfl⟩
/-- behind taking -/
def TakeHPost {σ : Type} (St : σ → (Nat → Prop) → World → Prop) (S0 : Nat → Prop) (g : Nat) (most : Int) (rv : Value) (pl : Nat) (er : Int) (w : World) (b : List UInt8) (e : Int) (s' : σ) (i' : Nat) (hd : List UInt8) (r : Ending) (w' : World) : Prop :=
  ∃ bv S', r = .returned (.tuple #[bv, .int .i64 e]) ∧ OwT fB w' w.heap.size 5 bv b ∧ InP w' g most rv pl er i' hd ∧ St s' S' w' ∧ (∀ j, S' j → S0 j ∨ w.heap.size ≤ j) ∧ (∀ j, bv.ownBlock = some j → ¬ S' j) ∧ Turns (fun j => S0 j ∨ j = g) w w'
section
variable {σ : Type} {R : Rm σ} {fn : FuncId} {v : Value} {lo Br bd : Nat} {St : σ → (Nat → Prop) → World → Prop}
theorem ctakeH_any (RD : Reader R fn v lo Br St bd) (T : TypeId)
    (hme : ∀ w, (method 249 T v "Read").run Try.prog w = .ok (fn, v) w) (hen : ∀ (args : Array Value) (W : World), (callFunc fn args).run Try.prog W = .ok (.enter fn args) W) (hmu : ∀ s n, R.mu (R.nxt s n) ≤ R.mu s)
    (g : Nat) (most : Int) (pl : Nat) (er : Int) (s0 : σ) (S0 : Nat → Prop) (i0 : Nat) (held : List UInt8) (n : Nat) (w : World) (hI : InP w g most (.iface T v) pl er i0 held) (hS : St s0 S0 w) (hgS : ¬ S0 g) (hbd : bd ≤ g)
    (hn : n ≤ 9223372036854775807) (hi : i0 ≤ 15) (hc : R.cnt s0 + R.mu s0 * 17 + 32 ≤ Br) (hcap : Caps R s0 n) {b : List UInt8} {e : Int} {s' : σ} {i' : Nat} {hd : List UInt8} (hX : tkH R s0 i0 held n = (b, e, s', i', hd)) :
    Calls Try.prog 40 #[.pointer (some ⟨g, 0, none⟩), .int .i64 (n : Nat)] w (TakeHPost St S0 g most (.iface T v) pl er w b e s' i' hd) := by
  unfold tkH at hX
  by_cases h0 : n = 0
  · subst h0
    rw [if_pos rfl] at hX
    simp only [Prod.mk.injEq] at hX
    obtain ⟨rfl, rfl, rfl, rfl, rfl⟩ := hX
    obtain ⟨y, hB, hh⟩ := hI
    refine (ctake0_any g most _ pl er i0 y _ w hB).mono ?_
    rintro r w' ⟨rfl, rfl⟩
    exact ⟨.slice none 0 0, S0, rfl, OwT.nil _ _ _ _, ⟨y, hB, hh⟩, hS, fun j hj => .inl hj, fun j e => (by cases e), .refl _ _⟩
  · rw [if_neg h0] at hX
    simp only [Prod.mk.injEq] at hX
    obtain ⟨rfl, rfl, rfl, rfl, rfl⟩ := hX
    exact (ctake_any RD T hme hen hmu g most pl er s0 S0 i0 held n w hI hS hgS hbd (by omega) hn hi hc hcap).mono fun r w' ⟨bv, S', h1, h2, h3, h4, h5, h6, h7⟩ => ⟨bv, S', h1, h2, h3, h4, h5, h6, h7⟩
/-- an In in memory behind an answer -/
structure InA (St : σ → (Nat → Prop) → World → Prop) (g : Nat) (most : Int) (rv : Value) (w : World) (S0 : Nat → Prop) (c : CIn σ) (S : Nat → Prop) (w' : World) : Prop where
  io : InP w' g most rv c.pl c.er c.idle c.held
  st : St c.s S w'
  sub : ∀ j, S j → S0 j ∨ w.heap.size ≤ j
  tu : Turns (fun j => S0 j ∨ j = g) w w'
def BytesPost (St : σ → (Nat → Prop) → World → Prop) (X : List UInt8 × Int × CIn σ) (S0 : Nat → Prop) (g : Nat) (most : Int) (rv : Value) (w : World) (r : Ending) (w' : World) : Prop :=
  ∃ bv S', r = .returned (.tuple #[bv, .int .i64 X.2.1]) ∧ OwT fB w' w.heap.size 5 bv X.1 ∧ (∀ j, bv.ownBlock = some j → ¬ S' j) ∧ InA St g most rv w S0 X.2.2 S' w'
set_option maxHeartbeats 4000000 in
theorem cbytes_any (RD : Reader R fn v lo Br St bd) (T : TypeId)
    (hme : ∀ w, (method 249 T v "Read").run Try.prog w = .ok (fn, v) w) (hen : ∀ (args : Array Value) (W : World), (callFunc fn args).run Try.prog W = .ok (.enter fn args) W) (hmu : ∀ s n, R.mu (R.nxt s n) ≤ R.mu s)
    (g : Nat) (most n : Int) (c : CIn σ) (S0 : Nat → Prop) (w : World) (P : σ → Prop) (Bd : Nat) (hO : Okay R P most Bd c) (hI : InP w g most (.iface T v) c.pl c.er c.idle c.held) (hS : St c.s S0 w) (hgS : ¬ S0 g) (hbd : bd ≤ g)
    (hn : -9223372036854775808 ≤ n ∧ n ≤ 9223372036854775807) (hm : most ≤ 9223372036854775807) (hc : Bd + 32 ≤ Br) (hcap : 0 ≤ n → n ≤ most → Caps R c.s n.toNat) :
    Calls Try.prog 18 #[.pointer (some ⟨g, 0, none⟩), .int .i64 n] w (BytesPost St (bytesM R most n c) S0 g most (.iface T v) w) := by
  obtain ⟨X, hX⟩ : ∃ X, bytesM R most n c = X := ⟨_, rfl⟩
  rw [hX]
  obtain ⟨y, hB, hh⟩ := hI
  have c0 := hB.c0
  have c1 := hB.c1
  have c4 := hB.c4
  have c7 : w.cell? ⟨g, 0, none⟩ = some (.int .i64 (c.pl : Nat)) := c0
  have HB := Lib.hid hB
  have HH := Lib.hid hh
  have ST := Lib.hid hS
  have NG := Lib.hid hgS
  have HX := Lib.hid hX
  have HO := Lib.hid hO
  have hpl := hO.pl
  have lg := hB.lt
  have SAME := Lib.hid (fun (W : World) (hW : Drw w W) => show InA St g most (.iface T v) w S0 c S0 W from
    { io := ⟨y, HB.out.turns (Turns.of_below (S := fun _ => False) hW.below) id, HH.out⟩, st := RD.frame _ _ (fun _ => False) _ _ ST.out (.of_below hW.below) (fun _ _ e => e) (fun _ e => e.elim), sub := fun j hj => .inl hj, tu := .of_below hW.below })
  clear hX hB hh hS hgS hO
  by_cases he : c.er ≠ 0
  · have XE := Lib.hid (show X = ([], c.er, c) by rw [← HX.out]; exact bytes_er he)
    have t1 : (c.er != 0) = true := by rw [bne_iff_ne]; exact he
    clear he hcap c0 c7
    go_enter Try.func18, Try.ntmps18
    go_wp2_with fail
    go_quiet (fail)
    go_wp2_with fail
    go_ret2
    rw [XE.out]
    exact ⟨.slice none 0 0, S0, rfl, OwT.nil _ _ _ _, fun j e => (by cases e), SAME.out _ ((Drw.refl _).more _)⟩
  have he : c.er = 0 := by simpa using he
  have t1 : (c.er != 0) = false := by rw [bne_eq_false_iff_eq]; exact he
  by_cases hneg : n < 0
  · have XE := Lib.hid (show X = ([], 1, c) by rw [← HX.out]; exact bytes_neg he hneg)
    have t2 : decide (n < 0) = true := decide_eq_true hneg
    clear he hcap c0 c7
    go_enter Try.func18, Try.ntmps18
    go_wp2_with fail
    go_ret2
    rw [XE.out]
    exact ⟨.slice none 0 0, S0, rfl, OwT.nil _ _ _ _, fun j e => (by cases e), SAME.out _ (Drw.refl _)⟩
  have t2 : decide (n < 0) = false := decide_eq_false hneg
  have r1 : IntKind.i64.wrap (most - (c.pl : Int)) = most - (c.pl : Int) := IntWalk.i64_in _ (by omega)
  by_cases hmo : most - c.pl < n
  · have XE := Lib.hid (show X = ([], 42, { c with er := 42 }) by rw [← HX.out]; exact bytes_most he hneg hmo)
    have t3 : decide (n > most - (c.pl : Int)) = true := decide_eq_true hmo
    have t3' : decide (most - (c.pl : Int) < n) = true := decide_eq_true hmo
    clear he hcap hneg hmo
    go_enter Try.func18, Try.ntmps18
    go_wp2_with fail
    go_quiet (fail)
    have D1 := Lib.hid ((Drw.refl w).more nq)
    generalize w.drewN nq = w1 at *
    have HB1 := Lib.hid (HB.out.turns (Turns.of_below (S := fun _ => False) D1.out.below) id)
    go_wp2_with fail
    refine (ends_any g most (.iface T v) c.pl c.er 42 c.idle y _ w1 HB1.out).mono ?_
    rintro r w2 ⟨rfl, hb2, ht2⟩
    have FIN := Lib.hid (show InA St g most (.iface T v) w S0 { c with er := 42 } S0 w2 from
      { io := ⟨y, hb2, HH.out⟩, st := RD.frame _ _ _ _ _ (SAME.out w1 D1.out).st ht2 (fun j hj e => by subst e; exact NG.out hj) (fun j e => by omega), sub := fun j hj => .inl hj, tu := (SAME.out w1 D1.out).tu.trans ht2 fun j hj e => .inr e })
    clear hb2 ht2
    go_wp2_with fail
    go_ret2
    rw [XE.out]
    exact ⟨.slice none 0 0, S0, rfl, OwT.nil _ _ _ _, fun j e => (by cases e), FIN.out⟩
  have t3 : decide (n > most - (c.pl : Int)) = false := decide_eq_false hmo
  have t3' : decide (most - (c.pl : Int) < n) = false := decide_eq_false hmo
  obtain ⟨k, rfl⟩ : ∃ k : Nat, n = (k : Nat) := ⟨n.toNat, by omega⟩
  obtain ⟨⟨b, e, s', i', hd⟩, hK⟩ : ∃ Y, tkH R c.s c.idle c.held k = Y := ⟨_, rfl⟩
  have XE := Lib.hid (show X = if e = 0 then (b, 0, ⟨s', c.pl + k, 0, i', hd⟩) else ([], e, ⟨s', c.pl, e, i', hd⟩) by
    have hK2 : tkH R c.s c.idle c.held (k : Int).toNat = (b, e, s', i', hd) := by rw [Int.toNat_natCast]; exact hK
    have h := bytes_take he hneg hmo hK2
    rw [Int.toNat_natCast] at h
    rw [← HX.out]; exact h)
  have CAP := Lib.hid (hcap (by omega) (by omega))
  have HID := Lib.hid (HO.out.idle he)
  have HBU := Lib.hid HO.out.bud
  have r2 : IntKind.i64.wrap ((c.pl : Int) + (k : Int)) = (c.pl : Int) + (k : Int) := IntWalk.i64_in _ (by omega)
  have KH := Lib.hid hK
  clear hcap hneg hmo hK he
  go_enter Try.func18, Try.ntmps18
  go_wp2_with fail
  go_quiet (fail)
  have D1 := Lib.hid ((Drw.refl w).more nq)
  generalize w.drewN nq = w1 at *
  have A1 := Lib.hid (SAME.out w1 D1.out)
  have hw1 : w.heap.size ≤ w1.heap.size := A1.out.tu.size
  have TK := Lib.hid (ctakeH_any RD T hme hen hmu g most c.pl c.er c.s S0 c.idle c.held k w1 A1.out.io A1.out.st NG.out hbd (by omega) HID.out (by have := HBU.out; omega) CAP.out KH.out)
  clear c0 c1 c4 c7
  go_wp2_with fail
  refine TK.out.mono ?_
  rintro r w2 ⟨bv, S2, rfl, ho, hio, hst, hsub, hdis, htu⟩
  obtain ⟨ab, nb, cb, rfl, -⟩ := ho.slN
  have O2 := Lib.hid (ho.base hw1)
  have ST2 := Lib.hid hst
  have SUB2 := Lib.hid (show ∀ j, S2 j → S0 j ∨ w.heap.size ≤ j from fun j hj => by rcases hsub j hj with h | h; (exact .inl h); (exact .inr (by omega)))
  have DIS2 := Lib.hid hdis
  have TU2 := Lib.hid (A1.out.tu.trans htu fun j hj e => e)
  have NG2 := Lib.hid (show ¬ S2 g from fun h => by rcases SUB2.out g h with e | e; (exact NG.out e); (omega))
  obtain ⟨y2, hb2, hh2⟩ := hio
  have IB2 := Lib.hid hb2
  have HH2 := Lib.hid hh2
  clear ho hst hsub hdis htu hb2 hh2 TK
  by_cases h0 : e = 0
  · have t4 : (e != 0) = false := by rw [bne_eq_false_iff_eq]; exact h0
    have d0 := IB2.out.c0
    have f0 := IB2.out.free 0
    have FIN := Lib.hid (show InA St g most (.iface T v) w S0 ⟨s', c.pl + k, 0, i', hd⟩ S2 (w2.setCell ⟨g, 0, none⟩ (.int .i64 ((c.pl : Int) + (k : Int)))) from
      { io := ⟨y2, by have := IB2.out.s0 (c.pl + k); rw [show c.er = 0 by have := t1; rwa [bne_eq_false_iff_eq] at this] at this; exact this, HH2.out⟩
        st := RD.frame _ _ _ _ _ ST2.out (setT w2 0 _) (fun j hj e => by subst e; exact NG2.out hj) (fun j e => by omega), sub := SUB2.out, tu := TU2.out.trans (setT w2 0 _) fun j hj e => .inr e })
    have OF := Lib.hid (O2.out.turns (setT w2 0 (.int .i64 ((c.pl : Int) + (k : Int)))) fun j hj e => by have := (O2.out.lt j hj).1; have e : j = g := e; omega)
    have XF := Lib.hid (show X = (b, 0, ⟨s', c.pl + k, 0, i', hd⟩) by rw [XE.out, if_pos h0])
    clear h0
    go_wp2_with fail
    go_ret2
    rw [XF.out]
    exact ⟨_, S2, rfl, OF.out, DIS2.out, FIN.out⟩
  · have t4 : (e != 0) = true := by rw [bne_iff_ne]; exact h0
    have XF := Lib.hid (show X = ([], e, ⟨s', c.pl, e, i', hd⟩) by rw [XE.out, if_neg h0])
    clear h0
    go_wp2_with fail
    refine (ends_any g most (.iface T v) c.pl c.er e i' y2 _ w2 IB2.out).mono ?_
    rintro r w3 ⟨rfl, hb3, ht3⟩
    have FIN := Lib.hid (show InA St g most (.iface T v) w S0 ⟨s', c.pl, e, i', hd⟩ S2 w3 from
      { io := ⟨y2, hb3, HH2.out⟩, st := RD.frame _ _ _ _ _ ST2.out ht3 (fun j hj e => by subst e; exact NG2.out hj) (fun j e => by omega), sub := SUB2.out, tu := TU2.out.trans ht3 fun j hj e => .inr e })
    clear hb3 ht3
    go_wp2_with fail
    go_ret2
    rw [XF.out]
    exact ⟨.slice none 0 0, S2, rfl, OwT.nil _ _ _ _, fun j e => (by cases e), FIN.out⟩
/-- behind Byte -/
def BytePost (St : σ → (Nat → Prop) → World → Prop) (X : UInt8 × Int × CIn σ) (S0 : Nat → Prop) (g : Nat) (most : Int) (rv : Value) (w : World) (r : Ending) (w' : World) : Prop :=
  ∃ S', r = .returned (.tuple #[.int .u8 (B X.1), .int .i64 X.2.1]) ∧ InA St g most rv w S0 X.2.2 S' w'
set_option maxHeartbeats 2000000 in
theorem cbyte_any (RD : Reader R fn v lo Br St bd) (T : TypeId)
    (hme : ∀ w, (method 249 T v "Read").run Try.prog w = .ok (fn, v) w) (hen : ∀ (args : Array Value) (W : World), (callFunc fn args).run Try.prog W = .ok (.enter fn args) W) (hmu : ∀ s n, R.mu (R.nxt s n) ≤ R.mu s)
    (g : Nat) (most : Int) (c : CIn σ) (S0 : Nat → Prop) (w : World) (P : σ → Prop) (hP : ∀ s n, P s → P (R.nxt s n)) (Bd : Nat) (hO : Okay R P most Bd c) (hI : InP w g most (.iface T v) c.pl c.er c.idle c.held) (hS : St c.s S0 w) (hgS : ¬ S0 g) (hbd : bd ≤ g)
    (hm : most ≤ 9223372036854775807) (hc : Bd + 32 ≤ Br) :
    Calls Try.prog 17 #[.pointer (some ⟨g, 0, none⟩)] w (BytePost St (byteM R most c) S0 g most (.iface T v) w) := by
  have BY := Lib.hid (cbytes_any RD T hme hen hmu g most 1 c S0 w P Bd hO hI hS hgS hbd (by omega) hm hc (fun _ _ => .inl (by decide)))
  obtain ⟨-, k1, k2⟩ := hO.bytes (n := 1) hmu hP
  unfold byteM
  obtain ⟨⟨b, e, c'⟩, hX⟩ : ∃ X, bytesM R most 1 c = X := ⟨_, rfl⟩
  rw [hX] at BY k1 k2 ⊢
  dsimp only at k1 k2 ⊢
  clear hX hI hS hO
  go_enter Try.func17, Try.ntmps17
  go_wp2_with fail
  refine BY.out.mono ?_
  rintro r w2 ⟨bv, S2, rfl, ho, hdis, hA⟩
  have A := Lib.hid hA
  dsimp only at ho ⊢
  by_cases h0 : e = 0
  · obtain ⟨x, rfl⟩ : ∃ x, b = [x] := by
      have := (k1 h0).2
      match b, this with
      | [x], _ => exact ⟨x, rfl⟩
    subst h0
    obtain ⟨ab, nb, cb, rfl, hs⟩ := ho.slN
    obtain rfl : 1 = nb := hs.len
    obtain ⟨b1, o1, rfl, hcell⟩ := hs.2.2.2 0 x rfl
    have hcell : w2.cell? ⟨b1, o1, none⟩ = some (.int .u8 (B x)) := hcell
    clear hA ho hdis hs k1 k2
    go_wp2_with fail
    go_ret2
    exact ⟨S2, rfl, A.out⟩
  · obtain rfl := k2 h0
    have t4 : (e != 0) = true := by rw [bne_iff_ne]; exact h0
    clear hA ho hdis k1 k2 h0
    go_wp2_with fail
    go_ret2
    exact ⟨S2, rfl, A.out⟩
/-- behind End -/
def EndPost (St : σ → (Nat → Prop) → World → Prop) (X : Bool × Int × CIn σ) (S0 : Nat → Prop) (g : Nat) (most : Int) (rv : Value) (w : World) (r : Ending) (w' : World) : Prop :=
  ∃ S', r = .returned (.tuple #[.bool X.1, .int .i64 X.2.1]) ∧ InA St g most rv w S0 X.2.2 S' w'
set_option maxHeartbeats 4000000 in
theorem cend_any (RD : Reader R fn v lo Br St bd) (T : TypeId)
    (hme : ∀ w, (method 249 T v "Read").run Try.prog w = .ok (fn, v) w) (hen : ∀ (args : Array Value) (W : World), (callFunc fn args).run Try.prog W = .ok (.enter fn args) W) (hmu : ∀ s n, R.mu (R.nxt s n) ≤ R.mu s)
    (g : Nat) (most : Int) (c : CIn σ) (S0 : Nat → Prop) (w : World) (P : σ → Prop) (hP : ∀ s n, P s → P (R.nxt s n)) (Bd : Nat) (hO : Okay R P most Bd c) (hI : InP w g most (.iface T v) c.pl c.er c.idle c.held) (hS : St c.s S0 w) (hgS : ¬ S0 g) (hbd : bd ≤ g) (hc : Bd + 32 ≤ Br) :
    Calls Try.prog 20 #[.pointer (some ⟨g, 0, none⟩)] w (EndPost St (endM R c) S0 g most (.iface T v) w) := by
  obtain ⟨X, hX⟩ : ∃ X, endM R c = X := ⟨_, rfl⟩
  rw [hX]
  obtain ⟨y, hB, hh⟩ := hI
  have c1 := hB.c1
  have c6 := hB.c6
  have HB := Lib.hid hB
  have HH := Lib.hid hh
  have ST := Lib.hid hS
  have NG := Lib.hid hgS
  have HX := Lib.hid hX
  have lg := hB.lt
  have SAME := Lib.hid (fun (W : World) (hW : Drw w W) => show InA St g most (.iface T v) w S0 c S0 W from
    { io := ⟨y, HB.out.turns (Turns.of_below (S := fun _ => False) hW.below) id, HH.out⟩, st := RD.frame _ _ (fun _ => False) _ _ ST.out (.of_below hW.below) (fun _ _ e => e) (fun _ e => e.elim), sub := fun j hj => .inl hj, tu := .of_below hW.below })
  by_cases he : c.er ≠ 0
  · have XE := Lib.hid (show X = (false, c.er, c) by rw [← HX.out]; exact end_er he)
    have t1 : (c.er != 0) = true := by rw [bne_iff_ne]; exact he
    clear he hX hB hh hS hgS hO c6
    go_enter Try.func20, Try.ntmps20
    go_wp2_with fail
    go_quiet (fail)
    go_wp2_with fail
    go_ret2
    rw [XE.out]
    exact ⟨S0, rfl, SAME.out _ ((Drw.refl _).more _)⟩
  have he : c.er = 0 := by simpa using he
  have t1 : (c.er != 0) = false := by rw [bne_eq_false_iff_eq]; exact he
  by_cases hhe : c.held ≠ []
  · have XE := Lib.hid (show X = (false, c.er, c) by rw [← HX.out, he]; exact end_held he hhe)
    have c6' : w.cell? ⟨g, 6, none⟩ = some (.bool true) := by rw [c6, decide_eq_true hhe]
    clear he hX hB hh hS hgS hO c6 hhe
    go_enter Try.func20, Try.ntmps20
    go_wp2_with fail
    go_quiet (fail)
    go_wp2_with fail
    go_ret2
    rw [XE.out]
    exact ⟨S0, rfl, SAME.out _ ((Drw.refl _).more _)⟩
  have hhe : c.held = [] := by simpa using hhe
  have c6' : w.cell? ⟨g, 6, none⟩ = some (.bool false) := by rw [c6, decide_eq_false (by simpa using hhe)]
  obtain ⟨⟨b, e, s', i'⟩, hK⟩ : ∃ Y, tk R (R.mu c.s * 17 + 17) c.s c.idle [] 1 = Y := ⟨_, rfl⟩
  have XE := Lib.hid (show X = if e = 0 then (false, 0, ⟨s', c.pl, 0, i', b⟩) else if e = 41 then (true, 0, ⟨s', c.pl, 0, i', []⟩) else (false, e, ⟨s', c.pl, e, i', []⟩) by rw [← HX.out]; exact end_take he hhe hK)
  have hsum := (tk_sum hmu (R.mu c.s * 17 + 17) c.s c.idle [] 1 (hO.idle he) (by simp) (.inr (by have := hO.idle he; omega)))
  rw [hK] at hsum
  obtain ⟨k1, k2, k3, k4, k5⟩ := hsum
  dsimp only at k1 k2 k3 k4 k5
  have TK := Lib.hid (ctake_any RD T hme hen hmu g most c.pl c.er c.s S0 c.idle [] 1 w (by rw [← hhe]; exact ⟨y, hB, hh⟩) hS hgS hbd (Nat.le_refl _) (by omega) (hO.idle he) (by have := hO.bud; omega) (.inl (by decide)))
  rw [hK] at TK
  have HE0 := Lib.hid he
  clear hX hB hh hS hgS hO c6 hhe hK k3 k4 k5 he
  go_enter Try.func20, Try.ntmps20
  go_wp2_with fail
  refine TK.out.mono ?_
  rintro r w2 ⟨bv, S2, rfl, ho, hio, hst, hsub, hdis, htu⟩
  dsimp only at ho hio hst
  have ST2 := Lib.hid hst
  have SUB2 := Lib.hid hsub
  have TU2 := Lib.hid htu
  have NG2 := Lib.hid (show ¬ S2 g from fun h => by rcases SUB2.out g h with e | e; (exact NG.out e); (omega))
  obtain ⟨y2, hb2, -⟩ := hio
  have IB2 := Lib.hid hb2
  by_cases h0 : e = 0
  · obtain ⟨x, rfl⟩ : ∃ x, b = [x] := by
      have := (k1 h0).1
      match b, this with
      | [x], _ => exact ⟨x, rfl⟩
    subst h0
    obtain ⟨ab, nb, cb, rfl, hs⟩ := ho.slN
    obtain rfl : 1 = nb := hs.len
    obtain ⟨b1, o1, rfl, hcell⟩ := hs.2.2.2 0 x rfl
    have hcell : w2.cell? ⟨b1, o1, none⟩ = some (.int .u8 (B x)) := hcell
    have d5 := hb2.c5
    have d6 := hb2.c6
    have f5 := hb2.free 5
    have f6 := hb2.free 6
    have e6 : (w2.setCell ⟨g, 5, none⟩ (.int .u8 (B x))).cell? ⟨g, 6, none⟩ = some (.bool (decide (([] : List UInt8) ≠ []))) := (hb2.s5 x).c6
    have e6f : (w2.setCell ⟨g, 5, none⟩ (.int .u8 (B x))).frozen? ⟨g, 6, none⟩ = false := (hb2.s5 x).free 6
    have TT : Turns (fun j => j = g) w2 ((w2.setCell ⟨g, 5, none⟩ (.int .u8 (B x))).setCell ⟨g, 6, none⟩ (.bool true)) := (setT _ _ _).trans (setT _ _ _) fun _ _ e => e
    have FIN := Lib.hid (show InA St g most (.iface T v) w S0 ⟨s', c.pl, 0, i', [x]⟩ S2 ((w2.setCell ⟨g, 5, none⟩ (.int .u8 (B x))).setCell ⟨g, 6, none⟩ (.bool true)) from
      { io := ⟨x, by have := (hb2.s5 x).s6 true; rw [HE0.out] at this; exact this, .inr rfl⟩
        st := RD.frame _ _ _ _ _ ST2.out TT (fun j hj e => by subst e; exact NG2.out hj) (fun j e => by omega), sub := SUB2.out, tu := TU2.out.trans TT fun j hj e => .inr e })
    have XF := Lib.hid (show X = (false, 0, ⟨s', c.pl, 0, i', [x]⟩) by rw [XE.out, if_pos rfl])
    clear ho hst hsub hdis htu hb2 hs k1 k2 TT
    go_wp2_with fail
    go_ret2
    rw [XF.out]
    exact ⟨S2, rfl, FIN.out⟩
  · obtain rfl := k2 h0
    have t4 : (e == 0) = false := by rw [beq_eq_false_iff_ne]; exact h0
    by_cases h41 : e = 41
    · have t5 : (e == 41) = true := by rw [beq_iff_eq]; exact h41
      have FIN := Lib.hid (show InA St g most (.iface T v) w S0 ⟨s', c.pl, 0, i', []⟩ S2 w2 from { io := ⟨y2, by have := hb2; rw [HE0.out] at this; exact this, .inl rfl⟩, st := ST2.out, sub := SUB2.out, tu := TU2.out })
      have XF := Lib.hid (show X = (true, 0, ⟨s', c.pl, 0, i', []⟩) by rw [XE.out, if_neg h0, if_pos h41])
      clear ho hst hsub hdis htu hb2 k1 k2 h0 h41
      go_wp2_with fail
      go_ret2
      rw [XF.out]
      exact ⟨S2, rfl, FIN.out⟩
    · have t5 : (e == 41) = false := by rw [beq_eq_false_iff_ne]; exact h41
      have XF := Lib.hid (show X = (false, e, ⟨s', c.pl, e, i', []⟩) by rw [XE.out, if_neg h0, if_neg h41])
      clear ho hst hsub hdis htu hb2 k1 k2 h0 h41
      go_wp2_with fail
      refine (ends_any g most (.iface T v) c.pl c.er e i' y2 _ w2 IB2.out).mono ?_
      rintro r w3 ⟨rfl, hb3, ht3⟩
      have FIN := Lib.hid (show InA St g most (.iface T v) w S0 ⟨s', c.pl, e, i', []⟩ S2 w3 from
        { io := ⟨y2, hb3, .inl rfl⟩, st := RD.frame _ _ _ _ _ ST2.out ht3 (fun j hj e => by subst e; exact NG2.out hj) (fun j e => by omega), sub := SUB2.out, tu := TU2.out.trans ht3 fun j hj e => .inr e })
      clear hb3 ht3
      go_wp2_with fail
      go_ret2
      rw [XF.out]
      exact ⟨S2, rfl, FIN.out⟩
theorem cat_any (g : Nat) (most : Int) (rv : Value) (pl : Nat) (er : Int) (i : Nat) (held : List UInt8) (w : World) (h : InP w g most rv pl er i held) :
    Calls Try.prog 16 #[.pointer (some ⟨g, 0, none⟩)] w fun r w' => r = .returned (.int .i64 (pl : Nat)) ∧ w = w' := by
  obtain ⟨y, hB, -⟩ := h
  have c0 := hB.c0
  clear hB
  go_enter Try.func16, Try.ntmps16
  go_wp2_with fail
  go_ret
  exact ⟨rfl, rfl⟩
theorem cerr_any (g : Nat) (most : Int) (rv : Value) (pl : Nat) (er : Int) (i : Nat) (held : List UInt8) (w : World) (h : InP w g most rv pl er i held) :
    Calls Try.prog 15 #[.pointer (some ⟨g, 0, none⟩)] w fun r w' => r = .returned (.int .i64 er) ∧ w = w' := by
  obtain ⟨y, hB, -⟩ := h
  have c1 := hB.c1
  clear hB
  go_enter Try.func15, Try.ntmps15
  go_wp2_with fail
  go_ret
  exact ⟨rfl, rfl⟩
theorem newIn_any (T : TypeId) (v : Value) (most : Int) (w : World) (hm : most ≤ 9223372036854775807) :
    Calls Try.prog 11 #[.iface T v, .int .i64 most] w fun r w' => r = .returned (.pointer (some ⟨w.heap.size, 0, none⟩)) ∧ InP w' w.heap.size (max 0 most) (.iface T v) 0 0 0 [] ∧ Below w.heap.size w w' := by
  obtain ⟨m, hm0⟩ : ∃ m, max 0 most = m := ⟨_, rfl⟩
  rw [hm0]
  have hM1 : (if most > 0 then most else 0) = m := by split <;> omega
  have hM2 : (if 0 < most then most else 0) = m := by split <;> omega
  go_enter Try.func11, Try.ntmps11
  go_wp2_with fail
  go_ret
  exact ⟨rfl, ⟨0, heap_new w _, .inl rfl⟩, (Below.refl _ _).alloc (Nat.le_refl _) _⟩
end
end Go.Proofs.Ytpenbaafhbbmhaa

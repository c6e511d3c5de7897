/- wrong, beyond, hand: contracts over any writer. Conditions: numbers within reach. -/
import Derived.Test.YtjkgncogpefnbaaPipeGen
import Derived.RangeFuncBox
namespace Go.Proofs.Ytjkgncogpefnbaa
open Go.RowKit
set_option linter.unusedVariables false

theorem wrong_any (size : Int) (w : World) : Calls Try.prog 30 #[.int .i64 size] w fun e w' => e = .returned (.bool (decide (size < 1 ∨ 4096 < size))) ∧ w = w' := by
  by_cases h : size < 1
  · have H := Lib.hid (show decide (size < 1 ∨ 4096 < size) = true from decide_eq_true (.inl h))
    have t1 : decide (size < 1) = true := decide_eq_true h
    clear h
    go_enter Try.func30, Try.ntmps30
    go_wp2_with fail
    go_ret
    exact ⟨by rw [H.out]; rfl, rfl⟩
  · have t1 : decide (size < 1) = false := decide_eq_false h
    by_cases h2 : 4096 < size
    · have H := Lib.hid (show decide (size < 1 ∨ 4096 < size) = true from decide_eq_true (.inr h2))
      have t2 : decide (size > 4096) = true := decide_eq_true h2
      have t2' : decide (4096 < size) = true := decide_eq_true h2
      clear h h2
      go_enter Try.func30, Try.ntmps30
      go_wp2_with fail
      go_ret
      exact ⟨by rw [H.out]; rfl, rfl⟩
    · have H := Lib.hid (show decide (size < 1 ∨ 4096 < size) = false from decide_eq_false fun e => by rcases e with e | e; (exact h e); (exact h2 e))
      have t2 : decide (size > 4096) = false := decide_eq_false h2
      have t2' : decide (4096 < size) = false := decide_eq_false h2
      clear h h2
      go_enter Try.func30, Try.ntmps30
      go_wp2_with fail
      go_ret
      exact ⟨by rw [H.out]; rfl, rfl⟩
theorem boxed_set {w : World} {g : Nat} {t : TypeId} {v : Value} (h : Boxed w g t v) (u : Value) : Boxed (w.setCell ⟨g, 0, none⟩ u) g t u := by
  unfold Boxed at h ⊢
  rw [set_block (i := 0) h]; rfl
theorem boxed_turns {w w' : World} {S : Nat → Prop} {g : Nat} {t : TypeId} {v : Value} (h : Boxed w g t v) (ht : Turns S w w') (hs : ¬ S g) : Boxed w' g t v := ht.heap h hs
theorem beyond_any (gw wt : Nat) (mv : Bool) (w : World) (h : Boxed w gw 80 (.int .i64 (wt : Nat))) (hw : wt ≤ 1000) :
    Calls Try.prog 35 #[.pointer (some ⟨gw, 0, none⟩), .bool mv] w fun e w' => e = .returned (.bool (decide (waitN wt mv = 16))) ∧ Boxed w' gw 80 (.int .i64 (waitN wt mv : Nat)) ∧ Turns (fun j => j = gw) w w' := by
  have c0 := cell_of h 0 rfl
  have f0 := free_block h 0
  have r1 : IntKind.i64.wrap ((wt : Int) + 1) = (wt : Int) + 1 := IntWalk.i64_in _ (by omega)
  have h1 := boxed_set h (.int .i64 ((wt : Int) + 1))
  have H1 := Lib.hid h1
  have T1 := Lib.hid (Turns.set (S := fun j => j = gw) w (b := gw) (i := 0) rfl (.int .i64 ((wt : Int) + 1)))
  have d0 : (w.setCell ⟨gw, 0, none⟩ (.int .i64 ((wt : Int) + 1))).cell? ⟨gw, 0, none⟩ = some (.int .i64 ((wt : Int) + 1)) := cell_of h1 0 rfl
  have e0 : (w.setCell ⟨gw, 0, none⟩ (.int .i64 ((wt : Int) + 1))).frozen? ⟨gw, 0, none⟩ = false := free_block h1 0
  clear h1
  cases mv with
  | true =>
    have h2 := boxed_set H1.out (.int .i64 0)
    have g0 : ((w.setCell ⟨gw, 0, none⟩ (.int .i64 ((wt : Int) + 1))).setCell ⟨gw, 0, none⟩ (.int .i64 0)).cell? ⟨gw, 0, none⟩ = some (.int .i64 0) := cell_of h2 0 rfl
    have H2 := Lib.hid h2
    clear h h2
    go_enter Try.func35, Try.ntmps35
    go_wp2_with fail
    go_ret
    exact ⟨rfl, H2.out, T1.out.trans (T := fun j => j = gw) (Turns.set (S := fun j => j = gw) _ (b := gw) rfl _) fun _ _ e => e⟩
  | false =>
    have t1 : ((wt : Int) + 1 == 16) = decide (waitN wt false = 16) := by rw [waitN_idle, Bool.eq_iff_iff]; simp; omega
    have H2 := Lib.hid (show ((wt : Int) + 1) = ((waitN wt false : Nat) : Int) from rfl)
    clear h
    go_enter Try.func35, Try.ntmps35
    go_wp2_with fail
    go_ret
    exact ⟨rfl, H1.out, T1.out⟩
/-- behind hand -/
def HandPost {τ : Type} (V : Wm τ) (St : τ → (Nat → Prop) → World → Prop) (gw : Nat) (t : τ) (S : Nat → Prop) (w : World) (xs : List UInt8) (wt : Nat) (e : Ending) (w' : World) : Prop :=
  ∃ tk f t' wt' S', hndT V t xs wt 0 = (tk, f, t', wt') ∧ e = .returned (.tuple #[.int .i64 (tk : Nat), .int .i64 f]) ∧ St t' S' w' ∧ (∀ j, S' j → S j ∨ w.heap.size ≤ j) ∧ Turns (fun j => S j ∨ j = gw) w w' ∧ Boxed w' gw 80 (.int .i64 (wt' : Nat)) ∧ V.cnt t' ≤ V.cnt t + (xs.length * 17 + 17) ∧ (f ≠ 34 → V.room t' ≤ V.room t + tk) ∧ tk ≤ xs.length ∧ (f = 0 → wt' ≤ 15)
set_option maxRecDepth 100000 in
set_option maxHeartbeats 2000000 in
theorem hand_any {τ : Type} {V : Wm τ} {fn : FuncId} {v : Value} {lo Bd Rm bd : Nat} {St : τ → (Nat → Prop) → World → Prop} (WR : Writer V fn v lo Bd Rm St bd) (T : TypeId)
    (hme : ∀ w, (method 215 T v "Write").run Try.prog w = .ok (fn, v) w) (hen : ∀ (args : Array Value) (W : World), (callFunc fn args).run Try.prog W = .ok (.enter fn args) W)
    (t : τ) (S : Nat → Prop) (w : World) (ap : Option Addr) (n c : Nat) (xs : List UInt8) (gw wt : Nat) (hSt : St t S w) (hx : Sl Bf w ap n c xs) (hn : n ≤ 65537) (hd : ∀ b o, ap = some ⟨b, o, none⟩ → ¬ S b ∧ b < w.heap.size ∧ b ≠ gw) (hB : Boxed w gw 80 (.int .i64 (wt : Nat))) (hgS : ¬ S gw) (hwt : wt ≤ 15) (hbd : bd ≤ gw)
    (hcnt : V.cnt t + (n * 17 + 17) < Bd) (hroom : V.room t + n ≤ Rm) :
    Calls Try.prog 31 #[.iface T v, .slice ap n c, .pointer (some ⟨gw, 0, none⟩)] w (HandPost V St gw t S w xs wt) := by
  obtain rfl : xs.length = n := hx.len
  obtain ⟨X, hX⟩ : ∃ X, hndT V t xs wt 0 = X := ⟨_, rfl⟩
  have HX := Lib.hid hX
  have ST := Lib.hid hSt
  have HXX := Lib.hid hx
  have HD := Lib.hid hd
  have HB := Lib.hid hB
  have HGS := Lib.hid hgS
  have HBL := Lib.hid (show gw < w.heap.size from (Array.getElem?_eq_some_iff.1 hB).1)
  have HC := Lib.hid hcnt
  have HR := Lib.hid hroom
  clear hX hSt hx hd hB hgS hcnt hroom
  go_enter Try.func31, Try.ntmps31
  go_wp2_with fail
  go_loopw [1, 8] (fun s1 s8 wr => ∃ (a : Option Addr) (m cc tk F wt1 : Nat) (ys : List UInt8) (t1 : τ) (S1 : Nat → Prop), s1 = .slice a m cc ∧ s8 = .int .i64 (tk : Nat) ∧ Sl Bf wr a m cc ys ∧ (∀ b o, a = some ⟨b, o, none⟩ → b < w.heap.size ∧ ¬ S b ∧ b ≠ gw) ∧ St t1 S1 wr ∧ (∀ j, S1 j → S j ∨ w.heap.size ≤ j) ∧ Turns (fun j => S j ∨ j = gw) w wr ∧
      Boxed wr gw 80 (.int .i64 (wt1 : Nat)) ∧ wt1 ≤ 15 ∧ hnd V F t1 ys wt1 tk = X ∧ ys.length * 17 + 16 - wt1 < F ∧ V.cnt t1 + F ≤ V.cnt t + (xs.length * 17 + 17) ∧ V.room t1 ≤ V.room t + tk ∧ tk + ys.length = xs.length)
    (fun s1 _ wr => (match s1, wr.cell? ⟨gw, 0, none⟩ with | .slice _ m _, some (.int _ k) => m * 17 + 16 - k.toNat | _, _ => 0))
  case atStart => exact ⟨ap, _, c, 0, xs.length * 17 + 17 - wt, wt, xs, t, S, rfl, rfl, HXX.out, fun b o e => ⟨(HD.out b o e).2.1, (HD.out b o e).1, (HD.out b o e).2.2⟩, ST.out, fun j hj => .inl hj, .refl _ _, HB.out, hwt, HX.out, by omega, by omega, by omega, by omega⟩
  case round =>
    obtain ⟨a, m, cc, tk, F, wt1, ys, t1, S1, rfl, rfl, hs, hd1, hSt1, hS1, hT, hBx, hw15, hE, hF, hc1, hr1, htk⟩ := hrel
    obtain rfl : ys.length = m := hs.len
    obtain ⟨F, rfl⟩ : ∃ F', F = F' + 1 := ⟨F - 1, by omega⟩
    have bx0 : wr.cell? ⟨gw, 0, none⟩ = some (.int .i64 (wt1 : Nat)) := cell_of hBx 0 rfl
    have MB := Lib.hid bx0
    have SL := Lib.hid hs
    have D1 := Lib.hid hd1
    have ST1 := Lib.hid hSt1
    have S1N := Lib.hid hS1
    have T1 := Lib.hid hT
    have BX := Lib.hid hBx
    have E1 := Lib.hid hE
    have HC1 := Lib.hid hc1
    have HR1 := Lib.hid hr1
    have TK := Lib.hid htk
    clear hs hd1 hSt1 hS1 hT hBx hE hc1 hr1 htk
    by_cases h0 : ys.length = 0
    · have h00 : ys = [] := List.eq_nil_of_length_eq_zero h0
      have HE := Lib.hid (show X = (tk, 0, t1, wt1) by rw [← E1.out, h00]; exact hnd_nil)
      have t1f : decide ((ys.length : Int) > 0) = false := decide_eq_false (by omega)
      have t1f' : decide (0 < ys.length) = false := decide_eq_false (by omega)
      clear h0 h00
      go_wp2_with fail
      go_ret2
      have hh := HX.out
      rw [HE.out] at hh
      exact ⟨tk, 0, t1, wt1, S1, hh, rfl, ST1.out, S1N.out, T1.out, BX.out, by have := HC1.out; omega, fun _ => HR1.out, by have := TK.out; omega, fun _ => hw15⟩
    · have hne : ys ≠ [] := fun e => h0 (by rw [e]; rfl)
      have NE := Lib.hid hne
      have t1f : decide ((ys.length : Int) > 0) = true := decide_eq_true (by omega)
      have t1f' : decide (0 < ys.length) = true := decide_eq_true (by omega)
      have hnb := V.numB t1 ys (by have := TK.out; omega)
      have hcS := V.cntS t1 ys
      have hrS := V.roomS t1 ys
      have WC := Lib.hid (WR.write t1 S1 wr a ys.length cc ys ST1.out (by have := HC1.out; have := HC.out; omega) (by have := HR1.out; have := HR.out; have := TK.out; omega) (by have := TK.out; omega) SL.out (fun b o e hn0 => fun hb => by
        rcases S1N.out b hb with h | h
        · exact (D1.out b o e).2.1 h
        · have := (D1.out b o e).1; omega))
      obtain ⟨k, hk⟩ : ∃ k, V.num t1 ys = k := ⟨_, rfl⟩
      obtain ⟨er, her⟩ : ∃ er, V.er t1 ys = er := ⟨_, rfl⟩
      obtain ⟨t2, ht2⟩ : ∃ t2, V.nxt t1 ys = t2 := ⟨_, rfl⟩
      rw [hk, her, ht2] at WC
      rw [hk] at hnb
      rw [ht2] at hcS
      rw [hk, ht2] at hrS
      have HK := Lib.hid hk
      have HER := Lib.hid her
      have HT2 := Lib.hid ht2
      have HCS := Lib.hid hcS
      have HRS := Lib.hid hrS
      clear hk her ht2 hne hcS hrS h0
      go_wp2_with fail
      refine WC.out.mono ?_
      rintro e w2 ⟨rfl, S2, hst2, hs2, ht2⟩
      have ST2 := Lib.hid hst2
      have S2N := Lib.hid (fun j (hj : S2 j) => show S j ∨ w.heap.size ≤ j by
        rcases hs2 j hj with h | h
        · exact S1N.out j h
        · have := T1.out.size; exact .inr (by omega))
      have T2 := Lib.hid (T1.out.trans (T := S1) ht2 fun j hj h => by
        rcases S1N.out j h with h | h
        · exact .inl h
        · omega)
      have hgS1 : ¬ S1 gw := fun h => by
        rcases S1N.out gw h with h | h
        · exact HGS.out h
        · have := HBL.out; omega
      have BX2 := Lib.hid (boxed_turns BX.out ht2 hgS1)
      have SL2 := Lib.hid (SL.out.turns ht2 fun b o e hn0 h => by
        rcases S1N.out b h with h | h
        · exact (D1.out b o e).2.1 h
        · have := (D1.out b o e).1; omega)
      have hsz2 : w.heap.size ≤ w2.heap.size := T2.out.size
      clear WC hst2 hs2 ht2 hgS1 ST1 T1 BX bx0
      by_cases hbad : k < 0 ∨ (ys.length : Int) < k
      · have HE := Lib.hid (show X = (tk, 34, t2, wt1) by rw [← E1.out, hnd_bad NE.out (by rw [HK.out]; exact hbad), HT2.out])
        have FIN := Lib.hid (show HandPost V St gw t S w xs wt (.returned (.tuple #[.int .i64 (tk : Nat), .int .i64 34])) w2 from ⟨tk, 34, t2, wt1, S2, HX.out.trans HE.out, rfl, ST2.out, S2N.out, T2.out, BX2.out, by have := HC1.out; have := HCS.out; omega, fun e => absurd rfl e, by have := TK.out; omega, fun e => by cases e⟩)
        by_cases hk0 : k < 0
        · have t2f : decide (k < 0) = true := decide_eq_true hk0
          clear hbad hk0
          go_wp2_with fail
          go_ret2
          exact FIN.out
        · have t2f : decide (k < 0) = false := decide_eq_false hk0
          have t3f : decide (k > (ys.length : Int)) = true := decide_eq_true (by omega)
          have t3f' : decide ((ys.length : Int) < k) = true := decide_eq_true (by omega)
          clear hbad hk0
          go_wp2_with fail
          go_ret2
          exact FIN.out
      · have HNB := Lib.hid hbad
        obtain ⟨m, rfl⟩ : ∃ m : Nat, k = m := ⟨k.toNat, by omega⟩
        have hm : m ≤ ys.length := by omega
        have hrs := HRS.out (by omega) (by omega)
        rw [Int.toNat_natCast] at hrs
        have HRM := Lib.hid hrs
        have t2f : decide ((m : Int) < 0) = false := decide_eq_false (by omega)
        have t3f : decide ((m : Int) > (ys.length : Int)) = false := decide_eq_false (by omega)
        have t3f' : decide (ys.length < m) = false := decide_eq_false (by omega)
        have htk2 : tk + m ≤ 65537 := by have := TK.out; omega
        have r1 : IntKind.i64.wrap ((tk : Int) + m) = (tk : Int) + m := IntWalk.i64_in _ (by omega)
        have hcut := fun W : World => run_cutfrom eltB W a ys.length cc .i64 m hm
        clear hbad hrs hnb
        by_cases he0 : er = 0
        · subst he0
          have BY := Lib.hid (beyond_any gw wt1 (decide (0 < m)) w2 BX2.out (by omega))
          obtain ⟨wt2, hwt2⟩ : ∃ x, waitN wt1 (decide (0 < m)) = x := ⟨_, rfl⟩
          rw [hwt2] at BY
          have HW2 := Lib.hid hwt2
          have hwle : wt2 ≤ 16 ∧ (m = 0 → wt2 = wt1 + 1) ∧ (0 < m → wt2 = 0) := by
            rw [← hwt2]
            refine ⟨?_, fun h => ?_, fun h => ?_⟩
            · unfold waitN; split <;> omega
            · subst h; rfl
            · rw [decide_eq_true h]; rfl
          clear hwt2
          have hdd : decide (0 < V.num t1 ys) = decide (0 < m) := by rw [HK.out, decide_eq_decide]; omega
          have HDD := Lib.hid hdd
          clear hdd
          go_wp2_with fail
          refine BY.out.mono ?_
          rintro e w3 ⟨rfl, hb3, ht3⟩
          have hgS2 : ¬ S2 gw := fun h => by
            rcases S2N.out gw h with h | h
            · exact HGS.out h
            · have := HBL.out; omega
          have ST3 := Lib.hid (WR.frame t2 S2 _ w2 w3 ST2.out ht3 (fun j hj e => hgS2 (e ▸ hj)) (fun j e => by omega))
          have T3 := Lib.hid (T2.out.trans (T := fun j => j = gw) ht3 fun j _ h => .inr h)
          have BX3 := Lib.hid hb3
          have SL3 := Lib.hid (SL2.out.turns ht3 fun b o e hn0 h => (D1.out b o e).2.2 h)
          have MB3 := Lib.hid (show w3.cell? ⟨gw, 0, none⟩ = some (.int .i64 (wt2 : Nat)) from cell_of hb3 0 rfl)
          clear hb3 ht3 hgS2 BY ST2 T2 BX2 SL2
          by_cases h16 : wt2 = 16
          · have HEE := Lib.hid (show X = (tk + m, 33, t2, 16) by
              have := hnd_idle (V := V) (F := F) (t := t1) (p := ys) (wt := wt1) (tk := tk) NE.out (by rw [HK.out]; exact HNB.out) HER.out (by rw [HDD.out, HW2.out]; exact h16)
              rw [← E1.out, this, HK.out, HT2.out, Int.toNat_natCast])
            have FIN := Lib.hid (show HandPost V St gw t S w xs wt (.returned (.tuple #[.int .i64 ((tk : Int) + m), .int .i64 33])) w3 from ⟨tk + m, 33, t2, 16, S2, HX.out.trans HEE.out, rfl, ST3.out, S2N.out, T3.out, by have := BX3.out; rw [h16] at this; exact this, by have := HC1.out; have := HCS.out; omega, fun _ => by have := HR1.out; have := HRM.out; omega, by have := TK.out; omega, fun e => by cases e⟩)
            have t5 : decide (wt2 = 16) = true := decide_eq_true h16
            clear h16 hwle
            go_wp2_with fail
            go_ret2
            exact FIN.out
          · have HEE := Lib.hid (show hnd V F t2 (ys.drop m) wt2 (tk + m) = X by
              have := hnd_go (V := V) (F := F) (t := t1) (p := ys) (wt := wt1) (tk := tk) NE.out (by rw [HK.out]; exact HNB.out) HER.out (by rw [HDD.out, HW2.out]; exact h16)
              rw [← E1.out, this, HDD.out, HW2.out, HK.out, HT2.out, Int.toNat_natCast])
            have t5 : decide (wt2 = 16) = false := decide_eq_false h16
            have HFR := Lib.hid (SL3.out.from m hm)
            have HAD := Lib.hid (fun (b o : Nat) (e : adv a cc m = some ⟨b, o, none⟩) => show b < w.heap.size ∧ ¬ S b ∧ b ≠ gw from by
              obtain ⟨b0, o0, e0, _⟩ := SL.out.lt (by have := t1f'; simpa using this)
              have hb0 : b = b0 := by
                unfold adv at e
                split at e
                · rw [e0] at e; injection e with e; injection e with e; exact e.symm
                · rw [e0] at e; simp only [Option.map_some, Addr.add] at e; split at e <;> (injection e with e; injection e with e; exact e.symm)
              subst hb0
              exact D1.out b o0 e0)
            go_wp2_with fail
            go_roundw
            case rel => exact ⟨_, _, _, tk + m, F, wt2, ys.drop m, t2, S2, rfl, by go_num, HFR.out, HAD.out, ST3.out, S2N.out, T3.out, BX3.out, by omega, HEE.out, by rw [List.length_drop]; rcases Nat.eq_zero_or_pos m with h | h; (have := hwle.2.1 h; omega); (have := hwle.2.2 h; omega), by have := HC1.out; have := HCS.out; omega, by have := HR1.out; have := HRM.out; omega, by rw [List.length_drop]; have := TK.out; omega⟩
            case measure =>
              simp only [MB.out, MB3.out, Int.toNat_natCast]
              rcases Nat.eq_zero_or_pos m with h | h
              · have := hwle.2.1 h; omega
              · have := hwle.2.2 h; omega
        · have HEE := Lib.hid (show X = (tk + m, er, t2, wt1) by
            have := hnd_err (V := V) (F := F) (t := t1) (p := ys) (wt := wt1) (tk := tk) NE.out (by rw [HK.out]; exact HNB.out) (by rw [HER.out]; exact he0)
            rw [← E1.out, this, HK.out, HER.out, HT2.out, Int.toNat_natCast])
          have t4f : (er != 0) = true := by rw [bne_iff_ne]; exact he0
          have FIN := Lib.hid (show HandPost V St gw t S w xs wt (.returned (.tuple #[.int .i64 ((tk : Int) + m), .int .i64 er])) w2 from ⟨tk + m, er, t2, wt1, S2, HX.out.trans HEE.out, rfl, ST2.out, S2N.out, T2.out, BX2.out, by have := HC1.out; have := HCS.out; omega, fun _ => by have := HR1.out; have := HRM.out; omega, by have := TK.out; omega, fun e => absurd e he0⟩)
          clear he0
          go_wp2_with fail
          go_ret2
          exact FIN.out
end Go.Proofs.Ytjkgncogpefnbaa

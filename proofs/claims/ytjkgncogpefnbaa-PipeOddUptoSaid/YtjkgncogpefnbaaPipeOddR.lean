/- The document's reader and writer of any behaviour: contracts. Conditions: numbers within reach. -/
import Derived.Test.YtjkgncogpefnbaaPipeOddP
import Derived.Deep.DeepCutAuto
namespace Go.Proofs.Ytjkgncogpefnbaa
open Go.RowKit
set_option linter.unusedVariables false
set_option linter.unusedSimpArgs false

theorem B_add1 (x : UInt8) : IntKind.u8.wrap (B x + B 1) = B (x + 1) := B_succ x
/-- behind the reader's odd -/
def RoddPost (g lo gp n : Nat) (zs : List UInt8) (w : World) (vn ve vs : Value) (ss nn ee : List Int) (calls : Nat) (x : UInt8) (r : Ending) (w' : World) : Prop :=
  r = .returned (.tuple #[.int .i64 (numO nn calls 0), .int .i64 (erO nn ee calls 31)]) ∧ ∃ vs', w'.heap[g]? = some (.cells (rocells vn ve (calls + 1) (upN x (cl (numO nn calls 0) n)) vs') 48 (0, 0)) ∧ OwT fZs w' lo 3 vs' (ss ++ [(n : Int)]) ∧ (∀ j, vs'.ownBlock = some j → (vs.ownBlock = some j ∨ w.heap.size ≤ j)) ∧
    Turns (fun j => j = g ∨ j = gp ∨ vs.ownBlock = some j) w w' ∧ w'.heap[gp]? = some (.cells ((ups x (cl (numO nn calls 0) n) ++ zs.drop (cl (numO nn calls 0) n)).map Bf).toArray 5 (0, 0))
set_option maxRecDepth 100000 in
set_option maxHeartbeats 2000000 in
theorem rodd_any (g lo gp n c : Nat) (zs : List UInt8) (w : World) (vn ve vs : Value) (ss nn ee : List Int) (calls : Nat) (x : UInt8) (hb : w.heap[g]? = some (.cells (rocells vn ve (calls + 1) x vs) 48 (0, 0))) (h1 : Nums w lo vn nn) (h2 : Nums w lo ve ee) (h3 : OwT fZs w lo 3 vs ss) (hsl : ss.length = calls)
    (hown : ∀ j, vs.ownBlock = some j → j ≠ g ∧ j ≠ gp) (hg : lo ≤ g) (hgp : lo ≤ gp) (hgg : g ≠ gp) (hp : w.heap[gp]? = some (.cells (zs.map Bf).toArray 5 (0, 0))) (hn : n ≤ zs.length) (hnc : n ≤ c) (hz : n ≤ 140737488351232) (hc : calls ≤ 1099511627776) :
    Calls Try.prog 39 #[.pointer (some ⟨g, 0, none⟩), .slice (some ⟨gp, 0, none⟩) n c] w (RoddPost g lo gp n zs w vn ve vs ss nn ee calls x) := by
  obtain ⟨as', cs', rfl, hss⟩ := h3.slZ
  have hlw : lo ≤ w.heap.size := by have := (Array.getElem?_eq_some_iff.1 hb).1; omega
  have ba := (Below.refl w.heap.size w).alloc (Nat.le_refl _) (.cells #[.int .i64 (n : Nat)] 3)
  have LIT := Lib.hid (Sl.lit (f := fZ) w 3 #[.int .i64 (n : Nat)] [(n : Int)] 1 rfl rfl).toT
  have c11 : w.cell? ⟨g, 11, none⟩ = some (.slice as' ss.length cs') := cell_of hb 11 rfl
  have HB := Lib.hid hb; have H1 := Lib.hid h1; have H2 := Lib.hid h2; have H3 := Lib.hid h3; have HO := Lib.hid hown; have HP := Lib.hid hp; have HGG := Lib.hid hgg; have HSL := Lib.hid hsl
  have BA := Lib.hid ba
  clear hb h1 h2 h3 hown hp hgg hsl hss ba
  go_enter Try.func39, Try.ntmps39
  go_upto_region 2 with (at_builtin; refine wpList_appT eltTZ rfl (.tmp 13) (.tmp 16) rfl lo _ ss (by rfl) (H3.out.alloc _) _ 1 1 [(n : Int)] (by rfl) LIT.out (by have := HSL.out; unfold maxLen; omega) (by have := HSL.out; omega) (by simp; omega) _ rfl ?_; intro v2 w2 h2 hg2 hv2 hb2; obtain ⟨a2, n2, c2, rfl⟩ : ∃ a n c, v2 = .slice a n c := (by obtain ⟨a, c, e, _⟩ := h2.slZ; exact ⟨_, _, _, e⟩); have BE := (Turns.of_below (S := fun j => Value.ownBlock (.slice as' ss.length cs') = some j) BA.out).trans (T := fun j => Value.ownBlock (.slice as' ss.length cs') = some j) (Turns.of_grown hg2 fun j e => e) (fun _ _ e => e); have OW2 := Lib.hid h2; have V2 := Lib.hid hv2; have HB2 := Lib.hid (BE.heap HB.out (fun e => (HO.out _ e).1 rfl)); have s11 := cell_of HB2.out 11 rfl; have f11 := free_block HB2.out 11; have BE2 := Lib.hid BE; clear h2 hg2 hv2 hb2 BE)
  have hsz1 : (w.alloc (.cells #[.int .i64 (n : Nat)] 3)).heap.size = w.heap.size + 1 := by simp
  have hgl : g < w.heap.size := (Array.getElem?_eq_some_iff.1 HB.out).1
  have hv2 : ∀ j, Value.ownBlock (.slice a2 n2 c2) = some j → Value.ownBlock (.slice as' ss.length cs') = some j ∨ w.heap.size ≤ j := fun j hj => by
    rcases V2.out with e | e
    · exact .inl (e ▸ hj)
    · rw [e] at hj; injection hj with hj; exact .inr (by omega)
  have TA := Lib.hid ((BE2.out.mono (T := fun j => j = g ∨ j = gp ∨ Value.ownBlock (.slice as' ss.length cs') = some j) fun j _ e => .inr (.inr e)).trans (Turns.set (S := fun j => j = g ∨ j = gp ∨ Value.ownBlock (.slice as' ss.length cs') = some j) w2 (b := g) (i := 11) (.inl rfl) (.slice a2 n2 c2)) fun _ _ e => e)
  have NB := Lib.hid (show (w2.setCell ⟨g, 11, none⟩ (.slice a2 n2 c2)).heap[g]? = some (.cells (rocells vn ve (calls + 1) x (.slice a2 n2 c2)) 48 (0, 0)) from set_block (i := 11) HB2.out (.slice a2 n2 c2))
  have NO := Lib.hid (show OwT fZs (w2.setCell ⟨g, 11, none⟩ (.slice a2 n2 c2)) lo 3 (.slice a2 n2 c2) (ss ++ [(n : Int)]) from OW2.out.of_block fun j hj => Below.heap_setCell _ _ _ _ (show j ≠ g from fun e => by
    rcases hv2 j hj with h | h
    · exact (HO.out j h).1 e
    · omega))
  have HV2 := Lib.hid hv2
  have tb : ∀ j, j = g ∨ j = gp ∨ Value.ownBlock (.slice as' ss.length cs') = some j → lo ≤ j := fun j e => by
    rcases e with e | e | e
    · omega
    · omega
    · exact (H3.out.lt j e).1
  have HTB := Lib.hid tb
  have NP := Lib.hid (show (w2.setCell ⟨g, 11, none⟩ (.slice a2 n2 c2)).heap[gp]? = some (.cells (zs.map Bf).toArray 5 (0, 0)) from (Below.heap_setCell _ _ _ _ HGG.out.symm).trans (BE2.out.heap HP.out (fun e => (HO.out _ e).2 rfl)))
  clear BE2 HB2 OW2 V2 s11 f11 c11 hv2 tb hsz1
  generalize w2.setCell ⟨g, 11, none⟩ (.slice a2 n2 c2) = W at *
  have N1 := Lib.hid (H1.out.turns TA.out HTB.out)
  have N2 := Lib.hid (H2.out.turns TA.out HTB.out)
  obtain ⟨z, hzz⟩ : ∃ z, numO nn calls 0 = z := ⟨_, rfl⟩
  obtain ⟨er, hee⟩ : ∃ z, erO nn ee calls 31 = z := ⟨_, rfl⟩
  obtain ⟨q, hq⟩ : ∃ q, cl z n = q := ⟨_, rfl⟩
  have TO := Lib.hid (fun (V : World) (hV : Drw W V) => show Calls Try.prog 36 #[vn, ve, .int .i64 ((calls : Int) + 1), .int .i64 0, .int .i64 31] V (fun r w' => r = .returned (.tuple #[.int .i64 z, .int .i64 er]) ∧ Drw V w') from by
    have := rtold_any lo vn ve nn ee calls 0 31 V (N1.out.turns (.of_below hV.below) (fun _ e => e.elim) (T := fun _ => False)) (N2.out.turns (.of_below hV.below) (fun _ e => e.elim) (T := fun _ => False)) (by omega)
    rwa [hzz, hee] at this)
  have hql : q ≤ n := by rw [← hq]; exact cl_le _ _
  have QL := Lib.hid (show ∀ j, j < q ↔ (j : Int) < z ∧ j < n from fun j => by rw [← hq]; exact cl_lt)
  have FIN := Lib.hid (show ∀ w', Turns (fun j => j = g ∨ j = gp) W w' → w'.heap[g]? = some (.cells (rocells vn ve (calls + 1) (upN x q) (.slice a2 n2 c2)) 48 (0, 0)) → w'.heap[gp]? = some (.cells ((ups x q ++ zs.drop q).map Bf).toArray 5 (0, 0)) → RoddPost g lo gp n zs w vn ve (.slice as' ss.length cs') ss nn ee calls x (.returned (.tuple #[.int .i64 z, .int .i64 er])) w' from fun w' ht hb2 hr2 => by
    unfold RoddPost
    rw [hzz, hee, hq]
    refine ⟨rfl, (.slice a2 n2 c2), hb2, NO.out.turns ht fun j hj e => ?_, HV2.out, TA.out.trans ht fun j _ e => by rcases e with e | e; (exact .inl e); (exact .inr (.inl e)), hr2⟩
    have hgpl : gp < w.heap.size := (Array.getElem?_eq_some_iff.1 HP.out).1
    rcases HV2.out j hj with h | h
    · rcases e with e | e
      · exact (HO.out j h).1 e
      · exact (HO.out j h).2 e
    · rcases e with e | e <;> omega)
  have d4 := cell_of NB.out 4 (v := .int .i64 ((calls + 1 : Nat) : Int)) rfl
  have d4' : W.cell? ⟨g, 4, none⟩ = some (.int .i64 ((calls : Int) + 1)) := d4
  have d7 := cell_of NB.out 7 (v := vn) rfl
  have d8 := cell_of NB.out 8 (v := ve) rfl
  have d9 := cell_of NB.out 9 (v := .int .u8 1) rfl
  have ru : ∀ x : UInt8, IntKind.u8.wrap (B x + 1) = B (x + 1) := B_succ
  clear hzz hee hq d4 TA NO LIT BA H1 H2 H3 HB HP
  go_cut [6, 7] (fun a b wx => a = .int .i64 z ∧ b = .int .i64 er ∧ Drw W wx)
  case first =>
    go_quiet ((go_at_call 36; exact Calls.quiet_of_drw (TO.out _ (by first | exact (Drw.refl _).more _ | exact ((Drw.refl _).more _).more _))))
    go_wp2_with fail
    go_meet
    exact ⟨rfl, rfl, by first | exact (Drw.refl _).more _ | exact ((Drw.refl _).more _).more _ | exact Drw.refl _⟩
  obtain ⟨rfl, rfl, hcw⟩ := hcut
  have DW := Lib.hid hcw.below
  have SB0 := Lib.hid (blk_keep NB.out DW.out)
  have HR0 := Lib.hid (blk_keep NP.out DW.out)
  have T0 := Lib.hid (Turns.of_below (S := fun j => j = g ∨ j = gp) DW.out)
  clear hcw DW d4' d7 d8 d9 NB NP
  go_wp2_with fail
  go_loopw [8] (fun y wr => ∃ j : Nat, j ≤ q ∧ y = .int .i64 (j : Nat) ∧ Turns (fun j => j = g ∨ j = gp) W wr ∧ wr.heap[g]? = some (.cells (rocells vn ve (calls + 1) (upN x j) (.slice a2 n2 c2)) 48 (0, 0)) ∧ wr.heap[gp]? = some (.cells ((ups x j ++ zs.drop j).map Bf).toArray 5 (0, 0))) (fun y _ => q - (intOf y).toNat)
  case atStart => exact ⟨0, Nat.zero_le _, rfl, T0.out, SB0.out, HR0.out⟩
  case round =>
    obtain ⟨j, hj, rfl, ht, hb, hr⟩ := hrel
    have TT := Lib.hid ht
    have SB := Lib.hid hb
    have HR := Lib.hid hr
    have e9 := cell_of hb 9 (v := .int .u8 1) rfl
    have e10 := cell_of hb 10 (v := .int .u8 (B (upN x j))) rfl
    have f10 := free_block hb 10
    clear ht hb hr T0 SB0 HR0
    by_cases hlt : j < q
    · obtain ⟨q1, q2⟩ := (QL.out j).1 hlt
      have t1 : decide ((j : Int) < z) = true := decide_eq_true q1
      have t2 : decide ((j : Int) < (n : Int)) = true := decide_eq_true (by omega)
      have t2' : decide (j < n) = true := decide_eq_true q2
      have hjz : j < zs.length := by omega
      have SB2 := Lib.hid (show (wr.setCell ⟨g, 10, none⟩ (.int .u8 (B (upN x j + 1)))).drew.heap[g]? = some (.cells (rocells vn ve (calls + 1) (upN x j + 1) (.slice a2 n2 c2)) 48 (0, 0)) from set_block (i := 10) SB.out (.int .u8 (B (upN x j + 1))))
      have T3 := Lib.hid (show Turns (fun b => b = g) wr (wr.setCell ⟨g, 10, none⟩ (.int .u8 (B (upN x j + 1)))).drew from (Turns.set (S := fun b => b = g) wr (b := g) (i := 10) rfl (.int .u8 (B (upN x j + 1)))).trans_below ((Below.refl _ _).drew))
      have HR2 := Lib.hid (T3.out.heap HR.out (fun e => HGG.out e.symm))
      clear q1
      go_wp2_with fail
      go_region
      generalize (wr.setCell ⟨g, 10, none⟩ (.int .u8 (B (upN x j + 1)))).drew = W1 at *
      have g10 := cell_of SB2.out 10 (v := .int .u8 (B (upN x j + 1))) rfl
      obtain ⟨y, ej⟩ : ∃ y, W1.cell? ⟨gp, j, none⟩ = some y := by
        have hjl : j < (ups x j ++ zs.drop j).length := by rw [List.length_append, List.length_drop, ups_len]; omega
        exact ⟨_, cell_of HR2.out j (by show (((ups x j ++ zs.drop j).map Bf).toArray)[j]? = _; rw [List.getElem?_toArray, List.getElem?_map, List.getElem?_eq_getElem hjl]; rfl)⟩
      have fj : W1.frozen? ⟨gp, j, none⟩ = false := free_block HR2.out j
      have NX := Lib.hid (show (W1.setCell ⟨gp, j, none⟩ (.int .u8 (B (upN x j + 1)))).heap[gp]? = some (.cells ((ups x (j + 1) ++ zs.drop (j + 1)).map Bf).toArray 5 (0, 0)) from by
        rw [← set_up hjz]
        exact set_block (i := j) HR2.out (.int .u8 (B (upN x j + 1))))
      have NB2 := Lib.hid (show (W1.setCell ⟨gp, j, none⟩ (.int .u8 (B (upN x j + 1)))).heap[g]? = some (.cells (rocells vn ve (calls + 1) (upN x (j + 1)) (.slice a2 n2 c2)) 48 (0, 0)) from (Below.heap_setCell _ _ _ _ HGG.out).trans SB2.out)
      have NT := Lib.hid ((TT.out.trans (T3.out.mono (T := fun j => j = g ∨ j = gp) fun _ _ e => .inl e) fun _ _ e => e).trans (Turns.set (S := fun j => j = g ∨ j = gp) W1 (b := gp) (i := j) (.inr rfl) (.int .u8 (B (upN x j + 1)))) fun _ _ e => e)
      clear SB2 T3 HR2 e9 e10 f10
      go_wp2_with fail
      go_roundw
      case rel => exact ⟨j + 1, by omega, by go_num, NT.out, NB2.out, NX.out⟩
      case measure => simp [intOf]; omega
    · obtain rfl : j = q := by omega
      by_cases hjz : (j : Int) < z
      · have hjn : ¬ j < n := fun h => hlt ((QL.out j).2 ⟨hjz, h⟩)
        have t1 : decide ((j : Int) < z) = true := decide_eq_true hjz
        have t2 : decide ((j : Int) < (n : Int)) = false := decide_eq_false (by omega)
        have t2' : decide (j < n) = false := decide_eq_false hjn
        clear hlt hjz hjn
        go_wp2_with fail
        go_ret2
        exact FIN.out _ TT.out SB.out HR.out
      · have t1 : decide ((j : Int) < z) = false := decide_eq_false hjz
        clear hlt hjz
        go_wp2_with fail
        go_ret2
        exact FIN.out _ TT.out SB.out HR.out
end Go.Proofs.Ytjkgncogpefnbaa

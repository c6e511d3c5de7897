/- The law's reader and writer of any behaviour, in memory: contracts of Read and Write. Conditions: numbers within reach. -/
import Derived.Test.YtjkgncogpefnbaaPipeOddT
namespace Go.Proofs.Ytjkgncogpefnbaa
open Go.RowKit
set_option linter.unusedVariables false
set_option linter.unusedSimpArgs false

theorem B_succ (x : UInt8) : IntKind.u8.wrap (B x + 1) = B (x + 1) := by
  rw [IntKind.wrap_u8]
  show (((x.toNat : Nat) : Int) + 1) % 256 = ((((x + 1 : UInt8)).toNat : Nat) : Int)
  rw [UInt8.toNat_add]
  have := x.toNat_lt
  simp
theorem methOR (g : Nat) (w : World) : (method 215 44 (.pointer (some ⟨g, 0, none⟩)) "Read").run Try.prog w = .ok (56, .pointer (some ⟨g, 0, none⟩)) w := by kernel_rfl
theorem methOW (g : Nat) (w : World) : (method 215 44 (.pointer (some ⟨g, 0, none⟩)) "Write").run Try.prog w = .ok (57, .pointer (some ⟨g, 0, none⟩)) w := by kernel_rfl
/-- behind Read -/
def ORPost (g lo bd : Nat) (s : Od) (S : Nat → Prop) (w : World) (gp n : Nat) (zs : List UInt8) (r : Ending) (w' : World) : Prop :=
  r = .returned (.tuple #[.int .i64 (oddM.num s n), .int .i64 (oddM.er s n)]) ∧ OdP g lo bd (oddM.nxt s n) S w' ∧ Turns (fun j => j = g ∨ j = gp) w w' ∧ w'.heap[gp]? = some (.cells ((oddM.lay s n ++ zs.drop (oddM.lay s n).length).map Bf).toArray 5 (0, 0))
set_option maxRecDepth 100000 in
set_option maxHeartbeats 2000000 in
theorem oread_any (g lo bd : Nat) (s : Od) (S : Nat → Prop) (gp n c : Nat) (zs : List UInt8) (w : World) (h : OdP g lo bd s S w) (hc : s.calls ≤ 4611686018427387904) (hn : n ≤ zs.length) (hnc : n ≤ c) (hz : n ≤ 140737488351232) (hp : w.heap[gp]? = some (.cells (zs.map Bf).toArray 5 (0, 0))) (hg : ¬ S gp) (hgb : bd ≤ gp) :
    Calls Try.prog 56 #[.pointer (some ⟨g, 0, none⟩), .slice (some ⟨gp, 0, none⟩) n c] w (ORPost g lo bd s S w gp n zs) := by
  obtain ⟨vn, ve, vt, hb, h1, h2, h3, h4⟩ := h.blk
  have hgl := (h.inS g h.own).1
  have hbl := h.bl
  have TD := Lib.hid (otold_any g bd _ 46 vn ve s.n s.e s.calls 0 31 w hb rfl rfl rfl h1 h2 (by omega) hc)
  have SET := Lib.hid (set_block (i := 2) hb (.int .i64 ((s.calls : Int) + 1)))
  have hgp : g ≠ gp := fun e => hg (e ▸ h.own)
  have H := Lib.hid h
  have T1 := Lib.hid (Turns.set (S := fun j => j = g ∨ j = gp) w (b := g) (i := 2) (.inl rfl) (.int .i64 ((s.calls : Int) + 1)))
  have HP := Lib.hid (show (w.setCell ⟨g, 2, none⟩ (.int .i64 ((s.calls : Int) + 1))).heap[gp]? = some (.cells (zs.map Bf).toArray 5 (0, 0)) from (Below.heap_setCell _ _ _ _ (Ne.symm hgp)).trans hp)
  have HM := Lib.hid (And.intro h1 (And.intro h2 (And.intro h3 h4)))
  have HG := Lib.hid hg
  have HNE := Lib.hid hgp
  obtain ⟨z, hzz⟩ : ∃ z, numO s.n s.calls 0 = z := ⟨_, rfl⟩
  obtain ⟨ee, hee⟩ : ∃ z, erO s.n s.e s.calls 31 = z := ⟨_, rfl⟩
  obtain ⟨q, hq⟩ : ∃ q, cl z n = q := ⟨_, rfl⟩
  rw [hzz, hee] at TD
  have hql : q ≤ n := by rw [← hq]; exact cl_le _ _
  have QL := Lib.hid (show ∀ j, j < q ↔ (j : Int) < z ∧ j < n from fun j => by rw [← hq]; exact cl_lt)
  have FIN := Lib.hid (show ∀ w', Turns (fun j => j = g ∨ j = gp) w w' → w'.heap[g]? = some (.cells #[vn, ve, .int .i64 ((s.calls : Int) + 1), .int .u8 (B (upN s.nx q)), vt] 46 (0, 0)) → w'.heap[gp]? = some (.cells ((ups s.nx q ++ zs.drop q).map Bf).toArray 5 (0, 0)) → ORPost g lo bd s S w gp n zs (.returned (.tuple #[.int .i64 z, .int .i64 ee])) w' from fun w' ht hb2 hr2 => by
    have tb : ∀ j, j = g ∨ j = gp → bd ≤ j := fun j e => by rcases e with e | e <;> omega
    refine ⟨by show _ = Ending.returned (.tuple #[.int .i64 (numO s.n s.calls 0), .int .i64 (erO s.n s.e s.calls 31)]); rw [hzz, hee], ⟨⟨vn, ve, vt, ?_, h1.turns ht tb, h2.turns ht tb, h3.turns ht fun j hj e => ?_, h4⟩, h.own, fun j hj => ⟨(h.inS j hj).1, Nat.lt_of_lt_of_le (h.inS j hj).2 ht.size⟩, h.bl⟩, ht, ?_⟩
    · show w'.heap[g]? = some (.cells #[vn, ve, .int .i64 ((s.calls : Int) + 1), .int .u8 (B (upN s.nx (cl (numO s.n s.calls 0) n))), vt] 46 (0, 0))
      rw [hzz, hq]; exact hb2
    · rcases e with e | e
      · exact (h4 j hj).2 e
      · exact hg (e ▸ (h4 j hj).1)
    · show w'.heap[gp]? = some (.cells ((ups s.nx (cl (numO s.n s.calls 0) n) ++ zs.drop (ups s.nx (cl (numO s.n s.calls 0) n)).length).map Bf).toArray 5 (0, 0))
      rw [hzz, hq, ups_len]; exact hr2)
  have ru : ∀ x : UInt8, IntKind.u8.wrap (B x + 1) = B (x + 1) := B_succ
  clear hb h1 h2 h3 h4 h hp hg hzz hee hq hgp
  go_enter Try.func56, Try.ntmps56
  go_wp2_with fail
  refine TD.out.mono ?_
  rintro e w1 ⟨rfl, hd⟩
  have D1 := Lib.hid hd.below
  clear hd TD
  have T2 := Lib.hid (T1.out.trans_below D1.out)
  have SET2 := Lib.hid (blk_keep SET.out D1.out)
  have HP2 := Lib.hid (blk_keep HP.out D1.out)
  clear T1 SET HP D1
  go_wp2_with fail
  go_loopw [8] (fun x wr => ∃ j : Nat, j ≤ q ∧ x = .int .i64 (j : Nat) ∧ Turns (fun j => j = g ∨ j = gp) w wr ∧ wr.heap[g]? = some (.cells #[vn, ve, .int .i64 ((s.calls : Int) + 1), .int .u8 (B (upN s.nx j)), vt] 46 (0, 0)) ∧ wr.heap[gp]? = some (.cells ((ups s.nx j ++ zs.drop j).map Bf).toArray 5 (0, 0))) (fun x _ => q - (intOf x).toNat)
  case atStart => exact ⟨0, Nat.zero_le _, rfl, T2.out, SET2.out, HP2.out⟩
  case round =>
    obtain ⟨j, hj, rfl, ht, hb, hr⟩ := hrel
    have TT := Lib.hid ht
    have SB := Lib.hid hb
    have HR := Lib.hid hr
    have e3 := cell_of hb 3 (v := .int .u8 (B (upN s.nx j))) rfl
    have f3 := free_block hb 3
    clear ht hb hr T2 SET2 HP2
    by_cases hlt : j < q
    · obtain ⟨q1, q2⟩ := (QL.out j).1 hlt
      have t1 : decide ((j : Int) < z) = true := decide_eq_true q1
      have t2 : decide ((j : Int) < (n : Int)) = true := decide_eq_true (by omega)
      have t2' : decide (j < n) = true := decide_eq_true q2
      have hjz : j < zs.length := by omega
      have SB2 := set_block (i := 3) SB.out (.int .u8 (B (upN s.nx j + 1)))
      have T3 := Turns.set (S := fun b => b = g) wr (b := g) (i := 3) rfl (.int .u8 (B (upN s.nx j + 1)))
      have HR2 := T3.heap HR.out (fun e => HNE.out e.symm)
      have g3 := cell_of SB2 3 (v := .int .u8 (B (upN s.nx j + 1))) rfl
      obtain ⟨y, ej⟩ : ∃ y, (wr.setCell ⟨g, 3, none⟩ (.int .u8 (B (upN s.nx j + 1)))).cell? ⟨gp, j, none⟩ = some y := by
        have hjl : j < (ups s.nx j ++ zs.drop j).length := by rw [List.length_append, List.length_drop, ups_len]; omega
        exact ⟨_, cell_of HR2 j (by show (((ups s.nx j ++ zs.drop j).map Bf).toArray)[j]? = _; rw [List.getElem?_toArray, List.getElem?_map, List.getElem?_eq_getElem hjl]; rfl)⟩
      have fj : (wr.setCell ⟨g, 3, none⟩ (.int .u8 (B (upN s.nx j + 1)))).frozen? ⟨gp, j, none⟩ = false := free_block HR2 j
      have NX := Lib.hid (show ((wr.setCell ⟨g, 3, none⟩ (.int .u8 (B (upN s.nx j + 1)))).setCell ⟨gp, j, none⟩ (.int .u8 (B (upN s.nx j + 1)))).heap[gp]? = some (.cells ((ups s.nx (j + 1) ++ zs.drop (j + 1)).map Bf).toArray 5 (0, 0)) from by
        rw [← set_up hjz]
        exact set_block (i := j) HR2 (.int .u8 (B (upN s.nx j + 1))))
      have NB := Lib.hid (show ((wr.setCell ⟨g, 3, none⟩ (.int .u8 (B (upN s.nx j + 1)))).setCell ⟨gp, j, none⟩ (.int .u8 (B (upN s.nx j + 1)))).heap[g]? = some (.cells #[vn, ve, .int .i64 ((s.calls : Int) + 1), .int .u8 (B (upN s.nx (j + 1))), vt] 46 (0, 0)) from (Below.heap_setCell _ _ _ _ HNE.out).trans SB2)
      have NT := Lib.hid ((TT.out.trans (T3.mono (T := fun j => j = g ∨ j = gp) fun _ _ e => .inl e) fun _ _ e => e).trans (Turns.set (S := fun j => j = g ∨ j = gp) (wr.setCell ⟨g, 3, none⟩ (.int .u8 (B (upN s.nx j + 1)))) (b := gp) (i := j) (.inr rfl) (.int .u8 (B (upN s.nx j + 1)))) fun _ _ e => e)
      clear SB2 T3 HR2 q1
      go_wp2_with fail
      go_roundw
      case rel => exact ⟨j + 1, by omega, by go_num, NT.out, NB.out, NX.out⟩
      case measure => simp [intOf]; omega
    · obtain rfl : j = q := by omega
      by_cases hjz : (j : Int) < z
      · have hjn : ¬ j < n := fun h => hlt ((QL.out j).2 ⟨hjz, h⟩)
        have t1 : decide ((j : Int) < z) = true := decide_eq_true hjz
        have t2 : decide ((j : Int) < (n : Int)) = false := decide_eq_false (by omega)
        have t2' : decide (j < n) = false := decide_eq_false hjn
        clear hlt hjz hjn
        go_wp2_with fail
        go_ret2
        exact FIN.out _ TT.out SB.out HR.out
      · have t1 : decide ((j : Int) < z) = false := decide_eq_false hjz
        clear hlt hjz
        go_wp2_with fail
        go_ret2
        exact FIN.out _ TT.out SB.out HR.out
/-- behind Write -/
def OWPost (g lo bd : Nat) (s : Od) (S : Nat → Prop) (w : World) (xs : List UInt8) (r : Ending) (w' : World) : Prop :=
  r = .returned (.tuple #[.int .i64 (oddW.num s xs), .int .i64 (oddW.er s xs)]) ∧ ∃ S', OdP g lo bd (oddW.nxt s xs) S' w' ∧ (∀ j, S' j → S j ∨ w.heap.size ≤ j) ∧ Turns S w w'
set_option maxRecDepth 100000 in
set_option maxHeartbeats 2000000 in
theorem owrite_any (g lo bd : Nat) (s : Od) (S : Nat → Prop) (ap : Option Addr) (n c : Nat) (xs : List UInt8) (w : World) (h : OdP g lo bd s S w) (hc : s.calls ≤ 4611686018427387904) (hz : s.took.length + n ≤ 140737488355328) (hp : Sl Bf w ap n c xs) (hg : ∀ b o, ap = some ⟨b, o, none⟩ → 0 < n → ¬ S b) :
    Calls Try.prog 57 #[.pointer (some ⟨g, 0, none⟩), .slice ap n c] w (OWPost g lo bd s S w xs) := by
  obtain ⟨vn, ve, vt, hb, h1, h2, h3, h4⟩ := h.blk
  obtain ⟨at', nt, ct, rfl, zt⟩ := h3.slN
  obtain rfl : xs.length = n := hp.len
  have hnt : s.took.length = nt := zt.len
  have hgl := (h.inS g h.own).1
  have hbl := h.bl
  have TD := Lib.hid (otold_any g bd _ 46 vn ve s.n s.e s.calls (xs.length : Nat) 0 w hb rfl rfl rfl h1 h2 (by omega) hc)
  have SET := Lib.hid (set_block (i := 2) hb (.int .i64 ((s.calls : Int) + 1)))
  have H := Lib.hid h
  have T1 := Lib.hid (Turns.set (S := S) w (b := g) (i := 2) h.own (.int .i64 ((s.calls : Int) + 1)))
  have HP := Lib.hid hp
  have HT := Lib.hid (show OwT fB (w.setCell ⟨g, 2, none⟩ (.int .i64 ((s.calls : Int) + 1))) lo 5 (.slice at' nt ct) s.took from h3.of_block fun j hj => Below.heap_setCell _ _ _ _ (h4 j hj).2)
  have HTS := Lib.hid h4
  have HM := Lib.hid (And.intro h1 h2)
  have HG := Lib.hid hg
  have HLO := Lib.hid (show lo ≤ w.heap.size from by have := h.inS g h.own; omega)
  obtain ⟨z, hzz⟩ : ∃ z, numO s.n s.calls (xs.length : Nat) = z := ⟨_, rfl⟩
  obtain ⟨ee, hee⟩ : ∃ z, erO s.n s.e s.calls 0 = z := ⟨_, rfl⟩
  obtain ⟨k, hk⟩ : ∃ k, cl z xs.length = k := ⟨_, rfl⟩
  rw [hzz, hee] at TD
  have hkl : k ≤ xs.length := by rw [← hk]; exact cl_le _ _
  have hkm : max 0 (min z (xs.length : Int)) = (k : Int) := by rw [← hk]; exact (cl_cast _ _).symm
  have ZZ := Lib.hid (And.intro hzz (And.intro hee hk))
  have HKM := Lib.hid hkm
  have hcut := fun V : World => run_cutto eltB V ap xs.length c .i64 k (by have := hp.le; omega)
  have s4 : (w.setCell ⟨g, 2, none⟩ (.int .i64 ((s.calls : Int) + 1))).cell? ⟨g, 4, none⟩ = some (.slice at' nt ct) := cell_of SET.out 4 rfl
  have HPW := Lib.hid (show Sl Bf (w.setCell ⟨g, 2, none⟩ (.int .i64 ((s.calls : Int) + 1))) ap xs.length c xs from hp.turns T1.out fun b o e hn0 e2 => hg b o e hn0 e2)
  have hsz : (w.setCell ⟨g, 2, none⟩ (.int .i64 ((s.calls : Int) + 1))).heap.size = w.heap.size := by simp
  clear hb h1 h2 h3 h4 h hp hg hzz hee hk zt hnt
  go_enter Try.func57, Try.ntmps57
  go_wp2_with fail
  refine TD.out.mono ?_
  rintro e w1 ⟨rfl, m, rfl⟩
  clear TD
  generalize w.setCell ⟨g, 2, none⟩ (.int .i64 ((s.calls : Int) + 1)) = W at *
  have hsz2 : W.heap.size = w.heap.size := hsz
  have HSZ := Lib.hid hsz2
  clear hsz hsz2
  have XK := Lib.hid (HPW.out.upto k hkl)
  have GB := Lib.hid (fun (V w3 : World) (hg3 : V.grownBy w3 (Value.ownBlock (.slice at' nt ct))) (hV : V.heap = W.heap) => (show w3.heap[g]? = W.heap[g]? ∧ w3.cell? ⟨g, 4, none⟩ = some (.slice at' nt ct) ∧ w3.frozen? ⟨g, 4, none⟩ = false from by
    have e : w3.heap[g]? = W.heap[g]? := by
      rw [hg3.block g (by rw [hV]; exact (Array.getElem?_eq_some_iff.1 SET.out).1) (fun e => (HTS.out g e.symm).2 rfl), hV]
    exact ⟨e, cell_of (e.trans SET.out) 4 rfl, free_block (e.trans SET.out) 4⟩))
  go_wp2_with fail
  go_region_law (refine step_appT eltTB rfl (.tmp 19) (.tmp 26) rfl lo _ s.took (by simp [Act.eval, Act.put]) HT.out ap k c (xs.take k) (by simp [Act.eval, Act.put]) XK.out.toT (by unfold maxLen; omega) (by omega) (by have := HLO.out; have := HSZ.out; simp <;> omega) (s.took ++ xs.take k) rfl ?_; intro v3 w3 h3 hg3 hv3 hb3; obtain ⟨a3, n3, c3, rfl, z3⟩ := h3.slN; have H3 := Lib.hid h3; have G3 := Lib.hid hg3; have V3 := Lib.hid hv3; obtain ⟨gb1, gb2, gb3⟩ := GB.out _ w3 hg3 rfl; have GB3 := Lib.hid gb1; clear h3 hg3 hv3 hb3 z3 gb1)
  all_goals
    go_wp2_with fail
    go_ret2
    have hb5 := set_block (i := 4) (GB3.out.trans SET.out) (.slice a3 n3 c3)
    have hgz : g < w.heap.size := (H.out.inS g H.out.own).2
    have hWw := HSZ.out
    have hv3 : ∀ j, Value.ownBlock (.slice a3 n3 c3) = some j → Value.ownBlock (.slice at' nt ct) = some j ∨ j = w.heap.size := fun j hj => by
      rcases V3.out with e | e
      · exact .inl (e ▸ hj)
      · rw [e] at hj; injection hj with hj; exact .inr (by rw [← hj]; exact hWw)
    have hng : ∀ j, Value.ownBlock (.slice a3 n3 c3) = some j → j ≠ g := fun j hj e => by
      rcases hv3 j hj with h | h
      · exact (HTS.out j h).2 e
      · omega
    have t0 : Turns S w (W.drewN m).drew := T1.out.trans_below (show Below W.heap.size W (W.drewN m).drew from keep_drewN (keep_drewN (Below.refl _ _) m) 1)
    have t1 : Turns S w w3 := t0.trans (T := S) (.of_grown G3.out fun j e => (HTS.out j e).1) fun _ _ e => e
    have t2 : Turns S w (w3.setCell ⟨g, 4, none⟩ (.slice a3 n3 c3)) := t1.trans (T := S) (Turns.set w3 H.out.own _) fun _ _ e => e
    have hz3 : w.heap.size ≤ w3.heap.size := t1.size
    have tb : ∀ j, S j → bd ≤ j := fun j hj => Nat.le_trans hbl (H.out.inS j hj).1
    obtain ⟨z1, z2, z4⟩ := ZZ.out
    refine ⟨by show _ = Ending.returned (.tuple #[.int .i64 (numO s.n s.calls (xs.length : Nat)), .int .i64 (erO s.n s.e s.calls 0)]); rw [z1, z2]; rfl, fun j => S j ∨ Value.ownBlock (.slice a3 n3 c3) = some j,
      ⟨⟨vn, ve, .slice a3 n3 c3, hb5, HM.out.1.turns t2 tb, HM.out.2.turns t2 tb, ?_, fun j hj => ⟨.inr hj, hng j hj⟩⟩, .inl H.out.own, fun j hj => ?_, hbl⟩, fun j hj => ?_, t2⟩
    · show OwT fB _ lo 5 (.slice a3 n3 c3) (s.took ++ xs.take (cl (numO s.n s.calls (xs.length : Nat)) xs.length))
      rw [z1, z4]
      exact H3.out.of_block fun j hj => Below.heap_setCell _ _ _ _ (hng j hj)
    · rcases hj with hj | hj
      · exact ⟨(H.out.inS j hj).1, Nat.lt_of_lt_of_le (H.out.inS j hj).2 t2.size⟩
      · have := H3.out.lt j hj
        exact ⟨this.1, by simpa using this.2⟩
    · rcases hj with hj | hj
      · exact .inl hj
      · rcases hv3 j hj with h | h
        · exact .inl (HTS.out j h).1
        · exact .inr (by omega)
theorem oddR (g lo bd : Nat) : Reader oddM 56 (.pointer (some ⟨g, 0, none⟩)) lo 4611686018427387904 (OdP g lo bd) bd where
  frame _ _ _ _ _ h ht hd hb := h.turns ht hd hb
  inS _ _ _ h := h.inS
  read s S w gp n c zs h hc hn hnc hn2 hp hg hgb := (oread_any g lo bd s S gp n c zs w h (by have : s.calls < 4611686018427387904 := hc; omega) hn hnc (by omega) hp hg hgb).mono fun e w' ⟨h1, h2, h3, h4⟩ =>
    ⟨h1, S, h2, fun j hj => .inl hj, h3.mono fun j _ hj => by rcases hj with rfl | rfl; (exact .inl h.own); (exact .inr rfl), h4⟩
theorem oddWr (g lo bd : Nat) : Writer oddW 57 (.pointer (some ⟨g, 0, none⟩)) lo 4611686018427387904 140737488355328 (OdP g lo bd) bd where
  frame _ _ _ _ _ h ht hd hb := h.turns ht hd hb
  inS _ _ _ h := h.inS
  write t S w ap n c xs h hc hr hn hp hg := (owrite_any g lo bd t S ap n c xs w h (by have : t.calls < 4611686018427387904 := hc; omega) hr hp hg).mono fun e w' ⟨h1, S', h2, h3, h4⟩ => ⟨h1, S', h2, h3, h4⟩
end Go.Proofs.Ytjkgncogpefnbaa

/- Several texts in one: CurOddM, CurOddT, CurOddP, CurOddR, CurOddK, Alike. Each has its own sentence and conditions below. -/
import Derived.Test.YtpenbaafhbbmhaaPipeGen
import Derived.Test.YtpenbaafhbbmhaaPipeRefGen
import Derived.Deep.DeepCutAuto
import Derived.Test.YtpenbaafhbbmhaaHelpS
/- Readers and writers of any behaviour: plain words; what they tell. No condition. -/
namespace Go.Proofs.Ytpenbaafhbbmhaa
open Go.RowKit
set_option linter.unusedVariables false
set_option linter.unusedSimpArgs false

/-- what a call tells: the numbers, the errors, how many calls there were -/
def numO (n : List Int) (calls : Nat) (all : Int) : Int := (n[calls]?).getD all
def erO (n e : List Int) (calls : Nat) (behind : Int) : Int := if calls < n.length then (e[calls]?).getD 0 else behind
theorem numO_in {n : List Int} {c : Nat} {a m : Int} (h : n[c]? = some m) : numO n c a = m := by unfold numO; rw [h]; rfl
theorem numO_out {n : List Int} {c : Nat} {a : Int} (h : n.length ≤ c) : numO n c a = a := by unfold numO; rw [List.getElem?_eq_none h]; rfl
theorem erO_in {n e : List Int} {c : Nat} {a m : Int} (h : c < n.length) (h2 : e[c]? = some m) : erO n e c a = m := by unfold erO; rw [if_pos h, h2]; rfl
theorem erO_ok {n e : List Int} {c : Nat} {a : Int} (h : c < n.length) (h2 : e.length ≤ c) : erO n e c a = 0 := by unfold erO; rw [if_pos h, List.getElem?_eq_none h2]; rfl
theorem erO_out {n e : List Int} {c : Nat} {a : Int} (h : n.length ≤ c) : erO n e c a = a := by unfold erO; rw [if_neg (by omega)]
/-- a number, where it may be -/
def cl (z : Int) (m : Nat) : Nat := (max 0 (min z m)).toNat
theorem cl_le (z : Int) (m : Nat) : cl z m ≤ m := by unfold cl; omega
theorem cl_eq {z : Int} {m : Nat} (h0 : 0 ≤ z) (h1 : z ≤ m) : (cl z m : Int) = z := by unfold cl; omega
theorem cl_cast (z : Int) (m : Nat) : (cl z m : Int) = max 0 (min z m) := by unfold cl; omega
theorem cl_lt {z : Int} {m j : Nat} : j < cl z m ↔ (j : Int) < z ∧ j < m := by unfold cl; omega
/-- bytes that go up -/
def upN (x : UInt8) : Nat → UInt8
  | 0 => x
  | k + 1 => upN x k + 37
def ups (x : UInt8) (k : Nat) : List UInt8 := (List.range k).map fun i => upN x (i + 1)
theorem ups_len (x : UInt8) (k : Nat) : (ups x k).length = k := by unfold ups; simp
theorem ups_succ (x : UInt8) (k : Nat) : ups x (k + 1) = ups x k ++ [upN x (k + 1)] := by unfold ups; rw [List.range_succ, List.map_append]; rfl
theorem set_up {x : UInt8} {zs : List UInt8} {j : Nat} (hj : j < zs.length) : ((ups x j ++ zs.drop j).map Bf).toArray.setIfInBounds j (Bf (upN x (j + 1))) = ((ups x (j + 1) ++ zs.drop (j + 1)).map Bf).toArray := by
  apply Array.ext'
  rw [Array.toList_setIfInBounds]
  simp only
  rw [← List.map_set, ups_succ, List.append_assoc, List.set_append_right _ _ (by rw [ups_len]; exact Nat.le_refl _), ups_len, Nat.sub_self, List.drop_eq_getElem_cons hj]
  rfl
/-- of any behaviour: numbers, errors, calls, the last byte laid, what was taken, the sizes of the calls -/
structure Od where
  n : List Int
  e : List Int
  calls : Nat
  nx : UInt8
  took : List UInt8
  sz : List Int
  okn : Ints n
  okz : sz.length = calls
def oddM : Rm Od where
  num s _ := numO s.n s.calls 0
  er s _ := erO s.n s.e s.calls 31
  lay s m := ups s.nx (cl (numO s.n s.calls 0) m)
  nxt s m := { s with calls := s.calls + 1, nx := upN s.nx (cl (numO s.n s.calls 0) m), sz := s.sz ++ [(m : Int)], okz := by rw [List.length_append, s.okz]; rfl }
  mu s := s.n.length - s.calls
  cnt s := s.calls
  numB s m _ := by
    by_cases h : s.calls < s.n.length
    · rw [numO_in (List.getElem?_eq_getElem h)]
      have := s.okn _ (List.getElem_mem h)
      omega
    · rw [numO_out (by omega)]; omega
  layN s m := by rw [ups_len]; exact cl_le _ _
  layE s m h0 h1 := by rw [ups_len]; exact cl_eq h0 h1
  muL s m he hn _ := by
    have h : s.calls < s.n.length := by
      by_cases h : s.calls < s.n.length
      · exact h
      · rw [numO_out (by omega)] at hn; omega
    show s.n.length - (s.calls + 1) < s.n.length - s.calls
    omega
  muE s m _ := by show s.n.length - (s.calls + 1) ≤ s.n.length - s.calls; omega
  cntS _ _ := rfl
  vol s m := (s.n.length - s.calls) * m
  volS s m h0 h1 := by
    show (s.n.length - (s.calls + 1)) * m + (numO s.n s.calls 0).toNat ≤ (s.n.length - s.calls) * m
    by_cases h : s.calls < s.n.length
    · obtain ⟨k, hk⟩ : ∃ k, s.n.length - s.calls = k + 1 := ⟨s.n.length - s.calls - 1, by omega⟩
      rw [hk, show s.n.length - (s.calls + 1) = k by omega, Nat.succ_mul]
      omega
    · rw [numO_out (by omega), show s.n.length - (s.calls + 1) = s.n.length - s.calls by omega]
      exact Nat.le_refl _
def oddW : Wm Od where
  num t p := numO t.n t.calls p.length
  er t _ := erO t.n t.e t.calls 0
  nxt t p := { t with calls := t.calls + 1, took := t.took ++ p.take (cl (numO t.n t.calls p.length) p.length), sz := t.sz ++ [(p.length : Int)], okz := by rw [List.length_append, t.okz]; rfl }
  cnt t := t.calls
  room t := t.took.length
  numB t p hp := by
    by_cases h : t.calls < t.n.length
    · rw [numO_in (List.getElem?_eq_getElem h)]
      have := t.okn _ (List.getElem_mem h)
      omega
    · rw [numO_out (by omega)]; omega
  cntS _ _ := rfl
  roomS t p h0 h1 := by
    show (t.took ++ p.take (cl (numO t.n t.calls p.length) p.length)).length ≤ t.took.length + (numO t.n t.calls p.length).toNat
    have := cl_eq h0 h1
    rw [List.length_append, List.length_take]
    omega
/-- numbers of the arguments' -/
def Nums (w : World) (bd : Nat) (v : Value) (l : List Int) : Prop := ∃ a c, v = .slice a l.length c ∧ Sl fZ w a l.length c l ∧ ∀ b o, a = some ⟨b, o, none⟩ → 0 < l.length → b < bd
theorem Nums.turns {w w' : World} {bd : Nat} {v : Value} {l : List Int} {T : Nat → Prop} (h : Nums w bd v l) (ht : Turns T w w') (hT : ∀ j, T j → bd ≤ j) : Nums w' bd v l := by
  obtain ⟨a, c, rfl, hs, hb⟩ := h
  exact ⟨a, c, rfl, hs.turns ht fun b o e hn he => by have := hb b o e hn; have := hT b he; omega, hb⟩
def ocells (vn ve : Value) (calls : Nat) (vs : Value) (x : UInt8) (vt : Value) : Array Value := #[vn, ve, .int .i64 (calls : Nat), vs, .int .u8 (B x), vt]
/-- one in block g, the blocks of its own are S; its numbers lie below bd -/
structure OdP (g lo bd : Nat) (s : Od) (S : Nat → Prop) (w : World) : Prop where
  blk : ∃ vn ve vs vt, w.heap[g]? = some (.cells (ocells vn ve s.calls vs s.nx vt) 82 (0, 0)) ∧ Nums w bd vn s.n ∧ Nums w bd ve s.e ∧ OwT fZs w lo 3 vs s.sz ∧ (∀ j, vs.ownBlock = some j → S j ∧ j ≠ g) ∧ OwT fB w lo 5 vt s.took ∧ (∀ j, vt.ownBlock = some j → S j ∧ j ≠ g) ∧ ∀ j, vt.ownBlock = some j → vs.ownBlock ≠ some j
  own : S g
  inS : ∀ j, S j → lo ≤ j ∧ j < w.heap.size
  bl : bd ≤ lo
theorem OdP.turns {g lo bd : Nat} {s : Od} {S T : Nat → Prop} {w w' : World} (h : OdP g lo bd s S w) (ht : Turns T w w') (hd : ∀ j, S j → ¬ T j) (hT : ∀ j, T j → bd ≤ j) : OdP g lo bd s S w' := by
  obtain ⟨vn, ve, vs, vt, hb, h1, h2, h3, h4, h5, h6, h7⟩ := h.blk
  exact ⟨⟨vn, ve, vs, vt, ht.heap hb (hd g h.own), h1.turns ht hT, h2.turns ht hT, h3.turns ht fun j hj => hd j (h4 j hj).1, h4, h5.turns ht fun j hj => hd j (h6 j hj).1, h6, h7⟩, h.own, fun j hj => ⟨(h.inS j hj).1, Nat.lt_of_lt_of_le (h.inS j hj).2 ht.size⟩, h.bl⟩
/-- the document's -/
def rocells (vn ve : Value) (calls : Nat) (x : UInt8) (vs : Value) : Array Value :=
  #[.slice none 0 0, .slice none 0 0, .int .i64 0, .bool false, .int .i64 (calls : Nat), .int .i64 0, .bool true, vn, ve, .int .u8 37, .int .u8 (B x), vs]
def kocells (vn ve : Value) (calls : Nat) (vt vs : Value) : Array Value := #[.slice none 0 0, .int .i64 0, .int .i64 (calls : Nat), vt, .bool true, vn, ve, vs]
/-- the document's reader of any behaviour -/
structure RoP (g lo : Nat) (s : Od) (S : Nat → Prop) (w : World) : Prop where
  blk : ∃ vn ve vs, w.heap[g]? = some (.cells (rocells vn ve s.calls s.nx vs) 33 (0, 0)) ∧ Nums w lo vn s.n ∧ Nums w lo ve s.e ∧ OwT fZs w lo 3 vs s.sz ∧ ∀ j, vs.ownBlock = some j → S j ∧ j ≠ g
  own : S g
  inS : ∀ j, S j → lo ≤ j ∧ j < w.heap.size
theorem RoP.turns {g lo : Nat} {s : Od} {S T : Nat → Prop} {w w' : World} (h : RoP g lo s S w) (ht : Turns T w w') (hd : ∀ j, S j → ¬ T j) (hT : ∀ j, T j → lo ≤ j) : RoP g lo s S w' := by
  obtain ⟨vn, ve, vs, hb, h1, h2, h3, h5⟩ := h.blk
  exact ⟨⟨vn, ve, vs, ht.heap hb (hd g h.own), h1.turns ht hT, h2.turns ht hT, h3.turns ht fun j hj => hd j (h5 j hj).1, h5⟩, h.own, fun j hj => ⟨(h.inS j hj).1, Nat.lt_of_lt_of_le (h.inS j hj).2 ht.size⟩⟩
/-- its writer -/
structure KoP (g lo : Nat) (s : Od) (S : Nat → Prop) (w : World) : Prop where
  blk : ∃ vn ve vt vs, w.heap[g]? = some (.cells (kocells vn ve s.calls vt vs) 66 (0, 0)) ∧ Nums w lo vn s.n ∧ Nums w lo ve s.e ∧ OwT fZs w lo 3 vs s.sz ∧ (∀ j, vs.ownBlock = some j → S j ∧ j ≠ g) ∧ OwT fB w lo 5 vt s.took ∧ (∀ j, vt.ownBlock = some j → S j ∧ j ≠ g) ∧ ∀ j, vt.ownBlock = some j → vs.ownBlock ≠ some j
  own : S g
  inS : ∀ j, S j → lo ≤ j ∧ j < w.heap.size
theorem KoP.turns {g lo : Nat} {s : Od} {S T : Nat → Prop} {w w' : World} (h : KoP g lo s S w) (ht : Turns T w w') (hd : ∀ j, S j → ¬ T j) (hT : ∀ j, T j → lo ≤ j) : KoP g lo s S w' := by
  obtain ⟨vn, ve, vt, vs, hb, h1, h2, h3, h5, h6, h7, h8⟩ := h.blk
  exact ⟨⟨vn, ve, vt, vs, ht.heap hb (hd g h.own), h1.turns ht hT, h2.turns ht hT, h3.turns ht fun j hj => hd j (h5 j hj).1, h5, h6.turns ht fun j hj => hd j (h7 j hj).1, h7, h8⟩, h.own, fun j hj => ⟨(h.inS j hj).1, Nat.lt_of_lt_of_le (h.inS j hj).2 ht.size⟩⟩
end Go.Proofs.Ytpenbaafhbbmhaa
/- What a call tells: contracts of told, the law's and the document's. Conditions: numbers within reach. -/
namespace Go.Proofs.Ytpenbaafhbbmhaa
open Go.RowKit
set_option linter.unusedVariables false
set_option linter.unusedSimpArgs false

theorem B_37 (x : UInt8) : IntKind.u8.wrap (B x + 37) = B (x + 37) := by
  rw [IntKind.wrap_u8]
  show (((x.toNat : Nat) : Int) + 37) % 256 = ((((x + 37 : UInt8)).toNat : Nat) : Int)
  rw [UInt8.toNat_add]
  have := x.toNat_lt
  simp
/-- behind told -/
def OTPost (g lo : Nat) (w : World) (vn ve vs vt : Value) (ss : List Int) (calls m : Nat) (x : UInt8) (z er : Int) (r : Ending) (w' : World) : Prop :=
  r = .returned (.tuple #[.int .i64 z, .int .i64 er]) ∧ ∃ vs', w'.heap[g]? = some (.cells (ocells vn ve (calls + 1) vs' x vt) 82 (0, 0)) ∧ OwT fZs w' lo 3 vs' (ss ++ [(m : Int)]) ∧ (∀ j, vs'.ownBlock = some j → (vs.ownBlock = some j ∨ w.heap.size ≤ j)) ∧ Turns (fun j => j = g ∨ vs.ownBlock = some j) w w'
set_option maxRecDepth 100000 in
set_option maxHeartbeats 2000000 in
theorem otold_any (g lo bd : Nat) (vn ve vs vt : Value) (x : UInt8) (n e ss : List Int) (calls m : Nat) (all behind : Int) (w : World) (hb : w.heap[g]? = some (.cells (ocells vn ve calls vs x vt) 82 (0, 0)))
    (hn : Nums w bd vn n) (he : Nums w bd ve e) (hs : OwT fZs w lo 3 vs ss) (hsl : ss.length = calls) (hown : ∀ j, vs.ownBlock = some j → j ≠ g) (hbl : bd ≤ lo) (hg : lo ≤ g) (hc : calls ≤ 17592186044000) :
    Calls Try.prog 81 #[.pointer (some ⟨g, 0, none⟩), .int .i64 (m : Nat), .int .i64 all, .int .i64 behind] w (OTPost g lo w vn ve vs vt ss calls m x (numO n calls all) (erO n e calls behind)) := by
  obtain ⟨as', cs', rfl, -⟩ := hs.slZ
  obtain ⟨W0, hW0⟩ : ∃ W, w.setCell ⟨g, 2, none⟩ (.int .i64 ((calls : Int) + 1)) = W := ⟨_, rfl⟩
  have T0 := Turns.set (S := fun j => j = g ∨ Value.ownBlock (.slice as' ss.length cs') = some j) w (b := g) (i := 2) (.inl rfl) (.int .i64 ((calls : Int) + 1))
  have S0 : (w.setCell ⟨g, 2, none⟩ (.int .i64 ((calls : Int) + 1))).heap[g]? = some (.cells (ocells vn ve (calls + 1) (.slice as' ss.length cs') x vt) 82 (0, 0)) := set_block (i := 2) hb (.int .i64 ((calls : Int) + 1))
  have O0 : OwT fZs (w.setCell ⟨g, 2, none⟩ (.int .i64 ((calls : Int) + 1))) lo 3 (.slice as' ss.length cs') ss := hs.of_block fun j hj => Below.heap_setCell _ _ _ _ (hown j hj)
  have z0 : (w.setCell ⟨g, 2, none⟩ (.int .i64 ((calls : Int) + 1))).heap.size = w.heap.size := by simp
  have hgl : g < w.heap.size := (Array.getElem?_eq_some_iff.1 hb).1
  have c2 : w.cell? ⟨g, 2, none⟩ = some (.int .i64 (calls : Nat)) := cell_of hb 2 rfl
  have f2 : w.frozen? ⟨g, 2, none⟩ = false := free_block hb 2
  have tb : ∀ j, j = g ∨ Value.ownBlock (.slice as' ss.length cs') = some j → bd ≤ j := fun j e => by
    rcases e with e | e
    · omega
    · have := (hs.lt j e).1; omega
  have TB := Lib.hid tb
  have HN := Lib.hid hn; have HE := Lib.hid he; have HSL := Lib.hid hsl; have HO := Lib.hid hown
  have HW0 := Lib.hid hW0
  rw [hW0] at T0 S0 O0 z0
  have TT0 := Lib.hid T0; have SS0 := Lib.hid S0; have OO0 := Lib.hid O0; have ZZ0 := Lib.hid z0
  have r1 : IntKind.i64.wrap ((calls : Int) + 1) = (calls : Int) + 1 := IntWalk.i64_in _ (by omega)
  have r2 : IntKind.i64.wrap ((calls : Int) + 1 - 1) = (calls : Int) := by rw [show (calls : Int) + 1 - 1 = (calls : Int) by omega]; exact IntWalk.i64_in _ (by omega)
  clear hb hn he hs hsl hown T0 S0 O0 z0 hW0 tb
  go_enter Try.func81, Try.ntmps81
  go_upto_region 2 with (fail)
  rw [HW0.out]
  have s3 : W0.cell? ⟨g, 3, none⟩ = some (.slice as' ss.length cs') := cell_of SS0.out 3 rfl
  have LIT := Lib.hid (Sl.lit (f := fZ) W0 3 #[.int .i64 (m : Nat)] [(m : Int)] 1 rfl rfl).toT
  have BA := Lib.hid ((Below.refl W0.heap.size W0).alloc (Nat.le_refl _) (.cells #[.int .i64 (m : Nat)] 3))
  go_upto_region 3 with (at_builtin; refine wpList_appT eltTZ rfl (.tmp 23) (.tmp 25) rfl lo _ ss (by rfl) (OO0.out.alloc _) _ 1 1 [(m : Int)] (by rfl) LIT.out (by have := HSL.out; unfold maxLen; omega) (by have := HSL.out; omega) (by have := ZZ0.out; simp; omega) _ rfl ?_; intro v2 w2 h2 hg2 hv2 hb2; obtain ⟨a2, n2, cc2, rfl⟩ : ∃ a n c, v2 = .slice a n c := (by obtain ⟨a, c, e, _⟩ := h2.slZ; exact ⟨_, _, _, e⟩); have BE := (Turns.of_below (S := fun j => Value.ownBlock (.slice as' ss.length cs') = some j) BA.out).trans (T := fun j => Value.ownBlock (.slice as' ss.length cs') = some j) (Turns.of_grown hg2 fun j e => e) (fun _ _ e => e); have OW2 := Lib.hid h2; have V2 := Lib.hid hv2; have HB2 := Lib.hid (BE.heap SS0.out (fun e => HO.out _ e rfl)); have s7 := cell_of HB2.out 3 rfl; have f7 := free_block HB2.out 3; have BE2 := Lib.hid BE; clear h2 hg2 hv2 hb2 BE)
  have hsz1 : (W0.alloc (.cells #[.int .i64 (m : Nat)] 3)).heap.size = W0.heap.size + 1 := by simp
  have hv2 : ∀ j, Value.ownBlock (.slice a2 n2 cc2) = some j → Value.ownBlock (.slice as' ss.length cs') = some j ∨ w.heap.size ≤ j := fun j hj => by
    rcases V2.out with e | e
    · exact .inl (e ▸ hj)
    · rw [e] at hj; injection hj with hj; have := ZZ0.out; exact .inr (by omega)
  have hv2g : ∀ j, Value.ownBlock (.slice a2 n2 cc2) = some j → j ≠ g := fun j hj e => by
    rcases hv2 j hj with h | h
    · exact HO.out j h e
    · omega
  have TA := Lib.hid ((TT0.out.trans (T := fun j => j = g ∨ Value.ownBlock (.slice as' ss.length cs') = some j) (BE2.out.mono fun j _ e => .inr e) fun _ _ e => e).trans (Turns.set (S := fun j => j = g ∨ Value.ownBlock (.slice as' ss.length cs') = some j) w2 (b := g) (i := 3) (.inl rfl) (.slice a2 n2 cc2)) fun _ _ e => e)
  have NB := Lib.hid (show (w2.setCell ⟨g, 3, none⟩ (.slice a2 n2 cc2)).heap[g]? = some (.cells (ocells vn ve (calls + 1) (.slice a2 n2 cc2) x vt) 82 (0, 0)) from set_block (i := 3) HB2.out (.slice a2 n2 cc2))
  have NO := Lib.hid (show OwT fZs (w2.setCell ⟨g, 3, none⟩ (.slice a2 n2 cc2)) lo 3 (.slice a2 n2 cc2) (ss ++ [(m : Int)]) from OW2.out.of_block fun j hj => Below.heap_setCell _ _ _ _ (hv2g j hj))
  have HV2 := Lib.hid hv2
  clear BE2 HB2 OW2 V2 s7 f7 s3 hv2 hv2g hsz1 OO0 SS0 TT0 ZZ0 BA LIT c2 f2 HW0
  generalize w2.setCell ⟨g, 3, none⟩ (.slice a2 n2 cc2) = W at *
  have FIN := Lib.hid (show ∀ w', Drw W w' → ∀ z er, OTPost g lo w vn ve (.slice as' ss.length cs') vt ss calls m x z er (.returned (.tuple #[.int .i64 z, .int .i64 er])) w' from fun w' hd z er =>
    ⟨rfl, .slice a2 n2 cc2, blk_keep NB.out hd.below, NO.out.keep hd.below, HV2.out, TA.out.trans_below hd.below⟩)
  have b0 : W.cell? ⟨g, 0, none⟩ = some vn := cell_of NB.out 0 rfl
  have b1 : W.cell? ⟨g, 1, none⟩ = some ve := cell_of NB.out 1 rfl
  have b2 : W.cell? ⟨g, 2, none⟩ = some (.int .i64 ((calls : Int) + 1)) := cell_of NB.out 2 (v := .int .i64 ((calls + 1 : Nat) : Int)) rfl
  obtain ⟨an, cn, rfl, hsn, -⟩ := HN.out.turns TA.out TB.out
  obtain ⟨ae, ce, rfl, hse, -⟩ := HE.out.turns TA.out TB.out
  replace HN := Lib.hid hsn
  replace HE := Lib.hid hse
  clear hsn hse TA NB NO
  by_cases hL : calls < n.length
  · have t3 : decide ((calls : Int) + 1 ≤ (n.length : Nat)) = true := decide_eq_true (by omega)
    have t3' : decide (calls + 1 ≤ n.length) = true := decide_eq_true (by omega)
    have t4 : decide (calls < n.length) = true := decide_eq_true hL
    obtain ⟨mm, bm, om, hm, rfl, hcm⟩ := HN.out.num (i := calls) (by omega)
    have NM := Lib.hid (numO_in (a := all) hm)
    by_cases hE : calls < e.length
    · obtain ⟨z, bz, oz, hz, rfl, hcz⟩ := HE.out.num (i := calls) (by omega)
      have EM := Lib.hid (erO_in (a := behind) hL hz)
      have t5 : decide ((calls : Int) + 1 ≤ (e.length : Nat)) = true := decide_eq_true (by omega)
      have t5' : decide (calls + 1 ≤ e.length) = true := decide_eq_true (by omega)
      have t6 : decide (calls < e.length) = true := decide_eq_true hE
      clear hm hz
      go_wp2_with fail
      go_quiet (fail)
      go_wp2_with fail
      go_quiet (fail)
      go_wp2_with fail
      go_quiet (fail)
      go_wp2_with fail
      go_quiet (fail)
      go_wp2_with fail
      go_ret2
      rw [NM.out, EM.out]; exact FIN.out _ (((((Drw.refl _).more _).more _).more _).more _) _ _
    · have EM := Lib.hid (erO_ok (a := behind) hL (show e.length ≤ calls by omega))
      have t5 : decide ((calls : Int) + 1 ≤ (e.length : Nat)) = false := decide_eq_false (by omega)
      have t5' : decide (calls + 1 ≤ e.length) = false := decide_eq_false (by omega)
      have t6 : decide (calls < e.length) = false := decide_eq_false hE
      clear hm
      go_wp2_with fail
      go_quiet (fail)
      go_wp2_with fail
      go_quiet (fail)
      go_wp2_with fail
      go_quiet (fail)
      go_wp2_with fail
      go_ret2
      rw [NM.out, EM.out]; exact FIN.out _ ((((Drw.refl _).more _).more _).more _) _ _
  · have t3 : decide ((calls : Int) + 1 ≤ (n.length : Nat)) = false := decide_eq_false (by omega)
    have t3' : decide (calls + 1 ≤ n.length) = false := decide_eq_false (by omega)
    have t4 : decide (calls < n.length) = false := decide_eq_false hL
    have NM := Lib.hid (numO_out (a := all) (show n.length ≤ calls by omega))
    have EM := Lib.hid (erO_out (e := e) (a := behind) (show n.length ≤ calls by omega))
    go_wp2_with fail
    go_quiet (fail)
    go_wp2_with fail
    go_ret2
    rw [NM.out, EM.out]; exact FIN.out _ ((Drw.refl _).more _) _ _
set_option maxRecDepth 100000 in
set_option maxHeartbeats 2000000 in
theorem rtold_any (bd : Nat) (vn ve : Value) (n e : List Int) (calls : Nat) (all behind : Int) (w : World) (hn : Nums w bd vn n) (he : Nums w bd ve e) (hc : calls ≤ 4611686018427387904) :
    Calls Try.prog 56 #[vn, ve, .int .i64 ((calls : Int) + 1), .int .i64 all, .int .i64 behind] w fun r w' => r = .returned (.tuple #[.int .i64 (numO n calls all), .int .i64 (erO n e calls behind)]) ∧ Drw w w' := by
  obtain ⟨an, cn, rfl, hsn, -⟩ := hn
  obtain ⟨ae, ce, rfl, hse, -⟩ := he
  have HN := Lib.hid hsn
  have HE := Lib.hid hse
  have r2 : IntKind.i64.wrap ((calls : Int) + 1 - 1) = (calls : Int) := by rw [show (calls : Int) + 1 - 1 = (calls : Int) by omega]; exact IntWalk.i64_in _ (by omega)
  clear hsn hse
  by_cases hL : calls < n.length
  · have t3 : decide ((calls : Int) + 1 > (n.length : Nat)) = false := decide_eq_false (by omega)
    have t3' : decide (n.length < calls + 1) = false := decide_eq_false (by omega)
    have t3'' : decide ((n.length : Int) < (calls : Int) + 1) = false := decide_eq_false (by omega)
    obtain ⟨m, bm, om, hm, rfl, hcm⟩ := HN.out.num (i := calls) (by omega)
    have NM := Lib.hid (numO_in (a := all) hm)
    by_cases hE : calls < e.length
    · obtain ⟨z, bz, oz, hz, rfl, hcz⟩ := HE.out.num (i := calls) (by omega)
      have EM := Lib.hid (erO_in (a := behind) hL hz)
      have t5 : decide ((calls : Int) + 1 > (e.length : Nat)) = false := decide_eq_false (by omega)
      have t5' : decide (e.length < calls + 1) = false := decide_eq_false (by omega)
      have t5'' : decide ((e.length : Int) < (calls : Int) + 1) = false := decide_eq_false (by omega)
      clear hm hz
      go_enter Try.func56, Try.ntmps56
      go_wp2_with fail
      go_quiet (fail)
      go_wp2_with fail
      go_ret2
      exact ⟨by rw [NM.out, EM.out]; rfl, (Drw.refl _).more _⟩
    · have EM := Lib.hid (erO_ok (a := behind) hL (show e.length ≤ calls by omega))
      have t5 : decide ((calls : Int) + 1 > (e.length : Nat)) = true := decide_eq_true (by omega)
      have t5' : decide (e.length < calls + 1) = true := decide_eq_true (by omega)
      have t5'' : decide ((e.length : Int) < (calls : Int) + 1) = true := decide_eq_true (by omega)
      clear hm
      go_enter Try.func56, Try.ntmps56
      go_wp2_with fail
      go_ret2
      exact ⟨by rw [NM.out, EM.out]; rfl, Drw.refl _⟩
  · have t3 : decide ((calls : Int) + 1 > (n.length : Nat)) = true := decide_eq_true (by omega)
    have t3' : decide (n.length < calls + 1) = true := decide_eq_true (by omega)
    have t3'' : decide ((n.length : Int) < (calls : Int) + 1) = true := decide_eq_true (by omega)
    have NM := Lib.hid (numO_out (a := all) (show n.length ≤ calls by omega))
    have EM := Lib.hid (erO_out (e := e) (a := behind) (show n.length ≤ calls by omega))
    go_enter Try.func56, Try.ntmps56
    go_wp2_with fail
    go_ret2
    exact ⟨by rw [NM.out, EM.out]; rfl, Drw.refl _⟩
end Go.Proofs.Ytpenbaafhbbmhaa
/- The law's reader and writer of any behaviour, in memory: contracts of Read and Write. Conditions: numbers within reach. -/
namespace Go.Proofs.Ytpenbaafhbbmhaa
open Go.RowKit
set_option linter.unusedVariables false
set_option linter.unusedSimpArgs false

theorem methOR (g : Nat) (w : World) : (method 249 80 (.pointer (some ⟨g, 0, none⟩)) "Read").run Try.prog w = .ok (79, .pointer (some ⟨g, 0, none⟩)) w := by kernel_rfl
theorem methOW (g : Nat) (w : World) : (method 249 80 (.pointer (some ⟨g, 0, none⟩)) "Write").run Try.prog w = .ok (80, .pointer (some ⟨g, 0, none⟩)) w := by kernel_rfl
/-- behind Read -/
def ORPost (g lo bd : Nat) (s : Od) (S : Nat → Prop) (w : World) (gp n : Nat) (zs : List UInt8) (r : Ending) (w' : World) : Prop :=
  r = .returned (.tuple #[.int .i64 (oddM.num s n), .int .i64 (oddM.er s n)]) ∧ ∃ S', OdP g lo bd (oddM.nxt s n) S' w' ∧ (∀ j, S' j → S j ∨ w.heap.size ≤ j) ∧ Turns (fun j => S j ∨ j = gp) w w' ∧ w'.heap[gp]? = some (.cells ((oddM.lay s n ++ zs.drop (oddM.lay s n).length).map Bf).toArray 5 (0, 0))
set_option maxRecDepth 100000 in
set_option maxHeartbeats 2000000 in
theorem oread_any (g lo bd : Nat) (s : Od) (S : Nat → Prop) (gp n c : Nat) (zs : List UInt8) (w : World) (h : OdP g lo bd s S w) (hc : s.calls ≤ 17592186044000) (hn : n ≤ zs.length) (hnc : n ≤ c) (hz : n ≤ 140737488351232) (hp : w.heap[gp]? = some (.cells (zs.map Bf).toArray 5 (0, 0))) (hg : ¬ S gp) (hgb : bd ≤ gp) :
    Calls Try.prog 79 #[.pointer (some ⟨g, 0, none⟩), .slice (some ⟨gp, 0, none⟩) n c] w (ORPost g lo bd s S w gp n zs) := by
  obtain ⟨vn, ve, vs, vt, hb, h1, h2, h3, h4, h5, h6, h7⟩ := h.blk
  have hgl := (h.inS g h.own).1
  have hgw := (h.inS g h.own).2
  have hbl := h.bl
  have hgp : g ≠ gp := fun e => hg (e ▸ h.own)
  have hpl : gp < w.heap.size := (Array.getElem?_eq_some_iff.1 hp).1
  have TD := Lib.hid (otold_any g lo bd vn ve vs vt s.nx s.n s.e s.sz s.calls n 0 31 w hb h1 h2 h3 s.okz (fun j hj => (h4 j hj).2) hbl hgl hc)
  have H := Lib.hid h
  have HP := Lib.hid hp
  have HG := Lib.hid hg
  have HNE := Lib.hid hgp
  obtain ⟨z, hzz⟩ : ∃ z, numO s.n s.calls 0 = z := ⟨_, rfl⟩
  obtain ⟨ee, hee⟩ : ∃ z, erO s.n s.e s.calls 31 = z := ⟨_, rfl⟩
  obtain ⟨q, hq⟩ : ∃ q, cl z n = q := ⟨_, rfl⟩
  rw [hzz, hee] at TD
  have hql : q ≤ n := by rw [← hq]; exact cl_le _ _
  have QL := Lib.hid (show ∀ j, j < q ↔ (j : Int) < z ∧ j < n from fun j => by rw [← hq]; exact cl_lt)
  have FIN := Lib.hid (show ∀ w1 w' vs', (OwT fZs w1 lo 3 vs' (s.sz ++ [(n : Int)])) → (∀ j, vs'.ownBlock = some j → vs.ownBlock = some j ∨ w.heap.size ≤ j) → Turns (fun j => j = g ∨ vs.ownBlock = some j) w w1 → Turns (fun j => j = g ∨ j = gp) w1 w' → w'.heap[g]? = some (.cells (ocells vn ve (s.calls + 1) vs' (upN s.nx q) vt) 82 (0, 0)) → w'.heap[gp]? = some (.cells ((ups s.nx q ++ zs.drop q).map Bf).toArray 5 (0, 0)) → ORPost g lo bd s S w gp n zs (.returned (.tuple #[.int .i64 z, .int .i64 ee])) w' from fun w1 w' vs' ho hv t1 t2 hb2 hr2 => by
    have ht : Turns (fun j => S j ∨ j = gp) w w' := (t1.mono (T := fun j => S j ∨ j = gp) fun j _ e => by rcases e with rfl | e; (exact .inl h.own); (exact .inl (h4 j e).1)).trans t2 fun j _ e => by rcases e with rfl | e; (exact .inl h.own); (exact .inr e)
    have tb : ∀ j, S j ∨ j = gp → bd ≤ j := fun j e => by rcases e with e | e; (have := (h.inS j e).1; omega); (omega)
    have hvg : ∀ j, vs'.ownBlock = some j → j ≠ g ∧ j ≠ gp := fun j hj => by
      rcases hv j hj with e | e
      · exact ⟨(h4 j e).2, fun q => hg (q ▸ (h4 j e).1)⟩
      · omega
    refine ⟨by show _ = Ending.returned (.tuple #[.int .i64 (numO s.n s.calls 0), .int .i64 (erO s.n s.e s.calls 31)]); rw [hzz, hee], fun j => S j ∨ vs'.ownBlock = some j, ⟨⟨vn, ve, vs', vt, ?_, h1.turns ht tb, h2.turns ht tb, ho.turns t2 (fun j hj e => by rcases e with e | e; (exact (hvg j hj).1 e); (exact (hvg j hj).2 e)), fun j hj => ⟨.inr hj, (hvg j hj).1⟩, (h5.turns t1 fun j hj e => ?_).turns t2 (fun j hj e => ?_), fun j hj => ⟨.inl (h6 j hj).1, (h6 j hj).2⟩, fun j hj e => ?_⟩, .inl h.own, fun j hj => ?_, h.bl⟩, fun j hj => ?_, ht, ?_⟩
    · show w'.heap[g]? = some (.cells (ocells vn ve (s.calls + 1) vs' (upN s.nx (cl (numO s.n s.calls 0) n)) vt) 82 (0, 0))
      rw [hzz, hq]; exact hb2
    · rcases e with e | e
      · exact (h6 j hj).2 e
      · exact h7 j hj e
    · rcases e with e | e
      · exact (h6 j hj).2 e
      · exact hg (e ▸ (h6 j hj).1)
    · rcases hv j e with k | k
      · exact h7 j hj k
      · have := (h.inS j (h6 j hj).1).2; omega
    · rcases hj with hj | hj
      · exact ⟨(h.inS j hj).1, Nat.lt_of_lt_of_le (h.inS j hj).2 ht.size⟩
      · have := ho.lt j hj; have := t2.size; omega
    · rcases hj with hj | hj
      · exact .inl hj
      · rcases hv j hj with k | k
        · exact .inl (h4 j k).1
        · exact .inr k
    · show w'.heap[gp]? = some (.cells ((ups s.nx (cl (numO s.n s.calls 0) n) ++ zs.drop (ups s.nx (cl (numO s.n s.calls 0) n)).length).map Bf).toArray 5 (0, 0))
      rw [hzz, hq, ups_len]; exact hr2)
  have ru : ∀ x : UInt8, IntKind.u8.wrap (B x + 37) = B (x + 37) := B_37
  have HVS := Lib.hid (show ∀ j, vs.ownBlock = some j → j ≠ gp from fun j hj e => hg (e ▸ (h4 j hj).1))
  clear hb h1 h2 h3 h4 h5 h6 h7 h hp hg hzz hee hq hgp
  go_enter Try.func79, Try.ntmps79
  go_wp2_with fail
  refine TD.out.mono ?_
  rintro e w1 ⟨rfl, vs', hb, ho, hv, ht⟩
  have SET2 := Lib.hid hb
  have HO := Lib.hid ho
  have HV := Lib.hid hv
  have TR := Lib.hid ht
  have HP2 := Lib.hid (ht.heap HP.out (fun e => by rcases e with e | e; (exact HNE.out e.symm); (exact HVS.out _ e rfl)))
  clear TD hb ho hv ht HP
  go_wp2_with fail
  go_loopw [8] (fun x wr => ∃ j : Nat, j ≤ q ∧ x = .int .i64 (j : Nat) ∧ Turns (fun j => j = g ∨ j = gp) w1 wr ∧ wr.heap[g]? = some (.cells (ocells vn ve (s.calls + 1) vs' (upN s.nx j) vt) 82 (0, 0)) ∧ wr.heap[gp]? = some (.cells ((ups s.nx j ++ zs.drop j).map Bf).toArray 5 (0, 0))) (fun x _ => q - (intOf x).toNat)
  case atStart => exact ⟨0, Nat.zero_le _, rfl, .refl _ _, SET2.out, HP2.out⟩
  case round =>
    obtain ⟨j, hj, rfl, ht, hb, hr⟩ := hrel
    have TT := Lib.hid ht
    have SB := Lib.hid hb
    have HR := Lib.hid hr
    have e3 := cell_of hb 4 (v := .int .u8 (B (upN s.nx j))) rfl
    have f3 := free_block hb 4
    clear ht hb hr SET2 HP2
    by_cases hlt : j < q
    · obtain ⟨q1, q2⟩ := (QL.out j).1 hlt
      have t1 : decide ((j : Int) < z) = true := decide_eq_true q1
      have t2 : decide ((j : Int) < (n : Int)) = true := decide_eq_true (by omega)
      have t2' : decide (j < n) = true := decide_eq_true q2
      have hjz : j < zs.length := by omega
      have SB2 := set_block (i := 4) SB.out (.int .u8 (B (upN s.nx j + 37)))
      have T3 := Turns.set (S := fun b => b = g) wr (b := g) (i := 4) rfl (.int .u8 (B (upN s.nx j + 37)))
      have HR2 := T3.heap HR.out (fun e => HNE.out e.symm)
      have g3 := cell_of SB2 4 (v := .int .u8 (B (upN s.nx j + 37))) rfl
      obtain ⟨y, ej⟩ : ∃ y, (wr.setCell ⟨g, 4, none⟩ (.int .u8 (B (upN s.nx j + 37)))).cell? ⟨gp, j, none⟩ = some y := by
        have hjl : j < (ups s.nx j ++ zs.drop j).length := by rw [List.length_append, List.length_drop, ups_len]; omega
        exact ⟨_, cell_of HR2 j (by show (((ups s.nx j ++ zs.drop j).map Bf).toArray)[j]? = _; rw [List.getElem?_toArray, List.getElem?_map, List.getElem?_eq_getElem hjl]; rfl)⟩
      have fj : (wr.setCell ⟨g, 4, none⟩ (.int .u8 (B (upN s.nx j + 37)))).frozen? ⟨gp, j, none⟩ = false := free_block HR2 j
      have NX := Lib.hid (show ((wr.setCell ⟨g, 4, none⟩ (.int .u8 (B (upN s.nx j + 37)))).setCell ⟨gp, j, none⟩ (.int .u8 (B (upN s.nx j + 37)))).heap[gp]? = some (.cells ((ups s.nx (j + 1) ++ zs.drop (j + 1)).map Bf).toArray 5 (0, 0)) from by
        rw [← set_up hjz]
        exact set_block (i := j) HR2 (.int .u8 (B (upN s.nx j + 37))))
      have NB := Lib.hid (show ((wr.setCell ⟨g, 4, none⟩ (.int .u8 (B (upN s.nx j + 37)))).setCell ⟨gp, j, none⟩ (.int .u8 (B (upN s.nx j + 37)))).heap[g]? = some (.cells (ocells vn ve (s.calls + 1) vs' (upN s.nx (j + 1)) vt) 82 (0, 0)) from (Below.heap_setCell _ _ _ _ HNE.out).trans SB2)
      have NT := Lib.hid ((TT.out.trans (T3.mono (T := fun j => j = g ∨ j = gp) fun _ _ e => .inl e) fun _ _ e => e).trans (Turns.set (S := fun j => j = g ∨ j = gp) (wr.setCell ⟨g, 4, none⟩ (.int .u8 (B (upN s.nx j + 37)))) (b := gp) (i := j) (.inr rfl) (.int .u8 (B (upN s.nx j + 37)))) fun _ _ e => e)
      clear SB2 T3 HR2 q1
      go_wp2_with fail
      go_roundw
      case rel => exact ⟨j + 1, by omega, by go_num, NT.out, NB.out, NX.out⟩
      case measure => simp [intOf]; omega
    · obtain rfl : j = q := by omega
      by_cases hjz : (j : Int) < z
      · have hjn : ¬ j < n := fun h => hlt ((QL.out j).2 ⟨hjz, h⟩)
        have t1 : decide ((j : Int) < z) = true := decide_eq_true hjz
        have t2 : decide ((j : Int) < (n : Int)) = false := decide_eq_false (by omega)
        have t2' : decide (j < n) = false := decide_eq_false hjn
        clear hlt hjz hjn
        go_wp2_with fail
        go_ret2
        exact FIN.out _ _ _ HO.out HV.out TR.out TT.out SB.out HR.out
      · have t1 : decide ((j : Int) < z) = false := decide_eq_false hjz
        clear hlt hjz
        go_wp2_with fail
        go_ret2
        exact FIN.out _ _ _ HO.out HV.out TR.out TT.out SB.out HR.out
/-- behind Write -/
def OWPost (g lo bd : Nat) (s : Od) (S : Nat → Prop) (w : World) (xs : List UInt8) (r : Ending) (w' : World) : Prop :=
  r = .returned (.tuple #[.int .i64 (oddW.num s xs), .int .i64 (oddW.er s xs)]) ∧ ∃ S', OdP g lo bd (oddW.nxt s xs) S' w' ∧ (∀ j, S' j → S j ∨ w.heap.size ≤ j) ∧ Turns S w w'
set_option maxRecDepth 100000 in
set_option maxHeartbeats 2000000 in
theorem owrite_any (g lo bd : Nat) (s : Od) (S : Nat → Prop) (ap : Option Addr) (n c : Nat) (xs : List UInt8) (w : World) (h : OdP g lo bd s S w) (hc : s.calls ≤ 17592186044000) (hz : s.took.length + n ≤ 140737488355328) (hp : Sl Bf w ap n c xs) (hg : ∀ b o, ap = some ⟨b, o, none⟩ → 0 < n → ¬ S b) :
    Calls Try.prog 80 #[.pointer (some ⟨g, 0, none⟩), .slice ap n c] w (OWPost g lo bd s S w xs) := by
  obtain ⟨vn, ve, vs, vt, hb, h1, h2, h3, h4, h5, h6, h7⟩ := h.blk
  obtain ⟨at', nt, ct, rfl, zt⟩ := h5.slN
  obtain rfl : xs.length = n := hp.len
  have hnt : s.took.length = nt := zt.len
  have hgl := (h.inS g h.own).1
  have hgw := (h.inS g h.own).2
  have hbl := h.bl
  have TD := Lib.hid (otold_any g lo bd vn ve vs (.slice at' nt ct) s.nx s.n s.e s.sz s.calls xs.length (xs.length : Nat) 0 w hb h1 h2 h3 s.okz (fun j hj => (h4 j hj).2) hbl hgl hc)
  have H := Lib.hid h
  have HP := Lib.hid hp
  have HT0 := Lib.hid h5
  have HTS := Lib.hid h6
  have HVS := Lib.hid h4
  have HX := Lib.hid h7
  have HM := Lib.hid (And.intro h1 h2)
  have HG := Lib.hid hg
  obtain ⟨z, hzz⟩ : ∃ z, numO s.n s.calls (xs.length : Nat) = z := ⟨_, rfl⟩
  obtain ⟨ee, hee⟩ : ∃ z, erO s.n s.e s.calls 0 = z := ⟨_, rfl⟩
  obtain ⟨k, hk⟩ : ∃ k, cl z xs.length = k := ⟨_, rfl⟩
  rw [hzz, hee] at TD
  have hkl : k ≤ xs.length := by rw [← hk]; exact cl_le _ _
  have hkm : max 0 (min z (xs.length : Int)) = (k : Int) := by rw [← hk]; exact (cl_cast _ _).symm
  have ZZ := Lib.hid (And.intro hzz (And.intro hee hk))
  have HKM := Lib.hid hkm
  have hcut := fun V : World => run_cutto eltB V ap xs.length c .i64 k (by have := hp.le; omega)
  clear hb h1 h2 h3 h4 h5 h6 h7 h hp hg hzz hee hk zt hnt
  go_enter Try.func80, Try.ntmps80
  go_wp2_with fail
  refine TD.out.mono ?_
  rintro e W ⟨rfl, vs', hb, ho, hv, ht⟩
  have SET := Lib.hid hb
  have HO := Lib.hid ho
  have HV := Lib.hid hv
  have TR := Lib.hid ht
  have T1 := Lib.hid (ht.mono (T := S) fun j _ e => by rcases e with rfl | e; (exact H.out.own); (exact (HVS.out j e).1))
  have HT := Lib.hid (HT0.out.turns ht fun j hj e => by rcases e with e | e; (exact (HTS.out j hj).2 e); (exact HX.out j hj e))
  have s4 : W.cell? ⟨g, 5, none⟩ = some (.slice at' nt ct) := cell_of hb 5 rfl
  have HPW := Lib.hid (show Sl Bf W ap xs.length c xs from HP.out.turns T1.out fun b o e hn0 e2 => HG.out b o e hn0 e2)
  have hsz : w.heap.size ≤ W.heap.size := ht.size
  clear TD hb ho hv ht HP HT0
  have XK := Lib.hid (HPW.out.upto k hkl)
  have GB := Lib.hid (fun (V w3 : World) (hg3 : V.grownBy w3 (Value.ownBlock (.slice at' nt ct))) (hV : V.heap = W.heap) => (show w3.heap[g]? = W.heap[g]? ∧ w3.cell? ⟨g, 5, none⟩ = some (.slice at' nt ct) ∧ w3.frozen? ⟨g, 5, none⟩ = false from by
    have e : w3.heap[g]? = W.heap[g]? := by
      rw [hg3.block g (by rw [hV]; exact (Array.getElem?_eq_some_iff.1 SET.out).1) (fun e => (HTS.out g e.symm).2 rfl), hV]
    exact ⟨e, cell_of (e.trans SET.out) 5 rfl, free_block (e.trans SET.out) 5⟩))
  go_wp2_with fail
  go_region_law (refine step_appT eltTB rfl (.tmp 21) (.tmp 28) rfl lo _ s.took (by simp [Act.eval, Act.put]) HT.out ap k c (xs.take k) (by simp [Act.eval, Act.put]) XK.out.toT (by unfold maxLen; omega) (by omega) (by simp <;> omega) (s.took ++ xs.take k) rfl ?_; intro v3 w3 h3 hg3 hv3 hb3; obtain ⟨a3, n3, c3, rfl, z3⟩ := h3.slN; have H3 := Lib.hid h3; have G3 := Lib.hid hg3; have V3 := Lib.hid hv3; obtain ⟨gb1, gb2, gb3⟩ := GB.out _ w3 hg3 rfl; have GB3 := Lib.hid gb1; clear h3 hg3 hv3 hb3 z3 gb1)
  all_goals
    go_wp2_with fail
    go_ret2
    have hb5 := set_block (i := 5) (GB3.out.trans SET.out) (.slice a3 n3 c3)
    have hv3 : ∀ j, Value.ownBlock (.slice a3 n3 c3) = some j → Value.ownBlock (.slice at' nt ct) = some j ∨ j = W.heap.size := fun j hj => by
      rcases V3.out with e | e
      · exact .inl (e ▸ hj)
      · rw [e] at hj; injection hj with hj; exact .inr (by rw [← hj]; rfl)
    have hng : ∀ j, Value.ownBlock (.slice a3 n3 c3) = some j → j ≠ g := fun j hj e => by
      rcases hv3 j hj with h | h
      · exact (HTS.out j h).2 e
      · omega
    have hvg : ∀ j, vs'.ownBlock = some j → j ≠ g := fun j hj e => by
      rcases HV.out j hj with h | h
      · exact (HVS.out j h).2 e
      · omega
    have hOSl := HO.out.lt
    have h2not : ∀ j, vs'.ownBlock = some j → Value.ownBlock (.slice at' nt ct) ≠ some j := fun j hj e => by
      rcases HV.out j hj with h | h
      · exact HX.out j e h
      · have := (H.out.inS j (HTS.out j e).1).2; omega
    have t0 : Turns S w W.drew := T1.out.trans_below (show Below W.heap.size W W.drew from (Below.refl _ _).drew)
    have t1 : Turns S w w3 := t0.trans (T := S) (.of_grown G3.out fun j e => (HTS.out j e).1) fun _ _ e => e
    have t2 : Turns S w (w3.setCell ⟨g, 5, none⟩ (.slice a3 n3 c3)) := t1.trans (T := S) (Turns.set w3 H.out.own _) fun _ _ e => e
    have hz3 : w.heap.size ≤ w3.heap.size := t1.size
    have tb : ∀ j, S j → bd ≤ j := fun j hj => Nat.le_trans hbl (H.out.inS j hj).1
    obtain ⟨z1, z2, z4⟩ := ZZ.out
    refine ⟨by show _ = Ending.returned (.tuple #[.int .i64 (numO s.n s.calls (xs.length : Nat)), .int .i64 (erO s.n s.e s.calls 0)]); rw [z1, z2]; rfl, fun j => S j ∨ Value.ownBlock (.slice a3 n3 c3) = some j ∨ vs'.ownBlock = some j,
      ⟨⟨vn, ve, vs', .slice a3 n3 c3, hb5, HM.out.1.turns t2 tb, HM.out.2.turns t2 tb, ?_, fun j hj => ⟨.inr (.inr hj), hvg j hj⟩, ?_, fun j hj => ⟨.inr (.inl hj), hng j hj⟩, fun j hj e => ?_⟩, .inl H.out.own, fun j hj => ?_, hbl⟩, fun j hj => ?_, t2⟩
    · show OwT fZs _ lo 3 vs' (s.sz ++ [(xs.length : Int)])
      refine (show OwT fZs w3 lo 3 vs' (s.sz ++ [(xs.length : Int)]) from ?_).of_block fun j hj => Below.heap_setCell _ _ _ _ (hvg j hj)
      exact (show OwT fZs W.drew lo 3 vs' (s.sz ++ [(xs.length : Int)]) from HO.out).of_block fun j hj => G3.out.block j (hOSl j hj).2 (fun e => h2not j hj e.symm)
    · show OwT fB _ lo 5 (.slice a3 n3 c3) (s.took ++ xs.take (cl (numO s.n s.calls (xs.length : Nat)) xs.length))
      rw [z1, z4]
      exact H3.out.of_block fun j hj => Below.heap_setCell _ _ _ _ (hng j hj)
    · rcases hv3 j hj with h | h
      · exact h2not j e h
      · have := (hOSl j e).2; omega
    · rcases hj with hj | hj | hj
      · exact ⟨(H.out.inS j hj).1, Nat.lt_of_lt_of_le (H.out.inS j hj).2 t2.size⟩
      · have := H3.out.lt j hj
        exact ⟨this.1, by simpa using this.2⟩
      · have q := hOSl j hj
        have q2 : W.heap.size ≤ w3.heap.size := G3.out.size
        exact ⟨q.1, by simp; omega⟩
    · rcases hj with hj | hj | hj
      · exact .inl hj
      · rcases hv3 j hj with h | h
        · exact .inl (HTS.out j h).1
        · exact .inr (by omega)
      · rcases HV.out j hj with h | h
        · exact .inl (HVS.out j h).1
        · exact .inr h
theorem oddR (g lo bd : Nat) : Reader oddM 79 (.pointer (some ⟨g, 0, none⟩)) lo 17592186044000 (OdP g lo bd) bd where
  frame _ _ _ _ _ h ht hd hb := h.turns ht hd hb
  inS _ _ _ h := h.inS
  read s S w gp n c zs h hc hn hnc hn2 hp hg hgb := (oread_any g lo bd s S gp n c zs w h (by have : s.calls < 17592186044000 := hc; omega) hn hnc (by omega) hp hg hgb).mono fun e w' h => h
theorem oddWr (g lo bd : Nat) : Writer oddW 80 (.pointer (some ⟨g, 0, none⟩)) lo 17592186044000 140737488355328 (OdP g lo bd) bd where
  frame _ _ _ _ _ h ht hd hb := h.turns ht hd hb
  inS _ _ _ h := h.inS
  write t S w ap n c xs h hc hr hn hp hg := (owrite_any g lo bd t S ap n c xs w h (by have : t.calls < 17592186044000 := hc; omega) hr hp hg).mono fun e w' h => h
end Go.Proofs.Ytpenbaafhbbmhaa
/- The document's reader and writer of any behaviour: contracts. Conditions: numbers within reach. -/
namespace Go.Proofs.Ytpenbaafhbbmhaa
open Go.RowKit
set_option linter.unusedVariables false
set_option linter.unusedSimpArgs false

/-- behind the reader's odd -/
def RoddPost (g lo gp n : Nat) (zs : List UInt8) (w : World) (vn ve vs : Value) (ss nn ee : List Int) (calls : Nat) (x : UInt8) (r : Ending) (w' : World) : Prop :=
  r = .returned (.tuple #[.int .i64 (numO nn calls 0), .int .i64 (erO nn ee calls 31)]) ∧ ∃ vs', w'.heap[g]? = some (.cells (rocells vn ve (calls + 1) (upN x (cl (numO nn calls 0) n)) vs') 33 (0, 0)) ∧ OwT fZs w' lo 3 vs' (ss ++ [(n : Int)]) ∧ (∀ j, vs'.ownBlock = some j → (vs.ownBlock = some j ∨ w.heap.size ≤ j)) ∧
    Turns (fun j => j = g ∨ j = gp ∨ vs.ownBlock = some j) w w' ∧ w'.heap[gp]? = some (.cells ((ups x (cl (numO nn calls 0) n) ++ zs.drop (cl (numO nn calls 0) n)).map Bf).toArray 5 (0, 0))
set_option maxRecDepth 100000 in
set_option maxHeartbeats 2000000 in
theorem rodd_any (g lo gp n c : Nat) (zs : List UInt8) (w : World) (vn ve vs : Value) (ss nn ee : List Int) (calls : Nat) (x : UInt8) (hb : w.heap[g]? = some (.cells (rocells vn ve (calls + 1) x vs) 33 (0, 0))) (h1 : Nums w lo vn nn) (h2 : Nums w lo ve ee) (h3 : OwT fZs w lo 3 vs ss) (hsl : ss.length = calls)
    (hown : ∀ j, vs.ownBlock = some j → j ≠ g ∧ j ≠ gp) (hg : lo ≤ g) (hgp : lo ≤ gp) (hgg : g ≠ gp) (hp : w.heap[gp]? = some (.cells (zs.map Bf).toArray 5 (0, 0))) (hn : n ≤ zs.length) (hnc : n ≤ c) (hz : n ≤ 140737488351232) (hc : calls ≤ 17592186044000) :
    Calls Try.prog 59 #[.pointer (some ⟨g, 0, none⟩), .slice (some ⟨gp, 0, none⟩) n c] w (RoddPost g lo gp n zs w vn ve vs ss nn ee calls x) := by
  obtain ⟨as', cs', rfl, hss⟩ := h3.slZ
  have hlw : lo ≤ w.heap.size := by have := (Array.getElem?_eq_some_iff.1 hb).1; omega
  have ba := (Below.refl w.heap.size w).alloc (Nat.le_refl _) (.cells #[.int .i64 (n : Nat)] 3)
  have LIT := Lib.hid (Sl.lit (f := fZ) w 3 #[.int .i64 (n : Nat)] [(n : Int)] 1 rfl rfl).toT
  have c11 : w.cell? ⟨g, 11, none⟩ = some (.slice as' ss.length cs') := cell_of hb 11 rfl
  have HB := Lib.hid hb; have H1 := Lib.hid h1; have H2 := Lib.hid h2; have H3 := Lib.hid h3; have HO := Lib.hid hown; have HP := Lib.hid hp; have HGG := Lib.hid hgg; have HSL := Lib.hid hsl
  have BA := Lib.hid ba
  clear hb h1 h2 h3 hown hp hgg hsl hss ba
  go_enter Try.func59, Try.ntmps59
  go_upto_region 2 with (at_builtin; refine wpList_appT eltTZ rfl (.tmp 13) (.tmp 16) rfl lo _ ss (by rfl) (H3.out.alloc _) _ 1 1 [(n : Int)] (by rfl) LIT.out (by have := HSL.out; unfold maxLen; omega) (by have := HSL.out; omega) (by simp; omega) _ rfl ?_; intro v2 w2 h2 hg2 hv2 hb2; obtain ⟨a2, n2, c2, rfl⟩ : ∃ a n c, v2 = .slice a n c := (by obtain ⟨a, c, e, _⟩ := h2.slZ; exact ⟨_, _, _, e⟩); have BE := (Turns.of_below (S := fun j => Value.ownBlock (.slice as' ss.length cs') = some j) BA.out).trans (T := fun j => Value.ownBlock (.slice as' ss.length cs') = some j) (Turns.of_grown hg2 fun j e => e) (fun _ _ e => e); have OW2 := Lib.hid h2; have V2 := Lib.hid hv2; have HB2 := Lib.hid (BE.heap HB.out (fun e => (HO.out _ e).1 rfl)); have s11 := cell_of HB2.out 11 rfl; have f11 := free_block HB2.out 11; have BE2 := Lib.hid BE; clear h2 hg2 hv2 hb2 BE)
  have hsz1 : (w.alloc (.cells #[.int .i64 (n : Nat)] 3)).heap.size = w.heap.size + 1 := by simp
  have hgl : g < w.heap.size := (Array.getElem?_eq_some_iff.1 HB.out).1
  have hv2 : ∀ j, Value.ownBlock (.slice a2 n2 c2) = some j → Value.ownBlock (.slice as' ss.length cs') = some j ∨ w.heap.size ≤ j := fun j hj => by
    rcases V2.out with e | e
    · exact .inl (e ▸ hj)
    · rw [e] at hj; injection hj with hj; exact .inr (by omega)
  have TA := Lib.hid ((BE2.out.mono (T := fun j => j = g ∨ j = gp ∨ Value.ownBlock (.slice as' ss.length cs') = some j) fun j _ e => .inr (.inr e)).trans (Turns.set (S := fun j => j = g ∨ j = gp ∨ Value.ownBlock (.slice as' ss.length cs') = some j) w2 (b := g) (i := 11) (.inl rfl) (.slice a2 n2 c2)) fun _ _ e => e)
  have NB := Lib.hid (show (w2.setCell ⟨g, 11, none⟩ (.slice a2 n2 c2)).heap[g]? = some (.cells (rocells vn ve (calls + 1) x (.slice a2 n2 c2)) 33 (0, 0)) from set_block (i := 11) HB2.out (.slice a2 n2 c2))
  have NO := Lib.hid (show OwT fZs (w2.setCell ⟨g, 11, none⟩ (.slice a2 n2 c2)) lo 3 (.slice a2 n2 c2) (ss ++ [(n : Int)]) from OW2.out.of_block fun j hj => Below.heap_setCell _ _ _ _ (show j ≠ g from fun e => by
    rcases hv2 j hj with h | h
    · exact (HO.out j h).1 e
    · omega))
  have HV2 := Lib.hid hv2
  have tb : ∀ j, j = g ∨ j = gp ∨ Value.ownBlock (.slice as' ss.length cs') = some j → lo ≤ j := fun j e => by
    rcases e with e | e | e
    · omega
    · omega
    · exact (H3.out.lt j e).1
  have HTB := Lib.hid tb
  have NP := Lib.hid (show (w2.setCell ⟨g, 11, none⟩ (.slice a2 n2 c2)).heap[gp]? = some (.cells (zs.map Bf).toArray 5 (0, 0)) from (Below.heap_setCell _ _ _ _ HGG.out.symm).trans (BE2.out.heap HP.out (fun e => (HO.out _ e).2 rfl)))
  clear BE2 HB2 OW2 V2 s11 f11 c11 hv2 tb hsz1
  generalize w2.setCell ⟨g, 11, none⟩ (.slice a2 n2 c2) = W at *
  have N1 := Lib.hid (H1.out.turns TA.out HTB.out)
  have N2 := Lib.hid (H2.out.turns TA.out HTB.out)
  obtain ⟨z, hzz⟩ : ∃ z, numO nn calls 0 = z := ⟨_, rfl⟩
  obtain ⟨er, hee⟩ : ∃ z, erO nn ee calls 31 = z := ⟨_, rfl⟩
  obtain ⟨q, hq⟩ : ∃ q, cl z n = q := ⟨_, rfl⟩
  have TO := Lib.hid (fun (V : World) (hV : Drw W V) => show Calls Try.prog 56 #[vn, ve, .int .i64 ((calls : Int) + 1), .int .i64 0, .int .i64 31] V (fun r w' => r = .returned (.tuple #[.int .i64 z, .int .i64 er]) ∧ Drw V w') from by
    have := rtold_any lo vn ve nn ee calls 0 31 V (N1.out.turns (.of_below hV.below) (fun _ e => e.elim) (T := fun _ => False)) (N2.out.turns (.of_below hV.below) (fun _ e => e.elim) (T := fun _ => False)) (by omega)
    rwa [hzz, hee] at this)
  have hql : q ≤ n := by rw [← hq]; exact cl_le _ _
  have QL := Lib.hid (show ∀ j, j < q ↔ (j : Int) < z ∧ j < n from fun j => by rw [← hq]; exact cl_lt)
  have FIN := Lib.hid (show ∀ w', Turns (fun j => j = g ∨ j = gp) W w' → w'.heap[g]? = some (.cells (rocells vn ve (calls + 1) (upN x q) (.slice a2 n2 c2)) 33 (0, 0)) → w'.heap[gp]? = some (.cells ((ups x q ++ zs.drop q).map Bf).toArray 5 (0, 0)) → RoddPost g lo gp n zs w vn ve (.slice as' ss.length cs') ss nn ee calls x (.returned (.tuple #[.int .i64 z, .int .i64 er])) w' from fun w' ht hb2 hr2 => by
    unfold RoddPost
    rw [hzz, hee, hq]
    refine ⟨rfl, (.slice a2 n2 c2), hb2, NO.out.turns ht fun j hj e => ?_, HV2.out, TA.out.trans ht fun j _ e => by rcases e with e | e; (exact .inl e); (exact .inr (.inl e)), hr2⟩
    have hgpl : gp < w.heap.size := (Array.getElem?_eq_some_iff.1 HP.out).1
    rcases HV2.out j hj with h | h
    · rcases e with e | e
      · exact (HO.out j h).1 e
      · exact (HO.out j h).2 e
    · rcases e with e | e <;> omega)
  have d4 := cell_of NB.out 4 (v := .int .i64 ((calls + 1 : Nat) : Int)) rfl
  have d4' : W.cell? ⟨g, 4, none⟩ = some (.int .i64 ((calls : Int) + 1)) := d4
  have d7 := cell_of NB.out 7 (v := vn) rfl
  have d8 := cell_of NB.out 8 (v := ve) rfl
  have d9 := cell_of NB.out 9 (v := .int .u8 37) rfl
  have ru : ∀ x : UInt8, IntKind.u8.wrap (B x + 37) = B (x + 37) := B_37
  clear hzz hee hq d4 TA NO LIT BA H1 H2 H3 HB HP
  go_cut [6, 7] (fun a b wx => a = .int .i64 z ∧ b = .int .i64 er ∧ Drw W wx)
  case first =>
    go_quiet ((go_at_call 56; exact Calls.quiet_of_drw (TO.out _ (by first | exact (Drw.refl _).more _ | exact ((Drw.refl _).more _).more _))))
    go_wp2_with fail
    go_meet
    exact ⟨rfl, rfl, by first | exact (Drw.refl _).more _ | exact ((Drw.refl _).more _).more _ | exact Drw.refl _⟩
  obtain ⟨rfl, rfl, hcw⟩ := hcut
  have DW := Lib.hid hcw.below
  have SB0 := Lib.hid (blk_keep NB.out DW.out)
  have HR0 := Lib.hid (blk_keep NP.out DW.out)
  have T0 := Lib.hid (Turns.of_below (S := fun j => j = g ∨ j = gp) DW.out)
  clear hcw DW d4' d7 d8 d9 NB NP
  go_wp2_with fail
  go_loopw [8] (fun y wr => ∃ j : Nat, j ≤ q ∧ y = .int .i64 (j : Nat) ∧ Turns (fun j => j = g ∨ j = gp) W wr ∧ wr.heap[g]? = some (.cells (rocells vn ve (calls + 1) (upN x j) (.slice a2 n2 c2)) 33 (0, 0)) ∧ wr.heap[gp]? = some (.cells ((ups x j ++ zs.drop j).map Bf).toArray 5 (0, 0))) (fun y _ => q - (intOf y).toNat)
  case atStart => exact ⟨0, Nat.zero_le _, rfl, T0.out, SB0.out, HR0.out⟩
  case round =>
    obtain ⟨j, hj, rfl, ht, hb, hr⟩ := hrel
    have TT := Lib.hid ht
    have SB := Lib.hid hb
    have HR := Lib.hid hr
    have e9 := cell_of hb 9 (v := .int .u8 37) rfl
    have e10 := cell_of hb 10 (v := .int .u8 (B (upN x j))) rfl
    have f10 := free_block hb 10
    clear ht hb hr T0 SB0 HR0
    by_cases hlt : j < q
    · obtain ⟨q1, q2⟩ := (QL.out j).1 hlt
      have t1 : decide ((j : Int) < z) = true := decide_eq_true q1
      have t2 : decide ((j : Int) < (n : Int)) = true := decide_eq_true (by omega)
      have t2' : decide (j < n) = true := decide_eq_true q2
      have hjz : j < zs.length := by omega
      have SB2 := Lib.hid (show (wr.setCell ⟨g, 10, none⟩ (.int .u8 (B (upN x j + 37)))).drew.heap[g]? = some (.cells (rocells vn ve (calls + 1) (upN x j + 37) (.slice a2 n2 c2)) 33 (0, 0)) from set_block (i := 10) SB.out (.int .u8 (B (upN x j + 37))))
      have T3 := Lib.hid (show Turns (fun b => b = g) wr (wr.setCell ⟨g, 10, none⟩ (.int .u8 (B (upN x j + 37)))).drew from (Turns.set (S := fun b => b = g) wr (b := g) (i := 10) rfl (.int .u8 (B (upN x j + 37)))).trans_below ((Below.refl _ _).drew))
      have HR2 := Lib.hid (T3.out.heap HR.out (fun e => HGG.out e.symm))
      clear q1
      go_wp2_with fail
      go_region
      generalize (wr.setCell ⟨g, 10, none⟩ (.int .u8 (B (upN x j + 37)))).drew = W1 at *
      have g10 := cell_of SB2.out 10 (v := .int .u8 (B (upN x j + 37))) rfl
      obtain ⟨y, ej⟩ : ∃ y, W1.cell? ⟨gp, j, none⟩ = some y := by
        have hjl : j < (ups x j ++ zs.drop j).length := by rw [List.length_append, List.length_drop, ups_len]; omega
        exact ⟨_, cell_of HR2.out j (by show (((ups x j ++ zs.drop j).map Bf).toArray)[j]? = _; rw [List.getElem?_toArray, List.getElem?_map, List.getElem?_eq_getElem hjl]; rfl)⟩
      have fj : W1.frozen? ⟨gp, j, none⟩ = false := free_block HR2.out j
      have NX := Lib.hid (show (W1.setCell ⟨gp, j, none⟩ (.int .u8 (B (upN x j + 37)))).heap[gp]? = some (.cells ((ups x (j + 1) ++ zs.drop (j + 1)).map Bf).toArray 5 (0, 0)) from by
        rw [← set_up hjz]
        exact set_block (i := j) HR2.out (.int .u8 (B (upN x j + 37))))
      have NB2 := Lib.hid (show (W1.setCell ⟨gp, j, none⟩ (.int .u8 (B (upN x j + 37)))).heap[g]? = some (.cells (rocells vn ve (calls + 1) (upN x (j + 1)) (.slice a2 n2 c2)) 33 (0, 0)) from (Below.heap_setCell _ _ _ _ HGG.out).trans SB2.out)
      have NT := Lib.hid ((TT.out.trans (T3.out.mono (T := fun j => j = g ∨ j = gp) fun _ _ e => .inl e) fun _ _ e => e).trans (Turns.set (S := fun j => j = g ∨ j = gp) W1 (b := gp) (i := j) (.inr rfl) (.int .u8 (B (upN x j + 37)))) fun _ _ e => e)
      clear SB2 T3 HR2 e9 e10 f10
      go_wp2_with fail
      go_roundw
      case rel => exact ⟨j + 1, by omega, by go_num, NT.out, NB2.out, NX.out⟩
      case measure => simp [intOf]; omega
    · obtain rfl : j = q := by omega
      by_cases hjz : (j : Int) < z
      · have hjn : ¬ j < n := fun h => hlt ((QL.out j).2 ⟨hjz, h⟩)
        have t1 : decide ((j : Int) < z) = true := decide_eq_true hjz
        have t2 : decide ((j : Int) < (n : Int)) = false := decide_eq_false (by omega)
        have t2' : decide (j < n) = false := decide_eq_false hjn
        clear hlt hjz hjn
        go_wp2_with fail
        go_ret2
        exact FIN.out _ TT.out SB.out HR.out
      · have t1 : decide ((j : Int) < z) = false := decide_eq_false hjz
        clear hlt hjz
        go_wp2_with fail
        go_ret2
        exact FIN.out _ TT.out SB.out HR.out
end Go.Proofs.Ytpenbaafhbbmhaa
/- The document's reader and writer of any behaviour as readers and writers: contracts of Read and Write. Conditions: numbers within reach. -/
namespace Go.Proofs.Ytpenbaafhbbmhaa
open Go.RowKit
set_option linter.unusedVariables false
set_option linter.unusedSimpArgs false

set_option maxRecDepth 100000 in
set_option maxHeartbeats 2000000 in
theorem roread_any (g lo : Nat) (s : Od) (S : Nat → Prop) (gp n c : Nat) (zs : List UInt8) (w : World) (h : RoP g lo s S w) (hc : s.calls ≤ 17592186044000) (hn : n ≤ zs.length) (hnc : n ≤ c) (hz : n ≤ 140737488351232) (hp : w.heap[gp]? = some (.cells (zs.map Bf).toArray 5 (0, 0))) (hg : ¬ S gp) (hgb : lo ≤ gp) :
    Calls Try.prog 58 #[.pointer (some ⟨g, 0, none⟩), .slice (some ⟨gp, 0, none⟩) n c] w fun e w' => e = .returned (.tuple #[.int .i64 (oddM.num s n), .int .i64 (oddM.er s n)]) ∧ ∃ S', RoP g lo (oddM.nxt s n) S' w' ∧ (∀ j, S' j → S j ∨ w.heap.size ≤ j) ∧
      Turns (fun j => S j ∨ j = gp) w w' ∧ w'.heap[gp]? = some (.cells ((oddM.lay s n ++ zs.drop (oddM.lay s n).length).map Bf).toArray 5 (0, 0)) := by
  obtain ⟨vn, ve, vs, hb, h1, h2, h3, h5⟩ := h.blk
  have h4 := s.okz
  have hgp : g ≠ gp := fun e => hg (e ▸ h.own)
  have hgl := (h.inS g h.own).1
  have c4 : w.cell? ⟨g, 4, none⟩ = some (.int .i64 (s.calls : Nat)) := cell_of hb 4 rfl
  have f4 : w.frozen? ⟨g, 4, none⟩ = false := free_block hb 4
  have hset : (w.setCell ⟨g, 4, none⟩ (.int .i64 ((s.calls : Int) + 1))).heap[g]? = some (.cells (rocells vn ve (s.calls + 1) s.nx vs) 33 (0, 0)) := set_block (i := 4) hb (.int .i64 ((s.calls : Int) + 1))
  have d6 : (w.setCell ⟨g, 4, none⟩ (.int .i64 ((s.calls : Int) + 1))).cell? ⟨g, 6, none⟩ = some (.bool true) := cell_of hset 6 rfl
  have TS := Turns.set (S := fun j => j = g) w (b := g) (i := 4) rfl (.int .i64 ((s.calls : Int) + 1))
  have hz1 : (w.setCell ⟨g, 4, none⟩ (.int .i64 ((s.calls : Int) + 1))).heap.size = w.heap.size := by simp
  have RO := Lib.hid (rodd_any g lo gp n c zs _ vn ve vs s.sz s.n s.e s.calls s.nx hset (h1.turns TS fun j e => by omega) (h2.turns TS fun j e => by omega) (h3.turns TS fun j hj e => (h5 j hj).2 e) h4 (fun j hj => ⟨(h5 j hj).2, fun e => hg (e ▸ (h5 j hj).1)⟩) hgl hgb hgp (TS.heap hp (fun e => hgp e.symm)) hn hnc hz hc)
  have FIN := Lib.hid (show ∀ (r : Ending) w', RoddPost g lo gp n zs (w.setCell ⟨g, 4, none⟩ (.int .i64 ((s.calls : Int) + 1))) vn ve vs s.sz s.n s.e s.calls s.nx r w' → (∃ S', RoP g lo (oddM.nxt s n) S' w' ∧ (∀ j, S' j → S j ∨ w.heap.size ≤ j) ∧ Turns (fun j => S j ∨ j = gp) w w' ∧ w'.heap[gp]? = some (.cells ((oddM.lay s n ++ zs.drop (oddM.lay s n).length).map Bf).toArray 5 (0, 0))) from by
    rintro r w' ⟨-, vs', q1, q2, q3, q4, q5⟩
    have TT : Turns (fun j => S j ∨ j = gp) w w' := (TS.mono (T := fun j => S j ∨ j = gp) fun j _ e => .inl (e ▸ h.own)).trans q4 fun j _ e => by
      rcases e with e | e | e
      · exact .inl (e ▸ h.own)
      · exact .inr e
      · exact .inl (h5 j e).1
    have tb : ∀ j, S j ∨ j = gp → lo ≤ j := fun j e => by rcases e with e | e; (exact (h.inS j e).1); (omega)
    have hgw := (h.inS g h.own).2
    refine ⟨fun j => S j ∨ vs'.ownBlock = some j, ⟨⟨vn, ve, vs', q1, h1.turns TT tb, h2.turns TT tb, q2, fun j hj => ⟨.inr hj, fun e => ?_⟩⟩, .inl h.own, fun j hj => ?_⟩, fun j hj => ?_, TT, ?_⟩
    · rcases q3 j hj with k | k
      · exact (h5 j k).2 e
      · omega
    · rcases hj with hj | hj
      · exact ⟨(h.inS j hj).1, Nat.lt_of_lt_of_le (h.inS j hj).2 TT.size⟩
      · exact q2.lt j hj
    · rcases hj with hj | hj
      · exact .inl hj
      · rcases q3 j hj with k | k
        · exact .inl (h5 j k).1
        · exact .inr (by omega)
    · show w'.heap[gp]? = some (.cells ((ups s.nx (cl (numO s.n s.calls 0) n) ++ zs.drop (ups s.nx (cl (numO s.n s.calls 0) n)).length).map Bf).toArray 5 (0, 0))
      rw [ups_len]; exact q5)
  have r1 : IntKind.i64.wrap ((s.calls : Int) + 1) = (s.calls : Int) + 1 := IntWalk.i64_in _ (by omega)
  clear hb h1 h2 h3 h4 h5 hset TS hp hg h hgp
  go_enter Try.func58, Try.ntmps58
  go_wp2_with fail
  refine RO.out.mono ?_
  rintro e w2 hpst
  have FF := Lib.hid (FIN.out _ _ hpst)
  obtain ⟨rfl, -⟩ := hpst
  clear RO FIN
  go_wp2_with fail
  go_ret2
  exact ⟨rfl, FF.out⟩
theorem roddL (g lo : Nat) : RdrL oddM (.pointer (some ⟨g, 0, none⟩)) lo 17592186044000 (RoP g lo) where
  frame _ _ _ _ _ h ht hd hT := h.turns ht hd hT
  inS _ _ _ h := h.inS
  read s S w p n c zs h hc hn hnc hz hp hg hlg := roread_any g lo s S p n c zs w h (Nat.le_of_lt hc) hn hnc (by omega) hp hg hlg
set_option maxRecDepth 100000 in
set_option maxHeartbeats 4000000 in
theorem rowrite_any (g lo : Nat) (s : Od) (S : Nat → Prop) (ap : Option Addr) (n c : Nat) (xs : List UInt8) (w : World) (h : KoP g lo s S w) (hc : s.calls ≤ 17592186044000) (hz : s.took.length + n ≤ 140737488355328) (hp : Sl Bf w ap n c xs) (hg : ∀ b o, ap = some ⟨b, o, none⟩ → 0 < n → ¬ S b) :
    Calls Try.prog 53 #[.pointer (some ⟨g, 0, none⟩), .slice ap n c] w fun e w' => e = .returned (.tuple #[.int .i64 (oddW.num s xs), .int .i64 (oddW.er s xs)]) ∧ ∃ S', KoP g lo (oddW.nxt s xs) S' w' ∧ (∀ j, S' j → S j ∨ w.heap.size ≤ j) ∧ Turns S w w' := by
  obtain ⟨vn, ve, vt, vs, hb, h1, h2, h3, h5, h6, h7, h8⟩ := h.blk
  obtain ⟨ss, hss0⟩ : ∃ ss, s.sz = ss := ⟨_, rfl⟩
  have h4 : ss.length = s.calls := by rw [← hss0]; exact s.okz
  rw [hss0] at h3
  have HSS := Lib.hid hss0
  clear hss0
  obtain rfl : xs.length = n := hp.len
  obtain ⟨at', nt, ct, rfl, zt⟩ := h6.slN
  obtain ⟨as', cs', rfl, -⟩ := h3.slZ
  have hnt : s.took.length = nt := zt.len
  have hgl := (h.inS g h.own).1
  have hgw := (h.inS g h.own).2
  have c2 : w.cell? ⟨g, 2, none⟩ = some (.int .i64 (s.calls : Nat)) := cell_of hb 2 rfl
  have f2 : w.frozen? ⟨g, 2, none⟩ = false := free_block hb 2
  have hset : (w.setCell ⟨g, 2, none⟩ (.int .i64 ((s.calls : Int) + 1))).heap[g]? = some (.cells (kocells vn ve (s.calls + 1) (.slice at' nt ct) (.slice as' ss.length cs')) 66 (0, 0)) := set_block (i := 2) hb (.int .i64 ((s.calls : Int) + 1))
  have TS := Lib.hid (Turns.set (S := S) w (b := g) (i := 2) h.own (.int .i64 ((s.calls : Int) + 1)))
  have tg : ∀ j, Value.ownBlock (.slice at' nt ct) = some j → (w.setCell ⟨g, 2, none⟩ (.int .i64 ((s.calls : Int) + 1))).heap[j]? = w.heap[j]? := fun j hj => Below.heap_setCell _ _ _ _ (h7 j hj).2
  have SET := Lib.hid hset
  have d4 : (w.setCell ⟨g, 2, none⟩ (.int .i64 ((s.calls : Int) + 1))).cell? ⟨g, 4, none⟩ = some (.bool true) := cell_of hset 4 rfl
  have hz1 : (w.setCell ⟨g, 2, none⟩ (.int .i64 ((s.calls : Int) + 1))).heap.size = w.heap.size := by simp
  have tb : ∀ j, S j → lo ≤ j := fun j hj => (h.inS j hj).1
  have TB := Lib.hid tb
  have O3 := Lib.hid (show OwT fZs (w.setCell ⟨g, 2, none⟩ (.int .i64 ((s.calls : Int) + 1))) lo 3 (.slice as' ss.length cs') ss from h3.of_block fun j hj => Below.heap_setCell _ _ _ _ (h5 j hj).2)
  have O6 := Lib.hid (show OwT fB (w.setCell ⟨g, 2, none⟩ (.int .i64 ((s.calls : Int) + 1))) lo 5 (.slice at' nt ct) s.took from h6.of_block tg)
  have XP := Lib.hid (show Sl Bf (w.setCell ⟨g, 2, none⟩ (.int .i64 ((s.calls : Int) + 1))) ap xs.length c xs from hp.turns TS.out fun b o e hn0 e2 => hg b o e hn0 e2)
  have r1 : IntKind.i64.wrap ((s.calls : Int) + 1) = (s.calls : Int) + 1 := IntWalk.i64_in _ (by omega)
  have H := Lib.hid h; have H1 := Lib.hid h1; have H2 := Lib.hid h2; have H4 := Lib.hid h4; have H5 := Lib.hid h5; have H7 := Lib.hid h7; have H8 := Lib.hid h8; have HG := Lib.hid hg; have HNT := Lib.hid hnt
  clear hb h1 h2 h3 h4 h5 h6 h7 h8 h hp hg zt hset tg tb hnt
  go_enter Try.func53, Try.ntmps53
  go_upto_region 3 with (fail)
  generalize w.setCell ⟨g, 2, none⟩ (.int .i64 ((s.calls : Int) + 1)) = W at *
  have HZ1 := Lib.hid hz1
  clear c2 f2 hz1
  have c7 : W.cell? ⟨g, 7, none⟩ = some (.slice as' ss.length cs') := cell_of SET.out 7 rfl
  have LIT := Lib.hid (Sl.lit (f := fZ) W 3 #[.int .i64 (xs.length : Nat)] [(xs.length : Int)] 1 rfl rfl).toT
  have BA := Lib.hid ((Below.refl W.heap.size W).alloc (Nat.le_refl _) (.cells #[.int .i64 (xs.length : Nat)] 3))
  go_upto_region 4 with (at_builtin; refine wpList_appT eltTZ rfl (.tmp 24) (.tmp 27) rfl lo _ ss (by rfl) (O3.out.alloc _) _ 1 1 [(xs.length : Int)] (by rfl) LIT.out (by have := H4.out; unfold maxLen; omega) (by have := H4.out; omega) (by have := HZ1.out; simp; omega) _ rfl ?_; intro v2 w2 h2 hg2 hv2 hb2; obtain ⟨a2, n2, c2, rfl⟩ : ∃ a n c, v2 = .slice a n c := (by obtain ⟨a, c, e, _⟩ := h2.slZ; exact ⟨_, _, _, e⟩); have BE := (Turns.of_below (S := fun j => Value.ownBlock (.slice as' ss.length cs') = some j) BA.out).trans (T := fun j => Value.ownBlock (.slice as' ss.length cs') = some j) (Turns.of_grown hg2 fun j e => e) (fun _ _ e => e); have OW2 := Lib.hid h2; have V2 := Lib.hid hv2; have HB2 := Lib.hid (BE.heap SET.out (fun e => (H5.out _ e).2 rfl)); have s7 := cell_of HB2.out 7 rfl; have f7 := free_block HB2.out 7; have BE2 := Lib.hid BE; clear h2 hg2 hv2 hb2 BE)
  have hsz1 : (W.alloc (.cells #[.int .i64 (xs.length : Nat)] 3)).heap.size = W.heap.size + 1 := by simp
  have hW := HZ1.out
  have hv2 : ∀ j, Value.ownBlock (.slice a2 n2 c2) = some j → Value.ownBlock (.slice as' ss.length cs') = some j ∨ w.heap.size ≤ j := fun j hj => by
    rcases V2.out with e | e
    · exact .inl (e ▸ hj)
    · rw [e] at hj; injection hj with hj; exact .inr (by omega)
  have hv2g : ∀ j, Value.ownBlock (.slice a2 n2 c2) = some j → j ≠ g := fun j hj e => by
    rcases hv2 j hj with h | h
    · exact (H5.out j h).2 e
    · omega
  have TA := Lib.hid ((TS.out.trans (T := fun j => Value.ownBlock (.slice as' ss.length cs') = some j) BE2.out fun j _ e => (H5.out j e).1).trans (T := S) (Turns.set (S := S) w2 (b := g) (i := 7) H.out.own (.slice a2 n2 c2)) fun _ _ e => e)
  have NB := Lib.hid (show (w2.setCell ⟨g, 7, none⟩ (.slice a2 n2 c2)).heap[g]? = some (.cells (kocells vn ve (s.calls + 1) (.slice at' nt ct) (.slice a2 n2 c2)) 66 (0, 0)) from set_block (i := 7) HB2.out (.slice a2 n2 c2))
  have NO := Lib.hid (show OwT fZs (w2.setCell ⟨g, 7, none⟩ (.slice a2 n2 c2)) lo 3 (.slice a2 n2 c2) (ss ++ [(xs.length : Int)]) from OW2.out.of_block fun j hj => Below.heap_setCell _ _ _ _ (hv2g j hj))
  have N6 := Lib.hid (show OwT fB (w2.setCell ⟨g, 7, none⟩ (.slice a2 n2 c2)) lo 5 (.slice at' nt ct) s.took from (O6.out.turns BE2.out fun j hj e => H8.out j hj e).of_block fun j hj => Below.heap_setCell _ _ _ _ (H7.out j hj).2)
  have NX := Lib.hid (show Sl Bf (w2.setCell ⟨g, 7, none⟩ (.slice a2 n2 c2)) ap xs.length c xs from (XP.out.turns BE2.out fun b o e hn0 e2 => HG.out b o e hn0 (H5.out b e2).1).of_block fun b o e hn0 => Below.heap_setCell _ _ _ _ (show b ≠ g from fun e2 => HG.out b o e hn0 (e2 ▸ H.out.own)))
  have HV2 := Lib.hid hv2
  have HV2G := Lib.hid hv2g
  clear BE2 HB2 OW2 V2 s7 f7 c7 hv2 hv2g hsz1 O3 O6 XP SET BA LIT hW HZ1 d4
  generalize w2.setCell ⟨g, 7, none⟩ (.slice a2 n2 c2) = W2 at *
  have N1 := Lib.hid (H1.out.turns TA.out TB.out)
  have N2 := Lib.hid (H2.out.turns TA.out TB.out)
  obtain ⟨z, hzz⟩ : ∃ z, numO s.n s.calls (xs.length : Nat) = z := ⟨_, rfl⟩
  obtain ⟨er, hee⟩ : ∃ z, erO s.n s.e s.calls 0 = z := ⟨_, rfl⟩
  obtain ⟨k, hk⟩ : ∃ k, cl z xs.length = k := ⟨_, rfl⟩
  have TO := Lib.hid (fun (V : World) (hV : Drw W2 V) => show Calls Try.prog 56 #[vn, ve, .int .i64 ((s.calls : Int) + 1), .int .i64 (xs.length : Nat), .int .i64 0] V (fun r w' => r = .returned (.tuple #[.int .i64 z, .int .i64 er]) ∧ Drw V w') from by
    have := rtold_any lo vn ve s.n s.e s.calls (xs.length : Nat) 0 V (N1.out.turns (.of_below hV.below) (fun _ e => e.elim) (T := fun _ => False)) (N2.out.turns (.of_below hV.below) (fun _ e => e.elim) (T := fun _ => False)) (by omega)
    rwa [hzz, hee] at this)
  have hkl : k ≤ xs.length := by rw [← hk]; exact cl_le _ _
  have hkm : max 0 (min z (xs.length : Int)) = (k : Int) := by rw [← hk]; exact (cl_cast _ _).symm
  have ZZ := Lib.hid (And.intro hzz (And.intro hee hk))
  have hcut := fun V : World => run_cutto eltB V ap xs.length c .i64 k (by have := NX.out.le; omega)
  have e2 : W2.cell? ⟨g, 2, none⟩ = some (.int .i64 ((s.calls : Int) + 1)) := cell_of NB.out 2 (v := .int .i64 ((s.calls + 1 : Nat) : Int)) rfl
  have e5 := cell_of NB.out 5 (v := vn) rfl
  have e6 := cell_of NB.out 6 (v := ve) rfl
  clear hzz hee hk
  go_cut [6, 7] (fun a b wx => a = .int .i64 z ∧ b = .int .i64 er ∧ Drw W2 wx)
  case first =>
    go_quiet ((go_at_call 56; exact Calls.quiet_of_drw (TO.out _ (by first | exact (Drw.refl _).more _ | exact ((Drw.refl _).more _).more _))))
    go_wp2_with fail
    go_meet
    exact ⟨rfl, rfl, by first | exact (Drw.refl _).more _ | exact ((Drw.refl _).more _).more _ | exact Drw.refl _⟩
  obtain ⟨rfl, rfl, hcw⟩ := hcut
  have DB := Lib.hid hcw.below
  have SET := Lib.hid (blk_keep NB.out DB.out)
  have HT := Lib.hid (N6.out.keep DB.out)
  have OS := Lib.hid (NO.out.keep DB.out)
  have XK := Lib.hid ((NX.out.keep DB.out).upto k hkl)
  have TV := Lib.hid (TA.out.trans_below DB.out)
  clear hcw DB NB N6 NO NX TA TO e2 e5 e6
  obtain ⟨V, hV⟩ : ∃ V, wc = V := ⟨_, rfl⟩
  rw [hV] at SET HT OS XK TV ⊢
  clear hV
  have s3 : V.cell? ⟨g, 3, none⟩ = some (.slice at' nt ct) := cell_of SET.out 3 rfl
  have hVl : lo ≤ V.heap.size := by have := TV.out.size; omega
  have GB := Lib.hid (fun (V' w3 : World) (hg3 : V'.grownBy w3 (Value.ownBlock (.slice at' nt ct))) (hV : V'.heap = V.heap) => (show w3.heap[g]? = V.heap[g]? ∧ w3.cell? ⟨g, 3, none⟩ = some (.slice at' nt ct) ∧ w3.frozen? ⟨g, 3, none⟩ = false from by
    have e : w3.heap[g]? = V.heap[g]? := by
      rw [hg3.block g (by rw [hV]; exact (Array.getElem?_eq_some_iff.1 SET.out).1) (fun e => (H7.out g e.symm).2 rfl), hV]
    exact ⟨e, cell_of (e.trans SET.out) 3 rfl, free_block (e.trans SET.out) 3⟩))
  go_wp2_with fail
  go_region_law (refine step_appT eltTB rfl (.tmp 53) (.tmp 60) rfl lo _ s.took (by simp [Act.eval, Act.put]) HT.out ap k c (xs.take k) (by simp [Act.eval, Act.put]) XK.out.toT (by unfold maxLen; omega) (by omega) (by simp <;> omega) (s.took ++ xs.take k) rfl ?_; intro v3 w3 h3 hg3 hv3 hb3; obtain ⟨a3, n3, c3, rfl, z3⟩ := h3.slN; have H3 := Lib.hid h3; have G3 := Lib.hid hg3; have V3 := Lib.hid hv3; obtain ⟨gb1, gb2, gb3⟩ := GB.out _ w3 hg3 rfl; have GB3 := Lib.hid gb1; clear h3 hg3 hv3 hb3 z3 gb1)
  all_goals
    go_wp2_with fail
    go_ret2
    have hb5 := set_block (i := 3) (GB3.out.trans SET.out) (.slice a3 n3 c3)
    have hVz := TV.out.size
    have hv3 : ∀ j, Value.ownBlock (.slice a3 n3 c3) = some j → Value.ownBlock (.slice at' nt ct) = some j ∨ j = V.heap.size := fun j hj => by
      rcases V3.out with e | e
      · exact .inl (e ▸ hj)
      · rw [e] at hj; injection hj with hj; exact .inr (by rw [← hj]; rfl)
    have hng : ∀ j, Value.ownBlock (.slice a3 n3 c3) = some j → j ≠ g := fun j hj e => by
      rcases hv3 j hj with h | h
      · exact (H7.out j h).2 e
      · omega
    have hOSl := OS.out.lt
    have h2not : ∀ j, Value.ownBlock (.slice a2 n2 c2) = some j → Value.ownBlock (.slice at' nt ct) ≠ some j := fun j hj e => by
      rcases HV2.out j hj with h | h
      · exact H8.out j e h
      · have := (H.out.inS j (H7.out j e).1).2; omega
    have t0 : Turns S w V.drew := TV.out.trans_below (show Below V.heap.size V V.drew from (Below.refl _ _).drew)
    have t1 : Turns S w w3 := t0.trans (T := S) (.of_grown G3.out fun j e => (H7.out j e).1) fun _ _ e => e
    have t2 : Turns S w (w3.setCell ⟨g, 3, none⟩ (.slice a3 n3 c3)) := t1.trans (T := S) (Turns.set w3 H.out.own _) fun _ _ e => e
    have hz3 : w.heap.size ≤ w3.heap.size := t1.size
    obtain ⟨z1, z2, z4⟩ := ZZ.out
    refine ⟨by show _ = Ending.returned (.tuple #[.int .i64 (numO s.n s.calls (xs.length : Nat)), .int .i64 (erO s.n s.e s.calls 0)]); rw [z1, z2]; rfl, fun j => S j ∨ Value.ownBlock (.slice a3 n3 c3) = some j ∨ Value.ownBlock (.slice a2 n2 c2) = some j,
      ⟨⟨vn, ve, .slice a3 n3 c3, .slice a2 n2 c2, hb5, H1.out.turns t2 TB.out, H2.out.turns t2 TB.out, ?_, fun j hj => ⟨.inr (.inr hj), HV2G.out j hj⟩, ?_, fun j hj => ⟨.inr (.inl hj), hng j hj⟩, fun j hj e => ?_⟩, .inl H.out.own, fun j hj => ?_⟩, fun j hj => ?_, t2⟩
    · show OwT fZs _ lo 3 (.slice a2 n2 c2) (s.sz ++ [(xs.length : Int)])
      rw [HSS.out]
      refine (show OwT fZs w3 lo 3 (.slice a2 n2 c2) (ss ++ [(xs.length : Int)]) from ?_).of_block fun j hj => Below.heap_setCell _ _ _ _ (HV2G.out j hj)
      exact (show OwT fZs V.drew lo 3 (.slice a2 n2 c2) (ss ++ [(xs.length : Int)]) from OS.out).of_block fun j hj => G3.out.block j (hOSl j hj).2 (fun e => h2not j hj e.symm)
    · show OwT fB _ lo 5 (.slice a3 n3 c3) (s.took ++ xs.take (cl (numO s.n s.calls (xs.length : Nat)) xs.length))
      rw [z1, z4]
      exact H3.out.of_block fun j hj => Below.heap_setCell _ _ _ _ (hng j hj)
    · rcases hv3 j hj with h | h
      · exact h2not j e h
      · have := (hOSl j e).2; omega
    · rcases hj with hj | hj | hj
      · exact ⟨(H.out.inS j hj).1, Nat.lt_of_lt_of_le (H.out.inS j hj).2 t2.size⟩
      · have := H3.out.lt j hj
        exact ⟨this.1, by simpa using this.2⟩
      · have q := hOSl j hj
        have q2 : V.heap.size ≤ w3.heap.size := G3.out.size
        exact ⟨q.1, by simp; omega⟩
    · rcases hj with hj | hj | hj
      · exact .inl hj
      · rcases hv3 j hj with h | h
        · exact .inl (H7.out j h).1
        · exact .inr (by omega)
      · rcases HV2.out j hj with h | h
        · exact .inl (H5.out j h).1
        · exact .inr h
theorem koddL (g lo : Nat) : WrtL oddW (.pointer (some ⟨g, 0, none⟩)) lo 17592186044000 140737488355328 (KoP g lo) where
  frame _ _ _ _ _ h ht hd hT := h.turns ht hd hT
  inS _ _ _ h := h.inS
  write t S w ap n c xs h hc hr hn hx hg := rowrite_any g lo t S ap n c xs w h (Nat.le_of_lt hc) hr hx hg
end Go.Proofs.Ytpenbaafhbbmhaa
/- The helper alike at two lists that are the same: contract. Condition: lengths within reach. -/
namespace Go.Proofs.Ytpenbaafhbbmhaa
open Go.RowKit
set_option linter.unusedVariables false

set_option maxRecDepth 100000 in
set_option maxHeartbeats 400000 in
theorem alike_any (a : Option Addr) (n c : Nat) (xs : List Int) (a' : Option Addr) (n' c' : Nat) (w : World) (hn : n ≤ 9223372036854775807)
    (h : Sl fZ w a n c xs) (h' : Sl fZ w a' n' c' xs) :
    Calls Try.prog 27 #[.slice a n c, .slice a' n' c'] w fun e w' => e = .returned (.bool true) ∧ Drw w w' := by
  obtain rfl : n' = n := h'.len.symm.trans h.len
  have H := Lib.hid h; clear h
  have H' := Lib.hid h'; clear h'
  go_enter Try.func27, Try.ntmps27
  go_wp2_with fail
  go_loopw [5] (fun i wr => ∃ k : Nat, k ≤ n' ∧ i = .int .i64 k ∧ Drw w wr) (fun i _ => n' - (intOf i).toNat)
  case atStart => exact ⟨0, Nat.zero_le _, rfl, Drw.refl _⟩
  case round =>
    obtain ⟨k, hk, rfl, hb⟩ := hrel
    have HB := Lib.hid hb; clear hb
    by_cases hlt : k < n'
    · obtain ⟨x, b, o, hx, rfl, hc⟩ := (H.out.keep HB.out.below).at k hlt
      obtain ⟨y, b', o', hy, rfl, hc'⟩ := (H'.out.keep HB.out.below).at k hlt
      obtain rfl : x = y := Option.some.inj (hx.symm.trans hy)
      have hc : wr.cell? ⟨b, o + k, none⟩ = some (.int .i64 x) := hc
      have hc' : wr.cell? ⟨b', o' + k, none⟩ = some (.int .i64 x) := hc'
      have u1 : (x != x) = false := by simp
      clear hx hy
      go_wp2_with fail
      go_quiet (fail)
      go_wp2_with fail
      go_roundw
      case rel => exact ⟨k + 1, by omega, by go_num, HB.out.more _⟩
      case measure => simp [intOf]; omega
    · go_wp2_with fail
      go_ret
      exact ⟨rfl, HB.out⟩
end Go.Proofs.Ytpenbaafhbbmhaa

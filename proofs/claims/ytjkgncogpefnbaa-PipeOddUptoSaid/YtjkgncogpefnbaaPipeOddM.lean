/- Readers and writers of any behaviour: plain words; what they tell. No condition. -/
import Derived.Test.YtjkgncogpefnbaaPipeGen
import Derived.Test.YtjkgncogpefnbaaPipeRefGen
namespace Go.Proofs.Ytjkgncogpefnbaa
open Go.RowKit
set_option linter.unusedVariables false
set_option linter.unusedSimpArgs false

/-- what a call tells: the numbers, the errors, how many calls there were -/
def numO (n : List Int) (calls : Nat) (all : Int) : Int := (n[calls]?).getD all
def erO (n e : List Int) (calls : Nat) (behind : Int) : Int := if calls < n.length then (e[calls]?).getD 0 else behind
theorem numO_in {n : List Int} {c : Nat} {a m : Int} (h : n[c]? = some m) : numO n c a = m := by unfold numO; rw [h]; rfl
theorem numO_out {n : List Int} {c : Nat} {a : Int} (h : n.length ≤ c) : numO n c a = a := by unfold numO; rw [List.getElem?_eq_none h]; rfl
theorem erO_in {n e : List Int} {c : Nat} {a m : Int} (h : c < n.length) (h2 : e[c]? = some m) : erO n e c a = m := by unfold erO; rw [if_pos h, h2]; rfl
theorem erO_ok {n e : List Int} {c : Nat} {a : Int} (h : c < n.length) (h2 : e.length ≤ c) : erO n e c a = 0 := by unfold erO; rw [if_pos h, List.getElem?_eq_none h2]; rfl
theorem erO_out {n e : List Int} {c : Nat} {a : Int} (h : n.length ≤ c) : erO n e c a = a := by unfold erO; rw [if_neg (by omega)]
/-- a number, where it may be -/
def cl (z : Int) (m : Nat) : Nat := (max 0 (min z m)).toNat
theorem cl_le (z : Int) (m : Nat) : cl z m ≤ m := by unfold cl; omega
theorem cl_eq {z : Int} {m : Nat} (h0 : 0 ≤ z) (h1 : z ≤ m) : (cl z m : Int) = z := by unfold cl; omega
theorem cl_cast (z : Int) (m : Nat) : (cl z m : Int) = max 0 (min z m) := by unfold cl; omega
theorem cl_lt {z : Int} {m j : Nat} : j < cl z m ↔ (j : Int) < z ∧ j < m := by unfold cl; omega
/-- bytes that go up -/
def upN (x : UInt8) : Nat → UInt8
  | 0 => x
  | k + 1 => upN x k + 1
def ups (x : UInt8) (k : Nat) : List UInt8 := (List.range k).map fun i => upN x (i + 1)
theorem ups_len (x : UInt8) (k : Nat) : (ups x k).length = k := by unfold ups; simp
theorem ups_succ (x : UInt8) (k : Nat) : ups x (k + 1) = ups x k ++ [upN x (k + 1)] := by unfold ups; rw [List.range_succ, List.map_append]; rfl
theorem set_up {x : UInt8} {zs : List UInt8} {j : Nat} (hj : j < zs.length) : ((ups x j ++ zs.drop j).map Bf).toArray.setIfInBounds j (Bf (upN x (j + 1))) = ((ups x (j + 1) ++ zs.drop (j + 1)).map Bf).toArray := by
  apply Array.ext'
  rw [Array.toList_setIfInBounds]
  simp only
  rw [← List.map_set, ups_succ, List.append_assoc, List.set_append_right _ _ (by rw [ups_len]; exact Nat.le_refl _), ups_len, Nat.sub_self, List.drop_eq_getElem_cons hj]
  rfl
/-- of any behaviour: numbers, errors, calls, the last byte laid, what was taken -/
structure Od where
  n : List Int
  e : List Int
  calls : Nat
  nx : UInt8
  took : List UInt8
  okn : Ints n
def oddM : Rm Od where
  num s _ := numO s.n s.calls 0
  er s _ := erO s.n s.e s.calls 31
  lay s m := ups s.nx (cl (numO s.n s.calls 0) m)
  nxt s m := { s with calls := s.calls + 1, nx := upN s.nx (cl (numO s.n s.calls 0) m) }
  mu s := s.n.length - s.calls
  cnt s := s.calls
  numB s m _ := by
    by_cases h : s.calls < s.n.length
    · rw [numO_in (List.getElem?_eq_getElem h)]
      have := s.okn _ (List.getElem_mem h)
      omega
    · rw [numO_out (by omega)]; omega
  layN s m := by rw [ups_len]; exact cl_le _ _
  layE s m h0 h1 := by rw [ups_len]; exact cl_eq h0 h1
  muL s m he hn _ := by
    have h : s.calls < s.n.length := by
      by_cases h : s.calls < s.n.length
      · exact h
      · rw [numO_out (by omega)] at hn; omega
    show s.n.length - (s.calls + 1) < s.n.length - s.calls
    omega
  muE s m _ := by show s.n.length - (s.calls + 1) ≤ s.n.length - s.calls; omega
  cntS _ _ := rfl
  vol s m := (s.n.length - s.calls) * m
  volS s m h0 h1 := by
    show (s.n.length - (s.calls + 1)) * m + (numO s.n s.calls 0).toNat ≤ (s.n.length - s.calls) * m
    by_cases h : s.calls < s.n.length
    · obtain ⟨k, hk⟩ : ∃ k, s.n.length - s.calls = k + 1 := ⟨s.n.length - s.calls - 1, by omega⟩
      rw [hk, show s.n.length - (s.calls + 1) = k by omega, Nat.succ_mul]
      omega
    · rw [numO_out (by omega), show s.n.length - (s.calls + 1) = s.n.length - s.calls by omega]
      exact Nat.le_refl _
def oddW : Wm Od where
  num t p := numO t.n t.calls p.length
  er t _ := erO t.n t.e t.calls 0
  nxt t p := { t with calls := t.calls + 1, took := t.took ++ p.take (cl (numO t.n t.calls p.length) p.length) }
  cnt t := t.calls
  room t := t.took.length
  numB t p hp := by
    by_cases h : t.calls < t.n.length
    · rw [numO_in (List.getElem?_eq_getElem h)]
      have := t.okn _ (List.getElem_mem h)
      omega
    · rw [numO_out (by omega)]; omega
  cntS _ _ := rfl
  roomS t p h0 h1 := by
    show (t.took ++ p.take (cl (numO t.n t.calls p.length) p.length)).length ≤ t.took.length + (numO t.n t.calls p.length).toNat
    have := cl_eq h0 h1
    rw [List.length_append, List.length_take]
    omega
/-- numbers of the arguments' -/
def Nums (w : World) (bd : Nat) (v : Value) (l : List Int) : Prop := ∃ a c, v = .slice a l.length c ∧ Sl fZ w a l.length c l ∧ ∀ b o, a = some ⟨b, o, none⟩ → 0 < l.length → b < bd
theorem Nums.turns {w w' : World} {bd : Nat} {v : Value} {l : List Int} {T : Nat → Prop} (h : Nums w bd v l) (ht : Turns T w w') (hT : ∀ j, T j → bd ≤ j) : Nums w' bd v l := by
  obtain ⟨a, c, rfl, hs, hb⟩ := h
  exact ⟨a, c, rfl, hs.turns ht fun b o e hn he => by have := hb b o e hn; have := hT b he; omega, hb⟩
/-- one in block g, the blocks of its own are S; its numbers lie below bd -/
structure OdP (g lo bd : Nat) (s : Od) (S : Nat → Prop) (w : World) : Prop where
  blk : ∃ vn ve vt, w.heap[g]? = some (.cells #[vn, ve, .int .i64 (s.calls : Nat), .int .u8 (B s.nx), vt] 46 (0, 0)) ∧ Nums w bd vn s.n ∧ Nums w bd ve s.e ∧ OwT fB w lo 5 vt s.took ∧ ∀ j, vt.ownBlock = some j → S j ∧ j ≠ g
  own : S g
  inS : ∀ j, S j → lo ≤ j ∧ j < w.heap.size
  bl : bd ≤ lo
theorem OdP.turns {g lo bd : Nat} {s : Od} {S T : Nat → Prop} {w w' : World} (h : OdP g lo bd s S w) (ht : Turns T w w') (hd : ∀ j, S j → ¬ T j) (hT : ∀ j, T j → bd ≤ j) : OdP g lo bd s S w' := by
  obtain ⟨vn, ve, vt, hb, h1, h2, h3, h4⟩ := h.blk
  exact ⟨⟨vn, ve, vt, ht.heap hb (hd g h.own), h1.turns ht hT, h2.turns ht hT, h3.turns ht fun j hj => hd j (h4 j hj).1, h4⟩, h.own, fun j hj => ⟨(h.inS j hj).1, Nat.lt_of_lt_of_le (h.inS j hj).2 ht.size⟩, h.bl⟩
/-- the document's -/
def rocells (vn ve : Value) (calls : Nat) (x : UInt8) (vs : Value) : Array Value :=
  #[.slice none 0 0, .slice none 0 0, .int .i64 0, .bool false, .int .i64 (calls : Nat), .int .i64 0, .bool true, vn, ve, .int .u8 1, .int .u8 (B x), vs]
def kocells (vn ve : Value) (calls : Nat) (vt vs : Value) : Array Value := #[.slice none 0 0, .int .i64 0, .int .i64 (calls : Nat), vt, .bool true, vn, ve, vs]
/-- the document's reader of any behaviour -/
structure RoP (g lo : Nat) (s : Od) (S : Nat → Prop) (w : World) : Prop where
  blk : ∃ vn ve vs, ∃ zs : List Int, w.heap[g]? = some (.cells (rocells vn ve s.calls s.nx vs) 48 (0, 0)) ∧ Nums w lo vn s.n ∧ Nums w lo ve s.e ∧ OwT fZs w lo 3 vs zs ∧ zs.length = s.calls ∧ ∀ j, vs.ownBlock = some j → S j ∧ j ≠ g
  own : S g
  inS : ∀ j, S j → lo ≤ j ∧ j < w.heap.size
theorem RoP.turns {g lo : Nat} {s : Od} {S T : Nat → Prop} {w w' : World} (h : RoP g lo s S w) (ht : Turns T w w') (hd : ∀ j, S j → ¬ T j) (hT : ∀ j, T j → lo ≤ j) : RoP g lo s S w' := by
  obtain ⟨vn, ve, vs, zs, hb, h1, h2, h3, h4, h5⟩ := h.blk
  exact ⟨⟨vn, ve, vs, zs, ht.heap hb (hd g h.own), h1.turns ht hT, h2.turns ht hT, h3.turns ht fun j hj => hd j (h5 j hj).1, h4, h5⟩, h.own, fun j hj => ⟨(h.inS j hj).1, Nat.lt_of_lt_of_le (h.inS j hj).2 ht.size⟩⟩
/-- its writer -/
structure KoP (g lo : Nat) (s : Od) (S : Nat → Prop) (w : World) : Prop where
  blk : ∃ vn ve vt vs, ∃ zs : List Int, w.heap[g]? = some (.cells (kocells vn ve s.calls vt vs) 50 (0, 0)) ∧ Nums w lo vn s.n ∧ Nums w lo ve s.e ∧ OwT fZs w lo 3 vs zs ∧ zs.length = s.calls ∧ (∀ j, vs.ownBlock = some j → S j ∧ j ≠ g) ∧ OwT fB w lo 5 vt s.took ∧ (∀ j, vt.ownBlock = some j → S j ∧ j ≠ g) ∧ ∀ j, vt.ownBlock = some j → vs.ownBlock ≠ some j
  own : S g
  inS : ∀ j, S j → lo ≤ j ∧ j < w.heap.size
theorem KoP.turns {g lo : Nat} {s : Od} {S T : Nat → Prop} {w w' : World} (h : KoP g lo s S w) (ht : Turns T w w') (hd : ∀ j, S j → ¬ T j) (hT : ∀ j, T j → lo ≤ j) : KoP g lo s S w' := by
  obtain ⟨vn, ve, vt, vs, zs, hb, h1, h2, h3, h4, h5, h6, h7, h8⟩ := h.blk
  exact ⟨⟨vn, ve, vt, vs, zs, ht.heap hb (hd g h.own), h1.turns ht hT, h2.turns ht hT, h3.turns ht fun j hj => hd j (h5 j hj).1, h4, h5, h6.turns ht fun j hj => hd j (h7 j hj).1, h7, h8⟩, h.own, fun j hj => ⟨(h.inS j hj).1, Nat.lt_of_lt_of_le (h.inS j hj).2 ht.size⟩⟩
end Go.Proofs.Ytjkgncogpefnbaa

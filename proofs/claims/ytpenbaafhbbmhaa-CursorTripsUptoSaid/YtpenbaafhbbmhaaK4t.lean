/- Several texts in one: VintPutM, VintPut, VintBytes, Items, CurTripsM. Each has its own sentence and conditions below. -/
import Derived.Test.YtpenbaafhbbmhaaVintM
import Derived.Test.YtpenbaafhbbmhaaByte
import Derived.Test.YtpenbaafhbbmhaaCurTightM
import Derived.Test.YtpenbaafhbbmhaaCurTold
/- The bytes of a number: plain words, no program. No condition. -/
namespace Go.Proofs.Ytpenbaafhbbmhaa
set_option linter.unusedVariables false

/-- a byte behind which the number goes on -/
def hi8 (n : Nat) : UInt8 := UInt8.ofNat (n % 128 + 128)
def lo8 (n : Nat) : UInt8 := UInt8.ofNat n
def vb (n : Nat) : List UInt8 := if h : n < 128 then [lo8 n] else hi8 n :: vb (n / 128)
termination_by n
decreasing_by omega
theorem vb_lt {n : Nat} (h : n < 128) : vb n = [lo8 n] := by rw [vb, dif_pos h]
theorem vb_ge {n : Nat} (h : ¬ n < 128) : vb n = hi8 n :: vb (n / 128) := by rw [vb, dif_neg h]
theorem vb_pos (n : Nat) : 0 < (vb n).length := by
  by_cases h : n < 128
  · rw [vb_lt h]; simp
  · rw [vb_ge h]; simp
theorem u8_of {n : Nat} (h : n < 256) : (UInt8.ofNat n).toNat = n := by rw [UInt8.toNat_ofNat']; omega
theorem vb_len : ∀ (n : Nat), ∀ m, m ≤ n → (vb m).length ≤ (vb n).length := by
  intro n
  induction n using Nat.strongRecOn with
  | _ n ih =>
    intro m hm
    by_cases h : m < 128
    · rw [vb_lt h]; exact vb_pos n
    · rw [vb_ge h, vb_ge (by omega : ¬ n < 128)]
      have := ih (n / 128) (by omega) (m / 128) (Nat.div_le_div_right hm)
      simp only [List.length_cons]; omega
theorem rd_vb : ∀ (m : Nat), ∀ (k v : Nat) (rest : List UInt8), k ≤ 9 → m * 128 ^ k < 18446744073709551616 → (k = 0 ∨ 0 < m) → rd (vb m ++ rest) k v = (v + m * 128 ^ k, k + (vb m).length, 0) := by
  intro m
  have e9 : (128 : Nat) ^ 9 = 9223372036854775808 := by decide
  induction m using Nat.strongRecOn with
  | _ m ih =>
    intro k v rest hk hm hz
    by_cases h : m < 128
    · rw [vb_lt h]
      have hu := u8_of (n := m) (by omega)
      show rd (UInt8.ofNat m :: rest) k v = _
      rw [rd_last (by rw [hu]; intro ⟨e, e2⟩; subst e; omega) (by rw [hu]; omega) (by rw [hu]; exact h), hu, Nat.mod_eq_of_lt h]; rfl
    · rw [vb_ge h]
      have hu := u8_of (n := m % 128 + 128) (by omega)
      have hk9 : k ≠ 9 := by intro e; subst e; omega
      show rd (UInt8.ofNat (m % 128 + 128) :: (vb (m / 128) ++ rest)) k v = _
      rw [rd_go (by omega) (by rw [hu]; omega) (by rw [hu]; omega), hu]
      have e1 : (m % 128 + 128) % 128 = m % 128 := by omega
      have e2 : m % 128 * 128 ^ k + m / 128 * 128 ^ (k + 1) = m * 128 ^ k := by
        rw [Nat.pow_succ, Nat.mul_comm (128 ^ k), ← Nat.mul_assoc, ← Nat.add_mul]
        congr 1; omega
      have e3 : m / 128 * 128 ^ (k + 1) < 18446744073709551616 := by omega
      rw [ih (m / 128) (by omega) (k + 1) _ rest (by omega) e3 (.inr (by omega)), e1, List.length_cons]
      congr 1
      · omega
      · congr 1; omega
theorem vb_inj {m n : Nat} (hm : m < 18446744073709551616) (hn : n < 18446744073709551616) (h : vb m = (vb n).take (vb m).length) : m = n := by
  have h1 := rd_vb m 0 0 ((vb n).drop (vb m).length) (by omega) (by omega) (.inl rfl)
  have h2 := rd_vb n 0 0 [] (by omega) (by omega) (.inl rfl)
  have e : vb m ++ (vb n).drop (vb m).length = vb n := by
    conv => lhs; lhs; rw [h]
    exact List.take_append_drop _ _
  rw [e] at h1
  rw [List.append_nil, h1] at h2
  injection h2 with h3 _
  omega
theorem vb_short : ∀ (k n : Nat), n < 128 ^ (k + 1) → (vb n).length ≤ k + 1
  | 0, n, h => by
    have e : (128 : Nat) ^ (0 + 1) = 128 := by decide
    rw [vb_lt (by omega)]; simp
  | k + 1, n, h => by
    by_cases h2 : n < 128
    · rw [vb_lt h2]; simp
    · rw [vb_ge h2, List.length_cons]
      have := vb_short k (n / 128) (by rw [Nat.pow_succ] at h; omega)
      omega
theorem vb_ten {n : Nat} (h : n < 18446744073709551616) : (vb n).length ≤ 10 := vb_short 9 n (by
  have e : (128 : Nat) ^ (9 + 1) = 1180591620717411303424 := by decide
  omega)
theorem or128 (n : Nat) : bits .or .u8 ((n : Int) % 256) 128 = B (hi8 n) := by
  have : ∀ k : Fin 256, bits .or .u8 ((k.val : Nat) : Int) 128 = ((k.val % 128 + 128 : Nat) : Int) := by decide +kernel
  have h := this ⟨n % 256, by omega⟩
  have e : ((n : Int) % 256) = ((n % 256 : Nat) : Int) := by omega
  rw [e, h]
  unfold B hi8
  rw [u8_of (by omega)]
  show ((n % 256 % 128 + 128 : Nat) : Int) = _
  omega
theorem low8 {n : Nat} (h : n < 128) : (n : Int) = B (lo8 n) := by
  unfold B lo8; rw [u8_of (by omega)]
theorem cell8 {n : Nat} (h : n < 128) : (#[Value.int .u8 (n : Int)] : Array Value).toList = [lo8 n].map Bf := by
  show [Value.int .u8 (n : Int)] = [Bf (lo8 n)]
  rw [low8 h]
end Go.Proofs.Ytpenbaafhbbmhaa
/- The bytes of a number: contracts of put and Bytes. Conditions: the number fits; the row is the call's own. -/
namespace Go.Proofs.Ytpenbaafhbbmhaa
set_option linter.unusedVariables false
open Go.RowKit

set_option maxRecDepth 100000 in
set_option maxHeartbeats 1000000 in
theorem vput_any (v : Value) (ys : List UInt8) (base n : Nat) (w : World) (hb : base ≤ w.heap.size) (hy : ys.length ≤ 200000000000000) (hn : n < 18446744073709551616) (h : OwT fB w base 5 v ys) :
    Calls Try.prog 48 #[v, .int .u64 n] w fun e w' => ∃ v', e = .returned v' ∧ OwT fB w' base 5 v' (ys ++ vb n) ∧ Below base w w' := by
  have h10 := vb_ten hn
  have HH := Lib.hid h; clear h
  clear hn
  obtain ⟨all, hall⟩ : ∃ all, ys ++ vb n = all := ⟨_, rfl⟩
  have hl : all.length ≤ 200000000000010 := by rw [← hall, List.length_append]; omega
  rw [hall]
  have HA := Lib.hid hall; clear hall h10 hy
  go_enter Try.func48, Try.ntmps48
  go_wp2_with fail
  go_loopw [0, 1] (fun s i wr => ∃ (m : Nat) (zs : List UInt8), i = .int .u64 m ∧ OwT fB wr base 5 s zs ∧ zs ++ vb m = all ∧ Below base w wr) (fun _ i _ => (intOf i).toNat)
  case atStart => exact ⟨n, ys, rfl, HH.out, HA.out, Below.refl _ _⟩
  case round =>
    obtain ⟨m, zs, rfl, ho, hz, hbb⟩ := hrel
    have O := Lib.hid ho; clear ho
    have G := Lib.hid hbb; clear hbb
    have lw := G.out.size
    by_cases hm : (128 : Int) ≤ m
    · rw [vb_ge (by omega)] at hz
      have hzl : zs.length + 1 ≤ 200000000000010 := by
        have := congrArg List.length hz
        rw [List.length_append, List.length_cons] at this; omega
      have HZ := Lib.hid hz; clear hz
      have r1 := or128 m
      go_wp2_with (at_builtin; refine wpList_appG eltTB rfl _ _ rfl base _ zs (by rfl) (O.out.alloc _) _ 1 1 [hi8 m] (by rfl) (Sl.lit _ _ _ _ _ rfl rfl).toT (by unfold maxLen; omega) (.wide (by omega)) (by simp; omega) _ rfl ?_; intro v5 w5 h5 hg5 hv5 hb5; have O5 := Lib.hid h5; have G5 := Lib.hid ((G.out.alloc (Nat.le_trans hb lw) _).trans hb5); clear h5 hb5 hg5 hv5)
      go_roundw
      case rel => exact ⟨m / 128, _, by go_num, O5.out, by rw [List.append_assoc]; exact HZ.out, G5.out⟩
      case measure => simp [intOf]; omega
    · rw [vb_lt (by omega)] at hz
      have hzl : zs.length + 1 ≤ 200000000000010 := by
        have := congrArg List.length hz
        rw [List.length_append, List.length_cons] at this; simp at this; omega
      have HZ := Lib.hid hz; clear hz
      have HC := Lib.hid (cell8 (n := m) (by omega))
      go_wp2_with (at_builtin; refine wpList_appG eltTB rfl _ _ rfl base _ zs (by rfl) (O.out.alloc _) _ 1 1 [lo8 m] (by rfl) (Sl.lit _ _ _ _ _ rfl HC.out).toT (by unfold maxLen; omega) (.wide (by omega)) (by simp; omega) _ rfl ?_; intro v5 w5 h5 hg5 hv5 hb5; have O5 := Lib.hid h5; have G5 := Lib.hid ((G.out.alloc (Nat.le_trans hb lw) _).trans hb5); clear h5 hb5 hg5 hv5)
      go_ret
      exact ⟨_, rfl, by have := O5.out; rw [HZ.out] at this; exact this, G5.out⟩
end Go.Proofs.Ytpenbaafhbbmhaa
/- The bytes of a number: contract. Condition: the number fits. -/
namespace Go.Proofs.Ytpenbaafhbbmhaa
set_option linter.unusedVariables false
open Go.RowKit

theorem vbytes_any (n : Nat) (w : World) (hn : n < 18446744073709551616) :
    Calls Try.prog 31 #[.int .u64 n] w fun e w' => ∃ v, e = .returned v ∧ OwT fB w' w.heap.size 5 v (vb n) ∧ Below w.heap.size w w' := by
  have HN := Lib.hid hn; clear hn
  go_enter Try.func31, Try.ntmps31
  go_wp2_with fail
  refine (vput_any _ [] w.heap.size n _ (Nat.le_refl _) (by simp) HN.out (OwT.nil _ _ _ _)).mono ?_
  rintro e w' ⟨v, rfl, hv, hb⟩
  go_wp2_with fail
  go_ret
  exact ⟨_, rfl, hv, hb⟩
end Go.Proofs.Ytpenbaafhbbmhaa
/- Items in memory: a Bool, a number, a text each; the bytes that they are laid as. No condition. -/
namespace Go.Proofs.Ytpenbaafhbbmhaa
open Go.RowKit
set_option linter.unusedVariables false

abbrev Itm := Bool × Nat × List UInt8
def Itms (w : World) (a : Option Addr) (n c : Nat) (l : List Itm) : Prop :=
  l.length = n ∧ n ≤ c ∧ ∀ (i : Nat) (x : Itm), l[i]? = some x → ∃ b o ax nx cx, a = some ⟨b, o, none⟩ ∧ w.cell? ⟨b, o + i * 3, none⟩ = some (.bool x.1) ∧ w.cell? ⟨b, o + i * 3 + 1, none⟩ = some (.int .u64 (x.2.1 : Nat)) ∧ w.cell? ⟨b, o + i * 3 + 2, none⟩ = some (.slice ax nx cx) ∧ Sl Bf w ax nx cx x.2.2
theorem Itms.keep {w w' : World} {a : Option Addr} {n c : Nat} {l : List Itm} (h : Itms w a n c l) (hb : Below w.heap.size w w') : Itms w' a n c l :=
  ⟨h.1, h.2.1, fun i x hx => by
    obtain ⟨b, o, ax, nx, cx, ha, h1, h2, h3, h4⟩ := h.2.2 i x hx
    exact ⟨b, o, ax, nx, cx, ha, (World.cell?_of_block (a := ⟨b, _, none⟩) (hb.block b (cell_lt h1))).trans h1, (World.cell?_of_block (a := ⟨b, _, none⟩) (hb.block b (cell_lt h2))).trans h2, (World.cell?_of_block (a := ⟨b, _, none⟩) (hb.block b (cell_lt h3))).trans h3, h4.keep hb⟩⟩
def ItmsW (l : List Itm) : Prop := ∀ x, x ∈ l → x.2.1 < 18446744073709551616
/-- what an item is laid as -/
def ib (x : Itm) : List UInt8 := if x.1 then x.2.2 else vb x.2.1
def ij (l : List Itm) : List UInt8 := (l.map ib).flatten
def itmSum (l : List Itm) : Nat := (l.map fun x => x.2.2.length).sum
theorem ij_cons (x : Itm) (r : List Itm) : ij (x :: r) = ib x ++ ij r := by simp [ij]
theorem ij_take {l : List Itm} {k : Nat} {x : Itm} (h : l[k]? = some x) : ij (l.take (k + 1)) = ij (l.take k) ++ ib x := by
  obtain ⟨hk, e⟩ := List.getElem?_eq_some_iff.1 h
  unfold ij
  rw [List.take_succ_eq_append_getElem hk, List.map_append, List.flatten_append, e]
  simp
theorem ij_drop {l : List Itm} {k : Nat} {x : Itm} (h : l[k]? = some x) : ij (l.drop k) = ib x ++ ij (l.drop (k + 1)) := by
  obtain ⟨hk, e⟩ := List.getElem?_eq_some_iff.1 h
  rw [List.drop_eq_getElem_cons hk, ij_cons, e]
theorem ib_len {x : Itm} (h : x.2.1 < 18446744073709551616) : (ib x).length ≤ x.2.2.length + 10 := by
  unfold ib
  split
  · omega
  · have := vb_ten h; omega
theorem ij_len : ∀ {l : List Itm}, ItmsW l → (ij l).length ≤ itmSum l + 10 * l.length
  | [], _ => by simp [ij, itmSum]
  | x :: r, h => by
    have h1 := ib_len (h x (by simp))
    have h2 := ij_len (l := r) fun y hy => h y (by simp [hy])
    rw [ij_cons, List.length_append]
    unfold itmSum at h2 ⊢
    simp only [List.map_cons, List.sum_cons, List.length_cons]
    omega
theorem ij_part (l : List Itm) (k : Nat) : (ij (l.take k)).length ≤ (ij l).length := by
  have := congrArg (fun l => (ij l).length) (List.take_append_drop k l)
  simp only [ij, List.map_append, List.flatten_append, List.length_append] at this ⊢
  omega
end Go.Proofs.Ytpenbaafhbbmhaa
/- There and back through an Out and an In: plain laws: what is flushed is all that was laid, what is read is what was laid, unless an error is told that must be. No condition. -/
namespace Go.Proofs.Ytpenbaafhbbmhaa
set_option linter.unusedVariables false

/-- may one tell an error? -/
def Tells (l : List Int) (fail : Int) : Prop := 1 ≤ fail ∨ 16 ≤ l.length
/-- how long one has waited -/
def Wt (l : List Int) (calls i : Nat) : Prop := i ≤ calls ∧ (0 < i → calls ≤ l.length)
theorem mostN_zero {l : List Int} {k n : Nat} (hn : 1 ≤ n) (h : mostN l (k + 1) n = 0) : k + 1 ≤ l.length := by
  by_cases hk : k + 1 ≤ l.length
  · exact hk
  · rw [mostN_none (by omega)] at h; omega
theorem src_wait {s : Src} {m : Nat} (hm : 1 ≤ m) (he : srcM.er s m = 0) (h : ¬ 0 < srcM.num s m) : s.calls + 1 ≤ s.most.length := by
  have he : ((s.err m : Nat) : Int) = 0 := he
  have he : s.err m = 0 := by omega
  have hne := Src.err_nil he
  have hg : s.gives m = [] := by
    have h : ¬ (0 : Int) < ((s.gives m).length : Nat) := h
    exact List.length_eq_zero_iff.1 (by omega)
  unfold Src.err at he
  split at he
  · cases he
  · rename_i hb
    unfold Src.gives at hg
    rw [if_neg hb] at hg
    refine mostN_zero (n := m) hm ?_
    have := congrArg List.length hg
    rw [List.length_take] at this
    have h0 : 0 < s.left.length := List.length_pos_iff.2 hne
    simp only [List.length_nil] at this
    omega
theorem src_all {s : Src} {m : Nat} (he : srcM.er s m = 31) : (srcM.nxt s m).left = [] := by
  have he : ((s.err m : Nat) : Int) = 31 := he
  have he : s.err m = 31 := by omega
  show s.rest m = []
  unfold Src.err at he
  split at he
  · cases he
  · rename_i hb
    unfold Src.rest
    rw [if_neg hb]
    split at he
    · rename_i h; rw [h]; exact List.drop_nil
    · split at he
      · rename_i h; exact h.2
      · cases he
theorem src_broken {s : Src} {m : Nat} (h0 : srcM.er s m ≠ 0) (h31 : srcM.er s m ≠ 31) : 1 ≤ s.fail := by
  by_cases hb : s.broken = true
  · unfold Src.broken at hb
    have := of_decide_eq_true hb
    omega
  · have h0 : ((s.err m : Nat) : Int) ≠ 0 := h0
    have h31 : ((s.err m : Nat) : Int) ≠ 31 := h31
    exfalso
    unfold Src.err at h0 h31
    rw [if_neg hb] at h0 h31
    split at h0
    · rename_i h; rw [if_pos h] at h31; omega
    · rename_i h
      rw [if_neg h] at h31
      split at h0
      · rename_i h; rw [if_pos h] at h31; omega
      · omega
theorem tk_good : ∀ (F : Nat) (s : Src) (i : Nat) (b : List UInt8) (n : Nat), i ≤ 15 → Wt s.most s.calls i → b.length ≤ n → n ≤ b.length + s.left.length → (n ≤ b.length ∨ s.left.length * 17 + 16 - i < F) →
    ((tk srcM F s i b n).2.1 ≠ 0 → Tells s.most s.fail) ∧ ((tk srcM F s i b n).2.1 = 0 → (tk srcM F s i b n).1 = (b ++ s.left).take n ∧ (tk srcM F s i b n).2.2.1.left = (b ++ s.left).drop n ∧
      Wt (tk srcM F s i b n).2.2.1.most (tk srcM F s i b n).2.2.1.calls (tk srcM F s i b n).2.2.2 ∧ (tk srcM F s i b n).2.2.2 ≤ 15 ∧ (tk srcM F s i b n).2.2.1.most = s.most ∧ (tk srcM F s i b n).2.2.1.fail = s.fail)
  | F, s, i, b, n, hi, hw, hb, hn, hf => by
    by_cases hnb : n ≤ b.length
    · rw [tk_has hnb]
      obtain rfl : b.length = n := by omega
      exact ⟨fun h => absurd rfl h, fun _ => ⟨by rw [List.take_left], by rw [List.drop_left], hw, hi, rfl, rfl⟩⟩
    obtain ⟨F, rfl⟩ : ∃ F', F = F' + 1 := ⟨F - 1, by omega⟩
    obtain ⟨m, hm⟩ : ∃ m, askN n b.length = m := ⟨_, rfl⟩
    have hm1 : 1 ≤ m ∧ m ≤ n - b.length := by rw [← hm]; unfold askN; omega
    have hg := s.gives_le m
    have hnum : srcM.num s m = ((s.gives m).length : Nat) := rfl
    have hbad : ¬ (srcM.num s m < 0 ∨ (m : Int) < srcM.num s m) := by rw [hnum]; omega
    have hB : tkB srcM s b n = b ++ s.gives m := by
      unfold tkB
      rw [hm, hnum, Int.toNat_natCast]
      show b ++ (s.gives m).take (s.gives m).length = _
      rw [List.take_length]
    have hl := tkB_len (n := n) hm hbad
    rw [hnum, Int.toNat_natCast] at hl
    have hJ : tkB srcM s b n ++ (srcM.nxt s m).left = b ++ s.left := by
      rw [hB, List.append_assoc]
      show b ++ (s.gives m ++ s.rest m) = _
      rw [s.parts]
    have hJl := congrArg List.length hJ
    simp only [List.length_append] at hJl
    by_cases hfull : (tkB srcM s b n).length = n
    · have hk : 0 < srcM.num s m := by rw [hnum]; omega
      rw [tk_full hnb hm hbad hfull, tkI_mv hk]
      refine ⟨fun h => absurd rfl h, fun _ => ⟨?_, ?_, ⟨Nat.zero_le _, fun h => absurd h (Nat.lt_irrefl _)⟩, Nat.zero_le _, rfl, rfl⟩⟩
      · rw [← hJ]; exact (List.take_left' hfull).symm
      · rw [← hJ]; exact (List.drop_left' hfull).symm
    by_cases h31 : srcM.er s m = 31
    · have := congrArg List.length (src_all h31)
      simp only [List.length_nil] at this
      omega
    by_cases h0 : srcM.er s m = 0
    · by_cases hk : 0 < srcM.num s m
      · have hz := tkI_mv (R := srcM) (s := s) (i := i) (m := m) hk
        rw [tk_go hnb hm hbad hfull h0 (by omega), hz]
        have hk' : 0 < (s.gives m).length := by rw [hnum] at hk; omega
        obtain ⟨q1, q2⟩ := tk_good F (srcM.nxt s m) 0 (tkB srcM s b n) n (by omega) ⟨Nat.zero_le _, fun h => absurd h (Nat.lt_irrefl _)⟩ (by omega) (by omega) (.inr (by omega))
        refine ⟨q1, fun h => ?_⟩
        rw [hJ] at q2
        exact q2 h
      · have hz := tkI_no (R := srcM) (s := s) (i := i) (m := m) hk h0
        have hwt := src_wait hm1.1 h0 hk
        have hw1 := hw.1
        by_cases h16 : tkI srcM s i m = 16
        · rw [tk_idle hnb hm hbad hfull h0 h16]
          exact ⟨fun _ => .inr (by omega), fun h => absurd h (by show ¬ (33 : Int) = 0; decide)⟩
        · rw [tk_go hnb hm hbad hfull h0 h16, hz]
          have hk' : (s.gives m).length = 0 := by rw [hnum] at hk; omega
          obtain ⟨q1, q2⟩ := tk_good F (srcM.nxt s m) (i + 1) (tkB srcM s b n) n (by omega) ⟨by show i + 1 ≤ s.calls + 1; omega, fun _ => hwt⟩ (by omega) (by omega) (.inr (by omega))
          refine ⟨q1, fun h => ?_⟩
          rw [hJ] at q2
          exact q2 h
    · rw [tk_err hnb hm hbad hfull h31 h0]
      exact ⟨fun _ => .inl (src_broken h0 h31), fun h => absurd h h0⟩
/-- an In that has read all but rest -/
structure RI (gs : List Int) (fail : Int) (all : Nat) (rest : List UInt8) (c : CIn Src) : Prop where
  er : c.er = 0
  held : c.held = []
  left : c.s.left = rest
  pl : c.pl + rest.length = all
  most : c.s.most = gs
  fail : c.s.fail = fail
  idle : c.idle ≤ 15
  wt : Wt c.s.most c.s.calls c.idle
section
variable {gs : List Int} {fail : Int} {all : Nat} {rest : List UInt8} {c : CIn Src}
theorem RI.bytes {xs : List UInt8} (h : RI gs fail all (xs ++ rest) c) : ((bytesM srcM all xs.length c).2.1 ≠ 0 → Tells gs fail) ∧ ((bytesM srcM all xs.length c).2.1 = 0 → (bytesM srcM all xs.length c).1 = xs ∧ RI gs fail all rest (bytesM srcM all xs.length c).2.2) := by
  have hpl := h.pl
  rw [List.length_append] at hpl
  unfold bytesM
  rw [if_neg (by rw [h.er]; simp), if_neg (by omega), if_neg (by omega)]
  by_cases hx : xs = []
  · subst hx
    rw [if_pos (show ((([] : List UInt8).length : Nat) : Int) = 0 from rfl)]
    exact ⟨fun e => absurd rfl e, fun _ => ⟨rfl, h⟩⟩
  · have hx1 : 1 ≤ xs.length := List.length_pos_iff.2 hx
    rw [if_neg (by omega), Int.toNat_natCast, h.held]
    have hll : c.s.left.length = xs.length + rest.length := by rw [h.left, List.length_append]
    obtain ⟨q1, q2⟩ := tk_good (srcM.mu c.s * 17 + 17) c.s c.idle [] xs.length h.idle h.wt (Nat.zero_le _) (by rw [hll]; show xs.length ≤ 0 + _; omega) (.inr (by show c.s.left.length * 17 + 16 - c.idle < c.s.left.length * 17 + 17; omega))
    rw [h.most, h.fail] at q1
    rw [h.most, h.fail, List.nil_append, h.left, List.take_left, List.drop_left] at q2
    by_cases h0 : (tk srcM (srcM.mu c.s * 17 + 17) c.s c.idle [] xs.length).2.1 = 0
    · rw [if_pos h0]
      obtain ⟨r1, r2, r3, r4, r5, r6⟩ := q2 h0
      exact ⟨fun e => absurd rfl e, fun _ => ⟨r1, ⟨rfl, rfl, r2, by show c.pl + xs.length + rest.length = all; omega, r5, r6, r4, r3⟩⟩⟩
    · rw [if_neg h0]
      exact ⟨fun _ => q1 h0, fun e => absurd e h0⟩
theorem RI.byte {x : UInt8} (h : RI gs fail all (x :: rest) c) : ((byteM srcM all c).2.1 ≠ 0 → Tells gs fail) ∧ ((byteM srcM all c).2.1 = 0 → (byteM srcM all c).1 = x ∧ RI gs fail all rest (byteM srcM all c).2.2) := by
  obtain ⟨q1, q2⟩ := RI.bytes (xs := [x]) (rest := rest) h
  unfold byteM
  refine ⟨q1, fun e => ?_⟩
  obtain ⟨r1, r2⟩ := q2 e
  refine ⟨?_, r2⟩
  have r1 : (bytesM srcM all 1 c).1 = [x] := r1
  rw [r1]; rfl
theorem RI.numG {N at0 : Nat} : ∀ (m : Nat) (F : Nat) (c : CIn Src) (n : Nat) (bs : List UInt8), bs.length ≤ 9 → m * 128 ^ bs.length < 18446744073709551616 → (bs.length = 0 ∨ 0 < m) → n + m * 128 ^ bs.length = N → (vb m).length ≤ F → RI gs fail all (vb m ++ rest) c →
    ((numG srcM all at0 F c n 0 bs).2.1 ≠ 0 → Tells gs fail) ∧ ((numG srcM all at0 F c n 0 bs).2.1 = 0 → (numG srcM all at0 F c n 0 bs).1 = N ∧ RI gs fail all rest (numG srcM all at0 F c n 0 bs).2.2) := by
  intro m
  induction m using Nat.strongRecOn with
  | _ m ih =>
    intro F c n bs hk hM hz hN hF h
    obtain ⟨F, rfl⟩ : ∃ F', F = F' + 1 := ⟨F - 1, by have := vb_pos m; omega⟩
    obtain ⟨⟨x, e, c'⟩, hX⟩ : ∃ X, byteM srcM all c = X := ⟨_, rfl⟩
    have e9 : (128 : Nat) ^ 9 = 9223372036854775808 := by decide
    by_cases hm : m < 128
    · rw [vb_lt hm] at h
      have hc : (lo8 m).toNat = m := u8_of (by omega)
      obtain ⟨q1, q2⟩ := RI.byte (x := lo8 m) (rest := rest) h
      rw [hX] at q1 q2
      by_cases he : e = 0
      · obtain ⟨rfl, hr⟩ := q2 he
        have t1 : ¬ (bs.length = 9 ∧ 1 < (lo8 m).toNat) := by rw [hc]; intro ⟨e, e2⟩; rw [e] at hM; omega
        have t2 : ¬ (0 < bs.length ∧ (lo8 m).toNat = 0) := by rw [hc]; omega
        have hq : tq 0 n bs (lo8 m) = (true, 0, N, 1, bs ++ [lo8 m]) := by
          unfold tq
          rw [if_neg (by omega), if_neg t1, if_neg t2, hc, if_pos hm, decide_eq_true hm, Nat.mod_eq_of_lt hm, hN]
        rw [numG_step hX hq]
        rw [if_neg (by simpa using he)]
        exact ⟨fun e => absurd rfl e, fun _ => ⟨rfl, hr⟩⟩
      · have hq : ∃ d er n2 s2 b2, tq 0 n bs x = (d, er, n2, s2, b2) := ⟨_, _, _, _, _, rfl⟩
        obtain ⟨d, er, n2, s2, b2, hq⟩ := hq
        rw [numG_step hX hq, if_pos he]
        exact ⟨fun _ => q1 he, fun e => absurd e he⟩
    · rw [vb_ge hm] at h hF
      have hc : (hi8 m).toNat = m % 128 + 128 := u8_of (by omega)
      have hk9 : bs.length ≠ 9 := by intro e; rw [e] at hM; omega
      obtain ⟨q1, q2⟩ := RI.byte (x := hi8 m) (rest := vb (m / 128) ++ rest) h
      rw [hX] at q1 q2
      by_cases he : e = 0
      · obtain ⟨rfl, hr⟩ := q2 he
        have t1 : ¬ (bs.length = 9 ∧ 1 < (hi8 m).toNat) := by omega
        have t2 : ¬ (0 < bs.length ∧ (hi8 m).toNat = 0) := by rw [hc]; omega
        have t3 : ¬ (m % 128 + 128 < 128) := by omega
        have e1 : (m % 128 + 128) % 128 = m % 128 := by omega
        have e2 : m % 128 * 128 ^ bs.length + m / 128 * 128 ^ (bs.length + 1) = m * 128 ^ bs.length := by
          rw [Nat.pow_succ, Nat.mul_comm (128 ^ bs.length), ← Nat.mul_assoc, ← Nat.add_mul]
          congr 1; omega
        have hq : tq 0 n bs (hi8 m) = (false, 0, n + m % 128 * 128 ^ bs.length, 0, bs ++ [hi8 m]) := by
          unfold tq
          rw [if_neg (by omega), if_neg t1, if_neg t2, hc, if_neg t3, decide_eq_false t3, e1]
        have hbl : (bs ++ [hi8 m]).length = bs.length + 1 := by simp
        rw [numG_step hX hq, if_neg (by simpa using he)]
        have IH := ih (m / 128) (by omega) F c' (n + m % 128 * 128 ^ bs.length) (bs ++ [hi8 m]) (by rw [hbl]; omega) (by rw [hbl]; omega) (.inr (by omega)) (by rw [hbl]; omega) (by simp only [List.length_cons] at hF; omega) hr
        exact IH
      · have hq : ∃ d er n2 s2 b2, tq 0 n bs x = (d, er, n2, s2, b2) := ⟨_, _, _, _, _, rfl⟩
        obtain ⟨d, er, n2, s2, b2, hq⟩ := hq
        rw [numG_step hX hq, if_pos he]
        exact ⟨fun _ => q1 he, fun e => absurd e he⟩
theorem RI.num {N : Nat} (hN : N < 18446744073709551616) (h : RI gs fail all (vb N ++ rest) c) : ((numM srcM all c).2.1 ≠ 0 → Tells gs fail) ∧ ((numM srcM all c).2.1 = 0 → (numM srcM all c).1 = N ∧ RI gs fail all rest (numM srcM all c).2.2) :=
  RI.numG N 11 c 0 [] (Nat.zero_le _) (by simpa using hN) (.inl rfl) (by simp) (by have := vb_ten hN; omega) h
theorem RI.end' (h : RI gs fail all [] c) : ((endM srcM c).2.1 ≠ 0 → Tells gs fail) ∧ ((endM srcM c).2.1 = 0 → (endM srcM c).1 = true ∧ (endM srcM c).2.2.pl = all) := by
  have hpl := h.pl
  have hg : c.s.gives 1 = [] := by unfold Src.gives; split; rfl; rw [h.left]; exact List.take_nil
  have hnum : srcM.num c.s 1 = 0 := by show ((c.s.gives 1).length : Int) = 0; rw [hg]; rfl
  have hbad : ¬ (srcM.num c.s 1 < 0 ∨ ((1 : Nat) : Int) < srcM.num c.s 1) := by rw [hnum]; omega
  have hnb : ¬ 1 ≤ ([] : List UInt8).length := by simp
  have hm : askN 1 ([] : List UInt8).length = 1 := by decide
  have hB : (tkB srcM c.s [] 1).length ≠ 1 := by
    have := tkB_len (b := []) (n := 1) hm hbad
    rw [hnum] at this; rw [this]; decide
  unfold endM
  rw [if_neg (by rw [h.er]; simp), if_neg (by rw [h.held]; simp)]
  by_cases h31 : srcM.er c.s 1 = 31
  · rw [show srcM.mu c.s * 17 + 17 = srcM.mu c.s * 17 + 16 + 1 from rfl, tk_end hnb hm hbad hB h31]
    rw [if_neg (by show ¬ (41 : Int) = 0; decide), if_pos rfl]
    exact ⟨fun e => absurd rfl e, fun _ => ⟨rfl, by show c.pl = all; simpa using hpl⟩⟩
  · have h0 : srcM.er c.s 1 ≠ 0 := by
      intro e
      have e : ((c.s.err 1 : Nat) : Int) = 0 := e
      exact Src.err_nil (s := c.s) (n := 1) (by omega) h.left
    have T : Tells gs fail := .inl (by rw [← h.fail]; exact src_broken h0 h31)
    rw [show srcM.mu c.s * 17 + 17 = srcM.mu c.s * 17 + 16 + 1 from rfl, tk_err hnb hm hbad hB h31 h0]
    dsimp only
    have h32 : srcM.er c.s 1 = 32 := by have := src_er c.s 1; omega
    rw [h32, if_neg (by decide), if_neg (by decide)]
    exact ⟨fun _ => T, fun e => absurd e (by show ¬ (32 : Int) = 0; decide)⟩
end
/-- an Out that has handed on so much of J -/
structure WI (gs : List Int) (fl : Int) (J : List UInt8) (c : COut Snk) : Prop where
  all : c.t.took ++ c.q = J
  pl : c.t.took.length = c.pl
  most : c.t.most = gs
  fail : c.t.fail = fl
  idle : c.er = 0 → c.idle ≤ 15 ∧ Wt c.t.most c.t.calls c.idle
  tell : c.er ≠ 0 → Tells gs fl
section
variable {gs : List Int} {fail : Int} {J : List UInt8} {c : COut Snk}
theorem WI.push (h : WI gs fail J c) : WI gs fail J (pushM snkM c).2.2 := by
  by_cases he : c.er ≠ 0
  · rw [push_er he]; exact h
  have he : c.er = 0 := by simpa using he
  by_cases hq : c.q = []
  · rw [push_nil he hq]; exact h
  obtain ⟨p, hp⟩ : ∃ p, c.q.take 4096 = p := ⟨_, rfl⟩
  have hk : snkM.num c.t p = ((c.t.takes p.length : Nat) : Int) := rfl
  obtain ⟨k, hk2⟩ : ∃ k, c.t.takes p.length = k := ⟨_, rfl⟩
  have hkp : k ≤ p.length := by rw [← hk2]; exact c.t.takes_le _
  have hp4 : p.length ≤ 4096 := by rw [← hp, List.length_take]; omega
  have hpq : p.length ≤ c.q.length := by rw [← hp, List.length_take]; omega
  have hp1 : 1 ≤ p.length := by have := List.length_pos_iff.2 hq; rw [← hp, List.length_take]; omega
  have hpk : p.take k = c.q.take k := by rw [← hp, List.take_take, Nat.min_eq_left (by omega)]
  rw [hk2] at hk
  have hto : (snkM.nxt c.t p).took = c.t.took ++ c.q.take k := by
    show c.t.took ++ p.take (c.t.takes p.length) = _
    rw [hk2, hpk]
  have hA : (snkM.nxt c.t p).took ++ c.q.drop k = J := by rw [hto, List.append_assoc, List.take_append_drop]; exact h.all
  have hP : (snkM.nxt c.t p).took.length = c.pl + k := by rw [hto, List.length_append, h.pl, List.length_take]; omega
  obtain ⟨hi, hw1, hw2⟩ := h.idle he
  have hM : (snkM.nxt c.t p).most = gs := h.most
  have hF : (snkM.nxt c.t p).fail = fail := h.fail
  by_cases h0 : snkM.er c.t p = 0
  · have hb : ¬ c.t.broken = true := by
      intro hb
      have h0 : ((c.t.err : Nat) : Int) = 0 := h0
      unfold Snk.err at h0
      rw [if_pos hb] at h0
      exact absurd h0 (by decide)
    have hz : k = 0 → c.t.calls + 1 ≤ c.t.most.length := fun e => by
      unfold Snk.takes at hk2
      rw [if_neg hb] at hk2
      exact mostN_zero (n := p.length) hp1 (hk2.trans e)
    by_cases h16 : waitN c.idle (decide (0 < k)) = 16
    · rw [push_idle he hq hp hk hkp h0 h16]
      have hk0 : ¬ 0 < k := fun e => by rw [decide_eq_true e, waitN_move] at h16; omega
      rw [decide_eq_false hk0, waitN_idle] at h16
      exact ⟨hA, hP, hM, hF, fun e => absurd e (by show ¬ (33 : Int) = 0; decide), fun _ => .inr (by have := hz (by omega); rw [← h.most]; omega)⟩
    · rw [push_go he hq hp hk hkp h0 h16]
      refine ⟨hA, hP, hM, hF, fun _ => ?_, fun e => absurd rfl e⟩
      by_cases hk0 : 0 < k
      · dsimp only
        rw [decide_eq_true hk0, waitN_move]
        exact ⟨Nat.zero_le _, Nat.zero_le _, fun e => absurd e (Nat.lt_irrefl _)⟩
      · dsimp only
        rw [decide_eq_false hk0, waitN_idle] at h16 ⊢
        exact ⟨by omega, by show c.idle + 1 ≤ c.t.calls + 1; omega, fun _ => hz (by omega)⟩
  · rw [push_err he hq hp hk hkp rfl h0]
    refine ⟨hA, hP, hM, hF, fun e => absurd e h0, fun _ => .inl ?_⟩
    have h0 : ((c.t.err : Nat) : Int) ≠ 0 := h0
    unfold Snk.err at h0
    split at h0
    · rename_i hb
      unfold Snk.broken at hb
      have := of_decide_eq_true hb
      rw [← h.fail]; omega
    · exact absurd rfl h0
theorem WI.flushG : ∀ (F : Nat) (c : COut Snk), WI gs fail J c → (c.er = 0 → c.q.length * 17 + 16 - c.idle < F) → WI gs fail J (flushG snkM F c) ∧ ((flushG snkM F c).er = 0 → (flushG snkM F c).q = [])
  | 0, c, h, hf => ⟨h, fun e => absurd (hf e) (by omega)⟩
  | F + 1, c, h, hf => by
    by_cases he : c.er = 0
    · by_cases hq : c.q = []
      · rw [flush_end (.inl hq)]; exact ⟨h, fun _ => hq⟩
      · rw [flush_go hq he]
        refine WI.flushG F _ h.push fun e => ?_
        have := (push_less he hq (h.idle he).1 e).1
        have := hf he
        omega
    · rw [flush_end (.inr he)]; exact ⟨h, fun e => absurd e he⟩
theorem WI.flush (h : WI gs fail J c) : WI gs fail J (flushM snkM c) ∧ ((flushM snkM c).er = 0 → (flushM snkM c).q = []) := WI.flushG _ c h fun _ => by omega
end
end Go.Proofs.Ytpenbaafhbbmhaa

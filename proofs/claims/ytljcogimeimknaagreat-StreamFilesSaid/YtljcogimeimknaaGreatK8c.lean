/- Several texts in one: VintM, VintPutM, VintPut, VintJoin, VintRPut, VintBytes, PairBytes, BlockM, BlockSt, BlockAdd, BlockBytes, EntRow, BlockPrev, RSorted, BlockRBuild. Each has its own sentence and conditions below. -/
import Derived.Test.YtljcogimeimknaaGreatK8a
import Derived.Test.YtljcogimeimknaaGreatK8b
import Derived.StillTailTactics
import Derived.Deep.RegionLaw
import Derived.Deep.RegionHeld3
/- Numbers in sevens of bits: plain words, no program. No condition. -/
namespace Go.Proofs.YtljcogimeimknaaGreat
set_option linter.unusedVariables false

/-- what is read of bytes, k bytes having been read, that are v: the number, how many bytes, the error -/
def rd : List UInt8 → Nat → Nat → Nat × Nat × Int
  | [], k, _ => (0, k, 11)
  | c :: r, k, v => if k = 9 ∧ 1 < c.toNat then (0, k, 12) else if 0 < k ∧ c.toNat = 0 then (0, k, 13)
      else if c.toNat < 128 then (v + c.toNat % 128 * 128 ^ k, k + 1, 0) else rd r (k + 1) (v + c.toNat % 128 * 128 ^ k)

theorem rd_nil (k v : Nat) : rd [] k v = (0, k, 11) := rfl
theorem rd_long {c : UInt8} {r : List UInt8} {k v : Nat} (h : k = 9 ∧ 1 < c.toNat) : rd (c :: r) k v = (0, k, 12) := by unfold rd; rw [if_pos h]
theorem rd_form {c : UInt8} {r : List UInt8} {k v : Nat} (h : 0 < k ∧ c.toNat = 0) : rd (c :: r) k v = (0, k, 13) := by unfold rd; rw [if_neg (by omega), if_pos h]
theorem rd_last {c : UInt8} {r : List UInt8} {k v : Nat} (h1 : ¬ (k = 9 ∧ 1 < c.toNat)) (h2 : ¬ (0 < k ∧ c.toNat = 0)) (h3 : c.toNat < 128) : rd (c :: r) k v = (v + c.toNat % 128 * 128 ^ k, k + 1, 0) := by
  unfold rd; rw [if_neg h1, if_neg h2, if_pos h3]
theorem rd_go {c : UInt8} {r : List UInt8} {k v : Nat} (h1 : ¬ (k = 9 ∧ 1 < c.toNat)) (h2 : ¬ (0 < k ∧ c.toNat = 0)) (h3 : ¬ c.toNat < 128) : rd (c :: r) k v = rd r (k + 1) (v + c.toNat % 128 * 128 ^ k) := by
  conv => lhs; unfold rd
  rw [if_neg h1, if_neg h2, if_neg h3]
theorem pow128 (k : Nat) : 128 ^ k = 2 ^ (7 * k) := by rw [Nat.pow_mul]
/-- the number stays within its places -/
theorem go_small {c : UInt8} {k v : Nat} (hv : v < 128 ^ k) : v + c.toNat % 128 * 128 ^ k < 128 ^ (k + 1) := by
  have : c.toNat % 128 < 128 := Nat.mod_lt _ (by decide)
  rw [Nat.pow_succ]
  have h2 : c.toNat % 128 * 128 ^ k ≤ 127 * 128 ^ k := Nat.mul_le_mul_right _ (by omega)
  generalize 128 ^ k = z at *
  omega
theorem or_add {v d i : Nat} (h : v < 2 ^ i) : v ||| d * 2 ^ i = v + d * 2 ^ i := by
  have := Nat.two_pow_add_eq_or_of_lt h d
  rw [Nat.or_comm, Nat.mul_comm d, ← this]; omega

/-- of the bytes' sevens, the first the least -/
def sev : List UInt8 → Nat
  | [] => 0
  | c :: r => c.toNat % 128 + 128 * sev r
theorem rd_sev : ∀ (l : List UInt8) (k v : Nat), (rd l k v).2.2 = 0 → ∃ j, (rd l k v).2.1 = k + j ∧ j ≤ l.length ∧ (rd l k v).1 = v + 128 ^ k * sev (l.take j)
  | [], k, v, h => by simp [rd] at h
  | c :: r, k, v, h => by
    by_cases h1 : k = 9 ∧ 1 < c.toNat
    · rw [rd_long h1] at h; cases h
    by_cases h2 : 0 < k ∧ c.toNat = 0
    · rw [rd_form h2] at h; cases h
    by_cases h3 : c.toNat < 128
    · rw [rd_last h1 h2 h3]
      refine ⟨1, rfl, by simp, ?_⟩
      show _ = v + 128 ^ k * (c.toNat % 128 + 128 * sev (r.take 0))
      rw [List.take_zero]
      show _ = v + 128 ^ k * (c.toNat % 128 + 128 * 0)
      rw [Nat.mul_zero, Nat.add_zero, Nat.mul_comm (128 ^ k)]
      rfl
    · rw [rd_go h1 h2 h3] at h ⊢
      obtain ⟨j, e1, e2, e3⟩ := rd_sev r (k + 1) _ h
      refine ⟨j + 1, by rw [e1]; omega, by simp; omega, ?_⟩
      rw [e3]
      show _ = v + 128 ^ k * (c.toNat % 128 + 128 * sev (r.take j))
      rw [Nat.pow_succ, Nat.mul_add, Nat.mul_comm (c.toNat % 128), Nat.mul_assoc, Nat.add_assoc]
theorem sev_drop : ∀ (l : List UInt8) (j : Nat), sev (l.drop j) ≤ sev l
  | [], j => by simp
  | c :: r, 0 => by simp
  | c :: r, j + 1 => by
    have := sev_drop r j
    show sev (r.drop j) ≤ c.toNat % 128 + 128 * sev r
    omega
theorem rd_small : ∀ (l : List UInt8) (k v : Nat), k ≤ 9 → v < 128 ^ k → (rd l k v).1 < 18446744073709551616
  | [], k, v, _, _ => by show 0 < _; decide
  | c :: r, k, v, hk, hv => by
    by_cases h1 : k = 9 ∧ 1 < c.toNat
    · rw [rd_long h1]; show 0 < _; decide
    by_cases h2 : 0 < k ∧ c.toNat = 0
    · rw [rd_form h2]; show 0 < _; decide
    by_cases h3 : c.toNat < 128
    · rw [rd_last h1 h2 h3]
      show v + c.toNat % 128 * 128 ^ k < _
      by_cases h9 : k = 9
      · subst h9
        have e9 : (128 : Nat) ^ 9 = 9223372036854775808 := by decide
        rw [e9] at hv ⊢
        have : c.toNat % 128 ≤ 1 := by omega
        have h4 : c.toNat % 128 * 9223372036854775808 ≤ 1 * 9223372036854775808 := Nat.mul_le_mul_right _ this
        omega
      · have h5 := go_small (c := c) hv
        have h6 : 128 ^ (k + 1) ≤ 128 ^ 9 := Nat.pow_le_pow_right (by decide) (by omega)
        have e9 : (128 : Nat) ^ 9 = 9223372036854775808 := by decide
        omega
    · rw [rd_go h1 h2 h3]
      exact rd_small r (k + 1) _ (by omega) (go_small hv)
theorem rd_in {l : List UInt8} {v k : Nat} (h : rd l 0 0 = (v, k, 0)) : k ≤ l.length ∧ v < 18446744073709551616 := by
  have h0 : (rd l 0 0).2.2 = 0 := by rw [h]
  obtain ⟨j, e1, e2, _⟩ := rd_sev l 0 0 h0
  have h2 := rd_small l 0 0 (by omega) (by decide)
  rw [h] at e1 h2
  exact ⟨by simp at e1; omega, h2⟩
end Go.Proofs.YtljcogimeimknaaGreat
/- The bytes of a number: plain words, no program. No condition. -/
namespace Go.Proofs.YtljcogimeimknaaGreat
set_option linter.unusedVariables false

/-- a byte behind which the number goes on -/
def hi8 (n : Nat) : UInt8 := UInt8.ofNat (n % 128 + 128)
def lo8 (n : Nat) : UInt8 := UInt8.ofNat n
def vb (n : Nat) : List UInt8 := if h : n < 128 then [lo8 n] else hi8 n :: vb (n / 128)
termination_by n
decreasing_by omega
theorem vb_lt {n : Nat} (h : n < 128) : vb n = [lo8 n] := by rw [vb, dif_pos h]
theorem vb_ge {n : Nat} (h : ¬ n < 128) : vb n = hi8 n :: vb (n / 128) := by rw [vb, dif_neg h]
theorem vb_pos (n : Nat) : 0 < (vb n).length := by
  by_cases h : n < 128
  · rw [vb_lt h]; simp
  · rw [vb_ge h]; simp
theorem u8_of {n : Nat} (h : n < 256) : (UInt8.ofNat n).toNat = n := by rw [UInt8.toNat_ofNat']; omega
theorem rd_vb : ∀ (m : Nat), ∀ (k v : Nat) (rest : List UInt8), k ≤ 9 → m * 128 ^ k < 18446744073709551616 → (k = 0 ∨ 0 < m) → rd (vb m ++ rest) k v = (v + m * 128 ^ k, k + (vb m).length, 0) := by
  intro m
  have e9 : (128 : Nat) ^ 9 = 9223372036854775808 := by decide
  induction m using Nat.strongRecOn with
  | _ m ih =>
    intro k v rest hk hm hz
    by_cases h : m < 128
    · rw [vb_lt h]
      have hu := u8_of (n := m) (by omega)
      show rd (UInt8.ofNat m :: rest) k v = _
      rw [rd_last (by rw [hu]; intro ⟨e, e2⟩; subst e; omega) (by rw [hu]; omega) (by rw [hu]; exact h), hu, Nat.mod_eq_of_lt h]; rfl
    · rw [vb_ge h]
      have hu := u8_of (n := m % 128 + 128) (by omega)
      have hk9 : k ≠ 9 := by intro e; subst e; omega
      show rd (UInt8.ofNat (m % 128 + 128) :: (vb (m / 128) ++ rest)) k v = _
      rw [rd_go (by omega) (by rw [hu]; omega) (by rw [hu]; omega), hu]
      have e1 : (m % 128 + 128) % 128 = m % 128 := by omega
      have e2 : m % 128 * 128 ^ k + m / 128 * 128 ^ (k + 1) = m * 128 ^ k := by
        rw [Nat.pow_succ, Nat.mul_comm (128 ^ k), ← Nat.mul_assoc, ← Nat.add_mul]
        congr 1; omega
      have e3 : m / 128 * 128 ^ (k + 1) < 18446744073709551616 := by omega
      rw [ih (m / 128) (by omega) (k + 1) _ rest (by omega) e3 (.inr (by omega)), e1, List.length_cons]
      congr 1
      · omega
      · congr 1; omega
theorem vb_short : ∀ (k n : Nat), n < 128 ^ (k + 1) → (vb n).length ≤ k + 1
  | 0, n, h => by
    have e : (128 : Nat) ^ (0 + 1) = 128 := by decide
    rw [vb_lt (by omega)]; simp
  | k + 1, n, h => by
    by_cases h2 : n < 128
    · rw [vb_lt h2]; simp
    · rw [vb_ge h2, List.length_cons]
      have := vb_short k (n / 128) (by rw [Nat.pow_succ] at h; omega)
      omega
theorem vb_ten {n : Nat} (h : n < 18446744073709551616) : (vb n).length ≤ 10 := vb_short 9 n (by
  have e : (128 : Nat) ^ (9 + 1) = 1180591620717411303424 := by decide
  omega)
theorem or128 (n : Nat) : bits .or .u8 ((n : Int) % 256) 128 = B (hi8 n) := by
  have : ∀ k : Fin 256, bits .or .u8 ((k.val : Nat) : Int) 128 = ((k.val % 128 + 128 : Nat) : Int) := by decide +kernel
  have h := this ⟨n % 256, by omega⟩
  have e : ((n : Int) % 256) = ((n % 256 : Nat) : Int) := by omega
  rw [e, h]
  unfold B hi8
  rw [u8_of (by omega)]
  show ((n % 256 % 128 + 128 : Nat) : Int) = _
  omega
theorem low8 {n : Nat} (h : n < 128) : (n : Int) = B (lo8 n) := by
  unfold B lo8; rw [u8_of (by omega)]
theorem cell8 {n : Nat} (h : n < 128) : (#[Value.int .u8 (n : Int)] : Array Value).toList = [lo8 n].map Bf := by
  show [Value.int .u8 (n : Int)] = [Bf (lo8 n)]
  rw [low8 h]
end Go.Proofs.YtljcogimeimknaaGreat
/- The bytes of a number: contracts of put and Bytes. Conditions: the number fits; the row is the call's own. -/
namespace Go.Proofs.YtljcogimeimknaaGreat
set_option linter.unusedVariables false
open Go.RowKit

set_option maxRecDepth 100000 in
set_option maxHeartbeats 1000000 in
theorem vput_any (v : Value) (ys : List UInt8) (base n : Nat) (w : World) (hb : base ≤ w.heap.size) (hy : ys.length ≤ 200000000000000) (hn : n < 18446744073709551616) (h : OwT fB w base 5 v ys) :
    Calls Tryz.prog 166 #[v, .int .u64 n] w fun e w' => ∃ v', e = .returned v' ∧ OwT fB w' base 5 v' (ys ++ vb n) ∧ Below base w w' := by
  have h10 := vb_ten hn
  have HH := Lib.hid h; clear h
  clear hn
  obtain ⟨all, hall⟩ : ∃ all, ys ++ vb n = all := ⟨_, rfl⟩
  have hl : all.length ≤ 200000000000010 := by rw [← hall, List.length_append]; omega
  rw [hall]
  have HA := Lib.hid hall; clear hall h10 hy
  go_enter Tryz.func166, Tryz.ntmps166
  go_wp2_with fail
  go_loopw [0, 1] (fun s i wr => ∃ (m : Nat) (zs : List UInt8), i = .int .u64 m ∧ OwT fB wr base 5 s zs ∧ zs ++ vb m = all ∧ Below base w wr) (fun _ i _ => (intOf i).toNat)
  case atStart => exact ⟨n, ys, rfl, HH.out, HA.out, Below.refl _ _⟩
  case round =>
    obtain ⟨m, zs, rfl, ho, hz, hbb⟩ := hrel
    have O := Lib.hid ho; clear ho
    have G := Lib.hid hbb; clear hbb
    have lw := G.out.size
    by_cases hm : (128 : Int) ≤ m
    · rw [vb_ge (by omega)] at hz
      have hzl : zs.length + 1 ≤ 200000000000010 := by
        have := congrArg List.length hz
        rw [List.length_append, List.length_cons] at this; omega
      have HZ := Lib.hid hz; clear hz
      have r1 := or128 m
      go_wp2_with (at_builtin; refine wpList_appG eltTB rfl _ _ rfl base _ zs (by rfl) (O.out.alloc _) _ 1 1 [hi8 m] (by rfl) (Sl.lit _ _ _ _ _ rfl rfl).toT (by unfold maxLen; omega) (.wide (by omega)) (by simp; omega) _ rfl ?_; intro v5 w5 h5 hg5 hv5 hb5; have O5 := Lib.hid h5; have G5 := Lib.hid ((G.out.alloc (Nat.le_trans hb lw) _).trans hb5); clear h5 hb5 hg5 hv5)
      go_roundw
      case rel => exact ⟨m / 128, _, by go_num, O5.out, by rw [List.append_assoc]; exact HZ.out, G5.out⟩
      case measure => simp [intOf]; omega
    · rw [vb_lt (by omega)] at hz
      have hzl : zs.length + 1 ≤ 200000000000010 := by
        have := congrArg List.length hz
        rw [List.length_append, List.length_cons] at this; simp at this; omega
      have HZ := Lib.hid hz; clear hz
      have HC := Lib.hid (cell8 (n := m) (by omega))
      go_wp2_with (at_builtin; refine wpList_appG eltTB rfl _ _ rfl base _ zs (by rfl) (O.out.alloc _) _ 1 1 [lo8 m] (by rfl) (Sl.lit _ _ _ _ _ rfl HC.out).toT (by unfold maxLen; omega) (.wide (by omega)) (by simp; omega) _ rfl ?_; intro v5 w5 h5 hg5 hv5 hb5; have O5 := Lib.hid h5; have G5 := Lib.hid ((G.out.alloc (Nat.le_trans hb lw) _).trans hb5); clear h5 hb5 hg5 hv5)
      go_ret
      exact ⟨_, rfl, by have := O5.out; rw [HZ.out] at this; exact this, G5.out⟩
end Go.Proofs.YtljcogimeimknaaGreat
/- Join: contract. Conditions: the numbers fit; their bytes within reach. -/
namespace Go.Proofs.YtljcogimeimknaaGreat
set_option linter.unusedVariables false
open Go.RowKit

/-- the bytes of some numbers -/
def vbs (l : List Nat) : List UInt8 := l.flatMap vb
theorem vbs_snoc (l : List Nat) (n : Nat) : vbs (l ++ [n]) = vbs l ++ vb n := by unfold vbs; simp
abbrev Nf (n : Nat) : Value := .int .u64 (n : Int)
theorem vbs_take {l : List Nat} {k n : Nat} (h : l[k]? = some n) : vbs (l.take (k + 1)) = vbs (l.take k) ++ vb n := by
  rw [List.take_add_one, h]; exact vbs_snoc _ _
theorem vbs_le (l : List Nat) (k : Nat) : (vbs (l.take k)).length ≤ (vbs l).length := by
  conv => rhs; rw [← List.take_append_drop k l]
  unfold vbs
  rw [List.flatMap_append, List.length_append]; omega

set_option maxRecDepth 100000 in
set_option maxHeartbeats 1000000 in
theorem join_any (a : Option Addr) (n c : Nat) (l : List Nat) (w : World) (hn : n ≤ 140737488351232) (hl : ∀ m, m ∈ l → m < 18446744073709551616) (hb : (vbs l).length ≤ 200000000000000) (h : Sl Nf w a n c l) :
    Calls Tryz.prog 154 #[.slice a n c] w fun e w' => ∃ v, e = .returned v ∧ OwT fB w' w.heap.size 5 v (vbs l) ∧ Below w.heap.size w w' := by
  obtain rfl : n = l.length := h.len.symm
  have H := Lib.hid h; clear h
  have HL := Lib.hid hl; clear hl
  go_enter Tryz.func154, Tryz.ntmps154
  go_wp2_with fail
  go_loopw [3, 8] (fun s i wr => ∃ k : Nat, k ≤ l.length ∧ i = .int .i64 k ∧ OwT fB wr w.heap.size 5 s (vbs (l.take k)) ∧ Below w.heap.size w wr) (fun _ i _ => l.length - (intOf i).toNat)
  case atStart => exact ⟨0, Nat.zero_le _, rfl, OwT.nil _ _ _ _, Below.refl _ _⟩
  case round =>
    obtain ⟨k, hk, rfl, ho, hbb⟩ := hrel
    have O := Lib.hid ho; clear ho
    have G := Lib.hid hbb; clear hbb
    by_cases hlt : k < l.length
    · obtain ⟨x, b, o, hx, rfl, hc⟩ := (H.out.keep G.out).at k hlt
      have hc : wr.cell? ⟨b, o + k, none⟩ = some (.int .u64 x) := hc
      have HX := Lib.hid hx; clear hx
      have hkl := vbs_le l k
      go_wp2_with fail
      refine (vput_any _ (vbs (l.take k)) w.heap.size x _ G.out.size (by omega) (HL.out x (List.mem_of_getElem? HX.out)) O.out).mono ?_
      rintro e w2 ⟨v', rfl, hv, hb2⟩
      have O2 := Lib.hid hv; clear hv
      have G2 := Lib.hid (G.out.trans hb2); clear hb2
      go_wp2_with fail
      go_roundw
      case rel => exact ⟨k + 1, by omega, by go_num, by rw [vbs_take HX.out]; exact O2.out, G2.out⟩
      case measure => simp [intOf]; omega
    · have HT := Lib.hid (show l.take k = l from List.take_of_length_le (by omega))
      go_wp2_with fail
      go_ret
      exact ⟨_, rfl, by have := O.out; rw [HT.out] at this; exact this, G.out⟩
end Go.Proofs.YtljcogimeimknaaGreat
/- The bytes of a number, the reference's: contract. Condition: the number fits. -/
namespace Go.Proofs.YtljcogimeimknaaGreat
set_option linter.unusedVariables false
open Go.RowKit

end Go.Proofs.YtljcogimeimknaaGreat
/- The bytes of a number: contract. Condition: the number fits. -/
namespace Go.Proofs.YtljcogimeimknaaGreat
set_option linter.unusedVariables false
open Go.RowKit

theorem vbytes_any (n : Nat) (w : World) (hn : n < 18446744073709551616) :
    Calls Tryz.prog 153 #[.int .u64 n] w fun e w' => ∃ v, e = .returned v ∧ OwT fB w' w.heap.size 5 v (vb n) ∧ Below w.heap.size w w' := by
  have HN := Lib.hid hn; clear hn
  go_enter Tryz.func153, Tryz.ntmps153
  go_wp2_with fail
  refine (vput_any _ [] w.heap.size n _ (Nat.le_refl _) (by simp) HN.out (OwT.nil _ _ _ _)).mono ?_
  rintro e w' ⟨v, rfl, hv, hb⟩
  go_wp2_with fail
  go_ret
  exact ⟨_, rfl, hv, hb⟩
end Go.Proofs.YtljcogimeimknaaGreat
/- The bytes of an entry behind a text: contracts of Bytes, the program's and the reference's. Conditions: the texts within reach. -/
namespace Go.Proofs.YtljcogimeimknaaGreat
set_option linter.unusedVariables false
open Go.RowKit

/-- the bytes of an entry behind a text -/
def ebytes (p : List UInt8) (e : Ent) : List UInt8 := vb (com p e.1) ++ vb (e.1.length - com p e.1) ++ vb e.2.length ++ e.1.drop (com p e.1) ++ e.2
theorem u64_nat (n : Nat) (h : n < 18446744073709551616) : IntKind.u64.wrap (n : Int) = n := by rw [IntKind.wrap_u64]; omega

theorem rows2_3 (w : World) (a1 : Option Addr) (n1 c1 : Nat) (xs1 : List UInt8) (a2 : Option Addr) (n2 c2 : Nat) (xs2 : List UInt8) (a3 : Option Addr) (n3 c3 : Nat) (xs3 : List UInt8) (h1 : Sl Bf w a1 n1 c1 xs1) (h2 : Sl Bf w a2 n2 c2 xs2) (h3 : Sl Bf w a3 n3 c3 xs3) :
    Rows2 (w.alloc (.cells #[.slice a1 n1 c1, .slice a2 n2 c2, .slice a3 n3 c3] 22)) (some ⟨w.heap.size, 0, none⟩) 3 3 [xs1, xs2, xs3] := by
  have hb : Below w.heap.size w (w.alloc (.cells #[.slice a1 n1 c1, .slice a2 n2 c2, .slice a3 n3 c3] 22)) := (Below.refl _ _).alloc (Nat.le_refl _) _
  have hh : (w.alloc (.cells #[.slice a1 n1 c1, .slice a2 n2 c2, .slice a3 n3 c3] 22)).heap[w.heap.size]? = some (.cells #[.slice a1 n1 c1, .slice a2 n2 c2, .slice a3 n3 c3] 22 (0, 0)) := heap_new w _
  refine ⟨rfl, Nat.le_refl _, fun i xs hi => ?_⟩
  have hl : i < 3 := (List.getElem?_eq_some_iff.1 hi).1
  rcases (by omega : i = 0 ∨ i = 1 ∨ i = 2) with e | e | e <;> subst e <;> (simp at hi; subst hi)
  · exact ⟨_, _, _, _, _, rfl, by simp only [World.cell?, hh]; rfl, h1.keep hb⟩
  · exact ⟨_, _, _, _, _, rfl, by simp only [World.cell?, hh]; rfl, h2.keep hb⟩
  · exact ⟨_, _, _, _, _, rfl, by simp only [World.cell?, hh]; rfl, h3.keep hb⟩
set_option maxRecDepth 100000 in
set_option maxHeartbeats 1000000 in
theorem pbytes_any (ap : Option Addr) (np cp : Nat) (p : List UInt8) (ak : Option Addr) (nk ck : Nat) (k : List UInt8) (av : Option Addr) (nv cv : Nat) (v : List UInt8) (w : World)
    (hp : np ≤ 140737488351232) (hb : nk + nv ≤ 140737488351232) (h0 : Sl Bf w ap np cp p) (h1 : Sl Bf w ak nk ck k) (h2 : Sl Bf w av nv cv v) :
    Calls Tryz.prog 150 #[.slice ap np cp, .agg #[.slice ak nk ck, .slice av nv cv]] w fun e w' => ∃ x, e = .returned x ∧ OwT fB w' w.heap.size 5 x (ebytes p (k, v)) ∧ Below w.heap.size w w' := by
  obtain rfl : np = p.length := h0.len.symm
  obtain rfl : nk = k.length := h1.len.symm
  obtain rfl : nv = v.length := h2.len.symm
  have hb1 : Below w.heap.size w (w.alloc (.cells #[.slice ak k.length ck, .slice av v.length cv] 51)) := (Below.refl _ _).alloc (Nat.le_refl _) _
  have hoe : (w.alloc (.cells #[.slice ak k.length ck, .slice av v.length cv] 51)).heap[w.heap.size]? = some (.cells #[.slice ak k.length ck, .slice av v.length cv] 51 (0, 0)) := heap_new w _
  have P0 := Lib.hid (h0.keep hb1)
  have K0 := Lib.hid (h1.keep hb1)
  have V0 := Lib.hid (h2.keep hb1)
  have E := Lib.hid hoe
  have B := Lib.hid hb1
  clear h0 h1 h2 hb1 hoe
  go_enter Tryz.func150, Tryz.ntmps150
  go_upto_region 1 with (fail)
  obtain ⟨g, hg⟩ : ∃ g, w.heap.size = g := ⟨_, rfl⟩
  rw [hg] at E ⊢
  have hgw : w.heap.size ≤ g := by omega
  clear hg
  generalize w.alloc (.cells #[.slice ak k.length ck, .slice av v.length cv] 51) = w1 at *
  have e0 : w1.cell? ⟨g, 0, none⟩ = some (.slice ak k.length ck) := by have := E.out; simp [World.cell?, this]
  have e1 : w1.cell? ⟨g, 1, none⟩ = some (.slice av v.length cv) := by have := E.out; simp [World.cell?, this]
  have lg1 : g < w1.heap.size := (Array.getElem?_eq_some_iff.1 E.out).1
  obtain ⟨m, hm⟩ : ∃ m, com p k = m := ⟨_, rfl⟩
  have hm1 : m ≤ k.length := hm ▸ (com_le p k).2
  have hm2 : m ≤ p.length := hm ▸ (com_le p k).1
  have hcom := common_any _ _ _ p _ _ _ k w1 (by omega) (by omega) P0.out K0.out
  rw [hm] at hcom
  have HC := Lib.hid hcom; clear hcom
  have HM := Lib.hid hm; clear hm
  go_wp2_with fail
  refine HC.out.mono ?_
  rintro e w2 ⟨rfl, hb2⟩
  replace P0 := Lib.hid (P0.out.keep hb2)
  replace K0 := Lib.hid (K0.out.keep hb2)
  replace V0 := Lib.hid (V0.out.keep hb2)
  replace E := Lib.hid ((hb2.block g lg1).trans E.out)
  replace B := Lib.hid (B.out.trans (hb2.mono (by omega)))
  clear hb2 e0 e1 HC lg1
  have e0 : w2.cell? ⟨g, 0, none⟩ = some (.slice ak k.length ck) := by have := E.out; simp [World.cell?, this]
  have e1 : w2.cell? ⟨g, 1, none⟩ = some (.slice av v.length cv) := by have := E.out; simp [World.cell?, this]
  have lg2 : g < w2.heap.size := (Array.getElem?_eq_some_iff.1 E.out).1
  have r1 : IntKind.u64.wrap (m : Int) = m := u64_nat m (by omega)
  obtain ⟨d, hd⟩ : ∃ d, k.length - m = d := ⟨_, rfl⟩
  have r2 : IntKind.u64.wrap ((k.length : Int) - m) = d := by rw [show (k.length : Int) - m = (d : Int) by omega]; exact u64_nat d (by omega)
  have r3 : IntKind.u64.wrap (v.length : Int) = v.length := u64_nat _ (by omega)
  have hdm : d + m = k.length := by omega
  have HD := Lib.hid hd; clear hd
  go_wp2_with fail
  have hb3 : Below w2.heap.size w2 (w2.alloc (.cells #[.int .u64 (m : Nat), .int .u64 (d : Nat), .int .u64 (v.length : Nat)] 88)) := (Below.refl _ _).alloc (Nat.le_refl _) _
  have sl3 : Sl Nf (w2.alloc (.cells #[.int .u64 (m : Nat), .int .u64 (d : Nat), .int .u64 (v.length : Nat)] 88)) (some ⟨w2.heap.size, 0, none⟩) 3 3 [m, d, v.length] := Sl.lit _ _ _ _ _ rfl rfl
  have SL := Lib.hid sl3; clear sl3
  replace P0 := Lib.hid (P0.out.keep hb3)
  replace K0 := Lib.hid (K0.out.keep hb3)
  replace V0 := Lib.hid (V0.out.keep hb3)
  replace E := Lib.hid ((hb3.block g lg2).trans E.out)
  replace B := Lib.hid (B.out.trans (hb3.mono (by omega)))
  generalize w2.alloc (.cells #[.int .u64 (m : Nat), .int .u64 (d : Nat), .int .u64 (v.length : Nat)] 88) = w3 at *
  clear hb3 e0 e1 lg2
  have lg3 : g < w3.heap.size := (Array.getElem?_eq_some_iff.1 E.out).1
  have hall : ∀ x, x ∈ [m, d, v.length] → x < 18446744073709551616 := by intro x hx; simp at hx; omega
  have hvb : (vbs [m, d, v.length]).length ≤ 30 := by
    have h1 := vb_ten (hall m (by simp)); have h2 := vb_ten (hall d (by simp)); have h3 := vb_ten (hall v.length (by simp))
    unfold vbs; simp; omega
  have HALL := Lib.hid hall; clear hall
  obtain ⟨hd, hhd⟩ : ∃ hd, vbs [m, d, v.length] = hd := ⟨_, rfl⟩
  have hjoin := join_any _ 3 3 [m, d, v.length] w3 (by omega) HALL.out (by omega) SL.out
  rw [hhd] at hvb hjoin
  have HHD := Lib.hid hhd; clear hhd
  refine hjoin.mono ?_
  rintro e w4 ⟨x4, rfl, ho, hb4⟩
  replace P0 := Lib.hid (P0.out.keep hb4)
  replace K0 := Lib.hid (K0.out.keep hb4)
  replace V0 := Lib.hid (V0.out.keep hb4)
  replace E := Lib.hid ((hb4.block g lg3).trans E.out)
  replace B := Lib.hid (B.out.trans (hb4.mono (by omega)))
  obtain ⟨a4, n4, c4, rfl, z4⟩ := ho.slN
  obtain rfl : hd.length = n4 := z4.len
  have Z4 := Lib.hid z4
  clear hb4 hjoin ho z4 lg3 r1 r2 r3
  have e0 : w4.cell? ⟨g, 0, none⟩ = some (.slice ak k.length ck) := by have := E.out; simp [World.cell?, this]
  have e1 : w4.cell? ⟨g, 1, none⟩ = some (.slice av v.length cv) := by have := E.out; simp [World.cell?, this]
  have hcut := fun W : World => run_cutfrom eltB W ak k.length ck .i64 m hm1
  go_upto_region 3 with (fail)
  go_still_tail 7, (by kernel_rfl)
  change wpList _ _ _ _ _ w4.drew
  replace P0 := Lib.hid P0.out.drew
  replace K0 := Lib.hid K0.out.drew
  replace V0 := Lib.hid V0.out.drew
  replace Z4 := Lib.hid Z4.out.drew
  replace B : Hid (Below w.heap.size w w4.drew) := Lib.hid B.out.drew
  generalize w4.drew = w5 at *
  have hr3 := rows2_3 w5 _ _ _ _ _ _ _ _ _ _ _ _ Z4.out (K0.out.from m hm1) V0.out
  have hb6 : Below w.heap.size w (w5.alloc (.cells #[.slice a4 hd.length c4, .slice (adv ak ck m) (k.length - m) (ck - m), .slice av v.length cv] 22)) := B.out.alloc B.out.size _
  have hfl : [hd, k.drop m, v].flatten = ebytes p (k, v) := by
    unfold ebytes
    show hd ++ (k.drop m ++ (v ++ [])) = vb (com p k) ++ vb (k.length - com p k) ++ vb v.length ++ k.drop (com p k) ++ v
    rw [← HHD.out, HM.out, HD.out]
    unfold vbs
    simp
  have hfll : [hd, k.drop m, v].flatten.length ≤ 140737488355328 := by simp; omega
  rw [hfl] at hfll
  have R3 := Lib.hid hr3
  have B6 := Lib.hid hb6
  have FL := Lib.hid hfl
  have FLL := Lib.hid hfll
  clear hr3 hb6 hfl hfll e0 e1
  go_wp2_with fail
  refine (concat_any _ 3 3 [hd, k.drop m, v] _ (by omega) (by rw [FL.out]; exact FLL.out) R3.out).mono ?_
  rintro e w7 ⟨x7, rfl, ho, hb7⟩
  rw [FL.out] at ho
  have O := Lib.hid (ho.base (show w.heap.size ≤ _ from B6.out.size))
  have B7 := Lib.hid (B6.out.trans (hb7.mono B6.out.size))
  clear ho hb7
  go_wp2_with fail
  go_ret
  exact ⟨_, rfl, O.out, B7.out⟩

end Go.Proofs.YtljcogimeimknaaGreat
/- Blocks of entries: plain words: what a builder holds, what it makes, may an entry stand behind. No condition. -/
namespace Go.Proofs.YtljcogimeimknaaGreat
set_option linter.unusedVariables false

/-- what a builder holds: the entries' bytes, the table, the last key, how many -/
structure BS where
  body : List UInt8
  tab : List UInt8
  last : List UInt8
  n : Nat
def BS0 : BS := ⟨[], [], [], 0⟩
def bP (n : Nat) (last : List UInt8) : List UInt8 := if n % 8 = 0 then [] else last
def bMark (n at' : Nat) : List UInt8 := if n % 8 = 0 then [UInt8.ofNat at', UInt8.ofNat (at' / 256)] else []
def bAdd (s : BS) (e : Ent) : BS := ⟨s.body ++ ebytes (bP s.n s.last) e, s.tab ++ bMark s.n (s.body.length + 1), e.1, s.n + 1⟩
def bst (l : List Ent) : BS := l.foldl bAdd BS0
theorem bst_nil : bst [] = BS0 := rfl
theorem bst_snoc (l : List Ent) (e : Ent) : bst (l ++ [e]) = bAdd (bst l) e := by unfold bst; rw [List.foldl_append]; rfl
theorem bst_n (l : List Ent) : (bst l).n = l.length := by
  have : ∀ (l : List Ent) (s : BS), (l.foldl bAdd s).n = s.n + l.length := by
    intro l
    induction l with
    | nil => intro s; rfl
    | cons e r ih => intro s; rw [List.foldl_cons, ih, List.length_cons]; show s.n + 1 + _ = _; omega
  have := this l BS0
  unfold bst; rw [this]; show 0 + _ = _; omega
theorem bst_take {l : List Ent} {k : Nat} {e : Ent} (h : l[k]? = some e) : bst (l.take (k + 1)) = bAdd (bst (l.take k)) e := by
  rw [List.take_add_one, h]; exact bst_snoc _ _
theorem ebytes_le (p : List UInt8) (e : Ent) (h : e.1.length + e.2.length ≤ 140737488351232) : (ebytes p e).length ≤ 30 + e.1.length + e.2.length := by
  unfold ebytes
  have h1 := com_le p e.1
  have a := vb_ten (n := com p e.1) (by omega)
  have b := vb_ten (n := e.1.length - com p e.1) (by omega)
  have c := vb_ten (n := e.2.length) (by omega)
  simp only [List.length_append, List.length_drop]
  omega
theorem keyN_zero {n : Nat} (h : keyN n = 0) : 0 < n ∧ n ≤ 64 := by unfold keyN at h; split at h <;> omega
theorem valN_zero {n : Nat} (h : valN n = 0) : n ≤ 256 := by unfold valN at h; split at h <;> omega
theorem chk_zero {e : Ent} (h : chk e = 0) : 0 < e.1.length ∧ e.1.length ≤ 64 ∧ e.2.length ≤ 256 := by
  unfold chk chkN at h
  have a : keyN e.1.length = 0 := by omega
  have b : valN e.2.length = 0 := by omega
  exact ⟨(keyN_zero a).1, (keyN_zero a).2, valN_zero b⟩
theorem chk_cases (e : Ent) : chk e = 0 ∨ chk e = 3 := by
  unfold chk chkN
  have a : keyN e.1.length = 0 ∨ keyN e.1.length = 3 := by unfold keyN; split <;> simp
  have b : valN e.2.length = 0 ∨ valN e.2.length = 3 := by unfold valN; split <;> simp
  omega
/-- each entry may be -/
def Okay (l : List Ent) : Prop := ∀ e, e ∈ l → chk e = 0
theorem Okay.take {l : List Ent} (h : Okay l) (k : Nat) : Okay (l.take k) := fun e he => h e (List.mem_of_mem_take he)
theorem Okay.snoc {l : List Ent} (h : Okay l) {e : Ent} (he : chk e = 0) : Okay (l ++ [e]) := fun x hx => by
  rcases List.mem_append.1 hx with h1 | h1
  · exact h x h1
  · obtain rfl := List.mem_singleton.1 h1; exact he
theorem bst_le : ∀ (l : List Ent), Okay l → (bst l).body.length ≤ 350 * l.length ∧ (bst l).tab.length ≤ 2 * l.length ∧ (bst l).last.length ≤ 64 := by
  intro l h
  have : ∀ k, k ≤ l.length → (bst (l.take k)).body.length ≤ 350 * k ∧ (bst (l.take k)).tab.length ≤ 2 * k ∧ (bst (l.take k)).last.length ≤ 64 := by
    intro k
    induction k with
    | zero => intro _; exact ⟨Nat.le_refl _, Nat.le_refl _, Nat.zero_le _⟩
    | succ k ih =>
      intro hk
      obtain ⟨e, he⟩ : ∃ e, l[k]? = some e := ⟨_, List.getElem?_eq_getElem hk⟩
      have hc := chk_zero (h e (List.mem_of_getElem? he))
      obtain ⟨h1, h2, h3⟩ := ih (by omega)
      rw [bst_take he]
      refine ⟨?_, ?_, hc.2.1⟩
      · show (_ ++ ebytes _ e).length ≤ _
        have := ebytes_le (bP (bst (l.take k)).n (bst (l.take k)).last) e (by omega)
        rw [List.length_append]; omega
      · show (_ ++ bMark _ _).length ≤ _
        rw [List.length_append]
        have : (bMark (bst (l.take k)).n ((bst (l.take k)).body.length + 1)).length ≤ 2 := by unfold bMark; split <;> simp
        omega
  have := this l.length (Nat.le_refl _)
  rwa [List.take_length] at this
/-- what a block of entries is -/
def bld (l : List Ent) : List UInt8 := if l = [] then [] else vb l.length ++ (bst l).body ++ (bst l).tab
theorem bld_some {l : List Ent} (h : l ≠ []) : bld l = vb l.length ++ (bst l).body ++ (bst l).tab := by unfold bld; rw [if_neg h]
/-- may an entry stand behind entries? -/
def addE (l : List Ent) (e : Ent) : Nat := if chk e ≠ 0 then chk e else if l.length = 64 then 61 else if 0 < l.length ∧ 0 ≤ cmp (bst l).last e.1 then 51 else 0
theorem addE_chk {l : List Ent} {e : Ent} (h : chk e ≠ 0) : addE l e = chk e := by unfold addE; rw [if_pos h]
theorem addE_full {l : List Ent} {e : Ent} (h : chk e = 0) (h2 : l.length = 64) : addE l e = 61 := by unfold addE; rw [if_neg (by omega), if_pos h2]
theorem addE_cmp {l : List Ent} {e : Ent} (h : chk e = 0) (h2 : l.length ≠ 64) (h3 : 0 < l.length ∧ 0 ≤ cmp (bst l).last e.1) : addE l e = 51 := by unfold addE; rw [if_neg (by omega), if_neg h2, if_pos h3]
theorem addE_ok {l : List Ent} {e : Ent} (h : chk e = 0) (h2 : l.length ≠ 64) (h3 : ¬ (0 < l.length ∧ 0 ≤ cmp (bst l).last e.1)) : addE l e = 0 := by unfold addE; rw [if_neg (by omega), if_neg h2, if_neg h3]
theorem addE_zero {l : List Ent} {e : Ent} (h : addE l e = 0) : chk e = 0 ∧ l.length ≠ 64 ∧ ¬ (0 < l.length ∧ 0 ≤ cmp (bst l).last e.1) := by
  by_cases h1 : chk e = 0
  · by_cases h2 : l.length = 64
    · rw [addE_full h1 h2] at h; cases h
    · by_cases h3 : 0 < l.length ∧ 0 ≤ cmp (bst l).last e.1
      · rw [addE_cmp h1 h2 h3] at h; cases h
      · exact ⟨h1, h2, h3⟩
  · rw [addE_chk h1] at h; exact absurd h h1
/-- of rising entries that may be each stands rightly behind those ahead of it -/
theorem srt_adds {es : List Ent} (h : (srt es).2 = 0) : ∀ k e, es[k]? = some e → chk e = 0 ∧ ¬ (0 < k ∧ 0 ≤ cmp (bst (es.take k)).last e.1) := by
  have main : ∀ (r : List Ent) (i : Nat) (p : List Ent), i = p.length → (srtFrom i (bst p).last r).2 = 0 → ∀ k e, r[k]? = some e → chk e = 0 ∧ ¬ (0 < i + k ∧ 0 ≤ cmp (bst (p ++ r.take k)).last e.1) := by
    intro r
    induction r with
    | nil => intro i p _ _ k e he; simp at he
    | cons x r ih =>
      intro i p hi hs k e he
      by_cases h1 : chk x ≠ 0
      · rw [srt_chk h1] at hs; exact absurd hs h1
      by_cases h2 : 0 < i ∧ 0 ≤ cmp (bst p).last x.1
      · rw [srt_cmp h1 h2] at hs; cases hs
      rw [srt_go h1 h2] at hs
      have hl : (bst (p ++ [x])).last = x.1 := by rw [bst_snoc]; rfl
      rw [← hl] at hs
      cases k with
      | zero =>
        simp at he; subst he
        refine ⟨by omega, ?_⟩
        rw [List.take_zero, List.append_nil]
        exact h2
      | succ k =>
        simp at he
        have := ih (i + 1) (p ++ [x]) (by rw [List.length_append, hi]; rfl) hs k e he
        rw [List.append_assoc] at this
        rw [show i + (k + 1) = i + 1 + k by omega]
        exact this
  intro k e he
  have := main es 0 [] rfl h k e he
  simpa using this
theorem srt_okay {es : List Ent} (h : (srt es).2 = 0) : Okay es := fun e he => by
  obtain ⟨k, hk⟩ := List.getElem?_of_mem he
  exact (srt_adds h k e hk).1
end Go.Proofs.YtljcogimeimknaaGreat
/- A builder of blocks in memory. No condition. -/
namespace Go.Proofs.YtljcogimeimknaaGreat
open Go.RowKit
set_option linter.unusedVariables false

/-- v at k, else as it was -/
def upd {α : Type} (v : Nat → α) (k : Nat) (x : α) : Nat → α := fun i => if i = k then x else v i
theorem upd_same {α : Type} (v : Nat → α) (k : Nat) (x : α) : upd v k x k = x := if_pos rfl
theorem upd_other {α : Type} (v : Nat → α) {k i : Nat} (x : α) (h : i ≠ k) : upd v k x i = v i := if_neg h
/-- a builder: its number, its three rows -/
structure BlR (w : World) (lo g n : Nat) (v : Nat → Value) (X : Nat → List UInt8) : Prop where
  blk : w.heap[g]? = some (.cells #[.int .i64 (n : Nat), v 1, v 2, v 3] 208 (0, 0))
  row : ∀ k, 1 ≤ k → k ≤ 3 → OwT fB w lo 5 (v k) (X k)
  off : ∀ k, 1 ≤ k → k ≤ 3 → Off (v k) g
  dis : ∀ i k b, 1 ≤ i → i ≤ 3 → 1 ≤ k → k ≤ 3 → i ≠ k → (v i).ownBlock = some b → (v k).ownBlock ≠ some b
  low : lo ≤ g
/-- the blocks of a builder -/
def BlS (g : Nat) (v : Nat → Value) (j : Nat) : Prop := j = g ∨ ∃ k, 1 ≤ k ∧ k ≤ 3 ∧ (v k).ownBlock = some j
section
variable {w w1 : World} {lo g n : Nat} {v : Nat → Value} {X : Nat → List UInt8}
theorem BlR.lt (h : BlR w lo g n v X) : g < w.heap.size := (Array.getElem?_eq_some_iff.1 h.blk).1
theorem BlR.inS (h : BlR w lo g n v X) : ∀ j, BlS g v j → lo ≤ j ∧ j < w.heap.size := fun j hj => by
  rcases hj with rfl | ⟨k, h1, h3, hk⟩
  · exact ⟨h.low, h.lt⟩
  · exact (h.row k h1 h3).lt j hk
theorem BlR.c0 (h : BlR w lo g n v X) : w.cell? ⟨g, 0, none⟩ = some (.int .i64 (n : Nat)) := cell_of h.blk 0 rfl
theorem BlR.c (h : BlR w lo g n v X) (k : Nat) (h1 : 1 ≤ k) (h3 : k ≤ 3) : w.cell? ⟨g, k, none⟩ = some (v k) := by
  rcases (by omega : k = 1 ∨ k = 2 ∨ k = 3) with e | e | e <;> subst e
  · exact cell_of h.blk 1 rfl
  · exact cell_of h.blk 2 rfl
  · exact cell_of h.blk 3 rfl
theorem BlR.free (h : BlR w lo g n v X) (k : Nat) : w.frozen? ⟨g, k, none⟩ = false := free_block h.blk k
theorem BlR.turns {S : Nat → Prop} (h : BlR w lo g n v X) (ht : Turns S w w1) (hs : ∀ j, BlS g v j → ¬ S j) : BlR w1 lo g n v X :=
  ⟨ht.heap h.blk (hs g (.inl rfl)), fun k h1 h3 => (h.row k h1 h3).turns ht fun j hj => hs j (.inr ⟨k, h1, h3, hj⟩), h.off, h.dis, h.low⟩
theorem BlR.keep (h : BlR w lo g n v X) (hb : Below w.heap.size w w1) : BlR w1 lo g n v X := h.turns (S := fun _ => False) (.of_below hb) fun _ _ e => e
theorem BlR.drewN (h : BlR w lo g n v X) (m : Nat) : BlR (w.drewN m) lo g n v X := h.keep (keep_drewN (Below.refl _ _) m)
/-- a row is laid anew -/
theorem BlR.put (h : BlR w lo g n v X) (k : Nat) (h1 : 1 ≤ k) (h3 : k ≤ 3) (x : Value) (xs : List UInt8) (ht : Turns (fun j => (v k).ownBlock = some j) w w1) (ho : OwT fB w1 lo 5 x xs)
    (hx : ∀ j, x.ownBlock = some j → (v k).ownBlock = some j ∨ w.heap.size ≤ j) : BlR (w1.setCell ⟨g, k, none⟩ x) lo g n (upd v k x) (upd X k xs) := by
  have hblk : w1.heap[g]? = some (.cells #[.int .i64 (n : Nat), v 1, v 2, v 3] 208 (0, 0)) := ht.heap h.blk fun e => h.off k h1 h3 g e rfl
  have hxg : Off x g := fun j hj e => by
    rcases hx j hj with h2 | h2
    · exact h.off k h1 h3 j h2 e
    · have := h.lt; omega
  have hxi : ∀ i b, 1 ≤ i → i ≤ 3 → i ≠ k → (v i).ownBlock = some b → x.ownBlock ≠ some b := fun i b i1 i3 ik hb hxb => by
    rcases hx b hxb with h2 | h2
    · exact h.dis i k b i1 i3 h1 h3 ik hb h2
    · have := ((h.row i i1 i3).lt b hb).2; omega
  refine ⟨?_, fun i i1 i3 => ?_, fun i i1 i3 => ?_, fun i j b i1 i3 j1 j3 ij hb => ?_, h.low⟩
  · have := set_block (i := k) hblk x
    rw [this]
    rcases (by omega : k = 1 ∨ k = 2 ∨ k = 3) with e | e | e <;> subst e <;> rfl
  · by_cases e : i = k
    · subst e
      rw [upd_same, upd_same]
      exact ho.of_block fun j hj => Below.heap_setCell _ _ _ _ (hxg j hj)
    · rw [upd_other _ _ e, upd_other _ _ e]
      exact ((h.row i i1 i3).turns ht fun j hj e2 => h.dis i k j i1 i3 h1 h3 e hj e2).of_block fun j hj => Below.heap_setCell _ _ _ _ (h.off i i1 i3 j hj)
  · by_cases e : i = k
    · subst e; rw [upd_same]; exact hxg
    · rw [upd_other _ _ e]; exact h.off i i1 i3
  · by_cases e : i = k
    · subst e
      rw [upd_same] at hb
      rw [upd_other _ _ (fun e => ij e.symm)]
      exact fun e2 => hxi j b j1 j3 (fun e => ij e.symm) e2 hb
    · rw [upd_other _ _ e] at hb
      by_cases e2 : j = k
      · subst e2; rw [upd_same]; exact hxi i b i1 i3 e hb
      · rw [upd_other _ _ e2]; exact h.dis i j b i1 i3 j1 j3 ij hb
theorem BlS_put {k : Nat} {x : Value} {m : Nat} (h1 : 1 ≤ k) (h3 : k ≤ 3) (hx : ∀ j, x.ownBlock = some j → (v k).ownBlock = some j ∨ m ≤ j) : ∀ j, BlS g (upd v k x) j → BlS g v j ∨ m ≤ j := fun j hj => by
  rcases hj with rfl | ⟨i, i1, i3, hi⟩
  · exact .inl (.inl rfl)
  · by_cases e : i = k
    · subst e
      rw [upd_same] at hi
      rcases hx j hi with h | h
      · exact .inl (.inr ⟨i, i1, i3, h⟩)
      · exact .inr h
    · rw [upd_other _ _ e] at hi
      exact .inl (.inr ⟨i, i1, i3, hi⟩)
/-- the number is laid anew -/
theorem BlR.num (h : BlR w lo g n v X) (m : Nat) : BlR (w.setCell ⟨g, 0, none⟩ (.int .i64 (m : Nat))) lo g m v X :=
  ⟨set_block (i := 0) h.blk _, fun k h1 h3 => (h.row k h1 h3).of_block fun j hj => Below.heap_setCell _ _ _ _ (h.off k h1 h3 j hj), h.off, h.dis, h.low⟩
end
/-- a row is laid anew by a store: the cell ahead of it, what stands behind it -/
theorem BlR.lay {w w1 : World} {lo g n : Nat} {v : Nat → Value} {X : Nat → List UInt8} (h : BlR w lo g n v X) (k : Nat) (h1 : 1 ≤ k) (h3 : k ≤ 3) {vk : Value} (hvk : v k = vk) (ht : Turns (fun j => vk.ownBlock = some j) w w1) {x : Value} {xs : List UInt8} (ho : OwT fB w1 lo 5 x xs)
    (hx : ∀ j, x.ownBlock = some j → vk.ownBlock = some j ∨ w.heap.size ≤ j) :
    w1.cell? ⟨g, k, none⟩ = some vk ∧ w1.frozen? ⟨g, k, none⟩ = false ∧ BlR (w1.setCell ⟨g, k, none⟩ x) lo g n (upd v k x) (upd X k xs) ∧ Turns (BlS g v) w w1 ∧ Turns (BlS g v) w (w1.setCell ⟨g, k, none⟩ x) ∧ ∀ j, BlS g (upd v k x) j → BlS g v j ∨ w.heap.size ≤ j := by
  subst hvk
  have hblk : w1.heap[g]? = some (.cells #[.int .i64 (n : Nat), v 1, v 2, v 3] 208 (0, 0)) := ht.heap h.blk fun e => h.off k h1 h3 g e rfl
  refine ⟨?_, free_block hblk k, h.put k h1 h3 x xs ht ho hx, ht.mono fun j _ hj => .inr ⟨k, h1, h3, hj⟩, ?_, BlS_put h1 h3 hx⟩
  · rcases (by omega : k = 1 ∨ k = 2 ∨ k = 3) with e | e | e <;> subst e
    · exact cell_of hblk 1 rfl
    · exact cell_of hblk 2 rfl
    · exact cell_of hblk 3 rfl
  · exact (ht.mono (T := BlS g v) fun j _ hj => .inr ⟨k, h1, h3, hj⟩).trans (Turns.set (S := BlS g v) w1 (.inl rfl) x) fun _ _ e => e
theorem BlR.app {w w0 w1 : World} {lo g n : Nat} {v : Nat → Value} {X : Nat → List UInt8} (h : BlR w lo g n v X) (k : Nat) (h1 : 1 ≤ k) (h3 : k ≤ 3) {vk : Value} (hvk : v k = vk) (hw : Below w.heap.size w w0) (hg : w0.grownBy w1 vk.ownBlock) {x : Value} {xs : List UInt8} (ho : OwT fB w1 lo 5 x xs)
    (hx : x.ownBlock = vk.ownBlock ∨ x.ownBlock = some w0.heap.size) :
    w1.cell? ⟨g, k, none⟩ = some vk ∧ w1.frozen? ⟨g, k, none⟩ = false ∧ BlR (w1.setCell ⟨g, k, none⟩ x) lo g n (upd v k x) (upd X k xs) ∧ Turns (BlS g v) w w1 ∧ Turns (BlS g v) w (w1.setCell ⟨g, k, none⟩ x) ∧ ∀ j, BlS g (upd v k x) j → BlS g v j ∨ w.heap.size ≤ j :=
  h.lay k h1 h3 hvk ((Turns.of_below hw).trans (.of_grown hg fun j e => e) fun _ _ e => e) ho fun j hj => by
    rcases hx with e | e
    · exact .inl (e.symm.trans hj)
    · rw [e] at hj; injection hj with hj; exact .inr (by have := hw.size; omega)
/-- what a builder's rows are, of entries -/
def rowsOf (l : List Ent) : Nat → List UInt8 := fun k => if k = 1 then (bst l).body else if k = 2 then (bst l).tab else (bst l).last
def Bl (w : World) (lo g : Nat) (v : Nat → Value) (l : List Ent) : Prop := BlR w lo g l.length v (rowsOf l)
theorem BlR.as {w : World} {lo g n m : Nat} {v : Nat → Value} {X Y : Nat → List UInt8} (h : BlR w lo g n v X) (hn : n = m) (hX : ∀ k, 1 ≤ k → k ≤ 3 → X k = Y k) : BlR w lo g m v Y :=
  ⟨hn ▸ h.blk, fun k h1 h3 => hX k h1 h3 ▸ h.row k h1 h3, h.off, h.dis, h.low⟩
end Go.Proofs.YtljcogimeimknaaGreat
/- A builder of blocks: New, Add: contracts. Conditions: the entry within reach, apart from the builder. Written by a program of this place (gen_BlockAdd.py). -/
namespace Go.Proofs.YtljcogimeimknaaGreat
open Go.RowKit
set_option linter.unusedVariables false

theorem bnew_any (w : World) : Calls Tryz.prog 109 #[] w fun e w' => e = .returned (.pointer (some ⟨w.heap.size, 0, none⟩)) ∧ w' = w.alloc (.cells #[.int .i64 0, .slice none 0 0, .slice none 0 0, .slice none 0 0] 208) := by
  go_enter Tryz.func109, Tryz.ntmps109
  go_wp2_with fail
  go_ret
  exact ⟨rfl, rfl⟩
theorem Bl.new (w : World) : Bl (w.alloc (.cells #[.int .i64 0, .slice none 0 0, .slice none 0 0, .slice none 0 0] 208)) w.heap.size w.heap.size (fun _ => .slice none 0 0) [] :=
  ⟨heap_new w _, fun k h1 h3 => .inl ⟨rfl, by rcases (by omega : k = 1 ∨ k = 2 ∨ k = 3) with e | e | e <;> subst e <;> rfl⟩, fun k _ _ j hj => (by cases hj), fun i k b _ _ _ _ _ hb => (by cases hb), Nat.le_refl _⟩
theorem rows_bAdd (l : List Ent) (e : Ent) : ∀ k, rowsOf (l ++ [e]) k = if k = 1 then (bst l).body ++ ebytes (bP l.length (bst l).last) e else if k = 2 then (bst l).tab ++ bMark l.length ((bst l).body.length + 1) else e.1 := fun k => by
  unfold rowsOf
  rw [bst_snoc]
  show (if k = 1 then (bst l).body ++ ebytes (bP (bst l).n (bst l).last) e else if k = 2 then (bst l).tab ++ bMark (bst l).n ((bst l).body.length + 1) else e.1) = _
  rw [bst_n]
/-- behind Add -/
def AddPost (w : World) (lo g : Nat) (v : Nat → Value) (l : List Ent) (e : Ent) (r : Ending) (w' : World) : Prop :=
  r = .returned (.int .i64 (addE l e : Nat)) ∧ (addE l e ≠ 0 → Below w.heap.size w w') ∧
  (addE l e = 0 → ∃ v', Bl w' lo g v' (l ++ [e]) ∧ Turns (BlS g v) w w' ∧ ∀ j, BlS g v' j → BlS g v j ∨ w.heap.size ≤ j)
theorem AddPost.no {w w' : World} {lo g q : Nat} {v : Nat → Value} {l : List Ent} {e : Ent} (h : addE l e = q) (hq : q ≠ 0) (hb : Below w.heap.size w w') : AddPost w lo g v l e (.returned (.int .i64 (q : Nat))) w' := by
  subst h
  exact ⟨rfl, fun _ => hb, fun e => absurd e hq⟩
theorem bmod8 (q : Nat) (_h : q < 65536) : Value.int .u8 ((q : Int) % 256) = Bf (UInt8.ofNat q) := by
  show _ = Value.int .u8 (B (UInt8.ofNat q))
  congr 1
theorem bmark_cells (q : Nat) (h : q ≤ 22400) : (#[.int .u8 (((q : Int) + 1) % 256), .int .u8 (((q : Int) + 1) / 256)] : Array Value).toList = ([UInt8.ofNat (q + 1), UInt8.ofNat ((q + 1) / 256)] : List UInt8).map Bf := by
  have a := bmod8 (q + 1) (by omega)
  have b := bmod8 ((q + 1) / 256) (by omega)
  simp only [List.map_cons, List.map_nil]
  rw [← a, ← b]
  congr 3 <;> omega
set_option maxRecDepth 100000 in
set_option maxHeartbeats 8000000 in
theorem badd_any (lo g : Nat) (v : Nat → Value) (l : List Ent) (ak : Option Addr) (nk ck : Nat) (k : List UInt8) (av : Option Addr) (nv cv : Nat) (x : List UInt8) (w : World)
    (hl : l.length ≤ 64) (hok : Okay l) (hk : nk ≤ 140737488351232) (hv : nv ≤ 140737488351232) (hB : Bl w lo g v l) (h1 : Sl Bf w ak nk ck k) (h2 : Sl Bf w av nv cv x)
    (f1 : ∀ b o, ak = some ⟨b, o, none⟩ → 0 < nk → ¬ BlS g v b) (f2 : ∀ b o, av = some ⟨b, o, none⟩ → 0 < nv → ¬ BlS g v b) :
    Calls Tryz.prog 112 #[.pointer (some ⟨g, 0, none⟩), .agg #[.slice ak nk ck, .slice av nv cv]] w (AddPost w lo g v l (k, x)) := by
  obtain rfl : nk = k.length := h1.len.symm
  obtain rfl : nv = x.length := h2.len.symm
  have hc0 := check_any ak k.length ck av x.length cv
  obtain ⟨q, hq⟩ : ∃ q, chkN k.length x.length = q := ⟨_, rfl⟩
  have HCK := Lib.hid (fun W : World => hq ▸ hc0 W hk hv)
  have hqc : chk (k, x) = q := hq
  obtain ⟨n, hn⟩ : ∃ n, l.length = n := ⟨_, rfl⟩
  have hble := bst_le l hok
  have hB0 := hB
  unfold Bl at hB0
  rw [hn] at hB0 hl
  have F1 := Lib.hid (show ∀ b o, ak = some ⟨b, o, none⟩ → 0 < k.length → ¬ BlS g v b ∧ b < w.heap.size from fun b o ha hn => ⟨f1 b o ha hn, by subst ha; exact h1.blt hn⟩)
  have F2 := Lib.hid (show ∀ b o, av = some ⟨b, o, none⟩ → 0 < x.length → ¬ BlS g v b ∧ b < w.heap.size from fun b o ha hn => ⟨f2 b o ha hn, by subst ha; exact h2.blt hn⟩)
  have HIN := Lib.hid hB0.inS
  have BL := Lib.hid hB0
  have K := Lib.hid h1
  have X := Lib.hid h2
  have lg := hB0.lt
  have BLE := Lib.hid hble
  clear hc0 hq hB hB0 h1 h2 f1 f2 hble
  by_cases hz : q = 0
  · subst hz
    by_cases hfull : n = 64
    · subst hfull
      have ADD := Lib.hid (addE_full (l := l) hqc hn)
      clear hqc hn
      have hb1 : Below w.heap.size w (w.alloc (.cells #[.slice ak k.length ck, .slice av x.length cv] 51)) := (Below.refl _ _).alloc (Nat.le_refl _) _
      have BX := Lib.hid (heap_new w (.cells #[.slice ak k.length ck, .slice av x.length cv] 51))
      replace BL := Lib.hid (BL.out.keep hb1)
      replace K := Lib.hid (K.out.keep hb1)
      replace X := Lib.hid (X.out.keep hb1)
      have HB := Lib.hid hb1
      clear hb1
      go_enter Tryz.func112, Tryz.ntmps112
      go_upto_region 1 with (fail)
      obtain ⟨ge, hge⟩ : ∃ z, w.heap.size = z := ⟨_, rfl⟩
      rw [hge] at BX
      have hge2 : w.heap.size ≤ ge := by omega
      have lge : g < ge := by omega
      have HGE := Lib.hid (show ¬ BlS g v ge from fun e => by have := (HIN.out ge e).2; omega)
      rw [hge] at lg ⊢
      clear hge
      generalize w.alloc (.cells #[.slice ak k.length ck, .slice av x.length cv] 51) = w1 at *
      have x0 := cell_of BX.out 0 rfl
      have x1 := cell_of BX.out 1 rfl
      go_wp2_with fail
      refine (HCK.out _).mono ?_
      rintro e w2 ⟨rfl, hb⟩
      replace BL := Lib.hid (BL.out.keep hb)
      replace K := Lib.hid (K.out.keep hb)
      replace X := Lib.hid (X.out.keep hb)
      replace BX := Lib.hid ((Stab.block BX.out).keep hb).now
      replace HB := Lib.hid (HB.out.trans (hb.mono (by have := HB.out.size; omega)))
      clear hb x0 x1 HCK
      have c0 := BL.out.c0
      have c1 := BL.out.c 1 (by omega) (by omega)
      have c2 := BL.out.c 2 (by omega) (by omega)
      have c3 := BL.out.c 3 (by omega) (by omega)
      have x0 := cell_of BX.out 0 rfl
      have x1 := cell_of BX.out 1 rfl
      go_wp2_with fail
      go_ret
      exact AddPost.no ADD.out (by decide) HB.out
    · have t1 : ((n : Int) == 64) = false := by rw [beq_eq_false_iff_ne]; omega
      have t1' : (n == 64) = false := by rw [beq_eq_false_iff_ne]; omega
      obtain ⟨q3, hq3⟩ : ∃ q3, cmp (bst l).last k = q3 := ⟨_, rfl⟩
      obtain ⟨L, hL⟩ : ∃ L, (bst l).last = L := ⟨_, rfl⟩
      rw [hL] at hq3
      by_cases hcmp : 0 < n ∧ 0 ≤ q3
      · have ADD := Lib.hid (addE_cmp (l := l) hqc (by omega) (by rw [hn, hL]; show 0 < n ∧ 0 ≤ cmp L k; rw [hq3]; exact hcmp))
        obtain ⟨z1, z2⟩ := hcmp
        have t2 : decide ((n : Int) > 0) = true := decide_eq_true (by omega)
        have t3 : decide (0 < n) = true := decide_eq_true z1
        have t4 : decide (q3 ≥ 0) = true := decide_eq_true z2
        have HL := Lib.hid hL
        have HQ3 := Lib.hid hq3
        clear hqc hn hL hq3 hfull
        have hb1 : Below w.heap.size w (w.alloc (.cells #[.slice ak k.length ck, .slice av x.length cv] 51)) := (Below.refl _ _).alloc (Nat.le_refl _) _
        have BX := Lib.hid (heap_new w (.cells #[.slice ak k.length ck, .slice av x.length cv] 51))
        replace BL := Lib.hid (BL.out.keep hb1)
        replace K := Lib.hid (K.out.keep hb1)
        replace X := Lib.hid (X.out.keep hb1)
        have HB := Lib.hid hb1
        clear hb1
        go_enter Tryz.func112, Tryz.ntmps112
        go_upto_region 1 with (fail)
        obtain ⟨ge, hge⟩ : ∃ z, w.heap.size = z := ⟨_, rfl⟩
        rw [hge] at BX
        have hge2 : w.heap.size ≤ ge := by omega
        have lge : g < ge := by omega
        have HGE := Lib.hid (show ¬ BlS g v ge from fun e => by have := (HIN.out ge e).2; omega)
        rw [hge] at lg ⊢
        clear hge
        generalize w.alloc (.cells #[.slice ak k.length ck, .slice av x.length cv] 51) = w1 at *
        have x0 := cell_of BX.out 0 rfl
        have x1 := cell_of BX.out 1 rfl
        go_wp2_with fail
        refine (HCK.out _).mono ?_
        rintro e w2 ⟨rfl, hb⟩
        replace BL := Lib.hid (BL.out.keep hb)
        replace K := Lib.hid (K.out.keep hb)
        replace X := Lib.hid (X.out.keep hb)
        replace BX := Lib.hid ((Stab.block BX.out).keep hb).now
        replace HB := Lib.hid (HB.out.trans (hb.mono (by have := HB.out.size; omega)))
        clear hb x0 x1 HCK
        have c0 := BL.out.c0
        have c1 := BL.out.c 1 (by omega) (by omega)
        have c2 := BL.out.c 2 (by omega) (by omega)
        have c3 := BL.out.c 3 (by omega) (by omega)
        have x0 := cell_of BX.out 0 rfl
        have x1 := cell_of BX.out 1 rfl
        obtain ⟨aL, nL, cL, hvl, zl⟩ := (BL.out.row 3 (by omega) (by omega)).slN
        have hzl : Sl Bf w2 aL nL cL L := by rw [← HL.out]; exact zl
        rw [hvl] at c3
        have HCM := Lib.hid (bcompare_any aL nL cL L ak k.length ck k)
        have ZL := Lib.hid hzl
        have CQ := Lib.hid (fun j : Nat => HQ3.out ▸ HCM.out (w2.drewN j) (ZL.out.drewN j) (K.out.drewN j))
        clear hvl zl hzl
        go_wp2_with fail
        go_quiet ((go_at_call 53; exact Calls.quiet_of_drw ((CQ.out _).mono fun _ _ h => ⟨h.1, Drw.of h.2.symm⟩)))
        go_wp2_with fail
        go_ret
        exact AddPost.no ADD.out (by decide) (keep_drewN HB.out _)
      · have ADD := Lib.hid (addE_ok (l := l) hqc (by omega) (by rw [hn, hL]; show ¬ (0 < n ∧ 0 ≤ cmp L k); rw [hq3]; exact hcmp))
        by_cases h0 : n = 0
        · have h8 : n % 8 = 0 := by omega
          have HL := Lib.hid hL
          have HQ3 := Lib.hid hq3
          have t2 : decide ((n : Int) > 0) = false := decide_eq_false (by omega)
          have t3 : decide (0 < n) = false := decide_eq_false (by omega)
          have t5 : ((n : Int) % 8 == 0) = true := by rw [beq_iff_eq]; omega
          have t6 : (n % 8 == 0) = true := by rw [beq_iff_eq]; omega
          have CHK := Lib.hid (chk_zero hqc)
          have HNN := Lib.hid hn
          have HN8 := Lib.hid h8
          clear hqc hn hL hq3 hfull hcmp h8 h0
          have hb1 : Below w.heap.size w (w.alloc (.cells #[.slice ak k.length ck, .slice av x.length cv] 51)) := (Below.refl _ _).alloc (Nat.le_refl _) _
          have BX := Lib.hid (heap_new w (.cells #[.slice ak k.length ck, .slice av x.length cv] 51))
          replace BL := Lib.hid (BL.out.keep hb1)
          replace K := Lib.hid (K.out.keep hb1)
          replace X := Lib.hid (X.out.keep hb1)
          have HB := Lib.hid hb1
          clear hb1
          go_enter Tryz.func112, Tryz.ntmps112
          go_upto_region 1 with (fail)
          obtain ⟨ge, hge⟩ : ∃ z, w.heap.size = z := ⟨_, rfl⟩
          rw [hge] at BX
          have hge2 : w.heap.size ≤ ge := by omega
          have lge : g < ge := by omega
          have HGE := Lib.hid (show ¬ BlS g v ge from fun e => by have := (HIN.out ge e).2; omega)
          rw [hge] at lg ⊢
          clear hge
          generalize w.alloc (.cells #[.slice ak k.length ck, .slice av x.length cv] 51) = w1 at *
          have x0 := cell_of BX.out 0 rfl
          have x1 := cell_of BX.out 1 rfl
          go_wp2_with fail
          refine (HCK.out _).mono ?_
          rintro e w2 ⟨rfl, hb⟩
          replace BL := Lib.hid (BL.out.keep hb)
          replace K := Lib.hid (K.out.keep hb)
          replace X := Lib.hid (X.out.keep hb)
          replace BX := Lib.hid ((Stab.block BX.out).keep hb).now
          replace HB := Lib.hid (HB.out.trans (hb.mono (by have := HB.out.size; omega)))
          clear hb x0 x1 HCK
          have c0 := BL.out.c0
          have c1 := BL.out.c 1 (by omega) (by omega)
          have c2 := BL.out.c 2 (by omega) (by omega)
          have c3 := BL.out.c 3 (by omega) (by omega)
          have x0 := cell_of BX.out 0 rfl
          have x1 := cell_of BX.out 1 rfl
          obtain ⟨a1, n1, k1, hv1, z1⟩ := (BL.out.row 1 (by omega) (by omega)).slN
          obtain ⟨a2, n2, k2, hv2, z2⟩ := (BL.out.row 2 (by omega) (by omega)).slN
          obtain ⟨aL, nL, cL, hvl, zl⟩ := (BL.out.row 3 (by omega) (by omega)).slN
          have hzl : Sl Bf w2 aL nL cL L := by rw [← HL.out]; exact zl
          have l1 : (bst l).body.length = n1 := z1.len
          have l2 : (bst l).tab.length = n2 := z2.len
          have b1 : n1 ≤ 22400 := by have := BLE.out; have := HNN.out; omega
          have b2 : n2 ≤ 128 := by have := BLE.out; have := HNN.out; omega
          rw [hvl] at c3
          rw [hv1] at c1
          rw [hv2] at c2
          have HV1 := Lib.hid hv1
          have HV2 := Lib.hid hv2
          have HVL := Lib.hid hvl
          have Z1 := Lib.hid l1
          have Z2 := Lib.hid l2
          have ZL := Lib.hid hzl
          clear hvl zl hzl hv1 hv2 z1 z2 l1 l2
          go_wp2_with fail
          go_quiet (fail)
          replace BL := Lib.hid (BL.out.drewN nq)
          replace K := Lib.hid (K.out.drewN nq)
          replace X := Lib.hid (X.out.drewN nq)
          replace BX : Hid ((w2.drewN nq).heap[ge]? = _) := BX
          replace HB := Lib.hid (keep_drewN HB.out nq)
          replace ZL := Lib.hid (ZL.out.drewN nq)
          generalize w2.drewN nq = w3 at *
          clear c0 c1 c2 c3 x0 x1
          have lge3 : ge < w3.heap.size := (Array.getElem?_eq_some_iff.1 BX.out).1
          have hlo : lo ≤ w3.heap.size := by have := BL.out.low; have := BL.out.lt; omega
          obtain ⟨TT, hTT⟩ : ∃ T, (bst l).tab = T := ⟨_, rfl⟩
          obtain ⟨BB, hBB⟩ : ∃ T, (bst l).body = T := ⟨_, rfl⟩
          rw [hTT] at Z2
          rw [hBB] at Z1
          have hrt : OwT fB w3 lo 5 (.slice a2 n2 k2) TT := by rw [← HV2.out, ← hTT]; exact BL.out.row 2 (by omega) (by omega)
          have RT := Lib.hid hrt
          have HTT := Lib.hid hTT
          have HBB := Lib.hid hBB
          have TU := Lib.hid (Turns.of_below (S := BlS g v) HB.out)
          have BS := Lib.hid (show ∀ j, BlS g v j → BlS g v j ∨ ge < j from fun j h => .inl h)
          clear hrt hTT hBB HB
          have c0 := BL.out.c0
          have c1 := BL.out.c 1 (by omega) (by omega)
          have c2 := BL.out.c 2 (by omega) (by omega)
          have c3 := BL.out.c 3 (by omega) (by omega)
          rw [HV1.out] at c1
          rw [HV2.out] at c2
          rw [HVL.out] at c3
          have x0 := cell_of BX.out 0 rfl
          have x1 := cell_of BX.out 1 rfl
          have MK := Lib.hid (show (#[.int .u8 (((n1 : Int) + 1) % 256), .int .u8 (((n1 : Int) + 1) / 256)] : Array Value).toList = ([UInt8.ofNat (n1 + 1), UInt8.ofNat ((n1 + 1) / 256)] : List UInt8).map Bf from bmark_cells n1 (by omega))
          go_wp2_with (at_builtin; refine wpList_appT eltTB rfl (.tmp 56) (.tmp 62) rfl lo _ TT (by rfl) (RT.out.alloc _) _ 2 2 [UInt8.ofNat (n1 + 1), UInt8.ofNat ((n1 + 1) / 256)] (by rfl) (Sl.lit _ _ _ _ _ rfl MK.out).toT (by rw [Z2.out]; unfold maxLen; omega) (by rw [Z2.out]; omega) (Nat.le_trans hlo (by simp)) (TT ++ [UInt8.ofNat (n1 + 1), UInt8.ofNat ((n1 + 1) / 256)]) rfl ?_; intro v6 w6 h6 hg6 hv6 hb6; obtain ⟨a6, n6, k6, rfl, z6⟩ := h6.slN; obtain ⟨cc2, ff2, hBL6, _, hT6, hS6⟩ := BL.out.app 2 (by omega) (by omega) HV2.out ((Below.refl _ w3).alloc (Nat.le_refl _) _) hg6 h6 hv6; have HBL6 := Lib.hid hBL6; have HT6 := Lib.hid hT6; have HS6 := Lib.hid hS6; clear hBL6 hT6 hS6 h6 hg6 hv6 hb6 z6 c0 c1 c2 c3 x0 x1)
          have sz6 : w3.heap.size ≤ (w6.setCell ⟨g, 2, none⟩ (.slice a6 n6 k6)).heap.size := HT6.out.size
          have PV := Lib.hid (show Sl Bf (w6.setCell ⟨g, 2, none⟩ (.slice a6 n6 k6)) none 0 0 ([] : List UInt8) from Sl.nil _ _)
          have hg8 : bP n L = [] := by unfold bP; rw [if_pos HN8.out]
          have hm8 : bMark n (n1 + 1) = [UInt8.ofNat (n1 + 1), UInt8.ofNat ((n1 + 1) / 256)] := by unfold bMark; rw [if_pos HN8.out]
          clear cc2 ff2 MK RT
          have HG8 := Lib.hid hg8
          have HM8 := Lib.hid hm8
          clear hg8 hm8
          replace BX : Hid ((w6.setCell ⟨g, 2, none⟩ (.slice a6 n6 k6)).heap[ge]? = _) := Lib.hid (HT6.out.heap BX.out (fun e => (BS.out ge e).elim HGE.out (fun h => by omega)))
          replace K := Lib.hid (K.out.turns HT6.out (fun b o ha hn e => (BS.out b e).elim (F1.out b o ha hn).1 (fun h => by have := (F1.out b o ha hn).2; omega)))
          replace X := Lib.hid (X.out.turns HT6.out (fun b o ha hn e => (BS.out b e).elim (F2.out b o ha hn).1 (fun h => by have := (F2.out b o ha hn).2; omega)))
          replace TU := Lib.hid (TU.out.trans HT6.out (fun j hj e => (BS.out j e).elim id (fun h => by omega)))
          replace BS : Hid (∀ j, BlS g (upd v 2 (.slice a6 n6 k6)) j → BlS g v j ∨ ge < j) := Lib.hid (fun j h => (HS6.out j h).elim (BS.out j) (fun h => .inr (by omega)))
          replace BL := HBL6
          clear HT6 HS6 HBL6 ZL
          go_upto_region 13 with (fail)
          generalize (w6.setCell ⟨g, 2, none⟩ (.slice a6 n6 k6)) = w7 at *
          clear sz6
          have hbl := BL.out
          have c1 : w7.cell? ⟨g, 1, none⟩ = some (.slice a1 n1 k1) := by rw [← HV1.out]; exact hbl.c 1 (by omega) (by omega)
          have x0 := cell_of BX.out 0 rfl
          have x1 := cell_of BX.out 1 rfl
          have hr1 : OwT fB w7 lo 5 (.slice a1 n1 k1) BB := by rw [← HV1.out, ← HBB.out]; exact hbl.row 1 (by omega) (by omega)
          have R1 := Lib.hid hr1.drew
          have hlo7 : lo ≤ w7.heap.size := by have := hbl.low; have := hbl.lt; omega
          have PB := Lib.hid (pbytes_any none 0 0 ([] : List UInt8) ak k.length ck k av x.length cv x w7.drew (by omega) (by have := BLE.out; have := CHK.out; omega) PV.out.drew K.out.drew X.out.drew)
          obtain ⟨eb, heb⟩ : ∃ eb, ebytes ([] : List UInt8) (k, x) = eb := ⟨_, rfl⟩
          have hebl : eb.length ≤ 350 := by
            have hck := CHK.out
            have he2 : eb.length ≤ 30 + k.length + x.length := by rw [← heb]; exact ebytes_le ([] : List UInt8) (k, x) (by show k.length + x.length ≤ _; omega)
            omega
          rw [heb] at PB
          have HEB := Lib.hid heb
          clear hbl hr1 heb
          go_region_law (first
            | (refine step_appT eltTB rfl (.tmp 70) (.tmp 73) rfl lo (.slice a1 n1 k1) BB (by simp [Act.eval]) R8.out a8 eb.length k8 eb (by simp [Act.eval]) Z8.out.toT (by rw [Z1.out]; unfold maxLen; omega) (by rw [Z1.out]; omega) (by omega) (BB ++ eb) rfl ?_; intro v9 w9 h9 hg9 hv9 hb9; obtain ⟨a9, n9, k9, rfl, z9⟩ := h9.slN; obtain ⟨cc1, ff1, hBL9, hU9, hT9, hS9⟩ := BL.out.app 1 (by omega) (by omega) (show upd v 2 (.slice a6 n6 k6) 1 = _ from HV1.out) H8.out hg9 h9 hv9; have HBL9 := Lib.hid hBL9; have HT9 := Lib.hid hT9; have HS9 := Lib.hid hS9; have e1 := cell_of (hU9.heap BX.out (fun e => (BS.out ge e).elim HGE.out (fun h => by omega))) 0 rfl; have e2 := cell_of (hU9.heap BX.out (fun e => (BS.out ge e).elim HGE.out (fun h => by omega))) 1 rfl; clear hBL9 hU9 hT9 hS9 h9 hg9 hv9 hb9 z9)
            | (go_simp; go_at_call 150; refine PB.out.mono ?_; rintro e w8 ⟨xb, rfl, hob, hb8⟩; obtain ⟨a8, n8, k8, rfl, z8⟩ := hob.slN; obtain rfl : eb.length = n8 := z8.len; have Z8 := Lib.hid z8; have H8 : Hid (Below w7.heap.size w7 w8) := Lib.hid (((Below.refl _ _).drew).trans hb8); have d1 : w8.cell? ⟨g, 1, none⟩ = some (.slice a1 n1 k1) := (World.cell?_of_block (H8.out.block _ (cell_lt c1))).trans c1; have d2 : w8.cell? ⟨ge, 0, none⟩ = some (.slice ak k.length ck) := (World.cell?_of_block (H8.out.block _ (cell_lt x0))).trans x0; have d3 : w8.cell? ⟨ge, 1, none⟩ = some (.slice av x.length cv) := (World.cell?_of_block (H8.out.block _ (cell_lt x1))).trans x1; have R8 := Lib.hid (R1.out.keep hb8); have l8 := H8.out.size; clear hob hb8 z8 PB))
          all_goals
            have sz9 : w7.heap.size ≤ (w9.setCell ⟨g, 1, none⟩ (.slice a9 n9 k9)).heap.size := HT9.out.size
            replace BX : Hid ((w9.setCell ⟨g, 1, none⟩ (.slice a9 n9 k9)).heap[ge]? = _) := Lib.hid (HT9.out.heap BX.out (fun e => (BS.out ge e).elim HGE.out (fun h => by omega)))
            replace K := Lib.hid (K.out.turns HT9.out (fun b o ha hn e => (BS.out b e).elim (F1.out b o ha hn).1 (fun h => by have := (F1.out b o ha hn).2; omega)))
            replace TU := Lib.hid (TU.out.trans HT9.out (fun j hj e => (BS.out j e).elim id (fun h => by omega)))
            have lge7 : ge < w7.heap.size := cell_lt x0
            replace BS : Hid (∀ j, BlS g (upd (upd v 2 (.slice a6 n6 k6)) 1 (.slice a9 n9 k9)) j → BlS g v j ∨ ge < j) := Lib.hid (fun j h => (HS9.out j h).elim (BS.out j) (fun h => .inr (by omega)))
            replace BL := HBL9
            clear HT9 HS9 HBL9 Z8 R8 H8 R1 PV X d1 d2 d3 c1 x0 x1 e1 e2 cc1 ff1
            go_upto_region 14 with (fail)
            generalize w9.setCell ⟨g, 1, none⟩ (.slice a9 n9 k9) = w10 at *
            have x0 := cell_of BX.out 0 rfl
            have hlo10 : lo ≤ w10.heap.size := by omega
            go_wp2_with fail
            refine (clone_any ak k.length ck k w10 (by omega) K.out).mono ?_
            rintro e w11 ⟨xc, rfl, hoc, hb11⟩
            obtain ⟨a12, n12, k12, rfl, z12⟩ := hoc.slN
            obtain ⟨cc3, ff3, hBL12, _, hT12, hS12⟩ := BL.out.lay 3 (by omega) (by omega) (vk := .slice aL nL cL) (show (upd (upd v 2 (.slice a6 n6 k6)) 1 (.slice a9 n9 k9)) 3 = _ from HVL.out) (Turns.of_below hb11) (hoc.base hlo10) (fun j hj => .inr (hoc.lt j hj).1)
            have sz12 : w10.heap.size ≤ (w11.setCell ⟨g, 3, none⟩ (.slice a12 n12 k12)).heap.size := hT12.size
            replace TU := Lib.hid (TU.out.trans hT12 (fun j hj e => (BS.out j e).elim id (fun h => by omega)))
            have lge10 : ge < w10.heap.size := cell_lt x0
            replace BS : Hid (∀ j, BlS g (upd (upd (upd v 2 (.slice a6 n6 k6)) 1 (.slice a9 n9 k9)) 3 (.slice a12 n12 k12)) j → BlS g v j ∨ ge < j) := Lib.hid (fun j h => (hS12 j h).elim (BS.out j) (fun h => .inr (by omega)))
            replace BL := Lib.hid hBL12
            clear hoc hb11 z12 hBL12 hT12 hS12 x0 BX K
            go_upto_region 15 with (fail)
            generalize w11.setCell ⟨g, 3, none⟩ (.slice a12 n12 k12) = w12 at *
            clear cc3 ff3
            have c0 := BL.out.c0
            have f0 := BL.out.free 0
            go_wp2_with fail
            go_ret
            refine ⟨by rw [ADD.out]; rfl, fun e => absurd ADD.out e, fun _ => ⟨upd (upd (upd v 2 (.slice a6 n6 k6)) 1 (.slice a9 n9 k9)) 3 (.slice a12 n12 k12), (BL.out.num (n + 1)).as (by rw [List.length_append, HNN.out]; rfl) (fun i i1 i3 => ?_), TU.out.trans (Turns.set (S := BlS g v) w12 (.inl rfl) _) (fun _ _ e => e), fun j hj => (BS.out j hj).imp id (fun h => by omega)⟩⟩
            rw [rows_bAdd]
            rcases (by omega : i = 1 ∨ i = 2 ∨ i = 3) with e | e | e <;> subst e
            · show BB ++ eb = _
              rw [if_pos rfl, HBB.out, HNN.out, HL.out, HG8.out, HEB.out]
            · show TT ++ [UInt8.ofNat (n1 + 1), UInt8.ofNat ((n1 + 1) / 256)] = _
              rw [if_neg (by omega), if_pos rfl, HTT.out, HBB.out, Z1.out, HNN.out, HM8.out]
            · show k = _
              rw [if_neg (by omega), if_neg (by omega)]
        · have hq4 : ¬ 0 ≤ q3 := fun e => hcmp ⟨by omega, e⟩
          by_cases h8 : n % 8 = 0
          · skip
            have HL := Lib.hid hL
            have HQ3 := Lib.hid hq3
            have t2 : decide ((n : Int) > 0) = true := decide_eq_true (by omega)
            have t3 : decide (0 < n) = true := decide_eq_true (by omega)
            have t4 : decide (q3 ≥ 0) = false := decide_eq_false (by omega)
            have t5 : ((n : Int) % 8 == 0) = true := by rw [beq_iff_eq]; omega
            have t6 : (n % 8 == 0) = true := by rw [beq_iff_eq]; omega
            have CHK := Lib.hid (chk_zero hqc)
            have HNN := Lib.hid hn
            have HN8 := Lib.hid h8
            clear hqc hn hL hq3 hfull hcmp h8 hq4
            have hb1 : Below w.heap.size w (w.alloc (.cells #[.slice ak k.length ck, .slice av x.length cv] 51)) := (Below.refl _ _).alloc (Nat.le_refl _) _
            have BX := Lib.hid (heap_new w (.cells #[.slice ak k.length ck, .slice av x.length cv] 51))
            replace BL := Lib.hid (BL.out.keep hb1)
            replace K := Lib.hid (K.out.keep hb1)
            replace X := Lib.hid (X.out.keep hb1)
            have HB := Lib.hid hb1
            clear hb1
            go_enter Tryz.func112, Tryz.ntmps112
            go_upto_region 1 with (fail)
            obtain ⟨ge, hge⟩ : ∃ z, w.heap.size = z := ⟨_, rfl⟩
            rw [hge] at BX
            have hge2 : w.heap.size ≤ ge := by omega
            have lge : g < ge := by omega
            have HGE := Lib.hid (show ¬ BlS g v ge from fun e => by have := (HIN.out ge e).2; omega)
            rw [hge] at lg ⊢
            clear hge
            generalize w.alloc (.cells #[.slice ak k.length ck, .slice av x.length cv] 51) = w1 at *
            have x0 := cell_of BX.out 0 rfl
            have x1 := cell_of BX.out 1 rfl
            go_wp2_with fail
            refine (HCK.out _).mono ?_
            rintro e w2 ⟨rfl, hb⟩
            replace BL := Lib.hid (BL.out.keep hb)
            replace K := Lib.hid (K.out.keep hb)
            replace X := Lib.hid (X.out.keep hb)
            replace BX := Lib.hid ((Stab.block BX.out).keep hb).now
            replace HB := Lib.hid (HB.out.trans (hb.mono (by have := HB.out.size; omega)))
            clear hb x0 x1 HCK
            have c0 := BL.out.c0
            have c1 := BL.out.c 1 (by omega) (by omega)
            have c2 := BL.out.c 2 (by omega) (by omega)
            have c3 := BL.out.c 3 (by omega) (by omega)
            have x0 := cell_of BX.out 0 rfl
            have x1 := cell_of BX.out 1 rfl
            obtain ⟨a1, n1, k1, hv1, z1⟩ := (BL.out.row 1 (by omega) (by omega)).slN
            obtain ⟨a2, n2, k2, hv2, z2⟩ := (BL.out.row 2 (by omega) (by omega)).slN
            obtain ⟨aL, nL, cL, hvl, zl⟩ := (BL.out.row 3 (by omega) (by omega)).slN
            have hzl : Sl Bf w2 aL nL cL L := by rw [← HL.out]; exact zl
            have l1 : (bst l).body.length = n1 := z1.len
            have l2 : (bst l).tab.length = n2 := z2.len
            have b1 : n1 ≤ 22400 := by have := BLE.out; have := HNN.out; omega
            have b2 : n2 ≤ 128 := by have := BLE.out; have := HNN.out; omega
            rw [hvl] at c3
            rw [hv1] at c1
            rw [hv2] at c2
            have HV1 := Lib.hid hv1
            have HV2 := Lib.hid hv2
            have HVL := Lib.hid hvl
            have Z1 := Lib.hid l1
            have Z2 := Lib.hid l2
            have ZL := Lib.hid hzl
            have HCM := Lib.hid (bcompare_any aL nL cL L ak k.length ck k)
            have CQ := Lib.hid (fun j : Nat => HQ3.out ▸ HCM.out (w2.drewN j) (ZL.out.drewN j) (K.out.drewN j))
            clear hvl zl hzl hv1 hv2 z1 z2 l1 l2
            go_wp2_with fail
            go_quiet ((go_at_call 53; exact Calls.quiet_of_drw ((CQ.out _).mono fun _ _ h => ⟨h.1, Drw.of h.2.symm⟩)))
            clear CQ HCM
            replace BL := Lib.hid (BL.out.drewN nq)
            replace K := Lib.hid (K.out.drewN nq)
            replace X := Lib.hid (X.out.drewN nq)
            replace BX : Hid ((w2.drewN nq).heap[ge]? = _) := BX
            replace HB := Lib.hid (keep_drewN HB.out nq)
            replace ZL := Lib.hid (ZL.out.drewN nq)
            generalize w2.drewN nq = w3 at *
            clear c0 c1 c2 c3 x0 x1
            have lge3 : ge < w3.heap.size := (Array.getElem?_eq_some_iff.1 BX.out).1
            have hlo : lo ≤ w3.heap.size := by have := BL.out.low; have := BL.out.lt; omega
            obtain ⟨TT, hTT⟩ : ∃ T, (bst l).tab = T := ⟨_, rfl⟩
            obtain ⟨BB, hBB⟩ : ∃ T, (bst l).body = T := ⟨_, rfl⟩
            rw [hTT] at Z2
            rw [hBB] at Z1
            have hrt : OwT fB w3 lo 5 (.slice a2 n2 k2) TT := by rw [← HV2.out, ← hTT]; exact BL.out.row 2 (by omega) (by omega)
            have RT := Lib.hid hrt
            have HTT := Lib.hid hTT
            have HBB := Lib.hid hBB
            have TU := Lib.hid (Turns.of_below (S := BlS g v) HB.out)
            have BS := Lib.hid (show ∀ j, BlS g v j → BlS g v j ∨ ge < j from fun j h => .inl h)
            clear hrt hTT hBB HB
            have c0 := BL.out.c0
            have c1 := BL.out.c 1 (by omega) (by omega)
            have c2 := BL.out.c 2 (by omega) (by omega)
            have c3 := BL.out.c 3 (by omega) (by omega)
            rw [HV1.out] at c1
            rw [HV2.out] at c2
            rw [HVL.out] at c3
            have x0 := cell_of BX.out 0 rfl
            have x1 := cell_of BX.out 1 rfl
            have MK := Lib.hid (show (#[.int .u8 (((n1 : Int) + 1) % 256), .int .u8 (((n1 : Int) + 1) / 256)] : Array Value).toList = ([UInt8.ofNat (n1 + 1), UInt8.ofNat ((n1 + 1) / 256)] : List UInt8).map Bf from bmark_cells n1 (by omega))
            go_wp2_with (at_builtin; refine wpList_appT eltTB rfl (.tmp 56) (.tmp 62) rfl lo _ TT (by rfl) (RT.out.alloc _) _ 2 2 [UInt8.ofNat (n1 + 1), UInt8.ofNat ((n1 + 1) / 256)] (by rfl) (Sl.lit _ _ _ _ _ rfl MK.out).toT (by rw [Z2.out]; unfold maxLen; omega) (by rw [Z2.out]; omega) (Nat.le_trans hlo (by simp)) (TT ++ [UInt8.ofNat (n1 + 1), UInt8.ofNat ((n1 + 1) / 256)]) rfl ?_; intro v6 w6 h6 hg6 hv6 hb6; obtain ⟨a6, n6, k6, rfl, z6⟩ := h6.slN; obtain ⟨cc2, ff2, hBL6, _, hT6, hS6⟩ := BL.out.app 2 (by omega) (by omega) HV2.out ((Below.refl _ w3).alloc (Nat.le_refl _) _) hg6 h6 hv6; have HBL6 := Lib.hid hBL6; have HT6 := Lib.hid hT6; have HS6 := Lib.hid hS6; clear hBL6 hT6 hS6 h6 hg6 hv6 hb6 z6 c0 c1 c2 c3 x0 x1)
            have sz6 : w3.heap.size ≤ (w6.setCell ⟨g, 2, none⟩ (.slice a6 n6 k6)).heap.size := HT6.out.size
            have PV := Lib.hid (show Sl Bf (w6.setCell ⟨g, 2, none⟩ (.slice a6 n6 k6)) none 0 0 ([] : List UInt8) from Sl.nil _ _)
            have hg8 : bP n L = [] := by unfold bP; rw [if_pos HN8.out]
            have hm8 : bMark n (n1 + 1) = [UInt8.ofNat (n1 + 1), UInt8.ofNat ((n1 + 1) / 256)] := by unfold bMark; rw [if_pos HN8.out]
            clear cc2 ff2 MK RT
            have HG8 := Lib.hid hg8
            have HM8 := Lib.hid hm8
            clear hg8 hm8
            replace BX : Hid ((w6.setCell ⟨g, 2, none⟩ (.slice a6 n6 k6)).heap[ge]? = _) := Lib.hid (HT6.out.heap BX.out (fun e => (BS.out ge e).elim HGE.out (fun h => by omega)))
            replace K := Lib.hid (K.out.turns HT6.out (fun b o ha hn e => (BS.out b e).elim (F1.out b o ha hn).1 (fun h => by have := (F1.out b o ha hn).2; omega)))
            replace X := Lib.hid (X.out.turns HT6.out (fun b o ha hn e => (BS.out b e).elim (F2.out b o ha hn).1 (fun h => by have := (F2.out b o ha hn).2; omega)))
            replace TU := Lib.hid (TU.out.trans HT6.out (fun j hj e => (BS.out j e).elim id (fun h => by omega)))
            replace BS : Hid (∀ j, BlS g (upd v 2 (.slice a6 n6 k6)) j → BlS g v j ∨ ge < j) := Lib.hid (fun j h => (HS6.out j h).elim (BS.out j) (fun h => .inr (by omega)))
            replace BL := HBL6
            clear HT6 HS6 HBL6 ZL
            go_upto_region 13 with (fail)
            generalize (w6.setCell ⟨g, 2, none⟩ (.slice a6 n6 k6)) = w7 at *
            clear sz6
            have hbl := BL.out
            have c1 : w7.cell? ⟨g, 1, none⟩ = some (.slice a1 n1 k1) := by rw [← HV1.out]; exact hbl.c 1 (by omega) (by omega)
            have x0 := cell_of BX.out 0 rfl
            have x1 := cell_of BX.out 1 rfl
            have hr1 : OwT fB w7 lo 5 (.slice a1 n1 k1) BB := by rw [← HV1.out, ← HBB.out]; exact hbl.row 1 (by omega) (by omega)
            have R1 := Lib.hid hr1.drew
            have hlo7 : lo ≤ w7.heap.size := by have := hbl.low; have := hbl.lt; omega
            have PB := Lib.hid (pbytes_any none 0 0 ([] : List UInt8) ak k.length ck k av x.length cv x w7.drew (by omega) (by have := BLE.out; have := CHK.out; omega) PV.out.drew K.out.drew X.out.drew)
            obtain ⟨eb, heb⟩ : ∃ eb, ebytes ([] : List UInt8) (k, x) = eb := ⟨_, rfl⟩
            have hebl : eb.length ≤ 350 := by
              have hck := CHK.out
              have he2 : eb.length ≤ 30 + k.length + x.length := by rw [← heb]; exact ebytes_le ([] : List UInt8) (k, x) (by show k.length + x.length ≤ _; omega)
              omega
            rw [heb] at PB
            have HEB := Lib.hid heb
            clear hbl hr1 heb
            go_region_law (first
              | (refine step_appT eltTB rfl (.tmp 70) (.tmp 73) rfl lo (.slice a1 n1 k1) BB (by simp [Act.eval]) R8.out a8 eb.length k8 eb (by simp [Act.eval]) Z8.out.toT (by rw [Z1.out]; unfold maxLen; omega) (by rw [Z1.out]; omega) (by omega) (BB ++ eb) rfl ?_; intro v9 w9 h9 hg9 hv9 hb9; obtain ⟨a9, n9, k9, rfl, z9⟩ := h9.slN; obtain ⟨cc1, ff1, hBL9, hU9, hT9, hS9⟩ := BL.out.app 1 (by omega) (by omega) (show upd v 2 (.slice a6 n6 k6) 1 = _ from HV1.out) H8.out hg9 h9 hv9; have HBL9 := Lib.hid hBL9; have HT9 := Lib.hid hT9; have HS9 := Lib.hid hS9; have e1 := cell_of (hU9.heap BX.out (fun e => (BS.out ge e).elim HGE.out (fun h => by omega))) 0 rfl; have e2 := cell_of (hU9.heap BX.out (fun e => (BS.out ge e).elim HGE.out (fun h => by omega))) 1 rfl; clear hBL9 hU9 hT9 hS9 h9 hg9 hv9 hb9 z9)
              | (go_simp; go_at_call 150; refine PB.out.mono ?_; rintro e w8 ⟨xb, rfl, hob, hb8⟩; obtain ⟨a8, n8, k8, rfl, z8⟩ := hob.slN; obtain rfl : eb.length = n8 := z8.len; have Z8 := Lib.hid z8; have H8 : Hid (Below w7.heap.size w7 w8) := Lib.hid (((Below.refl _ _).drew).trans hb8); have d1 : w8.cell? ⟨g, 1, none⟩ = some (.slice a1 n1 k1) := (World.cell?_of_block (H8.out.block _ (cell_lt c1))).trans c1; have d2 : w8.cell? ⟨ge, 0, none⟩ = some (.slice ak k.length ck) := (World.cell?_of_block (H8.out.block _ (cell_lt x0))).trans x0; have d3 : w8.cell? ⟨ge, 1, none⟩ = some (.slice av x.length cv) := (World.cell?_of_block (H8.out.block _ (cell_lt x1))).trans x1; have R8 := Lib.hid (R1.out.keep hb8); have l8 := H8.out.size; clear hob hb8 z8 PB))
            all_goals
              have sz9 : w7.heap.size ≤ (w9.setCell ⟨g, 1, none⟩ (.slice a9 n9 k9)).heap.size := HT9.out.size
              replace BX : Hid ((w9.setCell ⟨g, 1, none⟩ (.slice a9 n9 k9)).heap[ge]? = _) := Lib.hid (HT9.out.heap BX.out (fun e => (BS.out ge e).elim HGE.out (fun h => by omega)))
              replace K := Lib.hid (K.out.turns HT9.out (fun b o ha hn e => (BS.out b e).elim (F1.out b o ha hn).1 (fun h => by have := (F1.out b o ha hn).2; omega)))
              replace TU := Lib.hid (TU.out.trans HT9.out (fun j hj e => (BS.out j e).elim id (fun h => by omega)))
              have lge7 : ge < w7.heap.size := cell_lt x0
              replace BS : Hid (∀ j, BlS g (upd (upd v 2 (.slice a6 n6 k6)) 1 (.slice a9 n9 k9)) j → BlS g v j ∨ ge < j) := Lib.hid (fun j h => (HS9.out j h).elim (BS.out j) (fun h => .inr (by omega)))
              replace BL := HBL9
              clear HT9 HS9 HBL9 Z8 R8 H8 R1 PV X d1 d2 d3 c1 x0 x1 e1 e2 cc1 ff1
              go_upto_region 14 with (fail)
              generalize w9.setCell ⟨g, 1, none⟩ (.slice a9 n9 k9) = w10 at *
              have x0 := cell_of BX.out 0 rfl
              have hlo10 : lo ≤ w10.heap.size := by omega
              go_wp2_with fail
              refine (clone_any ak k.length ck k w10 (by omega) K.out).mono ?_
              rintro e w11 ⟨xc, rfl, hoc, hb11⟩
              obtain ⟨a12, n12, k12, rfl, z12⟩ := hoc.slN
              obtain ⟨cc3, ff3, hBL12, _, hT12, hS12⟩ := BL.out.lay 3 (by omega) (by omega) (vk := .slice aL nL cL) (show (upd (upd v 2 (.slice a6 n6 k6)) 1 (.slice a9 n9 k9)) 3 = _ from HVL.out) (Turns.of_below hb11) (hoc.base hlo10) (fun j hj => .inr (hoc.lt j hj).1)
              have sz12 : w10.heap.size ≤ (w11.setCell ⟨g, 3, none⟩ (.slice a12 n12 k12)).heap.size := hT12.size
              replace TU := Lib.hid (TU.out.trans hT12 (fun j hj e => (BS.out j e).elim id (fun h => by omega)))
              have lge10 : ge < w10.heap.size := cell_lt x0
              replace BS : Hid (∀ j, BlS g (upd (upd (upd v 2 (.slice a6 n6 k6)) 1 (.slice a9 n9 k9)) 3 (.slice a12 n12 k12)) j → BlS g v j ∨ ge < j) := Lib.hid (fun j h => (hS12 j h).elim (BS.out j) (fun h => .inr (by omega)))
              replace BL := Lib.hid hBL12
              clear hoc hb11 z12 hBL12 hT12 hS12 x0 BX K
              go_upto_region 15 with (fail)
              generalize w11.setCell ⟨g, 3, none⟩ (.slice a12 n12 k12) = w12 at *
              clear cc3 ff3
              have c0 := BL.out.c0
              have f0 := BL.out.free 0
              go_wp2_with fail
              go_ret
              refine ⟨by rw [ADD.out]; rfl, fun e => absurd ADD.out e, fun _ => ⟨upd (upd (upd v 2 (.slice a6 n6 k6)) 1 (.slice a9 n9 k9)) 3 (.slice a12 n12 k12), (BL.out.num (n + 1)).as (by rw [List.length_append, HNN.out]; rfl) (fun i i1 i3 => ?_), TU.out.trans (Turns.set (S := BlS g v) w12 (.inl rfl) _) (fun _ _ e => e), fun j hj => (BS.out j hj).imp id (fun h => by omega)⟩⟩
              rw [rows_bAdd]
              rcases (by omega : i = 1 ∨ i = 2 ∨ i = 3) with e | e | e <;> subst e
              · show BB ++ eb = _
                rw [if_pos rfl, HBB.out, HNN.out, HL.out, HG8.out, HEB.out]
              · show TT ++ [UInt8.ofNat (n1 + 1), UInt8.ofNat ((n1 + 1) / 256)] = _
                rw [if_neg (by omega), if_pos rfl, HTT.out, HBB.out, Z1.out, HNN.out, HM8.out]
              · show k = _
                rw [if_neg (by omega), if_neg (by omega)]
          · skip
            have HL := Lib.hid hL
            have HQ3 := Lib.hid hq3
            have t2 : decide ((n : Int) > 0) = true := decide_eq_true (by omega)
            have t3 : decide (0 < n) = true := decide_eq_true (by omega)
            have t4 : decide (q3 ≥ 0) = false := decide_eq_false (by omega)
            have t5 : ((n : Int) % 8 == 0) = false := by rw [beq_eq_false_iff_ne]; omega
            have t6 : (n % 8 == 0) = false := by rw [beq_eq_false_iff_ne]; omega
            have CHK := Lib.hid (chk_zero hqc)
            have HNN := Lib.hid hn
            have HN8 := Lib.hid h8
            clear hqc hn hL hq3 hfull hcmp h8 hq4
            have hb1 : Below w.heap.size w (w.alloc (.cells #[.slice ak k.length ck, .slice av x.length cv] 51)) := (Below.refl _ _).alloc (Nat.le_refl _) _
            have BX := Lib.hid (heap_new w (.cells #[.slice ak k.length ck, .slice av x.length cv] 51))
            replace BL := Lib.hid (BL.out.keep hb1)
            replace K := Lib.hid (K.out.keep hb1)
            replace X := Lib.hid (X.out.keep hb1)
            have HB := Lib.hid hb1
            clear hb1
            go_enter Tryz.func112, Tryz.ntmps112
            go_upto_region 1 with (fail)
            obtain ⟨ge, hge⟩ : ∃ z, w.heap.size = z := ⟨_, rfl⟩
            rw [hge] at BX
            have hge2 : w.heap.size ≤ ge := by omega
            have lge : g < ge := by omega
            have HGE := Lib.hid (show ¬ BlS g v ge from fun e => by have := (HIN.out ge e).2; omega)
            rw [hge] at lg ⊢
            clear hge
            generalize w.alloc (.cells #[.slice ak k.length ck, .slice av x.length cv] 51) = w1 at *
            have x0 := cell_of BX.out 0 rfl
            have x1 := cell_of BX.out 1 rfl
            go_wp2_with fail
            refine (HCK.out _).mono ?_
            rintro e w2 ⟨rfl, hb⟩
            replace BL := Lib.hid (BL.out.keep hb)
            replace K := Lib.hid (K.out.keep hb)
            replace X := Lib.hid (X.out.keep hb)
            replace BX := Lib.hid ((Stab.block BX.out).keep hb).now
            replace HB := Lib.hid (HB.out.trans (hb.mono (by have := HB.out.size; omega)))
            clear hb x0 x1 HCK
            have c0 := BL.out.c0
            have c1 := BL.out.c 1 (by omega) (by omega)
            have c2 := BL.out.c 2 (by omega) (by omega)
            have c3 := BL.out.c 3 (by omega) (by omega)
            have x0 := cell_of BX.out 0 rfl
            have x1 := cell_of BX.out 1 rfl
            obtain ⟨a1, n1, k1, hv1, z1⟩ := (BL.out.row 1 (by omega) (by omega)).slN
            obtain ⟨a2, n2, k2, hv2, z2⟩ := (BL.out.row 2 (by omega) (by omega)).slN
            obtain ⟨aL, nL, cL, hvl, zl⟩ := (BL.out.row 3 (by omega) (by omega)).slN
            have hzl : Sl Bf w2 aL nL cL L := by rw [← HL.out]; exact zl
            have l1 : (bst l).body.length = n1 := z1.len
            have l2 : (bst l).tab.length = n2 := z2.len
            have b1 : n1 ≤ 22400 := by have := BLE.out; have := HNN.out; omega
            have b2 : n2 ≤ 128 := by have := BLE.out; have := HNN.out; omega
            rw [hvl] at c3
            rw [hv1] at c1
            rw [hv2] at c2
            have HV1 := Lib.hid hv1
            have HV2 := Lib.hid hv2
            have HVL := Lib.hid hvl
            have Z1 := Lib.hid l1
            have Z2 := Lib.hid l2
            have ZL := Lib.hid hzl
            have HCM := Lib.hid (bcompare_any aL nL cL L ak k.length ck k)
            have CQ := Lib.hid (fun j : Nat => HQ3.out ▸ HCM.out (w2.drewN j) (ZL.out.drewN j) (K.out.drewN j))
            clear hvl zl hzl hv1 hv2 z1 z2 l1 l2
            go_wp2_with fail
            go_quiet ((go_at_call 53; exact Calls.quiet_of_drw ((CQ.out _).mono fun _ _ h => ⟨h.1, Drw.of h.2.symm⟩)))
            clear CQ HCM
            replace BL := Lib.hid (BL.out.drewN nq)
            replace K := Lib.hid (K.out.drewN nq)
            replace X := Lib.hid (X.out.drewN nq)
            replace BX : Hid ((w2.drewN nq).heap[ge]? = _) := BX
            replace HB := Lib.hid (keep_drewN HB.out nq)
            replace ZL := Lib.hid (ZL.out.drewN nq)
            generalize w2.drewN nq = w3 at *
            clear c0 c1 c2 c3 x0 x1
            have lge3 : ge < w3.heap.size := (Array.getElem?_eq_some_iff.1 BX.out).1
            have hlo : lo ≤ w3.heap.size := by have := BL.out.low; have := BL.out.lt; omega
            obtain ⟨TT, hTT⟩ : ∃ T, (bst l).tab = T := ⟨_, rfl⟩
            obtain ⟨BB, hBB⟩ : ∃ T, (bst l).body = T := ⟨_, rfl⟩
            rw [hTT] at Z2
            rw [hBB] at Z1
            have hrt : OwT fB w3 lo 5 (.slice a2 n2 k2) TT := by rw [← HV2.out, ← hTT]; exact BL.out.row 2 (by omega) (by omega)
            have RT := Lib.hid hrt
            have HTT := Lib.hid hTT
            have HBB := Lib.hid hBB
            have TU := Lib.hid (Turns.of_below (S := BlS g v) HB.out)
            have BS := Lib.hid (show ∀ j, BlS g v j → BlS g v j ∨ ge < j from fun j h => .inl h)
            clear hrt hTT hBB HB
            have c0 := BL.out.c0
            have c1 := BL.out.c 1 (by omega) (by omega)
            have c2 := BL.out.c 2 (by omega) (by omega)
            have c3 := BL.out.c 3 (by omega) (by omega)
            rw [HV1.out] at c1
            rw [HV2.out] at c2
            rw [HVL.out] at c3
            have x0 := cell_of BX.out 0 rfl
            have x1 := cell_of BX.out 1 rfl
            have HT6 := Lib.hid (Turns.refl (BlS g v) w3)
            have HS6 := Lib.hid (show ∀ j, BlS g v j → BlS g v j ∨ w3.heap.size ≤ j from fun j h => .inl h)
            have HBL6 := Lib.hid BL.out
            have PV := ZL
            have hg8 : bP n L = L := by unfold bP; rw [if_neg HN8.out]
            have hm8 : bMark n (n1 + 1) = [] := by unfold bMark; rw [if_neg HN8.out]
            clear RT c0 c1 c2 c3 x0 x1
            have HG8 := Lib.hid hg8
            have HM8 := Lib.hid hm8
            clear hg8 hm8
            replace BX : Hid (w3.heap[ge]? = _) := Lib.hid (HT6.out.heap BX.out (fun e => (BS.out ge e).elim HGE.out (fun h => by omega)))
            replace K := Lib.hid (K.out.turns HT6.out (fun b o ha hn e => (BS.out b e).elim (F1.out b o ha hn).1 (fun h => by have := (F1.out b o ha hn).2; omega)))
            replace X := Lib.hid (X.out.turns HT6.out (fun b o ha hn e => (BS.out b e).elim (F2.out b o ha hn).1 (fun h => by have := (F2.out b o ha hn).2; omega)))
            replace TU := Lib.hid (TU.out.trans HT6.out (fun j hj e => (BS.out j e).elim id (fun h => by omega)))
            replace BS : Hid (∀ j, BlS g v j → BlS g v j ∨ ge < j) := Lib.hid (fun j h => (HS6.out j h).elim (BS.out j) (fun h => .inr (by omega)))
            replace BL := HBL6
            clear HT6 HS6 HBL6 ZL
            obtain ⟨w7, hw7⟩ : ∃ w7, w3 = w7 := ⟨_, rfl⟩
            subst hw7
            have c0 := BL.out.c0
            have c1 := BL.out.c 1 (by omega) (by omega)
            have c2 := BL.out.c 2 (by omega) (by omega)
            have c3 := BL.out.c 3 (by omega) (by omega)
            rw [HV1.out] at c1
            rw [HV2.out] at c2
            rw [HVL.out] at c3
            have x0 := cell_of BX.out 0 rfl
            have x1 := cell_of BX.out 1 rfl
            go_upto_region 13 with (fail)
            clear c0 c1 c2 c3 x0 x1
            have hbl := BL.out
            have c1 : w3.cell? ⟨g, 1, none⟩ = some (.slice a1 n1 k1) := by rw [← HV1.out]; exact hbl.c 1 (by omega) (by omega)
            have x0 := cell_of BX.out 0 rfl
            have x1 := cell_of BX.out 1 rfl
            have hr1 : OwT fB w3 lo 5 (.slice a1 n1 k1) BB := by rw [← HV1.out, ← HBB.out]; exact hbl.row 1 (by omega) (by omega)
            have R1 := Lib.hid hr1.drew
            have hlo7 : lo ≤ w3.heap.size := by have := hbl.low; have := hbl.lt; omega
            have PB := Lib.hid (pbytes_any aL nL cL L ak k.length ck k av x.length cv x w3.drew (by have h1 := PV.out.len; have h2 := BLE.out; rw [HL.out] at h2; omega) (by have := BLE.out; have := CHK.out; omega) PV.out.drew K.out.drew X.out.drew)
            obtain ⟨eb, heb⟩ : ∃ eb, ebytes L (k, x) = eb := ⟨_, rfl⟩
            have hebl : eb.length ≤ 350 := by
              have hck := CHK.out
              have he2 : eb.length ≤ 30 + k.length + x.length := by rw [← heb]; exact ebytes_le L (k, x) (by show k.length + x.length ≤ _; omega)
              omega
            rw [heb] at PB
            have HEB := Lib.hid heb
            clear hbl hr1 heb
            go_region_law (first
              | (refine step_appT eltTB rfl (.tmp 70) (.tmp 73) rfl lo (.slice a1 n1 k1) BB (by simp [Act.eval]) R8.out a8 eb.length k8 eb (by simp [Act.eval]) Z8.out.toT (by rw [Z1.out]; unfold maxLen; omega) (by rw [Z1.out]; omega) (by omega) (BB ++ eb) rfl ?_; intro v9 w9 h9 hg9 hv9 hb9; obtain ⟨a9, n9, k9, rfl, z9⟩ := h9.slN; obtain ⟨cc1, ff1, hBL9, hU9, hT9, hS9⟩ := BL.out.app 1 (by omega) (by omega) HV1.out H8.out hg9 h9 hv9; have HBL9 := Lib.hid hBL9; have HT9 := Lib.hid hT9; have HS9 := Lib.hid hS9; have e1 := cell_of (hU9.heap BX.out (fun e => (BS.out ge e).elim HGE.out (fun h => by omega))) 0 rfl; have e2 := cell_of (hU9.heap BX.out (fun e => (BS.out ge e).elim HGE.out (fun h => by omega))) 1 rfl; clear hBL9 hU9 hT9 hS9 h9 hg9 hv9 hb9 z9)
              | (go_simp; go_at_call 150; refine PB.out.mono ?_; rintro e w8 ⟨xb, rfl, hob, hb8⟩; obtain ⟨a8, n8, k8, rfl, z8⟩ := hob.slN; obtain rfl : eb.length = n8 := z8.len; have Z8 := Lib.hid z8; have H8 : Hid (Below w3.heap.size w3 w8) := Lib.hid (((Below.refl _ _).drew).trans hb8); have d1 : w8.cell? ⟨g, 1, none⟩ = some (.slice a1 n1 k1) := (World.cell?_of_block (H8.out.block _ (cell_lt c1))).trans c1; have d2 : w8.cell? ⟨ge, 0, none⟩ = some (.slice ak k.length ck) := (World.cell?_of_block (H8.out.block _ (cell_lt x0))).trans x0; have d3 : w8.cell? ⟨ge, 1, none⟩ = some (.slice av x.length cv) := (World.cell?_of_block (H8.out.block _ (cell_lt x1))).trans x1; have R8 := Lib.hid (R1.out.keep hb8); have l8 := H8.out.size; clear hob hb8 z8 PB))
            all_goals
              have sz9 : w3.heap.size ≤ (w9.setCell ⟨g, 1, none⟩ (.slice a9 n9 k9)).heap.size := HT9.out.size
              replace BX : Hid ((w9.setCell ⟨g, 1, none⟩ (.slice a9 n9 k9)).heap[ge]? = _) := Lib.hid (HT9.out.heap BX.out (fun e => (BS.out ge e).elim HGE.out (fun h => by omega)))
              replace K := Lib.hid (K.out.turns HT9.out (fun b o ha hn e => (BS.out b e).elim (F1.out b o ha hn).1 (fun h => by have := (F1.out b o ha hn).2; omega)))
              replace TU := Lib.hid (TU.out.trans HT9.out (fun j hj e => (BS.out j e).elim id (fun h => by omega)))
              have lge7 : ge < w3.heap.size := cell_lt x0
              replace BS : Hid (∀ j, BlS g (upd v 1 (.slice a9 n9 k9)) j → BlS g v j ∨ ge < j) := Lib.hid (fun j h => (HS9.out j h).elim (BS.out j) (fun h => .inr (by omega)))
              replace BL := HBL9
              clear HT9 HS9 HBL9 Z8 R8 H8 R1 PV X d1 d2 d3 c1 x0 x1 e1 e2 cc1 ff1
              go_upto_region 14 with (fail)
              generalize w9.setCell ⟨g, 1, none⟩ (.slice a9 n9 k9) = w10 at *
              have x0 := cell_of BX.out 0 rfl
              have hlo10 : lo ≤ w10.heap.size := by omega
              go_wp2_with fail
              refine (clone_any ak k.length ck k w10 (by omega) K.out).mono ?_
              rintro e w11 ⟨xc, rfl, hoc, hb11⟩
              obtain ⟨a12, n12, k12, rfl, z12⟩ := hoc.slN
              obtain ⟨cc3, ff3, hBL12, _, hT12, hS12⟩ := BL.out.lay 3 (by omega) (by omega) (vk := .slice aL nL cL) (show (upd v 1 (.slice a9 n9 k9)) 3 = _ from HVL.out) (Turns.of_below hb11) (hoc.base hlo10) (fun j hj => .inr (hoc.lt j hj).1)
              have sz12 : w10.heap.size ≤ (w11.setCell ⟨g, 3, none⟩ (.slice a12 n12 k12)).heap.size := hT12.size
              replace TU := Lib.hid (TU.out.trans hT12 (fun j hj e => (BS.out j e).elim id (fun h => by omega)))
              have lge10 : ge < w10.heap.size := cell_lt x0
              replace BS : Hid (∀ j, BlS g (upd (upd v 1 (.slice a9 n9 k9)) 3 (.slice a12 n12 k12)) j → BlS g v j ∨ ge < j) := Lib.hid (fun j h => (hS12 j h).elim (BS.out j) (fun h => .inr (by omega)))
              replace BL := Lib.hid hBL12
              clear hoc hb11 z12 hBL12 hT12 hS12 x0 BX K
              go_upto_region 15 with (fail)
              generalize w11.setCell ⟨g, 3, none⟩ (.slice a12 n12 k12) = w12 at *
              clear cc3 ff3
              have c0 := BL.out.c0
              have f0 := BL.out.free 0
              go_wp2_with fail
              go_ret
              refine ⟨by rw [ADD.out]; rfl, fun e => absurd ADD.out e, fun _ => ⟨upd (upd v 1 (.slice a9 n9 k9)) 3 (.slice a12 n12 k12), (BL.out.num (n + 1)).as (by rw [List.length_append, HNN.out]; rfl) (fun i i1 i3 => ?_), TU.out.trans (Turns.set (S := BlS g v) w12 (.inl rfl) _) (fun _ _ e => e), fun j hj => (BS.out j hj).imp id (fun h => by omega)⟩⟩
              rw [rows_bAdd]
              rcases (by omega : i = 1 ∨ i = 2 ∨ i = 3) with e | e | e <;> subst e
              · show BB ++ eb = _
                rw [if_pos rfl, HBB.out, HNN.out, HL.out, HG8.out, HEB.out]
              · show (bst l).tab = _
                rw [if_neg (by omega), if_pos rfl, HTT.out, HBB.out, Z1.out, HNN.out, HM8.out]; simp
              · show k = _
                rw [if_neg (by omega), if_neg (by omega)]
  · have ADD := Lib.hid ((addE_chk (l := l) (by rw [hqc]; exact hz)).trans hqc)
    have t1 : ((q : Int) != 0) = true := by rw [bne_iff_ne]; omega
    have t1' : (q != 0) = true := by rw [bne_iff_ne]; omega
    have HZ := Lib.hid hz
    clear hqc hn hz
    have hb1 : Below w.heap.size w (w.alloc (.cells #[.slice ak k.length ck, .slice av x.length cv] 51)) := (Below.refl _ _).alloc (Nat.le_refl _) _
    have BX := Lib.hid (heap_new w (.cells #[.slice ak k.length ck, .slice av x.length cv] 51))
    replace BL := Lib.hid (BL.out.keep hb1)
    replace K := Lib.hid (K.out.keep hb1)
    replace X := Lib.hid (X.out.keep hb1)
    have HB := Lib.hid hb1
    clear hb1
    go_enter Tryz.func112, Tryz.ntmps112
    go_upto_region 1 with (fail)
    obtain ⟨ge, hge⟩ : ∃ z, w.heap.size = z := ⟨_, rfl⟩
    rw [hge] at BX
    have hge2 : w.heap.size ≤ ge := by omega
    have lge : g < ge := by omega
    have HGE := Lib.hid (show ¬ BlS g v ge from fun e => by have := (HIN.out ge e).2; omega)
    rw [hge] at lg ⊢
    clear hge
    generalize w.alloc (.cells #[.slice ak k.length ck, .slice av x.length cv] 51) = w1 at *
    have x0 := cell_of BX.out 0 rfl
    have x1 := cell_of BX.out 1 rfl
    go_wp2_with fail
    refine (HCK.out _).mono ?_
    rintro e w2 ⟨rfl, hb⟩
    replace BL := Lib.hid (BL.out.keep hb)
    replace K := Lib.hid (K.out.keep hb)
    replace X := Lib.hid (X.out.keep hb)
    replace BX := Lib.hid ((Stab.block BX.out).keep hb).now
    replace HB := Lib.hid (HB.out.trans (hb.mono (by have := HB.out.size; omega)))
    clear hb x0 x1 HCK
    have c0 := BL.out.c0
    have c1 := BL.out.c 1 (by omega) (by omega)
    have c2 := BL.out.c 2 (by omega) (by omega)
    have c3 := BL.out.c 3 (by omega) (by omega)
    have x0 := cell_of BX.out 0 rfl
    have x1 := cell_of BX.out 1 rfl
    go_wp2_with fail
    go_ret
    exact AddPost.no ADD.out HZ.out HB.out
end Go.Proofs.YtljcogimeimknaaGreat
/- A builder of blocks: Bytes, Len: contracts. Conditions: entries that may be, 64 at most. Written by a program of this place (gen_BlockBytes.py). -/
namespace Go.Proofs.YtljcogimeimknaaGreat
open Go.RowKit
set_option linter.unusedVariables false

theorem four_setB {w : World} {g : Nat} {t : TypeId} {v0 v1 v2 v3 s x y z : Value} (h : w.heap[g]? = some (.cells #[v0, v1, v2, v3] t (0, 0))) :
    (w.cell? ⟨g, 0, none⟩ = some v0 ∧ w.frozen? ⟨g, 0, none⟩ = false) ∧ ((w.setCell ⟨g, 0, none⟩ s).cell? ⟨g, 1, none⟩ = some v1 ∧ (w.setCell ⟨g, 0, none⟩ s).frozen? ⟨g, 1, none⟩ = false) ∧
    (((w.setCell ⟨g, 0, none⟩ s).setCell ⟨g, 1, none⟩ x).cell? ⟨g, 2, none⟩ = some v2 ∧ ((w.setCell ⟨g, 0, none⟩ s).setCell ⟨g, 1, none⟩ x).frozen? ⟨g, 2, none⟩ = false) ∧
    ((((w.setCell ⟨g, 0, none⟩ s).setCell ⟨g, 1, none⟩ x).setCell ⟨g, 2, none⟩ y).cell? ⟨g, 3, none⟩ = some v3 ∧ (((w.setCell ⟨g, 0, none⟩ s).setCell ⟨g, 1, none⟩ x).setCell ⟨g, 2, none⟩ y).frozen? ⟨g, 3, none⟩ = false) ∧
    ((((w.setCell ⟨g, 0, none⟩ s).setCell ⟨g, 1, none⟩ x).setCell ⟨g, 2, none⟩ y).setCell ⟨g, 3, none⟩ z).heap[g]? = some (.cells #[s, x, y, z] t (0, 0)) := by
  have h1 : (w.setCell ⟨g, 0, none⟩ s).heap[g]? = some (.cells #[s, v1, v2, v3] t (0, 0)) := set_block (i := 0) h s
  have h2 : ((w.setCell ⟨g, 0, none⟩ s).setCell ⟨g, 1, none⟩ x).heap[g]? = some (.cells #[s, x, v2, v3] t (0, 0)) := set_block (i := 1) h1 x
  have h3 : (((w.setCell ⟨g, 0, none⟩ s).setCell ⟨g, 1, none⟩ x).setCell ⟨g, 2, none⟩ y).heap[g]? = some (.cells #[s, x, y, v3] t (0, 0)) := set_block (i := 2) h2 y
  exact ⟨⟨cell_of h 0 rfl, free_block h 0⟩, ⟨cell_of h1 1 rfl, free_block h1 1⟩, ⟨cell_of h2 2 rfl, free_block h2 2⟩, ⟨cell_of h3 3 rfl, free_block h3 3⟩, set_block (i := 3) h3 z⟩
theorem Bl.fresh {w : World} {lo g : Nat} (h : w.heap[g]? = some (.cells #[.int .i64 0, .slice none 0 0, .slice none 0 0, .slice none 0 0] 208 (0, 0))) (hl : lo ≤ g) : Bl w lo g (fun _ => .slice none 0 0) [] :=
  ⟨h, fun k h1 h3 => .inl ⟨rfl, by rcases (by omega : k = 1 ∨ k = 2 ∨ k = 3) with e | e | e <;> subst e <;> rfl⟩, fun k _ _ j hj => (by cases hj), fun i k b _ _ _ _ _ hb => (by cases hb), hl⟩
theorem BlS_nil {g j : Nat} (h : BlS g (fun _ => .slice none 0 0) j) : j = g := by
  rcases h with h | ⟨k, _, _, hk⟩
  · exact h
  · cases hk
/-- behind Bytes -/
def BytesPost (w : World) (lo g : Nat) (v : Nat → Value) (l : List Ent) (r : Ending) (w' : World) : Prop :=
  ∃ x, r = .returned x ∧ OwT fB w' w.heap.size 5 x (bld l) ∧ (∃ v', Bl w' lo g v' [] ∧ ∀ j, BlS g v' j → BlS g v j) ∧ Turns (fun j => j = g) w w'
theorem BytesPost.mk {w w' : World} {lo g : Nat} {v v' : Nat → Value} {l : List Ent} {x : Value} (ho : OwT fB w' w.heap.size 5 x (bld l)) (hb : Bl w' lo g v' []) (hs : ∀ j, BlS g v' j → BlS g v j) (ht : Turns (fun j => j = g) w w') : BytesPost w lo g v l (.returned x) w' :=
  ⟨x, rfl, ho, ⟨v', hb, hs⟩, ht⟩
set_option maxRecDepth 100000 in
set_option maxHeartbeats 4000000 in
theorem bbytes_any (lo g : Nat) (v : Nat → Value) (l : List Ent) (w : World) (hl : l.length ≤ 64) (hok : Okay l) (hB : Bl w lo g v l) :
    Calls Tryz.prog 151 #[.pointer (some ⟨g, 0, none⟩)] w (BytesPost w lo g v l) := by
  obtain ⟨n, hn⟩ : ∃ n, l.length = n := ⟨_, rfl⟩
  have hB0 := hB
  unfold Bl at hB0
  rw [hn] at hB0 hl
  have BL := Lib.hid hB0
  by_cases h0 : l = []
  · subst h0
    obtain rfl : 0 = n := hn
    have c0 := hB0.c0
    clear hB0
    go_enter Tryz.func151, Tryz.ntmps151
    go_wp2_with fail
    go_ret
    exact BytesPost.mk (OwT.nil _ _ _ _) BL.out (fun j h => h) (Turns.refl _ _)
  · have n0 : 0 < n := by cases l with | nil => exact absurd rfl h0 | cons e r => simp at hn; omega
    have t1 : ((n : Int) == 0) = false := by rw [beq_eq_false_iff_ne]; omega
    have t1' : (n == 0) = false := by rw [beq_eq_false_iff_ne]; omega
    have r1 : IntKind.u64.wrap (n : Int) = n := u64_nat n (by omega)
    have BE := Lib.hid (bld_some h0)
    have HN := Lib.hid hn
    have hble := bst_le l hok
    rw [hn] at hble
    obtain ⟨a1, n1, k1, hv1, z1⟩ := (hB0.row 1 (by omega) (by omega)).slN
    obtain ⟨a2, n2, k2, hv2, z2⟩ := (hB0.row 2 (by omega) (by omega)).slN
    have l1 : (bst l).body.length = n1 := z1.len
    have l2 : (bst l).tab.length = n2 := z2.len
    have c0 := hB0.c0
    have c1 := hB0.c 1 (by omega) (by omega)
    have c2 := hB0.c 2 (by omega) (by omega)
    rw [hv1] at c1
    rw [hv2] at c2
    obtain ⟨BB, hBB⟩ : ∃ B, (bst l).body = B := ⟨_, rfl⟩
    obtain ⟨TT, hTT⟩ : ∃ B, (bst l).tab = B := ⟨_, rfl⟩
    rw [hBB] at l1
    rw [hTT] at l2
    have zb : Sl Bf w a1 n1 k1 BB := by rw [← hBB]; exact z1
    have zt : Sl Bf w a2 n2 k2 TT := by rw [← hTT]; exact z2
    have ZB := Lib.hid (Stab.sl zb)
    have ZT := Lib.hid (Stab.sl zt)
    obtain ⟨vn, hvn⟩ : ∃ x, vb n = x := ⟨_, rfl⟩
    have hvl : vn.length ≤ 10 := hvn ▸ vb_ten (by omega)
    have b1 : n1 ≤ 22400 := by rw [hBB, l1] at hble; omega
    have b2 : n2 ≤ 128 := by rw [hTT, l2] at hble; omega
    have fin : [vn, BB, TT].flatten = bld l := by rw [BE.out, hBB, hTT, hn, hvn]; simp
    have FIN := Lib.hid fin
    have FL := Lib.hid (show [vn, BB, TT].flatten.length ≤ 140737488355328 by simp; omega)
    have VB := Lib.hid (fun W : World => hvn ▸ vbytes_any n W (by omega))
    have lg := hB0.lt
    have LO := Lib.hid hB0.low
    clear hB0 hB hn hble hv1 hv2 z1 z2 l1 l2 hBB hTT zb zt hvn fin hok h0
    go_enter Tryz.func151, Tryz.ntmps151
    go_wp2_with fail
    go_region_held3 (fun w' => w'.cell? ⟨g, 0, none⟩ = some (.int .i64 (n : Nat)) ∧ w'.cell? ⟨g, 1, none⟩ = some (.slice a1 n1 k1) ∧ w'.cell? ⟨g, 2, none⟩ = some (.slice a2 n2 k2)) (first | go_keep | assumption) (first
      | ((go_at_call 153; refine (VB.out _).mono ?_; rintro e w1 ⟨x1, rfl, ho1, hb1⟩; obtain ⟨a3, n3, k3, rfl, z3⟩ := ho1.slN; obtain rfl : vn.length = n3 := z3.len; have Z3 := Lib.hid (Stab.sl z3); have H1 : Hid (Below w.heap.size w w1) := Lib.hid (((Below.refl _ _).drew).trans hb1); have d0 : w1.cell? ⟨g, 0, none⟩ = some (.int .i64 (n : Nat)) := (World.cell?_of_block (H1.out.block _ (cell_lt c0))).trans c0; have d1 : w1.cell? ⟨g, 1, none⟩ = some (.slice a1 n1 k1) := (World.cell?_of_block (H1.out.block _ (cell_lt c1))).trans c1; have d2 : w1.cell? ⟨g, 2, none⟩ = some (.slice a2 n2 k2) := (World.cell?_of_block (H1.out.block _ (cell_lt c2))).trans c2; have RR := Lib.hid (rows2_3 w1 _ _ _ _ _ _ _ _ _ _ _ _ Z3.out.now (ZB.out.keep H1.out).now (ZT.out.keep H1.out).now); clear ho1 hb1 z3))
      | ((go_at_call 115; refine (concat_any _ 3 3 [vn, BB, TT] _ (by omega) FL.out RR.out).mono ?_; rintro e w2 ⟨x2, rfl, ho2, hb2⟩; have O2 := Lib.hid ho2; have H2 : Hid (Below w.heap.size w w2) := Lib.hid ((H1.out.alloc H1.out.size _).trans (hb2.mono (Nat.le_trans H1.out.size (by simp)))); have e0 : w2.cell? ⟨g, 0, none⟩ = some (.int .i64 (n : Nat)) := (World.cell?_of_block (H2.out.block _ (cell_lt c0))).trans c0; have e1 : w2.cell? ⟨g, 1, none⟩ = some (.slice a1 n1 k1) := (World.cell?_of_block (H2.out.block _ (cell_lt c1))).trans c1; have e2 : w2.cell? ⟨g, 2, none⟩ = some (.slice a2 n2 k2) := (World.cell?_of_block (H2.out.block _ (cell_lt c2))).trans c2; have s1 := H1.out.size; have BR := Lib.hid (ho2.base (base' := w.heap.size) (Nat.le_trans s1 (by simp))); clear ho2 hb2)))
    all_goals
      have hbl := BL.out.keep H2.out
      obtain ⟨⟨g0, g0'⟩, ⟨g1, g1'⟩, ⟨g2, g2'⟩, ⟨g3, g3'⟩, hfin⟩ := four_setB (s := .int .i64 0) (x := .slice none 0 0) (y := .slice none 0 0) (z := .slice none 0 0) hbl.blk
      have NB := Lib.hid hfin
      have OFF := Lib.hid (show Off x2 g from fun j hj e => by have := (BR.out.lt j hj).1; omega)
      clear hbl hfin c0 c1 c2 d0 d1 d2 e0 e1 e2 O2
      go_wp2_with fail
      go_ret
      refine BytesPost.mk (v' := fun _ => .slice none 0 0) ?_ (Bl.fresh NB.out LO.out) (fun j h => .inl (BlS_nil h)) ((((((Turns.of_below H2.out).trans (Turns.set (S := fun j => j = g) _ rfl _) fun _ _ e => e).trans (Turns.set (S := fun j => j = g) _ rfl _) fun _ _ e => e).trans (Turns.set (S := fun j => j = g) _ rfl _) fun _ _ e => e).trans (Turns.set (S := fun j => j = g) _ rfl _) fun _ _ e => e))
      have := BR.out
      rw [FIN.out] at this
      exact this.of_block fun j hj => by rw [Below.heap_setCell _ _ _ _ (OFF.out j hj), Below.heap_setCell _ _ _ _ (OFF.out j hj), Below.heap_setCell _ _ _ _ (OFF.out j hj), Below.heap_setCell _ _ _ _ (OFF.out j hj)]
theorem blen_any (lo g : Nat) (v : Nat → Value) (l : List Ent) (w : World) (hB : Bl w lo g v l) :
    Calls Tryz.prog 111 #[.pointer (some ⟨g, 0, none⟩)] w fun e w' => e = .returned (.int .i64 (l.length : Nat)) ∧ w = w' := by
  have c0 := BlR.c0 hB
  clear hB
  go_enter Tryz.func111, Tryz.ntmps111
  go_wp2_with fail
  go_ret
  exact ⟨rfl, rfl⟩
end Go.Proofs.YtljcogimeimknaaGreat
/- An entry of a list in memory. No condition. -/
namespace Go.Proofs.YtljcogimeimknaaGreat
open Go.RowKit
set_option linter.unusedVariables false

/-- an entry of a list in memory, now and behind whatever keeps it -/
theorem Ents.row {w : World} {a : Option Addr} {n c : Nat} {es : List Ent} (h : Ents w a n c es) {i : Nat} {k v : List UInt8} (hi : es[i]? = some (k, v)) :
    ∃ b o ak ck av cv, a = some ⟨b, o, none⟩ ∧ (∀ b' o', ak = some ⟨b', o', none⟩ → 0 < k.length → b' < w.heap.size) ∧ (∀ b' o', av = some ⟨b', o', none⟩ → 0 < v.length → b' < w.heap.size) ∧
      ∀ W, Below w.heap.size w W → W.cell? ⟨b, o + i * 2, none⟩ = some (.slice ak k.length ck) ∧ W.cell? ⟨b, o + i * 2 + 1, none⟩ = some (.slice av v.length cv) ∧ Sl Bf W ak k.length ck k ∧ Sl Bf W av v.length cv v := by
  obtain ⟨b, o, ak, nk, ck, av, nv, cv, ha, c0, c1, s0, s1⟩ := h.2.2.2 i k v hi
  obtain rfl : nk = k.length := s0.len.symm
  obtain rfl : nv = v.length := s1.len.symm
  refine ⟨b, o, ak, ck, av, cv, ha, fun b' o' e hn => by subst e; exact s0.blt hn, fun b' o' e hn => by subst e; exact s1.blt hn, fun W hb => ⟨(World.cell?_of_block (hb.block _ (cell_lt c0))).trans c0, (World.cell?_of_block (hb.block _ (cell_lt c1))).trans c1, s0.keep hb, s1.keep hb⟩⟩
end Go.Proofs.YtljcogimeimknaaGreat
/- Behind which key an entry is written, the reference's: contract. Conditions: the entries within reach. -/
namespace Go.Proofs.YtljcogimeimknaaGreat
open Go.RowKit
set_option linter.unusedVariables false

set_option maxRecDepth 100000 in
theorem prev_any (a : Option Addr) (n c : Nat) (es : List Ent) (k : Nat) (w : World) (hn : n ≤ 2932031007317) (hk : k ≤ n) (h : Ents w a n c es) :
    Calls Tryz.prog 147 #[.slice a n c, .int .i64 (k : Nat)] w fun e w' => ∃ ap np cp, e = .returned (.slice ap np cp) ∧ Sl Bf w ap np cp (bP k (bst (es.take k)).last) ∧ w = w' := by
  obtain rfl : n = es.length := h.1.symm
  by_cases h8 : k % 8 = 0
  · have t1 : ((k : Int) % 8 == 0) = true := by rw [beq_iff_eq]; omega
    have t2 : (k % 8 == 0) = true := by rw [beq_iff_eq]; omega
    have HP := Lib.hid (show bP k (bst (es.take k)).last = [] by unfold bP; rw [if_pos h8])
    clear h8 h
    go_enter Tryz.func147, Tryz.ntmps147
    go_wp2_with fail
    go_ret
    exact ⟨none, 0, 0, rfl, by rw [HP.out]; exact Sl.nil _ _, rfl⟩
  · obtain ⟨j, rfl⟩ : ∃ j, k = j + 1 := ⟨k - 1, by omega⟩
    have t1 : (((j + 1 : Nat) : Int) % 8 == 0) = false := by rw [beq_eq_false_iff_ne]; omega
    have t2 : ((j + 1) % 8 == 0) = false := by rw [beq_eq_false_iff_ne]; omega
    have t3 : (((j : Int) + 1) % 8 == 0) = false := by rw [beq_eq_false_iff_ne]; omega
    have e1 : IntKind.i64.wrap ((j : Int) + 1 - 1) = (j : Int) := by rw [show (j : Int) + 1 - 1 = (j : Int) by omega]; exact IntWalk.i64_in _ (by omega)
    obtain ⟨⟨kk, vv⟩, hx⟩ : ∃ e, es[j]? = some e := ⟨_, List.getElem?_eq_getElem (by omega)⟩
    obtain ⟨b, o, ak, ck, av, cv, rfl, _, _, hrow⟩ := h.row hx
    obtain ⟨c0, _, s0, _⟩ := hrow w (Below.refl _ _)
    have HP := Lib.hid (show bP (j + 1) (bst (es.take (j + 1))).last = kk by unfold bP; rw [if_neg h8, bst_take hx]; rfl)
    have S0 := Lib.hid s0
    clear h8 h hx hrow s0
    go_enter Tryz.func147, Tryz.ntmps147
    go_wp2_with fail
    go_ret
    exact ⟨_, _, _, rfl, by rw [HP.out]; exact S0.out, rfl⟩
end Go.Proofs.YtljcogimeimknaaGreat
/- Do entries rise: the reference. Conditions: the entries within reach. -/
namespace Go.Proofs.YtljcogimeimknaaGreat
open Go.RowKit
set_option linter.unusedVariables false

end Go.Proofs.YtljcogimeimknaaGreat
/- Build, the reference's: contract. Conditions: the entries within reach. Written by a program of this place (gen_BlockRBuild.py). -/
namespace Go.Proofs.YtljcogimeimknaaGreat
open Go.RowKit
set_option linter.unusedVariables false

/-- two rows of the call's own, apart -/
def Two3 (w : World) (lo : Nat) (x y : Value) (xs ys : List UInt8) : Prop := OwT fB w lo 5 x xs ∧ OwT fB w lo 5 y ys ∧ ∀ j, x.ownBlock = some j → y.ownBlock ≠ some j
theorem Two3.keep {w w' : World} {lo : Nat} {x y : Value} {xs ys : List UInt8} (h : Two3 w lo x y xs ys) (hb : Below w.heap.size w w') : Two3 w' lo x y xs ys := ⟨h.1.keep hb, h.2.1.keep hb, h.2.2⟩
theorem Two3.app1 {w w0 w1 : World} {lo : Nat} {x y x' : Value} {xs ys xs' : List UInt8} (h : Two3 w lo x y xs ys) (hw : Below w.heap.size w w0) (hg : w0.grownBy w1 x.ownBlock) (ho : OwT fB w1 lo 5 x' xs') (hx : x'.ownBlock = x.ownBlock ∨ x'.ownBlock = some w0.heap.size) : Two3 w1 lo x' y xs' ys := by
  refine ⟨ho, (h.2.1.keep hw).of_block fun j hj => hg.block j (by have := (h.2.1.lt j hj).2; have := hw.size; omega) (fun e => h.2.2 j e.symm hj), fun j hj hy => ?_⟩
  rcases hx with e | e
  · exact h.2.2 j (e.symm.trans hj) hy
  · rw [e] at hj; injection hj with hj
    have := (h.2.1.lt j hy).2; have := hw.size; omega
theorem Two3.symm {w : World} {lo : Nat} {x y : Value} {xs ys : List UInt8} (h : Two3 w lo x y xs ys) : Two3 w lo y x ys xs := ⟨h.2.1, h.1, fun j hy hx => h.2.2 j hx hy⟩
end Go.Proofs.YtljcogimeimknaaGreat

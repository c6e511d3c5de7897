/- The table's places: contract. Conditions: numbers within reach. -/
import Derived.Test.YtljcogimeimknaaGreatF8q
import Derived.Test.YtljcogimeimknaaGreatF8n
import Derived.Test.YtljcogimeimknaaGreatK8b
import Derived.Test.YtljcogimeimknaaGreatBlockFindM
namespace Go.Proofs.YtljcogimeimknaaGreat
open Go.RowKit
set_option linter.unusedVariables false
set_option linter.unusedSimpArgs false

theorem or_lo8 (c d : UInt8) : bits .or .i64 (wrap64 (B c)) (wrap64 (wrap64 (B d) * 256)) = ((c.toNat + 256 * d.toNat : Nat) : Int) := by
  have hc := c.toNat_lt
  have hd := d.toNat_lt
  have h : c.toNat ||| d.toNat * 256 = c.toNat + 256 * d.toNat := by
    have := Nat.shiftLeft_add_eq_or_of_lt (b := c.toNat) (i := 8) (by omega) d.toNat
    rw [Nat.shiftLeft_eq] at this
    rw [Nat.or_comm, ← this]; omega
  have e1 : wrap64 (B c) = (c.toNat : Int) := IntWalk.wrap64_in _ (by unfold B; omega)
  have e2 : wrap64 (B d) = (d.toNat : Int) := IntWalk.wrap64_in _ (by unfold B; omega)
  have e3 : wrap64 ((d.toNat : Int) * 256) = ((d.toNat * 256 : Nat) : Int) := by rw [IntWalk.wrap64_in _ (by omega)]; omega
  rw [e1, e2, e3]
  show IntKind.i64.wrap ((BitVec.ofInt 64 (c.toNat : Int) ||| BitVec.ofInt 64 ((d.toNat * 256 : Nat) : Int)).toNat : Int) = _
  rw [BitVec.ofInt_natCast, BitVec.ofInt_natCast, BitVec.toNat_or, BitVec.toNat_ofNat, BitVec.toNat_ofNat, Nat.mod_eq_of_lt (by omega), Nat.mod_eq_of_lt (by omega), h]
  exact IntWalk.i64_in _ (by omega)
theorem plc_le (b : List UInt8) (m i : Nat) : plc b m i ≤ 65535 := by
  unfold plc
  have := (b.getD (b.length - 2 * m + 2 * i) 0).toNat_lt
  have := (b.getD (b.length - 2 * m + 2 * i + 1) 0).toNat_lt
  omega
set_option maxRecDepth 100000 in
theorem place_any (g9 : Nat) (at' : Option Addr) (nt ct : Nat) (t : List UInt8) (i : Nat) (w : World) (hn : nt ≤ 140737488351232) (hT : Sl Bf w at' nt ct t) (hbox : w.heap[g9]? = some (.cells #[.slice at' nt ct] 22 (0, 0))) (hi : 2 * i + 1 < t.length) :
    Calls Tryz.prog 133 #[.int .i64 (i : Nat), .pointer (some ⟨g9, 0, none⟩)] w fun e w' => e = .returned (.int .i64 ((t.getD (2 * i) 0).toNat + 256 * (t.getD (2 * i + 1) 0).toNat : Nat)) ∧ Below w.heap.size w w' := by
  obtain rfl : t.length = nt := hT.len
  have x0 := cell_of hbox 0 rfl
  obtain ⟨c, hc⟩ : ∃ c, t[2 * i]? = some c := ⟨_, List.getElem?_eq_getElem (by omega)⟩
  obtain ⟨d, hd⟩ : ∃ d, t[2 * i + 1]? = some d := ⟨_, List.getElem?_eq_getElem hi⟩
  obtain ⟨b, o, rfl, hc1⟩ := hT.2.2.2 (2 * i) c hc
  obtain ⟨b', o', he, hd1⟩ := hT.2.2.2 (2 * i + 1) d hd
  injection he with he; injection he with he1 he2
  subst he1 he2
  have r1 : IntKind.i64.wrap (2 * (i : Int)) = 2 * i := IntWalk.i64_in _ (by omega)
  have r2 : IntKind.i64.wrap (2 * (i : Int) + 1) = 2 * i + 1 := IntWalk.i64_in _ (by omega)
  rw [List.getD_eq_getElem?_getD, List.getD_eq_getElem?_getD, hc, hd]
  have hct := hT.le
  clear hT hbox hc hd
  go_enter Tryz.func133, Tryz.ntmps133
  go_wp2_with fail
  go_quiet (fail)
  have hv := or_lo8 c d
  generalize bits .or .i64 (wrap64 (B c)) (wrap64 (wrap64 (B d) * 256)) = v at *
  subst hv
  go_wp2_with fail
  go_ret
  exact ⟨rfl, keep_drewN (Below.refl _ _) nq⟩
end Go.Proofs.YtljcogimeimknaaGreat

/- The document's Open: the region that compares a tail. Condition: the bytes within reach. Written by a program of this place (gen_FileRTail.py). -/
import Derived.Test.YtljcogimeimknaaGreatFileOpen
import Derived.Test.YtljcogimeimknaaGreatFileRRow
import Derived.Test.YtljcogimeimknaaGreatFootRRead
import Derived.Test.YtljcogimeimknaaGreatVintRRead
import Derived.Test.YtljcogimeimknaaGreatK8f
import Derived.Deep.RegionHeld3
namespace Go.Proofs.YtljcogimeimknaaGreat
open Go.RowKit
open Lib (hid)
set_option linter.unusedVariables false
set_option linter.unusedSimpArgs false

def regsOf : Code → List Code
  | .region i o b => [.region i o b]
  | .loop c => regsOf c
  | .seq a b => regsOf a ++ regsOf b
  | .block _ c => regsOf c
  | .scope c => regsOf c
  | .cond _ a b => regsOf a ++ regsOf b
  | _ => []
noncomputable def regT : Code := (Tryz.f10.body.map fun c => (regsOf c).getD 7 .skip).getD .skip
set_option maxRecDepth 100000 in
set_option maxHeartbeats 8000000 in
theorem rtail_reg {u1 u2 u3 u4 u7 u8 u9 u10 u11 u12 u13 u14 u15 u16 u17 u18 u19 u20 u21 u22 u23 u24 u25 u26 u27 u28 u29 u30 u31 u32 u33 u34 u35 u36 u37 u38 u39 u40 u41 u42 u43 u44 u45 u46 u47 u48 u49 u50 u51 u52 u53 u54 u55 u56 u57 u58 u59 u60 u61 u62 u63 u64 u65 u66 u67 u68 u69 u70 u71 u72 u73 u74 u75 u76 u77 u78 u79 u80 u81 u82 u83 u84 u85 u86 u87 u88 u89 u90 u91 u92 u93 u94 u95 u96 u97 u98 u99 u100 u101 u102 u103 u104 u105 u106 u107 u108 u109 u110 u111 u112 u113 u114 u115 u116 u117 u118 u119 u120 u121 u122 u123 u124 u125 u126 u127 u128 u129 u130 u131 u132 u133 u134 u135 u136 : Value} {K : Act → World → Prop} {Q0 : Exit → Act → World → Prop} {ab aT : Option Addr} {nb cb cT k t : Nat} {T : List UInt8} (wr : World) (hk : k ≤ t) (htm : t ≤ 140737488351232)
    (hct : ∀ W : World, (Instr.slice 22 (.slice ab nb cb) (some (.int .i64 (t : Nat))) none none).run Tryz.prog W = .ok (.slice aT 12 cT) W) (ST : Hid (Sl Bf wr aT 12 cT T))
    (hK : ∀ (x30 x31 x32 x33 x34 x35 x36 x37 x38 x39 x40 x41 : Value) (wx : World), Below wr.heap.size wr wx → K { tmps := #[.slice ab nb cb, u1, u2, u3, u4, .int .i64 (t : Nat), .int .i64 (k : Nat), u7, u8, u9, u10, u11, u12, u13, u14, u15, u16, u17, u18, u19, u20, u21, u22, u23, u24, u25, u26, u27, u28, u29, x30, x31, x32, x33, x34, x35, x36, x37, x38, x39, x40, x41, .bool (decide (T ≠ tailB k)), u43, u44, u45, u46, u47, u48, u49, u50, u51, u52, u53, u54, u55, u56, u57, u58, u59, u60, u61, u62, u63, u64, u65, u66, u67, u68, u69, u70, u71, u72, u73, u74, u75, u76, u77, u78, u79, u80, u81, u82, u83, u84, u85, u86, u87, u88, u89, u90, u91, u92, u93, u94, u95, u96, u97, u98, u99, u100, u101, u102, u103, u104, u105, u106, u107, u108, u109, u110, u111, u112, u113, u114, u115, u116, u117, u118, u119, u120, u121, u122, u123, u124, u125, u126, u127, u128, u129, u130, u131, u132, u133, u134, u135, u136], defers := [] } wx) :
    Code.wp Tryz.prog regT (Exit.then K Q0) { tmps := #[.slice ab nb cb, u1, u2, u3, u4, .int .i64 (t : Nat), .int .i64 (k : Nat), u7, u8, u9, u10, u11, u12, u13, u14, u15, u16, u17, u18, u19, u20, u21, u22, u23, u24, u25, u26, u27, u28, u29, u30, u31, u32, u33, u34, u35, u36, u37, u38, u39, u40, u41, u42, u43, u44, u45, u46, u47, u48, u49, u50, u51, u52, u53, u54, u55, u56, u57, u58, u59, u60, u61, u62, u63, u64, u65, u66, u67, u68, u69, u70, u71, u72, u73, u74, u75, u76, u77, u78, u79, u80, u81, u82, u83, u84, u85, u86, u87, u88, u89, u90, u91, u92, u93, u94, u95, u96, u97, u98, u99, u100, u101, u102, u103, u104, u105, u106, u107, u108, u109, u110, u111, u112, u113, u114, u115, u116, u117, u118, u119, u120, u121, u122, u123, u124, u125, u126, u127, u128, u129, u130, u131, u132, u133, u134, u135, u136], defers := [] } wr := by
  conv => arg 2; whnf
  refine Code.wp_mono (Q := Exit.then K (fun _ _ _ => False)) ?_ ?_
  · intro e a w; cases e <;> first | exact id | exact False.elim
  have stt := fun (W : World) (a : Option Addr) (n c : Nat) (xs : List UInt8) (h : Sl Bf W a n c xs) => run_str (P := Tryz.prog) (dst := 9) Tryz.underlying22 Tryz.underlying5 (by kernel_rfl) W a n c xs h
  have STT := hid stt
  clear stt
  have HK := hid hK
  clear hK
  have t3 : decide ((k : Int) ≤ (t : Int)) = true := decide_eq_true (by omega)
  have t3' : decide (k ≤ t) = true := decide_eq_true hk
  have BR := hid (Below.refl wr.heap.size wr)
  have hcv := STT.out wr.drew aT 12 cT T (ST.out.keep (keep_drewN BR.out 1))
  refine wp_region_held_drew (S := fun w' => Below wr.heap.size wr w' ∧ Sem.run Tryz.prog (convert 22 9 (.slice aT 12 cT)) w' = .ok (.string (strB T)) w') (by kernel_rfl) ⟨keep_drewN BR.out 1, hcv⟩ (fun hHeld => ?_)
  refine' wpAnyH_take (i := 0) (oi := ?oi1) (v := ?v1) ?hi1 (by kernel_rfl) ?hf1 ?hr1 (fun _ _ _ h => h) ?hy1 (by assumption) ?rest1
  case hi1 => (simp only [List.getElem?_toArray, List.getElem?_cons_succ, List.getElem?_cons_zero]; exact rfl)
  case hf1 => kernel_rfl
  case hr1 => kernel_rfl
  case hy1 =>
    refine Or.inl ⟨by rfl, ?_⟩
    (intro w hSw; obtain ⟨-, hSw⟩ := hSw; go_simp; try with_reducible rfl)
  try simp only [Act.put, List.setIfInBounds_toArray, List.set_cons_zero, List.set_cons_succ]
  refine' wpAnyH_take (i := 1) (oi := ?oi2) (v := ?v2) ?hi2 (by kernel_rfl) ?hf2 ?hr2 (fun _ _ _ h => h) ?hy2 (by assumption) ?rest2
  case hi2 => (simp only [List.getElem?_toArray, List.getElem?_cons_succ, List.getElem?_cons_zero]; exact rfl)
  case hf2 => kernel_rfl
  case hr2 => kernel_rfl
  case hy2 =>
    refine Or.inl ⟨by rfl, ?_⟩
    (intro w hSw; obtain ⟨-, hSw⟩ := hSw; go_simp; try with_reducible rfl)
  try simp only [Act.put, List.setIfInBounds_toArray, List.set_cons_zero, List.set_cons_succ]
  refine' wpAnyH_take (i := 2) (oi := ?oi3) (v := ?v3) ?hi3 (by kernel_rfl) ?hf3 ?hr3 (fun _ _ _ h => h) ?hy3 (by assumption) ?rest3
  case hi3 => (simp only [List.getElem?_toArray, List.getElem?_cons_succ, List.getElem?_cons_zero]; exact rfl)
  case hf3 => kernel_rfl
  case hr3 => kernel_rfl
  case hy3 =>
    refine Or.inl ⟨by rfl, ?_⟩
    (intro w hSw; obtain ⟨-, hSw⟩ := hSw; go_simp; try with_reducible rfl)
  try simp only [Act.put, List.setIfInBounds_toArray, List.set_cons_zero, List.set_cons_succ]
  refine' wpAnyH_take (i := 3) (oi := ?oi4) (v := ?v4) ?hi4 (by kernel_rfl) ?hf4 ?hr4 (fun _ _ _ h => h) ?hy4 (by assumption) ?rest4
  case hi4 => (simp only [List.getElem?_toArray, List.getElem?_cons_succ, List.getElem?_cons_zero]; exact rfl)
  case hf4 => kernel_rfl
  case hr4 => kernel_rfl
  case hy4 =>
    refine Or.inl ⟨by rfl, ?_⟩
    (intro w hSw; obtain ⟨-, hSw⟩ := hSw; go_simp; try with_reducible rfl)
  try simp only [Act.put, List.setIfInBounds_toArray, List.set_cons_zero, List.set_cons_succ]
  refine' wpAnyH_take (i := 4) (oi := ?oi5) (v := ?v5) ?hi5 (by kernel_rfl) ?hf5 ?hr5 (fun _ _ _ h => h) ?hy5 (by assumption) ?rest5
  case hi5 => (simp only [List.getElem?_toArray, List.getElem?_cons_succ, List.getElem?_cons_zero]; exact rfl)
  case hf5 => kernel_rfl
  case hr5 => kernel_rfl
  case hy5 =>
    refine Or.inl ⟨by rfl, ?_⟩
    (intro w hSw; obtain ⟨-, hSw⟩ := hSw; go_simp; try with_reducible rfl)
  try simp only [Act.put, List.setIfInBounds_toArray, List.set_cons_zero, List.set_cons_succ]
  refine' wpAnyH_take (i := 5) (oi := ?oi6) (v := ?v6) ?hi6 (by kernel_rfl) ?hf6 ?hr6 (fun _ _ _ h => h) ?hy6 (by assumption) ?rest6
  case hi6 => (simp only [List.getElem?_toArray, List.getElem?_cons_succ, List.getElem?_cons_zero]; exact rfl)
  case hf6 => kernel_rfl
  case hr6 => kernel_rfl
  case hy6 =>
    refine Or.inl ⟨by rfl, ?_⟩
    (intro w hSw; obtain ⟨-, hSw⟩ := hSw; go_simp; try with_reducible rfl)
  try simp only [Act.put, List.setIfInBounds_toArray, List.set_cons_zero, List.set_cons_succ]
  refine' wpAnyH_take (i := 6) (oi := ?oi7) (v := ?v7) ?hi7 (by kernel_rfl) ?hf7 ?hr7 (fun _ _ _ h => h) ?hy7 (by assumption) ?rest7
  case hi7 => (simp only [List.getElem?_toArray, List.getElem?_cons_succ, List.getElem?_cons_zero]; exact rfl)
  case hf7 => kernel_rfl
  case hr7 => kernel_rfl
  case hy7 =>
    refine Or.inl ⟨by rfl, ?_⟩
    (intro w hSw; obtain ⟨-, hSw⟩ := hSw; go_simp; try with_reducible rfl)
  try simp only [Act.put, List.setIfInBounds_toArray, List.set_cons_zero, List.set_cons_succ]
  refine' wpAnyH_take (i := 7) (oi := ?oi8) (v := ?v8) ?hi8 (by kernel_rfl) ?hf8 ?hr8 (fun _ _ _ h => h) ?hy8 (by assumption) ?rest8
  case hi8 => (simp only [List.getElem?_toArray, List.getElem?_cons_succ, List.getElem?_cons_zero]; exact rfl)
  case hf8 => kernel_rfl
  case hr8 => kernel_rfl
  case hy8 =>
    refine Or.inl ⟨by rfl, ?_⟩
    (intro w hSw; obtain ⟨-, hSw⟩ := hSw; go_simp; try with_reducible rfl)
  try simp only [Act.put, List.setIfInBounds_toArray, List.set_cons_zero, List.set_cons_succ]
  refine' wpAnyH_take (i := 8) (oi := ?oi9) (v := ?v9) ?hi9 (by kernel_rfl) ?hf9 ?hr9 (fun _ _ _ h => h) ?hy9 (by assumption) ?rest9
  case hi9 => (simp only [List.getElem?_toArray, List.getElem?_cons_succ, List.getElem?_cons_zero]; exact rfl)
  case hf9 => kernel_rfl
  case hr9 => kernel_rfl
  case hy9 =>
    refine Or.inl ⟨by rfl, ?_⟩
    (intro w hSw; obtain ⟨-, hSw⟩ := hSw; go_simp; try with_reducible rfl)
  try simp only [Act.put, List.setIfInBounds_toArray, List.set_cons_zero, List.set_cons_succ]
  refine wpAnyH_ready (rs := [9]) (by kernel_rfl) (by simp) ?_
  refine' AllReadyH.cons (o := ?oo10) ?hi10 (fun K1 hK1 => ?_) AllReadyH.nil
  case hi10 => (simp only [List.getElem?_toArray, List.getElem?_cons_succ, List.getElem?_cons_zero]; exact rfl)
  go_simp
  (go_at_call 41; refine (rtail_any k wr.drew (by omega)).mono ?_; rintro e w3 ⟨x3, rfl, ho3, hb3⟩; obtain ⟨a3, n3, c3, rfl, z3⟩ := ho3.slN; have B3 := hid (keep_trans (keep_drewN BR.out 1) hb3); have q1 := STT.out w3 aT 12 cT T (ST.out.keep B3.out); have q2 := STT.out w3 a3 n3 c3 (tailB k) z3; clear ho3 hb3 z3)
  refine hK1.out _ _ ⟨B3.out, q1⟩ (fun hHeld => ?_)
  clear hK1 K1
  try simp only [Act.put, List.setIfInBounds_toArray, List.set_cons_zero, List.set_cons_succ]
  refine wpAnyH_ready (rs := [10]) (by kernel_rfl) (by simp) ?_
  refine' AllReadyH.cons (o := ?oo11) ?hi11 (fun K1 hK1 => ?_) AllReadyH.nil
  case hi11 => (simp only [List.getElem?_toArray, List.getElem?_cons_succ, List.getElem?_cons_zero]; exact rfl)
  go_simp
  refine hK1.out _ _ ⟨B3.out, q1⟩ (fun hHeld => ?_)
  clear hK1 K1
  try simp only [Act.put, List.setIfInBounds_toArray, List.set_cons_zero, List.set_cons_succ]
  refine' wpAnyH_take (i := 11) (oi := ?oi12) (v := ?v12) ?hi12 (by kernel_rfl) ?hf12 ?hr12 (fun _ _ _ h => h) ?hy12 (by assumption) ?rest12
  case hi12 => (simp only [List.getElem?_toArray, List.getElem?_cons_succ, List.getElem?_cons_zero]; exact rfl)
  case hf12 => kernel_rfl
  case hr12 => kernel_rfl
  case hy12 =>
    refine Or.inl ⟨by rfl, ?_⟩
    (intro w hSw; obtain ⟨-, hSw⟩ := hSw; go_simp; try with_reducible rfl)
  try simp only [Act.put, List.setIfInBounds_toArray, List.set_cons_zero, List.set_cons_succ]
  refine' wpAnyH_take (i := 12) (oi := ?oi13) (v := ?v13) ?hi13 (by kernel_rfl) ?hf13 ?hr13 (fun _ _ _ h => h) ?hy13 (by assumption) ?rest13
  case hi13 => (simp only [List.getElem?_toArray, List.getElem?_cons_succ, List.getElem?_cons_zero]; exact rfl)
  case hf13 => kernel_rfl
  case hr13 => kernel_rfl
  case hy13 =>
    refine Or.inl ⟨by rfl, ?_⟩
    (intro w hSw; obtain ⟨-, hSw⟩ := hSw; go_simp; try with_reducible rfl)
  try simp only [Act.put, List.setIfInBounds_toArray, List.set_cons_zero, List.set_cons_succ]
  refine wpAnyH_done (by kernel_rfl) ?_ _
  have u6 : (!(strB T).toList == (strB (tailB k)).toList) = decide (T ≠ tailB k) := strB_neG T (tailB k)
  rw [u6]
  exact HK.out _ _ _ _ _ _ _ _ _ _ _ _ w3 B3.out
end Go.Proofs.YtljcogimeimknaaGreat

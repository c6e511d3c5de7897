/- BlockNames: the walk. No condition. -/
import Derived.Test.YteedjgjkldbbcaaBlockNamesM
import Derived.Test.YteedjgjkldbbcaaK6c
import Derived.Test.YteedjgjkldbbcaaBlockRead
import Derived.Test.YteedjgjkldbbcaaBlockFind
import Derived.Test.YteedjgjkldbbcaaAppK
import Derived.Lib.SlBytesConst
import Derived.Deep.DeepCutAuto
namespace Go.Proofs.Yteedjgjkldbbcaa
open Go.RowKit
set_option linter.unusedVariables false
set_option linter.unusedSimpArgs false

theorem bconv2 (w : World) (o : Obj) (C : Array Value) (n c : Nat) : Sem.run Try.prog (convert 25 25 (.slice (some ⟨w.heap.size + 1, 0, none⟩) n c)) ((w.alloc o).alloc (.cells C 5)) =
    .ok (.slice (some ⟨w.heap.size + 1, 0, none⟩) n c) ((w.alloc o).alloc (.cells C 5 (C.size, C.size + 1))) := by
  have := Lib.run_convert_bytes_const (P := Try.prog) (w.alloc o) 25 5 C n c Try.underlying25 Try.underlying5
  rwa [World.size_alloc] at this
theorem bconv3 (w : World) (o o2 : Obj) (C : Array Value) (n c : Nat) : Sem.run Try.prog (convert 25 25 (.slice (some ⟨w.heap.size + 1 + 1, 0, none⟩) n c)) (((w.alloc o).alloc o2).alloc (.cells C 5)) =
    .ok (.slice (some ⟨w.heap.size + 1 + 1, 0, none⟩) n c) (((w.alloc o).alloc o2).alloc (.cells C 5 (C.size, C.size + 1))) := by
  have := Lib.run_convert_bytes_const (P := Try.prog) ((w.alloc o).alloc o2) 25 5 C n c Try.underlying25 Try.underlying5
  rwa [World.size_alloc, World.size_alloc] at this
theorem bn_keep {w w' : World} {g : Nat} {o : Obj} (h : w.heap[g]? = some o) (hb : Below w.heap.size w w') : w'.heap[g]? = some o := (hb.block g (Array.getElem?_eq_some_iff.1 h).1).trans h
set_option maxRecDepth 100000 in
set_option maxHeartbeats 8000000 in
theorem blockNames_walk (w : World) : Calls Try.prog 10 #[] w fun e w' => e = .returned (.bool true) ∧ Below w.heap.size w w' := by
  have kc := fun (w : World) (C : Array Value) (n c : Nat) => Lib.run_convert_bytes_const (P := Try.prog) w 25 5 C n c Try.underlying25 Try.underlying5
  have kc2 := bconv2
  have kc3 := bconv3
  go_enter Try.func10, Try.ntmps10
  go_wp2_with fail
  refine (lives_any _).mono ?_
  rintro e w1 ⟨rfl, hb⟩
  have FB := Lib.hid hb
  have q0 := hb.size
  clear hb
  go_wp2_with fail
  have ka : Below w1.heap.size w1 (w1.alloc (.cells #[.int .u8 97, .int .u8 98] 5 (2, 3))) := (Below.refl _ _).alloc (Nat.le_refl _) _
  have kb : Below (w1.alloc (.cells #[.int .u8 97, .int .u8 98] 5 (2, 3))).heap.size (w1.alloc (.cells #[.int .u8 97, .int .u8 98] 5 (2, 3))) ((w1.alloc (.cells #[.int .u8 97, .int .u8 98] 5 (2, 3))).alloc (.cells #[.int .u8 49] 5 (1, 2))) := (Below.refl _ _).alloc (Nat.le_refl _) _
  have kcc : Below ((w1.alloc (.cells #[.int .u8 97, .int .u8 98] 5 (2, 3))).alloc (.cells #[.int .u8 49] 5 (1, 2))).heap.size ((w1.alloc (.cells #[.int .u8 97, .int .u8 98] 5 (2, 3))).alloc (.cells #[.int .u8 49] 5 (1, 2))) (((w1.alloc (.cells #[.int .u8 97, .int .u8 98] 5 (2, 3))).alloc (.cells #[.int .u8 49] 5 (1, 2))).alloc (.cells #[.int .u8 97, .int .u8 98, .int .u8 99] 5 (3, 4))) := (Below.refl _ _).alloc (Nat.le_refl _) _
  have kd : Below (((w1.alloc (.cells #[.int .u8 97, .int .u8 98] 5 (2, 3))).alloc (.cells #[.int .u8 49] 5 (1, 2))).alloc (.cells #[.int .u8 97, .int .u8 98, .int .u8 99] 5 (3, 4))).heap.size (((w1.alloc (.cells #[.int .u8 97, .int .u8 98] 5 (2, 3))).alloc (.cells #[.int .u8 49] 5 (1, 2))).alloc (.cells #[.int .u8 97, .int .u8 98, .int .u8 99] 5 (3, 4))) ((((w1.alloc (.cells #[.int .u8 97, .int .u8 98] 5 (2, 3))).alloc (.cells #[.int .u8 49] 5 (1, 2))).alloc (.cells #[.int .u8 97, .int .u8 98, .int .u8 99] 5 (3, 4))).alloc (.cells #[.slice (some ⟨w1.heap.size, 0, none⟩) 2 2, .slice (some ⟨w1.heap.size + 1, 0, none⟩) 1 1, .slice (some ⟨w1.heap.size + 1 + 1, 0, none⟩) 3 3, .slice none 0 0] 41)) := (Below.refl _ _).alloc (Nat.le_refl _) _
  have h1 : ((((w1.alloc (.cells #[.int .u8 97, .int .u8 98] 5 (2, 3))).alloc (.cells #[.int .u8 49] 5 (1, 2))).alloc (.cells #[.int .u8 97, .int .u8 98, .int .u8 99] 5 (3, 4))).alloc (.cells #[.slice (some ⟨w1.heap.size, 0, none⟩) 2 2, .slice (some ⟨w1.heap.size + 1, 0, none⟩) 1 1, .slice (some ⟨w1.heap.size + 1 + 1, 0, none⟩) 3 3, .slice none 0 0] 41)).heap[w1.heap.size]? = some (.cells #[.int .u8 97, .int .u8 98] 5 (2, 3)) := bn_keep (bn_keep (bn_keep (heap_new w1 _) kb) kcc) kd
  have h2 : ((((w1.alloc (.cells #[.int .u8 97, .int .u8 98] 5 (2, 3))).alloc (.cells #[.int .u8 49] 5 (1, 2))).alloc (.cells #[.int .u8 97, .int .u8 98, .int .u8 99] 5 (3, 4))).alloc (.cells #[.slice (some ⟨w1.heap.size, 0, none⟩) 2 2, .slice (some ⟨w1.heap.size + 1, 0, none⟩) 1 1, .slice (some ⟨w1.heap.size + 1 + 1, 0, none⟩) 3 3, .slice none 0 0] 41)).heap[w1.heap.size + 1]? = some (.cells #[.int .u8 49] 5 (1, 2)) := bn_keep (bn_keep (by have := heap_new (w1.alloc (.cells #[.int .u8 97, .int .u8 98] 5 (2, 3))) (.cells #[.int .u8 49] 5 (1, 2)); simpa using this) kcc) kd
  have h3 : ((((w1.alloc (.cells #[.int .u8 97, .int .u8 98] 5 (2, 3))).alloc (.cells #[.int .u8 49] 5 (1, 2))).alloc (.cells #[.int .u8 97, .int .u8 98, .int .u8 99] 5 (3, 4))).alloc (.cells #[.slice (some ⟨w1.heap.size, 0, none⟩) 2 2, .slice (some ⟨w1.heap.size + 1, 0, none⟩) 1 1, .slice (some ⟨w1.heap.size + 1 + 1, 0, none⟩) 3 3, .slice none 0 0] 41)).heap[w1.heap.size + 1 + 1]? = some (.cells #[.int .u8 97, .int .u8 98, .int .u8 99] 5 (3, 4)) := bn_keep (by have := heap_new ((w1.alloc (.cells #[.int .u8 97, .int .u8 98] 5 (2, 3))).alloc (.cells #[.int .u8 49] 5 (1, 2))) (.cells #[.int .u8 97, .int .u8 98, .int .u8 99] 5 (3, 4)); simpa using this) kd
  have h4 : ((((w1.alloc (.cells #[.int .u8 97, .int .u8 98] 5 (2, 3))).alloc (.cells #[.int .u8 49] 5 (1, 2))).alloc (.cells #[.int .u8 97, .int .u8 98, .int .u8 99] 5 (3, 4))).alloc (.cells #[.slice (some ⟨w1.heap.size, 0, none⟩) 2 2, .slice (some ⟨w1.heap.size + 1, 0, none⟩) 1 1, .slice (some ⟨w1.heap.size + 1 + 1, 0, none⟩) 3 3, .slice none 0 0] 41)).heap[w1.heap.size + 1 + 1 + 1]? = some (.cells #[.slice (some ⟨w1.heap.size, 0, none⟩) 2 2, .slice (some ⟨w1.heap.size + 1, 0, none⟩) 1 1, .slice (some ⟨w1.heap.size + 1 + 1, 0, none⟩) 3 3, .slice none 0 0] 41) := by have := heap_new (((w1.alloc (.cells #[.int .u8 97, .int .u8 98] 5 (2, 3))).alloc (.cells #[.int .u8 49] 5 (1, 2))).alloc (.cells #[.int .u8 97, .int .u8 98, .int .u8 99] 5 (3, 4))) (.cells #[.slice (some ⟨w1.heap.size, 0, none⟩) 2 2, .slice (some ⟨w1.heap.size + 1, 0, none⟩) 1 1, .slice (some ⟨w1.heap.size + 1 + 1, 0, none⟩) 3 3, .slice none 0 0] 41); simpa using this
  have hk := keep_trans (keep_trans (keep_trans ka kb) kcc) kd
  clear ka kb kcc kd
  generalize (((w1.alloc (.cells #[.int .u8 97, .int .u8 98] 5 (2, 3))).alloc (.cells #[.int .u8 49] 5 (1, 2))).alloc (.cells #[.int .u8 97, .int .u8 98, .int .u8 99] 5 (3, 4))).alloc (.cells #[.slice (some ⟨w1.heap.size, 0, none⟩) 2 2, .slice (some ⟨w1.heap.size + 1, 0, none⟩) 1 1, .slice (some ⟨w1.heap.size + 1 + 1, 0, none⟩) 3 3, .slice none 0 0] 41) = w2 at *
  have EN := Lib.hid (show Ents w2 (some ⟨w1.heap.size + 1 + 1 + 1, 0, none⟩) 2 2 bnT from ⟨rfl, Nat.le_refl _, by simp, fun i k v hi => by
    have hl : i < 2 := (List.getElem?_eq_some_iff.1 hi).1
    rcases (by omega : i = 0 ∨ i = 1) with e | e <;> subst e <;> (simp at hi; obtain ⟨rfl, rfl⟩ := hi)
    · exact ⟨_, 0, _, _, _, _, _, _, rfl, cell_of h4 0 rfl, cell_of h4 1 rfl, Sl.of_row [97, 98] 2 2 h1 rfl (Nat.le_refl _) rfl, Sl.of_row [49] 1 1 h2 rfl (Nat.le_refl _) rfl⟩
    · exact ⟨_, 0, _, _, _, _, _, _, rfl, cell_of h4 2 rfl, cell_of h4 3 rfl, Sl.of_row [97, 98, 99] 3 3 h3 rfl (Nat.le_refl _) rfl, Sl.nil _ _⟩⟩)
  have B2 := Lib.hid (keep_trans FB.out hk)
  clear h1 h2 h3 h4 hk FB
  have HB := bbuild_any _ 2 2 bnT w2 (by omega) (fun e he => by simp only [List.mem_cons, List.not_mem_nil, or_false] at he; rcases he with rfl | rfl <;> exact ⟨by decide, by decide⟩) EN.out
  rw [bn_bytes] at HB
  dsimp only at HB
  refine HB.mono ?_
  rintro e w3 ⟨_, rfl, ho, hb⟩
  obtain ⟨aB, nB, cB, rfl, zB⟩ := ho.slN
  obtain rfl : 13 = nB := zB.len
  have OB := Lib.hid ho
  have B3 := Lib.hid (keep_trans B2.out hb)
  have hz3 := hb.size
  have hz2 := B2.out.size
  clear HB ho zB hb EN B2
  go_upto_region 4 with (fail)
  have k3 := OB.out.capB
  have b34 : Below w3.heap.size w3 (w3.alloc (.cells #[.int .u8 2, .int .u8 0, .int .u8 2, .int .u8 1, .int .u8 97, .int .u8 98, .int .u8 49, .int .u8 2, .int .u8 1, .int .u8 0, .int .u8 99, .int .u8 1, .int .u8 0] 5)) := (Below.refl _ _).alloc (Nat.le_refl _) _
  have SM := Lib.hid (same_any aB 13 cB bnB _ 13 13 bnB _ (by decide) (by decide) (OB.out.keep b34).slI (Sl.of_row bnB 13 13 (g := w3.heap.size) (heap_new w3 (.cells #[.int .u8 2, .int .u8 0, .int .u8 2, .int .u8 1, .int .u8 97, .int .u8 98, .int .u8 49, .int .u8 2, .int .u8 1, .int .u8 0, .int .u8 99, .int .u8 1, .int .u8 0] 5)) rfl (Nat.le_refl _) rfl : Sl Bf _ _ 13 13 bnB))
  rw [decide_eq_true rfl] at SM
  have HB34 := Lib.hid b34
  clear b34
  go_wp2_with fail
  refine SM.out.mono ?_
  rintro e w4 ⟨rfl, hb⟩
  have hb := keep_trans HB34.out hb
  have O4 := Lib.hid (OB.out.keep hb)
  have B4 := Lib.hid (keep_trans B3.out hb)
  have hz4 := hb.size
  clear hb SM HB34 OB B3
  have hc13 : 13 ≤ cB := k3.2.1
  have hcut := fun V : World => run_cutto eltB V aB 13 cB .i64 12 (by omega)
  push_cast at hcut
  have RD := Lib.hid (bread_any aB 12 cB (bnB.take 12) w4 (by omega) (O4.out.slI.upto 12 (by decide)))
  unfold BrdPost at RD
  rw [bn_r1] at RD
  go_wp2_with fail
  refine RD.out.mono ?_
  rintro e w5 ⟨hb, y5, vs5, rfl, -⟩
  have O5 := Lib.hid (O4.out.keep hb)
  have B5 := Lib.hid (keep_trans B4.out hb)
  have hz5 := hb.size
  clear hb RD O4 B4 hcut
  dsimp only
  have hw2 : w.heap.size ≤ w2.heap.size := by omega
  have h25 : w2.heap.size ≤ w5.heap.size := by omega
  go_upto_region 8 with (fail)
  go_wp2_with (at_builtin; refine wpList_appK eltTB rfl (.tmp 59) (.tmp 60) rfl w2.heap.size _ bnB (by rfl) (O5.out.alloc _) _ 1 1 [0] (by rfl) (Sl.lit _ _ _ _ _ rfl rfl).toT (by unfold maxLen; simp) (.half (by simp)) (by simp; omega) (bnB ++ [0]) rfl ?_; intro v8 w8 h8 hg8 hv8 hb8; obtain ⟨a8, n8, c8, rfl, z8⟩ := h8.slN; obtain rfl : 14 = n8 := z8.len; have Z8 := Lib.hid z8; have S8 := Lib.hid (appK_old (O5.out.alloc _) h8 hv8); have hb := ((Below.refl w2.heap.size w5).alloc h25 _).trans hb8; have B8 := Lib.hid (B5.out.trans (hb.mono hw2)); have hz8 := hb.size; clear h8 hg8 hv8 hb8 hb z8)
  have RD := Lib.hid (bread_any a8 14 c8 (bnB ++ [0]) w8 (by decide) Z8.out)
  unfold BrdPost at RD
  rw [bn_r2] at RD
  refine RD.out.mono ?_
  rintro e w9 ⟨hb, y9, vs9, rfl, -⟩
  have S9 := Lib.hid (S8.out.keep hb)
  have B9 := Lib.hid (keep_trans B8.out hb)
  have hz9 := hb.size
  clear hb RD Z8 S8 B8 O5 B5
  dsimp only
  have ba := (Below.refl w9.heap.size w9).alloc (Nat.le_refl _) (.cells #[.int .u8 0] 5)
  have RD := Lib.hid (bread_any (some ⟨w9.heap.size, 0, none⟩) 1 1 [0] (w9.alloc (.cells #[.int .u8 0] 5)) (by decide) (Sl.lit _ _ _ _ _ rfl rfl))
  have BA := Lib.hid ba
  unfold BrdPost at RD
  rw [bn_r3] at RD
  clear ba
  go_wp2_with fail
  refine RD.out.mono ?_
  rintro e w10 ⟨hb, y10, vs10, rfl, -⟩
  have hb := keep_trans BA.out hb
  have S10 := Lib.hid (S9.out.keep hb)
  have B10 := Lib.hid (keep_trans B9.out hb)
  have hz10 := hb.size
  clear hb RD S9 B9 BA
  dsimp only
  have BN := Lib.hid (bbuild_any none 0 0 [] w10 (by decide) (fun e he => by cases he) ⟨rfl, Nat.le_refl _, fun _ => rfl, fun i k v hi => by simp at hi⟩)
  rw [bn_no] at BN
  dsimp only at BN
  go_wp2_with fail
  refine BN.out.mono ?_
  rintro e w11 ⟨v11, rfl, -, hb⟩
  have S11 := Lib.hid (S10.out.keep hb)
  have B11 := Lib.hid (keep_trans B10.out hb)
  have hz11 := hb.size
  clear hb BN S10 B10
  have ba := (Below.refl w11.heap.size w11).alloc (Nat.le_refl _) (.cells #[.int .u8 97, .int .u8 98, .int .u8 99] 5 (3, 4))
  have FD := Lib.hid (bfind_any aB 13 cB bnB (some ⟨w11.heap.size, 0, none⟩) 3 3 [97, 98, 99] (w11.alloc (.cells #[.int .u8 97, .int .u8 98, .int .u8 99] 5 (3, 4))) (by decide) (S11.out.keep ba) (Sl.of_row [97, 98, 99] 3 3 (g := w11.heap.size) (heap_new w11 (.cells #[.int .u8 97, .int .u8 98, .int .u8 99] 5 (3, 4))) rfl (Nat.le_refl _) rfl : Sl Bf _ _ 3 3 [97, 98, 99]))
  have B12 := Lib.hid (keep_trans B11.out ba)
  clear ba S11 B11
  go_wp2_with fail
  refine FD.out.mono ?_
  rintro e w12 ⟨⟨ov, er, v12, hF, rfl, hO⟩, hb⟩
  obtain ⟨rfl, rfl⟩ := find_law (by decide) bn_r4 hF
  rw [bn_find] at hO ⊢
  have B13 := Lib.hid (keep_trans B12.out hb)
  obtain ⟨a12, c12, rfl⟩ : ∃ a12 c12, v12 = .slice a12 0 c12 := by
    rcases hO with ⟨h, _⟩ | ⟨x, hx, ho⟩
    · cases h
    · injection hx with hx
      subst hx
      obtain ⟨a, n, c, rfl, hs⟩ := ho.slN
      obtain rfl : 0 = n := hs.len
      exact ⟨a, c, rfl⟩
  clear hF hO hb FD B12
  dsimp only [Option.isSome_some]
  go_wp2_with fail
  go_ret
  exact ⟨rfl, B13.out⟩
end Go.Proofs.Yteedjgjkldbbcaa

/- CursorNames: the walk. No condition. -/
import Derived.Test.YtpenbaafhbbmhaaCurNamesM
import Derived.Lib.SlBytesConst
import Derived.Test.YtpenbaafhbbmhaaSameS
namespace Go.Proofs.Ytpenbaafhbbmhaa
open Go.RowKit Go.Shelf
set_option maxRecDepth 100000
set_option linter.unusedVariables false
set_option linter.unusedSimpArgs false

set_option maxHeartbeats 8000000 in
theorem cursorNames_walk (w : World) : Calls Try.prog 7 #[] w fun e w' => e = .returned (.bool true) ∧ Below w.heap.size w w' := by
  go_enter Try.func7, Try.ntmps7
  go_wp2_with fail
  refine (lives_any _).mono ?_
  rintro e w1 ⟨rfl, hb⟩
  have B1 := Lib.hid hb
  clear hb
  go_upto_region 3 with (fail)
  have ba := Lib.hid (show Below w1.heap.size w1 (((w1.alloc (.cells #[.int .u8 5, .int .u8 172, .int .u8 2, .int .u8 97, .int .u8 98, .int .u8 99] 5)).alloc (.cells #[.int .i64 1, .int .i64 0, .int .i64 1] 3)).alloc (.cells #[.slice (some ⟨w1.heap.size, 0, none⟩) 6 6, .slice (some ⟨w1.heap.size + 1, 0, none⟩) 3 3, .int .i64 0, .bool false] 25)) from (((Below.refl _ _).alloc (Nat.le_refl _) _).alloc (by simp) _).alloc (by simp; omega) _)
  have SB := Lib.hid (Sl.of_row [5, 172, 2, 97, 98, 99] 6 6 (g := w1.heap.size) (show (((w1.alloc (.cells #[.int .u8 5, .int .u8 172, .int .u8 2, .int .u8 97, .int .u8 98, .int .u8 99] 5)).alloc (.cells #[.int .i64 1, .int .i64 0, .int .i64 1] 3)).alloc (.cells #[.slice (some ⟨w1.heap.size, 0, none⟩) 6 6, .slice (some ⟨w1.heap.size + 1, 0, none⟩) 3 3, .int .i64 0, .bool false] 25)).heap[w1.heap.size]? = some (.cells #[.int .u8 5, .int .u8 172, .int .u8 2, .int .u8 97, .int .u8 98, .int .u8 99] 5 (0, 0)) from blk_keep (blk_keep (heap_new w1 _) ((Below.refl _ _).alloc (Nat.le_refl _) _)) ((Below.refl _ _).alloc (Nat.le_refl _) _)) rfl (Nat.le_refl _) rfl : Sl Bf _ _ 6 6 [5, 172, 2, 97, 98, 99])
  have SG := Lib.hid (Sl.of_row [1, 0, 1] 3 3 (g := w1.heap.size + 1) (show (((w1.alloc (.cells #[.int .u8 5, .int .u8 172, .int .u8 2, .int .u8 97, .int .u8 98, .int .u8 99] 5)).alloc (.cells #[.int .i64 1, .int .i64 0, .int .i64 1] 3)).alloc (.cells #[.slice (some ⟨w1.heap.size, 0, none⟩) 6 6, .slice (some ⟨w1.heap.size + 1, 0, none⟩) 3 3, .int .i64 0, .bool false] 25)).heap[w1.heap.size + 1]? = some (.cells #[.int .i64 1, .int .i64 0, .int .i64 1] 3 (0, 0)) from blk_keep (by have := heap_new (w1.alloc (.cells #[.int .u8 5, .int .u8 172, .int .u8 2, .int .u8 97, .int .u8 98, .int .u8 99] 5)) (.cells #[.int .i64 1, .int .i64 0, .int .i64 1] 3); simpa using this) ((Below.refl _ _).alloc (Nat.le_refl _) _)) rfl (Nat.le_refl _) rfl : Sl fZ _ _ 3 3 [1, 0, 1])
  have SX := Lib.hid (show (((w1.alloc (.cells #[.int .u8 5, .int .u8 172, .int .u8 2, .int .u8 97, .int .u8 98, .int .u8 99] 5)).alloc (.cells #[.int .i64 1, .int .i64 0, .int .i64 1] 3)).alloc (.cells #[.slice (some ⟨w1.heap.size, 0, none⟩) 6 6, .slice (some ⟨w1.heap.size + 1, 0, none⟩) 3 3, .int .i64 0, .bool false] 25)).heap[w1.heap.size + 1 + 1]? = some (.cells #[.slice (some ⟨w1.heap.size, 0, none⟩) 6 6, .slice (some ⟨w1.heap.size + 1, 0, none⟩) 3 3, .int .i64 0, .bool false] 25 (0, 0)) from by have := heap_new ((w1.alloc (.cells #[.int .u8 5, .int .u8 172, .int .u8 2, .int .u8 97, .int .u8 98, .int .u8 99] 5)).alloc (.cells #[.int .i64 1, .int .i64 0, .int .i64 1] 3)) (.cells #[.slice (some ⟨w1.heap.size, 0, none⟩) 6 6, .slice (some ⟨w1.heap.size + 1, 0, none⟩) 3 3, .int .i64 0, .bool false] 25); simpa using this)
  have hz2 : (((w1.alloc (.cells #[.int .u8 5, .int .u8 172, .int .u8 2, .int .u8 97, .int .u8 98, .int .u8 99] 5)).alloc (.cells #[.int .i64 1, .int .i64 0, .int .i64 1] 3)).alloc (.cells #[.slice (some ⟨w1.heap.size, 0, none⟩) 6 6, .slice (some ⟨w1.heap.size + 1, 0, none⟩) 3 3, .int .i64 0, .bool false] 25)).heap.size = w1.heap.size + 3 := by simp
  have hw1 : w.heap.size ≤ w1.heap.size := B1.out.size
  obtain ⟨q, hq⟩ : ∃ q, w1.heap.size = q := ⟨_, rfl⟩
  have B2 := Lib.hid (keep_trans B1.out ba.out)
  generalize ((w1.alloc (.cells #[.int .u8 5, .int .u8 172, .int .u8 2, .int .u8 97, .int .u8 98, .int .u8 99] 5)).alloc (.cells #[.int .i64 1, .int .i64 0, .int .i64 1] 3)).alloc (.cells #[.slice (some ⟨w1.heap.size, 0, none⟩) 6 6, .slice (some ⟨w1.heap.size + 1, 0, none⟩) 3 3, .int .i64 0, .bool false] 25) = w2 at *
  rw [hq] at SB SG SX hz2 hw1 ⊢
  clear ba B1 hq
  have y0 := cell_of SX.out 0 rfl
  have y1 := cell_of SX.out 1 rfl
  have y2 := cell_of SX.out 2 rfl
  have y3 := cell_of SX.out 3 rfl
  have NS := Lib.hid (newSource_any _ 6 6 [5, 172, 2, 97, 98, 99] _ 3 3 [1, 0, 1] 0 false w2 (by omega) (by omega) (by intro x hx; simp at hx; omega) SB.out SG.out)
  go_wp2_with fail
  refine NS.out.mono ?_
  rintro e w3 ⟨g, S, rfl, hs, hb3⟩
  rw [hz2] at hs
  go_wp2_with fail
  refine (newIn_any 28 (.pointer (some ⟨g, 0, none⟩)) 9 w3 (by decide)).mono ?_
  rintro e w4 ⟨rfl, hI, hb4⟩
  have hin := hs.inS
  have b24 : Below w2.heap.size w2 w4 := keep_trans hb3 hb4
  have hz4 : w3.heap.size < w4.heap.size := by obtain ⟨_, h, _⟩ := hI; exact h.lt
  have hz3 : q + 3 ≤ w3.heap.size := by rw [← hz2]; exact hb3.size
  have C4 := Lib.hid (show CPh g (q + 3) w3.heap.size 9 28 (q + 3) w4.heap.size w4.heap.size (cn 0 [5, 172, 2, 97, 98, 99] 0 0) S w4 w4 from
    { io := hI, st := hs.keep hb4, ng := fun h => by have := (hin _ h).2; omega, sub := fun j hj => .inl (by have := hin j hj; omega), gz := ⟨hz3, hz4⟩, hz := Nat.le_refl _, tu := .refl _ _ })
  have B4 := Lib.hid (keep_trans B2.out b24)
  have SB4 := Lib.hid (SB.out.keep b24)
  have SG4 := Lib.hid (SG.out.keep b24)
  have SX4 := Lib.hid (blk_keep SX.out b24)
  have CS := Lib.hid (show ∀ j, S j → q + 3 ≤ j ∧ j < w4.heap.size from fun j hj => by have := hin j hj; omega)
  obtain ⟨c, hc⟩ : ∃ c, w3.heap.size = c := ⟨_, rfl⟩
  obtain ⟨z4, hz4'⟩ : ∃ z, w4.heap.size = z := ⟨_, rfl⟩
  have HZ4 := Lib.hid hz4'
  rw [hc, hz4'] at C4
  rw [hz4'] at CS
  rw [hc]
  have hq4 : q + 3 ≤ z4 := by omega
  clear hs hb3 hI hb4 hin b24 NS SB SG SX B2 y0 y1 y2 y3 hz2 hz3 hz4 hc hz4'
  have y0 := cell_of SX4.out 0 rfl
  have y1 := cell_of SX4.out 1 rfl
  have y2 := cell_of SX4.out 2 rfl
  have y3 := cell_of SX4.out 3 rfl
  have NS := Lib.hid (newSource_any _ 6 6 [5, 172, 2, 97, 98, 99] _ 3 3 [1, 0, 1] 0 false w4 (by omega) (by omega) (by intro x hx; simp at hx; omega) SB4.out SG4.out)
  go_wp2_with fail
  refine NS.out.mono ?_
  rintro e w5 ⟨g2, S2, rfl, hs, hb5⟩
  rw [HZ4.out] at hs
  go_wp2_with fail
  refine (newIn_any 28 (.pointer (some ⟨g2, 0, none⟩)) 9 w5 (by decide)).mono ?_
  rintro e w6 ⟨rfl, hI, hb6⟩
  have hin := hs.inS
  have b46 : Below w4.heap.size w4 w6 := keep_trans hb5 hb6
  have hz6 : w5.heap.size < w6.heap.size := by obtain ⟨_, h, _⟩ := hI; exact h.lt
  have hz5 : z4 ≤ w5.heap.size := by rw [← HZ4.out]; exact hb5.size
  have D6 := Lib.hid (show CPh g2 z4 w5.heap.size 9 28 z4 w6.heap.size w6.heap.size (cn 0 [5, 172, 2, 97, 98, 99] 0 0) S2 w6 w6 from
    { io := hI, st := hs.keep hb6, ng := fun h => by have := (hin _ h).2; omega, sub := fun j hj => .inl (by have := hin j hj; omega), gz := ⟨hz5, hz6⟩, hz := Nat.le_refl _, tu := .refl _ _ })
  have C6 := Lib.hid (C4.out.keep b46)
  have B6 := Lib.hid (keep_trans B4.out b46)
  have DS := Lib.hid (show ∀ j, S2 j → z4 ≤ j ∧ j < w6.heap.size from fun j hj => by have := hin j hj; omega)
  obtain ⟨d, hd⟩ : ∃ c, w5.heap.size = c := ⟨_, rfl⟩
  obtain ⟨z6, hz6'⟩ : ∃ z, w6.heap.size = z := ⟨_, rfl⟩
  have HZ6 := Lib.hid hz6'
  rw [hd, hz6'] at D6
  rw [hz6'] at DS
  rw [hd]
  have hq6 : z4 ≤ z6 := by omega
  clear hs hb5 hI hb6 hin b46 NS SB4 SG4 SX4 B4 C4 y0 y1 y2 y3 hz5 hz6 hd hz6'
  go_wp2_with fail
  refine (newIn_nil 9 _).mono ?_
  rintro e w7 ⟨rfl, rfl⟩
  go_wp2_with fail
  refine (newOut_nil _).mono ?_
  rintro e w7 ⟨rfl, rfl⟩
  go_wp2_with fail
  refine (newSink_any none 0 0 [] 2 w6 (by decide) (fun x h => by cases h) (Sl.nil _ _)).mono ?_
  rintro e w7 ⟨g3, S3, rfl, hs, hb7⟩
  rw [HZ6.out] at hs
  go_wp2_with fail
  refine (newOut_any 62 (.pointer (some ⟨g3, 0, none⟩)) w7).mono ?_
  rintro e w8 ⟨rfl, hI, hb8⟩
  have hin := hs.inS
  have b68 : Below w6.heap.size w6 w8 := keep_trans hb7 hb8
  have hz8 : w7.heap.size < w8.heap.size := hI.lt
  have hz7 : z6 ≤ w7.heap.size := by rw [← HZ6.out]; exact hb7.size
  have O8 := Lib.hid (show OObj (OutB w7.heap.size (.iface 62 (.pointer (some ⟨g3, 0, none⟩)))) (SnkP g3 z6) 0 w7.heap.size (⟨⟨[], 2, 0, []⟩, [], 0, 0, 0⟩ : COut Snk) (fun j => S3 j ∨ j = w7.heap.size) w8 from
    ⟨S3, .slice none 0 0, { io := hI, q := QuB.nil _ _, st := hs.keep hb8, sr := fun j hj => .inl hj, sg := .inr rfl, ng := fun h => by have := (hin _ h).2; omega, hq := fun j e => (by cases e), inS := fun j hj => by rcases hj with h | h; (have := hin j h; omega); (omega) }⟩)
  have C8 := Lib.hid (C6.out.keep b68)
  have D8 := Lib.hid (D6.out.keep b68)
  have B8 := Lib.hid (keep_trans B6.out b68)
  obtain ⟨o, ho⟩ : ∃ c, w7.heap.size = c := ⟨_, rfl⟩
  obtain ⟨z8, hz8'⟩ : ∃ z, w8.heap.size = z := ⟨_, rfl⟩
  have HZ8 := Lib.hid hz8'
  have OS := Lib.hid (show ∀ j, S3 j ∨ j = w7.heap.size → z6 ≤ j ∧ j < z8 from fun j hj => by rcases hj with h | h; (have := hin j h; omega); (omega))
  rw [ho] at O8 OS ⊢
  have hq8 : z6 ≤ z8 := by omega
  clear hs hb7 hI hb8 hin b68 B6 C6 D6 hz7 hz8 ho hz8' HZ4
  have P0 := Lib.hid (C8.out.rebase CS.out (H2 := z8) (by rw [HZ8.out]; exact Nat.le_refl _))
  go_wp2_with fail
  have K := Lib.hid (cnum_any (srcR g (q + 3)) 28 (fun w => methR g w) (enters_of Try.func75 (by kernel_rfl) rfl) src_mu c 9 (cn 0 [5, 172, 2, 97, 98, 99] 0 0) S w8 (SrcLe 6) (src_le 6) 200 (cn_ok (by decide) (by decide) (by decide)) P0.out.io P0.out.st P0.out.ng (Nat.zero_le _) (by decide) (by decide))
  rw [cn_1] at K
  refine K.out.mono ?_
  rintro e w9 ⟨S9, rfl, hA⟩
  have P1 := Lib.hid (P0.out.step hA)
  clear hA K P0
  dsimp only
  go_wp2_with fail
  have K := Lib.hid (cnum_any (srcR g (q + 3)) 28 (fun w => methR g w) (enters_of Try.func75 (by kernel_rfl) rfl) src_mu c 9 (cn 1 [172, 2, 97, 98, 99] 1 0) S9 w9 (SrcLe 6) (src_le 6) 200 (cn_ok (by decide) (by decide) (by decide)) P1.out.io P1.out.st P1.out.ng (Nat.zero_le _) (by decide) (by decide))
  rw [cn_2] at K
  refine K.out.mono ?_
  rintro e w10 ⟨S10, rfl, hA⟩
  have P2 := Lib.hid (P1.out.step hA)
  clear hA K P1
  dsimp only
  go_wp2_with fail
  have K := Lib.hid (cbytes_any (srcR g (q + 3)) 28 (fun w => methR g w) (enters_of Try.func75 (by kernel_rfl) rfl) src_mu c 9 2 (cn 4 [97, 98, 99] 3 0) S10 w10 (SrcLe 6) 200 (cn_ok (by decide) (by decide) (by decide)) P2.out.io P2.out.st P2.out.ng (Nat.zero_le _) (by decide) (by decide) (by decide) (fun _ _ => .inl (by decide)))
  rw [cn_3] at K
  refine K.out.mono ?_
  rintro e w11 ⟨bv11, S11, rfl, ho, hnb, hA⟩
  have P3 := Lib.hid (P2.out.step hA)
  have hcl := P2.out.gz
  have hzz := P2.out.hz
  have OB3 := Lib.hid (And.intro ho (show ∀ j, bv11.ownBlock = some j → ¬ S11 j ∧ j ≠ c from fun j hj => ⟨hnb j hj, fun e => by have := (ho.lt j hj).1; omega⟩))
  have hz10 := P2.out.hz
  clear hA K P2 ho hnb hcl hzz
  dsimp only
  have AT := Lib.hid (show Calls Try.prog 16 #[.pointer (some ⟨c, 0, none⟩)] w11 (fun r w' => r = .returned (.int .i64 5) ∧ w11 = w') from cat_any c 9 _ _ _ _ _ w11 P3.out.io)
  go_wp2_with fail
  refine AT.out.mono ?_
  rintro e w12 ⟨rfl, rfl⟩
  clear AT
  go_wp2_with fail
  have K := Lib.hid (cbyte_any (srcR g (q + 3)) 28 (fun w => methR g w) (enters_of Try.func75 (by kernel_rfl) rfl) src_mu c 9 (cn 5 [99] 5 0) S11 w11 (SrcLe 6) (src_le 6) 200 (cn_ok (by decide) (by decide) (by decide)) P3.out.io P3.out.st P3.out.ng (Nat.zero_le _) (by decide) (by decide))
  rw [cn_4] at K
  refine K.out.mono ?_
  rintro e w12 ⟨S12, rfl, hA⟩
  have P4 := Lib.hid (P3.out.step hA)
  have OB4 := Lib.hid (hA.bytes OB3.out.1 OB3.out.2)
  clear hA K P3 OB3
  dsimp only
  go_wp2_with fail
  have K := Lib.hid (cend_any (srcR g (q + 3)) 28 (fun w => methR g w) (enters_of Try.func75 (by kernel_rfl) rfl) src_mu c 9 (cn 6 [] 6 0) S12 w12 (SrcLe 6) (src_le 6) 200 (cn_ok (by decide) (by decide) (by decide)) P4.out.io P4.out.st P4.out.ng (Nat.zero_le _) (by decide))
  rw [cn_5] at K
  refine K.out.mono ?_
  rintro e w13 ⟨S13, rfl, hA⟩
  have P5 := Lib.hid (P4.out.step hA)
  have OB5 := Lib.hid (hA.bytes OB4.out.1 OB4.out.2)
  clear hA K P4 OB4
  dsimp only
  go_wp2_with fail
  have K := Lib.hid (cbyte_any (srcR g (q + 3)) 28 (fun w => methR g w) (enters_of Try.func75 (by kernel_rfl) rfl) src_mu c 9 (cn 7 [] 6 0) S13 w13 (SrcLe 6) (src_le 6) 200 (cn_ok (by decide) (by decide) (by decide)) P5.out.io P5.out.st P5.out.ng (Nat.zero_le _) (by decide) (by decide))
  rw [cn_6] at K
  refine K.out.mono ?_
  rintro e w14 ⟨S14, rfl, hA⟩
  have P6 := Lib.hid (P5.out.step hA)
  have OB6 := Lib.hid (hA.bytes OB5.out.1 OB5.out.2)
  clear hA K P5 OB5
  dsimp only
  have TC := P6.out.tu
  have B14 := Lib.hid (TC.below B8.out B8.out.size fun j e => by have := HZ8.out; rcases e with e | e <;> omega)
  have D14 := Lib.hid (show CPh g2 z4 d 9 28 z4 z6 z6 (cn 0 [5, 172, 2, 97, 98, 99] 0 0) S2 w14 w14 from
    { io := D8.out.io.turns TC fun e => by have := D8.out.gz; rcases e with e | e <;> omega, st := D8.out.st.turns TC (fun j hj e => by have := DS.out j hj; rcases e with e | e <;> omega), ng := D8.out.ng, sub := D8.out.sub, gz := D8.out.gz, hz := Nat.le_trans D8.out.hz TC.size, tu := .refl _ _ })
  have O14 := Lib.hid (O8.out.turns (out_frm (snkW g3 z6) 62 o (Nat.zero_le _)) TC (fun j hj e => by have := OS.out j hj; rcases e with e | e <;> omega) (fun j e => Nat.zero_le _))
  have hz14 := P6.out.hz
  clear TC P6 D8 O8 B8 C8
  have P0 := Lib.hid (D14.out.rebase DS.out (Nat.le_refl w14.heap.size))
  go_wp2_with fail
  have K := Lib.hid (cbytes_any (srcR g2 z4) 28 (fun w => methR g2 w) (enters_of Try.func75 (by kernel_rfl) rfl) src_mu d 9 10 (cn 0 [5, 172, 2, 97, 98, 99] 0 0) S2 w14 (SrcLe 6) 200 (cn_ok (by decide) (by decide) (by decide)) P0.out.io P0.out.st P0.out.ng (Nat.zero_le _) (by decide) (by decide) (by decide) (fun _ _ => .inl (by decide)))
  rw [cn_7] at K
  refine K.out.mono ?_
  rintro e w15 ⟨bv15, S15, rfl, -, -, hA⟩
  have P1 := Lib.hid (P0.out.step hA)
  clear hA K P0
  dsimp only
  go_wp2_with fail
  have K := Lib.hid (cbytes_any (srcR g2 z4) 28 (fun w => methR g2 w) (enters_of Try.func75 (by kernel_rfl) rfl) src_mu d 9 1 (cn 0 [5, 172, 2, 97, 98, 99] 0 42) S15 w15 (SrcLe 6) 200 (cn_ok (by decide) (by decide) (by decide)) P1.out.io P1.out.st P1.out.ng (Nat.zero_le _) (by decide) (by decide) (by decide) (fun _ _ => .inl (by decide)))
  rw [cn_8] at K
  refine K.out.mono ?_
  rintro e w16 ⟨bv16, S16, rfl, -, -, hA⟩
  have P2 := Lib.hid (P1.out.step hA)
  clear hA K P1
  dsimp only
  have TD := P2.out.tu
  have hz16 := TD.size
  have B16 := Lib.hid (TD.below B14.out B14.out.size fun j e => by rcases e with e | e <;> omega)
  have O16 := Lib.hid (O14.out.turns (out_frm (snkW g3 z6) 62 o (Nat.zero_le _)) TD (fun j hj e => by have := OS.out j hj; rcases e with e | e <;> omega) (fun j e => Nat.zero_le _))
  have OB16 := Lib.hid (OB6.out.1.turns TD fun j hj e => by have := OB6.out.1.lt j hj; rcases e with e | e <;> omega)
  clear TD P2 D14 O14 B14 OB6
  go_upto_region 19 with (fail)
  go_wp2_with (at_make; refine wpList_mkT eltTB rfl _ _ rfl 0 5000 5000 (Nat.le_refl _) rfl rfl rfl rfl (by omega) (by unfold maxLen; omega) (Nat.zero_le _) ?_; intro x0 w17 _ o17 _ hb17; have O17 := Lib.hid o17; have HB17 := Lib.hid hb17; clear o17 hb17)
  have F := out_frm (snkW g3 z6) 62 o (lo := 0) (Nat.zero_le _)
  have hz17 := HB17.out.size
  refine (olay_any 62 o F _ _ w17 _ 5000 5000 (List.replicate 5000 x0) (O16.out.keep F HB17.out) O17.out.slI (by decide)).mono ?_
  rintro e w18 ⟨rfl, T1, hO1, hs1, ht1⟩
  have LY : layM (List.replicate 5000 x0) (⟨⟨[], 2, 0, []⟩, [], 0, 0, 0⟩ : COut Snk) = cx0 x0 := by unfold layM; rw [if_pos rfl]; rfl
  rw [LY] at hO1
  have Q1 := Lib.hid hO1
  have U1 := Lib.hid (show ∀ j, T1 j → z6 ≤ j ∧ j < z8 ∨ w16.heap.size ≤ j from fun j hj => by rcases hs1 j hj with h | h; (exact .inl (OS.out j h)); (exact .inr (Nat.le_trans hz17 h)))
  have TT1 := Lib.hid ((Turns.of_below (S := fun j => z6 ≤ j ∧ j < z8 ∨ w16.heap.size ≤ j) HB17.out).trans ht1 fun j _ e => .inl (OS.out j e))
  clear hO1 hs1 ht1 LY O16 O17
  go_wp2_with fail
  obtain ⟨X, hX⟩ : ∃ X, flushM snkM (cx0 x0) = X := ⟨_, rfl⟩
  have E1 := (cx_flush x0).1
  have E2 := (cx_flush x0).2
  have FL := Lib.hid (oflush_any (snkW g3 z6) 62 (fun w => methW g3 w) (enters_of Try.func78 (by kernel_rfl) rfl) o (Nat.zero_le _) (cx0 x0) T1 w18 5000 0 ⟨fun _ => Nat.zero_le _, Nat.zero_le _, by show ([] ++ List.replicate 5000 x0).length + 0 ≤ 5000; simp, fun _ => by show 0 + ([] ++ List.replicate 5000 x0).length ≤ 5000; simp, Nat.le_refl _⟩ Q1.out (by decide) (by decide) (by decide))
  rw [hX] at FL E1 E2
  unfold FlushPost at FL
  rw [E1] at FL
  have HE := Lib.hid (And.intro E1 E2)
  clear hX E1 E2
  refine FL.out.mono ?_
  rintro e w19 ⟨rfl, T2, hO2, hs2, ht2⟩
  have hz18 := TT1.out.size
  have Q2 := Lib.hid hO2
  have U2 := Lib.hid (show ∀ j, T2 j → z6 ≤ j ∧ j < z8 ∨ w16.heap.size ≤ j from fun j hj => by rcases hs2 j hj with h | h; (exact U1.out j h); (exact .inr (by omega)))
  have TT2 := Lib.hid (TT1.out.trans ht2 fun j _ e => U1.out j e)
  have hz19 := TT2.out.size
  clear hO2 hs2 ht2 FL Q1 U1 TT1
  go_wp2_with fail
  refine (olay_any 62 o F X T2 w19 none 0 0 [] Q2.out (Sl.nil _ _) (by rw [HE.out.2]; decide)).mono ?_
  rw [flush_lay (by rw [HE.out.1]; decide) [], HE.out.1]
  rintro e w20 ⟨rfl, T3, hO3, hs3, ht3⟩
  have Q3 := Lib.hid hO3
  have TT3 := Lib.hid (TT2.out.trans ht3 fun j _ e => U2.out j e)
  have LF := Lib.hid (oleft_any o _ X T3 w20 hO3)
  rw [HE.out.2] at LF
  clear hO3 hs3 ht3 Q2 U2 TT2
  go_wp2_with fail
  refine LF.out.mono ?_
  rintro e w21 ⟨rfl, rfl⟩
  have B20 := Lib.hid (TT3.out.below B16.out B16.out.size fun j e => by rcases e with e | e <;> omega)
  have OB20 := Lib.hid (OB16.out.turns TT3.out fun j hj e => by have := OB16.out.lt j hj; rcases e with e | e <;> omega)
  clear LF Q3 TT3 OB16 B16 HE
  have kc := fun (w : World) (C : Array Value) (n c : Nat) => Lib.run_convert_bytes_const (P := Try.prog) w 22 5 C n c Try.underlying22 Try.underlying5
  obtain ⟨ab, nb, cb, rfl, hsb⟩ := OB20.out.slN
  obtain rfl : 2 = nb := hsb.len
  have SB := Lib.hid hsb
  clear hsb
  go_wp2_with fail
  have ba := (Below.refl w20.heap.size w20).alloc (Nat.le_refl _) (.cells #[.int .u8 97, .int .u8 98] 5 (2, 3))
  have SM := Lib.hid (sameD_any ab 2 cb [97, 98] (some ⟨w20.heap.size, 0, none⟩) 2 2 [97, 98] _ (by decide) (by decide) (SB.out.keep ba) (Sl.of_row [97, 98] 2 2 (g := w20.heap.size) (heap_new w20 (.cells #[.int .u8 97, .int .u8 98] 5 (2, 3))) rfl (Nat.le_refl _) rfl : Sl Bf _ _ 2 2 [97, 98]))
  rw [decide_eq_true rfl] at SM
  refine SM.out.mono ?_
  rintro e w22 ⟨rfl, hd⟩
  have B22 := Lib.hid (keep_trans (keep_trans B20.out ba) hd.below)
  clear hd ba SM B20
  go_wp2_with fail
  go_ret
  exact ⟨rfl, B22.out⟩
end Go.Proofs.Ytpenbaafhbbmhaa

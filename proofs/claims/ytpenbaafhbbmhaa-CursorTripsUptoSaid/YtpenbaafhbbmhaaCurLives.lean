/- lives of chapter 04; a source in front of both Ins: plain facts and what stands in memory. Conditions: numbers within reach. -/
import Derived.Test.YtpenbaafhbbmhaaCurDuo
namespace Go.Proofs.Ytpenbaafhbbmhaa
open Go.RowKit Go.Shelf
set_option maxRecDepth 100000
set_option linter.unusedVariables false
set_option linter.unusedSimpArgs false

theorem src_mu : ∀ (s : Src) (n : Nat), srcM.mu (srcM.nxt s n) ≤ srcM.mu s := fun s n => by
  have := congrArg List.length (s.parts n)
  rw [List.length_append] at this
  show (s.rest n).length ≤ s.left.length
  omega
/-- no more bytes than that are left -/
def SrcLe (L : Nat) (s : Src) : Prop := s.left.length ≤ L
theorem src_le (L : Nat) : ∀ (s : Src) (n : Nat), SrcLe L s → SrcLe L (srcM.nxt s n) := fun s n h => Nat.le_trans (src_mu s n) h
theorem src_caps {L : Nat} {s : Src} (h : SrcLe L s) (hL : L ≤ 140737488351232) (n : Nat) : Caps srcM s n :=
  .inr ⟨fun s => s.left.length, fun s n h1 h2 => srcM.volS s n h1 h2, Nat.le_trans h hL⟩
section
variable {σ : Type} {R : Rm σ} {P : σ → Prop} {most kind n : Int} {Bd : Nat} {c : CIn σ}
theorem Okay.ask (hmu : ∀ s n, R.mu (R.nxt s n) ≤ R.mu s) (hP : ∀ s n, P s → P (R.nxt s n)) (h : Okay R P most Bd c) : Okay R P most (Bd + 352) (askM R most kind n c) := by
  unfold askM
  split
  · exact (h.byte hmu hP).mono (by omega)
  split
  · exact (h.bytes hmu hP).1.mono (by omega)
  split
  · exact h.num hmu hP
  split
  · exact (h.end' hmu hP).mono (by omega)
  · exact h.mono (by omega)
end
theorem lives_num : (numM srcM 9 ⟨⟨[], 0, 0, [172, 2], false⟩, 0, 0, 0, []⟩).1 = 300 ∧ (numM srcM 9 ⟨⟨[], 0, 0, [172, 2], false⟩, 0, 0, 0, []⟩).2.1 = 0 := ⟨by rfl, by rfl⟩
set_option maxHeartbeats 2000000 in
theorem lives_any (w : World) : Calls Try.prog 9 #[] w fun e w' => e = .returned (.bool true) ∧ Below w.heap.size w w' := by
  have hlit := Sl.lit (f := Bf) w 5 #[.int .u8 172, .int .u8 2] [172, 2] 2 rfl rfl
  have hb0 : Below w.heap.size w (w.alloc (.cells #[.int .u8 172, .int .u8 2] 5)) := (Below.refl _ _).alloc (Nat.le_refl _) _
  have NS := Lib.hid (newSource_any (some ⟨w.heap.size, 0, none⟩) 2 2 [172, 2] none 0 0 [] 0 false _ (by omega) (by omega) (fun x h => by cases h) hlit (Sl.nil _ _))
  have B0 := Lib.hid hb0
  clear hlit hb0
  go_enter Try.func9, Try.ntmps9
  go_wp2_with fail
  refine NS.out.mono ?_
  rintro e w1 ⟨g, S, rfl, hs, hb1⟩
  have SP := Lib.hid hs
  have B1 := Lib.hid (B0.out.trans (hb1.mono B0.out.size))
  clear hs hb1 NS
  go_wp2_with fail
  refine (newIn_any 28 (.pointer (some ⟨g, 0, none⟩)) 9 w1 (by decide)).mono ?_
  rintro e w2 ⟨rfl, hI, hb2⟩
  have B2 := Lib.hid (keep_trans B1.out hb2)
  have SP2 := Lib.hid (SP.out.keep hb2)
  have NG := Lib.hid (show ¬ S w1.heap.size from fun h => by have := (SP.out.inS _ h).2; omega)
  have CN := Lib.hid (cnum_any (srcR g (w.alloc (.cells #[.int .u8 172, .int .u8 2] 5)).heap.size) 28 (fun w => methR g w) (enters_of Try.func75 (by kernel_rfl) rfl) src_mu w1.heap.size 9 ⟨⟨[], 0, 0, [172, 2], false⟩, 0, 0, 0, []⟩ S w2 (SrcLe 2) (src_le 2) 34
    { idle := fun _ => by decide, id2 := by decide, pl := by decide, held := by decide, p := Nat.le_refl _, bud := Nat.le_refl _ } hI SP2.out NG.out (Nat.zero_le _) (by decide) (by decide))
  clear hI hb2
  go_wp2_with fail
  refine CN.out.mono ?_
  rintro e w3 ⟨S3, rfl, hA⟩
  have hz0 : (w.alloc (.cells #[.int .u8 172, .int .u8 2] 5)).heap.size = w.heap.size + 1 := by simp
  have B3 := Lib.hid (hA.tu.below B2.out B2.out.size fun j e => by
    rcases e with e | e
    · have := (SP.out.inS j e).1; omega
    · have := B1.out.size; omega)
  clear hA hz0
  rw [lives_num.1, lives_num.2]
  go_wp2_with fail
  go_ret
  exact ⟨rfl, B3.out⟩
end Go.Proofs.Ytpenbaafhbbmhaa

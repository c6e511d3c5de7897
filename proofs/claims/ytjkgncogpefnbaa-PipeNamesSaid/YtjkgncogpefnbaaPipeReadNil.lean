/- Read of a source into no place at all, where it fails or has nothing left. Condition: numbers within reach. -/
import Derived.Test.YtjkgncogpefnbaaPipeSrc
namespace Go.Proofs.Ytjkgncogpefnbaa
open Go.RowKit
set_option linter.unusedVariables false
set_option linter.unusedSimpArgs false

set_option maxRecDepth 100000 in
set_option maxHeartbeats 2000000 in
theorem sread_nil (g lo : Nat) (s : Src) (S : Nat → Prop) (w : World) (h : SrcP g lo s S w) (hc : s.calls ≤ 4611686018427387904) (he : badB s.fail s.calls = true ∨ s.left = []) :
    Calls Try.prog 16 #[.pointer (some ⟨g, 0, none⟩), .slice none 0 0] w fun e w' => e = .returned (.tuple #[.int .i64 0, .int .i64 (s.err 0 : Nat)]) ∧ Turns (fun j => j = g) w w' := by
  obtain ⟨vm, vl, hb, ⟨am, nm, cm, rfl, hm, hmS⟩, ⟨al, nl, cl, rfl, hl, hlS⟩⟩ := h.blk
  obtain rfl : s.left.length = nl := hl.len
  have NX := Lib.hid (next_any g _ 91 am nm cm s.most s.fail s.calls 0 w hb rfl rfl rfl hm (fun b o e hn0 => (hmS b o e hn0).2) h.ints hc (by omega))
  have hset := set_block (i := 2) hb (.int .i64 ((s.calls : Int) + 1))
  have SET := Lib.hid hset
  have T1 := Lib.hid (Turns.set (S := fun j => j = g) w (b := g) (i := 2) rfl (.int .i64 ((s.calls : Int) + 1)))
  clear hb hm hmS hl hlS hset h
  by_cases hbad : badB s.fail s.calls = true
  · obtain ⟨e1, e2, e3⟩ := Src.bad (n := 0) hbad
    have E2 := Lib.hid e2
    have NX2 := NX.out
    rw [nextK_bad hbad, hbad] at NX2
    replace NX := Lib.hid NX2
    clear NX2 hbad e1 e2 e3 he
    go_enter Try.func16, Try.ntmps16
    go_wp2_with fail
    refine NX.out.mono ?_
    rintro e w1 ⟨rfl, hd⟩
    have D1 := Lib.hid hd.below
    clear hd NX
    go_wp2_with fail
    go_ret2
    exact ⟨by rw [E2.out]; rfl, T1.out.trans_below D1.out⟩
  · have hbad : badB s.fail s.calls = false := by simpa using hbad
    have hl1 : s.left = [] := by rcases he with e | e; (rw [hbad] at e; cases e); (exact e)
    obtain ⟨e1, e2, e3⟩ := Src.good (n := 0) hbad
    have E3 := Lib.hid (show s.err 0 = 31 by rw [e3, if_pos hl1])
    have NX2 := NX.out
    rw [nextK_ok hbad, hbad] at NX2
    replace NX := Lib.hid NX2
    have s3 : (w.setCell ⟨g, 2, none⟩ (.int .i64 ((s.calls : Int) + 1))).cell? ⟨g, 3, none⟩ = some (.slice al s.left.length cl) := cell_of SET.out 3 rfl
    have hl0 : s.left.length = 0 := by rw [hl1]; rfl
    rw [hl0] at s3
    clear NX2 hbad e1 e2 e3 he hl1 hl0
    go_enter Try.func16, Try.ntmps16
    go_wp2_with fail
    refine NX.out.mono ?_
    rintro e w1 ⟨rfl, m, rfl⟩
    have D1 := Lib.hid (keep_drewN (Below.refl (w.setCell ⟨g, 2, none⟩ (.int .i64 ((s.calls : Int) + 1))).heap.size (w.setCell ⟨g, 2, none⟩ (.int .i64 ((s.calls : Int) + 1)))) m)
    clear NX
    go_wp2_with fail
    go_ret2
    exact ⟨by rw [E3.out]; rfl, T1.out.trans_below D1.out⟩
end Go.Proofs.Ytjkgncogpefnbaa

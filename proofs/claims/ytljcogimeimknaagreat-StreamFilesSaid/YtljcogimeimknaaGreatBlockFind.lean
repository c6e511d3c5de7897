/- Find: contract. Conditions: numbers within reach. -/
import Derived.Test.YtljcogimeimknaaGreatBlockFindC
import Derived.BigQuiet
import Derived.Shelf.Abstract
namespace Go.Proofs.YtljcogimeimknaaGreat
open Go.RowKit Go.Shelf
set_option linter.unusedVariables false
set_option linter.unusedSimpArgs false

theorem FoundO.turns {w w' : World} {S : Nat → Prop} {base : Nat} {v : Value} {ov : Option (List UInt8)} (h : FoundO w base v ov) (ht : Turns S w w') (hs : ∀ j, base ≤ j → ¬ S j) : FoundO w' base v ov := by
  rcases h with h | ⟨x, h1, h2⟩
  · exact .inl h
  · exact .inr ⟨x, h1, h2.turns ht fun j hj => hs j (h2.lt j hj).1⟩
theorem FoundO.keep {w w' : World} {base : Nat} {v : Value} {ov : Option (List UInt8)} (h : FoundO w base v ov) (hb : Below w.heap.size w w') : FoundO w' base v ov := h.turns (S := fun _ => False) (.of_below hb) fun _ _ e => e
theorem FoundO.base {w : World} {base base' : Nat} {v : Value} {ov : Option (List UInt8)} (h : FoundO w base v ov) (hb : base' ≤ base) : FoundO w base' v ov := by
  rcases h with h | ⟨x, h1, h2⟩
  · exact .inl h
  · exact .inr ⟨x, h1, h2.base hb⟩
theorem FoundO.sl {w : World} {base : Nat} {v : Value} {ov : Option (List UInt8)} (h : FoundO w base v ov) : ∃ a n c, v = .slice a n c ∧ Sl Bf w a n c (ov.getD []) := by
  rcases h with ⟨rfl, rfl⟩ | ⟨x, rfl, h2⟩
  · exact ⟨none, 0, 0, rfl, Sl.nil _ _⟩
  · obtain ⟨a, n, c, rfl, hs⟩ := h2.slN
    exact ⟨a, n, c, rfl, hs⟩
theorem FoundO.slI {w : World} {base : Nat} {a : Option Addr} {n c : Nat} {ov : Option (List UInt8)} (h : FoundO w base (.slice a n c) ov) :
    Sl Bf w a n c (ov.getD []) ∧ n ≤ c ∧ c ≤ 9223372036854775807 ∧ Soft w a c ∧ ∀ j, Value.ownBlock (.slice a n c) = some j → base ≤ j ∧ j < w.heap.size := by
  rcases h with ⟨rfl, e⟩ | ⟨x, rfl, h2⟩
  · cases e
    exact ⟨Sl.nil _ _, Nat.le_refl _, by omega, fun i hi => by omega, fun j e => by cases e⟩
  · obtain ⟨k1, k2, k3⟩ := h2.capB
    exact ⟨h2.slI, k2, k3, h2.soft, h2.lt⟩
set_option maxRecDepth 100000 in
set_option maxHeartbeats 4000000 in
theorem bfind_any (ab : Option Addr) (nb cb : Nat) (b : List UInt8) (ak : Option Addr) (nk ck : Nat) (key : List UInt8) (w : World) (hnb : nb ≤ 140737488351232) (hB : Sl Bf w ab nb cb b) (hK : Sl Bf w ak nk ck key) :
    Calls Tryz.prog 48 #[.slice ab nb cb, .slice ak nk ck] w fun e w' => (∃ ov er v, FindR b key ov er ∧ e = .returned (.tuple #[v, .bool ov.isSome, .int .i64 er]) ∧ FoundO w' w.heap.size v ov) ∧ Below w.heap.size w w' := by
  have hmf : ∀ (fn : Fn) (first cap : Array Value) (w : World), (Instr.makeFunc fn first cap).run Tryz.prog w = .ok (.func fn first cap) w := fun _ _ _ _ => rfl
  have H0 := Lib.hid hB
  have HK0 := Lib.hid hK
  clear hB hK
  go_enter Tryz.func48, Tryz.ntmps48
  go_wp2_with fail
  have hA := allocs_get w [.cells #[.slice ab nb cb] 22, .cells #[.slice ak nk ck] 22, .cells #[.slice none 0 0] 22, .cells #[.bool false] 4]
  obtain ⟨W4, hW4⟩ : ∃ V, (((w.alloc (.cells #[.slice ab nb cb] 22)).alloc (.cells #[.slice ak nk ck] 22)).alloc (.cells #[.slice none 0 0] 22)).alloc (.cells #[.bool false] 4) = V := ⟨_, rfl⟩
  rw [show List.foldl World.alloc w [_, _, _, _] = W4 from hW4] at hA
  rw [hW4]
  obtain ⟨z4, b4, h4⟩ := hA
  clear hW4
  have F0 := Lib.hid (show W4.heap[w.heap.size]? = some (.cells #[.slice ab nb cb] 22 (0, 0)) from h4 0 _ rfl)
  have F1 := Lib.hid (show W4.heap[w.heap.size + 1]? = some (.cells #[.slice ak nk ck] 22 (0, 0)) from h4 1 _ rfl)
  have F2 := Lib.hid (show W4.heap[w.heap.size + 1 + 1]? = some (.cells #[.slice none 0 0] 22 (0, 0)) from h4 2 _ rfl)
  have F3 := Lib.hid (show W4.heap[w.heap.size + 1 + 1 + 1]? = some (.cells #[.bool false] 4 (0, 0)) from h4 3 _ rfl)
  have B4 := Lib.hid b4
  have hz4 : W4.heap.size = w.heap.size + 4 := by rw [z4]; simp
  obtain ⟨W5, hW5⟩ : ∃ V, W4.alloc (.cells #[.int .i64 0, .int .i64 0] 158) = V := ⟨_, rfl⟩
  have b5 : Below W4.heap.size W4 W5 := hW5 ▸ (Below.refl _ _).alloc (Nat.le_refl _) _
  have g5 : WB W5 W4.heap.size 0 0 := hW5 ▸ heap_new W4 _
  have z5 : W5.heap.size = w.heap.size + 5 := by rw [← hW5]; simp; omega
  have B5 := Lib.hid (keep_trans b4 b5)
  have HF := bfind1_any w.heap.size (w.heap.size + 1) (w.heap.size + 1 + 1 + 1) (w.heap.size + 1 + 1) ab nb cb b ak nk ck key W5 hnb (H0.out.keep B5.out) (HK0.out.keep B5.out) (blk_keep' F0.out b5) (blk_keep' F1.out b5) (blk_keep' F3.out b5) (blk_keep' F2.out b5) ⟨by omega, by omega, by omega, by omega, by omega⟩
    (fun bb o e h => by subst e; have := H0.out.blt h; omega) (fun bb o e h => by subst e; have := HK0.out.blt h; omega)
  refine (tried_any 93 _ (fun e q w' => FBox W5 w' (w.heap.size + 1 + 1 + 1) (w.heap.size + 1 + 1) b key e) W4 (enters_of Tryz.func93 (by kernel_rfl) rfl)
      (by rw [hW5]; exact HF.mono fun r w2 ⟨e, q, h1, h2⟩ => ⟨e, q, h1, h2, h2.1.heap g5 (by omega)⟩)).mono ?_
  rintro r w7 ⟨e1, q1, w6, rfl, ⟨hT, ov, v, hfr, hgi, hgv, hfo⟩, hT3⟩
  have gi7 := hT3.heap hgi (by omega)
  have gv7 := hT3.heap hgv (by omega)
  have fo7 := hfo.turns hT3 fun j hj e => by omega
  have B6 : Below w.heap.size w w6 := hT.below B5.out (by omega) fun j hj => by omega
  have B7 : Below w.heap.size w w7 := hT3.below B6 (by have := B6.size; omega) fun j hj => by omega
  obtain ⟨w8, hw8⟩ : ∃ V, w7.alloc (.cells #[.int .i64 e1, .int .i64 q1] 158) = V := ⟨_, rfl⟩
  have b8 : Below w7.heap.size w7 w8 := hw8 ▸ (Below.refl _ _).alloc (Nat.le_refl _) _
  have g8 : w8.heap[w7.heap.size]? = some (.cells #[.int .i64 e1, .int .i64 q1] 158 (0, 0)) := hw8 ▸ heap_new w7 _
  have c0 := cell_of (blk_keep' gi7 b8) 0 rfl
  have c1 := cell_of (blk_keep' gv7 b8) 0 rfl
  have c2 := cell_of g8 0 rfl
  have FO := Lib.hid ((fo7.keep b8).base (base' := w.heap.size) (by omega))
  have B8 := Lib.hid (B7.trans (b8.mono B7.size))
  have FR := Lib.hid hfr
  clear hT hT3 hfr hgi hgv hfo gi7 gv7 fo7 B6 B7 HF h4 b4 hW5 g5 b5 B4 B5 F0 F1 F2 F3 b8 g8
  go_wp2_with fail
  clear hw8
  go_quiet (fail)
  go_wp2_with fail
  refine bodyPost_ret (v := .tuple #[v, .bool ov.isSome, .int .i64 e1]) (by simp [results, Tryz.results48, go_sem]) rfl ?_
  exact ⟨⟨ov, e1, v, FR.out, rfl, FO.out.keep (keep_drewN (Below.refl _ _) _)⟩, keep_drewN B8.out _⟩
end Go.Proofs.YtljcogimeimknaaGreat

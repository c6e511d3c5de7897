/- The document's Parse: contract. Condition: the bytes within reach. -/
import Derived.Test.YtljcogimeimknaaGreatRdSome
import Derived.Test.YtljcogimeimknaaGreatK8p
namespace Go.Proofs.YtljcogimeimknaaGreat
open Go.RowKit Go.Shelf
set_option linter.unusedVariables false
set_option linter.unusedSimpArgs false

theorem Sl.nilZ' (w : World) : Sl fZ w none 0 0 [] := ⟨rfl, Nat.le_refl _, fun _ => rfl, fun i x h => by simp at h⟩
/-- what Parse gives -/
def paM (es : List Ent) (s : RS) : List Ent × Int × Int := if s.er = 0 then (es, 0, 0) else ([], s.er, (s.pt : Int))
theorem paM_ok {es : List Ent} {s : RS} (h : s.er = 0) : paM es s = (es, 0, 0) := by unfold paM; rw [if_pos h]
theorem paM_er {es : List Ent} {s : RS} (h : ¬ s.er = 0) : paM es s = ([], s.er, (s.pt : Int)) := by unfold paM; rw [if_neg h]
set_option maxRecDepth 100000 in
set_option maxHeartbeats 4000000 in
theorem rparse8_any {m : Nat} (hm : (4611686018427387904 : Int) = (m : Nat)) (a : Option Addr) (n c : Nat) (bs : List UInt8) (w : World) (hn : n ≤ 140737488351232) (h : Sl Bf w a n c bs) :
    Calls Tryz.prog 30 #[.slice a n c] w fun e w' => ∃ ay ny cy es s' l' b who', takeM m (RS0 ⟨[], 0, 0, bs, false⟩) [] = (es, s', l', b) ∧
      e = .returned (.tuple #[.slice ay ny cy, .int .i64 (paM es s').2.1, .int .i64 (paM es s').2.2]) ∧ LfD w' (.slice ay ny cy) (paM es s').1 who' ∧ (∀ j, who' j ≠ 0 → w.heap.size ≤ j) ∧ Below w.heap.size w w' := by
  obtain rfl : bs.length = n := h.len
  have H := Lib.hid h
  have hok := RS0.ok (L := bs.length) (x := ⟨[], 0, 0, bs, false⟩) (show bs.length ≤ bs.length from Nat.le_refl _) rfl
  obtain ⟨s0, hs0⟩ : ∃ s, RS0 ⟨[], 0, 0, bs, false⟩ = s := ⟨_, rfl⟩
  have hbA : ∀ b o, a = some ⟨b, o, none⟩ → 0 < bs.length → b < w.heap.size := fun b o e hp => by subst e; exact h.blt hp
  rw [hs0] at hok ⊢
  have HS0 := Lib.hid hs0
  have HOK := Lib.hid hok
  have HM := Lib.hid hm
  have HBA := Lib.hid hbA
  clear h hok hs0 hm hbA
  obtain ⟨w1, hw1⟩ : ∃ V, w.alloc (.cells (rcells a bs.length c none 0 0 0 false 0 0) 65) = V := ⟨_, rfl⟩
  have b1 : Below w.heap.size w w1 := hw1 ▸ (Below.refl _ _).alloc (Nat.le_refl _) _
  have gt1 : w1.heap[w.heap.size]? = some (.cells (rcells a bs.length c none 0 0 0 false 0 0) 65 (0, 0)) := hw1 ▸ heap_new w _
  have HW1 := Lib.hid (show w.alloc (.cells #[.slice a bs.length c, .slice none 0 0, .int .i64 0, .bool false, .int .i64 0, .int .i64 0, .bool false, .slice none 0 0, .slice none 0 0, .int .u8 0, .int .u8 0, .slice none 0 0] 65) = w1 from hw1)
  have RN := Lib.hid (refnew_any (lo := w.heap.size) (gt := w.heap.size) (H.out.keep b1) (Sl.nilZ' w1) (fun x hx => by cases hx) HBA.out (fun b o e => by cases e) gt1 (Nat.le_refl _))
  have B1 := Lib.hid b1
  clear hw1 b1 gt1
  go_enter Tryz.func30, Tryz.ntmps30
  go_wp2_with fail
  rw [HW1.out]
  refine RN.out.mono ?_
  rintro r w2 ⟨g, gi, who, rfl, hR, hb, hwo⟩
  rw [HS0.out] at hR
  have SO := rsome_any hn HM.out (by have := HM.out; omega) hR (LfD.nil none 0 (fun _ => rfl)) HOK.out hn (by simp)
  have SOH := Lib.hid SO
  have B2 := Lib.hid (keep_trans B1.out hb)
  have LOW := Lib.hid (fun j (hj : who j ≠ 0) => (hR.low j hj).1)
  clear hR hb SO RN hwo
  go_wp2_with fail
  refine SOH.out.mono ?_
  rintro r w3 ⟨y, bg, S', lv, rv, vs, who', s', l', es, b, rfl, htk, hy, hlf, hR, hG⟩
  obtain ⟨ay, cy, v9, rfl, -⟩ := hy.parts
  obtain ⟨ny, hny⟩ : ∃ k, es.length = k := ⟨_, rfl⟩
  rw [hny] at hy ⊢
  have EN := Lib.hid hy
  have LOW3 := Lib.hid (fun j (hj : who' j ≠ 0) => (hR.low j hj).1)
  have B3 := Lib.hid (hG.t.below B2.out B2.out.size fun j hj => LOW.out j hj.1)
  have TK := Lib.hid htk
  have c3 := hR.c3
  have c4 := hR.c4
  clear htk hy hlf hR hG hny SOH
  by_cases he : s'.er = 0
  · have f1 : (s'.er != 0) = false := by rw [he]; rfl
    have E1 := Lib.hid he
    clear he
    go_wp2_with fail
    go_ret3
    exact ⟨ay, ny, cy, es, s', l', b, who', TK.out, by rw [paM_ok E1.out]; rfl, by rw [paM_ok E1.out]; exact EN.out, LOW3.out, B3.out⟩
  · have f1 : (s'.er != 0) = true := by rw [bne_iff_ne]; exact he
    have E1 := Lib.hid he
    clear he
    go_wp2_with fail
    go_quiet (fail)
    go_wp2_with fail
    go_ret3
    exact ⟨none, 0, 0, es, s', l', b, who', TK.out, by rw [paM_er E1.out]; rfl, by rw [paM_er E1.out]; exact LfD.nil none 0 (fun _ => rfl), LOW3.out, keep_drewN B3.out _⟩
end Go.Proofs.YtljcogimeimknaaGreat

/- Get, the program's and the document's: contracts. Conditions: the bytes and the key within reach. -/
import Derived.Test.YtljcogimeimknaaGreatFileRRow
import Derived.Test.YtljcogimeimknaaGreatFootFind
import Derived.Test.YtljcogimeimknaaGreatBlockFind
import Derived.Test.YtljcogimeimknaaGreatBlockFindM
import Derived.Test.YtljcogimeimknaaGreatBlockRFind
namespace Go.Proofs.YtljcogimeimknaaGreat
open Go.RowKit
open Lib (hid)
set_option linter.unusedVariables false
set_option linter.unusedSimpArgs false

theorem fblk_good {b : List UInt8} {x : Row} {B : List UInt8} {l : List Ent} (h : fblk b x = (B, l, 0)) : (∃ q, bread B = (l, q, 0)) ∧ B.length ≤ b.length := by
  unfold fblk fblI at h
  split at h
  · rename_i h1; simp only [Prod.mk.injEq] at h; exact absurd h.2.2 h1
  unfold fblR at h
  split at h
  · rename_i h1; simp only [Prod.mk.injEq] at h; exact absurd h.2.2 h1
  rename_i h1
  split at h
  · simp only [Prod.mk.injEq] at h; exact absurd h.2.2 (by decide)
  simp only [Prod.mk.injEq] at h
  obtain ⟨e1, e2, -⟩ := h
  refine ⟨⟨(bread B).2.1, ?_⟩, ?_⟩
  · rw [← e1, ← e2]
    have : (bread (fin (cutR b x) 66).1).2.2 = 0 := Classical.byContradiction fun q => h1 q
    rw [← this]
  · rw [← e1]
    refine Nat.le_trans (fin_len _ _) ?_
    unfold cutR
    rw [List.length_take, List.length_drop]; omega
theorem FRows.fit {n : Nat} {rs : List Row} (h : FRows n rs) (hn : n ≤ 140737488351232) : FitR 140737488351232 rs := fun r hr => by
  obtain ⟨h1, h2, h3, h4, h5⟩ := h.row r hr
  refine ⟨by omega, ⟨by omega, by omega⟩, ⟨by omega, by omega⟩, ⟨by omega, by omega⟩⟩
theorem fget_none {b : List UInt8} {rs : List Row} {key : List UInt8} (h : fnd rs key = rs.length) : fget b rs key = (none, 0) := by
  unfold fget; rw [List.getElem?_eq_none (by omega)]
theorem fget_some {b : List UInt8} {rs : List Row} {key : List UInt8} {x : Row} (h : rs[fnd rs key]? = some x) : fget b rs key = fgtX key (fblk b x) := by
  unfold fget; rw [h]
theorem fgtX_no {key : List UInt8} {X : List UInt8 × List Ent × Int} (h : X.2.2 ≠ 0) : fgtX key X = (none, X.2.2) := by unfold fgtX; rw [if_pos h]
theorem fgtX_ok {key : List UInt8} {X : List UInt8 × List Ent × Int} (h : X.2.2 = 0) : fgtX key X = (lfind X.2.1 key, 0) := by unfold fgtX; rw [if_neg (fun e => e h)]
set_option maxRecDepth 100000 in
set_option maxHeartbeats 8000000 in
theorem sget_any {w : World} {lo hi g : Nat} {b : List UInt8} {rs : List Row} {a : Option Addr} {c : Nat} {a2 : Option Addr} {c2 : Nat} {vs : List RV} (h : FlO w lo hi g b rs a c a2 c2 vs) (hR : FRows b.length rs) (hb : b.length ≤ 140737488351232)
    (ak : Option Addr) (nk ck : Nat) (key : List UInt8) (hK : Sl Bf w ak nk ck key) :
    Calls Tryz.prog 16 #[.pointer (some ⟨g, 0, none⟩), .slice ak nk ck] w fun e w' => ∃ v, e = .returned (.tuple #[v, .bool (fget b rs key).1.isSome, .int .i64 (fget b rs key).2]) ∧ FoundO w' w.heap.size v (fget b rs key).1 ∧ Below w.heap.size w w' := by
  obtain ⟨R, hG⟩ : ∃ R, fget b rs key = R := ⟨_, rfl⟩
  rw [hG]
  have f1 := cell_of h.blk 1 rfl
  have hm := hR.many
  have FD := hid (find_any a2 rs.length c2 rs ak nk ck key w (by omega) h.spans hK)
  have HF := hid h
  have HR := hid hR
  have HK := hid hK
  have HG := hid hG
  clear h hR hK hG
  obtain ⟨n, hn⟩ : ∃ n, rs.length = n := ⟨_, rfl⟩
  rw [hn] at f1 FD hm
  have HN := hid hn
  clear hn
  go_enter Tryz.func16, Tryz.ntmps16
  go_wp2_with fail
  refine FD.out.mono ?_
  rintro e w2 ⟨⟨r, rfl, h1, h2, h3⟩, hb2⟩
  have hr : fnd rs key = r := fnd_of HR.out.chk (by rw [HN.out]; exact h1) h2 (by rw [HN.out]; exact h3)
  have B2 := hid hb2
  have F2 := hid (HF.out.keep hb2 HF.out.top)
  have f1 := cell_of F2.out.blk 1 rfl
  rw [HN.out] at f1
  have HRR := hid hr
  clear h2 h3 hb2 FD hr
  by_cases hrn : r = n
  · subst hrn
    have u1 : ((r : Int) == (r : Int)) = true := by simp
    have u1' : (r == r) = true := by simp
    have FIN := hid (show R = (none, 0) by rw [← HG.out]; exact fget_none (by rw [HRR.out, HN.out]))
    go_wp2_with fail
    go_ret3
    rw [FIN.out]
    exact ⟨_, rfl, .inl ⟨rfl, rfl⟩, B2.out⟩
  have u1 : ((r : Int) == (n : Int)) = false := by rw [beq_eq_false_iff_ne]; omega
  have u1' : (r == n) = false := by rw [beq_eq_false_iff_ne]; omega
  have hrl : r < n := by omega
  obtain ⟨x, hx⟩ : ∃ x, rs[r]? = some x := ⟨_, List.getElem?_eq_getElem (by rw [HN.out]; exact hrl)⟩
  obtain ⟨bb, oo, al, nl, cl, ha, c0, c1, c2', c3, sx⟩ := F2.out.spans.rowF hx
  have hxi := HR.out.row x (List.mem_of_getElem? hx)
  have FGX := hid (show R = fgtX key (fblk b x) by rw [← HG.out]; exact fget_some (by rw [HRR.out]; exact hx))
  have BK := hid (sblock_any F2.out hb x hxi al nl cl sx)
  subst ha
  clear hrn h1 hx sx hxi HG
  go_wp2_with fail
  refine BK.out.mono ?_
  rintro e w3 ⟨hb3, v, y, vl, rfl, hov, -⟩
  obtain ⟨⟨B, l, er⟩, hX⟩ : ∃ X, fblk b x = X := ⟨_, rfl⟩
  rw [hX] at hov ⊢
  dsimp only at hov ⊢
  have B3 := hid (keep_trans B2.out hb3)
  have O3 := hid hov
  have HX := hid hX
  rw [hX] at FGX
  clear hb3 hov BK c0 c1 c2' c3 hX
  by_cases he : er = 0
  case neg =>
    have t2 : (er != 0) = true := by rw [bne_iff_ne]; exact he
    have FIN := hid (show R = (none, er) by rw [FGX.out]; exact fgtX_no he)
    clear he
    go_wp2_with fail
    go_ret3
    rw [FIN.out]
    exact ⟨_, rfl, .inl ⟨rfl, rfl⟩, B3.out⟩
  subst he
  have t2 : ((0 : Int) != 0) = false := by decide
  obtain ⟨⟨q, hq⟩, hBl⟩ := fblk_good HX.out
  have HQ := hid hq
  have FIN := hid (show R = (lfind l key, 0) by rw [FGX.out]; exact fgtX_ok rfl)
  obtain ⟨av, nv, cv, rfl, zv⟩ := O3.out.slN
  have BF := hid (bfind_any av nv cv B ak nk ck key w3 (by rw [← zv.len]; omega) zv (HK.out.keep B3.out))
  have HBL := hid hBl
  clear hq zv hBl
  go_wp2_with fail
  refine BF.out.mono ?_
  rintro e w4 ⟨⟨ov, er, v4, hfr, rfl, hfo⟩, hb4⟩
  obtain ⟨rfl, rfl⟩ := find_law (by have := HBL.out; omega) HQ.out hfr
  have FO := hid (hfo.base B3.out.size)
  have B4 := hid (keep_trans B3.out hb4)
  clear hfr hfo hb4
  go_wp2_with fail
  go_ret3
  rw [FIN.out]
  exact ⟨_, rfl, FO.out, B4.out⟩

set_option maxRecDepth 100000 in
set_option maxHeartbeats 8000000 in
theorem rget_any {w : World} {b : List UInt8} {rs : List Row} {ab : Option Addr} {nb cb : Nat} {ar : Option Addr} {nr cr : Nat} (hB : Sl Bf w ab nb cb b) (hS : Spans w ar nr cr rs) (hR : FRows b.length rs) (hb : b.length ≤ 140737488351232)
    (ak : Option Addr) (nk ck : Nat) (key : List UInt8) (hnk : nk ≤ 140737488351232) (hK : Sl Bf w ak nk ck key) :
    Calls Tryz.prog 17 #[.slice ab nb cb, .slice ar nr cr, .slice ak nk ck] w fun e w' => ∃ a n c, e = .returned (.tuple #[.slice a n c, .bool (fget b rs key).1.isSome, .int .i64 (fget b rs key).2]) ∧ Sl Bf w' a n c ((fget b rs key).1.getD []) ∧ Below w.heap.size w w' := by
  obtain ⟨R, hG⟩ : ∃ R, fget b rs key = R := ⟨_, rfl⟩
  rw [hG]
  have hm := hR.many
  have hn : rs.length = nr := hS.1
  have FD := hid (frfind_any ar nr cr rs ak nk ck key w (by omega) (hR.fit hb) hnk hS hK)
  have HS := hid hS
  have HB := hid hB
  have HR := hid hR
  have HK := hid hK
  have HG := hid hG
  have HN := hid hn
  rw [hn] at hm
  clear hS hR hK hG hB hn
  obtain ⟨r, hr⟩ : ∃ r, fnd rs key = r := ⟨_, rfl⟩
  rw [hr] at FD
  have hrle : r ≤ nr := by rw [← hr, ← HN.out]; exact fnd_le rs key
  have HRR := hid hr
  clear hr
  go_enter Tryz.func17, Tryz.ntmps17
  go_wp2_with fail
  refine FD.out.mono ?_
  rintro e w2 ⟨rfl, hb2⟩
  have B2 := hid hb2
  have S2 := hid (HS.out.keep hb2)
  clear hb2 FD
  by_cases hrn : r = nr
  · subst hrn
    have u1 : ((r : Int) == (r : Int)) = true := by simp
    have u1' : (r == r) = true := by simp
    have FIN := hid (show R = (none, 0) by rw [← HG.out]; exact fget_none (by rw [HRR.out, HN.out]))
    go_wp2_with fail
    go_ret3
    rw [FIN.out]
    exact ⟨_, _, _, rfl, Sl.nil _ _, B2.out⟩
  have u1 : ((r : Int) == (nr : Int)) = false := by rw [beq_eq_false_iff_ne]; omega
  have u1' : (r == nr) = false := by rw [beq_eq_false_iff_ne]; omega
  have hrl : r < nr := by omega
  obtain ⟨x, hx⟩ : ∃ x, rs[r]? = some x := ⟨_, List.getElem?_eq_getElem (by rw [HN.out]; exact hrl)⟩
  obtain ⟨bb, oo, al, nl, cl, ha, c0, c1, c2', c3, sx⟩ := S2.out.rowF hx
  have hxi := HR.out.row x (List.mem_of_getElem? hx)
  have FGX := hid (show R = fgtX key (fblk b x) by rw [← HG.out]; exact fget_some (by rw [HRR.out]; exact hx))
  have BK := hid (rrow_any (HB.out.keep B2.out) hb x hxi al nl cl sx)
  subst ha
  clear hrn hrle hx sx hxi HG
  go_wp2_with fail
  refine BK.out.mono ?_
  rintro e w3 ⟨hb3, y, vl, rfl, hl⟩
  obtain ⟨⟨B, l, er⟩, hX⟩ : ∃ X, fblk b x = X := ⟨_, rfl⟩
  rw [hX] at hl ⊢
  dsimp only at hl ⊢
  have B3 := hid (keep_trans B2.out hb3)
  have L3 := hid hl
  rw [hX] at FGX
  replace hX := hid hX
  clear hb3 hl BK c0 c1 c2' c3
  by_cases he : er = 0
  case neg =>
    have t2 : (er != 0) = true := by rw [bne_iff_ne]; exact he
    have FIN := hid (show R = (none, er) by rw [FGX.out]; exact fgtX_no he)
    clear he
    go_wp2_with fail
    go_ret3
    rw [FIN.out]
    exact ⟨_, _, _, rfl, Sl.nil _ _, B3.out⟩
  subst he
  have t2 : ((0 : Int) != 0) = false := by decide
  have FIN := hid (show R = (lfind l key, 0) by rw [FGX.out]; exact fgtX_ok rfl)
  obtain ⟨ay, cy, rfl, hEN⟩ := L3.out.ents
  have hl64 : l.length ≤ 64 := by obtain ⟨⟨q, hq⟩, hBl⟩ := fblk_good hX.out; exact (bread_fine (by omega) hq).2.1
  have RF := hid (rfind_any ay l.length cy l ak nk ck key w3 (fun z u => ∃ a n c, z = .slice a n c ∧ Sl Bf w3 a n c u) (fun W i k v b' o z hW hi ha hz => by
    obtain ⟨b2, o2, a1, n1, c1, a2, n2, c2, h0, -, h1, -, h2⟩ := hEN.2.2.2 i k v hi
    rw [ha] at h0
    cases h0
    rw [(World.cell?_of_block (a := ⟨b', _, none⟩) (hW.block b' (cell_lt h1))).trans h1] at hz
    cases hz
    exact ⟨_, _, _, rfl, h2⟩) (by omega) hEN (HK.out.keep B3.out))
  clear hEN
  go_wp2_with fail
  refine RF.out.mono ?_
  rintro e w4 ⟨⟨v, rfl, hfo⟩, hb4⟩
  have B4 := hid (keep_trans B3.out hb4)
  have FO : Hid (∃ a n c, v = .slice a n c ∧ Sl Bf w4 a n c ((lfind l key).getD [])) := hid (by
    rcases hfo with ⟨h1, h2⟩ | ⟨u, h1, a, n, c, h2, h3⟩
    · rw [h1]; exact ⟨_, _, _, h2, Sl.nil _ _⟩
    · rw [h1]; exact ⟨a, n, c, h2, h3.keep hb4⟩)
  obtain ⟨a4, n4, c4, hv4, hs4⟩ := FO.out
  subst hv4
  have S4 := hid hs4
  clear hfo hb4 FO hs4
  go_wp2_with fail
  go_ret3
  rw [FIN.out]
  exact ⟨_, _, _, rfl, S4.out, B4.out⟩
end Go.Proofs.YtljcogimeimknaaGreat

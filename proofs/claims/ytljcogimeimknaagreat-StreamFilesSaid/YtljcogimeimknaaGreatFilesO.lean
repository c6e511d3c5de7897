/- StreamFiles: the law's outer loop. Conditions: what it is handed within reach. Written by a program of this place (gen_FilesO.py). -/
import Derived.Test.YtljcogimeimknaaGreatFilesR
import Derived.Test.YtljcogimeimknaaGreatFileRRange
import Derived.Test.YtljcogimeimknaaGreatFileHelp
namespace Go.Proofs.YtljcogimeimknaaGreat
open Go.RowKit Go.Shelf
open Lib (hid)
attribute [local go_sem] Oper.semAt_some
set_option linter.unusedVariables false
set_option linter.unusedSimpArgs false

theorem Lent.turns {S : Nat → Prop} {w w' : World} {g : Nat} {xs : List UInt8} (h : Lent w g xs) (ht : Turns S w w') (hs : ¬ S g) : Lent w' g xs := ht.heap h hs
set_option maxRecDepth 1000000 in
set_option maxHeartbeats 40000000 in
theorem round_in {wA : World} {lo hi g : Nat} {b : List UInt8} {rs : List Row} {a : Option Addr} {c : Nat} {a2 : Option Addr} {c2 : Nat} {vs : List RV} {gx : Nat} {ab aK aR ar : Option Addr} {cb nK cK nR cR nr cr : Nat} {most : Int} {rgs : List (List UInt8 × List UInt8)}
    (hKF : ∀ V, Below wA.heap.size wA V → V.heap[gx]? = some (.cells #[.slice aK nK cK, .slice aR nR cR, .int .i64 most] 26 (0, 0)) ∧ FlO V lo hi g b rs a c a2 c2 vs ∧ Spans V ar nr cr rs ∧ Sl Bf V ab b.length cb b ∧ Ents V aR nR cR rgs)
    (hR : FRows b.length rs) (hb : b.length ≤ 140737488351232) (hmost : -9223372036854775808 ≤ most ∧ most ≤ 9223372036854775807) (hnR : nR ≤ 140737488351232) (hrl : ∀ k, k ∈ rgs → k.1.length ≤ 140737488351232 ∧ k.2.length ≤ 140737488351232)
    {W : World} (hW : Below wA.heap.size wA W) {i : Nat} (hi : i < nR) (ds : List Deferred)
    (c1 c2 c5 c6 c8 c9 c11 c12 c14 c15 c16 c17 c18 c19 c20 c21 c32 c33 c34 c35 c36 c37 c38 c39 c40 c41 c42 c43 c44 c45 c46 c47 c48 c49 c50 c51 c52 c53 c54 c55 c56 c57 c58 c59 c60 c61 c62 c63 c64 c65 c66 c67 c68 c69 c70 c71 c72 c73 c74 c75 c76 c77 c78 c79 c80 c81 c82 c83 c84 c85 c86 c87 c88 c89 c90 c91 c92 c93 c94 c95 c96 c97 c98 c99 c100 c101 c102 c103 c104 c105 c106 c107 c108 c109 c110 c111 c112 c113 c114 c115 c116 c117 c118 c119 c120 c121 c122 c123 c124 c125 c126 c127 c128 c129 c130 c131 c132 c222 c223 c224 c225 c226 : Value) (u4 u13 u23 u24 u25 u26 u27 u28 u29 u30 u31 u133 u134 u135 u136 u137 u138 u139 u140 u141 u142 u143 u144 u145 u146 u147 u148 u149 u150 u151 u152 u153 u154 u155 u156 u157 u158 u159 u160 u161 u162 u163 u164 u165 u166 u167 u168 u169 u170 u171 u172 u173 u174 u175 u176 u177 u178 u179 u180 u181 u182 u183 u184 u185 u186 u187 u188 u189 u190 u191 u192 u193 u194 u195 u196 u197 u198 u199 u200 u201 u202 u203 u204 u205 u206 u207 u208 u209 u210 u211 u212 u213 u214 u215 u216 u217 u218 u219 u220 u221 : Value) (K : Act → World → Prop) (Q0 : Exit → Act → World → Prop)
    (hK : ∀ (u4 u13 u23 u24 u25 u26 u27 u28 u29 u30 u31 u133 u134 u135 u136 u137 u138 u139 u140 u141 u142 u143 u144 u145 u146 u147 u148 u149 u150 u151 u152 u153 u154 u155 u156 u157 u158 u159 u160 u161 u162 u163 u164 u165 u166 u167 u168 u169 u170 u171 u172 u173 u174 u175 u176 u177 u178 u179 u180 u181 u182 u183 u184 u185 u186 u187 u188 u189 u190 u191 u192 u193 u194 u195 u196 u197 u198 u199 u200 u201 u202 u203 u204 u205 u206 u207 u208 u209 u210 u211 u212 u213 u214 u215 u216 u217 u218 u219 u220 u221 : Value) (Es : List Nat) (W' : World), Below W.heap.size W W' → Es.Nodup → (∀ D, D ∈ Es → W'.heap[D]? = some (.deferred (some [])) ∧ W.heap.size ≤ D) → K { tmps := #[.slice ab b.length cb, c1, c2, .pointer (some ⟨gx, 0, none⟩), u4, c5, c6, .pointer (some ⟨g, 0, none⟩), c8, c9, .slice ar nr cr, c11, c12, u13, c14, c15, c16, c17, c18, c19, c20, c21, .int .i64 ((i + 1 : Nat) : Int), u23, u24, u25, u26, u27, u28, u29, u30, u31, c32, c33, c34, c35, c36, c37, c38, c39, c40, c41, c42, c43, c44, c45, c46, c47, c48, c49, c50, c51, c52, c53, c54, c55, c56, c57, c58, c59, c60, c61, c62, c63, c64, c65, c66, c67, c68, c69, c70, c71, c72, c73, c74, c75, c76, c77, c78, c79, c80, c81, c82, c83, c84, c85, c86, c87, c88, c89, c90, c91, c92, c93, c94, c95, c96, c97, c98, c99, c100, c101, c102, c103, c104, c105, c106, c107, c108, c109, c110, c111, c112, c113, c114, c115, c116, c117, c118, c119, c120, c121, c122, c123, c124, c125, c126, c127, c128, c129, c130, c131, c132, u133, u134, u135, u136, u137, u138, u139, u140, u141, u142, u143, u144, u145, u146, u147, u148, u149, u150, u151, u152, u153, u154, u155, u156, u157, u158, u159, u160, u161, u162, u163, u164, u165, u166, u167, u168, u169, u170, u171, u172, u173, u174, u175, u176, u177, u178, u179, u180, u181, u182, u183, u184, u185, u186, u187, u188, u189, u190, u191, u192, u193, u194, u195, u196, u197, u198, u199, u200, u201, u202, u203, u204, u205, u206, u207, u208, u209, u210, u211, u212, u213, u214, u215, u216, u217, u218, u219, u220, u221, c222, c223, c224, c225, c226], defers := Es.map mark ++ ds } W') :
    bodyR.wpIn Fence.wide 4 Tryz.prog (Exit.then K Q0) { tmps := #[.slice ab b.length cb, c1, c2, .pointer (some ⟨gx, 0, none⟩), u4, c5, c6, .pointer (some ⟨g, 0, none⟩), c8, c9, .slice ar nr cr, c11, c12, u13, c14, c15, c16, c17, c18, c19, c20, c21, .int .i64 (i : Nat), u23, u24, u25, u26, u27, u28, u29, u30, u31, c32, c33, c34, c35, c36, c37, c38, c39, c40, c41, c42, c43, c44, c45, c46, c47, c48, c49, c50, c51, c52, c53, c54, c55, c56, c57, c58, c59, c60, c61, c62, c63, c64, c65, c66, c67, c68, c69, c70, c71, c72, c73, c74, c75, c76, c77, c78, c79, c80, c81, c82, c83, c84, c85, c86, c87, c88, c89, c90, c91, c92, c93, c94, c95, c96, c97, c98, c99, c100, c101, c102, c103, c104, c105, c106, c107, c108, c109, c110, c111, c112, c113, c114, c115, c116, c117, c118, c119, c120, c121, c122, c123, c124, c125, c126, c127, c128, c129, c130, c131, c132, u133, u134, u135, u136, u137, u138, u139, u140, u141, u142, u143, u144, u145, u146, u147, u148, u149, u150, u151, u152, u153, u154, u155, u156, u157, u158, u159, u160, u161, u162, u163, u164, u165, u166, u167, u168, u169, u170, u171, u172, u173, u174, u175, u176, u177, u178, u179, u180, u181, u182, u183, u184, u185, u186, u187, u188, u189, u190, u191, u192, u193, u194, u195, u196, u197, u198, u199, u200, u201, u202, u203, u204, u205, u206, u207, u208, u209, u210, u211, u212, u213, u214, u215, u216, u217, u218, u219, u220, u221, c222, c223, c224, c225, c226], defers := ds } W := by
  conv => arg 4; whnf
  have HK := hid hK
  have KF := hid hKF
  have HR := hid hR
  have BW := hid hW
  have HM := hid hmost
  obtain ⟨K0, K1, K2, K3, K5⟩ := hKF W hW
  have x1 := cell_of K0 1 (v := .slice aR nR cR) rfl
  have t4 : decide ((i : Int) < (nR : Int)) = true := decide_eq_true (by omega)
  have t4' : decide (i < nR) = true := decide_eq_true hi
  obtain ⟨⟨kl, kh⟩, hkk⟩ : ∃ x, rgs[i]? = some x := ⟨_, List.getElem?_eq_getElem (by rw [K5.1]; exact hi)⟩
  obtain ⟨bR, oR, al, nl, cl, ah, nh, ch, haR, d0, d1, sl, sh⟩ := K5.2.2.2 i kl kh hkk
  have hnl : nl ≤ 140737488351232 := by rw [← sl.len]; exact (hrl _ (List.mem_of_getElem? hkk)).1
  have hnh : nh ≤ 140737488351232 := by rw [← sh.len]; exact (hrl _ (List.mem_of_getElem? hkk)).2
  have XK := hid (fun (V : World) (hb : Below W.heap.size W V) => (⟨cell_of (KF.out V (keep_trans BW.out hb)).1 1 (v := .slice aR nR cR) rfl, (World.cell?_of_block (hb.block _ (cell_lt d0))).trans d0, (World.cell?_of_block (hb.block _ (cell_lt d1))).trans d1⟩ : V.cell? ⟨gx, 1, none⟩ = some (.slice aR nR cR) ∧ V.cell? ⟨bR, oR + i * 2, none⟩ = some (.slice al nl cl) ∧ V.cell? ⟨bR, oR + i * 2 + 1, none⟩ = some (.slice ah nh ch)))
  have SL := hid (fun (V : World) (hb : Below W.heap.size W V) => sl.keep hb)
  have SH := hid (fun (V : World) (hb : Below W.heap.size W V) => sh.keep hb)
  have LT1 := hid (lent_any al nl cl kl W hnl sl)
  subst haR
  clear K0 K1 K2 K3 K5 hkk sl sh hK hKF hR hW hmost hrl
  gi_wp2
  refine ⟨trivial, ?_⟩
  refine (callsIn_wide.2 LT1.out).mono ?_
  rintro e wa ⟨go1, rfl, hg1, hl1, hba⟩
  have BA := hid hba
  have LA := hid hl1
  obtain ⟨x1, d0, d1⟩ := XK.out wa hba
  have LT2 := hid (lent_any ah nh ch kh wa hnh (SH.out wa hba))
  clear hba hl1 LT1
  gi_wp2
  refine ⟨trivial, ?_⟩
  refine (callsIn_wide.2 LT2.out).mono ?_
  rintro e wb ⟨go2, rfl, hg2, hl2, hbb⟩
  have hg1a : go1 < wa.heap.size := LA.out.lt
  have BB := hid (keep_trans BA.out hbb)
  have LB1 := hid (LA.out.keep hbb)
  have LB2 := hid hl2
  have hla := BA.out.size
  have hlb := hbb.size
  have hkl1 : kl.length = nl := (SL.out wb (keep_trans BA.out hbb)).len
  have hkl2 : kh.length = nh := (SH.out wb (keep_trans BA.out hbb)).len
  have RNG := hid (srange_any g (some ⟨go1, 0, none⟩) nl (nl + 2) kl (some ⟨go2, 0, none⟩) nh (nh + 2) kh wb hnl hnh (hkl1 ▸ LB1.out.sl) (hkl2 ▸ hl2.sl))
  have S1 := hid (fun (V : World) (h : Lent V go1 kl) => (hkl1 ▸ h.soft : Soft V (some ⟨go1, 0, none⟩) (nl + 2)))
  have S2 := hid (fun (V : World) (h : Lent V go2 kh) => (hkl2 ▸ h.soft : Soft V (some ⟨go2, 0, none⟩) (nh + 2)))
  clear hbb hl2 LT2 LA x1 d0 d1 hkl1 hkl2
  gi_wp2
  refine ⟨trivial, ?_⟩
  refine (callsIn_wide.2 RNG.out).mono ?_
  rintro e wc ⟨vl, vh, rfl, hrg, hbc⟩
  have BC := hid (keep_trans BB.out hbc)
  have RG := hid hrg
  have LC1 := hid (LB1.out.keep hbc)
  have LC2 := hid (LB2.out.keep hbc)
  have hlc := hbc.size
  have hg2b : go2 < wb.heap.size := LB2.out.lt
  obtain ⟨GB, hGB⟩ : ∃ G, wb.heap.size = G := ⟨_, rfl⟩
  rw [hGB] at RG ⊢
  have HGB := hid hGB
  clear hbc hrg RNG LB1 LB2 hGB
  gi_wp2
  refine ⟨trivial, ?_⟩
  refine (callsIn_wide.2 (spoil_any (some ⟨go1, 0, none⟩) nl (nl + 2) wc (by omega) (S1.out wc LC1.out))).mono ?_
  rintro e wd ⟨rfl, hgd⟩
  have TD : Turns (fun j => j = go1) wc wd := .of_grown hgd fun j hj => (Option.some.inj hj).symm
  have LD2 := hid (LC2.out.turns TD (by omega))
  have TDH := hid TD
  clear hgd TD
  gi_wp2
  refine ⟨trivial, ?_⟩
  refine (callsIn_wide.2 (spoil_any (some ⟨go2, 0, none⟩) nh (nh + 2) wd (by omega) (S2.out wd LD2.out))).mono ?_
  rintro e we ⟨rfl, hge⟩
  have TE : Turns (fun j => j = go1 ∨ j = go2) wc we := (TDH.out.mono fun j _ e => .inl e).trans (.of_grown (S := fun j => j = go1 ∨ j = go2) hge fun j hj => .inr (Option.some.inj hj).symm) fun _ _ e => e
  have BE := hid (TE.below BC.out BC.out.size fun j hj => by rcases hj with e | e <;> omega)
  have RGE := hid (show RgBox we GB GB g kl kh vl vh from ⟨TE.heap RG.out.1 (by have := HGB.out; omega), TE.heap RG.out.2.1 (by have := HGB.out; omega), TE.heap RG.out.2.2.1 (by have := HGB.out; omega), RG.out.2.2.2.1.turns TE fun j hj e => by (have := (RG.out.2.2.2.1.lt j hj).1; have := HGB.out; omega), RG.out.2.2.2.2.1.turns TE fun j hj e => by (have := (RG.out.2.2.2.2.1.lt j hj).1; have := HGB.out; omega), RG.out.2.2.2.2.2⟩)
  have hle := TE.size
  have BED := hid (show Below W.heap.size W we.drew from BE.out.drew)
  have HBD := hid (show Below we.heap.size we we.drew from (Below.refl _ _).drew)
  have RR := hid (rrange_any (KF.out we.drew (keep_trans BW.out BED.out)).2.2.2.1 (KF.out we.drew (keep_trans BW.out BED.out)).2.2.1 HR.out hb al nl cl kl ah nh ch kh hnl hnh (SL.out _ BED.out) (SH.out _ BED.out))
  obtain ⟨x1, d0, d1⟩ := XK.out we.drew BED.out
  clear hge TE TDH LC1 LC2 LD2 RG BC S1 S2
  gi_wp2
  refine wpIn_wide.2 ?_
  go_still_tail 14, (by kernel_rfl)
  change wpList _ _ _ _ _ we.drew
  go_wp2_with fail
  refine RR.out.mono ?_
  rintro e wf ⟨y, vy, rfl, hry, hbf⟩
  obtain ⟨X, hX⟩ : ∃ X, frng b rs kl kh = X := ⟨_, rfl⟩
  rw [hX] at hry
  obtain ⟨aw, cw, rfl, hEN⟩ := hry.ents
  have BF := hid (keep_trans BED.out hbf)
  have RGF := hid (show RgBox wf GB GB g kl kh vl vh from by
    have hk : Below we.heap.size we wf := keep_trans HBD.out hbf
    have q := RGE.out
    exact ⟨(hk.block _ q.1.lt).trans q.1, (hk.block _ q.2.1.lt).trans q.2.1, (hk.block _ q.2.2.1.lt).trans q.2.2.1, q.2.2.2.1.keep hk, q.2.2.2.2.1.keep hk, q.2.2.2.2.2⟩)
  have EN := hid hEN
  have HX := hid hX
  clear hry hbf hEN hX RR RGE BED HBD BE x1 d0 d1 XK SL SH
  go_wp2_with fail
  gi_wp2
  have bz : Below wf.heap.size wf (wf.alloc (.cells #[.int .i64 0] 3)) := (Below.refl _ _).alloc (Nat.le_refl _) _
  have hz : Boxed (wf.alloc (.cells #[.int .i64 0] 3)) wf.heap.size 3 (.int .i64 0) := Boxed.new _ _ _
  obtain ⟨q1, q2, -, -, -⟩ := KF.out wf (keep_trans BW.out BF.out)
  refine turns_in q2 HR.out hb RGF.out HX.out EN.out q1 HM.out bz hz ds _ _ _ _ _ _ _ _ _ _ _ _ _ _ _ _ _ _ _ _ _ _ _ _ _ _ _ _ _ _ _ _ _ _ _ _ _ _ _ _ _ _ _ _ _ _ _ _ _ _ _ _ _ _ _ _ _ _ _ _ _ _ _ _ _ _ _ _ _ _ _ _ _ _ _ _ _ _ _ _ _ _ _ _ _ _ _ _ _ _ _ _ _ _ _ _ _ _ _ _ _ _ _ _ _ _ _ _ _ _ _ _ _ _ _ _ _ _ _ _ _ _ _ _ _ _ _ _ _ _ _ _ _ _ _ _ _ _ _ _ _ _ _ _ _ _ _ _ _ _ _ _ _ _ _ _ _ _ _ _ _ _ _ _ _ _ _ _ _ _ _ _ _ _ _ _ _ _ _ _ _ _ _ _ _ _ _ _ _ _ _ _ _ _ _ _ _ _ _ _ _ _ _ _ _ _ _ _ _ _ _ _ _ _ _ _ _ _ _ _ _ _ _ _ ?_
  intro u13 u28 u29 u30 u31 u177 u178 u179 u180 u181 u182 u183 u184 u185 u186 u187 u188 u189 u190 u191 u192 u193 u194 u195 u196 u197 u198 u199 u200 u201 u202 u203 u204 u205 u206 u207 u208 u209 u210 u211 u212 u213 u214 u215 u216 u217 u218 u219 u220 u221 Es Bt' W' h1 h2 h3
  have BW' := hid (show Below W.heap.size W W' from BF.out.trans ((bz.mono (by omega)).trans (h1.mono (by have := bz.size; have := BF.out.size; omega)) |>.mono BF.out.size))
  have ND := hid h2
  have MK := hid (show ∀ D, D ∈ Es → W'.heap[D]? = some (.deferred (some [])) ∧ W.heap.size ≤ D from fun D hD => ⟨(h3 D hD).1, Nat.le_trans (Nat.le_trans BF.out.size bz.size) (h3 D hD).2⟩)
  have r9 : IntKind.i64.wrap ((i : Int) + 1) = (i : Int) + 1 := IntWalk.i64_in _ (by omega)
  clear h1 h2 h3 bz hz q1 q2 RGF EN HX BF
  gi_wp2
  exact HK.out _ _ _ _ _ _ _ _ _ _ _ _ _ _ _ _ _ _ _ _ _ _ _ _ _ _ _ _ _ _ _ _ _ _ _ _ _ _ _ _ _ _ _ _ _ _ _ _ _ _ _ _ _ _ _ _ _ _ _ _ _ _ _ _ _ _ _ _ _ _ _ _ _ _ _ _ _ _ _ _ _ _ _ _ _ _ _ _ _ _ _ _ _ _ _ _ _ _ _ _ Es W' BW'.out ND.out MK.out

set_option maxRecDepth 1000000 in
set_option maxHeartbeats 40000000 in
theorem rounds_in {wA : World} {lo hi g : Nat} {b : List UInt8} {rs : List Row} {a : Option Addr} {c : Nat} {a2 : Option Addr} {c2 : Nat} {vs : List RV} {gx : Nat} {ab aK aR ar : Option Addr} {cb nK cK nR cR nr cr : Nat} {most : Int} {rgs : List (List UInt8 × List UInt8)}
    (hKF : ∀ V, Below wA.heap.size wA V → V.heap[gx]? = some (.cells #[.slice aK nK cK, .slice aR nR cR, .int .i64 most] 26 (0, 0)) ∧ FlO V lo hi g b rs a c a2 c2 vs ∧ Spans V ar nr cr rs ∧ Sl Bf V ab b.length cb b ∧ Ents V aR nR cR rgs)
    (hR : FRows b.length rs) (hb : b.length ≤ 140737488351232) (hmost : -9223372036854775808 ≤ most ∧ most ≤ 9223372036854775807) (hnR : nR ≤ 140737488351232) (hrl : ∀ k, k ∈ rgs → k.1.length ≤ 140737488351232 ∧ k.2.length ≤ 140737488351232)
    {W : World} (hW : Below wA.heap.size wA W)
    (c1 c2 c5 c6 c8 c9 c11 c12 c14 c15 c16 c17 c18 c19 c20 c21 c32 c33 c34 c35 c36 c37 c38 c39 c40 c41 c42 c43 c44 c45 c46 c47 c48 c49 c50 c51 c52 c53 c54 c55 c56 c57 c58 c59 c60 c61 c62 c63 c64 c65 c66 c67 c68 c69 c70 c71 c72 c73 c74 c75 c76 c77 c78 c79 c80 c81 c82 c83 c84 c85 c86 c87 c88 c89 c90 c91 c92 c93 c94 c95 c96 c97 c98 c99 c100 c101 c102 c103 c104 c105 c106 c107 c108 c109 c110 c111 c112 c113 c114 c115 c116 c117 c118 c119 c120 c121 c122 c123 c124 c125 c126 c127 c128 c129 c130 c131 c132 c222 c223 c224 c225 c226 : Value) (u4 u13 u23 u24 u25 u26 u27 u28 u29 u30 u31 u133 u134 u135 u136 u137 u138 u139 u140 u141 u142 u143 u144 u145 u146 u147 u148 u149 u150 u151 u152 u153 u154 u155 u156 u157 u158 u159 u160 u161 u162 u163 u164 u165 u166 u167 u168 u169 u170 u171 u172 u173 u174 u175 u176 u177 u178 u179 u180 u181 u182 u183 u184 u185 u186 u187 u188 u189 u190 u191 u192 u193 u194 u195 u196 u197 u198 u199 u200 u201 u202 u203 u204 u205 u206 u207 u208 u209 u210 u211 u212 u213 u214 u215 u216 u217 u218 u219 u220 u221 : Value) (Q0 : Exit → Act → World → Prop)
    (hX0 : ∀ (u4 u13 u23 u24 u25 u26 u27 u28 u29 u30 u31 u133 u134 u135 u136 u137 u138 u139 u140 u141 u142 u143 u144 u145 u146 u147 u148 u149 u150 u151 u152 u153 u154 u155 u156 u157 u158 u159 u160 u161 u162 u163 u164 u165 u166 u167 u168 u169 u170 u171 u172 u173 u174 u175 u176 u177 u178 u179 u180 u181 u182 u183 u184 u185 u186 u187 u188 u189 u190 u191 u192 u193 u194 u195 u196 u197 u198 u199 u200 u201 u202 u203 u204 u205 u206 u207 u208 u209 u210 u211 u212 u213 u214 u215 u216 u217 u218 u219 u220 u221 : Value) (i : Nat) (Es : List Nat) (W' : World), Below W.heap.size W W' → Es.Nodup → (∀ D, D ∈ Es → W'.heap[D]? = some (.deferred (some [])) ∧ W.heap.size ≤ D) → Q0 (.exit 2) { tmps := #[.slice ab b.length cb, c1, c2, .pointer (some ⟨gx, 0, none⟩), u4, c5, c6, .pointer (some ⟨g, 0, none⟩), c8, c9, .slice ar nr cr, c11, c12, u13, c14, c15, c16, c17, c18, c19, c20, c21, .int .i64 (i : Nat), u23, u24, u25, u26, u27, u28, u29, u30, u31, c32, c33, c34, c35, c36, c37, c38, c39, c40, c41, c42, c43, c44, c45, c46, c47, c48, c49, c50, c51, c52, c53, c54, c55, c56, c57, c58, c59, c60, c61, c62, c63, c64, c65, c66, c67, c68, c69, c70, c71, c72, c73, c74, c75, c76, c77, c78, c79, c80, c81, c82, c83, c84, c85, c86, c87, c88, c89, c90, c91, c92, c93, c94, c95, c96, c97, c98, c99, c100, c101, c102, c103, c104, c105, c106, c107, c108, c109, c110, c111, c112, c113, c114, c115, c116, c117, c118, c119, c120, c121, c122, c123, c124, c125, c126, c127, c128, c129, c130, c131, c132, u133, u134, u135, u136, u137, u138, u139, u140, u141, u142, u143, u144, u145, u146, u147, u148, u149, u150, u151, u152, u153, u154, u155, u156, u157, u158, u159, u160, u161, u162, u163, u164, u165, u166, u167, u168, u169, u170, u171, u172, u173, u174, u175, u176, u177, u178, u179, u180, u181, u182, u183, u184, u185, u186, u187, u188, u189, u190, u191, u192, u193, u194, u195, u196, u197, u198, u199, u200, u201, u202, u203, u204, u205, u206, u207, u208, u209, u210, u211, u212, u213, u214, u215, u216, u217, u218, u219, u220, u221, c222, c223, c224, c225, c226], defers := Es.map mark } W') :
    (Code.loop bodyR).wpIn Fence.wide 4 Tryz.prog Q0 { tmps := #[.slice ab b.length cb, c1, c2, .pointer (some ⟨gx, 0, none⟩), u4, c5, c6, .pointer (some ⟨g, 0, none⟩), c8, c9, .slice ar nr cr, c11, c12, u13, c14, c15, c16, c17, c18, c19, c20, c21, .int .i64 (0), u23, u24, u25, u26, u27, u28, u29, u30, u31, c32, c33, c34, c35, c36, c37, c38, c39, c40, c41, c42, c43, c44, c45, c46, c47, c48, c49, c50, c51, c52, c53, c54, c55, c56, c57, c58, c59, c60, c61, c62, c63, c64, c65, c66, c67, c68, c69, c70, c71, c72, c73, c74, c75, c76, c77, c78, c79, c80, c81, c82, c83, c84, c85, c86, c87, c88, c89, c90, c91, c92, c93, c94, c95, c96, c97, c98, c99, c100, c101, c102, c103, c104, c105, c106, c107, c108, c109, c110, c111, c112, c113, c114, c115, c116, c117, c118, c119, c120, c121, c122, c123, c124, c125, c126, c127, c128, c129, c130, c131, c132, u133, u134, u135, u136, u137, u138, u139, u140, u141, u142, u143, u144, u145, u146, u147, u148, u149, u150, u151, u152, u153, u154, u155, u156, u157, u158, u159, u160, u161, u162, u163, u164, u165, u166, u167, u168, u169, u170, u171, u172, u173, u174, u175, u176, u177, u178, u179, u180, u181, u182, u183, u184, u185, u186, u187, u188, u189, u190, u191, u192, u193, u194, u195, u196, u197, u198, u199, u200, u201, u202, u203, u204, u205, u206, u207, u208, u209, u210, u211, u212, u213, u214, u215, u216, u217, u218, u219, u220, u221, c222, c223, c224, c225, c226], defers := [] } W := by
  have HX0 := hid hX0
  clear hX0
  refine wpIn_loop_ghost_k (fun f a' W' => ∃ (i : Nat) (u4 u13 u23 u24 u25 u26 u27 u28 u29 u30 u31 u133 u134 u135 u136 u137 u138 u139 u140 u141 u142 u143 u144 u145 u146 u147 u148 u149 u150 u151 u152 u153 u154 u155 u156 u157 u158 u159 u160 u161 u162 u163 u164 u165 u166 u167 u168 u169 u170 u171 u172 u173 u174 u175 u176 u177 u178 u179 u180 u181 u182 u183 u184 u185 u186 u187 u188 u189 u190 u191 u192 u193 u194 u195 u196 u197 u198 u199 u200 u201 u202 u203 u204 u205 u206 u207 u208 u209 u210 u211 u212 u213 u214 u215 u216 u217 u218 u219 u220 u221 : Value) (Es : List Nat), a' = ({ tmps := #[.slice ab b.length cb, c1, c2, .pointer (some ⟨gx, 0, none⟩), u4, c5, c6, .pointer (some ⟨g, 0, none⟩), c8, c9, .slice ar nr cr, c11, c12, u13, c14, c15, c16, c17, c18, c19, c20, c21, .int .i64 (i : Nat), u23, u24, u25, u26, u27, u28, u29, u30, u31, c32, c33, c34, c35, c36, c37, c38, c39, c40, c41, c42, c43, c44, c45, c46, c47, c48, c49, c50, c51, c52, c53, c54, c55, c56, c57, c58, c59, c60, c61, c62, c63, c64, c65, c66, c67, c68, c69, c70, c71, c72, c73, c74, c75, c76, c77, c78, c79, c80, c81, c82, c83, c84, c85, c86, c87, c88, c89, c90, c91, c92, c93, c94, c95, c96, c97, c98, c99, c100, c101, c102, c103, c104, c105, c106, c107, c108, c109, c110, c111, c112, c113, c114, c115, c116, c117, c118, c119, c120, c121, c122, c123, c124, c125, c126, c127, c128, c129, c130, c131, c132, u133, u134, u135, u136, u137, u138, u139, u140, u141, u142, u143, u144, u145, u146, u147, u148, u149, u150, u151, u152, u153, u154, u155, u156, u157, u158, u159, u160, u161, u162, u163, u164, u165, u166, u167, u168, u169, u170, u171, u172, u173, u174, u175, u176, u177, u178, u179, u180, u181, u182, u183, u184, u185, u186, u187, u188, u189, u190, u191, u192, u193, u194, u195, u196, u197, u198, u199, u200, u201, u202, u203, u204, u205, u206, u207, u208, u209, u210, u211, u212, u213, u214, u215, u216, u217, u218, u219, u220, u221, c222, c223, c224, c225, c226], defers := Es.map mark } : Act) ∧ f + i = nR + 1 ∧ i ≤ nR ∧ Below W.heap.size W W' ∧ Es.Nodup ∧ ∀ D, D ∈ Es → W'.heap[D]? = some (.deferred (some [])) ∧ W.heap.size ≤ D) (nR + 1) ?_ ?_
  · exact ⟨0, _, _, _, _, _, _, _, _, _, _, _, _, _, _, _, _, _, _, _, _, _, _, _, _, _, _, _, _, _, _, _, _, _, _, _, _, _, _, _, _, _, _, _, _, _, _, _, _, _, _, _, _, _, _, _, _, _, _, _, _, _, _, _, _, _, _, _, _, _, _, _, _, _, _, _, _, _, _, _, _, _, _, _, _, _, _, _, _, _, _, _, _, _, _, _, _, _, _, _, _, [], rfl, rfl, Nat.zero_le _, Below.refl _ _, List.nodup_nil, fun D h => by simp at h⟩
  · intro f a' W1 hz JJ KK hJ hK
    obtain ⟨i, hz⟩ := hz
    obtain ⟨u4, hz⟩ := hz
    obtain ⟨u13, hz⟩ := hz
    obtain ⟨u23, hz⟩ := hz
    obtain ⟨u24, hz⟩ := hz
    obtain ⟨u25, hz⟩ := hz
    obtain ⟨u26, hz⟩ := hz
    obtain ⟨u27, hz⟩ := hz
    obtain ⟨u28, hz⟩ := hz
    obtain ⟨u29, hz⟩ := hz
    obtain ⟨u30, hz⟩ := hz
    obtain ⟨u31, hz⟩ := hz
    obtain ⟨u133, hz⟩ := hz
    obtain ⟨u134, hz⟩ := hz
    obtain ⟨u135, hz⟩ := hz
    obtain ⟨u136, hz⟩ := hz
    obtain ⟨u137, hz⟩ := hz
    obtain ⟨u138, hz⟩ := hz
    obtain ⟨u139, hz⟩ := hz
    obtain ⟨u140, hz⟩ := hz
    obtain ⟨u141, hz⟩ := hz
    obtain ⟨u142, hz⟩ := hz
    obtain ⟨u143, hz⟩ := hz
    obtain ⟨u144, hz⟩ := hz
    obtain ⟨u145, hz⟩ := hz
    obtain ⟨u146, hz⟩ := hz
    obtain ⟨u147, hz⟩ := hz
    obtain ⟨u148, hz⟩ := hz
    obtain ⟨u149, hz⟩ := hz
    obtain ⟨u150, hz⟩ := hz
    obtain ⟨u151, hz⟩ := hz
    obtain ⟨u152, hz⟩ := hz
    obtain ⟨u153, hz⟩ := hz
    obtain ⟨u154, hz⟩ := hz
    obtain ⟨u155, hz⟩ := hz
    obtain ⟨u156, hz⟩ := hz
    obtain ⟨u157, hz⟩ := hz
    obtain ⟨u158, hz⟩ := hz
    obtain ⟨u159, hz⟩ := hz
    obtain ⟨u160, hz⟩ := hz
    obtain ⟨u161, hz⟩ := hz
    obtain ⟨u162, hz⟩ := hz
    obtain ⟨u163, hz⟩ := hz
    obtain ⟨u164, hz⟩ := hz
    obtain ⟨u165, hz⟩ := hz
    obtain ⟨u166, hz⟩ := hz
    obtain ⟨u167, hz⟩ := hz
    obtain ⟨u168, hz⟩ := hz
    obtain ⟨u169, hz⟩ := hz
    obtain ⟨u170, hz⟩ := hz
    obtain ⟨u171, hz⟩ := hz
    obtain ⟨u172, hz⟩ := hz
    obtain ⟨u173, hz⟩ := hz
    obtain ⟨u174, hz⟩ := hz
    obtain ⟨u175, hz⟩ := hz
    obtain ⟨u176, hz⟩ := hz
    obtain ⟨u177, hz⟩ := hz
    obtain ⟨u178, hz⟩ := hz
    obtain ⟨u179, hz⟩ := hz
    obtain ⟨u180, hz⟩ := hz
    obtain ⟨u181, hz⟩ := hz
    obtain ⟨u182, hz⟩ := hz
    obtain ⟨u183, hz⟩ := hz
    obtain ⟨u184, hz⟩ := hz
    obtain ⟨u185, hz⟩ := hz
    obtain ⟨u186, hz⟩ := hz
    obtain ⟨u187, hz⟩ := hz
    obtain ⟨u188, hz⟩ := hz
    obtain ⟨u189, hz⟩ := hz
    obtain ⟨u190, hz⟩ := hz
    obtain ⟨u191, hz⟩ := hz
    obtain ⟨u192, hz⟩ := hz
    obtain ⟨u193, hz⟩ := hz
    obtain ⟨u194, hz⟩ := hz
    obtain ⟨u195, hz⟩ := hz
    obtain ⟨u196, hz⟩ := hz
    obtain ⟨u197, hz⟩ := hz
    obtain ⟨u198, hz⟩ := hz
    obtain ⟨u199, hz⟩ := hz
    obtain ⟨u200, hz⟩ := hz
    obtain ⟨u201, hz⟩ := hz
    obtain ⟨u202, hz⟩ := hz
    obtain ⟨u203, hz⟩ := hz
    obtain ⟨u204, hz⟩ := hz
    obtain ⟨u205, hz⟩ := hz
    obtain ⟨u206, hz⟩ := hz
    obtain ⟨u207, hz⟩ := hz
    obtain ⟨u208, hz⟩ := hz
    obtain ⟨u209, hz⟩ := hz
    obtain ⟨u210, hz⟩ := hz
    obtain ⟨u211, hz⟩ := hz
    obtain ⟨u212, hz⟩ := hz
    obtain ⟨u213, hz⟩ := hz
    obtain ⟨u214, hz⟩ := hz
    obtain ⟨u215, hz⟩ := hz
    obtain ⟨u216, hz⟩ := hz
    obtain ⟨u217, hz⟩ := hz
    obtain ⟨u218, hz⟩ := hz
    obtain ⟨u219, hz⟩ := hz
    obtain ⟨u220, hz⟩ := hz
    obtain ⟨u221, hz⟩ := hz
    obtain ⟨Es, rfl, hf, hin, hbw, hnd, hmk⟩ := hz
    by_cases hi : i < nR
    · refine round_in hKF hR hb hmost hnR hrl (hW.trans (hbw.mono hW.size)) hi (Es.map mark) _ _ _ _ _ _ _ _ _ _ _ _ _ _ _ _ _ _ _ _ _ _ _ _ _ _ _ _ _ _ _ _ _ _ _ _ _ _ _ _ _ _ _ _ _ _ _ _ _ _ _ _ _ _ _ _ _ _ _ _ _ _ _ _ _ _ _ _ _ _ _ _ _ _ _ _ _ _ _ _ _ _ _ _ _ _ _ _ _ _ _ _ _ _ _ _ _ _ _ _ _ _ _ _ _ _ _ _ _ _ _ _ _ _ _ _ _ _ _ _ _ _ _ _ _ _ _ _ _ _ _ _ _ _ _ _ _ _ _ _ _ _ _ _ _ _ _ _ _ _ _ _ _ _ _ _ _ _ _ _ _ _ _ _ _ _ _ _ _ _ _ _ _ _ _ _ _ _ _ _ _ _ _ _ _ _ _ _ _ _ _ _ _ _ _ _ _ _ _ _ _ _ _ _ _ _ _ _ _ _ _ _ _ _ _ _ _ _ _ _ _ _ KK Q0 ?_
      intro u4 u13 u23 u24 u25 u26 u27 u28 u29 u30 u31 u133 u134 u135 u136 u137 u138 u139 u140 u141 u142 u143 u144 u145 u146 u147 u148 u149 u150 u151 u152 u153 u154 u155 u156 u157 u158 u159 u160 u161 u162 u163 u164 u165 u166 u167 u168 u169 u170 u171 u172 u173 u174 u175 u176 u177 u178 u179 u180 u181 u182 u183 u184 u185 u186 u187 u188 u189 u190 u191 u192 u193 u194 u195 u196 u197 u198 u199 u200 u201 u202 u203 u204 u205 u206 u207 u208 u209 u210 u211 u212 u213 u214 u215 u216 u217 u218 u219 u220 u221 Es2 W' h1 h2 h3
      refine hK _ _ ⟨f - 1, by omega, hJ _ _ _ ⟨i + 1, _, _, _, _, _, _, _, _, _, _, _, _, _, _, _, _, _, _, _, _, _, _, _, _, _, _, _, _, _, _, _, _, _, _, _, _, _, _, _, _, _, _, _, _, _, _, _, _, _, _, _, _, _, _, _, _, _, _, _, _, _, _, _, _, _, _, _, _, _, _, _, _, _, _, _, _, _, _, _, _, _, _, _, _, _, _, _, _, _, _, _, _, _, _, _, _, _, _, _, _, Es2 ++ Es, by rw [List.map_append], by omega, by omega, hbw.trans (h1.mono hbw.size), ?_, ?_⟩⟩
      · exact List.nodup_append.2 ⟨h2, hnd, fun x hx y hy e => by have q1 := (h3 x hx).2; have q2 := (Array.getElem?_eq_some_iff.1 (hmk y hy).1).1; omega⟩
      · intro D hD
        rcases List.mem_append.1 hD with e | e
        · exact ⟨(h3 D e).1, Nat.le_trans hbw.size (h3 D e).2⟩
        · obtain ⟨q1, q2⟩ := hmk D e
          exact ⟨(h1.block D (Array.getElem?_eq_some_iff.1 q1).1).trans q1, q2⟩
    · obtain rfl : i = nR := by omega
      conv => arg 4; whnf
      obtain ⟨K0, -, -, -, -⟩ := hKF W1 (hW.trans (hbw.mono hW.size))
      have x1 := cell_of K0 1 (v := .slice aR i cR) rfl
      have t1 : decide ((i : Int) < (i : Int)) = false := decide_eq_false (by omega)
      have t1' : decide (i < i) = false := decide_eq_false (by omega)
      have BW := hid hbw
      have ND := hid hnd
      have MK := hid hmk
      clear hbw hnd hmk hKF hR hrl hW hJ hK K0
      gi_wp2
      exact HX0.out _ _ _ _ _ _ _ _ _ _ _ _ _ _ _ _ _ _ _ _ _ _ _ _ _ _ _ _ _ _ _ _ _ _ _ _ _ _ _ _ _ _ _ _ _ _ _ _ _ _ _ _ _ _ _ _ _ _ _ _ _ _ _ _ _ _ _ _ _ _ _ _ _ _ _ _ _ _ _ _ _ _ _ _ _ _ _ _ _ _ _ _ _ _ _ _ _ _ _ _ i Es W1 BW.out ND.out MK.out
end Go.Proofs.YtljcogimeimknaaGreat

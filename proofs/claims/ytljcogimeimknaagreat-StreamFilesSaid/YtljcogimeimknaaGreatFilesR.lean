/- StreamFiles: the law's inner loop. Conditions: the file's bytes within reach. Written by a program of this place (gen_FilesR.py). -/
import Derived.Test.YtljcogimeimknaaGreatFilesT
namespace Go.Proofs.YtljcogimeimknaaGreat
open Go.RowKit Go.Shelf
open Lib (hid)
attribute [local go_sem] Oper.semAt_some
set_option linter.unusedVariables false
set_option linter.unusedSimpArgs false

set_option maxRecDepth 1000000 in
set_option maxHeartbeats 40000000 in
theorem turns_in {wI : World} {lo hi g : Nat} {b : List UInt8} {rs : List Row} {a : Option Addr} {c : Nat} {a2 : Option Addr} {c2 : Nat} {vs : List RV} (hF : FlO wI lo hi g b rs a c a2 c2 vs) (hR : FRows b.length rs) (hb : b.length ≤ 140737488351232)
    {LO GL : Nat} {kl kh : List UInt8} {vl vh : Value} (hG : RgBox wI LO GL g kl kh vl vh) {X : List Ent} (hX : frng b rs kl kh = X) {aw : Option Addr} {N cw : Nat} (hE : Ents wI aw N cw X) {gx : Nat} {aK aR : Option Addr} {nK cK nR cR : Nat} {most : Int}
    (hO : wI.heap[gx]? = some (.cells #[.slice aK nK cK, .slice aR nR cR, .int .i64 most] 26 (0, 0))) (hmost : -9223372036854775808 ≤ most ∧ most ≤ 9223372036854775807)
    {W : World} (hW : Below wI.heap.size wI W) {Bt : Nat} (hT : Boxed W Bt 3 (.int .i64 0)) (ds : List Deferred)
    (c0 c1 c2 c4 c5 c6 c7 c8 c9 c10 c11 c12 c14 c15 c16 c17 c18 c19 c20 c21 c22 c23 c24 c32 c33 c34 c35 c36 c37 c38 c39 c40 c41 c42 c43 c44 c45 c46 c47 c48 c49 c50 c51 c52 c53 c54 c55 c56 c57 c58 c59 c60 c61 c62 c63 c64 c65 c66 c67 c68 c69 c70 c71 c72 c73 c74 c75 c76 c77 c78 c79 c80 c81 c82 c83 c84 c85 c86 c87 c88 c89 c90 c91 c92 c93 c94 c95 c96 c97 c98 c99 c100 c101 c102 c103 c104 c105 c106 c107 c108 c109 c110 c111 c112 c113 c114 c115 c116 c117 c118 c119 c120 c121 c122 c123 c124 c125 c126 c127 c128 c129 c130 c131 c132 c133 c134 c135 c136 c137 c138 c139 c140 c141 c142 c143 c144 c145 c146 c147 c148 c149 c150 c151 c152 c153 c154 c155 c156 c157 c158 c159 c160 c161 c162 c163 c164 c165 c166 c167 c168 c169 c170 c171 c172 c173 c174 c175 c176 c222 c223 c224 c225 c226 : Value) (u13 u28 u29 u30 u31 u177 u178 u179 u180 u181 u182 u183 u184 u185 u186 u187 u188 u189 u190 u191 u192 u193 u194 u195 u196 u197 u198 u199 u200 u201 u202 u203 u204 u205 u206 u207 u208 u209 u210 u211 u212 u213 u214 u215 u216 u217 u218 u219 u220 u221 : Value) (Q0 : Exit → Act → World → Prop)
    (hX0 : ∀ (u13 u28 u29 u30 u31 u177 u178 u179 u180 u181 u182 u183 u184 u185 u186 u187 u188 u189 u190 u191 u192 u193 u194 u195 u196 u197 u198 u199 u200 u201 u202 u203 u204 u205 u206 u207 u208 u209 u210 u211 u212 u213 u214 u215 u216 u217 u218 u219 u220 u221 : Value) (Es : List Nat) (Bt' : Nat) (W' : World), Below W.heap.size W W' → Es.Nodup → (∀ D, D ∈ Es → W'.heap[D]? = some (.deferred (some [])) ∧ W.heap.size ≤ D) → Q0 (.exit 4) { tmps := #[c0, c1, c2, .pointer (some ⟨gx, 0, none⟩), c4, c5, c6, c7, c8, c9, c10, c11, c12, u13, c14, c15, c16, c17, c18, c19, c20, c21, c22, c23, c24, .func (.func 52) #[] #[.pointer (some ⟨GL, 0, none⟩), .pointer (some ⟨GL + 1, 0, none⟩), .pointer (some ⟨GL + 1 + 1, 0, none⟩)], .slice aw N cw, .pointer (some ⟨Bt', 0, none⟩), u28, u29, u30, u31, c32, c33, c34, c35, c36, c37, c38, c39, c40, c41, c42, c43, c44, c45, c46, c47, c48, c49, c50, c51, c52, c53, c54, c55, c56, c57, c58, c59, c60, c61, c62, c63, c64, c65, c66, c67, c68, c69, c70, c71, c72, c73, c74, c75, c76, c77, c78, c79, c80, c81, c82, c83, c84, c85, c86, c87, c88, c89, c90, c91, c92, c93, c94, c95, c96, c97, c98, c99, c100, c101, c102, c103, c104, c105, c106, c107, c108, c109, c110, c111, c112, c113, c114, c115, c116, c117, c118, c119, c120, c121, c122, c123, c124, c125, c126, c127, c128, c129, c130, c131, c132, c133, c134, c135, c136, c137, c138, c139, c140, c141, c142, c143, c144, c145, c146, c147, c148, c149, c150, c151, c152, c153, c154, c155, c156, c157, c158, c159, c160, c161, c162, c163, c164, c165, c166, c167, c168, c169, c170, c171, c172, c173, c174, c175, c176, u177, u178, u179, u180, u181, u182, u183, u184, u185, u186, u187, u188, u189, u190, u191, u192, u193, u194, u195, u196, u197, u198, u199, u200, u201, u202, u203, u204, u205, u206, u207, u208, u209, u210, u211, u212, u213, u214, u215, u216, u217, u218, u219, u220, u221, c222, c223, c224, c225, c226], defers := Es.map mark ++ ds } W') :
    (Code.loop bodyT).wpIn Fence.wide 4 Tryz.prog Q0 { tmps := #[c0, c1, c2, .pointer (some ⟨gx, 0, none⟩), c4, c5, c6, c7, c8, c9, c10, c11, c12, u13, c14, c15, c16, c17, c18, c19, c20, c21, c22, c23, c24, .func (.func 52) #[] #[.pointer (some ⟨GL, 0, none⟩), .pointer (some ⟨GL + 1, 0, none⟩), .pointer (some ⟨GL + 1 + 1, 0, none⟩)], .slice aw N cw, .pointer (some ⟨Bt, 0, none⟩), u28, u29, u30, u31, c32, c33, c34, c35, c36, c37, c38, c39, c40, c41, c42, c43, c44, c45, c46, c47, c48, c49, c50, c51, c52, c53, c54, c55, c56, c57, c58, c59, c60, c61, c62, c63, c64, c65, c66, c67, c68, c69, c70, c71, c72, c73, c74, c75, c76, c77, c78, c79, c80, c81, c82, c83, c84, c85, c86, c87, c88, c89, c90, c91, c92, c93, c94, c95, c96, c97, c98, c99, c100, c101, c102, c103, c104, c105, c106, c107, c108, c109, c110, c111, c112, c113, c114, c115, c116, c117, c118, c119, c120, c121, c122, c123, c124, c125, c126, c127, c128, c129, c130, c131, c132, c133, c134, c135, c136, c137, c138, c139, c140, c141, c142, c143, c144, c145, c146, c147, c148, c149, c150, c151, c152, c153, c154, c155, c156, c157, c158, c159, c160, c161, c162, c163, c164, c165, c166, c167, c168, c169, c170, c171, c172, c173, c174, c175, c176, u177, u178, u179, u180, u181, u182, u183, u184, u185, u186, u187, u188, u189, u190, u191, u192, u193, u194, u195, u196, u197, u198, u199, u200, u201, u202, u203, u204, u205, u206, u207, u208, u209, u210, u211, u212, u213, u214, u215, u216, u217, u218, u219, u220, u221, c222, c223, c224, c225, c226], defers := ds } W := by
  have hN1 := hX0
  have HX0 := hid hX0
  clear hX0 hN1
  refine wpIn_loop_ghost_k (fun f a' W' => ∃ (t Bt' : Nat) (u13 u28 u29 u30 u31 u177 u178 u179 u180 u181 u182 u183 u184 u185 u186 u187 u188 u189 u190 u191 u192 u193 u194 u195 u196 u197 u198 u199 u200 u201 u202 u203 u204 u205 u206 u207 u208 u209 u210 u211 u212 u213 u214 u215 u216 u217 u218 u219 u220 u221 : Value) (Es : List Nat), a' = ({ tmps := #[c0, c1, c2, .pointer (some ⟨gx, 0, none⟩), c4, c5, c6, c7, c8, c9, c10, c11, c12, u13, c14, c15, c16, c17, c18, c19, c20, c21, c22, c23, c24, .func (.func 52) #[] #[.pointer (some ⟨GL, 0, none⟩), .pointer (some ⟨GL + 1, 0, none⟩), .pointer (some ⟨GL + 1 + 1, 0, none⟩)], .slice aw N cw, .pointer (some ⟨Bt', 0, none⟩), u28, u29, u30, u31, c32, c33, c34, c35, c36, c37, c38, c39, c40, c41, c42, c43, c44, c45, c46, c47, c48, c49, c50, c51, c52, c53, c54, c55, c56, c57, c58, c59, c60, c61, c62, c63, c64, c65, c66, c67, c68, c69, c70, c71, c72, c73, c74, c75, c76, c77, c78, c79, c80, c81, c82, c83, c84, c85, c86, c87, c88, c89, c90, c91, c92, c93, c94, c95, c96, c97, c98, c99, c100, c101, c102, c103, c104, c105, c106, c107, c108, c109, c110, c111, c112, c113, c114, c115, c116, c117, c118, c119, c120, c121, c122, c123, c124, c125, c126, c127, c128, c129, c130, c131, c132, c133, c134, c135, c136, c137, c138, c139, c140, c141, c142, c143, c144, c145, c146, c147, c148, c149, c150, c151, c152, c153, c154, c155, c156, c157, c158, c159, c160, c161, c162, c163, c164, c165, c166, c167, c168, c169, c170, c171, c172, c173, c174, c175, c176, u177, u178, u179, u180, u181, u182, u183, u184, u185, u186, u187, u188, u189, u190, u191, u192, u193, u194, u195, u196, u197, u198, u199, u200, u201, u202, u203, u204, u205, u206, u207, u208, u209, u210, u211, u212, u213, u214, u215, u216, u217, u218, u219, u220, u221, c222, c223, c224, c225, c226], defers := Es.map mark ++ ds } : Act) ∧ f + t = 3 ∧ t ≤ 2 ∧ Boxed W' Bt' 3 (.int .i64 (t : Nat)) ∧ Below W.heap.size W W' ∧ Es.Nodup ∧ ∀ D, D ∈ Es → W'.heap[D]? = some (.deferred (some [])) ∧ W.heap.size ≤ D) 3 ?_ ?_
  · exact ⟨0, Bt, _, _, _, _, _, _, _, _, _, _, _, _, _, _, _, _, _, _, _, _, _, _, _, _, _, _, _, _, _, _, _, _, _, _, _, _, _, _, _, _, _, _, _, _, _, _, _, _, _, _, [], rfl, rfl, by decide, hT, Below.refl _ _, List.nodup_nil, fun D h => by simp at h⟩
  · intro f a' W1 hz JJ KK hJ hK
    obtain ⟨t, hz⟩ := hz
    obtain ⟨Bt', hz⟩ := hz
    obtain ⟨u13, hz⟩ := hz
    obtain ⟨u28, hz⟩ := hz
    obtain ⟨u29, hz⟩ := hz
    obtain ⟨u30, hz⟩ := hz
    obtain ⟨u31, hz⟩ := hz
    obtain ⟨u177, hz⟩ := hz
    obtain ⟨u178, hz⟩ := hz
    obtain ⟨u179, hz⟩ := hz
    obtain ⟨u180, hz⟩ := hz
    obtain ⟨u181, hz⟩ := hz
    obtain ⟨u182, hz⟩ := hz
    obtain ⟨u183, hz⟩ := hz
    obtain ⟨u184, hz⟩ := hz
    obtain ⟨u185, hz⟩ := hz
    obtain ⟨u186, hz⟩ := hz
    obtain ⟨u187, hz⟩ := hz
    obtain ⟨u188, hz⟩ := hz
    obtain ⟨u189, hz⟩ := hz
    obtain ⟨u190, hz⟩ := hz
    obtain ⟨u191, hz⟩ := hz
    obtain ⟨u192, hz⟩ := hz
    obtain ⟨u193, hz⟩ := hz
    obtain ⟨u194, hz⟩ := hz
    obtain ⟨u195, hz⟩ := hz
    obtain ⟨u196, hz⟩ := hz
    obtain ⟨u197, hz⟩ := hz
    obtain ⟨u198, hz⟩ := hz
    obtain ⟨u199, hz⟩ := hz
    obtain ⟨u200, hz⟩ := hz
    obtain ⟨u201, hz⟩ := hz
    obtain ⟨u202, hz⟩ := hz
    obtain ⟨u203, hz⟩ := hz
    obtain ⟨u204, hz⟩ := hz
    obtain ⟨u205, hz⟩ := hz
    obtain ⟨u206, hz⟩ := hz
    obtain ⟨u207, hz⟩ := hz
    obtain ⟨u208, hz⟩ := hz
    obtain ⟨u209, hz⟩ := hz
    obtain ⟨u210, hz⟩ := hz
    obtain ⟨u211, hz⟩ := hz
    obtain ⟨u212, hz⟩ := hz
    obtain ⟨u213, hz⟩ := hz
    obtain ⟨u214, hz⟩ := hz
    obtain ⟨u215, hz⟩ := hz
    obtain ⟨u216, hz⟩ := hz
    obtain ⟨u217, hz⟩ := hz
    obtain ⟨u218, hz⟩ := hz
    obtain ⟨u219, hz⟩ := hz
    obtain ⟨u220, hz⟩ := hz
    obtain ⟨u221, hz⟩ := hz
    obtain ⟨Es, rfl, hf, ht2, hbt, hbw, hnd, hmk⟩ := hz
    by_cases ht : t < 2
    · refine turn_in hF hR hb hG hX hE hO hmost (hW.trans (hbw.mono hW.size)) ht hbt (Es.map mark ++ ds) _ _ _ _ _ _ _ _ _ _ _ _ _ _ _ _ _ _ _ _ _ _ _ _ _ _ _ _ _ _ _ _ _ _ _ _ _ _ _ _ _ _ _ _ _ _ _ _ _ _ _ _ _ _ _ _ _ _ _ _ _ _ _ _ _ _ _ _ _ _ _ _ _ _ _ _ _ _ _ _ _ _ _ _ _ _ _ _ _ _ _ _ _ _ _ _ _ _ _ _ _ _ _ _ _ _ _ _ _ _ _ _ _ _ _ _ _ _ _ _ _ _ _ _ _ _ _ _ _ _ _ _ _ _ _ _ _ _ _ _ _ _ _ _ _ _ _ _ _ _ _ _ _ _ _ _ _ _ _ _ _ _ _ _ _ _ _ _ _ _ _ _ _ _ _ _ _ _ _ _ _ _ _ _ _ _ _ _ _ _ _ _ _ _ _ _ _ _ _ _ _ _ _ _ _ _ _ _ _ _ _ _ _ _ _ _ _ _ _ _ _ _ _  KK Q0 ?_
      intro u13 u28 u29 u30 u31 u177 u178 u179 u180 u181 u182 u183 u184 u185 u186 u187 u188 u189 u190 u191 u192 u193 u194 u195 u196 u197 u198 u199 u200 u201 u202 u203 u204 u205 u206 u207 u208 u209 u210 u211 u212 u213 u214 u215 u216 u217 u218 u219 u220 u221 D0 Bt2 W' h1 h2 h3 h4 h5
      refine hK _ _ ⟨f - 1, by omega, hJ _ _ _ ⟨t + 1, Bt2, _, _, _, _, _, _, _, _, _, _, _, _, _, _, _, _, _, _, _, _, _, _, _, _, _, _, _, _, _, _, _, _, _, _, _, _, _, _, _, _, _, _, _, _, _, _, _, _, _, _, D0 :: Es, rfl, by omega, by omega, h1, hbw.trans (h3.mono hbw.size), ?_, ?_⟩⟩
      · exact List.nodup_cons.2 ⟨fun e => by have := (Array.getElem?_eq_some_iff.1 (hmk D0 e).1).1; omega, hnd⟩
      · intro D hD
        rcases List.mem_cons.1 hD with e | e
        · subst e; exact ⟨h5, Nat.le_trans hbw.size h4⟩
        · obtain ⟨q1, q2⟩ := hmk D e
          exact ⟨(h3.block D (Array.getElem?_eq_some_iff.1 q1).1).trans q1, q2⟩
    · obtain rfl : t = 2 := by omega
      conv => arg 4; whnf
      have ct := hbt.cell
      have t1 : decide (((2 : Nat) : Int) < 2) = false := rfl
      have BW := hid hbw
      have ND := hid hnd
      have MK := hid hmk
      clear hbw hnd hmk hbt hF hR hG hX hE hO hmost hW hT hJ hK
      gi_wp2
      exact HX0.out _ _ _ _ _ _ _ _ _ _ _ _ _ _ _ _ _ _ _ _ _ _ _ _ _ _ _ _ _ _ _ _ _ _ _ _ _ _ _ _ _ _ _ _ _ _ _ _ _ _  Es Bt' W1 BW.out ND.out MK.out
end Go.Proofs.YtljcogimeimknaaGreat

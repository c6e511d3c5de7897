/- StreamFiles: one turn of the law's inner loop. Conditions: the file's bytes within reach. Written by a program of this place (gen_FilesT.py). -/
import Derived.Test.YtljcogimeimknaaGreatFileRange
import Derived.Test.YtljcogimeimknaaGreatFileSeq
import Derived.Test.YtljcogimeimknaaGreatMarkG
import Derived.Test.YtljcogimeimknaaGreatF8w
import Derived.Test.YtljcogimeimknaaGreatK8b
import Derived.Test.YtljcogimeimknaaGreatF8z
import Derived.StillTailTactics
namespace Go.Proofs.YtljcogimeimknaaGreat
open Go.RowKit Go.Shelf
open Lib (hid)
attribute [local go_sem] Oper.semAt_some
set_option linter.unusedVariables false
set_option linter.unusedSimpArgs false

def loopsOf : Code → List Code
  | .loop c => [c]
  | .seq a b => loopsOf a ++ loopsOf b
  | .block _ c => loopsOf c
  | .scope c => loopsOf c
  | .cond _ a b => loopsOf a ++ loopsOf b
  | _ => []
noncomputable def bodyR : Code := (Tryz.f3.body.map fun c => (loopsOf c).getD 1 .skip).getD .skip
noncomputable def bodyT : Code := (loopsOf bodyR).getD 0 .skip

/-- what stands between two rounds of the law's range: got's box and row -/
def FlI (Bg : Nat) (pre : List (Sv × Sv)) (who : Nat → Nat) (W : World) : Prop :=
  ∃ v, Boxed W Bg 48 v ∧ who Bg = 0 ∧ OwZ fE zE W (Bg + 1) 51 v pre ∧ (∀ j, v.ownBlock = some j → who j = 0) ∧ Bg < W.heap.size
section
variable {A B W : World} {Bg : Nat} {pre : List (Sv × Sv)} {who who' : Nat → Nat}
theorem FlI.gr (h : FlI Bg pre who A) (hG : Gr A B who who') : FlI Bg pre who' B := by
  obtain ⟨v, h1, h2, h7, h8, h9⟩ := h
  exact ⟨v, hG.t.heap h1 (fun e => e h2), (hG.o _ h1.lt).trans h2, h7.of_block fun j hj => hG.t.block j (h7.t.lt j hj).2 (fun e => e (h8 j hj)), fun j hj => (hG.o _ (h7.t.lt j hj).2).trans (h8 j hj), Nat.lt_of_lt_of_le h9 hG.t.size⟩
theorem FlI.put {l : Nat} {o : Obj} (h : FlI Bg pre who W) (ho : W.heap[l]? = some o) (hc : o.isCells = false) (o' : Obj) : FlI Bg pre who (W.putObj l o') := by
  obtain ⟨v, h1, h2, h7, h8, h9⟩ := h
  have ht := Turns.putObj (T := fun j => j = l) W l o' rfl
  have kill : ∀ {j : Nat} {cs : Array Value} {t : TypeId} {f : Nat × Nat}, W.heap[j]? = some (.cells cs t f) → ¬ j = l := fun hj e => by subst e; rw [hj] at ho; cases ho; cases hc
  refine ⟨v, ht.heap h1 (kill h1), h2, h7.of_block fun j hj => ht.block j (h7.t.lt j hj).2 ?_, h8, Nat.lt_of_lt_of_le h9 ht.size⟩
  rcases h7 with ⟨rfl, _⟩ | ⟨q, cap, rfl, _, hh, _⟩
  · cases hj
  · cases hj; exact kill hh
theorem FlI.app {w1 : World} {v : Value} {o : Obj} {x : Sv × Sv} {a1 : Option Addr} {n1 c1 BW : Nat} (h1 : Boxed W Bg 48 v) (h2 : who Bg = 0)
    (h7 : OwZ fE zE W (Bg + 1) 51 v pre) (h8 : ∀ j, v.ownBlock = some j → who j = 0) (h9 : Bg < W.heap.size) (hnew : ∀ j, W.heap.size ≤ j → who j = 0)
    (V1 : Boxed w1 Bg 48 v) (O1 : OwZ fE zE w1 (Bg + 1) 51 (.slice a1 n1 c1) (pre ++ [x])) (G1 : (W.alloc o).grownBy w1 v.ownBlock) (HV : Value.ownBlock (.slice a1 n1 c1) = v.ownBlock ∨ Value.ownBlock (.slice a1 n1 c1) = some (W.alloc o).heap.size) :
    KeepsFrom BW W (w1.setCell ⟨Bg, 0, none⟩ (.slice a1 n1 c1)) ∧ Turns (fun j => who j = 0) W (w1.setCell ⟨Bg, 0, none⟩ (.slice a1 n1 c1)) ∧ FlI Bg (pre ++ [x]) who (w1.setCell ⟨Bg, 0, none⟩ (.slice a1 n1 c1)) := by
  have e0 : Below W.heap.size W (W.alloc o) := (Below.refl _ _).alloc (Nat.le_refl _) _
  have s1 : W.heap.size ≤ w1.heap.size := Nat.le_trans e0.size G1.size
  have hOWN : ∀ j, Value.ownBlock (.slice a1 n1 c1) = some j → who j = 0 := fun j hj => by
    rcases HV with q | q
    · exact h8 j (q ▸ hj)
    · rw [q] at hj; cases hj; exact hnew _ e0.size
  have hT : Turns (fun j => v.ownBlock = some j ∨ j = Bg) W (w1.setCell ⟨Bg, 0, none⟩ (.slice a1 n1 c1)) :=
    ((Turns.of_below (S := fun j => v.ownBlock = some j ∨ j = Bg) e0).trans (.of_grown (S := fun j => v.ownBlock = some j ∨ j = Bg) G1 fun j hj => .inl hj) fun _ _ e => e).trans (Turns.set (S := fun j => v.ownBlock = some j ∨ j = Bg) w1 (b := Bg) (i := 0) (.inr rfl) _) fun _ _ e => e
  refine ⟨(((KeepsOthers.alloc W _).from _).trans (keepsFrom_own (h7.keep e0).t G1)).trans ((KeepsOthers.setCell _ _ _).from _), hT.mono fun j _ hj => by rcases hj with e | e; exact h8 j e; exact e ▸ h2, ?_⟩
  exact ⟨_, V1.set _, h2, O1.of_block fun j hj => Below.heap_setCell _ _ _ _ (by have := (O1.t.lt j hj).1; intro e; have e : j = Bg := e; omega), hOWN, by simp; omega⟩
end
theorem RdW.cellsF {w : World} {lo : Nat} {y : Value} {vs : List (Sv × Sv)} {es : List Ent} (h : RdW w lo y vs es) {j : Nat} (hj : RLB y vs j) : ∃ (cs : Array Value) (t : TypeId) (f : Nat × Nat), w.heap[j]? = some (.cells cs t f) := by
  have ow : ∀ {u : Value} {bb : List UInt8}, OwT fB w lo 5 u bb → u.ownBlock = some j → ∃ (cs : Array Value) (t : TypeId) (f : Nat × Nat), w.heap[j]? = some (.cells cs t f) := fun {u bb} ho hu => by
    rcases ho with ⟨q, _⟩ | ⟨gg, cap, ys2, q, _, hh, _⟩
    · rw [q] at hu; cases hu
    · rw [q] at hu; cases hu; exact ⟨_, _, _, hh⟩
  rcases hj with hj | ⟨i, x, hx, hj⟩
  · rcases h.own with ⟨q, _⟩ | ⟨gg, cap, q, _, hh, _⟩
    · rw [q] at hj; cases hj
    · rw [q] at hj; cases hj; exact ⟨_, _, _, hh⟩
  · obtain ⟨e, he⟩ := h.get hx
    obtain ⟨o1, o2⟩ := h.txt i x e hx he
    rcases hj with hj | hj
    · exact ow o1 hj
    · exact ow o2 hj
theorem Ents.uptoF {w : World} {a : Option Addr} {n c : Nat} {es : List Ent} (h : Ents w a n c es) (k : Nat) (hk : k ≤ n) : Ents w a k c (es.take k) := by
  have h1 := h.1; have h2 := h.2.1
  refine ⟨by rw [List.length_take]; omega, by omega, h.2.2.1, fun i q x hi => ?_⟩
  have hik : i < k := by have := (List.getElem?_eq_some_iff.1 hi).1; rw [List.length_take] at this; omega
  rw [List.getElem?_take_of_lt hik] at hi
  exact h.2.2.2 i q x hi
/-- how many entries a turn goes through -/
def mostT (t : Nat) (most : Int) (n : Nat) : Nat := if t = 0 ∧ 1 ≤ most then min n most.toNat else n
/-- behind the range -/
def FlG (w0 : World) (X : List Ent) (Bg t : Nat) (most : Int) (ds ds' : List Deferred) (W : World) : Prop :=
  ∃ (D0 : Nat) (pre : List (Sv × Sv)) (who : Nat → Nat), ds' = mark D0 :: ds ∧ Bg < D0 ∧ W.heap[D0]? = some (.deferred (some [])) ∧ FlR w0 X pre who W ∧ FlI Bg pre who W ∧ pre.length = mostT t most X.length

set_option maxRecDepth 100000 in
set_option maxHeartbeats 40000000 in
theorem turn_in {wI : World} {lo hi g : Nat} {b : List UInt8} {rs : List Row} {a : Option Addr} {c : Nat} {a2 : Option Addr} {c2 : Nat} {vs : List RV} (hF : FlO wI lo hi g b rs a c a2 c2 vs) (hR : FRows b.length rs) (hb : b.length ≤ 140737488351232)
    {LO GL : Nat} {kl kh : List UInt8} {vl vh : Value} (hG : RgBox wI LO GL g kl kh vl vh) {X : List Ent} (hX : frng b rs kl kh = X) {aw : Option Addr} {N cw : Nat} (hE : Ents wI aw N cw X) {gx : Nat} {aK aR : Option Addr} {nK cK nR cR : Nat} {most : Int}
    (hO : wI.heap[gx]? = some (.cells #[.slice aK nK cK, .slice aR nR cR, .int .i64 most] 26 (0, 0))) (hmost : -9223372036854775808 ≤ most ∧ most ≤ 9223372036854775807)
    {W : World} (hW : Below wI.heap.size wI W) {t Bt : Nat} (ht : t < 2) (hT : Boxed W Bt 3 (.int .i64 (t : Nat))) (ds : List Deferred)
    (c0 c1 c2 c4 c5 c6 c7 c8 c9 c10 c11 c12 c14 c15 c16 c17 c18 c19 c20 c21 c22 c23 c24 c32 c33 c34 c35 c36 c37 c38 c39 c40 c41 c42 c43 c44 c45 c46 c47 c48 c49 c50 c51 c52 c53 c54 c55 c56 c57 c58 c59 c60 c61 c62 c63 c64 c65 c66 c67 c68 c69 c70 c71 c72 c73 c74 c75 c76 c77 c78 c79 c80 c81 c82 c83 c84 c85 c86 c87 c88 c89 c90 c91 c92 c93 c94 c95 c96 c97 c98 c99 c100 c101 c102 c103 c104 c105 c106 c107 c108 c109 c110 c111 c112 c113 c114 c115 c116 c117 c118 c119 c120 c121 c122 c123 c124 c125 c126 c127 c128 c129 c130 c131 c132 c133 c134 c135 c136 c137 c138 c139 c140 c141 c142 c143 c144 c145 c146 c147 c148 c149 c150 c151 c152 c153 c154 c155 c156 c157 c158 c159 c160 c161 c162 c163 c164 c165 c166 c167 c168 c169 c170 c171 c172 c173 c174 c175 c176 c222 c223 c224 c225 c226 : Value) (u13 u28 u29 u30 u31 u177 u178 u179 u180 u181 u182 u183 u184 u185 u186 u187 u188 u189 u190 u191 u192 u193 u194 u195 u196 u197 u198 u199 u200 u201 u202 u203 u204 u205 u206 u207 u208 u209 u210 u211 u212 u213 u214 u215 u216 u217 u218 u219 u220 u221 : Value) (K : Act → World → Prop) (Q0 : Exit → Act → World → Prop)
    (hK : ∀ (u13 u28 u29 u30 u31 u177 u178 u179 u180 u181 u182 u183 u184 u185 u186 u187 u188 u189 u190 u191 u192 u193 u194 u195 u196 u197 u198 u199 u200 u201 u202 u203 u204 u205 u206 u207 u208 u209 u210 u211 u212 u213 u214 u215 u216 u217 u218 u219 u220 u221 : Value) (D0 Bt' : Nat) (W' : World), Boxed W' Bt' 3 (.int .i64 ((t + 1 : Nat) : Int)) → W.heap.size ≤ Bt' → Below W.heap.size W W' → W.heap.size ≤ D0 → W'.heap[D0]? = some (.deferred (some [])) → K { tmps := #[c0, c1, c2, .pointer (some ⟨gx, 0, none⟩), c4, c5, c6, c7, c8, c9, c10, c11, c12, u13, c14, c15, c16, c17, c18, c19, c20, c21, c22, c23, c24, .func (.func 52) #[] #[.pointer (some ⟨GL, 0, none⟩), .pointer (some ⟨GL + 1, 0, none⟩), .pointer (some ⟨GL + 1 + 1, 0, none⟩)], .slice aw N cw, .pointer (some ⟨Bt', 0, none⟩), u28, u29, u30, u31, c32, c33, c34, c35, c36, c37, c38, c39, c40, c41, c42, c43, c44, c45, c46, c47, c48, c49, c50, c51, c52, c53, c54, c55, c56, c57, c58, c59, c60, c61, c62, c63, c64, c65, c66, c67, c68, c69, c70, c71, c72, c73, c74, c75, c76, c77, c78, c79, c80, c81, c82, c83, c84, c85, c86, c87, c88, c89, c90, c91, c92, c93, c94, c95, c96, c97, c98, c99, c100, c101, c102, c103, c104, c105, c106, c107, c108, c109, c110, c111, c112, c113, c114, c115, c116, c117, c118, c119, c120, c121, c122, c123, c124, c125, c126, c127, c128, c129, c130, c131, c132, c133, c134, c135, c136, c137, c138, c139, c140, c141, c142, c143, c144, c145, c146, c147, c148, c149, c150, c151, c152, c153, c154, c155, c156, c157, c158, c159, c160, c161, c162, c163, c164, c165, c166, c167, c168, c169, c170, c171, c172, c173, c174, c175, c176, u177, u178, u179, u180, u181, u182, u183, u184, u185, u186, u187, u188, u189, u190, u191, u192, u193, u194, u195, u196, u197, u198, u199, u200, u201, u202, u203, u204, u205, u206, u207, u208, u209, u210, u211, u212, u213, u214, u215, u216, u217, u218, u219, u220, u221, c222, c223, c224, c225, c226], defers := mark D0 :: ds } W') :
    bodyT.wpIn Fence.wide 4 Tryz.prog (Exit.then K Q0) { tmps := #[c0, c1, c2, .pointer (some ⟨gx, 0, none⟩), c4, c5, c6, c7, c8, c9, c10, c11, c12, u13, c14, c15, c16, c17, c18, c19, c20, c21, c22, c23, c24, .func (.func 52) #[] #[.pointer (some ⟨GL, 0, none⟩), .pointer (some ⟨GL + 1, 0, none⟩), .pointer (some ⟨GL + 1 + 1, 0, none⟩)], .slice aw N cw, .pointer (some ⟨Bt, 0, none⟩), u28, u29, u30, u31, c32, c33, c34, c35, c36, c37, c38, c39, c40, c41, c42, c43, c44, c45, c46, c47, c48, c49, c50, c51, c52, c53, c54, c55, c56, c57, c58, c59, c60, c61, c62, c63, c64, c65, c66, c67, c68, c69, c70, c71, c72, c73, c74, c75, c76, c77, c78, c79, c80, c81, c82, c83, c84, c85, c86, c87, c88, c89, c90, c91, c92, c93, c94, c95, c96, c97, c98, c99, c100, c101, c102, c103, c104, c105, c106, c107, c108, c109, c110, c111, c112, c113, c114, c115, c116, c117, c118, c119, c120, c121, c122, c123, c124, c125, c126, c127, c128, c129, c130, c131, c132, c133, c134, c135, c136, c137, c138, c139, c140, c141, c142, c143, c144, c145, c146, c147, c148, c149, c150, c151, c152, c153, c154, c155, c156, c157, c158, c159, c160, c161, c162, c163, c164, c165, c166, c167, c168, c169, c170, c171, c172, c173, c174, c175, c176, u177, u178, u179, u180, u181, u182, u183, u184, u185, u186, u187, u188, u189, u190, u191, u192, u193, u194, u195, u196, u197, u198, u199, u200, u201, u202, u203, u204, u205, u206, u207, u208, u209, u210, u211, u212, u213, u214, u215, u216, u217, u218, u219, u220, u221, c222, c223, c224, c225, c226], defers := ds } W := by
  conv => arg 4; whnf
  have HK := hid hK
  have HT := hid hT
  have HX := hid hX
  have hN : X.length = N := hE.1
  have hN5 : N ≤ 536870912 := by rw [← hN, ← hX]; exact frng_len (by omega) hR.many
  have HN := hid hN
  have WF := hid (hF.keep hW hF.top)
  have WG := hid (show Boxed W GL 29 (.pointer (some ⟨g, 0, none⟩)) ∧ Boxed W (GL + 1) 22 vl ∧ Boxed W (GL + 1 + 1) 22 vh ∧ OwT fB W LO 5 vl kl ∧ OwT fB W LO 5 vh kh from
    ⟨(hW.block _ hG.1.lt).trans hG.1, (hW.block _ hG.2.1.lt).trans hG.2.1, (hW.block _ hG.2.2.1.lt).trans hG.2.2.1, hG.2.2.2.1.keep hW, hG.2.2.2.2.1.keep hW⟩)
  have WE := hid (hE.keep hW)
  have WO := hid ((hW.block gx (Array.getElem?_eq_some_iff.1 hO).1).trans hO)
  have ct := hT.cell
  have t1 : decide ((t : Int) < 2) = true := decide_eq_true (by omega)
  have t1' : decide (t < 2) = true := decide_eq_true ht
  have HR := hid hR
  clear hF hR hG hX hE hO hT hK hN hW
  gi_wp2
  obtain ⟨W7, hW7⟩ : ∃ V, W.alloc (.cells #[.slice none 0 0] 48) = V := ⟨_, rfl⟩
  have b7 : Below W.heap.size W W7 := hW7 ▸ (Below.refl _ _).alloc (Nat.le_refl _) _
  have g7 : Boxed W7 W.heap.size 48 (.slice none 0 0) := hW7 ▸ Boxed.new W _ _
  have z7 : W7.heap.size = W.heap.size + 1 := by rw [← hW7]; simp
  rw [hW7]
  obtain ⟨Bg, hBg⟩ : ∃ B, W.heap.size = B := ⟨_, rfl⟩
  obtain ⟨who0, hwho0⟩ : ∃ f : Nat → Nat, f = fun j => if j < W.heap.size then 1 else 0 := ⟨_, rfl⟩
  have hw1 : ∀ j, j < W.heap.size → who0 j = 1 := fun j hj => by rw [hwho0]; exact if_pos hj
  have hw2 : ∀ j, W.heap.size ≤ j → who0 j = 0 := fun j hj => by rw [hwho0]; exact if_neg (by omega)
  have R7 := hid (show FlR W X [] who0 W7 from ⟨b7, hw1, fun j hj => by rcases Nat.lt_or_ge j W.heap.size with h | h; omega; exact absurd (hw2 j h) hj, Nat.zero_le _, GvP.nil⟩)
  have I7 := hid (show FlI Bg [] who0 W7 from ⟨_, by rw [← hBg]; exact g7, hw2 _ (by omega), OwZ.nil _ _ _ _ _, fun j e => (by cases e), by omega⟩)
  have W70 := hid (show ∀ j, W7.heap.size ≤ j → who0 j = 0 from fun j hj => hw2 j (by omega))
  have Z7 := hid z7
  have HBg := hid hBg
  have BTL := hid HT.out.lt
  rw [hBg]
  clear b7 g7 z7 hW7 hwho0 hw1 hw2 ct hBg
  obtain ⟨al, nl, cl, rfl, sl⟩ := WG.out.2.2.2.1.slN
  obtain ⟨ah, nh, ch, rfl, sh⟩ := WG.out.2.2.2.2.slN
  have SQ := hid (frange_seq WF.out HR.out hb GL (GL + 1) (GL + 1 + 1) al nl cl kl ah nh ch kh WG.out.1 WG.out.2.1 WG.out.2.2.1 sl sh who0)
  rw [HX.out] at SQ
  clear sl sh
  refine range_cutG (fun ds' W' => FlG W X Bg t most ds ds' W') ?_ ?_
  · rintro ds' W9 ⟨D0, pre, who, rfl, hD0, hdef, hfr, hfi, hlen⟩
    obtain ⟨v, hv, hv0, hrow, hown, hsz⟩ := hfi
    obtain ⟨av, nv, cv, rfl, hnv, -⟩ := hrow.t.slE
    have hgb := HBg.out
    have RW9 : RdW W9 W.heap.size (.slice av nv cv) pre (X.take pre.length) := ⟨hrow.base (by omega), hfr.gv.1, fun i x e hx he => ⟨(hfr.gv.2 i x e hx he).1, (hfr.gv.2 i x e hx he).2.1⟩, fun i x hx j hj => by
      obtain ⟨e, he⟩ : ∃ e, (X.take pre.length)[i]? = some e := ⟨_, List.getElem?_eq_getElem (by have := (List.getElem?_eq_some_iff.1 hx).1; have := hfr.gv.1; omega)⟩
      have h6 := (hfr.gv.2 i x e hx he).2.2 j
      have h0 := hown j hj
      exact ⟨fun q => by have := h6 (.inl q); omega, fun q => by have := h6 (.inr q); omega⟩⟩
    have hmle : mostT t most X.length ≤ N := by unfold mostT; rw [HN.out]; split <;> omega
    rw [hlen] at RW9
    obtain ⟨m9, hm9⟩ : ∃ m, mostT t most X.length = m := ⟨_, rfl⟩
    rw [hm9] at RW9 hmle
    obtain ⟨a9, c9, hy9, hE9⟩ := RW9.ents
    have htl : (X.take m9).length = m9 := by rw [List.length_take, HN.out]; omega
    rw [htl] at hy9 hE9
    injection hy9 with p1 p2 p3
    have p2' := p2.symm
    subst p1 p3 p2'
    have B9 := hid hfr.b
    have BV9 := hid hv
    have RW9H := hid RW9
    have E9 := hid hE9
    have D9 := hid hdef
    have EW := hid (show Ents W9 aw N cw X from WE.out.keep hfr.b)
    have KX := hid (show ∀ V, Below W.heap.size W V → V.cell? ⟨Bt, 0, none⟩ = some (.int .i64 (t : Nat)) ∧ V.cell? ⟨gx, 2, none⟩ = some (.int .i64 most) from
      fun V hV => ⟨Boxed.cell ((hV.block _ BTL.out).trans HT.out), (World.cell?_of_block (hV.block _ (Array.getElem?_eq_some_iff.1 WO.out).1)).trans (cell_of WO.out 2 rfl)⟩)
    obtain ⟨ctt, cmm⟩ := KX.out W9 hfr.b
    have cgg := hv.cell
    have HM9 := hid hm9
    have hcw := EW.out.2.1
    clear hv hv0 hrow hown hfr hlen RW9 hE9 hdef hm9 htl hnv hgb WE
    have hcut := fun V : World => run_cutE V aw N cw .i64 m9 (by omega)
    have SA := hid (sameAll_any av m9 cv aw m9 cw (X.take m9) (X.take m9) W9.drew (by omega) (by omega) (E9.out.keep (keep_drewN (Below.refl _ _) 1)) ((EW.out.keep (keep_drewN (Below.refl _ _) 1)).uptoF m9 hmle))
    by_cases hc : t = 0 ∧ 1 ≤ most
    · obtain ⟨rfl, hm1⟩ := hc
      have q0 : (((0 : Nat) : Int) == 0) = true := rfl
      have q1 : decide (most ≥ 1) = true := decide_eq_true hm1
      have q1' : decide (1 ≤ most) = true := decide_eq_true hm1
      have hmm : (m9 : Int) = min (N : Int) most := by have := HM9.out; unfold mostT at this; rw [if_pos ⟨rfl, hm1⟩, HN.out] at this; omega
      have q2 : (if (N : Int) < most then (N : Int) else most) = (m9 : Nat) := by rw [hmm]; split <;> omega
      have q3 : (if most < (N : Int) then most else (N : Int)) = (m9 : Nat) := by rw [hmm]; split <;> omega
      have q4 : min (N : Int) most = (m9 : Nat) := hmm.symm
      clear hmm hm1
      gi_wp2
      refine wpIn_wide.2 ?_
      go_still_tail 4, (by kernel_rfl)
      change wpList _ _ _ _ _ W9.drew
      have cgd : W9.drew.cell? ⟨Bg, 0, none⟩ = some (.slice av m9 cv) := cgg
      clear ctt cmm cgg
      go_wp2_with fail
      refine SA.out.mono ?_
      rintro e W10 ⟨rfl, hb10⟩
      rw [show decide True = true from rfl]
      have B10 := hid (keep_trans B9.out (keep_trans (keep_drewN (Below.refl _ _) 1) hb10))
      have RW10 := hid (RW9H.out.keep (keep_trans (keep_drewN (Below.refl _ _) 1) hb10))
      have BV10 : Boxed W10 Bg 48 (.slice av m9 cv) := (hb10.block _ BV9.out.lt).trans BV9.out
      have D10 := hid ((hb10.block D0 (Array.getElem?_eq_some_iff.1 D9.out).1).trans D9.out)
      have SP := hid (espoilP_any av m9 cv _ W10 RW10.out.spoilP)
      have cgd := BV10.cell
      clear hb10 SA BV10 E9 EW RW9H BV9 D9
      go_wp2_with fail
      gi_wp2
      refine ⟨trivial, ?_⟩
      refine (callsIn_wide.2 SP.out).mono ?_
      rintro e W11 ⟨rfl, ht11⟩
      have B11 := hid (ht11.below B10.out B10.out.size fun j hj => (RW10.out.inB j hj).1)
      have D11 := hid (ht11.heap D10.out (fun hj => by obtain ⟨cs, tt, ff, hcl⟩ := RW10.out.cellsF hj; have hh := D10.out; rw [hcl] at hh; cases hh))
      obtain ⟨ctt, -⟩ := KX.out W11 B11.out
      have hn11 := heap_new W11 (.cells #[.int .i64 ((0 : Nat) : Int)] 3)
      have cnn := cell_of hn11 0 (v := .int .i64 ((0 : Nat) : Int)) rfl
      have fnn := free_block hn11 0
      have HN11 := hid (show Boxed (W11.alloc (.cells #[.int .i64 1] 3)) W11.heap.size 3 (.int .i64 ((0 + 1 : Nat) : Int)) from heap_new W11 _)
      have BF := hid (show Below W.heap.size W (W11.alloc (.cells #[.int .i64 1] 3)) from B11.out.alloc B11.out.size _)
      have DF := hid (show (W11.alloc (.cells #[.int .i64 1] 3)).heap[D0]? = some (.deferred (some [])) from (Below.heap_alloc _ _ _ (Array.getElem?_eq_some_iff.1 D11.out).1).trans D11.out)
      have r9 : IntKind.i64.wrap (((0 : Nat) : Int) + 1) = ((0 : Nat) : Int) + 1 := IntWalk.i64_in _ (by omega)
      have hz11 := hid B11.out.size
      have HD0 := hid (show W.heap.size ≤ D0 by have := HBg.out; omega)
      clear ht11 hn11 SP B10 RW10 D10 B11 D11 cgd
      gi_wp2
      exact HK.out _ _ _ _ _ _ _ _ _ _ _ _ _ _ _ _ _ _ _ _ _ _ _ _ _ _ _ _ _ _ _ _ _ _ _ _ _ _ _ _ _ _ _ _ _ _ _ _ _ _ D0 W11.heap.size _ HN11.out hz11.out BF.out HD0.out DF.out
    · have hmN : m9 = N := by have := HM9.out; unfold mostT at this; rw [if_neg hc, HN.out] at this; exact this.symm
      subst hmN
      by_cases ht0 : t = 0
      · subst ht0
        have q0 : (((0 : Nat) : Int) == 0) = true := rfl
        have q1 : decide (most ≥ 1) = false := decide_eq_false (by omega)
        have q1' : decide (1 ≤ most) = false := decide_eq_false (by omega)
        clear hc
        gi_wp2
        refine wpIn_wide.2 ?_
        go_still_tail 4, (by kernel_rfl)
        change wpList _ _ _ _ _ W9.drew
        have cgd : W9.drew.cell? ⟨Bg, 0, none⟩ = some (.slice av m9 cv) := cgg
        clear ctt cmm cgg
        go_wp2_with fail
        refine SA.out.mono ?_
        rintro e W10 ⟨rfl, hb10⟩
        rw [show decide True = true from rfl]
        have B10 := hid (keep_trans B9.out (keep_trans (keep_drewN (Below.refl _ _) 1) hb10))
        have RW10 := hid (RW9H.out.keep (keep_trans (keep_drewN (Below.refl _ _) 1) hb10))
        have BV10 : Boxed W10 Bg 48 (.slice av m9 cv) := (hb10.block _ BV9.out.lt).trans BV9.out
        have D10 := hid ((hb10.block D0 (Array.getElem?_eq_some_iff.1 D9.out).1).trans D9.out)
        have SP := hid (espoilP_any av m9 cv _ W10 RW10.out.spoilP)
        have cgd := BV10.cell
        clear hb10 SA BV10 E9 EW RW9H BV9 D9
        go_wp2_with fail
        gi_wp2
        refine ⟨trivial, ?_⟩
        refine (callsIn_wide.2 SP.out).mono ?_
        rintro e W11 ⟨rfl, ht11⟩
        have B11 := hid (ht11.below B10.out B10.out.size fun j hj => (RW10.out.inB j hj).1)
        have D11 := hid (ht11.heap D10.out (fun hj => by obtain ⟨cs, tt, ff, hcl⟩ := RW10.out.cellsF hj; have hh := D10.out; rw [hcl] at hh; cases hh))
        obtain ⟨ctt, -⟩ := KX.out W11 B11.out
        have hn11 := heap_new W11 (.cells #[.int .i64 ((0 : Nat) : Int)] 3)
        have cnn := cell_of hn11 0 (v := .int .i64 ((0 : Nat) : Int)) rfl
        have fnn := free_block hn11 0
        have HN11 := hid (show Boxed (W11.alloc (.cells #[.int .i64 1] 3)) W11.heap.size 3 (.int .i64 ((0 + 1 : Nat) : Int)) from heap_new W11 _)
        have BF := hid (show Below W.heap.size W (W11.alloc (.cells #[.int .i64 1] 3)) from B11.out.alloc B11.out.size _)
        have DF := hid (show (W11.alloc (.cells #[.int .i64 1] 3)).heap[D0]? = some (.deferred (some [])) from (Below.heap_alloc _ _ _ (Array.getElem?_eq_some_iff.1 D11.out).1).trans D11.out)
        have r9 : IntKind.i64.wrap (((0 : Nat) : Int) + 1) = ((0 : Nat) : Int) + 1 := IntWalk.i64_in _ (by omega)
        have hz11 := hid B11.out.size
        have HD0 := hid (show W.heap.size ≤ D0 by have := HBg.out; omega)
        clear ht11 hn11 SP B10 RW10 D10 B11 D11 cgd
        gi_wp2
        exact HK.out _ _ _ _ _ _ _ _ _ _ _ _ _ _ _ _ _ _ _ _ _ _ _ _ _ _ _ _ _ _ _ _ _ _ _ _ _ _ _ _ _ _ _ _ _ _ _ _ _ _ D0 W11.heap.size _ HN11.out hz11.out BF.out HD0.out DF.out
      · have q0 : ((t : Int) == 0) = false := by rw [beq_eq_false_iff_ne]; omega
        have q0' : (t == 0) = false := by rw [beq_eq_false_iff_ne]; exact ht0
        clear hc ht0
        gi_wp2
        refine wpIn_wide.2 ?_
        go_still_tail 4, (by kernel_rfl)
        change wpList _ _ _ _ _ W9.drew
        have cgd : W9.drew.cell? ⟨Bg, 0, none⟩ = some (.slice av m9 cv) := cgg
        clear ctt cmm cgg
        go_wp2_with fail
        refine SA.out.mono ?_
        rintro e W10 ⟨rfl, hb10⟩
        rw [show decide True = true from rfl]
        have B10 := hid (keep_trans B9.out (keep_trans (keep_drewN (Below.refl _ _) 1) hb10))
        have RW10 := hid (RW9H.out.keep (keep_trans (keep_drewN (Below.refl _ _) 1) hb10))
        have BV10 : Boxed W10 Bg 48 (.slice av m9 cv) := (hb10.block _ BV9.out.lt).trans BV9.out
        have D10 := hid ((hb10.block D0 (Array.getElem?_eq_some_iff.1 D9.out).1).trans D9.out)
        have SP := hid (espoilP_any av m9 cv _ W10 RW10.out.spoilP)
        have cgd := BV10.cell
        clear hb10 SA BV10 E9 EW RW9H BV9 D9
        go_wp2_with fail
        gi_wp2
        refine ⟨trivial, ?_⟩
        refine (callsIn_wide.2 SP.out).mono ?_
        rintro e W11 ⟨rfl, ht11⟩
        have B11 := hid (ht11.below B10.out B10.out.size fun j hj => (RW10.out.inB j hj).1)
        have D11 := hid (ht11.heap D10.out (fun hj => by obtain ⟨cs, tt, ff, hcl⟩ := RW10.out.cellsF hj; have hh := D10.out; rw [hcl] at hh; cases hh))
        obtain ⟨ctt, -⟩ := KX.out W11 B11.out
        have hn11 := heap_new W11 (.cells #[.int .i64 (t : Nat)] 3)
        have cnn := cell_of hn11 0 (v := .int .i64 (t : Nat)) rfl
        have fnn := free_block hn11 0
        have HN11 := hid (show Boxed (W11.alloc (.cells #[.int .i64 ((t : Int) + 1)] 3)) W11.heap.size 3 (.int .i64 ((t + 1 : Nat) : Int)) from heap_new W11 _)
        have BF := hid (show Below W.heap.size W (W11.alloc (.cells #[.int .i64 ((t : Int) + 1)] 3)) from B11.out.alloc B11.out.size _)
        have DF := hid (show (W11.alloc (.cells #[.int .i64 ((t : Int) + 1)] 3)).heap[D0]? = some (.deferred (some [])) from (Below.heap_alloc _ _ _ (Array.getElem?_eq_some_iff.1 D11.out).1).trans D11.out)
        have r9 : IntKind.i64.wrap ((t : Int) + 1) = (t : Int) + 1 := IntWalk.i64_in _ (by omega)
        have hz11 := hid B11.out.size
        have HD0 := hid (show W.heap.size ≤ D0 by have := HBg.out; omega)
        clear ht11 hn11 SP B10 RW10 D10 B11 D11 cgd
        gi_wp2
        exact HK.out _ _ _ _ _ _ _ _ _ _ _ _ _ _ _ _ _ _ _ _ _ _ _ _ _ _ _ _ _ _ _ _ _ _ _ _ _ _ _ _ _ _ _ _ _ _ _ _ _ _ D0 W11.heap.size _ HN11.out hz11.out BF.out HD0.out DF.out
  · intro JR hJR
    have HJR := hid hJR
    clear hJR
    have hsz7 := Z7.out
    have hsg := HBg.out
    apply wpIn_rangeW rfl (by omega) (gf := 52) (lb := #[.pointer (some ⟨GL, 0, none⟩), .pointer (some ⟨GL + 1, 0, none⟩), .pointer (some ⟨GL + 1 + 1, 0, none⟩)]) rfl trivial (enters_of Tryz.func52 (by kernel_rfl) rfl)
      SQ.out (fun _ => rfl) (fun _ _ _ _ h ht => h.turn ht) (fun _ _ _ _ h ht => ⟨h.1.turn ht, h.2⟩) R7.out W70.out
      (fun pre who9 W9 => FlI Bg pre who9 W9 ∧ (t = 0 → most < 1 ∨ (pre.length : Int) < most))
      (fun c pre who9 W9 => c = .exit 6 ∧ FlI Bg pre who9 W9 ∧ t = 0 ∧ (pre.length : Int) = most ∧ 1 ≤ pre.length)
    case hassign =>
      intro l x W K hK
      gi_wp2
      exact hK
    case hI => exact fun _ _ _ _ _ h hG => ⟨h.1.gr hG, h.2⟩
    case hIp => exact fun _ _ _ _ _ o' h hl ho hc => ⟨h.1.put ho hc o', h.2⟩
    case hIxp => exact fun _ _ _ _ _ _ o' h hl ho hc => ⟨h.1, h.2.1.put ho hc o', h.2.2⟩
    case h0 => exact ⟨I7.out, fun _ => by simp; omega⟩
    case hdone =>
      rintro D9 ys who9 W9 hD hE9 ⟨hGI, hlt9⟩ hK9 hD0
      exact ⟨.inl rfl, rfl, HJR.out _ _ ⟨D9, ys, who9, rfl, by omega, hK9, hE9.1, hGI, by
        have h1 := hE9.2
        unfold mostT
        split
        · rename_i h; have := hlt9 h.1; omega
        · exact h1⟩⟩
    case hstop =>
      rintro D9 c9 pre who9 W9 hD hR9 ⟨rfl, hGI, ht0, hlen9, hl19⟩ hK9 hD0
      exact wpIn_exit ⟨.inr rfl, rfl, HJR.out _ _ ⟨D9, pre, who9, rfl, by omega, hK9, hR9, hGI, by
        have h1 := hR9.le
        unfold mostT
        split
        · omega
        · rename_i h; exact absurd ⟨ht0, by omega⟩ h⟩⟩
    case hbody =>
      rintro l pre ⟨⟨ak, nk, ck⟩, ⟨av, nv, cv⟩⟩ who9 W9 ⟨⟨v, h1, h2, h7, h8, h9⟩, hlt9⟩ hR9
      have hle9 := hR9.le
      rw [List.length_append, List.length_singleton, HN.out] at hle9
      have BW9 := hid hR9.b
      have NEW := hid (show ∀ j, W9.heap.size ≤ j → who9 j = 0 from fun j hj => Classical.byContradiction fun e => by have := hR9.lt j e; omega)
      have KX := hid (show ∀ V, Below W.heap.size W V → V.cell? ⟨Bt, 0, none⟩ = some (.int .i64 (t : Nat)) ∧ V.cell? ⟨gx, 2, none⟩ = some (.int .i64 most) from
        fun V hV => ⟨Boxed.cell ((hV.block _ BTL.out).trans HT.out), (World.cell?_of_block (hV.block _ (Array.getElem?_eq_some_iff.1 WO.out).1)).trans (cell_of WO.out 2 rfl)⟩)
      have gxl := (Array.getElem?_eq_some_iff.1 WO.out).1
      have btl := BTL.out
      have hne1 : ¬ Bt = Bg := by omega
      have hne2 : ¬ gx = Bg := by omega
      have hne3 : ¬ Bg = Bt := by omega
      have hne4 : ¬ Bg = gx := by omega
      have hc := h1.cell
      have hf := h1.frozen
      have H1 := hid h1
      have H2 := hid h2
      have H7 := hid h7
      have H8 := hid h8
      have H9 := hid h9
      have HLT := hid hlt9
      clear h1 h2 h7 h8 h9 hR9 hlt9 gxl btl
      have hsz8 : Bg + 1 ≤ W7.heap.size := by omega
      clear hsz7 hsg
      dsimp only [sv]
      by_cases ht0 : t = 0
      · subst ht0
        have q0 : (((0 : Nat) : Int) == 0) = true := rfl
        by_cases hlast : ((pre.length : Int) + 1 = most)
        · have HEQ := hid (show ∀ k : Nat, k = (pre ++ [((ak, nk, ck), (av, nv, cv))]).length → ((k : Int) == most) = true from fun k hk => by rw [hk, List.length_append, List.length_singleton, beq_iff_eq]; omega)
          have HLA := hid hlast
          clear hlast
          gi_wp2_with (gi_at_builtin; refine wpListIn_appZ eltTE zE_ok rfl (.tmp 184) (.tmp 188) rfl (Bg + 1) v pre rfl (H7.out.keep ((Below.refl _ _).alloc (Nat.le_refl _) _)) _ 1 1 [((ak, nk, ck), (av, nv, cv))] rfl (SlT.lit1 _ _ _ _ rfl) (by unfold maxLen; omega) (.half (by omega)) (by have := H9.out; simp; omega) (pre ++ [((ak, nk, ck), (av, nv, cv))]) rfl ?_; intro v1 w1 ho1 hg1 hv1 hb1; obtain ⟨a1, n1, c1', rfl, hn1, -⟩ := ho1.t.slE; have V1 := hid ((H1.out.alloc (.cells #[.slice ak nk ck, .slice av nv cv] 51)).kept hg1 (fun e => by have := (H7.out.t.lt _ e.symm).1; omega)); have hc1 := V1.out.cell; have hf1 := V1.out.frozen; obtain ⟨ctt, cmm⟩ := KX.out w1 (BW9.out.trans (((Below.refl W9.heap.size W9).alloc (Nat.le_refl _) (.cells #[.slice ak nk ck, .slice av nv cv] 51)).mono BW9.out.size |>.trans (hb1.mono (by have := HBg.out; omega)))); have t9 := HEQ.out n1 hn1; have O1 := hid ho1; have G1 := hid hg1; have HV1 := hid hv1; clear ho1 hg1 hv1 hb1 hn1)
          have GA := hid (FlI.app (BW := W7.heap.size) H1.out H2.out H7.out H8.out H9.out NEW.out V1.out O1.out G1.out HV1.out)
          refine ⟨GA.out.1, GA.out.2.1, rfl, GA.out.2.2, by rw [List.length_append, List.length_singleton]; have := HLA.out; omega, by rw [List.length_append, List.length_singleton]; omega⟩
        · have HEQ := hid (show ∀ k : Nat, k = (pre ++ [((ak, nk, ck), (av, nv, cv))]).length → ((k : Int) == most) = false from fun k hk => by rw [hk, List.length_append, List.length_singleton, beq_eq_false_iff_ne]; omega)
          have HLA := hid (show most < 1 ∨ ((pre.length : Int) + 1 < most) by rcases HLT.out rfl with h | h; exact .inl h; right; omega)
          clear hlast
          gi_wp2_with (gi_at_builtin; refine wpListIn_appZ eltTE zE_ok rfl (.tmp 184) (.tmp 188) rfl (Bg + 1) v pre rfl (H7.out.keep ((Below.refl _ _).alloc (Nat.le_refl _) _)) _ 1 1 [((ak, nk, ck), (av, nv, cv))] rfl (SlT.lit1 _ _ _ _ rfl) (by unfold maxLen; omega) (.half (by omega)) (by have := H9.out; simp; omega) (pre ++ [((ak, nk, ck), (av, nv, cv))]) rfl ?_; intro v1 w1 ho1 hg1 hv1 hb1; obtain ⟨a1, n1, c1', rfl, hn1, -⟩ := ho1.t.slE; have V1 := hid ((H1.out.alloc (.cells #[.slice ak nk ck, .slice av nv cv] 51)).kept hg1 (fun e => by have := (H7.out.t.lt _ e.symm).1; omega)); have hc1 := V1.out.cell; have hf1 := V1.out.frozen; obtain ⟨ctt, cmm⟩ := KX.out w1 (BW9.out.trans (((Below.refl W9.heap.size W9).alloc (Nat.le_refl _) (.cells #[.slice ak nk ck, .slice av nv cv] 51)).mono BW9.out.size |>.trans (hb1.mono (by have := HBg.out; omega)))); have t9 := HEQ.out n1 hn1; have O1 := hid ho1; have G1 := hid hg1; have HV1 := hid hv1; clear ho1 hg1 hv1 hb1 hn1)
          have GA := hid (FlI.app (BW := W7.heap.size) H1.out H2.out H7.out H8.out H9.out NEW.out V1.out O1.out G1.out HV1.out)
          refine ⟨GA.out.1, GA.out.2.1, GA.out.2.2, by rw [List.length_append, List.length_singleton]; have := HLA.out; omega⟩
      · have q0 : ((t : Int) == 0) = false := by rw [beq_eq_false_iff_ne]; omega
        have q0' : (t == 0) = false := by rw [beq_eq_false_iff_ne]; exact ht0
        have HT0 := hid ht0
        clear ht0
        gi_wp2_with (gi_at_builtin; refine wpListIn_appZ eltTE zE_ok rfl (.tmp 184) (.tmp 188) rfl (Bg + 1) v pre rfl (H7.out.keep ((Below.refl _ _).alloc (Nat.le_refl _) _)) _ 1 1 [((ak, nk, ck), (av, nv, cv))] rfl (SlT.lit1 _ _ _ _ rfl) (by unfold maxLen; omega) (.half (by omega)) (by have := H9.out; simp; omega) (pre ++ [((ak, nk, ck), (av, nv, cv))]) rfl ?_; intro v1 w1 ho1 hg1 hv1 hb1; obtain ⟨a1, n1, c1', rfl, hn1, -⟩ := ho1.t.slE; have V1 := hid ((H1.out.alloc (.cells #[.slice ak nk ck, .slice av nv cv] 51)).kept hg1 (fun e => by have := (H7.out.t.lt _ e.symm).1; omega)); have hc1 := V1.out.cell; have hf1 := V1.out.frozen; obtain ⟨ctt, cmm⟩ := KX.out w1 (BW9.out.trans (((Below.refl W9.heap.size W9).alloc (Nat.le_refl _) (.cells #[.slice ak nk ck, .slice av nv cv] 51)).mono BW9.out.size |>.trans (hb1.mono (by have := HBg.out; omega)))); have O1 := hid ho1; have G1 := hid hg1; have HV1 := hid hv1; clear ho1 hg1 hv1 hb1 hn1)
        have GA := hid (FlI.app (BW := W7.heap.size) H1.out H2.out H7.out H8.out H9.out NEW.out V1.out O1.out G1.out HV1.out)
        refine ⟨GA.out.1, GA.out.2.1, GA.out.2.2, fun h => absurd h HT0.out⟩
end Go.Proofs.YtljcogimeimknaaGreat

/- The reference's blocks of a stream, and its end: contracts. Conditions: blocks that may be, within reach. -/
import Derived.Test.YtljcogimeimknaaK8f
import Derived.Test.YtljcogimeimknaaStmClose
import Derived.Test.YtljcogimeimknaaK8c
import Derived.Test.YtljcogimeimknaaK8d
import Derived.Deep.RegionHeld3
import Derived.BigQuiet
import Derived.Deep.QuietTactic
namespace Go.Proofs.Ytljcogimeimknaa
open Go.RowKit
set_option linter.unusedVariables false

abbrev fS (s : Sv) : List Value := [sv s]
theorem fS_len (s : Sv) : (fS s).length = 1 := rfl
theorem eltTS : EltT Try.prog 38 22 fS 1 24 := EltT.mk1 (g := sv) (by kernel_rfl) (z := .slice none 0 0) (by kernel_rfl) (none, 0, 0) rfl (fun _ => rfl)
/-- lists of entries in memory -/
def LLs (w : World) (a : Option Addr) (n c : Nat) (L : List (List Ent)) : Prop :=
  L.length = n ∧ n ≤ c ∧ (a = none → c = 0) ∧ ∀ (i : Nat) (l : List Ent), L[i]? = some l → ∃ b o x, a = some ⟨b, o, none⟩ ∧ w.cell? ⟨b, o + i, none⟩ = some (sv x) ∧ Ents w x.1 x.2.1 x.2.2 l
theorem LLs.keep {w w' : World} {a : Option Addr} {n c : Nat} {L : List (List Ent)} (h : LLs w a n c L) (hb : Below w.heap.size w w') : LLs w' a n c L :=
  ⟨h.1, h.2.1, h.2.2.1, fun i l hl => by
    obtain ⟨b, o, x, e, hc, he⟩ := h.2.2.2 i l hl
    exact ⟨b, o, x, e, (World.cell?_of_block (hb.block _ (cell_lt hc))).trans hc, he.keep hb⟩⟩
theorem lastK_at {l : List Ent} {j : Nat} {e : Ent} (hj : l.length = j + 1) (h : l[j]? = some e) : lastK l = e.1 := by
  unfold lastK
  rw [bst_last, List.getLast?_eq_getElem?, hj]
  simp only [Nat.add_sub_cancel, h]
theorem Ris.fit2 {l : List Ent} (h : l.length ≤ 64 ∧ (srt l).2 = 0) : Fit 140737488351232 l := fun e he => by
  have := chk_zero (srt_okay h.2 e he); omega

/-- rows under way: their keys lie in old memory -/
def RRw (w0 w : World) (v : Value) (vs : List RV) (rs : List Row) : Prop :=
  OwT fR w w0.heap.size 89 v vs ∧ vs.length = rs.length ∧ ∀ (i : Nat) (x : RV) (r : Row), vs[i]? = some x → rs[i]? = some r → x.2 = r.2 ∧ Sl Bf w0 x.1.1 x.1.2.1 x.1.2.2 r.1
theorem RRw.spans {w0 w : World} {v : Value} {vs : List RV} {rs : List Row} (h : RRw w0 w v vs rs) (hb : Below w0.heap.size w0 w) : ∃ a n c, v = .slice a n c ∧ Spans w a n c rs := by
  obtain ⟨a, c, e, hs⟩ := h.1.sl fR_len
  have hsp : SpV w a vs.length c vs rs := ⟨hs, h.2.1, fun i x r hx hr => ⟨(h.2.2 i x r hx hr).1, (h.2.2 i x r hx hr).2.keep hb⟩⟩
  exact ⟨a, _, c, e, hsp.spans⟩

set_option maxRecDepth 100000 in
set_option maxHeartbeats 4000000 in
theorem rblocks_any (a : Option Addr) (n c : Nat) (L : List (List Ent)) (w : World) (hn : L.length ≤ 8388608) (hL : OkL L) (h : LLs w a n c L) :
    Calls Try.prog 51 #[.slice a n c] w fun e w' => ∃ v a2 n2 c2, e = .returned (.tuple #[v, .slice a2 n2 c2]) ∧ OwT fB w' w.heap.size 5 v (outL L) ∧ Spans w' a2 n2 c2 (rowsL L) ∧ Below w.heap.size w w' := by
  obtain rfl : n = L.length := h.1.symm
  have H := Lib.hid h
  have HL := Lib.hid hL
  clear h hL
  go_enter Try.func51, Try.ntmps51
  go_wp2_with fail
  go_loopw [4, 5, 6] (fun u r i wr => ∃ (k : Nat) (vs : List RV), k ≤ L.length ∧ i = .int .i64 (k : Nat) ∧ OwT fB wr w.heap.size 5 u (outL (L.take k)) ∧ RRw w wr r vs (rowsL (L.take k)) ∧ (∀ j, u.ownBlock = some j → r.ownBlock ≠ some j) ∧ Below w.heap.size w wr) (fun _ _ i _ => L.length - (intOf i).toNat)
  case atStart => exact ⟨0, [], Nat.zero_le _, rfl, OwT.nil _ _ _ _, ⟨OwT.nil _ _ _ _, rfl, fun i x r hx _ => by simp at hx⟩, fun j hj => by simp [Value.ownBlock] at hj, Below.refl _ _⟩
  case round =>
    obtain ⟨k, vs, hk, rfl, ho, hr, hd, hb⟩ := hrel
    have O := Lib.hid ho
    have R := Lib.hid hr
    have D := Lib.hid hd
    have BB := Lib.hid hb
    obtain ⟨a1, n1, c1, rfl, z1⟩ := ho.slN
    obtain ⟨a2, n2, c2, rfl, hn2, -⟩ := hr.1.slR
    have hl1 : n1 ≤ 200000000000 := by
      rw [← z1.len]; have := outL_le (HL.out.take k); rw [List.length_take] at this; omega
    have N1 := Lib.hid z1.len
    have hvl : vs.length = k := by rw [hr.2.1, rowsL_len, List.length_take]; omega
    have VL := Lib.hid hvl
    obtain rfl : n2 = k := by omega
    by_cases hlt : n2 < L.length
    · obtain ⟨l, hl⟩ : ∃ l, L[n2]? = some l := ⟨_, List.getElem?_eq_getElem hlt⟩
      have hok := HL.out l (List.mem_of_getElem? hl)
      obtain ⟨b, o, ⟨ax, nx, cx⟩, rfl, hc, he⟩ := H.out.2.2.2 n2 l hl
      obtain rfl : l.length = nx := he.1
      obtain ⟨j, hj⟩ : ∃ j, l.length = j + 1 := ⟨l.length - 1, by have : l.length ≠ 0 := fun e => hok.2 (List.eq_nil_of_length_eq_zero e); omega⟩
      obtain ⟨⟨kk, xx⟩, hx⟩ : ∃ e, l[j]? = some e := ⟨_, List.getElem?_eq_getElem (by omega)⟩
      have hKK := lastK_at hj hx
      obtain ⟨b2, o2, ak, nk, ck, av, nv, cv, rfl, hk0, hk1, s0, s1⟩ := he.2.2.2 j kk xx hx
      have hbb : bbuild l = (bld l, 0, 0) := bbuild_ok (by have := hok.1.1; omega) hok.1.2
      have BLD := Lib.hid (fun (W : World) (hW : Below w.heap.size w W) => hbb ▸ brbuild_any (some ⟨b2, o2, none⟩) l.length cx l W (by have := hok.1.1; omega) (Ris.fit2 hok.1) (he.keep hW))
      have hbl := bld_le hok.1.1 (srt_okay hok.1.2)
      have hfl := blkf_le hok.1.1 (srt_okay hok.1.2)
      have OT := Lib.hid (outL_take hl)
      have RT := Lib.hid (rowsL_take hl)
      have KK := Lib.hid hKK
      have S0 := Lib.hid s0
      obtain ⟨nl, hnl⟩ : ∃ nl, l.length = nl := ⟨_, rfl⟩
      have HNL := Lib.hid hnl
      have HJ := Lib.hid (show nl = j + 1 by omega)
      have hj64 : nl ≤ 64 := by have := hok.1.1; omega
      have hjn : j < nl := by omega
      have hjn' : (j : Int) < (nl : Int) := by omega
      have e1 : IntKind.i64.wrap ((nl : Int) - 1) = (j : Int) := by rw [show (nl : Int) - 1 = (j : Int) by omega]; exact IntWalk.i64_in _ (by omega)
      have CC := Lib.hid (show ∀ W, Below w.heap.size w W → W.cell? ⟨b, o + n2, none⟩ = some (.slice (some ⟨b2, o2, none⟩) nl cx) ∧ W.cell? ⟨b2, o2 + j * 2, none⟩ = some (.slice ak nk ck) from fun W hW => ⟨by have := (World.cell?_of_block (hW.block _ (cell_lt hc))).trans hc; rw [← hnl]; exact this, (World.cell?_of_block (hW.block _ (cell_lt hk0))).trans hk0⟩)
      rw [hnl] at BLD
      obtain ⟨y0, y1⟩ := CC.out _ hb
      clear ho hr hd hb z1 hl hok hc he hx hKK hk0 hk1 s0 s1 hbb hj hnl hn2 hvl
      go_upto_region 6 with (fail)
      go_wp2_with fail
      refine (BLD.out wr BB.out).mono ?_
      rintro e w3 ⟨x3, rfl, ho3, hb3⟩
      obtain ⟨a3, n3, c3, rfl, z3⟩ := ho3.slN
      have Z3 := Lib.hid z3
      have hn3 : n3 ≤ 23000 := by rw [← z3.len]; exact hbl
      have B3 := Lib.hid (keep_trans BB.out hb3)
      have H3 := Lib.hid hb3
      clear ho3 hb3 z3 BLD
      go_wp2_with fail
      refine (rframe_any 66 66 rfl a3 n3 c3 (bld l) w3 (by omega) Z3.out).mono ?_
      rintro e w4 ⟨x4, rfl, ho4, hb4⟩
      obtain ⟨a4, n4, c4, rfl, z4⟩ := ho4.slN
      have hn4 : n4 ≤ 23015 := by rw [← z4.len]; exact hfl
      have N4 := Lib.hid (show (blkf l).length = n4 from z4.len)
      have F4 := Lib.hid ho4
      have B4 := Lib.hid (keep_trans B3.out hb4)
      have H4 := Lib.hid (keep_trans H3.out hb4)
      have O4 := Lib.hid (O.out.keep H4.out)
      have R4 := Lib.hid (R.out.1.keep H4.out)
      have hw4 := B4.out.size
      clear ho4 hb4 z4 y0 y1 Z3 B3 BB
      obtain ⟨y0, y1⟩ := CC.out _ B4.out
      obtain ⟨y2, y3⟩ := CC.out _ (B4.out.drew)
      have e2 : IntKind.i64.wrap (8 + (n1 : Int)) = 8 + (n1 : Int) := IntWalk.i64_in _ (by omega)
      have SL1 := Lib.hid (SlT.litR w4.drew ((ak, nk, ck), 8 + (n1 : Int), (n4 : Int), (nl : Int)) w4.heap.size rfl)
      go_upto_region 8 with (fail)
      go_region_held3 (fun w' => w'.cell? ⟨b, o + n2, none⟩ = some (.slice (some ⟨b2, o2, none⟩) nl cx) ∧ w'.cell? ⟨b2, o2 + j * 2, none⟩ = some (.slice ak nk ck)) (first | go_keep | assumption | exact ⟨q0, q1⟩) (first
        | (refine step_appT eltTR rfl (.tmp 28) (.tmp 53) rfl w.heap.size (.slice a2 n2 c2) vs (by simp [Act.eval, Act.put]) (R4.out.drew.alloc _) (some ⟨w4.heap.size, 0, none⟩) 1 1 [((ak, nk, ck), 8 + (n1 : Int), (n4 : Int), (nl : Int))] (by simp [Act.eval, Act.put]) SL1.out (by rw [VL.out]; unfold maxLen; omega) (by rw [VL.out]; omega) (by simp; omega) (vs ++ [((ak, nk, ck), 8 + (n1 : Int), (n4 : Int), (nl : Int))]) rfl ?_; intro v6 w6 h6 hg6 hv6 hb6; have O6 := Lib.hid h6; have V6 := Lib.hid hv6; have B6 : Hid (Below w.heap.size w w6) := Lib.hid (((B4.out.drew).alloc (by simp; omega) _).trans hb6); have HG6 := Lib.hid hg6; obtain ⟨q0, q1⟩ := CC.out _ B6.out; obtain ⟨a6, n6, c6, rfl, -, -⟩ := h6.slR; clear h6 hg6 hv6 hb6)
        | fail)
      have T46 : Hid (Turns (fun q => Value.ownBlock (.slice a2 n2 c2) = some q) w4 w6) := Lib.hid ((Turns.of_below (((Below.refl w4.heap.size w4).drew).alloc (by simp) _)).trans (.of_grown HG6.out fun q e => e) fun _ _ e => e)
      have O6b := Lib.hid (O4.out.turns T46.out fun q hq => D.out q hq)
      have Z6 := Lib.hid ((F4.out.turns T46.out fun q hq e => by have := (F4.out.lt q hq).1; have := (R.out.1.lt q e).2; have := H3.out.size; omega).slI)
      have LW6 := B6.out.size
      have LT6 : Hid (∀ q, Value.ownBlock (.slice a6 n6 c6) = some q → Value.ownBlock (.slice a2 n2 c2) = some q ∨ w4.heap.size ≤ q) := Lib.hid (fun q hq => by
        rcases V6.out with e | e
        · exact .inl (e.symm.trans hq)
        · rw [e] at hq; injection hq with hq; exact .inr (by simp at hq; omega))
      clear y0 y1 y2 y3 q0 q1 e1 e2 SL1 R4 HG6 V6 F4 H3
      go_wp2_with (at_builtin; refine wpList_appT eltTB rfl (.tmp 55) (.tmp 56) rfl w.heap.size (.slice a1 n1 c1) (outL (L.take n2)) (by rfl) O6b.out a4 n4 c4 (blkf l) (by rfl) Z6.out.toT (by rw [N1.out]; unfold maxLen; omega) (by rw [N1.out]; omega) LW6 (outL (L.take (n2 + 1))) OT.out.symm ?_; intro v9 w9 h9 hg9 hv9 hb9; have O9 := Lib.hid h9; have V9 := Lib.hid hv9; have HG9 := Lib.hid hg9; have B9 := Lib.hid (B6.out.trans hb9); clear h9 hg9 hv9 hb9)
      have DD : Hid (∀ q, Value.ownBlock (.slice a1 n1 c1) = some q → Value.ownBlock (.slice a6 n6 c6) ≠ some q) := Lib.hid (fun q hq e => by
        rcases LT6.out q e with e2 | e2
        · exact D.out q hq e2
        · have := (O4.out.lt q hq).2; omega)
      go_roundw
      case rel =>
        refine ⟨n2 + 1, _, by omega, by go_num, O9.out, ⟨O6.out.turns (.of_grown HG9.out fun q e => e) fun q hq e => DD.out q e hq, ?_, ?_⟩, fun q hq e => ?_, B9.out⟩
        · rw [RT.out, List.length_append, List.length_append, R.out.2.1]; rfl
        · intro i x r hx hr
          rw [RT.out] at hr
          by_cases hi : i < vs.length
          · rw [List.getElem?_append_left hi] at hx
            rw [List.getElem?_append_left (by rw [← R.out.2.1]; exact hi)] at hr
            exact R.out.2.2 i x r hx hr
          · have hi2 : i = vs.length := by have := (List.getElem?_eq_some_iff.1 hx).1; simp at this; omega
            subst hi2
            rw [List.getElem?_append_right (Nat.le_refl _), Nat.sub_self] at hx
            rw [List.getElem?_append_right (by rw [← R.out.2.1]; exact Nat.le_refl _), R.out.2.1, Nat.sub_self] at hr
            simp at hx hr
            subst hx hr
            refine ⟨?_, by rw [KK.out]; exact S0.out⟩
            show ((8 : Int) + (n1 : Int), (n4 : Int), (nl : Int)) = ((endL (L.take n2) : Int), ((blkf l).length : Int), (l.length : Int))
            rw [N4.out, HNL.out]
            unfold endL
            rw [N1.out]; push_cast; rfl
        · rcases V9.out with e2 | e2
          · exact DD.out q (e2.symm.trans hq) e
          · rw [e2] at hq; injection hq with hq
            have := (O6.out.lt q e).2; omega
      case measure => simp [intOf]; omega
    · obtain rfl : n2 = L.length := by omega
      have hsp := R.out.spans BB.out
      rw [List.take_length] at hsp
      have HS := Lib.hid hsp
      have OO := Lib.hid (show OwT fB wr w.heap.size 5 (.slice a1 n1 c1) (outL L) by have := O.out; rw [List.take_length] at this; exact this)
      clear ho hr hd hb z1 hsp hlt hk hn2 hvl
      obtain ⟨nL, hnL⟩ : ∃ nL, L.length = nL := ⟨_, rfl⟩
      have HLn := Lib.hid hnL
      rw [hnL]
      clear hnL hn
      go_wp2_with fail
      go_ret2
      obtain ⟨a', n', c', e, hs⟩ := HS.out
      cases e
      exact ⟨_, _, _, _, rfl, OO.out, by rw [← HLn.out]; exact hs, BB.out⟩
end Go.Proofs.Ytljcogimeimknaa

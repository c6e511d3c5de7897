/- written: a writer's stream of entries, cut behind some: contract. Conditions: the entries within reach, none refused. -/
import Derived.Test.YtljcogimeimknaaOneWM
import Derived.Test.YtljcogimeimknaaStmEnds
import Derived.Test.YtljcogimeimknaaK8y
namespace Go.Proofs.Ytljcogimeimknaa
open Go.RowKit
set_option linter.unusedVariables false
set_option linter.unusedSimpArgs false

theorem zip_at {es : List Ent} {cs : List Bool} {k : Nat} {e : Ent} {c : Bool} (he : es[k]? = some e) (hc : cs[k]? = some c) : (es.zip cs).drop k = (e, c) :: (es.zip cs).drop (k + 1) := by
  have : (es.zip cs)[k]? = some (e, c) := by rw [List.getElem?_zip_eq_some]; exact ⟨he, hc⟩
  obtain ⟨hl, h⟩ := List.getElem?_eq_some_iff.1 this
  rw [← h]
  exact List.drop_eq_getElem_cons hl
/-- the loop of written -/
structure WrtI (w wr : World) (g : Nat) (l : List (Ent × Bool)) (F : WS × List UInt8) (k : Nat) (x : WS × List UInt8) (bv : Value) (who : Nat → Nat) : Prop where
  st : WrS wr w.heap.size g 64 x.1 who
  ok : Wst x
  al : AllIn x (l.drop k)
  fo : (l.drop k).foldl w1 x = F
  bo : OwT fB wr w.heap.size 5 bv x.2
  bw : ∀ j, bv.ownBlock = some j → who j = 0
  be : Below w.heap.size w wr
theorem WrtI.turn {w wr wq : World} {g : Nat} {x : WS × List UInt8} {bv : Value} {who who' : Nat → Nat} (hS : WrS wr w.heap.size g 64 x.1 who) (hb : Below w.heap.size w wr) (ho : OwT fB wr w.heap.size 5 bv x.2) (hw : ∀ j, bv.ownBlock = some j → who j = 0) (hG : Gr wr wq who who') :
    Below w.heap.size w wq ∧ OwT fB wq w.heap.size 5 bv x.2 ∧ (∀ j, bv.ownBlock = some j → who' j = 0) :=
  ⟨hG.keepB (fun j hj => (hS.low.1 j hj).1) hb hb.size, ho.turns hG.t (fun j hj e => e (hw j hj)), fun j hj => by rw [hG.o j (ho.lt j hj).2]; exact hw j hj⟩

set_option maxRecDepth 100000 in
set_option maxHeartbeats 4000000 in
theorem written_any (a : Option Addr) (c : Nat) (es : List Ent) (ac : Option Addr) (cc : Nat) (cs : List Bool) (w : World) (hn : es.length ≤ 2932031007317) (hf : Fit 140737488351232 es) (h : Ents w a es.length c es)
    (hc : Sl Value.bool w ac es.length cc cs) (hin : AllIn (WS0, []) (es.zip cs)) :
    Calls Try.prog 35 #[.slice a es.length c, .int .i64 64, .slice ac es.length cc] w fun e w' => ∃ v y, e = .returned (.tuple #[v, y, .bool true]) ∧
      OwT fB w' w.heap.size 5 v (((es.zip cs).foldl w1 (WS0, [])).2 ++ ((es.zip cs).foldl w1 (WS0, [])).1.close.ready) ∧ Below w.heap.size w w' := by
  obtain ⟨l, hl⟩ : ∃ l, es.zip cs = l := ⟨_, rfl⟩
  obtain ⟨F, hF⟩ : ∃ F, (es.zip cs).foldl w1 (WS0, []) = F := ⟨_, rfl⟩
  rw [hF]
  have HL := Lib.hid hl
  have HF := Lib.hid hf
  have HIN := Lib.hid (hl ▸ hin)
  have HFO := Lib.hid (hl ▸ hF)
  have H := Lib.hid h
  have HC := Lib.hid hc
  have HCL := Lib.hid hc.len
  clear hl hF hf hin h hc
  go_enter Try.func35, Try.ntmps35
  go_wp2_with fail
  refine (snew_any 64 w (by decide) (by decide)).mono ?_
  rintro e wA ⟨g, who, rfl, hS, hb⟩
  have I1 := Lib.hid (show WrtI w wA g l F 0 (WS0, []) (.slice none 0 0) who from ⟨hS, Wst.zero, HIN.out, HFO.out, OwT.nil _ _ _ _, fun j hj => (by cases hj), hb⟩)
  clear hS hb HIN HFO
  go_wp2_with fail
  go_loopw [11, 12] (fun s i wr => ∃ (k : Nat) (x : WS × List UInt8) (bv : Value) (who : Nat → Nat), k ≤ es.length ∧ i = .int .i64 (k : Nat) ∧ s = bv ∧ WrtI w wr g l F k x bv who) (fun _ i _ => es.length - (intOf i).toNat)
  case atStart => exact ⟨0, _, _, _, Nat.zero_le _, rfl, rfl, I1.out⟩
  case round =>
    clear I1
    obtain ⟨k, x, bv, who, hk, rfl, rfl, hI⟩ := hrel
    have I := Lib.hid hI
    clear hI
    by_cases hlt : k < es.length
    · obtain ⟨⟨kk, xx⟩, hx⟩ : ∃ e, es[k]? = some e := ⟨_, List.getElem?_eq_getElem hlt⟩
      obtain ⟨bb, bo, ak, ck, av, cv, rfl, hf1, hf2, hall⟩ := Ents.row H.out hx
      obtain ⟨c0, c1, z0, z1⟩ := hall wr I.out.be
      have hfe := HF.out _ (List.mem_of_getElem? hx)
      obtain ⟨q, b2, o2, hq, rfl, hcq⟩ := HC.out.at k hlt
      have HD := Lib.hid (HL.out ▸ zip_at hx hq)
      have LOW := Lib.hid I.out.st.low.1
      have F1 := Lib.hid (show ∀ b o, ak = some ⟨b, o, none⟩ → 0 < kk.length → who b = 0 from fun b o e h0 => Classical.byContradiction fun e2 => by have := hf1 b o e h0; have := (LOW.out b e2).1; omega)
      have F2 := Lib.hid (show ∀ b o, av = some ⟨b, o, none⟩ → 0 < xx.length → who b = 0 from fun b o e h0 => Classical.byContradiction fun e2 => by have := hf2 b o e h0; have := (LOW.out b e2).1; omega)
      have Z0 := Lib.hid z0
      have Z1 := Lib.hid z1
      have CQ := Lib.hid hcq
      have h1 : kk.length ≤ 140737488351232 := hfe.1
      have h2 : xx.length ≤ 140737488351232 := hfe.2
      have HAL := Lib.hid (show (x.1.add 64 (kk, xx)).1 = 0 ∧ AllIn (w1 x ((kk, xx), q)) (l.drop (k + 1)) from by have := I.out.al; rw [HD.out] at this; exact this)
      have HFO := Lib.hid (show (l.drop (k + 1)).foldl w1 (w1 x ((kk, xx), q)) = F from by have := I.out.fo; rw [HD.out] at this; exact this)
      clear hx hq hf1 hf2 hall z0 z1 hfe hcq HD
      go_wp2_with fail
      have AD := sadd_any wr w.heap.size g 64 x.1 who ak kk.length ck kk av xx.length cv xx I.out.st I.out.ok.ok h1 h2 Z0.out Z1.out F1.out F2.out
      rw [HAL.out.1, show ((0 : Nat) : Int) = 0 from rfl] at AD
      refine AD.mono ?_
      rintro e w2 ⟨rfl, who2, hS2, hG2⟩
      obtain ⟨t1, t2, t3⟩ := WrtI.turn I.out.st I.out.be I.out.bo I.out.bw hG2
      have S2 := Lib.hid hS2
      have B2 := Lib.hid t1
      have O2 := Lib.hid t2
      have W2 := Lib.hid t3
      have CQ2 := Lib.hid ((World.cell?_of_block (t1.block _ (cell_lt CQ.out))).trans CQ.out)
      have STP := Lib.hid (I.out.ok.step ((kk, xx), q))
      have OKA := Lib.hid (I.out.ok.ok.add (kk, xx))
      have SHA := Lib.hid (add_shut (m := 64) (kk, xx) I.out.ok.sh)
      have TLA := Lib.hid (show x.2.length = (x.1.add 64 (kk, xx)).2.cut.told by rw [cut_told, add_told]; exact I.out.ok.tl)
      clear AD hS2 hG2 t1 t2 t3 F1 F2 Z0 Z1 LOW c0 c1 CQ I
      have cq : w2.cell? ⟨b2, o2 + k, none⟩ = some (.bool q) := CQ2.out
      have t0 : ((0 : Int) != 0) = false := rfl
      have t1 : decide ((k : Int) < (es.length : Int)) = true := decide_eq_true (by omega)
      have t1' : decide (k < es.length) = true := decide_eq_true hlt
      cases q with
      | false =>
        have F := Lib.hid (show w1 x ((kk, xx), false) = ((x.1.add 64 (kk, xx)).2, x.2) from if_neg (by simp))
        go_wp2_with fail
        go_roundw
        case rel => exact ⟨k + 1, ((x.1.add 64 (kk, xx)).2, x.2), _, who2, by omega, by go_num, rfl, by
          have h1 := HAL.out.2; have h2 := HFO.out; have h3 := STP.out
          rw [F.out] at h1 h2 h3
          exact ⟨S2.out, h3, h1, h2, O2.out, W2.out, B2.out⟩⟩
        case measure => simp [intOf]; omega
      | true =>
        have F := Lib.hid (show w1 x ((kk, xx), true) = ((x.1.add 64 (kk, xx)).2.cut.next, x.2 ++ (x.1.add 64 (kk, xx)).2.cut.ready) from if_pos rfl)
        go_wp2_with fail
        clear cq t0 t1 t1'
        have CU := scut_any w2 w.heap.size g 64 _ who2 S2.out OKA.out
        rw [SHA.out, if_neg (by decide), show ((0 : Nat) : Int) = 0 from rfl] at CU
        refine CU.mono ?_
        rintro e w3 ⟨rfl, who3, hS3, hG3⟩
        obtain ⟨t1, t2, t3⟩ := WrtI.turn (x := ((x.1.add 64 (kk, xx)).2, x.2)) S2.out B2.out O2.out W2.out hG3
        have S3 := Lib.hid hS3
        have B3 := Lib.hid t1
        have O3 := Lib.hid t2
        have W3 := Lib.hid t3
        clear CU hS3 hG3 t1 t2 t3 S2 O2 W2 B2 CQ2
        go_wp2_with fail
        refine (snext_any w3 w.heap.size g 64 _ who3 S3.out OKA.out.cut).mono ?_
        rintro e w4 ⟨aN, nN, cN, who4, rfl, hoN, hS4, hG4, -⟩
        obtain ⟨t1, t2, t3⟩ := WrtI.turn (x := ((x.1.add 64 (kk, xx)).2.cut, x.2)) S3.out B3.out O3.out W3.out hG4
        have S4 := Lib.hid hS4
        have B4 := Lib.hid t1
        have O4 := Lib.hid t2
        have W4 := Lib.hid t3
        have N4 := Lib.hid hoN.slI
        have SZ := Lib.hid (ready_size OKA.out.cut TLA.out)
        have NL := Lib.hid hoN.slI.len
        clear hS4 hG4 t1 t2 t3 S3 O3 W3 B3 hoN
        go_wp2_with (at_builtin; refine wpList_appT eltTB rfl (.tmp 51) (.tmp 53) rfl w.heap.size _ x.2 (by rfl) O4.out aN nN cN _ (by rfl) N4.out.toT (by have := SZ.out; have := NL.out; unfold maxLen; omega) (by have := SZ.out; have := NL.out; omega) B4.out.size _ rfl ?_; intro v5 w5 h5 hg5 hv5 hb5; have O5 := Lib.hid h5; have G5 := Lib.hid hg5; have V5 := Lib.hid hv5; have B5 := Lib.hid (B4.out.trans hb5); clear h5 hg5 hv5 hb5)
        go_roundw
        case rel => exact ⟨k + 1, ((x.1.add 64 (kk, xx)).2.cut.next, x.2 ++ (x.1.add 64 (kk, xx)).2.cut.ready), _, who4, by omega, by go_num, rfl, by
          have h1 := HAL.out.2; have h2 := HFO.out; have h3 := STP.out
          rw [F.out] at h1 h2 h3
          refine ⟨S4.out.turn (.of_grown (S := fun j => Value.ownBlock _ = some j) G5.out (fun _ h => h)) W4.out, h3, h1, h2, O5.out, fun j hj => ?_, B5.out⟩
          rcases V5.out with e | e
          · exact W4.out j (e ▸ hj)
          · rw [e] at hj; cases hj
            exact Classical.byContradiction fun hne => by have := (S4.out.low.1 _ hne).2; omega⟩
        case measure => simp [intOf]; omega
    · obtain rfl : k = es.length := by omega
      clear hlt hk
      have FX : F = x := by
        have h1 := I.out.fo
        have h2 : l.length = es.length := by rw [← HL.out, List.length_zip, HCL.out, Nat.min_self]
        rw [← h2, List.drop_length] at h1
        exact h1.symm
      subst FX
      have CL := sclose_any wr w.heap.size g 64 F.1 who I.out.st I.out.ok.ok
      rw [I.out.ok.sh, if_neg (by decide), if_neg (by decide), show ((0 : Nat) : Int) = 0 from rfl] at CL
      have CLO := Lib.hid (I.out.ok.ok.close I.out.ok.sh)
      have TLC := Lib.hid (show F.2.length = F.1.close.told by show _ = F.1.cut.told; rw [cut_told]; exact I.out.ok.tl)
      go_wp2_with fail
      refine CL.mono ?_
      rintro e w3 ⟨rfl, who3, hS3, hG3⟩
      obtain ⟨t1, t2, t3⟩ := WrtI.turn I.out.st I.out.be I.out.bo I.out.bw hG3
      have S3 := Lib.hid hS3
      have B3 := Lib.hid t1
      have O3 := Lib.hid t2
      have W3 := Lib.hid t3
      clear CL hS3 hG3 t1 t2 t3 I
      go_wp2_with fail
      refine (snext_any w3 w.heap.size g 64 _ who3 S3.out CLO.out).mono ?_
      rintro e w4 ⟨aN, nN, cN, who4, rfl, hoN, hS4, hG4, -⟩
      obtain ⟨t1, t2, t3⟩ := WrtI.turn (x := (F.1.close, F.2)) S3.out B3.out O3.out W3.out hG4
      have S4 := Lib.hid hS4
      have B4 := Lib.hid t1
      have O4 := Lib.hid t2
      have W4 := Lib.hid t3
      have N4 := Lib.hid hoN.slI
      have SZ := Lib.hid (ready_size CLO.out TLC.out)
      have NL := Lib.hid hoN.slI.len
      clear hS4 hG4 t1 t2 t3 S3 O3 W3 B3 hoN
      go_wp2_with (at_builtin; refine wpList_appT eltTB rfl (.tmp 57) (.tmp 59) rfl w.heap.size _ F.2 (by rfl) O4.out aN nN cN _ (by rfl) N4.out.toT (by have := SZ.out; have := NL.out; unfold maxLen; omega) (by have := SZ.out; have := NL.out; omega) B4.out.size _ rfl ?_; intro v5 w5 h5 hg5 hv5 hb5; have O5 := Lib.hid h5; have S5 := Lib.hid (S4.out.turn (.of_grown (S := fun j => Value.ownBlock _ = some j) hg5 (fun _ h => h)) W4.out); have B5 := Lib.hid (B4.out.trans hb5); clear h5 hg5 hv5 hb5)
      refine (sspans_any w5 w.heap.size g 64 _ who4 S5.out CLO.out.next).mono ?_
      rintro e w6 ⟨aR, nR, cR, vR, rfl, -, -, hb6⟩
      have O6 := Lib.hid (O5.out.keep hb6)
      have B6 := Lib.hid (keep_trans B5.out hb6)
      clear hb6 O5 B5 S4 S5 O4 W4 N4 B4
      have t0 : ((0 : Int) == 0) = true := rfl
      go_wp2_with fail
      go_ret3
      exact ⟨_, _, rfl, O6.out, B6.out⟩
end Go.Proofs.Ytljcogimeimknaa

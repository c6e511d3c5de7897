/- What Find does, tried: contract. Conditions: numbers within reach. -/
import Derived.Test.YtljcogimeimknaaGreatBlockRead
import Derived.Test.YtljcogimeimknaaGreatBlockRestart
import Derived.Test.YtljcogimeimknaaGreatK8b
import Derived.Test.YtljcogimeimknaaGreatF8q
import Derived.Deep.LoopGhost
namespace Go.Proofs.YtljcogimeimknaaGreat
open Go.RowKit
set_option linter.unusedVariables false
set_option linter.unusedSimpArgs false

/-- what was found, of the call's own -/
def FoundO (w : World) (base : Nat) (v : Value) (ov : Option (List UInt8)) : Prop := (ov = none ∧ v = .slice none 0 0) ∨ ∃ x, ov = some x ∧ OwT fB w base 5 v x
/-- behind Find's work: the two boxes -/
def FBox (w w' : World) (gi gv : Nat) (b key : List UInt8) (e : Int) : Prop :=
  Turns (fun j => j = gi ∨ j = gv) w w' ∧ ∃ (ov : Option (List UInt8)) (v : Value), FindR b key ov e ∧ w'.heap[gi]? = some (.cells #[.bool ov.isSome] 4 (0, 0)) ∧ w'.heap[gv]? = some (.cells #[v] 22 (0, 0)) ∧ FoundO w' w.heap.size v ov
/-- going on -/
def FSt (w0 W : World) (g gi gv : Nat) (ab : Option Addr) (cb n E : Nat) (b key : List UInt8) (X : Option (List UInt8) × Int) (k : Nat) : Prop :=
  ∃ (m : Nat) (vl vr : Value) (last : List UInt8) (runs : List Nat), Rdr W w0.heap.size g ab b.length cb n k m vl vr last runs ∧ Turns (fun j => j = gi ∨ j = gv) w0 W ∧ k ≤ E ∧ m ≤ 140737488355328 ∧ last.length ≤ 64 ∧ runs.length ≤ k ∧ (k < E → k % 8 = 0 → last = []) ∧
    W.heap[gi]? = some (.cells #[.bool false] 4 (0, 0)) ∧ W.heap[gv]? = some (.cells #[.slice none 0 0] 22 (0, 0)) ∧ fgo b key (E - k) k last m = X
/-- found -/
def FDn (w0 W : World) (g gi gv : Nat) (ab : Option Addr) (cb n E : Nat) (b : List UInt8) (X : Option (List UInt8) × Int) (k : Nat) : Prop :=
  ∃ (m : Nat) (vl vr : Value) (last : List UInt8) (runs : List Nat) (x : List UInt8) (v : Value), Rdr W w0.heap.size g ab b.length cb n k m vl vr last runs ∧ Turns (fun j => j = gi ∨ j = gv) w0 W ∧ k ≤ E ∧
    W.heap[gi]? = some (.cells #[.bool true] 4 (0, 0)) ∧ W.heap[gv]? = some (.cells #[v] 22 (0, 0)) ∧ OwT fB W w0.heap.size 5 v x ∧ X = (some x, 0)
set_option maxRecDepth 100000 in
set_option maxHeartbeats 4000000 in
theorem bfind1_any (gb gy gi gv : Nat) (ab : Option Addr) (nb cb : Nat) (b : List UInt8) (ak : Option Addr) (nk ck : Nat) (key : List UInt8) (w : World) (hnb : nb ≤ 140737488351232) (hB : Sl Bf w ab nb cb b) (hK : Sl Bf w ak nk ck key)
    (hgb : w.heap[gb]? = some (.cells #[.slice ab nb cb] 22 (0, 0))) (hgk : w.heap[gy]? = some (.cells #[.slice ak nk ck] 22 (0, 0))) (hgi : w.heap[gi]? = some (.cells #[.bool false] 4 (0, 0))) (hgv : w.heap[gv]? = some (.cells #[.slice none 0 0] 22 (0, 0)))
    (hd : gb ≠ gi ∧ gb ≠ gv ∧ gy ≠ gi ∧ gy ≠ gv ∧ gi ≠ gv) (hsb : ∀ bb o, ab = some ⟨bb, o, none⟩ → 0 < nb → bb ≠ gi ∧ bb ≠ gv) (hsk : ∀ bb o, ak = some ⟨bb, o, none⟩ → 0 < nk → bb ≠ gi ∧ bb ≠ gv) :
    Calls Tryz.prog 93 #[.pointer (some ⟨gb, 0, none⟩), .pointer (some ⟨gy, 0, none⟩), .pointer (some ⟨gi, 0, none⟩), .pointer (some ⟨gv, 0, none⟩)] w fun r w' => ∃ e q : Int, ((e = 0 ∧ q = 0 ∧ r = .returned (.tuple #[])) ∨ r = wrongBy e q) ∧ FBox w w' gi gv b key e := by
  obtain rfl : b.length = nb := hB.len
  obtain rfl : key.length = nk := hK.len
  have HBG := Lib.hid (bbegin_any ab b.length cb b w (by omega) hB)
  have HLO := Lib.hid (show ∀ bb o, ab = some ⟨bb, o, none⟩ → 0 < b.length → bb < w.heap.size from fun bb o e h => by subst e; exact hB.blt h)
  have lb := (Array.getElem?_eq_some_iff.1 hgb).1
  have lk := (Array.getElem?_eq_some_iff.1 hgk).1
  have li := (Array.getElem?_eq_some_iff.1 hgi).1
  have lv := (Array.getElem?_eq_some_iff.1 hgv).1
  obtain ⟨d1, d2, d3, d4, d5⟩ := hd
  have SB := Lib.hid (show ∀ V, Turns (fun j => j = gi ∨ j = gv) w V → Sl Bf V ab b.length cb b ∧ Sl Bf V ak key.length ck key ∧ V.heap[gb]? = some (.cells #[.slice ab b.length cb] 22 (0, 0)) ∧ V.heap[gy]? = some (.cells #[.slice ak key.length ck] 22 (0, 0)) from fun V hV =>
    ⟨hB.turns hV fun bb o e h1 h2 => by have := hsb bb o e h1; omega, hK.turns hV fun bb o e h1 h2 => by have := hsk bb o e h1; omega, hV.heap hgb (by omega), hV.heap hgk (by omega)⟩)
  have x0 := cell_of hgb 0 rfl
  have GI := Lib.hid hgi
  have GV := Lib.hid hgv
  clear hB hK hgb hgk hgi hgv hsb hsk
  go_enter Tryz.func93, Tryz.ntmps93
  go_wp2_with fail
  refine HBG.out.mono ?_
  rintro r w1 ⟨n, q, er, hrd, hb1, h1, h2, h3⟩
  have T1 := Lib.hid (Turns.of_below (S := fun j => j = gi ∨ j = gv) hb1)
  have GI1 := Lib.hid (blk_keep' GI.out hb1)
  have GV1 := Lib.hid (blk_keep' GV.out hb1)
  by_cases hz : er = 0
  · subst hz
    by_cases hn : n < 1 ∨ 64 < n
    · obtain rfl := h2 rfl hn
      have FR := Lib.hid (show FindR b key none 61 from ⟨n, q, 0, hrd, .inr (.inl ⟨rfl, hn, rfl, rfl⟩)⟩)
      clear h1 h2 h3 hrd hn hb1 x0
      unfold wrongBy
      go_wp2_with fail
      exact ⟨rfl, 61, 0, .inr rfl, T1.out, none, _, FR.out, GI1.out, GV1.out, .inl ⟨rfl, rfl⟩⟩
    · obtain ⟨g, rfl, hR⟩ := h3 rfl hn
      have R1 := Lib.hid hR
      have HRD := Lib.hid hrd
      have HN := Lib.hid hn
      obtain ⟨s1, s2, s3, s4⟩ := SB.out w1 T1.out
      have y0 := cell_of s3 0 rfl
      have y1 := cell_of s4 0 rfl
      have c1 := hR.c1
      have hgl := hR.lt
      have hn64 : 1 ≤ n ∧ n ≤ 64 := by omega
      have RST := Lib.hid (restart_any ab b.length cb b ak key.length ck key n w1.drew hn64 hnb (s1.keep kd1') (s2.keep kd1'))
      clear h1 h2 h3 hrd hn hb1 x0 hR s1 s2 s3 s4
      go_upto_region 1 with (fail)
      go_cut [5, 6] (fun v5 v6 wx => (∃ i at' : Nat, RSf b key n i at' ∧ 8 * i < n ∧ at' ≤ 65535 ∧ v5 = .int .i64 (i : Nat) ∧ v6 = .int .i64 (at' : Nat)) ∧ Below w1.heap.size w1 wx)
      case first =>
        go_region_with ((go_at_call 95; refine RST.out.mono ?_; rintro r w2 ⟨⟨i, at', hRS, hi, hat, rfl⟩, hb2⟩; have hb3 := Lib.hid (keep_trans (kd1' (w := w1)) hb2); have HRS := Lib.hid hRS; clear hRS hb2))
        all_goals
          go_wp2_with fail
          go_meet
          exact ⟨⟨i, at', HRS.out, hi, hat, rfl, rfl⟩, hb3.out⟩
      case rest =>
        obtain ⟨w2, rfl⟩ : ∃ w5, w5 = wc := ⟨_, rfl⟩
        obtain ⟨⟨i, at', hRS, hi, hat, rfl, rfl⟩, hb2⟩ := hcut
        have R2 := Lib.hid (R1.out.keep hb2)
        have T2 := Lib.hid (T1.out.trans_below hb2)
        have GI2 := Lib.hid (blk_keep' GI1.out hb2)
        have GV2 := Lib.hid (blk_keep' GV1.out hb2)
        have HRS := Lib.hid hRS
        have HI := Lib.hid hi
        have hlg := R2.out.low
        obtain ⟨d, hd⟩ : ∃ d, i * 8 = d := ⟨_, rfl⟩
        obtain ⟨E, hE⟩ : ∃ E, min n (d + 8) = E := ⟨_, rfl⟩
        obtain ⟨X, hX⟩ : ∃ X, fgo b key (E - d) d [] at' = X := ⟨_, rfl⟩
        have FX := Lib.hid (show FindR b key X.1 X.2 from ⟨n, q, 0, HRD.out, .inr (.inr ⟨rfl, HN.out, i, at', hRS, by rw [← hX, ← hE, ← hd, Nat.mul_comm 8 i]⟩)⟩)
        have HX := Lib.hid hX
        have hn64 : n ≤ 64 := by have := HN.out; omega
        have hdE : d < E := by omega
        have hd8 : d % 8 = 0 := by omega
        have hE8 : E ≤ d + 8 := by omega
        have hE64 : E ≤ 64 := by omega
        have r1 : IntKind.i64.wrap ((i : Int) * 8) = (d : Nat) := by rw [IntWalk.i64_in _ (by omega)]; omega
        have r2 : IntKind.i64.wrap ((d : Int) + 8) = (d : Int) + 8 := IntWalk.i64_in _ (by omega)
        have hM1 : (if (n : Int) < (d : Int) + 8 then (n : Int) else (d : Int) + 8) = (E : Nat) := by split <;> omega
        have hM2 : (if (d : Int) + 8 < (n : Int) then (d : Int) + 8 else (n : Int)) = (E : Nat) := by split <;> omega
        have e1 := R2.out.c1
        have e2 := R2.out.c2
        have e3 := R2.out.c3
        have f2 := R2.out.free 2
        have f3 := R2.out.free 3
        clear hd hE hX hRS hi hb2 y0 y1 c1 hgl RST R1 T1 GI1 GV1
        go_upto_region 1 with (fail)
        have R3 := Lib.hid ((R2.out.num d).place at')
        have TG : Turns (fun j => j = g) w2 ((w2.setCell ⟨g, 2, none⟩ (.int .i64 (d : Nat))).setCell ⟨g, 3, none⟩ (.int .i64 (at' : Nat))) := (Turns.set (S := fun j => j = g) w2 (b := g) (i := 2) rfl _).trans (Turns.set (S := fun j => j = g) _ (b := g) (i := 3) rfl _) fun _ _ e => e
        have T3 := Lib.hid (T2.out.trans TG fun j hj e => by omega)
        have GI3 := Lib.hid (TG.heap GI2.out (by omega))
        have GV3 := Lib.hid (TG.heap GV2.out (by omega))
        clear TG e1 e2 e3 f2 f3 R2 T2 GI2 GV2 r1
        generalize (w2.setCell ⟨g, 2, none⟩ (.int .i64 (d : Nat))).setCell ⟨g, 3, none⟩ (.int .i64 (at' : Nat)) = w3 at *
        have e1 := R3.out.c1
        have e2 := R3.out.c2
        go_quiet (fail)
        have R4 := Lib.hid (R3.out.drewN nq)
        have T4 := Lib.hid (T3.out.drewN nq)
        have GI4 := Lib.hid (show (w3.drewN nq).heap[gi]? = some (.cells #[.bool false] 4 (0, 0)) from GI3.out)
        have GV4 := Lib.hid (show (w3.drewN nq).heap[gv]? = some (.cells #[.slice none 0 0] 22 (0, 0)) from GV3.out)
        clear e1 e2 R3 T3 GI3 GV3 r2 hM1 hM2
        generalize w3.drewN nq = w4 at *
        have HHG := Lib.hid hlg
        have hat2 := hat
        clear hat
        go_wp2_with fail
        go_loopg [] (E + 1 - d) (fun f wr => ∃ k : Nat, f + k = E + 1 ∧ d ≤ k ∧ (FSt w wr g gi gv ab cb n E b key X k ∨ FDn w wr g gi gv ab cb n E b X k))
        case atStart => exact ⟨d, by omega, Nat.le_refl _, .inl ⟨at', _, _, [], [], R4.out, T4.out, by omega, by omega, by simp, by simp, fun _ _ => rfl, GI4.out, GV4.out, HX.out⟩⟩
        case round =>
          obtain ⟨k, hgk, hdk, hS⟩ := hrel
          rcases hS with ⟨m, vl, vr, last, runs, hR, hT, hkE, hm, hl64, hrl, hl8, hgi, hgv, hX⟩ | ⟨m, vl, vr, last, runs, x, v, hR, hT, hkE, hgi, hgv, hov, hX⟩
          · have R := Lib.hid hR
            have T := Lib.hid hT
            have GI := Lib.hid hgi
            have GV := Lib.hid hgv
            have c2 := hR.c2
            have ci := cell_of hgi 0 rfl
            by_cases hlt : k < E
            · obtain ⟨t, ht⟩ : ∃ t, E - k = t + 1 := ⟨E - k - 1, by omega⟩
              rw [ht] at hX
              have EQ := Lib.hid hX
              have HT := Lib.hid ht
              have t1 : decide ((k : Int) < (E : Int)) = true := decide_eq_true (by omega)
              have t1' : decide (k < E) = true := decide_eq_true hlt
              obtain ⟨s1, s2, s3, s4⟩ := SB.out wr hT
              have NX := Lib.hid (bnext_any w.heap.size g ab b.length cb n k m vl vr last runs b wr (by omega) (by omega) (by omega) hl64 (by omega) hR s1 HLO.out)
              have K4 := Lib.hid s4
              have L8 := Lib.hid (hl8 hlt)
              clear hR hT hgi hgv hX s1 s2 s3 s4 hl8 ht
              go_wp2_with fail
              refine NX.out.mono ?_
              rintro r w5 ⟨x, q5, er, hx, ht, p1, p2, p3⟩
              have T5 := Lib.hid (T.out.trans ht fun j hj e => by have := (R.out.inS j e).1; omega)
              have GI5 := Lib.hid (ht.heap GI.out fun e => by have := (R.out.inS _ e).1; omega)
              have GV5 := Lib.hid (ht.heap GV.out fun e => by have := (R.out.inS _ e).1; omega)
              have K5 := Lib.hid (ht.heap K4.out fun e => by have := (R.out.inS _ e).1; omega)
              by_cases hz : er = 0
              · subst hz
                obtain ⟨vk, vv, vl', vr', mid, rfl, o1, o2, o3, o4, hR5, hS5, hD5⟩ := p3 rfl (fun ⟨e1, e2, _⟩ => by rw [L8.out e1] at e2; simp at e2)
                obtain ⟨ax, nx, cx, rfl, zk⟩ := o1.slN
                obtain ⟨av, nv, cv, rfl, zv⟩ := o2.slN
                obtain ⟨w6, hw6⟩ : ∃ V, w5.alloc (.cells #[.slice ax nx cx, .slice av nv cv] 51) = V := ⟨_, rfl⟩
                have b6 : Below w5.heap.size w5 w6 := hw6 ▸ (Below.refl _ _).alloc (Nat.le_refl _) _
                have e6 : w6.heap[w5.heap.size]? = some (.cells #[.slice ax nx cx, .slice av nv cv] 51 (0, 0)) := hw6 ▸ heap_new w5 _
                have T6 := T5.out.trans_below b6
                have GI6 := Lib.hid (blk_keep' GI5.out b6)
                have GV6 := Lib.hid (blk_keep' GV5.out b6)
                have EQL := Lib.hid (bequal_any ax nx cx x.1 ak key.length ck key w6 (zk.keep b6) (SB.out w6 T6).2.1)
                have R6 := Lib.hid (hR5.keep b6)
                have OV := Lib.hid (o2.keep b6)
                have h56 := b6.size
                have hmid : w.heap.size ≤ mid := Nat.le_trans T.out.size o4
                have h05 : w.heap.size ≤ w5.heap.size := T5.out.size
                have x0 := cell_of e6 0 rfl
                have x1 := cell_of e6 1 rfl
                have ck6 := cell_of (blk_keep' K5.out b6) 0 rfl
                have ei := cell_of GI6.out 0 rfl
                have fi := free_block GI6.out 0
                have hin := erd_in hx
                have HX5 := Lib.hid hx
                have T6H := Lib.hid T6
                have hbt : m < q5 ∧ q5 ≤ b.length := by omega
                have hx1 : x.1.length ≤ 64 := by omega
                clear o1 o2 o3 o4 hR5 hS5 hD5 hx ht p1 p2 p3 zk zv T6 hin ci c2 NX
                by_cases hxk : x.1 = key
                · have EX := Lib.hid (show X = (some x.2, 0) by rw [← EQ.out, fgo_is HX5.out hxk])
                  rw [decide_eq_true hxk] at EQL
                  clear hxk
                  have TI := Turns.set (S := fun j => j = gi) w6 (b := gi) (i := 0) rfl (.bool true)
                  have GI7 := set_block (i := 0) GI6.out (.bool true)
                  have GV7 := TI.heap GV6.out (by omega)
                  have E7 := TI.heap e6 (by omega)
                  have ci7 : (w6.setCell ⟨gi, 0, none⟩ (.bool true)).cell? ⟨gi, 0, none⟩ = some (.bool true) := cell_of GI7 0 rfl
                  have cv7 : (w6.setCell ⟨gi, 0, none⟩ (.bool true)).cell? ⟨gv, 0, none⟩ = some (.slice none 0 0) := cell_of GV7 0 rfl
                  have fv7 : (w6.setCell ⟨gi, 0, none⟩ (.bool true)).frozen? ⟨gv, 0, none⟩ = false := free_block GV7 0
                  have ce7 : (w6.setCell ⟨gi, 0, none⟩ (.bool true)).cell? ⟨w5.heap.size, 1, none⟩ = some (.slice av nv cv) := cell_of E7 1 rfl
                  have TV := Turns.set (S := fun j => j = gv) (w6.setCell ⟨gi, 0, none⟩ (.bool true)) (b := gv) (i := 0) rfl (.slice av nv cv)
                  have TIV : Turns (fun j => j = gi ∨ j = gv) w6 ((w6.setCell ⟨gi, 0, none⟩ (.bool true)).setCell ⟨gv, 0, none⟩ (.slice av nv cv)) := (TI.mono (T := fun j => j = gi ∨ j = gv) fun _ _ e => .inl e).trans TV fun _ _ e => .inr e
                  have FIN := Lib.hid (show FDn w ((w6.setCell ⟨gi, 0, none⟩ (.bool true)).setCell ⟨gv, 0, none⟩ (.slice av nv cv)) g gi gv ab cb n E b X (k + 1) from
                    ⟨q5, _, _, _, _, x.2, _, R6.out.turns TIV fun j hj e => by have := (R6.out.inS j hj).1; omega, T6H.out.trans TIV fun _ _ e => e, by omega, TV.heap GI7 (by omega), set_block (i := 0) GV7 _, (OV.out.turns TIV fun j hj e => by have := (OV.out.lt j hj).1; omega).base (by omega), EX.out⟩)
                  clear TI GI7 GV7 E7 TV TIV
                  subst hw6
                  go_wp2_with fail
                  refine EQL.out.mono ?_
                  rintro r w7 ⟨rfl, rfl⟩
                  go_wp2_with fail
                  go_roundg (gk - 1)
                  case measure => omega
                  case rel => exact ⟨k + 1, by omega, by omega, .inr FIN.out⟩
                · have EX := Lib.hid (show fgo b key (E - (k + 1)) (k + 1) x.1 q5 = X by rw [← EQ.out, fgo_go HX5.out hxk]; congr 1; have := HT.out; omega)
                  rw [decide_eq_false hxk] at EQL
                  clear hxk
                  have TI := Turns.set (S := fun j => j = gi) w6 (b := gi) (i := 0) rfl (.bool false)
                  have GI7 := set_block (i := 0) GI6.out (.bool false)
                  have GV7 := TI.heap GV6.out (by omega)
                  have E7 := TI.heap e6 (by omega)
                  have ci7 : (w6.setCell ⟨gi, 0, none⟩ (.bool false)).cell? ⟨gi, 0, none⟩ = some (.bool false) := cell_of GI7 0 rfl
                  have FIN := Lib.hid (show FSt w (w6.setCell ⟨gi, 0, none⟩ (.bool false)) g gi gv ab cb n E b key X (k + 1) from
                    ⟨q5, _, _, _, _, R6.out.turns TI fun j hj e => by have := (R6.out.inS j hj).1; omega, T6H.out.trans TI fun _ _ e => .inl e, by omega, by omega, hx1, by rw [List.length_append]; split <;> simp <;> omega, fun h1 h2 => by omega, GI7, GV7, EX.out⟩)
                  clear TI GI7 GV7 E7
                  subst hw6
                  go_wp2_with fail
                  refine EQL.out.mono ?_
                  rintro r w7 ⟨rfl, rfl⟩
                  go_wp2_with fail
                  go_roundg (gk - 1)
                  case measure => omega
                  case rel => exact ⟨k + 1, by omega, by omega, .inl FIN.out⟩
              · obtain rfl := p1 hz
                have FIN := Lib.hid (show FBox w w5 gi gv b key er from ⟨T5.out, none, _, by have := EQ.out; rw [fgo_no hx hz] at this; rw [← this] at FX; exact FX.out, GI5.out, GV5.out, .inl ⟨rfl, rfl⟩⟩)
                clear p1 p2 p3 hx ht hz
                unfold wrongBy
                go_wp2_with fail
                exact ⟨rfl, er, q5, .inr rfl, FIN.out⟩
            · obtain rfl : k = E := by omega
              rw [Nat.sub_self, fgo_end] at hX
              have FIN := Lib.hid (show FBox w wr gi gv b key 0 from ⟨hT, none, _, by rw [← hX] at FX; exact FX.out, hgi, hgv, .inl ⟨rfl, rfl⟩⟩)
              have t1 : decide ((k : Int) < (k : Int)) = false := decide_eq_false (by omega)
              have t1' : decide (k < k) = false := decide_eq_false (by omega)
              clear hR hT hgi hgv hX hl8
              go_wp2_with fail
              go_end0
              exact ⟨0, 0, .inl ⟨rfl, rfl, rfl⟩, FIN.out⟩
          · have FIN := Lib.hid (show FBox w wr gi gv b key 0 from ⟨hT, some x, _, by rw [hX] at FX; exact FX.out, hgi, hgv, .inr ⟨x, rfl, hov⟩⟩)
            have c2 := hR.c2
            have ci := cell_of hgi 0 rfl
            clear hR hT hgi hgv hov hX
            by_cases hlt : k < E
            · have t1 : decide ((k : Int) < (E : Int)) = true := decide_eq_true (by omega)
              have t1' : decide (k < E) = true := decide_eq_true hlt
              go_wp2_with fail
              go_end0
              exact ⟨0, 0, .inl ⟨rfl, rfl, rfl⟩, FIN.out⟩
            · have t1 : decide ((k : Int) < (E : Int)) = false := decide_eq_false (by omega)
              have t1' : decide (k < E) = false := decide_eq_false hlt
              go_wp2_with fail
              go_end0
              exact ⟨0, 0, .inl ⟨rfl, rfl, rfl⟩, FIN.out⟩
  · obtain rfl := h1 hz
    have FR := Lib.hid (show FindR b key none er from ⟨n, q, er, hrd, .inl ⟨hz, rfl, rfl⟩⟩)
    clear h1 h2 h3 hrd hb1 x0 hz
    unfold wrongBy
    go_wp2_with fail
    exact ⟨rfl, er, q, .inr rfl, T1.out, none, _, FR.out, GI1.out, GV1.out, .inl ⟨rfl, rfl⟩⟩
end Go.Proofs.YtljcogimeimknaaGreat

/- StreamOne: the walk. Conditions: what it is handed within reach. -/
import Derived.Test.YtljcogimeimknaaOneW
import Derived.Test.YtljcogimeimknaaWritten
import Derived.Test.YtljcogimeimknaaAppZero
import Derived.Test.YtljcogimeimknaaRdParse
import Derived.Test.YtljcogimeimknaaK8w
import Derived.Test.YtljcogimeimknaaK8p
import Derived.Test.YtljcogimeimknaaK8y
namespace Go.Proofs.Ytljcogimeimknaa
open Go.RowKit Go.Shelf
set_option maxRecDepth 100000
set_option linter.unusedVariables false
set_option linter.unusedSimpArgs false

def fBo (b : Bool) : List Value := [.bool b]
theorem eltTBo : EltT Try.prog 64 4 fBo 1 1 := EltT.mk1 (g := Value.bool) Try.underlying64 (z := .bool false) (by kernel_rfl) false rfl (fun _ => rfl)
theorem zero_bool : ∀ i z, Try.prog.info? 4 = some i → i.zero = some z → z.cells.toList = fBo false := by
  have h : (Try.prog.info? 4).map (·.zero) = some (some (.bool false)) := by kernel_rfl
  intro i z hi hz
  rw [hi] at h
  injection h with h
  have h : i.zero = some (Value.bool false) := h
  rw [hz] at h
  injection h with h
  subst h; rfl
def advF (b o c n : Nat) : Option Addr := if c = n then some ⟨b, o, none⟩ else some (if n * 2 = 0 then ⟨b, o, none⟩ else ⟨b, o + n * 2, none⟩)
theorem run_cutEE (w : World) (b o m c n r : Nat) (hn : n ≤ r) (hr : r ≤ c) : (Instr.slice 22 (.slice (some ⟨b, o, none⟩) m c) (some (.int .i64 (n : Nat))) (some (.int .i64 (r : Nat))) none).run Try.prog w = .ok (.slice (advF b o c n) (r - n) (c - n)) w := by
  obtain ⟨ht, ⟨i, z, hi1, hi2, hi3, hi4, x0, hz⟩, hf, hk, h1⟩ := eltTE
  simp [Instr.slice, run_underlying ht, Instr.sliceBounds, Instr.sliceBound, asIntOf, sizeOf, typeInfo, hi1, hi3, hn, hr, Addr.add, advF]
theorem Ents.part {w : World} {b o m c : Nat} {es : List Ent} (h : Ents w (some ⟨b, o, none⟩) m c es) (n r : Nat) (hn : n < r) (hr : r ≤ m) : Ents w (advF b o c n) (r - n) (c - n) ((es.drop n).take (r - n)) := by
  obtain ⟨h1, h2, h3, h4⟩ := h
  have e : advF b o c n = some ⟨b, o + n * 2, none⟩ := by
    unfold advF
    rw [if_neg (by omega)]
    split
    · rename_i h0; rw [h0]; rfl
    · rfl
  rw [e]
  refine ⟨by rw [List.length_take, List.length_drop]; omega, by omega, fun e => (by cases e), fun i k v hi => ?_⟩
  rw [List.getElem?_take] at hi
  split at hi
  · rw [List.getElem?_drop] at hi
    obtain ⟨b', o', ak, nk, ck, av, nv, cv, ha, c0, c1, s0, s1⟩ := h4 _ k v hi
    cases ha
    exact ⟨b, o + n * 2, ak, nk, ck, av, nv, cv, rfl, by rw [show o + n * 2 + i * 2 = o + (n + i) * 2 by omega]; exact c0, by rw [show o + n * 2 + i * 2 + 1 = o + (n + i) * 2 + 1 by omega]; exact c1, s0, s1⟩
  · cases hi
theorem Runs.okL {L : List (List Ent)} (h : Runs L) : OkL L := by
  induction h with
  | nil => intro l h; simp at h
  | snoc _ hN ih => exact ih.snoc ⟨hN.1.2, hN.2.1⟩ (by intro e; have := hN.1.1; rw [e] at this; simp at this)
theorem own_keep {v : Value} {lo : Nat} {w w' : World} {who who' : Nat → Nat} (hl : ∀ j, v.ownBlock = some j → lo ≤ j ∧ j < w.heap.size) (hw : ∀ j, v.ownBlock = some j → who j = 0) (hG : Gr w w' who who') : ∀ j, v.ownBlock = some j → who' j = 0 :=
  fun j hj => (hG.o j (hl j hj).2).trans (hw j hj)
theorem own_grown {v v' : Value} {lo : Nat} {w : World} {who : Nat → Nat} (hl : ∀ j, who j ≠ 0 → lo ≤ j ∧ j < w.heap.size) (hw : ∀ j, v.ownBlock = some j → who j = 0) (hv : v'.ownBlock = v.ownBlock ∨ v'.ownBlock = some w.heap.size) : ∀ j, v'.ownBlock = some j → who j = 0 := by
  intro j hj
  rcases hv with e | e
  · exact hw j (e ▸ hj)
  · rw [e] at hj; cases hj
    exact Classical.byContradiction fun hne => by have := (hl _ hne).2; omega
theorem Ents.some {w : World} {a : Option Addr} {n c : Nat} {es : List Ent} (h : Ents w a n c es) (h0 : 0 < n) : ∃ b o, a = some ⟨b, o, none⟩ := by
  obtain ⟨h1, _, _, h4⟩ := h
  obtain ⟨b, o, _, _, _, _, _, _, ha, _⟩ := h4 0 _ _ (List.getElem?_eq_getElem (show 0 < es.length by omega))
  exact ⟨b, o, ha⟩
/-- the loop of StreamOne -/
structure OneI (bs : List UInt8) (w2 wr : World) (gq g gi n : Nat) (es : List Ent) (sF : RS) (L : List (List Ent)) (cv : Value) (who : Nat → Nat) : Prop where
  rd : ∃ (S : Nat → Prop) (rv : Value) (vs : List RV) (s : RS), Rdp wr w2.heap.size gq g gi S (.slice none 0 0) rv vs s who ∧ s.Ok n ∧ On bs L s ∧ ∃ (k : Nat) (rest : List Ent), takeM k s [] = (rest, sF, [], true) ∧ es = L.flatten ++ rest
  ru : Runs L
  co : OwT fBo wr w2.heap.size 4 cv ((L.flatMap mk1).map (·.2))
  cw : ∀ j, cv.ownBlock = some j → who j = 0
  be : Below w2.heap.size w2 wr
theorem flat_snd (L : List (List Ent)) (l : List Ent) (h : l ≠ []) : ((L ++ [l]).flatMap mk1).map (·.2) = (L.flatMap mk1).map (·.2) ++ List.replicate (l.length - 1) false ++ [true] := by
  simp [mk1_snd l h]
theorem flat_len (L : List (List Ent)) : ((L.flatMap mk1).map (·.2)).length = L.flatten.length := by
  rw [← flat_fst]; simp

set_option maxHeartbeats 8000000 in
theorem streamOne_walk (ab : Option Addr) (nb cb : Nat) (bs : List UInt8) (w : World) (hnb : nb ≤ 140737488351232) (hB : Sl Bf w ab nb cb bs) :
    Calls Try.prog 6 #[.slice ab nb cb] w fun e w' => e = .returned (.bool true) ∧ Below w.heap.size w w' := by
  obtain rfl : bs.length = nb := hB.len
  have HB := Lib.hid hB
  clear hB
  go_enter Try.func6, Try.ntmps6
  go_wp2_with fail
  refine (lives_any _).mono ?_
  rintro e wA ⟨rfl, hb⟩
  have B1 := Lib.hid hb
  clear hb
  go_wp2_with fail
  refine (sparse_any ab bs.length cb bs wA hnb (HB.out.keep B1.out)).mono ?_
  rintro e w2 ⟨y, vs, kk, es, sF, htk, hk, rfl, hR, hb⟩
  have B2 := Lib.hid (keep_trans B1.out hb)
  have OK0 := Lib.hid (RS0.ok (L := bs.length) (x := ⟨[], 0, 0, bs, false⟩) (show bs.length ≤ bs.length from Nat.le_refl _) rfl)
  clear hb
  by_cases he : sF.er = 0
  · rw [if_pos he, if_pos he, he]
    have hlen := takeM_most kk _ _ _ _ _ _ OK0.out htk
    have hmany := (takeM_ok kk _ _ _ _ _ _ OK0.out htk).many
    have LEN : es.length ≤ 536870912 := by
      have h1 : es.length + 0 + 64 * 0 ≤ 0 + 64 * sF.rows.length := hlen
      omega
    obtain ⟨aE, cE, rfl, hE⟩ := hR.ents
    have E2 := Lib.hid hE
    have TK := Lib.hid htk
    have HE := Lib.hid he
    have lw := B2.out.size
    clear hE hR htk he hlen hmany hk
    have t1 : ((0 : Int) != 0) = false := rfl
    go_wp2_with fail
    have NS := newSource_any ab bs.length cb bs none 0 0 [] 0 false w2 hnb (by decide) (fun z hz => by simp at hz) (HB.out.keep B2.out) (Sl.nil _ _)
    refine NS.mono ?_
    rintro e w3 ⟨gq, S, rfl, hs, hb⟩
    have SP := Lib.hid hs
    have B3 := Lib.hid hb
    have q3 := hb.size
    clear NS hs hb
    go_wp2_with fail
    refine (rdnew_any SP.out q3).mono ?_
    rintro e w4 ⟨g, gi, who, rfl, hR4, hb4, -⟩
    have I4 := Lib.hid (show OneI bs w2 w4 gq g gi bs.length es sF [] (.slice none 0 0) who from
      ⟨⟨S, _, _, _, hR4, OK0.out, On.zero bs [] 0 false, kk, es, TK.out, rfl⟩, .nil, OwT.nil _ _ _ _, fun j hj => (by cases hj), B3.out.trans (hb4.mono q3)⟩)
    clear hR4 hb4 SP B3 q3 TK OK0
    go_wp2_with fail
    go_loopw [8, 9] (fun cv al wr => ∃ (L : List (List Ent)) (v : Value) (who : Nat → Nat), cv = v ∧ al = .int .i64 (L.flatten.length : Nat) ∧ OneI bs w2 wr gq g gi bs.length es sF L v who) (fun _ al _ => es.length - (intOf al).toNat)
    case atStart => exact ⟨[], _, _, rfl, rfl, I4.out⟩
    case round =>
      clear I4
      obtain ⟨L, cv, who, rfl, rfl, hI⟩ := hrel
      obtain ⟨⟨S, rv, vr, s, hRd, hok, hon, k, rest, hk, hes⟩, hru, hco, hcw, hbe⟩ := hI
      have RU := Lib.hid hru
      have CO := Lib.hid hco
      have CW := Lib.hid hcw
      have BE := Lib.hid hbe
      have ES := Lib.hid hes
      have TK := Lib.hid hk
      have NX := Lib.hid (hon.next hok)
      have OKN := Lib.hid hok.next
      have LOW := Lib.hid hRd.low
      have BK := Lib.hid (rdblock_any none 0 hRd hok hnb)
      clear hRd hok hon hk hes hru hco hcw hbe
      go_wp2_with fail
      refine BK.out.mono ?_
      rintro e w6 ⟨y, vl, S1, rv1, vs1, who1, rfl, hRL, hz, hR6, hG6⟩
      obtain ⟨⟨⟨l, ok⟩, s1⟩, hX⟩ : ∃ X, nxM mxI s = X := ⟨_, rfl⟩
      rw [hX] at hRL hR6
      have HX := Lib.hid hX
      have NX := Lib.hid (hX ▸ NX.out)
      have OKN := Lib.hid (hX ▸ OKN.out)
      rw [hX]
      dsimp only at hRL hR6 ⊢
      have R6 := Lib.hid hR6
      have C6 := Lib.hid (CO.out.turns hG6.t fun j hj e => e (CW.out j hj))
      have W6 := Lib.hid (own_keep CO.out.lt CW.out hG6)
      have B6 := Lib.hid (hG6.t.below BE.out BE.out.size (fun j hj => (LOW.out j hj).1))
      obtain ⟨a1, c1, rfl, hE1⟩ := hRL.ents
      have E6 := Lib.hid hE1
      clear hRL hz hR6 hG6 hE1 hX BK CO CW BE LOW
      cases ok with
      | true =>
        obtain ⟨hon1, hnx⟩ := NX.out.1 rfl
        obtain ⟨hn1, hn2⟩ := hnx.1
        have hl0 : l ≠ [] := by intro e; dsimp only at hn1; rw [e] at hn1; simp at hn1
        have hn1 : 1 ≤ l.length := hn1
        have hn2 : l.length ≤ 64 := hn2
        obtain ⟨es1, hr1, hk1⟩ := takeM_blk TK.out HX.out hl0
        have hes : es = L.flatten ++ (l ++ es1) := by rw [ES.out, hr1]
        have ON := Lib.hid hon1
        have NX1 := Lib.hid hnx
        have TK1 := Lib.hid hk1
        have HS := Lib.hid hes
        have hle : L.flatten.length + l.length ≤ es.length := by rw [hes]; simp
        have PART := Lib.hid (show (es.drop L.flatten.length).take l.length = l by rw [hes, List.drop_left, List.take_left])
        obtain ⟨bE, oE, hbE⟩ := E2.out.some (by omega)
        have HL0 := Lib.hid hl0
        clear hon1 hnx hr1 hk1 hes hl0 NX TK ES HX
        subst hbE
        obtain ⟨nl, hnl⟩ : ∃ n, l.length = n := ⟨_, rfl⟩
        obtain ⟨al, hal⟩ : ∃ n, L.flatten.length = n := ⟨_, rfl⟩
        have FL := Lib.hid hal
        have NL := Lib.hid hnl
        rw [hnl] at E6 PART hn1 hn2 hle ⊢
        rw [hal] at PART hle ⊢
        clear hnl hal
        have EP := Lib.hid (((E2.out.keep (B6.out.mono (Nat.le_refl _))).part al (al + nl) (by omega) hle))
        have hcE := E2.out.2.1
        have hcut := fun W : World => run_cutEE W bE oE es.length cE al (al + nl) (by omega) (by omega)
        rw [show al + nl - al = nl by omega] at EP hcut
        rw [PART.out] at EP
        push_cast at hcut
        have u1 : decide ((nl : Int) < 1) = false := decide_eq_false (by omega)
        have u1' : decide (nl < 1) = false := decide_eq_false (by omega)
        have u2 : decide ((nl : Int) > 64) = false := decide_eq_false (by omega)
        have u2' : decide (64 < (nl : Int)) = false := decide_eq_false (by omega)
        have u2'' : decide (64 < nl) = false := decide_eq_false (by omega)
        have u3 : IntKind.i64.wrap ((al : Int) + (nl : Int)) = (al : Int) + (nl : Int) := by rw [IntKind.wrap_i64]; omega
        have u4 : decide ((al : Int) + (nl : Int) > (es.length : Int)) = false := decide_eq_false (by omega)
        have u4' : decide ((es.length : Int) < (al : Int) + (nl : Int)) = false := decide_eq_false (by omega)
        have u4'' : decide (es.length < al + nl) = false := decide_eq_false (by omega)
        have u5 : IntKind.i64.wrap ((nl : Int) - 1) = ((nl - 1 : Nat) : Int) := by rw [IntKind.wrap_i64]; omega
        go_wp2_with fail
        refine (sameAll_any a1 nl c1 _ nl _ l l w6 (by omega) (by omega) E6.out EP.out).mono ?_
        rintro e w7 ⟨rfl, hb7⟩
        rw [show decide (l = l) = true from decide_eq_true rfl]
        have C7 := Lib.hid (C6.out.keep hb7)
        have R7 := Lib.hid (R6.out.keep hb7)
        have B7 := Lib.hid (B6.out.trans (hb7.mono B6.out.size))
        have FLEN := Lib.hid (show ((L.flatMap mk1).map (·.2)).length = al by rw [flat_len]; exact FL.out)
        obtain ⟨X8, hX8⟩ : ∃ X, (L.flatMap mk1).map (·.2) ++ List.replicate (nl - 1) false = X := ⟨_, rfl⟩
        have HX8 := Lib.hid hX8
        have LEN8 := Lib.hid (show X8.length = al + (nl - 1) by rw [← hX8, List.length_append, List.length_replicate, FLEN.out])
        have SZ8 := Lib.hid (show X8.length + 1 ≤ maxLen by have := LEN8.out; unfold maxLen; omega)
        have SZ9 := Lib.hid (show (X8.length + 1) * 1 ≤ 140737488355328 by have := LEN8.out; omega)
        clear hX8
        clear hb7 C6 R6 B6 E6 EP hcut u1 u1' u2 u2' u2'' u4 u4' u4'' hcE
        go_wp2_with (first
          | (at_builtin; refine wpList_zeros eltTBo Try.underlying3 false zero_bool rfl (.tmp 83) (.tmp 86) rfl w2.heap.size _ _ (by rfl) C7.out (nl - 1) (by rfl) (by rw [FLEN.out]; unfold maxLen; omega) (by rw [FLEN.out]; omega) B7.out.size X8 HX8.out ?_; intro v8 w8 h8 hg8 hv8 hb8; have C8 := Lib.hid h8; have R8 := Lib.hid (R7.out.turn (.of_grown (S := fun j => Value.ownBlock _ = some j) hg8 (fun _ h => h)) W6.out); have W8 := Lib.hid (own_grown R7.out.low W6.out hv8); have B8 := Lib.hid (B7.out.trans hb8); clear h8 hg8 hv8 hb8)
          | (at_builtin; go_loud (refine wpList_appT eltTBo rfl (.tmp 87) (.tmp 88) rfl w2.heap.size _ _ (by rfl) (C8.out.alloc _) _ 1 1 [true] (by rfl) (Sl.lit (f := Value.bool) _ _ _ _ _ rfl rfl).toT SZ8.out SZ9.out (Nat.le_trans B8.out.size ((Below.refl _ w8).alloc (Nat.le_refl _) _).size) (X8 ++ [true]) rfl ?_; intro v9 w9 h9 hg9 hv9 hb9; have C9 := Lib.hid h9; have A9 := Lib.hid (R8.out.keep ((Below.refl w8.heap.size w8).alloc (Nat.le_refl _) (.cells #[.bool true] 4))); have R9 := Lib.hid (A9.out.turn (.of_grown (S := fun j => Value.ownBlock _ = some j) hg9 (fun _ h => h)) W8.out); have W9 := Lib.hid (own_grown A9.out.low W8.out hv9); have B9 := Lib.hid ((B8.out.alloc B8.out.size (.cells #[.bool true] 4)).trans hb9); clear h9 hg9 hv9 hb9 A9)))
        go_roundw
        case rel => exact ⟨L ++ [l], _, who1, rfl, by
            have h1 := FL.out; have h2 := NL.out
            rw [List.flatten_append, List.length_append, h1]
            have h3 : ([l] : List (List Ent)).flatten.length = nl := by simpa using h2
            rw [h3]
            go_num, ⟨⟨S1, rv1, vs1, s1, R9.out, OKN.out, ON.out, k, es1, TK1.out, by rw [HS.out]; simp⟩, .snoc RU.out NX1.out, by rw [flat_snd L l HL0.out, NL.out, HX8.out]; exact C9.out, W9.out, B9.out⟩⟩
        case measure =>
          have h1 := FL.out
          have h2 := hle
          have h3 := hn1
          rw [h1]
          simp [intOf]
          omega
      | false =>
        obtain ⟨hrest, hs1⟩ := takeM_end TK.out HX.out
        have hes : es = L.flatten := by rw [ES.out, hrest, List.append_nil]
        have he1 : s1.er = 0 := by rw [← hs1]; exact HE.out
        have WH := Lib.hid (NX.out.2 rfl he1)
        have FLT := Lib.hid (rdfault_any R6.out)
        have hal : L.flatten.length = es.length := by rw [hes]
        obtain ⟨cs, hcs⟩ : ∃ cs, (L.flatMap mk1).map (·.2) = cs := ⟨_, rfl⟩
        have hzip : es.zip cs = L.flatMap mk1 := by rw [hes, ← flat_fst, ← hcs]; exact (List.zip_of_prod rfl rfl).symm
        obtain ⟨i1, i2⟩ := runs_in RU.out
        have AL := Lib.hid (hzip ▸ i1)
        have FO := Lib.hid (show ((es.zip cs).foldl w1 (WS0, [])).2 ++ ((es.zip cs).foldl w1 (WS0, [])).1.close.ready = bs by rw [hzip, i2, runs_whole]; exact WH.out.symm)
        have CL := Lib.hid (show cs.length = es.length by rw [← hcs, flat_len]; exact hal)
        have FIT := Lib.hid (show Fit 140737488351232 es from fun e he => by
          rw [hes] at he
          obtain ⟨l', hl', he'⟩ := List.mem_flatten.1 he
          have := chk_zero (srt_okay ((RU.out.okL) l' hl').1.2 e he')
          exact ⟨by omega, by omega⟩)
        rw [hcs] at C6
        have HAL := Lib.hid hal
        clear hrest hs1 hes hcs hzip i1 i2 hal E6 W6 NX ES TK HX
        rw [HAL.out]
        have E6 := Lib.hid (E2.out.keep B6.out)
        obtain ⟨ac, cc, rfl, hsc⟩ := C6.out.sl (k := 1) (fun _ => rfl)
        rw [CL.out] at hsc ⊢
        have SC6 := Lib.hid (show Sl Value.bool w6 ac es.length cc cs from SlT.to1 hsc)
        have q0 := FLT.out
        rw [he1] at q0
        have FLT := Lib.hid q0
        clear hsc C6 q0 he1
        go_wp2_with fail
        refine FLT.out.mono ?_
        rintro e w7 ⟨rfl, hd⟩
        have hb7 : Below w6.heap.size w6 w7 := hd.below
        have SC := Lib.hid (SC6.out.keep hb7)
        have E7 := Lib.hid (E6.out.keep hb7)
        have B7 := Lib.hid (B6.out.trans (hb7.mono B6.out.size))
        clear hd hb7 SC6 E6 B6 FLT R6
        go_wp2_with fail
        refine (written_any aE cE es ac cc cs w7 (by omega) FIT.out E7.out SC.out AL.out).mono ?_
        rintro e w8 ⟨v, yv, rfl, ho, hb8⟩
        rw [FO.out] at ho
        obtain ⟨aV, nV, cV, rfl, zV⟩ := ho.slN
        obtain rfl : bs.length = nV := zV.len
        have ZV := Lib.hid zV
        have BW := Lib.hid (B2.out.trans ((B7.out.trans (hb8.mono B7.out.size)).mono lw))
        clear ho zV hb8
        have t0 : ((0 : Int) == 0) = true := rfl
        have t2 : ((es.length : Int) == (es.length : Int)) = true := by simp
        go_wp2_with fail
        refine (same_any aV bs.length cV bs ab bs.length cb bs w8 (by omega) (by omega) ZV.out (HB.out.keep BW.out)).mono ?_
        rintro e w9 ⟨rfl, hb9⟩
        rw [show decide (bs = bs) = true from decide_eq_true rfl]
        have FIN := Lib.hid (keep_trans BW.out hb9)
        clear hb9
        go_wp2_with fail
        go_ret
        exact ⟨rfl, FIN.out⟩
  · have t1 : (sF.er != 0) = true := by rw [bne_iff_ne]; exact he
    rw [if_neg he]
    go_wp2_with fail
    go_ret
    exact ⟨rfl, B2.out⟩
end Go.Proofs.Ytljcogimeimknaa

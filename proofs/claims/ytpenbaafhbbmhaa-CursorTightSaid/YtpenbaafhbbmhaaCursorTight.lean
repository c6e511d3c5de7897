/- CursorTight: the walk. Conditions: what it is handed within reach. -/
import Derived.Test.YtpenbaafhbbmhaaCurTightM
import Derived.Test.YtpenbaafhbbmhaaCurScript
namespace Go.Proofs.Ytpenbaafhbbmhaa
open Go.RowKit Go.Shelf
set_option maxRecDepth 100000
set_option linter.unusedVariables false
set_option linter.unusedSimpArgs false

/-- what an answer leaves: the law's own words -/
structure TFact (L B : Nat) (m : Int) (Bd : Nat) (kind : Int) (c : CIn Src) (c' : CIn Src) (hv' : Nat) (e : Int) (over : Bool) : Prop where
  stop : c.er ≠ 0 → c' = c ∧ (0 ≤ kind → kind ≤ 3 → e = c.er)
  go : c.er = 0 → c.pl ≤ c'.pl ∧ (over = true → c'.s.left = []) ∧ TSt L c' hv'
  ok : Okay srcM (SrcLe B) m (Bd + 352) c'
  h1 : hv' ≤ 1
section
variable {L B Bd hv : Nat} {m n : Int} {c c' : CIn Src} {e : Int}
theorem fact_0 (hO : Okay srcM (SrcLe B) m Bd c) (h : c.er = 0 → TSt L c hv) {x : UInt8} (hX : byteM srcM m c = (x, e, c')) : TFact L B m Bd 0 c c' 0 e false where
  stop he := by
    have hb : byteM srcM m c = (0, c.er, c) := by unfold byteM; rw [bytes_er he]; rfl
    rw [hX] at hb
    simp only [Prod.mk.injEq] at hb
    exact ⟨hb.2.2, fun _ _ => hb.2.1⟩
  go he := by
    have := byte_tight hO (h he)
    rw [hX] at this
    exact ⟨this.1, fun e => (by cases e), this.2.1⟩
  ok := by have := hO.byte src_mu (src_le B); rw [hX] at this; exact this.mono (by omega)
  h1 := Nat.zero_le _
theorem fact_1 (hO : Okay srcM (SrcLe B) m Bd c) (h : c.er = 0 → TSt L c hv) (hh : hv ≤ 1) {b : List UInt8} (hX : bytesM srcM m n c = (b, e, c')) : TFact L B m Bd 1 c c' (if 0 < n then 0 else hv) e false where
  stop he := by
    rw [bytes_er he] at hX
    simp only [Prod.mk.injEq] at hX
    exact ⟨hX.2.2.symm, fun _ _ => hX.2.1.symm⟩
  go he := by
    have := bytes_tight (n := n) hO (h he)
    rw [hX] at this
    exact ⟨this.1, fun e => (by cases e), this.2.1⟩
  ok := by have := (hO.bytes (n := n) src_mu (src_le B)).1; rw [hX] at this; exact this.mono (by omega)
  h1 := by split <;> omega
theorem fact_2 (hO : Okay srcM (SrcLe B) m Bd c) (h : c.er = 0 → TSt L c hv) {x : Nat} (hX : numM srcM m c = (x, e, c')) : TFact L B m Bd 2 c c' 0 e false where
  stop he := by
    rw [num_er he] at hX
    simp only [Prod.mk.injEq] at hX
    exact ⟨hX.2.2.symm, fun _ _ => hX.2.1.symm⟩
  go he := by
    have := num_tight hO (h he)
    rw [hX] at this
    exact ⟨this.1, fun e => (by cases e), this.2⟩
  ok := by have := hO.num src_mu (src_le B); rw [hX] at this; exact this
  h1 := Nat.zero_le _
theorem fact_3 (hO : Okay srcM (SrcLe B) m Bd c) (h : c.er = 0 → TSt L c hv) (hh : hv ≤ 1) {o : Bool} (hX : endM srcM c = (o, e, c')) : TFact L B m Bd 3 c c' (if o = false ∧ e = 0 then 1 else hv) e o where
  stop he := by
    rw [end_er he] at hX
    simp only [Prod.mk.injEq] at hX
    exact ⟨hX.2.2.symm, fun _ _ => hX.2.1.symm⟩
  go he := by
    have := end_tight hO (h he)
    rw [hX] at this
    exact ⟨this.1, this.2.2, this.2.1⟩
  ok := by have := hO.end' src_mu (src_le B); rw [hX] at this; exact this.mono (by omega)
  h1 := by split <;> omega
theorem fact_no {kind : Int} (hO : Okay srcM (SrcLe B) m Bd c) (h : c.er = 0 → TSt L c hv) (hh : hv ≤ 1) (hk : ¬ (0 ≤ kind ∧ kind ≤ 3)) : TFact L B m Bd kind c c hv 0 false where
  stop he := ⟨rfl, fun h1 h2 => absurd ⟨h1, h2⟩ hk⟩
  go he := ⟨Nat.le_refl _, fun e => (by cases e), h he⟩
  ok := hO.mono (by omega)
  h1 := hh
end
set_option maxHeartbeats 8000000 in
theorem cursorTight_walk (ab : Option Addr) (nb cb : Nat) (bs : List UInt8) (ag : Option Addr) (ng cg : Nat) (gs : List Int) (xf : Int) (eager : Bool) (most : Int) (asx : Option Addr) (ns cs : Nat) (script : List (Int × Int)) (w : World)
    (hnb : nb ≤ 140737488351232) (hng : ng ≤ 17592186043904) (hns : ns ≤ 140737488351232) (hI : Ints gs) (hmo : -9223372036854775808 ≤ most ∧ most ≤ 9223372036854775807) (hB : Sl Bf w ab nb cb bs) (hG : Sl fZ w ag ng cg gs) (hA : Asks w asx ns cs script) (hW : AsksW script) :
    Calls Try.prog 4 #[.agg #[.slice ab nb cb, .slice ag ng cg, .int .i64 xf, .bool eager], .int .i64 most, .slice asx ns cs] w fun e w' => e = .returned (.bool true) ∧ Below w.heap.size w w' := by
  obtain rfl : bs.length = nb := hB.len
  obtain rfl : script.length = ns := hA.1
  have HB := Lib.hid hB
  have HG := Lib.hid hG
  have HA := Lib.hid hA
  have HW := Lib.hid hW
  have HI := Lib.hid hI
  obtain ⟨m, hm⟩ : ∃ m, max 0 most = m := ⟨_, rfl⟩
  have hM1 : (if most > 0 then most else 0) = m := by split <;> omega
  have hM2 : (if 0 < most then most else 0) = m := by split <;> omega
  have hM3 : max 0 most = m := hm
  have hm1 : 0 ≤ m ∧ m ≤ 9223372036854775807 := by omega
  have HM := Lib.hid hm
  clear hB hG hA hW hI hm
  obtain ⟨w0, hw0⟩ : ∃ V, w.alloc (.cells #[.slice ab bs.length cb, .slice ag ng cg, .int .i64 xf, .bool eager] 25) = V := ⟨_, rfl⟩
  have b0 : Below w.heap.size w w0 := hw0 ▸ (Below.refl _ _).alloc (Nat.le_refl _) _
  have x0 : w0.heap[w.heap.size]? = some (.cells #[.slice ab bs.length cb, .slice ag ng cg, .int .i64 xf, .bool eager] 25 (0, 0)) := hw0 ▸ heap_new w _
  obtain ⟨gx, hgx⟩ : ∃ gx, w.heap.size = gx := ⟨_, rfl⟩
  have HGX := Lib.hid hgx
  have X0 := Lib.hid (show w0.heap[gx]? = some (.cells #[.slice ab bs.length cb, .slice ag ng cg, .int .i64 xf, .bool eager] 25 (0, 0)) by rw [← hgx]; exact x0)
  have B0 := Lib.hid b0
  have HW0 := Lib.hid hw0
  clear b0 x0 hgx hw0
  go_enter Try.func4, Try.ntmps4
  go_wp2_with fail
  rw [HW0.out, HGX.out]
  refine (lives_any _).mono ?_
  rintro e w1 ⟨rfl, hb⟩
  have B1 := Lib.hid (keep_trans B0.out hb)
  have X1 := Lib.hid ((hb.block gx (Array.getElem?_eq_some_iff.1 X0.out).1).trans X0.out)
  clear hb
  have y0 := cell_of X1.out 0 rfl
  have y1 := cell_of X1.out 1 rfl
  have y2 := cell_of X1.out 2 rfl
  have y3 := cell_of X1.out 3 rfl
  have NS := Lib.hid (newSource_any ab bs.length cb bs ag ng cg gs xf eager w1 hnb hng HI.out (HB.out.keep B1.out) (HG.out.keep B1.out))
  go_wp2_with fail
  refine NS.out.mono ?_
  rintro e w2 ⟨g, S, rfl, hs, hb⟩
  have SP2 := Lib.hid hs
  have B2 := Lib.hid (keep_trans B1.out hb)
  have X2 := Lib.hid (blk_keep X1.out hb)
  obtain ⟨lo, hlo2⟩ : ∃ lo, w1.heap.size = lo := ⟨_, rfl⟩
  rw [hlo2] at SP2
  have hl0 : w.heap.size ≤ lo := by rw [← hlo2]; exact B1.out.size
  have hl2 : lo ≤ w2.heap.size := by rw [← hlo2]; exact hb.size
  have hxl : gx < lo := by rw [← hlo2]; exact (Array.getElem?_eq_some_iff.1 X1.out).1
  clear hs hb NS y0 y1 y2 y3 hlo2
  go_wp2_with fail
  refine (newIn_any 28 (.pointer (some ⟨g, 0, none⟩)) most w2 hmo.2).mono ?_
  rintro e w4 ⟨rfl, hIn, hb4⟩
  rw [HM.out] at hIn
  obtain ⟨gc, hgc⟩ : ∃ gc, w2.heap.size = gc := ⟨_, rfl⟩
  have HGC := Lib.hid hgc
  have hcl : lo ≤ gc := by omega
  rw [hgc] at hIn
  have A4 := Lib.hid (show InA (SrcP g lo) gc m (.iface 28 (.pointer (some ⟨g, 0, none⟩))) w4 S ⟨⟨gs, xf, 0, bs, eager⟩, 0, 0, 0, []⟩ S w4 from { io := hIn, st := SP2.out.keep hb4, sub := fun j hj => .inl hj, tu := .refl _ _ })
  have NG := Lib.hid (show ¬ S gc from fun h => by have := (SP2.out.inS _ h).2; omega)
  have LOW := Lib.hid (show ∀ j, S j → lo ≤ j from fun j hj => (SP2.out.inS j hj).1)
  have B4 := Lib.hid (keep_trans B2.out hb4)
  have X4 := Lib.hid (blk_keep X2.out hb4)
  have hz4 : lo ≤ w4.heap.size := by have := hIn.lt; omega
  clear hIn hb4 hgc SP2 X2 B2
  rw [HGC.out]
  go_wp2_with fail
  go_loopw [10, 11] (fun x i wr => ∃ (k hv : Nat) (c : CIn Src) (S : Nat → Prop), x = .int .i64 (hv : Nat) ∧ i = .int .i64 (k : Nat) ∧ k ≤ script.length ∧ InP wr gc m (.iface 28 (.pointer (some ⟨g, 0, none⟩))) c.pl c.er c.idle c.held ∧ SrcP g lo c.s S wr ∧ ¬ S gc ∧ Okay srcM (SrcLe bs.length) m (17 * bs.length + 352 * k) c ∧ TSt bs.length c hv ∧ hv ≤ 1 ∧ Below lo w4 wr) (fun _ i _ => script.length - (intOf i).toNat)
  case atStart => exact ⟨0, 0, _, _, rfl, rfl, Nat.zero_le _, A4.out.io, A4.out.st, NG.out, { idle := fun _ => Nat.zero_le _, id2 := Nat.zero_le _, pl := hm1.1, held := Nat.zero_le _, p := Nat.le_refl _, bud := by show 0 + bs.length * 17 ≤ _; omega }, fun _ => ⟨by simp, rfl⟩, Nat.zero_le _, Below.refl _ _⟩
  case round =>
    obtain ⟨k, hv, c, S, rfl, rfl, hk, hio, hst, hng, hok, hts, hh1, hb⟩ := hrel
    have IO := Lib.hid hio
    have ST := Lib.hid hst
    have NG2 := Lib.hid hng
    have OK := Lib.hid hok
    have TS := Lib.hid hts
    have B := Lib.hid hb
    have BW := Lib.hid (B4.out.trans (hb.mono hl0))
    have hzr : lo ≤ wr.heap.size := Nat.le_trans hz4 hb.size
    clear hio hst hng hok hts hb A4 NG
    by_cases hlt : k < script.length
    · obtain ⟨⟨kd, n⟩, hx⟩ : ∃ x, script[k]? = some x := ⟨_, List.getElem?_eq_getElem hlt⟩
      obtain ⟨bx, ox, rfl, e1, e2⟩ := (HA.out.keep BW.out).2.2 k _ hx
      have hnb2 := HW.out _ (List.mem_of_getElem? hx)
      have hbx : bx < lo := by
        obtain ⟨b9, o9, e9, h9, -⟩ := HA.out.2.2 k _ hx
        injection e9 with e9
        injection e9 with e9
        subst e9
        have := cell_lt h9
        dsimp only at this
        omega
      dsimp only at e1 e2 hnb2
      have hin := ST.out.inS
      have HIN := Lib.hid hin
      have CE := Lib.hid (cerr_any gc m _ _ _ _ _ wr IO.out)
      have CA := Lib.hid (cat_any gc m _ _ _ _ _ wr IO.out)
      have CC := Lib.hid (calls_any g lo c.s S wr ST.out)
      clear hx hin
      go_wp2_with fail
      refine CE.out.mono ?_
      rintro e w6 ⟨rfl, rfl⟩
      go_wp2_with fail
      refine CA.out.mono ?_
      rintro e w6 ⟨rfl, rfl⟩
      go_wp2_with fail
      refine CC.out.mono ?_
      rintro e w6 ⟨rfl, rfl⟩
      clear CE CA CC
      go_upto_block 2 with (fail)
      go_cut [10, 15, 16] (fun v10 v15 v16 wx => ∃ (c' : CIn Src) (S' : Nat → Prop) (hv' : Nat) (e' : Int) (o' : Bool), v10 = .int .i64 (hv' : Nat) ∧ v15 = .int .i64 e' ∧ v16 = .bool o' ∧ InA (SrcP g lo) gc m (.iface 28 (.pointer (some ⟨g, 0, none⟩))) wr S c' S' wx ∧ TFact bs.length bs.length m (17 * bs.length + 352 * k) kd c c' hv' e' o')
      case first =>
        by_cases h0 : kd = 0
        · subst h0
          have OP := Lib.hid (cbyte_any (srcR g lo) 28 (fun w => methR g w) (enters_of Try.func75 (by kernel_rfl) rfl) src_mu gc m c S wr (SrcLe bs.length) (src_le bs.length) (17 * bs.length + 352 * k) OK.out IO.out ST.out NG2.out (Nat.zero_le _) hm1.2 (by omega))
          obtain ⟨⟨x, e, c'⟩, hX⟩ : ∃ X, byteM srcM m c = X := ⟨_, rfl⟩
          have FA := Lib.hid (fact_0 OK.out (fun _ => TS.out) hX)
          rw [hX] at OP
          clear hX
          go_wp2_with fail
          refine OP.out.mono ?_
          rintro r w6 ⟨S', rfl, hI⟩
          dsimp only at hI
          have A6 := Lib.hid hI
          clear hI OP
          go_wp2_with fail
          go_meet
          exact ⟨c', S', 0, e, false, rfl, rfl, rfl, A6.out, FA.out⟩
        have t0 : (kd == 0) = false := by rw [beq_eq_false_iff_ne]; exact h0
        by_cases h1 : kd = 1
        · subst h1
          by_cases hn : 0 < n
          · have u1 : decide (n > 0) = true := decide_eq_true hn
            have u1' : decide (0 < n) = true := decide_eq_true hn
            have OP := Lib.hid (cbytes_any (srcR g lo) 28 (fun w => methR g w) (enters_of Try.func75 (by kernel_rfl) rfl) src_mu gc m n c S wr (SrcLe bs.length) (17 * bs.length + 352 * k) OK.out IO.out ST.out NG2.out (Nat.zero_le _) hnb2 hm1.2 (by omega) (fun _ _ => src_caps OK.out.p hnb _))
            obtain ⟨⟨b, e, c'⟩, hX⟩ : ∃ X, bytesM srcM m n c = X := ⟨_, rfl⟩
            have FA := fact_1 (n := n) OK.out (fun _ => TS.out) hh1 hX
            rw [if_pos hn] at FA
            have FA := Lib.hid FA
            clear hn
            rw [hX] at OP
            clear hX
            go_wp2_with fail
            refine OP.out.mono ?_
            rintro r w6 ⟨bv, S', rfl, ho, hdis, hI⟩
            dsimp only at hI
            have A6 := Lib.hid hI
            clear hI OP ho hdis
            go_wp2_with fail
            go_meet
            exact ⟨c', S', 0, e, false, rfl, rfl, rfl, A6.out, FA.out⟩
          · have u1 : decide (n > 0) = false := decide_eq_false hn
            have u1' : decide (0 < n) = false := decide_eq_false hn
            have OP := Lib.hid (cbytes_any (srcR g lo) 28 (fun w => methR g w) (enters_of Try.func75 (by kernel_rfl) rfl) src_mu gc m n c S wr (SrcLe bs.length) (17 * bs.length + 352 * k) OK.out IO.out ST.out NG2.out (Nat.zero_le _) hnb2 hm1.2 (by omega) (fun _ _ => src_caps OK.out.p hnb _))
            obtain ⟨⟨b, e, c'⟩, hX⟩ : ∃ X, bytesM srcM m n c = X := ⟨_, rfl⟩
            have FA := fact_1 (n := n) OK.out (fun _ => TS.out) hh1 hX
            rw [if_neg hn] at FA
            have FA := Lib.hid FA
            clear hn
            rw [hX] at OP
            clear hX
            go_wp2_with fail
            refine OP.out.mono ?_
            rintro r w6 ⟨bv, S', rfl, ho, hdis, hI⟩
            dsimp only at hI
            have A6 := Lib.hid hI
            clear hI OP ho hdis
            go_wp2_with fail
            go_meet
            exact ⟨c', S', hv, e, false, rfl, rfl, rfl, A6.out, FA.out⟩
        have t1 : (kd == 1) = false := by rw [beq_eq_false_iff_ne]; exact h1
        by_cases h2 : kd = 2
        · subst h2
          have OP := Lib.hid (cnum_any (srcR g lo) 28 (fun w => methR g w) (enters_of Try.func75 (by kernel_rfl) rfl) src_mu gc m c S wr (SrcLe bs.length) (src_le bs.length) (17 * bs.length + 352 * k) OK.out IO.out ST.out NG2.out (Nat.zero_le _) hm1.2 (by omega))
          obtain ⟨⟨x, e, c'⟩, hX⟩ : ∃ X, numM srcM m c = X := ⟨_, rfl⟩
          have FA := Lib.hid (fact_2 OK.out (fun _ => TS.out) hX)
          rw [hX] at OP
          clear hX
          go_wp2_with fail
          refine OP.out.mono ?_
          rintro r w6 ⟨S', rfl, hI⟩
          dsimp only at hI
          have A6 := Lib.hid hI
          clear hI OP
          go_wp2_with fail
          go_meet
          exact ⟨c', S', 0, e, false, rfl, rfl, rfl, A6.out, FA.out⟩
        have t2 : (kd == 2) = false := by rw [beq_eq_false_iff_ne]; exact h2
        by_cases h3 : kd = 3
        · subst h3
          have OP := Lib.hid (cend_any (srcR g lo) 28 (fun w => methR g w) (enters_of Try.func75 (by kernel_rfl) rfl) src_mu gc m c S wr (SrcLe bs.length) (src_le bs.length) (17 * bs.length + 352 * k) OK.out IO.out ST.out NG2.out (Nat.zero_le _) (by omega))
          obtain ⟨⟨o, e, c'⟩, hX⟩ : ∃ X, endM srcM c = X := ⟨_, rfl⟩
          have FA := fact_3 OK.out (fun _ => TS.out) hh1 hX
          rw [hX] at OP
          clear hX
          cases o
          · by_cases he0 : e = 0
            · rw [if_pos ⟨rfl, he0⟩] at FA
              have FB := Lib.hid FA
              have u1 : (e == 0) = true := by rw [beq_iff_eq]; exact he0
              clear FA he0
              go_wp2_with fail
              refine OP.out.mono ?_
              rintro r w6 ⟨S', rfl, hI⟩
              dsimp only at hI
              have A6 := Lib.hid hI
              clear hI OP
              go_wp2_with fail
              go_meet
              exact ⟨c', S', 1, e, false, rfl, rfl, rfl, A6.out, FB.out⟩
            · rw [if_neg (fun h => he0 h.2)] at FA
              have FB := Lib.hid FA
              have u1 : (e == 0) = false := by rw [beq_eq_false_iff_ne]; exact he0
              clear FA he0
              go_wp2_with fail
              refine OP.out.mono ?_
              rintro r w6 ⟨S', rfl, hI⟩
              dsimp only at hI
              have A6 := Lib.hid hI
              clear hI OP
              go_wp2_with fail
              go_meet
              exact ⟨c', S', hv, e, false, rfl, rfl, rfl, A6.out, FB.out⟩
          · rw [if_neg (fun h => by cases h.1)] at FA
            have FB := Lib.hid FA
            clear FA
            go_wp2_with fail
            refine OP.out.mono ?_
            rintro r w6 ⟨S', rfl, hI⟩
            dsimp only at hI
            have A6 := Lib.hid hI
            clear hI OP
            go_wp2_with fail
            go_meet
            exact ⟨c', S', hv, e, true, rfl, rfl, rfl, A6.out, FB.out⟩
        have t3 : (kd == 3) = false := by rw [beq_eq_false_iff_ne]; exact h3
        have FA := Lib.hid (fact_no (kind := kd) OK.out (fun _ => TS.out) hh1 (by omega))
        have A6 := Lib.hid (show InA (SrcP g lo) gc m (.iface 28 (.pointer (some ⟨g, 0, none⟩))) wr S c S wr from { io := IO.out, st := ST.out, sub := fun j hj => .inl hj, tu := .refl _ _ })
        clear h0 h1 h2 h3
        go_wp2_with fail
        go_meet
        exact ⟨c, S, hv, 0, false, rfl, rfl, rfl, A6.out, FA.out⟩
      case rest =>
        obtain ⟨w5, rfl⟩ : ∃ w6, w6 = wc := ⟨_, rfl⟩
        obtain ⟨c', S', hv', e', o', rfl, rfl, rfl, hA5, hF⟩ := hcut
        have A5 := Lib.hid hA5
        have F5 := Lib.hid hF
        have B5 := Lib.hid (hA5.tu.below B.out hzr fun j e => by
          rcases e with e | e
          · exact (HIN.out j e).1
          · omega)
        have NG5 := Lib.hid (show ¬ S' gc from fun h => by rcases hA5.sub gc h with q | q; (exact NG2.out q); (have := IO.out.lt; omega))
        have X5 := (B5.out.block gx hxl).trans X4.out
        have y0 := cell_of X5 0 rfl
        have e15 := (World.cell?_of_block (a := ⟨bx, ox + k * 2, none⟩) (B5.out.block bx hbx)).trans ((World.cell?_of_block (a := ⟨bx, ox + k * 2, none⟩) (B.out.block bx hbx)).symm.trans e1)
        have CE := Lib.hid (cerr_any gc m _ _ _ _ _ w5 hA5.io)
        have CA := Lib.hid (cat_any gc m _ _ _ _ _ w5 hA5.io)
        have CC := Lib.hid (calls_any g lo c'.s S' w5 hA5.st)
        have LF := Lib.hid (left_any g lo c'.s S' w5 hA5.st)
        clear hA5 hF X5 e1 e2 B
        go_wp2_with fail
        refine CE.out.mono ?_
        rintro r w6 ⟨rfl, rfl⟩
        go_wp2_with fail
        refine CA.out.mono ?_
        rintro r w6 ⟨rfl, rfl⟩
        go_wp2_with fail
        refine CC.out.mono ?_
        rintro r w6 ⟨rfl, rfl⟩
        go_wp2_with fail
        refine LF.out.mono ?_
        rintro r w6 ⟨rfl, rfl⟩
        clear CE CA CC LF
        by_cases he : c.er = 0
        · have t0 : (c.er != 0) = false := by rw [bne_eq_false_iff_eq]; exact he
          obtain ⟨hp, ho, hts5⟩ := F5.out.go he
          have TS5 := Lib.hid hts5
          have hpl5 := F5.out.ok.pl
          have u1 : decide ((c'.pl : Int) < (c.pl : Int)) = false := decide_eq_false (by omega)
          have u1' : decide (c'.pl < c.pl) = false := decide_eq_false (by omega)
          have u2 : decide ((c'.pl : Int) > m) = false := decide_eq_false (by omega)
          have u2' : decide (m < (c'.pl : Int)) = false := decide_eq_false (by omega)
          have OV := Lib.hid ho
          clear he hp ho hts5
          go_upto_region 40 with (fail)
          go_cut [163] (fun v163 wx => v163 = .bool false ∧ w5 = wx)
          case first =>
            cases o'
            · go_wp2_with fail
              go_meet
              exact ⟨rfl, rfl⟩
            · have hl : c'.s.left.length = 0 := by rw [OV.out rfl]; rfl
              have u3 : ((c'.s.left.length : Int) != 0) = false := by rw [hl]; rfl
              clear hl
              go_wp2_with fail
              go_meet
              exact ⟨rfl, rfl⟩
          case rest =>
            obtain ⟨rfl, h2⟩ := hcut
            subst h2
            by_cases he5 : c'.er = 0
            · obtain ⟨hsum, hhe⟩ := TS5.out he5
              have u4 : (c'.er == 0) = true := by rw [beq_iff_eq]; exact he5
              have r1 : IntKind.i64.wrap ((c'.pl : Int) + (hv' : Int)) = (c'.pl : Int) + (hv' : Int) := IntWalk.i64_in _ (by omega)
              have r2 : IntKind.i64.wrap ((c'.pl : Int) + (hv' : Int) + (c'.s.left.length : Int)) = (bs.length : Nat) := by rw [IntWalk.i64_in _ (by omega)]; omega
              have u5 : ((bs.length : Int) != (bs.length : Int)) = false := by simp
              clear hsum hhe he5
              go_wp2_with fail
              go_roundw
              case rel => exact ⟨k + 1, hv', c', S', rfl, by go_num, by omega, A5.out.io, A5.out.st, NG5.out, F5.out.ok.mono (by omega), TS5.out, F5.out.h1, B5.out⟩
              case measure => simp [intOf]; omega
            · have u4 : (c'.er == 0) = false := by rw [beq_eq_false_iff_ne]; exact he5
              clear he5
              go_wp2_with fail
              go_roundw
              case rel => exact ⟨k + 1, hv', c', S', rfl, by go_num, by omega, A5.out.io, A5.out.st, NG5.out, F5.out.ok.mono (by omega), TS5.out, F5.out.h1, B5.out⟩
              case measure => simp [intOf]; omega
        · have t0 : (c.er != 0) = true := by rw [bne_iff_ne]; exact he
          obtain ⟨hcc, hE⟩ := F5.out.stop he
          have HE := Lib.hid hE
          have HCC := Lib.hid hcc
          have TS5 := Lib.hid (show TSt bs.length c' hv' from fun e => absurd (by rw [← hcc]; exact e) he)
          have u1 : (c'.er != c.er) = false := by rw [hcc]; simp
          have u2 : ((c'.pl : Int) != (c.pl : Int)) = false := by rw [hcc]; simp
          have u3 : ((c'.s.calls : Int) != (c.s.calls : Int)) = false := by rw [hcc]; simp
          clear he hcc hE
          go_upto_region 38 with (fail)
          go_cut [147] (fun v147 wx => v147 = .bool false ∧ w5 = wx)
          case first =>
            by_cases hk1 : 0 ≤ kd
            · have u4 : decide (kd ≥ 0) = true := decide_eq_true hk1
              have u4' : decide (0 ≤ kd) = true := decide_eq_true hk1
              by_cases hk2 : kd ≤ 3
              · have u5 : decide (kd ≤ 3) = true := decide_eq_true hk2
                have u6 : (e' != c.er) = false := by rw [HE.out hk1 hk2]; simp
                clear hk1 hk2
                go_wp2_with fail
                go_meet
                exact ⟨rfl, rfl⟩
              · have u5 : decide (kd ≤ 3) = false := decide_eq_false hk2
                clear hk1 hk2
                go_wp2_with fail
                go_meet
                exact ⟨rfl, rfl⟩
            · have u4 : decide (kd ≥ 0) = false := decide_eq_false hk1
              have u4' : decide (0 ≤ kd) = false := decide_eq_false hk1
              clear hk1
              go_wp2_with fail
              go_meet
              exact ⟨rfl, rfl⟩
          case rest =>
            obtain ⟨rfl, h2⟩ := hcut
            subst h2
            go_wp2_with fail
            go_roundw
            case rel => exact ⟨k + 1, hv', c', S', rfl, by go_num, by omega, A5.out.io, A5.out.st, NG5.out, F5.out.ok.mono (by omega), TS5.out, F5.out.h1, B5.out⟩
            case measure => simp [intOf]; omega
    · go_wp2_with fail
      go_ret
      exact ⟨rfl, BW.out⟩
end Go.Proofs.Ytpenbaafhbbmhaa

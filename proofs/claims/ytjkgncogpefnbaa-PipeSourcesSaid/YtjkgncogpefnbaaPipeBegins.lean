/- PipeBegins: the walk: what a source gives is a beginning of its bytes, what a sink has is what it told that it took. Conditions: what it is handed within reach. -/
import Derived.Test.YtjkgncogpefnbaaPipeLives
import Derived.Deep.RegionHeld3
import Derived.Deep.DeepCutAuto
namespace Go.Proofs.Ytjkgncogpefnbaa
open Go.RowKit
set_option linter.unusedVariables false

/-- numbers of 16 bits -/
def fH (x : Nat) : Value := .int .u16 (x : Nat)
def Halves (l : List Nat) : Prop := ∀ x, x ∈ l → x ≤ 65535
theorem Src.err_gives (s : Src) (n : Nat) : s.err n = 0 ∨ s.err n = 31 ∨ (s.err n = 32 ∧ s.gives n = []) := by
  by_cases h : badB s.fail s.calls = true
  · obtain ⟨e1, e2, e3⟩ := Src.bad (n := n) h
    exact .inr (.inr ⟨e2, e1⟩)
  · have h : badB s.fail s.calls = false := by simpa using h
    obtain ⟨e1, e2, e3⟩ := Src.good (n := n) h
    rw [e3]; split
    · exact .inr (.inl rfl)
    · split
      · exact .inr (.inl rfl)
      · exact .inl rfl
theorem Snk.err_takes (t : Snk) (p : List UInt8) : t.err = 0 ∨ (t.err = 32 ∧ t.takes p.length = 0) := by
  by_cases h : badB t.fail t.calls = true
  · obtain ⟨e1, e2, e3⟩ := Snk.bad p h
    exact .inr ⟨e2, e1⟩
  · have h : badB t.fail t.calls = false := by simpa using h
    obtain ⟨e1, e2, e3⟩ := Snk.good p h
    exact .inl e2
/-- behind k rounds -/
structure BgSt (w W : World) (g lo g2 lo2 z3 : Nat) (S : Nat → Prop) (bs : List UInt8) (k : Nat) (vg vt : Value) (got : List UInt8) (s : Src) (t : Snk) (U : Nat → Prop) : Prop where
  src : SrcP g lo s S W
  snk : SnkP g2 lo2 t U W
  sc : s.calls = k
  tc : t.calls = k
  parts : got ++ s.left = bs
  tl : t.took.length ≤ got.length
  og : OwT fB W z3 5 vg got
  ot : OwT fB W z3 5 vt t.took
  ug : ∀ j, vg.ownBlock = some j → ¬ U j
  ut : ∀ j, vt.ownBlock = some j → ¬ U j
  gt : ∀ j, vg.ownBlock = some j → vt.ownBlock ≠ some j
  su : ∀ j, S j → ¬ U j
  sz : ∀ j, S j → j < z3
  ul : ∀ j, U j → w.heap.size < j
  zl : w.heap.size < z3 ∧ z3 ≤ W.heap.size
  bel : Below w.heap.size w W
section
variable {w W wp W1 W2 W3 W4 : World} {g lo g2 lo2 z3 k m : Nat} {S U U' : Nat → Prop} {bs got : List UInt8} {vg vt vg' vt' : Value} {s : Src} {t : Snk}
/-- behind Read -/
theorem BgSt.at1 (h : BgSt w W g lo g2 lo2 z3 S bs k vg vt got s t U) (hb : Below W.heap.size W wp) (t1 : Turns (fun j => j = g ∨ j = W.heap.size) wp W1) :
    Turns S W W1 ∧ OwT fB W1 z3 5 vg got ∧ SnkP g2 lo2 t U W1 ∧ OwT fB W1 z3 5 vt t.took := by
  have ht : Turns S W W1 := (Turns.of_below hb).trans t1 fun j hj e => by
    rcases e with e | e
    · rw [e]; exact h.src.own
    · omega
  exact ⟨ht, h.og.turns ht fun j hj hs => by have := (h.og.lt j hj).1; have := h.sz j hs; omega, h.snk.turns ht fun j hj hs => h.su j hs hj, h.ot.turns ht fun j hj hs => by have := (h.ot.lt j hj).1; have := h.sz j hs; omega⟩
/-- behind the first append -/
theorem BgSt.at2 (h : BgSt w W g lo g2 lo2 z3 S bs k vg vt got s t U) (hb : Below W.heap.size W wp) (t1 : Turns (fun j => j = g ∨ j = W.heap.size) wp W1) (h1 : SrcP g lo (s.next m) S W1) (g2' : W1.grownBy W2 vg.ownBlock) :
    Turns (fun j => vg.ownBlock = some j) W1 W2 ∧ SrcP g lo (s.next m) S W2 ∧ SnkP g2 lo2 t U W2 ∧ OwT fB W2 z3 5 vt t.took := by
  obtain ⟨ht, ho, hk, hv⟩ := h.at1 hb t1
  have t2 : Turns (fun j => vg.ownBlock = some j) W1 W2 := Turns.of_grown g2' fun j e => e
  exact ⟨t2, h1.turns t2 fun j hj e => by have := (h.og.lt j e).1; have := h.sz j hj; omega, hk.turns t2 fun j hj e => h.ug j e hj, hv.turns t2 fun j hj e => h.gt j e hj⟩
/-- a round -/
theorem BgSt.step (h : BgSt w W g lo g2 lo2 z3 S bs k vg vt got s t U) (hlo : w.heap.size < lo) (hb : Below W.heap.size W wp) (t1 : Turns (fun j => j = g ∨ j = W.heap.size) wp W1) (h1 : SrcP g lo (s.next m) S W1)
    (o2 : OwT fB W2 z3 5 vg' (got ++ s.gives m)) (g2' : W1.grownBy W2 vg.ownBlock) (v2 : vg'.ownBlock = vg.ownBlock ∨ vg'.ownBlock = some W1.heap.size)
    (k3 : SnkP g2 lo2 (t.next (s.gives m)) U' W3) (u3 : ∀ j, U' j → U j ∨ W2.heap.size ≤ j) (t3 : Turns U W2 W3)
    (o4 : OwT fB W4 z3 5 vt' (t.next (s.gives m)).took) (g4 : W3.grownBy W4 vt.ownBlock) (v4 : vt'.ownBlock = vt.ownBlock ∨ vt'.ownBlock = some W3.heap.size) :
    BgSt w W4 g lo g2 lo2 z3 S bs (k + 1) vg' vt' (got ++ s.gives m) (s.next m) (t.next (s.gives m)) U' ∧ Turns (fun j => w.heap.size < j) W W4 := by
  obtain ⟨a1, a2, a3, a4⟩ := h.at1 hb t1
  obtain ⟨b1, b2, b3, b4⟩ := h.at2 hb t1 h1 g2'
  have t4 : Turns (fun j => vt.ownBlock = some j) W3 W4 := Turns.of_grown g4 fun j e => e
  have z01 := a1.size; have z12 := b1.size; have z23 := t3.size; have z34 := t4.size
  have lU : ∀ j, U j → j < W.heap.size := fun j hj => (h.snk.inS j hj).2
  have lS : ∀ j, S j → w.heap.size < j := fun j hj => by have := (h.src.inS j hj).1; omega
  have lg : ∀ j, vg.ownBlock = some j → z3 ≤ j ∧ j < W.heap.size := h.og.lt
  have lt : ∀ j, vt.ownBlock = some j → z3 ≤ j ∧ j < W.heap.size := h.ot.lt
  have lg' := o2.lt
  have hz := h.zl
  have gU : ∀ j, vg'.ownBlock = some j → ¬ U j := fun j hj hu => by
    rcases v2 with e | e
    · exact h.ug j (e ▸ hj) hu
    · rw [e] at hj; injection hj with hj; have := lU j hu; omega
  have gT : ∀ j, vg'.ownBlock = some j → vt.ownBlock ≠ some j := fun j hj hu => by
    rcases v2 with e | e
    · exact h.gt j (e ▸ hj) hu
    · rw [e] at hj; injection hj with hj; have := lt j hu; omega
  have c3 : SrcP g lo (s.next m) S W3 := b2.turns t3 h.su
  have d3 : OwT fB W3 z3 5 vg' (got ++ s.gives m) := o2.turns t3 gU
  have tU : ∀ j, U' j → vt.ownBlock ≠ some j := fun j hj e => by
    rcases u3 j hj with hu | hu
    · exact h.ut j e hu
    · have := lt j e; omega
  have tt : Turns (fun j => w.heap.size < j) W W4 := ((((a1.mono fun j _ e => lS j e).trans (b1.mono fun j _ e => by have := lg j e; omega) fun j _ e => e).trans (t3.mono fun j _ e => h.ul j e) fun j _ e => e).trans (t4.mono fun j _ e => by have := lt j e; omega) fun j _ e => e)
  refine ⟨⟨c3.turns t4 fun j hj e => by have := lt j e; have := h.sz j hj; omega, k3.turns t4 fun j hj e => tU j hj e, by show s.calls + 1 = _; rw [h.sc], by show t.calls + 1 = _; rw [h.tc], ?_, ?_, d3.turns t4 fun j hj e => gT j hj e, o4, ?_, ?_, ?_, ?_, h.sz, ?_, ⟨hz.1, by omega⟩, tt.below h.bel h.bel.size fun j hj => by omega⟩, tt⟩
  · show got ++ s.gives m ++ s.rest m = bs
    rw [List.append_assoc, s.parts, h.parts]
  · show (t.took ++ (s.gives m).take _).length ≤ _
    rw [List.length_append, List.length_append, List.length_take]
    have := h.tl; omega
  · intro j hj hu
    rcases u3 j hu with hu | hu
    · exact gU j hj hu
    · have := lg' j hj; omega
  · intro j hj hu
    rcases v4 with e | e
    · exact tU j hu (e ▸ hj)
    · rw [e] at hj; injection hj with hj; have := (k3.inS j hu).2; omega
  · intro j hj e2
    rcases v4 with e | e
    · exact gT j hj (e ▸ e2)
    · rw [e] at e2; injection e2 with e2; have := lg' j hj; omega
  · intro j hj hu
    rcases u3 j hu with hu | hu
    · exact h.su j hj hu
    · have := h.sz j hj; omega
  · intro j hu
    rcases u3 j hu with hu | hu
    · exact h.ul j hu
    · omega
end
set_option maxRecDepth 100000 in
set_option maxHeartbeats 4000000 in
theorem pipeBegins_walk (ab : Option Addr) (nb cb : Nat) (bs : List UInt8) (ag : Option Addr) (ng cg : Nat) (gs : List Int) (xf : Int) (eager : Bool) (ah : Option Addr) (nh ch : Nat) (hs : List Nat)
    (ab' : Option Addr) (nb' cb' : Nat) (ag' : Option Addr) (ng' cg' : Nat) (xf' : Int) (eager' : Bool) (at' : Option Addr) (nt ct : Nat) (ts : List Int) (wf size : Int) (w : World)
    (hnb : nb ≤ 140737488351232) (hng : ng ≤ 17592186043904) (hnt : nt ≤ 17592186043904) (hnh : nh ≤ 70368744175616) (hI : Ints gs) (hI2 : Ints ts) (hI3 : Halves hs) (hB : Sl Bf w ab nb cb bs) (hG : Sl fZ w ag ng cg gs) (hT : Sl fZ w at' nt ct ts) (hH : Sl fH w ah nh ch hs) :
    Calls Try.prog 7 #[.agg #[.slice ab nb cb, .slice ag ng cg, .int .i64 xf, .bool eager], .slice ah nh ch, .agg #[.slice ab' nb' cb', .slice ag' ng' cg', .int .i64 xf', .bool eager', .slice at' nt ct, .int .i64 wf, .int .i64 size]] w fun e w' => e = .returned (.bool true) ∧ Below w.heap.size w w' := by
  obtain rfl : bs.length = nb := hB.len
  obtain rfl : hs.length = nh := hH.len
  have b0 : Below w.heap.size w ((w.alloc (.cells #[.slice ab bs.length cb, .slice ag ng cg, .int .i64 xf, .bool eager] 26)).alloc (.cells #[.slice ab' nb' cb', .slice ag' ng' cg', .int .i64 xf', .bool eager', .slice at' nt ct, .int .i64 wf, .int .i64 size] 67)) := ((Below.refl _ _).alloc (Nat.le_refl _) _).alloc (by simp) _
  have BX := Lib.hid (show ((w.alloc (.cells #[.slice ab bs.length cb, .slice ag ng cg, .int .i64 xf, .bool eager] 26)).alloc (.cells #[.slice ab' nb' cb', .slice ag' ng' cg', .int .i64 xf', .bool eager', .slice at' nt ct, .int .i64 wf, .int .i64 size] 67)).heap[w.heap.size]? = some (.cells #[.slice ab bs.length cb, .slice ag ng cg, .int .i64 xf, .bool eager] 26 (0, 0)) from blk_keep (heap_new w _) ((Below.refl _ _).alloc (Nat.le_refl _) _))
  have BY := Lib.hid (show ((w.alloc (.cells #[.slice ab bs.length cb, .slice ag ng cg, .int .i64 xf, .bool eager] 26)).alloc (.cells #[.slice ab' nb' cb', .slice ag' ng' cg', .int .i64 xf', .bool eager', .slice at' nt ct, .int .i64 wf, .int .i64 size] 67)).heap[w.heap.size + 1]? = some (.cells #[.slice ab' nb' cb', .slice ag' ng' cg', .int .i64 xf', .bool eager', .slice at' nt ct, .int .i64 wf, .int .i64 size] 67 (0, 0)) from by have := heap_new (w.alloc (.cells #[.slice ab bs.length cb, .slice ag ng cg, .int .i64 xf, .bool eager] 26)) (.cells #[.slice ab' nb' cb', .slice ag' ng' cg', .int .i64 xf', .bool eager', .slice at' nt ct, .int .i64 wf, .int .i64 size] 67); simpa using this)
  have HB := Lib.hid hB; have HG := Lib.hid hG; have HT := Lib.hid hT; have HH := Lib.hid hH
  have HI := Lib.hid hI; have HI2 := Lib.hid hI2; have HI3 := Lib.hid hI3
  have B0 := Lib.hid b0
  clear hB hG hT hH hI hI2 hI3 b0
  go_enter Try.func7, Try.ntmps7
  go_wp2_with fail
  generalize (w.alloc (.cells #[.slice ab bs.length cb, .slice ag ng cg, .int .i64 xf, .bool eager] 26)).alloc (.cells #[.slice ab' nb' cb', .slice ag' ng' cg', .int .i64 xf', .bool eager', .slice at' nt ct, .int .i64 wf, .int .i64 size] 67) = w0 at *
  refine (lives_any _).mono ?_
  rintro e w1 ⟨rfl, hb⟩
  have B1 := Lib.hid (keep_trans B0.out hb)
  have BX1 := Lib.hid (blk_keep BX.out hb)
  have BY1 := Lib.hid (blk_keep BY.out hb)
  have c0 := cell_of BX1.out 0 rfl
  have c1 := cell_of BX1.out 1 rfl
  have c2 := cell_of BX1.out 2 rfl
  have c3 := cell_of BX1.out 3 rfl
  clear hb
  go_wp2_with fail
  refine (newSource_any ab bs.length cb bs ag ng cg gs xf eager w1 hnb hng HI.out (HB.out.keep B1.out) (HG.out.keep B1.out)).mono ?_
  rintro e w2 ⟨g, S, rfl, hs2, hb⟩
  have SP := Lib.hid hs2
  have B2 := Lib.hid (keep_trans B1.out hb)
  have BX2 := Lib.hid (blk_keep BX1.out hb)
  have BY2 := Lib.hid (blk_keep BY1.out hb)
  have d4 := cell_of BY2.out 4 rfl
  have d5 := cell_of BY2.out 5 rfl
  have hy1 : w.heap.size + 1 < w1.heap.size := (Array.getElem?_eq_some_iff.1 BY1.out).1
  clear hs2 hb c0 c1 c2 c3
  go_wp2_with fail
  refine (newSink_any at' nt ct ts wf w2 hnt HI2.out (HT.out.keep B2.out)).mono ?_
  rintro e w3 ⟨g2, U, rfl, hu, hb⟩
  have hz12 : w1.heap.size ≤ w2.heap.size := by have h := (SP.out.inS g SP.out.own); omega
  have hz23 : w2.heap.size ≤ w3.heap.size := hb.size
  have B3 := Lib.hid (keep_trans B2.out hb)
  have BX3 := Lib.hid (blk_keep BX2.out hb)
  have ST0 := Lib.hid (show BgSt w w3 g w1.heap.size g2 w2.heap.size w3.heap.size S bs 0 (.slice none 0 0) (.slice none 0 0) [] _ _ U from
    ⟨SP.out.keep hb, hu, rfl, rfl, rfl, Nat.le_refl _, .nil _ _ _ _, .nil _ _ _ _, fun j h => (by cases h), fun j h => (by cases h), fun j h => (by cases h), fun j hj h => by have := (SP.out.inS j hj).2; have := (hu.inS j h).1; omega,
      fun j hj => by have := (SP.out.inS j hj).2; omega, fun j h => by have := (hu.inS j h).1; omega, ⟨by omega, Nat.le_refl _⟩, B3.out⟩)
  clear hu hb d4 d5 SP BX BX1 BX2 BY BY1 BY2 B0 B1 B2 HI HI2
  go_wp2_with fail
  go_loopw [10, 11, 12] (fun vg vt i wr => ∃ (k : Nat) (got : List UInt8) (s : Src) (t : Snk) (U : Nat → Prop), k ≤ hs.length ∧ i = .int .i64 (k : Nat) ∧ BgSt w wr g w1.heap.size g2 w2.heap.size w3.heap.size S bs k vg vt got s t U ∧ wr.heap[w.heap.size]? = some (.cells #[.slice ab bs.length cb, .slice ag ng cg, .int .i64 xf, .bool eager] 26 (0, 0))) (fun _ _ i _ => hs.length - (intOf i).toNat)
  case atStart => exact ⟨0, [], _, _, U, Nat.zero_le _, rfl, ST0.out, BX3.out⟩
  case round =>
    obtain ⟨k, got, s, t, U1, hk, rfl, hst, hbx⟩ := hrel
    obtain ⟨a10, n10, c10, rfl, hsg⟩ := hst.og.slN
    obtain ⟨a11, n11, c11, rfl, hstt⟩ := hst.ot.slN
    obtain rfl : got.length = n10 := hsg.len
    obtain rfl : t.took.length = n11 := hstt.len
    have ST := Lib.hid hst
    have BX4 := Lib.hid hbx
    clear hst hbx hsg hstt
    by_cases hlt : k < hs.length
    · obtain ⟨m, b, o, hm, rfl, hc⟩ := (HH.out.keep ST.out.bel).at k hlt
      have hc : wr.cell? ⟨b, o + k, none⟩ = some (.int .u16 (m : Nat)) := hc
      have hmB : m ≤ 65535 := HI3.out m (List.mem_of_getElem? hm)
      clear hm
      go_wp2_with (refine wpList_mkT eltTB rfl (.tmp 48) (.tmp 48) rfl 0 m m (Nat.le_refl _) (by rfl) (by rfl) rfl rfl (by omega) (by simp only [maxLen]; omega) (Nat.zero_le _) ?_; intro x0 wp hp _ _ hbp; have HP := Lib.hid hp; have HBP := Lib.hid hbp; clear hp hbp)
      have hgp : w3.heap.size ≤ wr.heap.size := ST.out.zl.2
      have hsc := ST.out.sc
      have HP2 : Hid (wp.heap[wr.heap.size]? = some (.cells ((List.replicate m x0).map Bf).toArray 5 (0, 0))) := Lib.hid (by rw [← flat_fB]; exact HP.out)
      refine (sread_any g _ s S wr.heap.size m m (List.replicate m x0) wp (ST.out.src.keep HBP.out) (by omega) (by simp) (Nat.le_refl _) (by omega) HP2.out (fun h => by have := ST.out.sz _ h; omega)).mono ?_
      rintro e W1 ⟨rfl, hs1, ht1, hr1⟩
      have hgl := s.gives_le m
      obtain ⟨n, hn⟩ : ∃ n, (s.gives m).length = n := ⟨_, rfl⟩
      have hpt : got.length + n ≤ bs.length := by
        have := ST.out.parts; rw [← this, List.length_append, ← s.parts m, List.length_append]; omega
      have hE := s.err_gives m
      rw [hn] at hgl
      have HN := Lib.hid hn
      obtain ⟨q1, q2, q3, q4⟩ := ST.out.at1 HBP.out ht1
      have Q2 := Lib.hid q2
      have H1 := Lib.hid hs1
      have T1 := Lib.hid ht1
      have hgs := s.gives_le m
      have hsl1 : Sl Bf W1 (some ⟨wr.heap.size, 0, none⟩) n m (s.gives m) := Sl.of_row _ _ _ hr1 hn hgl (by rw [hn]; show ((s.gives m ++ _).map Bf).take n = _; rw [List.map_append, List.take_left' (by rw [List.length_map]; exact hn)])
      have SL1 := Lib.hid hsl1
      have hz1 : wr.heap.size < W1.heap.size := (Array.getElem?_eq_some_iff.1 hr1).1
      have R1 := Lib.hid hr1
      have Z1 := Lib.hid (show w3.heap.size ≤ W1.heap.size by omega)
      have hcut := fun V : World => run_cutto eltB V (some ⟨wr.heap.size, 0, none⟩) m m .i64 n hgl
      have HE : Hid ((s.err m = 0 ∨ s.err m = 31) ∨ (s.err m = 32 ∧ n = 0)) := Lib.hid (by
        rcases hE with e | e | ⟨e, e2⟩
        · exact .inl (.inl e)
        · exact .inl (.inr e)
        · exact .inr ⟨e, by rw [← hn, e2]; rfl⟩)
      obtain ⟨er, her⟩ : ∃ er, s.err m = er := ⟨_, rfl⟩
      rw [hn, her]
      rw [her] at HE
      have t1 : decide ((n : Int) < 0) = false := decide_eq_false (by omega)
      have t2 : decide ((n : Int) > (m : Int)) = false := decide_eq_false (by omega)
      have t2' : decide (m < n) = false := decide_eq_false (by omega)
      clear hn hs1 ht1 hr1 hE q1 q2 q3 q4 hsl1 her HP HP2 hgs hc
      go_upto_region 13 with (fail)
      go_cut [75] (fun b wx => b = .bool false ∧ wx = W1)
      case first =>
        rcases HE.out with (rfl | rfl) | ⟨rfl, rfl⟩
        · go_wp2_with fail
          all_goals go_meet
          all_goals exact ⟨by simp, rfl⟩
        · go_wp2_with fail
          all_goals go_meet
          all_goals exact ⟨by simp, rfl⟩
        · go_wp2_with fail
          all_goals go_meet
          all_goals exact ⟨by simp, rfl⟩
      obtain ⟨rfl, hcw⟩ := hcut
      replace hcw := hcw.symm
      subst hcw
      clear t1 t2 t2'
      go_wp2_with (at_builtin; refine wpList_appT eltTB rfl (.tmp 76) (.tmp 79) rfl w3.heap.size (.slice a10 got.length c10) got (by rfl) Q2.out (some ⟨wr.heap.size, 0, none⟩) n m (s.gives m) (by rfl) SL1.out.toT (by unfold maxLen; omega) (by omega) Z1.out (got ++ s.gives m) rfl ?_; intro v2 W2 h2 hg2 hv2 hb2; have O2 := Lib.hid h2; have G2 := Lib.hid hg2; have V2 := Lib.hid hv2; clear h2 hg2 hv2 hb2)
      obtain ⟨p1, p2, p3, p4⟩ := ST.out.at2 HBP.out T1.out H1.out G2.out
      have P3 := Lib.hid p3
      have SL2 : Hid (Sl Bf W2 (some ⟨wr.heap.size, 0, none⟩) n m (s.gives m)) := Lib.hid (SL1.out.turns p1 fun b' o' e hn0 h => by injection e with e; injection e with e; subst e; have := (ST.out.og.lt _ h).2; omega)
      have hz2 : W1.heap.size ≤ W2.heap.size := p1.size
      have R2 := Lib.hid (p1.heap R1.out fun h => by have := (ST.out.og.lt _ h).2; omega)
      have hgb : ∀ b' o', (some (⟨wr.heap.size, 0, none⟩ : Addr)) = some ⟨b', o', none⟩ → 0 < n → ¬ U1 b' := fun b' o' e hn0 h => by injection e with e; injection e with e; subst e; have := (ST.out.snk.inS _ h).2; omega
      have htl := ST.out.tl
      have htc := ST.out.tc
      refine (swrite_any g2 _ t U1 (some ⟨wr.heap.size, 0, none⟩) n m (s.gives m) W2 p3 (by omega) (by omega) SL2.out hgb).mono ?_
      rintro e W3 ⟨rfl, U3, hu3, hU3, ht3⟩
      have hl2 := t.takes_le (s.gives m).length
      have HE2 := t.err_takes (s.gives m)
      have K3 := Lib.hid hu3
      have U3h := Lib.hid hU3
      have T3 := Lib.hid ht3
      have P4 := Lib.hid (p4.turns ht3 fun j hj h => ST.out.ut j hj h)
      have SL3 : Hid (Sl Bf W3 (some ⟨wr.heap.size, 0, none⟩) n m (s.gives m)) := Lib.hid (SL2.out.turns ht3 hgb)
      have hz3 : W2.heap.size ≤ W3.heap.size := ht3.size
      obtain ⟨q, hq⟩ : ∃ q, t.takes (s.gives m).length = q := ⟨_, rfl⟩
      rw [hq] at hl2 HE2
      rw [HN.out] at hl2
      rw [hq]
      obtain ⟨er2, her2⟩ : ∃ e, t.err = e := ⟨_, rfl⟩
      rw [her2] at HE2 ⊢
      have HE3 := Lib.hid HE2
      have NTK := Lib.hid (show t.took ++ (s.gives m).take q = (t.next (s.gives m)).took by show _ = t.took ++ (s.gives m).take (t.takes _); rw [hq])
      have SL4 : Hid (Sl Bf W3 (some ⟨wr.heap.size, 0, none⟩) q m ((s.gives m).take q)) := Lib.hid (SL3.out.upto q hl2)
      have Z3 := Lib.hid (show w3.heap.size ≤ W3.heap.size by omega)
      have hcut2 := fun V : World => run_cutto eltB V (some ⟨wr.heap.size, 0, none⟩) m m .i64 q (by omega)
      have t1 : decide ((q : Int) < 0) = false := decide_eq_false (by omega)
      have t2 : decide ((q : Int) > (n : Int)) = false := decide_eq_false (by omega)
      have t2' : decide (n < q) = false := decide_eq_false (by omega)
      clear p1 p2 p3 p4 hgb hu3 hU3 ht3 HE2 her2 hq hcut
      go_upto_region 17 with (fail)
      go_cut [103] (fun b wx => b = .bool false ∧ wx = W3)
      case first =>
        rcases HE3.out with rfl | ⟨rfl, rfl⟩
        · go_wp2_with fail
          all_goals go_meet
          all_goals exact ⟨by simp, rfl⟩
        · go_wp2_with fail
          all_goals go_meet
          all_goals exact ⟨by simp, rfl⟩
      obtain ⟨rfl, hcw⟩ := hcut
      replace hcw := hcw.symm
      subst hcw
      clear t1 t2 t2'
      go_wp2_with (at_builtin; refine wpList_appT eltTB rfl (.tmp 104) (.tmp 107) rfl w3.heap.size (.slice a11 t.took.length c11) t.took (by rfl) P4.out (some ⟨wr.heap.size, 0, none⟩) q m ((s.gives m).take q) (by rfl) SL4.out.toT (by unfold maxLen; omega) (by omega) Z3.out (t.next (s.gives m)).took NTK.out ?_; intro v4 W4 h4 hg4 hv4 hb4; have O4 := Lib.hid h4; have G4 := Lib.hid hg4; have V4 := Lib.hid hv4; clear h4 hg4 hv4 hb4)
      go_roundw
      case rel =>
        obtain ⟨stp, tt⟩ := ST.out.step (by omega) HBP.out T1.out H1.out O2.out G2.out V2.out K3.out U3h.out T3.out O4.out G4.out V4.out
        refine ⟨k + 1, _, _, _, _, by omega, by go_num, stp, tt.heap BX4.out (Nat.lt_irrefl _)⟩
      case measure => simp [intOf]; omega
    · go_wp2_with fail
      refine (left_any g _ s S wr ST.out.src).mono ?_
      rintro e w8 ⟨rfl, rfl⟩
      go_wp2_with fail
      have hpl : got.length + s.left.length = bs.length := by rw [← ST.out.parts, List.length_append]
      have htl := ST.out.tl
      refine (kbytes_any g2 _ t U1 wr ST.out.snk (by omega)).mono ?_
      rintro e w7 ⟨v, rfl, ho, hb⟩
      obtain ⟨a19, n19, c19, rfl, hs19⟩ := ho.slN
      obtain ⟨q, hq⟩ : ∃ q, t.took.length = q := ⟨_, rfl⟩
      obtain rfl : n19 = q := by rw [← hs19.len, hq]
      have HQ := Lib.hid hq
      have SA := Lib.hid (show Sl Bf w7 a19 n19 c19 t.took from hs19)
      have SB := Lib.hid (show Sl Bf w7 a11 n19 c11 t.took by have := (ST.out.ot.keep hb).slI; rwa [hq] at this)
      have SC := Lib.hid (show Sl Bf w7 a10 got.length c10 got from (ST.out.og.keep hb).slI)
      have B7 := Lib.hid (keep_trans ST.out.bel hb)
      have BX7 := Lib.hid (blk_keep BX4.out hb)
      have c0 := cell_of BX7.out 0 rfl
      have hn19 : n19 ≤ 140737488351232 := by omega
      rw [hq]
      obtain ⟨n, hn⟩ : ∃ n, got.length = n := ⟨_, rfl⟩
      rw [hn] at SC hpl ⊢
      have hnle : n ≤ bs.length := by omega
      have SD := Lib.hid (show Sl Bf w7 ab n cb got by have := (HB.out.keep B7.out).upto n hnle; rw [show bs.take n = got by rw [← ST.out.parts, ← hn, List.take_left]] at this; exact this)
      have t1 : decide ((n : Int) > (bs.length : Int)) = false := decide_eq_false (by omega)
      have t1' : decide (bs.length < n) = false := decide_eq_false (by omega)
      have r1 : IntKind.i64.wrap ((bs.length : Int) - (n : Int)) = (s.left.length : Int) := by rw [IntWalk.i64_in _ (by omega)]; omega
      have t2 : ((s.left.length : Int) != (s.left.length : Int)) = false := by simp
      have hcut3 := fun V : World => run_cutto eltB V ab bs.length cb .i64 n (by have := HB.out.le; omega)
      have SM1 := Lib.hid (fun V : World => fun (hV : Below w7.heap.size w7 V) => (show Calls Try.prog 17 #[.slice a10 n c10, .slice ab n cb] V fun e w' => e = .returned (.bool true) ∧ Below V.heap.size V w' from by have := same_any a10 n c10 got ab n cb got V (by omega) (by omega) (SC.out.keep hV) (SD.out.keep hV); rwa [decide_eq_true rfl] at this))
      have SM2 := Lib.hid (fun V : World => fun (hV : Below w7.heap.size w7 V) => (show Calls Try.prog 17 #[.slice a19 n19 c19, .slice a11 n19 c11] V fun e w' => e = .returned (.bool true) ∧ Below V.heap.size V w' from by have := same_any a19 n19 c19 t.took a11 n19 c11 t.took V (by omega) (by omega) (SA.out.keep hV) (SB.out.keep hV); rwa [decide_eq_true rfl] at this))
      clear ho hs19 hb hq hn hpl htl
      go_wp2_with fail
      refine (SM1.out _ (Below.refl _ _)).mono ?_
      rintro e w9 ⟨rfl, hb⟩
      have H9 := Lib.hid hb
      have B9 := Lib.hid (keep_trans B7.out hb)
      clear hb SM1
      go_wp2_with fail
      refine (SM2.out _ H9.out).mono ?_
      rintro e w10 ⟨rfl, hb⟩
      have B10 := Lib.hid (keep_trans B9.out hb)
      clear hb
      go_wp2_with fail
      go_ret
      exact ⟨rfl, B10.out⟩
end Go.Proofs.Ytjkgncogpefnbaa

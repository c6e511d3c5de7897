/- PipeSources: the walk: the program's source and the document's, call by call. Conditions: what it is handed within reach. -/
import Derived.Test.YtjkgncogpefnbaaPipeRef
import Derived.Test.YtjkgncogpefnbaaPipeBegins
namespace Go.Proofs.Ytjkgncogpefnbaa
open Go.RowKit
set_option linter.unusedVariables false
set_option linter.unusedSimpArgs false

theorem set_row {zs : List UInt8} {j : Nat} (x : UInt8) : ((zs.map Bf).toArray).setIfInBounds j (Bf x) = ((zs.set j x).map Bf).toArray := by
  apply Array.ext'
  rw [Array.toList_setIfInBounds]
  show (zs.map Bf).set j (Bf x) = (zs.set j x).map Bf
  rw [List.map_set]
/-- two rows that read alike -/
structure Twin (W : World) (p q n : Nat) (zs : List UInt8) : Prop where
  hp : W.heap[p]? = some (.cells (zs.map Bf).toArray 5 (0, 0))
  hq : W.heap[q]? = some (.cells (zs.map Bf).toArray 5 (0, 0))
  hn : zs.length = n
theorem Twin.set {W : World} {p q n j : Nat} {zs : List UInt8} (h : Twin W p q n zs) (hpq : p ≠ q) (x : UInt8) : Twin ((W.setCell ⟨p, j, none⟩ (Bf x)).setCell ⟨q, j, none⟩ (Bf x)) p q n (zs.set j x) := by
  have h1 := set_block (i := j) h.hp (Bf x)
  have h2 : (W.setCell ⟨p, j, none⟩ (Bf x)).heap[q]? = _ := (Below.heap_setCell _ _ _ _ (Ne.symm hpq)).trans h.hq
  have h3 := set_block (i := j) h2 (Bf x)
  rw [set_row] at h1 h3
  exact ⟨(Below.heap_setCell _ _ _ _ hpq).trans h1, h3, by rw [List.length_set]; exact h.hn⟩
theorem Twin.cells {W : World} {p q n j : Nat} {zs : List UInt8} (h : Twin W p q n zs) (hj : j < n) : ∃ x y, W.cell? ⟨p, j, none⟩ = some x ∧ W.cell? ⟨q, j, none⟩ = some y ∧ W.frozen? ⟨p, j, none⟩ = false ∧ W.frozen? ⟨q, j, none⟩ = false := by
  have hjl : j < zs.length := by rw [h.hn]; exact hj
  have e : ((zs.map Bf).toArray)[j]? = some (Bf zs[j]) := by rw [List.getElem?_toArray, List.getElem?_map, List.getElem?_eq_getElem hjl]; rfl
  exact ⟨_, _, cell_of h.hp j e, cell_of h.hq j e, free_block h.hp j, free_block h.hq j⟩
/-- behind k rounds -/
structure SoSt (w W : World) (g lo gr : Nat) (S : Nat → Prop) (bs : List UInt8) (k : Nat) (s : Src) : Prop where
  src : SrcP g lo s S W
  ref : RsP gr s bs (fun j => j < w.heap.size ∨ j = gr) W
  sc : s.calls = k
  bel : Below w.heap.size w W
theorem SoSt.keep {w W W' : World} {g lo gr k : Nat} {S : Nat → Prop} {bs : List UInt8} {s : Src} (h : SoSt w W g lo gr S bs k s) (hb : Below W.heap.size W W') : SoSt w W' g lo gr S bs k s :=
  ⟨h.src.keep hb, h.ref.keep hb, h.sc, keep_trans h.bel hb⟩
set_option maxRecDepth 100000 in
set_option maxHeartbeats 4000000 in
theorem pipeSources_walk (ab : Option Addr) (nb cb : Nat) (bs : List UInt8) (ag : Option Addr) (ng cg : Nat) (gs : List Int) (xf : Int) (eager : Bool) (ah : Option Addr) (nh ch : Nat) (hs : List Nat) (w : World)
    (hnb : nb ≤ 140737488351232) (hng : ng ≤ 17592186043904) (hnh : nh ≤ 70368744175616) (hI : Ints gs) (hI3 : Halves hs) (hB : Sl Bf w ab nb cb bs) (hG : Sl fZ w ag ng cg gs) (hH : Sl fH w ah nh ch hs) :
    Calls Try.prog 9 #[.agg #[.slice ab nb cb, .slice ag ng cg, .int .i64 xf, .bool eager], .slice ah nh ch] w fun e w' => e = .returned (.bool true) ∧ Below w.heap.size w w' := by
  obtain rfl : bs.length = nb := hB.len
  obtain rfl : hs.length = nh := hH.len
  obtain rfl : gs.length = ng := hG.len
  have b0 : Below w.heap.size w (w.alloc (.cells #[.slice ab bs.length cb, .slice ag gs.length cg, .int .i64 xf, .bool eager] 26)) := (Below.refl _ _).alloc (Nat.le_refl _) _
  have BX := Lib.hid (heap_new w (.cells #[.slice ab bs.length cb, .slice ag gs.length cg, .int .i64 xf, .bool eager] 26))
  have HB := Lib.hid hB; have HG := Lib.hid hG; have HH := Lib.hid hH
  have HI := Lib.hid hI; have HI3 := Lib.hid hI3
  have B0 := Lib.hid b0
  clear hB hG hH hI hI3 b0
  go_enter Try.func9, Try.ntmps9
  go_wp2_with fail
  generalize w.alloc (.cells #[.slice ab bs.length cb, .slice ag gs.length cg, .int .i64 xf, .bool eager] 26) = w0 at *
  refine (lives_any _).mono ?_
  rintro e w1 ⟨rfl, hb⟩
  have B1 := Lib.hid (keep_trans B0.out hb)
  have BX1 := Lib.hid (blk_keep BX.out hb)
  have c0 := cell_of BX1.out 0 rfl
  have c1 := cell_of BX1.out 1 rfl
  have c2 := cell_of BX1.out 2 rfl
  have c3 := cell_of BX1.out 3 rfl
  clear hb
  go_wp2_with fail
  refine (source_any ab bs.length cb bs ag gs.length cg gs xf eager w1 hnb hng HI.out (HB.out.keep B1.out) (HG.out.keep B1.out)).mono ?_
  rintro e w2 ⟨g, S, gr, rfl, hs2, hr2, hSr, hgr, hb⟩
  have hz1 : w.heap.size < w1.heap.size := (Array.getElem?_eq_some_iff.1 BX1.out).1
  have B2 := Lib.hid (keep_trans B1.out hb)
  have BX2 := Lib.hid (blk_keep BX1.out hb)
  have hz2 : w1.heap.size ≤ w2.heap.size := hb.size
  have hgrl : gr < w2.heap.size := (Array.getElem?_eq_some_iff.1 hr2).1
  have NSR := Lib.hid hSr
  have SLO := Lib.hid (show ∀ j, S j → w1.heap.size ≤ j ∧ j < w2.heap.size from hs2.inS)
  have hGb : ∀ b o, ag = some ⟨b, o, none⟩ → 0 < gs.length → (b < w.heap.size ∨ b = gr) ∧ b ≠ gr := fun b o e hn => by
    have : b < w.heap.size := by subst e; exact HG.out.blt hn
    exact ⟨.inl this, by omega⟩
  have hBb : ∀ b o, ab = some ⟨b, o, none⟩ → 0 < bs.length → (b < w.heap.size ∨ b = gr) ∧ b ≠ gr := fun b o e hn => by
    have : b < w.heap.size := by subst e; exact HB.out.blt hn
    exact ⟨.inl this, by omega⟩
  have ST0 := Lib.hid (show SoSt w w2 g w1.heap.size gr S bs 0 ⟨gs, xf, 0, bs, eager⟩ from
    ⟨hs2, ⟨⟨ab, bs.length, cb, ag, gs.length, cg, 0, hr2, ⟨_, _, _, rfl, HG.out.keep B2.out, hGb⟩, ⟨_, _, _, rfl, HB.out.keep B2.out, hBb⟩, Nat.zero_le _, rfl⟩, .inr rfl, fun j hj => by rcases hj with h | h <;> omega, HI.out⟩, rfl, B2.out⟩)
  clear hGb hBb
  clear hs2 hr2 hSr hb c0 c1 c2 c3 BX BX1 B0 B1 HI
  go_wp2_with fail
  go_loopw [8] (fun i wr => ∃ (k : Nat) (s : Src), k ≤ hs.length ∧ i = .int .i64 (k : Nat) ∧ SoSt w wr g w1.heap.size gr S bs k s ∧ wr.heap[w.heap.size]? = some (.cells #[.slice ab bs.length cb, .slice ag gs.length cg, .int .i64 xf, .bool eager] 26 (0, 0)) ∧ w2.heap.size ≤ wr.heap.size) (fun i _ => hs.length - (intOf i).toNat)
  case atStart => exact ⟨0, _, Nat.zero_le _, rfl, ST0.out, BX2.out, Nat.le_refl _⟩
  case round =>
    obtain ⟨k, s, hk, rfl, hst, hbx, hwz⟩ := hrel
    have ST := Lib.hid hst
    have BX4 := Lib.hid hbx
    clear hst hbx
    by_cases hlt : k < hs.length
    · obtain ⟨m, b, o, hm, rfl, hc⟩ := (HH.out.keep ST.out.bel).at k hlt
      have hcm : wr.cell? ⟨b, o + k, none⟩ = some (.int .u16 (m : Nat)) := hc
      have hblt : b < wr.heap.size := cell_lt hcm
      have hmB : m ≤ 65535 := HI3.out m (List.mem_of_getElem? hm)
      have r1 : IntKind.i64.wrap ((m : Int) + 2) = ((m + 2 : Nat) : Int) := by rw [IntWalk.i64_in _ (by omega)]; omega
      clear hm hc
      go_upto_region 9 with (refine wpList_mkT eltTB rfl (.tmp 44) (.tmp 44) rfl 0 (m + 2) (m + 2) (Nat.le_refl _) (by rfl) (by rfl) (by first | rfl | omega) (by first | rfl | omega) (by omega) (by simp only [maxLen]; omega) (Nat.zero_le _) ?_; intro x0 wp hp _ hx0 hbp; have HP := Lib.hid hp; have HX0 := Lib.hid hx0; have HBP := Lib.hid hbp; clear hp hbp hx0)
      have hcm2 : wp.cell? ⟨b, o + k, none⟩ = some (.int .u16 (m : Nat)) := (World.cell?_of_block (w := wr) (HBP.out.block b hblt)).trans hcm
      have hbltp : b < wp.heap.size := cell_lt hcm2
      go_upto_region 10 with (refine wpList_mkT eltTB rfl (.tmp 51) (.tmp 51) rfl 0 (m + 2) (m + 2) (Nat.le_refl _) (by rfl) (by rfl) (by first | rfl | omega) (by first | rfl | omega) (by omega) (by simp only [maxLen]; omega) (Nat.zero_le _) ?_; intro x1 wq hq _ hx1 hbq; have HQ := Lib.hid hq; have HX1 := Lib.hid hx1; have HBQ := Lib.hid hbq; clear hq hbq hx1)
      have hx01 : x1 = x0 := by
        obtain ⟨i1, z1, a1, b1, c1⟩ := HX0.out
        obtain ⟨i2, z2, a2, b2, c2⟩ := HX1.out
        rw [a1] at a2; injection a2 with a2; subst a2
        rw [b1] at b2; injection b2 with b2; subst b2
        rw [c1] at c2
        have c3 : [Bf x0] = [Bf x1] := c2
        injection c3 with c3
        injection c3 with _ c4
        exact (B_inj c4).symm
      subst hx01
      have TW0 : Hid (Twin wq wr.heap.size wp.heap.size (m + 2) (List.replicate (m + 2) x1)) := Lib.hid ⟨by rw [← flat_fB]; exact blk_keep HP.out HBQ.out, by rw [← flat_fB]; exact HQ.out, by simp⟩
      have hpq : wr.heap.size < wp.heap.size := (Array.getElem?_eq_some_iff.1 HP.out).1
      have hqq : wp.heap.size < wq.heap.size := (Array.getElem?_eq_some_iff.1 HQ.out).1
      have BQ := Lib.hid (keep_trans HBP.out HBQ.out)
      clear HP HQ HX0 HX1 hcm2 HBP HBQ
      obtain ⟨p, hp⟩ : ∃ p, wr.heap.size = p := ⟨_, rfl⟩
      obtain ⟨q, hq⟩ : ∃ q, wp.heap.size = q := ⟨_, rfl⟩
      rw [hp, hq] at TW0 hpq ⊢
      rw [hq] at hqq hbltp
      have hbw : b < w.heap.size := HH.out.blt (by omega)
      have hwp : w2.heap.size ≤ p := by omega
      have hcmq : wq.cell? ⟨b, o + k, none⟩ = some (.int .u16 (m : Nat)) := (World.cell?_of_block (w := wr) (BQ.out.block b hblt)).trans hcm
      have SRQ := Lib.hid (ST.out.src.keep BQ.out)
      have RRQ := Lib.hid (ST.out.ref.keep BQ.out)
      have hsc := ST.out.sc
      have BEQ := Lib.hid (keep_trans ST.out.bel BQ.out)
      have BXQ := Lib.hid (blk_keep BX4.out BQ.out)
      clear hp hq hcm hblt hbltp BQ ST BX4
      go_wp2_with fail
      go_loopw [11] (fun i wv => ∃ (j : Nat) (zs : List UInt8), j ≤ m + 2 ∧ i = .int .i64 (j : Nat) ∧ Twin wv p q (m + 2) zs ∧ Turns (fun b => b = p ∨ b = q) wq wv) (fun i _ => m + 2 - (intOf i).toNat)
      case atStart => exact ⟨0, _, Nat.zero_le _, rfl, TW0.out, .refl _ _⟩
      case round =>
        obtain ⟨j, zs, hj, rfl, htw, htt⟩ := hrel
        have TW := Lib.hid htw
        have TT := Lib.hid htt
        clear htw htt
        by_cases hjlt : j < m + 2
        · obtain ⟨y1, y2, e1, e2, f1, f2⟩ := TW.out.cells hjlt
          have r2 : IntKind.i64.wrap (7 * (j : Int)) = 7 * (j : Int) := IntWalk.i64_in _ (by omega)
          go_wp2_with fail
          obtain ⟨x, hx⟩ := B_of (x := 7 * (j : Int) % 256) (by omega) (by omega)
          rw [hx]
          refine ⟨⟨j + 1, _, by omega, by go_num, TW.out.set (by omega) x, (TT.out.trans (Turns.set (S := fun b => b = p ∨ b = q) wr (b := p) (i := j) (.inl rfl) (.int .u8 (B x))) fun _ _ e => e).trans (Turns.set (S := fun b => b = p ∨ b = q) _ (b := q) (i := j) (.inr rfl) (.int .u8 (B x))) fun _ _ e => e⟩, by simp [intOf]; omega⟩
        · have hgr2 := hgrl
          have SP := Lib.hid ((SRQ.out).turns TT.out fun j hj e => by have := SLO.out j hj; omega)
          have RP := Lib.hid ((RRQ.out).turns TT.out fun j hj e => by rcases hj with h | h <;> omega)
          have hn := TW.out.hn
          have hcm3 : wr.cell? ⟨b, o + k, none⟩ = some (.int .u16 (m : Nat)) := (World.cell?_of_block (w := wq) (TT.out.block b (by omega) (by omega))).trans hcmq
          have hcut1 := fun V : World => run_cutto eltB V (some ⟨p, 0, none⟩) (m + 2) (m + 2) .u16 m (by omega)
          have hcut2 := fun V : World => run_cutto eltB V (some ⟨q, 0, none⟩) (m + 2) (m + 2) .u16 m (by omega)
          have hcm := Lib.hid hcmq
          have BXR := Lib.hid (TT.out.heap BXQ.out (by omega))
          have BE := Lib.hid (TT.out.below BEQ.out BEQ.out.size fun j hj => by omega)
          have hzr : q < wr.heap.size := Nat.lt_of_lt_of_le hqq TT.out.size
          clear hcmq
          go_wp2_with fail
          refine (sread_any g _ s S p m (m + 2) zs wr SP.out (by omega) (by omega) (by omega) (by omega) TW.out.hp (fun h => by have := SLO.out p h; omega)).mono ?_
          rintro e W1 ⟨rfl, hs1, ht1, hr1⟩
          have SP1 := Lib.hid hs1
          have T1 := Lib.hid ht1
          have R1 := Lib.hid hr1
          have hgS := SLO.out g SP.out.own
          have hgne : g ≠ gr := fun e => NSR.out (e ▸ SP.out.own)
          have hcm4 : W1.cell? ⟨b, o + k, none⟩ = some (.int .u16 (m : Nat)) := (World.cell?_of_block (w := wr) (ht1.block b (by omega) (by omega))).trans hcm3
          have RP1 := Lib.hid (RP.out.turns ht1 fun j hj e => by rcases hj with h | h <;> rcases e with e | e <;> omega)
          have HQ1 := Lib.hid (ht1.heap TW.out.hq (by omega))
          have hz1' := ht1.size
          clear hs1 ht1 hr1 hcm3
          go_wp2_with fail
          refine (rread_any gr s bs _ q m (m + 2) zs W1 RP1.out (by omega) hnb (by omega) (by omega) (by omega) HQ1.out (fun h => by rcases h with h | h <;> omega)).mono ?_
          rintro e W2 ⟨rfl, hs2, ht2, hr2⟩
          have RP2 := Lib.hid hs2
          have SP2 := Lib.hid (SP1.out.turns ht2 fun j hj e => by
            rcases e with e | e
            · exact NSR.out (e ▸ hj)
            · have := SLO.out j hj; omega)
          have TA := Lib.hid ((T1.out.mono (T := fun j => w.heap.size < j) fun j _ e => by omega).trans (ht2.mono (T := fun j => w.heap.size < j) fun j _ e => by omega) fun _ _ e => e)
          have R2 := Lib.hid (ht2.heap R1.out (by omega))
          have hgl := s.gives_le m
          have hln : (s.gives m ++ zs.drop (s.gives m).length).length = m + 2 := by rw [List.length_append, List.length_drop]; omega
          have SA := Lib.hid (show Sl Bf W2 (some ⟨p, 0, none⟩) (m + 2) (m + 2) (s.gives m ++ zs.drop (s.gives m).length) from Sl.of_row _ _ _ R2.out hln (Nat.le_refl _) (by rw [List.take_of_length_le (by show (List.map Bf _).length ≤ _; rw [List.length_map]; omega)]))
          have SB := Lib.hid (show Sl Bf W2 (some ⟨q, 0, none⟩) (m + 2) (m + 2) (s.gives m ++ zs.drop (s.gives m).length) from Sl.of_row _ _ _ hr2 hln (Nat.le_refl _) (by rw [List.take_of_length_le (by show (List.map Bf _).length ≤ _; rw [List.length_map]; omega)]))
          have BX2' := Lib.hid (TA.out.heap BXR.out (Nat.lt_irrefl _))
          have BE2 := Lib.hid (TA.out.below BE.out BE.out.size fun j hj => by omega)
          have SM := Lib.hid (show Calls Try.prog 17 #[.slice (some ⟨p, 0, none⟩) (m + 2) (m + 2), .slice (some ⟨q, 0, none⟩) (m + 2) (m + 2)] W2 (fun e w' => e = .returned (.bool true) ∧ Below W2.heap.size W2 w') from by have := same_any (some ⟨p, 0, none⟩) (m + 2) (m + 2) _ (some ⟨q, 0, none⟩) (m + 2) (m + 2) _ W2 (by omega) (by omega) SA.out SB.out; rwa [decide_eq_true rfl] at this)
          have hz2' := ht2.size
          clear hs2 ht2 hr2 hgl hln hcm4
          obtain ⟨gl, hgl⟩ : ∃ x, (s.gives m).length = x := ⟨_, rfl⟩
          obtain ⟨er, her⟩ : ∃ x, s.err m = x := ⟨_, rfl⟩
          rw [hgl, her]
          clear hgl her
          go_wp2_with fail
          refine SM.out.mono ?_
          rintro e w5 ⟨rfl, hb5⟩
          have SP5 := Lib.hid (SP2.out.keep hb5)
          have RP5 := Lib.hid (RP2.out.keep hb5)
          have BX5 := Lib.hid (blk_keep BX2'.out hb5)
          have BE5 := Lib.hid (keep_trans BE2.out hb5)
          have hz5 := hb5.size
          clear hb5
          go_wp2_with fail
          refine (calls_any g _ _ S w5 SP5.out).mono ?_
          rintro e w6 ⟨rfl, rfl⟩
          go_wp2_with fail
          refine (left_any g _ _ S w5 SP5.out).mono ?_
          rintro e w6 ⟨rfl, rfl⟩
          obtain ⟨ab', nb', cb', ag', ng', cg', i, hbk, -, hbl, hib, hlf⟩ := RP5.out.blk
          obtain ⟨cc, hcc⟩ : ∃ c, (s.next m).calls = c := ⟨_, rfl⟩
          obtain ⟨ll, hll⟩ : ∃ c, (s.next m).left.length = c := ⟨_, rfl⟩
          have hcc2 : cc = k + 1 := by rw [← hcc]; show s.calls + 1 = _; omega
          rw [hcc] at hbk
          have z4 := cell_of hbk 4 (v := .int .i64 (cc : Nat)) rfl
          have z5 := cell_of hbk 5 (v := .int .i64 (i : Nat)) rfl
          have z0 := cell_of BX5.out 0 rfl
          have hli : ll = bs.length - i := by rw [← hll, hlf, List.length_drop]
          have r4 : IntKind.i64.wrap ((bs.length : Int) - (i : Int)) = (ll : Int) := by rw [IntWalk.i64_in _ (by omega)]; omega
          have u1 : ((gl : Int) != (gl : Int)) = false := by simp
          have u2 : ((er : Int) != (er : Int)) = false := by simp
          have u3 : ((cc : Int) != (cc : Int)) = false := by simp
          have u4 : ((ll : Int) != (ll : Int)) = false := by simp
          have FIN := Lib.hid (show SoSt w w5 g w1.heap.size gr S bs (k + 1) (s.next m) from ⟨SP5.out, RP5.out, by omega, BE5.out⟩)
          rw [hcc, hll]
          clear hbk hbl hlf hcc hll hcc2 hli hib
          go_wp2_with fail
          go_quiet (fail)
          go_wp2_with fail
          exact ⟨⟨k + 1, s.next m, by omega, by go_num, FIN.out.keep (keep_drewN (Below.refl _ _) _), BX5.out, by simp; omega⟩, by simp [intOf]; omega⟩
    · have hsc := ST.out.sc
      have hke : k = hs.length := by omega
      go_wp2_with fail
      refine (calls_any g _ s S wr ST.out.src).mono ?_
      rintro e w6 ⟨rfl, rfl⟩
      go_wp2_with fail
      refine (left_any g _ s S wr ST.out.src).mono ?_
      rintro e w6 ⟨rfl, rfl⟩
      obtain ⟨ab', nb', cb', ag', ng', cg', i, hbk, -, hbl, hib, hlf⟩ := ST.out.ref.blk
      obtain ⟨cc, hcc⟩ : ∃ c, s.calls = c := ⟨_, rfl⟩
      obtain ⟨ll, hll⟩ : ∃ c, s.left.length = c := ⟨_, rfl⟩
      have z5 := cell_of hbk 5 (v := .int .i64 (i : Nat)) rfl
      have z0 := cell_of BX4.out 0 rfl
      have hli : ll = bs.length - i := by rw [← hll, hlf, List.length_drop]
      have r4 : IntKind.i64.wrap ((bs.length : Int) - (i : Int)) = (ll : Int) := by rw [IntWalk.i64_in _ (by omega)]; omega
      have u1 : ((hs.length : Int) == (hs.length : Int)) = true := by simp
      have u4 : ((ll : Int) == (ll : Int)) = true := by simp
      rw [hll]
      clear hbk hbl hlf hcc hll hli hib hke hsc
      go_wp2_with fail
      go_quiet (fail)
      go_wp2_with fail
      go_ret
      exact ⟨rfl, keep_drewN ST.out.bel _⟩
end Go.Proofs.Ytjkgncogpefnbaa

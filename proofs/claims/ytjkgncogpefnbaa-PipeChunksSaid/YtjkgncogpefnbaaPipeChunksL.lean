/- Law PipeChunks: the walk. Conditions: numbers within reach. -/
import Derived.Test.YtjkgncogpefnbaaPipeChunksB
namespace Go.Proofs.Ytjkgncogpefnbaa
open Go.RowKit Go.Shelf
set_option linter.unusedVariables false
set_option linter.unusedSimpArgs false
attribute [local go_sem] Oper.semAt_some

set_option maxRecDepth 100000 in
set_option maxHeartbeats 4000000 in
theorem pipeChunks_walk (ab : Option Addr) (nb cb : Nat) (bs : List UInt8) (ag : Option Addr) (ng cg : Nat) (gs : List Int) (xf : Int) (eager : Bool) (size : Int) (al : Option Addr) (nl cl : Nat) (ls : List UInt8) (w : World)
    (hnb : nb ≤ 140737488351232) (hng : ng ≤ 17592186043904) (hnl : nl ≤ 140737488351232) (hI : Ints gs) (hB : Sl Bf w ab nb cb bs) (hG : Sl fZ w ag ng cg gs) (hL : Sl Bf w al nl cl ls) :
    Calls Try.prog 6 #[.agg #[.slice ab nb cb, .slice ag ng cg, .int .i64 xf, .bool eager], .int .i64 size, .slice al nl cl] w fun e w' => e = .returned (.bool true) ∧ Below w.heap.size w w' := by
  obtain rfl : bs.length = nb := hB.len
  obtain rfl : ls.length = nl := hL.len
  have HB := Lib.hid hB; have HG := Lib.hid hG; have HL := Lib.hid hL; have HI := Lib.hid hI
  clear hB hG hL hI
  refine (callsIn_wide (n := 4)).1 ?_
  refine callsIn_of_wp_marks Try.func6 rfl trivial ?_ rfl
  simp only [Try.ntmps6, List.size_toArray, List.length_cons, List.length_nil, Nat.reduceAdd, Nat.reduceSub, Array.replicate_succ, Array.replicate_zero, List.push_toArray, List.append_toArray, List.nil_append, List.cons_append]
  gi_wp2
  refine ⟨trivial, ?_⟩
  obtain ⟨fd, hfd⟩ : ∃ fd : Obj, fd = .cells #[.slice ab bs.length cb, .slice ag ng cg, .int .i64 xf, .bool eager] 26 := ⟨_, rfl⟩
  have b0 : Below w.heap.size w ((w.alloc fd).alloc (.cells #[.bool false] 4)) := ((Below.refl _ _).alloc (Nat.le_refl _) _).alloc (by simp) _
  have hA := allocs_get w [fd, .cells #[.bool false] 4]
  have B0 := Lib.hid b0
  have BX := Lib.hid (show ((w.alloc fd).alloc (.cells #[.bool false] 4)).heap[w.heap.size]? = some fd from hA.2.2 0 _ rfl)
  have B6 := Lib.hid (show Boxed ((w.alloc fd).alloc (.cells #[.bool false] 4)) (w.heap.size + 1) 4 (.bool false) from hA.2.2 1 _ rfl)
  have hz1 : ((w.alloc fd).alloc (.cells #[.bool false] 4)).heap.size = w.heap.size + 2 := by simp
  subst hfd
  clear hA b0
  generalize (w.alloc (.cells #[.slice ab bs.length cb, .slice ag ng cg, .int .i64 xf, .bool eager] 26)).alloc (.cells #[.bool false] 4) = w1 at *
  obtain ⟨g3, hg3⟩ : ∃ g, w.heap.size = g := ⟨_, rfl⟩
  have HW3 := Lib.hid hg3
  rw [hg3] at BX B6 hz1 ⊢
  clear hg3
  refine (callsIn_wide.2 (lives_any _)).mono ?_
  rintro e w2 ⟨rfl, hb⟩
  replace B0 := Lib.hid (keep_trans B0.out hb)
  replace BX := Lib.hid (blk_keep BX.out hb)
  replace B6 := Lib.hid (show Boxed w2 (g3 + 1) 4 (.bool false) from blk_keep B6.out hb)
  have hz2 := hb.size
  have d0 := cell_of BX.out 0 rfl
  have d1 := cell_of BX.out 1 rfl
  have d2 := cell_of BX.out 2 rfl
  have d3 := cell_of BX.out 3 rfl
  clear hb
  gi_wp2
  refine ⟨trivial, ?_⟩
  refine (callsIn_wide.2 (source_any ab bs.length cb bs ag ng cg gs xf eager w2 hnb hng HI.out (HB.out.keep B0.out) (HG.out.keep B0.out))).mono ?_
  rintro e w3 ⟨g, S, gr, rfl, hs3, hr3, hSr, hgr, hb⟩
  have hz3 : w2.heap.size ≤ w3.heap.size := hb.size
  have hgrl : gr < w3.heap.size := (Array.getElem?_eq_some_iff.1 hr3).1
  have B3 := Lib.hid (keep_trans B0.out hb)
  have B63 := Lib.hid (show Boxed w3 (g3 + 1) 4 (.bool false) from blk_keep B6.out hb)
  have SP3 := Lib.hid hs3
  have NSR := Lib.hid hSr
  have RP3 := Lib.hid (show StR gr w2.heap.size bs ⟨gs, xf, 0, bs, eager⟩ (fun j => j = gr) w3 from
    ⟨fun j => Iff.rfl, ⟨⟨ab, bs.length, cb, ag, ng, cg, 0, hr3, ⟨_, _, _, rfl, HG.out.keep B3.out, fun b o e hn => have h : b < w.heap.size := (by subst e; exact HG.out.blt hn); ⟨.inl (by have := HW3.out; omega), by have := HW3.out; omega⟩⟩, ⟨_, _, _, rfl, HB.out.keep B3.out, fun b o e hn => have h : b < w.heap.size := (by subst e; exact HB.out.blt hn); ⟨.inl (by have := HW3.out; omega), by have := HW3.out; omega⟩⟩, Nat.zero_le _, rfl⟩, .inr rfl, fun j hj => by rcases hj with h | h <;> omega, HI.out⟩, hgr⟩)
  clear hs3 hr3 hSr hb d0 d1 d2 d3 BX B6 B0
  gi_wp2
  refine wpIn_loop_ghost_k (fun f a' W => ∃ (k : Nat) (u11 u12 u13 u14 u15 u16 u17 u30 u31 u32 u33 u34 u35 u36 u37 u38 u39 u40 u41 u42 u43 u44 u45 u46 u47 u48 u49 u50 u51 u52 u53 u54 u55 u56 u57 u58 u59 u60 u61 u62 u63 u64 u65 u66 u67 u68 u69 u70 u71 u72 u73 u74 u75 u76 u77 u78 u79 u80 u81 u82 u83 u84 u85 u86 u87 u88 u89 u90 u91 u92 u93 u94 u95 u96 u97 u98 : Value) (s : Src) (S : Nat → Prop) (ds : List Deferred), a' = ({ tmps := #[.agg #[.slice ab bs.length cb, .slice ag ng cg, .int .i64 xf, .bool eager], .int .i64 size, .slice al ls.length cl, .pointer (some ⟨g3, 0, none⟩), undef, undef, .pointer (some ⟨g3 + 1, 0, none⟩), .bool true, .pointer (some ⟨g, 0, none⟩), .pointer (some ⟨gr, 0, none⟩), .int .i64 (k : Nat), u11, u12, u13, u14, u15, u16, u17, .bool true, .tuple #[.pointer (some ⟨g, 0, none⟩), .pointer (some ⟨gr, 0, none⟩)], .agg #[.slice ab bs.length cb, .slice ag ng cg, .int .i64 xf, .bool eager], .tuple #[.pointer (some ⟨g, 0, none⟩), .pointer (some ⟨gr, 0, none⟩)], .pointer (some ⟨g, 0, none⟩), .pointer (some ⟨gr, 0, none⟩), .bool true, .bool false, .bool false, .pointer (some ⟨g, 0, none⟩), .bool false, .bool false, u30, u31, u32, u33, u34, u35, u36, u37, u38, u39, u40, u41, u42, u43, u44, u45, u46, u47, u48, u49, u50, u51, u52, u53, u54, u55, u56, u57, u58, u59, u60, u61, u62, u63, u64, u65, u66, u67, u68, u69, u70, u71, u72, u73, u74, u75, u76, u77, u78, u79, u80, u81, u82, u83, u84, u85, u86, u87, u88, u89, u90, u91, u92, u93, u94, u95, u96, u97, u98], defers := ds } : Act) ∧ f + k = ls.length + 2 ∧ k ≤ ls.length + 1 ∧ SrcP g w2.heap.size s S W ∧ StR gr w2.heap.size bs s (fun j => j = gr) W ∧ ¬ S gr ∧ Boxed W (g3 + 1) 4 (.bool false) ∧ Marks w.heap.size (fun j => S j ∨ j = gr) ds W ∧ Below w.heap.size w W ∧ s.calls + s.left.length * 17 ≤ bs.length * 17 + 17 * k ∧ s.left.length ≤ bs.length) (ls.length + 2) ?_ ?_
  · exact ⟨0, _, _, _, _, _, _, _, _, _, _, _, _, _, _, _, _, _, _, _, _, _, _, _, _, _, _, _, _, _, _, _, _, _, _, _, _, _, _, _, _, _, _, _, _, _, _, _, _, _, _, _, _, _, _, _, _, _, _, _, _, _, _, _, _, _, _, _, _, _, _, _, _, _, _, _, _, _, S, [], rfl, by omega, by omega, SP3.out, RP3.out, NSR.out, B63.out, .nil _ _ _, B3.out, by simp, Nat.le_refl _⟩
  · clear SP3 RP3 NSR B63 B3
    intro f a' W hinv JJ KK hJ hK
    obtain ⟨k, hinv⟩ := hinv
    obtain ⟨u11, hinv⟩ := hinv
    obtain ⟨u12, hinv⟩ := hinv
    obtain ⟨u13, hinv⟩ := hinv
    obtain ⟨u14, hinv⟩ := hinv
    obtain ⟨u15, hinv⟩ := hinv
    obtain ⟨u16, hinv⟩ := hinv
    obtain ⟨u17, hinv⟩ := hinv
    obtain ⟨u30, hinv⟩ := hinv
    obtain ⟨u31, hinv⟩ := hinv
    obtain ⟨u32, hinv⟩ := hinv
    obtain ⟨u33, hinv⟩ := hinv
    obtain ⟨u34, hinv⟩ := hinv
    obtain ⟨u35, hinv⟩ := hinv
    obtain ⟨u36, hinv⟩ := hinv
    obtain ⟨u37, hinv⟩ := hinv
    obtain ⟨u38, hinv⟩ := hinv
    obtain ⟨u39, hinv⟩ := hinv
    obtain ⟨u40, hinv⟩ := hinv
    obtain ⟨u41, hinv⟩ := hinv
    obtain ⟨u42, hinv⟩ := hinv
    obtain ⟨u43, hinv⟩ := hinv
    obtain ⟨u44, hinv⟩ := hinv
    obtain ⟨u45, hinv⟩ := hinv
    obtain ⟨u46, hinv⟩ := hinv
    obtain ⟨u47, hinv⟩ := hinv
    obtain ⟨u48, hinv⟩ := hinv
    obtain ⟨u49, hinv⟩ := hinv
    obtain ⟨u50, hinv⟩ := hinv
    obtain ⟨u51, hinv⟩ := hinv
    obtain ⟨u52, hinv⟩ := hinv
    obtain ⟨u53, hinv⟩ := hinv
    obtain ⟨u54, hinv⟩ := hinv
    obtain ⟨u55, hinv⟩ := hinv
    obtain ⟨u56, hinv⟩ := hinv
    obtain ⟨u57, hinv⟩ := hinv
    obtain ⟨u58, hinv⟩ := hinv
    obtain ⟨u59, hinv⟩ := hinv
    obtain ⟨u60, hinv⟩ := hinv
    obtain ⟨u61, hinv⟩ := hinv
    obtain ⟨u62, hinv⟩ := hinv
    obtain ⟨u63, hinv⟩ := hinv
    obtain ⟨u64, hinv⟩ := hinv
    obtain ⟨u65, hinv⟩ := hinv
    obtain ⟨u66, hinv⟩ := hinv
    obtain ⟨u67, hinv⟩ := hinv
    obtain ⟨u68, hinv⟩ := hinv
    obtain ⟨u69, hinv⟩ := hinv
    obtain ⟨u70, hinv⟩ := hinv
    obtain ⟨u71, hinv⟩ := hinv
    obtain ⟨u72, hinv⟩ := hinv
    obtain ⟨u73, hinv⟩ := hinv
    obtain ⟨u74, hinv⟩ := hinv
    obtain ⟨u75, hinv⟩ := hinv
    obtain ⟨u76, hinv⟩ := hinv
    obtain ⟨u77, hinv⟩ := hinv
    obtain ⟨u78, hinv⟩ := hinv
    obtain ⟨u79, hinv⟩ := hinv
    obtain ⟨u80, hinv⟩ := hinv
    obtain ⟨u81, hinv⟩ := hinv
    obtain ⟨u82, hinv⟩ := hinv
    obtain ⟨u83, hinv⟩ := hinv
    obtain ⟨u84, hinv⟩ := hinv
    obtain ⟨u85, hinv⟩ := hinv
    obtain ⟨u86, hinv⟩ := hinv
    obtain ⟨u87, hinv⟩ := hinv
    obtain ⟨u88, hinv⟩ := hinv
    obtain ⟨u89, hinv⟩ := hinv
    obtain ⟨u90, hinv⟩ := hinv
    obtain ⟨u91, hinv⟩ := hinv
    obtain ⟨u92, hinv⟩ := hinv
    obtain ⟨u93, hinv⟩ := hinv
    obtain ⟨u94, hinv⟩ := hinv
    obtain ⟨u95, hinv⟩ := hinv
    obtain ⟨u96, hinv⟩ := hinv
    obtain ⟨u97, hinv⟩ := hinv
    obtain ⟨u98, hinv⟩ := hinv
    obtain ⟨s, S, ds, ha, hfk, hk1, hsp, hrp, hns, hb6, hmk, hbe, hcl, hlf⟩ := hinv
    subst ha
    have SP := Lib.hid hsp; have RP := Lib.hid hrp; have NS := Lib.hid hns; have B6 := Lib.hid hb6; have MK := Lib.hid hmk; have BE := Lib.hid hbe
    have HJ := Lib.hid hJ
    have HK := Lib.hid hK
    clear hsp hrp hns hb6 hmk hbe hJ hK
    have hwl : w2.heap.size ≤ W.heap.size := Nat.le_trans (SP.out.inS g SP.out.own).1 (Nat.le_of_lt (SP.out.inS g SP.out.own).2)
    have hgW : gr < W.heap.size := ((rsrcL gr w2.heap.size bs hnb).inS _ _ _ RP.out gr rfl).2
    by_cases hkl : k ≤ ls.length
    · have t0 : decide ((k : Int) ≤ (ls.length : Int)) = true := decide_eq_true (by omega)
      have t0' : decide (k ≤ ls.length) = true := decide_eq_true hkl
      rcases Nat.lt_or_ge k ls.length with hlt | hge
      case' inl =>
        have t1 : decide ((k : Int) < (ls.length : Int)) = true := decide_eq_true (by omega)
        have t1' : decide (k < ls.length) = true := decide_eq_true hlt
        have BA := Lib.hid ((Below.refl W.heap.size W).alloc (Nat.le_refl _) (.cells #[.int .i64 2147483648] 3))
        have X11 := Lib.hid (show Boxed (W.alloc (.cells #[.int .i64 2147483648] 3)) W.heap.size 3 (.int .i64 2147483648) from heap_new W _)
        obtain ⟨y, yb, yo, hy, rfl, hyc⟩ := (HL.out.keep (keep_trans BE.out BA.out)).at k hlt
        have hyc : (W.alloc (.cells #[.int .i64 2147483648] 3)).cell? ⟨yb, yo + k, none⟩ = some (.int .u8 (B y)) := hyc
        have c11 := cell_of X11.out 0 rfl
        have f11 := free_block X11.out 0
        gi_wp2
        rw [wrap64_byte y]
        have hl0 : 0 < 1 + y.toNat := by omega
        have hl1 : 1 + y.toNat ≤ 2147483648 := by have := y.toNat_lt; omega
        generalize 1 + y.toNat = lim at *
        clear t1 t1' BA X11 hyc c11 f11 hy
      case' inr =>
        have t1 : decide ((k : Int) < (ls.length : Int)) = false := decide_eq_false (by omega)
        have t1' : decide (k < ls.length) = false := decide_eq_false (by omega)
        have X11 := Lib.hid (show Boxed (W.alloc (.cells #[.int .i64 2147483648] 3)) W.heap.size 3 (.int .i64 2147483648) from heap_new W _)
        have c11 := cell_of X11.out 0 rfl
        gi_wp2
        obtain ⟨lim, hlm⟩ : ∃ lim : Nat, 2147483648 = lim := ⟨_, rfl⟩
        have hl0 : 0 < lim := by omega
        have hl1 : lim ≤ 2147483648 := by omega
        rw [show (2147483648 : Int) = (lim : Int) by omega]
        clear t1 t1' X11 c11 hlm
      all_goals
        have BA := (Below.refl W.heap.size W).alloc (Nat.le_refl _) (.cells #[.int .i64 (lim : Nat)] 3)
        have X11 := Lib.hid (show Boxed (W.alloc (.cells #[.int .i64 (lim : Nat)] 3)) W.heap.size 3 (.int .i64 (lim : Nat)) from heap_new W _)
        have hza : (W.alloc (.cells #[.int .i64 (lim : Nat)] 3)).heap.size = W.heap.size + 1 := by simp
        have RP1 := Lib.hid ((rsrcL gr w2.heap.size bs hnb).frame _ _ (fun _ => False) _ _ RP.out (.of_below BA) (fun _ _ e => e) (fun _ e => e.elim))
        have T1 := Lib.hid (Turns.of_below (S := fun j => j = gr) BA)
        generalize W.alloc (.cells #[.int .i64 (lim : Nat)] 3) = W1 at *
        clear BA
        obtain ⟨b, hb⟩ : ∃ b, W.heap.size = b := ⟨_, rfl⟩
        have HBB := Lib.hid hb
        rw [hb] at X11 hza hwl hgW ⊢
        clear hb
        refine ⟨trivial, ?_⟩
        refine (callsIn_wide.2 (rchunksI_any gr w2.heap.size bs hnb s size lim W1 hl1 (by omega) RP1.out (by omega))).mono ?_
        have hgw := chkI_grow size s lim
        obtain ⟨⟨L, sf⟩, hX⟩ : ∃ X, chkI srcM size s lim = X := ⟨_, rfl⟩
        rw [hX] at hgw ⊢
        have HX := Lib.hid hX
        obtain ⟨hg1, hg2⟩ := hgw
        replace hg1 : sf.left.length ≤ s.left.length := hg1
        replace hg2 : sf.calls + sf.left.length * 17 ≤ s.calls + s.left.length * 17 + 17 := hg2
        clear hX
        rintro e W2 ⟨v, rfl, hch, hrp2, hT2⟩
        have CH2 := Lib.hid (show ChL W2 (b + 1) (fun j => j = gr) v L from hza ▸ hch)
        have RP2 := Lib.hid (show StR gr w2.heap.size bs sf (fun j => j = gr) W2 from hrp2)
        have T2 := Lib.hid (T1.out.trans hT2 fun _ _ e => e)
        have X112 := Lib.hid (boxed_turns X11.out hT2 (show b ≠ gr by omega))
        have hz12 : b + 1 ≤ W2.heap.size := by have := hT2.size; omega
        obtain ⟨av, cv, hv⟩ := hch.slice
        subst hv
        clear hch hrp2 hT2 X11 RP1 T1 RP
        gi_wp2
        refine ⟨trivial, ?_⟩
        refine (callsIn_wide.2 (chunks_any _ _ _ _)).mono ?_
        rintro e W3 ⟨rfl, rfl⟩
        gi_wp2
        have hA := allocs_get W2 [.cells #[.slice av L.length cv] 52, .cells #[.int .i64 0] 3, .cells #[.iface 27 (.pointer (some ⟨g, 0, none⟩))] 78, .cells #[.int .i64 size] 3]
        obtain ⟨hz3a, hb3a, hget⟩ := hA
        obtain ⟨B, hBB⟩ : ∃ B, W2.heap.size = B := ⟨_, rfl⟩
        rw [hBB] at hz3a hb3a hget hz12 ⊢
        have X12 := Lib.hid (show Boxed _ B 52 (.slice av L.length cv) from hget 0 _ rfl)
        have X13 := Lib.hid (show Boxed _ (B + 1) 3 (.int .i64 ((0 : Nat) : Int)) from hget 1 _ rfl)
        have X14 := Lib.hid (show Boxed _ (B + 2) 78 (.iface 27 (.pointer (some ⟨g, 0, none⟩))) from hget 2 _ rfl)
        have X15 := Lib.hid (show Boxed _ (B + 3) 3 (.int .i64 size) from hget 3 _ rfl)
        have B23 := Lib.hid (show Below W2.heap.size W2 _ from hBB.symm ▸ hb3a)
        have ZZ2 := Lib.hid hBB
        clear hb3a hget hBB
        simp only [List.foldl] at hz3a X12 X13 X14 X15 B23
        replace hz3a := show _ = B + 4 from hz3a
        generalize (((W2.alloc (.cells #[.slice av L.length cv] 52)).alloc (.cells #[.int .i64 0] 3)).alloc (.cells #[.iface 27 (.pointer (some ⟨g, 0, none⟩))] 78)).alloc (.cells #[.int .i64 size] 3) = W3 at *
        refine range_cut (fun ds' W' => ∃ S', SrcP g w2.heap.size sf S' W' ∧ ∃ rc, PcM w (g3 + 1) gr w2.heap.size b B bs ds' (.slice av L.length cv) L lim sf rc S' L.length W') ?_ ?_
        · rintro ds' W9 ⟨S', hst, rc, hp⟩
          have ST := Lib.hid hst
          have PM := Lib.hid hp
          have c13 := cell_of hp.b13 0 rfl
          have c12 := cell_of hp.b12 0 rfl
          obtain ⟨ab', nb', cb', ag', ng', cg', i', hbr, -⟩ := hp.rp.2.1.blk
          obtain ⟨cc, hcc⟩ : ∃ c, sf.calls = c := ⟨_, rfl⟩
          rw [hcc] at hbr
          have y4 := cell_of hbr 4 (v := .int .i64 (cc : Nat)) rfl
          have HCC := Lib.hid hcc
          have u1 : ((L.length : Int) != (L.length : Int)) = false := by simp
          have u3 : ((cc : Int) != (cc : Int)) = false := by simp
          have r2 : IntKind.i64.wrap ((k : Int) + 1) = (k : Int) + 1 := IntWalk.i64_in _ (by omega)
          clear hst hp hbr hcc X12 X13 X14 X15 B23 SP MK BE B6 X112 T2 RP2 CH2 NS t0 t0'
          gi_wp2
          refine ⟨trivial, ?_⟩
          refine (callsIn_wide.2 (calls_any g _ sf S' W9 ST.out)).mono ?_
          rintro e W10 ⟨rfl, rfl⟩
          rw [HCC.out]
          gi_wp2
          refine HK.out _ _ ⟨f - 1, by omega, HJ.out _ _ _ ⟨k + 1, _, _, _, _, _, _, _, _, _, _, _, _, _, _, _, _, _, _, _, _, _, _, _, _, _, _, _, _, _, _, _, _, _, _, _, _, _, _, _, _, _, _, _, _, _, _, _, _, _, _, _, _, _, _, _, _, _, _, _, _, _, _, _, _, _, _, _, _, _, _, _, _, _, _, _, _, sf, S', ds', rfl, by omega, by omega, ST.out, PM.out.rp, PM.out.dis, PM.out.b6, PM.out.mks.turns (T2 := fun _ => False) (.refl _ _) (fun _ e => e.elim) (fun j e => .inl (e.elim .inl (fun q => .inr (.inl q)))), PM.out.bel, by omega, by omega⟩⟩
        · intro JR hJR
          have HJR := Lib.hid hJR
          clear hJR
          refine range_outer rfl (by omega) (gf := 34) (lb := #[.pointer (some ⟨B + 2, 0, none⟩), .pointer (some ⟨B + 3, 0, none⟩)]) rfl trivial (enters_of Try.func34 (by kernel_rfl) rfl) ?_
          intro fn hfn
          rw [hz3a]
          generalize hrc : lrec fn _ _ _ _ (B + 4) = rc
          have e1 : (W3.alloc (.deferred (some []))).heap.size = B + 5 := by simp [hz3a]
          have e2 : ((W3.alloc (.deferred (some []))).alloc (rc .ready none)).heap.size = B + 6 := by simp [hz3a]
          have k1 : Below W3.heap.size W3 ((W3.alloc (.deferred (some []))).alloc (rc .ready none)) := ((Below.refl _ _).alloc (Nat.le_refl _) _).alloc (by simp) _
          have d1 : ((W3.alloc (.deferred (some []))).alloc (rc .ready none)).heap[B + 5]? = some (rc .ready none) := by rw [← e1]; exact heap_new _ _
          have d2 : ((W3.alloc (.deferred (some []))).alloc (rc .ready none)).heap[B + 4]? = some (.deferred (some [])) := by
            rw [← hz3a]
            exact (Below.heap_alloc _ _ _ (by simp)).trans (heap_new _ _)
          generalize (W3.alloc (.deferred (some []))).alloc (rc .ready none) = W4 at *
          have B24 := B23.out.trans (k1.mono (by have := ZZ2.out; omega))
          have T4 := T2.out.trans (Turns.of_below (S := fun j => j = gr) B24) fun _ _ e => e
          have lS : ∀ j, S j → w2.heap.size ≤ j ∧ j < b := fun j hj => ⟨(SP.out.inS j hj).1, by have := (SP.out.inS j hj).2; have := HBB.out; omega⟩
          have hw26 : w.heap.size ≤ g3 + 1 ∧ g3 + 1 < w2.heap.size := by have := HW3.out; omega
          have PC0 := Lib.hid (show PcM w (g3 + 1) gr w2.heap.size b B bs ({ target := .collected (B + 4), args := #[] } :: ds) (.slice av L.length cv) L lim sf (rc .ready none) S 0 W4 from
            { b11 := (B24.block b (by have := ZZ2.out; omega)).trans X112.out, b12 := (k1.block B (by omega)).trans X12.out, b13 := (k1.block (B + 1) (by omega)).trans X13.out, b6 := boxed_turns B6.out T4 (by omega), rcd := d1
              ch := CH2.out.turns (T := fun _ => False) (.of_below B24) (fun _ e => e.elim) (fun j e => by rcases e with e | e | e; (exact .inr (.inl (by have := lS j e; omega))); (exact .inl e); (exact .inr (.inr (by have := ZZ2.out; omega))))
              rp := (rsrcL gr w2.heap.size bs hnb).frame _ _ (fun _ => False) _ _ RP2.out (.of_below B24) (fun _ _ e => e) (fun _ e => e.elim)
              sO := fun j hj => .inl (lS j hj), dis := NS.out
              mks := (MK.out.turns T4 (fun j e => .inl (.inr e)) (T' := fun j => S j ∨ j = gr ∨ j = B + 1 ∨ B + 5 ≤ j) (fun j e => by rcases e with e | e | e | e; (exact .inl (.inl e)); (exact .inl (.inr e)); (exact .inr (.inr (by have := HBB.out; omega))); (exact .inr (.inr (by have := HBB.out; omega))))).more
                (B := b) (fun d hd D' e => by have := MK.out.lt d hd D' e; have := HBB.out; omega) (by omega) (by omega) (fun e => by rcases e with e | e | e | e; (have := lS _ e; omega); (omega); (omega); (omega)) d2
              bel := T4.below BE.out BE.out.size fun j e => by omega
              ord := ⟨hw26.1, hw26.2, hgr, hgW, by omega⟩ })
          have ST0 := Lib.hid (SP.out.turns T4 fun j hj e => NS.out (e ▸ hj))
          have BR4 := Lib.hid (show Boxed W4 (B + 2) 78 (.iface 27 (.pointer (some ⟨g, 0, none⟩))) from (k1.block (B + 2) (by omega)).trans X14.out)
          have BS4 := Lib.hid (show Boxed W4 (B + 3) 3 (.int .i64 size) from (k1.block (B + 3) (by omega)).trans X15.out)
          have LS := Lib.hid lS
          clear SP MK BE B6 X112 X12 X13 X14 X15 B23 T2 T4 B24 d1 d2 k1 lS RP2 CH2 e1 NS
          refine (iter_any (srcR g w2.heap.size) 27 (methR g) (enters_of Try.func16 (by kernel_rfl) rfl) (B + 5) (B + 2) (B + 3) size W4 BR4.out BS4.out s S ST0.out (fun e => by have := LS.out _ e; omega) (fun e => by have := LS.out _ e; omega) (show s.calls + (s.left.length * 17 + 17) < 4611686018427387904 by omega) lim hl0 L sf HX.out
            (fun S' kk W' => PcM w (g3 + 1) gr w2.heap.size b B bs ({ target := .collected (B + 4), args := #[] } :: ds) (.slice av L.length cv) L lim sf (rc .ready none) S' kk W')
            (fun s' S' kk W' => PcM w (g3 + 1) gr w2.heap.size b B bs ({ target := .collected (B + 4), args := #[] } :: ds) (.slice av L.length cv) L lim sf (rc .done (some (.exit 2))) S' kk W' ∧ SrcP g w2.heap.size s' S' W') ?_ ?_ PC0.out).mono ?_
          · intro S1 S2 T kk Wa Wb hp hz ht hT hS
            have nT : ∀ o, o ≤ 5 → ¬ T (B + o) := fun o ho e => by
              rcases hT _ e with q | q
              · rcases hp.sO _ q with r | r <;> omega
              · omega
            exact hp.turn hnb ht (fun j e => by rcases hT j e with q | q; (exact .inl q); (exact .inr (.inr (by omega)))) hS (by omega) (boxed_turns hp.b13 ht (nT 1 (by omega))) (ht.heap hp.rcd (nT 5 (by omega)))
          · intro ap n xs e Wa S1 s1 kk hp hz hst hsl hsoft hn hap hLk hkl2
            have hsx : ∀ j, S1 j → w2.heap.size ≤ j ∧ j < b ∨ B + 6 ≤ j := hp.sO
            have hz6 : B + 6 ≤ Wa.heap.size := by omega
            have hapb : ∀ j, ap.map (·.block) = some j → B + 6 < j ∧ j < Wa.heap.size ∧ ¬ S1 j := fun j e => by
              rcases hap with rfl | ⟨b1, rfl, q1, q2, q3⟩
              · cases e
              · obtain rfl : b1 = j := Option.some.inj e
                exact ⟨by omega, q2, q3⟩
            have M5 := Lib.hid (hp.put hnb hz6 (rc .busy none))
            have TP := turns_put (w := Wa) (g := B + 5) (rc .busy none)
            have ST5 := Lib.hid ((srcR g w2.heap.size).frame _ _ _ _ _ hst TP fun j hj e => by rcases hsx j hj with r | r <;> omega)
            have SL5 := Lib.hid (hsl.turns TP fun b1 o e hn0 e2 => by
              rcases hap with rfl | ⟨b2, rfl, q1, q2, q3⟩
              · cases e
              · injection e with e; injection e with e; omega)
            have SF5 := Lib.hid (hsoft.turns TP fun b1 o e e2 => by
              rcases hap with rfl | ⟨b2, rfl, q1, q2, q3⟩
              · cases e
              · injection e with e; injection e with e; omega)
            have T5 := Lib.hid (TP.mono (T := fun j => j = B + 5 ∨ j = B + 1 ∨ ap.map (·.block) = some j) fun j _ e => .inl e)
            have HSX := Lib.hid hsx
            have HAPB := Lib.hid hapb
            have HLK := Lib.hid hLk
            have hkL : kk < L.length := (List.getElem?_eq_some_iff.1 hLk).1
            have HRD := Lib.hid hp.rcd
            have hze : (Wa.putObj (B + 5) (rc .busy none)).heap.size = Wa.heap.size := by simp
            clear hp hst hsl hsoft hap hLk hsx hapb TP PC0 BR4 BS4 ST0
            refine round_at2 (D := B + 4) (fn := fn) trivial (by rw [hrc]; exact HRD.out) rfl ?_
            rw [hrc]
            intro K9 hK9
            have KK9 := Lib.hid hK9
            clear hK9
            gi_wp2
            refine KK9.out _ _ HRD.out ?_
            clear KK9
            change Code.wpIn _ _ _ _ _ _ (Wa.putObj (B + 5) (rc .busy none))
            generalize Wa.putObj (B + 5) (rc .busy none) = W5 at *
            have c13 := cell_of M5.out.b13 0 rfl
            have c12 := cell_of M5.out.b12 0 rfl
            obtain ⟨b', o', ax, nx, cx, hav, hc0, hc1, hsx⟩ := M5.out.ch.at HLK.out
            subst hav
            have hnx : nx = n := by have := hsx.len; have := SL5.out.len; omega
            subst hnx
            have t1 : decide ((kk : Int) ≥ (L.length : Int)) = false := decide_eq_false (by omega)
            have t1' : decide (L.length ≤ kk) = false := decide_eq_false (by omega)
            have SM := Lib.hid (show Calls Try.prog 17 #[.slice ap nx nx, .slice ax nx cx] W5 (fun e w' => e = .returned (.bool true) ∧ Below W5.heap.size W5 w') from by have := same_any ap nx nx xs ax nx cx xs W5 (by omega) (by omega) SL5.out hsx; rwa [decide_eq_true rfl] at this)
            clear hsx hc1
            gi_wp2
            refine ⟨trivial, ?_⟩
            refine (CallsIn.inRound _ (callsIn_wide.2 SM.out)).mono ?_
            rintro e6 W6 ⟨rfl, hb6⟩
            have M6 := Lib.hid (M5.out.keep hnb (by omega) hb6)
            have ST6 := Lib.hid ((srcR g w2.heap.size).frame _ _ (fun _ => False) _ _ ST5.out (.of_below hb6) fun _ _ e => e)
            have SF6 := Lib.hid (SF5.out.turns (T := fun _ => False) (.of_below hb6) fun _ _ _ e => e)
            have T6 := Lib.hid (T5.out.trans_below hb6)
            have hz66 := hb6.size
            clear hb6 M5 ST5 SF5 SL5 T5 SM c13 c12 hc0
            gi_wp2
            refine ⟨trivial, ?_⟩
            refine (CallsIn.inRound _ (callsIn_wide.2 (spoil_any ap nx nx W6 (by omega) SF6.out))).mono ?_
            rintro e7 W7 ⟨rfl, hg7⟩
            have T67 := Turns.of_grown (S := fun j => ap.map (·.block) = some j) hg7 fun j e => e
            have M7 := Lib.hid (M6.out.turn hnb T67 (fun j e => .inr (.inr (by have := HAPB.out j e; omega))) (fun j e => .inl e) (by omega) (boxed_turns M6.out.b13 T67 (fun e => by have := HAPB.out _ e; omega)) (T67.heap M6.out.rcd (fun e => by have := HAPB.out _ e; omega)))
            have ST7 := Lib.hid ((srcR g w2.heap.size).frame _ _ _ _ _ ST6.out T67 fun j hj e => (HAPB.out j e).2.2 hj)
            have T7 := Lib.hid (T6.out.trans T67 fun j _ e => .inr (.inr e))
            have hz7 := T67.size
            clear hg7 T67 M6 ST6 SF6 T6
            obtain ⟨b2, o2, ax2, nx2, cx2, hav, -, hc1, -⟩ := M7.out.ch.at HLK.out
            injection hav with hav
            injection hav with hav1 hav2
            subst hav1 hav2
            have c13 := cell_of M7.out.b13 0 rfl
            have c12 := cell_of M7.out.b12 0 rfl
            have f13 := free_block M7.out.b13 0
            have r1 : IntKind.i64.wrap ((kk : Int) + 1) = (kk : Int) + 1 := IntWalk.i64_in _ (by omega)
            have t2 : (e != e) = false := by simp
            have M8 := Lib.hid (show PcM w (g3 + 1) gr w2.heap.size b B bs ({ target := .collected (B + 4), args := #[] } :: ds) (.slice (some ⟨b', o', none⟩) L.length cv) L lim sf (rc .busy none) S1 (kk + 1) (W7.setCell ⟨B + 1, 0, none⟩ (.int .i64 ((kk : Int) + 1))) from M7.out.cnt hnb (by omega) (kk + 1))
            have T78 := Turns.set (S := fun j => j = B + 1) W7 (b := B + 1) (i := 0) rfl (.int .i64 ((kk : Int) + 1))
            have ST8 := Lib.hid ((srcR g w2.heap.size).frame _ _ _ _ _ ST7.out T78 fun j hj e => by rcases HSX.out j hj with r | r <;> omega)
            have T8 := Lib.hid (T7.out.trans T78 fun j _ e => .inr (.inl e))
            have d13 : (W7.setCell ⟨B + 1, 0, none⟩ (.int .i64 ((kk : Int) + 1))).cell? ⟨B + 1, 0, none⟩ = some (.int .i64 ((kk : Int) + 1)) := cell_of M8.out.b13 0 rfl
            have d11 : (W7.setCell ⟨B + 1, 0, none⟩ (.int .i64 ((kk : Int) + 1))).cell? ⟨b, 0, none⟩ = some (.int .i64 (lim : Nat)) := cell_of M8.out.b11 0 rfl
            have hz8 : (W7.setCell ⟨B + 1, 0, none⟩ (.int .i64 ((kk : Int) + 1))).heap.size = W7.heap.size := by simp
            have HH := Lib.hid hkl2
            clear M7 ST7 T7 T78
            by_cases hend : kk + 1 = lim
            · have u4 : ((kk : Int) + 1 == (lim : Int)) = true := by rw [beq_iff_eq]; omega
              have u4' : (kk + 1 == lim) = true := by rw [beq_iff_eq]; exact hend
              have HE := Lib.hid hend
              clear hend hkl2
              gi_wp2
              refine ⟨M8.out.rcd, ?_⟩
              exact .inr ⟨rfl, HE.out, M8.out.put hnb (by omega) _, (srcR g w2.heap.size).frame _ _ _ _ _ ST8.out (turns_put _) fun j hj e => by rcases HSX.out j hj with r | r <;> omega⟩
            · have u4 : ((kk : Int) + 1 == (lim : Int)) = false := by rw [beq_eq_false_iff_ne]; omega
              have u4' : (kk + 1 == lim) = false := by rw [beq_eq_false_iff_ne]; exact hend
              have HE := Lib.hid hend
              clear hend hkl2
              gi_wp2
              refine ⟨M8.out.rcd, ?_⟩
              have T9 := T8.out.trans (T := fun j => j = B + 5) (turns_put (w := W7.setCell ⟨B + 1, 0, none⟩ (.int .i64 ((kk : Int) + 1))) (g := B + 5) (rc .ready none)) fun j _ e => .inl e
              exact .inl ⟨rfl, HE.out, M8.out.put hnb (by omega) _, (srcR g w2.heap.size).frame _ _ _ _ _ ST8.out (turns_put _) fun j hj e => by rcases HSX.out j hj with r | r <;> omega, fun hgwl j hj => T9.block j (by omega) (fun e => by
                rcases e with e | e | e
                · omega
                · omega
                · have := HAPB.out j e; omega), T9.size⟩
          · have PUT := fun (rc' : Obj) (W : World) (S' : Nat → Prop) (hp : ∀ j, S' j → j < b ∨ B + 6 ≤ j) (h : SrcP g w2.heap.size sf S' W) => h.turns (turns_put (w := W) (g := B + 5) rc') fun j hj e => by have := hp j hj; have := LS.out; omega
            rintro e W ⟨hv, (⟨S', hp, hst⟩ | ⟨S', hp, hst⟩)⟩
            · have hz : B + 6 ≤ W.heap.size := (Array.getElem?_eq_some_iff.1 hp.rcd).1
              exact ⟨hv, .inl ⟨hp.rcd, .inl rfl, rfl, HJR.out _ _ ⟨S', PUT _ _ _ (fun j hj => by rcases hp.sO j hj with r | r; (exact .inl r.2); (exact .inr r)) hst, _, hp.put hnb hz _⟩⟩⟩
            · have hz : B + 6 ≤ W.heap.size := (Array.getElem?_eq_some_iff.1 hp.rcd).1
              exact ⟨hv, .inr ⟨.exit 2, hp.rcd, wpIn_exit ⟨.inr rfl, rfl, HJR.out _ _ ⟨S', PUT _ _ _ (fun j hj => by rcases hp.sO j hj with r | r; (exact .inl r.2); (exact .inr r)) hst, _, hp.put hnb hz _⟩⟩⟩⟩
    · have t0 : decide ((k : Int) ≤ (ls.length : Int)) = false := decide_eq_false (by omega)
      have t0' : decide (k ≤ ls.length) = false := decide_eq_false hkl
      have c6 := cell_of B6.out 0 rfl
      have f6 := free_block B6.out 0
      have TS := Turns.set (S := fun j => j = g3 + 1) W (b := g3 + 1) (i := 0) rfl (.bool true)
      have MF := Lib.hid (show Marks w.heap.size (fun _ => False) ds (W.setCell ⟨g3 + 1, 0, none⟩ (.bool true)) from ⟨MK.out.1, fun d hd => by obtain ⟨D, h1, hn, he, hk⟩ := MK.out.2 d hd; exact ⟨D, h1, fun e => e, he, (Below.heap_setCell _ _ _ _ (fun e => by subst e; rw [show W.heap[g3 + 1]? = _ from B6.out] at hk; cases hk)).trans hk⟩⟩)
      have BF := Lib.hid (boxed_set B6.out (.bool true))
      have EF := Lib.hid (TS.below BE.out BE.out.size fun j e => by have := HW3.out; omega)
      clear TS
      gi_wp2
      exact bool_leaves (w := w) (g6 := g3 + 1) (fun W hc => by simp [results, Try.results6, hc, go_sem]) _ _ MF.out BF.out EF.out
end Go.Proofs.Ytjkgncogpefnbaa

/- StreamFiles: the walk. Conditions: what it is handed within reach. -/
import Derived.Test.YtljcogimeimknaaGreatFileHelp
import Derived.Test.YtljcogimeimknaaGreatFileROpen
import Derived.Test.YtljcogimeimknaaGreatFileGet
import Derived.Test.YtljcogimeimknaaGreatFileRange
import Derived.Test.YtljcogimeimknaaGreatFileRRange
import Derived.Test.YtljcogimeimknaaGreatF8w
import Derived.Test.YtljcogimeimknaaGreatK8b
import Derived.Test.YtljcogimeimknaaGreatK8y
import Derived.Test.YtljcogimeimknaaGreatFilesO
namespace Go.Proofs.YtljcogimeimknaaGreat
open Go.RowKit Go.Shelf
open Lib (hid)
attribute [local go_sem] Oper.semAt_some
set_option linter.unusedVariables false
set_option linter.unusedSimpArgs false

theorem Turns.of_chg {lo hi : Nat} {w w' : World} (h : Chg lo hi w w') : Turns (fun j => lo ≤ j ∧ j < hi) w w' := ⟨h.os, h.tape, h.output, h.size, h.block⟩
set_option maxRecDepth 100000 in
set_option maxHeartbeats 40000000 in
theorem streamFiles_walk (ab : Option Addr) (nb cb : Nat) (b : List UInt8) (aK : Option Addr) (nK cK : Nat) (keys : List (List UInt8)) (aR : Option Addr) (nR cR : Nat) (rgs : List (List UInt8 × List UInt8)) (most : Int) (w : World) (hmost : -9223372036854775808 ≤ most ∧ most ≤ 9223372036854775807)
    (hnb : nb ≤ 140737488351232) (hnK : nK ≤ 140737488351232) (hnR : nR ≤ 140737488351232) (hkl : ∀ k, k ∈ keys → k.length ≤ 140737488351232) (hrl : ∀ k, k ∈ rgs → k.1.length ≤ 140737488351232 ∧ k.2.length ≤ 140737488351232) (hB : Sl Bf w ab nb cb b) (hK : Rows2 w aK nK cK keys) (hP : Ents w aR nR cR rgs) :
    Calls Tryz.prog 3 #[.slice ab nb cb, .agg #[.slice aK nK cK, .slice aR nR cR, .int .i64 most]] w fun e w' => e = .returned (.bool true) ∧ Below w.heap.size w w' := by
  obtain rfl : b.length = nb := hB.len
  have HB := hid hB
  have HK := hid hK
  have HP := hid hP
  have HKL := hid hkl
  have HRL := hid hrl
  have HMO := hid hmost
  clear hB hK hP hkl hrl hmost
  obtain ⟨w0, hw0⟩ : ∃ V, w.alloc (.cells #[.slice aK nK cK, .slice aR nR cR, .int .i64 most] 26) = V := ⟨_, rfl⟩
  have b0 : Below w.heap.size w w0 := hw0 ▸ (Below.refl _ _).alloc (Nat.le_refl _) _
  have x0 : w0.heap[w.heap.size]? = some (.cells #[.slice aK nK cK, .slice aR nR cR, .int .i64 most] 26 (0, 0)) := hw0 ▸ heap_new w _
  obtain ⟨gx, hgx⟩ : ∃ gx, w.heap.size = gx := ⟨_, rfl⟩
  have HGX := hid hgx
  have X0 := hid (show w0.heap[gx]? = some (.cells #[.slice aK nK cK, .slice aR nR cR, .int .i64 most] 26 (0, 0)) by rw [← hgx]; exact x0)
  have B0 := hid b0
  have HW0 := hid hw0
  clear b0 x0 hgx hw0
  refine (callsIn_wide (n := 4)).1 ?_
  refine callsIn_of_wp_marks Tryz.func3 rfl trivial ?_ rfl
  simp only [Tryz.ntmps3, List.size_toArray, List.length_cons, List.length_nil, Nat.reduceAdd, Nat.reduceSub, Array.replicate_succ, Array.replicate_zero, List.push_toArray, List.append_toArray, List.nil_append, List.cons_append]
  gi_wp2
  refine ⟨trivial, ?_⟩
  rw [HW0.out, HGX.out]
  refine (callsIn_wide.2 (lives_any _)).mono ?_
  rintro e w1 ⟨rfl, hb⟩
  have B1 := hid (keep_trans B0.out hb)
  have X1 := hid ((hb.block gx (Array.getElem?_eq_some_iff.1 X0.out).1).trans X0.out)
  clear hb X0 B0 HW0
  gi_wp2
  refine ⟨trivial, ?_⟩
  refine (callsIn_wide.2 (lent_any ab b.length cb b w1 hnb (HB.out.keep B1.out))).mono ?_
  rintro e w2 ⟨go, rfl, hgo, hl, hb⟩
  have B2 := hid (keep_trans B1.out hb)
  have X2 := hid ((hb.block gx (Array.getElem?_eq_some_iff.1 X1.out).1).trans X1.out)
  have L2 := hid hl
  have hgx1 : gx < w1.heap.size := (Array.getElem?_eq_some_iff.1 X1.out).1
  have OP := hid (sopen_any (some ⟨go, 0, none⟩) b.length (b.length + 2) b w2 hnb hl.sl)
  clear hb hl X1
  gi_wp2
  refine ⟨trivial, ?_⟩
  refine (callsIn_wide.2 OP.out).mono ?_
  rintro e w3 ⟨hb3, hop⟩
  have B3 := hid (keep_trans B2.out hb3)
  have X3 := hid ((hb3.block gx (Array.getElem?_eq_some_iff.1 X2.out).1).trans X2.out)
  have L3 := hid (L2.out.keep hb3)
  have RO := hid (ropen8_any ab b.length cb b w3 hnb (HB.out.keep B3.out))
  have hgl2 : go < w2.heap.size := L2.out.lt
  have H23 := hid hb3.size
  clear hb3 X2 OP L2
  obtain ⟨⟨rs, er, pl⟩, hR⟩ : ∃ R, fopn b = R := ⟨_, rfl⟩
  have HR := hid hR
  rw [hR] at hop
  dsimp only at hop
  rcases hop with ⟨hne, rfl⟩ | ⟨g, a, c, a2, c2, vs, rfl, rfl, rfl, hfl⟩
  · have t1 : (er != 0) = true := by rw [bne_iff_ne]; exact hne
    have t2 : (er == 0) = false := by rw [beq_eq_false_iff_ne]; exact hne
    clear hR hne
    gi_wp2
    refine ⟨trivial, ?_⟩
    refine (callsIn_wide.2 RO.out).mono ?_
    rintro e w4 ⟨hb4, ar, nr, cr, vr, rfl, hrow, hkey⟩
    rw [HR.out]
    dsimp only
    have B4 := hid (keep_trans B3.out hb4)
    have L4 := hid (L3.out.keep hb4)
    clear hb4 hrow hkey
    gi_wp2
    refine ⟨trivial, ?_⟩
    refine (callsIn_wide.2 (kept_any go b.length ab cb b w4 hnb L4.out (HB.out.keep B4.out))).mono ?_
    rintro e w5 ⟨rfl, hb5⟩
    have B5 := hid (keep_trans B4.out hb5)
    have L5 := hid (L4.out.keep hb5)
    clear hb5
    gi_wp2
    refine ⟨trivial, ?_⟩
    refine (callsIn_wide.2 (spoil_any (some ⟨go, 0, none⟩) b.length (b.length + 2) w5 (by omega) L5.out.soft)).mono ?_
    rintro e w6 ⟨rfl, hg6⟩
    have B6 := hid (B5.out.grown hg6 B5.out.size fun k hk => by have hk2 : go = k := Option.some.inj hk; have := B1.out.size; omega)
    clear hg6
    have t3 : (er != er) = false := by simp
    gi_wp2
    show LeavesInM _ _ _ _ _ _ _ _ _
    exact ⟨.bool true, by simp [results, Tryz.results3, go_sem], rfl, B6.out⟩
  · have FL3 := hid hfl
    have FR := hid (fopn_rows hR)
    have LO3 := hid hgl2
    clear hR hfl
    gi_wp2
    refine ⟨trivial, ?_⟩
    refine (callsIn_wide.2 RO.out).mono ?_
    rintro e w4 ⟨hb4, ar, nr, cr, vr, rfl, hrow, hkey⟩
    rw [HR.out] at hkey ⊢
    dsimp only at hkey ⊢
    have B4 := hid (keep_trans B3.out hb4)
    have L4 := hid (L3.out.keep hb4)
    have X4 := hid ((hb4.block gx (Array.getElem?_eq_some_iff.1 X3.out).1).trans X3.out)
    have FL4 := hid (FL3.out.keep hb4 (Nat.le_refl _))
    have RS4 := hid (KTx.spans hrow hkey)
    have RW4 := hid hrow.t.lt
    have RK4 := hid hkey
    have RO4 := hid hrow
    have hnr : rs.length = nr := RS4.out.1
    have H34 := hid hb4.size
    clear hb4 hrow hkey RO X3 L3 FL3
    gi_wp2
    refine ⟨trivial, ?_⟩
    refine (callsIn_wide.2 (kept_any go b.length ab cb b w4 hnb L4.out (HB.out.keep B4.out))).mono ?_
    rintro e w5 ⟨rfl, hb5⟩
    have B5 := hid (keep_trans B4.out hb5)
    have L5 := hid (L4.out.keep hb5)
    have X5 := hid ((hb5.block gx (Array.getElem?_eq_some_iff.1 X4.out).1).trans X4.out)
    have FL5 := hid (FL4.out.keep hb5 H34.out)
    have RO5 := hid (RO4.out.of_block fun j hj => hb5.block j (RW4.out j hj).2)
    have RK5 := hid (RK4.out.same (w' := w5) fun j _ hj => hb5.block j hj)
    have H45 := hid hb5.size
    clear hb5 X4 L4 RO4 FL4 RS4
    gi_wp2
    refine ⟨trivial, ?_⟩
    refine (callsIn_wide.2 (spoil_any (some ⟨go, 0, none⟩) b.length (b.length + 2) w5 (by omega) L5.out.soft)).mono ?_
    rintro e w6 ⟨rfl, hg6⟩
    have T6 : Turns (fun j => j = go) w5 w6 := .of_grown hg6 fun j hj => by injection hj with hj; exact hj.symm
    have B6 := hid (B5.out.grown hg6 B5.out.size fun k hk => by have hk2 : go = k := Option.some.inj hk; have := B1.out.size; omega)
    have X6 := hid (T6.heap X5.out (by omega))
    have FL6 := hid (FL5.out.same (w' := w6) (fun j h1 h2 => T6.block j (by have := FL5.out.top; omega) (by have := LO3.out; omega)) (Nat.le_trans FL5.out.top T6.size))
    have RS6 := hid (KTx.spans (RO5.out.of_block fun j hj => T6.block j (by have := (RW4.out j hj).2; have := H45.out; omega) (by have := (RW4.out j hj).1; have := LO3.out; have := H23.out; omega)) (RK5.out.same (w' := w6) fun j h1 hj => T6.block j (by have := H45.out; omega) (by have := LO3.out; have := H23.out; omega)))
    clear hg6 T6 X5 FL5 RO5 RK5 L5
    have KF := hid (show ∀ W, Below w6.heap.size w6 W → W.heap[gx]? = some (.cells #[.slice aK nK cK, .slice aR nR cR, .int .i64 most] 26 (0, 0)) ∧ FlO W w2.heap.size w3.heap.size g b rs a c a2 c2 vs ∧ Spans W ar nr cr rs ∧ Sl Bf W ab b.length cb b ∧ Rows2 W aK nK cK keys ∧ Ents W aR nR cR rgs ∧ Below w.heap.size w W from
      fun W hb => ⟨(hb.block gx (Array.getElem?_eq_some_iff.1 X6.out).1).trans X6.out, FL6.out.keep hb FL6.out.top, RS6.out.keep hb, HB.out.keep (keep_trans B6.out hb), HK.out.keep (keep_trans B6.out hb), HP.out.keep (keep_trans B6.out hb), keep_trans B6.out hb⟩)
    have hmany := FR.out.many
    have t3 : ((0 : Int) != 0) = false := by decide
    have SPA := hid (fun (W : World) (hb : Below w6.heap.size w6 W) => sspansF_any (KF.out W hb).2.1 FR.out)
    clear B1 B2 B3 B4 B5 RW4 RK4 H34 H45 H23 LO3 HR HP HK HB hgo hgx1 X6 FL6 RS6 B6
    gi_wp2
    refine ⟨trivial, ?_⟩
    refine (callsIn_wide.2 (SPA.out w6 (Below.refl _ _))).mono ?_
    rintro e w7 ⟨aS, nS, cS, vS, rfl, hoS, hkS, hb7⟩
    have B7 := hid hb7
    have SS7 := KTx.spans hoS hkS
    have hnS : rs.length = nS := SS7.1
    have SM := rsame_any aS nS cS ar nr cr rs rs w7 (by omega) (by omega) SS7 (KF.out w7 hb7).2.2.1
    rw [decide_eq_true rfl] at SM
    have SM := hid SM
    have OS7 := hid hoS
    have KS7 := hid hkS
    clear hoS hkS hb7 SS7
    gi_wp2
    refine ⟨trivial, ?_⟩
    refine (callsIn_wide.2 SM.out).mono ?_
    rintro e w8 ⟨rfl, hb8⟩
    have B8 := hid (keep_trans B7.out hb8)
    have OS8 := hid (OS7.out.of_block fun j hj => hb8.block j (OS7.out.t.lt j hj).2)
    have KS8 := hid (KS7.out.same (w' := w8) fun j _ hj => hb8.block j hj)
    have HLS := hid (fun j hj => OS7.out.t.lt j hj)
    clear hb8 OS7 KS7 SM B7
    gi_wp2
    refine ⟨trivial, ?_⟩
    refine (callsIn_wide.2 (rspoil_any aS nS cS vS rs w6.heap.size w7.heap.size w8 OS8.out KS8.out HLS.out)).mono ?_
    rintro e w9 ⟨rfl, hc9⟩
    have B9 := hid ((Turns.of_chg hc9).below B8.out B8.out.size fun j hj => hj.1)
    clear hc9 OS8 KS8 HLS B8
    gi_wp2
    gi_loopw [15] (fun v15 wr => ∃ i : Nat, v15 = .int .i64 (i : Nat) ∧ i ≤ nK ∧ Below w6.heap.size w6 wr) (fun v15 _ => nK - (intOf v15).toNat)
    case atStart => exact ⟨0, rfl, Nat.zero_le _, B9.out⟩
    case round =>
      obtain ⟨i, rfl, hiK, hbw⟩ := hrel
      have BW := hid hbw
      clear hbw B9
      obtain ⟨K0, K1, K2, K3, K4, K5, K6⟩ := KF.out wr BW.out
      have x0 := cell_of K0 0 (v := .slice aK nK cK) rfl
      by_cases hi : i < nK
      case neg =>
        have t4 : decide ((i : Int) < (nK : Int)) = false := decide_eq_false (by omega)
        have t4' : decide (i < nK) = false := decide_eq_false hi
        clear hi K0 K1 K2 K3 K4 K5 K6
        gi_wp2
        clear t4 t4' x0
        refine rounds_in (wA := w6) (fun V hb => ⟨(KF.out V hb).1, (KF.out V hb).2.1, (KF.out V hb).2.2.1, (KF.out V hb).2.2.2.1, (KF.out V hb).2.2.2.2.2.1⟩) FR.out hnb HMO.out hnR HRL.out BW.out _ _ _ _ _ _ _ _ _ _ _ _ _ _ _ _ _ _ _ _ _ _ _ _ _ _ _ _ _ _ _ _ _ _ _ _ _ _ _ _ _ _ _ _ _ _ _ _ _ _ _ _ _ _ _ _ _ _ _ _ _ _ _ _ _ _ _ _ _ _ _ _ _ _ _ _ _ _ _ _ _ _ _ _ _ _ _ _ _ _ _ _ _ _ _ _ _ _ _ _ _ _ _ _ _ _ _ _ _ _ _ _ _ _ _ _ _ _ _ _ _ _ _ _ _ _ _ _ _ _ _ _ _ _ _ _ _ _ _ _ _ _ _ _ _ _ _ _ _ _ _ _ _ _ _ _ _ _ _ _ _ _ _ _ _ _ _ _ _ _ _ _ _ _ _ _ _ _ _ _ _ _ _ _ _ _ _ _ _ _ _ _ _ _ _ _ _ _ _ _ _ _ _ _ _ _ _ _ _ _ _ _ _ _ _ _ _ _ _ _ _ _ _ ?_
        intro u4 u13 u23 u24 u25 u26 u27 u28 u29 u30 u31 u133 u134 u135 u136 u137 u138 u139 u140 u141 u142 u143 u144 u145 u146 u147 u148 u149 u150 u151 u152 u153 u154 u155 u156 u157 u158 u159 u160 u161 u162 u163 u164 u165 u166 u167 u168 u169 u170 u171 u172 u173 u174 u175 u176 u177 u178 u179 u180 u181 u182 u183 u184 u185 u186 u187 u188 u189 u190 u191 u192 u193 u194 u195 u196 u197 u198 u199 u200 u201 u202 u203 u204 u205 u206 u207 u208 u209 u210 u211 u212 u213 u214 u215 u216 u217 u218 u219 u220 u221 i2 Es W' h1 h2 h3
        have BWF := hid (keep_trans BW.out h1)
        have ND := hid h2
        have MK := hid h3
        have HZ := hid BW.out.size
        clear h1 h2 h3 BW hiK
        gi_wp2
        refine ⟨trivial, ?_⟩
        refine (callsIn_wide.2 (SPA.out W' BWF.out)).mono ?_
        rintro e wq ⟨aT, nT, cT, vT, rfl, hoS, hkS, hbq⟩
        have BQ := hid (keep_trans BWF.out hbq)
        have SS7 := KTx.spans hoS hkS
        have hnT : rs.length = nT := SS7.1
        have SM := rsame_any aT nT cT ar nr cr rs rs wq (by omega) (by omega) SS7 (KF.out wq BQ.out).2.2.1
        rw [decide_eq_true rfl] at SM
        have SM := hid SM
        have MKQ := hid (show ∀ D, D ∈ Es → wq.heap[D]? = some (.deferred (some [])) ∧ w6.heap.size ≤ D from fun D hD => ⟨(hbq.block D (Array.getElem?_eq_some_iff.1 (MK.out D hD).1).1).trans (MK.out D hD).1, Nat.le_trans HZ.out (MK.out D hD).2⟩)
        clear hoS hkS hbq SS7 BWF MK hnT
        gi_wp2
        refine ⟨trivial, ?_⟩
        refine (callsIn_wide.2 SM.out).mono ?_
        rintro e wz ⟨rfl, hbz⟩
        have BZ := hid (KF.out wz (keep_trans BQ.out hbz)).2.2.2.2.2.2
        have BZ6 := hid (KF.out w6 (Below.refl _ _)).2.2.2.2.2.2.size
        have MKZ := hid (show ∀ D, D ∈ Es → wz.heap[D]? = some (.deferred (some [])) ∧ w6.heap.size ≤ D from fun D hD => ⟨(hbz.block D (Array.getElem?_eq_some_iff.1 (MKQ.out D hD).1).1).trans (MKQ.out D hD).1, (MKQ.out D hD).2⟩)
        clear hbz SM BQ MKQ
        gi_wp2
        show LeavesInM _ _ _ _ _ _ _ _ _
        exact leaves_mk Es wz (fun E hE => (MKZ.out E hE).1) ND.out fun w' ht => ⟨.bool true, by simp [results, Tryz.results3, go_sem], rfl, ht.below BZ.out BZ.out.size fun j hj => Nat.le_trans BZ6.out (MKZ.out j hj).2⟩
      have t4 : decide ((i : Int) < (nK : Int)) = true := decide_eq_true (by omega)
      have t4' : decide (i < nK) = true := decide_eq_true hi
      obtain ⟨key, hkey⟩ : ∃ x, keys[i]? = some x := ⟨_, List.getElem?_eq_getElem (by rw [K4.1]; exact hi)⟩
      obtain ⟨bK, oK, ak, nk, ck, hak, ck0, sk⟩ := K4.2.2 i key hkey
      have hnk : nk ≤ 140737488351232 := by rw [← sk.len]; exact HKL.out key (List.mem_of_getElem? hkey)
      have GT := hid (sget_any K1 FR.out hnb ak nk ck key sk)
      obtain ⟨⟨ov, er⟩, hG⟩ : ∃ R, fget b rs key = R := ⟨_, rfl⟩
      have RG := hid (fun (W : World) (hb : Below wr.heap.size wr W) => rget_any (KF.out W (keep_trans BW.out hb)).2.2.2.1 (KF.out W (keep_trans BW.out hb)).2.2.1 FR.out hnb ak nk ck key hnk (sk.keep hb))
      rw [hG] at GT RG
      dsimp only at GT RG
      have XK := hid (fun (W : World) (hb : Below wr.heap.size wr W) => (⟨cell_of (KF.out W (keep_trans BW.out hb)).1 0 (v := .slice aK nK cK) rfl, (World.cell?_of_block (hb.block _ (cell_lt ck0))).trans ck0⟩ : W.cell? ⟨gx, 0, none⟩ = some (.slice aK nK cK) ∧ W.cell? ⟨bK, oK + i, none⟩ = some (.slice ak nk ck)))
      subst hak
      clear K0 K1 K2 K3 K4 K5 K6 hkey sk hG
      gi_wp2
      refine ⟨trivial, ?_⟩
      refine (callsIn_wide.2 GT.out).mono ?_
      rintro e wa ⟨v, rfl, hfo, hba⟩
      obtain ⟨av, nv, cv, rfl, -⟩ := hfo.sl
      have FO := hid hfo
      have BA := hid hba
      obtain ⟨x0, ck0⟩ := XK.out wa hba
      clear hfo hba GT
      gi_wp2
      refine ⟨trivial, ?_⟩
      refine (callsIn_wide.2 (RG.out wa BA.out)).mono ?_
      rintro e wb ⟨aw, nw, cw, rfl, hsw, hbb⟩
      have FOb := hid (FO.out.keep hbb)
      have BB := hid (keep_trans BA.out hbb)
      obtain ⟨zv, q1, q2, q3, q4⟩ := FOb.out.slI
      have hlv : (ov.getD []).length = nv := zv.len
      have SM := same_any av nv cv (ov.getD []) aw nw cw (ov.getD []) wb (by omega) (by rw [← hsw.len, hlv]; omega) zv hsw
      rw [decide_eq_true rfl] at SM
      have SM := hid SM
      clear hsw hbb FO zv q3 q4 hlv x0 ck0 RG
      gi_wp2
      refine ⟨trivial, ?_⟩
      refine (callsIn_wide.2 SM.out).mono ?_
      rintro e wc ⟨rfl, hbc⟩
      have FOc := hid (FOb.out.keep hbc)
      have BC := hid (keep_trans BB.out hbc)
      obtain ⟨-, -, -, q3, q4⟩ := FOc.out.slI
      have SP := hid (spoil_any av nv cv wc q2 q3)
      have Q4 := hid q4
      clear hbc SM FOb q3 q4 BB
      gi_wp2
      refine ⟨trivial, ?_⟩
      refine (callsIn_wide.2 SP.out).mono ?_
      rintro e wd ⟨rfl, hgd⟩
      have BD := hid (BC.out.grown hgd BC.out.size fun k hk => (Q4.out k (by rw [own_map]; exact hk)).1)
      have BD6 := hid (keep_trans BW.out BD.out)
      have u1 : (ov.isSome != ov.isSome) = false := by simp
      have u2 : (er != er) = false := by simp
      have r1 : IntKind.i64.wrap ((i : Int) + 1) = (i : Int) + 1 := IntWalk.i64_in _ (by omega)
      clear hgd SP BC FOc Q4 BA XK
      gi_wp2
      go_roundw
      case rel => exact ⟨i + 1, by go_num, by omega, BD6.out⟩
      case measure => simp [intOf]; omega
end Go.Proofs.YtljcogimeimknaaGreat

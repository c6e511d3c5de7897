/- A block is read, the reference's: contract. Condition: the bytes within reach. -/
import Derived.Test.YteedjgjkldbbcaaBlockEntries
import Derived.BigRegion
namespace Go.Proofs.Yteedjgjkldbbcaa
open Go.RowKit
set_option linter.unusedVariables false

theorem bruns_skip : ∀ (d i : Nat) (l : List Nat), (∀ j, j < d → (i + j) % 8 ≠ 0) → bruns i l = bruns (i + d) (l.drop d)
  | 0, i, l, _ => by simp
  | d + 1, i, [], _ => by simp [bruns]
  | d + 1, i, a :: r, h => by
    have h0 := h 0 (by omega)
    show (if i % 8 = 0 then a :: bruns (i + 1) r else bruns (i + 1) r) = _
    rw [if_neg (by simpa using h0), bruns_skip d (i + 1) r fun j hj => by have := h (j + 1) (by omega); rwa [show i + (j + 1) = i + 1 + j by omega] at this]
    rw [List.drop_succ_cons, show i + 1 + d = i + (d + 1) by omega]
/-- a restart, then those behind it -/
theorem bruns_at {l : List Nat} {i x : Nat} (hi : i % 8 = 0) (hx : l[i]? = some x) : bruns i (l.drop i) = x :: bruns (i + 8) (l.drop (i + 8)) := by
  obtain ⟨hl, rfl⟩ := List.getElem?_eq_some_iff.1 hx
  rw [List.drop_eq_getElem_cons hl]
  show (if i % 8 = 0 then l[i] :: bruns (i + 1) (l.drop (i + 1)) else bruns (i + 1) (l.drop (i + 1))) = _
  rw [if_pos hi, bruns_skip 7 (i + 1) _ fun j hj => by omega, List.drop_drop, show i + 1 + 7 = i + 8 by omega]
theorem bruns_end {l : List Nat} {i : Nat} (hi : l.length ≤ i) : bruns i (l.drop i) = [] := by rw [List.drop_of_length_le hi]; rfl
theorem bplaces_le : ∀ (r : List Ent) (s : BS) (p : Nat), ∀ x, x ∈ bplaces s p r → x ≤ p + (bbody s r).length
  | [], s, p, x, h => by simp [bplaces] at h
  | e :: r, s, p, x, h => by
    have h : x ∈ p :: bplaces (bAdd s e) (p + (ebytes (bP s.n s.last) e).length) r := h
    show x ≤ p + (ebytes (bP s.n s.last) e ++ bbody (bAdd s e) r).length
    rw [List.length_append]
    rcases List.mem_cons.1 h with rfl | h
    · omega
    · have := bplaces_le r _ _ x h
      omega
theorem bplaces_len : ∀ (s : BS) (p : Nat) (r : List Ent), (bplaces s p r).length = r.length
  | _, _, [] => rfl
  | s, p, e :: r => by
    show (p :: bplaces (bAdd s e) (p + (ebytes (bP s.n s.last) e).length) r).length = _
    rw [List.length_cons, bplaces_len, List.length_cons]
/-- what is known of entries that were read without an error -/
theorem bentries_in {b : List UInt8} {l : List Ent} {ps : List Nat} {p q : Nat} (hb : b.length < 18446744073709551616) (h : bentries b = (l, ps, p, 0, q)) : ps.length = l.length ∧ l.length ≤ 64 ∧ p ≤ b.length ∧ ∀ x, x ∈ ps → x ≤ 65535 := by
  obtain ⟨⟨n, d, e0⟩, hr⟩ : ∃ X, rd b 0 0 = X := ⟨_, rfl⟩
  by_cases he0 : e0 = 0
  · subst he0
    by_cases hn : n < 1 ∨ 64 < n
    · rw [bentries_bad hr hn] at h
      simp only [Prod.mk.injEq] at h; exact absurd h.2.2.2.1 (by decide)
    · rw [bentries_go hr hn] at h
      obtain ⟨hd1, hd2, hd3⟩ := rd_vbs (l := b) hr
      obtain ⟨r, h1, h2, h3, h4, h5, h6⟩ := bents_back hb n [] [] d l ps p q hd1 h
      rw [List.nil_append] at h1 h4
      subst h1
      have hd : d = 1 := by rw [hd3, vb_lt (show n < 128 by omega)]; rfl
      have hbody : (bst l).body = bbody BS0 l := by have := fold_body l BS0; unfold bst; rw [this]; rfl
      have hle := (bst_le l (srt_okay h5)).1
      have hl2 := bplaces_len (bst []) d l
      refine ⟨by rw [h4, hl2], by omega, h3, fun x hx => ?_⟩
      rw [h4] at hx
      have := bplaces_le l _ _ x hx
      rw [bst_nil, ← hbody] at this
      omega
  · rw [bentries_no hr he0] at h
    simp only [Prod.mk.injEq] at h; exact absurd h.2.2.2.1 he0
/-- behind the reference's Read -/
def RRdPost (w : World) (X : List Ent × Nat × Int) (r : Ending) (w' : World) : Prop :=
  Below w.heap.size w w' ∧ ∃ y vs, r = .returned (.tuple #[y, .int .i64 X.2.2, .int .i64 (X.2.1 : Nat)]) ∧ RdL w' w.heap.size y vs X.1
theorem RRdPost.no {w w' : World} {X : List Ent × Nat × Int} {q : Nat} {e : Int} (hX : X = ([], q, e)) (hb : Below w.heap.size w w') : RRdPost w X (.returned (.tuple #[.slice none 0 0, .int .i64 e, .int .i64 (q : Nat)])) w' := by
  subst hX
  exact ⟨hb, .slice none 0 0, [], rfl, RdL.nil _ _⟩
set_option maxRecDepth 100000 in
set_option maxHeartbeats 8000000 in
theorem rbread_any (ab : Option Addr) (nb cb : Nat) (b : List UInt8) (w : World) (hb : nb ≤ 140737488351232) (hB : Sl Bf w ab nb cb b) :
    Calls Try.prog 32 #[.slice ab nb cb] w (RRdPost w (bread b)) := by
  obtain ⟨X, hX⟩ : ∃ X, bread b = X := ⟨_, rfl⟩
  rw [hX]
  obtain ⟨⟨l, ps, p, er, q⟩, hq⟩ : ∃ R, bentries b = R := ⟨_, rfl⟩
  have hv := rentries_any ab nb cb b w hb hB
  rw [hq] at hv
  have HV := Lib.hid hv
  have HQ := Lib.hid hq
  have HX := Lib.hid hX
  have B := Lib.hid hB
  obtain rfl : b.length = nb := hB.len
  clear hv hB hq hX
  by_cases hz : er = 0
  · subst hz
    obtain ⟨hpl, hl64, hpb, hps⟩ := bentries_in (by omega) HQ.out
    have HPS := Lib.hid hps
    have HPL := Lib.hid hpl
    clear hps hpl
    go_enter Try.func32, Try.ntmps32
    go_wp2_with fail
    refine HV.out.mono ?_
    rintro r w1 ⟨hb1, y, z, vs, rfl, hL, hZ⟩
    have hE := hL.ents
    dsimp only at hE hZ
    obtain ⟨ay, cy, rfl, -⟩ := hE
    obtain ⟨az, nz, cz, rfl, hnz, -⟩ := hZ.slR
    obtain ⟨a9, c9, hv9, hsz⟩ := hZ.sl fI_len
    injection hv9 with e1 e2 e3
    subst e1 e3
    rw [← e2] at hsz
    have B1 := Lib.hid hb1
    have Z := Lib.hid hsz.to1
    obtain ⟨N, hN⟩ : ∃ N, l.length = N := ⟨_, rfl⟩
    have HN := Lib.hid hN
    have hL2 : RdL w1 w.heap.size (.slice ay N cy) vs l := by have := hL; dsimp only at this; rw [hN] at this; exact this
    have L := Lib.hid hL2
    clear hL2
    have HNZ := Lib.hid (show nz = N by rw [← hN, hnz]; exact HPL.out)
    clear hb1 hL hZ hnz hsz e2
    dsimp only
    rw [hN] at hl64 ⊢
    clear hN
    go_wp2_with fail
    go_loopw [7, 10] (fun s7 i wr => ∃ (k m : Nat), s7 = .int .i64 (m : Nat) ∧ i = .int .i64 (k : Nat) ∧ k % 8 = 0 ∧ k ≤ N + 7 ∧ m ≤ b.length ∧ Below w1.heap.size w1 wr ∧ btable b (bwant (bruns k (ps.drop k))) m = btable b (bwant (bruns 0 ps)) p) (fun _ i _ => N + 8 - (intOf i).toNat)
    case atStart => exact ⟨0, p, rfl, rfl, rfl, Nat.zero_le _, hpb, Below.refl _ _, by rw [List.drop_zero]⟩
    case round =>
      obtain ⟨k, m, rfl, rfl, hk8, hkN, hm, hBr, hT⟩ := hrel
      have T := Lib.hid hT
      have BR := Lib.hid hBr
      have K8 := Lib.hid hk8
      clear hT hBr hk8
      by_cases hk : k < N
      · obtain ⟨x, hx⟩ : ∃ x, ps[k]? = some x := ⟨_, List.getElem?_eq_getElem (by have := HPL.out; have := HN.out; omega)⟩
        have hx6 := HPS.out x (List.mem_of_getElem? hx)
        obtain ⟨br, orr, rfl, hcx⟩ := (Z.out.keep BR.out).2.2.2 k x hx
        have HT1 := Lib.hid (show btable b (bmark2 x ++ bwant (bruns (k + 8) (ps.drop (k + 8)))) m = btable b (bwant (bruns 0 ps)) p by
          have := T.out
          rw [bruns_at K8.out hx] at this
          exact this)
        have MK := Lib.hid (show (#[.int .u8 ((x : Int) % 256), .int .u8 ((x : Int) / 256)] : Array Value).toList = (bmark2 x).map Bf from bcells x hx6)
        have hnzk : k < nz := by have := HNZ.out; omega
        have t5 : decide ((k : Int) < (N : Nat)) = true := decide_eq_true (by omega)
        have t5' : decide (k < N) = true := decide_eq_true hk
        clear hx T
        go_wp2_with fail
        go_region
        have hb1 : Below wr.heap.size wr (wr.alloc (.cells #[.int .u8 ((x : Int) % 256), .int .u8 ((x : Int) / 256)] 5)).drew := keep_drewN ((Below.refl _ _).alloc (Nat.le_refl _) _) 1
        have S2 := Lib.hid (show Sl Bf (wr.alloc (.cells #[.int .u8 ((x : Int) % 256), .int .u8 ((x : Int) / 256)] 5)).drew (some ⟨wr.heap.size, 0, none⟩) 2 2 (bmark2 x) from Sl.lit (f := Bf) wr 5 _ (bmark2 x) 2 rfl MK.out)
        have hBw : Below w1.heap.size w1 (wr.alloc (.cells #[.int .u8 ((x : Int) % 256), .int .u8 ((x : Int) / 256)] 5)).drew := keep_trans BR.out hb1
        have BR2 := Lib.hid hBw
        generalize (wr.alloc (.cells #[.int .u8 ((x : Int) % 256), .int .u8 ((x : Int) / 256)] 5)).drew = w2 at *
        generalize wr.heap.size = gw at *
        clear hb1 hBw MK
        go_wp2_with fail
        go_loopw [7, 12] (fun s7 i wq => ∃ (m1 h : Nat), s7 = .int .i64 (m1 : Nat) ∧ i = .int .i64 (h : Nat) ∧ h ≤ 2 ∧ m1 ≤ b.length ∧ Below w2.heap.size w2 wq ∧ btable b ((bmark2 x).drop h ++ bwant (bruns (k + 8) (ps.drop (k + 8)))) m1 = btable b (bwant (bruns 0 ps)) p) (fun _ i _ => 2 - (intOf i).toNat)
        case atStart => exact ⟨m, 0, rfl, rfl, by omega, hm, Below.refl _ _, HT1.out⟩
        case round =>
          obtain ⟨m1, h, rfl, rfl, hh, hm1, hU, hq⟩ := hrel
          have U := Lib.hid hU
          have HDR := Lib.hid hq
          clear hU hq
          by_cases hl2 : h < 2
          · obtain ⟨c, hc⟩ : ∃ c, (bmark2 x)[h]? = some c := ⟨_, List.getElem?_eq_getElem hl2⟩
            obtain ⟨b2, o2, ea, hcc⟩ := (S2.out.keep U.out).2.2.2 h c hc
            injection ea with ea
            injection ea with ea1 ea2 ea3
            subst ea1 ea2
            rw [Nat.zero_add] at hcc
            have HDQ := Lib.hid (show btable b (c :: ((bmark2 x).drop (h + 1) ++ bwant (bruns (k + 8) (ps.drop (k + 8))))) m1 = btable b (bwant (bruns 0 ps)) p by
              have := HDR.out
              rw [show (bmark2 x).drop h = c :: (bmark2 x).drop (h + 1) from by obtain ⟨hl, rfl⟩ := List.getElem?_eq_some_iff.1 hc; exact List.drop_eq_getElem_cons hl] at this
              exact this)
            clear hc HDR
            by_cases hmb : m1 = b.length
            · have hno := HDQ.out
              rw [btable_no (by rw [List.getElem?_eq_none (by omega)]; exact fun e => by cases e)] at hno
              have HE := Lib.hid (HX.out.symm.trans (bread_tab (p' := 0) HQ.out hno.symm (by decide)))
              have t1 : decide ((m1 : Int) ≥ (b.length : Nat)) = true := decide_eq_true (by omega)
              have t1' : decide (b.length ≤ m1) = true := decide_eq_true (by omega)
              clear hno
              go_wp2_with fail
              go_ret3
              exact RRdPost.no (by rw [HE.out, hmb]) (B1.out.trans ((keep_trans BR2.out U.out).mono B1.out.size))
            · obtain ⟨y, hy⟩ : ∃ y, b[m1]? = some y := ⟨_, List.getElem?_eq_getElem (by omega)⟩
              have hm1' : m1 < b.length := by omega
              obtain ⟨b3, o3, rfl, hyc⟩ := (B.out.keep (B1.out.trans ((keep_trans BR2.out U.out).mono B1.out.size))).2.2.2 m1 y hy
              have t1 : decide ((m1 : Int) ≥ (b.length : Nat)) = false := decide_eq_false (by omega)
              have t1' : decide (b.length ≤ m1) = false := decide_eq_false (by omega)
              by_cases hyc2 : y = c
              · subst hyc2
                have HD2 := Lib.hid (show btable b ((bmark2 x).drop (h + 1) ++ bwant (bruns (k + 8) (ps.drop (k + 8)))) (m1 + 1) = btable b (bwant (bruns 0 ps)) p by have := HDQ.out; rw [btable_go hy] at this; exact this)
                have t2 : (Go.Proofs.Yteedjgjkldbbcaa.B y != Go.Proofs.Yteedjgjkldbbcaa.B y) = false := by simp
                have r1 : IntKind.i64.wrap ((m1 : Int) + 1) = (m1 : Int) + 1 := IntWalk.i64_in _ (by omega)
                clear hmb hy
                go_wp2_with fail
                go_quiet (fail)
                go_wp2_with fail
                go_roundw
                case rel => exact ⟨m1 + 1, h + 1, by go_num, by go_num, by omega, by omega, keep_drewN U.out _, HD2.out⟩
                case measure => simp [intOf]; omega
              · have hno := HDQ.out
                rw [btable_no (by rw [hy]; exact fun e => hyc2 (by injection e))] at hno
                have HE := Lib.hid (HX.out.symm.trans (bread_tab (p' := 0) HQ.out hno.symm (by decide)))
                have t2 : (Go.Proofs.Yteedjgjkldbbcaa.B y != Go.Proofs.Yteedjgjkldbbcaa.B c) = true := by rw [bne_iff_ne]; exact fun e => hyc2 (B_inj e)
                clear hmb hy hyc2 hno
                go_wp2_with fail
                go_quiet (fail)
                go_wp2_with fail
                go_ret3
                exact RRdPost.no HE.out (keep_drewN (B1.out.trans ((keep_trans BR2.out U.out).mono B1.out.size)) _)
          · obtain rfl : h = 2 := by omega
            have HD2 := Lib.hid (show btable b (bwant (bruns (k + 8) (ps.drop (k + 8)))) m1 = btable b (bwant (bruns 0 ps)) p from HDR.out)
            have r1 : IntKind.i64.wrap ((k : Int) + 8) = (k : Int) + 8 := IntWalk.i64_in _ (by omega)
            go_wp2_with fail
            go_roundw
            case rel => exact ⟨k + 8, m1, rfl, by go_num, by have := K8.out; omega, by omega, hm1, keep_trans BR2.out U.out, HD2.out⟩
            case measure => simp [intOf]; omega
      · have hq0 := T.out
        rw [bruns_end (by have := HPL.out; have := HN.out; omega)] at hq0
        have HQ0 := Lib.hid (show btable b [] m = btable b (bwant (bruns 0 ps)) p from hq0)
        have t5 : decide ((k : Int) < (N : Nat)) = false := decide_eq_false (by omega)
        have t5' : decide (k < N) = false := decide_eq_false hk
        clear hq0
        by_cases hml : m < b.length
        · have hno := HQ0.out
          rw [btable_end hml] at hno
          have HE := Lib.hid (HX.out.symm.trans (bread_tab (p' := 0) HQ.out hno.symm (by decide)))
          have t1 : decide ((m : Int) < (b.length : Nat)) = true := decide_eq_true (by omega)
          have t1' : decide (m < b.length) = true := decide_eq_true hml
          clear hno
          go_wp2_with fail
          go_ret3
          exact RRdPost.no HE.out (B1.out.trans (BR.out.mono B1.out.size))
        · have hno := HQ0.out
          rw [btable_ok hml] at hno
          have HE := Lib.hid (HX.out.symm.trans (bread_ok HQ.out hno.symm))
          have t1 : decide ((m : Int) < (b.length : Nat)) = false := decide_eq_false (by omega)
          have t1' : decide (m < b.length) = false := decide_eq_false hml
          clear hno
          go_wp2_with fail
          go_ret3
          exact ⟨B1.out.trans (BR.out.mono B1.out.size), _, vs, by rw [HE.out]; rfl, by rw [HE.out]; exact L.out.keep BR.out⟩
  · have t1 : (er != 0) = true := by rw [bne_iff_ne]; exact hz
    have HE := Lib.hid (HX.out.symm.trans (bread_no HQ.out hz))
    clear hz
    go_enter Try.func32, Try.ntmps32
    go_wp2_with fail
    refine HV.out.mono ?_
    rintro r w1 ⟨hb1, y, z, vs, rfl, hL, hZ⟩
    obtain ⟨ay, cy, rfl, -⟩ := hL.ents
    obtain ⟨az, nz, cz, rfl, -, -⟩ := hZ.slR
    have B1 := Lib.hid hb1
    clear hb1 hL hZ
    dsimp only
    go_wp2_with fail
    go_ret3
    exact RRdPost.no HE.out B1.out
end Go.Proofs.Yteedjgjkldbbcaa

/- A block is read: begin, end, the list that grows, what Read does, Read: contracts. Condition: the bytes within reach. -/
import Derived.Test.YtljcogimeimknaaGreatF8q
import Derived.Deep.RegionLaw
import Derived.Deep.DeepCutAuto
import Derived.Test.YtljcogimeimknaaGreatK8a
import Derived.Test.YtljcogimeimknaaGreatF8n
import Derived.Test.YtljcogimeimknaaGreatF8t
import Derived.Conc.MuLone
namespace Go.Proofs.YtljcogimeimknaaGreat
open Go.RowKit
set_option linter.unusedVariables false

/-- behind the beginning: given up, or a reader of the call's own -/
def BegPost (w : World) (ab : Option Addr) (nb cb : Nat) (b : List UInt8) (r : Ending) (w' : World) : Prop :=
  ∃ (n q : Nat) (er : Int), rd b 0 0 = (n, q, er) ∧ Below w.heap.size w w' ∧ (er ≠ 0 → r = wrongBy er q) ∧ (er = 0 → n < 1 ∨ 64 < n → r = wrongBy 61 0) ∧
    (er = 0 → ¬ (n < 1 ∨ 64 < n) → ∃ g, r = .returned (.pointer (some ⟨g, 0, none⟩)) ∧ Rdr w' w.heap.size g ab nb cb n 0 q (.slice none 0 0) (.slice none 0 0) [] [])
theorem Rdr.new (w : World) (lo : Nat) (ab : Option Addr) (nb cb n q : Nat) (hlo : lo ≤ w.heap.size) : Rdr (w.alloc (.cells #[.slice ab nb cb, .int .i64 (n : Nat), .int .i64 0, .int .i64 (q : Nat), .slice none 0 0, .slice none 0 0] 165)) lo w.heap.size ab nb cb n 0 q (.slice none 0 0) (.slice none 0 0) [] [] :=
  ⟨heap_new w _, OwT.nil _ _ _ _, OwT.nil _ _ _ _, fun j hj => (by cases hj), fun j hj => (by cases hj), fun b hb => (by cases hb), hlo, .inl ⟨rfl, rfl⟩⟩
set_option maxRecDepth 100000 in
theorem bbegin_any (ab : Option Addr) (nb cb : Nat) (b : List UInt8) (w : World) (hb : nb ≤ 140737499999999) (hB : Sl Bf w ab nb cb b) :
    Calls Tryz.prog 94 #[.slice ab nb cb] w (BegPost w ab nb cb b) := by
  obtain ⟨⟨n, q, er⟩, hq⟩ : ∃ R, rd b 0 0 = R := ⟨_, rfl⟩
  have hv := vread_any ab nb cb b 0 w (by omega) (Nat.zero_le _) hB
  rw [List.drop_zero, hq, Nat.zero_add] at hv
  dsimp only at hv
  have HV := Lib.hid (show Calls Tryz.prog 78 #[.slice ab nb cb, .int .i64 0] w _ from hv)
  have HQ := Lib.hid hq
  clear hv hB hq
  by_cases hz : er = 0
  · subst hz
    by_cases hn : n < 1 ∨ 64 < n
    · have HN := Lib.hid hn
      rcases hn with hn | hn
      · obtain rfl : n = 0 := by omega
        go_enter Tryz.func94, Tryz.ntmps94
        go_wp2_with fail
        refine HV.out.mono ?_
        rintro r w1 ⟨rfl, hb1⟩
        have H1 := Lib.hid hb1
        clear hb1
        go_wp2_with fail
        exact ⟨rfl, 0, q, 0, HQ.out, H1.out, fun e => absurd rfl e, fun _ _ => rfl, fun _ e => absurd HN.out e⟩
      · have t1 : ((n : Int) == 0) = false := by rw [beq_eq_false_iff_ne]; omega
        have t1' : (n == 0) = false := by rw [beq_eq_false_iff_ne]; omega
        have t2 : decide ((n : Int) > 64) = true := decide_eq_true (by omega)
        have t2' : decide (64 < n) = true := decide_eq_true (by omega)
        clear hn
        go_enter Tryz.func94, Tryz.ntmps94
        go_wp2_with fail
        refine HV.out.mono ?_
        rintro r w1 ⟨rfl, hb1⟩
        have H1 := Lib.hid hb1
        clear hb1
        go_wp2_with fail
        exact ⟨rfl, n, q, 0, HQ.out, H1.out, fun e => absurd rfl e, fun _ _ => rfl, fun _ e => absurd HN.out e⟩
    · have HN := Lib.hid hn
      have t1 : ((n : Int) == 0) = false := by rw [beq_eq_false_iff_ne]; omega
      have t1' : (n == 0) = false := by rw [beq_eq_false_iff_ne]; omega
      have t2 : decide ((n : Int) > 64) = false := decide_eq_false (by omega)
      have t2' : decide (64 < n) = false := decide_eq_false (by omega)
      have r1 : IntKind.i64.wrap (n : Int) = n := IntWalk.i64_in _ (by omega)
      clear hn
      go_enter Tryz.func94, Tryz.ntmps94
      go_wp2_with fail
      refine HV.out.mono ?_
      rintro r w1 ⟨rfl, hb1⟩
      have H1 := Lib.hid hb1
      clear hb1
      go_wp2_with fail
      go_ret
      exact ⟨n, q, 0, HQ.out, H1.out.alloc H1.out.size _, fun e => absurd rfl e, fun _ e => absurd e HN.out, fun _ _ => ⟨_, rfl, Rdr.new w1 _ ab nb cb n q H1.out.size⟩⟩
  · have t3 : (er != 0) = true := by rw [bne_iff_ne]; exact hz
    have HZ := Lib.hid hz
    clear hz
    go_enter Tryz.func94, Tryz.ntmps94
    go_wp2_with fail
    refine HV.out.mono ?_
    rintro r w1 ⟨rfl, hb1⟩
    have H1 := Lib.hid hb1
    clear hb1
    go_wp2_with fail
    exact ⟨rfl, n, q, er, HQ.out, H1.out, fun _ => rfl, fun e => absurd e HZ.out, fun e => absurd e HZ.out⟩
/-- behind the end -/
def EndPost (w : World) (g : Nat) (b : List UInt8) (runs : List Nat) (a : Nat) (r : Ending) (w' : World) : Prop :=
  Turns (fun j => j = g) w w' ∧ ((btable b (bwant runs) a).2 = 0 → r = .returned (.tuple #[])) ∧ ((btable b (bwant runs) a).2 ≠ 0 → r = wrongBy (btable b (bwant runs) a).2 (btable b (bwant runs) a).1)
theorem bcells (x : Nat) (hx : x ≤ 65535) : (#[.int .u8 ((x : Int) % 256), .int .u8 ((x : Int) / 256)] : Array Value).toList = (bmark2 x).map Bf := by
  have a : Value.int .u8 ((x : Int) % 256) = Bf (UInt8.ofNat x) := rfl
  have b : Value.int .u8 (((x / 256 : Nat) : Int) % 256) = Bf (UInt8.ofNat (x / 256)) := rfl
  unfold bmark2
  simp only [List.map_cons, List.map_nil]
  rw [← a, ← b]
  congr 3; congr 1; omega
set_option maxRecDepth 100000 in
set_option maxHeartbeats 8000000 in
theorem bend_any (lo g : Nat) (ab : Option Addr) (nb cb n d a : Nat) (vl vr : Value) (last : List UInt8) (runs : List Nat) (b : List UInt8) (w : World)
    (hb : nb ≤ 140737499999999) (ha : a ≤ b.length) (hr : runs.length ≤ 1000) (hru : ∀ x, x ∈ runs → x ≤ 65535) (hR : Rdr w lo g ab nb cb n d a vl vr last runs) (hB : Sl Bf w ab nb cb b) (hlo : ∀ b o, ab = some ⟨b, o, none⟩ → 0 < nb → b < lo) :
    Calls Tryz.prog 131 #[.pointer (some ⟨g, 0, none⟩)] w (EndPost w g b runs a) := by
  obtain rfl : b.length = nb := hB.len
  obtain ⟨⟨q, e⟩, hq⟩ : ∃ R, btable b (bwant runs) a = R := ⟨_, rfl⟩
  unfold EndPost
  rw [hq]
  dsimp only
  obtain ⟨aR, nR, cR, rfl, hnr, -⟩ := hR.rr.slRI
  have lg := hR.lt
  have HRU := Lib.hid hru
  have HLO := Lib.hid hlo
  have HR := Lib.hid hr
  have HQ := Lib.hid hq
  have B := Lib.hid hB
  have c5 := hR.c5
  obtain ⟨a9, c9, hv9, hsr⟩ := hR.rr.sl fI_len
  injection hv9 with e1 e2 e3
  subst e1 e3
  have RR := Lib.hid hsr.to1
  have LOW := Lib.hid hR.low
  have R := Lib.hid hR
  obtain ⟨N, hN⟩ : ∃ N, runs.length = N := ⟨_, rfl⟩
  obtain rfl : nR = N := by omega
  have HNN := Lib.hid hN
  have hnk : nR ≤ 1000 := by omega
  clear hN e2 hsr hq hru hlo hr hnr hB hR
  go_enter Tryz.func131, Tryz.ntmps131
  go_wp2_with fail
  go_loopw [11] (fun i wr => ∃ (k m : Nat), i = .int .i64 (k : Nat) ∧ k ≤ nR ∧ m ≤ b.length ∧ Rdr wr lo g ab b.length cb n d m vl (.slice aR nR cR) last runs ∧ Turns (fun j => j = g) w wr ∧ btable b (bwant (runs.drop k)) m = (q, e)) (fun i _ => nR - (intOf i).toNat)
  case atStart => exact ⟨0, a, rfl, Nat.zero_le _, ha, R.out, .refl _ _, by rw [List.drop_zero]; exact HQ.out⟩
  case round =>
    obtain ⟨k, m, rfl, hk, hm, hR, hT, hq⟩ := hrel
    have T := Lib.hid hT
    replace R := Lib.hid hR
    replace HQ := Lib.hid hq
    clear hT hR hq c5
    have RS := Lib.hid (R.out.rr.sl fI_len)
    replace B := Lib.hid (B.out.turns T.out fun bb oo e1 e2 e3 => by have := HLO.out bb oo e1 e2; have := LOW.out; omega)
    by_cases hlt : k < nR
    · obtain ⟨x, hx⟩ : ∃ x, runs[k]? = some x := ⟨_, List.getElem?_eq_getElem (by have := HNN.out; omega)⟩
      obtain ⟨a9, c9, hv9, hsr⟩ := RS.out
      injection hv9 with e1 e2 e3
      obtain ⟨br, orr, hra, hcr⟩ := hsr.to1.2.2.2 k x hx
      rw [← e1] at hra
      subst hra
      have hx6 := HRU.out x (List.mem_of_getElem? hx)
      have HX := Lib.hid hx
      clear e1 e2 e3 hsr hx RS
      have HDR := Lib.hid (show btable b (bmark2 x ++ bwant (runs.drop (k + 1))) m = (q, e) by
        have := HQ.out
        rw [show runs.drop k = x :: runs.drop (k + 1) from by obtain ⟨hl, rfl⟩ := List.getElem?_eq_some_iff.1 HX.out; exact List.drop_eq_getElem_cons hl] at this
        exact this)
      have MK := Lib.hid (show (#[.int .u8 ((x : Int) % 256), .int .u8 ((x : Int) / 256)] : Array Value).toList = (bmark2 x).map Bf from bcells x hx6)
      go_wp2_with fail
      have hb1 : Below wr.heap.size wr (wr.alloc (.cells #[.int .u8 ((x : Int) % 256), .int .u8 ((x : Int) / 256)] 5)) := (Below.refl _ _).alloc (Nat.le_refl _) _
      have S2 := Lib.hid (Sl.lit (f := Bf) wr 5 _ (bmark2 x) 2 rfl MK.out)
      have R1 := Lib.hid (R.out.keep hb1)
      have T1 := Lib.hid (T.out.trans_below hb1)
      replace B := Lib.hid (B.out.keep hb1)
      have lgr : g < wr.heap.size := R.out.lt
      obtain ⟨gr, hgr⟩ : ∃ z, wr.heap.size = z := ⟨_, rfl⟩
      rw [hgr] at S2 lgr ⊢
      clear hb1 hgr MK HQ T R hcr
      generalize wr.alloc (.cells #[.int .u8 ((x : Int) % 256), .int .u8 ((x : Int) / 256)] 5) = w1 at *
      go_loopw [22] (fun i wq => ∃ (h m1 : Nat), i = .int .i64 (h : Nat) ∧ h ≤ 2 ∧ m1 ≤ b.length ∧ Rdr wq lo g ab b.length cb n d m1 vl (.slice (some ⟨br, orr, none⟩) nR cR) last runs ∧ Turns (fun j => j = g) w wq ∧ Turns (fun j => j = g) w1 wq ∧ btable b ((bmark2 x).drop h ++ bwant (runs.drop (k + 1))) m1 = (q, e)) (fun i _ => 2 - (intOf i).toNat)
      case atStart => exact ⟨0, m, rfl, by omega, hm, R1.out, T1.out, .refl _ _, HDR.out⟩
      case round =>
        obtain ⟨h, m1, rfl, hh, hm1, hR, hT, hT1, hq⟩ := hrel
        replace R1 := Lib.hid hR
        replace T1 := Lib.hid hT
        have U1 := Lib.hid hT1
        replace HDR := Lib.hid hq
        clear hR hT hT1 hq
        have S3 := Lib.hid (S2.out.turns U1.out fun bb oo e1 e2 e3 => by injection e1 with e1; injection e1 with e1; omega)
        have B3 := Lib.hid (B.out.turns U1.out fun bb oo e1 e2 e3 => by have := HLO.out bb oo e1 e2; have := LOW.out; omega)
        by_cases hl2 : h < 2
        · obtain ⟨c, hc⟩ : ∃ c, (bmark2 x)[h]? = some c := ⟨_, List.getElem?_eq_getElem hl2⟩
          obtain ⟨b2, o2, ea, hcc⟩ := S3.out.2.2.2 h c hc
          injection ea with ea
          injection ea with ea1 ea2 ea3
          subst ea1 ea2
          rw [Nat.zero_add] at hcc
          have HDQ := Lib.hid (show btable b (c :: ((bmark2 x).drop (h + 1) ++ bwant (runs.drop (k + 1)))) m1 = (q, e) by
            have := HDR.out
            rw [show (bmark2 x).drop h = c :: (bmark2 x).drop (h + 1) from by obtain ⟨hl, rfl⟩ := List.getElem?_eq_some_iff.1 hc; exact List.drop_eq_getElem_cons hl] at this
            exact this)
          have c0 := R1.out.c0
          have c3 := R1.out.c3
          have f3 := R1.out.free 3
          clear hc HDR
          by_cases hmb : m1 = b.length
          · have hno := HDQ.out
            rw [btable_no (by rw [List.getElem?_eq_none (by omega)]; exact fun e => by cases e)] at hno
            simp only [Prod.mk.injEq] at hno
            obtain ⟨rfl, rfl⟩ := hno
            have t1 : ((m1 : Int) == (b.length : Nat)) = true := by rw [beq_iff_eq]; omega
            have t1' : (m1 == b.length) = true := by rw [beq_iff_eq]; exact hmb
            clear hmb
            go_wp2_with fail
            go_quiet (fail)
            go_wp2_with fail
            exact ⟨rfl, T1.out.drewN _, fun e => (by cases e), fun _ => rfl⟩
          · obtain ⟨y, hy⟩ : ∃ y, b[m1]? = some y := ⟨_, List.getElem?_eq_getElem (by omega)⟩
            have hm1' : m1 < b.length := by omega
            obtain ⟨b3, o3, rfl, hyc⟩ := B3.out.2.2.2 m1 y hy
            have t1 : ((m1 : Int) == (b.length : Nat)) = false := by rw [beq_eq_false_iff_ne]; omega
            have t1' : (m1 == b.length) = false := by rw [beq_eq_false_iff_ne]; exact hmb
            by_cases hyc2 : y = c
            · subst hyc2
              have HD2 := Lib.hid (show btable b ((bmark2 x).drop (h + 1) ++ bwant (runs.drop (k + 1))) (m1 + 1) = (q, e) by have := HDQ.out; rw [btable_go hy] at this; exact this)
              have t2 : (Go.Proofs.YtljcogimeimknaaGreat.B y != Go.Proofs.YtljcogimeimknaaGreat.B y) = false := by simp
              have r1 : IntKind.i64.wrap ((m1 : Int) + 1) = (m1 : Int) + 1 := IntWalk.i64_in _ (by omega)
              clear hmb hy
              go_wp2_with fail
              go_quiet (fail)
              go_wp2_with fail
              go_roundw
              case rel =>
                have hs := Turns.set (S := fun j => j = g) (wr.drewN nq) (b := g) (i := 3) rfl (.int .i64 ((m1 + 1 : Nat) : Int))
                exact ⟨h + 1, m1 + 1, by go_num, by omega, by omega, (R1.out.drewN nq).place (m1 + 1), (T1.out.drewN nq).trans (T := fun j => j = g) hs fun _ _ t => t, (U1.out.drewN nq).trans (T := fun j => j = g) hs fun _ _ t => t, HD2.out⟩
              case measure => simp [intOf]; omega
            · have hno := HDQ.out
              rw [btable_no (by rw [hy]; exact fun e => hyc2 (by injection e))] at hno
              simp only [Prod.mk.injEq] at hno
              obtain ⟨rfl, rfl⟩ := hno
              have t2 : (Go.Proofs.YtljcogimeimknaaGreat.B y != Go.Proofs.YtljcogimeimknaaGreat.B c) = true := by rw [bne_iff_ne]; exact fun e => hyc2 (B_inj e)
              clear hmb hy hyc2
              go_wp2_with fail
              go_quiet (fail)
              go_wp2_with fail
              exact ⟨rfl, T1.out.drewN _, fun e => (by cases e), fun _ => rfl⟩
        · obtain rfl : h = 2 := by omega
          have HD2 := Lib.hid (show btable b (bwant (runs.drop (k + 1))) m1 = (q, e) from HDR.out)
          go_wp2_with fail
          go_roundw
          case rel => exact ⟨k + 1, m1, by go_num, by omega, hm1, R1.out, T1.out, HD2.out⟩
          case measure => simp [intOf]; omega
    · obtain rfl : k = nR := by omega
      have hdn : runs.drop k = [] := List.drop_of_length_le (by have := HNN.out; omega)
      have hq0 := HQ.out
      rw [hdn] at hq0
      have HQ0 := Lib.hid (show btable b [] m = (q, e) from hq0)
      have c0 := R.out.c0
      have c3 := R.out.c3
      clear hdn hq0 HQ
      by_cases hml : m < b.length
      · have hno := HQ0.out
        rw [btable_end hml] at hno
        simp only [Prod.mk.injEq] at hno
        obtain ⟨rfl, rfl⟩ := hno
        have t1 : decide ((m : Int) < (b.length : Nat)) = true := decide_eq_true (by omega)
        have t1' : decide (m < b.length) = true := decide_eq_true hml
        go_wp2_with fail
        go_quiet (fail)
        go_wp2_with fail
        exact ⟨rfl, T.out.drewN _, fun e => (by cases e), fun _ => rfl⟩
      · have hno := HQ0.out
        rw [btable_ok hml] at hno
        simp only [Prod.mk.injEq] at hno
        obtain ⟨rfl, rfl⟩ := hno
        have t1 : decide ((m : Int) < (b.length : Nat)) = false := decide_eq_false (by omega)
        have t1' : decide (m < b.length) = false := decide_eq_false hml
        go_wp2_with fail
        go_quiet (fail)
        go_wp2_with fail
        go_end0
        exact ⟨T.out.drewN _, rfl⟩
/-- a list, its texts -/
structure RdW (w : World) (lo : Nat) (y : Value) (vs : List (Sv × Sv)) (es : List Ent) : Prop where
  own : OwZ fE zE w lo 51 y vs
  len : vs.length = es.length
  txt : ∀ (i : Nat) (x : Sv × Sv) (e : Ent), vs[i]? = some x → es[i]? = some e → OwT fB w lo 5 (sv x.1) e.1 ∧ OwT fB w lo 5 (sv x.2) e.2
  off : ∀ (i : Nat) (x : Sv × Sv), vs[i]? = some x → ∀ j, y.ownBlock = some j → (sv x.1).ownBlock ≠ some j ∧ (sv x.2).ownBlock ≠ some j
/-- the same, the texts of one entry in none of another's blocks -/
structure RdL (w : World) (lo : Nat) (y : Value) (vs : List (Sv × Sv)) (es : List Ent) : Prop extends RdW w lo y vs es where
  apt : ∀ (i k : Nat) (x z : Sv × Sv), i < k → vs[i]? = some x → vs[k]? = some z → ∀ j, ((sv x.1).ownBlock = some j ∨ (sv x.2).ownBlock = some j) → ¬ ((sv z.1).ownBlock = some j ∨ (sv z.2).ownBlock = some j)
/-- its blocks -/
def RLB (y : Value) (vs : List (Sv × Sv)) (j : Nat) : Prop := y.ownBlock = some j ∨ ∃ (i : Nat) (x : Sv × Sv), vs[i]? = some x ∧ ((sv x.1).ownBlock = some j ∨ (sv x.2).ownBlock = some j)
theorem RdL.nil (w : World) (lo : Nat) : RdL w lo (.slice none 0 0) [] [] := ⟨⟨OwZ.nil _ _ _ _ _, rfl, fun i x e h _ => by simp at h, fun i x h => by simp at h⟩, fun i k x z _ h => by simp at h⟩
section
variable {w w1 : World} {lo : Nat} {y : Value} {vs : List (Sv × Sv)} {es : List Ent}
theorem RdW.get (h : RdW w lo y vs es) {i : Nat} {x : Sv × Sv} (hx : vs[i]? = some x) : ∃ e, es[i]? = some e :=
  ⟨_, List.getElem?_eq_getElem (by have := (List.getElem?_eq_some_iff.1 hx).1; have := h.len; omega)⟩
theorem RdW.inB (h : RdW w lo y vs es) : ∀ j, RLB y vs j → lo ≤ j ∧ j < w.heap.size := fun j hj => by
  rcases hj with hj | ⟨i, x, hx, hj⟩
  · exact h.own.t.lt j hj
  · obtain ⟨e, he⟩ := h.get hx
    rcases hj with hj | hj
    · exact (h.txt i x e hx he).1.lt j hj
    · exact (h.txt i x e hx he).2.lt j hj
theorem RdW.turns {S : Nat → Prop} (h : RdW w lo y vs es) (ht : Turns S w w1) (hs : ∀ j, RLB y vs j → ¬ S j) : RdW w1 lo y vs es :=
  ⟨h.own.of_block fun j hj => ht.block j (h.own.t.lt j hj).2 (hs j (.inl hj)), h.len,
    fun i x e hx he => ⟨(h.txt i x e hx he).1.turns ht fun j hj => hs j (.inr ⟨i, x, hx, .inl hj⟩), (h.txt i x e hx he).2.turns ht fun j hj => hs j (.inr ⟨i, x, hx, .inr hj⟩)⟩, h.off⟩
theorem RdW.keep (h : RdW w lo y vs es) (hb : Below w.heap.size w w1) : RdW w1 lo y vs es := h.turns (S := fun _ => False) (.of_below hb) fun _ _ e => e
theorem RdL.turns {S : Nat → Prop} (h : RdL w lo y vs es) (ht : Turns S w w1) (hs : ∀ j, RLB y vs j → ¬ S j) : RdL w1 lo y vs es := ⟨h.toRdW.turns ht hs, h.apt⟩
theorem RdL.keep (h : RdL w lo y vs es) (hb : Below w.heap.size w w1) : RdL w1 lo y vs es := h.turns (S := fun _ => False) (.of_below hb) fun _ _ e => e
/-- an entry more -/
theorem RdW.app {y' : Value} {x : Sv × Sv} {e : Ent} (h : RdW w lo y vs es) (ho : OwZ fE zE w1 lo 51 y' (vs ++ [x])) (ht : Turns (fun j => y.ownBlock = some j) w w1) (hy : ∀ j, y'.ownBlock = some j → y.ownBlock = some j ∨ w.heap.size ≤ j)
    (o1 : OwT fB w lo 5 (sv x.1) e.1) (o2 : OwT fB w lo 5 (sv x.2) e.2) (hn : ∀ j, y.ownBlock = some j → (sv x.1).ownBlock ≠ some j ∧ (sv x.2).ownBlock ≠ some j) : RdW w1 lo y' (vs ++ [x]) (es ++ [e]) := by
  have hl := h.len
  refine ⟨ho, by rw [List.length_append, List.length_append, hl]; rfl, fun i z q hz hq => ?_, fun i z hz j hj => ?_⟩
  · by_cases hi : i < vs.length
    · rw [List.getElem?_append_left hi] at hz
      rw [List.getElem?_append_left (by omega)] at hq
      obtain ⟨a, b⟩ := h.txt i z q hz hq
      exact ⟨a.turns ht fun j hj e => (h.off i z hz j e).1 hj, b.turns ht fun j hj e => (h.off i z hz j e).2 hj⟩
    · rw [List.getElem?_append_right (by omega)] at hz
      rw [List.getElem?_append_right (by omega)] at hq
      have hi0 : i - vs.length = 0 := by have := (List.getElem?_eq_some_iff.1 hz).1; simp at this; omega
      rw [hi0] at hz
      rw [← hl, hi0] at hq
      obtain rfl : x = z := by simpa using hz
      obtain rfl : e = q := by simpa using hq
      exact ⟨o1.turns ht fun j hj e => (hn j e).1 hj, o2.turns ht fun j hj e => (hn j e).2 hj⟩
  · by_cases hi : i < vs.length
    · rw [List.getElem?_append_left hi] at hz
      obtain ⟨q, hq⟩ := h.get hz
      obtain ⟨a, b⟩ := h.txt i z q hz hq
      rcases hy j hj with hj | hj
      · exact h.off i z hz j hj
      · exact ⟨fun e => by have := (a.lt j e).2; omega, fun e => by have := (b.lt j e).2; omega⟩
    · rw [List.getElem?_append_right (by omega)] at hz
      have hi0 : i - vs.length = 0 := by have := (List.getElem?_eq_some_iff.1 hz).1; simp at this; omega
      rw [hi0] at hz
      obtain rfl : x = z := by simpa using hz
      rcases hy j hj with hj | hj
      · exact hn j hj
      · exact ⟨fun e => by have := (o1.lt j e).2; omega, fun e => by have := (o2.lt j e).2; omega⟩
theorem RdL.app {y' : Value} {x : Sv × Sv} {e : Ent} (h : RdL w lo y vs es) (ho : OwZ fE zE w1 lo 51 y' (vs ++ [x])) (ht : Turns (fun j => y.ownBlock = some j) w w1) (hy : ∀ j, y'.ownBlock = some j → y.ownBlock = some j ∨ w.heap.size ≤ j)
    (o1 : OwT fB w lo 5 (sv x.1) e.1) (o2 : OwT fB w lo 5 (sv x.2) e.2) (hn : ∀ j, RLB y vs j → (sv x.1).ownBlock ≠ some j ∧ (sv x.2).ownBlock ≠ some j) : RdL w1 lo y' (vs ++ [x]) (es ++ [e]) := by
  refine ⟨h.toRdW.app ho ht hy o1 o2 fun j hj => hn j (.inl hj), fun i k z q hik hz hq j hj hj2 => ?_⟩
  have hk := (List.getElem?_eq_some_iff.1 hq).1
  simp only [List.length_append, List.length_cons, List.length_nil] at hk
  rw [List.getElem?_append_left (by omega)] at hz
  by_cases hkv : k < vs.length
  · rw [List.getElem?_append_left hkv] at hq
    exact h.apt i k z q hik hz hq j hj hj2
  · rw [List.getElem?_append_right (by omega), show k - vs.length = 0 by omega] at hq
    obtain rfl : x = q := by simpa using hq
    have := hn j (.inr ⟨i, z, hz, hj⟩)
    rcases hj2 with e | e
    · exact this.1 e
    · exact this.2 e
theorem RdW.ents (h : RdW w lo y vs es) : ∃ a c, y = .slice a es.length c ∧ Ents w a es.length c es := by
  obtain ⟨ho, hl, ht, _⟩ := h
  obtain ⟨a, c, hv, hs⟩ := ho.t.sl fE_len
  rw [hl] at hv hs
  refine ⟨a, c, hv, rfl, hs.2.1, hs.2.2.1, fun i k v hi => ?_⟩
  have hin : i < vs.length := by have := (List.getElem?_eq_some_iff.1 hi).1; omega
  obtain ⟨b, o, ha, hc⟩ := hs.2.2.2 i _ (List.getElem?_eq_getElem hin)
  obtain ⟨m1, m2⟩ := ht i _ (k, v) (List.getElem?_eq_getElem hin) hi
  exact ⟨b, o, _, _, _, _, _, _, ha, hc 0 _ rfl, hc 1 _ rfl, m1.slI, m2.slI⟩
theorem RdW.spoil {a : Option Addr} {n c hi : Nat} (h : RdW w lo (.slice a n c) vs es) (hh : w.heap.size ≤ hi) : SpE w lo hi a n c := by
  rcases h.own with ⟨e, _⟩ | ⟨g, cap, e, hg, hb, hn, hc⟩
  · injection e with e1 e2 e3
    exact .inl ⟨e1, e2, e3⟩
  · injection e with e1 e2 e3
    have hlt : g < hi := Nat.lt_of_lt_of_le (Array.getElem?_eq_some_iff.1 hb).1 hh
    have hob : Value.ownBlock (.slice a n c) = some g := by rw [e1]; rfl
    refine .inr ⟨g, vs ++ List.replicate (cap - vs.length) zE, e1, hb, by simp; omega, by omega, by unfold maxLen at hc; omega, hg, hlt, fun x hx => ?_⟩
    rw [List.mem_append] at hx
    rcases hx with hx | hx
    · obtain ⟨i, hil, rfl⟩ := List.mem_iff_getElem.1 hx
      have hx' : vs[i]? = some vs[i] := List.getElem?_eq_getElem hil
      obtain ⟨q, hq⟩ := h.get hx'
      obtain ⟨o1, o2⟩ := h.txt i _ q hx' hq
      have hoff := h.off i _ hx' g hob
      exact ⟨.of_own (n := vs[i].1.2.1) rfl o1 (fun j hj => ⟨(o1.lt j hj).1, by have := (o1.lt j hj).2; omega⟩) (fun j hj e => hoff.1 (by rw [← e]; exact hj)),
        .of_own (n := vs[i].2.2.1) rfl o2 (fun j hj => ⟨(o2.lt j hj).1, by have := (o2.lt j hj).2; omega⟩) (fun j hj e => hoff.2 (by rw [← e]; exact hj))⟩
    · rw [(List.mem_replicate.1 hx).2]
      exact ⟨.inl ⟨rfl, rfl⟩, .inl ⟨rfl, rfl⟩⟩
end
theorem bruns_len : ∀ (i : Nat) (l : List Nat), (bruns i l).length ≤ l.length
  | _, [] => Nat.le_refl _
  | i, a :: r => by
    have := bruns_len (i + 1) r
    show (if i % 8 = 0 then a :: bruns (i + 1) r else bruns (i + 1) r).length ≤ _
    split <;> simp <;> omega
theorem bruns_mem : ∀ (i : Nat) (l : List Nat) (x : Nat), x ∈ bruns i l → x ∈ l
  | _, [], x, h => h
  | i, a :: r, x, h => by
    have h : x ∈ (if i % 8 = 0 then a :: bruns (i + 1) r else bruns (i + 1) r) := h
    split at h
    · rcases List.mem_cons.1 h with h | h
      · exact h ▸ List.mem_cons_self
      · exact List.mem_cons_of_mem _ (bruns_mem _ r x h)
    · exact List.mem_cons_of_mem _ (bruns_mem _ r x h)
/-- how many entries a reader has read -/
def doneOf (w : World) (g : Nat) : Nat := match w.cell? ⟨g, 2, none⟩ with | some (.int _ d) => d.toNat | _ => 0
theorem Rdr.doneOf {w : World} {lo g nb cb n d a : Nat} {ab : Option Addr} {vl vr : Value} {last : List UInt8} {runs : List Nat} (h : Rdr w lo g ab nb cb n d a vl vr last runs) : doneOf w g = d := by
  unfold Go.Proofs.YtljcogimeimknaaGreat.doneOf; rw [h.c2]; exact Int.toNat_natCast d
/-- behind it: what the block reads as, or the error and its place -/
def DoPost (w : World) (gl : Nat) (b : List UInt8) (e q : Int) (w' : World) : Prop :=
  e = (bread b).2.2 ∧ q = (bread b).2.1 ∧ Turns (fun j => j = gl) w w' ∧ (e = 0 → ∃ y vs, w'.heap[gl]? = some (.cells #[y] 48 (0, 0)) ∧ RdL w' w.heap.size y vs (bread b).1)
/-- in the midst of it -/
structure DoSt (w0 w : World) (gl g : Nat) (ab : Option Addr) (cb n : Nat) (b : List UInt8) (X : List Ent × List Nat × Nat × Int × Nat) (k m : Nat) (vl vr y : Value) (vs : List (Sv × Sv)) (es : List Ent) (ps : List Nat) : Prop where
  rd : Rdr w w0.heap.size g ab b.length cb n k m vl vr (bst es).last (bruns 0 ps)
  box : w.heap[gl]? = some (.cells #[y] 48 (0, 0))
  ls : RdL w w0.heap.size y vs es
  dis : ∀ j, RLB y vs j → ¬ RdS g vl vr j
  tu : Turns (fun j => j = gl) w0 w
  kn : k ≤ n
  el : es.length = k
  pl : ps.length = k
  mb : m ≤ b.length
  ll : (bst es).last.length ≤ 64 ∧ (0 < k → 0 < (bst es).last.length)
  pr : ∀ p, p ∈ ps → p ≤ 65535
  far1 : m ≤ 1 + 350 * k
  eq : bents b (n - k) es ps m = X
section
variable {w0 w : World} {gl g cb n k m : Nat} {ab : Option Addr} {b : List UInt8} {X : List Ent × List Nat × Nat × Int × Nat} {vl vr y : Value} {vs : List (Sv × Sv)} {es : List Ent} {ps : List Nat}
theorem DoSt.prd (S : DoSt w0 w gl g ab cb n b X k m vl vr y vs es ps) : erd (if k % 8 = 0 then [] else (bst es).last) b m = pread (bP es.length (bst es).last) b m := by
  rw [S.el]
  unfold erd
  rw [if_pos ⟨by omega, by have := S.mb; omega⟩, Int.toNat_natCast]; rfl
theorem DoSt.bad (S : DoSt w0 w gl g ab cb n b X k m vl vr y vs es ps) (hk : k < n) {x : Ent} {q : Nat} {er : Int} (hx : erd (if k % 8 = 0 then [] else (bst es).last) b m = (x, q, er)) (h : er ≠ 0) : X = (es, ps, m, er, q) := by
  rw [← S.eq, show n - k = (n - k - 1) + 1 by omega]
  exact bents_no (S.prd ▸ hx) h
theorem DoSt.low (S : DoSt w0 w gl g ab cb n b X k m vl vr y vs es ps) (hk : k < n) {x : Ent} {q : Nat} (hx : erd (if k % 8 = 0 then [] else (bst es).last) b m = (x, q, 0)) (h : k % 8 = 0 ∧ 0 < (bst es).last.length ∧ 0 ≤ cmp (bst es).last x.1) : X = (es, ps, m, 51, m) := by
  rw [← S.eq, show n - k = (n - k - 1) + 1 by omega]
  refine bents_low (S.prd ▸ hx) ⟨?_, h.2.2⟩
  rcases Nat.eq_zero_or_pos es.length with h0 | h0
  · have : es = [] := List.length_eq_zero_iff.1 h0
    subst this
    exact absurd h.2.1 (by decide)
  · exact h0
theorem DoSt.go (S : DoSt w0 w gl g ab cb n b X k m vl vr y vs es ps) (hk : k < n) {x : Ent} {q : Nat} (hx : erd (if k % 8 = 0 then [] else (bst es).last) b m = (x, q, 0)) (h : ¬ (k % 8 = 0 ∧ 0 < (bst es).last.length ∧ 0 ≤ cmp (bst es).last x.1)) : bents b (n - (k + 1)) (es ++ [x]) (ps ++ [m]) q = X := by
  rw [← S.eq, show n - k = (n - (k + 1)) + 1 by omega]
  refine (bents_go (S.prd ▸ hx) fun h2 => ?_).symm
  obtain ⟨_, _, _, _, _, h6⟩ := erd_in hx
  have hl0 : 0 < (bst es).last.length := S.ll.2 (by have := S.el; omega)
  by_cases h8 : k % 8 = 0
  · exact h ⟨h8, hl0, h2.2⟩
  · rw [if_neg h8] at h6
    rcases h6 with h6 | h6 <;> omega
theorem DoSt.far (S : DoSt w0 w gl g ab cb n b X k m vl vr y vs es ps) (hb : b.length < 18446744073709551616) {x : Ent} {q : Nat} (hx : erd (if k % 8 = 0 then [] else (bst es).last) b m = (x, q, 0)) : q ≤ 1 + 350 * (k + 1) := by
  obtain ⟨_, h1, h2, h3, h4, _⟩ := erd_in hx
  have hp : pread (bP es.length (bst es).last) b m = (x, q, 0) := S.prd ▸ hx
  have := congrArg List.length (pread_back hb hp S.mb)
  rw [List.length_take, List.length_append, List.length_take] at this
  have := ebytes_le (bP es.length (bst es).last) x (by omega)
  have := S.mb
  have := S.far1
  omega
/-- behind the reading of an entry and its append: the box's cell, where all stands behind the store -/
theorem DoSt.step {W0 w6 w8 : World} {o : Obj} {x : Ent} {q : Nat} {x1 x2 : Sv} {vl' vr' v8 : Value} (S : DoSt w0 w gl g ab cb n b X k m vl vr y vs es ps) (hk : k < n) (hn : n ≤ 64) (hb : b.length < 18446744073709551616) (hgl : gl < w0.heap.size)
    (hx : erd (if k % 8 = 0 then [] else (bst es).last) b m = (x, q, 0)) (hlow : ¬ (k % 8 = 0 ∧ 0 < (bst es).last.length ∧ 0 ≤ cmp (bst es).last x.1)) (hw : Below w.heap.size w W0)
    (ht : Turns (RdS g vl vr) W0 w6) (hR : Rdr w6 w0.heap.size g ab b.length cb n (k + 1) q vl' vr' x.1 (bruns 0 ps ++ if k % 8 = 0 then [m] else [])) (hS : ∀ j, RdS g vl' vr' j → RdS g vl vr j ∨ W0.heap.size ≤ j)
    (o1 : OwT fB w6 W0.heap.size 5 (sv x1) x.1) (o2 : OwT fB w6 W0.heap.size 5 (sv x2) x.2) (hD : ∀ j, RdS g vl' vr' j → (sv x1).ownBlock ≠ some j ∧ (sv x2).ownBlock ≠ some j)
    (h8 : OwZ fE zE w8 w0.heap.size 51 v8 (vs ++ [(x1, x2)])) (hg : (w6.alloc o).grownBy w8 y.ownBlock) (hv : v8.ownBlock = y.ownBlock ∨ v8.ownBlock = some (w6.alloc o).heap.size) :
    w8.cell? ⟨gl, 0, none⟩ = some y ∧ w8.frozen? ⟨gl, 0, none⟩ = false ∧ DoSt w0 (w8.setCell ⟨gl, 0, none⟩ v8) gl g ab cb n b X (k + 1) q vl' vr' v8 (vs ++ [(x1, x2)]) (es ++ [x]) (ps ++ [m]) := by
  have hz0 : w0.heap.size ≤ w.heap.size := S.tu.size
  have hz1 : w.heap.size ≤ W0.heap.size := hw.size
  have hz2 : W0.heap.size ≤ w6.heap.size := ht.size
  have hrd := S.rd.inS
  have hrl := S.ls.inB
  have hyl : ∀ j, y.ownBlock = some j → w0.heap.size ≤ j ∧ j < w.heap.size := fun j hj => hrl j (.inl hj)
  have t8 : Turns (fun j => y.ownBlock = some j) w6 w8 := (Turns.of_below ((Below.refl _ w6).alloc (Nat.le_refl _) o)).trans (.of_grown hg fun j e => e) fun _ _ e => e
  have hsz7 : (w6.alloc o).heap.size = w6.heap.size + 1 := by simp
  have box6 : w6.heap[gl]? = some (.cells #[y] 48 (0, 0)) := ht.heap ((hw.block gl (by omega)).trans S.box) fun h => by have := (hrd gl h).1; omega
  have box8 : w8.heap[gl]? = some (.cells #[y] 48 (0, 0)) := t8.heap box6 fun h => by have := (hyl gl h).1; omega
  have ls6 : RdL w6 w0.heap.size y vs es := (S.ls.keep hw).turns ht fun j hj => S.dis j hj
  have hv8 : ∀ j, v8.ownBlock = some j → y.ownBlock = some j ∨ w6.heap.size ≤ j := fun j hj => by
    rcases hv with e | e
    · exact .inl (e ▸ hj)
    · rw [e] at hj; injection hj with hj; exact .inr (by omega)
  have ls8 : RdL w8 w0.heap.size v8 (vs ++ [(x1, x2)]) (es ++ [x]) := ls6.app h8 t8 hv8 (o1.base (by omega)) (o2.base (by omega)) fun j hj => ⟨fun e => by have := (o1.lt j e).1; have := (hrl j hj).2; omega, fun e => by have := (o2.lt j e).1; have := (hrl j hj).2; omega⟩
  have tS : Turns (fun j => j = gl) w8 (w8.setCell ⟨gl, 0, none⟩ v8) := Turns.set (S := fun j => j = gl) w8 (b := gl) (i := 0) rfl v8
  have hin8 := ls8.inB
  have hR8 : Rdr (w8.setCell ⟨gl, 0, none⟩ v8) w0.heap.size g ab b.length cb n (k + 1) q vl' vr' x.1 (bruns 0 ps ++ if k % 8 = 0 then [m] else []) := (hR.turns t8 fun j hj e => by
      rcases hS j hj with h | h
      · exact S.dis j (.inl e) h
      · have := (hyl j e).2; omega).turns tS fun j hj e => by have := (hR.inS j hj).1; omega
  obtain ⟨i1, i2, i3, i4, i5, _⟩ := erd_in hx
  refine ⟨cell_of box8 0 rfl, free_block box8 0, ⟨?_, set_block (i := 0) box8 _, ls8.turns tS fun j hj e => by have := (hin8 j hj).1; omega, fun j hj hs => ?_, ?_, hk, by rw [List.length_append, S.el]; rfl, by rw [List.length_append, S.pl]; rfl, i4, ?_, fun p hp => ?_, S.far hb hx, S.go hk hx hlow⟩⟩
  · have e1 : (bst (es ++ [x])).last = x.1 := by rw [bst_snoc]; rfl
    have e2 : bruns 0 (ps ++ [m]) = bruns 0 ps ++ if k % 8 = 0 then [m] else [] := by rw [bruns_snoc, Nat.zero_add, S.pl]
    rw [e1, e2]; exact hR8
  · have hlt := (hR.inS j hs).2
    rcases hj with hj | ⟨i, z, hz, hj⟩
    · rcases hv8 j hj with h | h
      · rcases hS j hs with h2 | h2
        · exact S.dis j (.inl h) h2
        · have := (hyl j h).2; omega
      · omega
    · by_cases hi : i < vs.length
      · rw [List.getElem?_append_left hi] at hz
        have hold : RLB y vs j := .inr ⟨i, z, hz, hj⟩
        rcases hS j hs with h2 | h2
        · exact S.dis j hold h2
        · have := (hrl j hold).2; omega
      · rw [List.getElem?_append_right (by omega)] at hz
        have hi0 : i - vs.length = 0 := by have := (List.getElem?_eq_some_iff.1 hz).1; simp at this; omega
        rw [hi0] at hz
        obtain rfl : (x1, x2) = z := by simpa using hz
        rcases hj with hj | hj
        · exact (hD j hs).1 hj
        · exact (hD j hs).2 hj
  · exact (((S.tu.trans_below hw).trans ht fun j hj h => by have := (hrd j h).1; omega).trans t8 fun j hj h => by have := (hyl j h).1; omega).trans tS fun j _ e => e
  · have e1 : (bst (es ++ [x])).last = x.1 := by rw [bst_snoc]; rfl
    rw [e1]; exact ⟨i2, fun _ => i1⟩
  · rcases List.mem_append.1 hp with h | h
    · exact S.pr p h
    · obtain rfl := List.mem_singleton.1 h
      have := S.far1; omega
end
set_option maxRecDepth 100000 in
set_option maxHeartbeats 8000000 in
theorem bdo_any (gb gl : Nat) (ab : Option Addr) (nb cb : Nat) (b : List UInt8) (w : World) (hb : nb ≤ 140737499999999) (hB : Sl Bf w ab nb cb b) (hbox : w.heap[gb]? = some (.cells #[.slice ab nb cb] 22 (0, 0)))
    (hlb : w.heap[gl]? = some (.cells #[.slice none 0 0] 48 (0, 0))) (hne : gb ≠ gl) (hab : ∀ b o, ab = some ⟨b, o, none⟩ → 0 < nb → b ≠ gl ∧ b < w.heap.size) :
    Calls Tryz.prog 130 #[.pointer (some ⟨gb, 0, none⟩), .pointer (some ⟨gl, 0, none⟩)] w fun r w' => ∃ e q : Int, ((e = 0 ∧ q = 0 ∧ r = .returned (.tuple #[])) ∨ r = wrongBy e q) ∧ DoPost w gl b e q w' := by
  obtain rfl : b.length = nb := hB.len
  have HBG := Lib.hid (bbegin_any ab b.length cb b w hb hB)
  have B := Lib.hid hB
  have HAB := Lib.hid hab
  have LB := Lib.hid hlb
  have x0 := cell_of hbox 0 rfl
  clear hB hab
  go_enter Tryz.func130, Tryz.ntmps130
  go_wp2_with fail
  refine HBG.out.mono ?_
  rintro r w1 ⟨n, q, er, hrd, hb1, h1, h2, h3⟩
  by_cases hz : er = 0
  · subst hz
    by_cases hn : n < 1 ∨ 64 < n
    · obtain rfl := h2 rfl hn
      have hbr := bread_no (bentries_bad hrd hn) (by decide)
      unfold wrongBy
      go_wp2_with fail
      exact ⟨rfl, 61, 0, .inr rfl, by rw [hbr], by rw [hbr]; rfl, .of_below hb1, fun e => (by cases e)⟩
    · obtain ⟨g, rfl, hR⟩ := h3 rfl hn
      obtain ⟨X, hX⟩ : ∃ X, bents b n [] [] q = X := ⟨_, rfl⟩
      have BE := Lib.hid (show bentries b = X by rw [← hX]; exact bentries_go hrd hn)
      have hqb : q ≤ b.length := (rd_vbs (l := b) hrd).1
      have ST0 := Lib.hid (show DoSt w w1 gl g ab cb n b X 0 q (.slice none 0 0) (.slice none 0 0) (.slice none 0 0) [] [] [] from
        ⟨hR, hb1.block gl (Array.getElem?_eq_some_iff.1 hlb).1 ▸ hlb, RdL.nil _ _, fun j hj => by (rcases hj with h | ⟨i, x, h, _⟩; cases h; simp at h), .of_below hb1, Nat.zero_le _, rfl, rfl, hqb, ⟨by show (0 : Nat) ≤ 64; omega, fun h => by omega⟩, fun p hp => (by cases hp), by have := rd_vbs (l := b) hrd; have h3 := this.2.2; rw [vb_lt (show n < 128 by omega)] at h3; have : q = 1 := h3; omega, hX⟩)
      have HN := Lib.hid hn
      clear hR hX hb1 h1 h2 h3 hrd x0 hn hqb
      have hgl : gl < w.heap.size := (Array.getElem?_eq_some_iff.1 hlb).1
      go_wp2_with fail
      go_loopw [] (fun wr => ∃ (k m : Nat) (vl vr y : Value) (vs : List (Sv × Sv)) (es : List Ent) (ps : List Nat), DoSt w wr gl g ab cb n b X k m vl vr y vs es ps) (fun wr => n - doneOf wr g)
      case atStart => exact ⟨_, _, _, _, _, _, _, _, ST0.out⟩
      case round =>
        obtain ⟨k, m, vl, vr, y, vs, es, ps, hS⟩ := hrel
        obtain ⟨ay, ny, cy, rfl, -, -⟩ := hS.ls.own.t.slE
        have S := Lib.hid hS
        clear hS ST0 HBG
        have c1 := S.out.rd.c1
        have c2 := S.out.rd.c2
        replace B := Lib.hid (B.out.turns S.out.tu fun bb oo e1 e2 e3 => (HAB.out bb oo e1 e2).1 e3)
        by_cases hk : k < n
        · have t1 : decide ((k : Int) < (n : Nat)) = true := decide_eq_true (by omega)
          have t1' : decide (k < n) = true := decide_eq_true hk
          have hn64 : n ≤ 64 := by have := HN.out; omega
          have hbk : b.length < 18446744073709551616 := by omega
          have NX := Lib.hid (fun (W : World) (hW : Below wr.heap.size wr W) => bnext_any w.heap.size g ab b.length cb n k m vl vr (bst es).last (bruns 0 ps) b W hb (by omega) (by have := S.out.mb; omega) S.out.ll.1 (by have := bruns_len 0 ps; have := S.out.pl; omega) (S.out.rd.keep hW) (B.out.keep hW) fun bb oo e e2 => (HAB.out bb oo e e2).2)
          have bx := cell_of S.out.box 0 rfl
          have fx := free_block S.out.box 0
          go_wp2_with fail
          go_quiet (fail)
          go_wp2_with fail
          have NXW := Lib.hid (NX.out (wr.drewN nq).drew (keep_drewN (keep_drewN (Below.refl _ _) nq) 1))
          have S' := Lib.hid S.out
          obtain ⟨⟨x, q', er⟩, hx⟩ : ∃ R, erd (if k % 8 = 0 then [] else (bst es).last) b m = R := ⟨_, rfl⟩
          by_cases herr : er ≠ 0 ∨ (er = 0 ∧ k % 8 = 0 ∧ 0 < (bst es).last.length ∧ 0 ≤ cmp (bst es).last x.1)
          · have HE : Hid (∃ (e : Int) (qq : Nat), e ≠ 0 ∧ bread b = ([], qq, e) ∧ Calls Tryz.prog 96 #[.pointer (some ⟨g, 0, none⟩)] (wr.drewN nq).drew fun r w' => r = wrongBy e qq ∧ Turns (RdS g vl vr) (wr.drewN nq).drew w') := Lib.hid (by
              rcases herr with h | ⟨rfl, h⟩
              · refine ⟨er, q', h, bread_no (BE.out.trans (S.out.bad hk hx h)) h, NXW.out.mono fun r w' hp => ?_⟩
                obtain ⟨x2, q2, er2, hx2, ht, p1, p2, p3⟩ := hp
                rw [hx] at hx2
                simp only [Prod.mk.injEq] at hx2
                obtain ⟨rfl, rfl, rfl⟩ := hx2
                exact ⟨p1 h, ht⟩
              · refine ⟨51, m, by decide, bread_no (BE.out.trans (S.out.low hk hx h)) (by decide), NXW.out.mono fun r w' hp => ?_⟩
                obtain ⟨x2, q2, er2, hx2, ht, p1, p2, p3⟩ := hp
                rw [hx] at hx2
                simp only [Prod.mk.injEq] at hx2
                obtain ⟨rfl, rfl, rfl⟩ := hx2
                exact ⟨p2 rfl h, ht⟩)
            obtain ⟨e, qq, he, hbr, HC0⟩ := HE.out
            have HC := Lib.hid HC0
            have HBR := Lib.hid hbr
            have HEE := Lib.hid he
            have TUF := Lib.hid (fun (w' : World) (ht : Turns (RdS g vl vr) (wr.drewN nq).drew w') => (S.out.tu.trans_below (keep_drewN (keep_drewN (Below.refl _ _) nq) 1)).trans ht fun j hj hs => absurd (S.out.rd.inS j hs).1 (by omega))
            clear HE HC0 hbr he hx herr t1 t1' NX NXW S' S
            refine wp_region_any (by kernel_rfl) ?_
            try (change wpAny _ _ _ _ _ _ _ (World.drew _))
            refine wpAny_ready (rs := [0, 1]) (by kernel_rfl) (by simp) ?_
            refine AllReady.cons rfl (fun K hK => ?_) (AllReady.cons rfl (fun K hK => ?_) AllReady.nil)
            · go_simp
              refine hK _ _ ?_
              clear hK K
              refine wpAny_ready (rs := [1]) (by kernel_rfl) (by simp) ?_
              refine AllReady.cons rfl (fun K hK => ?_) AllReady.nil
              go_simp
              refine hK _ _ ?_
              clear hK K
              refine wpAny_ready (rs := [2]) (by kernel_rfl) (by simp) ?_
              refine AllReady.cons rfl (fun K hK => ?_) AllReady.nil
              go_simp
              go_at_call 96
              refine HC.out.mono ?_
              rintro r w' ⟨rfl, ht⟩
              unfold wrongBy
              go_simp
              exact ⟨rfl, e, qq, .inr rfl, by rw [HBR.out], by rw [HBR.out], TUF.out w' ht, fun h => absurd h HEE.out⟩
            · go_simp
              refine hK _ _ ?_
              clear hK K
              refine wpAny_ready (rs := [0, 2]) (by kernel_rfl) (by simp) ?_
              refine AllReady.cons rfl (fun K hK => ?_) (AllReady.cons rfl (fun K hK => ?_) AllReady.nil)
              · go_simp
                refine hK _ _ ?_
                clear hK K
                refine wpAny_ready (rs := [2]) (by kernel_rfl) (by simp) ?_
                refine AllReady.cons rfl (fun K hK => ?_) AllReady.nil
                go_simp
                go_at_call 96
                refine HC.out.mono ?_
                rintro r w' ⟨rfl, ht⟩
                unfold wrongBy
                go_simp
                exact ⟨rfl, e, qq, .inr rfl, by rw [HBR.out], by rw [HBR.out], TUF.out w' ht, fun h => absurd h HEE.out⟩
              · go_simp
                go_at_call 96
                refine HC.out.mono ?_
                rintro r w' ⟨rfl, ht⟩
                unfold wrongBy
                go_simp
                exact ⟨rfl, e, qq, .inr rfl, by rw [HBR.out], by rw [HBR.out], TUF.out w' ht, fun h => absurd h HEE.out⟩
          · have her : er = 0 := by
              by_cases h : er = 0
              · exact h
              · exact absurd (.inl h) herr
            subst her
            have hlow : ¬ (k % 8 = 0 ∧ 0 < (bst es).last.length ∧ 0 ≤ cmp (bst es).last x.1) := fun h => herr (.inr ⟨rfl, h⟩)
            have HO : Hid (Calls Tryz.prog 96 #[.pointer (some ⟨g, 0, none⟩)] (wr.drewN nq).drew fun r w6 => ∃ (ak : Option Addr) (nk ck : Nat) (av : Option Addr) (nv cv : Nat) (vl' vr' : Value), r = .returned (.agg #[.slice ak nk ck, .slice av nv cv]) ∧
                OwT fB w6 (wr.drewN nq).drew.heap.size 5 (sv (ak, nk, ck)) x.1 ∧ OwT fB w6 (wr.drewN nq).drew.heap.size 5 (sv (av, nv, cv)) x.2 ∧ Rdr w6 w.heap.size g ab b.length cb n (k + 1) q' vl' vr' x.1 (bruns 0 ps ++ if k % 8 = 0 then [m] else []) ∧
                (∀ j, RdS g vl' vr' j → RdS g vl vr j ∨ (wr.drewN nq).drew.heap.size ≤ j) ∧ (∀ j, RdS g vl' vr' j → (sv (ak, nk, ck)).ownBlock ≠ some j ∧ (sv (av, nv, cv)).ownBlock ≠ some j) ∧ Turns (RdS g vl vr) (wr.drewN nq).drew w6) := Lib.hid (NXW.out.mono fun r w' hp => by
              obtain ⟨x2, q2, er2, hx2, ht, p1, p2, p3⟩ := hp
              rw [hx] at hx2
              simp only [Prod.mk.injEq] at hx2
              obtain ⟨rfl, rfl, rfl⟩ := hx2
              obtain ⟨vk, vv, vl', vr', mid, rfl, o1, o2, o3, o4, hR, hS, hD⟩ := p3 rfl hlow
              obtain ⟨ak, nk, ck, rfl, -⟩ := o1.slN
              obtain ⟨av, nv, cv, rfl, -⟩ := o2.slN
              exact ⟨ak, nk, ck, av, nv, cv, vl', vr', rfl, o1, o2.base o4, hR, hS, hD, ht⟩)
            have STP := Lib.hid (fun (w6 w8 : World) (o : Obj) (x1 x2 : Sv) (vl' vr' v8 : Value) => S.out.step (w6 := w6) (w8 := w8) (o := o) (x1 := x1) (x2 := x2) (vl' := vl') (vr' := vr') (v8 := v8) hk hn64 hbk hgl hx hlow (keep_drewN (keep_drewN (Below.refl wr.heap.size wr) nq) 1))
            have LS := Lib.hid (S.out.ls.keep (keep_drewN (keep_drewN (Below.refl wr.heap.size wr) nq) 1))
            have DIS := Lib.hid S.out.dis
            have RIN := Lib.hid S.out.rd.inS
            have hvl : vs.length ≤ 64 := by have := S.out.ls.len; have := S.out.el; omega
            have hwz : w.heap.size ≤ wr.heap.size := S.out.tu.size
            have hglr : gl < wr.heap.size := by omega
            have BX := Lib.hid S.out.box
            have DON := Lib.hid S.out.rd.doneOf
            clear hx hlow herr t1 t1' NX NXW S' S c1 c2
            go_region_law (first
              | (refine step_appZ eltTE zE_ok rfl (.tmp 14) (.tmp 17) rfl w.heap.size (.slice ay ny cy) vs (by simp [Act.eval]) (LS6.out.own.keep ((Below.refl _ _).alloc (Nat.le_refl _) _)) (some ⟨w6.heap.size, 0, none⟩) 1 1 [((ak, nk, ck), (av, nv, cv))] (by simp [Act.eval]) (SlT.lit1 _ _ _ _ rfl) (by unfold maxLen; omega) (by omega) (by simp <;> omega) (vs ++ [((ak, nk, ck), (av, nv, cv))]) rfl ?_; intro v8 w8 h8 hg8 hv8 hb8; obtain ⟨a8, n8, c8, rfl, -, -⟩ := h8.t.slE; obtain ⟨cc, ff, hS8⟩ := STP.out w6 w8 _ _ _ _ _ _ T6.out R6.out S6.out O1.out O2.out D6.out h8 hg8 hv8; have S8 := Lib.hid hS8; clear hS8 h8 hg8 hv8 hb8)
              | (go_simp; go_at_call 96; refine HO.out.mono ?_; rintro r w6 ⟨ak, nk, ck, av, nv, cv, vl', vr', rfl, o1, o2, hR6, hS6, hD6, hT6⟩; have O1 := Lib.hid o1; have O2 := Lib.hid o2; have R6 := Lib.hid hR6; have S6 := Lib.hid hS6; have D6 := Lib.hid hD6; have T6 := Lib.hid hT6; have LS6 := Lib.hid (LS.out.turns hT6 fun j hj => DIS.out j hj); have bx6 := cell_of (hT6.heap BX.out fun h => by have := (RIN.out gl h).1; omega) 0 rfl; have hz6 : wr.heap.size ≤ w6.heap.size := hT6.size; have hg6 : gl < w6.heap.size := (by omega); have hg6' : gl ≠ w6.heap.size := (by omega); clear o1 o2 hR6 hS6 hD6 hT6))
            all_goals
              go_wp2_with fail
              go_roundw
              case rel => exact ⟨_, _, _, _, _, _, _, _, S8.out⟩
              case measure =>
                rw [S8.out.rd.doneOf, DON.out]
                omega
        · have t1 : decide ((k : Int) < (n : Nat)) = false := decide_eq_false (by omega)
          have t1' : decide (k < n) = false := decide_eq_false hk
          obtain rfl : k = n := by have := S.out.kn; omega
          have hX := S.out.eq
          rw [Nat.sub_self] at hX
          have BE2 := Lib.hid (BE.out.trans hX.symm)
          have hk64 : k ≤ 64 := by have := HN.out; omega
          have ND := Lib.hid (fun nq : Nat => bend_any w.heap.size g ab b.length cb k k m vl vr (bst es).last (bruns 0 ps) b (wr.drewN nq) hb S.out.mb (by have := bruns_len 0 ps; have := S.out.pl; omega) (fun x hx => S.out.pr x (bruns_mem _ _ _ hx)) (S.out.rd.drewN nq) (B.out.drewN nq) fun bb oo e e2 => (HAB.out bb oo e e2).2)
          clear hX
          go_wp2_with fail
          go_quiet (fail)
          go_wp2_with fail
          refine (ND.out nq).mono ?_
          rintro r w2 ⟨hT, p1, p2⟩
          obtain ⟨⟨q2, e2⟩, hbt⟩ : ∃ R, btable b (bwant (bruns 0 ps)) m = R := ⟨_, rfl⟩
          rw [hbt] at p1 p2
          have TF := S.out.tu.trans_below (keep_drewN (Below.refl _ _) nq) |>.trans hT fun j hj e => by have := (S.out.rd.low); omega
          by_cases he2 : e2 = 0
          · subst he2
            obtain rfl := p1 rfl
            have hbr := bread_ok BE2.out hbt
            have bx2 : w2.heap[gl]? = some (.cells #[.slice ay ny cy] 48 (0, 0)) := hT.heap S.out.box fun e => by have := S.out.rd.low; omega
            have ls2 := (S.out.ls.keep (keep_drewN (Below.refl _ _) nq)).turns hT fun j hj e => S.out.dis j hj (.inl e)
            have FIN := Lib.hid (show DoPost w gl b 0 0 w2 from ⟨by rw [hbr], by rw [hbr]; rfl, TF, fun _ => ⟨_, vs, bx2, by rw [hbr]; exact ls2⟩⟩)
            clear hbt hbr bx2 ls2 TF p1 p2 hT
            go_wp2_with fail
            go_end0
            exact ⟨0, 0, .inl ⟨rfl, rfl, rfl⟩, FIN.out⟩
          · obtain rfl := p2 he2
            have hbr := bread_tab (p' := 0) BE2.out hbt he2
            have FIN := Lib.hid (show DoPost w gl b e2 q2 w2 from ⟨by rw [hbr], by rw [hbr], TF, fun e => absurd e he2⟩)
            unfold wrongBy
            clear hbt hbr TF p1 p2 hT
            go_wp2_with fail
            exact ⟨rfl, e2, q2, .inr rfl, FIN.out⟩
  · obtain rfl := h1 hz
    have hbr := bread_no (bentries_no hrd hz) hz
    unfold wrongBy
    go_wp2_with fail
    exact ⟨rfl, er, q, .inr rfl, by rw [hbr], by rw [hbr], .of_below hb1, fun e => absurd e hz⟩
theorem RdL.low {w : World} {lo lo' : Nat} {y : Value} {vs : List (Sv × Sv)} {es : List Ent} (h : RdL w lo y vs es) (hl : lo' ≤ lo) : RdL w lo' y vs es :=
  ⟨⟨h.own.base hl, h.len, fun i x e hx he => ⟨(h.txt i x e hx he).1.base hl, (h.txt i x e hx he).2.base hl⟩, h.off⟩, h.apt⟩
/-- behind Read -/
def BrdPost (w : World) (b : List UInt8) (r : Ending) (w' : World) : Prop :=
  Below w.heap.size w w' ∧ ∃ y vs, r = .returned (.tuple #[y, .int .i64 (bread b).2.2, .int .i64 ((bread b).2.1 : Nat)]) ∧ RdL w' w.heap.size y vs (bread b).1
theorem bread_zero {b : List UInt8} : ((bread b).2.2 = 0 → (bread b).2.1 = 0) ∧ ((bread b).2.2 ≠ 0 → (bread b).1 = []) := by
  unfold bread
  split
  · rename_i h; exact ⟨fun e => absurd e h, fun _ => rfl⟩
  · split
    · rename_i h; exact ⟨fun e => absurd e h, fun _ => rfl⟩
    · exact ⟨fun _ => rfl, fun h => absurd rfl h⟩
set_option maxRecDepth 100000 in
set_option maxHeartbeats 8000000 in
theorem bread_any (ab : Option Addr) (nb cb : Nat) (b : List UInt8) (w : World) (hb : nb ≤ 140737499999999) (hB : Sl Bf w ab nb cb b) :
    Calls Tryz.prog 91 #[.slice ab nb cb] w (BrdPost w b) := by
  have hmf : ∀ (fn : Fn) (first cap : Array Value) (w : World), (Instr.makeFunc fn first cap).run Tryz.prog w = .ok (.func fn first cap) w := fun _ _ _ _ => rfl
  obtain ⟨w2, hw2⟩ : ∃ w2, (w.alloc (.cells #[.slice ab nb cb] 22)).alloc (.cells #[.slice none 0 0] 48) = w2 := ⟨_, rfl⟩
  have hs2 : w2.heap.size = w.heap.size + 2 := by rw [← hw2]; simp
  have hb2 : Below w.heap.size w w2 := by rw [← hw2]; exact ((Below.refl _ _).alloc (Nat.le_refl _) _).alloc (by simp) _
  have hg1 : w2.heap[w.heap.size]? = some (.cells #[.slice ab nb cb] 22 (0, 0)) := by
    rw [← hw2]
    exact (((Below.refl _ (w.alloc (.cells #[.slice ab nb cb] 22))).alloc (Nat.le_refl _) _).block w.heap.size (by simp)).trans (heap_new w _)
  have hg2 : w2.heap[w.heap.size + 1]? = some (.cells #[.slice none 0 0] 48 (0, 0)) := by
    have := heap_new (w.alloc (.cells #[.slice ab nb cb] 22)) (.cells #[.slice none 0 0] 48)
    rw [show (w.alloc (.cells #[.slice ab nb cb] 22)).heap.size = w.heap.size + 1 by simp] at this
    rw [← hw2]; exact this
  obtain ⟨w3, hw3⟩ : ∃ w3, w2.alloc (.cells #[.int .i64 0, .int .i64 0] 158) = w3 := ⟨_, rfl⟩
  have hb3 : Below w2.heap.size w2 w3 := by rw [← hw3]; exact (Below.refl _ _).alloc (Nat.le_refl _) _
  have hW : WB w3 w2.heap.size 0 0 := by rw [← hw3]; exact heap_new w2 _
  have hs3 : w3.heap.size = w.heap.size + 3 := by rw [← hw3]; simp [hs2]
  have hlt : ∀ bb oo, ab = some ⟨bb, oo, none⟩ → 0 < nb → bb < w.heap.size := fun bb oo e h => by subst e; exact hB.blt h
  have TR := Lib.hid (tried_any 130 #[.pointer (some ⟨w.heap.size, 0, none⟩), .pointer (some ⟨w.heap.size + 1, 0, none⟩)] (DoPost w3 (w.heap.size + 1) b) w2 (fun args W => MuLone.run_callFunc_enter Tryz.func130 (by kernel_rfl) rfl args W) (by
    rw [hw3]
    refine (bdo_any w.heap.size (w.heap.size + 1) ab nb cb b w3 hb ((hB.keep hb2).keep hb3) ((hb3.block _ (by omega)).trans hg1) ((hb3.block _ (by omega)).trans hg2) (by omega) ?_).mono ?_
    · exact fun bb oo e h => ⟨by have := hlt bb oo e h; omega, by have := hlt bb oo e h; omega⟩
    · rintro r w' ⟨e, q, h1, h2⟩
      exact ⟨e, q, h1, h2, h2.2.2.1.heap hW (by omega)⟩))
  have HS := Lib.hid (And.intro hs2 hs3)
  have HB2 := Lib.hid hb2
  have HB3 := Lib.hid hb3
  clear hg1 hg2 hW hs2 hs3 hb2 hb3 hw3 hlt hB
  go_enter Tryz.func91, Tryz.ntmps91
  go_wp2_with fail
  try (rw [hw2])
  refine TR.out.mono ?_
  rintro r w5 ⟨e, q, w4, rfl, ⟨he, hq, hT, hL⟩, hT5⟩
  have hz : w3.heap.size ≤ w5.heap.size := Nat.le_trans hT.size hT5.size
  have T35 : Turns (fun j => j = w.heap.size + 1 ∨ j = w2.heap.size) w3 w5 := (hT.mono fun j _ h => .inl h).trans hT5 fun j _ h => .inr h
  have hs2 := HS.out.1
  have hs3 := HS.out.2
  have BF := Lib.hid (T35.below (HB2.out.trans (HB3.out.mono (by omega))) (by omega) (fun j h => by omega))
  have HE := Lib.hid he
  have HQ := Lib.hid hq
  have hsz : w.heap.size + 3 ≤ w5.heap.size := by omega
  by_cases hz0 : e = 0
  · subst hz0
    obtain ⟨y, vs, hbx, hls⟩ := hL rfl
    obtain ⟨ay, ny, cy, rfl, -, -⟩ := hls.own.t.slE
    have LS := Lib.hid ((hls.turns hT5 fun j hj e => by have := (hls.inB j hj).1; omega).low (show w.heap.size ≤ w3.heap.size by omega))
    have BX := Lib.hid (hT5.heap hbx (by omega))
    have bx := cell_of BX.out 0 rfl
    have h51 : w.heap.size + 1 < w5.heap.size := by omega
    have h52 : w.heap.size + 1 ≠ w5.heap.size := by omega
    clear hbx hls hL hT hT5 T35 he hq hs2 hs3
    go_wp2_with fail
    go_ret3
    have ha : ∀ o, Below w5.heap.size w5 (w5.alloc o) := fun o => (Below.refl _ _).alloc (Nat.le_refl _) o
    exact ⟨BF.out.trans ((ha _).mono (by omega)), .slice ay ny cy, vs, by rw [← HE.out, bread_zero.1 HE.out.symm]; rfl, LS.out.keep (ha _)⟩
  · have t1 : (e != 0) = true := by rw [bne_iff_ne]; exact hz0
    have HZ := Lib.hid hz0
    clear hL hT hT5 T35 he hq hs2 hs3 hz0
    go_wp2_with fail
    go_quiet (fail)
    go_wp2_with fail
    go_ret3
    have ha : ∀ o, Below w5.heap.size w5 (w5.alloc o) := fun o => (Below.refl _ _).alloc (Nat.le_refl _) o
    exact ⟨keep_drewN (BF.out.trans ((ha _).mono (by omega))) _, .slice none 0 0, [], by rw [← HE.out, ← HQ.out]; rfl, by rw [bread_zero.2 (by rw [← HE.out]; exact HZ.out)]; exact RdL.nil _ _⟩
end Go.Proofs.YtljcogimeimknaaGreat

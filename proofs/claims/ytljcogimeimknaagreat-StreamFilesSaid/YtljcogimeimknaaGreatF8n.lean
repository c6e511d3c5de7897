/- Several texts in one: PairPZ, BlockNext. Each has its own sentence and conditions below. -/
import Derived.Test.YtljcogimeimknaaGreatPairRead
import Derived.Test.YtljcogimeimknaaGreatF8q
import Derived.Test.YtljcogimeimknaaGreatK8b
import Derived.Deep.RegionLaw
import Derived.Deep.DeepCutAuto
/- What is read of bytes behind a text, from any place: contract of the program's. Conditions: the texts within reach. -/
namespace Go.Proofs.YtljcogimeimknaaGreat
open Go.RowKit
set_option linter.unusedVariables false

theorem epread_z (ap : Option Addr) (np cp : Nat) (p : List UInt8) (ab : Option Addr) (nb cb : Nat) (b : List UInt8) (z : Int) (w : World) (hp : np ≤ 140737488351232) (hb : nb ≤ 140737499999999) (h0 : Sl Bf w ap np cp p) (h1 : Sl Bf w ab nb cb b) :
    Calls Tryz.prog 135 #[.slice ap np cp, .slice ab nb cb, .int .i64 z] w fun e w' => RdPost w (erd p b z).1.1 (erd p b z).1.2 (erd p b z).2.1 (erd p b z).2.2 e w' := by
  have hl := h1.len
  unfold erd
  by_cases hz : 0 ≤ z ∧ z ≤ b.length
  · rw [if_pos hz]
    obtain ⟨a, rfl⟩ : ∃ a : Nat, z = a := ⟨z.toNat, by omega⟩
    exact epread_any ap np cp p ab nb cb b a w hp hb (by omega) h0 h1
  · rw [if_neg hz]
    exact epread_bad ap np cp ab nb cb z w hb (by omega)
end Go.Proofs.YtljcogimeimknaaGreat
/- A reader of blocks: a step: contract. Conditions: the bytes within reach, apart from the reader; few restarts. Written by a program of this place (gen_BlockNext.py). -/
namespace Go.Proofs.YtljcogimeimknaaGreat
open Go.RowKit
set_option linter.unusedVariables false

theorem kd1 {w : World} : Below w.heap.size w w.drew := keep_drewN (Below.refl _ _) 1
theorem kdA {w : World} (o : Obj) : Below w.heap.size w (w.alloc o).drew := keep_drewN ((Below.refl _ _).alloc (Nat.le_refl _) o) 1
theorem ReadCut.b {w w2 : World} {x : Ent} {q mid : Nat} {er : Int} {vk vv : Value} (o1 : OwT fB w2 w.heap.size 5 vk x.1) (o2 : OwT fB w2 mid 5 vv x.2) (o3 : ∀ j, vk.ownBlock = some j → j < mid) (o4 : w.heap.size ≤ mid) (hb1 : Below w.drew.heap.size w.drew w2) :
    ReadCut w x q er (.pointer (some ⟨w2.heap.size, 0, none⟩)) (.int .i64 q) (.int .i64 er) (w2.alloc (.cells #[vk, vv] 51)) := by
  have hb : Below w.heap.size w w2 := kd1.trans hb1
  have h : Below w2.heap.size w2 (w2.alloc (.cells #[vk, vv] 51)) := (Below.refl _ _).alloc (Nat.le_refl _) _
  exact ⟨_, vk, vv, mid, rfl, rfl, rfl, heap_new w2 _, o1.keep h, o2.keep h, o3, o4, hb.size, hb.trans (h.mono hb.size)⟩
theorem ReadCut.a {w w2 : World} {x : Ent} {q mid : Nat} {er : Int} {vk vv y0 y1 : Value} {o : Obj} (e : Eb w2 w.heap.size y0 y1) (o1 : OwT fB w2 (w.alloc o).drew.heap.size 5 vk x.1) (o2 : OwT fB w2 mid 5 vv x.2) (o3 : ∀ j, vk.ownBlock = some j → j < mid) (o4 : (w.alloc o).drew.heap.size ≤ mid) (hb : Below (w.alloc o).drew.heap.size (w.alloc o).drew w2) :
    ReadCut w x q er (.pointer (some ⟨w.heap.size, 0, none⟩)) (.int .i64 q) (.int .i64 er) ((w2.setCell ⟨w.heap.size, 0, none⟩ vk).setCell ⟨w.heap.size, 1, none⟩ vv) := by
  have hs : (w.alloc o).drew.heap.size = w.heap.size + 1 := by show (w.alloc o).heap.size = _; simp
  rw [hs] at o1 o4
  have hb0 : Below w.heap.size w w2 := (kdA o).trans (hb.mono (by rw [hs]; omega))
  have q1 : w.heap.size ≤ w.heap.size := Nat.le_refl _
  exact ⟨_, vk, vv, mid, rfl, rfl, rfl, (e.set0 vk).set1 vv, ((o1.offB (by omega) 0 vk).offB (by omega) 1 vv).base (by omega), (o2.offB (by omega) 0 vk).offB (by omega) 1 vv, o3, by omega, q1, (hb0.setCell (p := ⟨w.heap.size, 0, none⟩) q1 _).setCell (p := ⟨w.heap.size, 1, none⟩) q1 _⟩
set_option maxRecDepth 100000 in
set_option maxHeartbeats 8000000 in
theorem bnext_plain (lo g : Nat) (ab : Option Addr) (nb cb n d a : Nat) (vl vr : Value) (last : List UInt8) (runs : List Nat) (b : List UInt8) (w : World)
    (hb : nb ≤ 140737499999999) (hd : d ≤ 1000) (ha : a ≤ 4611686018427387903) (hl : last.length ≤ 64) (hr : runs.length ≤ 1000) (h8 : ¬ d % 8 = 0) (hR : Rdr w lo g ab nb cb n d a vl vr last runs) (hB : Sl Bf w ab nb cb b) (hlo : ∀ b o, ab = some ⟨b, o, none⟩ → 0 < nb → b < lo) :
    Calls Tryz.prog 96 #[.pointer (some ⟨g, 0, none⟩)] w (NextPost w lo g ab nb cb n d a vl vr last runs b) := by
  obtain ⟨p, hp⟩ : ∃ p, (if d % 8 = 0 then [] else last) = p := ⟨_, rfl⟩
  obtain ⟨⟨x, q, er⟩, hq⟩ : ∃ R, erd p b a = R := ⟨_, rfl⟩
  have HQ := Lib.hid (show erd (if d % 8 = 0 then [] else last) b a = (x, q, er) by rw [hp]; exact hq)
  have ho := fun (ap : Option Addr) (np cp : Nat) (W : World) (hn : np ≤ 140737488351232) (h1 : Sl Bf W ap np cp p) (h2 : Sl Bf W ab nb cb b) => hq ▸ epread_z ap np cp p ab nb cb b a W hn hb h1 h2
  have HRD := Lib.hid ho
  have B := Lib.hid hB
  have R := Lib.hid hR
  have lg := hR.lt
  have HLO := Lib.hid hlo
  have HL := Lib.hid hl
  have HR := Lib.hid hr
  have H8 := Lib.hid h8
  have HP := Lib.hid hp
  have EIN := Lib.hid (fun (e : er = 0) => erd_in (p := p) (b := b) (z := a) (x := x) (q := q) (e ▸ hq))
  have t1 : ((d : Int) % 8 == 0) = false := by rw [beq_eq_false_iff_ne]; omega
  have t2 : (d % 8 == 0) = false := by rw [beq_eq_false_iff_ne]; omega
  have TU := Lib.hid (Turns.refl (RdS g vl vr) w)
  have VRI := Lib.hid hR.inS
  clear hp hq ho hR hB hlo hl hr h8
  have hb1 : Below w.heap.size w (w.alloc (.cells #[.slice none 0 0, .slice none 0 0] 51)) := (Below.refl _ _).alloc (Nat.le_refl _) _
  have E2 := Lib.hid (show Eb (w.alloc (.cells #[.slice none 0 0, .slice none 0 0] 51)) w.heap.size (.slice none 0 0) (.slice none 0 0) from heap_new w _)
  replace B := Lib.hid (B.out.keep hb1)
  replace R := Lib.hid (R.out.keep hb1)
  replace TU := Lib.hid (TU.out.trans_below hb1)
  have HB := Lib.hid (show w.heap.size ≤ (w.alloc (.cells #[.slice none 0 0, .slice none 0 0] 51)).heap.size from hb1.size)
  clear hb1
  go_enter Tryz.func96, Tryz.ntmps96
  go_upto_region 1 with (fail)
  obtain ⟨g2, hg2⟩ : ∃ z, w.heap.size = z := ⟨_, rfl⟩
  rw [hg2] at E2 HB
  have HS := Lib.hid (show w.heap.size ≤ g2 by omega)
  rw [hg2] at lg ⊢
  clear hg2
  generalize w.alloc (.cells #[.slice none 0 0, .slice none 0 0] 51) = w1 at *
  have hgg : g ≠ g2 := by omega
  have hg2 : g2 < w1.heap.size := E2.out.lt
  have VRS := Lib.hid (show ∀ j, RdS g vl vr j → RdS g vl vr j ∨ w.heap.size ≤ j from fun j hj => .inl hj)
  have VR2 := Lib.hid (show ∀ j, RdS g vl vr j → j ≠ g2 ∧ j < w1.heap.size from fun j hj => by have := (VRI.out j hj).2; have := HS.out; omega)
  have c0 := R.out.c0
  have c1 := R.out.c1
  have c2 := R.out.c2
  have c3 := R.out.c3
  have c4 := R.out.c4
  have c5 := R.out.c5
  obtain ⟨aL, nL, cL, hvl, zl⟩ := R.out.rl.slN
  have HVL := Lib.hid hvl
  rw [hvl] at c4
  have ZL := Lib.hid zl
  clear hvl zl
  go_upto_region 6 with (fail)
  have H1 := Lib.hid (fun (W : World) (hW : Below w1.heap.size w1 W) => HRD.out aL nL cL W (by have := ZL.out.len; have := HL.out; omega) (((by have := HP.out; rw [if_neg H8.out] at this; exact this : last = p) ▸ ZL.out).keep hW) (B.out.keep hW))
  have EA := Lib.hid (show Eb (w1.alloc (.cells #[.slice none 0 0, .slice none 0 0] 51)).drew w1.heap.size (.slice none 0 0) (.slice none 0 0) from heap_new w1 _)
  have HK := Lib.hid (H1.out _ kd1)
  have HA := Lib.hid (H1.out _ (kdA (.cells #[.slice none 0 0, .slice none 0 0] 51)))
  clear HRD H1
  have lgw : g < w1.heap.size := R.out.lt
  have hg2 : g2 < w1.heap.size := E2.out.lt
  have lgn : g ≠ w1.heap.size := by omega
  go_cut [5, 6, 7] (fun b5 b6 b7 wx => ReadCut w1 x q er b5 b6 b7 wx)
  case first =>
    go_region_with ((go_at_call 135; first | (refine HK.out.mono ?_; rintro r w2 ⟨vk, vv, mid, rfl, o1, o2, o3, o4, hb6⟩; obtain ⟨ak, nk, ck, rfl, zk⟩ := o1.slN; obtain ⟨av, nv, cv, rfl, zv⟩ := o2.slN) | (refine HA.out.mono ?_; rintro r w2 ⟨vk, vv, mid, rfl, o1, o2, o3, o4, hb6⟩; obtain ⟨ak, nk, ck, rfl, zk⟩ := o1.slN; obtain ⟨av, nv, cv, rfl, zv⟩ := o2.slN; have eb := Eb.keep EA.out hb6; have x0 := eb.c0; have x1 := eb.c1; have f0 := eb.free 0; have f1 := eb.free 1)))
    all_goals
      go_wp2_with fail
      go_meet
      first | exact .b o1 o2 o3 o4 hb6 | exact .a eb o1 o2 o3 o4 hb6
  case rest =>
    obtain ⟨w5, rfl⟩ : ∃ w5, w5 = wc := ⟨_, rfl⟩
    obtain ⟨ge, vk, vv, mid, rfl, rfl, rfl, he, o1, o2, o3, o4, hge, hb5⟩ := hcut
    obtain ⟨ak, nk, ck, rfl, zk⟩ := o1.slN
    obtain ⟨av, nv, cv, rfl, zv⟩ := o2.slN
    replace R := Lib.hid (R.out.keep hb5)
    replace TU := Lib.hid (TU.out.trans_below hb5)
    replace ZL := Lib.hid (ZL.out.keep hb5)
    replace E2 := Lib.hid (E2.out.keep hb5)
    have hlw : w1.heap.size ≤ w5.heap.size := hb5.size
    have EB := Lib.hid he
    have O1 := Lib.hid o1
    have O2 := Lib.hid o2
    have O3 := Lib.hid o3
    have ZK := Lib.hid zk
    clear c0 c1 c2 c3 c4 c5 HK HA EA he o1 o2 o3 zk zv hb5
    have c2 := R.out.c2
    have c3 := R.out.c3
    have c4 := R.out.c4
    rw [HVL.out] at c4
    by_cases hz : er = 0
    · subst hz
      have I := EIN.out rfl
      have HX := Lib.hid I
      have r1 : IntKind.i64.wrap ((d : Int) + 1) = ((d + 1 : Nat) : Int) := by have := IntWalk.i64_in ((d : Int) + 1) (by omega); rw [this]; omega
      have lg5 : g < w5.heap.size := R.out.lt
      have f2 := R.out.free 2
      have f3 := R.out.free 3
      have f4 := R.out.free 4
      clear EIN I
      go_wp2_with fail
      go_quiet (fail)
      go_upto_region 12 with (fail)
      have hR6 : Rdr ((w5.drewN nq).setCell ⟨g, 2, none⟩ (.int .i64 ((d : Int) + 1))) lo g ab nb cb n (d + 1) a vl vr last runs := (R.out.drewN nq).num (d + 1)
      have hk6 : Turns (fun j => j = g) w5 ((w5.drewN nq).setCell ⟨g, 2, none⟩ (.int .i64 ((d : Int) + 1))) := ((Turns.refl (fun j => j = g) w5).drewN nq).trans (T := fun j => j = g) (Turns.set (S := fun j => j = g) _ rfl _) fun _ _ t => t
      have hs6 : ((w5.drewN nq).setCell ⟨g, 2, none⟩ (.int .i64 ((d : Int) + 1))).heap.size = w5.heap.size := by simp
      generalize (w5.drewN nq).setCell ⟨g, 2, none⟩ (.int .i64 ((d : Int) + 1)) = w6 at *
      have R6 := Lib.hid hR6
      have K6 := Lib.hid hk6
      clear hR6 hk6 c2 c3 c4 f2 f3 f4 R
      have c3 := R6.out.c3
      have f3 := R6.out.free 3
      go_upto_region 13 with (fail)
      have hR7 := R6.out.place q
      have hk7 := K6.out.trans (T := fun j => j = g) (Turns.set (S := fun j => j = g) w6 (b := g) (i := 3) rfl (.int .i64 (q : Nat))) fun _ _ t => t
      have hs7 : (w6.setCell ⟨g, 3, none⟩ (.int .i64 (q : Nat))).heap.size = w5.heap.size := by simp [hs6]
      generalize w6.setCell ⟨g, 3, none⟩ (.int .i64 (q : Nat)) = w7 at *
      have R7 := Lib.hid hR7
      have K7 := Lib.hid hk7
      clear hR7 hk7 c3 f3 R6 K6 hs6
      replace EB := Lib.hid (show Eb w7 ge (.slice ak nk ck) (.slice av nv cv) from K7.out.heap EB.out (fun e => by have := lgw; omega))
      replace E2 := Lib.hid (show Eb w7 g2 (.slice none 0 0) (.slice none 0 0) from K7.out.heap E2.out (fun e => by omega))
      replace O1 := Lib.hid (O1.out.turns K7.out fun j hj e => by have := (O1.out.lt j hj).1; omega)
      replace O2 := Lib.hid (O2.out.turns K7.out fun j hj e => by have := (O2.out.lt j hj).1; omega)
      replace ZK := Lib.hid (ZK.out.turns K7.out fun bb oo e1 e2 e3 => by have := (O1.out.lt bb (by rw [e1]; rfl)).1; omega)
      have e0 := EB.out.c0
      have e1 := EB.out.c1
      have c4 := R7.out.c4
      rw [HVL.out] at c4
      have HC := Lib.hid (clone_any ak nk ck x.1 w7 (by have := ZK.out.len; have := HX.out.2.1; omega) ZK.out)
      go_wp2_with fail
      refine HC.out.mono ?_
      rintro r w8 ⟨vn, rfl, hn8, hb8⟩
      obtain ⟨an, nn, cn, rfl, zn⟩ := hn8.slN
      have hz8 : w7.heap.size ≤ w8.heap.size := hb8.size
      have R8 := Lib.hid (R7.out.keep hb8)
      replace EB := Lib.hid (EB.out.keep hb8)
      replace E2 := Lib.hid (E2.out.keep hb8)
      have KB1 := Lib.hid (fun j hj => (O1.out.lt j hj).2)
      have KB2 := Lib.hid (fun j hj => (O2.out.lt j hj).2)
      replace O1 := Lib.hid (O1.out.keep hb8)
      replace O2 := Lib.hid (O2.out.keep hb8)
      have IN7 := Lib.hid R7.out.inS
      have K8 := Lib.hid (K7.out.trans_below hb8)
      have LT1 := Lib.hid (fun j hj => (hn8.lt j hj).1)
      have hR9 := R8.out.key (hn8.base (by have := R7.out.low; have := R7.out.lt; omega)) (fun j hj hs => by have h1 := (hn8.lt j hj).1; have h2 := (IN7.out j hs).2; omega) HX.out.1
      have R9 := Lib.hid hR9
      clear hR9 zn hn8 hb8 HC c4 e0 e1
      have c4 := R8.out.c4
      rw [HVL.out] at c4
      have f4 := R8.out.free 4
      go_upto_region 14 with (fail)
      have hs9 : (w8.setCell ⟨g, 4, none⟩ (.slice an nn cn)).heap.size = w8.heap.size := by simp
      have hk9 := K8.out.trans (T := fun j => j = g) (Turns.set (S := fun j => j = g) w8 (b := g) (i := 4) rfl (.slice an nn cn)) fun _ _ t => t
      have hk9' := Turns.set (S := fun j => j = g) w8 (b := g) (i := 4) rfl (.slice an nn cn)
      generalize w8.setCell ⟨g, 4, none⟩ (.slice an nn cn) = w9 at *
      have K9 := Lib.hid hk9
      have K9' := Lib.hid hk9'
      clear hk9 hk9' c4 f4
      replace EB := Lib.hid (show Eb w9 ge (.slice ak nk ck) (.slice av nv cv) from K9'.out.heap EB.out (fun e => by omega))
      replace E2 := Lib.hid (show Eb w9 g2 (.slice none 0 0) (.slice none 0 0) from K9'.out.heap E2.out (fun e => by omega))
      have e0 := EB.out.c0
      have e1 := EB.out.c1
      have d0 := E2.out.c0
      have d1 := E2.out.c1
      have h0 := E2.out.free 0
      have h1 := E2.out.free 1
      have hge2 : ge ≠ g2 := by omega
      go_wp2_with fail
      have hz7 : w1.heap.size ≤ w7.heap.size := by omega
      have T2 : Turns (fun j => j = g2) w9 ((w9.setCell ⟨g2, 0, none⟩ (.slice ak nk ck)).setCell ⟨g2, 1, none⟩ (.slice av nv cv)) := (Turns.set (S := fun j => j = g2) w9 (b := g2) (i := 0) rfl _).trans (T := fun j => j = g2) (Turns.set (S := fun j => j = g2) _ (b := g2) (i := 1) rfl _) fun _ _ t => t
      have EF := (E2.out.set0 (.slice ak nk ck)).set1 (.slice av nv cv)
      generalize (w9.setCell ⟨g2, 0, none⟩ (.slice ak nk ck)).setCell ⟨g2, 1, none⟩ (.slice av nv cv) = wF at *
      have KF : Turns (fun j => j = g ∨ j = g2) w8 wF := (K9'.out.mono fun j _ e => .inl e).trans T2 fun j _ e => .inr e
      have d0 := EF.c0
      have d1 := EF.c1
      refine bodyPost_ret (v := .agg #[.slice ak nk ck, .slice av nv cv]) (by simp [results, Tryz.results96, d0, d1, go_sem]) rfl ⟨x, q, 0, HQ.out, ?_, fun e => absurd rfl e, fun _ h => absurd h.1 H8.out, fun _ _ => ⟨.slice ak nk ck, .slice av nv cv, .slice an nn cn, vr, mid, rfl, ?_, ?_, O3.out, by have := HS.out; have := HB.out; omega, ?_, fun j hj => ?_, fun j hj => ?_⟩⟩
      · exact (TU.out.trans K9.out fun j _ e => .inl e).trans T2 fun j hj e => by have := HS.out; omega
      · exact (O1.out.turns KF fun j hj e => by have := (O1.out.lt j hj).1; rcases e with e | e <;> omega).base (by have := HS.out; have := HB.out; omega)
      · exact O2.out.turns KF fun j hj e => by have := (O2.out.lt j hj).1; rcases e with e | e <;> omega
      · rw [if_neg H8.out, List.append_nil]
        exact R9.out.turns T2 fun j hj e => by
          rcases hj with h | h | h
          · omega
          · have := LT1.out j h; omega
          · exact (VR2.out j (.inr (.inr h))).1 e
      · rcases hj with h | h | h
        · exact .inl (.inl h)
        · exact .inr (by have := LT1.out j h; have := HS.out; have := HB.out; omega)
        · exact VRS.out j (.inr (.inr h))
      · have hin : j < w1.heap.size ∨ w7.heap.size ≤ j := by
          rcases hj with h | h | h
          · left; omega
          · exact .inr (LT1.out j h)
          · exact .inl (VR2.out j (.inr (.inr h))).2
        refine ⟨fun e => ?_, fun e => ?_⟩
        · have h1 := (O1.out.lt j e).1; have h2 := KB1.out j e; omega
        · have h1 := (O2.out.lt j e).1; have h2 := KB2.out j e; omega
    · have t3 : (er != 0) = true := by rw [bne_iff_ne]; exact hz
      have HZ := Lib.hid hz
      clear hz
      go_wp2_with fail
      exact ⟨rfl, x, q, er, HQ.out, TU.out, fun _ => rfl, fun e => absurd e HZ.out, fun e => absurd e HZ.out⟩
set_option maxRecDepth 100000 in
set_option maxHeartbeats 8000000 in
theorem bnext_rest (lo g : Nat) (ab : Option Addr) (nb cb n d a : Nat) (vl vr : Value) (last : List UInt8) (runs : List Nat) (b : List UInt8) (w : World)
    (hb : nb ≤ 140737499999999) (hd : d ≤ 1000) (ha : a ≤ 4611686018427387903) (hl : last.length ≤ 64) (hr : runs.length ≤ 1000) (h8 : d % 8 = 0) (hR : Rdr w lo g ab nb cb n d a vl vr last runs) (hB : Sl Bf w ab nb cb b) (hlo : ∀ b o, ab = some ⟨b, o, none⟩ → 0 < nb → b < lo) :
    Calls Tryz.prog 96 #[.pointer (some ⟨g, 0, none⟩)] w (NextPost w lo g ab nb cb n d a vl vr last runs b) := by
  obtain ⟨p, hp⟩ : ∃ p, (if d % 8 = 0 then [] else last) = p := ⟨_, rfl⟩
  obtain ⟨⟨x, q, er⟩, hq⟩ : ∃ R, erd p b a = R := ⟨_, rfl⟩
  have HQ := Lib.hid (show erd (if d % 8 = 0 then [] else last) b a = (x, q, er) by rw [hp]; exact hq)
  have ho := fun (ap : Option Addr) (np cp : Nat) (W : World) (hn : np ≤ 140737488351232) (h1 : Sl Bf W ap np cp p) (h2 : Sl Bf W ab nb cb b) => hq ▸ epread_z ap np cp p ab nb cb b a W hn hb h1 h2
  have HRD := Lib.hid ho
  have B := Lib.hid hB
  have R := Lib.hid hR
  have lg := hR.lt
  have HLO := Lib.hid hlo
  have HL := Lib.hid hl
  have HR := Lib.hid hr
  have H8 := Lib.hid h8
  have HP := Lib.hid hp
  have EIN := Lib.hid (fun (e : er = 0) => erd_in (p := p) (b := b) (z := a) (x := x) (q := q) (e ▸ hq))
  have t1 : ((d : Int) % 8 == 0) = true := by rw [beq_iff_eq]; omega
  have t2 : (d % 8 == 0) = true := by rw [beq_iff_eq]; omega
  have TU := Lib.hid (Turns.refl (RdS g vl vr) w)
  have VRI := Lib.hid hR.inS
  clear hp hq ho hR hB hlo hl hr h8
  have hb1 : Below w.heap.size w (w.alloc (.cells #[.slice none 0 0, .slice none 0 0] 51)) := (Below.refl _ _).alloc (Nat.le_refl _) _
  have E2 := Lib.hid (show Eb (w.alloc (.cells #[.slice none 0 0, .slice none 0 0] 51)) w.heap.size (.slice none 0 0) (.slice none 0 0) from heap_new w _)
  replace B := Lib.hid (B.out.keep hb1)
  replace R := Lib.hid (R.out.keep hb1)
  replace TU := Lib.hid (TU.out.trans_below hb1)
  have HB := Lib.hid (show w.heap.size ≤ (w.alloc (.cells #[.slice none 0 0, .slice none 0 0] 51)).heap.size from hb1.size)
  clear hb1
  go_enter Tryz.func96, Tryz.ntmps96
  go_upto_region 1 with (fail)
  obtain ⟨g2, hg2⟩ : ∃ z, w.heap.size = z := ⟨_, rfl⟩
  rw [hg2] at E2 HB
  have HS := Lib.hid (show w.heap.size ≤ g2 by omega)
  rw [hg2] at lg ⊢
  clear hg2
  generalize w.alloc (.cells #[.slice none 0 0, .slice none 0 0] 51) = w1 at *
  have hgg : g ≠ g2 := by omega
  have hg2 : g2 < w1.heap.size := E2.out.lt
  have VRS := Lib.hid (show ∀ j, RdS g vl vr j → RdS g vl vr j ∨ w.heap.size ≤ j from fun j hj => .inl hj)
  have VR2 := Lib.hid (show ∀ j, RdS g vl vr j → j ≠ g2 ∧ j < w1.heap.size from fun j hj => by have := (VRI.out j hj).2; have := HS.out; omega)
  have c0 := R.out.c0
  have c1 := R.out.c1
  have c2 := R.out.c2
  have c3 := R.out.c3
  have c4 := R.out.c4
  have c5 := R.out.c5
  obtain ⟨aL, nL, cL, hvl, zl⟩ := R.out.rl.slN
  have HVL := Lib.hid hvl
  rw [hvl] at c4
  have ZL := Lib.hid zl
  clear hvl zl
  obtain ⟨aR, nR, cR, rfl, -, -⟩ := R.out.rr.slRI
  have lgw1 : g < w1.heap.size := R.out.lt
  have lgn1 : g ≠ w1.heap.size := by omega
  have f5 := R.out.free 5
  have hlo1 : lo ≤ w1.heap.size := by have := R.out.low; omega
  have SL1 := Lib.hid (SlT.litI w1.drew a w1.heap.size rfl)
  have SNIL := Lib.hid (fun W : World => Sl.nil Bf W)
  go_upto_region 5 with (fail)
  go_cut [31] (fun _ wx => ∃ a6 n6 c6, Rdr wx lo g ab nb cb n d a vl (.slice a6 n6 c6) last (runs ++ [a]) ∧ Turns (RdS g vl (.slice aR nR cR)) w1 wx ∧ ∀ j, RdS g vl (.slice a6 n6 c6) j → RdS g vl (.slice aR nR cR) j ∨ w1.heap.size ≤ j)
  case first =>
    go_region_law (refine step_appT eltTI rfl (.tmp 23) (.tmp 28) rfl lo (.slice aR nR cR) runs (by simp [Act.eval]) (R.out.rr.drew.alloc _) (some ⟨w1.heap.size, 0, none⟩) 1 1 [a] (by simp [Act.eval]) SL1.out (by have := HR.out; unfold maxLen; omega) (by have := HR.out; omega) (Nat.le_trans hlo1 (by simp)) (runs ++ [a]) rfl ?_; intro v6 w6 h6 hg6 hv6 hb6; obtain ⟨a6, n6, c6, rfl, -, -⟩ := h6.slRI; obtain ⟨cc5, ff5, hR6, -, hT6, hS6⟩ := R.out.app (((Below.refl _ w1).drew).alloc (Nat.le_refl _) _) hg6 h6 hv6; have HR6 := Lib.hid hR6; have HT6 := Lib.hid hT6; have HS6 := Lib.hid hS6; clear hR6 hT6 hS6 h6 hg6 hv6 hb6)
    all_goals
      go_wp2_with fail
      go_meet
      exact ⟨a6, n6, c6, HR6.out, HT6.out, HS6.out⟩
  obtain ⟨w3, rfl⟩ : ∃ w5, w5 = wc := ⟨_, rfl⟩
  obtain ⟨a6, n6, c6, hR6, hT6, hS6⟩ := hcut
  have HR6 := Lib.hid hR6
  have HT6 := Lib.hid hT6
  have HS6 := Lib.hid hS6
  clear hR6 hT6 hS6
  have hlw3 : w1.heap.size ≤ w3.heap.size := HT6.out.size
  replace B := Lib.hid (B.out.turns HT6.out fun bb oo e1 e2 hS => by have h1 := HLO.out bb oo e1 e2; have h2 := (R.out.inS bb hS).1; omega)
  replace E2 := Lib.hid (show Eb w3 g2 (.slice none 0 0) (.slice none 0 0) from HT6.out.heap E2.out fun hS => (VR2.out g2 hS).1 rfl)
  replace TU := Lib.hid (TU.out.trans HT6.out fun j _ e => e)
  replace VRS := Lib.hid (show ∀ j, RdS g vl (.slice a6 n6 c6) j → RdS g vl (.slice aR nR cR) j ∨ w.heap.size ≤ j from fun j hj => (HS6.out j hj).imp id fun h => by have := HS.out; have := HB.out; omega)
  replace VR2 := Lib.hid (show ∀ j, RdS g vl (.slice a6 n6 c6) j → j ≠ g2 ∧ j < w3.heap.size from fun j hj => ⟨by rcases HS6.out j hj with h | h; exact (VR2.out j h).1; omega, (HR6.out.inS j hj).2⟩)
  replace R := HR6
  replace HB := Lib.hid (show g2 ≤ w3.heap.size by have := HB.out; omega)
  have hz3 : OwT fB w3 lo 5 (.slice aL nL cL) last := by rw [← HVL.out]; exact R.out.rl
  replace ZL := Lib.hid hz3.slI
  replace hg2 : g2 < w3.heap.size := by omega
  clear HT6 HS6 hz3 SL1 lgw1 lgn1 f5 c0 c1 c2 c3 c4 c5
  have c0 := R.out.c0
  have c1 := R.out.c1
  have c2 := R.out.c2
  have c3 := R.out.c3
  have c4 := R.out.c4
  have c5 := R.out.c5
  rw [HVL.out] at c4
  go_upto_region 6 with (fail)
  have H1 := Lib.hid (fun (W : World) (hW : Below w3.heap.size w3 W) => HRD.out none 0 0 W (by omega) ((by have := HP.out; rw [if_pos H8.out] at this; exact this : [] = p) ▸ SNIL.out W) (B.out.keep hW))
  have EA := Lib.hid (show Eb (w3.alloc (.cells #[.slice none 0 0, .slice none 0 0] 51)).drew w3.heap.size (.slice none 0 0) (.slice none 0 0) from heap_new w3 _)
  have HK := Lib.hid (H1.out _ kd1)
  have HA := Lib.hid (H1.out _ (kdA (.cells #[.slice none 0 0, .slice none 0 0] 51)))
  clear HRD H1
  have lgw : g < w3.heap.size := R.out.lt
  have hg2 : g2 < w3.heap.size := E2.out.lt
  have lgn : g ≠ w3.heap.size := by omega
  go_cut [5, 6, 7] (fun b5 b6 b7 wx => ReadCut w3 x q er b5 b6 b7 wx)
  case first =>
    go_region_with ((go_at_call 135; first | (refine HK.out.mono ?_; rintro r w2 ⟨vk, vv, mid, rfl, o1, o2, o3, o4, hb6⟩; obtain ⟨ak, nk, ck, rfl, zk⟩ := o1.slN; obtain ⟨av, nv, cv, rfl, zv⟩ := o2.slN) | (refine HA.out.mono ?_; rintro r w2 ⟨vk, vv, mid, rfl, o1, o2, o3, o4, hb6⟩; obtain ⟨ak, nk, ck, rfl, zk⟩ := o1.slN; obtain ⟨av, nv, cv, rfl, zv⟩ := o2.slN; have eb := Eb.keep EA.out hb6; have x0 := eb.c0; have x1 := eb.c1; have f0 := eb.free 0; have f1 := eb.free 1)))
    all_goals
      go_wp2_with fail
      go_meet
      first | exact .b o1 o2 o3 o4 hb6 | exact .a eb o1 o2 o3 o4 hb6
  case rest =>
    obtain ⟨w5, rfl⟩ : ∃ w5, w5 = wc := ⟨_, rfl⟩
    obtain ⟨ge, vk, vv, mid, rfl, rfl, rfl, he, o1, o2, o3, o4, hge, hb5⟩ := hcut
    obtain ⟨ak, nk, ck, rfl, zk⟩ := o1.slN
    obtain ⟨av, nv, cv, rfl, zv⟩ := o2.slN
    replace R := Lib.hid (R.out.keep hb5)
    replace TU := Lib.hid (TU.out.trans_below hb5)
    replace ZL := Lib.hid (ZL.out.keep hb5)
    replace E2 := Lib.hid (E2.out.keep hb5)
    have hlw : w3.heap.size ≤ w5.heap.size := hb5.size
    have EB := Lib.hid he
    have O1 := Lib.hid o1
    have O2 := Lib.hid o2
    have O3 := Lib.hid o3
    have ZK := Lib.hid zk
    clear c0 c1 c2 c3 c4 c5 HK HA EA he o1 o2 o3 zk zv hb5
    have c2 := R.out.c2
    have c3 := R.out.c3
    have c4 := R.out.c4
    rw [HVL.out] at c4
    by_cases hz : er = 0
    · subst hz
      have I := EIN.out rfl
      have HX := Lib.hid I
      have r1 : IntKind.i64.wrap ((d : Int) + 1) = ((d + 1 : Nat) : Int) := by have := IntWalk.i64_in ((d : Int) + 1) (by omega); rw [this]; omega
      have lg5 : g < w5.heap.size := R.out.lt
      have f2 := R.out.free 2
      have f3 := R.out.free 3
      have f4 := R.out.free 4
      clear EIN I
      by_cases hl0 : last.length = 0
      · have hnil := R.out.nil
        have hvn : vl = .slice none 0 0 := by rcases hnil with h | h; exact h.1; omega
        have hee := HVL.out.symm.trans hvn
        injection hee with ee1 ee2 ee3
        subst ee1 ee2 ee3
        have NLOW := Lib.hid (show ¬ (d % 8 = 0 ∧ 0 < last.length ∧ 0 ≤ cmp last x.1) from fun h => by omega)
        clear hnil hvn hl0
        go_wp2_with fail
        go_quiet (fail)
        go_upto_region 12 with (fail)
        have hR6 : Rdr ((w5.drewN nq).setCell ⟨g, 2, none⟩ (.int .i64 ((d : Int) + 1))) lo g ab nb cb n (d + 1) a vl (.slice a6 n6 c6) last (runs ++ [a]) := (R.out.drewN nq).num (d + 1)
        have hk6 : Turns (fun j => j = g) w5 ((w5.drewN nq).setCell ⟨g, 2, none⟩ (.int .i64 ((d : Int) + 1))) := ((Turns.refl (fun j => j = g) w5).drewN nq).trans (T := fun j => j = g) (Turns.set (S := fun j => j = g) _ rfl _) fun _ _ t => t
        have hs6 : ((w5.drewN nq).setCell ⟨g, 2, none⟩ (.int .i64 ((d : Int) + 1))).heap.size = w5.heap.size := by simp
        generalize (w5.drewN nq).setCell ⟨g, 2, none⟩ (.int .i64 ((d : Int) + 1)) = w6 at *
        have R6 := Lib.hid hR6
        have K6 := Lib.hid hk6
        clear hR6 hk6 c2 c3 c4 f2 f3 f4 R
        have c3 := R6.out.c3
        have f3 := R6.out.free 3
        go_upto_region 13 with (fail)
        have hR7 := R6.out.place q
        have hk7 := K6.out.trans (T := fun j => j = g) (Turns.set (S := fun j => j = g) w6 (b := g) (i := 3) rfl (.int .i64 (q : Nat))) fun _ _ t => t
        have hs7 : (w6.setCell ⟨g, 3, none⟩ (.int .i64 (q : Nat))).heap.size = w5.heap.size := by simp [hs6]
        generalize w6.setCell ⟨g, 3, none⟩ (.int .i64 (q : Nat)) = w7 at *
        have R7 := Lib.hid hR7
        have K7 := Lib.hid hk7
        clear hR7 hk7 c3 f3 R6 K6 hs6
        replace EB := Lib.hid (show Eb w7 ge (.slice ak nk ck) (.slice av nv cv) from K7.out.heap EB.out (fun e => by have := lgw; omega))
        replace E2 := Lib.hid (show Eb w7 g2 (.slice none 0 0) (.slice none 0 0) from K7.out.heap E2.out (fun e => by omega))
        replace O1 := Lib.hid (O1.out.turns K7.out fun j hj e => by have := (O1.out.lt j hj).1; omega)
        replace O2 := Lib.hid (O2.out.turns K7.out fun j hj e => by have := (O2.out.lt j hj).1; omega)
        replace ZK := Lib.hid (ZK.out.turns K7.out fun bb oo e1 e2 e3 => by have := (O1.out.lt bb (by rw [e1]; rfl)).1; omega)
        have e0 := EB.out.c0
        have e1 := EB.out.c1
        have c4 := R7.out.c4
        rw [HVL.out] at c4
        have HC := Lib.hid (clone_any ak nk ck x.1 w7 (by have := ZK.out.len; have := HX.out.2.1; omega) ZK.out)
        go_wp2_with fail
        refine HC.out.mono ?_
        rintro r w8 ⟨vn, rfl, hn8, hb8⟩
        obtain ⟨an, nn, cn, rfl, zn⟩ := hn8.slN
        have hz8 : w7.heap.size ≤ w8.heap.size := hb8.size
        have R8 := Lib.hid (R7.out.keep hb8)
        replace EB := Lib.hid (EB.out.keep hb8)
        replace E2 := Lib.hid (E2.out.keep hb8)
        have KB1 := Lib.hid (fun j hj => (O1.out.lt j hj).2)
        have KB2 := Lib.hid (fun j hj => (O2.out.lt j hj).2)
        replace O1 := Lib.hid (O1.out.keep hb8)
        replace O2 := Lib.hid (O2.out.keep hb8)
        have IN7 := Lib.hid R7.out.inS
        have K8 := Lib.hid (K7.out.trans_below hb8)
        have LT1 := Lib.hid (fun j hj => (hn8.lt j hj).1)
        have hR9 := R8.out.key (hn8.base (by have := R7.out.low; have := R7.out.lt; omega)) (fun j hj hs => by have h1 := (hn8.lt j hj).1; have h2 := (IN7.out j hs).2; omega) HX.out.1
        have R9 := Lib.hid hR9
        clear hR9 zn hn8 hb8 HC c4 e0 e1
        have c4 := R8.out.c4
        rw [HVL.out] at c4
        have f4 := R8.out.free 4
        go_upto_region 14 with (fail)
        have hs9 : (w8.setCell ⟨g, 4, none⟩ (.slice an nn cn)).heap.size = w8.heap.size := by simp
        have hk9 := K8.out.trans (T := fun j => j = g) (Turns.set (S := fun j => j = g) w8 (b := g) (i := 4) rfl (.slice an nn cn)) fun _ _ t => t
        have hk9' := Turns.set (S := fun j => j = g) w8 (b := g) (i := 4) rfl (.slice an nn cn)
        generalize w8.setCell ⟨g, 4, none⟩ (.slice an nn cn) = w9 at *
        have K9 := Lib.hid hk9
        have K9' := Lib.hid hk9'
        clear hk9 hk9' c4 f4
        replace EB := Lib.hid (show Eb w9 ge (.slice ak nk ck) (.slice av nv cv) from K9'.out.heap EB.out (fun e => by omega))
        replace E2 := Lib.hid (show Eb w9 g2 (.slice none 0 0) (.slice none 0 0) from K9'.out.heap E2.out (fun e => by omega))
        have e0 := EB.out.c0
        have e1 := EB.out.c1
        have d0 := E2.out.c0
        have d1 := E2.out.c1
        have h0 := E2.out.free 0
        have h1 := E2.out.free 1
        have hge2 : ge ≠ g2 := by omega
        go_wp2_with fail
        have hz7 : w3.heap.size ≤ w7.heap.size := by omega
        have T2 : Turns (fun j => j = g2) w9 ((w9.setCell ⟨g2, 0, none⟩ (.slice ak nk ck)).setCell ⟨g2, 1, none⟩ (.slice av nv cv)) := (Turns.set (S := fun j => j = g2) w9 (b := g2) (i := 0) rfl _).trans (T := fun j => j = g2) (Turns.set (S := fun j => j = g2) _ (b := g2) (i := 1) rfl _) fun _ _ t => t
        have EF := (E2.out.set0 (.slice ak nk ck)).set1 (.slice av nv cv)
        generalize (w9.setCell ⟨g2, 0, none⟩ (.slice ak nk ck)).setCell ⟨g2, 1, none⟩ (.slice av nv cv) = wF at *
        have KF : Turns (fun j => j = g ∨ j = g2) w8 wF := (K9'.out.mono fun j _ e => .inl e).trans T2 fun j _ e => .inr e
        have d0 := EF.c0
        have d1 := EF.c1
        refine bodyPost_ret (v := .agg #[.slice ak nk ck, .slice av nv cv]) (by simp [results, Tryz.results96, d0, d1, go_sem]) rfl ⟨x, q, 0, HQ.out, ?_, fun e => absurd rfl e, fun _ h => absurd h NLOW.out, fun _ _ => ⟨.slice ak nk ck, .slice av nv cv, .slice an nn cn, (.slice a6 n6 c6), mid, rfl, ?_, ?_, O3.out, by have := HS.out; have := HB.out; omega, ?_, fun j hj => ?_, fun j hj => ?_⟩⟩
        · exact (TU.out.trans K9.out fun j _ e => .inl e).trans T2 fun j hj e => by have := HS.out; omega
        · exact (O1.out.turns KF fun j hj e => by have := (O1.out.lt j hj).1; rcases e with e | e <;> omega).base (by have := HS.out; have := HB.out; omega)
        · exact O2.out.turns KF fun j hj e => by have := (O2.out.lt j hj).1; rcases e with e | e <;> omega
        · rw [if_pos H8.out]
          exact R9.out.turns T2 fun j hj e => by
            rcases hj with h | h | h
            · omega
            · have := LT1.out j h; omega
            · exact (VR2.out j (.inr (.inr h))).1 e
        · rcases hj with h | h | h
          · exact .inl (.inl h)
          · exact .inr (by have := LT1.out j h; have := HS.out; have := HB.out; omega)
          · exact VRS.out j (.inr (.inr h))
        · have hin : j < w3.heap.size ∨ w7.heap.size ≤ j := by
            rcases hj with h | h | h
            · left; omega
            · exact .inr (LT1.out j h)
            · exact .inl (VR2.out j (.inr (.inr h))).2
          refine ⟨fun e => ?_, fun e => ?_⟩
          · have h1 := (O1.out.lt j e).1; have h2 := KB1.out j e; omega
          · have h1 := (O2.out.lt j e).1; have h2 := KB2.out j e; omega
      · obtain ⟨pL, rfl⟩ : ∃ pL, aL = some pL := by
          cases aL with
          | none => have := ZL.out.none_eq; exact absurd (by rw [this.2.2]; rfl) hl0
          | some pL => exact ⟨pL, rfl⟩
        obtain ⟨q3, hq3⟩ : ∃ q3, cmp last x.1 = q3 := ⟨_, rfl⟩
        have HCM := Lib.hid (bcompare_any (some pL) nL cL last ak nk ck x.1)
        have x9 := EB.out.c0
        have x9' := EB.out.c1
        have CQ := Lib.hid (fun j : Nat => hq3 ▸ HCM.out (w5.drewN j) (ZL.out.drewN j) (ZK.out.drewN j))
        by_cases hlow : 0 ≤ q3
        · have t4 : decide (q3 ≥ 0) = true := decide_eq_true hlow
          have LOW := Lib.hid (show d % 8 = 0 ∧ 0 < last.length ∧ 0 ≤ cmp last x.1 from ⟨H8.out, by omega, by rw [hq3]; exact hlow⟩)
          clear hq3 hlow hl0
          go_wp2_with fail
          go_quiet ((go_at_call 53; exact Calls.quiet_of_drw ((CQ.out _).mono fun _ _ h => ⟨h.1, Drw.of h.2.symm⟩)))
          go_wp2_with fail
          exact ⟨rfl, x, q, 0, HQ.out, TU.out.drewN _, fun e => absurd rfl e, fun _ _ => rfl, fun _ h => absurd LOW.out h⟩
        · have t4 : decide (q3 ≥ 0) = false := decide_eq_false hlow
          have NLOW := Lib.hid (show ¬ (d % 8 = 0 ∧ 0 < last.length ∧ 0 ≤ cmp last x.1) from fun h => hlow (by rw [← hq3]; exact h.2.2))
          clear hq3 hlow hl0
          go_wp2_with fail
          go_quiet ((go_at_call 53; exact Calls.quiet_of_drw ((CQ.out _).mono fun _ _ h => ⟨h.1, Drw.of h.2.symm⟩)))
          clear CQ HCM x9 x9'
          go_upto_region 12 with (fail)
          have hR6 : Rdr ((w5.drewN nq).setCell ⟨g, 2, none⟩ (.int .i64 ((d : Int) + 1))) lo g ab nb cb n (d + 1) a vl (.slice a6 n6 c6) last (runs ++ [a]) := (R.out.drewN nq).num (d + 1)
          have hk6 : Turns (fun j => j = g) w5 ((w5.drewN nq).setCell ⟨g, 2, none⟩ (.int .i64 ((d : Int) + 1))) := ((Turns.refl (fun j => j = g) w5).drewN nq).trans (T := fun j => j = g) (Turns.set (S := fun j => j = g) _ rfl _) fun _ _ t => t
          have hs6 : ((w5.drewN nq).setCell ⟨g, 2, none⟩ (.int .i64 ((d : Int) + 1))).heap.size = w5.heap.size := by simp
          generalize (w5.drewN nq).setCell ⟨g, 2, none⟩ (.int .i64 ((d : Int) + 1)) = w6 at *
          have R6 := Lib.hid hR6
          have K6 := Lib.hid hk6
          clear hR6 hk6 c2 c3 c4 f2 f3 f4 R
          have c3 := R6.out.c3
          have f3 := R6.out.free 3
          go_upto_region 13 with (fail)
          have hR7 := R6.out.place q
          have hk7 := K6.out.trans (T := fun j => j = g) (Turns.set (S := fun j => j = g) w6 (b := g) (i := 3) rfl (.int .i64 (q : Nat))) fun _ _ t => t
          have hs7 : (w6.setCell ⟨g, 3, none⟩ (.int .i64 (q : Nat))).heap.size = w5.heap.size := by simp [hs6]
          generalize w6.setCell ⟨g, 3, none⟩ (.int .i64 (q : Nat)) = w7 at *
          have R7 := Lib.hid hR7
          have K7 := Lib.hid hk7
          clear hR7 hk7 c3 f3 R6 K6 hs6
          replace EB := Lib.hid (show Eb w7 ge (.slice ak nk ck) (.slice av nv cv) from K7.out.heap EB.out (fun e => by have := lgw; omega))
          replace E2 := Lib.hid (show Eb w7 g2 (.slice none 0 0) (.slice none 0 0) from K7.out.heap E2.out (fun e => by omega))
          replace O1 := Lib.hid (O1.out.turns K7.out fun j hj e => by have := (O1.out.lt j hj).1; omega)
          replace O2 := Lib.hid (O2.out.turns K7.out fun j hj e => by have := (O2.out.lt j hj).1; omega)
          replace ZK := Lib.hid (ZK.out.turns K7.out fun bb oo e1 e2 e3 => by have := (O1.out.lt bb (by rw [e1]; rfl)).1; omega)
          have e0 := EB.out.c0
          have e1 := EB.out.c1
          have c4 := R7.out.c4
          rw [HVL.out] at c4
          have HC := Lib.hid (clone_any ak nk ck x.1 w7 (by have := ZK.out.len; have := HX.out.2.1; omega) ZK.out)
          go_wp2_with fail
          refine HC.out.mono ?_
          rintro r w8 ⟨vn, rfl, hn8, hb8⟩
          obtain ⟨an, nn, cn, rfl, zn⟩ := hn8.slN
          have hz8 : w7.heap.size ≤ w8.heap.size := hb8.size
          have R8 := Lib.hid (R7.out.keep hb8)
          replace EB := Lib.hid (EB.out.keep hb8)
          replace E2 := Lib.hid (E2.out.keep hb8)
          have KB1 := Lib.hid (fun j hj => (O1.out.lt j hj).2)
          have KB2 := Lib.hid (fun j hj => (O2.out.lt j hj).2)
          replace O1 := Lib.hid (O1.out.keep hb8)
          replace O2 := Lib.hid (O2.out.keep hb8)
          have IN7 := Lib.hid R7.out.inS
          have K8 := Lib.hid (K7.out.trans_below hb8)
          have LT1 := Lib.hid (fun j hj => (hn8.lt j hj).1)
          have hR9 := R8.out.key (hn8.base (by have := R7.out.low; have := R7.out.lt; omega)) (fun j hj hs => by have h1 := (hn8.lt j hj).1; have h2 := (IN7.out j hs).2; omega) HX.out.1
          have R9 := Lib.hid hR9
          clear hR9 zn hn8 hb8 HC c4 e0 e1
          have c4 := R8.out.c4
          rw [HVL.out] at c4
          have f4 := R8.out.free 4
          go_upto_region 14 with (fail)
          have hs9 : (w8.setCell ⟨g, 4, none⟩ (.slice an nn cn)).heap.size = w8.heap.size := by simp
          have hk9 := K8.out.trans (T := fun j => j = g) (Turns.set (S := fun j => j = g) w8 (b := g) (i := 4) rfl (.slice an nn cn)) fun _ _ t => t
          have hk9' := Turns.set (S := fun j => j = g) w8 (b := g) (i := 4) rfl (.slice an nn cn)
          generalize w8.setCell ⟨g, 4, none⟩ (.slice an nn cn) = w9 at *
          have K9 := Lib.hid hk9
          have K9' := Lib.hid hk9'
          clear hk9 hk9' c4 f4
          replace EB := Lib.hid (show Eb w9 ge (.slice ak nk ck) (.slice av nv cv) from K9'.out.heap EB.out (fun e => by omega))
          replace E2 := Lib.hid (show Eb w9 g2 (.slice none 0 0) (.slice none 0 0) from K9'.out.heap E2.out (fun e => by omega))
          have e0 := EB.out.c0
          have e1 := EB.out.c1
          have d0 := E2.out.c0
          have d1 := E2.out.c1
          have h0 := E2.out.free 0
          have h1 := E2.out.free 1
          have hge2 : ge ≠ g2 := by omega
          go_wp2_with fail
          have hz7 : w3.heap.size ≤ w7.heap.size := by omega
          have T2 : Turns (fun j => j = g2) w9 ((w9.setCell ⟨g2, 0, none⟩ (.slice ak nk ck)).setCell ⟨g2, 1, none⟩ (.slice av nv cv)) := (Turns.set (S := fun j => j = g2) w9 (b := g2) (i := 0) rfl _).trans (T := fun j => j = g2) (Turns.set (S := fun j => j = g2) _ (b := g2) (i := 1) rfl _) fun _ _ t => t
          have EF := (E2.out.set0 (.slice ak nk ck)).set1 (.slice av nv cv)
          generalize (w9.setCell ⟨g2, 0, none⟩ (.slice ak nk ck)).setCell ⟨g2, 1, none⟩ (.slice av nv cv) = wF at *
          have KF : Turns (fun j => j = g ∨ j = g2) w8 wF := (K9'.out.mono fun j _ e => .inl e).trans T2 fun j _ e => .inr e
          have d0 := EF.c0
          have d1 := EF.c1
          refine bodyPost_ret (v := .agg #[.slice ak nk ck, .slice av nv cv]) (by simp [results, Tryz.results96, d0, d1, go_sem]) rfl ⟨x, q, 0, HQ.out, ?_, fun e => absurd rfl e, fun _ h => absurd h NLOW.out, fun _ _ => ⟨.slice ak nk ck, .slice av nv cv, .slice an nn cn, (.slice a6 n6 c6), mid, rfl, ?_, ?_, O3.out, by have := HS.out; have := HB.out; omega, ?_, fun j hj => ?_, fun j hj => ?_⟩⟩
          · exact (TU.out.trans K9.out fun j _ e => .inl e).trans T2 fun j hj e => by have := HS.out; omega
          · exact (O1.out.turns KF fun j hj e => by have := (O1.out.lt j hj).1; rcases e with e | e <;> omega).base (by have := HS.out; have := HB.out; omega)
          · exact O2.out.turns KF fun j hj e => by have := (O2.out.lt j hj).1; rcases e with e | e <;> omega
          · rw [if_pos H8.out]
            exact R9.out.turns T2 fun j hj e => by
              rcases hj with h | h | h
              · omega
              · have := LT1.out j h; omega
              · exact (VR2.out j (.inr (.inr h))).1 e
          · rcases hj with h | h | h
            · exact .inl (.inl h)
            · exact .inr (by have := LT1.out j h; have := HS.out; have := HB.out; omega)
            · exact VRS.out j (.inr (.inr h))
          · have hin : j < w3.heap.size ∨ w7.heap.size ≤ j := by
              rcases hj with h | h | h
              · left; omega
              · exact .inr (LT1.out j h)
              · exact .inl (VR2.out j (.inr (.inr h))).2
            refine ⟨fun e => ?_, fun e => ?_⟩
            · have h1 := (O1.out.lt j e).1; have h2 := KB1.out j e; omega
            · have h1 := (O2.out.lt j e).1; have h2 := KB2.out j e; omega
    · have t3 : (er != 0) = true := by rw [bne_iff_ne]; exact hz
      have HZ := Lib.hid hz
      clear hz
      go_wp2_with fail
      exact ⟨rfl, x, q, er, HQ.out, TU.out, fun _ => rfl, fun e => absurd e HZ.out, fun e => absurd e HZ.out⟩
theorem bnext_any (lo g : Nat) (ab : Option Addr) (nb cb n d a : Nat) (vl vr : Value) (last : List UInt8) (runs : List Nat) (b : List UInt8) (w : World)
    (hb : nb ≤ 140737499999999) (hd : d ≤ 1000) (ha : a ≤ 4611686018427387903) (hl : last.length ≤ 64) (hr : runs.length ≤ 1000) (hR : Rdr w lo g ab nb cb n d a vl vr last runs) (hB : Sl Bf w ab nb cb b) (hlo : ∀ b o, ab = some ⟨b, o, none⟩ → 0 < nb → b < lo) :
    Calls Tryz.prog 96 #[.pointer (some ⟨g, 0, none⟩)] w (NextPost w lo g ab nb cb n d a vl vr last runs b) := by
  by_cases h8 : d % 8 = 0
  · exact bnext_rest lo g ab nb cb n d a vl vr last runs b w hb hd ha hl hr h8 hR hB hlo
  · exact bnext_plain lo g ab nb cb n d a vl vr last runs b w hb hd ha hl hr h8 hR hB hlo

end Go.Proofs.YtljcogimeimknaaGreat

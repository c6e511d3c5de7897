/- Chunks, over any reader and any body of a range: contract. Conditions: the size may be, numbers within reach. -/
import Derived.Test.YtjkgncogpefnbaaPipeHand
import Derived.Test.YtjkgncogpefnbaaRange
import Derived.Test.YtjkgncogpefnbaaRowIn
import Derived.RangeFuncCalls
import Derived.RangeFuncBound
import Derived.Shelf.Abstract
import Derived.OwnWalkIn
import Derived.TacticsInMore
import Derived.LoopNIn
import Derived.LoopIn
import Derived.Sort.LoopGhostIn
namespace Go.Proofs.Ytjkgncogpefnbaa
open Go.RowKit Go.Shelf
set_option linter.unusedVariables false
set_option linter.unusedSimpArgs false
attribute [local go_sem] Oper.semAt_some

/-- make([]byte, n) within a fence -/
theorem wpListIn_mkB {F : Fence} {nF : Nat} {ops : Array Oper} {rest : List Oper} {o : Oper} {a : Act} {Q : Exit → Act → World → Prop} {w : World} (hg : o.guard = none) (l c : Operand)
    (ho : o.op = Op.makeSlice 23 l c) (n : Nat) {kl kc : IntKind} {L C : Int} (hl : a.eval l = .int kl L) (hc : a.eval c = .int kc C) (hL : L = (n : Int)) (hC : C = (n : Int)) (hb : n ≤ 281474976710656)
    (h : ∀ zs : List UInt8, zs.length = n → wpListIn F nF Try.prog ops Q rest (a.put o.dst (.slice (some ⟨w.heap.size, 0, none⟩) n n)) (w.alloc (.cells (zs.map Bf).toArray 5))) : wpListIn F nF Try.prog ops Q (o :: rest) a w := by
  obtain ⟨ht, ⟨i, z, hi1, hi2, hi3, hi4, x0, hz⟩, hf, hk, h1⟩ := eltTB
  subst hL hC
  refine wpListIn_plain hg fun K hK => ?_
  have hr := run_make (P := Try.prog) w 23 5 i z ht hi1 hi2 kl kc (n : Int) (n : Int) (by omega) (by omega) (by rw [hi4]; omega) (by omega)
  have hcells : Obj.cells (madeCells z.cells (n * i.size)) 5 = Obj.cells ((List.replicate n x0).map Bf).toArray 5 := by
    congr 1
    apply Array.ext'
    rw [hi3, made_flat (hf x0) hk hz, flat_fB]
  unfold Oper.wpIn
  refine ⟨by simp [Oper.about, ho], ?_⟩
  rw [Oper.semAt_plain F _ _ (by rw [ho]; intro c hc'; cases hc')]
  simp [execOp, ho, hl, hc, hr, Result.andThen]
  have := h (List.replicate n x0) (by simp)
  rw [← hcells] at this
  exact hK _ _ (by simpa using this)
/-- three blocks lie as they lay -/
def Kept3 (a b c : Nat) (W W' : World) : Prop := ∀ j, j = a ∨ j = b ∨ j = c → W'.heap[j]? = W.heap[j]?
/-- what a body of a range over Chunks does with what it is handed: J between two reads, Jend where the iterator ends by itself behind it, Jx where it was left -/
structure Eats {σ : Type} (R : Rm σ) (St : σ → (Nat → Prop) → World → Prop) (l gw gr gs size : Nat) (J : σ → (Nat → Prop) → Nat → World → Prop) (Jend Jx : World → Prop) : Prop where
  stab : ∀ s S wt W W', J s S wt W → Turns (fun j => j = gw) W W' → J s S wt W'
  move : ∀ s S wt W S' W1 gp k (zs : List UInt8), gw < W.heap.size → J s S wt W → St s S W → R.num s size = (k : Nat) → k ≤ size → (0 < k ∨ R.er s size ≠ 0) → St (R.nxt s size) S' W1 → (∀ j, S' j → S j ∨ W.heap.size ≤ j) → Turns (fun j => S j ∨ j = gw) W W1 →
    W.heap.size ≤ gp → gp < W1.heap.size → ¬ S' gp → W1.heap[gp]? = some (.cells (zs.map Bf).toArray 5 (0, 0)) → zs.length = size → zs.take k = (R.lay s size).take k →
    YieldAt Fence.wide 2 Try.prog l #[.slice (some ⟨gp, 0, none⟩) k k, .int .i64 (R.er s size)] W1 fun e W' =>
      (e = .returned (.bool true) ∧ (R.er s size = 0 → J (R.nxt s size) S' 0 W' ∧ St (R.nxt s size) S' W' ∧ Kept3 gw gr gs W1 W' ∧ W1.heap.size ≤ W'.heap.size) ∧ (R.er s size ≠ 0 → Jend W')) ∨ (e = .returned (.bool false) ∧ Jx W')
  idle : ∀ s S wt W S' W1, gw < W.heap.size → J s S wt W → St s S W → R.num s size = 0 → R.er s size = 0 → wt + 1 < 16 → St (R.nxt s size) S' W1 → (∀ j, S' j → S j ∨ W.heap.size ≤ j) → Turns (fun j => S j ∨ j = gw) W W1 → J (R.nxt s size) S' (wt + 1) W1
  bad : ∀ s S wt W S' W1, gw < W.heap.size → J s S wt W → St s S W → (R.num s size < 0 ∨ (size : Int) < R.num s size) → St (R.nxt s size) S' W1 → (∀ j, S' j → S j ∨ W.heap.size ≤ j) → Turns (fun j => S j ∨ j = gw) W W1 →
    YieldAt Fence.wide 2 Try.prog l #[.slice none 0 0, .int .i64 34] W1 fun e W' => (e = .returned (.bool true) ∧ Jend W') ∨ (e = .returned (.bool false) ∧ Jx W')
  tired : ∀ s S wt W S' W1, gw < W.heap.size → J s S wt W → St s S W → R.num s size = 0 → R.er s size = 0 → wt + 1 = 16 → St (R.nxt s size) S' W1 → (∀ j, S' j → S j ∨ W.heap.size ≤ j) → Turns (fun j => S j ∨ j = gw) W W1 →
    YieldAt Fence.wide 2 Try.prog l #[.slice none 0 0, .int .i64 33] W1 fun e W' => (e = .returned (.bool true) ∧ Jend W') ∨ (e = .returned (.bool false) ∧ Jx W')
theorem chunks_any (T : TypeId) (v : Value) (size : Int) (w : World) :
    Calls Try.prog 20 #[.iface T v, .int .i64 size] w fun e w' => e = .returned (.func (.func 34) #[] #[.pointer (some ⟨w.heap.size, 0, none⟩), .pointer (some ⟨w.heap.size + 1, 0, none⟩)]) ∧
      w' = (w.alloc (.cells #[.iface T v] 78)).alloc (.cells #[.int .i64 size] 3) := by
  go_enter Try.func20, Try.ntmps20
  go_wp2_with fail
  go_ret
  exact ⟨rfl, rfl⟩
theorem run_cut33 (w : World) (aa : Option Addr) (n c : Nat) (k1 k2 : IntKind) (r q : Nat) (hr : r ≤ q) (hq : q ≤ c) :
    (Instr.slice 23 (.slice aa n c) none (some (.int k1 r)) (some (.int k2 q))).run Try.prog w = .ok (.slice aa r q) w := by
  obtain ⟨ht, hi, hz⟩ := eltB
  obtain ⟨i, hi1, hi2, hi3, hi4⟩ := info_parts hi
  cases aa <;> simp [Instr.slice, run_underlying ht, Instr.sliceBounds, Instr.sliceBound, asIntOf, sizeOf, typeInfo, hi1, hi3, hr, hq, Addr.add]
set_option maxRecDepth 100000 in
set_option maxHeartbeats 4000000 in
theorem chunks1_in {σ : Type} {R : Rm σ} {fn : FuncId} {v : Value} {lo Bd bd : Nat} {St : σ → (Nat → Prop) → World → Prop} (RD : Reader R fn v lo Bd St bd) (T : TypeId)
    (hme : ∀ w, (method 215 T v "Read").run Try.prog w = .ok (fn, v) w) (hen : ∀ (args : Array Value) (W : World), (callFunc fn args).run Try.prog W = .ok (.enter fn args) W)
    (l gr gs size : Nat) (W0 : World) (hs1 : 1 ≤ size) (hs2 : size ≤ 4096) (hR : Boxed W0 gr 78 (.iface T v)) (hS : Boxed W0 gs 3 (.int .i64 (size : Nat))) (J : σ → (Nat → Prop) → Nat → World → Prop) (Jend Jx : World → Prop)
    (hE : Eats R St l W0.heap.size gr gs size J Jend Jx) (s0 : σ) (S0 : Nat → Prop) (h0 : St s0 S0 W0) (hJ : J s0 S0 0 W0) (hSr : ¬ S0 gr) (hSs : ¬ S0 gs) (hcnt : R.cnt s0 + (R.mu s0 * 17 + 17) < Bd) (hbd : bd ≤ W0.heap.size) :
    CallsIn Fence.wide 3 Try.prog 34 #[.func (.yield l) #[] #[], .pointer (some ⟨gr, 0, none⟩), .pointer (some ⟨gs, 0, none⟩)] W0 fun e W' => (∃ v, e = .returned v) ∧ (Jend W' ∨ Jx W') := by
  have E := Lib.hid hE
  have ST := Lib.hid h0
  have JJ := Lib.hid hJ
  have SR := Lib.hid hSr
  have SS := Lib.hid hSs
  have HC := Lib.hid hcnt
  have BR := Lib.hid hR
  have BS := Lib.hid hS
  have cr := cell_of hR 0 rfl
  have cs := cell_of hS 0 rfl
  have WR := Lib.hid (wrong_any (size : Nat) W0)
  have t0 : decide ((size : Int) < 1 ∨ 4096 < (size : Int)) = false := decide_eq_false (by omega)
  rw [t0] at WR
  clear hE h0 hJ hSr hSs hcnt hR hS t0
  refine callsIn_of_wp Try.func34 rfl trivial ?_ rfl
  simp only [Try.ntmps34, List.size_toArray, List.length_cons, List.length_nil, Nat.reduceAdd, Nat.reduceSub, Array.replicate_succ, Array.replicate_zero, List.push_toArray, List.append_toArray, List.nil_append, List.cons_append]
  gi_wp2
  refine ⟨trivial, ?_⟩
  refine (callsIn_wide.2 WR.out).mono ?_
  rintro e w' ⟨rfl, rfl⟩
  gi_wp2
  have hb0 : Below W0.heap.size W0 (W0.alloc (.cells #[.int .i64 0] 80)) := (Below.refl _ _).alloc (Nat.le_refl _) _
  have B0 := Lib.hid (show Boxed (W0.alloc (.cells #[.int .i64 0] 80)) W0.heap.size 80 (.int .i64 ((0 : Nat) : Int)) from heap_new W0 _)
  have JJ0 := Lib.hid (E.out.stab s0 S0 0 W0 _ JJ.out (.of_below hb0))
  have ST0 := Lib.hid (RD.frame s0 S0 (fun _ => False) W0 _ ST.out (.of_below hb0) (fun _ _ e => e) (fun _ e => e.elim))
  have BR0 := Lib.hid (show Boxed _ gr 78 (.iface T v) from (hb0.block gr BR.out.lt).trans BR.out)
  have BS0 := Lib.hid (show Boxed _ gs 3 (.int .i64 (size : Nat)) from (hb0.block gs BS.out.lt).trans BS.out)
  have SW := Lib.hid (show ¬ S0 W0.heap.size from fun h => by have := (RD.inS s0 S0 W0 ST.out _ h).2; omega)
  have hz0 : (W0.alloc (.cells #[.int .i64 0] 80)).heap.size = W0.heap.size + 1 := by simp
  have HNE := Lib.hid (show gr ≠ W0.heap.size ∧ gs ≠ W0.heap.size by have := BR.out.lt; have := BS.out.lt; omega)
  clear JJ ST BR BS WR hb0 cr cs
  generalize W0.alloc (.cells #[.int .i64 0] 80) = Wi at *
  obtain ⟨gw, hgw⟩ : ∃ gw, W0.heap.size = gw := ⟨_, rfl⟩
  rw [hgw] at E B0 SW HNE hz0 hbd
  rw [hgw]
  clear hgw
  gi_loopg [] (R.mu s0 * 17 + 17) (fun n wr => ∃ s S wt, J s S wt wr ∧ St s S wr ∧ Boxed wr gw 80 (.int .i64 (wt : Nat)) ∧ Boxed wr gr 78 (.iface T v) ∧ Boxed wr gs 3 (.int .i64 (size : Nat)) ∧ wt ≤ 15 ∧ R.mu s * 17 + 17 - wt ≤ n ∧ R.cnt s + n < Bd ∧ ¬ S gr ∧ ¬ S gs ∧ ¬ S gw)
  case atStart => exact ⟨s0, S0, 0, JJ0.out, ST0.out, B0.out, BR0.out, BS0.out, by omega, by omega, HC.out, SR.out, SS.out, SW.out⟩
  case round =>
    obtain ⟨s, S, wt, hJ, hSt, hBw, hBr, hBs, hwt, hmu, hcn, hn1, hn2, hn3⟩ := hrel
    have JR := Lib.hid hJ
    have ST := Lib.hid hSt
    have BW := Lib.hid hBw
    have BR := Lib.hid hBr
    have BS := Lib.hid hBs
    have HN := Lib.hid (And.intro hn1 (And.intro hn2 hn3))
    have HMU := Lib.hid hmu
    have HCN := Lib.hid hcn
    have cs : wr.cell? ⟨gs, 0, none⟩ = some (.int .i64 (size : Nat)) := cell_of hBs 0 rfl
    clear hJ hSt hBw hBr hBs hmu hcn hn1 hn2 hn3 JJ0 ST0 B0 BR0 BS0
    gi_wp2_with (refine wpListIn_mkB rfl (.tmp 17) (.tmp 17) rfl size (by rfl) (by rfl) rfl rfl (by omega) ?_; intro zs hzs; have ZS := Lib.hid hzs; have AB := Lib.hid ((Below.refl wr.heap.size wr).alloc (Nat.le_refl _) (.cells (zs.map Bf).toArray 5)); have cr2 : (wr.alloc (.cells (zs.map Bf).toArray 5)).cell? ⟨gr, 0, none⟩ = some (.iface T v) := cell_of ((AB.out.block gr BR.out.lt).trans BR.out) 0 rfl; clear hzs)
    obtain ⟨gp, hgp⟩ : ∃ gp, wr.heap.size = gp := ⟨_, rfl⟩
    have hlt : ∀ j, S j → j < gp := fun j hj => by have := (RD.inS s S wr ST.out j hj).2; omega
    have hgwl : gw < gp := by have := BW.out.lt; omega
    have hgrl : gr < gp := by have := BR.out.lt; omega
    have hgsl : gs < gp := by have := BS.out.lt; omega
    have hpz : (wr.alloc (.cells (zs.map Bf).toArray 5)).heap.size = gp + 1 := by simp [hgp]
    have hpn : (wr.alloc (.cells (zs.map Bf).toArray 5)).heap[gp]? = some (.cells (zs.map Bf).toArray 5 (0, 0)) := by rw [← hgp]; exact heap_new wr _
    have STP := Lib.hid (RD.frame s S (fun _ => False) wr (wr.alloc (.cells (zs.map Bf).toArray 5)) ST.out (.of_below AB.out) (fun _ _ e => e) (fun _ e => e.elim))
    have RC := Lib.hid (RD.read s S _ gp size size zs STP.out (by have := HMU.out; have := HCN.out; omega) (by rw [ZS.out]; exact Nat.le_refl _) (Nat.le_refl _) (by omega) hpn (fun h => by have := hlt gp h; omega) (by omega))
    rw [hgp]
    refine ⟨trivial, ?_⟩
    refine (callsIn_wide.2 RC.out).mono ?_
    rintro e W1 ⟨rfl, S', hst', hs', ht', hh'⟩
    have T1 := Lib.hid (show Turns (fun j => S j ∨ j = gw) wr W1 from (Turns.of_below AB.out).trans ht' fun j hj h => by rcases h with h | h; (exact .inl h); (omega))
    have SN := Lib.hid (show ∀ j, S' j → S j ∨ wr.heap.size ≤ j from fun j hj => by rcases hs' j hj with h | h; (exact .inl h); (exact .inr (by omega)))
    have SG := Lib.hid (show ¬ S' gp from fun h => by rcases hs' gp h with h | h; (have := hlt gp h; omega); (omega))
    have SN3 := Lib.hid (show ¬ S' gr ∧ ¬ S' gs ∧ ¬ S' gw from ⟨fun h => by rcases hs' gr h with h | h; (exact HN.out.1 h); (omega), fun h => by rcases hs' gs h with h | h; (exact HN.out.2.1 h); (omega), fun h => by rcases hs' gw h with h | h; (exact HN.out.2.2 h); (omega)⟩)
    have k3 : ∀ j, j = gw ∨ j = gr ∨ j = gs → W1.heap[j]? = wr.heap[j]? := fun j hj => by
      have hjl : j < gp := by rcases hj with h | h | h <;> omega
      rw [ht'.block j (by omega) (fun h => by
        rcases h with h | h
        · rcases hj with e | e | e <;> subst e
          · exact HN.out.2.2 h
          · exact HN.out.1 h
          · exact HN.out.2.1 h
        · omega)]
      exact AB.out.block j (by omega)
    have BW1 := Lib.hid (show Boxed W1 gw 80 (.int .i64 (wt : Nat)) from (k3 gw (.inl rfl)).trans BW.out)
    have BR1 := Lib.hid (show Boxed W1 gr 78 (.iface T v) from (k3 gr (.inr (.inl rfl))).trans BR.out)
    have BS1 := Lib.hid (show Boxed W1 gs 3 (.int .i64 (size : Nat)) from (k3 gs (.inr (.inr rfl))).trans BS.out)
    have cs1 : W1.cell? ⟨gs, 0, none⟩ = some (.int .i64 (size : Nat)) := cell_of BS1.out 0 rfl
    have hz1 : gp < W1.heap.size := by have := ht'.size; omega
    have ST1 := Lib.hid hst'
    have HH1 := Lib.hid hh'
    have hnb := R.numB s size (by omega)
    have hlayN := R.layN s size
    have hlayE := R.layE s size
    have hmuL := R.muL s size
    have hmuE := R.muE s size
    have hcS := R.cntS s size
    have EB := Lib.hid (E.out.bad s S wt wr S' W1 BW.out.lt JR.out ST.out)
    have ET := Lib.hid (fun V => E.out.tired s S wt wr S' V BW.out.lt JR.out ST.out)
    have EI := Lib.hid (fun V => E.out.idle s S wt wr S' V BW.out.lt JR.out ST.out)
    have EM := Lib.hid (fun k zs' => E.out.move s S wt wr S' W1 gp k zs' BW.out.lt JR.out ST.out)
    obtain ⟨kz, hk⟩ : ∃ k, R.num s size = k := ⟨_, rfl⟩
    obtain ⟨ee, hee⟩ : ∃ ee, R.er s size = ee := ⟨_, rfl⟩
    obtain ⟨sn, hsn⟩ : ∃ sn, R.nxt s size = sn := ⟨_, rfl⟩
    rw [hk] at EB ET EI EM hnb hlayE hmuL
    rw [hee] at ET EI EM hmuL hmuE
    rw [hsn] at ST1 EB ET EI EM hmuL hmuE hcS
    obtain ⟨ly, hly⟩ : ∃ ly, R.lay s size = ly := ⟨_, rfl⟩
    rw [hly] at HH1 EM hlayN hlayE
    have LY := Lib.hid (And.intro hlayN hlayE)
    have ML := Lib.hid hmuL
    have ME := Lib.hid hmuE
    have CS := Lib.hid hcS
    have HEE := Lib.hid hee
    rw [hk, hee]
    have HGP := Lib.hid hgp
    clear hst' hs' ht' hh' k3 hlt hpz hpn STP RC hk hsn hly hlayN hlayE hmuL hmuE hcS hee hgp AB cr2 cs
    by_cases hbad : kz < 0 ∨ (size : Int) < kz
    · obtain ⟨fn', tm, asg, bod, hy, hR⟩ := EB.out hbad ST1.out SN.out T1.out
      have HR := Lib.hid hR
      clear hR EB ET EI EM
      by_cases hk0 : kz < 0
      · have t2f : decide (kz < 0) = true := decide_eq_true hk0
        clear hbad hk0
        gi_wp2
        refine HR.out.mono ?_
        rintro e3 W3 (⟨rfl, hj⟩ | ⟨rfl, hj⟩)
        · gi_wp2
          refine bodyPost_ret (results_none rfl _ _ _) rfl ?_
          exact ⟨⟨_, rfl⟩, .inl hj⟩
        · gi_wp2
          refine bodyPost_ret (results_none rfl _ _ _) rfl ?_
          exact ⟨⟨_, rfl⟩, .inr hj⟩
      · have t2f : decide (kz < 0) = false := decide_eq_false hk0
        have t3f : decide (kz > (size : Int)) = true := decide_eq_true (by omega)
        have t3f' : decide ((size : Int) < kz) = true := decide_eq_true (by omega)
        clear hbad hk0
        gi_wp2
        refine HR.out.mono ?_
        rintro e3 W3 (⟨rfl, hj⟩ | ⟨rfl, hj⟩)
        · gi_wp2
          refine bodyPost_ret (results_none rfl _ _ _) rfl ?_
          exact ⟨⟨_, rfl⟩, .inl hj⟩
        · gi_wp2
          refine bodyPost_ret (results_none rfl _ _ _) rfl ?_
          exact ⟨⟨_, rfl⟩, .inr hj⟩
    · obtain ⟨k, rfl⟩ : ∃ k : Nat, kz = k := ⟨kz.toNat, by omega⟩
      have hks : k ≤ size := by omega
      have t2f : decide ((k : Int) < 0) = false := decide_eq_false (by omega)
      have t3f : decide ((k : Int) > (size : Int)) = false := decide_eq_false (by omega)
      have t3f' : decide (size < k) = false := decide_eq_false (by omega)
      clear hbad EB hnb
      by_cases hmv : 0 < k ∨ ee ≠ 0
      · obtain ⟨hl1, hl2⟩ := LY.out
        have hl3 : ly.length = k := by have := hl2 (by omega) (by omega); omega
        have hz3 := ZS.out
        obtain ⟨fn', tm, asg, bod, hy, hR⟩ := EM.out k (ly ++ zs.drop ly.length) rfl hks hmv ST1.out SN.out T1.out (by rw [HGP.out]; exact Nat.le_refl _) hz1 SG.out HH1.out (by rw [List.length_append, List.length_drop]; omega) (by rw [← hl3, List.take_left, List.take_length])
        have HR := Lib.hid hR
        have hcut := fun W : World => run_cut33 W (some ⟨gp, 0, none⟩) size size .i64 .i64 k k (Nat.le_refl _) hks
        have HMV := Lib.hid hmv
        clear hR hl1 hl2 hl3 hz3 EM ET EI
        rcases Nat.eq_zero_or_pos k with hk0 | hk0
        case' inl =>
          have hene : ee ≠ 0 := by rcases hmv with h | h; (omega); (exact h)
          have t4 : decide ((k : Int) > 0) = false := decide_eq_false (by omega)
          have t4' : decide (0 < k) = false := decide_eq_false (by omega)
          have t5 : (ee != 0) = true := by rw [bne_iff_ne]; exact hene
          have HKE := Lib.hid (show 0 < k ∨ ee ≠ 0 from .inr hene)
          clear hmv hk0 hene
          gi_wp2
        case' inr =>
          have t4 : decide ((k : Int) > 0) = true := decide_eq_true (by omega)
          have t4' : decide (0 < k) = true := decide_eq_true hk0
          have HKE := Lib.hid (show 0 < k ∨ ee ≠ 0 from .inl hk0)
          clear hmv hk0
          gi_wp2
        all_goals
          refine HR.out.mono ?_
          rintro e3 W3 (⟨rfl, hj1, hj2⟩ | ⟨rfl, hj⟩)
          · by_cases he0 : ee = 0
            · obtain ⟨q1, q2, q3, q4⟩ := hj1 he0
              have J3 := Lib.hid q1
              have ST3 := Lib.hid q2
              have BW3 := Lib.hid (show Boxed W3 gw 80 (.int .i64 (wt : Nat)) from (q3 gw (.inl rfl)).trans BW1.out)
              have BR3 := Lib.hid (show Boxed W3 gr 78 (.iface T v) from (q3 gr (.inr (.inl rfl))).trans BR1.out)
              have BS3 := Lib.hid (show Boxed W3 gs 3 (.int .i64 (size : Nat)) from (q3 gs (.inr (.inr rfl))).trans BS1.out)
              have t6 : (ee != 0) = false := by rw [bne_eq_false_iff_eq]; exact he0
              have HE0 := Lib.hid he0
              have BY := Lib.hid (beyond_any gw wt true W3 BW3.out (by omega))
              have t7 : decide (waitN wt true = 16) = false := rfl
              clear hj1 hj2 he0 q1 q2 q3 q4
              first | clear t5 | skip
              gi_wp2
              refine ⟨trivial, ?_⟩
              refine (callsIn_wide.2 BY.out).mono ?_
              rintro e4 W4 ⟨rfl, hb4, ht4⟩
              have J4 := Lib.hid (E.out.stab _ _ _ W3 W4 J3.out ht4)
              have ST4 := Lib.hid (RD.frame _ _ _ W3 W4 ST3.out ht4 (fun j hj e => SN3.out.2.2 (e ▸ hj)) (fun j e => by omega))
              have BR4 := Lib.hid (boxed_turns BR3.out ht4 (fun e => HNE.out.1 e))
              have BS4 := Lib.hid (boxed_turns BS3.out ht4 (fun e => HNE.out.2 e))
              have BW4 := Lib.hid hb4
              clear hb4 ht4 BY
              gi_wp2
              gi_roundg (R.mu sn * 17 + 17)
              case rel => exact ⟨sn, S', 0, J4.out, ST4.out, BW4.out, BR4.out, BS4.out, by omega, by omega, by
                have h1 := ML.out HE0.out
                have h2 := ME.out HE0.out
                have h3 := CS.out
                have h4 := HCN.out
                have h5 := HMU.out
                rcases HKE.out with h | h
                · have := h1 (by omega) (by omega)
                  omega
                · exact absurd HE0.out h, SN3.out.1, SN3.out.2.1, SN3.out.2.2⟩
              case measure =>
                have h1 := ML.out HE0.out
                have h5 := HMU.out
                rcases HKE.out with h | h
                · have := h1 (by omega) (by omega)
                  omega
                · exact absurd HE0.out h
            · have hje := hj2 he0
              have t6 : (ee != 0) = true := by rw [bne_iff_ne]; exact he0
              clear hj1 hj2 he0
              gi_wp2
              refine bodyPost_ret (results_none rfl _ _ _) rfl ?_
              exact ⟨⟨_, rfl⟩, .inl hje⟩
          · gi_wp2
            refine bodyPost_ret (results_none rfl _ _ _) rfl ?_
            exact ⟨⟨_, rfl⟩, .inr hj⟩
      · obtain rfl : k = 0 := by omega
        obtain rfl : ee = 0 := by
          by_cases h : ee = 0
          · exact h
          · exact absurd (.inr h) hmv
        have BY := Lib.hid (beyond_any gw wt false W1 BW1.out (by omega))
        clear hmv EM
        gi_wp2
        refine ⟨fun _ h => (by cases h), ?_⟩
        gi_wp2
        refine ⟨trivial, ?_⟩
        refine (callsIn_wide.2 BY.out).mono ?_
        rintro e4 W4 ⟨rfl, hb4, ht4⟩
        have T4 := Lib.hid (T1.out.trans (T := fun j => j = gw) ht4 fun j _ h => .inr h)
        have ST4 := Lib.hid (RD.frame _ _ _ W1 W4 ST1.out ht4 (fun j hj e => SN3.out.2.2 (e ▸ hj)) (fun j e => by omega))
        have BR4 := Lib.hid (boxed_turns BR1.out ht4 (fun e => HNE.out.1 e))
        have BS4 := Lib.hid (boxed_turns BS1.out ht4 (fun e => HNE.out.2 e))
        have BW4 := Lib.hid (show Boxed W4 gw 80 (.int .i64 ((wt + 1 : Nat) : Int)) from hb4)
        clear hb4 ht4 BY
        by_cases h16 : wt + 1 = 16
        · obtain ⟨fn', tm, asg, bod, hy, hR⟩ := ET.out W4 (by trivial) (by trivial) h16 ST4.out SN.out T4.out
          have HR := Lib.hid hR
          have t7 : decide (waitN wt false = 16) = true := decide_eq_true h16
          clear hR ET EI h16
          gi_wp2
          refine HR.out.mono ?_
          rintro e3 W3 (⟨rfl, hj⟩ | ⟨rfl, hj⟩)
          · gi_wp2
            refine bodyPost_ret (results_none rfl _ _ _) rfl ?_
            exact ⟨⟨_, rfl⟩, .inl hj⟩
          · gi_wp2
            refine bodyPost_ret (results_none rfl _ _ _) rfl ?_
            exact ⟨⟨_, rfl⟩, .inr hj⟩
        · have J4 := Lib.hid (EI.out W4 (by trivial) (by trivial) (by omega) ST4.out SN.out T4.out)
          have t7 : decide (waitN wt false = 16) = false := decide_eq_false h16
          have H16 := Lib.hid h16
          clear ET EI h16
          gi_wp2
          gi_roundg (gk - 1)
          case rel => exact ⟨sn, S', wt + 1, J4.out, ST4.out, BW4.out, BR4.out, BS4.out, by have := H16.out; omega, by have := ME.out (by trivial); have := HMU.out; omega, by have := CS.out; have := HCN.out; have := HMU.out; omega, SN3.out.1, SN3.out.2.1, SN3.out.2.2⟩
          case measure => have := HMU.out; omega
end Go.Proofs.Ytjkgncogpefnbaa

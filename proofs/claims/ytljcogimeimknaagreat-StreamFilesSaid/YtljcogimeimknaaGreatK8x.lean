/- Several texts in one: PairRZ, BlockEntries, BlockRRead. Each has its own sentence and conditions below. -/
import Derived.Test.YtljcogimeimknaaGreatPairRRead
import Derived.Test.YtljcogimeimknaaGreatF8n
import Derived.Test.YtljcogimeimknaaGreatK8c
import Derived.Test.YtljcogimeimknaaGreatBlockRead
import Derived.Deep.RegionLaw
import Derived.BigRegion
/- What is read of bytes behind a text, from any place: contracts, the program's and the reference's. Conditions: the texts within reach. -/
namespace Go.Proofs.YtljcogimeimknaaGreat
open Go.RowKit
set_option linter.unusedVariables false

theorem erread_z (ap : Option Addr) (np cp : Nat) (p : List UInt8) (ab : Option Addr) (nb cb : Nat) (b : List UInt8) (z : Int) (w : World) (hp : np ≤ 140737488351232) (hb : nb ≤ 140737488351232) (h0 : Sl Bf w ap np cp p) (h1 : Sl Bf w ab nb cb b) :
    Calls Tryz.prog 146 #[.slice ap np cp, .slice ab nb cb, .int .i64 z] w fun e w' => RdPost w (erd p b z).1.1 (erd p b z).1.2 (erd p b z).2.1 (erd p b z).2.2 e w' := by
  have hl := h1.len
  unfold erd
  by_cases hz : 0 ≤ z ∧ z ≤ b.length
  · rw [if_pos hz]
    obtain ⟨a, rfl⟩ : ∃ a : Nat, z = a := ⟨z.toNat, by omega⟩
    exact erread_any ap np cp p ab nb cb b a w hp hb (by omega) h0 h1
  · rw [if_neg hz]
    exact erread_bad ap np cp ab nb cb z w hb (by omega)
end Go.Proofs.YtljcogimeimknaaGreat
/- The entries of a block, the reference's: contract. Condition: the bytes within reach. -/
namespace Go.Proofs.YtljcogimeimknaaGreat
open Go.RowKit
set_option linter.unusedVariables false

/-- in the midst of it -/
structure REn (w0 w : World) (n : Nat) (b : List UInt8) (X : List Ent × List Nat × Nat × Int × Nat) (k m : Nat) (y z : Value) (vs : List (Sv × Sv)) (es : List Ent) (ps : List Nat) : Prop where
  ls : RdL w w0.heap.size y vs es
  at' : OwT fI w w0.heap.size 3 z ps
  dis : ∀ j, RLB y vs j → z.ownBlock ≠ some j
  be : Below w0.heap.size w0 w
  kn : k ≤ n
  el : es.length = k
  pl : ps.length = k
  mb : m ≤ b.length
  ll : (bst es).last.length ≤ 64
  eq : bents b (n - k) es ps m = X
section
variable {w0 w : World} {n k m : Nat} {b : List UInt8} {X : List Ent × List Nat × Nat × Int × Nat} {y z : Value} {vs : List (Sv × Sv)} {es : List Ent} {ps : List Nat}
theorem REn.prd (S : REn w0 w n b X k m y z vs es ps) : erd (bP k (bst es).last) b m = pread (bP es.length (bst es).last) b m := by
  rw [S.el]
  unfold erd
  rw [if_pos ⟨by omega, by have := S.mb; omega⟩, Int.toNat_natCast]
theorem REn.bad (S : REn w0 w n b X k m y z vs es ps) (hk : k < n) {x : Ent} {q : Nat} {er : Int} (hx : erd (bP k (bst es).last) b m = (x, q, er)) (h : er ≠ 0) : X = (es, ps, m, er, q) := by
  rw [← S.eq, show n - k = (n - k - 1) + 1 by omega]
  exact bents_no (S.prd ▸ hx) h
theorem REn.low (S : REn w0 w n b X k m y z vs es ps) (hk : k < n) {x : Ent} {q : Nat} (hx : erd (bP k (bst es).last) b m = (x, q, 0)) (h : 0 < k ∧ 0 ≤ cmp (bst es).last x.1) : X = (es, ps, m, 51, m) := by
  rw [← S.eq, show n - k = (n - k - 1) + 1 by omega]
  exact bents_low (S.prd ▸ hx) ⟨by rw [S.el]; exact h.1, h.2⟩
theorem REn.go (S : REn w0 w n b X k m y z vs es ps) (hk : k < n) {x : Ent} {q : Nat} (hx : erd (bP k (bst es).last) b m = (x, q, 0)) (h : ¬ (0 < k ∧ 0 ≤ cmp (bst es).last x.1)) : bents b (n - (k + 1)) (es ++ [x]) (ps ++ [m]) q = X := by
  rw [← S.eq, show n - k = (n - (k + 1)) + 1 by omega]
  exact (bents_go (S.prd ▸ hx) fun h2 => h ⟨by rw [← S.el]; exact h2.1, h2.2⟩).symm
/-- an entry is put behind the list -/
theorem REn.app1 {W1 w8 : World} {o : Obj} {x : Ent} {x1 x2 : Sv} {y' : Value} (S : REn w0 w n b X k m y z vs es ps) (hw : Below w.heap.size w W1) (o1 : OwT fB W1 w.heap.size 5 (sv x1) x.1) (o2 : OwT fB W1 w.heap.size 5 (sv x2) x.2)
    (h8 : OwZ fE zE w8 w0.heap.size 51 y' (vs ++ [(x1, x2)])) (hg : (W1.alloc o).grownBy w8 y.ownBlock) (hv : y'.ownBlock = y.ownBlock ∨ y'.ownBlock = some (W1.alloc o).heap.size) :
    RdL w8 w0.heap.size y' (vs ++ [(x1, x2)]) (es ++ [x]) ∧ OwT fI w8 w0.heap.size 3 z ps ∧ (∀ j, RLB y' (vs ++ [(x1, x2)]) j → z.ownBlock ≠ some j) ∧ Below w0.heap.size w0 w8 := by
  have hz0 : w0.heap.size ≤ w.heap.size := S.be.size
  have hz1 : w.heap.size ≤ W1.heap.size := hw.size
  have hrl := S.ls.inB
  have hyl : ∀ j, y.ownBlock = some j → w0.heap.size ≤ j ∧ j < w.heap.size := fun j hj => hrl j (.inl hj)
  have hzl := S.at'.lt
  have hsz : (W1.alloc o).heap.size = W1.heap.size + 1 := by simp
  have t8 : Turns (fun j => y.ownBlock = some j) W1 w8 := (Turns.of_below ((Below.refl _ W1).alloc (Nat.le_refl _) o)).trans (.of_grown hg fun j e => e) fun _ _ e => e
  have hv8 : ∀ j, y'.ownBlock = some j → y.ownBlock = some j ∨ W1.heap.size ≤ j := fun j hj => by
    rcases hv with e | e
    · exact .inl (e ▸ hj)
    · rw [e] at hj; injection hj with hj; exact .inr (by omega)
  refine ⟨(S.ls.keep hw).app h8 t8 hv8 (o1.base (by omega)) (o2.base (by omega)) fun j hj => ⟨fun e => by have := (o1.lt j e).1; have := (hrl j hj).2; omega, fun e => by have := (o2.lt j e).1; have := (hrl j hj).2; omega⟩,
    (S.at'.keep hw).turns t8 fun j hj e => S.dis j (.inl e) hj, fun j hj e => ?_, t8.below (S.be.trans (hw.mono hz0)) (by omega) fun j hj => (hyl j hj).1⟩
  have hzj := (hzl j e).2
  rcases hj with hj | ⟨i, zz, hz, hj⟩
  · rcases hv8 j hj with h | h
    · exact S.dis j (.inl h) e
    · omega
  · by_cases hi : i < vs.length
    · rw [List.getElem?_append_left hi] at hz
      exact S.dis j (.inr ⟨i, zz, hz, hj⟩) e
    · rw [List.getElem?_append_right (by omega)] at hz
      have hi0 : i - vs.length = 0 := by have := (List.getElem?_eq_some_iff.1 hz).1; simp at this; omega
      rw [hi0] at hz
      obtain rfl : (x1, x2) = zz := by simpa using hz
      rcases hj with hj | hj
      · have := (o1.lt j hj).1; omega
      · have := (o2.lt j hj).1; omega
end
/-- a place is put behind the places -/
theorem ren_app2 {w0 w8 w9 : World} {o : Obj} {y z z' : Value} {vs : List (Sv × Sv)} {es : List Ent} {ps ps' : List Nat} (h : RdL w8 w0.heap.size y vs es) (hz : OwT fI w8 w0.heap.size 3 z ps) (dis : ∀ j, RLB y vs j → z.ownBlock ≠ some j) (be : Below w0.heap.size w0 w8)
    (h9 : OwT fI w9 w0.heap.size 3 z' ps') (hg : (w8.alloc o).grownBy w9 z.ownBlock) (hv : z'.ownBlock = z.ownBlock ∨ z'.ownBlock = some (w8.alloc o).heap.size) :
    RdL w9 w0.heap.size y vs es ∧ (∀ j, RLB y vs j → z'.ownBlock ≠ some j) ∧ Below w0.heap.size w0 w9 := by
  have t9 : Turns (fun j => z.ownBlock = some j) w8 w9 := (Turns.of_below ((Below.refl _ w8).alloc (Nat.le_refl _) o)).trans (.of_grown hg fun j e => e) fun _ _ e => e
  have hsz : (w8.alloc o).heap.size = w8.heap.size + 1 := by simp
  refine ⟨h.turns t9 fun j hj e => dis j hj e, fun j hj e => ?_, t9.below be be.size fun j hj => (hz.lt j hj).1⟩
  have := (h.inB j hj).2
  rcases hv with hv | hv
  · exact dis j hj (hv ▸ e)
  · rw [hv] at e; injection e with e; omega
theorem results_tmp5 {fn : Func} {t u v x y : Tmp} (h : fn.results = #[.tmp t, .tmp u, .tmp v, .tmp x, .tmp y]) (tmps : Array Value) (P : Program) (w : World) :
    (results fn tmps).run P w = .ok (.tuple #[tmps.getD t undef, tmps.getD u undef, tmps.getD v undef, tmps.getD x undef, tmps.getD y undef]) w := by
  simp [results, h]
/-- behind the reference's Entries -/
def EnsPost (w : World) (X : List Ent × List Nat × Nat × Int × Nat) (r : Ending) (w' : World) : Prop :=
  Below w.heap.size w w' ∧ ∃ y z vs, r = .returned (.tuple #[y, z, .int .i64 (X.2.2.1 : Nat), .int .i64 X.2.2.2.1, .int .i64 (X.2.2.2.2 : Nat)]) ∧ RdL w' w.heap.size y vs X.1 ∧ OwT fI w' w.heap.size 3 z X.2.1
theorem REn.post {w0 w : World} {n k m : Nat} {b : List UInt8} {X : List Ent × List Nat × Nat × Int × Nat} {y z : Value} {vs : List (Sv × Sv)} {es : List Ent} {ps : List Nat} (S : REn w0 w n b X k m y z vs es ps) {p q : Nat} {er : Int} {w' : World}
    (hX : X = (es, ps, p, er, q)) (hb : Below w.heap.size w w') : EnsPost w0 X (.returned (.tuple #[y, z, .int .i64 (p : Nat), .int .i64 er, .int .i64 (q : Nat)])) w' := by
  subst hX
  exact ⟨S.be.trans (hb.mono S.be.size), y, z, vs, rfl, S.ls.keep hb, S.at'.keep hb⟩
set_option maxRecDepth 100000 in
set_option maxHeartbeats 8000000 in
theorem rentries_any (ab : Option Addr) (nb cb : Nat) (b : List UInt8) (w : World) (hb : nb ≤ 140737488351232) (hB : Sl Bf w ab nb cb b) :
    Calls Tryz.prog 108 #[.slice ab nb cb] w (EnsPost w (bentries b)) := by
  obtain ⟨X, hX⟩ : ∃ X, bentries b = X := ⟨_, rfl⟩
  rw [hX]
  obtain ⟨⟨n, q, er⟩, hq⟩ : ∃ R, rd b 0 0 = R := ⟨_, rfl⟩
  have hv := rread_any ab nb cb b 0 w (by omega) (Nat.zero_le _) hB
  rw [List.drop_zero, hq, Nat.zero_add] at hv
  dsimp only at hv
  have HV := Lib.hid (show Calls Tryz.prog 42 #[.slice ab nb cb, .int .i64 0] w _ from hv)
  have HQ := Lib.hid hq
  have HX := Lib.hid hX
  have B := Lib.hid hB
  obtain rfl : b.length = nb := hB.len
  clear hv hB hq hX
  by_cases hz : er = 0
  · subst hz
    by_cases hn : n < 1 ∨ 64 < n
    · have HN := Lib.hid (HX.out.symm.trans (bentries_bad HQ.out hn))
      have t1 : decide ((n : Int) < 1) = decide (n < 1) := by rw [decide_eq_decide]; omega
      by_cases h1 : n < 1
      · obtain rfl : n = 0 := by omega
        clear hn t1
        go_enter Tryz.func108, Tryz.ntmps108
        go_wp2_with fail
        refine HV.out.mono ?_
        rintro r w1 ⟨rfl, rfl⟩
        go_wp2_with fail
        refine bodyPost_ret (results_tmp5 rfl _ _ _) rfl ?_
        rw [HN.out]
        exact ⟨Below.refl _ _, _, _, [], rfl, RdL.nil _ _, OwT.nil _ _ _ _⟩
      · have t2 : decide ((n : Int) < 1) = false := decide_eq_false (by omega)
        have t3 : decide ((n : Int) > 64) = true := decide_eq_true (by omega)
        have t3' : decide (64 < n) = true := decide_eq_true (by omega)
        have t4 : (n == 0) = false := by rw [beq_eq_false_iff_ne]; omega
        clear hn t1 h1
        go_enter Tryz.func108, Tryz.ntmps108
        go_wp2_with fail
        refine HV.out.mono ?_
        rintro r w1 ⟨rfl, rfl⟩
        go_wp2_with fail
        refine bodyPost_ret (results_tmp5 rfl _ _ _) rfl ?_
        rw [HN.out]
        exact ⟨Below.refl _ _, _, _, [], rfl, RdL.nil _ _, OwT.nil _ _ _ _⟩
    · have HN := Lib.hid (HX.out.symm.trans (bentries_go HQ.out hn))
      have t2 : decide ((n : Int) < 1) = false := decide_eq_false (by omega)
      have t3 : decide ((n : Int) > 64) = false := decide_eq_false (by omega)
      have t3' : decide (64 < n) = false := decide_eq_false (by omega)
      have t4 : (n == 0) = false := by rw [beq_eq_false_iff_ne]; omega
      have r1 : IntKind.i64.wrap (n : Int) = n := IntWalk.i64_in _ (by omega)
      have hn64 : n ≤ 64 := by omega
      have hq1 := Lib.hid (rd_vbs HQ.out).1
      clear hn
      go_enter Tryz.func108, Tryz.ntmps108
      go_wp2_with fail
      refine HV.out.mono ?_
      rintro r w1 ⟨rfl, rfl⟩
      go_wp2_with fail
      go_loopw [8, 10, 11, 12] (fun s8 s10 s11 s12 wr => ∃ (k m : Nat) (y z : Value) (vs : List (Sv × Sv)) (es : List Ent) (ps : List Nat), s8 = .int .i64 (m : Nat) ∧ s10 = y ∧ s11 = z ∧ s12 = .int .i64 (k : Nat) ∧ REn w wr n b X k m y z vs es ps) (fun _ _ _ s12 _ => n - (intOf s12).toNat)
      case atStart => exact ⟨0, q, _, _, [], [], [], rfl, rfl, rfl, rfl, RdL.nil _ _, OwT.nil _ _ _ _, fun j _ => by simp [Value.ownBlock], Below.refl _ _, Nat.zero_le _, rfl, rfl, hq1.out, Nat.zero_le _, HN.out.symm⟩
      case round =>
        obtain ⟨k, m, y, z, vs, es, ps, rfl, rfl, rfl, rfl, hS⟩ := hrel
        obtain ⟨ay, cy, hy, hE⟩ := hS.ls.ents
        rw [hS.el] at hy hE
        subst hy
        obtain ⟨az, nz, cz, rfl, hnz, -⟩ := hS.at'.slRI
        have hnz64 : nz ≤ 64 := by have := hS.pl; have := hS.kn; omega
        have hvl : vs.length ≤ 64 := by have := hS.ls.len; have := hS.el; have := hS.kn; omega
        have hpl : ps.length ≤ 64 := by have := hS.pl; have := hS.kn; omega
        have S := Lib.hid hS
        have E := Lib.hid hE
        have hlast := hS.ll
        clear hS hE hnz
        by_cases hk : k < n
        · have t5 : decide ((k : Int) < (n : Nat)) = true := decide_eq_true (by omega)
          have t5' : decide (k < n) = true := decide_eq_true hk
          have PV := Lib.hid (prev_any ay k cy es k wr (by omega) (Nat.le_refl _) E.out)
          have hte : es.take k = es := List.take_of_length_le (by have := S.out.el; omega)
          rw [hte] at PV
          have hbp : (bP k (bst es).last).length ≤ 64 := by unfold bP; split; (exact Nat.zero_le _); (exact hlast)
          obtain ⟨⟨x, q', er⟩, hx⟩ : ∃ R, erd (bP k (bst es).last) b m = R := ⟨_, rfl⟩
          have XX := Lib.hid hx
          clear hte hlast hx
          go_wp2_with fail
          refine PV.out.mono ?_
          rintro e w1 ⟨ap, np, cp, rfl, hP, rfl⟩
          have hnp : np ≤ 64 := by have := hP.len; omega
          have RD := erread_z ap np cp (bP k (bst es).last) ab b.length cb b (m : Nat) wr (by omega) hb hP (B.out.keep S.out.be)
          rw [XX.out] at RD
          replace RD := Lib.hid RD
          clear hP PV hbp
          go_wp2_with fail
          refine RD.out.mono ?_
          rintro e w2 ⟨vk, vv, mid, rfl, o1, o2, o3, o4, hb2⟩
          obtain ⟨ak, nk, ck, rfl, zk⟩ := o1.slN
          obtain ⟨av, nv, cv, rfl, zv⟩ := o2.slN
          have B2 := Lib.hid hb2
          have O1 := Lib.hid o1
          have O2 := Lib.hid (o2.base o4)
          have ZK := Lib.hid zk
          clear o1 o2 o3 o4 hb2 zv zk RD
          by_cases he : er = 0
          · subst he
            obtain ⟨hx1, hx2, hx3, hx4, hx5, -⟩ := erd_in XX.out
            have hlo : w.heap.size ≤ wr.heap.size := S.out.be.size
            have hb3 : Below wr.heap.size wr (w2.alloc (.cells #[.slice ak nk ck, .slice av nv cv] 51)) := B2.out.alloc B2.out.size _
            have BX := heap_new w2 (.cells #[.slice ak nk ck, .slice av nv cv] 51)
            have c0 := cell_of BX 0 rfl
            have c1 := cell_of BX 1 rfl
            have hnk : nk ≤ 64 := by have := ZK.out.len; omega
            have ZK3 := Lib.hid (ZK.out.keep ((Below.refl _ _).alloc (Nat.le_refl _) (.cells #[.slice ak nk ck, .slice av nv cv] 51)))
            have O13 := Lib.hid (O1.out.keep ((Below.refl _ _).alloc (Nat.le_refl _) (.cells #[.slice ak nk ck, .slice av nv cv] 51)))
            have O23 := Lib.hid (O2.out.keep ((Below.refl _ _).alloc (Nat.le_refl _) (.cells #[.slice ak nk ck, .slice av nv cv] 51)))
            have hg3 : w2.heap.size < (w2.alloc (.cells #[.slice ak nk ck, .slice av nv cv] 51)).heap.size := by simp
            have B3 := Lib.hid hb3
            clear BX hb3 O1 O2 ZK B2
            go_wp2_with fail
            generalize w2.alloc (.cells #[.slice ak nk ck, .slice av nv cv] 51) = w3 at *
            generalize w2.heap.size = g13 at *
            have hw3 : wr.heap.size ≤ w3.heap.size := B3.out.size
            by_cases hk0 : 0 < k
            · obtain ⟨j, hjk⟩ : ∃ j, k = j + 1 := ⟨k - 1, by omega⟩
              have hj1 : j < k := by omega
              have HJ := Lib.hid hjk
              obtain ⟨⟨lk, lv⟩, hj⟩ : ∃ e, es[j]? = some e := ⟨_, List.getElem?_eq_getElem (by have := S.out.el; omega)⟩
              have hbl : (bst es).last = lk := by
                have := bst_take hj
                rw [List.take_of_length_le (by have := S.out.el; omega)] at this
                rw [this]; rfl
              obtain ⟨b', o', al, cl, _, _, rfl, _, _, hrow⟩ := E.out.row hj
              obtain ⟨d0, -, z0, -⟩ := hrow w3 B3.out
              have hlk : lk.length ≤ 64 := by rw [← hbl]; exact S.out.ll
              obtain ⟨p, hp⟩ : ∃ p, cmp lk x.1 = p := ⟨_, rfl⟩
              have HC := Lib.hid (fun q => rcompare_q al lk.length cl lk ak nk ck x.1 (w3.drewN q) (by omega) (by omega) (z0.drewN q) (ZK3.out.drewN q))
              rw [hp] at HC
              have HP := Lib.hid hp
              have HBL := Lib.hid hbl
              have hg0 : (k : Int) > 0 := by omega
              have e1 : IntKind.i64.wrap ((k : Int) - 1) = (j : Int) := by rw [show (k : Int) - 1 = (j : Int) by omega]; exact IntWalk.i64_in _ (by omega)
              clear hp hbl hj hrow z0 hjk
              by_cases hp0 : 0 ≤ p
              · have HE := Lib.hid (S.out.low hk XX.out ⟨by omega, by rw [HBL.out, HP.out]; exact hp0⟩)
                go_quiet ((go_at_call 54; exact Calls.quiet_of_drw (HC.out _)))
                go_wp2_with fail
                refine bodyPost_ret (results_tmp5 rfl _ _ _) rfl ?_
                exact S.out.post HE.out (keep_drewN B3.out _)
              · have HG := Lib.hid (S.out.go hk XX.out fun h => by have := h.2; rw [HBL.out, HP.out] at this; exact hp0 this)
                go_quiet ((go_at_call 54; exact Calls.quiet_of_drw (HC.out _)))
                have PSX := 0
                clear HC HJ HBL HP e1
                have hls : w.heap.size ≤ wr.heap.size := S.out.be.size
                have LS := Lib.hid (S.out.ls.keep (keep_drewN B3.out nq))
                have APP := Lib.hid (fun (w8 : World) (o : Obj) (y' : Value) => S.out.app1 (w8 := w8) (o := o) (x := x) (x1 := (ak, nk, ck)) (x2 := (av, nv, cv)) (y' := y') (keep_drewN B3.out nq) (O13.out.drewN nq) (O23.out.drewN nq))
                have REST := Lib.hid (And.intro S.out.el (And.intro S.out.pl hx4))
                clear S XX HX HN B E PSX
                go_wp2_with (first
                  | (at_builtin; go_loud (refine wpList_appZ eltTE zE_ok rfl (.tmp 73) (.tmp 75) rfl w.heap.size _ vs (by rfl) (LS.out.own.keep ((Below.refl _ _).alloc (Nat.le_refl _) _)) _ 1 1 [((ak, nk, ck), (av, nv, cv))] (by rfl) (SlT.lit1 _ _ _ _ rfl) (by unfold maxLen; omega) (by omega) (by simp <;> omega) (vs ++ [((ak, nk, ck), (av, nv, cv))]) rfl ?_; intro v8 w8 h8 hg8 hv8 hb8; obtain ⟨a8, n8, c8, rfl, hn8, -⟩ := h8.t.slE; obtain ⟨ha, hz, hd, hbe⟩ := APP.out w8 _ _ h8 hg8 hv8; have A8 := Lib.hid ha; have Z8 := Lib.hid hz; have D8 := Lib.hid hd; have BE8 := Lib.hid hbe; clear h8 hg8 hv8 hb8 ha hz hd hbe hn8))
                  | (at_builtin; go_loud (refine wpList_appT eltTI rfl (.tmp 77) (.tmp 79) rfl w.heap.size (.slice az nz cz) ps (by rfl) (Z8.out.alloc _) _ 1 1 [m] (by rfl) (SlT.litI _ _ _ rfl) (by unfold maxLen; omega) (by omega) (by have := BE8.out.size; simp <;> omega) (ps ++ [m]) rfl ?_; intro v9 w9 h9 hg9 hv9 hb9; obtain ⟨a9, n9, c9, rfl, -, -⟩ := h9.slRI; obtain ⟨ha, hd, hbe⟩ := ren_app2 A8.out Z8.out D8.out BE8.out h9 hg9 hv9; have A9 := Lib.hid ha; have D9 := Lib.hid hd; have BE9 := Lib.hid hbe; have Z9 := Lib.hid h9; clear h9 hg9 hv9 hb9 ha hd hbe)))
                go_roundw
                case rel => exact ⟨k + 1, q', _, _, _, es ++ [x], ps ++ [m], rfl, rfl, rfl, by go_num, A9.out, Z9.out, D9.out, BE9.out, hk, by rw [List.length_append, REST.out.1]; rfl, by rw [List.length_append, REST.out.2.1]; rfl, REST.out.2.2, by rw [bst_snoc]; exact hx2, HG.out⟩
                case measure => simp [intOf]; omega
            · have HG := Lib.hid (S.out.go hk XX.out fun h => by omega)
              have t7 : decide ((k : Int) > 0) = false := decide_eq_false (by omega)
              have t7' : decide (0 < k) = false := decide_eq_false hk0
              go_quiet (fail)
              have PSX := 0
              have hls : w.heap.size ≤ wr.heap.size := S.out.be.size
              have LS := Lib.hid (S.out.ls.keep (keep_drewN B3.out nq))
              have APP := Lib.hid (fun (w8 : World) (o : Obj) (y' : Value) => S.out.app1 (w8 := w8) (o := o) (x := x) (x1 := (ak, nk, ck)) (x2 := (av, nv, cv)) (y' := y') (keep_drewN B3.out nq) (O13.out.drewN nq) (O23.out.drewN nq))
              have REST := Lib.hid (And.intro S.out.el (And.intro S.out.pl hx4))
              clear S XX HX HN B E PSX
              go_wp2_with (first
                | (at_builtin; go_loud (refine wpList_appZ eltTE zE_ok rfl (.tmp 73) (.tmp 75) rfl w.heap.size _ vs (by rfl) (LS.out.own.keep ((Below.refl _ _).alloc (Nat.le_refl _) _)) _ 1 1 [((ak, nk, ck), (av, nv, cv))] (by rfl) (SlT.lit1 _ _ _ _ rfl) (by unfold maxLen; omega) (by omega) (by simp <;> omega) (vs ++ [((ak, nk, ck), (av, nv, cv))]) rfl ?_; intro v8 w8 h8 hg8 hv8 hb8; obtain ⟨a8, n8, c8, rfl, hn8, -⟩ := h8.t.slE; obtain ⟨ha, hz, hd, hbe⟩ := APP.out w8 _ _ h8 hg8 hv8; have A8 := Lib.hid ha; have Z8 := Lib.hid hz; have D8 := Lib.hid hd; have BE8 := Lib.hid hbe; clear h8 hg8 hv8 hb8 ha hz hd hbe hn8))
                | (at_builtin; go_loud (refine wpList_appT eltTI rfl (.tmp 77) (.tmp 79) rfl w.heap.size (.slice az nz cz) ps (by rfl) (Z8.out.alloc _) _ 1 1 [m] (by rfl) (SlT.litI _ _ _ rfl) (by unfold maxLen; omega) (by omega) (by have := BE8.out.size; simp <;> omega) (ps ++ [m]) rfl ?_; intro v9 w9 h9 hg9 hv9 hb9; obtain ⟨a9, n9, c9, rfl, -, -⟩ := h9.slRI; obtain ⟨ha, hd, hbe⟩ := ren_app2 A8.out Z8.out D8.out BE8.out h9 hg9 hv9; have A9 := Lib.hid ha; have D9 := Lib.hid hd; have BE9 := Lib.hid hbe; have Z9 := Lib.hid h9; clear h9 hg9 hv9 hb9 ha hd hbe)))
              go_roundw
              case rel => exact ⟨k + 1, q', _, _, _, es ++ [x], ps ++ [m], rfl, rfl, rfl, by go_num, A9.out, Z9.out, D9.out, BE9.out, hk, by rw [List.length_append, REST.out.1]; rfl, by rw [List.length_append, REST.out.2.1]; rfl, REST.out.2.2, by rw [bst_snoc]; exact hx2, HG.out⟩
              case measure => simp [intOf]; omega
          · have t6 : (er != 0) = true := by rw [bne_iff_ne]; exact he
            have HE := Lib.hid (S.out.bad hk XX.out he)
            clear he
            go_wp2_with fail
            refine bodyPost_ret (results_tmp5 rfl _ _ _) rfl ?_
            exact S.out.post HE.out (B2.out.alloc (by have := B2.out.size; omega) _)
        · have t5 : decide ((k : Int) < (n : Nat)) = false := decide_eq_false (by omega)
          have t5' : decide (k < n) = false := decide_eq_false hk
          obtain rfl : k = n := by have := S.out.kn; omega
          have hXX := S.out.eq
          rw [Nat.sub_self] at hXX
          have HE := Lib.hid (hXX.symm : X = (es, ps, m, 0, 0))
          clear hXX
          go_wp2_with fail
          refine bodyPost_ret (results_tmp5 rfl _ _ _) rfl ?_
          exact S.out.post HE.out (Below.refl _ _)
  · have t1 : (er != 0) = true := by rw [bne_iff_ne]; exact hz
    have HN := Lib.hid (HX.out.symm.trans (bentries_no HQ.out hz))
    clear hz
    go_enter Tryz.func108, Tryz.ntmps108
    go_wp2_with fail
    refine HV.out.mono ?_
    rintro r w1 ⟨rfl, rfl⟩
    go_wp2_with fail
    refine bodyPost_ret (results_tmp5 rfl _ _ _) rfl ?_
    rw [HN.out]
    exact ⟨Below.refl _ _, _, _, [], rfl, RdL.nil _ _, OwT.nil _ _ _ _⟩
end Go.Proofs.YtljcogimeimknaaGreat
/- A block is read, the reference's: contract. Condition: the bytes within reach. -/
namespace Go.Proofs.YtljcogimeimknaaGreat
open Go.RowKit
set_option linter.unusedVariables false

theorem bruns_skip : ∀ (d i : Nat) (l : List Nat), (∀ j, j < d → (i + j) % 8 ≠ 0) → bruns i l = bruns (i + d) (l.drop d)
  | 0, i, l, _ => by simp
  | d + 1, i, [], _ => by simp [bruns]
  | d + 1, i, a :: r, h => by
    have h0 := h 0 (by omega)
    show (if i % 8 = 0 then a :: bruns (i + 1) r else bruns (i + 1) r) = _
    rw [if_neg (by simpa using h0), bruns_skip d (i + 1) r fun j hj => by have := h (j + 1) (by omega); rwa [show i + (j + 1) = i + 1 + j by omega] at this]
    rw [List.drop_succ_cons, show i + 1 + d = i + (d + 1) by omega]
/-- a restart, then those behind it -/
theorem bruns_at {l : List Nat} {i x : Nat} (hi : i % 8 = 0) (hx : l[i]? = some x) : bruns i (l.drop i) = x :: bruns (i + 8) (l.drop (i + 8)) := by
  obtain ⟨hl, rfl⟩ := List.getElem?_eq_some_iff.1 hx
  rw [List.drop_eq_getElem_cons hl]
  show (if i % 8 = 0 then l[i] :: bruns (i + 1) (l.drop (i + 1)) else bruns (i + 1) (l.drop (i + 1))) = _
  rw [if_pos hi, bruns_skip 7 (i + 1) _ fun j hj => by omega, List.drop_drop, show i + 1 + 7 = i + 8 by omega]
theorem bruns_end {l : List Nat} {i : Nat} (hi : l.length ≤ i) : bruns i (l.drop i) = [] := by rw [List.drop_of_length_le hi]; rfl
theorem bplaces_le : ∀ (r : List Ent) (s : BS) (p : Nat), ∀ x, x ∈ bplaces s p r → x ≤ p + (bbody s r).length
  | [], s, p, x, h => by simp [bplaces] at h
  | e :: r, s, p, x, h => by
    have h : x ∈ p :: bplaces (bAdd s e) (p + (ebytes (bP s.n s.last) e).length) r := h
    show x ≤ p + (ebytes (bP s.n s.last) e ++ bbody (bAdd s e) r).length
    rw [List.length_append]
    rcases List.mem_cons.1 h with rfl | h
    · omega
    · have := bplaces_le r _ _ x h
      omega
theorem bplaces_len : ∀ (s : BS) (p : Nat) (r : List Ent), (bplaces s p r).length = r.length
  | _, _, [] => rfl
  | s, p, e :: r => by
    show (p :: bplaces (bAdd s e) (p + (ebytes (bP s.n s.last) e).length) r).length = _
    rw [List.length_cons, bplaces_len, List.length_cons]
/-- what is known of entries that were read without an error -/
theorem bentries_in {b : List UInt8} {l : List Ent} {ps : List Nat} {p q : Nat} (hb : b.length < 18446744073709551616) (h : bentries b = (l, ps, p, 0, q)) : ps.length = l.length ∧ l.length ≤ 64 ∧ p ≤ b.length ∧ ∀ x, x ∈ ps → x ≤ 65535 := by
  obtain ⟨⟨n, d, e0⟩, hr⟩ : ∃ X, rd b 0 0 = X := ⟨_, rfl⟩
  by_cases he0 : e0 = 0
  · subst he0
    by_cases hn : n < 1 ∨ 64 < n
    · rw [bentries_bad hr hn] at h
      simp only [Prod.mk.injEq] at h; exact absurd h.2.2.2.1 (by decide)
    · rw [bentries_go hr hn] at h
      obtain ⟨hd1, hd2, hd3⟩ := rd_vbs (l := b) hr
      obtain ⟨r, h1, h2, h3, h4, h5, h6⟩ := bents_back hb n [] [] d l ps p q hd1 h
      rw [List.nil_append] at h1 h4
      subst h1
      have hd : d = 1 := by rw [hd3, vb_lt (show n < 128 by omega)]; rfl
      have hbody : (bst l).body = bbody BS0 l := by have := fold_body l BS0; unfold bst; rw [this]; rfl
      have hle := (bst_le l (srt_okay h5)).1
      have hl2 := bplaces_len (bst []) d l
      refine ⟨by rw [h4, hl2], by omega, h3, fun x hx => ?_⟩
      rw [h4] at hx
      have := bplaces_le l _ _ x hx
      rw [bst_nil, ← hbody] at this
      omega
  · rw [bentries_no hr he0] at h
    simp only [Prod.mk.injEq] at h; exact absurd h.2.2.2.1 he0
/-- behind the reference's Read -/
def RRdPost (w : World) (X : List Ent × Nat × Int) (r : Ending) (w' : World) : Prop :=
  Below w.heap.size w w' ∧ ∃ y vs, r = .returned (.tuple #[y, .int .i64 X.2.2, .int .i64 (X.2.1 : Nat)]) ∧ RdL w' w.heap.size y vs X.1
theorem RRdPost.no {w w' : World} {X : List Ent × Nat × Int} {q : Nat} {e : Int} (hX : X = ([], q, e)) (hb : Below w.heap.size w w') : RRdPost w X (.returned (.tuple #[.slice none 0 0, .int .i64 e, .int .i64 (q : Nat)])) w' := by
  subst hX
  exact ⟨hb, .slice none 0 0, [], rfl, RdL.nil _ _⟩
set_option maxRecDepth 100000 in
set_option maxHeartbeats 8000000 in
theorem rbread_any (ab : Option Addr) (nb cb : Nat) (b : List UInt8) (w : World) (hb : nb ≤ 140737488351232) (hB : Sl Bf w ab nb cb b) :
    Calls Tryz.prog 67 #[.slice ab nb cb] w (RRdPost w (bread b)) := by
  obtain ⟨X, hX⟩ : ∃ X, bread b = X := ⟨_, rfl⟩
  rw [hX]
  obtain ⟨⟨l, ps, p, er, q⟩, hq⟩ : ∃ R, bentries b = R := ⟨_, rfl⟩
  have hv := rentries_any ab nb cb b w hb hB
  rw [hq] at hv
  have HV := Lib.hid hv
  have HQ := Lib.hid hq
  have HX := Lib.hid hX
  have B := Lib.hid hB
  obtain rfl : b.length = nb := hB.len
  clear hv hB hq hX
  by_cases hz : er = 0
  · subst hz
    obtain ⟨hpl, hl64, hpb, hps⟩ := bentries_in (by omega) HQ.out
    have HPS := Lib.hid hps
    have HPL := Lib.hid hpl
    clear hps hpl
    go_enter Tryz.func67, Tryz.ntmps67
    go_wp2_with fail
    refine HV.out.mono ?_
    rintro r w1 ⟨hb1, y, z, vs, rfl, hL, hZ⟩
    have hE := hL.ents
    dsimp only at hE hZ
    obtain ⟨ay, cy, rfl, -⟩ := hE
    obtain ⟨az, nz, cz, rfl, hnz, -⟩ := hZ.slRI
    obtain ⟨a9, c9, hv9, hsz⟩ := hZ.sl fI_len
    injection hv9 with e1 e2 e3
    subst e1 e3
    rw [← e2] at hsz
    have B1 := Lib.hid hb1
    have Z := Lib.hid hsz.to1
    obtain ⟨N, hN⟩ : ∃ N, l.length = N := ⟨_, rfl⟩
    have HN := Lib.hid hN
    have hL2 : RdL w1 w.heap.size (.slice ay N cy) vs l := by have := hL; dsimp only at this; rw [hN] at this; exact this
    have L := Lib.hid hL2
    clear hL2
    have HNZ := Lib.hid (show nz = N by rw [← hN, hnz]; exact HPL.out)
    clear hb1 hL hZ hnz hsz e2
    dsimp only
    rw [hN] at hl64 ⊢
    clear hN
    go_wp2_with fail
    go_loopw [7, 10] (fun s7 i wr => ∃ (k m : Nat), s7 = .int .i64 (m : Nat) ∧ i = .int .i64 (k : Nat) ∧ k % 8 = 0 ∧ k ≤ N + 7 ∧ m ≤ b.length ∧ Below w1.heap.size w1 wr ∧ btable b (bwant (bruns k (ps.drop k))) m = btable b (bwant (bruns 0 ps)) p) (fun _ i _ => N + 8 - (intOf i).toNat)
    case atStart => exact ⟨0, p, rfl, rfl, rfl, Nat.zero_le _, hpb, Below.refl _ _, by rw [List.drop_zero]⟩
    case round =>
      obtain ⟨k, m, rfl, rfl, hk8, hkN, hm, hBr, hT⟩ := hrel
      have T := Lib.hid hT
      have BR := Lib.hid hBr
      have K8 := Lib.hid hk8
      clear hT hBr hk8
      by_cases hk : k < N
      · obtain ⟨x, hx⟩ : ∃ x, ps[k]? = some x := ⟨_, List.getElem?_eq_getElem (by have := HPL.out; have := HN.out; omega)⟩
        have hx6 := HPS.out x (List.mem_of_getElem? hx)
        obtain ⟨br, orr, rfl, hcx⟩ := (Z.out.keep BR.out).2.2.2 k x hx
        have HT1 := Lib.hid (show btable b (bmark2 x ++ bwant (bruns (k + 8) (ps.drop (k + 8)))) m = btable b (bwant (bruns 0 ps)) p by
          have := T.out
          rw [bruns_at K8.out hx] at this
          exact this)
        have MK := Lib.hid (show (#[.int .u8 ((x : Int) % 256), .int .u8 ((x : Int) / 256)] : Array Value).toList = (bmark2 x).map Bf from bcells x hx6)
        have hnzk : k < nz := by have := HNZ.out; omega
        have t5 : decide ((k : Int) < (N : Nat)) = true := decide_eq_true (by omega)
        have t5' : decide (k < N) = true := decide_eq_true hk
        clear hx T
        go_wp2_with fail
        go_region
        have hb1 : Below wr.heap.size wr (wr.alloc (.cells #[.int .u8 ((x : Int) % 256), .int .u8 ((x : Int) / 256)] 5)).drew := keep_drewN ((Below.refl _ _).alloc (Nat.le_refl _) _) 1
        have S2 := Lib.hid (show Sl Bf (wr.alloc (.cells #[.int .u8 ((x : Int) % 256), .int .u8 ((x : Int) / 256)] 5)).drew (some ⟨wr.heap.size, 0, none⟩) 2 2 (bmark2 x) from Sl.lit (f := Bf) wr 5 _ (bmark2 x) 2 rfl MK.out)
        have hBw : Below w1.heap.size w1 (wr.alloc (.cells #[.int .u8 ((x : Int) % 256), .int .u8 ((x : Int) / 256)] 5)).drew := keep_trans BR.out hb1
        have BR2 := Lib.hid hBw
        generalize (wr.alloc (.cells #[.int .u8 ((x : Int) % 256), .int .u8 ((x : Int) / 256)] 5)).drew = w2 at *
        generalize wr.heap.size = gw at *
        clear hb1 hBw MK
        go_wp2_with fail
        go_loopw [7, 12] (fun s7 i wq => ∃ (m1 h : Nat), s7 = .int .i64 (m1 : Nat) ∧ i = .int .i64 (h : Nat) ∧ h ≤ 2 ∧ m1 ≤ b.length ∧ Below w2.heap.size w2 wq ∧ btable b ((bmark2 x).drop h ++ bwant (bruns (k + 8) (ps.drop (k + 8)))) m1 = btable b (bwant (bruns 0 ps)) p) (fun _ i _ => 2 - (intOf i).toNat)
        case atStart => exact ⟨m, 0, rfl, rfl, by omega, hm, Below.refl _ _, HT1.out⟩
        case round =>
          obtain ⟨m1, h, rfl, rfl, hh, hm1, hU, hq⟩ := hrel
          have U := Lib.hid hU
          have HDR := Lib.hid hq
          clear hU hq
          by_cases hl2 : h < 2
          · obtain ⟨c, hc⟩ : ∃ c, (bmark2 x)[h]? = some c := ⟨_, List.getElem?_eq_getElem hl2⟩
            obtain ⟨b2, o2, ea, hcc⟩ := (S2.out.keep U.out).2.2.2 h c hc
            injection ea with ea
            injection ea with ea1 ea2 ea3
            subst ea1 ea2
            rw [Nat.zero_add] at hcc
            have HDQ := Lib.hid (show btable b (c :: ((bmark2 x).drop (h + 1) ++ bwant (bruns (k + 8) (ps.drop (k + 8))))) m1 = btable b (bwant (bruns 0 ps)) p by
              have := HDR.out
              rw [show (bmark2 x).drop h = c :: (bmark2 x).drop (h + 1) from by obtain ⟨hl, rfl⟩ := List.getElem?_eq_some_iff.1 hc; exact List.drop_eq_getElem_cons hl] at this
              exact this)
            clear hc HDR
            by_cases hmb : m1 = b.length
            · have hno := HDQ.out
              rw [btable_no (by rw [List.getElem?_eq_none (by omega)]; exact fun e => by cases e)] at hno
              have HE := Lib.hid (HX.out.symm.trans (bread_tab (p' := 0) HQ.out hno.symm (by decide)))
              have t1 : decide ((m1 : Int) ≥ (b.length : Nat)) = true := decide_eq_true (by omega)
              have t1' : decide (b.length ≤ m1) = true := decide_eq_true (by omega)
              clear hno
              go_wp2_with fail
              go_ret3
              exact RRdPost.no (by rw [HE.out, hmb]) (B1.out.trans ((keep_trans BR2.out U.out).mono B1.out.size))
            · obtain ⟨y, hy⟩ : ∃ y, b[m1]? = some y := ⟨_, List.getElem?_eq_getElem (by omega)⟩
              have hm1' : m1 < b.length := by omega
              obtain ⟨b3, o3, rfl, hyc⟩ := (B.out.keep (B1.out.trans ((keep_trans BR2.out U.out).mono B1.out.size))).2.2.2 m1 y hy
              have t1 : decide ((m1 : Int) ≥ (b.length : Nat)) = false := decide_eq_false (by omega)
              have t1' : decide (b.length ≤ m1) = false := decide_eq_false (by omega)
              by_cases hyc2 : y = c
              · subst hyc2
                have HD2 := Lib.hid (show btable b ((bmark2 x).drop (h + 1) ++ bwant (bruns (k + 8) (ps.drop (k + 8)))) (m1 + 1) = btable b (bwant (bruns 0 ps)) p by have := HDQ.out; rw [btable_go hy] at this; exact this)
                have t2 : (Go.Proofs.YtljcogimeimknaaGreat.B y != Go.Proofs.YtljcogimeimknaaGreat.B y) = false := by simp
                have r1 : IntKind.i64.wrap ((m1 : Int) + 1) = (m1 : Int) + 1 := IntWalk.i64_in _ (by omega)
                clear hmb hy
                go_wp2_with fail
                go_quiet (fail)
                go_wp2_with fail
                go_roundw
                case rel => exact ⟨m1 + 1, h + 1, by go_num, by go_num, by omega, by omega, keep_drewN U.out _, HD2.out⟩
                case measure => simp [intOf]; omega
              · have hno := HDQ.out
                rw [btable_no (by rw [hy]; exact fun e => hyc2 (by injection e))] at hno
                have HE := Lib.hid (HX.out.symm.trans (bread_tab (p' := 0) HQ.out hno.symm (by decide)))
                have t2 : (Go.Proofs.YtljcogimeimknaaGreat.B y != Go.Proofs.YtljcogimeimknaaGreat.B c) = true := by rw [bne_iff_ne]; exact fun e => hyc2 (B_inj e)
                clear hmb hy hyc2 hno
                go_wp2_with fail
                go_quiet (fail)
                go_wp2_with fail
                go_ret3
                exact RRdPost.no HE.out (keep_drewN (B1.out.trans ((keep_trans BR2.out U.out).mono B1.out.size)) _)
          · obtain rfl : h = 2 := by omega
            have HD2 := Lib.hid (show btable b (bwant (bruns (k + 8) (ps.drop (k + 8)))) m1 = btable b (bwant (bruns 0 ps)) p from HDR.out)
            have r1 : IntKind.i64.wrap ((k : Int) + 8) = (k : Int) + 8 := IntWalk.i64_in _ (by omega)
            go_wp2_with fail
            go_roundw
            case rel => exact ⟨k + 8, m1, rfl, by go_num, by have := K8.out; omega, by omega, hm1, keep_trans BR2.out U.out, HD2.out⟩
            case measure => simp [intOf]; omega
      · have hq0 := T.out
        rw [bruns_end (by have := HPL.out; have := HN.out; omega)] at hq0
        have HQ0 := Lib.hid (show btable b [] m = btable b (bwant (bruns 0 ps)) p from hq0)
        have t5 : decide ((k : Int) < (N : Nat)) = false := decide_eq_false (by omega)
        have t5' : decide (k < N) = false := decide_eq_false hk
        clear hq0
        by_cases hml : m < b.length
        · have hno := HQ0.out
          rw [btable_end hml] at hno
          have HE := Lib.hid (HX.out.symm.trans (bread_tab (p' := 0) HQ.out hno.symm (by decide)))
          have t1 : decide ((m : Int) < (b.length : Nat)) = true := decide_eq_true (by omega)
          have t1' : decide (m < b.length) = true := decide_eq_true hml
          clear hno
          go_wp2_with fail
          go_ret3
          exact RRdPost.no HE.out (B1.out.trans (BR.out.mono B1.out.size))
        · have hno := HQ0.out
          rw [btable_ok hml] at hno
          have HE := Lib.hid (HX.out.symm.trans (bread_ok HQ.out hno.symm))
          have t1 : decide ((m : Int) < (b.length : Nat)) = false := decide_eq_false (by omega)
          have t1' : decide (m < b.length) = false := decide_eq_false hml
          clear hno
          go_wp2_with fail
          go_ret3
          exact ⟨B1.out.trans (BR.out.mono B1.out.size), _, vs, by rw [HE.out]; rfl, by rw [HE.out]; exact L.out.keep BR.out⟩
  · have t1 : (er != 0) = true := by rw [bne_iff_ne]; exact hz
    have HE := Lib.hid (HX.out.symm.trans (bread_no HQ.out hz))
    clear hz
    go_enter Tryz.func67, Tryz.ntmps67
    go_wp2_with fail
    refine HV.out.mono ?_
    rintro r w1 ⟨hb1, y, z, vs, rfl, hL, hZ⟩
    obtain ⟨ay, cy, rfl, -⟩ := hL.ents
    obtain ⟨az, nz, cz, rfl, -, -⟩ := hZ.slRI
    have B1 := Lib.hid hb1
    clear hb1 hL hZ
    dsimp only
    go_wp2_with fail
    go_ret3
    exact RRdPost.no HE.out B1.out
end Go.Proofs.YtljcogimeimknaaGreat

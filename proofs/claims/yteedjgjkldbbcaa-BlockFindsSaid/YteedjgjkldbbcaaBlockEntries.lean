/- The entries of a block, the reference's: contract. Condition: the bytes within reach. -/
import Derived.Test.YteedjgjkldbbcaaK6c
import Derived.Test.YteedjgjkldbbcaaBlockRead
import Derived.Test.YteedjgjkldbbcaaPairRZ
import Derived.Deep.RegionLaw
namespace Go.Proofs.Yteedjgjkldbbcaa
open Go.RowKit
set_option linter.unusedVariables false

/-- in the midst of it -/
structure REn (w0 w : World) (n : Nat) (b : List UInt8) (X : List Ent × List Nat × Nat × Int × Nat) (k m : Nat) (y z : Value) (vs : List (Sv × Sv)) (es : List Ent) (ps : List Nat) : Prop where
  ls : RdL w w0.heap.size y vs es
  at' : OwT fI w w0.heap.size 3 z ps
  dis : ∀ j, RLB y vs j → z.ownBlock ≠ some j
  be : Below w0.heap.size w0 w
  kn : k ≤ n
  el : es.length = k
  pl : ps.length = k
  mb : m ≤ b.length
  ll : (bst es).last.length ≤ 64
  eq : bents b (n - k) es ps m = X
section
variable {w0 w : World} {n k m : Nat} {b : List UInt8} {X : List Ent × List Nat × Nat × Int × Nat} {y z : Value} {vs : List (Sv × Sv)} {es : List Ent} {ps : List Nat}
theorem REn.prd (S : REn w0 w n b X k m y z vs es ps) : erd (bP k (bst es).last) b m = pread (bP es.length (bst es).last) b m := by
  rw [S.el]
  unfold erd
  rw [if_pos ⟨by omega, by have := S.mb; omega⟩, Int.toNat_natCast]
theorem REn.bad (S : REn w0 w n b X k m y z vs es ps) (hk : k < n) {x : Ent} {q : Nat} {er : Int} (hx : erd (bP k (bst es).last) b m = (x, q, er)) (h : er ≠ 0) : X = (es, ps, m, er, q) := by
  rw [← S.eq, show n - k = (n - k - 1) + 1 by omega]
  exact bents_no (S.prd ▸ hx) h
theorem REn.low (S : REn w0 w n b X k m y z vs es ps) (hk : k < n) {x : Ent} {q : Nat} (hx : erd (bP k (bst es).last) b m = (x, q, 0)) (h : 0 < k ∧ 0 ≤ cmp (bst es).last x.1) : X = (es, ps, m, 51, m) := by
  rw [← S.eq, show n - k = (n - k - 1) + 1 by omega]
  exact bents_low (S.prd ▸ hx) ⟨by rw [S.el]; exact h.1, h.2⟩
theorem REn.go (S : REn w0 w n b X k m y z vs es ps) (hk : k < n) {x : Ent} {q : Nat} (hx : erd (bP k (bst es).last) b m = (x, q, 0)) (h : ¬ (0 < k ∧ 0 ≤ cmp (bst es).last x.1)) : bents b (n - (k + 1)) (es ++ [x]) (ps ++ [m]) q = X := by
  rw [← S.eq, show n - k = (n - (k + 1)) + 1 by omega]
  exact (bents_go (S.prd ▸ hx) fun h2 => h ⟨by rw [← S.el]; exact h2.1, h2.2⟩).symm
/-- an entry is put behind the list -/
theorem REn.app1 {W1 w8 : World} {o : Obj} {x : Ent} {x1 x2 : Sv} {y' : Value} (S : REn w0 w n b X k m y z vs es ps) (hw : Below w.heap.size w W1) (o1 : OwT fB W1 w.heap.size 5 (sv x1) x.1) (o2 : OwT fB W1 w.heap.size 5 (sv x2) x.2)
    (h8 : OwZ fE zE w8 w0.heap.size 41 y' (vs ++ [(x1, x2)])) (hg : (W1.alloc o).grownBy w8 y.ownBlock) (hv : y'.ownBlock = y.ownBlock ∨ y'.ownBlock = some (W1.alloc o).heap.size) :
    RdL w8 w0.heap.size y' (vs ++ [(x1, x2)]) (es ++ [x]) ∧ OwT fI w8 w0.heap.size 3 z ps ∧ (∀ j, RLB y' (vs ++ [(x1, x2)]) j → z.ownBlock ≠ some j) ∧ Below w0.heap.size w0 w8 := by
  have hz0 : w0.heap.size ≤ w.heap.size := S.be.size
  have hz1 : w.heap.size ≤ W1.heap.size := hw.size
  have hrl := S.ls.inB
  have hyl : ∀ j, y.ownBlock = some j → w0.heap.size ≤ j ∧ j < w.heap.size := fun j hj => hrl j (.inl hj)
  have hzl := S.at'.lt
  have hsz : (W1.alloc o).heap.size = W1.heap.size + 1 := by simp
  have t8 : Turns (fun j => y.ownBlock = some j) W1 w8 := (Turns.of_below ((Below.refl _ W1).alloc (Nat.le_refl _) o)).trans (.of_grown hg fun j e => e) fun _ _ e => e
  have hv8 : ∀ j, y'.ownBlock = some j → y.ownBlock = some j ∨ W1.heap.size ≤ j := fun j hj => by
    rcases hv with e | e
    · exact .inl (e ▸ hj)
    · rw [e] at hj; injection hj with hj; exact .inr (by omega)
  refine ⟨(S.ls.keep hw).app h8 t8 hv8 (o1.base (by omega)) (o2.base (by omega)) fun j hj => ⟨fun e => by have := (o1.lt j e).1; have := (hyl j hj).2; omega, fun e => by have := (o2.lt j e).1; have := (hyl j hj).2; omega⟩,
    (S.at'.keep hw).turns t8 fun j hj e => S.dis j (.inl e) hj, fun j hj e => ?_, t8.below (S.be.trans (hw.mono hz0)) (by omega) fun j hj => (hyl j hj).1⟩
  have hzj := (hzl j e).2
  rcases hj with hj | ⟨i, zz, hz, hj⟩
  · rcases hv8 j hj with h | h
    · exact S.dis j (.inl h) e
    · omega
  · by_cases hi : i < vs.length
    · rw [List.getElem?_append_left hi] at hz
      exact S.dis j (.inr ⟨i, zz, hz, hj⟩) e
    · rw [List.getElem?_append_right (by omega)] at hz
      have hi0 : i - vs.length = 0 := by have := (List.getElem?_eq_some_iff.1 hz).1; simp at this; omega
      rw [hi0] at hz
      obtain rfl : (x1, x2) = zz := by simpa using hz
      rcases hj with hj | hj
      · have := (o1.lt j hj).1; omega
      · have := (o2.lt j hj).1; omega
end
/-- a place is put behind the places -/
theorem ren_app2 {w0 w8 w9 : World} {o : Obj} {y z z' : Value} {vs : List (Sv × Sv)} {es : List Ent} {ps ps' : List Nat} (h : RdL w8 w0.heap.size y vs es) (hz : OwT fI w8 w0.heap.size 3 z ps) (dis : ∀ j, RLB y vs j → z.ownBlock ≠ some j) (be : Below w0.heap.size w0 w8)
    (h9 : OwT fI w9 w0.heap.size 3 z' ps') (hg : (w8.alloc o).grownBy w9 z.ownBlock) (hv : z'.ownBlock = z.ownBlock ∨ z'.ownBlock = some (w8.alloc o).heap.size) :
    RdL w9 w0.heap.size y vs es ∧ (∀ j, RLB y vs j → z'.ownBlock ≠ some j) ∧ Below w0.heap.size w0 w9 := by
  have t9 : Turns (fun j => z.ownBlock = some j) w8 w9 := (Turns.of_below ((Below.refl _ w8).alloc (Nat.le_refl _) o)).trans (.of_grown hg fun j e => e) fun _ _ e => e
  have hsz : (w8.alloc o).heap.size = w8.heap.size + 1 := by simp
  refine ⟨h.turns t9 fun j hj e => dis j hj e, fun j hj e => ?_, t9.below be be.size fun j hj => (hz.lt j hj).1⟩
  have := (h.inB j hj).2
  rcases hv with hv | hv
  · exact dis j hj (hv ▸ e)
  · rw [hv] at e; injection e with e; omega
theorem results_tmp5 {fn : Func} {t u v x y : Tmp} (h : fn.results = #[.tmp t, .tmp u, .tmp v, .tmp x, .tmp y]) (tmps : Array Value) (P : Program) (w : World) :
    (results fn tmps).run P w = .ok (.tuple #[tmps.getD t undef, tmps.getD u undef, tmps.getD v undef, tmps.getD x undef, tmps.getD y undef]) w := by
  simp [results, h]
/-- behind the reference's Entries -/
def EnsPost (w : World) (X : List Ent × List Nat × Nat × Int × Nat) (r : Ending) (w' : World) : Prop :=
  Below w.heap.size w w' ∧ ∃ y z vs, r = .returned (.tuple #[y, z, .int .i64 (X.2.2.1 : Nat), .int .i64 X.2.2.2.1, .int .i64 (X.2.2.2.2 : Nat)]) ∧ RdL w' w.heap.size y vs X.1 ∧ OwT fI w' w.heap.size 3 z X.2.1
theorem REn.post {w0 w : World} {n k m : Nat} {b : List UInt8} {X : List Ent × List Nat × Nat × Int × Nat} {y z : Value} {vs : List (Sv × Sv)} {es : List Ent} {ps : List Nat} (S : REn w0 w n b X k m y z vs es ps) {p q : Nat} {er : Int} {w' : World}
    (hX : X = (es, ps, p, er, q)) (hb : Below w.heap.size w w') : EnsPost w0 X (.returned (.tuple #[y, z, .int .i64 (p : Nat), .int .i64 er, .int .i64 (q : Nat)])) w' := by
  subst hX
  exact ⟨S.be.trans (hb.mono S.be.size), y, z, vs, rfl, S.ls.keep hb, S.at'.keep hb⟩
set_option maxRecDepth 100000 in
set_option maxHeartbeats 8000000 in
theorem rentries_any (ab : Option Addr) (nb cb : Nat) (b : List UInt8) (w : World) (hb : nb ≤ 140737488351232) (hB : Sl Bf w ab nb cb b) :
    Calls Try.prog 28 #[.slice ab nb cb] w (EnsPost w (bentries b)) := by
  obtain ⟨X, hX⟩ : ∃ X, bentries b = X := ⟨_, rfl⟩
  rw [hX]
  obtain ⟨⟨n, q, er⟩, hq⟩ : ∃ R, rd b 0 0 = R := ⟨_, rfl⟩
  have hv := rread_any ab nb cb b 0 w (by omega) (Nat.zero_le _) hB
  rw [List.drop_zero, hq, Nat.zero_add] at hv
  dsimp only at hv
  have HV := Lib.hid (show Calls Try.prog 50 #[.slice ab nb cb, .int .i64 0] w _ from hv)
  have HQ := Lib.hid hq
  have HX := Lib.hid hX
  have B := Lib.hid hB
  obtain rfl : b.length = nb := hB.len
  clear hv hB hq hX
  by_cases hz : er = 0
  · subst hz
    by_cases hn : n < 1 ∨ 64 < n
    · have HN := Lib.hid (HX.out.symm.trans (bentries_bad HQ.out hn))
      have t1 : decide ((n : Int) < 1) = decide (n < 1) := by rw [decide_eq_decide]; omega
      by_cases h1 : n < 1
      · obtain rfl : n = 0 := by omega
        clear hn t1
        go_enter Try.func28, Try.ntmps28
        go_wp2_with fail
        refine HV.out.mono ?_
        rintro r w1 ⟨rfl, rfl⟩
        go_wp2_with fail
        refine bodyPost_ret (results_tmp5 rfl _ _ _) rfl ?_
        rw [HN.out]
        exact ⟨Below.refl _ _, _, _, [], rfl, RdL.nil _ _, OwT.nil _ _ _ _⟩
      · have t2 : decide ((n : Int) < 1) = false := decide_eq_false (by omega)
        have t3 : decide ((n : Int) > 64) = true := decide_eq_true (by omega)
        have t3' : decide (64 < n) = true := decide_eq_true (by omega)
        have t4 : (n == 0) = false := by rw [beq_eq_false_iff_ne]; omega
        clear hn t1 h1
        go_enter Try.func28, Try.ntmps28
        go_wp2_with fail
        refine HV.out.mono ?_
        rintro r w1 ⟨rfl, rfl⟩
        go_wp2_with fail
        refine bodyPost_ret (results_tmp5 rfl _ _ _) rfl ?_
        rw [HN.out]
        exact ⟨Below.refl _ _, _, _, [], rfl, RdL.nil _ _, OwT.nil _ _ _ _⟩
    · have HN := Lib.hid (HX.out.symm.trans (bentries_go HQ.out hn))
      have t2 : decide ((n : Int) < 1) = false := decide_eq_false (by omega)
      have t3 : decide ((n : Int) > 64) = false := decide_eq_false (by omega)
      have t3' : decide (64 < n) = false := decide_eq_false (by omega)
      have t4 : (n == 0) = false := by rw [beq_eq_false_iff_ne]; omega
      have r1 : IntKind.i64.wrap (n : Int) = n := IntWalk.i64_in _ (by omega)
      have hn64 : n ≤ 64 := by omega
      have hq1 := Lib.hid (rd_vbs HQ.out).1
      clear hn
      go_enter Try.func28, Try.ntmps28
      go_wp2_with fail
      refine HV.out.mono ?_
      rintro r w1 ⟨rfl, rfl⟩
      go_wp2_with fail
      go_loopw [8, 10, 11, 12] (fun s8 s10 s11 s12 wr => ∃ (k m : Nat) (y z : Value) (vs : List (Sv × Sv)) (es : List Ent) (ps : List Nat), s8 = .int .i64 (m : Nat) ∧ s10 = y ∧ s11 = z ∧ s12 = .int .i64 (k : Nat) ∧ REn w wr n b X k m y z vs es ps) (fun _ _ _ s12 _ => n - (intOf s12).toNat)
      case atStart => exact ⟨0, q, _, _, [], [], [], rfl, rfl, rfl, rfl, RdL.nil _ _, OwT.nil _ _ _ _, fun j _ => by simp [Value.ownBlock], Below.refl _ _, Nat.zero_le _, rfl, rfl, hq1.out, Nat.zero_le _, HN.out.symm⟩
      case round =>
        obtain ⟨k, m, y, z, vs, es, ps, rfl, rfl, rfl, rfl, hS⟩ := hrel
        obtain ⟨ay, cy, hy, hE⟩ := hS.ls.ents
        rw [hS.el] at hy hE
        subst hy
        obtain ⟨az, nz, cz, rfl, hnz, -⟩ := hS.at'.slR
        have hnz64 : nz ≤ 64 := by have := hS.pl; have := hS.kn; omega
        have hvl : vs.length ≤ 64 := by have := hS.ls.len; have := hS.el; have := hS.kn; omega
        have hpl : ps.length ≤ 64 := by have := hS.pl; have := hS.kn; omega
        have S := Lib.hid hS
        have E := Lib.hid hE
        have hlast := hS.ll
        clear hS hE hnz
        by_cases hk : k < n
        · have t5 : decide ((k : Int) < (n : Nat)) = true := decide_eq_true (by omega)
          have t5' : decide (k < n) = true := decide_eq_true hk
          have PV := Lib.hid (prev_any ay k cy es k wr (by omega) (Nat.le_refl _) E.out)
          have hte : es.take k = es := List.take_of_length_le (by have := S.out.el; omega)
          rw [hte] at PV
          have hbp : (bP k (bst es).last).length ≤ 64 := by unfold bP; split; (exact Nat.zero_le _); (exact hlast)
          obtain ⟨⟨x, q', er⟩, hx⟩ : ∃ R, erd (bP k (bst es).last) b m = R := ⟨_, rfl⟩
          have XX := Lib.hid hx
          clear hte hlast hx
          go_wp2_with fail
          refine PV.out.mono ?_
          rintro e w1 ⟨ap, np, cp, rfl, hP, rfl⟩
          have hnp : np ≤ 64 := by have := hP.len; omega
          have RD := erread_z ap np cp (bP k (bst es).last) ab b.length cb b (m : Nat) wr (by omega) hb hP (B.out.keep S.out.be)
          rw [XX.out] at RD
          replace RD := Lib.hid RD
          clear hP PV hbp
          go_wp2_with fail
          refine RD.out.mono ?_
          rintro e w2 ⟨vk, vv, mid, rfl, o1, o2, o3, o4, hb2⟩
          obtain ⟨ak, nk, ck, rfl, zk⟩ := o1.slN
          obtain ⟨av, nv, cv, rfl, zv⟩ := o2.slN
          have B2 := Lib.hid hb2
          have O1 := Lib.hid o1
          have O2 := Lib.hid (o2.base o4)
          have ZK := Lib.hid zk
          clear o1 o2 o3 o4 hb2 zv zk RD
          by_cases he : er = 0
          · subst he
            obtain ⟨hx1, hx2, hx3, hx4, hx5, -⟩ := erd_in XX.out
            have hlo : w.heap.size ≤ wr.heap.size := S.out.be.size
            have hb3 : Below wr.heap.size wr (w2.alloc (.cells #[.slice ak nk ck, .slice av nv cv] 41)) := B2.out.alloc B2.out.size _
            have BX := heap_new w2 (.cells #[.slice ak nk ck, .slice av nv cv] 41)
            have c0 := cell_of BX 0 rfl
            have c1 := cell_of BX 1 rfl
            have hnk : nk ≤ 64 := by have := ZK.out.len; omega
            have ZK3 := Lib.hid (ZK.out.keep ((Below.refl _ _).alloc (Nat.le_refl _) (.cells #[.slice ak nk ck, .slice av nv cv] 41)))
            have O13 := Lib.hid (O1.out.keep ((Below.refl _ _).alloc (Nat.le_refl _) (.cells #[.slice ak nk ck, .slice av nv cv] 41)))
            have O23 := Lib.hid (O2.out.keep ((Below.refl _ _).alloc (Nat.le_refl _) (.cells #[.slice ak nk ck, .slice av nv cv] 41)))
            have hg3 : w2.heap.size < (w2.alloc (.cells #[.slice ak nk ck, .slice av nv cv] 41)).heap.size := by simp
            have B3 := Lib.hid hb3
            clear BX hb3 O1 O2 ZK B2
            go_wp2_with fail
            generalize w2.alloc (.cells #[.slice ak nk ck, .slice av nv cv] 41) = w3 at *
            generalize w2.heap.size = g13 at *
            have hw3 : wr.heap.size ≤ w3.heap.size := B3.out.size
            by_cases hk0 : 0 < k
            · obtain ⟨j, hjk⟩ : ∃ j, k = j + 1 := ⟨k - 1, by omega⟩
              have hj1 : j < k := by omega
              have HJ := Lib.hid hjk
              obtain ⟨⟨lk, lv⟩, hj⟩ : ∃ e, es[j]? = some e := ⟨_, List.getElem?_eq_getElem (by have := S.out.el; omega)⟩
              have hbl : (bst es).last = lk := by
                have := bst_take hj
                rw [List.take_of_length_le (by have := S.out.el; omega)] at this
                rw [this]; rfl
              obtain ⟨b', o', al, cl, _, _, rfl, _, _, hrow⟩ := E.out.row hj
              obtain ⟨d0, -, z0, -⟩ := hrow w3 B3.out
              have hlk : lk.length ≤ 64 := by rw [← hbl]; exact S.out.ll
              obtain ⟨p, hp⟩ : ∃ p, cmp lk x.1 = p := ⟨_, rfl⟩
              have HC := Lib.hid (fun q => rcompare_q al lk.length cl lk ak nk ck x.1 (w3.drewN q) (by omega) (by omega) (z0.drewN q) (ZK3.out.drewN q))
              rw [hp] at HC
              have HP := Lib.hid hp
              have HBL := Lib.hid hbl
              have hg0 : (k : Int) > 0 := by omega
              have e1 : IntKind.i64.wrap ((k : Int) - 1) = (j : Int) := by rw [show (k : Int) - 1 = (j : Int) by omega]; exact IntWalk.i64_in _ (by omega)
              clear hp hbl hj hrow z0 hjk
              by_cases hp0 : 0 ≤ p
              · have HE := Lib.hid (S.out.low hk XX.out ⟨by omega, by rw [HBL.out, HP.out]; exact hp0⟩)
                go_quiet ((go_at_call 47; exact Calls.quiet_of_drw (HC.out _)))
                go_wp2_with fail
                refine bodyPost_ret (results_tmp5 rfl _ _ _) rfl ?_
                exact S.out.post HE.out (keep_drewN B3.out _)
              · have HG := Lib.hid (S.out.go hk XX.out fun h => by have := h.2; rw [HBL.out, HP.out] at this; exact hp0 this)
                go_quiet ((go_at_call 47; exact Calls.quiet_of_drw (HC.out _)))
                have PSX := 0
                clear HC HJ HBL HP e1
                have hls : w.heap.size ≤ wr.heap.size := S.out.be.size
                have LS := Lib.hid (S.out.ls.keep (keep_drewN B3.out nq))
                have APP := Lib.hid (fun (w8 : World) (o : Obj) (y' : Value) => S.out.app1 (w8 := w8) (o := o) (x := x) (x1 := (ak, nk, ck)) (x2 := (av, nv, cv)) (y' := y') (keep_drewN B3.out nq) (O13.out.drewN nq) (O23.out.drewN nq))
                have REST := Lib.hid (And.intro S.out.el (And.intro S.out.pl hx4))
                clear S XX HX HN B E PSX
                go_wp2_with (first
                  | (at_builtin; go_loud (refine wpList_appZ eltTE zE_ok rfl (.tmp 73) (.tmp 75) rfl w.heap.size _ vs (by rfl) (LS.out.own.keep ((Below.refl _ _).alloc (Nat.le_refl _) _)) _ 1 1 [((ak, nk, ck), (av, nv, cv))] (by rfl) (SlT.lit1 _ _ _ _ rfl) (by unfold maxLen; omega) (by omega) (by simp <;> omega) (vs ++ [((ak, nk, ck), (av, nv, cv))]) rfl ?_; intro v8 w8 h8 hg8 hv8 hb8; obtain ⟨a8, n8, c8, rfl, hn8, -⟩ := h8.t.slE; obtain ⟨ha, hz, hd, hbe⟩ := APP.out w8 _ _ h8 hg8 hv8; have A8 := Lib.hid ha; have Z8 := Lib.hid hz; have D8 := Lib.hid hd; have BE8 := Lib.hid hbe; clear h8 hg8 hv8 hb8 ha hz hd hbe hn8))
                  | (at_builtin; go_loud (refine wpList_appT eltTI rfl (.tmp 77) (.tmp 79) rfl w.heap.size (.slice az nz cz) ps (by rfl) (Z8.out.alloc _) _ 1 1 [m] (by rfl) (SlT.litI _ _ _ rfl) (by unfold maxLen; omega) (by omega) (by have := BE8.out.size; simp <;> omega) (ps ++ [m]) rfl ?_; intro v9 w9 h9 hg9 hv9 hb9; obtain ⟨a9, n9, c9, rfl, -, -⟩ := h9.slR; obtain ⟨ha, hd, hbe⟩ := ren_app2 A8.out Z8.out D8.out BE8.out h9 hg9 hv9; have A9 := Lib.hid ha; have D9 := Lib.hid hd; have BE9 := Lib.hid hbe; have Z9 := Lib.hid h9; clear h9 hg9 hv9 hb9 ha hd hbe)))
                go_roundw
                case rel => exact ⟨k + 1, q', _, _, _, es ++ [x], ps ++ [m], rfl, rfl, rfl, by go_num, A9.out, Z9.out, D9.out, BE9.out, hk, by rw [List.length_append, REST.out.1]; rfl, by rw [List.length_append, REST.out.2.1]; rfl, REST.out.2.2, by rw [bst_snoc]; exact hx2, HG.out⟩
                case measure => simp [intOf]; omega
            · have HG := Lib.hid (S.out.go hk XX.out fun h => by omega)
              have t7 : decide ((k : Int) > 0) = false := decide_eq_false (by omega)
              have t7' : decide (0 < k) = false := decide_eq_false hk0
              go_quiet (fail)
              have PSX := 0
              have hls : w.heap.size ≤ wr.heap.size := S.out.be.size
              have LS := Lib.hid (S.out.ls.keep (keep_drewN B3.out nq))
              have APP := Lib.hid (fun (w8 : World) (o : Obj) (y' : Value) => S.out.app1 (w8 := w8) (o := o) (x := x) (x1 := (ak, nk, ck)) (x2 := (av, nv, cv)) (y' := y') (keep_drewN B3.out nq) (O13.out.drewN nq) (O23.out.drewN nq))
              have REST := Lib.hid (And.intro S.out.el (And.intro S.out.pl hx4))
              clear S XX HX HN B E PSX
              go_wp2_with (first
                | (at_builtin; go_loud (refine wpList_appZ eltTE zE_ok rfl (.tmp 73) (.tmp 75) rfl w.heap.size _ vs (by rfl) (LS.out.own.keep ((Below.refl _ _).alloc (Nat.le_refl _) _)) _ 1 1 [((ak, nk, ck), (av, nv, cv))] (by rfl) (SlT.lit1 _ _ _ _ rfl) (by unfold maxLen; omega) (by omega) (by simp <;> omega) (vs ++ [((ak, nk, ck), (av, nv, cv))]) rfl ?_; intro v8 w8 h8 hg8 hv8 hb8; obtain ⟨a8, n8, c8, rfl, hn8, -⟩ := h8.t.slE; obtain ⟨ha, hz, hd, hbe⟩ := APP.out w8 _ _ h8 hg8 hv8; have A8 := Lib.hid ha; have Z8 := Lib.hid hz; have D8 := Lib.hid hd; have BE8 := Lib.hid hbe; clear h8 hg8 hv8 hb8 ha hz hd hbe hn8))
                | (at_builtin; go_loud (refine wpList_appT eltTI rfl (.tmp 77) (.tmp 79) rfl w.heap.size (.slice az nz cz) ps (by rfl) (Z8.out.alloc _) _ 1 1 [m] (by rfl) (SlT.litI _ _ _ rfl) (by unfold maxLen; omega) (by omega) (by have := BE8.out.size; simp <;> omega) (ps ++ [m]) rfl ?_; intro v9 w9 h9 hg9 hv9 hb9; obtain ⟨a9, n9, c9, rfl, -, -⟩ := h9.slR; obtain ⟨ha, hd, hbe⟩ := ren_app2 A8.out Z8.out D8.out BE8.out h9 hg9 hv9; have A9 := Lib.hid ha; have D9 := Lib.hid hd; have BE9 := Lib.hid hbe; have Z9 := Lib.hid h9; clear h9 hg9 hv9 hb9 ha hd hbe)))
              go_roundw
              case rel => exact ⟨k + 1, q', _, _, _, es ++ [x], ps ++ [m], rfl, rfl, rfl, by go_num, A9.out, Z9.out, D9.out, BE9.out, hk, by rw [List.length_append, REST.out.1]; rfl, by rw [List.length_append, REST.out.2.1]; rfl, REST.out.2.2, by rw [bst_snoc]; exact hx2, HG.out⟩
              case measure => simp [intOf]; omega
          · have t6 : (er != 0) = true := by rw [bne_iff_ne]; exact he
            have HE := Lib.hid (S.out.bad hk XX.out he)
            clear he
            go_wp2_with fail
            refine bodyPost_ret (results_tmp5 rfl _ _ _) rfl ?_
            exact S.out.post HE.out (B2.out.alloc (by have := B2.out.size; omega) _)
        · have t5 : decide ((k : Int) < (n : Nat)) = false := decide_eq_false (by omega)
          have t5' : decide (k < n) = false := decide_eq_false hk
          obtain rfl : k = n := by have := S.out.kn; omega
          have hXX := S.out.eq
          rw [Nat.sub_self] at hXX
          have HE := Lib.hid (hXX.symm : X = (es, ps, m, 0, 0))
          clear hXX
          go_wp2_with fail
          refine bodyPost_ret (results_tmp5 rfl _ _ _) rfl ?_
          exact S.out.post HE.out (Below.refl _ _)
  · have t1 : (er != 0) = true := by rw [bne_iff_ne]; exact hz
    have HN := Lib.hid (HX.out.symm.trans (bentries_no HQ.out hz))
    clear hz
    go_enter Try.func28, Try.ntmps28
    go_wp2_with fail
    refine HV.out.mono ?_
    rintro r w1 ⟨rfl, rfl⟩
    go_wp2_with fail
    refine bodyPost_ret (results_tmp5 rfl _ _ _) rfl ?_
    rw [HN.out]
    exact ⟨Below.refl _ _, _, _, [], rfl, RdL.nil _ _, OwT.nil _ _ _ _⟩
end Go.Proofs.Yteedjgjkldbbcaa

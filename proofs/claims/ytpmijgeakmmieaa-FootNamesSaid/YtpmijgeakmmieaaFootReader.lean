/- The reader of a foot: contracts of fails, number, key. Conditions: the bytes within reach. -/
import Derived.Test.YtpmijgeakmmieaaFootReadM
import Derived.Test.YtpmijgeakmmieaaFootFns
import Derived.Test.YtpmijgeakmmieaaVintRead
import Derived.Test.YtpmijgeakmmieaaClone
import Derived.Lib.BufferOwn
import Derived.Deep.Cut
import Derived.Deep.RegionHeld3
import Derived.StillTailTactics
namespace Go.Proofs.Ytpmijgeakmmieaa
set_option linter.unusedVariables false
open Go.RowKit

/-- p holds, and behind whatever changes block g alone -/
def StabG (g : Nat) (w : World) (p : World → Prop) : Prop := ∀ w', w.grownBy w' (some g) → p w'
theorem grow_below {w w' : World} (h : Below w.heap.size w w') (row : Option Nat) : w.grownBy w' row := Lib.grownBy_below (World.grownBy.refl w row) h
theorem StabG.now {g : Nat} {w : World} {p : World → Prop} (h : StabG g w p) : p w := h w (World.grownBy.refl _ _)
theorem StabG.keep {g : Nat} {w w1 : World} {p : World → Prop} (h : StabG g w p) (hb : w.grownBy w1 (some g)) : StabG g w1 p := fun w' h' => h w' (Lib.grownBy_trans hb h')
theorem StabG.below {g : Nat} {w w1 : World} {p : World → Prop} (h : StabG g w p) (hb : Below w.heap.size w w1) : StabG g w1 p := h.keep (grow_below hb _)
theorem StabG.and {g : Nat} {w : World} {p q : World → Prop} (h : StabG g w p) (k : StabG g w q) : StabG g w (fun W => p W ∧ q W) := fun w' h' => ⟨h w' h', k w' h'⟩
theorem StabG.imp {g : Nat} {w : World} {p q : World → Prop} (h : StabG g w p) (k : ∀ W, p W → q W) : StabG g w q := fun w' h' => k _ (h w' h')
theorem StabG.grow {g : Nat} {w0 w : World} (h : w0.grownBy w (some g)) : StabG g w (fun W => w0.grownBy W (some g)) := fun _ h' => Lib.grownBy_trans h h'
theorem StabG.block {g : Nat} {w : World} {b : Nat} {o : Obj} (h : w.heap[b]? = some o) (hne : b ≠ g) : StabG g w (fun W => W.heap[b]? = some o) := fun _ h' => (h'.block b (Array.getElem?_eq_some_iff.1 h).1 (fun e => hne (Option.some.inj e))).trans h
theorem StabG.sl {α : Type} {f : α → Value} {g : Nat} {w : World} {a : Option Addr} {n c : Nat} {xs : List α} (h : Sl f w a n c xs) (hne : ∀ b o, a = some ⟨b, o, none⟩ → b ≠ g) : StabG g w (fun W => Sl f W a n c xs) :=
  fun W h' => h.grown h' fun b o e e2 => hne b o e (Option.some.inj e2).symm
/-- the reader's words -/
def Rd (w : World) (g : Nat) (a : Option Addr) (n c : Nat) (p : Nat) (e q : Int) : Prop := w.heap[g]? = some (.cells #[.slice a n c, .int .i64 (p : Nat), .int .i64 e, .int .i64 q] 68 (0, 0))
theorem Rd.keep {w w' : World} {g : Nat} {a : Option Addr} {n c p : Nat} {e q : Int} (h : Rd w g a n c p e q) (hb : Below w.heap.size w w') : Rd w' g a n c p e q := (hb.block g (Array.getElem?_eq_some_iff.1 h).1).trans h
theorem Rd.lt {w : World} {g : Nat} {a : Option Addr} {n c p : Nat} {e q : Int} (h : Rd w g a n c p e q) : g < w.heap.size := (Array.getElem?_eq_some_iff.1 h).1
theorem aboveR_any (a : Option Addr) (n c : Nat) (rs : List Row) (ak : Option Addr) (nk ck : Nat) (k : List UInt8) (w : World) (hn : n ≤ 140737488351232) (h : Spans w a n c rs) (hk : Sl Bf w ak nk ck k) :
    Calls Try.prog 30 #[.slice a n c, .slice ak nk ck] w fun e w' => e = .returned (.bool (upR rs k)) ∧ w = w' := by
  obtain rfl : n = rs.length := h.1.symm
  rcases List.eq_nil_or_concat rs with rfl | ⟨r, ⟨l, x, y, z⟩, rfl⟩
  · exact above0_any a c ak nk ck w
  · rw [List.concat_eq_append] at h hn ⊢
    rw [upR_snoc]
    have hl : (r ++ [(l, x, y, z)]).length = r.length + 1 := by simp
    rw [hl] at h hn ⊢
    exact above_any a r.length c (r ++ [(l, x, y, z)]) l x y z ak nk ck k w hn h (by simp) hk
theorem endR_any (a : Option Addr) (n c : Nat) (rs : List Row) (w : World) (hn : n ≤ 140737488351232) (h : Spans w a n c rs) (hp : -9223372036854775808 ≤ endR rs ∧ endR rs ≤ 9223372036854775807) :
    Calls Try.prog 31 #[.slice a n c] w fun e w' => e = .returned (.int .i64 (endR rs)) ∧ Below w.heap.size w w' := by
  obtain rfl : n = rs.length := h.1.symm
  rcases List.eq_nil_or_concat rs with rfl | ⟨r, ⟨l, x, y, z⟩, rfl⟩
  · exact end0_any a c w
  · rw [List.concat_eq_append] at h hn hp ⊢
    rw [endR_snoc] at hp ⊢
    have hl : (r ++ [(l, x, y, z)]).length = r.length + 1 := by simp
    rw [hl] at h hn ⊢
    exact end_any a r.length c (r ++ [(l, x, y, z)]) l x y z _ w hn h (by simp) rfl hp
theorem fails0_any (g : Nat) (a : Option Addr) (n c p : Nat) (e q : Int) (w : World) (h : Rd w g a n c p 0 0) :
    Calls Try.prog 41 #[.pointer (some ⟨g, 0, none⟩), .int .i64 e, .int .i64 q] w fun r w' => r = .returned (.tuple #[]) ∧ Rd w' g a n c p e q ∧ w.grownBy w' (some g) := by
  have c2 := cell_of h 2 rfl
  have f2 := free_block h 2
  have h1 : (w.setCell ⟨g, 2, none⟩ (.int .i64 e)).heap[g]? = some (.cells #[.slice a n c, .int .i64 (p : Nat), .int .i64 e, .int .i64 0] 68 (0, 0)) := set_block (i := 2) h (.int .i64 e)
  have c3 := cell_of h1 3 rfl
  have f3 := free_block h1 3
  have h2 := set_block (i := 3) h1 (.int .i64 q)
  have G := Lib.hid (Lib.grownBy_setB (Lib.grownBy_setB (World.grownBy.refl w (some g)) 2 (.int .i64 e)) 3 (.int .i64 q))
  have R := Lib.hid h2
  clear h h1 h2
  go_enter Try.func41, Try.ntmps41
  go_wp2_with fail
  go_end0
  exact ⟨rfl, R.out, G.out⟩
theorem failsE_any (g : Nat) (a : Option Addr) (n c p : Nat) (e0 q0 e q : Int) (w : World) (h : Rd w g a n c p e0 q0) (he : e0 ≠ 0) :
    Calls Try.prog 41 #[.pointer (some ⟨g, 0, none⟩), .int .i64 e, .int .i64 q] w fun r w' => r = .returned (.tuple #[]) ∧ w = w' := by
  have c2 := cell_of h 2 rfl
  have f2 : (e0 == 0) = false := by rw [beq_eq_false_iff_ne]; exact he
  clear h he
  go_enter Try.func41, Try.ntmps41
  go_wp2_with fail
  go_end0
  exact ⟨rfl, rfl⟩
theorem grow_drewN {w w1 : World} {row : Option Nat} (h : w.grownBy w1 row) (j : Nat) : w.grownBy (w1.drewN j) row := ⟨h.os, h.tape, h.output, h.size, h.block⟩
/-- number, whatever is read -/
theorem number_any (g : Nat) (a : Option Addr) (n c p : Nat) (b : List UInt8) (w : World) (hn : n ≤ 1000000000000000) (hp : p ≤ n) (h : Rd w g a n c p 0 0) (hs : StabG g w (fun W => Sl Bf W a n c b)) {v k : Nat} {e : Int} (hr : rd (b.drop p) 0 0 = (v, k, e)) :
    Calls Try.prog 40 #[.pointer (some ⟨g, 0, none⟩)] w fun r w' => w.grownBy w' (some g) ∧ (e = 0 → r = .returned (.tuple #[.int .u64 (v : Nat), .int .i64 (p : Nat)]) ∧ Rd w' g a n c (p + k) 0 0) ∧ (e ≠ 0 → r = .returned (.tuple #[.int .u64 0, .int .i64 (p : Nat)]) ∧ Rd w' g a n c p e ((p + k : Nat) : Int)) := by
  obtain rfl : n = b.length := hs.now.len.symm
  have c1 := cell_of h 1 rfl
  have c0 := cell_of h 0 rfl
  have HV := vread_any a b.length c b p w (by omega) hp hs.now
  rw [hr] at HV
  dsimp only at HV
  have hq : ∃ q, p + k = q := ⟨_, rfl⟩
  obtain ⟨q, hq⟩ := hq
  rw [hq] at HV ⊢
  replace HV := Lib.hid HV
  have R := Lib.hid h
  clear hs hr hq h
  by_cases he : e = 0
  · subst he
    go_enter Try.func40, Try.ntmps40
    go_wp2_with fail
    refine HV.out.mono ?_
    rintro r w1 ⟨rfl, hb⟩
    have R1 := Lib.hid (R.out.keep hb)
    clear c0 c1
    have c1 := cell_of R1.out 1 rfl
    have f1 := free_block R1.out 1
    have R2 := Lib.hid (show Rd (w1.setCell ⟨g, 1, none⟩ (.int .i64 (q : Nat))) g a b.length c q 0 0 from set_block (i := 1) R1.out (.int .i64 (q : Nat)))
    have G := Lib.hid (Lib.grownBy_setB (grow_below hb (some g)) 1 (.int .i64 (q : Nat)))
    clear hb
    go_wp2_with fail
    go_ret2
    exact ⟨G.out, fun _ => ⟨rfl, R2.out⟩, fun h => absurd rfl h⟩
  · have t1 : (e != 0) = true := by rw [bne_iff_ne]; exact he
    have HE := Lib.hid he
    clear he
    go_enter Try.func40, Try.ntmps40
    go_wp2_with fail
    refine HV.out.mono ?_
    rintro r w1 ⟨rfl, hb⟩
    have HF := Lib.hid (fails0_any g a b.length c p e q w1 (R.out.keep hb))
    have G0 := Lib.hid (grow_below hb (some g))
    clear hb c0 c1
    go_wp2_with fail
    refine HF.out.mono ?_
    rintro r w2 ⟨rfl, hr, hg⟩
    have R2 := Lib.hid hr
    have G := Lib.hid (Lib.grownBy_trans G0.out hg)
    clear hr hg
    go_wp2_with fail
    go_ret2
    exact ⟨G.out, fun h => absurd h HE.out, fun _ => ⟨rfl, R2.out⟩⟩
theorem number_ok (g : Nat) (a : Option Addr) (n c p : Nat) (b : List UInt8) (w : World) (hn : n ≤ 1000000000000000) (hp : p ≤ n) (h : Rd w g a n c p 0 0) (hs : StabG g w (fun W => Sl Bf W a n c b)) {v k m : Nat} (hr : rd (b.drop p) 0 0 = (v, k, 0)) (hm : p + k = m) :
    Calls Try.prog 40 #[.pointer (some ⟨g, 0, none⟩)] w fun r w' => r = .returned (.tuple #[.int .u64 (v : Nat), .int .i64 (p : Nat)]) ∧ Rd w' g a n c m 0 0 ∧ w.grownBy w' (some g) :=
  (number_any g a n c p b w hn hp h hs hr).mono fun _ _ h => ⟨(h.2.1 rfl).1, hm ▸ (h.2.1 rfl).2, h.1⟩
theorem number_no (g : Nat) (a : Option Addr) (n c p : Nat) (b : List UInt8) (w : World) (hn : n ≤ 1000000000000000) (hp : p ≤ n) (h : Rd w g a n c p 0 0) (hs : StabG g w (fun W => Sl Bf W a n c b)) {v k m : Nat} {e : Int} (hr : rd (b.drop p) 0 0 = (v, k, e)) (he : e ≠ 0) (hm : p + k = m) :
    Calls Try.prog 40 #[.pointer (some ⟨g, 0, none⟩)] w fun r w' => r = .returned (.tuple #[.int .u64 0, .int .i64 (p : Nat)]) ∧ Rd w' g a n c p e (m : Nat) ∧ w.grownBy w' (some g) :=
  (number_any g a n c p b w hn hp h hs hr).mono fun _ _ h => ⟨(h.2.2 he).1, hm ▸ (h.2.2 he).2, h.1⟩
set_option maxHeartbeats 2000000 in
set_option maxRecDepth 100000 in
theorem key_any (g : Nat) (a : Option Addr) (n c p : Nat) (b : List UInt8) (al : Option Addr) (nl cl : Nat) (rs : List Row) (w : World) (hn : n ≤ 1000000000000000) (hp : p ≤ n) (hnl : nl ≤ 140737488351232) (h : Rd w g a n c p 0 0)
    (hs : StabG g w (fun W => Sl Bf W a n c b ∧ Spans W al nl cl rs)) {k : List UInt8} {q : Nat} {e : Int} (hk : fky b rs p = (k, q, e)) :
    Calls Try.prog 54 #[.pointer (some ⟨g, 0, none⟩), .slice al nl cl] w fun r w' => ∃ ak nk ck, r = .returned (.slice ak nk ck) ∧ w.grownBy w' (some g) ∧
      (e = 0 → OwT fB w' w.heap.size 5 (.slice ak nk ck) k ∧ Rd w' g a n c q 0 0) ∧ (e ≠ 0 → ∃ p', p' ≤ n ∧ Rd w' g a n c p' e (q : Nat)) := by
  obtain rfl : n = b.length := hs.now.1.len.symm
  have H := Lib.hid h
  have S := Lib.hid hs
  obtain ⟨⟨v, d, e0⟩, hr⟩ : ∃ X, rd (b.drop p) 0 0 = X := ⟨_, rfl⟩
  have lw := h.lt
  clear h hs
  by_cases he : e0 = 0
  · subst he
    obtain ⟨hd, hv⟩ := rd_in hr
    rw [List.length_drop] at hd
    obtain ⟨m, hm⟩ : ∃ m, p + d = m := ⟨_, rfl⟩
    have HN := Lib.hid (number_ok g a b.length c p b w (by omega) hp H.out (S.out.imp fun _ h => h.1) hr hm)
    have hmn : m ≤ b.length := by omega
    by_cases hb : v < 1 ∨ 64 < v
    · rw [fky_bad hr hb] at hk
      simp only [Prod.mk.injEq] at hk
      obtain ⟨rfl, rfl, rfl⟩ := hk
      have tests : ((v : Int) < 1) ∨ (¬ ((v : Int) < 1) ∧ ((v : Int) > 64)) := by omega
      clear hr
      rcases tests with t1 | ⟨t1, t2⟩
      all_goals
        go_enter Try.func54, Try.ntmps54
        go_wp2_with fail
        refine HN.out.mono ?_
        rintro r w1 ⟨rfl, hR, hg⟩
        have G := Lib.hid hg
        have R := Lib.hid hR
        have c2 := cell_of hR 2 rfl
        have HF := Lib.hid (fails0_any g a b.length c m 72 p w1 hR)
        clear hR hg HN
        go_wp2_with fail
        refine HF.out.mono ?_
        rintro r w2 ⟨rfl, hr, hg⟩
        have R2 := Lib.hid hr
        have G2 := Lib.hid (Lib.grownBy_trans G.out hg)
        clear hr hg c2
        go_wp2_with fail
        go_ret
        exact ⟨none, 0, 0, rfl, G2.out, fun h => (by cases h), fun _ => ⟨m, hmn, R2.out⟩⟩
    · have t1 : ¬ ((v : Int) < 1) := by omega
      have t2 : ¬ ((v : Int) > 64) := by omega
      have t3 : decide ((v : Int) < 1) = false := decide_eq_false t1
      have t4 : decide ((v : Int) > 64) = false := decide_eq_false t2
      have t5 : decide ((64 : Int) < (v : Int)) = false := decide_eq_false t2
      have r1 : IntKind.i64.wrap (v : Int) = v := IntWalk.i64_in _ (by omega)
      obtain ⟨L, hL⟩ : ∃ L, b.length - m = L := ⟨_, rfl⟩
      have r2 : IntKind.i64.wrap ((b.length : Int) - m) = (L : Nat) := by rw [show (b.length : Int) - m = (L : Nat) by omega]; exact IntWalk.i64_in _ (by omega)
      by_cases hsh : L < v
      · rw [fky_short hr hb (by omega)] at hk
        simp only [Prod.mk.injEq] at hk
        obtain ⟨rfl, rfl, rfl⟩ := hk
        have t7 : decide ((v : Int) > (L : Int)) = true := decide_eq_true (by omega)
        have t8 : decide (L < v) = true := decide_eq_true hsh
        clear hr hb t1 t2
        go_enter Try.func54, Try.ntmps54
        go_wp2_with fail
        refine HN.out.mono ?_
        rintro r w1 ⟨rfl, hR, hg⟩
        have G := Lib.hid hg
        have R := Lib.hid hR
        have c0 := cell_of hR 0 rfl
        have c1 := cell_of hR 1 rfl
        have c2 := cell_of hR 2 rfl
        have HF := Lib.hid (fun j : Nat => fails0_any g a b.length c m 77 b.length (w1.drewN j) hR)
        clear hR hg HN
        go_wp2_with fail
        go_quiet (fail)
        go_wp2_with fail
        refine (HF.out _).mono ?_
        rintro r w2 ⟨rfl, hr, hg⟩
        have R2 := Lib.hid hr
        have G2 := Lib.hid (Lib.grownBy_trans (grow_drewN G.out _) hg)
        clear hr hg c0 c1 c2
        go_wp2_with fail
        go_ret
        exact ⟨none, 0, 0, rfl, G2.out, fun h => (by cases h), fun _ => ⟨m, hmn, R2.out⟩⟩
      · have t7 : decide ((v : Int) > (L : Int)) = false := decide_eq_false (by omega)
        have t8 : decide (L < v) = false := decide_eq_false hsh
        obtain ⟨key, hkey⟩ : ∃ key, (b.drop m).take v = key := ⟨_, rfl⟩
        have hkl : key.length = v := by rw [← hkey, List.length_take, List.length_drop]; omega
        have hfin : upR rs key = false ∧ k = [] ∧ q = p ∧ e = 72 ∨ upR rs key = true ∧ k = key ∧ q = m + v ∧ e = 0 := by
          have e1 : (b.drop (p + d)).take v = key := by rw [hm]; exact hkey
          rcases hu : upR rs key with _ | _
          · rw [fky_low hr hb (by omega) (by rw [e1]; exact hu)] at hk
            simp only [Prod.mk.injEq] at hk
            exact .inl ⟨rfl, hk.1.symm, hk.2.1.symm, hk.2.2.symm⟩
          · rw [fky_ok hr hb (by omega) (by rw [e1]; exact hu), e1] at hk
            simp only [Prod.mk.injEq] at hk
            exact .inr ⟨rfl, hk.1.symm, by omega, hk.2.2.symm⟩
        have V64 := Lib.hid (show v ≤ 64 by omega)
        have FIN := Lib.hid hfin
        have HK := Lib.hid hkey
        clear hr hb t1 t2 hfin hkey hk
        go_enter Try.func54, Try.ntmps54
        go_wp2_with fail
        refine HN.out.mono ?_
        rintro r w1 ⟨rfl, hR, hg⟩
        replace S := Lib.hid (S.out.keep hg)
        have G := Lib.hid hg
        have R := Lib.hid hR
        have c0 := cell_of hR 0 rfl
        have c1 := cell_of hR 1 rfl
        have c2 := cell_of hR 2 rfl
        clear hR hg HN
        go_wp2_with fail
        go_quiet (fail)
        go_wp2_with fail
        replace S := Lib.hid (S.out.keep (grow_drewN (World.grownBy.refl w1 _) nq))
        replace G := Lib.hid (grow_drewN G.out nq)
        replace R : Hid (Rd (w1.drewN nq) g a b.length c m 0 0) := R
        have lw1 : w.heap.size ≤ (w1.drewN nq).heap.size := G.out.size
        clear c0 c1 c2
        generalize w1.drewN nq = w2 at *
        have c0 := cell_of R.out 0 rfl
        have c1 := cell_of R.out 1 rfl
        have hc1 := fun W : World => run_cutfrom eltB W a b.length c .i64 m hmn
        simp only [hL] at hc1
        have hc2 := fun W : World => run_cutto eltB W (adv a c m) L (c - m) .u64 v (by have := S.out.now.1.le; omega)
        have z1 := (S.out.now.1.from m hmn).upto v (by omega)
        rw [HK.out] at z1
        have HC := Lib.hid (clone_any (adv a c m) v (c - m) key (w2.drewN 1) (by have := V64.out; omega) (z1.drewN 1))
        clear z1
        go_still_tail 11, (by kernel_rfl)
        change wpList _ _ _ _ _ w2.drew
        go_wp2_with fail
        refine HC.out.mono ?_
        rintro r w3 ⟨_, rfl, ho, hb⟩
        · obtain ⟨ak, nk, ck, rfl, zk⟩ := ho.slN
          obtain rfl : nk = v := by rw [← zk.len]; exact hkl
          replace S := Lib.hid ((S.out.keep (grow_drewN (World.grownBy.refl w2 _) 1)).below hb)
          replace G := Lib.hid (Lib.grownBy_trans (grow_drewN G.out 1) (grow_below hb _))
          have R3 := Lib.hid (show Rd w3 g a b.length c m 0 0 from Rd.keep (w := w2.drewN 1) R.out hb)
          have O := Lib.hid (ho.base lw1)
          have lw3 : w2.heap.size ≤ w3.heap.size := hb.size
          clear c0 c1 hc1 hc2 HC ho hb zk R
          have c1 := cell_of R3.out 1 rfl
          have f1 := free_block R3.out 1
          have e4 : ((m : Int) + nk) = ((m + nk : Nat) : Int) := by omega
          obtain ⟨M, hM⟩ : ∃ M, m + nk = M := ⟨_, rfl⟩
          rw [hM] at e4 FIN
          have hMn : M ≤ b.length := by omega
          have R4 := Lib.hid (show Rd (w3.setCell ⟨g, 1, none⟩ (.int .i64 (M : Nat))) g a b.length c M 0 0 from set_block (i := 1) R3.out (.int .i64 (M : Nat)))
          have hg4 := Lib.grownBy_setB (World.grownBy.refl w3 (some g)) 1 (.int .i64 (M : Nat))
          replace S := Lib.hid (S.out.keep hg4)
          replace G := Lib.hid (Lib.grownBy_trans G.out hg4)
          replace O := Lib.hid (O.out.grown hg4 (.inr fun e => by have := (O.out.lt g e.symm).1; omega))
          clear hg4
          go_upto_region 12 with (fail)
          generalize w3.setCell ⟨g, 1, none⟩ (.int .i64 (M : Nat)) = w4 at *
          have HA := Lib.hid (aboveR_any al nl cl rs ak nk ck key w4 hnl S.out.now.2 O.out.slI)
          have c2 := cell_of R4.out 2 rfl
          clear c1 f1 e4 R3 r1 r2 t3 t4 t5 t7 t8 hL hM hkl HK S
          rcases FIN.out with ⟨hu, rfl, rfl, rfl⟩ | ⟨hu, rfl, rfl, rfl⟩
          · rw [hu] at HA
            have HF := Lib.hid (fails0_any g a b.length c M 72 q w4 R4.out)
            clear hu FIN
            go_wp2_with fail
            refine HA.out.mono ?_
            rintro r w' ⟨rfl, rfl⟩
            go_wp2_with fail
            refine HF.out.mono ?_
            rintro r w5 ⟨rfl, hr, hg⟩
            have R5 := Lib.hid hr
            have G5 := Lib.hid (Lib.grownBy_trans G.out hg)
            clear hr hg c2
            go_wp2_with fail
            go_ret
            exact ⟨ak, nk, ck, rfl, G5.out, fun h => (by cases h), fun _ => ⟨M, hMn, R5.out⟩⟩
          · rw [hu] at HA
            clear hu FIN
            go_wp2_with fail
            refine HA.out.mono ?_
            rintro r w' ⟨rfl, rfl⟩
            go_wp2_with fail
            go_ret
            exact ⟨ak, nk, ck, rfl, G.out, O.out, R4.out⟩
  · obtain ⟨m, hm⟩ : ∃ m, p + d = m := ⟨_, rfl⟩
    have HN := Lib.hid (number_no g a b.length c p b w (by omega) hp H.out (S.out.imp fun _ h => h.1) hr he hm)
    rw [fky_no hr he, hm] at hk
    simp only [Prod.mk.injEq] at hk
    obtain ⟨rfl, rfl, rfl⟩ := hk
    have t1 : (e0 != 0) = true := by rw [bne_iff_ne]; exact he
    have HE := Lib.hid he
    clear hr he hm
    go_enter Try.func54, Try.ntmps54
    go_wp2_with fail
    refine HN.out.mono ?_
    rintro r w1 ⟨rfl, hR, hg⟩
    have G := Lib.hid hg
    have R := Lib.hid hR
    have c2 := cell_of hR 2 rfl
    clear hR hg HN
    go_wp2_with fail
    go_ret
    exact ⟨none, 0, 0, rfl, G.out, fun h => absurd h HE.out, fun _ => ⟨p, hp, R.out⟩⟩
end Go.Proofs.Ytpmijgeakmmieaa

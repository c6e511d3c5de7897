/- Several texts in one: FootReader, FootRow. Each has its own sentence and conditions below. -/
import Derived.Test.YtljcogimeimknaaGreatK8d
import Derived.Test.YtljcogimeimknaaGreatF8q
import Derived.Test.YtljcogimeimknaaGreatK8b
import Derived.Lib.BufferOwn
import Derived.Deep.Cut
import Derived.Deep.RegionHeld3
import Derived.StillTailTactics
/- The reader of a foot: contracts of fails, number, key. Conditions: the bytes within reach. -/
namespace Go.Proofs.YtljcogimeimknaaGreat
set_option linter.unusedVariables false
open Go.RowKit

/-- p holds, and behind whatever changes block g alone -/
def StabG (g : Nat) (w : World) (p : World → Prop) : Prop := ∀ w', w.grownBy w' (some g) → p w'
theorem grow_below {w w' : World} (h : Below w.heap.size w w') (row : Option Nat) : w.grownBy w' row := Lib.grownBy_below (World.grownBy.refl w row) h
theorem StabG.now {g : Nat} {w : World} {p : World → Prop} (h : StabG g w p) : p w := h w (World.grownBy.refl _ _)
theorem StabG.keep {g : Nat} {w w1 : World} {p : World → Prop} (h : StabG g w p) (hb : w.grownBy w1 (some g)) : StabG g w1 p := fun w' h' => h w' (Lib.grownBy_trans hb h')
theorem StabG.below {g : Nat} {w w1 : World} {p : World → Prop} (h : StabG g w p) (hb : Below w.heap.size w w1) : StabG g w1 p := h.keep (grow_below hb _)
theorem StabG.and {g : Nat} {w : World} {p q : World → Prop} (h : StabG g w p) (k : StabG g w q) : StabG g w (fun W => p W ∧ q W) := fun w' h' => ⟨h w' h', k w' h'⟩
theorem StabG.imp {g : Nat} {w : World} {p q : World → Prop} (h : StabG g w p) (k : ∀ W, p W → q W) : StabG g w q := fun w' h' => k _ (h w' h')
theorem StabG.block {g : Nat} {w : World} {b : Nat} {o : Obj} (h : w.heap[b]? = some o) (hne : b ≠ g) : StabG g w (fun W => W.heap[b]? = some o) := fun _ h' => (h'.block b (Array.getElem?_eq_some_iff.1 h).1 (fun e => hne (Option.some.inj e))).trans h
theorem StabG.sl {α : Type} {f : α → Value} {g : Nat} {w : World} {a : Option Addr} {n c : Nat} {xs : List α} (h : Sl f w a n c xs) (hne : ∀ b o, a = some ⟨b, o, none⟩ → b ≠ g) : StabG g w (fun W => Sl f W a n c xs) :=
  fun W h' => h.grown h' fun b o e e2 => hne b o e (Option.some.inj e2).symm
/-- the reader's words -/
def Rd (w : World) (g : Nat) (a : Option Addr) (n c : Nat) (p : Nat) (e q : Int) : Prop := w.heap[g]? = some (.cells #[.slice a n c, .int .i64 (p : Nat), .int .i64 e, .int .i64 q] 141 (0, 0))
theorem Rd.keep {w w' : World} {g : Nat} {a : Option Addr} {n c p : Nat} {e q : Int} (h : Rd w g a n c p e q) (hb : Below w.heap.size w w') : Rd w' g a n c p e q := (hb.block g (Array.getElem?_eq_some_iff.1 h).1).trans h
theorem Rd.lt {w : World} {g : Nat} {a : Option Addr} {n c p : Nat} {e q : Int} (h : Rd w g a n c p e q) : g < w.heap.size := (Array.getElem?_eq_some_iff.1 h).1
theorem aboveR_any (a : Option Addr) (n c : Nat) (rs : List Row) (ak : Option Addr) (nk ck : Nat) (k : List UInt8) (w : World) (hn : n ≤ 140737488351232) (h : Spans w a n c rs) (hk : Sl Bf w ak nk ck k) :
    Calls Tryz.prog 158 #[.slice a n c, .slice ak nk ck] w fun e w' => e = .returned (.bool (upR rs k)) ∧ w = w' := by
  obtain rfl : n = rs.length := h.1.symm
  rcases List.eq_nil_or_concat rs with rfl | ⟨r, ⟨l, x, y, z⟩, rfl⟩
  · exact above0_any a c ak nk ck w
  · rw [List.concat_eq_append] at h hn ⊢
    rw [upR_snoc]
    have hl : (r ++ [(l, x, y, z)]).length = r.length + 1 := by simp
    rw [hl] at h hn ⊢
    exact above_any a r.length c (r ++ [(l, x, y, z)]) l x y z ak nk ck k w hn h (by simp) hk
theorem endR_any (a : Option Addr) (n c : Nat) (rs : List Row) (w : World) (hn : n ≤ 140737488351232) (h : Spans w a n c rs) (hp : -9223372036854775808 ≤ endR rs ∧ endR rs ≤ 9223372036854775807) :
    Calls Tryz.prog 128 #[.slice a n c] w fun e w' => e = .returned (.int .i64 (endR rs)) ∧ Below w.heap.size w w' := by
  obtain rfl : n = rs.length := h.1.symm
  rcases List.eq_nil_or_concat rs with rfl | ⟨r, ⟨l, x, y, z⟩, rfl⟩
  · exact end0_any a c w
  · rw [List.concat_eq_append] at h hn hp ⊢
    rw [endR_snoc] at hp ⊢
    have hl : (r ++ [(l, x, y, z)]).length = r.length + 1 := by simp
    rw [hl] at h hn ⊢
    exact end_any a r.length c (r ++ [(l, x, y, z)]) l x y z _ w hn h (by simp) rfl hp
theorem fails0_any (g : Nat) (a : Option Addr) (n c p : Nat) (e q : Int) (w : World) (h : Rd w g a n c p 0 0) :
    Calls Tryz.prog 81 #[.pointer (some ⟨g, 0, none⟩), .int .i64 e, .int .i64 q] w fun r w' => r = .returned (.tuple #[]) ∧ Rd w' g a n c p e q ∧ w.grownBy w' (some g) := by
  have c2 := cell_of h 2 rfl
  have f2 := free_block h 2
  have h1 : (w.setCell ⟨g, 2, none⟩ (.int .i64 e)).heap[g]? = some (.cells #[.slice a n c, .int .i64 (p : Nat), .int .i64 e, .int .i64 0] 141 (0, 0)) := set_block (i := 2) h (.int .i64 e)
  have c3 := cell_of h1 3 rfl
  have f3 := free_block h1 3
  have h2 := set_block (i := 3) h1 (.int .i64 q)
  have G := Lib.hid (Lib.grownBy_setB (Lib.grownBy_setB (World.grownBy.refl w (some g)) 2 (.int .i64 e)) 3 (.int .i64 q))
  have R := Lib.hid h2
  clear h h1 h2
  go_enter Tryz.func81, Tryz.ntmps81
  go_wp2_with fail
  go_end0
  exact ⟨rfl, R.out, G.out⟩
theorem failsE_any (g : Nat) (a : Option Addr) (n c p : Nat) (e0 q0 e q : Int) (w : World) (h : Rd w g a n c p e0 q0) (he : e0 ≠ 0) :
    Calls Tryz.prog 81 #[.pointer (some ⟨g, 0, none⟩), .int .i64 e, .int .i64 q] w fun r w' => r = .returned (.tuple #[]) ∧ w = w' := by
  have c2 := cell_of h 2 rfl
  have f2 : (e0 == 0) = false := by rw [beq_eq_false_iff_ne]; exact he
  clear h he
  go_enter Tryz.func81, Tryz.ntmps81
  go_wp2_with fail
  go_end0
  exact ⟨rfl, rfl⟩
theorem grow_drewN {w w1 : World} {row : Option Nat} (h : w.grownBy w1 row) (j : Nat) : w.grownBy (w1.drewN j) row := ⟨h.os, h.tape, h.output, h.size, h.block⟩
/-- number, whatever is read -/
theorem number_any (g : Nat) (a : Option Addr) (n c p : Nat) (b : List UInt8) (w : World) (hn : n ≤ 1000000000000000) (hp : p ≤ n) (h : Rd w g a n c p 0 0) (hs : StabG g w (fun W => Sl Bf W a n c b)) {v k : Nat} {e : Int} (hr : rd (b.drop p) 0 0 = (v, k, e)) :
    Calls Tryz.prog 80 #[.pointer (some ⟨g, 0, none⟩)] w fun r w' => w.grownBy w' (some g) ∧ (e = 0 → r = .returned (.tuple #[.int .u64 (v : Nat), .int .i64 (p : Nat)]) ∧ Rd w' g a n c (p + k) 0 0) ∧ (e ≠ 0 → r = .returned (.tuple #[.int .u64 0, .int .i64 (p : Nat)]) ∧ Rd w' g a n c p e ((p + k : Nat) : Int)) := by
  obtain rfl : n = b.length := hs.now.len.symm
  have c1 := cell_of h 1 rfl
  have c0 := cell_of h 0 rfl
  have HV := vread_any a b.length c b p w (by omega) hp hs.now
  rw [hr] at HV
  dsimp only at HV
  have hq : ∃ q, p + k = q := ⟨_, rfl⟩
  obtain ⟨q, hq⟩ := hq
  rw [hq] at HV ⊢
  replace HV := Lib.hid HV
  have R := Lib.hid h
  clear hs hr hq h
  by_cases he : e = 0
  · subst he
    go_enter Tryz.func80, Tryz.ntmps80
    go_wp2_with fail
    refine HV.out.mono ?_
    rintro r w1 ⟨rfl, hb⟩
    have R1 := Lib.hid (R.out.keep hb)
    clear c0 c1
    have c1 := cell_of R1.out 1 rfl
    have f1 := free_block R1.out 1
    have R2 := Lib.hid (show Rd (w1.setCell ⟨g, 1, none⟩ (.int .i64 (q : Nat))) g a b.length c q 0 0 from set_block (i := 1) R1.out (.int .i64 (q : Nat)))
    have G := Lib.hid (Lib.grownBy_setB (grow_below hb (some g)) 1 (.int .i64 (q : Nat)))
    clear hb
    go_wp2_with fail
    go_ret2
    exact ⟨G.out, fun _ => ⟨rfl, R2.out⟩, fun h => absurd rfl h⟩
  · have t1 : (e != 0) = true := by rw [bne_iff_ne]; exact he
    have HE := Lib.hid he
    clear he
    go_enter Tryz.func80, Tryz.ntmps80
    go_wp2_with fail
    refine HV.out.mono ?_
    rintro r w1 ⟨rfl, hb⟩
    have HF := Lib.hid (fails0_any g a b.length c p e q w1 (R.out.keep hb))
    have G0 := Lib.hid (grow_below hb (some g))
    clear hb c0 c1
    go_wp2_with fail
    refine HF.out.mono ?_
    rintro r w2 ⟨rfl, hr, hg⟩
    have R2 := Lib.hid hr
    have G := Lib.hid (Lib.grownBy_trans G0.out hg)
    clear hr hg
    go_wp2_with fail
    go_ret2
    exact ⟨G.out, fun h => absurd h HE.out, fun _ => ⟨rfl, R2.out⟩⟩
theorem number_ok (g : Nat) (a : Option Addr) (n c p : Nat) (b : List UInt8) (w : World) (hn : n ≤ 1000000000000000) (hp : p ≤ n) (h : Rd w g a n c p 0 0) (hs : StabG g w (fun W => Sl Bf W a n c b)) {v k m : Nat} (hr : rd (b.drop p) 0 0 = (v, k, 0)) (hm : p + k = m) :
    Calls Tryz.prog 80 #[.pointer (some ⟨g, 0, none⟩)] w fun r w' => r = .returned (.tuple #[.int .u64 (v : Nat), .int .i64 (p : Nat)]) ∧ Rd w' g a n c m 0 0 ∧ w.grownBy w' (some g) :=
  (number_any g a n c p b w hn hp h hs hr).mono fun _ _ h => ⟨(h.2.1 rfl).1, hm ▸ (h.2.1 rfl).2, h.1⟩
theorem fnumber_no (g : Nat) (a : Option Addr) (n c p : Nat) (b : List UInt8) (w : World) (hn : n ≤ 1000000000000000) (hp : p ≤ n) (h : Rd w g a n c p 0 0) (hs : StabG g w (fun W => Sl Bf W a n c b)) {v k m : Nat} {e : Int} (hr : rd (b.drop p) 0 0 = (v, k, e)) (he : e ≠ 0) (hm : p + k = m) :
    Calls Tryz.prog 80 #[.pointer (some ⟨g, 0, none⟩)] w fun r w' => r = .returned (.tuple #[.int .u64 0, .int .i64 (p : Nat)]) ∧ Rd w' g a n c p e (m : Nat) ∧ w.grownBy w' (some g) :=
  (number_any g a n c p b w hn hp h hs hr).mono fun _ _ h => ⟨(h.2.2 he).1, hm ▸ (h.2.2 he).2, h.1⟩
set_option maxHeartbeats 2000000 in
set_option maxRecDepth 100000 in
theorem key_any (g : Nat) (a : Option Addr) (n c p : Nat) (b : List UInt8) (al : Option Addr) (nl cl : Nat) (rs : List Row) (w : World) (hn : n ≤ 1000000000000000) (hp : p ≤ n) (hnl : nl ≤ 140737488351232) (h : Rd w g a n c p 0 0)
    (hs : StabG g w (fun W => Sl Bf W a n c b ∧ Spans W al nl cl rs)) {k : List UInt8} {q : Nat} {e : Int} (hk : fky b rs p = (k, q, e)) :
    Calls Tryz.prog 127 #[.pointer (some ⟨g, 0, none⟩), .slice al nl cl] w fun r w' => ∃ ak nk ck, r = .returned (.slice ak nk ck) ∧ w.grownBy w' (some g) ∧
      (e = 0 → OwT fB w' w.heap.size 5 (.slice ak nk ck) k ∧ Rd w' g a n c q 0 0) ∧ (e ≠ 0 → ∃ p', p' ≤ n ∧ Rd w' g a n c p' e (q : Nat)) := by
  obtain rfl : n = b.length := hs.now.1.len.symm
  have H := Lib.hid h
  have S := Lib.hid hs
  obtain ⟨⟨v, d, e0⟩, hr⟩ : ∃ X, rd (b.drop p) 0 0 = X := ⟨_, rfl⟩
  have lw := h.lt
  clear h hs
  by_cases he : e0 = 0
  · subst he
    obtain ⟨hd, hv⟩ := rd_in hr
    rw [List.length_drop] at hd
    obtain ⟨m, hm⟩ : ∃ m, p + d = m := ⟨_, rfl⟩
    have HN := Lib.hid (number_ok g a b.length c p b w (by omega) hp H.out (S.out.imp fun _ h => h.1) hr hm)
    have hmn : m ≤ b.length := by omega
    by_cases hb : v < 1 ∨ 64 < v
    · rw [fky_bad hr hb] at hk
      simp only [Prod.mk.injEq] at hk
      obtain ⟨rfl, rfl, rfl⟩ := hk
      have tests : ((v : Int) < 1) ∨ (¬ ((v : Int) < 1) ∧ ((v : Int) > 64)) := by omega
      clear hr
      rcases tests with t1 | ⟨t1, t2⟩
      all_goals
        go_enter Tryz.func127, Tryz.ntmps127
        go_wp2_with fail
        refine HN.out.mono ?_
        rintro r w1 ⟨rfl, hR, hg⟩
        have G := Lib.hid hg
        have R := Lib.hid hR
        have c2 := cell_of hR 2 rfl
        have HF := Lib.hid (fails0_any g a b.length c m 72 p w1 hR)
        clear hR hg HN
        go_wp2_with fail
        refine HF.out.mono ?_
        rintro r w2 ⟨rfl, hr, hg⟩
        have R2 := Lib.hid hr
        have G2 := Lib.hid (Lib.grownBy_trans G.out hg)
        clear hr hg c2
        go_wp2_with fail
        go_ret
        exact ⟨none, 0, 0, rfl, G2.out, fun h => (by cases h), fun _ => ⟨m, hmn, R2.out⟩⟩
    · have t1 : ¬ ((v : Int) < 1) := by omega
      have t2 : ¬ ((v : Int) > 64) := by omega
      have t3 : decide ((v : Int) < 1) = false := decide_eq_false t1
      have t4 : decide ((v : Int) > 64) = false := decide_eq_false t2
      have t5 : decide ((64 : Int) < (v : Int)) = false := decide_eq_false t2
      have r1 : IntKind.i64.wrap (v : Int) = v := IntWalk.i64_in _ (by omega)
      obtain ⟨L, hL⟩ : ∃ L, b.length - m = L := ⟨_, rfl⟩
      have r2 : IntKind.i64.wrap ((b.length : Int) - m) = (L : Nat) := by rw [show (b.length : Int) - m = (L : Nat) by omega]; exact IntWalk.i64_in _ (by omega)
      by_cases hsh : L < v
      · rw [fky_short hr hb (by omega)] at hk
        simp only [Prod.mk.injEq] at hk
        obtain ⟨rfl, rfl, rfl⟩ := hk
        have t7 : decide ((v : Int) > (L : Int)) = true := decide_eq_true (by omega)
        have t8 : decide (L < v) = true := decide_eq_true hsh
        clear hr hb t1 t2
        go_enter Tryz.func127, Tryz.ntmps127
        go_wp2_with fail
        refine HN.out.mono ?_
        rintro r w1 ⟨rfl, hR, hg⟩
        have G := Lib.hid hg
        have R := Lib.hid hR
        have c0 := cell_of hR 0 rfl
        have c1 := cell_of hR 1 rfl
        have c2 := cell_of hR 2 rfl
        have HF := Lib.hid (fun j : Nat => fails0_any g a b.length c m 77 b.length (w1.drewN j) hR)
        clear hR hg HN
        go_wp2_with fail
        go_quiet (fail)
        go_wp2_with fail
        refine (HF.out _).mono ?_
        rintro r w2 ⟨rfl, hr, hg⟩
        have R2 := Lib.hid hr
        have G2 := Lib.hid (Lib.grownBy_trans (grow_drewN G.out _) hg)
        clear hr hg c0 c1 c2
        go_wp2_with fail
        go_ret
        exact ⟨none, 0, 0, rfl, G2.out, fun h => (by cases h), fun _ => ⟨m, hmn, R2.out⟩⟩
      · have t7 : decide ((v : Int) > (L : Int)) = false := decide_eq_false (by omega)
        have t8 : decide (L < v) = false := decide_eq_false hsh
        obtain ⟨key, hkey⟩ : ∃ key, (b.drop m).take v = key := ⟨_, rfl⟩
        have hkl : key.length = v := by rw [← hkey, List.length_take, List.length_drop]; omega
        have hfin : upR rs key = false ∧ k = [] ∧ q = p ∧ e = 72 ∨ upR rs key = true ∧ k = key ∧ q = m + v ∧ e = 0 := by
          have e1 : (b.drop (p + d)).take v = key := by rw [hm]; exact hkey
          rcases hu : upR rs key with _ | _
          · rw [fky_low hr hb (by omega) (by rw [e1]; exact hu)] at hk
            simp only [Prod.mk.injEq] at hk
            exact .inl ⟨rfl, hk.1.symm, hk.2.1.symm, hk.2.2.symm⟩
          · rw [fky_ok hr hb (by omega) (by rw [e1]; exact hu), e1] at hk
            simp only [Prod.mk.injEq] at hk
            exact .inr ⟨rfl, hk.1.symm, by omega, hk.2.2.symm⟩
        have V64 := Lib.hid (show v ≤ 64 by omega)
        have FIN := Lib.hid hfin
        have HK := Lib.hid hkey
        clear hr hb t1 t2 hfin hkey hk
        go_enter Tryz.func127, Tryz.ntmps127
        go_wp2_with fail
        refine HN.out.mono ?_
        rintro r w1 ⟨rfl, hR, hg⟩
        replace S := Lib.hid (S.out.keep hg)
        have G := Lib.hid hg
        have R := Lib.hid hR
        have c0 := cell_of hR 0 rfl
        have c1 := cell_of hR 1 rfl
        have c2 := cell_of hR 2 rfl
        clear hR hg HN
        go_wp2_with fail
        go_quiet (fail)
        go_wp2_with fail
        replace S := Lib.hid (S.out.keep (grow_drewN (World.grownBy.refl w1 _) nq))
        replace G := Lib.hid (grow_drewN G.out nq)
        replace R : Hid (Rd (w1.drewN nq) g a b.length c m 0 0) := R
        have lw1 : w.heap.size ≤ (w1.drewN nq).heap.size := G.out.size
        clear c0 c1 c2
        generalize w1.drewN nq = w2 at *
        have c0 := cell_of R.out 0 rfl
        have c1 := cell_of R.out 1 rfl
        have hc1 := fun W : World => run_cutfrom eltB W a b.length c .i64 m hmn
        simp only [hL] at hc1
        have hc2 := fun W : World => run_cutto eltB W (adv a c m) L (c - m) .u64 v (by have := S.out.now.1.le; omega)
        have z1 := (S.out.now.1.from m hmn).upto v (by omega)
        rw [HK.out] at z1
        have HC := Lib.hid (clone_any (adv a c m) v (c - m) key (w2.drewN 1) (by have := V64.out; omega) (z1.drewN 1))
        clear z1
        go_still_tail 11, (by kernel_rfl)
        change wpList _ _ _ _ _ w2.drew
        go_wp2_with fail
        refine HC.out.mono ?_
        rintro r w3 ⟨_, rfl, ho, hb⟩
        · obtain ⟨ak, nk, ck, rfl, zk⟩ := ho.slN
          obtain rfl : nk = v := by rw [← zk.len]; exact hkl
          replace S := Lib.hid ((S.out.keep (grow_drewN (World.grownBy.refl w2 _) 1)).below hb)
          replace G := Lib.hid (Lib.grownBy_trans (grow_drewN G.out 1) (grow_below hb _))
          have R3 := Lib.hid (show Rd w3 g a b.length c m 0 0 from Rd.keep (w := w2.drewN 1) R.out hb)
          have O := Lib.hid (ho.base lw1)
          have lw3 : w2.heap.size ≤ w3.heap.size := hb.size
          clear c0 c1 hc1 hc2 HC ho hb zk R
          have c1 := cell_of R3.out 1 rfl
          have f1 := free_block R3.out 1
          have e4 : ((m : Int) + nk) = ((m + nk : Nat) : Int) := by omega
          obtain ⟨M, hM⟩ : ∃ M, m + nk = M := ⟨_, rfl⟩
          rw [hM] at e4 FIN
          have hMn : M ≤ b.length := by omega
          have R4 := Lib.hid (show Rd (w3.setCell ⟨g, 1, none⟩ (.int .i64 (M : Nat))) g a b.length c M 0 0 from set_block (i := 1) R3.out (.int .i64 (M : Nat)))
          have hg4 := Lib.grownBy_setB (World.grownBy.refl w3 (some g)) 1 (.int .i64 (M : Nat))
          replace S := Lib.hid (S.out.keep hg4)
          replace G := Lib.hid (Lib.grownBy_trans G.out hg4)
          replace O := Lib.hid (O.out.grown hg4 (.inr fun e => by have := (O.out.lt g e.symm).1; omega))
          clear hg4
          go_upto_region 12 with (fail)
          generalize w3.setCell ⟨g, 1, none⟩ (.int .i64 (M : Nat)) = w4 at *
          have HA := Lib.hid (aboveR_any al nl cl rs ak nk ck key w4 hnl S.out.now.2 O.out.slI)
          have c2 := cell_of R4.out 2 rfl
          clear c1 f1 e4 R3 r1 r2 t3 t4 t5 t7 t8 hL hM hkl HK S
          rcases FIN.out with ⟨hu, rfl, rfl, rfl⟩ | ⟨hu, rfl, rfl, rfl⟩
          · rw [hu] at HA
            have HF := Lib.hid (fails0_any g a b.length c M 72 q w4 R4.out)
            clear hu FIN
            go_wp2_with fail
            refine HA.out.mono ?_
            rintro r w' ⟨rfl, rfl⟩
            go_wp2_with fail
            refine HF.out.mono ?_
            rintro r w5 ⟨rfl, hr, hg⟩
            have R5 := Lib.hid hr
            have G5 := Lib.hid (Lib.grownBy_trans G.out hg)
            clear hr hg c2
            go_wp2_with fail
            go_ret
            exact ⟨ak, nk, ck, rfl, G5.out, fun h => (by cases h), fun _ => ⟨M, hMn, R5.out⟩⟩
          · rw [hu] at HA
            clear hu FIN
            go_wp2_with fail
            refine HA.out.mono ?_
            rintro r w' ⟨rfl, rfl⟩
            go_wp2_with fail
            go_ret
            exact ⟨ak, nk, ck, rfl, G.out, O.out, R4.out⟩
  · obtain ⟨m, hm⟩ : ∃ m, p + d = m := ⟨_, rfl⟩
    have HN := Lib.hid (fnumber_no g a b.length c p b w (by omega) hp H.out (S.out.imp fun _ h => h.1) hr he hm)
    rw [fky_no hr he, hm] at hk
    simp only [Prod.mk.injEq] at hk
    obtain ⟨rfl, rfl, rfl⟩ := hk
    have t1 : (e0 != 0) = true := by rw [bne_iff_ne]; exact he
    have HE := Lib.hid he
    clear hr he hm
    go_enter Tryz.func127, Tryz.ntmps127
    go_wp2_with fail
    refine HN.out.mono ?_
    rintro r w1 ⟨rfl, hR, hg⟩
    have G := Lib.hid hg
    have R := Lib.hid hR
    have c2 := cell_of hR 2 rfl
    clear hR hg HN
    go_wp2_with fail
    go_ret
    exact ⟨none, 0, 0, rfl, G.out, fun h => absurd h HE.out, fun _ => ⟨p, hp, R.out⟩⟩
end Go.Proofs.YtljcogimeimknaaGreat
/- The reader of a foot: contract of row. Conditions: the bytes within reach. Written by a program of this place (gen_FootRow.py). -/
namespace Go.Proofs.YtljcogimeimknaaGreat
set_option linter.unusedVariables false
open Go.RowKit
attribute [local go_sem] run_store_fn

/-- what is left of a row behind j rules -/
def rst (b : List UInt8) (A : Int) (k : List UInt8) (X Y Z : Int) (P : Nat) : Nat → Row × Nat × Int
  | 0 => fr3 b k A P
  | 1 => fr2 b k X P
  | 2 => fr1 b k X Y P
  | _ => ((k, X, Y, Z), P, 0)
theorem grow_set {w w1 : World} {row : Option Nat} (h : w.grownBy w1 row) {b : Nat} (hb : w.heap.size ≤ b) (i : Nat) (v : Value) : w.grownBy (w1.setCell ⟨b, i, none⟩ v) row := by
  obtain ⟨h1, h2, h3, h4, h5⟩ := h
  refine ⟨h1, h2, h3, by simpa using h4, fun k hk hne => ?_⟩
  rw [Below.heap_setCell _ _ _ _ (by show k ≠ b; omega)]
  exact h5 k hk hne
theorem Rd.off {w : World} {g : Nat} {a : Option Addr} {n c p : Nat} {e q : Int} (h : Rd w g a n c p e q) {b i : Nat} {v : Value} (hne : b ≠ g) : Rd (w.setCell ⟨b, i, none⟩ v) g a n c p e q := (Below.heap_setCell w ⟨b, i, none⟩ v g (fun e => hne e.symm)).trans h
theorem Rd.off4 {w : World} {g : Nat} {a : Option Addr} {n c p : Nat} {e q : Int} (h : Rd w g a n c p e q) {b : Nat} {v0 v1 v2 v3 : Value} (hne : b ≠ g) : Rd ((((w.setCell ⟨b, 0, none⟩ v0).setCell ⟨b, 1, none⟩ v1).setCell ⟨b, 2, none⟩ v2).setCell ⟨b, 3, none⟩ v3) g a n c p e q := (((h.off hne).off hne).off hne).off hne
theorem OwT.off1 {α : Type} {f : α → List Value} {w : World} {base : Nat} {e : TypeId} {v : Value} {xs : List α} (h : OwT f w base e v xs) {b i : Nat} {u : Value} (hne : Off v b) : OwT f (w.setCell ⟨b, i, none⟩ u) base e v xs := h.of_block fun j hj => Below.heap_setCell w ⟨b, i, none⟩ u j (hne j hj)
theorem OwT.off4 {α : Type} {f : α → List Value} {w : World} {base : Nat} {e : TypeId} {v : Value} {xs : List α} (h : OwT f w base e v xs) {b : Nat} {v0 v1 v2 v3 : Value} (hne : Off v b) : OwT f ((((w.setCell ⟨b, 0, none⟩ v0).setCell ⟨b, 1, none⟩ v1).setCell ⟨b, 2, none⟩ v2).setCell ⟨b, 3, none⟩ v3) base e v xs := (((h.off1 hne).off1 hne).off1 hne).off1 hne
theorem four_set {w : World} {g : Nat} {t : TypeId} {v0 v1 v2 v3 s x y z : Value} (h : w.heap[g]? = some (.cells #[v0, v1, v2, v3] t (0, 0))) :
    (w.cell? ⟨g, 0, none⟩ = some v0 ∧ w.frozen? ⟨g, 0, none⟩ = false) ∧ ((w.setCell ⟨g, 0, none⟩ s).cell? ⟨g, 1, none⟩ = some v1 ∧ (w.setCell ⟨g, 0, none⟩ s).frozen? ⟨g, 1, none⟩ = false) ∧
    (((w.setCell ⟨g, 0, none⟩ s).setCell ⟨g, 1, none⟩ x).cell? ⟨g, 2, none⟩ = some v2 ∧ ((w.setCell ⟨g, 0, none⟩ s).setCell ⟨g, 1, none⟩ x).frozen? ⟨g, 2, none⟩ = false) ∧
    ((((w.setCell ⟨g, 0, none⟩ s).setCell ⟨g, 1, none⟩ x).setCell ⟨g, 2, none⟩ y).cell? ⟨g, 3, none⟩ = some v3 ∧ (((w.setCell ⟨g, 0, none⟩ s).setCell ⟨g, 1, none⟩ x).setCell ⟨g, 2, none⟩ y).frozen? ⟨g, 3, none⟩ = false) ∧
    ((((w.setCell ⟨g, 0, none⟩ s).setCell ⟨g, 1, none⟩ x).setCell ⟨g, 2, none⟩ y).setCell ⟨g, 3, none⟩ z).heap[g]? = some (.cells #[s, x, y, z] t (0, 0)) := by
  have h1 : (w.setCell ⟨g, 0, none⟩ s).heap[g]? = some (.cells #[s, v1, v2, v3] t (0, 0)) := set_block (i := 0) h s
  have h2 : ((w.setCell ⟨g, 0, none⟩ s).setCell ⟨g, 1, none⟩ x).heap[g]? = some (.cells #[s, x, v2, v3] t (0, 0)) := set_block (i := 1) h1 x
  have h3 : (((w.setCell ⟨g, 0, none⟩ s).setCell ⟨g, 1, none⟩ x).setCell ⟨g, 2, none⟩ y).heap[g]? = some (.cells #[s, x, y, v3] t (0, 0)) := set_block (i := 2) h2 y
  exact ⟨⟨cell_of h 0 rfl, free_block h 0⟩, ⟨cell_of h1 1 rfl, free_block h1 1⟩, ⟨cell_of h2 2 rfl, free_block h2 2⟩, ⟨cell_of h3 3 rfl, free_block h3 3⟩, set_block (i := 3) h3 z⟩
set_option maxHeartbeats 40000000 in
set_option maxRecDepth 100000 in
theorem row_any (g : Nat) (a : Option Addr) (n c p : Nat) (b : List UInt8) (al : Option Addr) (nl cl : Nat) (rs : List Row) (w : World) (hn : n ≤ 1000000000000000) (hp : p ≤ n) (hnl : nl ≤ 140737488351232) (hA : 8 ≤ endR rs ∧ endR rs ≤ 4611686018427387904) (h : Rd w g a n c p 0 0)
    (hs : StabG g w (fun W => Sl Bf W a n c b ∧ Spans W al nl cl rs)) {r : Row} {q : Nat} {e : Int} (hr : frow b rs p = (r, q, e)) :
    Calls Tryz.prog 83 #[.pointer (some ⟨g, 0, none⟩), .slice al nl cl, .agg #[(.func (.func 121) #[] #[]), (.func (.func 122) #[] #[]), .int .i64 73, (.func (.func 123) #[] #[]), (.func (.func 124) #[] #[]), .int .i64 74, (.func (.func 125) #[] #[]), (.func (.func 126) #[] #[]), .int .i64 75]] w fun ret w' => ∃ x : RV, ret = .returned (.agg #[.slice x.1.1 x.1.2.1 x.1.2.2, .int .i64 x.2.1, .int .i64 x.2.2.1, .int .i64 x.2.2.2]) ∧ w.grownBy w' (some g) ∧
      (e = 0 → x.2 = r.2 ∧ OwT fB w' w.heap.size 5 (.slice x.1.1 x.1.2.1 x.1.2.2) r.1 ∧ Rd w' g a n c q 0 0) ∧ (e ≠ 0 → ∃ p', p' ≤ n ∧ Rd w' g a n c p' e (q : Nat)) := by
  obtain rfl : n = b.length := hs.now.1.len.symm
  obtain ⟨⟨k, qk, ek⟩, hk⟩ : ∃ X, fky b rs p = X := ⟨_, rfl⟩
  obtain ⟨A, hAe⟩ : ∃ A, endR rs = A := ⟨_, rfl⟩
  have HA := Lib.hid hAe
  rw [hAe] at hA
  clear hAe
  have S := Lib.hid hs
  have R := Lib.hid h
  have lg := h.lt
  have hb0 : Below w.heap.size w ((w.alloc (.cells #[(.func (.func 121) #[] #[]), (.func (.func 122) #[] #[]), .int .i64 73, (.func (.func 123) #[] #[]), (.func (.func 124) #[] #[]), .int .i64 74, (.func (.func 125) #[] #[]), (.func (.func 126) #[] #[]), .int .i64 75] 149)).alloc (.cells #[.slice none 0 0, .int .i64 0, .int .i64 0, .int .i64 0] 94)) := ((Below.refl _ _).alloc (Nat.le_refl _) _).alloc (by simp) _
  have T := Lib.hid ((Stab.new w (.cells #[(.func (.func 121) #[] #[]), (.func (.func 122) #[] #[]), .int .i64 73, (.func (.func 123) #[] #[]), (.func (.func 124) #[] #[]), .int .i64 74, (.func (.func 125) #[] #[]), (.func (.func 126) #[] #[]), .int .i64 75] 149)).alloc (.cells #[.slice none 0 0, .int .i64 0, .int .i64 0, .int .i64 0] 94))
  have U := Lib.hid (Stab.new (w.alloc (.cells #[(.func (.func 121) #[] #[]), (.func (.func 122) #[] #[]), .int .i64 73, (.func (.func 123) #[] #[]), (.func (.func 124) #[] #[]), .int .i64 74, (.func (.func 125) #[] #[]), (.func (.func 126) #[] #[]), .int .i64 75] 149)) (.cells #[.slice none 0 0, .int .i64 0, .int .i64 0, .int .i64 0] 94))
  have B0 := Lib.hid hb0
  clear hs h hb0
  go_enter Tryz.func83, Tryz.ntmps83
  go_upto_region 1 with (fail)
  generalize hw1 : (w.alloc (.cells #[(.func (.func 121) #[] #[]), (.func (.func 122) #[] #[]), .int .i64 73, (.func (.func 123) #[] #[]), (.func (.func 124) #[] #[]), .int .i64 74, (.func (.func 125) #[] #[]), (.func (.func 126) #[] #[]), .int .i64 75] 149)).alloc (.cells #[.slice none 0 0, .int .i64 0, .int .i64 0, .int .i64 0] 94) = w1 at *
  have e6 : (w.alloc (.cells #[(.func (.func 121) #[] #[]), (.func (.func 122) #[] #[]), .int .i64 73, (.func (.func 123) #[] #[]), (.func (.func 124) #[] #[]), .int .i64 74, (.func (.func 125) #[] #[]), (.func (.func 126) #[] #[]), .int .i64 75] 149)).heap.size = w.heap.size + 1 := by simp
  rw [e6] at U
  obtain ⟨g5, hg5⟩ : ∃ g, w.heap.size = g := ⟨_, rfl⟩
  obtain ⟨g6, hg6⟩ : ∃ g, w.heap.size + 1 = g := ⟨_, rfl⟩
  have T0 : Hid (w1.heap[g5]? = some (.cells #[(.func (.func 121) #[] #[]), (.func (.func 122) #[] #[]), .int .i64 73, (.func (.func 123) #[] #[]), (.func (.func 124) #[] #[]), .int .i64 74, (.func (.func 125) #[] #[]), (.func (.func 126) #[] #[]), .int .i64 75] 149 (0, 0))) := Lib.hid (hg5 ▸ T.out.now)
  have U0 : Hid (w1.heap[g6]? = some (.cells #[.slice none 0 0, .int .i64 0, .int .i64 0, .int .i64 0] 94 (0, 0))) := Lib.hid (hg6 ▸ U.out.now)
  rw [hg6, hg5]
  have n5 : g5 ≠ g := by omega
  have n6 : g6 ≠ g := by omega
  have HG5 := Lib.hid hg5
  have HG6 := Lib.hid hg6
  have l6 : g6 < w1.heap.size := (Array.getElem?_eq_some_iff.1 U0.out).1
  clear T U e6 hg5 hg6 hw1
  have G := Lib.hid (grow_below B0.out (some g))
  have HK := Lib.hid (key_any g a b.length c p b al nl cl rs w1 hn hp hnl (R.out.keep B0.out) (S.out.keep G.out) hk)
  go_wp2_with fail
  refine HK.out.mono ?_
  rintro ret w2 ⟨ak, nk, ck, rfl, hg, hk0, hk1⟩
  have T := Lib.hid (StabG.block T0.out n5 w2 hg)
  have U := Lib.hid (StabG.block U0.out n6 w2 hg)
  have HK0 := Lib.hid hk0
  have HK1 := Lib.hid hk1
  replace G := Lib.hid (Lib.grownBy_trans G.out hg)
  have lw1 := B0.out.size
  have lw2 := hg.size
  have T2 := Lib.hid (show (w2.alloc (.cells #[.slice ak nk ck, .int .i64 0, .int .i64 0, .int .i64 0] 94)).heap[g5]? = some (.cells #[(.func (.func 121) #[] #[]), (.func (.func 122) #[] #[]), .int .i64 73, (.func (.func 123) #[] #[]), (.func (.func 124) #[] #[]), .int .i64 74, (.func (.func 125) #[] #[]), (.func (.func 126) #[] #[]), .int .i64 75] 149 (0, 0)) from (Stab.block T.out).alloc (.cells #[.slice ak nk ck, .int .i64 0, .int .i64 0, .int .i64 0] 94) |>.now)
  have U2 := Lib.hid (show (w2.alloc (.cells #[.slice ak nk ck, .int .i64 0, .int .i64 0, .int .i64 0] 94)).heap[g6]? = some (.cells #[.slice none 0 0, .int .i64 0, .int .i64 0, .int .i64 0] 94 (0, 0)) from (Stab.block U.out).alloc (.cells #[.slice ak nk ck, .int .i64 0, .int .i64 0, .int .i64 0] 94) |>.now)
  have X := Lib.hid (heap_new w2 (.cells #[.slice ak nk ck, .int .i64 0, .int .i64 0, .int .i64 0] 94))
  have B2 := Lib.hid ((Below.refl w2.heap.size w2).alloc (Nat.le_refl _) (.cells #[.slice ak nk ck, .int .i64 0, .int .i64 0, .int .i64 0] 94))
  clear hg hk0 hk1 T U T0 U0 HK
  go_upto_region 2 with (fail)
  obtain ⟨gx, hgx⟩ : ∃ g, w2.heap.size = g := ⟨_, rfl⟩
  rw [hgx] at X ⊢
  have n7 : gx ≠ g := by omega
  have n8 : w1.heap.size ≤ gx := by omega
  have n9 : g6 ≠ gx := by omega
  have HGX := Lib.hid hgx
  clear hgx
  have lxw : w.heap.size ≤ gx := by omega
  have l6w : w.heap.size ≤ g6 := by have := HG6.out; omega
  generalize w2.alloc (.cells #[.slice ak nk ck, .int .i64 0, .int .i64 0, .int .i64 0] 94) = w3 at *
  have d0 := cell_of T2.out 0 rfl
  have d1 := cell_of T2.out 1 rfl
  have d2 := cell_of T2.out 2 rfl
  have d3 := cell_of T2.out 3 rfl
  have d4 := cell_of T2.out 4 rfl
  have d5 := cell_of T2.out 5 rfl
  have d6 := cell_of T2.out 6 rfl
  have d7 := cell_of T2.out 7 rfl
  have d8 := cell_of T2.out 8 rfl
  go_wp2_with fail
  go_loopw [17] (fun i wr => ∃ j : Nat, j ≤ 3 ∧ i = .int .i64 j ∧ ∃ (X Y Z : Int) (P : Nat) (E : Int) (Q : Nat), P ≤ b.length ∧ Rd wr g a b.length c P E Q ∧ w.grownBy wr (some g) ∧ wr.heap[gx]? = some (.cells #[.slice ak nk ck, .int .i64 X, .int .i64 Y, .int .i64 Z] 94 (0, 0)) ∧ wr.heap[g6]? = some (.cells #[.slice none 0 0, .int .i64 0, .int .i64 0, .int .i64 0] 94 (0, 0)) ∧
      (E = 0 → Q = 0 ∧ (OwT fB wr w1.heap.size 5 (.slice ak nk ck) k ∧ Off (.slice ak nk ck) gx) ∧ (1 ≤ j → X = A) ∧ rst b A k X Y Z P j = (r, q, e)) ∧ (E ≠ 0 → E = e ∧ Q = q)) (fun i _ => 3 - (intOf i).toNat)
  case atStart =>
    by_cases he : ek = 0
    · subst he
      obtain ⟨ho, hR⟩ := HK0.out rfl
      rw [frow_go hk, HA.out] at hr
      refine ⟨0, by omega, rfl, 0, 0, 0, qk, 0, 0, (fky_in hp hk).1, hR.keep B2.out, Lib.grownBy_below G.out B2.out, X.out, U2.out, fun _ => ⟨rfl, ⟨ho.keep B2.out, fun j hj => ?_⟩, fun h => (by omega), hr⟩, fun h => absurd rfl h⟩
      have := (ho.lt j hj).2
      have := HGX.out
      omega
    · obtain ⟨p', hp', hR⟩ := HK1.out he
      rw [frow_no hk he] at hr
      simp only [Prod.mk.injEq] at hr
      obtain ⟨_, rfl, rfl⟩ := hr
      exact ⟨0, by omega, rfl, 0, 0, 0, p', ek, qk, hp', hR.keep B2.out, Lib.grownBy_below G.out B2.out, X.out, U2.out, fun h => absurd h he, fun _ => ⟨rfl, rfl⟩⟩
  case round =>
    obtain ⟨j, hj, rfl, X1, Y1, Z1, P, E, Q, hP, hR, hG, hX, hU, h0, h1⟩ := hrel
    clear T2 U2 X B2 HK0 HK1 d0 d1 d2 d3 d4 d5 d6 d7 d8 G
    have R1 := Lib.hid hR
    have G := Lib.hid hG
    have X := Lib.hid hX
    have U := Lib.hid hU
    have H0 := Lib.hid h0
    have H1 := Lib.hid h1
    clear hR hG hX hU h0 h1
    rcases (by omega : j = 0 ∨ j = 1 ∨ j = 2 ∨ j = 3) with rfl | rfl | rfl | rfl

    · have ix : ∀ W, (Instr.index 149 (.agg #[(.func (.func 121) #[] #[]), (.func (.func 122) #[] #[]), .int .i64 73, (.func (.func 123) #[] #[]), (.func (.func 124) #[] #[]), .int .i64 74, (.func (.func 125) #[] #[]), (.func (.func 126) #[] #[]), .int .i64 75]) (.int .i64 0)).run Tryz.prog W = .ok (.agg #[(.func (.func 121) #[] #[]), (.func (.func 122) #[] #[]), .int .i64 73]) W := fun _ => by kernel_rfl
      have T := Lib.hid (Stab.new wr (.cells #[(.func (.func 121) #[] #[]), (.func (.func 122) #[] #[]), .int .i64 73] 148))
      have BA := Lib.hid ((Below.refl wr.heap.size wr).alloc (Nat.le_refl _) (.cells #[(.func (.func 121) #[] #[]), (.func (.func 122) #[] #[]), .int .i64 73] 148))
      go_upto_region 5 with (fail)
      obtain ⟨g9, hg⟩ : ∃ g, wr.heap.size = g := ⟨_, rfl⟩
      rw [hg] at T ⊢
      have L9 := Lib.hid hg
      clear hg ix
      generalize wr.alloc (.cells #[(.func (.func 121) #[] #[]), (.func (.func 122) #[] #[]), .int .i64 73] 148) = w5 at *
      replace R1 := Lib.hid (R1.out.keep BA.out)
      replace G := Lib.hid (Lib.grownBy_below G.out BA.out)
      have lgx : gx < wr.heap.size := (Array.getElem?_eq_some_iff.1 X.out).1
      have lg6 : g6 < wr.heap.size := (Array.getElem?_eq_some_iff.1 U.out).1
      have lg9 : g9 = wr.heap.size := L9.out.symm
      replace X := Lib.hid ((BA.out.block gx lgx).trans X.out)
      replace U := Lib.hid ((BA.out.block g6 lg6).trans U.out)
      have c2 := cell_of R1.out 2 rfl
      have n10 : g9 ≠ g := by have := lg; have : w.heap.size ≤ wr.heap.size := Nat.le_trans (by omega) (Nat.le_of_lt lg6); omega
      have n11 : g9 ≠ gx := by omega
      have n12 : g9 ≠ g6 := by omega
      clear lg9
      by_cases hE : E = 0
      · subst hE
        obtain ⟨rfl, ⟨ho, hoff⟩, hXA, hrest⟩ := H0.out rfl
        have O := Lib.hid (ho.keep BA.out)
        have OF := Lib.hid hoff
        obtain ⟨⟨v, d, e1⟩, hrd⟩ : ∃ Y, rd (b.drop P) 0 0 = Y := ⟨_, rfl⟩
        obtain ⟨m, hm⟩ : ∃ m, P + d = m := ⟨_, rfl⟩
        have hr0 : fr3 b k A P = (r, q, e) := hrest
        clear H0 H1 hXA hrest ho hoff BA lgx lg6
        by_cases he1 : e1 = 0
        · subst he1
          have HN := Lib.hid (number_ok g a b.length c P b w5 hn hP R1.out ((S.out.imp fun _ h => h.1).keep G.out) hrd hm)
          obtain ⟨hd, hv⟩ := rd_in hrd
          rw [List.length_drop] at hd
          have hmn : m ≤ b.length := by omega
          obtain ⟨t, ht⟩ : ∃ t, ((v : Int) == A) = t := ⟨_, rfl⟩
          obtain ⟨V, hV⟩ : ∃ V, IntKind.i64.wrap (v : Int) = V := ⟨_, rfl⟩
          have hfin : t = true ∧ (V = (v : Int) ∧ (v : Int) = A ∧ fr2 b k A m = (r, q, e)) ∨ t = false ∧ ((r, q, e) = (dr, P, (73 : Int))) := by
            rcases t with _ | _
            · rw [beq_eq_false_iff_ne] at ht
              rw [fr3_bad hrd ht] at hr0
              exact .inr ⟨rfl, hr0.symm⟩
            · rw [beq_iff_eq] at ht
              rw [fr3_ok hrd ht, hm] at hr0
              exact .inl ⟨rfl, by rw [← hV]; exact IntWalk.i64_in _ (by omega), ht, hr0⟩
          have HM := Lib.hid (fun W : World => ht ▸ may2_any (v : Int) A W (by omega))
          have FIN := Lib.hid hfin
          clear ht hfin hr0 hrd hd hv hm
          go_wp2_with fail
          refine HN.out.mono ?_
          rintro ret w6 ⟨rfl, hR, hg⟩
          have R6 := Lib.hid hR
          replace T := Lib.hid (StabG.block T.out.now n10 w6 hg)
          replace X := Lib.hid (StabG.block X.out n7 w6 hg)
          replace U := Lib.hid (StabG.block U.out n6 w6 hg)
          replace G := Lib.hid (Lib.grownBy_trans G.out hg)
          replace O := Lib.hid (O.out.grown hg (.inr fun e => by have := (O.out.lt g e.symm).1; omega))
          clear HN hR hg c2 R1
          have r1 : w6.cell? ⟨g9, 1, none⟩ = some (.func (.func 122) #[] #[]) := cell_of T.out 1 rfl
          have r1d : w6.drew.cell? ⟨g9, 1, none⟩ = some (.func (.func 122) #[] #[]) := r1
          have HE6 := Lib.hid (endR_any al nl cl rs w6.drew hnl (S.out _ (grow_drewN G.out 1)).2 (by rw [HA.out]; omega))
          rw [HA.out] at HE6
          go_wp2_with fail
          go_region_held3 (fun w' => w'.cell? ⟨g9, 1, none⟩ = some (.func (.func 122) #[] #[])) (first | go_keep | assumption) (first | (go_at_call 128; refine HE6.out.mono ?_; rintro ret w7 ⟨rfl, hb7⟩; have q7 : w7.cell? ⟨g9, 1, none⟩ = some (.func (.func 122) #[] #[]) := cell_of (Stab.keep (w := w6.drew) (Stab.block T.out) hb7).now 1 rfl; have B7 := Lib.hid hb7; clear hb7) | (go_at_call 122; refine (HM.out _).mono ?_; rintro ret w' ⟨rfl, rfl⟩))
          replace R6 := Lib.hid (Rd.keep (w := w6.drew) R6.out B7.out)
          replace T := Lib.hid (Stab.keep (w := w6.drew) (Stab.block T.out) B7.out).now
          replace X := Lib.hid (Stab.keep (w := w6.drew) (Stab.block X.out) B7.out).now
          replace U := Lib.hid (Stab.keep (w := w6.drew) (Stab.block U.out) B7.out).now
          replace G := Lib.hid (Lib.grownBy_below (grow_drewN G.out 1) B7.out)
          replace O := Lib.hid (OwT.keep (w := w6.drew) O.out B7.out)
          clear B7 HE6 HM r1 r1d q7
          rcases FIN.out with ⟨rfl, hq⟩ | ⟨rfl, hq⟩
          · have FQ := Lib.hid hq
            clear hq FIN
            have r0 := cell_of T.out 0 rfl
            have x1 := cell_of X.out 1 rfl
            have fx := free_block X.out 1
            have X9 := Lib.hid (show (w7.setCell ⟨gx, 1, none⟩ (.int .i64 V)).heap[gx]? = some (.cells #[.slice ak nk ck, .int .i64 V, .int .i64 Y1, .int .i64 Z1] 94 (0, 0)) from set_block (i := 1) X.out (.int .i64 V))
            go_wp2_with fail
            refine (of1_any gx _).mono ?_
            rintro ret w' ⟨rfl, rfl⟩
            go_wp2_with fail
            go_roundw
            case rel => exact ⟨1, by omega, rfl, V, Y1, Z1, m, 0, 0, hmn, Rd.off R6.out n7, grow_set G.out lxw 1 _, X9.out, (Below.heap_setCell w7 ⟨gx, 1, none⟩ _ g6 n9).trans U.out, fun _ => ⟨rfl, ⟨O.out.off1 OF.out, OF.out⟩, fun _ => FQ.out.1.trans FQ.out.2.1, by have := FQ.out.2.2; rw [← FQ.out.2.1, ← FQ.out.1] at this; exact this⟩, fun h => absurd rfl h⟩
            case measure => simp [intOf]
          · simp only [Prod.mk.injEq] at hq
            obtain ⟨_, rfl, rfl⟩ := hq
            clear FIN
            have r0 := cell_of T.out 0 rfl
            have r2 := cell_of T.out 2 rfl
            have HF := Lib.hid (fails0_any g a b.length c m 73 q w7 R6.out)
            go_wp2_with fail
            refine HF.out.mono ?_
            rintro ret w8 ⟨rfl, hr, hg⟩
            have R8 := Lib.hid hr
            replace T := Lib.hid (StabG.block T.out n10 w8 hg)
            replace X := Lib.hid (StabG.block X.out n7 w8 hg)
            replace U := Lib.hid (StabG.block U.out n6 w8 hg)
            replace G := Lib.hid (Lib.grownBy_trans G.out hg)
            clear r0 r2 hr hg HF O R6
            have r0 := cell_of T.out 0 rfl
            have x1 := cell_of X.out 1 rfl
            have fx := free_block X.out 1
            have X9 := Lib.hid (show (w8.setCell ⟨gx, 1, none⟩ (.int .i64 V)).heap[gx]? = some (.cells #[.slice ak nk ck, .int .i64 V, .int .i64 Y1, .int .i64 Z1] 94 (0, 0)) from set_block (i := 1) X.out (.int .i64 V))
            go_wp2_with fail
            refine (of1_any gx _).mono ?_
            rintro ret w' ⟨rfl, rfl⟩
            go_wp2_with fail
            go_roundw
            case rel => exact ⟨1, by omega, rfl, V, Y1, Z1, m, 73, q, hmn, Rd.off R8.out n7, grow_set G.out lxw 1 _, X9.out, (Below.heap_setCell w8 ⟨gx, 1, none⟩ _ g6 n9).trans U.out, (fun h => by cases h), fun _ => ⟨rfl, rfl⟩⟩
            case measure => simp [intOf]
        · rw [fr3_no hrd he1, hm] at hr0
          simp only [Prod.mk.injEq] at hr0
          obtain ⟨_, rfl, rfl⟩ := hr0
          have HN := Lib.hid (fnumber_no g a b.length c P b w5 hn hP R1.out ((S.out.imp fun _ h => h.1).keep G.out) hrd he1 hm)
          have ht : ((0 : Int) == A) = false := by rw [beq_eq_false_iff_ne]; omega
          have HM := Lib.hid (fun W : World => ht ▸ may2_any 0 A W (by omega))
          have HE1 := Lib.hid he1
          clear ht hrd he1 hm
          go_wp2_with fail
          refine HN.out.mono ?_
          rintro ret w6 ⟨rfl, hR, hg⟩
          have R6 := Lib.hid hR
          replace T := Lib.hid (StabG.block T.out.now n10 w6 hg)
          replace X := Lib.hid (StabG.block X.out n7 w6 hg)
          replace U := Lib.hid (StabG.block U.out n6 w6 hg)
          replace G := Lib.hid (Lib.grownBy_trans G.out hg)
          clear HN hR hg c2 R1 O OF
          have r1 : w6.cell? ⟨g9, 1, none⟩ = some (.func (.func 122) #[] #[]) := cell_of T.out 1 rfl
          have r1d : w6.drew.cell? ⟨g9, 1, none⟩ = some (.func (.func 122) #[] #[]) := r1
          have HE6 := Lib.hid (endR_any al nl cl rs w6.drew hnl (S.out _ (grow_drewN G.out 1)).2 (by rw [HA.out]; omega))
          rw [HA.out] at HE6
          go_wp2_with fail
          go_region_held3 (fun w' => w'.cell? ⟨g9, 1, none⟩ = some (.func (.func 122) #[] #[])) (first | go_keep | assumption) (first | (go_at_call 128; refine HE6.out.mono ?_; rintro ret w7 ⟨rfl, hb7⟩; have q7 : w7.cell? ⟨g9, 1, none⟩ = some (.func (.func 122) #[] #[]) := cell_of (Stab.keep (w := w6.drew) (Stab.block T.out) hb7).now 1 rfl; have B7 := Lib.hid hb7; clear hb7) | (go_at_call 122; refine (HM.out _).mono ?_; rintro ret w' ⟨rfl, rfl⟩))
          replace R6 := Lib.hid (Rd.keep (w := w6.drew) R6.out B7.out)
          replace T := Lib.hid (Stab.keep (w := w6.drew) (Stab.block T.out) B7.out).now
          replace X := Lib.hid (Stab.keep (w := w6.drew) (Stab.block X.out) B7.out).now
          replace U := Lib.hid (Stab.keep (w := w6.drew) (Stab.block U.out) B7.out).now
          replace G := Lib.hid (Lib.grownBy_below (grow_drewN G.out 1) B7.out)
          clear B7 HE6 HM r1 r1d q7
          have r0 := cell_of T.out 0 rfl
          have r2 := cell_of T.out 2 rfl
          have x1 := cell_of X.out 1 rfl
          have fx := free_block X.out 1
          have X9 := Lib.hid (show (w7.setCell ⟨gx, 1, none⟩ (.int .i64 0)).heap[gx]? = some (.cells #[.slice ak nk ck, .int .i64 0, .int .i64 Y1, .int .i64 Z1] 94 (0, 0)) from set_block (i := 1) X.out (.int .i64 0))
          have HF := Lib.hid (failsE_any g a b.length c P e1 (m : Nat) 73 P w7 R6.out HE1.out)
          go_wp2_with fail
          refine HF.out.mono ?_
          rintro ret w' ⟨rfl, rfl⟩
          go_wp2_with fail
          refine (of1_any gx _).mono ?_
          rintro ret w' ⟨rfl, rfl⟩
          go_wp2_with fail
          go_roundw
          case rel => exact ⟨1, by omega, rfl, 0, Y1, Z1, P, e1, m, hP, Rd.off R6.out n7, grow_set G.out lxw 1 _, X9.out, (Below.heap_setCell w7 ⟨gx, 1, none⟩ _ g6 n9).trans U.out, fun h => absurd h HE1.out, fun _ => ⟨rfl, rfl⟩⟩
          case measure => simp [intOf]
      · obtain ⟨rfl, rfl⟩ := H1.out hE
        have t1 : (E != 0) = true := by rw [bne_iff_ne]; exact hE
        have HE := Lib.hid hE
        clear hE H0 H1 BA
        have x0 := cell_of X.out 0 rfl
        have x1 := cell_of X.out 1 rfl
        have x2 := cell_of X.out 2 rfl
        have x3 := cell_of X.out 3 rfl
        obtain ⟨⟨u0, f0⟩, ⟨u1, f1⟩, ⟨u2, f2⟩, ⟨u3, f3⟩, hF⟩ := four_set (s := .slice ak nk ck) (x := .int .i64 X1) (y := .int .i64 Y1) (z := .int .i64 Z1) U.out
        have y0 := cell_of hF 0 rfl
        have y1 := cell_of hF 1 rfl
        have y2 := cell_of hF 2 rfl
        have y3 := cell_of hF 3 rfl
        clear hF
        go_wp2_with fail
        refine bodyPost_ret (v := .agg #[.slice ak nk ck, .int .i64 X1, .int .i64 Y1, .int .i64 Z1]) (by simp [results, Tryz.results83, go_sem, y0, y1, y2, y3]) rfl ?_
        exact ⟨((ak, nk, ck), X1, Y1, Z1), rfl, (grow_set (grow_set (grow_set (grow_set G.out l6w 0 _) l6w 1 _) l6w 2 _) l6w 3 _), fun h => absurd h HE.out, fun _ => ⟨P, hP, Rd.off4 R1.out n6⟩⟩
    · have ix : ∀ W, (Instr.index 149 (.agg #[(.func (.func 121) #[] #[]), (.func (.func 122) #[] #[]), .int .i64 73, (.func (.func 123) #[] #[]), (.func (.func 124) #[] #[]), .int .i64 74, (.func (.func 125) #[] #[]), (.func (.func 126) #[] #[]), .int .i64 75]) (.int .i64 1)).run Tryz.prog W = .ok (.agg #[(.func (.func 123) #[] #[]), (.func (.func 124) #[] #[]), .int .i64 74]) W := fun _ => by kernel_rfl
      have T := Lib.hid (Stab.new wr (.cells #[(.func (.func 123) #[] #[]), (.func (.func 124) #[] #[]), .int .i64 74] 148))
      have BA := Lib.hid ((Below.refl wr.heap.size wr).alloc (Nat.le_refl _) (.cells #[(.func (.func 123) #[] #[]), (.func (.func 124) #[] #[]), .int .i64 74] 148))
      go_upto_region 5 with (fail)
      obtain ⟨g9, hg⟩ : ∃ g, wr.heap.size = g := ⟨_, rfl⟩
      rw [hg] at T ⊢
      have L9 := Lib.hid hg
      clear hg ix
      generalize wr.alloc (.cells #[(.func (.func 123) #[] #[]), (.func (.func 124) #[] #[]), .int .i64 74] 148) = w5 at *
      replace R1 := Lib.hid (R1.out.keep BA.out)
      replace G := Lib.hid (Lib.grownBy_below G.out BA.out)
      have lgx : gx < wr.heap.size := (Array.getElem?_eq_some_iff.1 X.out).1
      have lg6 : g6 < wr.heap.size := (Array.getElem?_eq_some_iff.1 U.out).1
      have lg9 : g9 = wr.heap.size := L9.out.symm
      replace X := Lib.hid ((BA.out.block gx lgx).trans X.out)
      replace U := Lib.hid ((BA.out.block g6 lg6).trans U.out)
      have c2 := cell_of R1.out 2 rfl
      have n10 : g9 ≠ g := by have := lg; have : w.heap.size ≤ wr.heap.size := Nat.le_trans (by omega) (Nat.le_of_lt lg6); omega
      have n11 : g9 ≠ gx := by omega
      have n12 : g9 ≠ g6 := by omega
      clear lg9
      by_cases hE : E = 0
      · subst hE
        obtain ⟨rfl, ⟨ho, hoff⟩, hXA, hrest⟩ := H0.out rfl
        have O := Lib.hid (ho.keep BA.out)
        have OF := Lib.hid hoff
        obtain ⟨⟨v, d, e1⟩, hrd⟩ : ∃ Y, rd (b.drop P) 0 0 = Y := ⟨_, rfl⟩
        obtain ⟨m, hm⟩ : ∃ m, P + d = m := ⟨_, rfl⟩
        obtain rfl : A = X1 := (hXA (by omega)).symm
        have hr0 : fr2 b k A P = (r, q, e) := hrest
        clear H0 H1 hXA hrest ho hoff BA lgx lg6
        by_cases he1 : e1 = 0
        · subst he1
          have HN := Lib.hid (number_ok g a b.length c P b w5 hn hP R1.out ((S.out.imp fun _ h => h.1).keep G.out) hrd hm)
          obtain ⟨hd, hv⟩ := rd_in hrd
          rw [List.length_drop] at hd
          have hmn : m ≤ b.length := by omega
          obtain ⟨t, ht⟩ : ∃ t, decide ((1 : Int) ≤ (v : Int) ∧ (v : Int) ≤ 131072) = t := ⟨_, rfl⟩
          obtain ⟨V, hV⟩ : ∃ V, IntKind.i64.wrap (v : Int) = V := ⟨_, rfl⟩
          have hfin : t = true ∧ (V = (v : Int) ∧ fr1 b k A (v : Int) m = (r, q, e)) ∨ t = false ∧ ((r, q, e) = (dr, P, (74 : Int))) := by
            rcases t with _ | _
            · rw [decide_eq_false_iff_not] at ht
              rw [fr2_bad hrd (by omega)] at hr0
              exact .inr ⟨rfl, hr0.symm⟩
            · rw [decide_eq_true_eq] at ht
              rw [fr2_ok hrd (by omega), hm] at hr0
              exact .inl ⟨rfl, by rw [← hV]; exact IntWalk.i64_in _ (by omega), hr0⟩
          have HM := Lib.hid (fun W : World => ht ▸ may4_any (v : Int) A W (by omega))
          have FIN := Lib.hid hfin
          clear ht hfin hr0 hrd hd hv hm
          go_wp2_with fail
          refine HN.out.mono ?_
          rintro ret w6 ⟨rfl, hR, hg⟩
          have R6 := Lib.hid hR
          replace T := Lib.hid (StabG.block T.out.now n10 w6 hg)
          replace X := Lib.hid (StabG.block X.out n7 w6 hg)
          replace U := Lib.hid (StabG.block U.out n6 w6 hg)
          replace G := Lib.hid (Lib.grownBy_trans G.out hg)
          replace O := Lib.hid (O.out.grown hg (.inr fun e => by have := (O.out.lt g e.symm).1; omega))
          clear HN hR hg c2 R1
          have r1 : w6.cell? ⟨g9, 1, none⟩ = some (.func (.func 124) #[] #[]) := cell_of T.out 1 rfl
          have r1d : w6.drew.cell? ⟨g9, 1, none⟩ = some (.func (.func 124) #[] #[]) := r1
          have HE6 := Lib.hid (endR_any al nl cl rs w6.drew hnl (S.out _ (grow_drewN G.out 1)).2 (by rw [HA.out]; omega))
          rw [HA.out] at HE6
          go_wp2_with fail
          go_region_held3 (fun w' => w'.cell? ⟨g9, 1, none⟩ = some (.func (.func 124) #[] #[])) (first | go_keep | assumption) (first | (go_at_call 128; refine HE6.out.mono ?_; rintro ret w7 ⟨rfl, hb7⟩; have q7 : w7.cell? ⟨g9, 1, none⟩ = some (.func (.func 124) #[] #[]) := cell_of (Stab.keep (w := w6.drew) (Stab.block T.out) hb7).now 1 rfl; have B7 := Lib.hid hb7; clear hb7) | (go_at_call 124; refine (HM.out _).mono ?_; rintro ret w' ⟨rfl, rfl⟩))
          replace R6 := Lib.hid (Rd.keep (w := w6.drew) R6.out B7.out)
          replace T := Lib.hid (Stab.keep (w := w6.drew) (Stab.block T.out) B7.out).now
          replace X := Lib.hid (Stab.keep (w := w6.drew) (Stab.block X.out) B7.out).now
          replace U := Lib.hid (Stab.keep (w := w6.drew) (Stab.block U.out) B7.out).now
          replace G := Lib.hid (Lib.grownBy_below (grow_drewN G.out 1) B7.out)
          replace O := Lib.hid (OwT.keep (w := w6.drew) O.out B7.out)
          clear B7 HE6 HM r1 r1d q7
          rcases FIN.out with ⟨rfl, hq⟩ | ⟨rfl, hq⟩
          · have FQ := Lib.hid hq
            clear hq FIN
            have r0 := cell_of T.out 0 rfl
            have x2 := cell_of X.out 2 rfl
            have fx := free_block X.out 2
            have X9 := Lib.hid (show (w7.setCell ⟨gx, 2, none⟩ (.int .i64 V)).heap[gx]? = some (.cells #[.slice ak nk ck, .int .i64 A, .int .i64 V, .int .i64 Z1] 94 (0, 0)) from set_block (i := 2) X.out (.int .i64 V))
            go_wp2_with fail
            refine (of3_any gx _).mono ?_
            rintro ret w' ⟨rfl, rfl⟩
            go_wp2_with fail
            go_roundw
            case rel => exact ⟨2, by omega, rfl, A, V, Z1, m, 0, 0, hmn, Rd.off R6.out n7, grow_set G.out lxw 2 _, X9.out, (Below.heap_setCell w7 ⟨gx, 2, none⟩ _ g6 n9).trans U.out, fun _ => ⟨rfl, ⟨O.out.off1 OF.out, OF.out⟩, fun _ => rfl, by have := FQ.out.2; rw [← FQ.out.1] at this; exact this⟩, fun h => absurd rfl h⟩
            case measure => simp [intOf]
          · simp only [Prod.mk.injEq] at hq
            obtain ⟨_, rfl, rfl⟩ := hq
            clear FIN
            have r0 := cell_of T.out 0 rfl
            have r2 := cell_of T.out 2 rfl
            have HF := Lib.hid (fails0_any g a b.length c m 74 q w7 R6.out)
            go_wp2_with fail
            refine HF.out.mono ?_
            rintro ret w8 ⟨rfl, hr, hg⟩
            have R8 := Lib.hid hr
            replace T := Lib.hid (StabG.block T.out n10 w8 hg)
            replace X := Lib.hid (StabG.block X.out n7 w8 hg)
            replace U := Lib.hid (StabG.block U.out n6 w8 hg)
            replace G := Lib.hid (Lib.grownBy_trans G.out hg)
            clear r0 r2 hr hg HF O R6
            have r0 := cell_of T.out 0 rfl
            have x2 := cell_of X.out 2 rfl
            have fx := free_block X.out 2
            have X9 := Lib.hid (show (w8.setCell ⟨gx, 2, none⟩ (.int .i64 V)).heap[gx]? = some (.cells #[.slice ak nk ck, .int .i64 A, .int .i64 V, .int .i64 Z1] 94 (0, 0)) from set_block (i := 2) X.out (.int .i64 V))
            go_wp2_with fail
            refine (of3_any gx _).mono ?_
            rintro ret w' ⟨rfl, rfl⟩
            go_wp2_with fail
            go_roundw
            case rel => exact ⟨2, by omega, rfl, A, V, Z1, m, 74, q, hmn, Rd.off R8.out n7, grow_set G.out lxw 2 _, X9.out, (Below.heap_setCell w8 ⟨gx, 2, none⟩ _ g6 n9).trans U.out, (fun h => by cases h), fun _ => ⟨rfl, rfl⟩⟩
            case measure => simp [intOf]
        · rw [fr2_no hrd he1, hm] at hr0
          simp only [Prod.mk.injEq] at hr0
          obtain ⟨_, rfl, rfl⟩ := hr0
          have HN := Lib.hid (fnumber_no g a b.length c P b w5 hn hP R1.out ((S.out.imp fun _ h => h.1).keep G.out) hrd he1 hm)
          have ht : decide ((1 : Int) ≤ 0 ∧ (0 : Int) ≤ 131072) = false := by decide
          have HM := Lib.hid (fun W : World => ht ▸ may4_any 0 A W (by omega))
          have HE1 := Lib.hid he1
          clear ht hrd he1 hm
          go_wp2_with fail
          refine HN.out.mono ?_
          rintro ret w6 ⟨rfl, hR, hg⟩
          have R6 := Lib.hid hR
          replace T := Lib.hid (StabG.block T.out.now n10 w6 hg)
          replace X := Lib.hid (StabG.block X.out n7 w6 hg)
          replace U := Lib.hid (StabG.block U.out n6 w6 hg)
          replace G := Lib.hid (Lib.grownBy_trans G.out hg)
          clear HN hR hg c2 R1 O OF
          have r1 : w6.cell? ⟨g9, 1, none⟩ = some (.func (.func 124) #[] #[]) := cell_of T.out 1 rfl
          have r1d : w6.drew.cell? ⟨g9, 1, none⟩ = some (.func (.func 124) #[] #[]) := r1
          have HE6 := Lib.hid (endR_any al nl cl rs w6.drew hnl (S.out _ (grow_drewN G.out 1)).2 (by rw [HA.out]; omega))
          rw [HA.out] at HE6
          go_wp2_with fail
          go_region_held3 (fun w' => w'.cell? ⟨g9, 1, none⟩ = some (.func (.func 124) #[] #[])) (first | go_keep | assumption) (first | (go_at_call 128; refine HE6.out.mono ?_; rintro ret w7 ⟨rfl, hb7⟩; have q7 : w7.cell? ⟨g9, 1, none⟩ = some (.func (.func 124) #[] #[]) := cell_of (Stab.keep (w := w6.drew) (Stab.block T.out) hb7).now 1 rfl; have B7 := Lib.hid hb7; clear hb7) | (go_at_call 124; refine (HM.out _).mono ?_; rintro ret w' ⟨rfl, rfl⟩))
          replace R6 := Lib.hid (Rd.keep (w := w6.drew) R6.out B7.out)
          replace T := Lib.hid (Stab.keep (w := w6.drew) (Stab.block T.out) B7.out).now
          replace X := Lib.hid (Stab.keep (w := w6.drew) (Stab.block X.out) B7.out).now
          replace U := Lib.hid (Stab.keep (w := w6.drew) (Stab.block U.out) B7.out).now
          replace G := Lib.hid (Lib.grownBy_below (grow_drewN G.out 1) B7.out)
          clear B7 HE6 HM r1 r1d q7
          have r0 := cell_of T.out 0 rfl
          have r2 := cell_of T.out 2 rfl
          have x2 := cell_of X.out 2 rfl
          have fx := free_block X.out 2
          have X9 := Lib.hid (show (w7.setCell ⟨gx, 2, none⟩ (.int .i64 0)).heap[gx]? = some (.cells #[.slice ak nk ck, .int .i64 A, .int .i64 0, .int .i64 Z1] 94 (0, 0)) from set_block (i := 2) X.out (.int .i64 0))
          have HF := Lib.hid (failsE_any g a b.length c P e1 (m : Nat) 74 P w7 R6.out HE1.out)
          go_wp2_with fail
          refine HF.out.mono ?_
          rintro ret w' ⟨rfl, rfl⟩
          go_wp2_with fail
          refine (of3_any gx _).mono ?_
          rintro ret w' ⟨rfl, rfl⟩
          go_wp2_with fail
          go_roundw
          case rel => exact ⟨2, by omega, rfl, A, 0, Z1, P, e1, m, hP, Rd.off R6.out n7, grow_set G.out lxw 2 _, X9.out, (Below.heap_setCell w7 ⟨gx, 2, none⟩ _ g6 n9).trans U.out, fun h => absurd h HE1.out, fun _ => ⟨rfl, rfl⟩⟩
          case measure => simp [intOf]
      · obtain ⟨rfl, rfl⟩ := H1.out hE
        have t1 : (E != 0) = true := by rw [bne_iff_ne]; exact hE
        have HE := Lib.hid hE
        clear hE H0 H1 BA
        have x0 := cell_of X.out 0 rfl
        have x1 := cell_of X.out 1 rfl
        have x2 := cell_of X.out 2 rfl
        have x3 := cell_of X.out 3 rfl
        obtain ⟨⟨u0, f0⟩, ⟨u1, f1⟩, ⟨u2, f2⟩, ⟨u3, f3⟩, hF⟩ := four_set (s := .slice ak nk ck) (x := .int .i64 X1) (y := .int .i64 Y1) (z := .int .i64 Z1) U.out
        have y0 := cell_of hF 0 rfl
        have y1 := cell_of hF 1 rfl
        have y2 := cell_of hF 2 rfl
        have y3 := cell_of hF 3 rfl
        clear hF
        go_wp2_with fail
        refine bodyPost_ret (v := .agg #[.slice ak nk ck, .int .i64 X1, .int .i64 Y1, .int .i64 Z1]) (by simp [results, Tryz.results83, go_sem, y0, y1, y2, y3]) rfl ?_
        exact ⟨((ak, nk, ck), X1, Y1, Z1), rfl, (grow_set (grow_set (grow_set (grow_set G.out l6w 0 _) l6w 1 _) l6w 2 _) l6w 3 _), fun h => absurd h HE.out, fun _ => ⟨P, hP, Rd.off4 R1.out n6⟩⟩
    · have ix : ∀ W, (Instr.index 149 (.agg #[(.func (.func 121) #[] #[]), (.func (.func 122) #[] #[]), .int .i64 73, (.func (.func 123) #[] #[]), (.func (.func 124) #[] #[]), .int .i64 74, (.func (.func 125) #[] #[]), (.func (.func 126) #[] #[]), .int .i64 75]) (.int .i64 2)).run Tryz.prog W = .ok (.agg #[(.func (.func 125) #[] #[]), (.func (.func 126) #[] #[]), .int .i64 75]) W := fun _ => by kernel_rfl
      have T := Lib.hid (Stab.new wr (.cells #[(.func (.func 125) #[] #[]), (.func (.func 126) #[] #[]), .int .i64 75] 148))
      have BA := Lib.hid ((Below.refl wr.heap.size wr).alloc (Nat.le_refl _) (.cells #[(.func (.func 125) #[] #[]), (.func (.func 126) #[] #[]), .int .i64 75] 148))
      go_upto_region 5 with (fail)
      obtain ⟨g9, hg⟩ : ∃ g, wr.heap.size = g := ⟨_, rfl⟩
      rw [hg] at T ⊢
      have L9 := Lib.hid hg
      clear hg ix
      generalize wr.alloc (.cells #[(.func (.func 125) #[] #[]), (.func (.func 126) #[] #[]), .int .i64 75] 148) = w5 at *
      replace R1 := Lib.hid (R1.out.keep BA.out)
      replace G := Lib.hid (Lib.grownBy_below G.out BA.out)
      have lgx : gx < wr.heap.size := (Array.getElem?_eq_some_iff.1 X.out).1
      have lg6 : g6 < wr.heap.size := (Array.getElem?_eq_some_iff.1 U.out).1
      have lg9 : g9 = wr.heap.size := L9.out.symm
      replace X := Lib.hid ((BA.out.block gx lgx).trans X.out)
      replace U := Lib.hid ((BA.out.block g6 lg6).trans U.out)
      have c2 := cell_of R1.out 2 rfl
      have n10 : g9 ≠ g := by have := lg; have : w.heap.size ≤ wr.heap.size := Nat.le_trans (by omega) (Nat.le_of_lt lg6); omega
      have n11 : g9 ≠ gx := by omega
      have n12 : g9 ≠ g6 := by omega
      clear lg9
      by_cases hE : E = 0
      · subst hE
        obtain ⟨rfl, ⟨ho, hoff⟩, hXA, hrest⟩ := H0.out rfl
        have O := Lib.hid (ho.keep BA.out)
        have OF := Lib.hid hoff
        obtain ⟨⟨v, d, e1⟩, hrd⟩ : ∃ Y, rd (b.drop P) 0 0 = Y := ⟨_, rfl⟩
        obtain ⟨m, hm⟩ : ∃ m, P + d = m := ⟨_, rfl⟩
        obtain rfl : A = X1 := (hXA (by omega)).symm
        have hr0 : fr1 b k A Y1 P = (r, q, e) := hrest
        clear H0 H1 hXA hrest ho hoff BA lgx lg6
        by_cases he1 : e1 = 0
        · subst he1
          have HN := Lib.hid (number_ok g a b.length c P b w5 hn hP R1.out ((S.out.imp fun _ h => h.1).keep G.out) hrd hm)
          obtain ⟨hd, hv⟩ := rd_in hrd
          rw [List.length_drop] at hd
          have hmn : m ≤ b.length := by omega
          obtain ⟨t, ht⟩ : ∃ t, decide ((1 : Int) ≤ (v : Int) ∧ (v : Int) ≤ 64) = t := ⟨_, rfl⟩
          obtain ⟨V, hV⟩ : ∃ V, IntKind.i64.wrap (v : Int) = V := ⟨_, rfl⟩
          have hfin : t = true ∧ (V = (v : Int) ∧ ((k, A, Y1, (v : Int)), m, (0 : Int)) = (r, q, e)) ∨ t = false ∧ ((r, q, e) = (dr, P, (75 : Int))) := by
            rcases t with _ | _
            · rw [decide_eq_false_iff_not] at ht
              rw [fr1_bad hrd (by omega)] at hr0
              exact .inr ⟨rfl, hr0.symm⟩
            · rw [decide_eq_true_eq] at ht
              rw [fr1_ok hrd (by omega), hm] at hr0
              exact .inl ⟨rfl, by rw [← hV]; exact IntWalk.i64_in _ (by omega), hr0⟩
          have HM := Lib.hid (fun W : World => ht ▸ may6_any (v : Int) A W (by omega))
          have FIN := Lib.hid hfin
          clear ht hfin hr0 hrd hd hv hm
          go_wp2_with fail
          refine HN.out.mono ?_
          rintro ret w6 ⟨rfl, hR, hg⟩
          have R6 := Lib.hid hR
          replace T := Lib.hid (StabG.block T.out.now n10 w6 hg)
          replace X := Lib.hid (StabG.block X.out n7 w6 hg)
          replace U := Lib.hid (StabG.block U.out n6 w6 hg)
          replace G := Lib.hid (Lib.grownBy_trans G.out hg)
          replace O := Lib.hid (O.out.grown hg (.inr fun e => by have := (O.out.lt g e.symm).1; omega))
          clear HN hR hg c2 R1
          have r1 : w6.cell? ⟨g9, 1, none⟩ = some (.func (.func 126) #[] #[]) := cell_of T.out 1 rfl
          have r1d : w6.drew.cell? ⟨g9, 1, none⟩ = some (.func (.func 126) #[] #[]) := r1
          have HE6 := Lib.hid (endR_any al nl cl rs w6.drew hnl (S.out _ (grow_drewN G.out 1)).2 (by rw [HA.out]; omega))
          rw [HA.out] at HE6
          go_wp2_with fail
          go_region_held3 (fun w' => w'.cell? ⟨g9, 1, none⟩ = some (.func (.func 126) #[] #[])) (first | go_keep | assumption) (first | (go_at_call 128; refine HE6.out.mono ?_; rintro ret w7 ⟨rfl, hb7⟩; have q7 : w7.cell? ⟨g9, 1, none⟩ = some (.func (.func 126) #[] #[]) := cell_of (Stab.keep (w := w6.drew) (Stab.block T.out) hb7).now 1 rfl; have B7 := Lib.hid hb7; clear hb7) | (go_at_call 126; refine (HM.out _).mono ?_; rintro ret w' ⟨rfl, rfl⟩))
          replace R6 := Lib.hid (Rd.keep (w := w6.drew) R6.out B7.out)
          replace T := Lib.hid (Stab.keep (w := w6.drew) (Stab.block T.out) B7.out).now
          replace X := Lib.hid (Stab.keep (w := w6.drew) (Stab.block X.out) B7.out).now
          replace U := Lib.hid (Stab.keep (w := w6.drew) (Stab.block U.out) B7.out).now
          replace G := Lib.hid (Lib.grownBy_below (grow_drewN G.out 1) B7.out)
          replace O := Lib.hid (OwT.keep (w := w6.drew) O.out B7.out)
          clear B7 HE6 HM r1 r1d q7
          rcases FIN.out with ⟨rfl, hq⟩ | ⟨rfl, hq⟩
          · have FQ := Lib.hid hq
            clear hq FIN
            have r0 := cell_of T.out 0 rfl
            have x3 := cell_of X.out 3 rfl
            have fx := free_block X.out 3
            have X9 := Lib.hid (show (w7.setCell ⟨gx, 3, none⟩ (.int .i64 V)).heap[gx]? = some (.cells #[.slice ak nk ck, .int .i64 A, .int .i64 Y1, .int .i64 V] 94 (0, 0)) from set_block (i := 3) X.out (.int .i64 V))
            go_wp2_with fail
            refine (of5_any gx _).mono ?_
            rintro ret w' ⟨rfl, rfl⟩
            go_wp2_with fail
            go_roundw
            case rel => exact ⟨3, by omega, rfl, A, Y1, V, m, 0, 0, hmn, Rd.off R6.out n7, grow_set G.out lxw 3 _, X9.out, (Below.heap_setCell w7 ⟨gx, 3, none⟩ _ g6 n9).trans U.out, fun _ => ⟨rfl, ⟨O.out.off1 OF.out, OF.out⟩, fun _ => rfl, by have := FQ.out.2; rw [← FQ.out.1] at this; exact this⟩, fun h => absurd rfl h⟩
            case measure => simp [intOf]
          · simp only [Prod.mk.injEq] at hq
            obtain ⟨_, rfl, rfl⟩ := hq
            clear FIN
            have r0 := cell_of T.out 0 rfl
            have r2 := cell_of T.out 2 rfl
            have HF := Lib.hid (fails0_any g a b.length c m 75 q w7 R6.out)
            go_wp2_with fail
            refine HF.out.mono ?_
            rintro ret w8 ⟨rfl, hr, hg⟩
            have R8 := Lib.hid hr
            replace T := Lib.hid (StabG.block T.out n10 w8 hg)
            replace X := Lib.hid (StabG.block X.out n7 w8 hg)
            replace U := Lib.hid (StabG.block U.out n6 w8 hg)
            replace G := Lib.hid (Lib.grownBy_trans G.out hg)
            clear r0 r2 hr hg HF O R6
            have r0 := cell_of T.out 0 rfl
            have x3 := cell_of X.out 3 rfl
            have fx := free_block X.out 3
            have X9 := Lib.hid (show (w8.setCell ⟨gx, 3, none⟩ (.int .i64 V)).heap[gx]? = some (.cells #[.slice ak nk ck, .int .i64 A, .int .i64 Y1, .int .i64 V] 94 (0, 0)) from set_block (i := 3) X.out (.int .i64 V))
            go_wp2_with fail
            refine (of5_any gx _).mono ?_
            rintro ret w' ⟨rfl, rfl⟩
            go_wp2_with fail
            go_roundw
            case rel => exact ⟨3, by omega, rfl, A, Y1, V, m, 75, q, hmn, Rd.off R8.out n7, grow_set G.out lxw 3 _, X9.out, (Below.heap_setCell w8 ⟨gx, 3, none⟩ _ g6 n9).trans U.out, (fun h => by cases h), fun _ => ⟨rfl, rfl⟩⟩
            case measure => simp [intOf]
        · rw [fr1_no hrd he1, hm] at hr0
          simp only [Prod.mk.injEq] at hr0
          obtain ⟨_, rfl, rfl⟩ := hr0
          have HN := Lib.hid (fnumber_no g a b.length c P b w5 hn hP R1.out ((S.out.imp fun _ h => h.1).keep G.out) hrd he1 hm)
          have ht : decide ((1 : Int) ≤ 0 ∧ (0 : Int) ≤ 64) = false := by decide
          have HM := Lib.hid (fun W : World => ht ▸ may6_any 0 A W (by omega))
          have HE1 := Lib.hid he1
          clear ht hrd he1 hm
          go_wp2_with fail
          refine HN.out.mono ?_
          rintro ret w6 ⟨rfl, hR, hg⟩
          have R6 := Lib.hid hR
          replace T := Lib.hid (StabG.block T.out.now n10 w6 hg)
          replace X := Lib.hid (StabG.block X.out n7 w6 hg)
          replace U := Lib.hid (StabG.block U.out n6 w6 hg)
          replace G := Lib.hid (Lib.grownBy_trans G.out hg)
          clear HN hR hg c2 R1 O OF
          have r1 : w6.cell? ⟨g9, 1, none⟩ = some (.func (.func 126) #[] #[]) := cell_of T.out 1 rfl
          have r1d : w6.drew.cell? ⟨g9, 1, none⟩ = some (.func (.func 126) #[] #[]) := r1
          have HE6 := Lib.hid (endR_any al nl cl rs w6.drew hnl (S.out _ (grow_drewN G.out 1)).2 (by rw [HA.out]; omega))
          rw [HA.out] at HE6
          go_wp2_with fail
          go_region_held3 (fun w' => w'.cell? ⟨g9, 1, none⟩ = some (.func (.func 126) #[] #[])) (first | go_keep | assumption) (first | (go_at_call 128; refine HE6.out.mono ?_; rintro ret w7 ⟨rfl, hb7⟩; have q7 : w7.cell? ⟨g9, 1, none⟩ = some (.func (.func 126) #[] #[]) := cell_of (Stab.keep (w := w6.drew) (Stab.block T.out) hb7).now 1 rfl; have B7 := Lib.hid hb7; clear hb7) | (go_at_call 126; refine (HM.out _).mono ?_; rintro ret w' ⟨rfl, rfl⟩))
          replace R6 := Lib.hid (Rd.keep (w := w6.drew) R6.out B7.out)
          replace T := Lib.hid (Stab.keep (w := w6.drew) (Stab.block T.out) B7.out).now
          replace X := Lib.hid (Stab.keep (w := w6.drew) (Stab.block X.out) B7.out).now
          replace U := Lib.hid (Stab.keep (w := w6.drew) (Stab.block U.out) B7.out).now
          replace G := Lib.hid (Lib.grownBy_below (grow_drewN G.out 1) B7.out)
          clear B7 HE6 HM r1 r1d q7
          have r0 := cell_of T.out 0 rfl
          have r2 := cell_of T.out 2 rfl
          have x3 := cell_of X.out 3 rfl
          have fx := free_block X.out 3
          have X9 := Lib.hid (show (w7.setCell ⟨gx, 3, none⟩ (.int .i64 0)).heap[gx]? = some (.cells #[.slice ak nk ck, .int .i64 A, .int .i64 Y1, .int .i64 0] 94 (0, 0)) from set_block (i := 3) X.out (.int .i64 0))
          have HF := Lib.hid (failsE_any g a b.length c P e1 (m : Nat) 75 P w7 R6.out HE1.out)
          go_wp2_with fail
          refine HF.out.mono ?_
          rintro ret w' ⟨rfl, rfl⟩
          go_wp2_with fail
          refine (of5_any gx _).mono ?_
          rintro ret w' ⟨rfl, rfl⟩
          go_wp2_with fail
          go_roundw
          case rel => exact ⟨3, by omega, rfl, A, Y1, 0, P, e1, m, hP, Rd.off R6.out n7, grow_set G.out lxw 3 _, X9.out, (Below.heap_setCell w7 ⟨gx, 3, none⟩ _ g6 n9).trans U.out, fun h => absurd h HE1.out, fun _ => ⟨rfl, rfl⟩⟩
          case measure => simp [intOf]
      · obtain ⟨rfl, rfl⟩ := H1.out hE
        have t1 : (E != 0) = true := by rw [bne_iff_ne]; exact hE
        have HE := Lib.hid hE
        clear hE H0 H1 BA
        have x0 := cell_of X.out 0 rfl
        have x1 := cell_of X.out 1 rfl
        have x2 := cell_of X.out 2 rfl
        have x3 := cell_of X.out 3 rfl
        obtain ⟨⟨u0, f0⟩, ⟨u1, f1⟩, ⟨u2, f2⟩, ⟨u3, f3⟩, hF⟩ := four_set (s := .slice ak nk ck) (x := .int .i64 X1) (y := .int .i64 Y1) (z := .int .i64 Z1) U.out
        have y0 := cell_of hF 0 rfl
        have y1 := cell_of hF 1 rfl
        have y2 := cell_of hF 2 rfl
        have y3 := cell_of hF 3 rfl
        clear hF
        go_wp2_with fail
        refine bodyPost_ret (v := .agg #[.slice ak nk ck, .int .i64 X1, .int .i64 Y1, .int .i64 Z1]) (by simp [results, Tryz.results83, go_sem, y0, y1, y2, y3]) rfl ?_
        exact ⟨((ak, nk, ck), X1, Y1, Z1), rfl, (grow_set (grow_set (grow_set (grow_set G.out l6w 0 _) l6w 1 _) l6w 2 _) l6w 3 _), fun h => absurd h HE.out, fun _ => ⟨P, hP, Rd.off4 R1.out n6⟩⟩
    · by_cases hE : E = 0
      · subst hE
        obtain ⟨rfl, ⟨ho, hoff⟩, hXA, hrest⟩ := H0.out rfl
        clear hXA
        have O := Lib.hid ho
        have hr0 : ((k, X1, Y1, Z1), P, (0 : Int)) = (r, q, e) := hrest
        simp only [Prod.mk.injEq] at hr0
        obtain ⟨rfl, rfl, rfl⟩ := hr0
        clear H0 H1 hrest ho hoff
        have x0 := cell_of X.out 0 rfl
        have x1 := cell_of X.out 1 rfl
        have x2 := cell_of X.out 2 rfl
        have x3 := cell_of X.out 3 rfl
        obtain ⟨⟨u0, f0⟩, ⟨u1, f1⟩, ⟨u2, f2⟩, ⟨u3, f3⟩, hF⟩ := four_set (s := .slice ak nk ck) (x := .int .i64 X1) (y := .int .i64 Y1) (z := .int .i64 Z1) U.out
        have y0 := cell_of hF 0 rfl
        have y1 := cell_of hF 1 rfl
        have y2 := cell_of hF 2 rfl
        have y3 := cell_of hF 3 rfl
        clear hF
        go_wp2_with fail
        refine bodyPost_ret (v := .agg #[.slice ak nk ck, .int .i64 X1, .int .i64 Y1, .int .i64 Z1]) (by simp [results, Tryz.results83, go_sem, y0, y1, y2, y3]) rfl ?_
        exact ⟨ak, nk, ck, X1, Y1, Z1, rfl, (grow_set (grow_set (grow_set (grow_set G.out l6w 0 _) l6w 1 _) l6w 2 _) l6w 3 _), ⟨rfl, rfl, rfl⟩, (O.out.off4 (fun j hj => by have := (O.out.lt j hj).1; omega)).base lw1, Rd.off4 R1.out n6⟩
      · obtain ⟨rfl, rfl⟩ := H1.out hE
        have HE := Lib.hid hE
        clear hE H0 H1
        have x0 := cell_of X.out 0 rfl
        have x1 := cell_of X.out 1 rfl
        have x2 := cell_of X.out 2 rfl
        have x3 := cell_of X.out 3 rfl
        obtain ⟨⟨u0, f0⟩, ⟨u1, f1⟩, ⟨u2, f2⟩, ⟨u3, f3⟩, hF⟩ := four_set (s := .slice ak nk ck) (x := .int .i64 X1) (y := .int .i64 Y1) (z := .int .i64 Z1) U.out
        have y0 := cell_of hF 0 rfl
        have y1 := cell_of hF 1 rfl
        have y2 := cell_of hF 2 rfl
        have y3 := cell_of hF 3 rfl
        clear hF
        go_wp2_with fail
        refine bodyPost_ret (v := .agg #[.slice ak nk ck, .int .i64 X1, .int .i64 Y1, .int .i64 Z1]) (by simp [results, Tryz.results83, go_sem, y0, y1, y2, y3]) rfl ?_
        exact ⟨((ak, nk, ck), X1, Y1, Z1), rfl, (grow_set (grow_set (grow_set (grow_set G.out l6w 0 _) l6w 1 _) l6w 2 _) l6w 3 _), fun h => absurd h HE.out, fun _ => ⟨P, hP, Rd.off4 R1.out n6⟩⟩
end Go.Proofs.YtljcogimeimknaaGreat

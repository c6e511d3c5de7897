/- Law BlockGoes: the walk. Conditions: numbers within reach. -/
import Derived.Test.YteedjgjkldbbcaaBlockGo
import Derived.Test.YteedjgjkldbbcaaOnlyRet
import Derived.Test.YteedjgjkldbbcaaK6c
import Derived.LoopNIn
namespace Go.Proofs.Yteedjgjkldbbcaa
open Go.RowKit Go.Shelf
set_option linter.unusedVariables false
set_option linter.unusedSimpArgs false
attribute [local go_sem] Oper.semAt_some

/-- a function's value is stored as every other value of one cell is -/
theorem run_store_fn (P : Program) (w : World) (p : Addr) (m : Mode) (f : Fn) (x y : Array Value) : (store p (.func f x y) m).run P w = stored P w p (.func f x y) m := run_store P w p _ m rfl
attribute [local go_sem] run_store_fn
theorem ball_any (a : Option Addr) (n c : Nat) (w : World) :
    Calls Try.prog 29 #[.slice a n c] w fun e w' => e = .returned (.func (.func 52) #[] #[.pointer (some ⟨w.heap.size, 0, none⟩)]) ∧ w' = w.alloc (.cells #[.slice a n c] 25) := by
  go_enter Try.func29, Try.ntmps29
  go_wp2_with fail
  go_ret
  exact ⟨rfl, rfl⟩
theorem bents_len {b : List UInt8} : ∀ (j : Nat) (l : List Ent) (ps : List Nat) (p : Nat), (bents b j l ps p).1.length ≤ l.length + j
  | 0, l, ps, p => Nat.le_refl _
  | j + 1, l, ps, p => by
    unfold bents
    split
    · show l.length ≤ _; omega
    · split
      · show l.length ≤ _; omega
      · have := bents_len (b := b) j (l ++ [(pread (bP l.length (bst l).last) b p).1]) (ps ++ [p]) (pread (bP l.length (bst l).last) b p).2.1
        rw [List.length_append, List.length_singleton] at this
        omega
theorem bentries_len (b : List UInt8) : (bentries b).1.length ≤ 64 := by
  unfold bentries
  split
  · exact Nat.zero_le _
  · split
    · exact Nat.zero_le _
    · have := bents_len (b := b) (rd b 0 0).1 [] [] (rd b 0 0).2.1
      simp only [List.length_nil] at this
      omega
set_option maxRecDepth 100000 in
set_option maxHeartbeats 4000000 in
theorem blockGoes_walk (ab : Option Addr) (nb cb : Nat) (b : List UInt8) (most : Int) (w : World) (hnb : nb ≤ 140737488351232) (hB : Sl Bf w ab nb cb b) :
    Calls Try.prog 5 #[.slice ab nb cb, .int .i64 most] w fun e w' => e = .returned (.bool true) ∧ Below w.heap.size w w' := by
  obtain rfl : b.length = nb := hB.len
  have HB := Lib.hid hB
  clear hB
  refine (callsIn_wide (n := 4)).1 ?_
  refine callsIn_of_wp_marks Try.func5 rfl trivial ?_ rfl
  simp only [Try.ntmps5, List.size_toArray, List.length_cons, List.length_nil, Nat.reduceAdd, Nat.reduceSub, Array.replicate_succ, Array.replicate_zero, List.push_toArray, List.append_toArray, List.nil_append, List.cons_append]
  refine wpIn_mono (Q := onlyRet _) ?_ onlyRet_imp
  refine wpIn_wide.2 ?_
  go_wp2_with fail
  have b0 : Below w.heap.size w ((w.alloc (.cells #[.int .i64 most] 3)).alloc (.cells #[.bool false] 4)) := ((Below.refl _ _).alloc (Nat.le_refl _) _).alloc (by simp) _
  have g3 : ((w.alloc (.cells #[.int .i64 most] 3)).alloc (.cells #[.bool false] 4)).heap[w.heap.size]? = some (.cells #[.int .i64 most] 3 (0, 0)) := blk_keep (heap_new w _) ((Below.refl _ _).alloc (Nat.le_refl _) _)
  have g4 : ((w.alloc (.cells #[.int .i64 most] 3)).alloc (.cells #[.bool false] 4)).heap[w.heap.size + 1]? = some (.cells #[.bool false] 4 (0, 0)) := by have := heap_new (w.alloc (.cells #[.int .i64 most] 3)) (.cells #[.bool false] 4); simpa using this
  have B0 := Lib.hid b0
  have G3 := Lib.hid g3
  have G4 := Lib.hid g4
  clear b0 g3 g4
  generalize (w.alloc (.cells #[.int .i64 most] 3)).alloc (.cells #[.bool false] 4) = w1 at *
  refine (lives_any _).mono ?_
  rintro e w2 ⟨rfl, hb⟩
  replace B0 := Lib.hid (keep_trans B0.out hb)
  replace G3 := Lib.hid (blk_keep G3.out hb)
  replace G4 := Lib.hid (blk_keep G4.out hb)
  clear hb
  go_wp2_with fail
  refine (lent_any ab b.length cb b w2 hnb (HB.out.keep B0.out)).mono ?_
  rintro e w3 ⟨go, rfl, hgo, hl, hb⟩
  have hz2 : w.heap.size + 2 ≤ w2.heap.size := by have := (Array.getElem?_eq_some_iff.1 G4.out).1; omega
  replace B0 := Lib.hid (keep_trans B0.out hb)
  replace G3 := Lib.hid (blk_keep G3.out hb)
  replace G4 := Lib.hid (blk_keep G4.out hb)
  have L3 := Lib.hid hl
  clear hb hl
  go_wp2_with fail
  refine (rentries_any ab b.length cb b w3 hnb (HB.out.keep B0.out)).mono ?_
  rintro e w4 ⟨hb, y, z, vs, rfl, hrl, hrz⟩
  obtain ⟨az, nz, cz, rfl, -, -⟩ := hrz.slR
  obtain ⟨L, hL⟩ : ∃ L, (bentries b).1 = L := ⟨_, rfl⟩
  have HL := Lib.hid hL
  have hL64 : L.length ≤ 64 := by rw [← hL]; exact bentries_len b
  rw [hL] at hrl
  obtain ⟨ay, cy, rfl, hen⟩ := hrl.ents
  replace B0 := Lib.hid (keep_trans B0.out hb)
  replace G3 := Lib.hid (blk_keep G3.out hb)
  replace G4 := Lib.hid (blk_keep G4.out hb)
  have L4 := Lib.hid (L3.out.keep hb)
  have hz3 : w.heap.size + 2 ≤ w3.heap.size := by have := (Array.getElem?_eq_some_iff.1 G4.out).1; have := hgo; have := L3.out.lt; omega
  have RL4 := Lib.hid hrl
  obtain ⟨p1, p2, p3⟩ : ∃ p1 p2 p3, True := ⟨0, 0, 0, trivial⟩
  clear hb hrl hrz hen L3 hL
  go_wp2_with fail
  refine (ball_any _ _ _ _).mono ?_
  rintro e w5 ⟨rfl, rfl⟩
  go_wp2_with fail
  obtain ⟨W5, hW5⟩ : ∃ V, (((w4.alloc (.cells #[.slice ay L.length cy] 22)).alloc (.cells #[.slice (some ⟨go, 0, none⟩) b.length (b.length + 2)] 25)).alloc (.cells #[.func (.func 52) #[] #[.pointer (some ⟨w4.heap.size + 1, 0, none⟩)]] 54)).alloc (.cells #[.int .i64 0] 3) = V := ⟨_, rfl⟩
  have hA := allocs_get w4 [.cells #[.slice ay L.length cy] 22, .cells #[.slice (some ⟨go, 0, none⟩) b.length (b.length + 2)] 25, .cells #[.func (.func 52) #[] #[.pointer (some ⟨w4.heap.size + 1, 0, none⟩)]] 54, .cells #[.int .i64 0] 3]
  rw [show List.foldl World.alloc w4 [_, _, _, _] = W5 from hW5] at hA
  rw [hW5]
  obtain ⟨z5, b5, h5⟩ := hA
  have F3 := Lib.hid (blk_keep G3.out b5)
  have F4 := Lib.hid (blk_keep G4.out b5)
  have FL := Lib.hid (L4.out.keep b5)
  have FR := Lib.hid (RL4.out.keep b5)
  have FB0 := Lib.hid (keep_trans B0.out b5)
  have LB := Lib.hid RL4.out.inB
  have LGO := Lib.hid L4.out.lt
  obtain ⟨B, hBB⟩ : ∃ B, w4.heap.size = B := ⟨_, rfl⟩
  have hwB : w.heap.size + 2 ≤ B := by have := (Array.getElem?_eq_some_iff.1 G4.out).1; omega
  rw [hBB] at z5 h5 LB LGO ⊢
  have FW := Lib.hid (show W5.heap[B]? = some (.cells #[.slice ay L.length cy] 22 (0, 0)) from h5 0 _ rfl)
  have FBx := Lib.hid (show W5.heap[B + 1]? = some (.cells #[.slice (some ⟨go, 0, none⟩) b.length (b.length + 2)] 25 (0, 0)) from h5 1 _ rfl)
  have FF := Lib.hid (show W5.heap[B + 1 + 1]? = some (.cells #[.func (.func 52) #[] #[.pointer (some ⟨B + 1, 0, none⟩)]] 54 (0, 0)) from h5 2 _ rfl)
  have GT0 := Lib.hid (show W5.heap[B + 1 + 1 + 1]? = some (.cells #[.int .i64 0] 3 (0, 0)) from h5 3 _ rfl)
  have Z5 := Lib.hid (show W5.heap.size = B + 4 from z5)
  have TA0 := Lib.hid (Turns.refl (fun j => B + 3 ≤ j) W5)
  clear hW5 b5 h5 z5 B0 G3 G4 L4 RL4 hBB hz2 hz3 p1 p2 p3
  refine (wpIn_wide (n := 4)).1 ?_
  refine wpIn_loop_rounds 3 ?_
  rw [roundsIn_succ]
  generalize hRK0 : Code.roundsIn Fence.wide 4 Try.prog _ _ 2 = RK0
  have HRK0 := Lib.hid hRK0
  clear hRK0
  have ct0 : W5.cell? ⟨B + 1 + 1 + 1, 0, none⟩ = some (.int .i64 0) := cell_of GT0.out 0 rfl
  obtain ⟨gk0, hgk0⟩ : ∃ g, W5.heap.size = g := ⟨_, rfl⟩
  have Z0 := Lib.hid hgk0
  have hgtk0 : B + 1 + 1 + 1 < gk0 := by rw [← hgk0]; exact (Array.getElem?_eq_some_iff.1 GT0.out).1
  have hBk0 : B + 4 ≤ gk0 := by rw [← hgk0]; have := TA0.out.size; have := Z5.out; omega
  have WKB0 := (Below.refl W5.heap.size W5).alloc (Nat.le_refl _) (.cells #[.int .i64 0] 3)
  have cf0 : (W5.alloc (.cells #[.int .i64 0] 3)).cell? ⟨B + 1 + 1, 0, none⟩ = some (.func (.func 52) #[] #[.pointer (some ⟨B + 1, 0, none⟩)]) := cell_of (blk_keep (TA0.out.heap FF.out (by omega)) WKB0) 0 rfl
  have GK0 := Lib.hid (show (W5.alloc (.cells #[.int .i64 0] 3)).heap[gk0]? = some (.cells #[.int .i64 ((0 : Nat) : Int)] 3 (0, 0)) by rw [← hgk0]; exact heap_new W5 _)
  have WK0B := Lib.hid WKB0
  have zk0 : (W5.alloc (.cells #[.int .i64 0] 3)).heap.size = gk0 + 1 := by simp [hgk0]
  clear WKB0
  gi_wp2
  clear hgk0
  generalize W5.alloc (.cells #[.int .i64 0] 3) = WK0 at *
  clear ct0 cf0
  refine range_cut (fun ds' W' => ds' = ({ target := .collected (gk0 + 1), args := #[] } :: []) ∧ ∃ kk : Nat, W'.heap[gk0]? = some (.cells #[.int .i64 (kk : Nat)] 3 (0, 0)) ∧ (kk = L.length ∨ (kk : Int) = most) ∧ W'.heap[gk0 + 1]? = some (.deferred (some [])) ∧ Turns (fun j => gk0 ≤ j) W5 W') ?_ ?_
  rotate_left
  · intro JR hJR
    have HJR := Lib.hid hJR
    clear hJR
    refine range_outer rfl (by omega) (gf := 52) (lb := #[.pointer (some ⟨B + 1, 0, none⟩)]) rfl trivial (enters_of Try.func52 (by kernel_rfl) rfl) ?_
    intro fn hfn
    rw [zk0]
    generalize hrc : lrec fn _ _ _ _ (gk0 + 1) = rc
    have e1 : (WK0.alloc (.deferred (some []))).heap.size = gk0 + 2 := by simp [zk0]
    have e2 : ((WK0.alloc (.deferred (some []))).alloc (rc .ready none)).heap.size = gk0 + 3 := by simp [zk0]
    have k1 : Below WK0.heap.size WK0 ((WK0.alloc (.deferred (some []))).alloc (rc .ready none)) := ((Below.refl _ _).alloc (Nat.le_refl _) _).alloc (by simp) _
    have d1 : ((WK0.alloc (.deferred (some []))).alloc (rc .ready none)).heap[gk0 + 2]? = some (rc .ready none) := by rw [← e1]; exact heap_new _ _
    have d2 : ((WK0.alloc (.deferred (some []))).alloc (rc .ready none)).heap[gk0 + 1]? = some (.deferred (some [])) := by
      rw [← zk0]
      exact (Below.heap_alloc _ _ _ (by simp)).trans (heap_new _ _)
    generalize (WK0.alloc (.deferred (some []))).alloc (rc .ready none) = WR at *
    have TKR : Turns (fun j => gk0 ≤ j) W5 WR := .of_below (WK0B.out.trans (k1.mono (by have := Z0.out; omega)))
    have TAR := Lib.hid ((TA0.out.trans TKR fun j _ e => (by omega)))
    have TKRH := Lib.hid TKR
    have DFR := Lib.hid d2
    have S5 := Lib.hid (show ∀ W', Turns (fun j => j = gk0 ∨ j = gk0 + 2 ∨ gk0 + 3 ≤ j) WR W' → Turns (fun j => B + 3 ≤ j) W5 W' from fun W' h => TAR.out.trans h fun j _ e => by rcases e with e | e | e <;> omega)
    have P0 : Turns (fun j => j = gk0 ∨ j = gk0 + 2 ∨ gk0 + 3 ≤ j) WR WR ∧ WR.heap[gk0]? = some (.cells #[.int .i64 ((0 : Nat) : Int)] 3 (0, 0)) ∧ WR.heap[gk0 + 2]? = some (rc .ready none) := ⟨.refl _ _, blk_keep GK0.out k1, d1⟩
    have PH0 := Lib.hid P0
    have GTR := Lib.hid (show WR.heap[B + 1 + 1 + 1]? = some (.cells #[.int .i64 0] 3 (0, 0)) from TKR.heap GT0.out (by omega))
    clear k1 d1 d2 e1 TKR P0
    refine (goiter_any (gk0 + 2) (B + 1) (some ⟨go, 0, none⟩) (b.length + 2) b WR (by omega) (by omega) (fun bb o e hn => by injection e with e; injection e with e; have := LGO.out; omega)
      (fun kk W => Turns (fun j => j = gk0 ∨ j = gk0 + 2 ∨ gk0 + 3 ≤ j) WR W ∧ W.heap[gk0]? = some (.cells #[.int .i64 (kk : Nat)] 3 (0, 0)) ∧ W.heap[gk0 + 2]? = some (rc .ready none))
      (fun W => Turns (fun j => j = gk0 ∨ j = gk0 + 2 ∨ gk0 + 3 ≤ j) WR W ∧ (∃ kk : Nat, (kk : Int) = most ∧ W.heap[gk0]? = some (.cells #[.int .i64 (kk : Nat)] 3 (0, 0))) ∧ W.heap[gk0 + 2]? = some (rc .done (some (.exit 2)))) ?_ ?_ ?_ PH0.out).mono ?_
    · rintro kk W ⟨h1, h2, h3⟩
      have hs := S5.out W h1
      exact ⟨(show Lent W go b from hs.heap FL.out (by have := LGO.out; omega)).sl, hs.heap FBx.out (by omega)⟩
    · rintro kk W W' T ⟨h1, h2, h3⟩ ht hT
      exact ⟨h1.trans ht fun j _ e => .inr (.inr (by have := hT j e; omega)), ht.heap h2 (fun e => by have := hT _ e; omega), ht.heap h3 (fun e => by have := hT _ e; omega)⟩
    · rintro kk W vk vv x ⟨hT, hgk, hrc2⟩ hz hxk o1 o2 hdis
      rw [HL.out] at hxk
      obtain ⟨ak, nk, ck, rfl, zkk⟩ := o1.slN
      obtain ⟨av, nv, cv, rfl, zvv⟩ := o2.slN
      have l1 := o1.lt
      have l2 := o2.lt
      have TPU := turns_put (w := W) (g := gk0 + 2) (rc .busy none)
      have T2 : Turns (fun j => j = gk0 ∨ j = gk0 + 2 ∨ gk0 + 3 ≤ j) WR (W.putObj (gk0 + 2) (rc .busy none)) := hT.trans TPU fun j _ e => .inr (.inl e)
      have T52 := S5.out _ T2
      have HRD := Lib.hid hrc2
      have GK2 := TPU.heap hgk (by omega)
      have RC2 : (W.putObj (gk0 + 2) (rc .busy none)).heap[gk0 + 2]? = some (rc .busy none) := World.putObj_heap_same (by omega)
      have O1 := Lib.hid (o1.turns TPU fun j hj e => by have := (l1 j hj).1; omega)
      have O2 := Lib.hid (o2.turns TPU fun j hj e => by have := (l2 j hj).1; omega)
      have hzp : (W.putObj (gk0 + 2) (rc .busy none)).heap.size = W.heap.size := by simp
      have TPH := Lib.hid TPU
      clear hgk hrc2 hT o1 o2 zkk zvv TPU
      refine round_at2 (D := gk0 + 1) (fn := fn) trivial (by rw [hrc]; exact HRD.out) rfl ?_
      rw [hrc]
      intro K9 hK9
      have KK9 := Lib.hid hK9
      clear hK9
      gi_wp2
      refine KK9.out _ _ HRD.out ?_
      clear KK9
      change Code.wpIn _ _ _ _ _ _ (W.putObj (gk0 + 2) (rc .busy none))
      generalize W.putObj (gk0 + 2) (rc .busy none) = W2 at *
      have c14 := cell_of GK2 0 rfl
      have c7 := cell_of (T52.heap FW.out (by omega)) 0 (v := (.slice ay L.length cy)) rfl
      have hkL : kk < L.length := (List.getElem?_eq_some_iff.1 hxk).1
      have RL2 := FR.out.turns T52 fun j hj e => by have := (LB.out j hj).2; omega
      obtain ⟨ay', cy', hye, hen⟩ := RL2.ents
      injection hye with hye1 hye2 hye3
      subst hye1 hye3
      obtain ⟨x1, x2⟩ := x
      obtain ⟨bl, ol, a1, n1, c1, a2, n2, c2, hay, hc1, hc2, s1, s2⟩ := hen.2.2.2 kk x1 x2 hxk
      subst hay
      have z1 := O1.out.slI
      have z2 := O2.out.slI
      have hn1 : x1.length = n1 := s1.len
      have hn2 : x2.length = n2 := s2.len
      have hk1 : x1.length = nk := z1.len
      have hk2 : x2.length = nv := z2.len
      have q1 := O1.out.capB
      have q2 := O2.out.capB
      have q3 := z1.le
      have q4 := z2.le
      have t1 : decide ((kk : Int) ≥ (L.length : Int)) = false := decide_eq_false (by omega)
      have t1' : decide (L.length ≤ kk) = false := decide_eq_false (by omega)
      have SM1 := Lib.hid (show Calls Try.prog 15 #[.slice ak nk ck, .slice a1 n1 c1] W2 (fun e w' => e = .returned (.bool true) ∧ Below W2.heap.size W2 w') from by have := same_any ak nk ck x1 a1 n1 c1 x1 W2 (by omega) (by omega) z1 s1; rwa [decide_eq_true rfl] at this)
      have SM2 := Lib.hid (fun (V : World) (hV : Below W2.heap.size W2 V) => show Calls Try.prog 15 #[.slice av nv cv, .slice a2 n2 c2] V (fun e w' => e = .returned (.bool true) ∧ Below V.heap.size V w') from by have := same_any av nv cv x2 a2 n2 c2 x2 V (by omega) (by omega) (z2.keep hV) (s2.keep hV); rwa [decide_eq_true rfl] at this)
      have hck : ck ≤ 9223372036854775807 := q1.2.2
      have hcv : cv ≤ 9223372036854775807 := q2.2.2
      have TH2 := Lib.hid T2
      have GKH := Lib.hid GK2
      have RCH := Lib.hid RC2
      have L12 := Lib.hid (And.intro l1 l2)
      have c7H := Lib.hid (T52.heap FW.out (by omega))
      have HC1 := Lib.hid (And.intro hc1 hc2)
      clear z1 z2 q1 q2 q3 q4 s1 s2 hen RL2 T2 T52 GK2 RC2 l1 l2 hn1 hn2 hk1 hk2 hye2
      gi_wp2
      refine ⟨trivial, ?_⟩
      refine (CallsIn.inRound _ (callsIn_wide.2 SM1.out)).mono ?_
      rintro e3 W3 ⟨rfl, hb3⟩
      have B3 := Lib.hid hb3
      have e7 := cell_of (blk_keep c7H.out hb3) 0 (v := .slice (some ⟨bl, ol, none⟩) L.length cy) rfl
      have e14 := cell_of (blk_keep GKH.out hb3) 0 (v := .int .i64 (kk : Nat)) rfl
      have ec2 : W3.cell? ⟨bl, ol + kk * 2 + 1, none⟩ = some (.slice a2 n2 c2) := (World.cell?_of_block (w := W2) (hb3.block bl (cell_lt HC1.out.2))).trans HC1.out.2
      clear hb3 SM1 hc1 c14 c7
      gi_wp2
      refine ⟨trivial, ?_⟩
      refine (CallsIn.inRound _ (callsIn_wide.2 (SM2.out W3 B3.out))).mono ?_
      rintro e4 W4x ⟨rfl, hb4⟩
      have B4 := Lib.hid (B3.out.trans (hb4.mono B3.out.size))
      have SF1 := Lib.hid (O1.out.keep B4.out).soft
      have O24 := Lib.hid (O2.out.keep B4.out)
      clear hb4 SM2 e7 e14 ec2 B3 hc2
      gi_wp2
      refine ⟨trivial, ?_⟩
      refine (CallsIn.inRound _ (callsIn_wide.2 (spoil_any ak nk ck W4x hck SF1.out))).mono ?_
      rintro e5 W5x ⟨rfl, hg5⟩
      have T45 := Turns.of_grown (S := fun j => Value.ownBlock (.slice ak nk ck) = some j) hg5 fun j e => by rw [own_map]; exact e
      have SF2 := Lib.hid (O24.out.turns T45 fun j hj e => hdis j e hj).soft
      have T45H := Lib.hid T45
      clear hg5 T45
      gi_wp2
      refine ⟨trivial, ?_⟩
      refine (CallsIn.inRound _ (callsIn_wide.2 (spoil_any av nv cv W5x hcv SF2.out))).mono ?_
      rintro e6 W6 ⟨rfl, hg6⟩
      have T56x := Turns.of_grown (S := fun j => Value.ownBlock (.slice av nv cv) = some j) hg6 fun j e => by rw [own_map]; exact e
      have T26 : Turns (fun j => Value.ownBlock (.slice ak nk ck) = some j ∨ Value.ownBlock (.slice av nv cv) = some j) W2 W6 :=
        (((Turns.of_below B4.out).trans (T45H.out.mono (T := fun j => Value.ownBlock (.slice ak nk ck) = some j ∨ Value.ownBlock (.slice av nv cv) = some j) fun _ _ e => .inl e) fun _ _ e => e).trans (T56x.mono (T := fun j => Value.ownBlock (.slice ak nk ck) = some j ∨ Value.ownBlock (.slice av nv cv) = some j) fun _ _ e => .inr e) fun _ _ e => e)
      have h26 : ∀ j, (Value.ownBlock (.slice ak nk ck) = some j ∨ Value.ownBlock (.slice av nv cv) = some j) → gk0 + 3 ≤ j := fun j e => by rcases e with e | e; (have := (L12.out.1 j e).1; omega); (have := (L12.out.2 j e).1; omega)
      have TR6 := Lib.hid (TH2.out.trans T26 fun j _ e => .inr (.inr (h26 j e)))
      have T56 := Lib.hid (S5.out _ TR6.out)
      have GK6 := Lib.hid (T26.heap GKH.out (fun e => by have := h26 _ e; omega))
      have RC6 := Lib.hid (T26.heap RCH.out (fun e => by have := h26 _ e; omega))
      have T26H := Lib.hid T26
      have H26 := Lib.hid h26
      have GT6 := TR6.out.heap GTR.out (by omega)
      have ctt : W6.cell? ⟨B + 1 + 1 + 1, 0, none⟩ = some (.int .i64 0) := cell_of GT6 0 rfl
      have c14 := cell_of GK6.out 0 (v := .int .i64 (kk : Nat)) rfl
      have hz6 : gk0 + 3 ≤ W6.heap.size := by have := TR6.out.size; omega
      have HDIS := Lib.hid hdis
      clear hg6 T56x T45H T26 h26 O1 O2 O24 SF1 SF2 B4 TH2 GKH RCH c7H HC1 hdis hck hcv
      have r1 : IntKind.i64.wrap ((kk : Int) + 1) = (kk : Int) + 1 := IntWalk.i64_in _ (by omega)
      by_cases hk0 : kk = 0
      · have t2 : ((kk : Int) == 0) = true := by rw [beq_iff_eq]; omega
        have t2' : (kk == 0) = true := by rw [beq_iff_eq]; exact hk0
        clear hk0
        have ci : (W6.alloc (.cells #[.int .i64 0] 3)).cell? ⟨B + 1 + 1, 0, none⟩ = some (.func (.func 52) #[] #[.pointer (some ⟨B + 1, 0, none⟩)]) := cell_of (blk_keep (T56.out.heap FF.out (by omega)) ((Below.refl _ _).alloc (Nat.le_refl _) _)) 0 rfl
        obtain ⟨gi, hgi⟩ : ∃ g, W6.heap.size = g := ⟨_, rfl⟩
        have bi : Below W6.heap.size W6 (W6.alloc (.cells #[.int .i64 0] 3)) := (Below.refl _ _).alloc (Nat.le_refl _) _
        have gib : (W6.alloc (.cells #[.int .i64 0] 3)).heap[gi]? = some (.cells #[.int .i64 ((0 : Nat) : Int)] 3 (0, 0)) := by rw [← hgi]; exact heap_new W6 _
        have BI := Lib.hid bi
        have GIB := Lib.hid gib
        have zi : (W6.alloc (.cells #[.int .i64 0] 3)).heap.size = gi + 1 := by simp [hgi]
        clear bi gib
        gi_wp2
        have ZI := Lib.hid hgi
        clear hgi
        generalize W6.alloc (.cells #[.int .i64 0] 3) = Wj at *
        refine range_inner rfl (show Wj.heap[gk0 + 2]? = some (.loop _) from by rw [blk_keep RC6.out BI.out, ← hrc]; rfl) (by omega) (gf := 52) (lb := #[.pointer (some ⟨B + 1, 0, none⟩)]) rfl trivial (enters_of Try.func52 (by kernel_rfl) rfl) ?_
        intro fn2 hfn2
        rw [zi]
        generalize hrc2 : lrec fn2 _ _ _ _ _ = rc2
        have e2i : (Wj.alloc (rc2 .ready none)).heap.size = gi + 2 := by simp [zi]
        have ki : Below Wj.heap.size Wj (Wj.alloc (rc2 .ready none)) := (Below.refl _ _).alloc (Nat.le_refl _) _
        have di : (Wj.alloc (rc2 .ready none)).heap[gi + 1]? = some (rc2 .ready none) := by rw [← zi]; exact heap_new _ _
        generalize Wj.alloc (rc2 .ready none) = Wi at *
        have TI6 := Lib.hid (Turns.of_below (S := fun j => W6.heap.size ≤ j) (BI.out.trans (ki.mono (by have := ZI.out; omega))))
        have S6 := Lib.hid (show ∀ W', Turns (fun j => j = gi ∨ j = gi + 1 ∨ gi + 2 ≤ j) Wi W' → Turns (fun j => W6.heap.size ≤ j) W6 W' from fun W' h => TI6.out.trans h fun j _ e => by have := ZI.out; rcases e with e | e | e <;> omega)
        have PI0 := Lib.hid (show Turns (fun j => j = gi ∨ j = gi + 1 ∨ gi + 2 ≤ j) Wi Wi ∧ Wi.heap[gi]? = some (.cells #[.int .i64 ((0 : Nat) : Int)] 3 (0, 0)) ∧ Wi.heap[gi + 1]? = some (rc2 .ready none) from ⟨.refl _ _, blk_keep GIB.out ki, di⟩)
        have hgi6 : gk0 + 3 ≤ gi := by have := ZI.out; omega
        clear ki di ci
        refine (CallsIn.inRound _ (callsIn_wide.2 (callsIn_wide.1 (goiter_any (gi + 1) (B + 1) (some ⟨go, 0, none⟩) (b.length + 2) b Wi (by omega) (by omega) (fun bb o e hn => by injection e with e; injection e with e; have := LGO.out; omega)
          (fun cc W => Turns (fun j => j = gi ∨ j = gi + 1 ∨ gi + 2 ≤ j) Wi W ∧ W.heap[gi]? = some (.cells #[.int .i64 (cc : Nat)] 3 (0, 0)) ∧ W.heap[gi + 1]? = some (rc2 .ready none)) (fun W => False) ?_ ?_ ?_ PI0.out)))).mono ?_
        · rintro cc Wc ⟨h1, h2, h3⟩
          have hs := T56.out.trans (S6.out Wc h1) fun j _ e => (by omega : B + 3 ≤ j)
          exact ⟨(show Lent Wc go b from hs.heap FL.out (by have := LGO.out; omega)).sl, hs.heap FBx.out (by omega)⟩
        · rintro cc Wc W' T ⟨h1, h2, h3⟩ ht hTT
          exact ⟨h1.trans ht fun j _ e => .inr (.inr (by have := hTT j e; omega)), ht.heap h2 (fun e => by have := hTT _ e; omega), ht.heap h3 (fun e => by have := hTT _ e; omega)⟩
        · rintro cc Wc vk vv xx ⟨hTc, hgc, hrcc⟩ hzc hxc oo1 oo2 hdd
          have hcc : cc < L.length := by rw [HL.out] at hxc; exact (List.getElem?_eq_some_iff.1 hxc).1
          have TPc := turns_put (w := Wc) (g := gi + 1) (rc2 .busy none)
          have GC2 := Lib.hid (TPc.heap hgc (by omega))
          have RCc := Lib.hid (show (Wc.putObj (gi + 1) (rc2 .busy none)).heap[gi + 1]? = some (rc2 .busy none) from World.putObj_heap_same (by omega))
          have TCc := Lib.hid (hTc.trans TPc fun j _ e => .inr (.inl e))
          have TPcH := Lib.hid TPc
          have HRc := Lib.hid hrcc
          clear hgc hrcc hTc TPc
          refine round_at2 (fn := fn2) trivial (by rw [hrc2]; exact HRc.out) rfl ?_
          rw [hrc2]
          intro K8 hK8
          have KK8 := Lib.hid hK8
          clear hK8
          gi_wp2
          refine KK8.out _ _ HRc.out ?_
          clear KK8
          change Code.wpIn _ _ _ _ _ _ (Wc.putObj (gi + 1) (rc2 .busy none))
          generalize Wc.putObj (gi + 1) (rc2 .busy none) = Wd at *
          have cgi := cell_of GC2.out 0 (v := .int .i64 (cc : Nat)) rfl
          have fgi := free_block GC2.out 0
          have rr : IntKind.i64.wrap ((cc : Int) + 1) = (cc : Int) + 1 := IntWalk.i64_in _ (by omega)
          have TSd := Turns.set (S := fun j => j = gi) Wd (b := gi) (i := 0) rfl (.int .i64 ((cc : Int) + 1))
          have GD := Lib.hid (show (Wd.setCell ⟨gi, 0, none⟩ (.int .i64 ((cc : Int) + 1))).heap[gi]? = some (.cells #[.int .i64 ((cc + 1 : Nat) : Int)] 3 (0, 0)) from set_block (i := 0) GC2.out (.int .i64 ((cc : Int) + 1)))
          have RD2 := Lib.hid (TSd.heap RCc.out (by omega))
          have TD := Lib.hid (TCc.out.trans TSd fun j _ e => .inl e)
          have TWd := Lib.hid ((TPcH.out.mono (T := fun j => j = gi ∨ j = gi + 1) fun j _ e => .inr e).trans TSd fun j _ e => .inl e)
          clear TSd
          gi_wp2
          refine ⟨RD2.out, ?_⟩
          exact .inl ⟨rfl, ⟨TD.out.trans (turns_put _) fun j _ e => .inr (.inl e), (turns_put (w := Wd.setCell ⟨gi, 0, none⟩ (.int .i64 ((cc : Int) + 1))) (g := gi + 1) _).heap GD.out (by omega), World.putObj_heap_same (by have := (Array.getElem?_eq_some_iff.1 RD2.out).1; omega)⟩, _, TWd.out.trans (turns_put _) fun j _ e => .inr e, fun j e => by rcases e with e | e; (exact .inl (by omega)); (exact .inl (by omega))⟩
        · rintro e W7 ⟨hv, (⟨h1, h2, h3⟩ | hf)⟩
          · refine ⟨hv, .inl ⟨h3, ?_⟩⟩
            rw [HL.out] at h2
            have TP7 := turns_put (w := W7) (g := gi + 1) (rc2 .exhausted none)
            have T68 := Lib.hid ((S6.out W7 h1).trans TP7 fun j _ e => by have := ZI.out; omega)
            have ci7 := cell_of (TP7.heap h2 (by omega)) 0 (v := .int .i64 (L.length : Nat)) rfl
            have cw7 := cell_of ((T56.out.trans T68.out fun j _ e => (by omega : B + 3 ≤ j)).heap FW.out (by omega)) 0 (v := .slice (some ⟨bl, ol, none⟩) L.length cy) rfl
            have u1 : ((L.length : Int) != (L.length : Int)) = false := by simp
            clear h1 h2 h3 TP7
            generalize W7.putObj (gi + 1) (rc2 .exhausted none) = W8 at *
            have T68a := T68.out
            have TR8 := Lib.hid (TR6.out.trans T68a fun j _ e => (.inr (.inr (by omega)) : j = gk0 ∨ j = gk0 + 2 ∨ gk0 + 3 ≤ j))
            have GK8 := T68a.heap GK6.out (by omega)
            have RC8 := Lib.hid (T68a.heap RC6.out (by omega))
            have GT8 := TR8.out.heap GTR.out (by omega)
            have F38 := (S5.out _ TR8.out).heap F3.out (by omega)
            have c14b : W8.cell? ⟨gk0, 0, none⟩ = some (.int .i64 (kk : Nat)) := cell_of GK8 0 rfl
            have f14b : W8.frozen? ⟨gk0, 0, none⟩ = false := free_block GK8 0
            have TS9 := Turns.set (S := fun j => j = gk0) W8 (b := gk0) (i := 0) rfl (.int .i64 ((kk : Int) + 1))
            have GK9 := Lib.hid (show (W8.setCell ⟨gk0, 0, none⟩ (.int .i64 ((kk : Int) + 1))).heap[gk0]? = some (.cells #[.int .i64 ((kk + 1 : Nat) : Int)] 3 (0, 0)) from set_block (i := 0) GK8 (.int .i64 ((kk : Int) + 1)))
            have RC9 := Lib.hid (TS9.heap RC8.out (by omega))
            have d14 : (W8.setCell ⟨gk0, 0, none⟩ (.int .i64 ((kk : Int) + 1))).cell? ⟨gk0, 0, none⟩ = some (.int .i64 ((kk : Int) + 1)) := cell_of GK9.out 0 rfl
            have dgt : (W8.setCell ⟨gk0, 0, none⟩ (.int .i64 ((kk : Int) + 1))).cell? ⟨B + 1 + 1 + 1, 0, none⟩ = some (.int .i64 0) := cell_of (TS9.heap GT8 (by omega)) 0 rfl
            have dm : (W8.setCell ⟨gk0, 0, none⟩ (.int .i64 ((kk : Int) + 1))).cell? ⟨w.heap.size, 0, none⟩ = some (.int .i64 most) := cell_of (TS9.heap F38 (by omega)) 0 rfl
            have TR9 := Lib.hid (TR8.out.trans TS9 fun j _ e => (.inl e : j = gk0 ∨ j = gk0 + 2 ∨ gk0 + 3 ≤ j))
            have hzW : W.heap.size ≤ W6.heap.size := by have := TPH.out.size; have := T26H.out.size; omega
            have TW9 := Lib.hid (((((TPH.out.mono (T := fun j => j = gk0 ∨ j = gk0 + 2 ∨ Value.ownBlock (.slice ak nk ck) = some j ∨ Value.ownBlock (.slice av nv cv) = some j) fun j _ e => .inr (.inl e)).trans T26H.out fun j _ e => .inr (.inr e)).trans T68a fun j hj e => absurd e (by omega))).trans TS9 fun j _ e => .inl e)
            clear T68a GK8 GT8 F38 TS9 c14 ctt
            by_cases hbrk : (kk : Int) + 1 = most
            · have u4 : ((kk : Int) + 1 == most) = true := by rw [beq_iff_eq]; exact hbrk
              have HBRK := Lib.hid hbrk
              clear hbrk
              gi_wp2
              refine ⟨RC9.out, ?_⟩
              have TPW := turns_put (w := (W8.setCell ⟨gk0, 0, none⟩ (.int .i64 ((kk : Int) + 1)))) (g := gk0 + 2) (rc .ready none)
              exact .inr ⟨rfl, TR9.out.trans (turns_put _) fun j _ e => .inr (.inl e), ⟨kk + 1, by have := HBRK.out; omega, (turns_put (w := (W8.setCell ⟨gk0, 0, none⟩ (.int .i64 ((kk : Int) + 1)))) (g := gk0 + 2) _).heap GK9.out (by omega)⟩, World.putObj_heap_same (by have := (Array.getElem?_eq_some_iff.1 RC9.out).1; omega)⟩
            · have u4 : ((kk : Int) + 1 == most) = false := by rw [beq_eq_false_iff_ne]; exact hbrk
              clear hbrk
              gi_wp2
              refine ⟨RC9.out, ?_⟩
              exact .inl ⟨rfl, ⟨TR9.out.trans (turns_put _) fun j _ e => .inr (.inl e), (turns_put (w := (W8.setCell ⟨gk0, 0, none⟩ (.int .i64 ((kk : Int) + 1)))) (g := gk0 + 2) _).heap GK9.out (by omega), World.putObj_heap_same (by have := (Array.getElem?_eq_some_iff.1 RC9.out).1; omega)⟩, _, TW9.out.trans (turns_put _) fun j _ e => .inr (.inl e), fun j e => by rcases e with e | e | e; (exact .inl (by omega)); (exact .inl (by omega)); (exact .inr e)⟩
          · exact hf.elim
      · have t2 : ((kk : Int) == 0) = false := by rw [beq_eq_false_iff_ne]; omega
        have t2' : (kk == 0) = false := by rw [beq_eq_false_iff_ne]; exact hk0
        have T68 := Lib.hid (Turns.refl (fun j => W6.heap.size ≤ j) W6)
        clear hk0
        have T68a := T68.out
        have TR8 := Lib.hid (TR6.out.trans T68a fun j _ e => (.inr (.inr (by omega)) : j = gk0 ∨ j = gk0 + 2 ∨ gk0 + 3 ≤ j))
        have GK8 := T68a.heap GK6.out (by omega)
        have RC8 := Lib.hid (T68a.heap RC6.out (by omega))
        have GT8 := TR8.out.heap GTR.out (by omega)
        have F38 := (S5.out _ TR8.out).heap F3.out (by omega)
        have c14b : W6.cell? ⟨gk0, 0, none⟩ = some (.int .i64 (kk : Nat)) := cell_of GK8 0 rfl
        have f14b : W6.frozen? ⟨gk0, 0, none⟩ = false := free_block GK8 0
        have TS9 := Turns.set (S := fun j => j = gk0) W6 (b := gk0) (i := 0) rfl (.int .i64 ((kk : Int) + 1))
        have GK9 := Lib.hid (show (W6.setCell ⟨gk0, 0, none⟩ (.int .i64 ((kk : Int) + 1))).heap[gk0]? = some (.cells #[.int .i64 ((kk + 1 : Nat) : Int)] 3 (0, 0)) from set_block (i := 0) GK8 (.int .i64 ((kk : Int) + 1)))
        have RC9 := Lib.hid (TS9.heap RC8.out (by omega))
        have d14 : (W6.setCell ⟨gk0, 0, none⟩ (.int .i64 ((kk : Int) + 1))).cell? ⟨gk0, 0, none⟩ = some (.int .i64 ((kk : Int) + 1)) := cell_of GK9.out 0 rfl
        have dgt : (W6.setCell ⟨gk0, 0, none⟩ (.int .i64 ((kk : Int) + 1))).cell? ⟨B + 1 + 1 + 1, 0, none⟩ = some (.int .i64 0) := cell_of (TS9.heap GT8 (by omega)) 0 rfl
        have dm : (W6.setCell ⟨gk0, 0, none⟩ (.int .i64 ((kk : Int) + 1))).cell? ⟨w.heap.size, 0, none⟩ = some (.int .i64 most) := cell_of (TS9.heap F38 (by omega)) 0 rfl
        have TR9 := Lib.hid (TR8.out.trans TS9 fun j _ e => (.inl e : j = gk0 ∨ j = gk0 + 2 ∨ gk0 + 3 ≤ j))
        have hzW : W.heap.size ≤ W6.heap.size := by have := TPH.out.size; have := T26H.out.size; omega
        have TW9 := Lib.hid (((((TPH.out.mono (T := fun j => j = gk0 ∨ j = gk0 + 2 ∨ Value.ownBlock (.slice ak nk ck) = some j ∨ Value.ownBlock (.slice av nv cv) = some j) fun j _ e => .inr (.inl e)).trans T26H.out fun j _ e => .inr (.inr e)).trans T68a fun j hj e => absurd e (by omega))).trans TS9 fun j _ e => .inl e)
        clear T68a GK8 GT8 F38 TS9 c14 ctt
        by_cases hbrk : (kk : Int) + 1 = most
        · have u4 : ((kk : Int) + 1 == most) = true := by rw [beq_iff_eq]; exact hbrk
          have HBRK := Lib.hid hbrk
          clear hbrk
          gi_wp2
          refine ⟨RC9.out, ?_⟩
          have TPW := turns_put (w := (W6.setCell ⟨gk0, 0, none⟩ (.int .i64 ((kk : Int) + 1)))) (g := gk0 + 2) (rc .ready none)
          exact .inr ⟨rfl, TR9.out.trans (turns_put _) fun j _ e => .inr (.inl e), ⟨kk + 1, by have := HBRK.out; omega, (turns_put (w := (W6.setCell ⟨gk0, 0, none⟩ (.int .i64 ((kk : Int) + 1)))) (g := gk0 + 2) _).heap GK9.out (by omega)⟩, World.putObj_heap_same (by have := (Array.getElem?_eq_some_iff.1 RC9.out).1; omega)⟩
        · have u4 : ((kk : Int) + 1 == most) = false := by rw [beq_eq_false_iff_ne]; exact hbrk
          clear hbrk
          gi_wp2
          refine ⟨RC9.out, ?_⟩
          exact .inl ⟨rfl, ⟨TR9.out.trans (turns_put _) fun j _ e => .inr (.inl e), (turns_put (w := (W6.setCell ⟨gk0, 0, none⟩ (.int .i64 ((kk : Int) + 1)))) (g := gk0 + 2) _).heap GK9.out (by omega), World.putObj_heap_same (by have := (Array.getElem?_eq_some_iff.1 RC9.out).1; omega)⟩, _, TW9.out.trans (turns_put _) fun j _ e => .inr (.inl e), fun j e => by rcases e with e | e | e; (exact .inl (by omega)); (exact .inl (by omega)); (exact .inr e)⟩
    · rintro e W ⟨hv, (⟨h1, h2, h3⟩ | ⟨h1, ⟨kk, hm, h2⟩, h3⟩)⟩
      · have TPU := turns_put (w := W) (g := gk0 + 2) (rc .exhausted none)
        have TF := (TKRH.out.trans h1 fun j _ e => (by rcases e with e | e | e <;> omega : gk0 ≤ j)).trans TPU fun j _ e => by omega
        rw [HL.out] at h2
        exact ⟨hv, .inl ⟨h3, .inl rfl, rfl, HJR.out _ _ ⟨rfl, L.length, TPU.heap h2 (by omega), .inl rfl, TPU.heap (h1.heap DFR.out (by omega)) (by omega), TF⟩⟩⟩
      · have TPU := turns_put (w := W) (g := gk0 + 2) (rc .exhausted (some (.exit 2)))
        have TF := (TKRH.out.trans h1 fun j _ e => (by rcases e with e | e | e <;> omega : gk0 ≤ j)).trans TPU fun j _ e => by omega
        exact ⟨hv, .inr ⟨.exit 2, h3, wpIn_exit ⟨.inr rfl, rfl, HJR.out _ _ ⟨rfl, kk, TPU.heap h2 (by omega), .inr hm, TPU.heap (h1.heap DFR.out (by omega)) (by omega), TF⟩⟩⟩⟩
  · rintro ds' W' ⟨rfl, kk, hgk, hkm, hdf, hTk⟩
    have TA9 := Lib.hid (TA0.out.trans hTk fun j _ e => (by omega : B + 3 ≤ j))
    have HDF0 := Lib.hid hdf
    have gtt := hTk.heap GT0.out (by omega)
    have c14 := cell_of hgk 0 (v := .int .i64 (kk : Nat)) rfl
    have c13 := cell_of gtt 0 (v := .int .i64 0) rfl
    have c7 := cell_of (TA9.out.heap FW.out (by omega)) 0 (v := .slice ay L.length cy) rfl
    have c3 := cell_of (TA9.out.heap F3.out (by omega)) 0 (v := .int .i64 most) rfl
    obtain ⟨gt1, hgt1⟩ : ∃ g, W'.heap.size = g := ⟨_, rfl⟩
    have hn9 : (W'.alloc (.cells #[.int .i64 0] 3)).heap[gt1]? = some (.cells #[.int .i64 0] 3 (0, 0)) := by rw [← hgt1]; exact heap_new W' _
    have c13b := cell_of hn9 0 (v := .int .i64 0) rfl
    have f13b := free_block hn9 0
    have rr : IntKind.i64.wrap ((0 : Int) + 1) = 1 := by decide
    have GT1 := Lib.hid (show (W'.alloc (.cells #[.int .i64 1] 3)).heap[gt1]? = some (.cells #[.int .i64 1] 3 (0, 0)) by rw [← hgt1]; exact heap_new W' _)
    have BN1 := Lib.hid ((Below.refl W'.heap.size W').alloc (Nat.le_refl _) (.cells #[.int .i64 1] 3))
    have hs9 : B + 4 ≤ W'.heap.size := by have := TA9.out.size; have := Z5.out; omega
    have TA1 := Lib.hid (TA9.out.trans (Turns.of_below BN1.out (S := fun j => W'.heap.size ≤ j)) fun j _ e => (by omega : B + 3 ≤ j))
    have HDH1 := Lib.hid (blk_keep hdf BN1.out)
    clear hgk gtt hn9 hTk hdf
    by_cases hkL : kk = L.length
    · have u1 : ((kk : Int) != (L.length : Int)) = false := by simp [hkL]
      have u1' : (kk != L.length) = false := by simp [hkL]
      clear hkL hkm
      gi_wp2
      clear hgt1
      rw [← HRK0.out, roundsIn_succ]
      generalize W'.alloc (.cells #[.int .i64 1] 3) = W9 at *
      clear c13 c14 c7 c3 c13b f13b hs9 WK0B GK0
      generalize hRK1 : Code.roundsIn Fence.wide 4 Try.prog _ _ 1 = RK1
      have HRK1 := Lib.hid hRK1
      clear hRK1
      have ct1 : W9.cell? ⟨gt1, 0, none⟩ = some (.int .i64 1) := cell_of GT1.out 0 rfl
      obtain ⟨gk1, hgk1⟩ : ∃ g, W9.heap.size = g := ⟨_, rfl⟩
      have Z1 := Lib.hid hgk1
      have hgtk1 : gt1 < gk1 := by rw [← hgk1]; exact (Array.getElem?_eq_some_iff.1 GT1.out).1
      have hBk1 : B + 4 ≤ gk1 := by rw [← hgk1]; have := TA1.out.size; have := Z5.out; omega
      have WKB1 := (Below.refl W9.heap.size W9).alloc (Nat.le_refl _) (.cells #[.int .i64 0] 3)
      have cf1 : (W9.alloc (.cells #[.int .i64 0] 3)).cell? ⟨B + 1 + 1, 0, none⟩ = some (.func (.func 52) #[] #[.pointer (some ⟨B + 1, 0, none⟩)]) := cell_of (blk_keep (TA1.out.heap FF.out (by omega)) WKB1) 0 rfl
      have GK1 := Lib.hid (show (W9.alloc (.cells #[.int .i64 0] 3)).heap[gk1]? = some (.cells #[.int .i64 ((0 : Nat) : Int)] 3 (0, 0)) by rw [← hgk1]; exact heap_new W9 _)
      have WK1B := Lib.hid WKB1
      have zk1 : (W9.alloc (.cells #[.int .i64 0] 3)).heap.size = gk1 + 1 := by simp [hgk1]
      clear WKB1
      gi_wp2
      clear hgk1
      generalize W9.alloc (.cells #[.int .i64 0] 3) = WK1 at *
      clear ct1 cf1
      refine range_cut (fun ds' W' => ds' = ({ target := .collected (gk1 + 1), args := #[] } :: ({ target := .collected (gk0 + 1), args := #[] } :: [])) ∧ ∃ kk : Nat, W'.heap[gk1]? = some (.cells #[.int .i64 (kk : Nat)] 3 (0, 0)) ∧ (kk = L.length ∨ False) ∧ W'.heap[gk1 + 1]? = some (.deferred (some [])) ∧ Turns (fun j => gk1 ≤ j) W9 W') ?_ ?_
      rotate_left
      · intro JR hJR
        have HJR := Lib.hid hJR
        clear hJR
        refine range_outer rfl (by omega) (gf := 52) (lb := #[.pointer (some ⟨B + 1, 0, none⟩)]) rfl trivial (enters_of Try.func52 (by kernel_rfl) rfl) ?_
        intro fn hfn
        rw [zk1]
        generalize hrc : lrec fn _ _ _ _ (gk1 + 1) = rc
        have e1 : (WK1.alloc (.deferred (some []))).heap.size = gk1 + 2 := by simp [zk1]
        have e2 : ((WK1.alloc (.deferred (some []))).alloc (rc .ready none)).heap.size = gk1 + 3 := by simp [zk1]
        have k1 : Below WK1.heap.size WK1 ((WK1.alloc (.deferred (some []))).alloc (rc .ready none)) := ((Below.refl _ _).alloc (Nat.le_refl _) _).alloc (by simp) _
        have d1 : ((WK1.alloc (.deferred (some []))).alloc (rc .ready none)).heap[gk1 + 2]? = some (rc .ready none) := by rw [← e1]; exact heap_new _ _
        have d2 : ((WK1.alloc (.deferred (some []))).alloc (rc .ready none)).heap[gk1 + 1]? = some (.deferred (some [])) := by
          rw [← zk1]
          exact (Below.heap_alloc _ _ _ (by simp)).trans (heap_new _ _)
        generalize (WK1.alloc (.deferred (some []))).alloc (rc .ready none) = WR at *
        have TKR : Turns (fun j => gk1 ≤ j) W9 WR := .of_below (WK1B.out.trans (k1.mono (by have := Z1.out; omega)))
        have TAR := Lib.hid ((TA1.out.trans TKR fun j _ e => (by omega)))
        have TKRH := Lib.hid TKR
        have DFR := Lib.hid d2
        have S5 := Lib.hid (show ∀ W', Turns (fun j => j = gk1 ∨ j = gk1 + 2 ∨ gk1 + 3 ≤ j) WR W' → Turns (fun j => B + 3 ≤ j) W5 W' from fun W' h => TAR.out.trans h fun j _ e => by rcases e with e | e | e <;> omega)
        have P0 : Turns (fun j => j = gk1 ∨ j = gk1 + 2 ∨ gk1 + 3 ≤ j) WR WR ∧ WR.heap[gk1]? = some (.cells #[.int .i64 ((0 : Nat) : Int)] 3 (0, 0)) ∧ WR.heap[gk1 + 2]? = some (rc .ready none) := ⟨.refl _ _, blk_keep GK1.out k1, d1⟩
        have PH0 := Lib.hid P0
        have GTR := Lib.hid (show WR.heap[gt1]? = some (.cells #[.int .i64 1] 3 (0, 0)) from TKR.heap GT1.out (by omega))
        clear k1 d1 d2 e1 TKR P0
        refine (goiter_any (gk1 + 2) (B + 1) (some ⟨go, 0, none⟩) (b.length + 2) b WR (by omega) (by omega) (fun bb o e hn => by injection e with e; injection e with e; have := LGO.out; omega)
          (fun kk W => Turns (fun j => j = gk1 ∨ j = gk1 + 2 ∨ gk1 + 3 ≤ j) WR W ∧ W.heap[gk1]? = some (.cells #[.int .i64 (kk : Nat)] 3 (0, 0)) ∧ W.heap[gk1 + 2]? = some (rc .ready none))
          (fun W => Turns (fun j => j = gk1 ∨ j = gk1 + 2 ∨ gk1 + 3 ≤ j) WR W ∧ (∃ kk : Nat, False ∧ W.heap[gk1]? = some (.cells #[.int .i64 (kk : Nat)] 3 (0, 0))) ∧ W.heap[gk1 + 2]? = some (rc .done (some (.exit 2)))) ?_ ?_ ?_ PH0.out).mono ?_
        · rintro kk W ⟨h1, h2, h3⟩
          have hs := S5.out W h1
          exact ⟨(show Lent W go b from hs.heap FL.out (by have := LGO.out; omega)).sl, hs.heap FBx.out (by omega)⟩
        · rintro kk W W' T ⟨h1, h2, h3⟩ ht hT
          exact ⟨h1.trans ht fun j _ e => .inr (.inr (by have := hT j e; omega)), ht.heap h2 (fun e => by have := hT _ e; omega), ht.heap h3 (fun e => by have := hT _ e; omega)⟩
        · rintro kk W vk vv x ⟨hT, hgk, hrc2⟩ hz hxk o1 o2 hdis
          rw [HL.out] at hxk
          obtain ⟨ak, nk, ck, rfl, zkk⟩ := o1.slN
          obtain ⟨av, nv, cv, rfl, zvv⟩ := o2.slN
          have l1 := o1.lt
          have l2 := o2.lt
          have TPU := turns_put (w := W) (g := gk1 + 2) (rc .busy none)
          have T2 : Turns (fun j => j = gk1 ∨ j = gk1 + 2 ∨ gk1 + 3 ≤ j) WR (W.putObj (gk1 + 2) (rc .busy none)) := hT.trans TPU fun j _ e => .inr (.inl e)
          have T52 := S5.out _ T2
          have HRD := Lib.hid hrc2
          have GK2 := TPU.heap hgk (by omega)
          have RC2 : (W.putObj (gk1 + 2) (rc .busy none)).heap[gk1 + 2]? = some (rc .busy none) := World.putObj_heap_same (by omega)
          have O1 := Lib.hid (o1.turns TPU fun j hj e => by have := (l1 j hj).1; omega)
          have O2 := Lib.hid (o2.turns TPU fun j hj e => by have := (l2 j hj).1; omega)
          have hzp : (W.putObj (gk1 + 2) (rc .busy none)).heap.size = W.heap.size := by simp
          have TPH := Lib.hid TPU
          clear hgk hrc2 hT o1 o2 zkk zvv TPU
          refine round_at2 (D := gk1 + 1) (fn := fn) trivial (by rw [hrc]; exact HRD.out) rfl ?_
          rw [hrc]
          intro K9 hK9
          have KK9 := Lib.hid hK9
          clear hK9
          gi_wp2
          refine KK9.out _ _ HRD.out ?_
          clear KK9
          change Code.wpIn _ _ _ _ _ _ (W.putObj (gk1 + 2) (rc .busy none))
          generalize W.putObj (gk1 + 2) (rc .busy none) = W2 at *
          have c14 := cell_of GK2 0 rfl
          have c7 := cell_of (T52.heap FW.out (by omega)) 0 (v := (.slice ay L.length cy)) rfl
          have hkL : kk < L.length := (List.getElem?_eq_some_iff.1 hxk).1
          have RL2 := FR.out.turns T52 fun j hj e => by have := (LB.out j hj).2; omega
          obtain ⟨ay', cy', hye, hen⟩ := RL2.ents
          injection hye with hye1 hye2 hye3
          subst hye1 hye3
          obtain ⟨x1, x2⟩ := x
          obtain ⟨bl, ol, a1, n1, c1, a2, n2, c2, hay, hc1, hc2, s1, s2⟩ := hen.2.2.2 kk x1 x2 hxk
          subst hay
          have z1 := O1.out.slI
          have z2 := O2.out.slI
          have hn1 : x1.length = n1 := s1.len
          have hn2 : x2.length = n2 := s2.len
          have hk1 : x1.length = nk := z1.len
          have hk2 : x2.length = nv := z2.len
          have q1 := O1.out.capB
          have q2 := O2.out.capB
          have q3 := z1.le
          have q4 := z2.le
          have t1 : decide ((kk : Int) ≥ (L.length : Int)) = false := decide_eq_false (by omega)
          have t1' : decide (L.length ≤ kk) = false := decide_eq_false (by omega)
          have SM1 := Lib.hid (show Calls Try.prog 15 #[.slice ak nk ck, .slice a1 n1 c1] W2 (fun e w' => e = .returned (.bool true) ∧ Below W2.heap.size W2 w') from by have := same_any ak nk ck x1 a1 n1 c1 x1 W2 (by omega) (by omega) z1 s1; rwa [decide_eq_true rfl] at this)
          have SM2 := Lib.hid (fun (V : World) (hV : Below W2.heap.size W2 V) => show Calls Try.prog 15 #[.slice av nv cv, .slice a2 n2 c2] V (fun e w' => e = .returned (.bool true) ∧ Below V.heap.size V w') from by have := same_any av nv cv x2 a2 n2 c2 x2 V (by omega) (by omega) (z2.keep hV) (s2.keep hV); rwa [decide_eq_true rfl] at this)
          have hck : ck ≤ 9223372036854775807 := q1.2.2
          have hcv : cv ≤ 9223372036854775807 := q2.2.2
          have TH2 := Lib.hid T2
          have GKH := Lib.hid GK2
          have RCH := Lib.hid RC2
          have L12 := Lib.hid (And.intro l1 l2)
          have c7H := Lib.hid (T52.heap FW.out (by omega))
          have HC1 := Lib.hid (And.intro hc1 hc2)
          clear z1 z2 q1 q2 q3 q4 s1 s2 hen RL2 T2 T52 GK2 RC2 l1 l2 hn1 hn2 hk1 hk2 hye2
          gi_wp2
          refine ⟨trivial, ?_⟩
          refine (CallsIn.inRound _ (callsIn_wide.2 SM1.out)).mono ?_
          rintro e3 W3 ⟨rfl, hb3⟩
          have B3 := Lib.hid hb3
          have e7 := cell_of (blk_keep c7H.out hb3) 0 (v := .slice (some ⟨bl, ol, none⟩) L.length cy) rfl
          have e14 := cell_of (blk_keep GKH.out hb3) 0 (v := .int .i64 (kk : Nat)) rfl
          have ec2 : W3.cell? ⟨bl, ol + kk * 2 + 1, none⟩ = some (.slice a2 n2 c2) := (World.cell?_of_block (w := W2) (hb3.block bl (cell_lt HC1.out.2))).trans HC1.out.2
          clear hb3 SM1 hc1 c14 c7
          gi_wp2
          refine ⟨trivial, ?_⟩
          refine (CallsIn.inRound _ (callsIn_wide.2 (SM2.out W3 B3.out))).mono ?_
          rintro e4 W4x ⟨rfl, hb4⟩
          have B4 := Lib.hid (B3.out.trans (hb4.mono B3.out.size))
          have SF1 := Lib.hid (O1.out.keep B4.out).soft
          have O24 := Lib.hid (O2.out.keep B4.out)
          clear hb4 SM2 e7 e14 ec2 B3 hc2
          gi_wp2
          refine ⟨trivial, ?_⟩
          refine (CallsIn.inRound _ (callsIn_wide.2 (spoil_any ak nk ck W4x hck SF1.out))).mono ?_
          rintro e5 W5x ⟨rfl, hg5⟩
          have T45 := Turns.of_grown (S := fun j => Value.ownBlock (.slice ak nk ck) = some j) hg5 fun j e => by rw [own_map]; exact e
          have SF2 := Lib.hid (O24.out.turns T45 fun j hj e => hdis j e hj).soft
          have T45H := Lib.hid T45
          clear hg5 T45
          gi_wp2
          refine ⟨trivial, ?_⟩
          refine (CallsIn.inRound _ (callsIn_wide.2 (spoil_any av nv cv W5x hcv SF2.out))).mono ?_
          rintro e6 W6 ⟨rfl, hg6⟩
          have T56x := Turns.of_grown (S := fun j => Value.ownBlock (.slice av nv cv) = some j) hg6 fun j e => by rw [own_map]; exact e
          have T26 : Turns (fun j => Value.ownBlock (.slice ak nk ck) = some j ∨ Value.ownBlock (.slice av nv cv) = some j) W2 W6 :=
            (((Turns.of_below B4.out).trans (T45H.out.mono (T := fun j => Value.ownBlock (.slice ak nk ck) = some j ∨ Value.ownBlock (.slice av nv cv) = some j) fun _ _ e => .inl e) fun _ _ e => e).trans (T56x.mono (T := fun j => Value.ownBlock (.slice ak nk ck) = some j ∨ Value.ownBlock (.slice av nv cv) = some j) fun _ _ e => .inr e) fun _ _ e => e)
          have h26 : ∀ j, (Value.ownBlock (.slice ak nk ck) = some j ∨ Value.ownBlock (.slice av nv cv) = some j) → gk1 + 3 ≤ j := fun j e => by rcases e with e | e; (have := (L12.out.1 j e).1; omega); (have := (L12.out.2 j e).1; omega)
          have TR6 := Lib.hid (TH2.out.trans T26 fun j _ e => .inr (.inr (h26 j e)))
          have T56 := Lib.hid (S5.out _ TR6.out)
          have GK6 := Lib.hid (T26.heap GKH.out (fun e => by have := h26 _ e; omega))
          have RC6 := Lib.hid (T26.heap RCH.out (fun e => by have := h26 _ e; omega))
          have T26H := Lib.hid T26
          have H26 := Lib.hid h26
          have GT6 := TR6.out.heap GTR.out (by omega)
          have ctt : W6.cell? ⟨gt1, 0, none⟩ = some (.int .i64 1) := cell_of GT6 0 rfl
          have c14 := cell_of GK6.out 0 (v := .int .i64 (kk : Nat)) rfl
          have hz6 : gk1 + 3 ≤ W6.heap.size := by have := TR6.out.size; omega
          have HDIS := Lib.hid hdis
          clear hg6 T56x T45H T26 h26 O1 O2 O24 SF1 SF2 B4 TH2 GKH RCH c7H HC1 hdis hck hcv
          have r1 : IntKind.i64.wrap ((kk : Int) + 1) = (kk : Int) + 1 := IntWalk.i64_in _ (by omega)
          have T68 := Lib.hid (Turns.refl (fun j => W6.heap.size ≤ j) W6)
          have T68a := T68.out
          have TR8 := Lib.hid (TR6.out.trans T68a fun j _ e => (.inr (.inr (by omega)) : j = gk1 ∨ j = gk1 + 2 ∨ gk1 + 3 ≤ j))
          have GK8 := T68a.heap GK6.out (by omega)
          have RC8 := Lib.hid (T68a.heap RC6.out (by omega))
          have GT8 := TR8.out.heap GTR.out (by omega)
          have F38 := (S5.out _ TR8.out).heap F3.out (by omega)
          have c14b : W6.cell? ⟨gk1, 0, none⟩ = some (.int .i64 (kk : Nat)) := cell_of GK8 0 rfl
          have f14b : W6.frozen? ⟨gk1, 0, none⟩ = false := free_block GK8 0
          have TS9 := Turns.set (S := fun j => j = gk1) W6 (b := gk1) (i := 0) rfl (.int .i64 ((kk : Int) + 1))
          have GK9 := Lib.hid (show (W6.setCell ⟨gk1, 0, none⟩ (.int .i64 ((kk : Int) + 1))).heap[gk1]? = some (.cells #[.int .i64 ((kk + 1 : Nat) : Int)] 3 (0, 0)) from set_block (i := 0) GK8 (.int .i64 ((kk : Int) + 1)))
          have RC9 := Lib.hid (TS9.heap RC8.out (by omega))
          have d14 : (W6.setCell ⟨gk1, 0, none⟩ (.int .i64 ((kk : Int) + 1))).cell? ⟨gk1, 0, none⟩ = some (.int .i64 ((kk : Int) + 1)) := cell_of GK9.out 0 rfl
          have dgt : (W6.setCell ⟨gk1, 0, none⟩ (.int .i64 ((kk : Int) + 1))).cell? ⟨gt1, 0, none⟩ = some (.int .i64 1) := cell_of (TS9.heap GT8 (by omega)) 0 rfl
          have dm : (W6.setCell ⟨gk1, 0, none⟩ (.int .i64 ((kk : Int) + 1))).cell? ⟨w.heap.size, 0, none⟩ = some (.int .i64 most) := cell_of (TS9.heap F38 (by omega)) 0 rfl
          have TR9 := Lib.hid (TR8.out.trans TS9 fun j _ e => (.inl e : j = gk1 ∨ j = gk1 + 2 ∨ gk1 + 3 ≤ j))
          have hzW : W.heap.size ≤ W6.heap.size := by have := TPH.out.size; have := T26H.out.size; omega
          have TW9 := Lib.hid (((((TPH.out.mono (T := fun j => j = gk1 ∨ j = gk1 + 2 ∨ Value.ownBlock (.slice ak nk ck) = some j ∨ Value.ownBlock (.slice av nv cv) = some j) fun j _ e => .inr (.inl e)).trans T26H.out fun j _ e => .inr (.inr e)).trans T68a fun j hj e => absurd e (by omega))).trans TS9 fun j _ e => .inl e)
          clear T68a GK8 GT8 F38 TS9
          by_cases hk0 : kk = 0
          · have t2 : ((kk : Int) == 0) = true := by rw [beq_iff_eq]; omega
            have t2' : (kk == 0) = true := by rw [beq_iff_eq]; exact hk0
            clear hk0
            gi_wp2
            refine ⟨RC9.out, ?_⟩
            exact .inl ⟨rfl, ⟨TR9.out.trans (turns_put _) fun j _ e => .inr (.inl e), (turns_put (w := (W6.setCell ⟨gk1, 0, none⟩ (.int .i64 ((kk : Int) + 1)))) (g := gk1 + 2) _).heap GK9.out (by omega), World.putObj_heap_same (by have := (Array.getElem?_eq_some_iff.1 RC9.out).1; omega)⟩, _, TW9.out.trans (turns_put _) fun j _ e => .inr (.inl e), fun j e => by rcases e with e | e | e; (exact .inl (by omega)); (exact .inl (by omega)); (exact .inr e)⟩
          · have t2 : ((kk : Int) == 0) = false := by rw [beq_eq_false_iff_ne]; omega
            have t2' : (kk == 0) = false := by rw [beq_eq_false_iff_ne]; exact hk0
            clear hk0
            gi_wp2
            refine ⟨RC9.out, ?_⟩
            exact .inl ⟨rfl, ⟨TR9.out.trans (turns_put _) fun j _ e => .inr (.inl e), (turns_put (w := (W6.setCell ⟨gk1, 0, none⟩ (.int .i64 ((kk : Int) + 1)))) (g := gk1 + 2) _).heap GK9.out (by omega), World.putObj_heap_same (by have := (Array.getElem?_eq_some_iff.1 RC9.out).1; omega)⟩, _, TW9.out.trans (turns_put _) fun j _ e => .inr (.inl e), fun j e => by rcases e with e | e | e; (exact .inl (by omega)); (exact .inl (by omega)); (exact .inr e)⟩
        · rintro e W ⟨hv, (⟨h1, h2, h3⟩ | ⟨h1, ⟨kk, hm, h2⟩, h3⟩)⟩
          · have TPU := turns_put (w := W) (g := gk1 + 2) (rc .exhausted none)
            have TF := (TKRH.out.trans h1 fun j _ e => (by rcases e with e | e | e <;> omega : gk1 ≤ j)).trans TPU fun j _ e => by omega
            rw [HL.out] at h2
            exact ⟨hv, .inl ⟨h3, .inl rfl, rfl, HJR.out _ _ ⟨rfl, L.length, TPU.heap h2 (by omega), .inl rfl, TPU.heap (h1.heap DFR.out (by omega)) (by omega), TF⟩⟩⟩
          · have TPU := turns_put (w := W) (g := gk1 + 2) (rc .exhausted (some (.exit 2)))
            have TF := (TKRH.out.trans h1 fun j _ e => (by rcases e with e | e | e <;> omega : gk1 ≤ j)).trans TPU fun j _ e => by omega
            exact ⟨hv, .inr ⟨.exit 2, h3, wpIn_exit ⟨.inr rfl, rfl, HJR.out _ _ ⟨rfl, kk, TPU.heap h2 (by omega), .inr hm, TPU.heap (h1.heap DFR.out (by omega)) (by omega), TF⟩⟩⟩⟩
      · rintro ds' W' ⟨rfl, kk, hgk, hkm, hdf, hTk⟩
        have TA9 := Lib.hid (TA1.out.trans hTk fun j _ e => (by omega : B + 3 ≤ j))
        have HDF1 := Lib.hid hdf
        have gtt := hTk.heap GT1.out (by omega)
        have c14 := cell_of hgk 0 (v := .int .i64 (kk : Nat)) rfl
        have c13 := cell_of gtt 0 (v := .int .i64 1) rfl
        have c7 := cell_of (TA9.out.heap FW.out (by omega)) 0 (v := .slice ay L.length cy) rfl
        have c3 := cell_of (TA9.out.heap F3.out (by omega)) 0 (v := .int .i64 most) rfl
        obtain ⟨gt2, hgt2⟩ : ∃ g, W'.heap.size = g := ⟨_, rfl⟩
        have hn9 : (W'.alloc (.cells #[.int .i64 1] 3)).heap[gt2]? = some (.cells #[.int .i64 1] 3 (0, 0)) := by rw [← hgt2]; exact heap_new W' _
        have c13b := cell_of hn9 0 (v := .int .i64 1) rfl
        have f13b := free_block hn9 0
        have rr : IntKind.i64.wrap ((1 : Int) + 1) = 2 := by decide
        have GT2 := Lib.hid (show (W'.alloc (.cells #[.int .i64 2] 3)).heap[gt2]? = some (.cells #[.int .i64 2] 3 (0, 0)) by rw [← hgt2]; exact heap_new W' _)
        have BN2 := Lib.hid ((Below.refl W'.heap.size W').alloc (Nat.le_refl _) (.cells #[.int .i64 2] 3))
        have hs9 : B + 4 ≤ W'.heap.size := by have := TA9.out.size; have := Z5.out; omega
        have TA2 := Lib.hid (TA9.out.trans (Turns.of_below BN2.out (S := fun j => W'.heap.size ≤ j)) fun j _ e => (by omega : B + 3 ≤ j))
        have HDH2 := Lib.hid (blk_keep hdf BN2.out)
        have hg01 : gk0 + 1 < gk1 := by have := (Array.getElem?_eq_some_iff.1 HDH1.out).1; have := Z1.out; omega
        have HDG := Lib.hid (blk_keep (hTk.heap HDH1.out (by omega)) BN2.out)
        clear hgk gtt hn9 hTk hdf
        obtain hkL : kk = L.length := hkm.resolve_right fun h => h
        have u1 : ((kk : Int) != (L.length : Int)) = false := by simp [hkL]
        have u1' : (kk != L.length) = false := by simp [hkL]
        clear hkL hkm
        gi_wp2
        clear hgt2
        rw [← HRK1.out, roundsIn_succ]
        generalize W'.alloc (.cells #[.int .i64 2] 3) = WZ at *
        have ctz : WZ.cell? ⟨gt2, 0, none⟩ = some (.int .i64 2) := cell_of GT2.out 0 rfl
        clear c13 c14 c7 c3 c13b f13b hs9
        gi_wp2
        clear ctz
        go_wp2_with fail
        have hz5 := Z5.out
        refine (kept_any go b.length ab cb b WZ hnb (show Lent WZ go b from TA2.out.heap FL.out (by have := LGO.out; omega)) (HB.out.keep (TA2.out.below FB0.out (by omega) fun j e => by omega))).mono ?_
        rintro e WY ⟨rfl, hb⟩
        have TYb := Lib.hid (TA2.out.trans_below hb)
        have DY1 := blk_keep HDH2.out hb
        have DY0 := blk_keep HDG.out hb
        have GY4 := TYb.out.heap F4.out (by omega)
        have f4 := free_block GY4 0
        have c4 := cell_of GY4 0 (v := .bool false) rfl
        have TS4 := Turns.set (S := fun j => j = w.heap.size + 1) WY (b := w.heap.size + 1) (i := 0) rfl (.bool true)
        have GS4 := Lib.hid (show (WY.setCell ⟨w.heap.size + 1, 0, none⟩ (.bool true)).heap[w.heap.size + 1]? = some (.cells #[.bool true] 4 (0, 0)) from set_block (i := 0) GY4 (.bool true))
        have DS1 := Lib.hid (TS4.heap DY1 (by omega))
        have DS0 := Lib.hid (TS4.heap DY0 (by omega))
        have BS := Lib.hid (((TYb.out.mono (T := fun j => w.heap.size ≤ j) fun j _ e => by omega).trans TS4 fun j _ e => by omega).below FB0.out (by omega) fun j e => e)
        clear hb DY1 DY0 TS4
        go_wp2_with fail
        generalize WY.setCell ⟨w.heap.size + 1, 0, none⟩ (.bool true) = WV at *
        show LeavesInM _ _ _ _ _ _ _ _ _
        refine ⟨by simp, .inl ⟨_, _, rfl, run_takeDeferred DS1.out, ?_⟩⟩
        have TD1 := turns_put (w := WV) (g := gk1 + 1) (.deferred none)
        have DZ0 := Lib.hid (TD1.heap DS0.out (by omega))
        have TD0 := turns_put (w := WV.putObj (gk1 + 1) (.deferred none)) (g := gk0 + 1) (.deferred none)
        have cz := cell_of (TD0.heap (TD1.heap GS4.out (by omega)) (by omega)) 0 (v := .bool true) rfl
        have TZ := (TD1.mono (T := fun j => w.heap.size ≤ j) fun j _ e => by omega).trans TD0 fun j _ e => by omega
        have BZ := TZ.below BS.out (by have := BS.out.size; omega) fun j e => e
        refine ⟨by simp, .inl ⟨_, _, rfl, run_takeDeferred DZ0.out, ?_⟩⟩
        exact ⟨.bool true, by simp [results, Try.results5, cz, go_sem], rfl, BZ⟩
    · have u1 : ((kk : Int) != (L.length : Int)) = true := by simp; omega
      have u1' : (kk != L.length) = true := by simp; omega
      have u2 : ((kk : Int) != most) = false := by simp; omega
      clear hkL hkm
      gi_wp2
      clear hgt1
      rw [← HRK0.out, roundsIn_succ]
      generalize W'.alloc (.cells #[.int .i64 1] 3) = W9 at *
      clear c13 c14 c7 c3 c13b f13b hs9 WK0B GK0
      generalize hRK1 : Code.roundsIn Fence.wide 4 Try.prog _ _ 1 = RK1
      have HRK1 := Lib.hid hRK1
      clear hRK1
      have ct1 : W9.cell? ⟨gt1, 0, none⟩ = some (.int .i64 1) := cell_of GT1.out 0 rfl
      obtain ⟨gk1, hgk1⟩ : ∃ g, W9.heap.size = g := ⟨_, rfl⟩
      have Z1 := Lib.hid hgk1
      have hgtk1 : gt1 < gk1 := by rw [← hgk1]; exact (Array.getElem?_eq_some_iff.1 GT1.out).1
      have hBk1 : B + 4 ≤ gk1 := by rw [← hgk1]; have := TA1.out.size; have := Z5.out; omega
      have WKB1 := (Below.refl W9.heap.size W9).alloc (Nat.le_refl _) (.cells #[.int .i64 0] 3)
      have cf1 : (W9.alloc (.cells #[.int .i64 0] 3)).cell? ⟨B + 1 + 1, 0, none⟩ = some (.func (.func 52) #[] #[.pointer (some ⟨B + 1, 0, none⟩)]) := cell_of (blk_keep (TA1.out.heap FF.out (by omega)) WKB1) 0 rfl
      have GK1 := Lib.hid (show (W9.alloc (.cells #[.int .i64 0] 3)).heap[gk1]? = some (.cells #[.int .i64 ((0 : Nat) : Int)] 3 (0, 0)) by rw [← hgk1]; exact heap_new W9 _)
      have WK1B := Lib.hid WKB1
      have zk1 : (W9.alloc (.cells #[.int .i64 0] 3)).heap.size = gk1 + 1 := by simp [hgk1]
      clear WKB1
      gi_wp2
      clear hgk1
      generalize W9.alloc (.cells #[.int .i64 0] 3) = WK1 at *
      clear ct1 cf1
      refine range_cut (fun ds' W' => ds' = ({ target := .collected (gk1 + 1), args := #[] } :: ({ target := .collected (gk0 + 1), args := #[] } :: [])) ∧ ∃ kk : Nat, W'.heap[gk1]? = some (.cells #[.int .i64 (kk : Nat)] 3 (0, 0)) ∧ (kk = L.length ∨ False) ∧ W'.heap[gk1 + 1]? = some (.deferred (some [])) ∧ Turns (fun j => gk1 ≤ j) W9 W') ?_ ?_
      rotate_left
      · intro JR hJR
        have HJR := Lib.hid hJR
        clear hJR
        refine range_outer rfl (by omega) (gf := 52) (lb := #[.pointer (some ⟨B + 1, 0, none⟩)]) rfl trivial (enters_of Try.func52 (by kernel_rfl) rfl) ?_
        intro fn hfn
        rw [zk1]
        generalize hrc : lrec fn _ _ _ _ (gk1 + 1) = rc
        have e1 : (WK1.alloc (.deferred (some []))).heap.size = gk1 + 2 := by simp [zk1]
        have e2 : ((WK1.alloc (.deferred (some []))).alloc (rc .ready none)).heap.size = gk1 + 3 := by simp [zk1]
        have k1 : Below WK1.heap.size WK1 ((WK1.alloc (.deferred (some []))).alloc (rc .ready none)) := ((Below.refl _ _).alloc (Nat.le_refl _) _).alloc (by simp) _
        have d1 : ((WK1.alloc (.deferred (some []))).alloc (rc .ready none)).heap[gk1 + 2]? = some (rc .ready none) := by rw [← e1]; exact heap_new _ _
        have d2 : ((WK1.alloc (.deferred (some []))).alloc (rc .ready none)).heap[gk1 + 1]? = some (.deferred (some [])) := by
          rw [← zk1]
          exact (Below.heap_alloc _ _ _ (by simp)).trans (heap_new _ _)
        generalize (WK1.alloc (.deferred (some []))).alloc (rc .ready none) = WR at *
        have TKR : Turns (fun j => gk1 ≤ j) W9 WR := .of_below (WK1B.out.trans (k1.mono (by have := Z1.out; omega)))
        have TAR := Lib.hid ((TA1.out.trans TKR fun j _ e => (by omega)))
        have TKRH := Lib.hid TKR
        have DFR := Lib.hid d2
        have S5 := Lib.hid (show ∀ W', Turns (fun j => j = gk1 ∨ j = gk1 + 2 ∨ gk1 + 3 ≤ j) WR W' → Turns (fun j => B + 3 ≤ j) W5 W' from fun W' h => TAR.out.trans h fun j _ e => by rcases e with e | e | e <;> omega)
        have P0 : Turns (fun j => j = gk1 ∨ j = gk1 + 2 ∨ gk1 + 3 ≤ j) WR WR ∧ WR.heap[gk1]? = some (.cells #[.int .i64 ((0 : Nat) : Int)] 3 (0, 0)) ∧ WR.heap[gk1 + 2]? = some (rc .ready none) := ⟨.refl _ _, blk_keep GK1.out k1, d1⟩
        have PH0 := Lib.hid P0
        have GTR := Lib.hid (show WR.heap[gt1]? = some (.cells #[.int .i64 1] 3 (0, 0)) from TKR.heap GT1.out (by omega))
        clear k1 d1 d2 e1 TKR P0
        refine (goiter_any (gk1 + 2) (B + 1) (some ⟨go, 0, none⟩) (b.length + 2) b WR (by omega) (by omega) (fun bb o e hn => by injection e with e; injection e with e; have := LGO.out; omega)
          (fun kk W => Turns (fun j => j = gk1 ∨ j = gk1 + 2 ∨ gk1 + 3 ≤ j) WR W ∧ W.heap[gk1]? = some (.cells #[.int .i64 (kk : Nat)] 3 (0, 0)) ∧ W.heap[gk1 + 2]? = some (rc .ready none))
          (fun W => Turns (fun j => j = gk1 ∨ j = gk1 + 2 ∨ gk1 + 3 ≤ j) WR W ∧ (∃ kk : Nat, False ∧ W.heap[gk1]? = some (.cells #[.int .i64 (kk : Nat)] 3 (0, 0))) ∧ W.heap[gk1 + 2]? = some (rc .done (some (.exit 2)))) ?_ ?_ ?_ PH0.out).mono ?_
        · rintro kk W ⟨h1, h2, h3⟩
          have hs := S5.out W h1
          exact ⟨(show Lent W go b from hs.heap FL.out (by have := LGO.out; omega)).sl, hs.heap FBx.out (by omega)⟩
        · rintro kk W W' T ⟨h1, h2, h3⟩ ht hT
          exact ⟨h1.trans ht fun j _ e => .inr (.inr (by have := hT j e; omega)), ht.heap h2 (fun e => by have := hT _ e; omega), ht.heap h3 (fun e => by have := hT _ e; omega)⟩
        · rintro kk W vk vv x ⟨hT, hgk, hrc2⟩ hz hxk o1 o2 hdis
          rw [HL.out] at hxk
          obtain ⟨ak, nk, ck, rfl, zkk⟩ := o1.slN
          obtain ⟨av, nv, cv, rfl, zvv⟩ := o2.slN
          have l1 := o1.lt
          have l2 := o2.lt
          have TPU := turns_put (w := W) (g := gk1 + 2) (rc .busy none)
          have T2 : Turns (fun j => j = gk1 ∨ j = gk1 + 2 ∨ gk1 + 3 ≤ j) WR (W.putObj (gk1 + 2) (rc .busy none)) := hT.trans TPU fun j _ e => .inr (.inl e)
          have T52 := S5.out _ T2
          have HRD := Lib.hid hrc2
          have GK2 := TPU.heap hgk (by omega)
          have RC2 : (W.putObj (gk1 + 2) (rc .busy none)).heap[gk1 + 2]? = some (rc .busy none) := World.putObj_heap_same (by omega)
          have O1 := Lib.hid (o1.turns TPU fun j hj e => by have := (l1 j hj).1; omega)
          have O2 := Lib.hid (o2.turns TPU fun j hj e => by have := (l2 j hj).1; omega)
          have hzp : (W.putObj (gk1 + 2) (rc .busy none)).heap.size = W.heap.size := by simp
          have TPH := Lib.hid TPU
          clear hgk hrc2 hT o1 o2 zkk zvv TPU
          refine round_at2 (D := gk1 + 1) (fn := fn) trivial (by rw [hrc]; exact HRD.out) rfl ?_
          rw [hrc]
          intro K9 hK9
          have KK9 := Lib.hid hK9
          clear hK9
          gi_wp2
          refine KK9.out _ _ HRD.out ?_
          clear KK9
          change Code.wpIn _ _ _ _ _ _ (W.putObj (gk1 + 2) (rc .busy none))
          generalize W.putObj (gk1 + 2) (rc .busy none) = W2 at *
          have c14 := cell_of GK2 0 rfl
          have c7 := cell_of (T52.heap FW.out (by omega)) 0 (v := (.slice ay L.length cy)) rfl
          have hkL : kk < L.length := (List.getElem?_eq_some_iff.1 hxk).1
          have RL2 := FR.out.turns T52 fun j hj e => by have := (LB.out j hj).2; omega
          obtain ⟨ay', cy', hye, hen⟩ := RL2.ents
          injection hye with hye1 hye2 hye3
          subst hye1 hye3
          obtain ⟨x1, x2⟩ := x
          obtain ⟨bl, ol, a1, n1, c1, a2, n2, c2, hay, hc1, hc2, s1, s2⟩ := hen.2.2.2 kk x1 x2 hxk
          subst hay
          have z1 := O1.out.slI
          have z2 := O2.out.slI
          have hn1 : x1.length = n1 := s1.len
          have hn2 : x2.length = n2 := s2.len
          have hk1 : x1.length = nk := z1.len
          have hk2 : x2.length = nv := z2.len
          have q1 := O1.out.capB
          have q2 := O2.out.capB
          have q3 := z1.le
          have q4 := z2.le
          have t1 : decide ((kk : Int) ≥ (L.length : Int)) = false := decide_eq_false (by omega)
          have t1' : decide (L.length ≤ kk) = false := decide_eq_false (by omega)
          have SM1 := Lib.hid (show Calls Try.prog 15 #[.slice ak nk ck, .slice a1 n1 c1] W2 (fun e w' => e = .returned (.bool true) ∧ Below W2.heap.size W2 w') from by have := same_any ak nk ck x1 a1 n1 c1 x1 W2 (by omega) (by omega) z1 s1; rwa [decide_eq_true rfl] at this)
          have SM2 := Lib.hid (fun (V : World) (hV : Below W2.heap.size W2 V) => show Calls Try.prog 15 #[.slice av nv cv, .slice a2 n2 c2] V (fun e w' => e = .returned (.bool true) ∧ Below V.heap.size V w') from by have := same_any av nv cv x2 a2 n2 c2 x2 V (by omega) (by omega) (z2.keep hV) (s2.keep hV); rwa [decide_eq_true rfl] at this)
          have hck : ck ≤ 9223372036854775807 := q1.2.2
          have hcv : cv ≤ 9223372036854775807 := q2.2.2
          have TH2 := Lib.hid T2
          have GKH := Lib.hid GK2
          have RCH := Lib.hid RC2
          have L12 := Lib.hid (And.intro l1 l2)
          have c7H := Lib.hid (T52.heap FW.out (by omega))
          have HC1 := Lib.hid (And.intro hc1 hc2)
          clear z1 z2 q1 q2 q3 q4 s1 s2 hen RL2 T2 T52 GK2 RC2 l1 l2 hn1 hn2 hk1 hk2 hye2
          gi_wp2
          refine ⟨trivial, ?_⟩
          refine (CallsIn.inRound _ (callsIn_wide.2 SM1.out)).mono ?_
          rintro e3 W3 ⟨rfl, hb3⟩
          have B3 := Lib.hid hb3
          have e7 := cell_of (blk_keep c7H.out hb3) 0 (v := .slice (some ⟨bl, ol, none⟩) L.length cy) rfl
          have e14 := cell_of (blk_keep GKH.out hb3) 0 (v := .int .i64 (kk : Nat)) rfl
          have ec2 : W3.cell? ⟨bl, ol + kk * 2 + 1, none⟩ = some (.slice a2 n2 c2) := (World.cell?_of_block (w := W2) (hb3.block bl (cell_lt HC1.out.2))).trans HC1.out.2
          clear hb3 SM1 hc1 c14 c7
          gi_wp2
          refine ⟨trivial, ?_⟩
          refine (CallsIn.inRound _ (callsIn_wide.2 (SM2.out W3 B3.out))).mono ?_
          rintro e4 W4x ⟨rfl, hb4⟩
          have B4 := Lib.hid (B3.out.trans (hb4.mono B3.out.size))
          have SF1 := Lib.hid (O1.out.keep B4.out).soft
          have O24 := Lib.hid (O2.out.keep B4.out)
          clear hb4 SM2 e7 e14 ec2 B3 hc2
          gi_wp2
          refine ⟨trivial, ?_⟩
          refine (CallsIn.inRound _ (callsIn_wide.2 (spoil_any ak nk ck W4x hck SF1.out))).mono ?_
          rintro e5 W5x ⟨rfl, hg5⟩
          have T45 := Turns.of_grown (S := fun j => Value.ownBlock (.slice ak nk ck) = some j) hg5 fun j e => by rw [own_map]; exact e
          have SF2 := Lib.hid (O24.out.turns T45 fun j hj e => hdis j e hj).soft
          have T45H := Lib.hid T45
          clear hg5 T45
          gi_wp2
          refine ⟨trivial, ?_⟩
          refine (CallsIn.inRound _ (callsIn_wide.2 (spoil_any av nv cv W5x hcv SF2.out))).mono ?_
          rintro e6 W6 ⟨rfl, hg6⟩
          have T56x := Turns.of_grown (S := fun j => Value.ownBlock (.slice av nv cv) = some j) hg6 fun j e => by rw [own_map]; exact e
          have T26 : Turns (fun j => Value.ownBlock (.slice ak nk ck) = some j ∨ Value.ownBlock (.slice av nv cv) = some j) W2 W6 :=
            (((Turns.of_below B4.out).trans (T45H.out.mono (T := fun j => Value.ownBlock (.slice ak nk ck) = some j ∨ Value.ownBlock (.slice av nv cv) = some j) fun _ _ e => .inl e) fun _ _ e => e).trans (T56x.mono (T := fun j => Value.ownBlock (.slice ak nk ck) = some j ∨ Value.ownBlock (.slice av nv cv) = some j) fun _ _ e => .inr e) fun _ _ e => e)
          have h26 : ∀ j, (Value.ownBlock (.slice ak nk ck) = some j ∨ Value.ownBlock (.slice av nv cv) = some j) → gk1 + 3 ≤ j := fun j e => by rcases e with e | e; (have := (L12.out.1 j e).1; omega); (have := (L12.out.2 j e).1; omega)
          have TR6 := Lib.hid (TH2.out.trans T26 fun j _ e => .inr (.inr (h26 j e)))
          have T56 := Lib.hid (S5.out _ TR6.out)
          have GK6 := Lib.hid (T26.heap GKH.out (fun e => by have := h26 _ e; omega))
          have RC6 := Lib.hid (T26.heap RCH.out (fun e => by have := h26 _ e; omega))
          have T26H := Lib.hid T26
          have H26 := Lib.hid h26
          have GT6 := TR6.out.heap GTR.out (by omega)
          have ctt : W6.cell? ⟨gt1, 0, none⟩ = some (.int .i64 1) := cell_of GT6 0 rfl
          have c14 := cell_of GK6.out 0 (v := .int .i64 (kk : Nat)) rfl
          have hz6 : gk1 + 3 ≤ W6.heap.size := by have := TR6.out.size; omega
          have HDIS := Lib.hid hdis
          clear hg6 T56x T45H T26 h26 O1 O2 O24 SF1 SF2 B4 TH2 GKH RCH c7H HC1 hdis hck hcv
          have r1 : IntKind.i64.wrap ((kk : Int) + 1) = (kk : Int) + 1 := IntWalk.i64_in _ (by omega)
          have T68 := Lib.hid (Turns.refl (fun j => W6.heap.size ≤ j) W6)
          have T68a := T68.out
          have TR8 := Lib.hid (TR6.out.trans T68a fun j _ e => (.inr (.inr (by omega)) : j = gk1 ∨ j = gk1 + 2 ∨ gk1 + 3 ≤ j))
          have GK8 := T68a.heap GK6.out (by omega)
          have RC8 := Lib.hid (T68a.heap RC6.out (by omega))
          have GT8 := TR8.out.heap GTR.out (by omega)
          have F38 := (S5.out _ TR8.out).heap F3.out (by omega)
          have c14b : W6.cell? ⟨gk1, 0, none⟩ = some (.int .i64 (kk : Nat)) := cell_of GK8 0 rfl
          have f14b : W6.frozen? ⟨gk1, 0, none⟩ = false := free_block GK8 0
          have TS9 := Turns.set (S := fun j => j = gk1) W6 (b := gk1) (i := 0) rfl (.int .i64 ((kk : Int) + 1))
          have GK9 := Lib.hid (show (W6.setCell ⟨gk1, 0, none⟩ (.int .i64 ((kk : Int) + 1))).heap[gk1]? = some (.cells #[.int .i64 ((kk + 1 : Nat) : Int)] 3 (0, 0)) from set_block (i := 0) GK8 (.int .i64 ((kk : Int) + 1)))
          have RC9 := Lib.hid (TS9.heap RC8.out (by omega))
          have d14 : (W6.setCell ⟨gk1, 0, none⟩ (.int .i64 ((kk : Int) + 1))).cell? ⟨gk1, 0, none⟩ = some (.int .i64 ((kk : Int) + 1)) := cell_of GK9.out 0 rfl
          have dgt : (W6.setCell ⟨gk1, 0, none⟩ (.int .i64 ((kk : Int) + 1))).cell? ⟨gt1, 0, none⟩ = some (.int .i64 1) := cell_of (TS9.heap GT8 (by omega)) 0 rfl
          have dm : (W6.setCell ⟨gk1, 0, none⟩ (.int .i64 ((kk : Int) + 1))).cell? ⟨w.heap.size, 0, none⟩ = some (.int .i64 most) := cell_of (TS9.heap F38 (by omega)) 0 rfl
          have TR9 := Lib.hid (TR8.out.trans TS9 fun j _ e => (.inl e : j = gk1 ∨ j = gk1 + 2 ∨ gk1 + 3 ≤ j))
          have hzW : W.heap.size ≤ W6.heap.size := by have := TPH.out.size; have := T26H.out.size; omega
          have TW9 := Lib.hid (((((TPH.out.mono (T := fun j => j = gk1 ∨ j = gk1 + 2 ∨ Value.ownBlock (.slice ak nk ck) = some j ∨ Value.ownBlock (.slice av nv cv) = some j) fun j _ e => .inr (.inl e)).trans T26H.out fun j _ e => .inr (.inr e)).trans T68a fun j hj e => absurd e (by omega))).trans TS9 fun j _ e => .inl e)
          clear T68a GK8 GT8 F38 TS9
          by_cases hk0 : kk = 0
          · have t2 : ((kk : Int) == 0) = true := by rw [beq_iff_eq]; omega
            have t2' : (kk == 0) = true := by rw [beq_iff_eq]; exact hk0
            clear hk0
            gi_wp2
            refine ⟨RC9.out, ?_⟩
            exact .inl ⟨rfl, ⟨TR9.out.trans (turns_put _) fun j _ e => .inr (.inl e), (turns_put (w := (W6.setCell ⟨gk1, 0, none⟩ (.int .i64 ((kk : Int) + 1)))) (g := gk1 + 2) _).heap GK9.out (by omega), World.putObj_heap_same (by have := (Array.getElem?_eq_some_iff.1 RC9.out).1; omega)⟩, _, TW9.out.trans (turns_put _) fun j _ e => .inr (.inl e), fun j e => by rcases e with e | e | e; (exact .inl (by omega)); (exact .inl (by omega)); (exact .inr e)⟩
          · have t2 : ((kk : Int) == 0) = false := by rw [beq_eq_false_iff_ne]; omega
            have t2' : (kk == 0) = false := by rw [beq_eq_false_iff_ne]; exact hk0
            clear hk0
            gi_wp2
            refine ⟨RC9.out, ?_⟩
            exact .inl ⟨rfl, ⟨TR9.out.trans (turns_put _) fun j _ e => .inr (.inl e), (turns_put (w := (W6.setCell ⟨gk1, 0, none⟩ (.int .i64 ((kk : Int) + 1)))) (g := gk1 + 2) _).heap GK9.out (by omega), World.putObj_heap_same (by have := (Array.getElem?_eq_some_iff.1 RC9.out).1; omega)⟩, _, TW9.out.trans (turns_put _) fun j _ e => .inr (.inl e), fun j e => by rcases e with e | e | e; (exact .inl (by omega)); (exact .inl (by omega)); (exact .inr e)⟩
        · rintro e W ⟨hv, (⟨h1, h2, h3⟩ | ⟨h1, ⟨kk, hm, h2⟩, h3⟩)⟩
          · have TPU := turns_put (w := W) (g := gk1 + 2) (rc .exhausted none)
            have TF := (TKRH.out.trans h1 fun j _ e => (by rcases e with e | e | e <;> omega : gk1 ≤ j)).trans TPU fun j _ e => by omega
            rw [HL.out] at h2
            exact ⟨hv, .inl ⟨h3, .inl rfl, rfl, HJR.out _ _ ⟨rfl, L.length, TPU.heap h2 (by omega), .inl rfl, TPU.heap (h1.heap DFR.out (by omega)) (by omega), TF⟩⟩⟩
          · have TPU := turns_put (w := W) (g := gk1 + 2) (rc .exhausted (some (.exit 2)))
            have TF := (TKRH.out.trans h1 fun j _ e => (by rcases e with e | e | e <;> omega : gk1 ≤ j)).trans TPU fun j _ e => by omega
            exact ⟨hv, .inr ⟨.exit 2, h3, wpIn_exit ⟨.inr rfl, rfl, HJR.out _ _ ⟨rfl, kk, TPU.heap h2 (by omega), .inr hm, TPU.heap (h1.heap DFR.out (by omega)) (by omega), TF⟩⟩⟩⟩
      · rintro ds' W' ⟨rfl, kk, hgk, hkm, hdf, hTk⟩
        have TA9 := Lib.hid (TA1.out.trans hTk fun j _ e => (by omega : B + 3 ≤ j))
        have HDF1 := Lib.hid hdf
        have gtt := hTk.heap GT1.out (by omega)
        have c14 := cell_of hgk 0 (v := .int .i64 (kk : Nat)) rfl
        have c13 := cell_of gtt 0 (v := .int .i64 1) rfl
        have c7 := cell_of (TA9.out.heap FW.out (by omega)) 0 (v := .slice ay L.length cy) rfl
        have c3 := cell_of (TA9.out.heap F3.out (by omega)) 0 (v := .int .i64 most) rfl
        obtain ⟨gt2, hgt2⟩ : ∃ g, W'.heap.size = g := ⟨_, rfl⟩
        have hn9 : (W'.alloc (.cells #[.int .i64 1] 3)).heap[gt2]? = some (.cells #[.int .i64 1] 3 (0, 0)) := by rw [← hgt2]; exact heap_new W' _
        have c13b := cell_of hn9 0 (v := .int .i64 1) rfl
        have f13b := free_block hn9 0
        have rr : IntKind.i64.wrap ((1 : Int) + 1) = 2 := by decide
        have GT2 := Lib.hid (show (W'.alloc (.cells #[.int .i64 2] 3)).heap[gt2]? = some (.cells #[.int .i64 2] 3 (0, 0)) by rw [← hgt2]; exact heap_new W' _)
        have BN2 := Lib.hid ((Below.refl W'.heap.size W').alloc (Nat.le_refl _) (.cells #[.int .i64 2] 3))
        have hs9 : B + 4 ≤ W'.heap.size := by have := TA9.out.size; have := Z5.out; omega
        have TA2 := Lib.hid (TA9.out.trans (Turns.of_below BN2.out (S := fun j => W'.heap.size ≤ j)) fun j _ e => (by omega : B + 3 ≤ j))
        have HDH2 := Lib.hid (blk_keep hdf BN2.out)
        have hg01 : gk0 + 1 < gk1 := by have := (Array.getElem?_eq_some_iff.1 HDH1.out).1; have := Z1.out; omega
        have HDG := Lib.hid (blk_keep (hTk.heap HDH1.out (by omega)) BN2.out)
        clear hgk gtt hn9 hTk hdf
        obtain hkL : kk = L.length := hkm.resolve_right fun h => h
        have u1 : ((kk : Int) != (L.length : Int)) = false := by simp [hkL]
        have u1' : (kk != L.length) = false := by simp [hkL]
        clear hkL hkm
        gi_wp2
        clear hgt2
        rw [← HRK1.out, roundsIn_succ]
        generalize W'.alloc (.cells #[.int .i64 2] 3) = WZ at *
        have ctz : WZ.cell? ⟨gt2, 0, none⟩ = some (.int .i64 2) := cell_of GT2.out 0 rfl
        clear c13 c14 c7 c3 c13b f13b hs9
        gi_wp2
        clear ctz
        go_wp2_with fail
        have hz5 := Z5.out
        refine (kept_any go b.length ab cb b WZ hnb (show Lent WZ go b from TA2.out.heap FL.out (by have := LGO.out; omega)) (HB.out.keep (TA2.out.below FB0.out (by omega) fun j e => by omega))).mono ?_
        rintro e WY ⟨rfl, hb⟩
        have TYb := Lib.hid (TA2.out.trans_below hb)
        have DY1 := blk_keep HDH2.out hb
        have DY0 := blk_keep HDG.out hb
        have GY4 := TYb.out.heap F4.out (by omega)
        have f4 := free_block GY4 0
        have c4 := cell_of GY4 0 (v := .bool false) rfl
        have TS4 := Turns.set (S := fun j => j = w.heap.size + 1) WY (b := w.heap.size + 1) (i := 0) rfl (.bool true)
        have GS4 := Lib.hid (show (WY.setCell ⟨w.heap.size + 1, 0, none⟩ (.bool true)).heap[w.heap.size + 1]? = some (.cells #[.bool true] 4 (0, 0)) from set_block (i := 0) GY4 (.bool true))
        have DS1 := Lib.hid (TS4.heap DY1 (by omega))
        have DS0 := Lib.hid (TS4.heap DY0 (by omega))
        have BS := Lib.hid (((TYb.out.mono (T := fun j => w.heap.size ≤ j) fun j _ e => by omega).trans TS4 fun j _ e => by omega).below FB0.out (by omega) fun j e => e)
        clear hb DY1 DY0 TS4
        go_wp2_with fail
        generalize WY.setCell ⟨w.heap.size + 1, 0, none⟩ (.bool true) = WV at *
        show LeavesInM _ _ _ _ _ _ _ _ _
        refine ⟨by simp, .inl ⟨_, _, rfl, run_takeDeferred DS1.out, ?_⟩⟩
        have TD1 := turns_put (w := WV) (g := gk1 + 1) (.deferred none)
        have DZ0 := Lib.hid (TD1.heap DS0.out (by omega))
        have TD0 := turns_put (w := WV.putObj (gk1 + 1) (.deferred none)) (g := gk0 + 1) (.deferred none)
        have cz := cell_of (TD0.heap (TD1.heap GS4.out (by omega)) (by omega)) 0 (v := .bool true) rfl
        have TZ := (TD1.mono (T := fun j => w.heap.size ≤ j) fun j _ e => by omega).trans TD0 fun j _ e => by omega
        have BZ := TZ.below BS.out (by have := BS.out.size; omega) fun j e => e
        refine ⟨by simp, .inl ⟨_, _, rfl, run_takeDeferred DZ0.out, ?_⟩⟩
        exact ⟨.bool true, by simp [results, Try.results5, cz, go_sem], rfl, BZ⟩
end Go.Proofs.Yteedjgjkldbbcaa

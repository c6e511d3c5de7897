/- StreamNames: the walk. No condition. -/
import Derived.Test.YtljcogimeimknaaRdParse
import Derived.Test.YtljcogimeimknaaK8y
import Derived.Lib.SlBytesConst
import Derived.Test.YtljcogimeimknaaOnlyRet
namespace Go.Proofs.Ytljcogimeimknaa
open Go.RowKit Go.Shelf
set_option maxRecDepth 100000
set_option linter.unusedVariables false
set_option linter.unusedSimpArgs false

def es3 : List Ent := [([97, 98], [49]), ([97, 98, 99], []), ([99], [])]
def nB : List UInt8 := (sbytes es3 2).1
def prs (bs : List UInt8) : Int × Nat × Bool := ((takeM 5 (RS0 ⟨[], 0, 0, bs, false⟩) []).2.1.er, (takeM 5 (RS0 ⟨[], 0, 0, bs, false⟩) []).2.1.pt, (takeM 5 (RS0 ⟨[], 0, 0, bs, false⟩) []).2.2.2)
theorem nB_e : (sbytes es3 2).2 = (0, 0) := by kernel_rfl
theorem nB_len : nB.length = 72 := by kernel_rfl
theorem nB_a : nB.take 10 = [99, 111, 112, 112, 105, 99, 101, 1, 66, 13] := by kernel_rfl
theorem nB_b : (nB.take 36).drop 27 = [66, 7, 1, 0, 1, 0, 99, 1, 0] := by kernel_rfl
theorem nB_c : (nB.take 56).drop 40 = [70, 14, 2, 3, 97, 98, 99, 8, 19, 2, 1, 99, 27, 13, 1, 3] := by kernel_rfl
theorem nB_d : nB.drop 60 = [40, 0, 0, 0, 0, 0, 0, 0, 101, 110, 100, 46] := by kernel_rfl
theorem np1 : prs (nB.take 71) = (41, 60, true) := by kernel_rfl
theorem np2 : prs (nB ++ [0]) = (86, 72, true) := by kernel_rfl
theorem np3 : prs (nB.set 0 64) = (81, 0, true) := by kernel_rfl
theorem np4 : prs (((nB.set 0 64).set 0 99).set 8 71) = (82, 8, true) := by kernel_rfl
theorem np5 : prs (((((nB.set 0 64).set 0 99).set 8 71).set 8 66).set 41 13) = (84, 41, true) := by kernel_rfl
theorem np6 : prs (((((((nB.set 0 64).set 0 99).set 8 71).set 8 66).set 41 13).set 41 14).set 60 41) = (85, 60, true) := by kernel_rfl
theorem np7 : prs [99, 111, 112, 112, 105, 99, 101, 1, 66, 0] = (83, 9, true) := by kernel_rfl

theorem sparse_err {bs : List UInt8} {e : Int} {p : Nat} (h : prs bs = (e, p, true)) (he : ¬ e = 0) (a : Option Addr) (n c : Nat) (w : World) (hn : n ≤ 140737488351232) (hs : Sl Bf w a n c bs) :
    Calls Try.prog 29 #[.slice a n c] w fun r w' => r = .returned (.tuple #[.slice none 0 0, .int .i64 e, .int .i64 (p : Nat)]) ∧ Below w.heap.size w w' := by
  refine (sparse_any a n c bs w hn hs).mono ?_
  rintro r w' ⟨y, vs, k, es, s', htk, hk, rfl, hl, hb⟩
  obtain ⟨⟨es5, s5, l5, b5⟩, hX⟩ : ∃ X, takeM 5 (RS0 ⟨[], 0, 0, bs, false⟩) [] = X := ⟨_, rfl⟩
  unfold prs at h
  rw [hX] at h
  injection h with h1 h2
  injection h2 with h2 h3
  dsimp only at h1 h2 h3
  subst h1 h2 h3
  have q1 := takeM_more 5 (max 5 k) _ _ _ _ _ hX (by omega)
  have q2 := takeM_more k (max 5 k) _ _ _ _ _ htk (by omega)
  rw [q1] at q2
  injection q2 with q3 q4
  injection q4 with q4 q5
  subst q4
  exact ⟨by rw [if_neg he, if_neg he], hb⟩
theorem nconv (w : World) (os : List Obj) (C : Array Value) (n c : Nat) : Sem.run Try.prog (convert 25 25 (.slice (some ⟨w.heap.size + os.length, 0, none⟩) n c)) ((os.foldl World.alloc w).alloc (.cells C 5)) =
    .ok (.slice (some ⟨w.heap.size + os.length, 0, none⟩) n c) ((os.foldl World.alloc w).alloc (.cells C 5 (C.size, C.size + 1))) := by
  have hz : ∀ (os : List Obj) (w : World), (os.foldl World.alloc w).heap.size = w.heap.size + os.length := by
    intro os
    induction os with
    | nil => intro w; rfl
    | cons o os ih => intro w; rw [List.foldl_cons, ih, World.size_alloc, List.length_cons]; omega
  have := Lib.run_convert_bytes_const (P := Try.prog) (os.foldl World.alloc w) 25 5 C n c Try.underlying25 Try.underlying5
  rwa [hz] at this
/-- the examples' entries -/
theorem two3_any (w : World) : Calls Try.prog 28 #[] w fun e w' => ∃ g, e = .returned (.slice (some ⟨g, 0, none⟩) 3 3) ∧ Ents w' (some ⟨g, 0, none⟩) 3 3 es3 ∧ w'.cell? ⟨g, 0, none⟩ = some (.slice (some ⟨w.heap.size, 0, none⟩) 2 2) ∧ w'.cell? ⟨g, 1, none⟩ = some (.slice (some ⟨w.heap.size + 1, 0, none⟩) 1 1) ∧ Sl Bf w' (some ⟨w.heap.size, 0, none⟩) 2 2 [97, 98] ∧ Sl Bf w' (some ⟨w.heap.size + 1, 0, none⟩) 1 1 [49] ∧ Below w.heap.size w w' := by
  have kc := fun (w : World) (C : Array Value) (n c : Nat) => Lib.run_convert_bytes_const (P := Try.prog) w 25 5 C n c Try.underlying25 Try.underlying5
  have k1 := fun (o : Obj) (C : Array Value) (n c : Nat) => nconv w [o] C n c
  have k2 := fun (o p : Obj) (C : Array Value) (n c : Nat) => nconv w [o, p] C n c
  have k3 := fun (o p q : Obj) (C : Array Value) (n c : Nat) => nconv w [o, p, q] C n c
  simp only [List.foldl, List.length_cons, List.length_nil, Nat.zero_add, Nat.reduceAdd] at k1 k2 k3
  have k2' : ∀ (o p : Obj) (C : Array Value) (n c : Nat), Sem.run Try.prog (convert 25 25 (.slice (some ⟨w.heap.size + 1 + 1, 0, none⟩) n c)) (((w.alloc o).alloc p).alloc (.cells C 5)) = .ok (.slice (some ⟨w.heap.size + 1 + 1, 0, none⟩) n c) (((w.alloc o).alloc p).alloc (.cells C 5 (C.size, C.size + 1))) := k2
  have k3' : ∀ (o p q : Obj) (C : Array Value) (n c : Nat), Sem.run Try.prog (convert 25 25 (.slice (some ⟨w.heap.size + 1 + 1 + 1, 0, none⟩) n c)) ((((w.alloc o).alloc p).alloc q).alloc (.cells C 5)) = .ok (.slice (some ⟨w.heap.size + 1 + 1 + 1, 0, none⟩) n c) ((((w.alloc o).alloc p).alloc q).alloc (.cells C 5 (C.size, C.size + 1))) := k3
  clear k2 k3
  go_enter Try.func28, Try.ntmps28
  go_wp2_with fail
  go_ret
  clear kc k1 k2' k3'
  have hA := allocs_get w [.cells #[.int .u8 97, .int .u8 98] 5 (2, 3), .cells #[.int .u8 49] 5 (1, 2), .cells #[.int .u8 97, .int .u8 98, .int .u8 99] 5 (3, 4), .cells #[.int .u8 99] 5 (1, 2),
    .cells #[.slice (some ⟨w.heap.size, 0, none⟩) 2 2, .slice (some ⟨w.heap.size + 1, 0, none⟩) 1 1, .slice (some ⟨w.heap.size + 1 + 1, 0, none⟩) 3 3, .slice none 0 0, .slice (some ⟨w.heap.size + 1 + 1 + 1, 0, none⟩) 1 1, .slice none 0 0] 42]
  obtain ⟨-, hb, hg⟩ := hA
  have h0 := hg 0 _ rfl
  have h1 := hg 1 _ rfl
  have h2 := hg 2 _ rfl
  have h3 := hg 3 _ rfl
  have h4 := hg 4 _ rfl
  clear hg
  simp only [List.foldl] at hb h0 h1 h2 h3 h4
  generalize ((((w.alloc (.cells #[.int .u8 97, .int .u8 98] 5 (2, 3))).alloc (.cells #[.int .u8 49] 5 (1, 2))).alloc (.cells #[.int .u8 97, .int .u8 98, .int .u8 99] 5 (3, 4))).alloc (.cells #[.int .u8 99] 5 (1, 2))).alloc
    (.cells #[.slice (some ⟨w.heap.size, 0, none⟩) 2 2, .slice (some ⟨w.heap.size + 1, 0, none⟩) 1 1, .slice (some ⟨w.heap.size + 1 + 1, 0, none⟩) 3 3, .slice none 0 0, .slice (some ⟨w.heap.size + 1 + 1 + 1, 0, none⟩) 1 1, .slice none 0 0] 42) = W at *
  have sn : Sl Bf W none 0 0 [] := ⟨rfl, Nat.le_refl _, fun _ => rfl, fun i x h => by simp at h⟩
  refine ⟨w.heap.size + 4, rfl, ⟨rfl, Nat.le_refl _, fun e => (by cases e), fun i k v hi => ?_⟩, cell_of h4 0 rfl, cell_of h4 1 rfl, Sl.of_row [97, 98] 2 2 h0 rfl (Nat.le_refl _) rfl, Sl.of_row [49] 1 1 h1 rfl (Nat.le_refl _) rfl, hb⟩
  have hi3 : i < 3 := (List.getElem?_eq_some_iff.1 hi).1
  rcases i with _ | _ | _ | i
  · cases hi
    exact ⟨_, 0, _, _, _, _, _, _, rfl, cell_of h4 0 rfl, cell_of h4 1 rfl, Sl.of_row [97, 98] 2 2 h0 rfl (Nat.le_refl _) rfl, Sl.of_row [49] 1 1 h1 rfl (Nat.le_refl _) rfl⟩
  · cases hi
    exact ⟨_, 0, _, _, _, _, _, _, rfl, cell_of h4 2 rfl, cell_of h4 3 rfl, Sl.of_row [97, 98, 99] 3 3 h2 rfl (Nat.le_refl _) rfl, sn⟩
  · cases hi
    exact ⟨_, 0, _, _, _, _, _, _, rfl, cell_of h4 4 rfl, cell_of h4 5 rfl, Sl.of_row [99] 1 1 h3 rfl (Nat.le_refl _) rfl, sn⟩
  · omega

/-- append onto a row of the call's own: the shorter slice reads as it read -/
theorem run_app_old {t e : TypeId} {bytes : Nat} {P : Program} (E : EltT P t e fB 1 bytes) (w : World) (ty : TypeId) (base : Nat) (a : Option Addr) (n c : Nat) (xs : List UInt8) (hown : OwT fB w base e (.slice a n c) xs) (q : Addr) (m k : Nat) (news : List UInt8)
    (hx : Sl Bf w (some q) m k news) (h63 : xs.length + m ≤ maxLen) (hbytes : (xs.length + m) * bytes ≤ 140737488355328) (hbase : base ≤ w.heap.size) :
    ∃ v' w', (Builtin.append_ #[t, t] ty #[.slice a n c, .slice (some q) m k]).run P w = .ok v' w' ∧ OwT fB w' base e v' (xs ++ news) ∧ Sl Bf w' a n c xs ∧ Below base w w' := by
  obtain ⟨v', w', hr, h2, h3, h4⟩ := run_appG E w ty base _ xs hown (some q) m k news hx.toT h63 (.half hbytes) hbase
  refine ⟨v', w', hr, h2, ?_, (Below.refl _ _).grown h3 hbase (fun k hk => (hown.lt k hk).1)⟩
  have hs := hown.slI
  have hl := hs.len
  have hlt := hown.lt
  cases a with
  | none =>
    obtain ⟨q1, q2, q3, q4⟩ := hs
    have : c = 0 := q3 rfl
    subst this
    have : xs = [] := List.eq_nil_of_length_eq_zero (by omega)
    subst this
    exact ⟨q1, q2, q3, fun i x h => by simp at h⟩
  | some b =>
    by_cases hn : 0 < n
    · obtain ⟨b0, o0, e0, hb0⟩ := hs.lt hn
      cases e0
      by_cases hroom : n + m ≤ c
      · rcases hown with ⟨hv, _⟩ | ⟨g, cap, ys, hv, hg, hh, hly, hny, hcy, hty⟩
        · cases hv
        cases hv
        obtain ⟨ht, ⟨i, z, hi1, hi2, hi3, hi4, x0, hz⟩, hf, hk, h1⟩ := E
        have hcs : (ys.flatMap fB).toArray.size = c * i.size := by rw [List.size_toArray, flat_length hf, hly, hi3]
        have hml : news.length = m := hx.len
        have hlen : (news.flatMap fB).length = m * i.size := by rw [flat_length hf, hml, hi3]
        have hone : ∀ u ∈ news.flatMap fB, u.oneCell' = true := by
          intro u hu; obtain ⟨x, _, hxu⟩ := List.mem_flatMap.1 hu; exact h1 x u hxu
        have hfit : xs.length * i.size + (news.flatMap fB).length ≤ (ys.flatMap fB).toArray.size := by rw [hcs, hlen, ← Nat.add_mul]; exact Nat.mul_le_mul_right _ hroom
        have hr2 := run_append_room (P := P) w t ty e i ht hi1 b0 xs.length c _ hh q m k (news.flatMap fB) hlen (hx.toT.news hf hk) hone hroom hfit
        rw [hr] at hr2
        injection hr2 with e1 e2
        subst e1
        have hz := (h2.slI).upto xs.length (by omega)
        rw [List.take_left' (rfl)] at hz
        exact ⟨hz.1, by omega, fun e => (by cases e), hz.2.2.2⟩
      · have holds : ∀ j u, (xs.flatMap fB)[j]? = some u → w.cell? ((⟨b0, o0, none⟩ : Addr).add j) = some u := hs.toT.news E.hf E.hk
        obtain ⟨ht, ⟨i, z, hi1, hi2, hi3, hi4, x0, hz⟩, hf, hk, h1⟩ := E
        have hml : news.length = m := hx.len
        have hlen : (news.flatMap fB).length = m * i.size := by rw [flat_length hf, hml, hi3]
        have hsmall : xs.length + m ≤ 9223372036854775807 := by simp only [maxLen] at h63; omega
        have hfits : Fits (xs.length + m) bytes := .half hbytes
        have hlx : (xs.flatMap fB).length = xs.length * i.size := by rw [flat_length hf, hi3]
        subst hl
        have hr2 := run_append_grow (P := P) w t ty e i z ht hi1 hi2 ⟨b0, o0, none⟩ xs.length c (xs.flatMap fB) hlx holds q m k (news.flatMap fB) hlen (hx.toT.news hf hk) (by omega) (by omega) (by rw [hi4]; exact hfits _ (by have := hs.le; omega))
        rw [hr] at hr2
        injection hr2 with e1 e2
        subst e2
        exact hs.keep (by exact (show Below w.heap.size w w.drew from ⟨rfl, rfl, rfl, Nat.le_refl _, fun _ _ => rfl⟩).alloc (Nat.le_refl _) _)
    · have : xs = [] := List.eq_nil_of_length_eq_zero (by omega)
      subst this
      obtain ⟨q1, q2, q3, q4⟩ := hs
      exact ⟨q1, q2, q3, fun i x h => by simp at h⟩
theorem es_fit : Fit 140737488351232 es3 := by
  intro e he
  unfold es3 at he
  simp only [List.mem_cons, List.not_mem_nil, or_false] at he
  rcases he with rfl | rfl | rfl <;> exact ⟨by decide, by decide⟩
theorem wpList_app_old {t e : TypeId} {bytes : Nat} {P : Program} (E : EltT P t e fB 1 bytes) {ops : Array Oper} {rest : List Oper} {o : Oper} {a : Act} {Q : Exit → Act → World → Prop} {w : World} (hw : Region.wanted o (yielded ops a.tmps) = true) (s x : Operand)
    (ho : o.op = .call { callee := .builtin .append, args := #[s, x], argTypes := #[t, t] }) (base : Nat) (b : Option Addr) (n c : Nat) (xs : List UInt8) (hs : a.eval s = .slice b n c) (hown : OwT fB w base e (.slice b n c) xs)
    (q : Addr) (m k : Nat) (news : List UInt8) (hx : a.eval x = .slice (some q) m k) (hsl : Sl Bf w (some q) m k news)
    (h63 : xs.length + m ≤ maxLen) (hbytes : (xs.length + m) * bytes ≤ 140737488355328) (hbase : base ≤ w.heap.size)
    (h : ∀ v' w', OwT fB w' base e v' (xs ++ news) → Sl Bf w' b n c xs → Below base w w' → wpList P ops Q rest (a.put o.dst v') w') : wpList P ops Q (o :: rest) a w := by
  obtain ⟨v', w', hr, h2, h3, h4⟩ := run_app_old E w o.type base b n c xs hown q m k news hsl h63 hbytes hbase
  refine wpList_w hw fun K hK => ?_
  unfold Oper.wp execOp
  simp only [ho, resolve, invoke, builtin, Sem.run_bind, Sem.run_pure, Result.andThen_ok, List.map_toArray, List.map_cons, List.map_nil, hs, hx, hr]
  exact hK _ _ (h v' w' h2 h3 h4)
theorem OwT.set1 {w : World} {base : Nat} {e : TypeId} {g n c : Nat} {xs : List UInt8} (h : OwT fB w base e (.slice (some ⟨g, 0, none⟩) n c) xs) (k : Nat) (x y : UInt8) (hx : xs[k]? = some x) :
    w.cell? ⟨g, k, none⟩ = some (.int .u8 (B x)) ∧ w.frozen? ⟨g, k, none⟩ = false ∧ base ≤ g ∧ g < w.heap.size ∧ n = xs.length ∧ OwT fB (w.setCell ⟨g, k, none⟩ (.int .u8 (B y))) base e (.slice (some ⟨g, 0, none⟩) n c) (xs.set k y) := by
  rcases h with ⟨hv, _⟩ | ⟨g', cap, ys, hv, hg, hh, hl, hn, hc, ht⟩
  · cases hv
  · cases hv
    have hk : k < xs.length := (List.getElem?_eq_some_iff.1 hx).1
    have hlt : g < w.heap.size := (Array.getElem?_eq_some_iff.1 hh).1
    have hy : ys[k]? = some x := by rw [← ht] at hx; rwa [List.getElem?_take_of_lt hk] at hx
    refine ⟨?_, free_block hh k, hg, hlt, rfl, .inr ⟨g, c, ys.set k y, by rw [List.length_set], hg, ?_, by rw [List.length_set]; exact hl, by rw [List.length_set]; exact hn, hc, ?_⟩⟩
    · refine cell_of hh k ?_
      rw [flat_fB]
      simp [hy]
    · simp only [World.setCell, Array.getElem?_modify, if_true]
      rw [hh]
      simp only [Option.map_some]
      congr 2
      rw [flat_fB, flat_fB]
      simp [List.map_set]
    · rw [List.length_set, List.take_set, ht]

theorem OwT.some1 {w : World} {base : Nat} {e : TypeId} {a : Option Addr} {n c : Nat} {xs : List UInt8} (h : OwT fB w base e (.slice a n c) xs) (h0 : 0 < xs.length) : ∃ g, a = some ⟨g, 0, none⟩ := by
  rcases h with ⟨hv, rfl⟩ | ⟨g', cap, ys, hv, hg, hh, hl, hn, hc, ht⟩
  · simp at h0
  · cases hv; exact ⟨_, rfl⟩
theorem get_set {xs : List UInt8} {n : Nat} (h : xs.length = n) (k : Nat) (hk : k < n) : ∃ x, xs[k]? = some x := ⟨_, List.getElem?_eq_getElem (by omega)⟩

set_option maxHeartbeats 4000000 in
theorem streamNames_walk (w : World) : Calls Try.prog 5 #[] w fun e w' => e = .returned (.bool true) ∧ Below w.heap.size w w' := by
  go_enter Try.func5, Try.ntmps5
  go_wp2_with fail
  refine (lives_any _).mono ?_
  rintro e w1 ⟨rfl, hb⟩
  have FB := Lib.hid hb
  clear hb
  go_wp2_with fail
  refine (two3_any _).mono ?_
  rintro e w2 ⟨g, rfl, hT, -, -, -, -, hb⟩
  have T := Lib.hid hT
  replace FB := Lib.hid (keep_trans FB.out hb)
  have lw2 := FB.out.size
  clear hT hb
  go_wp2_with fail
  have HC := sbytes_any (some ⟨g, 0, none⟩) 3 3 es3 2 w2 (by decide) (es_fit) T.out
  rw [nB_e] at HC
  dsimp only at HC
  change Calls _ _ _ _ (fun e w' => ∃ v, _ ∧ OwT fB w' w2.heap.size _ v nB ∧ _) at HC
  have HC := Lib.hid HC
  refine HC.out.mono ?_
  rintro e w3 ⟨_, rfl, ho, hb⟩
  obtain ⟨aB, nn, cB, rfl, zB⟩ := ho.slN
  have hnn : nn = 72 := by rw [← zB.len]; exact nB_len
  subst hnn
  have O := Lib.hid ho
  have q3 := hb.size
  replace FB := Lib.hid (keep_trans FB.out hb)
  have cB72 := O.out.slI.le
  have hc1 := fun W : World => run_cutto eltB W aB 72 cB .i64 10 (by omega)
  have hc2 := fun W : World => run_cut eltB W aB 72 cB .i64 .i64 27 36 (by decide) (by omega)
  have hc3 := fun W : World => run_cut eltB W aB 72 cB .i64 .i64 40 56 (by decide) (by omega)
  have hc4 := fun W : World => run_cutfrom eltB W aB 72 cB .i64 60 (by decide)
  have hc5 := fun W : World => run_cutto eltB W aB 72 cB .i64 71 (by omega)
  push_cast at hc1 hc2 hc3 hc4 hc5
  clear HC T ho zB hb cB72
  go_wp2_with fail
  have SL := Lib.hid (Sl.lit (f := Bf) w3 5 #[.int .u8 99, .int .u8 111, .int .u8 112, .int .u8 112, .int .u8 105, .int .u8 99, .int .u8 101, .int .u8 1, .int .u8 66, .int .u8 13] [99, 111, 112, 112, 105, 99, 101, 1, 66, 13] 10 rfl rfl)
  have hal : Below w3.heap.size w3 (w3.alloc (.cells #[.int .u8 99, .int .u8 111, .int .u8 112, .int .u8 112, .int .u8 105, .int .u8 99, .int .u8 101, .int .u8 1, .int .u8 66, .int .u8 13] 5)) := (Below.refl _ _).alloc (Nat.le_refl _) _
  have Z := Lib.hid ((O.out.slI.upto 10 (by decide)))
  rw [nB_a] at Z
  refine (same_any aB 10 cB [99, 111, 112, 112, 105, 99, 101, 1, 66, 13] _ 10 10 [99, 111, 112, 112, 105, 99, 101, 1, 66, 13] _ (by decide) (by decide) (Z.out.keep hal) SL.out).mono ?_
  rintro e w4 ⟨rfl, hb4⟩
  rw [decide_eq_true rfl]
  replace O := Lib.hid (O.out.keep (keep_trans hal hb4))
  replace FB := Lib.hid (keep_trans FB.out (keep_trans hal hb4))
  replace q3 := Nat.le_trans q3 (keep_trans hal hb4).size
  clear hal hb4 SL Z
  go_wp2_with fail
  have SL := Lib.hid (Sl.lit (f := Bf) w4 5 #[.int .u8 66, .int .u8 7, .int .u8 1, .int .u8 0, .int .u8 1, .int .u8 0, .int .u8 99, .int .u8 1, .int .u8 0] [66, 7, 1, 0, 1, 0, 99, 1, 0] 9 rfl rfl)
  have hal : Below w4.heap.size w4 (w4.alloc (.cells #[.int .u8 66, .int .u8 7, .int .u8 1, .int .u8 0, .int .u8 1, .int .u8 0, .int .u8 99, .int .u8 1, .int .u8 0] 5)) := (Below.refl _ _).alloc (Nat.le_refl _) _
  have Z := Lib.hid ((O.out.slI.cut 27 36 (by decide) (by decide)))
  rw [nB_b] at Z
  refine (same_any (adv aB cB 27) 9 (cB - 27) [66, 7, 1, 0, 1, 0, 99, 1, 0] _ 9 9 [66, 7, 1, 0, 1, 0, 99, 1, 0] _ (by decide) (by decide) (Z.out.keep hal) SL.out).mono ?_
  rintro e w5 ⟨rfl, hb4⟩
  rw [decide_eq_true rfl]
  replace O := Lib.hid (O.out.keep (keep_trans hal hb4))
  replace FB := Lib.hid (keep_trans FB.out (keep_trans hal hb4))
  replace q3 := Nat.le_trans q3 (keep_trans hal hb4).size
  clear hal hb4 SL Z
  go_wp2_with fail
  have SL := Lib.hid (Sl.lit (f := Bf) w5 5 #[.int .u8 70, .int .u8 14, .int .u8 2, .int .u8 3, .int .u8 97, .int .u8 98, .int .u8 99, .int .u8 8, .int .u8 19, .int .u8 2, .int .u8 1, .int .u8 99, .int .u8 27, .int .u8 13, .int .u8 1, .int .u8 3] [70, 14, 2, 3, 97, 98, 99, 8, 19, 2, 1, 99, 27, 13, 1, 3] 16 rfl rfl)
  have hal : Below w5.heap.size w5 (w5.alloc (.cells #[.int .u8 70, .int .u8 14, .int .u8 2, .int .u8 3, .int .u8 97, .int .u8 98, .int .u8 99, .int .u8 8, .int .u8 19, .int .u8 2, .int .u8 1, .int .u8 99, .int .u8 27, .int .u8 13, .int .u8 1, .int .u8 3] 5)) := (Below.refl _ _).alloc (Nat.le_refl _) _
  have Z := Lib.hid ((O.out.slI.cut 40 56 (by decide) (by decide)))
  rw [nB_c] at Z
  refine (same_any (adv aB cB 40) 16 (cB - 40) [70, 14, 2, 3, 97, 98, 99, 8, 19, 2, 1, 99, 27, 13, 1, 3] _ 16 16 [70, 14, 2, 3, 97, 98, 99, 8, 19, 2, 1, 99, 27, 13, 1, 3] _ (by decide) (by decide) (Z.out.keep hal) SL.out).mono ?_
  rintro e w6 ⟨rfl, hb4⟩
  rw [decide_eq_true rfl]
  replace O := Lib.hid (O.out.keep (keep_trans hal hb4))
  replace FB := Lib.hid (keep_trans FB.out (keep_trans hal hb4))
  replace q3 := Nat.le_trans q3 (keep_trans hal hb4).size
  clear hal hb4 SL Z
  go_wp2_with fail
  have SL := Lib.hid (Sl.lit (f := Bf) w6 5 #[.int .u8 40, .int .u8 0, .int .u8 0, .int .u8 0, .int .u8 0, .int .u8 0, .int .u8 0, .int .u8 0, .int .u8 101, .int .u8 110, .int .u8 100, .int .u8 46] [40, 0, 0, 0, 0, 0, 0, 0, 101, 110, 100, 46] 12 rfl rfl)
  have hal : Below w6.heap.size w6 (w6.alloc (.cells #[.int .u8 40, .int .u8 0, .int .u8 0, .int .u8 0, .int .u8 0, .int .u8 0, .int .u8 0, .int .u8 0, .int .u8 101, .int .u8 110, .int .u8 100, .int .u8 46] 5)) := (Below.refl _ _).alloc (Nat.le_refl _) _
  have Z := Lib.hid ((O.out.slI.from 60 (by decide)))
  rw [nB_d] at Z
  refine (same_any (adv aB cB 60) 12 (cB - 60) [40, 0, 0, 0, 0, 0, 0, 0, 101, 110, 100, 46] _ 12 12 [40, 0, 0, 0, 0, 0, 0, 0, 101, 110, 100, 46] _ (by decide) (by decide) (Z.out.keep hal) SL.out).mono ?_
  rintro e w7 ⟨rfl, hb4⟩
  rw [decide_eq_true rfl]
  replace O := Lib.hid (O.out.keep (keep_trans hal hb4))
  replace FB := Lib.hid (keep_trans FB.out (keep_trans hal hb4))
  replace q3 := Nat.le_trans q3 (keep_trans hal hb4).size
  clear hal hb4 SL Z
  go_wp2_with fail
  have HC := sparse_err np1 (by decide) aB 71 cB w7 (by decide) (O.out.slI.upto 71 (by decide))
  refine HC.mono ?_
  rintro e w8 ⟨rfl, hb4⟩
  replace O := Lib.hid (O.out.keep hb4)
  replace FB := Lib.hid (keep_trans FB.out hb4)
  replace q3 := Nat.le_trans q3 hb4.size
  clear hb4 HC hc1 hc2 hc3 hc4 hc5
  go_wp2_with (at_builtin; refine wpList_app_old eltTB rfl (.tmp 79) (.tmp 80) rfl w2.heap.size aB 72 cB nB (by rfl) (O.out.alloc _) _ 1 1 [0] (by rfl) (Sl.lit _ _ _ _ _ rfl rfl) (by rw [nB_len]; decide) (by rw [nB_len]; decide) (by simp; omega) ?_; intro v9 w9 h9 hz9 hb9; obtain ⟨a9, n9, c9, rfl, z9⟩ := h9.slN; have hn9 : n9 = 73 := (by rw [← z9.len, List.length_append, nB_len]; rfl); subst hn9; have Z9 := Lib.hid z9; have Z := Lib.hid hz9; have hb := ((Below.refl w2.heap.size w8).alloc q3 _).trans hb9; have FB := Lib.hid (FB.out.trans (hb.mono lw2)); have q9 := Nat.le_trans q3 hb.size; clear h9 hz9 hb9 hb z9)
  clear O
  have HC := sparse_err np2 (by decide) a9 73 c9 w9 (by decide) Z9.out
  refine HC.mono ?_
  rintro e w10 ⟨rfl, hb4⟩
  replace Z := Lib.hid (Z.out.keep hb4)
  replace FB := Lib.hid (keep_trans FB.out hb4)
  have q10 := Nat.le_trans q9 hb4.size
  clear hb4 HC Z9
  go_wp2_with (at_builtin; refine wpList_appT eltTB rfl (.tmp 86) (.tmp 87) rfl w10.heap.size _ [] (by rfl) (OwT.lit fB w10 w10.heap.size _ _ [] 0 rfl rfl (Nat.le_refl _) (Nat.zero_le _)) aB 72 cB nB (by rfl) (Z.out.keep ((Below.refl _ _).alloc (Nat.le_refl _) _)).toT (by unfold maxLen; simp) (by simp) (by simp) nB rfl ?_; intro v11 w11 h11 hg11 hv11 hb11; obtain ⟨a11, n11, c11, rfl, z11⟩ := h11.slN; have hn11 : n11 = 72 := (by rw [← z11.len]; exact nB_len); subst hn11; obtain ⟨g1, hg1⟩ := h11.some1 (by rw [nB_len]; decide); subst hg1; have O := Lib.hid h11; have hb := ((Below.refl w10.heap.size w10).alloc (Nat.le_refl _) _).trans hb11; have FB := Lib.hid (keep_trans FB.out hb); have q11 := hb.size; clear h11 hg11 hv11 hb11 hb z11; have lw := FB.out.size; have lw10 : w.heap.size ≤ w10.heap.size := Nat.le_trans lw2 q10; have lN : nB.length = 72 := nB_len; obtain ⟨x1, hx1⟩ := get_set (xs := nB) (n := 72) (by first | exact lN | (simp only [List.length_set]; exact lN)) 0 (by decide); obtain ⟨cc1, ff1, lg1, -, -, ho1⟩ := (O.out).set1 0 x1 64 hx1; have ho1 : OwT fB (w11.setCell ⟨g1, 0, none⟩ (.int .u8 64)) w10.heap.size 5 (.slice (some ⟨g1, 0, none⟩) 72 c11) (nB.set 0 64) := ho1; replace O := Lib.hid ho1; replace FB := Lib.hid (FB.out.setCell (p := ⟨g1, 0, none⟩) (show w.heap.size ≤ g1 by omega) (.int .u8 64)))
  clear Z
  clear ho1 hx1
  clear cc1 ff1
  generalize (w11.setCell ⟨g1, 0, none⟩ (.int .u8 64)) = w12 at *
  have HC := sparse_err np3 (by decide) (some ⟨g1, 0, none⟩) 72 c11 w12 (by decide) O.out.slI
  refine HC.mono ?_
  rintro e w13 ⟨rfl, hb4⟩
  replace O := Lib.hid (O.out.keep hb4)
  replace FB := Lib.hid (keep_trans FB.out hb4)
  clear hb4 HC lg1
  obtain ⟨x1, hx1⟩ := get_set (xs := (nB.set 0 64)) (n := 72) (by first | exact lN | (simp only [List.length_set]; exact lN)) 0 (by decide)
  obtain ⟨cc1, ff1, lg1, -, -, ho1⟩ := (O.out).set1 0 x1 99 hx1
  have ho1 : OwT fB (w13.setCell ⟨g1, 0, none⟩ (.int .u8 99)) w10.heap.size 5 (.slice (some ⟨g1, 0, none⟩) 72 c11) ((nB.set 0 64).set 0 99) := ho1
  obtain ⟨x2, hx2⟩ := get_set (xs := ((nB.set 0 64).set 0 99)) (n := 72) (by first | exact lN | (simp only [List.length_set]; exact lN)) 8 (by decide)
  obtain ⟨cc2, ff2, lg2, -, -, ho2⟩ := (ho1).set1 8 x2 71 hx2
  have ho2 : OwT fB ((w13.setCell ⟨g1, 0, none⟩ (.int .u8 99)).setCell ⟨g1, 8, none⟩ (.int .u8 71)) w10.heap.size 5 (.slice (some ⟨g1, 0, none⟩) 72 c11) (((nB.set 0 64).set 0 99).set 8 71) := ho2
  obtain ⟨x3, hx3⟩ := get_set (xs := (nB.set 0 64)) (n := 72) (by first | exact lN | (simp only [List.length_set]; exact lN)) 8 (by decide)
  obtain ⟨cc3, ff3, -, -, -, -⟩ := (O.out).set1 8 x3 0 hx3
  replace O := Lib.hid ho2
  replace FB := Lib.hid (FB.out.setCell (p := ⟨g1, 0, none⟩) (show w.heap.size ≤ g1 by omega) (.int .u8 99))
  replace FB := Lib.hid (FB.out.setCell (p := ⟨g1, 8, none⟩) (show w.heap.size ≤ g1 by omega) (.int .u8 71))
  clear ho1 hx1 ho2 hx2 hx3
  go_wp2_with fail
  clear cc1 ff1 cc2 ff2 cc3 ff3
  generalize ((w13.setCell ⟨g1, 0, none⟩ (.int .u8 99)).setCell ⟨g1, 8, none⟩ (.int .u8 71)) = w14 at *
  have HC := sparse_err np4 (by decide) (some ⟨g1, 0, none⟩) 72 c11 w14 (by decide) O.out.slI
  refine HC.mono ?_
  rintro e w15 ⟨rfl, hb4⟩
  replace O := Lib.hid (O.out.keep hb4)
  replace FB := Lib.hid (keep_trans FB.out hb4)
  clear hb4 HC lg1 lg2
  obtain ⟨x1, hx1⟩ := get_set (xs := (((nB.set 0 64).set 0 99).set 8 71)) (n := 72) (by first | exact lN | (simp only [List.length_set]; exact lN)) 8 (by decide)
  obtain ⟨cc1, ff1, lg1, -, -, ho1⟩ := (O.out).set1 8 x1 66 hx1
  have ho1 : OwT fB (w15.setCell ⟨g1, 8, none⟩ (.int .u8 66)) w10.heap.size 5 (.slice (some ⟨g1, 0, none⟩) 72 c11) ((((nB.set 0 64).set 0 99).set 8 71).set 8 66) := ho1
  obtain ⟨x2, hx2⟩ := get_set (xs := ((((nB.set 0 64).set 0 99).set 8 71).set 8 66)) (n := 72) (by first | exact lN | (simp only [List.length_set]; exact lN)) 41 (by decide)
  obtain ⟨cc2, ff2, lg2, -, -, ho2⟩ := (ho1).set1 41 x2 13 hx2
  have ho2 : OwT fB ((w15.setCell ⟨g1, 8, none⟩ (.int .u8 66)).setCell ⟨g1, 41, none⟩ (.int .u8 13)) w10.heap.size 5 (.slice (some ⟨g1, 0, none⟩) 72 c11) (((((nB.set 0 64).set 0 99).set 8 71).set 8 66).set 41 13) := ho2
  obtain ⟨x3, hx3⟩ := get_set (xs := (((nB.set 0 64).set 0 99).set 8 71)) (n := 72) (by first | exact lN | (simp only [List.length_set]; exact lN)) 41 (by decide)
  obtain ⟨cc3, ff3, -, -, -, -⟩ := (O.out).set1 41 x3 0 hx3
  replace O := Lib.hid ho2
  replace FB := Lib.hid (FB.out.setCell (p := ⟨g1, 8, none⟩) (show w.heap.size ≤ g1 by omega) (.int .u8 66))
  replace FB := Lib.hid (FB.out.setCell (p := ⟨g1, 41, none⟩) (show w.heap.size ≤ g1 by omega) (.int .u8 13))
  clear ho1 hx1 ho2 hx2 hx3
  go_wp2_with fail
  clear cc1 ff1 cc2 ff2 cc3 ff3
  generalize ((w15.setCell ⟨g1, 8, none⟩ (.int .u8 66)).setCell ⟨g1, 41, none⟩ (.int .u8 13)) = w16 at *
  have HC := sparse_err np5 (by decide) (some ⟨g1, 0, none⟩) 72 c11 w16 (by decide) O.out.slI
  refine HC.mono ?_
  rintro e w17 ⟨rfl, hb4⟩
  replace O := Lib.hid (O.out.keep hb4)
  replace FB := Lib.hid (keep_trans FB.out hb4)
  clear hb4 HC lg1 lg2
  obtain ⟨x1, hx1⟩ := get_set (xs := (((((nB.set 0 64).set 0 99).set 8 71).set 8 66).set 41 13)) (n := 72) (by first | exact lN | (simp only [List.length_set]; exact lN)) 41 (by decide)
  obtain ⟨cc1, ff1, lg1, -, -, ho1⟩ := (O.out).set1 41 x1 14 hx1
  have ho1 : OwT fB (w17.setCell ⟨g1, 41, none⟩ (.int .u8 14)) w10.heap.size 5 (.slice (some ⟨g1, 0, none⟩) 72 c11) ((((((nB.set 0 64).set 0 99).set 8 71).set 8 66).set 41 13).set 41 14) := ho1
  obtain ⟨x2, hx2⟩ := get_set (xs := ((((((nB.set 0 64).set 0 99).set 8 71).set 8 66).set 41 13).set 41 14)) (n := 72) (by first | exact lN | (simp only [List.length_set]; exact lN)) 60 (by decide)
  obtain ⟨cc2, ff2, lg2, -, -, ho2⟩ := (ho1).set1 60 x2 41 hx2
  have ho2 : OwT fB ((w17.setCell ⟨g1, 41, none⟩ (.int .u8 14)).setCell ⟨g1, 60, none⟩ (.int .u8 41)) w10.heap.size 5 (.slice (some ⟨g1, 0, none⟩) 72 c11) (((((((nB.set 0 64).set 0 99).set 8 71).set 8 66).set 41 13).set 41 14).set 60 41) := ho2
  obtain ⟨x3, hx3⟩ := get_set (xs := (((((nB.set 0 64).set 0 99).set 8 71).set 8 66).set 41 13)) (n := 72) (by first | exact lN | (simp only [List.length_set]; exact lN)) 60 (by decide)
  obtain ⟨cc3, ff3, -, -, -, -⟩ := (O.out).set1 60 x3 0 hx3
  replace O := Lib.hid ho2
  replace FB := Lib.hid (FB.out.setCell (p := ⟨g1, 41, none⟩) (show w.heap.size ≤ g1 by omega) (.int .u8 14))
  replace FB := Lib.hid (FB.out.setCell (p := ⟨g1, 60, none⟩) (show w.heap.size ≤ g1 by omega) (.int .u8 41))
  clear ho1 hx1 ho2 hx2 hx3
  go_wp2_with fail
  clear cc1 ff1 cc2 ff2 cc3 ff3
  generalize ((w17.setCell ⟨g1, 41, none⟩ (.int .u8 14)).setCell ⟨g1, 60, none⟩ (.int .u8 41)) = w18 at *
  have HC := sparse_err np6 (by decide) (some ⟨g1, 0, none⟩) 72 c11 w18 (by decide) O.out.slI
  refine HC.mono ?_
  rintro e w19 ⟨rfl, hb4⟩
  replace FB := Lib.hid (keep_trans FB.out hb4)
  have LW19 := Lib.hid FB.out.size
  clear hb4 HC lg1 lg2
  clear O
  go_wp2_with fail
  refine (snew_any 1 w19 (by decide) (by decide)).mono ?_
  rintro e w20 ⟨gw, who, rfl, hw, hb4⟩
  have LO := Lib.hid hw.low
  have W := Lib.hid hw
  replace FB := Lib.hid (keep_trans FB.out hb4)
  have lw19 := Nat.le_trans (show w.heap.size ≤ w19.heap.size from LW19.out) (Nat.le_refl _)
  clear hw hb4
  go_wp2_with fail
  have HC := sclose_any w20 w19.heap.size gw 1 WS0 who W.out (WS.Ok.zero (by decide))
  refine HC.mono ?_
  rintro e w21 ⟨rfl, who2, hS2, hG2⟩
  have S2 := Lib.hid (show WrS w21 w19.heap.size gw 1 WS0.close who2 from hS2)
  replace FB := Lib.hid (hG2.t.below FB.out (Nat.le_trans lw19 LO.out.2) (fun j hj => Nat.le_trans lw19 (LO.out.1 j hj).1))
  clear hS2 hG2 HC W LO
  go_wp2_with fail
  refine (two3_any _).mono ?_
  rintro e w22 ⟨g2, rfl, -, hx0, hx1, hz0, hz1, hb4⟩
  have LO := Lib.hid S2.out.low
  replace S2 := Lib.hid (S2.out.keep hb4)
  have Z0 := Lib.hid hz0
  have Z1 := Lib.hid hz1
  replace FB := Lib.hid (keep_trans FB.out hb4)
  clear hz0 hz1 hb4
  go_wp2_with fail
  have HC := sadd_any w22 w19.heap.size gw 1 WS0.close who2 _ 2 2 [97, 98] _ 1 1 [49] S2.out ((WS.Ok.zero (by decide)).close rfl) (by decide) (by decide) Z0.out Z1.out
    (fun b o e h0 => Classical.byContradiction fun e2 => by cases e; have := (LO.out.1 _ e2).2; omega)
    (fun b o e h0 => Classical.byContradiction fun e2 => by cases e; have := (LO.out.1 _ e2).2; omega)
  rw [show (WS0.close.add 1 ([97, 98], [49])).1 = 87 by kernel_rfl] at HC
  refine HC.mono ?_
  rintro e w23 ⟨rfl, who3, hS3, hG3⟩
  replace FB := Lib.hid (hG3.t.below FB.out FB.out.size (fun j hj => Nat.le_trans lw19 (LO.out.1 j hj).1))
  clear hS3 hG3 HC LO S2 Z0 Z1 hx0 hx1
  go_wp2_with fail
  have HC := sparse_err np7 (by decide) (some ⟨w23.heap.size, 0, none⟩) 10 10 _ (by decide) (Sl.lit (f := Bf) w23 5 #[.int .u8 99, .int .u8 111, .int .u8 112, .int .u8 112, .int .u8 105, .int .u8 99, .int .u8 101, .int .u8 1, .int .u8 66, .int .u8 0] [99, 111, 112, 112, 105, 99, 101, 1, 66, 0] 10 rfl rfl)
  refine HC.mono ?_
  rintro e w24 ⟨rfl, hb4⟩
  have hal : Below w23.heap.size w23 (w23.alloc (.cells #[.int .u8 99, .int .u8 111, .int .u8 112, .int .u8 112, .int .u8 105, .int .u8 99, .int .u8 101, .int .u8 1, .int .u8 66, .int .u8 0] 5)) := (Below.refl _ _).alloc (Nat.le_refl _) _
  replace FB := Lib.hid (keep_trans FB.out (keep_trans hal hb4))
  clear hal hb4 HC
  go_wp2_with fail
  go_ret
  exact ⟨rfl, FB.out⟩
end Go.Proofs.Ytljcogimeimknaa

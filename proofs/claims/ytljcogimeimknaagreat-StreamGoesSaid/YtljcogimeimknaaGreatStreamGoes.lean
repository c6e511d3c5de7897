/- StreamGoes: the walk. Conditions: what it is handed within reach. -/
import Derived.Test.YtljcogimeimknaaGreatGoesM
import Derived.Test.YtljcogimeimknaaGreatRdRNew
import Derived.Test.YtljcogimeimknaaGreatK8y
namespace Go.Proofs.YtljcogimeimknaaGreat
open Go.RowKit Go.Shelf
open Lib (hid)
attribute [local go_sem] Oper.semAt_some
set_option maxRecDepth 100000
set_option linter.unusedVariables false
set_option linter.unusedSimpArgs false

set_option maxHeartbeats 16000000 in
theorem streamGoes_walk (ab : Option Addr) (nb cb : Nat) (bs : List UInt8) (ag : Option Addr) (ng cg : Nat) (gs : List Int) (xf : Int) (eager : Bool) (al : Option Addr) (nl cl : Nat) (xs : List UInt8) (w : World)
 (hnb : nb ≤ 140737488351232) (hng : ng ≤ 17592186043904) (hnl : nl ≤ 140737488351232) (hI : Ints gs) (hB : Sl Bf w ab nb cb bs) (hG : Sl fZ w ag ng cg gs) (hA : Sl Bf w al nl cl xs) :
 Calls Tryz.prog 6 #[.agg #[.slice ab nb cb, .slice ag ng cg, .int .i64 xf, .bool eager], .slice al nl cl] w fun e w' => e = .returned (.bool true) ∧ Below w.heap.size w w' := by
 obtain rfl : bs.length = nb := hB.len
 obtain rfl : xs.length = nl := hA.len
 have HB := hid hB
 have HG := hid hG
 have HI := hid hI
 have HA := hid hA
 clear hB hG hI hA
 obtain ⟨w0, hw0⟩ : ∃ V, w.alloc (.cells #[.slice ab bs.length cb, .slice ag ng cg, .int .i64 xf, .bool eager] 57) = V := ⟨_, rfl⟩
 have b0 : Below w.heap.size w w0 := hw0 ▸ (Below.refl _ _).alloc (Nat.le_refl _) _
 have x0 : w0.heap[w.heap.size]? = some (.cells #[.slice ab bs.length cb, .slice ag ng cg, .int .i64 xf, .bool eager] 57 (0, 0)) := hw0 ▸ heap_new w _
 obtain ⟨gx, hgx⟩ : ∃ gx, w.heap.size = gx := ⟨_, rfl⟩
 have HGX := hid hgx
 have X0 := hid (show w0.heap[gx]? = some (.cells #[.slice ab bs.length cb, .slice ag ng cg, .int .i64 xf, .bool eager] 57 (0, 0)) by rw [← hgx]; exact x0)
 have B0 := hid b0
 have HW0 := hid hw0
 clear b0 x0 hgx hw0
 refine (callsIn_wide (n := 4)).1 ?_
 refine callsIn_of_wp_marks Tryz.func6 rfl trivial ?_ rfl
 simp only [Tryz.ntmps6, List.size_toArray, List.length_cons, List.length_nil, Nat.reduceAdd, Nat.reduceSub, Array.replicate_succ, Array.replicate_zero, List.push_toArray, List.append_toArray, List.nil_append, List.cons_append]
 gi_wp2
 refine ⟨trivial, ?_⟩
 rw [HW0.out, HGX.out]
 refine (callsIn_wide.2 (lives_any _)).mono ?_
 rintro e w1 ⟨rfl, hb⟩
 have B1 := hid (keep_trans B0.out hb)
 have X1 := hid ((hb.block gx (Array.getElem?_eq_some_iff.1 X0.out).1).trans X0.out)
 clear hb
 have y0 := cell_of X1.out 0 rfl
 have y1 := cell_of X1.out 1 rfl
 have y2 := cell_of X1.out 2 rfl
 have y3 := cell_of X1.out 3 rfl
 have NS := hid (newSource_any ab bs.length cb bs ag ng cg gs xf eager w1 hnb hng HI.out (HB.out.keep B1.out) (HG.out.keep B1.out))
 gi_wp2
 refine ⟨trivial, ?_⟩
 refine (callsIn_wide.2 NS.out).mono ?_
 rintro e w2 ⟨gq, S, rfl, hs, hb⟩
 have SP2 := hid hs
 have B2 := hid (keep_trans B1.out hb)
 have X2 := hid (blk_keep X1.out hb)
 have hlo : w1.heap.size ≤ w2.heap.size := hb.size
 obtain ⟨lo, hlo2⟩ : ∃ lo, w1.heap.size = lo := ⟨_, rfl⟩
 rw [hlo2] at SP2 hlo
 have hl0 : w.heap.size ≤ lo := by rw [← hlo2]; exact B1.out.size
 have hxl : gx < lo := by rw [← hlo2]; exact (Array.getElem?_eq_some_iff.1 X1.out).1
 clear hs hb NS y0 y1 y2 y3 hlo2
 have y0 := cell_of X2.out 0 rfl
 have y1 := cell_of X2.out 1 rfl
 have y2 := cell_of X2.out 2 rfl
 have y3 := cell_of X2.out 3 rfl
 obtain ⟨w3, hw3⟩ : ∃ V, w2.alloc (.cells (rcells ab bs.length cb ag ng cg xf eager 0 0) 65) = V := ⟨_, rfl⟩
 have b3 : Below w2.heap.size w2 w3 := hw3 ▸ (Below.refl _ _).alloc (Nat.le_refl _) _
 have gt3 : w3.heap[w2.heap.size]? = some (.cells (rcells ab bs.length cb ag ng cg xf eager 0 0) 65 (0, 0)) := hw3 ▸ heap_new w2 _
 have hz3 : w3.heap.size = w2.heap.size + 1 := by rw [← hw3]; simp
 have HW3 := hid (show w2.alloc (.cells #[.slice ab bs.length cb, .slice ag ng cg, .int .i64 xf, .bool eager, .int .i64 0, .int .i64 0, .bool false, .slice none 0 0, .slice none 0 0, .int .u8 0, .int .u8 0, .slice none 0 0] 65) = w3 from hw3)
 clear hw3
 gi_wp2
 refine ⟨trivial, ?_⟩
 rw [HW3.out]
 have RN := rdnew_any (SP2.out.keep b3) (by omega)
 refine (callsIn_wide.2 RN).mono ?_
 rintro e w4 ⟨g, gi, who, rfl, hR4, hb4, hwo⟩
 have gt4 := blk_keep gt3 hb4
 obtain ⟨gt, hgt⟩ : ∃ gt, w2.heap.size = gt := ⟨_, rfl⟩
 have HGT := hid hgt
 rw [hgt] at gt3 gt4 hz3 hlo
 have hlb : ∀ b o, ab = some ⟨b, o, none⟩ → 0 < bs.length → b < lo := fun b o e hn => by subst e; have := HB.out.blt hn; omega
 have hlg : ∀ b o, ag = some ⟨b, o, none⟩ → 0 < ng → b < lo := fun b o e hn => by subst e; have := HG.out.blt hn; omega
 have b24 := keep_trans b3 hb4
 have B4 := hid (keep_trans B2.out b24)
 have RW := refnew_any (HB.out.keep B4.out) (HG.out.keep B4.out) HI.out hlb hlg gt4 hlo
 have hin := SP2.out.inS
 have RW4 := hid RW
 have R4 := hid hR4
 have WO4 := hid (show ∀ j, who j ≠ 0 → j ≠ gt from fun j hj => by
  rcases hwo j hj with e | e
  · have := (hin j e).2; omega
  · omega)
 have B24 := hid b24
 clear hR4 hb4 b3 gt3 gt4 hlb hlg RW hin RN hwo b24 hgt y0 y1 y2 y3
 rw [HGT.out]
 gi_wp2
 refine ⟨trivial, ?_⟩
 refine (callsIn_wide.2 RW4.out).mono ?_
 rintro e w5 ⟨g2, gi2, who2, rfl, hR5, hb5, hwo5⟩
 have D5 := hid (show RDuo w2 w5 bs lo gq g gi gt g2 gi2 false S (fun j => j = gt ∨ j = gi2) (.slice none 0 0) (.slice none 0 0) (.slice none 0 0) (.slice none 0 0) [] [] (RS0 ⟨gs, xf, 0, bs, eager⟩) (RS0 ⟨gs, xf, 0, bs, eager⟩) who who2 from
  { l := R4.out.keep hb5, r := hR5
    d := fun j hj => Classical.byContradiction fun e => by
     rcases hwo5 j e with q | q
     · exact WO4.out j hj q
     · have := (R4.out.low j hj).2; omega
    b := (keep_trans B24.out hb5).mono (by rw [HGT.out]; exact hlo) })
 have hB0 : Below w.heap.size w w2 := B2.out
 have OK5 := hid (RS0.ok (L := bs.length) (x := ⟨gs, xf, 0, bs, eager⟩) (show bs.length ≤ bs.length from Nat.le_refl _) rfl)
 clear hR5 hb5 hwo5 R4 RW4 WO4 B24 SP2 X2 HB HG HI HGT HW3
 gi_wp2
 refine wpIn_loop_ghost_k (fun f a' W => ∃ (k : Nat) (u11 u12 u13 u14 u15 u16 u17 u18 u19 u20 u21 u22 u42 u43 u44 u45 u46 u47 u48 u49 u50 u51 u52 u53 u54 u55 u56 u57 u58 u59 u60 u61 u62 u63 u64 u65 u66 u67 u68 u69 u70 u71 u72 u73 u74 u75 u76 u77 u78 u79 u80 u81 u82 u83 u84 u85 u86 u87 u88 u89 u90 u91 u92 u93 u94 u95 u96 u97 u98 u99 u100 u101 u102 u103 u104 u105 u106 u107 u108 u109 u110 u111 : Value) (bg : Bool) (S S' : Nat → Prop) (lv rv lv' rv' : Value) (vs vs' : List RV) (s : RS) (left : List Ent) (who who' : Nat → Nat) (Q : Nat → Prop) (Ds : List Nat), a' = ({ tmps := #[.agg #[.slice ab bs.length cb, .slice ag ng cg, .int .i64 xf, .bool eager], .slice al xs.length cl, .pointer (some ⟨gx, 0, none⟩), undef, .bool false, .bool true, .pointer (some ⟨gq, 0, none⟩), .pointer (some ⟨gt, 0, none⟩), .pointer (some ⟨g, 0, none⟩), .pointer (some ⟨g2, 0, none⟩), .int .i64 (k : Nat), u11, u12, u13, u14, u15, u16, u17, u18, u19, u20, u21, u22, .bool true, .agg #[.slice ab bs.length cb, .slice ag ng cg, .int .i64 xf, .bool eager], .pointer (some ⟨gq, 0, none⟩), .bool true, .bool false, .bool false, .pointer (some ⟨gq, 0, none⟩), .bool false, .bool false, .agg #[.slice ab bs.length cb, .slice ag ng cg, .int .i64 xf, .bool eager], .agg #[.slice ab bs.length cb, .slice ag ng cg, .int .i64 xf, .bool eager, .int .i64 0, .int .i64 0, .bool false, .slice none 0 0, .slice none 0 0, .int .u8 0, .int .u8 0, .slice none 0 0], .pointer (some ⟨gt, 0, none⟩), .pointer (some ⟨gq, 0, none⟩), .iface 58 (.pointer (some ⟨gq, 0, none⟩)), .pointer (some ⟨g, 0, none⟩), .pointer (some ⟨gt, 0, none⟩), .pointer (some ⟨g2, 0, none⟩), .pointer (some ⟨g, 0, none⟩), .bool false, u42, u43, u44, u45, u46, u47, u48, u49, u50, u51, u52, u53, u54, u55, u56, u57, u58, u59, u60, u61, u62, u63, u64, u65, u66, u67, u68, u69, u70, u71, u72, u73, u74, u75, u76, u77, u78, u79, u80, u81, u82, u83, u84, u85, u86, u87, u88, u89, u90, u91, u92, u93, u94, u95, u96, u97, u98, u99, u100, u101, u102, u103, u104, u105, u106, u107, u108, u109, u110, u111], defers := Ds.map mark } : Act) ∧ f + k = xs.length + 2 ∧ k ≤ xs.length + 1 ∧ RDuo w2 W bs lo gq g gi gt g2 gi2 bg S S' lv rv lv' rv' vs vs' s s who who' ∧ s.Ok bs.length ∧ LfP W lo lv left who Q ∧ LfD W lv' left who' ∧ left.length ≤ 1000 ∧ Ds.Nodup ∧ ∀ D, D ∈ Ds → W.heap[D]? = some (.deferred (some [])) ∧ who D = 0 ∧ who' D = 0 ∧ lo ≤ D) (xs.length + 2) ?_ ?_
 · exact ⟨0, _, _, _, _, _, _, _, _, _, _, _, _, _, _, _, _, _, _, _, _, _, _, _, _, _, _, _, _, _, _, _, _, _, _, _, _, _, _, _, _, _, _, _, _, _, _, _, _, _, _, _, _, _, _, _, _, _, _, _, _, _, _, _, _, _, _, _, _, _, _, _, _, _, _, _, _, _, _, _, _, _, _, _, _, _, _, _, _, _, _, _, _, [], _, _, _, [], rfl, by omega, by omega, D5.out, OK5.out, LfP.nil _ _, LfD.nil _ _ (fun _ => rfl), by simp, List.nodup_nil, fun D h => by simp at h⟩
 · clear D5 OK5
   intro f a' W hz JJ KK hJ hK
   obtain ⟨k, hz⟩ := hz
   obtain ⟨u11, hz⟩ := hz
   obtain ⟨u12, hz⟩ := hz
   obtain ⟨u13, hz⟩ := hz
   obtain ⟨u14, hz⟩ := hz
   obtain ⟨u15, hz⟩ := hz
   obtain ⟨u16, hz⟩ := hz
   obtain ⟨u17, hz⟩ := hz
   obtain ⟨u18, hz⟩ := hz
   obtain ⟨u19, hz⟩ := hz
   obtain ⟨u20, hz⟩ := hz
   obtain ⟨u21, hz⟩ := hz
   obtain ⟨u22, hz⟩ := hz
   obtain ⟨u42, hz⟩ := hz
   obtain ⟨u43, hz⟩ := hz
   obtain ⟨u44, hz⟩ := hz
   obtain ⟨u45, hz⟩ := hz
   obtain ⟨u46, hz⟩ := hz
   obtain ⟨u47, hz⟩ := hz
   obtain ⟨u48, hz⟩ := hz
   obtain ⟨u49, hz⟩ := hz
   obtain ⟨u50, hz⟩ := hz
   obtain ⟨u51, hz⟩ := hz
   obtain ⟨u52, hz⟩ := hz
   obtain ⟨u53, hz⟩ := hz
   obtain ⟨u54, hz⟩ := hz
   obtain ⟨u55, hz⟩ := hz
   obtain ⟨u56, hz⟩ := hz
   obtain ⟨u57, hz⟩ := hz
   obtain ⟨u58, hz⟩ := hz
   obtain ⟨u59, hz⟩ := hz
   obtain ⟨u60, hz⟩ := hz
   obtain ⟨u61, hz⟩ := hz
   obtain ⟨u62, hz⟩ := hz
   obtain ⟨u63, hz⟩ := hz
   obtain ⟨u64, hz⟩ := hz
   obtain ⟨u65, hz⟩ := hz
   obtain ⟨u66, hz⟩ := hz
   obtain ⟨u67, hz⟩ := hz
   obtain ⟨u68, hz⟩ := hz
   obtain ⟨u69, hz⟩ := hz
   obtain ⟨u70, hz⟩ := hz
   obtain ⟨u71, hz⟩ := hz
   obtain ⟨u72, hz⟩ := hz
   obtain ⟨u73, hz⟩ := hz
   obtain ⟨u74, hz⟩ := hz
   obtain ⟨u75, hz⟩ := hz
   obtain ⟨u76, hz⟩ := hz
   obtain ⟨u77, hz⟩ := hz
   obtain ⟨u78, hz⟩ := hz
   obtain ⟨u79, hz⟩ := hz
   obtain ⟨u80, hz⟩ := hz
   obtain ⟨u81, hz⟩ := hz
   obtain ⟨u82, hz⟩ := hz
   obtain ⟨u83, hz⟩ := hz
   obtain ⟨u84, hz⟩ := hz
   obtain ⟨u85, hz⟩ := hz
   obtain ⟨u86, hz⟩ := hz
   obtain ⟨u87, hz⟩ := hz
   obtain ⟨u88, hz⟩ := hz
   obtain ⟨u89, hz⟩ := hz
   obtain ⟨u90, hz⟩ := hz
   obtain ⟨u91, hz⟩ := hz
   obtain ⟨u92, hz⟩ := hz
   obtain ⟨u93, hz⟩ := hz
   obtain ⟨u94, hz⟩ := hz
   obtain ⟨u95, hz⟩ := hz
   obtain ⟨u96, hz⟩ := hz
   obtain ⟨u97, hz⟩ := hz
   obtain ⟨u98, hz⟩ := hz
   obtain ⟨u99, hz⟩ := hz
   obtain ⟨u100, hz⟩ := hz
   obtain ⟨u101, hz⟩ := hz
   obtain ⟨u102, hz⟩ := hz
   obtain ⟨u103, hz⟩ := hz
   obtain ⟨u104, hz⟩ := hz
   obtain ⟨u105, hz⟩ := hz
   obtain ⟨u106, hz⟩ := hz
   obtain ⟨u107, hz⟩ := hz
   obtain ⟨u108, hz⟩ := hz
   obtain ⟨u109, hz⟩ := hz
   obtain ⟨u110, hz⟩ := hz
   obtain ⟨u111, hz⟩ := hz
   obtain ⟨bg, S, S', lv, rv, lv', rv', vs, vs', s, left, who, who', Q, Ds, rfl, hf, hk, hd, hok, hlf, hlf', hl64, hnd, hmk⟩ := hz
   have D := hid hd
   have OK := hid hok
   have LF := hid hlf
   have LD := hid hlf'
   have ND := hid hnd
   have MK := hid hmk
   have HJ := hid hJ
   have HK := hid hK
   have hloW : lo ≤ W.heap.size := hd.l.lw
   clear hd hok hlf hlf' hnd hmk hJ hK
   by_cases hkl : k ≤ xs.length
   case neg =>
    have t0 : decide ((k : Int) ≤ (xs.length : Int)) = false := decide_eq_false (by omega)
    have t0' : decide (k ≤ xs.length) = false := decide_eq_false hkl
    gi_wp2
    show LeavesInM _ _ _ _ _ _ _ _ _
    exact leaves_mk Ds W (fun E hE => (MK.out E hE).1) ND.out fun w' ht => ⟨.bool true, by simp [results, Tryz.results6, go_sem], rfl, ht.below (hB0.trans (D.out.b.mono hl0)) (by omega) fun j hj => by have := (MK.out j hj).2.2.2; omega⟩
   have t0 : decide ((k : Int) ≤ (xs.length : Int)) = true := decide_eq_true (by omega)
   have t0' : decide (k ≤ xs.length) = true := decide_eq_true hkl
   rcases Nat.lt_or_ge k xs.length with hlt | hge
   case' inl =>
    have t1 : decide ((k : Int) < (xs.length : Int)) = true := decide_eq_true (by omega)
    have t1' : decide (k < xs.length) = true := decide_eq_true hlt
    have BA := hid ((Below.refl W.heap.size W).alloc (Nat.le_refl _) (.cells #[.int .i64 4611686018427387904] 3))
    have X11 := hid (show Boxed (W.alloc (.cells #[.int .i64 4611686018427387904] 3)) W.heap.size 3 (.int .i64 4611686018427387904) from heap_new W _)
    obtain ⟨y, yb, yo, hy, rfl, hyc⟩ := (HA.out.keep (keep_trans (hB0.trans (D.out.b.mono hl0)) BA.out)).at k hlt
    have hyc : (W.alloc (.cells #[.int .i64 4611686018427387904] 3)).cell? ⟨yb, yo + k, none⟩ = some (.int .u8 (B y)) := hyc
    obtain ⟨m, hmy⟩ : ∃ m, y.toNat = m := ⟨_, rfl⟩
    have wb : wrap64 (B y) = ((m : Nat) : Int) := by
     have h := y.toNat_lt
     rw [show B y = ((y.toNat : Nat) : Int) from rfl, hmy]
     exact wrap64_lowG (by omega) (by omega)
    have hm256 : m ≤ 256 := by rw [← hmy]; exact Nat.le_of_lt y.toNat_lt
    have hm9 : m ≤ 4611686018427387904 := Nat.le_trans hm256 (Nat.le_of_ble_eq_true rfl)
    have c11 := cell_of X11.out 0 rfl
    have f11 := free_block X11.out 0
    clear hy hmy
    by_cases hm0 : m = 0
    · have t2 : ((m : Int) == 0) = true := by rw [hm0]; rfl
      have t2' : (m == 0) = true := by rw [hm0]; rfl
      have BA0 := (Below.refl W.heap.size W).alloc (Nat.le_refl _) (.cells #[.int .i64 0] 3)
      have TA := Turns.of_below (S := fun _ => False) BA0
      have BL := rdblockL_any (D.out.keep hnb BA0).l (LF.out.turn TA (fun _ e => e.elim) (fun _ e => e)) OK.out hnb hl64
      have BLH := hid BL
      have D1 := hid (D.out.keep hnb BA0)
      have LD1 := hid (LD.out.turn TA (fun _ e => e.elim) (fun _ _ e => e))
      have MK1 := hid (show ∀ E, E ∈ Ds → (W.alloc (.cells #[.int .i64 0] 3)).heap[E]? = some (.deferred (some [])) ∧ who E = 0 ∧ who' E = 0 ∧ lo ≤ E from fun E hE => by
       obtain ⟨h1, h2⟩ := MK.out E hE
       exact ⟨(BA0.block E (Array.getElem?_eq_some_iff.1 h1).1).trans h1, h2⟩)
      obtain ⟨q1, q2, q3, q4⟩ := blL_ok (left := left) OK.out
      have q5 := blL_short OK.out hl64
      clear BL D LF LD MK BA0 TA
      gi_wp2
      generalize W.alloc (.cells #[.int .i64 0] 3) = W1 at *
      refine ⟨trivial, ?_⟩
      refine (callsIn_wide.2 BLH.out).mono ?_
      rintro e W2x ⟨a3, n3, c3, ap, al3, S3, rv3, vs3, who3, rfl, hst, hR3, hG3⟩
      have D2 := hid (D1.out.left hnb hR3 hG3)
      have LD2 := hid (LD1.out.turn hG3.t (fun j hj => by rw [D1.out.d j hj]; decide) (fun _ _ e => e))
      have NW1 := hid D1.out.new
      have LW1 := hid (fun j (hj : who' j ≠ 0) => (D1.out.r.low j hj).2)
      have MK2 := hid (show ∀ E, E ∈ Ds → W2x.heap[E]? = some (.deferred (some [])) ∧ who3 E = 0 ∧ who' E = 0 ∧ lo ≤ E from fun E hE => by
       obtain ⟨h1, h2, h3⟩ := MK1.out E hE
       exact ⟨hG3.t.heap h1 (fun e => e h2), (hG3.o E (Array.getElem?_eq_some_iff.1 h1).1).trans h2, h3⟩)
      have BD := rblkL_any hnb D2.out.r LD2.out OK.out hnb
      rw [q1] at BD
      obtain ⟨⟨⟨lx, ok⟩, s2⟩, hX⟩ : ∃ X, blL mxI s left = X := ⟨_, rfl⟩
      rw [hX] at BD hst q2 q5 D2
      rw [hX]
      dsimp only at hst q2 q5 D2 ⊢
      have BDH := hid BD
      have HST := hid hst
      have OK2 := hid q2
      clear hst hR3 hG3 BD D1 LD1 MK1 BLH q1 q2 q3 q4 hX
      gi_wp2
      refine ⟨trivial, ?_⟩
      refine (callsIn_wide.2 BDH.out).mono ?_
      rintro e W3x ⟨y4, bg4, S4, lv4, rv4, vs4, who4, rfl, hy, hlf4, hR4, hG4⟩
      dsimp only at hy hR4 ⊢
      obtain ⟨a5, c5, v5, rfl, -⟩ := hy.parts
      have D3 := hid (D2.out.right hR4 hG4)
      have LD3 := hid hlf4
      have en1 := HST.out _ W3x hG4.t (fun j hj => ⟨D2.out.d' j hj.1, LW1.out j hj.1⟩)
      have en2 := hy.ents
      have MK3 := hid (show ∀ E, E ∈ Ds → W3x.heap[E]? = some (.deferred (some [])) ∧ who3 E = 0 ∧ who4 E = 0 ∧ lo ≤ E from fun E hE => by
       obtain ⟨h1, h2, h3, h4⟩ := MK2.out E hE
       exact ⟨hG4.t.heap h1 (fun e => e.1 h3), h2, hG4.zero (Array.getElem?_eq_some_iff.1 h1).1 h3, h4⟩)
      obtain ⟨nl, hnl⟩ : ∃ n, lx.length = n := ⟨_, rfl⟩
      obtain rfl : nl = n3 := by rw [← hnl]; exact en1.1
      rw [hnl] at en2 q5
      rw [hnl]
      have SA := hid (sameAll_any a3 nl c3 a5 nl c5 lx lx W3x (by omega) (by omega) en1 en2)
      clear hy hlf4 hR4 hG4 en1 en2 hnl D2 LD2 MK2 NW1 LW1 HST BDH
      gi_wp2
      refine ⟨trivial, ?_⟩
      refine (callsIn_wide.2 SA.out).mono ?_
      rintro e W4x ⟨rfl, hb4⟩
      rw [show decide True = true from rfl]
      have D4 := hid (D3.out.keep hnb hb4)
      have LD4 := hid (LD3.out.turn (Turns.of_below (S := fun _ => False) hb4) (fun _ e => e.elim) (fun _ _ e => e))
      have MK4 := hid (show ∀ E, E ∈ Ds → W4x.heap[E]? = some (.deferred (some [])) ∧ who3 E = 0 ∧ who4 E = 0 ∧ lo ≤ E from fun E hE => by
       obtain ⟨h1, h2⟩ := MK3.out E hE
       exact ⟨(hb4.block E (Array.getElem?_eq_some_iff.1 h1).1).trans h1, h2⟩)
      have u1 : (ok != ok) = false := by simp
      have r2 : IntKind.i64.wrap ((k : Int) + 1) = (k : Int) + 1 := IntWalk.i64_in _ (by omega)
      clear hb4 SA D3 LD3 MK3
      gi_wp2
      refine HK.out _ _ ⟨f - 1, by omega, HJ.out _ _ _ ⟨k + 1, _, _, _, _, _, _, _, _, _, _, _, _, _, _, _, _, _, _, _, _, _, _, _, _, _, _, _, _, _, _, _, _, _, _, _, _, _, _, _, _, _, _, _, _, _, _, _, _, _, _, _, _, _, _, _, _, _, _, _, _, _, _, _, _, _, _, _, _, _, _, _, _, _, _, _, _, _, _, _, _, _, _, _, _, _, _, _, _, _, _, _, _, [], _, _, _, Ds, rfl, by omega, by omega, D4.out, OK2.out, LfP.nil _ _, LD4.out, by simp, ND.out, MK4.out⟩⟩
    have t2 : ((m : Int) == 0) = false := by rw [beq_eq_false_iff_ne]; omega
    have t2' : (m == 0) = false := by rw [beq_eq_false_iff_ne]; omega
    gi_wp2
    clear t1 t1' BA X11 hyc c11 f11 wb t2 t2'
   case' inr =>
    have t1 : decide ((k : Int) < (xs.length : Int)) = false := decide_eq_false (by omega)
    have t1' : decide (k < xs.length) = false := decide_eq_false (by omega)
    have X11 := hid (show Boxed (W.alloc (.cells #[.int .i64 4611686018427387904] 3)) W.heap.size 3 (.int .i64 4611686018427387904) from heap_new W _)
    have c11 := cell_of X11.out 0 rfl
    gi_wp2
    obtain ⟨m, hm⟩ : ∃ m : Nat, 4611686018427387904 = m := ⟨_, rfl⟩
    have hm0 : ¬ m = 0 := by omega
    have hm9 : m ≤ 4611686018427387904 := by omega
    rw [show (4611686018427387904 : Int) = (m : Int) by omega]
    clear t1 t1' X11 c11 hm
   all_goals
    refine ⟨trivial, ?_⟩
    refine (callsIn_wide.2 (rdall_in g _)).mono ?_
    rintro e w' ⟨rfl, rfl⟩
    gi_wp2
    have hA := allocs_get W [.cells #[.int .i64 (m : Nat)] 3, .cells #[.slice none 0 0] 48, .cells #[.pointer (some ⟨g, 0, none⟩)] 60]
    obtain ⟨hzA, hbA, hget⟩ := hA
    obtain ⟨B0, hBB⟩ : ∃ B, W.heap.size = B := ⟨_, rfl⟩
    have hnew0 : ∀ j, B0 ≤ j → who j = 0 ∧ who' j = 0 := by rw [← hBB]; exact D.out.new
    have hloB : lo ≤ B0 := by omega
    have MKZ := hid (show ∀ E, E ∈ Ds → who' E = 0 ∧ lo ≤ E from fun E hE => (MK.out E hE).2.2)
    rw [hBB] at hzA hbA hget ⊢
    have XM := hid (show Boxed _ B0 3 (.int .i64 (m : Nat)) from hget 0 _ rfl)
    have XL := hid (show Boxed _ (B0 + 1) 48 (.slice none 0 0) from hget 1 _ rfl)
    have XX := hid (show Boxed _ (B0 + 2) 60 (.pointer (some ⟨g, 0, none⟩)) from hget 2 _ rfl)
    simp only [List.foldl] at hzA hbA XM XL XX
    replace hzA := show _ = B0 + 3 from hzA
    clear hget
    generalize ((W.alloc (.cells #[.int .i64 (m : Nat)] 3)).alloc (.cells #[.slice none 0 0] 48)).alloc (.cells #[.pointer (some ⟨g, 0, none⟩)] 60) = W7 at *
    have b07 : Below W.heap.size W W7 := hBB.symm ▸ hbA
    have D7 := D.out.keep hnb b07
    have hr0 := Turns.of_below (S := fun _ => False) b07
    have LF7 := LF.out.turn hr0 (fun _ e => e.elim) (fun _ e => e)
    have LD7 := LD.out.turn hr0 (fun _ e => e.elim) (fun _ _ e => e)
    obtain ⟨who7, hwho7⟩ : ∃ f, who6 who (fun j => j = B0 + 2) = f := ⟨_, rfl⟩
    have h6x : who7 (B0 + 2) = 6 := by rw [← hwho7]; exact who6_in rfl
    have h6n : ∀ j, j ≠ B0 + 2 → who7 j = who j := fun j e => by rw [← hwho7]; exact who6_no e
    have R7 := D7.l.own6 (P := fun j => j = B0 + 2) (fun j hj => by subst hj; exact ⟨(hnew0 _ (by omega)).1, by omega, by omega⟩)
    rw [hwho7] at R7
    have LF77 := LF7.turn (who' := who7) (Turns.refl (fun _ => False) W7) (fun _ e => e.elim) (fun j e => by
     by_cases hj : j = B0 + 2
     · rw [hj]; exact h6x
     · rw [h6n j hj]; exact e)
    have hne7 : ∀ j, who7 j ≠ 0 → who j ≠ 0 ∨ j = B0 + 2 := fun j hj => by
     by_cases e : j = B0 + 2
     · exact .inr e
     · rw [h6n j e] at hj; exact .inl hj
    have RS7 : Rst w2 W7 bs lo gt g2 gi2 bg S' lv' rv' vs' s left who' Ds B0 who7 :=
     { r := D7.r, lf := LD7, b := D7.b, sz := by omega, lb := hloB
       d := fun j hj => by rcases hne7 j hj with e | e; (exact D.out.d j e); (exact (hnew0 j (by omega)).2)
       lw := fun j hj => by rcases hne7 j hj with e | e; (exact (D.out.l.low j e).1); omega
       l2 := fun j hj => by have := (D.out.r.low j hj).2; omega
       mks := fun E hE => by
        obtain ⟨h1, h2, h3, h4⟩ := MK.out E hE
        have hlt := (Array.getElem?_eq_some_iff.1 h1).1
        exact ⟨(b07.block E hlt).trans h1, by rw [h6n E (by omega)]; exact h2, by omega⟩ }
    have G7 : GoI w2 bs lo gt g2 gi2 bg S' lv' rv' vs' s left who' Ds B0 B0 (B0 + 1) m [] who7 W7 :=
     ⟨_, XL.out, by rw [h6n _ (by omega)]; exact (hnew0 _ (by omega)).1, XM.out, by rw [h6n _ (by omega)]; exact (hnew0 _ (by omega)).1, Nat.le_refl _, by omega, OwZ.nil _ _ _ _ _, fun j e => (by cases e), by omega, RS7⟩
    have AR0 : AllR lo gq g gi (B0 + 2) bs.length s left [] who7 W7 := ⟨S, lv, rv, vs, s, left, [], Q, R7, OK.out, LF77, rfl, GvP.nil, XX.out, h6x, fun j hj => by obtain ⟨i, x, hx, _⟩ := hj; simp at hx⟩
    have hw7 : ∀ j, W7.heap.size ≤ j → who7 j = 0 := fun j hj => Classical.byContradiction fun e => by have := (R7.low j e).2; omega
    have AR := hid AR0
    have GI := hid G7
    have W70 := hid hw7
    have HZA := hid hzA
    have HBB := hid hBB
    clear hbA b07 D7 hr0 LF7 LD7 h6x h6n R7 LF77 hne7 RS7 G7 AR0 hw7 hwho7 XM XL XX D LF LD MK hBB hzA hnew0
    refine range_cutG (fun ds' W' => GoE w2 bs lo gq g gi gt g2 gi2 bg S' lv' rv' vs' s left who' Ds B0 m ds' W') ?_ ?_
    · rintro ds' W9 hE
      obtain ⟨D0, pre, es, left2, b9, s2, S1, lv1, rv1, vs1, who1, Q1, rfl, hD0, hdef, hwD0, htk, hR1, hok1, hlf1, hgv, hgq, v, hv, hv0, hm', hm'0, hq1, hq2, hrow, hown, hsz, hrst⟩ := hE
      obtain ⟨av, nv, cv, rfl, -, -⟩ := hrow.t.slE
      have hsl2 := takeM_short (N := 1000) (by decide) _ _ _ _ _ _ _ OK.out hl64 htk
      have D9 : RDuo w2 W9 bs lo gq g gi gt g2 gi2 bg S1 S' lv1 rv1 lv' rv' vs1 vs' s2 s (re6 who1 Q1) who' := ⟨hR1.re6 Q1, hrst.r, fun j hj => hrst.d j (re6_ne hj), hrst.b⟩
      have LF9 := hlf1.re6
      have SO := rsome_any hnb (x := (m : Int)) rfl hm9 hrst.r hrst.lf OK.out hnb hl64
      have cmm := hm'.cell
      have cvv := hv.cell
      have zB : ∀ j, B0 ≤ j → who' j = 0 := fun j hj => Classical.byContradiction fun e => by have := hrst.l2 j e; omega
      have z6 : ∀ j, who1 j ≠ 0 → who' j = 0 := hrst.d
      have lw6 : ∀ j, who1 j ≠ 0 → lo ≤ j := hrst.lw
      have mk9 : ∀ E, E ∈ D0 :: Ds → W9.heap[E]? = some (.deferred (some [])) ∧ re6 who1 Q1 E = 0 ∧ who' E = 0 ∧ lo ≤ E := fun E hE => by
       rcases List.mem_cons.1 hE with e | e
       · subst e; exact ⟨hdef, re6_zero hwD0, zB _ (by omega), by omega⟩
       · obtain ⟨h1, h2, h3⟩ := hrst.mks E e
         exact ⟨h1, re6_zero h2, (MKZ.out E e).1, (MKZ.out E e).2⟩
      have nd9 : (D0 :: Ds).Nodup := List.nodup_cons.2 ⟨fun e => by have := (hrst.mks D0 e).2.2; omega, ND.out⟩
      have RW9 : RdW W9 lo (.slice av nv cv) pre es := ⟨hrow.base (by omega), hgv.1, fun i x e hx he => ⟨(hgv.2 i x e hx he).1, (hgv.2 i x e hx he).2.1⟩, fun i x hx j hj => by
       obtain ⟨e, he⟩ : ∃ e, es[i]? = some e := ⟨_, List.getElem?_eq_getElem (by have := (List.getElem?_eq_some_iff.1 hx).1; have := hgv.1; omega)⟩
       have h6 := (hgv.2 i x e hx he).2.2 j
       have h0 := hown j hj
       exact ⟨fun q => by have := h6 (.inl q); omega, fun q => by have := h6 (.inr q); omega⟩⟩
      have rlb : ∀ j, RLB (.slice av nv cv) pre j → re6 who1 Q1 j = 0 ∧ who' j = 0 ∧ lo ≤ j ∧ j < W9.heap.size := fun j hj => by
       rcases hj with hj | hj
       · have := hrow.t.lt j hj
         exact ⟨re6_zero (hown j hj), zB j (by omega), by omega, this.2⟩
       · have h6 := hgv.low (j := j) hj
         have hne : who1 j ≠ 0 := by rw [h6.1]; decide
         exact ⟨re6_in h6.1 (hgq j hj), z6 j hne, lw6 j hne, h6.2⟩
      have D9H := hid D9
      have LF9H := hid LF9
      have SOH := hid SO
      have BVH := hid hv
      have RW9H := hid RW9
      have MK9 := hid mk9
      have ND9 := hid nd9
      have RLH := hid rlb
      have TKH := hid htk
      have OK2 := hid hok1
      have ZB := hid zB
      have Z6 := hid (show ∀ j, re6 who1 Q1 j = 6 → who' j = 0 from fun j e => z6 j (re6_ne (by rw [e]; decide)))
      clear D9 LF9 SO hv RW9 mk9 nd9 rlb htk hok1 zB z6 lw6 hR1 hlf1 hgv hgq hm' hrow hown hrst hdef hwD0 hv0 hm'0 AR GI W70 HZA MKZ
      gi_wp2
      refine ⟨trivial, ?_⟩
      refine (callsIn_wide.2 SOH.out).mono ?_
      rintro e W10 hso
      obtain ⟨y, bg2, S2, lv2, rv2, vs2, who2, s9, left9, es9, b10, rfl, htk2, hy, hlf2, hR2, hG2⟩ := hso
      have heq : (es9, s9, left9, b10) = (es, s2, left2, b9) := htk2.symm.trans TKH.out
      injection heq with q1 q2
      injection q2 with q2 q3
      injection q3 with q3 q4
      subst q1 q2 q3
      obtain ⟨ay, cy, v9, rfl, -⟩ := hy.parts
      have D10 := hid (D9H.out.right hR2 hG2)
      have LF10 := hid (LF9H.out.turn hG2.t (fun j hj e => hj.1 (Z6.out j e)) (fun _ e => e))
      have LD10 := hid hlf2
      have RW10 := hid (RW9H.out.turns hG2.t fun j hj e => e.1 (RLH.out j hj).2.1)
      have BV10 := hid (hG2.t.heap BVH.out (fun e => e.1 (ZB.out _ (by omega))))
      have RL10 := hid (show ∀ j, RLB (.slice av nv cv) pre j → re6 who1 Q1 j = 0 ∧ who2 j = 0 ∧ lo ≤ j from fun j hj => ⟨(RLH.out j hj).1, hG2.zero (RLH.out j hj).2.2.2 (RLH.out j hj).2.1, (RLH.out j hj).2.2.1⟩)
      have MK10 := hid (show ∀ E, E ∈ D0 :: Ds → W10.heap[E]? = some (.deferred (some [])) ∧ re6 who1 Q1 E = 0 ∧ who2 E = 0 ∧ lo ≤ E from fun E hE => by
       obtain ⟨h1, h2, h3, h4⟩ := MK9.out E hE
       exact ⟨hG2.t.heap h1 (fun e => e.1 h3), h2, hG2.zero (Array.getElem?_eq_some_iff.1 h1).1 h3, h4⟩)
      obtain ⟨a9, c9, hy9, hE9⟩ := RW10.out.ents
      obtain ⟨nl, hnl⟩ : ∃ n, es9.length = n := ⟨_, rfl⟩
      have hn9 : nl ≤ 9223372036854775807 := by rw [← hnl]; exact RW10.out.lenLe
      have en2 := hy.ents
      rw [hnl] at hy9 hE9 en2
      rw [hnl]
      injection hy9 with p1 p2 p3
      subst p1 p2 p3
      have SA := hid (sameAll_any av nv cv ay nv cy es9 es9 W10 hn9 hn9 hE9 en2)
      have cv10 : W10.cell? ⟨B0 + 1, 0, none⟩ = some (.slice av nv cv) := cell_of BV10.out 0 rfl
      clear htk2 hy hlf2 hR2 hG2 hE9 en2 hnl D9H LF9H RW9H BVH MK9 RLH TKH cmm cvv q4 SOH ZB Z6
      gi_wp2
      refine ⟨trivial, ?_⟩
      refine (callsIn_wide.2 SA.out).mono ?_
      rintro e W11 ⟨rfl, hb11⟩
      rw [show decide True = true from rfl]
      have D11 := hid (D10.out.keep hnb hb11)
      have RW11 := hid (RW10.out.keep hb11)
      have hr11 := Turns.of_below (S := fun _ => False) hb11
      have LF11 := hid (LF10.out.turn hr11 (fun _ e => e.elim) (fun _ e => e))
      have LD11 := hid (LD10.out.turn hr11 (fun _ e => e.elim) (fun _ _ e => e))
      have MK11 := hid (show ∀ E, E ∈ D0 :: Ds → W11.heap[E]? = some (.deferred (some [])) ∧ re6 who1 Q1 E = 0 ∧ who2 E = 0 ∧ lo ≤ E from fun E hE => by
       obtain ⟨h1, h2⟩ := MK10.out E hE
       exact ⟨(hb11.block E (Array.getElem?_eq_some_iff.1 h1).1).trans h1, h2⟩)
      have cv11 : W11.cell? ⟨B0 + 1, 0, none⟩ = some (.slice av nv cv) := (World.cell?_of_block (hb11.block _ (cell_lt cv10))).trans cv10
      have SP := hid (espoilP_any av nv cv _ W11 RW11.out.spoilP)
      clear hb11 hr11 SA D10 RW10 LF10 LD10 MK10 BV10 cv10
      gi_wp2
      refine ⟨trivial, ?_⟩
      refine (callsIn_wide.2 SP.out).mono ?_
      rintro e W12 ⟨rfl, ht12⟩
      have D12 := hid (D11.out.turn hnb ht12 RL10.out)
      have LF12 := hid (LF11.out.turn ht12 (fun j hj => by rw [(RL10.out j hj).1]; decide) (fun _ e => e))
      have LD12 := hid (LD11.out.turn ht12 (fun j hj => by rw [(RL10.out j hj).2.1]; decide) (fun _ _ e => e))
      have MK12 := hid (show ∀ E, E ∈ D0 :: Ds → W12.heap[E]? = some (.deferred (some [])) ∧ re6 who1 Q1 E = 0 ∧ who2 E = 0 ∧ lo ≤ E from fun E hE => by
       obtain ⟨h1, h2⟩ := MK11.out E hE
       exact ⟨ht12.heap h1 (fun e => by obtain ⟨cs, t, f, hcl⟩ := RW11.out.cells e; rw [hcl] at h1; cases h1), h2⟩)
      have ST := hid (stands_any hnb D12.out OK2.out)
      clear ht12 SP D11 RW11 LF11 LD11 MK11 RL10 cv11
      gi_wp2
      refine ⟨trivial, ?_⟩
      refine (callsIn_wide.2 ST.out).mono ?_
      rintro e W13 ⟨rfl, hb13⟩
      have D13 := hid (D12.out.keep hnb hb13)
      have hr13 := Turns.of_below (S := fun _ => False) hb13
      have LF13 := hid (LF12.out.turn hr13 (fun _ e => e.elim) (fun _ e => e))
      have LD13 := hid (LD12.out.turn hr13 (fun _ e => e.elim) (fun _ _ e => e))
      have MK13 := hid (show ∀ E, E ∈ D0 :: Ds → W13.heap[E]? = some (.deferred (some [])) ∧ re6 who1 Q1 E = 0 ∧ who2 E = 0 ∧ lo ≤ E from fun E hE => by
       obtain ⟨h1, h2⟩ := MK12.out E hE
       exact ⟨(hb13.block E (Array.getElem?_eq_some_iff.1 h1).1).trans h1, h2⟩)
      have r2 : IntKind.i64.wrap ((k : Int) + 1) = (k : Int) + 1 := IntWalk.i64_in _ (by omega)
      clear hb13 hr13 ST D12 LF12 LD12 MK12
      gi_wp2
      refine HK.out _ _ ⟨f - 1, by omega, HJ.out _ _ _ ⟨k + 1, _, _, _, _, _, _, _, _, _, _, _, _, _, _, _, _, _, _, _, _, _, _, _, _, _, _, _, _, _, _, _, _, _, _, _, _, _, _, _, _, _, _, _, _, _, _, _, _, _, _, _, _, _, _, _, _, _, _, _, _, _, _, _, _, _, _, _, _, _, _, _, _, _, _, _, _, _, _, _, _, _, _, _, _, _, _, _, _, _, _, _, _, _, _, _, _, D0 :: Ds, rfl, by omega, by omega, D13.out, OK2.out, LF13.out, LD13.out, hsl2, ND9.out, MK13.out⟩⟩
    · intro JR hJR
      have HJR := hid hJR
      clear hJR
      have hsz7 : W7.heap.size = B0 + 3 := HZA.out
      apply wpIn_rangeW rfl (by omega) (gf := 72) (lb := #[.pointer (some ⟨B0 + 2, 0, none⟩)]) rfl trivial (enters_of Tryz.func72 (by kernel_rfl) rfl)
       (rdall_seq lo gq g gi (B0 + 2) bs.length hnb s left OK.out who7) (fun _ => rfl) (fun _ _ _ _ h ht => h.turn ht) (fun _ _ _ _ h ht => h.turn ht) AR.out W70.out
       (fun pre who9 W9 => GoI w2 bs lo gt g2 gi2 bg S' lv' rv' vs' s left who' Ds B0 B0 (B0 + 1) m pre who9 W9 ∧ pre.length < m)
       (fun c pre who9 W9 => c = .exit 2 ∧ GoI w2 bs lo gt g2 gi2 bg S' lv' rv' vs' s left who' Ds B0 B0 (B0 + 1) m pre who9 W9 ∧ pre.length = m)
      case hassign =>
       intro l x W K hK
       gi_wp2
       exact hK
      case hI => exact fun _ _ _ _ _ h hG => ⟨h.1.gr hnb hG, h.2⟩
      case hIp => exact fun _ _ _ _ _ o' h hl ho hc => ⟨h.1.put hnb (by omega) ho hc o', h.2⟩
      case hIxp => exact fun _ _ _ _ _ _ o' h hl ho hc => ⟨h.1, h.2.1.put hnb (by omega) ho hc o', h.2.2⟩
      case h0 => exact ⟨GI.out, by simp; omega⟩
      case hdone =>
       rintro D9 ys who9 W9 hD hE ⟨hGI, hlt9⟩ hK9 hD0
       obtain ⟨S1, ap, al1, rv1, vs1, s1, es, h1, h2, h4, h5, h6, h7⟩ := hE
       exact ⟨.inl rfl, rfl, HJR.out _ _ ⟨D9, ys, es, [], true, s1, S1, _, rv1, vs1, who9, fun _ => False, rfl, by omega, hK9, hD0, takeM_more _ m _ _ _ _ _ h4 hlt9, h1, h2, LfP.nil ap al1, h5, fun _ _ h => h, hGI⟩⟩
      case hstop =>
       rintro D9 c pre who9 W9 hD hR ⟨rfl, hGI, hlen9⟩ hK9 hD0
       obtain ⟨S1, lv1, rv1, vs1, s1, left1, es, Q1, h1, h2, h3, h4, h5, h6, h7, h8⟩ := hR
       exact wpIn_exit ⟨.inr rfl, rfl, HJR.out _ _ ⟨D9, pre, es, left1, false, s1, S1, lv1, rv1, vs1, who9, Q1, rfl, by omega, hK9, hD0, by rw [← hlen9]; exact h4, h1, h2, h3, h5, h8, hGI⟩⟩
      case hbody =>
       rintro l pre ⟨⟨ak, nk, ck⟩, ⟨av, nv, cv⟩⟩ who9 W9 ⟨⟨v, h1, h2, h3, h4, h5, h6, h7, h8, h9, h10⟩, hlt9⟩ hR
       obtain ⟨hnew, hlen⟩ : (∀ j, W9.heap.size ≤ j → who9 j = 0) ∧ pre.length ≤ 540000000 := by
        obtain ⟨S1, lv1, rv1, vs1, s1, left1, es, Q1, q1, q2, -, q4, -⟩ := hR
        refine ⟨fun j hj => Classical.byContradiction fun e => by have := (q1.low j e).2; omega, ?_⟩
        have q5 := takeM_most _ _ _ _ _ _ _ OK.out q4
        have q6 := takeM_len _ _ _ _ _ _ q4
        have q7 := q2.many
        simp at q6
        omega
       have hc := h1.cell
       have hf := h1.frozen
       have hcm := h3.cell
       have H1 := hid h1
       have H2 := hid h2
       have H3 := hid h3
       have H4 := hid h4
       have H7 := hid h7
       have H8 := hid h8
       have H9 := hid h9
       have H10 := hid h10
       have NEW := hid hnew
       clear h1 h2 h3 h4 h7 h8 h9 h10 hnew hR
       dsimp only [sv]
       by_cases hlast : pre.length + 1 = m
       · have HEQ := hid (show ∀ k : Nat, k = (pre ++ [((ak, nk, ck), (av, nv, cv))]).length → ((k : Int) == (m : Int)) = true ∧ (k == m) = true from fun k hk => by rw [hk, List.length_append, ← hlast]; simp)
         have HLA := hid hlast
         clear hlast hlt9
         gi_wp2_with (gi_at_builtin; refine wpListIn_appZ eltTE zE_ok rfl (.tmp 83) (.tmp 87) rfl (B0 + 1 + 1) v pre rfl (H7.out.keep ((Below.refl _ _).alloc (Nat.le_refl _) _)) _ 1 1 [((ak, nk, ck), (av, nv, cv))] rfl (SlT.lit1 _ _ _ _ rfl) (by unfold maxLen; omega) (.half (by omega)) (by have := H9.out; simp; omega) (pre ++ [((ak, nk, ck), (av, nv, cv))]) rfl ?_; intro v1 w1 ho1 hg1 hv1 hb1; obtain ⟨a1, n1, c1, rfl, hn1, -⟩ := ho1.t.slE; have V1 := hid ((H1.out.alloc (.cells #[.slice ak nk ck, .slice av nv cv] 51)).kept hg1 (fun e => by have := (H7.out.t.lt _ e.symm).1; omega)); have M1 := hid ((H3.out.alloc (.cells #[.slice ak nk ck, .slice av nv cv] 51)).kept hg1 (fun e => by have := (H7.out.t.lt _ e.symm).1; omega)); have hc1 := V1.out.cell; have hf1 := V1.out.frozen; have hcm1 := M1.out.cell; have t1 := (HEQ.out n1 hn1).1; have t2 := (HEQ.out n1 hn1).2; have O1 := hid ho1; have G1 := hid hg1; have HV1 := hid hv1; clear ho1 hg1 hv1 hb1 hn1)
         have GA := hid (GoI.app (BW := W7.heap.size) hnb H1.out H2.out H3.out H4.out h5 h6 H7.out H8.out H9.out H10.out NEW.out V1.out O1.out G1.out HV1.out)
         refine ⟨GA.out.1, GA.out.2.1, rfl, GA.out.2.2, by have := HLA.out; simp; omega⟩
       · have HEQ := hid (show ∀ k : Nat, k = (pre ++ [((ak, nk, ck), (av, nv, cv))]).length → ((k : Int) == (m : Int)) = false ∧ (k == m) = false from fun k hk => by rw [hk, List.length_append]; simp; omega)
         have HLA := hid (show pre.length + 1 < m by omega)
         clear hlast hlt9
         gi_wp2_with (gi_at_builtin; refine wpListIn_appZ eltTE zE_ok rfl (.tmp 83) (.tmp 87) rfl (B0 + 1 + 1) v pre rfl (H7.out.keep ((Below.refl _ _).alloc (Nat.le_refl _) _)) _ 1 1 [((ak, nk, ck), (av, nv, cv))] rfl (SlT.lit1 _ _ _ _ rfl) (by unfold maxLen; omega) (.half (by omega)) (by have := H9.out; simp; omega) (pre ++ [((ak, nk, ck), (av, nv, cv))]) rfl ?_; intro v1 w1 ho1 hg1 hv1 hb1; obtain ⟨a1, n1, c1, rfl, hn1, -⟩ := ho1.t.slE; have V1 := hid ((H1.out.alloc (.cells #[.slice ak nk ck, .slice av nv cv] 51)).kept hg1 (fun e => by have := (H7.out.t.lt _ e.symm).1; omega)); have M1 := hid ((H3.out.alloc (.cells #[.slice ak nk ck, .slice av nv cv] 51)).kept hg1 (fun e => by have := (H7.out.t.lt _ e.symm).1; omega)); have hc1 := V1.out.cell; have hf1 := V1.out.frozen; have hcm1 := M1.out.cell; have t1 := (HEQ.out n1 hn1).1; have t2 := (HEQ.out n1 hn1).2; have O1 := hid ho1; have G1 := hid hg1; have HV1 := hid hv1; clear ho1 hg1 hv1 hb1 hn1)
         have GA := hid (GoI.app (BW := W7.heap.size) hnb H1.out H2.out H3.out H4.out h5 h6 H7.out H8.out H9.out H10.out NEW.out V1.out O1.out G1.out HV1.out)
         refine ⟨GA.out.1, GA.out.2.1, GA.out.2.2, by have := HLA.out; simp; omega⟩
end Go.Proofs.YtljcogimeimknaaGreat

/- The bytes of an entry behind a text: contracts of Bytes, the program's and the reference's. Conditions: the texts within reach. -/
import Derived.Test.YteedjgjkldbbcaaEntKept
import Derived.Test.YteedjgjkldbbcaaConcat
import Derived.Test.YteedjgjkldbbcaaVintJoin
import Derived.Test.YteedjgjkldbbcaaVintRPut
import Derived.StillTailTactics
namespace Go.Proofs.Yteedjgjkldbbcaa
open Go.RowKit

/-- the bytes of an entry behind a text -/
def ebytes (p : List UInt8) (e : Ent) : List UInt8 := vb (com p e.1) ++ vb (e.1.length - com p e.1) ++ vb e.2.length ++ e.1.drop (com p e.1) ++ e.2
theorem u64_nat (n : Nat) (h : n < 18446744073709551616) : IntKind.u64.wrap (n : Int) = n := by rw [IntKind.wrap_u64]; omega

theorem rows2_3 (w : World) (a1 : Option Addr) (n1 c1 : Nat) (xs1 : List UInt8) (a2 : Option Addr) (n2 c2 : Nat) (xs2 : List UInt8) (a3 : Option Addr) (n3 c3 : Nat) (xs3 : List UInt8) (h1 : Sl Bf w a1 n1 c1 xs1) (h2 : Sl Bf w a2 n2 c2 xs2) (h3 : Sl Bf w a3 n3 c3 xs3) :
    Rows2 (w.alloc (.cells #[.slice a1 n1 c1, .slice a2 n2 c2, .slice a3 n3 c3] 25)) (some ⟨w.heap.size, 0, none⟩) 3 3 [xs1, xs2, xs3] := by
  have hb : Below w.heap.size w (w.alloc (.cells #[.slice a1 n1 c1, .slice a2 n2 c2, .slice a3 n3 c3] 25)) := (Below.refl _ _).alloc (Nat.le_refl _) _
  have hh : (w.alloc (.cells #[.slice a1 n1 c1, .slice a2 n2 c2, .slice a3 n3 c3] 25)).heap[w.heap.size]? = some (.cells #[.slice a1 n1 c1, .slice a2 n2 c2, .slice a3 n3 c3] 25 (0, 0)) := heap_new w _
  refine ⟨rfl, Nat.le_refl _, fun i xs hi => ?_⟩
  have hl : i < 3 := (List.getElem?_eq_some_iff.1 hi).1
  rcases (by omega : i = 0 ∨ i = 1 ∨ i = 2) with e | e | e <;> subst e <;> (simp at hi; subst hi)
  · exact ⟨_, _, _, _, _, rfl, by simp only [World.cell?, hh]; rfl, h1.keep hb⟩
  · exact ⟨_, _, _, _, _, rfl, by simp only [World.cell?, hh]; rfl, h2.keep hb⟩
  · exact ⟨_, _, _, _, _, rfl, by simp only [World.cell?, hh]; rfl, h3.keep hb⟩
set_option maxRecDepth 100000 in
set_option maxHeartbeats 1000000 in
theorem pbytes_any (ap : Option Addr) (np cp : Nat) (p : List UInt8) (ak : Option Addr) (nk ck : Nat) (k : List UInt8) (av : Option Addr) (nv cv : Nat) (v : List UInt8) (w : World)
    (hp : np ≤ 140737488351232) (hb : nk + nv ≤ 140737488351232) (h0 : Sl Bf w ap np cp p) (h1 : Sl Bf w ak nk ck k) (h2 : Sl Bf w av nv cv v) :
    Calls Try.prog 44 #[.slice ap np cp, .agg #[.slice ak nk ck, .slice av nv cv]] w fun e w' => ∃ x, e = .returned x ∧ OwT fB w' w.heap.size 5 x (ebytes p (k, v)) ∧ Below w.heap.size w w' := by
  obtain rfl : np = p.length := h0.len.symm
  obtain rfl : nk = k.length := h1.len.symm
  obtain rfl : nv = v.length := h2.len.symm
  have hb1 : Below w.heap.size w (w.alloc (.cells #[.slice ak k.length ck, .slice av v.length cv] 41)) := (Below.refl _ _).alloc (Nat.le_refl _) _
  have hoe : (w.alloc (.cells #[.slice ak k.length ck, .slice av v.length cv] 41)).heap[w.heap.size]? = some (.cells #[.slice ak k.length ck, .slice av v.length cv] 41 (0, 0)) := heap_new w _
  have P0 := Lib.hid (h0.keep hb1)
  have K0 := Lib.hid (h1.keep hb1)
  have V0 := Lib.hid (h2.keep hb1)
  have E := Lib.hid hoe
  have B := Lib.hid hb1
  clear h0 h1 h2 hb1 hoe
  go_enter Try.func44, Try.ntmps44
  go_upto_region 1 with (fail)
  obtain ⟨g, hg⟩ : ∃ g, w.heap.size = g := ⟨_, rfl⟩
  rw [hg] at E ⊢
  have hgw : w.heap.size ≤ g := by omega
  clear hg
  generalize w.alloc (.cells #[.slice ak k.length ck, .slice av v.length cv] 41) = w1 at *
  have e0 : w1.cell? ⟨g, 0, none⟩ = some (.slice ak k.length ck) := by have := E.out; simp [World.cell?, this]
  have e1 : w1.cell? ⟨g, 1, none⟩ = some (.slice av v.length cv) := by have := E.out; simp [World.cell?, this]
  have lg1 : g < w1.heap.size := (Array.getElem?_eq_some_iff.1 E.out).1
  obtain ⟨m, hm⟩ : ∃ m, com p k = m := ⟨_, rfl⟩
  have hm1 : m ≤ k.length := hm ▸ (com_le p k).2
  have hm2 : m ≤ p.length := hm ▸ (com_le p k).1
  have hcom := common_any _ _ _ p _ _ _ k w1 (by omega) (by omega) P0.out K0.out
  rw [hm] at hcom
  have HC := Lib.hid hcom; clear hcom
  have HM := Lib.hid hm; clear hm
  go_wp2_with fail
  refine HC.out.mono ?_
  rintro e w2 ⟨rfl, hb2⟩
  replace P0 := Lib.hid (P0.out.keep hb2)
  replace K0 := Lib.hid (K0.out.keep hb2)
  replace V0 := Lib.hid (V0.out.keep hb2)
  replace E := Lib.hid ((hb2.block g lg1).trans E.out)
  replace B := Lib.hid (B.out.trans (hb2.mono (by omega)))
  clear hb2 e0 e1 HC lg1
  have e0 : w2.cell? ⟨g, 0, none⟩ = some (.slice ak k.length ck) := by have := E.out; simp [World.cell?, this]
  have e1 : w2.cell? ⟨g, 1, none⟩ = some (.slice av v.length cv) := by have := E.out; simp [World.cell?, this]
  have lg2 : g < w2.heap.size := (Array.getElem?_eq_some_iff.1 E.out).1
  have r1 : IntKind.u64.wrap (m : Int) = m := u64_nat m (by omega)
  obtain ⟨d, hd⟩ : ∃ d, k.length - m = d := ⟨_, rfl⟩
  have r2 : IntKind.u64.wrap ((k.length : Int) - m) = d := by rw [show (k.length : Int) - m = (d : Int) by omega]; exact u64_nat d (by omega)
  have r3 : IntKind.u64.wrap (v.length : Int) = v.length := u64_nat _ (by omega)
  have hdm : d + m = k.length := by omega
  have HD := Lib.hid hd; clear hd
  go_wp2_with fail
  have hb3 : Below w2.heap.size w2 (w2.alloc (.cells #[.int .u64 (m : Nat), .int .u64 (d : Nat), .int .u64 (v.length : Nat)] 71)) := (Below.refl _ _).alloc (Nat.le_refl _) _
  have sl3 : Sl Nf (w2.alloc (.cells #[.int .u64 (m : Nat), .int .u64 (d : Nat), .int .u64 (v.length : Nat)] 71)) (some ⟨w2.heap.size, 0, none⟩) 3 3 [m, d, v.length] := Sl.lit _ _ _ _ _ rfl rfl
  have SL := Lib.hid sl3; clear sl3
  replace P0 := Lib.hid (P0.out.keep hb3)
  replace K0 := Lib.hid (K0.out.keep hb3)
  replace V0 := Lib.hid (V0.out.keep hb3)
  replace E := Lib.hid ((hb3.block g lg2).trans E.out)
  replace B := Lib.hid (B.out.trans (hb3.mono (by omega)))
  generalize w2.alloc (.cells #[.int .u64 (m : Nat), .int .u64 (d : Nat), .int .u64 (v.length : Nat)] 71) = w3 at *
  clear hb3 e0 e1 lg2
  have lg3 : g < w3.heap.size := (Array.getElem?_eq_some_iff.1 E.out).1
  have hall : ∀ x, x ∈ [m, d, v.length] → x < 18446744073709551616 := by intro x hx; simp at hx; omega
  have hvb : (vbs [m, d, v.length]).length ≤ 30 := by
    have h1 := vb_ten (hall m (by simp)); have h2 := vb_ten (hall d (by simp)); have h3 := vb_ten (hall v.length (by simp))
    unfold vbs; simp; omega
  have HALL := Lib.hid hall; clear hall
  obtain ⟨hd, hhd⟩ : ∃ hd, vbs [m, d, v.length] = hd := ⟨_, rfl⟩
  have hjoin := join_any _ 3 3 [m, d, v.length] w3 (by omega) HALL.out (by omega) SL.out
  rw [hhd] at hvb hjoin
  have HHD := Lib.hid hhd; clear hhd
  refine hjoin.mono ?_
  rintro e w4 ⟨x4, rfl, ho, hb4⟩
  replace P0 := Lib.hid (P0.out.keep hb4)
  replace K0 := Lib.hid (K0.out.keep hb4)
  replace V0 := Lib.hid (V0.out.keep hb4)
  replace E := Lib.hid ((hb4.block g lg3).trans E.out)
  replace B := Lib.hid (B.out.trans (hb4.mono (by omega)))
  obtain ⟨a4, n4, c4, rfl, z4⟩ := ho.slN
  obtain rfl : hd.length = n4 := z4.len
  have Z4 := Lib.hid z4
  clear hb4 hjoin ho z4 lg3 r1 r2 r3
  have e0 : w4.cell? ⟨g, 0, none⟩ = some (.slice ak k.length ck) := by have := E.out; simp [World.cell?, this]
  have e1 : w4.cell? ⟨g, 1, none⟩ = some (.slice av v.length cv) := by have := E.out; simp [World.cell?, this]
  have hcut := fun W : World => run_cutfrom eltB W ak k.length ck .i64 m hm1
  go_upto_region 3 with (fail)
  go_still_tail 7, (by kernel_rfl)
  change wpList _ _ _ _ _ w4.drew
  replace P0 := Lib.hid P0.out.drew
  replace K0 := Lib.hid K0.out.drew
  replace V0 := Lib.hid V0.out.drew
  replace Z4 := Lib.hid Z4.out.drew
  replace B : Hid (Below w.heap.size w w4.drew) := Lib.hid B.out.drew
  generalize w4.drew = w5 at *
  have hr3 := rows2_3 w5 _ _ _ _ _ _ _ _ _ _ _ _ Z4.out (K0.out.from m hm1) V0.out
  have hb6 : Below w.heap.size w (w5.alloc (.cells #[.slice a4 hd.length c4, .slice (adv ak ck m) (k.length - m) (ck - m), .slice av v.length cv] 25)) := B.out.alloc B.out.size _
  have hfl : [hd, k.drop m, v].flatten = ebytes p (k, v) := by
    unfold ebytes
    show hd ++ (k.drop m ++ (v ++ [])) = vb (com p k) ++ vb (k.length - com p k) ++ vb v.length ++ k.drop (com p k) ++ v
    rw [← HHD.out, HM.out, HD.out]
    unfold vbs
    simp
  have hfll : [hd, k.drop m, v].flatten.length ≤ 140737488355328 := by simp; omega
  rw [hfl] at hfll
  have R3 := Lib.hid hr3
  have B6 := Lib.hid hb6
  have FL := Lib.hid hfl
  have FLL := Lib.hid hfll
  clear hr3 hb6 hfl hfll e0 e1
  go_wp2_with fail
  refine (concat_any _ 3 3 [hd, k.drop m, v] _ (by omega) (by rw [FL.out]; exact FLL.out) R3.out).mono ?_
  rintro e w7 ⟨x7, rfl, ho, hb7⟩
  rw [FL.out] at ho
  have O := Lib.hid (ho.base (show w.heap.size ≤ _ from B6.out.size))
  have B7 := Lib.hid (B6.out.trans (hb7.mono B6.out.size))
  clear ho hb7
  go_wp2_with fail
  go_ret
  exact ⟨_, rfl, O.out, B7.out⟩

set_option maxRecDepth 100000 in
set_option maxHeartbeats 1000000 in
theorem prbytes_any (ap : Option Addr) (np cp : Nat) (p : List UInt8) (ak : Option Addr) (nk ck : Nat) (k : List UInt8) (av : Option Addr) (nv cv : Nat) (v : List UInt8) (w : World)
    (hp : np ≤ 140737488351232) (hb : nk + nv ≤ 140737488351232) (h0 : Sl Bf w ap np cp p) (h1 : Sl Bf w ak nk ck k) (h2 : Sl Bf w av nv cv v) :
    Calls Try.prog 40 #[.slice ap np cp, .agg #[.slice ak nk ck, .slice av nv cv]] w fun e w' => ∃ x, e = .returned x ∧ OwT fB w' w.heap.size 5 x (ebytes p (k, v)) ∧ Below w.heap.size w w' := by
  obtain rfl : np = p.length := h0.len.symm
  obtain rfl : nk = k.length := h1.len.symm
  obtain rfl : nv = v.length := h2.len.symm
  have hb1 : Below w.heap.size w (w.alloc (.cells #[.slice ak k.length ck, .slice av v.length cv] 41)) := (Below.refl _ _).alloc (Nat.le_refl _) _
  have hoe : (w.alloc (.cells #[.slice ak k.length ck, .slice av v.length cv] 41)).heap[w.heap.size]? = some (.cells #[.slice ak k.length ck, .slice av v.length cv] 41 (0, 0)) := heap_new w _
  have P0 := Lib.hid h0
  have K0 := Lib.hid h1
  have V0 := Lib.hid h2
  have E := Lib.hid hoe
  have B := Lib.hid hb1
  clear h0 h1 h2 hb1 hoe
  go_enter Try.func40, Try.ntmps40
  go_upto_region 1 with (fail)
  obtain ⟨g, hg⟩ : ∃ g, w.heap.size = g := ⟨_, rfl⟩
  rw [hg] at E ⊢
  have hgw : w.heap.size ≤ g := by omega
  clear hg
  generalize w.alloc (.cells #[.slice ak k.length ck, .slice av v.length cv] 41) = w1 at *
  have e0 : w1.cell? ⟨g, 0, none⟩ = some (.slice ak k.length ck) := by have := E.out; simp [World.cell?, this]
  have e1 : w1.cell? ⟨g, 1, none⟩ = some (.slice av v.length cv) := by have := E.out; simp [World.cell?, this]
  have lg1 : g < w1.heap.size := (Array.getElem?_eq_some_iff.1 E.out).1
  obtain ⟨m, hm⟩ : ∃ m, com p k = m := ⟨_, rfl⟩
  have hm1 : m ≤ k.length := hm ▸ (com_le p k).2
  have hm2 : m ≤ p.length := hm ▸ (com_le p k).1
  have hcom := rcommon_any _ _ _ p _ _ _ k w1 (by omega) (by omega) (P0.out.keep B.out) (K0.out.keep B.out)
  rw [hm] at hcom
  have HC := Lib.hid hcom; clear hcom
  have HM := Lib.hid hm; clear hm
  obtain ⟨d, hd⟩ : ∃ d, k.length - m = d := ⟨_, rfl⟩
  have r1 : IntKind.u64.wrap (m : Int) = m := u64_nat m (by omega)
  have r2 : IntKind.u64.wrap ((k.length : Int) - m) = d := by rw [show (k.length : Int) - m = (d : Int) by omega]; exact u64_nat d (by omega)
  have r3 : IntKind.u64.wrap (v.length : Int) = v.length := u64_nat _ (by omega)
  have hdm : d + m = k.length := by omega
  have HD := Lib.hid hd; clear hd
  obtain ⟨b0, hb0⟩ : ∃ x, vb m = x := ⟨_, rfl⟩
  obtain ⟨b1, hb1⟩ : ∃ x, vb d = x := ⟨_, rfl⟩
  obtain ⟨b2, hb2⟩ : ∃ x, vb v.length = x := ⟨_, rfl⟩
  have t0 : b0.length ≤ 10 := hb0 ▸ vb_ten (by omega)
  have t1 : b1.length ≤ 10 := hb1 ▸ vb_ten (by omega)
  have t2 : b2.length ≤ 10 := hb2 ▸ vb_ten (by omega)
  have R0 := Lib.hid (fun W : World => hb0 ▸ rbytes_any m W (by omega))
  have R1 := Lib.hid (fun W : World => hb1 ▸ rbytes_any d W (by omega))
  have R2 := Lib.hid (fun W : World => hb2 ▸ rbytes_any v.length W (by omega))
  have HB := Lib.hid (And.intro hb0 (And.intro hb1 hb2)); clear hb0 hb1 hb2
  go_wp2_with fail
  refine HC.out.mono ?_
  rintro e w2 ⟨rfl, hb2⟩
  replace E := Lib.hid ((hb2.block g lg1).trans E.out)
  replace B := Lib.hid (B.out.trans (hb2.mono (by omega)))
  have lg2 : g < w2.heap.size := (Array.getElem?_eq_some_iff.1 E.out).1
  have lw2 : w.heap.size ≤ w2.heap.size := B.out.size
  replace e0 : w2.cell? ⟨g, 0, none⟩ = some (.slice ak k.length ck) := by have := E.out; simp [World.cell?, this]
  replace e1 : w2.cell? ⟨g, 1, none⟩ = some (.slice av v.length cv) := by have := E.out; simp [World.cell?, this]
  clear hb2 HC
  obtain ⟨lo, hlo⟩ : ∃ lo, w2.heap.size = lo := ⟨_, rfl⟩
  rw [hlo] at lg2 lw2
  have lx : lo ≤ w2.heap.size := by omega
  have X := Lib.hid (hlo ▸ Below.refl w2.heap.size w2 : Below lo w2 w2)
  go_wp2_with fail
  refine (R0.out _).mono ?_
  rintro e w3 ⟨x3, rfl, ho, hb3⟩
  obtain ⟨a3, n3, c3, rfl, z3⟩ := ho.slN
  obtain rfl : b0.length = n3 := z3.len
  replace X := Lib.hid (X.out.trans (hb3.mono lx))
  have O := Lib.hid (ho.base lx)
  replace lx := Nat.le_trans lx hb3.size; clear ho z3 hb3 hlo
  replace e0 : w3.cell? ⟨g, 0, none⟩ = some (.slice ak k.length ck) := (World.cell?_of_block (a := ⟨g, 0, none⟩) (X.out.block g lg2)).trans e0
  replace e1 : w3.cell? ⟨g, 1, none⟩ = some (.slice av v.length cv) := (World.cell?_of_block (a := ⟨g, 1, none⟩) (X.out.block g lg2)).trans e1
  go_wp2_with fail
  refine (R1.out _).mono ?_
  rintro e w4 ⟨x, rfl, ho, hb⟩
  obtain ⟨a4, n4, c4, rfl, z4⟩ := ho.slN
  obtain rfl : b1.length = n4 := z4.len
  have hx := hb.mono lx
  replace O := Lib.hid (O.out.keep hb)
  have Z := Lib.hid z4
  replace e0 : w4.cell? ⟨g, 0, none⟩ = some (.slice ak k.length ck) := (World.cell?_of_block (a := ⟨g, 0, none⟩) (hx.block g lg2)).trans e0
  replace e1 : w4.cell? ⟨g, 1, none⟩ = some (.slice av v.length cv) := (World.cell?_of_block (a := ⟨g, 1, none⟩) (hx.block g lg2)).trans e1
  replace X := Lib.hid (X.out.trans hx)
  replace lx := Nat.le_trans lx hb.size
  clear ho z4 hb hx
  go_wp2_with (at_builtin; refine wpList_appT eltTB rfl (.tmp 14) (.tmp 21) rfl lo _ b0 (by rfl) O.out a4 b1.length c4 b1 (by rfl) Z.out.toT (by unfold maxLen; simp; omega) (by simp; omega) lx (b0 ++ b1) rfl ?_; intro v5 w5 h5 hg5 hv5 hb5; obtain ⟨a5, n5, c5, rfl, z5⟩ := h5.slN; have e0 : w5.cell? ⟨g, 0, none⟩ = some (.slice ak k.length ck) := (World.cell?_of_block (a := ⟨g, 0, none⟩) (hb5.block g lg2)).trans e0; have e1 : w5.cell? ⟨g, 1, none⟩ = some (.slice av v.length cv) := (World.cell?_of_block (a := ⟨g, 1, none⟩) (hb5.block g lg2)).trans e1; have O := Lib.hid h5; have X := Lib.hid (X.out.trans hb5); have lx := Nat.le_trans lx hg5.size; clear h5 hg5 hv5 hb5 z5)
  go_wp2_with fail
  refine (R2.out _).mono ?_
  rintro e w6 ⟨x, rfl, ho, hb⟩
  obtain ⟨a4, n4, c4, rfl, z4⟩ := ho.slN
  obtain rfl : b2.length = n4 := z4.len
  have hx := hb.mono lx
  replace O := Lib.hid (O.out.keep hb)
  have Z := Lib.hid z4
  replace e0 : w6.cell? ⟨g, 0, none⟩ = some (.slice ak k.length ck) := (World.cell?_of_block (a := ⟨g, 0, none⟩) (hx.block g lg2)).trans e0
  replace e1 : w6.cell? ⟨g, 1, none⟩ = some (.slice av v.length cv) := (World.cell?_of_block (a := ⟨g, 1, none⟩) (hx.block g lg2)).trans e1
  replace X := Lib.hid (X.out.trans hx)
  replace lx := Nat.le_trans lx hb.size
  clear ho z4 hb hx
  have hcut := fun W : World => run_cutfrom eltB W ak k.length ck .i64 m hm1
  go_wp2_with (first
    | (at_builtin; refine wpList_appT eltTB rfl (.tmp 23) (.tmp 28) rfl lo _ (b0 ++ b1) (by rfl) O.out a4 b2.length c4 b2 (by rfl) Z.out.toT (by unfold maxLen; simp; omega) (by simp; omega) lx (b0 ++ b1 ++ b2) rfl ?_; intro v5 w7 h5 hg5 hv5 hb5; obtain ⟨a5, n5, c5, rfl, z5⟩ := h5.slN; have e0 : w7.cell? ⟨g, 0, none⟩ = some (.slice ak k.length ck) := (World.cell?_of_block (a := ⟨g, 0, none⟩) (hb5.block g lg2)).trans e0; have e1 : w7.cell? ⟨g, 1, none⟩ = some (.slice av v.length cv) := (World.cell?_of_block (a := ⟨g, 1, none⟩) (hb5.block g lg2)).trans e1; have O := Lib.hid h5; have X := Lib.hid (X.out.trans hb5); have lx := Nat.le_trans lx hg5.size; clear h5 hg5 hv5 hb5 z5)
    | (at_builtin; refine wpList_appT eltTB rfl (.tmp 30) (.tmp 34) rfl lo _ (b0 ++ b1 ++ b2) (by rfl) O.out (adv ak ck m) (k.length - m) (ck - m) (k.drop m) (by rfl) ((K0.out.keep (B.out.trans (X.out.mono lw2))).from m hm1).toT (by unfold maxLen; simp; omega) (by simp; omega) lx (b0 ++ b1 ++ b2 ++ k.drop m) rfl ?_; intro v5 w8 h5 hg5 hv5 hb5; obtain ⟨a5, n5, c5, rfl, z5⟩ := h5.slN; have e0 : w8.cell? ⟨g, 0, none⟩ = some (.slice ak k.length ck) := (World.cell?_of_block (a := ⟨g, 0, none⟩) (hb5.block g lg2)).trans e0; have e1 : w8.cell? ⟨g, 1, none⟩ = some (.slice av v.length cv) := (World.cell?_of_block (a := ⟨g, 1, none⟩) (hb5.block g lg2)).trans e1; have O := Lib.hid h5; have X := Lib.hid (X.out.trans hb5); have lx := Nat.le_trans lx hg5.size; clear h5 hg5 hv5 hb5 z5)
    | (at_builtin; refine wpList_appT eltTB rfl (.tmp 36) (.tmp 38) rfl lo _ (b0 ++ b1 ++ b2 ++ k.drop m) (by rfl) O.out av v.length cv v (by rfl) (V0.out.keep (B.out.trans (X.out.mono lw2))).toT (by unfold maxLen; simp; omega) (by simp; omega) lx (b0 ++ b1 ++ b2 ++ k.drop m ++ v) rfl ?_; intro v5 w9 h5 hg5 hv5 hb5; obtain ⟨a5, n5, c5, rfl, z5⟩ := h5.slN; have e0 : w9.cell? ⟨g, 0, none⟩ = some (.slice ak k.length ck) := (World.cell?_of_block (a := ⟨g, 0, none⟩) (hb5.block g lg2)).trans e0; have e1 : w9.cell? ⟨g, 1, none⟩ = some (.slice av v.length cv) := (World.cell?_of_block (a := ⟨g, 1, none⟩) (hb5.block g lg2)).trans e1; have O := Lib.hid h5; have X := Lib.hid (X.out.trans hb5); have lx := Nat.le_trans lx hg5.size; clear h5 hg5 hv5 hb5 z5))
  go_ret
  have he : ebytes p (k, v) = b0 ++ b1 ++ b2 ++ k.drop m ++ v := by
    unfold ebytes
    show vb (com p k) ++ vb (k.length - com p k) ++ vb v.length ++ k.drop (com p k) ++ v = _
    rw [HM.out, HD.out, HB.out.1, HB.out.2.1, HB.out.2.2]
  rw [he]
  exact ⟨_, rfl, O.out.base lw2, B.out.trans (X.out.mono lw2)⟩
end Go.Proofs.Yteedjgjkldbbcaa

/- CrcParts: the walk: the law's Go text returns true and writes nothing that was there. Conditions: the three slices together within 2^47 bytes. Written by a program of this place (gen_CrcParts.py). -/
import Derived.Test.YtaablclccklhnaaCrcSums
import Derived.Test.YtaablclccklhnaaCrcJoinP
import Derived.Test.YtaablclccklhnaaCrcDig
namespace Go.Proofs.Ytaablclccklhnaa
open Go.RowKit

theorem more_sums (ps : List UInt8) (a : Option Addr) (n c : Nat) (bs : List UInt8) (w : World) (hn : n ≤ 9223372036854775807) (h : Sl Bf w a n c bs) :
    Calls Try.prog 16 #[.int .u32 (U (sum ps)), .slice a n c] w fun e w' => e = .returned (.int .u32 (U (sum (ps ++ bs)))) ∧ w = w' := by
  rw [← more_sum]; exact more_any _ a n c bs w hn h
theorem join_sums (xs ys : List UInt8) {x : Int} (hx : x = (ys.length : Int)) (hn : ys.length ≤ 9223372036854775807) (w : World) :
    Calls Try.prog 34 #[.int .u32 (U (sum xs)), .int .u32 (U (sum ys)), .int .i64 x] w fun e w' => e = .returned (.tuple #[.int .u32 (U (sum (xs ++ ys))), .int .i64 0]) ∧ Below w.heap.size w w' := by
  subst hx; rw [← sum_join]; exact join_any _ _ _ w hn
theorem join_sums3 (xs ys zs : List UInt8) {x : Int} (hx : x = (ys.length : Int) + (zs.length : Int)) (hn : ys.length + zs.length ≤ 9223372036854775807) (w : World) :
    Calls Try.prog 34 #[.int .u32 (U (sum xs)), .int .u32 (U (sum (ys ++ zs))), .int .i64 x] w fun e w' => e = .returned (.tuple #[.int .u32 (U (sum (xs ++ ys ++ zs))), .int .i64 0]) ∧ Below w.heap.size w w' := by
  rw [List.append_assoc]; exact join_sums xs (ys ++ zs) (by rw [hx, List.length_append]; omega) (by rw [List.length_append]; exact hn) w
theorem write_sums (g : Nat) (ps : List UInt8) (l m : Nat) (a : Option Addr) (n c : Nat) (bs : List UInt8) (w : World) (hn : n ≤ 9223372036854775807) (hl : l + n ≤ 9223372036854775807) (hm : m = l + n) (hd : Dig w g (sum ps) l) (h : Sl Bf w a n c bs) :
    Calls Try.prog 21 #[.pointer (some ⟨g, 0, none⟩), .slice a n c] w fun e w' => e = .returned (.tuple #[]) ∧ Dig w' g (sum (ps ++ bs)) m ∧ w.grownBy w' (some g) := by
  subst hm; rw [← more_sum]; exact write_any g (sum ps) l a n c bs w hn hl hd h

set_option maxHeartbeats 1000000 in
set_option maxRecDepth 100000 in
theorem crcParts_walk (a : Option Addr) (n c : Nat) (xs : List UInt8) (a' : Option Addr) (n' c' : Nat) (ys : List UInt8) (a'' : Option Addr) (n'' c'' : Nat) (zs : List UInt8) (w : World) (hn : n + n' + n'' ≤ 140737488351232)
    (h : Sl Bf w a n c xs) (h' : Sl Bf w a' n' c' ys) (h'' : Sl Bf w a'' n'' c'' zs) :
    Calls Try.prog 11 #[.slice a n c, .slice a' n' c', .slice a'' n'' c''] w fun e w' => e = .returned (.bool true) ∧ Below w.heap.size w w' := by
  obtain rfl : n = xs.length := h.len.symm
  obtain rfl : n' = ys.length := h'.len.symm
  obtain rfl : n'' = zs.length := h''.len.symm
  have H := Lib.hid h; clear h
  have H' := Lib.hid h'; clear h'
  have H'' := Lib.hid h''; clear h''
  go_enter Try.func11, Try.ntmps11
  go_wp2_with fail
  refine (lives_any _).mono ?_
  rintro e w1 ⟨rfl, hb⟩
  have G := Lib.hid hb
  clear hb
  go_wp2_with (first
    | (at_builtin; refine wpList_app eltB (by rfl) (.tmp 26) (.tmp 27) rfl w1.heap.size _ 0 [] (by rfl) (own_empty w1 _ _ (Nat.le_refl _)) a _ c (xs.map Bf) (by rfl) ((H.out.keep G.out).map.keep ((Below.refl _ _).alloc (Nat.le_refl _) _)) (bf_one _) (by unfold maxLen; omega) (by omega) (by simp) xs.length (by omega) (xs.map Bf) rfl ?_; intro v4 w4 hown4 hg4 hv4 hb4; have hb4 := ((Below.refl w1.heap.size w1).alloc (Nat.le_refl _) _).trans hb4)
    | (at_builtin; refine wpList_app eltB (by rfl) (.tmp 28) (.tmp 29) rfl w1.heap.size _ _ _ (by rfl) hown4 a' _ c' (ys.map Bf) (by rfl) ((H'.out.keep G.out).keep hb4).map (bf_one _) (by unfold maxLen; omega) (by omega) hb4.size (xs.length + ys.length) (by omega) ((xs ++ ys).map Bf) (by simp) ?_; intro v5 w5 hown5 hg5 hv5 hb5; have hb5 := hb4.trans hb5)
    | (at_builtin; refine wpList_app eltB (by rfl) (.tmp 30) (.tmp 31) rfl w1.heap.size _ _ _ (by rfl) hown5 a'' _ c'' (zs.map Bf) (by rfl) ((H''.out.keep G.out).keep hb5).map (bf_one _) (by unfold maxLen; omega) (by omega) hb5.size (xs.length + ys.length + zs.length) (by omega) ((xs ++ ys ++ zs).map Bf) (by simp) ?_; intro v6 w6 hown6 hg6 hv6 hb6; have hb6 := hb5.trans hb6))
  obtain ⟨a6, c6, rfl, hs6⟩ := Sl.of_own (xs ++ ys ++ zs) hown6
  replace G := Lib.hid (keep_trans G.out hb6)
  refine (sum_any _ _ _ (xs ++ ys ++ zs) _ (by omega) hs6).mono ?_
  rintro e w' ⟨rfl, rfl⟩
  clear hs6 hown6 hown5 hown4 hg4 hg5 hg6 hv4 hv5 hv6 hb4 hb5 hb6
  go_wp2_with fail
  refine (sum_any _ _ _ xs _ (by omega) (H.out.keep G.out)).mono ?_
  rintro e w' ⟨rfl, rfl⟩
  go_wp2_with fail
  refine (sum_any _ _ _ ys _ (by omega) (H'.out.keep G.out)).mono ?_
  rintro e w' ⟨rfl, rfl⟩
  go_wp2_with fail
  refine (sum_any _ _ _ zs _ (by omega) (H''.out.keep G.out)).mono ?_
  rintro e w' ⟨rfl, rfl⟩
  go_wp2_with fail
  refine (more_sums xs _ _ _ ys _ (by omega) (H'.out.keep G.out)).mono ?_
  rintro e w' ⟨rfl, rfl⟩
  go_wp2_with fail
  refine (more_sums (xs ++ ys) _ _ _ zs _ (by omega) (H''.out.keep G.out)).mono ?_
  rintro e w' ⟨rfl, rfl⟩
  go_wp2_with fail
  refine (join_sums xs ys rfl (by omega) _).mono ?_
  rintro e w7 ⟨rfl, hb⟩
  replace G := Lib.hid (keep_trans G.out hb)
  clear hb
  go_wp2_with fail
  refine (join_sums (xs ++ ys) zs rfl (by omega) _).mono ?_
  rintro e w8 ⟨rfl, hb⟩
  replace G := Lib.hid (keep_trans G.out hb)
  clear hb
  go_wp2_with fail
  refine (join_sums ys zs rfl (by omega) _).mono ?_
  rintro e w9 ⟨rfl, hb⟩
  replace G := Lib.hid (keep_trans G.out hb)
  clear hb
  go_wp2_with fail
  refine (join_sums3 xs ys zs (by omega) (by omega) _).mono ?_
  rintro e w10 ⟨rfl, hb⟩
  replace G := Lib.hid (keep_trans G.out hb)
  clear hb
  go_wp2_with fail
  refine (new_any _).mono ?_
  rintro e w11 ⟨rfl, hd, hb⟩
  have D := Lib.hid hd; clear hd
  have lw := G.out.size
  replace G := Lib.hid (keep_trans G.out hb)
  clear hb
  generalize w10.heap.size = g at *
  go_wp2_with fail
  refine (write_sums g [] 0 xs.length _ _ _ xs _ (by omega) (by omega) (by omega) D.out (H.out.keep G.out)).mono ?_
  rintro e w12 ⟨rfl, hd, hg⟩
  replace D := Lib.hid hd; clear hd
  replace G := Lib.hid (G.out.grown hg G.out.size (fun j hj => by cases hj; exact lw)); clear hg
  go_wp2_with fail
  refine (write_sums g ([] ++ xs) xs.length (xs.length + ys.length) _ _ _ ys _ (by omega) (by omega) (by omega) D.out (H'.out.keep G.out)).mono ?_
  rintro e w13 ⟨rfl, hd, hg⟩
  replace D := Lib.hid hd; clear hd
  replace G := Lib.hid (G.out.grown hg G.out.size (fun j hj => by cases hj; exact lw)); clear hg
  go_wp2_with fail
  refine (write_sums g ([] ++ xs ++ ys) (xs.length + ys.length) (xs.length + ys.length + zs.length) _ _ _ zs _ (by omega) (by omega) (by omega) D.out (H''.out.keep G.out)).mono ?_
  rintro e w14 ⟨rfl, hd, hg⟩
  replace D := Lib.hid hd; clear hd
  replace G := Lib.hid (G.out.grown hg G.out.size (fun j hj => by cases hj; exact lw)); clear hg
  go_wp2_with fail
  refine (dsum_any g _ _ _ D.out).mono ?_
  rintro e w' ⟨rfl, rfl⟩
  go_wp2_with fail
  refine (dlen_any g _ _ _ D.out).mono ?_
  rintro e w' ⟨rfl, rfl⟩
  go_wp2_with fail
  go_ret
  exact ⟨ret_bool (by simp), G.out⟩
end Go.Proofs.Ytaablclccklhnaa

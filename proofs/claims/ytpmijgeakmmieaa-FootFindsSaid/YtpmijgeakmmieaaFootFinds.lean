/- FootFinds: the walk. Conditions: the rows and the keys within reach. -/
import Derived.Test.YtpmijgeakmmieaaFootKept
import Derived.Test.YtpmijgeakmmieaaFootFind
import Derived.Test.YtpmijgeakmmieaaRows2
namespace Go.Proofs.Ytpmijgeakmmieaa
open Go.RowKit

set_option maxHeartbeats 2000000 in
set_option maxRecDepth 100000 in
theorem footFinds_walk (a : Option Addr) (n c : Nat) (rs : List Row) (ak : Option Addr) (nk ck : Nat) (ks : List (List UInt8)) (w : World) (hn : n ≤ 2932031007317) (hf : FitR 140737488351232 rs) (h : Spans w a n c rs)
    (hkn : nk ≤ 140737488351232) (hkf : ∀ k, k ∈ ks → k.length ≤ 140737488351232) (hk : Rows2 w ak nk ck ks) :
    Calls Try.prog 4 #[.slice a n c, .slice ak nk ck] w fun e w' => e = .returned (.bool true) ∧ Below w.heap.size w w' := by
  obtain rfl : n = rs.length := h.1.symm
  obtain rfl : nk = ks.length := hk.1.symm
  have HF := Lib.hid hf; clear hf
  have HKF := Lib.hid hkf; clear hkf
  have S := Lib.hid (((Stab.spans h).and (show Stab w (fun W => Rows2 W ak ks.length ck ks) from fun _ hb => hk.keep hb)).and (Stab.below (Below.refl w.heap.size w))); clear h hk
  obtain ⟨⟨r0, r1⟩, hr⟩ : ∃ R, fchk rs = R := ⟨_, rfl⟩
  have HR := Lib.hid hr; clear hr
  obtain ⟨q, hq⟩ : ∃ q : Int, ((r1 : Nat) : Int) = q := ⟨_, rfl⟩
  have HQ0 := Lib.hid hq
  go_enter Try.func4, Try.ntmps4
  go_wp2_with fail
  refine (lives_any _).mono ?_
  rintro e w1 ⟨rfl, hb⟩
  replace S := Lib.hid (S.out.keep hb); clear hb
  go_wp2_with fail
  have HC := frcheck_any a rs.length c rs w1 (by omega) HF.out S.out.now.1.1
  rw [HR.out] at HC
  dsimp only at HC
  rw [hq] at HC
  clear hq
  refine HC.mono ?_
  rintro e w2 ⟨rfl, hb⟩
  replace S := Lib.hid (S.out.keep hb); clear hb HC
  go_wp2_with fail
  refine (rows_any a rs.length c rs w2 hn HF.out S.out.now.1.1).mono ?_
  rintro e w3 ⟨a2, c2, rfl, hR, hb⟩
  replace S := Lib.hid ((S.out.keep hb).and (show Stab w3 (fun W => Rws W w2.heap.size w3.heap.size a2 rs.length c2 rs ∧ w3.heap.size ≤ W.heap.size) from fun W hb => ⟨hR.keep hb (Nat.le_refl _), hb.size⟩))
  clear hb hR
  obtain ⟨T, hT⟩ : ∃ T, tot rs = T := ⟨_, rfl⟩
  have HT := Lib.hid hT; clear hT
  go_wp2_with fail
  have HC := total_any a2 rs.length c2 rs w3 (by omega) S.out.now.2.1.spans
  rw [HT.out] at HC
  refine HC.mono ?_
  rintro e w4 ⟨rfl, hb⟩
  replace S := Lib.hid (S.out.keep hb); clear hb HC
  go_wp2_with fail
  go_loopw [10] (fun i wr => ∃ j : Nat, j ≤ ks.length ∧ i = .int .i64 j ∧ Stab wr (fun W => ((Spans W a rs.length c rs ∧ Rows2 W ak ks.length ck ks) ∧ Below w.heap.size w W) ∧ Rws W w2.heap.size w3.heap.size a2 rs.length c2 rs ∧ w3.heap.size ≤ W.heap.size)) (fun i _ => ks.length - (intOf i).toNat)
  case atStart => exact ⟨0, Nat.zero_le _, rfl, S.out⟩
  case round =>
    obtain ⟨j, hj, rfl, hs⟩ := hrel
    replace S := Lib.hid hs; clear hs
    by_cases hlt : j < ks.length
    · obtain ⟨key, hx⟩ : ∃ e, ks[j]? = some e := ⟨_, List.getElem?_eq_getElem hlt⟩
      have fk := HKF.out key (List.mem_of_getElem? hx)
      obtain ⟨b, o, al, nl, cl, rfl, c0, s0⟩ := S.out.now.1.1.2.2.2 j key hx
      obtain rfl : key.length = nl := s0.len
      replace S := Lib.hid (S.out.and ((Stab.sl s0).and (Stab.cell c0)))
      clear hx s0
      go_wp2_with fail
      refine (lent_any al key.length cl key wr (by omega) S.out.now.2.1).mono ?_
      rintro e w5 ⟨g, rfl, hgl, hL, hb⟩
      replace S := Lib.hid ((S.out.keep hb).and (show Stab w5 (fun W => Lent W g key) from fun W hb => hL.keep hb))
      clear hL hb hgl c0
      go_wp2_with fail
      refine (find_any a2 rs.length c2 rs (some ⟨g, 0, none⟩) key.length (key.length + 2) key w5 (by omega) S.out.now.1.1.2.1.spans S.out.now.2.sl).mono ?_
      rintro e w6 ⟨⟨r, rfl, q1, q2, q3⟩, hb⟩
      replace S := Lib.hid (S.out.keep hb)
      have Q := Lib.hid (show (fchk rs).2 = 0 → fnd rs key = r from fun h => fnd_of h q1 q2 q3)
      clear q1 q2 q3 hb
      have c0 := S.out.now.1.2.2
      go_wp2_with fail
      refine (kept_any g key.length al cl key w6 (by omega) S.out.now.2 S.out.now.1.2.1).mono ?_
      rintro e w7 ⟨rfl, hb⟩
      replace S := Lib.hid (S.out.keep hb)
      clear hb c0
      have c0 := S.out.now.1.2.2
      by_cases hz : q = 0
      · subst hz
        have HQ := Lib.hid (Q.out (by rw [HR.out]; have := HQ0.out; show r1 = 0; omega))
        have HC := rfind_any a rs.length c rs al key.length cl key w7 (by omega) HF.out (by omega) S.out.now.1.1.1.1.1 S.out.now.1.2.1
        rw [HQ.out] at HC
        replace HC := Lib.hid HC
        clear Q HQ
        go_wp2_with fail
        refine HC.out.mono ?_
        rintro e w8 ⟨rfl, hb⟩
        replace S := Lib.hid ((S.out.keep hb).imp fun W h => h.1.1)
        go_wp2_with fail
        go_roundw
        case rel => exact ⟨j + 1, by omega, by go_num, S.out⟩
        case measure => simp [intOf]; omega
      · have f1 : (q == 0) = false := by rw [beq_eq_false_iff_ne]; exact hz
        replace S := Lib.hid (S.out.imp fun W h => h.1.1)
        clear Q hz
        go_wp2_with fail
        go_roundw
        case rel => exact ⟨j + 1, by omega, by go_num, S.out⟩
        case measure => simp [intOf]; omega
    · have HK := keptRows_any a2 rs.length c2 a c rs _ _ wr hn HF.out S.out.now.2.1 S.out.now.2.2 S.out.now.1.1.1
      replace HK := Lib.hid HK
      go_wp2_with fail
      refine HK.out.mono ?_
      rintro e w5 ⟨rfl, hb⟩
      replace S := Lib.hid (S.out.keep hb)
      clear hb HK
      by_cases hz : q = 0
      · subst hz
        have HC := rtotal_any a rs.length c rs w5 (by omega) S.out.now.1.1.1
        rw [HT.out] at HC
        replace HC := Lib.hid HC
        go_wp2_with fail
        refine HC.out.mono ?_
        rintro e w6 ⟨rfl, hb⟩
        have FB := Lib.hid (S.out.keep hb).now.1.2
        clear hb
        go_wp2_with fail
        go_ret
        exact ⟨ret_bool (by simp), FB.out⟩
      · have f1 : (q != 0) = true := by rw [bne_iff_ne]; exact hz
        have FB := Lib.hid S.out.now.1.2
        clear hz
        go_wp2_with fail
        go_ret
        exact ⟨rfl, FB.out⟩
end Go.Proofs.Ytpmijgeakmmieaa

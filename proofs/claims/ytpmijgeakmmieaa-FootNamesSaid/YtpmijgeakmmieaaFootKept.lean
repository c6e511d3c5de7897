/- Do rows of the call's own read as they did; is the program there: contracts of the law's keptRows and lives. Conditions: the slices within reach. -/
import Derived.Test.YtpmijgeakmmieaaFootRows
import Derived.Test.YtpmijgeakmmieaaFootBytes
namespace Go.Proofs.Ytpmijgeakmmieaa
open Go.RowKit

set_option maxHeartbeats 2000000 in
set_option maxRecDepth 100000 in
theorem keptRows_any (a : Option Addr) (n c : Nat) (a' : Option Addr) (c' : Nat) (rs : List Row) (lo hi : Nat) (w : World) (hn : n ≤ 2932031007317) (hf : FitR 140737488351232 rs) (h : Rws w lo hi a n c rs) (hh : hi ≤ w.heap.size) (h' : Spans w a' n c' rs) :
    Calls Try.prog 16 #[.slice a n c, .slice a' n c'] w fun e w' => e = .returned (.bool true) ∧ Below w.heap.size w w' := by
  obtain rfl : n = rs.length := h'.1.symm
  have hs := rsame_any a rs.length c a' rs.length c' rs rs w (by omega) (by omega) h.spans h'
  rw [decide_eq_true rfl] at hs
  have HS := Lib.hid hs; clear hs
  have hcap := h.cap
  obtain ⟨b, o, rfl, _⟩ := h.last
  have S := Lib.hid (show Stab w (fun W => (Rws W lo hi (some ⟨b, o, none⟩) rs.length c rs ∧ Spans W a' rs.length c' rs) ∧ Below w.heap.size w W) from fun W hb => ⟨⟨h.keep hb hh, h'.keep hb⟩, hb⟩)
  have HF := Lib.hid hf; clear hf h h'
  have hcutR := fun (W : World) => run_cutR W (some ⟨b, o, none⟩) rs.length c .i64 (rs.length + 1) hcap
  go_enter Try.func16, Try.ntmps16
  go_wp2_with fail
  refine HS.out.mono ?_
  rintro e w1 ⟨rfl, hb⟩
  replace S := Lib.hid (S.out.keep hb)
  clear hb HS
  go_wp2_with fail
  go_loopw [6] (fun i wr => ∃ k : Nat, k ≤ rs.length ∧ i = .int .i64 k ∧ Stab wr (fun W => (Rws W lo hi (some ⟨b, o, none⟩) rs.length c rs ∧ Spans W a' rs.length c' rs) ∧ Below w.heap.size w W)) (fun i _ => rs.length - (intOf i).toNat)
  case atStart => exact ⟨0, Nat.zero_le _, rfl, S.out⟩
  case round =>
    obtain ⟨k, hk, rfl, hs⟩ := hrel
    replace S := Lib.hid hs; clear hs
    by_cases hlt : k < rs.length
    · obtain ⟨⟨kk, x, y, z⟩, hx⟩ : ∃ e, rs[k]? = some e := ⟨_, List.getElem?_eq_getElem hlt⟩
      obtain ⟨fk, _, _, _⟩ := HF.out.at hx
      obtain ⟨b1, o1, g, e0, c0, _, _, _, hL⟩ := S.out.now.1.1.at k _ hx
      cases e0
      replace c0 : wr.cell? ⟨b, o + k * 4, none⟩ = some (.slice (some ⟨g, 0, none⟩) kk.length (kk.length + 2)) := c0
      obtain ⟨b', o', ak, nk, ck, rfl, c0', _, _, _, s0⟩ := S.out.now.1.2.2.2.2 k kk x y z hx
      obtain rfl : kk.length = nk := s0.len
      have HK := Lib.hid (fun q : Nat => kept_any g kk.length ak ck kk (wr.drewN q) (by omega) hL (s0.drewN q))
      clear hx hL s0
      go_upto_region 7 with (fail)
      go_region_with (go_at_call 20; refine (HK.out 1).mono ?_; rintro e w2 ⟨rfl, hb2⟩)
      all_goals
        replace S := Lib.hid ((S.out.drewN 1).keep hb2)
        clear hb2 HK
        go_wp2_with fail
        go_roundw
        case rel => exact ⟨k + 1, by omega, by go_num, S.out⟩
        case measure => simp [intOf]; omega
    · obtain ⟨b1, o1, e0, c0⟩ := S.out.now.1.1.last
      cases e0
      have FB := Lib.hid S.out.now.2
      go_wp2_with fail
      go_ret
      exact ⟨ret_bool (by simp), FB.out⟩
theorem spans_nil (w : World) : Spans w none 0 0 [] := ⟨rfl, Nat.le_refl _, fun _ => rfl, fun i k x y z h => by simp at h⟩
theorem lives_any (w : World) : Calls Try.prog 8 #[] w fun e w' => e = .returned (.bool true) ∧ Below w.heap.size w w' := by
  have HB := ffbytes_any none 0 0 [] w (by omega) (fun r h => by cases h) (spans_nil w)
  have e1 : (fchk []).2 = 0 := rfl
  have e2 : (fchk []).1 = 0 := rfl
  have e3 : (fbs []).length = 2 := by
    have h0 : vb 0 = [lo8 0] := vb_lt (by omega)
    have h1 : totU [] = 0 := by unfold totU; rw [tot_nil, IntKind.wrap_u64]; rfl
    rw [fbs_yes e1]; unfold fbytes
    rw [h1, List.length_nil, h0]; rfl
  rw [e1, e2] at HB
  obtain ⟨zs, hzs⟩ : ∃ zs, fbs [] = zs := ⟨_, rfl⟩
  rw [hzs] at HB e3
  clear e1 e2 hzs
  replace HB := Lib.hid HB
  go_enter Try.func8, Try.ntmps8
  go_wp2_with fail
  refine HB.out.mono ?_
  rintro e w1 ⟨v, rfl, ho, hb⟩
  obtain ⟨a1, n1, c1, rfl, z1⟩ := ho.slN
  obtain rfl : n1 = 2 := by have := z1.len; omega
  have B := Lib.hid hb
  clear ho z1 hb e3
  go_wp2_with fail
  go_ret
  exact ⟨rfl, B.out⟩
end Go.Proofs.Ytpmijgeakmmieaa

/- FootReads: the walk. Condition: the bytes within reach. -/
import Derived.Test.YtpmijgeakmmieaaFootKept
import Derived.Test.YtpmijgeakmmieaaFootPRead
import Derived.Test.YtpmijgeakmmieaaFootRRead
import Derived.Test.YtpmijgeakmmieaaFootSpoil
namespace Go.Proofs.Ytpmijgeakmmieaa
open Go.RowKit

theorem frd_len {b : List UInt8} : ∀ (j : Nat) (rs : List Row) (p : Nat) (l : List Row) (q : Nat) (e : Int), frd b j rs p = (l, q, e) → l.length ≤ rs.length + j
  | 0, rs, p, l, q, e, h => by
    have h : (rs, p, (0 : Int)) = (l, q, e) := h
    simp only [Prod.mk.injEq] at h
    obtain ⟨rfl, _⟩ := h
    omega
  | j + 1, rs, p, l, q, e, h => by
    obtain ⟨⟨r, m, e1⟩, hr⟩ : ∃ X, frow b rs p = X := ⟨_, rfl⟩
    by_cases he : e1 = 0
    · subst he
      rw [frd_go hr] at h
      have := frd_len j _ _ _ _ _ h
      rw [List.length_append] at this
      simp at this; omega
    · rw [frd_no hr he] at h
      simp only [Prod.mk.injEq] at h
      obtain ⟨rfl, _⟩ := h
      simp
theorem ftl_rows {b : List UInt8} {rs l : List Row} {p q : Nat} {e : Int} (h : ftl b rs p = (l, q, e)) : l = [] ∨ l = rs := by
  unfold ftl at h
  dsimp only at h
  split at h
  · simp only [Prod.mk.injEq] at h; exact .inl h.1.symm
  · split at h
    · simp only [Prod.mk.injEq] at h; exact .inl h.1.symm
    · split at h
      · simp only [Prod.mk.injEq] at h; exact .inl h.1.symm
      · simp only [Prod.mk.injEq] at h; exact .inr h.1.symm
theorem fread_len {b : List UInt8} {rs : List Row} {q : Nat} {e : Int} (h : fread b = (rs, q, e)) : rs.length ≤ 8388608 := by
  obtain ⟨⟨M, d, e0⟩, hr⟩ : ∃ X, rd b 0 0 = X := ⟨_, rfl⟩
  by_cases he : e0 = 0
  · subst he
    by_cases hb : 8388608 < M
    · rw [fread_many hr hb] at h
      simp only [Prod.mk.injEq] at h
      obtain ⟨rfl, _⟩ := h
      simp
    · obtain ⟨⟨l, p, e1⟩, hl⟩ : ∃ X, frd b M [] d = X := ⟨_, rfl⟩
      have := frd_len _ _ _ _ _ _ hl
      by_cases he1 : e1 = 0
      · subst he1
        rw [fread_go hr hb hl] at h
        rcases ftl_rows h with rfl | rfl
        · simp
        · simp at this; omega
      · rw [fread_bad hr hb hl he1] at h
        simp only [Prod.mk.injEq] at h
        obtain ⟨rfl, _⟩ := h
        simp
  · rw [fread_no hr he] at h
    simp only [Prod.mk.injEq] at h
    obtain ⟨rfl, _⟩ := h
    simp
set_option maxHeartbeats 2000000 in
set_option maxRecDepth 100000 in
theorem footReads_walk (a : Option Addr) (n c : Nat) (b : List UInt8) (w : World) (hn : n ≤ 140737488351232) (h : Sl Bf w a n c b) :
    Calls Try.prog 5 #[.slice a n c] w fun e w' => e = .returned (.bool true) ∧ Below w.heap.size w w' := by
  obtain rfl : n = b.length := h.len.symm
  have S := Lib.hid ((Stab.sl h).and (Stab.below (Below.refl w.heap.size w))); clear h
  obtain ⟨⟨rs, q, er⟩, hR⟩ : ∃ X, fread b = X := ⟨_, rfl⟩
  have hlen : rs.length ≤ 8388608 := fread_len hR
  have HR := Lib.hid hR; clear hR
  go_enter Try.func5, Try.ntmps5
  go_wp2_with fail
  refine (lives_any _).mono ?_
  rintro e w1 ⟨rfl, hb⟩
  replace S := Lib.hid (S.out.keep hb); clear hb
  go_wp2_with fail
  refine (lent_any a b.length c b w1 (by omega) S.out.now.1).mono ?_
  rintro e w2 ⟨g, rfl, hgl, hL, hb⟩
  replace S := Lib.hid ((S.out.keep hb).and (show Stab w2 (fun W => Lent W g b ∧ w2.heap.size ≤ W.heap.size) from fun W hb => ⟨hL.keep hb, hb.size⟩))
  clear hb hL hgl
  go_wp2_with fail
  have HC := fpread_any (some ⟨g, 0, none⟩) b.length (b.length + 2) b w2 (by omega) S.out.now.2.1.sl
  rw [HR.out] at HC
  refine HC.mono ?_
  rintro e w3 ⟨a1, n1, c1, vs1, rfl, ho, hk, hb⟩
  obtain rfl : n1 = rs.length := by obtain ⟨a', n', c', hv, hn', _⟩ := ho.t.slR; cases hv; rw [hn', hk.1]
  have O1 := Lib.hid ho
  have K1 := Lib.hid hk
  have B := Lib.hid hb
  have s3 := hb.size
  clear ho hk hb HC
  go_wp2_with fail
  have HC := fpread_any (some ⟨g, 0, none⟩) b.length (b.length + 2) b w3 (by omega) (S.out.keep B.out).now.2.1.sl
  rw [HR.out] at HC
  refine HC.mono ?_
  rintro e w4 ⟨a2, n2, c2, vs2, rfl, ho, hk, hb⟩
  obtain rfl : n2 = rs.length := by obtain ⟨a', n', c', hv, hn', _⟩ := ho.t.slR; cases hv; rw [hn', hk.1]
  have s4 := hb.size
  replace B := Lib.hid (keep_trans B.out hb)
  replace K1 := Lib.hid (K1.out.same fun j _ hj => hb.block j hj)
  have O1b := Lib.hid O1.out.t.lt
  replace O1 := Lib.hid (O1.out.keep hb)
  have O2 := Lib.hid ho
  have K2 := Lib.hid hk
  clear ho hk hb HC
  go_wp2_with fail
  have HC := rfread_any a b.length c b w4 (by omega) (S.out.keep B.out).now.1.1
  rw [HR.out] at HC
  refine HC.mono ?_
  rintro e w5 ⟨a3, n3, c3, vs3, rfl, ho, hk, hb⟩
  obtain rfl : n3 = rs.length := by obtain ⟨a', n', c', hv, hn', _⟩ := ho.t.slR; cases hv; rw [hn', hk.1]
  have s5 := hb.size
  replace B := Lib.hid (keep_trans B.out hb)
  replace K1 := Lib.hid (K1.out.same fun j _ hj => hb.block j (by omega))
  replace O1 := Lib.hid (O1.out.keep hb)
  replace K2 := Lib.hid (K2.out.same fun j _ hj => hb.block j hj)
  have O2b := Lib.hid O2.out.t.lt
  replace O2 := Lib.hid (O2.out.keep hb)
  have O3b := Lib.hid ho.t.lt
  have O3 := Lib.hid ho
  have K3 := Lib.hid hk
  clear ho hk hb HC
  go_wp2_with fail
  have HC := rsame_any a1 rs.length c1 a3 rs.length c3 rs rs w5 (by omega) (by omega) (KTx.spans O1.out K1.out) (KTx.spans O3.out K3.out)
  rw [decide_eq_true rfl] at HC
  refine HC.mono ?_
  rintro e w6 ⟨rfl, hb⟩
  have s6 := hb.size
  replace B := Lib.hid (keep_trans B.out hb)
  replace K1 := Lib.hid (K1.out.same fun j _ hj => hb.block j (by omega))
  replace O1 := Lib.hid (O1.out.keep hb)
  replace K2 := Lib.hid (K2.out.same fun j _ hj => hb.block j (by omega))
  replace O2 := Lib.hid (O2.out.keep hb)
  replace K3 := Lib.hid (K3.out.same fun j _ hj => hb.block j (by omega))
  replace O3 := Lib.hid (O3.out.keep hb)
  clear hb HC
  go_wp2_with fail
  refine (rspoil_any a1 rs.length c1 vs1 rs w2.heap.size w3.heap.size w6 O1.out K1.out O1b.out).mono ?_
  rintro e w7 ⟨rfl, hc⟩
  have s7 := hc.size
  replace B := Lib.hid (hc.below B.out (Nat.le_refl _) (by omega))
  replace K2 := Lib.hid (K2.out.same fun j h1 h2 => hc.block j (by omega) (by omega))
  replace O2 := Lib.hid (O2.out.of_block fun j hj => hc.block j (by have := (O2b.out j hj).2; omega) (by have := (O2b.out j hj).1; omega))
  replace K3 := Lib.hid (K3.out.same fun j h1 h2 => hc.block j (by omega) (by omega))
  replace O3 := Lib.hid (O3.out.of_block fun j hj => hc.block j (by have := (O3b.out j hj).2; omega) (by have := (O3b.out j hj).1; omega))
  clear hc O1 K1
  go_wp2_with fail
  have HC := rsame_any a2 rs.length c2 a3 rs.length c3 rs rs w7 (by omega) (by omega) (KTx.spans O2.out K2.out) (KTx.spans O3.out K3.out)
  rw [decide_eq_true rfl] at HC
  refine HC.mono ?_
  rintro e w8 ⟨rfl, hb⟩
  replace B := Lib.hid (keep_trans B.out hb)
  replace S := Lib.hid (S.out.keep B.out)
  clear hb HC B O2 K2 O3 K3
  go_wp2_with fail
  refine (kept_any g b.length a c b w8 (by omega) S.out.now.2.1 S.out.now.1.1).mono ?_
  rintro e w9 ⟨rfl, hb⟩
  have FB := Lib.hid (S.out.keep hb).now.1.2
  clear hb
  go_wp2_with fail
  go_ret
  exact ⟨ret_bool (by simp), FB.out⟩
end Go.Proofs.Ytpmijgeakmmieaa

/- BlockFinds: the walk. Condition: the bytes within reach. -/
import Derived.Test.YteedjgjkldbbcaaK6c
import Derived.Test.YteedjgjkldbbcaaBlockReads
import Derived.Test.YteedjgjkldbbcaaBlockFind
import Derived.Test.YteedjgjkldbbcaaBlockRFind
import Derived.Test.YteedjgjkldbbcaaK6b
namespace Go.Proofs.Yteedjgjkldbbcaa
open Go.RowKit
set_option linter.unusedVariables false
set_option linter.unusedSimpArgs false

theorem RdL.valQ {w : World} {lo : Nat} {y : Value} {vs : List (Sv × Sv)} {es : List Ent} (h : RdL w lo y vs es) {a : Option Addr} {n c : Nat} (hy : y = .slice a n c) {i : Nat} {k v : List UInt8} {b o : Nat} {z : Value}
    (hx : es[i]? = some (k, v)) (ha : a = some ⟨b, o, none⟩) (hc : w.cell? ⟨b, o + i * 2 + 1, none⟩ = some z) : OwT fB w lo 5 z v ∧ ∀ zk, w.cell? ⟨b, o + i * 2, none⟩ = some zk → OwT fB w lo 5 zk k := by
  obtain ⟨ho, hl, ht, _⟩ := h
  obtain ⟨a9, c9, hv, hs⟩ := ho.t.sl fE_len
  rw [hy] at hv
  injection hv with e1 e2 e3
  subst e1 e3
  have hin : i < vs.length := by have := (List.getElem?_eq_some_iff.1 hx).1; omega
  obtain ⟨b9, o9, ha9, hcs⟩ := hs.2.2.2 i _ (List.getElem?_eq_getElem hin)
  rw [ha] at ha9
  injection ha9 with ha9
  injection ha9 with e4 e5
  subst e4 e5
  obtain ⟨m1, m2⟩ := ht i _ (k, v) (List.getElem?_eq_getElem hin) hx
  have c1 := hcs 1 _ rfl
  rw [hc] at c1
  injection c1 with c1
  subst c1
  refine ⟨m2, fun zk hk => ?_⟩
  have c0 := hcs 0 _ rfl
  rw [show o + i * 2 + 0 = o + i * 2 from rfl, hk] at c0
  injection c0 with c0
  subst c0
  exact m1
theorem lfind_mem (l : List Ent) (hu : ∀ (i j : Nat) (x y : Ent), l[i]? = some x → l[j]? = some y → i < j → x.1 ≠ y.1) : ∀ (i : Nat) (x : Ent), l[i]? = some x → lfind l x.1 = some x.2 := by
  induction l with
  | nil => intro i x h; simp at h
  | cons e r ih =>
    intro i x h
    unfold lfind
    cases i with
    | zero => obtain rfl : e = x := by simpa using h
              rw [if_pos rfl]
    | succ i =>
      have h' : r[i]? = some x := by simpa using h
      rw [if_neg (hu 0 (i + 1) e x rfl h (by omega))]
      exact ih (fun i j x y h1 h2 h3 => hu (i + 1) (j + 1) x y (by simpa using h1) (by simpa using h2) (by omega)) i x h'
theorem lfind_own {b : List UInt8} {l : List Ent} {q : Nat} (hb : b.length < 18446744073709551616) (h : bread b = (l, q, 0)) (i : Nat) (x : Ent) (hx : l[i]? = some x) : lfind l x.1 = some x.2 := by
  obtain ⟨hn, hs, rfl⟩ := bread_back hb h
  refine lfind_mem l (fun i j x y h1 h2 h3 e => ?_) i x hx
  have := (up_all hn hs i x h1 (j - i) y (by rw [show i + (j - i) = j by omega]; exact h2)).2 (by omega)
  rw [e, cmp_self] at this
  omega
set_option maxHeartbeats 8000000 in
set_option maxRecDepth 100000 in
theorem blockFinds_walk (a : Option Addr) (n c : Nat) (b : List UInt8) (ak : Option Addr) (nk ck : Nat) (ks : List (List UInt8)) (w : World) (hn : n ≤ 140737488351232) (hnk : nk ≤ 140737488351232) (h : Sl Bf w a n c b) (hK : Rows2 w ak nk ck ks) (hF : ∀ k, k ∈ ks → k.length ≤ 140737488351232) :
    Calls Try.prog 9 #[.slice a n c, .slice ak nk ck] w fun e w' => e = .returned (.bool true) ∧ Below w.heap.size w w' := by
  obtain rfl : b.length = n := h.len
  obtain rfl : ks.length = nk := hK.1
  have H := Lib.hid h
  have HK := Lib.hid hK
  have HF := Lib.hid hF
  obtain ⟨⟨l, q, er⟩, hX⟩ : ∃ X, bread b = X := ⟨_, rfl⟩
  have hl64 : l.length ≤ 64 := by have := bread_len b (by omega); rw [hX] at this; exact this
  have HX := Lib.hid hX
  clear h hX hK hF
  go_enter Try.func9, Try.ntmps9
  go_wp2_with fail
  refine (lives_any _).mono ?_
  rintro e w1 ⟨rfl, hb⟩
  have G1 := Lib.hid hb
  clear hb
  go_wp2_with fail
  refine (rbread_any a b.length c b w1 hn (H.out.keep G1.out)).mono ?_
  rintro e w2 ⟨hb, y, vs, rfl, hR⟩
  rw [HX.out] at hR ⊢
  obtain ⟨ay, cy, rfl, hEn⟩ := hR.ents
  have R2 := Lib.hid hR
  have B2 := Lib.hid hb
  have G2 := Lib.hid (keep_trans G1.out hb)
  clear hR hb hEn
  dsimp only
  go_wp2_with fail
  refine (lent_any a b.length c b w2 hn (H.out.keep G2.out)).mono ?_
  rintro e w3 ⟨g, rfl, hg, hL, hb⟩
  have G3 := Lib.hid (keep_trans G2.out hb)
  have LN := Lib.hid hL
  have R3 := Lib.hid (R2.out.keep hb)
  have hgs : g < w3.heap.size := hL.lt
  clear hb hL hg R2 B2 G1 G2
  have FND := Lib.hid (fun (W : World) (hW : Below w3.heap.size w3 W) (a' : Option Addr) (n' c' : Nat) (key : List UInt8) (hS : Sl Bf W a' n' c' key) => bfind_any (some ⟨g, 0, none⟩) b.length (b.length + 2) b a' n' c' key W hn (LN.out.keep hW).sl hS)
  have hyc : l.length ≤ cy := by obtain ⟨_, _, e, h1⟩ := R3.out.ents; injection e with e1 e2 e3; subst e3; exact h1.2.1
  go_wp2_with fail
  go_loopw [10] (fun i wr => ∃ k : Nat, i = .int .i64 (k : Nat) ∧ k ≤ ks.length ∧ Below w3.heap.size w3 wr) (fun i _ => ks.length - (intOf i).toNat)
  case atStart => exact ⟨0, rfl, Nat.zero_le _, Below.refl _ _⟩
  case round =>
    obtain ⟨k, rfl, hk, hb⟩ := hrel
    have B := Lib.hid hb
    clear hb
    by_cases hlt : k < ks.length
    · obtain ⟨key, hx⟩ : ∃ e, ks[k]? = some e := ⟨_, List.getElem?_eq_getElem hlt⟩
      obtain ⟨bk, ok, ax, nx, cx, rfl, e1, s1⟩ := (HK.out.keep (G3.out.trans (B.out.mono G3.out.size))).2.2 k key hx
      have hkl : key.length ≤ 140737488351232 := HF.out key (List.mem_of_getElem? hx)
      obtain rfl : key.length = nx := s1.len
      have S1 := Lib.hid s1
      have hcx := s1.le
      clear hx s1
      go_wp2_with fail
      refine (lent_any ax key.length cx key wr hkl S1.out).mono ?_
      rintro e w4 ⟨gk, rfl, hg, hL, hb⟩
      have B4 := Lib.hid hb
      have L4 := Lib.hid hL
      clear hb hL hg
      go_wp2_with fail
      refine (FND.out w4 (B.out.trans (B4.out.mono B.out.size)) (some ⟨gk, 0, none⟩) key.length (key.length + 2) key L4.out.sl).mono ?_
      rintro e w5 ⟨⟨ov, ee, v, hf, rfl, ho⟩, hb⟩
      obtain ⟨av, nv, cv, rfl, -⟩ := ho.sl
      have B5 := Lib.hid hb
      have FR := Lib.hid hf
      have O5 := Lib.hid ho
      clear hb hf ho
      go_wp2_with fail
      refine (FND.out w5 (B.out.trans ((keep_trans B4.out B5.out).mono B.out.size)) (some ⟨gk, 0, none⟩) key.length (key.length + 2) key (L4.out.keep B5.out).sl).mono ?_
      rintro e w6 ⟨⟨ov2, ee2, v2, hf, rfl, ho⟩, hb⟩
      obtain ⟨av2, nv2, cv2, rfl, -⟩ := ho.sl
      have B6 := Lib.hid hb
      have FR2 := Lib.hid hf
      have O6 := Lib.hid ho
      clear hb hf ho
      go_wp2_with fail
      refine (kept_any g b.length a c b w6 hn (LN.out.keep (B.out.trans ((keep_trans (keep_trans B4.out B5.out) B6.out).mono B.out.size))) (H.out.keep (G3.out.trans ((B.out.trans ((keep_trans (keep_trans B4.out B5.out) B6.out).mono B.out.size)).mono G3.out.size)))).mono ?_
      rintro e w7 ⟨rfl, hb⟩
      have B7 := Lib.hid hb
      clear hb
      have B47 := Lib.hid (keep_trans (keep_trans (keep_trans B4.out B5.out) B6.out) B7.out)
      have e17 := (World.cell?_of_block (a := ⟨bk, ok + k, none⟩) (B47.out.block bk (cell_lt e1))).trans e1
      go_wp2_with fail
      refine (kept_any gk key.length ax cx key w7 hkl (((L4.out.keep B5.out).keep B6.out).keep B7.out) (S1.out.keep B47.out)).mono ?_
      rintro e w8 ⟨rfl, hb⟩
      have B8 := Lib.hid hb
      have B48 := Lib.hid (keep_trans B47.out hb)
      have B38 := Lib.hid (B.out.trans ((keep_trans B47.out hb).mono B.out.size))
      have e18 := (World.cell?_of_block (a := ⟨bk, ok + k, none⟩) (hb.block bk (cell_lt e17))).trans e17
      clear hb e1 e17 B47
      by_cases hz : er = 0
      · subst hz
        obtain ⟨rfl, rfl⟩ := find_law (by omega) HX.out FR.out
        obtain ⟨rfl, rfl⟩ := find_law (by omega) HX.out FR2.out
        have E8 := Lib.hid (R3.out.keep B38.out)
        have hq : ∀ (W : World) (i : Nat) (k v : List UInt8) (b o : Nat) (z : Value), Below w8.heap.size w8 W → l[i]? = some (k, v) → ay = some ⟨b, o, none⟩ → W.cell? ⟨b, o + i * 2 + 1, none⟩ = some z → OwT fB w3 w1.heap.size 5 z v := fun W i k v b o z hW h1 h2 h3 => by
          obtain ⟨_, _, e, hE⟩ := R3.out.ents
          cases e
          obtain ⟨b9, o9, a1, n1, c1, a2, n2, c2, h4, h5, h6, _, _⟩ := hE.2.2.2 i k v h1
          rw [h2] at h4
          injection h4 with h4
          injection h4 with e4 e5
          subst e4 e5
          have h7 := (World.cell?_of_block (a := ⟨b, o + i * 2 + 1, none⟩) ((B38.out.trans (hW.mono B38.out.size)).block b (cell_lt h6))).trans h6
          rw [h3] at h7
          injection h7 with h7
          subst h7
          exact (R3.out.valQ rfl h1 h2 h6).1
        have RF := Lib.hid (rfind_any ay l.length cy l ax key.length cx key w8 (fun z v => OwT fB w3 w1.heap.size 5 z v) hq (by omega) (by obtain ⟨_, _, e, hE⟩ := E8.out.ents; cases e; exact hE) (S1.out.keep B48.out))
        clear hq FR FR2
        go_wp2_with fail
        refine RF.out.mono ?_
        rintro e w9 ⟨⟨v3, rfl, hfo⟩, hb⟩
        have B9 := Lib.hid hb
        have FS := Lib.hid hfo
        have hv3 : ∃ a3 n3 c3, v3 = .slice a3 n3 c3 ∧ ∀ W, (∀ j, j < w3.heap.size → W.heap[j]? = w3.heap[j]?) → Sl Bf W a3 n3 c3 ((lfind l key).getD []) := by
          rcases hfo with ⟨e, rfl⟩ | ⟨x, e, ho⟩
          · exact ⟨none, 0, 0, rfl, fun W _ => by rw [e]; exact Sl.nil _ _⟩
          · obtain ⟨a3, n3, c3, hv, hs⟩ := ho.slN
            exact ⟨a3, n3, c3, hv, fun W hW => by rw [e]; exact hs.of_block fun bb oo ha hn => hW bb (by subst ha; exact hs.blt hn)⟩
        obtain ⟨a3, n3, c3, rfl, h3⟩ := hv3
        have S3 := Lib.hid h3
        have B39 := Lib.hid (B38.out.trans (hb.mono B38.out.size))
        have B59 := Lib.hid (keep_trans (keep_trans (keep_trans B6.out B7.out) B8.out) hb)
        have B69 := Lib.hid (keep_trans (keep_trans B7.out B8.out) hb)
        have O9 := Lib.hid (O5.out.keep B59.out)
        have P9 := Lib.hid (O6.out.keep B69.out)
        obtain ⟨sv9, q1, q2, q3, q4⟩ := O9.out.slI
        obtain ⟨-, p1, p2, -, p4⟩ := P9.out.slI
        have hz3 := S3.out w9 fun j hj => B39.out.block j hj
        have hn3 : n3 ≤ 9223372036854775807 := by have := hz3.len; have := sv9.len; omega
        have hs := same_any av nv cv _ a3 n3 c3 _ w9 (by omega) hn3 sv9 hz3
        rw [decide_eq_true rfl] at hs
        have HS := Lib.hid hs
        have hlv := O5.out.slI.2.2.2.2
        have hsz : w3.heap.size ≤ w4.heap.size ∧ w4.heap.size ≤ w5.heap.size := ⟨Nat.le_trans B.out.size B4.out.size, B5.out.size⟩
        clear hs hz3 sv9 hb hfo h3 RF
        go_wp2_with fail
        refine HS.out.mono ?_
        rintro e w10 ⟨rfl, hb⟩
        have B10 := Lib.hid hb
        have SF := Lib.hid (O9.out.keep hb).slI.2.2.2.1
        clear hb HS
        go_wp2_with fail
        refine (spoil_any av nv cv w10 q2 SF.out).mono ?_
        rintro e w11 ⟨rfl, hg⟩
        have T11 := Turns.of_grown (S := fun j => Value.ownBlock (.slice av nv cv) = some j) hg fun j e => by rw [own_map]; exact e
        have B3b : Below w3.heap.size w3 w11 := T11.below (B39.out.trans (B10.out.mono B39.out.size)) (by have := B39.out.size; have := B10.out.size; omega) fun j hj => by have := (hlv j hj).1; omega
        have P11 := (P9.out.keep B10.out).turns T11 fun j hj e => by have := (hlv j e).2; omega
        have hz3 := S3.out w11 fun j hj => B3b.block j hj
        have hs := same_any av2 nv2 cv2 _ a3 n3 c3 _ w11 (by omega) hn3 P11.slI.1 hz3
        rw [decide_eq_true rfl] at hs
        have HS := Lib.hid hs
        have BB := Lib.hid B3b
        clear hs hz3 hg T11 P11 B3b hlv q3 q4 p4 q1 p1 e18
        go_wp2_with fail
        refine HS.out.mono ?_
        rintro e w12 ⟨rfl, hb⟩
        have BC := Lib.hid (BB.out.trans (hb.mono BB.out.size))
        have u1 : ((lfind l key).isSome != (lfind l key).isSome) = false := by simp
        clear hb HS
        go_wp2_with fail
        go_roundw
        case rel => exact ⟨k + 1, by go_num, by omega, BC.out⟩
        case measure => simp [intOf]; omega
      · have t1 : (er != 0) = true := by rw [bne_iff_ne]; exact hz
        go_wp2_with fail
        go_roundw
        case rel => exact ⟨k + 1, by go_num, by omega, B38.out⟩
        case measure => simp [intOf]; omega
    · have BB := Lib.hid B.out
      clear B HK HF
      go_wp2_with fail
      go_loopw [22] (fun i wq => ∃ j : Nat, i = .int .i64 (j : Nat) ∧ j ≤ l.length ∧ Below w3.heap.size w3 wq) (fun i _ => l.length - (intOf i).toNat)
      case atStart => exact ⟨0, rfl, Nat.zero_le _, BB.out⟩
      case round =>
        obtain ⟨j, rfl, hj, hb⟩ := hrel
        have B := Lib.hid hb
        clear hb BB
        by_cases hlt : j < l.length
        · obtain ⟨⟨kk, vv⟩, hx⟩ : ∃ e, l[j]? = some e := ⟨_, List.getElem?_eq_getElem hlt⟩
          have hEn : Ents w3 ay l.length cy l := by obtain ⟨_, _, e, hE⟩ := R3.out.ents; cases e; exact hE
          have hz : er = 0 := by
            by_cases h : er = 0
            · exact h
            · have := (bread_zero (b := b)).2 (by rw [HX.out]; exact h)
              rw [HX.out] at this
              have hl0 : l = [] := this
              rw [hl0] at hlt
              simp at hlt
          subst hz
          have hown := lfind_own (by omega) HX.out j _ hx
          obtain ⟨bk, o, a1, n1, c1, a2, n2, c2, rfl, e1, e2, s1, s2⟩ := hEn.2.2.2 j kk vv hx
          have e1' := (World.cell?_of_block (a := ⟨bk, o + j * 2, none⟩) (B.out.block bk (cell_lt e1))).trans e1
          have e2' := (World.cell?_of_block (a := ⟨bk, o + j * 2 + 1, none⟩) (B.out.block bk (cell_lt e2))).trans e2
          have S1 := Lib.hid (s1.keep B.out)
          have S2 := Lib.hid s2
          have HO := Lib.hid hown
          have E2 := Lib.hid e2'
          clear hx hEn s1 s2 e1 e2 hown e2'
          go_wp2_with fail
          refine (FND.out wr B.out a1 n1 c1 kk S1.out).mono ?_
          rintro e w5 ⟨⟨ov, ee, v, hf, rfl, ho⟩, hb⟩
          obtain ⟨rfl, rfl⟩ := find_law (by omega) HX.out hf
          obtain ⟨av, nv, cv, rfl, -⟩ := ho.sl
          obtain ⟨sv9, q1, q2, q3, q4⟩ := ho.slI
          have e3 := (World.cell?_of_block (a := ⟨bk, o + j * 2 + 1, none⟩) (hb.block bk (cell_lt E2.out))).trans E2.out
          have B5 := Lib.hid (B.out.trans (hb.mono B.out.size))
          have hz2 := S2.out.keep B5.out
          rw [HO.out] at sv9
          have hn2 : n2 ≤ 9223372036854775807 := by have := hz2.len; have := sv9.len; have : (some vv).getD [] = vv := rfl; simp only [this] at *; omega
          have hs := same_any av nv cv _ a2 n2 c2 _ w5 (by omega) hn2 sv9 hz2
          rw [show (some vv).getD [] = vv from rfl, decide_eq_true rfl] at hs
          have HS := Lib.hid hs
          have u2 : (lfind l kk).isSome = true := by rw [HO.out]; rfl
          rw [u2]
          clear hs sv9 hz2 hb ho hf q3 q4 u2
          go_wp2_with fail
          refine HS.out.mono ?_
          rintro e w6 ⟨rfl, hb⟩
          have B6 := Lib.hid (B5.out.trans (hb.mono B5.out.size))
          clear hb HS
          go_wp2_with fail
          go_roundw
          case rel => exact ⟨j + 1, by go_num, by omega, B6.out⟩
          case measure => simp [intOf]; omega
        · have B9 := Lib.hid (G3.out.trans (B.out.mono G3.out.size))
          go_wp2_with fail
          go_ret
          exact ⟨rfl, B9.out⟩
end Go.Proofs.Yteedjgjkldbbcaa

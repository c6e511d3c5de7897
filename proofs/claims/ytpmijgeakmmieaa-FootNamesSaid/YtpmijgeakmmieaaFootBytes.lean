/- The bytes of rows: contracts of Bytes, the reference's and the program's. Conditions: the rows within reach. Written by a program of this place (gen_FootBytes.py). -/
import Derived.Test.YtpmijgeakmmieaaFootBytesM
import Derived.Test.YtpmijgeakmmieaaFootPCheck
import Derived.Test.YtpmijgeakmmieaaVintBytes
import Derived.Test.YtpmijgeakmmieaaVintRPut
import Derived.Test.YtpmijgeakmmieaaVintJoin
namespace Go.Proofs.Ytpmijgeakmmieaa
open Go.RowKit

theorem u64_nn (n : Nat) (h : n < 18446744073709551616) : IntKind.u64.wrap (n : Int) = n := by rw [IntKind.wrap_u64]; omega
theorem Spans.row {w : World} {a : Option Addr} {n c : Nat} {rs : List Row} (h : Spans w a n c rs) {i : Nat} {k : List UInt8} {x y z : Int} (hi : rs[i]? = some (k, x, y, z)) :
    ∃ b o ak ck, a = some ⟨b, o, none⟩ ∧ ∀ W, Below w.heap.size w W → W.cell? ⟨b, o + i * 4, none⟩ = some (.slice ak k.length ck) ∧ W.cell? ⟨b, o + i * 4 + 1, none⟩ = some (.int .i64 x) ∧ W.cell? ⟨b, o + i * 4 + 2, none⟩ = some (.int .i64 y) ∧ W.cell? ⟨b, o + i * 4 + 3, none⟩ = some (.int .i64 z) ∧ Sl Bf W ak k.length ck k := by
  obtain ⟨b, o, ak, nk, ck, ha, c0, c1, c2, c3, s0⟩ := h.2.2.2 i k x y z hi
  obtain rfl : k.length = nk := s0.len
  have kp : ∀ {j : Nat} {v : Value} {W : World}, Below w.heap.size w W → w.cell? ⟨b, j, none⟩ = some v → W.cell? ⟨b, j, none⟩ = some v := fun hb hc => (World.cell?_of_block (hb.block _ (cell_lt hc))).trans hc
  exact ⟨b, o, ak, ck, ha, fun W hb => ⟨kp hb c0, kp hb c1, kp hb c2, kp hb c3, s0.keep hb⟩⟩
set_option maxHeartbeats 2000000 in
set_option maxRecDepth 100000 in
theorem frbytes_any (a : Option Addr) (n c : Nat) (rs : List Row) (w : World) (hn : n ≤ 140737488351232) (hf : FitR 140737488351232 rs) (h : Spans w a n c rs) :
    Calls Try.prog 13 #[.slice a n c] w fun e w' => ∃ v, e = .returned (.tuple #[v, .int .i64 ((fchk rs).2 : Nat), .int .i64 ((fchk rs).1 : Nat)]) ∧ OwT fB w' w.heap.size 5 v (fbs rs) ∧ Below w.heap.size w w' := by
  obtain rfl : n = rs.length := h.1.symm
  have HC := frcheck_any a rs.length c rs w hn hf h
  by_cases hz : (fchk rs).2 = 0
  · obtain ⟨hm, hw⟩ := fchk_all hz
    rw [fchk_zero hz] at HC
    replace HC := Lib.hid HC
    rw [fbs_yes hz, fchk_zero hz]
    have hbb := fbytes_len hz
    have HW := Lib.hid hw
    have H := Lib.hid h
    clear hz hf h hw
    go_enter Try.func13, Try.ntmps13
    go_wp2_with fail
    refine HC.out.mono ?_
    rintro e w1 ⟨rfl, hb⟩
    have B := Lib.hid hb
    have hlw : w.heap.size ≤ w1.heap.size := hb.size
    have r0 := u64_nn rs.length (by omega)
    clear hb HC
    go_wp2_with fail
    refine (rbytes_any rs.length w1 (by omega)).mono ?_
    rintro e w2 ⟨v0, rfl, ho, hb⟩
    have O := Lib.hid (ho.base hlw)
    replace B := Lib.hid (B.out.trans (hb.mono hlw))
    clear ho hb r0
    go_wp2_with fail
    go_loopw [7, 8] (fun s i wr => ∃ k : Nat, k ≤ rs.length ∧ i = .int .i64 k ∧ OwT fB wr w.heap.size 5 s (vb rs.length ++ (rs.take k).flatMap rowB) ∧ Below w.heap.size w wr) (fun _ i _ => rs.length - (intOf i).toNat)
    case atStart => exact ⟨0, Nat.zero_le _, rfl, by simpa using O.out, B.out⟩
    case round =>
      clear O B
      obtain ⟨k, hk, rfl, ho, hb⟩ := hrel
      have lr : wr.heap.size = wr.heap.size := rfl
      have lw := hb.size
      have B := Lib.hid hb
      by_cases hlt : k < rs.length
      · obtain ⟨⟨kk, x, y, z⟩, hx⟩ : ∃ e, rs[k]? = some e := ⟨_, List.getElem?_eq_getElem hlt⟩
        obtain ⟨⟨q1, q2⟩, ⟨q3, q4⟩, ⟨q5, q6⟩, ⟨q7, q8⟩⟩ := HW.out _ (List.mem_of_getElem? hx)
        dsimp only at q1 q2 q3 q4 q5 q6 q7 q8
        obtain ⟨x, rfl⟩ := Int.eq_ofNat_of_zero_le (show 0 ≤ x by omega)
        obtain ⟨y, rfl⟩ := Int.eq_ofNat_of_zero_le (show 0 ≤ y by omega)
        obtain ⟨z, rfl⟩ := Int.eq_ofNat_of_zero_le (show 0 ≤ z by omega)
        obtain ⟨b, o, ak, ck, rfl, hrow⟩ := H.out.row hx
        have HR := Lib.hid hrow
        have hsn := rowsB_take hx
        have hlz := rowsB_upto HW.out k
        have hv10 := vb_ten (n := rs.length) (by omega)
        obtain ⟨zs, hzs⟩ : ∃ zs, vb rs.length ++ (rs.take k).flatMap rowB = zs := ⟨_, rfl⟩
        have hzl : zs.length ≤ 873000000 := by rw [← hzs, List.length_append]; omega
        rw [hzs] at ho
        have O := Lib.hid ho
        obtain ⟨b0, hb0⟩ : ∃ x, vb kk.length = x := ⟨_, rfl⟩
        have t0 : b0.length ≤ 10 := hb0 ▸ vb_ten (by omega)
        obtain ⟨b1, hb1⟩ : ∃ q, vb x = q := ⟨_, rfl⟩
        obtain ⟨b2, hb2⟩ : ∃ q, vb y = q := ⟨_, rfl⟩
        obtain ⟨b3, hb3⟩ : ∃ q, vb z = q := ⟨_, rfl⟩
        have t1 : b1.length ≤ 10 := hb1 ▸ vb_ten (by omega)
        have t2 : b2.length ≤ 10 := hb2 ▸ vb_ten (by omega)
        have t3 : b3.length ≤ 10 := hb3 ▸ vb_ten (by omega)
        have hfin : vb rs.length ++ (rs.take (k + 1)).flatMap rowB = zs ++ b0 ++ kk ++ b1 ++ b2 ++ b3 := by
          rw [hsn, ← List.append_assoc, hzs]
          unfold rowB vbs
          simp [hb0, hb1, hb2, hb3]
        have FIN := Lib.hid hfin
        have R0 := Lib.hid (fun W : World => hb0 ▸ rbytes_any kk.length W (by omega))
        have R1 := Lib.hid (fun W : World => hb1 ▸ rbytes_any x W (by omega))
        have R2 := Lib.hid (fun W : World => hb2 ▸ rbytes_any y W (by omega))
        have R3 := Lib.hid (fun W : World => hb3 ▸ rbytes_any z W (by omega))
        have u0 := u64_nn kk.length (by omega)
        have u1 := u64_nn x (by omega)
        have u2 := u64_nn y (by omega)
        have u3 := u64_nn z (by omega)
        obtain ⟨c0, c1, c2, c3, s0⟩ := HR.out wr B.out
        clear hb0 hb1 hb2 hb3 hsn hlz hv10 hzs hx hrow hb ho hfin s0
        go_wp2_with fail
        refine (R0.out _).mono ?_
        rintro e w3 ⟨_, rfl, ho, hb⟩
        obtain ⟨x0, n0, d0, rfl, zz⟩ := ho.slN
        obtain rfl : b0.length = n0 := zz.len
        have Z := Lib.hid zz
        replace O := Lib.hid (O.out.keep hb)
        replace B := Lib.hid (B.out.trans (hb.mono lw))
        replace lw := Nat.le_trans lw hb.size
        clear c0 c1 c2 c3 ho hb zz R0
        obtain ⟨c0, c1, c2, c3, s0⟩ := HR.out w3 B.out
        clear s0
        go_wp2_with (first
          | (at_builtin; refine wpList_appT eltTB rfl (.tmp 28) (.tmp 36) rfl w.heap.size _ (zs) (by rfl) O.out x0 b0.length d0 b0 (by rfl) (Z.out).toT (by unfold maxLen; simp; omega) (by simp; omega) lw (zs ++ b0) rfl ?_; intro vw4 w4 h5 hg5 hv5 hb5; have O := Lib.hid h5; have B := Lib.hid (B.out.trans hb5); have lw := Nat.le_trans lw hg5.size; obtain ⟨c0, c1, c2, c3, s0⟩ := HR.out w4 B.out; clear h5 hg5 hv5 hb5 s0)
          | (at_builtin; refine wpList_appT eltTB rfl (.tmp 38) (.tmp 43) rfl w.heap.size _ (zs ++ b0) (by rfl) O.out ak kk.length ck kk (by rfl) ((HR.out _ B.out).2.2.2.2).toT (by unfold maxLen; simp; omega) (by simp; omega) lw (zs ++ b0 ++ kk) rfl ?_; intro vw5 w5 h5 hg5 hv5 hb5; have O := Lib.hid h5; have B := Lib.hid (B.out.trans hb5); have lw := Nat.le_trans lw hg5.size; obtain ⟨c0, c1, c2, c3, s0⟩ := HR.out w5 B.out; clear h5 hg5 hv5 hb5 s0))
        refine (R1.out _).mono ?_
        rintro e w6 ⟨_, rfl, ho, hb⟩
        obtain ⟨x1, n1, d1, rfl, zz⟩ := ho.slN
        obtain rfl : b1.length = n1 := zz.len
        have Z := Lib.hid zz
        replace O := Lib.hid (O.out.keep hb)
        replace B := Lib.hid (B.out.trans (hb.mono lw))
        replace lw := Nat.le_trans lw hb.size
        clear c0 c1 c2 c3 ho hb zz R1
        obtain ⟨c0, c1, c2, c3, s0⟩ := HR.out w6 B.out
        clear s0
        go_wp2_with (at_builtin; refine wpList_appT eltTB rfl (.tmp 45) (.tmp 52) rfl w.heap.size _ (zs ++ b0 ++ kk) (by rfl) O.out x1 b1.length d1 b1 (by rfl) (Z.out).toT (by unfold maxLen; simp; omega) (by simp; omega) lw (zs ++ b0 ++ kk ++ b1) rfl ?_; intro vw7 w7 h5 hg5 hv5 hb5; have O := Lib.hid h5; have B := Lib.hid (B.out.trans hb5); have lw := Nat.le_trans lw hg5.size; obtain ⟨c0, c1, c2, c3, s0⟩ := HR.out w7 B.out; clear h5 hg5 hv5 hb5 s0)
        refine (R2.out _).mono ?_
        rintro e w8 ⟨_, rfl, ho, hb⟩
        obtain ⟨x2, n2, d2, rfl, zz⟩ := ho.slN
        obtain rfl : b2.length = n2 := zz.len
        have Z := Lib.hid zz
        replace O := Lib.hid (O.out.keep hb)
        replace B := Lib.hid (B.out.trans (hb.mono lw))
        replace lw := Nat.le_trans lw hb.size
        clear c0 c1 c2 c3 ho hb zz R2
        obtain ⟨c0, c1, c2, c3, s0⟩ := HR.out w8 B.out
        clear s0
        go_wp2_with (at_builtin; refine wpList_appT eltTB rfl (.tmp 54) (.tmp 61) rfl w.heap.size _ (zs ++ b0 ++ kk ++ b1) (by rfl) O.out x2 b2.length d2 b2 (by rfl) (Z.out).toT (by unfold maxLen; simp; omega) (by simp; omega) lw (zs ++ b0 ++ kk ++ b1 ++ b2) rfl ?_; intro vw9 w9 h5 hg5 hv5 hb5; have O := Lib.hid h5; have B := Lib.hid (B.out.trans hb5); have lw := Nat.le_trans lw hg5.size; obtain ⟨c0, c1, c2, c3, s0⟩ := HR.out w9 B.out; clear h5 hg5 hv5 hb5 s0)
        refine (R3.out _).mono ?_
        rintro e w10 ⟨_, rfl, ho, hb⟩
        obtain ⟨x3, n3, d3, rfl, zz⟩ := ho.slN
        obtain rfl : b3.length = n3 := zz.len
        have Z := Lib.hid zz
        replace O := Lib.hid (O.out.keep hb)
        replace B := Lib.hid (B.out.trans (hb.mono lw))
        replace lw := Nat.le_trans lw hb.size
        clear c0 c1 c2 c3 ho hb zz R3
        obtain ⟨c0, c1, c2, c3, s0⟩ := HR.out w10 B.out
        clear s0
        go_wp2_with (at_builtin; refine wpList_appT eltTB rfl (.tmp 63) (.tmp 70) rfl w.heap.size _ (zs ++ b0 ++ kk ++ b1 ++ b2) (by rfl) O.out x3 b3.length d3 b3 (by rfl) (Z.out).toT (by unfold maxLen; simp; omega) (by simp; omega) lw (zs ++ b0 ++ kk ++ b1 ++ b2 ++ b3) rfl ?_; intro vw11 w11 h5 hg5 hv5 hb5; have O := Lib.hid h5; have B := Lib.hid (B.out.trans hb5); have lw := Nat.le_trans lw hg5.size; obtain ⟨c0, c1, c2, c3, s0⟩ := HR.out w11 B.out; clear h5 hg5 hv5 hb5 s0)
        go_roundw
        case rel => exact ⟨k + 1, by omega, by go_num, by rw [FIN.out]; exact O.out, B.out⟩
        case measure => simp [intOf]; omega
      · have e : rs.take k = rs := List.take_of_length_le (by omega)
        rw [e] at ho
        have O := Lib.hid ho
        have HT := Lib.hid (rtotal_any a rs.length c rs wr (by omega) (H.out.keep B.out))
        have u0 := totU_eq rs
        have u1 := totU_lt rs
        obtain ⟨bt, hbt⟩ : ∃ q, vb (totU rs) = q := ⟨_, rfl⟩
        have tt : bt.length ≤ 10 := hbt ▸ vb_ten u1
        have hfin : fbytes rs = (vb rs.length ++ rs.flatMap rowB) ++ bt := by unfold fbytes; rw [hbt]; simp
        obtain ⟨zs, hzs⟩ : ∃ zs, vb rs.length ++ rs.flatMap rowB = zs := ⟨_, rfl⟩
        rw [hzs] at O hfin
        have hzl : zs.length ≤ 873000000 := by rw [hfin, List.length_append] at hbb; omega
        have FIN := Lib.hid hfin
        have RT := Lib.hid (fun W : World => hbt ▸ rbytes_any (totU rs) W u1)
        obtain ⟨T, hT⟩ : ∃ T, tot rs = T := ⟨_, rfl⟩
        obtain ⟨U, hU⟩ : ∃ U, totU rs = U := ⟨_, rfl⟩
        rw [hT] at HT u0
        rw [hU] at u0 RT
        clear hfin hzs e ho hb hbt hT hU hbb u1
        go_wp2_with fail
        refine HT.out.mono ?_
        rintro e w3 ⟨rfl, hb⟩
        replace O := Lib.hid (O.out.keep hb)
        replace B := Lib.hid (B.out.trans (hb.mono lw))
        replace lw := Nat.le_trans lw hb.size
        clear hb
        go_wp2_with fail
        refine (RT.out _).mono ?_
        rintro e w4 ⟨_, rfl, ho, hb⟩
        obtain ⟨x0, n0, d0, rfl, zz⟩ := ho.slN
        obtain rfl : bt.length = n0 := zz.len
        have Z := Lib.hid zz
        replace O := Lib.hid (O.out.keep hb)
        replace B := Lib.hid (B.out.trans (hb.mono lw))
        replace lw := Nat.le_trans lw hb.size
        clear ho hb zz
        go_wp2_with (at_builtin; refine wpList_appT eltTB rfl (.tmp 72) (.tmp 76) rfl w.heap.size _ zs (by rfl) O.out x0 bt.length d0 bt (by rfl) Z.out.toT (by unfold maxLen; omega) (by omega) lw (zs ++ bt) rfl ?_; intro v5 w5 h5 hg5 hv5 hb5; have O := Lib.hid h5; have B := Lib.hid (B.out.trans hb5); clear h5 hg5 hv5 hb5)
        go_ret3
        exact ⟨_, rfl, by rw [FIN.out]; exact O.out, B.out⟩
  · rw [fbs_no hz]
    obtain ⟨⟨r0, r1⟩, hr⟩ : ∃ R, fchk rs = R := ⟨_, rfl⟩
    rw [hr] at hz HC ⊢
    dsimp only at hz HC ⊢
    replace HC := Lib.hid HC
    have f1 : ((r1 : Int) != 0) = true := by rw [bne_iff_ne]; omega
    have f2 : (r1 != 0) = true := by rw [bne_iff_ne]; omega
    clear hr hz h hf
    go_enter Try.func13, Try.ntmps13
    go_wp2_with fail
    refine HC.out.mono ?_
    rintro e w1 ⟨rfl, hb⟩
    have B := Lib.hid hb; clear hb
    go_wp2_with fail
    go_ret3
    exact ⟨_, rfl, OwT.nil _ _ _ _, B.out⟩

set_option maxHeartbeats 2000000 in
set_option maxRecDepth 100000 in
theorem ffbytes_any (a : Option Addr) (n c : Nat) (rs : List Row) (w : World) (hn : n ≤ 140737488351232) (hf : FitR 140737488351232 rs) (h : Spans w a n c rs) :
    Calls Try.prog 12 #[.slice a n c] w fun e w' => ∃ v, e = .returned (.tuple #[v, .int .i64 ((fchk rs).2 : Nat), .int .i64 ((fchk rs).1 : Nat)]) ∧ OwT fB w' w.heap.size 5 v (fbs rs) ∧ Below w.heap.size w w' := by
  obtain rfl : n = rs.length := h.1.symm
  have HC := fcheck_any a rs.length c rs w hn hf h
  by_cases hz : (fchk rs).2 = 0
  · obtain ⟨hm, hw⟩ := fchk_all hz
    rw [fchk_zero hz] at HC
    replace HC := Lib.hid HC
    rw [fbs_yes hz, fchk_zero hz]
    have hbb := fbytes_len hz
    have HW := Lib.hid hw
    have H := Lib.hid h
    clear hz hf h hw
    go_enter Try.func12, Try.ntmps12
    go_wp2_with fail
    refine HC.out.mono ?_
    rintro e w1 ⟨rfl, hb⟩
    have B := Lib.hid hb
    have hlw : w.heap.size ≤ w1.heap.size := hb.size
    have r0 := u64_nn rs.length (by omega)
    clear hb HC
    go_wp2_with fail
    refine (vbytes_any rs.length w1 (by omega)).mono ?_
    rintro e w2 ⟨v0, rfl, ho, hb⟩
    have O := Lib.hid (ho.base hlw)
    replace B := Lib.hid (B.out.trans (hb.mono hlw))
    clear ho hb r0
    go_wp2_with fail
    go_loopw [7, 25] (fun s i wr => ∃ k : Nat, k ≤ rs.length ∧ i = .int .i64 k ∧ OwT fB wr w.heap.size 5 s (vb rs.length ++ (rs.take k).flatMap rowB) ∧ Below w.heap.size w wr) (fun _ i _ => rs.length - (intOf i).toNat)
    case atStart => exact ⟨0, Nat.zero_le _, rfl, by simpa using O.out, B.out⟩
    case round =>
      clear O B
      obtain ⟨k, hk, rfl, ho, hb⟩ := hrel
      have lr : wr.heap.size = wr.heap.size := rfl
      have lw := hb.size
      have B := Lib.hid hb
      by_cases hlt : k < rs.length
      · obtain ⟨⟨kk, x, y, z⟩, hx⟩ : ∃ e, rs[k]? = some e := ⟨_, List.getElem?_eq_getElem hlt⟩
        obtain ⟨⟨q1, q2⟩, ⟨q3, q4⟩, ⟨q5, q6⟩, ⟨q7, q8⟩⟩ := HW.out _ (List.mem_of_getElem? hx)
        dsimp only at q1 q2 q3 q4 q5 q6 q7 q8
        obtain ⟨x, rfl⟩ := Int.eq_ofNat_of_zero_le (show 0 ≤ x by omega)
        obtain ⟨y, rfl⟩ := Int.eq_ofNat_of_zero_le (show 0 ≤ y by omega)
        obtain ⟨z, rfl⟩ := Int.eq_ofNat_of_zero_le (show 0 ≤ z by omega)
        obtain ⟨b, o, ak, ck, rfl, hrow⟩ := H.out.row hx
        have HR := Lib.hid hrow
        have hsn := rowsB_take hx
        have hlz := rowsB_upto HW.out k
        have hv10 := vb_ten (n := rs.length) (by omega)
        obtain ⟨zs, hzs⟩ : ∃ zs, vb rs.length ++ (rs.take k).flatMap rowB = zs := ⟨_, rfl⟩
        have hzl : zs.length ≤ 873000000 := by rw [← hzs, List.length_append]; omega
        rw [hzs] at ho
        have O := Lib.hid ho
        obtain ⟨b0, hb0⟩ : ∃ x, vb kk.length = x := ⟨_, rfl⟩
        have t0 : b0.length ≤ 10 := hb0 ▸ vb_ten (by omega)
        obtain ⟨bj, hbj⟩ : ∃ q, vbs [x, y, z] = q := ⟨_, rfl⟩
        have hall : ∀ m, m ∈ [x, y, z] → m < 18446744073709551616 := by intro m hm; simp at hm; omega
        have tj : bj.length ≤ 30 := by
          have h1 := vb_ten (n := x) (by omega); have h2 := vb_ten (n := y) (by omega); have h3 := vb_ten (n := z) (by omega)
          rw [← hbj]; unfold vbs; simp; omega
        have hfin : vb rs.length ++ (rs.take (k + 1)).flatMap rowB = zs ++ b0 ++ kk ++ bj := by
          rw [hsn, ← List.append_assoc, hzs]
          unfold rowB
          simp [hb0, hbj]
        have FIN := Lib.hid hfin
        have R0 := Lib.hid (fun W : World => hb0 ▸ vbytes_any kk.length W (by omega))
        have RJ := Lib.hid (fun (W : World) (q : Option Addr) (hs : Sl Nf W q 3 3 [x, y, z]) => hbj ▸ join_any q 3 3 [x, y, z] W (by omega) hall (by rw [hbj]; omega) hs)
        have u0 := u64_nn kk.length (by omega)
        have u1 := u64_nn x (by omega)
        have u2 := u64_nn y (by omega)
        have u3 := u64_nn z (by omega)
        obtain ⟨c0, c1, c2, c3, s0⟩ := HR.out wr B.out
        have S := Lib.hid (Stab.new wr (.cells #[.slice ak kk.length ck, .int .i64 (x : Nat), .int .i64 (y : Nat), .int .i64 (z : Nat)] 49))
        have N := Lib.hid ho.off
        replace O := Lib.hid (O.out.alloc (.cells #[.slice ak kk.length ck, .int .i64 (x : Nat), .int .i64 (y : Nat), .int .i64 (z : Nat)] 49))
        replace B := Lib.hid (B.out.alloc lw (.cells #[.slice ak kk.length ck, .int .i64 (x : Nat), .int .i64 (y : Nat), .int .i64 (z : Nat)] 49))
        replace lw := Nat.le_trans lw (le_allocF wr (.cells #[.slice ak kk.length ck, .int .i64 (x : Nat), .int .i64 (y : Nat), .int .i64 (z : Nat)] 49))
        clear hb0 hbj hsn hlz hv10 hzs hx hrow hb ho hfin s0 hall
        go_upto_region 8 with (fail)
        obtain ⟨g, hg⟩ : ∃ g, wr.heap.size = g := ⟨_, rfl⟩
        rw [hg] at S N ⊢
        clear hg c0 c1 c2 c3 lr
        generalize wr.alloc (.cells #[.slice ak kk.length ck, .int .i64 (x : Nat), .int .i64 (y : Nat), .int .i64 (z : Nat)] 49) = w3 at *
        have lg : g < w3.heap.size := (Array.getElem?_eq_some_iff.1 S.out.now).1
        have c0 := cell_of S.out.now 0 rfl
        go_wp2_with fail
        refine (R0.out _).mono ?_
        rintro e w4 ⟨_, rfl, ho, hb⟩
        obtain ⟨x0, n0, d0, rfl, zz⟩ := ho.slN
        obtain rfl : b0.length = n0 := zz.len
        have Z := Lib.hid zz
        replace S := Lib.hid (S.out.keep hb)
        replace O := Lib.hid (O.out.keep hb)
        replace B := Lib.hid (B.out.trans (hb.mono lw))
        replace lw := Nat.le_trans lw hb.size
        replace lg := Nat.lt_of_lt_of_le lg hb.size
        clear c0 ho hb zz R0
        have X := Lib.hid S.out.now
        clear S
        have c0 := cell_of X.out 0 rfl
        go_wp2_with (first
          | (at_builtin; refine wpList_appT eltTB rfl (.tmp 29) (.tmp 34) rfl w.heap.size _ (zs) (by rfl) O.out x0 b0.length d0 b0 (by rfl) (Z.out).toT (by unfold maxLen; simp; omega) (by simp; omega) lw (zs ++ b0) rfl ?_; intro vw5 w5 h5 hg5 hv5 hb5; have O := Lib.hid h5; have B := Lib.hid (B.out.trans hb5); have lw := Nat.le_trans lw hg5.size; have X := Lib.hid (N.out.keep hg5 X.out); have N := Lib.hid (N.out.step lg hv5); have lg := Nat.lt_of_lt_of_le lg hg5.size; have c0 := cell_of X.out 0 rfl; have c1 := cell_of X.out 1 rfl; have c2 := cell_of X.out 2 rfl; have c3 := cell_of X.out 3 rfl; clear h5 hg5 hv5 hb5)
          | (at_builtin; refine wpList_appT eltTB rfl (.tmp 36) (.tmp 38) rfl w.heap.size _ (zs ++ b0) (by rfl) O.out ak kk.length ck kk (by rfl) ((HR.out _ B.out).2.2.2.2).toT (by unfold maxLen; simp; omega) (by simp; omega) lw (zs ++ b0 ++ kk) rfl ?_; intro vw6 w6 h5 hg5 hv5 hb5; have O := Lib.hid h5; have B := Lib.hid (B.out.trans hb5); have lw := Nat.le_trans lw hg5.size; have X := Lib.hid (N.out.keep hg5 X.out); have N := Lib.hid (N.out.step lg hv5); have lg := Nat.lt_of_lt_of_le lg hg5.size; have c0 := cell_of X.out 0 rfl; have c1 := cell_of X.out 1 rfl; have c2 := cell_of X.out 2 rfl; have c3 := cell_of X.out 3 rfl; clear h5 hg5 hv5 hb5))
        have SL := Lib.hid (show Sl Nf (w6.alloc (.cells #[.int .u64 (x : Nat), .int .u64 (y : Nat), .int .u64 (z : Nat)] 60)) (some ⟨w6.heap.size, 0, none⟩) 3 3 [x, y, z] from Sl.lit _ _ _ _ _ rfl rfl)
        refine (RJ.out _ _ SL.out).mono ?_
        rintro e w7 ⟨_, rfl, ho, hb⟩
        obtain ⟨x1, n1, d1, rfl, zz⟩ := ho.slN
        obtain rfl : bj.length = n1 := zz.len
        replace Z := Lib.hid zz
        replace O := Lib.hid ((O.out.alloc (.cells #[.int .u64 (x : Nat), .int .u64 (y : Nat), .int .u64 (z : Nat)] 60)).keep hb)
        replace B := Lib.hid ((B.out.alloc lw (.cells #[.int .u64 (x : Nat), .int .u64 (y : Nat), .int .u64 (z : Nat)] 60)).trans (hb.mono (Nat.le_trans lw (le_allocF w6 (.cells #[.int .u64 (x : Nat), .int .u64 (y : Nat), .int .u64 (z : Nat)] 60)))))
        replace lw := Nat.le_trans (Nat.le_trans lw (le_allocF w6 (.cells #[.int .u64 (x : Nat), .int .u64 (y : Nat), .int .u64 (z : Nat)] 60))) hb.size
        clear ho hb zz SL c0 c1 c2 c3
        go_wp2_with (at_builtin; refine wpList_appT eltTB rfl (.tmp 40) (.tmp 51) rfl w.heap.size _ (zs ++ b0 ++ kk) (by rfl) O.out x1 bj.length d1 bj (by rfl) Z.out.toT (by unfold maxLen; simp; omega) (by simp; omega) lw (zs ++ b0 ++ kk ++ bj) rfl ?_; intro v8 w8 h5 hg5 hv5 hb5; have O := Lib.hid h5; have B := Lib.hid (B.out.trans hb5); clear h5 hg5 hv5 hb5)
        go_roundw
        case rel => exact ⟨k + 1, by omega, by go_num, by rw [FIN.out]; exact O.out, B.out⟩
        case measure => simp [intOf]; omega
      · have e : rs.take k = rs := List.take_of_length_le (by omega)
        rw [e] at ho
        have O := Lib.hid ho
        have HT := Lib.hid (total_any a rs.length c rs wr (by omega) (H.out.keep B.out))
        have u0 := totU_eq rs
        have u1 := totU_lt rs
        obtain ⟨bt, hbt⟩ : ∃ q, vb (totU rs) = q := ⟨_, rfl⟩
        have tt : bt.length ≤ 10 := hbt ▸ vb_ten u1
        have hfin : fbytes rs = (vb rs.length ++ rs.flatMap rowB) ++ bt := by unfold fbytes; rw [hbt]; simp
        obtain ⟨zs, hzs⟩ : ∃ zs, vb rs.length ++ rs.flatMap rowB = zs := ⟨_, rfl⟩
        rw [hzs] at O hfin
        have hzl : zs.length ≤ 873000000 := by rw [hfin, List.length_append] at hbb; omega
        have FIN := Lib.hid hfin
        have RT := Lib.hid (fun W : World => hbt ▸ vbytes_any (totU rs) W u1)
        obtain ⟨T, hT⟩ : ∃ T, tot rs = T := ⟨_, rfl⟩
        obtain ⟨U, hU⟩ : ∃ U, totU rs = U := ⟨_, rfl⟩
        rw [hT] at HT u0
        rw [hU] at u0 RT
        clear hfin hzs e ho hb hbt hT hU hbb u1
        go_wp2_with fail
        refine HT.out.mono ?_
        rintro e w3 ⟨rfl, hb⟩
        replace O := Lib.hid (O.out.keep hb)
        replace B := Lib.hid (B.out.trans (hb.mono lw))
        replace lw := Nat.le_trans lw hb.size
        clear hb
        go_wp2_with fail
        refine (RT.out _).mono ?_
        rintro e w4 ⟨_, rfl, ho, hb⟩
        obtain ⟨x0, n0, d0, rfl, zz⟩ := ho.slN
        obtain rfl : bt.length = n0 := zz.len
        have Z := Lib.hid zz
        replace O := Lib.hid (O.out.keep hb)
        replace B := Lib.hid (B.out.trans (hb.mono lw))
        replace lw := Nat.le_trans lw hb.size
        clear ho hb zz
        go_wp2_with (at_builtin; refine wpList_appT eltTB rfl (.tmp 54) (.tmp 58) rfl w.heap.size _ zs (by rfl) O.out x0 bt.length d0 bt (by rfl) Z.out.toT (by unfold maxLen; omega) (by omega) lw (zs ++ bt) rfl ?_; intro v5 w5 h5 hg5 hv5 hb5; have O := Lib.hid h5; have B := Lib.hid (B.out.trans hb5); clear h5 hg5 hv5 hb5)
        go_ret3
        exact ⟨_, rfl, by rw [FIN.out]; exact O.out, B.out⟩
  · rw [fbs_no hz]
    obtain ⟨⟨r0, r1⟩, hr⟩ : ∃ R, fchk rs = R := ⟨_, rfl⟩
    rw [hr] at hz HC ⊢
    dsimp only at hz HC ⊢
    replace HC := Lib.hid HC
    have f1 : ((r1 : Int) != 0) = true := by rw [bne_iff_ne]; omega
    have f2 : (r1 != 0) = true := by rw [bne_iff_ne]; omega
    clear hr hz h hf
    go_enter Try.func12, Try.ntmps12
    go_wp2_with fail
    refine HC.out.mono ?_
    rintro e w1 ⟨rfl, hb⟩
    have B := Lib.hid hb; clear hb
    go_wp2_with fail
    go_ret3
    exact ⟨_, rfl, OwT.nil _ _ _ _, B.out⟩

end Go.Proofs.Ytpmijgeakmmieaa

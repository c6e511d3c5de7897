/- The document's reader of streams: end: contract. Conditions: the reader's budget and the places within reach. -/
import Derived.Test.YtljcogimeimknaaGreatK8v
import Derived.Test.YtljcogimeimknaaGreatK8f
namespace Go.Proofs.YtljcogimeimknaaGreat
open Go.RowKit Go.Shelf
set_option linter.unusedVariables false
set_option linter.unusedSimpArgs false

/-- a foot's body, and all behind -/
def ftC (M : Int) (s : RS) (b p : Nat) (b2 F : List UInt8) : RX :=
  match dif b2 F with
  | some i => s.fail s.c 84 (p + i)
  | none => ftT s b s.c.pl (bytesM srcM M 12 s.c)
section
variable {w : World} {bs : List UInt8} {lo gt g gi : Nat} {bg : Bool} {S : Nat → Prop} {lv rv : Value} {vs : List RV} {s : RS} {who : Nat → Nat} {L Bd : Nat}
set_option maxRecDepth 100000 in
set_option maxHeartbeats 4000000 in
theorem rend08_any (hbl : bs.length ≤ 140737488351232) (h : Rrp w bs lo gt g gi bg S lv rv vs s who) (hO : OkayC srcM (SrcR L) mxR Bd s.c) (hBd : Bd + 3000 ≤ 2305843009213693952) (hL : L ≤ 140737488351232) (b p : Nat) (hb : b ≤ 1000000000000000) (hp : p ≤ 1000000000000000) (hb1 : bg = true)
    (a1 : Option Addr) (n1 m1 : Nat) (b2 : List UInt8) (aW : Option Addr) (nW mW : Nat) (F : List UInt8) (hS1 : Sl Bf w a1 n1 m1 b2) (hS2 : Sl Bf w aW nW mW F) (hlen : b2.length = F.length) (hF : F.length ≤ 1000000000) :
    Calls Tryz.prog 66 #[.pointer (some ⟨g, 0, none⟩), .slice a1 n1 m1, .slice aW nW mW, .int .i64 (p : Nat), .int .i64 (b : Nat)] w (RRPost bs lo gt g gi lv who w (ftC mxR s b p b2 F)) := by
  obtain ⟨⟨t, e3, k3⟩, hX3⟩ : ∃ X, bytesM srcM mxR 12 s.c = X := ⟨_, rfl⟩
  obtain ⟨⟨ov, e4, k4⟩, hX4⟩ : ∃ X, endM srcM k3 = X := ⟨_, rfl⟩
  obtain ⟨Y, hY⟩ : ∃ Y, ftC mxR s b p b2 F = Y := ⟨_, rfl⟩
  have hM : Y = match dif b2 F with
      | some i => s.fail s.c 84 (p + i)
      | none => if e3 ≠ 0 then s.fail k3 e3 s.c.pl else if t ≠ tailB b then s.fail k3 85 s.c.pl else if e4 ≠ 0 then s.fail k4 e4 k3.pl else if ov = false then s.fail k4 86 k3.pl else (([], false), ⟨k4, 2, s.rows, s.er, s.pt⟩) := by
    rw [← hY]; unfold ftC; rw [hX3]; unfold ftT ftE; dsimp only; rw [hX4]; try rfl
  rw [hY]
  clear hY
  have hO3 := (hO.bytes (n := 12) src_muR (src_leR L)).1
  rw [hX3] at hO3
  dsimp only at hO3
  obtain rfl : F.length = nW := hS2.len
  obtain rfl : F.length = n1 := by rw [← hlen]; exact hS1.len
  have c0 := h.c0
  have cp := h.cp
  have H := Lib.hid h
  have HM := Lib.hid hM
  have O0 := Lib.hid hO
  have O3 := Lib.hid hO3
  have HX3 := Lib.hid hX3
  have HX4 := Lib.hid hX4
  have Z3 := Lib.hid hS1
  have ZW3 := Lib.hid hS2
  have HBL := Lib.hid hlen
  have hb0 := hb
  subst hb1
  clear hM hO hO3 hX3 hX4 h hS1 hS2 hlen hb
  go_enter Tryz.func66, Tryz.ntmps66
  go_wp2_with fail
  go_loopw [12] (fun i wr => ∃ k : Nat, k ≤ F.length ∧ i = .int .i64 k ∧ b2.take k = F.take k ∧ Below w.heap.size w wr) (fun i _ => F.length - (intOf i).toNat)
  case atStart => exact ⟨0, Nat.zero_le _, rfl, by simp, Below.refl _ _⟩
  case round =>
    obtain ⟨k, hk, rfl, he, hb⟩ := hrel
    have HE := Lib.hid he; clear he
    have HB := Lib.hid hb; clear hb
    by_cases hlt : k < F.length
    · obtain ⟨x, bb, o, hx, rfl, hc⟩ := (Z3.out.keep HB.out).at k hlt
      obtain ⟨y, b', o', hy, rfl, hc'⟩ := (ZW3.out.keep HB.out).at k hlt
      have hc : wr.cell? ⟨bb, o + k, none⟩ = some (.int .u8 (B x)) := hc
      have hc' : wr.cell? ⟨b', o' + k, none⟩ = some (.int .u8 (B y)) := hc'
      have HX := Lib.hid hx; clear hx
      have HY := Lib.hid hy; clear hy
      clear c0 cp
      by_cases hxy : x = y
      · subst hxy
        go_wp2_with fail
        go_quiet (fail)
        go_wp2_with fail
        go_roundw
        case rel => exact ⟨k + 1, by omega, by go_num, (take_eq_snoc HX.out HY.out HE.out).2 rfl, keep_drewN HB.out _⟩
        case measure => simp [intOf]; omega
      · have hne : (B x != B y) = true := by rw [bne_iff_ne]; exact fun e => hxy (B_inj e)
        have r1 : IntKind.i64.wrap ((p : Int) + (k : Int)) = ((p + k : Nat) : Int) := by rw [IntWalk.i64_in _ (by omega)]; omega
        have FIN := Lib.hid (show Y = s.fail s.c 84 (p + k) by rw [HM.out, dif_at HE.out HX.out HY.out hxy])
        clear hxy
        go_wp2_with fail
        go_quiet (fail)
        go_wp2_with (go_at_call 61; refine (rfail_any (s := s) hbl (H.out.keep hbl (keep_drewN HB.out _)) (GrW.below (keep_drewN HB.out _)) rfl 84 (p + k)).mono ?_; rintro r w9 ⟨rfl, hp9⟩; have P9 := Lib.hid hp9; clear hp9)
        go_ret2
        rw [FIN.out]
        exact P9.out
    · obtain rfl : k = F.length := by omega
      have hbF : b2 = F := by
        have := HE.out
        rwa [← HBL.out, List.take_length, HBL.out, List.take_length] at this
      subst hbF
      have R4 := Lib.hid (H.out.keep hbl HB.out)
      have G4 := Lib.hid (GrW.below (who := who) HB.out)
      replace HM := Lib.hid (show Y = if e3 ≠ 0 then s.fail k3 e3 s.c.pl else if t ≠ tailB b then s.fail k3 85 s.c.pl else if e4 ≠ 0 then s.fail k4 e4 k3.pl else if ov = false then s.fail k4 86 k3.pl else (([], false), ⟨k4, 2, s.rows, s.er, s.pt⟩) by rw [HM.out, dif_self])
      have c0 := R4.out.c0
      have cp := R4.out.cp
      obtain ⟨pl2, hpl2⟩ : ∃ p, s.c.pl = p := ⟨_, rfl⟩
      rw [hpl2] at cp HM
      clear hpl2 HE HB Z3 ZW3 HBL H
      have BT := refBytes_any hbl R4.out O0.out (by omega) hL 12 (by omega)
      rw [show (((12 : Nat) : Int)) = 12 from rfl, HX3.out] at BT
      go_wp2_with fail
      refine BT.mono ?_
      rintro r w6 ⟨bv, S6, who6, rfl, ho6, hz6, hR6, hG6⟩
      have R6 := Lib.hid hR6
      have G6 := Lib.hid (G4.out.trans hG6)
      have c0 := hR6.c0
      have cp := hR6.cp
      obtain ⟨a6, n6, m6, rfl, z6⟩ := ho6.slN
      have T6 := Lib.hid z6
      clear hR6 hG6 BT R4 G4 ho6 hz6 z6
      by_cases h5 : e3 = 0
      case neg =>
        have t5 : (e3 != 0) = true := by rw [bne_iff_ne]; exact h5
        have FIN := Lib.hid (show Y = s.fail k3 e3 pl2 by rw [HM.out, if_pos h5])
        clear h5
        go_wp2_with (go_at_call 61; refine (rfail_any (s := s) hbl R6.out G6.out rfl e3 pl2).mono ?_; rintro r w9 ⟨rfl, hp9⟩; have P9 := Lib.hid hp9; clear hp9)
        go_ret2
        rw [FIN.out]
        exact P9.out
      subst h5
      have t5 : ((0 : Int) != 0) = false := by decide
      have hs1 := fun (W : World) (hW : Below w6.heap.size w6 W) => run_str (P := Tryz.prog) (dst := 9) Tryz.underlying22 Tryz.underlying5 Tryz.underlying9 W _ _ _ _ (T6.out.keep hW)
      have hd0 := Below.refl w6.heap.size w6
      have hd1 := (Below.refl w6.heap.size w6).drew
      obtain ⟨d, hd⟩ : ∃ d, ((strB t).toList == (strB (tailB b)).toList) = d := ⟨_, rfl⟩
      have hD := hd
      rw [strB_list, strB_list] at hD
      have HD := Lib.hid hD
      clear hD
      go_wp2_with fail
      go_region_with (go_at_call 41; refine (rtail_any b _ hb0).mono ?_; rintro r w7 ⟨x7, rfl, ho7, hb7⟩; obtain ⟨a7, n7, c7, rfl, z7⟩ := ho7.slN; have hb7 : Below w6.heap.size w6 w7 := keep_trans hd1 hb7; have hs4 := run_str (P := Tryz.prog) (dst := 9) Tryz.underlying22 Tryz.underlying5 Tryz.underlying9 w7 _ _ _ _ z7; clear z7 ho7)
      all_goals
        have R7 := Lib.hid (R6.out.keep hbl hb7)
        have G7 := Lib.hid (G6.out.trans (GrW.below hb7))
        have c0 := R7.out.c0
        have cp := R7.out.cp
        have c2 := R7.out.c2
        have f2 := R7.out.free 2
        clear hb7 hs4 hs1 hd0 hd1 R6 G6 T6
        cases d with
        | false =>
          have FIN := Lib.hid (show Y = s.fail k3 85 pl2 by rw [HM.out, if_neg (by simp), if_pos (by have := HD.out; exact beq_eq_false_iff_ne.1 this)])
          go_wp2_with (go_at_call 61; refine (rfail_any (s := s) hbl R7.out G7.out rfl 85 pl2).mono ?_; rintro r w9 ⟨rfl, hp9⟩; have P9 := Lib.hid hp9; clear hp9)
          go_ret2
          rw [FIN.out]
          exact P9.out
        | true =>
          have HM2 := Lib.hid (show Y = if e4 ≠ 0 then s.fail k4 e4 k3.pl else if ov = false then s.fail k4 86 k3.pl else (([], false), ⟨k4, 2, s.rows, s.er, s.pt⟩) by rw [HM.out, if_neg (by simp), if_neg (by have := HD.out; simpa using beq_iff_eq.1 this)])
          clear HM
          have EN := refEnd_any hbl R7.out O3.out (by omega)
          dsimp only at EN
          rw [HX4.out] at EN
          go_wp2_with fail
          refine EN.mono ?_
          rintro r w8 ⟨S8, who8, rfl, hR8, hG8⟩
          have R8 := Lib.hid hR8
          have G8 := Lib.hid (G7.out.trans hG8)
          have c2 := hR8.c2
          have f2 := hR8.free 2
          clear hR8 hG8 EN R7 G7
          by_cases h7 : e4 = 0
          case neg =>
            have t7 : (e4 != 0) = true := by rw [bne_iff_ne]; exact h7
            have FIN := Lib.hid (show Y = s.fail k4 e4 k3.pl by rw [HM2.out, if_pos h7])
            clear h7
            go_wp2_with (go_at_call 61; refine (rfail_any (s := s) hbl R8.out G8.out rfl e4 k3.pl).mono ?_; rintro r w9 ⟨rfl, hp9⟩; have P9 := Lib.hid hp9; clear hp9)
            go_ret2
            rw [FIN.out]
            exact P9.out
          subst h7
          have t7 : ((0 : Int) != 0) = false := by decide
          cases ov with
          | false =>
            have FIN := Lib.hid (show Y = s.fail k4 86 k3.pl by rw [HM2.out, if_neg (by simp), if_pos rfl])
            go_wp2_with (go_at_call 61; refine (rfail_any (s := s) hbl R8.out G8.out rfl 86 k3.pl).mono ?_; rintro r w9 ⟨rfl, hp9⟩; have P9 := Lib.hid hp9; clear hp9)
            go_ret2
            rw [FIN.out]
            exact P9.out
          | true =>
            have FIN := Lib.hid (show Y = (([], false), ⟨k4, 2, s.rows, s.er, s.pt⟩) by rw [HM2.out, if_neg (by simp), if_neg (by simp)])
            go_wp2_with fail
            go_ret2
            rw [FIN.out]
            obtain ⟨hR9, hG9⟩ := R8.out.updG hbl (Turns.set (S := fun j => j = g) w8 (i := 2) rfl (.bool true)) (lv' := lv) (bg' := true) (ph := 2) (er := s.er) (pt := s.pt) (set_block R8.out.blk _) (fun e => by cases e) (fun e => rfl)
            exact ⟨_, [], true, S8, _, _, who8, rfl, RdL.nil _ _, fun j hj => (RLB_nil hj).elim, hR9, G8.out.trans hG9⟩
end
end Go.Proofs.YtljcogimeimknaaGreat

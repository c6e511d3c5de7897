/- CursorTrips: the walk. Conditions: what it is handed is small together. -/
import Derived.Test.YtpenbaafhbbmhaaK4t
import Derived.Test.YtpenbaafhbbmhaaCurNamesM
import Derived.Test.YtpenbaafhbbmhaaSameS
import Derived.Deep.DeepCutAuto
namespace Go.Proofs.Ytpenbaafhbbmhaa
open Go.RowKit Go.Shelf
set_option maxRecDepth 100000
set_option linter.unusedVariables false
set_option linter.unusedSimpArgs false

theorem OOk.lays {M : Nat} {c : COut Snk} (h1 : c.er = 0) (h2 : c.idle = 0) (h3 : c.pl = 0) (h4 : c.t.took = []) (h5 : c.t.calls = 0) (hq : c.q.length ≤ M) : OOk snkM M 0 c :=
  ⟨fun _ => by omega, by omega, by omega, fun _ => by show c.t.took.length + c.q.length ≤ M; rw [h4]; simpa using hq, by show c.t.calls ≤ 0; omega⟩
theorem itm_le : ∀ {l : List Itm} {k : Nat} {x : Itm}, l[k]? = some x → x.2.2.length ≤ itmSum l
  | [], k, x, h => by simp at h
  | y :: r, 0, x, h => by
    obtain rfl : y = x := by simpa using h
    simp [itmSum]
  | y :: r, k + 1, x, h => by
    have := itm_le (l := r) (k := k) (x := x) (by simpa using h)
    unfold itmSum at this ⊢
    simp only [List.map_cons, List.sum_cons]
    omega
set_option maxHeartbeats 8000000 in
theorem cursorTrips_walk (al : Option Addr) (nl cl : Nat) (items : List Itm) (at' : Option Addr) (nt ct : Nat) (ts : List Int) (fail : Int) (ag : Option Addr) (ng cg : Nat) (gs : List Int) (brk : Int) (eager : Bool) (w : World)
    (hnl : nl ≤ 1048576) (hnt : nt ≤ 1048576) (hng : ng ≤ 1048576) (hsum : itmSum items ≤ 1048576) (hL : Itms w al nl cl items) (hW : ItmsW items) (hI : Ints ts) (hT : Sl fZ w at' nt ct ts) (hI2 : Ints gs) (hG : Sl fZ w ag ng cg gs) :
    Calls Try.prog 8 #[.agg #[.slice al nl cl, .slice at' nt ct, .int .i64 fail, .slice ag ng cg, .int .i64 brk, .bool eager]] w fun e w' => e = .returned (.bool true) ∧ Below w.heap.size w w' := by
  obtain rfl : items.length = nl := hL.1
  obtain rfl : ts.length = nt := hT.len
  obtain rfl : gs.length = ng := hG.len
  have HL := Lib.hid hL; have HW := Lib.hid hW; have HI := Lib.hid hI; have HT := Lib.hid hT; have HI2 := Lib.hid hI2; have HG := Lib.hid hG
  have hJ := ij_len hW
  have hJ : (ij items).length ≤ 11534336 := by omega
  clear hL hW hI hT hI2 hG
  obtain ⟨w0, hw0⟩ : ∃ V, w.alloc (.cells #[.slice al items.length cl, .slice at' ts.length ct, .int .i64 fail, .slice ag gs.length cg, .int .i64 brk, .bool eager] 88) = V := ⟨_, rfl⟩
  have b0 : Below w.heap.size w w0 := hw0 ▸ (Below.refl _ _).alloc (Nat.le_refl _) _
  have x0 : w0.heap[w.heap.size]? = some (.cells #[.slice al items.length cl, .slice at' ts.length ct, .int .i64 fail, .slice ag gs.length cg, .int .i64 brk, .bool eager] 88 (0, 0)) := hw0 ▸ heap_new w _
  obtain ⟨gx, hgx⟩ : ∃ gx, w.heap.size = gx := ⟨_, rfl⟩
  have HGX := Lib.hid hgx
  have X0 := Lib.hid (show w0.heap[gx]? = some (.cells #[.slice al items.length cl, .slice at' ts.length ct, .int .i64 fail, .slice ag gs.length cg, .int .i64 brk, .bool eager] 88 (0, 0)) by rw [← hgx]; exact x0)
  have B0 := Lib.hid b0
  have HW0 := Lib.hid hw0
  clear b0 x0 hgx hw0
  go_enter Try.func8, Try.ntmps8
  go_wp2_with fail
  rw [HW0.out, HGX.out]
  refine (lives_any _).mono ?_
  rintro e w1 ⟨rfl, hb⟩
  have B1 := Lib.hid (keep_trans B0.out hb)
  have X1 := Lib.hid ((hb.block gx (Array.getElem?_eq_some_iff.1 X0.out).1).trans X0.out)
  clear hb X0 B0
  have y1 := cell_of X1.out 1 rfl
  have y2 := cell_of X1.out 2 rfl
  have NS := Lib.hid (newSink_any at' ts.length ct ts fail w1 (by omega) HI.out (HT.out.keep B1.out))
  go_wp2_with fail
  refine NS.out.mono ?_
  rintro e w2 ⟨g, S, rfl, hs, hb⟩
  have SP2 := Lib.hid hs
  have B2 := Lib.hid (keep_trans B1.out hb)
  have X2 := Lib.hid (blk_keep X1.out hb)
  have hlo : w1.heap.size ≤ w2.heap.size := hb.size
  obtain ⟨lo, hlo2⟩ : ∃ lo, w1.heap.size = lo := ⟨_, rfl⟩
  have hl0 : w.heap.size ≤ lo := by rw [← hlo2]; exact B1.out.size
  have hxl : gx < lo := by rw [← hlo2]; exact (Array.getElem?_eq_some_iff.1 X1.out).1
  rw [hlo2] at SP2 hlo
  clear hs hb NS hlo2 y1 y2 B1 X1
  go_wp2_with fail
  refine (newOut_any 62 (.pointer (some ⟨g, 0, none⟩)) w2).mono ?_
  rintro e w4 ⟨rfl, hOut, hb4⟩
  have hz4 : w2.heap.size < w4.heap.size := hOut.lt
  have hin := SP2.out.inS
  obtain ⟨o, ho⟩ : ∃ o, w2.heap.size = o := ⟨_, rfl⟩
  have B4 := Lib.hid (keep_trans B2.out hb4)
  have X4 := Lib.hid (blk_keep X2.out hb4)
  have O4 := Lib.hid (show OObj (OutB o (.iface 62 (.pointer (some ⟨g, 0, none⟩)))) (SnkP g lo) lo o (⟨⟨ts, fail, 0, []⟩, ij (items.take 0), 0, 0, 0⟩ : COut Snk) (fun j => S j ∨ j = o) w4 from
    ⟨S, .slice none 0 0, { io := by rw [← ho]; exact hOut, q := QuB.nil _ _, st := SP2.out.keep hb4, sr := fun j hj => .inl hj, sg := .inr rfl, ng := fun h => by have := (hin _ h).2; omega, hq := fun j e => (by cases e), inS := fun j hj => by rcases hj with h | h; (have := hin j h; omega); (omega) }⟩)
  have hz4' : lo ≤ w4.heap.size := by omega
  rw [ho] at hz4 hlo ⊢
  clear hOut hb4 hin ho B2 X2 SP2
  go_wp2_with fail
  have F := Lib.hid (out_frm (snkW g lo) 62 o (lo := lo) (Nat.zero_le _))
  go_loopw [6, 7] (fun v6 v7 wr => ∃ (k : Nat) (S : Nat → Prop), v7 = .int .i64 (k : Nat) ∧ k ≤ items.length ∧ v6 = .int .i64 ((ij (items.take k)).length : Nat) ∧ OObj (OutB o (.iface 62 (.pointer (some ⟨g, 0, none⟩)))) (SnkP g lo) lo o (⟨⟨ts, fail, 0, []⟩, ij (items.take k), 0, 0, 0⟩ : COut Snk) S wr ∧ Below lo w4 wr) (fun _ v7 _ => items.length - (intOf v7).toNat)
  case atStart => exact ⟨0, _, rfl, Nat.zero_le _, rfl, O4.out, Below.refl _ _⟩
  case round =>
    obtain ⟨k, S1, rfl, hk, rfl, hO, hb⟩ := hrel
    have O1 := Lib.hid hO
    have B := Lib.hid hb
    have BW := Lib.hid (B4.out.trans (hb.mono hl0))
    have XR := Lib.hid ((hb.block gx hxl).trans X4.out)
    have y0 := cell_of XR.out 0 rfl
    clear hO hb O4
    by_cases hlt : k < items.length
    · obtain ⟨⟨row, N, bs⟩, hx⟩ : ∃ x, items[k]? = some x := ⟨_, List.getElem?_eq_getElem hlt⟩
      obtain ⟨bx, ox, ax, nx, cx, rfl, f0, f1, f2, f3⟩ := (HL.out.keep BW.out).2.2 k _ hx
      have hN := HW.out _ (List.mem_of_getElem? hx)
      have hjt := ij_take hx
      have hjl := congrArg List.length hjt
      rw [List.length_append] at hjl
      have hjp := ij_part items (k + 1)
      have hzr : lo ≤ wr.heap.size := Nat.le_trans hz4' B.out.size
      dsimp only at f0 f1 f2 f3 hN
      have FS := Lib.hid f3
      have HJT := Lib.hid hjt
      have hnx : bs.length = nx := f3.len
      clear hx f3 hjt
      cases row with
      | true =>
        have hib : ib (true, N, bs) = bs := rfl
        rw [hib] at HJT hjl
        have r1 : IntKind.i64.wrap (((ij (items.take k)).length : Int) + (nx : Int)) = ((ij (items.take (k + 1))).length : Nat) := by rw [IntWalk.i64_in _ (by omega)]; omega
        have LA := Lib.hid (olay_any 62 o F.out _ S1 wr ax nx cx bs O1.out FS.out (by show (ij (items.take k)).length + nx ≤ _; omega))
        clear hib hjl hjp
        go_wp2_with fail
        refine LA.out.mono ?_
        rintro e w6 ⟨rfl, S2, hO2, -, hT2⟩
        have O2 := Lib.hid (show OObj (OutB o (.iface 62 (.pointer (some ⟨g, 0, none⟩)))) (SnkP g lo) lo o (⟨⟨ts, fail, 0, []⟩, ij (items.take (k + 1)), 0, 0, 0⟩ : COut Snk) S2 w6 from by
          have : layM bs (⟨⟨ts, fail, 0, []⟩, ij (items.take k), 0, 0, 0⟩ : COut Snk) = ⟨⟨ts, fail, 0, []⟩, ij (items.take (k + 1)), 0, 0, 0⟩ := by unfold layM; rw [if_pos rfl, HJT.out]
          rw [this] at hO2; exact hO2)
        have B6 := Lib.hid (hT2.below B.out hzr fun j e => (O1.out.inS j e).1)
        clear hO2 hT2 LA
        go_wp2_with fail
        go_roundw
        case rel => exact ⟨k + 1, S2, by go_num, by omega, rfl, O2.out, B6.out⟩
        case measure => simp [intOf]; omega
      | false =>
        have hib : ib (false, N, bs) = vb N := rfl
        rw [hib] at HJT hjl
        obtain ⟨ln, hln⟩ : ∃ ln, (vb N).length = ln := ⟨_, rfl⟩
        rw [hln] at hjl
        have r1 : IntKind.i64.wrap (((ij (items.take k)).length : Int) + (ln : Int)) = ((ij (items.take (k + 1))).length : Nat) := by rw [IntWalk.i64_in _ (by omega)]; omega
        have hlen2 : (ij (items.take k)).length + ln ≤ 140737488355328 := by omega
        have HLN := Lib.hid hln
        have VB := Lib.hid (vbytes_any N wr hN)
        clear hib hjl hjp hln
        go_wp2_with fail
        refine VB.out.mono ?_
        rintro e w5 ⟨v, rfl, hv, hb5⟩
        obtain ⟨av, nv, cv, rfl, hvs⟩ := hv.slN
        obtain rfl : ln = nv := by rw [← HLN.out]; exact hvs.len
        have LA := Lib.hid (olay_any 62 o F.out _ S1 w5 av ln cv (vb N) (O1.out.keep F.out hb5) hvs hlen2)
        have B5 := Lib.hid hb5
        have hz5 := hb5.size
        clear hv hb5 hvs VB
        go_wp2_with fail
        refine LA.out.mono ?_
        rintro e w6 ⟨rfl, S2, hO2, -, hT2⟩
        have O2 := Lib.hid (show OObj (OutB o (.iface 62 (.pointer (some ⟨g, 0, none⟩)))) (SnkP g lo) lo o (⟨⟨ts, fail, 0, []⟩, ij (items.take (k + 1)), 0, 0, 0⟩ : COut Snk) S2 w6 from by
          have : layM (vb N) (⟨⟨ts, fail, 0, []⟩, ij (items.take k), 0, 0, 0⟩ : COut Snk) = ⟨⟨ts, fail, 0, []⟩, ij (items.take (k + 1)), 0, 0, 0⟩ := by unfold layM; rw [if_pos rfl, HJT.out]
          rw [this] at hO2; exact hO2)
        have B6 := Lib.hid (hT2.below (B.out.trans (B5.out.mono hzr)) (by omega) fun j e => (O1.out.inS j e).1)
        clear hO2 hT2 LA
        go_wp2_with fail
        go_roundw
        case rel => exact ⟨k + 1, S2, by go_num, by omega, rfl, O2.out, B6.out⟩
        case measure => simp [intOf]; omega
    · obtain rfl : k = items.length := by omega
      have t1' : decide (items.length < items.length) = false := decide_eq_false hlt
      rw [List.take_length] at O1 ⊢
      clear hlt hk
      have WF := WI.flush (gs := ts) (fail := fail) (J := ij items) (c := ⟨⟨ts, fail, 0, []⟩, ij items, 0, 0, 0⟩) ⟨rfl, rfl, rfl, rfl, fun _ => ⟨Nat.zero_le _, Nat.zero_le _, fun e => absurd e (Nat.lt_irrefl _)⟩, fun e => absurd rfl e⟩
      have hzr : lo ≤ wr.heap.size := Nat.le_trans hz4' B.out.size
      have FL := Lib.hid (oflush_any (snkW g lo) 62 (fun w => methW g w) (enters_of Try.func78 (by kernel_rfl) rfl) o (Nat.zero_le _) (⟨⟨ts, fail, 0, []⟩, ij items, 0, 0, 0⟩ : COut Snk) S1 wr 11534336 0 (OOk.lays rfl rfl rfl rfl rfl hJ) O1.out (by decide) (by decide) (by decide))
      obtain ⟨X, hX⟩ : ∃ X, flushM snkM (⟨⟨ts, fail, 0, []⟩, ij items, 0, 0, 0⟩ : COut Snk) = X := ⟨_, rfl⟩
      rw [hX] at FL WF
      clear hX
      obtain ⟨t, q, pl, er, idle⟩ := X
      obtain ⟨wf, wq⟩ := WF
      have wall := congrArg List.length wf.all
      rw [List.length_append] at wall
      have wpl : t.took.length = pl := wf.pl
      obtain ⟨ql, hql⟩ : ∃ ql, q.length = ql := ⟨_, rfl⟩
      have wtell : er ≠ 0 → Tells ts fail := wf.tell
      have wq : er = 0 → q = [] := wq
      have WALL := Lib.hid (show t.took ++ q = ij items from wf.all)
      have wall : pl + ql = (ij items).length := by rw [← wall, ← hql, ← wpl]
      have WT := Lib.hid wtell
      have WQ := Lib.hid wq
      have HQL := Lib.hid hql
      have WPL := Lib.hid wpl
      clear wf wtell wq hql wpl
      go_wp2_with fail
      refine FL.out.mono ?_
      rintro e w6 ⟨rfl, S2, hO2, -, hT2⟩
      have B6 := Lib.hid (hT2.below B.out hzr fun j e => (O1.out.inS j e).1)
      obtain ⟨Sp, qv, hIn⟩ := id hO2
      have AT := Lib.hid (show Calls Try.prog 16 #[.pointer (some ⟨o, 0, none⟩)] w6 (fun r w' => r = .returned (.int .i64 (pl : Nat)) ∧ w6 = w') from oat_any o _ pl er idle qv w6 hIn.io)
      have LF := Lib.hid (show Calls Try.prog 30 #[.pointer (some ⟨o, 0, none⟩)] w6 (fun r w' => r = .returned (.int .i64 (ql : Nat)) ∧ w6 = w') from by rw [← HQL.out]; exact oleft_any o _ _ S2 w6 hO2)
      have BY := Lib.hid (kbytes_any g lo t Sp w6 hIn.st (by rw [WPL.out]; omega))
      clear hO2 hT2 hIn FL
      go_wp2_with fail
      refine AT.out.mono ?_
      rintro e w7 ⟨rfl, rfl⟩
      go_wp2_with fail
      refine LF.out.mono ?_
      rintro e w7 ⟨rfl, rfl⟩
      go_wp2_with fail
      refine BY.out.mono ?_
      rintro e w7 ⟨bv, rfl, hbo, hb7⟩
      obtain ⟨ab, nb, cb, rfl, hsb⟩ := hbo.slN
      obtain rfl : nb = pl := by rw [← WPL.out]; exact hsb.len.symm
      have SB := Lib.hid hsb
      have BW7 := Lib.hid (B4.out.trans (((B6.out.trans (hb7.mono (Nat.le_trans hz4' B6.out.size))).mono hl0)))
      have hz6 : lo ≤ w6.heap.size := Nat.le_trans hz4' B6.out.size
      have X7 := Lib.hid ((hb7.block gx (by omega)).trans ((B6.out.block gx hxl).trans X4.out))
      have hz7 := hb7.size
      have r1 : IntKind.i64.wrap ((nb : Int) + (ql : Int)) = ((ij items).length : Nat) := by rw [IntWalk.i64_in _ (by omega)]; omega
      have u1 : ((nb : Int) != (nb : Int)) = false := by simp
      have u2 : (((ij items).length : Int) != ((ij items).length : Int)) = false := by simp
      have y2 := cell_of X7.out 2 rfl
      have y1 := cell_of X7.out 1 rfl
      clear hbo hsb hb7 AT LF BY XR BW B O1 B6 X4 y0
      by_cases her : er = 0
      case neg =>
        have e1 : (er == 0) = false := by rw [beq_eq_false_iff_ne]; exact her
        have e2 : (er != 0) = true := by rw [bne_iff_ne]; exact her
        obtain ⟨tb, htb⟩ : ∃ tb, ((ql : Int) == 0) = tb := ⟨_, rfl⟩
        rcases WT.out her with hf | hf
        · have f1 : decide (fail ≥ 1) = true := decide_eq_true hf
          have f2 : decide (1 ≤ fail) = true := decide_eq_true hf
          clear her hf
          cases tb <;>
          · go_wp2_with fail
            go_ret
            exact ⟨rfl, BW7.out⟩
        · by_cases hf2 : 1 ≤ fail
          · have f1 : decide (fail ≥ 1) = true := decide_eq_true hf2
            have f2 : decide (1 ≤ fail) = true := decide_eq_true hf2
            clear her hf hf2
            cases tb <;>
            · go_wp2_with fail
              go_ret
              exact ⟨rfl, BW7.out⟩
          · have f1 : decide (fail ≥ 1) = false := decide_eq_false hf2
            have f2 : decide (1 ≤ fail) = false := decide_eq_false hf2
            have f3 : decide ((ts.length : Int) ≥ 16) = true := decide_eq_true (by omega)
            have f4 : decide ((16 : Int) ≤ (ts.length : Int)) = true := decide_eq_true (by omega)
            have f5 : decide (16 ≤ ts.length) = true := decide_eq_true (by omega)
            clear her hf hf2
            cases tb <;>
            · go_wp2_with fail
              go_ret
              exact ⟨rfl, BW7.out⟩
      subst her
      have hq0 := WQ.out rfl
      subst hq0
      have hq00 : ql = 0 := HQL.out.symm
      have q0 : ((ql : Int) == 0) = true := by rw [hq00]; rfl
      have HNB := Lib.hid (show (ij items).length = nb by omega)
      have hnb2 : nb ≤ 11534336 := by omega
      have SB2 := Lib.hid (show Sl Bf w7 ab nb cb (ij items) by have := SB.out; rw [← WALL.out, List.append_nil]; exact this)
      clear WT WQ HQL WALL SB wall hq00
      have y3 := cell_of X7.out 3 rfl
      have y4 := cell_of X7.out 4 rfl
      have y5 := cell_of X7.out 5 rfl
      have NS := Lib.hid (newSource_any ab nb cb (ij items) ag gs.length cg gs brk eager w7 (by omega) (by omega) HI2.out SB2.out (HG.out.keep BW7.out))
      go_wp2_with fail
      refine NS.out.mono ?_
      rintro e w8 ⟨g2, S8, rfl, hs, hb8⟩
      have hb8' := hb8.size
      have HS8 := Lib.hid hs
      have HB8 := Lib.hid hb8
      have hmx : max 0 ((ij items).length : Int) = ((ij items).length : Int) := by omega
      have NI := Lib.hid (newIn_any 28 (.pointer (some ⟨g2, 0, none⟩)) ((ij items).length : Nat) w8 (by omega))
      rw [hmx] at NI
      clear hs hb8 NS hmx y1 y2 u1 u2 r1
      go_wp2_with fail
      refine NI.out.mono ?_
      rintro e w9 ⟨rfl, hIn, hb9⟩
      obtain ⟨M, hM⟩ : ∃ M, (ij items).length = M := ⟨_, rfl⟩
      obtain ⟨gc, hgc⟩ : ∃ gc, w8.heap.size = gc := ⟨_, rfl⟩
      obtain ⟨A, hA7⟩ : ∃ A, w7.heap.size = A := ⟨_, rfl⟩
      have hin := HS8.out.inS
      have hz9 : w8.heap.size < w9.heap.size := by obtain ⟨_, h, _⟩ := hIn; exact h.lt
      have HM := Lib.hid hM
      have hMle : M ≤ 11534336 := by omega
      rw [hM, hgc] at hIn
      rw [hgc] at hz9 hb8'
      rw [hA7] at HS8 hin hb8' hz7
      have RI0 := Lib.hid (show RI gs brk M (ij (items.drop 0)) ⟨⟨gs, brk, 0, ij items, eager⟩, 0, 0, 0, []⟩ from ⟨rfl, rfl, rfl, by show 0 + (ij items).length = M; omega, rfl, rfl, Nat.zero_le _, Nat.zero_le _, fun e => absurd e (Nat.lt_irrefl _)⟩)
      have C0 := Lib.hid (show CPh g2 A gc (M : Nat) 28 A w9.heap.size w9.heap.size ⟨⟨gs, brk, 0, ij items, eager⟩, 0, 0, 0, []⟩ S8 w9 w9 from
        { io := hIn, st := HS8.out.keep hb9, ng := fun h => by have := (hin _ h).2; omega, sub := fun j hj => .inl (by have := hin j hj; omega), gz := ⟨hb8', hz9⟩, hz := Nat.le_refl _, tu := .refl _ _ })
      have BW9 := Lib.hid (BW7.out.trans ((keep_trans HB8.out hb9).mono (by have := BW7.out.size; omega)))
      have X9 := Lib.hid ((keep_trans HB8.out hb9).block gx (by omega) |>.trans X7.out)
      obtain ⟨z9, hz9'⟩ : ∃ z, w9.heap.size = z := ⟨_, rfl⟩
      have HZ9 := Lib.hid hz9'
      rw [hz9'] at C0
      have hA : w.heap.size ≤ A := by rw [← hA7]; exact BW7.out.size
      have hxA : gx < A := by omega
      rw [hM, hgc]
      clear hIn hb9 hin HS8 HB8 NI y3 y4 y5 BW7 X7 SB2 hM hgc hA7 hz9' hb8' HNB hnb2 WPL q0 hJ wq
      have y4 := cell_of X9.out 4 rfl
      have y3 := cell_of X9.out 3 rfl
      go_upto_region 28 with (fail)
      go_cut [14] (fun v wx => ∃ mb, v = .bool mb ∧ (Tells gs brk → mb = true) ∧ wx = w9)
      case first =>
        by_cases hf2 : 1 ≤ brk
        · have f1 : decide (brk ≥ 1) = true := decide_eq_true hf2
          have f2 : decide (1 ≤ brk) = true := decide_eq_true hf2
          clear hf2
          go_wp2_with fail
          go_meet
          exact ⟨_, rfl, fun _ => rfl, rfl⟩
        · have f1 : decide (brk ≥ 1) = false := decide_eq_false hf2
          have f2 : decide (1 ≤ brk) = false := decide_eq_false hf2
          have HF := Lib.hid hf2
          by_cases h16 : 16 ≤ gs.length
          · have f3 : decide ((gs.length : Int) ≥ 16) = true := decide_eq_true (by omega)
            have f4 : decide ((16 : Int) ≤ (gs.length : Int)) = true := decide_eq_true (by omega)
            have f5 : decide (16 ≤ gs.length) = true := decide_eq_true (by omega)
            clear hf2 h16
            go_wp2_with fail
            go_meet
            exact ⟨_, rfl, fun _ => rfl, rfl⟩
          · have f3 : decide ((gs.length : Int) ≥ 16) = false := decide_eq_false (by omega)
            have f4 : decide ((16 : Int) ≤ (gs.length : Int)) = false := decide_eq_false (by omega)
            have f5 : decide (16 ≤ gs.length) = false := decide_eq_false (by omega)
            have HG16 := Lib.hid h16
            clear hf2 h16
            go_wp2_with fail
            go_meet
            exact ⟨_, rfl, fun h => by have q1 := HF.out; have q2 := HG16.out; rcases h with h | h <;> omega, rfl⟩
      obtain ⟨mb, rfl, hmb, rfl⟩ := hcut
      have MB := Lib.hid hmb
      clear hmb y3 y4
      have hzw : lo ≤ A := Nat.le_trans hz6 hz7
      go_wp2_with fail
      go_loopw [15] (fun v15 wq => ∃ (k : Nat) (c : CIn Src) (S : Nat → Prop), v15 = .int .i64 (k : Nat) ∧ k ≤ items.length ∧ RI gs brk M (ij (items.drop k)) c ∧ Okay srcM (SrcLe M) (M : Nat) (17 * M + 352 * k) c ∧ CPh g2 A gc (M : Nat) 28 A z9 z9 c S wc wq) (fun v15 _ => items.length - (intOf v15).toNat)
      case atStart => exact ⟨0, _, S8, rfl, Nat.zero_le _, RI0.out, { idle := fun _ => Nat.zero_le _, id2 := Nat.zero_le _, pl := by show ((0 : Nat) : Int) ≤ M; omega, held := Nat.zero_le _, p := by show (ij items).length ≤ M; rw [HM.out]; exact Nat.le_refl _, bud := by show 0 + (ij items).length * 17 ≤ _; rw [HM.out]; omega }, C0.out⟩
      case round =>
        obtain ⟨k, c, S9, rfl, hk, hri, hok, hc⟩ := hrel
        have RI1 := Lib.hid hri
        have OK := Lib.hid hok
        have C := Lib.hid hc
        have BR := Lib.hid (hc.tu.below BW9.out BW9.out.size fun j e => by have := HZ9.out; have := BW9.out.size; rcases e with e | e <;> omega)
        have XR := Lib.hid ((hc.tu.heap X9.out (fun e => by have := HZ9.out; have := (Array.getElem?_eq_some_iff.1 X9.out).1; rcases e with e | e <;> omega)))
        have y0 := cell_of XR.out 0 rfl
        clear hri hok hc RI0 C0
        by_cases hlt : k < items.length
        · obtain ⟨⟨row, N, bs⟩, hx⟩ : ∃ x, items[k]? = some x := ⟨_, List.getElem?_eq_getElem hlt⟩
          obtain ⟨bx, ox, ax, nx, cx, rfl, f0, f1, f2, f3⟩ := HL.out.2.2 k _ hx
          have hN := HW.out _ (List.mem_of_getElem? hx)
          have hjd := ij_drop hx
          dsimp only at f0 f1 f2 f3 hN
          have e0 := (World.cell?_of_block (a := ⟨bx, ox + k * 3, none⟩) (BR.out.block bx (cell_lt f0))).trans f0
          have e1 := (World.cell?_of_block (a := ⟨bx, ox + k * 3 + 1, none⟩) (BR.out.block bx (cell_lt f1))).trans f1
          have e2 := (World.cell?_of_block (a := ⟨bx, ox + k * 3 + 2, none⟩) (BR.out.block bx (cell_lt f2))).trans f2
          have F1 := Lib.hid f1
          have F2 := Lib.hid f2
          have FS := Lib.hid f3
          have hnx : bs.length = nx := f3.len
          have hcx := f3.le
          have RI2 := Lib.hid (show RI gs brk M (ib (row, N, bs) ++ ij (items.drop (k + 1))) c by rw [← hjd]; exact RI1.out)
          have hbn : nx ≤ 11534336 := by have : bs.length ≤ itmSum items := itm_le hx; omega
          have hgxw := (Array.getElem?_eq_some_iff.1 X9.out).1
          have hzz := HZ9.out
          have hzw9 := BW9.out.size
          clear hx f3 hjd RI1 f0 f1 f2
          cases row with
          | true =>
            have CB := Lib.hid (cbytes_any (srcR g2 A) 28 (fun w => methR g2 w) (enters_of Try.func75 (by kernel_rfl) rfl) src_mu gc (M : Nat) (nx : Nat) c S9 wr (SrcLe M) (17 * M + 352 * k) OK.out C.out.io C.out.st C.out.ng (Nat.zero_le _) (by omega) (by omega) (by omega) (fun _ _ => .inl (by omega)))
            have OK2 := Lib.hid ((OK.out.bytes (n := (nx : Nat)) src_mu (src_le M)).1)
            have RB := Lib.hid (show ((bytesM srcM M (nx : Nat) c).2.1 ≠ 0 → Tells gs brk) ∧ ((bytesM srcM M (nx : Nat) c).2.1 = 0 → (bytesM srcM M (nx : Nat) c).1 = bs ∧ RI gs brk M (ij (items.drop (k + 1))) (bytesM srcM M (nx : Nat) c).2.2) by have h : RI gs brk M (bs ++ ij (items.drop (k + 1))) c := RI2.out; have := h.bytes; rw [hnx] at this; exact this)
            obtain ⟨⟨b, e, c'⟩, hX⟩ : ∃ X, bytesM srcM M (nx : Nat) c = X := ⟨_, rfl⟩
            rw [hX] at CB OK2 RB
            clear hX RI2 e1
            go_wp2_with fail
            refine CB.out.mono ?_
            rintro r w10 ⟨bv, S10, rfl, hbo, -, hIA⟩
            have C10 := Lib.hid (C.out.step hIA)
            have hbo : OwT fB w10 wr.heap.size 5 bv b := hbo
            obtain ⟨av, nv, cv, rfl, hvs⟩ := hbo.slN
            have k1 := hbo.capB
            have BR10 := Lib.hid (C10.out.tu.below BW9.out BW9.out.size fun j e => by rcases e with e | e <;> omega)
            have XR10 := Lib.hid (C10.out.tu.heap X9.out (fun e => by rcases e with e | e <;> omega))
            have z0 := cell_of XR10.out 0 rfl
            have g2c := (World.cell?_of_block (a := ⟨bx, ox + k * 3 + 2, none⟩) (BR10.out.block bx (cell_lt F2.out))).trans F2.out
            have SM := Lib.hid (sameD_any av nv cv b ax nx cx bs w10 (by omega) (by omega) hvs (FS.out.keep BR10.out))
            clear CB hIA hbo hvs k1 y0 e0 e2 BR XR C
            try dsimp only at OK2 RB ⊢
            by_cases he : e = 0
            · subst he
              obtain ⟨hbb, hri⟩ := RB.out.2 rfl
              subst hbb
              rw [decide_eq_true rfl] at SM
              have RN := Lib.hid hri
              clear hri RB
              go_wp2_with fail
              refine SM.out.mono ?_
              rintro r w11 ⟨rfl, hd⟩
              have C11 := Lib.hid (C10.out.keep hd.below)
              clear hd SM C10 z0 g2c
              go_wp2_with fail
              go_roundw
              case rel => exact ⟨k + 1, c', S10, by go_num, by omega, RN.out, OK2.out.mono (by omega), C11.out⟩
              case measure => simp [intOf]; omega
            · have hme := MB.out (RB.out.1 he)
              have t1 : (e != 0) = true := by rw [bne_iff_ne]; exact he
              obtain ⟨sb, hsb⟩ : ∃ sb, decide (b = bs) = sb := ⟨_, rfl⟩
              rw [hsb] at SM
              subst hme
              clear he RB hsb
              go_wp2_with fail
              refine SM.out.mono ?_
              rintro r w11 ⟨rfl, hd⟩
              have BR11 := Lib.hid (keep_trans BR10.out hd.below)
              clear hd SM
              go_wp2_with fail
              go_ret
              exact ⟨rfl, BR11.out⟩
          | false =>
            have CB := Lib.hid (cnum_any (srcR g2 A) 28 (fun w => methR g2 w) (enters_of Try.func75 (by kernel_rfl) rfl) src_mu gc (M : Nat) c S9 wr (SrcLe M) (src_le M) (17 * M + 352 * k) OK.out C.out.io C.out.st C.out.ng (Nat.zero_le _) (by omega) (by omega))
            have OK2 := Lib.hid (OK.out.num src_mu (src_le M))
            have RB := Lib.hid (show ((numM srcM M c).2.1 ≠ 0 → Tells gs brk) ∧ ((numM srcM M c).2.1 = 0 → (numM srcM M c).1 = N ∧ RI gs brk M (ij (items.drop (k + 1))) (numM srcM M c).2.2) by have h : RI gs brk M (vb N ++ ij (items.drop (k + 1))) c := RI2.out; exact h.num hN)
            obtain ⟨⟨b, e, c'⟩, hX⟩ : ∃ X, numM srcM M c = X := ⟨_, rfl⟩
            rw [hX] at CB OK2 RB
            clear hX RI2 e2
            go_wp2_with fail
            refine CB.out.mono ?_
            rintro r w10 ⟨S10, rfl, hIA⟩
            have C10 := Lib.hid (C.out.step hIA)
            have BR10 := Lib.hid (C10.out.tu.below BW9.out BW9.out.size fun j e => by rcases e with e | e <;> omega)
            have XR10 := Lib.hid (C10.out.tu.heap X9.out (fun e => by rcases e with e | e <;> omega))
            have z0 := cell_of XR10.out 0 rfl
            have g1c := (World.cell?_of_block (a := ⟨bx, ox + k * 3 + 1, none⟩) (BR10.out.block bx (cell_lt F1.out))).trans F1.out
            clear CB hIA y0 e0 e1 BR XR C
            try dsimp only at OK2 RB ⊢
            by_cases he : e = 0
            · subst he
              obtain ⟨hbb, hri⟩ := RB.out.2 rfl
              have hbb : b = N := hbb
              subst hbb
              have RN := Lib.hid hri
              have t1 : ((b : Int) == (b : Int)) = true := by simp
              clear hri RB
              go_wp2_with fail
              go_roundw
              case rel => exact ⟨k + 1, c', S10, by go_num, by omega, RN.out, OK2.out.mono (by omega), C10.out⟩
              case measure => simp [intOf]; omega
            · have hme := MB.out (RB.out.1 he)
              have t1 : (e != 0) = true := by rw [bne_iff_ne]; exact he
              subst hme
              clear he RB
              go_wp2_with fail
              go_ret
              exact ⟨rfl, BR10.out⟩
        · obtain rfl : k = items.length := by omega
          have t1' : decide (items.length < items.length) = false := decide_eq_false hlt
          have RE := Lib.hid (show RI gs brk M [] c by have := RI1.out; rw [List.drop_length] at this; exact this)
          have CE := Lib.hid (cend_any (srcR g2 A) 28 (fun w => methR g2 w) (enters_of Try.func75 (by kernel_rfl) rfl) src_mu gc (M : Nat) c S9 wr (SrcLe M) (src_le M) (17 * M + 352 * items.length) OK.out C.out.io C.out.st C.out.ng (Nat.zero_le _) (by omega))
          have RB := Lib.hid RE.out.end'
          obtain ⟨⟨b, e, c'⟩, hX⟩ : ∃ X, endM srcM c = X := ⟨_, rfl⟩
          rw [hX] at CE RB
          have hzz := HZ9.out
          have hzw9 := BW9.out.size
          clear hX hlt hk
          go_wp2_with fail
          refine CE.out.mono ?_
          rintro r w10 ⟨S10, rfl, hIA⟩
          have C10 := Lib.hid (C.out.step hIA)
          have BR10 := Lib.hid (C10.out.tu.below BW9.out BW9.out.size fun j e => by rcases e with e | e <;> omega)
          obtain ⟨pl2, hpl2⟩ : ∃ pl2, c'.pl = pl2 := ⟨_, rfl⟩
          have AT := Lib.hid (show Calls Try.prog 16 #[.pointer (some ⟨gc, 0, none⟩)] w10 (fun r w' => r = .returned (.int .i64 (pl2 : Nat)) ∧ w10 = w') by rw [← hpl2]; exact cat_any gc _ _ _ _ _ _ w10 C10.out.io)
          clear CE hIA y0 BR XR C
          try dsimp only at RB ⊢
          go_wp2_with fail
          refine AT.out.mono ?_
          rintro r w11 ⟨rfl, rfl⟩
          by_cases he : e = 0
          · subst he
            obtain ⟨hbb, hpp⟩ := RB.out.2 rfl
            have hbb : b = true := hbb
            have hpp : c'.pl = M := hpp
            subst hbb
            obtain rfl : pl2 = M := by rw [← hpl2]; exact hpp
            have t1 : ((pl2 : Int) == (pl2 : Int)) = true := by simp
            clear hpl2 hpp RB
            go_wp2_with fail
            go_ret
            exact ⟨rfl, BR10.out⟩
          · have hme := MB.out (RB.out.1 he)
            have t1 : (e != 0) = true := by rw [bne_iff_ne]; exact he
            subst hme
            clear he RB hpl2
            go_wp2_with fail
            go_ret
            exact ⟨rfl, BR10.out⟩
end Go.Proofs.Ytpenbaafhbbmhaa

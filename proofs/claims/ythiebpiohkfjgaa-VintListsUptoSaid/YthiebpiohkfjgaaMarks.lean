/- Marks of loops over a function among the deferred calls: a function leaves through all of them. Conditions: each mark's block is open, and no block is named twice. -/
import Derived.Test.YthiebpiohkfjgaaVintAll
namespace Go.Proofs.Ythiebpiohkfjgaa
open Go.RowKit Go.Shelf
attribute [local go_sem] Oper.semAt_some

/-- the marks `ds` are open, lie at or behind `low`, no two alike -/
def Marks (low : Nat) (ds : List Deferred) (W : World) : Prop :=
  (ds.map (·.target)).Nodup ∧ ∀ d, d ∈ ds → ∃ D, low ≤ D ∧ d = { target := .collected D, args := #[] } ∧ W.heap[D]? = some (.deferred (some []))

theorem Marks.nil (low : Nat) (W : World) : Marks low [] W := ⟨List.nodup_nil, fun d h => by cases h⟩
theorem Marks.keep {low : Nat} {ds : List Deferred} {W W' : World} (h : Marks low ds W) (hk : ∀ D, low ≤ D → W.heap[D]? = some (.deferred (some [])) → W'.heap[D]? = some (.deferred (some []))) : Marks low ds W' :=
  ⟨h.1, fun d hd => by obtain ⟨D, h1, h2, h3⟩ := h.2 d hd; exact ⟨D, h1, h2, hk D h1 h3⟩⟩
theorem Marks.below {low : Nat} {ds : List Deferred} {W W' : World} (h : Marks low ds W) (hb : Below W.heap.size W W') : Marks low ds W' :=
  h.keep fun D _ h2 => (hb.block D (Array.getElem?_eq_some_iff.1 h2).1).trans h2
theorem Marks.setCell {low : Nat} {ds : List Deferred} {W : World} {p : Addr} {v u : Value} (h : Marks low ds W) (hp : W.cell? p = some u) : Marks low ds (W.setCell p v) :=
  h.keep fun D _ h2 => by
    refine (Below.heap_setCell _ _ _ _ (fun e => ?_)).trans h2
    subst e
    simp [World.cell?, h2] at hp
theorem Marks.more {low : Nat} {ds : List Deferred} {W : World} {D : Nat} (h : Marks low ds W) (hD : low ≤ D) (hK : W.heap[D]? = some (.deferred (some []))) (hnew : ∀ d, d ∈ ds → d.target ≠ .collected D) :
    Marks low ({ target := .collected D, args := #[] } :: ds) W :=
  ⟨by rw [List.map_cons, List.nodup_cons]; exact ⟨fun hm => by obtain ⟨d, h1, h2⟩ := List.mem_map.1 hm; exact hnew d h1 h2, h.1⟩,
   fun d hd => by
    rcases List.mem_cons.1 hd with rfl | hd
    · exact ⟨D, hD, rfl, hK⟩
    · exact h.2 d hd⟩
/-- a mark whose block lay in the elder world is another than one that lies behind it -/
theorem Marks.new {low B D : Nat} {ds : List Deferred} {W : World} (h : Marks low ds W) (hB : W.heap.size ≤ B) (hD : B ≤ D) : ∀ d, d ∈ ds → d.target ≠ .collected D := by
  intro d hd e
  obtain ⟨D', h1, rfl, h3⟩ := h.2 d hd
  have := (Array.getElem?_eq_some_iff.1 h3).1
  injection e with e
  omega

/-- OUT THROUGH ALL MARKS: what abides where a mark is shut holds at the end. -/
theorem leaves_marks {F : Fence} {n : Nat} {P : Program} {fn : Func} {tmps : Array Value} {R : Ending → World → Prop} {R0 : World → Prop} {low : Nat}
    (hput : ∀ W D, low ≤ D → R0 W → W.heap[D]? = some (.deferred (some [])) → R0 (W.putObj D (.deferred none)))
    (hend : ∀ W, R0 W → LeavesIn F n P fn tmps R [] .returning W) : ∀ (ds : List Deferred) (W : World), Marks low ds W → R0 W → LeavesInM F n P fn tmps R ds .returning W := by
  intro ds
  induction ds with
  | nil => exact fun W _ h => hend W h
  | cons d ds ih =>
    intro W hm h
    obtain ⟨D, h1, rfl, h3⟩ := hm.2 d (List.mem_cons_self ..)
    refine ⟨by simp, .inl ⟨D, _, rfl, run_takeDeferred h3, ?_⟩⟩
    refine ih _ ⟨(List.nodup_cons.1 hm.1).2, fun d hd => ?_⟩ (hput W D h1 h h3)
    obtain ⟨D', k1, rfl, k3⟩ := hm.2 d (List.mem_cons_of_mem _ hd)
    refine ⟨D', k1, rfl, (World.putObj_heap_other (fun e => ?_)).trans k3⟩
    subst e
    exact (List.nodup_cons.1 hm.1).1 (List.mem_map.2 ⟨_, hd, rfl⟩)

/-- the law of a range whose body is told of its loop's record, where no loop variable is boxed -/
theorem range_own {F : Fence} {n : Nat} {P : Program} {w : World} {α : Type} {g : Operand} {ps : Array Tmp} {assign body : Code} {Q : Exit → Act → World → Prop} {a : Act}
    (hro : F.round = none) (h1 : 1 ≤ n) {gf : Nat} {lb : Array Value} (hg : a.eval g = .func (.func gf) #[] lb) (hFg : F.fn gf) (eg : ∀ args w, (callFunc gf args).run P w = .ok (.enter gf args) w)
    {encs : α → Array Value} {Kp : World → World → Prop} {S Sp : List α → Prop} {N : Nat} (hseq : SeqStopsK F (n - 1) P gf lb encs Kp S Sp N w)
    (hKt : ∀ {A B C : World}, Kp A B → Kp B C → Kp A C) (hKb : ∀ (W : World) (l : Nat) (o o' : Obj), w.heap.size ≤ l → W.heap[l]? = some o → o.isCells = false → o.isWalk = false → Kp W (W.putObj l o')) (hKr : ∀ W, Kp W W) (hps : ∀ x, (encs x).size = ps.size)
    (I : List α → World → Prop) (Ix : Code → List α → World → Prop) (hI : OwnFrom w.heap.size I) (hIx : ∀ c, OwnFrom w.heap.size (Ix c)) (h0 : I [] w) (a₁ : α → Act)
    (hassign : ∀ (l : Nat) (x : α) (W : World) (K : Act → World → Prop), K (a₁ x) W →
      assign.wpIn (F.inRound l) (n - 1 - 1) P (Exit.then K (fun _ _ _ => False)) { tmps := (ps.zip (encs x)).foldl (fun t (p, v) => t.setIfInBounds p v) a.tmps, defers := [] } W)
    (hbody : ∀ (l : Nat) (pre : List α) (x : α) (W : World), w.heap.size ≤ l → (∃ r, W.heap[l]? = some (.loop r)) → I pre W → pre.length < N → body.wpIn (F.inRound l) (n - 1 - 1) P (ownPostG w.heap.size Kp I Ix (pre ++ [x]) W) (a₁ x) W)
    (hdone : ∀ (D : Nat) (xs : List α) (W : World), w.heap.size ≤ D → S xs → I xs W → W.heap[D]? = some (.deferred (some [])) → Q .normal { a with defers := { target := .collected D, args := #[] } :: a.defers } W)
    (hstop : ∀ (D : Nat) (c : Code) (pre : List α) (W : World), w.heap.size ≤ D → Sp pre → Ix c pre W → W.heap[D]? = some (.deferred (some [])) → c.wpIn F n P Q { a with defers := { target := .collected D, args := #[] } :: a.defers } W) :
    (Code.rangeFunc g ps assign body).wpIn F n P Q a w :=
  wpIn_rangeFunc_ownH hro h1 hg hFg eg hseq (fun h k => hKt h k) hKb (Below.refl _ _) hps I Ix hI hIx h0 (fun x a' _ => a' = a₁ x) (fun _ _ _ _ _ _ hs _ _ => hs)
    (fun l pre x W K hi hK => hassign l x W K (hK _ _ (KeepsFrom.refl _ _) (hKr W) hi rfl)) (fun l pre x a' W hl hr hi e hlt => by subst e; exact hbody l pre x W hl hr hi hlt) hdone hstop
/-- the law of a range within a round of another one, where no loop variable is boxed -/
theorem range_ownN {F : Fence} {n : Nat} {P : Program} {w : World} {α : Type} {g : Operand} {ps : Array Tmp} {assign body : Code} {Q : Exit → Act → World → Prop} {a : Act}
    {l₀ : Nat} {r₀ : Loop} (hro : F.round = some l₀) (hl₀ : w.heap[l₀]? = some (.loop r₀)) (h1 : 1 ≤ n) {gf : Nat} {lb : Array Value} (hg : a.eval g = .func (.func gf) #[] lb) (hFg : F.fn gf) (eg : ∀ args w, (callFunc gf args).run P w = .ok (.enter gf args) w)
    {encs : α → Array Value} {Kp : World → World → Prop} {S Sp : List α → Prop} {N : Nat} {w0 : World} (hseq : SeqStopsK F (n - 1) P gf lb encs Kp S Sp N w0)
    (hKt : ∀ {A B C : World}, Kp A B → Kp B C → Kp A C) (hKb : ∀ (W : World) (l : Nat) (o o' : Obj), w.heap.size ≤ l → W.heap[l]? = some o → o.isCells = false → o.isWalk = false → Kp W (W.putObj l o')) (hKr : ∀ W, Kp W W) (hb0 : Below w0.heap.size w0 w) (hps : ∀ x, (encs x).size = ps.size)
    (I : List α → World → Prop) (Ix : Code → List α → World → Prop) (hI : OwnFrom w.heap.size I) (hIx : ∀ c, OwnFrom w.heap.size (Ix c)) (h0 : I [] w) (a₁ : α → Act)
    (hassign : ∀ (l : Nat) (x : α) (W : World) (K : Act → World → Prop), K (a₁ x) W →
      assign.wpIn (F.inRound l) (n - 1 - 1) P (Exit.then K (fun _ _ _ => False)) { tmps := (ps.zip (encs x)).foldl (fun t (p, v) => t.setIfInBounds p v) a.tmps, defers := [] } W)
    (hbody : ∀ (l : Nat) (pre : List α) (x : α) (W : World), w.heap.size ≤ l → (∃ r, W.heap[l]? = some (.loop r)) → I pre W → pre.length < N → body.wpIn (F.inRound l) (n - 1 - 1) P (ownPostG w.heap.size Kp I Ix (pre ++ [x]) W) (a₁ x) W)
    (hdone : ∀ (xs : List α) (W : World), S xs → I xs W → Q .normal a W)
    (hstop : ∀ (c : Code) (pre : List α) (W : World), Sp pre → Ix c pre W → c.wpIn F n P Q a W) :
    (Code.rangeFunc g ps assign body).wpIn F n P Q a w :=
  wpIn_rangeFunc_ownN hro hl₀ h1 hg hFg eg hseq (fun h k => hKt h k) hKb hb0 hps I Ix hI hIx h0 (fun x a' _ => a' = a₁ x) (fun _ _ _ _ _ _ hs _ _ => hs)
    (fun l pre x W K hi hK => hassign l x W K (hK _ _ (KeepsFrom.refl _ _) (hKr W) hi rfl)) (fun l pre x a' W hl hr hi e hlt => by subst e; exact hbody l pre x W hl hr hi hlt) hdone hstop
theorem Kb.r {n₀ Bx : Nat} (W : World) : Kb n₀ Bx W W := ⟨Below.refl _ _, fun _ h => h⟩
/-- at a fence without a bound a round is one at every depth -/
theorem yield_depth {F : Fence} (hd : F.depth = none) {m : Nat} (m' : Nat) {P : Program} {l : Nat} {args : Array Value} {W : World} {R : Ending → World → Prop} (h : YieldAt F m P l args W R) : YieldAt F m' P l args W R := by
  obtain ⟨fn, tmps, assign, body, hy, hR⟩ := h
  exact ⟨fn, tmps, assign, body, hy, hR.1, fun c cs _ => hR.2 c cs (fun d h => by rw [hd] at h; cases h)⟩
/-- All's contract at whatever depth. -/
theorem all_stops_n (m : Nat) (Bx n₀ : Nat) (a : Option Addr) (c : Nat) (b : List UInt8) (hn : b.length ≤ 1000000000000000) (w : World) (hBx : Boxed w Bx 22 (.slice a b.length c)) (hS : Sl Bf w a b.length c b) (hSn : ∀ b' o, a = some ⟨b', o, none⟩ → 0 < b.length → b' < n₀) (hW : n₀ ≤ w.heap.size) :
    SeqStopsK Fence.wide m Try.prog 34 #[.pointer (some ⟨Bx, 0, none⟩)] (fun x : NP => #[Value.int .i64 (x.1.1 : Nat), Value.int .u64 (x.1.2 : Nat)]) (Kb n₀ Bx) (fun ys => ys.map Subtype.val = nums b) (fun pre => pre.map Subtype.val <+: nums b) (nums b).length w := fun l J Jx W hb hJ hJx hY h0 =>
  callsIn_wide.2 (callsIn_wide.1 (all_stops Bx n₀ a c b hn w hBx hS hSn hW l J Jx W hb hJ hJx (fun pre x W1 hj hl => yield_depth rfl _ (hY pre x W1 hj hl)) h0))
end Go.Proofs.Ythiebpiohkfjgaa

/- A range over a function whose iterator keeps a state of its own in cells: the statement's law. -/
import Derived.RangeFuncNested
import Derived.RangeFuncBound
import Derived.RangeFuncCalls
import Derived.RangeFuncLeaves
import Derived.RangeFuncWrites
import Derived.OwnWalkIn
import Derived.TacticsInMore
import Derived.LoopNIn
import Derived.LoopIn
import Derived.Test.YtiakgffanplmdaaRun
namespace Go.Proofs.Ytiakgffanplmdaa
open Go.RowKit Go.Deep
variable {F : Fence} {n : Nat} {P : Program}

theorem Fr.putObj {S : Nat → Prop} {w w' : World} (h : Fr S w w') {l : Nat} (hl : l < w.heap.size → S l) (o : Obj) : Fr S w (w'.putObj l o) :=
  ⟨h.os, h.tape, h.output, by have := h.size; simp; omega, fun k hk hs => by rw [World.putObj_heap_other (fun e => hs (by subst e; exact hl hk))]; exact h.block k hk hs⟩

/-- What an iterator promises that has a state: it writes in the blocks of S alone; in the state s it hands over an x and comes to s', as step has it. -/
def SeqT {σ α : Type} (F : Fence) (n : Nat) (P : Program) (gf : Nat) (lb : Array Value) (encs : α → Array Value) (S : Nat → Prop) (St : σ → World → Prop) (step : σ → α → σ → Prop) (stop : σ → Prop) : Prop :=
  ∀ (l : Nat) (J Jx : σ → World → Prop) (W : World) (s0 : σ),
    (∀ s A B, J s A → Fr S A B → J s B) →
    (∀ s x s' A B, step s x s' → St s' B → J s A → Fr S A B → YieldAt F (n - 1) P l (encs x) B fun e A' => (e = .returned (.bool true) ∧ St s' A' ∧ J s' A') ∨ (e = .returned (.bool false) ∧ Jx s' A')) →
    St s0 W → J s0 W →
    CallsIn F n P gf (#[.func (.yield l) #[] #[]] ++ lb) W fun e W' => (∃ v, e = .returned v) ∧ ((∃ s, stop s ∧ St s W' ∧ J s W') ∨ (∃ s, Jx s W'))

/-- How the body of a round may be left. -/
def postT {σ : Type} (B : Nat) (St : σ → World → Prop) (I : σ → World → Prop) (Ix : Code → σ → World → Prop) (s : σ) (W : World) : Exit → Act → World → Prop
  | .normal, _, W' => Fr (fun k => k < B) W W' ∧ St s W' ∧ I s W'
  | .ret, _, W' => Fr (fun k => k < B) W W' ∧ Ix .ret s W'
  | .exit id, _, W' => Fr (fun k => k < B) W W' ∧ Ix (.exit id) s W'
  | .goto t, _, W' => Fr (fun k => k < B) W W' ∧ Ix (.goto t) s W'
  | .panic _, _, _ => False
  | .outgrown, _, _ => False

theorem wpIn_rangeFunc_T {σ α : Type} {g : Operand} {ps : Array Tmp} {assign body : Code} {Q : Exit → Act → World → Prop} {a : Act} {w : World}
    (hro : F.round = none) (h1 : 1 ≤ n) {gf : Nat} {lb : Array Value} (hg : a.eval g = .func (.func gf) #[] lb) (hFg : F.fn gf) (eg : ∀ args w, (callFunc gf args).run P w = .ok (.enter gf args) w)
    {encs : α → Array Value} {S : Nat → Prop} {St : σ → World → Prop} {step : σ → α → σ → Prop} {stop : σ → Prop} (hseq : SeqT F (n - 1) P gf lb encs S St step stop)
    (hps : ∀ x, (encs x).size = ps.size) (hSw : ∀ k, S k → k < w.heap.size)
    (hSt : ∀ s A B, St s A → Fr (fun k => w.heap.size ≤ k) A B → St s B)
    (I : σ → World → Prop) (Ix : Code → σ → World → Prop)
    (hI : ∀ s A B, I s A → Fr (fun k => S k ∨ w.heap.size ≤ k) A B → I s B) (hIx : ∀ c s A B, Ix c s A → Fr (fun k => w.heap.size ≤ k) A B → Ix c s B)
    (s0 : σ) (h0 : St s0 w) (h0' : I s0 w) (a₁ : α → Act)
    (hassign : ∀ (l : Nat) (x : α) (W : World) (K : Act → World → Prop), K (a₁ x) W →
      assign.wpIn (F.inRound l) (n - 1 - 1) P (Exit.then K (fun _ _ _ => False)) { tmps := (ps.zip (encs x)).foldl (fun t (p, v) => t.setIfInBounds p v) a.tmps, defers := [] } W)
    (hbody : ∀ (l : Nat) (s : σ) (x : α) (s' : σ) (W : World), step s x s' → St s' W → I s W → body.wpIn (F.inRound l) (n - 1 - 1) P (postT w.heap.size St I Ix s' W) (a₁ x) W)
    (hdone : ∀ (D : Nat) (s : σ) (W : World), w.heap.size ≤ D → stop s → St s W → I s W → W.heap[D]? = some (.deferred (some [])) → Q .normal { a with defers := { target := .collected D, args := #[] } :: a.defers } W)
    (hstop : ∀ (D : Nat) (c : Code) (s : σ) (W : World), w.heap.size ≤ D → Ix c s W → W.heap[D]? = some (.deferred (some [])) → c.wpIn F n P Q { a with defers := { target := .collected D, args := #[] } :: a.defers } W) :
    (Code.rangeFunc g ps assign body).wpIn F n P Q a w := by
  refine wpIn_rangeFunc ?_
  intro fn hfn
  rw [hro]
  obtain ⟨rec, hrec⟩ : ∃ rec : LoopState → Option Code → Loop, rec = fun st pe => { state := st, pending := pe, fn, tmps := a.tmps, params := ps, assign, body, defers := w.heap.size } := ⟨_, rfl⟩
  have f01 : Fr (fun k => w.heap.size ≤ k) w ((w.alloc (.deferred (some []))).alloc (.loop (rec .ready none))) := ((Fr.refl _ _).alloc _).alloc _
  obtain ⟨W1, hW1⟩ : ∃ W1, (w.alloc (.deferred (some []))).alloc (.loop (rec .ready none)) = W1 := ⟨_, rfl⟩
  have hL1 : W1.heap[w.heap.size + 1]? = some (.loop (rec .ready none)) := by
    rw [← hW1]; have := World.alloc_heap_new (w.alloc (.deferred (some []))) (.loop (rec .ready none)); rwa [World.size_alloc] at this
  have hK1 : W1.heap[w.heap.size]? = some (.deferred (some [])) := by
    rw [← hW1]; exact (Below.heap_alloc _ _ _ (by simp)).trans (World.alloc_heap_new w _)
  rw [hW1] at f01
  have hI1 : I s0 W1 := hI _ _ _ h0' (f01.mono fun _ _ h => .inr h)
  have hS1 : St s0 W1 := hSt _ _ _ h0 f01
  refine ⟨w.heap.size + 1, [{ target := .collected w.heap.size, args := #[] }], W1, { target := .fn (.func gf) lb, args := #[.func (.yield (w.heap.size + 1)) #[] #[]] }, W1, gf,
    #[.func (.yield (w.heap.size + 1)) #[] #[]] ++ lb, W1, ?_, ?_, ?_, ?_, fun _ => h1, ?_⟩
  · rw [← hW1, hrec]; exact run_enterLoop_outer _ _ _ _ _
  · simp only [resolve, hg]
    simp [go_sem]
  · intro f' hf'; simp [Target.leads] at hf'; subst hf'; exact hFg
  · simp [invoke, go_sem, eg]
  · have nl : ¬ S (w.heap.size + 1) := fun h => by have := hSw _ h; omega
    have nd : ¬ S w.heap.size := fun h => by have := hSw _ h; omega
    have put : ∀ (A : World) (o : Obj), Fr (fun k => w.heap.size ≤ k) A (A.putObj (w.heap.size + 1) o) := fun A o => (Fr.refl _ A).putObj (fun _ => by omega) o
    refine (hseq (w.heap.size + 1)
      (fun s W => I s W ∧ W.heap[w.heap.size + 1]? = some (.loop (rec .ready none)) ∧ W.heap[w.heap.size]? = some (.deferred (some [])))
      (fun s W => ∃ c, Ix c s W ∧ W.heap[w.heap.size + 1]? = some (.loop (rec .done (some c))) ∧ W.heap[w.heap.size]? = some (.deferred (some [])))
      W1 s0
      (fun s A B hs f => ⟨hI s A B hs.1 (f.mono fun _ _ h => .inl h), f.blk hs.2.1 nl, f.blk hs.2.2 nd⟩)
      ?_ hS1 ⟨hI1, hL1, hK1⟩).mono ?_
    · rintro s x s' A W hstep hst ⟨hiA, hlA, hkA⟩ fAW
      have hi := hI s A W hiA (fAW.mono fun _ _ h => .inl h)
      have hl := fAW.blk hlA nl
      have hk := fAW.blk hkA nd
      have hlt : w.heap.size + 1 < W.heap.size := (Array.getElem?_eq_some_iff.1 hl).1
      have hy := run_yield (P := P) (args := encs x) hl (by rw [hrec]; exact hps x)
      rw [hrec] at hy
      refine ⟨fn, _, assign, body, hy, roundIn_of_wpIn hfn (hassign _ x W _ ⟨_, run_beginRound hl (by rw [hrec]), ?_⟩)⟩
      have hl2 : (W.putObj (w.heap.size + 1) (.loop { rec .ready none with state := .busy })).heap[w.heap.size + 1]? = some (.loop { rec .ready none with state := .busy }) := World.putObj_heap_same hlt
      have hk2 : (W.putObj (w.heap.size + 1) (.loop { rec .ready none with state := .busy })).heap[w.heap.size]? = some (.deferred (some [])) := (World.putObj_heap_other (by omega)).trans hk
      refine wpIn_mono (hbody _ s x s' _ hstep (hSt _ _ _ hst (put _ _)) (hI _ _ _ hi ((put _ _).mono fun _ _ h => .inr h))) ?_
      have fin : ∀ (jump : Option Code) (W3 : World), Fr (fun k => k < w.heap.size) (W.putObj (w.heap.size + 1) (.loop { rec .ready none with state := .busy })) W3 →
          (Instr.endRound (w.heap.size + 1) jump).run P W3 = .ok (.bool jump.isNone) (W3.putObj (w.heap.size + 1) (.loop (rec (if jump.isNone then .ready else .done) jump))) ∧
          W3.heap[w.heap.size + 1]? = some (.loop { rec .ready none with state := .busy }) ∧
          (W3.putObj (w.heap.size + 1) (.loop (rec (if jump.isNone then .ready else .done) jump))).heap[w.heap.size + 1]? = some (.loop (rec (if jump.isNone then .ready else .done) jump)) ∧
          (W3.putObj (w.heap.size + 1) (.loop (rec (if jump.isNone then .ready else .done) jump))).heap[w.heap.size]? = some (.deferred (some [])) := fun jump W3 hk3 => by
        have hl3 := hk3.blk hl2 (by omega)
        have := run_endRound (P := P) jump hl3
        rw [hrec] at this ⊢
        exact ⟨this, by rw [hrec] at hl3; exact hl3, World.putObj_heap_same (Array.getElem?_eq_some_iff.1 hl3).1, (World.putObj_heap_other (by omega)).trans (hk3.blk hk2 (by omega))⟩
      rintro e a3 W3 hp
      cases e with
      | normal =>
        obtain ⟨hk3, hs3, hi3⟩ := hp
        obtain ⟨hr, hl3, hl4, hk4⟩ := fin none W3 hk3
        exact ⟨_, _, hr, .inl ⟨rfl, hSt _ _ _ hs3 (put _ _), hI _ _ _ hi3 ((put _ _).mono fun _ _ h => .inr h), hl4, hk4⟩⟩
      | ret =>
        obtain ⟨hk3, hi3⟩ := hp
        obtain ⟨hr, hl3, hl4, hk4⟩ := fin (some .ret) W3 hk3
        exact ⟨_, _, hr, .inr ⟨rfl, .ret, hIx _ _ _ _ hi3 (put _ _), hl4, hk4⟩⟩
      | exit id =>
        obtain ⟨hk3, hi3⟩ := hp
        obtain ⟨hr, hl3, hl4, hk4⟩ := fin (some (.exit id)) W3 hk3
        exact ⟨_, _, hr, .inr ⟨rfl, .exit id, hIx _ _ _ _ hi3 (put _ _), hl4, hk4⟩⟩
      | goto t =>
        obtain ⟨hk3, hi3⟩ := hp
        obtain ⟨hr, hl3, hl4, hk4⟩ := fin (some (.goto t)) W3 hk3
        exact ⟨_, _, hr, .inr ⟨rfl, .goto t, hIx _ _ _ _ hi3 (put _ _), hl4, hk4⟩⟩
      | panic ch => exact hp.elim
      | outgrown => exact hp.elim
    · rintro e W2 ⟨⟨v, rfl⟩, (⟨s, hS, hst, hi, hl, hk⟩ | ⟨s, c, hi, hl, hk⟩)⟩
      · exact ⟨none, _, by have := run_endLoop (P := P) hl (by rw [hrec]; simp); rw [hrec] at this; exact this, hdone _ s _ (Nat.le_refl _) hS (hSt _ _ _ hst (put _ _)) (hI _ _ _ hi ((put _ _).mono fun _ _ h => .inr h)) ((World.putObj_heap_other (by omega)).trans hk)⟩
      · exact ⟨some c, _, by have := run_endLoop (P := P) hl (by rw [hrec]; simp); rw [hrec] at this; exact this, hstop _ c s _ (Nat.le_refl _) (hIx _ _ _ _ hi (put _ _)) ((World.putObj_heap_other (by omega)).trans hk)⟩

theorem wpIn_rangeFunc_T2 {σ α : Type} {g : Operand} {ps : Array Tmp} {assign body : Code} {Q : Exit → Act → World → Prop} {a : Act} {w : World}
    (hro : F.round = none) (h1 : 1 ≤ n) {gf : Nat} {lb : Array Value} (hg : a.eval g = .func (.func gf) #[] lb) (hFg : F.fn gf) (eg : ∀ args w, (callFunc gf args).run P w = .ok (.enter gf args) w)
    {encs : α → Array Value} {S : Nat → Prop} {St : σ → World → Prop} {step : σ → α → σ → Prop} {stop : σ → Prop} (hseq : SeqT F (n - 1) P gf lb encs S St step stop)
    (hps : ∀ x, (encs x).size = ps.size) (hSw : ∀ k, S k → k < w.heap.size)
    (hSt : ∀ s A B, St s A → Fr (fun k => w.heap.size ≤ k) A B → St s B)
    (I : σ → World → Prop) (Ix : Code → σ → World → Prop)
    (hI : ∀ s A B, I s A → Fr (fun k => S k ∨ w.heap.size ≤ k) A B → I s B) (hIx : ∀ c s A B, Ix c s A → Fr (fun k => w.heap.size ≤ k) A B → Ix c s B)
    (s0 : σ) (h0 : St s0 w) (h0' : I s0 w)
    (h : ∃ a₁ : α → Act, (∀ (l : Nat) (x : α) (W : World) (K : Act → World → Prop), K (a₁ x) W →
      assign.wpIn (F.inRound l) (n - 1 - 1) P (Exit.then K (fun _ _ _ => False)) { tmps := (ps.zip (encs x)).foldl (fun t (p, v) => t.setIfInBounds p v) a.tmps, defers := [] } W) ∧
      ∀ (l : Nat) (s : σ) (x : α) (s' : σ) (W : World), step s x s' → St s' W → I s W → body.wpIn (F.inRound l) (n - 1 - 1) P (postT w.heap.size St I Ix s' W) (a₁ x) W)
    (hdone : ∀ (D : Nat) (s : σ) (W : World), w.heap.size ≤ D → stop s → St s W → I s W → W.heap[D]? = some (.deferred (some [])) → Q .normal { a with defers := { target := .collected D, args := #[] } :: a.defers } W)
    (hstop : ∀ (D : Nat) (c : Code) (s : σ) (W : World), w.heap.size ≤ D → Ix c s W → W.heap[D]? = some (.deferred (some [])) → c.wpIn F n P Q { a with defers := { target := .collected D, args := #[] } :: a.defers } W) :
    (Code.rangeFunc g ps assign body).wpIn F n P Q a w := by
  obtain ⟨a₁, ha, hb⟩ := h
  exact wpIn_rangeFunc_T hro h1 hg hFg eg hseq hps hSw hSt I Ix hI hIx s0 h0 h0' a₁ ha hb hdone hstop

end Go.Proofs.Ytiakgffanplmdaa

/- A region that draws its order, walked along one plan: what yields the same in every world that meets S may be taken as soon as it is ready; all else must come up alone. -/
import Derived.OrdersHeld
import Derived.Tactics2
import Derived.KernelRfl
namespace Go.Proofs.YtknjhmaldnjhbaaDoor
section
variable {P : Program} {ops : Array Oper} {Q : Exit → Act → World → Prop} {S : World → Prop}

/-- Does a plan fit the region's edges? A row: the operation's number; is it taken first. -/
def planOK (ops : Array Oper) : List (Nat × Bool) → Array Bool → Bool
  | [], listed => Region.ready .any ops listed == []
  | (i, true) :: rest, listed => (Region.ready .any ops listed).contains i && Region.free .any ops listed i && planOK ops rest (listed.setIfInBounds i true)
  | (i, false) :: rest, listed => Region.ready .any ops listed == [i] && planOK ops rest (listed.setIfInBounds i true)

/-- The plan's operations, written out. -/
def planOps (ops : Array Oper) : List (Nat × Bool) → List (Oper × Bool)
  | [] => []
  | (i, b) :: rest => match ops[i]? with
    | some o => (o, b) :: planOps ops rest
    | none => planOps ops rest

/-- The walk along a plan. -/
def wpPlan (P : Program) (ops : Array Oper) (Q : Exit → Act → World → Prop) (S : World → Prop) : List (Oper × Bool) → Act → World → Prop
  | [], a, w => Q .normal a w
  | (o, true) :: rest, a, w => ∃ v, YieldsIf P ops S o v a ∧ wpPlan P ops Q S rest (a.put o.dst v) w
  | (o, false) :: rest, a, w => if Region.wanted o (yielded ops a.tmps) then o.wp P a w (fun a' w' => S w' ∧ wpPlan P ops Q S rest a' w') Q else wpPlan P ops Q S rest (a.put o.dst undef) w

theorem wpAnyH_plan (hs : Region.noSelect ops = true) (hQ : ∀ c a d v w, Q (.panic c) (Act.put a d v) w → Q (.panic c) a w) :
    ∀ (plan : List (Nat × Bool)) (fuel : Nat) (listed : Array Bool) (a : Act) (w : World), plan.length ≤ fuel → planOK ops plan listed = true → S w → wpPlan P ops Q S (planOps ops plan) a w → wpAnyH P .any ops Q S fuel listed a w := by
  intro plan
  induction plan with
  | nil =>
    intro fuel listed a w _ hB _ h
    exact wpAnyH_done (by simpa [planOK] using hB) h fuel
  | cons x rest ih =>
    obtain ⟨i, b⟩ := x
    intro fuel listed a w hf hB hS h
    obtain ⟨fuel, rfl⟩ : ∃ f, fuel = f + 1 := ⟨fuel - 1, by simp at hf; omega⟩
    have hf' : rest.length ≤ fuel := by simpa using hf
    have hr : i ∈ Region.ready .any ops listed := by
      cases b <;> simp [planOK] at hB
      · rw [hB.1]; simp
      · exact hB.1.1
    obtain ⟨_, o, ho, _⟩ := mem_ready.1 hr
    simp only [planOps, ho] at h
    cases b with
    | true =>
      simp only [planOK, Bool.and_eq_true] at hB
      obtain ⟨v, hy, h'⟩ := h
      exact wpAnyH_take ho hs hB.1.2 hB.1.1 (fun c a w => hQ c a o.dst v w) hy hS (ih fuel _ _ _ hf' hB.2 hS h')
    | false =>
      simp only [planOK, Bool.and_eq_true, beq_iff_eq] at hB
      refine wpAnyH_all hB.1 (by simp) fun j hj => ?_
      obtain rfl : j = i := by simpa using hj
      unfold wpOp
      simp only [ho]
      simp only [wpPlan] at h
      split
      · rename_i hw
        rw [if_pos hw] at h
        exact .inl (Oper.wp_mono (fun a' w' h1 => ⟨h1.1, ih fuel _ _ _ hf' hB.2 h1.1 h1.2⟩) h)
      · rename_i hw
        rw [if_neg hw] at h
        exact ⟨hS, ih fuel _ _ _ hf' hB.2 hS h⟩

/-- Q, but nothing that ends in a panic. -/
def Calm (Q : Exit → Act → World → Prop) : Exit → Act → World → Prop
  | .panic _, _, _ => False
  | e, a, w => Q e a w

theorem Calm.imp : ∀ (e : Exit) (a : Act) (w : World), Calm Q e a w → Q e a w := fun e a w h => by
  cases e <;> first | exact h | exact (h : False).elim

theorem wp_plan {id : Nat} {a : Act} {w : World} (S : World → Prop) (plan : List (Nat × Bool)) (L : List (Oper × Bool)) (hm : P.follows .mixedOrders = true)
    (hB : (Region.noSelect ops && plan.length ≤ ops.size && planOK ops plan (Array.replicate ops.size false)) = true) (hL : planOps ops plan = L)
    (hS : S w.drew) (h : wpPlan P ops (Calm Q) S L a w.drew) : (Code.region id ops true).wp P Q a w := by
  subst hL
  simp only [Bool.and_eq_true, decide_eq_true_eq] at hB
  exact Code.wp_mono Calm.imp (wp_region_any hm (wpAny_of_held _ _ _ _ (wpAnyH_plan hB.1.1 (fun _ _ _ _ _ h => h) plan _ _ a w.drew hB.1.2 hB.2 hS h)))

theorem plan_nil {a : Act} {w : World} (h : Q .normal a w) : wpPlan P ops (Calm Q) S [] a w := h

theorem plan_take {o : Oper} {rest : List (Oper × Bool)} {a : Act} {w : World} {v : Value} (hw : Region.wanted o (yielded ops a.tmps) = true)
    (hy : ∀ w', S w' → (execOp a.eval o).run P w' = .ok (.value v) w') (h : wpPlan P ops Q S rest (a.put o.dst v) w) : wpPlan P ops Q S ((o, true) :: rest) a w :=
  ⟨v, .inl ⟨hw, hy⟩, h⟩

theorem plan_skip {o : Oper} {b : Bool} {rest : List (Oper × Bool)} {a : Act} {w : World} (hw : Region.wanted o (yielded ops a.tmps) = false)
    (h : wpPlan P ops Q S rest (a.put o.dst undef) w) : wpPlan P ops Q S ((o, b) :: rest) a w := by
  cases b
  · simp only [wpPlan, hw]; exact h
  · exact ⟨undef, .inr ⟨hw, rfl⟩, h⟩

theorem plan_do {o : Oper} {rest : List (Oper × Bool)} {a : Act} {w : World} (hw : Region.wanted o (yielded ops a.tmps) = true)
    (h : ∀ K : Act → World → Prop, (∀ a w, S w → wpPlan P ops Q S rest a w → K a w) → o.wp P a w K Q) : wpPlan P ops Q S ((o, false) :: rest) a w := by
  simp only [wpPlan, hw, if_true]
  exact h _ fun a w h1 h2 => ⟨h1, h2⟩
end
end Go.Proofs.YtknjhmaldnjhbaaDoor

/- A region that draws its order, walked along a plan with forks: where several operations may come up, each is walked. -/
import Derived.OrdersHeld
import Derived.Tactics2
import Derived.KernelRfl
import Derived.Test.YtiakgffanplmdaaO
namespace Go.Proofs.Ytiakgffanplmdaa
section
variable {P : Program} {ops : Array Oper} {Q : Exit → Act → World → Prop} {S : World → Prop}

/-- take i: first of all. alt i p q: i comes up, then p; or one of q's comes up. -/
inductive Plan where
  | stop
  | take (i : Nat) (p : Plan)
  | alt (i : Nat) (p q : Plan)

def forkOK (ops : Array Oper) : Plan → Nat → Array Bool → List Nat → Bool
  | .stop, _, listed, acc => Region.ready .any ops listed == acc
  | .take _ _, 0, _, _ => false
  | .take i p, fuel + 1, listed, acc => acc == [] && (Region.ready .any ops listed).contains i && Region.free .any ops listed i && forkOK ops p fuel (listed.setIfInBounds i true) []
  | .alt _ _ _, 0, _, _ => false
  | .alt i p q, fuel + 1, listed, acc => (Region.ready .any ops listed).contains i && forkOK ops p fuel (listed.setIfInBounds i true) [] && forkOK ops q (fuel + 1) listed (acc ++ [i])

def wpFork (P : Program) (ops : Array Oper) (Q : Exit → Act → World → Prop) (S : World → Prop) : Plan → Bool → Act → World → Prop
  | .stop, false, a, w => Q .normal a w
  | .stop, true, _, _ => True
  | .take i p, _, a, w => ∃ o v, ops[i]? = some o ∧ YieldsIf P ops S o v a ∧ wpFork P ops Q S p false (a.put o.dst v) w
  | .alt i p q, _, a, w => wpOp P ops Q i (fun a' w' => S w' ∧ wpFork P ops Q S p false a' w') a w ∧ wpFork P ops Q S q true a w

theorem wpOp_mono {i : Nat} {K K' : Act → World → Prop} {a : Act} {w : World} (hK : ∀ a w, K a w → K' a w) (h : wpOp P ops Q i K a w) : wpOp P ops Q i K' a w := by
  unfold wpOp at *
  cases ho : ops[i]? with
  | none =>
    simp only [ho] at h ⊢
    exact hK _ _ h
  | some o =>
    simp only [ho] at h ⊢
    split
    · rename_i hw
      simp only [hw, if_true] at h
      rcases h with h | h
      · exact .inl (Oper.wp_mono (fun a' w' h1 => hK _ _ h1) h)
      · exact .inr h
    · rename_i hw
      simp only [hw] at h
      exact hK _ _ h

theorem wpAnyH_fork (hs : Region.noSelect ops = true) (hQ : ∀ c a d v w, Q (.panic c) (Act.put a d v) w → Q (.panic c) a w) :
    ∀ (plan : Plan) (fuel : Nat) (listed : Array Bool) (acc : List Nat) (a : Act) (w : World), forkOK ops plan fuel listed acc = true → S w →
      wpFork P ops Q S plan (acc != []) a w →
      (∀ j ∈ acc, ∃ f, fuel = f + 1 ∧ wpOp P ops Q j (fun a' w' => S w' ∧ wpAnyH P .any ops Q S f (listed.setIfInBounds j true) a' w') a w) →
      wpAnyH P .any ops Q S fuel listed a w := by
  intro plan
  induction plan with
  | stop =>
    intro fuel listed acc a w hB hS h hacc
    simp only [forkOK, beq_iff_eq] at hB
    cases acc with
    | nil => exact wpAnyH_done hB h fuel
    | cons i rest =>
      obtain ⟨f, hf, _⟩ := hacc i (by simp)
      subst hf
      refine wpAnyH_all hB (by simp) fun j hj => ?_
      obtain ⟨f', hf', h'⟩ := hacc j hj
      obtain rfl : f' = f := by omega
      exact h'
  | take i p ih =>
    intro fuel listed acc a w hB hS h hacc
    cases fuel with
    | zero => simp [forkOK] at hB
    | succ fuel =>
      simp only [forkOK, Bool.and_eq_true, beq_iff_eq] at hB
      obtain ⟨⟨⟨rfl, h1⟩, h2⟩, h3⟩ := hB
      obtain ⟨o, v, ho, hy, h'⟩ := h
      exact wpAnyH_take ho hs h2 h1 (fun c a w => hQ c a o.dst v w) hy hS (ih fuel _ [] _ _ h3 hS h' (by simp))
  | alt i p q ihp ihq =>
    intro fuel listed acc a w hB hS h hacc
    cases fuel with
    | zero => simp [forkOK] at hB
    | succ fuel =>
      simp only [forkOK, Bool.and_eq_true] at hB
      obtain ⟨⟨h1, h2⟩, h3⟩ := hB
      obtain ⟨h4, h5⟩ := h
      refine ihq (fuel + 1) listed (acc ++ [i]) a w h3 hS (by rw [show (acc ++ [i] != []) = true by simp]; exact h5) fun j hj => ?_
      rcases List.mem_append.1 hj with hj | hj
      · exact hacc j hj
      · obtain rfl : j = i := by simpa using hj
        exact ⟨fuel, rfl, wpOp_mono (fun a' w' h6 => ⟨h6.1, ihp fuel _ [] _ _ h2 h6.1 h6.2 (by simp)⟩) h4⟩

theorem wp_fork {id : Nat} {a : Act} {w : World} (S : World → Prop) (plan : Plan) (hm : P.follows .mixedOrders = true)
    (hB : (Region.noSelect ops && forkOK ops plan ops.size (Array.replicate ops.size false) []) = true)
    (hS : S w.drew) (h : wpFork P ops (Calm Q) S plan false a w.drew) : (Code.region id ops true).wp P Q a w := by
  simp only [Bool.and_eq_true] at hB
  exact Code.wp_mono Calm.imp (wp_region_any hm (wpAny_of_held _ _ _ _ (wpAnyH_fork hB.1 (fun _ _ _ _ _ h => h) plan _ _ [] a w.drew hB.2 hS h (by simp))))

theorem fork_nil {a : Act} {w : World} (h : Q .normal a w) : wpFork P ops (Calm Q) S .stop false a w := h
theorem fork_end {a : Act} {w : World} : wpFork P ops (Calm Q) S .stop true a w := trivial

theorem fork_take {i : Nat} {p : Plan} {b : Bool} {o : Oper} {a : Act} {w : World} {v : Value} (ho : ops[i]? = some o) (hw : Region.wanted o (yielded ops a.tmps) = true)
    (hy : ∀ w', S w' → (execOp a.eval o).run P w' = .ok (.value v) w') (h : wpFork P ops Q S p false (a.put o.dst v) w) : wpFork P ops Q S (.take i p) b a w :=
  ⟨o, v, ho, .inl ⟨hw, hy⟩, h⟩

theorem fork_skip {i : Nat} {p : Plan} {b : Bool} {o : Oper} {a : Act} {w : World} (ho : ops[i]? = some o) (hw : Region.wanted o (yielded ops a.tmps) = false)
    (h : wpFork P ops Q S p false (a.put o.dst undef) w) : wpFork P ops Q S (.take i p) b a w :=
  ⟨o, undef, ho, .inr ⟨hw, rfl⟩, h⟩

theorem fork_do {i : Nat} {p q : Plan} {b : Bool} {o : Oper} {a : Act} {w : World} (ho : ops[i]? = some o) (hw : Region.wanted o (yielded ops a.tmps) = true)
    (h : ∀ K : Act → World → Prop, (∀ a w, S w → wpFork P ops Q S p false a w → K a w) → o.wp P a w K Q) (hq : wpFork P ops Q S q true a w) : wpFork P ops Q S (.alt i p q) b a w := by
  refine ⟨?_, hq⟩
  unfold wpOp
  simp only [ho, hw, if_true]
  exact .inl (h _ fun a w h1 h2 => ⟨h1, h2⟩)

theorem fork_do_skip {i : Nat} {p q : Plan} {b : Bool} {o : Oper} {a : Act} {w : World} (ho : ops[i]? = some o) (hw : Region.wanted o (yielded ops a.tmps) = false) (hS : S w)
    (h : wpFork P ops Q S p false (a.put o.dst undef) w) (hq : wpFork P ops Q S q true a w) : wpFork P ops Q S (.alt i p q) b a w := by
  refine ⟨?_, hq⟩
  unfold wpOp
  simp only [ho, hw]
  exact ⟨hS, h⟩
end
end Go.Proofs.Ytiakgffanplmdaa

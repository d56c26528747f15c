/- LoserEven: its plain part: what comes out of the tree stands in order behind what came before. -/
import Derived.Test.YtiakgffanplmdaaRunT
namespace Go.Proofs.Ytiakgffanplmdaa.T
open Go.RowKit Go.Deep

def Behind (was x : Th) : Prop := was.1 ≤ x.1 ∧ (x.1 = was.1 → was.2.1 < x.2.1 ∨ x.2.1 = was.2.1 ∧ was.2.2 < x.2.2)

/-- Lists whose numbers rise, and that know their source and their places. -/
structure Fine (ls : Nat → List Th) (n : Nat) : Prop where
  src : ∀ j, j < n → ∀ (k : Nat) x, (ls j)[k]? = some x → x.2.1 = j ∧ x.2.2 = k ∧ 0 ≤ x.1
  rise : ∀ j, j < n → ∀ (k : Nat) x y, (ls j)[k]? = some x → (ls j)[k + 1]? = some y → x.1 ≤ y.1

def Inv (ls : Nat → List Th) (n : Nat) (at_ : Nat → Nat) (was : Th) : Prop := ∀ j, j < n → ∀ x, (ls j)[at_ j]? = some x → Behind was x

theorem inv_start (ls : Nat → List Th) (n : Nat) (F : Fine ls n) : Inv ls n (fun _ => 0) (-1, 0, 0) := fun j hj x hx => by
  have := F.src j hj 0 x hx
  exact ⟨show (-1 : Int) ≤ _ by omega, fun h => by have h : x.1 = -1 := h; omega⟩

theorem peek_some (D : Src) (n : Nat) (at_ : Nat → Nat) (j : Nat) (hj : j < n) (x : Th) (hx : (D.ls j)[at_ j]? = some x) : peek D n at_ j = (x, true) := by
  unfold peek gives
  rw [if_pos hj]
  obtain ⟨h1, h2⟩ := List.getElem?_eq_some_iff.1 hx
  rw [dif_pos h1, h2]

theorem peek_live (D : Src) (n : Nat) (at_ : Nat → Nat) (j : Nat) (hj : (peek D n at_ j).2 = true) : ∃ x, (D.ls j)[at_ j]? = some x := by
  unfold peek gives at hj
  split at hj
  · split at hj
    · rename_i h; exact ⟨_, List.getElem?_eq_getElem h⟩
    · cases hj
  · cases hj

theorem inv_step (D : Src) (n : Nat) (at_ : Nat → Nat) (was : Th) (F : Fine D.ls n) (I : Inv D.ls n at_ was) (hL : liveN (hn (peek D n at_)) n ≠ 0) :
    ∃ f x, win (hn (peek D n at_)) n 1 = f ∧ f < n ∧ (D.ls f)[at_ f]? = some x ∧ (peek D n at_ f).1 = x ∧ x.2.1 = f ∧ Behind was x ∧ Inv D.ls n (more at_ f) x := by
  obtain ⟨h1, h2, h3⟩ := win_live (hn (peek D n at_)) n hL
  have hr := (win_root (hn (peek D n at_)) n h1).2
  obtain ⟨f, hf⟩ : ∃ f, win (hn (peek D n at_)) n 1 = f := ⟨_, rfl⟩
  rw [hf] at h2 h3 hr
  obtain ⟨x, hx⟩ := peek_live D n at_ f h3
  have hpx := peek_some D n at_ f h2 x hx
  have hsx := F.src f h2 _ x hx
  refine ⟨f, x, hf, h2, hx, by rw [hpx], hsx.1, I f h2 x hx, fun j hj y hy => ?_⟩
  by_cases e : j = f
  · subst e
    unfold more at hy
    rw [if_pos rfl] at hy
    have hs := F.src j hj _ y hy
    exact ⟨F.rise j hj _ x y hx hy, fun _ => .inr ⟨by rw [hs.1, hsx.1], by rw [hs.2.1, hsx.2.1]; omega⟩⟩
  · unfold more at hy
    rw [if_neg e] at hy
    have hs := F.src j hj _ y hy
    have hpy := peek_some D n at_ j hj y hy
    have ha := hr j hj
    have e1 : hn (peek D n at_) f = (x.1, true) := by unfold hn; rw [hpx]
    have e2 : hn (peek D n at_) j = (y.1, true) := by unfold hn; rw [hpy]
    unfold ahead at ha
    rw [e1, e2] at ha
    simp only [bne_self_eq_false, Bool.false_eq_true, if_false, Bool.true_and, decide_eq_true_eq] at ha
    by_cases l1 : x.1 < y.1
    · exact ⟨by omega, fun h => by omega⟩
    · rw [if_neg l1] at ha
      by_cases l2 : y.1 < x.1
      · rw [if_pos l2] at ha; cases ha
      · rw [if_neg l2] at ha
        have ha : f ≤ j := by simpa using ha
        exact ⟨by omega, fun _ => .inl (by rw [hs.1, hsx.1]; omega)⟩

/-- A sum over the first n. -/
def sumN (q : Nat → Nat) : Nat → Nat
  | 0 => 0
  | n + 1 => sumN q n + q n

theorem sumN_le {q q' : Nat → Nat} : ∀ n, (∀ j, j < n → q j ≤ q' j) → sumN q n ≤ sumN q' n
  | 0, _ => Nat.le_refl _
  | n + 1, h => by have := sumN_le n (fun j hj => h j (by omega)); have := h n (by omega); rw [sumN, sumN]; omega

theorem sumN_congr {q q' : Nat → Nat} : ∀ n, (∀ j, j < n → q j = q' j) → sumN q n = sumN q' n
  | 0, _ => rfl
  | n + 1, h => by rw [sumN, sumN, sumN_congr n (fun j hj => h j (by omega)), h n (by omega)]

theorem sumN_zero : ∀ n, sumN (fun _ => 0) n = 0
  | 0 => rfl
  | n + 1 => by rw [sumN, sumN_zero n]

theorem sumN_more (q : Nat → Nat) (f : Nat) : ∀ n, sumN (more q f) n = sumN q n + if f < n then 1 else 0
  | 0 => by simp [sumN]
  | n + 1 => by
    rw [sumN, sumN, sumN_more q f n]
    unfold more
    by_cases e : n = f
    · subst e; rw [if_neg (by omega), if_pos rfl, if_pos (by omega)]; omega
    · rw [if_neg e]
      by_cases h : f < n
      · rw [if_pos h, if_pos (by omega)]; omega
      · rw [if_neg h, if_neg (by omega)]; omega

theorem live_of_lt (D : Src) (n : Nat) (at_ : Nat → Nat) (h : sumN at_ n < sumN (fun j => (D.ls j).length) n) : liveN (hn (peek D n at_)) n ≠ 0 := by
  have : ∃ j, j < n ∧ at_ j < (D.ls j).length := by
    refine Classical.byContradiction fun hc => ?_
    have := sumN_le (q := fun j => (D.ls j).length) (q' := at_) n (fun j hj => by
      refine Nat.le_of_not_lt fun hh => hc ⟨j, hj, hh⟩)
    omega
  obtain ⟨j, hj, hl⟩ := this
  refine least_some_live (hn (peek D n at_)) n j hj ?_
  have := peek_some D n at_ j hj _ (List.getElem?_eq_getElem hl)
  unfold hn
  rw [this]
where
  least_some_live (h : Nat → Int × Bool) : ∀ n j, j < n → (h j).2 = true → liveN h n ≠ 0
    | 0, j, hj, _ => by omega
    | n + 1, j, hj, h1 => by
      rw [liveN]
      by_cases e : j = n
      · subst e; rw [if_pos h1]; omega
      · have := least_some_live h n j (by omega) h1; omega

theorem sum_at {q q' : Nat → Nat} : ∀ n, (∀ j, j < n → q j ≤ q' j) → sumN q' n ≤ sumN q n → ∀ j, j < n → q j = q' j
  | 0, _, _, j, hj => by omega
  | n + 1, h, hs, j, hj => by
    have h1 := sumN_le n (fun j hj => h j (show j < n + 1 by omega))
    have h2 := h n (by omega)
    rw [sumN, sumN] at hs
    by_cases e : j = n
    · subst e; omega
    · exact sum_at n (fun j hj => h j (by omega)) (by omega) j (by omega)

theorem dead_of_eq (D : Src) (n : Nat) (at_ : Nat → Nat) (hle : ∀ j, j < n → at_ j ≤ (D.ls j).length) (h : sumN (fun j => (D.ls j).length) n ≤ sumN at_ n) : liveN (hn (peek D n at_)) n = 0 := by
  refine Classical.byContradiction fun hc => ?_
  obtain ⟨j, hj, hl⟩ := live_some _ _ hc
  obtain ⟨x, hx⟩ := peek_live D n at_ j hl
  have := sum_at n hle h j hj
  have := (List.getElem?_eq_some_iff.1 hx).1
  omega

end Go.Proofs.Ytiakgffanplmdaa.T

/- LoserRises: its plain part: sources that rise; what is still to come, counted; a map that counts. -/
import Derived.Test.YtiakgffanplmdaaRun
import Derived.Maps.OwnIn
import Derived.Maps.Views
namespace Go.Proofs.Ytiakgffanplmdaa
open Go.RowKit Go.Deep

/-- A sum over the first n. -/
def sumN (q : Nat → Nat) : Nat → Nat
  | 0 => 0
  | n + 1 => sumN q n + q n

theorem sumN_le {q q' : Nat → Nat} : ∀ n, (∀ j, j < n → q j ≤ q' j) → sumN q n ≤ sumN q' n
  | 0, _ => Nat.le_refl _
  | n + 1, h => by have := sumN_le n (fun j hj => h j (by omega)); have := h n (by omega); rw [sumN, sumN]; omega

theorem sumN_congr {q q' : Nat → Nat} : ∀ n, (∀ j, j < n → q j = q' j) → sumN q n = sumN q' n
  | 0, _ => rfl
  | n + 1, h => by rw [sumN, sumN, sumN_congr n (fun j hj => h j (by omega)), h n (by omega)]

theorem sumN_const (c : Nat) : ∀ n, sumN (fun _ => c) n = c * n
  | 0 => rfl
  | n + 1 => by rw [sumN, sumN_const c n]; rfl

theorem sumN_add (q r : Nat → Nat) : ∀ n, sumN (fun j => q j + r j) n = sumN q n + sumN r n
  | 0 => rfl
  | n + 1 => by rw [sumN, sumN, sumN, sumN_add q r n]; omega

theorem sumN_single (f c : Nat) : ∀ n, sumN (fun j => if j = f then c else 0) n = if f < n then c else 0
  | 0 => by simp [sumN]
  | n + 1 => by
    rw [sumN, sumN_single f c n]
    by_cases e : n = f
    · subst e; simp
    · rw [if_neg e]
      by_cases h : f < n
      · rw [if_pos h, if_pos (by omega)]; omega
      · rw [if_neg h, if_neg (by omega)]

theorem sumN_more (q : Nat → Nat) (f n : Nat) : sumN (more q f) n = sumN q n + if f < n then 1 else 0 := by
  rw [← sumN_single f 1 n, ← sumN_add]
  refine sumN_congr n fun j _ => ?_
  unfold more
  split <;> rfl

theorem sumN_mem {q : Nat → Nat} : ∀ {n f}, f < n → q f ≤ sumN q n
  | 0, f, h => by omega
  | n + 1, f, h => by
    rw [sumN]
    by_cases e : f = n
    · subst e; omega
    · have := sumN_mem (q := q) (n := n) (f := f) (by omega); omega

theorem counted_sum (q : Nat → Nat) : ∀ n, counted (fun _ => 0) q n 0 = sumN q n
  | 0 => rfl
  | n + 1 => by rw [counted, counted_sum q n, sumN]; simp

theorem asked_sum (at_ : Nat → Nat) (n : Nat) : sumN (fun j => at_ j + 1) n = n + sumN at_ n := by
  rw [sumN_add at_ (fun _ => 1), sumN_const]; omega

theorem peek_some (D : Src) (n : Nat) (at_ : Nat → Nat) (j : Nat) (hj : j < n) (x : Int) (hx : (D.ls j)[at_ j]? = some x) : peek D n at_ j = (x, true) := by
  unfold peek gives
  rw [if_pos hj]
  obtain ⟨h1, h2⟩ := List.getElem?_eq_some_iff.1 hx
  rw [dif_pos h1, h2]

theorem peek_live (D : Src) (n : Nat) (at_ : Nat → Nat) (j : Nat) (hj : (peek D n at_ j).2 = true) : ∃ x, (D.ls j)[at_ j]? = some x := by
  unfold peek gives at hj
  split at hj
  · split at hj
    · rename_i h; exact ⟨_, List.getElem?_eq_getElem h⟩
    · cases hj
  · cases hj

theorem live_ne (h : Nat → Int × Bool) : ∀ n j, j < n → (h j).2 = true → liveN h n ≠ 0
  | 0, j, hj, _ => by omega
  | n + 1, j, hj, h1 => by
    rw [liveN]
    by_cases e : j = n
    · subst e; rw [if_pos h1]; omega
    · have := live_ne h n j (by omega) h1; omega

theorem live_of_lt (D : Src) (n : Nat) (at_ : Nat → Nat) (h : sumN at_ n < sumN (fun j => (D.ls j).length) n) : liveN (peek D n at_) n ≠ 0 := by
  have : ∃ j, j < n ∧ at_ j < (D.ls j).length := by
    refine Classical.byContradiction fun hc => ?_
    have := sumN_le (q := fun j => (D.ls j).length) (q' := at_) n (fun j hj => by
      refine Nat.le_of_not_lt fun hh => hc ⟨j, hj, hh⟩)
    omega
  obtain ⟨j, hj, hl⟩ := this
  refine live_ne _ n j hj ?_
  rw [peek_some D n at_ j hj _ (List.getElem?_eq_getElem hl)]

theorem sum_at {q q' : Nat → Nat} : ∀ n, (∀ j, j < n → q j ≤ q' j) → sumN q' n ≤ sumN q n → ∀ j, j < n → q j = q' j
  | 0, _, _, j, hj => by omega
  | n + 1, h, hs, j, hj => by
    have h1 := sumN_le n (fun j hj => h j (show j < n + 1 by omega))
    have h2 := h n (by omega)
    rw [sumN, sumN] at hs
    by_cases e : j = n
    · subst e; omega
    · exact sum_at n (fun j hj => h j (by omega)) (by omega) j (by omega)

theorem dead_of_eq (D : Src) (n : Nat) (at_ : Nat → Nat) (hle : ∀ j, j < n → at_ j ≤ (D.ls j).length) (h : sumN (fun j => (D.ls j).length) n ≤ sumN at_ n) : liveN (peek D n at_) n = 0 := by
  refine Classical.byContradiction fun hc => ?_
  obtain ⟨j, hj, hl⟩ := live_some _ _ hc
  obtain ⟨x, hx⟩ := peek_live D n at_ j hl
  have := sum_at n hle h j hj
  have := (List.getElem?_eq_some_iff.1 hx).1
  omega

theorem all_of_dead (D : Src) (n : Nat) (at_ : Nat → Nat) (hle : ∀ j, j < n → at_ j ≤ (D.ls j).length) (h0 : liveN (peek D n at_) n = 0) : sumN at_ n = sumN (fun j => (D.ls j).length) n := by
  refine sumN_congr n fun j hj => ?_
  have := hle j hj
  refine Classical.byContradiction fun hc => ?_
  refine live_ne _ n j hj ?_ h0
  rw [peek_some D n at_ j hj _ (List.getElem?_eq_getElem (show at_ j < (D.ls j).length by omega))]

/-- Numbers from nought on, that rise. -/
def Rise (l : List Int) (m : Int) : Prop := (∀ (k : Nat) x, l[k]? = some x → 0 ≤ x ∧ x ≤ m) ∧ ∀ (k : Nat) x y, l[k]? = some x → l[k + 1]? = some y → x ≤ y

theorem rise_nil : Rise [] 0 := ⟨fun k x h => by simp at h, fun k x y h => by simp at h⟩

theorem rise_snoc {l : List Int} {m r : Int} (h : Rise l m) (hm : 0 ≤ m) (hr : 0 ≤ r) : Rise (l ++ [m + r]) (m + r) := by
  refine ⟨fun k x hx => ?_, fun k x y hx hy => ?_⟩
  · rw [List.getElem?_append] at hx
    split at hx
    · have := h.1 k x hx
      omega
    · rename_i hk
      have := (List.getElem?_eq_some_iff.1 hx).1
      simp at this
      rw [show k - l.length = 0 by omega] at hx
      simp at hx
      omega
  · rw [List.getElem?_append] at hx hy
    split at hx
    · split at hy
      · exact h.2 k x y hx hy
      · have := h.1 k x hx
        have := (List.getElem?_eq_some_iff.1 hy).1
        simp at this
        rw [show k + 1 - l.length = 0 by omega] at hy
        simp at hy
        omega
    · have := (List.getElem?_eq_some_iff.1 hx).1
      simp at this
      rw [if_neg (by omega)] at hy
      have := (List.getElem?_eq_some_iff.1 hy).1
      simp at this
      omega

/-- How often v is still to come. -/
def remN (ls : Nat → List Int) (at_ : Nat → Nat) (n : Nat) (v : Int) : Nat := sumN (fun j => ((ls j).drop (at_ j)).count v) n

theorem remN_more (ls : Nat → List Int) (at_ : Nat → Nat) (n f : Nat) (x : Int) (hf : f < n) (hx : (ls f)[at_ f]? = some x) (v : Int) : remN ls at_ n v = remN ls (more at_ f) n v + if x = v then 1 else 0 := by
  have e : (if x = v then 1 else 0) = sumN (fun j => if j = f then (if x = v then 1 else 0) else 0) n := by rw [sumN_single, if_pos hf]
  rw [e]
  unfold remN
  rw [← sumN_add]
  refine sumN_congr n fun j _ => ?_
  by_cases h : j = f
  · subst h
    obtain ⟨h1, h2⟩ := List.getElem?_eq_some_iff.1 hx
    rw [if_pos rfl, List.drop_eq_getElem_cons h1, h2, List.count_cons]
    unfold more
    rw [if_pos rfl]
    simp
  · rw [if_neg h]
    unfold more
    rw [if_neg h]
    rfl

/-- The heads stand at was or beyond. -/
def Past (ls : Nat → List Int) (n : Nat) (at_ : Nat → Nat) (was : Int) : Prop := ∀ j, j < n → ∀ x, (ls j)[at_ j]? = some x → was ≤ x

/-- The tree gives x and comes from at_ to at_'. -/
def Step (D : Src) (n : Nat) (at_ : Nat → Nat) (x : Int) (at_' : Nat → Nat) : Prop :=
  ∃ f, win (peek D n at_) n 1 = f ∧ f < n ∧ (D.ls f)[at_ f]? = some x ∧ (peek D n at_ f).1 = x ∧ at_' = more at_ f ∧ ∀ j, j < n → ahead (peek D n at_) f j = true

theorem step_of_live (D : Src) (n : Nat) (at_ : Nat → Nat) (hL : liveN (peek D n at_) n ≠ 0) : ∃ f x, win (peek D n at_) n 1 = f ∧ (peek D n at_ f).1 = x ∧ Step D n at_ x (more at_ f) := by
  obtain ⟨h1, h2, h3⟩ := win_live (peek D n at_) n hL
  have hr := (win_root (peek D n at_) n h1).2
  obtain ⟨f, hf⟩ : ∃ f, win (peek D n at_) n 1 = f := ⟨_, rfl⟩
  rw [hf] at h2 h3 hr
  obtain ⟨x, hx⟩ := peek_live D n at_ f h3
  have hpx := peek_some D n at_ f h2 x hx
  exact ⟨f, x, hf, by rw [hpx], f, hf, h2, hx, by rw [hpx], rfl, hr⟩

theorem Step.past {D : Src} {n : Nat} {at_ at_' : Nat → Nat} {x was : Int} (S : Step D n at_ x at_') (R : ∀ j, j < n → ∃ m, Rise (D.ls j) m) (I : Past D.ls n at_ was) : was ≤ x ∧ Past D.ls n at_' x := by
  obtain ⟨f, hf, h2, hx, hpx, rfl, hr⟩ := S
  refine ⟨I f h2 x hx, fun j hj y hy => ?_⟩
  by_cases e : j = f
  · subst e
    unfold more at hy
    rw [if_pos rfl] at hy
    obtain ⟨m, hm⟩ := R j hj
    exact hm.2 _ x y hx hy
  · unfold more at hy
    rw [if_neg e] at hy
    have hpy := peek_some D n at_ j hj y hy
    have hpx' := peek_some D n at_ f h2 x hx
    have ha := hr j hj
    unfold ahead at ha
    rw [hpx', hpy] at ha
    simp only [bne_self_eq_false, Bool.false_eq_true, if_false, Bool.true_and, decide_eq_true_eq] at ha
    by_cases l1 : x < y
    · omega
    · rw [if_neg l1] at ha
      by_cases l2 : y < x
      · rw [if_pos l2] at ha; cases ha
      · omega

theorem Step.count {D : Src} {n : Nat} {at_ at_' : Nat → Nat} {x : Int} (S : Step D n at_ x at_') (v : Int) : remN D.ls at_ n v = remN D.ls at_' n v + if x = v then 1 else 0 := by
  obtain ⟨f, hf, h2, hx, hpx, rfl, hr⟩ := S
  exact remN_more D.ls at_ n f x h2 hx v

theorem Step.sum {D : Src} {n : Nat} {at_ at_' : Nat → Nat} {x : Int} (S : Step D n at_ x at_') : sumN at_' n = sumN at_ n + 1 := by
  obtain ⟨f, hf, h2, hx, hpx, rfl, hr⟩ := S
  rw [sumN_more, if_pos h2]

theorem Step.le {D : Src} {n : Nat} {at_ at_' : Nat → Nat} {x : Int} (S : Step D n at_ x at_') (h : ∀ j, j < n → at_ j ≤ (D.ls j).length) : ∀ j, j < n → at_' j ≤ (D.ls j).length := by
  obtain ⟨f, hf, h2, hx, hpx, rfl, hr⟩ := S
  intro j hj
  unfold more
  by_cases e : j = f
  · subst e
    rw [if_pos rfl]
    have := (List.getElem?_eq_some_iff.1 hx).1
    omega
  · rw [if_neg e]; exact h j hj

/-- Block b is a map that counts: v comes c v times. -/
def CountIs (w : World) (b N : Nat) (c : Int → Nat) : Prop :=
  ∃ D : DataW Unit, w.ownsMap Try.prog 3 (plainElem Try.prog 3) b N D ∧ Maps.IsMap D ∧ ∀ v, 0 ≤ v → v ≤ 1000 → D.atKey (.int .i64 v) (.lit (.int .i64 0)) = .lit (.int .i64 (c v : Nat))

theorem CountIs.fr {w w' : World} {S : Nat → Prop} {b N : Nat} {c : Int → Nat} (h : CountIs w b N c) (f : Fr S w w') (hs : ¬ S b) : CountIs w' b N c := by
  obtain ⟨D, ⟨es, ck, h1, h2⟩, h3⟩ := h
  exact ⟨D, ⟨es, ck, f.blk h1 hs, h2⟩, h3⟩

theorem count_new (w : World) : CountIs (w.alloc (.map #[] 0)) w.heap.size 0 (fun _ => 0) :=
  ⟨.map [], World.ownsMap_made _ _ _ _, ⟨[], rfl⟩, fun _ _ _ => rfl⟩

theorem count_put {w : World} {b N : Nat} {D : DataW Unit} {c c' : Int → Nat} {x : Int} {y : Nat} (h0 : 0 ≤ x) (h1 : x ≤ 1000) (hm : Maps.IsMap D) (hc : ∀ v, 0 ≤ v → v ≤ 1000 → D.atKey (.int .i64 v) (.lit (.int .i64 0)) = .lit (.int .i64 (c v : Nat)))
    (h : w.ownsMap Try.prog 3 (plainElem Try.prog 3) b N (D.put (.int .i64 x) (.lit (.int .i64 (y : Nat))))) (hx : c' x = y) (ho : ∀ v, v ≠ x → c' v = c v) : CountIs w b N c' := by
  refine ⟨_, h, hm.put _ _, fun v hv0 hv1 => ?_⟩
  by_cases e : v = x
  · subst e
    rw [Maps.atKey_put_same (k := .int .i64 v) hm trivial, hx]
  · rw [Maps.atKey_put_other (by intro h; cases h; exact e rfl), hc v hv0 hv1, ho v e]

end Go.Proofs.Ytiakgffanplmdaa

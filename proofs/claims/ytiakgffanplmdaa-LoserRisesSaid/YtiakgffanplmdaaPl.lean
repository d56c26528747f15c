/- LoserPlays: its plain part: the least of what is at hand, found by hand. -/
import Derived.Test.YtiakgffanplmdaaRun
namespace Go.Proofs.Ytiakgffanplmdaa
open Go.RowKit Go.Deep

/-- The first least of the first k hands. -/
def leastN (h : Nat → Int × Bool) : Nat → Option Nat
  | 0 => none
  | k + 1 => if (h k).2 then (match leastN h k with | none => some k | some b => if (h k).1 < (h b).1 then some k else some b) else leastN h k

theorem least_none (h : Nat → Int × Bool) : ∀ n, leastN h n = none → liveN h n = 0
  | 0, _ => rfl
  | n + 1, hn => by
    rw [leastN] at hn
    by_cases h1 : (h n).2 = true
    · rw [if_pos h1] at hn
      split at hn
      · cases hn
      · split at hn <;> cases hn
    · rw [if_neg h1] at hn
      rw [liveN, least_none h n hn, if_neg h1]

theorem least_some (h : Nat → Int × Bool) : ∀ n b, leastN h n = some b → b < n ∧ (h b).2 = true ∧ ∀ j, j < n → ahead h b j = true
  | 0, b, hb => by cases hb
  | n + 1, b, hb => by
    rw [leastN] at hb
    by_cases h1 : (h n).2 = true
    · rw [if_pos h1] at hb
      split at hb
      · rename_i h2
        cases hb
        refine ⟨by omega, h1, fun j hj => ?_⟩
        by_cases e : j = n
        · subst e; exact ahead_refl h j
        · have h3 : (h j).2 = false := by
            cases h4 : (h j).2
            · rfl
            · have h5 := least_none h n h2
              exact absurd h5 (liveN_ne h n j (by omega) h4)
          unfold ahead
          rw [h1, h3]
          rfl
      · rename_i c h2
        obtain ⟨c1, c2, c3⟩ := least_some h n c h2
        by_cases h3 : (h n).1 < (h c).1
        · rw [if_pos h3] at hb
          cases hb
          have hnc : ahead h n c = true := by unfold ahead; rw [h1, c2]; simp [h3]
          refine ⟨by omega, h1, fun j hj => ?_⟩
          by_cases e : j = n
          · subst e; exact ahead_refl h j
          · exact ahead_trans h _ _ _ hnc (c3 j (by omega))
        · rw [if_neg h3] at hb
          cases hb
          refine ⟨by omega, c2, fun j hj => ?_⟩
          by_cases e : j = n
          · subst e
            unfold ahead
            rw [h1, c2]
            by_cases h4 : (h b).1 < (h j).1
            · simp [h4]
            · simp [h3, h4]; omega
          · exact c3 j (by omega)
    · rw [if_neg h1] at hb
      obtain ⟨c1, c2, c3⟩ := least_some h n b hb
      refine ⟨by omega, c2, fun j hj => ?_⟩
      by_cases e : j = n
      · subst e
        unfold ahead
        simp [c2, h1]
      · exact c3 j (by omega)
where
  liveN_ne (h : Nat → Int × Bool) : ∀ n j, j < n → (h j).2 = true → liveN h n ≠ 0
    | 0, j, hj, _ => by omega
    | n + 1, j, hj, h1 => by
      rw [liveN]
      by_cases e : j = n
      · subst e; rw [if_pos h1]; omega
      · have := liveN_ne h n j (by omega) h1; omega

theorem least_win (h : Nat → Int × Bool) (n b : Nat) (hb : leastN h n = some b) : win h n 1 = b ∧ b < n ∧ (h b).2 = true ∧ liveN h n ≠ 0 := by
  obtain ⟨h1, h2, h3⟩ := least_some h n b hb
  have hr := win_root h n (by omega)
  exact ⟨ahead_antisymm h _ _ (hr.2 b h1) (h3 _ hr.1), h1, h2, least_some.liveN_ne h n b h1 h2⟩

theorem counted_own (q : Nat → Nat) : ∀ n i, counted (fun j => j) q n i = if i < n then q i else 0
  | 0, i => by simp [counted]
  | n + 1, i => by
    rw [counted, counted_own q n i]
    by_cases e : n = i
    · subst e; simp
    · by_cases h : i < n
      · rw [if_pos h, if_neg e, if_pos (by omega)]; omega
      · rw [if_neg h, if_neg e, if_neg (by omega)]

/-- Lists in memory: a slice of slices of numbers. -/
structure Arg (w : World) (a : Addr) (n : Nat) (A : Nat → Option Addr) (L C : Nat → Nat) (ls : Nat → List Int) : Prop where
  head : ∀ i, i < n → w.cell? (a.add i) = some (.slice (A i) (L i) (C i))
  len : ∀ i, i < n → (ls i).length = L i
  small : ∀ i, i < n → L i ≤ 140737488355328
  nil : ∀ i, i < n → A i = none → L i = 0 ∧ C i = 0
  cell : ∀ i, i < n → ∀ a', A i = some a' → ∀ k x, (ls i)[k]? = some x → w.cell? (a'.add k) = some (.int .i64 x)

end Go.Proofs.Ytiakgffanplmdaa

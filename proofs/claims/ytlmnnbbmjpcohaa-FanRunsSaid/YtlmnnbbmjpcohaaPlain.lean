/- The plain law of the fan: how often groups are made, and how many there are: numbers alone, no program in sight. -/
namespace Go.Proofs.Ytlmnnbbmjpcohaa

/-- How often the groups are made. -/
def pas : Nat → Nat → Nat → Nat
  | 0, _, _ => 0
  | f + 1, n, k => if n ≤ 1 then 0 else 1 + pas f ((n - 1) / k + 1) k

theorem pas_le (f : Nat) : ∀ n k, pas f n k ≤ f := by
  induction f with
  | zero => intro n k; simp [pas]
  | succ f ih =>
    intro n k
    rw [pas]
    split
    · omega
    · have := ih ((n - 1) / k + 1) k
      omega

theorem div_lt' (n k : Nat) (hn : 1 < n) (hk : 2 ≤ k) : (n - 1) / k + 1 < n := by
  have : (n - 1) / k < n - 1 := Nat.div_lt_self (by omega) (by omega)
  omega

/-- One pass: so many groups. -/
theorem step_le (n k m : Nat) (hk : 2 ≤ k) (hn : 1 ≤ n) : (n - 1) / k + 1 ≤ m ↔ n ≤ m * k := by
  constructor
  · intro h
    have h1 : (n - 1) / k < m := by omega
    rw [Nat.div_lt_iff_lt_mul (by omega)] at h1
    omega
  · intro h
    have h1 : (n - 1) / k < m := by
      rw [Nat.div_lt_iff_lt_mul (by omega)]
      omega
    omega

theorem pas_iff (k : Nat) (hk : 2 ≤ k) (f : Nat) : ∀ n p, n ≤ f → (pas f n k ≤ p ↔ n ≤ k ^ p) := by
  induction f with
  | zero =>
    intro n p hn
    have h1 : 0 < k ^ p := Nat.pow_pos (by omega)
    simp [pas]
    omega
  | succ f ih =>
    intro n p hn
    have h1 : 0 < k ^ p := Nat.pow_pos (by omega)
    rw [pas]
    split
    · exact ⟨fun _ => by omega, fun _ => by omega⟩
    · rename_i h
      have hd := div_lt' n k (by omega) hk
      cases p with
      | zero => simp; omega
      | succ p =>
        have h2 := ih ((n - 1) / k + 1) p (by omega)
        rw [step_le n k _ hk (by omega)] at h2
        rw [Nat.pow_succ, ← h2]
        omega

/-- What is left behind so many passes. -/
def lft (k : Nat) : Nat → Nat → Nat
  | 0, n => n
  | p + 1, n => (lft k p n - 1) / k + 1

theorem lft_pos (k n : Nat) (hn : 1 ≤ n) : ∀ p, 1 ≤ lft k p n
  | 0 => hn
  | p + 1 => by simp [lft]

theorem lft_le (k n : Nat) (hk : 2 ≤ k) (hn : 1 ≤ n) : ∀ p m, lft k p n ≤ m ↔ n ≤ m * k ^ p
  | 0, m => by simp [lft]
  | p + 1, m => by
    rw [lft, step_le _ k m hk (lft_pos k n hn p), lft_le k n hk hn p (m * k), Nat.mul_assoc, Nat.pow_succ, Nat.mul_comm k]

theorem lft_bound (k n : Nat) (hk : 2 ≤ k) (hn : 1 ≤ n) : ∀ p, lft k p n ≤ n
  | 0 => Nat.le_refl _
  | p + 1 => by
    have h := lft_bound k n hk hn p
    have h1 := lft_pos k n hn p
    rw [lft]
    by_cases h2 : lft k p n = 1
    · rw [h2]; simp; omega
    · have := div_lt' (lft k p n) k (by omega) hk
      omega

/-- The passes end just where the function says. -/
theorem pas_eq (k n p : Nat) (hk : 2 ≤ k) (hn : 1 ≤ n) (h1 : lft k p n ≤ 1) (h2 : ∀ q, q < p → 1 < lft k q n) : pas n n k = p := by
  have ha : pas n n k ≤ p := (pas_iff k hk n n p (Nat.le_refl _)).2 (by have := (lft_le k n hk hn p 1).1 h1; omega)
  cases p with
  | zero => omega
  | succ p =>
    have hb : ¬ pas n n k ≤ p := fun h => by
      have h3 := (pas_iff k hk n n p (Nat.le_refl _)).1 h
      have h4 := (lft_le k n hk hn p 1).2 (by omega)
      have := h2 p (by omega)
      omega
    omega

/-- Ten passes are enough. -/
theorem lft_nine (k n : Nat) (hk : 2 ≤ k) (hn : 1 ≤ n) (hn2 : n ≤ 300) : lft k 9 n ≤ 1 := by
  rw [lft_le k n hk hn]
  have : 2 ^ 9 ≤ k ^ 9 := Nat.pow_le_pow_left hk 9
  omega

theorem pow_bound (k p : Nat) (hk : k ≤ 20) (hp : p ≤ 10) : k ^ p ≤ 10240000000000 := by
  have h1 : k ^ p ≤ 20 ^ p := Nat.pow_le_pow_left hk p
  have h2 : 20 ^ p ≤ 20 ^ 10 := Nat.pow_le_pow_right (by omega) hp
  omega

/-- Laws of less and more. -/
theorem pas_mono (k n m : Nat) (hk : 2 ≤ k) (h : m ≤ n) : pas m m k ≤ pas n n k := by
  rw [pas_iff k hk m m _ (Nat.le_refl _)]
  have := (pas_iff k hk n n _ (Nat.le_refl _)).1 (Nat.le_refl _)
  omega

theorem pas_anti (k j n : Nat) (hk : 2 ≤ k) (h : k ≤ j) : pas n n j ≤ pas n n k := by
  rw [pas_iff j (by omega) n n _ (Nat.le_refl _)]
  have h1 := (pas_iff k hk n n _ (Nat.le_refl _)).1 (Nat.le_refl _)
  have h2 : k ^ pas n n k ≤ j ^ pas n n k := Nat.pow_le_pow_left h _
  omega

theorem pas_one (k n : Nat) (hk : 2 ≤ k) (h1 : 2 ≤ n) (h2 : n ≤ k) : pas n n k = 1 := by
  have ha : pas n n k ≤ 1 := (pas_iff k hk n n 1 (Nat.le_refl _)).2 (by simpa using h2)
  have hb : ¬ pas n n k ≤ 0 := fun h => by
    have := (pas_iff k hk n n 0 (Nat.le_refl _)).1 h
    simp at this
    omega
  omega

theorem pas_step (k m : Nat) (hk : 2 ≤ k) (hm : 1 < m) : pas m m k = 1 + pas ((m - 1) / k + 1) ((m - 1) / k + 1) k := by
  have hd := div_lt' m k hm hk
  obtain ⟨f, rfl⟩ : ∃ f, m = f + 1 := ⟨m - 1, by omega⟩
  rw [pas, if_neg (by omega)]
  have h1 := pas_iff k hk f ((f + 1 - 1) / k + 1)
  have h2 := pas_iff k hk ((f + 1 - 1) / k + 1) ((f + 1 - 1) / k + 1)
  have h3 : pas f ((f + 1 - 1) / k + 1) k = pas ((f + 1 - 1) / k + 1) ((f + 1 - 1) / k + 1) k := by
    apply Nat.le_antisymm
    · rw [h1 _ (by omega), ← h2 _ (Nat.le_refl _)]
      exact Nat.le_refl _
    · rw [h2 _ (Nat.le_refl _), ← h1 _ (by omega)]
      exact Nat.le_refl _
  rw [h3]

/-- So many groups. -/
def cnt (n k : Nat) : Nat := (n + k - 1) / k

theorem cnt_eq (n k : Nat) (hk : 2 ≤ k) (hn : 1 ≤ n) : cnt n k = (n - 1) / k + 1 := by
  unfold cnt
  rw [show n + k - 1 = (n - 1) + k by omega, Nat.add_div_right _ (by omega)]

theorem cnt_zero (k : Nat) (hk : 2 ≤ k) : cnt 0 k = 0 := by
  unfold cnt
  rw [Nat.div_eq_zero_iff]
  omega

theorem cnt_of (n k c : Nat) (hk : 2 ≤ k) (h1 : c = 0 ∨ (c - 1) * k < n) (h2 : n ≤ c * k) : c = cnt n k := by
  by_cases hn : n = 0
  · subst hn
    rw [cnt_zero k hk]
    rcases h1 with h1 | h1
    · exact h1
    · omega
  · rw [cnt_eq n k hk (by omega)]
    have ha := (step_le n k c hk (by omega)).2 h2
    rcases h1 with h1 | h1
    · subst h1; omega
    · have hb : ¬ ((n - 1) / k + 1 ≤ c - 1) := fun h => by
        have := (step_le n k (c - 1) hk (by omega)).1 h
        omega
      have hc : c ≠ 0 := by intro h; subst h; simp at h2; omega
      omega

/-- The numbers of the first c groups, one behind the other: where each begins, and where the next one would. -/
def nums (n k : Nat) : Nat → List Int
  | 0 => []
  | c + 1 => nums n k c ++ [((c * k : Nat) : Int), ((min ((c + 1) * k) n : Nat) : Int)]

theorem nums_length (n k : Nat) : ∀ c, (nums n k c).length = c * 2
  | 0 => rfl
  | c + 1 => by rw [nums, List.length_append, nums_length n k c]; simp; omega

theorem nums_even (n k : Nat) : ∀ (c i : Nat), i < c → (nums n k c)[2 * i]? = some ((i * k : Nat) : Int)
  | 0, i, h => by omega
  | c + 1, i, h => by
    rw [nums]
    by_cases hi : i < c
    · rw [List.getElem?_append_left (by rw [nums_length]; omega)]
      exact nums_even n k c i hi
    · obtain rfl : i = c := by omega
      rw [List.getElem?_append_right (by rw [nums_length]; omega), nums_length, show 2 * i - i * 2 = 0 by omega]
      rfl

theorem nums_odd (n k : Nat) : ∀ (c i : Nat), i < c → (nums n k c)[2 * i + 1]? = some ((min ((i + 1) * k) n : Nat) : Int)
  | 0, i, h => by omega
  | c + 1, i, h => by
    rw [nums]
    by_cases hi : i < c
    · rw [List.getElem?_append_left (by rw [nums_length]; omega)]
      exact nums_odd n k c i hi
    · obtain rfl : i = c := by omega
      rw [List.getElem?_append_right (by rw [nums_length]; omega), nums_length, show 2 * i + 1 - i * 2 = 1 by omega]
      rfl

end Go.Proofs.Ytlmnnbbmjpcohaa

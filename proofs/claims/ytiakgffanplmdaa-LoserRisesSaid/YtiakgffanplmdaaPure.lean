/- A tournament over sources, as plain mathematics: who wins at each node, what a replay does. No program in sight. -/
namespace Go.Proofs.Ytiakgffanplmdaa

/-- Does hand a go ahead of hand b? First who has something; then the lesser; then the first. -/
def ahead (h : Nat → Int × Bool) (a b : Nat) : Bool :=
  if (h a).2 != (h b).2 then (h a).2
  else if (h a).2 && decide ((h a).1 < (h b).1) then true
  else if (h a).2 && decide ((h b).1 < (h a).1) then false
  else decide (a ≤ b)

theorem ahead_refl (h : Nat → Int × Bool) (a : Nat) : ahead h a a = true := by
  unfold ahead
  simp

theorem ahead_total (h : Nat → Int × Bool) (a b : Nat) (hn : ahead h a b = false) : ahead h b a = true := by
  unfold ahead at *
  cases ha : (h a).2 <;> cases hb : (h b).2 <;> simp [ha, hb] at * <;> omega

theorem ahead_antisymm (h : Nat → Int × Bool) (a b : Nat) (h1 : ahead h a b = true) (h2 : ahead h b a = true) : a = b := by
  unfold ahead at *
  cases ha : (h a).2 <;> cases hb : (h b).2 <;> simp [ha, hb] at * <;> omega

theorem ahead_trans (h : Nat → Int × Bool) (a b c : Nat) (h1 : ahead h a b = true) (h2 : ahead h b c = true) : ahead h a c = true := by
  unfold ahead at *
  cases ha : (h a).2 <;> cases hb : (h b).2 <;> cases hc : (h c).2 <;> simp [ha, hb, hc] at * <;> omega

/-- Who wins, who loses. -/
def best (h : Nat → Int × Bool) (a b : Nat) : Nat := if ahead h a b then a else b
def worst (h : Nat → Int × Bool) (a b : Nat) : Nat := if ahead h a b then b else a

theorem best_comm (h : Nat → Int × Bool) (a b : Nat) : best h a b = best h b a := by
  unfold best
  cases h1 : ahead h a b <;> cases h2 : ahead h b a
  · have := ahead_total h a b h1; rw [h2] at this; cases this
  · simp
  · simp
  · have := ahead_antisymm h a b h1 h2; simp [this]

theorem worst_comm (h : Nat → Int × Bool) (a b : Nat) : worst h a b = worst h b a := by
  unfold worst
  cases h1 : ahead h a b <;> cases h2 : ahead h b a
  · have := ahead_total h a b h1; rw [h2] at this; cases this
  · simp
  · simp
  · have := ahead_antisymm h a b h1 h2; simp [this]

theorem best_or (h : Nat → Int × Bool) (a b : Nat) : (best h a b = a ∧ worst h a b = b) ∨ (best h a b = b ∧ worst h a b = a) := by
  unfold best worst
  split <;> simp

theorem best_true (h : Nat → Int × Bool) (a b : Nat) (hn : ahead h a b = true) : best h a b = a := by unfold best; rw [if_pos hn]
theorem worst_true (h : Nat → Int × Bool) (a b : Nat) (hn : ahead h a b = true) : worst h a b = b := by unfold worst; rw [if_pos hn]
theorem best_false (h : Nat → Int × Bool) (a b : Nat) (hn : ahead h a b = false) : best h a b = b := by unfold best; rw [hn]; rfl
theorem worst_false (h : Nat → Int × Bool) (a b : Nat) (hn : ahead h a b = false) : worst h a b = a := by unfold worst; rw [hn]; rfl
theorem best_tie (h : Nat → Int × Bool) (a b : Nat) (hn : ahead h a b = decide (a ≤ b)) : best h a b = min a b ∧ worst h a b = max a b := by
  unfold best worst
  rw [hn]
  by_cases h1 : a ≤ b
  · simp [h1]
  · simp [h1]; omega

theorem best_ahead (h : Nat → Int × Bool) (a b : Nat) : ahead h (best h a b) a = true ∧ ahead h (best h a b) b = true := by
  unfold best
  cases h1 : ahead h a b
  · simp [ahead_refl, ahead_total h a b h1]
  · simp [ahead_refl, h1]

/-- The winner at a node of the tree over n leaves (leaf j is node n + j); d: as deep as is looked. -/
def winD (h : Nat → Int × Bool) (n : Nat) : Nat → Nat → Nat
  | 0, i => i - n
  | d + 1, i => if n ≤ i then i - n else best h (winD h n d (2 * i)) (winD h n d (2 * i + 1))

theorem winD_deep (h : Nat → Int × Bool) (n : Nat) : ∀ d e i, 1 ≤ i → 2 * n ≤ i + d → 2 * n ≤ i + e → i < 2 * n → winD h n d i = winD h n e i
  | 0, 0, _, _, _, _, _ => rfl
  | 0, e + 1, i, _, h1, _, h3 => by omega
  | d + 1, 0, i, _, _, h2, h3 => by omega
  | d + 1, e + 1, i, h0, h1, h2, h3 => by
    rw [winD, winD]
    split
    · rfl
    · rename_i hn
      rw [winD_deep h n d e (2 * i) (by omega) (by omega) (by omega) (by omega), winD_deep h n d e (2 * i + 1) (by omega) (by omega) (by omega) (by omega)]

/-- The winner at a node. -/
def win (h : Nat → Int × Bool) (n i : Nat) : Nat := winD h n (2 * n) i

theorem win_leaf (h : Nat → Int × Bool) (n i : Nat) (hi : n ≤ i) : win h n i = i - n := by
  unfold win
  cases hn : 2 * n with
  | zero => rfl
  | succ d => rw [winD, if_pos hi]

theorem win_node (h : Nat → Int × Bool) (n i : Nat) (h0 : 1 ≤ i) (hi : i < n) : win h n i = best h (win h n (2 * i)) (win h n (2 * i + 1)) := by
  unfold win
  obtain ⟨d, hd⟩ : ∃ d, 2 * n = d + 1 := ⟨2 * n - 1, by omega⟩
  rw [winD_deep h n (2 * n) (d + 1) i h0 (by omega) (by omega) (by omega), winD, if_neg (by omega),
    winD_deep h n d (2 * n) (2 * i) (by omega) (by omega) (by omega) (by omega), winD_deep h n d (2 * n) (2 * i + 1) (by omega) (by omega) (by omega) (by omega)]

/-- Node i is leaf f's, or above it. -/
def over (n f i : Nat) : Prop := ∃ k, (n + f) / 2 ^ k = i

theorem over_leaf (n f : Nat) : over n f (n + f) := ⟨0, by simp⟩

theorem over_up (n f i : Nat) (h : over n f i) : over n f (i / 2) := by
  obtain ⟨k, hk⟩ := h
  exact ⟨k + 1, by rw [Nat.pow_succ, ← Nat.div_div_eq_div_mul, hk]⟩

theorem over_child (n f i : Nat) (hi : i < n) (_h0 : 1 ≤ i) (h : over n f i) : over n f (2 * i) ∨ over n f (2 * i + 1) := by
  obtain ⟨k, hk⟩ := h
  cases k with
  | zero => simp at hk; omega
  | succ k =>
    rw [Nat.pow_succ, ← Nat.div_div_eq_div_mul] at hk
    rcases Nat.mod_two_eq_zero_or_one ((n + f) / 2 ^ k) with h2 | h2
    · exact .inl ⟨k, by omega⟩
    · exact .inr ⟨k, by omega⟩

theorem over_at_leaf (n f i : Nat) (hf : f < n) (hi : n ≤ i) (h : over n f i) : i = n + f := by
  obtain ⟨k, hk⟩ := h
  cases k with
  | zero => simp at hk; omega
  | succ k =>
    have h1 : (n + f) / 2 ^ (k + 1) ≤ (n + f) / 2 := by
      rw [Nat.pow_succ, Nat.mul_comm, ← Nat.div_div_eq_div_mul]
      exact Nat.div_le_self _ _
    omega

theorem over_pow (n f a b i : Nat) (hab : a < b) (ha : (n + f) / 2 ^ a = i) (hb : (n + f) / 2 ^ b = i) : i = 0 := by
  obtain ⟨d, rfl⟩ : ∃ d, b = a + (d + 1) := ⟨b - a - 1, by omega⟩
  rw [Nat.pow_add, ← Nat.div_div_eq_div_mul, ha, Nat.pow_succ] at hb
  have h1 : i / (2 ^ d * 2) ≤ i / 2 := Nat.div_le_div_left (by have := Nat.pow_pos (n := d) (show 0 < 2 by omega); omega) (by omega)
  omega

/-- A leaf lies under one child alone. -/
theorem over_one (n f i : Nat) (h1 : over n f (2 * i)) (h2 : over n f (2 * i + 1)) (h0 : 1 ≤ i) : False := by
  obtain ⟨a, ha⟩ := h1
  obtain ⟨b, hb⟩ := h2
  have ha' : (n + f) / 2 ^ (a + 1) = i := by rw [Nat.pow_succ, ← Nat.div_div_eq_div_mul, ha]; omega
  have hb' : (n + f) / 2 ^ (b + 1) = i := by rw [Nat.pow_succ, ← Nat.div_div_eq_div_mul, hb]; omega
  rcases Nat.lt_trichotomy a b with h | h | h
  · have := over_pow n f _ _ i (by omega) ha' hb'; omega
  · subst h; omega
  · have := over_pow n f _ _ i (by omega) hb' ha'; omega

theorem over_root (n f : Nat) (hf : f < n) : over n f 1 := by
  have key : ∀ m i, i ≤ m → 1 ≤ i → over n f i → over n f 1 := by
    intro m
    induction m with
    | zero => intro i h1 h2; omega
    | succ m ih =>
      intro i h1 h2 h
      by_cases h3 : i = 1
      · subst h3; exact h
      · exact ih (i / 2) (by omega) (by omega) (over_up n f i h)
  exact key (n + f) (n + f) (Nat.le_refl _) (by omega) (over_leaf n f)

/-- The winner of a node lies under it, and is ahead of all that do. -/
theorem win_spec (h : Nat → Int × Bool) (n : Nat) : ∀ (d i : Nat), 2 * n ≤ i + d → 1 ≤ i → i < 2 * n → win h n i < n ∧ over n (win h n i) i ∧ ∀ f, f < n → over n f i → ahead h (win h n i) f = true
  | 0, i, h1, _, h3 => by omega
  | d + 1, i, h1, h2, h3 => by
    by_cases hi : n ≤ i
    · rw [win_leaf h n i hi]
      refine ⟨by omega, ⟨0, by simp; omega⟩, fun f hf ho => ?_⟩
      have := over_at_leaf n f i hf hi ho
      rw [show i - n = f by omega]
      exact ahead_refl h f
    · rw [win_node h n i h2 (by omega)]
      obtain ⟨a1, a2, a3⟩ := win_spec h n d (2 * i) (by omega) (by omega) (by omega)
      obtain ⟨b1, b2, b3⟩ := win_spec h n d (2 * i + 1) (by omega) (by omega) (by omega)
      have hb := best_ahead h (win h n (2 * i)) (win h n (2 * i + 1))
      refine ⟨?_, ?_, fun f hf ho => ?_⟩
      · rcases best_or h (win h n (2 * i)) (win h n (2 * i + 1)) with h | h <;> rw [h.1] <;> assumption
      · rcases best_or h (win h n (2 * i)) (win h n (2 * i + 1)) with h | h <;> rw [h.1]
        · have := over_up n _ _ a2; rwa [show 2 * i / 2 = i by omega] at this
        · have := over_up n _ _ b2; rwa [show (2 * i + 1) / 2 = i by omega] at this
      · rcases over_child n f i (by omega) h2 ho with h | h
        · exact ahead_trans _ _ _ _ hb.1 (a3 f hf h)
        · exact ahead_trans _ _ _ _ hb.2 (b3 f hf h)

/-- The winner of all. -/
theorem win_root (h : Nat → Int × Bool) (n : Nat) (hn : 1 ≤ n) : win h n 1 < n ∧ ∀ f, f < n → ahead h (win h n 1) f = true := by
  obtain ⟨h1, _, h3⟩ := win_spec h n (2 * n) 1 (by omega) (by omega) (by omega)
  exact ⟨h1, fun f hf => h3 f hf (over_root n f hf)⟩

/-- On the way from the winner's leaf to the root it wins each node. -/
theorem win_on_path (h : Nat → Int × Bool) (n i : Nat) (hn : 1 ≤ n) (h0 : 1 ≤ i) (hi : i < 2 * n) (ho : over n (win h n 1) i) : win h n i = win h n 1 := by
  obtain ⟨h1, h2, h3⟩ := win_spec h n (2 * n) i (by omega) h0 hi
  have hr := win_root h n hn
  exact ahead_antisymm h _ _ (h3 _ hr.1 ho) (hr.2 _ h1)

theorem ahead_congr (h h' : Nat → Int × Bool) (a b : Nat) (ha : h' a = h a) (hb : h' b = h b) : ahead h' a b = ahead h a b := by
  unfold ahead
  rw [ha, hb]

/-- Off the way nothing turns. -/
theorem win_off_path (h h' : Nat → Int × Bool) (n f : Nat) (hf : f < n) (hh : ∀ j, j ≠ f → h' j = h j) : ∀ (d i : Nat), 2 * n ≤ i + d → 1 ≤ i → i < 2 * n → ¬ over n f i → win h' n i = win h n i
  | 0, i, h1, _, h3, _ => by omega
  | d + 1, i, h1, h2, h3, ho => by
    by_cases hi : n ≤ i
    · rw [win_leaf h n i hi, win_leaf h' n i hi]
    · have o1 : ¬ over n f (2 * i) := fun h => ho (by have := over_up n f _ h; rwa [show 2 * i / 2 = i by omega] at this)
      have o2 : ¬ over n f (2 * i + 1) := fun h => ho (by have := over_up n f _ h; rwa [show (2 * i + 1) / 2 = i by omega] at this)
      have e1 := win_off_path h h' n f hf hh d (2 * i) (by omega) (by omega) (by omega) o1
      have e2 := win_off_path h h' n f hf hh d (2 * i + 1) (by omega) (by omega) (by omega) o2
      have s1 := win_spec h n (2 * n) (2 * i) (by omega) (by omega) (by omega)
      have s2 := win_spec h n (2 * n) (2 * i + 1) (by omega) (by omega) (by omega)
      rw [win_node h n i h2 (by omega), win_node h' n i h2 (by omega), e1, e2]
      have n1 : win h n (2 * i) ≠ f := fun e => o1 (by rw [← e]; exact s1.2.1)
      have n2 : win h n (2 * i + 1) ≠ f := fun e => o2 (by rw [← e]; exact s2.2.1)
      unfold best
      rw [ahead_congr h h' _ _ (hh _ n1) (hh _ n2)]

/-- What the tree keeps: at each inner node who lost there; at 0 who won. -/
def Kept (h : Nat → Int × Bool) (n : Nat) (lost : Nat → Nat) : Prop :=
  lost 0 = win h n 1 ∧ ∀ i, 1 ≤ i → i < n → lost i = worst h (win h n (2 * i)) (win h n (2 * i + 1))

/-- The replay, half way: node c on the winner's way has been reached, all below it is right again. -/
structure Replay (h h' : Nat → Int × Bool) (n f c : Nat) (lost : Nat → Nat) : Prop where
  on : over n f c
  pos : 1 ≤ c
  lt : c < 2 * n
  right : ∀ i, 1 ≤ i → i < n → (over n f i → i < c ∧ ¬ c ≤ i) → over n f i → lost i = worst h (win h n (2 * i)) (win h n (2 * i + 1))
  done : ∀ i, 1 ≤ i → i < n → (over n f i → c ≤ i) → lost i = worst h' (win h' n (2 * i)) (win h' n (2 * i + 1))

theorem over_lt (n f a b : Nat) (ha : over n f a) (hb : over n f b) (hlt : a < b) (_h0 : 1 ≤ a) : a ≤ b / 2 := by
  obtain ⟨j, hj⟩ := ha
  obtain ⟨k, hk⟩ := hb
  rcases Nat.lt_or_ge k j with h | h
  · obtain ⟨d, rfl⟩ : ∃ d, j = k + (d + 1) := ⟨j - k - 1, by omega⟩
    rw [Nat.pow_add, ← Nat.div_div_eq_div_mul, hk, Nat.pow_succ] at hj
    have h1 : b / (2 ^ d * 2) ≤ b / 2 := Nat.div_le_div_left (by have := Nat.pow_pos (n := d) (show 0 < 2 by omega); omega) (by omega)
    omega
  · exfalso
    obtain ⟨d, rfl⟩ : ∃ d, k = j + d := ⟨k - j, by omega⟩
    rw [Nat.pow_add, ← Nat.div_div_eq_div_mul, hj] at hk
    have := Nat.div_le_self a (2 ^ d)
    omega

theorem replay_start (h h' : Nat → Int × Bool) (n f : Nat) (lost : Nat → Nat) (hf : f < n) (hh : ∀ j, j ≠ f → h' j = h j) (hk : Kept h n lost) : Replay h h' n f (n + f) lost := by
  refine ⟨over_leaf n f, by omega, by omega, fun i h1 h2 _ _ => hk.2 i h1 h2, fun i h1 h2 h3 => ?_⟩
  have ho : ¬ over n f i := fun h => by have := h3 h; omega
  have o1 : ¬ over n f (2 * i) := fun h => ho (by have := over_up n f _ h; rwa [show 2 * i / 2 = i by omega] at this)
  have o2 : ¬ over n f (2 * i + 1) := fun h => ho (by have := over_up n f _ h; rwa [show (2 * i + 1) / 2 = i by omega] at this)
  have s1 := win_spec h n (2 * n) (2 * i) (by omega) (by omega) (by omega)
  have s2 := win_spec h n (2 * n) (2 * i + 1) (by omega) (by omega) (by omega)
  have n1 : win h n (2 * i) ≠ f := fun e => o1 (by rw [← e]; exact s1.2.1)
  have n2 : win h n (2 * i + 1) ≠ f := fun e => o2 (by rw [← e]; exact s2.2.1)
  rw [hk.2 i h1 h2, win_off_path h h' n f hf hh (2 * n) _ (by omega) (by omega) (by omega) o1, win_off_path h h' n f hf hh (2 * n) _ (by omega) (by omega) (by omega) o2]
  unfold worst
  rw [ahead_congr h h' _ _ (hh _ n1) (hh _ n2)]

/-- One round: node c / 2: what stood there plays against the winner of c. -/
theorem replay_step (h h' : Nat → Int × Bool) (n f c : Nat) (lost : Nat → Nat) (hn : 1 ≤ n) (hf : f = win h n 1) (hh : ∀ j, j ≠ f → h' j = h j) (hr : Replay h h' n f c lost) (hc : 2 ≤ c) :
    best h' (win h' n c) (lost (c / 2)) = win h' n (c / 2) ∧ Replay h h' n f (c / 2) (fun i => if i = c / 2 then worst h' (win h' n c) (lost (c / 2)) else lost i) := by
  have hfn : f < n := by rw [hf]; exact (win_root h n hn).1
  have ho := over_up n f c hr.on
  have hp : 1 ≤ c / 2 := by omega
  have hl : c / 2 < n := by have := hr.lt; omega
  have h1 := hr.right (c / 2) hp hl (fun _ => by omega) ho
  -- the sibling
  have hsib : ∃ s, (c = 2 * (c / 2) ∧ s = 2 * (c / 2) + 1 ∨ c = 2 * (c / 2) + 1 ∧ s = 2 * (c / 2)) := by
    rcases Nat.mod_two_eq_zero_or_one c with h2 | h2
    · exact ⟨2 * (c / 2) + 1, .inl ⟨by omega, rfl⟩⟩
    · exact ⟨2 * (c / 2), .inr ⟨by omega, rfl⟩⟩
  obtain ⟨s, hs⟩ := hsib
  have hos : ¬ over n f s := fun h => by
    rcases hs with ⟨h3, h4⟩ | ⟨h3, h4⟩
    · exact over_one n f (c / 2) (by rw [← h3]; exact hr.on) (by rw [← h4]; exact h) hp
    · exact over_one n f (c / 2) (by rw [← h4]; exact h) (by rw [← h3]; exact hr.on) hp
  have hs2 : 1 ≤ s ∧ s < 2 * n := by rcases hs with ⟨h3, h4⟩ | ⟨h3, h4⟩ <;> omega
  have hwc : win h n c = f := by rw [hf]; exact win_on_path h n c hn hr.pos hr.lt (by rw [← hf]; exact hr.on)
  have hws := win_off_path h h' n f hfn hh (2 * n) s (by omega) hs2.1 hs2.2 hos
  -- who lost at c / 2 is the sibling's winner
  have hl2 : lost (c / 2) = win h' n s := by
    rw [hws, h1]
    have hpar := win_on_path h n (c / 2) hn hp (by omega) (by rw [← hf]; exact ho)
    rw [win_node h n _ hp hl, ← hf] at hpar
    have hne : win h n s ≠ f := fun e => hos (by have := (win_spec h n (2 * n) s (by omega) hs2.1 hs2.2).2.1; rwa [e] at this)
    rcases hs with ⟨h3, h4⟩ | ⟨h3, h4⟩
    · rw [← h4, ← h3] at hpar ⊢
      rw [hwc] at hpar ⊢
      rcases best_or h f (win h n s) with hb | hb
      · exact hb.2
      · rw [hb.1] at hpar; exact absurd hpar hne
    · rw [← h3, ← h4] at hpar ⊢
      rw [hwc] at hpar ⊢
      rcases best_or h (win h n s) f with hb | hb
      · rw [hb.1] at hpar; exact absurd hpar hne
      · exact hb.2
  have hbest : best h' (win h' n c) (win h' n s) = win h' n (c / 2) := by
    rw [win_node h' n _ hp hl]
    rcases hs with ⟨h3, h4⟩ | ⟨h3, h4⟩
    · rw [← h4, ← h3]
    · rw [← h3, ← h4, best_comm]
  have hworst : worst h' (win h' n c) (win h' n s) = worst h' (win h' n (2 * (c / 2))) (win h' n (2 * (c / 2) + 1)) := by
    rcases hs with ⟨h3, h4⟩ | ⟨h3, h4⟩
    · rw [← h4, ← h3]
    · rw [← h3, ← h4, worst_comm]
  rw [hl2]
  refine ⟨hbest, ho, hp, by omega, fun i i1 i2 i3 i4 => ?_, fun i i1 i2 i3 => ?_⟩
  · have := i3 i4
    rw [if_neg (by omega)]
    exact hr.right i i1 i2 (fun h => by have := i3 h; omega) i4
  · by_cases e : i = c / 2
    · rw [if_pos e, e]; exact hworst
    · rw [if_neg e]
      refine hr.done i i1 i2 fun h => ?_
      have h5 := i3 h
      rcases Nat.lt_or_ge i c with h6 | h6
      · have := over_lt n f i c h hr.on h6 i1; omega
      · exact h6

theorem replay_end (h h' : Nat → Int × Bool) (n f : Nat) (lost : Nat → Nat) (hr : Replay h h' n f 1 lost) : Kept h' n (fun i => if i = 0 then win h' n 1 else lost i) := by
  refine ⟨by simp, fun i h1 h2 => ?_⟩
  show (if i = 0 then win h' n 1 else lost i) = _
  rw [if_neg (by omega)]
  exact hr.done i h1 h2 (fun _ => h1)

end Go.Proofs.Ytiakgffanplmdaa

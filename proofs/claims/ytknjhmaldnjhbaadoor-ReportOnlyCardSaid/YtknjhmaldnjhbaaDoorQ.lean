/- Pure laws on texts of few rows: their bytes, their length, their lines' ends, their beginnings. -/
import Derived.Test.YtknjhmaldnjhbaaDoorF
namespace Go.Proofs.YtknjhmaldnjhbaaDoor
open Go.Lib

theorem few_I64 {X : List (List Int)} (h : ∀ r ∈ X, ∀ n ∈ r, I64 n) : ∀ r ∈ fewT X, ∀ n ∈ r, I64 n := by
  intro r hr n hn
  unfold fewT at hr
  obtain ⟨s, hs, rfl⟩ := List.mem_map.1 hr
  exact h s (List.mem_of_mem_take hs) n (List.mem_of_mem_take hn)

theorem few_len (X : List (List Int)) : (fewT X).length ≤ 8 := by
  unfold fewT
  rw [List.length_map, List.length_take]
  omega

theorem few_row (X : List (List Int)) : ∀ r ∈ fewT X, r.length ≤ 6 := by
  intro r hr
  unfold fewT at hr
  obtain ⟨s, hs, rfl⟩ := List.mem_map.1 hr
  rw [List.length_take]
  omega

theorem tailT_len : ∀ (r : List Int), (∀ n ∈ r, I64 n) → (tailT r).length ≤ 22 * r.length
  | [], _ => Nat.le_refl _
  | n :: r, h => by
    have h1 := tailT_len r fun m hm => h m (List.mem_cons_of_mem _ hm)
    have h2 := h n (List.mem_cons_self ..)
    have h3 := Lib.itoa_length_le n h2.1 h2.2
    have e : tailT (n :: r) = (32 :: itoa n) ++ tailT r := by simp [tailT]
    rw [e, List.length_append, List.length_cons, List.length_cons]
    omega

theorem rowT_len (r : List Int) (h : ∀ n ∈ r, I64 n) : (rowT r).length ≤ 22 * r.length := by
  cases r with
  | nil => exact Nat.le_refl _
  | cons n r =>
    have h1 := tailT_len r fun m hm => h m (List.mem_cons_of_mem _ hm)
    have h2 := h n (List.mem_cons_self ..)
    have h3 := Lib.itoa_length_le n h2.1 h2.2
    show (itoa n ++ tailT r).length ≤ _
    rw [List.length_append, List.length_cons]
    omega

theorem text_len : ∀ (x : List (List Int)), (∀ r ∈ x, ∀ n ∈ r, I64 n) → (∀ r ∈ x, r.length ≤ 6) → (text x).length ≤ 133 * x.length
  | [], _, _ => Nat.le_refl _
  | r :: x, h, k => by
    have h1 := text_len x (fun s hs => h s (List.mem_cons_of_mem _ hs)) (fun s hs => k s (List.mem_cons_of_mem _ hs))
    have h2 := rowT_len r (h r (List.mem_cons_self ..))
    have h3 := k r (List.mem_cons_self ..)
    rw [text_cons, List.length_append, List.length_cons, List.length_cons]
    omega

theorem few_text {X : List (List Int)} (h : ∀ r ∈ X, ∀ n ∈ r, I64 n) : (text (fewT X)).length ≤ 1064 := by
  have h1 := text_len (fewT X) (few_I64 h) (few_row X)
  have h2 := few_len X
  omega

theorem text_count : ∀ (x : List (List Int)), (text x).count 10 = x.length
  | [] => rfl
  | r :: x => by
    rw [text_cons, List.count_append, List.count_eq_zero.2 (rowT_no r), List.count_cons_self, text_count x]
    simp

theorem itoa_ascii (n : Int) : ∀ c ∈ itoa n, c.toNat < 128 := fun c hc => by
  have := itoa_mem n c hc
  unfold isD at this
  omega

theorem tailT_ascii (r : List Int) : ∀ c ∈ tailT r, c.toNat < 128 := fun c hc => by
  unfold tailT at hc
  obtain ⟨n, _, h⟩ := List.mem_flatMap.1 hc
  rcases List.mem_cons.1 h with rfl | h
  · decide
  · exact itoa_ascii n c h

theorem text_ascii (x : List (List Int)) : ∀ c ∈ text x, c.toNat < 128 := fun c hc => by
  unfold text at hc
  obtain ⟨r, _, h⟩ := List.mem_flatMap.1 hc
  rcases List.mem_append.1 h with h | h
  · cases r with
    | nil => cases h
    | cons n r =>
      rcases List.mem_append.1 h with h | h
      · exact itoa_ascii n c h
      · exact tailT_ascii r c h
  · obtain rfl : c = 10 := by simpa using h
    decide

theorem count_step (l : List UInt8) (k : Nat) {c : UInt8} (h : l[k]? = some c) : (l.take (k + 1)).count 10 = (l.take k).count 10 + if c = 10 then 1 else 0 := by
  rw [List.take_add_one, h, Option.toList_some, List.count_append, List.count_singleton]
  simp

/-- Two lists of rows have one text just if they are the same. -/
theorem text_inj {x y : List (List Int)} (hx : ∀ r ∈ x, ∀ n ∈ r, I64 n) (hy : ∀ r ∈ y, ∀ n ∈ r, I64 n) : text x = text y ↔ x = y := by
  refine ⟨fun h => ?_, fun h => by rw [h]⟩
  have h1 := rows_text hx
  rw [h, rows_text hy] at h1
  exact (Option.some.inj h1).symm

/-- What ends at a line's end is some of the rows. -/
theorem text_front : ∀ (x : List (List Int)) (k : Nat), (text x)[k]? = some 10 → ∃ y, (text x).take (k + 1) = text y ∧ ∀ r ∈ y, r ∈ x
  | [], k, h => by simp [text] at h
  | r :: x, k, h => by
    rw [text_cons] at h ⊢
    by_cases h1 : k < (rowT r).length
    · rw [List.getElem?_append_left h1] at h
      exact absurd (List.mem_of_getElem? h) (rowT_no r)
    · rw [List.getElem?_append_right (by omega)] at h
      obtain ⟨j, hj⟩ : ∃ j, k = (rowT r).length + j := ⟨k - (rowT r).length, by omega⟩
      subst hj
      rw [Nat.add_sub_cancel_left] at h
      have e : (rowT r ++ 10 :: text x).take ((rowT r).length + j + 1) = rowT r ++ 10 :: (text x).take j := by
        rw [Nat.add_assoc, List.take_append, List.take_of_length_le (by omega), Nat.add_sub_cancel_left]
        rfl
      cases j with
      | zero => exact ⟨[r], by rw [e]; simp [text], fun s hs => by simpa using .inl (by simpa using hs)⟩
      | succ j =>
        rw [List.getElem?_cons_succ] at h
        obtain ⟨y, h2, h3⟩ := text_front x j h
        refine ⟨r :: y, by rw [e, h2, text_cons], fun s hs => ?_⟩
        rcases List.mem_cons.1 hs with rfl | hs
        · exact List.mem_cons_self ..
        · exact List.mem_cons_of_mem _ (h3 s hs)

theorem text_last : ∀ (x : List (List Int)), x ≠ [] → (text x).getLast? = some 10
  | [], h => absurd rfl h
  | [r], _ => by simp [text]
  | r :: s :: x, _ => by
    have h := text_last (s :: x) (by simp)
    rw [text_cons, List.getLast?_append, List.getLast?_cons, h]
    rfl

/-- A beginning can be read just if it is empty or ends at a line's end. -/
theorem front_reads {x : List (List Int)} (hx : ∀ r ∈ x, ∀ n ∈ r, I64 n) (k : Nat) (hk : k ≤ (text x).length) : (rows ((text x).take k)).isSome = true ↔ k = 0 ∨ (text x)[k - 1]? = some 10 := by
  constructor
  · intro h
    obtain ⟨z, hz⟩ := Option.isSome_iff_exists.1 h
    obtain ⟨h1, _⟩ := rows_some hz
    by_cases hk0 : k = 0
    · exact .inl hk0
    · right
      have hne : z ≠ [] := fun e => by
        subst e
        have h3 : ([] : List UInt8).length = ((text x).take k).length := congrArg List.length h1
        rw [List.length_take] at h3
        simp only [List.length_nil] at h3
        omega
      have h2 := text_last z hne
      rw [h1, List.getLast?_eq_getElem?, List.length_take, Nat.min_eq_left hk, List.getElem?_take, if_pos (by omega)] at h2
      exact h2
  · rintro (rfl | h)
    · rfl
    · by_cases hk0 : k = 0
      · subst hk0; rfl
      · obtain ⟨y, h1, h2⟩ := text_front x (k - 1) h
        rw [show k - 1 + 1 = k by omega] at h1
        rw [h1, rows_text fun r hr => hx r (h2 r hr)]
        rfl

end Go.Proofs.YtknjhmaldnjhbaaDoor

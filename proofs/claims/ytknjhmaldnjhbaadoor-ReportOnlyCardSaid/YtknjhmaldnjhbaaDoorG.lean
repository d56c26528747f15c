/- Pure: a text of digits, blanks and lines' ends, each blank between numbers, no number beginning with a zero, of at most eighteen digits in all, can be read. -/
import Derived.Test.YtknjhmaldnjhbaaDoorA
namespace Go.Proofs.YtknjhmaldnjhbaaDoor
open Go.Lib

def digB (c : UInt8) : Bool := 48 ≤ c.toNat && c.toNat ≤ 57

theorem digB_iff {c : UInt8} : digB c = true ↔ 48 ≤ c.toNat ∧ c.toNat ≤ 57 := by simp [digB]

/-- Good behind a byte; d: that byte is a digit. -/
def okT : Bool → List UInt8 → Prop
  | _, [] => True
  | d, c :: r => (digB c = true ∧ (c.toNat ≠ 48 ∨ d = true) ∧ okT true r) ∨ (c.toNat = 10 ∧ okT false r) ∨ (c.toNat = 32 ∧ d = true ∧ (∃ e r', r = e :: r' ∧ 49 ≤ e.toNat ∧ e.toNat ≤ 57) ∧ okT false r)

/-- What the program asks at each place. -/
def okA (l : List UInt8) (i : Nat) : Prop :=
  (digB (l.getD i 0) = true ∨ (l.getD i 0).toNat = 10 ∨ ((l.getD i 0).toNat = 32 ∧ 0 < i ∧ i + 1 < l.length ∧ digB (l.getD (i - 1) 0) = true ∧ 49 ≤ (l.getD (i + 1) 0).toNat ∧ (l.getD (i + 1) 0).toNat ≤ 57)) ∧
  ((l.getD i 0).toNat ≠ 48 ∨ (0 < i ∧ digB (l.getD (i - 1) 0) = true))

theorem okT_of (l : List UInt8) (h : ∀ i, i < l.length → okA l i) : ∀ (n i : Nat), l.length - i = n → i ≤ l.length → okT (decide (0 < i) && digB (l.getD (i - 1) 0)) (l.drop i) := by
  intro n
  induction n with
  | zero =>
    intro i hi hil
    rw [List.drop_of_length_le (by omega)]
    trivial
  | succ n ih =>
    intro i hi hil
    have hlt : i < l.length := by omega
    have ih' := ih (i + 1) (by omega) (by omega)
    rw [Nat.add_sub_cancel, decide_eq_true (by omega : 0 < i + 1), Bool.true_and] at ih'
    have hg : l.getD i 0 = l[i] := by simp [List.getD, hlt]
    rw [List.drop_eq_getElem_cons hlt, ← hg]
    obtain ⟨hA, hB⟩ := h i hlt
    rcases hA with hd | h10 | ⟨h32, h0, h1, hp, hn1, hn2⟩
    · refine .inl ⟨hd, ?_, ?_⟩
      · rcases hB with h | ⟨h, k⟩
        · exact .inl h
        · exact .inr (by rw [decide_eq_true h, k]; rfl)
      · rw [hd] at ih'; exact ih'
    · refine .inr (.inl ⟨h10, ?_⟩)
      have : digB (l.getD i 0) = false := by
        rw [Bool.eq_false_iff]
        intro e
        have := digB_iff.1 e
        omega
      rw [this] at ih'
      exact ih'
    · refine .inr (.inr ⟨h32, by rw [decide_eq_true h0, hp]; rfl, ⟨l.getD (i + 1) 0, l.drop (i + 2), ?_, hn1, hn2⟩, ?_⟩)
      · have hg1 : l.getD (i + 1) 0 = l[i + 1] := by simp [List.getD, h1]
        rw [List.drop_eq_getElem_cons h1, hg1]
      · have : digB (l.getD i 0) = false := by
          rw [Bool.eq_false_iff]
          intro e
          have := digB_iff.1 e
          omega
        rw [this] at ih'
        exact ih'

/-- A line's part. -/
theorem okT_line : ∀ (a b : List UInt8) (d : Bool), okT d (a ++ 10 :: b) → (10 : UInt8) ∉ a → okT d a ∧ okT false b
  | [], b, d, h, _ => by
    rcases h with ⟨h, _⟩ | ⟨_, h⟩ | ⟨h, _⟩
    · exact absurd h (by decide)
    · exact ⟨trivial, h⟩
    · exact absurd h (by decide)
  | c :: a, b, d, h, hn => by
    have hc : c ≠ 10 := fun e => hn (by rw [e]; exact List.mem_cons_self ..)
    have hn' : (10 : UInt8) ∉ a := fun e => hn (List.mem_cons_of_mem _ e)
    rcases h with ⟨h1, h2, h3⟩ | ⟨h, _⟩ | ⟨h1, h2, ⟨e, r', h3, h4, h5⟩, h6⟩
    · obtain ⟨k1, k2⟩ := okT_line a b true h3 hn'
      exact ⟨.inl ⟨h1, h2, k1⟩, k2⟩
    · exact absurd (UInt8.toNat_inj.1 (show c.toNat = (10 : UInt8).toNat from h)) hc
    · obtain ⟨k1, k2⟩ := okT_line a b false h6 hn'
      refine ⟨.inr (.inr ⟨h1, h2, ?_, k1⟩), k2⟩
      cases a with
      | nil =>
        have h3 : (10 : UInt8) :: b = e :: r' := h3
        injection h3 with h3 _
        subst h3
        exact absurd h4 (by decide)
      | cons e' a =>
        have h3 : e' :: (a ++ 10 :: b) = e :: r' := h3
        injection h3 with h3 _
        exact ⟨e', a, rfl, by rw [h3]; exact h4, by rw [h3]; exact h5⟩

/-- Digits that begin with no zero are a numeral. -/
theorem dec_of_digits : ∀ (n : Nat) (p : List UInt8), p.length = n → p ≠ [] → (∀ c ∈ p, isD c) → (p.getD 0 0).toNat ≠ 48 → decDigits (val p) = p ∧ val p < 10 ^ p.length
  | 0, p, h, hne, _, _ => absurd (List.eq_nil_of_length_eq_zero h) hne
  | n + 1, p, h, hne, hd, h0 => by
    obtain ⟨q, c, rfl⟩ : ∃ q c, p = q ++ [c] := ⟨p.dropLast, p.getLast hne, (List.dropLast_concat_getLast hne).symm⟩
    have hc := hd c (by simp)
    unfold isD at hc
    have hcn : UInt8.ofNat (48 + (c.toNat - 48)) = c := UInt8.toNat_inj.1 (by rw [dig_toNat (by omega)]; omega)
    rw [val_snoc]
    by_cases hq : q = []
    · subst hq
      have e : 10 * val [] + (c.toNat - 48) = c.toNat - 48 := by simp [val]
      rw [e, decDigits_one (by omega), hcn]
      exact ⟨rfl, by simp; omega⟩
    · have hq0 : (q.getD 0 0).toNat ≠ 48 := by
        cases q with
        | nil => exact absurd rfl hq
        | cons a q => simpa using h0
      obtain ⟨k1, k2⟩ := dec_of_digits n q (by simp at h; exact h) hq (fun c hc => hd c (List.mem_append_left _ hc)) hq0
      have hpos : 0 < val q := by
        rcases Nat.eq_zero_or_pos (val q) with e | e
        · rw [e, decDigits_one (by omega)] at k1
          rw [← k1] at hq0
          exact absurd rfl hq0
        · exact e
      have h10 : ¬ 10 * val q + (c.toNat - 48) < 10 := by omega
      refine ⟨?_, ?_⟩
      · rw [decDigits, dif_neg h10, show (10 * val q + (c.toNat - 48)) / 10 = val q by omega, show (10 * val q + (c.toNat - 48)) % 10 = c.toNat - 48 by omega, k1, hcn]
      · rw [List.length_append, List.length_singleton, Nat.pow_succ]
        omega

theorem canon_digits {p : List UInt8} (hne : p ≠ []) (hd : ∀ c ∈ p, isD c) (h0 : (p.getD 0 0).toNat ≠ 48) (hl : p.length ≤ 18) : ∃ n, canon p = some n := by
  obtain ⟨h1, h2⟩ := dec_of_digits _ p rfl hne hd h0
  have h3 : 10 ^ p.length ≤ 10 ^ 18 := Nat.pow_le_pow_right (by omega) hl
  have h4 : (10 : Nat) ^ 18 = 1000000000000000000 := by decide
  refine ⟨(val p : Nat), ?_⟩
  have hI : I64 (val p : Nat) := by unfold I64; omega
  have := canon_itoa hI
  rw [itoa_pos (by omega)] at this
  rw [show ((val p : Nat) : Int).toNat = val p by omega, h1] at this
  exact this

/-- A word: digits up to a blank or the end. -/
theorem okT_word : ∀ (p q : List UInt8) (d : Bool), okT d (p ++ q) → (32 : UInt8) ∉ p → (10 : UInt8) ∉ p → ∀ c ∈ p, isD c
  | [], _, _, _, _, _ => fun c h => by cases h
  | c :: p, q, d, h, h32, h10 => by
    intro x hx
    have n32 : c ≠ 32 := fun e => h32 (by rw [e]; exact List.mem_cons_self ..)
    have n10 : c ≠ 10 := fun e => h10 (by rw [e]; exact List.mem_cons_self ..)
    rcases h with ⟨h1, _, h3⟩ | ⟨h, _⟩ | ⟨h, _⟩
    · rcases List.mem_cons.1 hx with rfl | hx
      · exact digB_iff.1 h1
      · exact okT_word p q true h3 (fun e => h32 (List.mem_cons_of_mem _ e)) (fun e => h10 (List.mem_cons_of_mem _ e)) x hx
    · exact absurd (UInt8.toNat_inj.1 (show c.toNat = (10 : UInt8).toNat from h)) n10
    · exact absurd (UInt8.toNat_inj.1 (show c.toNat = (32 : UInt8).toNat from h)) n32

theorem okT_rest : ∀ (p q : List UInt8) (d : Bool), okT d (p ++ 32 :: q) → (32 : UInt8) ∉ p → (10 : UInt8) ∉ p → okT false q ∧ ∃ e r', q = e :: r' ∧ 49 ≤ e.toNat ∧ e.toNat ≤ 57
  | [], q, d, h, _, _ => by
    rcases h with ⟨h, _⟩ | ⟨h, _⟩ | ⟨_, _, h1, h2⟩
    · exact absurd h (by decide)
    · exact absurd h (by decide)
    · exact ⟨h2, h1⟩
  | c :: p, q, d, h, h32, h10 => by
    have n32 : c ≠ 32 := fun e => h32 (by rw [e]; exact List.mem_cons_self ..)
    have n10 : c ≠ 10 := fun e => h10 (by rw [e]; exact List.mem_cons_self ..)
    rcases h with ⟨_, _, h3⟩ | ⟨h, _⟩ | ⟨h, _⟩
    · exact okT_rest p q true h3 (fun e => h32 (List.mem_cons_of_mem _ e)) (fun e => h10 (List.mem_cons_of_mem _ e))
    · exact absurd (UInt8.toNat_inj.1 (show c.toNat = (10 : UInt8).toNat from h)) n10
    · exact absurd (UInt8.toNat_inj.1 (show c.toNat = (32 : UInt8).toNat from h)) n32

theorem okT_head {c : UInt8} {r : List UInt8} (h : okT false (c :: r)) (hn : c.toNat ≠ 10) : c.toNat ≠ 48 ∧ digB c = true := by
  rcases h with ⟨h1, h2, _⟩ | ⟨h, _⟩ | ⟨_, h, _⟩
  · exact ⟨h2.resolve_right (by simp), h1⟩
  · exact absurd h hn
  · cases h

theorem len_digits {p : List UInt8} (h : ∀ c ∈ p, isD c) : p.length = p.countP digB := by
  rw [List.countP_eq_length.2 fun c hc => digB_iff.2 (h c hc)]

theorem canons_good : ∀ (n : Nat) (a : List UInt8), a.length = n → okT false a → a ≠ [] → (10 : UInt8) ∉ a → a.countP digB ≤ 18 → ∃ r, canons (pieces 32 a) = some r := by
  intro n
  induction n using Nat.strongRecOn with
  | _ n ih =>
    intro a hn hok hne h10 hc
    by_cases h32 : (32 : UInt8) ∈ a
    · obtain ⟨p, q, hpq, hp⟩ := List.eq_append_cons_of_mem h32
      subst hpq
      have h10p : (10 : UInt8) ∉ p := fun e => h10 (List.mem_append_left _ e)
      obtain ⟨hq, e, r', hqe, he1, he2⟩ := okT_rest p q false hok hp h10p
      have hpd := okT_word p (32 :: q) false hok hp h10p
      have hpne : p ≠ [] := fun e => by
        subst e
        rcases hok with ⟨h, _⟩ | ⟨h, _⟩ | ⟨_, h, _⟩
        · exact absurd h (by decide)
        · exact absurd h (by decide)
        · cases h
      have hh : (p.getD 0 0).toNat ≠ 48 := by
        cases p with
        | nil => exact absurd rfl hpne
        | cons c p =>
          have := okT_head hok (fun e => h10p (by rw [show c = 10 from UInt8.toNat_inj.1 e]; exact List.mem_cons_self ..))
          simpa using this.1
      rw [List.countP_append, ← len_digits hpd, List.countP_cons] at hc
      obtain ⟨m, hm⟩ := canon_digits hpne hpd hh (by omega)
      obtain ⟨r, hr⟩ := ih q.length (by rw [← hn]; simp; omega) q rfl hq (by rw [hqe]; simp) (fun e => h10 (List.mem_append_right _ (List.mem_cons_of_mem _ e))) (by omega)
      refine ⟨m :: r, ?_⟩
      rw [pieces_hit 32 p q hp, canons, hm, hr]
      rfl
    · have hd := okT_word a [] false (by rwa [List.append_nil]) h32 h10
      have hh : (a.getD 0 0).toNat ≠ 48 := by
        cases a with
        | nil => exact absurd rfl hne
        | cons c p =>
          have := okT_head hok (fun e => h10 (by rw [show c = 10 from UInt8.toNat_inj.1 e]; exact List.mem_cons_self ..))
          simpa using this.1
      rw [← len_digits hd] at hc
      obtain ⟨m, hm⟩ := canon_digits hne hd hh hc
      refine ⟨[m], ?_⟩
      rw [pieces_miss 32 a h32, canons, hm]
      rfl

theorem rows_good : ∀ (n : Nat) (l : List UInt8), l.length = n → okT false l → (l = [] ∨ l.getLast? = some 10) → l.countP digB ≤ 18 → ∃ x, rows l = some x := by
  intro n
  induction n using Nat.strongRecOn with
  | _ n ih =>
    intro l hn hok hl hc
    by_cases hl0 : l = []
    · subst hl0
      exact ⟨[], rfl⟩
    · have hl := hl.resolve_left hl0
      have hmem : (10 : UInt8) ∈ l := by
        rw [List.getLast?_eq_some_iff] at hl
        obtain ⟨t, rfl⟩ := hl
        simp
      obtain ⟨a, b, rfl, ha⟩ := List.eq_append_cons_of_mem hmem
      obtain ⟨h1, h2⟩ := okT_line a b false hok ha
      rw [List.countP_append, List.countP_cons] at hc
      obtain ⟨y, hy⟩ := ih b.length (by rw [← hn]; simp; omega) b rfl h2 (by
        by_cases hb : b = []
        · exact .inl hb
        · right
          rw [List.getLast?_append, List.getLast?_cons] at hl
          cases hg : b.getLast? with
          | none => exact absurd (List.getLast?_eq_none_iff.1 hg) hb
          | some z => rw [hg] at hl; simpa using hl) (by omega)
      rw [rows_line a b ha, hy]
      by_cases ha0 : a = []
      · subst ha0
        exact ⟨[] :: y, rfl⟩
      · obtain ⟨r, hr⟩ := canons_good _ a rfl h1 ha0 ha (by omega)
        refine ⟨r :: y, ?_⟩
        have : nums a = some r := by unfold nums; rw [if_neg ha0, hr]
        rw [this]
        rfl

/-- What cannot be read is not good, or has more than eighteen digits. -/
theorem bad_of_none {l : List UInt8} (h : rows l = none) (hl : l = [] ∨ l.getLast? = some 10) (hg : ∀ i, i < l.length → okA l i) : 18 < l.countP digB := by
  rcases Nat.lt_or_ge 18 (l.countP digB) with h1 | h1
  · exact h1
  · have hok := okT_of l hg _ 0 rfl (by omega)
    obtain ⟨x, hx⟩ := rows_good _ l rfl (by simpa using hok) hl h1
    rw [h] at hx
    cases hx

end Go.Proofs.YtknjhmaldnjhbaaDoor

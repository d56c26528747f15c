/- The report's texts as plain lists of bytes: rows written, rows read. No program in sight. -/
import Derived.Lib.AtoiAll
import Derived.Lib.ItoaNum
import Derived.Lib.ItoaLen
import Derived.Lib.Split
import Derived.Lib.SplitLaws
import Derived.Lib.IndexMore
namespace Go.Proofs.YtknjhmaldnjhbaaDoor
open Go.Lib

def I64 (n : Int) : Prop := -9223372036854775808 ≤ n ∧ n ≤ 9223372036854775807

def isD (c : UInt8) : Prop := 48 ≤ c.toNat ∧ c.toNat ≤ 57

theorem dig_toNat {d : Nat} (h : d < 10) : (UInt8.ofNat (48 + d)).toNat = 48 + d := by
  rw [UInt8.toNat_ofNat']
  omega

theorem dec_digits (u : Nat) : ∀ c ∈ decDigits u, isD c := by
  induction u using Nat.strongRecOn with
  | _ u ih =>
    intro c hc
    by_cases h : u < 10
    · rw [decDigits_one h] at hc
      have hc : c = UInt8.ofNat (48 + u) := by simpa using hc
      subst hc
      unfold isD
      rw [dig_toNat h]
      omega
    · rw [decDigits, dif_neg h] at hc
      rcases List.mem_append.1 hc with hc | hc
      · exact ih (u / 10) (by omega) c hc
      · have hc : c = UInt8.ofNat (48 + u % 10) := by simpa using hc
        subst hc
        unfold isD
        rw [dig_toNat (by omega)]
        omega

theorem dec_ne (u : Nat) : decDigits u ≠ [] := by
  intro h
  have h1 := decDigits_length u
  rw [h] at h1
  have := nDigits_pos u
  simp at h1
  omega

theorem parse_snoc : ∀ (l : List UInt8) (acc v : Nat) (d : Nat), d < 10 → parseUint10 acc l = .ok v → v < 1844674407370955162 → v * 10 + d < 18446744073709551616 →
    parseUint10 acc (l ++ [UInt8.ofNat (48 + d)]) = .ok (v * 10 + d)
  | [], acc, v, d, hd, h, h1, h2 => by
    simp only [parseUint10] at h
    injection h with h
    subst h
    have e := dig_toNat hd
    simp only [List.nil_append, parseUint10]
    rw [if_pos (by omega), if_neg (by omega), if_neg (by omega), e]
    exact congrArg _ (by omega)
  | c :: r, acc, v, d, hd, h, h1, h2 => by
    simp only [parseUint10] at h
    simp only [List.cons_append, parseUint10]
    split at h
    · rename_i hc
      rw [if_pos hc]
      split at h
      · cases h
      · rename_i h3
        rw [if_neg h3]
        split at h
        · cases h
        · rename_i h4
          rw [if_neg h4]
          exact parse_snoc r _ v d hd h h1 h2
    · cases h

theorem parse_dec (u : Nat) (hu : u < 18446744073709551616) : parseUint10 0 (decDigits u) = .ok u := by
  induction u using Nat.strongRecOn with
  | _ u ih =>
    by_cases h : u < 10
    · rw [decDigits_one h]
      have := parse_snoc [] 0 0 u h rfl (by omega) (by omega)
      simpa using this
    · rw [decDigits, dif_neg h]
      have := parse_snoc (decDigits (u / 10)) 0 (u / 10) (u % 10) (by omega) (ih (u / 10) (by omega) (by omega)) (by omega) (by omega)
      rw [this]
      exact congrArg _ (by omega)

theorem mag_dec (u : Nat) (hu : u < 18446744073709551616) : parseMag (decDigits u) = .ok u := by
  unfold parseMag
  rw [if_neg (dec_ne u), parse_dec u hu]

theorem itoa_pos {n : Int} (h : 0 ≤ n) : itoa n = decDigits n.toNat := by unfold itoa; rw [if_neg (by omega)]
theorem itoa_negD {n : Int} (h : n < 0) : itoa n = 45 :: decDigits n.natAbs := by unfold itoa; rw [if_pos h]

theorem atoi_itoa (n : Int) (h : I64 n) : atoiAll (itoa n) = .ok n := by
  unfold I64 at h
  by_cases hn : n < 0
  · rw [itoa_negD hn]
    unfold atoiAll
    simp only []
    have e45 : UInt8.toNat 45 = 45 := rfl
    rw [if_pos (Or.inr e45), mag_dec _ (by omega)]
    simp only []
    rw [if_neg (fun h => h.1 e45), if_neg (by omega), if_pos e45]
    exact congrArg _ (by omega)
  · rw [itoa_pos (by omega)]
    have hd := dec_digits n.toNat
    have hm := mag_dec n.toNat (by omega)
    cases hl : decDigits n.toNat with
    | nil => exact absurd hl (dec_ne _)
    | cons c r =>
      rw [hl] at hm hd
      have hc := hd c (List.mem_cons_self ..)
      unfold isD at hc
      unfold atoiAll
      simp only []
      rw [if_neg (by omega), hm]
      simp only []
      rw [if_neg (by omega), if_neg (by omega), if_neg (by omega)]
      exact congrArg _ (by omega)

theorem itoa_inj {a b : Int} (ha : I64 a) (hb : I64 b) (h : itoa a = itoa b) : a = b := by
  have h1 := atoi_itoa a ha
  rw [h, atoi_itoa b hb] at h1
  injection h1 with h1
  exact h1.symm

theorem itoa_ne (n : Int) : itoa n ≠ [] := by
  by_cases hn : n < 0
  · rw [itoa_negD hn]; simp
  · rw [itoa_pos (by omega)]; exact dec_ne _

/-- What a numeral is made of. -/
theorem itoa_mem (n : Int) : ∀ c ∈ itoa n, c.toNat = 45 ∨ isD c := by
  intro c hc
  by_cases hn : n < 0
  · rw [itoa_negD hn] at hc
    rcases List.mem_cons.1 hc with rfl | hc
    · exact .inl rfl
    · exact .inr (dec_digits _ c hc)
  · rw [itoa_pos (by omega)] at hc
    exact .inr (dec_digits _ c hc)

theorem itoa_no (n : Int) (c : UInt8) (h : c.toNat = 32 ∨ c.toNat = 10) : c ∉ itoa n := fun hc => by
  have := itoa_mem n c hc
  unfold isD at this
  omega

/-! ### cutting at one byte -/

theorem prefix_one (c b : UInt8) (l : List UInt8) : [c].isPrefixOf (b :: l) = (c == b) := by simp [List.isPrefixOf]

theorem index_hit (c : UInt8) : ∀ (a b : List UInt8), c ∉ a → index (a ++ c :: b) [c] = (a.length : Int)
  | [], b, _ => by
    rw [List.nil_append, index, prefix_one, if_pos (by simp)]
    rfl
  | x :: a, b, h => by
    have h1 : c ≠ x := fun e => h (by simp [e])
    have h2 : c ∉ a := fun e => h (by simp [e])
    rw [List.cons_append, index, prefix_one, if_neg (by simpa using h1), index_hit c a b h2, if_neg (by simp)]
    simp

theorem index_miss (c : UInt8) : ∀ (l : List UInt8), c ∉ l → index l [c] = -1
  | [], _ => rfl
  | x :: l, h => by
    have h1 : c ≠ x := fun e => h (by simp [e])
    have h2 : c ∉ l := fun e => h (by simp [e])
    rw [index, prefix_one, if_neg (by simpa using h1), index_miss c l h2, if_pos (by rfl)]

theorem cut_hit (c : UInt8) (a b : List UInt8) (h : c ∉ a) : cut (a ++ c :: b) [c] = (a, b, true) := by
  unfold cut
  rw [index_hit c a b h, if_pos (by omega)]
  simp only [Int.toNat_natCast, List.length_singleton]
  rw [List.take_left, List.drop_append, List.drop_eq_nil_of_le (by omega), show a.length + 1 - a.length = 1 by omega]
  rfl

theorem cut_miss (c : UInt8) (l : List UInt8) (h : c ∉ l) : cut l [c] = (l, [], false) := by
  unfold cut
  rw [index_miss c l h, if_neg (by omega)]

/-- The pieces between the bytes c. -/
def pieces (c : UInt8) : List UInt8 → List (List UInt8)
  | [] => [[]]
  | b :: l => if b = c then [] :: pieces c l else match pieces c l with
    | [] => [[b]]
    | p :: ps => (b :: p) :: ps

theorem pieces_ne (c : UInt8) : ∀ l, pieces c l ≠ []
  | [] => by simp [pieces]
  | b :: l => by
    rw [pieces]
    split
    · simp
    · split <;> simp

theorem pieces_miss (c : UInt8) : ∀ l, c ∉ l → pieces c l = [l]
  | [], _ => rfl
  | b :: l, h => by
    have h1 : b ≠ c := fun e => h (by simp [e])
    have h2 : c ∉ l := fun e => h (by simp [e])
    rw [pieces, if_neg h1, pieces_miss c l h2]

theorem pieces_hit (c : UInt8) : ∀ a b, c ∉ a → pieces c (a ++ c :: b) = a :: pieces c b
  | [], b, _ => by rw [List.nil_append, pieces, if_pos rfl]
  | x :: a, b, h => by
    have h1 : x ≠ c := fun e => h (by simp [e])
    have h2 : c ∉ a := fun e => h (by simp [e])
    rw [List.cons_append, pieces, if_neg h1, pieces_hit c a b h2]

theorem splitK_pieces (c : UInt8) : ∀ (k : Nat) (l : List UInt8), l.count c ≤ k → splitK [c] 0 k l = pieces c l
  | 0, l, h => by
    have : c ∉ l := List.count_eq_zero.1 (by omega)
    rw [pieces_miss c l this]
    rfl
  | k + 1, l, h => by
    by_cases hc : c ∈ l
    · obtain ⟨a, b, rfl, ha⟩ := List.eq_append_cons_of_mem hc
      have hcount : (a ++ c :: b).count c = 1 + b.count c := by
        rw [List.count_append, List.count_eq_zero.2 ha, List.count_cons_self]; omega
      rw [splitK, index_hit c a b ha, if_neg (by simp), pieces_hit c a b ha]
      simp only [Int.toNat_natCast, Nat.add_zero, List.length_singleton]
      rw [List.take_left, List.drop_append, List.drop_eq_nil_of_le (by omega), show a.length + 1 - a.length = 1 by omega]
      simp only [List.nil_append, List.drop_succ_cons, List.drop_zero]
      rw [splitK_pieces c k b (by omega)]
    · rw [splitK, index_miss c l hc, if_pos (by rfl), pieces_miss c l hc]

theorem count_one (c : UInt8) : ∀ (fuel : Nat) (l : List UInt8), l.length < fuel → countFrom [c] fuel l = l.count c
  | 0, l, h => by omega
  | fuel + 1, l, h => by
    rw [countFrom]
    by_cases hc : c ∈ l
    · obtain ⟨a, b, rfl, ha⟩ := List.eq_append_cons_of_mem hc
      rw [index_hit c a b ha, if_neg (by simp)]
      simp only [Int.toNat_natCast, List.length_singleton]
      rw [List.drop_append, List.drop_eq_nil_of_le (by omega), show a.length + 1 - a.length = 1 by omega]
      simp only [List.nil_append, List.drop_succ_cons, List.drop_zero]
      rw [count_one c fuel b (by simp at h; omega), List.count_append, List.count_eq_zero.2 ha, List.count_cons_self]
      omega
    · rw [index_miss c l hc, if_pos (by rfl), List.count_eq_zero.2 hc]

/-! ### rows written -/

def tailT (r : List Int) : List UInt8 := r.flatMap fun n => 32 :: itoa n

/-- A row's text. -/
def rowT : List Int → List UInt8
  | [] => []
  | n :: r => itoa n ++ tailT r

/-- Rows as lines. -/
def text (x : List (List Int)) : List UInt8 := x.flatMap fun r => rowT r ++ [10]

theorem tailT_snoc (r : List Int) (n : Int) : tailT (r ++ [n]) = tailT r ++ 32 :: itoa n := by
  unfold tailT
  rw [List.flatMap_append]
  simp

theorem rowT_snoc (r : List Int) (n : Int) : rowT (r ++ [n]) = if r = [] then itoa n else rowT r ++ 32 :: itoa n := by
  cases r with
  | nil => simp [rowT, tailT]
  | cons m r => simp [rowT, tailT_snoc]

theorem text_cons (r : List Int) (x : List (List Int)) : text (r :: x) = rowT r ++ 10 :: text x := by simp [text]
theorem text_append (x y : List (List Int)) : text (x ++ y) = text x ++ text y := by simp [text]
theorem text_snoc (x : List (List Int)) (r : List Int) : text (x ++ [r]) = text x ++ (rowT r ++ [10]) := by simp [text]

theorem tailT_no (r : List Int) : (10 : UInt8) ∉ tailT r := fun h => by
  unfold tailT at h
  obtain ⟨n, _, h⟩ := List.mem_flatMap.1 h
  rcases List.mem_cons.1 h with h | h
  · cases h
  · exact itoa_no n 10 (.inr rfl) h

theorem rowT_no (r : List Int) : (10 : UInt8) ∉ rowT r := fun h => by
  cases r with
  | nil => cases h
  | cons n r =>
    rcases List.mem_append.1 h with h | h
    · exact itoa_no n 10 (.inr rfl) h
    · exact tailT_no r h

theorem rowT_ne {r : List Int} (h : r ≠ []) : rowT r ≠ [] := by
  cases r with
  | nil => exact absurd rfl h
  | cons n r =>
    intro e
    exact itoa_ne n (List.append_eq_nil_iff.1 e).1

theorem pieces_tail : ∀ (n : Int) (r : List Int), pieces 32 (itoa n ++ tailT r) = (n :: r).map itoa
  | n, [] => by
    show pieces 32 (itoa n ++ []) = [itoa n]
    rw [List.append_nil]
    exact pieces_miss 32 _ (itoa_no n 32 (.inl rfl))
  | n, m :: r => by
    have e : tailT (m :: r) = 32 :: (itoa m ++ tailT r) := by simp [tailT]
    rw [e, pieces_hit 32 (itoa n) _ (itoa_no n 32 (.inl rfl)), pieces_tail m r]
    rfl

theorem pieces_row {r : List Int} (h : r ≠ []) : pieces 32 (rowT r) = r.map itoa := by
  cases r with
  | nil => exact absurd rfl h
  | cons n r => exact pieces_tail n r

/-! ### rows read -/

/-- The number that a numeral is, if it is one as it would be written. -/
def canon (p : List UInt8) : Option Int := match atoiAll p with
  | .ok n => if itoa n = p then some n else none
  | _ => none

theorem atoi_bounds (p : List UInt8) (n : Int) (h : atoiAll p = .ok n) : I64 n := by
  unfold atoiAll at h
  unfold I64
  split at h
  · cases h
  · simp only [] at h
    split at h
    · cases h
    · cases h
    · rename_i u hu
      split at h
      · cases h
      · split at h
        · cases h
        · injection h with h
          split at h <;> omega

theorem canon_some {p : List UInt8} {n : Int} (h : canon p = some n) : itoa n = p ∧ I64 n := by
  unfold canon at h
  split at h
  · rename_i m hm
    split at h
    · rename_i e
      cases h
      exact ⟨e, atoi_bounds _ _ hm⟩
    · cases h
  · cases h

theorem canon_itoa {n : Int} (h : I64 n) : canon (itoa n) = some n := by
  unfold canon
  rw [atoi_itoa n h]
  simp

/-- All the numbers of a list of numerals. -/
def canons : List (List UInt8) → Option (List Int)
  | [] => some []
  | p :: ps => (canon p).bind fun n => (canons ps).map (n :: ·)

theorem canons_map : ∀ {r : List Int}, (∀ n ∈ r, I64 n) → canons (r.map itoa) = some r
  | [], _ => rfl
  | n :: r, h => by
    rw [List.map_cons, canons, canon_itoa (h n (List.mem_cons_self ..)), Option.bind_some, canons_map (fun m hm => h m (List.mem_cons_of_mem _ hm))]
    rfl

theorem canons_some : ∀ {ps : List (List UInt8)} {r : List Int}, canons ps = some r → r.map itoa = ps ∧ ∀ n ∈ r, I64 n
  | [], r, h => by
    rw [canons] at h
    cases h
    exact ⟨rfl, fun n hn => by cases hn⟩
  | p :: ps, r, h => by
    rw [canons] at h
    cases hc : canon p with
    | none => rw [hc] at h; cases h
    | some n =>
      rw [hc, Option.bind_some] at h
      cases hd : canons ps with
      | none => rw [hd] at h; cases h
      | some r' =>
        rw [hd] at h
        cases h
        have h1 := canon_some hc
        have h2 := canons_some hd
        refine ⟨by rw [List.map_cons, h1.1, h2.1], fun m hm => ?_⟩
        rcases List.mem_cons.1 hm with rfl | hm
        · exact h1.2
        · exact h2.2 m hm

/-- The numbers of a line. -/
def nums (l : List UInt8) : Option (List Int) := if l = [] then some [] else canons (pieces 32 l)

theorem nums_row {r : List Int} (h : ∀ n ∈ r, I64 n) : nums (rowT r) = some r := by
  unfold nums
  by_cases e : r = []
  · subst e; rfl
  · rw [if_neg (rowT_ne e), pieces_row e, canons_map h]

theorem pieces_join (l : List UInt8) : ∀ {r : List Int}, r ≠ [] → r.map itoa = pieces 32 l → rowT r = l := by
  induction l using (measure (fun l : List UInt8 => l.length)).wf.induction with
  | _ l ih =>
    intro r hr h
    by_cases hc : (32 : UInt8) ∈ l
    · obtain ⟨a, b, rfl, ha⟩ := List.eq_append_cons_of_mem hc
      rw [pieces_hit 32 a b ha] at h
      cases r with
      | nil => cases h
      | cons n r =>
        injection h with h1 h2
        have hne : r ≠ [] := fun e => by subst e; exact pieces_ne 32 b h2.symm
        have h3 := ih b (show b.length < (a ++ 32 :: b).length by simp; omega) hne h2
        cases r with
        | nil => exact absurd rfl hne
        | cons m r =>
          have h3 : itoa m ++ tailT r = b := h3
          show itoa n ++ tailT (m :: r) = _
          have e : tailT (m :: r) = 32 :: (itoa m ++ tailT r) := by simp [tailT]
          rw [e, h3, h1]
    · rw [pieces_miss 32 l hc] at h
      cases r with
      | nil => cases h
      | cons n r =>
        injection h with h1 h2
        cases r with
        | nil => show itoa n ++ [] = l; rw [List.append_nil, h1]
        | cons m r => cases h2

theorem nums_some {l : List UInt8} {r : List Int} (h : nums l = some r) : rowT r = l ∧ ∀ n ∈ r, I64 n := by
  unfold nums at h
  split at h
  · rename_i e
    cases h
    exact ⟨e.symm, fun n hn => by cases hn⟩
  · rename_i e
    have h1 := canons_some h
    refine ⟨pieces_join l (fun e2 => ?_) h1.1, h1.2⟩
    subst e2
    exact pieces_ne 32 l h1.1.symm

/-- The rows of a text, line by line. -/
def rowsF : Nat → List UInt8 → Option (List (List Int))
  | 0, _ => none
  | k + 1, l => if l = [] then some [] else if (cut l [10]).2.2 then (nums (cut l [10]).1).bind fun r => (rowsF k (cut l [10]).2.1).map (r :: ·) else none

/-- The rows of a text. -/
def rows (l : List UInt8) : Option (List (List Int)) := rowsF (l.length + 1) l

theorem rowsF_text : ∀ (x : List (List Int)) (k : Nat), (∀ r ∈ x, ∀ n ∈ r, I64 n) → (text x).length < k → rowsF k (text x) = some x
  | [], 0, _, hk => by simp at hk
  | [], k + 1, _, _ => rfl
  | r :: x, 0, _, hk => by simp at hk
  | r :: x, k + 1, h, hk => by
    rw [text_cons] at hk ⊢
    rw [rowsF, if_neg (by simp), cut_hit 10 (rowT r) (text x) (rowT_no r), if_pos rfl, nums_row (h r (List.mem_cons_self ..)), Option.bind_some,
      rowsF_text x k (fun s hs => h s (List.mem_cons_of_mem _ hs)) (by simp at hk; omega)]
    rfl

theorem rows_text {x : List (List Int)} (h : ∀ r ∈ x, ∀ n ∈ r, I64 n) : rows (text x) = some x := rowsF_text x _ h (by omega)

theorem rowsF_some : ∀ (k : Nat) (l : List UInt8) (x : List (List Int)), rowsF k l = some x → text x = l ∧ ∀ r ∈ x, ∀ n ∈ r, I64 n
  | 0, l, x, h => by cases h
  | k + 1, l, x, h => by
    rw [rowsF] at h
    by_cases e : l = []
    · rw [if_pos e] at h
      cases h
      exact ⟨e.symm, fun r hr => by cases hr⟩
    · rw [if_neg e] at h
      by_cases hc : (10 : UInt8) ∈ l
      · obtain ⟨a, b, rfl, ha⟩ := List.eq_append_cons_of_mem hc
        rw [cut_hit 10 a b ha, if_pos rfl] at h
        cases hn : nums a with
        | none => simp only [hn] at h; cases h
        | some r =>
          simp only [hn, Option.bind_some] at h
          cases hr : rowsF k b with
          | none => rw [hr] at h; cases h
          | some y =>
            rw [hr] at h
            cases h
            have h1 := nums_some hn
            have h2 := rowsF_some k b y hr
            refine ⟨by rw [text_cons, h1.1, h2.1], fun s hs => ?_⟩
            rcases List.mem_cons.1 hs with rfl | hs
            · exact h1.2
            · exact h2.2 s hs
      · rw [cut_miss 10 l hc, if_neg (by simp)] at h
        cases h

theorem rows_some {l : List UInt8} {x : List (List Int)} (h : rows l = some x) : text x = l ∧ ∀ r ∈ x, ∀ n ∈ r, I64 n := rowsF_some _ _ _ h

theorem rowsF_mono : ∀ (k : Nat) (l : List UInt8), l.length < k → rowsF k l = rows l
  | k, l, h => by
    cases hk : rowsF k l with
    | some x =>
      have := rowsF_some k l x hk
      rw [← this.1]
      exact (rows_text this.2).symm
    | none =>
      cases hr : rows l with
      | none => rfl
      | some x =>
        have := rows_some hr
        rw [← this.1, rowsF_text x k this.2 (by rw [this.1]; exact h)] at hk
        cases hk

/-- One line read. -/
theorem rows_line (a b : List UInt8) (ha : (10 : UInt8) ∉ a) : rows (a ++ 10 :: b) = (nums a).bind fun r => (rows b).map (r :: ·) := by
  rw [← rowsF_mono ((a ++ 10 :: b).length + 1) _ (by omega), rowsF, if_neg (by simp), cut_hit 10 a b ha, if_pos rfl]
  simp only []
  rw [rowsF_mono _ b (by simp; omega)]

theorem rows_miss (l : List UInt8) (h0 : l ≠ []) (h : (10 : UInt8) ∉ l) : rows l = none := by
  rw [rows, rowsF, if_neg h0, cut_miss 10 l h, if_neg (by simp)]

theorem rows_nil : rows [] = some [] := rfl

end Go.Proofs.YtknjhmaldnjhbaaDoor

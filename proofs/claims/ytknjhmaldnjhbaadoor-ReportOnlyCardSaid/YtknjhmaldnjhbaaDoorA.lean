/- The text of an amount: its sign, its digits, its point; the number that the digits spell. -/
import Derived.Test.YtknjhmaldnjhbaaDoorE
namespace Go.Proofs.YtknjhmaldnjhbaaDoor
open Go.Lib

/-- A string's bytes as numbers. -/
def bt (s : ByteArray) (k : Nat) : Int := if h : k < s.size then ((s[k]'h).toNat : Int) else 0
theorem get_bt (s : ByteArray) (n : Nat) (h : n < s.size) : ((s[n]'h).toNat : Int) = bt s n := by unfold bt; rw [dif_pos h]

/-- The number that digits spell. -/
def val (l : List UInt8) : Nat := l.foldl (fun a c => 10 * a + (c.toNat - 48)) 0

theorem val_snoc (l : List UInt8) (c : UInt8) : val (l ++ [c]) = 10 * val l + (c.toNat - 48) := by simp [val, List.foldl_append]

theorem val_dec (u : Nat) : val (decDigits u) = u := by
  induction u using Nat.strongRecOn with
  | _ u ih =>
    by_cases h : u < 10
    · rw [decDigits_one h]
      show 10 * 0 + ((UInt8.ofNat (48 + u)).toNat - 48) = u
      rw [dig_toNat h]
      omega
    · rw [decDigits, dif_neg h, val_snoc, ih (u / 10) (by omega), dig_toNat (by omega)]
      omega

theorem val_take (l : List UInt8) (j : Nat) (h : j < l.length) : val (l.take (j + 1)) = 10 * val (l.take j) + ((l.getD j 0).toNat - 48) := by
  rw [List.take_add_one, List.getElem?_eq_getElem h]
  simp only [Option.toList_some]
  rw [val_snoc]
  simp [List.getD, h]

theorem val_le (l : List UInt8) : ∀ k, k ≤ l.length → val (l.take (l.length - k)) ≤ val l
  | 0, _ => by simp
  | k + 1, h => by
    have h1 := val_le l k (by omega)
    have h2 := val_take l (l.length - (k + 1)) (by omega)
    have e : l.length - (k + 1) + 1 = l.length - k := by omega
    rw [e] at h2
    omega

theorem val_take_le (l : List UInt8) (j : Nat) : val (l.take j) ≤ val l := by
  by_cases h : j ≤ l.length
  · have := val_le l (l.length - j) (by omega)
    rwa [show l.length - (l.length - j) = j by omega] at this
  · rw [List.take_of_length_le (by omega)]
    exact Nat.le_refl _

theorem dec_lead (u : Nat) (h : 0 < u) : (decDigits u).getD 0 0 ≠ 48 := by
  induction u using Nat.strongRecOn with
  | _ u ih =>
    by_cases h9 : u < 10
    · rw [decDigits_one h9]
      intro e
      have e : UInt8.ofNat (48 + u) = 48 := e
      have := congrArg UInt8.toNat e
      rw [dig_toNat h9] at this
      have e48 : UInt8.toNat 48 = 48 := rfl
      omega
    · rw [decDigits, dif_neg h9]
      have := ih (u / 10) (by omega) (by omega)
      cases hc : decDigits (u / 10) with
      | nil => exact absurd hc (dec_ne _)
      | cons c r => rw [hc] at this; simpa using this

/-- The last two digits. -/
def cents (u : Nat) : List UInt8 := (decDigits (u % 100 + 100)).drop 1

theorem cents_eq (u : Nat) : cents u = [UInt8.ofNat (48 + u % 100 / 10), UInt8.ofNat (48 + u % 10)] := by
  unfold cents
  have h1 : ¬ u % 100 + 100 < 10 := by omega
  have h2 : ¬ (u % 100 + 100) / 10 < 10 := by omega
  rw [decDigits, dif_neg h1, decDigits, dif_neg h2, decDigits_one (by omega)]
  have e1 : (u % 100 + 100) / 10 % 10 = u % 100 / 10 := by omega
  have e2 : (u % 100 + 100) % 10 = u % 10 := by omega
  simp [e1, e2]

theorem cents_digits (u : Nat) : ∀ c ∈ cents u, isD c := fun c hc => dec_digits _ c (List.mem_of_mem_drop hc)

theorem cents_len (u : Nat) : (cents u).length = 2 := by rw [cents_eq]; rfl

theorem amount_cents (n : Int) : amount n = (if n < 0 then [45] else []) ++ (decDigits (n.natAbs / 100) ++ 46 :: cents n.natAbs) := by
  unfold amount cents
  simp

theorem val_all (u : Nat) : val (decDigits (u / 100) ++ cents u) = u := by
  rw [cents_eq, show decDigits (u / 100) ++ [UInt8.ofNat (48 + u % 100 / 10), UInt8.ofNat (48 + u % 10)] = (decDigits (u / 100) ++ [UInt8.ofNat (48 + u % 100 / 10)]) ++ [UInt8.ofNat (48 + u % 10)] by simp, val_snoc, val_snoc, val_dec, dig_toNat (by omega), dig_toNat (by omega)]
  omega

theorem dec_head_dig (u : Nat) : ∃ c r, decDigits u = c :: r ∧ isD c := by
  cases hc : decDigits u with
  | nil => exact absurd hc (dec_ne _)
  | cons c r => exact ⟨c, r, rfl, dec_digits u c (by rw [hc]; simp)⟩

theorem amount_inj {a b : Int} (h : amount a = amount b) : a = b := by
  rw [amount_cents, amount_cents] at h
  obtain ⟨c, r, hc, dc⟩ := dec_head_dig (a.natAbs / 100)
  obtain ⟨d, q, hd, dd⟩ := dec_head_dig (b.natAbs / 100)
  have e45 : UInt8.toNat 45 = 45 := rfl
  unfold isD at dc dd
  have body : decDigits (a.natAbs / 100) ++ 46 :: cents a.natAbs = decDigits (b.natAbs / 100) ++ 46 :: cents b.natAbs → a.natAbs = b.natAbs := fun h => by
    have h1 := List.append_inj' h (by simp [cents_len])
    have h2 := h1.2
    injection h2 with _ h2
    have := val_all a.natAbs
    rw [h1.1, h2, val_all] at this
    exact this.symm
  by_cases ha : a < 0 <;> by_cases hb : b < 0
  · rw [if_pos ha, if_pos hb] at h
    have := body (List.append_cancel_left h)
    omega
  · rw [if_pos ha, if_neg hb, hd] at h
    simp only [List.nil_append, List.cons_append] at h
    injection h with h1 _
    have := congrArg UInt8.toNat h1
    omega
  · rw [if_neg ha, if_pos hb, hc] at h
    simp only [List.nil_append, List.cons_append] at h
    injection h with h1 _
    have := congrArg UInt8.toNat h1
    omega
  · rw [if_neg ha, if_neg hb] at h
    have := body h
    omega

/-- The bytes of an amount, as numbers. -/
structure Amt (n : Int) (s : ByteArray) (f Q : Nat) (V : Nat → Int) : Prop where
  size : s.size = f + Q + 3
  pos : 1 ≤ Q
  neg : n < 0 → f = 1
  nonneg : ¬ n < 0 → f = 0
  small : s.size ≤ 40
  point : bt s (f + Q) = 46
  dig : ∀ i, f ≤ i → i < s.size → i ≠ f + Q → 48 ≤ bt s i ∧ bt s i ≤ 57
  sign : n < 0 → bt s 0 = 45
  zero : V f = 0
  step : ∀ i, f ≤ i → i < s.size → i ≠ f + Q → V (i + 1) = 10 * V i + (bt s i - 48)
  stay : V (f + Q + 1) = V (f + Q)
  low : ∀ i, 0 ≤ V i
  high : ∀ i, V i ≤ n.natAbs
  last : V s.size = n.natAbs
  lead : bt s f ≠ 48 ∨ bt s (f + 1) = 46

theorem bt_list (s : ByteArray) (k : Nat) : bt s k = ((s.data.toList.getD k 0).toNat : Int) := by
  unfold bt
  split
  · rename_i h
    have h' : k < s.data.toList.length := by simpa using h
    simp only [List.getD, List.getElem?_eq_getElem h', Option.getD_some]
    rfl
  · rename_i h
    have h' : s.data.toList.length ≤ k := by
      have : s.size = s.data.toList.length := Array.length_toList.symm
      omega
    simp [List.getD, List.getElem?_eq_none h']

theorem amt_of (n : Int) (hn : I64 n) (s : ByteArray) (hs : s.data.toList = amount n) : ∃ f Q V, Amt n s f Q V := by
  obtain ⟨u, hu⟩ : ∃ u, n.natAbs = u := ⟨_, rfl⟩
  obtain ⟨q, hq⟩ : ∃ q, decDigits (u / 100) = q := ⟨_, rfl⟩
  obtain ⟨r, hr⟩ : ∃ r, cents u = r := ⟨_, rfl⟩
  obtain ⟨f, sg, hsg, hf1, hf0, hlen, h45⟩ : ∃ f sg, (if n < 0 then [45] else [] : List UInt8) = sg ∧ (n < 0 → f = 1) ∧ (¬ n < 0 → f = 0) ∧ sg.length = f ∧ (n < 0 → sg = [45]) := by
    by_cases h : n < 0
    · exact ⟨1, [45], if_pos h, fun _ => rfl, fun h' => absurd h h', rfl, fun _ => rfl⟩
    · exact ⟨0, [], if_neg h, fun h' => absurd h' h, fun _ => rfl, rfl, fun h' => absurd h' h⟩
  have hsz : s.size = s.data.toList.length := Array.length_toList.symm
  rw [amount_cents, hsg, hu, hq, hr] at hs
  have hr2 : r.length = 2 := by rw [← hr]; exact cents_len u
  have hql : 1 ≤ q.length := by
    rw [← hq, decDigits_length]
    exact nDigits_pos _
  have hqs : q.length ≤ 20 := by
    unfold I64 at hn
    rw [← hq, decDigits_length]
    exact nDigits_le20 _ (by omega)
  have hval : val (q ++ r) = u := by rw [← hq, ← hr]; exact val_all u
  have hqd : ∀ c ∈ q, isD c := by rw [← hq]; exact dec_digits _
  have hrd : ∀ c ∈ r, isD c := by rw [← hr]; exact cents_digits _
  have hsz2 : s.size = f + q.length + 3 := by rw [hsz, hs]; simp [hlen, hr2]; omega
  have get : ∀ j, s.data.toList.getD (f + j) 0 = (q ++ 46 :: r).getD j 0 := fun j => by
    rw [hs]
    simp only [List.getD]
    rw [List.getElem?_append_right (by omega), hlen, Nat.add_sub_cancel_left]
  have getq : ∀ j, j < q.length → s.data.toList.getD (f + j) 0 = q.getD j 0 := fun j hj => by
    rw [get]; simp only [List.getD]; rw [List.getElem?_append_left hj]
  have getr : ∀ j, s.data.toList.getD (f + q.length + 1 + j) 0 = r.getD j 0 := fun j => by
    rw [show f + q.length + 1 + j = f + (q.length + 1 + j) by omega, get]; simp only [List.getD]
    rw [List.getElem?_append_right (by omega), show q.length + 1 + j - q.length = j + 1 by omega, List.getElem?_cons_succ]
  have pq : ∀ j, j < q.length → (q ++ r).getD j 0 = q.getD j 0 := fun j hj => by simp only [List.getD]; rw [List.getElem?_append_left hj]
  have pr : ∀ j, (q ++ r).getD (q.length + j) 0 = r.getD j 0 := fun j => by simp only [List.getD]; rw [List.getElem?_append_right (by omega), Nat.add_sub_cancel_left]
  have digq : ∀ j, j < q.length → isD (q.getD j 0) := fun j hj => hqd _ (by simp [List.getD, hj])
  have digr : ∀ j, j < 2 → isD (r.getD j 0) := fun j hj => hrd _ (by simp [List.getD, hr2, hj])
  have which : ∀ i, f ≤ i → i < s.size → i ≠ f + q.length → (∃ j, j < q.length ∧ i = f + j) ∨ (∃ j, j < 2 ∧ i = f + q.length + 1 + j) := fun i h1 h2 h3 => by
    by_cases h : i < f + q.length
    · exact .inl ⟨i - f, by omega, by omega⟩
    · exact .inr ⟨i - (f + q.length + 1), by omega, by omega⟩
  refine ⟨f, q.length, fun i => (val ((q ++ r).take (if i ≤ f + q.length then i - f else i - f - 1)) : Nat), hsz2, hql, hf1, hf0, by omega, ?_, ?_, ?_, ?_, ?_, ?_, ?_, ?_, ?_, ?_⟩
  · rw [bt_list, get]
    simp [List.getD]
  · intro i h1 h2 h3
    rw [bt_list]
    rcases which i h1 h2 h3 with ⟨j, hj, rfl⟩ | ⟨j, hj, rfl⟩
    · rw [getq j hj]
      have := digq j hj
      unfold isD at this
      omega
    · rw [getr j]
      have := digr j hj
      unfold isD at this
      omega
  · intro h
    rw [bt_list, hs, h45 h]
    rfl
  · simp [val]
  · intro i h1 h2 h3
    rw [bt_list]
    rcases which i h1 h2 h3 with ⟨j, hj, rfl⟩ | ⟨j, hj, rfl⟩
    · rw [getq j hj]
      have h := digq j hj
      unfold isD at h
      rw [if_pos (by omega), if_pos (by omega), show f + j + 1 - f = j + 1 by omega, Nat.add_sub_cancel_left, val_take _ _ (by simp; omega), pq j hj]
      omega
    · rw [getr j]
      have h := digr j hj
      unfold isD at h
      rw [if_neg (by omega), if_neg (by omega), show f + q.length + 1 + j + 1 - f - 1 = q.length + j + 1 by omega, show f + q.length + 1 + j - f - 1 = q.length + j by omega, val_take _ _ (by simp; omega), pr j]
      omega
  · show ((val ((q ++ r).take (if f + q.length + 1 ≤ f + q.length then f + q.length + 1 - f else f + q.length + 1 - f - 1)) : Nat) : Int) = ((val ((q ++ r).take (if f + q.length ≤ f + q.length then f + q.length - f else f + q.length - f - 1)) : Nat) : Int)
    rw [if_neg (by omega), if_pos (by omega)]
    congr 3
    omega
  · intro i
    exact Int.natCast_nonneg _
  · intro i
    have := val_take_le (q ++ r) (if i ≤ f + q.length then i - f else i - f - 1)
    rw [hval] at this
    rw [hu]
    exact Int.ofNat_le.2 this
  · show ((val ((q ++ r).take (if s.size ≤ f + q.length then s.size - f else s.size - f - 1)) : Nat) : Int) = _
    rw [if_neg (by omega), List.take_of_length_le (by simp; omega), hval, hu]
  · by_cases h1 : q.length = 1
    · right
      rw [bt_list, get, ← h1]
      simp [List.getD]
    · left
      rw [bt_list]
      have h0 := getq 0 (by omega)
      rw [Nat.add_zero] at h0
      rw [h0, ← hq]
      intro e
      refine dec_lead (u / 100) ?_ ?_
      · rw [← hq, decDigits_length] at h1
        rcases Nat.eq_zero_or_pos (u / 100) with h | h
        · rw [h] at h1
          exact absurd (nDigits_small (by omega)) h1
        · exact h
      · have e48 : UInt8.toNat 48 = 48 := rfl
        exact UInt8.toNat_inj.1 (by omega)

end Go.Proofs.YtknjhmaldnjhbaaDoor

/- Contracts of the small functions of the fan seat: Within, the two Passes. -/
import Derived.Test.YtlmnnbbmjpcohaaRows
import Derived.Test.YtlmnnbbmjpcohaaPlain
import Derived.WalkKit
import Derived.WalkSpells
import Derived.WalkLawsBesides
namespace Go.Proofs.Ytlmnnbbmjpcohaa
open Go.RowKit

theorem ret_int {k : IntKind} {a b : Int} (h : a = b) : Ending.returned (.int k a) = .returned (.int k b) := by rw [h]
theorem ret_bool {a b : Bool} (h : a = b) : Ending.returned (.bool a) = .returned (.bool b) := by rw [h]

theorem tmod_lo (n m : Int) (hm : 0 < m) (hn : n < 0) : -m < n.tmod m ∧ n.tmod m ≤ 0 := by
  have h := Int.neg_tmod (-n) m
  rw [Int.neg_neg] at h
  rw [h, Int.tmod_eq_emod_of_nonneg (by omega)]
  have h1 := Int.emod_nonneg (-n) (b := m) (by omega)
  have h2 := Int.emod_lt_of_pos (-n) hm
  omega

theorem emod_of_tmod (n m : Int) (hm : 0 < m) (hn : n < 0) : n % m = if n.tmod m < 0 then n.tmod m + m else n.tmod m := by
  have hb := tmod_lo n m hm hn
  have e : n = n.tmod m + m * n.tdiv m := by have := Int.mul_tdiv_add_tmod n m; omega
  split
  · have e2 : n % m = (n.tmod m + m) % m := by
      conv => lhs; rw [e]
      rw [Int.add_mul_emod_self_left, Int.add_emod_right]
    rw [e2, Int.emod_eq_of_lt (by omega) (by omega)]
  · have e2 : n % m = n.tmod m % m := by
      conv => lhs; rw [e]
      rw [Int.add_mul_emod_self_left]
    rw [e2, Int.emod_eq_of_lt (by omega) (by omega)]

set_option maxHeartbeats 400000 in
theorem within_any (n lo hi : Int) (w : World) (h1 : -1000000 ≤ lo) (h2 : lo ≤ hi) (h3 : hi ≤ 1000000) :
    Calls Try.prog 10 #[.int .i64 n, .int .i64 lo, .int .i64 hi] w fun e w' => e = .returned (.int .i64 (lo + n % (hi - lo + 1))) ∧ w = w' := by
  by_cases h : 0 ≤ n
  · have hm : 0 ≤ n % (hi - lo + 1) := Int.emod_nonneg _ (by omega)
    have hm2 : n % (hi - lo + 1) < hi - lo + 1 := Int.emod_lt_of_pos _ (by omega)
    go_enter Try.func10, Try.ntmps10
    go_wp2
    go_ret
    exact ⟨rfl, rfl⟩
  · have hb := tmod_lo n (hi - lo + 1) (by omega) (by omega)
    have hb1 := hb.1
    have hb2 := hb.2
    have he := emod_of_tmod n (hi - lo + 1) (by omega) (by omega)
    rw [he]
    clear he hb
    by_cases hc : n.tmod (hi - lo + 1) < 0
    · rw [if_pos hc]
      go_enter Try.func10, Try.ntmps10
      go_wp2
      go_ret
      exact ⟨ret_int (by omega), rfl⟩
    · rw [if_neg hc]
      go_enter Try.func10, Try.ntmps10
      go_wp2
      go_ret
      exact ⟨ret_int (by omega), rfl⟩

theorem hid' {p : Prop} (h : p) : Hid p := h

theorem quo_cast (n k : Nat) (hn : 1 ≤ n) : ((n : Int) - 1) / (k : Int) = (((n - 1) / k : Nat) : Int) := by
  rw [show (n : Int) - 1 = ((n - 1 : Nat) : Int) by omega]
  rfl

set_option maxHeartbeats 400000 in
theorem passes_any (k : Nat) (hk : 2 ≤ k) (hk2 : k ≤ 1000) : ∀ (f n : Nat) (w : World), n ≤ f → f ≤ 1000 →
    Calls Try.prog 9 #[.int .i64 n, .int .i64 k] w fun e w' => e = .returned (.int .i64 (pas f n k)) ∧ w = w' := by
  intro f
  induction f with
  | zero =>
    intro n w hn _
    obtain rfl : n = 0 := by omega
    go_enter Try.func9, Try.ntmps9
    go_wp2_with fail
    go_ret
    exact ⟨rfl, rfl⟩
  | succ f ih =>
    intro n w hn hn2
    by_cases h : n ≤ 1
    · go_enter Try.func9, Try.ntmps9
      go_wp2_with fail
      go_ret
      exact ⟨ret_int (by rw [pas, if_pos h]; rfl), rfl⟩
    · have hd := div_lt' n k (by omega) hk
      have hl := pas_le f ((n - 1) / k + 1) k
      have hp : (pas f ((n - 1) / k + 1) k : Int) ≤ 1000 := by omega
      have hb1 : 0 ≤ ((n : Int) - 1) / (k : Int) := by rw [quo_cast n k (by omega)]; exact Int.natCast_nonneg _
      have hb2 : ((n : Int) - 1) / (k : Int) ≤ 1000 := by rw [quo_cast n k (by omega)]; omega
      go_enter Try.func9, Try.ntmps9
      go_wp2_with fail
      rw [show ((n : Int) - 1) / (k : Int) + 1 = (((n - 1) / k + 1 : Nat) : Int) by rw [quo_cast n k (by omega)]; omega]
      refine (ih _ _ (by omega) (by omega)).mono ?_
      rintro e w' ⟨rfl, rfl⟩
      go_wp2_with fail
      go_ret
      exact ⟨ret_int (by rw [pas, if_neg h]; omega), rfl⟩

theorem quo_ref (n k : Nat) (hk : 2 ≤ k) (hn : 1 ≤ n) : ((n : Int) + (k : Int) - 1) / (k : Int) = (((n - 1) / k + 1 : Nat) : Int) := by
  rw [show (n : Int) + (k : Int) - 1 = ((n - 1 + k : Nat) : Int) by omega]
  rw [← Nat.add_div_right _ (by omega)]
  rfl

set_option maxHeartbeats 400000 in
/-- The document's own passes. -/
theorem refPasses_any (k : Nat) (hk : 2 ≤ k) (hk2 : k ≤ 1000) (n : Nat) (hn : n ≤ 1000) (w : World) :
    Calls Try.prog 12 #[.int .i64 n, .int .i64 k] w fun e w' => e = .returned (.int .i64 (pas n n k)) ∧ w = w' := by
  go_enter Try.func12, Try.ntmps12
  go_wp2
  go_loop [0, 5] (fun m p => ∃ m' p' : Nat, m' ≤ 1000 ∧ p' ≤ 1000 ∧ p' + m' ≤ n + 1 ∧ m = .int .i64 m' ∧ p = .int .i64 p' ∧ pas n n k = p' + pas m' m' k ∧ (n = 0 → p' = 0)) (fun m _ => (intOf m).toNat)
  case atStart => exact ⟨n, 0, hn, by omega, by omega, rfl, rfl, by omega, fun _ => rfl⟩
  case round =>
    obtain ⟨m, p, hm, hp, hmp, rfl, rfl, he, hz⟩ := hrel
    have HE := hid' he
    clear he
    by_cases h : m ≤ 1
    · go_wp2
      go_ret
      have hq : pas m m k = 0 := by
        have := (pas_iff k hk m m 0 (Nat.le_refl _)).2 (by simpa using h)
        omega
      exact ⟨ret_int (by rw [HE.out, hq]; rfl), rfl⟩
    · have hd := div_lt' m k (by omega) hk
      have hq := quo_ref m k hk (by omega)
      have hb1 : 0 ≤ ((m : Int) + (k : Int) - 1) / (k : Int) := by rw [hq]; exact Int.natCast_nonneg _
      have hb2 : ((m : Int) + (k : Int) - 1) / (k : Int) ≤ 1000 := by rw [hq]; omega
      have HQ := hid' hq
      clear hq
      go_wp2
      go_round
      case rel =>
        refine ⟨(m - 1) / k + 1, p + 1, by omega, by omega, by omega, by rw [HQ.out], by go_num, ?_, fun h0 => by have := hz h0; omega⟩
        rw [HE.out]
        have h1 : pas m m k = 1 + pas ((m - 1) / k + 1) ((m - 1) / k + 1) k := pas_step k m hk (by omega)
        omega
      case measure =>
        simp only [intOf]
        rw [HQ.out]
        omega

end Go.Proofs.Ytlmnnbbmjpcohaa

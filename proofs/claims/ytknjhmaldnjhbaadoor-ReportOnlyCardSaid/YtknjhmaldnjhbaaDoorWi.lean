/- The contract of Within: a number between the bounds. -/
import Derived.Test.YtknjhmaldnjhbaaDoorM
namespace Go.Proofs.YtknjhmaldnjhbaaDoor
open Go.RowKit Go.Deep

theorem tmod_lo (n m : Int) (hm : 0 < m) (hn : n < 0) : -m < n.tmod m ∧ n.tmod m ≤ 0 := by
  have h := Int.neg_tmod (-n) m
  rw [Int.neg_neg] at h
  rw [h, Int.tmod_eq_emod_of_nonneg (by omega)]
  have h1 := Int.emod_nonneg (-n) (b := m) (by omega)
  have h2 := Int.emod_lt_of_pos (-n) hm
  omega

def Amid (lo hi : Int) (e : Ending) : Prop := ∃ r : Int, lo ≤ r ∧ r ≤ hi ∧ e = .returned (.int .i64 r)

set_option maxHeartbeats 400000 in
theorem within_any (n lo hi : Int) (w : World) (h1 : -1000000 ≤ lo) (h2 : lo ≤ hi) (h3 : hi ≤ 1000000) :
    Calls Tryd.prog 13 #[.int .i64 n, .int .i64 lo, .int .i64 hi] w fun e w' => Amid lo hi e ∧ w = w' := by
  by_cases h : 0 ≤ n
  · have hm : 0 ≤ n % (hi - lo + 1) := Int.emod_nonneg _ (by omega)
    have hm2 : n % (hi - lo + 1) < hi - lo + 1 := Int.emod_lt_of_pos _ (by omega)
    go_enter Tryd.func13, Tryd.ntmps13
    go_wp2
    go_ret
    exact ⟨⟨_, by omega, by omega, rfl⟩, rfl⟩
  · have hb := tmod_lo n (hi - lo + 1) (by omega) (by omega)
    have hb1 := hb.1
    have hb2 := hb.2
    clear hb
    by_cases hc : n.tmod (hi - lo + 1) < 0
    · go_enter Tryd.func13, Tryd.ntmps13
      go_wp2
      go_ret
      exact ⟨⟨_, by omega, by omega, rfl⟩, rfl⟩
    · go_enter Tryd.func13, Tryd.ntmps13
      go_wp2
      go_ret
      exact ⟨⟨_, by omega, by omega, rfl⟩, rfl⟩

end Go.Proofs.YtknjhmaldnjhbaaDoor

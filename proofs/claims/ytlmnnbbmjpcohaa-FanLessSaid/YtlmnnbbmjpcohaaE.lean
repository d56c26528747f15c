/- The contract of FanEnds: it returns true, and nothing that was there has turned. -/
import Derived.Test.YtlmnnbbmjpcohaaC
namespace Go.Proofs.Ytlmnnbbmjpcohaa
open Go.RowKit

theorem cnt_lft (b p a : Nat) (hb : 2 ≤ b) (ha : 1 ≤ a) : cnt (lft b p a) b = lft b (p + 1) a := by
  rw [cnt_eq _ _ hb (lft_pos b a ha p)]
  rfl

theorem cnt_lt (L b c : Nat) (hb : 2 ≤ b) (hL : 1 ≤ L) (h : c < cnt L b) : c * b < L := by
  rw [cnt_eq _ _ hb hL] at h
  have h1 := (step_le L b c hb hL).2
  omega

theorem cnt_ge (L b : Nat) (hb : 2 ≤ b) (hL : 1 ≤ L) : L ≤ cnt L b * b := by
  rw [cnt_eq _ _ hb hL]
  exact (step_le L b _ hb hL).1 (Nat.le_refl _)

theorem pow_quo (b p a : Nat) (hb : 2 ≤ b) (hp : p ≠ 0) (h : ¬ a ≤ b ^ (p - 1)) : b ^ p / b < a := by
  obtain ⟨q, rfl⟩ : ∃ q, p = q + 1 := ⟨p - 1, by omega⟩
  rw [Nat.pow_succ, Nat.mul_div_cancel _ (by omega)]
  simp at h
  exact h

set_option maxHeartbeats 2000000 in
theorem fanEnds_any (n k : Int) (w : World) : Calls Try.prog 5 #[.int .i64 n, .int .i64 k] w fun e w' => e = .returned (.bool true) ∧ Below w.heap.size w w' := by
  have hw1 := fun w => within_any n 1 300 w (by omega) (by omega) (by omega)
  have hw2 := fun w => within_any k 2 20 w (by omega) (by omega) (by omega)
  obtain ⟨a, ha⟩ : ∃ a : Int, 1 + n % (300 - 1 + 1) = a := ⟨_, rfl⟩
  obtain ⟨b, hb⟩ : ∃ b : Int, 2 + k % (20 - 2 + 1) = b := ⟨_, rfl⟩
  have a1 : 1 ≤ a := by omega
  have a2 : a ≤ 300 := by omega
  have b1 : 2 ≤ b := by omega
  have b2 : b ≤ 20 := by omega
  rw [ha] at hw1
  rw [hb] at hw2
  clear ha hb
  obtain ⟨a, rfl⟩ := Int.eq_ofNat_of_zero_le (show 0 ≤ a by omega)
  obtain ⟨b, rfl⟩ := Int.eq_ofNat_of_zero_le (show 0 ≤ b by omega)
  have W1 := hid' hw1
  have W2 := hid' hw2
  clear hw1 hw2
  go_enter Try.func5, Try.ntmps5
  go_wp2_with fail
  refine (W1.out _).mono ?_
  rintro e w' ⟨rfl, rfl⟩
  go_wp2_with fail
  refine (W2.out _).mono ?_
  rintro e w' ⟨rfl, rfl⟩
  go_wp2_with fail
  go_loopw [7, 8, 9] (fun l p i wr => ∃ q : Nat, q ≤ 10 ∧ l = .int .i64 (lft b q a : Nat) ∧ p = .int .i64 q ∧ i = .int .i64 q ∧ Hid (∀ x, x < q → 1 < lft b x a) ∧ Below w.heap.size w wr) (fun _ _ i _ => 10 - (intOf i).toNat)
  case atStart => exact ⟨0, by omega, rfl, rfl, rfl, fun x hx => absurd hx (by omega), Below.refl _ _⟩
  case round =>
    obtain ⟨q, hq, rfl, rfl, rfl, HQ, hbl⟩ := hrel
    have hL1 := lft_pos b a (by omega) q
    have hL2 := lft_bound b a (by omega) (by omega) q
    by_cases hgo : 1 < lft b q a
    · have hq10 : q < 10 := by
        rcases Nat.lt_or_ge q 10 with h | h
        · exact h
        · have h9 := HQ.out 9 (by omega)
          have := lft_nine b a (by omega) (by omega) (by omega)
          omega
      have HN := hid' (cnt_lft b q a (by omega) (by omega))
      have hN : cnt (lft b q a) b < lft b q a := by
        rw [cnt_eq _ _ (by omega) hL1]
        exact div_lt' _ _ hgo (by omega)
      have HA := hid' (fun c => cnt_lt (lft b q a) b c (by omega) hL1)
      have HG := hid' (cnt_ge (lft b q a) b (by omega) hL1)
      have HQ' : Hid (∀ x, x < q + 1 → 1 < lft b x a) := fun x hx => by
        by_cases h : x < q
        · exact HQ.out x h
        · rw [show x = q by omega]; exact hgo
      generalize hLL : lft b q a = L at *
      generalize hNN : cnt L b = N at *
      have HLL := hid' hLL
      have HNN := hid' hNN
      clear hLL hNN
      have hN1 : 1 ≤ N := by
        have := HG.out
        rcases Nat.eq_zero_or_pos N with h | h
        · rw [h] at this; omega
        · exact h
      go_wp2_with fail
      refine (groups_any L b (by omega) (by omega) (by omega) _).mono ?_
      rintro e w1 ⟨v1, rfl, hv, hb1⟩
      rw [HNN.out] at hv
      obtain ⟨_, ao, cap, rfl, hcap, hcells⟩ := hv
      obtain ⟨g, rfl, hg, hcell⟩ := hcells (by omega)
      have HC := hid' hcell
      have B1 := hid' (hbl.trans (hb1.mono hbl.size))
      clear hcells hcell hb1
      go_wp2_with fail
      go_loopw [11, 34] (fun t i wr2 => ∃ c : Nat, c ≤ N ∧ i = .int .i64 c ∧ t = .int .i64 ((min (c * b) L : Nat) : Int) ∧ Below w1.heap.size w1 wr2) (fun _ i _ => N - (intOf i).toNat)
      case atStart => exact ⟨0, by omega, rfl, by simp, Below.refl _ _⟩
      case round =>
        obtain ⟨c, hc, rfl, rfl, hb2⟩ := hrel
        by_cases hlt : c < N
        · have hcb := HA.out c hlt
          have hsc : (c + 1) * b = c * b + b := Nat.succ_mul c b
          have e0 := HC.out (c * 2) _ (by rw [show c * 2 = 2 * c by omega]; exact nums_even L b N c hlt)
          have e1 := HC.out (c * 2 + 1) _ (by rw [show c * 2 = 2 * c by omega]; exact nums_odd L b N c hlt)
          have f0 := (hb2.cell (p := ⟨g, c * 2, none⟩) hg).trans e0
          have f1 := (hb2.cell (p := ⟨g, c * 2 + 1, none⟩) hg).trans e1
          rw [show min (c * b) L = c * b by omega]
          obtain ⟨A, hA⟩ : ∃ A : Int, ((c * b : Nat) : Int) = A := ⟨_, rfl⟩
          obtain ⟨E, hE⟩ : ∃ E : Int, ((min ((c + 1) * b) L : Nat) : Int) = E := ⟨_, rfl⟩
          have g1 : A < E := by omega
          have g2 : E - A ≤ b := by omega
          have g3 : 0 ≤ A := by omega
          have g4 : E ≤ 300 := by omega
          rw [hA] at f0 ⊢
          rw [hE] at f1
          have HE := hid' hE
          clear hA hE e0 e1 hsc hcb
          go_wp2_with fail
          go_roundw
          case rel => exact ⟨c + 1, by omega, by go_num, by rw [HE.out], hb2.alloc hb2.size _⟩
          case measure => simp [intOf]; omega
        · obtain rfl : c = N := by omega
          have hge := HG.out
          rw [show min (c * b) L = L by omega]
          go_wp2_with fail
          have BB := B1.out.trans (hb2.mono B1.out.size)
          go_roundw
          case rel => exact ⟨q + 1, by omega, by rw [← HN.out], by go_num, by go_num, HQ', BB⟩
          case measure => simp [intOf]; omega
    · have hq0 : lft b q a = 1 := by omega
      have hpe := pas_eq b a q (by omega) (by omega) (by omega) HQ.out
      have hpi := pas_iff b (by omega) a a
      have hpa : a ≤ b ^ q := (hpi q (Nat.le_refl _)).1 (by omega)
      have hpw : q ≠ 0 → b ^ q / b < a := fun h => pow_quo b q a (by omega) h (fun h2 => by have := (hpi (q - 1) (Nat.le_refl _)).2 h2; omega)
      have hq9 : q ≤ 9 := by
        rcases Nat.lt_or_ge 9 q with h | h
        · have h9 := HQ.out 9 (by omega)
          have := lft_nine b a (by omega) (by omega) (by omega)
          omega
        · exact h
      rw [hq0]
      have HPE := hid' hpe
      have HPA := hid' hpa
      have HPW := hid' hpw
      have HB := hid' hbl
      clear hpe hpi hpa hpw hbl hq0 hgo hL1 hL2
      go_wp2_with fail
      go_loopw [14, 15] (fun pw i wr => ∃ x : Nat, x ≤ q ∧ i = .int .i64 x ∧ pw = .int .i64 (b ^ x : Nat) ∧ Below w.heap.size w wr) (fun _ i _ => q - (intOf i).toNat)
      case atStart => exact ⟨0, by omega, rfl, by simp, HB.out⟩
      case round =>
        obtain ⟨x, hx, rfl, rfl, hb2⟩ := hrel
        have HB2 := hid' hb2
        clear hb2
        have hpb := pow_bound b x (by omega) (by omega)
        have hps : b ^ (x + 1) = b ^ x * b := Nat.pow_succ _ _
        have hpc := pow_bound b (x + 1) (by omega) (by omega)
        rw [hps] at hpc
        by_cases hlt : x < q
        · obtain ⟨Z, hZ⟩ : ∃ Z : Nat, b ^ x = Z := ⟨_, rfl⟩
          rw [hZ] at hpb hpc hps ⊢
          have z1 : (0 : Int) ≤ (Z : Int) * (b : Int) := by have := Int.natCast_nonneg (Z * b); simpa using this
          have z2 : (Z : Int) * (b : Int) ≤ 10240000000000 := by rw [← Int.natCast_mul]; omega
          have HPS := hid' hps
          clear hps hpc hZ
          go_wp2_with fail
          go_roundw
          case rel => exact ⟨x + 1, by omega, by go_num, by rw [HPS.out]; simp, HB2.out⟩
          case measure => simp [intOf]; omega
        · obtain rfl : x = q := by omega
          clear hps hpc
          have hpa := HPA.out
          have hpw := HPW.out
          have hquo : ((b ^ x : Nat) : Int) / (b : Int) = ((b ^ x / b : Nat) : Int) := rfl
          have hqn : (0 : Int) ≤ ((b ^ x / b : Nat) : Int) := Int.natCast_nonneg _
          obtain ⟨Z, hZ⟩ : ∃ Z : Nat, b ^ x = Z := ⟨_, rfl⟩
          rw [hZ] at hpb hpa hpw hquo hqn ⊢
          obtain ⟨Y, hY⟩ : ∃ Y : Nat, Z / b = Y := ⟨_, rfl⟩
          rw [hY] at hpw hquo hqn
          clear hZ hY HPA HPW
          have HZ := hid' hquo
          have hy1 : (0 : Int) ≤ (Z : Int) / (b : Int) := by rw [hquo]; exact hqn
          have hy2 : x ≠ 0 → (Z : Int) / (b : Int) < (a : Int) := fun h => by rw [hquo]; have := hpw h; omega
          clear hquo hqn hpw
          have hpp := fun w => passes_at a b x (by omega) (by omega) (by omega) HPE.out w
          have PP := hid' hpp
          clear hpp
          by_cases h0 : x = 0
          · subst h0
            clear hy2
            go_wp2_with fail
            refine (PP.out _).mono ?_
            rintro e w' ⟨rfl, rfl⟩
            go_wp2_with fail
            refine (fanRuns_any _).mono ?_
            rintro e w4 ⟨rfl, hb4⟩
            have B4 := hid' hb4
            clear hb4
            go_wp2_with fail
            go_ret
            exact ⟨rfl, HB2.out.trans (B4.out.mono HB2.out.size)⟩
          · have hy3 := hy2 h0
            clear hy2
            go_wp2_with fail
            refine (PP.out _).mono ?_
            rintro e w' ⟨rfl, rfl⟩
            go_wp2_with fail
            refine (fanRuns_any _).mono ?_
            rintro e w4 ⟨rfl, hb4⟩
            have B4 := hid' hb4
            clear hb4
            go_wp2_with fail
            go_ret
            exact ⟨rfl, HB2.out.trans (B4.out.mono HB2.out.size)⟩

end Go.Proofs.Ytlmnnbbmjpcohaa

/- The contract of ReportAmounts. -/
import Derived.Test.YtknjhmaldnjhbaaDoorA
import Derived.Test.YtknjhmaldnjhbaaDoorRuns
namespace Go.Proofs.YtknjhmaldnjhbaaDoor
open Go.RowKit Go.Deep

set_option maxRecDepth 100000 in
set_option maxHeartbeats 4000000 in
theorem amounts_any (a b : Int) (ha : I64 a) (hb : I64 b) (w : World) (E : Env w) :
    Calls Tryd.prog 6 #[.int .i64 a, .int .i64 b] w fun e w' => e = .returned (.bool true) ∧ Fr (fun _ => False) w w' := by
  obtain ⟨s, hs⟩ : ∃ s : ByteArray, (⟨(amount a).toArray⟩ : ByteArray) = s := ⟨_, rfl⟩
  obtain ⟨t, ht⟩ : ∃ t : ByteArray, (⟨(amount b).toArray⟩ : ByteArray) = t := ⟨_, rfl⟩
  have hsl : s.data.toList = amount a := by rw [← hs]
  have htl : t.data.toList = amount b := by rw [← ht]
  have c1 := fun w E => amount_any a ha w E
  have c2 := fun w E => amount_any b hb w E
  rw [hs] at c1
  rw [ht] at c2
  obtain ⟨f, Q, V, hA⟩ := amt_of a ha s hsl
  have heq : (s.toList == t.toList) = (decide (a = b)) := by
    rw [Lib.toList_data, Lib.toList_data, hsl, htl]
    by_cases h : a = b
    · subst h; simp
    · rw [decide_eq_false h]
      simpa using fun e => h (amount_inj e)
  have HC1 := hid' c1
  have HC2 := hid' c2
  have HA := hid' hA
  have HE := hid' E
  have hsz := hA.size
  have hQ := hA.pos
  have hsm := hA.small
  have hgb := get_bt s
  have hpt := hA.point
  have h4 : ¬ ((f : Int) + Q + 3 < 4) := by omega
  have hs0 : (bt s 0 == 45) = decide (a < 0) := by
    by_cases h : a < 0
    · simp [h, hA.sign h]
    · have h0 := hA.nonneg h
      have := hA.dig 0 (by omega) (by omega) (by omega)
      rw [decide_eq_false h]
      simp only [beq_eq_false_iff_ne]
      omega
  have HPT := hid' hpt
  have HS0 := hid' hs0
  have HFN := hid' (show (a < 0 ∧ f = 1) ∨ (¬ a < 0 ∧ f = 0) from by
    by_cases h : a < 0
    · exact .inl ⟨h, hA.neg h⟩
    · exact .inr ⟨h, hA.nonneg h⟩)
  unfold I64 at ha hb
  clear hs ht hsl htl c1 c2 hA E
  go_enter Tryd.func6, Tryd.ntmps6
  go_wp2_with fail
  refine (HC1.out _ HE.out).mono ?_
  rintro e w1 ⟨rfl, f1⟩
  have HF1 := hid' f1
  have HE1 := hid' (HE.out.fr f1)
  clear f1 HC1
  go_wp2_with fail
  refine (HC2.out _ HE1.out).mono ?_
  rintro e w2 ⟨rfl, f2⟩
  have HF2 := hid' (HF1.out.trans f2)
  have HE2 := hid' (HE1.out.fr f2)
  clear f2 HC2
  clear HS0 HPT
  rcases HFN.out with ⟨hneg, hf⟩ | ⟨hneg, hf⟩
  all_goals
    clear HFN
    have HFF := hid' hf
    clear hf
    go_wp2_with fail
    clear hpt hs0 h4
    have hV0 := HA.out.zero
    have hV1 := HA.out.last
    have HHN := hid' hneg
    go_loopw [9, 7] (fun i n wr => ∃ k : Nat, i = .int .i64 k ∧ n = .int .i64 (-(V k)) ∧ f ≤ k ∧ k ≤ s.size ∧ wr = w2) (fun i _ _ => s.size - (intOf i).toNat)
    case atStart => exact ⟨f, by rw [HFF.out]; rfl, by rw [hV0]; rfl, Nat.le_refl _, by omega, rfl⟩
    case round =>
      obtain ⟨k, rfl, rfl, hfk, hk, rfl⟩ := hrel
      have hl := HA.out.low k
      have hh := HA.out.high k
      by_cases hlt : k < s.size
      · by_cases hkp : k = f + Q
        · have hst := HA.out.stay
          rw [← hkp] at hst
          go_wp2_with fail
          go_roundw
          case rel => exact ⟨k + 1, by go_num, by rw [hst], by omega, by omega, trivial⟩
          case measure => simp [intOf]; omega
        · have hst := HA.out.step k hfk hlt hkp
          have hdg := HA.out.dig k hfk hlt hkp
          have hl1 := HA.out.low (k + 1)
          have hh1 := HA.out.high (k + 1)
          obtain ⟨v, hv⟩ : ∃ v, V k = v := ⟨_, rfl⟩
          obtain ⟨v1, hv1⟩ : ∃ v1, V (k + 1) = v1 := ⟨_, rfl⟩
          rw [hv] at hst hl hh
          rw [hv1] at hst hl1 hh1
          rw [hv]
          go_wp2_with fail
          go_roundw
          case rel => exact ⟨k + 1, by go_num, by rw [hv1, hst]; exact congrArg _ (by omega), by omega, by omega, trivial⟩
          case measure => simp [intOf]; omega
      · obtain rfl : k = s.size := by omega
        have hva : V s.size = a.natAbs := hV1
        have hld : bt s f ≠ 48 ∨ (bt s f = 48 ∧ bt s (f + 1) = 46) := by have := HA.out.lead; omega
        rw [HFF.out] at hld
        have HR := hid' (runs_any wr HE2.out)
        have hnn := HHN.out
        clear hV0 hV1 hl hh
        rw [hva]
        rcases hld with hld | ⟨hld, hld2⟩ <;> by_cases hpos : 0 < a
        all_goals try omega
        all_goals
          obtain ⟨na, hna, hna2⟩ : ∃ na : Int, (a.natAbs : Int) = na ∧ (na = -a ∨ (0 < a ∧ na = a)) := ⟨_, rfl, by omega⟩
          rw [hna]
          have hnb : (if 0 < a then na else -na) = a := by split <;> omega
          clear hna hva
          go_wp2_with fail
          refine HR.out.mono ?_
          rintro e w5 ⟨rfl, f5⟩
          have HF5 := hid' (HF2.out.trans f5)
          clear f5 HR
          go_wp2_with fail
          go_ret
          exact ⟨rfl, HF5.out⟩

end Go.Proofs.YtknjhmaldnjhbaaDoor

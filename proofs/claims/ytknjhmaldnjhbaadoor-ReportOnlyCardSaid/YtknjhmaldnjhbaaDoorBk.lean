/- The contract of ReportBack. -/
import Derived.Test.YtknjhmaldnjhbaaDoorQ
import Derived.Test.YtknjhmaldnjhbaaDoorS
import Derived.Test.YtknjhmaldnjhbaaDoorRuns
import Derived.Test.YtknjhmaldnjhbaaDoorA
import Derived.Test.YtknjhmaldnjhbaaDoorWi
namespace Go.Proofs.YtknjhmaldnjhbaaDoor
open Go.RowKit Go.Deep

theorem take_data (q : ByteArray) (k : Nat) : (q.extract 0 k).data.toList = q.data.toList.take k := by
  rw [ByteArray.data_extract, Array.toList_extract]
  simp [List.extract]

theorem read_yes (q : ByteArray) (hq : q.size ≤ 1000000) (w : World) (E : Env w) (h : (rows q.data.toList).isSome = true) : Calls Tryd.prog 8 #[.string q] w fun e w' => (∃ v, e = .returned (.tuple #[v, .bool true])) ∧ Fr (fun _ => False) w w' := by
  obtain ⟨z, hz⟩ := Option.isSome_iff_exists.1 h
  refine (read_any q hq w E).mono ?_
  rintro e w' ⟨f, hp⟩
  rw [hz] at hp
  obtain ⟨v, he, _⟩ := hp
  exact ⟨⟨v, he⟩, f⟩

theorem read_no (q : ByteArray) (hq : q.size ≤ 1000000) (w : World) (E : Env w) (h : rows q.data.toList = none) : Calls Tryd.prog 8 #[.string q] w fun e w' => e = .returned (.tuple #[.slice none 0 0, .bool false]) ∧ Fr (fun _ => False) w w' := by
  refine (read_any q hq w E).mono ?_
  rintro e w' ⟨f, hp⟩
  rw [h] at hp
  exact ⟨hp, f⟩

set_option maxRecDepth 100000 in
set_option maxHeartbeats 4000000 in
theorem back_any (v1 v2 : Value) (cut : Int) (X Y : List (List Int)) (w : World) (E : Env w) (h1 : InRows w v1 X) (h2 : InRows w v2 Y) (hX : ∀ r ∈ X, ∀ n ∈ r, I64 n) (hY : ∀ r ∈ Y, ∀ n ∈ r, I64 n) :
    Calls Tryd.prog 4 #[v1, v2, .int .i64 cut] w fun e w' => e = .returned (.bool true) ∧ Fr (fun _ => False) w w' := by
  obtain ⟨x, hx⟩ : ∃ x, fewT X = x := ⟨_, rfl⟩
  obtain ⟨y, hy⟩ : ∃ y, fewT Y = y := ⟨_, rfl⟩
  obtain ⟨s, hs⟩ : ∃ s : ByteArray, (⟨(text x).toArray⟩ : ByteArray) = s := ⟨_, rfl⟩
  obtain ⟨t, ht⟩ : ∃ t : ByteArray, (⟨(text y).toArray⟩ : ByteArray) = t := ⟨_, rfl⟩
  have hsl : s.data.toList = text x := by rw [← hs]
  have htl : t.data.toList = text y := by rw [← ht]
  have hx1 := few_I64 hX
  have hy1 := few_I64 hY
  have hxt := few_text hX
  have hyt := few_text hY
  have hx8 := few_len X
  have hy8 := few_len Y
  have hx6 := few_row X
  have hy6 := few_row Y
  have c1 := few_any v1 X w h1
  have c2 := fun w' (f : Fr (fun _ => False) w w') => few_any v2 Y w' (h2.fr f)
  rw [hx] at hx1 hxt hx8 hx6 c1
  simp only [hy] at hy1 hyt hy8 hy6 c2
  have hss : s.size ≤ 1064 := by rw [show s.size = s.data.toList.length from Array.length_toList.symm, hsl]; exact hxt
  have wx := fun u w' (hu : RowsAt w' u x) E' => write_any u x w' hu hx1 (by omega) E'
  have wy := fun u w' (hu : RowsAt w' u y) E' => write_any u y w' hu hy1 (by omega) E'
  rw [hs] at wx
  rw [ht] at wy
  have rd := fun w' E' => read_any s (by omega) w' E'
  rw [hsl] at rd
  have hsx : ∀ r ∈ x, r.length ≤ 1000000 := fun r hr => Nat.le_trans (hx6 r hr) (by omega)
  have hsy : ∀ r ∈ y, r.length ≤ 1000000 := fun r hr => Nat.le_trans (hy6 r hr) (by omega)
  have sxx := fun u v w' (hu : RowsAt w' u x) (hv : RowsAt w' v x) => rowsame_any u v x x w' hu hv (by omega) (by omega) hsx hsx
  have sxy := fun u v w' (hu : RowsAt w' u x) (hv : RowsAt w' v y) => rowsame_any u v x y w' hu hv (by omega) (by omega) hsx hsy
  simp only [decide_true] at sxx
  have heq : (s.toList == t.toList) = decide (x = y) := by
    rw [Lib.toList_data, Lib.toList_data, hsl, htl]
    by_cases h : x = y
    · subst h; simp
    · rw [decide_eq_false h]
      simpa using fun e => h ((text_inj hx1 hy1).1 e)
  have hrr := rows_text hx1
  have HC1 := hid' c1
  have HC2 := hid' c2
  have HWX := hid' wx
  have HWY := hid' wy
  have HRD := hid' rd
  have HRR := hid' hrr
  have HSX := hid' sxx
  have HSY := hid' sxy
  have HE := hid' E
  have HSL := hid' hsl
  have HX1 := hid' hx1
  clear hs ht hsl htl hx1 hy1 hxt hyt hx6 hy6 hx8 hy8 hsx hsy c1 c2 wx wy rd hrr sxx sxy E h1 h2 hX hY
  go_enter Tryd.func4, Tryd.ntmps4
  go_wp2_with fail
  refine HC1.out.mono ?_
  rintro e w1 ⟨u1, rfl, hu1, f1⟩
  have HF1 := hid' f1
  have HU1 := hid' hu1
  clear f1 hu1 HC1
  go_wp2_with fail
  refine (HC2.out w1 HF1.out).mono ?_
  rintro e w2 ⟨u2, rfl, hu2, f2⟩
  have HU2 := hid' hu2
  have HU1b := hid' (HU1.out.fr f2)
  have HF2 := hid' (HF1.out.trans f2)
  clear f2 hu2 HC2 HU1
  have HE2 := hid' (HE.out.fr HF2.out)
  go_wp2_with fail
  refine (HWX.out u1 w2 HU1b.out HE2.out).mono ?_
  rintro e w3 ⟨rfl, f3⟩
  have HF3 := hid' f3
  clear f3
  go_wp2_with fail
  refine (HWY.out u2 w3 (HU2.out.fr HF3.out) (HE2.out.fr HF3.out)).mono ?_
  rintro e w4 ⟨rfl, f4⟩
  have HF4 := hid' (HF3.out.trans f4)
  clear f4
  go_wp2_with fail
  refine (HRD.out w4 (HE2.out.fr HF4.out)).mono ?_
  rintro e w5 ⟨f5, hpost⟩
  rw [HRR.out] at hpost
  obtain ⟨v, rfl, hv⟩ := hpost
  have HV := hid' hv
  have HF5 := hid' (HF4.out.trans f5)
  clear f5 hv HWX HWY HRD
  go_wp2_with fail
  refine (HSX.out v u1 w5 HV.out (HU1b.out.fr HF5.out)).mono ?_
  rintro e w6 ⟨rfl, f6⟩
  have HF6 := hid' (HF5.out.trans f6)
  clear f6 HV HSX
  go_wp2_with fail
  refine (HSY.out u1 u2 w6 (HU1b.out.fr HF6.out) (HU2.out.fr HF6.out)).mono ?_
  rintro e w7 ⟨rfl, f7⟩
  have HF7 := hid' (HF6.out.trans f7)
  clear f7 HSY
  go_wp2_with fail
  refine (within_any cut 0 s.size w7 (by omega) (by omega) (by omega)).mono ?_
  rintro e w7' ⟨⟨k', hk0, hk1, rfl⟩, rfl⟩
  obtain ⟨k, rfl⟩ : ∃ k : Nat, k' = k := ⟨k'.toNat, by omega⟩
  have hks : k ≤ s.size := by omega
  obtain ⟨q, hq⟩ : ∃ q : ByteArray, s.extract 0 k = q := ⟨_, rfl⟩
  have hql : q.data.toList = (text x).take k := by rw [← hq, take_data, HSL.out]
  have hqs : q.size ≤ 1064 := by
    rw [show q.size = q.data.toList.length from Array.length_toList.symm, hql, List.length_take, ← HSL.out, show s.data.toList.length = s.size from Array.length_toList]
    omega
  have HQL := hid' hql
  have hfr := front_reads HX1.out k (by rw [← HSL.out, show s.data.toList.length = s.size from Array.length_toList]; exact hks)
  have hgb := get_bt s
  have hb10 : 0 < k → ((text x)[k - 1]? = some 10 ↔ bt s (k - 1) = 10) := fun hk => by
    rw [bt_list, ← HSL.out]
    have h' : k - 1 < s.data.toList.length := by rw [show s.data.toList.length = s.size from Array.length_toList]; omega
    simp only [List.getD, List.getElem?_eq_getElem h', Option.getD_some, Option.some.injEq]
    have e10 : UInt8.toNat 10 = 10 := rfl
    exact ⟨fun h => by rw [h]; rfl, fun h => UInt8.toNat_inj.1 (by omega)⟩
  have HFR := hid' hfr
  have HB10 := hid' hb10
  have HQ := hid' hq
  clear hfr hb10 hql heq
  have HE7 := hid' (HE2.out.fr HF7.out)
  have HFA := hid' (HF2.out.trans HF7.out)
  clear HF1 HF2 HF3 HF4 HF5 HF6 HF7 HE2
  simp only []
  by_cases hk : k = 0
  · subst hk
    have HR := hid' (read_yes ByteArray.empty (by decide) w7 HE7.out rfl)
    go_wp2_with fail
    refine HR.out.mono ?_
    rintro e w8 ⟨⟨v8, rfl⟩, f8⟩
    have HF8 := hid' (HFA.out.trans f8)
    have HRU := hid' (runs_any w8 (HE7.out.fr f8))
    clear f8 HR
    go_wp2_with fail
    refine HRU.out.mono ?_
    rintro e w9 ⟨rfl, f9⟩
    have HF9 := hid' (HF8.out.trans f9)
    clear f9 HRU
    go_wp2_with fail
    go_ret
    exact ⟨rfl, HF9.out⟩
  · obtain ⟨j, rfl⟩ : ∃ j, k = j + 1 := ⟨k - 1, by omega⟩
    have h10 := HB10.out (by omega)
    rw [Nat.add_sub_cancel] at h10
    have hq' := HQ.out
    by_cases hb : bt s j = 10
    · have HR := hid' (read_yes q (by omega) w7 HE7.out (by rw [HQL.out]; exact HFR.out.2 (.inr (by rw [Nat.add_sub_cancel]; exact h10.2 hb))))
      clear h10
      go_wp2_with fail
      refine HR.out.mono ?_
      rintro e w8 ⟨⟨v8, rfl⟩, f8⟩
      have HF8 := hid' (HFA.out.trans f8)
      have HRU := hid' (runs_any w8 (HE7.out.fr f8))
      clear f8 HR
      go_wp2_with fail
      refine HRU.out.mono ?_
      rintro e w9 ⟨rfl, f9⟩
      have HF9 := hid' (HF8.out.trans f9)
      clear f9 HRU
      go_wp2_with fail
      go_ret
      exact ⟨rfl, HF9.out⟩
    · have HR := hid' (read_no q (by omega) w7 HE7.out (by
        rw [HQL.out]
        cases hc : rows ((text x).take (j + 1)) with
        | none => rfl
        | some z =>
          have := HFR.out.1 (by rw [hc]; rfl)
          rw [Nat.add_sub_cancel] at this
          rcases this with h | h
          · cases h
          · exact absurd (h10.1 h) hb))
      clear h10
      go_wp2_with fail
      refine HR.out.mono ?_
      rintro e w8 ⟨rfl, f8⟩
      have HF8 := hid' (HFA.out.trans f8)
      have HRU := hid' (runs_any w8 (HE7.out.fr f8))
      clear f8 HR
      go_wp2_with fail
      refine HRU.out.mono ?_
      rintro e w9 ⟨rfl, f9⟩
      have HF9 := hid' (HF8.out.trans f9)
      clear f9 HRU
      go_wp2_with fail
      go_ret
      exact ⟨by simp [hb]; omega, HF9.out⟩

end Go.Proofs.YtknjhmaldnjhbaaDoor

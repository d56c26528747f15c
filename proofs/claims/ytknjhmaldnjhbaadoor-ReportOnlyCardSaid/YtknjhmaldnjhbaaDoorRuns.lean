/- The contract of ReportRuns. -/
import Derived.Test.YtknjhmaldnjhbaaDoorR
import Derived.Test.YtknjhmaldnjhbaaDoorW
namespace Go.Proofs.YtknjhmaldnjhbaaDoor
open Go.RowKit Go.Deep

theorem dec1 : Lib.decDigits 1 = [49] := by rw [Lib.decDigits_one (by omega)]; rfl

theorem rows_01 : rows [48, 49, 10] = none := by
  have h := rows_line [48, 49] [] (by decide)
  have hn : nums [48, 49] = none := by
    unfold nums
    rw [if_neg (by simp)]
    have hp : pieces 32 [48, 49] = [[48, 49]] := by decide
    rw [hp, canons]
    have hc : canon [48, 49] = none := by
      unfold canon
      have ha : Lib.atoiAll [48, 49] = .ok 1 := by decide
      rw [ha]
      have hi : Lib.itoa 1 = [49] := by
        rw [itoa_pos (by omega)]
        exact dec1
      show (if Lib.itoa 1 = [48, 49] then some 1 else none) = none
      rw [hi]
      exact if_neg (by decide)
    rw [hc]
    rfl
  rw [show [48, 49, 10] = [48, 49] ++ 10 :: ([] : List UInt8) from rfl, h, hn]
  rfl

theorem text_runs : text [[1, -2], []] = [49, 32, 45, 50, 10, 10] := by
  have h1 : Lib.itoa 1 = [49] := by rw [itoa_pos (by omega)]; exact dec1
  have h2 : Lib.itoa (-2) = [45, 50] := by
    rw [itoa_negD (by omega)]
    show 45 :: Lib.decDigits 2 = _
    rw [Lib.decDigits_one (by omega)]
    rfl
  simp [text, rowT, tailT, h1, h2]

theorem amount_a : amount (-5) = [45, 48, 46, 48, 53] := by
  unfold amount
  simp [Lib.decDigits]

theorem amount_b : amount 12345 = [49, 50, 51, 46, 52, 53] := by
  unfold amount
  simp [Lib.decDigits]

theorem amount_c : amount (-9223372036854775808) = [45, 57, 50, 50, 51, 51, 55, 50, 48, 51, 54, 56, 53, 52, 55, 55, 53, 56, 46, 48, 56] := by
  unfold amount
  simp [Lib.decDigits]

set_option maxRecDepth 100000 in
set_option maxHeartbeats 4000000 in
theorem runs_any (w : World) (E : Env w) : Calls Tryd.prog 3 #[] w fun e w' => e = .returned (.bool true) ∧ Fr (fun _ => False) w w' := by
  have HR := hid' (read_any ⟨#[48, 49, 10]⟩ (by decide) w E)
  have HE := hid' E
  clear E
  go_enter Tryd.func3, Tryd.ntmps3
  go_wp2_with fail
  refine HR.out.mono ?_
  rintro e w1 ⟨f1, h1⟩
  rw [rows_01] at h1
  obtain rfl : e = _ := h1
  have HF1 := hid' f1
  have HE1 := hid' (HE.out.fr f1)
  clear f1 HR
  go_wp2_with fail
  have fz : Fr (fun _ => False) w1 (((w1.alloc (.cells #[.int .i64 1, .int .i64 (-2)] 3)).alloc (.cells #[] 3)).alloc (.cells #[.slice (some ⟨w1.heap.size, 0, none⟩) 2 2, .slice (some ⟨w1.heap.size + 1, 0, none⟩) 0 0] 26)) := (((Fr.refl _ _).alloc _).alloc _).alloc _
  have hr : RowsAt (((w1.alloc (.cells #[.int .i64 1, .int .i64 (-2)] 3)).alloc (.cells #[] 3)).alloc (.cells #[.slice (some ⟨w1.heap.size, 0, none⟩) 2 2, .slice (some ⟨w1.heap.size + 1, 0, none⟩) 0 0] 26)) (.slice (some ⟨w1.heap.size + 1 + 1, 0, none⟩) 2 2) [[1, -2], []] := by
    have ra := ((World.rowIs_alloc w1 #[.int .i64 1, .int .i64 (-2)] 3 (fun j => (#[.int .i64 1, .int .i64 (-2)] : Array Value).getD j undef) (fun i hi => by
      match i, hi with
      | 0, _ => rfl
      | 1, _ => rfl)).alloc (.cells #[] 3)).alloc (.cells #[.slice (some ⟨w1.heap.size, 0, none⟩) 2 2, .slice (some ⟨w1.heap.size + 1, 0, none⟩) 0 0] 26)
    have rc := World.rowIs_alloc ((w1.alloc (.cells #[.int .i64 1, .int .i64 (-2)] 3)).alloc (.cells #[] 3)) #[.slice (some ⟨w1.heap.size, 0, none⟩) 2 2, .slice (some ⟨w1.heap.size + 1, 0, none⟩) 0 0] 26 (fun j => (#[.slice (some ⟨w1.heap.size, 0, none⟩) 2 2, .slice (some ⟨w1.heap.size + 1, 0, none⟩) 0 0] : Array Value).getD j undef) (fun i hi => by
      match i, hi with
      | 0, _ => rfl
      | 1, _ => rfl)
    simp only [World.size_alloc] at rc
    refine .inr ⟨_, 2, rfl, fun k r hk => ?_⟩
    rw [add_flat]
    match k, hk with
    | 0, hk =>
      have hk : [1, -2] = r := by simpa using hk
      subst hk
      refine ⟨_, rc.cell (i := 0) (show 0 < 2 by decide), .inr ⟨_, 2, rfl, fun j x hx => ?_⟩⟩
      rw [add_flat]
      match j, hx with
      | 0, hx =>
        have hx : 1 = x := by simpa using hx
        subst hx
        exact ra.cell (i := 0) (show 0 < 2 by decide)
      | 1, hx =>
        have hx : -2 = x := by simpa using hx
        subst hx
        exact ra.cell (i := 1) (show 1 < 2 by decide)
    | 1, hk =>
      have hk : [] = r := by simpa using hk
      subst hk
      exact ⟨_, rc.cell (i := 1) (show 1 < 2 by decide), .inr ⟨_, 0, rfl, fun j x hx => by simp at hx⟩⟩
  have HW := hid' (write_any _ [[1, -2], []] _ hr (fun r hr n hn => by
    unfold I64
    simp at hr
    rcases hr with rfl | rfl
    · simp at hn
      rcases hn with rfl | rfl <;> omega
    · cases hn) (by rw [text_runs]; simp) (HE1.out.fr fz))
  rw [text_runs] at HW
  have HFZ := hid' (HF1.out.trans fz)
  clear hr fz
  refine HW.out.mono ?_
  rintro e w2 ⟨rfl, f2⟩
  have HF2 := hid' (HFZ.out.trans f2)
  have HA := hid' (amount_any (-5) (by unfold I64; omega) w2 (HE.out.fr HF2.out))
  rw [amount_a] at HA
  clear f2 HW HFZ
  go_wp2_with fail
  refine HA.out.mono ?_
  rintro e w3 ⟨rfl, f3⟩
  have HF3 := hid' (HF2.out.trans f3)
  have HB := hid' (amount_any 12345 (by unfold I64; omega) w3 (HE.out.fr HF3.out))
  rw [amount_b] at HB
  clear f3 HA
  go_wp2_with fail
  refine HB.out.mono ?_
  rintro e w4 ⟨rfl, f4⟩
  have HF4 := hid' (HF3.out.trans f4)
  have HC := hid' (amount_any (-9223372036854775808) (by unfold I64; omega) w4 (HE.out.fr HF4.out))
  rw [amount_c] at HC
  clear f4 HB
  go_wp2_with fail
  refine HC.out.mono ?_
  rintro e w5 ⟨rfl, f5⟩
  have HF5 := hid' (HF4.out.trans f5)
  clear f5 HC
  go_wp2_with fail
  go_ret
  exact ⟨rfl, HF5.out⟩

end Go.Proofs.YtknjhmaldnjhbaaDoor

/- The contract of ReportOnly. -/
import Derived.Test.YtknjhmaldnjhbaaDoorBy
import Derived.Test.YtknjhmaldnjhbaaDoorQ
import Derived.Test.YtknjhmaldnjhbaaDoorG
import Derived.Test.YtknjhmaldnjhbaaDoorRuns
import Derived.Test.YtknjhmaldnjhbaaDoorWi
import Derived.Test.YtknjhmaldnjhbaaDoorBk
namespace Go.Proofs.YtknjhmaldnjhbaaDoor
open Go.RowKit Go.Deep

theorem countP_step (l : List UInt8) (k : Nat) (h : k < l.length) : (l.take (k + 1)).countP digB = (l.take k).countP digB + if digB (l.getD k 0) = true then 1 else 0 := by
  rw [List.take_add_one, List.getElem?_eq_getElem h, Option.toList_some, List.countP_append, List.countP_singleton]
  simp [List.getD, h]

/-- What the program asks at each place, of the bytes as numbers. -/
def okB (B : Nat → Int) (n i : Nat) : Prop :=
  ((48 ≤ B i ∧ B i ≤ 57) ∨ B i = 10 ∨ (B i = 32 ∧ 0 < i ∧ i + 1 < n ∧ (48 ≤ B (i - 1) ∧ B (i - 1) ≤ 57) ∧ 49 ≤ B (i + 1) ∧ B (i + 1) ≤ 57)) ∧ (B i ≠ 48 ∨ (0 < i ∧ 48 ≤ B (i - 1) ∧ B (i - 1) ≤ 57))

theorem okB_snoc {B : Nat → Int} {n k : Nat} (h : ∀ j, j < k → okB B n j) (h1 : okB B n k) : ∀ j, j < k + 1 → okB B n j := fun j hj => by
  by_cases e : j = k
  · rw [e]; exact h1
  · exact h j (by omega)

theorem okA_of {l : List UInt8} {B : Nat → Int} (hB : ∀ i, B i = ((l.getD i 0).toNat : Int)) {i : Nat} (h : okB B l.length i) : okA l i := by
  have hd : ∀ i, digB (l.getD i 0) = true ↔ 48 ≤ B i ∧ B i ≤ 57 := fun i => by rw [digB_iff, hB i]; omega
  unfold okB at h
  unfold okA
  rw [hd, hd]
  have h0 := hB i
  have h1 := hB (i + 1)
  omega

set_option maxRecDepth 100000 in
set_option maxHeartbeats 8000000 in
theorem only_any (v1 : Value) (s : ByteArray) (at_ : Int) (xb : UInt8) (X : List (List Int)) (w : World) (E : Env w) (h1 : InRows w v1 X) (hX : ∀ r ∈ X, ∀ n ∈ r, I64 n) (hs : s.size ≤ 140737488355328) :
    Calls Tryd.prog 5 #[v1, .string s, .int .i64 at_, .int .u8 (xb.toNat : Int)] w fun e w' => e = .returned (.bool true) ∧ Fr (fun _ => False) w w' := by
  obtain ⟨x, hx⟩ : ∃ x, fewT X = x := ⟨_, rfl⟩
  obtain ⟨t, ht⟩ : ∃ t : ByteArray, (⟨(text x).toArray⟩ : ByteArray) = t := ⟨_, rfl⟩
  have htl : t.data.toList = text x := by rw [← ht]
  have hx1 := few_I64 hX
  have hxt := few_text hX
  have c1 := fun w' (f : Fr (fun _ => False) w w') => few_any v1 X w' (h1.fr f)
  simp only [hx] at hx1 hxt c1
  have hts : t.size ≤ 1064 := by rw [show t.size = t.data.toList.length from Array.length_toList.symm, htl]; exact hxt
  have wx := fun u w' (hu : RowsAt w' u x) E' => write_any u x w' hu hx1 (by omega) E'
  rw [ht] at wx
  obtain ⟨m, hm⟩ : ∃ m : Nat, min s.size 12 = m := ⟨_, rfl⟩
  have hm1 : min (s.size : Int) 12 = m := by omega
  have hm2 : m ≤ s.size := by omega
  have hm3 : m ≤ 12 := by omega
  obtain ⟨sa, hsa⟩ : ∃ sa : ByteArray, s.extract 0 m = sa := ⟨_, rfl⟩
  have hsas : sa.size ≤ 12 := by
    rw [← hsa, show (s.extract 0 m).size = (s.extract 0 m).data.toList.length from Array.length_toList.symm, take_data, List.length_take]
    omega
  have hcat : ¬ 9223372036854775807 < t.size + sa.size := by omega
  have HC1 := hid' c1
  have HWX := hid' wx
  have HE := hid' E
  clear ht htl hx1 hxt c1 wx E h1 hX hm
  go_enter Tryd.func5, Tryd.ntmps5
  go_upto_region 1 with (fail)
  refine wp_plan (fun _ => True) [(0, true), (3, true), (4, true), (5, true), (6, true), (7, true), (1, false), (2, false), (8, true), (9, false), (10, true)] _ (by kernel_rfl) (by kernel_rfl) (by simp only [planOps, List.getElem?_toArray, List.getElem?_cons_zero, List.getElem?_cons_succ]; rfl) trivial ?_
  iterate 6 (refine plan_take (v := ?_) rfl ?_ ?_; rotate_left; (focus (intro _ hS; go_simp; first | done | with_reducible rfl)); simp only [Act.put, List.setIfInBounds_toArray, List.set_cons_zero, List.set_cons_succ])
  refine plan_do rfl fun K hK => ?_
  go_simp
  go_at_call 11
  refine (HC1.out _ (Fr.refl _ _).drew).mono ?_
  rintro e w1 ⟨u1, rfl, hu1, f1⟩
  simp only []
  have HF1 := hid' ((Fr.refl _ w).drew.trans f1)
  refine hK _ _ trivial ?_
  clear hK K HC1 f1
  refine plan_do rfl fun K hK => ?_
  go_simp
  go_at_call 9
  refine (HWX.out u1 w1 hu1 (HE.out.fr HF1.out)).mono ?_
  rintro e w2 ⟨rfl, f2⟩
  simp only []
  have HF2 := hid' (HF1.out.trans f2)
  refine hK _ _ trivial ?_
  clear hK K HWX f2 hu1
  (refine plan_take (v := ?_) rfl ?_ ?_; rotate_left; (focus (intro _ hS; go_simp; first | done | with_reducible rfl)); simp only [Act.put, List.setIfInBounds_toArray, List.set_cons_zero, List.set_cons_succ])
  obtain ⟨cc, w3, hr3, hcc, hb3, f3⟩ := bytes_new w2 (t ++ sa)
  have hbl := hb3.lt
  obtain ⟨b, hb⟩ : ∃ b, w2.heap.size = b := ⟨_, rfl⟩
  obtain ⟨l0, hl0⟩ : ∃ l0, (t ++ sa).data.toList = l0 := ⟨_, rfl⟩
  obtain ⟨n, hn⟩ : ∃ n, l0.length = n := ⟨_, rfl⟩
  have hn2 : (t ++ sa).size = n := by rw [← hn, ← hl0]; exact Array.length_toList.symm
  have hnb : n ≤ 1076 := by rw [← hn2, ByteArray.size_append]; omega
  rw [hb, hn2] at hr3
  rw [hb, hl0] at hb3
  rw [hn2] at hcc
  have HB3 := hid' hb3
  have HF3 := hid' (HF2.out.trans f3)
  have hbw : w.heap.size ≤ b := by rw [← hb]; exact HF2.out.size
  have HN := hid' hn
  refine plan_do rfl fun K hK => ?_
  refine wp_convert_run _ 9 33 rfl rfl hr3 ?_
  refine hK _ _ trivial ?_
  clear hK K hr3 hb3 f3 hl0 hn hn2 hbl hb hsa
  simp only [Act.put, List.setIfInBounds_toArray, List.set_cons_zero, List.set_cons_succ]
  (refine plan_take (v := ?_) rfl ?_ ?_; rotate_left; (focus (intro _ hS; go_simp; first | done | with_reducible rfl)); simp only [Act.put, List.setIfInBounds_toArray, List.set_cons_zero, List.set_cons_succ])
  refine plan_nil ?_
  by_cases hn0 : n = 0
  · subst hn0
    have hl00 : l0 = [] := List.eq_nil_of_length_eq_zero HN.out
    subst hl00
    obtain ⟨z, hz⟩ : ∃ z, rows [] = some z := ⟨[], rfl⟩
    have hcv := bytes_back (c := cc) HB3.out HN.out
    obtain ⟨q, hq⟩ : ∃ q : ByteArray, (⟨([] : List UInt8).toArray⟩ : ByteArray) = q := ⟨_, rfl⟩
    have HQ := hid' hq
    have HRD := hid' (fun w' E' => read_any q (by rw [← hq]; decide) w' E')
    rw [hq] at hcv
    rw [show q.data.toList = [] by rw [← hq]] at HRD
    have HLL := hid' (show ([] : List UInt8).length ≤ 1000000 by decide)
    have HF4 := hid' HF3.out
    have HB4 := hid' HB3.out
    have HN4 := hid' HN.out
    clear hq
    go_wp2_with fail
    have HZ := hid' (rows_some hz)
    refine (HRD.out w3 (HE.out.fr HF4.out)).mono ?_
    rintro e w5 ⟨f5, hpost⟩
    rw [hz] at hpost
    obtain ⟨v, rfl, hv⟩ := hpost
    have HV := hid' hv
    have HF5 := hid' (HF4.out.trans f5)
    have HB5 := hid' (HB4.out.fr f5 id)
    clear f5 hv hz
    go_upto_region 6 with (fail)
    refine wp_plan (fun w' => BytesIn w' b []) [(0, true), (2, true), (3, true), (1, false), (4, true), (5, true), (6, false), (7, true), (8, true)] _ (by kernel_rfl) (by kernel_rfl) (by simp only [planOps, List.getElem?_toArray, List.getElem?_cons_zero, List.getElem?_cons_succ]; rfl) (HB5.out.fr (Fr.refl (fun _ => False) w5).drew id) ?_
    iterate 3 (refine plan_take (v := ?_) rfl ?_ ?_; rotate_left; (focus (intro _ hS; have hcv := bytes_back (c := cc) hS HN4.out; rw [HQ.out] at hcv; go_simp; first | done | with_reducible rfl)); simp only [Act.put, List.setIfInBounds_toArray, List.set_cons_zero, List.set_cons_succ])
    have HWD := hid' (write_any v z w5.drew (HV.out.fr (Fr.refl _ w5).drew) HZ.out.2 (by rw [HZ.out.1]; exact HLL.out) (HE.out.fr HF5.out.drew))
    rw [HZ.out.1, HQ.out] at HWD
    refine plan_do rfl fun K hK => ?_
    go_simp
    go_at_call 9
    refine HWD.out.mono ?_
    rintro e w6 ⟨rfl, f6⟩
    simp only []
    have HF6 := hid' (HF5.out.drew.trans f6)
    have HFX := hid' f6
    refine hK _ _ (HB5.out.fr ((Fr.refl (fun _ => False) w5).drew.trans f6) id) ?_
    have HRU := hid' (runs_any w6 (HE.out.fr HF6.out))
    clear hK K f6 HWD
    iterate 2 (refine plan_take (v := ?_) rfl ?_ ?_; rotate_left; (focus (intro _ hS; go_simp; first | done | with_reducible rfl)); simp only [Act.put, List.setIfInBounds_toArray, List.set_cons_zero, List.set_cons_succ])
    refine plan_do rfl fun K hK => ?_
    go_simp
    go_at_call 3
    refine HRU.out.mono ?_
    rintro e w7 ⟨rfl, f7⟩
    simp only []
    have HF7 := hid' (HF6.out.trans f7)
    refine hK _ _ (HB5.out.fr (((Fr.refl (fun _ => False) w5).drew.trans (HFX.out)).trans f7) id) ?_
    clear hK K f7 HRU
    iterate 2 (refine plan_take (v := ?_) rfl ?_ ?_; rotate_left; (focus (intro _ hS; go_simp; first | done | with_reducible rfl)); simp only [Act.put, List.setIfInBounds_toArray, List.set_cons_zero, List.set_cons_succ])
    refine plan_nil ?_
    go_wp2_with fail
    go_ret
    exact ⟨rfl, HF7.out⟩
  · have hn1 : 0 < n := by omega
    go_wp2_with fail
    refine (within_any at_ 0 (n - 1) w3 (by omega) (by omega) (by omega)).mono ?_
    rintro e w3' ⟨⟨j', hj0, hj1, rfl⟩, rfl⟩
    obtain ⟨j, rfl⟩ : ∃ j : Nat, j' = j := ⟨j'.toNat, by omega⟩
    simp only []
    have hjn : j < l0.length := by rw [HN.out]; omega
    have hfz := HB3.out.frozen hjn
    have hcl := HB3.out.cell hjn
    have hB4 := HB3.out.set j xb
    obtain ⟨l, hl⟩ : ∃ l, l0.set j xb = l := ⟨_, rfl⟩
    have hln : l.length = n := by rw [← hl, List.length_set, HN.out]
    rw [hl] at hB4
    have hcv := bytes_back (c := cc) hB4 hln
    obtain ⟨q, hq⟩ : ∃ q : ByteArray, (⟨l.toArray⟩ : ByteArray) = q := ⟨_, rfl⟩
    rw [hq] at hcv
    have hql : q.data.toList = l := by rw [← hq]
    have hqs : q.size ≤ 1076 := by rw [show q.size = q.data.toList.length from Array.length_toList.symm, hql, hln]; exact hnb
    have HQ := hid' hq
    have HRD := hid' (fun w' E' => read_any q (by omega) w' E')
    rw [hql] at HRD
    have HLL := hid' (show l.length ≤ 1000000 by omega)
    have HF4 := hid' (HF3.out.fresh ((Fr.refl (fun k => k = b) w3).setCell (a := ⟨b, j, none⟩) (fun _ => rfl) (.int .u8 (xb.toNat : Int))) (fun k hk h => by have h : k = b := h; omega))
    have HB4 := hid' hB4
    have HN4 := hid' hln
    obtain ⟨w4, hw4⟩ : ∃ w4, w3.setCell ⟨b, j, none⟩ (.int .u8 (xb.toNat : Int)) = w4 := ⟨_, rfl⟩
    rw [hw4] at hcv HF4 HB4
    have HW4 := hid' hw4
    clear hq hql hB4 hjn hl hln
    go_wp2_with fail
    cases hz : rows l with
    | some z =>
      have HZ := hid' (rows_some hz)
      refine (HRD.out w4 (HE.out.fr HF4.out)).mono ?_
      rintro e w5 ⟨f5, hpost⟩
      rw [hz] at hpost
      obtain ⟨v, rfl, hv⟩ := hpost
      have HV := hid' hv
      have HF5 := hid' (HF4.out.trans f5)
      have HB5 := hid' (HB4.out.fr f5 id)
      clear f5 hv hz
      go_upto_region 6 with (fail)
      refine wp_plan (fun w' => BytesIn w' b l) [(0, true), (2, true), (3, true), (1, false), (4, true), (5, true), (6, false), (7, true), (8, true)] _ (by kernel_rfl) (by kernel_rfl) (by simp only [planOps, List.getElem?_toArray, List.getElem?_cons_zero, List.getElem?_cons_succ]; rfl) (HB5.out.fr (Fr.refl (fun _ => False) w5).drew id) ?_
      iterate 3 (refine plan_take (v := ?_) rfl ?_ ?_; rotate_left; (focus (intro _ hS; have hcv := bytes_back (c := cc) hS HN4.out; rw [HQ.out] at hcv; go_simp; first | done | with_reducible rfl)); simp only [Act.put, List.setIfInBounds_toArray, List.set_cons_zero, List.set_cons_succ])
      have HWD := hid' (write_any v z w5.drew (HV.out.fr (Fr.refl _ w5).drew) HZ.out.2 (by rw [HZ.out.1]; exact HLL.out) (HE.out.fr HF5.out.drew))
      rw [HZ.out.1, HQ.out] at HWD
      refine plan_do rfl fun K hK => ?_
      go_simp
      go_at_call 9
      refine HWD.out.mono ?_
      rintro e w6 ⟨rfl, f6⟩
      simp only []
      have HF6 := hid' (HF5.out.drew.trans f6)
      have HFX := hid' f6
      refine hK _ _ (HB5.out.fr ((Fr.refl (fun _ => False) w5).drew.trans f6) id) ?_
      have HRU := hid' (runs_any w6 (HE.out.fr HF6.out))
      clear hK K f6 HWD
      iterate 2 (refine plan_take (v := ?_) rfl ?_ ?_; rotate_left; (focus (intro _ hS; go_simp; first | done | with_reducible rfl)); simp only [Act.put, List.setIfInBounds_toArray, List.set_cons_zero, List.set_cons_succ])
      refine plan_do rfl fun K hK => ?_
      go_simp
      go_at_call 3
      refine HRU.out.mono ?_
      rintro e w7 ⟨rfl, f7⟩
      simp only []
      have HF7 := hid' (HF6.out.trans f7)
      refine hK _ _ (HB5.out.fr (((Fr.refl (fun _ => False) w5).drew.trans (HFX.out)).trans f7) id) ?_
      clear hK K f7 HRU
      iterate 2 (refine plan_take (v := ?_) rfl ?_ ?_; rotate_left; (focus (intro _ hS; go_simp; first | done | with_reducible rfl)); simp only [Act.put, List.setIfInBounds_toArray, List.set_cons_zero, List.set_cons_succ])
      refine plan_nil ?_
      go_wp2_with fail
      go_ret
      exact ⟨rfl, HF7.out⟩
    | none =>
      refine (HRD.out w4 (HE.out.fr HF4.out)).mono ?_
      rintro e w5 ⟨f5, hpost⟩
      rw [hz] at hpost
      obtain rfl := hpost
      have HF5 := hid' (HF4.out.trans f5)
      have HB5 := hid' (HB4.out.fr f5 id)
      have HZ := hid' hz
      obtain ⟨B, hBB⟩ : ∃ B : Nat → Int, ∀ i, B i = ((l.getD i 0).toNat : Int) := ⟨_, fun _ => rfl⟩
      have HBB := hid' hBB
      have HB0 := hid' (show ∀ i, 0 ≤ B i ∧ B i ≤ 255 from fun i => by have := hBB i; have := (l.getD i 0).toNat_lt; omega)
      have HCE := hid' (show ∀ i, i < n → w5.cell? ⟨b, i, none⟩ = some (.int .u8 (B i)) from fun i hi => by rw [hBB i]; exact HB5.out.cell (by rw [HN4.out]; exact hi))
      clear f5 hz hBB
      clear hcv hfz hcl HRD HB3 HF3 HF4 HB4 HW4 hw4 HQ HLL
      obtain ⟨p, rfl⟩ : ∃ p, n = p + 1 := ⟨n - 1, by omega⟩
      have hcp := HCE.out p (by omega)
      obtain ⟨g0, hg0⟩ : ∃ g0, (B p == 10) = g0 := ⟨_, rfl⟩
      have HG0 := hid' hg0
      go_wp2_with fail
      clear hcp hg0
      go_loopw [69, 12] (fun i gd wr => ∃ (k : Nat) (g : Bool), i = .int .i64 k ∧ gd = .bool g ∧ k ≤ p + 1 ∧ Hid (g = true → B p = 10 ∧ ∀ j, j < k → okB B (p + 1) j) ∧ wr = w5) (fun i _ _ => p + 1 - (intOf i).toNat)
      case atStart => exact ⟨0, g0, rfl, rfl, by omega, fun h => ⟨by rw [h] at HG0; simpa using HG0.out, fun j hj => by omega⟩, rfl⟩
      case round =>
        obtain ⟨k, g, rfl, rfl, hk, hg, rfl⟩ := hrel
        by_cases hlt : k < p + 1
        · have hck := HCE.out k hlt
          obtain ⟨hb0, hb1⟩ := HB0.out k
          cases g with
          | false =>
            clear hg
            by_cases h48 : 48 ≤ B k
            · by_cases h57 : B k ≤ 57
              · go_wp2_with fail
                go_roundw
                case rel => exact ⟨k + 1, false, by go_num, rfl, by omega, fun h => (by cases h), trivial⟩
                case measure => simp [intOf]; try omega
              · have h57' : 57 < B k := by omega
                go_wp2_with fail
                go_roundw
                case rel => exact ⟨k + 1, false, by go_num, rfl, by omega, fun h => (by cases h), trivial⟩
                case measure => simp [intOf]; try omega
            · have h48' : B k < 48 := by omega
              go_wp2_with fail
              go_roundw
              case rel => exact ⟨k + 1, false, by go_num, rfl, by omega, fun h => (by cases h), trivial⟩
              case measure => simp [intOf]; try omega
          | true =>
            have hall := hg.out rfl
            clear hg
            have HALL := hid' hall
            clear hall
            by_cases hd1 : 48 ≤ B k
            · by_cases hd2 : B k ≤ 57
              · by_cases h48 : B k = 48
                · rcases Nat.eq_zero_or_pos k with hk0 | hk0
                  · subst hk0
                    go_wp2_with fail
                    go_roundw
                    case rel => exact ⟨0 + 1, false, by go_num, rfl, by omega, fun h => (by cases h), trivial⟩
                    case measure => simp [intOf]; try omega
                  · obtain ⟨j, rfl⟩ : ∃ j, k = j + 1 := ⟨k - 1, by omega⟩
                    have hcj := HCE.out j (by omega)
                    obtain ⟨hj0, hj1⟩ := HB0.out j
                    by_cases hp1 : 48 ≤ B j
                    · by_cases hp2 : B j ≤ 57
                      · have hall := HALL
                        go_wp2_with fail
                        go_roundw
                        case rel => exact ⟨(j + 1) + 1, true, by go_num, rfl, by omega, fun _ => ⟨hall.out.1, okB_snoc hall.out.2 (by unfold okB; (try have e2 : B (j + 1 + 1) = B (j + 2) := rfl); (try simp only [Nat.add_sub_cancel]); omega)⟩, trivial⟩
                        case measure => simp [intOf]; try omega
                      · have hp3 : 57 < B j := by omega
                        go_wp2_with fail
                        go_roundw
                        case rel => exact ⟨(j + 1) + 1, false, by go_num, rfl, by omega, fun h => (by cases h), trivial⟩
                        case measure => simp [intOf]; try omega
                    · have hp3 : B j < 48 := by omega
                      go_wp2_with fail
                      go_roundw
                      case rel => exact ⟨(j + 1) + 1, false, by go_num, rfl, by omega, fun h => (by cases h), trivial⟩
                      case measure => simp [intOf]; try omega
                · have hall := HALL
                  go_wp2_with fail
                  go_roundw
                  case rel => exact ⟨k + 1, true, by go_num, rfl, by omega, fun _ => ⟨hall.out.1, okB_snoc hall.out.2 (by unfold okB; (try have e2 : B (j + 1 + 1) = B (j + 2) := rfl); (try simp only [Nat.add_sub_cancel]); omega)⟩, trivial⟩
                  case measure => simp [intOf]; try omega
              · have hd3 : 57 < B k := by omega
                go_wp2_with fail
                go_roundw
                case rel => exact ⟨k + 1, false, by go_num, rfl, by omega, fun h => (by cases h), trivial⟩
                case measure => simp [intOf]; try omega
            · have hd2 : B k < 48 := by omega
              by_cases h10 : B k = 10
              · have hall := HALL
                go_wp2_with fail
                go_roundw
                case rel => exact ⟨k + 1, true, by go_num, rfl, by omega, fun _ => ⟨hall.out.1, okB_snoc hall.out.2 (by unfold okB; (try have e2 : B (j + 1 + 1) = B (j + 2) := rfl); (try simp only [Nat.add_sub_cancel]); omega)⟩, trivial⟩
                case measure => simp [intOf]; try omega
              · by_cases h32 : B k = 32
                · rcases Nat.eq_zero_or_pos k with hk0 | hk0
                  · subst hk0
                    go_wp2_with fail
                    go_roundw
                    case rel => exact ⟨0 + 1, false, by go_num, rfl, by omega, fun h => (by cases h), trivial⟩
                    case measure => simp [intOf]; try omega
                  · obtain ⟨j, rfl⟩ : ∃ j, k = j + 1 := ⟨k - 1, by omega⟩
                    have hcj := HCE.out j (by omega)
                    obtain ⟨hj0, hj1⟩ := HB0.out j
                    by_cases hnx : j + 2 < p + 1
                    · have hcn := HCE.out (j + 2) hnx
                      obtain ⟨hn0, hn3⟩ := HB0.out (j + 2)
                      by_cases hp1 : 48 ≤ B j
                      · by_cases hp2 : B j ≤ 57
                        · by_cases hq1 : 49 ≤ B (j + 2)
                          · by_cases hq2 : B (j + 2) ≤ 57
                            · have hall := HALL
                              go_wp2_with fail
                              go_roundw
                              case rel => exact ⟨(j + 1) + 1, true, by go_num, rfl, by omega, fun _ => ⟨hall.out.1, okB_snoc hall.out.2 (by unfold okB; (try have e2 : B (j + 1 + 1) = B (j + 2) := rfl); (try simp only [Nat.add_sub_cancel]); omega)⟩, trivial⟩
                              case measure => simp [intOf]; try omega
                            · have hq3 : 57 < B (j + 2) := by omega
                              go_wp2_with fail
                              go_roundw
                              case rel => exact ⟨(j + 1) + 1, false, by go_num, rfl, by omega, fun h => (by cases h), trivial⟩
                              case measure => simp [intOf]; try omega
                          · have hq3 : B (j + 2) < 49 := by omega
                            go_wp2_with fail
                            go_roundw
                            case rel => exact ⟨(j + 1) + 1, false, by go_num, rfl, by omega, fun h => (by cases h), trivial⟩
                            case measure => simp [intOf]; try omega
                        · have hp3 : 57 < B j := by omega
                          go_wp2_with fail
                          go_roundw
                          case rel => exact ⟨(j + 1) + 1, false, by go_num, rfl, by omega, fun h => (by cases h), trivial⟩
                          case measure => simp [intOf]; try omega
                      · have hp3 : B j < 48 := by omega
                        go_wp2_with fail
                        go_roundw
                        case rel => exact ⟨(j + 1) + 1, false, by go_num, rfl, by omega, fun h => (by cases h), trivial⟩
                        case measure => simp [intOf]; try omega
                    · have hnx2 : p + 1 ≤ j + 2 := by omega
                      go_wp2_with fail
                      go_roundw
                      case rel => exact ⟨(j + 1) + 1, false, by go_num, rfl, by omega, fun h => (by cases h), trivial⟩
                      case measure => simp [intOf]; try omega
                · skip
                  go_wp2_with fail
                  go_roundw
                  case rel => exact ⟨k + 1, false, by go_num, rfl, by omega, fun h => (by cases h), trivial⟩
                  case measure => simp [intOf]; try omega
        · obtain rfl : k = p + 1 := by omega
          have HG := hid' hg.out
          clear hg
          go_wp2_with fail
          go_loopw [163, 16] (fun i q wr2 => ∃ k : Nat, i = .int .i64 k ∧ q = .int .i64 ((l.take k).countP digB : Nat) ∧ k ≤ p + 1 ∧ wr2 = wr) (fun i _ _ => p + 1 - (intOf i).toNat)
          case atStart => exact ⟨0, rfl, rfl, by omega, rfl⟩
          case round =>
            obtain ⟨k, rfl, rfl, hk, rfl⟩ := hrel
            by_cases hlt : k < p + 1
            · have hck := HCE.out k hlt
              obtain ⟨hb0, hb1⟩ := HB0.out k
              have hst := countP_step l k (by rw [HN4.out]; exact hlt)
              obtain ⟨q0, hq0⟩ : ∃ q0, (l.take k).countP digB = q0 := ⟨_, rfl⟩
              have hq1 : q0 ≤ 1076 := by
                rw [← hq0]
                exact Nat.le_trans List.countP_le_length (by rw [List.length_take, HN4.out]; omega)
              rw [hq0] at hst ⊢
              have HDB := hid' (show digB (l.getD k 0) = true ↔ 48 ≤ B k ∧ B k ≤ 57 by rw [digB_iff, HBB.out k]; omega)
              have HST := hid' hst
              clear hst hq0
              by_cases hd1 : 48 ≤ B k
              · by_cases hd2 : B k ≤ 57
                · go_wp2_with fail
                  go_roundw
                  case rel => exact ⟨k + 1, by go_num, by rw [HST.out, if_pos (HDB.out.2 ⟨hd1, hd2⟩)]; go_num, by omega, trivial⟩
                  case measure => simp [intOf]; try omega
                · have hd3 : 57 < B k := by omega
                  go_wp2_with fail
                  go_roundw
                  case rel => exact ⟨k + 1, by go_num, by rw [HST.out, if_neg (fun h => by have := HDB.out.1 h; omega)]; go_num, by omega, trivial⟩
                  case measure => simp [intOf]; try omega
              · have hd3 : B k < 48 := by omega
                go_wp2_with fail
                go_roundw
                case rel => exact ⟨k + 1, by go_num, by rw [HST.out, if_neg (fun h => by have := HDB.out.1 h; omega)]; go_num, by omega, trivial⟩
                case measure => simp [intOf]; try omega
            · obtain rfl : k = p + 1 := by omega
              have htk : l.take (p + 1) = l := List.take_of_length_le (by rw [HN4.out]; exact Nat.le_refl _)
              rw [htk]
              have hgood : g = true → 18 < l.countP digB := fun h => by
                have h1 := HG.out h
                refine bad_of_none HZ.out (.inr ?_) (fun i hi => okA_of HBB.out (by rw [HN4.out]; exact h1.2 i (by rw [HN4.out] at hi; exact hi)))
                have h2 := HBB.out p
                rw [h1.1] at h2
                rw [List.getLast?_eq_getElem?, HN4.out, Nat.add_sub_cancel]
                have hpl : p < l.length := by rw [HN4.out]; omega
                rw [List.getElem?_eq_getElem hpl]
                have e10 : UInt8.toNat 10 = 10 := rfl
                rw [show l.getD p 0 = l[p] by simp [List.getD, hpl]] at h2
                exact congrArg some (UInt8.toNat_inj.1 (by omega))
              obtain ⟨q0, hq0⟩ : ∃ q0, l.countP digB = q0 := ⟨_, rfl⟩
              rw [hq0] at hgood ⊢
              have HR := hid' (runs_any wr (HE.out.fr HF5.out))
              clear htk hq0
              cases g with
              | false =>
                clear hgood
                go_wp2_with fail
                refine HR.out.mono ?_
                rintro e w8 ⟨rfl, f8⟩
                have HF8 := hid' (HF5.out.trans f8)
                clear f8 HR
                go_wp2_with fail
                go_ret
                exact ⟨rfl, HF8.out⟩
              | true =>
                have hq18 : 18 < q0 := hgood rfl
                clear hgood
                go_wp2_with fail
                refine HR.out.mono ?_
                rintro e w8 ⟨rfl, f8⟩
                have HF8 := hid' (HF5.out.trans f8)
                clear f8 HR
                go_wp2_with fail
                go_ret
                exact ⟨by simp; try omega, HF8.out⟩

end Go.Proofs.YtknjhmaldnjhbaaDoor

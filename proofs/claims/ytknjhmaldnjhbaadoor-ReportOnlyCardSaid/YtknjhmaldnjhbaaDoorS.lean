/- The contracts of Same and Rows: are two rows, two lists of rows the same? -/
import Derived.Test.YtknjhmaldnjhbaaDoorN
import Derived.Test.YtknjhmaldnjhbaaDoorO
namespace Go.Proofs.YtknjhmaldnjhbaaDoor
open Go.RowKit Go.Deep

theorem IntsAt.open {w : World} {v : Value} {r : List Int} (h : IntsAt w v r) : ∃ (A : Option Addr) (c : Nat), v = .slice A r.length c ∧ ∀ (j : Nat) z, r[j]? = some z → ∃ a, A = some a ∧ w.cell? (a.add j) = some (.int .i64 z) := by
  rcases h with ⟨rfl, rfl⟩ | ⟨a, c, rfl, h⟩
  · exact ⟨none, 0, rfl, fun j z h => by simp at h⟩
  · exact ⟨some a, c, rfl, fun j z hz => ⟨a, rfl, h j z hz⟩⟩

theorem RowsAt.open {w : World} {v : Value} {x : List (List Int)} (h : RowsAt w v x) : ∃ (A : Option Addr) (c : Nat), v = .slice A x.length c ∧ ∀ (k : Nat) r, x[k]? = some r → ∃ a, A = some a ∧ ∃ u, w.cell? (a.add k) = some u ∧ IntsAt w u r := by
  rcases h with ⟨rfl, rfl⟩ | ⟨a, c, rfl, h⟩
  · exact ⟨none, 0, rfl, fun j z h => by simp at h⟩
  · exact ⟨some a, c, rfl, fun j z hz => ⟨a, rfl, h j z hz⟩⟩

theorem take_step {α : Type} {r s : List α} {k : Nat} {y z : α} (h : r.take k = s.take k) (hr : r[k]? = some y) (hs : s[k]? = some z) : r.take (k + 1) = s.take (k + 1) ↔ y = z := by
  rw [List.take_add_one, List.take_add_one, hr, hs, h]
  simp

theorem ne_of_take {α : Type} {r s : List α} {k : Nat} {y z : α} (hr : r[k]? = some y) (hs : s[k]? = some z) (h : y ≠ z) : r ≠ s := fun e => by
  subst e
  rw [hr] at hs
  exact h (Option.some.inj hs)

set_option maxRecDepth 100000 in
set_option maxHeartbeats 2000000 in
theorem same_any (u v : Value) (r s : List Int) (w : World) (hu : IntsAt w u r) (hv : IntsAt w v s) (hr : r.length ≤ 1000000) (hs : s.length ≤ 1000000) :
    Calls Tryd.prog 21 #[u, v] w fun e w' => e = .returned (.bool (decide (r = s))) ∧ Fr (fun _ => False) w w' := by
  obtain ⟨A, c, rfl, hA⟩ := hu.open
  obtain ⟨A', c', rfl, hA'⟩ := hv.open
  clear hu hv
  obtain ⟨n, hn⟩ : ∃ n, r.length = n := ⟨_, rfl⟩
  obtain ⟨n', hn'⟩ : ∃ n, s.length = n := ⟨_, rfl⟩
  rw [hn, hn']
  rw [hn] at hr
  rw [hn'] at hs
  have HA := hid' hA
  have HA' := hid' hA'
  have HN := hid' hn
  have HN' := hid' hn'
  clear hA hA' hn hn'
  by_cases hnn : n = n'
  · subst hnn
    go_enter Tryd.func21, Tryd.ntmps21
    go_wp2_with fail
    go_loopw [5] (fun i wr => ∃ k : Nat, i = .int .i64 k ∧ k ≤ n ∧ Hid (r.take k = s.take k) ∧ Fr (fun _ => False) w wr) (fun i _ => n - (intOf i).toNat)
    case atStart => exact ⟨0, rfl, by omega, rfl, Fr.refl _ _⟩
    case round =>
      obtain ⟨k, rfl, hk, hEq, hF⟩ := hrel
      have HF := hid' hF
      clear hF
      by_cases hlt : k < n
      · obtain ⟨y, hy⟩ : ∃ y, r[k]? = some y := ⟨_, List.getElem?_eq_getElem (by rw [HN.out]; exact hlt)⟩
        obtain ⟨z, hz⟩ : ∃ z, s[k]? = some z := ⟨_, List.getElem?_eq_getElem (by rw [HN'.out]; exact hlt)⟩
        obtain ⟨a, rfl, ha⟩ := HA.out k y hy
        obtain ⟨a', rfl, ha'⟩ := HA'.out k z hz
        have c1 := HF.out.cell ha id
        have c2 := HF.out.cell ha' id
        have HY := hid' hy
        have HZ := hid' hz
        clear hy hz ha ha'
        go_upto_region 6 with (fail)
        refine wp_plan (fun w' => w'.cell? (a.add k) = some (.int .i64 y) ∧ w'.cell? (a'.add k) = some (.int .i64 z)) [(0, true), (1, true), (2, true), (3, true), (4, true), (5, true), (6, true), (7, true), (8, true)] _ (by kernel_rfl) (by kernel_rfl) (by simp only [planOps, List.getElem?_toArray, List.getElem?_cons_zero, List.getElem?_cons_succ]; rfl) ⟨c1, c2⟩ ?_
        iterate 9 (refine plan_take (v := ?_) rfl ?_ ?_; rotate_left; (focus (intro _ hS; obtain ⟨s0, s1⟩ := hS; go_simp; first | done | with_reducible rfl)); simp only [Act.put, List.setIfInBounds_toArray, List.set_cons_zero, List.set_cons_succ])
        refine plan_nil ?_
        by_cases hyz : y = z
        · have hst := hid' ((take_step hEq.out HY.out HZ.out).2 hyz)
          subst hyz
          go_wp2_with fail
          go_roundw
          case rel => exact ⟨k + 1, by go_num, by omega, hst, HF.out.drew⟩
          case measure => simp [intOf]; omega
        · have hne := ne_of_take HY.out HZ.out hyz
          have HNE := hid' hne
          clear hne
          go_wp2_with fail
          go_ret
          exact ⟨by rw [decide_eq_false HNE.out]; rfl, HF.out.drew⟩
      · obtain rfl : k = n := by omega
        have heq : r = s := by
          have := hEq.out
          rwa [List.take_of_length_le (by rw [HN.out]; omega), List.take_of_length_le (by rw [HN'.out]; omega)] at this
        have HEQ := hid' heq
        clear heq
        go_wp2_with fail
        go_ret
        exact ⟨by rw [decide_eq_true HEQ.out]; rfl, HF.out⟩
  · have hne : r ≠ s := fun e => by subst e; exact hnn (HN.out.symm.trans HN'.out)
    have HNE := hid' hne
    clear hne
    go_enter Tryd.func21, Tryd.ntmps21
    go_wp2_with fail
    go_ret
    exact ⟨by rw [decide_eq_false HNE.out]; rfl, Fr.refl _ _⟩

set_option maxRecDepth 100000 in
set_option maxHeartbeats 2000000 in
theorem rowsame_any (u v : Value) (x y : List (List Int)) (w : World) (hu : RowsAt w u x) (hv : RowsAt w v y) (hx : x.length ≤ 1000000) (hy : y.length ≤ 1000000) (hr : ∀ r ∈ x, r.length ≤ 1000000) (hs : ∀ r ∈ y, r.length ≤ 1000000) :
    Calls Tryd.prog 12 #[u, v] w fun e w' => e = .returned (.bool (decide (x = y))) ∧ Fr (fun _ => False) w w' := by
  obtain ⟨A, c, rfl, hA⟩ := hu.open
  obtain ⟨A', c', rfl, hA'⟩ := hv.open
  clear hu hv
  obtain ⟨n, hn⟩ : ∃ n, x.length = n := ⟨_, rfl⟩
  obtain ⟨n', hn'⟩ : ∃ n, y.length = n := ⟨_, rfl⟩
  rw [hn, hn']
  rw [hn] at hx
  rw [hn'] at hy
  have HA := hid' hA
  have HA' := hid' hA'
  have HN := hid' hn
  have HN' := hid' hn'
  have HX := hid' hr
  have HY := hid' hs
  clear hA hA' hn hn' hr hs
  by_cases hnn : n = n'
  · subst hnn
    go_enter Tryd.func12, Tryd.ntmps12
    go_wp2_with fail
    go_loopw [13] (fun i wr => ∃ k : Nat, i = .int .i64 k ∧ k ≤ n ∧ Hid (x.take k = y.take k) ∧ Fr (fun _ => False) w wr) (fun i _ => n - (intOf i).toNat)
    case atStart => exact ⟨0, rfl, by omega, rfl, Fr.refl _ _⟩
    case round =>
      obtain ⟨k, rfl, hk, hEq, hF⟩ := hrel
      have HF := hid' hF
      clear hF
      by_cases hlt : k < n
      · obtain ⟨r, hr⟩ : ∃ r, x[k]? = some r := ⟨_, List.getElem?_eq_getElem (by rw [HN.out]; exact hlt)⟩
        obtain ⟨s, hs⟩ : ∃ s, y[k]? = some s := ⟨_, List.getElem?_eq_getElem (by rw [HN'.out]; exact hlt)⟩
        obtain ⟨a, rfl, p, ha, hp⟩ := HA.out k r hr
        obtain ⟨a', rfl, q, ha', hq⟩ := HA'.out k s hs
        have hp1 := hp.fr HF.out
        have hq1 := hq.fr HF.out
        have c1 := HF.out.cell ha id
        have c2 := HF.out.cell ha' id
        obtain ⟨Ap, cp, rfl, -⟩ := hp1.open
        obtain ⟨Aq, cq, rfl, -⟩ := hq1.open
        have HS := hid' (fun w2 (f : Fr (fun _ => False) wr w2) => same_any _ _ r s w2 (hp1.fr f) (hq1.fr f) (HX.out r (List.mem_of_getElem? hr)) (HY.out s (List.mem_of_getElem? hs)))
        obtain ⟨L, hL⟩ : ∃ L, r.length = L := ⟨_, rfl⟩
        obtain ⟨L', hL'⟩ : ∃ L, s.length = L := ⟨_, rfl⟩
        rw [hL] at c1 HS
        rw [hL'] at c2 HS
        have HR := hid' hr
        have HZ := hid' hs
        clear hr hs ha ha' hp hq hp1 hq1
        go_upto_region 6 with (fail)
        refine wp_plan (fun w' => w'.cell? (a.add k) = some (.slice Ap L cp) ∧ w'.cell? (a'.add k) = some (.slice Aq L' cq)) [(0, true), (1, true), (2, true), (3, true), (4, true), (5, true), (6, true), (7, true), (8, false), (9, true)] _ (by kernel_rfl) (by kernel_rfl) (by simp only [planOps, List.getElem?_toArray, List.getElem?_cons_zero, List.getElem?_cons_succ]; rfl) ⟨c1, c2⟩ ?_
        iterate 8 (refine plan_take (v := ?_) rfl ?_ ?_; rotate_left; (focus (intro _ hS; obtain ⟨s0, s1⟩ := hS; go_simp; first | done | with_reducible rfl)); simp only [Act.put, List.setIfInBounds_toArray, List.set_cons_zero, List.set_cons_succ])
        refine plan_do rfl fun K hK => ?_
        go_simp
        go_at_call 21
        refine (HS.out _ (Fr.refl _ _).drew).mono ?_
        rintro e w4 ⟨rfl, f4⟩
        simp only []
        have f5 : Fr (fun _ => False) wr w4 := (Fr.refl _ wr).drew.trans f4
        refine hK _ _ ⟨f5.cell c1 id, f5.cell c2 id⟩ ?_
        clear hK K
        have HF5 := hid' (HF.out.trans f5)
        clear f4 f5 HS c1 c2
        by_cases hyz : r = s
        · have hst := hid' ((take_step hEq.out HR.out HZ.out).2 hyz)
          subst hyz
          simp only [decide_true]
          (refine plan_take (v := ?_) rfl ?_ ?_; rotate_left; (focus (intro _ hS; obtain ⟨s0, s1⟩ := hS; go_simp; first | done | with_reducible rfl)); simp only [Act.put, List.setIfInBounds_toArray, List.set_cons_zero, List.set_cons_succ])
          refine plan_nil ?_
          go_wp2_with fail
          go_roundw
          case rel => exact ⟨k + 1, by go_num, by omega, hst, HF5.out⟩
          case measure => simp [intOf]; omega
        · have hne := ne_of_take HR.out HZ.out hyz
          have HNE := hid' hne
          rw [decide_eq_false hyz]
          clear hne hyz
          (refine plan_take (v := ?_) rfl ?_ ?_; rotate_left; (focus (intro _ hS; obtain ⟨s0, s1⟩ := hS; go_simp; first | done | with_reducible rfl)); simp only [Act.put, List.setIfInBounds_toArray, List.set_cons_zero, List.set_cons_succ])
          refine plan_nil ?_
          go_wp2_with fail
          go_ret
          exact ⟨by rw [decide_eq_false HNE.out]; rfl, HF5.out⟩
      · obtain rfl : k = n := by omega
        have heq : x = y := by
          have := hEq.out
          rwa [List.take_of_length_le (by rw [HN.out]; omega), List.take_of_length_le (by rw [HN'.out]; omega)] at this
        have HEQ := hid' heq
        clear heq
        go_wp2_with fail
        go_ret
        exact ⟨by rw [decide_eq_true HEQ.out]; rfl, HF.out⟩
  · have hne : x ≠ y := fun e => by subst e; exact hnn (HN.out.symm.trans HN'.out)
    have HNE := hid' hne
    clear hne
    go_enter Tryd.func12, Tryd.ntmps12
    go_wp2_with fail
    go_ret
    exact ⟨by rw [decide_eq_false HNE.out]; rfl, Fr.refl _ _⟩

end Go.Proofs.YtknjhmaldnjhbaaDoor

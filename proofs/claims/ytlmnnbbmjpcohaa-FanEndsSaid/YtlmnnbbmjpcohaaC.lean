/- Contracts of the four laws of the fan: each returns true, and nothing that was there has turned. -/
import Derived.Test.YtlmnnbbmjpcohaaB
import Derived.Test.YtlmnnbbmjpcohaaO
import Derived.Deep.RegionWith
namespace Go.Proofs.Ytlmnnbbmjpcohaa
open Go.RowKit

theorem below_drewN {B : Nat} {a w : World} (h : Below B a w) (q : Nat) : Below B a (w.drewN q) := ⟨h.os, h.tape, h.output, h.size, h.block⟩

theorem below_drew {a w : World} (h : Below a.drew.heap.size a.drew w) : Below a.heap.size a w := ⟨h.os, h.tape, h.output, h.size, h.block⟩

theorem view_lit (w : World) : View (w.alloc (.cells #[.int .i64 0, .int .i64 2, .int .i64 2, .int .i64 4, .int .i64 4, .int .i64 5] 23)) (.slice (some ⟨w.heap.size, 0, none⟩) 3 3) (cnt 5 2) (nums 5 2 (cnt 5 2)) := by
  refine ⟨by decide, _, 3, rfl, by decide, fun _ => ⟨_, rfl, by simp, fun j x hx => ?_⟩⟩
  have e : nums 5 2 (cnt 5 2) = [0, 2, 2, 4, 4, 5] := by decide
  rw [e] at hx
  match j, hx with
  | 0, hx => simp at hx; subst hx; simp
  | 1, hx => simp at hx; subst hx; simp
  | 2, hx => simp at hx; subst hx; simp
  | 3, hx => simp at hx; subst hx; simp
  | 4, hx => simp at hx; subst hx; simp
  | 5, hx => simp at hx; subst hx; simp
  | j + 6, hx => simp at hx

theorem view_none (w : World) (k : Nat) (hk : 2 ≤ k) : View w (.slice none 0 0) (cnt 0 k) (nums 0 k (cnt 0 k)) := by
  rw [cnt_zero k hk]
  exact ⟨rfl, none, 0, rfl, Nat.le_refl _, fun h => absurd h (by omega)⟩

theorem passes_at (n k r : Nat) (hk : 2 ≤ k) (hk2 : k ≤ 1000) (hn : n ≤ 1000) (hr : pas n n k = r) (w : World) :
    Calls Try.prog 9 #[.int .i64 n, .int .i64 k] w fun e w' => e = .returned (.int .i64 r) ∧ w = w' := by
  rw [← hr]
  exact passes_any k hk hk2 n n w (Nat.le_refl _) hn

/-- Groups, of a number below nought too. -/
theorem groups_int (n k : Int) (h1 : -1000 ≤ n) (h2 : n ≤ 1000) (h3 : 2 ≤ k) (h4 : k ≤ 1000) (w : World) :
    Calls Try.prog 8 #[.int .i64 n, .int .i64 k] w fun e w' => ∃ v, e = .returned v ∧ View w' v (cnt n.toNat k.toNat) (nums n.toNat k.toNat (cnt n.toNat k.toNat)) ∧ Below w.heap.size w w' := by
  obtain ⟨k, rfl⟩ := Int.eq_ofNat_of_zero_le (show 0 ≤ k by omega)
  by_cases h : 0 ≤ n
  · obtain ⟨n, rfl⟩ := Int.eq_ofNat_of_zero_le h
    simp only [Int.toNat_natCast]
    exact groups_any n k (by omega) (by omega) (by omega) w
  · rw [show n.toNat = 0 by omega, Int.toNat_natCast]
    have hv := view_none w k (by omega)
    go_enter Try.func8, Try.ntmps8
    go_wp2
    refine wp_loop_rounds 1 ?_
    rw [rounds_succ]
    go_wp2
    go_ret
    exact ⟨_, rfl, hv, Below.refl _ _⟩

theorem refGroups_int (n k : Int) (h1 : -1000 ≤ n) (h2 : n ≤ 1000) (h3 : 2 ≤ k) (h4 : k ≤ 1000) (w : World) :
    Calls Try.prog 11 #[.int .i64 n, .int .i64 k] w fun e w' => ∃ v, e = .returned v ∧ View w' v (cnt n.toNat k.toNat) (nums n.toNat k.toNat (cnt n.toNat k.toNat)) ∧ Below w.heap.size w w' := by
  obtain ⟨k, rfl⟩ := Int.eq_ofNat_of_zero_le (show 0 ≤ k by omega)
  by_cases h : 0 ≤ n
  · obtain ⟨n, rfl⟩ := Int.eq_ofNat_of_zero_le h
    simp only [Int.toNat_natCast]
    exact refGroups_any n k (by omega) (by omega) (by omega) w
  · rw [show n.toNat = 0 by omega, Int.toNat_natCast]
    have hv := view_none w k (by omega)
    go_enter Try.func11, Try.ntmps11
    go_wp2
    refine wp_loop_rounds 1 ?_
    rw [rounds_succ]
    go_wp2
    go_ret
    exact ⟨_, rfl, hv, Below.refl _ _⟩

theorem passes_int (n k : Int) (h1 : -1000 ≤ n) (h2 : n ≤ 1000) (h3 : 2 ≤ k) (h4 : k ≤ 1000) (w : World) :
    Calls Try.prog 9 #[.int .i64 n, .int .i64 k] w fun e w' => e = .returned (.int .i64 (pas n.toNat n.toNat k.toNat)) ∧ w = w' := by
  obtain ⟨k, rfl⟩ := Int.eq_ofNat_of_zero_le (show 0 ≤ k by omega)
  by_cases h : 0 ≤ n
  · obtain ⟨n, rfl⟩ := Int.eq_ofNat_of_zero_le h
    simp only [Int.toNat_natCast]
    exact passes_any k (by omega) (by omega) n n w (Nat.le_refl _) (by omega)
  · rw [show n.toNat = 0 by omega]
    go_enter Try.func9, Try.ntmps9
    go_wp2_with fail
    go_ret
    exact ⟨rfl, rfl⟩

theorem refPasses_int (n k : Int) (h1 : -1000 ≤ n) (h2 : n ≤ 1000) (h3 : 2 ≤ k) (h4 : k ≤ 1000) (w : World) :
    Calls Try.prog 12 #[.int .i64 n, .int .i64 k] w fun e w' => e = .returned (.int .i64 (pas n.toNat n.toNat k.toNat)) ∧ w = w' := by
  obtain ⟨k, rfl⟩ := Int.eq_ofNat_of_zero_le (show 0 ≤ k by omega)
  by_cases h : 0 ≤ n
  · obtain ⟨n, rfl⟩ := Int.eq_ofNat_of_zero_le h
    simp only [Int.toNat_natCast]
    exact refPasses_any k (by omega) (by omega) n (by omega) w
  · rw [show n.toNat = 0 by omega]
    go_enter Try.func12, Try.ntmps12
    go_wp2
    refine wp_loop_rounds 1 ?_
    rw [rounds_succ]
    go_wp2
    go_ret
    exact ⟨rfl, rfl⟩

set_option maxHeartbeats 1000000 in
theorem fanRuns_any (w : World) : Calls Try.prog 3 #[] w fun e w' => e = .returned (.bool true) ∧ Below w.heap.size w w' := by
  have hg : ∀ w, Calls Try.prog 8 #[.int .i64 5, .int .i64 2] w fun e w' => ∃ v, e = .returned v ∧ View w' v (cnt 5 2) (nums 5 2 (cnt 5 2)) ∧ Below w.heap.size w w' :=
    fun w => groups_any 5 2 (by decide) (by decide) (by decide) w
  have p1 : ∀ w, Calls Try.prog 9 #[.int .i64 1, .int .i64 2] w fun e w' => e = .returned (.int .i64 0) ∧ w = w' := fun w => passes_at 1 2 0 (by decide) (by decide) (by decide) (by decide) w
  have p2 : ∀ w, Calls Try.prog 9 #[.int .i64 5, .int .i64 2] w fun e w' => e = .returned (.int .i64 3) ∧ w = w' := fun w => passes_at 5 2 3 (by decide) (by decide) (by decide) (by decide) w
  have p3 : ∀ w, Calls Try.prog 9 #[.int .i64 9, .int .i64 3] w fun e w' => e = .returned (.int .i64 2) ∧ w = w' := fun w => passes_at 9 3 2 (by decide) (by decide) (by decide) (by decide) w
  have HG := hid' hg
  have P1 := hid' p1
  have P2 := hid' p2
  have P3 := hid' p3
  clear hg p1 p2 p3
  go_enter Try.func3, Try.ntmps3
  go_wp2_with fail
  refine (HG.out _).mono ?_
  rintro e w1 ⟨v, rfl, hv, hb⟩
  have HV := hid' (hv.later ((Below.refl _ w1).alloc (Nat.le_refl _) (.cells #[.int .i64 0, .int .i64 2, .int .i64 2, .int .i64 4, .int .i64 4, .int .i64 5] 23)))
  have HB := hid' (hb.alloc hb.size (.cells #[.int .i64 0, .int .i64 2, .int .i64 2, .int .i64 4, .int .i64 4, .int .i64 5] 23))
  clear hv hb
  go_wp2_with fail
  have hlit := view_lit w1
  refine (same_any _ _ (cnt 5 2) (nums 5 2 (cnt 5 2)) (by decide) _ HV.out hlit).mono ?_
  rintro e w2 ⟨rfl, q, rfl⟩
  clear hlit
  go_wp2_with fail
  refine (P1.out _).mono ?_
  rintro e w3 ⟨rfl, rfl⟩
  go_wp2_with fail
  refine (P2.out _).mono ?_
  rintro e w3 ⟨rfl, rfl⟩
  go_wp2_with fail
  refine (P3.out _).mono ?_
  rintro e w3 ⟨rfl, rfl⟩
  go_wp2_with fail
  go_ret
  exact ⟨rfl, below_drewN HB.out q⟩

set_option maxHeartbeats 1000000 in
theorem fanTells_any (n k : Int) (w : World) : Calls Try.prog 4 #[.int .i64 n, .int .i64 k] w fun e w' => e = .returned (.bool true) ∧ Below w.heap.size w w' := by
  have hw1 := fun w => within_any n (-3) 200 w (by omega) (by omega) (by omega)
  have hw2 := fun w => within_any k 2 20 w (by omega) (by omega) (by omega)
  rw [show (200 : Int) - -3 + 1 = 204 by decide] at hw1
  obtain ⟨a, ha⟩ : ∃ a : Int, -3 + n % 204 = a := ⟨_, rfl⟩
  obtain ⟨b, hb⟩ : ∃ b : Int, 2 + k % (20 - 2 + 1) = b := ⟨_, rfl⟩
  have a1 : -3 ≤ a := by omega
  have a2 : a ≤ 200 := by omega
  have b1 : 2 ≤ b := by omega
  have b2 : b ≤ 20 := by omega
  rw [ha] at hw1
  rw [hb] at hw2
  clear ha hb
  have hcn : cnt a.toNat b.toNat ≤ 1000 := by
    unfold cnt
    have := Nat.div_le_self (a.toNat + b.toNat - 1) b.toNat
    omega
  have W1 := hid' hw1
  have W2 := hid' hw2
  clear hw1 hw2
  go_enter Try.func4, Try.ntmps4
  go_wp2_with fail
  refine (W1.out _).mono ?_
  rintro e w' ⟨rfl, rfl⟩
  go_wp2_with fail
  refine (W2.out _).mono ?_
  rintro e w' ⟨rfl, rfl⟩
  go_wp2_with fail
  refine (groups_int a b (by omega) (by omega) b1 (by omega) _).mono ?_
  rintro e w1 ⟨v1, rfl, hv1, hb1⟩
  have V1 := hid' hv1
  have B1 := hid' hb1
  clear hv1 hb1
  go_wp2_with fail
  refine (refGroups_int a b (by omega) (by omega) b1 (by omega) _).mono ?_
  rintro e w2 ⟨v2, rfl, hv2, hb2⟩
  have V2 := hid' hv2
  have V1' := hid' (V1.out.later hb2)
  have B2 := hid' (B1.out.trans (hb2.mono B1.out.size))
  clear hv2 hb2
  go_wp2_with fail
  refine (same_any v1 v2 _ _ hcn _ V1'.out V2.out).mono ?_
  rintro e w3 ⟨rfl, q, rfl⟩
  go_wp2_with fail
  refine (passes_int a b (by omega) (by omega) b1 (by omega) _).mono ?_
  rintro e w' ⟨rfl, rfl⟩
  go_wp2_with fail
  refine (refPasses_int a b (by omega) (by omega) b1 (by omega) _).mono ?_
  rintro e w' ⟨rfl, rfl⟩
  go_wp2_with fail
  refine (fanRuns_any _).mono ?_
  rintro e w4 ⟨rfl, hb4⟩
  have B4 := hid' ((below_drewN B2.out q).trans (hb4.mono (by simpa using B2.out.size)))
  clear hb4
  go_wp2_with fail
  go_ret
  exact ⟨rfl, B4.out⟩

set_option maxHeartbeats 1000000 in
theorem fanLess_any (n m k j : Int) (w : World) : Calls Try.prog 6 #[.int .i64 n, .int .i64 m, .int .i64 k, .int .i64 j] w fun e w' => e = .returned (.bool true) ∧ Below w.heap.size w w' := by
  have hw1 := fun w => within_any n 0 300 w (by omega) (by omega) (by omega)
  have hw2 := fun w => within_any k 2 20 w (by omega) (by omega) (by omega)
  obtain ⟨a, ha⟩ : ∃ a : Int, 0 + n % (300 - 0 + 1) = a := ⟨_, rfl⟩
  obtain ⟨b, hb⟩ : ∃ b : Int, 2 + k % (20 - 2 + 1) = b := ⟨_, rfl⟩
  have a1 : 0 ≤ a := by omega
  have a2 : a ≤ 300 := by omega
  have b1 : 2 ≤ b := by omega
  have b2 : b ≤ 20 := by omega
  rw [ha] at hw1
  rw [hb] at hw2
  clear ha hb
  have hw3 := fun w => within_any m 0 a w (by omega) (by omega) (by omega)
  have hw4 := fun w => within_any j b 20 w (by omega) (by omega) (by omega)
  obtain ⟨c, hc⟩ : ∃ c : Int, 0 + m % (a - 0 + 1) = c := ⟨_, rfl⟩
  obtain ⟨d, hd⟩ : ∃ d : Int, b + j % (20 - b + 1) = d := ⟨_, rfl⟩
  have c1 : 0 ≤ c := by have := Int.emod_nonneg m (b := a - 0 + 1) (by omega); omega
  have c2 : c ≤ a := by have := Int.emod_lt_of_pos m (b := a - 0 + 1) (by omega); omega
  have d1 : b ≤ d := by have := Int.emod_nonneg j (b := 20 - b + 1) (by omega); omega
  have d2 : d ≤ 20 := by have := Int.emod_lt_of_pos j (b := 20 - b + 1) (by omega); omega
  rw [hc] at hw3
  rw [hd] at hw4
  clear hc hd
  have q1 := fun w => passes_int c b (by omega) (by omega) (by omega) (by omega) w
  have q2 := fun w => passes_int a b (by omega) (by omega) (by omega) (by omega) w
  have q3 := fun w => passes_int a d (by omega) (by omega) (by omega) (by omega) w
  have q4 : ∀ w, Calls Try.prog 9 #[.int .i64 1, .int .i64 b] w fun e w' => e = .returned (.int .i64 0) ∧ w = w' := fun w => passes_int 1 b (by omega) (by omega) (by omega) (by omega) w
  have q5 : ∀ w, Calls Try.prog 9 #[.int .i64 0, .int .i64 b] w fun e w' => e = .returned (.int .i64 0) ∧ w = w' := fun w => passes_int 0 b (by omega) (by omega) (by omega) (by omega) w
  have q6 := fun w => groups_int a b (by omega) (by omega) (by omega) (by omega) w
  have m1 : (pas c.toNat c.toNat b.toNat : Int) ≤ pas a.toNat a.toNat b.toNat := by have := pas_mono b.toNat a.toNat c.toNat (by omega) (by omega); omega
  have m2 : (pas a.toNat a.toNat d.toNat : Int) ≤ pas a.toNat a.toNat b.toNat := by have := pas_anti b.toNat d.toNat a.toNat (by omega) (by omega); omega
  have m3 : 2 ≤ a → a ≤ b → (pas a.toNat a.toNat b.toNat : Int) = 1 := fun h1 h2 => by have := pas_one b.toNat a.toNat (by omega) (by omega) (by omega); omega
  have m4 : (cnt a.toNat b.toNat : Int) = (a + b - 1) / b := by
    unfold cnt
    rw [Int.natCast_ediv, show ((a.toNat + b.toNat - 1 : Nat) : Int) = a + b - 1 by omega, Int.toNat_of_nonneg (by omega)]
  generalize (pas c.toNat c.toNat b.toNat : Int) = p1 at *
  generalize (pas a.toNat a.toNat b.toNat : Int) = p2 at *
  generalize (pas a.toNat a.toNat d.toNat : Int) = p3 at *
  generalize hnn : cnt a.toNat b.toNat = nn at *
  clear hnn
  have m5 : (((nn : Nat) : Int) == (a + b - 1) / b) = true := beq_iff_eq.2 m4
  have M4 := hid' m4
  clear m4
  have W1 := hid' hw1
  have W2 := hid' hw2
  have W3 := hid' hw3
  have W4 := hid' hw4
  have Q1 := hid' q1
  have Q2 := hid' q2
  have Q3 := hid' q3
  have Q4 := hid' q4
  have Q5 := hid' q5
  have Q6 := hid' q6
  have M3 := hid' m3
  clear hw1 hw2 hw3 hw4 q1 q2 q3 q4 q5 q6 m3
  go_enter Try.func6, Try.ntmps6
  go_wp2_with fail
  refine (W1.out _).mono ?_
  rintro e w' ⟨rfl, rfl⟩
  go_wp2_with fail
  refine (W2.out _).mono ?_
  rintro e w' ⟨rfl, rfl⟩
  go_wp2_with fail
  refine (W3.out _).mono ?_
  rintro e w' ⟨rfl, rfl⟩
  go_wp2_with fail
  refine (W4.out _).mono ?_
  rintro e w' ⟨rfl, rfl⟩
  go_wp2_with fail
  have wr1 : IntKind.i64.wrap (a + b) = a + b := IntWalk.i64_in _ (by omega)
  have wr2 : IntKind.i64.wrap (a + b - 1) = a + b - 1 := IntWalk.i64_in _ (by omega)
  have wr3 : IntKind.i64.wrap ((a + b - 1).tdiv b) = (a + b - 1) / b := IntWalk.i64_quo _ _ (by omega)
  have wr4 : ¬ b = 0 := by omega
  refine wp_plan (fun _ => True) [(0, true), (1, true), (3, true), (4, true), (2, false), (5, false), (6, true), (7, true), (8, true), (9, true), (11, true), (12, true), (10, false), (13, false), (14, true), (15, true), (16, true), (17, true), (18, false), (19, true), (20, true), (21, true), (22, true), (23, false), (24, true), (25, true), (26, true), (27, true), (28, true), (29, true), (30, true), (31, true), (32, true), (33, true), (34, true), (35, true), (36, true), (37, false), (38, true), (39, true), (40, true), (41, true), (42, true), (43, true), (46, true), (47, true), (48, true), (49, true), (50, true), (51, true), (44, false), (45, true), (52, true), (53, true), (54, true), (55, false), (56, true), (57, true)] _ (by kernel_rfl) (by kernel_rfl) (by simp only [planOps, List.getElem?_toArray, List.getElem?_cons_zero, List.getElem?_cons_succ]; rfl) trivial ?_
  by_cases h1 : a < 2
  · clear M3
    repeat (first | (refine plan_skip rfl ?_; simp only [Act.put, List.setIfInBounds_toArray, List.set_cons_zero, List.set_cons_succ]) | (refine plan_take (v := ?_) rfl ?_ ?_; rotate_left; (focus (intro _ _; go_simp; first | done | with_reducible rfl)); simp only [Act.put, List.setIfInBounds_toArray, List.set_cons_zero, List.set_cons_succ]) | (refine plan_do rfl fun K hK => ?_; go_simp; (first | (go_at_call_of 9 c; refine (Q1.out _).mono ?_; rintro e w' ⟨rfl, rfl⟩) | (go_at_call_of 9 d; refine (Q3.out _).mono ?_; rintro e w' ⟨rfl, rfl⟩) | (go_at_call_of 9 (1 : Int); refine (Q4.out _).mono ?_; rintro e w' ⟨rfl, rfl⟩) | (go_at_call_of 9 (0 : Int); refine (Q5.out _).mono ?_; rintro e w' ⟨rfl, rfl⟩) | (go_at_call_of 9 a; refine (Q2.out _).mono ?_; rintro e w' ⟨rfl, rfl⟩) | (go_at_call 8; refine (Q6.out _).mono ?_; rintro e w1 ⟨v1, rfl, ⟨_, ao, cap, rfl, _⟩, hb1⟩; have B1 := hid' hb1; clear hb1) | (go_at_call 3; refine (fanRuns_any _).mono ?_; rintro e w4 ⟨rfl, hb4⟩; have B4 := hid' hb4; clear hb4)); simp only []; refine hK _ _ trivial ?_; clear hK K))
    refine plan_nil ?_
    go_wp2_with fail
    go_ret
    exact ⟨rfl, (below_drew B1.out).trans (B4.out.mono B1.out.size)⟩
  · by_cases h2 : b < a
    · clear M3
      repeat (first | (refine plan_skip rfl ?_; simp only [Act.put, List.setIfInBounds_toArray, List.set_cons_zero, List.set_cons_succ]) | (refine plan_take (v := ?_) rfl ?_ ?_; rotate_left; (focus (intro _ _; go_simp; first | done | with_reducible rfl)); simp only [Act.put, List.setIfInBounds_toArray, List.set_cons_zero, List.set_cons_succ]) | (refine plan_do rfl fun K hK => ?_; go_simp; (first | (go_at_call_of 9 c; refine (Q1.out _).mono ?_; rintro e w' ⟨rfl, rfl⟩) | (go_at_call_of 9 d; refine (Q3.out _).mono ?_; rintro e w' ⟨rfl, rfl⟩) | (go_at_call_of 9 (1 : Int); refine (Q4.out _).mono ?_; rintro e w' ⟨rfl, rfl⟩) | (go_at_call_of 9 (0 : Int); refine (Q5.out _).mono ?_; rintro e w' ⟨rfl, rfl⟩) | (go_at_call_of 9 a; refine (Q2.out _).mono ?_; rintro e w' ⟨rfl, rfl⟩) | (go_at_call 8; refine (Q6.out _).mono ?_; rintro e w1 ⟨v1, rfl, ⟨_, ao, cap, rfl, _⟩, hb1⟩; have B1 := hid' hb1; clear hb1) | (go_at_call 3; refine (fanRuns_any _).mono ?_; rintro e w4 ⟨rfl, hb4⟩; have B4 := hid' hb4; clear hb4)); simp only []; refine hK _ _ trivial ?_; clear hK K))
      refine plan_nil ?_
      go_wp2_with fail
      go_ret
      exact ⟨rfl, (below_drew B1.out).trans (B4.out.mono B1.out.size)⟩
    · have hp : p2 = 1 := M3.out (by omega) (by omega)
      subst hp
      repeat (first | (refine plan_skip rfl ?_; simp only [Act.put, List.setIfInBounds_toArray, List.set_cons_zero, List.set_cons_succ]) | (refine plan_take (v := ?_) rfl ?_ ?_; rotate_left; (focus (intro _ _; go_simp; first | done | with_reducible rfl)); simp only [Act.put, List.setIfInBounds_toArray, List.set_cons_zero, List.set_cons_succ]) | (refine plan_do rfl fun K hK => ?_; go_simp; (first | (go_at_call_of 9 c; refine (Q1.out _).mono ?_; rintro e w' ⟨rfl, rfl⟩) | (go_at_call_of 9 d; refine (Q3.out _).mono ?_; rintro e w' ⟨rfl, rfl⟩) | (go_at_call_of 9 (1 : Int); refine (Q4.out _).mono ?_; rintro e w' ⟨rfl, rfl⟩) | (go_at_call_of 9 (0 : Int); refine (Q5.out _).mono ?_; rintro e w' ⟨rfl, rfl⟩) | (go_at_call_of 9 a; refine (Q2.out _).mono ?_; rintro e w' ⟨rfl, rfl⟩) | (go_at_call 8; refine (Q6.out _).mono ?_; rintro e w1 ⟨v1, rfl, ⟨_, ao, cap, rfl, _⟩, hb1⟩; have B1 := hid' hb1; clear hb1) | (go_at_call 3; refine (fanRuns_any _).mono ?_; rintro e w4 ⟨rfl, hb4⟩; have B4 := hid' hb4; clear hb4)); simp only []; refine hK _ _ trivial ?_; clear hK K))
      refine plan_nil ?_
      go_wp2_with fail
      go_ret
      exact ⟨rfl, (below_drew B1.out).trans (B4.out.mono B1.out.size)⟩

end Go.Proofs.Ytlmnnbbmjpcohaa

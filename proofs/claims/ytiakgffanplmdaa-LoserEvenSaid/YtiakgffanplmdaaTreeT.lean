/- The tree of losers at things (three numbers): what it is in memory; contracts of less, play. -/
import Derived.Test.YtiakgffanplmdaaRun
namespace Go.Proofs.Ytiakgffanplmdaa.T
open Go.RowKit Go.Deep

abbrev Th := Int × Int × Int
/-- A thing, as a value. -/
def thV (x : Th) : Value := .agg #[.int .i64 x.1, .int .i64 x.2.1, .int .i64 x.2.2]
/-- By what they are matched. -/
def hn (h : Nat → Th × Bool) (j : Nat) : Int × Bool := ((h j).1.1, (h j).2)

/-- The cells of the hands. -/
def hcell (h : Nat → Th × Bool) (j : Nat) : Value :=
  if j % 4 = 0 then .int .i64 (h (j / 4)).1.1 else if j % 4 = 1 then .int .i64 (h (j / 4)).1.2.1 else if j % 4 = 2 then .int .i64 (h (j / 4)).1.2.2 else .bool (h (j / 4)).2

theorem hcell_0 (h : Nat → Th × Bool) (a : Nat) : hcell h (a * 4) = .int .i64 (h a).1.1 := by
  unfold hcell
  rw [if_pos (by omega), show a * 4 / 4 = a by omega]
theorem hcell_1 (h : Nat → Th × Bool) (a : Nat) : hcell h (a * 4 + 1) = .int .i64 (h a).1.2.1 := by
  unfold hcell
  rw [if_neg (by omega), if_pos (by omega), show (a * 4 + 1) / 4 = a by omega]
theorem hcell_2 (h : Nat → Th × Bool) (a : Nat) : hcell h (a * 4 + 2) = .int .i64 (h a).1.2.2 := by
  unfold hcell
  rw [if_neg (by omega), if_neg (by omega), if_pos (by omega), show (a * 4 + 2) / 4 = a by omega]
theorem hcell_3 (h : Nat → Th × Bool) (a : Nat) : hcell h (a * 4 + 3) = .bool (h a).2 := by
  unfold hcell
  rw [if_neg (by omega), if_neg (by omega), if_neg (by omega), show (a * 4 + 3) / 4 = a by omega]

/-- A tree in memory: block b; the sources V in block bs, the hands h in bh, who lost in bl. -/
structure TreeIs (w : World) (less : Value) (b bs cs bh bl n : Nat) (V : Nat → Value) (h : Nat → Th × Bool) (lost : Nat → Nat) : Prop where
  tree : w.rowIs b 63 4 (tcell less bs cs bh bl n)
  src : Cells w bs n V
  hands : w.rowIs bh 65 (n * 4) (hcell h)
  lost : w.rowIs bl 3 n (fun i => .int .i64 (lost i))
  small : n ≤ 1000
  ne1 : b ≠ bh
  ne2 : b ≠ bl
  ne3 : bs ≠ bh
  ne4 : bs ≠ bl
  ne5 : bh ≠ bl

theorem TreeIs.keep {w w' : World} {S : Nat → Prop} {less : Value} {b bs cs bh bl n : Nat} {V : Nat → Value} {h : Nat → Th × Bool} {lost : Nat → Nat}
    (T : TreeIs w less b bs cs bh bl n V h lost) (f : Fr S w w') (h1 : ¬ S b) (h2 : ¬ S bs) (h3 : ¬ S bh) (h4 : ¬ S bl) : TreeIs w' less b bs cs bh bl n V h lost :=
  ⟨f.row T.tree h1, f.cells T.src h2, f.row T.hands h3, f.row T.lost h4, T.small, T.ne1, T.ne2, T.ne3, T.ne4, T.ne5⟩

theorem less_any (x1 x2 x3 y1 y2 y3 : Int) (w : World) : Calls Try.prog 16 #[.agg #[.int .i64 x1, .int .i64 x2, .int .i64 x3], .agg #[.int .i64 y1, .int .i64 y2, .int .i64 y3]] w fun e w' => e = .returned (.bool (decide (x1 < y1))) ∧ Fr (fun _ => False) w w' := by
  go_enter Try.func16, Try.ntmps16
  go_wp2
  go_ret
  exact ⟨rfl, ((Fr.refl _ w).alloc _).alloc _⟩

abbrev lessV : Value := .func (.func 16) #[] #[]


/-- What the two hands' copies and the tree hold. -/
def Two (b u v : Nat) (x x2 x3 : Int) (lx : Bool) (y y2 y3 : Int) (ly : Bool) (w : World) : Prop :=
  w.cell? ⟨b, 0, none⟩ = some lessV ∧ w.cell? ⟨u, 0, none⟩ = some (.int .i64 x) ∧ w.cell? ⟨u, 1, none⟩ = some (.int .i64 x2) ∧ w.cell? ⟨u, 2, none⟩ = some (.int .i64 x3) ∧ w.cell? ⟨u, 3, none⟩ = some (.bool lx) ∧
    w.cell? ⟨v, 0, none⟩ = some (.int .i64 y) ∧ w.cell? ⟨v, 1, none⟩ = some (.int .i64 y2) ∧ w.cell? ⟨v, 2, none⟩ = some (.int .i64 y3) ∧ w.cell? ⟨v, 3, none⟩ = some (.bool ly)

theorem keep_cell {w w' : World} (f : Fr (fun _ => False) w w') {a : Addr} {v : Value} (h : w.cell? a = some v) : w'.cell? a = some v :=
  (World.cell?_of_block (w := w) (f.block _ (World.block_lt_of_cell? _ _ h) id)).trans h

theorem Two.keep {b u v : Nat} {x x2 x3 : Int} {lx : Bool} {y y2 y3 : Int} {ly : Bool} {w w' : World} (h : Two b u v x x2 x3 lx y y2 y3 ly w) (f : Fr (fun _ => False) w w') : Two b u v x x2 x3 lx y y2 y3 ly w' := by
  obtain ⟨s0, s1, s2, s3, s4, s5, s6, s7, s8⟩ := h
  exact ⟨keep_cell f s0, keep_cell f s1, keep_cell f s2, keep_cell f s3, keep_cell f s4, keep_cell f s5, keep_cell f s6, keep_cell f s7, keep_cell f s8⟩

theorem Two.drew {b u v : Nat} {x x2 x3 : Int} {lx : Bool} {y y2 y3 : Int} {ly : Bool} {w : World} (h : Two b u v x x2 x3 lx y y2 y3 ly w) : Two b u v x x2 x3 lx y y2 y3 ly w.drew := h.keep (Fr.refl _ _).drew

set_option maxHeartbeats 4000000 in
theorem play_any (w : World) (b bs cs bh bl n : Nat) (V : Nat → Value) (h : Nat → Th × Bool) (lost : Nat → Nat) (T : TreeIs w lessV b bs cs bh bl n V h lost) (p q : Nat) (hp : p < n) (hq : q < n) :
    Calls Try.prog 23 #[.pointer (some ⟨b, 0, none⟩), .int .i64 p, .int .i64 q] w fun e w' => e = .returned (.tuple #[.int .i64 (best (hn h) p q : Nat), .int .i64 (worst (hn h) p q : Nat)]) ∧ Fr (fun _ => False) w w' := by
  have c0 : w.cell? ⟨b, 0, none⟩ = some lessV := T.tree.cell (i := 0) (by omega)
  have c2 : w.cell? ⟨b, 2, none⟩ = some (.slice (some ⟨bh, 0, none⟩) n n) := T.tree.cell (i := 2) (by omega)
  have d0 := T.hands.cell (i := p * 4) (by omega)
  have d1 := T.hands.cell (i := p * 4 + 1) (by omega)
  have d2 := T.hands.cell (i := p * 4 + 2) (by omega)
  have d3 := T.hands.cell (i := p * 4 + 3) (by omega)
  have e0 := T.hands.cell (i := q * 4) (by omega)
  have e1 := T.hands.cell (i := q * 4 + 1) (by omega)
  have e2 := T.hands.cell (i := q * 4 + 2) (by omega)
  have e3 := T.hands.cell (i := q * 4 + 3) (by omega)
  rw [hcell_0] at d0 e0
  rw [hcell_1] at d1 e1
  rw [hcell_2] at d2 e2
  rw [hcell_3] at d3 e3
  have hsm := T.small
  have hx0 : hn h p = ((h p).1.1, (h p).2) := rfl
  have hy0 : hn h q = ((h q).1.1, (h q).2) := rfl
  obtain ⟨x, hx⟩ : ∃ x, h p = x := ⟨_, rfl⟩
  obtain ⟨y, hy⟩ : ∃ y, h q = y := ⟨_, rfl⟩
  obtain ⟨⟨x, x2, x3⟩, lx⟩ := x
  obtain ⟨⟨y, y2, y3⟩, ly⟩ := y
  rw [hx] at d0 d1 d2 d3 hx0
  rw [hy] at e0 e1 e2 e3 hy0
  have HX := hid' hx0
  have HY := hid' hy0
  clear hx hy T hx0 hy0
  go_enter Try.func23, Try.ntmps23
  go_upto_region 1 with (fail)
  go_cut [8, 9] (fun s t wx => ∃ u v : Nat, s = .pointer (some ⟨u, 0, none⟩) ∧ t = .pointer (some ⟨v, 0, none⟩) ∧ Fr (fun _ => False) w wx ∧
    wx.cell? ⟨u, 0, none⟩ = some (.int .i64 x) ∧ wx.cell? ⟨u, 1, none⟩ = some (.int .i64 x2) ∧ wx.cell? ⟨u, 2, none⟩ = some (.int .i64 x3) ∧ wx.cell? ⟨u, 3, none⟩ = some (.bool lx) ∧
    wx.cell? ⟨v, 0, none⟩ = some (.int .i64 y) ∧ wx.cell? ⟨v, 1, none⟩ = some (.int .i64 y2) ∧ wx.cell? ⟨v, 2, none⟩ = some (.int .i64 y3) ∧ wx.cell? ⟨v, 3, none⟩ = some (.bool ly))
  case first =>
    go_region_held3 (fun w' => w'.cell? ⟨b, 2, none⟩ = some (.slice (some ⟨bh, 0, none⟩) n n) ∧ w'.cell? ⟨bh, p * 4, none⟩ = some (.int .i64 x) ∧ w'.cell? ⟨bh, p * 4 + 1, none⟩ = some (.int .i64 x2) ∧ w'.cell? ⟨bh, p * 4 + 2, none⟩ = some (.int .i64 x3) ∧ w'.cell? ⟨bh, p * 4 + 3, none⟩ = some (.bool lx) ∧ w'.cell? ⟨bh, q * 4, none⟩ = some (.int .i64 y) ∧ w'.cell? ⟨bh, q * 4 + 1, none⟩ = some (.int .i64 y2) ∧ w'.cell? ⟨bh, q * 4 + 2, none⟩ = some (.int .i64 y3) ∧ w'.cell? ⟨bh, q * 4 + 3, none⟩ = some (.bool ly)) (go_keep) (fail)
    all_goals (go_wp2_with fail; go_meet)
    case rel => exact ⟨_, _, rfl, rfl, (((Fr.refl _ w).alloc _).alloc _).drew, by simp, by simp, by simp, by simp, by simp, by simp, by simp, by simp⟩
    case rel => exact ⟨_, _, rfl, rfl, (((Fr.refl _ w).alloc _).alloc _).drew, by simp, by simp, by simp, by simp, by simp, by simp, by simp, by simp⟩
  case rest =>
    obtain ⟨u, v, rfl, rfl, hfr, cu0, cu1, cu2, cu3, cv0, cv1, cv2, cv3⟩ := hcut
    have c0' : wc.cell? ⟨b, 0, none⟩ = some lessV := keep_cell hfr c0
    have HFHT := hid' hfr
    clear c0 c2 d0 d1 d2 d3 e0 e1 e2 e3 hfr
    cases lx with
    | true =>
      cases ly with
      | true =>
        have HT := hid' (show Two b u v x x2 x3 true y y2 y3 true wc from ⟨c0', cu0, cu1, cu2, cu3, cv0, cv1, cv2, cv3⟩)
        by_cases hxy : x < y
        · have HAH := hid' (show ahead (hn h) p q = true by unfold ahead; rw [HX.out, HY.out]; simp [hxy])
          go_wp2_with fail
          refine wp_plan (Two b u v x x2 x3 true y y2 y3 true) [(0, true), (1, true), (2, true), (3, true), (4, true), (5, true), (6, true), (7, true), (8, true), (9, true), (10, true), (11, false), (12, true), (13, true)] _ (by kernel_rfl) (by kernel_rfl) (by simp only [planOps, List.getElem?_toArray, List.getElem?_cons_zero, List.getElem?_cons_succ]; rfl) HT.out.drew ?_
          iterate 11 (refine plan_take (v := ?_) rfl ?_ ?_; rotate_left; (focus (intro _ hS; obtain ⟨s0, s1, s2, s3, s4, s5, s6, s7, s8⟩ := hS; go_simp; first | done | with_reducible rfl)); simp only [Act.put, List.setIfInBounds_toArray, List.set_cons_zero, List.set_cons_succ])
          refine plan_do rfl fun K hK => ?_
          go_simp
          go_at_call 16
          refine (less_any x x2 x3 y y2 y3 _).mono ?_
          rintro e w4 ⟨rfl, f4⟩
          simp only []
          refine hK _ _ (HT.out.drew.keep f4) ?_
          have HT1 := hid' (HT.out.drew.keep f4)
          have HFHT1 := hid' (HFHT.out.trans ((Fr.refl _ _).drew.trans f4))
          clear hK K f4 HT HFHT
          iterate 2 (refine plan_take (v := ?_) rfl ?_ ?_; rotate_left; (focus (intro _ hS; obtain ⟨s0, s1, s2, s3, s4, s5, s6, s7, s8⟩ := hS; go_simp; first | done | with_reducible rfl)); simp only [Act.put, List.setIfInBounds_toArray, List.set_cons_zero, List.set_cons_succ])
          refine plan_nil ?_
          go_wp2_with fail
          go_ret2
          exact ⟨by rw [best_true (hn h) p q HAH.out, worst_true (hn h) p q HAH.out]; rfl, HFHT1.out⟩
        · by_cases hyx : y < x
          · have HAH := hid' (show ahead (hn h) p q = false by unfold ahead; rw [HX.out, HY.out]; simp [hxy, hyx])
            go_wp2_with fail
            refine wp_plan (Two b u v x x2 x3 true y y2 y3 true) [(0, true), (1, true), (2, true), (3, true), (4, true), (5, true), (6, true), (7, true), (8, true), (9, true), (10, true), (11, false), (12, true), (13, true)] _ (by kernel_rfl) (by kernel_rfl) (by simp only [planOps, List.getElem?_toArray, List.getElem?_cons_zero, List.getElem?_cons_succ]; rfl) HT.out.drew ?_
            iterate 11 (refine plan_take (v := ?_) rfl ?_ ?_; rotate_left; (focus (intro _ hS; obtain ⟨s0, s1, s2, s3, s4, s5, s6, s7, s8⟩ := hS; go_simp; first | done | with_reducible rfl)); simp only [Act.put, List.setIfInBounds_toArray, List.set_cons_zero, List.set_cons_succ])
            refine plan_do rfl fun K hK => ?_
            go_simp
            go_at_call 16
            refine (less_any x x2 x3 y y2 y3 _).mono ?_
            rintro e w4 ⟨rfl, f4⟩
            simp only []
            refine hK _ _ (HT.out.drew.keep f4) ?_
            have HT1 := hid' (HT.out.drew.keep f4)
            have HFHT1 := hid' (HFHT.out.trans ((Fr.refl _ _).drew.trans f4))
            clear hK K f4 HT HFHT
            iterate 2 (refine plan_take (v := ?_) rfl ?_ ?_; rotate_left; (focus (intro _ hS; obtain ⟨s0, s1, s2, s3, s4, s5, s6, s7, s8⟩ := hS; go_simp; first | done | with_reducible rfl)); simp only [Act.put, List.setIfInBounds_toArray, List.set_cons_zero, List.set_cons_succ])
            refine plan_nil ?_
            go_wp2_with fail
            refine wp_plan (Two b u v x x2 x3 true y y2 y3 true) [(0, true), (1, true), (2, true), (3, true), (4, true), (5, true), (6, true), (7, true), (8, true), (9, true), (10, true), (11, false), (12, true), (13, true)] _ (by kernel_rfl) (by kernel_rfl) (by simp only [planOps, List.getElem?_toArray, List.getElem?_cons_zero, List.getElem?_cons_succ]; rfl) HT1.out.drew ?_
            iterate 11 (refine plan_take (v := ?_) rfl ?_ ?_; rotate_left; (focus (intro _ hS; obtain ⟨s0, s1, s2, s3, s4, s5, s6, s7, s8⟩ := hS; go_simp; first | done | with_reducible rfl)); simp only [Act.put, List.setIfInBounds_toArray, List.set_cons_zero, List.set_cons_succ])
            refine plan_do rfl fun K hK => ?_
            go_simp
            go_at_call 16
            refine (less_any y y2 y3 x x2 x3 _).mono ?_
            rintro e w4 ⟨rfl, f4⟩
            simp only []
            refine hK _ _ (HT1.out.drew.keep f4) ?_
            have HT2 := hid' (HT1.out.drew.keep f4)
            have HFHT2 := hid' (HFHT1.out.trans ((Fr.refl _ _).drew.trans f4))
            clear hK K f4 HT1 HFHT1
            iterate 2 (refine plan_take (v := ?_) rfl ?_ ?_; rotate_left; (focus (intro _ hS; obtain ⟨s0, s1, s2, s3, s4, s5, s6, s7, s8⟩ := hS; go_simp; first | done | with_reducible rfl)); simp only [Act.put, List.setIfInBounds_toArray, List.set_cons_zero, List.set_cons_succ])
            refine plan_nil ?_
            go_wp2_with fail
            go_ret2
            exact ⟨by rw [best_false (hn h) p q HAH.out, worst_false (hn h) p q HAH.out]; rfl, HFHT2.out⟩
          · have HM := hid' (best_tie (hn h) p q (by unfold ahead; rw [HX.out, HY.out]; simp [hxy, hyx]))
            rcases Nat.lt_trichotomy p q with h1 | rfl | h1
            · go_wp2_with fail
              refine wp_plan (Two b u v x x2 x3 true y y2 y3 true) [(0, true), (1, true), (2, true), (3, true), (4, true), (5, true), (6, true), (7, true), (8, true), (9, true), (10, true), (11, false), (12, true), (13, true)] _ (by kernel_rfl) (by kernel_rfl) (by simp only [planOps, List.getElem?_toArray, List.getElem?_cons_zero, List.getElem?_cons_succ]; rfl) HT.out.drew ?_
              iterate 11 (refine plan_take (v := ?_) rfl ?_ ?_; rotate_left; (focus (intro _ hS; obtain ⟨s0, s1, s2, s3, s4, s5, s6, s7, s8⟩ := hS; go_simp; first | done | with_reducible rfl)); simp only [Act.put, List.setIfInBounds_toArray, List.set_cons_zero, List.set_cons_succ])
              refine plan_do rfl fun K hK => ?_
              go_simp
              go_at_call 16
              refine (less_any x x2 x3 y y2 y3 _).mono ?_
              rintro e w4 ⟨rfl, f4⟩
              simp only []
              refine hK _ _ (HT.out.drew.keep f4) ?_
              have HT1 := hid' (HT.out.drew.keep f4)
              have HFHT1 := hid' (HFHT.out.trans ((Fr.refl _ _).drew.trans f4))
              clear hK K f4 HT HFHT
              iterate 2 (refine plan_take (v := ?_) rfl ?_ ?_; rotate_left; (focus (intro _ hS; obtain ⟨s0, s1, s2, s3, s4, s5, s6, s7, s8⟩ := hS; go_simp; first | done | with_reducible rfl)); simp only [Act.put, List.setIfInBounds_toArray, List.set_cons_zero, List.set_cons_succ])
              refine plan_nil ?_
              go_wp2_with fail
              refine wp_plan (Two b u v x x2 x3 true y y2 y3 true) [(0, true), (1, true), (2, true), (3, true), (4, true), (5, true), (6, true), (7, true), (8, true), (9, true), (10, true), (11, false), (12, true), (13, true)] _ (by kernel_rfl) (by kernel_rfl) (by simp only [planOps, List.getElem?_toArray, List.getElem?_cons_zero, List.getElem?_cons_succ]; rfl) HT1.out.drew ?_
              iterate 11 (refine plan_take (v := ?_) rfl ?_ ?_; rotate_left; (focus (intro _ hS; obtain ⟨s0, s1, s2, s3, s4, s5, s6, s7, s8⟩ := hS; go_simp; first | done | with_reducible rfl)); simp only [Act.put, List.setIfInBounds_toArray, List.set_cons_zero, List.set_cons_succ])
              refine plan_do rfl fun K hK => ?_
              go_simp
              go_at_call 16
              refine (less_any y y2 y3 x x2 x3 _).mono ?_
              rintro e w4 ⟨rfl, f4⟩
              simp only []
              refine hK _ _ (HT1.out.drew.keep f4) ?_
              have HT2 := hid' (HT1.out.drew.keep f4)
              have HFHT2 := hid' (HFHT1.out.trans ((Fr.refl _ _).drew.trans f4))
              clear hK K f4 HT1 HFHT1
              iterate 2 (refine plan_take (v := ?_) rfl ?_ ?_; rotate_left; (focus (intro _ hS; obtain ⟨s0, s1, s2, s3, s4, s5, s6, s7, s8⟩ := hS; go_simp; first | done | with_reducible rfl)); simp only [Act.put, List.setIfInBounds_toArray, List.set_cons_zero, List.set_cons_succ])
              refine plan_nil ?_
              go_wp2_with fail
              go_ret2
              exact ⟨by rw [HM.out.1, HM.out.2, show min p q = p by omega, show max p q = q by omega]; rfl, HFHT2.out⟩
            · go_wp2_with fail
              refine wp_plan (Two b u v x x2 x3 true y y2 y3 true) [(0, true), (1, true), (2, true), (3, true), (4, true), (5, true), (6, true), (7, true), (8, true), (9, true), (10, true), (11, false), (12, true), (13, true)] _ (by kernel_rfl) (by kernel_rfl) (by simp only [planOps, List.getElem?_toArray, List.getElem?_cons_zero, List.getElem?_cons_succ]; rfl) HT.out.drew ?_
              iterate 11 (refine plan_take (v := ?_) rfl ?_ ?_; rotate_left; (focus (intro _ hS; obtain ⟨s0, s1, s2, s3, s4, s5, s6, s7, s8⟩ := hS; go_simp; first | done | with_reducible rfl)); simp only [Act.put, List.setIfInBounds_toArray, List.set_cons_zero, List.set_cons_succ])
              refine plan_do rfl fun K hK => ?_
              go_simp
              go_at_call 16
              refine (less_any x x2 x3 y y2 y3 _).mono ?_
              rintro e w4 ⟨rfl, f4⟩
              simp only []
              refine hK _ _ (HT.out.drew.keep f4) ?_
              have HT1 := hid' (HT.out.drew.keep f4)
              have HFHT1 := hid' (HFHT.out.trans ((Fr.refl _ _).drew.trans f4))
              clear hK K f4 HT HFHT
              iterate 2 (refine plan_take (v := ?_) rfl ?_ ?_; rotate_left; (focus (intro _ hS; obtain ⟨s0, s1, s2, s3, s4, s5, s6, s7, s8⟩ := hS; go_simp; first | done | with_reducible rfl)); simp only [Act.put, List.setIfInBounds_toArray, List.set_cons_zero, List.set_cons_succ])
              refine plan_nil ?_
              go_wp2_with fail
              refine wp_plan (Two b u v x x2 x3 true y y2 y3 true) [(0, true), (1, true), (2, true), (3, true), (4, true), (5, true), (6, true), (7, true), (8, true), (9, true), (10, true), (11, false), (12, true), (13, true)] _ (by kernel_rfl) (by kernel_rfl) (by simp only [planOps, List.getElem?_toArray, List.getElem?_cons_zero, List.getElem?_cons_succ]; rfl) HT1.out.drew ?_
              iterate 11 (refine plan_take (v := ?_) rfl ?_ ?_; rotate_left; (focus (intro _ hS; obtain ⟨s0, s1, s2, s3, s4, s5, s6, s7, s8⟩ := hS; go_simp; first | done | with_reducible rfl)); simp only [Act.put, List.setIfInBounds_toArray, List.set_cons_zero, List.set_cons_succ])
              refine plan_do rfl fun K hK => ?_
              go_simp
              go_at_call 16
              refine (less_any y y2 y3 x x2 x3 _).mono ?_
              rintro e w4 ⟨rfl, f4⟩
              simp only []
              refine hK _ _ (HT1.out.drew.keep f4) ?_
              have HT2 := hid' (HT1.out.drew.keep f4)
              have HFHT2 := hid' (HFHT1.out.trans ((Fr.refl _ _).drew.trans f4))
              clear hK K f4 HT1 HFHT1
              iterate 2 (refine plan_take (v := ?_) rfl ?_ ?_; rotate_left; (focus (intro _ hS; obtain ⟨s0, s1, s2, s3, s4, s5, s6, s7, s8⟩ := hS; go_simp; first | done | with_reducible rfl)); simp only [Act.put, List.setIfInBounds_toArray, List.set_cons_zero, List.set_cons_succ])
              refine plan_nil ?_
              go_wp2_with fail
              go_ret2
              exact ⟨by rw [HM.out.1, HM.out.2, show min p p = p by omega, show max p p = p by omega]; rfl, HFHT2.out⟩
            · go_wp2_with fail
              refine wp_plan (Two b u v x x2 x3 true y y2 y3 true) [(0, true), (1, true), (2, true), (3, true), (4, true), (5, true), (6, true), (7, true), (8, true), (9, true), (10, true), (11, false), (12, true), (13, true)] _ (by kernel_rfl) (by kernel_rfl) (by simp only [planOps, List.getElem?_toArray, List.getElem?_cons_zero, List.getElem?_cons_succ]; rfl) HT.out.drew ?_
              iterate 11 (refine plan_take (v := ?_) rfl ?_ ?_; rotate_left; (focus (intro _ hS; obtain ⟨s0, s1, s2, s3, s4, s5, s6, s7, s8⟩ := hS; go_simp; first | done | with_reducible rfl)); simp only [Act.put, List.setIfInBounds_toArray, List.set_cons_zero, List.set_cons_succ])
              refine plan_do rfl fun K hK => ?_
              go_simp
              go_at_call 16
              refine (less_any x x2 x3 y y2 y3 _).mono ?_
              rintro e w4 ⟨rfl, f4⟩
              simp only []
              refine hK _ _ (HT.out.drew.keep f4) ?_
              have HT1 := hid' (HT.out.drew.keep f4)
              have HFHT1 := hid' (HFHT.out.trans ((Fr.refl _ _).drew.trans f4))
              clear hK K f4 HT HFHT
              iterate 2 (refine plan_take (v := ?_) rfl ?_ ?_; rotate_left; (focus (intro _ hS; obtain ⟨s0, s1, s2, s3, s4, s5, s6, s7, s8⟩ := hS; go_simp; first | done | with_reducible rfl)); simp only [Act.put, List.setIfInBounds_toArray, List.set_cons_zero, List.set_cons_succ])
              refine plan_nil ?_
              go_wp2_with fail
              refine wp_plan (Two b u v x x2 x3 true y y2 y3 true) [(0, true), (1, true), (2, true), (3, true), (4, true), (5, true), (6, true), (7, true), (8, true), (9, true), (10, true), (11, false), (12, true), (13, true)] _ (by kernel_rfl) (by kernel_rfl) (by simp only [planOps, List.getElem?_toArray, List.getElem?_cons_zero, List.getElem?_cons_succ]; rfl) HT1.out.drew ?_
              iterate 11 (refine plan_take (v := ?_) rfl ?_ ?_; rotate_left; (focus (intro _ hS; obtain ⟨s0, s1, s2, s3, s4, s5, s6, s7, s8⟩ := hS; go_simp; first | done | with_reducible rfl)); simp only [Act.put, List.setIfInBounds_toArray, List.set_cons_zero, List.set_cons_succ])
              refine plan_do rfl fun K hK => ?_
              go_simp
              go_at_call 16
              refine (less_any y y2 y3 x x2 x3 _).mono ?_
              rintro e w4 ⟨rfl, f4⟩
              simp only []
              refine hK _ _ (HT1.out.drew.keep f4) ?_
              have HT2 := hid' (HT1.out.drew.keep f4)
              have HFHT2 := hid' (HFHT1.out.trans ((Fr.refl _ _).drew.trans f4))
              clear hK K f4 HT1 HFHT1
              iterate 2 (refine plan_take (v := ?_) rfl ?_ ?_; rotate_left; (focus (intro _ hS; obtain ⟨s0, s1, s2, s3, s4, s5, s6, s7, s8⟩ := hS; go_simp; first | done | with_reducible rfl)); simp only [Act.put, List.setIfInBounds_toArray, List.set_cons_zero, List.set_cons_succ])
              refine plan_nil ?_
              go_wp2_with fail
              go_ret2
              exact ⟨by rw [HM.out.1, HM.out.2, show min p q = q by omega, show max p q = p by omega]; rfl, HFHT2.out⟩
      | false =>
        have HAH := hid' (show ahead (hn h) p q = true by unfold ahead; rw [HX.out, HY.out]; simp)
        go_wp2_with fail
        go_ret2
        exact ⟨by rw [best_true (hn h) p q HAH.out, worst_true (hn h) p q HAH.out]; rfl, HFHT.out⟩
    | false =>
      cases ly with
      | true =>
        have HAH := hid' (show ahead (hn h) p q = false by unfold ahead; rw [HX.out, HY.out]; simp)
        go_wp2_with fail
        go_ret2
        exact ⟨by rw [best_false (hn h) p q HAH.out, worst_false (hn h) p q HAH.out]; rfl, HFHT.out⟩
      | false =>
        have HM := hid' (best_tie (hn h) p q (by unfold ahead; rw [HX.out, HY.out]; simp))
        rcases Nat.lt_trichotomy p q with h1 | rfl | h1
        · go_wp2_with fail
          go_quiet (fail)
          go_wp2_with fail
          go_quiet (fail)
          go_wp2_with fail
          go_ret2
          exact ⟨by rw [HM.out.1, HM.out.2, show min p q = p by omega, show max p q = q by omega]; rfl, HFHT.out.drewN _⟩
        · go_wp2_with fail
          go_quiet (fail)
          go_wp2_with fail
          go_quiet (fail)
          go_wp2_with fail
          go_ret2
          exact ⟨by rw [HM.out.1, HM.out.2, show min p p = p by omega, show max p p = p by omega]; rfl, HFHT.out.drewN _⟩
        · go_wp2_with fail
          go_quiet (fail)
          go_wp2_with fail
          go_quiet (fail)
          go_wp2_with fail
          go_ret2
          exact ⟨by rw [HM.out.1, HM.out.2, show min p q = q by omega, show max p q = p by omega]; rfl, HFHT.out.drewN _⟩

end Go.Proofs.Ytiakgffanplmdaa.T

/- New over no sources at all. -/
import Derived.Test.YtiakgffanplmdaaRun
namespace Go.Proofs.Ytiakgffanplmdaa
open Go.RowKit Go.Deep

theorem Made.step3n {w w' : World} {V : Nat → Value} {g : Nat} {g5 g7 : Option Nat} (H : Made w w' 0 V (some g) none g5 g7) :
    (Builtin.append_ #[35, 35] 35 #[.slice (some ⟨g, 0, none⟩) 0 0, .slice none 0 0]).run Try.prog w' = .ok (.slice (some ⟨g, 0, none⟩) 0 0) w' ∧ Made w w' 0 V (some g) (some g) g5 g7 := by
  obtain ⟨hwg, hg2, hg⟩ := H.e1 g rfl
  exact ⟨run_append_new0 w' g (hg rfl), H.fr, fun k h => by cases h; exact ⟨hwg, hg2, fun h => by cases h⟩, fun k h => by cases h; exact ⟨hwg, hg2, fun i hi => by omega⟩, H.e5, H.e7, H.d15, H.d17, fun k l h h' => by cases h; exact H.d15 g l rfl h', fun k l h h' => by cases h; exact H.d17 g l rfl h', H.d57⟩

set_option maxHeartbeats 4000000 in
theorem new_nil_any (w : World) (V : Nat → Value) :
    Calls Try.prog 7 #[lessV, .slice none 0 0] w fun e w' => ∃ b bs cs bh bl, e = .returned (.pointer (some ⟨b, 0, none⟩)) ∧
      TreeIs w' lessV b bs cs bh bl 0 V (fun _ => (0, false)) (fun _ => 0) ∧ Fr (fun _ => False) w w' ∧ w.heap.size ≤ b ∧ w.heap.size ≤ bs ∧ w.heap.size ≤ bh ∧ w.heap.size ≤ bl := by
  have mk1 := hid' (show ∀ w : World, (Instr.makeSlice 53 (.int .i64 0) (.int .i64 0)).run Try.prog w = .ok (.slice (some ⟨w.heap.size, 0, none⟩) 0 0) (w.alloc (.cells (madeCells #[.int .i64 0, .bool false] 0) 60)) from fun w => run_make53 w 0 (by omega))
  have mk2 := hid' (show ∀ w : World, (Instr.makeSlice 27 (.int .i64 0) (.int .i64 0)).run Try.prog w = .ok (.slice (some ⟨w.heap.size, 0, none⟩) 0 0) (w.alloc (.cells (madeCells #[.int .i64 0] 0) 3)) from fun w => run_make27 w 0 (by omega))
  go_enter Try.func7, Try.ntmps7
  go_upto_region 2 with (fail)
  go_cut [6] (fun p wx => ∃ b bs cs bh bl, p = .pointer (some ⟨b, 0, none⟩) ∧ TreeIs wx lessV b bs cs bh bl 0 V (fun _ => (0, false)) (fun _ => 0) ∧ Fr (fun _ => False) w wx ∧ w.heap.size ≤ b ∧ w.heap.size ≤ bs ∧ w.heap.size ≤ bh ∧ w.heap.size ≤ bl)
  case first =>
    refine wp_fork (fun _ => True) (.take 0 (.take 2 (.take 4 (.take 6 (.alt 1 (.alt 3 (.alt 5 (.alt 7 (.take 8 (.alt 9 (.take 10 .stop) .stop)) .stop) (.alt 7 (.alt 5 (.take 8 (.alt 9 (.take 10 .stop) .stop)) .stop) .stop)) (.alt 5 (.alt 3 (.alt 7 (.take 8 (.alt 9 (.take 10 .stop) .stop)) .stop) (.alt 7 (.alt 3 (.take 8 (.alt 9 (.take 10 .stop) .stop)) .stop) .stop)) (.alt 7 (.alt 3 (.alt 5 (.take 8 (.alt 9 (.take 10 .stop) .stop)) .stop) (.alt 5 (.alt 3 (.take 8 (.alt 9 (.take 10 .stop) .stop)) .stop) .stop)) .stop))) (.alt 5 (.alt 1 (.alt 3 (.alt 7 (.take 8 (.alt 9 (.take 10 .stop) .stop)) .stop) (.alt 7 (.alt 3 (.take 8 (.alt 9 (.take 10 .stop) .stop)) .stop) .stop)) (.alt 7 (.alt 1 (.alt 3 (.take 8 (.alt 9 (.take 10 .stop) .stop)) .stop) .stop) .stop)) (.alt 7 (.alt 1 (.alt 3 (.alt 5 (.take 8 (.alt 9 (.take 10 .stop) .stop)) .stop) (.alt 5 (.alt 3 (.take 8 (.alt 9 (.take 10 .stop) .stop)) .stop) .stop)) (.alt 5 (.alt 1 (.alt 3 (.take 8 (.alt 9 (.take 10 .stop) .stop)) .stop) .stop) .stop)) .stop))))))) (by kernel_rfl) (by kernel_rfl) trivial ?_
    have H : Made w w.drew 0 V none none none none := ⟨(Fr.refl _ _).drew, by simp, by simp, by simp, by simp, by simp, by simp, by simp, by simp, by simp⟩
    obtain ⟨wz, hz⟩ : ∃ wz, w.drew = wz := ⟨_, rfl⟩
    rw [hz] at H ⊢
    clear hz
    repeat' (first
      | refine fork_end
      | (refine fork_take (v := ?_) rfl rfl ?_ ?_; rotate_left; (focus (intro _ _; go_simp; first | done | with_reducible rfl)); simp only [Act.put, List.getElem_toArray, List.getElem_cons_zero, List.getElem_cons_succ, List.setIfInBounds_toArray, List.set_cons_zero, List.set_cons_succ])
      | (refine fork_do (i := 1) rfl rfl (fun K hK => ?_) ?_; (focus (go_simp; refine hK _ _ trivial ?_; obtain ⟨W, hW⟩ : ∃ W, wz.alloc (.cells #[] 25) = W := ⟨_, rfl⟩; obtain ⟨g1, hg⟩ : ∃ g, wz.heap.size = g := ⟨_, rfl⟩; rw [hW, hg]; have H2 := H.step1; rw [hW, hg] at H2; clear H hW hg; clear hK K wz; revert H2; revert W; intro wz H)))
      | (refine fork_do (i := 5) rfl rfl (fun K hK => ?_) ?_; (focus (have mk := mk1.out wz; go_simp; clear mk; refine hK _ _ trivial ?_; obtain ⟨W, hW⟩ : ∃ W, wz.alloc (.cells (madeCells #[.int .i64 0, .bool false] 0) 60) = W := ⟨_, rfl⟩; obtain ⟨g5, hg⟩ : ∃ g, wz.heap.size = g := ⟨_, rfl⟩; rw [hW, hg]; have H2 : Made w (wz.alloc (.cells (madeCells #[.int .i64 0, .bool false] 0) 60)) 0 V _ _ (some wz.heap.size) _ := H.step5; rw [hW, hg] at H2; clear H hW hg; clear hK K wz; revert H2; revert W; intro wz H)))
      | (refine fork_do (i := 7) rfl rfl (fun K hK => ?_) ?_; (focus (have mk := mk2.out wz; go_simp; clear mk; refine hK _ _ trivial ?_; obtain ⟨W, hW⟩ : ∃ W, wz.alloc (.cells (madeCells #[.int .i64 0] 0) 3) = W := ⟨_, rfl⟩; obtain ⟨g7, hg⟩ : ∃ g, wz.heap.size = g := ⟨_, rfl⟩; rw [hW, hg]; have H2 := H.step7; rw [hW, hg] at H2; clear H hW hg; clear hK K wz; revert H2; revert W; intro wz H)))
      | (refine fork_do (i := 3) rfl rfl (fun K hK => ?_) ?_; (focus (obtain ⟨hrun, H2⟩ := H.step3n; refine wp_append_run _ _ _ rfl _ _ _ _ _ rfl rfl hrun ?_; simp only [Act.put, List.getElem_toArray, List.getElem_cons_zero, List.getElem_cons_succ, List.setIfInBounds_toArray, List.set_cons_zero, List.set_cons_succ]; refine hK _ _ trivial ?_; clear H hrun; clear hK K; revert H2; intro H)))
      | (refine fork_do (i := 9) rfl rfl (fun K hK => ?_) ?_; (focus (go_simp; refine hK _ _ trivial ?_; clear hK K))))
    all_goals (refine fork_nil ?_; go_wp2_with fail; go_meet)
    all_goals exact ⟨_, _, _, _, _, rfl, H.tree (by omega) _, H.fr.alloc _, H.fr.size, (H.e3 _ rfl).1, (H.e5 _ rfl).1, (H.e7 _ rfl).1⟩
  case rest =>
    obtain ⟨b, bs, cs, bh, bl, rfl, hT, hF, hb1, hb2, hb3, hb4⟩ := hcut
    have HT := hid' hT
    have HF := hid' hF
    clear hT hF
    have mk3 := mk2.out wc
    go_wp2_with fail
    clear mk3
    have hfa : Fr (fun _ => False) wc (wc.alloc (Obj.cells (madeCells #[Value.int IntKind.i64 0] 0) 3)) := (Fr.refl _ _).alloc _
    obtain ⟨wd, hwd⟩ : ∃ wd, wc.alloc (Obj.cells (madeCells #[Value.int IntKind.i64 0] 0) 3) = wd := ⟨_, rfl⟩
    rw [hwd] at hfa ⊢
    have HA := hid' hfa
    clear hfa hwd
    refine wp_loop_rounds 1 ?_
    rw [rounds_succ]
    go_wp2_with fail
    refine wp_loop_rounds 1 ?_
    rw [rounds_succ]
    go_wp2_with fail
    go_ret
    exact ⟨b, bs, cs, bh, bl, rfl, HT.out.keep HA.out id id id id, HF.out.trans HA.out, hb1, hb2, hb3, hb4⟩

theorem run_new_nil (D : Src) (w : World) (H : Holds D 0 (fun _ => 0) w) (hd : ∀ k, Dep D 0 k → k < w.heap.size) :
    Calls Try.prog 7 #[lessV, .slice none 0 0] w fun e w' => ∃ b bs cs bh bl, e = .returned (.pointer (some ⟨b, 0, none⟩)) ∧ Run D 0 b bs cs bh bl (fun _ => 0) w' ∧ Fr (fun _ => False) w w' ∧
      w.heap.size ≤ b ∧ w.heap.size ≤ bs ∧ w.heap.size ≤ bh ∧ w.heap.size ≤ bl := by
  refine (new_nil_any w (srcV D)).mono ?_
  rintro e w' ⟨b, bs, cs, bh, bl, rfl, T, f, h1, h2, h3, h4⟩
  refine ⟨b, bs, cs, bh, bl, rfl, ⟨⟨fun _ => 0, ?_, fun h => by omega⟩, ⟨_, H.keep f (fun _ h => h.elim), fun j hj => by omega⟩, fun k hk => ?_⟩, f, h1, h2, h3, h4⟩
  · exact { T with hands := T.hands.congr fun j hj => by omega }
  · have := hd k hk
    omega

end Go.Proofs.Ytiakgffanplmdaa

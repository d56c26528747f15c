/- Proved: rows come back out of their text, two lists of rows have one text just if they are the same, and a text cut ahead of a line's end is none: the law ReportBack returns true and leaves its arguments as they were. No condition. -/
import Derived.Test.YtknjhmaldnjhbaaDoorBk
import Derived.Test.YtknjhmaldnjhbaaDoorL
import Derived.Test.YtknjhmaldnjhbaaDoorOp
import Derived.Test.YtknjhmaldnjhbaaDoorTie
import Derived.Test.YtknjhmaldnjhbaaDoorCards
import Derived.SevenTiedAt
namespace Go.Proofs.YtknjhmaldnjhbaaDoor.reportBack
open Go.ChangeShapes Go.WideShapes Go.ChangeAt Go.RowKit

set_option maxRecDepth 100000 in
theorem lifted (os : Os) (started : os.Started) (H : Type) (enc : TypeId × Value → H) :
    ReturnsInHanded {} Tryd.checked os 4 .any (fun w args => (Rows.reportBackSpec.pre enc Tryd.prog Tryd.f4 Rows.reportBackRow.domain false w args ∧ laidMetH Tryd.prog lst w) ∧ sizedMet enc Tryd.prog Tryd.f4 (OpenSpec.ofChange Rows.reportBackSpec) false w args)
      (Rows.reportBackSpec.post enc Tryd.prog Tryd.f4 false true false false) := by
  refine returnsInHanded_of_listed (C := Tryd.checked) own started (by kernel_rfl) Tryd.func4
    (ChangeSpec.witness_shaped (enc := enc) (C := Tryd.checked) (os := os) (X := fun w _ => laidMetH Tryd.prog lst w) false (start os) #[.slice none 0 0, .slice none 0 0, .int .i64 0] 8 (World.laidAll_os _ _ _)
      (World.shaped_of_ZipB (by kernel_rfl) (by kernel_rfl)) (by kernel_rfl) (by kernel_rfl) (by kernel_rfl) (start_met os _)) ?_
  intro W base args ds gs before hval0 hW hcnd hz0 hL hsh _
  have hval : ∀ (j : Nat) t v, Tryd.f4.params[j]? = some t → args[j]? = some v → Value.okWide Tryd.prog W .any base t v := hval0
  have hW' := hW
  obtain ⟨p, q, hA0, hV, rfl, hfz, hnd⟩ := hW
  have hA : DataW.TrodAll enc Tryd.prog W 0 (fun _ => true) true Tryd.f4.params.toList args.toList ds p := hA0
  rw [Tryd.params4] at hA hval
  obtain ⟨v0, vs0, d0, ds0, p0, q0, hargs, rfl, rfl, h0, r0⟩ := trodAll_cons hA
  obtain ⟨v1, vs1, d1, ds1, p1, q1, rfl, rfl, rfl, h1, r1⟩ := trodAll_cons r0
  obtain ⟨v2, vs2, d2, ds2, p2, q2, rfl, rfl, rfl, h2, r2⟩ := trodAll_cons r1
  obtain ⟨rfl, rfl, rfl⟩ := trodAll_nil r2
  obtain rfl : args = #[v0, v1, v2] := by cases args; simp_all
  obtain ⟨rfl, rfl⟩ := trodVars_none hV
  obtain ⟨cut, rfl, rfl, rfl, wc⟩ := open_int Tryd.underlying3 (hval 2 3 v2 rfl rfl) h2
  have hz : (DataW.weightsEach Tryd.prog (22 :: [22, 3]) [d0, d1, DataW.lit (Lit.int .i64 cut)]).all (· ≤ reachBytes) = true := hz0
  have hlt0 : ∀ x ∈ p0, x.block < W.heap.size := fun x hx => hW'.lt x (by simp [hx])
  have hlt1 : ∀ x ∈ p1, x.block < W.heap.size := fun x hx => hW'.lt x (by simp [hx])
  obtain ⟨X, hX, hXI⟩ := open_arg (j := 0) (hval 0 22 v0 rfl rfl) h0 hz rfl rfl
  obtain ⟨Y, hY, hYI⟩ := open_arg (j := 1) (hval 1 22 v1 rfl rfl) h1 hz rfl rfl
  clear hA0 hval0
  simp only [List.append_nil] at hW'
  refine (back_any v0 v1 cut X Y W (env_of hL hsh) hX hY hXI hYI).mono fun e W' ⟨he, hb⟩ => ?_
  subst he
  have hB := hb.below
  exact ⟨_, rfl, _, _, _, [], _, [], hW', (trodAll_cons_mk (shut_bool Tryd.underlying4 _) trodAll_mk0), (trodAll_cons_mk (Below.trod laidOut (by kernel_rfl) (of_decide_eq_true (by kernel_rfl)) h0 hB hlt0) (trodAll_cons_mk (Below.trod laidOut (by kernel_rfl) (of_decide_eq_true (by kernel_rfl)) h1 hB hlt1) (trodAll_cons_mk (shut_int Tryd.underlying3 wc) trodAll_mk0))), rfl, hB.frame _, fun h => by cases h⟩

theorem over : Rows.ReportBackSaid :=
  OpenClaim.holds_of_wide 4 Tryd.f4 rfl rfl rfl rfl rfl rfl rfl ⟨rfl, rfl, rfl, rfl, rfl⟩ rfl rfl rfl rfl rfl (by kernel_rfl) Tryd.func4 (by kernel_rfl)
    (of_decide_eq_true (by kernel_rfl)) (by unfold Func.isWrapper; first | (rw [if_pos (by decide +kernel)]; kernel_rfl) | (rw [if_neg (by decide +kernel)]; exact ⟨rfl, rfl⟩))
    (fun os started H enc _ => lifted os started H enc)

/-- ████ THE STATEMENT ████ -/
theorem proved : Rows.ReportBackCardSaid :=
  Claim7.holds_tied_plain_at .later [] [.data, .data, .data, .data, .sentinel, .sentinel, .pinned] true (true, "87c149b0b78e56985a935b2fc253699735999bb97f87e10723b9edba05de4df2") true
    over (fun _ h => by cases h) (by kernel_rfl) (fun _ h => by cases h) reportBack_row_tie rfl ⟨rfl, rfl⟩ (by kernel_rfl) rfl
    (fun f fn hf hfn => by
      obtain rfl : f = 4 := Option.some.inj ((show Tryd.prog.funcNamed "sheaf/sheaflaw23.ReportBack" = some 4 by kernel_rfl).symm.trans hf) |>.symm
      obtain rfl : fn = Tryd.f4 := (Option.some.inj (Tryd.func4.symm.trans hfn)).symm
      exact ⟨by kernel_rfl, fun j t ht => by
        rw [Tryd.params4] at ht
        have hm : t ∈ [22, 3] := by
          have h := Array.mem_of_getElem? ht
          simp at h ⊢
          exact h
        have hall : ([22, 3].all fun u => !Tryd.prog.wantsStandIn u) = true := by kernel_rfl
        exact (show Tryd.prog.wantsStandIn t = false by simpa using List.all_eq_true.1 hall t hm)⟩)
    (by kernel_rfl)
end Go.Proofs.YtknjhmaldnjhbaaDoor.reportBack

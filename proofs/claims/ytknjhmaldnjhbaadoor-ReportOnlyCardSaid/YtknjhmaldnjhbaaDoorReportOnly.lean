/- Proved: what is read from a text with a byte turned among it is written just so, and what cannot be read is not good or has more than eighteen digits: the law ReportOnly returns true and leaves its arguments as they were. No condition. -/
import Derived.Test.YtknjhmaldnjhbaaDoorOn
import Derived.Test.YtknjhmaldnjhbaaDoorL
import Derived.Test.YtknjhmaldnjhbaaDoorOp
import Derived.Test.YtknjhmaldnjhbaaDoorTie
import Derived.Test.YtknjhmaldnjhbaaDoorCards
import Derived.SevenTiedAt
namespace Go.Proofs.YtknjhmaldnjhbaaDoor.reportOnly
open Go.ChangeShapes Go.WideShapes Go.ChangeAt Go.RowKit

set_option maxRecDepth 100000 in
theorem lifted (os : Os) (started : os.Started) (H : Type) (enc : TypeId × Value → H) :
    ReturnsInHanded {} Tryd.checked os 5 .any (fun w args => (Rows.reportOnlySpec.pre enc Tryd.prog Tryd.f5 Rows.reportOnlyRow.domain false w args ∧ laidMetH Tryd.prog lst w) ∧ sizedMet enc Tryd.prog Tryd.f5 (OpenSpec.ofChange Rows.reportOnlySpec) false w args)
      (Rows.reportOnlySpec.post enc Tryd.prog Tryd.f5 false true false false) := by
  refine returnsInHanded_of_listed (C := Tryd.checked) own started (by kernel_rfl) Tryd.func5
    (ChangeSpec.witness_shaped (enc := enc) (C := Tryd.checked) (os := os) (X := fun w _ => laidMetH Tryd.prog lst w) false (start os) #[.slice none 0 0, .string ⟨#[]⟩, .int .i64 0, .int .u8 0] 8 (World.laidAll_os _ _ _)
      (World.shaped_of_ZipB (by kernel_rfl) (by kernel_rfl)) (by kernel_rfl) (by kernel_rfl) (by kernel_rfl) (start_met os _)) ?_
  intro W base args ds gs before hval0 hW hcnd hz0 hL hsh _
  have hval : ∀ (j : Nat) t v, Tryd.f5.params[j]? = some t → args[j]? = some v → Value.okWide Tryd.prog W .any base t v := hval0
  have hW' := hW
  obtain ⟨p, q, hA0, hV, rfl, hfz, hnd⟩ := hW
  have hA : DataW.TrodAll enc Tryd.prog W 0 (fun _ => true) true Tryd.f5.params.toList args.toList ds p := hA0
  rw [Tryd.params5] at hA hval
  obtain ⟨v0, vs0, d0, ds0, p0, q0, hargs, rfl, rfl, h0, r0⟩ := trodAll_cons hA
  obtain ⟨v1, vs1, d1, ds1, p1, q1, rfl, rfl, rfl, h1, r1⟩ := trodAll_cons r0
  obtain ⟨v2, vs2, d2, ds2, p2, q2, rfl, rfl, rfl, h2, r2⟩ := trodAll_cons r1
  obtain ⟨v3, vs3, d3, ds3, p3, q3, rfl, rfl, rfl, h3, r3⟩ := trodAll_cons r2
  obtain ⟨rfl, rfl, rfl⟩ := trodAll_nil r3
  obtain rfl : args = #[v0, v1, v2, v3] := by cases args; simp_all
  obtain ⟨rfl, rfl⟩ := trodVars_none hV
  obtain ⟨s, rfl, rfl, rfl, hs⟩ := Go.ChangeMaps.open_string Tryd.underlying9 (hval 1 9 v1 rfl rfl) h1
  obtain ⟨at_, rfl, rfl, rfl, wa⟩ := open_int Tryd.underlying3 (hval 2 3 v2 rfl rfl) h2
  obtain ⟨x, rfl, rfl, rfl, wx⟩ := open_int Tryd.underlying5 (hval 3 5 v3 rfl rfl) h3
  have hz : (DataW.weightsEach Tryd.prog (22 :: [9, 3, 5]) [d0, DataW.lit (Lit.string s.data.toList), DataW.lit (Lit.int .i64 at_), DataW.lit (Lit.int .u8 x)]).all (· ≤ reachBytes) = true := hz0
  have hlt0 : ∀ x ∈ p0, x.block < W.heap.size := fun x hx => hW'.lt x (by simp [hx])
  have hsz : s.size ≤ 140737488355328 := by
    have h1 := sized_string hz (j := 1) (t := 9) rfl rfl
    have h2 := reachBytes_lt
    have e2 : s.data.toList.length = s.size := Array.length_toList
    have e3 : (2 : Nat) ^ 47 = 140737488355328 := by decide
    omega
  have hx : 0 ≤ x ∧ x ≤ 255 := by
    have e1 : IntKind.u8.min = 0 := rfl
    have e2 : IntKind.u8.max = 255 := rfl
    have h := wx
    simp [Lit.wf, e1, e2] at h
    omega
  obtain ⟨xb, rfl⟩ : ∃ xb : UInt8, x = (xb.toNat : Int) := ⟨UInt8.ofNat x.toNat, by rw [UInt8.toNat_ofNat']; omega⟩
  obtain ⟨X, hX, hXI⟩ := open_arg (j := 0) (hval 0 22 v0 rfl rfl) h0 hz rfl rfl
  clear hA0 hval0
  simp only [List.append_nil] at hW'
  refine (only_any v0 s at_ xb X W (env_of hL hsh) hX hXI hsz).mono fun e W' ⟨he, hb⟩ => ?_
  subst he
  have hB := hb.below
  exact ⟨_, rfl, _, _, _, [], _, [], hW', (trodAll_cons_mk (shut_bool Tryd.underlying4 _) trodAll_mk0), (trodAll_cons_mk (Below.trod laidOut (by kernel_rfl) (of_decide_eq_true (by kernel_rfl)) h0 hB hlt0) (trodAll_cons_mk (Go.ChangeMaps.shut_string Tryd.underlying9 hs) (trodAll_cons_mk (shut_int Tryd.underlying3 wa) (trodAll_cons_mk (shut_int Tryd.underlying5 wx) trodAll_mk0)))), rfl, hB.frame _, fun h => by cases h⟩

theorem over : Rows.ReportOnlySaid :=
  OpenClaim.holds_of_wide 5 Tryd.f5 rfl rfl rfl rfl rfl rfl rfl ⟨rfl, rfl, rfl, rfl, rfl⟩ rfl rfl rfl rfl rfl (by kernel_rfl) Tryd.func5 (by kernel_rfl)
    (of_decide_eq_true (by kernel_rfl)) (by unfold Func.isWrapper; first | (rw [if_pos (by decide +kernel)]; kernel_rfl) | (rw [if_neg (by decide +kernel)]; exact ⟨rfl, rfl⟩))
    (fun os started H enc _ => lifted os started H enc)

/-- ████ THE STATEMENT ████ -/
theorem proved : Rows.ReportOnlyCardSaid :=
  Claim7.holds_tied_plain_at .later [] [.data, .data, .data, .data, .sentinel, .sentinel, .pinned] true (true, "87c149b0b78e56985a935b2fc253699735999bb97f87e10723b9edba05de4df2") true
    over (fun _ h => by cases h) (by kernel_rfl) (fun _ h => by cases h) reportOnly_row_tie rfl ⟨rfl, rfl⟩ (by kernel_rfl) rfl
    (fun f fn hf hfn => by
      obtain rfl : f = 5 := Option.some.inj ((show Tryd.prog.funcNamed "sheaf/sheaflaw23.ReportOnly" = some 5 by kernel_rfl).symm.trans hf) |>.symm
      obtain rfl : fn = Tryd.f5 := (Option.some.inj (Tryd.func5.symm.trans hfn)).symm
      exact ⟨by kernel_rfl, fun j t ht => by
        rw [Tryd.params5] at ht
        have hm : t ∈ [22, 9, 3, 5] := by
          have h := Array.mem_of_getElem? ht
          simp at h ⊢
          exact h
        have hall : ([22, 9, 3, 5].all fun u => !Tryd.prog.wantsStandIn u) = true := by kernel_rfl
        exact (show Tryd.prog.wantsStandIn t = false by simpa using List.all_eq_true.1 hall t hm)⟩)
    (by kernel_rfl)
end Go.Proofs.YtknjhmaldnjhbaaDoor.reportOnly

/- A slice of slices of numbers, as an argument: what memory holds of it. -/
import Derived.Test.YtknjhmaldnjhbaaDoorF
import Derived.Deep.Matrix
import Derived.SizedLaws
import Derived.ChangeSlices
import Derived.ProofKit
import Derived.OpenShut
namespace Go.Proofs.YtknjhmaldnjhbaaDoor
open Go.RowKit Go.Deep Go.ChangeShapes Go.WideShapes

theorem weightsAll_mem {H : Type} {P : Program} {e : TypeId} : ∀ {l : List (DataW H)} {d : DataW H}, d ∈ l → ∀ n ∈ d.weights P e, n ∈ DataW.weightsAll P e l
  | d0 :: l, d, h, n, hn => by
    rcases List.mem_cons.1 h with rfl | h
    · simp only [DataW.weightsAll, List.mem_append]; exact .inl hn
    · simp only [DataW.weightsAll, List.mem_append]; exact .inr (weightsAll_mem h n hn)

theorem cells26 : Tryd.prog.cellsOf 26 = 1 := by kernel_rfl
theorem cells3 : Tryd.prog.cellsOf 3 = 1 := by kernel_rfl
theorem bytes26 : Tryd.prog.bytesOf 26 = 24 := by kernel_rfl
theorem bytes3 : Tryd.prog.bytesOf 3 = 8 := by kernel_rfl

theorem i64_wf {n : Int} (h : (Lit.int .i64 n).wf = true) : I64 n := by
  have e1 : IntKind.i64.min = -9223372036854775808 := rfl
  have e2 : IntKind.i64.max = 9223372036854775807 := rfl
  simp [Lit.wf, e1, e2] at h
  unfold I64
  omega

set_option maxRecDepth 100000 in
theorem open_arg {H : Type} {enc : TypeId × Value → H} {W : World} {base : Nat} {v0 : Value} {d0 : DataW H} {ts : List TypeId} {ds : List (DataW H)} {p0 : List MemPlace} {j : Nat} (hv : Value.okWide Tryd.prog W .any base 22 v0) (h0 : DataW.Trod enc Tryd.prog W 0 (fun _ => true) true 22 v0 d0 p0)
    (hz : (DataW.weightsEach Tryd.prog ts ds).all (· ≤ reachBytes) = true) (hj1 : ts[j]? = some 22) (hj2 : ds[j]? = some d0) :
    ∃ X, InRows W v0 X ∧ ∀ r ∈ X, ∀ n ∈ r, I64 n := by
  obtain ⟨a0, len, cap, rfl⟩ := okWide_slice Tryd.underlying22 hv
  obtain ⟨fuel0, hf⟩ := h0
  rcases open_int_rows Tryd.underlying22 Tryd.underlying26 Tryd.underlying3 cells26 cells3 hf with ⟨hcs0, hx⟩ | ⟨a, len', cap', A, L, C, Z, hcs0, _, hl, hm, hx, hrows⟩
  · simp [Value.cells] at hcs0
    obtain ⟨rfl, rfl, rfl⟩ := hcs0
    exact ⟨[], ⟨none, 0, rfl, by simp, fun k r h => by simp at h⟩, fun r h => by cases h⟩
  · simp [Value.cells] at hcs0
    obtain ⟨rfl, rfl, rfl⟩ := hcs0
    simp only [Prod.mk.injEq] at hx
    obtain ⟨rfl, _⟩ := hx
    have hr := reachBytes_lt
    have hcap := sized_slice hz hj1 hj2 Tryd.underlying22
    rw [bytes26] at hcap
    simp only [List.length_map, List.length_range] at hcap
    have hC : ∀ r, r < len → C r ≤ 140737488355328 := fun r hr' => by
      obtain ⟨_, _, _, hZ, _, hnil, _⟩ := hrows r (by omega)
      cases hA : A r with
      | none => rw [hnil hA]; omega
      | some a' =>
        have hmem : intRow .i64 (A r) (L r) (Z r) ∈ (List.range len).map fun r => intRow (H := H) .i64 (A r) (L r) (Z r) := List.mem_map.2 ⟨r, by simpa using hr', rfl⟩
        have hw : ((Z r).length) * 8 ∈ (intRow (H := H) .i64 (A r) (L r) (Z r)).weights Tryd.prog 26 := by
          rw [hA]
          simp only [intRow, DataW.weights, Tryd.underlying26, bytes3]
          refine List.mem_cons.2 (.inl ?_)
          congr 1
          have e : ∀ zs : List Int, (lits (H := H) .i64 zs).length = zs.length := fun zs => by unfold lits; exact List.length_map _
          rw [e, e, List.length_take, List.length_drop]
          omega
        have h2 : decide ((Z r).length * 8 ≤ reachBytes) = true := by
          refine List.all_eq_true.1 hz _ ?_
          refine DataW.weights_mem_each hj1 hj2 _ ?_
          simp only [DataW.weights, Tryd.underlying22]
          exact List.mem_cons_of_mem _ (List.mem_append.2 (.inl (weightsAll_mem hmem _ hw)))
        simp only [decide_eq_true_eq] at h2
        omega
    have hlen : ∀ r, r < len → ((Z r).take (L r)).length = L r := fun r hr' => by
      obtain ⟨_, h1, _, hZ, _⟩ := hrows r (by omega)
      rw [List.length_take]; omega
    refine ⟨(List.range len).map fun r => (Z r).take (L r), ⟨some a, cap, by simp, by simp; omega, fun k r hk => ?_⟩, fun r hr' n hn => ?_⟩
    · rw [List.getElem?_map] at hk
      by_cases hlt : k < len
      · rw [List.getElem?_range hlt] at hk
        have hk : (Z k).take (L k) = r := by simpa using hk
        obtain ⟨h0, h1, h2, hZ, _, h5, h6⟩ := hrows k (by omega)
        refine ⟨a, rfl, A k, C k, ?_, ?_, hC k hlt, h5, fun j z hz => ?_⟩
        · rw [← hk, hlen k hlt]; exact h0
        · rw [← hk, hlen k hlt]; exact h1
        · rw [← hk, List.getElem?_take] at hz
          split at hz
          · rename_i hjL
            cases hA : A k with
            | none =>
              have := h5 hA
              omega
            | some a' =>
              refine ⟨a', rfl, ?_⟩
              rw [(h6 a' hA).2 j (by omega)]
              rw [List.getD, hz]
              rfl
          · cases hz
      · rw [List.getElem?_eq_none (by simpa using hlt)] at hk
        simp at hk
    · obtain ⟨k, hk, rfl⟩ := List.mem_map.1 hr'
      have hk : k < len := by simpa using hk
      obtain ⟨_, _, _, _, hwf, _⟩ := hrows k (by omega)
      exact i64_wf (hwf n (List.mem_of_mem_take hn))

end Go.Proofs.YtknjhmaldnjhbaaDoor

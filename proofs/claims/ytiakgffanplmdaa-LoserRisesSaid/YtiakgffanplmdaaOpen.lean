/- A slice of slices of numbers, as an argument: what memory holds of it. -/
import Derived.Test.YtiakgffanplmdaaPl
import Derived.Deep.Matrix
import Derived.SizedLaws
import Derived.ChangeSlices
import Derived.ProofKit
import Derived.OpenShut
namespace Go.Proofs.Ytiakgffanplmdaa
open Go.RowKit Go.Deep Go.ChangeShapes Go.WideShapes

theorem weightsAll_mem {H : Type} {P : Program} {e : TypeId} : ∀ {l : List (DataW H)} {d : DataW H}, d ∈ l → ∀ n ∈ d.weights P e, n ∈ DataW.weightsAll P e l
  | d0 :: l, d, h, n, hn => by
    rcases List.mem_cons.1 h with rfl | h
    · simp only [DataW.weightsAll, List.mem_append]; exact .inl hn
    · simp only [DataW.weightsAll, List.mem_append]; exact .inr (weightsAll_mem h n hn)

theorem Try.cells27 : Try.prog.cellsOf 27 = 1 := by kernel_rfl
theorem Try.cells3' : Try.prog.cellsOf 3 = 1 := by kernel_rfl
theorem Try.bytes27 : Try.prog.bytesOf 27 = 24 := by kernel_rfl
theorem Try.bytes3 : Try.prog.bytesOf 3 = 8 := by kernel_rfl

theorem open_arg {H : Type} {enc : TypeId × Value → H} {W : World} {base : Nat} {v0 : Value} {d0 : DataW H} {ts : List TypeId} {ds : List (DataW H)} {p0 : List MemPlace} (hv : Value.okWide Try.prog W .any base 34 v0) (h0 : DataW.Trod enc Try.prog W 0 (fun _ => true) true 34 v0 d0 p0)
    (hz : (DataW.weightsEach Try.prog (34 :: ts) (d0 :: ds)).all (· ≤ reachBytes) = true) :
    ∃ (a : Addr) (len cap : Nat) (A : Nat → Option Addr) (L C : Nat → Nat) (ls : Nat → List Int), Arg W a len A L C ls ∧ len ≤ cap ∧ cap ≤ 140737488355328 ∧ (v0 = .slice none 0 0 ∧ len = 0 ∨ v0 = .slice (some a) len cap) := by
  obtain ⟨a0, len, cap, rfl⟩ := okWide_slice Try.underlying34 hv
  obtain ⟨fuel0, hf⟩ := h0
  rcases open_int_rows Try.underlying34 Try.underlying27 Try.underlying3 Try.cells27 Try.cells3' hf with ⟨hcs0, hx⟩ | ⟨a, len', cap', A, L, C, Z, hcs0, _, hl, hm, hx, hrows⟩
  · simp [Value.cells] at hcs0
    obtain ⟨rfl, rfl, rfl⟩ := hcs0
    exact ⟨⟨0, 0, none⟩, 0, 0, fun _ => none, fun _ => 0, fun _ => 0, fun _ => [], ⟨fun _ h => by omega, fun _ h => by omega, fun _ h => by omega, fun _ h => by omega, fun _ h => by omega⟩, Nat.le_refl _, by omega, .inl ⟨rfl, rfl⟩⟩
  · simp [Value.cells] at hcs0
    obtain ⟨rfl, rfl, rfl⟩ := hcs0
    simp only [Prod.mk.injEq] at hx
    obtain ⟨rfl, _⟩ := hx
    have hr := reachBytes_lt
    have hcap := sized_slice hz (j := 0) (t := 34) rfl rfl Try.underlying34
    rw [Try.bytes27] at hcap
    simp only [List.length_map, List.length_range] at hcap
    have hC : ∀ r, r < len → C r ≤ 140737488355328 := fun r hr' => by
      obtain ⟨_, _, _, hZ, _, hnil, _⟩ := hrows r (by omega)
      cases hA : A r with
      | none => rw [hnil hA]; omega
      | some a' =>
        have hmem : intRow .i64 (A r) (L r) (Z r) ∈ (List.range len).map fun r => intRow (H := H) .i64 (A r) (L r) (Z r) := List.mem_map.2 ⟨r, by simpa using hr', rfl⟩
        have hw : ((Z r).length) * 8 ∈ (intRow (H := H) .i64 (A r) (L r) (Z r)).weights Try.prog 27 := by
          rw [hA]
          simp only [intRow, DataW.weights, Try.underlying27, Try.bytes3]
          refine List.mem_cons.2 (.inl ?_)
          congr 1
          have e : ∀ zs : List Int, (lits (H := H) .i64 zs).length = zs.length := fun zs => by unfold lits; exact List.length_map _
          rw [e, e, List.length_take, List.length_drop]
          omega
        have h2 : decide ((Z r).length * 8 ≤ reachBytes) = true := by
          refine List.all_eq_true.1 hz _ ?_
          refine DataW.weights_mem_each (j := 0) (t := 34) rfl rfl _ ?_
          simp only [DataW.weights, Try.underlying34]
          exact List.mem_cons_of_mem _ (List.mem_append.2 (.inl (weightsAll_mem hmem _ hw)))
        simp only [decide_eq_true_eq] at h2
        omega
    refine ⟨a, len, cap, A, L, C, fun r => (Z r).take (L r), ⟨fun i hi => (hrows i (by omega)).1, fun i hi => ?_, fun i hi => ?_, fun i hi hA => ?_, fun i hi a' hA k x hk => ?_⟩, hl, by omega, .inr rfl⟩
    · obtain ⟨_, h1, _, hZ, _⟩ := hrows i (by omega)
      rw [List.length_take]; omega
    · obtain ⟨_, h1, _⟩ := hrows i (by omega)
      have := hC i hi
      omega
    · obtain ⟨_, h1, _, _, _, h5, _⟩ := hrows i (by omega)
      have := h5 hA
      omega
    · obtain ⟨_, h1, _, hZ, _, _, h6⟩ := hrows i (by omega)
      rw [List.getElem?_take] at hk
      split at hk
      · rename_i hkL
        rw [(h6 a' hA).2 k (by omega)]
        rw [List.getD, hk]
        rfl
      · cases hk

end Go.Proofs.Ytiakgffanplmdaa

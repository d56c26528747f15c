/- LoserEven: helpers for its walk: lists of things in memory, one source more, New over an own slice. -/
import Derived.Test.YtiakgffanplmdaaEvT
import Derived.Test.YtiakgffanplmdaaNilT
import Derived.Test.YtiakgffanplmdaaWi
import Derived.Test.YtiakgffanplmdaaL3
import Derived.Test.YtiakgffanplmdaaPl
namespace Go.Proofs.Ytiakgffanplmdaa.T
open Go.RowKit Go.Deep

theorem Try.info41 : (Try.prog.info? 41).map (fun i => (i.zero, i.size, i.bytes)) = some (some (.agg #[.int .i64 0, .int .i64 0, .int .i64 0]), 3, 24) := by kernel_rfl

def flat3 (xs : List Th) : List Value := xs.flatMap fun x => [.int .i64 x.1, .int .i64 x.2.1, .int .i64 x.2.2]

theorem flat3_snoc (xs : List Th) (x : Th) : flat3 (xs ++ [x]) = flat3 xs ++ [.int .i64 x.1, .int .i64 x.2.1, .int .i64 x.2.2] := by
  unfold flat3
  rw [List.flatMap_append]
  rfl

theorem flat3_get : ∀ (xs : List Th) (k : Nat) x, xs[k]? = some x →
    (flat3 xs)[k * 3]? = some (.int .i64 x.1) ∧ (flat3 xs)[k * 3 + 1]? = some (.int .i64 x.2.1) ∧ (flat3 xs)[k * 3 + 2]? = some (.int .i64 x.2.2)
  | [], k, x, h => by simp at h
  | y :: ys, 0, x, h => by
    simp at h
    subst h
    exact ⟨rfl, rfl, rfl⟩
  | y :: ys, k + 1, x, h => by
    have h' : ys[k]? = some x := by simpa using h
    have := flat3_get ys k x h'
    have e : flat3 (y :: ys) = [.int .i64 y.1, .int .i64 y.2.1, .int .i64 y.2.2] ++ flat3 ys := rfl
    rw [e]
    refine ⟨?_, ?_, ?_⟩
    · rw [List.getElem?_append_right (by simp; omega), ← this.1]
      exact congrArg _ (by simp; omega)
    · rw [List.getElem?_append_right (by simp; omega), ← this.2.1]
      exact congrArg _ (by simp; omega)
    · rw [List.getElem?_append_right (by simp; omega), ← this.2.2]
      exact congrArg _ (by simp; omega)

theorem lies_own {w : World} {B : Nat} {v : Value} {xs : List Th} (h : w.ownsRow B 41 3 v xs.length (flat3 xs)) :
    (v = .slice none 0 0 ∧ xs = []) ∨ ∃ g cap, v = .slice (some ⟨g, 0, none⟩) xs.length cap ∧ B ≤ g ∧ g < w.heap.size ∧ ∀ k x, xs[k]? = some x →
      w.cell? ⟨g, k * 3, none⟩ = some (.int .i64 x.1) ∧ w.cell? ⟨g, k * 3 + 1, none⟩ = some (.int .i64 x.2.1) ∧ w.cell? ⟨g, k * 3 + 2, none⟩ = some (.int .i64 x.2.2) := by
  rcases h.2 with ⟨rfl, h0⟩ | ⟨g, cap, cur, rfl, h1, h2, h3, h4⟩
  · exact .inl ⟨rfl, List.eq_nil_of_length_eq_zero h0⟩
  · refine .inr ⟨g, cap, rfl, h1, lt_of_block h2, fun k x hk => ?_⟩
    have hc := h.cells (g := g) rfl
    have hf := flat3_get xs k x hk
    have e1 := hc _ _ hf.1
    have e2 := hc _ _ hf.2.1
    have e3 := hc _ _ hf.2.2
    rw [add_flat] at e1 e2 e3
    exact ⟨e1, e2, e3⟩

theorem cell_three_new (w : World) (a b c : Value) (t : TypeId) : ∀ j u, [a, b, c][j]? = some u → (w.alloc (.cells #[a, b, c] t)).cell? ((⟨w.heap.size, 0, none⟩ : Addr).add j) = some u := by
  intro j u hj
  match j, hj with
  | 0, hj => simp at hj; subst hj; simp [Addr.add]
  | 1, hj => simp at hj; subst hj; simp [Addr.add]
  | 2, hj => simp at hj; subst hj; simp [Addr.add]
  | j + 3, hj => simp at hj

theorem dep_add {D : Src} {n T L : Nat} {sl : Value} {ls : List Th} {db cap k : Nat} (h : Dep (D.add n T L sl ls db cap) (n + 1) k) : Dep D n k ∨ k = T ∨ k = L ∨ k = db := by
  rcases h with ⟨j, hj, h⟩
  by_cases e : j = n
  · subst e
    simp only [Src.add, if_pos] at h
    exact .inr h
  · simp only [Src.add, if_neg e] at h
    exact .inl ⟨j, by omega, h⟩

theorem srcV_add {D : Src} {n T L : Nat} {sl : Value} {ls : List Th} {db cap : Nat} : (List.range (n + 1)).map (srcV (D.add n T L sl ls db cap)) = (List.range n).map (srcV D) ++ [.func (.func 14) #[] #[.pointer (some ⟨T, 0, none⟩), .pointer (some ⟨L, 0, none⟩)]] := by
  rw [List.range_succ, List.map_append]
  congr 1
  · refine List.map_congr_left fun j hj => ?_
    have : j < n := by simpa using hj
    unfold srcV Src.add
    simp only [if_neg (show ¬ j = n by omega)]
  · simp [srcV, Src.add]

theorem run_new_own (D : Src) (n : Nat) (w : World) (B : Nat) (v : Value) (h : w.ownsRow B 42 1 v n ((List.range n).map (srcV D))) (hn : n ≤ 1000) (H : Holds D n (fun _ => 0) w) :
    Calls Try.prog 15 #[lessV, v] w fun e w' => ∃ b bs cs bh bl, e = .returned (.pointer (some ⟨b, 0, none⟩)) ∧ Run D n b bs cs bh bl (fun _ => 0) w' ∧ Fr (Own D n) w w' ∧
      w.heap.size ≤ b ∧ w.heap.size ≤ bs ∧ w.heap.size ≤ bh ∧ w.heap.size ≤ bl := by
  rcases h.2 with ⟨rfl, rfl⟩ | ⟨g, cap, cur, rfl, h1, h2, h3, h4⟩
  · refine (run_new_nil D w).mono ?_
    rintro e w' ⟨b, bs, cs, bh, bl, rfl, R, f, g1, g2, g3, g4⟩
    exact ⟨b, bs, cs, bh, bl, rfl, R, f.mono (fun _ _ h => h.elim), g1, g2, g3, g4⟩
  · refine run_new D n w g cap ⟨lt_of_block h2, fun j hj => ?_⟩ hn H (fun k hk => H.lt k hk)
    have := h.cells (g := g) rfl j (srcV D j) (by simp [hj])
    rwa [add_flat] at this

/-- A list that grows by one that fits. -/
def Grows (j : Nat) (xs : List Th) (m : Int) : Prop := (∀ (k : Nat) x, xs[k]? = some x → x.2.1 = j ∧ x.2.2 = k ∧ 0 ≤ x.1 ∧ x.1 ≤ m) ∧ ∀ (k : Nat) x y, xs[k]? = some x → xs[k + 1]? = some y → x.1 ≤ y.1

theorem grows_nil (j : Nat) : Grows j [] 0 := ⟨fun k x h => by simp at h, fun k x y h => by simp at h⟩

theorem grows_snoc {j : Nat} {xs : List Th} {m r : Int} (h : Grows j xs m) (hm : 0 ≤ m) (hr : 0 ≤ r) : Grows j (xs ++ [(m + r, (j : Int), (xs.length : Int))]) (m + r) := by
  refine ⟨fun k x hx => ?_, fun k x y hx hy => ?_⟩
  · rw [List.getElem?_append] at hx
    split at hx
    · have := h.1 k x hx
      omega
    · rename_i hk
      have hk0 : k = xs.length := by
        have := (List.getElem?_eq_some_iff.1 hx).1
        simp at this; omega
      subst hk0
      simp at hx
      subst hx
      exact ⟨rfl, rfl, by show 0 ≤ m + r; omega, Int.le_refl _⟩
  · rw [List.getElem?_append] at hx hy
    split at hx
    · split at hy
      · exact h.2 k x y hx hy
      · rename_i hk1 hk2
        have e : k + 1 = xs.length := by omega
        rw [e] at hy
        simp at hy
        subst hy
        have := h.1 k x hx
        show x.1 ≤ m + r
        omega
    · rename_i hk
      have := (List.getElem?_eq_some_iff.1 hx).1
      simp at this
      rw [if_neg (by omega)] at hy
      have := (List.getElem?_eq_some_iff.1 hy).1
      simp at this
      omega

theorem fine_none (ls : Nat → List Th) : Fine ls 0 := ⟨fun _ h => by omega, fun _ h => by omega⟩

theorem fine_add {D : Src} {n T L : Nat} {sl : Value} {ls : List Th} {db cap : Nat} {m : Int} (F : Fine D.ls n) (h : Grows n ls m) : Fine (D.add n T L sl ls db cap).ls (n + 1) := by
  refine ⟨fun j hj k x hx => ?_, fun j hj k x y hx hy => ?_⟩
  · by_cases e : j = n
    · subst e
      simp only [Src.add, if_pos] at hx
      have := h.1 k x hx
      exact ⟨this.1, this.2.1, this.2.2.1⟩
    · simp only [Src.add, if_neg e] at hx
      exact F.src j (by omega) k x hx
  · by_cases e : j = n
    · subst e
      simp only [Src.add, if_pos] at hx hy
      exact h.2 k x y hx hy
    · simp only [Src.add, if_neg e] at hx hy
      exact F.rise j (by omega) k x y hx hy

theorem sum_add {D : Src} {n T L : Nat} {sl : Value} {ls : List Th} {db cap : Nat} : sumN (fun j => ((D.add n T L sl ls db cap).ls j).length) (n + 1) = sumN (fun j => (D.ls j).length) n + ls.length := by
  rw [sumN]
  congr 1
  · refine sumN_congr n fun j hj => ?_
    show ((D.add n T L sl ls db cap).ls j).length = _
    simp only [Src.add, if_neg (show ¬ j = n by omega)]
  · show ((D.add n T L sl ls db cap).ls n).length = _
    simp only [Src.add, if_pos]

end Go.Proofs.Ytiakgffanplmdaa.T

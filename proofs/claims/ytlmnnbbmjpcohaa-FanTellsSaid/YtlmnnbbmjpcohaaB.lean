/- Contracts of Groups (the program's and the document's) and of Same at pairs. -/
import Derived.Test.YtlmnnbbmjpcohaaA
import Derived.Maps.AppendAt
import Derived.Deep.QuietTactic
import Derived.BigQuiet
namespace Go.Proofs.Ytlmnnbbmjpcohaa
open Go.RowKit

theorem Try.info23 : (Try.prog.info? 23).map (fun i => (i.zero, i.size, i.bytes)) = some (some (.agg #[.int .i64 0, .int .i64 0]), 2, 16) := by kernel_rfl

/-- What a slice of pairs reads as: n pairs, their numbers one behind the other. -/
def View (w : World) (v : Value) (n : Nat) (l : List Int) : Prop :=
  l.length = n * 2 ∧ ∃ ao cap, v = .slice ao n cap ∧ n ≤ cap ∧ (0 < n → ∃ g, ao = some ⟨g, 0, none⟩ ∧ g < w.heap.size ∧ ∀ j x, l[j]? = some x → w.cell? ⟨g, j, none⟩ = some (.int .i64 x))

theorem view_of_owns {w : World} {b : Nat} {v : Value} {n : Nat} {l : List Int} (h : w.ownsRow b 23 2 v n (l.map (Value.int .i64))) : View w v n l := by
  have hlen : l.length = n * 2 := by simpa using h.1
  have hc := fun g hg => h.cells (g := g) hg
  have hlt := h.lt
  refine ⟨hlen, ?_⟩
  rcases h.2 with ⟨rfl, h0⟩ | ⟨g, cap, cur, rfl, hb, hg, hncap, _⟩
  · subst h0
    exact ⟨none, 0, rfl, Nat.le_refl _, fun h => absurd h (by omega)⟩
  · refine ⟨some ⟨g, 0, none⟩, cap, rfl, hncap, fun _ => ⟨g, rfl, (hlt g rfl).2, fun j x hx => ?_⟩⟩
    have h1 := hc g rfl j (.int .i64 x) (by rw [List.getElem?_map, hx]; rfl)
    have hadd : (⟨g, 0, none⟩ : Addr).add j = ⟨g, j, none⟩ := by unfold Addr.add; split <;> simp_all
    rwa [hadd] at h1

theorem View.later {w w' : World} {v : Value} {n : Nat} {l : List Int} (h : View w v n l) (hb : Below w.heap.size w w') : View w' v n l := by
  obtain ⟨h1, ao, cap, h2, h3, h4⟩ := h
  refine ⟨h1, ao, cap, h2, h3, fun hn => ?_⟩
  obtain ⟨g, h5, h6, h7⟩ := h4 hn
  exact ⟨g, h5, Nat.lt_of_lt_of_le h6 hb.size, fun j x hx => (hb.cell (p := ⟨g, j, none⟩) h6).trans (h7 j x hx)⟩

theorem nums_snoc (n k c : Nat) (A E : Int) (hA : ((c * k : Nat) : Int) = A) (hE : ((min ((c + 1) * k) n : Nat) : Int) = E) :
    (nums n k (c + 1)).map (Value.int .i64) = (nums n k c).map (Value.int .i64) ++ [.int .i64 A, .int .i64 E] := by
  rw [nums, hA, hE]
  simp

set_option maxHeartbeats 1000000 in
theorem groups_any (n k : Nat) (hk : 2 ≤ k) (hk2 : k ≤ 1000) (hn : n ≤ 1000) (w : World) :
    Calls Try.prog 8 #[.int .i64 n, .int .i64 k] w fun e w' => ∃ v, e = .returned v ∧ View w' v (cnt n k) (nums n k (cnt n k)) ∧ Below w.heap.size w w' := by
  obtain ⟨i0, hi, hz0, hz1, hz2⟩ := info_parts Try.info23
  go_enter Try.func8, Try.ntmps8
  go_wp2
  go_loopw [5, 6] (fun v i wr => ∃ c : Nat, (c = 0 ∨ (c - 1) * k < n) ∧ c ≤ n ∧ i = .int .i64 ((min (c * k) n : Nat) : Int) ∧ wr.ownsRow w.heap.size 23 2 v c ((nums n k c).map (Value.int .i64)) ∧ Below w.heap.size w wr) (fun _ i _ => n - (intOf i).toNat)
  case atStart => exact ⟨0, .inl rfl, Nat.zero_le _, by simp, World.ownsRow_nil _ _ _ _, Below.refl _ _⟩
  case round =>
    obtain ⟨c, hc, hcn, rfl, hown, hb⟩ := hrel
    by_cases hlt : c * k < n
    · rw [show min (c * k) n = c * k by omega]
      have hb0 : (0 : Int) ≤ ((c * k : Nat) : Int) := Int.natCast_nonneg _
      have hb1 : ((c * k : Nat) : Int) < (n : Int) := by omega
      have hck : c ≤ c * k := Nat.le_mul_of_pos_right c (by omega)
      have hs : (c + 1) * k = c * k + k := Nat.succ_mul c k
      have hcl : c < n := by omega
      have hH := hid' hlt
      have HS := hid' hs
      clear hlt hs
      generalize hA : ((c * k : Nat) : Int) = A at *
      have HA := hid' hA
      clear hA
      have hsz := hb.size
      by_cases hm : A + k ≤ n
      · go_wp2_with (at_builtin; refine wpList_append_own _ rfl _ _ 24 rfl w.heap.size 23 i0 (.agg #[.int .i64 0, .int .i64 0]) 2 16 Try.underlying24 hi hz0 hz1 hz2 rfl (by decide) _ _ _ rfl (hown.alloc _) ⟨wr.heap.size, 0, none⟩ 1 1 [.int .i64 A, .int .i64 (A + k)] rfl rfl (cell_two_new _ _ _ _) (by simp [Value.oneCell']) (by unfold maxLen; omega) (by omega) (by simp; omega) ?_; intro v' w1 hown' hgrow _)
        have hnew := nums_snoc n k c A (A + k) HA.out (by have := HA.out; have := HS.out; omega)
        have hb' := (hb.alloc hb.size (.cells #[.int .i64 A, .int .i64 (A + k)] 23)).grown hgrow (by simp; omega) (fun q hq => (hown.lt q hq).1)
        rw [← hnew] at hown'
        have HO := hid' hown'
        clear hown' hgrow hown hb hnew
        go_wp2
        go_roundw
        case rel => exact ⟨c + 1, .inr (by simpa using hH.out), by omega, by have := HA.out; have := HS.out; exact congrArg _ (by omega), HO.out, hb'⟩
        case measure => simp [intOf]; omega
      · go_wp2_with (at_builtin; refine wpList_append_own _ rfl _ _ 24 rfl w.heap.size 23 i0 (.agg #[.int .i64 0, .int .i64 0]) 2 16 Try.underlying24 hi hz0 hz1 hz2 rfl (by decide) _ _ _ rfl (hown.alloc _) ⟨wr.heap.size, 0, none⟩ 1 1 [.int .i64 A, .int .i64 (A + (n - A))] rfl rfl (cell_two_new _ _ _ _) (by simp [Value.oneCell']) (by unfold maxLen; omega) (by omega) (by simp; omega) ?_; intro v' w1 hown' hgrow _)
        have hnew := nums_snoc n k c A (A + (n - A)) HA.out (by have := HA.out; have := HS.out; omega)
        have hb' := (hb.alloc hb.size (.cells #[.int .i64 A, .int .i64 (A + (n - A))] 23)).grown hgrow (by simp; omega) (fun q hq => (hown.lt q hq).1)
        rw [← hnew] at hown'
        have HO := hid' hown'
        clear hown' hgrow hown hb hnew
        go_wp2
        go_roundw
        case rel => exact ⟨c + 1, .inr (by simpa using hH.out), by omega, by have := HA.out; have := HS.out; exact congrArg _ (by omega), HO.out, hb'⟩
        case measure => simp [intOf]; omega
    · rw [show min (c * k) n = n by omega]
      go_wp2_with fail
      go_ret
      have hcc := cnt_of n k c hk hc (by omega)
      rw [← hcc]
      exact ⟨_, rfl, view_of_owns hown, hb⟩

set_option maxHeartbeats 1000000 in
/-- The document's own groups. -/
theorem refGroups_any (n k : Nat) (hk : 2 ≤ k) (hk2 : k ≤ 1000) (hn : n ≤ 1000) (w : World) :
    Calls Try.prog 11 #[.int .i64 n, .int .i64 k] w fun e w' => ∃ v, e = .returned v ∧ View w' v (cnt n k) (nums n k (cnt n k)) ∧ Below w.heap.size w w' := by
  obtain ⟨i0, hi, hz0, hz1, hz2⟩ := info_parts Try.info23
  go_enter Try.func11, Try.ntmps11
  go_wp2
  go_loopw [5, 6] (fun v i wr => ∃ c : Nat, (c = 0 ∨ (c - 1) * k < n) ∧ c ≤ n ∧ i = .int .i64 ((c * k : Nat) : Int) ∧ wr.ownsRow w.heap.size 23 2 v c ((nums n k c).map (Value.int .i64)) ∧ Below w.heap.size w wr) (fun _ i _ => n - (intOf i).toNat)
  case atStart => exact ⟨0, .inl rfl, Nat.zero_le _, by simp, World.ownsRow_nil _ _ _ _, Below.refl _ _⟩
  case round =>
    obtain ⟨c, hc, hcn, rfl, hown, hb⟩ := hrel
    have hb0 : (0 : Int) ≤ ((c * k : Nat) : Int) := Int.natCast_nonneg _
    by_cases hlt : c * k < n
    · have hb1 : ((c * k : Nat) : Int) < (n : Int) := by omega
      have hck : c ≤ c * k := Nat.le_mul_of_pos_right c (by omega)
      have hs : (c + 1) * k = c * k + k := Nat.succ_mul c k
      have hcl : c < n := by omega
      have hH := hid' hlt
      have HS := hid' hs
      clear hlt hs
      generalize hA : ((c * k : Nat) : Int) = A at *
      have HA := hid' hA
      clear hA
      have hsz := hb.size
      by_cases hm : A + k ≤ n
      · go_wp2_with (at_builtin; refine wpList_append_own _ rfl _ _ 24 rfl w.heap.size 23 i0 (.agg #[.int .i64 0, .int .i64 0]) 2 16 Try.underlying24 hi hz0 hz1 hz2 rfl (by decide) _ _ _ rfl (hown.alloc _) ⟨wr.heap.size, 0, none⟩ 1 1 [.int .i64 A, .int .i64 (A + k)] rfl rfl (cell_two_new _ _ _ _) (by simp [Value.oneCell']) (by unfold maxLen; omega) (by omega) (by simp; omega) ?_; intro v' w1 hown' hgrow _)
        have hnew := nums_snoc n k c A (A + k) HA.out (by have := HA.out; have := HS.out; omega)
        have hb' := (hb.alloc hb.size (.cells #[.int .i64 A, .int .i64 (A + k)] 23)).grown hgrow (by simp; omega) (fun q hq => (hown.lt q hq).1)
        rw [← hnew] at hown'
        have HO := hid' hown'
        clear hown' hgrow hown hb hnew
        go_wp2
        go_roundw
        case rel => exact ⟨c + 1, .inr (by simpa using hH.out), by omega, by have := HA.out; have := HS.out; exact congrArg _ (by omega), HO.out, hb'⟩
        case measure => simp [intOf]; omega
      · go_wp2_with (at_builtin; refine wpList_append_own _ rfl _ _ 24 rfl w.heap.size 23 i0 (.agg #[.int .i64 0, .int .i64 0]) 2 16 Try.underlying24 hi hz0 hz1 hz2 rfl (by decide) _ _ _ rfl (hown.alloc _) ⟨wr.heap.size, 0, none⟩ 1 1 [.int .i64 A, .int .i64 n] rfl rfl (cell_two_new _ _ _ _) (by simp [Value.oneCell']) (by unfold maxLen; omega) (by omega) (by simp; omega) ?_; intro v' w1 hown' hgrow _)
        have hnew := nums_snoc n k c A n HA.out (by have := HA.out; have := HS.out; omega)
        have hb' := (hb.alloc hb.size (.cells #[.int .i64 A, .int .i64 n] 23)).grown hgrow (by simp; omega) (fun q hq => (hown.lt q hq).1)
        rw [← hnew] at hown'
        have HO := hid' hown'
        clear hown' hgrow hown hb hnew
        go_wp2
        go_roundw
        case rel => exact ⟨c + 1, .inr (by simpa using hH.out), by omega, by have := HA.out; have := HS.out; exact congrArg _ (by omega), HO.out, hb'⟩
        case measure => simp [intOf]; omega
    · have hb1 : (n : Int) ≤ ((c * k : Nat) : Int) := by omega
      generalize hA : ((c * k : Nat) : Int) = A at *
      have HA := hid' hA
      clear hA
      go_wp2_with fail
      go_ret
      have hcc := cnt_of n k c hk hc (by have := HA.out; omega)
      rw [← hcc]
      exact ⟨_, rfl, view_of_owns hown, hb⟩

theorem run_equalIn_pair (d : Nat) (x y x' y' : Int) (w : World) :
    (Op.equalIn (d + 2) 23 (.agg #[.int .i64 x, .int .i64 y]) (.agg #[.int .i64 x', .int .i64 y'])).run Try.prog w = .ok (x == x' && y == y') w := by
  have h3 : Try.prog.underlying 3 = some (.int .i64) := Try.underlying3
  have hs : ∀ w, (sizeOf 3).run Try.prog w = .ok 1 w := fun _ => by kernel_rfl
  have ha : ∀ w, (isAgg 3).run Try.prog w = .ok false w := fun _ => by kernel_rfl
  simp only [Op.equalIn, Sem.run_bind, run_underlying Try.underlying23, Result.andThen_ok, hs, Std.Legacy.Range.forIn_eq_forIn_range', Std.Legacy.Range.size]
  simp [List.range', Sem.run_bind, part, ha]
  by_cases h1 : x = x' <;> by_cases h2 : y = y' <;> simp [h1, h2]

theorem run_neq_pair (x y x' y' : Int) (w : World) :
    (binOp .neq 23 (.agg #[.int .i64 x, .int .i64 y]) (.agg #[.int .i64 x', .int .i64 y'])).run Try.prog w = .ok (.bool (!(x == x' && y == y'))) w := by
  rw [run_neq_struct, run_equalIn_pair 9998]
  rfl

/-- Two slices of pairs that read alike are the same. -/
theorem same_any (v1 v2 : Value) (n : Nat) (l : List Int) (hn : n ≤ 1000) (w : World) (h1 : View w v1 n l) (h2 : View w v2 n l) :
    Calls Try.prog 7 #[v1, v2] w fun e w' => e = .returned (.bool true) ∧ ∃ q, w' = w.drewN q := by
  obtain ⟨hl, ao1, cap1, rfl, hc1, H1⟩ := h1
  obtain ⟨_, ao2, cap2, rfl, hc2, H2⟩ := h2
  by_cases hn0 : n = 0
  · subst hn0
    go_enter Try.func7, Try.ntmps7
    go_wp2
    refine wp_loop_rounds 1 ?_
    rw [rounds_succ]
    go_wp2
    go_ret
    exact ⟨rfl, 0, rfl⟩
  · have hne := fun (x y : Int) (w : World) => run_equalIn_pair 9998 x y x y w
    obtain ⟨g1, rfl, _, k1⟩ := H1 (by omega)
    obtain ⟨g2, rfl, _, k2⟩ := H2 (by omega)
    have K1 := hid' k1
    have K2 := hid' k2
    have HL := hid' hl
    clear k1 k2 H1 H2 hl hn0
    go_enter Try.func7, Try.ntmps7
    go_wp2
    go_loopw [5] (fun i wr => ∃ c : Nat, c ≤ n ∧ i = .int .i64 c ∧ ∃ q, wr = w.drewN q) (fun i _ => n - (intOf i).toNat)
    case atStart => exact ⟨0, Nat.zero_le _, rfl, 0, rfl⟩
    case round =>
      obtain ⟨c, hc, rfl, q, rfl⟩ := hrel
      by_cases hlt : c < n
      · obtain ⟨x, hx⟩ : ∃ x, l[c * 2]? = some x := ⟨_, List.getElem?_eq_getElem (by have := HL.out; omega)⟩
        obtain ⟨y, hy⟩ : ∃ y, l[c * 2 + 1]? = some y := ⟨_, List.getElem?_eq_getElem (by have := HL.out; omega)⟩
        have c1 := K1.out _ _ hx
        have c2 := K1.out _ _ hy
        have c3 := K2.out _ _ hx
        have c4 := K2.out _ _ hy
        clear hx hy
        go_wp2
        go_quiet (fail)
        go_wp2
        go_roundw
        case rel => exact ⟨c + 1, by omega, by go_num, q + nq, rfl⟩
        case measure => simp [intOf]; omega
      · go_wp2
        go_ret
        exact ⟨rfl, q, rfl⟩

end Go.Proofs.Ytlmnnbbmjpcohaa

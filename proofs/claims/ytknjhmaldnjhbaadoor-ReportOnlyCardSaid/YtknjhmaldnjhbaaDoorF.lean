/- The contract of few: at most eight rows of at most six numbers. -/
import Derived.Test.YtknjhmaldnjhbaaDoorR
import Derived.Test.YtknjhmaldnjhbaaDoorO
import Derived.Laws.OwnMore
namespace Go.Proofs.YtknjhmaldnjhbaaDoor
open Go.RowKit Go.Deep

/-- An argument that reads as rows. -/
def InRows (w : World) (v : Value) (x : List (List Int)) : Prop :=
  ∃ (A : Option Addr) (c : Nat), v = .slice A x.length c ∧ x.length ≤ 140737488355328 ∧ ∀ (k : Nat) r, x[k]? = some r → ∃ a, A = some a ∧
    ∃ (A2 : Option Addr) (c2 : Nat), w.cell? (a.add k) = some (.slice A2 r.length c2) ∧ r.length ≤ c2 ∧ c2 ≤ 140737488355328 ∧ (A2 = none → c2 = 0) ∧ ∀ (j : Nat) z, r[j]? = some z → ∃ a2, A2 = some a2 ∧ w.cell? (a2.add j) = some (.int .i64 z)

theorem InRows.fr {w w' : World} {v : Value} {x : List (List Int)} (h : InRows w v x) (f : Fr (fun _ => False) w w') : InRows w' v x := by
  obtain ⟨A, c, e, hl, hc⟩ := h
  refine ⟨A, c, e, hl, fun k r hr => ?_⟩
  obtain ⟨a, h1, A2, c2, h2, h3, h4, h5, h6⟩ := hc k r hr
  exact ⟨a, h1, A2, c2, f.cell h2 id, h3, h4, h5, fun j z hz => (h6 j z hz).imp fun a2 ⟨h7, h8⟩ => ⟨h7, f.cell h8 id⟩⟩

def fewT (x : List (List Int)) : List (List Int) := (x.take 8).map (·.take 6)

/-- What append makes of a new empty row and numbers. -/
theorem append_new (w : World) (g : Nat) (hg : w.heap[g]? = some (.cells #[] 3 (0, 0))) (A2 : Option Addr) (m c : Nat) (r : List Int) (hm : r.length = m) (hA : A2 = none → m = 0 ∧ c = 0)
    (hc : ∀ (j : Nat) z, r[j]? = some z → ∃ a2, A2 = some a2 ∧ w.cell? (a2.add j) = some (.int .i64 z)) (hb : m ≤ 1000) :
    ∃ g' cap w', (Builtin.append_ #[26, 26] 26 #[.slice (some ⟨g, 0, none⟩) 0 0, .slice A2 m c]).run Tryd.prog w = .ok (.slice (some ⟨g', 0, none⟩) m cap) w' ∧ IntsT w' (.slice (some ⟨g', 0, none⟩) m cap) r ∧ Fr (fun k => k = g) w w' := by
  obtain ⟨i0, hi, hz0, hz1, hz2⟩ := info_parts info3
  have hlt := lt_of_block hg
  have hown : w.ownsRow g 3 1 (.slice (some ⟨g, 0, none⟩) 0 0) 0 [] := ⟨by simp, .inr ⟨g, 0, #[], rfl, Nat.le_refl _, hg, Nat.le_refl _, by simp [maxLen], by simp, by simp⟩⟩
  cases A2 with
  | none =>
    obtain ⟨rfl, rfl⟩ := hA rfl
    have hr0 : r = [] := List.eq_nil_of_length_eq_zero hm
    subst hr0
    refine ⟨g, 0, w, run_append_owned_none (P := Tryd.prog) (w := w) g 26 26 3 i0 1 (by kernel_rfl) hi _ 0 [] hown, ?_, Fr.refl _ _⟩
    exact .inr ⟨g, 0, #[], (0, 0), rfl, hg, fun k x h => by simp at h⟩
  | some a =>
    have hnews : ∀ j u, (r.map (Value.int .i64))[j]? = some u → w.cell? (a.add j) = some u := by
      intro j u hj
      rw [List.getElem?_map] at hj
      cases hz : r[j]? with
      | none => rw [hz] at hj; cases hj
      | some z =>
        rw [hz] at hj
        obtain ⟨a2, e, hcell⟩ := hc j z hz
        cases e
        have hj : Value.int .i64 z = u := by simpa using hj
        rw [← hj]
        exact hcell
    obtain ⟨v', w', hr, hown', hgrow, hiff, hat⟩ := run_append_own_at (P := Tryd.prog) w g 26 26 3 i0 (.int .i64 0) 1 8 (by kernel_rfl) hi hz0 hz1 hz2 rfl (by decide) _ 0 [] hown a m c (r.map (Value.int .i64)) (by simp [hm]) hnews
      (by intro u hu; simp at hu; obtain ⟨z, _, rfl⟩ := hu; rfl) (by unfold maxLen; omega) (by omega) (by omega)
    rw [Nat.zero_add, List.nil_append] at hown'
    have ht := ints_own hown'
    rcases hown'.2 with ⟨rfl, _⟩ | ⟨g', cap, cur, rfl, _, hg', _, _, _, _⟩
    · exact absurd (hiff.1 rfl).1 (by simp)
    · exact ⟨g', cap, w', hr, ht, Fr.grown hgrow fun k hk => by simp [Value.ownBlock] at hk; exact hk.symm⟩

theorem wp_append_run {P : Program} {w : World} {o : Oper} {a : Act} {K : Act → World → Prop} {Q : Exit → Act → World → Prop} (s x : Operand) (t : TypeId)
    (ho : o.op = .call { callee := .builtin .append, args := #[s, x], argTypes := #[t, t] }) {vs vx : Value} (hs : a.eval s = vs) (hx : a.eval x = vx) {v' : Value} {w' : World}
    (hr : (Builtin.append_ #[t, t] o.type #[vs, vx]).run P w = .ok v' w') (h : K (a.put o.dst v') w') : o.wp P a w K Q := by
  unfold Oper.wp execOp
  simp only [ho, resolve, invoke, builtin, Sem.run_bind, Sem.run_pure, Result.andThen_ok, List.map_toArray, List.map_cons, List.map_nil, hs, hx, hr]
  exact h

set_option maxRecDepth 100000 in
set_option maxHeartbeats 4000000 in
theorem few_any (v : Value) (x : List (List Int)) (w : World) (hI : InRows w v x) : Calls Tryd.prog 11 #[v] w fun e w' => ∃ u, e = .returned u ∧ RowsAt w' u (fewT x) ∧ Fr (fun _ => False) w w' := by
  obtain ⟨B, hB⟩ : ∃ B, w.heap.size = B := ⟨_, rfl⟩
  have h0 : Outs w B (.slice none 0 0) [] := ⟨[], World.ownsRow_nil w B 26 1, fun k r h => by simp at h⟩
  obtain ⟨A, c, rfl, hl, hc⟩ := hI
  obtain ⟨n, hn⟩ : ∃ n, x.length = n := ⟨_, rfl⟩
  rw [hn] at hl ⊢
  have HC := hid' hc
  have HN := hid' hn
  have H0 := hid' h0
  have HB := hid' hB
  have hB1 : B ≤ w.heap.size := by omega
  obtain ⟨i0, hi, hz0, hz1, hz2⟩ := info_parts info26
  clear hc hn h0 hB
  go_enter Tryd.func11, Tryd.ntmps11
  go_wp2_with fail
  go_loopw [3, 4] (fun u i wr => ∃ k : Nat, i = .int .i64 k ∧ k ≤ n ∧ k ≤ 8 ∧ Outs wr B u ((x.take k).map (·.take 6)) ∧ Fr (fun _ => False) w wr) (fun _ i _ => n - (intOf i).toNat)
  case atStart => exact ⟨0, rfl, by omega, by omega, H0.out, Fr.refl _ _⟩
  case round =>
    obtain ⟨k, rfl, hk, hk8, hO, hF⟩ := hrel
    have HO := hid' hO
    have HF := hid' hF
    have hwr := hF.size
    clear hO hF H0
    by_cases hlt : k < n ∧ k < 8
    · obtain ⟨hkn, hk8'⟩ := hlt
      obtain ⟨r, hr⟩ : ∃ r, x[k]? = some r := ⟨_, List.getElem?_eq_getElem (by rw [HN.out]; exact hkn)⟩
      obtain ⟨a, rfl, A2, c2, h2, h3, h4, h5, h6⟩ := HC.out k r hr
      have c1 := HF.out.cell h2 id
      obtain ⟨L, hL⟩ : ∃ L, r.length = L := ⟨_, rfl⟩
      rw [hL] at c1 h3 h2
      obtain ⟨m, hm⟩ : ∃ m : Nat, min L 6 = m := ⟨_, rfl⟩
      have hmL : min (L : Int) 6 = m := by omega
      have hmc : m ≤ c2 := by omega
      go_upto_region 5 with (fail)
      refine wp_plan (fun w' => w'.cell? (a.add k) = some (.slice A2 L c2)) [(0, true), (2, true), (3, true), (4, true), (5, true), (6, true), (7, true), (8, true), (9, true), (10, true), (11, true), (12, true), (1, false), (13, false), (14, false), (15, false), (16, true)] _ (by kernel_rfl) (by kernel_rfl) (by simp only [planOps, List.getElem?_toArray, List.getElem?_cons_zero, List.getElem?_cons_succ]; rfl) c1 ?_
      iterate 12 (refine plan_take (v := ?_) rfl ?_ ?_; rotate_left; (focus (intro _ hS; go_simp; first | done | with_reducible rfl)); simp only [Act.put, List.setIfInBounds_toArray, List.set_cons_zero, List.set_cons_succ])
      refine plan_do rfl fun K hK => ?_
      go_simp
      obtain ⟨w1, hw1⟩ : ∃ w1, (wr.alloc (.cells #[] 3)).drew = w1 := ⟨_, rfl⟩
      have f1 : Fr (fun _ => False) wr w1 := by rw [← hw1]; exact ((Fr.refl _ wr).alloc _).drew
      have g1 : w1.heap[wr.heap.size]? = some (.cells #[] 3 (0, 0)) := by rw [← hw1]; exact blk_alloc_new wr (.cells #[] 3)
      have s1 := lt_of_block g1
      rw [hw1]
      refine hK _ _ (f1.cell c1 id) ?_
      clear hK K hw1
      refine plan_do rfl fun K hK => ?_
      have hA2 : A2 = none → m = 0 ∧ c2 = 0 := fun h => ⟨by have := h5 h; omega, h5 h⟩
      obtain ⟨g2, cap2, w2, hr2, ht2, f2⟩ := append_new w1 wr.heap.size g1 A2 m c2 (r.take 6) (by rw [List.length_take, hL]; omega) hA2 (fun j z hz => by
        rw [List.getElem?_take] at hz
        split at hz
        · obtain ⟨a2, e, h7⟩ := h6 j z hz
          exact ⟨a2, e, f1.cell (HF.out.cell h7 id) id⟩
        · cases hz) (by omega)
      refine wp_append_run _ _ 26 rfl rfl rfl hr2 ?_
      have f2' : Fr (fun _ => False) wr w2 := f1.fresh f2 (fun j hj h => by have h : j = wr.heap.size := h; omega)
      refine hK _ _ (f2'.cell c1 id) ?_
      clear hK K hr2 g1
      simp only [Act.put, List.setIfInBounds_toArray, List.set_cons_zero, List.set_cons_succ]
      refine plan_do rfl fun K hK => ?_
      go_simp
      refine hK _ _ ((f2'.alloc _).cell c1 id) ?_
      clear hK K
      refine plan_do rfl fun K hK => ?_
      obtain ⟨vals, hv1, hv2⟩ := HO.out.keep f2' (fun _ h => h)
      have hlen : ((x.take k).map (·.take 6)).length = k := by rw [List.length_map, List.length_take, HN.out]; omega
      have hv1' := hv1
      rw [hlen] at hv1'
      have hs2 := f2'.size
      obtain ⟨v', w8, hr8, hown', hgrow, _, _⟩ := run_append_own_at (P := Tryd.prog) _ B 22 22 26 i0 (.slice none 0 0) 1 24 (by kernel_rfl) hi hz0 hz1 hz2 rfl (by decide) _ _ _ (hv1'.alloc (.cells #[.slice (some ⟨g2, 0, none⟩) m cap2] 26)) ⟨w2.heap.size, 0, none⟩ 1 1 [.slice (some ⟨g2, 0, none⟩) m cap2] rfl (cell_one_new _ _ _) (by simp [Value.oneCell']) (by unfold maxLen; omega) (by omega) (by simp; omega)
      refine wp_append_run _ _ 22 rfl rfl rfl hr8 ?_
      have f8 : Fr (fun q => u3.ownBlock = some q) w2 w8 := ((Fr.refl _ w2).alloc _).trans (Fr.grown hgrow fun q hq => hq)
      have hne := row_ne hv1
      have hO8 := Outs.snoc (w := w2) ⟨vals, hv1, hv2⟩ ht2 hv1 hv2 (by rw [hlen]; exact hown') f8 (fun g c fr hg => hne g c fr hg)
      have hlt8 := fun j h => hv1'.lt j h
      have f9 : Fr (fun _ => False) w w8 := (HF.out.trans f2').fresh f8 (fun j hj h => by have := (hv1'.lt j h).1; have := HB.out; omega)
      refine hK _ _ (f9.cell h2 id) ?_
      clear hK K
      simp only [Act.put, List.setIfInBounds_toArray, List.set_cons_zero, List.set_cons_succ]
      (refine plan_take (v := ?_) rfl ?_ ?_; rotate_left; (focus (intro _ hS; go_simp; first | done | with_reducible rfl)); simp only [Act.put, List.setIfInBounds_toArray, List.set_cons_zero, List.set_cons_succ])
      refine plan_nil ?_
      go_wp2_with fail
      go_roundw
      case rel =>
        refine ⟨k + 1, by go_num, by omega, by omega, ?_, f9⟩
        rw [List.take_add_one, hr, Option.toList_some, List.map_append]
        exact hO8
      case measure => simp [intOf]; omega
    · have hend : (k = n ∨ k = 8) := by omega
      have hx : (x.take k).map (·.take 6) = fewT x := by
        unfold fewT
        rcases hend with h | h
        · rw [List.take_of_length_le (i := k) (by rw [HN.out]; omega), List.take_of_length_le (i := 8) (by rw [HN.out]; omega)]
        · rw [h]
      rw [hx] at HO
      rcases hend with rfl | rfl
      · go_wp2_with fail
        go_ret
        exact ⟨_, rfl, HO.out.rows, HF.out⟩
      · by_cases h8 : 8 < n
        · go_wp2_with fail
          go_ret
          exact ⟨_, rfl, HO.out.rows, HF.out⟩
        · obtain rfl : n = 8 := by omega
          go_wp2_with fail
          go_ret
          exact ⟨_, rfl, HO.out.rows, HF.out⟩

end Go.Proofs.YtknjhmaldnjhbaaDoor

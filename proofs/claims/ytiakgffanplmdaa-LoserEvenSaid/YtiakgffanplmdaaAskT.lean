/- Contracts of Live and ask at things; what sources of things are. -/
import Derived.Test.YtiakgffanplmdaaTreeT
namespace Go.Proofs.Ytiakgffanplmdaa.T
open Go.RowKit Go.Deep

set_option maxHeartbeats 1000000 in
theorem live_any (w : World) (less : Value) (b bs cs bh bl n : Nat) (V : Nat → Value) (h : Nat → Th × Bool) (lost : Nat → Nat) (T : TreeIs w less b bs cs bh bl n V h lost) :
    Calls Try.prog 24 #[.pointer (some ⟨b, 0, none⟩)] w fun e w' => e = .returned (.int .i64 (liveN (hn h) n : Nat)) ∧ Fr (fun _ => False) w w' := by
  have c2 : w.cell? ⟨b, 2, none⟩ = some (.slice (some ⟨bh, 0, none⟩) n n) := T.tree.cell (i := 2) (by omega)
  have hsm := T.small
  go_enter Try.func24, Try.ntmps24
  go_wp2_with fail
  go_loopw [3, 11] (fun m i wr => ∃ k : Nat, k ≤ n ∧ i = .int .i64 k ∧ m = .int .i64 (liveN (hn h) k : Nat) ∧ Fr (fun _ => False) w wr) (fun _ i _ => n - (intOf i).toNat)
  case atStart => exact ⟨0, Nat.zero_le _, rfl, rfl, Fr.refl _ _⟩
  case round =>
    obtain ⟨k, hk, rfl, rfl, hf⟩ := hrel
    have HF := hid' hf
    by_cases hlt : k < n
    · have T' := T.keep hf id id id id
      have d0 := T'.hands.cell (i := k * 4) (by omega)
      have d1 := T'.hands.cell (i := k * 4 + 1) (by omega)
      have d2 := T'.hands.cell (i := k * 4 + 2) (by omega)
      have d3 := T'.hands.cell (i := k * 4 + 3) (by omega)
      rw [hcell_0] at d0
      rw [hcell_1] at d1
      rw [hcell_2] at d2
      rw [hcell_3] at d3
      have hl := liveN_le (hn h) k
      have hs : liveN (hn h) (k + 1) = liveN (hn h) k + if (hn h k).2 then 1 else 0 := rfl
      obtain ⟨x, hx⟩ : ∃ x, h k = x := ⟨_, rfl⟩
      obtain ⟨⟨x, x2, x3⟩, lx⟩ := x
      have hnk : hn h k = (x, lx) := by unfold hn; rw [hx]
      rw [hnk] at hs
      rw [hx] at d0 d1 d2 d3
      clear hnk
      have HS := hid' hs
      clear hs hx T' hf T
      cases lx with
      | true =>
        go_wp2_with fail
        go_roundw
        case rel => exact ⟨k + 1, by omega, by go_num, by rw [HS.out]; go_num, HF.out.alloc _⟩
        case measure => simp [intOf]; omega
      | false =>
        go_wp2_with fail
        go_roundw
        case rel => exact ⟨k + 1, by omega, by go_num, by rw [HS.out]; rfl, HF.out.alloc _⟩
        case measure => simp [intOf]; omega
    · obtain rfl : k = n := by omega
      clear hf T
      go_wp2_with fail
      go_ret
      exact ⟨rfl, HF.out⟩

/-- Sources: closures over function 14; each asked in a state s answers out s j and comes to the state nxt s j; they write in the blocks of own alone, and hang on those of dep. -/
structure Srcs (n : Nat) (V : Nat → Value) {St : Type} (I : St → World → Prop) (own dep : Nat → Prop) (out : St → Nat → Th × Bool) (nxt : St → Nat → St) : Prop where
  val : ∀ j, j < n → ∃ T L : Nat, V j = .func (.func 14) #[] #[.pointer (some ⟨T, 0, none⟩), .pointer (some ⟨L, 0, none⟩)] ∧
    ∀ s w, I s w → Calls Try.prog 14 #[.pointer (some ⟨T, 0, none⟩), .pointer (some ⟨L, 0, none⟩)] w fun e w' =>
      e = .returned (.tuple #[thV (out s j).1, .bool (out s j).2]) ∧ I (nxt s j) w' ∧ Fr own w w'
  keep : ∀ s w w' S, I s w → Fr S w w' → (∀ k, S k → ¬ dep k) → I s w'
  sub : ∀ k, own k → dep k
  none : ∀ s j, (out s j).2 = false → (out s j).1 = (0, 0, 0)

/-- The hands behind an answer. -/
def upd (h : Nat → Th × Bool) (i : Nat) (x : Th × Bool) (j : Nat) : Th × Bool := if j = i then x else h j

theorem hn_upd (h : Nat → Th × Bool) (i : Nat) (x : Th × Bool) : hn (upd h i x) = Ytiakgffanplmdaa.upd (hn h) i (x.1.1, x.2) := by
  funext j
  unfold hn upd Ytiakgffanplmdaa.upd
  by_cases e : j = i
  · rw [if_pos e, if_pos e]
  · rw [if_neg e, if_neg e]

theorem hcell_upd (h : Nat → Th × Bool) (i : Nat) (x : Th × Bool) (j : Nat) :
    (if j = i * 4 + 3 then Value.bool x.2 else if j = i * 4 + 2 then .int .i64 x.1.2.2 else if j = i * 4 + 1 then .int .i64 x.1.2.1 else if j = i * 4 then .int .i64 x.1.1 else hcell h j) = hcell (upd h i x) j := by
  unfold hcell upd
  by_cases h1 : j = i * 4 + 3
  · subst h1
    rw [if_pos rfl, if_neg (by omega), if_neg (by omega), if_neg (by omega), if_pos (by omega)]
  rw [if_neg h1]
  by_cases h2 : j = i * 4 + 2
  · subst h2
    rw [if_pos rfl, if_neg (by omega), if_neg (by omega), if_pos (by omega), if_pos (by omega)]
  rw [if_neg h2]
  by_cases h3 : j = i * 4 + 1
  · subst h3
    rw [if_pos rfl, if_neg (by omega), if_pos (by omega), if_pos (by omega)]
  rw [if_neg h3]
  by_cases h4 : j = i * 4
  · subst h4
    rw [if_pos rfl, if_pos (by omega), if_pos (by omega)]
  rw [if_neg h4, if_neg (show ¬ j / 4 = i by omega)]

set_option maxHeartbeats 1000000 in
theorem ask_any {St : Type} {I : St → World → Prop} {own dep : Nat → Prop} {out : St → Nat → Th × Bool} {nxt : St → Nat → St} (w : World) (less : Value) (b bs cs bh bl n : Nat) (V : Nat → Value) (h : Nat → Th × Bool) (lost : Nat → Nat) (T : TreeIs w less b bs cs bh bl n V h lost)
    (R : Srcs n V I own dep out nxt) (hd : ∀ k, dep k → k ≠ b ∧ k ≠ bs ∧ k ≠ bh ∧ k ≠ bl) (s : St) (hI : I s w) (i : Nat) (hi : i < n) :
    Calls Try.prog 22 #[.pointer (some ⟨b, 0, none⟩), .int .i64 i] w fun e w' => e = .returned (.tuple #[]) ∧ TreeIs w' less b bs cs bh bl n V (upd h i (out s i)) lost ∧ I (nxt s i) w' ∧ Fr (fun k => own k ∨ k = bh) w w' := by
  have c1 : w.cell? ⟨b, 1, none⟩ = some (.slice (some ⟨bs, 0, none⟩) n cs) := T.tree.cell (i := 1) (by omega)
  have s1 := T.src.cell i hi
  obtain ⟨Tt, L, hV, hcall⟩ := R.val i hi
  rw [hV] at s1
  have hn := T.small
  have HC := hid' (hcall s w hI)
  clear hcall hV
  have HO := hid' (R.none s i)
  obtain ⟨x, hx⟩ : ∃ x, out s i = x := ⟨_, rfl⟩
  obtain ⟨⟨x, x2, x3⟩, lx⟩ := x
  rw [hx] at HC HO ⊢
  clear hx
  go_enter Try.func22, Try.ntmps22
  go_wp2_with fail
  refine HC.out.mono ?_
  rintro e w1 ⟨rfl, hI1, hf1⟩
  have T1 := T.keep hf1 (fun h => (hd _ (R.sub _ h)).1 rfl) (fun h => (hd _ (R.sub _ h)).2.1 rfl) (fun h => (hd _ (R.sub _ h)).2.2.1 rfl) (fun h => (hd _ (R.sub _ h)).2.2.2 rfl)
  have HI := hid' hI1
  have HF := hid' hf1
  have HT := hid' T1
  clear c1 s1 hI1 hf1 T1
  unfold thV
  have c2 : w1.cell? ⟨b, 2, none⟩ = some (.slice (some ⟨bh, 0, none⟩) n n) := HT.out.tree.cell (i := 2) (by omega)
  cases lx with
  | true =>
    go_upto_region 4 with (fail)
    have fw : Fr (fun _ => False) w1 (w1.alloc (.cells #[.int .i64 x, .int .i64 x2, .int .i64 x3] 41)) := (Fr.refl _ _).alloc _
    have k0 : (w1.alloc (.cells #[.int .i64 x, .int .i64 x2, .int .i64 x3] 41)).cell? ⟨w1.heap.size, 0, none⟩ = some (.int .i64 x) := by simp
    have k1 : (w1.alloc (.cells #[.int .i64 x, .int .i64 x2, .int .i64 x3] 41)).cell? ⟨w1.heap.size, 1, none⟩ = some (.int .i64 x2) := by simp
    have k2 : (w1.alloc (.cells #[.int .i64 x, .int .i64 x2, .int .i64 x3] 41)).cell? ⟨w1.heap.size, 2, none⟩ = some (.int .i64 x3) := by simp
    obtain ⟨W, hW⟩ : ∃ W, w1.alloc (.cells #[.int .i64 x, .int .i64 x2, .int .i64 x3] 41) = W := ⟨_, rfl⟩
    obtain ⟨g, hg⟩ : ∃ g, w1.heap.size = g := ⟨_, rfl⟩
    rw [hW] at fw k0 k1 k2 ⊢
    rw [hg] at k0 k1 k2 ⊢
    have hgb : g ≠ bh := by have := HT.out.hands.lt; omega
    have c2W : W.cell? ⟨b, 2, none⟩ = some (.slice (some ⟨bh, 0, none⟩) n n) := keep_cell fw c2
    have HTW := hid' (HT.out.keep fw id id id id)
    have HIW := hid' (R.keep _ _ _ _ HI.out fw (fun _ h => h.elim))
    have HFW := hid' (HF.out.trans (fw.mono fun _ _ h => h.elim))
    have p0 := HTW.out.hands.cell (i := i * 4) (by omega)
    have p1 := HTW.out.hands.cell (i := i * 4 + 1) (by omega)
    have p2 := HTW.out.hands.cell (i := i * 4 + 2) (by omega)
    have p3 := HTW.out.hands.cell (i := i * 4 + 3) (by omega)
    have q0 := HTW.out.hands.frozen (i * 4)
    have q1 := HTW.out.hands.frozen (i * 4 + 1)
    have q2 := HTW.out.hands.frozen (i * 4 + 2)
    have q3 := HTW.out.hands.frozen (i * 4 + 3)
    clear hW hg c2 fw
    refine wp_plan (fun w' => w'.cell? ⟨b, 2, none⟩ = some (.slice (some ⟨bh, 0, none⟩) n n) ∧ w'.cell? ⟨g, 0, none⟩ = some (.int .i64 x) ∧ w'.cell? ⟨g, 1, none⟩ = some (.int .i64 x2) ∧ w'.cell? ⟨g, 2, none⟩ = some (.int .i64 x3)) [(0, true), (1, true), (2, true), (3, true), (4, true), (5, true), (6, true), (7, true), (8, true), (9, false)] _ (by kernel_rfl) (by kernel_rfl) (by simp only [planOps, List.getElem?_toArray, List.getElem?_cons_zero, List.getElem?_cons_succ]; rfl) ⟨c2W, k0, k1, k2⟩ ?_
    iterate 9 (refine plan_take (v := ?_) rfl ?_ ?_; rotate_left; (focus (intro _ hS; obtain ⟨s0, s1, s2, s3⟩ := hS; go_simp; first | done | with_reducible rfl)); simp only [Act.put, List.setIfInBounds_toArray, List.set_cons_zero, List.set_cons_succ])
    refine plan_do rfl fun K hK => ?_
    go_simp
    have hset := (((HTW.out.hands.set (i * 4) (.int .i64 x)).set (i * 4 + 1) (.int .i64 x2)).set (i * 4 + 2) (.int .i64 x3)).set (i * 4 + 3) (.bool true)
    have F2 : Fr (fun k => k = bh) W ((((W.setCell ⟨bh, i * 4, none⟩ (.int .i64 x)).setCell ⟨bh, i * 4 + 1, none⟩ (.int .i64 x2)).setCell ⟨bh, i * 4 + 2, none⟩ (.int .i64 x3)).setCell ⟨bh, i * 4 + 3, none⟩ (.bool true)).drew :=
      ((((((Fr.refl (fun k => k = bh) W).setCell (a := ⟨bh, i * 4, none⟩) (fun _ => rfl) _).setCell (a := ⟨bh, i * 4 + 1, none⟩) (fun _ => rfl) _).setCell (a := ⟨bh, i * 4 + 2, none⟩) (fun _ => rfl) _).setCell (a := ⟨bh, i * 4 + 3, none⟩) (fun _ => rfl) _)).drew
    have hrow := hset.drew
    obtain ⟨W2, hW2⟩ : ∃ W2, ((((W.setCell ⟨bh, i * 4, none⟩ (.int .i64 x)).setCell ⟨bh, i * 4 + 1, none⟩ (.int .i64 x2)).setCell ⟨bh, i * 4 + 2, none⟩ (.int .i64 x3)).setCell ⟨bh, i * 4 + 3, none⟩ (.bool true)).drew = W2 := ⟨_, rfl⟩
    rw [hW2] at F2 hrow ⊢
    have kk : ∀ a v, W.cell? a = some v → a.block ≠ bh → W2.cell? a = some v := fun a v h hne => (World.cell?_of_block (w := W) (F2.block _ (World.block_lt_of_cell? _ _ h) hne)).trans h
    refine hK _ _ ⟨kk _ _ c2W HTW.out.ne1, kk _ _ k0 hgb, kk _ _ k1 hgb, kk _ _ k2 hgb⟩ ?_
    clear hK K hset kk
    refine plan_nil ?_
    go_wp2_with fail
    go_end0
    have T1 := HTW.out
    refine ⟨rfl, ⟨F2.row T1.tree T1.ne1, F2.cells T1.src T1.ne3, ?_, F2.row T1.lost (fun e => T1.ne5 e.symm), T1.small, T1.ne1, T1.ne2, T1.ne3, T1.ne4, T1.ne5⟩, R.keep _ _ _ _ HIW.out F2 (fun k hk h => (hd k h).2.2.1 hk), (HFW.out.mono fun k _ h => .inl h).trans (F2.mono fun k _ h => .inr h)⟩
    exact hrow.congr fun j _ => hcell_upd h i ((x, x2, x3), true) j
  | false =>
    obtain ⟨rfl, rfl, rfl⟩ : x = 0 ∧ x2 = 0 ∧ x3 = 0 := by have := HO.out rfl; simpa using this
    go_upto_region 4 with (fail)
    have fw : Fr (fun _ => False) w1 ((w1.alloc (.cells #[.int .i64 0, .int .i64 0, .int .i64 0] 41)).alloc (.cells #[.int .i64 0, .int .i64 0, .int .i64 0] 41)) := ((Fr.refl _ _).alloc _).alloc _
    have k0 : ((w1.alloc (.cells #[.int .i64 0, .int .i64 0, .int .i64 0] 41)).alloc (.cells #[.int .i64 0, .int .i64 0, .int .i64 0] 41)).cell? ⟨w1.heap.size, 0, none⟩ = some (.int .i64 0) := by simp
    have k1 : ((w1.alloc (.cells #[.int .i64 0, .int .i64 0, .int .i64 0] 41)).alloc (.cells #[.int .i64 0, .int .i64 0, .int .i64 0] 41)).cell? ⟨w1.heap.size, 1, none⟩ = some (.int .i64 0) := by simp
    have k2 : ((w1.alloc (.cells #[.int .i64 0, .int .i64 0, .int .i64 0] 41)).alloc (.cells #[.int .i64 0, .int .i64 0, .int .i64 0] 41)).cell? ⟨w1.heap.size, 2, none⟩ = some (.int .i64 0) := by simp
    obtain ⟨W, hW⟩ : ∃ W, (w1.alloc (.cells #[.int .i64 0, .int .i64 0, .int .i64 0] 41)).alloc (.cells #[.int .i64 0, .int .i64 0, .int .i64 0] 41) = W := ⟨_, rfl⟩
    obtain ⟨g, hg⟩ : ∃ g, w1.heap.size = g := ⟨_, rfl⟩
    rw [hW] at fw k0 k1 k2 ⊢
    rw [hg] at k0 k1 k2 ⊢
    have hgb : g ≠ bh := by have := HT.out.hands.lt; omega
    have c2W : W.cell? ⟨b, 2, none⟩ = some (.slice (some ⟨bh, 0, none⟩) n n) := keep_cell fw c2
    have HTW := hid' (HT.out.keep fw id id id id)
    have HIW := hid' (R.keep _ _ _ _ HI.out fw (fun _ h => h.elim))
    have HFW := hid' (HF.out.trans (fw.mono fun _ _ h => h.elim))
    have p0 := HTW.out.hands.cell (i := i * 4) (by omega)
    have p1 := HTW.out.hands.cell (i := i * 4 + 1) (by omega)
    have p2 := HTW.out.hands.cell (i := i * 4 + 2) (by omega)
    have p3 := HTW.out.hands.cell (i := i * 4 + 3) (by omega)
    have q0 := HTW.out.hands.frozen (i * 4)
    have q1 := HTW.out.hands.frozen (i * 4 + 1)
    have q2 := HTW.out.hands.frozen (i * 4 + 2)
    have q3 := HTW.out.hands.frozen (i * 4 + 3)
    clear hW hg c2 fw
    refine wp_plan (fun w' => w'.cell? ⟨b, 2, none⟩ = some (.slice (some ⟨bh, 0, none⟩) n n) ∧ w'.cell? ⟨g, 0, none⟩ = some (.int .i64 0) ∧ w'.cell? ⟨g, 1, none⟩ = some (.int .i64 0) ∧ w'.cell? ⟨g, 2, none⟩ = some (.int .i64 0)) [(0, true), (1, true), (2, true), (3, true), (4, true), (5, true), (6, true), (7, true), (8, true), (9, false)] _ (by kernel_rfl) (by kernel_rfl) (by simp only [planOps, List.getElem?_toArray, List.getElem?_cons_zero, List.getElem?_cons_succ]; rfl) ⟨c2W, k0, k1, k2⟩ ?_
    iterate 9 (refine plan_take (v := ?_) rfl ?_ ?_; rotate_left; (focus (intro _ hS; obtain ⟨s0, s1, s2, s3⟩ := hS; go_simp; first | done | with_reducible rfl)); simp only [Act.put, List.setIfInBounds_toArray, List.set_cons_zero, List.set_cons_succ])
    refine plan_do rfl fun K hK => ?_
    go_simp
    have hset := (((HTW.out.hands.set (i * 4) (.int .i64 0)).set (i * 4 + 1) (.int .i64 0)).set (i * 4 + 2) (.int .i64 0)).set (i * 4 + 3) (.bool false)
    have F2 : Fr (fun k => k = bh) W ((((W.setCell ⟨bh, i * 4, none⟩ (.int .i64 0)).setCell ⟨bh, i * 4 + 1, none⟩ (.int .i64 0)).setCell ⟨bh, i * 4 + 2, none⟩ (.int .i64 0)).setCell ⟨bh, i * 4 + 3, none⟩ (.bool false)).drew :=
      ((((((Fr.refl (fun k => k = bh) W).setCell (a := ⟨bh, i * 4, none⟩) (fun _ => rfl) _).setCell (a := ⟨bh, i * 4 + 1, none⟩) (fun _ => rfl) _).setCell (a := ⟨bh, i * 4 + 2, none⟩) (fun _ => rfl) _).setCell (a := ⟨bh, i * 4 + 3, none⟩) (fun _ => rfl) _)).drew
    have hrow := hset.drew
    obtain ⟨W2, hW2⟩ : ∃ W2, ((((W.setCell ⟨bh, i * 4, none⟩ (.int .i64 0)).setCell ⟨bh, i * 4 + 1, none⟩ (.int .i64 0)).setCell ⟨bh, i * 4 + 2, none⟩ (.int .i64 0)).setCell ⟨bh, i * 4 + 3, none⟩ (.bool false)).drew = W2 := ⟨_, rfl⟩
    rw [hW2] at F2 hrow ⊢
    have kk : ∀ a v, W.cell? a = some v → a.block ≠ bh → W2.cell? a = some v := fun a v h hne => (World.cell?_of_block (w := W) (F2.block _ (World.block_lt_of_cell? _ _ h) hne)).trans h
    refine hK _ _ ⟨kk _ _ c2W HTW.out.ne1, kk _ _ k0 hgb, kk _ _ k1 hgb, kk _ _ k2 hgb⟩ ?_
    clear hK K hset kk
    refine plan_nil ?_
    go_wp2_with fail
    go_end0
    have T1 := HTW.out
    refine ⟨rfl, ⟨F2.row T1.tree T1.ne1, F2.cells T1.src T1.ne3, ?_, F2.row T1.lost (fun e => T1.ne5 e.symm), T1.small, T1.ne1, T1.ne2, T1.ne3, T1.ne4, T1.ne5⟩, R.keep _ _ _ _ HIW.out F2 (fun k hk h => (hd k h).2.2.1 hk), (HFW.out.mono fun k _ h => .inl h).trans (F2.mono fun k _ h => .inr h)⟩
    exact hrow.congr fun j _ => hcell_upd h i ((0, 0, 0), false) j

end Go.Proofs.Ytiakgffanplmdaa.T

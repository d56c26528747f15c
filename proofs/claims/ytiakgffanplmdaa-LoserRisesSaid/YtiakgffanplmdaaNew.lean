/- The contract of New. -/
import Derived.Test.YtiakgffanplmdaaNext
import Derived.Test.YtiakgffanplmdaaK
import Derived.OwnWalk
namespace Go.Proofs.Ytiakgffanplmdaa
open Go.RowKit Go.Deep

theorem Try.info25 : (Try.prog.info? 25).map (fun i => (i.zero, i.size, i.bytes)) = some (some .nilFunc, 1, 8) := by kernel_rfl
theorem Try.info60 : (Try.prog.info? 60).map (fun i => (i.zero, i.size, i.bytes)) = some (some (.agg #[.int .i64 0, .bool false]), 2, 16) := by kernel_rfl
theorem Try.info3 : (Try.prog.info? 3).map (fun i => (i.zero, i.size, i.bytes)) = some (some (.int .i64 0), 1, 8) := by kernel_rfl

theorem add_flat (a j : Nat) : (⟨a, 0, none⟩ : Addr).add j = ⟨a, j, none⟩ := by
  by_cases h : j = 0 <;> simp [Addr.add, h]

theorem Fr.grown {S : Nat → Prop} {w w' : World} {row : Option Nat} (h : w.grownBy w' row) (hr : ∀ k, row = some k → S k) : Fr S w w' :=
  ⟨h.os, h.tape, h.output, h.size, fun k hk hs => h.block k hk (fun e => hs (hr k e.symm))⟩

/-- What append makes of a new empty row and a row of m. -/
theorem run_append_new (w : World) (g : Nat) (hg : w.heap[g]? = some (.cells #[] 25 (0, 0))) (a m c : Nat) (V : Nat → Value) (hc : Cells w a m V) (h1 : ∀ j, j < m → (V j).oneCell' = true) (hm : m ≤ 1000) :
    ∃ g' cap w', (Builtin.append_ #[35, 35] 35 #[.slice (some ⟨g, 0, none⟩) 0 0, .slice (some ⟨a, 0, none⟩) m c]).run Try.prog w = .ok (.slice (some ⟨g', 0, none⟩) m cap) w' ∧
      (g' = g ∨ w.heap.size ≤ g') ∧ Cells w' g' m V ∧ Fr (fun k => k = g) w w' := by
  obtain ⟨i0, hi, hz0, hz1, hz2⟩ := info_parts Try.info25
  have hlt := lt_of_block hg
  have hown : w.ownsRow g 25 1 (.slice (some ⟨g, 0, none⟩) 0 0) 0 [] := ⟨by simp, .inr ⟨g, 0, #[], rfl, Nat.le_refl _, hg, Nat.le_refl _, by simp [maxLen], by simp, by simp⟩⟩
  have hnews : ∀ j u, ((List.range m).map V)[j]? = some u → w.cell? ((⟨a, 0, none⟩ : Addr).add j) = some u := by
    intro j u hj
    rw [List.getElem?_map] at hj
    by_cases hjm : j < m
    · rw [List.getElem?_range hjm] at hj
      simp at hj
      subst hj
      rw [add_flat]; exact hc.cell j hjm
    · rw [List.getElem?_eq_none (by simpa using hjm)] at hj
      simp at hj
  obtain ⟨v', w', hr, hown', hgrow, hiff, hat⟩ := run_append_own_at (P := Try.prog) w g 35 35 25 i0 .nilFunc 1 8 (by kernel_rfl) hi hz0 hz1 hz2 rfl (by decide) _ 0 [] hown ⟨a, 0, none⟩ m c ((List.range m).map V) (by simp) hnews
    (by intro u hu; simp at hu; obtain ⟨j, hj, rfl⟩ := hu; exact h1 j hj) (by unfold maxLen; omega) (by omega) (by omega)
  rcases hown'.2 with ⟨rfl, _⟩ | ⟨g', cap, cur, rfl, _, hg', _, _, _, _⟩
  · exact absurd (hiff.1 rfl).1 (by simp)
  · rw [Nat.zero_add] at hr
    refine ⟨g', cap, w', hr, ?_, ⟨lt_of_block hg', fun j hj => ?_⟩, Fr.grown hgrow fun k hk => by simp [Value.ownBlock] at hk; exact hk.symm⟩
    · rcases hat with h | h
      · simp [Value.ownBlock] at h; exact .inl h
      · simp [Value.ownBlock] at h; exact .inr (by omega)
    · have := hown'.cells (g := g') rfl j (V j) (by simp [hj])
      rwa [add_flat] at this

theorem run_append_new0 (w : World) (g : Nat) (hg : w.heap[g]? = some (.cells #[] 25 (0, 0))) :
    (Builtin.append_ #[35, 35] 35 #[.slice (some ⟨g, 0, none⟩) 0 0, .slice none 0 0]).run Try.prog w = .ok (.slice (some ⟨g, 0, none⟩) 0 0) w := by
  obtain ⟨i0, hi, hz0, hz1, hz2⟩ := info_parts Try.info25
  exact run_append_owned_none (P := Try.prog) (w := w) g 35 35 25 i0 1 (by kernel_rfl) hi _ 0 [] ⟨by simp, .inr ⟨g, 0, #[], rfl, Nat.le_refl _, hg, Nat.le_refl _, by simp [maxLen], by simp, by simp⟩⟩

theorem run_make53 (w : World) (n : Nat) (hn : n ≤ 1000) : (Instr.makeSlice 53 (.int .i64 (n : Int)) (.int .i64 (n : Int))).run Try.prog w = .ok (.slice (some ⟨w.heap.size, 0, none⟩) n n) (w.alloc (.cells (madeCells #[.int .i64 0, .bool false] (n * 2)) 60)) := by
  obtain ⟨i0, hi, hz0, hz1, hz2⟩ := info_parts Try.info60
  have := run_make (P := Try.prog) w 53 60 i0 _ (by kernel_rfl) hi hz0 .i64 .i64 n n (by omega) (by omega) (by rw [hz2]; omega) (by omega)
  rw [hz1] at this
  exact this

theorem run_make27 (w : World) (n : Nat) (hn : n ≤ 2000) : (Instr.makeSlice 27 (.int .i64 (n : Int)) (.int .i64 (n : Int))).run Try.prog w = .ok (.slice (some ⟨w.heap.size, 0, none⟩) n n) (w.alloc (.cells (madeCells #[.int .i64 0] n) 3)) :=
  run_make_row' 27 3 _ 8 (by kernel_rfl) Try.info3 rfl .i64 .i64 n (by omega) (by omega) w

theorem made_hands (w : World) (n : Nat) : (w.alloc (.cells (madeCells #[.int .i64 0, .bool false] (n * 2)) 60)).rowIs w.heap.size 60 (n * 2) (hcell fun _ => (0, false)) := by
  refine ⟨_, blk_alloc_new _ _, size_madeCells _ _, fun i hi => ?_⟩
  unfold hcell
  rcases Nat.mod_two_eq_zero_or_one i with h | h <;> simp [madeCells, hi, h]

theorem Fr.fresh {S S' : Nat → Prop} {w w' w'' : World} (h : Fr S w w') (k : Fr S' w' w'') (hs : ∀ j, j < w.heap.size → S' j → S j) : Fr S w w'' :=
  ⟨k.os.trans h.os, k.tape.trans h.tape, k.output.trans h.output, Nat.le_trans h.size k.size, fun i hi hn => (k.block i (Nat.lt_of_lt_of_le hi h.size) (fun h1 => hn (hs i hi h1))).trans (h.block i hi hn)⟩

/-- The first k sources have been asked. -/
def asked {St : Type} (nxt : St → Nat → St) (s : St) : Nat → St
  | 0 => s
  | k + 1 => nxt (asked nxt s k) k

/-- Their hands. -/
def dealt {St : Type} (nxt : St → Nat → St) (out : St → Nat → Int × Bool) (s : St) (k j : Nat) : Int × Bool := if j < k then out (asked nxt s j) j else (0, false)

theorem dealt_succ {St : Type} (nxt : St → Nat → St) (out : St → Nat → Int × Bool) (s : St) (k : Nat) : upd (dealt nxt out s k) k (out (asked nxt s k) k) = dealt nxt out s (k + 1) := by
  funext j
  unfold upd dealt
  by_cases h : j = k
  · subst h; simp
  · rw [if_neg h]
    by_cases h2 : j < k
    · rw [if_pos h2, if_pos (by omega)]
    · rw [if_neg h2, if_neg (by omega)]



theorem wp_append_run {P : Program} {o : Oper} {a : Act} {K : Act → World → Prop} {Q : Exit → Act → World → Prop} (s x : Operand) (t : TypeId)
    (ho : o.op = .call { callee := .builtin .append, args := #[s, x], argTypes := #[t, t] }) (v xv u : Value) (w w' : World) (hs : a.eval s = v) (hx : a.eval x = xv)
    (hr : (Builtin.append_ #[t, t] o.type #[v, xv]).run P w = .ok u w') (h : K (a.put o.dst u) w') : o.wp P a w K Q := by
  unfold Oper.wp execOp
  simp only [ho, resolve, invoke, builtin, Sem.run_bind, Sem.run_pure, Result.andThen_ok, List.map_toArray, List.map_cons, List.map_nil, hs, hx, hr]
  exact h

/-- What New has made so far: the empty row, the sources' row, the hands, the losers. -/
structure Made (w w' : World) (n : Nat) (V : Nat → Value) (g1 g3 g5 g7 : Option Nat) : Prop where
  fr : Fr (fun _ => False) w w'
  e1 : ∀ g, g1 = some g → w.heap.size ≤ g ∧ g < w'.heap.size ∧ (g3 = none → w'.heap[g]? = some (.cells #[] 25 (0, 0)))
  e3 : ∀ g, g3 = some g → w.heap.size ≤ g ∧ Cells w' g n V
  e5 : ∀ g, g5 = some g → w.heap.size ≤ g ∧ w'.rowIs g 60 (n * 2) (hcell fun _ => (0, false))
  e7 : ∀ g, g7 = some g → w.heap.size ≤ g ∧ w'.rowIs g 3 n (fun _ => .int .i64 0)
  d15 : ∀ g k, g1 = some g → g5 = some k → g ≠ k
  d17 : ∀ g k, g1 = some g → g7 = some k → g ≠ k
  d35 : ∀ g k, g3 = some g → g5 = some k → g ≠ k
  d37 : ∀ g k, g3 = some g → g7 = some k → g ≠ k
  d57 : ∀ g k, g5 = some g → g7 = some k → g ≠ k

namespace Made
variable {w w' : World} {n : Nat} {V : Nat → Value} {g1 g3 g5 g7 : Option Nat}
theorem alloc (H : Made w w' n V g1 g3 g5 g7) (o : Obj) : Made w (w'.alloc o) n V g1 g3 g5 g7 := by
  have f : Fr (fun _ => False) w' (w'.alloc o) := (Fr.refl _ _).alloc o
  refine ⟨H.fr.alloc o, fun g h => ?_, fun g h => ⟨(H.e3 g h).1, f.cells (H.e3 g h).2 id⟩, fun g h => ⟨(H.e5 g h).1, f.row (H.e5 g h).2 id⟩, fun g h => ⟨(H.e7 g h).1, f.row (H.e7 g h).2 id⟩, H.d15, H.d17, H.d35, H.d37, H.d57⟩
  obtain ⟨a, b, c⟩ := H.e1 g h
  exact ⟨a, Nat.lt_of_lt_of_le b f.size, fun h3 => f.blk (c h3) id⟩

theorem step1 (H : Made w w' n V none none g5 g7) : Made w (w'.alloc (.cells #[] 25)) n V (some w'.heap.size) none g5 g7 := by
  have A := H.alloc (.cells #[] 25)
  exact ⟨A.fr, fun g h => by cases h; exact ⟨H.fr.size, by simp, fun _ => blk_alloc_new _ _⟩, A.e3, A.e5, A.e7, fun g k h h' => by cases h; exact Nat.ne_of_gt (H.e5 k h').2.lt, fun g k h h' => by cases h; exact Nat.ne_of_gt (H.e7 k h').2.lt, A.d35, A.d37, A.d57⟩

theorem step5 (H : Made w w' n V g1 g3 none g7) : Made w (w'.alloc (.cells (madeCells #[.int .i64 0, .bool false] (n * 2)) 60)) n V g1 g3 (some w'.heap.size) g7 := by
  have A := H.alloc (.cells (madeCells #[.int .i64 0, .bool false] (n * 2)) 60)
  exact ⟨A.fr, A.e1, A.e3, fun g h => by cases h; exact ⟨H.fr.size, made_hands w' n⟩, A.e7, fun g k h h' => by cases h'; exact Nat.ne_of_lt (H.e1 g h).2.1, A.d17, fun g k h h' => by cases h'; exact Nat.ne_of_lt (H.e3 g h).2.lt, A.d37, fun g k h h' => by cases h; exact Nat.ne_of_gt (H.e7 k h').2.lt⟩

theorem step7 (H : Made w w' n V g1 g3 g5 none) : Made w (w'.alloc (.cells (madeCells #[.int .i64 0] n) 3)) n V g1 g3 g5 (some w'.heap.size) := by
  have A := H.alloc (.cells (madeCells #[.int .i64 0] n) 3)
  exact ⟨A.fr, A.e1, A.e3, A.e5, fun g h => by cases h; exact ⟨H.fr.size, World.rowIs_made w' _ n 3⟩, A.d15, fun g k h h' => by cases h'; exact Nat.ne_of_lt (H.e1 g h).2.1, A.d35, fun g k h h' => by cases h'; exact Nat.ne_of_lt (H.e3 g h).2.lt, fun g k h h' => by cases h'; exact Nat.ne_of_lt (H.e5 g h).2.lt⟩

theorem step3 {g : Nat} (H : Made w w' n V (some g) none g5 g7) {a c : Nat} (hc : Cells w a n V) (h1 : ∀ j, j < n → (V j).oneCell' = true) (hn : n ≤ 1000) :
    ∃ g' cap w'', (Builtin.append_ #[35, 35] 35 #[.slice (some ⟨g, 0, none⟩) 0 0, .slice (some ⟨a, 0, none⟩) n c]).run Try.prog w' = .ok (.slice (some ⟨g', 0, none⟩) n cap) w'' ∧ Made w w'' n V (some g) (some g') g5 g7 := by
  obtain ⟨hwg, hg2, hg⟩ := H.e1 g rfl
  obtain ⟨g', cap, w'', hr, hat, hcl, f⟩ := run_append_new w' g (hg rfl) a n c V (H.fr.cells hc id) h1 hn
  have hwg' : w.heap.size ≤ g' := by rcases hat with h | h; · omega
                                     · have := H.fr.size; omega
  refine ⟨g', cap, w'', hr, ⟨?_, fun k h => ?_, fun k h => ?_, fun k h => ⟨(H.e5 k h).1, f.row (H.e5 k h).2 (fun e => H.d15 g k rfl h e.symm)⟩, fun k h => ⟨(H.e7 k h).1, f.row (H.e7 k h).2 (fun e => H.d17 g k rfl h e.symm)⟩, H.d15, H.d17, fun p k h h' => ?_, fun p k h h' => ?_, H.d57⟩⟩
  · have f1 : Fr (fun k => w.heap.size ≤ k) w w' := H.fr.mono fun _ _ h => h.elim
    exact Fr.ofBelow (f1.trans (f.mono fun k _ h => by omega)).below
  · cases h; exact ⟨hwg, Nat.lt_of_lt_of_le hg2 f.size, fun h => by cases h⟩
  · cases h; exact ⟨hwg', hcl⟩
  · cases h
    have := (H.e5 k h').2.lt
    rcases hat with e | e
    · have := H.d15 g k rfl h'; omega
    · omega
  · cases h
    have := (H.e7 k h').2.lt
    rcases hat with e | e
    · have := H.d17 g k rfl h'; omega
    · omega

theorem tree {g g' k l cs : Nat} (H : Made w w' n V (some g) (some g') (some k) (some l)) (hn : n ≤ 1000) (less : Value) :
    TreeIs (w'.alloc (.cells #[less, .slice (some ⟨g', 0, none⟩) n cs, .slice (some ⟨k, 0, none⟩) n n, .slice (some ⟨l, 0, none⟩) n n] 55)) less w'.heap.size g' cs k l n V (fun _ => (0, false)) (fun _ => 0) := by
  have A := H.alloc (.cells #[less, .slice (some ⟨g', 0, none⟩) n cs, .slice (some ⟨k, 0, none⟩) n n, .slice (some ⟨l, 0, none⟩) n n] 55)
  refine ⟨World.rowIs_alloc w' _ 55 _ fun i hi => ?_, (A.e3 _ rfl).2, (A.e5 _ rfl).2, (A.e7 _ rfl).2, hn, Nat.ne_of_gt (H.e5 _ rfl).2.lt, Nat.ne_of_gt (H.e7 _ rfl).2.lt, H.d35 _ _ rfl rfl, H.d37 _ _ rfl rfl, H.d57 _ _ rfl rfl⟩
  match i, hi with
  | 0, _ => rfl
  | 1, _ => rfl
  | 2, _ => rfl
  | 3, _ => rfl
end Made

set_option maxHeartbeats 4000000 in
theorem new_any {St : Type} {I : St → World → Prop} {own dep : Nat → Prop} {out : St → Nat → Int × Bool} {nxt : St → Nat → St} (w : World) (a n c : Nat) (V : Nat → Value) (hV : Cells w a n V) (hn : n ≤ 1000)
    (R : Srcs n V I own dep out nxt) (hd : ∀ k, dep k → k < w.heap.size) (s : St) (hI : I s w) :
    Calls Try.prog 7 #[lessV, .slice (some ⟨a, 0, none⟩) n c] w fun e w' => ∃ b bs cs bh bl lost, e = .returned (.pointer (some ⟨b, 0, none⟩)) ∧
      TreeIs w' lessV b bs cs bh bl n V (dealt nxt out s n) lost ∧ (1 ≤ n → Kept (dealt nxt out s n) n lost) ∧ I (asked nxt s n) w' ∧ Fr own w w' ∧ w.heap.size ≤ b ∧ w.heap.size ≤ bs ∧ w.heap.size ≤ bh ∧ w.heap.size ≤ bl := by
  have h1 : ∀ j, j < n → (V j).oneCell' = true := fun j hj => by
    obtain ⟨A, T, L, h, _⟩ := R.val j hj
    rw [h]; rfl
  have mk1 := hid' (fun w => run_make53 w n hn)
  have mk2 := hid' (fun w => run_make27 w n (by omega))
  go_enter Try.func7, Try.ntmps7
  go_upto_region 2 with (fail)
  go_cut [6] (fun p wx => ∃ b bs cs bh bl, p = .pointer (some ⟨b, 0, none⟩) ∧ TreeIs wx lessV b bs cs bh bl n V (fun _ => (0, false)) (fun _ => 0) ∧ Fr (fun _ => False) w wx ∧ w.heap.size ≤ b ∧ w.heap.size ≤ bs ∧ w.heap.size ≤ bh ∧ w.heap.size ≤ bl)
  case first =>
    refine wp_fork (fun _ => True) (.take 0 (.take 2 (.take 4 (.take 6 (.alt 1 (.alt 3 (.alt 5 (.alt 7 (.take 8 (.alt 9 (.take 10 .stop) .stop)) .stop) (.alt 7 (.alt 5 (.take 8 (.alt 9 (.take 10 .stop) .stop)) .stop) .stop)) (.alt 5 (.alt 3 (.alt 7 (.take 8 (.alt 9 (.take 10 .stop) .stop)) .stop) (.alt 7 (.alt 3 (.take 8 (.alt 9 (.take 10 .stop) .stop)) .stop) .stop)) (.alt 7 (.alt 3 (.alt 5 (.take 8 (.alt 9 (.take 10 .stop) .stop)) .stop) (.alt 5 (.alt 3 (.take 8 (.alt 9 (.take 10 .stop) .stop)) .stop) .stop)) .stop))) (.alt 5 (.alt 1 (.alt 3 (.alt 7 (.take 8 (.alt 9 (.take 10 .stop) .stop)) .stop) (.alt 7 (.alt 3 (.take 8 (.alt 9 (.take 10 .stop) .stop)) .stop) .stop)) (.alt 7 (.alt 1 (.alt 3 (.take 8 (.alt 9 (.take 10 .stop) .stop)) .stop) .stop) .stop)) (.alt 7 (.alt 1 (.alt 3 (.alt 5 (.take 8 (.alt 9 (.take 10 .stop) .stop)) .stop) (.alt 5 (.alt 3 (.take 8 (.alt 9 (.take 10 .stop) .stop)) .stop) .stop)) (.alt 5 (.alt 1 (.alt 3 (.take 8 (.alt 9 (.take 10 .stop) .stop)) .stop) .stop) .stop)) .stop))))))) (by kernel_rfl) (by kernel_rfl) trivial ?_
    have H : Made w w.drew n V none none none none := ⟨(Fr.refl _ _).drew, by simp, by simp, by simp, by simp, by simp, by simp, by simp, by simp, by simp⟩
    obtain ⟨wz, hz⟩ : ∃ wz, w.drew = wz := ⟨_, rfl⟩
    rw [hz] at H ⊢
    clear hz
    repeat' (first
      | refine fork_end
      | (refine fork_take (v := ?_) rfl rfl ?_ ?_; rotate_left; (focus (intro _ _; go_simp; first | done | with_reducible rfl)); simp only [Act.put, List.getElem_toArray, List.getElem_cons_zero, List.getElem_cons_succ, List.setIfInBounds_toArray, List.set_cons_zero, List.set_cons_succ])
      | (refine fork_do (i := 1) rfl rfl (fun K hK => ?_) ?_; (focus (go_simp; refine hK _ _ trivial ?_; obtain ⟨W, hW⟩ : ∃ W, wz.alloc (.cells #[] 25) = W := ⟨_, rfl⟩; obtain ⟨g1, hg⟩ : ∃ g, wz.heap.size = g := ⟨_, rfl⟩; rw [hW, hg]; have H2 := H.step1; rw [hW, hg] at H2; clear H hW hg; clear hK K wz; revert H2; revert W; intro wz H)))
      | (refine fork_do (i := 5) rfl rfl (fun K hK => ?_) ?_; (focus (have mk := mk1.out wz; go_simp; clear mk; refine hK _ _ trivial ?_; obtain ⟨W, hW⟩ : ∃ W, wz.alloc (.cells (madeCells #[.int .i64 0, .bool false] (n * 2)) 60) = W := ⟨_, rfl⟩; obtain ⟨g5, hg⟩ : ∃ g, wz.heap.size = g := ⟨_, rfl⟩; rw [hW, hg]; have H2 := H.step5; rw [hW, hg] at H2; clear H hW hg; clear hK K wz; revert H2; revert W; intro wz H)))
      | (refine fork_do (i := 7) rfl rfl (fun K hK => ?_) ?_; (focus (have mk := mk2.out wz; go_simp; clear mk; refine hK _ _ trivial ?_; obtain ⟨W, hW⟩ : ∃ W, wz.alloc (.cells (madeCells #[.int .i64 0] n) 3) = W := ⟨_, rfl⟩; obtain ⟨g7, hg⟩ : ∃ g, wz.heap.size = g := ⟨_, rfl⟩; rw [hW, hg]; have H2 := H.step7; rw [hW, hg] at H2; clear H hW hg; clear hK K wz; revert H2; revert W; intro wz H)))
      | (refine fork_do (i := 3) rfl rfl (fun K hK => ?_) ?_; (focus (obtain ⟨g3, cap, W, hrun, H2⟩ := H.step3 hV h1 hn; refine wp_append_run _ _ _ rfl _ _ _ _ _ rfl rfl hrun ?_; simp only [Act.put, List.getElem_toArray, List.getElem_cons_zero, List.getElem_cons_succ, List.setIfInBounds_toArray, List.set_cons_zero, List.set_cons_succ]; refine hK _ _ trivial ?_; clear H hrun; clear hK K wz; revert H2; revert W; intro wz H)))
      | (refine fork_do (i := 9) rfl rfl (fun K hK => ?_) ?_; (focus (go_simp; refine hK _ _ trivial ?_; clear hK K))))
    all_goals (refine fork_nil ?_; go_wp2_with fail; go_meet)
    all_goals exact ⟨_, _, _, _, _, rfl, H.tree hn _, H.fr.alloc _, H.fr.size, (H.e3 _ rfl).1, (H.e5 _ rfl).1, (H.e7 _ rfl).1⟩
  case rest =>
    obtain ⟨b, bs, cs, bh, bl, rfl, hT, hF, hb1, hb2, hb3, hb4⟩ := hcut
    have hwc := hF.size
    have HT := hid' hT
    have HF := hid' hF
    have HI := hid' (R.keep _ _ _ _ hI hF (fun _ h => h.elim))
    clear hT hF hI
    have mk3 := run_make27 wc (2 * n) (by omega)
    rw [show ((2 * n : Nat) : Int) = 2 * (n : Int) by omega] at mk3
    go_wp2_with fail
    clear mk3
    have hrow0 := World.rowIs_made wc (.int .i64 0) (2 * n) 3
    obtain ⟨bw, hbw⟩ : ∃ bw, wc.heap.size = bw := ⟨_, rfl⟩
    have hfa : Fr (fun _ => False) wc (wc.alloc (Obj.cells (madeCells #[Value.int IntKind.i64 0] (2 * n)) 3)) := (Fr.refl _ _).alloc _
    obtain ⟨wd, hwd⟩ : ∃ wd, wc.alloc (Obj.cells (madeCells #[Value.int IntKind.i64 0] (2 * n)) 3) = wd := ⟨_, rfl⟩
    rw [hwd] at hrow0 hfa ⊢
    rw [hbw] at hrow0 hwc ⊢
    have hbw1 : b ≠ bw := by have := HT.out.tree.lt; omega
    have hbw2 : bs ≠ bw := by have := HT.out.src.lt; omega
    have hbw3 : bh ≠ bw := by have := HT.out.hands.lt; omega
    have hbw4 : bl ≠ bw := by have := HT.out.lost.lt; omega
    have hdd : ∀ k, dep k → k ≠ b ∧ k ≠ bs ∧ k ≠ bh ∧ k ≠ bl ∧ k ≠ bw := fun k h => by have := hd k h; omega
    have HD := hid' hdd
    have HT0 := hid' (HT.out.keep hfa id id id id)
    have HF0 := hid' (HF.out.trans hfa)
    have HI0 := hid' (R.keep _ _ _ _ HI.out hfa (fun _ h => h.elim))
    have HR0 := hid' hrow0
    clear hbw hwd hfa hrow0 HT HF HI hdd
    go_loopw [26] (fun i wr => ∃ k : Nat, k ≤ n ∧ i = .int .i64 k ∧ TreeIs wr lessV b bs cs bh bl n V (dealt nxt out s k) (fun _ => 0) ∧ wr.rowIs bw 3 (2 * n) (fun j => .int .i64 ((if n ≤ j ∧ j < n + k then j - n else 0 : Nat) : Int)) ∧ I (asked nxt s k) wr ∧ Fr own w wr) (fun i _ => n - (intOf i).toNat)
    case atStart =>
      refine ⟨0, Nat.zero_le _, rfl, ?_, HR0.out.congr fun j hj => ?_, HI0.out, HF0.out.mono fun _ _ h => h.elim⟩
      · rw [show dealt nxt out s 0 = fun _ => (0, false) from funext fun j => by simp [dealt]]; exact HT0.out
      · rw [if_neg (by omega)]; rfl
    case round =>
      obtain ⟨k, hk, rfl, hT, hR, hI, hF⟩ := hrel
      have HT := hid' hT
      have HI := hid' hI
      have HF := hid' hF
      have HR := hid' hR
      clear hT hI hF hR
      by_cases hlt : k < n
      · go_wp2_with fail
        refine (ask_any wr lessV b bs cs bh bl n V _ _ HT.out R (fun k h => ⟨(HD.out k h).1, (HD.out k h).2.1, (HD.out k h).2.2.1, (HD.out k h).2.2.2.1⟩) _ HI.out k hlt).mono ?_
        rintro e w1 ⟨rfl, hT1, hI1, hF1⟩
        rw [dealt_succ] at hT1
        have hR1 := hF1.row HR.out (fun h => h.elim (fun h => (HD.out _ (R.sub _ h)).2.2.2.2 rfl) (fun h => hbw3 h.symm))
        have hfz := hR1.frozen (n + k)
        have hcc := hR1.cell (i := n + k) (by omega)
        have HT1 := hid' hT1
        have HI1 := hid' hI1
        have HR1 := hid' hR1
        have HF1 := hid' (HF.out.fresh hF1 fun j hj h => h.elim id (fun h => by omega))
        clear hT1 hI1 hF1 hR1
        go_wp2_with fail
        go_roundw
        case rel =>
          have F2 : Fr (fun j => j = bw) w1 (w1.setCell ⟨bw, n + k, none⟩ (.int .i64 k)) := Fr.setCell (S := fun j => j = bw) (Fr.refl _ _) (a := ⟨bw, n + k, none⟩) (fun _ => rfl) _
          refine ⟨k + 1, by omega, by go_num, ?_, (HR1.out.set (n + k) _).congr fun j hj => ?_, R.keep _ _ _ _ HI1.out F2 (fun k hk h => (HD.out k h).2.2.2.2 hk), HF1.out.fresh F2 fun j hj h => by omega⟩
          · exact HT1.out.keep F2 hbw1 hbw2 hbw3 hbw4
          · show (if j = n + k then _ else _) = _
            by_cases hj : j = n + k
            · rw [if_pos hj, if_pos (by omega)]; exact congrArg _ (by omega)
            · rw [if_neg hj]
              by_cases h2 : n ≤ j ∧ j < n + k
              · rw [if_pos h2, if_pos (by omega)]
              · rw [if_neg h2, if_neg (by omega)]
        case measure => simp [intOf]; omega
      · obtain rfl : k = n := by omega
        clear hn
        have hn : k ≤ 1000 := HT.out.small
        rcases Nat.eq_zero_or_pos k with rfl | hk1
        · go_wp2_with fail
          refine wp_loop_rounds 1 ?_
          rw [rounds_succ]
          go_wp2_with fail
          go_ret
          exact ⟨b, bs, cs, bh, bl, _, rfl, HT.out, fun h => absurd h (by omega), HI.out, HF.out, hb1, hb2, hb3, hb4⟩
        obtain ⟨h, hh⟩ : ∃ h, dealt nxt out s k = h := ⟨_, rfl⟩
        rw [hh] at HT
        go_wp2_with fail
        go_loopw [9] (fun i wr => ∃ q : Nat, q < k ∧ i = .int .i64 q ∧ TreeIs wr lessV b bs cs bh bl k V h (fun j => if q < j ∧ j < k then worst h (win h k (2 * j)) (win h k (2 * j + 1)) else 0) ∧ wr.rowIs bw 3 (2 * k) (fun j => .int .i64 ((if q < j then win h k j else 0 : Nat) : Int)) ∧ I (asked nxt s k) wr ∧ Fr own w wr) (fun i _ => (intOf i).toNat)
        case atStart =>
          refine ⟨k - 1, by omega, congrArg _ (by omega), ?_, HR.out.congr fun j hj => ?_, HI.out, HF.out⟩
          · exact { HT.out with lost := HT.out.lost.congr fun j hj => by rw [if_neg (by omega)] }
          · by_cases h1 : k ≤ j
            · rw [if_pos (by omega), if_pos (by omega), win_leaf h k j h1]
            · rw [if_neg (by omega), if_neg (by omega)]
        case round =>
          clear HT HI HF HR
          obtain ⟨q, hq, rfl, hT, hR, hI, hF⟩ := hrel
          have HT := hid' hT
          have HI := hid' hI
          have HF := hid' hF
          have HR := hid' hR
          clear hT hI hF hR
          rcases Nat.eq_zero_or_pos q with rfl | hq1
          · have c3 : wr.cell? ⟨b, 3, none⟩ = some (.slice (some ⟨bl, 0, none⟩) k k) := HT.out.tree.cell (i := 3) (by omega)
            have c1 := HR.out.cell (i := 1) (by omega)
            rw [if_pos (by omega)] at c1
            have cl := HT.out.lost.cell (i := 0) (by omega)
            have hfz := HT.out.lost.frozen 0
            obtain ⟨f, hf⟩ : ∃ f, win h k 1 = f := ⟨_, rfl⟩
            rw [hf] at c1
            have Hf := hid' hf
            clear hf
            go_wp2_with fail
            have i1 : (1 : Int) < 2 * (k : Int) := by omega
            refine wp_plan (fun w' => w'.cell? ⟨b, 3, none⟩ = some (.slice (some ⟨bl, 0, none⟩) k k) ∧ w'.cell? ⟨bw, 1, none⟩ = some (.int .i64 f)) [(0, true), (1, true), (2, true), (3, true), (4, true), (5, true), (6, true), (7, true), (8, false)] _ (by kernel_rfl) (by kernel_rfl) (by simp only [planOps, List.getElem?_toArray, List.getElem?_cons_zero, List.getElem?_cons_succ]; rfl) ⟨c3, c1⟩ ?_
            iterate 8 (refine plan_take (v := ?_) rfl ?_ ?_; rotate_left; (focus (intro _ hS; obtain ⟨hS0, hS1⟩ := hS; go_simp; first | done | with_reducible rfl)); simp only [Act.put, List.setIfInBounds_toArray, List.set_cons_zero, List.set_cons_succ])
            refine plan_do rfl fun K hK => ?_
            go_simp
            have F2 : Fr (fun j => j = bl) wr (wr.drew.setCell ⟨bl, 0, none⟩ (.int .i64 f)) := Fr.setCell (S := fun j => j = bl) ((Fr.refl _ _).drew) (a := ⟨bl, 0, none⟩) (fun _ => rfl) _
            refine hK _ _ ⟨(World.cell?_of_block (w := wr) (F2.block b (World.block_lt_of_cell? _ _ c3) HT.out.ne2)).trans c3, (World.cell?_of_block (w := wr) (F2.block bw (World.block_lt_of_cell? _ _ c1) hbw4.symm)).trans c1⟩ ?_
            clear hK K
            refine plan_nil ?_
            go_wp2_with fail
            go_ret
            have T := HT.out
            rw [hh]
            have hT' : TreeIs (wr.drew.setCell ⟨bl, 0, none⟩ (.int .i64 f)) lessV b bs cs bh bl k V h (fun j => if j = 0 then f else worst h (win h k (2 * j)) (win h k (2 * j + 1))) := by
              refine ⟨F2.row T.tree T.ne2, F2.cells T.src T.ne4, F2.row T.hands T.ne5, ((show (wr.drew).rowIs bl 3 k _ from T.lost).set 0 (.int .i64 f)).congr fun j hj => ?_, T.small, T.ne1, T.ne2, T.ne3, T.ne4, T.ne5⟩
              show (if j = 0 then _ else _) = _
              by_cases hj0 : j = 0
              · rw [if_pos hj0, if_pos hj0]
              · rw [if_neg hj0, if_neg hj0, if_pos (by omega)]
            refine ⟨b, bs, cs, bh, bl, _, rfl, hT', fun _ => ⟨Hf.out.symm, fun i h1 h2 => ?_⟩, R.keep _ _ _ _ HI.out F2 (fun k hk h => (HD.out k h).2.2.2.1 hk), HF.out.fresh F2 (fun j hj h => by omega), hb1, hb2, hb3, hb4⟩
            show (if i = 0 then _ else _) = _
            rw [if_neg (by omega)]
          · have c3 : wr.cell? ⟨b, 3, none⟩ = some (.slice (some ⟨bl, 0, none⟩) k k) := HT.out.tree.cell (i := 3) (by omega)
            have c1 := HR.out.cell (i := 2 * q) (by omega)
            have c2 := HR.out.cell (i := 2 * q + 1) (by omega)
            rw [if_pos (by omega)] at c1 c2
            have hs1 := (win_spec h k (2 * k) (2 * q) (by omega) (by omega) (by omega)).1
            have hs2 := (win_spec h k (2 * k) (2 * q + 1) (by omega) (by omega) (by omega)).1
            have hpl := play_any wr.drew b bs cs bh bl k V h _ (HT.out.keep ((Fr.refl (fun _ => False) wr).drew) id id id id) _ _ hs1 hs2
            have hwn := win_node h k q (by omega) hq
            obtain ⟨x, hx⟩ : ∃ x, win h k (2 * q) = x := ⟨_, rfl⟩
            obtain ⟨y, hy⟩ : ∃ y, win h k (2 * q + 1) = y := ⟨_, rfl⟩
            rw [hx, hy] at hpl hwn
            rw [hx] at hs1 c1
            rw [hy] at hs2 c2
            obtain ⟨u, hu⟩ : ∃ u, best h x y = u := ⟨_, rfl⟩
            obtain ⟨v, hv⟩ : ∃ v, worst h x y = v := ⟨_, rfl⟩
            rw [hu, hv] at hpl
            rw [hu] at hwn
            have HP := hid' hpl
            have HW := hid' hwn
            have HX := hid' hx
            have HY := hid' hy
            have HU := hid' hu
            have HV := hid' hv
            clear hpl hwn hx hy hu hv
            have wr1 : IntKind.i64.wrap (2 * (q : Int)) = 2 * (q : Int) := IntWalk.i64_in _ (by omega)
            have wr2 : IntKind.i64.wrap (2 * (q : Int) + 1) = 2 * (q : Int) + 1 := IntWalk.i64_in _ (by omega)
            have n1 : (2 * (q : Int)).toNat = 2 * q := by omega
            have n2 : (2 * (q : Int) + 1).toNat = 2 * q + 1 := by omega
            have i1 : 0 ≤ 2 * (q : Int) := by omega
            have i2 : 0 ≤ 2 * (q : Int) + 1 := by omega
            have i3 : 2 * (q : Int) < 2 * (k : Int) := by omega
            have i4 : 2 * (q : Int) + 1 < 2 * (k : Int) := by omega
            have i5 : (q : Int) < 2 * (k : Int) := by omega
            go_upto_region 13 with (fail)
            refine wp_plan (fun w' => w'.cell? ⟨b, 3, none⟩ = some (.slice (some ⟨bl, 0, none⟩) k k) ∧ w'.cell? ⟨bw, 2 * q, none⟩ = some (.int .i64 x) ∧ w'.cell? ⟨bw, 2 * q + 1, none⟩ = some (.int .i64 y)) [(0, true), (1, true), (2, true), (3, true), (4, true), (5, true), (6, true), (7, true), (8, true), (9, true), (10, true), (11, true), (12, true), (13, true), (14, true), (15, true), (16, true), (17, true), (18, true), (19, false), (20, true), (21, true), (22, true), (23, true), (24, false), (25, true), (26, false)] _ (by kernel_rfl) (by kernel_rfl) (by simp only [planOps, List.getElem?_toArray, List.getElem?_cons_zero, List.getElem?_cons_succ]; rfl) ⟨c3, c1, c2⟩ ?_
            iterate 19 (refine plan_take (v := ?_) rfl ?_ ?_; rotate_left; (focus (intro _ hS; obtain ⟨hS0, hS1, hS2⟩ := hS; go_simp; first | done | with_reducible rfl)); simp only [Act.put, List.setIfInBounds_toArray, List.set_cons_zero, List.set_cons_succ])
            refine plan_do rfl fun K hK => ?_
            go_simp
            go_at_call 20
            refine HP.out.mono ?_
            rintro e w4 ⟨rfl, hf4⟩
            simp only []
            have f0 : Fr (fun _ => False) wr w4 := (Fr.refl _ wr).drew.trans hf4
            have R4 := f0.row HR.out id
            have T4 := HT.out.keep f0 id id id id
            have c3' : w4.cell? ⟨b, 3, none⟩ = some (.slice (some ⟨bl, 0, none⟩) k k) := T4.tree.cell (i := 3) (by omega)
            have k1 : w4.cell? ⟨bw, 2 * q, none⟩ = some (.int .i64 x) := (World.cell?_of_block (w := wr) (f0.block bw (World.block_lt_of_cell? _ _ c1) id)).trans c1
            have k2 : w4.cell? ⟨bw, 2 * q + 1, none⟩ = some (.int .i64 y) := (World.cell?_of_block (w := wr) (f0.block bw (World.block_lt_of_cell? _ _ c1) id)).trans c2
            have kq := R4.cell (i := q) (by omega)
            have fq := R4.frozen q
            have lq := T4.lost.cell (i := q) (by omega)
            have gq := T4.lost.frozen q
            refine hK _ _ ⟨c3', k1, k2⟩ ?_
            have HR4 := hid' R4
            have HT4 := hid' T4
            have HF4 := hid' f0
            clear hK K R4 T4 f0 hf4
            iterate 4 (refine plan_take (v := ?_) rfl ?_ ?_; rotate_left; (focus (intro _ hS; obtain ⟨hS0, hS1, hS2⟩ := hS; go_simp; first | done | with_reducible rfl)); simp only [Act.put, List.setIfInBounds_toArray, List.set_cons_zero, List.set_cons_succ])
            refine plan_do rfl fun K hK => ?_
            go_simp
            have R5 := HR4.out.set q (.int .i64 u)
            have F5 : Fr (fun j => j = bw) w4 (w4.setCell ⟨bw, q, none⟩ (.int .i64 u)) := Fr.setCell (S := fun j => j = bw) (Fr.refl _ _) (a := ⟨bw, q, none⟩) (fun _ => rfl) _
            have T5 := HT4.out.keep F5 hbw1 hbw2 hbw3 hbw4
            obtain ⟨w5, hw5⟩ : ∃ w5, w4.setCell ⟨bw, q, none⟩ (.int .i64 u) = w5 := ⟨_, rfl⟩
            rw [hw5] at R5 F5 T5 ⊢
            have k3 : w5.cell? ⟨b, 3, none⟩ = some (.slice (some ⟨bl, 0, none⟩) k k) := T5.tree.cell (i := 3) (by omega)
            have k1' := R5.cell (i := 2 * q) (by omega)
            have k2' := R5.cell (i := 2 * q + 1) (by omega)
            rw [if_neg (by omega), if_pos (by omega), HX.out] at k1'
            rw [if_neg (by omega), if_pos (by omega), HY.out] at k2'
            have lq' := T5.lost.cell (i := q) (by omega)
            have gq' := T5.lost.frozen q
            refine hK _ _ ⟨k3, k1', k2'⟩ ?_
            have HR5 := hid' R5
            have HT5 := hid' T5
            have HF5 := hid' F5
            clear hK K R5 T5 F5 hw5 c3' k1 k2 kq fq lq gq
            (refine plan_take (v := ?_) rfl ?_ ?_; rotate_left; (focus (intro _ hS; obtain ⟨hS0, hS1, hS2⟩ := hS; go_simp; first | done | with_reducible rfl)); simp only [Act.put, List.setIfInBounds_toArray, List.set_cons_zero, List.set_cons_succ])
            refine plan_do rfl fun K hK => ?_
            go_simp
            have T6 := HT5.out.lost.set q (.int .i64 v)
            have F6 : Fr (fun j => j = bl) w5 (w5.setCell ⟨bl, q, none⟩ (.int .i64 v)) := Fr.setCell (S := fun j => j = bl) (Fr.refl _ _) (a := ⟨bl, q, none⟩) (fun _ => rfl) _
            obtain ⟨w6, hw6⟩ : ∃ w6, w5.setCell ⟨bl, q, none⟩ (.int .i64 v) = w6 := ⟨_, rfl⟩
            rw [hw6] at F6 T6 ⊢
            refine hK _ _ ⟨(World.cell?_of_block (w := w5) (F6.block b (World.block_lt_of_cell? _ _ k3) HT5.out.ne2)).trans k3, (World.cell?_of_block (w := w5) (F6.block bw (World.block_lt_of_cell? _ _ k1') hbw4.symm)).trans k1', (World.cell?_of_block (w := w5) (F6.block bw (World.block_lt_of_cell? _ _ k1') hbw4.symm)).trans k2'⟩ ?_
            have HL6 := hid' T6
            have HF6 := hid' F6
            clear hK K T6 F6 hw6 k3 k1' k2' lq' gq' c3 c1 c2
            refine plan_nil ?_
            go_wp2_with fail
            go_roundw
            case rel =>
              have T5 := HT5.out
              have f7 : Fr (fun j => j = bw ∨ j = bl) wr w6 := (HF4.out.mono fun _ _ h => h.elim).trans ((HF5.out.mono fun _ _ h => .inl h).trans (HF6.out.mono fun _ _ h => .inr h))
              refine ⟨q - 1, by omega, congrArg _ (by omega), ⟨HF6.out.row T5.tree T5.ne2, HF6.out.cells T5.src T5.ne4, HF6.out.row T5.hands T5.ne5, HL6.out.congr fun j hj => ?_, T5.small, T5.ne1, T5.ne2, T5.ne3, T5.ne4, T5.ne5⟩, (HF6.out.row HR5.out hbw4.symm).congr fun j hj => ?_, R.keep _ _ _ _ HI.out f7 (fun j hj h => hj.elim (fun e => (HD.out j h).2.2.2.2 e) (fun e => (HD.out j h).2.2.2.1 e)), HF.out.fresh f7 (fun j hj h => by have h2 : j = bw ∨ j = bl := h; omega)⟩
              · show (if j = q then _ else _) = _
                by_cases hj0 : j = q
                · subst hj0
                  rw [if_pos rfl, if_pos (by omega), HX.out, HY.out, HV.out]
                · rw [if_neg hj0]
                  by_cases hj1 : q < j ∧ j < k
                  · rw [if_pos hj1, if_pos (by omega)]
                  · rw [if_neg hj1, if_neg (by omega)]
              · show (if j = q then _ else _) = _
                by_cases hj0 : j = q
                · subst hj0
                  rw [if_pos rfl, if_pos (by omega), HW.out]
                · rw [if_neg hj0]
                  by_cases hj1 : q < j
                  · rw [if_pos hj1, if_pos (by omega)]
                  · rw [if_neg hj1, if_neg (by omega)]
            case measure => simp [intOf]; omega

end Go.Proofs.Ytiakgffanplmdaa

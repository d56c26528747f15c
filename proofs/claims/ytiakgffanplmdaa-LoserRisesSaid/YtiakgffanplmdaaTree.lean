/- The tree of losers at int: what it is in memory; contracts of less, play, Live, ask. -/
import Derived.Test.YtiakgffanplmdaaMem
import Derived.Test.YtiakgffanplmdaaO
import Derived.Test.YtiakgffanplmdaaPure
import Derived.Deep.DeepCutAuto
import Derived.Deep.CutBlock
import Derived.Deep.RegionHeld3
namespace Go.Proofs.Ytiakgffanplmdaa
open Go.RowKit Go.Deep

/-- The cells of the hands. -/
def hcell (h : Nat → Int × Bool) (j : Nat) : Value := if j % 2 = 0 then .int .i64 (h (j / 2)).1 else .bool (h (j / 2)).2

theorem hcell_even (h : Nat → Int × Bool) (a : Nat) : hcell h (a * 2) = .int .i64 (h a).1 := by
  unfold hcell
  rw [if_pos (by omega), show a * 2 / 2 = a by omega]

theorem hcell_odd (h : Nat → Int × Bool) (a : Nat) : hcell h (a * 2 + 1) = .bool (h a).2 := by
  unfold hcell
  rw [if_neg (by omega), show (a * 2 + 1) / 2 = a by omega]

/-- The four cells of the tree. -/
def tcell (less : Value) (bs cs bh bl n : Nat) (j : Nat) : Value :=
  match j with
  | 0 => less
  | 1 => .slice (some ⟨bs, 0, none⟩) n cs
  | 2 => .slice (some ⟨bh, 0, none⟩) n n
  | _ => .slice (some ⟨bl, 0, none⟩) n n

/-- The first n cells of a block. -/
structure Cells (w : World) (b n : Nat) (V : Nat → Value) : Prop where
  lt : b < w.heap.size
  cell : ∀ i, i < n → w.cell? ⟨b, i, none⟩ = some (V i)

theorem Fr.cells {S : Nat → Prop} {w w' : World} (f : Fr S w w') {b n : Nat} {V : Nat → Value} (h : Cells w b n V) (hs : ¬ S b) : Cells w' b n V :=
  ⟨Nat.lt_of_lt_of_le h.lt f.size, fun i hi => (World.cell?_of_block (w := w) (f.block b h.lt hs)).trans (h.cell i hi)⟩

/-- A tree in memory: block b; the sources V in block bs, the hands h in bh, who lost in bl. -/
structure TreeIs (w : World) (less : Value) (b bs cs bh bl n : Nat) (V : Nat → Value) (h : Nat → Int × Bool) (lost : Nat → Nat) : Prop where
  tree : w.rowIs b 55 4 (tcell less bs cs bh bl n)
  src : Cells w bs n V
  hands : w.rowIs bh 60 (n * 2) (hcell h)
  lost : w.rowIs bl 3 n (fun i => .int .i64 (lost i))
  small : n ≤ 1000
  ne1 : b ≠ bh
  ne2 : b ≠ bl
  ne3 : bs ≠ bh
  ne4 : bs ≠ bl
  ne5 : bh ≠ bl

theorem TreeIs.keep {w w' : World} {S : Nat → Prop} {less : Value} {b bs cs bh bl n : Nat} {V : Nat → Value} {h : Nat → Int × Bool} {lost : Nat → Nat}
    (T : TreeIs w less b bs cs bh bl n V h lost) (f : Fr S w w') (h1 : ¬ S b) (h2 : ¬ S bs) (h3 : ¬ S bh) (h4 : ¬ S bl) : TreeIs w' less b bs cs bh bl n V h lost :=
  ⟨f.row T.tree h1, f.cells T.src h2, f.row T.hands h3, f.row T.lost h4, T.small, T.ne1, T.ne2, T.ne3, T.ne4, T.ne5⟩

theorem less_any (x y : Int) (w : World) : Calls Try.prog 8 #[.int .i64 x, .int .i64 y] w fun e w' => e = .returned (.bool (decide (x < y))) ∧ w = w' := by
  go_enter Try.func8, Try.ntmps8
  go_wp2
  go_ret
  exact ⟨rfl, rfl⟩

abbrev lessV : Value := .func (.func 8) #[] #[]

set_option maxHeartbeats 1000000 in
theorem play_any (w : World) (b bs cs bh bl n : Nat) (V : Nat → Value) (h : Nat → Int × Bool) (lost : Nat → Nat) (T : TreeIs w lessV b bs cs bh bl n V h lost) (p q : Nat) (hp : p < n) (hq : q < n) :
    Calls Try.prog 20 #[.pointer (some ⟨b, 0, none⟩), .int .i64 p, .int .i64 q] w fun e w' => e = .returned (.tuple #[.int .i64 (best h p q : Nat), .int .i64 (worst h p q : Nat)]) ∧ Fr (fun _ => False) w w' := by
  have c0 : w.cell? ⟨b, 0, none⟩ = some lessV := T.tree.cell (i := 0) (by omega)
  have c2 : w.cell? ⟨b, 2, none⟩ = some (.slice (some ⟨bh, 0, none⟩) n n) := T.tree.cell (i := 2) (by omega)
  have d0 := T.hands.cell (i := p * 2) (by omega)
  have d1 := T.hands.cell (i := p * 2 + 1) (by omega)
  have e0 := T.hands.cell (i := q * 2) (by omega)
  have e1 := T.hands.cell (i := q * 2 + 1) (by omega)
  rw [hcell_even] at d0 e0
  rw [hcell_odd] at d1 e1
  have hn := T.small
  obtain ⟨x, hx⟩ : ∃ x, h p = x := ⟨_, rfl⟩
  obtain ⟨y, hy⟩ : ∃ y, h q = y := ⟨_, rfl⟩
  obtain ⟨x, lx⟩ := x
  obtain ⟨y, ly⟩ := y
  rw [hx] at d0 d1
  rw [hy] at e0 e1
  have HX := hid' hx
  have HY := hid' hy
  clear hx hy T
  go_enter Try.func20, Try.ntmps20
  go_upto_region 1 with (fail)
  go_cut [8, 9] (fun s t wx => ∃ u v : Nat, s = .pointer (some ⟨u, 0, none⟩) ∧ t = .pointer (some ⟨v, 0, none⟩) ∧ Fr (fun _ => False) w wx ∧
    wx.cell? ⟨u, 0, none⟩ = some (.int .i64 x) ∧ wx.cell? ⟨u, 1, none⟩ = some (.bool lx) ∧ wx.cell? ⟨v, 0, none⟩ = some (.int .i64 y) ∧ wx.cell? ⟨v, 1, none⟩ = some (.bool ly))
  case first =>
    go_region_held3 (fun w' => w'.cell? ⟨b, 2, none⟩ = some (.slice (some ⟨bh, 0, none⟩) n n) ∧ w'.cell? ⟨bh, p * 2, none⟩ = some (.int .i64 x) ∧ w'.cell? ⟨bh, p * 2 + 1, none⟩ = some (.bool lx) ∧ w'.cell? ⟨bh, q * 2, none⟩ = some (.int .i64 y) ∧ w'.cell? ⟨bh, q * 2 + 1, none⟩ = some (.bool ly)) (go_keep) (fail)
    all_goals (go_wp2_with fail; go_meet)
    case rel => exact ⟨_, _, rfl, rfl, (((Fr.refl _ w).alloc _).alloc _).drew, by simp, by simp, by simp, by simp⟩
    case rel => exact ⟨_, _, rfl, rfl, (((Fr.refl _ w).alloc _).alloc _).drew, by simp, by simp, by simp, by simp⟩
  case rest =>
    obtain ⟨u, v, rfl, rfl, hfr, cu0, cu1, cv0, cv1⟩ := hcut
    have c0' : wc.cell? ⟨b, 0, none⟩ = some lessV := (World.cell?_of_block (w := w) (hfr.block b (World.block_lt_of_cell? _ _ c0) id)).trans c0
    have HF := hid' hfr
    clear c0 c2 d0 d1 e0 e1 hfr
    cases lx with
    | true =>
      cases ly with
      | true =>
        by_cases hxy : x < y
        · have HAH := hid' (show ahead h p q = true by unfold ahead; rw [HX.out, HY.out]; simp [hxy])
          go_wp2_with fail
          go_quiet ((go_at_call 8; refine (less_any _ _ _).mono ?_; rintro e w' ⟨rfl, rfl⟩; exact ⟨rfl, _, rfl⟩))
          go_wp2_with fail
          go_ret2
          exact ⟨by rw [best_true h p q HAH.out, worst_true h p q HAH.out]; rfl, HF.out.drewN _⟩
        · by_cases hyx : y < x
          · have HAH := hid' (show ahead h p q = false by unfold ahead; rw [HX.out, HY.out]; simp [hxy, hyx])
            go_wp2_with fail
            go_quiet ((go_at_call 8; refine (less_any _ _ _).mono ?_; rintro e w' ⟨rfl, rfl⟩; exact ⟨rfl, _, rfl⟩))
            go_wp2_with fail
            go_quiet ((go_at_call 8; refine (less_any _ _ _).mono ?_; rintro e w' ⟨rfl, rfl⟩; exact ⟨rfl, _, rfl⟩))
            go_wp2_with fail
            go_ret2
            exact ⟨by rw [best_false h p q HAH.out, worst_false h p q HAH.out]; rfl, (HF.out.drewN _).drewN _⟩
          · have HM := hid' (best_tie h p q (by unfold ahead; rw [HX.out, HY.out]; simp [hxy, hyx]))
            rcases Nat.lt_trichotomy p q with h1 | rfl | h1
            · go_wp2_with fail
              go_quiet ((go_at_call 8; refine (less_any _ _ _).mono ?_; rintro e w' ⟨rfl, rfl⟩; exact ⟨rfl, _, rfl⟩))
              go_wp2_with fail
              go_quiet ((go_at_call 8; refine (less_any _ _ _).mono ?_; rintro e w' ⟨rfl, rfl⟩; exact ⟨rfl, _, rfl⟩))
              go_wp2_with fail
              go_ret2
              exact ⟨by rw [HM.out.1, HM.out.2, show min p q = p by omega, show max p q = q by omega]; rfl, HF.out.drewN _⟩
            · go_wp2_with fail
              go_quiet ((go_at_call 8; refine (less_any _ _ _).mono ?_; rintro e w' ⟨rfl, rfl⟩; exact ⟨rfl, _, rfl⟩))
              go_wp2_with fail
              go_quiet ((go_at_call 8; refine (less_any _ _ _).mono ?_; rintro e w' ⟨rfl, rfl⟩; exact ⟨rfl, _, rfl⟩))
              go_wp2_with fail
              go_ret2
              exact ⟨by rw [HM.out.1, HM.out.2, show min p p = p by omega, show max p p = p by omega]; rfl, HF.out.drewN _⟩
            · go_wp2_with fail
              go_quiet ((go_at_call 8; refine (less_any _ _ _).mono ?_; rintro e w' ⟨rfl, rfl⟩; exact ⟨rfl, _, rfl⟩))
              go_wp2_with fail
              go_quiet ((go_at_call 8; refine (less_any _ _ _).mono ?_; rintro e w' ⟨rfl, rfl⟩; exact ⟨rfl, _, rfl⟩))
              go_wp2_with fail
              go_ret2
              exact ⟨by rw [HM.out.1, HM.out.2, show min p q = q by omega, show max p q = p by omega]; rfl, HF.out.drewN _⟩
      | false =>
        have HAH := hid' (show ahead h p q = true by unfold ahead; rw [HX.out, HY.out]; simp)
        go_wp2_with fail
        go_ret2
        exact ⟨by rw [best_true h p q HAH.out, worst_true h p q HAH.out]; rfl, HF.out⟩
    | false =>
      cases ly with
      | true =>
        have HAH := hid' (show ahead h p q = false by unfold ahead; rw [HX.out, HY.out]; simp)
        go_wp2_with fail
        go_ret2
        exact ⟨by rw [best_false h p q HAH.out, worst_false h p q HAH.out]; rfl, HF.out⟩
      | false =>
        have HM := hid' (best_tie h p q (by unfold ahead; rw [HX.out, HY.out]; simp))
        rcases Nat.lt_trichotomy p q with h1 | rfl | h1
        · go_wp2_with fail
          go_quiet (fail)
          go_wp2_with fail
          go_quiet (fail)
          go_wp2_with fail
          go_ret2
          exact ⟨by rw [HM.out.1, HM.out.2, show min p q = p by omega, show max p q = q by omega]; rfl, HF.out.drewN _⟩
        · go_wp2_with fail
          go_quiet (fail)
          go_wp2_with fail
          go_quiet (fail)
          go_wp2_with fail
          go_ret2
          exact ⟨by rw [HM.out.1, HM.out.2, show min p p = p by omega, show max p p = p by omega]; rfl, HF.out.drewN _⟩
        · go_wp2_with fail
          go_quiet (fail)
          go_wp2_with fail
          go_quiet (fail)
          go_wp2_with fail
          go_ret2
          exact ⟨by rw [HM.out.1, HM.out.2, show min p q = q by omega, show max p q = p by omega]; rfl, HF.out.drewN _⟩

end Go.Proofs.Ytiakgffanplmdaa

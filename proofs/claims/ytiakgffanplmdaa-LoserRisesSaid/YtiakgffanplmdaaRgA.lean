/- The contract of All: the iterator over a tree of losers. -/
import Derived.Test.YtiakgffanplmdaaRg
import Derived.Test.YtiakgffanplmdaaRiP
namespace Go.Proofs.Ytiakgffanplmdaa
open Go.RowKit Go.Deep
attribute [local go_sem] Oper.semAt_some

/-- The state of the iterator. -/
def StA (D : Src) (n b bs cs bh bl bx : Nat) (at_ : Nat → Nat) (w : World) : Prop :=
  Run D n b bs cs bh bl at_ w ∧ (∀ j, j < n → at_ j ≤ (D.ls j).length) ∧ w.rowIs bx 22 1 (fun _ => .pointer (some ⟨b, 0, none⟩))

def SA (D : Src) (n bh bl : Nat) (k : Nat) : Prop := Own D n k ∨ k = bh ∨ k = bl

/-- How many are still to come. -/
def left (D : Src) (n : Nat) (at_ : Nat → Nat) : Nat := sumN (fun j => (D.ls j).length) n - sumN at_ n

open Classical in
/-- The least number that p holds of. -/
noncomputable def leastOf (p : Nat → Prop) : Nat := if h : ∃ m, p m ∧ ∀ k, p k → m ≤ k then Classical.choose h else 0

theorem least_ex (p : Nat → Prop) {m : Nat} (h : p m) : ∃ m, p m ∧ ∀ k, p k → m ≤ k := by
  induction m using Nat.strongRecOn with
  | ind m ih =>
    by_cases hc : ∀ k, p k → m ≤ k
    · exact ⟨m, h, hc⟩
    · have : ∃ k, p k ∧ k < m := Classical.byContradiction fun hn => hc fun k hk => Nat.le_of_not_lt fun hlt => hn ⟨k, hk, hlt⟩
      obtain ⟨k, hk, hlt⟩ := this
      exact ih k hlt hk

theorem leastOf_spec (p : Nat → Prop) {m : Nat} (h : p m) : p (leastOf p) ∧ ∀ k, p k → leastOf p ≤ k := by
  have he := least_ex p h
  unfold leastOf
  rw [dif_pos he]
  exact Classical.choose_spec he

set_option maxRecDepth 100000 in
set_option maxHeartbeats 2000000 in
theorem all_seq (n : Nat) (hn : 2 ≤ n) (D : Src) (k b bs cs bh bl bx : Nat) (hbx : ∀ q, SA D k bh bl q → q ≠ bx) :
    SeqT Fence.wide n Try.prog 25 #[.pointer (some ⟨bx, 0, none⟩)] (fun x : Int => #[Value.int .i64 x]) (SA D k bh bl) (StA D k b bs cs bh bl bx) (Step D k) (fun at_ => liveN (peek D k at_) k = 0) := by
  intro l J Jx W s0 hJ hY h0 h0'
  refine callsIn_of_wp Try.func25 rfl trivial ?_ rfl
  simp only [Try.ntmps25, List.size_toArray, List.length_cons, List.length_nil, Nat.reduceAdd, Nat.reduceSub, Array.replicate_succ, Array.replicate_zero, List.push_toArray, List.append_toArray, List.nil_append, List.cons_append]
  have HJ := hid' hJ
  have HY := hid' hY
  have H0 := hid' h0
  have H00 := hid' h0'
  clear hJ hY h0 h0'
  gi_wp2_with fail
  gi_loopw [5] (fun v wr => ∃ at_, StA D k b bs cs bh bl bx at_ wr ∧ J at_ wr) (fun v wr => leastOf (fun m => ∃ at_, StA D k b bs cs bh bl bx at_ wr ∧ J at_ wr ∧ left D k at_ = m))
  case atStart => exact ⟨s0, H0.out, H00.out⟩
  case round =>
    obtain ⟨at0, hs0, hj0⟩ := hrel
    obtain ⟨⟨at_, hs, hj, hm⟩, hmin⟩ := leastOf_spec (fun m => ∃ at_, StA D k b bs cs bh bl bx at_ wr ∧ J at_ wr ∧ left D k at_ = m) ⟨at0, hs0, hj0, rfl⟩
    have cbx := hs.2.2.cell (i := 0) (by decide)
    have HS := hid' hs
    have HJ1 := hid' hj
    have HM := hid' hm
    clear hs hj hm hmin hs0 hj0 at0
    by_cases hL : liveN (peek D k at_) k = 0
    · have HN := hid' (run_none HS.out.1 hL)
      have HL := hid' hL
      clear hL
      gi_wp2_with fail
      refine ⟨trivial, fun _ => by omega, ?_⟩
      refine (callsIn_wide.2 HN.out).mono ?_
      rintro e w7 ⟨rfl, f7⟩
      have HF7 := hid' f7
      clear f7 HN
      gi_wp2_with fail
      refine ⟨fun _ h => (by cases h), ?_⟩
      gi_wp2_with fail
      refine bodyPost_ret (results_none rfl _ _ _) rfl ?_
      have hs := HS.out
      have hL := HL.out
      exact ⟨⟨_, rfl⟩, .inl ⟨at_, hL, ⟨hs.1.keep HF7.out (fun _ h => h.elim), hs.2.1, HF7.out.row hs.2.2 id⟩, HJ.out _ _ _ HJ1.out (HF7.out.mono fun _ _ h => h.elim)⟩⟩
    · obtain ⟨f, x, hf, hx, hst⟩ := step_of_live D k at_ hL
      have HN := hid' (run_some HS.out.1 hL hf hx)
      have HST := hid' hst
      clear hL hf hx hst
      gi_wp2_with fail
      refine ⟨trivial, fun _ => by omega, ?_⟩
      refine (callsIn_wide.2 HN.out).mono ?_
      rintro e w7 ⟨rfl, hR7, f7⟩
      have cbx7 : w7.cell? ⟨bx, 0, none⟩ = some (.pointer (some ⟨b, 0, none⟩)) := (f7.row HS.out.2.2 (fun h => hbx _ h rfl)).cell (i := 0) (by decide)
      have hs7 : StA D k b bs cs bh bl bx (more at_ f) w7 := ⟨hR7, HST.out.le HS.out.2.1, f7.row HS.out.2.2 (fun h => hbx _ h rfl)⟩
      obtain ⟨fn, tmps, assign, body, hy, hR⟩ := HY.out at_ x (more at_ f) wr w7 HST.out hs7 HJ1.out f7
      have HF7 := hid' f7
      have HR := hid' hR
      clear f7 HN hR7 hR hs7 cbx
      gi_wp2_with fail
      refine ⟨fun _ => by omega, ?_⟩
      refine HR.out.mono ?_
      rintro e W3 (⟨rfl, hs3, hJ3⟩ | ⟨rfl, hJx3⟩)
      · have HS3 := hid' hs3
        have HJ3 := hid' hJ3
        clear hs3 hJ3 HR
        gi_wp2_with fail
        go_roundw
        case rel => exact ⟨_, HS3.out, HJ3.out⟩
        case measure =>
          have h1 := (leastOf_spec (fun m => ∃ at_, StA D k b bs cs bh bl bx at_ W3 ∧ J at_ W3 ∧ left D k at_ = m) ⟨_, HS3.out, HJ3.out, rfl⟩).2 _ ⟨_, HS3.out, HJ3.out, rfl⟩
          have h2 := HM.out
          have h3 := HST.out.sum
          have h4 := sumN_le (q := more at_ f) (q' := fun j => (D.ls j).length) k (HST.out.le HS.out.2.1)
          have e1 : left D k (more at_ f) = sumN (fun j => (D.ls j).length) k - sumN (more at_ f) k := rfl
          have e2 : left D k at_ = sumN (fun j => (D.ls j).length) k - sumN at_ k := rfl
          omega
      · have HJX := hid' hJx3
        clear hJx3 HR
        gi_wp2_with fail
        refine bodyPost_ret (results_none rfl _ _ _) rfl ?_
        exact ⟨⟨_, rfl⟩, .inr ⟨_, HJX.out⟩⟩

end Go.Proofs.Ytiakgffanplmdaa

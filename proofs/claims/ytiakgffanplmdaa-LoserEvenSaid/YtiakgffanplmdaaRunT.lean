/- The sources of things at work: New, Next over them. -/
import Derived.Test.YtiakgffanplmdaaSrcT
namespace Go.Proofs.Ytiakgffanplmdaa.T
open Go.RowKit Go.Deep

/-- One source more. -/
def Src.add (D : Src) (n T L : Nat) (sl : Value) (ls : List Th) (db cap : Nat) : Src where
  T j := if j = n then T else D.T j
  L j := if j = n then L else D.L j
  sl j := if j = n then sl else D.sl j
  ls j := if j = n then ls else D.ls j
  db j := if j = n then db else D.db j
  cap j := if j = n then cap else D.cap j

/-- One source more in memory: its boxes and its list are new. -/
theorem holds_add {D : Src} {n : Nat} {w w' : World} {S : Nat → Prop} (H : Holds D n (fun _ => 0) w) (f : Fr S w w') (hS : ∀ k, S k → w.heap.size ≤ k) {T L : Nat} {sl : Value} {ls : List Th} {db cap : Nat}
    (hT : w.heap.size ≤ T) (hL : w.heap.size ≤ L) (hdb : w.heap.size ≤ db) (hTL : T ≠ L) (hTd : T ≠ db)
    (rT : w'.rowIs T 3 1 (fun _ => .int .i64 0)) (rL : w'.rowIs L 38 1 (fun _ => sl))
    (hl : (sl = .slice none 0 0 ∧ ls = []) ∨ (sl = .slice (some ⟨db, 0, none⟩) ls.length cap ∧ ∀ k x, ls[k]? = some x →
      w'.cell? ⟨db, k * 3, none⟩ = some (.int .i64 x.1) ∧ w'.cell? ⟨db, k * 3 + 1, none⟩ = some (.int .i64 x.2.1) ∧ w'.cell? ⟨db, k * 3 + 2, none⟩ = some (.int .i64 x.2.2)))
    (h4 : ls.length ≤ 1000) (h5 : db < w'.heap.size) :
    Holds (D.add n T L sl ls db cap) (n + 1) (fun _ => 0) w' := by
  have lt : ∀ j, j < n + 1 → j < n ∨ j = n := fun j h => by omega
  have hno : ∀ k, k < w.heap.size → ¬ S k := fun k hk h => by have := hS k h; omega
  refine ⟨fun j hj => ?_, fun j hj => ?_, fun j hj => ?_, fun j hj k hk => ?_, fun j hj k hk hne => ?_, fun j hj k hk => ?_, fun j hj => ?_, fun j hj => ?_⟩
  · rcases lt j hj with h | rfl
    · simp only [Src.add, if_neg (show ¬ j = n by omega)]; exact f.row (H.t j h) (hno _ (H.t j h).lt)
    · simp only [Src.add, if_pos]; exact rT.congr fun i _ => by simp
  · rcases lt j hj with h | rfl
    · simp only [Src.add, if_neg (show ¬ j = n by omega)]; exact f.row (H.l j h) (hno _ (H.l j h).lt)
    · simp only [Src.add, if_pos]; exact rL
  · rcases lt j hj with h | rfl
    · simp only [Lies, Src.add, if_neg (show ¬ j = n by omega)]; exact fr_lies f (H.d j h) (H.dl j h) (hno _ (H.dl j h))
    · simp only [Lies, Src.add, if_pos]; exact hl
  · rcases lt j hj with h | rfl <;> rcases lt k hk with h' | rfl
    · simp only [Src.add, if_neg (show ¬ j = n by omega), if_neg (show ¬ k = n by omega)]; exact H.tl j h k h'
    · have := (H.t j h).lt; simp only [Src.add, if_neg (show ¬ j = k by omega), if_pos]; omega
    · have := (H.l k h').lt; simp only [Src.add, if_neg (show ¬ k = j by omega), if_pos]; omega
    · simp only [Src.add, if_pos]; exact hTL
  · rcases lt j hj with h | rfl <;> rcases lt k hk with h' | rfl
    · simp only [Src.add, if_neg (show ¬ j = n by omega), if_neg (show ¬ k = n by omega)]; exact H.tt j h k h' hne
    · have := (H.t j h).lt; simp only [Src.add, if_neg (show ¬ j = k by omega), if_pos]; omega
    · have := (H.t k h').lt; simp only [Src.add, if_neg (show ¬ k = j by omega), if_pos]; omega
    · exact absurd rfl hne
  · rcases lt j hj with h | rfl <;> rcases lt k hk with h' | rfl
    · simp only [Src.add, if_neg (show ¬ j = n by omega), if_neg (show ¬ k = n by omega)]; exact H.td j h k h'
    · have := (H.t j h).lt; simp only [Src.add, if_neg (show ¬ j = k by omega), if_pos]; omega
    · have := H.dl k h'; simp only [Src.add, if_neg (show ¬ k = j by omega), if_pos]; omega
    · simp only [Src.add, if_pos]; exact hTd
  · rcases lt j hj with h | rfl
    · simp only [Src.add, if_neg (show ¬ j = n by omega)]; exact H.sm j h
    · simp only [Src.add, if_pos]; exact h4
  · rcases lt j hj with h | rfl
    · simp only [Src.add, if_neg (show ¬ j = n by omega)]; exact Nat.lt_of_lt_of_le (H.dl j h) f.size
    · simp only [Src.add, if_pos]; exact h5

theorem holds_none (D : Src) (w : World) : Holds D 0 (fun _ => 0) w :=
  ⟨fun _ h => by omega, fun _ h => by omega, fun _ h => by omega, fun _ h => by omega, fun _ h => by omega, fun _ h => by omega, fun _ h => by omega, fun _ h => by omega⟩

/-- What stands at the head of each list. -/
def peek (D : Src) (n : Nat) (at_ : Nat → Nat) (j : Nat) : Th × Bool := if j < n then gives D at_ j else ((0, 0, 0), false)

theorem gives_congr {D : Src} {q q' : Nat → Nat} {j : Nat} (h : q j = q' j) : gives D q j = gives D q' j := by
  unfold gives
  simp only [h]

theorem dealt_peek (D : Src) (n : Nat) : dealt more (gives D) (fun _ => 0) n = peek D n (fun _ => 0) := by
  funext j
  unfold dealt peek
  split
  · refine gives_congr ?_
    rw [asked_more n]; simp
  · rfl

theorem upd_peek (D : Src) (n f : Nat) (at_ q : Nat → Nat) (hf : f < n) (hq : q f = at_ f + 1) : upd (peek D n at_) f (gives D q f) = peek D n (more at_ f) := by
  funext j
  unfold upd peek
  by_cases h : j = f
  · subst h
    rw [if_pos rfl, if_pos hf]
    exact gives_congr (by unfold more; rw [if_pos rfl, hq])
  · rw [if_neg h]
    split
    · exact gives_congr (by unfold more; rw [if_neg h])
    · rfl

/-- The tree over the sources, of which list j has been read up to at_ j. -/
structure Run (D : Src) (n b bs cs bh bl : Nat) (at_ : Nat → Nat) (w : World) : Prop where
  tree : ∃ lost, TreeIs w lessV b bs cs bh bl n (srcV D) (peek D n at_) lost ∧ (1 ≤ n → Kept (hn (peek D n at_)) n lost)
  src : ∃ q, Holds D n q w ∧ ∀ j, j < n → q j = at_ j + 1
  apart : ∀ k, Dep D n k → k ≠ b ∧ k ≠ bs ∧ k ≠ bh ∧ k ≠ bl

theorem Run.keep {D : Src} {n b bs cs bh bl : Nat} {at_ : Nat → Nat} {w w' : World} {S : Nat → Prop} (R : Run D n b bs cs bh bl at_ w) (f : Fr S w w') (hs : ∀ k, S k → ¬ Dep D n k ∧ k ≠ b ∧ k ≠ bs ∧ k ≠ bh ∧ k ≠ bl) : Run D n b bs cs bh bl at_ w' := by
  obtain ⟨lost, T, K⟩ := R.tree
  obtain ⟨q, H, hq⟩ := R.src
  exact ⟨⟨lost, T.keep f (fun h => (hs _ h).2.1 rfl) (fun h => (hs _ h).2.2.1 rfl) (fun h => (hs _ h).2.2.2.1 rfl) (fun h => (hs _ h).2.2.2.2 rfl), K⟩, ⟨q, H.keep f (fun k h => (hs k h).1), hq⟩, R.apart⟩

theorem run_new (D : Src) (n : Nat) (w : World) (a c : Nat) (hV : Cells w a n (srcV D)) (hsm : n ≤ 1000) (H : Holds D n (fun _ => 0) w) (hd : ∀ k, Dep D n k → k < w.heap.size) :
    Calls Try.prog 15 #[lessV, .slice (some ⟨a, 0, none⟩) n c] w fun e w' => ∃ b bs cs bh bl, e = .returned (.pointer (some ⟨b, 0, none⟩)) ∧ Run D n b bs cs bh bl (fun _ => 0) w' ∧ Fr (Own D n) w w' ∧
      w.heap.size ≤ b ∧ w.heap.size ≤ bs ∧ w.heap.size ≤ bh ∧ w.heap.size ≤ bl := by
  refine (new_any w a n c (srcV D) hV hsm (srcs D n) hd (fun _ => 0) H).mono ?_
  rintro e w' ⟨b, bs, cs, bh, bl, lost, rfl, T, K, I, f, h1, h2, h3, h4⟩
  rw [dealt_peek] at T K
  refine ⟨b, bs, cs, bh, bl, rfl, ⟨⟨lost, T, K⟩, ⟨_, I, fun j hj => by rw [asked_more n]; simp [hj]⟩, fun k hk => ?_⟩, f, h1, h2, h3, h4⟩
  have := hd k hk
  omega

theorem run_none {D : Src} {n b bs cs bh bl : Nat} {at_ : Nat → Nat} {w : World} (R : Run D n b bs cs bh bl at_ w) (h0 : liveN (hn (peek D n at_)) n = 0) :
    Calls Try.prog 17 #[.pointer (some ⟨b, 0, none⟩)] w fun e w' => e = .returned (.tuple #[thV (0, 0, 0), .int .i64 (-1), .bool false]) ∧ Fr (fun _ => False) w w' := by
  obtain ⟨lost, T, _⟩ := R.tree
  exact next_none T h0

theorem run_some {D : Src} {n b bs cs bh bl : Nat} {at_ : Nat → Nat} {w : World} (R : Run D n b bs cs bh bl at_ w) (h0 : liveN (hn (peek D n at_)) n ≠ 0) {f : Nat} (hf : win (hn (peek D n at_)) n 1 = f) {x : Th} (hx : (peek D n at_ f).1 = x) :
    Calls Try.prog 17 #[.pointer (some ⟨b, 0, none⟩)] w fun e w' => e = .returned (.tuple #[thV x, .int .i64 f, .bool true]) ∧ Run D n b bs cs bh bl (more at_ f) w' ∧ Fr (fun k => Own D n k ∨ k = bh ∨ k = bl) w w' := by
  obtain ⟨lost, T, K⟩ := R.tree
  obtain ⟨q, H, hq⟩ := R.src
  have hl := win_live _ _ h0
  subst hf hx
  refine (next_some T (srcs D n) R.apart (fun k h => H.lt k h) q H (K hl.1) h0).mono ?_
  rintro e w' ⟨rfl, ⟨lost', T', K'⟩, I, f⟩
  have e := upd_peek D n (win (hn (peek D n at_)) n 1) at_ q hl.2.1 (hq _ hl.2.1)
  rw [e] at T' K'
  refine ⟨rfl, ⟨⟨lost', T', fun _ => K'⟩, ⟨_, I, fun j hj => ?_⟩, R.apart⟩, f⟩
  unfold more
  split <;> rw [hq j hj]

end Go.Proofs.Ytiakgffanplmdaa.T

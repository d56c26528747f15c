/- Contracts of Live and ask; what sources are. -/
import Derived.Test.YtiakgffanplmdaaTree
namespace Go.Proofs.Ytiakgffanplmdaa
open Go.RowKit Go.Deep

/-- How many of the first k hands have something. -/
def liveN (h : Nat → Int × Bool) : Nat → Nat
  | 0 => 0
  | k + 1 => liveN h k + if (h k).2 then 1 else 0

theorem liveN_le (h : Nat → Int × Bool) : ∀ k, liveN h k ≤ k
  | 0 => Nat.le_refl _
  | k + 1 => by
    have := liveN_le h k
    rw [liveN]
    split <;> omega

set_option maxHeartbeats 1000000 in
theorem live_any (w : World) (less : Value) (b bs cs bh bl n : Nat) (V : Nat → Value) (h : Nat → Int × Bool) (lost : Nat → Nat) (T : TreeIs w less b bs cs bh bl n V h lost) :
    Calls Try.prog 10 #[.pointer (some ⟨b, 0, none⟩)] w fun e w' => e = .returned (.int .i64 (liveN h n : Nat)) ∧ Fr (fun _ => False) w w' := by
  have c2 : w.cell? ⟨b, 2, none⟩ = some (.slice (some ⟨bh, 0, none⟩) n n) := T.tree.cell (i := 2) (by omega)
  have hn := T.small
  go_enter Try.func10, Try.ntmps10
  go_wp2_with fail
  go_loopw [3, 11] (fun m i wr => ∃ k : Nat, k ≤ n ∧ i = .int .i64 k ∧ m = .int .i64 (liveN h k : Nat) ∧ Fr (fun _ => False) w wr) (fun _ i _ => n - (intOf i).toNat)
  case atStart => exact ⟨0, Nat.zero_le _, rfl, rfl, Fr.refl _ _⟩
  case round =>
    obtain ⟨k, hk, rfl, rfl, hf⟩ := hrel
    have HF := hid' hf
    by_cases hlt : k < n
    · have T' := T.keep hf id id id id
      have d0 := T'.hands.cell (i := k * 2) (by omega)
      have d1 := T'.hands.cell (i := k * 2 + 1) (by omega)
      rw [hcell_even] at d0
      rw [hcell_odd] at d1
      have hl := liveN_le h k
      have hs : liveN h (k + 1) = liveN h k + if (h k).2 then 1 else 0 := rfl
      obtain ⟨x, hx⟩ : ∃ x, h k = x := ⟨_, rfl⟩
      obtain ⟨x, lx⟩ := x
      rw [hx] at d0 d1 hs
      have HS := hid' hs
      clear hs hx T' hf T
      cases lx with
      | true =>
        go_wp2_with fail
        go_roundw
        case rel => exact ⟨k + 1, by omega, by go_num, by rw [HS.out]; go_num, HF.out.alloc _⟩
        case measure => simp [intOf]; omega
      | false =>
        go_wp2_with fail
        go_roundw
        case rel => exact ⟨k + 1, by omega, by go_num, by rw [HS.out]; rfl, HF.out.alloc _⟩
        case measure => simp [intOf]; omega
    · obtain rfl : k = n := by omega
      clear hf T
      go_wp2_with fail
      go_ret
      exact ⟨rfl, HF.out⟩

/-- Sources: closures over function 21; each asked in a state s answers out s j and comes to the state nxt s j; they write in the blocks of own alone, and hang on those of dep. -/
structure Srcs (n : Nat) (V : Nat → Value) {St : Type} (I : St → World → Prop) (own dep : Nat → Prop) (out : St → Nat → Int × Bool) (nxt : St → Nat → St) : Prop where
  val : ∀ j, j < n → ∃ A T L : Nat, V j = .func (.func 21) #[] #[.pointer (some ⟨A, 0, none⟩), .pointer (some ⟨T, 0, none⟩), .pointer (some ⟨L, 0, none⟩)] ∧
    ∀ s w, I s w → Calls Try.prog 21 #[.pointer (some ⟨A, 0, none⟩), .pointer (some ⟨T, 0, none⟩), .pointer (some ⟨L, 0, none⟩)] w fun e w' =>
      e = .returned (.tuple #[.int .i64 (out s j).1, .bool (out s j).2]) ∧ I (nxt s j) w' ∧ Fr own w w'
  keep : ∀ s w w' S, I s w → Fr S w w' → (∀ k, S k → ¬ dep k) → I s w'
  sub : ∀ k, own k → dep k
  none : ∀ s j, (out s j).2 = false → (out s j).1 = 0

/-- The hands behind an answer. -/
def upd (h : Nat → Int × Bool) (i : Nat) (x : Int × Bool) (j : Nat) : Int × Bool := if j = i then x else h j

theorem hcell_upd (h : Nat → Int × Bool) (i : Nat) (x : Int × Bool) (j : Nat) :
    (if j = i * 2 + 1 then Value.bool x.2 else if j = i * 2 then .int .i64 x.1 else hcell h j) = hcell (upd h i x) j := by
  unfold hcell upd
  by_cases h1 : j = i * 2 + 1
  · subst h1
    rw [if_pos rfl, if_neg (by omega), if_pos (by omega)]
  · rw [if_neg h1]
    by_cases h2 : j = i * 2
    · subst h2
      rw [if_pos rfl, if_pos (by omega), if_pos (by omega)]
    · rw [if_neg h2, if_neg (show ¬ j / 2 = i by omega)]

set_option maxHeartbeats 1000000 in
theorem ask_any {St : Type} {I : St → World → Prop} {own dep : Nat → Prop} {out : St → Nat → Int × Bool} {nxt : St → Nat → St} (w : World) (less : Value) (b bs cs bh bl n : Nat) (V : Nat → Value) (h : Nat → Int × Bool) (lost : Nat → Nat) (T : TreeIs w less b bs cs bh bl n V h lost)
    (R : Srcs n V I own dep out nxt) (hd : ∀ k, dep k → k ≠ b ∧ k ≠ bs ∧ k ≠ bh ∧ k ≠ bl) (s : St) (hI : I s w) (i : Nat) (hi : i < n) :
    Calls Try.prog 19 #[.pointer (some ⟨b, 0, none⟩), .int .i64 i] w fun e w' => e = .returned (.tuple #[]) ∧ TreeIs w' less b bs cs bh bl n V (upd h i (out s i)) lost ∧ I (nxt s i) w' ∧ Fr (fun k => own k ∨ k = bh) w w' := by
  have c1 : w.cell? ⟨b, 1, none⟩ = some (.slice (some ⟨bs, 0, none⟩) n cs) := T.tree.cell (i := 1) (by omega)
  have s1 := T.src.cell i hi
  obtain ⟨A, Tt, L, hV, hcall⟩ := R.val i hi
  rw [hV] at s1
  have hn := T.small
  have HC := hid' (hcall s w hI)
  clear hcall hV
  have HO := hid' (R.none s i)
  obtain ⟨x, hx⟩ : ∃ x, out s i = x := ⟨_, rfl⟩
  obtain ⟨x, lx⟩ := x
  rw [hx] at HC HO ⊢
  clear hx
  go_enter Try.func19, Try.ntmps19
  go_wp2_with fail
  refine HC.out.mono ?_
  rintro e w1 ⟨rfl, hI1, hf1⟩
  have T1 := T.keep hf1 (fun h => (hd _ (R.sub _ h)).1 rfl) (fun h => (hd _ (R.sub _ h)).2.1 rfl) (fun h => (hd _ (R.sub _ h)).2.2.1 rfl) (fun h => (hd _ (R.sub _ h)).2.2.2 rfl)
  have c2 : w1.cell? ⟨b, 2, none⟩ = some (.slice (some ⟨bh, 0, none⟩) n n) := T1.tree.cell (i := 2) (by omega)
  have d0 := T1.hands.cell (i := i * 2) (by omega)
  have d1 := T1.hands.cell (i := i * 2 + 1) (by omega)
  have f0 := T1.hands.frozen (i * 2)
  have f1 := T1.hands.frozen (i * 2 + 1)
  have HI := hid' hI1
  have HF := hid' hf1
  have HT := hid' T1
  clear c1 s1 hI1 hf1 T1
  have fin : ∀ w2, w2 = (w1.setCell ⟨bh, i * 2, none⟩ (.int .i64 x)).setCell ⟨bh, i * 2 + 1, none⟩ (.bool lx) → TreeIs w2 less b bs cs bh bl n V (upd h i (x, lx)) lost ∧ I (nxt s i) w2 ∧ Fr (fun k => own k ∨ k = bh) w w2 := by
    rintro w2 rfl
    have T1 := HT.out
    have F2 : Fr (fun k => k = bh) w1 ((w1.setCell ⟨bh, i * 2, none⟩ (.int .i64 x)).setCell ⟨bh, i * 2 + 1, none⟩ (.bool lx)) :=
      ((Fr.refl (fun k => k = bh) w1).setCell (a := ⟨bh, i * 2, none⟩) (fun _ => rfl) _).setCell (a := ⟨bh, i * 2 + 1, none⟩) (fun _ => rfl) _
    refine ⟨⟨F2.row T1.tree T1.ne1, F2.cells T1.src T1.ne3, ?_, F2.row T1.lost (fun e => T1.ne5 e.symm), T1.small, T1.ne1, T1.ne2, T1.ne3, T1.ne4, T1.ne5⟩, R.keep _ _ _ _ HI.out F2 (fun k hk h => (hd k h).2.2.1 hk), ?_⟩
    · exact ((T1.hands.set (i * 2) _).set (i * 2 + 1) _).congr fun j _ => hcell_upd h i (x, lx) j
    · exact (HF.out.mono fun k _ h => .inl h).trans (F2.mono fun k _ h => .inr h)
  have FIN := hid' fin
  clear fin T R
  cases lx with
  | true =>
    go_wp2_with fail
    go_end0
    exact ⟨rfl, FIN.out _ rfl⟩
  | false =>
    obtain rfl : x = 0 := HO.out rfl
    go_wp2_with fail
    go_end0
    exact ⟨rfl, FIN.out _ rfl⟩

end Go.Proofs.Ytiakgffanplmdaa

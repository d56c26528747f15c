/- The sources at work: source, New, Live, Next over them. -/
import Derived.Test.YtiakgffanplmdaaSrc
namespace Go.Proofs.Ytiakgffanplmdaa
open Go.RowKit Go.Deep

theorem srcs (D : Src) (n : Nat) : Srcs n (srcV D) (Holds D n) (Own D n) (Dep D n) (gives D) more where
  val j hj := ⟨D.A j, D.T j, D.L j, rfl, fun s w h => src_any D n s w h j hj⟩
  keep _ _ _ _ h f hs := h.keep f hs
  sub _ h := h.dep
  none s j h := by
    unfold gives at *
    split at h
    · simp at h
    · rename_i h2; rw [dif_neg h2]

/-- One source more. -/
def Src.add (D : Src) (n A T L : Nat) (sl : Value) (ls : List Int) (db : Nat) (ad : Addr) (cap : Nat) : Src where
  A j := if j = n then A else D.A j
  T j := if j = n then T else D.T j
  L j := if j = n then L else D.L j
  sl j := if j = n then sl else D.sl j
  ls j := if j = n then ls else D.ls j
  db j := if j = n then db else D.db j
  ad j := if j = n then ad else D.ad j
  cap j := if j = n then cap else D.cap j
  cb := D.cb
  m := D.m
  ci := D.ci

theorem counted_zero (ci : Nat → Nat) : ∀ n i, counted ci (fun _ => 0) n i = 0
  | 0, _ => rfl
  | n + 1, i => by rw [counted, counted_zero ci n i]; simp

theorem holds_add {D : Src} {n : Nat} {w w' : World} (H : Holds D n (fun _ => 0) w) (f : Fr (fun _ => False) w w') {A T L : Nat} {sl : Value} {ls : List Int} {db : Nat} {ad : Addr} {cap : Nat}
    (hA : w.heap.size ≤ A) (hT : w.heap.size ≤ T) (hL : w.heap.size ≤ L) (hTA : T ≠ A) (hTL : T ≠ L)
    (rA : w'.rowIs A 28 1 (fun _ => .pointer (some ⟨D.cb, D.ci n, none⟩))) (rT : w'.rowIs T 3 1 (fun _ => .int .i64 0)) (rL : w'.rowIs L 27 1 (fun _ => sl))
    (hl : (sl = .slice none 0 0 ∧ ls = []) ∨ (sl = .slice (some ad) ls.length cap ∧ ∀ k x, ls[k]? = some x → ad.block = db ∧ w'.cell? (ad.add k) = some (.int .i64 x)))
    (hci : D.ci n < D.m) (h1 : db ≠ D.cb) (h2 : ∀ k, k < n → D.T k ≠ db) (h3 : db ≠ T) (h4 : ls.length ≤ 140737488355328) (h5 : db < w'.heap.size) :
    Holds (D.add n A T L sl ls db ad cap) (n + 1) (fun _ => 0) w' := by
  have cb := H.c.lt
  have lt : ∀ j, j < n + 1 → j < n ∨ j = n := fun j h => by omega
  refine ⟨fun j hj => ?_, fun j hj => ?_, fun j hj => ?_, fun j hj => ?_, ?_, fun j hj => ?_, fun j hj k hk => ?_, fun j hj k hk => ?_, fun j hj k hk hne => ?_, fun j hj k hk => ?_, fun j hj => ?_, fun j hj => ?_, fun j hj => ?_, fun j hj => ?_, fun j hj => ?_, fun j hj => ?_⟩
  · rcases lt j hj with h | rfl
    · simp only [Src.add, if_neg (show ¬ j = n by omega)]; exact f.row (H.a j h) id
    · simp only [Src.add, if_pos]; exact rA
  · rcases lt j hj with h | rfl
    · simp only [Src.add, if_neg (show ¬ j = n by omega)]; exact f.row (H.t j h) id
    · simp only [Src.add, if_pos]; exact rT.congr fun i _ => by simp
  · rcases lt j hj with h | rfl
    · simp only [Src.add, if_neg (show ¬ j = n by omega)]; exact f.row (H.l j h) id
    · simp only [Src.add, if_pos]; exact rL
  · rcases lt j hj with h | rfl
    · simp only [Lies, Src.add, if_neg (show ¬ j = n by omega)]; exact f.lies (H.d j h) (H.dl j h) id
    · simp only [Lies, Src.add, if_pos]; exact hl
  · refine (f.row H.c id).congr fun i hi => ?_
    rw [counted_zero, counted_zero]
  · rcases lt j hj with h | rfl
    · exact H.ci j h
    · exact hci
  · rcases lt j hj with h | rfl <;> rcases lt k hk with h' | rfl
    · simp only [Src.add, if_neg (show ¬ j = n by omega), if_neg (show ¬ k = n by omega)]; exact H.ta j h k h'
    · have := (H.t j h).lt; simp only [Src.add, if_neg (show ¬ j = k by omega), if_pos]; omega
    · have := (H.a k h').lt; simp only [Src.add, if_neg (show ¬ k = j by omega), if_pos]; omega
    · simp only [Src.add, if_pos]; exact hTA
  · rcases lt j hj with h | rfl <;> rcases lt k hk with h' | rfl
    · simp only [Src.add, if_neg (show ¬ j = n by omega), if_neg (show ¬ k = n by omega)]; exact H.tl j h k h'
    · have := (H.t j h).lt; simp only [Src.add, if_neg (show ¬ j = k by omega), if_pos]; omega
    · have := (H.l k h').lt; simp only [Src.add, if_neg (show ¬ k = j by omega), if_pos]; omega
    · simp only [Src.add, if_pos]; exact hTL
  · rcases lt j hj with h | rfl <;> rcases lt k hk with h' | rfl
    · simp only [Src.add, if_neg (show ¬ j = n by omega), if_neg (show ¬ k = n by omega)]; exact H.tt j h k h' hne
    · have := (H.t j h).lt; simp only [Src.add, if_neg (show ¬ j = k by omega), if_pos]; omega
    · have := (H.t k h').lt; simp only [Src.add, if_neg (show ¬ k = j by omega), if_pos]; omega
    · exact absurd rfl hne
  · rcases lt j hj with h | rfl <;> rcases lt k hk with h' | rfl
    · simp only [Src.add, if_neg (show ¬ j = n by omega), if_neg (show ¬ k = n by omega)]; exact H.td j h k h'
    · simp only [Src.add, if_neg (show ¬ j = k by omega), if_pos]; exact h2 j h
    · have := H.dl k h'; simp only [Src.add, if_neg (show ¬ k = j by omega), if_pos]; omega
    · simp only [Src.add, if_pos]; exact fun e => h3 e.symm
  · rcases lt j hj with h | rfl
    · simp only [Src.add, if_neg (show ¬ j = n by omega)]; exact H.ct j h
    · simp only [Src.add, if_pos]; omega
  · rcases lt j hj with h | rfl
    · simp only [Src.add, if_neg (show ¬ j = n by omega)]; exact H.ca j h
    · simp only [Src.add, if_pos]; omega
  · rcases lt j hj with h | rfl
    · simp only [Src.add, if_neg (show ¬ j = n by omega)]; exact H.cl j h
    · simp only [Src.add, if_pos]; omega
  · rcases lt j hj with h | rfl
    · simp only [Src.add, if_neg (show ¬ j = n by omega)]; exact H.cd j h
    · simp only [Src.add, if_pos]; exact fun e => h1 e.symm
  · rcases lt j hj with h | rfl
    · simp only [Src.add, if_neg (show ¬ j = n by omega)]; exact H.sm j h
    · simp only [Src.add, if_pos]; exact h4
  · rcases lt j hj with h | rfl
    · simp only [Src.add, if_neg (show ¬ j = n by omega)]; exact Nat.lt_of_lt_of_le (H.dl j h) f.size
    · simp only [Src.add, if_pos]; exact h5

theorem holds_none (D : Src) (w : World) (h : w.rowIs D.cb 3 D.m (fun _ => .int .i64 0)) : Holds D 0 (fun _ => 0) w :=
  ⟨fun _ h => by omega, fun _ h => by omega, fun _ h => by omega, fun _ h => by omega, h.congr fun i _ => by rw [counted]; rfl, fun _ h => by omega, fun _ h => by omega, fun _ h => by omega, fun _ h => by omega, fun _ h => by omega, fun _ h => by omega, fun _ h => by omega, fun _ h => by omega, fun _ h => by omega, fun _ h => by omega, fun _ h => by omega⟩

theorem row_one (w : World) (v : Value) (t : TypeId) : (w.alloc (.cells #[v] t)).rowIs w.heap.size t 1 (fun _ => v) :=
  ⟨#[v], blk_alloc_new _ _, rfl, fun i hi => by
    match i, hi with
    | 0, _ => rfl⟩

/-- source: what it returns. -/
theorem source_any (w : World) (sl : Value) (p : Value) (hsl : sl.oneCell' = true) (hp : p.oneCell' = true) : Calls Try.prog 9 #[sl, p] w fun e w' => ∃ A T L, e = .returned (.func (.func 21) #[] #[.pointer (some ⟨A, 0, none⟩), .pointer (some ⟨T, 0, none⟩), .pointer (some ⟨L, 0, none⟩)]) ∧
    w.heap.size ≤ A ∧ w.heap.size ≤ T ∧ w.heap.size ≤ L ∧ T ≠ A ∧ T ≠ L ∧ w'.rowIs A 28 1 (fun _ => p) ∧ w'.rowIs T 3 1 (fun _ => .int .i64 0) ∧ w'.rowIs L 27 1 (fun _ => sl) ∧ Fr (fun _ => False) w w' := by
  go_enter Try.func9, Try.ntmps9
  go_wp2_with fail
  go_ret
  have r1 := row_one w sl 27
  have r2 := row_one (w.alloc (.cells #[sl] 27)) p 28
  have r3 := row_one ((w.alloc (.cells #[sl] 27)).alloc (.cells #[p] 28)) (.int .i64 0) 3
  have e1 : (w.alloc (.cells #[sl] 27)).heap.size = w.heap.size + 1 := by simp
  have e2 : ((w.alloc (.cells #[sl] 27)).alloc (.cells #[p] 28)).heap.size = w.heap.size + 1 + 1 := by simp
  rw [e1] at r2
  rw [e2] at r3
  exact ⟨_, _, _, rfl, by omega, by omega, Nat.le_refl _, by omega, by omega, r2.alloc _, r3, (r1.alloc _).alloc _, (((Fr.refl _ w).alloc _).alloc _).alloc _⟩

/-- What stands at the head of each list. -/
def peek (D : Src) (n : Nat) (at_ : Nat → Nat) (j : Nat) : Int × Bool := if j < n then gives D at_ j else (0, false)

theorem asked_more (n : Nat) : ∀ k j, asked more (fun _ => 0) k j = if j < k then 1 else 0
  | 0, j => by simp [asked]
  | k + 1, j => by
    have e : ∀ q k j, more q j k = if k = j then q k + 1 else q k := fun _ _ _ => rfl
    rw [asked, e, asked_more n k]
    by_cases h : j = k
    · subst h; simp
    · rw [if_neg h]
      by_cases h2 : j < k
      · rw [if_pos h2, if_pos (by omega)]
      · rw [if_neg h2, if_neg (by omega)]

theorem gives_congr {D : Src} {q q' : Nat → Nat} {j : Nat} (h : q j = q' j) : gives D q j = gives D q' j := by
  unfold gives
  simp only [h]

theorem dealt_peek (D : Src) (n : Nat) : dealt more (gives D) (fun _ => 0) n = peek D n (fun _ => 0) := by
  funext j
  unfold dealt peek
  split
  · refine gives_congr ?_
    rw [asked_more n]; simp
  · rfl

theorem upd_peek (D : Src) (n f : Nat) (at_ q : Nat → Nat) (hf : f < n) (hq : q f = at_ f + 1) : upd (peek D n at_) f (gives D q f) = peek D n (more at_ f) := by
  funext j
  unfold upd peek
  by_cases h : j = f
  · subst h
    rw [if_pos rfl, if_pos hf]
    exact gives_congr (by unfold more; rw [if_pos rfl, hq])
  · rw [if_neg h]
    split
    · exact gives_congr (by unfold more; rw [if_neg h])
    · rfl

/-- The tree over the sources, of which list j has been read up to at_ j. -/
structure Run (D : Src) (n b bs cs bh bl : Nat) (at_ : Nat → Nat) (w : World) : Prop where
  tree : ∃ lost, TreeIs w lessV b bs cs bh bl n (srcV D) (peek D n at_) lost ∧ (1 ≤ n → Kept (peek D n at_) n lost)
  src : ∃ q, Holds D n q w ∧ ∀ j, j < n → q j = at_ j + 1
  apart : ∀ k, Dep D n k → k ≠ b ∧ k ≠ bs ∧ k ≠ bh ∧ k ≠ bl

theorem Run.keep {D : Src} {n b bs cs bh bl : Nat} {at_ : Nat → Nat} {w w' : World} {S : Nat → Prop} (R : Run D n b bs cs bh bl at_ w) (f : Fr S w w') (hs : ∀ k, S k → ¬ Dep D n k ∧ k ≠ b ∧ k ≠ bs ∧ k ≠ bh ∧ k ≠ bl) : Run D n b bs cs bh bl at_ w' := by
  obtain ⟨lost, T, K⟩ := R.tree
  obtain ⟨q, H, hq⟩ := R.src
  exact ⟨⟨lost, T.keep f (fun h => (hs _ h).2.1 rfl) (fun h => (hs _ h).2.2.1 rfl) (fun h => (hs _ h).2.2.2.1 rfl) (fun h => (hs _ h).2.2.2.2 rfl), K⟩, ⟨q, H.keep f (fun k h => (hs k h).1), hq⟩, R.apart⟩

theorem counted_congr (ci q q' : Nat → Nat) : ∀ n i, (∀ j, j < n → q j = q' j) → counted ci q n i = counted ci q' n i
  | 0, _, _ => rfl
  | n + 1, i, h => by rw [counted, counted, counted_congr ci q q' n i (fun j hj => h j (by omega)), h n (by omega)]

theorem Run.count {D : Src} {n b bs cs bh bl : Nat} {at_ : Nat → Nat} {w : World} (R : Run D n b bs cs bh bl at_ w) : w.rowIs D.cb 3 D.m (fun i => .int .i64 (IntKind.i64.wrap ((counted D.ci (fun j => at_ j + 1) n i : Nat) : Int))) := by
  obtain ⟨q, H, hq⟩ := R.src
  exact H.c.congr fun i _ => by rw [counted_congr D.ci q (fun j => at_ j + 1) n i hq]

theorem run_new (D : Src) (n : Nat) (w : World) (a c : Nat) (hV : Cells w a n (srcV D)) (hn : n ≤ 1000) (H : Holds D n (fun _ => 0) w) (hd : ∀ k, Dep D n k → k < w.heap.size) :
    Calls Try.prog 7 #[lessV, .slice (some ⟨a, 0, none⟩) n c] w fun e w' => ∃ b bs cs bh bl, e = .returned (.pointer (some ⟨b, 0, none⟩)) ∧ Run D n b bs cs bh bl (fun _ => 0) w' ∧ Fr (Own D n) w w' ∧
      w.heap.size ≤ b ∧ w.heap.size ≤ bs ∧ w.heap.size ≤ bh ∧ w.heap.size ≤ bl := by
  refine (new_any w a n c (srcV D) hV hn (srcs D n) hd (fun _ => 0) H).mono ?_
  rintro e w' ⟨b, bs, cs, bh, bl, lost, rfl, T, K, I, f, h1, h2, h3, h4⟩
  rw [dealt_peek] at T K
  refine ⟨b, bs, cs, bh, bl, rfl, ⟨⟨lost, T, K⟩, ⟨_, I, fun j hj => by rw [asked_more n]; simp [hj]⟩, fun k hk => ?_⟩, f, h1, h2, h3, h4⟩
  have := hd k hk
  omega

theorem run_live {D : Src} {n b bs cs bh bl : Nat} {at_ : Nat → Nat} {w : World} (R : Run D n b bs cs bh bl at_ w) :
    Calls Try.prog 10 #[.pointer (some ⟨b, 0, none⟩)] w fun e w' => e = .returned (.int .i64 (liveN (peek D n at_) n : Nat)) ∧ Fr (fun _ => False) w w' := by
  obtain ⟨lost, T, _⟩ := R.tree
  exact live_any w lessV b bs cs bh bl n _ _ lost T

theorem run_none {D : Src} {n b bs cs bh bl : Nat} {at_ : Nat → Nat} {w : World} (R : Run D n b bs cs bh bl at_ w) (h0 : liveN (peek D n at_) n = 0) :
    Calls Try.prog 11 #[.pointer (some ⟨b, 0, none⟩)] w fun e w' => e = .returned (.tuple #[.int .i64 0, .int .i64 (-1), .bool false]) ∧ Fr (fun _ => False) w w' := by
  obtain ⟨lost, T, _⟩ := R.tree
  exact next_none T h0

theorem run_some {D : Src} {n b bs cs bh bl : Nat} {at_ : Nat → Nat} {w : World} (R : Run D n b bs cs bh bl at_ w) (h0 : liveN (peek D n at_) n ≠ 0) {f : Nat} (hf : win (peek D n at_) n 1 = f) {x : Int} (hx : (peek D n at_ f).1 = x) :
    Calls Try.prog 11 #[.pointer (some ⟨b, 0, none⟩)] w fun e w' => e = .returned (.tuple #[.int .i64 x, .int .i64 f, .bool true]) ∧ Run D n b bs cs bh bl (more at_ f) w' ∧ Fr (fun k => Own D n k ∨ k = bh ∨ k = bl) w w' := by
  obtain ⟨lost, T, K⟩ := R.tree
  obtain ⟨q, H, hq⟩ := R.src
  have hl := win_live _ _ h0
  subst hf hx
  refine (next_some T (srcs D n) R.apart q H (K hl.1) h0).mono ?_
  rintro e w' ⟨rfl, ⟨lost', T', K'⟩, I, f⟩
  have e := upd_peek D n (win (peek D n at_) n 1) at_ q hl.2.1 (hq _ hl.2.1)
  rw [e] at T' K'
  refine ⟨rfl, ⟨⟨lost', T', fun _ => K'⟩, ⟨_, I, fun j hj => ?_⟩, R.apart⟩, f⟩
  unfold more
  split <;> rw [hq j hj]

set_option maxHeartbeats 1000000 in
/-- Two lists of the same numbers are the same. -/
theorem same_true (w : World) (a b n c d : Nat) (f : Nat → Value) (ha : Cells w a n f) (hb : Cells w b n f) (g : Nat → Int) (hf : ∀ i, i < n → f i = .int .i64 (g i)) (hn : n ≤ 1000) :
    Calls Try.prog 12 #[.slice (some ⟨a, 0, none⟩) n c, .slice (some ⟨b, 0, none⟩) n d] w fun e w' => e = .returned (.bool true) ∧ Fr (fun _ => False) w w' := by
  go_enter Try.func12, Try.ntmps12
  go_wp2_with fail
  go_loopw [5] (fun i wr => ∃ k : Nat, k ≤ n ∧ i = .int .i64 k ∧ Fr (fun _ => False) w wr) (fun i _ => n - (intOf i).toNat)
  case atStart => exact ⟨0, Nat.zero_le _, rfl, Fr.refl _ _⟩
  case round =>
    obtain ⟨k, hk, rfl, hF⟩ := hrel
    by_cases hlt : k < n
    · have c1 := (hF.cells ha id).cell k hlt
      have c2 := (hF.cells hb id).cell k hlt
      rw [hf k hlt] at c1 c2
      have HF := hid' hF
      clear hF
      go_wp2_with fail
      go_quiet (fail)
      go_wp2_with fail
      go_roundw
      case rel => exact ⟨k + 1, by omega, by go_num, HF.out.drewN _⟩
      case measure => simp [intOf]; omega
    · obtain rfl : k = n := by omega
      have HF := hid' hF
      clear hF
      go_wp2_with fail
      go_ret
      exact ⟨rfl, HF.out⟩

end Go.Proofs.Ytiakgffanplmdaa

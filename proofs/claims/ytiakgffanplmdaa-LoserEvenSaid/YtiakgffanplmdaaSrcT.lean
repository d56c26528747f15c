/- The sources of things of the law LoserEven: closures over a place and a list. -/
import Derived.Test.YtiakgffanplmdaaNewT
namespace Go.Proofs.Ytiakgffanplmdaa.T
open Go.RowKit Go.Deep

/-- What the sources are: their two boxes, their lists. -/
structure Src where
  T : Nat → Nat
  L : Nat → Nat
  sl : Nat → Value
  ls : Nat → List Th
  db : Nat → Nat
  cap : Nat → Nat

def srcV (D : Src) (j : Nat) : Value := .func (.func 14) #[] #[.pointer (some ⟨D.T j, 0, none⟩), .pointer (some ⟨D.L j, 0, none⟩)]

/-- List j as memory holds it. -/
def Lies (w : World) (D : Src) (j : Nat) : Prop :=
  (D.sl j = .slice none 0 0 ∧ D.ls j = []) ∨ (D.sl j = .slice (some ⟨D.db j, 0, none⟩) (D.ls j).length (D.cap j) ∧ ∀ k x, (D.ls j)[k]? = some x →
    w.cell? ⟨D.db j, k * 3, none⟩ = some (.int .i64 x.1) ∧ w.cell? ⟨D.db j, k * 3 + 1, none⟩ = some (.int .i64 x.2.1) ∧ w.cell? ⟨D.db j, k * 3 + 2, none⟩ = some (.int .i64 x.2.2))

/-- The first n sources in memory, source j asked q j times. -/
structure Holds (D : Src) (n : Nat) (q : Nat → Nat) (w : World) : Prop where
  t : ∀ j, j < n → w.rowIs (D.T j) 3 1 (fun _ => .int .i64 ((min (q j) (D.ls j).length : Nat) : Int))
  l : ∀ j, j < n → w.rowIs (D.L j) 38 1 (fun _ => D.sl j)
  d : ∀ j, j < n → Lies w D j
  tl : ∀ j, j < n → ∀ k, k < n → D.T j ≠ D.L k
  tt : ∀ j, j < n → ∀ k, k < n → j ≠ k → D.T j ≠ D.T k
  td : ∀ j, j < n → ∀ k, k < n → D.T j ≠ D.db k
  sm : ∀ j, j < n → (D.ls j).length ≤ 1000
  dl : ∀ j, j < n → D.db j < w.heap.size

def Dep (D : Src) (n k : Nat) : Prop := ∃ j, j < n ∧ (k = D.T j ∨ k = D.L j ∨ k = D.db j)
def Own (D : Src) (n k : Nat) : Prop := ∃ j, j < n ∧ k = D.T j

theorem Own.dep {D : Src} {n k : Nat} (h : Own D n k) : Dep D n k := h.imp fun _ ⟨hj, e⟩ => ⟨hj, .inl e⟩

theorem fr_lies {S : Nat → Prop} {w w' : World} {D : Src} {j : Nat} (f : Fr S w w') (h : Lies w D j) (hl : D.db j < w.heap.size) (hs : ¬ S (D.db j)) : Lies w' D j :=
  h.imp id fun ⟨h1, h3⟩ => ⟨h1, fun k x hk =>
    have e : ∀ (a : Addr) v, a.block = D.db j → w.cell? a = some v → w'.cell? a = some v := fun a v ha h => (World.cell?_of_block (w := w) (by rw [ha]; exact f.block _ hl hs)).trans h
    ⟨e _ _ rfl (h3 k x hk).1, e _ _ rfl (h3 k x hk).2.1, e _ _ rfl (h3 k x hk).2.2⟩⟩

theorem Holds.keep {D : Src} {n : Nat} {q : Nat → Nat} {w w' : World} {S : Nat → Prop} (H : Holds D n q w) (f : Fr S w w') (hs : ∀ k, S k → ¬ Dep D n k) : Holds D n q w' :=
  ⟨fun j hj => f.row (H.t j hj) fun h => hs _ h ⟨j, hj, .inl rfl⟩, fun j hj => f.row (H.l j hj) fun h => hs _ h ⟨j, hj, .inr (.inl rfl)⟩,
    fun j hj => fr_lies f (H.d j hj) (H.dl j hj) fun h => hs _ h ⟨j, hj, .inr (.inr rfl)⟩, H.tl, H.tt, H.td, H.sm, fun j hj => Nat.lt_of_lt_of_le (H.dl j hj) f.size⟩

theorem Holds.lt {D : Src} {n : Nat} {q : Nat → Nat} {w : World} (H : Holds D n q w) (k : Nat) (h : Dep D n k) : k < w.heap.size := by
  rcases h with ⟨j, hj, rfl | rfl | rfl⟩
  · exact (H.t j hj).lt
  · exact (H.l j hj).lt
  · exact H.dl j hj

/-- What source j gives when it is asked. -/
def gives (D : Src) (q : Nat → Nat) (j : Nat) : Th × Bool := if h : q j < (D.ls j).length then ((D.ls j)[q j], true) else ((0, 0, 0), false)

set_option maxHeartbeats 1000000 in
theorem src_any (D : Src) (n : Nat) (q : Nat → Nat) (w : World) (H : Holds D n q w) (j : Nat) (hj : j < n) :
    Calls Try.prog 14 #[.pointer (some ⟨D.T j, 0, none⟩), .pointer (some ⟨D.L j, 0, none⟩)] w fun e w' =>
      e = .returned (.tuple #[thV (gives D q j).1, .bool (gives D q j).2]) ∧ Holds D n (more q j) w' ∧ Fr (Own D n) w w' := by
  have ct := (H.t j hj).cell (i := 0) (by omega)
  have ft := (H.t j hj).frozen 0
  have cl := (H.l j hj).cell (i := 0) (by omega)
  have hsm := H.sm j hj
  have htl := H.tl j hj j hj
  have ntd := H.td j hj j hj
  have lT := (H.t j hj).lt
  have lL := (H.l j hj).lt
  have ldb := H.dl j hj
  have HH := hid' H
  have HL := hid' (H.d j hj)
  clear H
  obtain ⟨lq, hlq⟩ : ∃ lq, (D.ls j).length = lq := ⟨_, rfl⟩
  rw [hlq] at ct hsm
  by_cases hlt : q j < lq
  · rw [show min (q j) lq = q j by omega] at ct
    rcases HL.out with ⟨_, h2⟩ | ⟨h1, h3⟩
    · rw [h2] at hlq; simp at hlq; omega
    · obtain ⟨x, hx⟩ : ∃ x, gives D q j = (x, true) ∧ (D.ls j)[q j]'(by omega) = x := ⟨(D.ls j)[q j]'(by omega), by unfold gives; rw [dif_pos (by omega)], rfl⟩
      obtain ⟨h4, h5, h6⟩ := h3 (q j) x (by rw [← hx.2]; simp)
      rw [hx.1]
      rw [h1, hlq] at cl
      have HQ := hid' hlq
      obtain ⟨x, x2, x3⟩ := x
      clear hx h3 HL hlq h1
      go_enter Try.func14, Try.ntmps14
      go_wp2_with fail
      have H := HH.out
      have F1 : Fr (fun k => k = D.T j) w ((w.setCell ⟨D.T j, 0, none⟩ (.int .i64 ((q j : Int) + 1))).alloc (.cells #[.int .i64 x, .int .i64 x2, .int .i64 x3] 41)) := (Fr.setCell (S := fun k => k = D.T j) (Fr.refl _ _) (a := ⟨D.T j, 0, none⟩) (fun _ => rfl) _).alloc _
      have hr := ((H.t j hj).set 0 (.int .i64 ((q j : Int) + 1))).alloc (.cells #[.int .i64 x, .int .i64 x2, .int .i64 x3] 41)
      have hn2 := World.rowIs_alloc (w.setCell ⟨D.T j, 0, none⟩ (.int .i64 ((q j : Int) + 1))) #[.int .i64 x, .int .i64 x2, .int .i64 x3] 41 (fun k => (#[.int .i64 x, .int .i64 x2, .int .i64 x3] : Array Value).getD k undef) (fun i hi => by
        match i, hi with
        | 0, _ => rfl
        | 1, _ => rfl
        | 2, _ => rfl)
      rw [nblk_setCell] at hn2
      obtain ⟨W, hW⟩ : ∃ W, (w.setCell ⟨D.T j, 0, none⟩ (.int .i64 ((q j : Int) + 1))).alloc (.cells #[.int .i64 x, .int .i64 x2, .int .i64 x3] 41) = W := ⟨_, rfl⟩
      rw [hW] at F1 hr hn2 ⊢
      have z0 : W.cell? ⟨w.heap.size, 0, none⟩ = some (.int .i64 x) := hn2.cell (i := 0) (show 0 < 3 by decide)
      have z1 : W.cell? ⟨w.heap.size, 1, none⟩ = some (.int .i64 x2) := hn2.cell (i := 1) (show 1 < 3 by decide)
      have z2 : W.cell? ⟨w.heap.size, 2, none⟩ = some (.int .i64 x3) := hn2.cell (i := 2) (show 2 < 3 by decide)
      refine bodyPost_ret (v := .tuple #[.agg #[.int .i64 x, .int .i64 x2, .int .i64 x3], .bool true]) (by simp [results, Try.results14, go_sem, z0, z1, z2]) rfl
        ⟨rfl, ⟨fun k hk => ?_, fun k hk => F1.row (H.l k hk) (fun e => H.tl j hj k hk e.symm), fun k hk => fr_lies F1 (H.d k hk) (H.dl k hk) (fun e => H.td j hj k hk e.symm), H.tl, H.tt, H.td, H.sm, fun k hk => Nat.lt_of_lt_of_le (H.dl k hk) F1.size⟩, F1.mono fun k _ h => ⟨j, hj, h⟩⟩
      by_cases e : k = j
      · subst e
        refine hr.congr fun i hi => ?_
        show (if i = 0 then _ else _) = _
        rw [if_pos (by omega)]
        unfold more
        rw [if_pos rfl, HQ.out]
        exact congrArg _ (by omega)
      · refine (F1.row (H.t k hk) (fun h => H.tt k hk j hj e h)).congr fun i hi => ?_
        unfold more
        rw [if_neg e]
  · rw [show min (q j) lq = lq by omega] at ct
    have hg : gives D q j = ((0, 0, 0), false) := by unfold gives; rw [dif_neg (by omega)]
    rw [hg]
    have HQ := hid' hlq
    have fin : ∀ W : World, Fr (fun _ => False) w W → W.cell? ⟨w.heap.size, 0, none⟩ = some (.int .i64 0) → W.cell? ⟨w.heap.size, 1, none⟩ = some (.int .i64 0) → W.cell? ⟨w.heap.size, 2, none⟩ = some (.int .i64 0) → Holds D n (more q j) W ∧ Fr (Own D n) w W := by
      intro W F1 _ _ _
      have H := HH.out
      refine ⟨⟨fun k hk => ?_, fun k hk => F1.row (H.l k hk) id, fun k hk => fr_lies F1 (H.d k hk) (H.dl k hk) id, H.tl, H.tt, H.td, H.sm, fun k hk => Nat.lt_of_lt_of_le (H.dl k hk) F1.size⟩, F1.mono fun _ _ h => h.elim⟩
      refine (F1.row (H.t k hk) id).congr fun i hi => ?_
      by_cases e : k = j
      · subst e
        unfold more
        rw [if_pos rfl, HQ.out]
        exact congrArg _ (by omega)
      · unfold more
        rw [if_neg e]
    have FIN := hid' fin
    clear fin hg
    rcases HL.out with ⟨h1, h2⟩ | ⟨h1, h3⟩
    · rw [h1] at cl
      rw [h2] at hlq
      obtain rfl : lq = 0 := by simpa using hlq.symm
      clear h1 h2 HL
      go_enter Try.func14, Try.ntmps14
      go_wp2_with fail
      have z0 : (w.alloc (.cells #[.int .i64 0, .int .i64 0, .int .i64 0] 41)).cell? ⟨w.heap.size, 0, none⟩ = some (.int .i64 0) := by simp
      have z1 : (w.alloc (.cells #[.int .i64 0, .int .i64 0, .int .i64 0] 41)).cell? ⟨w.heap.size, 1, none⟩ = some (.int .i64 0) := by simp
      have z2 : (w.alloc (.cells #[.int .i64 0, .int .i64 0, .int .i64 0] 41)).cell? ⟨w.heap.size, 2, none⟩ = some (.int .i64 0) := by simp
      exact bodyPost_ret (v := .tuple #[.agg #[.int .i64 0, .int .i64 0, .int .i64 0], .bool false]) (by simp [results, Try.results14, go_sem, z0, z1, z2]) rfl
        ⟨rfl, FIN.out _ ((Fr.refl _ w).alloc _) z0 z1 z2⟩
    · rw [h1, hlq] at cl
      clear h1 h3 HL hlq
      go_enter Try.func14, Try.ntmps14
      go_wp2_with fail
      have z0 : (w.alloc (.cells #[.int .i64 0, .int .i64 0, .int .i64 0] 41)).cell? ⟨w.heap.size, 0, none⟩ = some (.int .i64 0) := by simp
      have z1 : (w.alloc (.cells #[.int .i64 0, .int .i64 0, .int .i64 0] 41)).cell? ⟨w.heap.size, 1, none⟩ = some (.int .i64 0) := by simp
      have z2 : (w.alloc (.cells #[.int .i64 0, .int .i64 0, .int .i64 0] 41)).cell? ⟨w.heap.size, 2, none⟩ = some (.int .i64 0) := by simp
      exact bodyPost_ret (v := .tuple #[.agg #[.int .i64 0, .int .i64 0, .int .i64 0], .bool false]) (by simp [results, Try.results14, go_sem, z0, z1, z2]) rfl
        ⟨rfl, FIN.out _ ((Fr.refl _ w).alloc _) z0 z1 z2⟩

theorem srcs (D : Src) (n : Nat) : Srcs n (srcV D) (Holds D n) (Own D n) (Dep D n) (gives D) more where
  val j hj := ⟨D.T j, D.L j, rfl, fun s w h => src_any D n s w h j hj⟩
  keep _ _ _ _ h f hs := h.keep f hs
  sub _ h := h.dep
  none s j h := by
    unfold gives at *
    split at h
    · simp at h
    · rename_i h2; rw [dif_neg h2]

end Go.Proofs.Ytiakgffanplmdaa.T

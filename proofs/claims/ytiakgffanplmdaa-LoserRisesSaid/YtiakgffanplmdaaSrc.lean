/- The sources of the laws: closures over a counter, a place, a list. -/
import Derived.Test.YtiakgffanplmdaaNew
namespace Go.Proofs.Ytiakgffanplmdaa
open Go.RowKit Go.Deep

/-- What the sources are: their three boxes, their lists, the counters. -/
structure Src where
  A : Nat → Nat
  T : Nat → Nat
  L : Nat → Nat
  sl : Nat → Value
  ls : Nat → List Int
  db : Nat → Nat
  ad : Nat → Addr
  cap : Nat → Nat
  cb : Nat
  m : Nat
  ci : Nat → Nat

def srcV (D : Src) (j : Nat) : Value := .func (.func 21) #[] #[.pointer (some ⟨D.A j, 0, none⟩), .pointer (some ⟨D.T j, 0, none⟩), .pointer (some ⟨D.L j, 0, none⟩)]

/-- How often the counter i was counted up. -/
def counted (ci q : Nat → Nat) : Nat → Nat → Nat
  | 0, _ => 0
  | n + 1, i => counted ci q n i + if ci n = i then q n else 0

def more (q : Nat → Nat) (j k : Nat) : Nat := if k = j then q k + 1 else q k

theorem counted_more (ci q : Nat → Nat) (j : Nat) : ∀ n i, counted ci (more q j) n i = counted ci q n i + if j < n ∧ ci j = i then 1 else 0
  | 0, i => by simp [counted]
  | n + 1, i => by
    rw [counted, counted, counted_more ci q j n i]
    unfold more
    by_cases h1 : n = j
    · subst h1
      by_cases h2 : ci n = i <;> simp [h2]
      omega
    · by_cases h2 : ci n = i
      · by_cases h3 : j < n ∧ ci j = i
        · simp [h1, h2, h3, show j < n + 1 by omega]; omega
        · have : ¬ (j < n + 1 ∧ ci j = i) := fun h => h3 ⟨by omega, h.2⟩
          simp [h1, h2, h3, this]
      · by_cases h3 : j < n ∧ ci j = i
        · simp [h2, h3, show j < n + 1 by omega]
        · have : ¬ (j < n + 1 ∧ ci j = i) := fun h => h3 ⟨by omega, h.2⟩
          simp [h2, h3, this]

theorem add_blk (a : Addr) (n : Nat) : (a.add n).block = a.block := by unfold Addr.add; split <;> rfl

/-- List j as memory holds it. -/
def Lies (w : World) (D : Src) (j : Nat) : Prop :=
  (D.sl j = .slice none 0 0 ∧ D.ls j = []) ∨ (D.sl j = .slice (some (D.ad j)) (D.ls j).length (D.cap j) ∧ ∀ k x, (D.ls j)[k]? = some x → (D.ad j).block = D.db j ∧ w.cell? ((D.ad j).add k) = some (.int .i64 x))

/-- The first n sources in memory, source j asked q j times. -/
structure Holds (D : Src) (n : Nat) (q : Nat → Nat) (w : World) : Prop where
  a : ∀ j, j < n → w.rowIs (D.A j) 28 1 (fun _ => .pointer (some ⟨D.cb, D.ci j, none⟩))
  t : ∀ j, j < n → w.rowIs (D.T j) 3 1 (fun _ => .int .i64 ((min (q j) (D.ls j).length : Nat) : Int))
  l : ∀ j, j < n → w.rowIs (D.L j) 27 1 (fun _ => D.sl j)
  d : ∀ j, j < n → Lies w D j
  c : w.rowIs D.cb 3 D.m (fun i => .int .i64 (IntKind.i64.wrap ((counted D.ci q n i : Nat) : Int)))
  ci : ∀ j, j < n → D.ci j < D.m
  ta : ∀ j, j < n → ∀ k, k < n → D.T j ≠ D.A k
  tl : ∀ j, j < n → ∀ k, k < n → D.T j ≠ D.L k
  tt : ∀ j, j < n → ∀ k, k < n → j ≠ k → D.T j ≠ D.T k
  td : ∀ j, j < n → ∀ k, k < n → D.T j ≠ D.db k
  ct : ∀ j, j < n → D.cb ≠ D.T j
  ca : ∀ j, j < n → D.cb ≠ D.A j
  cl : ∀ j, j < n → D.cb ≠ D.L j
  cd : ∀ j, j < n → D.cb ≠ D.db j
  sm : ∀ j, j < n → (D.ls j).length ≤ 140737488355328
  dl : ∀ j, j < n → D.db j < w.heap.size

def Dep (D : Src) (n k : Nat) : Prop := k = D.cb ∨ ∃ j, j < n ∧ (k = D.A j ∨ k = D.T j ∨ k = D.L j ∨ k = D.db j)
def Own (D : Src) (n k : Nat) : Prop := k = D.cb ∨ ∃ j, j < n ∧ k = D.T j

theorem Own.dep {D : Src} {n k : Nat} (h : Own D n k) : Dep D n k := h.imp id fun ⟨j, hj, e⟩ => ⟨j, hj, .inr (.inl e)⟩

theorem Fr.lies {S : Nat → Prop} {w w' : World} {D : Src} {j : Nat} (f : Fr S w w') (h : Lies w D j) (hl : D.db j < w.heap.size) (hs : ¬ S (D.db j)) : Lies w' D j :=
  h.imp id fun ⟨h1, h3⟩ => ⟨h1, fun k x hk => ⟨(h3 k x hk).1, (World.cell?_of_block (w := w) (by rw [add_blk, (h3 k x hk).1]; exact f.block _ hl hs)).trans (h3 k x hk).2⟩⟩

theorem Holds.keep {D : Src} {n : Nat} {q : Nat → Nat} {w w' : World} {S : Nat → Prop} (H : Holds D n q w) (f : Fr S w w') (hs : ∀ k, S k → ¬ Dep D n k) : Holds D n q w' :=
  ⟨fun j hj => f.row (H.a j hj) fun h => hs _ h (.inr ⟨j, hj, .inl rfl⟩), fun j hj => f.row (H.t j hj) fun h => hs _ h (.inr ⟨j, hj, .inr (.inl rfl)⟩), fun j hj => f.row (H.l j hj) fun h => hs _ h (.inr ⟨j, hj, .inr (.inr (.inl rfl))⟩),
    fun j hj => f.lies (H.d j hj) (H.dl j hj) fun h => hs _ h (.inr ⟨j, hj, .inr (.inr (.inr rfl))⟩), f.row H.c fun h => hs _ h (.inl rfl), H.ci, H.ta, H.tl, H.tt, H.td, H.ct, H.ca, H.cl, H.cd, H.sm, fun j hj => Nat.lt_of_lt_of_le (H.dl j hj) f.size⟩

theorem Holds.lt {D : Src} {n : Nat} {q : Nat → Nat} {w : World} (H : Holds D n q w) (k : Nat) (h : Dep D n k) : k < w.heap.size := by
  rcases h with rfl | ⟨j, hj, rfl | rfl | rfl | rfl⟩
  · exact H.c.lt
  · exact (H.a j hj).lt
  · exact (H.t j hj).lt
  · exact (H.l j hj).lt
  · exact H.dl j hj

/-- What source j gives when it is asked. -/
def gives (D : Src) (q : Nat → Nat) (j : Nat) : Int × Bool := if h : q j < (D.ls j).length then ((D.ls j)[q j], true) else (0, false)

theorem wrap_wrap_succ (c : Nat) : IntKind.i64.wrap (IntKind.i64.wrap (c : Int) + 1) = IntKind.i64.wrap ((c + 1 : Nat) : Int) := by
  rw [IntKind.wrap_i64, IntKind.wrap_i64, IntKind.wrap_i64]
  omega

set_option maxHeartbeats 1000000 in
theorem src_any (D : Src) (n : Nat) (q : Nat → Nat) (w : World) (H : Holds D n q w) (j : Nat) (hj : j < n) :
    Calls Try.prog 21 #[.pointer (some ⟨D.A j, 0, none⟩), .pointer (some ⟨D.T j, 0, none⟩), .pointer (some ⟨D.L j, 0, none⟩)] w fun e w' =>
      e = .returned (.tuple #[.int .i64 (gives D q j).1, .bool (gives D q j).2]) ∧ Holds D n (more q j) w' ∧ Fr (Own D n) w w' := by
  have ca : w.cell? ⟨D.A j, 0, none⟩ = some (.pointer (some ⟨D.cb, D.ci j, none⟩)) := (H.a j hj).cell (i := 0) (by omega)
  have ct := (H.t j hj).cell (i := 0) (by omega)
  have ft := (H.t j hj).frozen 0
  have cl := (H.l j hj).cell (i := 0) (by omega)
  have cc := H.c.cell (i := D.ci j) (H.ci j hj)
  have fc := H.c.frozen (D.ci j)
  have hsm := H.sm j hj
  have nt := H.ct j hj
  have nl := H.cl j hj
  have htl := H.tl j hj j hj
  have ntd := H.td j hj j hj
  have ncd := H.cd j hj
  have HH := hid' H
  have HL := hid' (H.d j hj)
  clear H
  have hcw := wrap_wrap_succ (counted D.ci q n (D.ci j))
  obtain ⟨cv, hcv⟩ : ∃ cv, IntKind.i64.wrap ((counted D.ci q n (D.ci j) : Nat) : Int) = cv := ⟨_, rfl⟩
  obtain ⟨cu, hcu⟩ : ∃ cu, IntKind.i64.wrap ((counted D.ci q n (D.ci j) + 1 : Nat) : Int) = cu := ⟨_, rfl⟩
  rw [hcv, hcu] at hcw
  rw [hcv] at cc
  have HU := hid' hcu
  clear hcv hcu
  -- the counters behind it
  have key : ∀ w' : World, w'.rowIs D.cb 3 D.m (fun i => if i = D.ci j then .int .i64 cu else .int .i64 (IntKind.i64.wrap ((counted D.ci q n i : Nat) : Int))) → w'.rowIs D.cb 3 D.m (fun i => .int .i64 (IntKind.i64.wrap ((counted D.ci (more q j) n i : Nat) : Int))) := fun w' h => h.congr fun i hi => by
    rw [counted_more]
    by_cases e : i = D.ci j
    · subst e; rw [if_pos rfl, if_pos ⟨hj, rfl⟩, HU.out]
    · rw [if_neg e, if_neg (fun h => e h.2.symm)]; rfl
  have HK := hid' key
  clear key
  obtain ⟨lq, hlq⟩ : ∃ lq, (D.ls j).length = lq := ⟨_, rfl⟩
  rw [hlq] at ct hsm
  by_cases hlt : q j < lq
  · rw [show min (q j) lq = q j by omega] at ct
    rcases HL.out with ⟨_, h2⟩ | ⟨h1, h3⟩
    · rw [h2] at hlq; simp at hlq; omega
    · obtain ⟨h2, h4⟩ := h3 (q j) (D.ls j)[q j] (by simp [show q j < (D.ls j).length by omega])
      obtain ⟨x, hx⟩ : ∃ x, gives D q j = (x, true) ∧ (D.ls j)[q j]'(by omega) = x := ⟨(D.ls j)[q j]'(by omega), by unfold gives; rw [dif_pos (by omega)], rfl⟩
      rw [hx.2] at h4
      rw [hx.1]
      rw [h1, hlq] at cl
      have HQ := hid' hlq
      clear hx h3 HL hlq h1
      obtain ⟨ad, had⟩ : ∃ ad, D.ad j = ad := ⟨_, rfl⟩
      obtain ⟨cap, hcap⟩ : ∃ cap, D.cap j = cap := ⟨_, rfl⟩
      rw [had] at h2 h4 cl
      have ntd : D.T j ≠ ad.block := by rw [h2]; exact ntd
      have ncd : D.cb ≠ ad.block := by rw [h2]; exact ncd
      rw [hcap] at cl
      have h5 : ((w.setCell ⟨D.cb, D.ci j, none⟩ (.int .i64 cu)).setCell ⟨D.T j, 0, none⟩ (.int .i64 ((q j : Int) + 1))).cell? (ad.add (q j)) = some (.int .i64 x) :=
        (World.cell?_of_block (w := w) (by rw [add_blk, blk_setCell_other _ _ _ _ (fun e => ntd e.symm), blk_setCell_other _ _ _ _ (fun e => ncd e.symm)])).trans h4
      clear had hcap
      go_enter Try.func21, Try.ntmps21
      go_wp2_with fail
      go_ret2
      have H := HH.out
      have F1 : Fr (fun k => k = D.cb) w (w.setCell ⟨D.cb, D.ci j, none⟩ (.int .i64 cu)) := Fr.setCell (S := fun k => k = D.cb) (Fr.refl _ _) (a := ⟨D.cb, D.ci j, none⟩) (fun _ => rfl) _
      have F2 : Fr (fun k => k = D.T j) (w.setCell ⟨D.cb, D.ci j, none⟩ (.int .i64 cu)) ((w.setCell ⟨D.cb, D.ci j, none⟩ (.int .i64 cu)).setCell ⟨D.T j, 0, none⟩ (.int .i64 ((q j : Int) + 1))) := Fr.setCell (S := fun k => k = D.T j) (Fr.refl _ _) (a := ⟨D.T j, 0, none⟩) (fun _ => rfl) _
      refine ⟨rfl, ⟨fun k hk => F2.row (F1.row (H.a k hk) (fun e => H.ca k hk e.symm)) (fun e => H.ta j hj k hk e.symm), fun k hk => ?_, fun k hk => F2.row (F1.row (H.l k hk) (fun e => H.cl k hk e.symm)) (fun e => H.tl j hj k hk e.symm),
        fun k hk => F2.lies (F1.lies (H.d k hk) (H.dl k hk) (fun e => H.cd k hk e.symm)) (Nat.lt_of_lt_of_le (H.dl k hk) F1.size) (fun e => H.td j hj k hk e.symm), F2.row (HK.out _ (H.c.set _ _)) nt, H.ci, H.ta, H.tl, H.tt, H.td, H.ct, H.ca, H.cl, H.cd, H.sm, fun k hk => Nat.lt_of_lt_of_le (H.dl k hk) (Nat.le_trans F1.size F2.size)⟩, (F1.mono fun k _ h => .inl h).trans (F2.mono fun k _ h => .inr ⟨j, hj, h⟩)⟩
      by_cases e : k = j
      · subst e
        refine ((F1.row (H.t k hk) (fun e => H.ct k hk e.symm)).set 0 _).congr fun i hi => ?_
        show (if i = 0 then _ else _) = _
        rw [if_pos (by omega)]
        unfold more
        rw [if_pos rfl, HQ.out]
        exact congrArg _ (by omega)
      · refine (F2.row (F1.row (H.t k hk) (fun e => H.ct k hk e.symm)) (fun h => H.tt k hk j hj e h)).congr fun i hi => ?_
        unfold more
        rw [if_neg e]
  · rw [show min (q j) lq = lq by omega] at ct
    have hg : gives D q j = (0, false) := by unfold gives; rw [dif_neg (by omega)]
    rw [hg]
    have fin : ∀ w' : World, w' = w.setCell ⟨D.cb, D.ci j, none⟩ (.int .i64 cu) → Holds D n (more q j) w' ∧ Fr (Own D n) w w' := by
      rintro w' rfl
      have H := HH.out
      have F1 : Fr (fun k => k = D.cb) w (w.setCell ⟨D.cb, D.ci j, none⟩ (.int .i64 cu)) := Fr.setCell (S := fun k => k = D.cb) (Fr.refl _ _) (a := ⟨D.cb, D.ci j, none⟩) (fun _ => rfl) _
      refine ⟨⟨fun k hk => F1.row (H.a k hk) (fun e => H.ca k hk e.symm), fun k hk => ?_, fun k hk => F1.row (H.l k hk) (fun e => H.cl k hk e.symm),
        fun k hk => F1.lies (H.d k hk) (H.dl k hk) (fun e => H.cd k hk e.symm), HK.out _ (H.c.set _ _), H.ci, H.ta, H.tl, H.tt, H.td, H.ct, H.ca, H.cl, H.cd, H.sm, fun k hk => Nat.lt_of_lt_of_le (H.dl k hk) F1.size⟩, F1.mono fun k _ h => .inl h⟩
      refine (F1.row (H.t k hk) (fun e => H.ct k hk e.symm)).congr fun i hi => ?_
      by_cases e : k = j
      · subst e
        unfold more
        rw [if_pos rfl, hlq]
        exact congrArg _ (by omega)
      · unfold more
        rw [if_neg e]
    have FIN := hid' fin
    clear fin hg
    rcases HL.out with ⟨h1, h2⟩ | ⟨h1, h3⟩
    · rw [h1] at cl
      rw [h2] at hlq
      obtain rfl : lq = 0 := by simpa using hlq.symm
      clear h1 h2 HL
      go_enter Try.func21, Try.ntmps21
      go_wp2_with fail
      go_ret2
      exact ⟨rfl, FIN.out _ rfl⟩
    · rw [h1, hlq] at cl
      clear h1 h3 HL hlq
      obtain ⟨ad, had⟩ : ∃ ad, D.ad j = ad := ⟨_, rfl⟩
      obtain ⟨cap, hcap⟩ : ∃ cap, D.cap j = cap := ⟨_, rfl⟩
      rw [had, hcap] at cl
      clear had hcap ntd ncd
      go_enter Try.func21, Try.ntmps21
      go_wp2_with fail
      go_ret2
      exact ⟨rfl, FIN.out _ rfl⟩

end Go.Proofs.Ytiakgffanplmdaa

/- LoserRises: helpers of its walk: what stands behind the building, the map of counts in a walk, a round of its loops. -/
import Derived.Test.YtiakgffanplmdaaRgA
import Derived.Test.YtiakgffanplmdaaL3
import Derived.Test.YtiakgffanplmdaaNil
import Derived.Test.YtiakgffanplmdaaPl
import Derived.Test.YtiakgffanplmdaaWi
import Derived.Maps.OwnOps
import Derived.Carry
namespace Go.Proofs.Ytiakgffanplmdaa
open Go.RowKit Go.Deep
attribute [local go_sem] Oper.semAt_some

theorem dep_addR {D : Src} {n A T L : Nat} {sl : Value} {ls : List Int} {db : Nat} {ad : Addr} {cap k : Nat} (h : Dep (D.add n A T L sl ls db ad cap) (n + 1) k) : Dep D n k ∨ k = A ∨ k = T ∨ k = L ∨ k = db := by
  rcases h with rfl | ⟨j, hj, h⟩
  · exact .inl (.inl rfl)
  · by_cases e : j = n
    · subst e
      simp only [Src.add, if_pos] at h
      exact .inr h
    · simp only [Src.add, if_neg e] at h
      exact .inl (.inr ⟨j, by omega, h⟩)

theorem srcV_addR {D : Src} {n A T L : Nat} {sl : Value} {ls : List Int} {db : Nat} {ad : Addr} {cap : Nat} : (List.range (n + 1)).map (srcV (D.add n A T L sl ls db ad cap)) = (List.range n).map (srcV D) ++ [.func (.func 21) #[] #[.pointer (some ⟨A, 0, none⟩), .pointer (some ⟨T, 0, none⟩), .pointer (some ⟨L, 0, none⟩)]] := by
  rw [List.range_succ, List.map_append]
  congr 1
  · refine List.map_congr_left fun j hj => ?_
    have : j < n := by simpa using hj
    unfold srcV Src.add
    simp only [if_neg (show ¬ j = n by omega)]
  · simp [srcV, Src.add]

theorem run_new_ownR (D : Src) (n : Nat) (w : World) (B : Nat) (v : Value) (h : w.ownsRow B 25 1 v n ((List.range n).map (srcV D))) (hn : n ≤ 1000) (H : Holds D n (fun _ => 0) w) :
    Calls Try.prog 7 #[lessV, v] w fun e w' => ∃ b bs cs bh bl, e = .returned (.pointer (some ⟨b, 0, none⟩)) ∧ Run D n b bs cs bh bl (fun _ => 0) w' ∧ Fr (Own D n) w w' ∧
      w.heap.size ≤ b ∧ w.heap.size ≤ bs ∧ w.heap.size ≤ bh ∧ w.heap.size ≤ bl := by
  rcases h.2 with ⟨rfl, rfl⟩ | ⟨g, cap, cur, rfl, h1, h2, h3, h4⟩
  · refine (run_new_nil D w H (fun k hk => H.lt k hk)).mono ?_
    rintro e w' ⟨b, bs, cs, bh, bl, rfl, R, f, g1, g2, g3, g4⟩
    exact ⟨b, bs, cs, bh, bl, rfl, R, f.mono (fun _ _ h => h.elim), g1, g2, g3, g4⟩
  · refine run_new D n w g cap ⟨lt_of_block h2, fun j hj => ?_⟩ hn H (fun k hk => H.lt k hk)
    have := h.cells (g := g) rfl j (srcV D j) (by simp [hj])
    rwa [add_flat] at this

theorem all_fn (b : Nat) (w : World) : Calls Try.prog 18 #[.pointer (some ⟨b, 0, none⟩)] w fun e w' => e = .returned (.func (.func 25) #[] #[.pointer (some ⟨w.heap.size, 0, none⟩)]) ∧ w' = w.alloc (.cells #[.pointer (some ⟨b, 0, none⟩)] 22) := by
  go_enter Try.func18, Try.ntmps18
  go_wp2_with fail
  go_ret
  exact ⟨rfl, rfl⟩

/-- What stands behind the building of the sources. -/
structure Built (w : World) (b0 b1 b2 b3 k : Nat) (D : Src) (N : Nat) (fs : Value) (wx : World) : Prop where
  holds : Holds D k (fun _ => 0) wx
  cb : D.cb = b1
  m : D.m = 1
  ci : D.ci = fun _ => 0
  rise : ∀ j, j < k → ∃ m, Rise (D.ls j) m ∧ m ≤ 45
  small : ∀ j, j < k → (D.ls j).length ≤ 15
  own : wx.ownsRow (b3 + 1) 25 1 fs k ((List.range k).map (srcV D))
  free : ∀ g, fs.ownBlock = some g → ¬ Dep D k g
  count : CountIs wx b2 N (fun v => sumN (fun j => (D.ls j).count v) k)
  res : wx.rowIs b0 4 1 (fun _ => .bool false)
  box : wx.rowIs b3 48 1 (fun _ => .map (some b2))
  fr : Fr (fun _ => False) w wx
  low : ∀ q, Dep D k q → q = b1 ∨ b3 ≤ q

/-- One list under way. -/
structure Going (b2 : Nat) (c : Int → Nat) (N q : Nat) (m : Int) (xs : List Int) (l : Value) (wo wr : World) : Prop where
  rise : Rise xs m
  own : wr.ownsRow wo.heap.size 3 1 l q (xs.map (Value.int .i64))
  count : CountIs wr b2 (N + q) (fun v => c v + xs.count v)
  fr : Fr (fun j => j = b2) wo wr

theorem lies_ints {w : World} {B : Nat} {v : Value} {xs : List Int} (h : w.ownsRow B 3 1 v xs.length (xs.map (Value.int .i64))) :
    (v = .slice none 0 0 ∧ xs = []) ∨ ∃ g cap, v = .slice (some ⟨g, 0, none⟩) xs.length cap ∧ B ≤ g ∧ g < w.heap.size ∧ ∀ k x, xs[k]? = some x → w.cell? ((⟨g, 0, none⟩ : Addr).add k) = some (.int .i64 x) := by
  rcases h.2 with ⟨rfl, h0⟩ | ⟨g, cap, cur, rfl, h1, h2, h3, h4⟩
  · exact .inl ⟨rfl, List.eq_nil_of_length_eq_zero h0⟩
  · refine .inr ⟨g, cap, rfl, h1, lt_of_block h2, fun k x hk => ?_⟩
    exact h.cells (g := g) rfl k (.int .i64 x) (by simp [hk])

theorem row_type {w : World} {b n m : Nat} {f g : Nat → Value} (h : w.rowIs b 3 n f) (k : w.rowIs b 48 m g) : False := by
  obtain ⟨c1, h1, _⟩ := h
  obtain ⟨c2, h2, _⟩ := k
  rw [h1] at h2
  injection h2 with h2
  injection h2 with _ h2 _
  cases h2

theorem look_run {w : World} {b N : Nat} {c : Int → Nat} {x : Int} (h : CountIs w b N c) (h0 : 0 ≤ x) (h1 : x ≤ 1000) : (Instr.lookup 48 (.map (some b)) (.int .i64 x) false).run Try.prog w = .ok (.int .i64 (c x : Nat)) w := by
  obtain ⟨D, hm, hM, hc⟩ := h
  obtain ⟨c1, hrun, hat, _⟩ := hm.lookup_int (t := 48) (Maps.int_keyed Try.underlying3) Try.underlying48 Try.underlying3 (Try.zeroValue3 _) (Maps.keyOf_int_mk Try.underlying3 (WalkArith.wf_i64 (n := x) (by omega)))
  rw [hc x h0 h1] at hat
  injection hat with hat
  injection hat with _ hat
  rw [hrun, hat]

theorem upd_run {w : World} {b N : Nat} {c : Int → Nat} {x : Int} {y : Nat} (h : CountIs w b N c) (h0 : 0 ≤ x) (h1 : x ≤ 1000) (hN : N < 100000) (hy : y ≤ 1000) :
    ∃ w', (Instr.mapUpdate 48 (.map (some b)) (.int .i64 x) (.int .i64 (y : Nat))).run Try.prog w = .ok () w' ∧ CountIs w' b (N + 1) (fun v => if v = x then y else c v) ∧ Fr (fun j => j = b) w w' := by
  obtain ⟨D, hm, hM, hc⟩ := h
  obtain ⟨w', hrun, hm', hg⟩ := hm.update (t := 48) (Maps.int_keyed Try.underlying3) Try.underlying48 (by unfold maxLen; omega) (Maps.keyOf_int_mk Try.underlying3 (WalkArith.wf_i64 (n := x) (by omega))) (plainElem_int Try.underlying3 (WalkArith.wf_i64 (n := (y : Int)) (by omega)))
  exact ⟨w', hrun, count_put (x := x) (y := y) h0 h1 hM hc hm' (if_pos rfl) (fun v hv => if_neg hv), Fr.grown hg (fun j hj => by cases hj; rfl)⟩

theorem CountIs.congr {w : World} {b N : Nat} {c c' : Int → Nat} (h : CountIs w b N c) (e : ∀ v, c v = c' v) : CountIs w b N c' := by
  rw [← show c = c' from funext e]; exact h

/-- What a loop's round finds of the caller's own. -/
structure Mid (w : World) (b0 b2 b3 k bw bn bk : Nat) (D : Src) (N kk : Nat) (at_ : Nat → Nat) (was : Int) (W : World) : Prop where
  last : W.rowIs bw 3 1 (fun _ => .int .i64 was)
  num : W.rowIs bn 3 1 (fun _ => .int .i64 (sumN at_ k : Nat))
  kb : W.rowIs bk 3 1 (fun _ => .int .i64 (kk : Nat))
  count : CountIs W b2 (N + sumN at_ k) (remN D.ls at_ k)
  past : Past D.ls k at_ was
  was0 : 0 ≤ was ∧ was ≤ 45
  res : W.rowIs b0 4 1 (fun _ => .bool false)
  box : W.rowIs b3 48 1 (fun _ => .map (some b2))
  fr : Fr (fun _ => False) w W

theorem Mid.keep {w : World} {b0 b2 b3 k bw bn bk : Nat} {D : Src} {N kk : Nat} {at_ : Nat → Nat} {was : Int} {A B : World} {S : Nat → Prop} (M : Mid w b0 b2 b3 k bw bn bk D N kk at_ was A) (f : Fr S A B)
    (hs : ∀ q, S q → q ≠ b0 ∧ q ≠ b2 ∧ q ≠ b3 ∧ q ≠ bw ∧ q ≠ bn ∧ q ≠ bk ∧ w.heap.size ≤ q) : Mid w b0 b2 b3 k bw bn bk D N kk at_ was B :=
  ⟨f.row M.last (fun h => (hs _ h).2.2.2.1 rfl), f.row M.num (fun h => (hs _ h).2.2.2.2.1 rfl), f.row M.kb (fun h => (hs _ h).2.2.2.2.2.1 rfl), M.count.fr f (fun h => (hs _ h).2.1 rfl), M.past, M.was0,
    f.row M.res (fun h => (hs _ h).1 rfl), f.row M.box (fun h => (hs _ h).2.2.1 rfl), M.fr.fresh f (fun j hj h => by have := (hs j h).2.2.2.2.2.2; omega)⟩

theorem Step.bound {D : Src} {n : Nat} {at_ at_' : Nat → Nat} {x : Int} (S : Step D n at_ x at_') (R : ∀ j, j < n → ∃ m, Rise (D.ls j) m ∧ m ≤ 45) : 0 ≤ x ∧ x ≤ 45 := by
  obtain ⟨f, hf, h2, hx, hpx, rfl, hr⟩ := S
  obtain ⟨m, hm, h45⟩ := R f h2
  have := hm.1 _ x hx
  omega

/-- One round of the caller's: the map counts one less, the last number is x, one more has come. -/
theorem Mid.round {w : World} {b0 b2 b3 k bw bn bk : Nat} {D : Src} {N kk : Nat} {at_ at_' : Nat → Nat} {was x : Int} {W W1 : World} (M : Mid w b0 b2 b3 k bw bn bk D N kk at_ was W) (S : Step D k at_ x at_')
    (R : ∀ j, j < k → ∃ m, Rise (D.ls j) m ∧ m ≤ 45) (hw : w.heap.size ≤ b0 ∧ b0 < b2 ∧ b2 < b3 ∧ b3 < bk ∧ bk < bw ∧ bw < bn)
    (hc : CountIs W1 b2 (N + sumN at_ k + 1) (fun v => if v = x then remN D.ls at_' k x else remN D.ls at_ k v)) (f : Fr (fun j => j = b2) W W1) :
    Mid w b0 b2 b3 k bw bn bk D N kk at_' x ((W1.setCell ⟨bw, 0, none⟩ (.int .i64 x)).setCell ⟨bn, 0, none⟩ (.int .i64 ((sumN at_ k : Nat) + 1 : Int))) ∧
      Fr (fun j => j = b2 ∨ j = bw ∨ j = bn) W ((W1.setCell ⟨bw, 0, none⟩ (.int .i64 x)).setCell ⟨bn, 0, none⟩ (.int .i64 ((sumN at_ k : Nat) + 1 : Int))) := by
  have hsum := S.sum
  have hb := S.bound R
  have hp := S.past (fun j hj => (R j hj).imp fun m h => h.1) M.past
  have f2 : Fr (fun j => j = bw ∨ j = bn) W1 ((W1.setCell ⟨bw, 0, none⟩ (.int .i64 x)).setCell ⟨bn, 0, none⟩ (.int .i64 ((sumN at_ k : Nat) + 1 : Int))) :=
    ((Fr.refl (fun j => j = bw ∨ j = bn) W1).setCell (a := ⟨bw, 0, none⟩) (fun _ => .inl rfl) _).setCell (a := ⟨bn, 0, none⟩) (fun _ => .inr rfl) _
  have f3 := (f.mono (S' := fun j => j = b2 ∨ j = bw ∨ j = bn) fun _ _ h => .inl h).trans (f2.mono fun _ _ h => .inr h)
  have f4 : Fr (fun j => j = bw) W1 (W1.setCell ⟨bw, 0, none⟩ (.int .i64 x)) := (Fr.refl (fun j => j = bw) W1).setCell (a := ⟨bw, 0, none⟩) (fun _ => rfl) _
  have f5 : Fr (fun j => j = bn) (W1.setCell ⟨bw, 0, none⟩ (.int .i64 x)) ((W1.setCell ⟨bw, 0, none⟩ (.int .i64 x)).setCell ⟨bn, 0, none⟩ (.int .i64 ((sumN at_ k : Nat) + 1 : Int))) := (Fr.refl (fun j => j = bn) _).setCell (a := ⟨bn, 0, none⟩) (fun _ => rfl) _
  have e : ∀ v, (if v = x then remN D.ls at_' k x else remN D.ls at_ k v) = remN D.ls at_' k v := fun v => by
    by_cases h : v = x
    · subst h; rw [if_pos rfl]
    · rw [if_neg h, S.count v, if_neg (fun h2 => h h2.symm)]; rfl
  refine ⟨⟨(f5.row ((f.row M.last (by omega)).set 0 (.int .i64 x)) (by omega)).congr fun i hi => ?_, ((f4.row (f.row M.num (by omega)) (by omega)).set 0 _).congr fun i hi => ?_, f3.row M.kb (by omega), ?_, hp.2, hb, f3.row M.res (by omega), f3.row M.box (by omega), M.fr.fresh f3 (fun j hj h => by omega)⟩, f3⟩
  · obtain rfl : i = 0 := by omega
    rfl
  · obtain rfl : i = 0 := by omega
    show Value.int .i64 _ = Value.int .i64 _
    rw [hsum]
    exact congrArg _ (by omega)
  · rw [show N + sumN at_' k = N + sumN at_ k + 1 by omega]
    exact (hc.congr e).fr f2 (by omega)

end Go.Proofs.Ytiakgffanplmdaa

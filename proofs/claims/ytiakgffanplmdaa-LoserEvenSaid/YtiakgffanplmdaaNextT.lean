/- The contract of Next at things. -/
import Derived.Test.YtiakgffanplmdaaAskT
namespace Go.Proofs.Ytiakgffanplmdaa.T
open Go.RowKit Go.Deep

set_option maxHeartbeats 2000000 in
theorem next_none {w : World} {less : Value} {b bs cs bh bl n : Nat} {V : Nat → Value} {h : Nat → Th × Bool} {lost : Nat → Nat} (T : TreeIs w less b bs cs bh bl n V h lost) (hL : liveN (hn h) n = 0) :
    Calls Try.prog 17 #[.pointer (some ⟨b, 0, none⟩)] w fun e w' => e = .returned (.tuple #[thV (0, 0, 0), .int .i64 (-1), .bool false]) ∧ Fr (fun _ => False) w w' := by
  have fa : Fr (fun _ => False) w (w.alloc (.cells #[.int .i64 0, .int .i64 0, .int .i64 0] 41)) := (Fr.refl _ _).alloc _
  have hl := live_any _ less b bs cs bh bl n V h lost (T.keep fa id id id id)
  rw [hL] at hl
  have HL := hid' hl
  have HA := hid' fa
  have ra := World.rowIs_alloc w #[.int .i64 0, .int .i64 0, .int .i64 0] 41 (fun _ => .int .i64 0) (fun i hi => by
    match i, hi with
    | 0, _ => rfl
    | 1, _ => rfl
    | 2, _ => rfl)
  clear hl fa
  go_enter Try.func17, Try.ntmps17
  go_wp2_with fail
  refine HL.out.mono ?_
  rintro e w1 ⟨rfl, hf⟩
  have r1 := hf.row ra id
  have HF := hid' (HA.out.trans hf)
  have x0 := r1.cell (i := 0) (by decide)
  have x1 := r1.cell (i := 1) (by decide)
  have x2 := r1.cell (i := 2) (by decide)
  have y0 := r1.frozen 0
  have y1 := r1.frozen 1
  have y2 := r1.frozen 2
  have lt1 := r1.lt
  obtain ⟨g, hg⟩ : ∃ g, w.heap.size = g := ⟨_, rfl⟩
  rw [hg] at x0 x1 x2 y0 y1 y2 lt1 r1 ⊢
  clear hf HL ra
  go_wp2_with fail
  have F3 : Fr (fun k => k = g) w1 ((((w1.setCell ⟨g, 0, none⟩ (.int .i64 0)).setCell ⟨g, 1, none⟩ (.int .i64 0)).setCell ⟨g, 2, none⟩ (.int .i64 0)).alloc (.cells #[.int .i64 0, .int .i64 0, .int .i64 0] 41)) :=
    ((((Fr.refl (fun k => k = g) w1).setCell (a := ⟨g, 0, none⟩) (fun _ => rfl) _).setCell (a := ⟨g, 1, none⟩) (fun _ => rfl) _).setCell (a := ⟨g, 2, none⟩) (fun _ => rfl) _).alloc _
  have hr := (((r1.set 0 (.int .i64 0)).set 1 (.int .i64 0)).set 2 (.int .i64 0)).alloc (.cells #[.int .i64 0, .int .i64 0, .int .i64 0] 41)
  obtain ⟨W, hW⟩ : ∃ W, (((w1.setCell ⟨g, 0, none⟩ (.int .i64 0)).setCell ⟨g, 1, none⟩ (.int .i64 0)).setCell ⟨g, 2, none⟩ (.int .i64 0)).alloc (.cells #[.int .i64 0, .int .i64 0, .int .i64 0] 41) = W := ⟨_, rfl⟩
  rw [hW] at hr F3 ⊢
  have z0 : W.cell? ⟨g, 0, none⟩ = some (.int .i64 0) := hr.cell (i := 0) (by decide)
  have z1 : W.cell? ⟨g, 1, none⟩ = some (.int .i64 0) := hr.cell (i := 1) (by decide)
  have z2 : W.cell? ⟨g, 2, none⟩ = some (.int .i64 0) := hr.cell (i := 2) (by decide)
  exact bodyPost_ret (v := .tuple #[.agg #[.int .i64 0, .int .i64 0, .int .i64 0], .int .i64 (-1), .bool false]) (by simp [results, Try.results17, go_sem, z0, z1, z2]) rfl ⟨rfl, HF.out.fresh F3 (fun j hj h => by have h : j = g := h; omega)⟩

set_option maxHeartbeats 4000000 in
theorem next_some {St : Type} {I : St → World → Prop} {own dep : Nat → Prop} {out : St → Nat → Th × Bool} {nxt : St → Nat → St} {w : World} {b bs cs bh bl n : Nat} {V : Nat → Value} {h : Nat → Th × Bool} {lost : Nat → Nat} (T : TreeIs w lessV b bs cs bh bl n V h lost)
    (R : Srcs n V I own dep out nxt) (hd : ∀ k, dep k → k ≠ b ∧ k ≠ bs ∧ k ≠ bh ∧ k ≠ bl) (hdl : ∀ k, dep k → k < w.heap.size) (s : St) (hI : I s w) (hk : Kept (hn h) n lost) (hL : liveN (hn h) n ≠ 0) :
    Calls Try.prog 17 #[.pointer (some ⟨b, 0, none⟩)] w fun e w' => e = .returned (.tuple #[thV (h (win (hn h) n 1)).1, .int .i64 (win (hn h) n 1 : Nat), .bool true]) ∧
      (∃ lost', TreeIs w' lessV b bs cs bh bl n V (upd h (win (hn h) n 1) (out s (win (hn h) n 1))) lost' ∧ Kept (hn (upd h (win (hn h) n 1) (out s (win (hn h) n 1)))) n lost') ∧ I (nxt s (win (hn h) n 1)) w' ∧ Fr (fun k => own k ∨ k = bh ∨ k = bl) w w' := by
  have fa : Fr (fun _ => False) w (w.alloc (.cells #[.int .i64 0, .int .i64 0, .int .i64 0] 41)) := (Fr.refl _ _).alloc _
  have ra := World.rowIs_alloc w #[.int .i64 0, .int .i64 0, .int .i64 0] 41 (fun _ => .int .i64 0) (fun i hi => by
    match i, hi with
    | 0, _ => rfl
    | 1, _ => rfl
    | 2, _ => rfl)
  have hgx : b < w.heap.size ∧ bs < w.heap.size ∧ bh < w.heap.size ∧ bl < w.heap.size := ⟨T.tree.lt, T.src.lt, T.hands.lt, T.lost.lt⟩
  have T := T.keep fa id id id id
  have hI := R.keep _ _ _ _ hI fa (fun _ h => h.elim)
  have hl := live_any _ lessV b bs cs bh bl n V h lost T
  obtain ⟨hn1, hf1, hfl⟩ := win_live (hn h) n hL
  have hLn := liveN_le (hn h) n
  have hsm := T.small
  obtain ⟨f, hf⟩ : ∃ f, win (hn h) n 1 = f := ⟨_, rfl⟩
  have hl0 : lost 0 = f := by rw [hk.1, hf]
  rw [hf] at hf1 hfl ⊢
  obtain ⟨L, hLL⟩ : ∃ L, liveN (hn h) n = L := ⟨_, rfl⟩
  rw [hLL] at hL hl hLn
  obtain ⟨x, hx⟩ : ∃ x, h f = (x, true) := ⟨(h f).1, by have h2 : (h f).2 = true := hfl; rw [← h2]⟩
  obtain ⟨h', hh'⟩ : ∃ h', upd h f (out s f) = h' := ⟨_, rfl⟩
  have hoff : ∀ j, j ≠ f → hn h' j = hn h j := fun j hj => by rw [← hh']; unfold hn upd; rw [if_neg hj]
  rw [hx, hh']
  obtain ⟨x, x2, x3⟩ := x
  have HA := hid' fa
  have HL := hid' hl
  have HT := hid' T
  have HK := hid' hk
  have HX := hid' hx
  have HW := hid' hf
  have HH := hid' hh'
  have HO := hid' hoff
  have H0 := hid' hl0
  have HI := hid' hI
  clear fa hl T hk hx hf hh' hoff hl0 hLL hI hfl
  go_enter Try.func17, Try.ntmps17
  go_wp2_with fail
  refine HL.out.mono ?_
  rintro e w1 ⟨rfl, hfr1⟩
  have T1 := HT.out.keep hfr1 id id id id
  have I1 := hid' (R.keep _ _ _ _ HI.out hfr1 (fun _ h => h.elim))
  have c3 : w1.cell? ⟨b, 3, none⟩ = some (.slice (some ⟨bl, 0, none⟩) n n) := T1.tree.cell (i := 3) (by omega)
  have c2 : w1.cell? ⟨b, 2, none⟩ = some (.slice (some ⟨bh, 0, none⟩) n n) := T1.tree.cell (i := 2) (by omega)
  have cl : w1.cell? ⟨bl, 0, none⟩ = some (.int .i64 f) := by have := T1.lost.cell (i := 0) (by omega); rw [H0.out] at this; exact this
  have ch0 := T1.hands.cell (i := f * 4) (by omega)
  have ch1 := T1.hands.cell (i := f * 4 + 1) (by omega)
  have ch2 := T1.hands.cell (i := f * 4 + 2) (by omega)
  rw [hcell_0, HX.out] at ch0
  rw [hcell_1, HX.out] at ch1
  rw [hcell_2, HX.out] at ch2
  have r1 := hfr1.row ra id
  have HT1 := hid' T1
  have HF1 := hid' (HA.out.trans hfr1)
  have hw1 := HF1.out.size
  clear T1 hfr1 ra
  obtain ⟨g, hg⟩ : ∃ g, w.heap.size = g := ⟨_, rfl⟩
  rw [hg] at r1 hw1 hgx hdl ⊢
  have lg := r1.lt
  go_wp2_with fail
  have fb : Fr (fun _ => False) w1 (w1.alloc (.cells #[.int .i64 x, .int .i64 x2, .int .i64 x3] 41)) := (Fr.refl _ _).alloc _
  have rb := World.rowIs_alloc w1 #[.int .i64 x, .int .i64 x2, .int .i64 x3] 41 (fun j => (#[.int .i64 x, .int .i64 x2, .int .i64 x3] : Array Value).getD j undef) (fun i hi => by
    match i, hi with
    | 0, _ => rfl
    | 1, _ => rfl
    | 2, _ => rfl)
  have r2 := fb.row r1 id
  have HT1 := hid' (HT1.out.keep fb id id id id)
  have I1 := hid' (R.keep _ _ _ _ I1.out fb (fun _ h => h.elim))
  have HF1 := hid' (HF1.out.trans fb)
  obtain ⟨wB, hwB⟩ : ∃ wB, w1.alloc (.cells #[.int .i64 x, .int .i64 x2, .int .i64 x3] 41) = wB := ⟨_, rfl⟩
  obtain ⟨gx, hgx2⟩ : ∃ gx, w1.heap.size = gx := ⟨_, rfl⟩
  rw [hwB] at rb r2 HT1 I1 HF1 ⊢
  rw [hgx2] at rb lg ⊢
  clear hwB fb r1
  refine (ask_any wB lessV b bs cs bh bl n V h lost HT1.out R hd s I1.out f hf1).mono ?_
  rintro e w2 ⟨rfl, T2, hI2, hfr2⟩
  rw [HH.out] at T2
  have c1 : w2.cell? ⟨b, 1, none⟩ = some (.slice (some ⟨bs, 0, none⟩) n cs) := T2.tree.cell (i := 1) (by omega)
  have hno : ∀ k, own k ∨ k = bh → k < g := fun k h => h.elim (fun h => hdl k (R.sub k h)) (fun h => by omega)
  have rg2 := hid' (hfr2.row r2 (fun h => by have := hno _ h; omega))
  have rx2 := hid' (hfr2.row rb (fun h => by have := hno _ h; omega))
  have HT2 := hid' T2
  have HI2 := hid' hI2
  have HF2 := hid' ((HF1.out.mono fun _ _ h => h.elim).trans (hfr2.mono (S' := fun k => own k ∨ k = bh ∨ k = bl) fun k _ h => h.imp id .inl))
  clear r2 rb T2 hI2 hfr2 c3 c2 cl ch0 ch1 ch2
  have hdiv : ((n : Int) + (f : Int)) / 2 = (((n + f) / 2 : Nat) : Int) := by omega
  have HD := hid' hdiv
  clear hdiv
  go_wp2_with fail
  obtain ⟨g', hg⟩ : ∃ g' : Int, ((n : Int) + (f : Int)) / 2 = g' := ⟨_, rfl⟩
  rw [hg]
  have HGG := hid' hg
  clear hg
  go_loopw [8, 9] (fun now i wr => ∃ (c : Nat) (lost' : Nat → Nat), i = .int .i64 ((c / 2 : Nat) : Int) ∧ now = .int .i64 (win (hn h') n c : Nat) ∧ Replay (hn h) (hn h') n f c lost' ∧ TreeIs wr lessV b bs cs bh bl n V h' lost' ∧ I (nxt s f) wr ∧ Fr (fun k => own k ∨ k = bh ∨ k = bl) w wr ∧ wr.rowIs g 41 3 (fun _ => .int .i64 0) ∧ wr.rowIs gx 41 3 (fun j => (#[.int .i64 x, .int .i64 x2, .int .i64 x3] : Array Value).getD j undef)) (fun _ i _ => (intOf i).toNat)
  case atStart => exact ⟨n + f, lost, by rw [← HGG.out, HD.out], by rw [win_leaf (hn h') n (n + f) (by omega), show n + f - n = f by omega], replay_start (hn h) (hn h') n f lost hf1 HO.out HK.out, HT2.out, HI2.out, HF2.out, rg2.out, rx2.out⟩
  case round =>
    obtain ⟨c, lost', rfl, rfl, hrep, hT, hI, hF, hG, hX⟩ := hrel
    have HG := hid' hG
    have HXX := hid' hX
    have HR := hid' hrep
    have HT3 := hid' hT
    have HI3 := hid' hI
    have HF3 := hid' hF
    have c3 : wr.cell? ⟨b, 3, none⟩ = some (.slice (some ⟨bl, 0, none⟩) n n) := hT.tree.cell (i := 3) (by omega)
    have hcl := hrep.lt
    have hcp := hrep.pos
    have hfr := hT.lost.frozen (c / 2)
    clear hrep hT hI hF hG hX
    by_cases hc : 2 ≤ c
    · have cl := HT3.out.lost.cell (i := c / 2) (by omega)
      have hwc := (win_spec (hn h') n (2 * n) c (by omega) hcp hcl).1
      have hst := replay_step (hn h) (hn h') n f c lost' hn1 HW.out.symm HO.out HR.out hc
      have hlc : lost' (c / 2) < n := by
        rw [HR.out.right (c / 2) (by omega) (by omega) (fun _ => by omega) (over_up n f c HR.out.on)]
        rcases best_or (hn h) (win (hn h) n (2 * (c / 2))) (win (hn h) n (2 * (c / 2) + 1)) with h1 | h1 <;> rw [h1.2]
        · exact (win_spec (hn h) n (2 * n) (2 * (c / 2) + 1) (by omega) (by omega) (by omega)).1
        · exact (win_spec (hn h) n (2 * n) (2 * (c / 2)) (by omega) (by omega) (by omega)).1
      have hpl := play_any wr.drew b bs cs bh bl n V h' lost' (HT3.out.keep ((Fr.refl (fun _ => False) wr).drew) id id id id) (win (hn h') n c) (lost' (c / 2)) hwc hlc
      rw [hst.1] at hpl
      obtain ⟨m, hm⟩ : ∃ m, c / 2 = m := ⟨_, rfl⟩
      have hm1 : 1 ≤ m := by omega
      have hm2 : m < n := by omega
      rw [hm] at cl hst hpl hfr hlc ⊢
      obtain ⟨z, hz⟩ : ∃ z, lost' m = z := ⟨_, rfl⟩
      obtain ⟨y, hy⟩ : ∃ y, win (hn h') n c = y := ⟨_, rfl⟩
      obtain ⟨u, hu⟩ : ∃ u, win (hn h') n m = u := ⟨_, rfl⟩
      obtain ⟨v, hv⟩ : ∃ v, worst (hn h') y z = v := ⟨_, rfl⟩
      rw [hz] at cl hst hpl hlc
      rw [hy] at hst hpl hwc ⊢
      rw [hu] at hst hpl
      rw [hv] at hst hpl
      have HP := hid' hpl
      have HS := hid' hst
      have HU := hid' hu
      clear hst hpl hz hy hu hv hm
      have hm3 : (((m : Nat) : Int) / 2) = ((m / 2 : Nat) : Int) := by omega
      have HM := hid' hm3
      clear hm3
      go_wp2_with fail
      have kp : ∀ w4, Fr (fun _ => False) wr.drew w4 → w4.cell? ⟨b, 3, none⟩ = some (.slice (some ⟨bl, 0, none⟩) n n) := fun w4 hf => (World.cell?_of_block (w := wr) (hf.block b (World.block_lt_of_cell? _ _ c3) id)).trans c3
      have kq : ∀ w4, Fr (fun _ => False) wr.drew w4 → w4.cell? ⟨bl, m, none⟩ = some (.int .i64 z) := fun w4 hf => (World.cell?_of_block (w := wr) (hf.block bl (World.block_lt_of_cell? _ _ cl) id)).trans cl
      have HK1 := hid' kp
      have HK2 := hid' kq
      have kr : ∀ w4, Fr (fun _ => False) wr.drew w4 → w4.frozen? ⟨bl, m, none⟩ = false := fun w4 hf => (World.frozen?_of_block (w := wr) (hf.block bl (World.block_lt_of_cell? _ _ cl) id)).trans hfr
      have HK3 := hid' kr
      clear kp kq kr
      refine wp_plan (fun w' => w'.cell? ⟨b, 3, none⟩ = some (.slice (some ⟨bl, 0, none⟩) n n)) [(0, true), (1, true), (2, true), (3, true), (4, true), (5, true), (6, true), (7, true), (8, true), (9, true), (10, true), (11, true), (12, true), (13, false), (14, false), (15, true), (16, true), (17, true), (18, true), (19, true), (20, false)] _ (by kernel_rfl) (by kernel_rfl) (by simp only [planOps, List.getElem?_toArray, List.getElem?_cons_zero, List.getElem?_cons_succ]; rfl) c3 ?_
      repeat (first | (refine plan_skip rfl ?_; simp only [Act.put, List.setIfInBounds_toArray, List.set_cons_zero, List.set_cons_succ]) | (refine plan_take (v := ?_) rfl ?_ ?_; rotate_left; (focus (intro _ hS; go_simp; first | done | with_reducible rfl)); simp only [Act.put, List.setIfInBounds_toArray, List.set_cons_zero, List.set_cons_succ]) | (refine plan_do rfl fun K hK => ?_; go_simp; (go_at_call 23; refine (HP.out).mono ?_; rintro e w4 ⟨rfl, hf4⟩; have HF4 := hid' hf4; have hz4 := HK3.out _ hf4; have hz5 := HK2.out _ hf4; clear hf4); simp only []; refine hK _ _ (HK1.out _ HF4.out) ?_; clear hK K) | (refine plan_do rfl fun K hK => ?_; go_simp; refine hK _ _ c3 ?_; clear hK K))
      refine plan_do rfl fun K hK => ?_
      go_simp
      have F5 : Fr (fun k => k = bl) wr (w4.setCell ⟨bl, m, none⟩ (.int .i64 v)) := Fr.setCell (S := fun k => k = bl) (((Fr.refl (fun _ => False) wr).drew.trans HF4.out).mono fun _ _ h => h.elim) (a := ⟨bl, m, none⟩) (fun _ => rfl) _
      refine hK _ _ ((World.cell?_of_block (w := wr) (F5.block b (World.block_lt_of_cell? _ _ c3) HT3.out.ne2)).trans c3) ?_
      have HF5 := hid' F5
      clear hK K F5
      refine plan_nil ?_
      go_wp2_with fail
      go_roundw
      case rel =>
        have T4 := HT3.out.keep ((Fr.refl (fun _ => False) wr).drew.trans HF4.out) id id id id
        have T := HT3.out
        exact ⟨m, fun i => if i = m then v else lost' i, by rw [← HM.out], by rw [HU.out], HS.out.2, ⟨HF5.out.row T.tree T.ne2, HF5.out.cells T.src T.ne4, HF5.out.row T.hands T.ne5, (T4.lost.set m _).congr fun j _ => by by_cases hj : j = m <;> simp [hj], T.small, T.ne1, T.ne2, T.ne3, T.ne4, T.ne5⟩,
          R.keep _ _ _ _ HI3.out HF5.out (fun k hk h => (hd k h).2.2.2 hk), HF3.out.trans (HF5.out.mono fun k _ h => .inr (.inr h)), HF5.out.row HG.out (by omega), HF5.out.row HXX.out (by omega)⟩
      case measure => simp [intOf]; omega
    · obtain rfl : c = 1 := by omega
      have kp := hid' (replay_end (hn h) (hn h') n f lost' HR.out)
      obtain ⟨u, hu⟩ : ∃ u, win (hn h') n 1 = u := ⟨_, rfl⟩
      rw [hu] at kp ⊢
      have cl := HT3.out.lost.cell (i := 0) (by omega)
      have hfr0 : wr.frozen? ⟨bl, 0, none⟩ = false := hfr
      have F5 : Fr (fun k => k = bl) wr (wr.setCell ⟨bl, 0, none⟩ (.int .i64 u)) := Fr.setCell (S := fun k => k = bl) (Fr.refl _ _) (a := ⟨bl, 0, none⟩) (fun _ => rfl) _
      go_upto_region 13 with (fail)
      have T := HT3.out
      have hTn : TreeIs (wr.setCell ⟨bl, 0, none⟩ (.int .i64 u)) lessV b bs cs bh bl n V h' (fun i => if i = 0 then u else lost' i) := ⟨F5.row T.tree T.ne2, F5.cells T.src T.ne4, F5.row T.hands T.ne5, (T.lost.set 0 _).congr fun j _ => by by_cases hj : j = 0 <;> simp [hj], T.small, T.ne1, T.ne2, T.ne3, T.ne4, T.ne5⟩
      have hIn := R.keep _ _ _ _ HI3.out F5 (fun k hk h => (hd k h).2.2.2 hk)
      have hFn := HF3.out.trans (F5.mono fun k _ h => .inr (.inr h))
      have hG5 := F5.row HG.out (show ¬ g = bl by omega)
      have hX5 := F5.row HXX.out (show ¬ gx = bl by omega)
      obtain ⟨W, hW⟩ : ∃ W, wr.setCell ⟨bl, 0, none⟩ (.int .i64 u) = W := ⟨_, rfl⟩
      rw [hW] at hTn hIn hFn hG5 hX5 ⊢
      have x0 : W.cell? ⟨gx, 0, none⟩ = some (.int .i64 x) := hX5.cell (i := 0) (by decide)
      have x1 : W.cell? ⟨gx, 1, none⟩ = some (.int .i64 x2) := hX5.cell (i := 1) (by decide)
      have x2' : W.cell? ⟨gx, 2, none⟩ = some (.int .i64 x3) := hX5.cell (i := 2) (by decide)
      have y0 : W.cell? ⟨g, 0, none⟩ = some (.int .i64 0) := hG5.cell (i := 0) (by decide)
      have y1 : W.cell? ⟨g, 1, none⟩ = some (.int .i64 0) := hG5.cell (i := 1) (by decide)
      have y2 : W.cell? ⟨g, 2, none⟩ = some (.int .i64 0) := hG5.cell (i := 2) (by decide)
      have v0 := hG5.frozen 0
      have v1 := hG5.frozen 1
      have v2 := hG5.frozen 2
      have HTn := hid' hTn
      have HIn := hid' hIn
      have HFn := hid' hFn
      have HG5 := hid' hG5
      clear hTn hIn hFn hX5 hG5 F5 hW T cl c3 hfr0
      go_wp2_with fail
      have F6 : Fr (fun k => k = g) W (((W.setCell ⟨g, 0, none⟩ (.int .i64 x)).setCell ⟨g, 1, none⟩ (.int .i64 x2)).setCell ⟨g, 2, none⟩ (.int .i64 x3)) :=
        (((Fr.refl (fun k => k = g) W).setCell (a := ⟨g, 0, none⟩) (fun _ => rfl) _).setCell (a := ⟨g, 1, none⟩) (fun _ => rfl) _).setCell (a := ⟨g, 2, none⟩) (fun _ => rfl) _
      have hr := ((HG5.out.set 0 (.int .i64 x)).set 1 (.int .i64 x2)).set 2 (.int .i64 x3)
      obtain ⟨W2, hW2⟩ : ∃ W2, ((W.setCell ⟨g, 0, none⟩ (.int .i64 x)).setCell ⟨g, 1, none⟩ (.int .i64 x2)).setCell ⟨g, 2, none⟩ (.int .i64 x3) = W2 := ⟨_, rfl⟩
      rw [hW2] at hr F6 ⊢
      have z0 : W2.cell? ⟨g, 0, none⟩ = some (.int .i64 x) := hr.cell (i := 0) (by decide)
      have z1 : W2.cell? ⟨g, 1, none⟩ = some (.int .i64 x2) := hr.cell (i := 1) (by decide)
      have z2 : W2.cell? ⟨g, 2, none⟩ = some (.int .i64 x3) := hr.cell (i := 2) (by decide)
      exact bodyPost_ret (v := .tuple #[.agg #[.int .i64 x, .int .i64 x2, .int .i64 x3], .int .i64 f, .bool true]) (by simp [results, Try.results17, go_sem, z0, z1, z2]) rfl
        ⟨rfl, ⟨_, HTn.out.keep F6 (by omega) (by omega) (by omega) (by omega), kp.out⟩, R.keep _ _ _ _ HIn.out F6 (fun k hk h => by have := hdl k h; have hk : k = g := hk; omega), HFn.out.fresh F6 (fun j hj h => by have h : j = g := h; omega)⟩

end Go.Proofs.Ytiakgffanplmdaa.T

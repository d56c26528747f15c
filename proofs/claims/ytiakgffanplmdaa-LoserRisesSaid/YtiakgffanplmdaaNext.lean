/- The contract of Next. -/
import Derived.Test.YtiakgffanplmdaaAsk
namespace Go.Proofs.Ytiakgffanplmdaa
open Go.RowKit Go.Deep

theorem live_some (h : Nat → Int × Bool) : ∀ n, liveN h n ≠ 0 → ∃ j, j < n ∧ (h j).2 = true
  | 0, hn => absurd rfl hn
  | n + 1, hn => by
    by_cases h1 : (h n).2 = true
    · exact ⟨n, by omega, h1⟩
    · rw [liveN, if_neg h1] at hn
      obtain ⟨j, hj, h2⟩ := live_some h n (by omega)
      exact ⟨j, by omega, h2⟩

theorem ahead_live (h : Nat → Int × Bool) (a b : Nat) (h1 : ahead h a b = true) (h2 : (h b).2 = true) : (h a).2 = true := by
  unfold ahead at h1
  cases ha : (h a).2
  · simp [ha, h2] at h1
  · rfl

theorem win_live (h : Nat → Int × Bool) (n : Nat) (hn : liveN h n ≠ 0) : 1 ≤ n ∧ win h n 1 < n ∧ (h (win h n 1)).2 = true := by
  obtain ⟨j, hj, h2⟩ := live_some h n hn
  have hr := win_root h n (by omega)
  exact ⟨by omega, hr.1, ahead_live h _ _ (hr.2 j hj) h2⟩

theorem upd_ne (h : Nat → Int × Bool) (i : Nat) (x : Int × Bool) (j : Nat) (hj : j ≠ i) : upd h i x j = h j := by
  unfold upd
  rw [if_neg hj]

set_option maxHeartbeats 2000000 in
theorem next_none {w : World} {less : Value} {b bs cs bh bl n : Nat} {V : Nat → Value} {h : Nat → Int × Bool} {lost : Nat → Nat} (T : TreeIs w less b bs cs bh bl n V h lost) (hL : liveN h n = 0) :
    Calls Try.prog 11 #[.pointer (some ⟨b, 0, none⟩)] w fun e w' => e = .returned (.tuple #[.int .i64 0, .int .i64 (-1), .bool false]) ∧ Fr (fun _ => False) w w' := by
  have hl := live_any w less b bs cs bh bl n V h lost T
  rw [hL] at hl
  have HL := hid' hl
  clear hl
  go_enter Try.func11, Try.ntmps11
  go_wp2_with fail
  refine HL.out.mono ?_
  rintro e w1 ⟨rfl, hf⟩
  have HF := hid' hf
  clear hf
  go_wp2_with fail
  go_ret3
  exact ⟨rfl, HF.out⟩

set_option maxHeartbeats 4000000 in
theorem next_some {St : Type} {I : St → World → Prop} {own dep : Nat → Prop} {out : St → Nat → Int × Bool} {nxt : St → Nat → St} {w : World} {b bs cs bh bl n : Nat} {V : Nat → Value} {h : Nat → Int × Bool} {lost : Nat → Nat} (T : TreeIs w lessV b bs cs bh bl n V h lost)
    (R : Srcs n V I own dep out nxt) (hd : ∀ k, dep k → k ≠ b ∧ k ≠ bs ∧ k ≠ bh ∧ k ≠ bl) (s : St) (hI : I s w) (hk : Kept h n lost) (hL : liveN h n ≠ 0) :
    Calls Try.prog 11 #[.pointer (some ⟨b, 0, none⟩)] w fun e w' => e = .returned (.tuple #[.int .i64 (h (win h n 1)).1, .int .i64 (win h n 1 : Nat), .bool true]) ∧
      (∃ lost', TreeIs w' lessV b bs cs bh bl n V (upd h (win h n 1) (out s (win h n 1))) lost' ∧ Kept (upd h (win h n 1) (out s (win h n 1))) n lost') ∧ I (nxt s (win h n 1)) w' ∧ Fr (fun k => own k ∨ k = bh ∨ k = bl) w w' := by
  have hl := live_any w lessV b bs cs bh bl n V h lost T
  obtain ⟨hn1, hf1, hfl⟩ := win_live h n hL
  have hLn := liveN_le h n
  have hn := T.small
  obtain ⟨f, hf⟩ : ∃ f, win h n 1 = f := ⟨_, rfl⟩
  have hl0 : lost 0 = f := by rw [hk.1, hf]
  rw [hf] at hf1 hfl ⊢
  obtain ⟨L, hLL⟩ : ∃ L, liveN h n = L := ⟨_, rfl⟩
  rw [hLL] at hL hl hLn
  obtain ⟨x, hx⟩ : ∃ x, h f = (x, true) := ⟨(h f).1, by rw [← hfl]⟩
  obtain ⟨h', hh'⟩ : ∃ h', upd h f (out s f) = h' := ⟨_, rfl⟩
  have hoff : ∀ j, j ≠ f → h' j = h j := fun j hj => by rw [← hh']; exact upd_ne h f _ j hj
  rw [hx, hh']
  have HL := hid' hl
  have HT := hid' T
  have HK := hid' hk
  have HX := hid' hx
  have HW := hid' hf
  have HH := hid' hh'
  have HO := hid' hoff
  have H0 := hid' hl0
  have HI := hid' hI
  clear hl T hk hx hf hh' hoff hl0 hLL hI hfl
  go_enter Try.func11, Try.ntmps11
  go_wp2_with fail
  refine HL.out.mono ?_
  rintro e w1 ⟨rfl, hfr1⟩
  have T1 := HT.out.keep hfr1 id id id id
  have I1 := hid' (R.keep _ _ _ _ HI.out hfr1 (fun _ h => h.elim))
  have c3 : w1.cell? ⟨b, 3, none⟩ = some (.slice (some ⟨bl, 0, none⟩) n n) := T1.tree.cell (i := 3) (by omega)
  have c2 : w1.cell? ⟨b, 2, none⟩ = some (.slice (some ⟨bh, 0, none⟩) n n) := T1.tree.cell (i := 2) (by omega)
  have cl : w1.cell? ⟨bl, 0, none⟩ = some (.int .i64 f) := by have := T1.lost.cell (i := 0) (by omega); rw [H0.out] at this; exact this
  have ch := T1.hands.cell (i := f * 2) (by omega)
  rw [hcell_even, HX.out] at ch
  have HT1 := hid' T1
  have HF1 := hid' hfr1
  clear T1 hfr1
  go_wp2_with fail
  refine (ask_any w1 lessV b bs cs bh bl n V h lost HT1.out R hd s I1.out f hf1).mono ?_
  rintro e w2 ⟨rfl, T2, hI2, hfr2⟩
  rw [HH.out] at T2
  have c1 : w2.cell? ⟨b, 1, none⟩ = some (.slice (some ⟨bs, 0, none⟩) n cs) := T2.tree.cell (i := 1) (by omega)
  have HT2 := hid' T2
  have HI2 := hid' hI2
  have HF2 := hid' ((HF1.out.mono fun _ _ h => h.elim).trans (hfr2.mono (S' := fun k => own k ∨ k = bh ∨ k = bl) fun k _ h => h.imp id .inl))
  clear T2 hI2 hfr2 c3 c2 cl ch
  have hdiv : ((n : Int) + (f : Int)) / 2 = (((n + f) / 2 : Nat) : Int) := by omega
  have HD := hid' hdiv
  clear hdiv
  go_wp2_with fail
  obtain ⟨g, hg⟩ : ∃ g : Int, ((n : Int) + (f : Int)) / 2 = g := ⟨_, rfl⟩
  rw [hg]
  have HG := hid' hg
  clear hg
  go_loopw [8, 9] (fun now i wr => ∃ (c : Nat) (lost' : Nat → Nat), i = .int .i64 ((c / 2 : Nat) : Int) ∧ now = .int .i64 (win h' n c : Nat) ∧ Replay h h' n f c lost' ∧ TreeIs wr lessV b bs cs bh bl n V h' lost' ∧ I (nxt s f) wr ∧ Fr (fun k => own k ∨ k = bh ∨ k = bl) w wr) (fun _ i _ => (intOf i).toNat)
  case atStart => exact ⟨n + f, lost, by rw [← HG.out, HD.out], by rw [win_leaf h' n (n + f) (by omega), show n + f - n = f by omega], replay_start h h' n f lost hf1 HO.out HK.out, HT2.out, HI2.out, HF2.out⟩
  case round =>
    obtain ⟨c, lost', rfl, rfl, hrep, hT, hI, hF⟩ := hrel
    have HR := hid' hrep
    have HT3 := hid' hT
    have HI3 := hid' hI
    have HF3 := hid' hF
    have c3 : wr.cell? ⟨b, 3, none⟩ = some (.slice (some ⟨bl, 0, none⟩) n n) := hT.tree.cell (i := 3) (by omega)
    have hcl := hrep.lt
    have hcp := hrep.pos
    have hfr := hT.lost.frozen (c / 2)
    clear hrep hT hI hF
    by_cases hc : 2 ≤ c
    · have cl := HT3.out.lost.cell (i := c / 2) (by omega)
      have hwc := (win_spec h' n (2 * n) c (by omega) hcp hcl).1
      have hst := replay_step h h' n f c lost' hn1 HW.out.symm HO.out HR.out hc
      have hlc : lost' (c / 2) < n := by
        rw [HR.out.right (c / 2) (by omega) (by omega) (fun _ => by omega) (over_up n f c HR.out.on)]
        rcases best_or h (win h n (2 * (c / 2))) (win h n (2 * (c / 2) + 1)) with h1 | h1 <;> rw [h1.2]
        · exact (win_spec h n (2 * n) (2 * (c / 2) + 1) (by omega) (by omega) (by omega)).1
        · exact (win_spec h n (2 * n) (2 * (c / 2)) (by omega) (by omega) (by omega)).1
      have hpl := play_any wr.drew b bs cs bh bl n V h' lost' (HT3.out.keep ((Fr.refl (fun _ => False) wr).drew) id id id id) (win h' n c) (lost' (c / 2)) hwc hlc
      rw [hst.1] at hpl
      obtain ⟨m, hm⟩ : ∃ m, c / 2 = m := ⟨_, rfl⟩
      have hm1 : 1 ≤ m := by omega
      have hm2 : m < n := by omega
      rw [hm] at cl hst hpl hfr hlc ⊢
      obtain ⟨z, hz⟩ : ∃ z, lost' m = z := ⟨_, rfl⟩
      obtain ⟨y, hy⟩ : ∃ y, win h' n c = y := ⟨_, rfl⟩
      obtain ⟨u, hu⟩ : ∃ u, win h' n m = u := ⟨_, rfl⟩
      obtain ⟨v, hv⟩ : ∃ v, worst h' y z = v := ⟨_, rfl⟩
      rw [hz] at cl hst hpl hlc
      rw [hy] at hst hpl hwc ⊢
      rw [hu] at hst hpl
      rw [hv] at hst hpl
      have HP := hid' hpl
      have HS := hid' hst
      have HU := hid' hu
      clear hst hpl hz hy hu hv hm
      have hm3 : (((m : Nat) : Int) / 2) = ((m / 2 : Nat) : Int) := by omega
      have HM := hid' hm3
      clear hm3
      go_wp2_with fail
      have kp : ∀ w4, Fr (fun _ => False) wr.drew w4 → w4.cell? ⟨b, 3, none⟩ = some (.slice (some ⟨bl, 0, none⟩) n n) := fun w4 hf => (World.cell?_of_block (w := wr) (hf.block b (World.block_lt_of_cell? _ _ c3) id)).trans c3
      have kq : ∀ w4, Fr (fun _ => False) wr.drew w4 → w4.cell? ⟨bl, m, none⟩ = some (.int .i64 z) := fun w4 hf => (World.cell?_of_block (w := wr) (hf.block bl (World.block_lt_of_cell? _ _ cl) id)).trans cl
      have HK1 := hid' kp
      have HK2 := hid' kq
      have kr : ∀ w4, Fr (fun _ => False) wr.drew w4 → w4.frozen? ⟨bl, m, none⟩ = false := fun w4 hf => (World.frozen?_of_block (w := wr) (hf.block bl (World.block_lt_of_cell? _ _ cl) id)).trans hfr
      have HK3 := hid' kr
      clear kp kq kr
      refine wp_plan (fun w' => w'.cell? ⟨b, 3, none⟩ = some (.slice (some ⟨bl, 0, none⟩) n n)) [(0, true), (1, true), (2, true), (3, true), (4, true), (5, true), (6, true), (7, true), (8, true), (9, true), (10, true), (11, true), (12, true), (13, false), (14, false), (15, true), (16, true), (17, true), (18, true), (19, true), (20, false)] _ (by kernel_rfl) (by kernel_rfl) (by simp only [planOps, List.getElem?_toArray, List.getElem?_cons_zero, List.getElem?_cons_succ]; rfl) c3 ?_
      repeat (first | (refine plan_skip rfl ?_; simp only [Act.put, List.setIfInBounds_toArray, List.set_cons_zero, List.set_cons_succ]) | (refine plan_take (v := ?_) rfl ?_ ?_; rotate_left; (focus (intro _ hS; go_simp; first | done | with_reducible rfl)); simp only [Act.put, List.setIfInBounds_toArray, List.set_cons_zero, List.set_cons_succ]) | (refine plan_do rfl fun K hK => ?_; go_simp; (go_at_call 20; refine (HP.out).mono ?_; rintro e w4 ⟨rfl, hf4⟩; have HF4 := hid' hf4; have hz4 := HK3.out _ hf4; have hz5 := HK2.out _ hf4; clear hf4); simp only []; refine hK _ _ (HK1.out _ HF4.out) ?_; clear hK K) | (refine plan_do rfl fun K hK => ?_; go_simp; refine hK _ _ c3 ?_; clear hK K))
      refine plan_do rfl fun K hK => ?_
      go_simp
      have F5 : Fr (fun k => k = bl) wr (w4.setCell ⟨bl, m, none⟩ (.int .i64 v)) := Fr.setCell (S := fun k => k = bl) (((Fr.refl (fun _ => False) wr).drew.trans HF4.out).mono fun _ _ h => h.elim) (a := ⟨bl, m, none⟩) (fun _ => rfl) _
      refine hK _ _ ((World.cell?_of_block (w := wr) (F5.block b (World.block_lt_of_cell? _ _ c3) HT3.out.ne2)).trans c3) ?_
      have HF5 := hid' F5
      clear hK K F5
      refine plan_nil ?_
      go_wp2_with fail
      go_roundw
      case rel =>
        have T4 := HT3.out.keep ((Fr.refl (fun _ => False) wr).drew.trans HF4.out) id id id id
        have T := HT3.out
        exact ⟨m, fun i => if i = m then v else lost' i, by rw [← HM.out], by rw [HU.out], HS.out.2, ⟨HF5.out.row T.tree T.ne2, HF5.out.cells T.src T.ne4, HF5.out.row T.hands T.ne5, (T4.lost.set m _).congr fun j _ => by by_cases hj : j = m <;> simp [hj], T.small, T.ne1, T.ne2, T.ne3, T.ne4, T.ne5⟩,
          R.keep _ _ _ _ HI3.out HF5.out (fun k hk h => (hd k h).2.2.2 hk), HF3.out.trans (HF5.out.mono fun k _ h => .inr (.inr h))⟩
      case measure => simp [intOf]; omega
    · obtain rfl : c = 1 := by omega
      have kp := hid' (replay_end h h' n f lost' HR.out)
      obtain ⟨u, hu⟩ : ∃ u, win h' n 1 = u := ⟨_, rfl⟩
      rw [hu] at kp ⊢
      have cl := HT3.out.lost.cell (i := 0) (by omega)
      have hfr0 : wr.frozen? ⟨bl, 0, none⟩ = false := hfr
      go_wp2_with fail
      go_ret3
      have F5 : Fr (fun k => k = bl) wr (wr.setCell ⟨bl, 0, none⟩ (.int .i64 u)) := ((Fr.refl (fun k => k = bl) wr).setCell (a := ⟨bl, 0, none⟩) (fun _ => rfl) _)
      have T := HT3.out
      exact ⟨rfl, ⟨fun i => if i = 0 then u else lost' i, ⟨F5.row T.tree T.ne2, F5.cells T.src T.ne4, F5.row T.hands T.ne5, (T.lost.set 0 _).congr fun j _ => by by_cases hj : j = 0 <;> simp [hj], T.small, T.ne1, T.ne2, T.ne3, T.ne4, T.ne5⟩, kp.out⟩,
        R.keep _ _ _ _ HI3.out F5 (fun k hk h => (hd k h).2.2.2 hk), HF3.out.trans (F5.mono fun k _ h => .inr (.inr h))⟩

end Go.Proofs.Ytiakgffanplmdaa

/- The contract of LoserRuns. -/
import Derived.Test.YtiakgffanplmdaaRun
import Derived.Deep.AppendLies
namespace Go.Proofs.Ytiakgffanplmdaa
open Go.RowKit Go.Deep

theorem Fr.owns {S : Nat → Prop} {w w' : World} (f : Fr S w w') {base : Nat} {e : TypeId} {size : Nat} {v : Value} {n : Nat} {xs : List Value} (h : w.ownsRow base e size v n xs) (hs : ∀ k, base ≤ k → ¬ S k) : w'.ownsRow base e size v n xs := by
  refine ⟨h.1, ?_⟩
  rcases h.2 with h | ⟨g, cap, cur, h1, h2, h3, h4⟩
  · exact .inl h
  · exact .inr ⟨g, cap, cur, h1, h2, f.blk h3 (hs g h2), h4⟩

/-- k times Next. -/
def steps (D : Src) (n : Nat) (at0 : Nat → Nat) : Nat → (Nat → Nat) × List Value
  | 0 => (at0, [])
  | k + 1 =>
    let s := steps D n at0 k
    if liveN (peek D n s.1) n = 0 then s
    else let f := win (peek D n s.1) n 1
      (more s.1 f, s.2 ++ [.int .i64 (peek D n s.1 f).1, .int .i64 f])

theorem steps_length (D : Src) (n : Nat) (at0 : Nat → Nat) : ∀ k, (steps D n at0 k).2.length ≤ 2 * k
  | 0 => by simp [steps]
  | k + 1 => by
    have := steps_length D n at0 k
    rw [steps]
    split
    · omega
    · simp; omega

theorem steps_none (D : Src) (n : Nat) (at0 : Nat → Nat) (k : Nat) (h : liveN (peek D n (steps D n at0 k).1) n = 0) : steps D n at0 (k + 1) = steps D n at0 k := by rw [steps]; simp only [h, if_true]
theorem steps_some (D : Src) (n : Nat) (at0 : Nat → Nat) (k : Nat) (h : liveN (peek D n (steps D n at0 k).1) n ≠ 0) : steps D n at0 (k + 1) = (more (steps D n at0 k).1 (win (peek D n (steps D n at0 k).1) n 1), (steps D n at0 k).2 ++ [.int .i64 (peek D n (steps D n at0 k).1 (win (peek D n (steps D n at0 k).1) n 1)).1, .int .i64 (win (peek D n (steps D n at0 k).1) n 1 : Nat)]) := by
  rw [steps]; simp only [if_neg h]

/-- The three sources of the closed sentence. -/
def three (cb a1 t1 l1 a2 t2 l2 a3 t3 l3 g1 g2 : Nat) : Src :=
  ((Src.add ⟨fun _ => 0, fun _ => 0, fun _ => 0, fun _ => .nilFunc, fun _ => [], fun _ => 0, fun _ => ⟨0, 0, none⟩, fun _ => 0, cb, 1, fun _ => 0⟩ 0 a1 t1 l1 (.slice (some ⟨g1, 0, none⟩) 2 2) [1, 4] g1 ⟨g1, 0, none⟩ 2).add 1 a2 t2 l2 (.slice (some ⟨g2, 0, none⟩) 2 2) [1, 3] g2 ⟨g2, 0, none⟩ 2).add 2 a3 t3 l3 (.slice none 0 0) [] l3 ⟨l3, 0, none⟩ 0

theorem three_live (cb a1 t1 l1 a2 t2 l2 a3 t3 l3 g1 g2 : Nat) : liveN (peek (three cb a1 t1 l1 a2 t2 l2 a3 t3 l3 g1 g2) 3 (fun _ => 0)) 3 = 2 := by kernel_rfl
theorem three_steps (cb a1 t1 l1 a2 t2 l2 a3 t3 l3 g1 g2 : Nat) : (steps (three cb a1 t1 l1 a2 t2 l2 a3 t3 l3 g1 g2) 3 (fun _ => 0) 5).2 = [.int .i64 1, .int .i64 0, .int .i64 1, .int .i64 1, .int .i64 3, .int .i64 1, .int .i64 4, .int .i64 0] := by kernel_rfl
theorem three_end (cb a1 t1 l1 a2 t2 l2 a3 t3 l3 g1 g2 : Nat) : liveN (peek (three cb a1 t1 l1 a2 t2 l2 a3 t3 l3 g1 g2) 3 (steps (three cb a1 t1 l1 a2 t2 l2 a3 t3 l3 g1 g2) 3 (fun _ => 0) 5).1) 3 = 0 := by kernel_rfl


set_option maxHeartbeats 4000000 in
theorem loserRuns_any (w : World) : Calls Try.prog 3 #[] w fun e w' => e = .returned (.bool true) ∧ Fr (fun _ => False) w w' := by
  go_enter Try.func3, Try.ntmps3
  go_wp2_with fail
  have rcb := (row_one w (.int .i64 0) 3).alloc (.cells #[.int .i64 1, .int .i64 4] 3)
  have hga := blk_alloc_new (w.alloc (.cells #[.int .i64 0] 3)) (.cells #[.int .i64 1, .int .i64 4] 3)
  have fa : Fr (fun _ => False) w ((w.alloc (.cells #[.int .i64 0] 3)).alloc (.cells #[.int .i64 1, .int .i64 4] 3)) := ((Fr.refl _ w).alloc _).alloc _
  have hsz : (w.alloc (.cells #[.int .i64 0] 3)).heap.size = w.heap.size + 1 := by simp
  rw [hsz] at hga
  obtain ⟨cb, hcb⟩ : ∃ cb, w.heap.size = cb := ⟨_, rfl⟩
  obtain ⟨wa, hwa⟩ : ∃ wa, (w.alloc (.cells #[.int .i64 0] 3)).alloc (.cells #[.int .i64 1, .int .i64 4] 3) = wa := ⟨_, rfl⟩
  rw [hwa] at rcb hga fa ⊢
  rw [hcb] at rcb hga ⊢
  have lga := lt_of_block hga
  have lie1 : ∀ (k : Nat) (x : Int), [(1 : Int), 4][k]? = some x → wa.cell? ((⟨cb + 1, 0, none⟩ : Addr).add k) = some (.int .i64 x) := by
    intro k x hk
    rw [add_flat]
    match k, hk with
    | 0, hk => simp at hk; subst hk; simp [World.cell?, hga]
    | 1, hk => simp at hk; subst hk; simp [World.cell?, hga]
  have H0 := holds_none ⟨fun _ => 0, fun _ => 0, fun _ => 0, fun _ => .nilFunc, fun _ => [], fun _ => 0, fun _ => ⟨0, 0, none⟩, fun _ => 0, cb, 1, fun _ => 0⟩ wa rcb
  refine (source_any wa _ _ rfl rfl).mono ?_
  rintro e w1 ⟨a1, t1, l1, rfl, hA, hT, hL, hTA, hTL, rA, rT, rL, f1⟩
  have H1 := holds_add H0 f1 hA hT hL hTA hTL rA rT rL (ls := [1, 4]) (db := cb + 1) (ad := ⟨cb + 1, 0, none⟩) (cap := 2) (.inr ⟨rfl, fun k x hk => ⟨rfl, (World.cell?_of_block (w := wa) (by rw [add_blk]; exact f1.block _ lga id)).trans (lie1 k x hk)⟩⟩) (by simp) (by simp) (fun k hk => by omega) (show cb + 1 ≠ t1 by omega) (by simp) (show cb + 1 < _ by have := f1.size; omega)
  have F1 := fa.trans f1
  have pt1 : cb ≤ t1 := by omega
  clear H0 hA hT hL hTA hTL rA rT rL lie1 fa rcb hga
  have G1 := f1.size
  have HH1 := hid' H1
  have HF1 := hid' F1
  clear H1 F1 f1
  go_wp2_with fail
  have hgb := blk_alloc_new w1 (.cells #[.int .i64 1, .int .i64 3] 3)
  have fb : Fr (fun _ => False) w1 (w1.alloc (.cells #[.int .i64 1, .int .i64 3] 3)) := (Fr.refl _ w1).alloc _
  obtain ⟨g2, hg2⟩ : ∃ g2, w1.heap.size = g2 := ⟨_, rfl⟩
  obtain ⟨wb, hwb⟩ : ∃ wb, w1.alloc (.cells #[.int .i64 1, .int .i64 3] 3) = wb := ⟨_, rfl⟩
  rw [hwb] at hgb fb ⊢
  rw [hg2] at hgb ⊢
  have lgb := lt_of_block hgb
  have lie2 : ∀ (k : Nat) (x : Int), [(1 : Int), 3][k]? = some x → wb.cell? ((⟨g2, 0, none⟩ : Addr).add k) = some (.int .i64 x) := by
    intro k x hk
    rw [add_flat]
    match k, hk with
    | 0, hk => simp at hk; subst hk; simp [World.cell?, hgb]
    | 1, hk => simp at hk; subst hk; simp [World.cell?, hgb]
  have H2 := HH1.out.keep fb (fun _ h => h.elim)
  have F2 := HF1.out.trans fb
  refine (source_any wb _ _ rfl rfl).mono ?_
  rintro e w2 ⟨a2, t2, l2, rfl, hA, hT, hL, hTA, hTL, rA, rT, rL, f2⟩
  have qt1 : t1 < w1.heap.size := (HH1.out.t 0 (by omega)).lt
  have qcb : cb < w1.heap.size := HH1.out.c.lt
  have qs := fb.size
  have H3 := holds_add H2 f2 hA hT hL hTA hTL rA rT rL (ls := [1, 3]) (db := g2) (ad := ⟨g2, 0, none⟩) (cap := 2) (.inr ⟨rfl, fun k x hk => ⟨rfl, (World.cell?_of_block (w := wb) (by rw [add_blk]; exact f2.block _ lgb id)).trans (lie2 k x hk)⟩⟩) (by simp [Src.add])
    (show g2 ≠ cb by omega) (fun k hk => by obtain rfl : k = 0 := by omega
                                            show t1 ≠ g2; omega) (show g2 ≠ t2 by omega) (by simp) (show g2 < _ by have := f2.size; omega)
  have G2 := f2.size
  have HH3 := hid' H3
  have HF3 := hid' (F2.trans f2)
  have qt2 : t2 < w2.heap.size := rT.lt
  have pt2 : cb ≤ t2 := by omega
  clear H3 H2 F2 f2 hA hT hL hTA hTL rA rT rL lie2 fb hgb hwa hwb HH1 HF1
  go_wp2_with fail
  refine (source_any w2 _ _ rfl rfl).mono ?_
  rintro e w3 ⟨a3, t3, l3, rfl, hA, hT, hL, hTA, hTL, rA, rT, rL, f3⟩
  have qcb2 : cb < w2.heap.size := HH3.out.c.lt
  have ql3 : l3 < w3.heap.size := rL.lt
  have H4 := holds_add HH3.out f3 hA hT hL hTA hTL rA rT rL (ls := []) (db := l3) (ad := ⟨l3, 0, none⟩) (cap := 0) (.inl ⟨rfl, rfl⟩) (by simp [Src.add])
    (show l3 ≠ cb by omega) (fun k hk => by
      rcases (show k = 0 ∨ k = 1 by omega) with rfl | rfl
      · show t1 ≠ l3; omega
      · show t2 ≠ l3; omega) (fun e => hTL e.symm) (by simp) ql3
  have G3 := f3.size
  have HH4 := hid' H4
  have HF4 := hid' (HF3.out.trans f3)
  have pt3 : cb ≤ t3 := by omega
  clear H4 HF3 HH3 f3 hA hT hL hTA hTL rA rT rL
  go_wp2_with fail
  obtain ⟨D, hD⟩ : ∃ D, three cb a1 t1 l1 a2 t2 l2 a3 t3 l3 (cb + 1) g2 = D := ⟨_, rfl⟩
  have HH5 : Hid (Holds D 3 (fun _ => 0) w3) := by rw [← hD]; exact HH4
  clear HH4
  have f5 : Fr (fun _ => False) w3 (w3.alloc (.cells #[srcV D 0, srcV D 1, srcV D 2] 25)) := (Fr.refl _ _).alloc _
  have hV : Cells (w3.alloc (.cells #[srcV D 0, srcV D 1, srcV D 2] 25)) w3.heap.size 3 (srcV D) := by
    have r := World.rowIs_alloc w3 #[srcV D 0, srcV D 1, srcV D 2] 25 (srcV D) (fun i hi => by
      match i, hi with
      | 0, _ => rfl
      | 1, _ => rfl
      | 2, _ => rfl)
    exact ⟨r.lt, fun i hi => r.cell hi⟩
  have e0 : srcV D 0 = .func (.func 21) #[] #[.pointer (some ⟨a1, 0, none⟩), .pointer (some ⟨t1, 0, none⟩), .pointer (some ⟨l1, 0, none⟩)] := by subst hD; rfl
  have e1 : srcV D 1 = .func (.func 21) #[] #[.pointer (some ⟨a2, 0, none⟩), .pointer (some ⟨t2, 0, none⟩), .pointer (some ⟨l2, 0, none⟩)] := by subst hD; rfl
  have e2 : srcV D 2 = .func (.func 21) #[] #[.pointer (some ⟨a3, 0, none⟩), .pointer (some ⟨t3, 0, none⟩), .pointer (some ⟨l3, 0, none⟩)] := by subst hD; rfl
  rw [← e0, ← e1, ← e2]
  clear e0 e1 e2
  refine (run_new D 3 _ _ 3 hV (by omega) (HH5.out.keep f5 (fun _ h => h.elim)) (fun k h => by have := HH5.out.lt k h; have := f5.size; omega)).mono ?_
  rintro e w5 ⟨b, bs, cs, bh, bl, rfl, R5, f6, g1, g3, g4, g5⟩
  have hown : ∀ k, Own D 3 k → cb ≤ k := by
    subst hD
    rintro k (rfl | ⟨j, hj, rfl⟩)
    · exact Nat.le_refl _
    · match j, hj with
      | 0, _ => exact pt1
      | 1, _ => exact pt2
      | 2, _ => exact pt3
  have F5 := (HF4.out.trans f5).fresh f6 (fun j hj h => by have := hown j h; omega)
  have hDcb : D.cb = cb := by subst hD; rfl
  have cn : w5.cell? ⟨cb, 0, none⟩ = some (.int .i64 3) := by
    have r := R5.count
    rw [hDcb] at r
    rw [r.cell (i := 0) (by subst hD; exact Nat.zero_lt_one)]
    subst hD
    first | rfl | exact congrArg some (by kernel_rfl)
  have e1 : liveN (peek D 3 (fun _ => 0)) 3 = 2 := by subst hD; exact three_live ..
  have e2 : (steps D 3 (fun _ => 0) 5).2 = [.int .i64 1, .int .i64 0, .int .i64 1, .int .i64 1, .int .i64 3, .int .i64 1, .int .i64 4, .int .i64 0] := by subst hD; exact three_steps ..
  have e3 : liveN (peek D 3 (steps D 3 (fun _ => 0) 5).1) 3 = 0 := by subst hD; exact three_end ..
  have S3 := f5.size
  have S4 := HF4.out.size
  have hb : cb ≤ b ∧ cb ≤ bh ∧ cb ≤ bl := by omega
  have hap : ∀ k, Own D 3 k ∨ k = bh ∨ k = bl → k < w5.heap.size := by
    obtain ⟨lost, T, _⟩ := R5.tree
    rintro k (h | rfl | rfl)
    · exact Nat.lt_of_lt_of_le (HH5.out.lt k h.dep) (Nat.le_trans S3 f6.size)
    · exact T.hands.lt
    · exact T.lost.lt
  have hge : ∀ k, Own D 3 k ∨ k = bh ∨ k = bl → cb ≤ k := by
    rintro k (h | rfl | rfl)
    · exact hown k h
    · exact hb.2.1
    · exact hb.2.2
  have hx : b < w5.heap.size ∧ bs < w5.heap.size ∧ bh < w5.heap.size ∧ bl < w5.heap.size := by
    obtain ⟨lost, T, _⟩ := R5.tree
    exact ⟨T.tree.lt, T.src.lt, T.hands.lt, T.lost.lt⟩
  have hy : ∀ k, Dep D 3 k → k < w5.heap.size := fun k h => Nat.lt_of_lt_of_le (HH5.out.lt k h) (Nat.le_trans S3 f6.size)
  have HX := hid' hx
  have HY := hid' hy
  have HA := hid' hap
  have HG := hid' hge
  have HF5 := hid' F5
  have HR := hid' R5
  have E1 := hid' e1
  have E2 := hid' e2
  have E3 := hid' e3
  clear hD HH5 HF4 f5 f6 hV hown F5 hDcb e1 e2 e3 S3 S4 hb hap hge hx hy pt1 pt2 pt3 qt1 qt2 qcb qs qcb2 ql3 G1 G2 G3 lga lgb R5 g1 g3 g4 g5
  go_wp2_with fail
  refine (run_live HR.out).mono ?_
  rintro e w6 ⟨rfl, f6⟩
  rw [E1.out]
  have c6 : w6.cell? ⟨cb, 0, none⟩ = some (.int .i64 3) := (World.cell?_of_block (w := w5) (f6.block cb (World.block_lt_of_cell? _ _ cn) id)).trans cn
  have HR6 := hid' (HR.out.keep f6 (fun _ h => h.elim))
  have HF6 := hid' (HF5.out.trans f6)
  have S6 := f6.size
  clear cn HR HF5 f6
  go_wp2_with fail
  obtain ⟨B, hB⟩ : ∃ B, w6.heap.size = B := ⟨_, rfl⟩
  have hBc : w.heap.size ≤ B := by have := HF6.out.size; omega
  obtain ⟨i0, hi, hz0, hz1, hz2⟩ := info_parts Try.info3
  have hS : ∀ k, B ≤ k → ¬ (Own D 3 k ∨ k = bh ∨ k = bl) := fun k hk h => by have := HA.out k h; omega
  have HS := hid' hS
  have H0 : w6.ownsRow B 3 1 (.slice none 0 0) 0 [] := World.ownsRow_nil w6 B 3 1
  have HB := hid' hB
  clear hS
  go_loopw [3, 25] (fun l i wr => ∃ k n : Nat, k ≤ 5 ∧ i = .int .i64 k ∧ n ≤ 2 * k ∧ Run D 3 b bs cs bh bl (steps D 3 (fun _ => 0) k).1 wr ∧ wr.ownsRow B 3 1 l n (steps D 3 (fun _ => 0) k).2 ∧ Fr (fun _ => False) w wr ∧ B ≤ wr.heap.size) (fun _ i _ => 5 - (intOf i).toNat)
  case atStart => exact ⟨0, 0, by omega, rfl, by omega, HR6.out, H0, HF6.out, by omega⟩
  case round =>
    obtain ⟨k, n, hk, rfl, hn, hR, hown, hF, hsz⟩ := hrel
    have HR := hid' hR
    have HO := hid' hown
    have HF := hid' hF
    clear hR hown hF
    by_cases hlt : k < 5
    · obtain ⟨at_, hat⟩ : ∃ at_, (steps D 3 (fun _ => 0) k).1 = at_ := ⟨_, rfl⟩
      obtain ⟨xs, hxs⟩ : ∃ xs, (steps D 3 (fun _ => 0) k).2 = xs := ⟨_, rfl⟩
      rw [hat] at HR
      rw [hxs] at HO
      by_cases h0 : liveN (peek D 3 at_) 3 = 0
      · have hst := hid' (steps_none D 3 (fun _ => 0) k (by rw [hat]; exact h0))
        have HAT := hid' hat
        have HXS := hid' hxs
        clear hat hxs
        go_wp2_with fail
        refine (run_none HR.out h0).mono ?_
        rintro e w7 ⟨rfl, f7⟩
        have G7 := f7.size
        have HF7 := hid' (HF.out.trans f7)
        have HR7 := hid' (HR.out.keep f7 (fun _ h => h.elim))
        have HO7 := hid' (f7.owns HO.out (fun _ _ h => h))
        clear HF HR HO f7
        go_wp2_with fail
        go_roundw
        case rel => exact ⟨k + 1, n, by omega, by go_num, by omega, by rw [hst.out, HAT.out]; exact HR7.out, by rw [hst.out, HXS.out]; exact HO7.out, HF7.out, by omega⟩
        case measure => simp [intOf]; omega
      · have hst := steps_some D 3 (fun _ => 0) k (by rw [hat]; exact h0)
        rw [hat, hxs] at hst
        obtain ⟨f, hf⟩ : ∃ f, win (peek D 3 at_) 3 1 = f := ⟨_, rfl⟩
        rw [hf] at hst
        obtain ⟨x, hx⟩ : ∃ x, (peek D 3 at_ f).1 = x := ⟨_, rfl⟩
        rw [hx] at hst
        have hst := hid' hst
        have HAT := hid' hat
        have HXS := hid' hxs
        have HC := hid' (run_some HR.out h0 hf hx)
        clear hat hxs hx hf
        go_wp2_with fail
        refine HC.out.mono ?_
        rintro e w7 ⟨rfl, hR7, f7⟩
        have G7 := f7.size
        have HF7 := hid' (HF.out.fresh f7 (fun j hj h => by have := HG.out j h; omega))
        have HR7 := hid' hR7
        have hown := f7.owns HO.out HS.out
        clear HF HR HO f7 HC hR7
        go_wp2_with (at_builtin; refine wpList_append_own _ rfl _ _ 27 rfl B 3 i0 (.int .i64 0) 1 8 (by kernel_rfl) hi hz0 hz1 hz2 rfl (by decide) _ _ _ rfl (hown.alloc _) ⟨w7.heap.size, 0, none⟩ 2 2 [.int .i64 x, .int .i64 f] rfl rfl (cell_two_new _ _ _ _) (by simp [Value.oneCell']) (by unfold maxLen; omega) (by omega) (by simp; omega) ?_; intro v' w8 hown' hgrow _)
        have f8 : Fr (fun k => B ≤ k) w7 w8 := ((Fr.refl _ w7).alloc _).trans (Fr.grown hgrow fun q hq => (hown.lt q hq).1)
        have G8 := f8.size
        refine ⟨⟨k + 1, n + 2, by omega, by go_num, by omega, ?_, ?_, HF7.out.fresh f8 (fun j hj h => by have h : B ≤ j := h; omega), by omega⟩, by simp [intOf]; omega⟩
        · rw [hst.out]
          exact HR7.out.keep f8 (fun j hj => by
            have hj : B ≤ j := hj
            have := HX.out
            refine ⟨fun h => ?_, by omega, by omega, by omega, by omega⟩
            have := HY.out j h
            omega)
        · rw [hst.out]
          exact hown'
    · obtain rfl : k = 5 := by omega
      rw [E2.out] at HO
      obtain ⟨v8, hv8⟩ : ∃ n8, n = n8 ∧ n8 = 8 := ⟨n, rfl, by have := HO.out.1; simp at this; exact this.symm⟩
      obtain ⟨rfl, rfl⟩ := hv8
      have hown : wr.ownsRow B 3 1 u3 8 [.int .i64 1, .int .i64 0, .int .i64 1, .int .i64 1, .int .i64 3, .int .i64 1, .int .i64 4, .int .i64 0] := HO.out
      obtain ⟨g, cap, rfl, hg1, hg2⟩ := hown.form (by omega)
      have hc := hown.cells (g := g) rfl
      have hcA : Cells wr g 8 (fun j => .int .i64 ([1, 0, 1, 1, 3, 1, 4, 0].getD j 0)) := by
        refine ⟨hg2, fun j hj => ?_⟩
        have := hc j (.int .i64 ([1, 0, 1, 1, 3, 1, 4, 0].getD j 0)) (by
          match j, hj with
          | 0, _ => rfl
          | 1, _ => rfl
          | 2, _ => rfl
          | 3, _ => rfl
          | 4, _ => rfl
          | 5, _ => rfl
          | 6, _ => rfl
          | 7, _ => rfl)
        rwa [add_flat] at this
      have fb : Fr (fun _ => False) wr (wr.alloc (.cells #[.int .i64 1, .int .i64 0, .int .i64 1, .int .i64 1, .int .i64 3, .int .i64 1, .int .i64 4, .int .i64 0] 3)) := (Fr.refl _ wr).alloc _
      have hcB : Cells (wr.alloc (.cells #[.int .i64 1, .int .i64 0, .int .i64 1, .int .i64 1, .int .i64 3, .int .i64 1, .int .i64 4, .int .i64 0] 3)) wr.heap.size 8 (fun j => .int .i64 ([1, 0, 1, 1, 3, 1, 4, 0].getD j 0)) := by
        have r := World.rowIs_alloc wr #[.int .i64 1, .int .i64 0, .int .i64 1, .int .i64 1, .int .i64 3, .int .i64 1, .int .i64 4, .int .i64 0] 3 (fun j => .int .i64 ([1, 0, 1, 1, 3, 1, 4, 0].getD j 0)) (fun i hi => by
          match i, hi with
          | 0, _ => rfl
          | 1, _ => rfl
          | 2, _ => rfl
          | 3, _ => rfl
          | 4, _ => rfl
          | 5, _ => rfl
          | 6, _ => rfl
          | 7, _ => rfl)
        exact ⟨r.lt, fun i hi => r.cell hi⟩
      have hsame := hid' (same_true _ g wr.heap.size 8 cap 8 _ (fb.cells hcA id) hcB (fun j => [1, 0, 1, 1, 3, 1, 4, 0].getD j 0) (fun _ _ => rfl) (by omega))
      have HFb := hid' fb
      clear hown hc hcA hcB fb HO
      go_wp2_with fail
      refine hsame.out.mono ?_
      rintro e w7 ⟨rfl, f7⟩
      have f9 := HFb.out.trans f7
      have live := run_live (HR.out.keep f9 (fun _ h => h.elim))
      rw [E3.out] at live
      have HL := hid' live
      have HF9 := hid' (HF.out.trans f9)
      clear f7 f9 live hsame
      go_wp2_with fail
      refine HL.out.mono ?_
      rintro e w10 ⟨rfl, f10⟩
      have HF10 := hid' (HF9.out.trans f10)
      clear f10
      go_wp2_with fail
      go_ret
      exact ⟨rfl, HF10.out⟩

end Go.Proofs.Ytiakgffanplmdaa

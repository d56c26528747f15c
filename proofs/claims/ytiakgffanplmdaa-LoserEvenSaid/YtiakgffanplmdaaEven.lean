/- The contract of LoserEven. -/
import Derived.Test.YtiakgffanplmdaaEvA
namespace Go.Proofs.Ytiakgffanplmdaa.T
open Go.RowKit Go.Deep

theorem lies_own2 {w : World} {lb : Nat} {sv : Value} {xs : List Th} (h : w.ownsRow (lb + 1) 41 3 sv xs.length (flat3 xs)) (hl : lb < w.heap.size) (o : Obj) :
    ∃ db cap, ((sv = .slice none 0 0 ∧ xs = []) ∨ (sv = .slice (some ⟨db, 0, none⟩) xs.length cap ∧ ∀ k x, xs[k]? = some x →
      (w.alloc o).cell? ⟨db, k * 3, none⟩ = some (.int .i64 x.1) ∧ (w.alloc o).cell? ⟨db, k * 3 + 1, none⟩ = some (.int .i64 x.2.1) ∧ (w.alloc o).cell? ⟨db, k * 3 + 2, none⟩ = some (.int .i64 x.2.2))) ∧ lb ≤ db ∧ db < w.heap.size := by
  rcases lies_own h with ⟨h1, h2⟩ | ⟨g, cap, h1, h2, h3, h4⟩
  · exact ⟨lb, 0, .inl ⟨h1, h2⟩, Nat.le_refl _, hl⟩
  · have f : Fr (fun _ => False) w (w.alloc o) := (Fr.refl _ _).alloc _
    have e : ∀ (ad : Addr) v, ad.block = g → w.cell? ad = some v → (w.alloc o).cell? ad = some v := fun ad v ha h => (World.cell?_of_block (w := w) (by rw [ha]; exact f.block _ h3 id)).trans h
    exact ⟨g, cap, .inr ⟨h1, fun k x hk => ⟨e _ _ rfl (h4 k x hk).1, e _ _ rfl (h4 k x hk).2.1, e _ _ rfl (h4 k x hk).2.2⟩⟩, by omega, h3⟩

set_option maxRecDepth 100000 in
set_option maxHeartbeats 4000000 in
theorem even_any (w : World) (v0 : Value) (a : Addr) (len cap : Nat) (A : Nat → Option Addr) (L C : Nat → Nat) (ls : Nat → List Int) (X : Arg w a len A L C ls) (hlc : len ≤ cap) (hc : cap ≤ 140737488355328)
    (h0 : v0 = .slice none 0 0 ∧ len = 0 ∨ v0 = .slice (some a) len cap) :
    Calls Try.prog 5 #[v0] w fun e w' => e = .returned (.bool true) ∧ Fr (fun _ => False) w w' := by
  obtain ⟨Ao, Co, rfl, hAo⟩ : ∃ Ao Co, v0 = .slice Ao len Co ∧ (len = 0 ∨ Ao = some a) := by
    rcases h0 with ⟨rfl, rfl⟩ | rfl
    · exact ⟨none, 0, rfl, .inl rfl⟩
    · exact ⟨_, _, rfl, .inr rfl⟩
  have hlen : len ≤ 140737488355328 := by omega
  clear h0 hc hlc cap
  have HX := hid' X
  clear X
  obtain ⟨B, hB⟩ : ∃ B, w.heap.size = B := ⟨_, rfl⟩
  have h0' : w.ownsRow B 42 1 (.slice none 0 0) 0 [] := World.ownsRow_nil w B 42 1
  obtain ⟨i0, hi, hz0, hz1, hz2⟩ := info_parts Try.info42
  obtain ⟨i1, hj, hy0, hy1, hy2⟩ := info_parts Try.info41
  go_enter Try.func5, Try.ntmps5
  go_upto_block 0 with (fail)
  go_cut [3, 4] (fun fs total wx => ∃ (k : Nat) (D : Src), k ≤ 7 ∧ total = .int .i64 (sumN (fun j => (D.ls j).length) k : Nat) ∧ Holds D k (fun _ => 0) wx ∧ Fine D.ls k ∧ (∀ j, j < k → (D.ls j).length ≤ 12) ∧
      wx.ownsRow B 42 1 fs k ((List.range k).map (srcV D)) ∧ Fr (fun _ => False) w wx ∧ ∀ q, Dep D k q → B ≤ q)
  case first =>
    go_wp2_with fail
    go_loopw [3, 4, 5] (fun fs total i wr => ∃ (k : Nat) (D : Src), k ≤ 7 ∧ k ≤ len ∧ i = .int .i64 k ∧ total = .int .i64 (sumN (fun j => (D.ls j).length) k : Nat) ∧ Holds D k (fun _ => 0) wr ∧ Fine D.ls k ∧ (∀ j, j < k → (D.ls j).length ≤ 12) ∧
        wr.ownsRow B 42 1 fs k ((List.range k).map (srcV D)) ∧ (∀ g, fs.ownBlock = some g → ¬ Dep D k g) ∧ Fr (fun _ => False) w wr ∧ ∀ q, Dep D k q → B ≤ q) (fun _ _ i _ => 8 - (intOf i).toNat)
    case atStart => exact ⟨0, ⟨fun _ => 0, fun _ => 0, fun _ => .nilFunc, fun _ => [], fun _ => 0, fun _ => 0⟩, by omega, by omega, rfl, rfl, holds_none _ w, fine_none _, fun j hj => by omega, h0', by simp [Value.ownBlock], Fr.refl _ _, fun q ⟨j, hj, _⟩ => by omega⟩
    case round =>
      obtain ⟨wo, rfl⟩ : ∃ wo : World, wo = wr := ⟨_, rfl⟩
      obtain ⟨k, D, hk7, hkl, rfl, rfl, hH, hFi, h12, hown, hnd, hF, hB2⟩ := hrel
      have HH := hid' hH
      have HI := hid' hFi
      have H12 := hid' h12
      have HO := hid' hown
      have HN := hid' hnd
      have HF := hid' hF
      have HB := hid' hB2
      have hsz := hF.size
      have htot : sumN (fun j => (D.ls j).length) k ≤ 12 * k := by
        have h1 := sumN_le (q := fun j => (D.ls j).length) (q' := fun _ => 12) k h12
        have h2 : ∀ m, sumN (fun _ => 12) m = 12 * m := fun m => by
          induction m with
          | zero => rfl
          | succ m ih => rw [sumN, ih]; omega
        rw [h2] at h1
        exact h1
      obtain ⟨tot, htt⟩ : ∃ tot, sumN (fun j => (D.ls j).length) k = tot := ⟨_, rfl⟩
      rw [htt] at htot
      have HTT := hid' htt
      simp only [htt]
      clear hH hFi h12 hown hnd hF hB2 htt h0'
      by_cases hlt : k < len
      · by_cases hlt7 : k < 7
        · obtain rfl : Ao = some a := by rcases hAo with h | h; · omega
                                         · exact h
          have cx := HX.out.head k hlt
          have lx := HX.out.small k hlt
          have CX := hid' cx
          clear cx
          go_wp2_with fail
          have rb := row_one wo (.slice none 0 0) 38
          have fb : Fr (fun _ => False) wo (wo.alloc (.cells #[.slice none 0 0] 38)) := (Fr.refl _ _).alloc _
          obtain ⟨lb, hlb⟩ : ∃ lb, wo.heap.size = lb := ⟨_, rfl⟩
          obtain ⟨wb, hwb⟩ : ∃ wb, wo.alloc (.cells #[.slice none 0 0] 38) = wb := ⟨_, rfl⟩
          rw [hwb] at rb fb ⊢
          rw [hlb] at rb hsz ⊢
          have RB := hid' rb
          have FB := hid' fb
          have HLB := hid' hlb
          have ob : wb.ownsRow (lb + 1) 41 3 (.slice none 0 0) 0 (flat3 []) := World.ownsRow_nil wb (lb + 1) 41 3
          have OB := hid' ob
          clear rb fb hwb ob hlb
          go_loopw [7, 8] (fun x kk wi => ∃ (q : Nat) (m : Int) (xs : List Th) (Ag : Option Addr) (cg : Nat), q ≤ 12 ∧ q ≤ L k ∧ xs.length = q ∧ kk = .int .i64 q ∧ x = .int .i64 m ∧ 0 ≤ m ∧ m ≤ q ∧ Grows k xs m ∧ wi.rowIs lb 38 1 (fun _ => .slice Ag q cg) ∧ wi.ownsRow (lb + 1) 41 3 (.slice Ag q cg) q (flat3 xs) ∧ Fr (fun _ => False) wo wi) (fun _ kk _ => 13 - (intOf kk).toNat)
          case atStart => exact ⟨0, 0, [], none, 0, by omega, by omega, rfl, rfl, rfl, by omega, by omega, grows_nil k, RB.out, OB.out, FB.out⟩
          case round =>
            obtain ⟨q, m, xs, Ag, cg, hq12, hqL, hxs, rfl, rfl, hm0, hm1, hG, hrow, hown, hF2⟩ := hrel
            have HR := hid' hrow
            have HO2 := hid' hown
            have HF2 := hid' hF2
            have HG := hid' hG
            have HXS := hid' hxs
            have cA : wr.cell? (a.add k) = some (.slice (A k) (L k) (C k)) := (World.cell?_of_block (w := w) ((HF.out.trans HF2.out).block _ (World.block_lt_of_cell? _ _ CX.out) id)).trans CX.out
            have cb := hrow.cell (i := 0) (by decide)
            have zb := hrow.frozen 0
            have sz2 := hF2.size
            have lb1 := hrow.lt
            clear hrow hown hF2 hG hxs
            by_cases hqq : q < L k ∧ q < 12
            · obtain ⟨hqlt, hq⟩ := hqq
              obtain ⟨a', hA⟩ : ∃ a', A k = some a' := by
                cases hA : A k with
                | none => have := (HX.out.nil k hlt hA).1; omega
                | some a' => exact ⟨a', rfl⟩
              obtain ⟨z, hz⟩ : ∃ z, (ls k)[q]? = some z := ⟨_, List.getElem?_eq_getElem (by rw [HX.out.len k hlt]; exact hqlt)⟩
              have cz := HX.out.cell k hlt a' hA q z hz
              have cZ : wr.cell? (a'.add q) = some (.int .i64 z) := (World.cell?_of_block (w := w) ((HF.out.trans HF2.out).block _ (World.block_lt_of_cell? _ _ cz) id)).trans cz
              rw [hA] at cA
              clear hA hz cz
              go_wp2_with fail
              refine (within_any z 0 1 _ (by omega) (by omega) (by omega)).mono ?_
              rintro e w' ⟨⟨r, hr0, hr1, rfl⟩, rfl⟩
              have hown := HO2.out
              have rrow := HR.out
              go_wp2_with (at_builtin; refine wpList_append_own_at _ rfl _ _ 38 rfl (lb + 1) 41 i1 (.agg #[.int .i64 0, .int .i64 0, .int .i64 0]) 3 24 (by kernel_rfl) hj hy0 hy1 hy2 rfl (by decide) _ _ _ rfl (hown.alloc _) ⟨wr.heap.size, 0, none⟩ 1 1 [.int .i64 (m + r), .int .i64 k, .int .i64 q] rfl rfl (cell_three_new _ _ _ _ _) (by simp [Value.oneCell']) (by unfold maxLen; omega) (by omega) (by simp; omega) ?_; intro v' w8 hown' hgrow _ _; obtain ⟨g', cap', rfl, _, _⟩ := hown'.form (by omega); have f8 : Fr (fun j => lb < j) wr w8 := ((Fr.refl _ wr).alloc _).trans (Fr.grown hgrow fun q hq => by have := (hown.lt q hq).1; omega); have r8 := f8.row rrow (by omega); have c8 := r8.cell (i := 0) (by decide); have z8 := r8.frozen 0; have HO8 := hid' hown'; have HF8 := hid' f8; have HR8 := hid' r8; clear hown' hgrow f8 r8 hown rrow)
              go_roundw
              case rel =>
                have F9 : Fr (fun j => j = lb) w8 (w8.setCell ⟨lb, 0, none⟩ (.slice (some ⟨g', 0, none⟩) (q + 1) cap')) := Fr.setCell (S := fun j => j = lb) (Fr.refl _ _) (a := ⟨lb, 0, none⟩) (fun _ => rfl) _
                have hgr := grows_snoc HG.out hm0 hr0
                rw [HXS.out] at hgr
                refine ⟨q + 1, m + r, xs ++ [(m + r, (k : Int), (q : Int))], some ⟨g', 0, none⟩, cap', by omega, by omega, by simp [HXS.out], by go_num, rfl, by omega, by omega, hgr, (HR8.out.set 0 (.slice (some ⟨g', 0, none⟩) (q + 1) cap')).congr (fun i hi => by (obtain rfl : i = 0 := by omega); rfl), ?_, ?_⟩
                · rw [flat3_snoc]
                  exact F9.owns HO8.out (fun j hj e => by have e : j = lb := e; omega)
                · have hL := HLB.out
                  exact (HF2.out.fresh HF8.out (fun j hj h => by have h : lb < j := h; omega)).fresh F9 (fun j hj h => by have h : j = lb := h; omega)
              case measure => simp [intOf]; omega
            · have hlie := lies_own2 (xs := xs) (sv := .slice Ag q cg) (lb := lb) (w := wr) (by rw [HXS.out]; exact HO2.out) lb1 (.cells #[.int .i64 0] 3)
              obtain ⟨db, cap2, hlie, hdb1, hdb2⟩ := hlie
              have HLIE := hid' hlie
              clear hlie
              by_cases hqlt : q < L k
              all_goals
                go_upto_region 15 with (fail)
                have rT := row_one wr (.int .i64 0) 3
                have ft : Fr (fun _ => False) wr (wr.alloc (.cells #[.int .i64 0] 3)) := (Fr.refl _ _).alloc _
                have H1 := holds_add (S := fun _ => False) HH.out (HF2.out.trans ft) (fun _ h => h.elim) (T := wr.heap.size) (L := lb) (sl := .slice Ag q cg) (ls := xs) (db := db) (cap := cap2) sz2 (by have := HLB.out; omega) (by have := HLB.out; omega) (by omega) (by omega) rT (HR.out.alloc _) HLIE.out (by rw [HXS.out]; omega) (by simp; omega)
                have oF := ft.owns (HF2.out.owns HO.out (fun _ _ h => h)) (fun _ _ h => h)
                have hTb : ∀ g, u3.ownBlock = some g → B ≤ g ∧ g < lb := fun g hg => by have := HO.out.lt g hg; have := HLB.out; omega
                obtain ⟨wt, hwt⟩ : ∃ wt, wr.alloc (.cells #[.int .i64 0] 3) = wt := ⟨_, rfl⟩
                obtain ⟨tb, htb⟩ : ∃ tb, wr.heap.size = tb := ⟨_, rfl⟩
                have szt : wt.heap.size = wr.heap.size + 1 := by rw [← hwt]; simp
                rw [hwt] at ft H1 oF ⊢
                rw [htb] at H1 szt hdb2 ⊢
                have sztt : tb < wt.heap.size := by omega
                have HH1 := hid' H1
                have HFT := hid' (HF2.out.trans ft)
                have HTB := hid' hTb
                have HTBE := hid' htb
                clear hwt H1 ft rT htb hTb szt cb zb
                go_wp2_with (at_builtin; refine wpList_append_own_at _ rfl _ _ 37 rfl B 42 i0 .nilFunc 1 8 (by kernel_rfl) hi hz0 hz1 hz2 rfl (by decide) _ _ _ rfl (oF.alloc _) ⟨wt.heap.size, 0, none⟩ 1 1 [.func (.func 14) #[] #[.pointer (some ⟨tb, 0, none⟩), .pointer (some ⟨lb, 0, none⟩)]] rfl rfl (cell_one_new _ _ _) (by simp [Value.oneCell']) (by unfold maxLen; omega) (by omega) (by simp; omega) ?_; intro v' w3 hown' hgrow _ hat; have hat2 : v'.ownBlock = u3.ownBlock ∨ v'.ownBlock = some (wt.alloc (.cells #[.func (.func 14) #[] #[.pointer (some ⟨tb, 0, none⟩), .pointer (some ⟨lb, 0, none⟩)]] 42)).heap.size := hat; clear hat)
                have f4 : Fr (fun q => u3.ownBlock = some q) wt w3 := ((Fr.refl _ wt).alloc _).trans (Fr.grown hgrow (fun q hq => hq))
                have hlow : ∀ g, u3.ownBlock = some g → ¬ Dep (D.add k tb lb (.slice Ag q cg) xs db cap2) (k + 1) g := fun g hg hdp => by
                  have h1 := HTB.out g hg
                  rcases dep_add hdp with h | h | h | h
                  · exact HN.out g hg h
                  · have := HTBE.out; omega
                  · omega
                  · omega
                refine ⟨⟨k + 1, D.add k tb lb (.slice Ag q cg) xs db cap2, by omega, by omega, by go_num, ?_, HH1.out.keep f4 hlow, fine_add HI.out HG.out, fun j hj => ?_, by rw [srcV_add]; exact hown', fun g hg => ?_, ?_, fun g hg => ?_⟩, by simp [intOf]; omega⟩
                · rw [sum_add, HTT.out, HXS.out]; go_num
                · by_cases e : j = k
                  · subst e; simp only [Src.add, if_pos]; rw [HXS.out]; omega
                  · simp only [Src.add, if_neg e]; exact H12.out j (by omega)
                · rcases hat2 with h | h
                  · exact hlow g (by rw [← h]; exact hg)
                  · rw [h] at hg
                    cases hg
                    exact fun hdp => by have h2 := HH1.out.lt _ hdp; rw [World.size_alloc] at h2; omega
                · exact (HF.out.trans HFT.out).fresh f4 (fun j hj h => by have := HTB.out j h; omega)
                · have := HLB.out
                  have := HTBE.out
                  rcases dep_add hg with h | h | h | h
                  · exact HB.out g h
                  · omega
                  · omega
                  · omega
        · obtain rfl : k = 7 := by omega
          go_wp2_with fail
          go_meet
          case rel => exact ⟨7, D, by omega, by rw [HTT.out], HH.out, HI.out, H12.out, HO.out, HF.out, HB.out⟩
      · go_wp2_with fail
        go_meet
        case rel => exact ⟨k, D, by omega, by rw [HTT.out], HH.out, HI.out, H12.out, HO.out, HF.out, HB.out⟩
  case rest =>
    obtain ⟨k, D, hk7, rfl, hH, hFi, h12, hown, hF, hB2⟩ := hcut
    have hno : ∀ q, Dep D k q → q < wc.heap.size := fun q h => hH.lt q h
    have HH := hid' hH
    have HI := hid' hFi
    have HF := hid' hF
    obtain ⟨tot, htt⟩ : ∃ tot, sumN (fun j => (D.ls j).length) k = tot := ⟨_, rfl⟩
    have HTT := hid' htt
    have HNW := hid' (run_new_own D k wc B u3 hown (by omega) hH)
    have HBB := hid' hB2
    have HNO := hid' hno
    simp only [htt]
    have htot : tot ≤ 84 := by
      have h1 := sumN_le (q := fun j => (D.ls j).length) (q' := fun _ => 12) k h12
      have h2 : ∀ m, sumN (fun _ => 12) m = 12 * m := fun m => by
        induction m with
        | zero => rfl
        | succ m ih => rw [sumN, ih]; omega
      rw [h2] at h1
      omega
    clear hH hFi hF htt hown hB2 h12 hno h0'
    go_wp2_with fail
    refine HNW.out.mono ?_
    rintro e w1 ⟨b, bs, cs, bh, bl, rfl, R1, f1, q1, q2, q3, q4⟩
    have g1 := f1.size
    have g0 := HF.out.size
    have fw1 : Fr (fun _ => False) w w1 := HF.out.fresh f1 (fun j hj h => by have := HBB.out _ h.dep; omega)
    have hge : ∀ q, Own D k q ∨ q = bh ∨ q = bl → B ≤ q ∧ q < w1.heap.size := by
      obtain ⟨lost, T, _⟩ := R1.tree
      have := T.hands.lt
      have := T.lost.lt
      rintro q (h | rfl | rfl)
      · have := HBB.out _ h.dep; have := HNO.out _ h.dep; omega
      · omega
      · omega
    have hap : ∀ q, q = w1.heap.size → ¬ Dep D k q ∧ q ≠ b ∧ q ≠ bs ∧ q ≠ bh ∧ q ≠ bl := by
      obtain ⟨lost, T, _⟩ := R1.tree
      have := T.tree.lt
      have := T.src.lt
      have := T.hands.lt
      have := T.lost.lt
      rintro q rfl
      exact ⟨fun h => by have := HNO.out _ h; omega, by omega, by omega, by omega, by omega⟩
    have HGE := hid' hge
    have HAP := hid' hap
    have HF1 := hid' fw1
    have HR1 := hid' R1
    clear hge hap fw1 R1 f1 q1 q2 q3 q4 HNW
    go_wp2_with fail
    have rv := World.rowIs_alloc w1 #[.int .i64 (-1), .int .i64 0, .int .i64 0] 41 (fun j => (#[.int .i64 (-1), .int .i64 0, .int .i64 0] : Array Value).getD j undef) (fun i hi => by
      match i, hi with
      | 0, _ => rfl
      | 1, _ => rfl
      | 2, _ => rfl)
    have fv : Fr (fun _ => False) w1 (w1.alloc (.cells #[.int .i64 (-1), .int .i64 0, .int .i64 0] 41)) := (Fr.refl _ _).alloc _
    have HR2 := hid' (HR1.out.keep fv (fun _ h => h.elim))
    have HF2 := hid' (HF1.out.trans fv)
    obtain ⟨wv, hwv⟩ : ∃ wv, w1.alloc (.cells #[.int .i64 (-1), .int .i64 0, .int .i64 0] 41) = wv := ⟨_, rfl⟩
    obtain ⟨bv, hbv⟩ : ∃ bv, w1.heap.size = bv := ⟨_, rfl⟩
    rw [hwv] at rv HR2 HF2 ⊢
    rw [hbv] at rv HAP HGE g1 ⊢
    have RV := hid' rv
    have I0 := hid' (inv_start D.ls k HI.out)
    clear rv fv hwv hbv HR1 HF1 HF HH
    go_loopw [12] (fun i wr => ∃ (g : Nat) (at_ : Nat → Nat) (s p r : Int), i = .int .i64 g ∧ g ≤ tot ∧ sumN at_ k = g ∧ (∀ j, j < k → at_ j ≤ (D.ls j).length) ∧ Run D k b bs cs bh bl at_ wr ∧ wr.rowIs bv 41 3 (fun j => (#[.int .i64 s, .int .i64 p, .int .i64 r] : Array Value).getD j undef) ∧ Inv D.ls k at_ (s, p, r) ∧ Fr (fun _ => False) w wr) (fun i _ => tot + 1 - (intOf i).toNat)
    case atStart => exact ⟨0, fun _ => 0, -1, 0, 0, rfl, by omega, sumN_zero k, fun j hj => Nat.zero_le _, HR2.out, RV.out, I0.out, HF2.out⟩
    case round =>
      obtain ⟨g, at_, s, p, r, rfl, hg, hsum, hat, hR, hrow, hinv, hF⟩ := hrel
      have HR := hid' hR
      have HW := hid' hrow
      have HF := hid' hF
      have HAT := hid' hat
      have HS := hid' hsum
      have HIN := hid' hinv
      clear hR hrow hF hat hsum hinv
      by_cases hlt : g < tot
      · have hlv := live_of_lt D k at_ (by rw [HS.out, HTT.out]; exact hlt)
        obtain ⟨f, x, hwin, hfk, hx, hpx, hxs, hbeh, hinv⟩ := inv_step D k at_ (s, p, r) HI.out HIN.out hlv
        have hfl : at_ f < (D.ls f).length := (List.getElem?_eq_some_iff.1 hx).1
        obtain ⟨x, x2, x3⟩ := x
        obtain rfl : x2 = (f : Int) := hxs
        have HRS := hid' (run_some HR.out hlv hwin hpx)
        have HIV := hid' hinv
        have HFL := hid' hfl
        obtain ⟨hb1, hb2⟩ := hbeh
        have hb1 : s ≤ x := hb1
        have hcase : s < x ∨ (s = x ∧ p < f) ∨ (s = x ∧ p = f ∧ r < x3) := by
          have hb2 : x = s → p < f ∨ (f : Int) = p ∧ r < x3 := hb2
          by_cases e : x = s
          · rcases hb2 e with h | h
            · exact .inr (.inl ⟨by omega, h⟩)
            · exact .inr (.inr ⟨by omega, by omega, h.2⟩)
          · exact .inl (by omega)
        clear hb2 hinv hlv hwin hx hpx hfl
        go_wp2_with fail
        refine HRS.out.mono ?_
        rintro e w6 ⟨rfl, hR6, f6⟩
        unfold thV
        have W6 := f6.row HW.out (fun h => by have := HGE.out _ h; omega)
        have c0 : w6.cell? ⟨bv, 0, none⟩ = some (.int .i64 s) := W6.cell (i := 0) (by decide)
        have c1 : w6.cell? ⟨bv, 1, none⟩ = some (.int .i64 p) := W6.cell (i := 1) (by decide)
        have c2 : w6.cell? ⟨bv, 2, none⟩ = some (.int .i64 r) := W6.cell (i := 2) (by decide)
        have z0 := W6.frozen 0
        have z1 := W6.frozen 1
        have z2 := W6.frozen 2
        have lw := W6.lt
        have HF6 := hid' (HF.out.fresh f6 (fun q hq h => by have := HGE.out q h; omega))
        have HR6 := hid' hR6
        have HW6 := hid' W6
        clear hR6 f6 W6 HRS HW
        have fin : ∀ w7, w7 = (((w6.setCell ⟨bv, 0, none⟩ (.int .i64 x)).setCell ⟨bv, 1, none⟩ (.int .i64 f)).setCell ⟨bv, 2, none⟩ (.int .i64 x3)).alloc (.cells #[.int .i64 x, .int .i64 f, .int .i64 x3] 41) →
            ∃ (g' : Nat) (at_ : Nat → Nat) (s p r : Int), Value.int .i64 ((g : Int) + 1) = .int .i64 g' ∧ g' ≤ tot ∧ sumN at_ k = g' ∧ (∀ j, j < k → at_ j ≤ (D.ls j).length) ∧ Run D k b bs cs bh bl at_ w7 ∧ w7.rowIs bv 41 3 (fun j => (#[.int .i64 s, .int .i64 p, .int .i64 r] : Array Value).getD j undef) ∧ Inv D.ls k at_ (s, p, r) ∧ Fr (fun _ => False) w w7 := by
          rintro w7 rfl
          have F7 : Fr (fun j => j = bv) w6 ((((w6.setCell ⟨bv, 0, none⟩ (.int .i64 x)).setCell ⟨bv, 1, none⟩ (.int .i64 f)).setCell ⟨bv, 2, none⟩ (.int .i64 x3)).alloc (.cells #[.int .i64 x, .int .i64 f, .int .i64 x3] 41)) :=
            ((((Fr.refl (fun j => j = bv) w6).setCell (a := ⟨bv, 0, none⟩) (fun _ => rfl) _).setCell (a := ⟨bv, 1, none⟩) (fun _ => rfl) _).setCell (a := ⟨bv, 2, none⟩) (fun _ => rfl) _).alloc _
          refine ⟨g + 1, more at_ f, x, f, x3, by go_num, by omega, by rw [sumN_more, HS.out, if_pos hfk], fun j hj => ?_, HR6.out.keep F7 (fun q hq => HAP.out q hq), ((((HW6.out.set 0 _).set 1 _).set 2 _).alloc _).congr fun i hi => ?_, HIV.out, HF6.out.fresh F7 (fun q hq h => by have h : q = bv := h; omega)⟩
          · unfold more
            by_cases e : j = f
            · subst e; rw [if_pos rfl]; have := HFL.out; omega
            · rw [if_neg e]; exact HAT.out j hj
          · match i, hi with
            | 0, _ => rfl
            | 1, _ => rfl
            | 2, _ => rfl
        have FIN := hid' fin
        clear fin
        rcases hcase with h | ⟨rfl, h⟩ | ⟨rfl, rfl, h⟩
        all_goals
          go_wp2_with fail
          go_roundw
          case rel => exact FIN.out _ rfl
          case measure => simp [intOf]; omega
      · obtain rfl : g = tot := by omega
        have hdd := dead_of_eq D k at_ HAT.out (by rw [HS.out, HTT.out]; exact Nat.le_refl _)
        have HN := hid' (run_none HR.out hdd)
        clear hdd
        go_wp2_with fail
        refine HN.out.mono ?_
        rintro e w6 ⟨rfl, f6⟩
        unfold thV
        have HF6 := hid' (HF.out.trans f6)
        clear f6 HN
        go_wp2_with fail
        refine (loserRuns_any _).mono ?_
        rintro e w9 ⟨rfl, f9⟩
        have HF9 := hid' ((HF6.out.alloc _).trans f9)
        clear f9
        go_wp2_with fail
        go_ret
        exact ⟨rfl, HF9.out⟩

end Go.Proofs.Ytiakgffanplmdaa.T

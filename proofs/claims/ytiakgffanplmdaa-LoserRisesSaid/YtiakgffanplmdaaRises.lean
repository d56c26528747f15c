/- The contract of LoserRises. -/
import Derived.Test.YtiakgffanplmdaaRiM
import Derived.Shelf.Abstract
namespace Go.Proofs.Ytiakgffanplmdaa
open Go.RowKit Go.Deep Go.Shelf
attribute [local go_sem] Oper.semAt_some

/-- Block D1, if p: no deferred calls. -/
def Mk (p : Bool) (D1 : Nat) (W : World) : Prop := p = true → W.heap[D1]? = some (.deferred (some []))

theorem Mk.keep {p : Bool} {D1 : Nat} {A B : World} {S : Nat → Prop} (h : Mk p D1 A) (f : Fr S A B) (hs : ¬ S D1) : Mk p D1 B := fun hp => f.blk (h hp) hs

set_option maxRecDepth 100000 in
set_option maxHeartbeats 8000000 in
theorem rises_any (w : World) (v0 : Value) (stop : Int) (a : Addr) (len cap : Nat) (A : Nat → Option Addr) (L C : Nat → Nat) (ls : Nat → List Int) (X : Arg w a len A L C ls) (hlc : len ≤ cap) (hc : cap ≤ 140737488355328)
    (h0 : v0 = .slice none 0 0 ∧ len = 0 ∨ v0 = .slice (some a) len cap) :
    Calls Try.prog 6 #[v0, .int .i64 stop] w fun e w' => e = .returned (.bool true) ∧ Fr (fun _ => False) w w' := by
  obtain ⟨Ao, Co, rfl, hAo⟩ : ∃ Ao Co, v0 = .slice Ao len Co ∧ (len = 0 ∨ Ao = some a) := by
    rcases h0 with ⟨rfl, rfl⟩ | rfl
    · exact ⟨none, 0, rfl, .inl rfl⟩
    · exact ⟨_, _, rfl, .inr rfl⟩
  have hlen : len ≤ 140737488355328 := by omega
  clear h0 hc hlc cap
  have HX := hid' X
  clear X
  have hmm := @run_makeMap Try.prog
  refine callsIn_wide.1 (callsIn_of_wp_marks (n := 5) Try.func6 rfl trivial ?_ rfl)
  simp only [Try.ntmps6, List.size_toArray, List.length_cons, List.length_nil, Nat.reduceAdd, Nat.reduceSub, Array.replicate_succ, Array.replicate_zero, List.push_toArray, List.append_toArray, List.nil_append, List.cons_append]
  refine wpIn_wide.2 ?_
  go_upto_block 0 with (fail)
  have r0 := (((row_one w (.bool false) 4).alloc (.cells #[.int .i64 0] 3)).alloc (.map #[] 0)).alloc (.cells #[.map (some (w.heap.size + 1 + 1))] 48)
  have r1 := ((row_one (w.alloc (.cells #[.bool false] 4)) (.int .i64 0) 3).alloc (.map #[] 0)).alloc (.cells #[.map (some (w.heap.size + 1 + 1))] 48)
  have r2 := (count_new ((w.alloc (.cells #[.bool false] 4)).alloc (.cells #[.int .i64 0] 3))).fr (S := fun _ => False) ((Fr.refl _ _).alloc (.cells #[.map (some (w.heap.size + 1 + 1))] 48)) id
  have r3 := row_one (((w.alloc (.cells #[.bool false] 4)).alloc (.cells #[.int .i64 0] 3)).alloc (.map #[] 0)) (.map (some (w.heap.size + 1 + 1))) 48
  have fa : Fr (fun _ => False) w ((((w.alloc (.cells #[.bool false] 4)).alloc (.cells #[.int .i64 0] 3)).alloc (.map #[] 0)).alloc (.cells #[.map (some (w.heap.size + 1 + 1))] 48)) := ((((Fr.refl _ _).alloc _).alloc _).alloc _).alloc _
  simp only [World.size_alloc] at r1 r2 r3
  obtain ⟨wa, hwa⟩ : ∃ wa, (((w.alloc (.cells #[.bool false] 4)).alloc (.cells #[.int .i64 0] 3)).alloc (.map #[] 0)).alloc (.cells #[.map (some (w.heap.size + 1 + 1))] 48) = wa := ⟨_, rfl⟩
  rw [hwa] at r0 r1 r2 r3 fa ⊢
  obtain ⟨b0, hb0⟩ : ∃ b0, w.heap.size = b0 := ⟨_, rfl⟩
  rw [hb0] at r0 r1 r2 r3 ⊢
  obtain ⟨b1, hb1⟩ : ∃ b1, b0 + 1 = b1 := ⟨_, rfl⟩
  rw [hb1] at r1 r2 r3 ⊢
  obtain ⟨b2, hb2⟩ : ∃ b2, b1 + 1 = b2 := ⟨_, rfl⟩
  rw [hb2] at r2 r3 ⊢
  obtain ⟨b3, hb3⟩ : ∃ b3, b2 + 1 = b3 := ⟨_, rfl⟩
  rw [hb3] at r3 ⊢
  have l01 : b0 < b1 := by omega
  have l12 : b1 < b2 := by omega
  have l23 : b2 < b3 := by omega
  have hw0 : w.heap.size ≤ b0 := by omega
  have hwz : w.heap.size = b0 ∧ b3 + 1 = wa.heap.size := ⟨hb0, by rw [← hwa]; simp; omega⟩
  have HWZ := hid' hwz
  have hown : wa.ownsRow (b3 + 1) 25 1 (.slice none 0 0) 0 [] := World.ownsRow_nil wa (b3 + 1) 25 1
  have hBA : Built w b0 b1 b2 b3 0 ⟨fun _ => 0, fun _ => 0, fun _ => 0, fun _ => .nilFunc, fun _ => [], fun _ => 0, fun _ => ⟨0, 0, none⟩, fun _ => 0, b1, 1, fun _ => 0⟩ 0 (.slice none 0 0) wa :=
    ⟨holds_none _ wa r1, rfl, rfl, rfl, fun j hj => by omega, fun j hj => by omega, hown, by simp [Value.ownBlock], r2, r0, r3, fa, fun q hq => hq.elim (fun h => .inl h) (fun ⟨j, hj, _⟩ => by omega)⟩
  have HBA := hid' hBA
  have HSA := hid' (show b3 < wa.heap.size from r3.lt)
  clear r0 r1 r2 r3 fa hwa hb1 hb2 hb3 hwz hb0 hown hBA hmm
  obtain ⟨i0, hi, hz0, hz1, hz2⟩ := info_parts Try.info25
  obtain ⟨i1, hj, hy0, hy1, hy2⟩ := info_parts Try.info3
  go_cut [5, 7, 9, 10, 11, 12] from 20 to 67 (fun fs total v9 v10 v11 v12 wx => ∃ (k N tot : Nat) (D : Src), k ≤ 8 ∧ N = tot ∧ tot ≤ 15 * k ∧ sumN (fun j => (D.ls j).length) k = tot ∧ total = .int .i64 tot ∧ Built w b0 b1 b2 b3 k D N fs wx)
  case first =>
    go_wp2_with fail
    go_loopw [5, 7, 9] (fun fs total i wr => ∃ (k N tot : Nat) (D : Src), k ≤ 8 ∧ k ≤ len ∧ N = tot ∧ tot ≤ 15 * k ∧ sumN (fun j => (D.ls j).length) k = tot ∧ i = .int .i64 k ∧ total = .int .i64 tot ∧ Built w b0 b1 b2 b3 k D N fs wr) (fun _ _ i _ => 9 - (intOf i).toNat)
    case atStart => exact ⟨0, 0, 0, _, by omega, by omega, rfl, by omega, rfl, rfl, rfl, HBA.out⟩
    case round =>
      obtain ⟨k, N, tot, D, hk8, hkl, rfl, htot, hsum, rfl, rfl, hB⟩ := hrel
      obtain ⟨wo, rfl⟩ : ∃ wo : World, wo = wr := ⟨_, rfl⟩
      have HB := hid' hB
      have HSM := hid' hsum
      have sz3 := hB.box.lt
      clear hB hsum
      by_cases hlt : k < len
      · by_cases hlt8 : k < 8
        · obtain rfl : Ao = some a := by rcases hAo with h | h; · omega
                                         · exact h
          have cx := HX.out.head k hlt
          have lx := HX.out.small k hlt
          have CX := hid' cx
          clear cx
          go_wp2_with fail
          obtain ⟨c, hcc⟩ : ∃ c : Int → Nat, (fun v => sumN (fun j => (D.ls j).count v) k) = c := ⟨_, rfl⟩
          have HC := hid' hcc
          have hG0 : Going b2 c N 0 0 [] (.slice none 0 0) wo wo := ⟨rise_nil, World.ownsRow_nil _ _ _ _, by have := HB.out.count; rw [hcc] at this; exact this, Fr.refl _ _⟩
          have HG0 := hid' hG0
          clear hG0 hcc
          go_loopw [7, 10, 11, 12] (fun total l x kk wi => ∃ (q : Nat) (m : Int) (xs : List Int) (Ag : Option Addr) (cg : Nat), q ≤ 15 ∧ q ≤ L k ∧ xs.length = q ∧ kk = .int .i64 q ∧ total = .int .i64 ((N : Int) + q) ∧ x = .int .i64 m ∧ 0 ≤ m ∧ m ≤ 3 * q ∧ l = .slice Ag q cg ∧ Going b2 c N q m xs (.slice Ag q cg) wo wi) (fun _ _ _ kk _ => 16 - (intOf kk).toNat)
          case atStart => exact ⟨0, 0, [], none, 0, by omega, by omega, rfl, rfl, by go_num, rfl, by omega, by omega, rfl, HG0.out⟩
          case round =>
            obtain ⟨q, m, xs, Ag, cg, hq15, hqL, hxs, rfl, rfl, rfl, hm0, hm1, rfl, hG⟩ := hrel
            have HG := hid' hG
            have HXS := hid' hxs
            have cA : wr.cell? (a.add k) = some (.slice (A k) (L k) (C k)) := by
              have e1 := World.block_lt_of_cell? _ _ CX.out
              have := HWZ.out
              exact (World.cell?_of_block (w := w) ((HB.out.fr.fresh hG.fr (fun j hj h => by have h : j = b2 := h; omega)).block _ e1 id)).trans CX.out
            have sz2 := hG.fr.size
            have cbx := (hG.fr.row HB.out.box (show ¬ b3 = b2 by omega)).cell (i := 0) (by decide)
            clear hG hxs
            by_cases hqq : q < L k ∧ q < 15
            · obtain ⟨hqlt, hq⟩ := hqq
              obtain ⟨a', hA⟩ : ∃ a', A k = some a' := by
                cases hA : A k with
                | none => have := (HX.out.nil k hlt hA).1; omega
                | some a' => exact ⟨a', rfl⟩
              obtain ⟨z, hz⟩ : ∃ z, (ls k)[q]? = some z := ⟨_, List.getElem?_eq_getElem (by rw [HX.out.len k hlt]; exact hqlt)⟩
              have cz := HX.out.cell k hlt a' hA q z hz
              have cZ : wr.cell? (a'.add q) = some (.int .i64 z) := by
                have e1 := World.block_lt_of_cell? _ _ cz
                have := HWZ.out
                exact (World.cell?_of_block (w := w) ((HB.out.fr.fresh HG.out.fr (fun j hj h => by have h : j = b2 := h; omega)).block _ e1 id)).trans cz
              rw [hA] at cA
              clear hA hz cz
              go_wp2_with fail
              refine (within_any z 0 3 _ (by omega) (by omega) (by omega)).mono ?_
              rintro e w' ⟨⟨r, hr0, hr1, rfl⟩, rfl⟩
              have hown := HG.out.own
              have rrow := HB.out.box
              go_upto_region 14 with (at_builtin; refine wpList_append_own_at _ rfl _ _ 27 rfl wo.heap.size 3 i1 (.int .i64 0) 1 8 (by kernel_rfl) hj hy0 hy1 hy2 rfl (by decide) _ _ _ rfl (hown.alloc _) ⟨wr.heap.size, 0, none⟩ 1 1 [.int .i64 (m + r)] rfl rfl (cell_one_new _ _ _) (by simp [Value.oneCell']) (by unfold maxLen; omega) (by omega) (by simp; omega) ?_; intro v' w8 hown' hgrow _ _; obtain ⟨g', cap', rfl, _, _⟩ := hown'.form (by omega))
              have f8 : Fr (fun j => wo.heap.size ≤ j) wr w8 := ((Fr.refl _ wr).alloc _).trans (Fr.grown hgrow fun q hq => (hown.lt q hq).1)
              have cb8 := (f8.row (HG.out.fr.row HB.out.box (show ¬ b3 = b2 by omega)) (by omega)).cell (i := 0) (by decide)
              obtain ⟨Dm, hm, hM, hcv⟩ := HG.out.count.fr f8 (by omega)
              obtain ⟨y, hyy⟩ : ∃ y, c (m + r) + xs.count (m + r) = y := ⟨_, rfl⟩
              have hyb : y ≤ 200 := by
                have h1 : xs.count (m + r) ≤ xs.length := List.count_le_length
                have h2 : c (m + r) ≤ N := by
                  rw [← HC.out, ← HSM.out]
                  exact sumN_le k fun j _ => List.count_le_length
                have := HXS.out
                omega
              have hlook : ∀ c1 : Int, Dm.atKey (.int .i64 (m + r)) (.lit (.int .i64 0)) = .lit (.int .i64 c1) → c1 = (y : Int) := fun c1 h => by
                have h2 := (hcv (m + r) (by omega) (by omega)).symm.trans h
                change DataW.lit (.int .i64 ((c (m + r) + xs.count (m + r) : Nat) : Int)) = _ at h2
                rw [hyy] at h2
                injection h2 with h2
                injection h2 with _ h2
                exact h2.symm
              have hkey := Maps.keyOf_int_mk Try.underlying3 (WalkArith.wf_i64 (n := m + r) (by omega))
              have hwf : (Lit.int .i64 ((y : Int) + 1)).wf = true := WalkArith.wf_i64 (by omega)
              have HO8 := hid' hown'
              have HF8 := hid' f8
              have HM := hid' hM
              have HCV := hid' hcv
              have HY := hid' hyy
              have HL := hid' hlook
              clear hown' f8 hgrow hM hcv hyy hlook hown rrow
              go_wp2_with (first
                | (at_lookup; refine wpList_lookup_own_int _ rfl _ _ 48 rfl 3 3 .i64 (Maps.int_keyed Try.underlying3) Try.underlying48 Try.underlying3 (Try.zeroValue3 _) b2 (N + q) _ rfl hm _ _ rfl hkey ?_; intro c1 hat _; obtain rfl := HL.out c1 hat; clear hat)
                | (at_mapUpdate; refine wpList_mapUpdate_own _ rfl _ _ _ 48 rfl 3 3 (Maps.int_keyed Try.underlying3) Try.underlying48 _ b2 (N + q) _ rfl hm (by unfold maxLen; omega) _ _ _ rfl rfl hkey _ [] (plainElem_int Try.underlying3 hwf) ?_; intro w9 hm9 hgrow9))
              go_roundw
              case rel =>
                have f9 : Fr (fun j => j = b2) w8 w9 := Fr.grown hgrow9 (fun j hj => by cases hj; rfl)
                refine ⟨q + 1, m + r, xs ++ [m + r], some ⟨g', 0, none⟩, cap', by omega, by omega, by simp [HXS.out], by go_num, by go_num, rfl, by omega, by omega, rfl, ⟨rise_snoc HG.out.rise hm0 hr0, ?_, ?_, ?_⟩⟩
                · rw [List.map_append]
                  exact f9.owns HO8.out (fun j hj e => by have e : j = b2 := e; omega)
                · refine count_put (x := m + r) (y := y + 1) (by omega) (by omega) HM.out HCV.out (by rw [show ((y + 1 : Nat) : Int) = (y : Int) + 1 by omega]; exact hm9) ?_ (fun v hv => ?_)
                  · show c (m + r) + (xs ++ [m + r]).count (m + r) = y + 1
                    rw [List.count_append, ← HY.out]
                    simp
                    omega
                  · show c v + (xs ++ [m + r]).count v = c v + xs.count v
                    rw [List.count_append, List.count_eq_zero.2 (show v ∉ [m + r] by simpa using hv)]
                    rfl
                · exact (HG.out.fr.fresh HF8.out (fun j hj h => by have h : wo.heap.size ≤ j := h; omega)).trans f9
              case measure => simp [intOf]; omega
            · obtain ⟨db, ad, cap2, hlie, hdb1, hdb2⟩ : ∃ db ad cap2, ((Value.slice Ag q cg = .slice none 0 0 ∧ xs = []) ∨ (Value.slice Ag q cg = .slice (some ad) xs.length cap2 ∧ ∀ i x, xs[i]? = some x → ad.block = db ∧ wr.cell? (ad.add i) = some (.int .i64 x))) ∧ (db = b3 ∨ wo.heap.size ≤ db) ∧ db < wr.heap.size := by
                rcases lies_ints (xs := xs) (by rw [HXS.out]; exact HG.out.own) with ⟨h1, h2⟩ | ⟨g, cap, h1, h2, h3, h4⟩
                · exact ⟨b3, ⟨0, 0, none⟩, 0, .inl ⟨h1, h2⟩, .inl rfl, by omega⟩
                · exact ⟨g, ⟨g, 0, none⟩, cap, .inr ⟨h1, fun i x hx => ⟨rfl, h4 i x hx⟩⟩, .inr h2, h3⟩
              have HLIE := hid' hlie
              have hTlt : ∀ j, j < k → D.T j < wo.heap.size ∧ (D.T j = b1 ∨ b3 ≤ D.T j) ∧ D.T j ≠ b3 := fun j hj => by
                have h1 := HB.out.holds.t j hj
                refine ⟨h1.lt, HB.out.low _ (.inr ⟨j, hj, .inr (.inl rfl)⟩), fun e => ?_⟩
                have h2 := HB.out.box
                rw [e] at h1
                exact row_type h1 h2
              have HTL := hid' hTlt
              clear hlie hTlt cbx
              by_cases hqlt : q < L k
              all_goals
                go_wp2_with fail
                refine (source_any _ _ _ rfl rfl).mono ?_
                rintro e w1 ⟨a1, t1, l1, rfl, hA, hT, hL, hTA, hTL, rA, rT, rL, f1⟩
                have sz4 := f1.size
                have H0 := HB.out.holds.keep HG.out.fr (fun j hj hd => by have hj : j = b2 := hj; have := HB.out.low j hd; omega)
                have hl1 : (Value.slice Ag q cg = .slice none 0 0 ∧ xs = []) ∨ (Value.slice Ag q cg = .slice (some ad) xs.length cap2 ∧ ∀ i x, xs[i]? = some x → ad.block = db ∧ w1.cell? (ad.add i) = some (.int .i64 x)) :=
                  HLIE.out.imp id fun ⟨h1, h2⟩ => ⟨h1, fun i x hx => ⟨(h2 i x hx).1, (World.cell?_of_block (w := wr) (by rw [add_blk, (h2 i x hx).1]; exact f1.block _ hdb2 id)).trans (h2 i x hx).2⟩⟩
                have H1 := holds_add H0 f1 hA hT hL hTA hTL (by rw [HB.out.cb, HB.out.ci]; exact rA) rT rL (ls := xs) (db := db) (ad := ad) (cap := cap2) hl1 (by rw [HB.out.m, HB.out.ci]; exact Nat.zero_lt_one) (by rw [HB.out.cb]; omega)
                  (fun j hj => by have := HTL.out j hj; omega) (by omega) (by rw [HXS.out]; omega) (by omega)
                have oF := f1.owns (HG.out.fr.owns HB.out.own (fun j hj e => by have e : j = b2 := e; omega)) (fun _ _ h => h)
                have HH1 := hid' H1
                have HF1 := hid' f1
                have hTb : ∀ g, u5.ownBlock = some g → b3 < g ∧ g < wo.heap.size := fun g hg => by have := HB.out.own.lt g hg; omega
                have HTB := hid' hTb
                clear H0 H1 hl1 rA rT rL f1 hTb
                go_wp2_with (at_builtin; refine wpList_append_own_at _ rfl _ _ 35 rfl (b3 + 1) 25 i0 .nilFunc 1 8 (by kernel_rfl) hi hz0 hz1 hz2 rfl (by decide) _ _ _ rfl (oF.alloc _) ⟨w1.heap.size, 0, none⟩ 1 1 [.func (.func 21) #[] #[.pointer (some ⟨a1, 0, none⟩), .pointer (some ⟨t1, 0, none⟩), .pointer (some ⟨l1, 0, none⟩)]] rfl rfl (cell_one_new _ _ _) (by simp [Value.oneCell']) (by unfold maxLen; omega) (by omega) (by simp; omega) ?_; intro v' w3 hown' hgrow _ hat; have hat2 : v'.ownBlock = u5.ownBlock ∨ v'.ownBlock = some (w1.alloc (.cells #[.func (.func 21) #[] #[.pointer (some ⟨a1, 0, none⟩), .pointer (some ⟨t1, 0, none⟩), .pointer (some ⟨l1, 0, none⟩)]] 25)).heap.size := hat; clear hat)
                have f4 : Fr (fun q => u5.ownBlock = some q) w1 w3 := ((Fr.refl _ w1).alloc _).trans (Fr.grown hgrow (fun q hq => hq))
                have hlow : ∀ g, u5.ownBlock = some g → ¬ Dep (D.add k a1 t1 l1 (.slice Ag q cg) xs db ad cap2) (k + 1) g := fun g hg hdp => by
                  have h1 := HTB.out g hg
                  rcases dep_addR hdp with h | h | h | h | h
                  · exact HB.out.free g hg h
                  · omega
                  · omega
                  · omega
                  · omega
                have n0 : ∀ j, j ≤ b3 → ¬ u5.ownBlock = some j := fun j hj h => by have := HTB.out j h; omega
                refine ⟨⟨k + 1, N + q, N + q, D.add k a1 t1 l1 (.slice Ag q cg) xs db ad cap2, by omega, by omega, rfl, by omega, ?_, by go_num, by go_num, ⟨HH1.out.keep f4 hlow, HB.out.cb, HB.out.m, HB.out.ci, fun j hj => ?_, fun j hj => ?_, by rw [srcV_addR]; exact hown', fun g hg => ?_, ?_,
                  f4.row (HF1.out.row (HG.out.fr.row HB.out.res (show ¬ b0 = b2 by omega)) id) (n0 b0 (by omega)), f4.row (HF1.out.row (HG.out.fr.row HB.out.box (show ¬ b3 = b2 by omega)) id) (n0 b3 (by omega)), ?_, fun g hg => ?_⟩⟩, by simp [intOf]; omega⟩
                · rw [sumN, sumN_congr (q' := fun j => (D.ls j).length) k (fun j hj => by simp only [Src.add, if_neg (show ¬ j = k by omega)]), HSM.out]
                  simp only [Src.add, if_pos]
                  rw [HXS.out]
                · by_cases e : j = k
                  · subst e; simp only [Src.add, if_pos]; exact ⟨m, HG.out.rise, by omega⟩
                  · simp only [Src.add, if_neg e]; exact HB.out.rise j (by omega)
                · by_cases e : j = k
                  · subst e; simp only [Src.add, if_pos]; rw [HXS.out]; omega
                  · simp only [Src.add, if_neg e]; exact HB.out.small j (by omega)
                · rcases hat2 with h | h
                  · exact hlow g (by rw [← h]; exact hg)
                  · rw [h] at hg
                    cases hg
                    exact fun hdp => by have h2 := HH1.out.lt _ hdp; rw [World.size_alloc] at h2; omega
                · have h1 := (HG.out.count.fr HF1.out id).fr f4 (n0 b2 (by omega))
                  rw [show (fun v => sumN (fun j => ((D.add k a1 t1 l1 (.slice Ag q cg) xs db ad cap2).ls j).count v) (k + 1)) = fun v => c v + xs.count v from funext fun v => by
                    rw [sumN, sumN_congr (q' := fun j => (D.ls j).count v) k (fun j hj => by simp only [Src.add, if_neg (show ¬ j = k by omega)]), ← HC.out]
                    simp only [Src.add, if_pos]]
                  exact h1
                · have := HWZ.out
                  exact ((HB.out.fr.fresh HG.out.fr (fun j hj h => by have h : j = b2 := h; omega)).trans HF1.out).fresh f4 (fun j hj h => by have := HTB.out j h; omega)
                · rcases dep_addR hg with h | h | h | h | h
                  · exact HB.out.low g h
                  · omega
                  · omega
                  · omega
                  · omega
        · obtain rfl : k = 8 := by omega
          go_wp2_with fail
          go_meet
          case rel => exact ⟨8, N, N, D, by omega, rfl, htot, HSM.out, rfl, HB.out⟩
      · go_wp2_with fail
        go_meet
        case rel => exact ⟨k, N, N, D, by omega, rfl, htot, HSM.out, rfl, HB.out⟩
  case rest =>
    obtain ⟨k, N, tot, D, hk8, rfl, htot, hsum, rfl, hB⟩ := hcut
    obtain ⟨A5, C5, rfl⟩ : ∃ A5 C5, u5 = .slice A5 k C5 := by
      rcases hB.own.2 with ⟨h1, h2⟩ | ⟨g, cap, cur, h1, _⟩
      · exact ⟨none, 0, by rw [h1, h2]⟩
      · exact ⟨_, _, h1⟩
    have HB := hid' hB
    have HSM := hid' hsum
    have sz3 := hB.box.lt
    have HTD := hid' (show ∀ q, Dep D k q → q < wc.heap.size from fun q h => hB.holds.lt q h)
    have HTO := hid' (show ∀ q, Own D k q → q = b1 ∨ b3 < q from fun q hq => by
      rcases hq with rfl | ⟨j, hj, rfl⟩
      · exact .inl hB.cb
      · rcases hB.low _ (.inr ⟨j, hj, .inr (.inl rfl)⟩) with h | h
        · exact .inl h
        · by_cases e : D.T j = b3
          · have h1 := hB.holds.t j hj
            rw [e] at h1
            exact (row_type h1 hB.box).elim
          · omega)
    have HNW := hid' (run_new_ownR D k wc (b3 + 1) _ hB.own (by omega) hB.holds)
    clear hB hsum
    go_wp2_with fail
    refine HNW.out.mono ?_
    rintro e w1 ⟨b, bs, cs, bh, bl, rfl, R1, f1, q1, q2, q3, q4⟩
    have g1 := f1.size
    have hx : b < w1.heap.size ∧ bs < w1.heap.size ∧ bh < w1.heap.size ∧ bl < w1.heap.size := by
      obtain ⟨lost, T, _⟩ := R1.tree
      exact ⟨T.tree.lt, T.src.lt, T.hands.lt, T.lost.lt⟩
    have HSA := hid' (show ∀ q, SA D k bh bl q → (q = b1 ∨ b3 < q) ∧ q < w1.heap.size from fun q hq => by
      rcases hq with h | rfl | rfl
      · exact ⟨HTO.out q h, by have := HTD.out q h.dep; omega⟩
      · omega
      · omega)
    have HDP := hid' (show ∀ q, Dep D k q ∨ q = b ∨ q = bs ∨ q = bh ∨ q = bl → (q = b1 ∨ b3 ≤ q) ∧ q < w1.heap.size from fun q hq => by
      rcases hq with h | rfl | rfl | rfl | rfl
      · exact ⟨HB.out.low q h, by have := HTD.out q h; omega⟩
      · omega
      · omega
      · omega
      · omega)
    have o0 : ¬ Own D k b0 := fun h => by have := HTO.out _ h; omega
    have o2 : ¬ Own D k b2 := fun h => by have := HTO.out _ h; omega
    have o3 : ¬ Own D k b3 := fun h => by have := HTO.out _ h; omega
    have fw1 : Fr (fun _ => False) w w1 := HB.out.fr.fresh f1 (fun j hj h => by have := HTO.out _ h; omega)
    have HRES := hid' (f1.row HB.out.res o0)
    have HBOX := hid' (f1.row HB.out.box o3)
    have HCNT := hid' (HB.out.count.fr f1 o2)
    have HF1 := hid' fw1
    have HR1 := hid' R1
    clear o0 o2 o3 fw1 R1 f1 q1 q2 q3 q4 HNW
    go_wp2_with fail
    refine (within_any stop 0 N _ (by omega) (by omega) (by omega)).mono ?_
    rintro e w' ⟨⟨kk, hk0, hk1, rfl⟩, rfl⟩
    obtain ⟨kk, rfl⟩ : ∃ m : Nat, kk = m := ⟨kk.toNat, by omega⟩
    have rk := ((row_one w1 (.int .i64 kk) 3).alloc (.cells #[.int .i64 0] 3)).alloc (.cells #[.int .i64 0] 3)
    have rw' := (row_one (w1.alloc (.cells #[.int .i64 kk] 3)) (.int .i64 0) 3).alloc (.cells #[.int .i64 0] 3)
    have rn := row_one ((w1.alloc (.cells #[.int .i64 kk] 3)).alloc (.cells #[.int .i64 0] 3)) (.int .i64 0) 3
    simp only [World.size_alloc] at rw' rn
    have f2 : Fr (fun _ => False) w1 (((w1.alloc (.cells #[.int .i64 kk] 3)).alloc (.cells #[.int .i64 0] 3)).alloc (.cells #[.int .i64 0] 3)) := (((Fr.refl _ _).alloc _).alloc _).alloc _
    have hz2' : (((w1.alloc (.cells #[.int .i64 kk] 3)).alloc (.cells #[.int .i64 0] 3)).alloc (.cells #[.int .i64 0] 3)).heap.size = w1.heap.size + 3 := by simp
    have HRK := hid' rk
    have HRW := hid' rw'
    have HRN := hid' rn
    have HF2 := hid' f2
    have HZ2 := hid' hz2'
    clear rk rw' rn f2 hz2'
    have HPA := hid' (show Past D.ls k (fun _ => 0) 0 from fun j hj x hx => by obtain ⟨m, hm, _⟩ := HB.out.rise j hj; exact (hm.1 _ x hx).1)
    obtain ⟨bk, hbk⟩ : ∃ bk, w1.heap.size = bk := ⟨_, rfl⟩
    have HBK := hid' hbk
    rw [hbk] at HRK HRW HRN HZ2 HSA HDP g1
    obtain ⟨bw, hbw⟩ : ∃ bw, bk + 1 = bw := ⟨_, rfl⟩
    rw [hbw] at HRW HRN
    obtain ⟨bn, hbn⟩ : ∃ bn, bw + 1 = bn := ⟨_, rfl⟩
    rw [hbn] at HRN
    have k1 : bk < bw := by omega
    have k2 : bw < bn := by omega
    have HBW := hid' hbw
    have HBN := hid' hbn
    clear hbk hbw hbn
    have M0 : Mid w b0 b2 b3 k bw bn bk D N kk (fun _ => 0) 0 (((w1.alloc (.cells #[.int .i64 kk] 3)).alloc (.cells #[.int .i64 0] 3)).alloc (.cells #[.int .i64 0] 3)) := by
      refine ⟨HRW.out, HRN.out.congr fun i hi => by rw [sumN_const]; simp, HRK.out, ?_, HPA.out, by omega, HF2.out.row HRES.out id, HF2.out.row HBOX.out id, HF1.out.trans HF2.out⟩
      have := (HCNT.out.fr HF2.out id).congr (c' := remN D.ls (fun _ => 0) k) (fun v => by unfold remN; simp)
      rw [sumN_const, Nat.zero_mul]
      exact this
    have HM0 := hid' M0
    have HR2 := hid' (HR1.out.keep HF2.out (fun _ h => h.elim))
    clear M0 HRK HRW HRN HRES HBOX HCNT
    by_cases hkk : 0 < kk
    · go_wp2_with fail
      refine (all_fn b _).mono ?_
      rintro e w' ⟨rfl, rfl⟩
      go_wp2_with fail
      rw [HBK.out, HBW.out, HBN.out]
      obtain ⟨wz, hwz⟩ : ∃ wz, ((w1.alloc (.cells #[.int .i64 kk] 3)).alloc (.cells #[.int .i64 0] 3)).alloc (.cells #[.int .i64 0] 3) = wz := ⟨_, rfl⟩
      rw [hwz] at HM0 HR2 HZ2 HF2 ⊢
      have rx := row_one wz (.pointer (some ⟨b, 0, none⟩)) 22
      have fx : Fr (fun _ => False) wz (wz.alloc (.cells #[.pointer (some ⟨b, 0, none⟩)] 22)) := (Fr.refl _ _).alloc _
      have HM1 := hid' (HM0.out.keep fx (fun _ h => h.elim))
      have HR3 := hid' (HR2.out.keep fx (fun _ h => h.elim))
      have HRX := hid' rx
      have szx : (wz.alloc (.cells #[.pointer (some ⟨b, 0, none⟩)] 22)).heap.size = wz.heap.size + 1 := by simp
      obtain ⟨wx, hwx⟩ : ∃ wx, wz.alloc (.cells #[.pointer (some ⟨b, 0, none⟩)] 22) = wx := ⟨_, rfl⟩
      obtain ⟨bx, hbx⟩ : ∃ bx, bn + 1 = bx := ⟨_, rfl⟩
      have hzx : wz.heap.size = bx := by have := HZ2.out; have := HBW.out; have := HBN.out; omega
      rw [hwx] at HM1 HR3 HRX szx ⊢
      rw [hbx]
      rw [hzx] at HRX HZ2 szx
      have HSZ := hid' szx
      clear hwz hwx hbx hzx rx fx szx HM0 HR2 HR1
      have HFA := hid' (show ∀ q, (SA D k bh bl q ∨ wx.heap.size ≤ q) → q ≠ b0 ∧ q ≠ b2 ∧ q ≠ b3 ∧ q ≠ bw ∧ q ≠ bn ∧ q ≠ bk ∧ w.heap.size ≤ q from fun q hq => by
        have := HSZ.out
        have := HBN.out
        have := HBW.out
        have := HZ2.out
        rcases hq with h | h
        · have := HSA.out q h; omega
        · omega)
      have HFR := hid' (show ∀ q, q = b2 ∨ q = bw ∨ q = bn ∨ wx.heap.size ≤ q → ¬ Dep D k q ∧ q ≠ b ∧ q ≠ bs ∧ q ≠ bh ∧ q ≠ bl ∧ q ≠ bx from fun q hq => by
        have := HSZ.out
        have := HBN.out
        have := HBW.out
        have := HZ2.out
        exact ⟨fun hd => by have := HDP.out q (.inl hd); omega, fun e => by have := HDP.out q (.inr (.inl e)); omega, fun e => by have := HDP.out q (.inr (.inr (.inl e))); omega, fun e => by have := HDP.out q (.inr (.inr (.inr (.inl e)))); omega, fun e => by have := HDP.out q (.inr (.inr (.inr (.inr e)))); omega, by omega⟩)
      have HSK := hid' (show ∀ s (A B : World) (S : Nat → Prop), (∀ q, S q → q = b2 ∨ q = bw ∨ q = bn ∨ wx.heap.size ≤ q) → StA D k b bs cs bh bl bx s A → Fr S A B → StA D k b bs cs bh bl bx s B from fun s A B S hS h f =>
        ⟨h.1.keep f (fun q hq => by obtain ⟨a1, a2, a3, a4, a5, _⟩ := HFR.out q (hS q hq); exact ⟨a1, a2, a3, a4, a5⟩), h.2.1, f.row h.2.2 (fun hq => (HFR.out _ (hS _ hq)).2.2.2.2.2 rfl)⟩)
      refine (wpIn_wide (n := 5)).1 ?_
      refine wpIn_rangeFunc_T2 (F := Fence.wide) (n := 5) rfl (by decide) (gf := 25) (lb := #[.pointer (some ⟨bx, 0, none⟩)]) rfl trivial (enters_of Try.func25 (by kernel_rfl) rfl)
        (all_seq 4 (by decide) D k b bs cs bh bl bx (fun q hq => by have := HSA.out q hq; have := HZ2.out; omega)) (fun _ => rfl) (fun q hq => by have := HSA.out q hq; have := HZ2.out; have := HSZ.out; omega)
        (fun s A B h f => HSK.out s A B _ (fun q hq => .inr (.inr (.inr hq))) h f)
        (fun s W => (∃ was, Mid w b0 b2 b3 k bw bn bk D N kk s was W) ∧ sumN s k < kk)
        (fun c s W => c = .exit 4 ∧ StA D k b bs cs bh bl bx s W ∧ (∃ was, Mid w b0 b2 b3 k bw bn bk D N kk s was W) ∧ sumN s k = kk)
        ?hI ?hIx (fun _ => 0) ⟨HR3.out, fun j hj => Nat.zero_le _, HRX.out⟩ ⟨⟨0, HM1.out⟩, by rw [sumN_const]; omega⟩ ?body ?done ?stop
      case hI =>
        rintro s A B ⟨⟨was, M⟩, h2⟩ f
        exact ⟨⟨was, M.keep f (fun q hq => HFA.out q hq)⟩, h2⟩
      case hIx =>
        rintro c s A B ⟨rfl, h1, ⟨was, M⟩, h2⟩ f
        exact ⟨rfl, HSK.out s A B _ (fun q hq => .inr (.inr (.inr hq))) h1 f, ⟨was, M.keep f (fun q hq => HFA.out q (.inr hq))⟩, h2⟩
      case body =>
        apply Exists.intro
        refine ⟨fun l x W K hK => ?_, fun l s x s' W hstep hst hI => ?_⟩
        · gi_wp2
          exact hK
        · obtain ⟨⟨was, M⟩, hlt⟩ := hI
          have hx := hstep.bound HB.out.rise
          have hp := (hstep.past (fun j hj => (HB.out.rise j hj).imp fun m h => h.1) M.past).1
          have hc := hstep.count x
          rw [if_pos rfl] at hc
          have hs := hstep.sum
          obtain ⟨z, hz⟩ : ∃ z, remN D.ls s' k x = z := ⟨_, rfl⟩
          rw [hz] at hc
          have hlk := look_run M.count (x := x) (by omega) (by omega)
          rw [hc] at hlk
          have hsN : sumN s k ≤ N := by omega
          have hzb : z ≤ 1000 := by
            have h1 : remN D.ls s' k x ≤ sumN (fun j => (D.ls j).length) k := sumN_le k fun j _ => Nat.le_trans List.count_le_length (by simp)
            rw [hz, HSM.out] at h1
            omega
          obtain ⟨w1', hup, hcn, fu⟩ := upd_run M.count (x := x) (y := z) (by omega) (by omega) (by omega) hzb
          have cw := M.last.cell (i := 0) (by decide)
          have cm := M.box.cell (i := 0) (by decide)
          have cw1 := (fu.row M.last (show ¬ bw = b2 by omega)).cell (i := 0) (by decide)
          have zw1 := (fu.row M.last (show ¬ bw = b2 by omega)).frozen 0
          have cn1 := (fu.row M.num (show ¬ bn = b2 by omega)).cell (i := 0) (by decide)
          have zn1 := (fu.row M.num (show ¬ bn = b2 by omega)).frozen 0
          have ck1 := (fu.row M.kb (show ¬ bk = b2 by omega)).cell (i := 0) (by decide)
          obtain ⟨g, hg⟩ : ∃ g, sumN s k = g := ⟨_, rfl⟩
          rw [hg] at cn1 hlt hsN
          have HM := hid' M
          have HST := hid' hst
          have HSTP := hid' hstep
          have HG := hid' hg
          have HS := hid' hs
          have HZ := hid' hz
          have HCN := hid' hcn
          have HFU := hid' fu
          clear M hst hstep hg hs hz hc hcn fu
          have fin : Mid w b0 b2 b3 k bw bn bk D N kk s' x ((w1'.setCell ⟨bw, 0, none⟩ (.int .i64 x)).setCell ⟨bn, 0, none⟩ (.int .i64 ((g : Int) + 1))) ∧
              Fr (fun j => j = b2 ∨ j = bw ∨ j = bn) W ((w1'.setCell ⟨bw, 0, none⟩ (.int .i64 x)).setCell ⟨bn, 0, none⟩ (.int .i64 ((g : Int) + 1))) := by
            have R := HM.out.round (W1 := w1') HSTP.out HB.out.rise ⟨hw0, by omega, l23, by have := HBK.out; omega, k1, k2⟩ (by rw [HZ.out]; exact HCN.out) HFU.out
            rw [HG.out] at R
            exact R
          have FIN := hid' fin
          have HSK2 := hid' (HSK.out s' W _ (fun q => q = b2 ∨ q = bw ∨ q = bn) (fun q hq => by rcases hq with h | h | h <;> simp [h]) HST.out fin.2)
          have HLT := hid' (show ∀ j, (j = b2 ∨ j = bw ∨ j = bn) → j < wx.heap.size from fun j hj => by have := HSZ.out; have := HBN.out; have := HBW.out; have := HZ2.out; omega)
          clear fin
          by_cases hgk : g + 1 = kk
          · have hb : (((g : Int) + 1) == (kk : Int)) = true := by simp; omega
            have HGK := hid' hgk
            clear hgk
            gi_wp2
            exact ⟨FIN.out.2.mono (fun j _ h => HLT.out j h), rfl, HSK2.out, ⟨x, FIN.out.1⟩, by have := HS.out; have := HG.out; have := HGK.out; omega⟩
          · have hb : (((g : Int) + 1) == (kk : Int)) = false := by simp; omega
            have HGK := hid' hgk
            clear hgk
            gi_wp2
            exact ⟨FIN.out.2.mono (fun j _ h => HLT.out j h), HSK2.out, ⟨x, FIN.out.1⟩, by have := HS.out; have := HG.out; have := HGK.out; omega⟩
      case done =>
        rintro D' s W hD hstop hst ⟨⟨was, M⟩, hlt⟩ hK
        have h1 := all_of_dead D k s hst.2.1 hstop
        rw [HSM.out] at h1
        omega
      case stop =>
        rintro D1 c s W hD ⟨rfl, hst, ⟨was, M⟩, hsk⟩ hK
        refine wpIn_wide.2 ?_
        have cnt := hst.1.count
        rw [HB.out.cb, HB.out.m, HB.out.ci] at cnt
        have casked := cnt.cell (i := 0) (by decide)
        rw [counted_sum, asked_sum, hsk, show IntKind.i64.wrap ((k + kk : Nat) : Int) = (k : Int) + kk by rw [IntWalk.i64_in _ (by omega)]; omega] at casked
        have cn := M.num.cell (i := 0) (by decide)
        rw [hsk] at cn
        have ck := M.kb.cell (i := 0) (by decide)
        have hlD := (Array.getElem?_eq_some_iff.1 hK).1
        obtain ⟨p, hp⟩ : ∃ p : Bool, p = true := ⟨_, rfl⟩
        have HP := hid' hp
        have HMD := hid' M
        have HRN := hid' hst.1
        have HSL := hid' hst.2.1
        have HMK := hid' (show Mk p D1 W from fun _ => hK)
        have HDG := hid' (show b3 < D1 ∧ w.heap.size ≤ D1 from by have := HZ2.out; have := HSZ.out; have := HBN.out; have := HBW.out; omega)
        have HD10 := hid' (show D1 ≠ b0 by have := HDG.out; omega)
        have HDQ := hid' (show ∀ q, SA D k bh bl q ∨ q = b2 ∨ q = bw ∨ q = bn ∨ W.heap.size ≤ q → q ≠ D1 from fun q hq => by
          have := HZ2.out
          have := HSZ.out
          have := HBN.out
          have := HBW.out
          rcases hq with h | h
          · have := HSA.out q h; omega
          · omega)
        have HWN := hid' (show bn < W.heap.size by have := HZ2.out; have := HBN.out; have := HBW.out; have := HSZ.out; omega)
        have HDL := hid' (show D1 < W.heap.size from hlD)
        clear hp hst M hsk hK cnt hD hlD

        -- THE SECOND LOOP
        have HLE2 := hid' (show ∀ q, SA D k bh bl q → q < bk from fun q hq => (HSA.out q hq).2)
        go_wp2_with fail
        refine (all_fn b _).mono ?_
        rintro e w' ⟨rfl, rfl⟩
        go_wp2_with fail
        have rx := row_one W (.pointer (some ⟨b, 0, none⟩)) 22
        have fx : Fr (fun _ => False) W (W.alloc (.cells #[.pointer (some ⟨b, 0, none⟩)] 22)) := (Fr.refl _ _).alloc _
        have HM1 := hid' (HMD.out.keep fx (fun _ h => h.elim))
        have HR3 := hid' (HRN.out.keep fx (fun _ h => h.elim))
        have HMK1 := hid' (HMK.out.keep fx id)
        have HRX := hid' rx
        have szx : (W.alloc (.cells #[.pointer (some ⟨b, 0, none⟩)] 22)).heap.size = W.heap.size + 1 := by simp
        obtain ⟨wx2, hwx⟩ : ∃ wx, W.alloc (.cells #[.pointer (some ⟨b, 0, none⟩)] 22) = wx := ⟨_, rfl⟩
        obtain ⟨bx2, hbx⟩ : ∃ bx, W.heap.size = bx := ⟨_, rfl⟩
        rw [hwx] at HM1 HR3 HRX HMK1 szx ⊢
        rw [hbx] at HRX szx HDQ HWN HDL ⊢
        have HSZ2 := hid' szx
        clear hwx hbx rx fx szx
        have HFA2 := hid' (show ∀ q, (SA D k bh bl q ∨ wx2.heap.size ≤ q) → q ≠ b0 ∧ q ≠ b2 ∧ q ≠ b3 ∧ q ≠ bw ∧ q ≠ bn ∧ q ≠ bk ∧ w.heap.size ≤ q from fun q hq => by
          have := HSZ2.out
          have := HWN.out
          rcases hq with h | h
          · have := HSA.out q h; omega
          · omega)
        have HFR2 := hid' (show ∀ q, q = b2 ∨ q = bw ∨ q = bn ∨ wx2.heap.size ≤ q → ¬ Dep D k q ∧ q ≠ b ∧ q ≠ bs ∧ q ≠ bh ∧ q ≠ bl ∧ q ≠ bx2 from fun q hq => by
          have := HSZ2.out
          have := HWN.out
          exact ⟨fun hd => by have := HDP.out q (.inl hd); omega, fun e => by have := HDP.out q (.inr (.inl e)); omega, fun e => by have := HDP.out q (.inr (.inr (.inl e))); omega, fun e => by have := HDP.out q (.inr (.inr (.inr (.inl e)))); omega, fun e => by have := HDP.out q (.inr (.inr (.inr (.inr e)))); omega, by omega⟩)
        have HSK3 := hid' (show ∀ s (A B : World) (S : Nat → Prop), (∀ q, S q → q = b2 ∨ q = bw ∨ q = bn ∨ wx2.heap.size ≤ q) → StA D k b bs cs bh bl bx2 s A → Fr S A B → StA D k b bs cs bh bl bx2 s B from fun s A B S hS h f =>
          ⟨h.1.keep f (fun q hq => by obtain ⟨a1, a2, a3, a4, a5, _⟩ := HFR2.out q (hS q hq); exact ⟨a1, a2, a3, a4, a5⟩), h.2.1, f.row h.2.2 (fun hq => (HFR2.out _ (hS _ hq)).2.2.2.2.2 rfl)⟩)
        refine (wpIn_wide (n := 5)).1 ?_
        refine wpIn_rangeFunc_T2 (F := Fence.wide) (n := 5) rfl (by decide) (gf := 25) (lb := #[.pointer (some ⟨bx2, 0, none⟩)]) rfl trivial (enters_of Try.func25 (by kernel_rfl) rfl)
          (all_seq 4 (by decide) D k b bs cs bh bl bx2 (fun q hq => by have := HSA.out q hq; have := HWN.out; omega)) (fun _ => rfl) (fun q hq => by have := HSA.out q hq; have := HWN.out; have := HSZ2.out; omega)
          (fun s A B h f => HSK3.out s A B _ (fun q hq => .inr (.inr (.inr hq))) h f)
          (fun s W' => (∃ was, Mid w b0 b2 b3 k bw bn bk D N kk s was W') ∧ Mk p D1 W')
          (fun c s W' => False)
          ?hI2 (fun _ _ _ _ h _ => h) s ⟨HR3.out, HSL.out, HRX.out⟩ ⟨⟨_, HM1.out⟩, HMK1.out⟩ ?body2 ?done2 (fun _ _ _ _ _ h _ => h.elim)
        case hI2 =>
          rintro s' A B ⟨⟨was, M⟩, hmk⟩ f
          exact ⟨⟨was, M.keep f (fun q hq => HFA2.out q hq)⟩, hmk.keep f (fun hq => by rcases hq with h | h; exact HDQ.out _ (.inl h) rfl; exact HDQ.out _ (.inr (.inr (.inr (.inr (by have := HSZ2.out; omega))))) rfl)⟩
        case body2 =>
          apply Exists.intro
          refine ⟨fun l x W' K hK => ?_, fun l s x s' W' hstep hst hI => ?_⟩
          · gi_wp2
            exact hK
          · obtain ⟨⟨was, M⟩, hmk⟩ := hI
            have hx := hstep.bound HB.out.rise
            have hp := (hstep.past (fun j hj => (HB.out.rise j hj).imp fun m h => h.1) M.past).1
            have hc := hstep.count x
            rw [if_pos rfl] at hc
            have hs := hstep.sum
            obtain ⟨z, hz⟩ : ∃ z, remN D.ls s' k x = z := ⟨_, rfl⟩
            rw [hz] at hc
            have hlk := look_run M.count (x := x) (by omega) (by omega)
            rw [hc] at hlk
            have hsN : sumN s k ≤ N := by
              have h1 := sumN_le (q := s') (q' := fun j => (D.ls j).length) k hst.2.1
              rw [HSM.out] at h1
              omega
            have hzb : z ≤ 1000 := by
              have h1 : remN D.ls s' k x ≤ sumN (fun j => (D.ls j).length) k := sumN_le k fun j _ => Nat.le_trans List.count_le_length (by simp)
              rw [hz, HSM.out] at h1
              omega
            obtain ⟨w1', hup, hcn, fu⟩ := upd_run M.count (x := x) (y := z) (by omega) (by omega) (by omega) hzb
            have cw := M.last.cell (i := 0) (by decide)
            have cm := M.box.cell (i := 0) (by decide)
            have cw1 := (fu.row M.last (show ¬ bw = b2 by omega)).cell (i := 0) (by decide)
            have zw1 := (fu.row M.last (show ¬ bw = b2 by omega)).frozen 0
            have cn1 := (fu.row M.num (show ¬ bn = b2 by omega)).cell (i := 0) (by decide)
            have zn1 := (fu.row M.num (show ¬ bn = b2 by omega)).frozen 0
            obtain ⟨g, hg⟩ : ∃ g, sumN s k = g := ⟨_, rfl⟩
            rw [hg] at cn1 hsN
            have HM := hid' M
            have HST := hid' hst
            have HSTP := hid' hstep
            have HG := hid' hg
            have HZ := hid' hz
            have HCN := hid' hcn
            have HFU := hid' fu
            have HMK2 := hid' hmk
            clear M hst hstep hg hs hz hc hcn fu hmk
            have fin : Mid w b0 b2 b3 k bw bn bk D N kk s' x ((w1'.setCell ⟨bw, 0, none⟩ (.int .i64 x)).setCell ⟨bn, 0, none⟩ (.int .i64 ((g : Int) + 1))) ∧
                Fr (fun j => j = b2 ∨ j = bw ∨ j = bn) W' ((w1'.setCell ⟨bw, 0, none⟩ (.int .i64 x)).setCell ⟨bn, 0, none⟩ (.int .i64 ((g : Int) + 1))) := by
              have R := HM.out.round (W1 := w1') HSTP.out HB.out.rise ⟨hw0, by omega, l23, by have := HBK.out; omega, k1, k2⟩ (by rw [HZ.out]; exact HCN.out) HFU.out
              rw [HG.out] at R
              exact R
            have FIN := hid' fin
            have HSK4 := hid' (HSK3.out s' W' _ (fun q => q = b2 ∨ q = bw ∨ q = bn) (fun q hq => by rcases hq with h | h | h <;> simp [h]) HST.out fin.2)
            have HLT2 := hid' (show ∀ j, (j = b2 ∨ j = bw ∨ j = bn) → j < wx2.heap.size from fun j hj => by have := HSZ2.out; have := HWN.out; omega)
            have HMK3 := hid' (HMK2.out.keep fin.2 (fun hq => HDQ.out _ (by rcases hq with h | h | h <;> simp [h]) rfl))
            clear fin
            gi_wp2
            exact ⟨FIN.out.2.mono (fun j _ h => HLT2.out j h), HSK4.out, ⟨x, FIN.out.1⟩, HMK3.out⟩
        case done2 =>
          rintro D2 s' W' hD hstop hst ⟨⟨was, M⟩, hmk⟩ hK
          have hall := all_of_dead D k s' hst.2.1 hstop
          rw [HSM.out] at hall
          have cn := M.num.cell (i := 0) (by decide)
          rw [hall] at cn
          have live := run_live hst.1
          rw [hstop] at live
          have HLV := hid' live
          have HM := hid' M
          have HMK2 := hid' hmk
          have HK := hid' hK
          clear live hall hstop hst M hmk hK
          go_wp2_with fail
          refine HLV.out.mono ?_
          rintro e w5 ⟨rfl, f5⟩
          have HF5 := hid' f5
          clear f5 HLV
          go_wp2_with fail
          refine (loserRuns_any _).mono ?_
          rintro e w6 ⟨rfl, f6⟩
          have f7 := HF5.out.trans f6
          have r6 := f7.row HM.out.res id
          have c6 := r6.cell (i := 0) (by decide)
          have z6 := r6.frozen 0
          have HF7 := hid' f7
          have HR6 := hid' r6
          clear f6 f7 r6 cn
          go_wp2_with fail
          have f8 : Fr (fun j => j = b0) w6 (w6.setCell ⟨b0, 0, none⟩ (.bool true)) := (Fr.refl (fun j => j = b0) w6).setCell (a := ⟨b0, 0, none⟩) (fun _ => rfl) _
          have r8 := HR6.out.set 0 (.bool true)
          have hD0 : D2 ≠ b0 := by have := HSZ2.out; have := HWN.out; omega
          have hk8 := f8.blk (HF7.out.blk HK.out id) hD0
          have fall := (HM.out.fr.trans HF7.out).fresh f8 (S' := fun j => j = b0) (fun j hj h => by have h : j = b0 := h; omega)
          have fp := fall.putObj (l := D2) (fun h => by have := HSZ2.out; have := HWN.out; omega) (.deferred none)
          have hm8 := (HMK2.out.keep HF7.out id).keep f8 (fun h => HD10.out h)
          refine ⟨by simp, .inl ⟨_, _, rfl, run_takeDeferred hk8, ?_⟩⟩
          have h1 := hm8 HP.out
          have h2 : ((w6.setCell ⟨b0, 0, none⟩ (.bool true)).putObj D2 (.deferred none)).heap[D1]? = some (.deferred (some [])) := (World.putObj_heap_other (by have := HDL.out; have := HSZ2.out; omega)).trans h1
          refine ⟨by simp, .inl ⟨_, _, rfl, run_takeDeferred h2, ?_⟩⟩
          have fq := fp.putObj (l := D1) (fun h => by have := HDG.out; omega) (.deferred none)
          have c9 : (((w6.setCell ⟨b0, 0, none⟩ (.bool true)).putObj D2 (.deferred none)).putObj D1 (.deferred none)).cell? ⟨b0, 0, none⟩ = some (.bool true) := by
            have e1 := r8.cell (i := 0) (by decide)
            have lt := r8.lt
            exact ((World.cell?_of_block (w := (w6.setCell ⟨b0, 0, none⟩ (.bool true)).putObj D2 (.deferred none)) (World.putObj_heap_other (show b0 ≠ D1 by have := HDG.out; omega))).trans ((World.cell?_of_block (w := w6.setCell ⟨b0, 0, none⟩ (.bool true)) (World.putObj_heap_other (Ne.symm hD0))))).trans e1
          exact ⟨_, by simp [results, Try.results6, go_sem, c9], rfl, fq⟩
    · obtain rfl : kk = 0 := by omega
      rw [show ((0 : Nat) : Int) = 0 from rfl] at HF2 HR2 HM0 HZ2
      have cnt := HR2.out.count
      rw [HB.out.cb, HB.out.m, HB.out.ci] at cnt
      have casked := cnt.cell (i := 0) (by decide)
      rw [counted_sum, asked_sum, sumN_const, show IntKind.i64.wrap ((k + 0 * k : Nat) : Int) = (k : Int) by rw [IntWalk.i64_in _ (by omega)]; omega] at casked
      clear cnt
      obtain ⟨p, hp⟩ : ∃ p : Bool, p = false := ⟨_, rfl⟩
      have HP := hid' hp
      clear hp

      -- THE SECOND LOOP
      have HLE2 := hid' (show ∀ q, SA D k bh bl q → q < bk from fun q hq => (HSA.out q hq).2)
      go_wp2_with fail
      rw [HBK.out, HBW.out, HBN.out]
      clear casked
      obtain ⟨W, hwz⟩ : ∃ wz, ((w1.alloc (.cells #[.int .i64 0] 3)).alloc (.cells #[.int .i64 0] 3)).alloc (.cells #[.int .i64 0] 3) = wz := ⟨_, rfl⟩
      rw [hwz] at HM0 HR2 HF2 HZ2 ⊢
      obtain ⟨s, hs0⟩ : ∃ s : Nat → Nat, (fun _ => 0) = s := ⟨_, rfl⟩
      have HSL := hid' (show ∀ j, j < k → s j ≤ (D.ls j).length by rw [← hs0]; exact fun _ _ => Nat.zero_le _)
      rw [hs0] at HM0 HR2
      have HMD := HM0
      have HRN := HR2
      obtain ⟨D1, hD1⟩ : ∃ D1, bk = D1 := ⟨_, rfl⟩
      have HMK := hid' (show Mk p D1 W from fun h => by rw [HP.out] at h; cases h)
      have HD10 := hid' (show D1 ≠ b0 by have := HBK.out; omega)
      have HDL := hid' (show D1 < W.heap.size by have := HZ2.out; omega)
      have HWN := hid' (show bn < W.heap.size by have := HZ2.out; have := HBN.out; have := HBW.out; omega)
      have HDQ := hid' (show ∀ q, SA D k bh bl q ∨ q = b2 ∨ q = bw ∨ q = bn ∨ W.heap.size ≤ q → q ≠ D1 from fun q hq => by
        have := HWN.out
        have := HBK.out
        rcases hq with h | h
        · have := HSA.out q h; omega
        · omega)
      clear hwz hs0 hD1 HM0 HR2
      refine (all_fn b _).mono ?_
      rintro e w' ⟨rfl, rfl⟩
      go_wp2_with fail
      have rx := row_one W (.pointer (some ⟨b, 0, none⟩)) 22
      have fx : Fr (fun _ => False) W (W.alloc (.cells #[.pointer (some ⟨b, 0, none⟩)] 22)) := (Fr.refl _ _).alloc _
      have HM1 := hid' (HMD.out.keep fx (fun _ h => h.elim))
      have HR3 := hid' (HRN.out.keep fx (fun _ h => h.elim))
      have HMK1 := hid' (HMK.out.keep fx id)
      have HRX := hid' rx
      have szx : (W.alloc (.cells #[.pointer (some ⟨b, 0, none⟩)] 22)).heap.size = W.heap.size + 1 := by simp
      obtain ⟨wx2, hwx⟩ : ∃ wx, W.alloc (.cells #[.pointer (some ⟨b, 0, none⟩)] 22) = wx := ⟨_, rfl⟩
      obtain ⟨bx2, hbx⟩ : ∃ bx, W.heap.size = bx := ⟨_, rfl⟩
      rw [hwx] at HM1 HR3 HRX HMK1 szx ⊢
      rw [hbx] at HRX szx HDQ HWN HDL ⊢
      have HSZ2 := hid' szx
      clear hwx hbx rx fx szx
      have HFA2 := hid' (show ∀ q, (SA D k bh bl q ∨ wx2.heap.size ≤ q) → q ≠ b0 ∧ q ≠ b2 ∧ q ≠ b3 ∧ q ≠ bw ∧ q ≠ bn ∧ q ≠ bk ∧ w.heap.size ≤ q from fun q hq => by
        have := HSZ2.out
        have := HWN.out
        rcases hq with h | h
        · have := HSA.out q h; omega
        · omega)
      have HFR2 := hid' (show ∀ q, q = b2 ∨ q = bw ∨ q = bn ∨ wx2.heap.size ≤ q → ¬ Dep D k q ∧ q ≠ b ∧ q ≠ bs ∧ q ≠ bh ∧ q ≠ bl ∧ q ≠ bx2 from fun q hq => by
        have := HSZ2.out
        have := HWN.out
        exact ⟨fun hd => by have := HDP.out q (.inl hd); omega, fun e => by have := HDP.out q (.inr (.inl e)); omega, fun e => by have := HDP.out q (.inr (.inr (.inl e))); omega, fun e => by have := HDP.out q (.inr (.inr (.inr (.inl e)))); omega, fun e => by have := HDP.out q (.inr (.inr (.inr (.inr e)))); omega, by omega⟩)
      have HSK3 := hid' (show ∀ s (A B : World) (S : Nat → Prop), (∀ q, S q → q = b2 ∨ q = bw ∨ q = bn ∨ wx2.heap.size ≤ q) → StA D k b bs cs bh bl bx2 s A → Fr S A B → StA D k b bs cs bh bl bx2 s B from fun s A B S hS h f =>
        ⟨h.1.keep f (fun q hq => by obtain ⟨a1, a2, a3, a4, a5, _⟩ := HFR2.out q (hS q hq); exact ⟨a1, a2, a3, a4, a5⟩), h.2.1, f.row h.2.2 (fun hq => (HFR2.out _ (hS _ hq)).2.2.2.2.2 rfl)⟩)
      refine (wpIn_wide (n := 5)).1 ?_
      refine wpIn_rangeFunc_T2 (F := Fence.wide) (n := 5) rfl (by decide) (gf := 25) (lb := #[.pointer (some ⟨bx2, 0, none⟩)]) rfl trivial (enters_of Try.func25 (by kernel_rfl) rfl)
        (all_seq 4 (by decide) D k b bs cs bh bl bx2 (fun q hq => by have := HSA.out q hq; have := HWN.out; omega)) (fun _ => rfl) (fun q hq => by have := HSA.out q hq; have := HWN.out; have := HSZ2.out; omega)
        (fun s A B h f => HSK3.out s A B _ (fun q hq => .inr (.inr (.inr hq))) h f)
        (fun s W' => (∃ was, Mid w b0 b2 b3 k bw bn bk D N 0 s was W') ∧ Mk p D1 W')
        (fun c s W' => False)
        ?hI2 (fun _ _ _ _ h _ => h) s ⟨HR3.out, HSL.out, HRX.out⟩ ⟨⟨_, HM1.out⟩, HMK1.out⟩ ?body2 ?done2 (fun _ _ _ _ _ h _ => h.elim)
      case hI2 =>
        rintro s' A B ⟨⟨was, M⟩, hmk⟩ f
        exact ⟨⟨was, M.keep f (fun q hq => HFA2.out q hq)⟩, hmk.keep f (fun hq => by rcases hq with h | h; exact HDQ.out _ (.inl h) rfl; exact HDQ.out _ (.inr (.inr (.inr (.inr (by have := HSZ2.out; omega))))) rfl)⟩
      case body2 =>
        apply Exists.intro
        refine ⟨fun l x W' K hK => ?_, fun l s x s' W' hstep hst hI => ?_⟩
        · gi_wp2
          exact hK
        · obtain ⟨⟨was, M⟩, hmk⟩ := hI
          have hx := hstep.bound HB.out.rise
          have hp := (hstep.past (fun j hj => (HB.out.rise j hj).imp fun m h => h.1) M.past).1
          have hc := hstep.count x
          rw [if_pos rfl] at hc
          have hs := hstep.sum
          obtain ⟨z, hz⟩ : ∃ z, remN D.ls s' k x = z := ⟨_, rfl⟩
          rw [hz] at hc
          have hlk := look_run M.count (x := x) (by omega) (by omega)
          rw [hc] at hlk
          have hsN : sumN s k ≤ N := by
            have h1 := sumN_le (q := s') (q' := fun j => (D.ls j).length) k hst.2.1
            rw [HSM.out] at h1
            omega
          have hzb : z ≤ 1000 := by
            have h1 : remN D.ls s' k x ≤ sumN (fun j => (D.ls j).length) k := sumN_le k fun j _ => Nat.le_trans List.count_le_length (by simp)
            rw [hz, HSM.out] at h1
            omega
          obtain ⟨w1', hup, hcn, fu⟩ := upd_run M.count (x := x) (y := z) (by omega) (by omega) (by omega) hzb
          have cw := M.last.cell (i := 0) (by decide)
          have cm := M.box.cell (i := 0) (by decide)
          have cw1 := (fu.row M.last (show ¬ bw = b2 by omega)).cell (i := 0) (by decide)
          have zw1 := (fu.row M.last (show ¬ bw = b2 by omega)).frozen 0
          have cn1 := (fu.row M.num (show ¬ bn = b2 by omega)).cell (i := 0) (by decide)
          have zn1 := (fu.row M.num (show ¬ bn = b2 by omega)).frozen 0
          obtain ⟨g, hg⟩ : ∃ g, sumN s k = g := ⟨_, rfl⟩
          rw [hg] at cn1 hsN
          have HM := hid' M
          have HST := hid' hst
          have HSTP := hid' hstep
          have HG := hid' hg
          have HZ := hid' hz
          have HCN := hid' hcn
          have HFU := hid' fu
          have HMK2 := hid' hmk
          clear M hst hstep hg hs hz hc hcn fu hmk
          have fin : Mid w b0 b2 b3 k bw bn bk D N 0 s' x ((w1'.setCell ⟨bw, 0, none⟩ (.int .i64 x)).setCell ⟨bn, 0, none⟩ (.int .i64 ((g : Int) + 1))) ∧
              Fr (fun j => j = b2 ∨ j = bw ∨ j = bn) W' ((w1'.setCell ⟨bw, 0, none⟩ (.int .i64 x)).setCell ⟨bn, 0, none⟩ (.int .i64 ((g : Int) + 1))) := by
            have R := HM.out.round (W1 := w1') HSTP.out HB.out.rise ⟨hw0, by omega, l23, by have := HBK.out; omega, k1, k2⟩ (by rw [HZ.out]; exact HCN.out) HFU.out
            rw [HG.out] at R
            exact R
          have FIN := hid' fin
          have HSK4 := hid' (HSK3.out s' W' _ (fun q => q = b2 ∨ q = bw ∨ q = bn) (fun q hq => by rcases hq with h | h | h <;> simp [h]) HST.out fin.2)
          have HLT2 := hid' (show ∀ j, (j = b2 ∨ j = bw ∨ j = bn) → j < wx2.heap.size from fun j hj => by have := HSZ2.out; have := HWN.out; omega)
          have HMK3 := hid' (HMK2.out.keep fin.2 (fun hq => HDQ.out _ (by rcases hq with h | h | h <;> simp [h]) rfl))
          clear fin
          gi_wp2
          exact ⟨FIN.out.2.mono (fun j _ h => HLT2.out j h), HSK4.out, ⟨x, FIN.out.1⟩, HMK3.out⟩
      case done2 =>
        rintro D2 s' W' hD hstop hst ⟨⟨was, M⟩, hmk⟩ hK
        have hall := all_of_dead D k s' hst.2.1 hstop
        rw [HSM.out] at hall
        have cn := M.num.cell (i := 0) (by decide)
        rw [hall] at cn
        have live := run_live hst.1
        rw [hstop] at live
        have HLV := hid' live
        have HM := hid' M
        have HMK2 := hid' hmk
        have HK := hid' hK
        clear live hall hstop hst M hmk hK
        go_wp2_with fail
        refine HLV.out.mono ?_
        rintro e w5 ⟨rfl, f5⟩
        have HF5 := hid' f5
        clear f5 HLV
        go_wp2_with fail
        refine (loserRuns_any _).mono ?_
        rintro e w6 ⟨rfl, f6⟩
        have f7 := HF5.out.trans f6
        have r6 := f7.row HM.out.res id
        have c6 := r6.cell (i := 0) (by decide)
        have z6 := r6.frozen 0
        have HF7 := hid' f7
        have HR6 := hid' r6
        clear f6 f7 r6 cn
        go_wp2_with fail
        have f8 : Fr (fun j => j = b0) w6 (w6.setCell ⟨b0, 0, none⟩ (.bool true)) := (Fr.refl (fun j => j = b0) w6).setCell (a := ⟨b0, 0, none⟩) (fun _ => rfl) _
        have r8 := HR6.out.set 0 (.bool true)
        have hD0 : D2 ≠ b0 := by have := HSZ2.out; have := HWN.out; omega
        have hk8 := f8.blk (HF7.out.blk HK.out id) hD0
        have fall := (HM.out.fr.trans HF7.out).fresh f8 (S' := fun j => j = b0) (fun j hj h => by have h : j = b0 := h; omega)
        have fp := fall.putObj (l := D2) (fun h => by have := HSZ2.out; have := HWN.out; omega) (.deferred none)
        have hm8 := (HMK2.out.keep HF7.out id).keep f8 (fun h => HD10.out h)
        refine ⟨by simp, .inl ⟨_, _, rfl, run_takeDeferred hk8, ?_⟩⟩
        have c9 : ((w6.setCell ⟨b0, 0, none⟩ (.bool true)).putObj D2 (.deferred none)).cell? ⟨b0, 0, none⟩ = some (.bool true) := by
          have e1 := r8.cell (i := 0) (by decide)
          exact (World.cell?_of_block (w := w6.setCell ⟨b0, 0, none⟩ (.bool true)) (World.putObj_heap_other (Ne.symm hD0))).trans e1
        exact ⟨_, by simp [results, Try.results6, go_sem, c9], rfl, fp⟩

end Go.Proofs.Ytiakgffanplmdaa

/- The contract of LoserPlays. -/
import Derived.Test.YtiakgffanplmdaaL3
import Derived.Test.YtiakgffanplmdaaPl
import Derived.Test.YtiakgffanplmdaaNil
namespace Go.Proofs.Ytiakgffanplmdaa
open Go.RowKit Go.Deep

theorem dep_add {D : Src} {n A T L : Nat} {sl : Value} {ls : List Int} {db : Nat} {ad : Addr} {cap k : Nat} (h : Dep (D.add n A T L sl ls db ad cap) (n + 1) k) : Dep D n k ∨ k = A ∨ k = T ∨ k = L ∨ k = db := by
  rcases h with rfl | ⟨j, hj, h⟩
  · exact .inl (.inl rfl)
  · by_cases e : j = n
    · subst e
      simp only [Src.add, if_pos] at h
      exact .inr h
    · simp only [Src.add, if_neg e] at h
      exact .inl (.inr ⟨j, by omega, h⟩)

theorem srcV_add {D : Src} {n A T L : Nat} {sl : Value} {ls : List Int} {db : Nat} {ad : Addr} {cap : Nat} : (List.range (n + 1)).map (srcV (D.add n A T L sl ls db ad cap)) = (List.range n).map (srcV D) ++ [.func (.func 21) #[] #[.pointer (some ⟨A, 0, none⟩), .pointer (some ⟨T, 0, none⟩), .pointer (some ⟨L, 0, none⟩)]] := by
  rw [List.range_succ, List.map_append]
  congr 1
  · refine List.map_congr_left fun j hj => ?_
    have : j < n := by simpa using hj
    unfold srcV Src.add
    simp only [if_neg (show ¬ j = n by omega)]
  · simp [srcV, Src.add]

theorem run_new_own (D : Src) (n : Nat) (w : World) (B : Nat) (v : Value) (h : w.ownsRow B 25 1 v n ((List.range n).map (srcV D))) (hn : n ≤ 1000) (H : Holds D n (fun _ => 0) w) :
    Calls Try.prog 7 #[lessV, v] w fun e w' => ∃ b bs cs bh bl, e = .returned (.pointer (some ⟨b, 0, none⟩)) ∧ Run D n b bs cs bh bl (fun _ => 0) w' ∧ Fr (Own D n) w w' ∧
      w.heap.size ≤ b ∧ w.heap.size ≤ bs ∧ w.heap.size ≤ bh ∧ w.heap.size ≤ bl := by
  rcases h.2 with ⟨rfl, rfl⟩ | ⟨g, cap, cur, rfl, h1, h2, h3, h4⟩
  · refine (run_new_nil D w H (fun k hk => H.lt k hk)).mono ?_
    rintro e w' ⟨b, bs, cs, bh, bl, rfl, R, f, g1, g2, g3, g4⟩
    exact ⟨b, bs, cs, bh, bl, rfl, R, f.mono (fun _ _ h => h.elim), g1, g2, g3, g4⟩
  · refine run_new D n w g cap ⟨lt_of_block h2, fun j hj => ?_⟩ hn H (fun k hk => H.lt k hk)
    have := h.cells (g := g) rfl j (srcV D j) (by simp [hj])
    rwa [add_flat] at this

/-- Where the hand search stands. -/
def lead : Option Nat → Int
  | none => -1
  | some b => b

/-- A list of an argument, as a source wants it. -/
theorem lies_arg {w : World} {a : Addr} {n : Nat} {A : Nat → Option Addr} {L C : Nat → Nat} {ls : Nat → List Int} (X : Arg w a n A L C ls) (k : Nat) (hk : k < n) (w1 : World) (f : Fr (fun _ => False) w w1) (l1 : Nat) (hl1 : l1 < w1.heap.size) :
    ∃ db ad cap, ((Value.slice (A k) (L k) (C k) = .slice none 0 0 ∧ ls k = []) ∨ (Value.slice (A k) (L k) (C k) = .slice (some ad) (ls k).length cap ∧ ∀ i x, (ls k)[i]? = some x → ad.block = db ∧ w1.cell? (ad.add i) = some (.int .i64 x))) ∧ (db = l1 ∨ db < w.heap.size) ∧ db < w1.heap.size := by
  cases hA : A k with
  | none =>
    have hn := X.nil k hk hA
    have hl := X.len k hk
    rw [hn.1] at hl
    exact ⟨l1, ⟨0, 0, none⟩, 0, .inl ⟨by rw [hn.1, hn.2], List.eq_nil_of_length_eq_zero hl⟩, .inl rfl, hl1⟩
  | some a' =>
    have hl := X.len k hk
    rw [← hl]
    by_cases h0 : ls k = []
    · exact ⟨l1, a', C k, .inr ⟨rfl, fun i x h => by rw [h0] at h; simp at h⟩, .inl rfl, hl1⟩
    · obtain ⟨x0, hx0⟩ : ∃ x0, (ls k)[0]? = some x0 := by
        cases h : ls k with
        | nil => exact absurd h h0
        | cons x xs => exact ⟨x, rfl⟩
      have hb := World.block_lt_of_cell? _ _ (X.cell k hk a' hA 0 x0 hx0)
      rw [add_blk] at hb
      refine ⟨a'.block, a', C k, .inr ⟨rfl, fun i x h => ⟨rfl, ?_⟩⟩, .inr hb, Nat.lt_of_lt_of_le hb f.size⟩
      exact (World.cell?_of_block (w := w) (by rw [add_blk]; exact f.block _ hb id)).trans (X.cell k hk a' hA i x h)

set_option maxRecDepth 100000 in
set_option maxHeartbeats 4000000 in
theorem plays_any (w : World) (v0 : Value) (a : Addr) (len cap : Nat) (A : Nat → Option Addr) (L C : Nat → Nat) (ls : Nat → List Int) (X : Arg w a len A L C ls) (hlc : len ≤ cap) (hc : cap ≤ 140737488355328)
    (h0 : v0 = .slice none 0 0 ∧ len = 0 ∨ v0 = .slice (some a) len cap) :
    Calls Try.prog 4 #[v0] w fun e w' => e = .returned (.bool true) ∧ Fr (fun _ => False) w w' := by
  go_enter Try.func4, Try.ntmps4
  go_upto_region 1 with (fail)
  go_cut [3] (fun v wx => ∃ Ao n Co, v = .slice Ao n Co ∧ n ≤ 9 ∧ n ≤ len ∧ (n = 0 ∨ Ao = some a) ∧ wx = w)
  case first =>
    rcases h0 with ⟨rfl, rfl⟩ | rfl
    · go_wp2_with fail
      go_meet
      case rel => exact ⟨_, _, _, rfl, by omega, by omega, .inl rfl, rfl⟩
    · by_cases h9 : len ≤ 9
      · go_wp2_with fail
        go_meet
        case rel => exact ⟨_, _, _, rfl, h9, by omega, .inr rfl, rfl⟩
      · go_wp2_with fail
        go_meet
        case rel => exact ⟨_, _, _, rfl, by omega, by omega, .inr rfl, rfl⟩
  case rest =>
    obtain ⟨Ao, n, Co, rfl, hn9, hnl, hAo, rfl⟩ := hcut
    have mk := fun w => run_make27 w n (by omega)
    go_wp2_with fail
    clear mk
    have ra := (World.rowIs_made wc (.int .i64 0) n 3).alloc (.cells (madeCells #[.int .i64 0] n) 3)
    have rb := World.rowIs_made (wc.alloc (.cells (madeCells #[.int .i64 0] n) 3)) (.int .i64 0) n 3
    have fa : Fr (fun _ => False) wc ((wc.alloc (.cells (madeCells #[.int .i64 0] n) 3)).alloc (.cells (madeCells #[.int .i64 0] n) 3)) := ((Fr.refl _ _).alloc _).alloc _
    rw [show (wc.alloc (.cells (madeCells #[.int .i64 0] n) 3)).heap.size = wc.heap.size + 1 by simp] at rb
    obtain ⟨wd, hwd⟩ : ∃ wd, (wc.alloc (.cells (madeCells #[.int .i64 0] n) 3)).alloc (.cells (madeCells #[.int .i64 0] n) 3) = wd := ⟨_, rfl⟩
    rw [hwd] at ra rb fa ⊢
    obtain ⟨bk, hbk⟩ : ∃ bk, wc.heap.size = bk := ⟨_, rfl⟩
    rw [hbk] at ra rb ⊢
    have hs2 : bk + 1 < wd.heap.size := rb.lt
    have h0' : wd.ownsRow wd.heap.size 25 1 (.slice none 0 0) 0 [] := World.ownsRow_nil wd wd.heap.size 25 1
    have H0 := hid' (holds_none ⟨fun _ => 0, fun _ => 0, fun _ => 0, fun _ => .nilFunc, fun _ => [], fun _ => 0, fun _ => ⟨0, 0, none⟩, fun _ => 0, bk, n, fun j => j⟩ wd ra)
    have RB := hid' rb
    have HFA := hid' fa
    have HX := hid' X
    clear ra rb fa hwd X
    obtain ⟨i0, hi, hz0, hz1, hz2⟩ := info_parts Try.info25
    obtain ⟨B, hB⟩ : ∃ B, wd.heap.size = B := ⟨_, rfl⟩
    rw [hB] at h0' hs2
    go_loopw [4, 7, 30] (fun fs total i wr => ∃ (k : Nat) (D : Src) (tot : Int), k ≤ n ∧ i = .int .i64 k ∧ total = .int .i64 tot ∧ 0 ≤ tot ∧ tot ≤ k * 140737488355328 ∧ Holds D k (fun _ => 0) wr ∧ D.cb = bk ∧ D.m = n ∧ D.ci = (fun j => j) ∧ (∀ j, j < k → D.ls j = ls j) ∧
      wr.ownsRow B 25 1 fs k ((List.range k).map (srcV D)) ∧ (∀ g, fs.ownBlock = some g → ¬ Dep D k g) ∧ wr.rowIs (bk + 1) 3 n (fun _ => .int .i64 0) ∧ Fr (fun _ => False) wd wr ∧ (∀ j, j < k → B ≤ D.T j) ∧ ∀ q, Dep D k q → q ≠ bk + 1) (fun _ _ i _ => n - (intOf i).toNat)
    case atStart => exact ⟨0, _, 0, Nat.zero_le _, rfl, rfl, by omega, by omega, H0.out, rfl, rfl, rfl, fun j hj => by omega, h0', by simp [Value.ownBlock], RB.out, Fr.refl _ _, fun j hj => by omega, fun q hq => hq.elim (fun h => by have h : q = bk := h; omega) (fun ⟨j, hj, _⟩ => by omega)⟩
    case round =>
      obtain ⟨k, D, tot, hk, rfl, rfl, ht0, ht1, hH, hD1, hD2, hD3, hls, hown, hnd, hrow, hF, hT, hdk⟩ := hrel
      have HH := hid' hH
      have HL := hid' hls
      have HO := hid' hown
      have HN := hid' hnd
      have HR := hid' hrow
      have HF := hid' hF
      have HT := hid' hT
      have HDK := hid' hdk
      have hsz := hF.size
      clear hH hls hown hnd hrow hF hT hdk
      by_cases hlt : k < n
      · obtain rfl : Ao = some a := by rcases hAo with h | h; · omega
                                       · exact h
        have cx := HX.out.head k (by omega)
        have lx := HX.out.small k (by omega)
        have cw : wr.cell? (a.add k) = some (.slice (A k) (L k) (C k)) := (World.cell?_of_block (w := wc) ((HFA.out.trans HF.out).block _ (World.block_lt_of_cell? _ _ cx) id)).trans cx
        go_wp2_with fail
        refine wp_plan (fun w' => w'.cell? (a.add k) = some (.slice (A k) (L k) (C k))) [(0, true), (1, true), (2, true), (3, true), (4, true), (5, true), (6, true), (7, true), (8, false), (9, false), (10, false), (11, true)] _ (by kernel_rfl) (by kernel_rfl) (by simp only [planOps, List.getElem?_toArray, List.getElem?_cons_zero, List.getElem?_cons_succ]; rfl) cw ?_
        iterate 8 (refine plan_take (v := ?_) rfl ?_ ?_; rotate_left; (focus (intro _ hS; go_simp; first | done | with_reducible rfl)); simp only [Act.put, List.setIfInBounds_toArray, List.set_cons_zero, List.set_cons_succ])
        refine plan_do rfl fun K hK => ?_
        go_simp
        have fd : Fr (fun _ => False) wr wr.drew := (Fr.refl _ _).drew
        refine (source_any wr.drew _ _ rfl rfl).mono ?_
        rintro e w1 ⟨a1, t1, l1, rfl, hA, hT, hL, hTA, hTL, rA, rT, rL, f1⟩
        simp only []
        have g1 := f1.size
        have f2 : Fr (fun _ => False) wr w1 := fd.trans f1
        obtain ⟨db, ad, cp, hlie, hdb, hdb2⟩ := lies_arg HX.out k (by omega) w1 ((HFA.out.trans HF.out).trans f2) l1 rL.lt
        have hsd : wr.drew.heap.size = wr.heap.size := rfl
        rw [hsd] at hA hT hL g1
        have qT : ∀ j, j < k → D.T j < wr.heap.size := fun j hj => (HH.out.t j hj).lt
        have H1 := holds_add (HH.out.keep fd (fun _ h => h.elim)) f1 hA hT hL hTA hTL (by rw [hD1, hD3]; exact rA) rT rL (ls := ls k) (db := db) (ad := ad) (cap := cp) hlie (by rw [hD2, hD3]; exact hlt) (by rw [hD1]; omega)
          (fun j hj => by have := qT j hj; have := HT.out j hj; omega) (by omega) (by rw [HX.out.len k (by omega)]; exact lx) hdb2
        have c1 : w1.cell? (a.add k) = some (.slice (A k) (L k) (C k)) := (World.cell?_of_block (w := wr) (f2.block _ (World.block_lt_of_cell? _ _ cw) id)).trans cw
        refine hK _ _ c1 ?_
        have HH1 := hid' H1
        have HF2 := hid' f2
        have hq : ∀ g, Dep (D.add k a1 t1 l1 (.slice (A k) (L k) (C k)) (ls k) db ad cp) (k + 1) g → Dep D k g ∨ wr.heap.size ≤ g ∨ g < bk := fun g h => by
          rcases dep_add h with h | h | h | h | h
          · exact .inl h
          · omega
          · omega
          · omega
          · omega
        have HQ := hid' hq
        have hTT : B ≤ t1 := by omega
        clear hK K H1 hlie hdb hdb2 rA rT rL hTA hTL hA hL fd f1 f2 qT hq
        refine plan_do rfl fun K hK => ?_
        go_simp
        have f3 : Fr (fun _ => False) w1 (w1.alloc (.cells #[.func (.func 21) #[] #[.pointer (some ⟨a1, 0, none⟩), .pointer (some ⟨t1, 0, none⟩), .pointer (some ⟨l1, 0, none⟩)]] 25)) := (Fr.refl _ _).alloc _
        have hnew := cell_one_new w1 (.func (.func 21) #[] #[.pointer (some ⟨a1, 0, none⟩), .pointer (some ⟨t1, 0, none⟩), .pointer (some ⟨l1, 0, none⟩)]) 25
        obtain ⟨w2, hw2⟩ : ∃ w2, w1.alloc (.cells #[.func (.func 21) #[] #[.pointer (some ⟨a1, 0, none⟩), .pointer (some ⟨t1, 0, none⟩), .pointer (some ⟨l1, 0, none⟩)]] 25) = w2 := ⟨_, rfl⟩
        rw [hw2] at f3 hnew ⊢
        have c2 : w2.cell? (a.add k) = some (.slice (A k) (L k) (C k)) := (World.cell?_of_block (w := w1) (f3.block _ (World.block_lt_of_cell? _ _ c1) id)).trans c1
        refine hK _ _ c2 ?_
        have g2 := f3.size
        have HN2 := hid' hnew
        have hown2 := f3.owns (HF2.out.owns HO.out (fun _ _ h => h)) (fun _ _ h => h)
        have HF3 := hid' f3
        clear hK K hnew hw2 f3
        refine plan_do rfl fun K hK => ?_
        obtain ⟨v', w3, hrun, hown3, hgrow, _, hat⟩ := run_append_own_at (P := Try.prog) w2 B 35 35 25 i0 .nilFunc 1 8 (by kernel_rfl) hi hz0 hz1 hz2 rfl (by decide) _ k _ hown2 ⟨w1.heap.size, 0, none⟩ 1 1 [.func (.func 21) #[] #[.pointer (some ⟨a1, 0, none⟩), .pointer (some ⟨t1, 0, none⟩), .pointer (some ⟨l1, 0, none⟩)]] rfl HN2.out (by simp [Value.oneCell']) (by unfold maxLen; omega) (by omega) (by omega)
        refine wp_append_run _ _ _ rfl _ _ _ _ _ rfl rfl hrun ?_
        simp only [Act.put, List.setIfInBounds_toArray, List.set_cons_zero, List.set_cons_succ]
        have f4 : Fr (fun q => u4.ownBlock = some q) w2 w3 := Fr.grown hgrow (fun q hq => hq)
        have hgb : ∀ q, u4.ownBlock = some q → B ≤ q ∧ q < wr.heap.size := fun q hq => HO.out.lt q hq
        have cb : (a.add k).block < bk := by have := World.block_lt_of_cell? _ _ cx; omega
        have c3 : w3.cell? (a.add k) = some (.slice (A k) (L k) (C k)) := (World.cell?_of_block (w := w2) (f4.block _ (World.block_lt_of_cell? _ _ c2) (fun h => by have := hgb _ h; omega))).trans c2
        refine hK _ _ c3 ?_
        have HF4 := hid' f4
        have HO3 := hid' hown3
        have HGB := hid' hgb
        have HAT := hid' hat
        clear hK K f4 hown3 hgb hat hrun hgrow hown2 c1 c2
        (refine plan_take (v := ?_) rfl ?_ ?_; rotate_left; (focus (intro _ hS; go_simp; first | done | with_reducible rfl)); simp only [Act.put, List.setIfInBounds_toArray, List.set_cons_zero, List.set_cons_succ])
        refine plan_nil ?_
        go_wp2_with fail
        have fall : Fr (fun q => u4.ownBlock = some q) wr w3 := ((HF2.out.trans HF3.out).mono fun _ _ h => h.elim).trans HF4.out
        have hlow : ∀ q, u4.ownBlock = some q → ¬ Dep (D.add k a1 t1 l1 (.slice (A k) (L k) (C k)) (ls k) db ad cp) (k + 1) q := fun q hq hdp => by
          have h1 := HGB.out q hq
          rcases HQ.out q hdp with h | h | h
          · exact HN.out q hq h
          · omega
          · omega
        refine ⟨⟨k + 1, _, tot + (L k : Int), by omega, by go_num, rfl, by omega, by omega, (HH1.out.keep HF3.out (fun _ h => h.elim)).keep HF4.out hlow, hD1, hD2, hD3, fun j hj => ?_, ?_, fun q hq => ?_, fall.row HR.out (fun h => by have := HGB.out _ h; omega), HF.out.fresh fall (fun j hj h => by have := HGB.out _ h; omega), fun j hj => ?_, fun q hq => ?_⟩, by simp [intOf]; omega⟩
        · by_cases e : j = k
          · subst e; simp [Src.add]
          · simp only [Src.add, if_neg e]; exact HL.out j (by omega)
        · rw [srcV_add]; exact HO3.out
        · rcases HAT.out with h | h
          · exact hlow q (by rw [← h]; exact hq)
          · rw [h] at hq
            cases hq
            exact fun hdp => by have := HH1.out.lt _ hdp; omega
        · by_cases e : j = k
          · subst e; simp only [Src.add, if_pos]; exact hTT
          · simp only [Src.add, if_neg e]; exact HT.out j (by omega)
        · rcases HQ.out q hq with h | h | h
          · exact HDK.out q h
          · omega
          · omega
      · obtain rfl : k = n := by omega
        go_wp2_with fail
        refine (run_new_own D k wr B u4 HO.out (by omega) HH.out).mono ?_
        rintro e w1 ⟨b, bs, cs, bh, bl, rfl, R1, f1, q1, q2, q3, q4⟩
        have f0 : Fr (fun _ => False) wc wr := HFA.out.trans HF.out
        have hown : ∀ q, Own D k q → bk ≤ q ∧ q ≠ bk + 1 := by
          rintro q (rfl | ⟨j, hj, rfl⟩)
          · omega
          · have := HT.out j hj; omega
        have hT2 := hid' (f0.fresh f1 (fun j hj h => by have := hown j h; omega))
        have hR2 := hid' (f1.row HR.out (fun h => (hown _ h).2 rfl))
        have hap : ∀ q, Own D k q ∨ q = bh ∨ q = bl → bk ≤ q ∧ q ≠ bk + 1 := by
          rintro q (h | rfl | rfl)
          · exact hown q h
          · omega
          · omega
        have HA := hid' hap
        have HR1 := hid' R1
        have HS1 := hid' (show bk + 1 ≠ b ∧ bk + 1 ≠ bs ∧ bk + 1 ≠ bh ∧ bk + 1 ≠ bl ∧ ¬ Dep D k (bk + 1) from ⟨by omega, by omega, by omega, by omega, fun h => HDK.out _ h rfl⟩)
        clear f0 f1 R1 hown hap HR HF HT HH HO HN q1 q2 q3 q4 H0 RB HFA h0'
        go_wp2_with fail
        have h00 : ∀ j, j < k → (0 : Nat) ≤ L j := fun j hj => by omega
        go_loopw [10] (fun i wr => ∃ (kk : Nat) (at_ : Nat → Nat), i = .int .i64 kk ∧ kk ≤ 121 ∧ Run D k b bs cs bh bl at_ wr ∧ wr.rowIs (bk + 1) 3 k (fun j => .int .i64 (at_ j : Nat)) ∧ Fr (fun _ => False) wc wr ∧ ∀ j, j < k → at_ j ≤ L j) (fun i _ => 121 - (intOf i).toNat)
        case atStart => exact ⟨0, fun _ => 0, rfl, by omega, HR1.out, hR2.out, hT2.out, fun j _ => Nat.zero_le _⟩
        case round =>
          clear HR1 hR2 hT2 h00
          obtain ⟨kk, at_, rfl, hkk, hR, hrow, hF, hat⟩ := hrel
          have HR := hid' hR
          have HW := hid' hrow
          have HF := hid' hF
          have HT := hid' hat
          clear hR hrow hF hat
          go_upto_region 16 with (fail)
          go_cut [60] (fun v wx => ∃ c, v = .bool c ∧ (c = true → kk < 121) ∧ wx = wr)
          case first =>
            by_cases ht : 120 < tot
            · go_wp2_with fail
              go_meet
              case rel => exact ⟨_, rfl, fun h => by simp at h; omega, rfl⟩
            · go_wp2_with fail
              go_meet
              case rel => exact ⟨_, rfl, fun h => by simp at h; omega, rfl⟩
          case rest =>
            obtain ⟨c, rfl, hc121, rfl⟩ := hcut
            cases c with
            | false =>
              go_wp2_with fail
              refine (loserRuns_any _).mono ?_
              rintro e w9 ⟨rfl, f9⟩
              have HF9 := hid' (HF.out.trans f9)
              clear f9
              go_wp2_with fail
              go_ret
              exact ⟨rfl, HF9.out⟩
            | true =>
              have hk121 := hc121 rfl
              clear hc121
              obtain ⟨h, hh⟩ : ∃ h, peek D k at_ = h := ⟨_, rfl⟩
              have hpk : ∀ j, j < k → h j = if hj : at_ j < (ls j).length then ((ls j)[at_ j], true) else (0, false) := fun j hj => by
                rw [← hh]
                unfold peek gives
                rw [if_pos hj]
                simp only [HL.out j hj]
              have HPK := hid' hpk
              have HH := hid' hh
              have hcnt := HR.out.count
              rw [hD1, hD2, hD3] at hcnt
              have hask : ∀ j, j < k → wc.cell? ⟨bk, j, none⟩ = some (.int .i64 ((at_ j : Int) + 1)) := fun j hj => by
                rw [hcnt.cell (i := j) hj, counted_own, if_pos hj]
                have h1 := HT.out j hj
                have h2 := HX.out.small j (by omega)
                have e : IntKind.i64.wrap (((at_ j + 1 : Nat)) : Int) = (at_ j : Int) + 1 := by rw [IntWalk.i64_in _ (by omega)]; omega
                rw [e]
              have HASK := hid' hask
              clear hcnt hask hpk hh
              go_wp2_with fail
              go_loopw [11, 12, 65] (fun best live i wr => ∃ j : Nat, j ≤ k ∧ i = .int .i64 j ∧ live = .int .i64 (liveN h j : Nat) ∧ best = .int .i64 (lead (leastN h j)) ∧ Fr (fun _ => False) wc wr) (fun _ _ i _ => k - (intOf i).toNat)
              case atStart => exact ⟨0, Nat.zero_le _, rfl, rfl, rfl, Fr.refl _ _⟩
              case round =>
                obtain ⟨j, hj, rfl, rfl, rfl, hF2⟩ := hrel
                have HF2 := hid' hF2
                clear hF2
                by_cases hlt : j < k
                · obtain rfl : Ao = some a := hAo.elim (fun h => by omega) id
                  have cx := HX.out.head j (by omega)
                  have lx := HX.out.small j (by omega)
                  have fx := (HF.out.trans HF2.out)
                  have cw : wr.cell? (a.add j) = some (.slice (A j) (L j) (C j)) := (World.cell?_of_block (w := _) (fx.block _ (World.block_lt_of_cell? _ _ cx) id)).trans cx
                  have ca := (HF2.out.row HW.out id).cell (i := j) hlt
                  have ck := HASK.out j hlt
                  have ck' : wr.cell? ⟨bk, j, none⟩ = some (.int .i64 ((at_ j : Int) + 1)) := (World.cell?_of_block (w := wc) (HF2.out.block _ (World.block_lt_of_cell? _ _ ck) id)).trans ck
                  have hatj := HT.out j hlt
                  have hlj := HX.out.len j (by omega)
                  have hln := liveN_le h j
                  have ls1 : liveN h (j + 1) = liveN h j + if (h j).2 then 1 else 0 := rfl
                  have le1 : leastN h (j + 1) = if (h j).2 then (match leastN h j with | none => some j | some b => if (h j).1 < (h b).1 then some j else some b) else leastN h j := rfl
                  have hpj := HPK.out j hlt
                  by_cases hal : at_ j < L j
                  · rw [dif_pos (by omega)] at hpj
                    obtain ⟨x, hx⟩ : ∃ x, (ls j)[at_ j]'(by omega) = x := ⟨_, rfl⟩
                    rw [hx] at hpj
                    rw [hpj] at ls1 le1
                    have aj : ∃ a', A j = some a' := by
                      cases hA : A j with
                      | none => have := HX.out.nil j (by omega) hA; omega
                      | some a' => exact ⟨a', rfl⟩
                    obtain ⟨a', hA⟩ := aj
                    have cy := HX.out.cell j (by omega) a' hA (at_ j) x (by rw [← hx]; simp)
                    have cz : wr.cell? (a'.add (at_ j)) = some (.int .i64 x) := (World.cell?_of_block (w := _) (fx.block _ (World.block_lt_of_cell? _ _ cy) id)).trans cy
                    rw [hA] at cw
                    have LS := hid' ls1
                    have LE := hid' le1
                    have fx2 := hid' fx
                    clear ls1 le1 hx hpj cy ck cx fx
                    cases hl : leastN h j with
                    | none =>
                      rw [hl] at LE
                      rw [show lead none = (-1 : Int) from rfl]
                      clear hl hA fx2
                      go_wp2_with fail
                      go_quiet (fail)
                      go_wp2_with fail
                      go_quiet (fail)
                      go_wp2_with fail
                      go_quiet (fail)
                      go_wp2_with fail
                      exact ⟨⟨j + 1, by omega, by go_num, congrArg _ (by rw [LS.out]; simp), congrArg _ (by rw [LE.out]; rfl), HF2.out.drewN _⟩, by simp [intOf]; omega⟩
                    | some b0 =>
                      rw [hl] at LE
                      rw [show lead (some b0) = ((b0 : Nat) : Int) from rfl]
                      obtain ⟨z1, z2, _⟩ := least_some h j b0 hl
                      have hpb := HPK.out b0 (by omega)
                      have hatb := HT.out b0 (by omega)
                      have hlb := HX.out.len b0 (by omega)
                      have hbl : at_ b0 < (ls b0).length := by
                        by_cases e : at_ b0 < (ls b0).length
                        · exact e
                        · rw [dif_neg e] at hpb; rw [hpb] at z2; cases z2
                      rw [dif_pos hbl] at hpb
                      obtain ⟨y, hy⟩ : ∃ y, (ls b0)[at_ b0]'hbl = y := ⟨_, rfl⟩
                      rw [hy] at hpb
                      have bj : ∃ b', A b0 = some b' := by
                        cases hB : A b0 with
                        | none => have := HX.out.nil b0 (by omega) hB; omega
                        | some b' => exact ⟨b', rfl⟩
                      obtain ⟨b', hB'⟩ := bj
                      have dy := HX.out.cell b0 (by omega) b' hB' (at_ b0) y (by rw [← hy]; simp)
                      have dz : wr.cell? (b'.add (at_ b0)) = some (.int .i64 y) := (World.cell?_of_block (w := _) (fx2.out.block _ (World.block_lt_of_cell? _ _ dy) id)).trans dy
                      have dx := HX.out.head b0 (by omega)
                      rw [hB'] at dx
                      have dw : wr.cell? (a.add b0) = some (.slice (some b') (L b0) (C b0)) := (World.cell?_of_block (w := _) (fx2.out.block _ (World.block_lt_of_cell? _ _ dx) id)).trans dx
                      have da := (HF2.out.row HW.out id).cell (i := b0) (by omega)
                      rw [hlb] at hbl
                      have zk : b0 < k := by omega
                      have LE2 := hid' (show leastN h (j + 1) = if x < y then some j else some b0 by
                        rw [LE.out]
                        show (if (x, true).1 < (h b0).1 then some j else some b0) = _
                        rw [hpb])
                      clear LE
                      clear hl hA hB' hy hpb z2 dy dx hlb fx2
                      by_cases hxy : x < y
                      · go_wp2_with fail
                        go_quiet (fail)
                        go_wp2_with fail
                        go_quiet (fail)
                        go_wp2_with fail
                        go_quiet (fail)
                        go_wp2_with fail
                        exact ⟨⟨j + 1, by omega, by go_num, congrArg _ (by rw [LS.out]; simp), congrArg _ (by rw [LE2.out, if_pos hxy]; rfl), HF2.out.drewN _⟩, by simp [intOf]; omega⟩
                      · go_wp2_with fail
                        go_quiet (fail)
                        go_wp2_with fail
                        go_quiet (fail)
                        go_wp2_with fail
                        go_quiet (fail)
                        go_wp2_with fail
                        exact ⟨⟨j + 1, by omega, by go_num, congrArg _ (by rw [LS.out]; simp), congrArg _ (by rw [LE2.out, if_neg (by omega)]; rfl), HF2.out.drewN _⟩, by simp [intOf]; omega⟩
                  · rw [dif_neg (by omega)] at hpj
                    rw [hpj] at ls1 le1
                    have LS := hid' ls1
                    have LE := hid' le1
                    clear ls1 le1 hpj fx ck cx
                    go_wp2_with fail
                    go_quiet (fail)
                    go_wp2_with fail
                    go_quiet (fail)
                    go_wp2_with fail
                    exact ⟨⟨j + 1, by omega, by go_num, congrArg _ (by rw [LS.out]; simp), congrArg _ (by rw [LE.out]; rfl), HF2.out.drewN _⟩, by simp [intOf]; omega⟩
                · obtain rfl : j = k := by omega
                  have hn0 := HR.out.keep HF2.out (fun _ h => h.elim)
                  have live := run_live hn0
                  rw [HH.out] at live
                  have HLV := hid' live
                  have HR2 := hid' hn0
                  have HF3 := hid' (HF.out.trans HF2.out)
                  have HW2 := hid' (HF2.out.row HW.out id)
                  clear live hn0 HR HW HF HASK HF2
                  go_wp2_with fail
                  refine HLV.out.mono ?_
                  rintro e w5 ⟨rfl, f5⟩
                  have HR5 := hid' (HR2.out.keep f5 (fun _ h => h.elim))
                  have HF5 := hid' (HF3.out.trans f5)
                  have HW5 := hid' (f5.row HW2.out id)
                  clear HLV HR2 HF3 HW2 f5
                  cases hl : leastN h j with
                  | none =>
                    have hl0 := least_none h j hl
                    rw [show lead none = (-1 : Int) from rfl]
                    have HN := hid' (run_none HR5.out (by rw [HH.out]; exact hl0))
                    clear hl hl0
                    go_wp2_with fail
                    refine HN.out.mono ?_
                    rintro e w6 ⟨rfl, f6⟩
                    have HF6 := hid' (HF5.out.trans f6)
                    clear f6 HN
                    go_wp2_with fail
                    refine (loserRuns_any _).mono ?_
                    rintro e w9 ⟨rfl, f9⟩
                    have HF9 := hid' (HF6.out.trans f9)
                    clear f9
                    go_wp2_with fail
                    go_ret
                    exact ⟨rfl, HF9.out⟩
                  | some b0 =>
                    rw [show lead (some b0) = ((b0 : Nat) : Int) from rfl]
                    obtain ⟨y1, y2, y3, y4⟩ := least_win h j b0 hl
                    have hpb := HPK.out b0 y2
                    have hatb := HT.out b0 y2
                    have hlb := HX.out.len b0 (by omega)
                    have hbl : at_ b0 < (ls b0).length := by
                      by_cases e : at_ b0 < (ls b0).length
                      · exact e
                      · rw [dif_neg e] at hpb; rw [hpb] at y3; cases y3
                    rw [dif_pos hbl] at hpb
                    obtain ⟨y, hy⟩ : ∃ y, (ls b0)[at_ b0]'hbl = y := ⟨_, rfl⟩
                    rw [hy] at hpb
                    have bj : ∃ b', A b0 = some b' := by
                      cases hB : A b0 with
                      | none => have := HX.out.nil b0 (by omega) hB; omega
                      | some b' => exact ⟨b', rfl⟩
                    obtain ⟨b', hB'⟩ := bj
                    have HS := hid' (run_some HR5.out (by rw [HH.out]; exact y4) (f := b0) (by rw [HH.out]; exact y1) (x := y) (by rw [HH.out, hpb]))
                    have dy := HX.out.cell b0 (by omega) b' hB' (at_ b0) y (by rw [← hy]; simp)
                    have dx := HX.out.head b0 (by omega)
                    rw [hB'] at dx
                    rw [hlb] at hbl
                    clear hl y1 y3 y4 hpb hy hB' hlb
                    go_wp2_with fail
                    refine HS.out.mono ?_
                    rintro e w6 ⟨rfl, hR6, f6⟩
                    have F6 := HF5.out.fresh f6 (fun q hq h => by have := HA.out q h; omega)
                    have W6 := f6.row HW5.out (fun h => (HA.out _ h).2 rfl)
                    have da := W6.cell (i := b0) y2
                    have fz := W6.frozen b0
                    have dz : w6.cell? (b'.add (at_ b0)) = some (.int .i64 y) := (World.cell?_of_block (w := _) (F6.block _ (World.block_lt_of_cell? _ _ dy) id)).trans dy
                    have dw : w6.cell? (a.add b0) = some (.slice (some b') (L b0) (C b0)) := (World.cell?_of_block (w := _) (F6.block _ (World.block_lt_of_cell? _ _ dx) id)).trans dx
                    have HF6 := hid' F6
                    have HW6 := hid' W6
                    have HR6 := hid' hR6
                    have sb := HX.out.small b0 (by omega)
                    obtain rfl : Ao = some a := hAo.elim (fun h => by omega) id
                    clear F6 W6 hR6 f6 dy dx HS
                    go_wp2_with fail
                    go_quiet (fail)
                    go_wp2_with fail
                    have F7 : Fr (fun q => q = bk + 1) w6 ((w6.drewN nq).setCell ⟨bk + 1, b0, none⟩ (.int .i64 ((at_ b0 : Int) + 1))) := Fr.setCell (S := fun q => q = bk + 1) ((Fr.refl _ w6).drewN nq) (a := ⟨bk + 1, b0, none⟩) (fun _ => rfl) _
                    refine ⟨⟨kk + 1, more at_ b0, by go_num, by omega, HR6.out.keep F7 (fun q hq => ?_), ((show (w6.drewN nq).rowIs (bk + 1) 3 j _ from HW6.out).set b0 _).congr fun q hq => ?_, HF6.out.fresh F7 (fun q hq h => by have h : q = bk + 1 := h; omega), fun q hq => ?_⟩, by simp [intOf]; omega⟩
                    · have hq : q = bk + 1 := hq
                      subst hq
                      obtain ⟨s1, s2, s3, s4, s5⟩ := HS1.out
                      exact ⟨s5, s1, s2, s3, s4⟩
                    · show (if q = b0 then _ else _) = _
                      unfold more
                      by_cases e : q = b0
                      · subst e; rw [if_pos rfl, if_pos rfl]; exact congrArg _ (by omega)
                      · rw [if_neg e, if_neg e]
                    · unfold more
                      by_cases e : q = b0
                      · subst e; rw [if_pos rfl]; omega
                      · rw [if_neg e]; exact HT.out q hq

end Go.Proofs.Ytiakgffanplmdaa

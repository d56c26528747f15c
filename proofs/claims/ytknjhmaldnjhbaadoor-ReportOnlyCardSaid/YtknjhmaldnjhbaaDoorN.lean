/- Contracts of Split at a blank, Cut at a line's end, numbers; rows in memory. -/
import Derived.Test.YtknjhmaldnjhbaaDoorE
import Derived.Deep.AppendLies
namespace Go.Proofs.YtknjhmaldnjhbaaDoor
open Go.RowKit Go.Deep

/-- A slice that reads as numbers. -/
def IntsAt (w : World) (v : Value) (r : List Int) : Prop :=
  (v = .slice none 0 0 ∧ r = []) ∨ ∃ a cap, v = .slice (some a) r.length cap ∧ ∀ (k : Nat) x, r[k]? = some x → w.cell? (a.add k) = some (.int .i64 x)

/-- A slice that reads as rows. -/
def RowsAt (w : World) (v : Value) (x : List (List Int)) : Prop :=
  (v = .slice none 0 0 ∧ x = []) ∨ ∃ a cap, v = .slice (some a) x.length cap ∧ ∀ (k : Nat) r, x[k]? = some r → ∃ u, w.cell? (a.add k) = some u ∧ IntsAt w u r

theorem IntsAt.fr {w w' : World} {v : Value} {r : List Int} (h : IntsAt w v r) (f : Fr (fun _ => False) w w') : IntsAt w' v r :=
  h.imp id fun ⟨a, cap, e, hc⟩ => ⟨a, cap, e, fun k x hx => f.cell (hc k x hx) id⟩

theorem RowsAt.fr {w w' : World} {v : Value} {x : List (List Int)} (h : RowsAt w v x) (f : Fr (fun _ => False) w w') : RowsAt w' v x :=
  h.imp id fun ⟨a, cap, e, hc⟩ => ⟨a, cap, e, fun k r hr => by
    obtain ⟨u, h1, h2⟩ := hc k r hr
    exact ⟨u, f.cell h1 id, h2.fr f⟩⟩

/-- .. in a block of numbers, from its head. -/
def IntsT (w : World) (v : Value) (r : List Int) : Prop :=
  (v = .slice none 0 0 ∧ r = []) ∨ ∃ g cap c fr, v = .slice (some ⟨g, 0, none⟩) r.length cap ∧ w.heap[g]? = some (.cells c 3 fr) ∧ ∀ (k : Nat) x, r[k]? = some x → w.cell? ⟨g, k, none⟩ = some (.int .i64 x)

theorem IntsT.at {w : World} {v : Value} {r : List Int} (h : IntsT w v r) : IntsAt w v r :=
  h.imp id fun ⟨g, cap, c, fr, e, _, hc⟩ => ⟨⟨g, 0, none⟩, cap, e, fun k x hx => by rw [add_flat]; exact hc k x hx⟩

theorem IntsT.keep {w w' : World} {S : Nat → Prop} {v : Value} {r : List Int} (h : IntsT w v r) (f : Fr S w w') (hs : ∀ g c fr, w.heap[g]? = some (.cells c 3 fr) → ¬ S g) : IntsT w' v r :=
  h.imp id fun ⟨g, cap, c, fr, e, hb, hc⟩ => ⟨g, cap, c, fr, e, f.blk hb (hs g c fr hb), fun k x hx => f.cell (hc k x hx) (hs g c fr hb)⟩

/-- An own row of numbers. -/
theorem ints_own {w : World} {B : Nat} {v : Value} {r : List Int} {n : Nat} (h : w.ownsRow B 3 1 v n (r.map (Value.int .i64))) : IntsT w v r := by
  have hl : r.length = n := by have := h.1; simpa using this
  rcases h.2 with ⟨rfl, h0⟩ | ⟨g, cap, cur, rfl, h1, h2, h3, h4⟩
  · exact .inl ⟨rfl, List.eq_nil_of_length_eq_zero (by omega)⟩
  · refine .inr ⟨g, cap, cur, (0, 0), by rw [hl], h2, fun k x hk => ?_⟩
    have := h.cells (g := g) rfl k (.int .i64 x) (by simp [hk])
    rwa [add_flat] at this

/-- strings.Split at a blank. -/
theorem split_any (s : ByteArray) (hs : s.size < 4294967281) (w : World) (E : Env w) :
    Calls Tryd.prog 23 #[.string s, .string ⟨#[32]⟩] w fun e w' => ∃ g, e = .returned (.slice (some ⟨g, 0, none⟩) (pieces 32 s.data.toList).length (pieces 32 s.data.toList).length) ∧
      (∀ (k : Nat) p, (pieces 32 s.data.toList)[k]? = some p → w'.cell? ⟨g, k, none⟩ = some (.string ⟨p.toArray⟩)) ∧ Fr (fun _ => False) w w' := by
  obtain ⟨m, hm⟩ := E.mx
  refine (Tryd.strings_Split s ⟨#[32]⟩ m w hs hm (by decide)).mono ?_
  rintro e w' ⟨rfl, rfl⟩
  have h1 := Lib.splitB_data ⟨#[32]⟩ 0 (Lib.countB s ⟨#[32]⟩) s
  have hc : Lib.countB s ⟨#[32]⟩ = s.data.toList.count 32 := count_one 32 (s.data.toList.length + 1) s.data.toList (by omega)
  have h2 : (Lib.splitB ⟨#[32]⟩ 0 (Lib.countB s ⟨#[32]⟩) s).map (·.data.toList) = pieces 32 s.data.toList := by
    rw [h1]
    exact splitK_pieces 32 _ _ (by rw [hc]; exact Nat.le_refl _)
  have h3 := Lib.splitB_all ⟨#[32]⟩ (by decide) 0 _ s rfl
  have h4 : (pieces 32 s.data.toList).length = Lib.countB s ⟨#[32]⟩ + 1 := by rw [← h2, List.length_map, h3]
  refine ⟨w.heap.size, by rw [h4], fun k p hp => ?_, (Fr.refl _ _).alloc _⟩
  rw [← h2, List.getElem?_map] at hp
  cases hq : (Lib.splitB ⟨#[32]⟩ 0 (Lib.countB s ⟨#[32]⟩) s)[k]? with
  | none => rw [hq] at hp; cases hp
  | some q =>
    rw [hq] at hp
    have hp : q.data.toList = p := by simpa using hp
    rw [← bytes_of hp]
    have hb := blk_alloc_new w (.cells ((Lib.splitB ⟨#[32]⟩ 0 (Lib.countB s ⟨#[32]⟩) s).map Value.string).toArray 9)
    rw [Lib.cell_of_heap hb]
    simp [hq]

/-- strings.Cut at a line's end. -/
theorem cut_any (s : ByteArray) (hs : s.size < 4294967281) (w : World) (E : Env w) :
    Calls Tryd.prog 14 #[.string s, .string ⟨#[10]⟩] w fun e w' => e = .returned (.tuple #[.string ⟨(Lib.cut s.data.toList [10]).1.toArray⟩, .string ⟨(Lib.cut s.data.toList [10]).2.1.toArray⟩, .bool (Lib.cut s.data.toList [10]).2.2]) ∧ Fr (fun _ => False) w w' := by
  obtain ⟨m, hm⟩ := E.mx
  refine (Tryd.strings_Cut s ⟨#[10]⟩ m w hs hm).mono ?_
  rintro e w' ⟨rfl, n, rfl⟩
  exact ⟨rfl, (Fr.refl _ _).drewN n⟩

theorem canons_append : ∀ {a b : List (List UInt8)} {x y : List Int}, canons a = some x → canons b = some y → canons (a ++ b) = some (x ++ y)
  | [], b, x, y, h, k => by
    rw [canons] at h
    cases h
    exact k
  | p :: a, b, x, y, h, k => by
    rw [canons] at h
    cases hc : canon p with
    | none => rw [hc] at h; cases h
    | some n =>
      rw [hc, Option.bind_some] at h
      cases hd : canons a with
      | none => rw [hd] at h; cases h
      | some z =>
        rw [hd] at h
        cases h
        rw [List.cons_append, canons, hc, Option.bind_some, canons_append hd k]
        rfl

theorem canons_step {ps : List (List UInt8)} {k : Nat} {d : List Int} {p : List UInt8} {n : Int} (h : canons (ps.take k) = some d) (hp : ps[k]? = some p) (hn : canon p = some n) : canons (ps.take (k + 1)) = some (d ++ [n]) := by
  rw [List.take_add_one, hp]
  refine canons_append h ?_
  show canons [p] = some [n]
  rw [canons, hn]
  rfl

theorem canons_fail : ∀ {ps : List (List UInt8)} {k : Nat} {p : List UInt8}, ps[k]? = some p → canon p = none → canons ps = none
  | [], k, p, h, _ => by simp at h
  | q :: ps, 0, p, h, hn => by
    have h : q = p := by simpa using h
    rw [canons, h, hn]
    rfl
  | q :: ps, k + 1, p, h, hn => by
    rw [canons, canons_fail (by simpa using h) hn]
    cases canon q <;> rfl

theorem pieces_length (c : UInt8) : ∀ l, (pieces c l).length ≤ l.length + 1
  | [] => by simp [pieces]
  | b :: l => by
    have := pieces_length c l
    rw [pieces]
    split
    · simp; omega
    · split
      · simp
      · rename_i h
        rw [h] at this
        simp at this ⊢
        omega

theorem pieces_small (c : UInt8) : ∀ l p, p ∈ pieces c l → p.length ≤ l.length
  | [], p, h => by
    have h : p = [] := by simpa [pieces] using h
    subst h; simp
  | b :: l, p, h => by
    rw [pieces] at h
    split at h
    · rcases List.mem_cons.1 h with rfl | h
      · simp
      · have := pieces_small c l p h; simp; omega
    · split at h
      · have h : p = [b] := by simpa using h
        subst h; simp
      · rename_i q qs hq
        rcases List.mem_cons.1 h with rfl | h
        · have := pieces_small c l q (by rw [hq]; simp); simp; omega
        · have := pieces_small c l p (by rw [hq]; simp [h]); simp; omega

/-- What numbers hands back. -/
def NumsPost (l : List UInt8) (w : World) (e : Ending) (w' : World) : Prop :=
  Fr (fun _ => False) w w' ∧ match nums l with
    | some r => ∃ v, e = .returned (.tuple #[v, .bool true]) ∧ IntsT w' v r
    | none => e = .returned (.tuple #[.slice none 0 0, .bool false])

theorem info3 : (Tryd.prog.info? 3).map (fun i => (i.zero, i.size, i.bytes)) = some (some (.int .i64 0), 1, 8) := by kernel_rfl

set_option maxRecDepth 100000 in
set_option maxHeartbeats 4000000 in
theorem numbers_any (s : ByteArray) (hs : s.size ≤ 1000000) (w : World) (E : Env w) : Calls Tryd.prog 15 #[.string s] w (NumsPost s.data.toList w) := by
  have hsz : s.data.toList.length = s.size := rfl
  by_cases h0 : s.data.toList = []
  · obtain rfl : s = ByteArray.empty := bytes_ext (by rw [h0]; rfl)
    have HP := hid' (show ∀ e w', e = .returned (.tuple #[.slice none 0 0, .bool true]) → w' = w → NumsPost ByteArray.empty.data.toList w e w' from fun e w' h1 h2 => by
      subst h2
      exact ⟨Fr.refl _ _, by rw [show nums ByteArray.empty.data.toList = some [] from rfl]; exact ⟨_, h1, .inl ⟨rfl, rfl⟩⟩⟩)
    clear hs hsz h0
    go_enter Tryd.func15, Tryd.ntmps15
    go_wp2_with fail
    go_ret2
    exact HP.out _ _ rfl rfl
  · obtain ⟨ps, hps⟩ : ∃ ps, pieces 32 s.data.toList = ps := ⟨_, rfl⟩
    have hpl := pieces_length 32 s.data.toList
    have hpm := pieces_small 32 s.data.toList
    have hspl := fun w E => split_any s (by omega) w E
    rw [hps] at hpl hpm hspl
    obtain ⟨m, hm⟩ : ∃ m, ps.length = m := ⟨_, rfl⟩
    rw [hm] at hpl
    rw [hsz] at hpl
    have hmb : m ≤ 1000001 := by omega
    have hnums : nums s.data.toList = canons ps := by unfold nums; rw [if_neg h0, hps]
    have HS := hid' hspl
    have HE := hid' E
    have HN := hid' hnums
    have HM := hid' hm
    have HPM := hid' hpm
    have hem : s.toList.isEmpty = false := by
      rw [Lib.toList_data]
      cases h : s.data.toList with
      | nil => exact absurd h h0
      | cons _ _ => rfl
    obtain ⟨l, hl⟩ : ∃ l, s.data.toList = l := ⟨_, rfl⟩
    rw [hl] at HN hsz HPM ⊢
    have HLS := hid' (show l.length ≤ 1000000 by omega)
    clear hspl E hnums hm hpm hps hpl hsz h0 hl
    obtain ⟨i0, hi, hz0, hz1, hz2⟩ := info_parts info3
    go_enter Tryd.func15, Tryd.ntmps15
    go_wp2_with fail
    refine (HS.out _ HE.out).mono ?_
    rintro e w1 ⟨g, rfl, hc, f1⟩
    rw [HM.out]
    have HC := hid' hc
    have HF1 := hid' f1
    have HE1 := hid' (HE.out.fr f1)
    clear hc f1 HS
    go_wp2_with fail
    obtain ⟨B, hB⟩ : ∃ B, w1.heap.size = B := ⟨_, rfl⟩
    have HBB := hid' hB
    have hB1 : B ≤ w1.heap.size := by omega
    have h0' : w1.ownsRow B 3 1 (.slice none 0 0) 0 ([].map (Value.int .i64)) := World.ownsRow_nil w1 B 3 1
    clear hB
    go_loopw [4, 14] (fun v i wr => ∃ (k : Nat) (d : List Int), k ≤ m ∧ i = .int .i64 k ∧ canons (ps.take k) = some d ∧ wr.ownsRow B 3 1 v k (d.map (Value.int .i64)) ∧ Fr (fun _ => False) w1 wr) (fun _ i _ => m - (intOf i).toNat)
    case atStart => exact ⟨0, [], Nat.zero_le _, rfl, rfl, h0', Fr.refl _ _⟩
    case round =>
      obtain ⟨k, d, hk, rfl, hd, hown, hF⟩ := hrel
      have HD := hid' hd
      have HO := hid' hown
      have HF := hid' hF
      have hsb := hF.size
      clear hd hF h0'
      by_cases hlt : k < m
      · obtain ⟨p, hp⟩ : ∃ p, ps[k]? = some p := ⟨_, List.getElem?_eq_getElem (by rw [HM.out]; exact hlt)⟩
        have cp := HF.out.cell (HC.out k p hp) id
        have hpm := HPM.out p (List.mem_of_getElem? hp)
        obtain ⟨q, hq⟩ : ∃ q : ByteArray, (⟨p.toArray⟩ : ByteArray) = q := ⟨_, rfl⟩
        rw [hq] at cp
        have hqs : q.size ≤ 1000000 := by
          rw [← hq]
          show p.toArray.size ≤ 1000000
          rw [List.size_toArray]
          have := HLS.out
          omega
        have hql : q.data.toList = p := by rw [← hq]
        have HQL := hid' hql
        have HP := hid' hp
        clear hp hpm hq hql
        cases ha : Lib.atoiAll q.data.toList with
        | ok n =>
          have HI := hid' (fun w E => itoa_any n (atoi_bounds _ _ ha) w E)
          have HA := hid' (atoi_ok q (by omega) n ha)
          have HAT := hid' ha
          clear ha
          go_wp2_with fail
          refine (HA.out _).mono ?_
          rintro e w2 ⟨rfl, f2⟩
          have HF2' := hid' f2
          have HE2 := hid' (HE1.out.fr (HF.out.trans f2))
          clear f2
          go_wp2_with fail
          refine (HI.out _ HE2.out).mono ?_
          rintro e w3 ⟨rfl, f3⟩
          have HF3 := hid' (HF2'.out.trans f3)
          clear f3
          obtain ⟨q2, hq2⟩ : ∃ q2 : ByteArray, (⟨(Lib.itoa n).toArray⟩ : ByteArray) = q2 := ⟨_, rfl⟩
          rw [hq2]
          have hq2l : q2.data.toList = Lib.itoa n := by rw [← hq2]
          have HQ2 := hid' hq2l
          clear hq2 hq2l
          by_cases he : Lib.itoa n = p
          · have hcmp : (q2.toList == q.toList) = true := by rw [Lib.toList_data, Lib.toList_data, HQ2.out, HQL.out, he]; simp
            have HC2 := hid' (canons_step HD.out HP.out (show canon p = some n by
              have h1 := HAT.out
              rw [HQL.out] at h1
              unfold canon
              rw [h1]
              exact if_pos he))
            have hown := HF3.out.owns HO.out (fun _ _ h => h)
            have hs3 := HF3.out.size
            clear he
            go_wp2_with (at_builtin; refine wpList_append_own _ rfl _ _ 26 rfl B 3 i0 (.int .i64 0) 1 8 (by kernel_rfl) hi hz0 hz1 hz2 rfl (by decide) _ _ _ rfl (hown.alloc _) ⟨w3.heap.size, 0, none⟩ 1 1 [.int .i64 n] rfl rfl (cell_one_new _ _ _) (by simp [Value.oneCell']) (by unfold maxLen; omega) (by omega) (by simp; omega) ?_; intro v' w8 hown' hgrow _)
            have f8 : Fr (fun q => B ≤ q) w3 w8 := ((Fr.refl _ w3).alloc _).trans (Fr.grown hgrow fun q hq => (hown.lt q hq).1)
            go_roundw
            case rel =>
              have hB := HBB.out
              exact ⟨k + 1, d ++ [n], by omega, by go_num, HC2.out, by rw [List.map_append]; exact hown', (HF.out.trans HF3.out).fresh f8 (fun j hj h => by have h : B ≤ j := h; omega)⟩
            case measure => simp [intOf]; omega
          · have hcmp : (q2.toList == q.toList) = false := by rw [Lib.toList_data, Lib.toList_data, HQ2.out, HQL.out]; simpa using he
            have HC2 := hid' (canons_fail HP.out (show canon p = none by
              have h1 := HAT.out
              rw [HQL.out] at h1
              unfold canon
              rw [h1]
              exact if_neg he))
            clear he
            go_wp2_with fail
            go_ret2
            exact ⟨HF1.out.trans (HF.out.trans HF3.out), by rw [HN.out, HC2.out]; exact rfl⟩
        | range =>
          have HA := hid' (fun w E => atoi_not q (by omega) (by rw [ha]; intro v h; cases h) w E)
          have HC2 := hid' (canons_fail HP.out (show canon p = none by
            rw [HQL.out] at ha
            unfold canon
            rw [ha]))
          clear ha
          go_wp2_with fail
          refine (HA.out _ (HE1.out.fr HF.out)).mono ?_
          rintro e w2 ⟨n, qq, rfl, f2⟩
          have HF2 := hid' (HF.out.trans f2)
          clear f2
          go_wp2_with fail
          go_ret2
          exact ⟨HF1.out.trans HF2.out, by rw [HN.out, HC2.out]; exact rfl⟩
        | _ =>
          have HA := hid' (fun w E => atoi_not q (by omega) (by rw [ha]; intro v h; cases h) w E)
          have HC2 := hid' (canons_fail HP.out (show canon p = none by
            rw [HQL.out] at ha
            unfold canon
            rw [ha]))
          clear ha
          go_wp2_with fail
          refine (HA.out _ (HE1.out.fr HF.out)).mono ?_
          rintro e w2 ⟨n, qq, rfl, f2⟩
          have HF2 := hid' (HF.out.trans f2)
          clear f2
          go_wp2_with fail
          go_ret2
          exact ⟨HF1.out.trans HF2.out, by rw [HN.out, HC2.out]; exact rfl⟩
      · obtain rfl : k = m := by omega
        have hdd := HD.out
        rw [List.take_of_length_le (by rw [HM.out]; exact Nat.le_refl _)] at hdd
        have HDD := hid' hdd
        clear hdd
        go_wp2_with fail
        go_ret2
        exact ⟨HF1.out.trans HF.out, by rw [HN.out, HDD.out]; exact ⟨_, rfl, ints_own HO.out⟩⟩

end Go.Proofs.YtknjhmaldnjhbaaDoor

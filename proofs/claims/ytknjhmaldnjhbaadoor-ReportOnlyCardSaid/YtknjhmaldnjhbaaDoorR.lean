/- The contract of Read. -/
import Derived.Test.YtknjhmaldnjhbaaDoorN
namespace Go.Proofs.YtknjhmaldnjhbaaDoor
open Go.RowKit Go.Deep

/-- An own slice of rows. -/
def Outs (w : World) (B : Nat) (v : Value) (x : List (List Int)) : Prop :=
  ∃ vals : List Value, w.ownsRow B 26 1 v x.length vals ∧ ∀ (k : Nat) r, x[k]? = some r → ∃ u, vals[k]? = some u ∧ IntsT w u r

theorem Outs.keep {w w' : World} {S : Nat → Prop} {B : Nat} {v : Value} {x : List (List Int)} (h : Outs w B v x) (f : Fr S w w') (hs : ∀ j, ¬ S j) : Outs w' B v x := by
  obtain ⟨vals, h1, h2⟩ := h
  exact ⟨vals, f.owns h1 (fun j _ => hs j), fun k r hr => (h2 k r hr).imp fun u ⟨h3, h4⟩ => ⟨h3, h4.keep f (fun g _ _ _ => hs g)⟩⟩

theorem IntsT.form {w : World} {v : Value} {r : List Int} (h : IntsT w v r) : ∃ A n c, v = .slice A n c := by
  rcases h with ⟨rfl, _⟩ | ⟨g, cap, c, fr, rfl, _⟩
  · exact ⟨_, _, _, rfl⟩
  · exact ⟨_, _, _, rfl⟩

theorem Outs.rows {w : World} {B : Nat} {v : Value} {x : List (List Int)} (h : Outs w B v x) : RowsAt w v x := by
  obtain ⟨vals, h1, h2⟩ := h
  rcases h1.2 with ⟨rfl, h0⟩ | ⟨g, cap, cur, rfl, h3, h4, h5⟩
  · exact .inl ⟨rfl, List.eq_nil_of_length_eq_zero h0⟩
  · refine .inr ⟨⟨g, 0, none⟩, cap, rfl, fun k r hr => ?_⟩
    obtain ⟨u, hu, hi⟩ := h2 k r hr
    exact ⟨u, h1.cells (g := g) rfl k u hu, hi.at⟩

/-- One row more. -/
theorem Outs.snoc {w w' : World} {B : Nat} {v v' u : Value} {x : List (List Int)} {r : List Int} (_ : Outs w B v x) (hu : IntsT w u r) {vals : List Value}
    (hv : w.ownsRow B 26 1 v x.length vals) (h2 : ∀ (k : Nat) r, x[k]? = some r → ∃ u, vals[k]? = some u ∧ IntsT w u r) (hv' : w'.ownsRow B 26 1 v' (x.length + 1) (vals ++ [u])) {S : Nat → Prop} (f : Fr S w w') (hs : ∀ g c fr, w.heap[g]? = some (.cells c 3 fr) → ¬ S g) : Outs w' B v' (x ++ [r]) := by
  have hl : vals.length = x.length := by have := hv.1; simpa using this
  refine ⟨vals ++ [u], by simpa using hv', fun k s hk => ?_⟩
  rw [List.getElem?_append] at hk
  split at hk
  · rename_i hlt
    obtain ⟨y, h3, h4⟩ := h2 k s hk
    exact ⟨y, by rw [List.getElem?_append, if_pos (by omega), h3], h4.keep f hs⟩
  · rename_i hge
    have := (List.getElem?_eq_some_iff.1 hk).1
    simp at this
    rw [show k - x.length = 0 by omega] at hk
    have hk : r = s := by simpa using hk
    subst hk
    exact ⟨u, by rw [List.getElem?_append, if_neg (by omega), show k - vals.length = 0 by omega]; rfl, hu.keep f hs⟩

/-- What Read hands back. -/
def ReadPost (l : List UInt8) (w : World) (e : Ending) (w' : World) : Prop :=
  Fr (fun _ => False) w w' ∧ match rows l with
    | some x => ∃ v, e = .returned (.tuple #[v, .bool true]) ∧ RowsAt w' v x
    | none => e = .returned (.tuple #[.slice none 0 0, .bool false])

theorem info26 : (Tryd.prog.info? 26).map (fun i => (i.zero, i.size, i.bytes)) = some (some (.slice none 0 0), 1, 24) := by kernel_rfl

def strLen : Value → Nat
  | .string s => s.size
  | _ => 0

theorem row_ne {w : World} {B : Nat} {v : Value} {n : Nat} {vals : List Value} (h : w.ownsRow B 26 1 v n vals) : ∀ g c fr, w.heap[g]? = some (.cells c 3 fr) → v.ownBlock ≠ some g := by
  intro g c fr hg e
  rcases h.2 with ⟨rfl, _⟩ | ⟨g', cap, cur, rfl, _, h2, _⟩
  · cases e
  · have e : g' = g := by simpa [Value.ownBlock] using e
    subst e
    rw [hg] at h2
    injection h2 with h2
    injection h2 with _ h2 _
    cases h2

set_option maxRecDepth 100000 in
set_option maxHeartbeats 4000000 in
theorem read_any (s : ByteArray) (hs : s.size ≤ 1000000) (w : World) (E : Env w) : Calls Tryd.prog 8 #[.string s] w (ReadPost s.data.toList w) := by
  obtain ⟨B, hB⟩ : ∃ B, w.heap.size = B := ⟨_, rfl⟩
  have h0 : Outs w B (.slice none 0 0) [] := ⟨[], World.ownsRow_nil w B 26 1, fun k r h => by simp at h⟩
  obtain ⟨l, hl⟩ : ∃ l, s.data.toList = l := ⟨_, rfl⟩
  have hl0 : rows l = (rows s.data.toList).map ([] ++ ·) := by rw [hl]; cases rows l <;> rfl
  rw [hl]
  have HL := hid' hl
  have HL0 := hid' hl0
  have HE := hid' E
  have H0 := hid' h0
  have hB1 : B ≤ w.heap.size := by omega
  have HB := hid' hB
  clear hl hl0 E h0 hB
  obtain ⟨i0, hi, hz0, hz1, hz2⟩ := info_parts info26
  go_enter Tryd.func8, Tryd.ntmps8
  go_wp2_with fail
  go_loopw [4, 5] (fun v q wr => ∃ (p : ByteArray) (x : List (List Int)), q = .string p ∧ x.length + p.size ≤ s.size ∧ rows l = (rows p.data.toList).map (x ++ ·) ∧ Outs wr B v x ∧ Fr (fun _ => False) w wr) (fun _ q _ => strLen q)
  case atStart => exact ⟨s, [], rfl, by simp, HL0.out, H0.out, Fr.refl _ _⟩
  case round =>
    obtain ⟨p, x, rfl, hsz, hrow, hO, hF⟩ := hrel
    have HR := hid' hrow
    have HO := hid' hO
    have HF := hid' hF
    have HER := hid' (HE.out.fr hF)
    have hwr := hF.size
    clear hrow hO hF
    by_cases hp0 : p.data.toList = []
    · obtain rfl : p = ByteArray.empty := bytes_ext (by rw [hp0]; rfl)
      clear hp0
      go_wp2_with fail
      go_ret2
      refine ⟨HF.out, ?_⟩
      have h1 := HR.out
      rw [show rows ByteArray.empty.data.toList = some [] from rfl] at h1
      simp only [Option.map_some, List.append_nil] at h1
      rw [h1]
      exact ⟨_, rfl, HO.out.rows⟩
    · have hem : p.toList.isEmpty = false := by
        rw [Lib.toList_data]
        cases h : p.data.toList with
        | nil => exact absurd h hp0
        | cons _ _ => rfl
      have HC := hid' (cut_any p (by omega) wr HER.out)
      have HP0 := hid' hp0
      clear hp0
      by_cases hc : (10 : UInt8) ∈ p.data.toList
      · obtain ⟨a, b, hab, ha⟩ := List.eq_append_cons_of_mem hc
        have hline := rows_line a b ha
        rw [← hab] at hline
        rw [hab, cut_hit 10 a b ha] at HC
        have hps : a.length + 1 + b.length = p.size := by
          have : p.data.toList.length = p.size := rfl
          rw [hab] at this
          simp at this
          omega
        obtain ⟨qa, hqa⟩ : ∃ qa : ByteArray, (⟨a.toArray⟩ : ByteArray) = qa := ⟨_, rfl⟩
        obtain ⟨qb, hqb⟩ : ∃ qb : ByteArray, (⟨b.toArray⟩ : ByteArray) = qb := ⟨_, rfl⟩
        simp only [hqa, hqb] at HC
        have hqas : qa.size = a.length := by rw [← hqa]; show a.toArray.size = _; simp
        have hqbs : qb.size = b.length := by rw [← hqb]; show b.toArray.size = _; simp
        have hqal : qa.data.toList = a := by rw [← hqa]
        have hqbl : qb.data.toList = b := by rw [← hqb]
        have HN := hid' (fun w E => numbers_any qa (by omega) w E)
        have HQS := hid' (show qb.size + 1 ≤ p.size by omega)
        have HLN := hid' hline
        have HQA := hid' hqal
        have HQB := hid' hqbl
        clear hc hab ha hline hps hqa hqb hqas hqbs hqal hqbl
        go_wp2_with fail
        refine HC.out.mono ?_
        rintro e w1 ⟨rfl, f1⟩
        have HF1 := hid' f1
        have HE1 := hid' (HER.out.fr f1)
        clear f1 HC
        go_wp2_with fail
        refine (HN.out _ HE1.out).mono ?_
        intro e w2 hpost
        obtain ⟨f2, hpost⟩ := hpost
        have HF2 := hid' (HF1.out.trans f2)
        rw [HQA.out] at hpost
        cases hna : nums a with
        | none =>
          rw [hna] at hpost
          obtain rfl := hpost
          have HNA := hid' hna
          clear hna f2
          go_wp2_with fail
          go_ret2
          refine ⟨HF.out.trans HF2.out, ?_⟩
          rw [HR.out, HLN.out, HNA.out]
          exact rfl
        | some r =>
          rw [hna] at hpost
          obtain ⟨u, rfl, hu⟩ := hpost
          obtain ⟨Au, nu, cu, rfl⟩ := hu.form
          have HNA := hid' hna
          have HU := hid' hu
          obtain ⟨vals, hv1, hv2⟩ := HO.out.keep HF2.out (fun _ h => h)
          have hvl := hv1
          have HV2 := hid' hv2
          have hs2 := HF2.out.size
          have hqs2 := HQS.out
          clear hna f2 hu hv2
          go_wp2_with (at_builtin; refine wpList_append_own _ rfl _ _ 22 rfl B 26 i0 (.slice none 0 0) 1 24 (by kernel_rfl) hi hz0 hz1 hz2 rfl (by decide) _ _ _ rfl (hvl.alloc _) ⟨w2.heap.size, 0, none⟩ 1 1 [.slice Au nu cu] rfl rfl (cell_one_new _ _ _) (by simp [Value.oneCell']) (by unfold maxLen; omega) (by omega) (by simp; omega) ?_; intro v' w8 hown' hgrow _)
          have f8 : Fr (fun q => u4.ownBlock = some q) w2 w8 := ((Fr.refl _ w2).alloc _).trans (Fr.grown hgrow fun q hq => hq)
          have hne := row_ne hvl
          go_roundw
          case rel =>
            refine ⟨qb, x ++ [r], rfl, by simp; omega, ?_, Outs.snoc (w := w2) ⟨vals, hvl, HV2.out⟩ HU.out hvl HV2.out hown' f8 (fun g c fr hg => hne g c fr hg), (HF.out.trans HF2.out).fresh f8 (fun j hj h => by have := (hvl.lt j h).1; have := HB.out; omega)⟩
            rw [HR.out, HLN.out, HNA.out, HQB.out]
            cases rows b with
            | none => rfl
            | some y => simp
          case measure => simp [strLen]; omega
      · have HCM := cut_miss 10 p.data.toList hc
        rw [HCM] at HC
        have HRM := hid' (rows_miss p.data.toList HP0.out hc)
        clear HCM hc
        go_wp2_with fail
        refine HC.out.mono ?_
        rintro e w1 ⟨rfl, f1⟩
        have HF1 := hid' f1
        clear f1 HC
        go_wp2_with fail
        go_ret2
        refine ⟨HF.out.trans HF1.out, ?_⟩
        rw [HR.out, HRM.out]
        exact rfl

end Go.Proofs.YtknjhmaldnjhbaaDoor

/- The contract of ReportJoins. -/
import Derived.Test.YtknjhmaldnjhbaaDoorQ
import Derived.Test.YtknjhmaldnjhbaaDoorS
import Derived.Test.YtknjhmaldnjhbaaDoorRuns
import Derived.Test.YtknjhmaldnjhbaaDoorA
import Derived.Laws.RangeString
import Derived.Laws.RangeAny
namespace Go.Proofs.YtknjhmaldnjhbaaDoor
open Go.RowKit Go.Deep

theorem wpList_append_run {P : Program} {w : World} {ops : Array Oper} {rest : List Oper} {o : Oper} {a : Act} {Q : Exit → Act → World → Prop} (hw : Region.wanted o (yielded ops a.tmps) = true) (s x : Operand) (t : TypeId)
    (ho : o.op = .call { callee := .builtin .append, args := #[s, x], argTypes := #[t, t] }) {vs vx : Value} (hs : a.eval s = vs) (hx : a.eval x = vx) {v' : Value} {w' : World}
    (hr : (Builtin.append_ #[t, t] o.type #[vs, vx]).run P w = .ok v' w') (h : wpList P ops Q rest (a.put o.dst v') w') : wpList P ops Q (o :: rest) a w :=
  wpList_step fun K hK => by rw [if_pos hw]; exact wp_append_run s x t ho hs hx hr (hK _ _ h)

/-- What append makes of an own slice of rows and rows. -/
theorem append_rows {w0 w : World} {B n : Nat} (hB : w0.heap.size = B) (f : Fr (fun _ => False) w0 w) {v : Value} {vals : List Value} (hown : w.ownsRow B 26 1 v n vals) (hv : v ≠ .slice none 0 0) {u : Value} {y : List (List Int)} (hu : RowsAt w0 u y) (hn : n ≤ 1000) (hy : y.length ≤ 1000) :
    ∃ A c w' news, (Builtin.append_ #[22, 22] 22 #[v, u]).run Tryd.prog w = .ok (.slice (some A) (n + y.length) c) w' ∧ w'.ownsRow B 26 1 (.slice (some A) (n + y.length) c) (n + y.length) (vals ++ news) ∧
      (∀ (k : Nat) r, y[k]? = some r → ∃ p, news[k]? = some p ∧ IntsAt w0 p r) ∧ news.length = y.length ∧ Fr (fun _ => False) w0 w' := by
  obtain ⟨i0, hi, hz0, hz1, hz2⟩ := info_parts info26
  have form : ∀ {w' : World} {v' : Value} {m : Nat} {xs : List Value}, w'.ownsRow B 26 1 v' m xs → v' ≠ .slice none 0 0 → ∃ A c, v' = .slice (some A) m c := fun h hne => by
    rcases h.2 with ⟨rfl, _⟩ | ⟨g, cap, cur, rfl, _⟩
    · exact absurd rfl hne
    · exact ⟨_, _, rfl⟩
  rcases hu with ⟨rfl, rfl⟩ | ⟨a, cap, rfl, hc⟩
  · obtain ⟨A, c, rfl⟩ := form hown hv
    exact ⟨A, c, w, [], run_append_owned_none (P := Tryd.prog) (w := w) B 22 22 26 i0 1 (by kernel_rfl) hi _ n vals hown, by simpa using hown, fun k r h => by simp at h, rfl, f⟩
  · obtain ⟨news, hnl, hnv⟩ : ∃ news : List Value, news.length = y.length ∧ ∀ k, k < y.length → news[k]? = some ((w0.cell? (a.add k)).getD undef) :=
      ⟨(List.range y.length).map fun k => (w0.cell? (a.add k)).getD undef, by simp, fun k hk => by simp [hk]⟩
    have hat : ∀ (k : Nat) r, y[k]? = some r → ∃ p, news[k]? = some p ∧ w0.cell? (a.add k) = some p ∧ IntsAt w0 p r := fun k r hr => by
      obtain ⟨p, h1, h2⟩ := hc k r hr
      exact ⟨p, by rw [hnv k (List.getElem?_eq_some_iff.1 hr).1, h1]; rfl, h1, h2⟩
    have hat2 : ∀ (k : Nat) p, news[k]? = some p → w0.cell? (a.add k) = some p ∧ p.oneCell' = true := fun k p hp => by
      have hlt := (List.getElem?_eq_some_iff.1 hp).1
      obtain ⟨q, h1, h2, h3⟩ := hat k _ (List.getElem?_eq_getElem (by omega : k < y.length))
      rw [h1] at hp
      cases hp
      obtain ⟨A, c, rfl, _⟩ := h3.open
      exact ⟨h2, rfl⟩
    obtain ⟨v', w', hr, hown', hgrow, hiff, _⟩ := run_append_own_at (P := Tryd.prog) w B 22 22 26 i0 (.slice none 0 0) 1 24 (by kernel_rfl) hi hz0 hz1 hz2 rfl (by decide) v n vals hown a y.length cap news (by omega) (fun j p hp => f.cell (hat2 j p hp).1 id)
      (fun p hp => by obtain ⟨k, hk⟩ := List.getElem?_of_mem hp; exact (hat2 k p hk).2) (by unfold maxLen; omega) (by omega) (by have := f.size; omega)
    obtain ⟨A, c, rfl⟩ := form hown' (fun e => hv (hiff.1 e).1)
    refine ⟨A, c, w', news, hr, hown', fun k r hr => (hat k r hr).imp fun p h => ⟨h.1, h.2.2⟩, hnl, f.fresh (Fr.grown (S := fun q => v.ownBlock = some q) hgrow fun q hq => hq) (fun j hj h => by have := (hown.lt j h).1; omega)⟩

/-- An own slice of rows reads as rows. -/
theorem rows_own {w0 w : World} {B n : Nat} (f : Fr (fun _ => False) w0 w) {v : Value} {vals : List Value} {z : List (List Int)} (hown : w.ownsRow B 26 1 v n vals) (hn : z.length = n) (h : ∀ (k : Nat) r, z[k]? = some r → ∃ p, vals[k]? = some p ∧ IntsAt w0 p r) : RowsAt w v z := by
  rcases hown.2 with ⟨rfl, h0⟩ | ⟨g, cap, cur, rfl, _⟩
  · exact .inl ⟨rfl, List.eq_nil_of_length_eq_zero (by omega)⟩
  · refine .inr ⟨⟨g, 0, none⟩, cap, by rw [hn], fun k r hr => ?_⟩
    obtain ⟨p, h1, h2⟩ := h k r hr
    exact ⟨p, hown.cells (g := g) rfl k p h1, h2.fr f⟩

set_option maxRecDepth 100000 in
set_option maxHeartbeats 4000000 in
theorem joins_any (v1 v2 : Value) (X Y : List (List Int)) (w : World) (E : Env w) (h1 : InRows w v1 X) (h2 : InRows w v2 Y) (hX : ∀ r ∈ X, ∀ n ∈ r, I64 n) (hY : ∀ r ∈ Y, ∀ n ∈ r, I64 n) :
    Calls Tryd.prog 7 #[v1, v2] w fun e w' => e = .returned (.bool true) ∧ Fr (fun _ => False) w w' := by
  obtain ⟨x, hx⟩ : ∃ x, fewT X = x := ⟨_, rfl⟩
  obtain ⟨y, hy⟩ : ∃ y, fewT Y = y := ⟨_, rfl⟩
  obtain ⟨s, hs⟩ : ∃ s : ByteArray, (⟨(text x).toArray⟩ : ByteArray) = s := ⟨_, rfl⟩
  obtain ⟨t, ht⟩ : ∃ t : ByteArray, (⟨(text y).toArray⟩ : ByteArray) = t := ⟨_, rfl⟩
  have hsl : s.data.toList = text x := by rw [← hs]
  have htl : t.data.toList = text y := by rw [← ht]
  have hx1 := few_I64 hX
  have hy1 := few_I64 hY
  have hxt := few_text hX
  have hyt := few_text hY
  have hx8 := few_len X
  have hy8 := few_len Y
  have hx6 := few_row X
  have hy6 := few_row Y
  have c1 := few_any v1 X w h1
  have c2 := fun w' (f : Fr (fun _ => False) w w') => few_any v2 Y w' (h2.fr f)
  rw [hx] at hx1 hxt hx8 hx6 c1
  simp only [hy] at hy1 hyt hy8 hy6 c2
  have hss : s.size ≤ 1064 := by rw [show s.size = s.data.toList.length from Array.length_toList.symm, hsl]; exact hxt
  have hts : t.size ≤ 1064 := by rw [show t.size = t.data.toList.length from Array.length_toList.symm, htl]; exact hyt
  have wx := fun u w' (hu : RowsAt w' u x) E' => write_any u x w' hu hx1 (by omega) E'
  have wy := fun u w' (hu : RowsAt w' u y) E' => write_any u y w' hu hy1 (by omega) E'
  rw [hs] at wx
  rw [ht] at wy
  have rd := fun w' E' => read_any (s ++ t) (by rw [ByteArray.size_append]; omega) w' E'
  have hrr : rows (s ++ t).data.toList = some (x ++ y) := by
    rw [cat_data, hsl, htl, ← text_append]
    exact rows_text fun r hr => by
      rcases List.mem_append.1 hr with h | h
      · exact hx1 r h
      · exact hy1 r h
  have HC1 := hid' c1
  have HC2 := hid' c2
  have HWX := hid' wx
  have HWY := hid' wy
  have HRD := hid' rd
  have HRR := hid' hrr
  have HE := hid' E
  have HSL := hid' hsl
  have HX1 := hid' hx1
  have HY1 := hid' hy1
  have HX6 := hid' hx6
  have HY6 := hid' hy6
  obtain ⟨nx, hnx⟩ : ∃ nx, x.length = nx := ⟨_, rfl⟩
  obtain ⟨ny, hny⟩ : ∃ ny, y.length = ny := ⟨_, rfl⟩
  rw [hnx] at hx8
  rw [hny] at hy8
  have HNX := hid' hnx
  have HNY := hid' hny
  clear hs ht hsl htl hx1 hy1 hxt hyt hx6 hy6 c1 c2 wx wy rd hrr E hnx hny h1 h2 hX hY
  go_enter Tryd.func7, Tryd.ntmps7
  go_wp2_with fail
  refine HC1.out.mono ?_
  rintro e w1 ⟨u1, rfl, hu1, f1⟩
  have HF1 := hid' f1
  have HU1 := hid' hu1
  clear f1 hu1 HC1
  go_wp2_with fail
  refine (HC2.out w1 HF1.out).mono ?_
  rintro e w2 ⟨u2, rfl, hu2, f2⟩
  have HU2 := hid' hu2
  have HU1b := hid' (HU1.out.fr f2)
  have HF2 := hid' (HF1.out.trans f2)
  clear f2 hu2 HC2 HU1
  have HE2 := hid' (HE.out.fr HF2.out)
  go_wp2_with fail
  refine (HWX.out u1 w2 HU1b.out HE2.out).mono ?_
  rintro e w3 ⟨rfl, f3⟩
  have HF3 := hid' f3
  clear f3
  go_wp2_with fail
  refine (HWY.out u2 w3 (HU2.out.fr HF3.out) (HE2.out.fr HF3.out)).mono ?_
  rintro e w4 ⟨rfl, f4⟩
  have HF4 := hid' (HF3.out.trans f4)
  clear f4
  go_wp2_with fail
  refine (HRD.out w4 (HE2.out.fr HF4.out)).mono ?_
  rintro e w5 ⟨f5, hpost⟩
  rw [HRR.out] at hpost
  obtain ⟨v, rfl, hv⟩ := hpost
  have HV := hid' hv
  have HF5 := hid' (HF4.out.trans f5)
  clear f5 hv
  go_wp2_with fail
  refine (HWX.out u1 w5 (HU1b.out.fr HF5.out) (HE2.out.fr HF5.out)).mono ?_
  rintro e w6 ⟨rfl, f6⟩
  have HF6 := hid' (HF5.out.trans f6)
  have HV6 := hid' (HV.out.fr f6)
  clear f6 HV
  go_wp2_with fail
  go_loopw [9] (fun q wr => ∃ k : Nat, q = .int .i64 ((s.data.toList.take k).count 10 : Nat) ∧ k ≤ s.size ∧ wr = w6.iter s k) (fun _ wr => s.size - wr.iterPos w6.heap.size)
  case atStart => exact ⟨0, rfl, by omega, rfl⟩
  case round =>
    obtain ⟨k, rfl, hk, rfl⟩ := hrel
    by_cases hlt : k < s.size
    · have hlt' : k < s.data.toList.length := hlt
      have hck := List.getElem?_eq_getElem hlt'
      have hcn := count_step s.data.toList k hck
      have hasc : (s[k]'hlt).toNat < 128 := by
        have : s.data.toList[k] ∈ text x := by rw [← HSL.out]; exact List.getElem_mem ..
        exact text_ascii x _ this
      have hnx : ∀ ty, (Instr.next (.pointer (some ⟨w6.heap.size, 0, none⟩)) true ty).run Tryd.prog (w6.iter s k) = .ok (.tuple #[.bool true, .int .i64 k, .int .i32 (bt s k)]) (w6.iter s (k + 1)) := fun ty => by
        rw [run_next_ascii (P := Tryd.prog) w6 s k ty hlt hasc, get_bt s k hlt]
      have hb10 : (s.data.toList[k] = 10) ↔ bt s k = 10 := by
        rw [← get_bt s k hlt]
        have e10 : UInt8.toNat 10 = 10 := rfl
        have e : s.data.toList[k] = s[k]'hlt := rfl
        rw [e]
        exact ⟨fun h => by rw [h]; rfl, fun h => UInt8.toNat_inj.1 (by omega)⟩
      obtain ⟨q, hq⟩ : ∃ q, (s.data.toList.take k).count 10 = q := ⟨_, rfl⟩
      have hqk : q ≤ 1064 := by
        rw [← hq]
        exact Nat.le_trans List.count_le_length (by rw [List.length_take]; omega)
      rw [hq] at hcn ⊢
      by_cases hb : bt s k = 10
      · rw [if_pos (hb10.2 hb)] at hcn
        rw [hb] at hnx
        have HCN := hid' hcn
        clear hcn hb10 hck hasc
        go_wp2_with fail
        go_roundw
        case rel => exact ⟨k + 1, by rw [HCN.out]; go_num, by omega, rfl⟩
        case measure => rw [World.iterPos_iter, World.iterPos_iter]; omega
      · rw [if_neg (fun h => hb (hb10.1 h))] at hcn
        have HCN := hid' hcn
        clear hcn hb10 hck hasc
        go_wp2_with fail
        go_roundw
        case rel => exact ⟨k + 1, by rw [HCN.out]; go_num, by omega, rfl⟩
        case measure => rw [World.iterPos_iter, World.iterPos_iter]; omega
    · obtain rfl : k = s.size := by omega
      have hnx : ∀ ty, (Instr.next (.pointer (some ⟨w6.heap.size, 0, none⟩)) true ty).run Tryd.prog (w6.iter s s.size) = .ok (.tuple #[.bool false]) (w6.iter s s.size) := fun ty => run_next_end w6 s s.size ty hlt
      have hcnt : (s.data.toList.take s.size).count 10 = nx := by
        rw [HSL.out, List.take_of_length_le (by rw [← HSL.out]; exact Nat.le_of_eq Array.length_toList), text_count, HNX.out]
      rw [hcnt]
      obtain ⟨w7, hw7⟩ : ∃ w7, w6.iter s s.size = w7 := ⟨_, rfl⟩
      have f7 : Fr (fun _ => False) w6 w7 := by rw [← hw7]; exact (Fr.refl _ _).alloc _
      rw [hw7] at hnx ⊢
      clear hcnt hw7
      have HV7 := hid' (HV6.out.fr f7)
      have HF7 := hid' (HF6.out.trans f7)
      obtain ⟨A, c, hu1, -⟩ := (HU1b.out.fr HF7.out).open
      have HU7 := hid' (HU1b.out.fr HF7.out)
      have HY7 := hid' (HU2.out.fr HF7.out)
      subst hu1
      have HE7 := hid' (HE2.out.fr HF7.out)
      have HFF := hid' (HF2.out.trans HF7.out)
      obtain ⟨A1, c1, wa, news1, hr1, hown1, hn1, hl1, fa⟩ := append_rows (w0 := w7) (w := w7.alloc (.cells #[] 26)) (B := w7.heap.size) rfl ((Fr.refl _ _).alloc _) (v := .slice (some ⟨w7.heap.size, 0, none⟩) 0 0) (vals := []) (n := 0)
        ⟨by simp, .inr ⟨w7.heap.size, 0, #[], rfl, Nat.le_refl _, blk_alloc_new _ _, Nat.le_refl _, by simp [maxLen], by simp, by simp⟩⟩ (by simp) HU7.out (by omega) (by rw [HNX.out]; omega)
      obtain ⟨A3, c3, wb, news2, hr2, hown2, hn2, hl2, fb⟩ := append_rows (w0 := w7) (w := wa) (B := w7.heap.size) rfl fa hown1 (by simp) HY7.out (by rw [HNX.out]; omega) (by rw [HNY.out]; omega)
      have hall : RowsAt wb (.slice (some A3) (0 + x.length + y.length) c3) (x ++ y) := rows_own fb hown2 (by simp) (fun k r hr => by
        rw [List.getElem?_append] at hr
        rw [List.nil_append, List.getElem?_append, hl1]
        split at hr
        · rename_i h
          rw [if_pos h]
          exact hn1 k r hr
        · rename_i h
          rw [if_neg h]
          exact hn2 _ r hr)
      have hsm := rowsame_any v _ (x ++ y) (x ++ y) wb (HV7.out.fr fb) hall (by rw [List.length_append, HNX.out, HNY.out]; omega) (by rw [List.length_append, HNX.out, HNY.out]; omega)
        (fun r hr => by rcases List.mem_append.1 hr with h | h; exact Nat.le_trans (HX6.out r h) (by omega); exact Nat.le_trans (HY6.out r h) (by omega))
        (fun r hr => by rcases List.mem_append.1 hr with h | h; exact Nat.le_trans (HX6.out r h) (by omega); exact Nat.le_trans (HY6.out r h) (by omega))
      rw [decide_eq_true rfl] at hsm
      rw [HNX.out, HNY.out] at hsm hr2
      rw [HNX.out] at hr1 ⊢
      rw [Nat.zero_add] at hr1 hr2 hsm
      have HSM := hid' hsm
      have HFB := hid' (HFF.out.trans fb)
      have HEB := hid' (HE7.out.fr fb)
      clear f7 HV6 HF6 HU1b HE2 HF2 HF3 HF4 HF5 HF1 HU2 HWX HWY HRD HE hsm fb fa hn1 hn2 hl1 hl2 hown1 hown2 hall
      go_wp2_with (first | (at_builtin; refine wpList_append_run rfl _ _ 22 rfl rfl rfl hr1 ?_) | (at_builtin; refine wpList_append_run rfl _ _ 22 rfl rfl rfl hr2 ?_))
      refine HSM.out.mono ?_
      rintro e w8 ⟨rfl, f8⟩
      have HF8 := hid' (HFB.out.trans f8)
      have HW0 := hid' (write_any (.slice none 0 0) [] w8 (.inl ⟨rfl, rfl⟩) (fun r hr => by cases hr) (by simp [text]) (HEB.out.fr f8))
      have HE8 := hid' (HEB.out.fr f8)
      clear f8 HSM HFB HEB hr1 hr2 hnx
      rw [show (⟨(text []).toArray⟩ : ByteArray) = ByteArray.empty from rfl] at HW0
      go_wp2_with fail
      refine HW0.out.mono ?_
      rintro e w9 ⟨rfl, f9⟩
      have HF9 := hid' (HF8.out.trans f9)
      have HR := hid' (runs_any w9 (HE8.out.fr f9))
      clear f9 HW0
      go_wp2_with fail
      refine HR.out.mono ?_
      rintro e w10 ⟨rfl, f10⟩
      have HF10 := hid' (HF9.out.trans f10)
      clear f10 HR
      go_wp2_with fail
      go_ret
      exact ⟨rfl, HF10.out⟩

end Go.Proofs.YtknjhmaldnjhbaaDoor

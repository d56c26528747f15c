/- The contract of Write. -/
import Derived.Test.YtknjhmaldnjhbaaDoorN
import Derived.Test.YtknjhmaldnjhbaaDoorB
namespace Go.Proofs.YtknjhmaldnjhbaaDoor
open Go.RowKit Go.Deep
open Go.Lib (itoa)

theorem tailT_append (a b : List Int) : tailT (a ++ b) = tailT a ++ tailT b := by unfold tailT; rw [List.flatMap_append]

theorem rowT_take_le (r : List Int) (j : Nat) : (rowT (r.take j)).length ≤ (rowT r).length := by
  cases r with
  | nil => simp
  | cons n r =>
    cases j with
    | zero => simp [rowT]
    | succ j =>
      have h : tailT r = tailT (r.take j) ++ tailT (r.drop j) := by rw [← tailT_append, List.take_append_drop]
      show (itoa n ++ tailT (r.take j)).length ≤ (itoa n ++ tailT r).length
      rw [h]
      simp only [List.length_append]
      omega

theorem text_at {x : List (List Int)} {k : Nat} {r : List Int} (h : x[k]? = some r) : (text (x.take k)).length + (rowT r).length + 1 ≤ (text x).length := by
  have h1 : x = x.take k ++ (r :: x.drop (k + 1)) := by
    obtain ⟨hk, hr⟩ := List.getElem?_eq_some_iff.1 h
    rw [← hr, ← List.drop_eq_getElem_cons hk, List.take_append_drop]
  rw [h1, text_append, text_cons, List.take_append_of_le_length (by rw [List.length_take]; have := (List.getElem?_eq_some_iff.1 h).1; omega), List.take_of_length_le (by rw [List.length_take]; omega)]
  simp only [List.length_append, List.length_cons]
  omega

theorem text_step {x : List (List Int)} {k : Nat} {r : List Int} (h : x[k]? = some r) : text (x.take (k + 1)) = text (x.take k) ++ rowT r ++ [10] := by
  rw [List.take_add_one, h, Option.toList_some, text_snoc, List.append_assoc]

theorem rowT_step {r : List Int} {j : Nat} {n : Int} (h : r[j]? = some n) : rowT (r.take (j + 1)) = rowT (r.take j) ++ (if j = 0 then [] else [32]) ++ itoa n := by
  rw [List.take_add_one, h, Option.toList_some, rowT_snoc]
  by_cases hj : j = 0
  · subst hj
    simp [rowT]
  · have hl := (List.getElem?_eq_some_iff.1 h).1
    rw [if_neg (fun e => by have := congrArg List.length e; rw [List.length_take] at this; simp only [List.length_nil] at this; omega), if_neg hj]
    simp

theorem cells_byte (l : List UInt8) (c : UInt8) : Lib.byteCells l ++ [.int .u8 (c.toNat : Int)] = Lib.byteCells (l ++ [c]) := by simp [Lib.byteCells]
theorem cells_str (l m : List UInt8) : Lib.byteCells l ++ Lib.strCells ⟨m.toArray⟩ = Lib.byteCells (l ++ m) := by simp [Lib.byteCells, Lib.strCells]
theorem cells_length (l : List UInt8) : (Lib.byteCells l).length = l.length := by simp [Lib.byteCells]

theorem Fr.cellB {B : Nat} {w w' : World} (f : Below B w w') (hB : w.heap.size = B) {a : Addr} {v : Value} (h : w.cell? a = some v) : w'.cell? a = some v :=
  (Fr.ofBelowAt f).cell h (by have := World.block_lt_of_cell? _ _ h; omega)

set_option maxRecDepth 100000 in
set_option maxHeartbeats 4000000 in
theorem write_any (v : Value) (x : List (List Int)) (w : World) (hx : RowsAt w v x) (hI : ∀ r ∈ x, ∀ n ∈ r, I64 n) (hlen : (text x).length ≤ 1000000) (E : Env w) :
    Calls Tryd.prog 9 #[v] w fun e w' => e = .returned (.string ⟨(text x).toArray⟩) ∧ Fr (fun _ => False) w w' := by
  obtain ⟨Ao, cap, rfl, hrow⟩ : ∃ Ao cap, v = .slice Ao x.length cap ∧ ∀ (k : Nat) r, x[k]? = some r → ∃ a, Ao = some a ∧ ∃ u, w.cell? (a.add k) = some u ∧ IntsAt w u r := by
    rcases hx with ⟨rfl, rfl⟩ | ⟨a, cap, rfl, hc⟩
    · exact ⟨none, 0, rfl, fun k r h => by simp at h⟩
    · exact ⟨some a, cap, rfl, fun k r h => ⟨a, rfl, hc k r h⟩⟩
  obtain ⟨n, hn⟩ : ∃ n, x.length = n := ⟨_, rfl⟩
  rw [hn]
  have hnt : n ≤ 1000000 := by
    have h1 : ∀ x : List (List Int), x.length ≤ (text x).length := fun x => by
      induction x with
      | nil => simp
      | cons r x ih => rw [text_cons]; simp; omega
    have := h1 x
    omega
  have HN := hid' hn
  have HR := hid' hrow
  have HI := hid' hI
  have HE := hid' E
  have HT := hid' hlen
  obtain ⟨B, hB⟩ : ∃ B, w.heap.size = B := ⟨_, rfl⟩
  have HB := hid' hB
  have hB1 : B ≤ w.heap.size := by omega
  have hb0 := Lib.fresh_isBuilder 42 5 w
  have hbl : Below w.heap.size w (w.alloc (.cells #[.pointer none, .slice none 0 0] 42)) := (Below.refl _ w).alloc (Nat.le_refl _) _
  rw [hB] at hb0 hbl
  have HB0 := hid' hb0
  have HBL := hid' hbl
  clear hn hrow hI E hlen hb0 hbl hx
  go_enter Tryd.func9, Tryd.ntmps9
  go_wp2_with fail
  obtain ⟨wa, hwa⟩ : ∃ wa, w.alloc (.cells #[.pointer none, .slice none 0 0] 42) = wa := ⟨_, rfl⟩
  rw [hwa] at HB0 HBL ⊢
  clear hwa hB
  go_loopw [10] (fun i wr => ∃ k : Nat, k ≤ n ∧ i = .int .i64 k ∧ Lib.IsBuilder 42 5 B B (Lib.byteCells (text (x.take k))) wr ∧ Below B w wr) (fun i _ => n - (intOf i).toNat)
  case atStart => exact ⟨0, Nat.zero_le _, rfl, HB0.out, HBL.out⟩
  case round =>
    obtain ⟨k, hk, rfl, hb, hbl⟩ := hrel
    obtain ⟨wo, rfl⟩ : ∃ wo : World, wo = wr := ⟨_, rfl⟩
    have HBD := hid' hb
    have HBW := hid' hbl
    have hsz := hbl.size
    clear hb hbl HB0 HBL
    by_cases hlt : k < n
    · obtain ⟨r, hr⟩ : ∃ r, x[k]? = some r := ⟨_, List.getElem?_eq_getElem (by rw [HN.out]; exact hlt)⟩
      obtain ⟨a, rfl, u, hu, hi⟩ := HR.out k r hr
      have cu := Fr.cellB HBW.out HB.out hu
      obtain ⟨A2, c2, rfl, hcell⟩ : ∃ A2 c2, u = .slice A2 r.length c2 ∧ ∀ (j : Nat) z, r[j]? = some z → ∃ a2, A2 = some a2 ∧ w.cell? (a2.add j) = some (.int .i64 z) := by
        rcases hi with ⟨rfl, rfl⟩ | ⟨a2, c2, rfl, h⟩
        · exact ⟨none, 0, rfl, fun j z h => by simp at h⟩
        · exact ⟨some a2, c2, rfl, fun j z hz => ⟨a2, rfl, h j z hz⟩⟩
      obtain ⟨m, hm⟩ : ∃ m, r.length = m := ⟨_, rfl⟩
      rw [hm] at cu
      have htx := text_at hr
      have hIr := HI.out r (List.mem_of_getElem? hr)
      obtain ⟨L, hL⟩ : ∃ L, (text (x.take k)).length = L := ⟨_, rfl⟩
      obtain ⟨L2, hL2⟩ : ∃ L2, (rowT r).length = L2 := ⟨_, rfl⟩
      have hbnd : L + L2 + 1 ≤ 1000000 := by have := HT.out; omega
      have hmt : m ≤ 1000000 := by
        have h1 : ∀ r : List Int, r.length ≤ (rowT r).length := fun r => by
          cases r with
          | nil => simp
          | cons z r =>
            have h2 : ∀ r : List Int, r.length ≤ (tailT r).length := fun r => by
              induction r with
              | nil => simp
              | cons y r ih => simp only [tailT, List.flatMap_cons, List.length_append, List.length_cons]; have ih : r.length ≤ (r.flatMap fun n => 32 :: itoa n).length := ih; omega
            have h3 := itoa_ne z
            have h4 : 1 ≤ (itoa z).length := by cases h : itoa z with
              | nil => exact absurd h h3
              | cons _ _ => simp
            show r.length + 1 ≤ (itoa z ++ tailT r).length
            have := h2 r
            rw [List.length_append]; omega
        have := h1 r
        omega
      have HRR := hid' hr
      have HM := hid' hm
      have HCL := hid' hcell
      have HIR := hid' hIr
      have HL := hid' hL
      have HL2 := hid' hL2
      clear hr hm hcell hIr hL hL2 hu hi htx
      go_wp2_with fail
      go_loopw [16] (fun j wi => ∃ q : Nat, q ≤ m ∧ j = .int .i64 q ∧ Lib.IsBuilder 42 5 B B (Lib.byteCells (text (x.take k) ++ rowT (r.take q))) wi ∧ Below B w wi) (fun j _ => m - (intOf j).toNat)
      case atStart => exact ⟨0, Nat.zero_le _, rfl, by rw [show rowT (r.take 0) = [] from rfl, List.append_nil]; exact HBD.out, HBW.out⟩
      case round =>
        obtain ⟨q, hq, rfl, hb, hbl⟩ := hrel
        have HB3 := hid' hb
        have HBW3 := hid' hbl
        have hsz3 := hbl.size
        clear hb hbl
        by_cases hqm : q < m
        · obtain ⟨z, hz⟩ : ∃ z, r[q]? = some z := ⟨_, List.getElem?_eq_getElem (by rw [HM.out]; exact hqm)⟩
          obtain ⟨a2, rfl, hc2⟩ := HCL.out q z hz
          have cz := Fr.cellB HBW3.out HB.out hc2
          have hzI := HIR.out z (List.mem_of_getElem? hz)
          have hstep := rowT_step hz
          have hle := rowT_take_le r (q + 1)
          have hlq := rowT_take_le r q
          have hil : (itoa z).length ≤ 21 := Lib.itoa_length_le z hzI.1 hzI.2
          have HZI := hid' hzI
          have HST := hid' hstep
          have hlen1 : (text (x.take k) ++ rowT (r.take q)).length + 22 ≤ 1000100 := by
            rw [List.length_append, HL.out]; have := HL2.out; omega
          have HLN := hid' hlen1
          clear hz hc2 hzI hstep hle hlq hlen1
          have HE3 := hid' (HE.out.fr ((Fr.ofBelowAt HBW3.out).mono (S' := fun _ => False) fun j hj h => by have := HB.out; omega))
          by_cases hq0 : q = 0
          · subst hq0
            have cz0 : wr.cell? a2 = some (.int .i64 z) := by have h := cz; unfold Addr.add at h; simpa using h
            go_wp2_with fail
            refine (itoa_any z HZI.out _ HE3.out).mono ?_
            rintro e w4 ⟨rfl, f4⟩
            have hb4 := f4.builder HB3.out
            have HBW4 := hid' (HBW3.out.trans ((f4.below).mono (by omega)))
            have h4s := f4.size
            have HWS := hid' (writeString_any B B _ ⟨(itoa z).toArray⟩ w4 hb4 (by rw [cells_length]; have := HLN.out; show _ + (itoa z).toArray.size ≤ _; rw [List.size_toArray]; omega) (by omega))
            clear f4 hb4
            go_wp2_with fail
            refine HWS.out.mono ?_
            rintro e w5 ⟨rfl, h5, b5⟩
            rw [cells_str] at h5
            have HB5 := hid' h5
            have HBW5 := hid' (HBW4.out.trans b5)
            clear h5 b5 HWS
            go_wp2_with fail
            go_roundw
            case rel => exact ⟨1, by omega, by go_num, by rw [HST.out]; simpa [rowT] using HB5.out, HBW5.out⟩
            case measure => simp [intOf]; omega
          · have hq1 : 0 < q := by omega
            have HWB := hid' (writeByte_any B B _ 32 wr HB3.out (by rw [cells_length]; have := HLN.out; omega) (by omega))
            clear hq0
            go_wp2_with fail
            refine HWB.out.mono ?_
            rintro e w3 ⟨rfl, h3, b3⟩
            have h3 : Lib.IsBuilder 42 5 B B (Lib.byteCells ((text (x.take k) ++ rowT (r.take q)) ++ [32])) w3 := by rw [← cells_byte]; exact h3
            have HB4 := hid' h3
            have HBW4 := hid' (HBW3.out.trans b3)
            have hs4 := b3.size
            have HE4 := hid' (HE.out.fr ((Fr.ofBelowAt HBW4.out).mono (S' := fun _ => False) fun j hj h => by have := HB.out; omega))
            clear h3 b3 HWB
            go_wp2_with fail
            refine (itoa_any z HZI.out _ HE4.out).mono ?_
            rintro e w4 ⟨rfl, f4⟩
            have hb4 := f4.builder HB4.out
            have HBW5 := hid' (HBW4.out.trans ((f4.below).mono (by omega)))
            have h4s := f4.size
            have HWS := hid' (writeString_any B B _ ⟨(itoa z).toArray⟩ w4 hb4 (by rw [cells_length, List.length_append]; have := HLN.out; show _ + (itoa z).toArray.size ≤ _; rw [List.size_toArray]; simp only [List.length_singleton]; omega) (by omega))
            clear f4 hb4
            go_wp2_with fail
            refine HWS.out.mono ?_
            rintro e w5 ⟨rfl, h5, b5⟩
            rw [cells_str] at h5
            have HB5 := hid' h5
            have HBW6 := hid' (HBW5.out.trans b5)
            clear h5 b5 HWS
            go_wp2_with fail
            go_roundw
            case rel => exact ⟨q + 1, by omega, by go_num, by rw [HST.out, if_neg (by omega)]; simpa using HB5.out, HBW6.out⟩
            case measure => simp [intOf]; omega
        · obtain rfl : q = m := by omega
          have hfull : r.take q = r := List.take_of_length_le (by rw [HM.out]; exact Nat.le_refl _)
          rw [hfull] at HB3
          have HWB := hid' (writeByte_any B B _ 10 wr HB3.out (by rw [cells_length, List.length_append, HL.out, HL2.out]; omega) (by omega))
          clear hfull
          go_wp2_with fail
          refine HWB.out.mono ?_
          rintro e w3 ⟨rfl, h3, b3⟩
          have h3 : Lib.IsBuilder 42 5 B B (Lib.byteCells ((text (x.take k) ++ rowT r) ++ [10])) w3 := by rw [← cells_byte]; exact h3
          have HB4 := hid' h3
          have HBW4 := hid' (HBW3.out.trans b3)
          clear h3 b3 HWB
          go_wp2_with fail
          go_roundw
          case rel => exact ⟨k + 1, by omega, by go_num, by rw [text_step HRR.out]; exact HB4.out, HBW4.out⟩
          case measure => simp [intOf]; omega
    · obtain rfl : k = n := by omega
      have hfull : x.take k = x := List.take_of_length_le (by rw [HN.out]; exact Nat.le_refl _)
      rw [hfull] at HBD
      have HST := hid' (Tryd.Builder_String_any B B (text x) wo HBD.out (by omega))
      clear hfull
      go_wp2_with fail
      refine HST.out.mono ?_
      rintro e w3 ⟨rfl, b3⟩
      have HF := hid' ((Fr.ofBelowAt (HBW.out.trans b3)).mono (S' := fun _ => False) fun j hj h => by have := HB.out; omega)
      clear b3 HST
      go_wp2_with fail
      go_ret
      exact ⟨rfl, HF.out⟩

end Go.Proofs.YtknjhmaldnjhbaaDoor

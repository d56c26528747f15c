/- The library's calls at this program: Itoa, Atoi, FormatUint, Cut, Split; what they read of the world. -/
import Derived.Test.YtknjhmaldnjhbaaDoorU
import Derived.Test.YtknjhmaldnjhbaaDoorP
import Derived.Lib.IndexBytes
namespace Go.Proofs.YtknjhmaldnjhbaaDoor
open Go.RowKit Go.Deep Go.Sort

/-- The library's variables that are read. -/
structure Env (w : World) : Prop where
  pow : Lib.TabIs Tryd.prog w "internal/strconv.uint64pow10" .u64 Lib.pow10Tab
  syn : ∃ tp p, w.var? Tryd.prog "strconv.ErrSyntax" = some #[.iface tp p]
  ran : ∃ tp p, w.var? Tryd.prog "strconv.ErrRange" = some #[.iface tp p]
  mx : ∃ m, w.cell? ⟨0, 0, none⟩ = some (.int .i64 m)

theorem Env.fr {w w' : World} (E : Env w) (f : Fr (fun _ => False) w w') : Env w' :=
  ⟨f.var E.pow, E.syn.imp fun _ ⟨p, h⟩ => ⟨p, f.var h⟩, E.ran.imp fun _ ⟨p, h⟩ => ⟨p, f.var h⟩, E.mx.imp fun _ h => f.cell h id⟩

theorem itoa_any (n : Int) (hn : I64 n) (w : World) (E : Env w) :
    Calls Tryd.prog 18 #[.int .i64 n] w fun e w' => e = .returned (.string ⟨(Lib.itoa n).toArray⟩) ∧ Fr (fun _ => False) w w' := by
  refine (Tryd.strconv_Itoa n hn.1 hn.2 w E.pow).mono ?_
  rintro e w' ⟨rfl, k, os, rfl⟩
  exact ⟨rfl, ((Fr.refl _ w).drewN k).grow os⟩

theorem atoi_ok (s : ByteArray) (hs : s.size ≤ 140737488355328) (v : Int) (h : Lib.atoiAll s.data.toList = .ok v) (w : World) :
    Calls Tryd.prog 24 #[.string s] w fun e w' => e = .returned (.tuple #[.int .i64 v, .nilIface]) ∧ Fr (fun _ => False) w w' := by
  refine (Tryd.strconv_Atoi_ok s (by omega) v h w).mono ?_
  rintro e w' ⟨rfl, rfl | ⟨t, rfl⟩⟩
  · exact ⟨rfl, Fr.refl _ _⟩
  · exact ⟨rfl, Fr.ofBelow (Lib.bytesWorld_below w 5 t)⟩

/-- It is no number. -/
theorem atoi_not (s : ByteArray) (hs : s.size ≤ 140737488355328) (h : ∀ v, Lib.atoiAll s.data.toList ≠ .ok v) (w : World) (E : Env w) :
    Calls Tryd.prog 24 #[.string s] w fun e w' => ∃ n q, e = .returned (.tuple #[.int .i64 n, .iface 73 (.pointer (some ⟨q, 0, none⟩))]) ∧ Fr (fun _ => False) w w' := by
  cases hc : Lib.atoiAll s.data.toList with
  | ok v => exact absurd hc (h v)
  | range =>
    obtain ⟨tp, p, hv⟩ := E.ran
    refine (Tryd.strconv_Atoi_range_var s (by omega) hc tp p w hv).mono ?_
    rintro e w' ⟨q, rfl, _, _, hb⟩
    exact ⟨_, q, rfl, Fr.ofBelow hb⟩
  | _ =>
    obtain ⟨tp, p, hv⟩ := E.syn
    refine (Tryd.strconv_Atoi_syntax_var s (by omega) hc tp p w hv).mono ?_
    rintro e w' ⟨q, rfl, _, _, hb⟩
    exact ⟨_, q, rfl, Fr.ofBelow hb⟩

theorem bytes_ext {a b : ByteArray} (h : a.data.toList = b.data.toList) : a = b := by
  cases a; cases b
  congr
  exact Array.toList_inj.1 h

theorem bytes_of {a : ByteArray} {l : List UInt8} (h : a.data.toList = l) : a = ⟨l.toArray⟩ := bytes_ext (by simp [h])

/-- An amount of hundredths. -/
def amount (n : Int) : List UInt8 := (if n < 0 then [45] else []) ++ (Lib.decDigits (n.natAbs / 100) ++ ([46] ++ (Lib.decDigits (n.natAbs % 100 + 100)).drop 1))

theorem cat_data (a b : ByteArray) : (a ++ b).data.toList = a.data.toList ++ b.data.toList := by
  rw [ByteArray.data_append, Array.toList_append]

theorem cut_data (q : ByteArray) (i : Nat) : (q.extract i q.size).data.toList = q.data.toList.drop i := Lib.extract_to_end q i

theorem dec_three (m : Nat) (h : m < 100) : (Lib.decDigits (m + 100)).length = 3 := by
  rw [Lib.decDigits_length, Lib.nDigits_big (by omega), Lib.nDigits_big (by omega), Lib.nDigits_small (by omega)]

set_option maxRecDepth 100000 in
set_option maxHeartbeats 2000000 in
theorem amount_any (n : Int) (hn : I64 n) (w : World) (E : Env w) :
    Calls Tryd.prog 10 #[.int .i64 n] w fun e w' => e = .returned (.string ⟨(amount n).toArray⟩) ∧ Fr (fun _ => False) w w' := by
  unfold I64 at hn
  have HE := hid' E
  obtain ⟨u, hu⟩ : ∃ u, n.natAbs = u := ⟨_, rfl⟩
  have hu64 : u < 18446744073709551616 := by omega
  obtain ⟨q, hq⟩ : ∃ q : ByteArray, (⟨(Lib.decDigits (u % 100 + 100)).toArray⟩ : ByteArray) = q := ⟨_, rfl⟩
  obtain ⟨r, hr⟩ : ∃ r : ByteArray, (⟨(Lib.decDigits (u / 100)).toArray⟩ : ByteArray) = r := ⟨_, rfl⟩
  have hq3 : q.size = 3 := by
    rw [← hq]
    show (Lib.decDigits (u % 100 + 100)).toArray.size = 3
    rw [List.size_toArray, dec_three _ (by omega)]
  have c1 := fun w E => uint_any (u % 100 + 100) (by omega) w E
  have c2 := fun w E => uint_any (u / 100) (by omega) w E
  rw [hq] at c1
  rw [hr] at c2
  have HC1 := hid' c1
  have HC2 := hid' c2
  have HQ := hid' hq
  have HR := hid' hr
  have hqs : 1 ≤ q.size := by omega
  have hqt : q.size ≤ 3 := by omega
  have hrs : r.size ≤ 20 := by
    rw [← hr]
    show (Lib.decDigits (u / 100)).toArray.size ≤ 20
    rw [List.size_toArray, Lib.decDigits_length]
    exact Lib.nDigits_le20 _ (by omega)
  have HQ3 := hid' hq3
  have HU := hid' hu
  clear c1 c2 hq hr hq3 E
  by_cases hneg : n < 0
  · have hn' : n = -(u : Int) := by omega
    have hwr : IntKind.u64.wrap (-IntKind.u64.wrap n) = (u : Int) := by rw [IntKind.wrap_u64, IntKind.wrap_u64]; omega
    clear hu hn'
    go_enter Tryd.func10, Tryd.ntmps10
    go_wp2_with fail
    refine (HC1.out _ HE.out.pow).mono ?_
    rintro e w1 ⟨rfl, f1⟩
    have HF1 := hid' f1
    have HE1 := hid' (HE.out.fr f1)
    clear f1
    go_wp2_with fail
    refine (HC2.out _ HE1.out.pow).mono ?_
    rintro e w2 ⟨rfl, f2⟩
    have HF2 := hid' (HF1.out.trans f2)
    clear f2
    go_wp2_with fail
    go_ret
    refine ⟨congrArg (fun s => Ending.returned (Value.string s)) (bytes_of ?_), HF2.out⟩
    rw [cat_data, cat_data, cat_data, cut_data, ← HQ.out, ← HR.out]
    unfold amount
    rw [if_pos hneg, HU.out]
    simp
  · have hwr : IntKind.u64.wrap n = (u : Int) := by rw [IntKind.wrap_u64]; omega
    obtain rfl : n = (u : Int) := by omega
    clear hu
    go_enter Tryd.func10, Tryd.ntmps10
    go_wp2_with fail
    refine (HC1.out _ HE.out.pow).mono ?_
    rintro e w1 ⟨rfl, f1⟩
    have HF1 := hid' f1
    have HE1 := hid' (HE.out.fr f1)
    clear f1
    go_wp2_with fail
    refine (HC2.out _ HE1.out.pow).mono ?_
    rintro e w2 ⟨rfl, f2⟩
    have HF2 := hid' (HF1.out.trans f2)
    clear f2
    go_wp2_with fail
    go_ret
    refine ⟨congrArg (fun s => Ending.returned (Value.string s)) (bytes_of ?_), HF2.out⟩
    rw [cat_data, cat_data, cat_data, cut_data, ← HQ.out, ← HR.out]
    unfold amount
    rw [if_neg (by omega), HU.out]
    simp

end Go.Proofs.YtknjhmaldnjhbaaDoor

/- A row of bytes that a conversion has laid: what memory holds of it. -/
import Derived.Test.YtknjhmaldnjhbaaDoorF
import Derived.Laws.IdiomStrings
namespace Go.Proofs.YtknjhmaldnjhbaaDoor
open Go.RowKit Go.Deep

/-- The block b holds the bytes l, and some more cells; no cell of it is frozen. -/
def BytesIn (w : World) (b : Nat) (l : List UInt8) : Prop :=
  ∃ C : Array Value, w.heap[b]? = some (.cells C 5 (C.size, C.size + 1)) ∧ l.length ≤ C.size ∧ ∀ (j : Nat), j < l.length → C[j]? = some (.int .u8 ((l.getD j 0).toNat : Int))

theorem BytesIn.lt {w : World} {b : Nat} {l : List UInt8} (h : BytesIn w b l) : b < w.heap.size := by
  obtain ⟨C, h1, _⟩ := h
  exact lt_of_block h1

theorem BytesIn.cell {w : World} {b : Nat} {l : List UInt8} (h : BytesIn w b l) {j : Nat} (hj : j < l.length) : w.cell? ⟨b, j, none⟩ = some (.int .u8 ((l.getD j 0).toNat : Int)) := by
  obtain ⟨C, h1, h2, h3⟩ := h
  rw [Lib.cell_of_heap h1]
  exact h3 j hj

theorem BytesIn.frozen {w : World} {b : Nat} {l : List UInt8} (h : BytesIn w b l) {j : Nat} (hj : j < l.length) : w.frozen? ⟨b, j, none⟩ = false := by
  obtain ⟨C, h1, h2, h3⟩ := h
  simp only [World.frozen?, h1]
  have : ¬ C.size ≤ j := by omega
  simp [this]

theorem BytesIn.fr {w w' : World} {b : Nat} {l : List UInt8} {S : Nat → Prop} (h : BytesIn w b l) (f : Fr S w w') (hs : ¬ S b) : BytesIn w' b l := by
  obtain ⟨C, h1, h2, h3⟩ := h
  exact ⟨C, f.blk h1 hs, h2, h3⟩

theorem BytesIn.set {w : World} {b : Nat} {l : List UInt8} (h : BytesIn w b l) (j : Nat) (c : UInt8) : BytesIn (w.setCell ⟨b, j, none⟩ (.int .u8 (c.toNat : Int))) b (l.set j c) := by
  obtain ⟨C, h1, h2, h3⟩ := h
  refine ⟨C.setIfInBounds j (.int .u8 (c.toNat : Int)), ?_, by simpa using h2, fun i hi => ?_⟩
  · simp only [World.setCell, Array.getElem?_modify, if_true, h1, Option.map_some]
    simp
  · rw [List.length_set] at hi
    rw [Array.getElem?_setIfInBounds]
    by_cases e : j = i
    · subst e
      have : j < C.size := by omega
      simp [List.getD, hi, this]
    · rw [if_neg e, h3 i hi]
      simp [List.getD, e]

/-- What '[]byte(s)' lays. -/
theorem bytes_new (w : World) (s : ByteArray) : ∃ c w', (convert 9 33 (.string s)).run Tryd.prog w = .ok (.slice (some ⟨w.heap.size, 0, none⟩) s.size c) w' ∧ s.size ≤ c ∧ BytesIn w' w.heap.size s.data.toList ∧ Fr (fun _ => False) w w' := by
  have h := run_bytes_of_string (P := Tryd.prog) w 9 33 5 s Tryd.underlying9 Tryd.underlying33 Tryd.underlying5
  have hl : s.data.toList.length = s.size := Array.length_toList
  refine ⟨_, _, h, ?_, ⟨_, blk_alloc_new _ _, ?_, fun j hj => ?_⟩, ((Fr.refl _ w).drew).alloc _⟩
  · exact grownCap_ge _ _ _ _
  · simp [bytesRow]
  · have hj' : j < s.data.size := by rw [hl] at hj; exact hj
    simp only [bytesRow]
    rw [Array.getElem?_append_left (by simpa using hj')]
    rw [Array.getElem?_map, Array.getElem?_eq_getElem hj']
    simp [List.getD, Array.getElem?_eq_getElem hj']

/-- 'string(b)'. -/
theorem bytes_back {w : World} {b c : Nat} {l : List UInt8} {n : Nat} (h : BytesIn w b l) (hn : l.length = n) : (convert 33 9 (.slice (some ⟨b, 0, none⟩) n c)).run Tryd.prog w = .ok (.string ⟨l.toArray⟩) w := by
  subst hn
  exact run_convert_bytes_back (P := Tryd.prog) w 33 9 5 ⟨b, 0, none⟩ c l Tryd.underlying33 Tryd.underlying5 Tryd.underlying9 fun j hj => by
    rw [add_flat, h.cell hj]
    simp [List.getD, hj]

theorem wp_convert_run {P : Program} {w : World} {o : Oper} {a : Act} {K : Act → World → Prop} {Q : Exit → Act → World → Prop} (x : Operand) (s d : TypeId)
    (ho : o.op = .convert s d x) {vx : Value} (hx : a.eval x = vx) {v' : Value} {w' : World}
    (hr : (convert s d vx).run P w = .ok v' w') (h : K (a.put o.dst v') w') : o.wp P a w K Q := by
  unfold Oper.wp execOp
  simp only [ho, Sem.run_bind, Sem.run_pure, Result.andThen_ok, hx, hr]
  exact h

end Go.Proofs.YtknjhmaldnjhbaaDoor

/- []byte(s), rows of bytes that the call owns. -/
import Derived.Test.YtbjbljfmcpidmaaGreatDoorRParse
import Derived.Lib.ConvBytes
namespace Go.Proofs.YtbjbljfmcpidmaaGreatDoor
open Go.RowKit Go.Lib Go.Shelf

/-- Block g holds the bytes l, which may be written. -/
def BRow (w : World) (g : Nat) (l : List UInt8) : Prop :=
  ∃ cur e fr, w.heap[g]? = some (.cells cur e fr) ∧ l.length ≤ cur.size ∧ cur.toList.take l.length = bcells l ∧ l.length ≤ fr.1

theorem BRow.lt {w : World} {g : Nat} {l : List UInt8} (h : BRow w g l) : g < w.heap.size := by
  obtain ⟨cur, e, fr, h, _⟩ := h
  rcases Nat.lt_or_ge g w.heap.size with h' | h'
  · exact h'
  · simp [Array.getElem?_eq_none h'] at h
theorem BRow.below {w w' : World} {g : Nat} {l : List UInt8} (h : BRow w g l) (hb : Below w.heap.size w w') : BRow w' g l := by
  have hlt := h.lt
  obtain ⟨cur, e, fr, h, h2⟩ := h
  exact ⟨cur, e, fr, by rw [hb.block g hlt]; exact h, h2⟩
theorem BRow.cell {w : World} {g : Nat} {l : List UInt8} (h : BRow w g l) (j : Nat) (hj : j < l.length) : w.cell? ⟨g, j, none⟩ = some (.int .u8 (l[j].toNat : Int)) := by
  obtain ⟨cur, e, fr, h, h1, h2, _⟩ := h
  rw [cell_of_row w g j cur e fr h]
  have h3 : (cur.toList.take l.length)[j]? = (bcells l)[j]? := by rw [h2]
  rw [List.getElem?_take, if_pos hj] at h3
  rw [← Array.getElem?_toList, h3]
  simp [bcells, cell8, hj]
theorem BRow.frozen {w : World} {g : Nat} {l : List UInt8} (h : BRow w g l) (j : Nat) (hj : j < l.length) : w.frozen? ⟨g, j, none⟩ = false := by
  obtain ⟨cur, e, fr, h, _, _, h3⟩ := h
  simp only [World.frozen?, h]
  simp
  omega
theorem BRow.rowIn {w : World} {g : Nat} {l : List UInt8} (h : BRow w g l) : RowIn w (some ⟨g, 0, none⟩) (bcells l) := fun _ => by
  refine ⟨g, 0, rfl, h.lt, fun j u hu => ?_⟩
  have hj : j < l.length := by
    rcases Nat.lt_or_ge j l.length with h' | h'
    · exact h'
    · rw [List.getElem?_eq_none (by simpa [bcells] using h')] at hu; cases hu
  rw [Nat.zero_add, h.cell j hj]
  simpa [bcells, cell8, hj] using hu
theorem BRow.stored {w : World} {g : Nat} {l : List UInt8} (h : BRow w g l) (j : Nat) (x : UInt8) : BRow (w.setCell ⟨g, j, none⟩ (.int .u8 (x.toNat : Int))) g (l.set j x) := by
  obtain ⟨cur, e, fr, h, h1, h2, h3⟩ := h
  refine ⟨cur.setIfInBounds j (.int .u8 (x.toNat : Int)), e, fr, by rw [setCell_eq_setRow w g j cur e fr _ h]; exact setRow_heap w g cur _ e _ h, ?_, ?_, by simpa using h3⟩
  · simpa using h1
  · rw [Array.toList_setIfInBounds, List.length_set, List.take_set, h2]
    simp [bcells, cell8, List.map_set]

theorem str_bytes (l : List UInt8) (w : World) : ∃ cap w', (convert 9 26 (.string ⟨l.toArray⟩)).run Tryz.prog w = .ok (.slice (some ⟨w.heap.size, 0, none⟩) l.length cap) w' ∧ Below w.heap.size w w' ∧ BRow w' w.heap.size l ∧ l.length ≤ cap ∧ w'.heap.size = w.heap.size + 1 := by
  have h := Lib.run_convert_string_bytes (P := Tryz.prog) w 9 26 5 ⟨l.toArray⟩ Tryz.underlying9 Tryz.underlying26 Tryz.underlying5
  have hs : (⟨l.toArray⟩ : ByteArray).size = l.length := by simp [ByteArray.size]
  have hcs : l.length ≤ (bytesCells w 5 ⟨l.toArray⟩).size := by simp [bytesCells]
  rw [hs] at h
  refine ⟨_, bytesWorld w 5 ⟨l.toArray⟩, h, ⟨rfl, rfl, rfl, by rw [bytesWorld_size]; omega, fun k hk => bytesWorld_at_old w _ _ k hk⟩, ⟨_, _, _, bytesWorld_at_new w _ _, hcs, ?_, hcs⟩, ?_, bytesWorld_size w _ _⟩
  · simp [bytesCells, bcells, cell8]
  · unfold grownCap
    simp [Question.cut]
end Go.Proofs.YtbjbljfmcpidmaaGreatDoor

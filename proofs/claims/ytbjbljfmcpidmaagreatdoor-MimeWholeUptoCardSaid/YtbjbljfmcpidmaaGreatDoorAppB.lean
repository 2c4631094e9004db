/- append([]byte(s), b...). -/
import Derived.Test.YtbjbljfmcpidmaaGreatDoorBytes
import Derived.Test.YtbjbljfmcpidmaaGreatDoorApp
import Derived.ArgAppend
import Derived.Lib.SlFresh
namespace Go.Proofs.YtbjbljfmcpidmaaGreatDoor
open Go.RowKit Go.Lib Go.Shelf
/-- Block g holds the bytes l; so many places may be written. -/
def BCap (w : World) (g : Nat) (l : List UInt8) (cap : Nat) : Prop :=
  ∃ cur e fr, w.heap[g]? = some (.cells cur e fr) ∧ l.length ≤ cap ∧ cap ≤ cur.size ∧ cur.toList.take l.length = bcells l ∧ cap ≤ fr.1
theorem BCap.row {w : World} {g : Nat} {l : List UInt8} {cap : Nat} (h : BCap w g l cap) : BRow w g l := by
  obtain ⟨cur, e, fr, h1, h2, h3, h4, h5⟩ := h
  exact ⟨cur, e, fr, h1, by omega, h4, by omega⟩
theorem BCap.below {w w' : World} {g : Nat} {l : List UInt8} {cap : Nat} (h : BCap w g l cap) (hb : Below w.heap.size w w') : BCap w' g l cap := by
  have hlt := h.row.lt
  obtain ⟨cur, e, fr, h, h2⟩ := h
  exact ⟨cur, e, fr, by rw [hb.block g hlt]; exact h, h2⟩
theorem str_cap (l : List UInt8) (w : World) : ∃ cap w', (convert 9 26 (.string ⟨l.toArray⟩)).run Tryz.prog w = .ok (.slice (some ⟨w.heap.size, 0, none⟩) l.length cap) w' ∧ Below w.heap.size w w' ∧ BCap w' w.heap.size l cap ∧ l.length ≤ cap ∧ w'.heap.size = w.heap.size + 1 := by
  have h := Lib.run_convert_string_bytes (P := Tryz.prog) w 9 26 5 ⟨l.toArray⟩ Tryz.underlying9 Tryz.underlying26 Tryz.underlying5
  have hs : (⟨l.toArray⟩ : ByteArray).size = l.length := by simp [ByteArray.size]
  have hg := grownCap_ge w l.length 0 5
  have hcs : (bytesCells w 5 ⟨l.toArray⟩).size = grownCap w l.length 0 5 := by
    simp [bytesCells, hs]
    omega
  rw [hs] at h
  refine ⟨_, bytesWorld w 5 ⟨l.toArray⟩, h, ⟨rfl, rfl, rfl, by rw [bytesWorld_size]; omega, fun k hk => bytesWorld_at_old w _ _ k hk⟩, ⟨_, _, _, bytesWorld_at_new w _ _, hg, by rw [hcs]; exact Nat.le_refl _, ?_, by rw [hcs]; exact Nat.le_refl _⟩, hg, bytesWorld_size w _ _⟩
  simp [bytesCells, bcells, cell8]
theorem below_setCells (B b : Nat) (hb : B ≤ b) : ∀ (vs : List Value) (o : Nat) (w : World), Below B w (w.setCells b o vs)
  | [], _, w => Below.refl _ _
  | v :: vs, o, w => by
    have h := below_setCells B b hb vs (o + 1) (w.setCell ⟨b, o, none⟩ v)
    exact ((Below.refl B w).setCell (p := ⟨b, o, none⟩) hb v).trans h
theorem size_setCells (b : Nat) : ∀ (vs : List Value) (o : Nat) (w : World), (w.setCells b o vs).heap.size = w.heap.size
  | [], _, _ => rfl
  | v :: vs, o, w => by
    have h := size_setCells b vs (o + 1) (w.setCell ⟨b, o, none⟩ v)
    exact h.trans (by simp)
theorem infoB : (Tryz.prog.info? 5).map (fun i => (i.zero, i.size, i.bytes)) = some (some (Value.int IntKind.u8 0), 1, 1) := by kernel_rfl
/-- A slice of bytes that is no nil, its bytes known. -/
def BSl (w : World) (l : List UInt8) (v : Value) : Prop := ∃ ad c, v = .slice (some ad) l.length c ∧ RowIn w (some ad) (bcells l) ∧ l.length ≤ c
theorem app_bytes (W : World) (B g cap : Nat) (l m : List UInt8) (A : Option Addr) (c : Nat) (h : BCap W g l cap) (hr : RowIn W A (bcells m)) (hB : B ≤ g) (hl : l.length + m.length ≤ 4000000) :
    ∃ v' w', (Builtin.append_ #[26, 26] 26 #[.slice (some ⟨g, 0, none⟩) l.length cap, .slice A m.length c]).run Tryz.prog W = .ok v' w' ∧ BSl w' (l ++ m) v' ∧ Below B W w' := by
  obtain ⟨i0, hi, hz0, hz1, hz2⟩ := info_parts infoB
  have hlt := h.row.lt
  rcases A with _ | ad
  · have hm : m = [] := by
      cases m with
      | nil => rfl
      | cons a t => obtain ⟨_, _, e, _⟩ := hr (by simp [bcells]); cases e
    subst hm
    have hcap : l.length ≤ cap := by obtain ⟨_, _, _, _, h, _⟩ := h; exact h
    refine ⟨.slice (some ⟨g, 0, none⟩) l.length cap, W, ?_, ⟨⟨g, 0, none⟩, cap, by simp, by simpa using h.row.rowIn, by simpa using hcap⟩, Below.refl _ _⟩
    simp [Builtin.append_, run_underlying Tryz.underlying26, sizeOf, typeInfo, hi, Builtin.lenOf, Builtin.firstCells, hcap, storeCells]
  · have hrow := h.row.rowIn
    by_cases hroom : l.length + m.length ≤ cap
    · have hbl : (bcells m).length = m.length := by simp [bcells]
      have hsp : ∀ j, j < (bcells m).length → (W.cell? ⟨g, 0 + l.length * i0.size + j, none⟩).isSome = true ∧ W.frozen? ⟨g, 0 + l.length * i0.size + j, none⟩ = false := by
        intro j hj
        obtain ⟨cur, e, fr, h1, h2, h3, h4, h5⟩ := h
        rw [hz1, cell_of_row W g _ cur e fr h1]
        refine ⟨by rw [Array.getElem?_eq_getElem (by omega)]; rfl, ?_⟩
        simp only [World.frozen?, h1]
        simp
        omega
      have hrun := run_append_room_cells (P := Tryz.prog) W 26 26 5 i0 Tryz.underlying26 hi g 0 l.length cap ad m.length c (bcells m) (by rw [hbl, hz1]; omega) (row_cell hr) (cells_one m) hroom (fun j hj => (hsp j hj).1) (fun j hj => (hsp j hj).2)
      have hin := World.cell?_setCells_in g (bcells m) (0 + l.length * i0.size) W (fun j hj => (hsp j hj).1)
      refine ⟨_, _, hrun, ⟨⟨g, 0, none⟩, cap, by simp, fun _ => ⟨g, 0, rfl, by rw [size_setCells]; exact hlt, fun j u hu => ?_⟩, by simpa using hroom⟩, below_setCells B g hB _ _ _⟩
      rcases Nat.lt_or_ge j l.length with hj | hj
      · rw [World.cell?_setCells_out g _ _ W ⟨g, 0 + j, none⟩ (fun _ _ => .inl (by show 0 + j < 0 + l.length * i0.size; rw [hz1]; omega))]
        refine hrow.cell j u ?_
        rw [← hu]
        simp [bcells, List.getElem?_append, hj]
      · have hj2 : j - l.length < (bcells m).length := by
          have := (List.getElem?_eq_some_iff.1 hu).1
          simp [bcells] at this ⊢
          omega
        have h1 := hin (j - l.length) hj2
        rw [show 0 + l.length * i0.size + (j - l.length) = 0 + j from by rw [hz1]; omega] at h1
        rw [h1, ← hu]
        simp [bcells, List.getElem?_append_right, hj]
        rw [hbl] at hj2
        rw [List.getElem?_eq_getElem hj2]
        rfl
    · obtain ⟨v', w', hrun, r1, r2⟩ := run_append_arg_grows (P := Tryz.prog) W 26 26 5 i0 (.int .u8 0) 1 1 Tryz.underlying26 hi hz0 hz1 hz2 rfl (by decide) ⟨g, 0, none⟩ l.length cap (bcells l) (by simp [bcells])
        (row_cell hrow) ad m.length c (bcells m) (by simp [bcells]) (row_cell hr) (by omega) (by unfold maxLen; omega) (by omega)
      obtain ⟨A', c', hv, hc', _, hrow', hA'⟩ := owns_open r1
      subst hv
      rcases A' with _ | ad'
      · have := hA' rfl
        exact absurd hroom (by omega)
      · refine ⟨_, _, hrun, ⟨ad', c', by simp, by simpa [bcells] using hrow', by simpa using hc'⟩, (Below.refl B W).grown r2 (Nat.le_of_lt (Nat.lt_of_le_of_lt hB hlt)) (by simp)⟩
end Go.Proofs.YtbjbljfmcpidmaaGreatDoor

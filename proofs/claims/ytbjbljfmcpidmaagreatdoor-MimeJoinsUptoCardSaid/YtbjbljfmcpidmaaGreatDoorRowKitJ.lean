/- What the row of MimeJoins uses: how rows of bytes come. -/
import Derived.Test.YtbjbljfmcpidmaaGreatDoorRowKitM
import Derived.Deep.Slices
namespace Go.Proofs.YtbjbljfmcpidmaaGreatDoor
open Go.ChangeShapes Go.WideShapes Go.ChangeAt Go.RowKit Go.Lib Go.Shelf Go.Deep
theorem bulk_rows {H : Type} (L : List (Option Addr × Nat × List UInt8)) (D : List (DataW H)) (hl : D.length = L.length) (h : ∀ i (hi : i < L.length), (L[i]).2.2.length + 1 ≤ Rows.uptoBulk (D[i]'(by omega))) : (L.map fun r => r.2.2.length).sum + L.length ≤ Rows.uptoBulkAll D := by
  induction L generalizing D with
  | nil => simp
  | cons r L ih =>
    cases D with
    | nil => simp at hl
    | cons d D =>
      have h0 := h 0 (by simp)
      have h1 := ih D (by simpa using hl) (fun i hi => h (i + 1) (by simp; omega))
      simp only [List.getElem_cons_zero] at h0
      simp only [List.map_cons, List.sum_cons, List.length_cons, Rows.uptoBulkAll]
      omega
theorem cells26 : Tryz.prog.cellsOf 26 = 1 := by kernel_rfl
/-- A []byte that came in, with one more. -/
theorem open_bytes1 {H : Type} {enc : TypeId × Value → H} {W : World} {a0 : Option Addr} {len cap fuel : Nat} {x : DataW H × List MemPlace}
    (hf : DataW.trod enc Tryz.prog W 0 (fun _ => true) true fuel 26 [.slice a0 len cap] = some x) : len + 1 ≤ Rows.uptoBulk x.1 := by
  rcases open_slice Tryz.underlying26 hf with ⟨hcs, hx⟩ | ⟨a, len', cap', m, n, D, Pl, hcs, _, hl, hm, hmm, hx, hi⟩
  · simp at hcs
    obtain ⟨rfl, rfl, rfl⟩ := hcs
    exact bulk_one _
  · simp at hcs
    obtain ⟨rfl, rfl, rfl⟩ := hcs
    subst hx
    refine Nat.le_trans ?_ (bulk_slice _ _)
    simp
/-- A [][]byte that came in. -/
theorem open_rowsB {H : Type} {enc : TypeId × Value → H} {W : World} {a0 : Option Addr} {len cap fuel : Nat} {x : DataW H × List MemPlace}
    (hf : DataW.trod enc Tryz.prog W 0 (fun _ => true) true fuel 43 [.slice a0 len cap] = some x) :
    ∃ L : List (Option Addr × Nat × List UInt8), L.length = len ∧ RowIn W a0 (L.map fun r => .slice r.1 r.2.2.length r.2.1) ∧ (∀ r ∈ L, RowIn W r.1 (bcells r.2.2)) ∧ (L.map fun r => r.2.2.length).sum + len ≤ Rows.uptoBulk x.1 := by
  rcases open_slice1 Tryz.underlying43 cells26 hf with ⟨hcs, hx⟩ | ⟨a, len', cap', m, n, V, D, Pl, hcs, _, hl, hm, hmm, hx, hi⟩
  · simp at hcs
    obtain ⟨rfl, rfl, rfl⟩ := hcs
    exact ⟨[], rfl, RowIn.nil _ _, by simp, Nat.zero_le _⟩
  · simp at hcs
    obtain ⟨rfl, rfl, rfl⟩ := hcs
    simp only [if_true] at hmm
    subst hmm
    subst hx
    obtain ⟨F, hF⟩ := choose_lt (n := len) (α := Option Addr × Nat × List UInt8) (p := fun i r => W.cell? (a.add i) = some (.slice r.1 r.2.2.length r.2.1) ∧ RowIn W r.1 (bcells r.2.2) ∧ r.2.2.length + 1 ≤ Rows.uptoBulk (D i)) (fun i hil => by
      obtain ⟨h1, h2⟩ := hi i (by omega)
      have h3 : ∃ a1 l1 c1, V i = .slice a1 l1 c1 := by
        rcases open_slice Tryz.underlying26 h2 with ⟨hcs, _⟩ | ⟨a', len', cap', _, _, _, _, hcs, _⟩
        · exact ⟨_, _, _, by simpa using hcs⟩
        · exact ⟨_, _, _, by simpa using hcs⟩
      obtain ⟨a1, l1, c1, h3⟩ := h3
      rw [h3] at h1 h2
      obtain ⟨b, rfl, hr, _⟩ := open_bytes h2
      exact ⟨(a1, c1, b), h1, hr, open_bytes1 h2⟩)
    refine ⟨(List.range len).map F, by simp, fun hne => ?_, ?_, ?_⟩
    · have hpos : 0 < len := by
        rcases Nat.eq_zero_or_pos len with h0 | h0
        · subst h0; simp at hne
        · exact h0
      have h0 := (hF 0 hpos).1
      obtain ⟨b, off, spot⟩ := a
      have hspot : spot = Option.none := by simpa [Addr.add] using World.cell?_spot h0
      subst hspot
      have hb : b < W.heap.size := World.block_lt_of_cell? _ _ h0
      refine ⟨b, off, rfl, by simpa [Addr.add] using hb, fun j u hu => ?_⟩
      have hjl : j < len := by
        have := (List.getElem?_eq_some_iff.1 hu).1
        simpa using this
      have h1 := (hF j hjl).1
      rw [WideShapes.add_plain] at h1
      rw [h1, ← hu]
      simp [hjl]
    · intro r hr
      obtain ⟨i, hi1, rfl⟩ := List.mem_map.1 hr
      exact (hF i (List.mem_range.1 hi1)).2.1
    · have h1 := bulk_rows (H := H) ((List.range len).map F) ((List.range len).map D) (by simp) (fun i hi1 => by
        simp at hi1
        simpa using (hF i hi1).2.2)
      simp only [Rows.uptoBulk]
      simp at h1 ⊢
      omega
end Go.Proofs.YtbjbljfmcpidmaaGreatDoor

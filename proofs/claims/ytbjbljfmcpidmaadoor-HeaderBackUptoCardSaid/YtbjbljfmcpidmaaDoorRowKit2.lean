/- How other arguments come: slices of fields, of bools; strings. -/
import Derived.Test.YtbjbljfmcpidmaaDoorRowKit
import Derived.Test.YtbjbljfmcpidmaaDoorBack
import Derived.Deep.Slices
import Derived.Deep.Fields
import Derived.Deep.Grids
import Derived.ChangeMaps5
namespace Go.Proofs.YtbjbljfmcpidmaaDoor
open Go.ChangeShapes Go.WideShapes Go.ChangeAt Go.RowKit Go.Lib Go.Shelf Go.Deep
section
variable {H : Type} {enc : TypeId × Value → H} {P : Program} {w : World} {base : Nat} {spare : Nat → Bool} {held : Bool}
theorem open_slice_fields {t e : TypeId} {fs : Array Field} {fuel : Nat} {cs : List Value} {x : DataW H × List MemPlace} (ht : P.underlying t = some (.slice e)) (he : P.underlying e = some (.struct fs))
    (hone : oneCellFields P fs = true) (hC : P.cellsOf e = fs.size) (h : DataW.trod enc P w base spare held fuel t cs = some x) :
    (cs = [.slice none 0 0] ∧ x = (.nil, [])) ∨
    ∃ (a : Addr) (len cap m : Nat) (D : Nat → DataW H) (Pl : Nat → List MemPlace), cs = [.slice (some a) len cap] ∧ base ≤ a.block ∧ len ≤ cap ∧ cap ≤ maxLen ∧ m = (if spare a.block then cap else len) ∧
      x = (.slice ((List.range len).map D) ((List.range (m - len)).map fun j => D (len + j)), MemPlace.row a (m * fs.size) ++ (List.range m).flatMap Pl) ∧
      ∀ i, i < m → ∃ (ys : List (DataW H × List MemPlace)) (n : Nat), D i = .agg (ys.map (·.1)) ∧ Pl i = ys.flatMap (·.2) ∧ ys.length = fs.size ∧
        ∀ (j : Nat) (f : Field), fs[j]? = some f → ∃ (v : Value) (y : DataW H × List MemPlace), w.cell? (a.add (i * fs.size + j)) = some v ∧ ys[j]? = some y ∧ DataW.trod enc P w base spare held n f.type [v] = some y := by
  rcases open_slice ht h with h0 | ⟨a, len, cap, m, n, D, Pl, hcs, hb, hl, hm, hmm, hx, hi⟩
  · exact .inl h0
  · refine .inr ⟨a, len, cap, m, D, Pl, hcs, hb, hl, hm, hmm, by rw [hC] at hx; exact hx, fun i him => ?_⟩
    obtain ⟨cs', hc, ht'⟩ := hi i him
    rw [hC] at hc
    obtain ⟨ys, n', _, hy, hlen, hyl, hf⟩ := DataW.trod_struct he ht'
    obtain ⟨_, hcl, hat⟩ := World.cells?_some hc
    simp only [Prod.mk.injEq] at hy
    refine ⟨ys, n', hy.1, hy.2, hyl, fun j f hj => ?_⟩
    obtain ⟨ho, hk⟩ := hone_of hone j f hj
    have hjl : j < fs.size := (Array.getElem?_eq_some_iff.1 hj).1
    have hcell := hat j hjl
    have hv : cs'[j]? = some (cs'[j]'(by omega)) := List.getElem?_eq_getElem (by omega)
    have h1 := hf j f hj
    rw [ho, hk] at h1
    have hone' : (cs'.drop j).take 1 = [cs'[j]'(by omega)] := by
      rw [List.drop_eq_getElem_cons (by omega)]
      rfl
    rw [hone'] at h1
    have hys : ys[j]? = some (ys[j]'(by omega)) := List.getElem?_eq_getElem (by omega)
    refine ⟨_, _, ?_, hys, h1.trans hys⟩
    rw [← Go.Deep.add_add, hcell, hv]
end
theorem bulk_fields {H : Type} (L : List Fld) : sizeF L + L.length ≤ Rows.uptoBulkAll (H := H) (L.map fun f => .agg [.lit (.string f.1), .lit (.string f.2)]) := by
  induction L with
  | nil => simp [sizeF]
  | cons f l ih =>
    simp only [sizeF, List.map_cons, List.sum_cons, List.length_cons, Rows.uptoBulkAll, Rows.uptoBulk] at ih ⊢
    omega
theorem str_list (s : ByteArray) : s = ⟨s.data.toList.toArray⟩ := by simp
/-- A []api.Field that came in. -/
theorem open_fields {H : Type} {enc : TypeId × Value → H} {W : World} {a0 : Option Addr} {len cap fuel : Nat} {x : DataW H × List MemPlace}
    (hf : DataW.trod enc Tryd.prog W 0 (fun _ => true) true fuel 24 [.slice a0 len cap] = some x) :
    ∃ L : List Fld, L.length = len ∧ RowIn W a0 (fcells L) ∧ sizeF L + len ≤ Rows.uptoBulk x.1 := by
  rcases open_slice_fields Tryd.underlying24 Tryd.underlying28 (by kernel_rfl) (by kernel_rfl) hf with ⟨hcs, hx⟩ | ⟨a, len', cap', m, D, Pl, hcs, _, hl, hm, hmm, hx, hi⟩
  · simp at hcs
    obtain ⟨rfl, rfl, rfl⟩ := hcs
    exact ⟨[], rfl, RowIn.nil _ _, Nat.zero_le _⟩
  · simp at hcs
    obtain ⟨rfl, rfl, rfl⟩ := hcs
    simp only [if_true] at hmm
    subst hmm
    subst hx
    obtain ⟨F, hF⟩ := choose_lt (n := len) (α := Fld) (p := fun i f => W.cell? (a.add (i * 2)) = some (.string ⟨f.1.toArray⟩) ∧ W.cell? (a.add (i * 2 + 1)) = some (.string ⟨f.2.toArray⟩) ∧ D i = .agg [.lit (.string f.1), .lit (.string f.2)]) (fun i hil => by
      obtain ⟨ys, n, hD, _, hyl, hj⟩ := hi i (by omega)
      obtain ⟨v0, y0, c0, e0, t0⟩ := hj 0 _ rfl
      obtain ⟨v1, y1, c1, e1, t1⟩ := hj 1 _ rfl
      obtain ⟨s0, h0, d0, _⟩ := DataW.trod_string Tryd.underlying9 t0
      obtain ⟨s1, h1, d1, _⟩ := DataW.trod_string Tryd.underlying9 t1
      simp at h0 h1
      subst h0 h1
      refine ⟨(s0.data.toList, s1.data.toList), by simpa using c0, by simpa using c1, ?_⟩
      match ys, hyl, e0, e1 with
      | [z0, z1], _, e0, e1 =>
        simp at e0 e1
        subst e0 e1 d0 d1
        simpa using hD)
    refine ⟨(List.range len).map F, by simp, fun hne => ?_, ?_⟩
    · have hpos : 0 < len := by
        rcases Nat.eq_zero_or_pos len with h0 | h0
        · subst h0; simp [fcells] at hne
        · exact h0
      have h0 := (hF 0 hpos).1
      obtain ⟨b, off, spot⟩ := a
      have hspot : spot = Option.none := by simpa [Addr.add] using World.cell?_spot h0
      subst hspot
      have hb : b < W.heap.size := World.block_lt_of_cell? _ _ (hF 0 hpos).1
      refine ⟨b, off, rfl, by simpa [Addr.add] using hb, fun j u hu => ?_⟩
      have hjl : j < len * 2 := by
        have := (List.getElem?_eq_some_iff.1 hu).1
        rw [fcells_length] at this
        simpa using this
      have hk : j / 2 < ((List.range len).map F).length := by simp; omega
      have hg := fcells_get ((List.range len).map F) (j / 2) hk
      have hF2 := hF (j / 2) (by omega)
      simp only [List.getElem_map, List.getElem_range] at hg
      rw [add_plain, add_plain] at hF2
      rcases Nat.mod_two_eq_zero_or_one j with hp | hp
      · rw [show 2 * (j / 2) = j from by omega] at hg
        rw [show j / 2 * 2 = j from by omega] at hF2
        rw [hF2.1, ← hu, hg.1]
      · rw [show 2 * (j / 2) + 1 = j from by omega] at hg
        rw [show j / 2 * 2 + 1 = j from by omega] at hF2
        rw [hF2.2.1, ← hu, hg.2]
    · have h1 := bulk_fields (H := H) ((List.range len).map F)
      have e : ((List.range len).map F).map (fun f => DataW.agg (H := H) [.lit (.string f.1), .lit (.string f.2)]) = (List.range len).map D := by
        rw [List.map_map]
        exact List.map_congr_left fun i hi => ((hF i (List.mem_range.1 hi)).2.2).symm
      rw [e] at h1
      simp only [Rows.uptoBulk]
      simp at h1
      omega
/-- A []bool that came in. -/
theorem open_boolsB {H : Type} {enc : TypeId × Value → H} {W : World} {a0 : Option Addr} {len cap fuel : Nat} {x : DataW H × List MemPlace}
    (hf : DataW.trod enc Tryd.prog W 0 (fun _ => true) true fuel 32 [.slice a0 len cap] = some x) :
    ∃ B : List Bool, B.length = len ∧ RowIn W a0 (B.map Value.bool) ∧ len ≤ Rows.uptoBulk x.1 := by
  rcases open_bools Tryd.underlying32 Tryd.underlying4 (by kernel_rfl) hf with ⟨hcs, hx⟩ | ⟨a, len', cap', B, hcs, _, hl, hm, hx, hc⟩
  · simp at hcs
    obtain ⟨rfl, rfl, rfl⟩ := hcs
    exact ⟨[], rfl, RowIn.nil _ _, Nat.zero_le _⟩
  · simp at hcs
    obtain ⟨rfl, rfl, rfl⟩ := hcs
    subst hx
    refine ⟨(List.range len).map B, by simp, fun hne => ?_, ?_⟩
    · have hpos : 0 < len := by
        rcases Nat.eq_zero_or_pos len with h0 | h0
        · subst h0; simp at hne
        · exact h0
      have h0 := hc 0 (by omega)
      obtain ⟨b, off, spot⟩ := a
      have hspot : spot = Option.none := by simpa [Addr.add] using World.cell?_spot h0
      subst hspot
      have hb : b < W.heap.size := World.block_lt_of_cell? _ _ h0
      refine ⟨b, off, rfl, by simpa [Addr.add] using hb, fun j u hu => ?_⟩
      have hjl : j < len := by
        have := (List.getElem?_eq_some_iff.1 hu).1
        simpa using this
      have h1 := hc j (by omega)
      rw [add_plain] at h1
      rw [h1, ← hu]
      simp [hjl]
    · simp only [boolRow]
      refine Nat.le_trans ?_ (bulk_slice _ _)
      simp
      omega
end Go.Proofs.YtbjbljfmcpidmaaDoor

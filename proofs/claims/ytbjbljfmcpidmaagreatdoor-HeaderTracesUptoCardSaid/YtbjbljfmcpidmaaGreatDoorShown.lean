/- shown. -/
import Derived.Test.YtbjbljfmcpidmaaGreatDoorShownEv
namespace Go.Proofs.YtbjbljfmcpidmaaGreatDoor
open Go.RowKit Go.Lib Go.Shelf
theorem row_new (w : World) (cs : List Value) (t : Nat) (fr : Nat × Nat) : RowIn (w.alloc (.cells cs.toArray t fr)) (some ⟨w.heap.size, 0, none⟩) cs := fun _ =>
  ⟨w.heap.size, 0, rfl, by simp, fun j u hu => by
    have h : (w.alloc (.cells cs.toArray t fr)).heap[w.heap.size]? = some (.cells cs.toArray t fr) := heap_alloc_new w _
    rw [Lib.cell_of_heap h]
    simpa using hu⟩
theorem gl_alloc {w : World} (h : Gl w) (o : Obj) : Gl (w.alloc o) := h.below ((Below.refl _ _).alloc (Nat.le_refl _) _)
theorem pdone_at {b : List UInt8} {l : List Fld} {n : Nat} {w : World} {e : Ending} {w' : World} (h : PDone b w e w') (he : hdr b = (l, n)) :
    ∃ A c, e = .returned (.tuple #[.slice A l.length c, .int .i64 (n : Int)]) ∧ RowIn w' A (fcells l) ∧ Below w.heap.size w w' := by
  obtain ⟨v, rfl, hown, hb⟩ := h
  rw [he] at hown ⊢
  obtain ⟨A, c, rfl, _, _, hrow, _⟩ := owns_open hown
  exact ⟨A, c, rfl, hrow, hb⟩
theorem shA_any (w : World) (hg : Gl w) : Calls Tryz.prog 32 #[.slice (some ⟨w.heap.size, 0, none⟩) 13 13] (w.alloc (.cells #[.int .u8 65, .int .u8 58, .int .u8 32, .int .u8 98, .int .u8 13, .int .u8 10, .int .u8 32, .int .u8 99, .int .u8 13, .int .u8 10, .int .u8 13, .int .u8 10, .int .u8 120] 5 (13, 14))) fun e w' => ∃ A c, e = .returned (.tuple #[.slice A 1 c, .int .i64 12]) ∧ RowIn w' A (fcells [([65], [98, 32, 99])]) ∧ Below w.heap.size w w' := by
  refine (parse_any (some ⟨w.heap.size, 0, none⟩) 13 shA (w.alloc (.cells (bcells shA).toArray 5 (13, 14))) (by decide) (by decide) (by simp) (row_new w _ _ _) (gl_alloc hg _)).mono ?_
  intro e w' h
  obtain ⟨A, c, he, hr, hb⟩ := pdone_at h ev1
  exact ⟨A, c, he, hr, ((Below.refl _ _).alloc (Nat.le_refl _) _).trans (hb.mono (by simp))⟩
theorem shB_any (w : World) (hg : Gl w) : Calls Tryz.prog 32 #[.slice (some ⟨w.heap.size, 0, none⟩) 7 7] (w.alloc (.cells #[.int .u8 65, .int .u8 58, .int .u8 32, .int .u8 98, .int .u8 13, .int .u8 10, .int .u8 120] 5 (7, 8))) fun e w' => ∃ A c, e = .returned (.tuple #[.slice A 1 c, .int .i64 6]) ∧ RowIn w' A (fcells [([65], [98])]) ∧ Below w.heap.size w w' := by
  refine (parse_any (some ⟨w.heap.size, 0, none⟩) 7 shB (w.alloc (.cells (bcells shB).toArray 5 (7, 8))) (by decide) (by decide) (by simp) (row_new w _ _ _) (gl_alloc hg _)).mono ?_
  intro e w' h
  obtain ⟨A, c, he, hr, hb⟩ := pdone_at h ev2
  exact ⟨A, c, he, hr, ((Below.refl _ _).alloc (Nat.le_refl _) _).trans (hb.mono (by simp))⟩
theorem shC_any (w : World) (hg : Gl w) : Calls Tryz.prog 32 #[.slice (some ⟨w.heap.size, 0, none⟩) 5 5] (w.alloc (.cells #[.int .u8 32, .int .u8 97, .int .u8 58, .int .u8 32, .int .u8 98] 5 (5, 6))) fun e w' => ∃ A c, e = .returned (.tuple #[.slice A 0 c, .int .i64 0]) ∧ Below w.heap.size w w' := by
  refine (parse_any (some ⟨w.heap.size, 0, none⟩) 5 shC (w.alloc (.cells (bcells shC).toArray 5 (5, 6))) (by decide) (by decide) (by simp) (row_new w _ _ _) (gl_alloc hg _)).mono ?_
  intro e w' h
  obtain ⟨A, c, he, hr, hb⟩ := pdone_at h ev3
  exact ⟨A, c, he, ((Below.refl _ _).alloc (Nat.le_refl _) _).trans (hb.mono (by simp))⟩
theorem shD_any (w : World) (hg : Gl w) : Calls Tryz.prog 33 #[.slice (some ⟨w.heap.size, 0, none⟩) 1 1] (w.alloc (.cells (fcells shD).toArray 67)) fun e w' => e = .returned (.tuple #[.string ⟨#[77, 85, 76, 84, 73, 80, 65, 82, 84]⟩, .string ⟨#[77, 73, 88, 69, 68]⟩, .string ⟨#[97, 32, 98]⟩]) ∧ Below w.heap.size w w' := by
  refine (kind_any (some ⟨w.heap.size, 0, none⟩) 1 shD (w.alloc (.cells (fcells shD).toArray 67)) (row_new w _ _ _) (by intro f hf; simp [shD] at hf; subst hf; decide) (by decide) (gl_alloc hg _)).mono ?_
  rintro e w' ⟨rfl, hb⟩
  rw [ev8]
  exact ⟨rfl, ((Below.refl _ _).alloc (Nat.le_refl _) _).trans (hb.mono (by simp))⟩
theorem shE_any (w : World) (hg : Gl w) : Calls Tryz.prog 33 #[.slice (some ⟨w.heap.size, 0, none⟩) 1 1] (w.alloc (.cells (fcells shE).toArray 67)) fun e w' => e = .returned (.tuple #[.string ⟨#[84, 69, 88, 84]⟩, .string ⟨#[80, 76, 65, 73, 78]⟩, .string ⟨#[]⟩]) ∧ Below w.heap.size w w' := by
  refine (kind_any (some ⟨w.heap.size, 0, none⟩) 1 shE (w.alloc (.cells (fcells shE).toArray 67)) (row_new w _ _ _) (by intro f hf; simp [shE] at hf; subst hf; decide) (by decide) (gl_alloc hg _)).mono ?_
  rintro e w' ⟨rfl, hb⟩
  rw [ev9]
  exact ⟨rfl, ((Below.refl _ _).alloc (Nat.le_refl _) _).trans (hb.mono (by simp))⟩
set_option maxHeartbeats 4000000 in
set_option maxRecDepth 100000 in
theorem shown_any (w : World) (hg : Gl w) : Calls Tryz.prog 13 #[] w fun e w' => e = .returned (.bool true) ∧ Below w.heap.size w w' := by
  have kc := fun (w : World) (C : Array Value) (n c : Nat) => Lib.run_convert_bytes_const (P := Tryz.prog) w 26 5 C n c Tryz.underlying26 Tryz.underlying5
  go_enter Tryz.func13, Tryz.ntmps13
  go_wp2_with fail
  refine (shA_any w hg).mono ?_
  rintro e w1 ⟨A1, c1, rfl, hr1, hb1⟩
  have hg1 := hg.below hb1
  go_wp2_with fail
  refine (shB_any w1 hg1).mono ?_
  rintro e w2 ⟨A2, c2, rfl, hr2, hb2⟩
  have hg2 := hg1.below hb2
  go_wp2_with fail
  refine (shC_any w2 hg2).mono ?_
  rintro e w3 ⟨A3, c3, rfl, hb3⟩
  have hg3 := hg2.below hb3
  go_wp2_with fail
  refine (shD_any w3 hg3).mono ?_
  rintro e w4 ⟨rfl, hb4⟩
  have hg4 := hg3.below hb4
  go_wp2_with fail
  refine (shE_any w4 hg4).mono ?_
  rintro e w5 ⟨rfl, hb5⟩
  have hb15 : Below w1.heap.size w1 w5 := hb2.trans ((hb3.trans ((hb4.trans (hb5.mono hb4.size)).mono hb3.size)).mono hb2.size)
  have hb05 := hb1.trans (hb15.mono hb1.size)
  have hr5 := hr1.below hb15
  obtain ⟨b, o, rfl, hbl⟩ := hr5.addr (by simp [fcells, fcell])
  have hcc := fcells_row hr5 0 (by simp)
  simp at hcc
  obtain ⟨hc1, hc2⟩ := hcc
  go_wp2
  go_ret
  exact ⟨rfl, hb05⟩
end Go.Proofs.YtbjbljfmcpidmaaGreatDoor

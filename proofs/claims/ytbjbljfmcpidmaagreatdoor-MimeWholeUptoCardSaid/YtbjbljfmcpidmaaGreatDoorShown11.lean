/- law11: the document's examples. -/
import Derived.Test.YtbjbljfmcpidmaaGreatDoorStructP
import Derived.Deep.Cut
import Derived.Great.BuildSlice
namespace Go.Proofs.YtbjbljfmcpidmaaGreatDoor
open Go.RowKit Go.Lib Go.Shelf
def exM : List UInt8 := [67, 111, 110, 116, 101, 110, 116, 45, 84, 121, 112, 101, 58, 32, 109, 117, 108, 116, 105, 112, 97, 114, 116, 47, 109, 105, 120, 101, 100, 59, 32, 98, 111, 117, 110, 100, 97, 114, 121, 61, 120, 13, 10, 13, 10, 45, 45, 120, 13, 10, 13, 10, 97, 13, 10, 45, 45, 120, 13, 10, 67, 111, 110, 116, 101, 110, 116, 45, 84, 121, 112, 101, 58, 32, 105, 109, 97, 103, 101, 47, 112, 110, 103, 13, 10, 13, 10, 98, 13, 10, 45, 45, 120, 45, 45, 13, 10]
def exA : List UInt8 := [65, 58, 32, 98, 13, 10, 13, 10, 120, 13, 10]
def exS : List UInt8 := [40, 40, 34, 84, 69, 88, 84, 34, 32, 34, 80, 76, 65, 73, 78, 34, 32, 78, 73, 76, 32, 78, 73, 76, 32, 78, 73, 76, 32, 34, 55, 66, 73, 84, 34, 32, 49, 32, 48, 41, 40, 34, 73, 77, 65, 71, 69, 34, 32, 34, 80, 78, 71, 34, 32, 78, 73, 76, 32, 78, 73, 76, 32, 78, 73, 76, 32, 34, 55, 66, 73, 84, 34, 32, 49, 41, 32, 34, 77, 73, 88, 69, 68, 34, 41]
def exT : List UInt8 := [40, 34, 84, 69, 88, 84, 34, 32, 34, 80, 76, 65, 73, 78, 34, 32, 78, 73, 76, 32, 78, 73, 76, 32, 78, 73, 76, 32, 34, 55, 66, 73, 84, 34, 32, 51, 32, 49, 41]
def exH : List UInt8 := [67, 111, 110, 116, 101, 110, 116, 45, 84, 121, 112, 101, 58, 32, 105, 109, 97, 103, 101, 47, 112, 110, 103, 13, 10, 13, 10]
theorem ex_mpart : mpart exM = .mk mpT [77, 73, 88, 69, 68] [120] sevenT 0 45 97 [.mk kText kPlain [] sevenT 50 52 53 [], .mk [73, 77, 65, 71, 69] [80, 78, 71] [] sevenT 60 87 88 []] := by kernel_rfl
theorem ex_apart : mpart exA = .mk kText kPlain [] sevenT 0 8 11 [] := by kernel_rfl
theorem ex_struct : structS exM = exS := by
  unfold structS
  rw [ex_mpart]
  kernel_rfl
theorem ex_astruct : structS exA = exT := by
  unfold structS
  rw [ex_apart]
  kernel_rfl
theorem ex_sec1 : secS exM [1] 0 = ([97], 0) := by
  unfold secS
  rw [ex_mpart]
  kernel_rfl
theorem ex_sec2 : secS exM [2] 3 = (exH, 0) := by
  unfold secS
  rw [ex_mpart]
  kernel_rfl
theorem ex_sec3 : secS exM [3] 0 = ([], 110) := by
  unfold secS
  rw [ex_mpart]
  kernel_rfl
theorem row_mark (w : World) (cs : List Value) (t : Nat) (fr : Nat × Nat) : RowIn (w.alloc (.cells cs.toArray t fr)) (some ⟨w.heap.size, 0, none⟩) cs := fun _ =>
  ⟨w.heap.size, 0, rfl, by simp, fun j u hu => by
    have h : (w.alloc (.cells cs.toArray t fr)).heap[w.heap.size]? = some (.cells cs.toArray t fr) := heap_alloc_new w _
    rw [Lib.cell_of_heap h]
    simpa using hu⟩
def exI : List Int := [67, 111, 110, 116, 101, 110, 116, 45, 84, 121, 112, 101, 58, 32, 109, 117, 108, 116, 105, 112, 97, 114, 116, 47, 109, 105, 120, 101, 100, 59, 32, 98, 111, 117, 110, 100, 97, 114, 121, 61, 120, 13, 10, 13, 10, 45, 45, 120, 13, 10, 13, 10, 97, 13, 10, 45, 45, 120, 13, 10, 67, 111, 110, 116, 101, 110, 116, 45, 84, 121, 112, 101, 58, 32, 105, 109, 97, 103, 101, 47, 112, 110, 103, 13, 10, 13, 10, 98, 13, 10, 45, 45, 120, 45, 45, 13, 10]
def exC : Array Value := (exI.map (Value.int .u8)).toArray
theorem exC_eq : exC = (bcells exM).toArray := by kernel_rfl
def exW (w : World) : World := w.alloc (.cells exC 5 (exC.size, exC.size + 1))
theorem exW_row (w : World) : RowIn (exW w) (some ⟨w.heap.size, 0, none⟩) (bcells exM) := by
  unfold exW
  rw [exC_eq]
  exact row_mark w (bcells exM) 5 _
theorem exW_below (w : World) : Below w.heap.size w (exW w) := (Below.refl _ _).alloc (Nat.le_refl _) _
theorem sec_at (w W : World) (k what : Int) (hg : Gl w) (hb : Below w.heap.size w W) (hr : RowIn W (some ⟨w.heap.size, 0, none⟩) (bcells exM)) (B : Nat) (hk : W.cell? ⟨B, 0, none⟩ = some (.int .i64 k)) (hB : B < W.heap.size) (hkb : -9223372036854775808 ≤ k ∧ k ≤ 9223372036854775807) :
    Calls Tryz.prog 22 #[.slice (some ⟨w.heap.size, 0, none⟩) 97 97, .slice (some ⟨B, 0, none⟩) 1 1, .int .i64 what] W (SPost (secS exM [k] what) W) :=
  section_any (some ⟨w.heap.size, 0, none⟩) 97 exM (some ⟨B, 0, none⟩) 1 [k] what W (by decide) (by decide) (fun h => by cases h) hr (hg.below hb) (fun _ => ⟨B, 0, rfl, hB, fun j u hu => by
    cases j with
    | zero => simp [icells] at hu; subst hu; exact hk
    | succ j => simp [icells] at hu⟩) (by simp) (fun x hx => by rw [List.mem_singleton.1 hx]; exact hkb)
theorem sec_at2 {w w1 : World} (k what : Int) (L : List UInt8) (E : Int) (N : Nat) (hg : Gl w) (hb : Below w.heap.size w w1) (hr : RowIn w1 (some ⟨w.heap.size, 0, none⟩) (bcells exM)) (hkb : -9223372036854775808 ≤ k ∧ k ≤ 9223372036854775807) (hs : secS exM [k] what = (L, E)) (hN : L.length = N) (t : Nat) :
    Calls Tryz.prog 22 #[.slice (some ⟨w.heap.size, 0, none⟩) 97 97, .slice (some ⟨w1.heap.size, 0, none⟩) 1 1, .int .i64 what] (w1.alloc (.cells #[.int .i64 k] t)) fun e w' =>
      ∃ A1 c1, e = .returned (.tuple #[.slice A1 N c1, .int .i64 E]) ∧ RowIn w' A1 (bcells L) ∧ Below w1.heap.size w1 w' := by
  have hb2 : Below w1.heap.size w1 (w1.alloc (.cells #[.int .i64 k] t)) := (Below.refl _ _).alloc (Nat.le_refl _) _
  refine (sec_at w _ k what hg (hb.trans (hb2.mono hb.size)) (hr.below hb2) w1.heap.size (cell_of_alloc w1 [.int .i64 k] t _ rfl) (by simp) hkb).mono ?_
  rintro e w' ⟨v, rfl, hown, hb3⟩
  rw [hs] at hown ⊢
  obtain ⟨A1, c1, rfl, _, _, hrow, _⟩ := owns_open hown
  exact ⟨A1, c1, by dsimp only; rw [hN], hrow, hb2.trans (hb3.mono hb2.size)⟩
theorem struct_at {w w1 : World} (hg : Gl w) (hP : PowTab w) (hb : Below w.heap.size w w1) (hr : RowIn w1 (some ⟨w.heap.size, 0, none⟩) (bcells exM)) :
    Calls Tryz.prog 20 #[.slice (some ⟨w.heap.size, 0, none⟩) 97 97] w1 fun e w' => e = .returned (.string ⟨exS.toArray⟩) ∧ Below w1.heap.size w1 w' := by
  have h := struct_any (some ⟨w.heap.size, 0, none⟩) 97 exM w1 (by decide) (by decide) (fun h => by cases h) hr (hg.below hb) (hP.below hb)
  rw [ex_struct] at h
  exact h
theorem struct_at2 {w w1 : World} (hg : Gl w) (hP : PowTab w) (hb : Below w.heap.size w w1) (t : Nat) (fr : Nat × Nat) :
    Calls Tryz.prog 20 #[.slice (some ⟨w1.heap.size, 0, none⟩) 11 11] (w1.alloc (.cells #[.int .u8 65, .int .u8 58, .int .u8 32, .int .u8 98, .int .u8 13, .int .u8 10, .int .u8 13, .int .u8 10, .int .u8 120, .int .u8 13, .int .u8 10] t fr)) fun e w' => e = .returned (.string ⟨exT.toArray⟩) ∧ Below w1.heap.size w1 w' := by
  have hb2 : Below w1.heap.size w1 (w1.alloc (.cells #[.int .u8 65, .int .u8 58, .int .u8 32, .int .u8 98, .int .u8 13, .int .u8 10, .int .u8 13, .int .u8 10, .int .u8 120, .int .u8 13, .int .u8 10] t fr)) := (Below.refl _ _).alloc (Nat.le_refl _) _
  have hb3 := hb.trans (hb2.mono hb.size)
  have h := struct_any (some ⟨w1.heap.size, 0, none⟩) 11 exA _ (by decide) (by decide) (fun h => by cases h) (row_mark w1 (bcells exA) t fr) (hg.below hb3) (hP.below hb3)
  rw [ex_astruct] at h
  refine Calls.mono h ?_
  rintro e w' ⟨rfl, hb4⟩
  exact ⟨rfl, hb2.trans (hb4.mono hb2.size)⟩
set_option maxRecDepth 100000 in
set_option maxHeartbeats 4000000 in
theorem shown11_any (w : World) (hg : Gl w) (hP : PowTab w) : Calls Tryz.prog 16 #[] w fun e w' => e = .returned (.bool true) ∧ Below w.heap.size w w' := by
  have kc := fun (w : World) (C : Array Value) (n c : Nat) => Lib.run_convert_bytes_const (P := Tryz.prog) w 26 5 C n c Tryz.underlying26 Tryz.underlying5
  have hr0 := exW_row w
  have hb0 := exW_below w
  obtain ⟨w1, hw1⟩ : ∃ w1, w1 = exW w := ⟨_, rfl⟩
  go_enter Tryz.func16, Tryz.ntmps16
  go_upto_region 2 with (refine wpList_buildFlat rfl 26 5 97 _ rfl .u8 exI Tryz.underlying26 (by kernel_rfl) (by kernel_rfl) rfl (by decide) (by decide) rfl ?_; change wpList _ _ _ _ _ (World.alloc w (.cells exC 5)))
  change Code.wp _ _ _ _ (exW w)
  rw [← hw1] at hr0 hb0 ⊢
  clear hw1
  go_wp2_with fail
  refine (sec_at2 1 0 [97] 0 1 hg hb0 hr0 (by decide) ex_sec1 rfl _).mono ?_
  rintro e w2 ⟨A1, c1, rfl, hrA, hb2⟩
  have hb02 := hb0.trans (hb2.mono hb0.size)
  go_wp2_with fail
  refine (sec_at2 2 3 exH 0 27 hg hb02 (hr0.below hb2) (by decide) ex_sec2 rfl _).mono ?_
  rintro e w3 ⟨A2, c2, rfl, hrB, hb3⟩
  have hb23 := hb2.trans (hb3.mono hb2.size)
  have hb03 := hb02.trans (hb3.mono hb02.size)
  go_wp2_with fail
  refine (sec_at2 3 0 [] 110 0 hg hb03 (hr0.below hb23) (by decide) ex_sec3 rfl _).mono ?_
  rintro e w4 ⟨A3, c3, rfl, _, hb4⟩
  have hb24 := hb23.trans (hb4.mono hb23.size)
  have hb04 := hb03.trans (hb4.mono hb03.size)
  go_wp2_with fail
  refine (struct_at hg hP hb04 (hr0.below hb24)).mono ?_
  rintro e w5 ⟨rfl, hb5⟩
  have hb05 := hb04.trans (hb5.mono hb04.size)
  have hcA := conv_bytes A1 [97] 1 c1 w5 ((hrA.below hb3).below (hb4.trans (hb5.mono hb4.size))) rfl
  have hcB := conv_bytes A2 exH 27 c2 w5 (hrB.below (hb4.trans (hb5.mono hb4.size))) rfl
  clear hr0 hrA hrB
  have hE1 : exS = [40, 40, 34, 84, 69, 88, 84, 34, 32, 34, 80, 76, 65, 73, 78, 34, 32, 78, 73, 76, 32, 78, 73, 76, 32, 78, 73, 76, 32, 34, 55, 66, 73, 84, 34, 32, 49, 32, 48, 41, 40, 34, 73, 77, 65, 71, 69, 34, 32, 34, 80, 78, 71, 34, 32, 78, 73, 76, 32, 78, 73, 76, 32, 78, 73, 76, 32, 34, 55, 66, 73, 84, 34, 32, 49, 41, 32, 34, 77, 73, 88, 69, 68, 34, 41] := rfl
  have hE3 : exH = [67, 111, 110, 116, 101, 110, 116, 45, 84, 121, 112, 101, 58, 32, 105, 109, 97, 103, 101, 47, 112, 110, 103, 13, 10, 13, 10] := rfl
  go_wp2_with fail
  refine (struct_at2 hg hP hb05 _ _).mono ?_
  rintro e w6 ⟨rfl, hb6⟩
  have hE4 : exT = [40, 34, 84, 69, 88, 84, 34, 32, 34, 80, 76, 65, 73, 78, 34, 32, 78, 73, 76, 32, 78, 73, 76, 32, 78, 73, 76, 32, 34, 55, 66, 73, 84, 34, 32, 51, 32, 49, 41] := rfl
  go_wp2
  go_ret
  exact ⟨rfl, hb05.trans (hb6.mono hb05.size)⟩
end Go.Proofs.YtbjbljfmcpidmaaGreatDoor

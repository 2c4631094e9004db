/- clock: a time as a text, the program's and the reference's. -/
import Derived.Test.YtbjbljfmcpidmaaGreatDoorWide
import Derived.Test.YtbjbljfmcpidmaaGreatDoorStampOf
import Derived.Deep.RegionHeld3
namespace Go.Proofs.YtbjbljfmcpidmaaGreatDoor
open Go.RowKit Go.Lib Go.Shelf
def clockS (h i s : Nat) : List UInt8 := wideS 2 h ++ [58] ++ wideS 2 i ++ [58] ++ wideS 2 s ++ [32, 43, 48, 48, 48, 48]
theorem clockS_len (h i s : Nat) : (clockS h i s).length = 14 := by simp [clockS, wideS_len]
/-- A time's cells lie in block B. -/
def TCells (B : Nat) (y m d h i s wd : Int) (w : World) : Prop := w.cell? ⟨B, 0, none⟩ = some (.int .i64 y) ∧ w.cell? ⟨B, 1, none⟩ = some (.int .i64 m) ∧ w.cell? ⟨B, 2, none⟩ = some (.int .i64 d) ∧ w.cell? ⟨B, 3, none⟩ = some (.int .i64 h) ∧ w.cell? ⟨B, 4, none⟩ = some (.int .i64 i) ∧ w.cell? ⟨B, 5, none⟩ = some (.int .i64 s) ∧ w.cell? ⟨B, 6, none⟩ = some (.int .i64 wd)
set_option maxHeartbeats 4000000 in
theorem clock_any (y m d : Int) (h i s : Nat) (wd : Int) (w : World) (hh : h ≤ 1000) (hi : i ≤ 1000) (hs : s ≤ 1000) :
    Calls Tryz.prog 68 #[timeV y m d h i s wd] w fun e w' => e = .returned (.string ⟨(clockS h i s).toArray⟩) ∧ Below w.heap.size w w' := by
  have l1 := wideS_len 2 h
  have l2 := wideS_len 2 i
  have l3 := wideS_len 2 s
  have HC : Hid (clockS h i s = wideS 2 h ++ [58] ++ wideS 2 i ++ [58] ++ wideS 2 s ++ [32, 43, 48, 48, 48, 48]) := Lib.hid rfl
  have hB0 : Below w.heap.size w (w.alloc (.cells #[.int .i64 y, .int .i64 m, .int .i64 d, .int .i64 h, .int .i64 i, .int .i64 s, .int .i64 wd] 110)).drew := ((Below.refl _ _).alloc (Nat.le_refl _) _).drew
  have cW : ∀ (n : Nat) W, (W.cell? ⟨w.heap.size, 3, none⟩ = some (.int .i64 (h : Int)) ∧ W.cell? ⟨w.heap.size, 4, none⟩ = some (.int .i64 (i : Int)) ∧ W.cell? ⟨w.heap.size, 5, none⟩ = some (.int .i64 (s : Int)) ∧ Below w.heap.size w W) → n ≤ 1000 → Calls Tryz.prog 67 #[.int .i64 (n : Int), .int .i64 2] W fun e w' => e = .returned (.string ⟨(wideS 2 n).toArray⟩) ∧ w'.cell? ⟨w.heap.size, 3, none⟩ = some (.int .i64 (h : Int)) ∧ w'.cell? ⟨w.heap.size, 4, none⟩ = some (.int .i64 (i : Int)) ∧ w'.cell? ⟨w.heap.size, 5, none⟩ = some (.int .i64 (s : Int)) ∧ Below w.heap.size w w' := fun n W hS hn => (wide_any 2 n W (by decide) (by omega)).mono fun e w' h => ⟨h.1, cell_below h.2 hS.1, cell_below h.2 hS.2.1, cell_below h.2 hS.2.2.1, hS.2.2.2.trans (h.2.mono hS.2.2.2.size)⟩
  simp only [timeV]
  go_enter Tryz.func68, Tryz.ntmps68
  go_wp2
  go_region_held3 (fun w' => w'.cell? ⟨w.heap.size, 3, none⟩ = some (.int .i64 (h : Int)) ∧ w'.cell? ⟨w.heap.size, 4, none⟩ = some (.int .i64 (i : Int)) ∧ w'.cell? ⟨w.heap.size, 5, none⟩ = some (.int .i64 (s : Int)) ∧ Below w.heap.size w w') (first | exact ⟨by go_simp, by go_simp, by go_simp, hB0⟩ | assumption) (first | (go_at_call 67; refine (cW _ _ ?_ ?_).mono ?_; (assumption); (assumption); rintro e w' ⟨rfl, k1⟩))
  obtain ⟨_, _, _, hBB⟩ := ‹_ ∧ _ ∧ _ ∧ Below w.heap.size w _›
  go_wp2
  go_ret
  rw [HC.out]
  exact ⟨congrArg (fun b => Ending.returned (Value.string b)) (by apply ByteArray.ext; simp), hBB⟩
set_option maxHeartbeats 4000000 in
theorem rclock_any (y m d : Int) (h i s : Nat) (wd : Int) (w : World) (hh : h ≤ 99) (hi : i ≤ 99) (hs : s ≤ 99) :
    Calls Tryz.prog 73 #[timeV y m d h i s wd] w fun e w' => e = .returned (.string ⟨(clockS h i s).toArray⟩) ∧ Below w.heap.size w w' := by
  have l1 := wideS_len 2 h
  have l2 := wideS_len 2 i
  have l3 := wideS_len 2 s
  have HC : Hid (clockS h i s = wideS 2 h ++ [58] ++ wideS 2 i ++ [58] ++ wideS 2 s ++ [32, 43, 48, 48, 48, 48]) := Lib.hid rfl
  have hB0 : Below w.heap.size w (w.alloc (.cells #[.int .i64 y, .int .i64 m, .int .i64 d, .int .i64 h, .int .i64 i, .int .i64 s, .int .i64 wd] 110)).drew := ((Below.refl _ _).alloc (Nat.le_refl _) _).drew
  have cW : ∀ (n : Nat) W, (W.cell? ⟨w.heap.size, 3, none⟩ = some (.int .i64 (h : Int)) ∧ W.cell? ⟨w.heap.size, 4, none⟩ = some (.int .i64 (i : Int)) ∧ W.cell? ⟨w.heap.size, 5, none⟩ = some (.int .i64 (s : Int)) ∧ Below w.heap.size w W) → n ≤ 99 → Calls Tryz.prog 71 #[.int .i64 (n : Int), .int .i64 2] W fun e w' => e = .returned (.string ⟨(wideS 2 n).toArray⟩) ∧ w'.cell? ⟨w.heap.size, 3, none⟩ = some (.int .i64 (h : Int)) ∧ w'.cell? ⟨w.heap.size, 4, none⟩ = some (.int .i64 (i : Int)) ∧ w'.cell? ⟨w.heap.size, 5, none⟩ = some (.int .i64 (s : Int)) ∧ Below w.heap.size w w' := fun n W hS hn => (rwide_any 1 n W (by decide) (by omega)).mono fun e w' h => ⟨h.1, cell_below h.2 hS.1, cell_below h.2 hS.2.1, cell_below h.2 hS.2.2.1, hS.2.2.2.trans (h.2.mono hS.2.2.2.size)⟩
  simp only [timeV]
  go_enter Tryz.func73, Tryz.ntmps73
  go_wp2
  go_region_held3 (fun w' => w'.cell? ⟨w.heap.size, 3, none⟩ = some (.int .i64 (h : Int)) ∧ w'.cell? ⟨w.heap.size, 4, none⟩ = some (.int .i64 (i : Int)) ∧ w'.cell? ⟨w.heap.size, 5, none⟩ = some (.int .i64 (s : Int)) ∧ Below w.heap.size w w') (first | exact ⟨by go_simp, by go_simp, by go_simp, hB0⟩ | assumption) (first | (go_at_call 71; refine (cW _ _ ?_ ?_).mono ?_; (assumption); (assumption); rintro e w' ⟨rfl, k1⟩))
  obtain ⟨_, _, _, hBB⟩ := ‹_ ∧ _ ∧ _ ∧ Below w.heap.size w _›
  go_wp2
  go_ret
  rw [HC.out]
  exact ⟨congrArg (fun b => Ending.returned (Value.string b)) (by apply ByteArray.ext; simp), hBB⟩
end Go.Proofs.YtbjbljfmcpidmaaGreatDoor

/- HeaderTraces' walk. -/
import Derived.Test.YtbjbljfmcpidmaaGreatDoorRTrace
import Derived.Test.YtbjbljfmcpidmaaGreatDoorShown
namespace Go.Proofs.YtbjbljfmcpidmaaGreatDoor
open Go.RowKit Go.Lib Go.Shelf
set_option maxHeartbeats 4000000 in
theorem traces_any (f t : List UInt8) (x y : Int) (w : World) (hf : f.length ≤ 2000000) (ht : t.length ≤ 2000000) (hx0 : -9223372036854775808 ≤ x) (hx1 : x ≤ 9223372036854775807) (hg : Gl w) (hL : LenTab w) (hP : PowTab w) :
    Calls Tryz.prog 3 #[.string ⟨f.toArray⟩, .string ⟨t.toArray⟩, .agg #[.int .i64 x, .int .i64 y]] w fun e w' => e = .returned (.bool true) ∧ Below w.heap.size w w' := by
  have cT : ∀ W' : World, (W'.cell? ⟨w.heap.size, 0, none⟩ = some (.int .i64 x) ∧ W'.cell? ⟨w.heap.size, 1, none⟩ = some (.int .i64 y) ∧ Below w.heap.size w W') → Calls Tryz.prog 14 #[.string ⟨f.toArray⟩, .string ⟨t.toArray⟩, .string ⟨#[101, 115, 116, 97, 102, 101, 116, 116, 101]⟩, .int .i64 x, .int .i64 y] W' fun e w' => e = .returned (.string ⟨(traceS f t [101, 115, 116, 97, 102, 101, 116, 116, 101] (Lib.itoa x) (htextS y)).toArray⟩) ∧ (w'.cell? ⟨w.heap.size, 0, none⟩ = some (.int .i64 x) ∧ w'.cell? ⟨w.heap.size, 1, none⟩ = some (.int .i64 y) ∧ Below w.heap.size w w') :=
    fun W' hS => (trace_any f t [101, 115, 116, 97, 102, 101, 116, 116, 101] x y W' hf ht (by decide) hx0 hx1 (hL.below hS.2.2) (hP.below hS.2.2)).mono fun e w' h => ⟨h.1, cell_below h.2 hS.1, cell_below h.2 hS.2.1, hS.2.2.trans (h.2.mono hS.2.2.size)⟩
  have cR : ∀ W' : World, (W'.cell? ⟨w.heap.size, 0, none⟩ = some (.int .i64 x) ∧ W'.cell? ⟨w.heap.size, 1, none⟩ = some (.int .i64 y) ∧ Below w.heap.size w W') → Calls Tryz.prog 15 #[.string ⟨f.toArray⟩, .string ⟨t.toArray⟩, .string ⟨#[101, 115, 116, 97, 102, 101, 116, 116, 101]⟩, .int .i64 x, .int .i64 y] W' fun e w' => e = .returned (.string ⟨(traceS f t [101, 115, 116, 97, 102, 101, 116, 116, 101] (Lib.itoa x) (htextS y)).toArray⟩) ∧ (w'.cell? ⟨w.heap.size, 0, none⟩ = some (.int .i64 x) ∧ w'.cell? ⟨w.heap.size, 1, none⟩ = some (.int .i64 y) ∧ Below w.heap.size w w') :=
    fun W' hS => (rtrace_any f t [101, 115, 116, 97, 102, 101, 116, 116, 101] x y W' hf ht (by decide) hx0 hx1).mono fun e w' h => ⟨h.1, cell_below h.2 hS.1, cell_below h.2 hS.2.1, hS.2.2.trans (h.2.mono hS.2.2.size)⟩
  generalize traceS f t [101, 115, 116, 97, 102, 101, 116, 116, 101] (Lib.itoa x) (htextS y) = X at *
  have HT := Lib.hid cT
  have HR := Lib.hid cR
  have hg0 := gl_alloc hg (.cells #[.int .i64 x, .int .i64 y] 22)
  have cS := shown_any _ hg0
  have hc0 : (w.alloc (.cells #[.int .i64 x, .int .i64 y] 22)).cell? ⟨w.heap.size, 0, none⟩ = some (.int .i64 x) := by go_simp
  have hc1 : (w.alloc (.cells #[.int .i64 x, .int .i64 y] 22)).cell? ⟨w.heap.size, 1, none⟩ = some (.int .i64 y) := by go_simp
  have hb0 : Below w.heap.size w (w.alloc (.cells #[.int .i64 x, .int .i64 y] 22)) := (Below.refl _ _).alloc (Nat.le_refl _) _
  clear cT cR hL hP hx0 hx1 hf ht hg hg0
  go_enter Tryz.func3, Tryz.ntmps3
  go_wp2_with fail
  refine cS.mono ?_
  rintro e w1 ⟨rfl, hb1⟩
  have hS : (w1.drew.cell? ⟨w.heap.size, 0, none⟩ = some (.int .i64 x) ∧ w1.drew.cell? ⟨w.heap.size, 1, none⟩ = some (.int .i64 y) ∧ Below w.heap.size w w1.drew) := ⟨cell_below hb1 hc0, cell_below hb1 hc1, (hb0.trans (hb1.mono hb0.size)).drew⟩
  clear hb1 hb0 hc0 hc1 cS
  go_wp2
  go_region_held3 (fun w' => w'.cell? ⟨w.heap.size, 0, none⟩ = some (.int .i64 x) ∧ w'.cell? ⟨w.heap.size, 1, none⟩ = some (.int .i64 y) ∧ Below w.heap.size w w') (first | exact hS | assumption) (first | (go_at_call 14; ((with_reducible refine (HT.out _ ?_).mono ?_); (assumption); rintro e w' ⟨rfl, k1⟩)) | (go_at_call 15; ((with_reducible refine (HR.out _ ?_).mono ?_); (assumption); rintro e w' ⟨rfl, k1⟩)))
  obtain ⟨_, _, hBB⟩ := ‹_ ∧ _ ∧ Below w.heap.size w _›
  go_wp2
  go_ret
  exact ⟨rfl, hBB⟩
end Go.Proofs.YtbjbljfmcpidmaaGreatDoor

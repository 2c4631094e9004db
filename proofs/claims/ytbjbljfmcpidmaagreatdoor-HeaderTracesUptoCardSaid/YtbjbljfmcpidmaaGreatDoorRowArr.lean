/- An array of two ints that comes in. -/
import Derived.Test.YtbjbljfmcpidmaaGreatDoorRowKitZ
namespace Go.Proofs.YtbjbljfmcpidmaaGreatDoor
open Go.ChangeShapes Go.WideShapes Go.ChangeAt Go.RowKit Go.Lib Go.Shelf
theorem i64_wf {n : Int} (h : (Lit.int .i64 n).wf = true) : -9223372036854775808 ≤ n ∧ n ≤ 9223372036854775807 := by
  simp [Lit.wf, IntKind.min, IntKind.max, IntKind.signed, IntKind.bits] at h
  omega
set_option maxRecDepth 100000 in
theorem open_arr2 {H : Type} {enc : TypeId × Value → H} {W : World} {base : Nat} {v : Value} {d : DataW H} {p : List MemPlace} (hval : Value.okWide Tryz.prog W .any base 22 v) (h : DataW.Trod enc Tryz.prog W 0 (fun _ => true) true 22 v d p) :
    ∃ x y : Int, v = .agg #[.int .i64 x, .int .i64 y] ∧ (-9223372036854775808 ≤ x ∧ x ≤ 9223372036854775807) ∧ (-9223372036854775808 ≤ y ∧ y ≤ 9223372036854775807) := by
  have hcell : Tryz.prog.cellsOf 22 = 2 := by kernel_rfl
  have hone : Tryz.prog.cellsOf 3 = 1 := by kernel_rfl
  simp only [Value.okWide, Tryz.underlying22] at hval
  obtain ⟨cs, rfl, hs, _⟩ := hval
  rw [hcell] at hs
  obtain ⟨fuel, hf⟩ := h
  obtain ⟨xs, m, _, _, _, hl, hi⟩ := DataW.trod_array Tryz.underlying22 hf
  obtain ⟨l⟩ := cs
  match l, hs with
  | [c0, c1], _ =>
    match xs, hl with
    | [z0, z1], _ =>
      have h0 := hi 0 (by decide)
      have h1 := hi 1 (by decide)
      rw [hone] at h0 h1
      simp [Value.cells] at h0 h1
      obtain ⟨x, e0, _, w0⟩ := DataW.trod_int Tryz.underlying3 h0
      obtain ⟨y, e1, _, w1⟩ := DataW.trod_int Tryz.underlying3 h1
      simp at e0 e1
      subst e0 e1
      exact ⟨x, y, rfl, i64_wf w0, i64_wf w1⟩
end Go.Proofs.YtbjbljfmcpidmaaGreatDoor

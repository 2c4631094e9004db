/- The examples' values. -/
import Derived.Test.YtbjbljfmcpidmaaGreatDoorRKind2
namespace Go.Proofs.YtbjbljfmcpidmaaGreatDoor
open Go.RowKit Go.Lib Go.Shelf
def shA : List UInt8 := [65, 58, 32, 98, 13, 10, 32, 99, 13, 10, 13, 10, 120]
def shB : List UInt8 := [65, 58, 32, 98, 13, 10, 120]
def shC : List UInt8 := [32, 97, 58, 32, 98]
theorem ev1 : hdr shA = ([([65], [98, 32, 99])], 12) := by kernel_rfl
theorem ev2 : hdr shB = ([([65], [98])], 6) := by kernel_rfl
theorem ev3 : hdr shC = ([], 0) := by kernel_rfl
def shD : List Fld := [([99, 111, 110, 116, 101, 110, 116, 45, 84, 89, 80, 69], [77, 117, 108, 116, 105, 112, 97, 114, 116, 47, 109, 105, 120, 101, 100, 59, 32, 98, 111, 117, 110, 100, 97, 114, 121, 61, 34, 97, 32, 98, 34])]
def shE : List Fld := [([67, 111, 110, 116, 101, 110, 116, 45, 84, 121, 112, 101], [116, 101, 120, 116])]
theorem ev4 : kEnd (getF shD ctName).1 = (true, [97, 32, 98]) := by kernel_rfl
theorem ev5 : (kEnd (getF shE ctName).1).1 = false := by kernel_rfl
theorem ev6 : (tokS (tb (getF shD ctName).1)).map greatB = [77, 85, 76, 84, 73, 80, 65, 82, 84] ∧ (tokS (kS2 (getF shD ctName).1)).map greatB = [77, 73, 88, 69, 68] := by constructor <;> kernel_rfl
theorem ev7 : boundsB [97, 32, 98] = true := by
  rw [show ([97, 32, 98] : List UInt8) = [97, 32] ++ [98] from rfl, bounds_snoc]
  decide
theorem ev8 : kindS (getF shD ctName).1 = ([77, 85, 76, 84, 73, 80, 65, 82, 84], [77, 73, 88, 69, 68], [97, 32, 98]) := by
  unfold kindS
  rw [ev4]
  simp only [if_true, ev7, ev6.1, ev6.2]
theorem ev9 : kindS (getF shE ctName).1 = (kText, kPlain, []) := by
  unfold kindS
  rw [ev5]
  rfl
end Go.Proofs.YtbjbljfmcpidmaaGreatDoor

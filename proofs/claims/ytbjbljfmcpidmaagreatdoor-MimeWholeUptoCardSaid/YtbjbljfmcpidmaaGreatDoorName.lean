/- header.name and its closure. -/
import Derived.Test.YtbjbljfmcpidmaaGreatDoorBase
namespace Go.Proofs.YtbjbljfmcpidmaaGreatDoor
open Go.RowKit Go.Lib Go.Shelf

def oddR (r : Nat) : Bool := decide (r < 33) || decide (126 < r)

theorem name_odd (w : World) : PredAt Tryz.prog 110 #[] encR oddR w := fun W r _ => by
  unfold FnGives
  by_cases h1 : r < 33
  · have z1 : (r : Int) < 33 := by omega
    go_enter Tryz.func110, Tryz.ntmps110
    go_wp2
    go_ret
    exact ⟨by simp [oddR, h1], 0, rfl⟩
  · have z1 : ¬ (r : Int) < 33 := by omega
    by_cases h2 : 126 < r
    · have z2 : 126 < (r : Int) := by omega
      go_enter Tryz.func110, Tryz.ntmps110
      go_wp2
      go_ret
      exact ⟨by simp [oddR, h1, h2], 0, rfl⟩
    · have z2 : ¬ 126 < (r : Int) := by omega
      go_enter Tryz.func110, Tryz.ntmps110
      go_wp2
      go_ret
      exact ⟨by simp [oddR, h1, h2], 0, rfl⟩

def nameOk (l : List UInt8) : Bool := (Lib.cut l [58]).2.2 && !(Lib.cut l [58]).1.isEmpty && decide (Lib.idxFunc oddR true ⟨(Lib.cut l [58]).1.toArray⟩ < 0)

theorem name_any (s : ByteArray) (w : World) (hs : s.size ≤ 4000000) (hg : Gl w) :
    Calls Tryz.prog 56 #[.string s] w fun e w' => e = .returned (.tuple #[.string ⟨(Lib.cut s.data.toList [58]).1.toArray⟩, .string ⟨(Lib.cut s.data.toList [58]).2.1.toArray⟩, .bool (nameOk s.data.toList)]) ∧ Below w.heap.size w w' := by
  obtain ⟨⟨m, hm⟩, _⟩ := hg
  have c1 := Tryz.strings_Cut s ⟨#[58]⟩ m w (by omega) hm
  clear hm
  simp only [nameOk]
  generalize Lib.cut s.data.toList [58] = ct at *
  obtain ⟨n, rest, ok⟩ := ct
  go_enter Tryz.func56, Tryz.ntmps56
  have c2 := fun W => Any.strings_IndexFunc Tryz.laysGw15 110 #[] (enters_of Tryz.func110 (by kernel_rfl) rfl) _ ⟨n.toArray⟩ W (name_odd W)
  change ∀ W, Calls Tryz.prog 111 _ _ _ at c2
  generalize idxFunc oddR true ⟨n.toArray⟩ = ix at *
  go_wp2_with (first | (go_at_call 109; refine c1.mono ?_; rintro e w' ⟨rfl, q, rfl⟩) | (go_at_call 111; refine (c2 _).mono ?_; rintro e w2 ⟨rfl, hb⟩))
  all_goals go_ret3
  · exact ⟨by simp [*], below_drewN' (Below.refl _ _) q⟩
  · exact ⟨by simp [*], (below_drewN' (Below.refl _ _) q).trans hb⟩
  · exact ⟨by simp [*], below_drewN' (Below.refl _ _) q⟩
end Go.Proofs.YtbjbljfmcpidmaaGreatDoor

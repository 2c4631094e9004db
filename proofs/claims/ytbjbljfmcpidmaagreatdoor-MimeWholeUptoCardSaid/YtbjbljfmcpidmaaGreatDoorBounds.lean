/- bounds -/
import Derived.Test.YtbjbljfmcpidmaaGreatDoorNameR
namespace Go.Proofs.YtbjbljfmcpidmaaGreatDoor
open Go.RowKit Go.Lib Go.Shelf
def lowR (r : Nat) : Bool := decide (r < 32) || decide (126 < r)
theorem bounds_low (w : World) : PredAt Tryz.prog 132 #[] encR lowR w := fun W r _ => by
  unfold FnGives
  by_cases h1 : r < 32
  · have z1 : (r : Int) < 32 := by omega
    go_enter Tryz.func132, Tryz.ntmps132
    go_wp2
    go_ret
    exact ⟨by simp [lowR, h1], 0, rfl⟩
  · have z1 : ¬ (r : Int) < 32 := by omega
    by_cases h2 : 126 < r
    · have z2 : 126 < (r : Int) := by omega
      go_enter Tryz.func132, Tryz.ntmps132
      go_wp2
      go_ret
      exact ⟨by simp [lowR, h1, h2], 0, rfl⟩
    · have z2 : ¬ 126 < (r : Int) := by omega
      go_enter Tryz.func132, Tryz.ntmps132
      go_wp2
      go_ret
      exact ⟨by simp [lowR, h1, h2], 0, rfl⟩
def boundsB (s : List UInt8) : Bool := !s.isEmpty && (decide (s.length ≤ 70) && (!Lib.hasSuffix s [32] && decide (Lib.idxFunc lowR true ⟨s.toArray⟩ < 0)))
set_option maxHeartbeats 1000000 in
theorem bounds_any (s : List UInt8) (w : World) (hs : s.length ≤ 4000000) :
    Calls Tryz.prog 63 #[.string ⟨s.toArray⟩] w fun e w' => e = .returned (.bool (boundsB s)) ∧ Below w.heap.size w w' := by
  have HB : Hid (boundsB s = (!s.isEmpty && (decide (s.length ≤ 70) && (!Lib.hasSuffix s [32] && decide (Lib.idxFunc lowR true ⟨s.toArray⟩ < 0))))) := Lib.hid rfl
  have cS := fun W => Tryz.strings_HasSuffix ⟨s.toArray⟩ ⟨#[32]⟩ W (by simp [ByteArray.size]; omega)
  have c2 := fun W => Any.strings_IndexFunc Tryz.laysGw15 132 #[] (enters_of Tryz.func132 (by kernel_rfl) rfl) _ ⟨s.toArray⟩ W (bounds_low W)
  change ∀ W, Calls Tryz.prog 111 _ _ _ at c2
  simp only [] at cS
  by_cases he : s = []
  · subst he
    have e0 : boundsB [] = false := by rfl
    rw [e0]
    clear HB
    go_enter Tryz.func63, Tryz.ntmps63
    go_wp2
    go_ret
    exact ⟨rfl, Below.refl _ _⟩
  · have HE := Lib.hid he
    have hie : s.isEmpty = false := by simpa using he
    rw [hie] at HB
    clear he hie
    have hs1 : (⟨s.toArray⟩ : ByteArray).size = s.length := by simp [ByteArray.size]
    by_cases hl : s.length ≤ 70
    · have hl1 : (s.length : Int) ≤ 70 := by omega
      cases h1 : Lib.hasSuffix s [32] with
      | true =>
        rw [h1] at cS
        rw [h1] at HB
        go_enter Tryz.func63, Tryz.ntmps63
        go_wp2_with (go_at_call 133; refine (cS _).mono ?_; rintro e w2 ⟨rfl, rfl⟩)
        go_ret
        exact ⟨by simp [HB.out], Below.refl _ _⟩
      | false =>
        rw [h1] at cS
        rw [h1] at HB
        generalize idxFunc lowR true ⟨s.toArray⟩ = ix at *
        go_enter Tryz.func63, Tryz.ntmps63
        go_wp2_with (first | (go_at_call 133; refine (cS _).mono ?_; rintro e w2 ⟨rfl, rfl⟩) | (go_at_call 111; refine (c2 _).mono ?_; rintro e w2 ⟨rfl, hb⟩))
        go_ret
        exact ⟨by have hz := HE.out; simp [HB.out, hl, hz], by assumption⟩
    · have hl1 : (70 : Int) < (s.length : Int) := by omega
      go_enter Tryz.func63, Tryz.ntmps63
      go_wp2
      go_ret
      exact ⟨by simp [HB.out, hl], Below.refl _ _⟩
end Go.Proofs.YtbjbljfmcpidmaaGreatDoor

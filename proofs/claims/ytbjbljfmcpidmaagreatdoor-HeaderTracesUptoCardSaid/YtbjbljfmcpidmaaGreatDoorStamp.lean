/- stamp: a moment's date. -/
import Derived.Test.YtbjbljfmcpidmaaGreatDoorDateP
import Derived.Test.YtbjbljfmcpidmaaGreatDoorRef1
import Derived.IntWalk
namespace Go.Proofs.YtbjbljfmcpidmaaGreatDoor
open Go.RowKit Go.Lib Go.Shelf
def lenL : List Int := [31, 28, 31, 30, 31, 30, 31, 31, 30, 31, 30, 31]
def LenTab (w : World) : Prop := ∀ k : Nat, k < 12 → w.cell? ⟨1, k, none⟩ = some (.int .i64 (lenL.getD k 0))
theorem LenTab.below {w w' : World} (h : LenTab w) (hb : Below w.heap.size w w') : LenTab w' := fun k hk => cell_below hb (h k hk)
theorem leap_cases (y : Int) : ((y % 4 == 0) = false ∧ leapB y = false) ∨ ((y % 4 == 0) = true ∧ (y % 100 == 0) = false ∧ (y % 100 != 0) = true ∧ leapB y = true) ∨
    ((y % 4 == 0) = true ∧ (y % 100 == 0) = true ∧ (y % 100 != 0) = false ∧ (y % 400 == 0) = false ∧ leapB y = false) ∨ ((y % 4 == 0) = true ∧ (y % 100 == 0) = true ∧ (y % 100 != 0) = false ∧ (y % 400 == 0) = true ∧ leapB y = true) := by
  unfold leapB
  by_cases h4 : y % 4 = 0
  · by_cases h1 : y % 100 = 0
    · by_cases h2 : y % 400 = 0
      · simp [h4, h1, h2]
      · simp [h4, h1, h2]
    · simp [h4, h1]
  · simp [h4]
theorem leap_any (y : Int) (w : World) (h0 : 0 ≤ y) (h1 : y ≤ 4000) :
    Calls Tryz.prog 183 #[.int .i64 y] w fun e w' => e = .returned (.bool (leapB y)) ∧ w = w' := by
  rcases leap_cases y with ⟨a, hb⟩ | ⟨a, b, c, hb⟩ | ⟨a, b, c, d, hb⟩ | ⟨a, b, c, d, hb⟩
  all_goals
    rw [hb]
    clear hb
    go_enter Tryz.func183, Tryz.ntmps183
    go_wp2
    go_ret
    exact ⟨rfl, rfl⟩
theorem all_any (y : Int) (w : World) (h0 : 0 ≤ y) (h1 : y ≤ 4000) :
    Calls Tryz.prog 182 #[.int .i64 y] w fun e w' => e = .returned (.int .i64 (365 * y + y / 4 - y / 100 + y / 400)) ∧ w = w' := by
  go_enter Tryz.func182, Tryz.ntmps182
  go_wp2
  go_ret
  exact ⟨rfl, rfl⟩
theorem before_any (y : Int) (w : World) (h0 : 1 ≤ y) (h1 : y ≤ 4000) :
    Calls Tryz.prog 135 #[.int .i64 y] w fun e w' => e = .returned (.int .i64 (bef y)) ∧ w = w' := by
  have hb : bef y = 365 * (y - 1) + (y - 1) / 4 - (y - 1) / 100 + (y - 1) / 400 - (365 * 1999 + 1999 / 4 - 1999 / 100 + 1999 / 400) := rfl
  have HB := Lib.hid hb
  clear hb
  have c1 := fun W => all_any (y - 1) W (by omega) (by omega)
  have c2 := fun W => all_any 1999 W (by omega) (by omega)
  go_enter Tryz.func135, Tryz.ntmps135
  go_wp2_with fail
  refine (c1 _).mono ?_
  rintro e w1 ⟨rfl, rfl⟩
  go_wp2_with fail
  refine (c2 _).mono ?_
  rintro e w2 ⟨rfl, rfl⟩
  go_wp2
  go_ret
  rw [HB.out]
  exact ⟨rfl, rfl⟩
theorem length_any (y : Int) (k : Nat) (w : World) (h0 : 0 ≤ y) (h1 : y ≤ 4000) (hk : k < 12) (hL : LenTab w) :
    Calls Tryz.prog 136 #[.int .i64 y, .int .i64 ((k : Int) + 1)] w fun e w' => e = .returned (.int .i64 (mlen y ((k : Int) + 1))) ∧ w = w' := by
  have cl := fun W => leap_any y W h0 h1
  have hc := hL k hk
  by_cases hk1 : k = 1
  · subst hk1
    cases hb : leapB y
    all_goals
      have HM : Hid (mlen y (((1 : Nat) : Int) + 1) = if leapB y then 29 else 28) := Lib.hid rfl
      rw [hb] at cl HM
      clear hb
      simp only [lenL] at hc
      go_enter Tryz.func136, Tryz.ntmps136
      go_wp2_with (go_at_call 183; refine (cl _).mono ?_; rintro e w1 ⟨rfl, rfl⟩)
      go_ret
      rw [HM.out]
      exact ⟨rfl, rfl⟩
  · have e2 : (((k : Int) + 1) == 2) = false := by rw [beq_eq_false_iff_ne]; omega
    have HM : Hid (mlen y ((k : Int) + 1) = lenL.getD k 0) := Lib.hid (by
      obtain rfl | rfl | rfl | rfl | rfl | rfl | rfl | rfl | rfl | rfl | rfl : k = 0 ∨ k = 2 ∨ k = 3 ∨ k = 4 ∨ k = 5 ∨ k = 6 ∨ k = 7 ∨ k = 8 ∨ k = 9 ∨ k = 10 ∨ k = 11 := by omega
      all_goals rfl)
    have hk2 : (k : Int) < 12 := by omega
    generalize lenL.getD k 0 = L at *
    go_enter Tryz.func136, Tryz.ntmps136
    go_wp2
    go_ret
    rw [HM.out]
    exact ⟨rfl, rfl⟩
end Go.Proofs.YtbjbljfmcpidmaaGreatDoor

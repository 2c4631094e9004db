/- Plain: a day's year, month and day are determined. -/
import Derived.Test.YtbjbljfmcpidmaaGreatDoorBase
namespace Go.Proofs.YtbjbljfmcpidmaaGreatDoor
def leapB (y : Int) : Bool := decide (y % 4 = 0) && (!decide (y % 100 = 0) || decide (y % 400 = 0))
def mlen (y m : Int) : Int := if m = 2 then (if leapB y then 29 else 28) else if m = 4 ∨ m = 6 ∨ m = 9 ∨ m = 11 then 30 else 31
/-- The days from 2000 on to a year's beginning. -/
def bef (y : Int) : Int := 365 * (y - 1) + (y - 1) / 4 - (y - 1) / 100 + (y - 1) / 400 - (365 * 1999 + 1999 / 4 - 1999 / 100 + 1999 / 400)
/-- The days of a year ahead of a month. -/
def cum (y m : Int) : Int :=
  if m ≤ 1 then 0 else if m = 2 then 31 else (if m = 3 then 59 else if m = 4 then 90 else if m = 5 then 120 else if m = 6 then 151 else if m = 7 then 181 else if m = 8 then 212 else if m = 9 then 243 else if m = 10 then 273 else if m = 11 then 304 else if m = 12 then 334 else 365) + (if leapB y then 1 else 0)
theorem cum_one (y : Int) : cum y 1 = 0 := rfl
theorem cum_next (y m : Int) (h1 : 1 ≤ m) (h2 : m ≤ 12) : cum y (m + 1) = cum y m + mlen y m := by
  obtain rfl | rfl | rfl | rfl | rfl | rfl | rfl | rfl | rfl | rfl | rfl | rfl : m = 1 ∨ m = 2 ∨ m = 3 ∨ m = 4 ∨ m = 5 ∨ m = 6 ∨ m = 7 ∨ m = 8 ∨ m = 9 ∨ m = 10 ∨ m = 11 ∨ m = 12 := by omega
  all_goals
    unfold cum mlen
    cases leapB y <;> rfl
theorem cum_end (y : Int) : cum y 13 = if leapB y then 366 else 365 := by
  unfold cum
  cases leapB y <;> rfl
theorem mlen_pos (y m : Int) : 28 ≤ mlen y m ∧ mlen y m ≤ 31 := by
  unfold mlen
  split
  · split <;> omega
  · split <;> omega
theorem bef_next (y : Int) : bef (y + 1) = bef y + cum y 13 := by
  rw [cum_end]
  unfold bef
  cases h : leapB y with
  | true =>
    unfold leapB at h
    simp at h
    rw [if_pos rfl]
    omega
  | false =>
    unfold leapB at h
    simp at h
    rw [if_neg (by simp)]
    omega
theorem bef_first : bef 2000 = 0 := by decide
theorem cum_pos (y : Int) : 365 ≤ cum y 13 ∧ cum y 13 ≤ 366 := by
  rw [cum_end]
  split <;> omega
theorem bef_mono (y z : Int) (h : y ≤ z) : bef y ≤ bef z := by unfold bef; omega
theorem bef_ge (y : Int) (h : 2000 ≤ y) : 365 * (y - 2000) ≤ bef y := by unfold bef; omega
theorem bef_guess (n : Int) (h : 0 ≤ n) : bef (2000 + n / 366) ≤ n := by unfold bef; omega
theorem cum_mono (y a b : Int) (h0 : 1 ≤ a) (h : a ≤ b) (hb : b ≤ 13) : cum y a ≤ cum y b := by
  obtain ⟨k, rfl⟩ : ∃ k : Nat, b = a + k := ⟨(b - a).toNat, by omega⟩
  clear h
  induction k with
  | zero => simp
  | succ k ih =>
    have h1 := ih (by omega)
    have h2 := cum_next y (a + k) (by omega) (by omega)
    have h3 := mlen_pos y (a + k)
    have e : a + ((k + 1 : Nat) : Int) = a + k + 1 := by omega
    rw [e, h2]
    omega
/-- A day's number as a date. -/
structure IsDate (n y m d : Int) : Prop where
  m1 : 1 ≤ m
  m2 : m ≤ 12
  d0 : 0 ≤ d
  d1 : d < mlen y m
  eq : n = bef y + cum y m + d
theorem IsDate.year {n y m d : Int} (h : IsDate n y m d) : bef y ≤ n ∧ n < bef (y + 1) := by
  have h1 := cum_mono y 1 m (by omega) h.m1 (by have := h.m2; omega)
  have h2 := cum_mono y (m + 1) 13 (by have := h.m1; omega) (by have := h.m2; omega) (by omega)
  have h3 := cum_next y m h.m1 h.m2
  have h4 := bef_next y
  rw [cum_one] at h1
  have := h.eq
  have := h.d0
  have := h.d1
  omega
theorem IsDate.same {n y m d y' m' d' : Int} (h : IsDate n y m d) (h' : IsDate n y' m' d') : y = y' ∧ m = m' ∧ d = d' := by
  have a := h.year
  have b := h'.year
  have hy : y = y' := by
    rcases Int.lt_trichotomy y y' with hlt | he | hgt
    · have := bef_mono (y + 1) y' (by omega); omega
    · exact he
    · have := bef_mono (y' + 1) y (by omega); omega
  subst hy
  have hm : m = m' := by
    rcases Int.lt_trichotomy m m' with hlt | he | hgt
    · have h1 := cum_mono y (m + 1) m' (by have := h.m1; omega) (by omega) (by have := h'.m2; omega)
      have h2 := cum_next y m h.m1 h.m2
      have := h.eq; have := h'.eq; have := h.d1; have := h'.d0
      omega
    · exact he
    · have h1 := cum_mono y (m' + 1) m (by have := h'.m1; omega) (by omega) (by have := h.m2; omega)
      have h2 := cum_next y m' h'.m1 h'.m2
      have := h.eq; have := h'.eq; have := h'.d1; have := h.d0
      omega
  subst hm
  exact ⟨rfl, rfl, by have := h.eq; have := h'.eq; omega⟩
end Go.Proofs.YtbjbljfmcpidmaaGreatDoor

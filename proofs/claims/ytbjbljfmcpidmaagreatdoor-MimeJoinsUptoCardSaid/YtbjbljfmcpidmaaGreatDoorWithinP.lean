/- mime: the lines of a part, one after the other, in plain Lean. -/
import Derived.Test.YtbjbljfmcpidmaaGreatDoorEndsL
namespace Go.Proofs.YtbjbljfmcpidmaaGreatDoor
open Go.RowKit Go.Lib Go.Shelf
/-- What is still to be read, behind what has been read. -/
def J (rec : Nat → Nat → Nat → PT × Nat) (b bd : List UInt8) (to_ : Nat) (tot : List PT × Nat) (o : Option Nat) (ks : List PT) (n at_ f : Nat) : Prop :=
  tot = (ks ++ (progKids rec to_ o (marksS f b bd to_ at_) n).1, (progKids rec to_ o (marksS f b bd to_ at_) n).2)
section
variable {rec : Nat → Nat → Nat → PT × Nat} {b bd : List UInt8} {to_ : Nat} {tot : List PT × Nat} {o : Option Nat} {ks : List PT} {n at_ f : Nat}
theorem J_end (h : J rec b bd to_ tot o ks n at_ 0) : tot = (ks ++ (endsS rec o to_ n).1, (endsS rec o to_ n).2) := by
  unfold J at h
  rw [show marksS 0 b bd to_ at_ = [] from rfl, prog_end] at h
  exact h
theorem J_zero (h : J rec b bd to_ tot o ks n at_ (f + 1)) (hs : sortS (lineOf (cutB b at_ to_)) bd = 0) : J rec b bd to_ tot o ks n (nextOf b at_ to_) (if wholeOf (cutB b at_ to_) then f else 0) := by
  unfold J at *
  rw [h]
  have e : marksS (f + 1) b bd to_ at_ = marksS (if wholeOf (cutB b at_ to_) then f else 0) b bd to_ (nextOf b at_ to_) := by
    rw [marksS, hs]
    cases wholeOf (cutB b at_ to_) <;> simp [marksS]
  rw [e]
theorem J_one (h : J rec b bd to_ tot o ks n at_ (f + 1)) (hs : sortS (lineOf (cutB b at_ to_)) bd = 1) :
    J rec b bd to_ tot (some (nextOf b at_ to_)) (ks ++ (endsS rec o (at_ - 2) n).1) (endsS rec o (at_ - 2) n).2 (nextOf b at_ to_) (if wholeOf (cutB b at_ to_) then f else 0) := by
  unfold J at *
  rw [h]
  have e : marksS (f + 1) b bd to_ at_ = (at_, nextOf b at_ to_, false) :: marksS (if wholeOf (cutB b at_ to_) then f else 0) b bd to_ (nextOf b at_ to_) := by
    rw [marksS, hs]
    cases wholeOf (cutB b at_ to_) <;> simp [marksS]
  rw [e, prog_ends]
  simp
theorem J_two (h : J rec b bd to_ tot o ks n at_ (f + 1)) (hs : sortS (lineOf (cutB b at_ to_)) bd = 2) : tot = (ks ++ (endsS rec o (at_ - 2) n).1, (endsS rec o (at_ - 2) n).2) := by
  unfold J at h
  have e : marksS (f + 1) b bd to_ at_ = [(at_, nextOf b at_ to_, true)] := by
    rw [marksS, hs]
    simp
  rw [h, e, prog_ends]
  simp
end
theorem sortS_le (l b : List UInt8) : sortS l b = 0 ∨ sortS l b = 1 ∨ sortS l b = 2 := by
  unfold sortS
  split
  · split
    · exact .inr (.inl rfl)
    · split
      · exact .inr (.inr rfl)
      · exact .inl rfl
  · exact .inl rfl
theorem whole_len (r : List UInt8) (h : wholeOf r = true) : (lineOf r).length + 2 ≤ r.length := by
  unfold wholeOf lineOf Lib.cut at *
  by_cases h0 : 0 ≤ Lib.index r [13, 10]
  · have := index_room r h0
    rw [if_pos h0] at h ⊢
    simp only [List.length_take] at *
    omega
  · rw [if_neg h0] at h
    simp at h
theorem next_room (b : List UInt8) (at_ to_ f : Nat) (hat : at_ ≤ to_) (ht : to_ ≤ b.length) (hf : to_ - at_ < f + 1) (h : wholeOf (cutB b at_ to_) = true) : to_ - nextOf b at_ to_ < f := by
  have := whole_len _ h
  unfold nextOf
  have hl : (cutB b at_ to_).length = to_ - at_ := by unfold cutB; simp; omega
  omega
theorem next_le (b : List UInt8) (at_ to_ : Nat) : nextOf b at_ to_ ≤ to_ := Nat.min_le_left _ _
end Go.Proofs.YtbjbljfmcpidmaaGreatDoor

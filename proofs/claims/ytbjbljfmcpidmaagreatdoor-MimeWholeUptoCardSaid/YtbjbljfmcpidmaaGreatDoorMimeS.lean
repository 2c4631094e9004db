/- A message's parts, in plain Lean. -/
import Derived.Test.YtbjbljfmcpidmaaGreatDoorPart
namespace Go.Proofs.YtbjbljfmcpidmaaGreatDoor
open Go.RowKit Go.Lib Go.Shelf
/-- A delimiter: where its line begins, where what follows begins, whether it is the last one. -/
abbrev Mark := Nat × Nat × Bool
def cutB (b : List UInt8) (fr to_ : Nat) : List UInt8 := (b.take to_).drop fr
def nextOf (b : List UInt8) (at_ to_ : Nat) : Nat := min to_ (at_ + (lineOf (cutB b at_ to_)).length + 2)
def marksS : Nat → List UInt8 → List UInt8 → Nat → Nat → List Mark
  | 0, _, _, _, _ => []
  | f + 1, b, bd, to_, at_ =>
    (if sortS (lineOf (cutB b at_ to_)) bd = 0 then [] else [(at_, nextOf b at_ to_, decide (sortS (lineOf (cutB b at_ to_)) bd = 2))]) ++
      (if sortS (lineOf (cutB b at_ to_)) bd = 2 ∨ wholeOf (cutB b at_ to_) = false then [] else marksS f b bd to_ (nextOf b at_ to_))
/-- The parts between the delimiters: what has begun, the delimiters that come, how many parts there are. -/
def progKids (rec : Nat → Nat → Nat → PT × Nat) (to_ : Nat) : Option Nat → List Mark → Nat → List PT × Nat
  | none, [], n => ([], n)
  | some g, [], n => if n < 16 then ([(rec g (max g to_) (n + 1)).1], (rec g (max g to_) (n + 1)).2) else ([], n)
  | none, m :: ms, n => if m.2.2 then ([], n) else progKids rec to_ (some m.2.1) ms n
  | some g, m :: ms, n =>
    if n < 16 then
      (if m.2.2 then ([(rec g (max g (m.1 - 2)) (n + 1)).1], (rec g (max g (m.1 - 2)) (n + 1)).2)
       else ((rec g (max g (m.1 - 2)) (n + 1)).1 :: (progKids rec to_ (some m.2.1) ms (rec g (max g (m.1 - 2)) (n + 1)).2).1, (progKids rec to_ (some m.2.1) ms (rec g (max g (m.1 - 2)) (n + 1)).2).2))
    else (if m.2.2 then ([], n) else progKids rec to_ (some m.2.1) ms n)
/-- Where a part ends. -/
def endOf (to_ g : Nat) : List Mark → Nat
  | [] => to_
  | x :: _ => max g (x.1 - 2)
/-- The same, delimiter by delimiter. -/
def refKids (rec : Nat → Nat → Nat → PT × Nat) (to_ : Nat) : List Mark → Nat → List PT × Nat
  | [], n => ([], n)
  | m :: ms, n =>
    if m.2.2 = true ∨ 16 ≤ n then ([], n)
    else ((rec m.2.1 (endOf to_ m.2.1 ms) (n + 1)).1 :: (refKids rec to_ ms (rec m.2.1 (endOf to_ m.2.1 ms) (n + 1)).2).1,
      (refKids rec to_ ms (rec m.2.1 (endOf to_ m.2.1 ms) (n + 1)).2).2)
theorem prog_many (rec : Nat → Nat → Nat → PT × Nat) (to_ : Nat) (ms : List Mark) : ∀ (o : Option Nat) (n : Nat), 16 ≤ n → progKids rec to_ o ms n = ([], n) := by
  induction ms with
  | nil =>
    intro o n h
    cases o with
    | none => rfl
    | some g => unfold progKids; rw [if_neg (by omega)]
  | cons m ms ih =>
    intro o n h
    cases o with
    | none =>
      unfold progKids
      split
      · rfl
      · exact ih _ _ h
    | some g =>
      unfold progKids
      rw [if_neg (by omega)]
      split
      · rfl
      · exact ih _ _ h
theorem prog_some (rec : Nat → Nat → Nat → PT × Nat) (to_ : Nat) (ms : List Mark) (hms : ∀ m ∈ ms, m.2.1 ≤ to_) : ∀ (g n : Nat), g ≤ to_ → n < 16 →
    progKids rec to_ (some g) ms n = ((rec g (endOf to_ g ms) (n + 1)).1 :: (refKids rec to_ ms (rec g (endOf to_ g ms) (n + 1)).2).1,
      (refKids rec to_ ms (rec g (endOf to_ g ms) (n + 1)).2).2) := by
  induction ms with
  | nil =>
    intro g n hg hn
    unfold progKids
    rw [if_pos hn, Nat.max_eq_right hg]
    rfl
  | cons m ms ih =>
    intro g n hg hn
    unfold progKids
    rw [if_pos hn]
    show _ = ((rec g (max g (m.1 - 2)) (n + 1)).1 :: (refKids rec to_ (m :: ms) (rec g (max g (m.1 - 2)) (n + 1)).2).1, (refKids rec to_ (m :: ms) (rec g (max g (m.1 - 2)) (n + 1)).2).2)
    generalize rec g (max g (m.1 - 2)) (n + 1) = r
    cases hl : m.2.2 with
    | true =>
      unfold refKids
      rw [if_pos rfl, if_pos (.inl hl)]
    | false =>
      rw [if_neg (by simp)]
      by_cases h16 : 16 ≤ r.2
      · rw [prog_many rec to_ ms _ _ h16]
        unfold refKids
        rw [if_pos (.inr h16)]
      · rw [ih (fun x hx => hms x (List.mem_cons_of_mem _ hx)) _ _ (hms m (List.mem_cons_self ..)) (by omega)]
        conv => rhs; unfold refKids
        rw [if_neg (by rw [hl]; simp; omega)]
theorem prog_ref (rec : Nat → Nat → Nat → PT × Nat) (to_ : Nat) (ms : List Mark) (hms : ∀ m ∈ ms, m.2.1 ≤ to_) (n : Nat) : progKids rec to_ none ms n = refKids rec to_ ms n := by
  cases ms with
  | nil => rfl
  | cons m ms =>
    unfold progKids refKids
    cases hl : m.2.2 with
    | true => simp
    | false =>
      rw [if_neg (by simp)]
      by_cases h16 : 16 ≤ n
      · rw [prog_many rec to_ ms _ _ h16, if_pos (.inr h16)]
      · rw [prog_some rec to_ ms (fun x hx => hms x (List.mem_cons_of_mem _ hx)) _ _ (hms m (List.mem_cons_self ..)) (by omega), if_neg (by simp; omega)]
theorem marks_next (f : Nat) (b bd : List UInt8) (to_ : Nat) : ∀ at_, ∀ m ∈ marksS f b bd to_ at_, m.2.1 ≤ to_ := by
  induction f with
  | zero => intro at_ m h; cases h
  | succ f ih =>
    intro at_ m h
    unfold marksS at h
    rcases List.mem_append.1 h with h | h
    · split at h
      · cases h
      · rw [List.mem_singleton.1 h]
        exact Nat.min_le_left _ _
    · split at h
      · cases h
      · exact ih _ m h
def mpT : List UInt8 := [77, 85, 76, 84, 73, 80, 65, 82, 84]
def partKd (b : List UInt8) (fr to_ : Nat) : List UInt8 × List UInt8 × List UInt8 := kindS (getF (hdr (cutB b fr to_)).1 ctName).1
def partEn (b : List UInt8) (fr to_ : Nat) : List UInt8 := encS (hdr (cutB b fr to_)).1
def partBo (b : List UInt8) (fr to_ : Nat) : Nat := fr + (hdr (cutB b fr to_)).2
def partKs (rec : Nat → Nat → Nat → PT × Nat) (deep : Bool) (b bd : List UInt8) (bo to_ n : Nat) : List PT × Nat :=
  if bd ≠ [] ∧ deep = true then progKids rec to_ none (marksS (to_ + 1) b bd to_ bo) n else ([], n)
def partEnd (kd : List UInt8 × List UInt8 × List UInt8) (en : List UInt8) (fr bo to_ : Nat) (ks : List PT × Nat) : PT × Nat :=
  if ks.1.isEmpty then (.mk kText kPlain [] en fr bo to_ [], ks.2) else (.mk kd.1 kd.2.1 kd.2.2 en fr bo to_ ks.1, ks.2)
def partW (rec : Nat → Nat → Nat → PT × Nat) (deep : Bool) (b : List UInt8) (fr to_ n : Nat) : PT × Nat :=
  if (partKd b fr to_).1 = mpT then partEnd (partKd b fr to_) (partEn b fr to_) fr (partBo b fr to_) to_ (partKs rec deep b (partKd b fr to_).2.2 (partBo b fr to_) to_ n)
  else (.mk (partKd b fr to_).1 (partKd b fr to_).2.1 (partKd b fr to_).2.2 (partEn b fr to_) fr (partBo b fr to_) to_ [], n)
def partS (b : List UInt8) : Nat → Nat → Nat → Nat → PT × Nat
  | 0 => partW (fun _ _ n => (.mk [] [] [] [] 0 0 0 [], n)) false b
  | k + 1 => partW (partS b k) true b
end Go.Proofs.YtbjbljfmcpidmaaGreatDoor

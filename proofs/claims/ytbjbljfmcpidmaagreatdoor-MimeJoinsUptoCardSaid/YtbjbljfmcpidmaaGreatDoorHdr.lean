/- The header's fields, in plain Lean: what header.Parse and the reference's Parse answer. -/
import Derived.Test.YtbjbljfmcpidmaaGreatDoorName
import Derived.Test.YtbjbljfmcpidmaaGreatDoorIdx
namespace Go.Proofs.YtbjbljfmcpidmaaGreatDoor
open Go.RowKit Go.Lib Go.Shelf

abbrev Fld := List UInt8 × List UInt8
def fcell (f : Fld) : List Value := [.string ⟨f.1.toArray⟩, .string ⟨f.2.toArray⟩]
def fcells (l : List Fld) : List Value := l.flatMap fcell

def lineOf (r : List UInt8) : List UInt8 := (Lib.cut r [13, 10]).1
def wholeOf (r : List UInt8) : Bool := (Lib.cut r [13, 10]).2.2
def stepOf (r : List UInt8) : Nat := (lineOf r).length + (if wholeOf r then 2 else 0)
def fldOf (x : List UInt8) : Fld := ((Lib.cut x [58]).1, (Lib.cut x [58]).2.1)
def addVal (l : List Fld) (k : Nat) (x : List UInt8) : List Fld := l.modify k fun f => (f.1, f.2 ++ x)
def headBl : List UInt8 → Bool
  | [] => false
  | x :: _ => isBl x

/-- From a line's beginning on: what is left, the fields so far, how many there were, where we are. -/
def hdrFrom : Nat → List UInt8 → List Fld → Nat → Nat → List Fld × Nat
  | 0, _, l, _, at_ => (l, at_)
  | k + 1, r, l, many, at_ =>
    if r = [] then (l, at_)
    else if lineOf r = [] ∧ wholeOf r = true then (l, at_ + 2)
    else if 0 < many ∧ headBl (lineOf r) = true then hdrFrom k (r.drop (stepOf r)) (if many ≤ 64 then addVal l (many - 1) (lineOf r) else l) many (at_ + stepOf r)
    else if nameOk (lineOf r) = false then (l, at_)
    else hdrFrom k (r.drop (stepOf r)) (if many + 1 ≤ 64 then l ++ [fldOf (lineOf r)] else l) (many + 1) (at_ + stepOf r)
def trimF1 (f : Fld) : Fld := (f.1, Lib.trimS f.2 [32, 9])
def hdrRaw (b : List UInt8) : List Fld × Nat := hdrFrom (b.length + 1) b [] 0 0
def hdr (b : List UInt8) : List Fld × Nat := ((hdrRaw b).1.map trimF1, (hdrRaw b).2)

theorem fcells_append (l m : List Fld) : fcells (l ++ m) = fcells l ++ fcells m := by simp [fcells]
theorem fcells_length (l : List Fld) : (fcells l).length = l.length * 2 := by
  induction l with
  | nil => rfl
  | cons f l ih => simp only [fcells, List.flatMap_cons, List.length_append] at *; rw [ih]; simp [fcell]; omega
theorem fcells_get (l : List Fld) : ∀ (k : Nat) (h : k < l.length), (fcells l)[2 * k]? = some (.string ⟨l[k].1.toArray⟩) ∧ (fcells l)[2 * k + 1]? = some (.string ⟨l[k].2.toArray⟩) := by
  induction l with
  | nil => intro k h; simp at h
  | cons f l ih =>
    intro k h
    cases k with
    | zero => simp [fcells, fcell]
    | succ k =>
      have h' := ih k (by simpa using h)
      have e : fcells (f :: l) = .string ⟨f.1.toArray⟩ :: .string ⟨f.2.toArray⟩ :: fcells l := by simp [fcells, fcell]
      rw [e, show 2 * (k + 1) = 2 * k + 2 from by omega, show 2 * k + 2 + 1 = 2 * k + 1 + 2 from by omega]
      simpa using h'
theorem fcells_set (l : List Fld) (k : Nat) (h : k < l.length) (x : List UInt8) : (fcells l).set (2 * k + 1) (.string ⟨x.toArray⟩) = fcells (l.set k (l[k].1, x)) := by
  induction l generalizing k with
  | nil => simp at h
  | cons f l ih =>
    cases k with
    | zero => simp [fcells, fcell]
    | succ k =>
      have e : ∀ (g : Fld) (l : List Fld), fcells (g :: l) = .string ⟨g.1.toArray⟩ :: .string ⟨g.2.toArray⟩ :: fcells l := fun g l => by simp [fcells, fcell]
      have h' := ih k (by simpa using h)
      rw [List.set_cons_succ, e, e, show 2 * (k + 1) + 1 = (2 * k + 1) + 1 + 1 from by omega, List.set_cons_succ, List.set_cons_succ, h']
      simp
theorem addVal_set (l : List Fld) (k : Nat) (h : k < l.length) (x : List UInt8) : addVal l k x = l.set k (l[k].1, l[k].2 ++ x) := by
  unfold addVal
  apply List.ext_getElem?
  intro j
  rw [List.getElem?_modify, List.getElem?_set]
  by_cases e : k = j
  · subst e; simp [h]
  · simp [e]
theorem addVal_length (l : List Fld) (k : Nat) (x : List UInt8) : (addVal l k x).length = l.length := by simp [addVal]
/-- every value is of fewer bytes than so many -/
def FitF (l : List Fld) (n : Nat) : Prop := ∀ f ∈ l, f.1.length + f.2.length ≤ n
theorem FitF.nil (n : Nat) : FitF [] n := fun _ h => by cases h
theorem FitF.mono {l : List Fld} {n m : Nat} (h : FitF l n) (hm : n ≤ m) : FitF l m := fun f hf => Nat.le_trans (h f hf) hm
theorem FitF.snoc {l : List Fld} {n m : Nat} (h : FitF l n) (f : Fld) (hf : f.1.length + f.2.length ≤ m) (hm : n ≤ m) : FitF (l ++ [f]) m := fun g hg => by
  rcases List.mem_append.1 hg with h1 | h1
  · exact Nat.le_trans (h g h1) hm
  · rw [List.mem_singleton.1 h1]; exact hf
theorem FitF.add {l : List Fld} {n m : Nat} (h : FitF l n) (k : Nat) (x : List UInt8) (hx : n + x.length ≤ m) : FitF (addVal l k x) m := fun g hg => by
  unfold addVal at hg
  obtain ⟨j, hj, rfl⟩ := List.getElem_of_mem hg
  have hj' : j < l.length := by simpa using hj
  have := h l[j] (List.getElem_mem hj')
  rw [List.getElem_modify]
  split
  · simp; omega
  · omega
end Go.Proofs.YtbjbljfmcpidmaaGreatDoor

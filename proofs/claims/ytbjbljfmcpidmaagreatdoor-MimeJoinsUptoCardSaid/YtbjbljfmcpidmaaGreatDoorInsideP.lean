/- mime: parts lie within their part's body, one behind the other, in plain Lean. -/
import Derived.Test.YtbjbljfmcpidmaaGreatDoorMimeS
namespace Go.Proofs.YtbjbljfmcpidmaaGreatDoor
open Go.RowKit Go.Lib Go.Shelf
def PT.fr : PT → Nat
  | .mk _ _ _ _ f _ _ _ => f
def PT.bo : PT → Nat
  | .mk _ _ _ _ _ b _ _ => b
def PT.to : PT → Nat
  | .mk _ _ _ _ _ _ t _ => t
def PT.kids : PT → List PT
  | .mk _ _ _ _ _ _ _ l => l
mutual
/-- How many parts there are within a part, if they lie in it, one behind the other. -/
def insideP (deep : Nat) : PT → Option Nat
  | .mk _ _ _ _ f b t l => if f ≤ b ∧ b ≤ t ∧ deep ≤ 4 then insideL (deep + 1) b t l else none
def insideL (deep at_ t : Nat) : List PT → Option Nat
  | [] => some 0
  | x :: l => if at_ ≤ PT.fr x ∧ PT.to x ≤ t then (insideP deep x).bind fun m => (insideL deep (PT.to x) t l).map fun r => m + 1 + r else none
end
/-- Delimiters, one behind the other. -/
def Chain (to_ : Nat) : Nat → List Mark → Prop
  | _, [] => True
  | lo, m :: ms => lo ≤ m.1 ∧ m.1 ≤ m.2.1 ∧ m.2.1 ≤ to_ ∧ Chain to_ m.2.1 ms
theorem Chain.weak {to_ lo lo' : Nat} {ms : List Mark} (h : Chain to_ lo' ms) (hl : lo ≤ lo') : Chain to_ lo ms := by
  cases ms with
  | nil => trivial
  | cons m ms => exact ⟨Nat.le_trans hl h.1, h.2⟩
theorem next_ge (b : List UInt8) (at_ to_ : Nat) (h : at_ ≤ to_) : at_ ≤ nextOf b at_ to_ := by
  unfold nextOf
  omega
theorem marks_chain (b bd : List UInt8) (to_ : Nat) : ∀ f at_, at_ ≤ to_ → Chain to_ at_ (marksS f b bd to_ at_) := by
  intro f
  induction f with
  | zero => intro at_ _; trivial
  | succ f ih =>
    intro at_ h
    have h1 := next_ge b at_ to_ h
    have h2 : nextOf b at_ to_ ≤ to_ := Nat.min_le_left _ _
    have hr : Chain to_ (nextOf b at_ to_) (if sortS (lineOf (cutB b at_ to_)) bd = 2 ∨ wholeOf (cutB b at_ to_) = false then [] else marksS f b bd to_ (nextOf b at_ to_)) := by
      split
      · trivial
      · exact ih _ h2
    unfold marksS
    split
    · exact hr.weak h1
    · exact ⟨Nat.le_refl _, h1, h2, hr⟩
/-- What is known of one part. -/
def InsOk (deep f t n : Nat) (r : PT × Nat) : Prop := r.1.fr = f ∧ r.1.to = t ∧ ∃ m, insideP deep r.1 = some m ∧ r.2 = n + m
theorem prog_inside (rec : Nat → Nat → Nat → PT × Nat) (deep to_ : Nat) (hrec : ∀ f t n, f ≤ t → t ≤ to_ → InsOk deep f t n (rec f t n)) (ms : List Mark) : ∀ (o : Option Nat) (n lo at_ : Nat), at_ ≤ lo → lo ≤ to_ → (∀ g, o = some g → at_ ≤ g ∧ g ≤ lo) → Chain to_ lo ms →
    ∃ m, insideL deep at_ to_ (progKids rec to_ o ms n).1 = some m ∧ (progKids rec to_ o ms n).2 = n + m := by
  have one : ∀ (g e n at_ : Nat) (l : List PT) (N M : Nat), at_ ≤ g → g ≤ e → e ≤ to_ → insideL deep e to_ l = some M → N = (rec g e (n + 1)).2 + M → ∃ m, insideL deep at_ to_ ((rec g e (n + 1)).1 :: l) = some m ∧ N = n + m := by
    intro g e n at_ l N M h1 h2 h3 h4 h5
    obtain ⟨r1, r2, m, r3, r4⟩ := hrec g e (n + 1) h2 h3
    refine ⟨m + 1 + M, ?_, by omega⟩
    unfold insideL
    rw [if_pos ⟨by omega, by omega⟩, r3, r2, h4]
    rfl
  induction ms with
  | nil =>
    intro o n lo at_ h1 h2 ho hc
    cases o with
    | none => exact ⟨0, by simp [progKids, insideL], by simp [progKids]⟩
    | some g =>
      obtain ⟨g1, g2⟩ := ho g rfl
      unfold progKids
      by_cases hn : n < 16
      · rw [if_pos hn]
        exact one g (max g to_) n at_ [] _ 0 g1 (Nat.le_max_left _ _) (by omega) (by simp [insideL]) (by omega)
      · rw [if_neg hn]
        exact ⟨0, by simp [insideL], by simp⟩
  | cons m ms ih =>
    intro o n lo at_ h1 h2 ho hc
    obtain ⟨c1, c2, c3, c4⟩ := hc
    cases o with
    | none =>
      unfold progKids
      split
      · exact ⟨0, by simp [insideL], by simp⟩
      · exact ih (some m.2.1) n m.2.1 at_ (by omega) c3 (fun g hg => by cases hg; omega) c4
    | some g =>
      obtain ⟨g1, g2⟩ := ho g rfl
      unfold progKids
      have he : max g (m.1 - 2) ≤ m.2.1 := by omega
      split
      · split
        · exact one g (max g (m.1 - 2)) n at_ [] _ 0 g1 (Nat.le_max_left _ _) (by omega) (by simp [insideL]) (by omega)
        · obtain ⟨M, q1, q2⟩ := ih (some m.2.1) (rec g (max g (m.1 - 2)) (n + 1)).2 m.2.1 (max g (m.1 - 2)) he c3 (fun g hg => by cases hg; omega) c4
          exact one g (max g (m.1 - 2)) n at_ _ _ M g1 (Nat.le_max_left _ _) (by omega) q1 q2
      · split
        · exact ⟨0, by simp [insideL], by simp⟩
        · exact ih (some m.2.1) n m.2.1 at_ (by omega) c3 (fun g hg => by cases hg; omega) c4
theorem hdrFrom_le (k : Nat) : ∀ (r : List UInt8) (l : List Fld) (many at_ : Nat), at_ ≤ (hdrFrom k r l many at_).2 ∧ (hdrFrom k r l many at_).2 ≤ at_ + r.length := by
  induction k with
  | zero => intro r l many at_; unfold hdrFrom; dsimp only; omega
  | succ k ih =>
    intro r l many at_
    have hs := line_le r
    have hst : stepOf r = (lineOf r).length + (if wholeOf r then 2 else 0) := rfl
    unfold hdrFrom
    split
    · dsimp only; omega
    · split
      · rename_i h
        rw [h.2] at hs
        simp only [if_true] at hs
        dsimp only
        omega
      · split
        · have := ih (r.drop (stepOf r)) (if many ≤ 64 then addVal l (many - 1) (lineOf r) else l) many (at_ + stepOf r)
          rw [List.length_drop] at this
          omega
        · split
          · dsimp only; omega
          · have := ih (r.drop (stepOf r)) (if many + 1 ≤ 64 then l ++ [fldOf (lineOf r)] else l) (many + 1) (at_ + stepOf r)
            rw [List.length_drop] at this
            omega
theorem hdr_le (b : List UInt8) : (hdr b).2 ≤ b.length := by
  have := (hdrFrom_le (b.length + 1) b [] 0 0).2
  show (hdrRaw b).2 ≤ _
  unfold hdrRaw
  omega
theorem bo_le (b : List UInt8) (fr to_ : Nat) (h : fr ≤ to_) (ht : to_ ≤ b.length) : fr ≤ partBo b fr to_ ∧ partBo b fr to_ ≤ to_ := by
  have := hdr_le (cutB b fr to_)
  have hl : (cutB b fr to_).length = to_ - fr := by unfold cutB; simp; omega
  unfold partBo
  omega
theorem partW_inside (rec : Nat → Nat → Nat → PT × Nat) (dp : Bool) (b : List UInt8) (deep fr to_ n : Nat) (hd : deep ≤ 4) (h : fr ≤ to_) (ht : to_ ≤ b.length) (hrec : dp = true → ∀ f t n, f ≤ t → t ≤ to_ → InsOk (deep + 1) f t n (rec f t n)) :
    InsOk deep fr to_ n (partW rec dp b fr to_ n) := by
  obtain ⟨b1, b2⟩ := bo_le b fr to_ h ht
  have none0 : ∀ a1 a2 a3 a4, InsOk deep fr to_ n (.mk a1 a2 a3 a4 fr (partBo b fr to_) to_ [], n) := fun a1 a2 a3 a4 =>
    ⟨rfl, rfl, 0, by unfold insideP; rw [if_pos ⟨b1, b2, hd⟩]; simp [insideL], rfl⟩
  unfold partW
  split
  · unfold partEnd
    have hks : ∃ m, insideL (deep + 1) (partBo b fr to_) to_ (partKs rec dp b (partKd b fr to_).2.2 (partBo b fr to_) to_ n).1 = some m ∧ (partKs rec dp b (partKd b fr to_).2.2 (partBo b fr to_) to_ n).2 = n + m := by
      unfold partKs
      split
      · rename_i hc
        exact prog_inside rec (deep + 1) to_ (hrec hc.2) _ none n (partBo b fr to_) (partBo b fr to_) (Nat.le_refl _) b2 (fun g hg => by cases hg) (marks_chain _ _ _ _ _ b2)
      · exact ⟨0, by simp [insideL], by simp⟩
    generalize partKs rec dp b (partKd b fr to_).2.2 (partBo b fr to_) to_ n = ks at *
    obtain ⟨l, N⟩ := ks
    obtain ⟨m, k1, k2⟩ := hks
    dsimp only at *
    split
    · rename_i he
      obtain rfl : l = [] := List.isEmpty_iff.1 he
      have : m = 0 := by simpa [insideL] using k1.symm
      subst this
      rw [k2]
      exact none0 _ _ _ _
    · exact ⟨rfl, rfl, m, by unfold insideP; rw [if_pos ⟨b1, b2, hd⟩]; exact k1, k2⟩
  · exact none0 _ _ _ _
theorem partS_inside (b : List UInt8) : ∀ k deep fr to_ n, deep + k = 4 → fr ≤ to_ → to_ ≤ b.length → InsOk deep fr to_ n (partS b k fr to_ n)
  | 0, deep, fr, to_, n, hd, h, ht => partW_inside _ false b deep fr to_ n (by omega) h ht (fun e => by cases e)
  | k + 1, deep, fr, to_, n, hd, h, ht => partW_inside _ true b deep fr to_ n (by omega) h ht (fun _ f t n h1 h2 => partS_inside b k (deep + 1) f t n (by omega) h1 (by omega))
end Go.Proofs.YtbjbljfmcpidmaaGreatDoor

/- A message's parts: as a tree, and as they lie in memory. -/
import Derived.Test.YtbjbljfmcpidmaaGreatDoorEnc
namespace Go.Proofs.YtbjbljfmcpidmaaGreatDoor
open Go.RowKit Go.Lib Go.Shelf
/-- A part. -/
inductive PT where
  | mk (ty sub bnd enc : List UInt8) (fr bo to_ : Nat) (kids : List PT)
/-- A part, and where its parts lie. -/
inductive MP where
  | mk (ty sub bnd enc : List UInt8) (fr bo to_ : Nat) (A : Option Addr) (c : Nat) (kids : List MP)
def mkids : MP → List MP
  | .mk _ _ _ _ _ _ _ _ _ kids => kids
def mcell : MP → List Value
  | .mk ty sub bnd enc fr bo to_ A c kids => [.string ⟨ty.toArray⟩, .string ⟨sub.toArray⟩, .string ⟨bnd.toArray⟩, .string ⟨enc.toArray⟩, .int .i64 (fr : Int), .int .i64 (bo : Int), .int .i64 (to_ : Int), .slice A kids.length c]
def mval (m : MP) : Value := .agg (mcell m).toArray
def mcells (l : List MP) : List Value := l.flatMap mcell
mutual
def erase : MP → PT
  | .mk ty sub bnd enc fr bo to_ _ _ kids => .mk ty sub bnd enc fr bo to_ (erases kids)
def erases : List MP → List PT
  | [] => []
  | m :: l => erase m :: erases l
end
mutual
/-- The part's parts lie in memory, in blocks that meet q. -/
def MOk (q : Nat → Prop) (w : World) : MP → Prop
  | .mk _ _ _ _ _ _ _ A c kids => RowIn w A (mcells kids) ∧ kids.length ≤ c ∧ (kids ≠ [] → ∀ ad, A = some ad → q ad.block) ∧ MOks q w kids
def MOks (q : Nat → Prop) (w : World) : List MP → Prop
  | [] => True
  | m :: l => MOk q w m ∧ MOks q w l
end
theorem erases_map (l : List MP) : erases l = l.map erase := by
  induction l with
  | nil => rfl
  | cons m l ih => simp [erases, ih]
theorem MOks_all {q : Nat → Prop} {w : World} (l : List MP) : MOks q w l ↔ ∀ m ∈ l, MOk q w m := by
  induction l with
  | nil => simp [MOks]
  | cons m l ih => simp [MOks, ih]
theorem mcell_len (m : MP) : (mcell m).length = 8 := by cases m; rfl
theorem mcells_len (l : List MP) : (mcells l).length = l.length * 8 := by
  induction l with
  | nil => rfl
  | cons m l ih => simp only [mcells, List.flatMap_cons, List.length_append, mcell_len, List.length_cons] at *; omega
theorem mcells_app (l m : List MP) : mcells (l ++ m) = mcells l ++ mcells m := by simp [mcells]
theorem mcells_get (l : List MP) : ∀ (k : Nat) (h : k < l.length) (j : Nat), j < 8 → (mcells l)[k * 8 + j]? = (mcell l[k])[j]? := by
  induction l with
  | nil => intro k h; simp at h
  | cons m l ih =>
    intro k h j hj
    have e : mcells (m :: l) = mcell m ++ mcells l := by simp [mcells]
    cases k with
    | zero =>
      rw [e, List.getElem?_append_left (by rw [mcell_len]; omega)]
      simp
    | succ k =>
      rw [e, List.getElem?_append_right (by rw [mcell_len]; omega), mcell_len, show (k + 1) * 8 + j - 8 = k * 8 + j from by omega]
      exact ih k (by simpa using h) j hj
theorem mcell_one (m : MP) : ∀ u ∈ mcell m, u.oneCell' = true := by
  intro u hu
  cases m
  simp [mcell] at hu
  rcases hu with rfl | rfl | rfl | rfl | rfl | rfl | rfl | rfl <;> rfl
theorem mcells_one (l : List MP) : ∀ u ∈ mcells l, u.oneCell' = true := by
  intro u hu
  simp only [mcells, List.mem_flatMap] at hu
  obtain ⟨m, _, hu⟩ := hu
  exact mcell_one m u hu
theorem row_keep {w w' : World} {A : Option Addr} {cs : List Value} (h : RowIn w A cs) (hs : w.heap.size ≤ w'.heap.size) (hb : cs ≠ [] → ∀ ad, A = some ad → w'.heap[ad.block]? = w.heap[ad.block]?) : RowIn w' A cs := fun hne => by
  obtain ⟨b, o, rfl, hlt, hc⟩ := h hne
  have hk := hb hne _ rfl
  refine ⟨b, o, rfl, Nat.lt_of_lt_of_le hlt hs, fun j u hu => ?_⟩
  have := hc j u hu
  simp only [World.cell?] at this ⊢
  rw [hk]
  exact this
mutual
theorem MOk.keep {q : Nat → Prop} {w w' : World} (hs : w.heap.size ≤ w'.heap.size) (hb : ∀ b, q b → w'.heap[b]? = w.heap[b]?) : ∀ m, MOk q w m → MOk q w' m
  | .mk _ _ _ _ _ _ _ A c kids, h => by
    obtain ⟨h1, h2, h3, h4⟩ := h
    refine ⟨row_keep h1 hs fun hne ad e => hb _ (h3 (fun e => hne (by rw [e]; rfl)) ad e), h2, h3, MOks.keep hs hb kids h4⟩
theorem MOks.keep {q : Nat → Prop} {w w' : World} (hs : w.heap.size ≤ w'.heap.size) (hb : ∀ b, q b → w'.heap[b]? = w.heap[b]?) : ∀ l, MOks q w l → MOks q w' l
  | [], _ => trivial
  | m :: l, h => ⟨MOk.keep hs hb m h.1, MOks.keep hs hb l h.2⟩
end
mutual
theorem MOk.weak {q q' : Nat → Prop} {w : World} (hq : ∀ b, q b → q' b) : ∀ m, MOk q w m → MOk q' w m
  | .mk _ _ _ _ _ _ _ _A _c kids, h => ⟨h.1, h.2.1, fun hne ad e => hq _ (h.2.2.1 hne ad e), MOks.weak hq kids h.2.2.2⟩
theorem MOks.weak {q q' : Nat → Prop} {w : World} (hq : ∀ b, q b → q' b) : ∀ l, MOks q w l → MOks q' w l
  | [], _ => trivial
  | m :: l, h => ⟨MOk.weak hq m h.1, MOks.weak hq l h.2⟩
end
mutual
/-- Each block that bears a part's parts is one of the world's. -/
theorem MOk.lt {q : Nat → Prop} {w : World} : ∀ m, MOk q w m → MOk (fun b => q b ∧ b < w.heap.size) w m
  | .mk _ _ _ _ _ _ _ A c kids, h => by
    obtain ⟨h1, h2, h3, h4⟩ := h
    refine ⟨h1, h2, fun hne ad e => ⟨h3 hne ad e, ?_⟩, MOks.lt kids h4⟩
    obtain ⟨b, o, e2, hlt, _⟩ := h1 (by intro e; have := congrArg List.length e; rw [mcells_len] at this; simp only [List.length_nil] at this; exact hne (List.length_eq_zero_iff.1 (by omega)))
    rw [e] at e2
    cases e2
    exact hlt
theorem MOks.lt {q : Nat → Prop} {w : World} : ∀ l, MOks q w l → MOks (fun b => q b ∧ b < w.heap.size) w l
  | [], _ => trivial
  | m :: l, h => ⟨MOk.lt m h.1, MOks.lt l h.2⟩
end
theorem MOk.below {q : Nat → Prop} {w w' : World} {m : MP} (h : MOk q w m) (hb : Below w.heap.size w w') : MOk q w' m :=
  MOk.weak (fun _ h => h.1) m (MOk.keep hb.size (fun b hq => hb.block b hq.2) m (MOk.lt m h))
end Go.Proofs.YtbjbljfmcpidmaaGreatDoor

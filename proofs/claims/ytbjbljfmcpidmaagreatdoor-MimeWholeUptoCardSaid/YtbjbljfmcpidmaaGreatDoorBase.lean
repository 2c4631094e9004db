/- What all texts of this seat share: rows of memory that are read, the package-level variables, scopes with several labels. -/
import Derived.Test.YtbjbljfmcpidmaaGreatDoorShelf
import Derived.WalkKit
import Derived.WalkSpells
import Derived.WalkLawsBesides
import Derived.KernelRfl
import Derived.Lib.Hide
import Derived.BigQuiet
import Derived.Deep.QuietTactic
import Derived.ScopeJumps
import Derived.Deep.LoopGhost
import Derived.WalkSmall
import Derived.Shelf.Strings.SlTrimAscii
namespace Go.Proofs.YtbjbljfmcpidmaaGreatDoor
open Go.RowKit Go.Lib Go.Shelf

/-! ## scopes with several labels -/
def jumps (J : Nat → Act → World → Prop) (Q : Exit → Act → World → Prop) : Exit → Act → World → Prop
  | .goto l, a, w => J l a w
  | e, a, w => Q e a w

theorem wp_scope_many {P : Program} {a : Act} {w : World} {Q : Exit → Act → World → Prop} {c : Code} (J : Nat → Act → World → Prop) (μ : Nat → Act → World → Nat) (rest : Nat → Code)
    (hf : ∀ l a w, J l a w → findLabel c l = some (rest l))
    (first : c.wp P (jumps J Q) a w)
    (pass : ∀ l a w, J l a w → (rest l).wp P (jumps (fun l' a' w' => J l' a' w' ∧ μ l' a' w' < μ l a w) Q) a w) : (Code.scope c).wp P Q a w := by
  intro b k cs
  have key : ∀ n l a w, μ l a w = n → J l a w → ∃ e a' w', Q e a' w' ∧ Arrives P (lone (b.at a (.code (rest l) :: .inScope c :: k)) cs w) b k cs e a' w' := by
    intro n
    induction n using Nat.strongRecOn with
    | _ n ih =>
      intro l a w hn hJ
      obtain ⟨e, a₁, w₁, hq, harr⟩ := pass l a w hJ b (.inScope c :: k) cs
      cases e with
      | normal => exact ⟨.normal, a₁, w₁, hq, Steps.trans harr (.one step_inScope)⟩
      | exit id => exact ⟨.exit id, a₁, w₁, hq, fun k' hk => harr k' (by simp [exitTo, hk])⟩
      | goto l' =>
        obtain ⟨hJ', hlt⟩ := hq
        obtain ⟨e₂, a₂, w₂, hq₂, harr₂⟩ := ih _ (by omega) l' a₁ w₁ rfl hJ'
        exact ⟨e₂, a₂, w₂, hq₂, .of_steps (harr _ (by simp [gotoIn, hf l' a₁ w₁ hJ'])) harr₂⟩
      | ret => exact ⟨_, a₁, w₁, hq, harr⟩
      | panic ch => exact ⟨_, a₁, w₁, hq, harr⟩
      | outgrown => exact ⟨_, a₁, w₁, hq, harr⟩
  obtain ⟨e, a₁, w₁, hq, harr⟩ := first b (.inScope c :: k) cs
  cases e with
  | normal => exact ⟨.normal, a₁, w₁, hq, .head step_scope (Steps.trans harr (.one step_inScope))⟩
  | exit id => exact ⟨.exit id, a₁, w₁, hq, fun k' hk => .head step_scope (harr k' (by simp [exitTo, hk]))⟩
  | goto l' =>
    obtain ⟨e₂, a₂, w₂, hq₂, harr₂⟩ := key _ l' a₁ w₁ rfl hq
    exact ⟨e₂, a₂, w₂, hq₂, .of_steps (.head step_scope (harr _ (by simp [gotoIn, hf l' a₁ w₁ hq]))) harr₂⟩
  | ret => exact ⟨_, a₁, w₁, hq, .of_steps (.one step_scope) harr⟩
  | panic ch => exact ⟨_, a₁, w₁, hq, .of_steps (.one step_scope) harr⟩
  | outgrown => exact ⟨_, a₁, w₁, hq, .of_steps (.one step_scope) harr⟩

/-! ## rows that are read -/
/-- The cells from an address on. -/
def RowIn (w : World) (A : Option Addr) (cs : List Value) : Prop :=
  cs ≠ [] → ∃ b o, A = some ⟨b, o, none⟩ ∧ b < w.heap.size ∧ ∀ j u, cs[j]? = some u → w.cell? ⟨b, o + j, none⟩ = some u

theorem RowIn.nil (w : World) (A : Option Addr) : RowIn w A [] := fun h => absurd rfl h
theorem RowIn.below {w w' : World} {A : Option Addr} {cs : List Value} (h : RowIn w A cs) (hb : Below w.heap.size w w') : RowIn w' A cs := fun hne => by
  obtain ⟨b, o, e, hlt, hc⟩ := h hne
  exact ⟨b, o, e, Nat.lt_of_lt_of_le hlt hb.size, fun j u hu => (hb.cell (p := ⟨b, o + j, none⟩) hlt).trans (hc j u hu)⟩
theorem RowIn.drop {w : World} {b o : Nat} {cs : List Value} (k : Nat) (h : RowIn w (some ⟨b, o, none⟩) cs) : RowIn w (some ⟨b, o + k, none⟩) (cs.drop k) := fun hne => by
  obtain ⟨b', o', e, hlt, hc⟩ := h (fun e => hne (by simp [e]))
  simp only [Option.some.injEq, Addr.mk.injEq, and_true] at e
  obtain ⟨rfl, rfl⟩ := e
  exact ⟨b, o + k, rfl, hlt, fun j u hu => by rw [Nat.add_assoc]; exact hc (k + j) u (by rwa [List.getElem?_drop] at hu)⟩
theorem RowIn.take {w : World} {A : Option Addr} {cs : List Value} (k : Nat) (h : RowIn w A cs) : RowIn w A (cs.take k) := fun hne => by
  obtain ⟨b, o, e, hlt, hc⟩ := h (fun e => hne (by simp [e]))
  refine ⟨b, o, e, hlt, fun j u hu => hc j u ?_⟩
  rw [List.getElem?_take] at hu
  split at hu
  · exact hu
  · simp at hu
theorem RowIn.addr {w : World} {A : Option Addr} {cs : List Value} (h : RowIn w A cs) (hne : cs ≠ []) : ∃ b o, A = some ⟨b, o, none⟩ ∧ b < w.heap.size := by
  obtain ⟨b, o, e, hlt, _⟩ := h hne
  exact ⟨b, o, e, hlt⟩
theorem RowIn.cell {w : World} {b o : Nat} {cs : List Value} (h : RowIn w (some ⟨b, o, none⟩) cs) (j : Nat) (u : Value) (hu : cs[j]? = some u) : w.cell? ⟨b, o + j, none⟩ = some u := by
  obtain ⟨b', o', e, _, hc⟩ := h (fun e => by simp [e] at hu)
  simp only [Option.some.injEq, Addr.mk.injEq, and_true] at e
  obtain ⟨rfl, rfl⟩ := e
  exact hc j u hu

theorem owns_below {B e size : Nat} {w w' : World} {v : Value} {n : Nat} {xs : List Value} (h : w.ownsRow B e size v n xs) (hb : Below w.heap.size w w') : w'.ownsRow B e size v n xs := by
  refine ⟨h.1, h.2.imp id fun ⟨g, cap, cur, e1, e2, e3, e4⟩ => ⟨g, cap, cur, e1, e2, ?_, e4⟩⟩
  have hlt : g < w.heap.size := by
    rcases Nat.lt_or_ge g w.heap.size with h | h
    · exact h
    · simp [Array.getElem?_eq_none h] at e3
  rw [hb.block g hlt]; exact e3
theorem owns_mono {B B' e size : Nat} {w : World} {v : Value} {n : Nat} {xs : List Value} (h : w.ownsRow B e size v n xs) (hb : B' ≤ B) : w.ownsRow B' e size v n xs :=
  ⟨h.1, h.2.imp id fun ⟨g, cap, cur, e1, e2, e3⟩ => ⟨g, cap, cur, e1, Nat.le_trans hb e2, e3⟩⟩
/-- An owned row's value. -/
theorem owns_open {B e size : Nat} {w : World} {v : Value} {n : Nat} {xs : List Value} (h : w.ownsRow B e size v n xs) : ∃ A c, v = .slice A n c ∧ n ≤ c ∧ c ≤ maxLen ∧ RowIn w A xs ∧ (A = none → c = 0) := by
  obtain ⟨hl, ⟨rfl, rfl⟩ | ⟨g, cap, cur, rfl, hB, hg, hn, hm, hs, ht⟩⟩ := h
  · obtain rfl : xs = [] := List.eq_nil_of_length_eq_zero (by simpa using hl)
    exact ⟨none, 0, rfl, Nat.le_refl _, Nat.zero_le _, RowIn.nil _ _, fun _ => rfl⟩
  · refine ⟨_, cap, rfl, hn, hm, fun _ => ⟨g, 0, rfl, ?_, fun j u hu => ?_⟩, fun h => by cases h⟩
    · rcases Nat.lt_or_ge g w.heap.size with h | h
      · exact h
      · simp [Array.getElem?_eq_none h] at hg
    · rw [Nat.zero_add, cell_of_row w g j cur e (0, 0) hg]
      rw [← ht, List.getElem?_take] at hu
      split at hu
      · simpa using hu
      · simp at hu

/-! ## bytes -/
def cell8 (x : UInt8) : Value := .int .u8 (x.toNat : Int)
def bcells (l : List UInt8) : List Value := l.map cell8
theorem bytesOf_toNat (l : List UInt8) : Lib.bytesOf (l.map fun x => (x.toNat : Int)) = l := by
  induction l with
  | nil => rfl
  | cons x l ih => simp only [Lib.bytesOf, List.map_cons, List.map_map] at *; rw [ih]; simp
theorem RowIn.bytesIn {w : World} {A : Option Addr} {l : List UInt8} {n : Nat} (h : RowIn w A (bcells l)) (hn : l.length = n) : Lib.BytesIn w A n (l.map fun x => (x.toNat : Int)) := fun hp => by
  obtain ⟨b, o, e, _, hc⟩ := h (fun e => by simp [bcells] at e; simp [e] at hn; omega)
  refine ⟨b, o, e, fun i hi => hc i _ ?_⟩
  simp [bcells, cell8, hn, hi]
theorem range_bytes (l : List UInt8) : ∀ x ∈ (l.map fun x => (x.toNat : Int)), 0 ≤ x ∧ x < 256 := by
  intro x hx
  obtain ⟨y, _, rfl⟩ := List.mem_map.1 hx
  have := y.toNat_lt
  omega

/-! ## the package-level variables -/
def Gl (w : World) : Prop := (∃ m, w.cell? ⟨0, 0, none⟩ = some (.int .i64 m)) ∧ Lib.Utf8Tabs 2 3 w
theorem lt_of_cell {w : World} {b o : Nat} {u : Value} (h : w.cell? ⟨b, o, none⟩ = some u) : b < w.heap.size := by
  rcases Nat.lt_or_ge b w.heap.size with g | g
  · exact g
  · simp [World.cell?, Array.getElem?_eq_none g] at h
theorem cell_below {w w' : World} (hb : Below w.heap.size w w') {b o : Nat} {u : Value} (h : w.cell? ⟨b, o, none⟩ = some u) : w'.cell? ⟨b, o, none⟩ = some u :=
  (hb.cell (p := ⟨b, o, none⟩) (lt_of_cell h)).trans h
theorem Gl.below {w w' : World} (h : Gl w) (hb : Below w.heap.size w w') : Gl w' :=
  ⟨h.1.imp fun _ hm => cell_below hb hm, fun c hc => cell_below hb (h.2.1 c hc), fun i hi => ⟨cell_below hb (h.2.2 i hi).1, cell_below hb (h.2.2 i hi).2⟩⟩
end Go.Proofs.YtbjbljfmcpidmaaGreatDoor

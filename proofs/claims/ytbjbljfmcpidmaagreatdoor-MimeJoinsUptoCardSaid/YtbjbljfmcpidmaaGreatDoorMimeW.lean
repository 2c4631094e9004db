/- mime: what the reading of parts keeps in memory. -/
import Derived.Test.YtbjbljfmcpidmaaGreatDoorMimeS
import Derived.Test.YtbjbljfmcpidmaaGreatDoorAppB
namespace Go.Proofs.YtbjbljfmcpidmaaGreatDoor
open Go.RowKit Go.Lib Go.Shelf
/-- A frame: of the blocks that were there those alone may have turned that S names. -/
structure Fr (S : Nat → Prop) (w w' : World) : Prop where
  os : w'.os = w.os
  tape : w'.tape = w.tape
  output : w'.output = w.output
  size : w.heap.size ≤ w'.heap.size
  block : ∀ k, k < w.heap.size → ¬ S k → w'.heap[k]? = w.heap[k]?
theorem Fr.refl (S : Nat → Prop) (w : World) : Fr S w w := ⟨rfl, rfl, rfl, Nat.le_refl _, fun _ _ _ => rfl⟩
theorem Fr.of_below {S : Nat → Prop} {w w' : World} (h : Below w.heap.size w w') : Fr S w w' := ⟨h.os, h.tape, h.output, h.size, fun k hk _ => h.block k hk⟩
theorem Fr.of_grown {S : Nat → Prop} {w w' : World} {row : Option Nat} (h : w.grownBy w' row) (hS : ∀ g, row = some g → g < w.heap.size → S g) : Fr S w w' :=
  ⟨h.os, h.tape, h.output, h.size, fun k hk hn => h.block k hk fun e => hn (hS k e.symm hk)⟩
theorem Fr.trans {S : Nat → Prop} {w w1 w2 : World} (h : Fr S w w1) (k : Fr S w1 w2) : Fr S w w2 :=
  ⟨k.os.trans h.os, k.tape.trans h.tape, k.output.trans h.output, Nat.le_trans h.size k.size, fun i hi hn => (k.block i (Nat.lt_of_lt_of_le hi h.size) hn).trans (h.block i hi hn)⟩
theorem Fr.weak {S S' : Nat → Prop} {w w' : World} (h : Fr S w w') (hS : ∀ k, S k → S' k) : Fr S' w w' := ⟨h.os, h.tape, h.output, h.size, fun k hk hn => h.block k hk fun e => hn (hS k e)⟩
theorem Fr.set {S : Nat → Prop} {w w' : World} (h : Fr S w w') {p : Addr} (hp : S p.block ∨ w.heap.size ≤ p.block) (u : Value) : Fr S w (w'.setCell p u) :=
  ⟨h.os, h.tape, h.output, by simpa [World.setCell] using h.size, fun k hk hn => (Below.heap_setCell _ _ _ _ (by
    intro e
    rcases hp with hp | hp
    · exact hn (by rw [e]; exact hp)
    · omega)).trans (h.block k hk hn)⟩
theorem Fr.cell {S : Nat → Prop} {w w' : World} (h : Fr S w w') {b o : Nat} {u : Value} (hn : ¬ S b) (hc : w.cell? ⟨b, o, none⟩ = some u) : w'.cell? ⟨b, o, none⟩ = some u := by
  have hlt := lt_of_cell hc
  simp only [World.cell?] at hc ⊢
  rw [h.block b hlt hn]
  exact hc
theorem Fr.frozen {S : Nat → Prop} {w w' : World} (h : Fr S w w') {b o : Nat} (hn : ¬ S b) (hlt : b < w.heap.size) (hf : w.frozen? ⟨b, o, none⟩ = false) : w'.frozen? ⟨b, o, none⟩ = false := by
  simp only [World.frozen?] at hf ⊢
  rw [h.block b hlt hn]
  exact hf
theorem Fr.row {S : Nat → Prop} {w w' : World} (h : Fr S w w') {A : Option Addr} {cs : List Value} (hn : cs ≠ [] → ∀ ad, A = some ad → ¬ S ad.block) (hr : RowIn w A cs) : RowIn w' A cs :=
  row_keep hr h.size fun hne ad e => by
    obtain ⟨b, o, e2, hlt, _⟩ := hr hne
    rw [e] at e2
    cases e2
    exact h.block _ hlt (hn hne _ e)
theorem Fr.gl {S : Nat → Prop} {w w' : World} (h : Fr S w w') (h1 : ¬ S 0) (h2 : ¬ S 2) (h3 : ¬ S 3) (hg : Gl w) : Gl w' :=
  ⟨hg.1.imp fun _ hm => h.cell h1 hm, fun c hc => h.cell h2 (hg.2.1 c hc), fun i hi => ⟨h.cell h3 (hg.2.2 i hi).1, h.cell h3 (hg.2.2 i hi).2⟩⟩
/-- A reader of parts lies in block R. -/
structure RR (w : World) (R : Nat) (A : Option Addr) (b : List UInt8) (c n : Nat) : Prop where
  c0 : w.cell? ⟨R, 0, none⟩ = some (.slice A b.length c)
  c1 : w.cell? ⟨R, 1, none⟩ = some (.int .i64 (n : Int))
  f1 : w.frozen? ⟨R, 1, none⟩ = false
theorem RR.fr {S : Nat → Prop} {w w' : World} {R : Nat} {A : Option Addr} {b : List UInt8} {c n : Nat} (h : RR w R A b c n) (hf : Fr S w w') (hn : ¬ S R) : RR w' R A b c n :=
  ⟨hf.cell hn h.c0, hf.cell hn h.c1, hf.frozen hn (lt_of_cell h.c0) h.f1⟩
theorem RR.set1 {w : World} {R : Nat} {A : Option Addr} {b : List UInt8} {c n : Nat} (h : RR w R A b c n) (m : Nat) (v : Int) (hv : v = (m : Int)) : RR (w.setCell ⟨R, 1, none⟩ (.int .i64 v)) R A b c m := by
  subst hv
  have h0 := h.c0; have h1 := h.c1; have h2 := h.f1
  exact ⟨by go_simp, by go_simp, by go_simp⟩
/-- Block P holds a part, its parts' slice is v. -/
structure PC (w : World) (P : Nat) (ty sub bd enc : List UInt8) (fr bo to_ : Nat) (v : Value) : Prop where
  c0 : w.cell? ⟨P, 0, none⟩ = some (.string ⟨ty.toArray⟩)
  c1 : w.cell? ⟨P, 1, none⟩ = some (.string ⟨sub.toArray⟩)
  c2 : w.cell? ⟨P, 2, none⟩ = some (.string ⟨bd.toArray⟩)
  c3 : w.cell? ⟨P, 3, none⟩ = some (.string ⟨enc.toArray⟩)
  c4 : w.cell? ⟨P, 4, none⟩ = some (.int .i64 (fr : Int))
  c5 : w.cell? ⟨P, 5, none⟩ = some (.int .i64 (bo : Int))
  c6 : w.cell? ⟨P, 6, none⟩ = some (.int .i64 (to_ : Int))
  c7 : w.cell? ⟨P, 7, none⟩ = some v
  fz : ∀ j, w.frozen? ⟨P, j, none⟩ = false
theorem PC.fr {S : Nat → Prop} {w w' : World} {P : Nat} {ty sub bd enc : List UInt8} {fr bo to_ : Nat} {v : Value} (h : PC w P ty sub bd enc fr bo to_ v) (hf : Fr S w w') (hn : ¬ S P) : PC w' P ty sub bd enc fr bo to_ v :=
  ⟨hf.cell hn h.c0, hf.cell hn h.c1, hf.cell hn h.c2, hf.cell hn h.c3, hf.cell hn h.c4, hf.cell hn h.c5, hf.cell hn h.c6, hf.cell hn h.c7, fun j => hf.frozen hn (lt_of_cell h.c0) (h.fz j)⟩
theorem PC.set7 {w : World} {P : Nat} {ty sub bd enc : List UInt8} {fr bo to_ : Nat} {v : Value} (h : PC w P ty sub bd enc fr bo to_ v) (u : Value) : PC (w.setCell ⟨P, 7, none⟩ u) P ty sub bd enc fr bo to_ u := by
  have h0 := h.c0; have h1 := h.c1; have h2 := h.c2; have h3 := h.c3; have h4 := h.c4; have h5 := h.c5; have h6 := h.c6; have h7 := h.c7; have h8 := h.fz
  exact ⟨by go_simp, by go_simp, by go_simp, by go_simp, by go_simp, by go_simp, by go_simp, by go_simp, fun j => by go_simp⟩
end Go.Proofs.YtbjbljfmcpidmaaGreatDoor

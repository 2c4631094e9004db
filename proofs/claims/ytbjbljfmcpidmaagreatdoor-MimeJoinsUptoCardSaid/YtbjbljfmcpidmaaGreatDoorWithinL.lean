/- mime: what the reading of a part's parts begins with, and what it leaves. -/
import Derived.Test.YtbjbljfmcpidmaaGreatDoorWithinP
import Derived.Test.YtbjbljfmcpidmaaGreatDoorEndsL
namespace Go.Proofs.YtbjbljfmcpidmaaGreatDoor
open Go.RowKit Go.Lib Go.Shelf
/-- What within leaves. -/
def WPost (rec : Nat → Nat → Nat → PT × Nat) (R P : Nat) (A : Option Addr) (c : Nat) (b ty sub bd enc : List UInt8) (fr bo to_ n : Nat) (w0 : World) (e : Ending) (w' : World) : Prop :=
  e = .returned (.tuple #[]) ∧ ∃ (A2 : Option Addr) (c2 : Nat) (kids : List MP) (n' : Nat), PC w' P ty sub bd enc fr bo to_ (.slice A2 kids.length c2) ∧ RowIn w' A2 (mcells kids) ∧ kids.length ≤ c2 ∧ (kids ≠ [] → ∀ ad, A2 = some ad → w0.heap.size ≤ ad.block) ∧
    MOks (fun x => w0.heap.size ≤ x) w' kids ∧ RR w' R A b c n' ∧ (erases kids, n') = progKids rec to_ none (marksS (to_ + 1) b bd to_ bo) n ∧ Fr (fun x => x = R ∨ x = P) w0 w'
theorem Fr.old {S : Nat → Prop} {w w' : World} (h : Fr (fun x => S x ∨ w.heap.size ≤ x) w w') : Fr S w w' :=
  ⟨h.os, h.tape, h.output, h.size, fun k hk hn => h.block k hk fun e => e.elim hn fun e => by omega⟩
theorem erases_app (x y : List MP) : erases (x ++ y) = erases x ++ erases y := by rw [erases_map, erases_map, erases_map, List.map_append]
theorem gne_ge {w : World} (hg : Gl w) {x : Nat} (hx : w.heap.size ≤ x) : gne x := by
  obtain ⟨⟨m, hm⟩, h2, h3⟩ := hg
  have e1 := lt_of_cell hm
  have e2 := lt_of_cell (h2 0 (by decide))
  have e3 := lt_of_cell (h3 0 (by decide)).1
  exact ⟨by omega, by omega, by omega⟩
theorem wk_init {R P : Nat} {A : Option Addr} {w : World} (hR : R < w.heap.size) (hP : P < w.heap.size) (hPR : P ≠ R) (hA : ∀ ad, A = some ad → ad.block ≠ R ∧ ad.block ≠ P ∧ ad.block < w.heap.size) (hg : Gl w) (gR : gne R) (gP : gne P) :
    WK R P (w.heap.size + 3) w.heap.size (w.heap.size + 1) (w.heap.size + 2) (w.heap.size + 4) A := by
  have gB : gne (w.heap.size + 3) := gne_ge hg (by omega)
  obtain ⟨⟨m, hm⟩, h2, h3⟩ := hg
  have e1 := lt_of_cell hm
  have e2 := lt_of_cell (h2 0 (by decide))
  have e3 := lt_of_cell (h3 0 (by decide)).1
  exact ⟨by omega, by omega, by omega, by omega, by omega, by omega, hPR, by omega, by omega, ⟨by omega, by omega, by omega⟩, ⟨by omega, by omega, by omega⟩, ⟨by omega, by omega, by omega⟩,
    fun ad e => by obtain ⟨x1, x2, x3⟩ := hA ad e; exact ⟨x1, x2, by omega, by omega⟩, gR, gP, gB, by omega, by omega, by omega⟩
theorem cell_of_alloc (w : World) (cs : List Value) (t : Nat) (u : Value) (h : cs[0]? = some u) : (w.alloc (.cells cs.toArray t)).cell? ⟨w.heap.size, 0, none⟩ = some u := by
  have h0 : (w.alloc (.cells cs.toArray t)).heap[w.heap.size]? = some (.cells cs.toArray t) := heap_alloc_new w _
  rw [Lib.cell_of_heap h0]
  simpa using h
theorem ws_init {R P : Nat} {A : Option Addr} {c : Nat} {b ty sub bd enc : List UInt8} {fr bo to_ n : Nat} {deep : Int} {w : World} (hP : PC w P ty sub bd enc fr bo to_ (.slice none 0 0)) (hR : RR w R A b c n) (hr : RowIn w A (bcells b)) (hg : Gl w) (hn : n ≤ 16) (t1 t2 t3 t4 : Nat) :
    WS R P (w.heap.size + 3) w.heap.size (w.heap.size + 1) (w.heap.size + 2) (w.heap.size + 4) A c b ty sub bd enc fr bo to_ deep
      ((((w.alloc (.cells #[.pointer (some ⟨R, 0, none⟩)] t1)).alloc (.cells #[.pointer (some ⟨P, 0, none⟩)] t2)).alloc (.cells #[.int .i64 deep] t3)).alloc (.cells #[.int .i64 (-1)] t4)) none (.slice none 0 0) [] n ∧
    Fr (fun _ => False) w ((((w.alloc (.cells #[.pointer (some ⟨R, 0, none⟩)] t1)).alloc (.cells #[.pointer (some ⟨P, 0, none⟩)] t2)).alloc (.cells #[.int .i64 deep] t3)).alloc (.cells #[.int .i64 (-1)] t4)) := by
  have c1 := cell_of_alloc w [.pointer (some ⟨R, 0, none⟩)] t1 _ rfl
  have f1 : Fr (fun _ => False) w (w.alloc (.cells #[.pointer (some ⟨R, 0, none⟩)] t1)) := fr_alloc _ _ _
  have s1 : (w.alloc (.cells #[.pointer (some ⟨R, 0, none⟩)] t1)).heap.size = w.heap.size + 1 := by simp
  generalize hw1 : w.alloc (.cells #[.pointer (some ⟨R, 0, none⟩)] t1) = w1 at *
  have c2 := cell_of_alloc w1 [.pointer (some ⟨P, 0, none⟩)] t2 _ rfl
  have f2 : Fr (fun _ => False) w1 (w1.alloc (.cells #[.pointer (some ⟨P, 0, none⟩)] t2)) := fr_alloc _ _ _
  have s2 : (w1.alloc (.cells #[.pointer (some ⟨P, 0, none⟩)] t2)).heap.size = w1.heap.size + 1 := by simp
  generalize hw2 : w1.alloc (.cells #[.pointer (some ⟨P, 0, none⟩)] t2) = w2 at *
  have c3 := cell_of_alloc w2 [.int .i64 deep] t3 _ rfl
  have f3 : Fr (fun _ => False) w2 (w2.alloc (.cells #[.int .i64 deep] t3)) := fr_alloc _ _ _
  have s3 : (w2.alloc (.cells #[.int .i64 deep] t3)).heap.size = w2.heap.size + 1 := by simp
  generalize hw3 : w2.alloc (.cells #[.int .i64 deep] t3) = w3 at *
  have c4 := cell_of_alloc w3 [.int .i64 (-1)] t4 _ rfl
  have f4 : Fr (fun _ => False) w3 (w3.alloc (.cells #[.int .i64 (-1)] t4)) := fr_alloc _ _ _
  have s4 : (w3.alloc (.cells #[.int .i64 (-1)] t4)).heap.size = w3.heap.size + 1 := by simp
  have z4 : (w3.alloc (.cells #[.int .i64 (-1)] t4)).frozen? ⟨w3.heap.size, 0, none⟩ = false := by simp
  generalize hw4 : w3.alloc (.cells #[.int .i64 (-1)] t4) = w4 at *
  clear hw1 hw2 hw3 hw4
  have e1 : w1.heap.size = w.heap.size + 1 := s1
  have e2 : w2.heap.size = w.heap.size + 2 := by omega
  have e3 : w3.heap.size = w.heap.size + 3 := by omega
  have F : Fr (fun _ => False) w w4 := ((f1.trans f2).trans f3).trans f4
  rw [e1] at c2
  rw [e2] at c3
  rw [e3] at c4 z4
  refine ⟨⟨c4, z4, ((f2.trans f3).trans f4).cell id c1, (f3.trans f4).cell id c2, f4.cell id c3, hP.fr F id, hR.fr F id, World.ownsRow_nil _ _ _ _, trivial, F.row (fun _ _ _ => id) hr, F.gl id id id hg, by omega, hn, Nat.zero_le _⟩, F⟩
/-- The last part has ended. -/
theorem wpost_mk {rec : Nat → Nat → Nat → PT × Nat} {R P Bg BR BP BD B1 : Nat} {A : Option Addr} {c : Nat} {b ty sub bd enc : List UInt8} {fr bo to_ : Nat} {deep : Int} {w0 w1 w' : World} {o : Option Nat} {kids : List MP} {n n0 at_ : Nat} {e : Ending}
    (hE : EPost rec R P Bg BR BP BD B1 A c b ty sub bd enc fr bo to_ deep o kids n at_ w1 e w') (hB : w0.heap.size ≤ B1) (hG : w0.heap.size ≤ Bg) (hF : Fr (fun x => (x = R ∨ x = P) ∨ w0.heap.size ≤ x) w0 w1)
    (ht : progKids rec to_ none (marksS (to_ + 1) b bd to_ bo) n0 = (erases kids ++ (endsS rec o at_ n).1, (endsS rec o at_ n).2)) : WPost rec R P A c b ty sub bd enc fr bo to_ n0 w0 e w' := by
  obtain ⟨rfl, v', new, n', S, h1, h2⟩ := hE
  have hown := S.own
  obtain ⟨A2, c2, hv, hl, _, hrow, _⟩ := owns_open hown
  subst hv
  refine ⟨rfl, A2, c2, kids ++ new, n', S.pc, hrow, hl, fun _ ad e => ?_, MOks.weak (fun x hx => Nat.le_trans hB hx.1) _ S.ok, S.rr, ?_, ?_⟩
  · subst e
    exact Nat.le_trans hB (hown.lt ad.block rfl).1
  · rw [ht, erases_app, ← h1]
  · exact Fr.old (hF.trans (h2.weak fun x h => by rcases h with h | h | h | h
                                                  · exact .inl (.inl h)
                                                  · exact .inl (.inr h)
                                                  · exact .inr (by omega)
                                                  · exact .inr (by omega)))
theorem four_keep {S : Nat → Prop} {w w' : World} {P R BR BP : Nat} {v1 v2 v3 v4 : Value} (hF : Fr S w w') (h1 : ¬ S BR) (h2 : ¬ S BP) (h3 : ¬ S R) (h4 : ¬ S P)
    (h : w.cell? ⟨BR, 0, none⟩ = some v1 ∧ w.cell? ⟨BP, 0, none⟩ = some v2 ∧ w.cell? ⟨R, 0, none⟩ = some v3 ∧ w.cell? ⟨P, 6, none⟩ = some v4) :
    w'.cell? ⟨BR, 0, none⟩ = some v1 ∧ w'.cell? ⟨BP, 0, none⟩ = some v2 ∧ w'.cell? ⟨R, 0, none⟩ = some v3 ∧ w'.cell? ⟨P, 6, none⟩ = some v4 :=
  ⟨hF.cell h1 h.1, hF.cell h2 h.2.1, hF.cell h3 h.2.2.1, hF.cell h4 h.2.2.2⟩
theorem ends_fr {R P : Nat} {w w3 w4 : World} (h : Fr (fun x => (x = R ∨ x = P) ∨ w.heap.size ≤ x) w w3) (h4 : Fr (fun x => x = R ∨ x = P ∨ x = w.heap.size + 3 ∨ w.heap.size + 4 ≤ x) w3 w4) (u : Value) : Fr (fun x => (x = R ∨ x = P) ∨ w.heap.size ≤ x) w (w4.setCell ⟨w.heap.size + 3, 0, none⟩ u) :=
  Fr.set (p := ⟨w.heap.size + 3, 0, none⟩) (h.trans (h4.weak fun x h => by omega)) (.inr (Nat.le_add_right _ _)) u
/-- The call of bytes.Cut. -/
theorem cut_at {R P Bg BR BP BD B1 bb oo : Nat} {c : Nat} {b ty sub bd enc : List UInt8} {fr bo to_ : Nat} {deep : Int} {wr : World} {o : Option Nat} {v : Value} {kids : List MP} {n at_ : Nat}
    (S : WS R P Bg BR BP BD B1 (some ⟨bb, oo, none⟩) c b ty sub bd enc fr bo to_ deep wr o v kids n) (hat : at_ ≤ to_) (hto : to_ ≤ b.length) (htc : to_ ≤ c) (hb : b.length ≤ 2000000) (oa : Nat) (hoa : oa = oo + at_ ∨ at_ = to_) (T : Nat) :
    Calls Tryz.prog 55 #[.slice (some ⟨bb, oa, none⟩) (to_ - at_) (c - at_), .slice (some ⟨wr.heap.size, 0, none⟩) 2 2] (wr.alloc (.cells #[.int .u8 13, .int .u8 10] T (2, 3))).drew fun e w' =>
      ∃ X, e = .returned (.tuple #[.slice (some ⟨bb, oa, none⟩) (lineOf (cutB b at_ to_)).length (c - at_), X, .bool (wholeOf (cutB b at_ to_))]) ∧ WS R P Bg BR BP BD B1 (some ⟨bb, oo, none⟩) c b ty sub bd enc fr bo to_ deep w' o v kids n ∧
        (w'.cell? ⟨BR, 0, none⟩ = some (.pointer (some ⟨R, 0, none⟩)) ∧ w'.cell? ⟨BP, 0, none⟩ = some (.pointer (some ⟨P, 0, none⟩)) ∧ w'.cell? ⟨R, 0, none⟩ = some (.slice (some ⟨bb, oo, none⟩) b.length c) ∧ w'.cell? ⟨P, 6, none⟩ = some (.int .i64 (to_ : Int))) ∧
        w'.cell? ⟨P, 2, none⟩ = some (.string ⟨bd.toArray⟩) ∧ RowIn w' (some ⟨bb, oa, none⟩) (bcells (lineOf (cutB b at_ to_))) ∧ Fr (fun _ => False) wr w' := by
  have hrow : ∀ w', RowIn w' (some ⟨bb, oo, none⟩) (bcells b) → RowIn w' (some ⟨bb, oa, none⟩) (bcells (cutB b at_ to_)) := fun w' h => by
    rcases hoa with rfl | rfl
    · have h2 := (h.take to_).drop at_
      rwa [show ((bcells b).take to_).drop at_ = bcells (cutB b at_ to_) by simp [bcells, cutB]] at h2
    · rw [show cutB b at_ at_ = [] by unfold cutB; rw [List.drop_take]; simp]
      exact RowIn.nil _ _
  have hl : (cutB b at_ to_).length = to_ - at_ := by unfold cutB; simp; omega
  have hW : Below wr.heap.size wr (wr.alloc (.cells #[.int .u8 13, .int .u8 10] T (2, 3))).drew := ((Below.refl _ _).alloc (Nat.le_refl _) _).drew
  have key := cutLine bb oa (c - at_) wr.heap.size (cutB b at_ to_) (wr.alloc (.cells #[.int .u8 13, .int .u8 10] T (2, 3))).drew (hrow _ (S.row.below hW)) (by omega) (by omega) (World.cell?_alloc_mark _ _ _ _ 0) (World.cell?_alloc_mark _ _ _ _ 1) (S.gl.below hW)
  rw [hl] at key
  refine key.mono ?_
  rintro e w' ⟨X, rfl, hb'⟩
  have S' := S.below (hW.trans (hb'.mono hW.size))
  exact ⟨X, rfl, S', ⟨S'.cr, S'.cp, S'.rr.c0, S'.pc.c6⟩, S'.pc.c2, lineIn (hrow _ S'.row), Fr.of_below (hW.trans (hb'.mono hW.size))⟩
theorem next_int (b : List UInt8) (at_ to_ : Nat) : min (to_ : Int) ((at_ : Int) + ((lineOf (cutB b at_ to_)).length : Int) + 2) = ((nextOf b at_ to_ : Nat) : Int) := by
  unfold nextOf
  omega
/-- What is known at the head of the loop. -/
def WI (rec : Nat → Nat → Nat → PT × Nat) (R P Bg BR BP BD B1 : Nat) (A : Option Addr) (c : Nat) (b ty sub bd enc : List UInt8) (fr bo to_ n0 : Nat) (deep : Int) (w0 : World) (at_ : Nat) (wr : World) : Prop :=
  ∃ (f n : Nat) (o : Option Nat) (v : Value) (kids : List MP), at_ ≤ to_ ∧ to_ - at_ < f + 1 ∧ WS R P Bg BR BP BD B1 A c b ty sub bd enc fr bo to_ deep wr o v kids n ∧
    J rec b bd to_ (progKids rec to_ none (marksS (to_ + 1) b bd to_ bo) n0) o (erases kids) n at_ (f + 1) ∧ (∀ g, o = some g → g ≤ to_) ∧ Fr (fun x => (x = R ∨ x = P) ∨ w0.heap.size ≤ x) w0 wr
end Go.Proofs.YtbjbljfmcpidmaaGreatDoor

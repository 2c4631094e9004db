/- mime: what the reading of a part leans on, in plain Lean. -/
import Derived.Test.YtbjbljfmcpidmaaGreatDoorWithinL
import Derived.Test.YtbjbljfmcpidmaaGreatDoorInsideP
namespace Go.Proofs.YtbjbljfmcpidmaaGreatDoor
open Go.RowKit Go.Lib Go.Shelf
theorem hdrFrom_fit (k : Nat) : ∀ (r : List UInt8) (l : List Fld) (many at_ : Nat), FitF l at_ → l.length ≤ min many 64 → FitF (hdrFrom k r l many at_).1 (at_ + r.length) ∧ (hdrFrom k r l many at_).1.length ≤ 64 := by
  induction k with
  | zero => intro r l many at_ h hl; unfold hdrFrom; exact ⟨h.mono (by omega), by dsimp only; omega⟩
  | succ k ih =>
    intro r l many at_ h hl
    have hs := line_le r
    have hst : stepOf r = (lineOf r).length + (if wholeOf r then 2 else 0) := rfl
    have hsl : stepOf r ≤ r.length := by rw [hst]; exact hs
    unfold hdrFrom
    split
    · exact ⟨h.mono (by omega), by dsimp only; omega⟩
    · split
      · exact ⟨h.mono (by omega), by dsimp only; omega⟩
      · split
        · have := ih (r.drop (stepOf r)) (if many ≤ 64 then addVal l (many - 1) (lineOf r) else l) many (at_ + stepOf r) (by
            split
            · exact h.add _ _ (by omega)
            · exact h.mono (by omega)) (by
            split
            · unfold addVal; rw [List.length_modify]; exact hl
            · exact hl)
          rw [List.length_drop] at this
          exact ⟨this.1.mono (by omega), this.2⟩
        · split
          · exact ⟨h.mono (by omega), by dsimp only; omega⟩
          · have := ih (r.drop (stepOf r)) (if many + 1 ≤ 64 then l ++ [fldOf (lineOf r)] else l) (many + 1) (at_ + stepOf r) (by
              split
              · refine h.snoc _ ?_ (by omega)
                have := fld_le (lineOf r)
                omega
              · exact h.mono (by omega)) (by
              split
              · rw [List.length_append]; simp; omega
              · omega)
            rw [List.length_drop] at this
            exact ⟨this.1.mono (by omega), this.2⟩
theorem trimS_len (s : List UInt8) : (Lib.trimS s [32, 9]).length ≤ s.length := tb_le s
theorem hdr_fit (b : List UInt8) : FitF (hdr b).1 b.length ∧ (hdr b).1.length ≤ 64 := by
  obtain ⟨h1, h2⟩ := hdrFrom_fit (b.length + 1) b [] 0 0 (FitF.nil _) (by simp)
  refine ⟨fun f hf => ?_, ?_⟩
  · obtain ⟨g, hg, rfl⟩ := List.mem_map.1 hf
    have := h1 g hg
    have := trimS_len g.2
    show g.1.length + (Lib.trimS g.2 [32, 9]).length ≤ _
    omega
  · show ((hdrRaw b).1.map trimF1).length ≤ 64
    rw [List.length_map]
    exact h2
theorem kind_bd (v : List UInt8) : (kindS v).2.2.length ≤ 2000000 := by
  unfold kindS
  split
  · dsimp only
    split
    · rename_i h
      unfold boundsB at h
      simp at h
      omega
    · simp
  · simp
/-- A part's first three cells are set. -/
theorem PC.set012 {w : World} {P : Nat} {ty sub bd enc : List UInt8} {fr bo to_ : Nat} {v : Value} (h : PC w P ty sub bd enc fr bo to_ v) (ty2 sub2 bd2 : List UInt8) :
    PC (((w.setCell ⟨P, 0, none⟩ (.string ⟨ty2.toArray⟩)).setCell ⟨P, 1, none⟩ (.string ⟨sub2.toArray⟩)).setCell ⟨P, 2, none⟩ (.string ⟨bd2.toArray⟩)) P ty2 sub2 bd2 enc fr bo to_ v := by
  have h0 := h.c0; have h1 := h.c1; have h2 := h.c2; have h3 := h.c3; have h4 := h.c4; have h5 := h.c5; have h6 := h.c6; have h7 := h.c7; have h8 := h.fz
  exact ⟨by go_simp, by go_simp, by go_simp, by go_simp, by go_simp, by go_simp, by go_simp, by go_simp, fun j => by go_simp⟩
theorem Fr.set012 {S : Nat → Prop} {w w' : World} (h : Fr S w w') {P : Nat} (hP : S P ∨ w.heap.size ≤ P) (u0 u1 u2 : Value) : Fr S w (((w'.setCell ⟨P, 0, none⟩ u0).setCell ⟨P, 1, none⟩ u1).setCell ⟨P, 2, none⟩ u2) :=
  Fr.set (p := ⟨P, 2, none⟩) (Fr.set (p := ⟨P, 1, none⟩) (Fr.set (p := ⟨P, 0, none⟩) h hP u0) hP u1) hP u2
theorem Fr.set8 {S : Nat → Prop} {w w' : World} (h : Fr S w w') {P : Nat} (hP : S P ∨ w.heap.size ≤ P) (u0 u1 u2 u3 u4 u5 u6 u7 : Value) :
    Fr S w ((((((((w'.setCell ⟨P, 0, none⟩ u0).setCell ⟨P, 1, none⟩ u1).setCell ⟨P, 2, none⟩ u2).setCell ⟨P, 3, none⟩ u3).setCell ⟨P, 4, none⟩ u4).setCell ⟨P, 5, none⟩ u5).setCell ⟨P, 6, none⟩ u6).setCell ⟨P, 7, none⟩ u7) :=
  Fr.set (p := ⟨P, 7, none⟩) (Fr.set (p := ⟨P, 6, none⟩) (Fr.set (p := ⟨P, 5, none⟩) (Fr.set (p := ⟨P, 4, none⟩) (Fr.set (p := ⟨P, 3, none⟩) (Fr.set012 h hP u0 u1 u2) hP u3) hP u4) hP u5) hP u6) hP u7
theorem pc_new (w : World) (ty sub bd enc : List UInt8) (fr bo to_ : Nat) (v : Value) (t : Nat) : PC (w.alloc (.cells #[.string ⟨ty.toArray⟩, .string ⟨sub.toArray⟩, .string ⟨bd.toArray⟩, .string ⟨enc.toArray⟩, .int .i64 (fr : Int), .int .i64 (bo : Int), .int .i64 (to_ : Int), v] t)) w.heap.size ty sub bd enc fr bo to_ v :=
  ⟨by go_simp, by go_simp, by go_simp, by go_simp, by go_simp, by go_simp, by go_simp, by go_simp, fun j => by go_simp⟩
theorem PC.below {w w' : World} {P : Nat} {ty sub bd enc : List UInt8} {fr bo to_ : Nat} {v : Value} (h : PC w P ty sub bd enc fr bo to_ v) (hb : Below w.heap.size w w') : PC w' P ty sub bd enc fr bo to_ v :=
  h.fr (Fr.of_below (S := fun _ => False) hb) id
theorem pc_new2 (w : World) (enc : List UInt8) (fr N to_ : Nat) (t : Nat) : PC (w.alloc (.cells #[.string ⟨#[]⟩, .string ⟨#[]⟩, .string ⟨#[]⟩, .string ⟨enc.toArray⟩, .int .i64 (fr : Int), .int .i64 ((fr : Int) + (N : Int)), .int .i64 (to_ : Int), .slice none 0 0] t)) w.heap.size [] [] [] enc fr (fr + N) to_ (.slice none 0 0) :=
  pc_new w [] [] [] enc fr (fr + N) to_ (.slice none 0 0) t
theorem pc_zero (w : World) (t : Nat) : PC (w.alloc (.cells #[.string ⟨#[]⟩, .string ⟨#[]⟩, .string ⟨#[]⟩, .string ⟨#[]⟩, .int .i64 0, .int .i64 0, .int .i64 0, .slice none 0 0] t)) w.heap.size [] [] [] [] 0 0 0 (.slice none 0 0) :=
  pc_new w [] [] [] [] 0 0 0 (.slice none 0 0) t
/-- A part's cells, as the walk spells them. -/
theorem PC.lit {w : World} {P : Nat} {ty sub bd enc : List UInt8} {fr N to_ : Nat} {v : Value} (h : PC w P ty sub bd enc fr (fr + N) to_ v) :
    w.cell? ⟨P, 0, none⟩ = some (.string ⟨ty.toArray⟩) ∧ w.cell? ⟨P, 1, none⟩ = some (.string ⟨sub.toArray⟩) ∧ w.cell? ⟨P, 2, none⟩ = some (.string ⟨bd.toArray⟩) ∧ w.cell? ⟨P, 3, none⟩ = some (.string ⟨enc.toArray⟩) ∧ w.cell? ⟨P, 4, none⟩ = some (.int .i64 (fr : Int)) ∧ w.cell? ⟨P, 5, none⟩ = some (.int .i64 ((fr : Int) + (N : Int))) ∧ w.cell? ⟨P, 6, none⟩ = some (.int .i64 (to_ : Int)) ∧ w.cell? ⟨P, 7, none⟩ = some v ∧ ∀ j, w.frozen? ⟨P, j, none⟩ = false :=
  ⟨h.c0, h.c1, h.c2, h.c3, h.c4, h.c5, h.c6, h.c7, h.fz⟩
/-- What the call of within leaves, at whatever part. -/
def WC (rec : Nat → Nat → Nat → PT × Nat) (b : List UInt8) (deep : Int) : Prop := ∀ (R P bb oo : Nat) (c : Nat) (ty sub bd enc : List UInt8) (fr bo to_ : Nat) (w : World) (n : Nat),
    PC w P ty sub bd enc fr bo to_ (.slice none 0 0) → RR w R (some ⟨bb, oo, none⟩) b c n → RowIn w (some ⟨bb, oo, none⟩) (bcells b) → Gl w → R < w.heap.size → P < w.heap.size → P ≠ R → (bb ≠ R ∧ bb ≠ P ∧ bb < w.heap.size) → gne R → gne P →
    b.length ≤ 2000000 → bd.length ≤ 2000000 → b.length ≤ c → bo ≤ to_ → to_ ≤ b.length → n ≤ 16 →
    Calls Tryz.prog 75 #[.pointer (some ⟨R, 0, none⟩), .pointer (some ⟨P, 0, none⟩), .int .i64 deep] w (WPost rec R P (some ⟨bb, oo, none⟩) c b ty sub bd enc fr bo to_ n w)
def PPostW (r : PT × Nat) (b : List UInt8) (R : Nat) (A : Option Addr) (c : Nat) (w0 : World) (e : Ending) (w' : World) : Prop :=
  ∃ m : MP, e = .returned (mval m) ∧ MOk (fun x => w0.heap.size ≤ x) w' m ∧ erase m = r.1 ∧ RR w' R A b c r.2 ∧ Fr (fun x => x = R) w0 w'
theorem ppost_mk {rr : PT × Nat} {w w5 w6 : World} {R P Z B n' c2 : Nat} {A A2 : Option Addr} {c : Nat} {b ty sub bd en : List UInt8} {fr N to_ : Nat} {kids : List MP} (hF5 : Fr (fun x => x = R) w w5) (hRR : RR w5 R A b c n') (h56 : Fr (fun x => x = Z ∨ x = P) w5 w6)
    (hZ : w.heap.size ≤ Z) (hP : w.heap.size ≤ P) (hRl : R < w.heap.size) (hZB : Z < B) (hPB : P < B) (hM : RowIn w5 A2 (mcells kids)) (hl : kids.length ≤ c2) (hq : kids ≠ [] → ∀ ad, A2 = some ad → B ≤ ad.block) (ok : MOks (fun x => B ≤ x) w5 kids) (hr : rr = (.mk ty sub bd en fr (fr + N) to_ (erases kids), n')) :
    PPostW rr b R A c w (.returned (.agg #[.string ⟨ty.toArray⟩, .string ⟨sub.toArray⟩, .string ⟨bd.toArray⟩, .string ⟨en.toArray⟩, .int .i64 (fr : Int), .int .i64 ((fr : Int) + (N : Int)), .int .i64 (to_ : Int), .slice A2 kids.length c2])) w6 := by
  subst hr
  have hnn : kids ≠ [] → mcells kids ≠ [] := fun h e => h (by have := congrArg List.length e; rw [mcells_len] at this; simp only [List.length_nil] at this; exact List.length_eq_zero_iff.1 (by omega))
  refine ⟨.mk ty sub bd en fr (fr + N) to_ A2 c2 kids, rfl, ⟨h56.row (fun hne ad e h => ?_) hM, hl, fun hne ad e => ?_, ?_⟩, rfl, hRR.fr h56 fun h => ?_, Fr.old ((hF5.weak fun _ h => .inl h).trans (h56.weak fun x h => .inr (by omega)))⟩
  · have := hq (fun e => hne (by rw [e]; rfl)) ad e
    omega
  · have := hq hne ad e
    omega
  · exact MOks.weak (fun x hx => by have := hx.1; omega) kids (MOks.keep h56.size (fun x hx => h56.block x hx.2 fun h => by have := hx.1; omega) kids (MOks.lt kids ok))
  · omega
theorem ks_of {rec : Nat → Nat → Nat → PT × Nat} {b bd : List UInt8} {bo to_ n n' : Nat} {ks : List PT} (hb : bd ≠ []) (ht : (ks, n') = progKids rec to_ none (marksS (to_ + 1) b bd to_ bo) n) : partKs rec true b bd bo to_ n = (ks, n') := by
  unfold partKs
  rw [if_pos ⟨hb, rfl⟩, ht]
theorem ks_no {rec : Nat → Nat → Nat → PT × Nat} {dp : Bool} {b bd : List UInt8} {bo to_ n : Nat} (h : bd = [] ∨ dp = false) : partKs rec dp b bd bo to_ n = ([], n) := by
  unfold partKs
  rw [if_neg]
  rintro ⟨h1, h2⟩
  rcases h with h | h
  · exact h1 h
  · rw [h2] at h; cases h
theorem pe_cons {ty sub bd en : List UInt8} {fr bo to_ n : Nat} {ks : List PT} (h : ks ≠ []) : partEnd (ty, sub, bd) en fr bo to_ (ks, n) = (.mk ty sub bd en fr bo to_ ks, n) := by
  unfold partEnd
  rw [if_neg]
  intro e
  exact h (List.isEmpty_iff.1 e)
theorem erases_ne {l : List MP} (h : l ≠ []) : erases l ≠ [] := by
  rw [erases_map]
  intro e
  exact h (List.map_eq_nil_iff.1 e)
/-- header.Parse on a piece. -/
theorem parse_at {w W : World} {A A2 : Option Addr} {c c2 : Nat} {b : List UInt8} {fr to_ : Nat} (hr : RowIn w A (bcells b)) (hg : Gl w) (hb : b.length ≤ 2000000) (hc : b.length ≤ c) (hA : A = none → c = 0) (hft : fr ≤ to_) (hto : to_ ≤ b.length) (hW : Below w.heap.size w W)
    (h : (A2 = A.map (fun x => x.add fr) ∧ c2 = c - fr) ∨ (A2 = A ∧ c2 = 0 ∧ c = fr)) :
    Calls Tryz.prog 32 #[.slice A2 (to_ - fr) c2] W fun e w' => ∃ (A3 : Option Addr) (c3 : Nat), e = .returned (.tuple #[.slice A3 (hdr (cutB b fr to_)).1.length c3, .int .i64 ((hdr (cutB b fr to_)).2 : Int)]) ∧ RowIn w' A3 (fcells (hdr (cutB b fr to_)).1) ∧ Below W.heap.size W w' := by
  have hl : (cutB b fr to_).length = to_ - fr := by unfold cutB; simp; omega
  have hrow : RowIn W A2 (bcells (cutB b fr to_)) := by
    rcases h with ⟨rfl, rfl⟩ | ⟨rfl, rfl, rfl⟩
    · intro hne
      obtain ⟨bb, oo, rfl, hlt⟩ := hr.addr (by intro e; apply hne; have := congrArg List.length e; simp [bcells] at this; rw [this] at hto; rw [show to_ = 0 by simpa using hto]; rw [this]; simp [cutB, bcells])
      have h2 := ((hr.below hW).take to_).drop fr
      rw [show ((bcells b).take to_).drop fr = bcells (cutB b fr to_) by simp [bcells, cutB]] at h2
      have e : Option.map (fun x : Addr => x.add fr) (some ⟨bb, oo, none⟩) = some ⟨bb, oo + fr, none⟩ := by
        show some (Addr.add ⟨bb, oo, none⟩ fr) = _
        unfold Addr.add
        split
        · rename_i h0; rw [h0]; rfl
        · rfl
      rw [e]
      exact h2 hne
    · rw [show cutB b c to_ = [] from List.eq_nil_of_length_eq_zero (by rw [hl]; omega)]
      exact RowIn.nil _ _
  have key := parse_any A2 c2 (cutB b fr to_) W (by omega) (by rcases h with ⟨_, rfl⟩ | ⟨_, rfl, rfl⟩ <;> omega) (by
    rcases h with ⟨rfl, rfl⟩ | ⟨rfl, rfl, rfl⟩
    · intro e
      rw [hA (by simpa using e)]
      simp
    · exact fun _ => rfl) hrow (hg.below hW)
  rw [hl] at key
  refine key.mono ?_
  rintro e w' ⟨v, rfl, hown, hb'⟩
  obtain ⟨A3, c3, rfl, _, _, hrow3, _⟩ := owns_open hown
  exact ⟨A3, c3, rfl, hrow3, hb'⟩
end Go.Proofs.YtbjbljfmcpidmaaGreatDoor

/- mime: between two lines of a part's parts. -/
import Derived.Test.YtbjbljfmcpidmaaGreatDoorMimeW
namespace Go.Proofs.YtbjbljfmcpidmaaGreatDoor
open Go.RowKit Go.Lib Go.Shelf
theorem prog_n (rec : Nat → Nat → Nat → PT × Nat) (hrec : ∀ f t n, n ≤ 16 → (rec f t n).2 ≤ 16) (to_ : Nat) (ms : List Mark) : ∀ (o : Option Nat) (n : Nat), n ≤ 16 → (progKids rec to_ o ms n).2 ≤ 16 := by
  induction ms with
  | nil =>
    intro o n h
    cases o with
    | none => exact h
    | some g =>
      unfold progKids
      split
      · exact hrec _ _ _ (by omega)
      · exact h
  | cons m ms ih =>
    intro o n h
    cases o with
    | none =>
      unfold progKids
      split
      · exact h
      · exact ih _ _ h
    | some g =>
      unfold progKids
      split
      · split
        · exact hrec _ _ _ (by omega)
        · exact ih _ _ (hrec _ _ _ (by omega))
      · split
        · exact h
        · exact ih _ _ h
theorem partW_n (rec : Nat → Nat → Nat → PT × Nat) (hrec : ∀ f t n, n ≤ 16 → (rec f t n).2 ≤ 16) (deep : Bool) (b : List UInt8) (fr to_ n : Nat) (h : n ≤ 16) : (partW rec deep b fr to_ n).2 ≤ 16 := by
  unfold partW
  split
  · unfold partEnd
    have hk : (partKs rec deep b (partKd b fr to_).2.2 (partBo b fr to_) to_ n).2 ≤ 16 := by
      unfold partKs
      split
      · exact prog_n rec hrec to_ _ none n h
      · exact h
    split
    · exact hk
    · exact hk
  · exact h
theorem partS_n (b : List UInt8) : ∀ k fr to_ n, n ≤ 16 → (partS b k fr to_ n).2 ≤ 16
  | 0, fr, to_, n, h => partW_n _ (fun _ _ _ h => h) false b fr to_ n h
  | k + 1, fr, to_, n, h => partW_n _ (fun f t n h => partS_n b k f t n h) true b fr to_ n h
def endsS (rec : Nat → Nat → Nat → PT × Nat) (o : Option Nat) (at_ n : Nat) : List PT × Nat := match o with
  | none => ([], n)
  | some g => if n < 16 then ([(rec g (max g at_) (n + 1)).1], (rec g (max g at_) (n + 1)).2) else ([], n)
theorem prog_ends (rec : Nat → Nat → Nat → PT × Nat) (to_ : Nat) (o : Option Nat) (m : Mark) (ms : List Mark) (n : Nat) :
    progKids rec to_ o (m :: ms) n = (if m.2.2 then endsS rec o (m.1 - 2) n else ((endsS rec o (m.1 - 2) n).1 ++ (progKids rec to_ (some m.2.1) ms (endsS rec o (m.1 - 2) n).2).1, (progKids rec to_ (some m.2.1) ms (endsS rec o (m.1 - 2) n).2).2)) := by
  cases o with
  | none =>
    have e : progKids rec to_ none (m :: ms) n = if m.2.2 then ([], n) else progKids rec to_ (some m.2.1) ms n := by rw [progKids]
    rw [e]
    unfold endsS
    cases m.2.2 <;> simp
  | some g =>
    have e : progKids rec to_ (some g) (m :: ms) n = if n < 16 then
      (if m.2.2 then ([(rec g (max g (m.1 - 2)) (n + 1)).1], (rec g (max g (m.1 - 2)) (n + 1)).2)
       else ((rec g (max g (m.1 - 2)) (n + 1)).1 :: (progKids rec to_ (some m.2.1) ms (rec g (max g (m.1 - 2)) (n + 1)).2).1, (progKids rec to_ (some m.2.1) ms (rec g (max g (m.1 - 2)) (n + 1)).2).2))
      else (if m.2.2 then ([], n) else progKids rec to_ (some m.2.1) ms n) := by rw [progKids]
    rw [e]
    unfold endsS
    by_cases hn : n < 16
    · simp only [hn, if_true]
      cases m.2.2 <;> simp
    · simp only [hn, if_false]
      cases m.2.2 <;> simp
theorem prog_end (rec : Nat → Nat → Nat → PT × Nat) (to_ : Nat) (o : Option Nat) (n : Nat) : progKids rec to_ o [] n = endsS rec o to_ n := by
  cases o <;> rfl
def PPost (b : List UInt8) (k fr to_ n R : Nat) (A : Option Addr) (c : Nat) (w0 : World) (e : Ending) (w' : World) : Prop :=
  ∃ m : MP, e = .returned (mval m) ∧ MOk (fun x => w0.heap.size ≤ x) w' m ∧ erase m = (partS b k fr to_ n).1 ∧ RR w' R A b c (partS b k fr to_ n).2 ∧ Fr (fun x => x = R) w0 w'
def gne (R : Nat) : Prop := 0 ≠ R ∧ 2 ≠ R ∧ 3 ≠ R
/-- What part does, at so many levels. -/
def PartC (k : Nat) : Prop := ∀ (R : Nat) (A : Option Addr) (c : Nat) (b : List UInt8) (fr to_ n : Nat) (deep : Int) (w : World), 0 ≤ deep → deep + k = 4 → b.length ≤ 2000000 → b.length ≤ c → (A = none → c = 0) → RowIn w A (bcells b) →
  (b ≠ [] → ∀ ad, A = some ad → ad.block ≠ R) → RR w R A b c n → Gl w → gne R → fr ≤ to_ → to_ ≤ b.length → n ≤ 16 →
  Calls Tryz.prog 38 #[.pointer (some ⟨R, 0, none⟩), .int .i64 (fr : Int), .int .i64 (to_ : Int), .int .i64 deep] w (PPost b k fr to_ n R A c w)
/-- Where the blocks lie that the reading of a part's parts uses. -/
structure WK (R P Bg BR BP BD B1 : Nat) (A : Option Addr) : Prop where
  r : R < B1
  p : P < B1
  g : Bg < B1
  br : BR < B1
  bp : BP < B1
  bd : BD < B1
  pr : P ≠ R
  pg : P ≠ Bg
  rg : R ≠ Bg
  brn : BR ≠ R ∧ BR ≠ P ∧ BR ≠ Bg
  bpn : BP ≠ R ∧ BP ≠ P ∧ BP ≠ Bg
  bdn : BD ≠ R ∧ BD ≠ P ∧ BD ≠ Bg
  an : ∀ ad, A = some ad → ad.block ≠ R ∧ ad.block ≠ P ∧ ad.block ≠ Bg ∧ ad.block < B1
  gR : gne R
  gP : gne P
  gB : gne Bg
  g1 : 0 < B1 ∧ 2 < B1 ∧ 3 < B1
/-- What is known between two lines. -/
structure WS (R P Bg BR BP BD B1 : Nat) (A : Option Addr) (c : Nat) (b : List UInt8) (ty sub bd enc : List UInt8) (fr bo to_ : Nat) (deep : Int) (w : World) (o : Option Nat) (v : Value) (kids : List MP) (n : Nat) : Prop where
  cg : w.cell? ⟨Bg, 0, none⟩ = some (stV o)
  fg : w.frozen? ⟨Bg, 0, none⟩ = false
  cr : w.cell? ⟨BR, 0, none⟩ = some (.pointer (some ⟨R, 0, none⟩))
  cp : w.cell? ⟨BP, 0, none⟩ = some (.pointer (some ⟨P, 0, none⟩))
  cd : w.cell? ⟨BD, 0, none⟩ = some (.int .i64 deep)
  pc : PC w P ty sub bd enc fr bo to_ v
  rr : RR w R A b c n
  own : w.ownsRow B1 29 8 v kids.length (mcells kids)
  ok : MOks (fun x => B1 ≤ x ∧ v.ownBlock ≠ some x) w kids
  row : RowIn w A (bcells b)
  gl : Gl w
  sz : B1 ≤ w.heap.size
  n16 : n ≤ 16
  kl : kids.length ≤ n
/-- The variable 'begun' is set. -/
theorem WS.setg {R P Bg BR BP BD B1 : Nat} {A : Option Addr} {c : Nat} {b ty sub bd enc : List UInt8} {fr bo to_ : Nat} {deep : Int} {w : World} {o : Option Nat} {v : Value} {kids : List MP} {n : Nat} (K : WK R P Bg BR BP BD B1 A)
    (h : WS R P Bg BR BP BD B1 A c b ty sub bd enc fr bo to_ deep w o v kids n) (o' : Option Nat) (u : Value) (hu : u = stV o') : WS R P Bg BR BP BD B1 A c b ty sub bd enc fr bo to_ deep (w.setCell ⟨Bg, 0, none⟩ u) o' v kids n := by
  subst hu
  have hF : Fr (fun x => x = Bg) w (w.setCell ⟨Bg, 0, none⟩ (stV o')) := Fr.set (S := fun x => x = Bg) (p := ⟨Bg, 0, none⟩) (Fr.refl _ w) (.inl rfl) _
  have hgl := h.cg
  have hfl := h.fg
  refine ⟨by go_simp, by go_simp, hF.cell K.brn.2.2 h.cr, hF.cell K.bpn.2.2 h.cp, hF.cell K.bdn.2.2 h.cd, h.pc.fr hF K.pg, h.rr.fr hF K.rg, h.own.kept (row := some Bg) ⟨hF.os, hF.tape, hF.output, hF.size, fun k hk hn => hF.block k hk fun e => hn (by rw [e])⟩ ?_, ?_, hF.row (fun _ ad e => (K.an ad e).2.2.1) h.row, hF.gl K.gB.1 K.gB.2.1 K.gB.2.2 h.gl, by simpa using h.sz, h.n16, h.kl⟩
  · right
    intro e
    have := (h.own.lt Bg e).1
    have := K.g
    omega
  · refine MOks.weak (fun x hx => hx.1) kids (MOks.keep hF.size (fun x hx => hF.block x hx.2 fun e => ?_) kids (MOks.lt kids h.ok))
    have := hx.1.1
    have := K.g
    omega
theorem WS.below {R P Bg BR BP BD B1 : Nat} {A : Option Addr} {c : Nat} {b ty sub bd enc : List UInt8} {fr bo to_ : Nat} {deep : Int} {w w' : World} {o : Option Nat} {v : Value} {kids : List MP} {n : Nat}
    (h : WS R P Bg BR BP BD B1 A c b ty sub bd enc fr bo to_ deep w o v kids n) (hb : Below w.heap.size w w') : WS R P Bg BR BP BD B1 A c b ty sub bd enc fr bo to_ deep w' o v kids n := by
  have hF : Fr (fun _ => False) w w' := Fr.of_below hb
  refine ⟨hF.cell id h.cg, hF.frozen id (lt_of_cell h.cg) h.fg, hF.cell id h.cr, hF.cell id h.cp, hF.cell id h.cd, h.pc.fr hF id, h.rr.fr hF id, owns_below h.own hb, ?_, h.row.below hb, h.gl.below hb, Nat.le_trans h.sz hb.size, h.n16, h.kl⟩
  exact MOks.weak (fun x hx => hx.1) kids (MOks.keep hF.size (fun x hx => hF.block x hx.2 id) kids (MOks.lt kids h.ok))
/-- The reader's count is set. -/
theorem WS.setn {R P Bg BR BP BD B1 : Nat} {A : Option Addr} {c : Nat} {b ty sub bd enc : List UInt8} {fr bo to_ : Nat} {deep : Int} {w : World} {o : Option Nat} {v : Value} {kids : List MP} {n : Nat} (K : WK R P Bg BR BP BD B1 A)
    (h : WS R P Bg BR BP BD B1 A c b ty sub bd enc fr bo to_ deep w o v kids n) (m : Nat) (u : Int) (hu : u = (m : Int)) (hm : m ≤ 16) (hk : kids.length ≤ m) : WS R P Bg BR BP BD B1 A c b ty sub bd enc fr bo to_ deep (w.setCell ⟨R, 1, none⟩ (.int .i64 u)) o v kids m := by
  have hF : Fr (fun x => x = R) w (w.setCell ⟨R, 1, none⟩ (.int .i64 u)) := Fr.set (S := fun x => x = R) (p := ⟨R, 1, none⟩) (Fr.refl _ w) (.inl rfl) _
  refine ⟨hF.cell (fun e => K.rg e.symm) h.cg, hF.frozen (fun e => K.rg e.symm) (lt_of_cell h.cg) h.fg, hF.cell K.brn.1 h.cr, hF.cell K.bpn.1 h.cp, hF.cell K.bdn.1 h.cd, h.pc.fr hF K.pr, h.rr.set1 m u hu, h.own.kept (row := some R) ⟨hF.os, hF.tape, hF.output, hF.size, fun k hk hn => hF.block k hk fun e => hn (by rw [e])⟩ ?_, ?_, hF.row (fun _ ad e => (K.an ad e).1) h.row, hF.gl K.gR.1 K.gR.2.1 K.gR.2.2 h.gl, by simpa using h.sz, hm, hk⟩
  · right
    intro e
    have := (h.own.lt R e).1
    have := K.r
    omega
  · refine MOks.weak (fun x hx => hx.1) kids (MOks.keep hF.size (fun x hx => hF.block x hx.2 fun e => ?_) kids (MOks.lt kids h.ok))
    have := hx.1.1
    have := K.r
    omega
def EPost (rec : Nat → Nat → Nat → PT × Nat) (R P Bg BR BP BD B1 : Nat) (A : Option Addr) (c : Nat) (b : List UInt8) (ty sub bd enc : List UInt8) (fr bo to_ : Nat) (deep : Int) (o : Option Nat) (kids : List MP) (n at_ : Nat) (w0 : World) (e : Ending) (w' : World) : Prop :=
  e = .returned (.tuple #[]) ∧ ∃ (v' : Value) (new : List MP) (n' : Nat), WS R P Bg BR BP BD B1 A c b ty sub bd enc fr bo to_ deep w' none v' (kids ++ new) n' ∧ (erases new, n') = endsS rec o at_ n ∧ Fr (fun x => x = R ∨ x = P ∨ x = Bg ∨ B1 ≤ x) w0 w'
theorem row_new8 (w : World) (cs : List Value) (t : Nat) : RowIn (w.alloc (.cells cs.toArray t)) (some ⟨w.heap.size, 0, none⟩) cs := fun _ =>
  ⟨w.heap.size, 0, rfl, by simp, fun j u hu => by
    have h : (w.alloc (.cells cs.toArray t)).heap[w.heap.size]? = some (.cells cs.toArray t) := heap_alloc_new w _
    rw [Lib.cell_of_heap h]
    simpa using hu⟩
theorem infoPart : (Tryz.prog.info? 29).map (fun i => (i.zero, i.size, i.bytes)) = some (some (.agg #[.string ⟨#[]⟩, .string ⟨#[]⟩, .string ⟨#[]⟩, .string ⟨#[]⟩, .int .i64 0, .int .i64 0, .int .i64 0, .slice none 0 0]), 8, 112) := by kernel_rfl
/-- What a part's reading has left. -/
structure CallOk (b : List UInt8) (k f t n R : Nat) (A : Option Addr) (c : Nat) (W w' : World) (m : MP) : Prop where
  ok : MOk (fun x => W.heap.size ≤ x) w' m
  er : erase m = (partS b k f t n).1
  rr : RR w' R A b c (partS b k f t n).2
  fr : Fr (fun x => x = R) W w'
theorem call_part (k : Nat) (hk : PartC k) {R P Bg BR BP BD B1 : Nat} {A : Option Addr} {c : Nat} {b ty sub bd enc : List UInt8} {fr bo to_ : Nat} {deep : Int} {W : World} {g : Nat} {v : Value} {kids : List MP} {n : Nat} (f t : Nat)
    (K : WK R P Bg BR BP BD B1 A) (S : WS R P Bg BR BP BD B1 A c b ty sub bd enc fr bo to_ deep W (some g) v kids n) (hd0 : 0 ≤ deep) (hd : deep + 1 + k = 4) (hb : b.length ≤ 2000000) (hc : b.length ≤ c) (hA : A = none → c = 0) (hft : f ≤ t) (ht : t ≤ b.length) :
    Calls Tryz.prog 38 #[.pointer (some ⟨R, 0, none⟩), .int .i64 (f : Int), .int .i64 (t : Int), .int .i64 (deep + 1)] W fun e w' =>
      ∃ (ty2 sub2 bd2 en2 : List UInt8) (f2 o2 t2 : Nat) (A2 : Option Addr) (c2 : Nat) (kd2 : List MP), e = .returned (.agg #[.string ⟨ty2.toArray⟩, .string ⟨sub2.toArray⟩, .string ⟨bd2.toArray⟩, .string ⟨en2.toArray⟩, .int .i64 (f2 : Int), .int .i64 (o2 : Int), .int .i64 (t2 : Int), .slice A2 kd2.length c2]) ∧
        (w'.cell? ⟨BP, 0, none⟩ = some (.pointer (some ⟨P, 0, none⟩)) ∧ w'.cell? ⟨BR, 0, none⟩ = some (.pointer (some ⟨R, 0, none⟩)) ∧ w'.cell? ⟨Bg, 0, none⟩ = some (.int .i64 (g : Int)) ∧ w'.cell? ⟨BD, 0, none⟩ = some (.int .i64 deep)) ∧
        w'.cell? ⟨P, 7, none⟩ = some v ∧ CallOk b k f t n R A c W w' (.mk ty2 sub2 bd2 en2 f2 o2 t2 A2 c2 kd2) := by
  refine (hk R A c b f t n (deep + 1) W (by omega) hd hb hc hA S.row (fun _ ad e => (K.an ad e).1) S.rr S.gl K.gR hft ht S.n16).mono ?_
  rintro e w' ⟨m, rfl, h1, h2, h3, h4⟩
  obtain ⟨ty2, sub2, bd2, en2, f2, o2, t2, A2, c2, kd2⟩ := m
  exact ⟨ty2, sub2, bd2, en2, f2, o2, t2, A2, c2, kd2, rfl, ⟨h4.cell K.bpn.1 S.cp, h4.cell K.brn.1 S.cr, h4.cell (fun e => K.rg e.symm) S.cg, h4.cell K.bdn.1 S.cd⟩, h4.cell K.pr S.pc.c7, h1, h2, h3, h4⟩
theorem prog_ge (rec : Nat → Nat → Nat → PT × Nat) (hrec : ∀ f t n, n ≤ (rec f t n).2) (to_ : Nat) (ms : List Mark) : ∀ (o : Option Nat) (n : Nat), n ≤ (progKids rec to_ o ms n).2 := by
  have h1 : ∀ f t n, n ≤ (rec f t (n + 1)).2 := fun f t n => Nat.le_trans (Nat.le_succ n) (hrec f t (n + 1))
  induction ms with
  | nil =>
    intro o n
    cases o with
    | none => exact Nat.le_refl _
    | some g =>
      unfold progKids
      split
      · exact h1 _ _ _
      · exact Nat.le_refl _
  | cons m ms ih =>
    intro o n
    cases o with
    | none =>
      unfold progKids
      split
      · exact Nat.le_refl _
      · exact ih _ _
    | some g =>
      unfold progKids
      split
      · split
        · exact h1 _ _ _
        · exact Nat.le_trans (h1 _ _ _) (ih _ _)
      · split
        · exact Nat.le_refl _
        · exact ih _ _
theorem partW_ge (rec : Nat → Nat → Nat → PT × Nat) (hrec : ∀ f t n, n ≤ (rec f t n).2) (deep : Bool) (b : List UInt8) (fr to_ n : Nat) : n ≤ (partW rec deep b fr to_ n).2 := by
  unfold partW
  split
  · unfold partEnd
    have hk : n ≤ (partKs rec deep b (partKd b fr to_).2.2 (partBo b fr to_) to_ n).2 := by
      unfold partKs
      split
      · exact prog_ge rec hrec to_ _ none n
      · exact Nat.le_refl _
    split
    · exact hk
    · exact hk
  · exact Nat.le_refl _
theorem partS_ge (b : List UInt8) : ∀ k fr to_ n, n ≤ (partS b k fr to_ n).2
  | 0, fr, to_, n => partW_ge _ (fun _ _ _ => Nat.le_refl _) false b fr to_ n
  | k + 1, fr, to_, n => partW_ge _ (fun f t n => partS_ge b k f t n) true b fr to_ n
/-- The cells that the closure captures. -/
theorem four_fr {S : Nat → Prop} {w w' : World} {P R Bg BR BP BD : Nat} {gv : Value} {deep : Int} (hF : Fr S w w') (h1 : ¬ S BP) (h2 : ¬ S BR) (h3 : ¬ S Bg) (h4 : ¬ S BD)
    (h : w.cell? ⟨BP, 0, none⟩ = some (.pointer (some ⟨P, 0, none⟩)) ∧ w.cell? ⟨BR, 0, none⟩ = some (.pointer (some ⟨R, 0, none⟩)) ∧ w.cell? ⟨Bg, 0, none⟩ = some gv ∧ w.cell? ⟨BD, 0, none⟩ = some (.int .i64 deep)) :
    w'.cell? ⟨BP, 0, none⟩ = some (.pointer (some ⟨P, 0, none⟩)) ∧ w'.cell? ⟨BR, 0, none⟩ = some (.pointer (some ⟨R, 0, none⟩)) ∧ w'.cell? ⟨Bg, 0, none⟩ = some gv ∧ w'.cell? ⟨BD, 0, none⟩ = some (.int .i64 deep) :=
  ⟨hF.cell h1 h.1, hF.cell h2 h.2.1, hF.cell h3 h.2.2.1, hF.cell h4 h.2.2.2⟩
theorem fr_alloc (S : Nat → Prop) (w : World) (o : Obj) : Fr S w (w.alloc o) := Fr.of_below ((Below.refl _ _).alloc (Nat.le_refl _) _)
theorem fr_grown {B1 : Nat} {v : Value} {e size n : Nat} {xs : List Value} {w0 w w' : World} (h0 : w0.ownsRow B1 e size v n xs) (h : w.grownBy w' v.ownBlock) : Fr (fun x => B1 ≤ x) w w' :=
  Fr.of_grown h fun g e _ => (h0.lt g e).1
/-- The row of parts, behind the call of part. -/
theorem own_call {k R P Bg BR BP BD B1 f t : Nat} {A : Option Addr} {c : Nat} {b ty sub bd enc : List UInt8} {fr bo to_ : Nat} {deep : Int} {w w' : World} {o : Option Nat} {v : Value} {kids : List MP} {n : Nat} {m : MP} (K : WK R P Bg BR BP BD B1 A)
    (S : WS R P Bg BR BP BD B1 A c b ty sub bd enc fr bo to_ deep w o v kids n) (C : CallOk b k f t n R A c w w' m) : w'.ownsRow B1 29 8 v kids.length (mcells kids) := by
  refine S.own.kept (row := some R) ⟨C.fr.os, C.fr.tape, C.fr.output, C.fr.size, fun k hk hn => C.fr.block k hk fun e => hn (by rw [e])⟩ (.inr fun e => ?_)
  have := (S.own.lt R e).1
  have := K.r
  have := (S.own.lt R e).2
  omega
theorem own_shape {B e size n : Nat} {w : World} {v : Value} {xs : List Value} (h : w.ownsRow B e size v (n + 1) xs) : ∃ g cap, v = .slice (some ⟨g, 0, none⟩) (n + 1) cap := by
  rcases h.2 with ⟨_, h0⟩ | ⟨g, cap, _, e, _⟩
  · omega
  · exact ⟨g, cap, e⟩
theorem own_shape0 {B e size n : Nat} {w : World} {v : Value} {xs : List Value} (h : w.ownsRow B e size v n xs) : ∃ A0 cap, v = .slice A0 n cap := by
  rcases h.2 with ⟨e, rfl⟩ | ⟨g, cap, _, e, _⟩
  · exact ⟨none, 0, e⟩
  · exact ⟨some ⟨g, 0, none⟩, cap, e⟩
theorem pack {w1 w2 w3 : World} {v v' : Value} (h : Fr (fun _ => False) w1 w2) (hg : w2.grownBy w3 v.ownBlock) (hv : v'.ownBlock = v.ownBlock ∨ v'.ownBlock = some w2.heap.size) : ∃ w2 : World, Fr (fun _ => False) w1 w2 ∧ w2.grownBy w3 v.ownBlock ∧ (v'.ownBlock = v.ownBlock ∨ v'.ownBlock = some w2.heap.size) := ⟨w2, h, hg, hv⟩
theorem app_p7 {k R P Bg BR BP BD B1 f t : Nat} {A : Option Addr} {c : Nat} {b ty sub bd enc : List UInt8} {fr bo to_ : Nat} {deep : Int} {w w1 w2 w3 : World} {o : Option Nat} {v : Value} {kids : List MP} {n : Nat} {m : MP} (K : WK R P Bg BR BP BD B1 A)
    (S : WS R P Bg BR BP BD B1 A c b ty sub bd enc fr bo to_ deep w o v kids n) (C : CallOk b k f t n R A c w w1 m) (h12 : Fr (fun _ => False) w1 w2) (hg : w2.grownBy w3 v.ownBlock) : w3.cell? ⟨P, 7, none⟩ = some v ∧ w3.frozen? ⟨P, 7, none⟩ = false := by
  have hF : Fr (fun x => x = R ∨ v.ownBlock = some x) w w3 := ((C.fr.trans (h12.weak fun _ h => h.elim)).weak fun _ h => .inl h).trans (Fr.of_grown hg fun g e _ => .inr e)
  have hn : ¬ (P = R ∨ v.ownBlock = some P) := fun h => h.elim K.pr fun e => by have := (S.own.lt P e).1; have := K.p; omega
  exact ⟨hF.cell hn S.pc.c7, hF.frozen hn (lt_of_cell S.pc.c7) (S.pc.fz 7)⟩
/-- The part is appended, and its cells are there. -/
theorem WS.app1 {k R P Bg BR BP BD B1 f t : Nat} {A : Option Addr} {c : Nat} {b ty sub bd enc : List UInt8} {fr bo to_ : Nat} {deep : Int} {w w1 w2 w3 w4 : World} {o : Option Nat} {v v' : Value} {kids : List MP} {n : Nat} {m : MP} (K : WK R P Bg BR BP BD B1 A)
    (S : WS R P Bg BR BP BD B1 A c b ty sub bd enc fr bo to_ deep w o v kids n) (hk : kids.length + 1 ≤ n) (C : CallOk b k f t n R A c w w1 m) (h12 : Fr (fun _ => False) w1 w2)
    (hg : w2.grownBy w3 v.ownBlock) (hv : v'.ownBlock = v.ownBlock ∨ v'.ownBlock = some w2.heap.size)
    (h3 : w4.ownsRow B1 29 8 v' (kids.length + 1) (mcells kids ++ mcell m)) (h34 : Fr (fun x => x = P ∨ v'.ownBlock = some x) w3 w4) (hpc : PC w3 P ty sub bd enc fr bo to_ v → PC w4 P ty sub bd enc fr bo to_ v') :
    WS R P Bg BR BP BD B1 A c b ty sub bd enc fr bo to_ deep w4 o v' (kids ++ [m]) (partS b k f t n).2 ∧ Fr (fun x => x = R ∨ x = P ∨ B1 ≤ x) w w4 := by
  have hown : ∀ x, v.ownBlock = some x → x < w.heap.size ∧ B1 ≤ x := fun x e => ⟨(S.own.lt x e).2, (S.own.lt x e).1⟩
  have hs12 := h12.size
  have hs1 := C.fr.size
  have hv' : ∀ x, v'.ownBlock = some x → v.ownBlock = some x ∨ x = w2.heap.size := fun x e => by
    rcases hv with h | h
    · exact .inl (h.symm.trans e)
    · rw [h] at e; cases e; exact .inr rfl
  have hF2 : Fr (fun x => x = R) w w2 := C.fr.trans (h12.weak fun _ h => h.elim)
  have hFg : Fr (fun x => v.ownBlock = some x) w2 w3 := Fr.of_grown hg fun g e _ => e
  have hF3 : Fr (fun x => x = R ∨ v.ownBlock = some x) w w3 := (hF2.weak fun _ h => .inl h).trans (hFg.weak fun _ h => .inr h)
  have hF4 : Fr (fun x => x = R ∨ x = P ∨ v.ownBlock = some x ∨ x = w2.heap.size) w w4 := (hF3.weak fun _ h => h.elim .inl fun h => .inr (.inr (.inl h))).trans (h34.weak fun x h => h.elim (fun h => .inr (.inl h)) fun h => (hv' x h).elim (fun h => .inr (.inr (.inl h))) fun h => .inr (.inr (.inr h)))
  have hF1 : Fr (fun x => x = P ∨ v.ownBlock = some x ∨ x = w2.heap.size) w1 w4 := ((h12.weak fun _ h => h.elim).trans (hFg.weak fun _ h => .inr (.inl h))).trans (h34.weak fun x h => h.elim .inl fun h => .inr (hv' x h))
  have hsz := S.sz
  obtain ⟨kr, kp, kg, kbr, kbp, kbd, kpr, kpg, krg, kbrn, kbpn, kbdn, kan, kgR, kgP, kgB, kg1⟩ := K
  have hlt : ∀ x, x < B1 → ¬ v.ownBlock = some x := fun x hx e => by have := (hown x e).2; omega
  have hn : ∀ x, x < B1 → x ≠ R → x ≠ P → ¬ (x = R ∨ x = P ∨ v.ownBlock = some x ∨ x = w2.heap.size) := fun x h1 h2 h3 h => by
    rcases h with h | h | h | h
    · exact h2 h
    · exact h3 h
    · exact hlt x h1 h
    · omega
  refine ⟨⟨hF4.cell (hn _ kg krg.symm kpg.symm) S.cg, hF4.frozen (hn _ kg krg.symm kpg.symm) (lt_of_cell S.cg) S.fg, hF4.cell (hn _ kbr kbrn.1 kbrn.2.1) S.cr, hF4.cell (hn _ kbp kbpn.1 kbpn.2.1) S.cp, hF4.cell (hn _ kbd kbdn.1 kbdn.2.1) S.cd,
    hpc (S.pc.fr hF3 fun h => ?_), ?_, ?_, ?_, ?_, ?_, ?_, ?_, ?_⟩, ?_⟩
  · rcases h with h | h
    · exact kpr h
    · exact hlt _ kp h
  · refine C.rr.fr hF1 fun h => ?_
    rcases h with h | h | h
    · exact kpr h.symm
    · exact hlt _ kr h
    · omega
  · rw [List.length_append, mcells_app, show mcells [m] = mcell m from by simp [mcells]]
    exact h3
  · refine (MOks_all _).2 fun x hx => ?_
    rcases List.mem_append.1 hx with hx | hx
    · have h0 := (MOks_all _).1 S.ok x hx
      refine MOk.weak (fun y hy => ⟨hy.1.1, fun e => (hv' y e).elim hy.1.2 fun h => by have := hy.2; omega⟩) x (MOk.keep hF4.size (fun y hy => hF4.block y hy.2 fun h => ?_) x (MOk.lt x h0))
      have h1 := hy.1.1
      have h2 := hy.2
      rcases h with h | h | h | h
      · omega
      · omega
      · exact hy.1.2 h
      · omega
    · rw [List.mem_singleton.1 hx]
      refine MOk.weak (fun y hy => ⟨by have := hy.1; omega, fun e => (hv' y e).elim (fun h => by have := hown y h; have := hy.1; omega) fun h => by have := hy.2; omega⟩) m (MOk.keep hF1.size (fun y hy => hF1.block y hy.2 fun h => ?_) m (MOk.lt m C.ok))
      have h1 := hy.1
      have h2 := hy.2
      rcases h with h | h | h
      · omega
      · have := hown y h; omega
      · omega
  · exact hF4.row (fun _ ad e => hn _ (kan ad e).2.2.2 (kan ad e).1 (kan ad e).2.1) S.row
  · exact hF4.gl (hn _ kg1.1 kgR.1 kgP.1) (hn _ kg1.2.1 kgR.2.1 kgP.2.1) (hn _ kg1.2.2 kgR.2.2 kgP.2.2) S.gl
  · exact Nat.le_trans hsz hF4.size
  · exact partS_n b k f t n S.n16
  · rw [List.length_append]; exact Nat.le_trans hk (partS_ge b k f t n)
  · exact hF4.weak fun x h => by
      rcases h with h | h | h | h
      · exact .inl h
      · exact .inr (.inl h)
      · exact .inr (.inr (hown x h).2)
      · exact .inr (.inr (by omega))
/-- The part is appended. -/
theorem WS.app {k R P Bg BR BP BD B1 f t : Nat} {A : Option Addr} {c : Nat} {b ty sub bd enc : List UInt8} {fr bo to_ : Nat} {deep : Int} {w w1 w2 w3 : World} {o : Option Nat} {v v' : Value} {kids : List MP} {n : Nat} {m : MP} (K : WK R P Bg BR BP BD B1 A)
    (S : WS R P Bg BR BP BD B1 A c b ty sub bd enc fr bo to_ deep w o v kids n) (hk : kids.length + 1 ≤ n) (C : CallOk b k f t n R A c w w1 m) (h12 : Fr (fun _ => False) w1 w2)
    (h3 : w3.ownsRow B1 29 8 v' (kids.length + 1) (mcells kids ++ mcell m)) (hg : w2.grownBy w3 v.ownBlock) (hv : v'.ownBlock = v.ownBlock ∨ v'.ownBlock = some w2.heap.size) :
    WS R P Bg BR BP BD B1 A c b ty sub bd enc fr bo to_ deep (w3.setCell ⟨P, 7, none⟩ v') o v' (kids ++ [m]) (partS b k f t n).2 ∧ Fr (fun x => x = R ∨ x = P ∨ B1 ≤ x) w (w3.setCell ⟨P, 7, none⟩ v') := by
  refine WS.app1 K S hk C h12 hg hv (h3.kept (row := some P) ⟨rfl, rfl, rfl, by simp [World.setCell], fun k _ hn => Below.heap_setCell _ _ _ _ fun e => hn (by rw [e])⟩ (.inr fun e => ?_)) (Fr.set (p := ⟨P, 7, none⟩) (Fr.refl _ _) (.inl (.inl rfl)) _) fun h => h.set7 v'
  have := (h3.lt P e).1
  have := K.p
  omega
theorem epost_mk {rec : Nat → Nat → Nat → PT × Nat} {R P Bg BR BP BD B1 : Nat} {A : Option Addr} {c : Nat} {b ty sub bd enc : List UInt8} {fr bo to_ : Nat} {deep : Int} {w0 w w3 : World} {g at_ mx : Nat} {v' : Value} {kids : List MP} {n N : Nat} {m : MP} (K : WK R P Bg BR BP BD B1 A)
    (hF : Fr (fun x => x = R) w0 w) (q6 : WS R P Bg BR BP BD B1 A c b ty sub bd enc fr bo to_ deep w3 (some g) v' (kids ++ [m]) N) (q7 : Fr (fun x => x = R ∨ x = P ∨ B1 ≤ x) w w3) (er : erase m = (rec g mx (n + 1)).1) (hN : N = (rec g mx (n + 1)).2) (hmx : max g at_ = mx) (hn : n < 16) :
    EPost rec R P Bg BR BP BD B1 A c b ty sub bd enc fr bo to_ deep (some g) kids n at_ w0 (.returned (.tuple #[])) (w3.setCell ⟨Bg, 0, none⟩ (.int .i64 (-1))) := by
  refine ⟨rfl, v', [m], N, q6.setg K none _ rfl, ?_, Fr.set (p := ⟨Bg, 0, none⟩) ((hF.weak fun _ h => .inl h).trans (q7.weak fun x h => ?_)) (.inl (.inr (.inr (.inl rfl)))) _⟩
  · unfold endsS
    dsimp only
    rw [if_pos hn, hmx, hN, ← er]
    rfl
  · rcases h with h | h | h
    · exact .inl h
    · exact .inr (.inl h)
    · exact .inr (.inr (.inr h))
def zeroP : MP := .mk [] [] [] [] 0 0 0 none 0 []
/-- The call of part, a new part having been laid ahead of it or not. -/
theorem call_part2 (k : Nat) (hk : PartC k) {R P Bg BR BP BD B1 : Nat} {A : Option Addr} {c : Nat} {b ty sub bd enc : List UInt8} {fr bo to_ : Nat} {deep : Int} {W : World} {g : Nat} {v : Value} {kids : List MP} {n : Nat} (f t : Nat)
    (K : WK R P Bg BR BP BD B1 A) (S : WS R P Bg BR BP BD B1 A c b ty sub bd enc fr bo to_ deep W (some g) v kids n) (hd0 : 0 ≤ deep) (hd : deep + 1 + k = 4) (hb : b.length ≤ 2000000) (hc : b.length ≤ c) (hA : A = none → c = 0) (hft : f ≤ t) (ht : t ≤ b.length) (ty0 : Nat) :
    Calls Tryz.prog 38 #[.pointer (some ⟨R, 0, none⟩), .int .i64 (f : Int), .int .i64 (t : Int), .int .i64 (deep + 1)] (W.alloc (.cells #[.string ⟨#[]⟩, .string ⟨#[]⟩, .string ⟨#[]⟩, .string ⟨#[]⟩, .int .i64 0, .int .i64 0, .int .i64 0, .slice none 0 0] ty0)) fun e w' =>
      ∃ (ty2 sub2 bd2 en2 : List UInt8) (f2 o2 t2 : Nat) (A2 : Option Addr) (c2 : Nat) (kd2 : List MP), e = .returned (.agg #[.string ⟨ty2.toArray⟩, .string ⟨sub2.toArray⟩, .string ⟨bd2.toArray⟩, .string ⟨en2.toArray⟩, .int .i64 (f2 : Int), .int .i64 (o2 : Int), .int .i64 (t2 : Int), .slice A2 kd2.length c2]) ∧
        (w'.cell? ⟨BP, 0, none⟩ = some (.pointer (some ⟨P, 0, none⟩)) ∧ w'.cell? ⟨BR, 0, none⟩ = some (.pointer (some ⟨R, 0, none⟩)) ∧ w'.cell? ⟨Bg, 0, none⟩ = some (.int .i64 (g : Int)) ∧ w'.cell? ⟨BD, 0, none⟩ = some (.int .i64 deep)) ∧
        w'.cell? ⟨P, 7, none⟩ = some v ∧ CallOk b k f t n R A c W w' (.mk ty2 sub2 bd2 en2 f2 o2 t2 A2 c2 kd2) ∧ RowIn w' (some ⟨W.heap.size, 0, none⟩) (mcell zeroP) := by
  have S' := S.below (w' := W.alloc (.cells (mcell zeroP).toArray ty0)) ((Below.refl _ _).alloc (Nat.le_refl _) _)
  refine (call_part k hk f t K S' hd0 hd hb hc hA hft ht).mono ?_
  rintro e w' ⟨ty2, sub2, bd2, en2, f2, o2, t2, A2, c2, kd2, rfl, h1, h2, h3⟩
  refine ⟨ty2, sub2, bd2, en2, f2, o2, t2, A2, c2, kd2, rfl, h1, h2, ⟨MOk.weak (fun x hx => Nat.le_trans (fr_alloc (fun _ => False) _ _).size hx) _ h3.ok, h3.er, h3.rr, (fr_alloc _ _ _).trans h3.fr⟩, h3.fr.row (fun _ ad e => ?_) (row_new8 _ _ _)⟩
  cases e
  have := S.sz
  have := K.r
  exact fun e => by dsimp only at e; omega
/-- The cells of a new part that is filled behind its row's growth. -/
theorem late_cells {w : World} {B1 ty gx cx : Nat} {kids : List MP} (h : w.ownsRow B1 ty 8 (.slice (some ⟨gx, 0, none⟩) (kids.length + 1) cx) (kids.length + 1) (mcells kids ++ mcell zeroP)) :
    w.cell? ⟨gx, kids.length * 8, none⟩ = some (.string ⟨#[]⟩) ∧ w.cell? ⟨gx, kids.length * 8 + 1, none⟩ = some (.string ⟨#[]⟩) ∧ w.cell? ⟨gx, kids.length * 8 + 2, none⟩ = some (.string ⟨#[]⟩) ∧ w.cell? ⟨gx, kids.length * 8 + 3, none⟩ = some (.string ⟨#[]⟩) ∧ w.cell? ⟨gx, kids.length * 8 + 4, none⟩ = some (.int .i64 0) ∧ w.cell? ⟨gx, kids.length * 8 + 5, none⟩ = some (.int .i64 0) ∧ w.cell? ⟨gx, kids.length * 8 + 6, none⟩ = some (.int .i64 0) ∧ w.cell? ⟨gx, kids.length * 8 + 7, none⟩ = some (.slice none 0 0) ∧ ∀ j, w.frozen? ⟨gx, j, none⟩ = false := by
  have hc : ∀ j, j < 8 → w.cell? ⟨gx, kids.length * 8 + j, none⟩ = (mcell zeroP)[j]? := fun j hj => by
    rw [h.cellAt _ (by omega), List.getElem?_append_right (by rw [mcells_len]; omega), mcells_len]
    congr 1
    omega
  exact ⟨hc 0 (by omega), hc 1 (by omega), hc 2 (by omega), hc 3 (by omega), hc 4 (by omega), hc 5 (by omega), hc 6 (by omega), hc 7 (by omega), h.frozenAt⟩
theorem late_row {w : World} {B1 ty gx cx : Nat} {kids : List MP} (h : w.ownsRow B1 ty 8 (.slice (some ⟨gx, 0, none⟩) (kids.length + 1) cx) (kids.length + 1) (mcells kids ++ mcell zeroP)) (ty2 sub2 bd2 en2 : List UInt8) (f2 o2 t2 : Nat) (A2 : Option Addr) (c2 : Nat) (kd2 : List MP) :
    ((((((((w.setCell ⟨gx, kids.length * 8, none⟩ (.string ⟨ty2.toArray⟩)).setCell ⟨gx, kids.length * 8 + 1, none⟩ (.string ⟨sub2.toArray⟩)).setCell ⟨gx, kids.length * 8 + 2, none⟩ (.string ⟨bd2.toArray⟩)).setCell ⟨gx, kids.length * 8 + 3, none⟩ (.string ⟨en2.toArray⟩)).setCell ⟨gx, kids.length * 8 + 4, none⟩ (.int .i64 (f2 : Int))).setCell ⟨gx, kids.length * 8 + 5, none⟩ (.int .i64 (o2 : Int))).setCell ⟨gx, kids.length * 8 + 6, none⟩ (.int .i64 (t2 : Int))).setCell ⟨gx, kids.length * 8 + 7, none⟩ (.slice A2 kd2.length c2)).ownsRow B1 ty 8 (.slice (some ⟨gx, 0, none⟩) (kids.length + 1) cx) (kids.length + 1) (mcells kids ++ mcell (.mk ty2 sub2 bd2 en2 f2 o2 t2 A2 c2 kd2)) := by
  have h8 := ((((((((h.stored (kids.length * 8) (.string ⟨ty2.toArray⟩)).1.stored (kids.length * 8 + 1) (.string ⟨sub2.toArray⟩)).1.stored (kids.length * 8 + 2) (.string ⟨bd2.toArray⟩)).1.stored (kids.length * 8 + 3) (.string ⟨en2.toArray⟩)).1.stored (kids.length * 8 + 4) (.int .i64 (f2 : Int))).1.stored (kids.length * 8 + 5) (.int .i64 (o2 : Int))).1.stored (kids.length * 8 + 6) (.int .i64 (t2 : Int))).1.stored (kids.length * 8 + 7) (.slice A2 kd2.length c2)).1
  have e : ∀ (l : List Value) (u : Value) (j : Nat), (mcells kids ++ l).set (kids.length * 8 + j) u = mcells kids ++ l.set j u := fun l u j => by
    rw [List.set_append_right _ _ (by rw [mcells_len]; omega), mcells_len]
    congr 2
    omega
  have e0 : ∀ (l : List Value) (u : Value), (mcells kids ++ l).set (kids.length * 8) u = mcells kids ++ l.set 0 u := fun l u => e l u 0
  rw [e0, e, e, e, e, e, e, e] at h8
  exact h8
theorem late_fr (w : World) (gx : Nat) (kids : List MP) (ty2 sub2 bd2 en2 : List UInt8) (f2 o2 t2 : Nat) (A2 : Option Addr) (c2 : Nat) (kd2 : List MP) : Fr (fun x => x = gx) w ((((((((w.setCell ⟨gx, kids.length * 8, none⟩ (.string ⟨ty2.toArray⟩)).setCell ⟨gx, kids.length * 8 + 1, none⟩ (.string ⟨sub2.toArray⟩)).setCell ⟨gx, kids.length * 8 + 2, none⟩ (.string ⟨bd2.toArray⟩)).setCell ⟨gx, kids.length * 8 + 3, none⟩ (.string ⟨en2.toArray⟩)).setCell ⟨gx, kids.length * 8 + 4, none⟩ (.int .i64 (f2 : Int))).setCell ⟨gx, kids.length * 8 + 5, none⟩ (.int .i64 (o2 : Int))).setCell ⟨gx, kids.length * 8 + 6, none⟩ (.int .i64 (t2 : Int))).setCell ⟨gx, kids.length * 8 + 7, none⟩ (.slice A2 kd2.length c2)) :=
  (Fr.set (S := fun x => x = gx) (p := ⟨gx, _, none⟩) (Fr.set (S := fun x => x = gx) (p := ⟨gx, _, none⟩) (Fr.set (S := fun x => x = gx) (p := ⟨gx, _, none⟩) (Fr.set (S := fun x => x = gx) (p := ⟨gx, _, none⟩) (Fr.set (S := fun x => x = gx) (p := ⟨gx, _, none⟩) (Fr.set (S := fun x => x = gx) (p := ⟨gx, _, none⟩) (Fr.set (S := fun x => x = gx) (p := ⟨gx, _, none⟩) (Fr.set (S := fun x => x = gx) (p := ⟨gx, _, none⟩) (Fr.refl _ w) (.inl rfl) _) (.inl rfl) _) (.inl rfl) _) (.inl rfl) _) (.inl rfl) _) (.inl rfl) _) (.inl rfl) _) (.inl rfl) _)
theorem late_own {w : World} {B1 ty P : Nat} {v : Value} {n : Nat} {xs : List Value} (h : w.ownsRow B1 ty 8 v n xs) (hp : P < B1) (u : Value) : (w.setCell ⟨P, 7, none⟩ u).ownsRow B1 ty 8 v n xs := by
  refine h.kept (row := some P) ⟨rfl, rfl, rfl, by simp [World.setCell], fun k _ hn => Below.heap_setCell _ _ _ _ fun e => hn (by rw [e])⟩ (.inr fun e => ?_)
  have := (h.lt P e).1
  omega
theorem WS.late {k R P Bg BR BP BD B1 f t : Nat} {A : Option Addr} {c : Nat} {b ty sub bd enc : List UInt8} {fr bo to_ : Nat} {deep : Int} {w w1 w3 : World} {o : Option Nat} {v : Value} {gx cx : Nat} {kids : List MP} {n : Nat} {ty2 sub2 bd2 en2 : List UInt8} {f2 o2 t2 : Nat} {A2 : Option Addr} {c2 : Nat} {kd2 : List MP} (K : WK R P Bg BR BP BD B1 A)
    (S : WS R P Bg BR BP BD B1 A c b ty sub bd enc fr bo to_ deep w o v kids n) (hk : kids.length + 1 ≤ n) (C : CallOk b k f t n R A c w w1 (.mk ty2 sub2 bd2 en2 f2 o2 t2 A2 c2 kd2))
    (hE : ∃ w2 : World, Fr (fun _ => False) w1 w2 ∧ w2.grownBy w3 v.ownBlock ∧ ((Value.slice (some ⟨gx, 0, none⟩) (kids.length + 1) cx).ownBlock = v.ownBlock ∨ (Value.slice (some ⟨gx, 0, none⟩) (kids.length + 1) cx).ownBlock = some w2.heap.size))
    (h3 : w3.ownsRow B1 29 8 (.slice (some ⟨gx, 0, none⟩) (kids.length + 1) cx) (kids.length + 1) (mcells kids ++ mcell zeroP)) (W : World) (hW : W = w3.setCell ⟨P, 7, none⟩ (.slice (some ⟨gx, 0, none⟩) (kids.length + 1) cx)) :
    WS R P Bg BR BP BD B1 A c b ty sub bd enc fr bo to_ deep ((((((((W.setCell ⟨gx, kids.length * 8, none⟩ (.string ⟨ty2.toArray⟩)).setCell ⟨gx, kids.length * 8 + 1, none⟩ (.string ⟨sub2.toArray⟩)).setCell ⟨gx, kids.length * 8 + 2, none⟩ (.string ⟨bd2.toArray⟩)).setCell ⟨gx, kids.length * 8 + 3, none⟩ (.string ⟨en2.toArray⟩)).setCell ⟨gx, kids.length * 8 + 4, none⟩ (.int .i64 (f2 : Int))).setCell ⟨gx, kids.length * 8 + 5, none⟩ (.int .i64 (o2 : Int))).setCell ⟨gx, kids.length * 8 + 6, none⟩ (.int .i64 (t2 : Int))).setCell ⟨gx, kids.length * 8 + 7, none⟩ (.slice A2 kd2.length c2)) o (.slice (some ⟨gx, 0, none⟩) (kids.length + 1) cx) (kids ++ [.mk ty2 sub2 bd2 en2 f2 o2 t2 A2 c2 kd2]) (partS b k f t n).2 ∧ Fr (fun x => x = R ∨ x = P ∨ B1 ≤ x) w ((((((((W.setCell ⟨gx, kids.length * 8, none⟩ (.string ⟨ty2.toArray⟩)).setCell ⟨gx, kids.length * 8 + 1, none⟩ (.string ⟨sub2.toArray⟩)).setCell ⟨gx, kids.length * 8 + 2, none⟩ (.string ⟨bd2.toArray⟩)).setCell ⟨gx, kids.length * 8 + 3, none⟩ (.string ⟨en2.toArray⟩)).setCell ⟨gx, kids.length * 8 + 4, none⟩ (.int .i64 (f2 : Int))).setCell ⟨gx, kids.length * 8 + 5, none⟩ (.int .i64 (o2 : Int))).setCell ⟨gx, kids.length * 8 + 6, none⟩ (.int .i64 (t2 : Int))).setCell ⟨gx, kids.length * 8 + 7, none⟩ (.slice A2 kd2.length c2)) := by
  subst hW
  obtain ⟨w2, h12, hg, hv⟩ := hE
  have hgx : P ≠ gx := by
    have := (h3.lt gx rfl).1
    have := K.p
    omega
  refine WS.app1 K S hk C h12 hg hv (late_row (late_own h3 K.p _) ty2 sub2 bd2 en2 f2 o2 t2 A2 c2 kd2) ((Fr.set (p := ⟨P, 7, none⟩) (Fr.refl _ _) (.inl (.inl rfl)) _).trans ((late_fr _ gx kids ty2 sub2 bd2 en2 f2 o2 t2 A2 c2 kd2).weak fun x hx => .inr (by rw [hx]; rfl))) fun h => (h.set7 _).fr (late_fr _ gx kids ty2 sub2 bd2 en2 f2 o2 t2 A2 c2 kd2) hgx
end Go.Proofs.YtbjbljfmcpidmaaGreatDoor

/- The reader of Kind: blanks, sign. -/
import Derived.Test.YtbjbljfmcpidmaaGreatDoorCutR
import Derived.Maps.AppendAt
import Derived.Shelf.Small.Wraps
import Derived.Outline
namespace Go.Proofs.YtbjbljfmcpidmaaGreatDoor
open Go.RowKit Go.Lib Go.Shelf

/-- A reader lies in block B. -/
structure RD (w : World) (B : Nat) (s : List UInt8) (ok : Bool) : Prop where
  c0 : w.cell? ⟨B, 0, none⟩ = some (.string ⟨s.toArray⟩)
  c1 : w.cell? ⟨B, 1, none⟩ = some (.bool ok)
  f0 : w.frozen? ⟨B, 0, none⟩ = false
  f1 : w.frozen? ⟨B, 1, none⟩ = false
theorem RD.lt {w : World} {B : Nat} {s : List UInt8} {ok : Bool} (h : RD w B s ok) : B < w.heap.size := lt_of_cell h.c0
theorem RD.below {w w' : World} {B : Nat} {s : List UInt8} {ok : Bool} (h : RD w B s ok) (hb : Below w.heap.size w w') : RD w' B s ok :=
  ⟨cell_below hb h.c0, cell_below hb h.c1, (hb.frozen (p := ⟨B, 0, none⟩) h.lt).trans h.f0, (hb.frozen (p := ⟨B, 1, none⟩) h.lt).trans h.f1⟩
/-- The variables of the packages, which lie elsewhere than block B. -/
def GU (w : World) (B : Nat) : Prop := Gl w ∧ 0 ≠ B ∧ 2 ≠ B ∧ 3 ≠ B
theorem GU.grown {w w' : World} {B : Nat} (h : GU w B) (hg : w.grownBy w' (some B)) : GU w' B := by
  obtain ⟨⟨⟨m, hm⟩, h1, h2⟩, n1, n2, n3⟩ := h
  exact ⟨⟨⟨m, hg.cell hm (by simpa using n1)⟩, fun c hc => hg.cell (h1 c hc) (by simpa using n2), fun i hi => ⟨hg.cell (h2 i hi).1 (by simpa using n3), hg.cell (h2 i hi).2 (by simpa using n3)⟩⟩, n1, n2, n3⟩
theorem grown_of_below {w w' : World} (h : Below w.heap.size w w') (row : Option Nat) : w.grownBy w' row := ⟨h.os, h.tape, h.output, h.size, fun k hk _ => h.block k hk⟩
theorem grown_set (w : World) (B j : Nat) (v : Value) : w.grownBy (w.setCell ⟨B, j, none⟩ v) (some B) :=
  ⟨rfl, rfl, rfl, by simp, fun k _ hk => heap_setCell_other w ⟨B, j, none⟩ k v (fun e => hk (by simp [e]))⟩
theorem RD.set0 {w : World} {B : Nat} {s : List UInt8} {ok : Bool} (h : RD w B s ok) (t : List UInt8) : RD (w.setCell ⟨B, 0, none⟩ (.string ⟨t.toArray⟩)) B t ok := by
  have h0 := h.c0; have h1 := h.c1; have h2 := h.f0; have h3 := h.f1
  exact ⟨by go_simp, by go_simp, by go_simp, by go_simp⟩
theorem RD.set1 {w : World} {B : Nat} {s : List UInt8} {ok : Bool} (h : RD w B s ok) (o : Bool) : RD (w.setCell ⟨B, 1, none⟩ (.bool o)) B s o := by
  have h0 := h.c0; have h1 := h.c1; have h2 := h.f0; have h3 := h.f1
  exact ⟨by go_simp, by go_simp, by go_simp, by go_simp⟩

def tb (s : List UInt8) : List UInt8 := Lib.trimS s [32, 9]
theorem tb_eq (s : List UInt8) : rtrim (s.dropWhile isBl) = tb s := by
  unfold tb rtrim
  rw [trimS_bl, trim_swap]
theorem tb_le (s : List UInt8) : (tb s).length ≤ s.length := by
  unfold tb
  rw [trimS_bl]
  refine Nat.le_trans (List.dropWhile_sublist _).length_le ?_
  rw [List.length_reverse]
  exact Nat.le_trans (List.dropWhile_sublist _).length_le (by simp)
def RPost (B : Nat) (v : Value) (s : List UInt8) (ok : Bool) (w : World) (e : Ending) (w' : World) : Prop := e = .returned v ∧ RD w' B s ok ∧ w.grownBy w' (some B)

set_option maxHeartbeats 1000000 in
theorem blanks_any (B : Nat) (s : List UInt8) (ok : Bool) (w : World) (hR : RD w B s ok) (hl : s.length ≤ 4000000) (hg : GU w B) :
    Calls Tryz.prog 127 #[.pointer (some ⟨B, 0, none⟩)] w (RPost B (.tuple #[]) (tb s) ok w) := by
  have c0 := hR.c0
  have cL := cutLeft_any s w hl
  have hlen : (s.dropWhile isBl).length ≤ 4000000 := Nat.le_trans (List.dropWhile_sublist _).length_le hl
  go_enter Tryz.func127, Tryz.ntmps127
  go_wp2_with fail
  refine cL.mono ?_
  rintro e w1 ⟨rfl, hb1⟩
  go_wp2_with fail
  refine (cutRight_any _ w1 hlen (hg.1.below hb1)).mono ?_
  rintro e w2 ⟨rfl, hb2⟩
  have hR2 := (hR.below hb1).below hb2
  have d0 := hR2.c0
  have f0 := hR2.f0
  rw [tb_eq]
  go_wp2
  go_end0
  exact ⟨rfl, hR2.set0 _, (grown_of_below (hb1.trans (hb2.mono hb1.size)) _).trans (grown_set _ _ _ _)⟩

theorem cutPrefix_any (s p : List UInt8) (w : World) :
    Calls Tryz.prog 128 #[.string ⟨s.toArray⟩, .string ⟨p.toArray⟩] w fun e w' => e = .returned (.tuple #[.string ⟨(Lib.trimPrefix s p).toArray⟩, .bool (Lib.hasPrefix s p)]) ∧ w = w' := by
  refine (Tryz.strings_CutPrefix ⟨s.toArray⟩ ⟨p.toArray⟩ w).mono ?_
  rintro e w' ⟨rfl, h⟩
  exact ⟨rfl, h.symm⟩

/-- sign -/
def signS (s : List UInt8) (c : List UInt8) : List UInt8 := tb (Lib.trimPrefix (tb s) c)
theorem trimPrefix_le (s p : List UInt8) : (Lib.trimPrefix s p).length ≤ s.length := by
  unfold Lib.trimPrefix
  split
  · simp
  · exact Nat.le_refl _

set_option maxHeartbeats 1000000 in
theorem sign_any (B : Nat) (s c : List UInt8) (ok : Bool) (w : World) (hR : RD w B s ok) (hl : s.length ≤ 4000000) (hg : GU w B) :
    Calls Tryz.prog 60 #[.pointer (some ⟨B, 0, none⟩), .string ⟨c.toArray⟩] w (RPost B (.tuple #[]) (signS s c) (ok && Lib.hasPrefix (tb s) c) w) := by
  have cB := blanks_any B s ok w hR hl hg
  have hl1 := tb_le s
  have hl2 := trimPrefix_le (tb s) c
  go_enter Tryz.func60, Tryz.ntmps60
  go_wp2_with fail
  refine cB.mono ?_
  rintro e w1 ⟨rfl, hR1, hg1⟩
  have c0 := hR1.c0
  have c1 := hR1.c1
  have f0 := hR1.f0
  have f1 := hR1.f1
  have hgu := (hg.grown hg1)
  cases ok
  all_goals
    go_wp2_with (go_at_call 128; refine (cutPrefix_any _ _ _).mono ?_; rintro e w2 ⟨rfl, rfl⟩)
    refine (blanks_any B (Lib.trimPrefix (tb s) c) _ _ ((hR1.set0 _).set1 _) (by omega) (hgu.grown ((grown_set _ _ _ _).trans (grown_set _ _ _ _)))).mono ?_
    rintro e w3 ⟨rfl, hR3, hg3⟩
    go_wp2
    go_end0
    exact ⟨rfl, by simpa [signS] using hR3, (hg1.trans ((grown_set _ _ _ _).trans (grown_set _ _ _ _))).trans hg3⟩

/-- A byte of a token. -/
def special : List UInt8 := [40, 41, 60, 62, 64, 44, 59, 58, 92, 34, 47, 91, 93, 63, 61]
def tokB (x : UInt8) : Bool := decide (32 < x.toNat) && decide (x.toNat ≤ 126) && !special.contains x
def tokN (s : List UInt8) : Nat := (s.takeWhile tokB).length
def tokS (s : List UInt8) : List UInt8 := s.take (tokN s)
def tokR (s : List UInt8) : List UInt8 := tb (s.drop (tokN s))
theorem tokN_le (s : List UInt8) : tokN s ≤ s.length := (List.takeWhile_sublist tokB).length_le
theorem take_at (p : UInt8 → Bool) (l : List UInt8) (k : Nat) (h : k < l.length) (hk : k ≤ (l.takeWhile p).length) : (p l[k] = true → k + 1 ≤ (l.takeWhile p).length) ∧ (p l[k] = false → k = (l.takeWhile p).length) := by
  induction k generalizing l with
  | zero =>
    cases l with
    | nil => simp at h
    | cons x r =>
      refine ⟨fun h => ?_, fun h => ?_⟩
      · have : p x = true := h
        simp [this]
      · have : p x = false := h
        simp [this]
  | succ k ih =>
    cases l with
    | nil => simp at h
    | cons x r =>
      by_cases hx : p x = true
      · have h1 := ih r (by simpa using h) (by simpa [hx] using hk)
        simp only [List.getElem_cons_succ, List.takeWhile_cons_of_pos hx, List.length_cons]
        exact ⟨fun h => by have := h1.1 h; omega, fun h => by have := h1.2 h; omega⟩
      · simp [hx] at hk
theorem indexByte_ge (s : List UInt8) (c : UInt8) : -1 ≤ Lib.indexByte s c := by
  induction s with
  | nil => simp [Lib.indexByte]
  | cons b s ih =>
    unfold Lib.indexByte
    split
    · omega
    · split
      · omega
      · omega
theorem indexByte_lt (s : List UInt8) (c : UInt8) : decide (Lib.indexByte s c < 0) = !s.contains c := by
  induction s with
  | nil => rfl
  | cons b s ih =>
    have hg := indexByte_ge s c
    unfold Lib.indexByte
    by_cases h : b = c
    · subst h
      simp
    · have h1 : (b == c) = false := beq_eq_false_iff_ne.2 h
      have h2 : (c == b) = false := beq_eq_false_iff_ne.2 (Ne.symm h)
      rw [List.contains_cons, h1, h2]
      simp only [Bool.false_eq_true, if_false, Bool.false_or]
      rw [← ih]
      by_cases h3 : Lib.indexByte s c = -1
      · simp [h3]
      · have h4 : (Lib.indexByte s c == -1) = false := beq_eq_false_iff_ne.2 h3
        rw [h4]
        simp
        omega
theorem special_ix (x : UInt8) : decide (Lib.indexByte special x < 0) = !special.contains x := indexByte_lt special x

theorem tokN_lt (s : List UInt8) (k : Nat) (h : k < tokN s) (hk : k < s.length) : tokB s[k] = true := by
  have h1 := take_at tokB s k hk (Nat.le_of_lt h)
  cases hb : tokB s[k] with
  | true => rfl
  | false => have := h1.2 hb; unfold tokN at h; omega
theorem tokN_at (s : List UInt8) (hk : tokN s < s.length) : tokB s[tokN s] = false := by
  have h1 := take_at tokB s (tokN s) hk (Nat.le_refl _)
  cases hb : tokB s[tokN s] with
  | false => rfl
  | true => have := h1.1 hb; unfold tokN at this; omega
end Go.Proofs.YtbjbljfmcpidmaaGreatDoor

/- mime: how parts are told. -/
import Derived.Test.YtbjbljfmcpidmaaGreatDoorQuote
import Derived.Test.YtbjbljfmcpidmaaGreatDoorSectionW
import Derived.Lib.CountLaws
import Derived.Deep.RegionHeld3
import Derived.Deep.Cut
namespace Go.Proofs.YtbjbljfmcpidmaaGreatDoor
open Go.RowKit Go.Lib Go.Shelf
def nilL : List UInt8 := [78, 73, 76, 32, 78, 73, 76, 32, 78, 73, 76]
def crlfN (b : List UInt8) (bo to_ : Nat) : Int := Lib.count (cutB b bo to_) [13, 10]
def wordsL (b ty sub en : List UInt8) (bo to_ : Nat) : List (List UInt8) := [quoteS ty, quoteS sub, nilL, quoteS en, Lib.itoa ((to_ - bo : Nat) : Int)] ++ (if ty = kText then [Lib.itoa (crlfN b bo to_)] else [])
def leafS (b ty sub en : List UInt8) (bo to_ : Nat) : List UInt8 := 40 :: (Lib.join (wordsL b ty sub en bo to_) [32] ++ [41])
mutual
def tellT (b : List UInt8) : PT → List UInt8
  | .mk ty sub _ en _ bo to_ kids => if kids.isEmpty then leafS b ty sub en bo to_ else 40 :: (tellsT b kids ++ 32 :: (quoteS sub ++ [41]))
def tellsT (b : List UInt8) : List PT → List UInt8
  | [] => []
  | x :: l => tellT b x ++ tellsT b l
end
/-- A part that can be told: its texts aren't great, it isn't deep. -/
def TOk (L : Nat) : Nat → PT → Prop
  | 0, .mk ty sub _ en _ bo to_ kids => ty.length ≤ 2000000 ∧ sub.length ≤ 2000000 ∧ en.length ≤ 2000000 ∧ bo ≤ to_ ∧ to_ ≤ L ∧ kids.length ≤ 16 ∧ kids = []
  | d + 1, .mk ty sub _ en _ bo to_ kids => ty.length ≤ 2000000 ∧ sub.length ≤ 2000000 ∧ en.length ≤ 2000000 ∧ bo ≤ to_ ∧ to_ ≤ L ∧ kids.length ≤ 16 ∧ ∀ x ∈ kids, TOk L d x
theorem TOk.base {L d : Nat} {ty sub bd en : List UInt8} {fr bo to_ : Nat} {kids : List PT} (h : TOk L d (.mk ty sub bd en fr bo to_ kids)) : ty.length ≤ 2000000 ∧ sub.length ≤ 2000000 ∧ en.length ≤ 2000000 ∧ bo ≤ to_ ∧ to_ ≤ L ∧ kids.length ≤ 16 := by
  cases d with
  | zero => exact ⟨h.1, h.2.1, h.2.2.1, h.2.2.2.1, h.2.2.2.2.1, h.2.2.2.2.2.1⟩
  | succ d => exact ⟨h.1, h.2.1, h.2.2.1, h.2.2.2.1, h.2.2.2.2.1, h.2.2.2.2.2.1⟩
theorem quote_len (s : List UInt8) (hs : s.length ≤ 2000000) : (quoteS s).length ≤ 4000030 := by
  have h1 := itoa_len (s.length : Int) (by omega) (by omega)
  have h2 := esc_le s
  unfold quoteS
  split
  · simp only [List.length_cons, List.length_append]; omega
  · simp only [List.length_cons, List.length_append, List.length_nil]; omega
theorem join_len (xs : List (List UInt8)) : (Lib.join xs [32]).length ≤ (xs.map fun x => x.length + 1).sum := by
  induction xs with
  | nil => simp [Lib.join, List.intercalate]
  | cons x xs ih =>
    cases xs with
    | nil => simp [Lib.join, List.intercalate]
    | cons y ys =>
      have e : Lib.join (x :: y :: ys) [32] = x ++ [32] ++ Lib.join (y :: ys) [32] := by simp [Lib.join, List.intercalate]
      rw [e, List.length_append, List.length_append]
      simp only [List.map_cons, List.sum_cons, List.length_cons, List.length_nil] at ih ⊢
      omega
theorem count_le (b : List UInt8) (bo to_ : Nat) (hb : b.length ≤ 2000000) : 0 ≤ crlfN b bo to_ ∧ crlfN b bo to_ ≤ 2000001 := by
  have h := Lib.count_le (cutB b bo to_) [13, 10]
  have hl : (cutB b bo to_).length ≤ b.length := by unfold cutB; simp; omega
  unfold crlfN
  omega
theorem told_len (b ty sub en : List UInt8) (bo to_ : Nat) (hb : b.length ≤ 2000000) (h1 : ty.length ≤ 2000000) (h2 : sub.length ≤ 2000000) (h3 : en.length ≤ 2000000) (ht : to_ ≤ b.length) : (Lib.join (wordsL b ty sub en bo to_) [32]).length ≤ 12001000 := by
  have a1 := quote_len ty h1
  have a2 := quote_len sub h2
  have a3 := quote_len en h3
  have a4 := itoa_len ((to_ - bo : Nat) : Int) (by omega) (by omega)
  have a5 := count_le b bo to_ hb
  have a6 := itoa_len (crlfN b bo to_) (by omega) (by omega)
  refine Nat.le_trans (join_len _) ?_
  unfold wordsL
  have e : nilL.length = 11 := rfl
  split
  · simp only [List.cons_append, List.nil_append, List.map_cons, List.map_nil, List.sum_cons, List.sum_nil, e]; omega
  · simp only [List.append_nil, List.map_cons, List.map_nil, List.sum_cons, List.sum_nil, e]; omega
def bnd : Nat → Nat
  | 0 => 13000000
  | d + 1 => 16 * bnd d + 13000000
theorem bnd_ge (d : Nat) : 13000000 ≤ bnd d := by
  cases d with
  | zero => exact Nat.le_refl _
  | succ d => unfold bnd; omega
theorem tells_len (b : List UInt8) (N : Nat) : ∀ l : List PT, (∀ x ∈ l, (tellT b x).length ≤ N) → (tellsT b l).length ≤ l.length * N := by
  intro l
  induction l with
  | nil => intro _; simp [tellsT]
  | cons x l ih =>
    intro h
    have h1 := h x (List.mem_cons_self ..)
    have h2 := ih fun y hy => h y (List.mem_cons_of_mem _ hy)
    rw [tellsT, List.length_append, List.length_cons, Nat.add_mul]
    omega
theorem tell_len (b : List UInt8) (hb : b.length ≤ 2000000) : ∀ (d : Nat) (p : PT), TOk b.length d p → (tellT b p).length ≤ bnd d := by
  intro d
  induction d with
  | zero =>
    intro p h
    obtain ⟨ty, sub, bd, en, fr, bo, to_, kids⟩ := p
    obtain ⟨h1, h2, h3, h4, h5, h6, rfl⟩ := h
    rw [tellT]
    have := told_len b ty sub en bo to_ hb h1 h2 h3 h5
    simp only [List.isEmpty_nil, if_true]
    unfold leafS bnd
    simp only [List.length_cons, List.length_append, List.length_nil]
    omega
  | succ d ih =>
    intro p h
    obtain ⟨ty, sub, bd, en, fr, bo, to_, kids⟩ := p
    obtain ⟨h1, h2, h3, h4, h5, h6, h7⟩ := h
    rw [tellT]
    split
    · have := told_len b ty sub en bo to_ hb h1 h2 h3 h5
      unfold leafS bnd
      simp only [List.length_cons, List.length_append, List.length_nil]
      omega
    · have g1 := tells_len b (bnd d) kids fun x hx => ih x (h7 x hx)
      have g2 := quote_len sub h2
      have g3 : kids.length * bnd d ≤ 16 * bnd d := Nat.mul_le_mul_right _ h6
      unfold bnd
      simp only [List.length_cons, List.length_append, List.length_nil]
      omega
theorem tells_take (b : List UInt8) (l : List PT) (k : Nat) (h : k < l.length) : tellsT b (l.take (k + 1)) = tellsT b (l.take k) ++ tellT b l[k] := by
  induction l generalizing k with
  | nil => simp at h
  | cons x l ih =>
    cases k with
    | zero => simp [tellsT]
    | succ k =>
      have := ih k (by simpa using h)
      rw [List.take_succ_cons, List.take_succ_cons, tellsT, tellsT, this, List.append_assoc]
      rfl
/-- What telling a part leans on. -/
structure TW (w : World) (R : Nat) (A : Option Addr) (c : Nat) (b : List UInt8) : Prop where
  c0 : w.cell? ⟨R, 0, none⟩ = some (.slice A b.length c)
  row : RowIn w A (bcells b)
  gl : Gl w
  pow : PowTab w
theorem TW.below {w w' : World} {R : Nat} {A : Option Addr} {c : Nat} {b : List UInt8} (h : TW w R A c b) (hb : Below w.heap.size w w') : TW w' R A c b :=
  ⟨cell_below hb h.c0, h.row.below hb, h.gl.below hb, h.pow.below hb⟩
theorem count_at {w W : World} {A A2 : Option Addr} {c c2 : Nat} {b : List UInt8} {lo hi B : Nat} (hr : RowIn w A (bcells b)) (hg : Gl w) (hA : A = none → c = 0) (hlh : lo ≤ hi) (hhi : hi ≤ b.length) (hc : b.length ≤ c) (hb : b.length ≤ 2000000) (hW : Below w.heap.size w W)
    (h0 : W.cell? ⟨B, 0, none⟩ = some (.int .u8 13)) (h1 : W.cell? ⟨B, 1, none⟩ = some (.int .u8 10))
    (h : (A2 = A.map (fun x => x.add lo) ∧ c2 = c - lo) ∨ (A2 = A ∧ c2 = 0 ∧ c = lo)) : Calls Tryz.prog 83 #[.slice A2 (hi - lo) c2, .slice (some ⟨B, 0, none⟩) 2 2] W fun e w' => e = .returned (.int .i64 (crlfN b lo hi)) ∧ Below W.heap.size W w' := by
  have hl : (cutB b lo hi).length = hi - lo := by unfold cutB; simp; omega
  have hrow := (row_at hr hlh hhi hc h).below hW
  obtain ⟨⟨m, hm⟩, _⟩ := hg.below hW
  have hc2 : hi - lo ≤ c2 := by rcases h with ⟨_, rfl⟩ | ⟨_, rfl, rfl⟩ <;> omega
  cases hA2 : A2 with
  | none =>
    subst hA2
    have hz : hi - lo = 0 ∧ c2 = 0 := by
      rcases h with ⟨h1, rfl⟩ | ⟨h1, rfl, h3⟩
      · have := hA (by cases A with | none => rfl | some a => simp at h1)
        omega
      · have := hA h1.symm
        omega
    have e : crlfN b lo hi = 0 := by
      unfold crlfN
      rw [List.eq_nil_of_length_eq_zero (by rw [hl]; exact hz.1 : (cutB b lo hi).length = 0)]
      decide
    rw [hz.1, hz.2, e]
    refine (Tryz.bytes_Count_nil (some ⟨B, 0, none⟩) 2 2 W (by omega) (by omega)).mono ?_
    rintro e w' ⟨rfl, rfl⟩
    exact ⟨rfl, Below.refl _ _⟩
  | some ad =>
    subst hA2
    have hbi := hrow.bytesIn hl
    refine (Tryz.bytes_Count_at ad ⟨B, 0, none⟩ (hi - lo) c2 2 2 ((cutB b lo hi).map fun x => (x.toNat : Int)) [13, 10] m W (by simp [hl]) rfl (range_bytes _) (by decide) (fun i hi2 => ?_) (fun i hi2 => ?_) hc2 (by omega) (by omega) (by omega) hm).mono ?_
    · have hx := row_cell hrow i (.int .u8 (((cutB b lo hi).map fun x => (x.toNat : Int)).getD i 0)) (by
        simp [bcells, cell8, hl, hi2])
      exact hx
    · obtain rfl | rfl : i = 0 ∨ i = 1 := by omega
      · exact h0
      · exact h1
    · rintro e w' ⟨rfl, q, rfl⟩
      rw [bytesOf_toNat]
      exact ⟨rfl, below_drewN' (Below.refl _ _) q⟩
/-- What is known of the part at hand. -/
def TLS (R B : Nat) (A : Option Addr) (c : Nat) (b ty sub en : List UInt8) (bo to_ : Nat) (w : World) : Prop :=
  w.cell? ⟨B, 0, none⟩ = some (.string ⟨ty.toArray⟩) ∧ w.cell? ⟨B, 1, none⟩ = some (.string ⟨sub.toArray⟩) ∧ w.cell? ⟨B, 3, none⟩ = some (.string ⟨en.toArray⟩) ∧ w.cell? ⟨B, 5, none⟩ = some (.int .i64 (bo : Int)) ∧ w.cell? ⟨B, 6, none⟩ = some (.int .i64 (to_ : Int)) ∧ w.cell? ⟨R, 0, none⟩ = some (.slice A b.length c)
theorem TLS.below {w w' : World} {R B : Nat} {A : Option Addr} {c : Nat} {b ty sub en : List UInt8} {bo to_ : Nat} (h : TLS R B A c b ty sub en bo to_ w) (hb : Below w.heap.size w w') : TLS R B A c b ty sub en bo to_ w' :=
  ⟨cell_below hb h.1, cell_below hb h.2.1, cell_below hb h.2.2.1, cell_below hb h.2.2.2.1, cell_below hb h.2.2.2.2.1, cell_below hb h.2.2.2.2.2⟩
def TLP (R B : Nat) (A : Option Addr) (c : Nat) (b ty sub en : List UInt8) (bo to_ : Nat) (w : World) : Prop :=
  w.cell? ⟨B, 0, none⟩ = some (.string ⟨ty.toArray⟩) ∧ w.cell? ⟨B, 1, none⟩ = some (.string ⟨sub.toArray⟩) ∧ w.cell? ⟨B, 3, none⟩ = some (.string ⟨en.toArray⟩) ∧ w.cell? ⟨B, 5, none⟩ = some (.int .i64 (bo : Int)) ∧ w.cell? ⟨B, 6, none⟩ = some (.int .i64 (to_ : Int)) ∧ w.cell? ⟨R, 0, none⟩ = some (.slice A b.length c) ∧ PowTab w
theorem tlp_below {w w' : World} {R B : Nat} {A : Option Addr} {c : Nat} {b ty sub en : List UInt8} {bo to_ : Nat} (h : TLP R B A c b ty sub en bo to_ w) (hb : Below w.heap.size w w') : TLP R B A c b ty sub en bo to_ w' :=
  ⟨cell_below hb h.1, cell_below hb h.2.1, cell_below hb h.2.2.1, cell_below hb h.2.2.2.1, cell_below hb h.2.2.2.2.1, cell_below hb h.2.2.2.2.2.1, h.2.2.2.2.2.2.below hb⟩
theorem sp_below {w0 w w' : World} {B : Nat} {v0 v1 v3 : Value} (h : (w.cell? ⟨B, 0, none⟩ = some v0 ∧ w.cell? ⟨B, 1, none⟩ = some v1 ∧ w.cell? ⟨B, 3, none⟩ = some v3 ∧ PowTab w ∧ Below w0.heap.size w0 w)) (hb : Below w.heap.size w w') : (w'.cell? ⟨B, 0, none⟩ = some v0 ∧ w'.cell? ⟨B, 1, none⟩ = some v1 ∧ w'.cell? ⟨B, 3, none⟩ = some v3 ∧ PowTab w' ∧ Below w0.heap.size w0 w') :=
  ⟨cell_below hb h.1, cell_below hb h.2.1, cell_below hb h.2.2.1, h.2.2.2.1.below hb, h.2.2.2.2.trans (hb.mono h.2.2.2.2.size)⟩
theorem sp_pow {w0 w : World} {B : Nat} {v0 v1 v3 : Value} (h : (w.cell? ⟨B, 0, none⟩ = some v0 ∧ w.cell? ⟨B, 1, none⟩ = some v1 ∧ w.cell? ⟨B, 3, none⟩ = some v3 ∧ PowTab w ∧ Below w0.heap.size w0 w)) : PowTab w := h.2.2.2.1
def strv (l : List UInt8) : Value := .string ⟨l.toArray⟩
theorem join_at (bk c N : Nat) (xs : List (List UInt8)) (w : World) (hrow : RowIn w (some ⟨bk, 0, none⟩) (xs.map strv)) (hN : xs.length = N) (hc : N ≤ c) (hl : (Lib.join xs [32]).length ≤ 140737488355328) (hN2 : N ≤ 1000) (hne : xs ≠ []) :
    Calls Tryz.prog 54 #[.slice (some ⟨bk, 0, none⟩) N c, .string ⟨#[32]⟩] w fun e w' => e = .returned (.string ⟨(Lib.join xs [32]).toArray⟩) ∧ Below w.heap.size w w' := by
  have hm : (xs.map fun l : List UInt8 => (⟨l.toArray⟩ : ByteArray)).map (·.data.toList) = xs := by
    rw [List.map_map]
    conv => rhs; rw [← List.map_id xs]
    exact List.map_congr_left fun l _ => by simp
  have hbk : bk < w.heap.size := by
    obtain ⟨b0, o0, e, hlt⟩ := hrow.addr (by intro e; exact hne (List.map_eq_nil_iff.1 e))
    cases e
    exact hlt
  have key := Tryz.strings_Join bk 0 c (xs.map fun l => ⟨l.toArray⟩) ⟨#[32]⟩ w (fun j x hx => by
    rw [List.getElem?_map] at hx
    cases hj : xs[j]? with
    | none => rw [hj] at hx; cases hx
    | some l =>
      rw [hj] at hx
      cases hx
      exact hrow.cell j _ (by rw [List.getElem?_map, hj]; rfl)) hbk (by simp; omega) (by simp; omega) (by rw [hm]; exact hl)
  rw [hm, List.length_map, hN] at key
  exact key
theorem leaf_eq (J : List UInt8) : (⟨#[40]⟩ : ByteArray) ++ ⟨J.toArray⟩ ++ ⟨#[41]⟩ = ⟨(40 :: (J ++ [41])).toArray⟩ := by
  apply ByteArray.ext
  simp
theorem row5_own (w : World) (t : Nat) (a1 a2 a3 a4 a5 : Value) : (w.alloc (.cells #[a1, a2, a3, a4, a5] t)).ownsRow w.heap.size t 1 (.slice (some ⟨w.heap.size, 0, none⟩) 5 5) 5 [a1, a2, a3, a4, a5] :=
  ⟨rfl, .inr ⟨w.heap.size, 5, #[a1, a2, a3, a4, a5], rfl, Nat.le_refl _, heap_alloc_new w _, by simp, by decide, by simp, by simp⟩⟩
theorem infoStr : (Tryz.prog.info? 9).map (fun i => (i.zero, i.size, i.bytes)) = some (some (.string ⟨#[]⟩), 1, 16) := by kernel_rfl
set_option maxRecDepth 100000 in
set_option maxHeartbeats 2000000 in
theorem tell_leaf (R : Nat) (A : Option Addr) (c : Nat) (b ty sub bd en : List UInt8) (fr bo to_ : Nat) (Ak : Option Addr) (ck : Nat) (w : World) (hT : TW w R A c b) (hb : b.length ≤ 2000000) (hc : b.length ≤ c) (hA : A = none → c = 0) (h1 : ty.length ≤ 2000000) (h2 : sub.length ≤ 2000000) (h3 : en.length ≤ 2000000) (h4 : bo ≤ to_) (h5 : to_ ≤ b.length) :
    Calls Tryz.prog 40 #[.pointer (some ⟨R, 0, none⟩), mval (.mk ty sub bd en fr bo to_ Ak ck [])] w fun e w' => e = .returned (.string ⟨(leafS b ty sub en bo to_).toArray⟩) ∧ Below w.heap.size w w' := by
  have hal : Below w.heap.size w (w.alloc (.cells #[.string ⟨ty.toArray⟩, .string ⟨sub.toArray⟩, .string ⟨bd.toArray⟩, .string ⟨en.toArray⟩, .int .i64 (fr : Int), .int .i64 (bo : Int), .int .i64 (to_ : Int), .slice Ak 0 ck] 29)) := (Below.refl _ _).alloc (Nat.le_refl _) _
  have hP := pc_new w ty sub bd en fr bo to_ (.slice Ak 0 ck) 29
  have hT1 := hT.below hal
  obtain ⟨w1, hw1⟩ : ∃ w1, w1 = w.alloc (.cells #[.string ⟨ty.toArray⟩, .string ⟨sub.toArray⟩, .string ⟨bd.toArray⟩, .string ⟨en.toArray⟩, .int .i64 (fr : Int), .int .i64 (bo : Int), .int .i64 (to_ : Int), .slice Ak 0 ck] 29) := ⟨_, rfl⟩
  have z1 : (bo : Int) ≤ (to_ : Int) := by omega
  have z2 : (to_ : Int) ≤ (c : Int) := by omega
  simp only [mval, mcell, List.length_nil]
  go_enter Tryz.func40, Tryz.ntmps40
  go_upto_region 1 with (fail)
  rw [← hw1] at hP hT1 hal ⊢
  clear hw1
  have hS1 : TLS R w.heap.size A c b ty sub en bo to_ w1 := ⟨hP.c0, hP.c1, hP.c3, hP.c5, hP.c6, hT1.c0⟩
  have p7 := hP.c7
  have HT1 := Lib.hid hT1
  have HT := Lib.hid hT
  clear hT hP hT1
  go_upto_region 10 with (fail)
  have hS2 : TLP R w.heap.size A c b ty sub en bo to_ w1.drew := ⟨hS1.1, hS1.2.1, hS1.2.2.1, hS1.2.2.2.1, hS1.2.2.2.2.1, hS1.2.2.2.2.2, HT1.out.pow.below (Below.refl _ _).drew⟩
  have hS3 : TLP R w.heap.size A c b ty sub en bo to_ w1.drew.drew := tlp_below hS2 (Below.refl _ _).drew
  unfold TLS at hS1
  unfold TLP at hS2 hS3
  have hS3 : (w1.drew.drew.cell? ⟨w.heap.size, 0, none⟩ = some (.string ⟨ty.toArray⟩) ∧ w1.drew.drew.cell? ⟨w.heap.size, 1, none⟩ = some (.string ⟨sub.toArray⟩) ∧ w1.drew.drew.cell? ⟨w.heap.size, 3, none⟩ = some (.string ⟨en.toArray⟩) ∧ PowTab w1.drew.drew ∧ Below w.heap.size w w1.drew.drew) := ⟨hS3.1, hS3.2.1, hS3.2.2.1, hS3.2.2.2.2.2.2, hal.drew.drew⟩
  have hb1d : Below w.heap.size w w1.drew.drew := hal.drew.drew
  have hIt := fun W hP => itoa_any ((to_ - bo : Nat) : Int) W (by omega) (by omega) hP
  by_cases hcap : c = bo
  case' pos =>
    obtain rfl : bo = c := hcap.symm
    have HCN := Lib.hid (fun W B hW h0 h1 => count_at (W := W) (B := B) (A2 := A) (c2 := 0) HT.out.row HT.out.gl hA h4 h5 hc hb hW h0 h1 (.inr ⟨rfl, rfl, rfl⟩))
    go_region_held3 (fun w' => w'.cell? ⟨w.heap.size, 0, none⟩ = some (.string ⟨ty.toArray⟩) ∧ w'.cell? ⟨w.heap.size, 1, none⟩ = some (.string ⟨sub.toArray⟩) ∧ w'.cell? ⟨w.heap.size, 3, none⟩ = some (.string ⟨en.toArray⟩) ∧ w'.cell? ⟨w.heap.size, 5, none⟩ = some (.int .i64 (bo : Int)) ∧ w'.cell? ⟨w.heap.size, 6, none⟩ = some (.int .i64 (to_ : Int)) ∧ w'.cell? ⟨R, 0, none⟩ = some (.slice A b.length bo) ∧ PowTab w') (first | exact hS2 | assumption) (first | fail "no arm")
  case' neg =>
    have HCN := Lib.hid (fun W B hW h0 h1 => count_at (W := W) (B := B) (A2 := A.map (fun x => x.add bo)) (c2 := c - bo) HT.out.row HT.out.gl hA h4 h5 hc hb hW h0 h1 (.inl ⟨rfl, rfl⟩))
    go_region_held3 (fun w' => w'.cell? ⟨w.heap.size, 0, none⟩ = some (.string ⟨ty.toArray⟩) ∧ w'.cell? ⟨w.heap.size, 1, none⟩ = some (.string ⟨sub.toArray⟩) ∧ w'.cell? ⟨w.heap.size, 3, none⟩ = some (.string ⟨en.toArray⟩) ∧ w'.cell? ⟨w.heap.size, 5, none⟩ = some (.int .i64 (bo : Int)) ∧ w'.cell? ⟨w.heap.size, 6, none⟩ = some (.int .i64 (to_ : Int)) ∧ w'.cell? ⟨R, 0, none⟩ = some (.slice A b.length c) ∧ PowTab w') (first | exact hS2 | assumption) (first | fail "no arm")
  all_goals
    apply_assumption
    clear hS2
    go_upto_region 11 with (fail)
    go_region_held3 (fun w' => w'.cell? ⟨w.heap.size, 0, none⟩ = some (.string ⟨ty.toArray⟩) ∧ w'.cell? ⟨w.heap.size, 1, none⟩ = some (.string ⟨sub.toArray⟩) ∧ w'.cell? ⟨w.heap.size, 3, none⟩ = some (.string ⟨en.toArray⟩) ∧ PowTab w' ∧ Below w.heap.size w w') (first | exact hS3 | assumption | exact sp_below (by assumption) hb2 | exact sp_below (by assumption) ((Below.refl _ _).alloc (Nat.le_refl _) _)) (first | (go_at_call 82; (first | (with_reducible refine (quote_any ty _ (by omega) ?_).mono ?_) | (with_reducible refine (quote_any sub _ (by omega) ?_).mono ?_) | (with_reducible refine (quote_any en _ (by omega) ?_).mono ?_)); (first | exact hS3.2.2.2.1 | exact sp_pow (by assumption)); rintro e w2 ⟨rfl, hb2⟩) | (go_at_call 34; (with_reducible refine (hIt _ ?_).mono ?_); (first | exact hS3.2.2.2.1 | exact sp_pow (by assumption)); rintro e w2 ⟨rfl, hb2⟩) | fail "no arm")
    all_goals
      rename_i hSS
      obtain ⟨q0, q1, q3, qP, qB⟩ := hSS
      have hown := row5_own w2 9 (.string ⟨(quoteS ty).toArray⟩) (.string ⟨(quoteS sub).toArray⟩) (.string ⟨#[78, 73, 76, 32, 78, 73, 76, 32, 78, 73, 76]⟩) (.string ⟨(quoteS en).toArray⟩) (.string ⟨(Lib.itoa ((to_ - bo : Nat) : Int)).toArray⟩)
      obtain ⟨w5, hw5⟩ : ∃ w5, w5 = w2.alloc (.cells #[.string ⟨(quoteS ty).toArray⟩, .string ⟨(quoteS sub).toArray⟩, .string ⟨#[78, 73, 76, 32, 78, 73, 76, 32, 78, 73, 76]⟩, .string ⟨(quoteS en).toArray⟩, .string ⟨(Lib.itoa ((to_ - bo : Nat) : Int)).toArray⟩] 9) := ⟨_, rfl⟩
      have hs5 : w2.heap.size ≤ w5.heap.size := by rw [hw5]; simp
      have hw2 : w.heap.size ≤ w2.heap.size := by
        have h6 := qB.size
        rw [← hw5] at h6
        have h7 : w5.heap.size = w2.heap.size + 1 := by rw [hw5]; simp
        have h8 := lt_of_cell q0
        rw [← hw5] at h8
        omega
      rw [← hw5] at q0 q1 q3 qP qB hown ⊢
      clear hw5
      have hjl := told_len b ty sub en bo to_ hb h1 h2 h3 h5
      apply_assumption
      by_cases hty : ty = kText
      · have hwl : wordsL b ty sub en bo to_ = [quoteS ty, quoteS sub, nilL, quoteS en, Lib.itoa ((to_ - bo : Nat) : Int), Lib.itoa (crlfN b bo to_)] := by unfold wordsL; rw [if_pos hty]; rfl
        subst hty
        have q0 : w5.cell? ⟨w.heap.size, 0, none⟩ = some (.string ⟨#[84, 69, 88, 84]⟩) := q0
        have kc := fun (w : World) (C : Array Value) (n c : Nat) => Lib.run_convert_bytes_const (P := Tryz.prog) w 26 5 C n c Tryz.underlying26 Tryz.underlying5
        obtain ⟨i0, hi, iz0, iz1, iz2⟩ := info_parts infoStr
        have hcb := count_le b bo to_ hb
        have HL : Hid (leafS b kText sub en bo to_ = 40 :: (Lib.join (wordsL b kText sub en bo to_) [32] ++ [41])) := Lib.hid rfl
        have HWL := Lib.hid hwl
        have hJ := fun bk c w h => join_at bk c 6 (wordsL b kText sub en bo to_) w h (by rw [hwl]; rfl)
        generalize Lib.join (wordsL b kText sub en bo to_) [32] = J at *
        clear hwl
        go_wp2_with (first | (go_at_call 83; (with_reducible refine (HCN.out _ _ (qB.alloc qB.size _) (World.cell?_alloc_mark _ _ _ _ 0) (World.cell?_alloc_mark _ _ _ _ 1)).mono ?_); rintro e w6 ⟨rfl, hb6⟩; have hb56 : Below w5.heap.size w5 w6 := ((Below.refl _ _).alloc (Nat.le_refl _) _).trans (hb6.mono (by simp))) | (go_at_call 34; (with_reducible refine (itoa_any (crlfN b bo to_) w6 (by omega) (by omega) (qP.below hb56)).mono ?_); rintro e w7 ⟨rfl, hb7⟩; have hb57 := hb56.trans (hb7.mono hb56.size)) | (at_builtin; refine wpList_append_row _ rfl _ _ 44 rfl w2.heap.size 9 i0 (.string ⟨#[]⟩) 1 16 Tryz.underlying44 hi iz0 iz1 iz2 rfl (by decide) _ _ _ rfl ((owns_below hown hb57).alloc _) _ 1 1 [.string ⟨(Lib.itoa (crlfN b bo to_)).toArray⟩] rfl (row_new8 _ _ _) rfl ?a2 ?a3 ?a4 ?a5 ?_))
        case a2 => intro u hu; simp at hu; subst hu; rfl
        case a3 => unfold maxLen; omega
        case a4 => omega
        case a5 => have := hb57.size; simp; omega
        intro v8 w8 hown8 hg8 _
        have hb58 : Below w.heap.size w w8 := ((qB.trans (hb57.mono qB.size)).alloc (by have := qB.size; have := hb57.size; omega) _).grown hg8 (by have := qB.size; have := hb57.size; simp; omega) (fun k hk => by have := (hown.lt k hk).1; omega)
        obtain ⟨g, cap, rfl⟩ := own_shape (n := 5) hown8
        obtain ⟨A9, c9, hv9, hc9, _, hrow9, _⟩ := owns_open hown8
        cases hv9
        have hJ8 := hJ g cap w8 (by rw [HWL.out]; exact hrow9) hc9 (by omega) (by omega) (by rw [HWL.out]; simp)
        clear hJ hrow9 hown8
        go_wp2_with (go_at_call 54; (with_reducible refine hJ8.mono ?_); rintro e w9 ⟨rfl, hb9⟩)
        go_ret
        rw [HL.out]
        exact ⟨congrArg (fun x => Ending.returned (.string x)) (leaf_eq J), hb58.trans (hb9.mono hb58.size)⟩
      · have hwl : wordsL b ty sub en bo to_ = [quoteS ty, quoteS sub, nilL, quoteS en, Lib.itoa ((to_ - bo : Nat) : Int)] := by unfold wordsL; rw [if_neg hty]; rfl
        have hty2 : (ty == [84, 69, 88, 84]) = false := beq_eq_false_iff_ne.2 hty
        obtain ⟨A6, c6, hv6, hc6, _, hrow6, _⟩ := owns_open hown
        cases hv6
        have hJ := join_at w2.heap.size 5 5 (wordsL b ty sub en bo to_) w5 (by rw [hwl]; exact hrow6) (by rw [hwl]; rfl) (Nat.le_refl _) (by omega) (by omega) (by rw [hwl]; simp)
        have HL : Hid (leafS b ty sub en bo to_ = 40 :: (Lib.join (wordsL b ty sub en bo to_) [32] ++ [41])) := Lib.hid rfl
        generalize Lib.join (wordsL b ty sub en bo to_) [32] = J at *
        clear hty hwl hrow6 hown
        go_wp2_with (go_at_call 54; (with_reducible refine hJ.mono ?_); rintro e w6 ⟨rfl, hb6⟩)
        go_ret
        rw [HL.out]
        exact ⟨congrArg (fun x => Ending.returned (.string x)) (leaf_eq J), qB.trans (hb6.mono qB.size)⟩
theorem bnd_le (d : Nat) (h : d ≤ 4) : bnd d ≤ 1000000000000 := by
  obtain rfl | rfl | rfl | rfl | rfl : d = 0 ∨ d = 1 ∨ d = 2 ∨ d = 3 ∨ d = 4 := by omega
  all_goals decide
/-- What tell answers, at so many levels. -/
def TellC (d : Nat) : Prop := ∀ (q : Nat → Prop) (R : Nat) (A : Option Addr) (c : Nat) (b : List UInt8) (m : MP) (w : World), TW w R A c b → b.length ≤ 2000000 → b.length ≤ c → (A = none → c = 0) → MOk q w m → TOk b.length d (erase m) →
  Calls Tryz.prog 40 #[.pointer (some ⟨R, 0, none⟩), mval m] w fun e w' => e = .returned (.string ⟨(tellT b (erase m)).toArray⟩) ∧ Below w.heap.size w w'
theorem node_eq (S Q : List UInt8) : (⟨(40 :: S).toArray⟩ : ByteArray) ++ ⟨#[32]⟩ ++ ⟨Q.toArray⟩ ++ ⟨#[41]⟩ = ⟨(40 :: (S ++ 32 :: (Q ++ [41]))).toArray⟩ := by
  apply ByteArray.ext
  simp
theorem acc_eq (S Q : List UInt8) : (⟨(40 :: S).toArray⟩ : ByteArray) ++ ⟨Q.toArray⟩ = ⟨(40 :: (S ++ Q)).toArray⟩ := by
  apply ByteArray.ext
  simp
set_option maxRecDepth 100000 in
set_option maxHeartbeats 2000000 in
theorem tell_node (d : Nat) (hd4 : d ≤ 4) (hT : TellC d) (q : Nat → Prop) (R : Nat) (A : Option Addr) (c : Nat) (b ty sub bd en : List UInt8) (fr bo to_ : Nat) (Ak : Option Addr) (ck : Nat) (kids : List MP) (w : World) (hW : TW w R A c b) (hb : b.length ≤ 2000000) (hc : b.length ≤ c) (hA : A = none → c = 0)
    (hm : MOk q w (.mk ty sub bd en fr bo to_ Ak ck kids)) (hk : kids ≠ []) (hsub : sub.length ≤ 2000000) (hkl : kids.length ≤ 16) (hko : ∀ x ∈ kids, TOk b.length d (erase x)) :
    Calls Tryz.prog 40 #[.pointer (some ⟨R, 0, none⟩), mval (.mk ty sub bd en fr bo to_ Ak ck kids)] w fun e w' => e = .returned (.string ⟨(tellT b (erase (.mk ty sub bd en fr bo to_ Ak ck kids))).toArray⟩) ∧ Below w.heap.size w w' := by
  have hte : tellT b (erase (.mk ty sub bd en fr bo to_ Ak ck kids)) = 40 :: (tellsT b (erases kids) ++ 32 :: (quoteS sub ++ [41])) := by
    rw [erase, tellT, if_neg]
    intro e
    exact erases_ne hk (List.isEmpty_iff.1 e)
  rw [hte]
  have hal : Below w.heap.size w (w.alloc (.cells #[.string ⟨ty.toArray⟩, .string ⟨sub.toArray⟩, .string ⟨bd.toArray⟩, .string ⟨en.toArray⟩, .int .i64 (fr : Int), .int .i64 (bo : Int), .int .i64 (to_ : Int), .slice Ak kids.length ck] 29)) := (Below.refl _ _).alloc (Nat.le_refl _) _
  have hP := pc_new w ty sub bd en fr bo to_ (.slice Ak kids.length ck) 29
  obtain ⟨w1, hw1⟩ : ∃ w1, w1 = w.alloc (.cells #[.string ⟨ty.toArray⟩, .string ⟨sub.toArray⟩, .string ⟨bd.toArray⟩, .string ⟨en.toArray⟩, .int .i64 (fr : Int), .int .i64 (bo : Int), .int .i64 (to_ : Int), .slice Ak kids.length ck] 29) := ⟨_, rfl⟩
  obtain ⟨hm1, hm2, hm3, hm4⟩ := hm
  obtain ⟨b0, o0, rfl, _⟩ := hm1.addr (by intro e; have := congrArg List.length e; rw [mcells_len] at this; simp only [List.length_nil] at this; exact hk (List.length_eq_zero_iff.1 (by omega)))
  have hk0 : 0 < kids.length := List.length_pos_iff.2 hk
  have hk1 : 0 < (kids.length : Int) := by omega
  have hbd := bnd_le d hd4
  have hlenS : ∀ k, k ≤ kids.length → (tellsT b ((erases kids).take k)).length ≤ 16000000000000 := fun k hk2 => by
    have h1 := tells_len b (bnd d) ((erases kids).take k) fun x hx => by
      have hx2 := List.mem_of_mem_take hx
      rw [erases_map] at hx2
      obtain ⟨y, hy, rfl⟩ := List.mem_map.1 hx2
      exact tell_len b hb d _ (hko y hy)
    have h2 : ((erases kids).take k).length ≤ 16 := by rw [List.length_take, erases_map, List.length_map]; omega
    have h3 : ((erases kids).take k).length * bnd d ≤ 16 * 1000000000000 := Nat.mul_le_mul h2 hbd
    omega
  have hlenK : ∀ x ∈ kids, (tellT b (erase x)).length ≤ 1000000000000 := fun x hx => Nat.le_trans (tell_len b hb d _ (hko x hx)) hbd
  have hel : (erases kids).length = kids.length := by rw [erases_map, List.length_map]
  simp only [mval, mcell]
  go_enter Tryz.func40, Tryz.ntmps40
  go_upto_region 1 with (fail)
  rw [← hw1] at hP hal ⊢
  clear hw1 hte
  have p7 := hP.c7
  have HP := Lib.hid hP
  have HS := Lib.hid hlenS
  have HK := Lib.hid hlenK
  have HT := Lib.hid hT
  have HW := Lib.hid hW
  have HM4 := Lib.hid hm4
  have HM1 := Lib.hid hm1
  have HKO := Lib.hid hko
  have HE := Lib.hid hel
  clear hP hlenS hlenK hT hW hm1 hm2 hm3 hm4 hko hbd hk hel
  go_wp2
  go_loopw [6, 7, 19] (fun s _ i wr => ∃ k : Nat, i = .int .i64 k ∧ k ≤ kids.length ∧ s = .string ⟨(40 :: tellsT b ((erases kids).take k)).toArray⟩ ∧ Below w.heap.size w wr ∧ PC wr w.heap.size ty sub bd en fr bo to_ (.slice (some ⟨b0, o0, none⟩) kids.length ck)) (fun _ _ i _ => kids.length - (intOf i).toNat)
  case atStart => exact ⟨0, rfl, Nat.zero_le _, rfl, hal, HP.out⟩
  case round =>
    obtain ⟨k, rfl, hk2, rfl, hbw, hPw⟩ := hrel
    clear p7
    have p7 := hPw.c7
    have p1 := hPw.c1
    have HPw := Lib.hid hPw
    clear hPw
    by_cases hlt : k < kids.length
    · have hlt2 : (k : Int) < (kids.length : Int) := by omega
      obtain ⟨ty3, sub3, bd3, en3, f3, o3, t3, A3, c3, kd3, hkd⟩ : ∃ ty3 sub3 bd3 en3 f3 o3 t3 A3 c3 kd3, kids[k] = .mk ty3 sub3 bd3 en3 f3 o3 t3 A3 c3 kd3 := by
        cases h : kids[k] with
        | mk a1 a2 a3 a4 a5 a6 a7 a8 a9 a10 => exact ⟨a1, a2, a3, a4, a5, a6, a7, a8, a9, a10, rfl⟩
      obtain ⟨k0, k1, k2, k3, k4, k5, k6, k7⟩ := kid_cells (HM1.out.below hbw) k hlt hkd
      have hC := HT.out q R A c b kids[k] wr (HW.out.below hbw) hb hc hA ((kid_ok HM4.out k hlt).below hbw) (HKO.out _ (List.getElem_mem hlt))
      have hl1 := HS.out k hk2
      have hl2 := HK.out _ (List.getElem_mem hlt)
      have HN : Hid (tellsT b ((erases kids).take (k + 1)) = tellsT b ((erases kids).take k) ++ tellT b (erase kids[k])) := Lib.hid (by
        rw [tells_take b _ k (by rw [HE.out]; exact hlt)]
        congr 2
        simp only [erases_map, List.getElem_map])
      generalize tellT b (erase kids[k]) = T at *
      rw [hkd] at hC
      simp only [mval, mcell] at hC
      generalize hS0 : tellsT b ((erases kids).take k) = S0 at *
      have hle : (40 :: S0).length ≤ 16000000000001 := by simp only [List.length_cons]; omega
      clear hkd
      go_wp2_with (go_at_call 40; (with_reducible refine hC.mono ?_); rintro e w3 ⟨rfl, hb3⟩)
      exact ⟨⟨k + 1, by go_num, by omega, congrArg Value.string (by rw [HN.out]; exact acc_eq S0 T), hbw.trans (hb3.mono hbw.size), HPw.out.below hb3⟩, by simp [intOf]; omega⟩
    · have hlt2 : ¬ (k : Int) < (kids.length : Int) := by omega
      have hkk : (erases kids).take k = erases kids := List.take_of_length_le (by rw [HE.out]; omega)
      have hl1 := HS.out k hk2
      rw [hkk] at hl1
      rw [hkk]
      have hq := fun W hP => quote_any sub W (by omega) hP
      have hql := quote_len sub hsub
      generalize hS0 : tellsT b (erases kids) = S0 at *
      generalize hQ0 : quoteS sub = Q at *
      have hle : (40 :: S0).length ≤ 16000000000001 := by simp only [List.length_cons]; omega
      clear hkk
      have HS0 := Lib.hid hS0
      have HQ0 := Lib.hid hQ0
      clear hS0 hQ0
      go_wp2_with (go_at_call 82; (with_reducible refine (hq _ (HW.out.pow.below hbw)).mono ?_); rintro e w3 ⟨rfl, hb3⟩)
      go_ret
      exact ⟨congrArg (fun x => Ending.returned (.string x)) (by rw [HS0.out, HQ0.out]; exact node_eq S0 Q), hbw.trans (hb3.mono hbw.size)⟩
theorem tell_all : ∀ d, d ≤ 4 → TellC d
  | 0, _ => fun q R A c b m w hW hb hc hA hm hok => by
    obtain ⟨ty, sub, bd, en, fr, bo, to_, Ak, ck, kids⟩ := m
    have hok2 := hok
    rw [erase] at hok2
    obtain ⟨h1, h2, h3, h4, h5, h6, h7⟩ := hok2
    have hk : kids = [] := by
      cases kids with
      | nil => rfl
      | cons x t => simp [erases] at h7
    subst hk
    have e : tellT b (erase (.mk ty sub bd en fr bo to_ Ak ck [])) = leafS b ty sub en bo to_ := by simp [erase, erases, tellT]
    rw [e]
    exact tell_leaf R A c b ty sub bd en fr bo to_ Ak ck w hW hb hc hA h1 h2 h3 h4 h5
  | d + 1, hd => fun q R A c b m w hW hb hc hA hm hok => by
    obtain ⟨ty, sub, bd, en, fr, bo, to_, Ak, ck, kids⟩ := m
    have hok2 := hok
    rw [erase] at hok2
    obtain ⟨h1, h2, h3, h4, h5, h6, h7⟩ := hok2
    by_cases hk : kids = []
    · subst hk
      have e : tellT b (erase (.mk ty sub bd en fr bo to_ Ak ck [])) = leafS b ty sub en bo to_ := by simp [erase, erases, tellT]
      rw [e]
      exact tell_leaf R A c b ty sub bd en fr bo to_ Ak ck w hW hb hc hA h1 h2 h3 h4 h5
    · exact tell_node d (by omega) (tell_all d (by omega)) q R A c b ty sub bd en fr bo to_ Ak ck kids w hW hb hc hA hm hk h2 (by rw [erases_map, List.length_map] at h6; exact h6) fun x hx => h7 _ (by rw [erases_map]; exact List.mem_map.2 ⟨x, hx, rfl⟩)
end Go.Proofs.YtbjbljfmcpidmaaGreatDoor

/- The lines that are laid ahead of a message, the program's and the reference's. -/
import Derived.Test.YtbjbljfmcpidmaaGreatDoorStampH
import Derived.Test.YtbjbljfmcpidmaaGreatDoorRStampH
import Derived.Lib.AppendIntMem
namespace Go.Proofs.YtbjbljfmcpidmaaGreatDoor
open Go.RowKit Go.Lib Go.Shelf
theorem dec_digits (n : Nat) : Lib.decDigits n = digitsS n := by
  induction n using Nat.strongRecOn with
  | _ n ih =>
    rw [Lib.decDigits, digitsS]
    by_cases h : n < 10
    · rw [dif_pos h, if_pos h]
      unfold dig
      rw [Nat.mod_eq_of_lt h]
    · rw [dif_neg h, if_neg h, ih (n / 10) (by omega)]
      rfl
noncomputable def htextS (s : Int) : List UInt8 := open Classical in if h : ∃ X, HText s X then Classical.choose h else []
theorem HText.eq {s : Int} {X : List UInt8} (h : HText s X) : X = htextS s := by
  unfold htextS
  rw [dif_pos ⟨X, h⟩]
  exact h.same (Classical.choose_spec (⟨X, h⟩ : ∃ X, HText s X))
theorem htextS_len (s : Int) : (htextS s).length ≤ 40 := by
  unfold htextS
  split
  · rename_i h
    exact (Classical.choose_spec h).len
  · simp
theorem headerS_any (s : Int) (w : World) (hL : LenTab w) : Calls Tryz.prog 35 #[.int .i64 s] w fun e w' => e = .returned (.string ⟨(htextS s).toArray⟩) ∧ Below w.heap.size w w' :=
  (header_any s w hL).mono fun e w' ⟨X, h, he, hb⟩ => ⟨by rw [he, h.eq], hb⟩
theorem rheaderS_any (s : Int) (w : World) : Calls Tryz.prog 37 #[.int .i64 s] w fun e w' => e = .returned (.string ⟨(htextS s).toArray⟩) ∧ Below w.heap.size w w' :=
  (rheader_any s w).mono fun e w' ⟨X, h, he, hb⟩ => ⟨by rw [he, h.eq], hb⟩
/-- The table of powers of ten. -/
def PowTab (w : World) : Prop := Lib.TabIs Tryz.prog w "internal/strconv.uint64pow10" .u64 Lib.pow10Tab
theorem PowTab.below {w w' : World} (h : PowTab w) (hb : Below w.heap.size w w') : PowTab w' := by
  unfold PowTab Lib.TabIs World.var? at h ⊢
  cases hg : Tryz.prog.globalNamed "internal/strconv.uint64pow10" with
  | none => simp [hg] at h
  | some g =>
    simp only [hg, Option.bind_some] at h ⊢
    have hlt : g < w.heap.size := by
      rcases Nat.lt_or_ge g w.heap.size with h' | h'
      · exact h'
      · simp [Array.getElem?_eq_none h'] at h
    rw [hb.block g hlt]
    exact h
theorem itoa_any (n : Int) (w : World) (h0 : -9223372036854775808 ≤ n) (h1 : n ≤ 9223372036854775807) (hP : PowTab w) :
    Calls Tryz.prog 34 #[.int .i64 n] w fun e w' => e = .returned (.string ⟨(Lib.itoa n).toArray⟩) ∧ Below w.heap.size w w' :=
  (Tryz.strconv_Itoa n h0 h1 w hP).mono fun e w' ⟨he, k, os, hw⟩ => ⟨he, by rw [hw]; exact Lib.below_grow _ _ (Nat.le_refl _) k os⟩
theorem itoa_len (n : Int) (h0 : -9223372036854775808 ≤ n) (h1 : n ≤ 9223372036854775807) : (Lib.itoa n).length ≤ 20 := by
  unfold Lib.itoa
  have h : ∀ u : Nat, u ≤ 9223372036854775808 → (Lib.decDigits u).length ≤ 19 := fun u hu => by
    rw [dec_digits]
    exact digitsS_len u 18 (by omega)
  split
  · have := h n.natAbs (by omega)
    simp
    omega
  · have := h n.toNat (by omega)
    omega
def rpT : List UInt8 := [82, 101, 116, 117, 114, 110, 45, 80, 97, 116, 104, 58, 32, 60]
def dtT : List UInt8 := [68, 101, 108, 105, 118, 101, 114, 101, 100, 45, 84, 111, 58, 32]
def rbT : List UInt8 := [82, 101, 99, 101, 105, 118, 101, 100, 58, 32, 98, 121, 32]
def traceS (f t b n X : List UInt8) : List UInt8 := rpT ++ f ++ [62, 13, 10] ++ dtT ++ t ++ [13, 10] ++ rbT ++ b ++ [32, 105, 100, 32] ++ n ++ [59, 32] ++ X ++ [13, 10]
set_option maxHeartbeats 1000000 in
theorem trace_any (f t b : List UInt8) (id s : Int) (w : World) (hf : f.length ≤ 2000000) (ht : t.length ≤ 2000000) (hb : b.length ≤ 2000000) (h0 : -9223372036854775808 ≤ id) (h1 : id ≤ 9223372036854775807) (hL : LenTab w) (hP : PowTab w) :
    Calls Tryz.prog 14 #[.string ⟨f.toArray⟩, .string ⟨t.toArray⟩, .string ⟨b.toArray⟩, .int .i64 id, .int .i64 s] w fun e w' => e = .returned (.string ⟨(traceS f t b (Lib.itoa id) (htextS s)).toArray⟩) ∧ Below w.heap.size w w' := by
  have cI := itoa_any id w h0 h1 hP
  have cH : ∀ W, Below w.heap.size w W → Calls Tryz.prog 35 #[.int .i64 s] W fun e w' => e = .returned (.string ⟨(htextS s).toArray⟩) ∧ Below W.heap.size W w' := fun W h => headerS_any s W (hL.below h)
  have l1 := itoa_len id h0 h1
  have l2 := htextS_len s
  have HX : Hid (∀ n X, traceS f t b n X = rpT ++ f ++ [62, 13, 10] ++ dtT ++ t ++ [13, 10] ++ rbT ++ b ++ [32, 105, 100, 32] ++ n ++ [59, 32] ++ X ++ [13, 10]) := Lib.hid fun _ _ => rfl
  generalize Lib.itoa id = N at *
  generalize htextS s = X at *
  clear h0 h1 hL hP
  have HI := Lib.hid cI
  have HH := Lib.hid cH
  clear cI cH
  go_enter Tryz.func14, Tryz.ntmps14
  go_wp2_with fail
  refine HI.out.mono ?_
  rintro e w1 ⟨rfl, hb1⟩
  go_wp2_with fail
  refine (HH.out _ hb1).mono ?_
  rintro e w2 ⟨rfl, hb2⟩
  go_wp2
  go_ret
  rw [HX.out]
  exact ⟨congrArg (fun b => Ending.returned (Value.string b)) (by apply ByteArray.ext; simp [rpT, dtT, rbT]), hb1.trans (hb2.mono hb1.size)⟩
end Go.Proofs.YtbjbljfmcpidmaaGreatDoor

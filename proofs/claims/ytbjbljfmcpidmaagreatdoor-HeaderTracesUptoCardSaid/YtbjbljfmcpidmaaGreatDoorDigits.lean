/- Digits: a number's digits; a number of so many digits. -/
import Derived.Test.YtbjbljfmcpidmaaGreatDoorStamp
import Derived.Test.YtbjbljfmcpidmaaGreatDoorBytes
import Derived.Laws.MakeOwn
import Derived.Outline
import Derived.Deep.LoopGhost
namespace Go.Proofs.YtbjbljfmcpidmaaGreatDoor
open Go.RowKit Go.Lib Go.Shelf
def dig (n : Nat) : UInt8 := UInt8.ofNat (48 + n % 10)
theorem dig_val (n : Nat) : ((dig n).toNat : Int) = 48 + (n : Int) % 10 := by
  unfold dig
  have := Nat.mod_lt n (show 0 < 10 by decide)
  simp
  omega
/-- The digits of a number, as Digits makes them. -/
def digitsS (n : Nat) : List UInt8 := if n < 10 then [dig n] else digitsS (n / 10) ++ [dig n]
theorem digitsS_lt {n : Nat} (h : n < 10) : digitsS n = [dig n] := by rw [digitsS, if_pos h]
theorem digitsS_ge {n : Nat} (h : ¬ n < 10) : digitsS n = digitsS (n / 10) ++ [dig n] := by rw [digitsS, if_neg h]
theorem digitsS_len (n : Nat) : ∀ k, n < 10 ^ (k + 1) → (digitsS n).length ≤ k + 1 := by
  intro k
  induction k generalizing n with
  | zero => intro h; rw [digitsS_lt (by simpa using h)]; simp
  | succ k ih =>
    intro h
    by_cases h1 : n < 10
    · rw [digitsS_lt h1]; simp
    · rw [digitsS_ge h1]
      have := ih (n / 10) (by rw [Nat.pow_succ] at h; omega)
      simp
      omega
/-- So many digits. -/
def wideS : Nat → Nat → List UInt8
  | 0, _ => []
  | k + 1, n => wideS k (n / 10) ++ [dig n]
theorem wideS_len (k n : Nat) : (wideS k n).length = k := by
  induction k generalizing n with
  | zero => rfl
  | succ k ih => simp [wideS, ih]
theorem wide_digits (k n : Nat) (h : n < 10 ^ (k + 1)) : wideS (k + 1) n = List.replicate (k + 1 - (digitsS n).length) 48 ++ digitsS n := by
  induction k generalizing n with
  | zero =>
    have h1 : n < 10 := by simpa using h
    rw [digitsS_lt h1]
    rfl
  | succ k ih =>
    have hi := ih (n / 10) (by rw [Nat.pow_succ] at h; omega)
    rw [wideS, hi]
    by_cases h1 : n < 10
    · have e : n / 10 = 0 := by omega
      rw [e, digitsS_lt h1, digitsS_lt (by decide : 0 < 10)]
      show List.replicate (k + 1 - 1) 48 ++ [dig 0] ++ [dig n] = List.replicate (k + 1 + 1 - 1) 48 ++ [dig n]
      congr 1
      have : dig 0 = 48 := by decide
      rw [this]
      exact (List.replicate_succ' ..).symm
    · rw [digitsS_ge h1]
      have := digitsS_len (n / 10) k (by rw [Nat.pow_succ] at h; omega)
      rw [← List.append_assoc]
      congr 2
      congr 1
      simp
theorem conv_dig (x : UInt8) (v : Int) (hv : v = (x.toNat : Int)) (W : World) (n : Nat) (hn : n = W.heap.size) : (convert 26 9 (.slice (some ⟨n, 0, none⟩) 1 1)).run Tryz.prog (W.alloc (.cells #[.int .u8 v] 5)) = .ok (.string ⟨#[x]⟩) (W.alloc (.cells #[.int .u8 v] 5)) := by
  subst hn hv
  refine conv_bytes (some ⟨W.heap.size, 0, none⟩) [x] 1 1 _ (fun _ => ⟨W.heap.size, 0, rfl, by simp, fun j u hu => ?_⟩) rfl
  have h : (W.alloc (.cells #[cell8 x] 5)).heap[W.heap.size]? = some (.cells #[cell8 x] 5) := heap_alloc_new W _
  show (W.alloc (.cells #[cell8 x] 5)).cell? _ = _
  rw [Lib.cell_of_heap h]
  simpa [bcells] using hu
theorem bytes_cat (a b : List UInt8) : (⟨a.toArray⟩ : ByteArray) ++ ⟨b.toArray⟩ = ⟨(a ++ b).toArray⟩ := by
  apply ByteArray.ext
  simp
theorem ret_strs (a b c : List UInt8) (h : c = a ++ b) : Ending.returned (.string ((⟨a.toArray⟩ : ByteArray) ++ ⟨b.toArray⟩)) = .returned (.string ⟨c.toArray⟩) := by rw [bytes_cat, h]
set_option maxHeartbeats 1000000 in
theorem rdigits_any (n : Nat) (w : World) (hn : n ≤ 9223372036854775807) :
    Calls Tryz.prog 36 #[.int .i64 (n : Int)] w fun e w' => e = .returned (.string ⟨(digitsS n).toArray⟩) ∧ Below w.heap.size w w' := by
  have HN : Hid (digitsS n = digitsS n ++ []) := Lib.hid (by simp)
  have hlen := digitsS_len n 18 (by omega)
  go_enter Tryz.func36, Tryz.ntmps36
  go_wp2
  go_loopw [0, 3] (fun q t wr => ∃ (m : Nat) (acc : List UInt8), q = .int .i64 (m : Int) ∧ t = .string ⟨acc.toArray⟩ ∧ m ≤ n ∧ acc.length ≤ 19 ∧ Hid (digitsS n = digitsS m ++ acc) ∧ Below w.heap.size w wr) (fun q _ _ => (intOf q).toNat)
  case atStart => exact ⟨n, [], rfl, rfl, Nat.le_refl _, by simp, HN, Below.refl _ _⟩
  case round =>
    obtain ⟨m, acc, rfl, rfl, hm, hacc, HD, hbw⟩ := hrel
    have hm2 : (m : Int) ≤ 9223372036854775807 := by omega
    have hd0 : 0 ≤ (m : Int) % 10 := by omega
    have hd1 : (m : Int) % 10 < 10 := by omega
    by_cases h9 : m < 10
    · have h92 : ¬ 9 < (m : Int) := by omega
      have kc := conv_dig (dig m) (48 + (m : Int)) (by rw [dig_val]; omega) wr wr.heap.size rfl
      have HF : Hid (digitsS n = [dig m] ++ acc) := Lib.hid (by rw [HD.out, digitsS_lt h9])
      go_wp2
      go_ret
      rw [HF.out]
      exact ⟨ret_strs _ _ _ rfl, hbw.alloc hbw.size _⟩
    · have h92 : 9 < (m : Int) := by omega
      have kc := conv_dig (dig m) (48 + (m : Int) % 10) (by rw [dig_val]) wr wr.heap.size rfl
      have HF : Hid (digitsS n = digitsS (m / 10) ++ ([dig m] ++ acc)) := Lib.hid (by rw [HD.out, digitsS_ge h9]; simp)
      have hacc2 : acc.length + 1 ≤ 19 := by
        have h1 := HF.out
        have h2 := congrArg List.length h1
        simp only [List.length_append, List.length_cons, List.length_nil] at h2
        omega
      go_wp2
      go_roundw
      case rel => exact ⟨m / 10, [dig m] ++ acc, by rw [Int.natCast_ediv]; rfl, by rw [bytes_cat], by omega, by simpa using hacc2, HF, hbw.alloc hbw.size _⟩
      case measure => simp [intOf]; omega
end Go.Proofs.YtbjbljfmcpidmaaGreatDoor

/- wide: a number of so many digits, the program's and the reference's. -/
import Derived.Test.YtbjbljfmcpidmaaGreatDoorDigits
namespace Go.Proofs.YtbjbljfmcpidmaaGreatDoor
open Go.RowKit Go.Lib Go.Shelf
theorem infoU8 : (Tryz.prog.info? 5).map (fun i => (i.zero, i.size, i.bytes)) = some (some (Value.int IntKind.u8 0), 1, 1) := by kernel_rfl
theorem run_make_bytes (m : Nat) (hm : m ≤ 4000000) (w : World) :
    (Instr.makeSlice 26 (.int .i64 (m : Int)) (.int .i64 (m : Int))).run Tryz.prog w = .ok (.slice (some ⟨w.heap.size, 0, none⟩) m m) (w.alloc (.cells (madeCells #[Value.int .u8 0] m) 5)) := by
  obtain ⟨i0, hi, hz0, hz1, hz2⟩ := info_parts infoU8
  have hr := run_make (P := Tryz.prog) w 26 5 i0 (.int .u8 0) Tryz.underlying26 hi hz0 .i64 .i64 m m (by omega) (by omega) (by rw [hz2]; omega) (by omega)
  rw [hz1] at hr
  simpa [Value.cells] using hr
theorem made_own (w : World) (m : Nat) (hm : m ≤ 4000000) : (w.alloc (.cells (madeCells #[Value.int .u8 0] m) 5)).ownsRow w.heap.size 5 1 (.slice (some ⟨w.heap.size, 0, none⟩) m m) m (bcells (List.replicate m 0)) := by
  have hs : (madeCells #[Value.int .u8 0] m).size = m := size_madeCells _ _
  refine ⟨by simp [bcells], .inr ⟨w.heap.size, m, _, rfl, Nat.le_refl _, heap_alloc_new w _, Nat.le_refl _, by unfold maxLen; omega, by rw [hs]; simp, ?_⟩⟩
  apply List.ext_getElem
  · simp [bcells, hs]
  · intro j h1 h2
    simp [bcells, cell8, madeCells, Nat.mod_one]
theorem wide_set (j k : Nat) (acc : List UInt8) (x : UInt8) : (List.replicate (j + 1) (0 : UInt8) ++ acc).set j x = List.replicate j 0 ++ (x :: acc) := by
  rw [List.replicate_succ', List.append_assoc, List.set_append_right _ _ (by simp)]
  simp
set_option maxHeartbeats 1000000 in
theorem wide_any (m n : Nat) (w : World) (hm : m ≤ 1000) (hn : n ≤ 1000000000) :
    Calls Tryz.prog 67 #[.int .i64 (n : Int), .int .i64 (m : Int)] w fun e w' => e = .returned (.string ⟨(wideS m n).toArray⟩) ∧ Below w.heap.size w w' := by
  have hmk := run_make_bytes m (by omega)
  have hown0 := made_own w m (by omega)
  have hb0 := (Below.refl w.heap.size w).alloc (Nat.le_refl _) (.cells (madeCells #[Value.int .u8 0] m) 5)
  generalize (Obj.cells (madeCells #[Value.int .u8 0] m) 5) = ob at *
  have HM : Hid (m ≤ 1000) := Lib.hid hm
  go_enter Tryz.func67, Tryz.ntmps67
  go_wp2
  go_loopw [0, 11] (fun q i wr => ∃ (k p : Nat) (acc : List UInt8), i = .int .i64 (k : Int) ∧ q = .int .i64 (p : Int) ∧ p ≤ n ∧ k ≤ m ∧ acc.length = k ∧ wr.ownsRow w.heap.size 5 1 (.slice (some ⟨w.heap.size, 0, none⟩) m m) m (bcells (List.replicate (m - k) 0 ++ acc)) ∧ Hid (wideS m n = wideS (m - k) p ++ acc) ∧ Below w.heap.size w wr) (fun _ i _ => m - (intOf i).toNat)
  case atStart => exact ⟨0, n, [], rfl, rfl, Nat.le_refl _, Nat.zero_le _, rfl, by simpa using hown0, Lib.hid (by simp), hb0⟩
  case round =>
    obtain ⟨k, p, acc, rfl, rfl, hp, hk, hl, hown, HD, hbw⟩ := hrel
    have hp2 : (p : Int) ≤ 1000000000 := by omega
    have hm2 : (m : Int) ≤ 1000 := by omega
    have hd0 : 0 ≤ (p : Int) % 10 := by omega
    have hd1 : (p : Int) % 10 < 10 := by omega
    have HL := Lib.hid hl
    clear hl
    by_cases hlt : k < m
    · have hlt2 : (k : Int) < (m : Int) := by omega
      obtain ⟨j, hj⟩ : ∃ j, m = k + 1 + j := ⟨m - (k + 1), by omega⟩
      have e1 : (m : Int) - 1 - (k : Int) = (j : Int) := by omega
      have hjm : j < m := by omega
      have hjm2 : (j : Int) < (m : Int) := by omega
      have hc : wr.cell? ⟨w.heap.size, j, none⟩ = some (.int .u8 0) := by
        rw [hown.cellAt j (by omega), bcells, List.getElem?_map, List.getElem?_append_left (by simp; omega), List.getElem?_replicate, if_pos (by omega)]
        rfl
      have hf := hown.frozenAt j
      have hst := (hown.stored j (.int .u8 (48 + (p : Int) % 10))).1
      have hst2 : (wr.setCell ⟨w.heap.size, j, none⟩ (.int .u8 (48 + (p : Int) % 10))).ownsRow w.heap.size 5 1 (.slice (some ⟨w.heap.size, 0, none⟩) m m) m (bcells (List.replicate (m - (k + 1)) 0 ++ (dig p :: acc))) := by
        have e2 : m - k = j + 1 := by omega
        have e3 : m - (k + 1) = j := by omega
        rw [e2] at hst
        rw [e3, ← wide_set j k acc (dig p)]
        have e4 : bcells ((List.replicate (j + 1) 0 ++ acc).set j (dig p)) = (bcells (List.replicate (j + 1) 0 ++ acc)).set j (.int .u8 (48 + (p : Int) % 10)) := by
          simp [bcells, List.map_set, cell8, dig_val]
        rw [e4]
        exact hst
      have HF : Hid (wideS m n = wideS (m - (k + 1)) (p / 10) ++ (dig p :: acc)) := Lib.hid (by
        rw [HD.out, show m - k = m - (k + 1) + 1 from by omega, wideS]
        simp)
      clear hst hown hj
      go_wp2
      go_roundw
      case rel => exact ⟨k + 1, p / 10, dig p :: acc, by go_num, by rw [Int.natCast_ediv]; rfl, by omega, by omega, by simp [HL.out], hst2, HF, hbw.setCell (Nat.le_refl _) _⟩
      case measure => simp [intOf]; omega
    · obtain rfl : k = m := by omega
      obtain ⟨A, c, hv, _, _, hrow, _⟩ := owns_open hown
      simp only [Value.slice.injEq] at hv
      obtain ⟨rfl, _, rfl⟩ := hv
      have HF : Hid (acc = wideS k n) := Lib.hid (by rw [HD.out, Nat.sub_self]; rfl)
      simp only [Nat.sub_self, List.replicate_zero, List.nil_append] at hrow
      have hcv := conv_bytes (some ⟨w.heap.size, 0, none⟩) acc k k wr hrow HL.out
      clear hown
      go_wp2
      go_ret
      rw [HF.out]
      exact ⟨rfl, hbw⟩
theorem rep_succ (k : Nat) (x : UInt8) (l : List UInt8) : x :: (List.replicate k x ++ l) = List.replicate (k + 1) x ++ l := by rw [List.replicate_succ]; rfl
set_option maxHeartbeats 1000000 in
theorem rwide_any (m n : Nat) (w : World) (hm : m + 1 ≤ 18) (hn : n < 10 ^ (m + 1)) :
    Calls Tryz.prog 71 #[.int .i64 (n : Int), .int .i64 ((m : Int) + 1)] w fun e w' => e = .returned (.string ⟨(wideS (m + 1) n).toArray⟩) ∧ Below w.heap.size w w' := by
  have hlen := digitsS_len n m hn
  have hn2 : n ≤ 9223372036854775807 := Nat.le_of_lt (Nat.lt_of_lt_of_le hn (Nat.le_trans (Nat.pow_le_pow_right (by decide) hm) (by decide)))
  have HW := Lib.hid (wide_digits m n hn)
  have cD := fun W => rdigits_any n W hn2
  clear hn
  generalize digitsS n = ds at *
  go_enter Tryz.func71, Tryz.ntmps71
  go_wp2_with fail
  refine (cD _).mono ?_
  rintro e w1 ⟨rfl, hb1⟩
  go_wp2
  go_loop [5] (fun v => ∃ k : Nat, v = .string ⟨(List.replicate k 48 ++ ds).toArray⟩ ∧ k + ds.length ≤ m + 1) (fun v => m + 1 - (match v with | .string s => s.size | _ => 0))
  case atStart => exact ⟨0, rfl, by omega⟩
  case round =>
    obtain ⟨k, rfl, hk⟩ := hrel
    have HL : Hid ((List.replicate k 48 ++ ds).length = k + ds.length) := Lib.hid (by simp)
    by_cases hlt : k + ds.length < m + 1
    · have hlt2 : (k : Int) + (ds.length : Int) < (m : Int) + 1 := by omega
      have hcat : (⟨#[48]⟩ : ByteArray) ++ ⟨(List.replicate k 48 ++ ds).toArray⟩ = ⟨(List.replicate (k + 1) 48 ++ ds).toArray⟩ := by
        rw [← rep_succ]
        apply ByteArray.ext
        simp
      have HF : Hid ((List.replicate (k + 1) 48 ++ ds).length = k + 1 + ds.length) := Lib.hid (by simp)
      go_wp2
      exact ⟨⟨k + 1, rfl, by omega⟩, by simp [ByteArray.size]; omega⟩
    · have hlt2 : ¬ (k : Int) + (ds.length : Int) < (m : Int) + 1 := by omega
      obtain rfl : k = m + 1 - ds.length := by omega
      go_wp2
      go_ret
      rw [HW.out]
      exact ⟨rfl, hb1⟩
end Go.Proofs.YtbjbljfmcpidmaaGreatDoor

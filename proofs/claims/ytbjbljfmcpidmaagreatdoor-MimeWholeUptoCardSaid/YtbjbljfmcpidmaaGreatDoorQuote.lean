/- codec.Quote. -/
import Derived.Test.YtbjbljfmcpidmaaGreatDoorValue
import Derived.Test.YtbjbljfmcpidmaaGreatDoorItoa
namespace Go.Proofs.YtbjbljfmcpidmaaGreatDoor
open Go.RowKit Go.Lib Go.Shelf
def escB (x : UInt8) : List UInt8 := if x = 34 ∨ x = 92 then [92, x] else [x]
def escS (s : List UInt8) : List UInt8 := s.flatMap escB
def oddS (s : List UInt8) : Bool := decide (200 < s.length) || decide (0 ≤ Lib.idxFunc lowR true ⟨s.toArray⟩)
def quoteS (s : List UInt8) : List UInt8 := if oddS s = true then 123 :: (Lib.itoa (s.length : Int) ++ 125 :: 13 :: 10 :: s) else 34 :: (escS s ++ [34])
theorem quote_low (w : World) : PredAt Tryz.prog 148 #[] encR lowR w := fun W r _ => by
  unfold FnGives
  by_cases h1 : r < 32
  · have z1 : (r : Int) < 32 := by omega
    go_enter Tryz.func148, Tryz.ntmps148
    go_wp2
    go_ret
    exact ⟨by simp [lowR, h1], 0, rfl⟩
  · have z1 : ¬ (r : Int) < 32 := by omega
    by_cases h2 : 126 < r
    · have z2 : 126 < (r : Int) := by omega
      go_enter Tryz.func148, Tryz.ntmps148
      go_wp2
      go_ret
      exact ⟨by simp [lowR, h1, h2], 0, rfl⟩
    · have z2 : ¬ 126 < (r : Int) := by omega
      go_enter Tryz.func148, Tryz.ntmps148
      go_wp2
      go_ret
      exact ⟨by simp [lowR, h1, h2], 0, rfl⟩
theorem esc_le (s : List UInt8) : (escS s).length ≤ s.length * 2 := by
  induction s with
  | nil => simp [escS]
  | cons x s ih =>
    have e : escS (x :: s) = escB x ++ escS s := rfl
    have h : (escB x).length ≤ 2 := by unfold escB; split <;> simp
    rw [e, List.length_append, List.length_cons]
    omega
theorem esc_take (s : List UInt8) (k : Nat) (h : k < s.length) : escS (s.take (k + 1)) = escS (s.take k) ++ escB s[k] := by
  rw [List.take_succ_eq_append_getElem h]
  unfold escS
  rw [List.flatMap_append, List.flatMap_cons, List.flatMap_nil, List.append_nil]
theorem lit_eq (d s : List UInt8) : (⟨#[123]⟩ : ByteArray) ++ ⟨d.toArray⟩ ++ ⟨#[125]⟩ ++ ⟨#[13, 10]⟩ ++ ⟨s.toArray⟩ = ⟨(123 :: (d ++ 125 :: 13 :: 10 :: s)).toArray⟩ := by
  apply ByteArray.ext
  simp
set_option maxHeartbeats 2000000 in
theorem quote_any (s : List UInt8) (w : World) (hs : s.length ≤ 4000000) (hP : PowTab w) :
    Calls Tryz.prog 82 #[.string ⟨s.toArray⟩] w fun e w' => e = .returned (.string ⟨(quoteS s).toArray⟩) ∧ Below w.heap.size w w' := by
  have hsz : (⟨s.toArray⟩ : ByteArray).size = s.length := by simp [ByteArray.size]
  have c2 := fun W => Any.strings_IndexFunc Tryz.laysGw15 148 #[] (enters_of Tryz.func148 (by kernel_rfl) rfl) _ ⟨s.toArray⟩ W (quote_low W)
  change ∀ W, Calls Tryz.prog 111 _ _ _ at c2
  have HD : Hid (oddS s = (decide (200 < s.length) || decide (0 ≤ Lib.idxFunc lowR true ⟨s.toArray⟩))) := Lib.hid rfl
  have HQ : Hid (quoteS s = if oddS s = true then 123 :: (Lib.itoa (s.length : Int) ++ 125 :: 13 :: 10 :: s) else 34 :: (escS s ++ [34])) := Lib.hid rfl
  have HC2 := Lib.hid c2
  clear c2
  generalize hix : Lib.idxFunc lowR true ⟨s.toArray⟩ = ix at *
  have hI := fun W hP => itoa_any (s.length : Int) W (by omega) (by omega) hP
  have HS := Lib.hid hsz
  clear hsz
  have hdl := itoa_len (s.length : Int) (by omega) (by omega)
  generalize Lib.itoa (s.length : Int) = d at *
  by_cases hl : 200 < s.length
  · have hl2 : 200 < (s.length : Int) := by omega
    have HR : Hid (quoteS s = 123 :: (d ++ 125 :: 13 :: 10 :: s)) := Lib.hid (HQ.out.trans (if_pos (show oddS s = true by rw [HD.out]; simp [hl])))
    go_enter Tryz.func82, Tryz.ntmps82
    go_wp2_with (first | (go_at_call 34; refine (hI _ hP).mono ?_; rintro e w2 ⟨rfl, hb2⟩) | (go_at_call 111; refine (HC2.out _).mono ?_; rintro e w1 ⟨rfl, hb1⟩; have hP := hP.below hb1))
    go_ret
    rw [HR.out]
    exact ⟨congrArg (fun x => Ending.returned (.string x)) (lit_eq d s), hb2⟩
  · have hl2 : ¬ 200 < (s.length : Int) := by omega
    by_cases hx : 0 ≤ ix
    · have HR : Hid (quoteS s = 123 :: (d ++ 125 :: 13 :: 10 :: s)) := Lib.hid (HQ.out.trans (if_pos (show oddS s = true by rw [HD.out]; simp [hx])))
      go_enter Tryz.func82, Tryz.ntmps82
      go_wp2_with (first | (go_at_call 34; refine (hI _ hP).mono ?_; rintro e w2 ⟨rfl, hb2⟩) | (go_at_call 111; refine (HC2.out _).mono ?_; rintro e w1 ⟨rfl, hb1⟩; have hP := hP.below hb1))
      go_ret
      rw [HR.out]
      exact ⟨congrArg (fun x => Ending.returned (.string x)) (lit_eq d s), by first | exact hb1.trans (hb2.mono hb1.size) | exact hb2⟩
    · have HR : Hid (quoteS s = 34 :: (escS s ++ [34])) := Lib.hid (HQ.out.trans (if_neg (show ¬ oddS s = true by rw [HD.out]; simp [hl, hx])))
      go_enter Tryz.func82, Tryz.ntmps82
      go_wp2_with (go_at_call 111; refine (HC2.out _).mono ?_; rintro e w1 ⟨rfl, hb1⟩)
      have h0 := Lib.fresh_isBuilder 135 5 w1
      have b0 : Below w1.heap.size w1 (w1.alloc (.cells #[.pointer none, .slice none 0 0] 135)) := (Below.refl _ w1).alloc (Nat.le_refl _) _
      refine (write_any w1.heap.size w1.heap.size [] 34 _ h0 (by simp) b0.size).mono ?_
      rintro e w2 ⟨rfl, hB2, hb2⟩
      have hb12 := b0.trans hb2
      have hB2 : Lib.IsBuilder 135 5 w1.heap.size w1.heap.size (Lib.byteCells [34]) w2 := .inr hB2
      clear h0 b0 hb2
      go_wp2_with fail
      go_loopw [26] (fun i wr => ∃ k : Nat, i = .int .i64 k ∧ k ≤ s.length ∧ Lib.IsBuilder 135 5 w1.heap.size w1.heap.size (Lib.byteCells (34 :: escS (s.take k))) wr ∧ Below w1.heap.size w1 wr) (fun i _ => s.length - (intOf i).toNat)
      case atStart => exact ⟨0, rfl, Nat.zero_le _, hB2, hb12⟩
      case round =>
        obtain ⟨k, rfl, hk, hbu, hbw⟩ := hrel
        have hel := esc_le (s.take k)
        rw [List.length_take] at hel
        have hal : (34 :: escS (s.take k)).length ≤ 8000001 := by simp only [List.length_cons]; omega
        by_cases hks : k < s.length
        · have hk3 : (k : Int) < (s.length : Int) := by omega
          have hxg : ∀ h : k < (⟨s.toArray⟩ : ByteArray).size, (⟨s.toArray⟩ : ByteArray)[k]'h = s[k] := fun h => by
            show s.toArray[k] = _
            simp
          have het := esc_take s k hks
          obtain ⟨x, hxx⟩ : ∃ x, x = s[k] := ⟨_, rfl⟩
          rw [← hxx] at het
          simp only [← hxx] at hxg
          have HE := Lib.hid het
          clear hxx het hel
          generalize escS (s.take k) = acc at *
          by_cases h34 : x = 34
          · have b34 : ((x.toNat : Int) == 34) = true := byte_eq (n := 34) (by decide) h34
            have HN : Hid (escS (s.take (k + 1)) = (acc ++ [92]) ++ [x]) := Lib.hid (by rw [HE.out, h34]; simp [escB])
            clear h34
            go_wp2_with fail
            refine (write_any w1.heap.size w1.heap.size (Lib.byteCells (34 :: acc)) 92 wr hbu (by rw [cells_len]; omega) hbw.size).mono ?_
            rintro e w3 ⟨rfl, hB3, hb3⟩
            have hB3 : Lib.IsBuilder 135 5 w1.heap.size w1.heap.size (Lib.byteCells (34 :: (acc ++ [92]))) w3 := .inr (by rw [← List.cons_append, cells_snoc]; exact hB3)
            go_wp2_with fail
            refine (write_any w1.heap.size w1.heap.size (Lib.byteCells (34 :: (acc ++ [92]))) (x.toNat : Int) w3 hB3 (by rw [cells_len]; simp at hal ⊢; omega) (hbw.trans hb3).size).mono ?_
            rintro e w4 ⟨rfl, hB4, hb4⟩
            go_wp2
            go_roundw
            case rel => exact ⟨k + 1, by go_num, by omega, .inr (by rw [HN.out, ← List.cons_append, cells_snoc]; exact hB4), (hbw.trans hb3).trans hb4⟩
            case measure => simp [intOf]; omega
          · have b34 : ((x.toNat : Int) == 34) = false := byte_ne (n := 34) (by decide) h34
            by_cases h92 : x = 92
            · have b92 : ((x.toNat : Int) == 92) = true := byte_eq (n := 92) (by decide) h92
              have HN : Hid (escS (s.take (k + 1)) = (acc ++ [92]) ++ [x]) := Lib.hid (by rw [HE.out, h92]; simp [escB])
              clear h34 h92
              go_wp2_with fail
              refine (write_any w1.heap.size w1.heap.size (Lib.byteCells (34 :: acc)) 92 wr hbu (by rw [cells_len]; omega) hbw.size).mono ?_
              rintro e w3 ⟨rfl, hB3, hb3⟩
              have hB3 : Lib.IsBuilder 135 5 w1.heap.size w1.heap.size (Lib.byteCells (34 :: (acc ++ [92]))) w3 := .inr (by rw [← List.cons_append, cells_snoc]; exact hB3)
              go_wp2_with fail
              refine (write_any w1.heap.size w1.heap.size (Lib.byteCells (34 :: (acc ++ [92]))) (x.toNat : Int) w3 hB3 (by rw [cells_len]; simp at hal ⊢; omega) (hbw.trans hb3).size).mono ?_
              rintro e w4 ⟨rfl, hB4, hb4⟩
              go_wp2
              go_roundw
              case rel => exact ⟨k + 1, by go_num, by omega, .inr (by rw [HN.out, ← List.cons_append, cells_snoc]; exact hB4), (hbw.trans hb3).trans hb4⟩
              case measure => simp [intOf]; omega
            · have b92 : ((x.toNat : Int) == 92) = false := byte_ne (n := 92) (by decide) h92
              have HN : Hid (escS (s.take (k + 1)) = acc ++ [x]) := Lib.hid (by rw [HE.out]; unfold escB; rw [if_neg (fun h => h.elim h34 h92)])
              clear h34 h92
              go_wp2_with fail
              refine (write_any w1.heap.size w1.heap.size (Lib.byteCells (34 :: acc)) (x.toNat : Int) wr hbu (by rw [cells_len]; omega) hbw.size).mono ?_
              rintro e w3 ⟨rfl, hB3, hb3⟩
              go_wp2
              go_roundw
              case rel => exact ⟨k + 1, by go_num, by omega, .inr (by rw [HN.out, ← List.cons_append, cells_snoc]; exact hB3), hbw.trans hb3⟩
              case measure => simp [intOf]; omega
        · have hk3 : ¬ (k : Int) < (s.length : Int) := by omega
          rw [List.take_of_length_le (by omega)] at hbu hal
          clear hel
          go_wp2_with fail
          refine (write_any w1.heap.size w1.heap.size (Lib.byteCells (34 :: escS s)) 34 wr hbu (by rw [cells_len]; omega) hbw.size).mono ?_
          rintro e w3 ⟨rfl, hB3, hb3⟩
          have hB3 : Lib.IsBuilder 135 5 w1.heap.size w1.heap.size (Lib.byteCells (34 :: (escS s ++ [34]))) w3 := .inr (by rw [← List.cons_append, cells_snoc]; exact hB3)
          go_wp2_with (go_at_call 107; refine (Tryz.Builder_String_any w1.heap.size w1.heap.size (34 :: (escS s ++ [34])) _ hB3 (hbw.trans hb3).size).mono ?_; rintro e w4 ⟨rfl, hb4⟩)
          go_ret
          rw [HR.out]
          exact ⟨rfl, hb1.trans (((hbw.trans hb3).trans hb4).mono hb1.size)⟩
end Go.Proofs.YtbjbljfmcpidmaaGreatDoor

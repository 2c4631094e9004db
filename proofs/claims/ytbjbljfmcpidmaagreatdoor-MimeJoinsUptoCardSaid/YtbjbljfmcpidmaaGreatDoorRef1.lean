/- The reference's small functions: blank, line, trim. -/
import Derived.Test.YtbjbljfmcpidmaaGreatDoorParse
import Derived.LoopTactic
namespace Go.Proofs.YtbjbljfmcpidmaaGreatDoor
open Go.RowKit Go.Lib Go.Shelf

theorem ret_int {k : IntKind} {a b : Int} (h : a = b) : Ending.returned (.int k a) = .returned (.int k b) := by rw [h]
theorem ret_int2 {k l : IntKind} {a b c d : Int} (h : a = b) (h2 : c = d) : Ending.returned (.tuple #[.int k a, .int l c]) = .returned (.tuple #[.int k b, .int l d]) := by rw [h, h2]
theorem ret_str {a b : List UInt8} (h : a = b) : Ending.returned (.string ⟨a.toArray⟩) = .returned (.string ⟨b.toArray⟩) := by rw [h]
theorem line_crlf (t : List UInt8) : lineOf (13 :: 10 :: t) = [] ∧ wholeOf (13 :: 10 :: t) = true := by
  have e : Lib.index (13 :: 10 :: t) [13, 10] = 0 := by unfold Lib.index; rw [if_pos (by simp [List.isPrefixOf])]
  unfold lineOf wholeOf Lib.cut
  rw [e]
  simp
theorem line_cons (x : UInt8) (r : List UInt8) (h : ¬ List.isPrefixOf [13, 10] (x :: r) = true) : lineOf (x :: r) = x :: lineOf r ∧ wholeOf (x :: r) = wholeOf r := by
  have e : Lib.index (x :: r) [13, 10] = if Lib.index r [13, 10] == -1 then -1 else Lib.index r [13, 10] + 1 := by
    conv => lhs; unfold Lib.index
    rw [if_neg h]
  have hl := index_le r [13, 10]
  unfold lineOf wholeOf Lib.cut
  rw [e]
  by_cases h1 : Lib.index r [13, 10] = -1
  · simp [h1]
  · have h2 : (Lib.index r [13, 10] == -1) = false := beq_eq_false_iff_ne.2 h1
    rw [h2]
    simp only [Bool.false_eq_true, if_false]
    rw [if_pos (by omega), if_pos (by omega)]
    have e3 : (Lib.index r [13, 10] + 1).toNat = (Lib.index r [13, 10]).toNat + 1 := by omega
    rw [e3]
    simp
theorem line_nil : lineOf [] = [] ∧ wholeOf [] = false := by decide
theorem line_one (x : UInt8) : lineOf [x] = [x] ∧ wholeOf [x] = false := by
  have h := line_cons x [] (by simp [List.isPrefixOf])
  rw [line_nil.1, line_nil.2] at h
  exact h
theorem drop_two {b : List UInt8} {k : Nat} (h : k + 1 < b.length) : b.drop k = b[k]'(by omega) :: b[k + 1] :: b.drop (k + 2) := by
  rw [List.drop_eq_getElem_cons (by omega), List.drop_eq_getElem_cons h]
theorem byteRow {w : World} {bb o : Nat} {b : List UInt8} (h : RowIn w (some ⟨bb, o, none⟩) (bcells b)) (k : Nat) (hk : k < b.length) : w.cell? ⟨bb, o + k, none⟩ = some (.int .u8 ((b[k]'hk).toNat : Int)) :=
  h.cell k _ (by simp [bcells, cell8, hk])
theorem byte_eq {x : UInt8} {n : Nat} (hn : n < 256) (h : x = UInt8.ofNat n) : ((x.toNat : Int) == (n : Int)) = true := by
  subst h
  rw [beq_iff_eq]
  simp [Nat.mod_eq_of_lt hn]
theorem byte_ne {x : UInt8} {n : Nat} (hn : n < 256) (h : x ≠ UInt8.ofNat n) : ((x.toNat : Int) == (n : Int)) = false := by
  rw [beq_eq_false_iff_ne]
  intro e
  exact h (by apply UInt8.toNat_inj.1; simp [Nat.mod_eq_of_lt hn]; omega)

theorem blank_any (x : UInt8) (w : World) : Calls Tryz.prog 144 #[.int .u8 (x.toNat : Int)] w fun e w' => e = .returned (.bool (isBl x)) ∧ w = w' := by
  by_cases h1 : x = 32
  · have b1 : ((x.toNat : Int) == 32) = true := byte_eq (n := 32) (by decide) h1
    have e : isBl x = true := by subst h1; decide
    rw [e]
    clear h1 e
    go_enter Tryz.func144, Tryz.ntmps144
    go_wp2
    go_ret
    exact ⟨rfl, rfl⟩
  · have b1 : ((x.toNat : Int) == 32) = false := byte_ne (n := 32) (by decide) h1
    by_cases h2 : x = 9
    · have b2 : ((x.toNat : Int) == 9) = true := byte_eq (n := 9) (by decide) h2
      have e : isBl x = true := by subst h2; decide
      rw [e]
      clear h1 h2 e
      go_enter Tryz.func144, Tryz.ntmps144
      go_wp2
      go_ret
      exact ⟨rfl, rfl⟩
    · have b2 : ((x.toNat : Int) == 9) = false := byte_ne (n := 9) (by decide) h2
      have e : isBl x = false := by simp [isBl, h1, h2]
      rw [e]
      clear h1 h2 e
      go_enter Tryz.func144, Tryz.ntmps144
      go_wp2
      go_ret
      exact ⟨rfl, rfl⟩

theorem line_next {b : List UInt8} {at_ k : Nat} {x y : UInt8} {v : Value} (hv : v = .int .i64 ((k : Int) + 1)) (hd : b.drop k = x :: y :: b.drop (k + 2)) (h1 : lineOf (b.drop k) = x :: lineOf (y :: b.drop (k + 2))) (h2 : wholeOf (b.drop k) = wholeOf (y :: b.drop (k + 2)))
    (hk : at_ ≤ k) (hlt : k + 1 < b.length) (hl : at_ + (lineOf (b.drop at_)).length = k + (lineOf (b.drop k)).length) (hw : wholeOf (b.drop at_) = wholeOf (b.drop k)) :
    ∃ k : Nat, v = .int .i64 k ∧ at_ ≤ k ∧ k ≤ b.length ∧ at_ + (lineOf (b.drop at_)).length = k + (lineOf (b.drop k)).length ∧ wholeOf (b.drop at_) = wholeOf (b.drop k) := by
  have e : b.drop (k + 1) = y :: b.drop (k + 2) := by
    have := congrArg List.tail hd
    rwa [List.tail_drop] at this
  refine ⟨k + 1, by rw [hv]; rfl, by omega, by omega, ?_, ?_⟩
  · rw [e, hl, h1]; simp; omega
  · rw [e, hw, h2]
theorem line_end {b : List UInt8} {k : Nat} (h : ¬ k + 1 < b.length) : lineOf (b.drop k) = b.drop k ∧ wholeOf (b.drop k) = false := by
  rcases Nat.lt_or_ge k b.length with h1 | h1
  · rw [List.drop_eq_getElem_cons h1, List.drop_of_length_le (by omega)]
    exact line_one _
  · rw [List.drop_of_length_le h1]
    exact line_nil

set_option maxHeartbeats 400000 in
theorem line_any (bb o c at_ : Nat) (b : List UInt8) (w : World) (hr : RowIn w (some ⟨bb, o, none⟩) (bcells b)) (hb : b.length ≤ 2000000) (hat : at_ ≤ b.length) :
    Calls Tryz.prog 142 #[.slice (some ⟨bb, o, none⟩) b.length c, .int .i64 (at_ : Int)] w fun e w' => e = .returned (.tuple #[.int .i64 ((at_ + (lineOf (b.drop at_)).length : Nat) : Int), .int .i64 ((at_ + stepOf (b.drop at_) : Nat) : Int)]) ∧ w = w' := by
  go_enter Tryz.func142, Tryz.ntmps142
  go_wp2
  go_loop [6] (fun i => ∃ k : Nat, i = .int .i64 k ∧ at_ ≤ k ∧ k ≤ b.length ∧ at_ + (lineOf (b.drop at_)).length = k + (lineOf (b.drop k)).length ∧ wholeOf (b.drop at_) = wholeOf (b.drop k)) (fun i => b.length - (intOf i).toNat)
  case atStart => exact ⟨at_, rfl, Nat.le_refl _, hat, rfl, rfl⟩
  case round =>
    obtain ⟨k, rfl, hk1, hk2, hl, hw⟩ := hrel
    have HL := Lib.hid hl
    have HW := Lib.hid hw
    clear hl hw
    by_cases hlt : k + 1 < b.length
    · have hlt' : (k : Int) + 1 < (b.length : Int) := by omega
      have hc1 := byteRow hr k (by omega)
      have hc2 := byteRow hr (k + 1) hlt
      have hd := drop_two hlt
      obtain ⟨x, hx⟩ : ∃ x, b[k] = x := ⟨_, rfl⟩
      obtain ⟨y, hy⟩ : ∃ y, b[k + 1] = y := ⟨_, rfl⟩
      rw [hx] at hc1 hd
      rw [hy] at hc2 hd
      clear hx hy
      by_cases h1 : x = 13
      · have b1 : ((x.toNat : Int) == 13) = true := byte_eq (n := 13) (by decide) h1
        by_cases h2 : y = 10
        · have b2 : ((y.toNat : Int) == 10) = true := byte_eq (n := 10) (by decide) h2
          subst h1 h2
          have HE := Lib.hid (line_crlf (b.drop (k + 2)))
          rw [← hd] at HE
          clear hd
          go_wp2
          go_ret2
          have e1 := HL.out
          have e2 := HW.out
          rw [HE.out.1] at e1
          rw [HE.out.2] at e2
          simp at e1
          exact ⟨ret_int2 (by omega) (by unfold stepOf; rw [e2]; simp; omega), rfl⟩
        · have b2 : ((y.toNat : Int) == 10) = false := byte_ne (n := 10) (by decide) h2
          have HE := Lib.hid (line_cons x (y :: b.drop (k + 2)) (by simp [List.isPrefixOf, Ne.symm h2]))
          rw [← hd] at HE
          have HD := Lib.hid hd
          clear hd h1 h2
          go_wp2
          go_round
          case rel => exact line_next rfl HD.out HE.out.1 HE.out.2 hk1 hlt HL.out HW.out
          case measure => simp [intOf]; omega
      · have b1 : ((x.toNat : Int) == 13) = false := byte_ne (n := 13) (by decide) h1
        have HE := Lib.hid (line_cons x (y :: b.drop (k + 2)) (by simp [List.isPrefixOf, Ne.symm h1]))
        rw [← hd] at HE
        have HD := Lib.hid hd
        clear hd h1
        go_wp2
        go_round
        case rel => exact line_next rfl HD.out HE.out.1 HE.out.2 hk1 hlt HL.out HW.out
        case measure => simp [intOf]; omega
    · have hlt' : ¬ (k : Int) + 1 < (b.length : Int) := by omega
      have HE := Lib.hid (line_end hlt)
      go_wp2
      go_ret2
      have e1 := HL.out
      have e2 := HW.out
      rw [HE.out.1] at e1
      rw [HE.out.2] at e2
      have e3 : at_ + (lineOf (b.drop at_)).length = b.length := by rw [e1]; simp; omega
      exact ⟨ret_int2 (by omega) (by unfold stepOf; rw [e2]; simp; omega), rfl⟩
end Go.Proofs.YtbjbljfmcpidmaaGreatDoor

/- The reference's token. -/
import Derived.Test.YtbjbljfmcpidmaaGreatDoorKind
namespace Go.Proofs.YtbjbljfmcpidmaaGreatDoor
open Go.RowKit Go.Lib Go.Shelf
def otherL : List UInt8 := [40, 41, 60, 62, 64, 44, 59, 58, 34, 47, 91, 93, 63, 61]
theorem special_other (x : UInt8) : special.contains x = (otherL.contains x || x == 92) := by
  simp only [special, otherL, List.contains_cons, List.contains_nil, Bool.or_false]
  cases x == 40 <;> cases x == 41 <;> cases x == 60 <;> cases x == 62 <;> cases x == 64 <;> cases x == 44 <;> cases x == 59 <;> cases x == 58 <;> cases x == 92 <;> simp
theorem other_at (j : Nat) (_h : j < otherL.length) (h' : j < (⟨#[40, 41, 60, 62, 64, 44, 59, 58, 34, 47, 91, 93, 63, 61]⟩ : ByteArray).size) : (⟨#[40, 41, 60, 62, 64, 44, 59, 58, 34, 47, 91, 93, 63, 61]⟩ : ByteArray)[j]'h' = otherL[j] := by
  show (#[40, 41, 60, 62, 64, 44, 59, 58, 34, 47, 91, 93, 63, 61] : Array UInt8)[j] = _
  rfl
theorem bytes_eq {x y : UInt8} (h : x = y) : ((x.toNat : Int) == (y.toNat : Int)) = true := by rw [h]; simp
theorem bytes_ne {x y : UInt8} (h : x ≠ y) : ((x.toNat : Int) == (y.toNat : Int)) = false := by
  rw [beq_eq_false_iff_ne]
  intro e
  exact h (UInt8.toNat_inj.1 (by omega))
set_option maxHeartbeats 2000000 in
theorem rtoken_any (s : List UInt8) (w : World) (hl : s.length ≤ 4000000) :
    Calls Tryz.prog 188 #[.string ⟨s.toArray⟩] w fun e w' => e = .returned (.int .i64 (tokN s : Int)) ∧ Below w.heap.size w w' := by
  have hs : (⟨s.toArray⟩ : ByteArray).size = s.length := by simp [ByteArray.size]
  have HS := Lib.hid hs
  have hle := tokN_le s
  have HL := Lib.hid (tokN_lt s)
  have HA := Lib.hid (tokN_at s)
  generalize hK : tokN s = K at *
  clear hs hK
  go_enter Tryz.func188, Tryz.ntmps188
  go_wp2
  go_loopw [3] (fun i wr => ∃ k : Nat, i = .int .i64 k ∧ k ≤ K ∧ Below w.heap.size w wr) (fun i _ => K - (intOf i).toNat)
  case atStart => exact ⟨0, rfl, Nat.zero_le _, Below.refl _ _⟩
  case round =>
    obtain ⟨k, rfl, hk, hbw⟩ := hrel
    by_cases hkK : k < K
    · have hks : k < s.length := by omega
      have hx : ∀ h : k < (⟨s.toArray⟩ : ByteArray).size, (⟨s.toArray⟩ : ByteArray)[k]'h = s[k] := fun h => by
        show s.toArray[k] = _
        simp
      have hk1 : (k : Int) < (s.length : Int) := by omega
      have hb := HL.out k hkK hks
      obtain ⟨x, hxx⟩ : ∃ x, x = s[k] := ⟨_, rfl⟩
      rw [← hxx] at hb
      simp only [← hxx] at hx
      clear hxx
      unfold tokB at hb
      simp only [Bool.and_eq_true, decide_eq_true_eq, Bool.not_eq_true', special_other, Bool.or_eq_false_iff] at hb
      obtain ⟨⟨h1, h2⟩, h3, h4⟩ := hb
      have h1' : (33 : Int) ≤ (x.toNat : Int) := by omega
      have h2' : (x.toNat : Int) ≤ 126 := by omega
      have h4' : ((x.toNat : Int) == 92) = false := byte_ne (n := 92) (by decide) (by simpa using h4)
      have H3 : Hid (otherL.contains x = false) := Lib.hid h3
      clear h3 h4
      go_wp2
      go_loopw [5] (fun i wx => ∃ j : Nat, i = .int .i64 j ∧ j ≤ 14 ∧ Below w.heap.size w wx) (fun i _ => 14 - (intOf i).toNat)
      case atStart => exact ⟨0, rfl, Nat.zero_le _, hbw⟩
      case round =>
        obtain ⟨j, rfl, hj, hbx⟩ := hrel
        by_cases hj14 : j < 14
        · have hj1 : (j : Int) < 14 := by omega
          have ho := other_at j hj14
          have hne : x ≠ otherL[j]'hj14 := fun e => by
            have := H3.out
            rw [List.contains_eq_mem, decide_eq_false_iff_not] at this
            exact this (by rw [e]; exact List.getElem_mem hj14)
          obtain ⟨y, hyy⟩ : ∃ y, y = otherL[j]'hj14 := ⟨_, rfl⟩
          rw [← hyy] at hne
          simp only [← hyy] at ho
          clear hyy
          have b1 := bytes_ne hne
          clear hne
          go_wp2
          go_region
          all_goals
            go_wp2
            go_roundw
            case rel => exact ⟨j + 1, by go_num, by omega, hbx.drew⟩
            case measure => simp [intOf]; omega
        · have hj0 : j = 14 := by omega
          subst hj0
          go_wp2
          go_roundw
          case rel => exact ⟨k + 1, by go_num, by omega, hbx⟩
          case measure => simp [intOf]; omega
    · obtain rfl : k = K := by omega
      by_cases hks : k < s.length
      · have hx : ∀ h : k < (⟨s.toArray⟩ : ByteArray).size, (⟨s.toArray⟩ : ByteArray)[k]'h = s[k] := fun h => by
          show s.toArray[k] = _
          simp
        have hk1 : (k : Int) < (s.length : Int) := by omega
        have hb := HA.out hks
        obtain ⟨x, hxx⟩ : ∃ x, x = s[k] := ⟨_, rfl⟩
        rw [← hxx] at hb
        simp only [← hxx] at hx
        clear hxx
        unfold tokB at hb
        by_cases h1 : 32 < x.toNat
        · by_cases h2 : x.toNat ≤ 126
          · have h3 : special.contains x = true := by simpa [h1, h2] using hb
            rw [special_other] at h3
            clear hb
            have h1' : (33 : Int) ≤ (x.toNat : Int) := by omega
            have h2' : (x.toNat : Int) ≤ 126 := by omega
            cases h5 : otherL.contains x with
            | true =>
              have H5 := Lib.hid h5
              clear h5 h3
              go_wp2
              go_loopw [5] (fun i wx => ∃ j : Nat, i = .int .i64 j ∧ j < 14 ∧ Below w.heap.size w wx ∧ Hid (x ∈ otherL.drop j)) (fun i _ => 14 - (intOf i).toNat)
              case atStart => exact ⟨0, rfl, by decide, hbw, Lib.hid (by have := H5.out; simpa [List.contains_eq_mem] using this)⟩
              case round =>
                obtain ⟨j, rfl, hj14, hbx, HM⟩ := hrel
                have hj1 : (j : Int) < 14 := by omega
                have hjo : j < otherL.length := hj14
                have ho := other_at j hjo
                have hM := HM.out
                rw [List.drop_eq_getElem_cons hjo] at hM
                obtain ⟨y, hyy⟩ : ∃ y, y = otherL[j]'hjo := ⟨_, rfl⟩
                rw [← hyy] at hM
                have ho2 : ∀ h', (⟨#[40, 41, 60, 62, 64, 44, 59, 58, 34, 47, 91, 93, 63, 61]⟩ : ByteArray)[j]'h' = y := fun h' => (ho h').trans hyy.symm
                clear ho
                clear hyy HM
                by_cases hxy : x = y
                · have b1 := bytes_eq hxy
                  clear hxy hM
                  go_wp2
                  go_region
                  all_goals
                    go_wp2
                    go_ret
                    exact ⟨rfl, hbx.drew⟩
                · have b1 := bytes_ne hxy
                  have HM2 : Hid (x ∈ otherL.drop (j + 1)) := Lib.hid (by simpa [hxy] using hM)
                  have hj2 : j + 1 < 14 := by
                    have := List.length_pos_of_mem HM2.out
                    simp [otherL] at this
                    omega
                  clear hxy hM
                  go_wp2
                  go_region
                  all_goals
                    go_wp2
                    go_roundw
                    case rel => exact ⟨j + 1, by go_num, by omega, hbx.drew, HM2⟩
                    case measure => simp [intOf]; omega
            | false =>
              rw [h5] at h3
              have H3 := Lib.hid h5
              have h4' : ((x.toNat : Int) == 92) = true := byte_eq (n := 92) (by decide) (by simpa using h3)
              clear h5 h3
              go_wp2
              go_loopw [5] (fun i wx => ∃ j : Nat, i = .int .i64 j ∧ j ≤ 14 ∧ Below w.heap.size w wx) (fun i _ => 14 - (intOf i).toNat)
              case atStart => exact ⟨0, rfl, Nat.zero_le _, hbw⟩
              case round =>
                obtain ⟨j, rfl, hj, hbx⟩ := hrel
                by_cases hj14 : j < 14
                · have hj1 : (j : Int) < 14 := by omega
                  have ho := other_at j hj14
                  have hne : x ≠ otherL[j]'hj14 := fun e => by
                    have := H3.out
                    rw [List.contains_eq_mem, decide_eq_false_iff_not] at this
                    exact this (by rw [e]; exact List.getElem_mem hj14)
                  obtain ⟨y, hyy⟩ : ∃ y, y = otherL[j]'hj14 := ⟨_, rfl⟩
                  rw [← hyy] at hne
                  simp only [← hyy] at ho
                  clear hyy
                  have b1 := bytes_ne hne
                  clear hne
                  go_wp2
                  go_region
                  all_goals
                    go_wp2
                    go_roundw
                    case rel => exact ⟨j + 1, by go_num, by omega, hbx.drew⟩
                    case measure => simp [intOf]; omega
                · have hj0 : j = 14 := by omega
                  subst hj0
                  go_wp2
                  go_ret
                  exact ⟨rfl, hbx⟩
          · have h2' : ¬ ((x.toNat : Int) ≤ 126) := by omega
            have h1' : (33 : Int) ≤ (x.toNat : Int) := by omega
            clear hb
            go_wp2
            go_ret
            exact ⟨rfl, hbw⟩
        · have h1' : ¬ ((33 : Int) ≤ (x.toNat : Int)) := by omega
          clear hb
          go_wp2
          go_ret
          exact ⟨rfl, hbw⟩
      · have hk1 : ¬ ((k : Int) < (s.length : Int)) := by omega
        go_wp2
        go_ret
        exact ⟨rfl, hbw⟩
end Go.Proofs.YtbjbljfmcpidmaaGreatDoor

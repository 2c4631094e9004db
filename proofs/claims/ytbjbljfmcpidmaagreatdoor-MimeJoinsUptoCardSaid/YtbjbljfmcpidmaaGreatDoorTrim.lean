/- The reference's trim. -/
import Derived.Test.YtbjbljfmcpidmaaGreatDoorRef1
import Derived.Deep.DeepMust
namespace Go.Proofs.YtbjbljfmcpidmaaGreatDoor
open Go.RowKit Go.Lib Go.Shelf

theorem contains_bl : (fun x : UInt8 => [32, 9].contains x) = isBl := by
  funext x
  unfold isBl
  rw [Bool.eq_iff_iff]
  simp
theorem trimS_bl (l : List UInt8) : Lib.trimS l [32, 9] = ((l.reverse.dropWhile isBl).reverse).dropWhile isBl := by
  unfold Lib.trimS Lib.trimLeftS Lib.trimRightS
  rw [contains_bl]
theorem trim_swap (p : UInt8 → Bool) (l : List UInt8) : ((l.reverse.dropWhile p).reverse).dropWhile p = ((l.dropWhile p).reverse.dropWhile p).reverse := by
  induction l with
  | nil => rfl
  | cons x t ih =>
    by_cases hx : p x = true
    · rw [List.dropWhile_cons_of_pos hx, ← ih, List.reverse_cons, List.dropWhile_append]
      split
      · rename_i h
        rw [List.isEmpty_iff] at h
        rw [h]
        simp [hx]
      · rw [List.reverse_append]
        simp [hx]
    · rw [List.dropWhile_cons_of_neg hx, List.reverse_cons, List.dropWhile_append]
      split
      · simp [hx]
      · rw [List.reverse_append]
        simp [hx]

theorem bs_extract (l : List UInt8) (a b : Nat) : (⟨l.toArray⟩ : ByteArray).extract a b = ⟨((l.take b).drop a).toArray⟩ := by
  apply ByteArray.ext
  simp [List.drop_take]

set_option maxHeartbeats 400000 in
theorem rtrim_any (l : List UInt8) (w : World) (hl : l.length ≤ 4000000) :
    Calls Tryz.prog 187 #[.string ⟨l.toArray⟩] w fun e w' => e = .returned (.string ⟨(Lib.trimS l [32, 9]).toArray⟩) ∧ w = w' := by
  rw [trimS_bl, trim_swap]
  go_enter Tryz.func187, Tryz.ntmps187
  go_wp2
  go_loop [0] (fun s => ∃ m : List UInt8, s = .string ⟨m.toArray⟩ ∧ l.dropWhile isBl = m.dropWhile isBl ∧ m.length ≤ l.length) (fun s => match s with | .string b => b.size | _ => 0)
  case atStart => exact ⟨l, rfl, rfl, Nat.le_refl _⟩
  case round =>
    obtain ⟨m, rfl, hm, hml⟩ := hrel
    have HM := Lib.hid hm
    clear hm
    by_cases hhd : headBl m = true
    · obtain ⟨x, t, rfl⟩ : ∃ x t, m = x :: t := by cases m with | nil => simp [headBl] at hhd | cons x t => exact ⟨x, t, rfl⟩
      have hx : isBl x = true := hhd
      have cB := blank_any x
      rw [hx] at cB
      clear hhd
      go_wp2_with (go_at_call 144; refine (cB _).mono ?_; rintro e w' ⟨rfl, rfl⟩)
      refine ⟨⟨t, by rw [bs_extract]; simp, ?_, by simp at hml; omega⟩, ?_⟩
      · have h := HM.out
        rwa [List.dropWhile_cons_of_pos hx] at h
      · rw [bs_extract]
        simp [ByteArray.size]
    · have HR : Hid (l.dropWhile isBl = m) := by
        have h := HM.out
        rw [h]
        cases m with
        | nil => rfl
        | cons x t => exact List.dropWhile_cons_of_neg hhd
      clear HM
      have hstop : (m = []) ∨ ∃ x t, m = x :: t ∧ isBl x = false := by
        cases m with
        | nil => exact .inl rfl
        | cons x t => exact .inr ⟨x, t, rfl, by simpa [headBl] using hhd⟩
      clear hhd
      rcases hstop with rfl | ⟨x, t, rfl, hx⟩
      · go_wp2
        go_loop [0] (fun s => s = .string ⟨#[]⟩) (fun s => 0)
        case atStart => rfl
        case round =>
          subst hrel
          go_wp2
          go_ret
          rw [HR.out]
          exact ⟨rfl, rfl⟩
      · have cB := blank_any x
        rw [hx] at cB
        go_wp2_with (go_at_call 144; refine (cB _).mono ?_; rintro e w' ⟨rfl, rfl⟩)
        go_loop [0] (fun s => ∃ m : List UInt8, s = .string ⟨m.toArray⟩ ∧ (x :: t).reverse.dropWhile isBl = m.reverse.dropWhile isBl ∧ m.length ≤ l.length) (fun s => match s with | .string b => b.size | _ => 0)
        case atStart => exact ⟨x :: t, rfl, rfl, hml⟩
        case round =>
          obtain ⟨m, rfl, hm, hml2⟩ := hrel
          have HM := Lib.hid hm
          clear hm
          obtain rfl | ⟨m', y, rfl⟩ : m = [] ∨ ∃ m' y, m = m' ++ [y] := by
            rcases List.eq_nil_or_concat m with h | ⟨a, b, h⟩
            · exact .inl h
            · exact .inr ⟨a, b, by rw [h]; simp⟩
          · go_wp2
            go_ret
            have h := HM.out
            rw [HR.out, h]
            exact ⟨rfl, rfl⟩
          · obtain ⟨M, hM⟩ : ∃ M, m' ++ [y] = M := ⟨_, rfl⟩
            rw [hM]
            have hM1 : 0 < M.length := by rw [← hM]; simp
            have hM2 : (0 : Int) < (M.length : Int) := by omega
            have hy : ∀ h : M.length - 1 < (⟨M.toArray⟩ : ByteArray).size, (⟨M.toArray⟩ : ByteArray)[M.length - 1]'h = y := fun h => by
              subst hM
              show (m' ++ [y])[(m' ++ [y]).length - 1]'_ = y
              simp
            have cB : ∀ (h : M.length - 1 < (⟨M.toArray⟩ : ByteArray).size) (W : World), Calls Tryz.prog 144 #[.int .u8 (((⟨M.toArray⟩ : ByteArray)[M.length - 1]'h).toNat : Int)] W fun e w' => e = .returned (.bool (isBl y)) ∧ W = w' := fun h W => by
              rw [hy h]
              exact blank_any y W
            have HMM := Lib.hid hM
            rw [hM] at hml2
            clear hM hy
            cases hyb : isBl y <;> rw [hyb] at cB <;> have HYB := Lib.hid hyb <;> clear hyb
            · go_wp2_with (go_at_call 144; refine (cB _ _).mono ?_; rintro e w' ⟨rfl, rfl⟩)
              all_goals
                go_ret
                have h := HM.out
                rw [HR.out, h]
                refine ⟨ret_str ?_, rfl⟩
                rw [← HMM.out]
                simp [HYB.out]
            · go_wp2_with (go_at_call 144; refine (cB _ _).mono ?_; rintro e w' ⟨rfl, rfl⟩)
              all_goals
                have e1 : (⟨M.toArray⟩ : ByteArray).extract 0 (M.length - 1) = ⟨m'.toArray⟩ := by
                  rw [bs_extract, ← HMM.out]
                  simp
                have e2 : m'.length + 1 = M.length := by rw [← HMM.out]; simp
                refine ⟨⟨m', by rw [e1], ?_, by omega⟩, ?_⟩
                · have h := HM.out
                  rw [h]
                  simp [HYB.out]
                · rw [e1]
                  simp [ByteArray.size]
                  omega
end Go.Proofs.YtbjbljfmcpidmaaGreatDoor

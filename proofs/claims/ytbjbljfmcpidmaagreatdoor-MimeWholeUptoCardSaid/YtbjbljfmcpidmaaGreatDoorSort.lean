/- mime: what kind of line a line is; a part's encoding. -/
import Derived.Test.YtbjbljfmcpidmaaGreatDoorKind
import Derived.Test.YtbjbljfmcpidmaaGreatDoorWords
namespace Go.Proofs.YtbjbljfmcpidmaaGreatDoor
open Go.RowKit Go.Lib Go.Shelf
def sortS (l b : List UInt8) : Nat :=
  if Lib.hasPrefix l (45 :: 45 :: b) then
    if tb (Lib.trimPrefix l (45 :: 45 :: b)) = [] then 1
    else if Lib.hasPrefix (Lib.trimPrefix l (45 :: 45 :: b)) [45, 45] = true ∧ tb (Lib.trimPrefix (Lib.trimPrefix l (45 :: 45 :: b)) [45, 45]) = [] then 2 else 0
  else 0
set_option maxHeartbeats 2000000 in
theorem sort_any (A : Option Addr) (c : Nat) (l b : List UInt8) (w : World) (hr : RowIn w A (bcells l)) (hl : l.length ≤ 2000000) (hb : b.length ≤ 2000000) (_hg : Gl w) :
    Calls Tryz.prog 141 #[.slice A l.length c, .string ⟨b.toArray⟩] w fun e w' => e = .returned (.int .i64 (sortS l b : Int)) ∧ Below w.heap.size w w' := by
  have hcv := conv_bytes A l l.length c w hr rfl
  have hcat : (⟨#[45, 45]⟩ : ByteArray) ++ ⟨b.toArray⟩ = ⟨(45 :: 45 :: b).toArray⟩ := by apply ByteArray.ext; simp
  have cP := fun W => cutPrefix_any l (45 :: 45 :: b) W
  have HS : Hid (sortS l b = if Lib.hasPrefix l (45 :: 45 :: b) then if tb (Lib.trimPrefix l (45 :: 45 :: b)) = [] then 1 else if Lib.hasPrefix (Lib.trimPrefix l (45 :: 45 :: b)) [45, 45] = true ∧ tb (Lib.trimPrefix (Lib.trimPrefix l (45 :: 45 :: b)) [45, 45]) = [] then 2 else 0 else 0) := Lib.hid rfl
  have hl1 := trimPrefix_le l (45 :: 45 :: b)
  generalize Lib.trimPrefix l (45 :: 45 :: b) = r at *
  cases hp : Lib.hasPrefix l (45 :: 45 :: b) with
  | false =>
    rw [hp] at cP HS
    have HF : Hid (sortS l b = 0) := Lib.hid (by rw [HS.out]; rfl)
    clear hp HS
    have HP := Lib.hid cP
    clear cP
    go_enter Tryz.func141, Tryz.ntmps141
    go_wp2_with (go_at_call 128; refine (HP.out _).mono ?_; rintro e w1 ⟨rfl, rfl⟩)
    go_ret
    rw [HF.out]
    exact ⟨rfl, Below.refl _ _⟩
  | true =>
    rw [hp] at cP HS
    clear hp
    have cT := fun W => trimL_any r W (by omega)
    have cQ := fun W => cutPrefix_any r [45, 45] W
    have hl2 := trimPrefix_le r [45, 45]
    generalize Lib.trimPrefix r [45, 45] = r2 at *
    have cT2 := fun W => trimL_any r2 W (by omega)
    have HP := Lib.hid cP
    have HT := Lib.hid cT
    have HQ := Lib.hid cQ
    have HT2 := Lib.hid cT2
    clear cP cT cQ cT2
    generalize tb r = t1 at *
    generalize tb r2 = t2 at *
    cases t1 with
    | nil =>
      have HF : Hid (sortS l b = 1) := Lib.hid (by rw [HS.out]; rfl)
      go_enter Tryz.func141, Tryz.ntmps141
      go_wp2_with (first | (go_at_call 128; refine (HP.out _).mono ?_; rintro e w1 ⟨rfl, rfl⟩) | (go_at_call 58; refine (HT.out _).mono ?_; rintro e w2 ⟨rfl, hb2⟩))
      go_ret
      rw [HF.out]
      exact ⟨rfl, hb2⟩
    | cons x1 t1 =>
      have hne1 : ¬ (x1 :: t1 = []) := by simp
      cases hq : Lib.hasPrefix r [45, 45] with
      | false =>
        have HF : Hid (sortS l b = 0) := Lib.hid (by rw [HS.out, hq]; simp)
        rw [hq] at HQ
        clear hq HS
        go_enter Tryz.func141, Tryz.ntmps141
        go_wp2_with fail
        refine (HP.out _).mono ?_
        rintro e w1 ⟨rfl, rfl⟩
        go_wp2_with fail
        refine (HT.out _).mono ?_
        rintro e w2 ⟨rfl, hb2⟩
        go_wp2_with fail
        refine (HQ.out _).mono ?_
        rintro e w3 ⟨rfl, rfl⟩
        go_wp2
        go_ret
        rw [HF.out]
        exact ⟨rfl, hb2⟩
      | true =>
        cases t2 with
        | nil =>
          have HF : Hid (sortS l b = 2) := Lib.hid (by rw [HS.out, hq]; simp)
          rw [hq] at HQ
          clear hq HS
          go_enter Tryz.func141, Tryz.ntmps141
          go_wp2_with fail
          refine (HP.out _).mono ?_
          rintro e w1 ⟨rfl, rfl⟩
          go_wp2_with fail
          refine (HT.out _).mono ?_
          rintro e w2 ⟨rfl, hb2⟩
          go_wp2_with fail
          refine (HQ.out _).mono ?_
          rintro e w3 ⟨rfl, rfl⟩
          go_wp2_with fail
          refine (HT2.out _).mono ?_
          rintro e w4 ⟨rfl, hb4⟩
          go_wp2
          go_ret
          rw [HF.out]
          exact ⟨rfl, hb2.trans (hb4.mono hb2.size)⟩
        | cons x2 t2 =>
          have HF : Hid (sortS l b = 0) := Lib.hid (by rw [HS.out, hq]; simp)
          rw [hq] at HQ
          clear hq HS
          go_enter Tryz.func141, Tryz.ntmps141
          go_wp2_with fail
          refine (HP.out _).mono ?_
          rintro e w1 ⟨rfl, rfl⟩
          go_wp2_with fail
          refine (HT.out _).mono ?_
          rintro e w2 ⟨rfl, hb2⟩
          go_wp2_with fail
          refine (HQ.out _).mono ?_
          rintro e w3 ⟨rfl, rfl⟩
          go_wp2_with fail
          refine (HT2.out _).mono ?_
          rintro e w4 ⟨rfl, hb4⟩
          go_wp2
          go_ret
          rw [HF.out]
          exact ⟨rfl, hb2.trans (hb4.mono hb2.size)⟩
end Go.Proofs.YtbjbljfmcpidmaaGreatDoor

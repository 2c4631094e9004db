/- A moment as a header's text, the reference's. -/
import Derived.Test.YtbjbljfmcpidmaaGreatDoorStampH0
namespace Go.Proofs.YtbjbljfmcpidmaaGreatDoor
open Go.RowKit Go.Lib Go.Shelf
theorem weekday_any (W : Nat) (w : World) (h : W ≤ 6) : Calls Tryz.prog 70 #[.int .i64 (W : Int)] w fun e w' => e = .returned (.string ⟨(wdS W).toArray⟩) ∧ w = w' := by
  have HX : Hid ((⟨#[83, 117, 110, 77, 111, 110, 84, 117, 101, 87, 101, 100, 84, 104, 117, 70, 114, 105, 83, 97, 116]⟩ : ByteArray).extract (3 * W) (3 * W + 3) = ⟨(wdS W).toArray⟩) := Lib.hid (bs_extract wdL _ _)
  obtain ⟨P, hP⟩ : ∃ P : Nat, (3 : Int) * (W : Int) = (P : Int) := ⟨3 * W, by omega⟩
  have hP2 : P + 3 ≤ 21 := by omega
  have e : 3 * W = P := by omega
  rw [e] at HX
  clear e
  go_enter Tryz.func70, Tryz.ntmps70
  go_wp2
  go_ret
  rw [← HX.out]
  exact ⟨rfl, rfl⟩
theorem month_any (m : Nat) (w : World) (h0 : 1 ≤ m) (h : m ≤ 12) : Calls Tryz.prog 72 #[.int .i64 (m : Int)] w fun e w' => e = .returned (.string ⟨(moS m).toArray⟩) ∧ w = w' := by
  have HX : Hid ((⟨#[74, 97, 110, 70, 101, 98, 77, 97, 114, 65, 112, 114, 77, 97, 121, 74, 117, 110, 74, 117, 108, 65, 117, 103, 83, 101, 112, 79, 99, 116, 78, 111, 118, 68, 101, 99]⟩ : ByteArray).extract (3 * m - 3) (3 * m) = ⟨(moS m).toArray⟩) := Lib.hid (bs_extract moL _ _)
  obtain ⟨Q, hQ⟩ : ∃ Q : Nat, 3 * m = Q := ⟨_, rfl⟩
  obtain ⟨P, hP⟩ : ∃ P : Nat, Q - 3 = P := ⟨_, rfl⟩
  rw [hQ, hP] at HX
  have e1 : (3 : Int) * (m : Int) = (Q : Int) := by omega
  have e2 : (Q : Int) - 3 = (P : Int) := by omega
  have h1 : P ≤ Q := by omega
  have h2 : Q ≤ 36 := by omega
  have h3 : 3 ≤ Q := by omega
  clear hQ hP
  go_enter Tryz.func72, Tryz.ntmps72
  go_wp2
  go_ret
  rw [← HX.out]
  exact ⟨rfl, rfl⟩
set_option maxHeartbeats 8000000 in
set_option maxRecDepth 100000 in
theorem rheader_any (s : Int) (w : World) : Calls Tryz.prog 37 #[.int .i64 s] w (HDone s w) := by
  by_cases hs : 0 ≤ s ∧ s < 4294967296
  · obtain ⟨n, rfl⟩ : ∃ n : Nat, s = n := ⟨s.toNat, by omega⟩
    have hn : n < 4294967296 := by omega
    have HO : Hid (∀ e w' y m d, DateN n y m d → e = .returned (.string ⟨(hdrS n y m d).toArray⟩) → Below w.heap.size w w' → HDone n w e w') := Lib.hid fun e w' y m d h1 h2 h3 => ⟨_, .inr ⟨n, y, m, d, rfl, hn, h1, rfl⟩, h2, h3⟩
    obtain ⟨PD, hPD⟩ : ∃ PD, PD = HDone n w := ⟨_, rfl⟩
    rw [← hPD] at HO ⊢
    clear hPD
    have cO := rofN_any n w hn
    have hH : n % 86400 / 3600 ≤ 23 := by omega
    have hI : n % 3600 / 60 ≤ 59 := by omega
    have hSc : n % 60 ≤ 59 := by omega
    have hW : (n / 86400 + 6) % 7 ≤ 6 := by omega
    have HX : Hid (∀ y m d, hdrS n y m d = wdS ((n / 86400 + 6) % 7) ++ [44, 32] ++ wideS 2 d ++ [32] ++ moS m ++ [32] ++ wideS 4 y ++ [32] ++ clockS (n % 86400 / 3600) (n % 3600 / 60) (n % 60)) := Lib.hid fun _ _ _ => rfl
    simp only [timeN, timeV] at cO
    generalize n % 86400 / 3600 = H at *
    generalize n % 3600 / 60 = I at *
    generalize n % 60 = S at *
    generalize (n / 86400 + 6) % 7 = W at *
    go_enter Tryz.func37, Tryz.ntmps37
    go_wp2_with fail
    refine cO.mono ?_
    rintro e w1 ⟨y, m, d, hD, rfl, hb1⟩
    have HDD := Lib.hid hD
    obtain ⟨hd0, hd1, hm0, hm1, hy0, hy1, _⟩ := hD
    go_wp2
    have hS : TS w w1.heap.size y m d H I S W (w1.alloc (.cells #[.int .i64 y, .int .i64 m, .int .i64 d, .int .i64 H, .int .i64 I, .int .i64 S, .int .i64 W] 110)) := ⟨by go_simp, by go_simp, by go_simp, by go_simp, by go_simp, by go_simp, by go_simp, hb1.alloc hb1.size _⟩
    obtain ⟨w2, hw2⟩ : ∃ w2, w2 = w1.alloc (.cells #[.int .i64 y, .int .i64 m, .int .i64 d, .int .i64 H, .int .i64 I, .int .i64 S, .int .i64 W] 110) := ⟨_, rfl⟩
    rw [← hw2] at hS ⊢
    clear hw2
    generalize w1.heap.size = B at *
    have hSd : TS w B y m d H I S W w2.drew := ⟨hS.1, hS.2.1, hS.2.2.1, hS.2.2.2.1, hS.2.2.2.2.1, hS.2.2.2.2.2.1, hS.2.2.2.2.2.2.1, hS.2.2.2.2.2.2.2.drew⟩
    unfold TS at hSd
    have cW2 : ∀ W', (W'.cell? ⟨B, 0, none⟩ = some (.int .i64 (y : Int)) ∧ W'.cell? ⟨B, 1, none⟩ = some (.int .i64 (m : Int)) ∧ W'.cell? ⟨B, 2, none⟩ = some (.int .i64 (d : Int)) ∧ W'.cell? ⟨B, 3, none⟩ = some (.int .i64 (H : Int)) ∧ W'.cell? ⟨B, 4, none⟩ = some (.int .i64 (I : Int)) ∧ W'.cell? ⟨B, 5, none⟩ = some (.int .i64 (S : Int)) ∧ W'.cell? ⟨B, 6, none⟩ = some (.int .i64 (W : Int)) ∧ Below w.heap.size w W') → Calls Tryz.prog 71 #[.int .i64 (d : Int), .int .i64 2] W' fun e w' => e = .returned (.string ⟨(wideS 2 d).toArray⟩) ∧ (w'.cell? ⟨B, 0, none⟩ = some (.int .i64 (y : Int)) ∧ w'.cell? ⟨B, 1, none⟩ = some (.int .i64 (m : Int)) ∧ w'.cell? ⟨B, 2, none⟩ = some (.int .i64 (d : Int)) ∧ w'.cell? ⟨B, 3, none⟩ = some (.int .i64 (H : Int)) ∧ w'.cell? ⟨B, 4, none⟩ = some (.int .i64 (I : Int)) ∧ w'.cell? ⟨B, 5, none⟩ = some (.int .i64 (S : Int)) ∧ w'.cell? ⟨B, 6, none⟩ = some (.int .i64 (W : Int)) ∧ Below w.heap.size w w') := fun W' hT => (rwide_any 1 d W' (by decide) (by omega)).mono fun e w' h => ⟨h.1, TS.below hT h.2⟩
    have cW4 : ∀ W', (W'.cell? ⟨B, 0, none⟩ = some (.int .i64 (y : Int)) ∧ W'.cell? ⟨B, 1, none⟩ = some (.int .i64 (m : Int)) ∧ W'.cell? ⟨B, 2, none⟩ = some (.int .i64 (d : Int)) ∧ W'.cell? ⟨B, 3, none⟩ = some (.int .i64 (H : Int)) ∧ W'.cell? ⟨B, 4, none⟩ = some (.int .i64 (I : Int)) ∧ W'.cell? ⟨B, 5, none⟩ = some (.int .i64 (S : Int)) ∧ W'.cell? ⟨B, 6, none⟩ = some (.int .i64 (W : Int)) ∧ Below w.heap.size w W') → Calls Tryz.prog 71 #[.int .i64 (y : Int), .int .i64 4] W' fun e w' => e = .returned (.string ⟨(wideS 4 y).toArray⟩) ∧ (w'.cell? ⟨B, 0, none⟩ = some (.int .i64 (y : Int)) ∧ w'.cell? ⟨B, 1, none⟩ = some (.int .i64 (m : Int)) ∧ w'.cell? ⟨B, 2, none⟩ = some (.int .i64 (d : Int)) ∧ w'.cell? ⟨B, 3, none⟩ = some (.int .i64 (H : Int)) ∧ w'.cell? ⟨B, 4, none⟩ = some (.int .i64 (I : Int)) ∧ w'.cell? ⟨B, 5, none⟩ = some (.int .i64 (S : Int)) ∧ w'.cell? ⟨B, 6, none⟩ = some (.int .i64 (W : Int)) ∧ Below w.heap.size w w') := fun W' hT => (rwide_any 3 y W' (by decide) (by omega)).mono fun e w' h => ⟨h.1, TS.below hT h.2⟩
    have cC : ∀ W', (W'.cell? ⟨B, 0, none⟩ = some (.int .i64 (y : Int)) ∧ W'.cell? ⟨B, 1, none⟩ = some (.int .i64 (m : Int)) ∧ W'.cell? ⟨B, 2, none⟩ = some (.int .i64 (d : Int)) ∧ W'.cell? ⟨B, 3, none⟩ = some (.int .i64 (H : Int)) ∧ W'.cell? ⟨B, 4, none⟩ = some (.int .i64 (I : Int)) ∧ W'.cell? ⟨B, 5, none⟩ = some (.int .i64 (S : Int)) ∧ W'.cell? ⟨B, 6, none⟩ = some (.int .i64 (W : Int)) ∧ Below w.heap.size w W') → Calls Tryz.prog 73 #[.agg #[.int .i64 (y : Int), .int .i64 (m : Int), .int .i64 (d : Int), .int .i64 (H : Int), .int .i64 (I : Int), .int .i64 (S : Int), .int .i64 (W : Int)]] W' fun e w' => e = .returned (.string ⟨(clockS H I S).toArray⟩) ∧ (w'.cell? ⟨B, 0, none⟩ = some (.int .i64 (y : Int)) ∧ w'.cell? ⟨B, 1, none⟩ = some (.int .i64 (m : Int)) ∧ w'.cell? ⟨B, 2, none⟩ = some (.int .i64 (d : Int)) ∧ w'.cell? ⟨B, 3, none⟩ = some (.int .i64 (H : Int)) ∧ w'.cell? ⟨B, 4, none⟩ = some (.int .i64 (I : Int)) ∧ w'.cell? ⟨B, 5, none⟩ = some (.int .i64 (S : Int)) ∧ w'.cell? ⟨B, 6, none⟩ = some (.int .i64 (W : Int)) ∧ Below w.heap.size w w') := fun W' hT => (rclock_any y m d H I S W W' (by omega) (by omega) (by omega)).mono fun e w' h => ⟨h.1, TS.below hT h.2⟩
    have cD := fun W' => weekday_any W W' hW
    have cM := fun W' => month_any m W' hm0 hm1
    have l1 := wdS_len3 W hW
    have l2 := moS_len3 m hm0 hm1
    have l3 := wideS_len 2 d
    have l4 := wideS_len 4 y
    have l5 := clockS_len H I S
    have HcW2 := Lib.hid cW2
    have HcW4 := Lib.hid cW4
    have HcC := Lib.hid cC
    have HcD := Lib.hid cD
    have HcM := Lib.hid cM
    clear cW2 cW4 cC cD cM
    clear hW hm0 hm1 hd0 hd1 hy0 hy1 hS hb1 hH hI hSc cO hn hs
    go_region_held3 (fun w' => (w'.cell? ⟨B, 0, none⟩ = some (.int .i64 (y : Int)) ∧ w'.cell? ⟨B, 1, none⟩ = some (.int .i64 (m : Int)) ∧ w'.cell? ⟨B, 2, none⟩ = some (.int .i64 (d : Int)) ∧ w'.cell? ⟨B, 3, none⟩ = some (.int .i64 (H : Int)) ∧ w'.cell? ⟨B, 4, none⟩ = some (.int .i64 (I : Int)) ∧ w'.cell? ⟨B, 5, none⟩ = some (.int .i64 (S : Int)) ∧ w'.cell? ⟨B, 6, none⟩ = some (.int .i64 (W : Int)) ∧ Below w.heap.size w w')) (first | exact hSd | assumption) (first | (go_at_call 73; ((with_reducible refine (HcC.out _ ?_).mono ?_); (assumption); rintro e w' ⟨rfl, k1⟩)) | (go_at_call 70; ((with_reducible refine (HcD.out _).mono ?_); rintro e w' ⟨rfl, rfl⟩)) | (go_at_call 72; ((with_reducible refine (HcM.out _).mono ?_); rintro e w' ⟨rfl, rfl⟩)) | (go_at_call 71; ((with_reducible refine (HcW2.out _ ?_).mono ?_); (assumption); rintro e w' ⟨rfl, k1⟩)) | (go_at_call 71; ((with_reducible refine (HcW4.out _ ?_).mono ?_); (assumption); rintro e w' ⟨rfl, k1⟩)))
    obtain ⟨_, _, _, _, _, _, _, hBB⟩ := ‹_ ∧ _ ∧ _ ∧ _ ∧ _ ∧ _ ∧ _ ∧ Below w.heap.size w _›
    go_wp2
    refine HO.out _ _ y m d HDD.out ?_ hBB
    rw [HX.out]
    exact congrArg (fun b => Ending.returned (Value.string b)) (by apply ByteArray.ext; simp)
  · have hb : s < 0 ∨ 4294967296 ≤ s := by omega
    have HO : Hid (∀ w', Below w.heap.size w w' → HDone s w (.returned (.string ⟨#[]⟩)) w') := Lib.hid fun w' h3 => ⟨[], .inl ⟨hb, rfl⟩, rfl, h3⟩
    have cO := rof_bad s w hb
    simp only [timeV] at cO
    clear hs hb
    generalize HDone s w = PD at *
    go_enter Tryz.func37, Tryz.ntmps37
    go_wp2_with fail
    refine cO.mono ?_
    rintro e w1 ⟨rfl, hb1⟩
    go_wp2
    exact HO.out _ (hb1.alloc hb1.size _)
end Go.Proofs.YtbjbljfmcpidmaaGreatDoor

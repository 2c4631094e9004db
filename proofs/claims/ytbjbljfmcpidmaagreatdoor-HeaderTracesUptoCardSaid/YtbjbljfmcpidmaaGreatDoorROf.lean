/- The reference's date. -/
import Derived.Test.YtbjbljfmcpidmaaGreatDoorStampOf
import Derived.Test.YtbjbljfmcpidmaaGreatDoorClock
namespace Go.Proofs.YtbjbljfmcpidmaaGreatDoor
open Go.RowKit Go.Lib Go.Shelf
theorem rleap_cases (y : Int) : ((y % 4 == 0) = false ∧ (y % 400 == 0) = false ∧ leapB y = false) ∨ ((y % 4 == 0) = true ∧ (y % 100 == 0) = false ∧ (y % 100 != 0) = true ∧ leapB y = true) ∨
    ((y % 4 == 0) = true ∧ (y % 100 == 0) = true ∧ (y % 100 != 0) = false ∧ (y % 400 == 0) = false ∧ leapB y = false) ∨ ((y % 4 == 0) = true ∧ (y % 100 == 0) = true ∧ (y % 100 != 0) = false ∧ (y % 400 == 0) = true ∧ leapB y = true) := by
  rcases leap_cases y with ⟨a, b⟩ | h | h | h
  · refine .inl ⟨a, ?_, b⟩
    rw [beq_eq_false_iff_ne] at a ⊢
    omega
  · exact .inr (.inl h)
  · exact .inr (.inr (.inl h))
  · exact .inr (.inr (.inr h))
theorem rleap_any (y : Int) (w : World) (h0 : 0 ≤ y) (h1 : y ≤ 4000) :
    Calls Tryz.prog 184 #[.int .i64 y] w fun e w' => e = .returned (.bool (leapB y)) ∧ w = w' := by
  rcases rleap_cases y with ⟨a, b, hb⟩ | ⟨a, b, c, hb⟩ | ⟨a, b, c, d, hb⟩ | ⟨a, b, c, d, hb⟩
  all_goals
    rw [hb]
    clear hb
    go_enter Tryz.func184, Tryz.ntmps184
    go_wp2
    go_ret
    exact ⟨rfl, rfl⟩
theorem days_any (y : Int) (m : Int) (w : World) (h0 : 0 ≤ y) (h1 : y ≤ 4000) :
    Calls Tryz.prog 137 #[.int .i64 y, .int .i64 m] w fun e w' => e = .returned (.int .i64 (mlen y m)) ∧ w = w' := by
  have cl := fun W => rleap_any y W h0 h1
  have hm : ((m == 2) = true ∧ mlen y m = if leapB y then 29 else 28) ∨ ((m == 2) = false ∧ (m == 4) = true ∧ mlen y m = 30) ∨ ((m == 2) = false ∧ (m == 4) = false ∧ (m == 6) = true ∧ mlen y m = 30) ∨ ((m == 2) = false ∧ (m == 4) = false ∧ (m == 6) = false ∧ (m == 9) = true ∧ mlen y m = 30) ∨
      ((m == 2) = false ∧ (m == 4) = false ∧ (m == 6) = false ∧ (m == 9) = false ∧ (m == 11) = true ∧ mlen y m = 30) ∨ ((m == 2) = false ∧ (m == 4) = false ∧ (m == 6) = false ∧ (m == 9) = false ∧ (m == 11) = false ∧ mlen y m = 31) := by
    unfold mlen
    by_cases a : m = 2
    · simp [a]
    by_cases b : m = 4
    · simp [b]
    by_cases c : m = 6
    · simp [c]
    by_cases d : m = 9
    · simp [d]
    by_cases e : m = 11
    · simp [e]
    simp [a, b, c, d, e]
  rcases hm with ⟨a, hm⟩ | ⟨a, b, hm⟩ | ⟨a, b, c, hm⟩ | ⟨a, b, c, d, hm⟩ | ⟨a, b, c, d, f, hm⟩ | ⟨a, b, c, d, f, hm⟩
  · cases hb : leapB y
    all_goals
      rw [hb] at cl hm
      rw [hm]
      clear hb hm
      go_enter Tryz.func137, Tryz.ntmps137
      go_wp2_with (go_at_call 184; refine (cl _).mono ?_; rintro e w1 ⟨rfl, rfl⟩)
      go_ret
      exact ⟨rfl, rfl⟩
  all_goals
    rw [hm]
    clear hm
    go_enter Tryz.func137, Tryz.ntmps137
    go_wp2
    go_ret
    exact ⟨rfl, rfl⟩
theorem rof_bad (s : Int) (w : World) (h : s < 0 ∨ 4294967296 ≤ s) :
    Calls Tryz.prog 69 #[.int .i64 s] w fun e w' => e = .returned (.tuple #[timeV 0 0 0 0 0 0 0, .int .i64 80]) ∧ Below w.heap.size w w' := by
  rcases h with h | h
  · go_enter Tryz.func69, Tryz.ntmps69
    go_wp2
    exact bodyPost_ret (v := .tuple #[timeV 0 0 0 0 0 0 0, .int .i64 80]) (by simp [results, Tryz.results69, go_sem, timeV]) rfl ⟨rfl, (Below.refl _ _).alloc (Nat.le_refl _) _⟩
  · have h' : ¬ s < 0 := by omega
    go_enter Tryz.func69, Tryz.ntmps69
    go_wp2
    exact bodyPost_ret (v := .tuple #[timeV 0 0 0 0 0 0 0, .int .i64 80]) (by simp [results, Tryz.results69, go_sem, timeV]) rfl ⟨rfl, (Below.refl _ _).alloc (Nat.le_refl _) _⟩
theorem cum_next2 (y : Int) : bef y + cum y (11 + 1) + mlen y (11 + 1) = bef (y + 1) := by
  have h := cum_next y 12 (by omega) (by omega)
  have h2 := bef_next y
  have e : (12 : Int) + 1 = 13 := rfl
  rw [e] at h
  show bef y + cum y 12 + mlen y 12 = _
  omega
set_option maxHeartbeats 4000000 in
set_option maxRecDepth 100000 in
theorem rof_any (s : Int) (w : World) (h0 : 0 ≤ s) (h1 : s < 4294967296) : Calls Tryz.prog 69 #[.int .i64 s] w (ODone s w) := by
  have HO : Hid (∀ e w', (∃ (y : Int) (k : Nat) (d : Int), IsDate (s / 86400) y ((k : Int) + 1) d ∧ k < 12 ∧ 2000 ≤ y ∧ y ≤ 2137 ∧ e = .returned (.tuple #[timeV y ((k : Int) + 1) (d + 1) (s % 86400 / 3600) (s % 3600 / 60) (s % 60) ((s / 86400 + 6) % 7), .int .i64 0]) ∧ Below w.heap.size w w') → ODone s w e w') := Lib.hid fun e w' h => h
  have hs1 : ¬ s < 0 := by omega
  have hs2 : ¬ 4294967296 ≤ s := by omega
  have hn0 : 0 ≤ s / 86400 := by omega
  have hn1 : s / 86400 ≤ 49710 := by omega
  have hc : 6 + s / 86400 = s / 86400 + 6 := by omega
  obtain ⟨PD, hPD⟩ : ∃ PD, PD = ODone s w := ⟨_, rfl⟩
  rw [← hPD] at HO ⊢
  clear hPD
  have HC := Lib.hid hc
  clear hc
  go_enter Tryz.func69, Tryz.ntmps69
  go_wp2
  go_loopw [4] (fun t4 wr => ∃ (y : Int) (k : Nat) (d : Int), wr = (w.alloc (.cells (tcells 0 0 0 0 0 0 0) 110)).alloc (.cells (tcells y ((k : Int) + 1) 1 0 0 0 ((6 + s / 86400) % 7)) 110) ∧ t4 = .int .i64 d ∧ k < 12 ∧ 0 ≤ d ∧ d ≤ 49710 ∧ 2000 ≤ y ∧ y ≤ 2136 ∧ Hid (s / 86400 = bef y + cum y ((k : Int) + 1) + d)) (fun t4 _ => (intOf t4).toNat)
  case atStart => exact ⟨2000, 0, s / 86400, rfl, rfl, by omega, hn0, hn1, by omega, by omega, Lib.hid (by show _ = bef 2000 + cum 2000 1 + _; rw [bef_first, cum_one]; omega)⟩
  case round =>
    obtain ⟨y, k, d, rfl, rfl, hk, hd0, hd1, hy0, hy1, HD⟩ := hrel
    have hm := mlen_pos y ((k : Int) + 1)
    have cD := fun W => days_any y ((k : Int) + 1) W (by omega) (by omega)
    simp only [tcells]
    by_cases hge : mlen y ((k : Int) + 1) ≤ d
    · by_cases hk11 : k = 11
      · have HF : Hid (s / 86400 = bef (y + 1) + cum (y + 1) (((0 : Nat) : Int) + 1) + (d - mlen y ((k : Int) + 1))) := Lib.hid (by
          have h1 := HD.out
          have h2 := cum_next2 y
          subst hk11
          show _ = bef (y + 1) + cum (y + 1) 1 + (d - mlen y (11 + 1))
          rw [cum_one]
          have h3 : s / 86400 = bef y + cum y (11 + 1) + d := h1
          omega)
        have hy3 : y + 1 ≤ 2136 := by
          have h1 := HF.out
          have h2 := bef_ge (y + 1) (by omega)
          have h3 : cum (y + 1) (((0 : Nat) : Int) + 1) = 0 := cum_one _
          omega
        have e13 : ((k : Int) + 1 + 1 == 13) = true := by rw [beq_iff_eq]; omega
        clear hk11
        go_wp2_with (go_at_call 137; refine (cD _).mono ?_; rintro e w1 ⟨rfl, rfl⟩)
        go_roundw
        case rel => exact ⟨y + 1, 0, d - mlen y ((k : Int) + 1), rfl, rfl, by omega, by omega, by omega, by omega, by omega, HF⟩
        case measure => simp [intOf]; omega
      · have e13 : ((k : Int) + 1 + 1 == 13) = false := by rw [beq_eq_false_iff_ne]; omega
        have HF : Hid (s / 86400 = bef y + cum y (((k + 1 : Nat) : Int) + 1) + (d - mlen y ((k : Int) + 1))) := Lib.hid (by
          have h1 := HD.out
          have h2 := cum_next y ((k : Int) + 1) (by omega) (by omega)
          rw [show (((k + 1 : Nat) : Int) + 1) = (k : Int) + 1 + 1 from by omega, h2]
          omega)
        have hk12 : k + 1 < 12 := by omega
        clear hk11
        go_wp2_with (go_at_call 137; refine (cD _).mono ?_; rintro e w1 ⟨rfl, rfl⟩)
        go_roundw
        case rel => exact ⟨y, k + 1, d - mlen y ((k : Int) + 1), by rw [show (((k + 1 : Nat) : Int) + 1) = (k : Int) + 1 + 1 from by omega]; try rfl, rfl, hk12, by omega, by omega, by omega, by omega, HF⟩
        case measure => simp [intOf]; omega
    · have hlt : d < mlen y ((k : Int) + 1) := by omega
      have HF : Hid (IsDate (s / 86400) y ((k : Int) + 1) d) := Lib.hid ⟨by omega, by omega, hd0, hlt, HD.out⟩
      go_wp2_with (go_at_call 137; refine (cD _).mono ?_; rintro e w1 ⟨rfl, rfl⟩)
      exact bodyPost_ret (v := .tuple #[timeV y ((k : Int) + 1) (1 + d) (s % 86400 / 3600) (s % 3600 / 60) (s % 60) ((6 + s / 86400) % 7), .int .i64 0]) (by simp [results, Tryz.results69, go_sem, timeV]) rfl (HO.out _ _ ⟨y, k, d, HF.out, hk, by omega, by omega, by rw [HC.out, Int.add_comm 1 d], ((Below.refl _ _).alloc (Nat.le_refl _) _).alloc (by simp) _⟩)
end Go.Proofs.YtbjbljfmcpidmaaGreatDoor

/- stamp.Of -/
import Derived.Test.YtbjbljfmcpidmaaGreatDoorStamp
import Derived.Deep.LoopGhost
import Derived.Outline
namespace Go.Proofs.YtbjbljfmcpidmaaGreatDoor
open Go.RowKit Go.Lib Go.Shelf
def timeV (y m d h i s wd : Int) : Value := .agg #[.int .i64 y, .int .i64 m, .int .i64 d, .int .i64 h, .int .i64 i, .int .i64 s, .int .i64 wd]
def ODone (s : Int) (w : World) (e : Ending) (w' : World) : Prop :=
  ∃ (y : Int) (k : Nat) (d : Int), IsDate (s / 86400) y ((k : Int) + 1) d ∧ k < 12 ∧ 2000 ≤ y ∧ y ≤ 2137 ∧ e = .returned (.tuple #[timeV y ((k : Int) + 1) (d + 1) (s % 86400 / 3600) (s % 3600 / 60) (s % 60) ((s / 86400 + 6) % 7), .int .i64 0]) ∧ Below w.heap.size w w'
theorem of_bad (s : Int) (w : World) (h : s < 0 ∨ 4294967296 ≤ s) :
    Calls Tryz.prog 66 #[.int .i64 s] w fun e w' => e = .returned (.tuple #[timeV 0 0 0 0 0 0 0, .int .i64 80]) ∧ Below w.heap.size w w' := by
  rcases h with h | h
  · go_enter Tryz.func66, Tryz.ntmps66
    go_wp2
    exact bodyPost_ret (v := .tuple #[timeV 0 0 0 0 0 0 0, .int .i64 80]) (by simp [results, Tryz.results66, go_sem, timeV]) rfl ⟨rfl, (Below.refl _ _).alloc (Nat.le_refl _) _⟩
  · have h' : ¬ s < 0 := by omega
    go_enter Tryz.func66, Tryz.ntmps66
    go_wp2
    exact bodyPost_ret (v := .tuple #[timeV 0 0 0 0 0 0 0, .int .i64 80]) (by simp [results, Tryz.results66, go_sem, timeV]) rfl ⟨rfl, (Below.refl _ _).alloc (Nat.le_refl _) _⟩
def tcells (y m d h i s wd : Int) : Array Value := #[.int .i64 y, .int .i64 m, .int .i64 d, .int .i64 h, .int .i64 i, .int .i64 s, .int .i64 wd]
set_option maxHeartbeats 4000000 in
set_option maxRecDepth 100000 in
theorem of_any (s : Int) (w : World) (h0 : 0 ≤ s) (h1 : s < 4294967296) (hL : LenTab w) : Calls Tryz.prog 66 #[.int .i64 s] w (ODone s w) := by
  have HO : Hid (∀ e w', (∃ (y : Int) (k : Nat) (d : Int), IsDate (s / 86400) y ((k : Int) + 1) d ∧ k < 12 ∧ 2000 ≤ y ∧ y ≤ 2137 ∧ e = .returned (.tuple #[timeV y ((k : Int) + 1) (d + 1) (s % 86400 / 3600) (s % 3600 / 60) (s % 60) ((s / 86400 + 6) % 7), .int .i64 0]) ∧ Below w.heap.size w w') → ODone s w e w') := Lib.hid fun e w' h => h
  have hs1 : ¬ s < 0 := by omega
  have hs2 : ¬ 4294967296 ≤ s := by omega
  have hn0 : 0 ≤ s / 86400 := by omega
  have hn1 : s / 86400 ≤ 49710 := by omega
  have hg := bef_guess (s / 86400) hn0
  have hq0 : 0 ≤ s / 86400 / 366 := by omega
  have hq1 : s / 86400 / 366 ≤ 135 := by omega
  obtain ⟨PD, hPD⟩ : ∃ PD, PD = ODone s w := ⟨_, rfl⟩
  rw [← hPD] at HO ⊢
  clear hPD
  go_enter Tryz.func66, Tryz.ntmps66
  go_wp2
  go_loopg [] 140 (fun gk wr => ∃ y : Int, wr = (w.alloc (.cells (tcells 0 0 0 0 0 0 0) 110)).alloc (.cells (tcells y 0 0 (s % 86400 / 3600) (s % 3600 / 60) (s % 60) ((s / 86400 + 6) % 7)) 110) ∧ 2000 ≤ y ∧ bef y ≤ s / 86400 ∧ 2138 ≤ y + gk)
  case atStart => exact ⟨2000 + s / 86400 / 366, rfl, by omega, hg, by omega⟩
  case round =>
    obtain ⟨y, rfl, hy0, hyn, hyg⟩ := hrel
    have hy1 := bef_ge y hy0
    have hy2 : y ≤ 2137 := by omega
    simp only [tcells]
    by_cases hle : bef (y + 1) ≤ s / 86400
    · have hy3 : y ≤ 2135 := by have := bef_ge (y + 1) (by omega); omega
      obtain ⟨g', rfl⟩ : ∃ g', gk = g' + 1 := ⟨gk - 1, by omega⟩
      go_wp2_with (go_at_call 135; refine (before_any _ _ (by omega) (by omega)).mono ?_; rintro e w1 ⟨rfl, rfl⟩)
      go_roundg g'
      case measure => omega
      case rel => exact ⟨y + 1, rfl, by omega, hle, by omega⟩
    · have hlt : s / 86400 < bef (y + 1) := by omega
      have hbn := bef_next y
      have HB := Lib.hid hbn
      clear hbn
      have hbd : 0 ≤ bef y := by omega
      go_wp2_with (go_at_call 135; refine (before_any _ _ (by omega) (by omega)).mono ?_; rintro e w1 ⟨rfl, rfl⟩)
      have HLT := Lib.hid hlt
      clear hlt
      have hy3 : y ≤ 2136 := by omega
      go_loopg [4] 13 (fun gk t4 wr => ∃ (k : Nat) (d : Int), wr = (w.alloc (.cells (tcells 0 0 0 0 0 0 0) 110)).alloc (.cells (tcells y ((k : Int) + 1) 0 (s % 86400 / 3600) (s % 3600 / 60) (s % 60) ((s / 86400 + 6) % 7)) 110) ∧ t4 = .int .i64 d ∧ k < 12 ∧ 0 ≤ d ∧ d ≤ 400 ∧ Hid (s / 86400 = bef y + cum y ((k : Int) + 1) + d) ∧ 13 ≤ k + gk)
      case atStart => exact ⟨0, s / 86400 - bef y, rfl, rfl, by omega, by omega, by have h1 := HLT.out; have h2 := HB.out; have h3 := cum_pos y; omega, Lib.hid (by show _ = bef y + cum y 1 + _; rw [cum_one]; omega), by omega⟩
      case round =>
        obtain ⟨k, d, rfl, rfl, hk, hd0, hd1, HD, hkg⟩ := hrel
        have hLr : LenTab ((w.alloc (.cells (tcells 0 0 0 0 0 0 0) 110)).alloc (.cells (tcells y ((k : Int) + 1) 0 (s % 86400 / 3600) (s % 3600 / 60) (s % 60) ((s / 86400 + 6) % 7)) 110)) := hL.below (((Below.refl _ _).alloc (Nat.le_refl _) _).alloc (by simp) _)
        have hm := mlen_pos y ((k : Int) + 1)
        have HN := Lib.hid (cum_next y ((k : Int) + 1) (by omega) (by omega))
        simp only [tcells] at hLr ⊢
        by_cases hge : mlen y ((k : Int) + 1) ≤ d
        · have hk11 : k < 11 := by
            rcases Nat.lt_or_ge k 11 with h | h
            · exact h
            · obtain rfl : k = 11 := by omega
              have h1 := HLT.out
              have h2 := HB.out
              have h3 := HD.out
              have h4 := HN.out
              have e : (((11 : Nat) : Int) + 1 + 1) = 13 := by omega
              rw [e] at h4
              omega
          obtain ⟨g', rfl⟩ : ∃ g', gk = g' + 1 := ⟨gk - 1, by omega⟩
          go_wp2_with (go_at_call 136; refine (length_any y k _ (by omega) (by omega) hk hLr).mono ?_; rintro e w1 ⟨rfl, rfl⟩)
          go_roundg g'
          case measure => omega
          case rel => exact ⟨k + 1, d - mlen y ((k : Int) + 1), by rw [show (((k + 1 : Nat) : Int) + 1) = (k : Int) + 1 + 1 from by omega]; rfl, rfl, by omega, by omega, by omega, Lib.hid (by rw [show (((k + 1 : Nat) : Int) + 1) = (k : Int) + 1 + 1 from by omega, HN.out]; have h3 := HD.out; omega), by omega⟩
        · have hlt : d < mlen y ((k : Int) + 1) := by omega
          have HF : Hid (IsDate (s / 86400) y ((k : Int) + 1) d) := Lib.hid ⟨by omega, by omega, hd0, hlt, HD.out⟩
          go_wp2_with (go_at_call 136; refine (length_any y k _ (by omega) (by omega) hk hLr).mono ?_; rintro e w1 ⟨rfl, rfl⟩)
          exact bodyPost_ret (v := .tuple #[timeV y ((k : Int) + 1) (d + 1) (s % 86400 / 3600) (s % 3600 / 60) (s % 60) ((s / 86400 + 6) % 7), .int .i64 0]) (by simp [results, Tryz.results66, go_sem, timeV]) rfl (HO.out _ _ ⟨y, k, d, HF.out, hk, by omega, by omega, rfl, ((Below.refl _ _).alloc (Nat.le_refl _) _).alloc (by simp) _⟩)
end Go.Proofs.YtbjbljfmcpidmaaGreatDoor

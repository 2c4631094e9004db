/- token -/
import Derived.Test.YtbjbljfmcpidmaaGreatDoorReader
namespace Go.Proofs.YtbjbljfmcpidmaaGreatDoor
open Go.RowKit Go.Lib Go.Shelf
theorem special_any (x : UInt8) (w : World) : Calls Tryz.prog 172 #[.string ⟨special.toArray⟩, .int .u8 (x.toNat : Int)] w fun e w' => e = .returned (.int .i64 (Lib.indexByte special x)) ∧ w = w' := by
  refine (Tryz.strings_IndexByte ⟨special.toArray⟩ (x.toNat : Int) w).mono ?_
  rintro e w' ⟨rfl, h⟩
  refine ⟨?_, h.symm⟩
  have : (x.toNat : Int).toNat.toUInt8 = x := by simp
  rw [this]
set_option maxHeartbeats 2000000 in
theorem token_any (B : Nat) (s : List UInt8) (ok : Bool) (w : World) (hR : RD w B s ok) (hl : s.length ≤ 4000000) (hg : GU w B) :
    Calls Tryz.prog 126 #[.pointer (some ⟨B, 0, none⟩)] w (RPost B (.string ⟨(tokS s).toArray⟩) (tokR s) ok w) := by
  have c0 := hR.c0
  have f0 := hR.f0
  have hs : (⟨s.toArray⟩ : ByteArray).size = s.length := by simp [ByteArray.size]
  have HS := Lib.hid hs
  have hle := tokN_le s
  have HT : Hid (tokS s = s.take (tokN s) ∧ tokR s = tb (s.drop (tokN s))) := ⟨rfl, rfl⟩
  have HL := Lib.hid (tokN_lt s)
  have HA := Lib.hid (tokN_at s)
  generalize hK : tokN s = K at *
  clear hs hK
  go_enter Tryz.func126, Tryz.ntmps126
  go_wp2
  go_loop [3] (fun i => ∃ k : Nat, i = .int .i64 k ∧ k ≤ K) (fun i => K - (intOf i).toNat)
  case atStart => exact ⟨0, rfl, Nat.zero_le _⟩
  case round =>
    obtain ⟨k, rfl, hk⟩ := hrel
    by_cases hkK : k < K
    · have hks : k < s.length := by omega
      have hx : ∀ h : k < (⟨s.toArray⟩ : ByteArray).size, (⟨s.toArray⟩ : ByteArray)[k]'h = s[k] := fun h => by
        show s.toArray[k] = _
        simp
      have hk1 : (k : Int) < (s.length : Int) := by omega
      have hb := HL.out k hkK hks
      have hsp := special_ix s[k]
      unfold tokB at hb
      simp only [Bool.and_eq_true, decide_eq_true_eq, Bool.not_eq_true'] at hb
      obtain ⟨⟨h1, h2⟩, h3⟩ := hb
      rw [h3] at hsp
      have h1' : (32 : Int) < (s[k].toNat : Int) := by omega
      have h2' : (s[k].toNat : Int) ≤ 126 := by omega
      go_wp2_with (go_at_call 172; refine (special_any s[k] w).mono ?_; rintro e w2 ⟨rfl, rfl⟩)
      go_round
      case rel => exact ⟨k + 1, by go_num, by omega⟩
      case measure => simp [intOf]; omega
    · obtain rfl : k = K := by omega
      have R1 : ({ data := s.toArray } : ByteArray).extract 0 k = ⟨(s.take k).toArray⟩ := by
        rw [bs_extract]; simp
      have R2 : ({ data := s.toArray } : ByteArray).extract k s.length = ⟨(s.drop k).toArray⟩ := by
        rw [bs_extract]; simp
      by_cases hks : k < s.length
      · have hx : ∀ h : k < (⟨s.toArray⟩ : ByteArray).size, (⟨s.toArray⟩ : ByteArray)[k]'h = s[k] := fun h => by
          show s.toArray[k] = _
          simp
        have hk1 : (k : Int) < (s.length : Int) := by omega
        have hb := HA.out hks
        have hsp := special_ix s[k]
        unfold tokB at hb
        by_cases h1 : 32 < s[k].toNat
        · by_cases h2 : s[k].toNat ≤ 126
          · have h3 : special.contains s[k] = true := by simpa [h1, h2] using hb
            rw [h3] at hsp
            clear hb
            have h1' : (32 : Int) < (s[k].toNat : Int) := by omega
            have h2' : (s[k].toNat : Int) ≤ 126 := by omega
            go_wp2_with (go_at_call 172; refine (special_any s[k] w).mono ?_; rintro e w2 ⟨rfl, rfl⟩)
            refine (blanks_any B (s.drop k) _ _ (hR.set0 _) (by simp; omega) (hg.grown (grown_set _ _ _ _))).mono ?_
            rintro e w3 ⟨rfl, hR3, hg3⟩
            go_wp2
            go_ret
            exact ⟨(congrArg (fun l : List UInt8 => Ending.returned (.string ⟨l.toArray⟩)) HT.out.1).symm, by rw [HT.out.2]; exact hR3, (grown_set _ _ _ _).trans hg3⟩
          · clear hb
            have h1' : (32 : Int) < (s[k].toNat : Int) := by omega
            have h2' : (126 : Int) < (s[k].toNat : Int) := by omega
            go_wp2_with fail
            refine (blanks_any B (s.drop k) _ _ (hR.set0 _) (by simp; omega) (hg.grown (grown_set _ _ _ _))).mono ?_
            rintro e w3 ⟨rfl, hR3, hg3⟩
            go_wp2
            go_ret
            exact ⟨(congrArg (fun l : List UInt8 => Ending.returned (.string ⟨l.toArray⟩)) HT.out.1).symm, by rw [HT.out.2]; exact hR3, (grown_set _ _ _ _).trans hg3⟩
        · clear hb
          have h1' : (s[k].toNat : Int) ≤ 32 := by omega
          go_wp2_with fail
          refine (blanks_any B (s.drop k) _ _ (hR.set0 _) (by simp; omega) (hg.grown (grown_set _ _ _ _))).mono ?_
          rintro e w3 ⟨rfl, hR3, hg3⟩
          go_wp2
          go_ret
          exact ⟨(congrArg (fun l : List UInt8 => Ending.returned (.string ⟨l.toArray⟩)) HT.out.1).symm, by rw [HT.out.2]; exact hR3, (grown_set _ _ _ _).trans hg3⟩
      · have hk1 : (k : Int) = (s.length : Int) := by omega
        go_wp2_with fail
        have hd : s.drop k = [] := List.drop_eq_nil_of_le (by omega)
        have ht : s.take k = s := List.take_of_length_le (by omega)
        rw [hd, ht] at HT
        have hex : ({ data := s.toArray } : ByteArray).extract 0 s.length = ⟨s.toArray⟩ := by rw [bs_extract]; simp
        try rw [hex]
        have he : ByteArray.empty = ⟨([] : List UInt8).toArray⟩ := rfl
        rw [he]
        refine (blanks_any B [] _ _ (hR.set0 _) (by simp) (hg.grown (grown_set _ _ _ _))).mono ?_
        rintro e w3 ⟨rfl, hR3, hg3⟩
        go_wp2
        go_ret
        exact ⟨(congrArg (fun l : List UInt8 => Ending.returned (.string ⟨l.toArray⟩)) HT.out.1).symm, by rw [HT.out.2]; exact hR3, (grown_set _ _ _ _).trans hg3⟩
end Go.Proofs.YtbjbljfmcpidmaaGreatDoor

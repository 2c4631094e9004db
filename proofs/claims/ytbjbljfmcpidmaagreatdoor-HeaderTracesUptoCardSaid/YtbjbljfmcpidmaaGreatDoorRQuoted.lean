/- The reference's quoted. -/
import Derived.Test.YtbjbljfmcpidmaaGreatDoorRToken
namespace Go.Proofs.YtbjbljfmcpidmaaGreatDoor
open Go.RowKit Go.Lib Go.Shelf
def quoS (s : List UInt8) : List UInt8 := match qS (s.drop 1) [] with | some (o, _) => o | none => []
def quoN (s : List UInt8) : Nat := match qS (s.drop 1) [] with | some (_, q) => s.length - q.length | none => 0
set_option maxHeartbeats 2000000 in
theorem quoted_any (s : List UInt8) (w : World) (hl : s.length ≤ 4000000) :
    Calls Tryz.prog 189 #[.string ⟨s.toArray⟩] w fun e w' => e = .returned (.tuple #[.string ⟨(quoS s).toArray⟩, .int .i64 (quoN s : Int)]) ∧ Below w.heap.size w w' := by
  obtain ⟨i0, hi, hz0, hz1, hz2⟩ := info_parts Tryz.Builder_Extra_169.infoByte
  have hs : (⟨s.toArray⟩ : ByteArray).size = s.length := by simp [ByteArray.size]
  have HS := Lib.hid hs
  have HQ0 : Hid (quoS s = (match qS (s.drop 1) [] with | some (o, _) => o | none => []) ∧ quoN s = (match qS (s.drop 1) [] with | some (_, q) => s.length - q.length | none => 0)) := Lib.hid ⟨rfl, rfl⟩
  clear hs
  go_enter Tryz.func189, Tryz.ntmps189
  go_wp2
  go_loopw [4, 5] (fun v i wr => ∃ (k : Nat) (acc : List UInt8), i = .int .i64 k ∧ 1 ≤ k ∧ k ≤ s.length + 1 ∧ acc.length ≤ k ∧ wr.ownsRow w.heap.size 5 1 v acc.length (bcells acc) ∧ Below w.heap.size w wr ∧ Hid (qS (s.drop 1) [] = qS (s.drop k) acc)) (fun v i _ => s.length + 1 - (intOf i).toNat)
  case atStart => exact ⟨1, [], rfl, Nat.le_refl _, by omega, by simp, ⟨rfl, .inr ⟨w.heap.size, 0, #[], rfl, Nat.le_refl _, heap_alloc_new w _, by simp, by decide, by simp, by simp [bcells]⟩⟩, (Below.refl _ _).alloc (Nat.le_refl _) _, Lib.hid rfl⟩
  case round =>
    obtain ⟨k, acc, rfl, hk1, hk2, hacc, hown, hbw, HQ⟩ := hrel
    by_cases hks : k < s.length
    · have hk3 : (k : Int) < (s.length : Int) := by omega
      have hx : ∀ h : k < (⟨s.toArray⟩ : ByteArray).size, (⟨s.toArray⟩ : ByteArray)[k]'h = s[k] := fun h => by
        show s.toArray[k] = _
        simp
      have HD : Hid (s.drop k = s[k] :: s.drop (k + 1)) := Lib.hid (List.drop_eq_getElem_cons hks)
      obtain ⟨x, hxx⟩ : ∃ x, x = s[k] := ⟨_, rfl⟩
      rw [← hxx] at HD
      simp only [← hxx] at hx
      clear hxx
      by_cases h34 : x = 34
      · have b34 : ((x.toNat : Int) == 34) = true := byte_eq (n := 34) (by decide) h34
        have HF : Hid (qS (s.drop 1) [] = some (acc, s.drop (k + 1))) := Lib.hid (by rw [HQ.out, HD.out, h34, qS_q])
        obtain ⟨A, c, rfl, _, _, hrow, _⟩ := owns_open hown
        have hcv := conv_bytes A acc acc.length c wr hrow rfl
        have hcv2 := conv_bytes A acc acc.length c wr.drew (hrow.below (Below.refl _ _).drew) rfl
        clear h34
        go_wp2
        go_ret2
        have hv := HQ0.out
        rw [HF.out] at hv
        have hlen : s.length - (s.drop (k + 1)).length = k + 1 := by simp; omega
        have hn : quoN s = k + 1 := hv.2.trans hlen
        have ho : quoS s = acc := hv.1
        rw [hn, ho]
        exact ⟨rfl, by first | exact hbw | exact hbw.drew⟩
      · have b34 : ((x.toNat : Int) == 34) = false := byte_ne (n := 34) (by decide) h34
        by_cases h92 : x = 92
        · have b92 : ((x.toNat : Int) == 92) = true := byte_eq (n := 92) (by decide) h92
          by_cases hk4 : k + 1 < s.length
          · have hk5 : (k : Int) + 1 < (s.length : Int) := by omega
            have hk6 : ((k : Int) + 1 == (s.length : Int)) = false := by rw [beq_eq_false_iff_ne]; omega
            have hy : ∀ h : k + 1 < (⟨s.toArray⟩ : ByteArray).size, (⟨s.toArray⟩ : ByteArray)[k + 1]'h = s[k + 1] := fun h => by
              show s.toArray[k + 1] = _
              simp
            have HE : Hid (s.drop (k + 1) = s[k + 1] :: s.drop (k + 1 + 1)) := Lib.hid (List.drop_eq_getElem_cons hk4)
            obtain ⟨y, hyy⟩ : ∃ y, y = s[k + 1] := ⟨_, rfl⟩
            rw [← hyy] at HE
            simp only [← hyy] at hy
            clear hyy
            have HF : Hid (qS (s.drop 1) [] = qS (s.drop (k + 1 + 1)) (acc ++ [y])) := Lib.hid (by rw [HQ.out, HD.out, HE.out, h92, qS_y])
            clear h34 h92
            go_wp2_with (at_builtin; refine wpList_append_own _ rfl _ _ 26 rfl w.heap.size 5 i0 (.int .u8 0) 1 1 Tryz.underlying26 hi hz0 hz1 hz2 rfl (by decide) _ _ _ rfl (hown.alloc _) ⟨wr.heap.size, 0, none⟩ 1 1 [.int .u8 (y.toNat : Int)] rfl rfl ?c1 ?c2 ?c3 ?c4 ?c5 ?_)
            case c1 =>
              intro j u hj
              match j, hj with
              | 0, hj => simp at hj; subst hj; simp [Addr.add]
            case c2 => intro u hu; simp at hu; subst hu; rfl
            case c3 => unfold maxLen; omega
            case c4 => omega
            case c5 => have := hbw.size; simp; omega
            intro v5 w5 hown5 hg5 _
            have hbw5 : Below w.heap.size w w5 := (hbw.alloc hbw.size _).grown hg5 (by have := hbw.size; simp; omega) (fun k hk => (hown.lt k hk).1)
            go_wp2
            go_roundw
            case rel => exact ⟨k + 1 + 1, acc ++ [y], by go_num, by omega, by omega, by simp; omega, by simpa [bcells, cell8] using hown5, hbw5, HF⟩
            case measure => simp [intOf]; omega
          · have hk5 : ((k : Int) + 1 == (s.length : Int)) = true := by rw [beq_iff_eq]; omega
            have HE : Hid (s.drop (k + 1) = []) := Lib.hid (List.drop_eq_nil_of_le (by omega))
            have HF : Hid (qS (s.drop 1) [] = none) := Lib.hid (by rw [HQ.out, HD.out, HE.out, h92, qS_e])
            clear h34 h92
            go_wp2
            go_ret2
            have hv := HQ0.out
            rw [HF.out] at hv
            exact ⟨by rw [hv.1, hv.2]; rfl, hbw⟩
        · have b92 : ((x.toNat : Int) == 92) = false := byte_ne (n := 92) (by decide) h92
          have HF : Hid (qS (s.drop 1) [] = qS (s.drop (k + 1)) (acc ++ [x])) := Lib.hid (by rw [HQ.out, HD.out, qS_o x _ _ h34 h92])
          clear h34 h92
          go_wp2_with (at_builtin; refine wpList_append_own _ rfl _ _ 26 rfl w.heap.size 5 i0 (.int .u8 0) 1 1 Tryz.underlying26 hi hz0 hz1 hz2 rfl (by decide) _ _ _ rfl (hown.alloc _) ⟨wr.heap.size, 0, none⟩ 1 1 [.int .u8 (x.toNat : Int)] rfl rfl ?c1 ?c2 ?c3 ?c4 ?c5 ?_)
          case c1 =>
            intro j u hj
            match j, hj with
            | 0, hj => simp at hj; subst hj; simp [Addr.add]
          case c2 => intro u hu; simp at hu; subst hu; rfl
          case c3 => unfold maxLen; omega
          case c4 => omega
          case c5 => have := hbw.size; simp; omega
          intro v5 w5 hown5 hg5 _
          have hbw5 : Below w.heap.size w w5 := (hbw.alloc hbw.size _).grown hg5 (by have := hbw.size; simp; omega) (fun k hk => (hown.lt k hk).1)
          go_wp2
          go_roundw
          case rel => exact ⟨k + 1, acc ++ [x], by go_num, by omega, by omega, by simp; omega, by simpa [bcells, cell8] using hown5, hbw5, HF⟩
          case measure => simp [intOf]; omega
    · have hk3 : ¬ ((k : Int) < (s.length : Int)) := by omega
      have HF : Hid (qS (s.drop 1) [] = none) := Lib.hid (by rw [HQ.out, List.drop_eq_nil_of_le (by omega)]; rfl)
      go_wp2
      go_ret2
      have hv := HQ0.out
      rw [HF.out] at hv
      exact ⟨by rw [hv.1, hv.2]; rfl, hbw⟩
end Go.Proofs.YtbjbljfmcpidmaaGreatDoor

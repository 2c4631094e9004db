/- cutRight of blanks. -/
import Derived.Test.YtbjbljfmcpidmaaGreatDoorCutL
import Derived.Lib.TrimAscii
namespace Go.Proofs.YtbjbljfmcpidmaaGreatDoor
open Go.RowKit Go.Lib Go.Shelf

theorem last_bl (m : List UInt8) (y : UInt8) : (inAt (Lib.decodeLastL (m ++ [y])).1 2 = isBl y) ∧ (isBl y = true → (Lib.decodeLastL (m ++ [y])).2 = 1) := by
  by_cases ha : y.toNat < 128
  · rw [decodeLastL_ascii m y ha]
    refine ⟨?_, fun _ => rfl⟩
    unfold inAt isBl
    by_cases h1 : y = 32
    · rw [h1]; decide
    · by_cases h2 : y = 9
      · rw [h2]; decide
      · have e1 : ¬ y.toNat = 32 := fun e => h1 (UInt8.toNat_inj.1 e)
        have e2 : ¬ y.toNat = 9 := fun e => h2 (UInt8.toNat_inj.1 e)
        simp [h1, h2, e1, e2]
  · have hb : isBl y = false := by
      unfold isBl
      rw [Bool.or_eq_false_iff, beq_eq_false_iff_ne, beq_eq_false_iff_ne]
      exact ⟨fun e => ha (by rw [e]; decide), fun e => ha (by rw [e]; decide)⟩
    rw [hb]
    refine ⟨?_, fun h => by cases h⟩
    have hge : 128 ≤ (Lib.decodeLastL (m ++ [y])).1 := by
      unfold Lib.decodeLastL
      have e1 : (m ++ [y]).getD ((m ++ [y]).length - 1) 0 = y := by simp
      rw [if_neg (by simp), e1, if_neg ha]
      dsimp only
      split
      · rename_i hst
        have hlt : Lib.lastStart (m ++ [y]) < (m ++ [y]).length := by
          unfold Lib.lastStart
          simp only [List.length_append, List.length_singleton]
          repeat' split
          all_goals omega
        have hL : ∀ (L : List UInt8), 0 < L.length → (L.headD 0).toNat < 128 → Lib.decodeL L = ((L.headD 0).toNat, 1) := fun L h0 h1 => by
          cases L with
          | nil => simp at h0
          | cons a t => exact decode_ascii (⟨(a :: t).toArray⟩ : ByteArray) 0 (by simp [ByteArray.size]) h1
        have hH : ∀ (L : List UInt8), 0 < L.length → 128 ≤ (L.headD 0).toNat → 128 ≤ (Lib.decodeL L).1 := fun L h0 h1 => by
          cases L with
          | nil => simp at h0
          | cons a t => exact (decode_high (⟨(a :: t).toArray⟩ : ByteArray) 0 (by simp [ByteArray.size]) h1).1
        have hdl : 0 < ((m ++ [y]).drop (Lib.lastStart (m ++ [y]))).length := by rw [List.length_drop]; omega
        by_cases hc : ((((m ++ [y]).drop (Lib.lastStart (m ++ [y]))).headD 0).toNat) < 128
        · rw [hL _ hdl hc] at hst
          exfalso
          have e2 : Lib.lastStart (m ++ [y]) = m.length := by simp at hst; omega
          rw [e2] at hc
          simp at hc
          omega
        · exact hH _ hdl (by omega)
      · decide
    unfold inAt
    have e1 : ¬ (Lib.decodeLastL (m ++ [y])).1 = 32 := by omega
    have e2 : ¬ (Lib.decodeLastL (m ++ [y])).1 = 9 := by omega
    simp [e1, e2]

def rtrim (l : List UInt8) : List UInt8 := (l.reverse.dropWhile isBl).reverse
theorem rtrim_keep (m : List UInt8) (y : UInt8) (h : isBl y = false) : rtrim (m ++ [y]) = m ++ [y] := by
  unfold rtrim
  simp [h]
theorem rtrim_cut (m : List UInt8) (y : UInt8) (h : isBl y = true) : rtrim (m ++ [y]) = rtrim m := by
  unfold rtrim
  simp [h]

set_option maxHeartbeats 1000000 in
set_option maxRecDepth 100000 in
theorem cutRight_any (l : List UInt8) (w : World) (hl : l.length ≤ 4000000) (hg : Gl w) :
    Calls Tryz.prog 173 #[.string ⟨l.toArray⟩, .string ⟨#[32, 9]⟩] w fun e w' => e = .returned (.string ⟨(rtrim l).toArray⟩) ∧ Below w.heap.size w w' := by
  go_enter Tryz.func173, Tryz.ntmps173
  go_wp2
  go_loopg [0] (l.length + 1) (fun gf v wx => ∃ M : List UInt8, v = .string ⟨M.toArray⟩ ∧ Below w.heap.size w wx ∧ Hid (rtrim l = rtrim M) ∧ M.length ≤ l.length ∧ M.length < gf)
  case atStart => exact ⟨l, rfl, Below.refl _ _, Lib.hid rfl, by omega, by omega⟩
  case round =>
    obtain ⟨M, rfl, hbw, HD, hMl, hfu⟩ := hrel
    obtain ⟨g', rfl⟩ : ∃ g', gk = g' + 1 := ⟨gk - 1, by omega⟩
    have cD := fun (h : Gl wr) => Tryz.utf8_DecodeLastRuneInString ⟨M.toArray⟩ wr (by simp [ByteArray.size]; omega) h.2
    have cD := cD (hg.below hbw)
    obtain rfl | ⟨m', y, hM⟩ : M = [] ∨ ∃ m' y, M = m' ++ [y] := by
      rcases List.eq_nil_or_concat M with h | ⟨a, b, h⟩
      · exact .inl h
      · exact .inr ⟨a, b, by rw [h]; simp⟩
    · go_wp2
      go_ret
      rw [HD.out]
      exact ⟨rfl, hbw⟩
    · have hlb := last_bl m' y
      rw [← hM] at hlb
      have hM1 : M.length = m'.length + 1 := by rw [hM]; simp
      have hM0 : 0 < (M.length : Int) := by omega
      have cD : Calls Tryz.prog 171 #[.string ⟨M.toArray⟩] wr fun e w' => e = .returned (.tuple #[.int .i32 ((Lib.decodeLastL M).1 : Int), .int .i64 ((Lib.decodeLastL M).2 : Int)]) ∧ Below wr.heap.size wr w' := cD
      obtain ⟨R, hR⟩ : ∃ R, (Lib.decodeLastL M).1 = R := ⟨_, rfl⟩
      obtain ⟨K, hK⟩ : ∃ K, (Lib.decodeLastL M).2 = K := ⟨_, rfl⟩
      rw [hR, hK] at cD hlb
      have HMM := Lib.hid hM
      have HM1 := Lib.hid hM1
      clear hR hK hM hM1
      go_wp2_with (go_at_call 171; refine cD.mono ?_; rintro e W ⟨rfl, hbW⟩)
      have hbW2 := hbw.trans (hbW.mono hbw.size)
      go_loopg [7] 2 (fun gf v wx => ∃ p : Nat, wx.heap[W.heap.size]? = some (.stringIter ⟨#[32, 9]⟩ p) ∧ Below W.heap.size W wx ∧ p + gf = 2 ∧ v = .bool (inAt R p))
      case atStart => exact ⟨0, World.iter_heap W _ 0, (Below.refl _ W).alloc (Nat.le_refl _) _, rfl, by simp [inAt]⟩
      case round =>
        obtain ⟨p, hit3, hb3, hp, rfl⟩ := hrel
        by_cases hp2 : p < 2
        · obtain ⟨g2, rfl⟩ : ∃ g2, gk = g2 + 1 := ⟨gk - 1, by omega⟩
          have hnx2 : ∀ ty, (Instr.next (.pointer (some ⟨W.heap.size, 0, none⟩)) true ty).run Tryz.prog wr = _ := fun ty => Lib.run_next_any_at wr W.heap.size ⟨#[32, 9]⟩ p ty hit3 hp2
          rw [dec_bl p hp2] at hnx2
          dsimp only at hnx2
          have hit4 := Lib.iterAt_heap wr W.heap.size ⟨#[32, 9]⟩ p (p + 1) hit3
          have hbw4 := Lib.below_iterAt hb3 (k := W.heap.size) (Nat.le_refl _) ⟨#[32, 9]⟩ (p + 1)
          obtain ⟨W2, hWd2⟩ : ∃ W2, wr.iterAt W.heap.size ⟨#[32, 9]⟩ (p + 1) = W2 := ⟨_, rfl⟩
          rw [hWd2] at hnx2 hit4 hbw4
          clear hWd2
          obtain rfl | rfl : p = 0 ∨ p = 1 := by omega
          · simp only [if_true] at hnx2
            have e0 : inAt R 0 = false := by simp [inAt]
            have e1 : inAt R 1 = ((R : Int) == 32) := by
              rw [Bool.eq_iff_iff]
              simp [inAt]
              omega
            have E1 := Lib.hid e1
            rw [e0]
            clear e0 e1
            cases hR32 : ((R : Int) == 32)
            all_goals
              go_wp2
              go_roundg g2
              case measure => omega
              case rel => exact ⟨1, hit4, hbw4, by omega, by rw [E1.out, hR32]⟩
          · simp only [Nat.one_ne_zero, if_false] at hnx2
            have e1 : inAt R 1 = ((R : Int) == 32) := by
              rw [Bool.eq_iff_iff]
              simp [inAt]
              omega
            have e2 : inAt R 2 = (((R : Int) == 32) || ((R : Int) == 9)) := by
              rw [Bool.eq_iff_iff]
              simp [inAt]
              omega
            have E2 := Lib.hid e2
            rw [e1]
            clear e1 e2
            cases hR32 : ((R : Int) == 32) <;> cases hR9 : ((R : Int) == 9)
            all_goals
              go_wp2
              go_roundg g2
              case measure => omega
              case rel => exact ⟨2, hit4, hbw4, by omega, by rw [E2.out, hR32, hR9]; rfl⟩
        · obtain rfl : p = 2 := by omega
          have hnx2 : ∀ ty, (Instr.next (.pointer (some ⟨W.heap.size, 0, none⟩)) true ty).run Tryz.prog wr = _ := fun ty => Lib.run_next_end_at wr W.heap.size ⟨#[32, 9]⟩ 2 ty hit3 hp2
          rw [hlb.1]
          have hb5 : Below w.heap.size w wr := hbW2.trans (hb3.mono hbW2.size)
          have HRB := Lib.hid hlb.2
          clear hlb
          cases hbl : isBl y
          · have H2 : Hid (rtrim l = M) := by
              have h := HD.out
              rw [HMM.out, rtrim_keep m' y hbl, ← HMM.out] at h
              exact h
            clear HD HRB
            go_wp2
            go_ret
            rw [H2.out]
            exact ⟨rfl, hb5⟩
          · have hK1 := HRB.out hbl
            subst hK1
            have H2 : Hid (rtrim l = rtrim m') := by
              have h := HD.out
              rw [HMM.out, rtrim_cut m' y hbl] at h
              exact h
            have hM1 : 1 ≤ (M.length : Int) := by omega
            clear HD HRB
            go_wp2
            go_roundg g'
            case measure => omega
            case rel =>
              have h1 := HM1.out
              refine ⟨m', ?_, hb5, H2, by omega, by omega⟩
              rw [bs_extract]
              first
                | (rw [HMM.out]; simp)
                | skip
end Go.Proofs.YtbjbljfmcpidmaaGreatDoor

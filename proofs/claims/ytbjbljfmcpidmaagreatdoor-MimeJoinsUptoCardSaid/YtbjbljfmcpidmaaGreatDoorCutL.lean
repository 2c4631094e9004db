/- cutLeft of blanks. -/
import Derived.Test.YtbjbljfmcpidmaaGreatDoorGet
namespace Go.Proofs.YtbjbljfmcpidmaaGreatDoor
open Go.RowKit Go.Lib Go.Shelf

def inAt (R pos : Nat) : Bool := (decide (R = 32) && decide (1 ≤ pos)) || (decide (R = 9) && decide (2 ≤ pos))
theorem dec_bl (pos : Nat) (h : pos < 2) : (Utf8.decode ⟨#[32, 9]⟩ pos) = ((if pos = 0 then 32 else 9), 1) := by
  obtain rfl | rfl : pos = 0 ∨ pos = 1 := by omega
  · decide
  · decide
theorem rune_bl (l : List UInt8) (pos : Nat) (h : pos < l.length) : (inAt (Utf8.decode ⟨l.toArray⟩ pos).1 2 = isBl l[pos]) ∧ (isBl l[pos] = true → (Utf8.decode ⟨l.toArray⟩ pos).2 = 1) := by
  have hs : (⟨l.toArray⟩ : ByteArray).size = l.length := by simp [ByteArray.size]
  have hg : (⟨l.toArray⟩ : ByteArray)[pos]'(by rw [hs]; exact h) = l[pos] := by
    show l.toArray[pos] = _
    simp
  by_cases ha : (l[pos]).toNat < 128
  · rw [decode_ascii _ pos (by rw [hs]; exact h) (by rw [hg]; exact ha), hg]
    refine ⟨?_, fun _ => rfl⟩
    unfold inAt isBl
    by_cases h1 : l[pos] = 32
    · rw [h1]; decide
    · by_cases h2 : l[pos] = 9
      · rw [h2]; decide
      · have e1 : ¬ (l[pos]).toNat = 32 := fun e => h1 (UInt8.toNat_inj.1 e)
        have e2 : ¬ (l[pos]).toNat = 9 := fun e => h2 (UInt8.toNat_inj.1 e)
        simp [h1, h2, e1, e2]
  · have hd := (decode_high (⟨l.toArray⟩ : ByteArray) pos (by rw [hs]; exact h) (by rw [hg]; omega)).1
    have hb : isBl l[pos] = false := by
      unfold isBl
      rw [Bool.or_eq_false_iff, beq_eq_false_iff_ne, beq_eq_false_iff_ne]
      exact ⟨fun e => ha (by rw [e]; decide), fun e => ha (by rw [e]; decide)⟩
    rw [hb]
    refine ⟨?_, fun h => by cases h⟩
    unfold inAt
    have e1 : ¬ (Utf8.decode ⟨l.toArray⟩ pos).1 = 32 := by omega
    have e2 : ¬ (Utf8.decode ⟨l.toArray⟩ pos).1 = 9 := by omega
    simp [e1, e2]

set_option maxHeartbeats 1000000 in
set_option maxRecDepth 100000 in
theorem cutLeft_any (l : List UInt8) (w : World) (hl : l.length ≤ 4000000) :
    Calls Tryz.prog 174 #[.string ⟨l.toArray⟩, .string ⟨#[32, 9]⟩] w fun e w' => e = .returned (.string ⟨(l.dropWhile isBl).toArray⟩) ∧ Below w.heap.size w w' := by
  have hs : (⟨l.toArray⟩ : ByteArray).size = l.length := by simp [ByteArray.size]
  have HSZ := Lib.hid hs
  clear hs
  go_enter Tryz.func174, Tryz.ntmps174
  go_wp2
  go_loopg [] (l.length) (fun gf wx => ∃ pos : Nat, wx.heap[w.heap.size]? = some (.stringIter ⟨l.toArray⟩ pos) ∧ Below w.heap.size w wx ∧ Hid (l.dropWhile isBl = (l.drop pos).dropWhile isBl) ∧ pos ≤ l.length ∧ l.length ≤ pos + gf)
  case atStart => exact ⟨0, World.iter_heap w _ 0, (Below.refl _ w).alloc (Nat.le_refl _) _, Lib.hid (by simp), by omega, by omega⟩
  case round =>
    obtain ⟨pos, hit, hbw, HD, hpl, hfu⟩ := hrel
    have hwsz := hbw.size
    by_cases hps : pos < l.length
    · obtain ⟨g', rfl⟩ : ∃ g', gk = g' + 1 := ⟨gk - 1, by omega⟩
      have hnx : ∀ ty, (Instr.next (.pointer (some ⟨w.heap.size, 0, none⟩)) true ty).run Tryz.prog wr = _ := fun ty => Lib.run_next_any_at wr w.heap.size ⟨l.toArray⟩ pos ty hit (by rw [HSZ.out]; exact hps)
      have hrb := rune_bl l pos hps
      obtain ⟨R, hR⟩ : ∃ R, (Utf8.decode ⟨l.toArray⟩ pos).1 = R := ⟨_, rfl⟩
      obtain ⟨K, hK⟩ : ∃ K, (Utf8.decode ⟨l.toArray⟩ pos).2 = K := ⟨_, rfl⟩
      rw [hR, hK] at hnx hrb
      clear hR hK
      have hit2 := Lib.iterAt_heap wr w.heap.size ⟨l.toArray⟩ pos (pos + K) hit
      have hbw2 := Lib.below_iterAt hbw (k := w.heap.size) (Nat.le_refl _) ⟨l.toArray⟩ (pos + K)
      obtain ⟨W, hWd⟩ : ∃ W, wr.iterAt w.heap.size ⟨l.toArray⟩ (pos + K) = W := ⟨_, rfl⟩
      rw [hWd] at hnx hit2 hbw2
      clear hWd
      have hWs : w.heap.size < W.heap.size := by
        rcases Nat.lt_or_ge w.heap.size W.heap.size with h | h
        · exact h
        · simp [Array.getElem?_eq_none h] at hit2
      go_wp2
      go_loopg [7] 2 (fun gf v wx => ∃ p : Nat, wx.heap[W.heap.size]? = some (.stringIter ⟨#[32, 9]⟩ p) ∧ Below W.heap.size W wx ∧ p + gf = 2 ∧ v = .bool (inAt R p))
      case atStart => exact ⟨0, World.iter_heap W _ 0, (Below.refl _ W).alloc (Nat.le_refl _) _, rfl, by simp [inAt]⟩
      case round =>
        obtain ⟨p, hit3, hb3, hp, rfl⟩ := hrel
        by_cases hp2 : p < 2
        · obtain ⟨g2, rfl⟩ : ∃ g2, gk = g2 + 1 := ⟨gk - 1, by omega⟩
          have hnx2 : ∀ ty, (Instr.next (.pointer (some ⟨W.heap.size, 0, none⟩)) true ty).run Tryz.prog wr = _ := fun ty => Lib.run_next_any_at wr W.heap.size ⟨#[32, 9]⟩ p ty hit3 hp2
          rw [dec_bl p hp2] at hnx2
          dsimp only at hnx2
          have hit4 := Lib.iterAt_heap wr W.heap.size ⟨#[32, 9]⟩ p (p + 1) hit3
          have hbw4 := Lib.below_iterAt hb3 (k := W.heap.size) (Nat.le_refl _) ⟨#[32, 9]⟩ (p + 1)
          obtain ⟨W2, hWd2⟩ : ∃ W2, wr.iterAt W.heap.size ⟨#[32, 9]⟩ (p + 1) = W2 := ⟨_, rfl⟩
          rw [hWd2] at hnx2 hit4 hbw4
          clear hWd2 hnx hit hit2
          obtain rfl | rfl : p = 0 ∨ p = 1 := by omega
          · simp only [if_true] at hnx2
            have e0 : inAt R 0 = false := by simp [inAt]
            have e1 : inAt R 1 = ((R : Int) == 32) := by
              rw [Bool.eq_iff_iff]
              simp [inAt]
              omega
            have E1 := Lib.hid e1
            rw [e0]
            clear e0 e1
            cases hR32 : ((R : Int) == 32)
            all_goals
              go_wp2
              go_roundg g2
              case measure => omega
              case rel => exact ⟨1, hit4, hbw4, by omega, by rw [E1.out, hR32]⟩
          · simp only [Nat.one_ne_zero, if_false] at hnx2
            have e1 : inAt R 1 = ((R : Int) == 32) := by
              rw [Bool.eq_iff_iff]
              simp [inAt]
              omega
            have e2 : inAt R 2 = (((R : Int) == 32) || ((R : Int) == 9)) := by
              rw [Bool.eq_iff_iff]
              simp [inAt]
              omega
            have E2 := Lib.hid e2
            rw [e1]
            clear e1 e2
            cases hR32 : ((R : Int) == 32) <;> cases hR9 : ((R : Int) == 9)
            all_goals
              go_wp2
              go_roundg g2
              case measure => omega
              case rel => exact ⟨2, hit4, hbw4, by omega, by rw [E2.out, hR32, hR9]; rfl⟩
        · obtain rfl : p = 2 := by omega
          have hnx2 : ∀ ty, (Instr.next (.pointer (some ⟨W.heap.size, 0, none⟩)) true ty).run Tryz.prog wr = _ := fun ty => Lib.run_next_end_at wr W.heap.size ⟨#[32, 9]⟩ 2 ty hit3 hp2
          rw [hrb.1]
          have hit5 : wr.heap[w.heap.size]? = some (.stringIter ⟨l.toArray⟩ (pos + K)) := by rw [hb3.block _ hWs]; exact hit2
          have hb5 : Below w.heap.size w wr := hbw2.trans (hb3.mono (by omega))
          have HRB := Lib.hid hrb.2
          have hdr := List.drop_eq_getElem_cons hps
          have HDR := Lib.hid hdr
          have HSZ2 := HSZ.out
          clear hrb hnx hit hit2 hdr
          cases hbl : isBl l[pos]
          · have H2 : Hid (l.dropWhile isBl = l.drop pos) := by
              have h := HD.out
              rw [HDR.out, List.dropWhile_cons_of_neg (by rw [hbl]; simp), ← HDR.out] at h
              exact h
            clear HD HDR HRB
            go_wp2
            go_ret
            refine ⟨?_, hb5⟩
            rw [H2.out]
            first
              | rfl
              | (rw [← HSZ.out, bs_extract]; simp [ByteArray.size])
          · have hK1 := HRB.out hbl
            subst hK1
            have H2 : Hid (l.dropWhile isBl = (l.drop (pos + 1)).dropWhile isBl) := by
              have h := HD.out
              rw [HDR.out, List.dropWhile_cons_of_pos hbl] at h
              exact h
            clear HD HDR HRB
            go_wp2
            go_roundg g'
            case measure => omega
            case rel => exact ⟨pos + 1, hit5, hb5, H2, by omega, by omega⟩
    · obtain rfl : pos = l.length := by omega
      have hnx : ∀ ty, (Instr.next (.pointer (some ⟨w.heap.size, 0, none⟩)) true ty).run Tryz.prog wr = _ := fun ty => Lib.run_next_end_at wr w.heap.size ⟨l.toArray⟩ l.length ty hit (by rw [HSZ.out]; exact hps)
      go_wp2
      go_ret
      have h := HD.out
      rw [List.drop_length] at h
      rw [h]
      exact ⟨rfl, hbw⟩
end Go.Proofs.YtbjbljfmcpidmaaGreatDoor

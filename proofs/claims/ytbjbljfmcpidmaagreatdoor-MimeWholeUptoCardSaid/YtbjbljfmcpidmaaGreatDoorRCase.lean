/- The reference's small and great letters. -/
import Derived.Test.YtbjbljfmcpidmaaGreatDoorCase
namespace Go.Proofs.YtbjbljfmcpidmaaGreatDoor
open Go.RowKit Go.Lib Go.Shelf

set_option maxHeartbeats 1000000 in
theorem rsmall_any (l : List UInt8) (w : World) (hl : l.length ≤ 4000000) :
    Calls Tryz.prog 146 #[.string ⟨l.toArray⟩] w fun e w' => e = .returned (.string ⟨(l.map smallB).toArray⟩) ∧ Below w.heap.size w w' := by
  obtain ⟨cap, w1, hconv, hb1, hrow1, hcap, hsz1⟩ := str_bytes l w
  have hsz2 : w.heap.size < w1.heap.size := by omega
  clear hsz1
  obtain ⟨G, hG⟩ : ∃ G, w.heap.size = G := ⟨_, rfl⟩
  have hGle : w.heap.size ≤ G := by omega
  rw [hG] at hconv hrow1 hsz2
  clear hG
  go_enter Tryz.func146, Tryz.ntmps146
  go_wp2
  go_loopw [4] (fun i wr => ∃ k : Nat, i = .int .i64 k ∧ k ≤ l.length ∧ BRow wr G ((l.take k).map smallB ++ l.drop k) ∧ Below w.heap.size w wr) (fun i _ => l.length - (intOf i).toNat)
  case atStart => exact ⟨0, rfl, Nat.zero_le _, hrow1, hb1⟩
  case round =>
    obtain ⟨k, rfl, hk, hrow, hbw⟩ := hrel
    by_cases hlt : k < l.length
    · have hlt2 : (k : Int) < (l.length : Int) := by omega
      have hc := hrow.cell k (by simp; omega)
      have hf := hrow.frozen k (by simp; omega)
      have hst := hrow.stored k (smallB l[k])
      rw [half_at smallB l k hlt] at hc
      rw [half_next smallB l k hlt] at hst
      obtain ⟨x, hx⟩ : ∃ x, l[k] = x := ⟨_, rfl⟩
      rw [hx] at hc hst
      have hx2 := x.toNat_lt
      have HX := Lib.hid hx
      clear hx
      by_cases h1 : 65 ≤ x.toNat
      · have z1 : 65 ≤ (x.toNat : Int) := by omega
        by_cases h2 : x.toNat < 65 + 26
        · have z2 : (x.toNat : Int) ≤ 90 := by omega
          have e1 : smallB x = UInt8.ofNat (x.toNat - 65 + 97) := by
            unfold smallB
            rw [if_pos ⟨h1, h2⟩]
          have e2 : ((smallB x).toNat : Int) = (x.toNat : Int) + 32 := by
            rw [e1, UInt8.toNat_ofNat']
            omega
          rw [e2] at hst
          have HE := Lib.hid e1
          clear e1 e2
          go_wp2
          go_roundw
          case rel => exact ⟨k + 1, by go_num, by omega, by first | exact hst | (rw [← half_next smallB l k hlt]; exact hst), hbw.setCell hGle _⟩
          case measure => simp [intOf]; omega
        · have z2 : ¬ (x.toNat : Int) ≤ 90 := by omega
          have e1 : smallB x = x := by
            unfold smallB
            rw [if_neg (by omega)]
          have HE := Lib.hid e1
          clear e1
          go_wp2
          go_roundw
          case rel => exact ⟨k + 1, by go_num, by omega, by rw [half_same smallB l k hlt (by rw [HX.out]; exact HE.out)]; exact hrow, hbw⟩
          case measure => simp [intOf]; omega
      · have z1 : ¬ 65 ≤ (x.toNat : Int) := by omega
        have e1 : smallB x = x := by
          unfold smallB
          rw [if_neg (by omega)]
        have HE := Lib.hid e1
        clear e1
        go_wp2
        go_roundw
        case rel => exact ⟨k + 1, by go_num, by omega, by rw [half_same smallB l k hlt (by rw [HX.out]; exact HE.out)]; exact hrow, hbw⟩
        case measure => simp [intOf]; omega
    · obtain rfl : k = l.length := by omega
      rw [half_full] at hrow
      have hcv := conv_bytes (some ⟨G, 0, none⟩) (l.map smallB) l.length cap wr hrow.rowIn (by simp)
      go_wp2
      go_ret
      exact ⟨rfl, hbw⟩

set_option maxHeartbeats 1000000 in
theorem rgreat_any (l : List UInt8) (w : World) (hl : l.length ≤ 4000000) :
    Calls Tryz.prog 80 #[.string ⟨l.toArray⟩] w fun e w' => e = .returned (.string ⟨(l.map greatB).toArray⟩) ∧ Below w.heap.size w w' := by
  obtain ⟨cap, w1, hconv, hb1, hrow1, hcap, hsz1⟩ := str_bytes l w
  have hsz2 : w.heap.size < w1.heap.size := by omega
  clear hsz1
  obtain ⟨G, hG⟩ : ∃ G, w.heap.size = G := ⟨_, rfl⟩
  have hGle : w.heap.size ≤ G := by omega
  rw [hG] at hconv hrow1 hsz2
  clear hG
  go_enter Tryz.func80, Tryz.ntmps80
  go_wp2
  go_loopw [4] (fun i wr => ∃ k : Nat, i = .int .i64 k ∧ k ≤ l.length ∧ BRow wr G ((l.take k).map greatB ++ l.drop k) ∧ Below w.heap.size w wr) (fun i _ => l.length - (intOf i).toNat)
  case atStart => exact ⟨0, rfl, Nat.zero_le _, hrow1, hb1⟩
  case round =>
    obtain ⟨k, rfl, hk, hrow, hbw⟩ := hrel
    by_cases hlt : k < l.length
    · have hlt2 : (k : Int) < (l.length : Int) := by omega
      have hc := hrow.cell k (by simp; omega)
      have hf := hrow.frozen k (by simp; omega)
      have hst := hrow.stored k (greatB l[k])
      rw [half_at greatB l k hlt] at hc
      rw [half_next greatB l k hlt] at hst
      obtain ⟨x, hx⟩ : ∃ x, l[k] = x := ⟨_, rfl⟩
      rw [hx] at hc hst
      have hx2 := x.toNat_lt
      have HX := Lib.hid hx
      clear hx
      by_cases h1 : 97 ≤ x.toNat
      · have z1 : 97 ≤ (x.toNat : Int) := by omega
        by_cases h2 : x.toNat < 97 + 26
        · have z2 : (x.toNat : Int) ≤ 122 := by omega
          have e1 : greatB x = UInt8.ofNat (x.toNat - 97 + 65) := by
            unfold greatB
            rw [if_pos ⟨h1, h2⟩]
          have e2 : ((greatB x).toNat : Int) = (x.toNat : Int) - 32 := by
            rw [e1, UInt8.toNat_ofNat']
            omega
          rw [e2] at hst
          have HE := Lib.hid e1
          clear e1 e2
          go_wp2
          go_roundw
          case rel => exact ⟨k + 1, by go_num, by omega, by first | exact hst | (rw [← half_next greatB l k hlt]; exact hst), hbw.setCell hGle _⟩
          case measure => simp [intOf]; omega
        · have z2 : ¬ (x.toNat : Int) ≤ 122 := by omega
          have e1 : greatB x = x := by
            unfold greatB
            rw [if_neg (by omega)]
          have HE := Lib.hid e1
          clear e1
          go_wp2
          go_roundw
          case rel => exact ⟨k + 1, by go_num, by omega, by rw [half_same greatB l k hlt (by rw [HX.out]; exact HE.out)]; exact hrow, hbw⟩
          case measure => simp [intOf]; omega
      · have z1 : ¬ 97 ≤ (x.toNat : Int) := by omega
        have e1 : greatB x = x := by
          unfold greatB
          rw [if_neg (by omega)]
        have HE := Lib.hid e1
        clear e1
        go_wp2
        go_roundw
        case rel => exact ⟨k + 1, by go_num, by omega, by rw [half_same greatB l k hlt (by rw [HX.out]; exact HE.out)]; exact hrow, hbw⟩
        case measure => simp [intOf]; omega
    · obtain rfl : k = l.length := by omega
      rw [half_full] at hrow
      have hcv := conv_bytes (some ⟨G, 0, none⟩) (l.map greatB) l.length cap wr hrow.rowIn (by simp)
      go_wp2
      go_ret
      exact ⟨rfl, hbw⟩
end Go.Proofs.YtbjbljfmcpidmaaGreatDoor

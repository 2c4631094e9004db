/- Get. -/
import Derived.Test.YtbjbljfmcpidmaaGreatDoorRCase
namespace Go.Proofs.YtbjbljfmcpidmaaGreatDoor
open Go.RowKit Go.Lib Go.Shelf

def same (a b : List UInt8) : Bool := a.map smallB == b.map smallB
def getF (L : List Fld) (nm : List UInt8) : List UInt8 × Bool :=
  match L.find? (fun f => same f.1 nm) with
  | some f => (f.2, true)
  | none => ([], false)
theorem getF_cons (f : Fld) (L : List Fld) (nm : List UInt8) : getF (f :: L) nm = if same f.1 nm = true then (f.2, true) else getF L nm := by
  unfold getF
  rw [List.find?_cons]
  cases same f.1 nm <;> rfl
theorem fcells_row {w : World} {b o : Nat} {L : List Fld} (h : RowIn w (some ⟨b, o, none⟩) (fcells L)) (k : Nat) (hk : k < L.length) :
    w.cell? ⟨b, o + k * 2, none⟩ = some (.string ⟨L[k].1.toArray⟩) ∧ w.cell? ⟨b, o + k * 2 + 1, none⟩ = some (.string ⟨L[k].2.toArray⟩) := by
  have h2 := fcells_get L k hk
  rw [Nat.mul_comm 2] at h2
  exact ⟨h.cell _ _ h2.1, by rw [Nat.add_assoc]; exact h.cell _ _ h2.2⟩

set_option maxHeartbeats 1000000 in
theorem get_any (A : Option Addr) (c : Nat) (L : List Fld) (nm : List UInt8) (w : World) (hr : RowIn w A (fcells L)) (hfit : FitF L 2000000) (hn : nm.length ≤ 2000000) (hL : L.length ≤ 2000000) :
    Calls Tryz.prog 46 #[.slice A L.length c, .string ⟨nm.toArray⟩] w fun e w' => e = .returned (.tuple #[.string ⟨(getF L nm).1.toArray⟩, .bool (getF L nm).2]) ∧ Below w.heap.size w w' := by
  have cN := fun W => small_any nm W (by omega)
  go_enter Tryz.func46, Tryz.ntmps46
  go_wp2_with (go_at_call 62; refine (cN _).mono ?_; rintro e w1 ⟨rfl, hb1⟩)
  go_loopw [12] (fun i wr => ∃ k : Nat, i = .int .i64 k ∧ k ≤ L.length ∧ Hid (getF L nm = getF (L.drop k) nm) ∧ Below w.heap.size w wr) (fun i _ => L.length - (intOf i).toNat)
  case atStart => exact ⟨0, rfl, Nat.zero_le _, Lib.hid (by simp), hb1⟩
  case round =>
    obtain ⟨k, rfl, hk, HG, hbw⟩ := hrel
    by_cases hlt : k < L.length
    · have hlt2 : (k : Int) < (L.length : Int) := by omega
      obtain ⟨b, o, rfl, hblt⟩ := hr.addr (fun e => by have := fcells_length L; rw [e] at this; simp at this; omega)
      have hrow := fcells_row (hr.below hbw) k hlt
      obtain ⟨hc1, hc2⟩ := hrow
      have hf := hfit _ (List.getElem_mem hlt)
      have hd : L.drop k = L[k] :: L.drop (k + 1) := List.drop_eq_getElem_cons hlt
      have hg2 := HG.out
      rw [hd, getF_cons] at hg2
      obtain ⟨f, hfe⟩ : ∃ f, L[k] = f := ⟨_, rfl⟩
      rw [hfe] at hc1 hc2 hf hg2
      clear hfe hd HG
      obtain ⟨fn, fv⟩ := f
      dsimp only at hc1 hc2 hf hg2
      have cF := fun W => small_any fn W (by omega)
      cases hs : same fn nm <;> rw [hs] at hg2 <;> have HG2 := Lib.hid hg2 <;> unfold same at hs <;> clear hg2
      · go_wp2_with (go_at_call 62; refine (cF _).mono ?_; rintro e w2 ⟨rfl, hb2⟩)
        go_roundw
        case rel => exact ⟨k + 1, by go_num, by omega, Lib.hid HG2.out, (hbw.alloc hbw.size _).trans (hb2.mono (by have := hbw.size; simp; omega))⟩
        case measure => simp [intOf]; omega
      · go_wp2_with (go_at_call 62; refine (cF _).mono ?_; rintro e w2 ⟨rfl, hb2⟩; (have hc3 : w2.cell? ⟨wr.heap.size, 1, none⟩ = some (.string ⟨fv.toArray⟩) := cell_below hb2 (by simp)))
        go_ret2
        exact ⟨by rw [HG2.out]; rfl, (hbw.alloc hbw.size _).trans (hb2.mono (by have := hbw.size; simp; omega))⟩
    · obtain rfl : k = L.length := by omega
      have hG := HG.out
      rw [List.drop_length] at hG
      have HG2 := Lib.hid hG
      clear hG HG
      go_wp2
      go_ret2
      exact ⟨by rw [HG2.out]; rfl, hbw⟩

set_option maxHeartbeats 1000000 in
theorem rget_any (A : Option Addr) (c : Nat) (L : List Fld) (nm : List UInt8) (w : World) (hr : RowIn w A (fcells L)) (hfit : FitF L 2000000) (hn : nm.length ≤ 2000000) (hL : L.length ≤ 2000000) :
    Calls Tryz.prog 78 #[.slice A L.length c, .string ⟨nm.toArray⟩] w fun e w' => e = .returned (.tuple #[.string ⟨(getF L nm).1.toArray⟩, .bool (getF L nm).2]) ∧ Below w.heap.size w w' := by
  have cN := fun W => rsmall_any nm W (by omega)
  go_enter Tryz.func78, Tryz.ntmps78
  go_wp2
  go_loopw [6] (fun i wr => ∃ k : Nat, i = .int .i64 k ∧ k ≤ L.length ∧ Hid (getF L nm = getF (L.drop k) nm) ∧ Below w.heap.size w wr) (fun i _ => L.length - (intOf i).toNat)
  case atStart => exact ⟨0, rfl, Nat.zero_le _, Lib.hid (by simp), Below.refl _ _⟩
  case round =>
    obtain ⟨k, rfl, hk, HG, hbw⟩ := hrel
    by_cases hlt : k < L.length
    · have hlt2 : (k : Int) < (L.length : Int) := by omega
      obtain ⟨b, o, rfl, hblt⟩ := hr.addr (fun e => by have := fcells_length L; rw [e] at this; simp at this; omega)
      have hrow := fcells_row (hr.below hbw) k hlt
      obtain ⟨hc1, hc2⟩ := hrow
      have hf := hfit _ (List.getElem_mem hlt)
      have hd : L.drop k = L[k] :: L.drop (k + 1) := List.drop_eq_getElem_cons hlt
      have hg2 := HG.out
      rw [hd, getF_cons] at hg2
      obtain ⟨f, hfe⟩ : ∃ f, L[k] = f := ⟨_, rfl⟩
      rw [hfe] at hc1 hc2 hf hg2
      clear hfe hd HG
      obtain ⟨fn, fv⟩ := f
      dsimp only at hc1 hc2 hf hg2
      have cF := fun W => rsmall_any fn W (by omega)
      cases hs : same fn nm <;> rw [hs] at hg2 <;> have HG2 := Lib.hid hg2 <;> unfold same at hs <;> clear hg2
      · go_wp2_with fail
        refine (cF _).mono ?_
        rintro e w2 ⟨rfl, hb2⟩
        go_wp2_with fail
        refine (cN _).mono ?_
        rintro e w3 ⟨rfl, hb3⟩
        go_wp2
        go_roundw
        case rel => exact ⟨k + 1, by go_num, by omega, Lib.hid HG2.out, (hbw.trans (hb2.mono hbw.size)).trans (hb3.mono (Nat.le_trans hbw.size hb2.size))⟩
        case measure => simp [intOf]; omega
      · go_wp2_with fail
        refine (cF _).mono ?_
        rintro e w2 ⟨rfl, hb2⟩
        go_wp2_with fail
        refine (cN _).mono ?_
        rintro e w3 ⟨rfl, hb3⟩
        have hc3 : w3.cell? ⟨b, o + k * 2 + 1, none⟩ = some (.string ⟨fv.toArray⟩) := cell_below hb3 (cell_below hb2 hc2)
        go_wp2
        go_ret2
        exact ⟨by rw [HG2.out]; rfl, (hbw.trans (hb2.mono hbw.size)).trans (hb3.mono (Nat.le_trans hbw.size hb2.size))⟩
    · obtain rfl : k = L.length := by omega
      have hG := HG.out
      rw [List.drop_length] at hG
      have HG2 := Lib.hid hG
      clear hG HG
      go_wp2
      go_ret2
      exact ⟨by rw [HG2.out]; rfl, hbw⟩
end Go.Proofs.YtbjbljfmcpidmaaGreatDoor

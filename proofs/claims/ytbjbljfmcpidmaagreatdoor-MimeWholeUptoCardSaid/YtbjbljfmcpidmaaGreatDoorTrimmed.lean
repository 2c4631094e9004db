/- The reference's trimmed. -/
import Derived.Test.YtbjbljfmcpidmaaGreatDoorTrim
namespace Go.Proofs.YtbjbljfmcpidmaaGreatDoor
open Go.RowKit Go.Lib Go.Shelf

def TDone (B : Nat) (v : Value) (L : List Fld) (w : World) (e : Ending) (w' : World) : Prop :=
  e = .returned v ∧ w'.ownsRow B 67 2 v L.length (fcells (L.map trimF1)) ∧ Below B w w'

set_option maxHeartbeats 1000000 in
theorem trimmed_any (B : Nat) (v : Value) (L : List Fld) (w : World) (hown : w.ownsRow B 67 2 v L.length (fcells L)) (hB : B ≤ w.heap.size) (hfit : FitF L 2000000) (hL : L.length ≤ 64) :
    Calls Tryz.prog 143 #[v] w (TDone B v L w) := by
  rcases hown.2 with ⟨rfl, hL0⟩ | ⟨g, cap, _, rfl, hwg, _⟩
  · obtain rfl : L = [] := List.eq_nil_of_length_eq_zero hL0
    have HD : Hid (TDone B (.slice none 0 0) [] w (.returned (.slice none 0 0)) w) := ⟨rfl, hown, Below.refl _ _⟩
    go_enter Tryz.func143, Tryz.ntmps143
    go_wp2
    go_loopw [3] (fun i wr => i = .int .i64 0 ∧ wr = w) (fun _ _ => 0)
    case atStart => exact ⟨rfl, rfl⟩
    case round =>
      obtain ⟨rfl, rfl⟩ := hrel
      go_wp2
      go_ret
      exact HD.out
  · have HD : Hid (∀ wr : World, wr.ownsRow B 67 2 (.slice (some ⟨g, 0, none⟩) L.length cap) L.length (fcells (half L L.length)) → Below B w wr → TDone B (.slice (some ⟨g, 0, none⟩) L.length cap) L w (.returned (.slice (some ⟨g, 0, none⟩) L.length cap)) wr) := fun wr h1 h2 => ⟨rfl, by rw [half_all] at h1; exact h1, h2⟩
    go_enter Tryz.func143, Tryz.ntmps143
    go_wp2
    go_loopw [3] (fun i wr => ∃ k : Nat, k ≤ L.length ∧ i = .int .i64 k ∧ wr.ownsRow B 67 2 (.slice (some ⟨g, 0, none⟩) L.length cap) L.length (fcells (half L k)) ∧ Below B w wr) (fun i _ => L.length - (intOf i).toNat)
    case atStart => exact ⟨0, Nat.zero_le _, rfl, hown, Below.refl _ _⟩
    case round =>
      obtain ⟨k, hk, rfl, hownk, hbk⟩ := hrel
      by_cases hlt : k < L.length
      · have hck : wr.cell? ⟨g, k * 2 + 1, none⟩ = some (.string ⟨(L[k]'hlt).2.toArray⟩) := by
          rw [hownk.cellAt (k * 2 + 1) (by omega), Nat.mul_comm, (fcells_get (half L k) k (by rw [half_length]; exact hlt)).2, half_get L k hlt]
        have hfrk := hownk.frozenAt (k * 2 + 1)
        have hfk := hfit _ (List.getElem_mem hlt)
        have cT := fun W => rtrim_any (L[k]'hlt).2 W (by omega)
        generalize hval : (L[k]'hlt).2 = val at *
        have HV := Lib.hid hval
        clear hval hfk
        go_wp2_with (go_at_call 187; refine (cT _).mono ?_; rintro e w2 ⟨rfl, rfl⟩)
        refine ⟨⟨k + 1, by omega, by go_num, ?_, hbk.setCell (hown.lt g rfl).1 _⟩, by simp [intOf]; omega⟩
        have h := (hownk.stored (k * 2 + 1) (.string ⟨(Lib.trimS val [32, 9]).toArray⟩)).1
        rw [← half_set L k hlt, ← half_get L k hlt, ← fcells_set _ k (by rw [half_length]; exact hlt), half_get L k hlt, HV.out, Nat.mul_comm 2]
        exact h
      · obtain rfl : k = L.length := by omega
        go_wp2
        go_ret
        exact HD.out wr hownk hbk
end Go.Proofs.YtbjbljfmcpidmaaGreatDoor

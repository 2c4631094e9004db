/- bytes.Cut at CR LF; a slice of bytes as a string. -/
import Derived.Test.YtbjbljfmcpidmaaGreatDoorHdr
namespace Go.Proofs.YtbjbljfmcpidmaaGreatDoor
open Go.RowKit Go.Lib Go.Shelf

theorem index_le (r s : List UInt8) : Lib.index r s ≤ r.length ∧ -1 ≤ Lib.index r s := by
  induction r with
  | nil => cases s <;> simp [Lib.index]
  | cons x r ih =>
    unfold Lib.index
    split
    · simp; omega
    · split
      · simp; omega
      · rename_i h
        have : Lib.index r s ≠ -1 := fun e => h (by simp [e])
        simp only [List.length_cons]
        omega

theorem cutV_line (p : Option Addr) (r : List UInt8) (c : Nat) :
    ∃ X, Lib.cutV p r.length c 2 (Lib.index r [13, 10]) = .tuple #[.slice p (lineOf r).length c, X, .bool (wholeOf r)] := by
  unfold Lib.cutV lineOf wholeOf Lib.cut
  have h := index_le r [13, 10]
  by_cases h0 : 0 ≤ Lib.index r [13, 10]
  · rw [if_pos h0, if_pos h0]
    refine ⟨Lib.fromV p r.length c ((Lib.index r [13, 10]).toNat + 2), ?_⟩
    have e : (List.take (Lib.index r [13, 10]).toNat r).length = (Lib.index r [13, 10]).toNat := by simp; omega
    simp only [e]
  · rw [if_neg h0, if_neg h0]
    exact ⟨_, rfl⟩

theorem cutLine (bb oo cc B : Nat) (r : List UInt8) (W : World) (hr : RowIn W (some ⟨bb, oo, none⟩) (bcells r)) (hc : r.length ≤ cc) (hl : r.length ≤ 2000000)
    (h0 : W.cell? ⟨B, 0, none⟩ = some (.int .u8 13)) (h1 : W.cell? ⟨B, 1, none⟩ = some (.int .u8 10)) (hg : Gl W) :
    Calls Tryz.prog 55 #[.slice (some ⟨bb, oo, none⟩) r.length cc, .slice (some ⟨B, 0, none⟩) 2 2] W fun e w' => ∃ X, e = .returned (.tuple #[.slice (some ⟨bb, oo, none⟩) (lineOf r).length cc, X, .bool (wholeOf r)]) ∧ Below W.heap.size W w' := by
  obtain ⟨⟨m, hm⟩, _⟩ := hg
  refine (Tryz.bytes_Cut_all (some ⟨bb, oo, none⟩) (some ⟨B, 0, none⟩) r.length cc 2 2 (r.map fun x => (x.toNat : Int)) [13, 10] m W (by simp) rfl (range_bytes r) (by decide) (hr.bytesIn rfl) ?_ (by simp) hc (by omega) (by omega) hm).mono ?_
  · refine fun _ => ⟨B, 0, rfl, fun i hi => ?_⟩
    obtain rfl | rfl : i = 0 ∨ i = 1 := by omega
    · exact h0
    · exact h1
  · rintro e w' ⟨rfl, q, rfl⟩
    rw [bytesOf_toNat]
    obtain ⟨X, hX⟩ := cutV_line (some ⟨bb, oo, none⟩) r cc
    exact ⟨X, by rw [show Lib.bytesOf [13, 10] = [13, 10] from rfl, hX], below_drewN' (Below.refl _ _) q⟩

theorem conv_bytes (A : Option Addr) (l : List UInt8) (n c : Nat) (W : World) (hr : RowIn W A (bcells l)) (hn : l.length = n) :
    (convert 26 9 (.slice A n c)).run Tryz.prog W = .ok (.string ⟨l.toArray⟩) W := by
  have e : strOfNums (l.map fun x => (x.toNat : Int)) = ⟨l.toArray⟩ := congrArg (fun l : List UInt8 => (⟨l.toArray⟩ : ByteArray)) (bytesOf_toNat l)
  by_cases h0 : l = []
  · subst h0
    obtain rfl : n = 0 := by simpa using hn.symm
    exact run_convert_bytes_zero W 26 5 Tryz.underlying26 Tryz.underlying5 A c 9 Tryz.underlying9
  · have hb := hr.bytesIn hn
    obtain ⟨b, o, rfl, hc⟩ := hb.at (by cases l <;> simp at *; omega)
    rw [← e]
    exact run_convert_bytes_arg (P := Tryz.prog) W 26 5 Tryz.underlying26 Tryz.underlying5 b o n c _ (by simpa using hn) hc 9 Tryz.underlying9
end Go.Proofs.YtbjbljfmcpidmaaGreatDoor

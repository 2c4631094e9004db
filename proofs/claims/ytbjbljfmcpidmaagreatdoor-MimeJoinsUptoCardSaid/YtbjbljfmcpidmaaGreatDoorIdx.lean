/- bytes.IndexAny of one byte among blanks, strings.Trim of blanks. -/
import Derived.Test.YtbjbljfmcpidmaaGreatDoorBase
namespace Go.Proofs.YtbjbljfmcpidmaaGreatDoor
open Go.RowKit Go.Lib Go.Shelf

def isBl (x : UInt8) : Bool := x == 32 || x == 9

theorem indexByte_bl (x : UInt8) : Lib.indexByte [32, 9] x = if isBl x then (if x = 32 then 0 else 1) else -1 := by
  unfold isBl
  by_cases h1 : x = 32
  · subst h1; decide
  · by_cases h2 : x = 9
    · subst h2; decide
    · have e1 : (32 == x) = false := beq_eq_false_iff_ne.2 (Ne.symm h1)
      have e2 : (9 == x) = false := beq_eq_false_iff_ne.2 (Ne.symm h2)
      simp [Lib.indexByte, h1, h2, e1, e2]

set_option maxRecDepth 100000 in
theorem idxAny_any (b o c : Nat) (x : UInt8) (w : World) (hx : w.cell? ⟨b, o, none⟩ = some (cell8 x)) :
    Calls Tryz.prog 57 #[.slice (some ⟨b, o, none⟩) 1 c, .string ⟨#[32, 9]⟩] w fun e w' => e = .returned (.int .i64 (if isBl x then 0 else -1)) ∧ Below w.heap.size w w' := by
  unfold cell8 at hx
  have hlt := x.toNat_lt
  by_cases h : x.toNat < 128
  · have z : (x.toNat : Int) < 128 := by omega
    have hib : ∀ W, (callFunc 112 #[.string ⟨#[32, 9]⟩, .int .u8 (x.toNat : Int)]).run Tryz.prog W = .ok (.value (.int .i64 (if isBl x then (if x = 32 then 0 else 1) else -1))) W := fun W => by
      rw [run_callFunc_extern Tryz.func112 (by kernel_rfl) (by kernel_rfl) (by kernel_rfl) (e := Extern.BytealgIndexByte.indexByte) (by kernel_rfl), Lib.run_indexByteString]
      simp [Result.andThen, indexByte_bl]
    by_cases h2 : isBl x = true
    · simp only [h2, if_true] at hib ⊢
      have hj : 0 ≤ (if x = 32 then (0 : Int) else 1) := by split <;> decide
      generalize (if x = 32 then (0 : Int) else 1) = j at *
      go_enter Tryz.func57, Tryz.ntmps57
      go_wp2
      go_ret
      exact ⟨rfl, Below.refl _ _⟩
    · simp only [h2, if_false, Bool.false_eq_true] at hib ⊢
      go_enter Tryz.func57, Tryz.ntmps57
      go_wp2
      go_ret
      exact ⟨rfl, Below.refl _ _⟩
  · have z : ¬ (x.toNat : Int) < 128 := by omega
    have hb : isBl x = false := by
      unfold isBl
      rw [Bool.or_eq_false_iff, beq_eq_false_iff_ne, beq_eq_false_iff_ne]
      exact ⟨fun e => h (by rw [e]; decide), fun e => h (by rw [e]; decide)⟩
    simp only [hb, if_false, Bool.false_eq_true]
    go_enter Tryz.func57, Tryz.ntmps57
    go_wp2
    go_loopg [5] 2 (fun gf v wx => ∃ pos : Nat, wx.heap[w.heap.size]? = some (.stringIter ⟨#[32, 9]⟩ pos) ∧ Below w.heap.size w wx ∧ pos + gf = 2)
    case atStart => exact ⟨0, World.iter_heap w _ 0, (Below.refl _ w).alloc (Nat.le_refl _) _, rfl⟩
    case round =>
      obtain ⟨pos, hit, hbw, hfu⟩ := hrel
      by_cases hps : pos < 2
      · obtain ⟨g', rfl⟩ : ∃ g', gk = g' + 1 := ⟨gk - 1, by omega⟩
        have hnx : ∀ ty, (Instr.next (.pointer (some ⟨w.heap.size, 0, none⟩)) true ty).run Tryz.prog wr = _ := fun ty => Lib.run_next_any_at wr w.heap.size ⟨#[32, 9]⟩ pos ty hit hps
        obtain ⟨R, hR, hR2⟩ : ∃ R : Int, (Utf8.decode ⟨#[32, 9]⟩ pos).1 = R ∧ (R == 65533) = false := by
          refine ⟨_, rfl, ?_⟩
          obtain rfl | rfl : pos = 0 ∨ pos = 1 := by omega
          · decide
          · decide
        have hK : (Utf8.decode ⟨#[32, 9]⟩ pos).2 = 1 := by
          obtain rfl | rfl : pos = 0 ∨ pos = 1 := by omega
          · decide
          · decide
        rw [hR, hK] at hnx
        clear hR hK
        have hit2 := Lib.iterAt_heap wr w.heap.size ⟨#[32, 9]⟩ pos (pos + 1) hit
        have hbw2 := Lib.below_iterAt hbw (k := w.heap.size) (Nat.le_refl _) ⟨#[32, 9]⟩ (pos + 1)
        obtain ⟨W, hWd⟩ : ∃ W, wr.iterAt w.heap.size ⟨#[32, 9]⟩ (pos + 1) = W := ⟨_, rfl⟩
        rw [hWd] at hnx hit2 hbw2
        clear hWd
        go_wp2
        go_roundg g'
        case measure => omega
        case rel => exact ⟨pos + 1, hit2, hbw2, by omega⟩
      · have hnx : ∀ ty, (Instr.next (.pointer (some ⟨w.heap.size, 0, none⟩)) true ty).run Tryz.prog wr = _ := fun ty => Lib.run_next_end_at wr w.heap.size ⟨#[32, 9]⟩ pos ty hit hps
        go_wp2
        go_ret
        exact ⟨rfl, hbw⟩

/-- strings.Trim of blanks -/
theorem trim_any (s : ByteArray) (w : World) (hs : s.size ≤ 4000000) :
    Calls Tryz.prog 58 #[.string s, .string ⟨#[32, 9]⟩] w fun e w' => e = .returned (.string ⟨(Lib.trimS s.data.toList [32, 9]).toArray⟩) ∧ Below w.heap.size w w' :=
  Any.strings_Trim_laid Tryz.lays160 (by kernel_rfl) s ⟨#[32, 9]⟩ w (by omega) (by decide) (Go.Proofs.ascii_of_all (by decide))
end Go.Proofs.YtbjbljfmcpidmaaGreatDoor

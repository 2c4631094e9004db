/- HeaderReads' walk. -/
import Derived.Test.YtbjbljfmcpidmaaDoorShown
namespace Go.Proofs.YtbjbljfmcpidmaaDoor
open Go.RowKit Go.Lib Go.Shelf
theorem row_at {w : World} {ad : Addr} {cs : List Value} (h : RowIn w (some ad) cs) (j : Nat) (u : Value) (hu : cs[j]? = some u) : w.cell? (ad.add j) = some u := by
  obtain ⟨b, o, e, _, hc⟩ := h (by intro e; rw [e] at hu; simp at hu)
  cases e
  have h := hc j u hu
  by_cases hj : j = 0
  · subst hj
    simpa [Addr.add] using h
  · simpa [Addr.add, hj] using h
set_option maxHeartbeats 4000000 in
set_option maxRecDepth 100000 in
theorem reads_any (A : Option Addr) (c : Nat) (b : List UInt8) (w : World) (hb : b.length ≤ 2000000) (hc : b.length ≤ c) (hr : RowIn w A (bcells b)) (hg : Gl w) :
    Calls Tryd.prog 3 #[.slice A b.length c] w fun e w' => e = .returned (.bool true) ∧ Below w.heap.size w w' := by
  have HH : Hid (hdr b = ((hdr b).1, (hdr b).2)) := Lib.hid rfl
  generalize (hdr b).1 = L at *
  generalize (hdr b).2 = N at *
  obtain ⟨i0, hi, hz0, hz1, hz2⟩ := info_parts Tryd.Builder_Extra_169.infoByte
  go_enter Tryd.func3, Tryd.ntmps3
  go_wp2_with fail
  refine (shown_any w hg).mono ?_
  rintro e w1 ⟨rfl, hb1⟩
  have hg1 := hg.below hb1
  have hr1 := hr.below hb1
  have hown0 : (w1.alloc (.cells #[] 5)).ownsRow w.heap.size 5 1 (.slice (some ⟨w1.heap.size, 0, none⟩) 0 0) 0 [] := ⟨rfl, .inr ⟨w1.heap.size, 0, #[], rfl, hb1.size, heap_alloc_new w1 _, by simp, by decide, by simp, by simp⟩⟩
  have hr1a := hr1.below ((Below.refl _ _).alloc (Nat.le_refl _) (.cells #[] 5))
  rcases A with _ | ad
  · have hb0 : b = [] := by
      by_cases h : bcells b = []
      · simpa [bcells] using h
      · obtain ⟨_, _, e, _⟩ := hr h
        cases e
    have hl0 : b.length = 0 := by rw [hb0]; rfl
    have HL0 := Lib.hid hl0
    have hbc : bcells b = [] := by rw [hb0]; rfl
    clear hb0
    obtain ⟨W2, hW2⟩ : ∃ W2, W2 = w1.alloc (.cells #[] 5) := ⟨_, rfl⟩
    have HB2 : Hid (Below w.heap.size w W2) := Lib.hid (by rw [hW2]; exact hb1.alloc hb1.size _)
    have hg2 := hg.below HB2.out
    have hrow2 : ∀ W B, RowIn W B (bcells b) := fun W B => by rw [hbc]; exact RowIn.nil _ _
    have cP : Calls Tryd.prog 8 #[.slice (some ⟨w1.heap.size, 0, none⟩) 0 0] W2 (PDone b W2) := by
      have h := parse_any (some ⟨w1.heap.size, 0, none⟩) 0 b W2 hb (by omega) (by simp) (hrow2 _ _) hg2
      rwa [hl0] at h
    have cR : ∀ W, Calls Tryd.prog 9 #[.slice none 0 c] W (PDone b W) := fun W => by
      have h := rparse_any none c b W hb hc (hrow2 _ _)
      rwa [hl0] at h
    have cv1 := fun W => conv_bytes (some ⟨w1.heap.size, 0, none⟩) b 0 0 W (hrow2 _ _) hl0
    have cv2 := fun W => conv_bytes none b 0 c W (hrow2 _ _) hl0
    rw [hl0]
    clear hl0 hbc hrow2 hr hr1 hr1a hown0
    go_wp2_with fail
    rw [← hW2]
    clear hW2
    refine cP.mono ?_
    rintro e W3 ⟨v3, rfl, hown3, hb3⟩
    have hB3 := HB2.out.trans (hb3.mono HB2.out.size)
    rw [HH.out] at hown3 ⊢
    obtain ⟨A3, c3, hv3, hc3, hm3, hrowF, _⟩ := owns_open hown3
    have hLm : L.length ≤ 9223372036854775807 := by unfold maxLen at hm3; have hc3x : L.length ≤ c3 := hc3; omega
    subst hv3
    go_wp2_with fail
    refine (cR _).mono ?_
    rintro e W4 ⟨v4, rfl, hown4, hb4⟩
    have hB4 := hB3.trans (hb4.mono hB3.size)
    rw [HH.out] at hown4 ⊢
    obtain ⟨A4, c4, hv4, hc4, _, hrowG, _⟩ := owns_open hown4
    subst hv4
    have hrowF4 := hrowF.below hb4
    have cv3 := cv1 W4
    have cv4 := cv2 W4
    clear cv1 cv2
    go_wp2
    go_loopw [9] (fun i wx => ∃ k : Nat, i = .int .i64 k ∧ k ≤ L.length ∧ Below W4.heap.size W4 wx) (fun i _ => L.length - (intOf i).toNat)
    case atStart => exact ⟨0, rfl, Nat.zero_le _, Below.refl _ _⟩
    case round =>
      obtain ⟨k, rfl, hk, hbx⟩ := hrel
      have hbr := hB4.trans (hbx.mono hB4.size)
      by_cases hkL : k < L.length
      · have hkL1 : (k : Int) < (L.length : Int) := by omega
        have hne : fcells L ≠ [] := fun e => by have := fcells_length L; rw [e] at this; simp at this; omega
        obtain ⟨b3, o3, rfl, _⟩ := hrowF4.addr hne
        obtain ⟨b4, o4, rfl, _⟩ := hrowG.addr hne
        obtain ⟨q1, q2⟩ := fcells_row (hrowF4.below hbx) k hkL
        obtain ⟨q3, q4⟩ := fcells_row (hrowG.below hbx) k hkL
        generalize L[k] = f at *
        obtain ⟨fn, fv⟩ := f
        dsimp only at q1 q2 q3 q4
        go_wp2
        go_region
        all_goals
          go_wp2
          go_roundw
          case rel => exact ⟨k + 1, by go_num, by omega, hbx.drew⟩
          case measure => simp [intOf]; omega
      · have hkL1 : ¬ ((k : Int) < (L.length : Int)) := by omega
        go_wp2
        go_ret
        exact ⟨rfl, hbr⟩
  · have hnews := row_at hr1a
    go_wp2_with (at_builtin; refine wpList_append_own _ rfl _ _ 22 rfl w.heap.size 5 i0 (.int .u8 0) 1 1 Tryd.underlying22 hi hz0 hz1 hz2 rfl (by decide) _ 0 [] rfl hown0 ad b.length c (bcells b) rfl (by simp [bcells]) ?c1 ?c2 ?c3 ?c4 ?c5 ?_)
    case c1 => exact hnews
    case c2 => intro u hu; simp [bcells, cell8] at hu; obtain ⟨x, _, rfl⟩ := hu; rfl
    case c3 => unfold maxLen; omega
    case c4 => omega
    case c5 => have := hb1.size; simp; omega
    intro v2 W2 hown2 hgr2 _
    have HB2 : Hid (Below w.heap.size w W2) := Lib.hid ((hb1.alloc hb1.size _).grown hgr2 (by have := hb1.size; simp; omega) (fun k hk => (hown0.lt k hk).1))
    clear hown0 hgr2
    obtain ⟨A2, c2, hv2, hc2, _, hrow2, hA2⟩ := owns_open hown2
    subst hv2
    have hg2 := hg.below HB2.out
    go_wp2_with fail
    refine (parse_any A2 c2 b W2 hb hc2 hA2 hrow2 hg2).mono ?_
    rintro e W3 ⟨v3, rfl, hown3, hb3⟩
    have hB3 := HB2.out.trans (hb3.mono HB2.out.size)
    have hr3 := hr.below hB3
    have hrow3 := hrow2.below hb3
    rw [HH.out] at hown3 ⊢
    obtain ⟨A3, c3, hv3, hc3, hm3, hrowF, _⟩ := owns_open hown3
    have hLm : L.length ≤ 9223372036854775807 := by unfold maxLen at hm3; have hc3x : L.length ≤ c3 := hc3; omega
    subst hv3
    go_wp2_with fail
    refine (rparse_any (some ad) c b W3 hb hc hr3).mono ?_
    rintro e W4 ⟨v4, rfl, hown4, hb4⟩
    have hB4 := hB3.trans (hb4.mono hB3.size)
    rw [HH.out] at hown4 ⊢
    obtain ⟨A4, c4, hv4, hc4, _, hrowG, _⟩ := owns_open hown4
    subst hv4
    have hrowF4 := hrowF.below hb4
    have cv1 := conv_bytes A2 b b.length c2 W4 (hrow3.below hb4) rfl
    have cv2 := conv_bytes (some ad) b b.length c W4 (hr3.below hb4) rfl
    go_wp2
    go_loopw [9] (fun i wx => ∃ k : Nat, i = .int .i64 k ∧ k ≤ L.length ∧ Below W4.heap.size W4 wx) (fun i _ => L.length - (intOf i).toNat)
    case atStart => exact ⟨0, rfl, Nat.zero_le _, Below.refl _ _⟩
    case round =>
      obtain ⟨k, rfl, hk, hbx⟩ := hrel
      have hbr := hB4.trans (hbx.mono hB4.size)
      by_cases hkL : k < L.length
      · have hkL1 : (k : Int) < (L.length : Int) := by omega
        have hne : fcells L ≠ [] := fun e => by have := fcells_length L; rw [e] at this; simp at this; omega
        obtain ⟨b3, o3, rfl, _⟩ := hrowF4.addr hne
        obtain ⟨b4, o4, rfl, _⟩ := hrowG.addr hne
        obtain ⟨q1, q2⟩ := fcells_row (hrowF4.below hbx) k hkL
        obtain ⟨q3, q4⟩ := fcells_row (hrowG.below hbx) k hkL
        generalize L[k] = f at *
        obtain ⟨fn, fv⟩ := f
        dsimp only at q1 q2 q3 q4
        go_wp2
        go_region
        all_goals
          go_wp2
          go_roundw
          case rel => exact ⟨k + 1, by go_num, by omega, hbx.drew⟩
          case measure => simp [intOf]; omega
      · have hkL1 : ¬ ((k : Int) < (L.length : Int)) := by omega
        go_wp2
        go_ret
        exact ⟨rfl, hbr⟩
end Go.Proofs.YtbjbljfmcpidmaaDoor

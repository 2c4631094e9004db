/- The reference's Kind. -/
import Derived.Test.YtbjbljfmcpidmaaGreatDoorRKind
namespace Go.Proofs.YtbjbljfmcpidmaaGreatDoor
open Go.RowKit Go.Lib Go.Shelf
theorem kO3_nil : kO3 [] = false := by
  have h1 : kO1 [] = false := rfl
  have h2 : kO2 [] = false := by unfold kO2; rw [h1]; rfl
  unfold kO3 nameOkB
  rw [h2]
  rfl
theorem kEnd_nil : (kEnd []).1 = false := by
  unfold kEnd
  rw [kO3_nil]
  exact kLoop_false _ _ _ _
theorem kindS_nil : kindS [] = (kText, kPlain, []) := by
  unfold kindS
  rw [kEnd_nil]
  rfl
theorem kindT_S (v : List UInt8) : ((kindT v).2.2.2 = true ∧ kindS v = ((kindT v).1, (kindT v).2.1, (kindT v).2.2.1)) ∨ ((kindT v).2.2.2 = false ∧ kindS v = (kText, kPlain, [])) := by
  unfold kindT kindS
  cases h : (kEnd v).1
  · simp
  · simp
theorem getF_nil (L : List Fld) (nm : List UInt8) (h : (getF L nm).2 = false) : (getF L nm).1 = [] := by
  unfold getF at *
  split
  · rename_i f hf
    rw [hf] at h
    simp at h
  · rfl
set_option maxHeartbeats 2000000 in
theorem rkinds_any (A : Option Addr) (c : Nat) (L : List Fld) (w : World) (hr : RowIn w A (fcells L)) (hfit : FitF L 2000000) (hL : L.length ≤ 2000000) :
    Calls Tryz.prog 77 #[.slice A L.length c] w fun e w' => e = .returned (kind3 (kindS (getF L ctName).1)) ∧ Below w.heap.size w w' := by
  have cG := rget_any A c L ctName w hr hfit (by decide) hL
  have hv := getF_le L ctName hfit
  have hnil := getF_nil L ctName
  generalize getF L ctName = v0 at *
  obtain ⟨v, is⟩ := v0
  dsimp only at cG hv hnil
  have cK := fun W => rkind_any v W hv
  have HTS := Lib.hid (kindT_S v)
  have HN : Hid (is = false → kindS v = (kText, kPlain, [])) := Lib.hid fun h => by rw [hnil h]; exact kindS_nil
  clear hnil
  generalize kindT v = kt at *
  obtain ⟨a, b, d, ok⟩ := kt
  dsimp only at HTS
  simp only [kind4] at cK
  go_enter Tryz.func77, Tryz.ntmps77
  go_wp2_with fail
  refine cG.mono ?_
  rintro e w1 ⟨rfl, hb1⟩
  go_wp2_with fail
  refine (cK _).mono ?_
  rintro e w2 ⟨rfl, hb2⟩
  have hb := hb1.trans (hb2.mono hb1.size)
  cases is
  · have HS := HN.out rfl
    have HS2 := Lib.hid HS
    clear HS
    cases ok
    all_goals
      go_wp2
      go_ret3
      rw [HS2.out]
      exact ⟨ret3_eq rfl rfl rfl, hb⟩
  · cases ok
    · have HS := HTS.out
      have HS2 : Hid (kindS v = (kText, kPlain, [])) := Lib.hid (by rcases HS with ⟨h, _⟩ | ⟨_, h⟩; · exact absurd h (by simp)
                                                                    · exact h)
      clear HS
      go_wp2
      go_ret3
      rw [HS2.out]
      exact ⟨ret3_eq rfl rfl rfl, hb⟩
    · have HS := HTS.out
      have HS2 : Hid (kindS v = (a, b, d)) := Lib.hid (by rcases HS with ⟨_, h⟩ | ⟨h, _⟩; · exact h
                                                          · exact absurd h (by simp))
      clear HS
      go_wp2
      go_ret3
      rw [HS2.out]
      exact ⟨ret3_eq rfl rfl rfl, hb⟩
end Go.Proofs.YtbjbljfmcpidmaaGreatDoor

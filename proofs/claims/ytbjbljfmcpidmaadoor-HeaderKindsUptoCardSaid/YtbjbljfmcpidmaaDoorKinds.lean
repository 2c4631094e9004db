/- HeaderKinds' walk. -/
import Derived.Test.YtbjbljfmcpidmaaDoorBack
import Derived.Test.YtbjbljfmcpidmaaDoorWords
namespace Go.Proofs.YtbjbljfmcpidmaaDoor
open Go.RowKit Go.Lib Go.Shelf
theorem fit_of_size {L : List Fld} {n : Nat} (h : sizeF L ≤ n) : FitF L n := fun f hf => by
  obtain ⟨k, hk, rfl⟩ := List.getElem_of_mem hf
  exact Nat.le_trans (sizeF_get L k hk) h
def ctText : List UInt8 := [67, 111, 110, 116, 101, 110, 116, 45, 84, 121, 112, 101]
theorem fcells_one (L : List Fld) : ∀ u ∈ fcells L, u.oneCell' = true := by
  intro u hu
  simp only [fcells, List.mem_flatMap, fcell] at hu
  obtain ⟨f, _, hu⟩ := hu
  simp at hu
  rcases hu with rfl | rfl <;> rfl
theorem wcells_get {w : World} {b o : Nat} {l : List (List UInt8)} (h : RowIn w (some ⟨b, o, none⟩) (wcells l)) (k : Nat) (hk : k < l.length) : w.cell? ⟨b, o + k, none⟩ = some (.string ⟨(l[k]'hk).toArray⟩) :=
  h.cell k _ (by simp [wcells, hk])
set_option maxHeartbeats 8000000 in
set_option maxRecDepth 100000 in
theorem kinds_any (A : Option Addr) (c : Nat) (L : List Fld) (s : List UInt8) (w : World) (hr : RowIn w A (fcells L)) (hL : L.length ≤ 1100000) (hsz : sizeF L ≤ 1100000) (hs : s.length ≤ 1100000) (hg : Gl w) :
    Calls Tryd.prog 6 #[.slice A L.length c, .string ⟨s.toArray⟩] w fun e w' => e = .returned (.bool true) ∧ Below w.heap.size w w' := by
  obtain ⟨i0, hi, hz0, hz1, hz2⟩ := info_parts infoF
  have hfit : FitF L 2000000 := fit_of_size (by omega)
  have hfit1 : FitF (L ++ [(ctText, s)]) 2000000 := hfit.snoc _ (by simp [ctText]; omega) (Nat.le_refl _)
  obtain ⟨M, hM⟩ : ∃ M, M = L ++ [(ctText, s)] := ⟨_, rfl⟩
  rw [← hM] at hfit1
  have HC : Hid (∀ (W : World) B v, W.ownsRow B 28 2 v (L.length + 1) (fcells L ++ [.string ⟨#[67, 111, 110, 116, 101, 110, 116, 45, 84, 121, 112, 101]⟩, .string ⟨s.toArray⟩]) → W.ownsRow B 28 2 v M.length (fcells M)) := Lib.hid (fun W B v h => by rw [hM, fcells_append, List.length_append]; exact h)
  have hMl : M.length ≤ 1100001 := by rw [hM]; simp; omega
  clear hM
  have hfl := fcells_length L
  go_enter Tryd.func6, Tryd.ntmps6
  go_wp2_with fail
  refine (shown_any w hg).mono ?_
  rintro e w1 ⟨rfl, hb1⟩
  have hr1 := hr.below hb1
  have cK1 := kind_any A c L w1 hr1 hfit (by omega) (hg.below hb1)
  go_wp2_with fail
  refine cK1.mono ?_
  rintro e w2 ⟨rfl, hb2⟩
  have hb2' := hb1.trans (hb2.mono hb1.size)
  have cK2 := rkinds_any A c L w2 (hr.below hb2') hfit (by omega)
  obtain ⟨K1, hK1⟩ : ∃ K, K = kindS (getF L ctName).1 := ⟨_, rfl⟩
  rw [← hK1] at cK2 ⊢
  clear hK1 cK1
  obtain ⟨k1, k2, k3⟩ := K1
  simp only [kind3] at cK2 ⊢
  go_wp2_with fail
  refine cK2.mono ?_
  rintro e w3 ⟨rfl, hb3⟩
  have hb3' := hb2'.trans (hb3.mono hb2'.size)
  clear cK2
  have hr3 := (hr.below hb3').below ((Below.refl _ _).alloc (Nat.le_refl _) (.cells #[] 28))
  have hb3a := hb3'.alloc hb3'.size (.cells #[] 28)
  have hown0 : (w3.alloc (.cells #[] 28)).ownsRow w.heap.size 28 2 (.slice (some ⟨w3.heap.size, 0, none⟩) 0 0) 0 [] := ⟨rfl, .inr ⟨w3.heap.size, 0, #[], rfl, hb3'.size, heap_alloc_new w3 _, by simp, by decide, by simp, by simp⟩⟩
  go_wp2_with (at_builtin; refine wpList_append_row _ rfl _ _ 24 rfl w.heap.size 28 i0 (.agg #[.string ⟨#[]⟩, .string ⟨#[]⟩]) 2 32 Tryd.underlying24 hi hz0 hz1 hz2 rfl (by decide) _ _ _ rfl hown0 A L.length c (fcells L) rfl hr3 hfl (fcells_one L) ?a3 ?a4 ?a5 ?_)
  case a3 => unfold maxLen; omega
  case a4 => omega
  case a5 => exact hb3a.size
  intro v4 w4 hown4 hg4 _
  have hb4' : Below w.heap.size w w4 := hb3a.grown hg4 hb3a.size (fun k hk => (hown0.lt k hk).1)
  clear hown0 hg4 hr3
  go_wp2_with (at_builtin; refine wpList_append_own _ rfl _ _ 24 rfl w.heap.size 28 i0 (.agg #[.string ⟨#[]⟩, .string ⟨#[]⟩]) 2 32 Tryd.underlying24 hi hz0 hz1 hz2 rfl (by decide) _ _ _ rfl (hown4.alloc _) ⟨w4.heap.size, 0, none⟩ 1 1 [.string ⟨#[67, 111, 110, 116, 101, 110, 116, 45, 84, 121, 112, 101]⟩, .string ⟨s.toArray⟩] rfl rfl (cell_two_new _ _ _ _) ?b2 ?b3 ?b4 ?b5 ?_)
  case b2 => intro u hu; simp at hu; rcases hu with rfl | rfl <;> rfl
  case b3 => unfold maxLen; omega
  case b4 => omega
  case b5 => have := hb4'.size; simp; omega
  intro v5 w5 hown5 hg5 _
  have hb5' : Below w.heap.size w w5 := (hb4'.alloc hb4'.size _).grown hg5 (by have := hb4'.size; simp; omega) (fun k hk => (hown4.lt k hk).1)
  have hown5' := HC.out _ _ _ hown5
  obtain ⟨A5, c5, hv5, hc5, _, hrow5, _⟩ := owns_open hown5'
  subst hv5
  clear hown5 hown5' hown4 hg5
  have cK3 := kind_any A5 c5 M w5 hrow5 hfit1 (by omega) (hg.below hb5')
  go_wp2_with fail
  refine cK3.mono ?_
  rintro e w6 ⟨rfl, hb6⟩
  have hb6' := hb5'.trans (hb6.mono hb5'.size)
  have cK4 := rkinds_any A5 c5 M w6 (hrow5.below hb6) hfit1 (by omega)
  obtain ⟨K2, hK2⟩ : ∃ K, K = kindS (getF M ctName).1 := ⟨_, rfl⟩
  rw [← hK2] at cK4 ⊢
  clear hK2 cK3
  obtain ⟨k4, k5, k6⟩ := K2
  simp only [kind3] at cK4 ⊢
  go_wp2_with fail
  refine cK4.mono ?_
  rintro e w7 ⟨rfl, hb7⟩
  have hb7' := hb6'.trans (hb7.mono hb6'.size)
  clear cK4
  have cG1 := get_any A c L s w7 (hr.below hb7') hfit (by omega) (by omega)
  go_wp2_with fail
  refine cG1.mono ?_
  rintro e w8 ⟨rfl, hb8⟩
  have hb8' := hb7'.trans (hb8.mono hb7'.size)
  have cG2 := rget_any A c L s w8 (hr.below hb8') hfit (by omega) (by omega)
  obtain ⟨G, hG⟩ : ∃ G, G = getF L s := ⟨_, rfl⟩
  rw [← hG] at cG2 ⊢
  clear hG cG1
  obtain ⟨g1, g2⟩ := G
  dsimp only at cG2 ⊢
  go_wp2_with fail
  refine cG2.mono ?_
  rintro e w9 ⟨rfl, hb9⟩
  have hb9' := hb8'.trans (hb9.mono hb8'.size)
  clear cG2
  go_wp2_with fail
  refine (words_any s w9 (by omega)).mono ?_
  rintro e w10 ⟨A10, c10, rfl, hrow10, hc10, hm10, hb10⟩
  have hb10' := hb9'.trans (hb10.mono hb9'.size)
  have cW := rwords_any s w10 (by omega)
  unfold WDone at cW
  obtain ⟨ws, hws⟩ : ∃ ws, ws = wordsS s := ⟨_, rfl⟩
  rw [← hws] at cW hrow10 hc10 ⊢
  clear hws
  go_wp2_with fail
  refine cW.mono ?_
  rintro e w11 ⟨A11, c11, rfl, hrow11, hc11, _, hb11⟩
  have hb11' := hb10'.trans (hb11.mono hb10'.size)
  have hrow10' := hrow10.below hb11
  unfold maxLen at hm10
  have hwl : ws.length ≤ 9223372036854775807 := Nat.le_trans hc10 hm10
  clear cW
  cases g2
  all_goals
    go_wp2
    go_loopw [25] (fun i wx => ∃ k : Nat, i = .int .i64 k ∧ k ≤ ws.length ∧ Below w11.heap.size w11 wx) (fun i _ => ws.length - (intOf i).toNat)
    case atStart => exact ⟨0, rfl, Nat.zero_le _, Below.refl _ _⟩
    case round =>
      obtain ⟨k, rfl, hk, hbx⟩ := hrel
      have hbr := hb11'.trans (hbx.mono hb11'.size)
      by_cases hkL : k < ws.length
      · have hkL1 : (k : Int) < (ws.length : Int) := by omega
        have hne : wcells ws ≠ [] := fun e => by have := congrArg List.length e; simp only [wcells, List.length_map, List.length_nil] at this; omega
        obtain ⟨b3, o3, rfl, _⟩ := hrow10'.addr hne
        obtain ⟨b4, o4, rfl, _⟩ := hrow11.addr hne
        have q1 := wcells_get (hrow10'.below hbx) k hkL
        have q2 := wcells_get (hrow11.below hbx) k hkL
        generalize ws[k] = f at *
        go_wp2
        go_region
        all_goals
          go_wp2
          go_roundw
          case rel => exact ⟨k + 1, by go_num, by omega, hbx.drew⟩
          case measure => simp [intOf]; omega
      · have hkL1 : ¬ ((k : Int) < (ws.length : Int)) := by omega
        go_wp2
        go_ret
        exact ⟨rfl, hbr⟩
end Go.Proofs.YtbjbljfmcpidmaaDoor

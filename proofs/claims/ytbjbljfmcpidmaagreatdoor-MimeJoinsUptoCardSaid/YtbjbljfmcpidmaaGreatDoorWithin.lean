/- mime: the parts of a part. -/
import Derived.Test.YtbjbljfmcpidmaaGreatDoorWithinL
import Derived.Test.YtbjbljfmcpidmaaGreatDoorEnds
namespace Go.Proofs.YtbjbljfmcpidmaaGreatDoor
open Go.RowKit Go.Lib Go.Shelf
set_option maxHeartbeats 16000000 in
set_option maxRecDepth 100000 in
theorem within_any (k : Nat) (hk : PartC k) (R P bb oo : Nat) (c : Nat) (b : List UInt8) (ty sub bd enc : List UInt8) (fr bo to_ : Nat) (deep : Int) (w : World) (n : Nat)
    (hP : PC w P ty sub bd enc fr bo to_ (.slice none 0 0)) (hRR : RR w R (some ⟨bb, oo, none⟩) b c n) (hr : RowIn w (some ⟨bb, oo, none⟩) (bcells b)) (hg : Gl w) (hRl : R < w.heap.size) (hPl : P < w.heap.size) (hPR : P ≠ R) (hbb : bb ≠ R ∧ bb ≠ P ∧ bb < w.heap.size) (gR : gne R) (gP : gne P)
    (hd0 : 0 ≤ deep) (hd : deep + 1 + k = 4) (hb : b.length ≤ 2000000) (hbd : bd.length ≤ 2000000) (hc : b.length ≤ c) (hbo : bo ≤ to_) (hto : to_ ≤ b.length) (hn : n ≤ 16) :
    Calls Tryz.prog 75 #[.pointer (some ⟨R, 0, none⟩), .pointer (some ⟨P, 0, none⟩), .int .i64 deep] w (WPost (partS b k) R P (some ⟨bb, oo, none⟩) c b ty sub bd enc fr bo to_ n w) := by
  have K := wk_init hRl hPl hPR (A := some ⟨bb, oo, none⟩) (fun ad e => by cases e; exact hbb) hg gR gP
  have h5 := hP.c5
  have c5x : ∀ o1 o2 o3 o4, ((((w.alloc o1).alloc o2).alloc o3).alloc o4).cell? ⟨P, 5, none⟩ = some (.int .i64 (bo : Int)) := fun o1 o2 o3 o4 => ((((fr_alloc (fun _ => False) w o1).trans (fr_alloc _ _ o2)).trans (fr_alloc _ _ o3)).trans (fr_alloc _ _ o4)).cell id h5
  obtain ⟨PD, hPD⟩ : ∃ PD, PD = WPost (partS b k) R P (some ⟨bb, oo, none⟩) c b ty sub bd enc fr bo to_ n w := ⟨_, rfl⟩
  have HI := Lib.hid (fun t1 t2 t3 t4 => ws_init (deep := deep) hP hRR hr hg hn t1 t2 t3 t4)
  have HK := Lib.hid K
  rw [← hPD]
  have HPC := Lib.hid hk
  have HPD := Lib.hid hPD
  clear K hP hRR hr hg gR gP
  go_enter Tryz.func75, Tryz.ntmps75
  go_wp2
  go_loopw [8, 9, 10, 11, 12, 13] (fun ta tb tc td te tf wr => ∃ at_ : Nat, ta = .int .i64 (at_ : Int) ∧ WI (partS b k) R P (w.heap.size + 3) w.heap.size (w.heap.size + 1) (w.heap.size + 2) (w.heap.size + 4) (some ⟨bb, oo, none⟩) c b ty sub bd enc fr bo to_ n deep w at_ wr) (fun i _ _ _ _ _ _ => to_ - (intOf i).toNat)
  case atStart =>
    exact ⟨bo, rfl, to_, n, none, .slice none 0 0, [], hbo, by omega, (HI.out _ _ _ _).1, by unfold J; simp [erases], (fun g e => by cases e), (HI.out _ _ _ _).2.weak fun _ h => h.elim⟩
  case round =>
    obtain ⟨at_, rfl, f, n1, o, v, kids, hat, hf, S, hJ, ho, hF⟩ := hrel
    have hcr := S.cr
    have hcp := S.cp
    have hR0 := S.rr.c0
    have hP6 := S.pc.c6
    have hrl : (cutB b at_ to_).length = to_ - at_ := by unfold cutB; simp; omega
    have hat2 : (at_ : Int) ≤ (to_ : Int) := by omega
    have htc : (to_ : Int) ≤ (c : Int) := by omega
    have htc2 : to_ ≤ c := by omega
    have HS := Lib.hid S
    have HJ := Lib.hid hJ
    have HF := Lib.hid hF
    have kc : ∀ (w : World) (C : Array Value) (n c : Nat), (convert 26 26 (.slice (some ⟨w.heap.size, 0, none⟩) n c)).run Tryz.prog ((w.alloc (.cells C 5)).drew) = .ok (.slice (some ⟨w.heap.size, 0, none⟩) n c) ((w.alloc (.cells C 5 (C.size, C.size + 1))).drew) := fun w C n c => Lib.run_convert_bytes_const (P := Tryz.prog) w.drew 26 5 C n c Tryz.underlying26 Tryz.underlying5
    have hS0 : (wr.drew.cell? ⟨w.heap.size, 0, none⟩ = some (.pointer (some ⟨R, 0, none⟩)) ∧ wr.drew.cell? ⟨w.heap.size + 1, 0, none⟩ = some (.pointer (some ⟨P, 0, none⟩)) ∧ wr.drew.cell? ⟨R, 0, none⟩ = some (.slice (some ⟨bb, oo, none⟩) b.length c) ∧ wr.drew.cell? ⟨P, 6, none⟩ = some (.int .i64 (to_ : Int))) := ⟨hcr, hcp, hR0, hP6⟩
    clear S hJ hF HI hk hPD h5 c5x
    have hS1 : ∀ o : Obj, ((wr.alloc o).drew.cell? ⟨w.heap.size, 0, none⟩ = some (.pointer (some ⟨R, 0, none⟩)) ∧ (wr.alloc o).drew.cell? ⟨w.heap.size + 1, 0, none⟩ = some (.pointer (some ⟨P, 0, none⟩)) ∧ (wr.alloc o).drew.cell? ⟨R, 0, none⟩ = some (.slice (some ⟨bb, oo, none⟩) b.length c) ∧ (wr.alloc o).drew.cell? ⟨P, 6, none⟩ = some (.int .i64 (to_ : Int))) := fun o => four_keep (S := fun _ => False) (Fr.of_below ((Below.refl _ _).alloc (Nat.le_refl _) _).drew) id id id id (show (wr.cell? _ = _ ∧ wr.cell? _ = _ ∧ wr.cell? _ = _ ∧ wr.cell? _ = _) from ⟨hcr, hcp, hR0, hP6⟩)
    have hnx := next_int b at_ to_
    by_cases hcap : c = at_
    case' pos =>
      obtain rfl : at_ = c := hcap.symm
      have HC0 := cut_at HS.out hat hto htc2 hb oo (.inr (by omega)) 5
      have hta : to_ - at_ = 0 := by omega
      rw [hta] at HC0
      simp only [Nat.sub_self] at HC0
      have HC := Lib.hid HC0
      clear HC0 hcap hta
      go_wp2
      refine wp_region_held_drew (S := (fun w' => (w'.cell? ⟨w.heap.size, 0, none⟩ = some (.pointer (some ⟨R, 0, none⟩)) ∧ w'.cell? ⟨w.heap.size + 1, 0, none⟩ = some (.pointer (some ⟨P, 0, none⟩)) ∧ w'.cell? ⟨R, 0, none⟩ = some (.slice (some ⟨bb, oo, none⟩) b.length at_) ∧ w'.cell? ⟨P, 6, none⟩ = some (.int .i64 (to_ : Int))))) (by kernel_rfl) hS0 (fun hHeld => ?_)
      refine wpAnyH_take (i := 0) (v := ?_) rfl (by kernel_rfl) (by kernel_rfl) (by kernel_rfl) (fun _ _ _ h => h) (Or.inl ⟨by rfl, ?_⟩) hHeld ?_
      rotate_left
      · (intro w hSw; (try dsimp only at hSw); go_simp; (all_goals with_reducible rfl))
      try simp only [Act.put, List.getElem_toArray, List.getElem_cons_zero, List.setIfInBounds_toArray, List.set_cons_zero, List.set_cons_succ]
      refine wpAnyH_take (i := 1) (v := ?_) rfl (by kernel_rfl) (by kernel_rfl) (by kernel_rfl) (fun _ _ _ h => h) (Or.inl ⟨by rfl, ?_⟩) hHeld ?_
      rotate_left
      · (intro w hSw; (try dsimp only at hSw); go_simp; (all_goals with_reducible rfl))
      try simp only [Act.put, List.getElem_toArray, List.getElem_cons_zero, List.getElem_cons_succ, List.setIfInBounds_toArray, List.set_cons_zero, List.set_cons_succ]
      refine wpAnyH_take (i := 2) (v := ?_) rfl (by kernel_rfl) (by kernel_rfl) (by kernel_rfl) (fun _ _ _ h => h) (Or.inl ⟨by rfl, ?_⟩) hHeld ?_
      rotate_left
      · (intro w hSw; (try dsimp only at hSw); go_simp; (all_goals with_reducible rfl))
      try simp only [Act.put, List.getElem_toArray, List.getElem_cons_zero, List.getElem_cons_succ, List.setIfInBounds_toArray, List.set_cons_zero, List.set_cons_succ]
      refine wpAnyH_take (i := 3) (v := ?_) rfl (by kernel_rfl) (by kernel_rfl) (by kernel_rfl) (fun _ _ _ h => h) (Or.inl ⟨by rfl, ?_⟩) hHeld ?_
      rotate_left
      · (intro w hSw; (try dsimp only at hSw); go_simp; (all_goals with_reducible rfl))
      try simp only [Act.put, List.getElem_toArray, List.getElem_cons_zero, List.getElem_cons_succ, List.setIfInBounds_toArray, List.set_cons_zero, List.set_cons_succ]
      refine wpAnyH_take (i := 4) (v := ?_) rfl (by kernel_rfl) (by kernel_rfl) (by kernel_rfl) (fun _ _ _ h => h) (Or.inl ⟨by rfl, ?_⟩) hHeld ?_
      rotate_left
      · (intro w hSw; (try dsimp only at hSw); go_simp; (all_goals with_reducible rfl))
      try simp only [Act.put, List.getElem_toArray, List.getElem_cons_zero, List.getElem_cons_succ, List.setIfInBounds_toArray, List.set_cons_zero, List.set_cons_succ]
      refine wpAnyH_take (i := 5) (v := ?_) rfl (by kernel_rfl) (by kernel_rfl) (by kernel_rfl) (fun _ _ _ h => h) (Or.inl ⟨by rfl, ?_⟩) hHeld ?_
      rotate_left
      · (intro w hSw; (try dsimp only at hSw); go_simp; (all_goals with_reducible rfl))
      try simp only [Act.put, List.getElem_toArray, List.getElem_cons_zero, List.getElem_cons_succ, List.setIfInBounds_toArray, List.set_cons_zero, List.set_cons_succ]
      refine wpAnyH_take (i := 6) (v := ?_) rfl (by kernel_rfl) (by kernel_rfl) (by kernel_rfl) (fun _ _ _ h => h) (Or.inl ⟨by rfl, ?_⟩) hHeld ?_
      rotate_left
      · (intro w hSw; (try dsimp only at hSw); go_simp; (all_goals with_reducible rfl))
      try simp only [Act.put, List.getElem_toArray, List.getElem_cons_zero, List.getElem_cons_succ, List.setIfInBounds_toArray, List.set_cons_zero, List.set_cons_succ]
      refine wpAnyH_take (i := 7) (v := ?_) rfl (by kernel_rfl) (by kernel_rfl) (by kernel_rfl) (fun _ _ _ h => h) (Or.inl ⟨by rfl, ?_⟩) hHeld ?_
      rotate_left
      · (intro w hSw; (try dsimp only at hSw); go_simp; (all_goals with_reducible rfl))
      try simp only [Act.put, List.getElem_toArray, List.getElem_cons_zero, List.getElem_cons_succ, List.setIfInBounds_toArray, List.set_cons_zero, List.set_cons_succ]
      refine wpAnyH_take (i := 8) (v := ?_) rfl (by kernel_rfl) (by kernel_rfl) (by kernel_rfl) (fun _ _ _ h => h) (Or.inl ⟨by rfl, ?_⟩) hHeld ?_
      rotate_left
      · (intro w hSw; (try dsimp only at hSw); go_simp; (all_goals with_reducible rfl))
      try simp only [Act.put, List.getElem_toArray, List.getElem_cons_zero, List.getElem_cons_succ, List.setIfInBounds_toArray, List.set_cons_zero, List.set_cons_succ]
      refine wpAnyH_take (i := 9) (v := ?_) rfl (by kernel_rfl) (by kernel_rfl) (by kernel_rfl) (fun _ _ _ h => h) (Or.inl ⟨by rfl, ?_⟩) hHeld ?_
      rotate_left
      · (intro w hSw; (try dsimp only at hSw); go_simp; (all_goals with_reducible rfl))
      try simp only [Act.put, List.getElem_toArray, List.getElem_cons_zero, List.getElem_cons_succ, List.setIfInBounds_toArray, List.set_cons_zero, List.set_cons_succ]
      refine wpAnyH_ready (rs := [10]) (by kernel_rfl) (by simp) ?_
      refine AllReadyH.cons rfl (fun K hK => ?_) AllReadyH.nil
      try simp only [List.getElem_toArray, List.getElem_cons_zero, List.getElem_cons_succ]
      go_simp
      clear hHeld
      refine hK.out _ _ ?_ (fun hHeld => ?_)
      · ((try dsimp only); (first | exact hS0 | exact hS1 _ | assumption))
      clear hK K
      try simp only [Act.put, List.getElem_toArray, List.getElem_cons_zero, List.getElem_cons_succ, List.setIfInBounds_toArray, List.set_cons_zero, List.set_cons_succ]
      refine wpAnyH_ready (rs := [11]) (by kernel_rfl) (by simp) ?_
      refine AllReadyH.cons rfl (fun K hK => ?_) AllReadyH.nil
      try simp only [List.getElem_toArray, List.getElem_cons_zero, List.getElem_cons_succ]
      go_simp
      clear hHeld
      refine hK.out _ _ ?_ (fun hHeld => ?_)
      · ((try dsimp only); (first | exact hS0 | exact hS1 _ | assumption))
      clear hK K
      try simp only [Act.put, List.getElem_toArray, List.getElem_cons_zero, List.getElem_cons_succ, List.setIfInBounds_toArray, List.set_cons_zero, List.set_cons_succ]
      refine wpAnyH_ready (rs := [12]) (by kernel_rfl) (by simp) ?_
      refine AllReadyH.cons rfl (fun K hK => ?_) AllReadyH.nil
      try simp only [List.getElem_toArray, List.getElem_cons_zero, List.getElem_cons_succ]
      go_simp
      go_wp2_with ((go_at_call 55; with_reducible refine HC.out.mono ?_); rintro e w2 ⟨X, rfl, S2, hS2, hP2, hr2, hF2⟩)
      clear hHeld
      refine hK.out _ _ ?_ (fun hHeld => ?_)
      · ((try dsimp only); (first | exact hS0 | exact hS1 _ | assumption))
      clear hK K
      try simp only [Act.put, List.getElem_toArray, List.getElem_cons_zero, List.getElem_cons_succ, List.setIfInBounds_toArray, List.set_cons_zero, List.set_cons_succ]
      refine wpAnyH_take (i := 13) (v := ?_) rfl (by kernel_rfl) (by kernel_rfl) (by kernel_rfl) (fun _ _ _ h => h) (Or.inl ⟨by rfl, ?_⟩) hHeld ?_
      rotate_left
      · (intro w hSw; (try dsimp only at hSw); go_simp; (all_goals with_reducible rfl))
      try simp only [Act.put, List.getElem_toArray, List.getElem_cons_zero, List.getElem_cons_succ, List.setIfInBounds_toArray, List.set_cons_zero, List.set_cons_succ]
      refine wpAnyH_take (i := 14) (v := ?_) rfl (by kernel_rfl) (by kernel_rfl) (by kernel_rfl) (fun _ _ _ h => h) (Or.inl ⟨by rfl, ?_⟩) hHeld ?_
      rotate_left
      · (intro w hSw; (try dsimp only at hSw); go_simp; (all_goals with_reducible rfl))
      try simp only [Act.put, List.getElem_toArray, List.getElem_cons_zero, List.getElem_cons_succ, List.setIfInBounds_toArray, List.set_cons_zero, List.set_cons_succ]
      refine wpAnyH_take (i := 15) (v := ?_) rfl (by kernel_rfl) (by kernel_rfl) (by kernel_rfl) (fun _ _ _ h => h) (Or.inl ⟨by rfl, ?_⟩) hHeld ?_
      rotate_left
      · (intro w hSw; (try dsimp only at hSw); go_simp; (all_goals with_reducible rfl))
      try simp only [Act.put, List.getElem_toArray, List.getElem_cons_zero, List.getElem_cons_succ, List.setIfInBounds_toArray, List.set_cons_zero, List.set_cons_succ]
      refine wpAnyH_take (i := 16) (v := ?_) rfl (by kernel_rfl) (by kernel_rfl) (by kernel_rfl) (fun _ _ _ h => h) (Or.inl ⟨by rfl, ?_⟩) hHeld ?_
      rotate_left
      · (intro w hSw; (try dsimp only at hSw); go_simp; (all_goals with_reducible rfl))
      try simp only [Act.put, List.getElem_toArray, List.getElem_cons_zero, List.getElem_cons_succ, List.setIfInBounds_toArray, List.set_cons_zero, List.set_cons_succ]
      refine wpAnyH_take (i := 17) (v := ?_) rfl (by kernel_rfl) (by kernel_rfl) (by kernel_rfl) (fun _ _ _ h => h) (Or.inl ⟨by rfl, ?_⟩) hHeld ?_
      rotate_left
      · (intro w hSw; (try dsimp only at hSw); go_simp; (all_goals with_reducible rfl))
      try simp only [Act.put, List.getElem_toArray, List.getElem_cons_zero, List.getElem_cons_succ, List.setIfInBounds_toArray, List.set_cons_zero, List.set_cons_succ]
      refine wpAnyH_take (i := 18) (v := ?_) rfl (by kernel_rfl) (by kernel_rfl) (by kernel_rfl) (fun _ _ _ h => h) (Or.inl ⟨by rfl, ?_⟩) hHeld ?_
      rotate_left
      · (intro w hSw; (try dsimp only at hSw); go_simp; (all_goals with_reducible rfl))
      try simp only [Act.put, List.getElem_toArray, List.getElem_cons_zero, List.getElem_cons_succ, List.setIfInBounds_toArray, List.set_cons_zero, List.set_cons_succ]
      refine wpAnyH_take (i := 19) (v := ?_) rfl (by kernel_rfl) (by kernel_rfl) (by kernel_rfl) (fun _ _ _ h => h) (Or.inl ⟨by rfl, ?_⟩) hHeld ?_
      rotate_left
      · (intro w hSw; (try dsimp only at hSw); go_simp; (all_goals with_reducible rfl))
      try simp only [Act.put, List.getElem_toArray, List.getElem_cons_zero, List.getElem_cons_succ, List.setIfInBounds_toArray, List.set_cons_zero, List.set_cons_succ]
      refine wpAnyH_done (by kernel_rfl) ?_ _
    case' neg =>
      have hcap2 : ¬ (c : Int) = (at_ : Int) := by omega
      have HC := Lib.hid (cut_at HS.out hat hto htc2 hb (oo + at_) (.inl rfl) 5)
      go_wp2
      refine wp_region_held_drew (S := (fun w' => (w'.cell? ⟨w.heap.size, 0, none⟩ = some (.pointer (some ⟨R, 0, none⟩)) ∧ w'.cell? ⟨w.heap.size + 1, 0, none⟩ = some (.pointer (some ⟨P, 0, none⟩)) ∧ w'.cell? ⟨R, 0, none⟩ = some (.slice (some ⟨bb, oo, none⟩) b.length c) ∧ w'.cell? ⟨P, 6, none⟩ = some (.int .i64 (to_ : Int))))) (by kernel_rfl) hS0 (fun hHeld => ?_)
      refine wpAnyH_take (i := 0) (v := ?_) rfl (by kernel_rfl) (by kernel_rfl) (by kernel_rfl) (fun _ _ _ h => h) (Or.inl ⟨by rfl, ?_⟩) hHeld ?_
      rotate_left
      · (intro w hSw; (try dsimp only at hSw); go_simp; (all_goals with_reducible rfl))
      try simp only [Act.put, List.getElem_toArray, List.getElem_cons_zero, List.setIfInBounds_toArray, List.set_cons_zero, List.set_cons_succ]
      refine wpAnyH_take (i := 1) (v := ?_) rfl (by kernel_rfl) (by kernel_rfl) (by kernel_rfl) (fun _ _ _ h => h) (Or.inl ⟨by rfl, ?_⟩) hHeld ?_
      rotate_left
      · (intro w hSw; (try dsimp only at hSw); go_simp; (all_goals with_reducible rfl))
      try simp only [Act.put, List.getElem_toArray, List.getElem_cons_zero, List.getElem_cons_succ, List.setIfInBounds_toArray, List.set_cons_zero, List.set_cons_succ]
      refine wpAnyH_take (i := 2) (v := ?_) rfl (by kernel_rfl) (by kernel_rfl) (by kernel_rfl) (fun _ _ _ h => h) (Or.inl ⟨by rfl, ?_⟩) hHeld ?_
      rotate_left
      · (intro w hSw; (try dsimp only at hSw); go_simp; (all_goals with_reducible rfl))
      try simp only [Act.put, List.getElem_toArray, List.getElem_cons_zero, List.getElem_cons_succ, List.setIfInBounds_toArray, List.set_cons_zero, List.set_cons_succ]
      refine wpAnyH_take (i := 3) (v := ?_) rfl (by kernel_rfl) (by kernel_rfl) (by kernel_rfl) (fun _ _ _ h => h) (Or.inl ⟨by rfl, ?_⟩) hHeld ?_
      rotate_left
      · (intro w hSw; (try dsimp only at hSw); go_simp; (all_goals with_reducible rfl))
      try simp only [Act.put, List.getElem_toArray, List.getElem_cons_zero, List.getElem_cons_succ, List.setIfInBounds_toArray, List.set_cons_zero, List.set_cons_succ]
      refine wpAnyH_take (i := 4) (v := ?_) rfl (by kernel_rfl) (by kernel_rfl) (by kernel_rfl) (fun _ _ _ h => h) (Or.inl ⟨by rfl, ?_⟩) hHeld ?_
      rotate_left
      · (intro w hSw; (try dsimp only at hSw); go_simp; (all_goals with_reducible rfl))
      try simp only [Act.put, List.getElem_toArray, List.getElem_cons_zero, List.getElem_cons_succ, List.setIfInBounds_toArray, List.set_cons_zero, List.set_cons_succ]
      refine wpAnyH_take (i := 5) (v := ?_) rfl (by kernel_rfl) (by kernel_rfl) (by kernel_rfl) (fun _ _ _ h => h) (Or.inl ⟨by rfl, ?_⟩) hHeld ?_
      rotate_left
      · (intro w hSw; (try dsimp only at hSw); go_simp; (all_goals with_reducible rfl))
      try simp only [Act.put, List.getElem_toArray, List.getElem_cons_zero, List.getElem_cons_succ, List.setIfInBounds_toArray, List.set_cons_zero, List.set_cons_succ]
      refine wpAnyH_take (i := 6) (v := ?_) rfl (by kernel_rfl) (by kernel_rfl) (by kernel_rfl) (fun _ _ _ h => h) (Or.inl ⟨by rfl, ?_⟩) hHeld ?_
      rotate_left
      · (intro w hSw; (try dsimp only at hSw); go_simp; (all_goals with_reducible rfl))
      try simp only [Act.put, List.getElem_toArray, List.getElem_cons_zero, List.getElem_cons_succ, List.setIfInBounds_toArray, List.set_cons_zero, List.set_cons_succ]
      refine wpAnyH_take (i := 7) (v := ?_) rfl (by kernel_rfl) (by kernel_rfl) (by kernel_rfl) (fun _ _ _ h => h) (Or.inl ⟨by rfl, ?_⟩) hHeld ?_
      rotate_left
      · (intro w hSw; (try dsimp only at hSw); go_simp; (all_goals with_reducible rfl))
      try simp only [Act.put, List.getElem_toArray, List.getElem_cons_zero, List.getElem_cons_succ, List.setIfInBounds_toArray, List.set_cons_zero, List.set_cons_succ]
      refine wpAnyH_take (i := 8) (v := ?_) rfl (by kernel_rfl) (by kernel_rfl) (by kernel_rfl) (fun _ _ _ h => h) (Or.inl ⟨by rfl, ?_⟩) hHeld ?_
      rotate_left
      · (intro w hSw; (try dsimp only at hSw); go_simp; (all_goals with_reducible rfl))
      try simp only [Act.put, List.getElem_toArray, List.getElem_cons_zero, List.getElem_cons_succ, List.setIfInBounds_toArray, List.set_cons_zero, List.set_cons_succ]
      refine wpAnyH_take (i := 9) (v := ?_) rfl (by kernel_rfl) (by kernel_rfl) (by kernel_rfl) (fun _ _ _ h => h) (Or.inl ⟨by rfl, ?_⟩) hHeld ?_
      rotate_left
      · (intro w hSw; (try dsimp only at hSw); go_simp; (all_goals with_reducible rfl))
      try simp only [Act.put, List.getElem_toArray, List.getElem_cons_zero, List.getElem_cons_succ, List.setIfInBounds_toArray, List.set_cons_zero, List.set_cons_succ]
      refine wpAnyH_ready (rs := [10]) (by kernel_rfl) (by simp) ?_
      refine AllReadyH.cons rfl (fun K hK => ?_) AllReadyH.nil
      try simp only [List.getElem_toArray, List.getElem_cons_zero, List.getElem_cons_succ]
      go_simp
      clear hHeld
      refine hK.out _ _ ?_ (fun hHeld => ?_)
      · ((try dsimp only); (first | exact hS0 | exact hS1 _ | assumption))
      clear hK K
      try simp only [Act.put, List.getElem_toArray, List.getElem_cons_zero, List.getElem_cons_succ, List.setIfInBounds_toArray, List.set_cons_zero, List.set_cons_succ]
      refine wpAnyH_ready (rs := [11]) (by kernel_rfl) (by simp) ?_
      refine AllReadyH.cons rfl (fun K hK => ?_) AllReadyH.nil
      try simp only [List.getElem_toArray, List.getElem_cons_zero, List.getElem_cons_succ]
      go_simp
      clear hHeld
      refine hK.out _ _ ?_ (fun hHeld => ?_)
      · ((try dsimp only); (first | exact hS0 | exact hS1 _ | assumption))
      clear hK K
      try simp only [Act.put, List.getElem_toArray, List.getElem_cons_zero, List.getElem_cons_succ, List.setIfInBounds_toArray, List.set_cons_zero, List.set_cons_succ]
      refine wpAnyH_ready (rs := [12]) (by kernel_rfl) (by simp) ?_
      refine AllReadyH.cons rfl (fun K hK => ?_) AllReadyH.nil
      try simp only [List.getElem_toArray, List.getElem_cons_zero, List.getElem_cons_succ]
      go_simp
      go_wp2_with ((go_at_call 55; with_reducible refine HC.out.mono ?_); rintro e w2 ⟨X, rfl, S2, hS2, hP2, hr2, hF2⟩)
      clear hHeld
      refine hK.out _ _ ?_ (fun hHeld => ?_)
      · ((try dsimp only); (first | exact hS0 | exact hS1 _ | assumption))
      clear hK K
      try simp only [Act.put, List.getElem_toArray, List.getElem_cons_zero, List.getElem_cons_succ, List.setIfInBounds_toArray, List.set_cons_zero, List.set_cons_succ]
      refine wpAnyH_take (i := 13) (v := ?_) rfl (by kernel_rfl) (by kernel_rfl) (by kernel_rfl) (fun _ _ _ h => h) (Or.inl ⟨by rfl, ?_⟩) hHeld ?_
      rotate_left
      · (intro w hSw; (try dsimp only at hSw); go_simp; (all_goals with_reducible rfl))
      try simp only [Act.put, List.getElem_toArray, List.getElem_cons_zero, List.getElem_cons_succ, List.setIfInBounds_toArray, List.set_cons_zero, List.set_cons_succ]
      refine wpAnyH_take (i := 14) (v := ?_) rfl (by kernel_rfl) (by kernel_rfl) (by kernel_rfl) (fun _ _ _ h => h) (Or.inl ⟨by rfl, ?_⟩) hHeld ?_
      rotate_left
      · (intro w hSw; (try dsimp only at hSw); go_simp; (all_goals with_reducible rfl))
      try simp only [Act.put, List.getElem_toArray, List.getElem_cons_zero, List.getElem_cons_succ, List.setIfInBounds_toArray, List.set_cons_zero, List.set_cons_succ]
      refine wpAnyH_take (i := 15) (v := ?_) rfl (by kernel_rfl) (by kernel_rfl) (by kernel_rfl) (fun _ _ _ h => h) (Or.inl ⟨by rfl, ?_⟩) hHeld ?_
      rotate_left
      · (intro w hSw; (try dsimp only at hSw); go_simp; (all_goals with_reducible rfl))
      try simp only [Act.put, List.getElem_toArray, List.getElem_cons_zero, List.getElem_cons_succ, List.setIfInBounds_toArray, List.set_cons_zero, List.set_cons_succ]
      refine wpAnyH_take (i := 16) (v := ?_) rfl (by kernel_rfl) (by kernel_rfl) (by kernel_rfl) (fun _ _ _ h => h) (Or.inl ⟨by rfl, ?_⟩) hHeld ?_
      rotate_left
      · (intro w hSw; (try dsimp only at hSw); go_simp; (all_goals with_reducible rfl))
      try simp only [Act.put, List.getElem_toArray, List.getElem_cons_zero, List.getElem_cons_succ, List.setIfInBounds_toArray, List.set_cons_zero, List.set_cons_succ]
      refine wpAnyH_take (i := 17) (v := ?_) rfl (by kernel_rfl) (by kernel_rfl) (by kernel_rfl) (fun _ _ _ h => h) (Or.inl ⟨by rfl, ?_⟩) hHeld ?_
      rotate_left
      · (intro w hSw; (try dsimp only at hSw); go_simp; (all_goals with_reducible rfl))
      try simp only [Act.put, List.getElem_toArray, List.getElem_cons_zero, List.getElem_cons_succ, List.setIfInBounds_toArray, List.set_cons_zero, List.set_cons_succ]
      refine wpAnyH_take (i := 18) (v := ?_) rfl (by kernel_rfl) (by kernel_rfl) (by kernel_rfl) (fun _ _ _ h => h) (Or.inl ⟨by rfl, ?_⟩) hHeld ?_
      rotate_left
      · (intro w hSw; (try dsimp only at hSw); go_simp; (all_goals with_reducible rfl))
      try simp only [Act.put, List.getElem_toArray, List.getElem_cons_zero, List.getElem_cons_succ, List.setIfInBounds_toArray, List.set_cons_zero, List.set_cons_succ]
      refine wpAnyH_take (i := 19) (v := ?_) rfl (by kernel_rfl) (by kernel_rfl) (by kernel_rfl) (fun _ _ _ h => h) (Or.inl ⟨by rfl, ?_⟩) hHeld ?_
      rotate_left
      · (intro w hSw; (try dsimp only at hSw); go_simp; (all_goals with_reducible rfl))
      try simp only [Act.put, List.getElem_toArray, List.getElem_cons_zero, List.getElem_cons_succ, List.setIfInBounds_toArray, List.set_cons_zero, List.set_cons_succ]
      refine wpAnyH_done (by kernel_rfl) ?_ _
    all_goals
      obtain ⟨ln, hln⟩ : ∃ ln, lineOf (cutB b at_ to_) = ln := ⟨_, rfl⟩
      obtain ⟨wh, hwh⟩ : ∃ wh, wholeOf (cutB b at_ to_) = wh := ⟨_, rfl⟩
      rw [hln] at hr2 hnx
      rw [hln, hwh]
      have hlnl : ln.length ≤ 2000000 := by
        have := line_le (cutB b at_ to_)
        rw [hln, hrl] at this
        omega
      have hsort := fun cc => sort_any _ cc ln bd w2 hr2 hlnl hbd S2.gl
      obtain ⟨hc1, hc2, hc3, hc4⟩ := hS2
      have HL := Lib.hid hln
      have HW := Lib.hid hwh
      have HR := Lib.hid hrl
      generalize hnxe : nextOf b at_ to_ = nx at *
      clear HC hln hwh hrl hS0 hS1 kc hr2 hcr hcp hR0 hP6
      have hkS : sortS (lineOf (cutB b at_ to_)) bd = sortS ln bd := by rw [HL.out]
      have hnle : nx ≤ to_ := hnxe ▸ next_le b at_ to_
      have hoB : ∀ g, o = some g → g ≤ b.length := fun g e => Nat.le_trans (ho g e) hto
      have hF3 : Fr (fun x => (x = R ∨ x = P) ∨ w.heap.size ≤ x) w w2 := HF.out.trans (hF2.weak fun _ h => h.elim)
      have hmx : ∀ t g : Nat, max (g : Int) (t : Int) = ((max g t : Nat) : Int) := fun t g => by omega
      have hmy : ∀ g : Nat, max (g : Int) ((at_ : Int) - 2) = ((max g (at_ - 2) : Nat) : Int) := fun g => by omega
      rcases sortS_le ln bd with hs | hs | hs
      · rw [hs] at hsort
        have hJ' := J_zero HJ.out (hkS.trans hs)
        rw [hnxe, HW.out] at hJ'
        apply_assumption
        cases wh with
        | true =>
          go_wp2_with (go_at_call 141; (with_reducible refine (hsort _).mono ?_); rintro e w3 ⟨rfl, hb3⟩; have S3 := S2.below hb3)
          have hroom := next_room b at_ to_ f hat hto hf HW.out
          have hless := next_room b at_ to_ (to_ - at_) hat hto (by omega) HW.out
          rw [hnxe] at hroom hless
          obtain ⟨f', rfl⟩ : ∃ f', f = f' + 1 := ⟨f - 1, by omega⟩
          exact ⟨⟨nx, rfl, f', n1, o, v, kids, hnle, hroom, S3, hJ', ho, hF3.trans (Fr.of_below hb3)⟩, hless⟩
        | false =>
          go_wp2_with (first | (go_at_call 141; (with_reducible refine (hsort _).mono ?_); rintro e w3 ⟨rfl, hb3⟩; have S3 := S2.below hb3; have z1 := S3.cp; have z2 := S3.pc.c6) | (go_at_call 140; (have hEc := ends_any k HPC.out R P (w.heap.size + 3) w.heap.size (w.heap.size + 1) (w.heap.size + 2) (w.heap.size + 4) (some ⟨bb, oo, none⟩) _ b ty sub bd enc fr bo to_ deep w3 o v kids n1 to_ (to_ : Int) HK.out S3 hd0 hd hb hc (fun h => by cases h) hoB hto (hmx to_)); (with_reducible refine hEc.mono ?_); rintro e w5 ⟨rfl, hE⟩))
          go_end0
          rw [HPD.out]
          exact wpost_mk ⟨rfl, hE⟩ (Nat.le_add_right _ _) (Nat.le_add_right _ _) (hF3.trans (Fr.of_below hb3)) (J_end hJ')
      · rw [hs] at hsort
        have hJ' := J_one HJ.out (hkS.trans hs)
        rw [hnxe, HW.out] at hJ'
        apply_assumption
        cases wh with
        | true =>
          go_wp2_with (first | (go_at_call 141; (with_reducible refine (hsort _).mono ?_); rintro e w3 ⟨rfl, hb3⟩; have S3 := S2.below hb3) | (go_at_call 140; (have hEc := ends_any k HPC.out R P (w.heap.size + 3) w.heap.size (w.heap.size + 1) (w.heap.size + 2) (w.heap.size + 4) (some ⟨bb, oo, none⟩) _ b ty sub bd enc fr bo to_ deep w3 o v kids n1 (at_ - 2) ((at_ : Int) - 2) HK.out S3 hd0 hd hb hc (fun h => by cases h) hoB (by omega) hmy); (with_reducible refine hEc.mono ?_); rintro e w4 ⟨rfl, v4, new4, n4, S4, he4, hF4⟩; have S5 := S4.setg HK.out (some nx) _ rfl; have z1 := S4.cg; have z2 := S4.fg; simp only [stV] at z1 S5))
          have hroom := next_room b at_ to_ f hat hto hf HW.out
          have hless := next_room b at_ to_ (to_ - at_) hat hto (by omega) HW.out
          rw [hnxe] at hroom hless
          obtain ⟨f', rfl⟩ : ∃ f', f = f' + 1 := ⟨f - 1, by omega⟩
          rw [← he4, ← erases_app] at hJ'
          exact ⟨⟨nx, rfl, f', n4, some nx, v4, kids ++ new4, hnle, hroom, S5, hJ', (fun g e => by cases e; exact hnle), ends_fr (hF3.trans (Fr.of_below hb3)) hF4 _⟩, hless⟩
        | false =>
          go_wp2_with (first | (go_at_call 141; (with_reducible refine (hsort _).mono ?_); rintro e w3 ⟨rfl, hb3⟩; have S3 := S2.below hb3) | (go_at_call 140; (have hEc := ends_any k HPC.out R P (w.heap.size + 3) w.heap.size (w.heap.size + 1) (w.heap.size + 2) (w.heap.size + 4) (some ⟨bb, oo, none⟩) _ b ty sub bd enc fr bo to_ deep w3 o v kids n1 (at_ - 2) ((at_ : Int) - 2) HK.out S3 hd0 hd hb hc (fun h => by cases h) hoB (by omega) hmy); (with_reducible refine hEc.mono ?_); rintro e w4 ⟨rfl, v4, new4, n4, S4, he4, hF4⟩; have S5 := S4.setg HK.out (some nx) _ rfl; have z1 := S4.cg; have z2 := S4.fg; simp only [stV] at z1 S5; have z3 := S5.cp; have z4 := S5.pc.c6) | (go_at_call 140; (have hEc := ends_any k HPC.out R P (w.heap.size + 3) w.heap.size (w.heap.size + 1) (w.heap.size + 2) (w.heap.size + 4) (some ⟨bb, oo, none⟩) _ b ty sub bd enc fr bo to_ deep _ (some nx) v4 (kids ++ new4) n4 to_ (to_ : Int) HK.out S5 hd0 hd hb hc (fun h => by cases h) (fun g e => by cases e; omega) hto (hmx to_)); (with_reducible refine hEc.mono ?_); rintro e w5 ⟨rfl, hE⟩))
          go_end0
          rw [HPD.out]
          rw [← he4, ← erases_app] at hJ'
          exact wpost_mk ⟨rfl, hE⟩ (Nat.le_add_right _ _) (Nat.le_add_right _ _) (ends_fr (hF3.trans (Fr.of_below hb3)) hF4 _) (J_end hJ')
      · rw [hs] at hsort
        have hJ' := J_two HJ.out (hkS.trans hs)
        apply_assumption
        go_wp2_with (first | (go_at_call 141; (with_reducible refine (hsort _).mono ?_); rintro e w3 ⟨rfl, hb3⟩; have S3 := S2.below hb3) | (go_at_call 140; (have hEc := ends_any k HPC.out R P (w.heap.size + 3) w.heap.size (w.heap.size + 1) (w.heap.size + 2) (w.heap.size + 4) (some ⟨bb, oo, none⟩) _ b ty sub bd enc fr bo to_ deep w3 o v kids n1 (at_ - 2) ((at_ : Int) - 2) HK.out S3 hd0 hd hb hc (fun h => by cases h) hoB (by omega) hmy); (with_reducible refine hEc.mono ?_); rintro e w4 ⟨rfl, hE⟩))
        go_end0
        rw [HPD.out]
        exact wpost_mk ⟨rfl, hE⟩ (Nat.le_add_right _ _) (Nat.le_add_right _ _) (hF3.trans (Fr.of_below hb3)) hJ'
end Go.Proofs.YtbjbljfmcpidmaaGreatDoor

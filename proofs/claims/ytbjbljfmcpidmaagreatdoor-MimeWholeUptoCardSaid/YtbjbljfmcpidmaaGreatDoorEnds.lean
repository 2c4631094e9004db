/- mime: a part that has begun ends. -/
import Derived.Test.YtbjbljfmcpidmaaGreatDoorEndsL
import Derived.Deep.RegionHeld3
import Derived.IntWalk
namespace Go.Proofs.YtbjbljfmcpidmaaGreatDoor
open Go.RowKit Go.Lib Go.Shelf
set_option maxHeartbeats 2000000 in
set_option maxRecDepth 100000 in
theorem ends_any (k : Nat) (hk : PartC k) (R P Bg BR BP BD B1 : Nat) (A : Option Addr) (c : Nat) (b : List UInt8) (ty sub bd enc : List UInt8) (fr bo to_ : Nat) (deep : Int) (w : World) (o : Option Nat) (v : Value) (kids : List MP) (n at_ : Nat) (av : Int)
    (K : WK R P Bg BR BP BD B1 A) (S : WS R P Bg BR BP BD B1 A c b ty sub bd enc fr bo to_ deep w o v kids n) (hd0 : 0 ≤ deep) (hd : deep + 1 + k = 4) (hb : b.length ≤ 2000000) (hc : b.length ≤ c) (hA : A = none → c = 0) (ho : ∀ g, o = some g → g ≤ b.length) (hat : at_ ≤ b.length) (hav : ∀ g : Nat, max (g : Int) av = ((max g at_ : Nat) : Int)) :
    Calls Tryz.prog 140 #[.int .i64 av, .pointer (some ⟨Bg, 0, none⟩), .pointer (some ⟨BR, 0, none⟩), .pointer (some ⟨BP, 0, none⟩), .pointer (some ⟨BD, 0, none⟩)] w (EPost (partS b k) R P Bg BR BP BD B1 A c b ty sub bd enc fr bo to_ deep o kids n at_ w) := by
  have h1 := S.cg
  have h2 := S.fg
  have h3 := S.cr
  have h4 := S.rr.c1
  have h5 := S.rr.f1
  cases o with
  | none =>
    have HF : Hid (EPost (partS b k) R P Bg BR BP BD B1 A c b ty sub bd enc fr bo to_ deep none kids n at_ w (.returned (.tuple #[])) (w.setCell ⟨Bg, 0, none⟩ (.int .i64 (-1)))) := Lib.hid ⟨rfl, v, [], n, by rw [List.append_nil]; exact S.setg K none _ rfl, rfl, Fr.set (p := ⟨Bg, 0, none⟩) (Fr.refl _ w) (.inl (.inr (.inr (.inl rfl)))) _⟩
    obtain ⟨PD, hPD⟩ : ∃ PD, PD = EPost (partS b k) R P Bg BR BP BD B1 A c b ty sub bd enc fr bo to_ deep none kids n at_ w := ⟨_, rfl⟩
    rw [← hPD] at HF ⊢
    simp only [stV] at h1
    clear hPD hk K S ho hav
    go_enter Tryz.func140, Tryz.ntmps140
    go_wp2
    go_end0
    exact HF.out
  | some g =>
    simp only [stV] at h1
    have hg0 : (0 : Int) ≤ (g : Int) := by omega
    by_cases hn : n < 16
    · have hn2 : (n : Int) < 16 := by omega
      have hSn := S.setn K (n + 1) ((n : Int) + 1) (by omega) (by omega) (by have := S.kl; omega)
      have hFn : Fr (fun x => x = R) w (w.setCell ⟨R, 1, none⟩ (.int .i64 ((n : Int) + 1))) := Fr.set (S := fun x => x = R) (p := ⟨R, 1, none⟩) (Fr.refl _ w) (.inl rfl) _
      have hmx := hav g
      have hgl : g ≤ max g at_ := Nat.le_max_left _ _
      have hml : max g at_ ≤ b.length := Nat.max_le.2 ⟨ho g rfl, hat⟩
      generalize hmxe : max g at_ = mx at *
      go_enter Tryz.func140, Tryz.ntmps140
      go_wp2
      generalize (w.setCell ⟨R, 1, none⟩ (.int .i64 ((n : Int) + 1))) = wn at *
      go_region
      · have hSw : WS R P Bg BR BP BD B1 A c b ty sub bd enc fr bo to_ deep (wn.alloc (.cells #[.bool false] 4)).drew.drew (some g) v kids (n + 1) := (hSn.below ((Below.refl _ _).alloc (Nat.le_refl _) _)).below ((Below.refl _ _).drew.drew)
        have hFw : Fr (fun x => x = R) w (wn.alloc (.cells #[.bool false] 4)).drew.drew := hFn.trans (Fr.of_below (((Below.refl _ _).alloc (Nat.le_refl _) _).drew.drew))
        go_wp2
        obtain ⟨wx, hwx⟩ : ∃ wx, wx = (wn.alloc (.cells #[.bool false] 4)).drew := ⟨_, rfl⟩
        rw [← hwx] at hSw hFw ⊢
        clear hwx hSn hFn h1 h2 h3 h4 h5
        obtain ⟨i0, hi, hz0, hz1, hz2⟩ := info_parts infoPart
        have hS0 : (wx.drew.cell? ⟨BP, 0, none⟩ = some (.pointer (some ⟨P, 0, none⟩)) ∧ wx.drew.cell? ⟨BR, 0, none⟩ = some (.pointer (some ⟨R, 0, none⟩)) ∧ wx.drew.cell? ⟨Bg, 0, none⟩ = some (.int .i64 (g : Int)) ∧ wx.drew.cell? ⟨BD, 0, none⟩ = some (.int .i64 deep)) := ⟨hSw.cp, hSw.cr, hSw.cg, hSw.cd⟩
        have hc7 : wx.drew.cell? ⟨P, 7, none⟩ = some v := hSw.pc.c7
        have hwd : IntKind.i64.wrap (deep + 1) = deep + 1 := IntWalk.i64_in _ (by omega)
        have HCL := Lib.hid (call_part k hk g mx K hSw hd0 hd hb hc hA hgl hml)
        have HSW := Lib.hid hSw
        have HK := Lib.hid K
        have hkl0 := S.kl
        have hkl := hSw.kl
        have hsz := hSw.sz
        clear hSw K S hk ho hav
        refine wp_region_noPanic ?_
        refine wp_region_held_drew (S := (fun w' => (w'.cell? ⟨BP, 0, none⟩ = some (.pointer (some ⟨P, 0, none⟩)) ∧ w'.cell? ⟨BR, 0, none⟩ = some (.pointer (some ⟨R, 0, none⟩)) ∧ w'.cell? ⟨Bg, 0, none⟩ = some (.int .i64 (g : Int)) ∧ w'.cell? ⟨BD, 0, none⟩ = some (.int .i64 deep)))) (by kernel_rfl) (by exact hS0) (fun hHeld => ?_)
        refine wpAnyH_take (i := 0) (v := ?_) rfl (by kernel_rfl) (by kernel_rfl) (by kernel_rfl) (fun _ _ _ h => h) (Or.inl ⟨by rfl, ?_⟩) hHeld ?_
        rotate_left
        · (intro w hSw; (try dsimp only at hSw); go_simp; (all_goals with_reducible rfl))
        try simp only [Act.put, List.getElem_toArray, List.getElem_cons_zero, List.setIfInBounds_toArray, List.set_cons_zero, List.set_cons_succ]
        refine wpAnyH_take (i := 1) (v := ?_) rfl (by kernel_rfl) (by kernel_rfl) (by kernel_rfl) (fun _ _ _ h => h) (Or.inl ⟨by rfl, ?_⟩) hHeld ?_
        rotate_left
        · (intro w hSw; (try dsimp only at hSw); go_simp; (all_goals with_reducible rfl))
        try simp only [Act.put, List.getElem_toArray, List.getElem_cons_zero, List.getElem_cons_succ, List.setIfInBounds_toArray, List.set_cons_zero, List.set_cons_succ]
        refine wpAnyH_take (i := 2) (v := ?_) rfl (by kernel_rfl) (by kernel_rfl) (by kernel_rfl) (fun _ _ _ h => h) (Or.inl ⟨by rfl, ?_⟩) hHeld ?_
        rotate_left
        · (intro w hSw; (try dsimp only at hSw); go_simp; (all_goals with_reducible rfl))
        try simp only [Act.put, List.getElem_toArray, List.getElem_cons_zero, List.getElem_cons_succ, List.setIfInBounds_toArray, List.set_cons_zero, List.set_cons_succ]
        refine wpAnyH_take (i := 3) (v := ?_) rfl (by kernel_rfl) (by kernel_rfl) (by kernel_rfl) (fun _ _ _ h => h) (Or.inl ⟨by rfl, ?_⟩) hHeld ?_
        rotate_left
        · (intro w hSw; (try dsimp only at hSw); go_simp; (all_goals with_reducible rfl))
        try simp only [Act.put, List.getElem_toArray, List.getElem_cons_zero, List.getElem_cons_succ, List.setIfInBounds_toArray, List.set_cons_zero, List.set_cons_succ]
        refine wpAnyH_take (i := 5) (v := ?_) rfl (by kernel_rfl) (by kernel_rfl) (by kernel_rfl) (fun _ _ _ h => h) (Or.inl ⟨by rfl, ?_⟩) hHeld ?_
        rotate_left
        · (intro w hSw; (try dsimp only at hSw); go_simp; (all_goals with_reducible rfl))
        try simp only [Act.put, List.getElem_toArray, List.getElem_cons_zero, List.getElem_cons_succ, List.setIfInBounds_toArray, List.set_cons_zero, List.set_cons_succ]
        refine wpAnyH_take (i := 6) (v := ?_) rfl (by kernel_rfl) (by kernel_rfl) (by kernel_rfl) (fun _ _ _ h => h) (Or.inl ⟨by rfl, ?_⟩) hHeld ?_
        rotate_left
        · (intro w hSw; (try dsimp only at hSw); go_simp; (all_goals with_reducible rfl))
        try simp only [Act.put, List.getElem_toArray, List.getElem_cons_zero, List.getElem_cons_succ, List.setIfInBounds_toArray, List.set_cons_zero, List.set_cons_succ]
        refine wpAnyH_take (i := 7) (v := ?_) rfl (by kernel_rfl) (by kernel_rfl) (by kernel_rfl) (fun _ _ _ h => h) (Or.inl ⟨by rfl, ?_⟩) hHeld ?_
        rotate_left
        · (intro w hSw; (try dsimp only at hSw); go_simp; (all_goals with_reducible rfl))
        try simp only [Act.put, List.getElem_toArray, List.getElem_cons_zero, List.getElem_cons_succ, List.setIfInBounds_toArray, List.set_cons_zero, List.set_cons_succ]
        refine wpAnyH_take (i := 8) (v := ?_) rfl (by kernel_rfl) (by kernel_rfl) (by kernel_rfl) (fun _ _ _ h => h) (Or.inl ⟨by rfl, ?_⟩) hHeld ?_
        rotate_left
        · (intro w hSw; (try dsimp only at hSw); go_simp; (all_goals with_reducible rfl))
        try simp only [Act.put, List.getElem_toArray, List.getElem_cons_zero, List.getElem_cons_succ, List.setIfInBounds_toArray, List.set_cons_zero, List.set_cons_succ]
        refine wpAnyH_take (i := 9) (v := ?_) rfl (by kernel_rfl) (by kernel_rfl) (by kernel_rfl) (fun _ _ _ h => h) (Or.inl ⟨by rfl, ?_⟩) hHeld ?_
        rotate_left
        · (intro w hSw; (try dsimp only at hSw); go_simp; (all_goals with_reducible rfl))
        try simp only [Act.put, List.getElem_toArray, List.getElem_cons_zero, List.getElem_cons_succ, List.setIfInBounds_toArray, List.set_cons_zero, List.set_cons_succ]
        refine wpAnyH_take (i := 10) (v := ?_) rfl (by kernel_rfl) (by kernel_rfl) (by kernel_rfl) (fun _ _ _ h => h) (Or.inl ⟨by rfl, ?_⟩) hHeld ?_
        rotate_left
        · (intro w hSw; (try dsimp only at hSw); go_simp; (all_goals with_reducible rfl))
        try simp only [Act.put, List.getElem_toArray, List.getElem_cons_zero, List.getElem_cons_succ, List.setIfInBounds_toArray, List.set_cons_zero, List.set_cons_succ]
        refine wpAnyH_take (i := 11) (v := ?_) rfl (by kernel_rfl) (by kernel_rfl) (by kernel_rfl) (fun _ _ _ h => h) (Or.inl ⟨by rfl, ?_⟩) hHeld ?_
        rotate_left
        · (intro w hSw; (try dsimp only at hSw); go_simp; (all_goals with_reducible rfl))
        try simp only [Act.put, List.getElem_toArray, List.getElem_cons_zero, List.getElem_cons_succ, List.setIfInBounds_toArray, List.set_cons_zero, List.set_cons_succ]
        refine wpAnyH_ready (rs := [4, 12]) (by kernel_rfl) (by simp) ?_
        refine AllReadyH.cons rfl (fun K hK => ?_) (AllReadyH.cons rfl (fun K hK => ?_) AllReadyH.nil)
        · try simp only [List.getElem_toArray, List.getElem_cons_zero, List.getElem_cons_succ]
          go_simp
          refine hK.out _ _ ?_ (fun hHeldN => ?_)
          · ((try dsimp only); (first | exact hS0 | assumption | exact four_fr (S := fun _ => False) (fr_alloc _ _ _) id id id id (by assumption) | exact four_fr (fr_grown HSW.out.own q2) (Nat.not_le_of_lt HK.out.bp) (Nat.not_le_of_lt HK.out.br) (Nat.not_le_of_lt HK.out.g) (Nat.not_le_of_lt HK.out.bd) (by assumption) | exact four_fr (S := fun x => x = P) (Fr.set (S := fun x => x = P) (p := ⟨P, 7, none⟩) (Fr.refl _ _) (.inl rfl) _) HK.out.bpn.2.1 HK.out.brn.2.1 (fun e => HK.out.pg e.symm) HK.out.bdn.2.1 (by assumption)))
          clear hK K hHeld
          have hHeld := hHeldN
          clear hHeldN
          try simp only [Act.put, List.getElem_toArray, List.getElem_cons_zero, List.getElem_cons_succ, List.setIfInBounds_toArray, List.set_cons_zero, List.set_cons_succ]
          refine wpAnyH_ready (rs := [12]) (by kernel_rfl) (by simp) ?_
          refine AllReadyH.cons rfl (fun K hK => ?_) AllReadyH.nil
          try simp only [List.getElem_toArray, List.getElem_cons_zero, List.getElem_cons_succ]
          go_simp
          go_wp2_with (first | (go_at_call 38; ((with_reducible refine HCL.out.mono ?_); rintro e w' ⟨ty2, sub2, bd2, en2, f2, o2, t2, A2, c2, kd2, rfl, kS, k7, kOk⟩; have k9 : ∀ o, (World.alloc w' o).cell? ⟨P, 7, none⟩ = some v := fun o => (fr_alloc (fun _ => False) _ o).cell id k7)))
          refine hK.out _ _ ?_ (fun hHeldN => ?_)
          · ((try dsimp only); (first | exact hS0 | assumption | exact four_fr (S := fun _ => False) (fr_alloc _ _ _) id id id id (by assumption) | exact four_fr (fr_grown HSW.out.own q2) (Nat.not_le_of_lt HK.out.bp) (Nat.not_le_of_lt HK.out.br) (Nat.not_le_of_lt HK.out.g) (Nat.not_le_of_lt HK.out.bd) (by assumption) | exact four_fr (S := fun x => x = P) (Fr.set (S := fun x => x = P) (p := ⟨P, 7, none⟩) (Fr.refl _ _) (.inl rfl) _) HK.out.bpn.2.1 HK.out.brn.2.1 (fun e => HK.out.pg e.symm) HK.out.bdn.2.1 (by assumption)))
          clear hK K hHeld
          have hHeld := hHeldN
          clear hHeldN
          try simp only [Act.put, List.getElem_toArray, List.getElem_cons_zero, List.getElem_cons_succ, List.setIfInBounds_toArray, List.set_cons_zero, List.set_cons_succ]
          refine wpAnyH_ready (rs := [13]) (by kernel_rfl) (by simp) ?_
          refine AllReadyH.cons rfl (fun K hK => ?_) AllReadyH.nil
          try simp only [List.getElem_toArray, List.getElem_cons_zero, List.getElem_cons_succ]
          go_simp
          refine hK.out _ _ ?_ (fun hHeldN => ?_)
          · ((try dsimp only); (first | exact hS0 | assumption | exact four_fr (S := fun _ => False) (fr_alloc _ _ _) id id id id (by assumption) | exact four_fr (fr_grown HSW.out.own q2) (Nat.not_le_of_lt HK.out.bp) (Nat.not_le_of_lt HK.out.br) (Nat.not_le_of_lt HK.out.g) (Nat.not_le_of_lt HK.out.bd) (by assumption) | exact four_fr (S := fun x => x = P) (Fr.set (S := fun x => x = P) (p := ⟨P, 7, none⟩) (Fr.refl _ _) (.inl rfl) _) HK.out.bpn.2.1 HK.out.brn.2.1 (fun e => HK.out.pg e.symm) HK.out.bdn.2.1 (by assumption)))
          clear hK K hHeld
          have hHeld := hHeldN
          clear hHeldN
          try simp only [Act.put, List.getElem_toArray, List.getElem_cons_zero, List.getElem_cons_succ, List.setIfInBounds_toArray, List.set_cons_zero, List.set_cons_succ]
          refine wpAnyH_ready (rs := [14]) (by kernel_rfl) (by simp) ?_
          refine AllReadyH.cons rfl (fun K hK => ?_) AllReadyH.nil
          (refine step_append_row _ rfl (.tmp 46) (.tmp 55) _ rfl B1 29 i0 _ 8 112 Tryz.underlying27 hi hz0 hz1 hz2 rfl (by decide) v kids.length (mcells kids) rfl ((own_call HK.out HSW.out kOk).alloc _) _ 1 1 _ rfl (row_new8 _ (mcell (.mk ty2 sub2 bd2 en2 f2 o2 t2 A2 c2 kd2)) _) (mcell_len _) (mcell_one _) (by unfold maxLen; omega) (by omega) (Nat.le_trans hsz (Nat.le_trans kOk.fr.size (fr_alloc (fun _ => False) _ _).size)) ?_; intro v' w'' q1 q2 q3; obtain ⟨q4, q5⟩ := app_p7 HK.out HSW.out kOk (fr_alloc _ _ _) q2; obtain ⟨gx, cx, rfl⟩ := own_shape q1)
          refine hK.out _ _ ?_ (fun hHeldN => ?_)
          · ((try dsimp only); (first | exact hS0 | assumption | exact four_fr (S := fun _ => False) (fr_alloc _ _ _) id id id id (by assumption) | exact four_fr (fr_grown HSW.out.own q2) (Nat.not_le_of_lt HK.out.bp) (Nat.not_le_of_lt HK.out.br) (Nat.not_le_of_lt HK.out.g) (Nat.not_le_of_lt HK.out.bd) (by assumption) | exact four_fr (S := fun x => x = P) (Fr.set (S := fun x => x = P) (p := ⟨P, 7, none⟩) (Fr.refl _ _) (.inl rfl) _) HK.out.bpn.2.1 HK.out.brn.2.1 (fun e => HK.out.pg e.symm) HK.out.bdn.2.1 (by assumption)))
          clear hK K hHeld
          have hHeld := hHeldN
          clear hHeldN
          try simp only [Act.put, List.getElem_toArray, List.getElem_cons_zero, List.getElem_cons_succ, List.setIfInBounds_toArray, List.set_cons_zero, List.set_cons_succ]
          refine wpAnyH_take (i := 15) (v := ?_) rfl (by kernel_rfl) (by kernel_rfl) (by kernel_rfl) (fun _ _ _ h => h) (Or.inl ⟨by rfl, ?_⟩) hHeld ?_
          rotate_left
          · (intro w hSw; (try dsimp only at hSw); go_simp; (all_goals with_reducible rfl))
          try simp only [Act.put, List.getElem_toArray, List.getElem_cons_zero, List.getElem_cons_succ, List.setIfInBounds_toArray, List.set_cons_zero, List.set_cons_succ]
          refine wpAnyH_take (i := 16) (v := ?_) rfl (by kernel_rfl) (by kernel_rfl) (by kernel_rfl) (fun _ _ _ h => h) (Or.inl ⟨by rfl, ?_⟩) hHeld ?_
          rotate_left
          · (intro w hSw; (try dsimp only at hSw); go_simp; (all_goals with_reducible rfl))
          try simp only [Act.put, List.getElem_toArray, List.getElem_cons_zero, List.getElem_cons_succ, List.setIfInBounds_toArray, List.set_cons_zero, List.set_cons_succ]
          refine wpAnyH_ready (rs := [17]) (by kernel_rfl) (by simp) ?_
          refine AllReadyH.cons rfl (fun K hK => ?_) AllReadyH.nil
          try simp only [List.getElem_toArray, List.getElem_cons_zero, List.getElem_cons_succ]
          go_simp
          refine hK.out _ _ ?_ (fun hHeldN => ?_)
          · ((try dsimp only); (first | exact hS0 | assumption | exact four_fr (S := fun _ => False) (fr_alloc _ _ _) id id id id (by assumption) | exact four_fr (fr_grown HSW.out.own q2) (Nat.not_le_of_lt HK.out.bp) (Nat.not_le_of_lt HK.out.br) (Nat.not_le_of_lt HK.out.g) (Nat.not_le_of_lt HK.out.bd) (by assumption) | exact four_fr (S := fun x => x = P) (Fr.set (S := fun x => x = P) (p := ⟨P, 7, none⟩) (Fr.refl _ _) (.inl rfl) _) HK.out.bpn.2.1 HK.out.brn.2.1 (fun e => HK.out.pg e.symm) HK.out.bdn.2.1 (by assumption)))
          clear hK K hHeld
          have hHeld := hHeldN
          clear hHeldN
          try simp only [Act.put, List.getElem_toArray, List.getElem_cons_zero, List.getElem_cons_succ, List.setIfInBounds_toArray, List.set_cons_zero, List.set_cons_succ]
          refine wpAnyH_done (by kernel_rfl) ?_ _
          refine NoPanic.normal ?_
          obtain ⟨q6, q7⟩ := WS.app HK.out HSW.out (by omega) kOk (fr_alloc _ _ _) q1 q2 q3
          have h1 := q6.cg
          have h2 := q6.fg
          apply_assumption
          clear HCL
          go_wp2
          go_end0
          exact epost_mk HK.out hFw q6 q7 kOk.er rfl hmxe hn
        · try simp only [List.getElem_toArray, List.getElem_cons_zero, List.getElem_cons_succ]
          go_simp
          go_wp2_with (first | (go_at_call 38; ((with_reducible refine HCL.out.mono ?_); rintro e w' ⟨ty2, sub2, bd2, en2, f2, o2, t2, A2, c2, kd2, rfl, kS, k7, kOk⟩; have k9 : ∀ o, (World.alloc w' o).cell? ⟨P, 7, none⟩ = some v := fun o => (fr_alloc (fun _ => False) _ o).cell id k7)))
          refine hK.out _ _ ?_ (fun hHeldN => ?_)
          · ((try dsimp only); (first | exact hS0 | assumption | exact four_fr (S := fun _ => False) (fr_alloc _ _ _) id id id id (by assumption) | exact four_fr (fr_grown HSW.out.own q2) (Nat.not_le_of_lt HK.out.bp) (Nat.not_le_of_lt HK.out.br) (Nat.not_le_of_lt HK.out.g) (Nat.not_le_of_lt HK.out.bd) (by assumption) | exact four_fr (S := fun x => x = P) (Fr.set (S := fun x => x = P) (p := ⟨P, 7, none⟩) (Fr.refl _ _) (.inl rfl) _) HK.out.bpn.2.1 HK.out.brn.2.1 (fun e => HK.out.pg e.symm) HK.out.bdn.2.1 (by assumption)))
          clear hK K hHeld
          have hHeld := hHeldN
          clear hHeldN
          try simp only [Act.put, List.getElem_toArray, List.getElem_cons_zero, List.getElem_cons_succ, List.setIfInBounds_toArray, List.set_cons_zero, List.set_cons_succ]
          refine wpAnyH_ready (rs := [4, 13]) (by kernel_rfl) (by simp) ?_
          refine AllReadyH.cons rfl (fun K hK => ?_) (AllReadyH.cons rfl (fun K hK => ?_) AllReadyH.nil)
          · try simp only [List.getElem_toArray, List.getElem_cons_zero, List.getElem_cons_succ]
            go_simp
            refine hK.out _ _ ?_ (fun hHeldN => ?_)
            · ((try dsimp only); (first | exact hS0 | assumption | exact four_fr (S := fun _ => False) (fr_alloc _ _ _) id id id id (by assumption) | exact four_fr (fr_grown HSW.out.own q2) (Nat.not_le_of_lt HK.out.bp) (Nat.not_le_of_lt HK.out.br) (Nat.not_le_of_lt HK.out.g) (Nat.not_le_of_lt HK.out.bd) (by assumption) | exact four_fr (S := fun x => x = P) (Fr.set (S := fun x => x = P) (p := ⟨P, 7, none⟩) (Fr.refl _ _) (.inl rfl) _) HK.out.bpn.2.1 HK.out.brn.2.1 (fun e => HK.out.pg e.symm) HK.out.bdn.2.1 (by assumption)))
            clear hK K hHeld
            have hHeld := hHeldN
            clear hHeldN
            try simp only [Act.put, List.getElem_toArray, List.getElem_cons_zero, List.getElem_cons_succ, List.setIfInBounds_toArray, List.set_cons_zero, List.set_cons_succ]
            refine wpAnyH_ready (rs := [13]) (by kernel_rfl) (by simp) ?_
            refine AllReadyH.cons rfl (fun K hK => ?_) AllReadyH.nil
            try simp only [List.getElem_toArray, List.getElem_cons_zero, List.getElem_cons_succ]
            go_simp
            refine hK.out _ _ ?_ (fun hHeldN => ?_)
            · ((try dsimp only); (first | exact hS0 | assumption | exact four_fr (S := fun _ => False) (fr_alloc _ _ _) id id id id (by assumption) | exact four_fr (fr_grown HSW.out.own q2) (Nat.not_le_of_lt HK.out.bp) (Nat.not_le_of_lt HK.out.br) (Nat.not_le_of_lt HK.out.g) (Nat.not_le_of_lt HK.out.bd) (by assumption) | exact four_fr (S := fun x => x = P) (Fr.set (S := fun x => x = P) (p := ⟨P, 7, none⟩) (Fr.refl _ _) (.inl rfl) _) HK.out.bpn.2.1 HK.out.brn.2.1 (fun e => HK.out.pg e.symm) HK.out.bdn.2.1 (by assumption)))
            clear hK K hHeld
            have hHeld := hHeldN
            clear hHeldN
            try simp only [Act.put, List.getElem_toArray, List.getElem_cons_zero, List.getElem_cons_succ, List.setIfInBounds_toArray, List.set_cons_zero, List.set_cons_succ]
            refine wpAnyH_ready (rs := [14]) (by kernel_rfl) (by simp) ?_
            refine AllReadyH.cons rfl (fun K hK => ?_) AllReadyH.nil
            (refine step_append_row _ rfl (.tmp 46) (.tmp 55) _ rfl B1 29 i0 _ 8 112 Tryz.underlying27 hi hz0 hz1 hz2 rfl (by decide) v kids.length (mcells kids) rfl ((own_call HK.out HSW.out kOk).alloc _) _ 1 1 _ rfl (row_new8 _ (mcell (.mk ty2 sub2 bd2 en2 f2 o2 t2 A2 c2 kd2)) _) (mcell_len _) (mcell_one _) (by unfold maxLen; omega) (by omega) (Nat.le_trans hsz (Nat.le_trans kOk.fr.size (fr_alloc (fun _ => False) _ _).size)) ?_; intro v' w'' q1 q2 q3; obtain ⟨q4, q5⟩ := app_p7 HK.out HSW.out kOk (fr_alloc _ _ _) q2; obtain ⟨gx, cx, rfl⟩ := own_shape q1)
            refine hK.out _ _ ?_ (fun hHeldN => ?_)
            · ((try dsimp only); (first | exact hS0 | assumption | exact four_fr (S := fun _ => False) (fr_alloc _ _ _) id id id id (by assumption) | exact four_fr (fr_grown HSW.out.own q2) (Nat.not_le_of_lt HK.out.bp) (Nat.not_le_of_lt HK.out.br) (Nat.not_le_of_lt HK.out.g) (Nat.not_le_of_lt HK.out.bd) (by assumption) | exact four_fr (S := fun x => x = P) (Fr.set (S := fun x => x = P) (p := ⟨P, 7, none⟩) (Fr.refl _ _) (.inl rfl) _) HK.out.bpn.2.1 HK.out.brn.2.1 (fun e => HK.out.pg e.symm) HK.out.bdn.2.1 (by assumption)))
            clear hK K hHeld
            have hHeld := hHeldN
            clear hHeldN
            try simp only [Act.put, List.getElem_toArray, List.getElem_cons_zero, List.getElem_cons_succ, List.setIfInBounds_toArray, List.set_cons_zero, List.set_cons_succ]
            refine wpAnyH_take (i := 15) (v := ?_) rfl (by kernel_rfl) (by kernel_rfl) (by kernel_rfl) (fun _ _ _ h => h) (Or.inl ⟨by rfl, ?_⟩) hHeld ?_
            rotate_left
            · (intro w hSw; (try dsimp only at hSw); go_simp; (all_goals with_reducible rfl))
            try simp only [Act.put, List.getElem_toArray, List.getElem_cons_zero, List.getElem_cons_succ, List.setIfInBounds_toArray, List.set_cons_zero, List.set_cons_succ]
            refine wpAnyH_take (i := 16) (v := ?_) rfl (by kernel_rfl) (by kernel_rfl) (by kernel_rfl) (fun _ _ _ h => h) (Or.inl ⟨by rfl, ?_⟩) hHeld ?_
            rotate_left
            · (intro w hSw; (try dsimp only at hSw); go_simp; (all_goals with_reducible rfl))
            try simp only [Act.put, List.getElem_toArray, List.getElem_cons_zero, List.getElem_cons_succ, List.setIfInBounds_toArray, List.set_cons_zero, List.set_cons_succ]
            refine wpAnyH_ready (rs := [17]) (by kernel_rfl) (by simp) ?_
            refine AllReadyH.cons rfl (fun K hK => ?_) AllReadyH.nil
            try simp only [List.getElem_toArray, List.getElem_cons_zero, List.getElem_cons_succ]
            go_simp
            refine hK.out _ _ ?_ (fun hHeldN => ?_)
            · ((try dsimp only); (first | exact hS0 | assumption | exact four_fr (S := fun _ => False) (fr_alloc _ _ _) id id id id (by assumption) | exact four_fr (fr_grown HSW.out.own q2) (Nat.not_le_of_lt HK.out.bp) (Nat.not_le_of_lt HK.out.br) (Nat.not_le_of_lt HK.out.g) (Nat.not_le_of_lt HK.out.bd) (by assumption) | exact four_fr (S := fun x => x = P) (Fr.set (S := fun x => x = P) (p := ⟨P, 7, none⟩) (Fr.refl _ _) (.inl rfl) _) HK.out.bpn.2.1 HK.out.brn.2.1 (fun e => HK.out.pg e.symm) HK.out.bdn.2.1 (by assumption)))
            clear hK K hHeld
            have hHeld := hHeldN
            clear hHeldN
            try simp only [Act.put, List.getElem_toArray, List.getElem_cons_zero, List.getElem_cons_succ, List.setIfInBounds_toArray, List.set_cons_zero, List.set_cons_succ]
            refine wpAnyH_done (by kernel_rfl) ?_ _
            refine NoPanic.normal ?_
            obtain ⟨q6, q7⟩ := WS.app HK.out HSW.out (by omega) kOk (fr_alloc _ _ _) q1 q2 q3
            have h1 := q6.cg
            have h2 := q6.fg
            apply_assumption
            clear HCL
            go_wp2
            go_end0
            exact epost_mk HK.out hFw q6 q7 kOk.er rfl hmxe hn
          · try simp only [List.getElem_toArray, List.getElem_cons_zero, List.getElem_cons_succ]
            go_simp
            refine hK.out _ _ ?_ (fun hHeldN => ?_)
            · ((try dsimp only); (first | exact hS0 | assumption | exact four_fr (S := fun _ => False) (fr_alloc _ _ _) id id id id (by assumption) | exact four_fr (fr_grown HSW.out.own q2) (Nat.not_le_of_lt HK.out.bp) (Nat.not_le_of_lt HK.out.br) (Nat.not_le_of_lt HK.out.g) (Nat.not_le_of_lt HK.out.bd) (by assumption) | exact four_fr (S := fun x => x = P) (Fr.set (S := fun x => x = P) (p := ⟨P, 7, none⟩) (Fr.refl _ _) (.inl rfl) _) HK.out.bpn.2.1 HK.out.brn.2.1 (fun e => HK.out.pg e.symm) HK.out.bdn.2.1 (by assumption)))
            clear hK K hHeld
            have hHeld := hHeldN
            clear hHeldN
            try simp only [Act.put, List.getElem_toArray, List.getElem_cons_zero, List.getElem_cons_succ, List.setIfInBounds_toArray, List.set_cons_zero, List.set_cons_succ]
            refine wpAnyH_ready (rs := [4]) (by kernel_rfl) (by simp) ?_
            refine AllReadyH.cons rfl (fun K hK => ?_) AllReadyH.nil
            try simp only [List.getElem_toArray, List.getElem_cons_zero, List.getElem_cons_succ]
            go_simp
            refine hK.out _ _ ?_ (fun hHeldN => ?_)
            · ((try dsimp only); (first | exact hS0 | assumption | exact four_fr (S := fun _ => False) (fr_alloc _ _ _) id id id id (by assumption) | exact four_fr (fr_grown HSW.out.own q2) (Nat.not_le_of_lt HK.out.bp) (Nat.not_le_of_lt HK.out.br) (Nat.not_le_of_lt HK.out.g) (Nat.not_le_of_lt HK.out.bd) (by assumption) | exact four_fr (S := fun x => x = P) (Fr.set (S := fun x => x = P) (p := ⟨P, 7, none⟩) (Fr.refl _ _) (.inl rfl) _) HK.out.bpn.2.1 HK.out.brn.2.1 (fun e => HK.out.pg e.symm) HK.out.bdn.2.1 (by assumption)))
            clear hK K hHeld
            have hHeld := hHeldN
            clear hHeldN
            try simp only [Act.put, List.getElem_toArray, List.getElem_cons_zero, List.getElem_cons_succ, List.setIfInBounds_toArray, List.set_cons_zero, List.set_cons_succ]
            refine wpAnyH_ready (rs := [14]) (by kernel_rfl) (by simp) ?_
            refine AllReadyH.cons rfl (fun K hK => ?_) AllReadyH.nil
            (refine step_append_row _ rfl (.tmp 46) (.tmp 55) _ rfl B1 29 i0 _ 8 112 Tryz.underlying27 hi hz0 hz1 hz2 rfl (by decide) v kids.length (mcells kids) rfl ((own_call HK.out HSW.out kOk).alloc _) _ 1 1 _ rfl (row_new8 _ (mcell (.mk ty2 sub2 bd2 en2 f2 o2 t2 A2 c2 kd2)) _) (mcell_len _) (mcell_one _) (by unfold maxLen; omega) (by omega) (Nat.le_trans hsz (Nat.le_trans kOk.fr.size (fr_alloc (fun _ => False) _ _).size)) ?_; intro v' w'' q1 q2 q3; obtain ⟨q4, q5⟩ := app_p7 HK.out HSW.out kOk (fr_alloc _ _ _) q2; obtain ⟨gx, cx, rfl⟩ := own_shape q1)
            refine hK.out _ _ ?_ (fun hHeldN => ?_)
            · ((try dsimp only); (first | exact hS0 | assumption | exact four_fr (S := fun _ => False) (fr_alloc _ _ _) id id id id (by assumption) | exact four_fr (fr_grown HSW.out.own q2) (Nat.not_le_of_lt HK.out.bp) (Nat.not_le_of_lt HK.out.br) (Nat.not_le_of_lt HK.out.g) (Nat.not_le_of_lt HK.out.bd) (by assumption) | exact four_fr (S := fun x => x = P) (Fr.set (S := fun x => x = P) (p := ⟨P, 7, none⟩) (Fr.refl _ _) (.inl rfl) _) HK.out.bpn.2.1 HK.out.brn.2.1 (fun e => HK.out.pg e.symm) HK.out.bdn.2.1 (by assumption)))
            clear hK K hHeld
            have hHeld := hHeldN
            clear hHeldN
            try simp only [Act.put, List.getElem_toArray, List.getElem_cons_zero, List.getElem_cons_succ, List.setIfInBounds_toArray, List.set_cons_zero, List.set_cons_succ]
            refine wpAnyH_take (i := 15) (v := ?_) rfl (by kernel_rfl) (by kernel_rfl) (by kernel_rfl) (fun _ _ _ h => h) (Or.inl ⟨by rfl, ?_⟩) hHeld ?_
            rotate_left
            · (intro w hSw; (try dsimp only at hSw); go_simp; (all_goals with_reducible rfl))
            try simp only [Act.put, List.getElem_toArray, List.getElem_cons_zero, List.getElem_cons_succ, List.setIfInBounds_toArray, List.set_cons_zero, List.set_cons_succ]
            refine wpAnyH_take (i := 16) (v := ?_) rfl (by kernel_rfl) (by kernel_rfl) (by kernel_rfl) (fun _ _ _ h => h) (Or.inl ⟨by rfl, ?_⟩) hHeld ?_
            rotate_left
            · (intro w hSw; (try dsimp only at hSw); go_simp; (all_goals with_reducible rfl))
            try simp only [Act.put, List.getElem_toArray, List.getElem_cons_zero, List.getElem_cons_succ, List.setIfInBounds_toArray, List.set_cons_zero, List.set_cons_succ]
            refine wpAnyH_ready (rs := [17]) (by kernel_rfl) (by simp) ?_
            refine AllReadyH.cons rfl (fun K hK => ?_) AllReadyH.nil
            try simp only [List.getElem_toArray, List.getElem_cons_zero, List.getElem_cons_succ]
            go_simp
            refine hK.out _ _ ?_ (fun hHeldN => ?_)
            · ((try dsimp only); (first | exact hS0 | assumption | exact four_fr (S := fun _ => False) (fr_alloc _ _ _) id id id id (by assumption) | exact four_fr (fr_grown HSW.out.own q2) (Nat.not_le_of_lt HK.out.bp) (Nat.not_le_of_lt HK.out.br) (Nat.not_le_of_lt HK.out.g) (Nat.not_le_of_lt HK.out.bd) (by assumption) | exact four_fr (S := fun x => x = P) (Fr.set (S := fun x => x = P) (p := ⟨P, 7, none⟩) (Fr.refl _ _) (.inl rfl) _) HK.out.bpn.2.1 HK.out.brn.2.1 (fun e => HK.out.pg e.symm) HK.out.bdn.2.1 (by assumption)))
            clear hK K hHeld
            have hHeld := hHeldN
            clear hHeldN
            try simp only [Act.put, List.getElem_toArray, List.getElem_cons_zero, List.getElem_cons_succ, List.setIfInBounds_toArray, List.set_cons_zero, List.set_cons_succ]
            refine wpAnyH_done (by kernel_rfl) ?_ _
            refine NoPanic.normal ?_
            obtain ⟨q6, q7⟩ := WS.app HK.out HSW.out (by omega) kOk (fr_alloc _ _ _) q1 q2 q3
            have h1 := q6.cg
            have h2 := q6.fg
            apply_assumption
            clear HCL
            go_wp2
            go_end0
            exact epost_mk HK.out hFw q6 q7 kOk.er rfl hmxe hn
      · have hSw : WS R P Bg BR BP BD B1 A c b ty sub bd enc fr bo to_ deep (wn.alloc (.cells #[.bool true] 4)).drew.drew (some g) v kids (n + 1) := (hSn.below ((Below.refl _ _).alloc (Nat.le_refl _) _)).below ((Below.refl _ _).drew.drew)
        have hFw : Fr (fun x => x = R) w (wn.alloc (.cells #[.bool true] 4)).drew.drew := hFn.trans (Fr.of_below (((Below.refl _ _).alloc (Nat.le_refl _) _).drew.drew))
        go_wp2
        obtain ⟨wx, hwx⟩ : ∃ wx, wx = (wn.alloc (.cells #[.bool true] 4)).drew := ⟨_, rfl⟩
        rw [← hwx] at hSw hFw ⊢
        clear hwx hSn hFn h1 h2 h3 h4 h5
        obtain ⟨i0, hi, hz0, hz1, hz2⟩ := info_parts infoPart
        obtain ⟨A0, c0, hv0⟩ := own_shape0 hSw.own
        subst hv0
        have hS0 : (wx.drew.cell? ⟨BP, 0, none⟩ = some (.pointer (some ⟨P, 0, none⟩)) ∧ wx.drew.cell? ⟨BR, 0, none⟩ = some (.pointer (some ⟨R, 0, none⟩)) ∧ wx.drew.cell? ⟨Bg, 0, none⟩ = some (.int .i64 (g : Int)) ∧ wx.drew.cell? ⟨BD, 0, none⟩ = some (.int .i64 deep)) := ⟨hSw.cp, hSw.cr, hSw.cg, hSw.cd⟩
        have hc7 : wx.drew.cell? ⟨P, 7, none⟩ = some (.slice A0 kids.length c0) := hSw.pc.c7
        have hc8 : ∀ o, (World.alloc wx.drew o).cell? ⟨P, 7, none⟩ = some (.slice A0 kids.length c0) := fun o => (fr_alloc (fun _ => False) _ o).cell id hc7
        have hwd : IntKind.i64.wrap (deep + 1) = deep + 1 := IntWalk.i64_in _ (by omega)
        have HCL := Lib.hid (call_part k hk g mx K hSw hd0 hd hb hc hA hgl hml)
        have HCL2 := fun ty0 => call_part2 k hk g mx K hSw hd0 hd hb hc hA hgl hml ty0
        have eal : ∀ o, wx.drew.alloc o = (wx.alloc o).drew := fun o => rfl
        simp only [eal] at HCL2 hc8
        have hc9 : ∀ o, (World.alloc wx o).cell? ⟨P, 7, none⟩ = some (.slice A0 kids.length c0) := hc8
        have HCL2 := Lib.hid HCL2
        have HSW := Lib.hid hSw
        have HK := Lib.hid K
        have hkl0 := S.kl
        have hkl := hSw.kl
        have hsz := hSw.sz
        clear hSw K S hk ho hav
        refine wp_region_noPanic ?_
        refine wp_region_held_drew (S := (fun w' => (w'.cell? ⟨BP, 0, none⟩ = some (.pointer (some ⟨P, 0, none⟩)) ∧ w'.cell? ⟨BR, 0, none⟩ = some (.pointer (some ⟨R, 0, none⟩)) ∧ w'.cell? ⟨Bg, 0, none⟩ = some (.int .i64 (g : Int)) ∧ w'.cell? ⟨BD, 0, none⟩ = some (.int .i64 deep)))) (by kernel_rfl) (by exact hS0) (fun hHeld => ?_)
        refine wpAnyH_take (i := 0) (v := ?_) rfl (by kernel_rfl) (by kernel_rfl) (by kernel_rfl) (fun _ _ _ h => h) (Or.inl ⟨by rfl, ?_⟩) hHeld ?_
        rotate_left
        · (intro w hSw; (try dsimp only at hSw); go_simp; (all_goals with_reducible rfl))
        try simp only [Act.put, List.getElem_toArray, List.getElem_cons_zero, List.setIfInBounds_toArray, List.set_cons_zero, List.set_cons_succ]
        refine wpAnyH_take (i := 1) (v := ?_) rfl (by kernel_rfl) (by kernel_rfl) (by kernel_rfl) (fun _ _ _ h => h) (Or.inl ⟨by rfl, ?_⟩) hHeld ?_
        rotate_left
        · (intro w hSw; (try dsimp only at hSw); go_simp; (all_goals with_reducible rfl))
        try simp only [Act.put, List.getElem_toArray, List.getElem_cons_zero, List.getElem_cons_succ, List.setIfInBounds_toArray, List.set_cons_zero, List.set_cons_succ]
        refine wpAnyH_take (i := 2) (v := ?_) rfl (by kernel_rfl) (by kernel_rfl) (by kernel_rfl) (fun _ _ _ h => h) (Or.inl ⟨by rfl, ?_⟩) hHeld ?_
        rotate_left
        · (intro w hSw; (try dsimp only at hSw); go_simp; (all_goals with_reducible rfl))
        try simp only [Act.put, List.getElem_toArray, List.getElem_cons_zero, List.getElem_cons_succ, List.setIfInBounds_toArray, List.set_cons_zero, List.set_cons_succ]
        refine wpAnyH_take (i := 4) (v := ?_) rfl (by kernel_rfl) (by kernel_rfl) (by kernel_rfl) (fun _ _ _ h => h) (Or.inl ⟨by rfl, ?_⟩) hHeld ?_
        rotate_left
        · (intro w hSw; (try dsimp only at hSw); go_simp; (all_goals with_reducible rfl))
        try simp only [Act.put, List.getElem_toArray, List.getElem_cons_zero, List.getElem_cons_succ, List.setIfInBounds_toArray, List.set_cons_zero, List.set_cons_succ]
        refine wpAnyH_take (i := 5) (v := ?_) rfl (by kernel_rfl) (by kernel_rfl) (by kernel_rfl) (fun _ _ _ h => h) (Or.inl ⟨by rfl, ?_⟩) hHeld ?_
        rotate_left
        · (intro w hSw; (try dsimp only at hSw); go_simp; (all_goals with_reducible rfl))
        try simp only [Act.put, List.getElem_toArray, List.getElem_cons_zero, List.getElem_cons_succ, List.setIfInBounds_toArray, List.set_cons_zero, List.set_cons_succ]
        refine wpAnyH_take (i := 6) (v := ?_) rfl (by kernel_rfl) (by kernel_rfl) (by kernel_rfl) (fun _ _ _ h => h) (Or.inl ⟨by rfl, ?_⟩) hHeld ?_
        rotate_left
        · (intro w hSw; (try dsimp only at hSw); go_simp; (all_goals with_reducible rfl))
        try simp only [Act.put, List.getElem_toArray, List.getElem_cons_zero, List.getElem_cons_succ, List.setIfInBounds_toArray, List.set_cons_zero, List.set_cons_succ]
        refine wpAnyH_take (i := 7) (v := ?_) rfl (by kernel_rfl) (by kernel_rfl) (by kernel_rfl) (fun _ _ _ h => h) (Or.inl ⟨by rfl, ?_⟩) hHeld ?_
        rotate_left
        · (intro w hSw; (try dsimp only at hSw); go_simp; (all_goals with_reducible rfl))
        try simp only [Act.put, List.getElem_toArray, List.getElem_cons_zero, List.getElem_cons_succ, List.setIfInBounds_toArray, List.set_cons_zero, List.set_cons_succ]
        refine wpAnyH_take (i := 8) (v := ?_) rfl (by kernel_rfl) (by kernel_rfl) (by kernel_rfl) (fun _ _ _ h => h) (Or.inl ⟨by rfl, ?_⟩) hHeld ?_
        rotate_left
        · (intro w hSw; (try dsimp only at hSw); go_simp; (all_goals with_reducible rfl))
        try simp only [Act.put, List.getElem_toArray, List.getElem_cons_zero, List.getElem_cons_succ, List.setIfInBounds_toArray, List.set_cons_zero, List.set_cons_succ]
        refine wpAnyH_take (i := 9) (v := ?_) rfl (by kernel_rfl) (by kernel_rfl) (by kernel_rfl) (fun _ _ _ h => h) (Or.inl ⟨by rfl, ?_⟩) hHeld ?_
        rotate_left
        · (intro w hSw; (try dsimp only at hSw); go_simp; (all_goals with_reducible rfl))
        try simp only [Act.put, List.getElem_toArray, List.getElem_cons_zero, List.getElem_cons_succ, List.setIfInBounds_toArray, List.set_cons_zero, List.set_cons_succ]
        refine wpAnyH_take (i := 10) (v := ?_) rfl (by kernel_rfl) (by kernel_rfl) (by kernel_rfl) (fun _ _ _ h => h) (Or.inl ⟨by rfl, ?_⟩) hHeld ?_
        rotate_left
        · (intro w hSw; (try dsimp only at hSw); go_simp; (all_goals with_reducible rfl))
        try simp only [Act.put, List.getElem_toArray, List.getElem_cons_zero, List.getElem_cons_succ, List.setIfInBounds_toArray, List.set_cons_zero, List.set_cons_succ]
        refine wpAnyH_ready (rs := [3, 11, 13]) (by kernel_rfl) (by simp) ?_
        refine AllReadyH.cons rfl (fun K hK => ?_) (AllReadyH.cons rfl (fun K hK => ?_) (AllReadyH.cons rfl (fun K hK => ?_) AllReadyH.nil))
        · try simp only [List.getElem_toArray, List.getElem_cons_zero, List.getElem_cons_succ]
          go_simp
          refine hK.out _ _ ?_ (fun hHeldN => ?_)
          · ((try dsimp only); (first | exact hS0 | assumption | exact four_fr (S := fun _ => False) (fr_alloc _ _ _) id id id id (by assumption) | exact four_fr (fr_grown HSW.out.own q2) (Nat.not_le_of_lt HK.out.bp) (Nat.not_le_of_lt HK.out.br) (Nat.not_le_of_lt HK.out.g) (Nat.not_le_of_lt HK.out.bd) (by assumption) | exact four_fr (S := fun x => x = P) (Fr.set (S := fun x => x = P) (p := ⟨P, 7, none⟩) (Fr.refl _ _) (.inl rfl) _) HK.out.bpn.2.1 HK.out.brn.2.1 (fun e => HK.out.pg e.symm) HK.out.bdn.2.1 (by assumption)))
          clear hK K hHeld
          have hHeld := hHeldN
          clear hHeldN
          try simp only [Act.put, List.getElem_toArray, List.getElem_cons_zero, List.getElem_cons_succ, List.setIfInBounds_toArray, List.set_cons_zero, List.set_cons_succ]
          refine wpAnyH_take (i := 12) (v := ?_) rfl (by kernel_rfl) (by kernel_rfl) (by kernel_rfl) (fun _ _ _ h => h) (Or.inl ⟨by rfl, ?_⟩) hHeld ?_
          rotate_left
          · (intro w hSw; (try dsimp only at hSw); go_simp; (all_goals with_reducible rfl))
          try simp only [Act.put, List.getElem_toArray, List.getElem_cons_zero, List.getElem_cons_succ, List.setIfInBounds_toArray, List.set_cons_zero, List.set_cons_succ]
          refine wpAnyH_ready (rs := [11, 13]) (by kernel_rfl) (by simp) ?_
          refine AllReadyH.cons rfl (fun K hK => ?_) (AllReadyH.cons rfl (fun K hK => ?_) AllReadyH.nil)
          · try simp only [List.getElem_toArray, List.getElem_cons_zero, List.getElem_cons_succ]
            go_simp
            go_wp2_with (first | (go_at_call 38; ((with_reducible refine HCL.out.mono ?_); rintro e w' ⟨ty2, sub2, bd2, en2, f2, o2, t2, A2, c2, kd2, rfl, kS, k7, kOk⟩; have k9 : ∀ o, (World.alloc w' o).cell? ⟨P, 7, none⟩ = some (.slice A0 kids.length c0) := fun o => (fr_alloc (fun _ => False) _ o).cell id k7)) | (go_at_call 38; ((with_reducible refine (HCL2.out _).mono ?_); rintro e w' ⟨ty2, sub2, bd2, en2, f2, o2, t2, A2, c2, kd2, rfl, kS, k7, kOk, kRw⟩)))
            refine hK.out _ _ ?_ (fun hHeldN => ?_)
            · ((try dsimp only); (first | exact hS0 | assumption | exact four_fr (S := fun _ => False) (fr_alloc _ _ _) id id id id (by assumption) | exact four_fr (fr_grown HSW.out.own q2) (Nat.not_le_of_lt HK.out.bp) (Nat.not_le_of_lt HK.out.br) (Nat.not_le_of_lt HK.out.g) (Nat.not_le_of_lt HK.out.bd) (by assumption) | exact four_fr (S := fun x => x = P) (Fr.set (S := fun x => x = P) (p := ⟨P, 7, none⟩) (Fr.refl _ _) (.inl rfl) _) HK.out.bpn.2.1 HK.out.brn.2.1 (fun e => HK.out.pg e.symm) HK.out.bdn.2.1 (by assumption)))
            clear hK K hHeld
            have hHeld := hHeldN
            clear hHeldN
            try simp only [Act.put, List.getElem_toArray, List.getElem_cons_zero, List.getElem_cons_succ, List.setIfInBounds_toArray, List.set_cons_zero, List.set_cons_succ]
            refine wpAnyH_ready (rs := [13]) (by kernel_rfl) (by simp) ?_
            refine AllReadyH.cons rfl (fun K hK => ?_) AllReadyH.nil
            try simp only [List.getElem_toArray, List.getElem_cons_zero, List.getElem_cons_succ]
            go_simp
            refine hK.out _ _ ?_ (fun hHeldN => ?_)
            · ((try dsimp only); (first | exact hS0 | assumption | exact four_fr (S := fun _ => False) (fr_alloc _ _ _) id id id id (by assumption) | exact four_fr (fr_grown HSW.out.own q2) (Nat.not_le_of_lt HK.out.bp) (Nat.not_le_of_lt HK.out.br) (Nat.not_le_of_lt HK.out.g) (Nat.not_le_of_lt HK.out.bd) (by assumption) | exact four_fr (S := fun x => x = P) (Fr.set (S := fun x => x = P) (p := ⟨P, 7, none⟩) (Fr.refl _ _) (.inl rfl) _) HK.out.bpn.2.1 HK.out.brn.2.1 (fun e => HK.out.pg e.symm) HK.out.bdn.2.1 (by assumption)))
            clear hK K hHeld
            have hHeld := hHeldN
            clear hHeldN
            try simp only [Act.put, List.getElem_toArray, List.getElem_cons_zero, List.getElem_cons_succ, List.setIfInBounds_toArray, List.set_cons_zero, List.set_cons_succ]
            refine wpAnyH_ready (rs := [14]) (by kernel_rfl) (by simp) ?_
            refine AllReadyH.cons rfl (fun K hK => ?_) AllReadyH.nil
            first | (refine step_append_row _ rfl (.tmp 27) (.tmp 37) _ rfl B1 29 i0 _ 8 112 Tryz.underlying27 hi hz0 hz1 hz2 rfl (by decide) (.slice A0 kids.length c0) kids.length (mcells kids) rfl ((own_call HK.out HSW.out kOk).alloc _) _ 1 1 _ rfl (row_new8 _ (mcell zeroP) _) (mcell_len _) (mcell_one _) (by unfold maxLen; omega) (by omega) (Nat.le_trans hsz (Nat.le_trans kOk.fr.size (fr_alloc (fun _ => False) _ _).size)) ?_; intro v' w'' q1 q2 q3; obtain ⟨q4, q5⟩ := app_p7 HK.out HSW.out kOk (fr_alloc (fun _ => False) _ _) q2; have hEx := Lib.hid (pack (w1 := w') (fr_alloc (fun _ => False) _ _) q2 q3); obtain ⟨gx, cx, rfl⟩ := own_shape q1) | (refine step_append_row _ rfl (.tmp 27) (.tmp 37) _ rfl B1 29 i0 _ 8 112 Tryz.underlying27 hi hz0 hz1 hz2 rfl (by decide) (.slice A0 kids.length c0) kids.length (mcells kids) rfl (own_call HK.out HSW.out kOk) _ 1 1 _ rfl kRw (mcell_len _) (mcell_one _) (by unfold maxLen; omega) (by omega) (Nat.le_trans hsz kOk.fr.size) ?_; intro v' w'' q1 q2 q3; obtain ⟨q4, q5⟩ := app_p7 HK.out HSW.out kOk (Fr.refl (fun _ => False) _) q2; have hEx := Lib.hid (pack (w1 := w') (Fr.refl (fun _ => False) _) q2 q3); obtain ⟨gx, cx, rfl⟩ := own_shape q1)
            refine hK.out _ _ ?_ (fun hHeldN => ?_)
            · ((try dsimp only); (first | exact hS0 | assumption | exact four_fr (S := fun _ => False) (fr_alloc _ _ _) id id id id (by assumption) | exact four_fr (fr_grown HSW.out.own q2) (Nat.not_le_of_lt HK.out.bp) (Nat.not_le_of_lt HK.out.br) (Nat.not_le_of_lt HK.out.g) (Nat.not_le_of_lt HK.out.bd) (by assumption) | exact four_fr (S := fun x => x = P) (Fr.set (S := fun x => x = P) (p := ⟨P, 7, none⟩) (Fr.refl _ _) (.inl rfl) _) HK.out.bpn.2.1 HK.out.brn.2.1 (fun e => HK.out.pg e.symm) HK.out.bdn.2.1 (by assumption)))
            clear hK K hHeld
            have hHeld := hHeldN
            clear hHeldN
            try simp only [Act.put, List.getElem_toArray, List.getElem_cons_zero, List.getElem_cons_succ, List.setIfInBounds_toArray, List.set_cons_zero, List.set_cons_succ]
            refine wpAnyH_take (i := 15) (v := ?_) rfl (by kernel_rfl) (by kernel_rfl) (by kernel_rfl) (fun _ _ _ h => h) (Or.inl ⟨by rfl, ?_⟩) hHeld ?_
            rotate_left
            · (intro w hSw; (try dsimp only at hSw); go_simp; (all_goals with_reducible rfl))
            try simp only [Act.put, List.getElem_toArray, List.getElem_cons_zero, List.getElem_cons_succ, List.setIfInBounds_toArray, List.set_cons_zero, List.set_cons_succ]
            refine wpAnyH_take (i := 16) (v := ?_) rfl (by kernel_rfl) (by kernel_rfl) (by kernel_rfl) (fun _ _ _ h => h) (Or.inl ⟨by rfl, ?_⟩) hHeld ?_
            rotate_left
            · (intro w hSw; (try dsimp only at hSw); go_simp; (all_goals with_reducible rfl))
            try simp only [Act.put, List.getElem_toArray, List.getElem_cons_zero, List.getElem_cons_succ, List.setIfInBounds_toArray, List.set_cons_zero, List.set_cons_succ]
            refine wpAnyH_ready (rs := [17]) (by kernel_rfl) (by simp) ?_
            refine AllReadyH.cons rfl (fun K hK => ?_) AllReadyH.nil
            try simp only [List.getElem_toArray, List.getElem_cons_zero, List.getElem_cons_succ]
            go_simp
            refine hK.out _ _ ?_ (fun hHeldN => ?_)
            · ((try dsimp only); (first | exact hS0 | assumption | exact four_fr (S := fun _ => False) (fr_alloc _ _ _) id id id id (by assumption) | exact four_fr (fr_grown HSW.out.own q2) (Nat.not_le_of_lt HK.out.bp) (Nat.not_le_of_lt HK.out.br) (Nat.not_le_of_lt HK.out.g) (Nat.not_le_of_lt HK.out.bd) (by assumption) | exact four_fr (S := fun x => x = P) (Fr.set (S := fun x => x = P) (p := ⟨P, 7, none⟩) (Fr.refl _ _) (.inl rfl) _) HK.out.bpn.2.1 HK.out.brn.2.1 (fun e => HK.out.pg e.symm) HK.out.bdn.2.1 (by assumption)))
            clear hK K hHeld
            have hHeld := hHeldN
            clear hHeldN
            try simp only [Act.put, List.getElem_toArray, List.getElem_cons_zero, List.getElem_cons_succ, List.setIfInBounds_toArray, List.set_cons_zero, List.set_cons_succ]
            refine wpAnyH_done (by kernel_rfl) ?_ _
            refine NoPanic.normal ?_
            have hbd : ((kids.length : Nat) : Int) < ((kids.length + 1 : Nat) : Int) := by omega
            obtain ⟨l0, l1, l2, l3, l4, l5, l6, l7, l8⟩ := late_cells (late_own q1 HK.out.p (.slice (some ⟨gx, 0, none⟩) (kids.length + 1) cx))
            obtain ⟨w3, hw3⟩ : ∃ w3, w3 = World.setCell w'' ⟨P, 7, none⟩ (.slice (some ⟨gx, 0, none⟩) (kids.length + 1) cx) := ⟨_, rfl⟩
            obtain ⟨q6, q7⟩ := WS.late HK.out HSW.out (by omega) kOk hEx.out q1 w3 hw3
            have z1 := q6.cg
            have z2 := q6.fg
            rw [← hw3] at l0 l1 l2 l3 l4 l5 l6 l7 l8 ⊢
            have q6 := Lib.hid q6
            clear HCL HCL2 hc7 hc8 hc9 hS0 q4 q5 hw3
            go_wp2
            go_end0
            exact epost_mk HK.out hFw q6.out q7 kOk.er rfl hmxe hn
          · try simp only [List.getElem_toArray, List.getElem_cons_zero, List.getElem_cons_succ]
            go_simp
            refine hK.out _ _ ?_ (fun hHeldN => ?_)
            · ((try dsimp only); (first | exact hS0 | assumption | exact four_fr (S := fun _ => False) (fr_alloc _ _ _) id id id id (by assumption) | exact four_fr (fr_grown HSW.out.own q2) (Nat.not_le_of_lt HK.out.bp) (Nat.not_le_of_lt HK.out.br) (Nat.not_le_of_lt HK.out.g) (Nat.not_le_of_lt HK.out.bd) (by assumption) | exact four_fr (S := fun x => x = P) (Fr.set (S := fun x => x = P) (p := ⟨P, 7, none⟩) (Fr.refl _ _) (.inl rfl) _) HK.out.bpn.2.1 HK.out.brn.2.1 (fun e => HK.out.pg e.symm) HK.out.bdn.2.1 (by assumption)))
            clear hK K hHeld
            have hHeld := hHeldN
            clear hHeldN
            try simp only [Act.put, List.getElem_toArray, List.getElem_cons_zero, List.getElem_cons_succ, List.setIfInBounds_toArray, List.set_cons_zero, List.set_cons_succ]
            refine wpAnyH_ready (rs := [11]) (by kernel_rfl) (by simp) ?_
            refine AllReadyH.cons rfl (fun K hK => ?_) AllReadyH.nil
            try simp only [List.getElem_toArray, List.getElem_cons_zero, List.getElem_cons_succ]
            go_simp
            go_wp2_with (first | (go_at_call 38; ((with_reducible refine HCL.out.mono ?_); rintro e w' ⟨ty2, sub2, bd2, en2, f2, o2, t2, A2, c2, kd2, rfl, kS, k7, kOk⟩; have k9 : ∀ o, (World.alloc w' o).cell? ⟨P, 7, none⟩ = some (.slice A0 kids.length c0) := fun o => (fr_alloc (fun _ => False) _ o).cell id k7)) | (go_at_call 38; ((with_reducible refine (HCL2.out _).mono ?_); rintro e w' ⟨ty2, sub2, bd2, en2, f2, o2, t2, A2, c2, kd2, rfl, kS, k7, kOk, kRw⟩)))
            refine hK.out _ _ ?_ (fun hHeldN => ?_)
            · ((try dsimp only); (first | exact hS0 | assumption | exact four_fr (S := fun _ => False) (fr_alloc _ _ _) id id id id (by assumption) | exact four_fr (fr_grown HSW.out.own q2) (Nat.not_le_of_lt HK.out.bp) (Nat.not_le_of_lt HK.out.br) (Nat.not_le_of_lt HK.out.g) (Nat.not_le_of_lt HK.out.bd) (by assumption) | exact four_fr (S := fun x => x = P) (Fr.set (S := fun x => x = P) (p := ⟨P, 7, none⟩) (Fr.refl _ _) (.inl rfl) _) HK.out.bpn.2.1 HK.out.brn.2.1 (fun e => HK.out.pg e.symm) HK.out.bdn.2.1 (by assumption)))
            clear hK K hHeld
            have hHeld := hHeldN
            clear hHeldN
            try simp only [Act.put, List.getElem_toArray, List.getElem_cons_zero, List.getElem_cons_succ, List.setIfInBounds_toArray, List.set_cons_zero, List.set_cons_succ]
            refine wpAnyH_ready (rs := [14]) (by kernel_rfl) (by simp) ?_
            refine AllReadyH.cons rfl (fun K hK => ?_) AllReadyH.nil
            first | (refine step_append_row _ rfl (.tmp 27) (.tmp 37) _ rfl B1 29 i0 _ 8 112 Tryz.underlying27 hi hz0 hz1 hz2 rfl (by decide) (.slice A0 kids.length c0) kids.length (mcells kids) rfl ((own_call HK.out HSW.out kOk).alloc _) _ 1 1 _ rfl (row_new8 _ (mcell zeroP) _) (mcell_len _) (mcell_one _) (by unfold maxLen; omega) (by omega) (Nat.le_trans hsz (Nat.le_trans kOk.fr.size (fr_alloc (fun _ => False) _ _).size)) ?_; intro v' w'' q1 q2 q3; obtain ⟨q4, q5⟩ := app_p7 HK.out HSW.out kOk (fr_alloc (fun _ => False) _ _) q2; have hEx := Lib.hid (pack (w1 := w') (fr_alloc (fun _ => False) _ _) q2 q3); obtain ⟨gx, cx, rfl⟩ := own_shape q1) | (refine step_append_row _ rfl (.tmp 27) (.tmp 37) _ rfl B1 29 i0 _ 8 112 Tryz.underlying27 hi hz0 hz1 hz2 rfl (by decide) (.slice A0 kids.length c0) kids.length (mcells kids) rfl (own_call HK.out HSW.out kOk) _ 1 1 _ rfl kRw (mcell_len _) (mcell_one _) (by unfold maxLen; omega) (by omega) (Nat.le_trans hsz kOk.fr.size) ?_; intro v' w'' q1 q2 q3; obtain ⟨q4, q5⟩ := app_p7 HK.out HSW.out kOk (Fr.refl (fun _ => False) _) q2; have hEx := Lib.hid (pack (w1 := w') (Fr.refl (fun _ => False) _) q2 q3); obtain ⟨gx, cx, rfl⟩ := own_shape q1)
            refine hK.out _ _ ?_ (fun hHeldN => ?_)
            · ((try dsimp only); (first | exact hS0 | assumption | exact four_fr (S := fun _ => False) (fr_alloc _ _ _) id id id id (by assumption) | exact four_fr (fr_grown HSW.out.own q2) (Nat.not_le_of_lt HK.out.bp) (Nat.not_le_of_lt HK.out.br) (Nat.not_le_of_lt HK.out.g) (Nat.not_le_of_lt HK.out.bd) (by assumption) | exact four_fr (S := fun x => x = P) (Fr.set (S := fun x => x = P) (p := ⟨P, 7, none⟩) (Fr.refl _ _) (.inl rfl) _) HK.out.bpn.2.1 HK.out.brn.2.1 (fun e => HK.out.pg e.symm) HK.out.bdn.2.1 (by assumption)))
            clear hK K hHeld
            have hHeld := hHeldN
            clear hHeldN
            try simp only [Act.put, List.getElem_toArray, List.getElem_cons_zero, List.getElem_cons_succ, List.setIfInBounds_toArray, List.set_cons_zero, List.set_cons_succ]
            refine wpAnyH_take (i := 15) (v := ?_) rfl (by kernel_rfl) (by kernel_rfl) (by kernel_rfl) (fun _ _ _ h => h) (Or.inl ⟨by rfl, ?_⟩) hHeld ?_
            rotate_left
            · (intro w hSw; (try dsimp only at hSw); go_simp; (all_goals with_reducible rfl))
            try simp only [Act.put, List.getElem_toArray, List.getElem_cons_zero, List.getElem_cons_succ, List.setIfInBounds_toArray, List.set_cons_zero, List.set_cons_succ]
            refine wpAnyH_take (i := 16) (v := ?_) rfl (by kernel_rfl) (by kernel_rfl) (by kernel_rfl) (fun _ _ _ h => h) (Or.inl ⟨by rfl, ?_⟩) hHeld ?_
            rotate_left
            · (intro w hSw; (try dsimp only at hSw); go_simp; (all_goals with_reducible rfl))
            try simp only [Act.put, List.getElem_toArray, List.getElem_cons_zero, List.getElem_cons_succ, List.setIfInBounds_toArray, List.set_cons_zero, List.set_cons_succ]
            refine wpAnyH_ready (rs := [17]) (by kernel_rfl) (by simp) ?_
            refine AllReadyH.cons rfl (fun K hK => ?_) AllReadyH.nil
            try simp only [List.getElem_toArray, List.getElem_cons_zero, List.getElem_cons_succ]
            go_simp
            refine hK.out _ _ ?_ (fun hHeldN => ?_)
            · ((try dsimp only); (first | exact hS0 | assumption | exact four_fr (S := fun _ => False) (fr_alloc _ _ _) id id id id (by assumption) | exact four_fr (fr_grown HSW.out.own q2) (Nat.not_le_of_lt HK.out.bp) (Nat.not_le_of_lt HK.out.br) (Nat.not_le_of_lt HK.out.g) (Nat.not_le_of_lt HK.out.bd) (by assumption) | exact four_fr (S := fun x => x = P) (Fr.set (S := fun x => x = P) (p := ⟨P, 7, none⟩) (Fr.refl _ _) (.inl rfl) _) HK.out.bpn.2.1 HK.out.brn.2.1 (fun e => HK.out.pg e.symm) HK.out.bdn.2.1 (by assumption)))
            clear hK K hHeld
            have hHeld := hHeldN
            clear hHeldN
            try simp only [Act.put, List.getElem_toArray, List.getElem_cons_zero, List.getElem_cons_succ, List.setIfInBounds_toArray, List.set_cons_zero, List.set_cons_succ]
            refine wpAnyH_done (by kernel_rfl) ?_ _
            refine NoPanic.normal ?_
            have hbd : ((kids.length : Nat) : Int) < ((kids.length + 1 : Nat) : Int) := by omega
            obtain ⟨l0, l1, l2, l3, l4, l5, l6, l7, l8⟩ := late_cells (late_own q1 HK.out.p (.slice (some ⟨gx, 0, none⟩) (kids.length + 1) cx))
            obtain ⟨w3, hw3⟩ : ∃ w3, w3 = World.setCell w'' ⟨P, 7, none⟩ (.slice (some ⟨gx, 0, none⟩) (kids.length + 1) cx) := ⟨_, rfl⟩
            obtain ⟨q6, q7⟩ := WS.late HK.out HSW.out (by omega) kOk hEx.out q1 w3 hw3
            have z1 := q6.cg
            have z2 := q6.fg
            rw [← hw3] at l0 l1 l2 l3 l4 l5 l6 l7 l8 ⊢
            have q6 := Lib.hid q6
            clear HCL HCL2 hc7 hc8 hc9 hS0 q4 q5 hw3
            go_wp2
            go_end0
            exact epost_mk HK.out hFw q6.out q7 kOk.er rfl hmxe hn
        · try simp only [List.getElem_toArray, List.getElem_cons_zero, List.getElem_cons_succ]
          go_simp
          go_wp2_with (first | (go_at_call 38; ((with_reducible refine HCL.out.mono ?_); rintro e w' ⟨ty2, sub2, bd2, en2, f2, o2, t2, A2, c2, kd2, rfl, kS, k7, kOk⟩; have k9 : ∀ o, (World.alloc w' o).cell? ⟨P, 7, none⟩ = some (.slice A0 kids.length c0) := fun o => (fr_alloc (fun _ => False) _ o).cell id k7)) | (go_at_call 38; ((with_reducible refine (HCL2.out _).mono ?_); rintro e w' ⟨ty2, sub2, bd2, en2, f2, o2, t2, A2, c2, kd2, rfl, kS, k7, kOk, kRw⟩)))
          refine hK.out _ _ ?_ (fun hHeldN => ?_)
          · ((try dsimp only); (first | exact hS0 | assumption | exact four_fr (S := fun _ => False) (fr_alloc _ _ _) id id id id (by assumption) | exact four_fr (fr_grown HSW.out.own q2) (Nat.not_le_of_lt HK.out.bp) (Nat.not_le_of_lt HK.out.br) (Nat.not_le_of_lt HK.out.g) (Nat.not_le_of_lt HK.out.bd) (by assumption) | exact four_fr (S := fun x => x = P) (Fr.set (S := fun x => x = P) (p := ⟨P, 7, none⟩) (Fr.refl _ _) (.inl rfl) _) HK.out.bpn.2.1 HK.out.brn.2.1 (fun e => HK.out.pg e.symm) HK.out.bdn.2.1 (by assumption)))
          clear hK K hHeld
          have hHeld := hHeldN
          clear hHeldN
          try simp only [Act.put, List.getElem_toArray, List.getElem_cons_zero, List.getElem_cons_succ, List.setIfInBounds_toArray, List.set_cons_zero, List.set_cons_succ]
          refine wpAnyH_ready (rs := [3, 13]) (by kernel_rfl) (by simp) ?_
          refine AllReadyH.cons rfl (fun K hK => ?_) (AllReadyH.cons rfl (fun K hK => ?_) AllReadyH.nil)
          · try simp only [List.getElem_toArray, List.getElem_cons_zero, List.getElem_cons_succ]
            go_simp
            refine hK.out _ _ ?_ (fun hHeldN => ?_)
            · ((try dsimp only); (first | exact hS0 | assumption | exact four_fr (S := fun _ => False) (fr_alloc _ _ _) id id id id (by assumption) | exact four_fr (fr_grown HSW.out.own q2) (Nat.not_le_of_lt HK.out.bp) (Nat.not_le_of_lt HK.out.br) (Nat.not_le_of_lt HK.out.g) (Nat.not_le_of_lt HK.out.bd) (by assumption) | exact four_fr (S := fun x => x = P) (Fr.set (S := fun x => x = P) (p := ⟨P, 7, none⟩) (Fr.refl _ _) (.inl rfl) _) HK.out.bpn.2.1 HK.out.brn.2.1 (fun e => HK.out.pg e.symm) HK.out.bdn.2.1 (by assumption)))
            clear hK K hHeld
            have hHeld := hHeldN
            clear hHeldN
            try simp only [Act.put, List.getElem_toArray, List.getElem_cons_zero, List.getElem_cons_succ, List.setIfInBounds_toArray, List.set_cons_zero, List.set_cons_succ]
            refine wpAnyH_take (i := 12) (v := ?_) rfl (by kernel_rfl) (by kernel_rfl) (by kernel_rfl) (fun _ _ _ h => h) (Or.inl ⟨by rfl, ?_⟩) hHeld ?_
            rotate_left
            · (intro w hSw; (try dsimp only at hSw); go_simp; (all_goals with_reducible rfl))
            try simp only [Act.put, List.getElem_toArray, List.getElem_cons_zero, List.getElem_cons_succ, List.setIfInBounds_toArray, List.set_cons_zero, List.set_cons_succ]
            refine wpAnyH_ready (rs := [13]) (by kernel_rfl) (by simp) ?_
            refine AllReadyH.cons rfl (fun K hK => ?_) AllReadyH.nil
            try simp only [List.getElem_toArray, List.getElem_cons_zero, List.getElem_cons_succ]
            go_simp
            refine hK.out _ _ ?_ (fun hHeldN => ?_)
            · ((try dsimp only); (first | exact hS0 | assumption | exact four_fr (S := fun _ => False) (fr_alloc _ _ _) id id id id (by assumption) | exact four_fr (fr_grown HSW.out.own q2) (Nat.not_le_of_lt HK.out.bp) (Nat.not_le_of_lt HK.out.br) (Nat.not_le_of_lt HK.out.g) (Nat.not_le_of_lt HK.out.bd) (by assumption) | exact four_fr (S := fun x => x = P) (Fr.set (S := fun x => x = P) (p := ⟨P, 7, none⟩) (Fr.refl _ _) (.inl rfl) _) HK.out.bpn.2.1 HK.out.brn.2.1 (fun e => HK.out.pg e.symm) HK.out.bdn.2.1 (by assumption)))
            clear hK K hHeld
            have hHeld := hHeldN
            clear hHeldN
            try simp only [Act.put, List.getElem_toArray, List.getElem_cons_zero, List.getElem_cons_succ, List.setIfInBounds_toArray, List.set_cons_zero, List.set_cons_succ]
            refine wpAnyH_ready (rs := [14]) (by kernel_rfl) (by simp) ?_
            refine AllReadyH.cons rfl (fun K hK => ?_) AllReadyH.nil
            first | (refine step_append_row _ rfl (.tmp 27) (.tmp 37) _ rfl B1 29 i0 _ 8 112 Tryz.underlying27 hi hz0 hz1 hz2 rfl (by decide) (.slice A0 kids.length c0) kids.length (mcells kids) rfl ((own_call HK.out HSW.out kOk).alloc _) _ 1 1 _ rfl (row_new8 _ (mcell zeroP) _) (mcell_len _) (mcell_one _) (by unfold maxLen; omega) (by omega) (Nat.le_trans hsz (Nat.le_trans kOk.fr.size (fr_alloc (fun _ => False) _ _).size)) ?_; intro v' w'' q1 q2 q3; obtain ⟨q4, q5⟩ := app_p7 HK.out HSW.out kOk (fr_alloc (fun _ => False) _ _) q2; have hEx := Lib.hid (pack (w1 := w') (fr_alloc (fun _ => False) _ _) q2 q3); obtain ⟨gx, cx, rfl⟩ := own_shape q1) | (refine step_append_row _ rfl (.tmp 27) (.tmp 37) _ rfl B1 29 i0 _ 8 112 Tryz.underlying27 hi hz0 hz1 hz2 rfl (by decide) (.slice A0 kids.length c0) kids.length (mcells kids) rfl (own_call HK.out HSW.out kOk) _ 1 1 _ rfl kRw (mcell_len _) (mcell_one _) (by unfold maxLen; omega) (by omega) (Nat.le_trans hsz kOk.fr.size) ?_; intro v' w'' q1 q2 q3; obtain ⟨q4, q5⟩ := app_p7 HK.out HSW.out kOk (Fr.refl (fun _ => False) _) q2; have hEx := Lib.hid (pack (w1 := w') (Fr.refl (fun _ => False) _) q2 q3); obtain ⟨gx, cx, rfl⟩ := own_shape q1)
            refine hK.out _ _ ?_ (fun hHeldN => ?_)
            · ((try dsimp only); (first | exact hS0 | assumption | exact four_fr (S := fun _ => False) (fr_alloc _ _ _) id id id id (by assumption) | exact four_fr (fr_grown HSW.out.own q2) (Nat.not_le_of_lt HK.out.bp) (Nat.not_le_of_lt HK.out.br) (Nat.not_le_of_lt HK.out.g) (Nat.not_le_of_lt HK.out.bd) (by assumption) | exact four_fr (S := fun x => x = P) (Fr.set (S := fun x => x = P) (p := ⟨P, 7, none⟩) (Fr.refl _ _) (.inl rfl) _) HK.out.bpn.2.1 HK.out.brn.2.1 (fun e => HK.out.pg e.symm) HK.out.bdn.2.1 (by assumption)))
            clear hK K hHeld
            have hHeld := hHeldN
            clear hHeldN
            try simp only [Act.put, List.getElem_toArray, List.getElem_cons_zero, List.getElem_cons_succ, List.setIfInBounds_toArray, List.set_cons_zero, List.set_cons_succ]
            refine wpAnyH_take (i := 15) (v := ?_) rfl (by kernel_rfl) (by kernel_rfl) (by kernel_rfl) (fun _ _ _ h => h) (Or.inl ⟨by rfl, ?_⟩) hHeld ?_
            rotate_left
            · (intro w hSw; (try dsimp only at hSw); go_simp; (all_goals with_reducible rfl))
            try simp only [Act.put, List.getElem_toArray, List.getElem_cons_zero, List.getElem_cons_succ, List.setIfInBounds_toArray, List.set_cons_zero, List.set_cons_succ]
            refine wpAnyH_take (i := 16) (v := ?_) rfl (by kernel_rfl) (by kernel_rfl) (by kernel_rfl) (fun _ _ _ h => h) (Or.inl ⟨by rfl, ?_⟩) hHeld ?_
            rotate_left
            · (intro w hSw; (try dsimp only at hSw); go_simp; (all_goals with_reducible rfl))
            try simp only [Act.put, List.getElem_toArray, List.getElem_cons_zero, List.getElem_cons_succ, List.setIfInBounds_toArray, List.set_cons_zero, List.set_cons_succ]
            refine wpAnyH_ready (rs := [17]) (by kernel_rfl) (by simp) ?_
            refine AllReadyH.cons rfl (fun K hK => ?_) AllReadyH.nil
            try simp only [List.getElem_toArray, List.getElem_cons_zero, List.getElem_cons_succ]
            go_simp
            refine hK.out _ _ ?_ (fun hHeldN => ?_)
            · ((try dsimp only); (first | exact hS0 | assumption | exact four_fr (S := fun _ => False) (fr_alloc _ _ _) id id id id (by assumption) | exact four_fr (fr_grown HSW.out.own q2) (Nat.not_le_of_lt HK.out.bp) (Nat.not_le_of_lt HK.out.br) (Nat.not_le_of_lt HK.out.g) (Nat.not_le_of_lt HK.out.bd) (by assumption) | exact four_fr (S := fun x => x = P) (Fr.set (S := fun x => x = P) (p := ⟨P, 7, none⟩) (Fr.refl _ _) (.inl rfl) _) HK.out.bpn.2.1 HK.out.brn.2.1 (fun e => HK.out.pg e.symm) HK.out.bdn.2.1 (by assumption)))
            clear hK K hHeld
            have hHeld := hHeldN
            clear hHeldN
            try simp only [Act.put, List.getElem_toArray, List.getElem_cons_zero, List.getElem_cons_succ, List.setIfInBounds_toArray, List.set_cons_zero, List.set_cons_succ]
            refine wpAnyH_done (by kernel_rfl) ?_ _
            refine NoPanic.normal ?_
            have hbd : ((kids.length : Nat) : Int) < ((kids.length + 1 : Nat) : Int) := by omega
            obtain ⟨l0, l1, l2, l3, l4, l5, l6, l7, l8⟩ := late_cells (late_own q1 HK.out.p (.slice (some ⟨gx, 0, none⟩) (kids.length + 1) cx))
            obtain ⟨w3, hw3⟩ : ∃ w3, w3 = World.setCell w'' ⟨P, 7, none⟩ (.slice (some ⟨gx, 0, none⟩) (kids.length + 1) cx) := ⟨_, rfl⟩
            obtain ⟨q6, q7⟩ := WS.late HK.out HSW.out (by omega) kOk hEx.out q1 w3 hw3
            have z1 := q6.cg
            have z2 := q6.fg
            rw [← hw3] at l0 l1 l2 l3 l4 l5 l6 l7 l8 ⊢
            have q6 := Lib.hid q6
            clear HCL HCL2 hc7 hc8 hc9 hS0 q4 q5 hw3
            go_wp2
            go_end0
            exact epost_mk HK.out hFw q6.out q7 kOk.er rfl hmxe hn
          · try simp only [List.getElem_toArray, List.getElem_cons_zero, List.getElem_cons_succ]
            go_simp
            refine hK.out _ _ ?_ (fun hHeldN => ?_)
            · ((try dsimp only); (first | exact hS0 | assumption | exact four_fr (S := fun _ => False) (fr_alloc _ _ _) id id id id (by assumption) | exact four_fr (fr_grown HSW.out.own q2) (Nat.not_le_of_lt HK.out.bp) (Nat.not_le_of_lt HK.out.br) (Nat.not_le_of_lt HK.out.g) (Nat.not_le_of_lt HK.out.bd) (by assumption) | exact four_fr (S := fun x => x = P) (Fr.set (S := fun x => x = P) (p := ⟨P, 7, none⟩) (Fr.refl _ _) (.inl rfl) _) HK.out.bpn.2.1 HK.out.brn.2.1 (fun e => HK.out.pg e.symm) HK.out.bdn.2.1 (by assumption)))
            clear hK K hHeld
            have hHeld := hHeldN
            clear hHeldN
            try simp only [Act.put, List.getElem_toArray, List.getElem_cons_zero, List.getElem_cons_succ, List.setIfInBounds_toArray, List.set_cons_zero, List.set_cons_succ]
            refine wpAnyH_ready (rs := [3]) (by kernel_rfl) (by simp) ?_
            refine AllReadyH.cons rfl (fun K hK => ?_) AllReadyH.nil
            try simp only [List.getElem_toArray, List.getElem_cons_zero, List.getElem_cons_succ]
            go_simp
            refine hK.out _ _ ?_ (fun hHeldN => ?_)
            · ((try dsimp only); (first | exact hS0 | assumption | exact four_fr (S := fun _ => False) (fr_alloc _ _ _) id id id id (by assumption) | exact four_fr (fr_grown HSW.out.own q2) (Nat.not_le_of_lt HK.out.bp) (Nat.not_le_of_lt HK.out.br) (Nat.not_le_of_lt HK.out.g) (Nat.not_le_of_lt HK.out.bd) (by assumption) | exact four_fr (S := fun x => x = P) (Fr.set (S := fun x => x = P) (p := ⟨P, 7, none⟩) (Fr.refl _ _) (.inl rfl) _) HK.out.bpn.2.1 HK.out.brn.2.1 (fun e => HK.out.pg e.symm) HK.out.bdn.2.1 (by assumption)))
            clear hK K hHeld
            have hHeld := hHeldN
            clear hHeldN
            try simp only [Act.put, List.getElem_toArray, List.getElem_cons_zero, List.getElem_cons_succ, List.setIfInBounds_toArray, List.set_cons_zero, List.set_cons_succ]
            refine wpAnyH_take (i := 12) (v := ?_) rfl (by kernel_rfl) (by kernel_rfl) (by kernel_rfl) (fun _ _ _ h => h) (Or.inl ⟨by rfl, ?_⟩) hHeld ?_
            rotate_left
            · (intro w hSw; (try dsimp only at hSw); go_simp; (all_goals with_reducible rfl))
            try simp only [Act.put, List.getElem_toArray, List.getElem_cons_zero, List.getElem_cons_succ, List.setIfInBounds_toArray, List.set_cons_zero, List.set_cons_succ]
            refine wpAnyH_ready (rs := [14]) (by kernel_rfl) (by simp) ?_
            refine AllReadyH.cons rfl (fun K hK => ?_) AllReadyH.nil
            first | (refine step_append_row _ rfl (.tmp 27) (.tmp 37) _ rfl B1 29 i0 _ 8 112 Tryz.underlying27 hi hz0 hz1 hz2 rfl (by decide) (.slice A0 kids.length c0) kids.length (mcells kids) rfl ((own_call HK.out HSW.out kOk).alloc _) _ 1 1 _ rfl (row_new8 _ (mcell zeroP) _) (mcell_len _) (mcell_one _) (by unfold maxLen; omega) (by omega) (Nat.le_trans hsz (Nat.le_trans kOk.fr.size (fr_alloc (fun _ => False) _ _).size)) ?_; intro v' w'' q1 q2 q3; obtain ⟨q4, q5⟩ := app_p7 HK.out HSW.out kOk (fr_alloc (fun _ => False) _ _) q2; have hEx := Lib.hid (pack (w1 := w') (fr_alloc (fun _ => False) _ _) q2 q3); obtain ⟨gx, cx, rfl⟩ := own_shape q1) | (refine step_append_row _ rfl (.tmp 27) (.tmp 37) _ rfl B1 29 i0 _ 8 112 Tryz.underlying27 hi hz0 hz1 hz2 rfl (by decide) (.slice A0 kids.length c0) kids.length (mcells kids) rfl (own_call HK.out HSW.out kOk) _ 1 1 _ rfl kRw (mcell_len _) (mcell_one _) (by unfold maxLen; omega) (by omega) (Nat.le_trans hsz kOk.fr.size) ?_; intro v' w'' q1 q2 q3; obtain ⟨q4, q5⟩ := app_p7 HK.out HSW.out kOk (Fr.refl (fun _ => False) _) q2; have hEx := Lib.hid (pack (w1 := w') (Fr.refl (fun _ => False) _) q2 q3); obtain ⟨gx, cx, rfl⟩ := own_shape q1)
            refine hK.out _ _ ?_ (fun hHeldN => ?_)
            · ((try dsimp only); (first | exact hS0 | assumption | exact four_fr (S := fun _ => False) (fr_alloc _ _ _) id id id id (by assumption) | exact four_fr (fr_grown HSW.out.own q2) (Nat.not_le_of_lt HK.out.bp) (Nat.not_le_of_lt HK.out.br) (Nat.not_le_of_lt HK.out.g) (Nat.not_le_of_lt HK.out.bd) (by assumption) | exact four_fr (S := fun x => x = P) (Fr.set (S := fun x => x = P) (p := ⟨P, 7, none⟩) (Fr.refl _ _) (.inl rfl) _) HK.out.bpn.2.1 HK.out.brn.2.1 (fun e => HK.out.pg e.symm) HK.out.bdn.2.1 (by assumption)))
            clear hK K hHeld
            have hHeld := hHeldN
            clear hHeldN
            try simp only [Act.put, List.getElem_toArray, List.getElem_cons_zero, List.getElem_cons_succ, List.setIfInBounds_toArray, List.set_cons_zero, List.set_cons_succ]
            refine wpAnyH_take (i := 15) (v := ?_) rfl (by kernel_rfl) (by kernel_rfl) (by kernel_rfl) (fun _ _ _ h => h) (Or.inl ⟨by rfl, ?_⟩) hHeld ?_
            rotate_left
            · (intro w hSw; (try dsimp only at hSw); go_simp; (all_goals with_reducible rfl))
            try simp only [Act.put, List.getElem_toArray, List.getElem_cons_zero, List.getElem_cons_succ, List.setIfInBounds_toArray, List.set_cons_zero, List.set_cons_succ]
            refine wpAnyH_take (i := 16) (v := ?_) rfl (by kernel_rfl) (by kernel_rfl) (by kernel_rfl) (fun _ _ _ h => h) (Or.inl ⟨by rfl, ?_⟩) hHeld ?_
            rotate_left
            · (intro w hSw; (try dsimp only at hSw); go_simp; (all_goals with_reducible rfl))
            try simp only [Act.put, List.getElem_toArray, List.getElem_cons_zero, List.getElem_cons_succ, List.setIfInBounds_toArray, List.set_cons_zero, List.set_cons_succ]
            refine wpAnyH_ready (rs := [17]) (by kernel_rfl) (by simp) ?_
            refine AllReadyH.cons rfl (fun K hK => ?_) AllReadyH.nil
            try simp only [List.getElem_toArray, List.getElem_cons_zero, List.getElem_cons_succ]
            go_simp
            refine hK.out _ _ ?_ (fun hHeldN => ?_)
            · ((try dsimp only); (first | exact hS0 | assumption | exact four_fr (S := fun _ => False) (fr_alloc _ _ _) id id id id (by assumption) | exact four_fr (fr_grown HSW.out.own q2) (Nat.not_le_of_lt HK.out.bp) (Nat.not_le_of_lt HK.out.br) (Nat.not_le_of_lt HK.out.g) (Nat.not_le_of_lt HK.out.bd) (by assumption) | exact four_fr (S := fun x => x = P) (Fr.set (S := fun x => x = P) (p := ⟨P, 7, none⟩) (Fr.refl _ _) (.inl rfl) _) HK.out.bpn.2.1 HK.out.brn.2.1 (fun e => HK.out.pg e.symm) HK.out.bdn.2.1 (by assumption)))
            clear hK K hHeld
            have hHeld := hHeldN
            clear hHeldN
            try simp only [Act.put, List.getElem_toArray, List.getElem_cons_zero, List.getElem_cons_succ, List.setIfInBounds_toArray, List.set_cons_zero, List.set_cons_succ]
            refine wpAnyH_done (by kernel_rfl) ?_ _
            refine NoPanic.normal ?_
            have hbd : ((kids.length : Nat) : Int) < ((kids.length + 1 : Nat) : Int) := by omega
            obtain ⟨l0, l1, l2, l3, l4, l5, l6, l7, l8⟩ := late_cells (late_own q1 HK.out.p (.slice (some ⟨gx, 0, none⟩) (kids.length + 1) cx))
            obtain ⟨w3, hw3⟩ : ∃ w3, w3 = World.setCell w'' ⟨P, 7, none⟩ (.slice (some ⟨gx, 0, none⟩) (kids.length + 1) cx) := ⟨_, rfl⟩
            obtain ⟨q6, q7⟩ := WS.late HK.out HSW.out (by omega) kOk hEx.out q1 w3 hw3
            have z1 := q6.cg
            have z2 := q6.fg
            rw [← hw3] at l0 l1 l2 l3 l4 l5 l6 l7 l8 ⊢
            have q6 := Lib.hid q6
            clear HCL HCL2 hc7 hc8 hc9 hS0 q4 q5 hw3
            go_wp2
            go_end0
            exact epost_mk HK.out hFw q6.out q7 kOk.er rfl hmxe hn
        · try simp only [List.getElem_toArray, List.getElem_cons_zero, List.getElem_cons_succ]
          go_simp
          refine hK.out _ _ ?_ (fun hHeldN => ?_)
          · ((try dsimp only); (first | exact hS0 | assumption | exact four_fr (S := fun _ => False) (fr_alloc _ _ _) id id id id (by assumption) | exact four_fr (fr_grown HSW.out.own q2) (Nat.not_le_of_lt HK.out.bp) (Nat.not_le_of_lt HK.out.br) (Nat.not_le_of_lt HK.out.g) (Nat.not_le_of_lt HK.out.bd) (by assumption) | exact four_fr (S := fun x => x = P) (Fr.set (S := fun x => x = P) (p := ⟨P, 7, none⟩) (Fr.refl _ _) (.inl rfl) _) HK.out.bpn.2.1 HK.out.brn.2.1 (fun e => HK.out.pg e.symm) HK.out.bdn.2.1 (by assumption)))
          clear hK K hHeld
          have hHeld := hHeldN
          clear hHeldN
          try simp only [Act.put, List.getElem_toArray, List.getElem_cons_zero, List.getElem_cons_succ, List.setIfInBounds_toArray, List.set_cons_zero, List.set_cons_succ]
          refine wpAnyH_ready (rs := [3, 11]) (by kernel_rfl) (by simp) ?_
          refine AllReadyH.cons rfl (fun K hK => ?_) (AllReadyH.cons rfl (fun K hK => ?_) AllReadyH.nil)
          · try simp only [List.getElem_toArray, List.getElem_cons_zero, List.getElem_cons_succ]
            go_simp
            refine hK.out _ _ ?_ (fun hHeldN => ?_)
            · ((try dsimp only); (first | exact hS0 | assumption | exact four_fr (S := fun _ => False) (fr_alloc _ _ _) id id id id (by assumption) | exact four_fr (fr_grown HSW.out.own q2) (Nat.not_le_of_lt HK.out.bp) (Nat.not_le_of_lt HK.out.br) (Nat.not_le_of_lt HK.out.g) (Nat.not_le_of_lt HK.out.bd) (by assumption) | exact four_fr (S := fun x => x = P) (Fr.set (S := fun x => x = P) (p := ⟨P, 7, none⟩) (Fr.refl _ _) (.inl rfl) _) HK.out.bpn.2.1 HK.out.brn.2.1 (fun e => HK.out.pg e.symm) HK.out.bdn.2.1 (by assumption)))
            clear hK K hHeld
            have hHeld := hHeldN
            clear hHeldN
            try simp only [Act.put, List.getElem_toArray, List.getElem_cons_zero, List.getElem_cons_succ, List.setIfInBounds_toArray, List.set_cons_zero, List.set_cons_succ]
            refine wpAnyH_take (i := 12) (v := ?_) rfl (by kernel_rfl) (by kernel_rfl) (by kernel_rfl) (fun _ _ _ h => h) (Or.inl ⟨by rfl, ?_⟩) hHeld ?_
            rotate_left
            · (intro w hSw; (try dsimp only at hSw); go_simp; (all_goals with_reducible rfl))
            try simp only [Act.put, List.getElem_toArray, List.getElem_cons_zero, List.getElem_cons_succ, List.setIfInBounds_toArray, List.set_cons_zero, List.set_cons_succ]
            refine wpAnyH_ready (rs := [11]) (by kernel_rfl) (by simp) ?_
            refine AllReadyH.cons rfl (fun K hK => ?_) AllReadyH.nil
            try simp only [List.getElem_toArray, List.getElem_cons_zero, List.getElem_cons_succ]
            go_simp
            go_wp2_with (first | (go_at_call 38; ((with_reducible refine HCL.out.mono ?_); rintro e w' ⟨ty2, sub2, bd2, en2, f2, o2, t2, A2, c2, kd2, rfl, kS, k7, kOk⟩; have k9 : ∀ o, (World.alloc w' o).cell? ⟨P, 7, none⟩ = some (.slice A0 kids.length c0) := fun o => (fr_alloc (fun _ => False) _ o).cell id k7)) | (go_at_call 38; ((with_reducible refine (HCL2.out _).mono ?_); rintro e w' ⟨ty2, sub2, bd2, en2, f2, o2, t2, A2, c2, kd2, rfl, kS, k7, kOk, kRw⟩)))
            refine hK.out _ _ ?_ (fun hHeldN => ?_)
            · ((try dsimp only); (first | exact hS0 | assumption | exact four_fr (S := fun _ => False) (fr_alloc _ _ _) id id id id (by assumption) | exact four_fr (fr_grown HSW.out.own q2) (Nat.not_le_of_lt HK.out.bp) (Nat.not_le_of_lt HK.out.br) (Nat.not_le_of_lt HK.out.g) (Nat.not_le_of_lt HK.out.bd) (by assumption) | exact four_fr (S := fun x => x = P) (Fr.set (S := fun x => x = P) (p := ⟨P, 7, none⟩) (Fr.refl _ _) (.inl rfl) _) HK.out.bpn.2.1 HK.out.brn.2.1 (fun e => HK.out.pg e.symm) HK.out.bdn.2.1 (by assumption)))
            clear hK K hHeld
            have hHeld := hHeldN
            clear hHeldN
            try simp only [Act.put, List.getElem_toArray, List.getElem_cons_zero, List.getElem_cons_succ, List.setIfInBounds_toArray, List.set_cons_zero, List.set_cons_succ]
            refine wpAnyH_ready (rs := [14]) (by kernel_rfl) (by simp) ?_
            refine AllReadyH.cons rfl (fun K hK => ?_) AllReadyH.nil
            first | (refine step_append_row _ rfl (.tmp 27) (.tmp 37) _ rfl B1 29 i0 _ 8 112 Tryz.underlying27 hi hz0 hz1 hz2 rfl (by decide) (.slice A0 kids.length c0) kids.length (mcells kids) rfl ((own_call HK.out HSW.out kOk).alloc _) _ 1 1 _ rfl (row_new8 _ (mcell zeroP) _) (mcell_len _) (mcell_one _) (by unfold maxLen; omega) (by omega) (Nat.le_trans hsz (Nat.le_trans kOk.fr.size (fr_alloc (fun _ => False) _ _).size)) ?_; intro v' w'' q1 q2 q3; obtain ⟨q4, q5⟩ := app_p7 HK.out HSW.out kOk (fr_alloc (fun _ => False) _ _) q2; have hEx := Lib.hid (pack (w1 := w') (fr_alloc (fun _ => False) _ _) q2 q3); obtain ⟨gx, cx, rfl⟩ := own_shape q1) | (refine step_append_row _ rfl (.tmp 27) (.tmp 37) _ rfl B1 29 i0 _ 8 112 Tryz.underlying27 hi hz0 hz1 hz2 rfl (by decide) (.slice A0 kids.length c0) kids.length (mcells kids) rfl (own_call HK.out HSW.out kOk) _ 1 1 _ rfl kRw (mcell_len _) (mcell_one _) (by unfold maxLen; omega) (by omega) (Nat.le_trans hsz kOk.fr.size) ?_; intro v' w'' q1 q2 q3; obtain ⟨q4, q5⟩ := app_p7 HK.out HSW.out kOk (Fr.refl (fun _ => False) _) q2; have hEx := Lib.hid (pack (w1 := w') (Fr.refl (fun _ => False) _) q2 q3); obtain ⟨gx, cx, rfl⟩ := own_shape q1)
            refine hK.out _ _ ?_ (fun hHeldN => ?_)
            · ((try dsimp only); (first | exact hS0 | assumption | exact four_fr (S := fun _ => False) (fr_alloc _ _ _) id id id id (by assumption) | exact four_fr (fr_grown HSW.out.own q2) (Nat.not_le_of_lt HK.out.bp) (Nat.not_le_of_lt HK.out.br) (Nat.not_le_of_lt HK.out.g) (Nat.not_le_of_lt HK.out.bd) (by assumption) | exact four_fr (S := fun x => x = P) (Fr.set (S := fun x => x = P) (p := ⟨P, 7, none⟩) (Fr.refl _ _) (.inl rfl) _) HK.out.bpn.2.1 HK.out.brn.2.1 (fun e => HK.out.pg e.symm) HK.out.bdn.2.1 (by assumption)))
            clear hK K hHeld
            have hHeld := hHeldN
            clear hHeldN
            try simp only [Act.put, List.getElem_toArray, List.getElem_cons_zero, List.getElem_cons_succ, List.setIfInBounds_toArray, List.set_cons_zero, List.set_cons_succ]
            refine wpAnyH_take (i := 15) (v := ?_) rfl (by kernel_rfl) (by kernel_rfl) (by kernel_rfl) (fun _ _ _ h => h) (Or.inl ⟨by rfl, ?_⟩) hHeld ?_
            rotate_left
            · (intro w hSw; (try dsimp only at hSw); go_simp; (all_goals with_reducible rfl))
            try simp only [Act.put, List.getElem_toArray, List.getElem_cons_zero, List.getElem_cons_succ, List.setIfInBounds_toArray, List.set_cons_zero, List.set_cons_succ]
            refine wpAnyH_take (i := 16) (v := ?_) rfl (by kernel_rfl) (by kernel_rfl) (by kernel_rfl) (fun _ _ _ h => h) (Or.inl ⟨by rfl, ?_⟩) hHeld ?_
            rotate_left
            · (intro w hSw; (try dsimp only at hSw); go_simp; (all_goals with_reducible rfl))
            try simp only [Act.put, List.getElem_toArray, List.getElem_cons_zero, List.getElem_cons_succ, List.setIfInBounds_toArray, List.set_cons_zero, List.set_cons_succ]
            refine wpAnyH_ready (rs := [17]) (by kernel_rfl) (by simp) ?_
            refine AllReadyH.cons rfl (fun K hK => ?_) AllReadyH.nil
            try simp only [List.getElem_toArray, List.getElem_cons_zero, List.getElem_cons_succ]
            go_simp
            refine hK.out _ _ ?_ (fun hHeldN => ?_)
            · ((try dsimp only); (first | exact hS0 | assumption | exact four_fr (S := fun _ => False) (fr_alloc _ _ _) id id id id (by assumption) | exact four_fr (fr_grown HSW.out.own q2) (Nat.not_le_of_lt HK.out.bp) (Nat.not_le_of_lt HK.out.br) (Nat.not_le_of_lt HK.out.g) (Nat.not_le_of_lt HK.out.bd) (by assumption) | exact four_fr (S := fun x => x = P) (Fr.set (S := fun x => x = P) (p := ⟨P, 7, none⟩) (Fr.refl _ _) (.inl rfl) _) HK.out.bpn.2.1 HK.out.brn.2.1 (fun e => HK.out.pg e.symm) HK.out.bdn.2.1 (by assumption)))
            clear hK K hHeld
            have hHeld := hHeldN
            clear hHeldN
            try simp only [Act.put, List.getElem_toArray, List.getElem_cons_zero, List.getElem_cons_succ, List.setIfInBounds_toArray, List.set_cons_zero, List.set_cons_succ]
            refine wpAnyH_done (by kernel_rfl) ?_ _
            refine NoPanic.normal ?_
            have hbd : ((kids.length : Nat) : Int) < ((kids.length + 1 : Nat) : Int) := by omega
            obtain ⟨l0, l1, l2, l3, l4, l5, l6, l7, l8⟩ := late_cells (late_own q1 HK.out.p (.slice (some ⟨gx, 0, none⟩) (kids.length + 1) cx))
            obtain ⟨w3, hw3⟩ : ∃ w3, w3 = World.setCell w'' ⟨P, 7, none⟩ (.slice (some ⟨gx, 0, none⟩) (kids.length + 1) cx) := ⟨_, rfl⟩
            obtain ⟨q6, q7⟩ := WS.late HK.out HSW.out (by omega) kOk hEx.out q1 w3 hw3
            have z1 := q6.cg
            have z2 := q6.fg
            rw [← hw3] at l0 l1 l2 l3 l4 l5 l6 l7 l8 ⊢
            have q6 := Lib.hid q6
            clear HCL HCL2 hc7 hc8 hc9 hS0 q4 q5 hw3
            go_wp2
            go_end0
            exact epost_mk HK.out hFw q6.out q7 kOk.er rfl hmxe hn
          · try simp only [List.getElem_toArray, List.getElem_cons_zero, List.getElem_cons_succ]
            go_simp
            go_wp2_with (first | (go_at_call 38; ((with_reducible refine HCL.out.mono ?_); rintro e w' ⟨ty2, sub2, bd2, en2, f2, o2, t2, A2, c2, kd2, rfl, kS, k7, kOk⟩; have k9 : ∀ o, (World.alloc w' o).cell? ⟨P, 7, none⟩ = some (.slice A0 kids.length c0) := fun o => (fr_alloc (fun _ => False) _ o).cell id k7)) | (go_at_call 38; ((with_reducible refine (HCL2.out _).mono ?_); rintro e w' ⟨ty2, sub2, bd2, en2, f2, o2, t2, A2, c2, kd2, rfl, kS, k7, kOk, kRw⟩)))
            refine hK.out _ _ ?_ (fun hHeldN => ?_)
            · ((try dsimp only); (first | exact hS0 | assumption | exact four_fr (S := fun _ => False) (fr_alloc _ _ _) id id id id (by assumption) | exact four_fr (fr_grown HSW.out.own q2) (Nat.not_le_of_lt HK.out.bp) (Nat.not_le_of_lt HK.out.br) (Nat.not_le_of_lt HK.out.g) (Nat.not_le_of_lt HK.out.bd) (by assumption) | exact four_fr (S := fun x => x = P) (Fr.set (S := fun x => x = P) (p := ⟨P, 7, none⟩) (Fr.refl _ _) (.inl rfl) _) HK.out.bpn.2.1 HK.out.brn.2.1 (fun e => HK.out.pg e.symm) HK.out.bdn.2.1 (by assumption)))
            clear hK K hHeld
            have hHeld := hHeldN
            clear hHeldN
            try simp only [Act.put, List.getElem_toArray, List.getElem_cons_zero, List.getElem_cons_succ, List.setIfInBounds_toArray, List.set_cons_zero, List.set_cons_succ]
            refine wpAnyH_ready (rs := [3]) (by kernel_rfl) (by simp) ?_
            refine AllReadyH.cons rfl (fun K hK => ?_) AllReadyH.nil
            try simp only [List.getElem_toArray, List.getElem_cons_zero, List.getElem_cons_succ]
            go_simp
            refine hK.out _ _ ?_ (fun hHeldN => ?_)
            · ((try dsimp only); (first | exact hS0 | assumption | exact four_fr (S := fun _ => False) (fr_alloc _ _ _) id id id id (by assumption) | exact four_fr (fr_grown HSW.out.own q2) (Nat.not_le_of_lt HK.out.bp) (Nat.not_le_of_lt HK.out.br) (Nat.not_le_of_lt HK.out.g) (Nat.not_le_of_lt HK.out.bd) (by assumption) | exact four_fr (S := fun x => x = P) (Fr.set (S := fun x => x = P) (p := ⟨P, 7, none⟩) (Fr.refl _ _) (.inl rfl) _) HK.out.bpn.2.1 HK.out.brn.2.1 (fun e => HK.out.pg e.symm) HK.out.bdn.2.1 (by assumption)))
            clear hK K hHeld
            have hHeld := hHeldN
            clear hHeldN
            try simp only [Act.put, List.getElem_toArray, List.getElem_cons_zero, List.getElem_cons_succ, List.setIfInBounds_toArray, List.set_cons_zero, List.set_cons_succ]
            refine wpAnyH_take (i := 12) (v := ?_) rfl (by kernel_rfl) (by kernel_rfl) (by kernel_rfl) (fun _ _ _ h => h) (Or.inl ⟨by rfl, ?_⟩) hHeld ?_
            rotate_left
            · (intro w hSw; (try dsimp only at hSw); go_simp; (all_goals with_reducible rfl))
            try simp only [Act.put, List.getElem_toArray, List.getElem_cons_zero, List.getElem_cons_succ, List.setIfInBounds_toArray, List.set_cons_zero, List.set_cons_succ]
            refine wpAnyH_ready (rs := [14]) (by kernel_rfl) (by simp) ?_
            refine AllReadyH.cons rfl (fun K hK => ?_) AllReadyH.nil
            first | (refine step_append_row _ rfl (.tmp 27) (.tmp 37) _ rfl B1 29 i0 _ 8 112 Tryz.underlying27 hi hz0 hz1 hz2 rfl (by decide) (.slice A0 kids.length c0) kids.length (mcells kids) rfl ((own_call HK.out HSW.out kOk).alloc _) _ 1 1 _ rfl (row_new8 _ (mcell zeroP) _) (mcell_len _) (mcell_one _) (by unfold maxLen; omega) (by omega) (Nat.le_trans hsz (Nat.le_trans kOk.fr.size (fr_alloc (fun _ => False) _ _).size)) ?_; intro v' w'' q1 q2 q3; obtain ⟨q4, q5⟩ := app_p7 HK.out HSW.out kOk (fr_alloc (fun _ => False) _ _) q2; have hEx := Lib.hid (pack (w1 := w') (fr_alloc (fun _ => False) _ _) q2 q3); obtain ⟨gx, cx, rfl⟩ := own_shape q1) | (refine step_append_row _ rfl (.tmp 27) (.tmp 37) _ rfl B1 29 i0 _ 8 112 Tryz.underlying27 hi hz0 hz1 hz2 rfl (by decide) (.slice A0 kids.length c0) kids.length (mcells kids) rfl (own_call HK.out HSW.out kOk) _ 1 1 _ rfl kRw (mcell_len _) (mcell_one _) (by unfold maxLen; omega) (by omega) (Nat.le_trans hsz kOk.fr.size) ?_; intro v' w'' q1 q2 q3; obtain ⟨q4, q5⟩ := app_p7 HK.out HSW.out kOk (Fr.refl (fun _ => False) _) q2; have hEx := Lib.hid (pack (w1 := w') (Fr.refl (fun _ => False) _) q2 q3); obtain ⟨gx, cx, rfl⟩ := own_shape q1)
            refine hK.out _ _ ?_ (fun hHeldN => ?_)
            · ((try dsimp only); (first | exact hS0 | assumption | exact four_fr (S := fun _ => False) (fr_alloc _ _ _) id id id id (by assumption) | exact four_fr (fr_grown HSW.out.own q2) (Nat.not_le_of_lt HK.out.bp) (Nat.not_le_of_lt HK.out.br) (Nat.not_le_of_lt HK.out.g) (Nat.not_le_of_lt HK.out.bd) (by assumption) | exact four_fr (S := fun x => x = P) (Fr.set (S := fun x => x = P) (p := ⟨P, 7, none⟩) (Fr.refl _ _) (.inl rfl) _) HK.out.bpn.2.1 HK.out.brn.2.1 (fun e => HK.out.pg e.symm) HK.out.bdn.2.1 (by assumption)))
            clear hK K hHeld
            have hHeld := hHeldN
            clear hHeldN
            try simp only [Act.put, List.getElem_toArray, List.getElem_cons_zero, List.getElem_cons_succ, List.setIfInBounds_toArray, List.set_cons_zero, List.set_cons_succ]
            refine wpAnyH_take (i := 15) (v := ?_) rfl (by kernel_rfl) (by kernel_rfl) (by kernel_rfl) (fun _ _ _ h => h) (Or.inl ⟨by rfl, ?_⟩) hHeld ?_
            rotate_left
            · (intro w hSw; (try dsimp only at hSw); go_simp; (all_goals with_reducible rfl))
            try simp only [Act.put, List.getElem_toArray, List.getElem_cons_zero, List.getElem_cons_succ, List.setIfInBounds_toArray, List.set_cons_zero, List.set_cons_succ]
            refine wpAnyH_take (i := 16) (v := ?_) rfl (by kernel_rfl) (by kernel_rfl) (by kernel_rfl) (fun _ _ _ h => h) (Or.inl ⟨by rfl, ?_⟩) hHeld ?_
            rotate_left
            · (intro w hSw; (try dsimp only at hSw); go_simp; (all_goals with_reducible rfl))
            try simp only [Act.put, List.getElem_toArray, List.getElem_cons_zero, List.getElem_cons_succ, List.setIfInBounds_toArray, List.set_cons_zero, List.set_cons_succ]
            refine wpAnyH_ready (rs := [17]) (by kernel_rfl) (by simp) ?_
            refine AllReadyH.cons rfl (fun K hK => ?_) AllReadyH.nil
            try simp only [List.getElem_toArray, List.getElem_cons_zero, List.getElem_cons_succ]
            go_simp
            refine hK.out _ _ ?_ (fun hHeldN => ?_)
            · ((try dsimp only); (first | exact hS0 | assumption | exact four_fr (S := fun _ => False) (fr_alloc _ _ _) id id id id (by assumption) | exact four_fr (fr_grown HSW.out.own q2) (Nat.not_le_of_lt HK.out.bp) (Nat.not_le_of_lt HK.out.br) (Nat.not_le_of_lt HK.out.g) (Nat.not_le_of_lt HK.out.bd) (by assumption) | exact four_fr (S := fun x => x = P) (Fr.set (S := fun x => x = P) (p := ⟨P, 7, none⟩) (Fr.refl _ _) (.inl rfl) _) HK.out.bpn.2.1 HK.out.brn.2.1 (fun e => HK.out.pg e.symm) HK.out.bdn.2.1 (by assumption)))
            clear hK K hHeld
            have hHeld := hHeldN
            clear hHeldN
            try simp only [Act.put, List.getElem_toArray, List.getElem_cons_zero, List.getElem_cons_succ, List.setIfInBounds_toArray, List.set_cons_zero, List.set_cons_succ]
            refine wpAnyH_done (by kernel_rfl) ?_ _
            refine NoPanic.normal ?_
            have hbd : ((kids.length : Nat) : Int) < ((kids.length + 1 : Nat) : Int) := by omega
            obtain ⟨l0, l1, l2, l3, l4, l5, l6, l7, l8⟩ := late_cells (late_own q1 HK.out.p (.slice (some ⟨gx, 0, none⟩) (kids.length + 1) cx))
            obtain ⟨w3, hw3⟩ : ∃ w3, w3 = World.setCell w'' ⟨P, 7, none⟩ (.slice (some ⟨gx, 0, none⟩) (kids.length + 1) cx) := ⟨_, rfl⟩
            obtain ⟨q6, q7⟩ := WS.late HK.out HSW.out (by omega) kOk hEx.out q1 w3 hw3
            have z1 := q6.cg
            have z2 := q6.fg
            rw [← hw3] at l0 l1 l2 l3 l4 l5 l6 l7 l8 ⊢
            have q6 := Lib.hid q6
            clear HCL HCL2 hc7 hc8 hc9 hS0 q4 q5 hw3
            go_wp2
            go_end0
            exact epost_mk HK.out hFw q6.out q7 kOk.er rfl hmxe hn
    · have hn2 : ¬ (n : Int) < 16 := by omega
      have HF : Hid (EPost (partS b k) R P Bg BR BP BD B1 A c b ty sub bd enc fr bo to_ deep (some g) kids n at_ w (.returned (.tuple #[])) (w.setCell ⟨Bg, 0, none⟩ (.int .i64 (-1)))) := Lib.hid ⟨rfl, v, [], n, by rw [List.append_nil]; exact S.setg K none _ rfl, by unfold endsS; dsimp only; rw [if_neg hn]; rfl, Fr.set (p := ⟨Bg, 0, none⟩) (Fr.refl _ w) (.inl (.inr (.inr (.inl rfl)))) _⟩
      obtain ⟨PD, hPD⟩ : ∃ PD, PD = EPost (partS b k) R P Bg BR BP BD B1 A c b ty sub bd enc fr bo to_ deep (some g) kids n at_ w := ⟨_, rfl⟩
      rw [← hPD] at HF ⊢
      clear hPD hk K S ho hav
      go_enter Tryz.func140, Tryz.ntmps140
      go_wp2
      go_end0
      exact HF.out
end Go.Proofs.YtbjbljfmcpidmaaGreatDoor

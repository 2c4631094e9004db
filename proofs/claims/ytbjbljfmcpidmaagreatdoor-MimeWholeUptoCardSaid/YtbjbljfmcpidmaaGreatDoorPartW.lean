/- mime: the reading of a part. -/
import Derived.Test.YtbjbljfmcpidmaaGreatDoorWithin
import Derived.Test.YtbjbljfmcpidmaaGreatDoorPartL
import Derived.Deep.Cut
namespace Go.Proofs.YtbjbljfmcpidmaaGreatDoor
open Go.RowKit Go.Lib Go.Shelf
set_option maxHeartbeats 1000000 in
set_option maxRecDepth 100000 in
theorem partW_any (rec : Nat → Nat → Nat → PT × Nat) (dp : Bool) (R : Nat) (A : Option Addr) (c : Nat) (b : List UInt8) (fr to_ n : Nat) (deep : Int) (w : World) (hdp : if dp then deep < 4 else ¬ deep < 4) (hWC : dp = true → WC rec b deep) (hb : b.length ≤ 2000000) (hc : b.length ≤ c) (hA : A = none → c = 0) (hr : RowIn w A (bcells b))
    (hAR : b ≠ [] → ∀ ad, A = some ad → ad.block ≠ R) (hR : RR w R A b c n) (hg : Gl w) (gR : gne R) (hft : fr ≤ to_) (hto : to_ ≤ b.length) (hn : n ≤ 16) :
    Calls Tryz.prog 38 #[.pointer (some ⟨R, 0, none⟩), .int .i64 (fr : Int), .int .i64 (to_ : Int), .int .i64 deep] w (PPostW (partW rec dp b fr to_ n) b R A c w) := by
  have hft2 : (fr : Int) ≤ (to_ : Int) := by omega
  have htc : (to_ : Int) ≤ (c : Int) := by omega
  have h0 := hR.c0
  have hRl := lt_of_cell h0
  have h0a : ∀ o, (w.alloc o).cell? ⟨R, 0, none⟩ = some (.slice A b.length c) := fun o => (fr_alloc (fun _ => False) w o).cell id h0
  have hPa := Lib.hid (fun o => parse_at (A2 := A.map (fun x => x.add fr)) (c2 := c - fr) hr hg hb hc hA hft hto ((Below.refl w.heap.size w).alloc (Nat.le_refl _) o) (.inl ⟨rfl, rfl⟩))
  have hPb := Lib.hid (fun o (e : c = fr) => parse_at (A2 := A) (c2 := 0) hr hg hb hc hA hft hto ((Below.refl w.heap.size w).alloc (Nat.le_refl _) o) (.inr ⟨rfl, rfl, e⟩))
  obtain ⟨hfit, hlen⟩ := hdr_fit (cutB b fr to_)
  have hcl : (cutB b fr to_).length ≤ 2000000 := by unfold cutB; simp; omega
  have hfit := hfit.mono hcl
  have hbd := kind_bd (getF (hdr (cutB b fr to_)).1 ctName).1
  obtain ⟨rr, HPW⟩ : ∃ rr, rr = partW rec dp b fr to_ n := ⟨_, rfl⟩
  rw [← HPW]
  unfold partW partKd partEn partBo at HPW
  obtain ⟨PD, hPD⟩ : ∃ PD, PD = PPostW rr b R A c w := ⟨_, rfl⟩
  rw [← hPD]
  have HPD := Lib.hid hPD
  clear hPD
  have hz0 := Lib.hid (pc_zero w 29)
  have hal : Fr (fun _ => False) w (w.alloc (.cells #[.string ⟨#[]⟩, .string ⟨#[]⟩, .string ⟨#[]⟩, .string ⟨#[]⟩, .int .i64 0, .int .i64 0, .int .i64 0, .slice none 0 0] 29)) := fr_alloc _ _ _
  have hbo := bo_le b fr to_ hft hto
  unfold partBo at hbo
  have hAs : (kindS (getF (hdr (cutB b fr to_)).1 ctName).1).1 = mpT → b ≠ [] ∧ ∃ bb oo, A = some ⟨bb, oo, none⟩ ∧ bb < w.heap.size := by
    intro h
    have hbn : b ≠ [] := fun hb0 => by
      rw [hb0, show cutB [] fr to_ = [] by simp [cutB]] at h
      revert h
      decide
    refine ⟨hbn, hr.addr fun e => hbn ?_⟩
    have hb0 : b = [] := by
      cases b with
      | nil => rfl
      | cons x t => simp [bcells] at e
    exact hb0
  generalize hdr (cutB b fr to_) = LN at *
  obtain ⟨L, N⟩ := LN
  dsimp only at hfit hlen hbd HPW hbo hAs
  obtain ⟨ty, sub, bd, hkd⟩ : ∃ ty sub bd, kindS (getF L ctName).1 = (ty, sub, bd) := ⟨_, _, _, rfl⟩
  rw [hkd] at hbd HPW hAs
  dsimp only at hbd HPW hAs
  generalize hen : encS L = en at HPW
  have HPW2 := Lib.hid HPW
  clear HPW
  have HPW := HPW2
  clear HPW2
  go_enter Tryz.func38, Tryz.ntmps38
  go_wp2_with (first | (go_at_call 32; (with_reducible refine (hPa.out _).mono ?_); rintro e w1 ⟨A3, c3, rfl, hr3, hb1⟩) | (go_at_call 32; (with_reducible refine (hPb.out _ (by assumption)).mono ?_); rintro e w1 ⟨A3, c3, rfl, hr3, hb1⟩) | (go_at_call 74; (have hEn := encoding_any A3 c3 L w1 hr3 hfit (by omega)); (with_reducible refine hEn.mono ?_); rintro e w2 ⟨rfl, hb2⟩; (try rw [hen]); have hF2 : Fr (fun _ => False) w w2 := (hal.trans (Fr.of_below hb1)).trans (Fr.of_below hb2)))
  all_goals
    go_at_call 33
    have hKd := fun o => kind_any A3 c3 L (w2.alloc o) ((hr3.below hb2).below ((Below.refl _ _).alloc (Nat.le_refl _) o)) hfit (by omega) ((hF2.gl id id id hg).below ((Below.refl _ _).alloc (Nat.le_refl _) o))
    with_reducible refine (hKd _).mono ?_
    rintro e w3 ⟨rfl, hb3⟩
    rw [hkd]
    dsimp only [kind3]
    have hP3 := (pc_new2 w2 en fr N to_ _).below hb3
    have hZ3 := (((hz0.out.below hb1).below hb2).fr (fr_alloc (fun _ => False) _ _) id).below hb3
    have hF3 := hF2.trans ((fr_alloc (fun _ => False) _ _).trans (Fr.of_below hb3))
    have hPZ : w.heap.size < w2.heap.size := by
      have h1 : w.heap.size + 1 ≤ w1.heap.size := by simpa using hb1.size
      have h2 := hb2.size
      omega
    have hPZ1 : ¬ w.heap.size = w2.heap.size := by omega
    have hPZ2 : ¬ w2.heap.size = w.heap.size := by omega
    clear hPa hPb h0a hz0 hKd
    obtain ⟨p0, p1, p2, p3, p4, p5, p6, p7, pz⟩ := hP3.lit
    have HZ3 := Lib.hid hZ3
    have HF3 := Lib.hid hF3
    have HP3 := Lib.hid hP3
    clear hZ3 hF3 hP3 hF2 hal hb1 hb2 hb3 hr3
    go_upto_region 4 with (fail)
    have hP4 := HP3.out.set012 ty sub bd
    have hZ4 := HZ3.out.fr (Fr.set012 (S := fun x => x = w2.heap.size) (Fr.refl _ _) (P := w2.heap.size) (.inl rfl) (.string ⟨ty.toArray⟩) (.string ⟨sub.toArray⟩) (.string ⟨bd.toArray⟩)) hPZ1
    have hF4 := HF3.out.set012 (P := w2.heap.size) (.inr (Nat.le_of_lt hPZ)) (.string ⟨ty.toArray⟩) (.string ⟨sub.toArray⟩) (.string ⟨bd.toArray⟩)
    obtain ⟨w4, hw4⟩ : ∃ w4, w4 = ((w3.setCell ⟨w2.heap.size, 0, none⟩ (.string ⟨ty.toArray⟩)).setCell ⟨w2.heap.size, 1, none⟩ (.string ⟨sub.toArray⟩)).setCell ⟨w2.heap.size, 2, none⟩ (.string ⟨bd.toArray⟩) := ⟨_, rfl⟩
    rw [← hw4] at hP4 hZ4 hF4 ⊢
    clear hw4 p0 p1 p2 p3 p4 p5 p6 p7 pz HZ3 HF3 HP3
    obtain ⟨p0, p1, p2, p3, p4, p5, p6, p7, pz⟩ := hP4.lit
    obtain ⟨z0, z1, z2, z3, z4, z5, z6, z7, zz⟩ := PC.lit (N := 0) hZ4
    have HZ4 := Lib.hid hZ4
    have HF4 := Lib.hid hF4
    have HP4 := Lib.hid hP4
    clear hZ4 hF4 hP4
    have hZs := lt_of_cell z0
    have hPs := lt_of_cell p0
    have hR4 : RR w4 R A b c n := hR.fr HF4.out id
    have hF45 : Fr (fun x => x = R) w w4 := HF4.out.weak fun _ h => h.elim
    have HF45 := Lib.hid hF45
    have HR4 := Lib.hid hR4
    have hPl := Nat.le_of_lt hPZ
    clear hF45 hR4 hEn hR h0 hfit hlen hkd hen
    by_cases hty : ty = mpT
    · subst hty
      have p0 : w4.cell? ⟨w2.heap.size, 0, none⟩ = some (.string ⟨#[77, 85, 76, 84, 73, 80, 65, 82, 84]⟩) := p0
      have HQ : Hid (rr = partEnd (mpT, sub, bd) en fr (fr + N) to_ (partKs rec dp b bd (fr + N) to_ n)) := Lib.hid (HPW.out.trans (if_pos rfl))
      clear HPW
      by_cases hb0 : bd = []
      · subst hb0
        have p2 : w4.cell? ⟨w2.heap.size, 2, none⟩ = some (.string ⟨#[]⟩) := p2
        have HR : Hid (rr = (.mk kText kPlain [] en fr (fr + N) to_ [], n)) := Lib.hid (by rw [HQ.out, ks_no (.inl rfl)]; rfl)
        clear HQ
        go_wp2
        refine bodyPost_ret (v := .agg #[.string ⟨#[84, 69, 88, 84]⟩, .string ⟨#[80, 76, 65, 73, 78]⟩, .string ⟨#[]⟩, .string ⟨en.toArray⟩, .int .i64 (fr : Int), .int .i64 ((fr : Int) + (N : Int)), .int .i64 (to_ : Int), .slice none 0 0]) (by simp [results, Tryz.results38, go_sem, z0, z1, z2, z3, z4, z5, z6, z7]) rfl ?_
        rw [HPD.out]
        exact ppost_mk (ty := kText) (sub := kPlain) (bd := []) HF45.out HR4.out (((Fr.refl _ _).set012 (.inl (.inr rfl)) _ _ _).set8 (.inl (.inl rfl)) _ _ _ _ _ _ _ _) (Nat.le_refl _) hPl hRl hZs hPs (RowIn.nil _ _) (Nat.le_refl _) (fun h => absurd rfl h) trivial HR.out
      · have hb1 : (bd == []) = false := beq_eq_false_iff_ne.2 hb0
        cases dp with
        | false =>
          have HR : Hid (rr = (.mk kText kPlain [] en fr (fr + N) to_ [], n)) := Lib.hid (by rw [HQ.out, ks_no (.inr rfl)]; rfl)
          have hd4 : ¬ deep < 4 := by simpa using hdp
          clear HQ hdp
          go_wp2
          refine bodyPost_ret (v := .agg #[.string ⟨#[84, 69, 88, 84]⟩, .string ⟨#[80, 76, 65, 73, 78]⟩, .string ⟨#[]⟩, .string ⟨en.toArray⟩, .int .i64 (fr : Int), .int .i64 ((fr : Int) + (N : Int)), .int .i64 (to_ : Int), .slice none 0 0]) (by simp [results, Tryz.results38, go_sem, z0, z1, z2, z3, z4, z5, z6, z7]) rfl ?_
          rw [HPD.out]
          exact ppost_mk (ty := kText) (sub := kPlain) (bd := []) HF45.out HR4.out (((Fr.refl _ _).set012 (.inl (.inr rfl)) _ _ _).set8 (.inl (.inl rfl)) _ _ _ _ _ _ _ _) (Nat.le_refl _) hPl hRl hZs hPs (RowIn.nil _ _) (Nat.le_refl _) (fun h => absurd rfl h) trivial HR.out
        | true =>
          have hd4 : deep < 4 := by simpa using hdp
          obtain ⟨hbn, bb, oo, rfl, hbb⟩ := hAs rfl
          have hPR : w2.heap.size ≠ R := by omega
          have hW := hWC rfl R w2.heap.size bb oo c mpT sub bd en fr (fr + N) to_ w4 n HP4.out HR4.out (HF4.out.row (fun _ _ _ => id) hr) (HF4.out.gl id id id hg) (by omega) hPs hPR ⟨hAR hbn _ rfl, by omega, by omega⟩ gR (gne_ge hg hPl) hb hbd hc hbo.2 hto hn
          clear hdp hWC
          go_wp2_with fail
          refine hW.mono ?_
          rintro e w5 ⟨rfl, A2, c2, kids, n', hP5, hr5, hl5, hq5, ok5, hR5, ht5, hF5⟩
          have hZ5 := HZ4.out.fr hF5 (fun h => by omega)
          have HF5 : Hid (Fr (fun x => x = R) w w5) := Lib.hid (Fr.old (((HF4.out.weak fun _ h => h.elim).trans hF5).weak fun x h => by omega))
          clear p0 p1 p2 p3 p4 p5 p6 p7 pz z0 z1 z2 z3 z4 z5 z6 z7 zz hF5 hW
          obtain ⟨p0, p1, p2, p3, p4, p5, p6, p7, pz⟩ := hP5.lit
          obtain ⟨z0, z1, z2, z3, z4, z5, z6, z7, zz⟩ := PC.lit (N := 0) hZ5
          have p0 : w5.cell? ⟨w2.heap.size, 0, none⟩ = some (.string ⟨#[77, 85, 76, 84, 73, 80, 65, 82, 84]⟩) := p0
          by_cases hk0 : kids = []
          · subst hk0
            have HR : Hid (rr = (.mk kText kPlain [] en fr (fr + N) to_ [], n')) := Lib.hid (by rw [HQ.out, ks_of hb0 ht5]; rfl)
            clear HQ ht5
            go_wp2
            refine bodyPost_ret (v := .agg #[.string ⟨#[84, 69, 88, 84]⟩, .string ⟨#[80, 76, 65, 73, 78]⟩, .string ⟨#[]⟩, .string ⟨en.toArray⟩, .int .i64 (fr : Int), .int .i64 ((fr : Int) + (N : Int)), .int .i64 (to_ : Int), .slice A2 0 c2]) (by simp [results, Tryz.results38, go_sem, z0, z1, z2, z3, z4, z5, z6, z7]) rfl ?_
            rw [HPD.out]
            exact ppost_mk (ty := kText) (sub := kPlain) (bd := []) (kids := []) HF5.out hR5 (((Fr.refl _ _).set012 (.inl (.inr rfl)) _ _ _).set8 (.inl (.inl rfl)) _ _ _ _ _ _ _ _) (Nat.le_refl _) hPl hRl hZs hPs hr5 hl5 hq5 ok5 HR.out
          · have HR : Hid (rr = (.mk mpT sub bd en fr (fr + N) to_ (erases kids), n')) := Lib.hid (by rw [HQ.out, ks_of hb0 ht5, pe_cons (erases_ne hk0)])
            have hk1 : ¬ kids.length = 0 := fun e => hk0 (List.length_eq_zero_iff.1 e)
            have hk2 : ((kids.length : Int) == 0) = false := beq_eq_false_iff_ne.2 (by omega)
            clear HQ ht5
            go_wp2
            refine bodyPost_ret (v := .agg #[.string ⟨#[77, 85, 76, 84, 73, 80, 65, 82, 84]⟩, .string ⟨sub.toArray⟩, .string ⟨bd.toArray⟩, .string ⟨en.toArray⟩, .int .i64 (fr : Int), .int .i64 ((fr : Int) + (N : Int)), .int .i64 (to_ : Int), .slice A2 kids.length c2]) (by simp [results, mpT, Tryz.results38, go_sem, z0, z1, z2, z3, z4, z5, z6, z7]) rfl ?_
            rw [HPD.out]
            exact ppost_mk (ty := mpT) HF5.out hR5 ((Fr.refl _ _).set8 (.inl (.inl rfl)) _ _ _ _ _ _ _ _) (Nat.le_refl _) hPl hRl hZs hPs hr5 hl5 hq5 ok5 HR.out
    · have HR : Hid (rr = (.mk ty sub bd en fr (fr + N) to_ [], n)) := Lib.hid (HPW.out.trans (if_neg hty))
      have hty2 : (ty == [77, 85, 76, 84, 73, 80, 65, 82, 84]) = false := beq_eq_false_iff_ne.2 hty
      clear hty
      go_wp2
      refine bodyPost_ret (v := .agg #[.string ⟨ty.toArray⟩, .string ⟨sub.toArray⟩, .string ⟨bd.toArray⟩, .string ⟨en.toArray⟩, .int .i64 (fr : Int), .int .i64 ((fr : Int) + (N : Int)), .int .i64 (to_ : Int), .slice none 0 0]) (by simp [results, Tryz.results38, go_sem, z0, z1, z2, z3, z4, z5, z6, z7]) rfl ?_
      rw [HPD.out]
      exact ppost_mk HF45.out HR4.out ((Fr.refl _ _).set8 (.inl (.inl rfl)) _ _ _ _ _ _ _ _) (Nat.le_refl _) hPl hRl hZs hPs (RowIn.nil _ _) (Nat.le_refl _) (fun h => absurd rfl h) trivial HR.out
/-- What part does, at each level. -/
theorem part_all : ∀ k, PartC k
  | 0 => fun R A c b fr to_ n deep w _ hd hb hc hA hr hAR hR hg gR hft hto hn =>
    partW_any (fun _ _ n => (.mk [] [] [] [] 0 0 0 [], n)) false R A c b fr to_ n deep w (by simp; omega) (fun e => by cases e) hb hc hA hr hAR hR hg gR hft hto hn
  | k + 1 => fun R A c b fr to_ n deep w hd0 hd hb hc hA hr hAR hR hg gR hft hto hn =>
    partW_any (partS b k) true R A c b fr to_ n deep w (by simp; omega) (fun _ R P bb oo c ty sub bd enc fr bo to_ w n hP hRR hr hg hRl hPl hPR hbb gR gP hb hbd hc hbo hto hn => within_any k (part_all k) R P bb oo c b ty sub bd enc fr bo to_ deep w n hP hRR hr hg hRl hPl hPR hbb gR gP hd0 (by omega) hb hbd hc hbo hto hn) hb hc hA hr hAR hR hg gR hft hto hn
end Go.Proofs.YtbjbljfmcpidmaaGreatDoor

/- mime.Find: one of a part's parts. -/
import Derived.Test.YtbjbljfmcpidmaaGreatDoorMParse
namespace Go.Proofs.YtbjbljfmcpidmaaGreatDoor
open Go.RowKit Go.Lib Go.Shelf
def icells (l : List Int) : List Value := l.map fun x => .int .i64 x
def walkM : MP → List Int → Option MP
  | m, [] => some m
  | m, k :: ks => match (mkids m)[(k - 1).toNat]? with
    | some x => if 1 ≤ k then walkM x ks else none
    | none => none
def findM (m : MP) (ks : List Int) : Option MP := if (mkids m).isEmpty = true ∧ ks = [1] then some m else walkM m ks
def walkT : PT → List Int → Option PT
  | m, [] => some m
  | m, k :: ks => match (PT.kids m)[(k - 1).toNat]? with
    | some x => if 1 ≤ k then walkT x ks else none
    | none => none
def findT (m : PT) (ks : List Int) : Option PT := if (PT.kids m).isEmpty = true ∧ ks = [1] then some m else walkT m ks
theorem kids_erase (m : MP) : PT.kids (erase m) = (mkids m).map erase := by
  cases m
  simp [erase, PT.kids, mkids, erases_map]
theorem walk_erase : ∀ (ks : List Int) (m : MP), walkT (erase m) ks = (walkM m ks).map erase := by
  intro ks
  induction ks with
  | nil => intro m; rfl
  | cons k ks ih =>
    intro m
    unfold walkT walkM
    rw [kids_erase, List.getElem?_map]
    cases (mkids m)[(k - 1).toNat]? with
    | none => rfl
    | some x =>
      dsimp only [Option.map_some]
      split
      · exact ih x
      · rfl
theorem find_erase (m : MP) (ks : List Int) : findT (erase m) ks = (findM m ks).map erase := by
  unfold findT findM
  rw [kids_erase, List.isEmpty_map]
  split
  · rfl
  · exact walk_erase ks m
/-- A kid's cells. -/
theorem kid_cells {w : World} {b0 o0 : Nat} {kids : List MP} (h : RowIn w (some ⟨b0, o0, none⟩) (mcells kids)) (i : Nat) (hi : i < kids.length) {ty sub bd en : List UInt8} {fr bo to_ : Nat} {A2 : Option Addr} {c2 : Nat} {kd : List MP} (hk : kids[i] = .mk ty sub bd en fr bo to_ A2 c2 kd) :
    w.cell? ⟨b0, o0 + i * 8, none⟩ = some (.string ⟨ty.toArray⟩) ∧ w.cell? ⟨b0, o0 + i * 8 + 1, none⟩ = some (.string ⟨sub.toArray⟩) ∧ w.cell? ⟨b0, o0 + i * 8 + 2, none⟩ = some (.string ⟨bd.toArray⟩) ∧ w.cell? ⟨b0, o0 + i * 8 + 3, none⟩ = some (.string ⟨en.toArray⟩) ∧ w.cell? ⟨b0, o0 + i * 8 + 4, none⟩ = some (.int .i64 (fr : Int)) ∧ w.cell? ⟨b0, o0 + i * 8 + 5, none⟩ = some (.int .i64 (bo : Int)) ∧ w.cell? ⟨b0, o0 + i * 8 + 6, none⟩ = some (.int .i64 (to_ : Int)) ∧ w.cell? ⟨b0, o0 + i * 8 + 7, none⟩ = some (.slice A2 kd.length c2) := by
  have hc : ∀ j u, j < 8 → (mcell kids[i])[j]? = some u → w.cell? ⟨b0, o0 + i * 8 + j, none⟩ = some u := fun j u hj hu => by
    have := h.cell (i * 8 + j) u (by rw [mcells_get kids i hi j hj]; exact hu)
    rwa [← Nat.add_assoc] at this
  rw [hk] at hc
  exact ⟨hc 0 _ (by omega) rfl, hc 1 _ (by omega) rfl, hc 2 _ (by omega) rfl, hc 3 _ (by omega) rfl, hc 4 _ (by omega) rfl, hc 5 _ (by omega) rfl, hc 6 _ (by omega) rfl, hc 7 _ (by omega) rfl⟩
theorem kid_ok {q : Nat → Prop} {w : World} {kids : List MP} (h : MOks q w kids) (i : Nat) (hi : i < kids.length) : MOk q w kids[i] := (MOks_all kids).1 h _ (List.getElem_mem hi)
theorem PC.lit0 {w : World} {P : Nat} {ty sub bd enc : List UInt8} {fr bo to_ : Nat} {v : Value} (h : PC w P ty sub bd enc fr bo to_ v) :
    w.cell? ⟨P, 0, none⟩ = some (.string ⟨ty.toArray⟩) ∧ w.cell? ⟨P, 1, none⟩ = some (.string ⟨sub.toArray⟩) ∧ w.cell? ⟨P, 2, none⟩ = some (.string ⟨bd.toArray⟩) ∧ w.cell? ⟨P, 3, none⟩ = some (.string ⟨enc.toArray⟩) ∧ w.cell? ⟨P, 4, none⟩ = some (.int .i64 (fr : Int)) ∧ w.cell? ⟨P, 5, none⟩ = some (.int .i64 (bo : Int)) ∧ w.cell? ⟨P, 6, none⟩ = some (.int .i64 (to_ : Int)) ∧ w.cell? ⟨P, 7, none⟩ = some v ∧ ∀ j, w.frozen? ⟨P, j, none⟩ = false :=
  ⟨h.c0, h.c1, h.c2, h.c3, h.c4, h.c5, h.c6, h.c7, h.fz⟩
theorem PC.set8 {w : World} {P : Nat} {ty sub bd enc : List UInt8} {fr bo to_ : Nat} {v : Value} (h : PC w P ty sub bd enc fr bo to_ v) (ty2 sub2 bd2 en2 : List UInt8) (f2 o2 t2 : Nat) (v2 : Value) :
    PC ((((((((w.setCell ⟨P, 0, none⟩ (.string ⟨ty2.toArray⟩)).setCell ⟨P, 1, none⟩ (.string ⟨sub2.toArray⟩)).setCell ⟨P, 2, none⟩ (.string ⟨bd2.toArray⟩)).setCell ⟨P, 3, none⟩ (.string ⟨en2.toArray⟩)).setCell ⟨P, 4, none⟩ (.int .i64 (f2 : Int))).setCell ⟨P, 5, none⟩ (.int .i64 (o2 : Int))).setCell ⟨P, 6, none⟩ (.int .i64 (t2 : Int))).setCell ⟨P, 7, none⟩ v2) P ty2 sub2 bd2 en2 f2 o2 t2 v2 := by
  have h0 := h.c0; have h1 := h.c1; have h2 := h.c2; have h3 := h.c3; have h4 := h.c4; have h5 := h.c5; have h6 := h.c6; have h7 := h.c7; have h8 := h.fz
  exact ⟨by go_simp, by go_simp, by go_simp, by go_simp, by go_simp, by go_simp, by go_simp, by go_simp, fun j => by go_simp⟩
/-- A block holds a part. -/
def PM (w : World) (P : Nat) : MP → Prop
  | .mk ty sub bd en fr bo to_ A c kids => PC w P ty sub bd en fr bo to_ (.slice A kids.length c)
theorem walk_step {m x : MP} {ks : List Int} {i j : Nat} {k : Int} (hi : i < ks.length) (hk : ks[i] = k) (hj : k = (j : Int) + 1) (hx : (mkids m)[j]? = some x) : walkM m (ks.drop i) = walkM x (ks.drop (i + 1)) := by
  rw [List.drop_eq_getElem_cons hi, hk, walkM, show (k - 1).toNat = j by omega, hx]
  exact if_pos (by omega)
theorem walk_low {m : MP} {ks : List Int} {i : Nat} {k : Int} (hi : i < ks.length) (hk : ks[i] = k) (h : k < 1 ∨ ((mkids m).length : Int) < k) : walkM m (ks.drop i) = none := by
  rw [List.drop_eq_getElem_cons hi, hk, walkM]
  rcases h with h | h
  · cases (mkids m)[(k - 1).toNat]? with
    | none => rfl
    | some x => exact if_neg (by omega)
  · rw [List.getElem?_eq_none (by omega)]
/-- What Find answers. -/
def FPost (q : Nat → Prop) (m : MP) (ks : List Int) (w0 : World) (e : Ending) (w' : World) : Prop :=
  ∃ (m' : MP) (en : Int), e = .returned (.tuple #[mval m', .int .i64 en]) ∧ ((findM m ks = some m' ∧ en = 0 ∧ MOk q w' m') ∨ (findM m ks = none ∧ en = 110 ∧ m' = zeroP)) ∧ Below w0.heap.size w0 w'
theorem below8 {w w' : World} (h : Below w.heap.size w w') {P : Nat} (hP : w.heap.size ≤ P) (u0 u1 u2 u3 u4 u5 u6 u7 : Value) :
    Below w.heap.size w ((((((((w'.setCell ⟨P, 0, none⟩ u0).setCell ⟨P, 1, none⟩ u1).setCell ⟨P, 2, none⟩ u2).setCell ⟨P, 3, none⟩ u3).setCell ⟨P, 4, none⟩ u4).setCell ⟨P, 5, none⟩ u5).setCell ⟨P, 6, none⟩ u6).setCell ⟨P, 7, none⟩ u7) :=
  ((Fr.of_below (S := fun _ => False) h).set8 (.inr hP) u0 u1 u2 u3 u4 u5 u6 u7).below0
theorem fpost_some {q : Nat → Prop} {M m' : MP} {ks : List Int} {w w' : World} (h : findM M ks = some m') (ok : MOk q w m') (hb : Below w.heap.size w w') : FPost q M ks w (.returned (.tuple #[mval m', .int .i64 0])) w' :=
  ⟨m', 0, rfl, .inl ⟨h, rfl, ok.below hb⟩, hb⟩
theorem fpost_none {q : Nat → Prop} {M : MP} {ks : List Int} {w w' : World} (h : findM M ks = none) (hb : Below w.heap.size w w') : FPost q M ks w (.returned (.tuple #[mval zeroP, .int .i64 110])) w' :=
  ⟨zeroP, 110, rfl, .inr ⟨h, rfl, rfl⟩, hb⟩
theorem find_walk {M : MP} {ks : List Int} (h : ¬ ((mkids M) = [] ∧ ks = [1])) : findM M ks = walkM M ks := by
  unfold findM
  rw [if_neg]
  intro e
  exact h ⟨List.isEmpty_iff.1 e.1, e.2⟩
set_option maxRecDepth 100000 in
set_option maxHeartbeats 2000000 in
theorem find_any (q : Nat → Prop) (m : MP) (A : Option Addr) (c : Nat) (ks : List Int) (w : World) (hm : MOk q w m) (hr : RowIn w A (icells ks)) (hk : ks.length ≤ 2000000) (hkb : ∀ k ∈ ks, -9223372036854775808 ≤ k ∧ k ≤ 9223372036854775807) :
    Calls Tryz.prog 24 #[mval m, .slice A ks.length c] w (FPost q m ks w) := by
  obtain ⟨M, hM⟩ : ∃ M, M = m := ⟨_, rfl⟩
  obtain ⟨ty, sub, bd, en, fr, bo, to_, Ak, ck, kids⟩ := m
  obtain ⟨w1, hw1⟩ : ∃ w1, w1 = (w.alloc (.cells #[.string ⟨ty.toArray⟩, .string ⟨sub.toArray⟩, .string ⟨bd.toArray⟩, .string ⟨en.toArray⟩, .int .i64 (fr : Int), .int .i64 (bo : Int), .int .i64 (to_ : Int), .slice Ak kids.length ck] 29)).alloc (.cells #[.string ⟨#[]⟩, .string ⟨#[]⟩, .string ⟨#[]⟩, .string ⟨#[]⟩, .int .i64 0, .int .i64 0, .int .i64 0, .slice none 0 0] 29) := ⟨_, rfl⟩
  have hb1 : Below w.heap.size w w1 := by rw [hw1]; exact ((Below.refl _ _).alloc (Nat.le_refl _) _).alloc (by simp) _
  have hP : PC w1 w.heap.size ty sub bd en fr bo to_ (.slice Ak kids.length ck) := by
    rw [hw1]
    exact (pc_new w ty sub bd en fr bo to_ (.slice Ak kids.length ck) _).fr (fr_alloc (fun _ => False) _ _) id
  have hZ : PC w1 (w.heap.size + 1) [] [] [] [] 0 0 0 (.slice none 0 0) := by
    rw [hw1]
    have := pc_zero (w.alloc (.cells #[.string ⟨ty.toArray⟩, .string ⟨sub.toArray⟩, .string ⟨bd.toArray⟩, .string ⟨en.toArray⟩, .int .i64 (fr : Int), .int .i64 (bo : Int), .int .i64 (to_ : Int), .slice Ak kids.length ck] 29)) 29
    simpa using this
  have HC : Hid (∀ wr, Below w.heap.size w wr → ∀ ba oa k x, A = some ⟨ba, oa, none⟩ → ∀ (hik : k < ks.length), ks[k] = x → wr.cell? ⟨ba, oa + k, none⟩ = some (.int .i64 x)) := Lib.hid fun wr hbw ba oa k x e hik hx => by
    subst e
    exact (hr.below hbw).cell k _ (by simp [icells, hik, hx])
  have hr1 := hr.below hb1
  obtain ⟨PD, hPD⟩ : ∃ PD, PD = FPost q M ks w := ⟨_, rfl⟩
  rw [← hM, ← hPD]
  have HPD := Lib.hid hPD
  rw [hM]
  simp only [mval, mcell]
  go_enter Tryz.func24, Tryz.ntmps24
  go_upto_region 1 with (fail)
  rw [← hw1]
  obtain ⟨p0, p1, p2, p3, p4, p5, p6, p7, pz⟩ := hP.lit0
  obtain ⟨z0, z1, z2, z3, z4, z5, z6, z7, zz⟩ := PC.lit0 hZ
  clear hw1 hPD
  by_cases hone : kids = [] ∧ ks = [1]
  · obtain ⟨rfl, rfl⟩ := hone
    obtain ⟨ba, oa, rfl, _⟩ := hr1.addr (by simp [icells])
    have hc0 := hr1.cell 0 (.int .i64 1) rfl
    have HF : Hid (findM M [1] = some M) := Lib.hid (by rw [hM]; rfl)
    have HM := Lib.hid hM
    have HMM := Lib.hid hm
    have HP := Lib.hid hP
    clear hM hm hr hP hZ hkb
    simp only [Nat.add_zero] at hc0
    go_wp2
    refine bodyPost_ret (v := .tuple #[.agg #[.string ⟨ty.toArray⟩, .string ⟨sub.toArray⟩, .string ⟨bd.toArray⟩, .string ⟨en.toArray⟩, .int .i64 (fr : Int), .int .i64 (bo : Int), .int .i64 (to_ : Int), .slice Ak 0 ck], .int .i64 0]) (by simp [results, Tryz.results24, go_sem, z0, z1, z2, z3, z4, z5, z6, z7]) rfl ?_
    rw [HPD.out]
    exact fpost_some (m' := .mk ty sub bd en fr bo to_ Ak ck []) (by rw [HF.out, HM.out]) HMM.out (below8 hb1 (Nat.le_succ _) _ _ _ _ _ _ _ _)
  · have HW : Hid (findM M ks = walkM M ks) := Lib.hid (find_walk (by rw [hM]; exact hone))
    have HM := Lib.hid hM
    have HMM := Lib.hid hm
    have HP := Lib.hid hP
    have HZ := Lib.hid hZ
    have hmk : mkids M = kids := by rw [hM]; rfl
    have HMK := Lib.hid hmk
    have HR1 := Lib.hid hr1
    by_cases hway : kids = [] ∧ ks.length = 1
    · obtain ⟨rfl, hk1⟩ := hway
      obtain ⟨x, rfl⟩ := List.length_eq_one_iff.1 hk1
      have hx : ¬ x = 1 := fun e => hone ⟨rfl, by rw [e]⟩
      obtain ⟨ba, oa, rfl, _⟩ := hr1.addr (by simp [icells])
      have hc0 := hr1.cell 0 (.int .i64 x) rfl
      simp only [Nat.add_zero] at hc0
      have HN : Hid (findM M [x] = none) := Lib.hid (by
        rw [HW.out]
        exact walk_low (i := 0) (k := x) (by simp) rfl (by rw [HMK.out]; simp; omega))
      have hx2 : x < 1 ∨ 0 < x := by omega
      have HZ2 := Lib.hid hZ
      clear hM hm hP hZ hone hr hr1 hmk hkb hk1 HW
      go_upto_region 3 with (fail)
      go_wp2
      go_loopw [26] (fun i wr => i = .int .i64 0 ∧ wr = w1) (fun i _ => 0)
      case atStart => exact ⟨rfl, rfl⟩
      case round =>
        obtain ⟨rfl, rfl⟩ := hrel
        rcases hx2 with hx2 | hx2
        all_goals
          go_wp2
          refine bodyPost_ret (v := .tuple #[.agg #[.string ⟨#[]⟩, .string ⟨#[]⟩, .string ⟨#[]⟩, .string ⟨#[]⟩, .int .i64 0, .int .i64 0, .int .i64 0, .slice none 0 0], .int .i64 110]) (by simp [results, Tryz.results24, go_sem, z0, z1, z2, z3, z4, z5, z6, z7]) rfl ?_
          rw [HPD.out]
          exact fpost_none HN.out (below8 hb1 (Nat.le_succ _) _ _ _ _ _ _ _ _)
    · have hway2 : ¬ kids = [] ∨ (kids = [] ∧ ¬ (ks.length : Int) = 1) := by
        by_cases h1 : kids = []
        · exact .inr ⟨h1, fun e => hway ⟨h1, by omega⟩⟩
        · exact .inl h1
      have HZ := Lib.hid hZ
      clear hM hm hP hone hr hmk hway hZ hr1
      rcases hway2 with hway2 | ⟨hway2, hway3⟩
      all_goals
        go_wp2
        go_loopw [26] (fun i wr => ∃ (k : Nat) (cur : MP), i = .int .i64 k ∧ k ≤ ks.length ∧ PM wr w.heap.size cur ∧ MOk q w cur ∧ Hid (findM M ks = walkM cur (ks.drop k)) ∧ PC wr (w.heap.size + 1) [] [] [] [] 0 0 0 (.slice none 0 0) ∧ Below w.heap.size w wr) (fun i _ => ks.length - (intOf i).toNat)
        case atStart => exact ⟨0, .mk ty sub bd en fr bo to_ Ak ck kids, rfl, Nat.zero_le _, HP.out, HMM.out, Lib.hid (by rw [HW.out, HM.out]; rfl), HZ.out, hb1⟩
        case round =>
          obtain ⟨k, cur, rfl, hk2, hPM, hok, HWk, hZk, hbk⟩ := hrel
          obtain ⟨ty2, sub2, bd2, en2, f2, o2, t2, A2, c2, kd⟩ := cur
          have hPM : PC wr w.heap.size ty2 sub2 bd2 en2 f2 o2 t2 (.slice A2 kd.length c2) := hPM
          have HPM := Lib.hid hPM
          have HZk := Lib.hid hZk
          have HOK := Lib.hid hok
          clear p0 p1 p2 p3 p4 p5 p6 p7 pz z0 z1 z2 z3 z4 z5 z6 z7 zz
          obtain ⟨p0, p1, p2, p3, p4, p5, p6, p7, pz⟩ := hPM.lit0
          obtain ⟨z0, z1, z2, z3, z4, z5, z6, z7, zz⟩ := hZk.lit0
          clear hPM hZk hok
          by_cases hik : k < ks.length
          · have hik2 : (k : Int) < (ks.length : Int) := by omega
            have hrk := (show RowIn w1 A (icells ks) from HR1.out)
            obtain ⟨ba, oa, rfl, hlt⟩ := hrk.addr (fun e => by have := congrArg List.length e; simp only [icells, List.length_map, List.length_nil] at this; omega)
            obtain ⟨x, hx⟩ : ∃ x, ks[k] = x := ⟨_, rfl⟩
            have hc0 : wr.cell? ⟨ba, oa + k, none⟩ = some (.int .i64 x) := HC.out wr hbk ba oa k x rfl hik hx
            have hxb := hkb x (hx ▸ List.getElem_mem hik)
            by_cases h1 : x < 1
            · have HN : Hid (findM M ks = none) := Lib.hid (HWk.out.trans (walk_low hik hx (.inl h1)))
              clear hrk hkb hx
              go_wp2
              refine bodyPost_ret (v := .tuple #[.agg #[.string ⟨#[]⟩, .string ⟨#[]⟩, .string ⟨#[]⟩, .string ⟨#[]⟩, .int .i64 0, .int .i64 0, .int .i64 0, .slice none 0 0], .int .i64 110]) (by simp [results, Tryz.results24, go_sem, z0, z1, z2, z3, z4, z5, z6, z7]) rfl ?_
              rw [HPD.out]
              exact fpost_none HN.out (below8 hbk (Nat.le_succ _) _ _ _ _ _ _ _ _)
            · by_cases h2 : (kd.length : Int) < x
              · have HN : Hid (findM M ks = none) := Lib.hid (HWk.out.trans (walk_low hik hx (.inr h2)))
                clear hrk hkb hx
                go_wp2
                refine bodyPost_ret (v := .tuple #[.agg #[.string ⟨#[]⟩, .string ⟨#[]⟩, .string ⟨#[]⟩, .string ⟨#[]⟩, .int .i64 0, .int .i64 0, .int .i64 0, .slice none 0 0], .int .i64 110]) (by simp [results, Tryz.results24, go_sem, z0, z1, z2, z3, z4, z5, z6, z7]) rfl ?_
                rw [HPD.out]
                exact fpost_none HN.out (below8 hbk (Nat.le_succ _) _ _ _ _ _ _ _ _)
              · obtain ⟨j, hj⟩ : ∃ j : Nat, x = (j : Int) + 1 := ⟨(x - 1).toNat, by omega⟩
                have hjl : j < kd.length := by omega
                have hjl2 : (j : Int) < (kd.length : Int) := by omega
                obtain ⟨ty3, sub3, bd3, en3, f3, o3, t3, A3, c3, kd3, hkd⟩ : ∃ ty3 sub3 bd3 en3 f3 o3 t3 A3 c3 kd3, kd[j] = .mk ty3 sub3 bd3 en3 f3 o3 t3 A3 c3 kd3 := by
                  cases h : kd[j] with
                  | mk a1 a2 a3 a4 a5 a6 a7 a8 a9 a10 => exact ⟨a1, a2, a3, a4, a5, a6, a7, a8, a9, a10, rfl⟩
                have HN : Hid (findM M ks = walkM (.mk ty3 sub3 bd3 en3 f3 o3 t3 A3 c3 kd3) (ks.drop (k + 1))) := Lib.hid (HWk.out.trans (walk_step hik hx hj (by show kd[j]? = _; rw [List.getElem?_eq_getElem hjl, hkd])))
                obtain ⟨hok1, hok2, hok3, hok4⟩ := HOK.out
                have hrk2 := hok1.below hbk
                obtain ⟨b0, o0, rfl, _⟩ := hrk2.addr (by intro e; have := congrArg List.length e; rw [mcells_len] at this; simp at this; omega)
                obtain ⟨k0, k1, k2, k3, k4, k5, k6, k7⟩ := kid_cells hrk2 j hjl hkd
                have hok5 := kid_ok hok4 j hjl
                rw [hkd] at hok5
                have HOK5 := Lib.hid hok5
                subst hj
                clear hrk hkb hx hok1 hok2 hok3 hok4 hok5 hrk2 hkd
                go_wp2
                exact ⟨⟨k + 1, .mk ty3 sub3 bd3 en3 f3 o3 t3 A3 c3 kd3, by go_num, by omega, HPM.out.set8 _ _ _ _ _ _ _ _, HOK5.out, HN, HZk.out.fr ((Fr.refl (fun x => x = w.heap.size) wr).set8 (.inl rfl) _ _ _ _ _ _ _ _) (by omega), below8 hbk (Nat.le_refl _) _ _ _ _ _ _ _ _⟩, by simp [intOf]; omega⟩
          · have hik2 : ¬ (k : Int) < (ks.length : Int) := by omega
            have HN : Hid (findM M ks = some (.mk ty2 sub2 bd2 en2 f2 o2 t2 A2 c2 kd)) := Lib.hid (by rw [HWk.out, List.drop_of_length_le (by omega)]; rfl)
            go_wp2
            refine bodyPost_ret (v := .tuple #[.agg #[.string ⟨ty2.toArray⟩, .string ⟨sub2.toArray⟩, .string ⟨bd2.toArray⟩, .string ⟨en2.toArray⟩, .int .i64 (f2 : Int), .int .i64 (o2 : Int), .int .i64 (t2 : Int), .slice A2 kd.length c2], .int .i64 0]) (by simp [results, Tryz.results24, go_sem, z0, z1, z2, z3, z4, z5, z6, z7]) rfl ?_
            rw [HPD.out]
            exact fpost_some HN.out HOK.out (below8 hbk (Nat.le_succ _) _ _ _ _ _ _ _ _)
end Go.Proofs.YtbjbljfmcpidmaaGreatDoor

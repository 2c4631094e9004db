/- MimeInside: parts lie within their part's body. -/
import Derived.Test.YtbjbljfmcpidmaaGreatDoorStructP
import Derived.Test.YtbjbljfmcpidmaaGreatDoorShown11
import Derived.Deep.Cut
namespace Go.Proofs.YtbjbljfmcpidmaaGreatDoor
open Go.RowKit Go.Lib Go.Shelf
theorem insideL_cons {deep at_ t r : Nat} {x : PT} {l : List PT} (h : insideL deep at_ t (x :: l) = some r) : at_ ≤ x.fr ∧ x.to ≤ t ∧ ∃ m rr, insideP deep x = some m ∧ insideL deep x.to t l = some rr ∧ r = m + 1 + rr := by
  unfold insideL at h
  split at h
  · rename_i hc
    cases hx : insideP deep x with
    | none => rw [hx] at h; cases h
    | some mx =>
      rw [hx] at h
      cases hl : insideL deep x.to t l with
      | none => rw [hl] at h; cases h
      | some ml =>
        rw [hl] at h
        exact ⟨hc.1, hc.2, mx, ml, rfl, rfl, by simpa using h.symm⟩
  · cases h
theorem insideL_nil {deep at_ t r : Nat} (h : insideL deep at_ t [] = some r) : r = 0 := by
  simpa [insideL] using h.symm
/-- What inside answers where parts lie as they should. -/
def InsC (k : Nat) : Prop := ∀ (deep : Nat) (q : Nat → Prop) (m : MP) (w : World) (n : Nat), deep + k = 5 → MOk q w m → insideP deep (erase m) = some n → n ≤ 16 →
  Calls Tryz.prog 26 #[mval m, .int .i64 (deep : Int)] w fun e w' => e = .returned (.tuple #[.int .i64 (n : Int), .bool true]) ∧ Below w.heap.size w w'
set_option maxRecDepth 100000 in
set_option maxHeartbeats 2000000 in
theorem ins_step (k : Nat) (hC : InsC k) : InsC (k + 1) := by
  intro deep q m w n hd hm hi hn
  obtain ⟨ty, sub, bd, en, fr, bo, to_, Ak, ck, kids⟩ := m
  have hal : Below w.heap.size w (w.alloc (.cells #[.string ⟨ty.toArray⟩, .string ⟨sub.toArray⟩, .string ⟨bd.toArray⟩, .string ⟨en.toArray⟩, .int .i64 (fr : Int), .int .i64 (bo : Int), .int .i64 (to_ : Int), .slice Ak kids.length ck] 29)) := (Below.refl _ _).alloc (Nat.le_refl _) _
  have hP := pc_new w ty sub bd en fr bo to_ (.slice Ak kids.length ck) 29
  obtain ⟨w1, hw1⟩ : ∃ w1, w1 = w.alloc (.cells #[.string ⟨ty.toArray⟩, .string ⟨sub.toArray⟩, .string ⟨bd.toArray⟩, .string ⟨en.toArray⟩, .int .i64 (fr : Int), .int .i64 (bo : Int), .int .i64 (to_ : Int), .slice Ak kids.length ck] 29) := ⟨_, rfl⟩
  have hdd : deep ≤ 4 := by omega
  rw [erase] at hi
  obtain ⟨i1, i2, i3⟩ := inside_self hi
  simp only [PT.fr, PT.bo, PT.to, PT.kids] at i1 i2 i3
  have z1 : (fr : Int) ≤ (bo : Int) := by omega
  have z2 : (bo : Int) ≤ (to_ : Int) := by omega
  have z3 : ¬ 4 < (deep : Int) := by omega
  have hkl : kids.length ≤ 16 := by
    have := insideL_len _ _ _ _ _ i3
    rw [erases_map, List.length_map] at this
    omega
  have HI := Lib.hid i3
  have HM := Lib.hid hm
  have HC := Lib.hid hC
  clear hi i3 hm hC
  simp only [mval, mcell]
  go_enter Tryz.func26, Tryz.ntmps26
  go_upto_region 1 with (fail)
  rw [← hw1] at hP hal ⊢
  clear hw1
  obtain ⟨p0, p1, p2, p3, p4, p5, p6, p7, pz⟩ := hP.lit0
  have HP := Lib.hid hP
  clear hP
  go_wp2
  go_loopw [6, 7, 8, 9, 10, 11] (fun tn ta ti _ _ _ wr => ∃ i nn at_ r : Nat, ti = .int .i64 i ∧ i ≤ kids.length ∧ tn = .int .i64 nn ∧ ta = .int .i64 at_ ∧ Hid (insideL (deep + 1) at_ to_ ((erases kids).drop i) = some r) ∧ nn + r = n ∧ Below w.heap.size w wr ∧ PC wr w.heap.size ty sub bd en fr bo to_ (.slice Ak kids.length ck)) (fun _ _ ti _ _ _ _ => kids.length - (intOf ti).toNat)
  case atStart => exact ⟨0, 0, bo, n, rfl, Nat.zero_le _, rfl, rfl, HI, by omega, hal, HP.out⟩
  case round =>
    obtain ⟨i, nn, at_, r, rfl, hi2, rfl, rfl, HL, hr, hbw, hPw⟩ := hrel
    clear p0 p1 p2 p3 p4 p5 p6 p7 pz
    obtain ⟨p0, p1, p2, p3, p4, p5, p6, p7, pz⟩ := hPw.lit0
    have HPw := Lib.hid hPw
    clear hPw
    by_cases hlt : i < kids.length
    · have hlt2 : (i : Int) < (kids.length : Int) := by omega
      obtain ⟨hm1, hm2, hm3, hm4⟩ := HM.out
      have hrk := hm1.below hbw
      obtain ⟨b0, o0, rfl, _⟩ := hrk.addr (by intro e; have := congrArg List.length e; rw [mcells_len] at this; simp only [List.length_nil] at this; omega)
      obtain ⟨ty3, sub3, bd3, en3, f3, o3, t3, A3, c3, kd3, hkd⟩ : ∃ ty3 sub3 bd3 en3 f3 o3 t3 A3 c3 kd3, kids[i] = .mk ty3 sub3 bd3 en3 f3 o3 t3 A3 c3 kd3 := by
        cases h : kids[i] with
        | mk a1 a2 a3 a4 a5 a6 a7 a8 a9 a10 => exact ⟨a1, a2, a3, a4, a5, a6, a7, a8, a9, a10, rfl⟩
      obtain ⟨k0, k1, k2, k3, k4, k5, k6, k7⟩ := kid_cells hrk i hlt hkd
      have hll := HL.out
      have hei : i < (erases kids).length := by rw [erases_map, List.length_map]; exact hlt
      rw [List.drop_eq_getElem_cons hei] at hll
      have hek : (erases kids)[i] = erase kids[i] := by simp only [erases_map, List.getElem_map]
      rw [hek, hkd] at hll
      obtain ⟨g1, g2, mm, rr, g3, g4, g5⟩ := insideL_cons hll
      simp only [erase, PT.fr, PT.to] at g1 g2 g4
      have y1 : ¬ (f3 : Int) < (at_ : Int) := by omega
      have y2 : ¬ (to_ : Int) < (t3 : Int) := by omega
      have hkok := (kid_ok hm4 i hlt).below hbw
      rw [hkd] at hkok
      have hK := fun o => HC.out (deep + 1) q (.mk ty3 sub3 bd3 en3 f3 o3 t3 A3 c3 kd3) (World.alloc wr o) mm (by omega) (hkok.below ((Below.refl _ _).alloc (Nat.le_refl _) o)) g3 (by omega)
      simp only [mval, mcell] at hK
      have HK := Lib.hid hK
      have HG4 := Lib.hid g4
      have p6a : ∀ o, (World.alloc wr o).cell? ⟨w.heap.size, 6, none⟩ = some (.int .i64 (to_ : Int)) := fun o => (fr_alloc (fun _ => False) wr o).cell id p6
      have hdc : ((deep + 1 : Nat) : Int) = (deep : Int) + 1 := rfl
      clear hm1 hm2 hm3 hm4 hrk hkd hll hek hkok hK g3 g4
      go_wp2_with fail
      refine (HK.out _).mono ?_
      rintro e w3 ⟨rfl, hb3⟩
      have hb13 : Below wr.heap.size wr w3 := ((Below.refl _ _).alloc (Nat.le_refl _) _).trans (hb3.mono (by simp))
      go_wp2
      have hj : ((i + 1 : Nat) : Int) = (i : Int) + 1 := rfl
      refine ⟨⟨i + 1, nn + 1 + mm, t3, rr, by go_num, by omega, by go_num, rfl, HG4, by omega, hbw.trans (hb13.mono hbw.size), HPw.out.below hb13⟩, by simp [intOf]; omega⟩
    · have hlt2 : ¬ (i : Int) < (kids.length : Int) := by omega
      have h0 := HL.out
      rw [List.drop_of_length_le (by rw [erases_map, List.length_map]; omega)] at h0
      have hr0 := insideL_nil h0
      have hnn : nn = n := by omega
      subst hnn
      clear h0
      go_wp2
      (try go_ret2)
      exact ⟨rfl, hbw⟩
theorem ins_all : ∀ k, InsC k
  | 0 => fun deep q m w n hd hm hi hn => by
    obtain ⟨ty, sub, bd, en, fr, bo, to_, Ak, ck, kids⟩ := m
    rw [erase] at hi
    unfold insideP at hi
    rw [if_neg (by omega)] at hi
    cases hi
  | k + 1 => ins_step k (ins_all k)
theorem mpart_inside (b : List UInt8) : ∃ n, insideP 0 (mpart b) = some n ∧ n ≤ 16 ∧ (mpart b).fr = 0 ∧ (mpart b).to = b.length := by
  obtain ⟨h1, h2, n, h3, h4⟩ := partS_inside b 4 0 0 b.length 0 (by omega) (Nat.zero_le _) (Nat.le_refl _)
  have h5 := partS_n b 4 0 b.length 0 (by omega)
  exact ⟨n, h3, by rw [h4] at h5; omega, h1, h2⟩
set_option maxRecDepth 100000 in
set_option maxHeartbeats 2000000 in
theorem minside_any (A : Option Addr) (c : Nat) (b : List UInt8) (w : World) (hb : b.length ≤ 2000000) (hc : b.length ≤ c) (hA : A = none → c = 0) (hr : RowIn w A (bcells b)) (hg : Gl w) (hP : PowTab w) :
    Calls Tryz.prog 6 #[.slice A b.length c] w fun e w' => e = .returned (.bool true) ∧ Below w.heap.size w w' := by
  obtain ⟨n, hn1, hn2, hn3, hn4⟩ := mpart_inside b
  go_enter Tryz.func6, Tryz.ntmps6
  go_wp2_with fail
  refine (shown11_any w hg hP).mono ?_
  rintro e w1 ⟨rfl, hb1⟩
  go_wp2_with fail
  refine (mparse_any A c b w1 hb hc hA (hr.below hb1) (hg.below hb1)).mono ?_
  rintro e w2 ⟨m, rfl, hok, her, hb2⟩
  have hb12 := hb1.trans (hb2.mono hb1.size)
  have hI := fun o => ins_all 5 0 _ m (World.alloc w2 o) n (by omega) (hok.below ((Below.refl _ _).alloc (Nat.le_refl _) o)) (by rw [her]; exact hn1) hn2
  rw [← her] at hn3 hn4
  obtain ⟨ty, sub, bd, en, fr, bo, to_, Ak, ck, kids⟩ := m
  simp only [erase, PT.fr, PT.to] at hn3 hn4
  subst hn3 hn4
  simp only [mval, mcell] at hI ⊢
  have hn5 : (n : Int) ≤ 16 := by omega
  go_wp2_with fail
  refine (hI _).mono ?_
  rintro e w3 ⟨rfl, hb3⟩
  have hP3 := (pc_new w2 ty sub bd en 0 bo b.length (.slice Ak kids.length ck) 29).below hb3
  have p4 := hP3.c4
  have p6 := hP3.c6
  have hb23 : Below w2.heap.size w2 w3 := ((Below.refl _ _).alloc (Nat.le_refl _) _).trans (hb3.mono (by simp))
  clear hP3 hI
  go_wp2
  go_ret
  exact ⟨rfl, hb12.trans (hb23.mono hb12.size)⟩
end Go.Proofs.YtbjbljfmcpidmaaGreatDoor

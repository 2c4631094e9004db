/- MimeWhole: a header and its body, one behind the other, are the message. -/
import Derived.Test.YtbjbljfmcpidmaaGreatDoorMInside
import Derived.StillTactics
import Derived.IntWalk
namespace Go.Proofs.YtbjbljfmcpidmaaGreatDoor
open Go.RowKit Go.Lib Go.Shelf
theorem cut_join (b : List UInt8) (x y z : Nat) (h1 : x ≤ y) (h2 : y ≤ z) : cutB b x y ++ cutB b y z = cutB b x z := by
  unfold cutB
  rw [List.drop_take, List.drop_take, List.drop_take]
  have e : b.drop y = (b.drop x).drop (y - x) := by rw [List.drop_drop]; congr 1; omega
  rw [e, show z - x = (y - x) + (z - y) by omega, List.take_add]
theorem cut_all (b : List UInt8) : cutB b 0 b.length = b := by simp [cutB]
/-- The parts of a message, and how they are found. -/
theorem whole_secs (b : List UInt8) : secS b [] 0 = (b, 0) ∧ secS b [] 1 = (cutB b 0 (mpart b).bo, 0) ∧ secS b [] 2 = (cutB b (mpart b).bo b.length, 0) ∧ cutB b 0 (mpart b).bo ++ cutB b (mpart b).bo b.length = b := by
  obtain ⟨n, h1, h2, h3, h4⟩ := mpart_inside b
  obtain ⟨g1, g2, _⟩ := inside_self h1
  have hf : findT (mpart b) [] = some (mpart b) := by
    unfold findT
    rw [if_neg (fun e => by cases e.2)]
    rfl
  refine ⟨?_, ?_, ?_, ?_⟩
  · unfold secS; rw [if_neg (by omega), hf]; simp [secT]
  · unfold secS; rw [if_neg (by omega), hf]; simp [secT, h3]
  · unfold secS; rw [if_neg (by omega), hf]; simp [secT, h4]
  · rw [cut_join b 0 _ _ (Nat.zero_le _) (by omega), cut_all]
theorem kid_secs (b : List UInt8) (i : Nat) (x : PT) (hx : (PT.kids (mpart b))[i]? = some x) : secS b [(i : Int) + 1] 3 = (cutB b x.fr x.bo, 0) ∧ secS b [(i : Int) + 1] 0 = (cutB b x.bo x.to, 0) ∧ cutB b x.fr x.bo ++ cutB b x.bo x.to = cutB b x.fr x.to ∧ x.fr ≤ x.to ∧ x.to ≤ b.length := by
  have hne : (PT.kids (mpart b)).isEmpty = false := by
    cases hk : PT.kids (mpart b) with
    | nil => rw [hk] at hx; cases hx
    | cons y l => rfl
  have hf : findT (mpart b) [(i : Int) + 1] = some x := by
    unfold findT
    rw [if_neg (fun e => by rw [hne] at e; cases e.1), walkT, show ((i : Int) + 1 - 1).toNat = i by omega, hx]
    dsimp only
    rw [if_pos (by omega)]
    rfl
  obtain ⟨g1, g2, g3⟩ := find_bounds hf
  refine ⟨?_, ?_, cut_join b _ _ _ g1 g2, Nat.le_trans g1 g2, g3⟩
  · unfold secS; rw [if_neg (by omega), hf]; simp [secT]
  · unfold secS; rw [if_neg (by omega), hf]; simp [secT]
/-- A section of a message: what the call leaves. -/
theorem sec_nil {A : Option Addr} {c : Nat} {b : List UInt8} {w w1 : World} (what : Int) (L : List UInt8) (N : Nat) (hb : b.length ≤ 2000000) (hc : b.length ≤ c) (hA : A = none → c = 0) (hr : RowIn w A (bcells b)) (hg : Gl w) (hw : Below w.heap.size w w1) (hs : secS b [] what = (L, 0)) (hN : L.length = N) :
    Calls Tryz.prog 22 #[.slice A b.length c, .slice none 0 0, .int .i64 what] w1 fun e w' => ∃ A1 c1, e = .returned (.tuple #[.slice A1 N c1, .int .i64 0]) ∧ RowIn w' A1 (bcells L) ∧ Below w1.heap.size w1 w' := by
  refine (section_any A c b none 0 [] what w1 hb hc hA (hr.below hw) (hg.below hw) (RowIn.nil _ _) (by simp) (fun k hk => by cases hk)).mono ?_
  rintro e w' ⟨v, rfl, hown, hb3⟩
  rw [hs] at hown ⊢
  obtain ⟨A1, c1, rfl, _, _, hrow, _⟩ := owns_open hown
  exact ⟨A1, c1, by dsimp only; rw [hN], hrow, hb3⟩
theorem sec_kid {A : Option Addr} {c : Nat} {b : List UInt8} {w w1 : World} (i : Nat) (what : Int) (L : List UInt8) (N : Nat) (hb : b.length ≤ 2000000) (hc : b.length ≤ c) (hA : A = none → c = 0) (hr : RowIn w A (bcells b)) (hg : Gl w) (hw : Below w.heap.size w w1) (hi : i ≤ 1000) (hs : secS b [(i : Int) + 1] what = (L, 0)) (hN : L.length = N) (t : Nat) :
    Calls Tryz.prog 22 #[.slice A b.length c, .slice (some ⟨w1.heap.size, 0, none⟩) 1 1, .int .i64 what] (w1.alloc (.cells #[.int .i64 ((i : Int) + 1)] t)) fun e w' => ∃ A1 c1, e = .returned (.tuple #[.slice A1 N c1, .int .i64 0]) ∧ RowIn w' A1 (bcells L) ∧ Below w1.heap.size w1 w' := by
  have hb2 : Below w1.heap.size w1 (w1.alloc (.cells #[.int .i64 ((i : Int) + 1)] t)) := (Below.refl _ _).alloc (Nat.le_refl _) _
  have hw2 := hw.trans (hb2.mono hw.size)
  refine (section_any A c b (some ⟨w1.heap.size, 0, none⟩) 1 [(i : Int) + 1] what _ hb hc hA (hr.below hw2) (hg.below hw2) (row_new8 w1 [.int .i64 ((i : Int) + 1)] t) (by simp) (fun k hk => by rw [List.mem_singleton.1 hk]; omega)).mono ?_
  rintro e w' ⟨v, rfl, hown, hb3⟩
  rw [hs] at hown ⊢
  obtain ⟨A1, c1, rfl, _, _, hrow, _⟩ := owns_open hown
  exact ⟨A1, c1, by dsimp only; rw [hN], hrow, hb2.trans (hb3.mono hb2.size)⟩
set_option maxRecDepth 100000 in
set_option maxHeartbeats 4000000 in
theorem mwhole_any (A : Option Addr) (c : Nat) (b : List UInt8) (w : World) (hb : b.length ≤ 2000000) (hc : b.length ≤ c) (hA : A = none → c = 0) (hr : RowIn w A (bcells b)) (hg : Gl w) (hP : PowTab w) :
    Calls Tryz.prog 8 #[.slice A b.length c] w fun e w' => e = .returned (.bool true) ∧ Below w.heap.size w w' := by
  obtain ⟨s0, s1, s2, s3⟩ := whole_secs b
  go_enter Tryz.func8, Tryz.ntmps8
  go_wp2_with fail
  refine (shown11_any w hg hP).mono ?_
  rintro e w1 ⟨rfl, hb1⟩
  go_wp2_with fail
  refine (sec_nil 0 b b.length hb hc hA hr hg hb1 s0 rfl).mono ?_
  rintro e w2 ⟨A2, c2, rfl, hr2, hb2⟩
  have hb02 := hb1.trans (hb2.mono hb1.size)
  obtain ⟨n3, hn3⟩ : ∃ n3, (cutB b 0 (mpart b).bo).length = n3 := ⟨_, rfl⟩
  obtain ⟨n4, hn4⟩ : ∃ n4, (cutB b (mpart b).bo b.length).length = n4 := ⟨_, rfl⟩
  go_wp2_with fail
  refine (sec_nil 1 _ n3 hb hc hA hr hg hb02 s1 hn3).mono ?_
  rintro e w3 ⟨A3, c3, rfl, hr3, hb3⟩
  have hb03 := hb02.trans (hb3.mono hb02.size)
  go_wp2_with fail
  refine (sec_nil 2 _ n4 hb hc hA hr hg hb03 s2 hn4).mono ?_
  rintro e w4 ⟨A4, c4, rfl, hr4, hb4⟩
  have hb04 := hb03.trans (hb4.mono hb03.size)
  have k0 := conv_bytes A b b.length c w4 (hr.below hb04) rfl
  have k2 := conv_bytes A2 b b.length c2 w4 (hr2.below (hb3.trans (hb4.mono hb3.size))) rfl
  have k3 := conv_bytes A3 _ n3 c3 w4 (hr3.below hb4) hn3
  have k4 := conv_bytes A4 _ n4 c4 w4 hr4 hn4
  have hl3 : n3 ≤ 2000000 := by
    have := congrArg List.length s3
    rw [List.length_append, hn3, hn4] at this
    omega
  have hl4 : n4 ≤ 2000000 := by
    have := congrArg List.length s3
    rw [List.length_append, hn3, hn4] at this
    omega
  generalize cutB b 0 (mpart b).bo = X3 at *
  generalize cutB b (mpart b).bo b.length = X4 at *
  have hcat : (⟨X3.toArray⟩ : ByteArray) ++ ⟨X4.toArray⟩ = ⟨b.toArray⟩ := by rw [bytes_append, s3]
  clear hr2 hr3 hr4 s0 s1 s2 s3
  go_wp2_with fail
  refine (mparse_any A c b w4 hb hc hA (hr.below hb04) (hg.below hb04)).mono ?_
  rintro e w5 ⟨m, rfl, hok, her, hb5⟩
  have hb05 := hb04.trans (hb5.mono hb04.size)
  have hkk : PT.kids (mpart b) = (mkids m).map erase := by rw [← her, kids_erase]
  have hkl : (mkids m).length ≤ 16 := by
    obtain ⟨n, h1, h2, _, _⟩ := mpart_inside b
    have h3 := insideL_len _ _ _ _ _ (inside_self h1).2.2
    rw [hkk, List.length_map] at h3
    omega
  obtain ⟨ty, sub, bd, en, fr, bo, to_, Ak, ck, kids⟩ := m
  simp only [mkids] at hkk hkl
  obtain ⟨hm1, hm2, hm3, hm4⟩ := hok
  have hPa := pc_new w5 ty sub bd en fr bo to_ (.slice Ak kids.length ck) 29
  have hal : Below w5.heap.size w5 (w5.alloc (.cells #[.string ⟨ty.toArray⟩, .string ⟨sub.toArray⟩, .string ⟨bd.toArray⟩, .string ⟨en.toArray⟩, .int .i64 (fr : Int), .int .i64 (bo : Int), .int .i64 (to_ : Int), .slice Ak kids.length ck] 29)) := (Below.refl _ _).alloc (Nat.le_refl _) _
  obtain ⟨w6, hw6⟩ : ∃ w6, w6 = w5.alloc (.cells #[.string ⟨ty.toArray⟩, .string ⟨sub.toArray⟩, .string ⟨bd.toArray⟩, .string ⟨en.toArray⟩, .int .i64 (fr : Int), .int .i64 (bo : Int), .int .i64 (to_ : Int), .slice Ak kids.length ck] 29) := ⟨_, rfl⟩
  simp only [mval, mcell]
  clear k0 k2 k3 k4 hcat hl3 hl4 hn3 hn4 her
  go_upto_region 8 with (fail)
  rw [← hw6] at hPa hal ⊢
  clear hw6
  have hb06 := hb05.trans (hal.mono hb05.size)
  have HPa := Lib.hid hPa
  have HM1 := Lib.hid hm1
  have HKK := Lib.hid hkk
  clear hPa hm1 hm2 hm3 hm4 hkk
  go_wp2
  go_loopw [11, 12, 13, 14, 15] (fun ti _ _ _ _ wr => ∃ i : Nat, ti = .int .i64 i ∧ i ≤ kids.length ∧ Below w6.heap.size w6 wr) (fun ti _ _ _ _ _ => kids.length - (intOf ti).toNat)
  case atStart => exact ⟨0, rfl, Nat.zero_le _, Below.refl _ _⟩
  case round =>
    obtain ⟨i, rfl, hi2, hbr⟩ := hrel
    have hPr := HPa.out.below hbr
    have p7 := hPr.c7
    have hb0r := hb06.trans (hbr.mono hb06.size)
    by_cases hlt : i < kids.length
    · have hlt2 : (i : Int) < (kids.length : Int) := by omega
      obtain ⟨ty3, sub3, bd3, en3, f3, o3, t3, A3, c3, kd3, hkd⟩ : ∃ ty3 sub3 bd3 en3 f3 o3 t3 A3 c3 kd3, kids[i] = .mk ty3 sub3 bd3 en3 f3 o3 t3 A3 c3 kd3 := by
        cases h : kids[i] with
        | mk a1 a2 a3 a4 a5 a6 a7 a8 a9 a10 => exact ⟨a1, a2, a3, a4, a5, a6, a7, a8, a9, a10, rfl⟩
      obtain ⟨s1, s2, s3, s4, s5⟩ := kid_secs b i (erase (.mk ty3 sub3 bd3 en3 f3 o3 t3 A3 c3 kd3)) (by rw [HKK.out, List.getElem?_map, List.getElem?_eq_getElem hlt, hkd]; rfl)
      simp only [erase, PT.fr, PT.bo, PT.to] at s1 s2 s3 s4 s5
      have hwi : IntKind.i64.wrap ((i : Int) + 1) = (i : Int) + 1 := IntWalk.i64_in _ (by omega)
      obtain ⟨n7, hn7⟩ : ∃ n7, (cutB b f3 o3).length = n7 := ⟨_, rfl⟩
      obtain ⟨n8, hn8⟩ : ∃ n8, (cutB b o3 t3).length = n8 := ⟨_, rfl⟩
      have hl9 : n7 + n8 ≤ 2000000 := by
        have := congrArg List.length s3
        rw [List.length_append, hn7, hn8] at this
        have h2 : (cutB b f3 t3).length ≤ b.length := by unfold cutB; simp; omega
        omega
      have HC1 := fun t => sec_kid i 3 _ n7 hb hc hA hr hg hb0r (by omega) s1 hn7 t
      have HPr := Lib.hid hPr
      have HS := Lib.hid s2
      have HS3 := Lib.hid s3
      clear hPr s1 s2 s3
      go_wp2_with fail
      refine (HC1 _).mono ?_
      rintro e w7 ⟨A7, c7, rfl, hr7, hb7⟩
      have hb07 := hb0r.trans (hb7.mono hb0r.size)
      have HC2 := fun t => sec_kid i 0 _ n8 hb hc hA hr hg hb07 (by omega) HS.out hn8 t
      clear HC1
      have HR7 := Lib.hid hr7
      clear hr7 p7
      go_wp2_with fail
      refine (HC2 _).mono ?_
      rintro e w8 ⟨A8, c8, rfl, hr8, hb8⟩
      have hb08 := hb07.trans (hb8.mono hb07.size)
      have hbr8 := hbr.trans ((hb7.trans (hb8.mono hb7.size)).mono hbr.size)
      clear HC2
      go_wp2
      have hPw := HPr.out.below (hb7.trans (hb8.mono hb7.size))
      have hd8 : Below w8.heap.size w8 w8.drew := (Below.refl _ _).drew
      obtain ⟨wd, hwd⟩ : ∃ wd, wd = w8.drew := ⟨_, rfl⟩
      rw [← hwd] at hd8
      have hb7d : Below w7.heap.size w7 wd := hb8.trans (hd8.mono hb8.size)
      have p7 := (hPw.below hd8).c7
      have hrk : RowIn wd Ak (mcells kids) := (HM1.out.below (hal.trans (hbr8.mono hal.size))).below hd8
      obtain ⟨b0, o0, rfl, _⟩ := hrk.addr (by intro e; have := congrArg List.length e; rw [mcells_len] at this; simp only [List.length_nil] at this; omega)
      obtain ⟨_, _, _, _, k4, _, k6, _⟩ := kid_cells hrk i hlt hkd
      have hrd : RowIn wd A (bcells b) := (hr.below hb08).below hd8
      have q7 := conv_bytes A7 _ n7 c7 wd (HR7.out.below hb7d) hn7
      have q8 := conv_bytes A8 _ n8 c8 wd (hr8.below hd8) hn8
      have hcat : (⟨(cutB b f3 o3).toArray⟩ : ByteArray) ++ ⟨(cutB b o3 t3).toArray⟩ = ⟨(cutB b f3 t3).toArray⟩ := by rw [bytes_append, HS3.out]
      have hn9 : (cutB b f3 t3).length = t3 - f3 := by unfold cutB; simp; omega
      have hft : (f3 : Int) ≤ (t3 : Int) := by omega
      have htc : (t3 : Int) ≤ (c : Int) := by omega
      have hl10 : ¬ 9223372036854775807 < n7 + n8 := by omega
      have hb0d := hb08.trans (hd8.mono hb08.size)
      refine wp_region_still_lit (by kernel_rfl) (by kernel_rfl) ?_
      have hwd2 : ({ w8 with drawn := w8.drawn + 1 } : World) = wd := hwd.symm
      rw [hwd2]
      clear hPw hwd hwd2 HPr HR7
      by_cases hcf : c = f3
      · have q9 := conv_bytes A (cutB b f3 t3) 0 0 wd (row_at hrd s4 s5 hc (.inr ⟨rfl, rfl, hcf⟩)) (by omega)
        subst hcf
        have htf : t3 ≤ c := by omega
        repeat still_step
        refine wpStill_nil ?_
        go_wp2
        exact ⟨⟨i + 1, by go_num, by omega, hbr8.trans (hd8.mono hbr8.size)⟩, by simp [intOf]; omega⟩
      · have q9 := conv_bytes _ _ (t3 - f3) (c - f3) wd (row_at hrd s4 s5 hc (.inl ⟨rfl, rfl⟩)) hn9
        have hcf2 : ¬ (c : Int) = (f3 : Int) := by omega
        repeat still_step
        refine wpStill_nil ?_
        go_wp2
        exact ⟨⟨i + 1, by go_num, by omega, hbr8.trans (hd8.mono hbr8.size)⟩, by simp [intOf]; omega⟩
    · have hlt2 : ¬ (i : Int) < (kids.length : Int) := by omega
      clear hPr
      go_wp2
      go_ret
      exact ⟨rfl, hb0r⟩
end Go.Proofs.YtbjbljfmcpidmaaGreatDoor

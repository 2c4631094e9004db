/- The reference's kind. -/
import Derived.Test.YtbjbljfmcpidmaaGreatDoorRSpec
namespace Go.Proofs.YtbjbljfmcpidmaaGreatDoor
open Go.RowKit Go.Lib Go.Shelf
theorem results_tmp4 {fn : Func} {t u v x : Tmp} (h : fn.results = #[.tmp t, .tmp u, .tmp v, .tmp x]) (tmps : Array Value) (P : Program) (w : World) :
    (results fn tmps).run P w = .ok (.tuple #[tmps.getD t undef, tmps.getD u undef, tmps.getD v undef, tmps.getD x undef]) w := by
  simp [results, h]
def kind4 (k : List UInt8 × List UInt8 × List UInt8 × Bool) : Value := .tuple #[.string ⟨k.1.toArray⟩, .string ⟨k.2.1.toArray⟩, .string ⟨k.2.2.1.toArray⟩, .bool k.2.2.2]
theorem ret4_eq {a b c d : Value} {x y z : List UInt8} {o : Bool} (h1 : a = .string ⟨x.toArray⟩) (h2 : b = .string ⟨y.toArray⟩) (h3 : c = .string ⟨z.toArray⟩) (h4 : d = .bool o) : Ending.returned (.tuple #[a, b, c, d]) = .returned (kind4 (x, y, z, o)) := by rw [h1, h2, h3, h4]; rfl
def kindT (v : List UInt8) : List UInt8 × List UInt8 × List UInt8 × Bool :=
  if (kEnd v).1 then ((tokS (tb v)).map greatB, (tokS (kS2 v)).map greatB, if boundsB (kEnd v).2 then (kEnd v).2 else [], true) else ([], [], [], false)
/-- How a text falls at its first byte. -/
theorem head_cases (s : List UInt8) (c : UInt8) : s = [] ∨ (∃ x r, s = x :: r ∧ x ≠ c) ∨ ∃ r, s = c :: r := by
  cases s with
  | nil => exact .inl rfl
  | cons x r =>
    by_cases h : x = c
    · exact .inr (.inr ⟨r, by rw [h]⟩)
    · exact .inr (.inl ⟨x, r, rfl, h⟩)
theorem ext_take (s : List UInt8) : ({ data := s.toArray } : ByteArray).extract 0 (tokN s) = ⟨(tokS s).toArray⟩ := by
  rw [bs_extract]; simp [tokS]
theorem ext_drop (s : List UInt8) (n : Nat) : ({ data := s.toArray } : ByteArray).extract n s.length = ⟨(s.drop n).toArray⟩ := by
  rw [bs_extract]; simp
theorem at_zero (s : List UInt8) (x : UInt8) (r : List UInt8) (e : s = x :: r) : ∀ h : 0 < (⟨s.toArray⟩ : ByteArray).size, (⟨s.toArray⟩ : ByteArray)[0]'h = x := fun h => by
  subst e
  show (x :: r).toArray[0] = _
  simp
theorem ext_one (s : List UInt8) (x : UInt8) (r : List UInt8) (e : s = x :: r) : ({ data := s.toArray } : ByteArray).extract 1 s.length = ⟨r.toArray⟩ := by
  subst e
  rw [bs_extract]; simp
theorem len_zero (s : List UInt8) (x : UInt8) (r : List UInt8) (e : s = x :: r) : ((s.length : Int) == 0) = false ∧ 0 < s.length ∧ 1 ≤ s.length ∧ s.length = r.length + 1 := by
  subst e
  refine ⟨by rw [beq_eq_false_iff_ne]; simp; omega, by simp, by simp, by simp⟩
theorem rtrimL_any (v : List UInt8) (w : World) (hs : v.length ≤ 4000000) :
    Calls Tryz.prog 187 #[.string ⟨v.toArray⟩] w fun e w' => e = .returned (.string ⟨(tb v).toArray⟩) ∧ w = w' := rtrim_any v w hs
theorem rtrimR_any (s : List UInt8) (w : World) (hs : s.length ≤ 4000000) :
    Calls Tryz.prog 187 #[.string ⟨(s.drop (tokN s)).toArray⟩] w fun e w' => e = .returned (.string ⟨(tokR s).toArray⟩) ∧ w = w' := rtrim_any _ w (by simp; omega)
theorem kS_eq (v : List UInt8) : kS1 v = tokR (tb v) ∧ kS2 v = signS (kS1 v) [47] ∧ kS3 v = tokR (kS2 v) := ⟨rfl, rfl, rfl⟩
theorem kO_eq (v : List UInt8) : kO2 v = (nameOkB true (tb v) && Lib.hasPrefix (tb (kS1 v)) [47]) ∧ kO3 v = nameOkB (kO2 v) (kS2 v) := ⟨rfl, rfl⟩
theorem kE_eq (v : List UInt8) : kEnd v = kLoop ((kS3 v).length + 2) (kS3 v) (kO3 v) [] 0 ∧ kindT v = if (kEnd v).1 then ((tokS (tb v)).map greatB, (tokS (kS2 v)).map greatB, if boundsB (kEnd v).2 then (kEnd v).2 else [], true) else ([], [], [], false) := ⟨rfl, rfl⟩
theorem kLoop_step (f : Nat) (s m : List UInt8) (n : Nat) (h : s.isEmpty = false) : kLoop (f + 1) s true m n = if isBd (tokS (nmA s)) && decide (n = 0) then kLoop f (stD s) (okD true s) (stX s) (n + 1) else kLoop f (stD s) (okD true s) m n := by
  simp [kLoop, h]
theorem kLoop_end (f : Nat) (m : List UInt8) (n : Nat) : kLoop (f + 1) [] true m n = (true, m) := rfl
theorem step_eq (s : List UInt8) : okA true s = Lib.hasPrefix (tb s) [59] ∧ nmA s = signS s [59] ∧ stB s = tokR (nmA s) ∧ stC s = signS (stB s) [61] ∧ stD s = valR (stC s) ∧ stX s = valS (stC s) ∧ okB true s = nameOkB (okA true s) (nmA s) ∧ okC true s = (okB true s && Lib.hasPrefix (tb (stB s)) [61]) ∧ okD true s = valK (okC true s) (stC s) := ⟨by simp [okA], rfl, rfl, rfl, rfl, rfl, rfl, rfl, rfl⟩
theorem valK_false (s : List UInt8) : valK false s = false := by
  unfold valK
  split
  · split <;> rfl
  · rfl
theorem okD_of_C (s : List UInt8) (h : okC true s = false) : okD true s = false := by unfold okD; rw [h]; exact valK_false _
theorem okD_of_B (s : List UInt8) (h : okB true s = false) : okD true s = false := okD_of_C s (by unfold okC; rw [h]; rfl)
theorem okD_of_A (s : List UInt8) (h : okA true s = false) : okD true s = false := okD_of_B s (by unfold okB nameOkB; rw [h]; rfl)
theorem tok_nil : tokN [] = 0 := rfl
theorem valK_nil (ok : Bool) : valK ok [] = false := by
  show nameOkB ok [] = false
  unfold nameOkB
  simp [tokS]
theorem val_other (ok : Bool) (x : UInt8) (q : List UInt8) (h : x ≠ 34) : valK ok (x :: q) = nameOkB ok (x :: q) ∧ valR (x :: q) = tokR (x :: q) ∧ valS (x :: q) = tokS (x :: q) := by
  simp [valS, valR, valK, h]
theorem val_quote (ok : Bool) (q : List UInt8) : valK ok (34 :: q) = (match qS q [] with | some _ => ok | none => false) ∧ valR (34 :: q) = (match qS q [] with | some (_, t) => tb t | none => 34 :: q) ∧ valS (34 :: q) = (match qS q [] with | some (o, _) => o | none => []) ∧ quoN (34 :: q) = (match qS q [] with | some (_, t) => (34 :: q).length - t.length | none => 0) ∧ quoS (34 :: q) = (match qS q [] with | some (o, _) => o | none => []) := ⟨rfl, rfl, rfl, rfl, rfl⟩
theorem take_all (p : UInt8 → Bool) (m : List UInt8) (k : Nat) (h : k < m.length) : (m.take (k + 1)).all p = ((m.take k).all p && p m[k]) := by
  rw [List.take_add_one, List.getElem?_eq_getElem h, List.all_append]
  simp only [Option.toList, List.all_cons, List.all_nil, Bool.and_true]
theorem okAll_eq (m : List UInt8) : okAll m = ((decide (1 ≤ m.length) && decide (m.length ≤ 70)) && m.all inB) := rfl
attribute [local irreducible] tb tokN tokS tokR signS valS valR kLoop kEnd kindT kS1 kS2 kS3 kO1 kO2 kO3 quoS quoN boundsB nmA stB stC stD stX okA okB okC okD qS okAll
set_option maxHeartbeats 8000000 in
set_option maxRecDepth 100000 in
theorem rkind_any (v : List UInt8) (w : World) (hv : v.length ≤ 2000000) :
    Calls Tryz.prog 145 #[.string ⟨v.toArray⟩] w fun e w' => e = .returned (kind4 (kindT v)) ∧ Below w.heap.size w w' := by
  have hl0 := tb_le v
  have hl1 : (kS1 v).length ≤ (tb v).length := by rw [(kS_eq v).1]; exact tokR_le _
  have hl2 : (kS2 v).length ≤ (kS1 v).length := by rw [(kS_eq v).2.1]; exact signS_le _ _
  have hl3 : (kS3 v).length ≤ (kS2 v).length := by rw [(kS_eq v).2.2]; exact tokR_le _
  have HK : Hid (kindT v = if (kEnd v).1 then ((tokS (tb v)).map greatB, (tokS (kS2 v)).map greatB, if boundsB (kEnd v).2 then (kEnd v).2 else [], true) else ([], [], [], false)) := Lib.hid (kE_eq v).2
  have HE : Hid (kEnd v = kLoop ((kS3 v).length + 2) (kS3 v) (kO3 v) [] 0) := Lib.hid (kE_eq v).1
  have HO2 : Hid (kO2 v = (nameOkB true (tb v) && Lib.hasPrefix (tb (kS1 v)) [47])) := Lib.hid (kO_eq v).1
  have HO3 : Hid (kO3 v = nameOkB (kO2 v) (kS2 v)) := Lib.hid (kO_eq v).2
  have HF0 : Hid (kO3 v = false → kindT v = ([], [], [], false)) := Lib.hid fun h => by
    have e : (kEnd v).1 = false := by rw [HE.out, h]; exact kLoop_false _ _ _ _
    rw [HK.out, e]; rfl
  have HZ1 := Lib.hid (tok_zero (tb v))
  have HZ2 := Lib.hid (tok_zero (kS2 v))
  have HT1 : Hid (tb (kS1 v) = kS1 v) := Lib.hid (by rw [(kS_eq v).1]; exact tokR_tb _)
  have HS2 : Hid (kS2 v = signS (kS1 v) [47]) := Lib.hid (kS_eq v).2.1
  have X1 := ext_take (tb v)
  have Y1 := ext_drop (tb v) (tokN (tb v))
  have N1 := tokN_le (tb v)
  go_enter Tryz.func145, Tryz.ntmps145
  go_wp2_with fail
  refine (rtrimL_any v w (by omega)).mono ?_
  rintro e w' ⟨rfl, rfl⟩
  go_wp2_with fail
  refine (rtoken_any (tb v) w (by omega)).mono ?_
  rintro e w1 ⟨rfl, hb1⟩
  go_wp2_with fail
  have cT1 : Calls Tryz.prog 187 #[.string ⟨((tb v).drop (tokN (tb v))).toArray⟩] w1 fun e w' => e = .returned (.string ⟨(kS1 v).toArray⟩) ∧ w1 = w' := by rw [(kS_eq v).1]; exact rtrimR_any _ w1 (by omega)
  refine cT1.mono ?_
  rintro e w' ⟨rfl, rfl⟩
  by_cases hz1 : tokN (tb v) = 0
  · have n1 : ((tokN (tb v) : Int) == 0) = true := by rw [hz1]; rfl
    have hof : kO3 v = false := by
      rw [HO3.out, HO2.out]
      simp [nameOkB, HZ1.out, hz1]
    have HOF := Lib.hid hof
    clear hof hz1
    go_wp2
    refine bodyPost_ret (results_tmp4 rfl _ _ _) rfl ?_
    rw [HF0.out HOF.out]
    exact ⟨ret4_eq (x := []) (y := []) (z := []) rfl rfl rfl rfl, hb1⟩
  have n1 : ((tokN (tb v) : Int) == 0) = false := by rw [beq_eq_false_iff_ne]; omega
  have HNZ1 : Hid (nameOkB true (tb v) = true) := Lib.hid (by simp [nameOkB, HZ1.out, hz1])
  clear hz1
  have HLn : Hid ((kS3 v).length ≤ (kS2 v).length ∧ (kS2 v).length ≤ (kS1 v).length ∧ (kS1 v).length ≤ (tb v).length ∧ (tb v).length ≤ v.length ∧ v.length ≤ 2000000) := Lib.hid ⟨hl3, hl2, hl1, hl0, hv⟩
  clear hl0 hl1 hl2 hl3 hv N1 X1 Y1 cT1
  have HLv : Hid ((kS2 v).length ≤ 2000000 ∧ (tb v).length ≤ 2000000 ∧ (kS3 v).length ≤ 2000000) := Lib.hid (by have := HLn.out; omega)
  have HH := Lib.hid (head_cases (kS1 v) 47)
  generalize kS1 v = s1 at *
  rcases HH.out with rfl | ⟨x, r, hs1, hx⟩ | ⟨r, hs1⟩
  · have hof : kO3 v = false := by
      rw [HO3.out, HO2.out, prefix_nil]
      simp [nameOkB]
    have HOF := Lib.hid hof
    clear hof
    go_wp2
    refine bodyPost_ret (results_tmp4 rfl _ _ _) rfl ?_
    rw [HF0.out HOF.out]
    exact ⟨ret4_eq (x := []) (y := []) (z := []) rfl rfl rfl rfl, hb1⟩
  · have hof : kO3 v = false := by
      have h := HT1.out
      rw [hs1] at h
      rw [HO3.out, HO2.out, hs1, prefix_miss x 47 r h hx]
      simp [nameOkB]
    have HOF := Lib.hid hof
    have hxx : ((x.toNat : Int) == 47) = false := byte_ne (n := 47) (by decide) hx
    have hat := at_zero s1 x r hs1
    obtain ⟨hz, hp, hp1, hp2⟩ := len_zero s1 x r hs1
    have hxn : ((x.toNat : Int) != 47) = true := by rw [bne, hxx]; rfl
    clear hof hx hs1 HH hp2
    go_wp2
    refine bodyPost_ret (results_tmp4 rfl _ _ _) rfl ?_
    rw [HF0.out HOF.out]
    exact ⟨ret4_eq (x := []) (y := []) (z := []) rfl rfl rfl rfl, hb1⟩
  have hat := at_zero s1 47 r hs1
  have R1 := ext_one s1 47 r hs1
  obtain ⟨hz, hp, hp1, hp2⟩ := len_zero s1 47 r hs1
  have hpre := prefix_hit 47 r (by have h := HT1.out; rwa [hs1] at h)
  have HO2b : Hid (kO2 v = true) := Lib.hid (by rw [HO2.out, HNZ1.out, hs1, hpre.1]; rfl)
  have HR2 : Hid (kS2 v = tb r ∧ r.length + 1 = s1.length) := Lib.hid ⟨by rw [HS2.out, hs1]; exact hpre.2, hp2.symm⟩
  clear hpre hs1 HH hp2
  have cT2 : Calls Tryz.prog 187 #[.string ⟨r.toArray⟩] w1 fun e w' => e = .returned (.string ⟨(kS2 v).toArray⟩) ∧ w1 = w' := by
    rw [HR2.out.1]
    exact rtrimL_any r w1 (by have := HLn.out; have := HR2.out.2; omega)
  go_wp2_with fail
  refine cT2.mono ?_
  rintro e w' ⟨rfl, rfl⟩
  clear cT2 R1 hat hz hp hp1
  have X2 := ext_take (kS2 v)
  have Y2 := ext_drop (kS2 v) (tokN (kS2 v))
  have N2 := tokN_le (kS2 v)
  have cT3 : ∀ W, Calls Tryz.prog 187 #[.string ⟨((kS2 v).drop (tokN (kS2 v))).toArray⟩] W fun e w' => e = .returned (.string ⟨(kS3 v).toArray⟩) ∧ W = w' := fun W => by
    rw [(kS_eq v).2.2]
    exact rtrimR_any (kS2 v) W (by have := HLn.out; omega)
  go_wp2_with fail
  refine (rtoken_any (kS2 v) w1 (by have := HLn.out; omega)).mono ?_
  rintro e w2 ⟨rfl, hb2⟩
  have hb2 := hb1.trans (hb2.mono hb1.size)
  go_wp2_with fail
  refine (cT3 _).mono ?_
  rintro e w' ⟨rfl, rfl⟩
  by_cases hz2 : tokN (kS2 v) = 0
  · have n2 : ((tokN (kS2 v) : Int) == 0) = true := by rw [hz2]; rfl
    have HOF : Hid (kO3 v = false) := Lib.hid (by rw [HO3.out]; simp [nameOkB, HZ2.out, hz2])
    clear hz2
    go_wp2
    refine bodyPost_ret (results_tmp4 rfl _ _ _) rfl ?_
    rw [HF0.out HOF.out]
    exact ⟨ret4_eq (x := []) (y := []) (z := []) rfl rfl rfl rfl, hb2⟩
  have n2 : ((tokN (kS2 v) : Int) == 0) = false := by rw [beq_eq_false_iff_ne]; omega
  have HO3b : Hid (kO3 v = true) := Lib.hid (by rw [HO3.out, HO2b.out]; simp [nameOkB, HZ2.out, hz2])
  clear hz2 cT3 X2 Y2 N2
  have HE2 : Hid (kEnd v = kLoop ((kS3 v).length + 2) (kS3 v) true [] 0) := Lib.hid (by rw [HE.out, HO3b.out])
  have HT3 : Hid (tb (kS3 v) = kS3 v) := Lib.hid (by rw [(kS_eq v).2.2]; exact tokR_tb _)
  go_wp2
  go_loopg [0, 9, 10] ((kS3 v).length + 2) (fun gk sv bd sn wx => ∃ (m : List UInt8) (n : Nat) (s : List UInt8) (b : Bool), sv = .string ⟨s.toArray⟩ ∧ bd = .string ⟨m.toArray⟩ ∧ sn = .bool b ∧ Below w.heap.size w wx ∧ Hid (kEnd v = kLoop gk s true m n ∧ tb s = s ∧ s.length ≤ (kS3 v).length ∧ m.length ≤ (kS3 v).length ∧ s.length + 1 < gk ∧ b = decide (n ≠ 0)))
  case atStart => exact ⟨[], 0, kS3 v, false, rfl, rfl, rfl, hb2, Lib.hid ⟨HE2.out, HT3.out, Nat.le_refl _, by simp, by omega, rfl⟩⟩
  case round =>
    obtain ⟨m, n, s, b, rfl, rfl, rfl, hbx, HX⟩ := hrel
    obtain ⟨g', rfl⟩ : ∃ g', gk = g' + 1 := ⟨gk - 1, by have := HX.out.2.2.2.2.1; omega⟩
    have HH := Lib.hid (head_cases s 59)
    rcases HH.out with rfl | ⟨x, r, hs1, hx⟩ | ⟨r, hs1⟩
    · have HF : Hid (kEnd v = (true, m)) := Lib.hid (by rw [HX.out.1]; exact kLoop_end _ _ _)
      have cU := fun W => rgreat_any (tokS (tb v)) W (by have := HLv.out; have := tokS_le (tb v); omega)
      have cV := fun W => rgreat_any (tokS (kS2 v)) W (by have := HLv.out; have := tokS_le (kS2 v); omega)
      have HMl := Lib.hid HX.out.2.2.2.1
      clear HX HH
      rcases List.eq_nil_or_concat m with hm0 | ⟨m', y, hme⟩
      · have HBO : Hid (boundsB m = false) := Lib.hid (by rw [hm0]; exact bounds_nil)
        have hml0 : m.length = 0 := by rw [hm0]; rfl
        have hml1' : ¬ ((1 : Int) ≤ (m.length : Int)) := by omega
        have HM0 := Lib.hid hml0
        clear hml0 hm0
        go_wp2
        go_loopw [13, 14] (fun okv i wx => ∃ k : Nat, i = .int .i64 k ∧ k ≤ m.length ∧ okv = .bool false ∧ Below w.heap.size w wx) (fun okv i _ => m.length - (intOf i).toNat)
        case atStart => exact ⟨0, rfl, Nat.zero_le _, rfl, hbx⟩
        case round =>
          obtain ⟨k, rfl, hk, rfl, hby⟩ := hrel
          by_cases hkm : k < m.length
          · have hkm1 : (k : Int) < (m.length : Int) := by omega
            go_wp2
            go_roundw
            case rel => exact ⟨k + 1, by go_num, by omega, rfl, hby⟩
            case measure => simp [intOf]; omega
          · have hkm1 : ¬ ((k : Int) < (m.length : Int)) := by omega
            go_wp2_with fail
            refine (cU _).mono ?_
            rintro e w7 ⟨rfl, hb7⟩
            go_wp2_with fail
            refine (cV _).mono ?_
            rintro e w8 ⟨rfl, hb8⟩
            go_wp2
            refine bodyPost_ret (results_tmp4 rfl _ _ _) rfl ?_
            have hbo := HBO.out
            have hk : kindT v = ((tokS (tb v)).map greatB, (tokS (kS2 v)).map greatB, if boundsB m then m else [], true) := by rw [HK.out, HF.out, if_pos rfl]
            rw [hbo] at hk
            simp only [Bool.false_eq_true, if_false] at hk
            rw [hk]
            exact ⟨ret4_eq rfl rfl rfl rfl, hby.trans ((hb7.trans (hb8.mono hb7.size)).mono hby.size)⟩
      · rw [List.concat_eq_append] at hme
        have hml1 : 1 ≤ m.length := by rw [hme]; simp
        have hml1' : (1 : Int) ≤ (m.length : Int) := by omega
        have HME := Lib.hid hme
        clear hme
        by_cases hm7 : m.length ≤ 70
        · have hm7' : (m.length : Int) ≤ 70 := by omega
          go_wp2
          have hml : m.length ≤ 70 := by omega
          go_loopw [13, 14] (fun okv i wx => ∃ k : Nat, i = .int .i64 k ∧ k ≤ m.length ∧ okv = .bool ((m.take k).all inB) ∧ Below w.heap.size w wx) (fun okv i _ => m.length - (intOf i).toNat)
          case atStart => exact ⟨0, rfl, Nat.zero_le _, rfl, hbx⟩
          case round =>
            obtain ⟨k, rfl, hk, rfl, hby⟩ := hrel
            by_cases hkm : k < m.length
            · have hkm1 : (k : Int) < (m.length : Int) := by omega
              have hat : ∀ h : k < (⟨m.toArray⟩ : ByteArray).size, (⟨m.toArray⟩ : ByteArray)[k]'h = m[k] := fun h => by
                show m.toArray[k] = _
                simp
              have HN : Hid ((m.take (k + 1)).all inB = ((m.take k).all inB && inB m[k])) := Lib.hid (take_all inB m k hkm)
              obtain ⟨y, hy⟩ : ∃ y, y = m[k] := ⟨_, rfl⟩
              rw [← hy] at HN
              simp only [← hy] at hat
              clear hy
              have HIB : Hid (inB y = (decide (32 ≤ y.toNat) && decide (y.toNat ≤ 126))) := Lib.hid rfl
              cases hok : (m.take k).all inB with
              | false =>
                rw [hok] at HN
                go_wp2
                go_roundw
                case rel => exact ⟨k + 1, by go_num, by omega, by rw [HN.out]; rfl, hby⟩
                case measure => simp [intOf]; omega
              | true =>
                rw [hok] at HN
                by_cases h1 : 32 ≤ y.toNat
                · have h1' : (32 : Int) ≤ (y.toNat : Int) := by omega
                  by_cases h2 : y.toNat ≤ 126
                  · have h2' : (y.toNat : Int) ≤ 126 := by omega
                    go_wp2
                    go_roundw
                    case rel => exact ⟨k + 1, by go_num, by omega, by rw [HN.out, HIB.out]; simp [h1, h2], hby⟩
                    case measure => simp [intOf]; omega
                  · have h2' : ¬ ((y.toNat : Int) ≤ 126) := by omega
                    go_wp2
                    go_roundw
                    case rel => exact ⟨k + 1, by go_num, by omega, by rw [HN.out, HIB.out]; simp [h1, h2], hby⟩
                    case measure => simp [intOf]; omega
                · have h1' : ¬ ((32 : Int) ≤ (y.toNat : Int)) := by omega
                  go_wp2
                  go_roundw
                  case rel => exact ⟨k + 1, by go_num, by omega, by rw [HN.out, HIB.out]; simp [h1], hby⟩
                  case measure => simp [intOf]; omega
            · have hkm1 : ¬ ((k : Int) < (m.length : Int)) := by omega
              have htk : m.take k = m := List.take_of_length_le (by omega)
              rw [htk]
              have HSN := Lib.hid (bounds_snoc m' y)
              rw [← HME.out] at HSN
              have HAL : Hid (okAll m = m.all inB) := Lib.hid (by rw [okAll_eq]; have h1 : decide (1 ≤ m.length) = true := by simpa using hml1
                                                                  have h2 : decide (m.length ≤ 70) = true := by simpa using hml
                                                                  rw [h1, h2]; rfl)
              have hyl : ∀ h : m.length - 1 < (⟨m.toArray⟩ : ByteArray).size, (⟨m.toArray⟩ : ByteArray)[m.length - 1]'h = y := fun h => by
                show m.toArray[m.length - 1] = _
                have hme := HME.out
                simp [hme]
              have hmz : (m.length : Int) - 1 = ((m.length - 1 : Nat) : Int) := by omega
              clear htk
              cases hok : m.all inB with
              | false =>
                have HBO : Hid (boundsB m = false) := Lib.hid (by rw [HSN.out, HAL.out, hok]; rfl)
                go_wp2_with fail
                refine (cU _).mono ?_
                rintro e w7 ⟨rfl, hb7⟩
                go_wp2_with fail
                refine (cV _).mono ?_
                rintro e w8 ⟨rfl, hb8⟩
                go_wp2
                refine bodyPost_ret (results_tmp4 rfl _ _ _) rfl ?_
                have hbo := HBO.out
                have hk : kindT v = ((tokS (tb v)).map greatB, (tokS (kS2 v)).map greatB, if boundsB m then m else [], true) := by rw [HK.out, HF.out, if_pos rfl]
                rw [hbo] at hk
                simp only [Bool.false_eq_true, if_false] at hk
                rw [hk]
                exact ⟨ret4_eq rfl rfl rfl rfl, hby.trans ((hb7.trans (hb8.mono hb7.size)).mono hby.size)⟩
              | true =>
                by_cases h32 : y = 32
                · have b32 : ((y.toNat : Int) == 32) = true := byte_eq (n := 32) (by decide) h32
                  have HBO : Hid (boundsB m = false) := Lib.hid (by rw [HSN.out, HAL.out, hok, h32]; rfl)
                  clear h32
                  go_wp2_with fail
                  refine (cU _).mono ?_
                  rintro e w7 ⟨rfl, hb7⟩
                  go_wp2_with fail
                  refine (cV _).mono ?_
                  rintro e w8 ⟨rfl, hb8⟩
                  go_wp2
                  refine bodyPost_ret (results_tmp4 rfl _ _ _) rfl ?_
                  have hbo := HBO.out
                  have hk : kindT v = ((tokS (tb v)).map greatB, (tokS (kS2 v)).map greatB, if boundsB m then m else [], true) := by rw [HK.out, HF.out, if_pos rfl]
                  rw [hbo] at hk
                  simp only [Bool.false_eq_true, if_false] at hk
                  rw [hk]
                  exact ⟨ret4_eq rfl rfl rfl rfl, hby.trans ((hb7.trans (hb8.mono hb7.size)).mono hby.size)⟩
                · have b32 : ((y.toNat : Int) == 32) = false := byte_ne (n := 32) (by decide) h32
                  have HBO : Hid (boundsB m = true) := Lib.hid (by rw [HSN.out, HAL.out, hok]; simp [h32])
                  clear h32
                  go_wp2_with fail
                  refine (cU _).mono ?_
                  rintro e w7 ⟨rfl, hb7⟩
                  go_wp2_with fail
                  refine (cV _).mono ?_
                  rintro e w8 ⟨rfl, hb8⟩
                  go_wp2
                  refine bodyPost_ret (results_tmp4 rfl _ _ _) rfl ?_
                  have hbo := HBO.out
                  have hk : kindT v = ((tokS (tb v)).map greatB, (tokS (kS2 v)).map greatB, if boundsB m then m else [], true) := by rw [HK.out, HF.out, if_pos rfl]
                  rw [hbo] at hk
                  simp only [if_true] at hk
                  rw [hk]
                  exact ⟨ret4_eq rfl rfl rfl rfl, hby.trans ((hb7.trans (hb8.mono hb7.size)).mono hby.size)⟩
        · have hm7' : ¬ ((m.length : Int) ≤ 70) := by omega
          have hmb : m.length ≤ 4000000 := by have := HMl.out; have := HLv.out; omega
          have HBO : Hid (boundsB m = false) := Lib.hid (by rw [HME.out, bounds_snoc, ← HME.out, okAll_eq]; simp [hm7])
          go_wp2
          go_loopw [13, 14] (fun okv i wx => ∃ k : Nat, i = .int .i64 k ∧ k ≤ m.length ∧ okv = .bool false ∧ Below w.heap.size w wx) (fun okv i _ => m.length - (intOf i).toNat)
          case atStart => exact ⟨0, rfl, Nat.zero_le _, rfl, hbx⟩
          case round =>
            obtain ⟨k, rfl, hk, rfl, hby⟩ := hrel
            by_cases hkm : k < m.length
            · have hkm1 : (k : Int) < (m.length : Int) := by omega
              go_wp2
              go_roundw
              case rel => exact ⟨k + 1, by go_num, by omega, rfl, hby⟩
              case measure => simp [intOf]; omega
            · have hkm1 : ¬ ((k : Int) < (m.length : Int)) := by omega
              go_wp2_with fail
              refine (cU _).mono ?_
              rintro e w7 ⟨rfl, hb7⟩
              go_wp2_with fail
              refine (cV _).mono ?_
              rintro e w8 ⟨rfl, hb8⟩
              go_wp2
              refine bodyPost_ret (results_tmp4 rfl _ _ _) rfl ?_
              have hbo := HBO.out
              have hk : kindT v = ((tokS (tb v)).map greatB, (tokS (kS2 v)).map greatB, if boundsB m then m else [], true) := by rw [HK.out, HF.out, if_pos rfl]
              rw [hbo] at hk
              simp only [Bool.false_eq_true, if_false] at hk
              rw [hk]
              exact ⟨ret4_eq rfl rfl rfl rfl, hby.trans ((hb7.trans (hb8.mono hb7.size)).mono hby.size)⟩
    all_goals
      have hsl := (len_zero s _ _ hs1).2.1
      have HFF : Hid (okD true s = false → kindT v = ([], [], [], false)) := Lib.hid fun h => by
        have e : (kEnd v).1 = false := by
          have hk := HX.out.1
          rw [kLoop_step g' s m n (by rw [hs1]; rfl)] at hk
          rw [hk, h]
          split <;> exact kLoop_false _ _ _ _
        rw [HK.out, e]; rfl
      have HSP := Lib.hid (step_eq s)
    · have hxx : ((x.toNat : Int) == 59) = false := byte_ne (n := 59) (by decide) hx
      have hxn : ((x.toNat : Int) != 59) = true := by rw [bne, hxx]; rfl
      have hat := at_zero s x r hs1
      have HOF : Hid (okD true s = false) := Lib.hid (okD_of_A s (by rw [HSP.out.1]; have h := HX.out.2.1; rw [hs1] at h ⊢; rw [prefix_miss x 59 r h hx]))
      have hsl' : (0 : Int) < (s.length : Int) := by omega
      clear hx hs1 HH
      go_wp2
      refine bodyPost_ret (results_tmp4 rfl _ _ _) rfl ?_
      rw [HFF.out HOF.out]
      exact ⟨ret4_eq (x := []) (y := []) (z := []) rfl rfl rfl rfl, hbx⟩
    · have hat := at_zero s 59 r hs1
      have R1 := ext_one s 59 r hs1
      have hsl' : (0 : Int) < (s.length : Int) := by omega
      obtain ⟨hz, hp, hp1, hp2⟩ := len_zero s 59 r hs1
      have hpre := prefix_hit 59 r (by have h := HX.out.2.1; rwa [hs1] at h)
      have HA : Hid (okA true s = true ∧ nmA s = tb r ∧ r.length + 1 = s.length) := Lib.hid ⟨by rw [HSP.out.1, hs1, hpre.1], by rw [HSP.out.2.1, hs1]; exact hpre.2, hp2.symm⟩
      clear hpre hs1 HH hp2
      have HSL : Hid (s.length ≤ 2000000) := Lib.hid (by have := HX.out.2.2.1; have := HLv.out; omega)
      have cT4 : Calls Tryz.prog 187 #[.string ⟨r.toArray⟩] wr fun e w' => e = .returned (.string ⟨(nmA s).toArray⟩) ∧ wr = w' := by
        rw [HA.out.2.1]
        exact rtrimL_any r wr (by have := HSL.out; have := HA.out.2.2; omega)
      have HAL : Hid ((nmA s).length ≤ 2000000) := Lib.hid (by have := nmA_le s; have := HSL.out; omega)
      go_wp2_with fail
      refine cT4.mono ?_
      rintro e w' ⟨rfl, rfl⟩
      clear cT4 R1 hat hz hp hp1
      have X2 := ext_take (nmA s)
      have Y2 := ext_drop (nmA s) (tokN (nmA s))
      have N2 := tokN_le (nmA s)
      have cT5 : ∀ W, Calls Tryz.prog 187 #[.string ⟨((nmA s).drop (tokN (nmA s))).toArray⟩] W fun e w' => e = .returned (.string ⟨(stB s).toArray⟩) ∧ W = w' := fun W => by
        rw [HSP.out.2.2.1]
        exact rtrimR_any (nmA s) W (by have := HAL.out; omega)
      go_wp2_with fail
      refine (rtoken_any (nmA s) wr (by have := HAL.out; omega)).mono ?_
      rintro e w3 ⟨rfl, hb3⟩
      have hb3 := hbx.trans (hb3.mono hbx.size)
      go_wp2_with fail
      refine (cT5 _).mono ?_
      rintro e w' ⟨rfl, rfl⟩
      have HZ3 := Lib.hid (tok_zero (nmA s))
      have HBL : Hid ((stB s).length ≤ 2000000) := Lib.hid (by have := stB_le s; have := HSL.out; omega)
      by_cases hz3 : tokN (nmA s) = 0
      · have n3 : ((tokN (nmA s) : Int) == 0) = true := by rw [hz3]; rfl
        have HOF : Hid (okD true s = false) := Lib.hid (okD_of_B s (by rw [HSP.out.2.2.2.2.2.2.1]; simp [nameOkB, HZ3.out, hz3]))
        clear hz3
        go_wp2
        refine bodyPost_ret (results_tmp4 rfl _ _ _) rfl ?_
        rw [HFF.out HOF.out]
        exact ⟨ret4_eq (x := []) (y := []) (z := []) rfl rfl rfl rfl, hb3⟩
      have n3 : ((tokN (nmA s) : Int) == 0) = false := by rw [beq_eq_false_iff_ne]; omega
      have HB3 : Hid (okB true s = true) := Lib.hid (by rw [HSP.out.2.2.2.2.2.2.1, HA.out.1]; simp [nameOkB, HZ3.out, hz3])
      clear hz3 cT5 X2 Y2 N2
      have HTB : Hid (tb (stB s) = stB s) := Lib.hid (by rw [HSP.out.2.2.1]; exact tokR_tb _)
      have HH := Lib.hid (head_cases (stB s) 61)
      generalize hsb : stB s = sb at *
      have HSB := Lib.hid hsb
      clear hsb
      rcases HH.out with rfl | ⟨x, r2, hs2, hx⟩ | ⟨r2, hs2⟩
      · have HOF : Hid (okD true s = false) := Lib.hid (okD_of_C s (by rw [HSP.out.2.2.2.2.2.2.2.1, prefix_nil]; simp))
        go_wp2
        refine bodyPost_ret (results_tmp4 rfl _ _ _) rfl ?_
        rw [HFF.out HOF.out]
        exact ⟨ret4_eq (x := []) (y := []) (z := []) rfl rfl rfl rfl, hb3⟩
      · have hxx : ((x.toNat : Int) == 61) = false := byte_ne (n := 61) (by decide) hx
        have hxn : ((x.toNat : Int) != 61) = true := by rw [bne, hxx]; rfl
        have hat := at_zero sb x r2 hs2
        obtain ⟨hz, hp, hp1, hp2⟩ := len_zero sb x r2 hs2
        have HOF : Hid (okD true s = false) := Lib.hid (okD_of_C s (by rw [HSP.out.2.2.2.2.2.2.2.1]; have h := HTB.out; rw [hs2] at h ⊢; rw [prefix_miss x 61 r2 h hx]; simp))
        clear hx hs2 HH hp2
        go_wp2
        refine bodyPost_ret (results_tmp4 rfl _ _ _) rfl ?_
        rw [HFF.out HOF.out]
        exact ⟨ret4_eq (x := []) (y := []) (z := []) rfl rfl rfl rfl, hb3⟩
      have hat := at_zero sb 61 r2 hs2
      have R1 := ext_one sb 61 r2 hs2
      obtain ⟨hz, hp, hp1, hp2⟩ := len_zero sb 61 r2 hs2
      have hpre := prefix_hit 61 r2 (by have h := HTB.out; rwa [hs2] at h)
      have HC : Hid (okC true s = true ∧ stC s = tb r2 ∧ r2.length + 1 = sb.length) := Lib.hid ⟨by rw [HSP.out.2.2.2.2.2.2.2.1, HB3.out, hs2, hpre.1]; rfl, by rw [HSP.out.2.2.2.1, hs2]; exact hpre.2, hp2.symm⟩
      clear hpre hs2 HH hp2
      have cT6 : ∀ W, Calls Tryz.prog 187 #[.string ⟨r2.toArray⟩] W fun e w' => e = .returned (.string ⟨(stC s).toArray⟩) ∧ W = w' := fun W => by
        rw [HC.out.2.1]
        exact rtrimL_any r2 W (by have := HBL.out; have := HC.out.2.2; omega)
      have HCL : Hid ((stC s).length ≤ 2000000) := Lib.hid (by have := stC_le s; have := HSL.out; omega)
      go_wp2_with fail
      refine (cT6 _).mono ?_
      rintro e w' ⟨rfl, rfl⟩
      clear cT6 R1 hat hz hp hp1
      have X4 := ext_take (stC s)
      have N4 := tokN_le (stC s)
      go_wp2_with fail
      refine (rtoken_any (stC s) w3 (by have := HCL.out; omega)).mono ?_
      rintro e w4 ⟨rfl, hb4⟩
      have hb4 := hb3.trans (hb4.mono hb3.size)
      have HH := Lib.hid (head_cases (stC s) 34)
      have HZ4 := Lib.hid (tok_zero (stC s))
      rcases HH.out with hs3 | ⟨x, q, hs3, hx⟩ | ⟨q, hs3⟩
      · have hz4 : tokN (stC s) = 0 := by rw [hs3]; exact tok_nil
        have n4 : ((tokN (stC s) : Int) == 0) = true := by rw [hz4]; rfl
        have hl4 : ¬ ((0 : Int) < ((stC s).length : Int)) := by rw [hs3]; simp
        have HOF : Hid (okD true s = false) := Lib.hid (by rw [HSP.out.2.2.2.2.2.2.2.2, hs3]; exact valK_nil _)
        clear hs3 HH hz4
        go_wp2
        refine bodyPost_ret (results_tmp4 rfl _ _ _) rfl ?_
        rw [HFF.out HOF.out]
        exact ⟨ret4_eq (x := []) (y := []) (z := []) rfl rfl rfl rfl, hb4⟩
      · have hxx : ((x.toNat : Int) == 34) = false := byte_ne (n := 34) (by decide) hx
        have hat := at_zero (stC s) x q hs3
        obtain ⟨hz, hp, hp1, hp2⟩ := len_zero (stC s) x q hs3
        have hl4 : (0 : Int) < ((stC s).length : Int) := by omega
        have HVK : Hid (valK (okC true s) (stC s) = nameOkB (okC true s) (stC s) ∧ valR (stC s) = tokR (stC s) ∧ valS (stC s) = tokS (stC s)) := Lib.hid (by rw [hs3]; exact val_other _ x q hx)
        clear hx hs3 HH hp2
        by_cases hz4 : tokN (stC s) = 0
        · have n4 : ((tokN (stC s) : Int) == 0) = true := by rw [hz4]; rfl
          have HOF : Hid (okD true s = false) := Lib.hid (by rw [HSP.out.2.2.2.2.2.2.2.2, HVK.out.1]; simp [nameOkB, HZ4.out, hz4])
          clear hz4
          go_wp2
          refine bodyPost_ret (results_tmp4 rfl _ _ _) rfl ?_
          rw [HFF.out HOF.out]
          exact ⟨ret4_eq (x := []) (y := []) (z := []) rfl rfl rfl rfl, hb4⟩
        · have n4 : ((tokN (stC s) : Int) == 0) = false := by rw [beq_eq_false_iff_ne]; omega
          have HOD : Hid (okD true s = true) := Lib.hid (by rw [HSP.out.2.2.2.2.2.2.2.2, HVK.out.1, HC.out.1]; simp [nameOkB, HZ4.out, hz4])
          clear hz4
          have Y4 := ext_drop (stC s) (tokN (stC s))
          have HXS : Hid (stX s = tokS (stC s)) := Lib.hid (by rw [HSP.out.2.2.2.2.2.1]; exact HVK.out.2.2)
          rw [← HXS.out] at X4
          have cT7 : ∀ W, Calls Tryz.prog 187 #[.string ⟨((stC s).drop (tokN (stC s))).toArray⟩] W fun e w' => e = .returned (.string ⟨(stD s).toArray⟩) ∧ W = w' := fun W => by
            rw [HSP.out.2.2.2.2.1, HVK.out.2.1]
            exact rtrimR_any (stC s) W (by have := HCL.out; omega)
          have HB5 := Lib.hid hb4
          have HTD : Hid (tb (stD s) = stD s) := Lib.hid (by rw [HSP.out.2.2.2.2.1]; exact valR_tb _ (by rw [HC.out.2.1]; exact tb_idem _))
          have HLT : Hid ((stD s).length < s.length) := Lib.hid (round_less s true HOD.out)
          have HKS : Hid (kEnd v = (if isBd (tokS (nmA s)) && decide (n = 0) then kLoop g' (stD s) true (stX s) (n + 1) else kLoop g' (stD s) true m n)) := Lib.hid (by rw [HX.out.1, kLoop_step g' s m n (by have := HA.out.2.2; cases s with | nil => simp at this | cons _ _ => rfl), HOD.out])
          go_wp2_with fail
          refine (cT7 _).mono ?_
          rintro e w' ⟨rfl, rfl⟩
          go_wp2_with fail
          refine (rsmall_any (tokS (nmA s)) _ (by have := HAL.out; have := tokS_le (nmA s); omega)).mono ?_
          rintro e w6 ⟨rfl, hb6⟩
          have HBB := Lib.hid (HB5.out.trans (hb6.mono HB5.out.size))
          by_cases hbd : (tokS (nmA s)).map smallB = [98, 111, 117, 110, 100, 97, 114, 121]
          · have HIB : Hid (isBd (tokS (nmA s)) = true) := Lib.hid (by unfold isBd bdName; rw [hbd]; rfl)
            by_cases hn0 : n = 0
            · have HND : Hid (b = false) := Lib.hid (by rw [HX.out.2.2.2.2.2]; simpa using hn0)
              have HS2x : Hid (kEnd v = kLoop g' (stD s) true (stX s) (n + 1)) := Lib.hid (by rw [HKS.out, HIB.out, hn0]; rfl)
              obtain rfl := HND.out
              clear hn0
              go_wp2
              go_roundg g'
              case measure => omega
              case rel => exact ⟨stX s, n + 1, stD s, true, rfl, rfl, rfl, HBB.out, Lib.hid ⟨HS2x.out, HTD.out, by have := HX.out.2.2.1; have := stD_le s; omega, by have := HX.out.2.2.1; have := stX_le s; omega, by have := HLT.out; have := HX.out.2.2.2.2.1; omega, by simp⟩⟩
            · have HND : Hid (b = true) := Lib.hid (by rw [HX.out.2.2.2.2.2]; simpa using hn0)
              have HS2x : Hid (kEnd v = kLoop g' (stD s) true m n) := Lib.hid (by rw [HKS.out, HIB.out]; simp [hn0])
              obtain rfl := HND.out
              clear hn0
              go_wp2
              go_roundg g'
              case measure => omega
              case rel => exact ⟨m, n, stD s, true, rfl, rfl, rfl, HBB.out, Lib.hid ⟨HS2x.out, HTD.out, by have := HX.out.2.2.1; have := stD_le s; omega, by have := HX.out.2.2.2.1; omega, by have := HLT.out; have := HX.out.2.2.2.2.1; omega, HX.out.2.2.2.2.2⟩⟩
          · have HIB : Hid (isBd (tokS (nmA s)) = false) := Lib.hid (by unfold isBd bdName; simpa using hbd)
            have HS2x : Hid (kEnd v = kLoop g' (stD s) true m n) := Lib.hid (by rw [HKS.out, HIB.out]; rfl)
            go_wp2
            go_roundg g'
            case measure => omega
            case rel => exact ⟨m, n, stD s, b, rfl, rfl, rfl, HBB.out, Lib.hid ⟨HS2x.out, HTD.out, by have := HX.out.2.2.1; have := stD_le s; omega, by have := HX.out.2.2.2.1; omega, by have := HLT.out; have := HX.out.2.2.2.2.1; omega, HX.out.2.2.2.2.2⟩⟩
      · have hz4 : tokN (stC s) = 0 := by rw [hs3]; exact tok_quote q
        have n4 : ((tokN (stC s) : Int) == 0) = true := by rw [hz4]; rfl
        have hat := at_zero (stC s) 34 q hs3
        obtain ⟨hz, hp, hp1, hp2⟩ := len_zero (stC s) 34 q hs3
        have hl4 : (0 : Int) < ((stC s).length : Int) := by omega
        have HVQ : Hid (valK (okC true s) (stC s) = (match qS q [] with | some _ => okC true s | none => false) ∧ valR (stC s) = (match qS q [] with | some (_, t) => tb t | none => stC s) ∧ valS (stC s) = (match qS q [] with | some (o, _) => o | none => []) ∧ quoN (stC s) = (match qS q [] with | some (_, t) => (stC s).length - t.length | none => 0) ∧ quoS (stC s) = (match qS q [] with | some (o, _) => o | none => [])) := Lib.hid (by rw [hs3]; exact val_quote _ q)
        have HS3 := Lib.hid hs3
        clear hs3 HH hp2 hz4
        have cQ := quoted_any (stC s) w4 (by have := HCL.out; omega)
        cases hqs : qS q [] with
        | none =>
          have hq := HVQ.out
          rw [hqs] at hq
          have HOF : Hid (okD true s = false) := Lib.hid (by rw [HSP.out.2.2.2.2.2.2.2.2]; exact hq.1)
          have hqn := hq.2.2.2.1
          simp only [] at hqn
          rw [hqn] at cQ
          clear hq hqn hqs
          go_wp2_with fail
          refine cQ.mono ?_
          rintro e w5 ⟨rfl, hb5⟩
          have hb5 := hb4.trans (hb5.mono hb4.size)
          go_wp2
          refine bodyPost_ret (results_tmp4 rfl _ _ _) rfl ?_
          rw [HFF.out HOF.out]
          exact ⟨ret4_eq (x := []) (y := []) (z := []) rfl rfl rfl rfl, hb5⟩
        | some ot =>
          obtain ⟨o, t⟩ := ot
          have hq := HVQ.out
          rw [hqs] at hq
          simp only [] at hq
          have hle := qS_le q [] o t hqs
          have hdr := qS_drop q [] o t hqs
          have hlen : (stC s).length = q.length + 1 := by rw [HS3.out]; rfl
          have HOD : Hid (okD true s = true) := Lib.hid (by rw [HSP.out.2.2.2.2.2.2.2.2, hq.1]; exact HC.out.1)
          have HDR : Hid ((stC s).drop (quoN (stC s)) = t) := Lib.hid (by rw [hq.2.2.2.1, show (stC s).length - t.length = (q.length - t.length) + 1 by omega]; rw [HS3.out, List.drop_succ_cons]; exact hdr.symm)
          have hnq : quoN (stC s) ≤ (stC s).length := by rw [hq.2.2.2.1]; omega
          have n5 : ((quoN (stC s) : Int) == 0) = false := by rw [beq_eq_false_iff_ne, hq.2.2.2.1]; omega
          have HXS : Hid (quoS (stC s) = stX s) := Lib.hid (by rw [HSP.out.2.2.2.2.2.1, hq.2.2.2.2, hq.2.2.1])
          rw [HXS.out] at cQ
          have Y4 := ext_drop (stC s) (quoN (stC s))
          have cT7 : ∀ W, Calls Tryz.prog 187 #[.string ⟨((stC s).drop (quoN (stC s))).toArray⟩] W fun e w' => e = .returned (.string ⟨(stD s).toArray⟩) ∧ W = w' := fun W => by
            rw [HSP.out.2.2.2.2.1, hq.2.1, HDR.out]
            exact rtrimL_any t W (by have := HCL.out; omega)
          clear hqs hq hle hdr hlen
          go_wp2_with fail
          refine cQ.mono ?_
          rintro e w5 ⟨rfl, hb5⟩
          have HB5 := Lib.hid (hb4.trans (hb5.mono hb4.size))
          have HTD : Hid (tb (stD s) = stD s) := Lib.hid (by rw [HSP.out.2.2.2.2.1]; exact valR_tb _ (by rw [HC.out.2.1]; exact tb_idem _))
          have HLT : Hid ((stD s).length < s.length) := Lib.hid (round_less s true HOD.out)
          have HKS : Hid (kEnd v = (if isBd (tokS (nmA s)) && decide (n = 0) then kLoop g' (stD s) true (stX s) (n + 1) else kLoop g' (stD s) true m n)) := Lib.hid (by rw [HX.out.1, kLoop_step g' s m n (by have := HA.out.2.2; cases s with | nil => simp at this | cons _ _ => rfl), HOD.out])
          go_wp2_with fail
          refine (cT7 _).mono ?_
          rintro e w' ⟨rfl, rfl⟩
          go_wp2_with fail
          refine (rsmall_any (tokS (nmA s)) _ (by have := HAL.out; have := tokS_le (nmA s); omega)).mono ?_
          rintro e w6 ⟨rfl, hb6⟩
          have HBB := Lib.hid (HB5.out.trans (hb6.mono HB5.out.size))
          by_cases hbd : (tokS (nmA s)).map smallB = [98, 111, 117, 110, 100, 97, 114, 121]
          · have HIB : Hid (isBd (tokS (nmA s)) = true) := Lib.hid (by unfold isBd bdName; rw [hbd]; rfl)
            by_cases hn0 : n = 0
            · have HND : Hid (b = false) := Lib.hid (by rw [HX.out.2.2.2.2.2]; simpa using hn0)
              have HS2x : Hid (kEnd v = kLoop g' (stD s) true (stX s) (n + 1)) := Lib.hid (by rw [HKS.out, HIB.out, hn0]; rfl)
              obtain rfl := HND.out
              clear hn0
              go_wp2
              go_roundg g'
              case measure => omega
              case rel => exact ⟨stX s, n + 1, stD s, true, rfl, rfl, rfl, HBB.out, Lib.hid ⟨HS2x.out, HTD.out, by have := HX.out.2.2.1; have := stD_le s; omega, by have := HX.out.2.2.1; have := stX_le s; omega, by have := HLT.out; have := HX.out.2.2.2.2.1; omega, by simp⟩⟩
            · have HND : Hid (b = true) := Lib.hid (by rw [HX.out.2.2.2.2.2]; simpa using hn0)
              have HS2x : Hid (kEnd v = kLoop g' (stD s) true m n) := Lib.hid (by rw [HKS.out, HIB.out]; simp [hn0])
              obtain rfl := HND.out
              clear hn0
              go_wp2
              go_roundg g'
              case measure => omega
              case rel => exact ⟨m, n, stD s, true, rfl, rfl, rfl, HBB.out, Lib.hid ⟨HS2x.out, HTD.out, by have := HX.out.2.2.1; have := stD_le s; omega, by have := HX.out.2.2.2.1; omega, by have := HLT.out; have := HX.out.2.2.2.2.1; omega, HX.out.2.2.2.2.2⟩⟩
          · have HIB : Hid (isBd (tokS (nmA s)) = false) := Lib.hid (by unfold isBd bdName; simpa using hbd)
            have HS2x : Hid (kEnd v = kLoop g' (stD s) true m n) := Lib.hid (by rw [HKS.out, HIB.out]; rfl)
            go_wp2
            go_roundg g'
            case measure => omega
            case rel => exact ⟨m, n, stD s, b, rfl, rfl, rfl, HBB.out, Lib.hid ⟨HS2x.out, HTD.out, by have := HX.out.2.2.1; have := stD_le s; omega, by have := HX.out.2.2.2.1; omega, by have := HLT.out; have := HX.out.2.2.2.2.1; omega, HX.out.2.2.2.2.2⟩⟩
end Go.Proofs.YtbjbljfmcpidmaaGreatDoor

/- header.Kind. -/
import Derived.Test.YtbjbljfmcpidmaaGreatDoorSpec
namespace Go.Proofs.YtbjbljfmcpidmaaGreatDoor
open Go.RowKit Go.Lib Go.Shelf
theorem RD.fresh (w : World) (t : Nat) (s : List UInt8) (ok : Bool) : RD (w.alloc (.cells #[.string ⟨s.toArray⟩, .bool ok] t)) w.heap.size s ok :=
  ⟨by go_simp, by go_simp, by go_simp, by go_simp⟩
theorem GU.fresh {w w' : World} {n : Nat} (h : Gl w) (hb : Below w.heap.size w w') (hn : w.heap.size ≤ n) : GU w' n := by
  have h1 := lt_of_cell h.1.choose_spec
  have h2 := lt_of_cell (h.2.1 0 (by decide))
  have h3 := lt_of_cell (h.2.2 0 (by decide)).1
  exact ⟨h.below hb, by omega, by omega, by omega⟩
theorem below_grown {w w1 w2 : World} {n B : Nat} (h : Below n w w1) (hg : w1.grownBy w2 (some B)) (hB : n ≤ B) (hn : n ≤ w.heap.size) : Below n w w2 :=
  ⟨hg.os.trans h.os, hg.tape.trans h.tape, hg.output.trans h.output, Nat.le_trans h.size hg.size, fun k hk => (hg.block k (Nat.lt_of_lt_of_le hk (Nat.le_trans hn h.size)) (by simp; omega)).trans (h.block k hk)⟩
theorem trimL_any (v : List UInt8) (w : World) (hs : v.length ≤ 4000000) :
    Calls Tryz.prog 58 #[.string ⟨v.toArray⟩, .string ⟨#[32, 9]⟩] w fun e w' => e = .returned (.string ⟨(tb v).toArray⟩) ∧ Below w.heap.size w w' := trim_any ⟨v.toArray⟩ w (by simpa [ByteArray.size] using hs)
def ctName : List UInt8 := [99, 111, 110, 116, 101, 110, 116, 45, 116, 121, 112, 101]
def kind3 (k : List UInt8 × List UInt8 × List UInt8) : Value := .tuple #[.string ⟨k.1.toArray⟩, .string ⟨k.2.1.toArray⟩, .string ⟨k.2.2.toArray⟩]
theorem getF_le (L : List Fld) (nm : List UInt8) (h : FitF L 2000000) : (getF L nm).1.length ≤ 2000000 := by
  unfold getF
  split
  · rename_i f hf
    have := h f (List.mem_of_find?_eq_some hf)
    dsimp only
    omega
  · simp
theorem ret3_eq {a b c : Value} {x y z : List UInt8} (h1 : a = .string ⟨x.toArray⟩) (h2 : b = .string ⟨y.toArray⟩) (h3 : c = .string ⟨z.toArray⟩) : Ending.returned (.tuple #[a, b, c]) = .returned (kind3 (x, y, z)) := by rw [h1, h2, h3]; rfl
set_option maxHeartbeats 4000000 in
theorem kind_any (A : Option Addr) (c : Nat) (L : List Fld) (w : World) (hr : RowIn w A (fcells L)) (hfit : FitF L 2000000) (hL : L.length ≤ 2000000) (hg : Gl w) :
    Calls Tryz.prog 33 #[.slice A L.length c] w fun e w' => e = .returned (kind3 (kindS (getF L ctName).1)) ∧ Below w.heap.size w w' := by
  have cG := get_any A c L ctName w hr hfit (by decide) hL
  have hv := getF_le L ctName hfit
  generalize getF L ctName = v0 at *
  obtain ⟨v, is⟩ := v0
  dsimp only at cG hv
  have hl0 := tb_le v
  have hl1 : (kS1 v).length ≤ (tb v).length := tokR_le _
  have hl2 : (kS2 v).length ≤ (kS1 v).length := signS_le _ _
  have hl3 : (kS3 v).length ≤ (kS2 v).length := tokR_le _
  have HK : Hid (kindS v = if (kEnd v).1 then ((tokS (tb v)).map greatB, (tokS (kS2 v)).map greatB, if boundsB (kEnd v).2 then (kEnd v).2 else []) else (kText, kPlain, [])) := Lib.hid rfl
  have HE : Hid (kEnd v = kLoop ((kS3 v).length + 2) (kS3 v) (kO3 v) [] 0) := Lib.hid rfl
  go_enter Tryz.func33, Tryz.ntmps33
  go_wp2_with fail
  refine cG.mono ?_
  rintro e w1 ⟨rfl, hb1⟩
  go_wp2_with fail
  refine (trimL_any v w1 (by omega)).mono ?_
  rintro e w2 ⟨rfl, hb2⟩
  have hbA := (hb1.trans (hb2.mono hb1.size)).alloc (hb1.trans (hb2.mono hb1.size)).size (.cells #[.string ⟨(tb v).toArray⟩, .bool true] 104)
  have hBn := (hb1.trans (hb2.mono hb1.size)).size
  have hRA := RD.fresh w2 104 (tb v) true
  have hGA := GU.fresh hg hbA hBn
  go_wp2_with fail
  refine (rname_any w2.heap.size (tb v) true _ hRA (by omega) hGA).mono ?_
  rintro e w3 ⟨rfl, hR3, hg3⟩
  have hG3 := hGA.grown hg3
  have hb3 := below_grown hbA hg3 hBn (Nat.le_refl _)
  clear hRA hGA hg3 hbA hb2
  generalize w2.heap.size = B at *
  go_wp2_with fail
  refine (sign_any B (kS1 v) [47] (kO1 v) w3 hR3 (by omega) hG3).mono ?_
  rintro e w4 ⟨rfl, hR4, hg4⟩
  go_wp2_with fail
  refine (rname_any B (kS2 v) (kO2 v) w4 hR4 (by omega) (hG3.grown hg4)).mono ?_
  rintro e w5 ⟨rfl, hR5, hg5⟩
  have hb5 := below_grown hb3 (hg4.trans hg5) hBn (Nat.le_refl _)
  have hG5 := (hG3.grown hg4).grown hg5
  change RD w5 B (kS3 v) (kO3 v) at hR5
  clear hR3 hR4 hb3 hG3
  go_wp2
  go_loopg [4, 8] ((kS3 v).length + 2) (fun gk bd nn wx => ∃ (m : List UInt8) (n : Nat) (s : List UInt8) (ok : Bool), bd = .string ⟨m.toArray⟩ ∧ nn = .int .i64 n ∧ RD wx B s ok ∧ GU wx B ∧ Below w.heap.size w wx ∧ Hid (kEnd v = kLoop gk s ok m n) ∧ s.length ≤ (kS3 v).length ∧ m.length ≤ (kS3 v).length ∧ n + gk ≤ (kS3 v).length + 2 ∧ 0 < gk ∧ (ok = true → s.length + 1 < gk))
  case atStart => exact ⟨[], 0, kS3 v, kO3 v, rfl, rfl, hR5, hG5, hb5, HE, Nat.le_refl _, by simp, by omega, by omega, by intro; omega⟩
  case round =>
    obtain ⟨m, n, s, ok, rfl, rfl, hRx, hGx, hbx, HX, hsl, hml, hnl, hgk0, hgk⟩ := hrel
    obtain ⟨g', rfl⟩ : ∃ g', gk = g' + 1 := ⟨gk - 1, by omega⟩
    have c0 := hRx.c0
    have c1 := hRx.c1
    have HH : Hid (s.length ≤ (kS3 v).length ∧ m.length ≤ (kS3 v).length ∧ n + (g' + 1) ≤ (kS3 v).length + 2 ∧ (ok = true → s.length + 1 < g' + 1) ∧ (kS3 v).length ≤ (kS2 v).length ∧ (kS2 v).length ≤ (kS1 v).length ∧ (kS1 v).length ≤ (tb v).length ∧ (tb v).length ≤ v.length ∧ v.length ≤ 2000000) := Lib.hid ⟨hsl, hml, hnl, hgk, hl3, hl2, hl1, hl0, hv⟩
    clear hgk hnl hsl hml hl0 hl1 hl2 hl3 hv hL hfit hgk0
    cases ok with
    | false =>
      have HF : Hid (kEnd v = (false, m)) := Lib.hid (by rw [HX.out]; rfl)
      go_wp2
      go_ret3
      exact ⟨by rw [HK.out, HF.out]; rfl, hbx⟩
    | true =>
      cases hse : s.isEmpty with
      | true =>
        have HF : Hid (kEnd v = (true, m)) := Lib.hid (by rw [HX.out]; simp [kLoop, hse])
        have cB := bounds_any m wr (by have := HH.out; omega)
        have cU := fun W => great_any (tokS (tb v)) W (by have := HH.out; have := tokS_le (tb v); omega)
        have cV := fun W => great_any (tokS (kS2 v)) W (by have := HH.out; have := tokS_le (kS2 v); omega)
        cases hbo : boundsB m
        all_goals
          rw [hbo] at cB
          go_wp2_with (go_at_call 63; refine cB.mono ?_; rintro e w6 ⟨rfl, hb6⟩)
          refine (cU _).mono ?_
          rintro e w7 ⟨rfl, hb7⟩
          go_wp2_with fail
          refine (cV _).mono ?_
          rintro e w8 ⟨rfl, hb8⟩
          go_wp2
          go_ret3
          have hb67 := hb6.trans (hb7.mono hb6.size)
          have hk : kindS v = ((tokS (tb v)).map greatB, (tokS (kS2 v)).map greatB, if boundsB m then m else []) := by rw [HK.out, HF.out, if_pos rfl]
          rw [hbo] at hk
          simp only [if_true, Bool.false_eq_true, if_false] at hk
          rw [hk]
          refine ⟨?_, ?_⟩
          · exact ret3_eq rfl rfl rfl
          exact (hbx.trans ((hb67.trans (hb8.mono hb67.size)).mono hbx.size))
      | false =>
        go_wp2_with fail
        refine (sign_any B s [59] true wr hRx (by have := HH.out; omega) hGx).mono ?_
        rintro e w6 ⟨rfl, hR6, hg6⟩
        have hG6 := hGx.grown hg6
        go_wp2_with fail
        refine (rname_any B (nmA s) (okA true s) w6 hR6 (by have := HH.out; have := nmA_le s; omega) hG6).mono ?_
        rintro e w7 ⟨rfl, hR7, hg7⟩
        have hG7 := hG6.grown hg7
        go_wp2_with fail
        refine (sign_any B (stB s) [61] (okB true s) w7 hR7 (by have := HH.out; have := stB_le s; omega) hG7).mono ?_
        rintro e w8 ⟨rfl, hR8, hg8⟩
        have hG8 := hG7.grown hg8
        go_wp2_with fail
        refine (value_any B (stC s) (okC true s) w8 hR8 (by have := HH.out; have := stC_le s; omega) hG8).mono ?_
        rintro e w9 ⟨rfl, hR9, hg9⟩
        have hG9 := hG8.grown hg9
        change RD w9 B (stD s) (okD true s) at hR9
        go_wp2_with fail
        refine (small_any (tokS (nmA s)) w9 (by have := HH.out; have := nmA_le s; have := tokS_le (nmA s); omega)).mono ?_
        rintro e w10 ⟨rfl, hb10⟩
        have hRz := hR9.below hb10
        have hGz := hG9.grown (grown_of_below hb10 _)
        have hbz := below_grown hbx ((((hg6.trans hg7).trans hg8).trans hg9).trans (grown_of_below hb10 _)) hBn (Nat.le_refl _)
        clear hR6 hR7 hR8 hR9 hG6 hG7 hG8 hG9
        have hlt := round_less s true
        have HS : Hid (kEnd v = (if isBd (tokS (nmA s)) && decide (n = 0) then kLoop g' (stD s) (okD true s) (stX s) (n + 1) else kLoop g' (stD s) (okD true s) m n)) := Lib.hid (by rw [HX.out]; simp only [kLoop, hse]; rfl)
        have HLT : Hid (okD true s = true → (stD s).length < s.length) := Lib.hid hlt
        clear hlt hse HX
        by_cases hbd : (tokS (nmA s)).map smallB = [98, 111, 117, 110, 100, 97, 114, 121]
        · have hib : isBd (tokS (nmA s)) = true := by unfold isBd bdName; rw [hbd]; rfl
          rw [hib] at HS
          by_cases hn0 : n = 0
          · have hn1 : ((n : Int) == 0) = true := by rw [hn0]; rfl
            have HS2 : Hid (kEnd v = kLoop g' (stD s) (okD true s) (stX s) (n + 1)) := Lib.hid (by rw [HS.out, hn0]; rfl)
            have hnb : n ≤ 4000000 := by have := HH.out; omega
            clear hn0 HS hib
            go_wp2
            go_roundg g'
            case measure => omega
            case rel => exact ⟨stX s, n + 1, stD s, okD true s, rfl, by go_num, hRz, hGz, hbz, HS2, by have := HH.out; have := stD_le s; omega, by have := HH.out; have := stX_le s; omega, by have := HH.out; omega, by have := HH.out.2.2.2.1 trivial; omega, fun h => by have := HLT.out h; have := HH.out.2.2.2.1 trivial; omega⟩
          · have hn1 : ((n : Int) == 0) = false := by rw [beq_eq_false_iff_ne]; omega
            have hnd : decide (n = 0) = false := by simpa using hn0
            have HS2 : Hid (kEnd v = kLoop g' (stD s) (okD true s) m n) := Lib.hid (by rw [HS.out, hnd]; rfl)
            clear hn0 HS hib hnd
            go_wp2
            go_roundg g'
            case measure => omega
            case rel => exact ⟨m, n, stD s, okD true s, rfl, rfl, hRz, hGz, hbz, HS2, by have := HH.out; have := stD_le s; omega, by have := HH.out; omega, by have := HH.out; omega, by have := HH.out.2.2.2.1 trivial; omega, fun h => by have := HLT.out h; have := HH.out.2.2.2.1 trivial; omega⟩
        · have hib : isBd (tokS (nmA s)) = false := by unfold isBd bdName; simpa using hbd
          have HS2 : Hid (kEnd v = kLoop g' (stD s) (okD true s) m n) := Lib.hid (by rw [HS.out, hib]; rfl)
          clear HS hib
          go_wp2
          go_roundg g'
          case measure => omega
          case rel => exact ⟨m, n, stD s, okD true s, rfl, rfl, hRz, hGz, hbz, HS2, by have := HH.out; have := stD_le s; omega, by have := HH.out; omega, by have := HH.out; omega, by have := HH.out.2.2.2.1 trivial; omega, fun h => by have := HLT.out h; have := HH.out.2.2.2.1 trivial; omega⟩
end Go.Proofs.YtbjbljfmcpidmaaGreatDoor

/- value -/
import Derived.Test.YtbjbljfmcpidmaaGreatDoorBounds
import Derived.Test.YtbjbljfmcpidmaaGreatDoorBuild
namespace Go.Proofs.YtbjbljfmcpidmaaGreatDoor
open Go.RowKit Go.Lib Go.Shelf
def qS : List UInt8 → List UInt8 → Option (List UInt8 × List UInt8)
  | [], _ => none
  | x :: r, acc => if x = 34 then some (acc, r) else if x = 92 then (match r with | [] => none | y :: r' => qS r' (acc ++ [y])) else qS r (acc ++ [x])
theorem qS_q (r acc : List UInt8) : qS (34 :: r) acc = some (acc, r) := by cases r <;> simp [qS]
theorem qS_e (acc : List UInt8) : qS [92] acc = none := by simp [qS]
theorem qS_y (y : UInt8) (r acc : List UInt8) : qS (92 :: y :: r) acc = qS r (acc ++ [y]) := by simp [qS]
theorem qS_o (x : UInt8) (r acc : List UInt8) (h1 : x ≠ 34) (h2 : x ≠ 92) : qS (x :: r) acc = qS r (acc ++ [x]) := by cases r <;> simp [qS, h1, h2]
theorem RD.belowN {w w' : World} {B Bd : Nat} {s : List UInt8} {ok : Bool} (h : RD w B s ok) (hb : Below Bd w w') (hB : B < Bd) : RD w' B s ok :=
  ⟨(hb.cell (p := ⟨B, 0, none⟩) hB).trans h.c0, (hb.cell (p := ⟨B, 1, none⟩) hB).trans h.c1, (hb.frozen (p := ⟨B, 0, none⟩) hB).trans h.f0, (hb.frozen (p := ⟨B, 1, none⟩) hB).trans h.f1⟩
theorem cells_snoc (acc : List UInt8) (x : UInt8) : Lib.byteCells (acc ++ [x]) = Lib.byteCells acc ++ [.int .u8 (x.toNat : Int)] := by simp [Lib.byteCells]
theorem cells_len (acc : List UInt8) : (Lib.byteCells acc).length = acc.length := by simp [Lib.byteCells]
theorem builder_grown {T e : TypeId} {Bd b R : Nat} {bs : List Value} {w w' : World} (h : Lib.IsBuilder T e Bd b bs w) (hg : w.grownBy w' (some R)) (hR : R < Bd) : Lib.IsBuilder T e Bd b bs w' := by
  have key : ∀ p, Lib.BuilderAt T e Bd b p bs w → Lib.BuilderAt T e Bd b p bs w' := by
    intro p hp
    have hlt := hp.lt
    obtain ⟨hB, v, hbk, hown, hne⟩ := hp
    refine ⟨hB, v, ?_, ?_, hne⟩
    · rw [hg.block b hlt (by simp; omega)]; exact hbk
    · obtain ⟨h0, h1⟩ := hown
      refine ⟨h0, ?_⟩
      rcases h1 with h1 | ⟨g, cap, cur, hv, hg0, hrest⟩
      · exact .inl h1
      · refine .inr ⟨g, cap, cur, hv, hg0, ?_⟩
        have hgl : g < w.heap.size := by
          rcases Nat.lt_or_ge g w.heap.size with h' | h'
          · exact h'
          · have := hrest.1; simp [Array.getElem?_eq_none h'] at this
        rw [hg.block g hgl (by simp; omega)]; exact hrest
  rcases h with h | h
  · exact .inl (key _ h)
  · exact .inr (key _ h)
theorem grown_below {w w' w'' : World} {R Bd : Nat} (h : w.grownBy w' (some R)) (hb : Below Bd w' w'') (hs : Bd = w.heap.size) : w.grownBy w'' (some R) := by
  subst hs
  exact ⟨hb.os.trans h.os, hb.tape.trans h.tape, hb.output.trans h.output, Nat.le_trans h.size hb.size, fun k hk hkR => (hb.block k hk).trans (h.block k hk hkR)⟩
def valS (s : List UInt8) : List UInt8 := match s with
  | 34 :: r => (match qS r [] with | some (o, _) => o | none => [])
  | s => tokS s
def valR (s : List UInt8) : List UInt8 := match s with
  | 34 :: r => (match qS r [] with | some (_, q) => tb q | none => s)
  | s => tokR s
def valK (ok : Bool) (s : List UInt8) : Bool := match s with
  | 34 :: r => (match qS r [] with | some _ => ok | none => false)
  | s => nameOkB ok s
set_option maxHeartbeats 4000000 in
theorem value_any (B : Nat) (s : List UInt8) (ok : Bool) (w : World) (hR : RD w B s ok) (hl : s.length ≤ 4000000) (hg : GU w B) :
    Calls Tryz.prog 61 #[.pointer (some ⟨B, 0, none⟩)] w (RPost B (.string ⟨(valS s).toArray⟩) (valR s) (valK ok s) w) := by
  have c0 := hR.c0
  have cP : ∀ W, Calls Tryz.prog 129 #[.string ⟨s.toArray⟩, .string ⟨#[34]⟩] W fun e w' => e = .returned (.bool (Lib.hasPrefix s [34])) ∧ W = w' := fun W => (Tryz.strings_HasPrefix ⟨s.toArray⟩ ⟨#[34]⟩ W).mono (by rintro e w' ⟨rfl, h⟩; exact ⟨rfl, h.symm⟩)
  by_cases hq : ∃ r, s = 34 :: r
  · obtain ⟨r, hr⟩ := hq
    have hp : Lib.hasPrefix s [34] = true := by rw [hr]; simp [Lib.hasPrefix]
    have HR : Hid (s.drop 1 = r) := Lib.hid (by rw [hr]; rfl)
    have HV : Hid (valS s = (match qS r [] with | some (o, _) => o | none => []) ∧ valR s = (match qS r [] with | some (_, q) => tb q | none => s) ∧ valK ok s = (match qS r [] with | some _ => ok | none => false)) := Lib.hid (by rw [hr]; exact ⟨rfl, rfl, rfl⟩)
    have hs : (⟨s.toArray⟩ : ByteArray).size = s.length := by simp [ByteArray.size]
    have hpos : 1 ≤ s.length := by rw [hr]; simp
    have HS := Lib.hid hs
    rw [hp] at cP
    clear hs hr hp
    have h0 := Lib.fresh_isBuilder 135 5 w
    have b0 : Below w.heap.size w (w.alloc (.cells #[.pointer none, .slice none 0 0] 135)) := (Below.refl _ w).alloc (Nat.le_refl _) _
    have hBlt := hR.lt
    go_enter Tryz.func61, Tryz.ntmps61
    go_wp2_with (go_at_call 129; refine (cP _).mono ?_; rintro e w2 ⟨rfl, rfl⟩)
    go_loopw [4] (fun i wr => ∃ k : Nat, ∃ acc : List UInt8, i = .int .i64 k ∧ 1 ≤ k ∧ k ≤ s.length + 1 ∧ acc.length ≤ k ∧ Lib.IsBuilder 135 5 w.heap.size w.heap.size (Lib.byteCells acc) wr ∧ Below w.heap.size w wr ∧ Hid (qS r [] = qS (s.drop k) acc)) (fun i _ => s.length + 1 - (intOf i).toNat)
    case atStart => exact ⟨1, [], rfl, Nat.le_refl _, by omega, by simp, h0, b0, Lib.hid (by rw [HR.out])⟩
    case round =>
      obtain ⟨k, acc, rfl, hk1, hk2, hacc, hbu, hbw, HQ⟩ := hrel
      have hRr := hR.below hbw
      have d0 := hRr.c0
      have d1 := hRr.c1
      have e0 := hRr.f0
      have e1 := hRr.f1
      have hgr := hg.grown (grown_of_below hbw _)
      by_cases hks : k < s.length
      · have hk3 : (k : Int) < (s.length : Int) := by omega
        have hx : ∀ h : k < (⟨s.toArray⟩ : ByteArray).size, (⟨s.toArray⟩ : ByteArray)[k]'h = s[k] := fun h => by
          show s.toArray[k] = _
          simp
        have HD : Hid (s.drop k = s[k] :: s.drop (k + 1)) := Lib.hid (List.drop_eq_getElem_cons hks)
        obtain ⟨x, hxx⟩ : ∃ x, x = s[k] := ⟨_, rfl⟩
        rw [← hxx] at HD
        simp only [← hxx] at hx
        clear hxx
        by_cases h34 : x = 34
        · have b34 : ((x.toNat : Int) == 34) = true := byte_eq (n := 34) (by decide) h34
          have R2 : ({ data := s.toArray } : ByteArray).extract (k + 1) s.length = ⟨(s.drop (k + 1)).toArray⟩ := by
            rw [bs_extract]; simp
          have HF : Hid (qS r [] = some (acc, s.drop (k + 1))) := Lib.hid (by rw [HQ.out, HD.out, h34, qS_q])
          clear h34
          go_wp2_with fail
          refine (blanks_any B (s.drop (k + 1)) ok _ (hRr.set0 _) (by simp; omega) (hgr.grown (grown_set _ _ _ _))).mono ?_
          rintro e w3 ⟨rfl, hR3, hg3⟩
          have hgx : wr.grownBy w3 (some B) := (grown_set _ _ _ _).trans hg3
          have hbu3 := builder_grown hbu hgx hBlt
          go_wp2_with (go_at_call 107; refine (Tryz.Builder_String_any w.heap.size w.heap.size acc _ hbu3 (Nat.le_trans hbw.size hgx.size)).mono ?_; rintro e w4 ⟨rfl, hb4⟩)
          go_ret
          have hv := HV.out
          rw [HF.out] at hv
          exact ⟨(congrArg (fun l : List UInt8 => Ending.returned (.string ⟨l.toArray⟩)) hv.1).symm, by rw [hv.2.1, hv.2.2]; exact hR3.belowN hb4 hBlt, grown_below ((grown_of_below hbw _).trans hgx) hb4 rfl⟩
        · have b34 : ((x.toNat : Int) == 34) = false := byte_ne (n := 34) (by decide) h34
          by_cases h92 : x = 92
          · have b92 : ((x.toNat : Int) == 92) = true := byte_eq (n := 92) (by decide) h92
            by_cases hk4 : k + 1 < s.length
            · have hk5 : (k : Int) + 1 < (s.length : Int) := by omega
              have hy : ∀ h : k + 1 < (⟨s.toArray⟩ : ByteArray).size, (⟨s.toArray⟩ : ByteArray)[k + 1]'h = s[k + 1] := fun h => by
                show s.toArray[k + 1] = _
                simp
              have HE : Hid (s.drop (k + 1) = s[k + 1] :: s.drop (k + 1 + 1)) := Lib.hid (List.drop_eq_getElem_cons hk4)
              obtain ⟨y, hyy⟩ : ∃ y, y = s[k + 1] := ⟨_, rfl⟩
              rw [← hyy] at HE
              simp only [← hyy] at hy
              clear hyy
              have HF : Hid (qS r [] = qS (s.drop (k + 1 + 1)) (acc ++ [y])) := Lib.hid (by rw [HQ.out, HD.out, HE.out, h92, qS_y])
              clear h34 h92
              go_wp2_with fail
              refine (write_any w.heap.size w.heap.size (Lib.byteCells acc) (y.toNat : Int) wr hbu (by rw [cells_len]; omega) hbw.size).mono ?_
              rintro e w3 ⟨rfl, hB3, hb3⟩
              go_wp2
              go_roundw
              case rel => exact ⟨k + 1 + 1, acc ++ [y], by go_num, by omega, by omega, by simp; omega, .inr (by rw [cells_snoc]; exact hB3), hbw.trans hb3, HF⟩
              case measure => simp [intOf]; omega
            · have hk5 : ¬ ((k : Int) + 1 < (s.length : Int)) := by omega
              have HE : Hid (s.drop (k + 1) = []) := Lib.hid (List.drop_eq_nil_of_le (by omega))
              have HF : Hid (qS r [] = none) := Lib.hid (by rw [HQ.out, HD.out, HE.out, h92, qS_e])
              clear h34 h92
              go_wp2_with fail
              go_roundw
              case rel => exact ⟨k + 1 + 1, acc, by go_num, by omega, by omega, by omega, hbu, hbw, Lib.hid (by rw [HF.out, List.drop_eq_nil_of_le (by omega)]; rfl)⟩
              case measure => simp [intOf]; omega
          · have b92 : ((x.toNat : Int) == 92) = false := byte_ne (n := 92) (by decide) h92
            have HF : Hid (qS r [] = qS (s.drop (k + 1)) (acc ++ [x])) := Lib.hid (by rw [HQ.out, HD.out, qS_o x _ _ h34 h92])
            clear h34 h92
            go_wp2_with fail
            refine (write_any w.heap.size w.heap.size (Lib.byteCells acc) (x.toNat : Int) wr hbu (by rw [cells_len]; omega) hbw.size).mono ?_
            rintro e w3 ⟨rfl, hB3, hb3⟩
            go_wp2
            go_roundw
            case rel => exact ⟨k + 1, acc ++ [x], by go_num, by omega, by omega, by simp; omega, .inr (by rw [cells_snoc]; exact hB3), hbw.trans hb3, HF⟩
            case measure => simp [intOf]; omega
      · have hk3 : ¬ ((k : Int) < (s.length : Int)) := by omega
        have HF : Hid (qS r [] = none) := Lib.hid (by rw [HQ.out, List.drop_eq_nil_of_le (by omega)]; rfl)
        go_wp2_with fail
        go_ret
        have hv := HV.out
        rw [HF.out] at hv
        exact ⟨(congrArg (fun l : List UInt8 => Ending.returned (.string ⟨l.toArray⟩)) hv.1).symm, by rw [hv.2.1, hv.2.2]; exact hRr.set1 _, (grown_of_below hbw _).trans (grown_set _ _ _ _)⟩
  · have hp : Lib.hasPrefix s [34] = false := by
      cases s with
      | nil => rfl
      | cons x r =>
        have hx : x ≠ 34 := fun e => hq ⟨r, by rw [e]⟩
        have hx' : (34 == x) = false := beq_eq_false_iff_ne.2 (Ne.symm hx)
        simp [Lib.hasPrefix, List.isPrefixOf, hx']
    have hV : valS s = tokS s ∧ valR s = tokR s ∧ valK ok s = nameOkB ok s := by
      cases s with
      | nil => exact ⟨rfl, rfl, rfl⟩
      | cons x r =>
        have hx : x ≠ 34 := fun e => hq ⟨r, by rw [e]⟩
        simp [valS, valR, valK, hx]
    rw [hp] at cP
    rw [hV.1, hV.2.1, hV.2.2]
    have cN := rname_any B s ok w hR hl hg
    clear hq hV
    go_enter Tryz.func61, Tryz.ntmps61
    go_wp2_with (first | (go_at_call 129; refine (cP _).mono ?_; rintro e w2 ⟨rfl, rfl⟩) | (go_at_call 59; refine cN.mono ?_; rintro e w3 ⟨rfl, hR3, hg3⟩))
    go_ret
    exact ⟨rfl, hR3, hg3⟩
end Go.Proofs.YtbjbljfmcpidmaaGreatDoor

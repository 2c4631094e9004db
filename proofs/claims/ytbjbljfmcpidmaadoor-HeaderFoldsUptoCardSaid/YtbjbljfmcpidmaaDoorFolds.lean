/- HeaderFolds' walk. -/
import Derived.Test.YtbjbljfmcpidmaaDoorBack
namespace Go.Proofs.YtbjbljfmcpidmaaDoor
open Go.RowKit Go.Lib Go.Shelf
def foldC (x : UInt8) : UInt8 := if x = 32 then 32 else UInt8.ofNat (97 + x.toNat % 26)
theorem foldC_ne {x : UInt8} (h : x ≠ 32) : ((foldC x).toNat : Int) = 97 + (x.toNat : Int) % 26 := by
  unfold foldC
  rw [if_neg h]
  have : x.toNat % 26 < 26 := Nat.mod_lt _ (by decide)
  simp
  omega
theorem foldC_13 (x : UInt8) : foldC x ≠ 13 := by
  intro e
  by_cases h : x = 32
  · unfold foldC at e; rw [if_pos h] at e; cases e
  · have h1 := foldC_ne h
    rw [e] at h1
    have : (0 : Int) ≤ (x.toNat : Int) % 26 := by omega
    simp at h1
    omega
theorem conv_one (x : UInt8) (v : Int) (hv : v = (x.toNat : Int)) (W : World) : (convert 22 9 (.slice (some ⟨W.heap.size, 0, none⟩) 1 1)).run Tryd.prog (W.alloc (.cells #[.int .u8 v] 5)) = .ok (.string ⟨#[x]⟩) (W.alloc (.cells #[.int .u8 v] 5)) := by
  subst hv
  exact conv_bytes (some ⟨W.heap.size, 0, none⟩) [x] 1 1 _ (row_new W [cell8 x] _ _) rfl
theorem conv_one' (x : UInt8) (v : Int) (hv : v = (x.toNat : Int)) (W : World) (n : Nat) (hn : n = W.heap.size) : (convert 22 9 (.slice (some ⟨n, 0, none⟩) 1 1)).run Tryd.prog (W.alloc (.cells #[.int .u8 v] 5)) = .ok (.string ⟨#[x]⟩) (W.alloc (.cells #[.int .u8 v] 5)) := by
  subst hn
  exact conv_one x v hv W
theorem str_app (a b c : List UInt8) (h : c = a ++ b) : Value.string ((⟨a.toArray⟩ : ByteArray) ++ ⟨b.toArray⟩) = .string ⟨c.toArray⟩ := by
  subst h
  exact congrArg Value.string (by apply ByteArray.ext; simp)
theorem plain_foldT (ps : List FC) : plainT ps = foldT (ps.map fun p => (false, p.2)) := by
  induction ps with
  | nil => rfl
  | cons p ps ih => simp only [plainT, foldT, List.map_cons, List.flatMap_cons] at *; rw [ih]; rfl
theorem plain_same (ps : List FC) : plainT (ps.map fun p => (false, p.2)) = plainT ps := by simp [plainT]
/-- What the loop has made of the value's first so many bytes. -/
structure FoldAt (ps : List FC) (ln fo : List UInt8) : Prop where
  ok : ∀ p ∈ ps, okFC p
  ln : ln = longT ++ 58 :: 32 :: plainT ps
  fo : fo = longT ++ 58 :: 32 :: foldT ps
theorem FoldAt.more {ps : List FC} {ln fo : List UInt8} (h : FoldAt ps ln fo) (f : Bool) (x : UInt8) (hf : f = true → x = 32) : FoldAt (ps ++ [(f, foldC x)]) (ln ++ [foldC x]) (fo ++ (if f then [13, 10] else []) ++ [foldC x]) := by
  refine ⟨fun p hp => ?_, by rw [h.ln]; simp [plainT], by rw [h.fo]; simp [foldT]⟩
  rcases List.mem_append.1 hp with hp | hp
  · exact h.ok p hp
  · rw [List.mem_singleton.1 hp]
    exact ⟨foldC_13 x, fun e => by show foldC x = 32; rw [hf e]; rfl⟩
theorem FoldAt.hdr1 {ps : List FC} {ln fo : List UInt8} (h : FoldAt ps ln fo) : hdr (ln ++ tailT) = ([trimF1 (longT, 32 :: plainT ps)], ln.length + 4) := by
  rw [h.ln, plain_foldT, hdr_fold _ (by
    intro p hp
    obtain ⟨q, hq, rfl⟩ := List.mem_map.1 hp
    exact ⟨(h.ok q hq).1, fun e => by cases e⟩), ← plain_foldT, plain_same]
theorem FoldAt.hdr2 {ps : List FC} {ln fo : List UInt8} (h : FoldAt ps ln fo) : hdr (fo ++ tailT) = ([trimF1 (longT, 32 :: plainT ps)], fo.length + 4) := by
  rw [h.fo, hdr_fold _ h.ok]
set_option maxHeartbeats 8000000 in
set_option maxRecDepth 100000 in
theorem folds_any (v : List UInt8) (A : Option Addr) (c : Nat) (B : List Bool) (w : World) (_hv : v.length ≤ 2000000) (hB : B.length ≤ 2000000) (hr : RowIn w A (B.map Value.bool)) (hg : Gl w) :
    Calls Tryd.prog 5 #[.string ⟨v.toArray⟩, .slice A B.length c] w fun e w' => e = .returned (.bool true) ∧ Below w.heap.size w w' := by
  go_enter Tryd.func5, Tryd.ntmps5
  go_wp2_with fail
  refine (shown_any w hg).mono ?_
  rintro e w1 ⟨rfl, hb1⟩
  go_wp2
  go_loopw [6, 7, 8, 9] (fun tl tf j i wr => ∃ (k n : Nat) (ps : List FC) (ln fo : List UInt8), i = .int .i64 k ∧ j = .int .i64 n ∧ tl = .string ⟨ln.toArray⟩ ∧ tf = .string ⟨fo.toArray⟩ ∧ k ≤ v.length ∧ k ≤ 200 ∧ n ≤ k ∧ Hid (FoldAt ps ln fo) ∧ ln.length ≤ 8 + k ∧ fo.length ≤ 8 + 3 * k ∧ Below w.heap.size w wr) (fun _ _ _ i _ => v.length - (intOf i).toNat)
  case atStart => exact ⟨0, 0, [], longT ++ [58, 32], longT ++ [58, 32], rfl, rfl, rfl, rfl, Nat.zero_le _, Nat.zero_le _, Nat.le_refl _, Lib.hid ⟨by simp, rfl, rfl⟩, by decide, by decide, hb1⟩
  case round =>
    obtain ⟨k, n, ps, ln, fo, rfl, rfl, rfl, rfl, hk, hk2, hn, HF, hln, hfo, hbw⟩ := hrel
    by_cases hlt : k < v.length ∧ k < 200
    · obtain ⟨hlt, h200⟩ := hlt
      have hlt2 : (k : Int) < (v.length : Int) := by omega
      have h2002 : (k : Int) < 200 := by omega
      have hx := str_at v k hlt
      obtain ⟨x, hxx⟩ : ∃ x, v[k] = x := ⟨_, rfl⟩
      simp only [hxx] at hx
      clear hxx
      have hb2 := hbw.alloc hbw.size (.cells #[.int .u8 (x.toNat : Int)] 5)
      by_cases hx32 : x = 32
      · have b32 : ((x.toNat : Int) == 32) = true := byte_eq (n := 32) (by decide) hx32
        have b32n : ((x.toNat : Int) != 32) = false := by rw [bne, b32]; rfl
        have kc1 := conv_one' x (x.toNat : Int) rfl wr wr.heap.size rfl
        have kc2 := conv_one' x (x.toNat : Int) rfl (wr.alloc (.cells #[.int .u8 (x.toNat : Int)] 5)) (wr.heap.size + 1) (by simp)
        have HC : Hid (foldC x = x) := Lib.hid (by rw [hx32]; rfl)
        by_cases hnB : n < B.length
        · have hnB2 : (n : Int) < (B.length : Int) := by omega
          obtain ⟨b, o, rfl, hblt⟩ := hr.addr (by intro e; have h := congrArg List.length e; rw [List.length_map, List.length_nil] at h; omega)
          have hcell := (hr.below hbw).cell n (.bool B[n]) (by simp [hnB])
          have HM := Lib.hid (HF.out.more B[n] x (fun _ => hx32))
          rw [HC.out] at HM
          generalize B[n] = f at *
          clear hx32
          cases f
          · go_wp2
            go_roundw
            case rel => exact ⟨k + 1, n + 1, ps ++ [(false, x)], ln ++ [x], fo ++ [x], by go_num, by go_num, str_app ln [x] _ rfl, by first | exact str_app fo [x] _ (by simp) | (rw [show (⟨fo.toArray⟩ : ByteArray) ++ ⟨#[13, 10]⟩ = ⟨(fo ++ [13, 10]).toArray⟩ from by apply ByteArray.ext; simp]; exact str_app _ [x] _ (by simp)), by omega, by omega, by omega, Lib.hid (by have h := HM.out; simpa using h), by simp; omega, by simp; omega, (hbw.alloc hbw.size _).alloc (by have := hbw.size; simp; omega) _⟩
            case measure => simp [intOf]; omega
          · go_wp2
            go_roundw
            case rel => exact ⟨k + 1, n + 1, ps ++ [(true, x)], ln ++ [x], (fo ++ [13, 10]) ++ [x], by go_num, by go_num, str_app ln [x] _ rfl, by first | exact str_app fo [x] _ (by simp) | (rw [show (⟨fo.toArray⟩ : ByteArray) ++ ⟨#[13, 10]⟩ = ⟨(fo ++ [13, 10]).toArray⟩ from by apply ByteArray.ext; simp]; exact str_app _ [x] _ (by simp)), by omega, by omega, by omega, Lib.hid (by have h := HM.out; simpa using h), by simp; omega, by simp; omega, (hbw.alloc hbw.size _).alloc (by have := hbw.size; simp; omega) _⟩
            case measure => simp [intOf]; omega
        · have hnB2 : ¬ (n : Int) < (B.length : Int) := by omega
          have HM := Lib.hid (HF.out.more false x (fun e => by cases e))
          rw [HC.out] at HM
          clear hx32
          go_wp2
          go_roundw
          case rel => exact ⟨k + 1, n, ps ++ [(false, x)], ln ++ [x], fo ++ [x], by go_num, by go_num, str_app ln [x] _ rfl, by first | exact str_app fo [x] _ (by simp) | (rw [show (⟨fo.toArray⟩ : ByteArray) ++ ⟨#[13, 10]⟩ = ⟨(fo ++ [13, 10]).toArray⟩ from by apply ByteArray.ext; simp]; exact str_app _ [x] _ (by simp)), by omega, by omega, by omega, Lib.hid (by have h := HM.out; simpa using h), by simp; omega, by simp; omega, (hbw.alloc hbw.size _).alloc (by have := hbw.size; simp; omega) _⟩
          case measure => simp [intOf]; omega
      · have b32 : ((97 + (x.toNat : Int) % 26) == 32) = false := by rw [beq_eq_false_iff_ne]; omega
        have b32n : ((x.toNat : Int) != 32) = true := by rw [bne, show ((x.toNat : Int) == 32) = false from byte_ne (n := 32) (by decide) hx32]; rfl
        have kc1 := conv_one' (foldC x) (97 + (x.toNat : Int) % 26) (foldC_ne hx32).symm wr wr.heap.size rfl
        have kc2 := conv_one' (foldC x) (97 + (x.toNat : Int) % 26) (foldC_ne hx32).symm (wr.alloc (.cells #[.int .u8 (97 + (x.toNat : Int) % 26)] 5)) (wr.heap.size + 1) (by simp)
        have HM := Lib.hid (HF.out.more false x (fun e => by cases e))
        have hxl := x.toNat_lt
        clear hx32
        go_wp2
        go_roundw
        case rel => exact ⟨k + 1, n, ps ++ [(false, (foldC x))], ln ++ [(foldC x)], fo ++ [(foldC x)], by go_num, by go_num, str_app ln [(foldC x)] _ rfl, by first | exact str_app fo [(foldC x)] _ (by simp) | (rw [show (⟨fo.toArray⟩ : ByteArray) ++ ⟨#[13, 10]⟩ = ⟨(fo ++ [13, 10]).toArray⟩ from by apply ByteArray.ext; simp]; exact str_app _ [(foldC x)] _ (by simp)), by omega, by omega, by omega, Lib.hid (by have h := HM.out; simpa using h), by simp; omega, by simp; omega, (hbw.alloc hbw.size _).alloc (by have := hbw.size; simp; omega) _⟩
        case measure => simp [intOf]; omega
    · have hout : ((k : Int) < (v.length : Int) ∧ ¬ (k : Int) < 200) ∨ ¬ (k : Int) < (v.length : Int) := by
        by_cases h1 : k < v.length
        · exact .inl ⟨by omega, by have : ¬ k < 200 := fun h => hlt ⟨h1, h⟩; omega⟩
        · exact .inr (by omega)
      obtain ⟨T1, hT1⟩ : ∃ T1, T1 = ln ++ tailT := ⟨_, rfl⟩
      obtain ⟨T2, hT2⟩ : ∃ T2, T2 = fo ++ tailT := ⟨_, rfl⟩
      obtain ⟨F, hF⟩ : ∃ F, F = trimF1 (longT, 32 :: plainT ps) := ⟨_, rfl⟩
      have H1 : Hid (hdr T1 = ([F], ln.length + 4)) := Lib.hid (by rw [hT1, hF]; exact HF.out.hdr1)
      have H2 : Hid (hdr T2 = ([F], fo.length + 4)) := Lib.hid (by rw [hT2, hF]; exact HF.out.hdr2)
      have hl1 : T1.length ≤ 300 := by rw [hT1]; simp [tailT]; omega
      have hl2 : T2.length ≤ 700 := by rw [hT2]; simp [tailT]; omega
      have hcat1 : (⟨ln.toArray⟩ : ByteArray) ++ ⟨#[13, 10, 13, 10, 98, 111, 100, 121]⟩ = ⟨T1.toArray⟩ := by rw [hT1]; apply ByteArray.ext; simp [tailT]
      have hcat2 : (⟨fo.toArray⟩ : ByteArray) ++ ⟨#[13, 10, 13, 10, 98, 111, 100, 121]⟩ = ⟨T2.toArray⟩ := by rw [hT2]; apply ByteArray.ext; simp [tailT]
      obtain ⟨cap1, w3, hconv1, hb3, hB3, hc3, _⟩ := str_bytes T1 wr
      have hbw3 := hbw.trans (hb3.mono hbw.size)
      have cP1 := parse_any (some ⟨wr.heap.size, 0, none⟩) cap1 T1 w3 (by omega) hc3 (fun h => by cases h) hB3.rowIn (hg.below hbw3)
      clear hT1 hT2 hF
      rcases hout with ⟨o1, o2⟩ | o1
      all_goals
        go_wp2_with fail
        refine cP1.mono ?_
        rintro e w4 ⟨v4, rfl, hown4, hb4⟩
        rw [H1.out] at hown4 ⊢
        obtain ⟨A4, c4, hv4, hc4, _, hrow4, _⟩ := owns_open hown4
        subst hv4
        have hbw4 := hbw3.trans (hb4.mono hbw3.size)
        obtain ⟨cap2, w5, hconv2, hb5, hB5, hc5, _⟩ := str_bytes T2 w4
        have hbw5 := hbw4.trans (hb5.mono hbw4.size)
        have cP2 := parse_any (some ⟨w4.heap.size, 0, none⟩) cap2 T2 w5 (by omega) hc5 (fun h => by cases h) hB5.rowIn (hg.below hbw5)
        go_wp2_with fail
        refine cP2.mono ?_
        rintro e w6 ⟨v6, rfl, hown6, hb6⟩
        rw [H2.out] at hown6 ⊢
        obtain ⟨A6, c6, hv6, hc6, _, hrow6, _⟩ := owns_open hown6
        subst hv6
        have hrow46 := (hrow4.below hb5).below hb6
        obtain ⟨b1, o1', rfl, _⟩ := hrow46.addr (by simp [fcells, fcell])
        obtain ⟨b2, o2', rfl, _⟩ := hrow6.addr (by simp [fcells, fcell])
        obtain ⟨q1, q2⟩ := fcells_row hrow46 0 (by simp)
        obtain ⟨q3, q4⟩ := fcells_row hrow6 0 (by simp)
        have hbw6 := hbw5.trans (hb6.mono hbw5.size)
        obtain ⟨Fn, Fv⟩ := F
        simp only [List.getElem_cons_zero, Nat.zero_mul, Nat.add_zero] at q1 q2 q3 q4
        go_wp2
        go_region
        all_goals
          go_wp2
          go_ret
          exact ⟨rfl, hbw6.drew⟩
end Go.Proofs.YtbjbljfmcpidmaaDoor

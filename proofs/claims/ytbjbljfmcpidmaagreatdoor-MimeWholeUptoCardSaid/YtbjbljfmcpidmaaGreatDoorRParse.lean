/- The reference's Parse: the walk. -/
import Derived.Test.YtbjbljfmcpidmaaGreatDoorPure1
import Derived.Deep.DeepMust
import Derived.Deep.AppendLies
import Derived.Deep.RegionLaw
import Derived.Outline
namespace Go.Proofs.YtbjbljfmcpidmaaGreatDoor
open Go.RowKit Go.Lib Go.Shelf

theorem nameOk_blank {x : UInt8} {t : List UInt8} (h : isBl x = true) : nameOk (x :: t) = false := by
  rw [nameOk_scan]
  have e : nb x = false := by
    unfold isBl at h
    simp only [Bool.or_eq_true, beq_iff_eq] at h
    rcases h with rfl | rfl <;> decide
  have : scan (x :: t) = 0 := by unfold scan; rw [List.takeWhile_cons_of_neg (by rw [e]; simp)]; rfl
  rw [this]
  simp
theorem nb_parts {x : UInt8} (h : nb x = true) : 33 ≤ x.toNat ∧ x.toNat ≤ 126 ∧ x ≠ 58 := by
  unfold nb oddR at h
  simp at h
  exact ⟨by omega, by omega, h.2⟩
theorem nb_not {x : UInt8} (h : nb x = false) : x.toNat < 33 ∨ (33 ≤ x.toNat ∧ 126 < x.toNat) ∨ x = 58 := by
  unfold nb oddR at h
  by_cases h58 : x = 58
  · exact .inr (.inr h58)
  · by_cases h1 : x.toNat < 33
    · exact .inl h1
    · by_cases h2 : 126 < x.toNat
      · exact .inr (.inl ⟨by omega, h2⟩)
      · simp [h58, h1, h2] at h
theorem two_new_drew (w : World) (a b : Value) (t : TypeId) : ∀ j u, [a, b][j]? = some u → ((w.alloc (.cells #[a, b] t)).drew).cell? ((⟨w.heap.size, 0, none⟩ : Addr).add j) = some u := cell_two_new w a b t
theorem two_one (a b : ByteArray) : ∀ u ∈ [Value.string a, Value.string b], u.oneCell' = true := by
  intro u hu
  simp at hu
  rcases hu with rfl | rfl <;> rfl
theorem line_bytes (r : List UInt8) : ∀ (j : Nat) (h : j < (lineOf r).length), r[j]? = some (lineOf r)[j] := by
  intro j h
  have e : ∃ n, lineOf r = r.take n := by
    unfold lineOf Lib.cut
    split
    · exact ⟨_, rfl⟩
    · exact ⟨r.length, by simp⟩
  obtain ⟨n, hn⟩ := e
  have h2 : (lineOf r)[j]? = some (lineOf r)[j] := List.getElem?_eq_getElem h
  rw [← h2, hn, List.getElem?_take]
  rw [hn, List.length_take] at h
  rw [if_pos (by omega)]
theorem line_head (r ln : List UInt8) (h : lineOf r = ln) (hne : ln ≠ []) : ln.head? = r.head? := by
  subst h
  unfold lineOf Lib.cut at hne ⊢
  split
  · rename_i h0
    rw [if_pos h0] at hne
    cases hk : (Lib.index r [13, 10]).toNat with
    | zero => rw [hk] at hne; simp at hne
    | succ n => cases r <;> simp
  · rfl
/-- What the result of Parse looks like, at a row that is to be trimmed. -/
theorem pdone_of {b : List UInt8} {w0 w w' : World} {v : Value} {L : List Fld} {at_ : Nat} {e : Ending} (hres : hdrRaw b = (L, at_)) (hb : Below w0.heap.size w0 w) (h : TDone w0.heap.size v L w e w') :
    e = .returned v ∧ PDone b w0 (.returned (.tuple #[v, .int .i64 (at_ : Int)])) w' := by
  refine ⟨h.1, v, by unfold hdr; rw [hres], ?_, hb.trans h.2.2⟩
  unfold hdr
  rw [hres]
  simp only [List.length_map]
  exact h.2.1

set_option maxHeartbeats 4000000 in
set_option maxRecDepth 100000 in
theorem rparse_any (A : Option Addr) (c : Nat) (b : List UInt8) (w : World) (hb : b.length ≤ 2000000) (hc : b.length ≤ c) (hr : RowIn w A (bcells b)) :
    Calls Tryz.prog 76 #[.slice A b.length c] w (PDone b w) := by
  go_enter Tryz.func76, Tryz.ntmps76
  go_wp2
  go_loopg [4, 5, 6] (b.length + 1) (fun gk v at_v many_v wx => ∃ (at_ many : Nat) (L : List Fld), at_v = .int .i64 at_ ∧ many_v = .int .i64 many ∧ wx.ownsRow w.heap.size 67 2 v L.length (fcells L) ∧ Below w.heap.size w wx ∧
    Hid (hdrFrom gk (b.drop at_) L many at_ = hdrRaw b) ∧ at_ ≤ b.length ∧ b.length < at_ + gk ∧ Hid (L.length = min many 64) ∧ many ≤ at_ ∧ FitF L at_)
  case atStart => exact ⟨0, 0, [], rfl, rfl, World.ownsRow_nil _ _ _ _, Below.refl _ _, Lib.hid (by simp [hdrRaw]), by omega, by omega, Lib.hid (by simp), by omega, FitF.nil _⟩
  case round =>
    obtain ⟨at_, many, L, rfl, rfl, hown, hbw, HF, hat, hgk, HL, hma, hfit⟩ := hrel
    have hL64 : L.length ≤ 64 := by rw [HL.out]; omega
    have cT := trimmed_any w.heap.size u4 L wr hown hbw.size (hfit.mono (by omega)) hL64
    by_cases hend : at_ = b.length
    · subst hend
      have hres : Hid (hdrRaw b = (L, b.length)) := by
        have h := HF.out
        rw [List.drop_length, hdrFrom_nil] at h
        exact h.symm
      go_wp2_with (go_at_call 143; refine cT.mono ?_; intro e w' hd; obtain ⟨rfl, HD⟩ := pdone_of hres.out hbw hd; have HDD := Lib.hid HD; clear HD hd)
      go_ret2
      exact HDD.out
    · have hlt : at_ < b.length := by omega
      obtain ⟨bb, o, rfl, hbb⟩ := hr.addr (by intro e; simp [bcells] at e; subst e; simp at hlt)
      have hrow : RowIn wr (some ⟨bb, o, none⟩) (bcells b) := hr.below hbw
      have hne : b.drop at_ ≠ [] := fun e => by have := congrArg List.length e; simp at this; omega
      have HRL : Hid ((b.drop at_).length = b.length - at_) := by simp [Hid]
      have cLn := line_any bb o c at_ b wr hrow hb hat
      have HN := Lib.hid (line_le (b.drop at_))
      obtain ⟨ln, hln⟩ : ∃ ln, lineOf (b.drop at_) = ln := ⟨_, rfl⟩
      obtain ⟨wh, hwh⟩ : ∃ wh, wholeOf (b.drop at_) = wh := ⟨_, rfl⟩
      have HLN := Lib.hid hln
      have HWH := Lib.hid hwh
      obtain ⟨E, hE⟩ : ∃ E, at_ + (lineOf (b.drop at_)).length = E := ⟨_, rfl⟩
      obtain ⟨S, hS⟩ : ∃ S, stepOf (b.drop at_) = S := ⟨_, rfl⟩
      obtain ⟨N, hN⟩ : ∃ N, at_ + stepOf (b.drop at_) = N := ⟨_, rfl⟩
      rw [hE, hN] at cLn
      have hEl : E = at_ + ln.length := by rw [← hE, hln]
      have hSw : S = ln.length + (if wh then 2 else 0) := by rw [← hS]; unfold stepOf; rw [hln, hwh]
      have hNS : N = at_ + S := by rw [← hN, hS]
      have hNle : N ≤ b.length := by have h1 := HN.out; have h2 := HRL.out; rw [h2, hln, hwh] at h1; omega
      clear hr hend hln hwh hE hN
      have HS := Lib.hid hS
      clear hS
      have HEL := Lib.hid hEl
      have HSW := Lib.hid hSw
      have HNS := Lib.hid hNS
      clear hEl hSw hNS
      obtain ⟨k, rfl⟩ : ∃ k, gk = k + 1 := ⟨gk - 1, by omega⟩
      by_cases hA : ln = [] ∧ wh = true
      · obtain ⟨rfl, rfl⟩ := hA
        have e1 : at_ = E := by rw [HEL.out]; simp
        have e2 : at_ + 2 = N := by rw [HNS.out, HSW.out]; simp
        subst e1 e2
        have hres : Hid (hdrRaw b = (L, at_ + 2)) := by
          have h := HF.out
          unfold hdrFrom at h
          rw [if_neg hne, if_pos ⟨HLN.out, HWH.out⟩] at h
          exact h.symm
        clear hne
        go_wp2_with (first | (go_at_call 142; refine cLn.mono ?_; rintro e w' ⟨rfl, rfl⟩) | (go_at_call 143; refine cT.mono ?_; intro e w' hd; obtain ⟨rfl, HD⟩ := pdone_of hres.out hbw hd; have HDD := Lib.hid HD; clear HD hd))
        go_ret2
        exact HDD.out
      · have hlne : ln ≠ [] := fun e => by
          cases hwh : wh with
          | true => exact hA ⟨e, hwh⟩
          | false =>
            have h1 := line_whole (b.drop at_) (HWH.out.trans hwh)
            rw [HLN.out, e] at h1
            exact hne h1.symm
        obtain ⟨x, tl, hxt⟩ : ∃ x tl, ln = x :: tl := by cases ln with | nil => exact absurd rfl hlne | cons x tl => exact ⟨x, tl, rfl⟩
        have hlp : 1 ≤ ln.length := by rw [hxt]; simp
        have hEat : at_ + 1 ≤ E := by rw [HEL.out]; omega
        have hEN : E ≤ N := by rw [HEL.out, HNS.out, HSW.out]; omega
        have hz : ((E : Int) == (at_ : Int)) = false := by rw [beq_eq_false_iff_ne]; omega
        have hcx : wr.cell? ⟨bb, o + at_, none⟩ = some (.int .u8 (x.toNat : Int)) := by
          have h := byteRow hrow at_ hlt
          have h2 := line_head (b.drop at_) ln HLN.out hlne
          rw [hxt, List.drop_eq_getElem_cons hlt, List.head?_cons, List.head?_cons, Option.some.injEq] at h2
          rw [h2]
          exact h
        have cB := blank_any x
        have HX := Lib.hid hxt
        clear hA hxt
        by_cases hbl : isBl x = true
        · rw [hbl] at cB
          by_cases hm0 : many = 0
          · have hz2 : ((many : Int) == 0) = true := by rw [beq_iff_eq]; omega
            have hres : Hid (hdrRaw b = (L, at_)) := hdr_stop HF.out hlt HLN.out hlne (by omega) (by rw [HX.out]; exact nameOk_blank hbl)
            clear hne hlne hm0
            go_wp2_with (first | (go_at_call 142; refine cLn.mono ?_; rintro e w' ⟨rfl, rfl⟩) | (go_at_call 144; refine (cB _).mono ?_; rintro e w' ⟨rfl, rfl⟩) | (go_at_call 143; refine cT.mono ?_; intro e w' hd; obtain ⟨rfl, HD⟩ := pdone_of hres.out hbw hd; have HDD := Lib.hid HD; clear HD hd))
            go_ret2
            exact HDD.out
          · have hz2 : ((many : Int) == 0) = false := by rw [beq_eq_false_iff_ne]; omega
            have HF2 := Lib.hid (hdr_blank HF.out hlt HLN.out hlne (by omega) (by rw [HX.out]; exact hbl) HS.out)
            rw [← HNS.out] at HF2
            have hL1 : 1 ≤ L.length := by rw [HL.out]; omega
            obtain ⟨g, cap, rfl⟩ : ∃ g cap, u4 = .slice (some ⟨g, 0, none⟩) L.length cap := by
              rcases hown.2 with ⟨_, h⟩ | ⟨g, cap, _, h, _⟩
              · omega
              · exact ⟨g, cap, h⟩
            clear hne hlne cT
            by_cases hm64 : many ≤ 64
            · have hm2 : (many : Int) ≤ 64 := by omega
              have hLm : L.length = many := by rw [HL.out]; omega
              have HLM := Lib.hid hLm
              clear hLm
              obtain ⟨m1, rfl⟩ : ∃ m1, many = m1 + 1 := ⟨many - 1, by omega⟩
              have wq : IntKind.i64.wrap (m1 : Int) = (m1 : Int) := IntWalk.i64_in _ (by omega)
              have hm1L : (m1 : Int) < (L.length : Int) := by rw [HLM.out]; omega
              have hm1n : m1 < L.length := by rw [HLM.out]; omega
              have hvl : (L[m1]'hm1n).2.length ≤ at_ := by have := hfit _ (List.getElem_mem hm1n); omega
              generalize hval : (L[m1]'hm1n).2 = val at *
              have HV := Lib.hid hval
              clear hval
              have hlnN : ln.length ≤ 2000000 := by have := HEL.out; omega
              have hcat : ¬ 9223372036854775807 < val.length + ln.length := by omega
              have hcell4 : wr.cell? ⟨g, m1 * 2 + 1, none⟩ = some (.string ⟨val.toArray⟩) := by
                rw [hown.cellAt (m1 * 2 + 1) (by omega), Nat.mul_comm, ← HV.out]
                exact (fcells_get L m1 hm1n).2
              have hfr4 := hown.frozenAt (m1 * 2 + 1)
              have hcv4 := conv_bytes (some ⟨bb, o + at_, none⟩) ln (E - at_) (c - at_) wr.drew (by
                have h := lineIn (show RowIn wr.drew (some ⟨bb, o + at_, none⟩) (bcells (b.drop at_)) from by
                  have h := (hrow.below ((Below.refl _ _).drew)).drop at_
                  rwa [show (bcells b).drop at_ = bcells (b.drop at_) by simp [bcells]] at h)
                rwa [HLN.out] at h) (by have := HEL.out; omega)
              go_wp2_with (first | (go_at_call 142; refine cLn.mono ?_; rintro e w' ⟨rfl, rfl⟩) | (go_at_call 144; refine (cB _).mono ?_; rintro e w' ⟨rfl, rfl⟩))
              have hEc : E ≤ c := by omega
              have haE : at_ ≤ E := by omega
              have hca : ¬ c = at_ := by omega
              go_region
              all_goals
                go_wp2_with fail
                go_roundg k
                case measure => omega
                case rel =>
                  refine ⟨N, m1 + 1, addVal L m1 ln, rfl, rfl, ?_, hbw.drew.setCell (hown.lt g rfl).1 _, ?_, hNle, by omega, ?_, by omega, ?_⟩
                  · have h := ((hown.drew).stored (m1 * 2 + 1) (.string ⟨(val ++ ln).toArray⟩)).1
                    rw [bytes_append, addVal_length, addVal_set L m1 hm1n ln, ← fcells_set L m1 hm1n, HV.out, Nat.mul_comm 2]
                    exact h
                  · have h := HF2.out
                    rw [if_pos hm64] at h
                    exact h
                  · unfold Hid
                    rw [addVal_length]
                    exact HL.out
                  · have := HEL.out
                    exact hfit.add m1 ln (by omega)
            · have hm2 : ¬ (many : Int) ≤ 64 := by omega
              go_wp2_with (first | (go_at_call 142; refine cLn.mono ?_; rintro e w' ⟨rfl, rfl⟩) | (go_at_call 144; refine (cB _).mono ?_; rintro e w' ⟨rfl, rfl⟩))
              go_roundg k
              case measure => omega
              case rel =>
                refine ⟨N, many, L, rfl, rfl, hown, hbw, ?_, hNle, by omega, HL, by omega, hfit.mono (by omega)⟩
                have h := HF2.out
                rw [if_neg hm64] at h
                exact h
        · rw [show isBl x = false by simpa using hbl] at cB
          have hB' : ¬ (0 < many ∧ headBl ln = true) := by rw [HX.out]; exact fun h => hbl h.2
          have hlnr := line_bytes (b.drop at_)
          rw [HLN.out] at hlnr
          obtain ⟨K, hK⟩ : ∃ K, at_ + scan ln = K := ⟨_, rfl⟩
          have hKE : K ≤ E := by have := scan_le ln; rw [HEL.out]; omega
          have hKat : at_ ≤ K := by omega
          have hbyte : ∀ j, at_ ≤ j → j < E → ∃ y, ln[j - at_]? = some y ∧ wr.cell? ⟨bb, o + j, none⟩ = some (.int .u8 (y.toNat : Int)) := fun j h1 h2 => by
            have hj : j - at_ < ln.length := by rw [HEL.out] at h2; omega
            refine ⟨ln[j - at_], by simp [hj], ?_⟩
            have h3 := hlnr (j - at_) hj
            rw [List.getElem?_drop, show at_ + (j - at_) = j from by omega] at h3
            have hjb : j < b.length := by omega
            have h4 := byteRow hrow j hjb
            rw [List.getElem?_eq_getElem hjb, Option.some.injEq] at h3
            rw [← h3]
            exact h4
          have hround : ∀ j, at_ ≤ j → j < K → ∃ y : UInt8, wr.cell? ⟨bb, o + j, none⟩ = some (.int .u8 (y.toNat : Int)) ∧ 33 ≤ y.toNat ∧ y.toNat ≤ 126 ∧ y ≠ 58 := fun j h1 h2 => by
            obtain ⟨y, hy, hcy⟩ := hbyte j h1 (by omega)
            refine ⟨y, hcy, ?_⟩
            obtain ⟨hj, rfl⟩ := List.getElem?_eq_some_iff.1 hy
            refine nb_parts ?_
            cases hn : nb ln[j - at_] with
            | true => rfl
            | false => have := (scan_stop ln (j - at_) hj (by omega)).2 hn; omega
          have hstopc : K = E ∨ (K < E ∧ ∃ z : UInt8, ln[scan ln]? = some z ∧ wr.cell? ⟨bb, o + K, none⟩ = some (.int .u8 (z.toNat : Int)) ∧ nb z = false) := by
            rcases Nat.lt_or_ge K E with h | h
            · obtain ⟨z, hz1, hz2⟩ := hbyte K hKat h
              refine .inr ⟨h, z, by rw [← hz1]; congr 1; omega, hz2, ?_⟩
              obtain ⟨hj, rfl⟩ := List.getElem?_eq_some_iff.1 hz1
              cases hn : nb ln[K - at_] with
              | false => rfl
              | true => have := (scan_stop ln (K - at_) hj (by omega)).1 hn; omega
            · exact .inl (by omega)
          have hnm := nameOk_scan ln
          have HKK := Lib.hid hK
          clear hK hlnr hbyte
          by_cases hname : nameOk ln = true
          · have HF2 := Lib.hid (hdr_field HF.out hlt HLN.out hlne hB' hname HS.out)
            rw [← HNS.out] at HF2
            rw [hname] at hnm
            have hsc : 0 < scan ln ∧ ln[scan ln]? = some 58 := by simpa using hnm.symm
            have hfs := fld_scan ln hsc.2
            obtain ⟨h1, h2, z, hz, hcz⟩ : at_ < K ∧ K < E ∧ ∃ z : UInt8, wr.cell? ⟨bb, o + K, none⟩ = some (.int .u8 (z.toNat : Int)) ∧ z = 58 := by
              have h3 := (List.getElem?_eq_some_iff.1 hsc.2).1
              have h4 := HKK.out
              have h5 := HEL.out
              refine ⟨by omega, by omega, ?_⟩
              rcases hstopc with h | ⟨h, z, hz1, hz2, hz3⟩
              · omega
              · rw [hsc.2, Option.some.injEq] at hz1
                exact ⟨z, hz2, hz1.symm⟩
            have HFS := Lib.hid hfs
            have hfl := fld_le ln
            have HFL := Lib.hid hfl
            clear hstopc hnm hB' hne hlp hname hsc hfs HF cT hfl
            have e1 : ((K : Int) == (at_ : Int)) = false := by rw [beq_eq_false_iff_ne]; omega
            have e2 : ((K : Int) == (E : Int)) = false := by rw [beq_eq_false_iff_ne]; omega
            obtain ⟨i0, hi, iz0, iz1, iz2⟩ := info_parts info28
            rcases Decidable.em (many + 1 ≤ 64) with hm64 | hm64
            · have hm2 : (many : Int) + 1 ≤ 64 := by omega
              go_wp2_with (first | (go_at_call 142; refine cLn.mono ?_; rintro e w' ⟨rfl, rfl⟩) | (go_at_call 144; refine (cB _).mono ?_; rintro e w' ⟨rfl, rfl⟩))
              go_loop [9] (fun i => ∃ j : Nat, i = .int .i64 j ∧ at_ ≤ j ∧ j ≤ K) (fun i => K - (intOf i).toNat)
              case atStart => exact ⟨at_, rfl, Nat.le_refl _, hKat⟩
              case round =>
                obtain ⟨j, rfl, hj1, hj2⟩ := hrel
                by_cases hjK : j < K
                · obtain ⟨y, hcy, y1, y2, y3⟩ := hround j hj1 hjK
                  have z1 : (j : Int) < (E : Int) := by omega
                  have z2 : 33 ≤ (y.toNat : Int) := by omega
                  have z3 : (y.toNat : Int) ≤ 126 := by omega
                  have z4 : ((y.toNat : Int) == 58) = false := byte_ne (n := 58) (by decide) y3
                  clear y1 y2 y3 hround
                  go_wp2
                  go_round
                  case rel => exact ⟨j + 1, by go_num, by omega, by omega⟩
                  case measure => simp [intOf]; omega
                · obtain rfl : j = K := by omega
                  have z1 : (j : Int) < (E : Int) := by omega
                  have z2 : 33 ≤ (z.toNat : Int) := by rw [hcz]; decide
                  have z3 : (z.toNat : Int) ≤ 126 := by rw [hcz]; decide
                  have z4 : ((z.toNat : Int) == 58) = true := byte_eq (n := 58) (by decide) hcz
                  have hKc : j ≤ c := by omega
                  have hEc : E ≤ c := by omega
                  have hK1 : j + 1 ≤ E := by omega
                  have hca : ¬ c = at_ := by omega
                  obtain ⟨A2, hA2⟩ : ∃ A2 : Option Addr, (if c = j + 1 then some ⟨bb, o, none⟩ else some ⟨bb, o + (j + 1), none⟩) = A2 := ⟨_, rfl⟩
                  have hlw : ∀ n, RowIn wr.drew (some ⟨bb, o + n, none⟩) (bcells (b.drop n)) := fun n => by
                    have h := (hrow.below ((Below.refl _ _).drew)).drop n
                    rwa [show (bcells b).drop n = bcells (b.drop n) by simp [bcells]] at h
                  have hfn : (fldOf ln).1 = ln.take (j - at_) ∧ (fldOf ln).2 = ln.drop (j + 1 - at_) := by
                    rw [HFS.out]
                    have h := HKK.out
                    exact ⟨by rw [show scan ln = j - at_ from by omega], by rw [show scan ln + 1 = j + 1 - at_ from by omega]⟩
                  have hr1 : RowIn wr.drew (some ⟨bb, o + at_, none⟩) (bcells (fldOf ln).1) := by
                    have h := lineIn (hlw at_)
                    rw [HLN.out] at h
                    have h2 := h.take (j - at_)
                    rw [show (bcells ln).take (j - at_) = bcells (ln.take (j - at_)) by simp [bcells], ← hfn.1] at h2
                    exact h2
                  have hr2 : RowIn wr.drew A2 (bcells (fldOf ln).2) := by
                    rw [← hA2]
                    split
                    · have h : (fldOf ln).2 = [] := by rw [hfn.2]; have := HEL.out; exact List.drop_of_length_le (by omega)
                      rw [h]
                      exact RowIn.nil _ _
                    · have h := lineIn (hlw at_)
                      rw [HLN.out] at h
                      have h2 := h.drop (j + 1 - at_)
                      rw [show (bcells ln).drop (j + 1 - at_) = bcells (ln.drop (j + 1 - at_)) by simp [bcells], ← hfn.2, show o + at_ + (j + 1 - at_) = o + (j + 1) from by omega] at h2
                      exact h2
                  have hcv1 := conv_bytes _ _ (j - at_) (c - at_) wr.drew hr1 (by rw [hfn.1]; have := HEL.out; simp; omega)
                  have hcv2 := conv_bytes _ _ (E - (j + 1)) (c - (j + 1)) wr.drew hr2 (by rw [hfn.2]; have := HEL.out; simp; omega)
                  clear hround hcz hr1 hr2 hlw hfn
                  have HFV := Lib.hid (show (fldOf ln) = ((fldOf ln).1, (fldOf ln).2) from rfl)
                  generalize (fldOf ln).1 = nm at *
                  generalize (fldOf ln).2 = vl at *
                  have hsz5 := hbw.size
                  have hL5 : L.length + 1 ≤ maxLen := by unfold maxLen; omega
                  have hL6 : (L.length + 1) * 32 ≤ 140737488355328 := by omega
                  have hj0 : (0 : Int) ≤ (j : Int) + 1 := by omega
                  have hjE : (j : Int) + 1 ≤ (E : Int) := by omega
                  have wq2 : ((j : Int) + 1).toNat = j + 1 := by omega
                  have wq1 : IntKind.i64.wrap ((j : Int) + 1) = (j : Int) + 1 := IntWalk.i64_in _ (by omega)
                  go_wp2_with fail
                  go_region_law (refine step_append_lies _ rfl (Operand.tmp 111) (Operand.tmp 124) 61 rfl w.heap.size 67 i0 (.agg #[.string ⟨#[]⟩, .string ⟨#[]⟩]) 2 32 Tryz.underlying61 hi iz0 iz1 iz2 rfl (by decide) _ _ _ rfl ((hown.alloc _).drew) ⟨wr.heap.size, 0, none⟩ 1 1 [.string ⟨nm.toArray⟩, .string ⟨vl.toArray⟩] rfl rfl (two_new_drew _ _ _ _) (two_one _ _) (by decide) hL5 hL6 (Nat.le_trans hsz5 (by simp)) _ rfl ?_; intro g5 cap5 w5 hown5 hg5 _ _)
                  all_goals
                    clear wq1 wq2
                    have hb5 : Below w.heap.size w w5 := ((hbw.alloc hbw.size _).drew).grown hg5 (by have := hbw.size; simp; omega) (fun k hk => (hown.lt k hk).1)
                    go_wp2_with fail
                    go_roundg k
                    case measure => omega
                    case rel =>
                      refine ⟨N, many + 1, L ++ [(nm, vl)], rfl, by go_num, ?_, hb5, ?_, hNle, by omega, ?_, by omega, ?_⟩
                      · rw [fcells_append, List.length_append]
                        exact hown5
                      · have h := HF2.out
                        rw [if_pos hm64, HFV.out] at h
                        exact h
                      · unfold Hid
                        rw [List.length_append, HL.out]
                        simp
                        omega
                      · exact hfit.snoc _ (by have := HFL.out; have := HEL.out; dsimp only; omega) (by omega)
            · have hm2 : ¬ (many : Int) + 1 ≤ 64 := by omega
              go_wp2_with (first | (go_at_call 142; refine cLn.mono ?_; rintro e w' ⟨rfl, rfl⟩) | (go_at_call 144; refine (cB _).mono ?_; rintro e w' ⟨rfl, rfl⟩))
              go_loop [9] (fun i => ∃ j : Nat, i = .int .i64 j ∧ at_ ≤ j ∧ j ≤ K) (fun i => K - (intOf i).toNat)
              case atStart => exact ⟨at_, rfl, Nat.le_refl _, hKat⟩
              case round =>
                obtain ⟨j, rfl, hj1, hj2⟩ := hrel
                by_cases hjK : j < K
                · obtain ⟨y, hcy, y1, y2, y3⟩ := hround j hj1 hjK
                  have z1 : (j : Int) < (E : Int) := by omega
                  have z2 : 33 ≤ (y.toNat : Int) := by omega
                  have z3 : (y.toNat : Int) ≤ 126 := by omega
                  have z4 : ((y.toNat : Int) == 58) = false := byte_ne (n := 58) (by decide) y3
                  clear y1 y2 y3 hround
                  go_wp2
                  go_round
                  case rel => exact ⟨j + 1, by go_num, by omega, by omega⟩
                  case measure => simp [intOf]; omega
                · obtain rfl : j = K := by omega
                  have z1 : (j : Int) < (E : Int) := by omega
                  have z2 : 33 ≤ (z.toNat : Int) := by rw [hcz]; decide
                  have z3 : (z.toNat : Int) ≤ 126 := by rw [hcz]; decide
                  have z4 : ((z.toNat : Int) == 58) = true := byte_eq (n := 58) (by decide) hcz
                  clear hround hcz
                  go_wp2_with fail
                  go_roundg k
                  case measure => omega
                  case rel =>
                    refine ⟨N, many + 1, L, rfl, by go_num, hown, hbw, ?_, hNle, by omega, ?_, by omega, hfit.mono (by omega)⟩
                    · have h := HF2.out
                      rw [if_neg hm64] at h
                      exact h
                    · unfold Hid
                      have := HL.out
                      omega
          · have hnf : nameOk ln = false := by simpa using hname
            have hres : Hid (hdrRaw b = (L, at_)) := hdr_stop HF.out hlt HLN.out hlne hB' hnf
            have hcases : (K = at_ ∧ K < E ∧ ∃ z : UInt8, wr.cell? ⟨bb, o + K, none⟩ = some (.int .u8 (z.toNat : Int)) ∧ nb z = false) ∨ (at_ < K ∧ K = E) ∨ (at_ < K ∧ K < E ∧ ∃ z : UInt8, wr.cell? ⟨bb, o + K, none⟩ = some (.int .u8 (z.toNat : Int)) ∧ nb z = false ∧ z ≠ 58) := by
              rcases hstopc with h | ⟨h, z, hz1, hz2, hz3⟩
              · exact .inr (.inl ⟨by omega, h⟩)
              · rcases Nat.lt_or_ge at_ K with h2 | h2
                · refine .inr (.inr ⟨h2, h, z, hz2, hz3, fun e => ?_⟩)
                  rw [hz1, e] at hnm
                  have : 0 < scan ln := by have := HKK.out; omega
                  simp [this] at hnm
                  exact hname hnm
                · exact .inl ⟨by omega, h, z, hz2, hz3⟩
            clear hstopc hname hnf hnm hB' hne hlne hlp hfit HF
            rcases hcases with ⟨h1, h2, z, hz, hn⟩ | ⟨h1, h2⟩ | ⟨h1, h2, z, hz, hn, h58⟩
            · obtain rfl : at_ = K := h1.symm
              rcases nb_not hn with hcz | ⟨hcz2, hcz⟩ | hcz
              · clear hn
                go_wp2_with (first | (go_at_call 142; refine cLn.mono ?_; rintro e w' ⟨rfl, rfl⟩) | (go_at_call 144; refine (cB _).mono ?_; rintro e w' ⟨rfl, rfl⟩))
                go_loop [9] (fun i => ∃ j : Nat, i = .int .i64 j ∧ at_ ≤ j ∧ j ≤ at_) (fun i => at_ - (intOf i).toNat)
                case atStart => exact ⟨at_, rfl, Nat.le_refl _, hKat⟩
                case round =>
                  obtain ⟨j, rfl, hj1, hj2⟩ := hrel
                  by_cases hjK : j < at_
                  · exfalso; omega
                  · obtain rfl : j = at_ := by omega
                    have z1 : (j : Int) < (E : Int) := by omega
                    have z2 : ¬ 33 ≤ (z.toNat : Int) := by omega
                    clear hround hcz hcx
                    go_wp2_with (go_at_call 143; refine cT.mono ?_; intro e w' hd; obtain ⟨rfl, HD⟩ := pdone_of hres.out hbw hd; have HDD := Lib.hid HD; clear HD hd)
                    go_ret2
                    exact HDD.out
              · clear hn
                go_wp2_with (first | (go_at_call 142; refine cLn.mono ?_; rintro e w' ⟨rfl, rfl⟩) | (go_at_call 144; refine (cB _).mono ?_; rintro e w' ⟨rfl, rfl⟩))
                go_loop [9] (fun i => ∃ j : Nat, i = .int .i64 j ∧ at_ ≤ j ∧ j ≤ at_) (fun i => at_ - (intOf i).toNat)
                case atStart => exact ⟨at_, rfl, Nat.le_refl _, hKat⟩
                case round =>
                  obtain ⟨j, rfl, hj1, hj2⟩ := hrel
                  by_cases hjK : j < at_
                  · exfalso; omega
                  · obtain rfl : j = at_ := by omega
                    have z1 : (j : Int) < (E : Int) := by omega
                    have z2 : 33 ≤ (z.toNat : Int) := by omega
                    have z3 : ¬ (z.toNat : Int) ≤ 126 := by omega
                    clear hround hcz hcz2 hcx
                    go_wp2_with (go_at_call 143; refine cT.mono ?_; intro e w' hd; obtain ⟨rfl, HD⟩ := pdone_of hres.out hbw hd; have HDD := Lib.hid HD; clear HD hd)
                    go_ret2
                    exact HDD.out
              · clear hn
                go_wp2_with (first | (go_at_call 142; refine cLn.mono ?_; rintro e w' ⟨rfl, rfl⟩) | (go_at_call 144; refine (cB _).mono ?_; rintro e w' ⟨rfl, rfl⟩))
                go_loop [9] (fun i => ∃ j : Nat, i = .int .i64 j ∧ at_ ≤ j ∧ j ≤ at_) (fun i => at_ - (intOf i).toNat)
                case atStart => exact ⟨at_, rfl, Nat.le_refl _, hKat⟩
                case round =>
                  obtain ⟨j, rfl, hj1, hj2⟩ := hrel
                  by_cases hjK : j < at_
                  · exfalso; omega
                  · obtain rfl : j = at_ := by omega
                    have z1 : (j : Int) < (E : Int) := by omega
                    have z2 : 33 ≤ (z.toNat : Int) := by rw [hcz]; decide
                    have z3 : (z.toNat : Int) ≤ 126 := by rw [hcz]; decide
                    have z4 : ((z.toNat : Int) == 58) = true := byte_eq (n := 58) (by decide) hcz
                    clear hround hcz hcx
                    go_wp2_with (go_at_call 143; refine cT.mono ?_; intro e w' hd; obtain ⟨rfl, HD⟩ := pdone_of hres.out hbw hd; have HDD := Lib.hid HD; clear HD hd)
                    go_ret2
                    exact HDD.out
            · have e1 : ((K : Int) == (at_ : Int)) = false := by rw [beq_eq_false_iff_ne]; omega
              have e2 : ((K : Int) == (E : Int)) = true := by rw [beq_iff_eq]; omega
              have e3 : ¬ (K : Int) < (E : Int) := by omega
              go_wp2_with (first | (go_at_call 142; refine cLn.mono ?_; rintro e w' ⟨rfl, rfl⟩) | (go_at_call 144; refine (cB _).mono ?_; rintro e w' ⟨rfl, rfl⟩))
              go_loop [9] (fun i => ∃ j : Nat, i = .int .i64 j ∧ at_ ≤ j ∧ j ≤ K) (fun i => K - (intOf i).toNat)
              case atStart => exact ⟨at_, rfl, Nat.le_refl _, hKat⟩
              case round =>
                obtain ⟨j, rfl, hj1, hj2⟩ := hrel
                by_cases hjK : j < K
                · obtain ⟨y, hcy, y1, y2, y3⟩ := hround j hj1 hjK
                  have z1 : (j : Int) < (E : Int) := by omega
                  have z2 : 33 ≤ (y.toNat : Int) := by omega
                  have z3 : (y.toNat : Int) ≤ 126 := by omega
                  have z4 : ((y.toNat : Int) == 58) = false := byte_ne (n := 58) (by decide) y3
                  clear y1 y2 y3 hround
                  go_wp2
                  go_round
                  case rel => exact ⟨j + 1, by go_num, by omega, by omega⟩
                  case measure => simp [intOf]; omega
                · obtain rfl : j = K := by omega
                  clear hround
                  go_wp2_with (go_at_call 143; refine cT.mono ?_; intro e w' hd; obtain ⟨rfl, HD⟩ := pdone_of hres.out hbw hd; have HDD := Lib.hid HD; clear HD hd)
                  go_ret2
                  exact HDD.out
            · have e1 : ((K : Int) == (at_ : Int)) = false := by rw [beq_eq_false_iff_ne]; omega
              have e2 : ((K : Int) == (E : Int)) = false := by rw [beq_eq_false_iff_ne]; omega
              have e3 : ((z.toNat : Int) == 58) = false := byte_ne (n := 58) (by decide) h58
              rcases nb_not hn with hcz | ⟨hcz2, hcz⟩ | hcz
              · clear hn h58
                go_wp2_with (first | (go_at_call 142; refine cLn.mono ?_; rintro e w' ⟨rfl, rfl⟩) | (go_at_call 144; refine (cB _).mono ?_; rintro e w' ⟨rfl, rfl⟩))
                go_loop [9] (fun i => ∃ j : Nat, i = .int .i64 j ∧ at_ ≤ j ∧ j ≤ K) (fun i => K - (intOf i).toNat)
                case atStart => exact ⟨at_, rfl, Nat.le_refl _, hKat⟩
                case round =>
                  obtain ⟨j, rfl, hj1, hj2⟩ := hrel
                  by_cases hjK : j < K
                  · obtain ⟨y, hcy, y1, y2, y3⟩ := hround j hj1 hjK
                    have z1 : (j : Int) < (E : Int) := by omega
                    have z2 : 33 ≤ (y.toNat : Int) := by omega
                    have z3 : (y.toNat : Int) ≤ 126 := by omega
                    have z4 : ((y.toNat : Int) == 58) = false := byte_ne (n := 58) (by decide) y3
                    clear y1 y2 y3 hround
                    go_wp2
                    go_round
                    case rel => exact ⟨j + 1, by go_num, by omega, by omega⟩
                    case measure => simp [intOf]; omega
                  · obtain rfl : j = K := by omega
                    have z1 : (j : Int) < (E : Int) := by omega
                    have z2 : ¬ 33 ≤ (z.toNat : Int) := by omega
                    clear hround hcz
                    go_wp2_with (go_at_call 143; refine cT.mono ?_; intro e w' hd; obtain ⟨rfl, HD⟩ := pdone_of hres.out hbw hd; have HDD := Lib.hid HD; clear HD hd)
                    go_ret2
                    exact HDD.out
              · clear hn h58
                go_wp2_with (first | (go_at_call 142; refine cLn.mono ?_; rintro e w' ⟨rfl, rfl⟩) | (go_at_call 144; refine (cB _).mono ?_; rintro e w' ⟨rfl, rfl⟩))
                go_loop [9] (fun i => ∃ j : Nat, i = .int .i64 j ∧ at_ ≤ j ∧ j ≤ K) (fun i => K - (intOf i).toNat)
                case atStart => exact ⟨at_, rfl, Nat.le_refl _, hKat⟩
                case round =>
                  obtain ⟨j, rfl, hj1, hj2⟩ := hrel
                  by_cases hjK : j < K
                  · obtain ⟨y, hcy, y1, y2, y3⟩ := hround j hj1 hjK
                    have z1 : (j : Int) < (E : Int) := by omega
                    have z2 : 33 ≤ (y.toNat : Int) := by omega
                    have z3 : (y.toNat : Int) ≤ 126 := by omega
                    have z4 : ((y.toNat : Int) == 58) = false := byte_ne (n := 58) (by decide) y3
                    clear y1 y2 y3 hround
                    go_wp2
                    go_round
                    case rel => exact ⟨j + 1, by go_num, by omega, by omega⟩
                    case measure => simp [intOf]; omega
                  · obtain rfl : j = K := by omega
                    have z1 : (j : Int) < (E : Int) := by omega
                    have z2 : 33 ≤ (z.toNat : Int) := by omega
                    have z3 : ¬ (z.toNat : Int) ≤ 126 := by omega
                    clear hround hcz hcz2
                    go_wp2_with (go_at_call 143; refine cT.mono ?_; intro e w' hd; obtain ⟨rfl, HD⟩ := pdone_of hres.out hbw hd; have HDD := Lib.hid HD; clear HD hd)
                    go_ret2
                    exact HDD.out
              · exact absurd hcz h58
end Go.Proofs.YtbjbljfmcpidmaaGreatDoor

/- good: may a field be written in one line. -/
import Derived.Test.YtbjbljfmcpidmaaDoorBackP
namespace Go.Proofs.YtbjbljfmcpidmaaDoor
open Go.RowKit Go.Lib Go.Shelf
def goodVB (v : List UInt8) : Bool := (List.range v.length).all fun i => !badAt v i
def goodFB (f : Fld) : Bool := f.1.all nb && goodVB f.2 && !f.1.isEmpty
theorem goodVB_iff (v : List UInt8) : goodVB v = true ↔ goodV v := by
  unfold goodVB goodV
  simp
theorem goodFB_iff (f : Fld) : goodFB f = true ↔ goodF f := by
  unfold goodFB goodF
  rw [Bool.and_eq_true, Bool.and_eq_true, goodVB_iff]
  simp [and_assoc]
theorem good_n {f : Fld} {k : Nat} (h : k < f.1.length) (hx : nb f.1[k] = false) : goodFB f = false := by
  unfold goodFB
  have : f.1.all nb = false := by
    rw [List.all_eq_false]
    exact ⟨_, List.getElem_mem h, by rw [hx]; simp⟩
  rw [this]
  rfl
theorem good_v {f : Fld} {k : Nat} (h : k < f.2.length) (hx : badAt f.2 k = true) : goodFB f = false := by
  unfold goodFB
  have : goodVB f.2 = false := by
    unfold goodVB
    rw [List.all_eq_false]
    exact ⟨k, List.mem_range.2 h, by rw [hx]; simp⟩
  rw [this]
  simp
theorem nb_no {x : UInt8} (h : nb x = false) : ((x.toNat : Int) < 33) ∨ (¬ (x.toNat : Int) < 33 ∧ 126 < (x.toNat : Int)) ∨ (¬ (x.toNat : Int) < 33 ∧ ¬ 126 < (x.toNat : Int) ∧ ((x.toNat : Int) == 58) = true) := by
  by_cases h1 : (x.toNat : Int) < 33
  · exact .inl h1
  by_cases h2 : 126 < (x.toNat : Int)
  · exact .inr (.inl ⟨h1, h2⟩)
  refine .inr (.inr ⟨h1, h2, ?_⟩)
  unfold nb oddR at h
  have a1 : ¬ x.toNat < 33 := by omega
  have a2 : ¬ 126 < x.toNat := by omega
  simp [a1, a2] at h
  rw [h]
  rfl
theorem nb_yes {x : UInt8} (h : nb x = true) : ¬ (x.toNat : Int) < 33 ∧ ¬ 126 < (x.toNat : Int) ∧ ((x.toNat : Int) == 58) = false := by
  unfold nb oddR at h
  simp at h
  refine ⟨by omega, by omega, byte_ne (n := 58) (by decide) (by simpa using h.2)⟩
theorem str_at (l : List UInt8) (k : Nat) (_h0 : k < l.length) : ∀ h : k < (⟨l.toArray⟩ : ByteArray).size, (⟨l.toArray⟩ : ByteArray)[k]'h = l[k] := fun h => by
  show l.toArray[k] = _
  simp
theorem badAt_eq {v : List UInt8} {k : Nat} (h : k < v.length) : badAt v k = (v[k] == 13 || v[k] == 10 || (decide (k = 0) || decide (k + 1 = v.length)) && isBl v[k]) := by
  unfold badAt
  rw [List.getElem?_eq_getElem h]

set_option maxHeartbeats 4000000 in
theorem good_any (f : Fld) (w : World) (hn : f.1.length ≤ 4000000) (hv : f.2.length ≤ 4000000) :
    Calls Tryd.prog 10 #[.agg #[.string ⟨f.1.toArray⟩, .string ⟨f.2.toArray⟩]] w fun e w' => e = .returned (.bool (goodFB f)) ∧ Below w.heap.size w w' := by
  have HG : Hid (∀ k (h : k < f.1.length), nb f.1[k] = false → goodFB f = false) := Lib.hid fun k h hx => good_n h hx
  have HV : Hid (∀ k (h : k < f.2.length), badAt f.2 k = true → goodFB f = false) := Lib.hid fun k h hx => good_v h hx
  have HB : Hid (f.1.all nb = true → (∀ k, k < f.2.length → badAt f.2 k = false) → goodFB f = !f.1.isEmpty) := Lib.hid fun h1 h2 => by
    unfold goodFB
    rw [h1, (goodVB_iff f.2).2 h2]
    simp
  generalize goodFB f = res at *
  obtain ⟨n, v⟩ := f
  dsimp only at *
  go_enter Tryd.func10, Tryd.ntmps10
  go_wp2
  go_loop [3] (fun i => ∃ k : Nat, i = .int .i64 k ∧ k ≤ n.length ∧ Hid ((n.take k).all nb = true)) (fun i => n.length - (intOf i).toNat)
  case atStart => exact ⟨0, rfl, Nat.zero_le _, Lib.hid rfl⟩
  case round =>
    obtain ⟨k, rfl, hk, HA⟩ := hrel
    by_cases hlt : k < n.length
    · have hlt2 : (k : Int) < (n.length : Int) := by omega
      have hx := str_at n k hlt
      have HT : Hid (n.take (k + 1) = n.take k ++ [n[k]]) := Lib.hid (List.take_succ_eq_append_getElem hlt)
      have HG1 : Hid (nb n[k] = false → res = false) := Lib.hid (HG.out k hlt)
      obtain ⟨x, hxx⟩ : ∃ x, n[k] = x := ⟨_, rfl⟩
      rw [hxx] at HT HG1
      simp only [hxx] at hx
      clear hxx
      cases hb : nb x with
      | true =>
        obtain ⟨g1, g2, g3⟩ := nb_yes hb
        have HA2 : Hid ((n.take (k + 1)).all nb = true) := Lib.hid (by rw [HT.out, List.all_append, HA.out]; simp [hb])
        clear hb
        go_wp2
        go_round
        case rel => exact ⟨k + 1, by go_num, by omega, HA2⟩
        case measure => simp [intOf]; omega
      | false =>
        have HR : Hid (res = false) := Lib.hid (HG1.out hb)
        rcases nb_no hb with g1 | ⟨g1, g2⟩ | ⟨g1, g2, g3⟩
        all_goals
          clear hb
          go_wp2
          go_ret
          exact ⟨by rw [HR.out]; try rfl, (Below.refl _ _).alloc (Nat.le_refl _) _⟩
    · have hlt2 : ¬ (k : Int) < (n.length : Int) := by omega
      have HN : Hid (n.all nb = true) := Lib.hid (by have := HA.out; rwa [List.take_of_length_le (by omega)] at this)
      clear HA HG
      go_wp2
      go_loop [4] (fun i => ∃ k : Nat, i = .int .i64 k ∧ k ≤ v.length ∧ Hid (∀ j, j < k → badAt v j = false)) (fun i => v.length - (intOf i).toNat)
      case atStart => exact ⟨0, rfl, Nat.zero_le _, Lib.hid fun j hj => by omega⟩
      case round =>
        obtain ⟨k, rfl, hk, HA⟩ := hrel
        by_cases hlt : k < v.length
        · have hlt2 : (k : Int) < (v.length : Int) := by omega
          have hx := str_at v k hlt
          have HE := Lib.hid (badAt_eq hlt)
          have HV1 : Hid (badAt v k = true → res = false) := Lib.hid (HV.out k hlt)
          have HK : Hid (badAt v k = false → ∀ j, j < k + 1 → badAt v j = false) := Lib.hid fun h j hj => by
            rcases Nat.lt_or_eq_of_le (Nat.le_of_lt_succ hj) with h1 | h1
            · exact HA.out j h1
            · rw [h1]; exact h
          obtain ⟨x, hxx⟩ : ∃ x, v[k] = x := ⟨_, rfl⟩
          rw [hxx] at HE
          simp only [hxx] at hx
          clear hxx
          by_cases h13 : x = 13
          · have b13 : ((x.toNat : Int) == 13) = true := byte_eq (n := 13) (by decide) h13
            have HR : Hid (res = false) := Lib.hid (HV1.out (by rw [HE.out, h13]; rfl))
            clear h13
            go_wp2
            go_ret
            exact ⟨by rw [HR.out]; try rfl, (Below.refl _ _).alloc (Nat.le_refl _) _⟩
          · have b13 : ((x.toNat : Int) == 13) = false := byte_ne (n := 13) (by decide) h13
            by_cases h10 : x = 10
            · have b10 : ((x.toNat : Int) == 10) = true := byte_eq (n := 10) (by decide) h10
              have HR : Hid (res = false) := Lib.hid (HV1.out (by rw [HE.out, h10]; rfl))
              clear h10 h13
              go_wp2
              go_ret
              exact ⟨by rw [HR.out]; try rfl, (Below.refl _ _).alloc (Nat.le_refl _) _⟩
            · have b10 : ((x.toNat : Int) == 10) = false := byte_ne (n := 10) (by decide) h10
              have HE2 : Hid (badAt v k = ((decide (k = 0) || decide (k + 1 = v.length)) && isBl x)) := Lib.hid (by
                rw [HE.out, beq_eq_false_iff_ne.2 h13, beq_eq_false_iff_ne.2 h10]; rfl)
              clear h13 h10 HE
              have hkk : (((k : Int) == 0) = true ∧ (decide (k = 0) || decide (k + 1 = v.length)) = true) ∨ (((k : Int) == 0) = false ∧ ((k : Int) == (v.length : Int) - 1) = true ∧ (decide (k = 0) || decide (k + 1 = v.length)) = true) ∨
                  (((k : Int) == 0) = false ∧ ((k : Int) == (v.length : Int) - 1) = false ∧ (decide (k = 0) || decide (k + 1 = v.length)) = false) := by
                by_cases e0 : k = 0
                · exact .inl ⟨by subst e0; rfl, by simp [e0]⟩
                · by_cases e1 : k + 1 = v.length
                  · exact .inr (.inl ⟨by rw [beq_eq_false_iff_ne]; omega, by rw [beq_iff_eq]; omega, by simp [e1]⟩)
                  · exact .inr (.inr ⟨by rw [beq_eq_false_iff_ne]; omega, by rw [beq_eq_false_iff_ne]; omega, by simp [e0, e1]⟩)
              have hbl : (((x.toNat : Int) == 32) = true ∧ isBl x = true) ∨ (((x.toNat : Int) == 32) = false ∧ ((x.toNat : Int) == 9) = true ∧ isBl x = true) ∨ (((x.toNat : Int) == 32) = false ∧ ((x.toNat : Int) == 9) = false ∧ isBl x = false) := by
                by_cases e0 : x = 32
                · exact .inl ⟨byte_eq (n := 32) (by decide) e0, by subst e0; rfl⟩
                · by_cases e1 : x = 9
                  · exact .inr (.inl ⟨byte_ne (n := 32) (by decide) e0, byte_eq (n := 9) (by decide) e1, by subst e1; rfl⟩)
                  · exact .inr (.inr ⟨byte_ne (n := 32) (by decide) e0, byte_ne (n := 9) (by decide) e1, by simp [isBl, e0, e1]⟩)
              rcases hkk with ⟨k1, hkb⟩ | ⟨k1, k2, hkb⟩ | ⟨k1, k2, hkb⟩
              · rcases hbl with ⟨x1, hxb⟩ | ⟨x1, x2, hxb⟩ | ⟨x1, x2, hxb⟩
                · have HR : Hid (res = false) := Lib.hid (HV1.out (by rw [HE2.out, hkb, hxb]; rfl))
                  clear hkb hxb
                  go_wp2
                  go_ret
                  exact ⟨by rw [HR.out]; try rfl, (Below.refl _ _).alloc (Nat.le_refl _) _⟩
                · have HR : Hid (res = false) := Lib.hid (HV1.out (by rw [HE2.out, hkb, hxb]; rfl))
                  clear hkb hxb
                  go_wp2
                  go_ret
                  exact ⟨by rw [HR.out]; try rfl, (Below.refl _ _).alloc (Nat.le_refl _) _⟩
                · have HF := Lib.hid (HK.out (by rw [HE2.out, hkb, hxb]; rfl))
                  clear hkb hxb
                  go_wp2
                  go_round
                  case rel => exact ⟨k + 1, by go_num, by omega, HF⟩
                  case measure => simp [intOf]; omega
              · rcases hbl with ⟨x1, hxb⟩ | ⟨x1, x2, hxb⟩ | ⟨x1, x2, hxb⟩
                · have HR : Hid (res = false) := Lib.hid (HV1.out (by rw [HE2.out, hkb, hxb]; rfl))
                  clear hkb hxb
                  go_wp2
                  go_ret
                  exact ⟨by rw [HR.out]; try rfl, (Below.refl _ _).alloc (Nat.le_refl _) _⟩
                · have HR : Hid (res = false) := Lib.hid (HV1.out (by rw [HE2.out, hkb, hxb]; rfl))
                  clear hkb hxb
                  go_wp2
                  go_ret
                  exact ⟨by rw [HR.out]; try rfl, (Below.refl _ _).alloc (Nat.le_refl _) _⟩
                · have HF := Lib.hid (HK.out (by rw [HE2.out, hkb, hxb]; rfl))
                  clear hkb hxb
                  go_wp2
                  go_round
                  case rel => exact ⟨k + 1, by go_num, by omega, HF⟩
                  case measure => simp [intOf]; omega
              · have HF := Lib.hid (HK.out (by rw [HE2.out, hkb]; rfl))
                clear hkb hbl
                go_wp2
                go_round
                case rel => exact ⟨k + 1, by go_num, by omega, HF⟩
                case measure => simp [intOf]; omega
        · obtain rfl : k = v.length := by omega
          have HF : Hid (res = !n.isEmpty) := Lib.hid (HB.out HN.out HA.out)
          clear HA HV HB HN
          cases n with
          | nil =>
            go_wp2
            go_ret
            exact ⟨by rw [HF.out]; try rfl, (Below.refl _ _).alloc (Nat.le_refl _) _⟩
          | cons a t =>
            have hpos : (0 : Int) < ((a :: t).length : Int) := by simp only [List.length_cons]; omega
            go_wp2
            go_ret
            exact ⟨by rw [HF.out]; try simp, (Below.refl _ _).alloc (Nat.le_refl _) _⟩
end Go.Proofs.YtbjbljfmcpidmaaDoor

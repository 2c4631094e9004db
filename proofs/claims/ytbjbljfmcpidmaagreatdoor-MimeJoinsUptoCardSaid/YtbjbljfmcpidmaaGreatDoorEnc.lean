/- mime: a part's encoding. -/
import Derived.Test.YtbjbljfmcpidmaaGreatDoorSort
namespace Go.Proofs.YtbjbljfmcpidmaaGreatDoor
open Go.RowKit Go.Lib Go.Shelf
def letE (r : Nat) : Bool := (decide (97 ≤ r) && decide (r ≤ 122)) || (decide (65 ≤ r) && decide (r ≤ 90)) || (decide (48 ≤ r) && decide (r ≤ 57)) || decide (r = 45)
def oddE (r : Nat) : Bool := !letE r
theorem oddE_high (r : Nat) (h : 128 ≤ r) : oddE r = true := by
  unfold oddE letE
  simp
  omega
theorem enc_odd (w : World) : PredAt Tryz.prog 138 #[] encR oddE w := fun W r _ => by
  unfold FnGives
  have h : ((97 : Int) ≤ r ∧ (r : Int) ≤ 122 ∧ oddE r = false) ∨
      (¬ ((97 : Int) ≤ r ∧ (r : Int) ≤ 122) ∧ (65 : Int) ≤ r ∧ (r : Int) ≤ 90 ∧ oddE r = false) ∨
      (¬ ((97 : Int) ≤ r ∧ (r : Int) ≤ 122) ∧ ¬ ((65 : Int) ≤ r ∧ (r : Int) ≤ 90) ∧ (48 : Int) ≤ r ∧ (r : Int) ≤ 57 ∧ oddE r = false) ∨
      (¬ ((97 : Int) ≤ r ∧ (r : Int) ≤ 122) ∧ ¬ ((65 : Int) ≤ r ∧ (r : Int) ≤ 90) ∧ ¬ ((48 : Int) ≤ r ∧ (r : Int) ≤ 57) ∧ ((r : Int) == 45) = true ∧ oddE r = false) ∨
      (¬ ((97 : Int) ≤ r ∧ (r : Int) ≤ 122) ∧ ¬ ((65 : Int) ≤ r ∧ (r : Int) ≤ 90) ∧ ¬ ((48 : Int) ≤ r ∧ (r : Int) ≤ 57) ∧ ((r : Int) == 45) = false ∧ oddE r = true) := by
    unfold oddE letE
    by_cases a : 97 ≤ r ∧ r ≤ 122
    · exact .inl ⟨by omega, by omega, by simp [a.1, a.2]⟩
    refine .inr ?_
    by_cases b : 65 ≤ r ∧ r ≤ 90
    · exact .inl ⟨by omega, by omega, by omega, by simp [b.1, b.2]⟩
    refine .inr ?_
    by_cases c : 48 ≤ r ∧ r ≤ 57
    · exact .inl ⟨by omega, by omega, by omega, by omega, by simp [c.1, c.2]⟩
    refine .inr ?_
    by_cases d : r = 45
    · exact .inl ⟨by omega, by omega, by omega, by rw [d]; rfl, by simp [d]⟩
    · exact .inr ⟨by omega, by omega, by omega, by rw [beq_eq_false_iff_ne]; omega, by simp [d]; omega⟩
  have split : ∀ a b : Int, ¬ (a ≤ r ∧ (r : Int) ≤ b) → (¬ a ≤ (r : Int)) ∨ (a ≤ (r : Int) ∧ ¬ (r : Int) ≤ b) := fun a b h => by omega
  rcases h with ⟨a1, a2, h⟩ | ⟨a, b1, b2, h⟩ | ⟨a, b, c1, c2, h⟩ | ⟨a, b, c, d, h⟩ | ⟨a, b, c, d, h⟩
  · rw [h]
    go_enter Tryz.func138, Tryz.ntmps138
    go_wp2
    go_ret
    exact ⟨rfl, 0, rfl⟩
  · rw [h]
    rcases split _ _ a with a1 | ⟨a1, a2⟩
    all_goals
      clear a h split
      go_enter Tryz.func138, Tryz.ntmps138
      go_wp2
      go_ret
      exact ⟨rfl, 0, rfl⟩
  · rw [h]
    rcases split _ _ a with a1 | ⟨a1, a2⟩ <;> rcases split _ _ b with b1 | ⟨b1, b2⟩
    all_goals
      clear a b h split
      first
      | omega
      | (go_enter Tryz.func138, Tryz.ntmps138
         go_wp2
         go_ret
         exact ⟨rfl, 0, rfl⟩)
  · rw [h]
    rcases split _ _ a with a1 | ⟨a1, a2⟩ <;> rcases split _ _ b with b1 | ⟨b1, b2⟩ <;> rcases split _ _ c with c1 | ⟨c1, c2⟩
    all_goals
      have d' := d
      rw [beq_iff_eq] at d'
      clear a b c h split
      first
      | omega
      | (clear d'
         go_enter Tryz.func138, Tryz.ntmps138
         go_wp2
         go_ret
         exact ⟨rfl, 0, rfl⟩)
  · rw [h]
    rcases split _ _ a with a1 | ⟨a1, a2⟩ <;> rcases split _ _ b with b1 | ⟨b1, b2⟩ <;> rcases split _ _ c with c1 | ⟨c1, c2⟩
    all_goals
      clear a b c h split
      first
      | omega
      | (go_enter Tryz.func138, Tryz.ntmps138
         go_wp2
         go_ret
         exact ⟨rfl, 0, rfl⟩)
def cteName : List UInt8 := [99, 111, 110, 116, 101, 110, 116, 45, 116, 114, 97, 110, 115, 102, 101, 114, 45, 101, 110, 99, 111, 100, 105, 110, 103]
def sevenT : List UInt8 := [55, 66, 73, 84]
def encW (ws : List (List UInt8)) : List UInt8 := match ws with
  | [] => sevenT
  | x :: _ => if x.all (fun c => letE c.toNat) then x.map greatB else sevenT
def encS (L : List Fld) : List UInt8 := encW (wordsS (getF L cteName).1)
theorem words_len (s : List UInt8) : ∀ x ∈ wordsS s, x.length ≤ s.length := by
  intro x hx
  simp only [wordsS, List.mem_map] at hx
  obtain ⟨y, _, rfl⟩ := hx
  unfold cutW
  simp
  omega
theorem wcells_get0 {w : World} {b o : Nat} {l : List (List UInt8)} (h : RowIn w (some ⟨b, o, none⟩) (wcells l)) (k : Nat) (hk : k < l.length) : w.cell? ⟨b, o + k, none⟩ = some (.string ⟨(l[k]'hk).toArray⟩) :=
  h.cell k _ (by simp [wcells, hk])
set_option maxHeartbeats 2000000 in
theorem encoding_any (A : Option Addr) (c : Nat) (L : List Fld) (w : World) (hr : RowIn w A (fcells L)) (hfit : FitF L 2000000) (hL : L.length ≤ 2000000) :
    Calls Tryz.prog 74 #[.slice A L.length c] w fun e w' => e = .returned (.string ⟨(encS L).toArray⟩) ∧ Below w.heap.size w w' := by
  have cG := get_any A c L cteName w hr hfit (by decide) hL
  have hv := getF_le L cteName hfit
  have HE : Hid (encS L = encW (wordsS (getF L cteName).1)) := Lib.hid rfl
  generalize getF L cteName = v0 at *
  obtain ⟨v, is⟩ := v0
  dsimp only at cG hv
  have HG := Lib.hid cG
  have HWD := Lib.hid (fun W => words_any v W (by omega))
  have HLN : Hid (∀ x ∈ wordsS v, x.length ≤ 2000000) := Lib.hid fun x hx => Nat.le_trans (words_len v x hx) hv
  clear cG
  go_enter Tryz.func74, Tryz.ntmps74
  go_wp2_with fail
  refine HG.out.mono ?_
  rintro e w1 ⟨rfl, hb1⟩
  go_wp2_with fail
  refine (HWD.out _).mono ?_
  rintro e w2 ⟨A2, c2, rfl, hrow, hc2, hm2, hb2⟩
  have hb12 := hb1.trans (hb2.mono hb1.size)
  unfold maxLen at hm2
  generalize wordsS v = ws at *
  cases ws with
  | nil =>
    have HF : Hid (encS L = sevenT) := Lib.hid HE.out
    clear HLN
    go_wp2
    go_ret
    rw [HF.out]
    exact ⟨rfl, hb12⟩
  | cons x ws =>
    obtain ⟨b, o, rfl, _⟩ := hrow.addr (by simp [wcells])
    have hc := wcells_get0 hrow 0 (by simp)
    simp only [List.getElem_cons_zero, Nat.add_zero] at hc
    have hxl := HLN.out x (List.mem_cons_self ..)
    have hpos : (0 : Int) < ((x :: ws).length : Int) := by simp only [List.length_cons]; omega
    have cI := fun W => Any.strings_IndexFunc Tryz.laysGw15 138 #[] (enters_of Tryz.func138 (by kernel_rfl) rfl) _ ⟨x.toArray⟩ W (enc_odd W)
    change ∀ W, Calls Tryz.prog 111 _ _ _ at cI
    have hix := idx_ascii oddE oddE_high x
    have hall : x.all (fun c => !oddE c.toNat) = x.all (fun c => letE c.toNat) := by
      congr 1
      funext c
      simp [oddE]
    rw [hall] at hix
    have HE2 : Hid (encS L = if x.all (fun c => letE c.toNat) then x.map greatB else sevenT) := Lib.hid HE.out
    have HGR := Lib.hid (fun W => great_any x W (by omega))
    generalize idxFunc oddE true ⟨x.toArray⟩ = ix at *
    clear hall HE HLN
    cases ha : x.all (fun c => letE c.toNat) with
    | true =>
      rw [ha] at hix HE2
      have hneg : ix < 0 := of_decide_eq_true hix
      have HF : Hid (encS L = x.map greatB) := Lib.hid (by rw [HE2.out]; rfl)
      have HI := Lib.hid cI
      clear hix ha HE2 cI
      go_wp2_with (go_at_call 111; refine (HI.out _).mono ?_; rintro e w3 ⟨rfl, hb3⟩; (have hc3 := cell_below hb3 hc))
      refine (HGR.out _).mono ?_
      rintro e w4 ⟨rfl, hb4⟩
      have hb13 := hb12.trans (hb3.mono hb12.size)
      go_wp2
      go_ret
      rw [HF.out]
      exact ⟨rfl, hb13.trans (hb4.mono hb13.size)⟩
    | false =>
      rw [ha] at hix HE2
      have hneg : ¬ ix < 0 := of_decide_eq_false hix
      have HF : Hid (encS L = sevenT) := Lib.hid (by rw [HE2.out]; rfl)
      have HI := Lib.hid cI
      clear hix ha HE2 cI
      go_wp2_with (go_at_call 111; refine (HI.out _).mono ?_; rintro e w3 ⟨rfl, hb3⟩; (have hc3 := cell_below hb3 hc))
      go_ret
      rw [HF.out]
      exact ⟨rfl, hb12.trans (hb3.mono hb12.size)⟩
end Go.Proofs.YtbjbljfmcpidmaaGreatDoor

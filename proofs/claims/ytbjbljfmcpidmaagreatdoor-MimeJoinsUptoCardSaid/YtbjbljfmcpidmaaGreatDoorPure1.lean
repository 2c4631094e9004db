/- Plain facts: a predicate on runes over bytes; a name's scan. -/
import Derived.Test.YtbjbljfmcpidmaaGreatDoorTrimmed
namespace Go.Proofs.YtbjbljfmcpidmaaGreatDoor
open Go.RowKit Go.Lib Go.Shelf

theorem idxFrom_ascii (p : Nat → Bool) (hp : ∀ r, 128 ≤ r → p r = true) (l : List UInt8) : ∀ (f pos : Nat), l.length ≤ pos + f → decide (Lib.idxFuncFrom p true ⟨l.toArray⟩ f pos < 0) = (l.drop pos).all (fun x => !p x.toNat)
  | 0, pos, h => by
    rw [List.drop_of_length_le (by omega)]
    rfl
  | f + 1, pos, h => by
    unfold Lib.idxFuncFrom
    have hs : (⟨l.toArray⟩ : ByteArray).size = l.length := by simp [ByteArray.size]
    rw [hs]
    by_cases hlt : pos < l.length
    · rw [if_pos hlt, List.drop_eq_getElem_cons hlt, List.all_cons]
      have hg : (⟨l.toArray⟩ : ByteArray)[pos]'(by rw [hs]; exact hlt) = l[pos] := by
        show l.toArray[pos] = _
        simp
      by_cases ha : (l[pos]).toNat < 128
      · rw [decode_ascii _ pos (by rw [hs]; exact hlt) (by rw [hg]; exact ha), hg]
        by_cases hpx : p (l[pos]).toNat = true
        · rw [if_pos hpx, hpx]
          simp
        · rw [if_neg hpx, idxFrom_ascii p hp l f (pos + 1) (by omega)]
          simp [hpx]
      · have hd := (decode_high (⟨l.toArray⟩ : ByteArray) pos (by rw [hs]; exact hlt) (by rw [hg]; omega)).1
        rw [if_pos (hp _ hd), hp _ (by omega : 128 ≤ (l[pos]).toNat)]
        simp
    · rw [if_neg hlt, List.drop_of_length_le (by omega)]
      rfl
theorem idx_ascii (p : Nat → Bool) (hp : ∀ r, 128 ≤ r → p r = true) (l : List UInt8) : decide (Lib.idxFunc p true ⟨l.toArray⟩ < 0) = l.all (fun x => !p x.toNat) := by
  unfold Lib.idxFunc
  rw [idxFrom_ascii p hp l _ 0 (by simp [ByteArray.size])]
  rfl

/-- A byte of a name. -/
def nb (x : UInt8) : Bool := !oddR x.toNat && x != 58
def scan (l : List UInt8) : Nat := (l.takeWhile nb).length
theorem cut_nil (c : UInt8) : Lib.cut [] [c] = ([], [], false) := by
  unfold Lib.cut Lib.index
  simp
theorem cut_hit (c : UInt8) (r : List UInt8) : Lib.cut (c :: r) [c] = ([], r, true) := by
  have e : Lib.index (c :: r) [c] = 0 := by unfold Lib.index; simp [List.isPrefixOf]
  unfold Lib.cut
  rw [e]
  simp
theorem cut_miss {c x : UInt8} (h : x ≠ c) (r : List UInt8) : Lib.cut (x :: r) [c] = (x :: (Lib.cut r [c]).1, (Lib.cut r [c]).2.1, (Lib.cut r [c]).2.2) := by
  have e : Lib.index (x :: r) [c] = if Lib.index r [c] == -1 then -1 else Lib.index r [c] + 1 := by
    conv => lhs; unfold Lib.index
    rw [if_neg (by simp [List.isPrefixOf, Ne.symm h])]
  have hl := index_le r [c]
  unfold Lib.cut
  rw [e]
  by_cases h1 : Lib.index r [c] = -1
  · simp [h1]
  · have h2 : (Lib.index r [c] == -1) = false := beq_eq_false_iff_ne.2 h1
    rw [h2]
    simp only [Bool.false_eq_true, if_false]
    rw [if_pos (by omega), if_pos (by omega)]
    have e3 : (Lib.index r [c] + 1).toNat = (Lib.index r [c]).toNat + 1 := by omega
    rw [e3]
    simp
theorem scan_core (l : List UInt8) : ((Lib.cut l [58]).2.2 && (Lib.cut l [58]).1.all (fun x => !oddR x.toNat)) = (l[scan l]? == some 58) ∧
    (l[scan l]? = some 58 → (Lib.cut l [58]).1 = l.take (scan l) ∧ (Lib.cut l [58]).2.1 = l.drop (scan l + 1)) := by
  induction l with
  | nil => rw [cut_nil]; simp [scan]
  | cons x r ih =>
    by_cases h : x = 58
    · subst h
      rw [cut_hit]
      have e : scan (58 :: r) = 0 := by simp [scan, nb]
      rw [e]
      simp
    · rw [cut_miss h]
      by_cases ho : oddR x.toNat = true
      · have e : scan (x :: r) = 0 := by simp [scan, nb, ho]
        rw [e]
        simp [ho, h]
      · have e : scan (x :: r) = scan r + 1 := by simp [scan, nb, ho, h]
        rw [e]
        simp only [List.all_cons, List.getElem?_cons_succ, List.take_succ_cons, List.drop_succ_cons]
        refine ⟨?_, fun h => ?_⟩
        · rw [← ih.1]
          simp [ho]
        · rw [(ih.2 h).1, (ih.2 h).2]
          exact ⟨rfl, rfl⟩
theorem oddR_high (r : Nat) (h : 128 ≤ r) : oddR r = true := by
  unfold oddR
  simp
  omega
theorem nameOk_scan (l : List UInt8) : nameOk l = (decide (0 < scan l) && (l[scan l]? == some 58)) := by
  unfold nameOk
  rw [idx_ascii oddR oddR_high]
  have h := scan_core l
  have e1 : ((Lib.cut l [58]).2.2 && !(Lib.cut l [58]).1.isEmpty && (Lib.cut l [58]).1.all (fun x => !oddR x.toNat)) = (!(Lib.cut l [58]).1.isEmpty && ((Lib.cut l [58]).2.2 && (Lib.cut l [58]).1.all (fun x => !oddR x.toNat))) := by
    cases (Lib.cut l [58]).2.2 <;> simp
  rw [e1, h.1]
  by_cases hk : l[scan l]? = some 58
  · rw [(h.2 hk).1, hk]
    have hlt : scan l < l.length := by
      rcases Nat.lt_or_ge (scan l) l.length with g | g
      · exact g
      · rw [List.getElem?_eq_none g] at hk; cases hk
    cases hs : scan l with
    | zero => simp
    | succ n =>
      have : (l.take (n + 1)).isEmpty = false := by
        rw [List.isEmpty_eq_false_iff]
        intro e
        have h2 := congrArg List.length e
        rw [List.length_take, List.length_nil] at h2
        omega
      rw [this]
      simp
  · have : (l[scan l]? == some 58) = false := by simpa using hk
    rw [this]
    simp
theorem fld_scan (l : List UInt8) (h : l[scan l]? = some 58) : fldOf l = (l.take (scan l), l.drop (scan l + 1)) := by
  unfold fldOf
  rw [((scan_core l).2 h).1, ((scan_core l).2 h).2]
/-- The scan, from place k on. -/
theorem scan_at (l : List UInt8) (k : Nat) (hk : k ≤ scan l) : scan l = k + scan (l.drop k) := by
  induction k generalizing l with
  | zero => simp
  | succ k ih =>
    cases l with
    | nil => simp [scan] at hk
    | cons x r =>
      by_cases hx : nb x = true
      · have e : scan (x :: r) = scan r + 1 := by simp [scan, hx]
        rw [e] at hk ⊢
        rw [List.drop_succ_cons, ih r (by omega)]
        omega
      · have e : scan (x :: r) = 0 := by simp [scan, hx]
        omega
theorem scan_le (l : List UInt8) : scan l ≤ l.length := (List.takeWhile_sublist nb).length_le
theorem scan_stop (l : List UInt8) (k : Nat) (h : k < l.length) (hk : k ≤ scan l) : (nb l[k] = true → k + 1 ≤ scan l) ∧ (nb l[k] = false → k = scan l) := by
  have e := scan_at l k hk
  rw [List.drop_eq_getElem_cons h] at e
  refine ⟨fun hn => ?_, fun hn => ?_⟩
  · have : scan (l[k] :: l.drop (k + 1)) = scan (l.drop (k + 1)) + 1 := by unfold scan; rw [List.takeWhile_cons_of_pos hn]; rfl
    omega
  · have : scan (l[k] :: l.drop (k + 1)) = 0 := by unfold scan; rw [List.takeWhile_cons_of_neg (by rw [hn]; simp)]; rfl
    omega
end Go.Proofs.YtbjbljfmcpidmaaGreatDoor

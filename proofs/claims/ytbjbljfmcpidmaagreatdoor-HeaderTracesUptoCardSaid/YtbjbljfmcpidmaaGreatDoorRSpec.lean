/- What the reference's kind meets, said of header.Kind's spec. -/
import Derived.Test.YtbjbljfmcpidmaaGreatDoorRQuoted
namespace Go.Proofs.YtbjbljfmcpidmaaGreatDoor
open Go.RowKit Go.Lib Go.Shelf
theorem dropWhile_idem (p : UInt8 → Bool) (l : List UInt8) : (l.dropWhile p).dropWhile p = l.dropWhile p := by
  induction l with
  | nil => rfl
  | cons x r ih =>
    by_cases h : p x = true
    · simp [h, ih]
    · simp [h]
theorem rtrim_idem (l : List UInt8) : rtrim (rtrim l) = rtrim l := by
  unfold rtrim
  rw [List.reverse_reverse, dropWhile_idem]
theorem tb_idem (s : List UInt8) : tb (tb s) = tb s := by
  rw [← tb_eq s, ← tb_eq (rtrim _)]
  have h1 : (rtrim (s.dropWhile isBl)).dropWhile isBl = rtrim ((s.dropWhile isBl).dropWhile isBl) := trim_swap isBl (s.dropWhile isBl)
  rw [h1, dropWhile_idem, rtrim_idem]
theorem tokR_tb (s : List UInt8) : tb (tokR s) = tokR s := tb_idem _
theorem signS_tb (s c : List UInt8) : tb (signS s c) = signS s c := tb_idem _
theorem valR_tb (s : List UInt8) (h : tb s = s) : tb (valR s) = valR s := by
  unfold valR
  split
  · rename_i r
    split
    · exact tb_idem _
    · exact h
  · exact tokR_tb _
theorem prefix_hit (x : UInt8) (r : List UInt8) (h : tb (x :: r) = x :: r) : Lib.hasPrefix (tb (x :: r)) [x] = true ∧ signS (x :: r) [x] = tb r := by
  have h1 : Lib.hasPrefix (tb (x :: r)) [x] = true := by rw [h]; simp [Lib.hasPrefix, List.isPrefixOf]
  refine ⟨h1, ?_⟩
  unfold signS Lib.trimPrefix
  rw [if_pos h1, h]
  rfl
theorem prefix_miss (x c : UInt8) (r : List UInt8) (h : tb (x :: r) = x :: r) (hx : x ≠ c) : Lib.hasPrefix (tb (x :: r)) [c] = false := by
  have hx' : (c == x) = false := beq_eq_false_iff_ne.2 (Ne.symm hx)
  rw [h]
  simp [Lib.hasPrefix, List.isPrefixOf, hx']
theorem prefix_nil (c : UInt8) : Lib.hasPrefix (tb []) [c] = false := by
  have : tb [] = [] := rfl
  rw [this]
  rfl
theorem tok_zero (s : List UInt8) : (tokS s).isEmpty = decide (tokN s = 0) := by
  have h := tokN_le s
  have h2 : (tokS s).length = tokN s := by unfold tokS; simp; omega
  cases ht : tokS s with
  | nil =>
    rw [ht] at h2
    simp at h2
    simp [← h2]
  | cons x r =>
    rw [ht] at h2
    simp at h2
    have : ¬ tokN s = 0 := by omega
    simp [this]
theorem tok_quote (q : List UInt8) : tokN (34 :: q) = 0 := by
  unfold tokN
  have : tokB 34 = false := by decide
  simp [this]
theorem qS_drop' (n : Nat) : ∀ (s acc o q : List UInt8), s.length ≤ n → qS s acc = some (o, q) → q = s.drop (s.length - q.length) := by
  induction n with
  | zero =>
    intro s acc o q hn h
    have : s = [] := List.length_eq_zero_iff.1 (by omega)
    subst this
    simp [qS] at h
  | succ n ih =>
    intro s acc o q hn h
    have hlt := (qS_le s acc o q h).2
    cases s with
    | nil => simp [qS] at h
    | cons x r =>
      by_cases h1 : x = 34
      · subst h1
        rw [qS_q] at h
        simp at h
        obtain ⟨rfl, rfl⟩ := h
        simp
      · by_cases h2 : x = 92
        · subst h2
          cases r with
          | nil => rw [qS_e] at h; simp at h
          | cons y r' =>
            rw [qS_y] at h
            have h3 := ih r' _ _ _ (by simp at hn; omega) h
            have h4 := (qS_le _ _ _ _ h).2
            have e : (92 :: y :: r').length - q.length = (r'.length - q.length) + 1 + 1 := by simp; omega
            rw [e, List.drop_succ_cons, List.drop_succ_cons]
            exact h3
        · rw [qS_o x r acc h1 h2] at h
          have h3 := ih r _ _ _ (by simp at hn; omega) h
          have h4 := (qS_le _ _ _ _ h).2
          have e : (x :: r).length - q.length = (r.length - q.length) + 1 := by simp; omega
          rw [e, List.drop_succ_cons]
          exact h3
theorem qS_drop (s acc o q : List UInt8) (h : qS s acc = some (o, q)) : q = s.drop (s.length - q.length) := qS_drop' s.length s acc o q (Nat.le_refl _) h
theorem kLoop_false (f : Nat) (s bd : List UInt8) (n : Nat) : (kLoop f s false bd n).1 = false := by cases f <;> rfl
def inB (x : UInt8) : Bool := decide (32 ≤ x.toNat) && decide (x.toNat ≤ 126)
def okAll (m : List UInt8) : Bool := (decide (1 ≤ m.length) && decide (m.length ≤ 70)) && m.all inB
theorem suffix_sp (m : List UInt8) (y : UInt8) : Lib.hasSuffix (m ++ [y]) [32] = (y == 32) := by
  unfold Lib.hasSuffix List.isSuffixOf
  simp [List.isPrefixOf]
  by_cases h : y = 32
  · subst h; simp
  · have h1 : (32 == y) = false := beq_eq_false_iff_ne.2 (Ne.symm h)
    have h2 : (y == 32) = false := beq_eq_false_iff_ne.2 h
    rw [h1, h2]
theorem bounds_nil : boundsB [] = false := rfl
theorem bounds_snoc (m : List UInt8) (y : UInt8) : boundsB (m ++ [y]) = (okAll (m ++ [y]) && !(y == 32)) := by
  unfold boundsB okAll
  rw [suffix_sp, idx_ascii lowR (by intro r hr; simp [lowR]; omega)]
  have h1 : (m ++ [y]).isEmpty = false := by simp
  have h2 : decide (1 ≤ (m ++ [y]).length) = true := by simp
  have h3 : (fun x : UInt8 => !lowR x.toNat) = inB := by
    funext x
    unfold lowR inB
    by_cases a : x.toNat < 32
    · have : ¬ 32 ≤ x.toNat := by omega
      simp [a, this]
    · by_cases b : 126 < x.toNat
      · have : ¬ x.toNat ≤ 126 := by omega
        simp [b, this]
      · have a' : 32 ≤ x.toNat := by omega
        have b' : x.toNat ≤ 126 := by omega
        simp [a, b, a', b']
  rw [h1, h2, h3]
  cases decide ((m ++ [y]).length ≤ 70) <;> cases (y == 32) <;> cases (m ++ [y]).all inB <;> rfl
end Go.Proofs.YtbjbljfmcpidmaaGreatDoor

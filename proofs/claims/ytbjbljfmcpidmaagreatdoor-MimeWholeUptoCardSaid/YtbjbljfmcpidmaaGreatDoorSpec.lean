/- What Kind answers, as a function of the field's value. -/
import Derived.Test.YtbjbljfmcpidmaaGreatDoorValue
namespace Go.Proofs.YtbjbljfmcpidmaaGreatDoor
open Go.RowKit Go.Lib Go.Shelf
theorem tokR_le (s : List UInt8) : (tokR s).length ≤ s.length := Nat.le_trans (tb_le _) (by simp)
theorem tokS_le (s : List UInt8) : (tokS s).length ≤ s.length := by unfold tokS; simp; omega
theorem signS_le (s c : List UInt8) : (signS s c).length ≤ s.length := Nat.le_trans (tb_le _) (Nat.le_trans (trimPrefix_le _ _) (tb_le _))
theorem qS_le' (n : Nat) : ∀ (s acc o q : List UInt8), s.length ≤ n → qS s acc = some (o, q) → o.length ≤ acc.length + s.length ∧ q.length < s.length := by
  induction n with
  | zero =>
    intro s acc o q hn h
    have : s = [] := List.length_eq_zero_iff.1 (by omega)
    subst this
    simp [qS] at h
  | succ n ih =>
    intro s acc o q hn h
    cases s with
    | nil => simp [qS] at h
    | cons x r =>
      by_cases h1 : x = 34
      · subst h1
        rw [qS_q] at h
        simp at h
        obtain ⟨rfl, rfl⟩ := h
        simp
      · by_cases h2 : x = 92
        · subst h2
          cases r with
          | nil => rw [qS_e] at h; simp at h
          | cons y r' =>
            rw [qS_y] at h
            have := ih r' _ _ _ (by simp at hn; omega) h
            simp at this ⊢
            omega
        · rw [qS_o x r acc h1 h2] at h
          have := ih r _ _ _ (by simp at hn; omega) h
          simp at this ⊢
          omega
theorem qS_le (s acc o q : List UInt8) (h : qS s acc = some (o, q)) : o.length ≤ acc.length + s.length ∧ q.length < s.length := qS_le' s.length s acc o q (Nat.le_refl _) h
theorem valR_le (s : List UInt8) : (valR s).length ≤ s.length := by
  unfold valR
  split
  · rename_i r
    split
    · rename_i o q hq
      have := (qS_le _ _ _ _ hq).2
      have := tb_le q
      simp
      omega
    · exact Nat.le_refl _
  · exact tokR_le _
theorem valS_le (s : List UInt8) : (valS s).length ≤ s.length := by
  unfold valS
  split
  · rename_i r
    split
    · rename_i o q hq
      have := (qS_le _ _ _ _ hq).1
      simp at this ⊢
      omega
    · simp
  · exact tokS_le _
def bdName : List UInt8 := [98, 111, 117, 110, 100, 97, 114, 121]
def isBd (n : List UInt8) : Bool := n.map smallB == bdName
def nmA (s : List UInt8) : List UInt8 := signS s [59]
def stB (s : List UInt8) : List UInt8 := tokR (nmA s)
def stC (s : List UInt8) : List UInt8 := signS (stB s) [61]
def stD (s : List UInt8) : List UInt8 := valR (stC s)
def stX (s : List UInt8) : List UInt8 := valS (stC s)
def okA (ok : Bool) (s : List UInt8) : Bool := ok && Lib.hasPrefix (tb s) [59]
def okB (ok : Bool) (s : List UInt8) : Bool := nameOkB (okA ok s) (nmA s)
def okC (ok : Bool) (s : List UInt8) : Bool := okB ok s && Lib.hasPrefix (tb (stB s)) [61]
def okD (ok : Bool) (s : List UInt8) : Bool := valK (okC ok s) (stC s)
def kLoop : Nat → List UInt8 → Bool → List UInt8 → Nat → Bool × List UInt8
  | 0, _, ok, bd, _ => (ok, bd)
  | f + 1, s, ok, bd, n => if ok && !s.isEmpty then (if isBd (tokS (nmA s)) && decide (n = 0) then kLoop f (stD s) (okD ok s) (stX s) (n + 1) else kLoop f (stD s) (okD ok s) bd n) else (ok, bd)
def kS1 (v : List UInt8) : List UInt8 := tokR (tb v)
def kS2 (v : List UInt8) : List UInt8 := signS (kS1 v) [47]
def kS3 (v : List UInt8) : List UInt8 := tokR (kS2 v)
def kO1 (v : List UInt8) : Bool := nameOkB true (tb v)
def kO2 (v : List UInt8) : Bool := kO1 v && Lib.hasPrefix (tb (kS1 v)) [47]
def kO3 (v : List UInt8) : Bool := nameOkB (kO2 v) (kS2 v)
def kEnd (v : List UInt8) : Bool × List UInt8 := kLoop ((kS3 v).length + 2) (kS3 v) (kO3 v) [] 0
def kText : List UInt8 := [84, 69, 88, 84]
def kPlain : List UInt8 := [80, 76, 65, 73, 78]
def kindS (v : List UInt8) : List UInt8 × List UInt8 × List UInt8 :=
  if (kEnd v).1 then ((tokS (tb v)).map greatB, (tokS (kS2 v)).map greatB, if boundsB (kEnd v).2 then (kEnd v).2 else []) else (kText, kPlain, [])
theorem nmA_le (s : List UInt8) : (nmA s).length ≤ s.length := signS_le _ _
theorem stB_le (s : List UInt8) : (stB s).length ≤ s.length := Nat.le_trans (tokR_le _) (nmA_le s)
theorem stC_le (s : List UInt8) : (stC s).length ≤ s.length := Nat.le_trans (signS_le _ _) (stB_le s)
theorem stD_le (s : List UInt8) : (stD s).length ≤ s.length := Nat.le_trans (valR_le _) (stC_le s)
theorem stX_le (s : List UInt8) : (stX s).length ≤ s.length := Nat.le_trans (valS_le _) (stC_le s)
theorem tokN_drop (s : List UInt8) : (tokS s).length + (tokR s).length ≤ s.length := by
  have := tokN_le s
  have h : (tokR s).length ≤ (s.drop (tokN s)).length := tb_le _
  unfold tokS
  simp at h ⊢
  omega
/-- A round of the loop that goes well takes bytes away. -/
theorem round_less (s : List UInt8) (ok : Bool) (h : okD ok s = true) : (stD s).length < s.length := by
  have hA : okA ok s = true := by
    unfold okD valK at h
    cases hA : okA ok s with
    | true => rfl
    | false =>
      have hB : okB ok s = false := by unfold okB nameOkB; rw [hA]; rfl
      have hC : okC ok s = false := by unfold okC; rw [hB]; rfl
      rw [hC] at h
      split at h
      · split at h <;> simp at h
      · simp [nameOkB] at h
  unfold okA at hA
  simp only [Bool.and_eq_true] at hA
  have h2 := hA.2
  unfold Lib.hasPrefix at h2
  have h1 : (nmA s).length < s.length := by
    unfold nmA signS Lib.trimPrefix
    have ht := tb_le s
    have ht2 := tb_le ((tb s).drop [(59 : UInt8)].length)
    rw [List.isPrefixOf_iff_prefix] at h2
    have h3 := h2.length_le
    have h2' : Lib.hasPrefix (tb s) [59] = true := by unfold Lib.hasPrefix; rw [List.isPrefixOf_iff_prefix]; exact h2
    split
    · simp at ht2 h3 ⊢
      omega
    · rename_i hn
      exact absurd h2' (by simpa [Lib.hasPrefix] using hn)
  have h3 : (stB s).length ≤ (nmA s).length := tokR_le _
  have h4 : (stC s).length ≤ (stB s).length := signS_le _ _
  have h5 : (stD s).length ≤ (stC s).length := valR_le _
  omega
end Go.Proofs.YtbjbljfmcpidmaaGreatDoor

/- Plain: fields that are written are read as they were; a field that is folded has the value of the whole line. -/
import Derived.Test.YtbjbljfmcpidmaaDoorPure1
namespace Go.Proofs.YtbjbljfmcpidmaaDoor
open Go.RowKit Go.Lib Go.Shelf

theorem line_app (x rest : List UInt8) (h : ∀ c ∈ x, c ≠ 13) : lineOf (x ++ 13 :: 10 :: rest) = x ∧ wholeOf (x ++ 13 :: 10 :: rest) = true := by
  induction x with
  | nil => exact line_crlf rest
  | cons a t ih =>
    have h1 := ih fun c hc => h c (List.mem_cons_of_mem _ hc)
    have ha : (13 == a) = false := beq_eq_false_iff_ne.2 (Ne.symm (h a (List.mem_cons_self ..)))
    have h2 := line_cons a (t ++ 13 :: 10 :: rest) (by simp [List.isPrefixOf, ha])
    rw [List.cons_append, h2.1, h2.2, h1.1, h1.2]
    exact ⟨rfl, rfl⟩
theorem scan_name (n rest : List UInt8) (h : n.all nb = true) : scan (n ++ 58 :: rest) = n.length := by
  unfold scan
  rw [List.takeWhile_append_of_pos (by simpa using h)]
  simp [nb, oddR]
theorem nb_bl {x : UInt8} (h : nb x = true) : isBl x = false ∧ x ≠ 13 := by
  unfold nb oddR at h
  simp at h
  refine ⟨?_, fun e => ?_⟩
  · unfold isBl
    rw [Bool.or_eq_false_iff]
    refine ⟨?_, ?_⟩ <;> rw [beq_eq_false_iff_ne] <;> intro e <;> subst e <;> simp at h
  · subst e
    simp at h

/-- What stands at a place that a value may not have. -/
def badAt (v : List UInt8) (i : Nat) : Bool := match v[i]? with
  | none => false
  | some c => c == 13 || c == 10 || (decide (i = 0) || decide (i + 1 = v.length)) && isBl c
def goodV (v : List UInt8) : Prop := ∀ i, i < v.length → badAt v i = false
def goodF (f : Fld) : Prop := f.1.all nb = true ∧ goodV f.2 ∧ f.1 ≠ []
def encF (f : Fld) : List UInt8 := f.1 ++ [58, 32] ++ f.2 ++ [13, 10]
def encL (l : List Fld) : List UInt8 := l.flatMap encF
def rawF (f : Fld) : Fld := (f.1, 32 :: f.2)

theorem goodV_13 {v : List UInt8} (h : goodV v) : ∀ c ∈ v, c ≠ 13 := by
  intro c hc e
  obtain ⟨i, hi, rfl⟩ := List.getElem_of_mem hc
  have := h i hi
  unfold badAt at this
  rw [List.getElem?_eq_getElem hi] at this
  simp [e] at this
theorem goodV_head {v : List UInt8} (h : goodV v) : headBl v = false := by
  cases v with
  | nil => rfl
  | cons a t =>
    have := h 0 (by simp)
    unfold badAt at this
    simp at this
    show isBl a = false
    simp [this]
theorem goodV_last {v : List UInt8} (h : goodV v) : headBl v.reverse = false := by
  rcases List.eq_nil_or_concat v with rfl | ⟨t, a, rfl⟩
  · rfl
  · have := h t.length (by simp)
    unfold badAt at this
    simp at this
    simp [headBl, this]
theorem trim_raw {f : Fld} (h : goodV f.2) : trimF1 (rawF f) = f := by
  obtain ⟨n, v⟩ := f
  unfold trimF1 rawF
  dsimp only at h ⊢
  rw [trimS_bl, List.reverse_cons]
  have h1 := goodV_head h
  have h2 := goodV_last h
  have h3 : (v.reverse ++ [32]).dropWhile isBl = if v.reverse = [] then [] else v.reverse ++ [32] := by
    cases hv : v.reverse with
    | nil => simp [isBl]
    | cons a t =>
      rw [hv] at h2
      have : isBl a = false := h2
      simp [this]
  rw [h3]
  split
  · rename_i e
    have : v = [] := by simpa using e
    subst this
    rfl
  · rw [List.reverse_append, List.reverse_reverse]
    have : isBl 32 = true := by decide
    show (_, List.dropWhile isBl (32 :: v)) = _
    rw [List.dropWhile_cons_of_pos this]
    cases v with
    | nil => rfl
    | cons a t =>
      have : isBl a = false := h1
      rw [List.dropWhile_cons_of_neg (by simp [this])]

theorem hdr_enc (k : Nat) (f : Fld) (r : List UInt8) (L : List Fld) (many at_ : Nat) (h : goodF f) (hm : many + 1 ≤ 64) :
    hdrFrom (k + 1) (encF f ++ r) L many at_ = hdrFrom k r (L ++ [rawF f]) (many + 1) (at_ + (encF f).length) := by
  obtain ⟨n, v⟩ := f
  obtain ⟨h1, h2, h3⟩ := h
  dsimp only at h1 h2 h3
  have e : encF (n, v) ++ r = (n ++ 58 :: 32 :: v) ++ 13 :: 10 :: r := by simp [encF]
  have hl := line_app (n ++ 58 :: 32 :: v) r (by
    intro c hc
    rcases List.mem_append.1 hc with hc | hc
    · exact (nb_bl (List.all_eq_true.1 h1 c hc)).2
    · simp only [List.mem_cons] at hc
      rcases hc with rfl | rfl | hc
      · decide
      · decide
      · exact goodV_13 h2 c hc)
  rw [← e] at hl
  have hst : stepOf (encF (n, v) ++ r) = (encF (n, v)).length := by
    unfold stepOf
    rw [hl.1, hl.2]
    simp [encF]
    omega
  have hdr : (encF (n, v) ++ r).drop (encF (n, v)).length = r := by simp
  have hs := scan_name n (32 :: v) h1
  have hg : (n ++ 58 :: 32 :: v)[scan (n ++ 58 :: 32 :: v)]? = some 58 := by rw [hs]; simp
  obtain ⟨a, t, rfl⟩ : ∃ a t, n = a :: t := by cases n with | nil => exact absurd rfl h3 | cons a t => exact ⟨a, t, rfl⟩
  have hna : nb a = true := List.all_eq_true.1 h1 a (List.mem_cons_self ..)
  have hno : nameOk (a :: t ++ 58 :: 32 :: v) = true := by rw [nameOk_scan, hg, hs]; simp
  have hf := fld_scan _ hg
  rw [hs] at hf
  simp only [hdrFrom]
  rw [if_neg (by simp [encF]), hl.1, if_neg (by simp), if_neg (by rintro ⟨_, h⟩; have : isBl a = true := h; rw [(nb_bl hna).1] at this; cases this), if_neg (by rw [hno]; simp), if_pos hm, hst, hdr, hf]
  simp [rawF]
theorem hdr_encL (l : List Fld) (body : List UInt8) : ∀ (k : Nat) (L : List Fld) (many at_ : Nat), l.length < k → (∀ f ∈ l, goodF f) → many + l.length ≤ 64 →
    hdrFrom k (encL l ++ 13 :: 10 :: body) L many at_ = (L ++ l.map rawF, at_ + (encL l).length + 2) := by
  induction l with
  | nil =>
    intro k L many at_ hk _ _
    obtain ⟨k, rfl⟩ : ∃ m, k = m + 1 := ⟨k - 1, by simp at hk; omega⟩
    simp only [hdrFrom, encL, List.flatMap_nil, List.nil_append]
    rw [if_neg (by simp), if_pos (line_crlf body)]
    simp
  | cons f l ih =>
    intro k L many at_ hk hg hm
    obtain ⟨k, rfl⟩ : ∃ m, k = m + 1 := ⟨k - 1, by simp at hk; omega⟩
    simp only [List.length_cons] at hk hm
    have e : encL (f :: l) ++ 13 :: 10 :: body = encF f ++ (encL l ++ 13 :: 10 :: body) := by simp [encL]
    rw [e, hdr_enc k f _ L many at_ (hg f (List.mem_cons_self ..)) (by omega), ih k _ _ _ (by omega) (fun g h => hg g (List.mem_cons_of_mem _ h)) (by omega)]
    simp [encL]
    omega
/-- P10.6 -/
theorem hdr_back (l : List Fld) (body : List UInt8) (hg : ∀ f ∈ l, goodF f) (hl : l.length ≤ 60) : hdr (encL l ++ 13 :: 10 :: body) = (l, (encL l ++ [13, 10]).length) := by
  unfold hdr hdrRaw
  have hlen : ∀ l : List Fld, l.length ≤ (encL l).length := by
    intro l
    induction l with
    | nil => simp
    | cons f l ih => simp [encL, encF] at *; omega
  have hle := hlen l
  rw [hdr_encL l body _ [] 0 0 (by simp; omega) hg (by omega)]
  simp only [List.nil_append, Nat.zero_add, List.map_map]
  refine Prod.ext ?_ (by simp)
  show l.map (trimF1 ∘ rawF) = l
  conv => rhs; rw [← List.map_id l]
  exact List.map_congr_left fun f hf => trim_raw (hg f hf).2.1

/-! ## folding -/
abbrev FC := Bool × UInt8
def foldT (ps : List FC) : List UInt8 := ps.flatMap fun p => (if p.1 then [13, 10] else []) ++ [p.2]
def plainT (ps : List FC) : List UInt8 := ps.map Prod.snd
def okFC (p : FC) : Prop := p.2 ≠ 13 ∧ (p.1 = true → p.2 = 32)
def tailT : List UInt8 := [13, 10, 13, 10, 98, 111, 100, 121]
def longT : List UInt8 := [88, 45, 76, 111, 110, 103]

theorem hdr_cont (n : List UInt8) : ∀ (ps : List FC) (x v : List UInt8) (k at_ : Nat), (∀ p ∈ ps, okFC p) → (∀ c ∈ x, c ≠ 13) → headBl x = true → ps.length + 2 ≤ k →
    hdrFrom k (x ++ foldT ps ++ tailT) [(n, v)] 1 at_ = ([(n, v ++ x ++ plainT ps)], at_ + x.length + (foldT ps).length + 4) := by
  intro ps
  induction ps with
  | nil =>
    intro x v k at_ _ hx hb hk
    obtain ⟨k, rfl⟩ : ∃ m, k = m + 2 := ⟨k - 2, by simp at hk; omega⟩
    have e : x ++ foldT [] ++ tailT = x ++ 13 :: 10 :: [13, 10, 98, 111, 100, 121] := by simp [foldT, tailT]
    have hl := line_app x [13, 10, 98, 111, 100, 121] hx
    have hne : x ≠ [] := by intro h; subst h; cases hb
    have hst : stepOf (x ++ 13 :: 10 :: [13, 10, 98, 111, 100, 121]) = x.length + 2 := by unfold stepOf; rw [hl.1, hl.2]; rfl
    have hd : (x ++ 13 :: 10 :: [13, 10, 98, 111, 100, 121]).drop (x.length + 2) = [13, 10, 98, 111, 100, 121] := by
      rw [← List.drop_drop, List.drop_left]; rfl
    rw [e, hdrFrom, if_neg (by simp), hl.1, if_neg (by simp [hne]), if_pos ⟨by omega, hb⟩, if_pos (by omega), hst, hd, hdrFrom, if_neg (by simp), if_pos (line_crlf _)]
    simp [addVal, plainT, foldT]
    omega
  | cons p ps ih =>
    intro x v k at_ hps hx hb hk
    obtain ⟨f, c⟩ := p
    have hp := hps _ (List.mem_cons_self ..)
    have hps' : ∀ p ∈ ps, okFC p := fun p h => hps p (List.mem_cons_of_mem _ h)
    have hne : x ≠ [] := by intro h; subst h; cases hb
    simp only [List.length_cons] at hk
    cases f with
    | false =>
      have e : x ++ foldT ((false, c) :: ps) ++ tailT = (x ++ [c]) ++ foldT ps ++ tailT := by simp [foldT]
      rw [e, ih (x ++ [c]) v k at_ hps' (by
        intro d hd
        rcases List.mem_append.1 hd with h | h
        · exact hx d h
        · rw [List.mem_singleton.1 h]; exact hp.1) (by cases x with | nil => exact absurd rfl hne | cons a t => exact hb) (by omega)]
      simp [plainT, foldT]
      omega
    | true =>
      obtain rfl : c = 32 := hp.2 rfl
      obtain ⟨k, rfl⟩ : ∃ m, k = m + 1 := ⟨k - 1, by omega⟩
      have e : x ++ foldT ((true, 32) :: ps) ++ tailT = x ++ 13 :: 10 :: ([32] ++ foldT ps ++ tailT) := by simp [foldT]
      have hl := line_app x ([32] ++ foldT ps ++ tailT) hx
      have hst : stepOf (x ++ 13 :: 10 :: ([32] ++ foldT ps ++ tailT)) = x.length + 2 := by unfold stepOf; rw [hl.1, hl.2]; rfl
      have hd : (x ++ 13 :: 10 :: ([32] ++ foldT ps ++ tailT)).drop (x.length + 2) = [32] ++ foldT ps ++ tailT := by
        rw [← List.drop_drop, List.drop_left]; rfl
      rw [e, hdrFrom, if_neg (by simp), hl.1, if_neg (by simp [hne]), if_pos ⟨by omega, hb⟩, if_pos (by omega), hst, hd]
      have ea : addVal [(n, v)] (1 - 1) x = [(n, v ++ x)] := by simp [addVal]
      rw [ea, ih [32] (v ++ x) k _ hps' (by simp) rfl (by omega)]
      simp [plainT, foldT]
      omega
theorem hdr_first : ∀ (ps : List FC) (y : List UInt8) (k : Nat), (∀ p ∈ ps, okFC p) → (∀ c ∈ y, c ≠ 13) → ps.length + 3 ≤ k →
    hdrFrom k (longT ++ 58 :: y ++ foldT ps ++ tailT) [] 0 0 = ([(longT, y ++ plainT ps)], (longT ++ 58 :: y ++ foldT ps).length + 4) := by
  have key : ∀ (y r : List UInt8) (k : Nat), (∀ c ∈ y, c ≠ 13) → hdrFrom (k + 1) (longT ++ 58 :: y ++ 13 :: 10 :: r) [] 0 0 = hdrFrom k r [(longT, y)] 1 (y.length + 9) := by
    intro y r k hy
    have hl := line_app (longT ++ 58 :: y) r (by
      intro c hc
      rcases List.mem_append.1 hc with hc | hc
      · simp [longT] at hc; rcases hc with rfl | rfl | rfl | rfl | rfl | rfl <;> decide
      · rcases List.mem_cons.1 hc with rfl | hc
        · decide
        · exact hy c hc)
    have hst : stepOf (longT ++ 58 :: y ++ 13 :: 10 :: r) = y.length + 9 := by unfold stepOf; rw [hl.1, hl.2]; simp [longT]
    have hd : (longT ++ 58 :: y ++ 13 :: 10 :: r).drop (y.length + 9) = r := by
      rw [show y.length + 9 = (longT ++ 58 :: y).length + 2 from by simp [longT], ← List.drop_drop, List.drop_left]; rfl
    have hs := scan_name longT y (by decide)
    have hg : (longT ++ 58 :: y)[scan (longT ++ 58 :: y)]? = some 58 := by rw [hs]; simp
    have hno : nameOk (longT ++ 58 :: y) = true := by rw [nameOk_scan, hg, hs]; simp [longT]
    have hf := fld_scan _ hg
    rw [hs] at hf
    rw [hdrFrom, if_neg (by simp), hl.1, if_neg (by simp), if_neg (by simp), if_neg (by rw [hno]; simp), if_pos (by omega), hst, hd, hf]
    simp
  intro ps
  induction ps with
  | nil =>
    intro y k _ hy hk
    obtain ⟨k, rfl⟩ : ∃ m, k = m + 2 := ⟨k - 2, by simp at hk; omega⟩
    have e : longT ++ 58 :: y ++ foldT [] ++ tailT = longT ++ 58 :: y ++ 13 :: 10 :: [13, 10, 98, 111, 100, 121] := by simp [foldT, tailT]
    rw [e, key y _ _ hy, hdrFrom, if_neg (by simp), if_pos (line_crlf _)]
    simp [plainT, foldT, longT]
  | cons p ps ih =>
    intro y k hps hy hk
    obtain ⟨f, c⟩ := p
    have hp := hps _ (List.mem_cons_self ..)
    have hps' : ∀ p ∈ ps, okFC p := fun p h => hps p (List.mem_cons_of_mem _ h)
    simp only [List.length_cons] at hk
    cases f with
    | false =>
      have e : longT ++ 58 :: y ++ foldT ((false, c) :: ps) ++ tailT = longT ++ 58 :: (y ++ [c]) ++ foldT ps ++ tailT := by simp [foldT]
      rw [e, ih (y ++ [c]) k hps' (by
        intro d hd
        rcases List.mem_append.1 hd with h | h
        · exact hy d h
        · rw [List.mem_singleton.1 h]; exact hp.1) (by omega)]
      simp [plainT, foldT, longT]
    | true =>
      obtain rfl : c = 32 := hp.2 rfl
      obtain ⟨k, rfl⟩ : ∃ m, k = m + 1 := ⟨k - 1, by omega⟩
      have e : longT ++ 58 :: y ++ foldT ((true, 32) :: ps) ++ tailT = longT ++ 58 :: y ++ 13 :: 10 :: ([32] ++ foldT ps ++ tailT) := by simp [foldT]
      rw [e, key y _ _ hy, hdr_cont longT ps [32] y k _ hps' (by simp) rfl (by omega)]
      simp [plainT, foldT, longT]
      omega
/-- P10.1: a folded field. -/
theorem hdr_fold (ps : List FC) (h : ∀ p ∈ ps, okFC p) : hdr (longT ++ 58 :: 32 :: foldT ps ++ tailT) = ([trimF1 (longT, 32 :: plainT ps)], (longT ++ 58 :: 32 :: foldT ps).length + 4) := by
  unfold hdr hdrRaw
  have hlen : ∀ l : List FC, l.length ≤ (foldT l).length := by
    intro l
    induction l with
    | nil => simp
    | cons f l ih => simp [foldT] at *; omega
  have hle := hlen ps
  have e : longT ++ 58 :: 32 :: foldT ps = longT ++ 58 :: [32] ++ foldT ps := by simp
  rw [e, hdr_first ps [32] _ h (by simp) (by simp [longT, tailT]; omega)]
  simp
end Go.Proofs.YtbjbljfmcpidmaaDoor

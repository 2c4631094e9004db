/- MimeJoins: bodies that are put together are found again. -/
import Derived.Test.YtbjbljfmcpidmaaGreatDoorPure1
import Derived.Test.YtbjbljfmcpidmaaGreatDoorInsideP
import Derived.Test.YtbjbljfmcpidmaaGreatDoorWithinP
import Derived.Test.YtbjbljfmcpidmaaGreatDoorTrim
import Derived.Test.YtbjbljfmcpidmaaGreatDoorSectionW
import Derived.Test.YtbjbljfmcpidmaaGreatDoorShown11
import Derived.StillTactics
import Derived.IntWalk
namespace Go.Proofs.YtbjbljfmcpidmaaGreatDoor
open Go.RowKit Go.Lib Go.Shelf

theorem line_app (x rest : List UInt8) (h : ∀ c ∈ x, c ≠ 13) : lineOf (x ++ 13 :: 10 :: rest) = x ∧ wholeOf (x ++ 13 :: 10 :: rest) = true := by
  induction x with
  | nil => exact line_crlf rest
  | cons a t ih =>
    have h1 := ih fun c hc => h c (List.mem_cons_of_mem _ hc)
    have ha : (13 == a) = false := beq_eq_false_iff_ne.2 (Ne.symm (h a (List.mem_cons_self ..)))
    have h2 := line_cons a (t ++ 13 :: 10 :: rest) (by simp [List.isPrefixOf, ha])
    rw [List.cons_append, h2.1, h2.2, h1.1, h1.2]
    exact ⟨rfl, rfl⟩
theorem scan_name (n rest : List UInt8) (h : n.all nb = true) : scan (n ++ 58 :: rest) = n.length := by
  unfold scan
  rw [List.takeWhile_append_of_pos (by simpa using h)]
  simp [nb, oddR]
theorem nb_bl {x : UInt8} (h : nb x = true) : isBl x = false ∧ x ≠ 13 := by
  unfold nb oddR at h
  simp at h
  refine ⟨?_, fun e => ?_⟩
  · unfold isBl
    rw [Bool.or_eq_false_iff]
    refine ⟨?_, ?_⟩ <;> rw [beq_eq_false_iff_ne] <;> intro e <;> subst e <;> simp at h
  · subst e
    simp at h

/-- What stands at a place that a value may not have. -/
def badAt (v : List UInt8) (i : Nat) : Bool := match v[i]? with
  | none => false
  | some c => c == 13 || c == 10 || (decide (i = 0) || decide (i + 1 = v.length)) && isBl c
def goodV (v : List UInt8) : Prop := ∀ i, i < v.length → badAt v i = false
def goodF (f : Fld) : Prop := f.1.all nb = true ∧ goodV f.2 ∧ f.1 ≠ []
def encF (f : Fld) : List UInt8 := f.1 ++ [58, 32] ++ f.2 ++ [13, 10]
def encL (l : List Fld) : List UInt8 := l.flatMap encF
def rawF (f : Fld) : Fld := (f.1, 32 :: f.2)

theorem goodV_13 {v : List UInt8} (h : goodV v) : ∀ c ∈ v, c ≠ 13 := by
  intro c hc e
  obtain ⟨i, hi, rfl⟩ := List.getElem_of_mem hc
  have := h i hi
  unfold badAt at this
  rw [List.getElem?_eq_getElem hi] at this
  simp [e] at this
theorem goodV_head {v : List UInt8} (h : goodV v) : headBl v = false := by
  cases v with
  | nil => rfl
  | cons a t =>
    have := h 0 (by simp)
    unfold badAt at this
    simp at this
    show isBl a = false
    simp [this]
theorem goodV_last {v : List UInt8} (h : goodV v) : headBl v.reverse = false := by
  rcases List.eq_nil_or_concat v with rfl | ⟨t, a, rfl⟩
  · rfl
  · have := h t.length (by simp)
    unfold badAt at this
    simp at this
    simp [headBl, this]
theorem trim_raw {f : Fld} (h : goodV f.2) : trimF1 (rawF f) = f := by
  obtain ⟨n, v⟩ := f
  unfold trimF1 rawF
  dsimp only at h ⊢
  rw [trimS_bl, List.reverse_cons]
  have h1 := goodV_head h
  have h2 := goodV_last h
  have h3 : (v.reverse ++ [32]).dropWhile isBl = if v.reverse = [] then [] else v.reverse ++ [32] := by
    cases hv : v.reverse with
    | nil => simp [isBl]
    | cons a t =>
      rw [hv] at h2
      have : isBl a = false := h2
      simp [this]
  rw [h3]
  split
  · rename_i e
    have : v = [] := by simpa using e
    subst this
    rfl
  · rw [List.reverse_append, List.reverse_reverse]
    have : isBl 32 = true := by decide
    show (_, List.dropWhile isBl (32 :: v)) = _
    rw [List.dropWhile_cons_of_pos this]
    cases v with
    | nil => rfl
    | cons a t =>
      have : isBl a = false := h1
      rw [List.dropWhile_cons_of_neg (by simp [this])]

theorem hdr_enc (k : Nat) (f : Fld) (r : List UInt8) (L : List Fld) (many at_ : Nat) (h : goodF f) (hm : many + 1 ≤ 64) :
    hdrFrom (k + 1) (encF f ++ r) L many at_ = hdrFrom k r (L ++ [rawF f]) (many + 1) (at_ + (encF f).length) := by
  obtain ⟨n, v⟩ := f
  obtain ⟨h1, h2, h3⟩ := h
  dsimp only at h1 h2 h3
  have e : encF (n, v) ++ r = (n ++ 58 :: 32 :: v) ++ 13 :: 10 :: r := by simp [encF]
  have hl := line_app (n ++ 58 :: 32 :: v) r (by
    intro c hc
    rcases List.mem_append.1 hc with hc | hc
    · exact (nb_bl (List.all_eq_true.1 h1 c hc)).2
    · simp only [List.mem_cons] at hc
      rcases hc with rfl | rfl | hc
      · decide
      · decide
      · exact goodV_13 h2 c hc)
  rw [← e] at hl
  have hst : stepOf (encF (n, v) ++ r) = (encF (n, v)).length := by
    unfold stepOf
    rw [hl.1, hl.2]
    simp [encF]
    omega
  have hdr : (encF (n, v) ++ r).drop (encF (n, v)).length = r := by simp
  have hs := scan_name n (32 :: v) h1
  have hg : (n ++ 58 :: 32 :: v)[scan (n ++ 58 :: 32 :: v)]? = some 58 := by rw [hs]; simp
  obtain ⟨a, t, rfl⟩ : ∃ a t, n = a :: t := by cases n with | nil => exact absurd rfl h3 | cons a t => exact ⟨a, t, rfl⟩
  have hna : nb a = true := List.all_eq_true.1 h1 a (List.mem_cons_self ..)
  have hno : nameOk (a :: t ++ 58 :: 32 :: v) = true := by rw [nameOk_scan, hg, hs]; simp
  have hf := fld_scan _ hg
  rw [hs] at hf
  simp only [hdrFrom]
  rw [if_neg (by simp [encF]), hl.1, if_neg (by simp), if_neg (by rintro ⟨_, h⟩; have : isBl a = true := h; rw [(nb_bl hna).1] at this; cases this), if_neg (by rw [hno]; simp), if_pos hm, hst, hdr, hf]
  simp [rawF]
theorem hdr_encL (l : List Fld) (body : List UInt8) : ∀ (k : Nat) (L : List Fld) (many at_ : Nat), l.length < k → (∀ f ∈ l, goodF f) → many + l.length ≤ 64 →
    hdrFrom k (encL l ++ 13 :: 10 :: body) L many at_ = (L ++ l.map rawF, at_ + (encL l).length + 2) := by
  induction l with
  | nil =>
    intro k L many at_ hk _ _
    obtain ⟨k, rfl⟩ : ∃ m, k = m + 1 := ⟨k - 1, by simp at hk; omega⟩
    simp only [hdrFrom, encL, List.flatMap_nil, List.nil_append]
    rw [if_neg (by simp), if_pos (line_crlf body)]
    simp
  | cons f l ih =>
    intro k L many at_ hk hg hm
    obtain ⟨k, rfl⟩ : ∃ m, k = m + 1 := ⟨k - 1, by simp at hk; omega⟩
    simp only [List.length_cons] at hk hm
    have e : encL (f :: l) ++ 13 :: 10 :: body = encF f ++ (encL l ++ 13 :: 10 :: body) := by simp [encL]
    rw [e, hdr_enc k f _ L many at_ (hg f (List.mem_cons_self ..)) (by omega), ih k _ _ _ (by omega) (fun g h => hg g (List.mem_cons_of_mem _ h)) (by omega)]
    simp [encL]
    omega
/-- P10.6 -/
theorem hdr_back (l : List Fld) (body : List UInt8) (hg : ∀ f ∈ l, goodF f) (hl : l.length ≤ 60) : hdr (encL l ++ 13 :: 10 :: body) = (l, (encL l ++ [13, 10]).length) := by
  unfold hdr hdrRaw
  have hlen : ∀ l : List Fld, l.length ≤ (encL l).length := by
    intro l
    induction l with
    | nil => simp
    | cons f l ih => simp [encL, encF] at *; omega
  have hle := hlen l
  rw [hdr_encL l body _ [] 0 0 (by simp; omega) hg (by omega)]
  simp only [List.nil_append, Nat.zero_add, List.map_map]
  refine Prod.ext ?_ (by simp)
  show l.map (trimF1 ∘ rawF) = l
  conv => rhs; rw [← List.map_id l]
  exact List.map_congr_left fun f hf => trim_raw (hg f hf).2.1

/-! ## folding -/
abbrev FC := Bool × UInt8
def foldT (ps : List FC) : List UInt8 := ps.flatMap fun p => (if p.1 then [13, 10] else []) ++ [p.2]
def plainT (ps : List FC) : List UInt8 := ps.map Prod.snd
def okFC (p : FC) : Prop := p.2 ≠ 13 ∧ (p.1 = true → p.2 = 32)
def tailT : List UInt8 := [13, 10, 13, 10, 98, 111, 100, 121]
def longT : List UInt8 := [88, 45, 76, 111, 110, 103]

theorem hdr_cont (n : List UInt8) : ∀ (ps : List FC) (x v : List UInt8) (k at_ : Nat), (∀ p ∈ ps, okFC p) → (∀ c ∈ x, c ≠ 13) → headBl x = true → ps.length + 2 ≤ k →
    hdrFrom k (x ++ foldT ps ++ tailT) [(n, v)] 1 at_ = ([(n, v ++ x ++ plainT ps)], at_ + x.length + (foldT ps).length + 4) := by
  intro ps
  induction ps with
  | nil =>
    intro x v k at_ _ hx hb hk
    obtain ⟨k, rfl⟩ : ∃ m, k = m + 2 := ⟨k - 2, by simp at hk; omega⟩
    have e : x ++ foldT [] ++ tailT = x ++ 13 :: 10 :: [13, 10, 98, 111, 100, 121] := by simp [foldT, tailT]
    have hl := line_app x [13, 10, 98, 111, 100, 121] hx
    have hne : x ≠ [] := by intro h; subst h; cases hb
    have hst : stepOf (x ++ 13 :: 10 :: [13, 10, 98, 111, 100, 121]) = x.length + 2 := by unfold stepOf; rw [hl.1, hl.2]; rfl
    have hd : (x ++ 13 :: 10 :: [13, 10, 98, 111, 100, 121]).drop (x.length + 2) = [13, 10, 98, 111, 100, 121] := by
      rw [← List.drop_drop, List.drop_left]; rfl
    rw [e, hdrFrom, if_neg (by simp), hl.1, if_neg (by simp [hne]), if_pos ⟨by omega, hb⟩, if_pos (by omega), hst, hd, hdrFrom, if_neg (by simp), if_pos (line_crlf _)]
    simp [addVal, plainT, foldT]
    omega
  | cons p ps ih =>
    intro x v k at_ hps hx hb hk
    obtain ⟨f, c⟩ := p
    have hp := hps _ (List.mem_cons_self ..)
    have hps' : ∀ p ∈ ps, okFC p := fun p h => hps p (List.mem_cons_of_mem _ h)
    have hne : x ≠ [] := by intro h; subst h; cases hb
    simp only [List.length_cons] at hk
    cases f with
    | false =>
      have e : x ++ foldT ((false, c) :: ps) ++ tailT = (x ++ [c]) ++ foldT ps ++ tailT := by simp [foldT]
      rw [e, ih (x ++ [c]) v k at_ hps' (by
        intro d hd
        rcases List.mem_append.1 hd with h | h
        · exact hx d h
        · rw [List.mem_singleton.1 h]; exact hp.1) (by cases x with | nil => exact absurd rfl hne | cons a t => exact hb) (by omega)]
      simp [plainT, foldT]
      omega
    | true =>
      obtain rfl : c = 32 := hp.2 rfl
      obtain ⟨k, rfl⟩ : ∃ m, k = m + 1 := ⟨k - 1, by omega⟩
      have e : x ++ foldT ((true, 32) :: ps) ++ tailT = x ++ 13 :: 10 :: ([32] ++ foldT ps ++ tailT) := by simp [foldT]
      have hl := line_app x ([32] ++ foldT ps ++ tailT) hx
      have hst : stepOf (x ++ 13 :: 10 :: ([32] ++ foldT ps ++ tailT)) = x.length + 2 := by unfold stepOf; rw [hl.1, hl.2]; rfl
      have hd : (x ++ 13 :: 10 :: ([32] ++ foldT ps ++ tailT)).drop (x.length + 2) = [32] ++ foldT ps ++ tailT := by
        rw [← List.drop_drop, List.drop_left]; rfl
      rw [e, hdrFrom, if_neg (by simp), hl.1, if_neg (by simp [hne]), if_pos ⟨by omega, hb⟩, if_pos (by omega), hst, hd]
      have ea : addVal [(n, v)] (1 - 1) x = [(n, v ++ x)] := by simp [addVal]
      rw [ea, ih [32] (v ++ x) k _ hps' (by simp) rfl (by omega)]
      simp [plainT, foldT]
      omega
theorem hdr_first : ∀ (ps : List FC) (y : List UInt8) (k : Nat), (∀ p ∈ ps, okFC p) → (∀ c ∈ y, c ≠ 13) → ps.length + 3 ≤ k →
    hdrFrom k (longT ++ 58 :: y ++ foldT ps ++ tailT) [] 0 0 = ([(longT, y ++ plainT ps)], (longT ++ 58 :: y ++ foldT ps).length + 4) := by
  have key : ∀ (y r : List UInt8) (k : Nat), (∀ c ∈ y, c ≠ 13) → hdrFrom (k + 1) (longT ++ 58 :: y ++ 13 :: 10 :: r) [] 0 0 = hdrFrom k r [(longT, y)] 1 (y.length + 9) := by
    intro y r k hy
    have hl := line_app (longT ++ 58 :: y) r (by
      intro c hc
      rcases List.mem_append.1 hc with hc | hc
      · simp [longT] at hc; rcases hc with rfl | rfl | rfl | rfl | rfl | rfl <;> decide
      · rcases List.mem_cons.1 hc with rfl | hc
        · decide
        · exact hy c hc)
    have hst : stepOf (longT ++ 58 :: y ++ 13 :: 10 :: r) = y.length + 9 := by unfold stepOf; rw [hl.1, hl.2]; simp [longT]
    have hd : (longT ++ 58 :: y ++ 13 :: 10 :: r).drop (y.length + 9) = r := by
      rw [show y.length + 9 = (longT ++ 58 :: y).length + 2 from by simp [longT], ← List.drop_drop, List.drop_left]; rfl
    have hs := scan_name longT y (by decide)
    have hg : (longT ++ 58 :: y)[scan (longT ++ 58 :: y)]? = some 58 := by rw [hs]; simp
    have hno : nameOk (longT ++ 58 :: y) = true := by rw [nameOk_scan, hg, hs]; simp [longT]
    have hf := fld_scan _ hg
    rw [hs] at hf
    rw [hdrFrom, if_neg (by simp), hl.1, if_neg (by simp), if_neg (by simp), if_neg (by rw [hno]; simp), if_pos (by omega), hst, hd, hf]
    simp
  intro ps
  induction ps with
  | nil =>
    intro y k _ hy hk
    obtain ⟨k, rfl⟩ : ∃ m, k = m + 2 := ⟨k - 2, by simp at hk; omega⟩
    have e : longT ++ 58 :: y ++ foldT [] ++ tailT = longT ++ 58 :: y ++ 13 :: 10 :: [13, 10, 98, 111, 100, 121] := by simp [foldT, tailT]
    rw [e, key y _ _ hy, hdrFrom, if_neg (by simp), if_pos (line_crlf _)]
    simp [plainT, foldT, longT]
  | cons p ps ih =>
    intro y k hps hy hk
    obtain ⟨f, c⟩ := p
    have hp := hps _ (List.mem_cons_self ..)
    have hps' : ∀ p ∈ ps, okFC p := fun p h => hps p (List.mem_cons_of_mem _ h)
    simp only [List.length_cons] at hk
    cases f with
    | false =>
      have e : longT ++ 58 :: y ++ foldT ((false, c) :: ps) ++ tailT = longT ++ 58 :: (y ++ [c]) ++ foldT ps ++ tailT := by simp [foldT]
      rw [e, ih (y ++ [c]) k hps' (by
        intro d hd
        rcases List.mem_append.1 hd with h | h
        · exact hy d h
        · rw [List.mem_singleton.1 h]; exact hp.1) (by omega)]
      simp [plainT, foldT, longT]
    | true =>
      obtain rfl : c = 32 := hp.2 rfl
      obtain ⟨k, rfl⟩ : ∃ m, k = m + 1 := ⟨k - 1, by omega⟩
      have e : longT ++ 58 :: y ++ foldT ((true, 32) :: ps) ++ tailT = longT ++ 58 :: y ++ 13 :: 10 :: ([32] ++ foldT ps ++ tailT) := by simp [foldT]
      rw [e, key y _ _ hy, hdr_cont longT ps [32] y k _ hps' (by simp) rfl (by omega)]
      simp [plainT, foldT, longT]
      omega
/-- P10.1: a folded field. -/
theorem hdr_fold (ps : List FC) (h : ∀ p ∈ ps, okFC p) : hdr (longT ++ 58 :: 32 :: foldT ps ++ tailT) = ([trimF1 (longT, 32 :: plainT ps)], (longT ++ 58 :: 32 :: foldT ps).length + 4) := by
  unfold hdr hdrRaw
  have hlen : ∀ l : List FC, l.length ≤ (foldT l).length := by
    intro l
    induction l with
    | nil => simp
    | cons f l ih => simp [foldT] at *; omega
  have hle := hlen ps
  have e : longT ++ 58 :: 32 :: foldT ps = longT ++ 58 :: [32] ++ foldT ps := by simp
  rw [e, hdr_first ps [32] _ h (by simp) (by simp [longT, tailT]; omega)]
  simp
def ctB : List UInt8 := [67, 111, 110, 116, 101, 110, 116, 45, 84, 121, 112, 101]
def mvB : List UInt8 := [109, 117, 108, 116, 105, 112, 97, 114, 116, 47, 109, 105, 120, 101, 100, 59, 32, 98, 111, 117, 110, 100, 97, 114, 121, 61, 34, 61, 122, 122, 34]
def ivB : List UInt8 := [105, 109, 97, 103, 101, 47, 120]
def bzB : List UInt8 := [61, 122, 122]
def dzB : List UInt8 := [45, 45, 61, 122, 122]
def aheadB : List UInt8 := [97, 104, 101, 97, 100]
def behindB : List UInt8 := [98, 101, 104, 105, 110, 100]
def lineB : List UInt8 := [67, 111, 110, 116, 101, 110, 116, 45, 84, 121, 112, 101, 58, 32, 105, 109, 97, 103, 101, 47, 120]
def headM : List UInt8 := encL [(ctB, mvB)] ++ 13 :: 10 :: []
def pieceM (s : List UInt8) : List UInt8 := dzB ++ 13 :: 10 :: (lineB ++ 13 :: 10 :: 13 :: 10 :: (s ++ 13 :: 10 :: []))
def tailM : List UInt8 := (dzB ++ [45, 45]) ++ 13 :: 10 :: behindB
def bodyM (ss : List (List UInt8)) : List UInt8 := aheadB ++ 13 :: 10 :: (ss.flatMap pieceM ++ tailM)
def textM (ss : List (List UInt8)) : List UInt8 := headM ++ bodyM ss
/-- The boundary's line stands nowhere in a text. -/
def noZ (s : List UInt8) : Prop := ∀ p q, s ≠ p ++ dzB ++ q
theorem noZ_left {x y : List UInt8} (h : noZ (x ++ y)) : noZ x := fun p q e => h p (q ++ y) (by rw [e]; simp)
theorem noZ_right {x y : List UInt8} (h : noZ (x ++ y)) : noZ y := fun p q e => h (x ++ p) q (by rw [e]; simp)
theorem sort_noZ {x : List UInt8} (h : noZ x) : sortS x bzB = 0 := by
  unfold sortS
  rw [if_neg]
  intro e
  unfold Lib.hasPrefix at e
  rw [List.isPrefixOf_iff_prefix] at e
  obtain ⟨t, ht⟩ := e
  exact h [] t ht.symm
theorem line_two (y : List UInt8) : ∀ x : List UInt8, wholeOf (x ++ 13 :: 10 :: y) = true ∧ (lineOf (x ++ 13 :: 10 :: y) = x ∨ ∃ x1 x2, x = x1 ++ 13 :: 10 :: x2 ∧ lineOf (x ++ 13 :: 10 :: y) = x1) := by
  intro x
  induction x with
  | nil => exact ⟨(line_crlf y).2, .inl (line_crlf y).1⟩
  | cons a t ih =>
    rw [List.cons_append]
    by_cases hp : List.isPrefixOf [13, 10] (a :: (t ++ 13 :: 10 :: y)) = true
    · cases t with
      | nil => simp [List.isPrefixOf] at hp
      | cons a2 t2 =>
        simp only [List.cons_append, List.isPrefixOf, Bool.and_eq_true, beq_iff_eq] at hp
        obtain ⟨rfl, rfl, _⟩ := hp
        exact ⟨(line_crlf _).2, .inr ⟨[], t2, rfl, (line_crlf _).1⟩⟩
    · have h2 := line_cons a (t ++ 13 :: 10 :: y) hp
      rw [h2.1, h2.2]
      refine ⟨ih.1, ?_⟩
      rcases ih.2 with h | ⟨x1, x2, rfl, h⟩
      · exact .inl (by rw [h])
      · exact .inr ⟨a :: x1, x2, rfl, by rw [h]⟩
theorem marks_fuel (b bd : List UInt8) (to_ : Nat) (ht : to_ ≤ b.length) : ∀ f f' at_, at_ ≤ to_ → to_ - at_ < f → to_ - at_ < f' → marksS f b bd to_ at_ = marksS f' b bd to_ at_ := by
  intro f
  induction f with
  | zero => intro f' at_ _ h; omega
  | succ f ih =>
    intro f' at_ ha h h'
    cases f' with
    | zero => omega
    | succ f' =>
      unfold marksS
      congr 1
      split
      · rfl
      · rename_i hc
        have hw : wholeOf (cutB b at_ to_) = true := by
          cases hq : wholeOf (cutB b at_ to_) with
          | true => rfl
          | false => exact absurd (.inr hq) hc
        exact ih f' _ (next_le b at_ to_) (next_room b at_ to_ f ha ht h hw) (next_room b at_ to_ f' ha ht h' hw)
/-- All delimiters, from a place to the end. -/
def mkM (b : List UInt8) (at_ : Nat) : List Mark := marksS (b.length + 1) b bzB b.length at_
theorem mk_step {b : List UInt8} {at_ : Nat} {x y : List UInt8} (h : b.drop at_ = x ++ 13 :: 10 :: y) (hl : lineOf (b.drop at_) = x) (hw : wholeOf (b.drop at_) = true) :
    b.drop (at_ + (x.length + 2)) = y ∧ at_ + (x.length + 2) ≤ b.length ∧ mkM b at_ = (if sortS x bzB = 0 then [] else [(at_, at_ + (x.length + 2), decide (sortS x bzB = 2))]) ++ (if sortS x bzB = 2 then [] else mkM b (at_ + (x.length + 2))) := by
  have hlen : b.length - at_ = x.length + 2 + y.length := by
    have := congrArg List.length h
    simp at this
    omega
  have hn : nextOf b at_ b.length = at_ + (x.length + 2) := by
    unfold nextOf cutB
    rw [List.take_length, hl]
    omega
  refine ⟨?_, by omega, ?_⟩
  · rw [← List.drop_drop, h]
    simp
  · unfold mkM
    conv => lhs; unfold marksS
    rw [hn]
    unfold cutB
    rw [List.take_length, hl, hw]
    congr 1
    have hm : marksS b.length b bzB b.length (at_ + (x.length + 2)) = marksS (b.length + 1) b bzB b.length (at_ + (x.length + 2)) := marks_fuel b bzB b.length (Nat.le_refl _) _ _ _ (by omega) (by omega) (by omega)
    rw [hm]
    by_cases h2 : sortS x bzB = 2
    · simp [h2]
    · simp [h2]
theorem mk_skip {b : List UInt8} {y : List UInt8} : ∀ (N : Nat) (x : List UInt8) (at_ : Nat), x.length ≤ N → noZ x → b.drop at_ = x ++ 13 :: 10 :: y → mkM b at_ = mkM b (at_ + (x.length + 2)) := by
  intro N
  induction N with
  | zero =>
    intro x at_ hN hz h
    obtain rfl : x = [] := List.eq_nil_of_length_eq_zero (by omega)
    obtain ⟨q1, q2, q3⟩ := mk_step (x := []) h (by rw [h]; exact (line_crlf y).1) (by rw [h]; exact (line_crlf y).2)
    rw [q3, sort_noZ hz]
    simp
  | succ N ih =>
    intro x at_ hN hz h
    obtain ⟨hw, hl | ⟨x1, x2, rfl, hl⟩⟩ := line_two y x
    · obtain ⟨q1, q2, q3⟩ := mk_step h (by rw [h]; exact hl) (by rw [h]; exact hw)
      rw [q3, sort_noZ hz]
      simp
    · have h' : b.drop at_ = x1 ++ 13 :: 10 :: (x2 ++ 13 :: 10 :: y) := by rw [h]; simp
      obtain ⟨q1, q2, q3⟩ := mk_step h' (by rw [h]; exact hl) (by rw [h]; exact hw)
      rw [q3, sort_noZ (noZ_left hz)]
      have hz2 : noZ x2 := noZ_right (x := x1 ++ [13, 10]) (by simpa using hz)
      simp only [if_true, List.nil_append]
      rw [if_neg (by decide), ih x2 _ (by simp at hN; omega) hz2 q1]
      congr 1
      simp
      omega
def lenM (s : List UInt8) : Nat := 34 + s.length
def marksM : Nat → List (List UInt8) → List Mark
  | at_, [] => [(at_, at_ + 9, true)]
  | at_, s :: ss => (at_, at_ + 7, false) :: marksM (at_ + lenM s) ss
theorem marks_all (b : List UInt8) : ∀ (ss : List (List UInt8)) (at_ : Nat), (∀ s ∈ ss, noZ s) → b.drop at_ = ss.flatMap pieceM ++ tailM → mkM b at_ = marksM at_ ss := by
  intro ss
  induction ss with
  | nil =>
    intro at_ _ h
    have h' : b.drop at_ = (dzB ++ [45, 45]) ++ 13 :: 10 :: behindB := h
    have hl := line_app (dzB ++ [45, 45]) behindB (by decide)
    obtain ⟨q1, q2, q3⟩ := mk_step h' (by rw [h']; exact hl.1) (by rw [h']; exact hl.2)
    rw [q3, show sortS (dzB ++ [45, 45]) bzB = 2 from by decide]
    rfl
  | cons s ss ih =>
    intro at_ hz h
    have h1 : b.drop at_ = dzB ++ 13 :: 10 :: (lineB ++ 13 :: 10 :: ([] ++ 13 :: 10 :: (s ++ 13 :: 10 :: (ss.flatMap pieceM ++ tailM)))) := by
      rw [h, List.flatMap_cons]
      simp [pieceM]
    have hl1 := line_app dzB (lineB ++ 13 :: 10 :: ([] ++ 13 :: 10 :: (s ++ 13 :: 10 :: (ss.flatMap pieceM ++ tailM)))) (by decide)
    obtain ⟨h2, _, q1⟩ := mk_step h1 (by rw [h1]; exact hl1.1) (by rw [h1]; exact hl1.2)
    have hl2 := line_app lineB ([] ++ 13 :: 10 :: (s ++ 13 :: 10 :: (ss.flatMap pieceM ++ tailM))) (by decide)
    obtain ⟨h3, _, q2⟩ := mk_step h2 (by rw [h2]; exact hl2.1) (by rw [h2]; exact hl2.2)
    have hl3 := line_app [] (s ++ 13 :: 10 :: (ss.flatMap pieceM ++ tailM)) (by simp)
    obtain ⟨h4, _, q3⟩ := mk_step h3 (by rw [h3]; exact hl3.1) (by rw [h3]; exact hl3.2)
    have q4 := mk_skip s.length s _ (Nat.le_refl _) (hz s (List.mem_cons_self ..)) h4
    have h5 : b.drop (at_ + lenM s) = ss.flatMap pieceM ++ tailM := by
      have e : at_ + lenM s = at_ + (dzB.length + 2) + (lineB.length + 2) + (([] : List UInt8).length + 2) + (s.length + 2) := by
        simp [lenM, dzB, lineB]
        omega
      rw [e, ← List.drop_drop, h4]
      simp
    have q5 := ih _ (fun x hx => hz x (List.mem_cons_of_mem _ hx)) h5
    rw [q1, show sortS dzB bzB = 1 from by decide, q2, show sortS lineB bzB = 0 from by decide, q3, show sortS [] bzB = 0 from by decide, q4, marksM, ← q5]
    simp only [if_true, List.nil_append, show ¬ (1 = 0) from by decide, show ¬ (1 = 2) from by decide, show ¬ (0 = 2) from by decide, if_false]
    rw [show at_ + lenM s = at_ + (dzB.length + 2) + (lineB.length + 2) + (([] : List UInt8).length + 2) + (s.length + 2) from by simp [lenM, dzB, lineB]; omega]
    rfl
def kImage : List UInt8 := [73, 77, 65, 71, 69]
def kMulti : List UInt8 := mpT
def kMixed : List UInt8 := [77, 73, 88, 69, 68]
def kidM (g : Nat) (s : List UInt8) : PT := .mk kImage [88] [] sevenT g (g + 25) (g + 25 + s.length) []
def kidsM : Nat → List (List UInt8) → List PT
  | _, [] => []
  | at_, s :: ss => kidM (at_ + 7) s :: kidsM (at_ + lenM s) ss
theorem kind_image : kindS ivB = (kImage, [88], []) := by kernel_rfl
theorem kind_multi : kindS mvB = (mpT, kMixed, bzB) := by kernel_rfl
def gVB (v : List UInt8) : Bool := (List.range v.length).all fun i => !badAt v i
theorem gVB_good {f : Fld} (h : (f.1.all nb && gVB f.2 && !f.1.isEmpty) = true) : goodF f := by
  unfold gVB at h
  unfold goodF goodV
  rw [Bool.and_eq_true, Bool.and_eq_true] at h
  simpa [and_assoc] using h
theorem good_iv : ∀ f ∈ [(ctB, ivB)], goodF f := fun f hf => by rw [List.mem_singleton.1 hf]; exact gVB_good (by decide)
theorem good_mv : ∀ f ∈ [(ctB, mvB)], goodF f := fun f hf => by rw [List.mem_singleton.1 hf]; exact gVB_good (by decide)
theorem get_ct (v : List UInt8) : (getF [(ctB, v)] ctName).1 = v := by rw [getF_cons, if_pos (show same ctB ctName = true from by decide)]
theorem get_cte (v : List UInt8) : encS [(ctB, v)] = sevenT := by
  unfold encS
  rw [getF_cons, if_neg (show ¬ same ctB cteName = true from by decide)]
  decide
theorem partS_kid (b : List UInt8) (k g n : Nat) (s : List UInt8) (h : cutB b g (g + 25 + s.length) = encL [(ctB, ivB)] ++ 13 :: 10 :: s) : partS b k g (g + 25 + s.length) n = (kidM g s, n) := by
  have hh : hdr (cutB b g (g + 25 + s.length)) = ([(ctB, ivB)], 25) := by rw [h, hdr_back _ s good_iv (by decide)]; rfl
  have hk : partKd b g (g + 25 + s.length) = (kImage, [88], []) := by unfold partKd; rw [hh, get_ct, kind_image]
  have he : partEn b g (g + 25 + s.length) = sevenT := by unfold partEn; rw [hh, get_cte]
  have hb : partBo b g (g + 25 + s.length) = g + 25 := by unfold partBo; rw [hh]
  have key : ∀ rec dp, partW rec dp b g (g + 25 + s.length) n = (kidM g s, n) := by
    intro rec dp
    unfold partW
    rw [hk, he, hb, if_neg (by decide)]
    rfl
  cases k <;> exact key _ _
theorem prog_kids (b : List UInt8) : ∀ (ss : List (List UInt8)) (at_ n : Nat) (s : List UInt8), b.drop at_ = pieceM s ++ (ss.flatMap pieceM ++ tailM) → n + 1 + ss.length ≤ 16 →
    progKids (partS b 3) b.length (some (at_ + 7)) (marksM (at_ + lenM s) ss) n = (kidM (at_ + 7) s :: kidsM (at_ + lenM s) ss, n + 1 + ss.length) := by
  have key : ∀ (at_ n : Nat) (s y : List UInt8), b.drop at_ = pieceM s ++ y → partS b 3 (at_ + 7) (max (at_ + 7) (at_ + lenM s - 2)) (n + 1) = (kidM (at_ + 7) s, n + 1) ∧ b.drop (at_ + lenM s) = y := by
    intro at_ n s y h
    have e : max (at_ + 7) (at_ + lenM s - 2) = at_ + 7 + 25 + s.length := by unfold lenM; omega
    have hd : b.drop (at_ + 7) = encL [(ctB, ivB)] ++ 13 :: 10 :: (s ++ 13 :: 10 :: y) := by
      rw [← List.drop_drop, h]
      simp [pieceM, dzB, lineB, encL, encF, ctB, ivB]
    refine ⟨?_, ?_⟩
    · rw [e]
      refine partS_kid b 3 (at_ + 7) (n + 1) s ?_
      unfold cutB
      rw [List.drop_take, hd, show at_ + 7 + 25 + s.length - (at_ + 7) = (encL [(ctB, ivB)]).length + (2 + s.length) from by simp [encL, encF, ctB, ivB]; omega, List.take_length_add_append, show 2 + s.length = s.length + 1 + 1 from by omega, List.take_succ_cons, List.take_succ_cons, List.take_append_of_le_length (Nat.le_refl _), List.take_length]
    · rw [← List.drop_drop, h, List.drop_append_of_le_length (by simp [pieceM, lenM, dzB, lineB]; omega), List.drop_eq_nil_of_le (by simp [pieceM, lenM, dzB, lineB]; omega), List.nil_append]
  intro ss
  induction ss with
  | nil =>
    intro at_ n s h hn
    unfold marksM progKids kidsM
    rw [if_pos (by simp at hn; omega), if_pos rfl, (key at_ n s _ h).1]
    rfl
  | cons s2 ss ih =>
    intro at_ n s h hn
    obtain ⟨k1, k2⟩ := key at_ n s _ h
    have k3 : b.drop (at_ + lenM s) = pieceM s2 ++ (ss.flatMap pieceM ++ tailM) := by rw [k2]; simp
    unfold marksM progKids kidsM
    simp only [List.length_cons] at hn
    rw [if_pos (by omega), if_neg Bool.false_ne_true, k1]
    dsimp only
    have ih2 := ih (at_ + lenM s) (n + 1) s2 k3 (by omega)
    rw [show n + 1 + (s2 :: ss).length = n + 1 + 1 + ss.length from by rw [List.length_cons]; omega]
    generalize partS b 3 = rec at *
    generalize progKids rec b.length (some (at_ + lenM s + 7)) (marksM (at_ + lenM s + lenM s2) ss) (n + 1) = pk at *
    rw [ih2]
set_option maxHeartbeats 1000000 in
theorem parts_join (ss : List (List UInt8)) (hz : ∀ s ∈ ss, noZ s) (hn : ss.length ≤ 9) : (partS (textM ss) 4 0 (textM ss).length 0).1.kids = kidsM ((headM).length + 7) ss := by
  have hc : cutB (textM ss) 0 (textM ss).length = encL [(ctB, mvB)] ++ 13 :: 10 :: bodyM ss := by
    unfold cutB
    rw [List.take_length, List.drop_zero]
    unfold textM headM
    simp
  have hh : hdr (cutB (textM ss) 0 (textM ss).length) = ([(ctB, mvB)], headM.length) := by rw [hc, hdr_back _ _ good_mv (by decide)]; rfl
  have hk : partKd (textM ss) 0 (textM ss).length = (mpT, kMixed, bzB) := by unfold partKd; rw [hh, get_ct, kind_multi]
  have hb : partBo (textM ss) 0 (textM ss).length = headM.length := by unfold partBo; rw [hh]; simp
  have hd0 : (textM ss).drop headM.length = aheadB ++ 13 :: 10 :: (ss.flatMap pieceM ++ tailM) := by unfold textM; rw [List.drop_left]; rfl
  have hl := line_app aheadB (ss.flatMap pieceM ++ tailM) (by decide)
  obtain ⟨h1, _, q1⟩ := mk_step hd0 (by rw [hd0]; exact hl.1) (by rw [hd0]; exact hl.2)
  rw [show sortS aheadB bzB = 0 from by decide, marks_all _ ss _ hz h1] at q1
  have q1 : mkM (textM ss) headM.length = marksM (headM.length + 7) ss := q1
  show (partW (partS (textM ss) 3) true (textM ss) 0 (textM ss).length 0).1.kids = _
  unfold partW
  rw [hk, hb, if_pos rfl]
  have hks : partKs (partS (textM ss) 3) true (textM ss) bzB headM.length (textM ss).length 0 = (kidsM (headM.length + 7) ss, ss.length) := by
    unfold partKs
    rw [if_pos ⟨by decide, rfl⟩]
    show progKids (partS (textM ss) 3) (textM ss).length none (mkM (textM ss) headM.length) 0 = _
    rw [q1]
    cases ss with
    | nil => rfl
    | cons s ss =>
      unfold marksM progKids kidsM
      rw [if_neg (by decide), prog_kids (textM (s :: ss)) ss (headM.length + 7) 0 s (by rw [show headM.length + 7 = headM.length + (aheadB.length + 2) from rfl, h1]; simp) (by simp at hn; omega)]
      simp
      omega
  dsimp only
  rw [hks]
  unfold partEnd
  cases ss with
  | nil => rfl
  | cons s ss => rfl
/-- A part's body is the body that was put in. -/
theorem kids_get (b : List UInt8) : ∀ (ss : List (List UInt8)) (at_ i : Nat) (hi : i < ss.length), b.drop at_ = ss.flatMap pieceM ++ tailM → ∃ g, (kidsM at_ ss)[i]? = some (kidM g (ss[i])) ∧ cutB b (g + 25) (g + 25 + ss[i].length) = ss[i] := by
  intro ss
  induction ss with
  | nil => intro at_ i hi; simp at hi
  | cons s ss ih =>
    intro at_ i hi h
    cases i with
    | zero =>
      refine ⟨at_ + 7, rfl, ?_⟩
      have hd : b.drop (at_ + 7 + 25) = s ++ 13 :: 10 :: (ss.flatMap pieceM ++ tailM) := by
        rw [Nat.add_assoc, ← List.drop_drop, h]
        simp [pieceM, dzB, lineB]
      show cutB b (at_ + 7 + 25) (at_ + 7 + 25 + s.length) = s
      unfold cutB
      rw [List.drop_take, hd, Nat.add_sub_cancel_left, List.take_left]
    | succ i =>
      have h2 : b.drop (at_ + lenM s) = ss.flatMap pieceM ++ tailM := by
        rw [← List.drop_drop, h, List.flatMap_cons, List.append_assoc, List.drop_append_of_le_length (by simp [pieceM, lenM, dzB, lineB]; omega), List.drop_eq_nil_of_le (by simp [pieceM, lenM, dzB, lineB]; omega), List.nil_append]
      exact ih (at_ + lenM s) i (by simpa using hi) h2
theorem kids_len : ∀ (ss : List (List UInt8)) (at_ : Nat), (kidsM at_ ss).length = ss.length := by
  intro ss
  induction ss with
  | nil => intro at_; rfl
  | cons s ss ih => intro at_; simp [kidsM, ih]
/-- From a place on. -/
def standsB (p : List UInt8) : Nat → List UInt8 → Bool
  | 0, _ => false
  | f + 1, s => if p.length ≤ s.length then (if s.take p.length == p then true else standsB p f (s.drop 1)) else false
def withinB (s p : List UInt8) : Bool := standsB p (s.length + 2) s
theorem stands_out (p : List UInt8) (f : Nat) (s : List UInt8) (h : ¬ p.length ≤ s.length) : standsB p f s = false := by
  cases f with
  | zero => rfl
  | succ f => unfold standsB; rw [if_neg h]
set_option maxHeartbeats 1000000 in
theorem lwithin_any (s p : List UInt8) (w : World) (hs : s.length ≤ 4000000) (hp : p.length ≤ 4000000) (hp0 : 0 < p.length) :
    Calls Tryz.prog 27 #[.string ⟨s.toArray⟩, .string ⟨p.toArray⟩] w fun e w' => e = .returned (.bool (withinB s p)) ∧ w = w' := by
  go_enter Tryz.func27, Tryz.ntmps27
  go_wp2
  go_loop [5] (fun i => ∃ (k f : Nat), i = .int .i64 k ∧ k ≤ s.length + 1 ∧ s.length + 1 < k + f + 1 ∧ Hid (withinB s p = standsB p (f + 1) (s.drop k))) (fun i => s.length + 1 - (intOf i).toNat)
  case atStart => exact ⟨0, s.length + 1, rfl, by omega, by omega, Lib.hid rfl⟩
  case round =>
    obtain ⟨k, f, rfl, hk, hf, HB⟩ := hrel
    by_cases hle : k + p.length ≤ s.length
    · have hle2 : (k : Int) + (p.length : Int) ≤ (s.length : Int) := by omega
      have hx : (⟨s.toArray⟩ : ByteArray).extract k (k + p.length) = ⟨((s.drop k).take p.length).toArray⟩ := by
        rw [bs_extract, List.drop_take]
        congr 3
        omega
      have hsz : (⟨s.toArray⟩ : ByteArray).size = s.length := by simp [ByteArray.size]
      have hdl : p.length ≤ (s.drop k).length := by simp; omega
      cases he : ((s.drop k).take p.length == p) with
      | true =>
        have HR : Hid (withinB s p = true) := Lib.hid (by rw [HB.out, standsB, if_pos hdl, he]; rfl)
        clear hdl
        generalize (s.drop k).take p.length = q at *
        go_wp2
        go_ret
        rw [HR.out]
        exact ⟨rfl, rfl⟩
      | false =>
        obtain ⟨f', rfl⟩ : ∃ f', f = f' + 1 := ⟨f - 1, by omega⟩
        have HR : Hid (withinB s p = standsB p (f' + 1) (s.drop (k + 1))) := Lib.hid (by rw [HB.out, standsB, if_pos hdl, he, List.drop_drop]; rfl)
        clear hdl
        generalize (s.drop k).take p.length = q at *
        go_wp2
        exact ⟨⟨k + 1, f', by go_num, by omega, by omega, HR⟩, by simp [intOf]; omega⟩
    · have hle2 : ¬ (k : Int) + (p.length : Int) ≤ (s.length : Int) := by omega
      have HR : Hid (withinB s p = false) := Lib.hid (by rw [HB.out, stands_out _ _ _ (by rw [List.length_drop]; omega)])
      go_wp2
      go_ret
      rw [HR.out]
      exact ⟨rfl, rfl⟩
theorem stands_noZ : ∀ (f : Nat) (s : List UInt8), s.length < f → standsB dzB f s = false → noZ s
  | 0, _, h, _ => by omega
  | f + 1, s, hf, h => by
    intro q r e
    unfold standsB at h
    rw [if_pos (by rw [e]; simp; omega)] at h
    cases q with
    | nil =>
      rw [if_pos (by rw [e]; simp [dzB])] at h
      cases h
    | cons a q =>
      split at h
      · cases h
      · rw [e] at h hf
        simp only [List.cons_append, List.drop_succ_cons, List.drop_zero] at h
        exact stands_noZ f (q ++ dzB ++ r) (by simp at hf ⊢; omega) h q r rfl
theorem within_noZ {s : List UInt8} (h : withinB s dzB = false) : noZ s := stands_noZ _ s (by omega) h
theorem lwithin_dz (s : List UInt8) (w : World) (hs : s.length ≤ 4000000) :
    Calls Tryz.prog 27 #[.string ⟨s.toArray⟩, .string ⟨#[45, 45, 61, 122, 122]⟩] w fun e w' => e = .returned (.bool (withinB s dzB)) ∧ w = w' := lwithin_any s dzB w hs (by decide) (by decide)
/-- Rows of bytes that came in. -/
abbrev BRw : Type := Option Addr × Nat × List UInt8
def rwCells (L : List BRw) : List Value := L.map fun r => .slice r.1 r.2.2.length r.2.1
def strCells (ss : List (List UInt8)) : List Value := ss.map fun s => .string ⟨s.toArray⟩
def totS (L : List BRw) : Nat := (L.map fun r => r.2.2.length).sum
theorem totS_step (L : List BRw) (k : Nat) (h : k < L.length) : totS (L.take (k + 1)) = totS (L.take k) + L[k].2.2.length := by
  unfold totS
  rw [List.take_succ_eq_append_getElem h, List.map_append, List.sum_append]
  simp
theorem totS_le (L : List BRw) (k : Nat) : totS (L.take k) ≤ totS L := by
  unfold totS
  conv => rhs; rw [← List.take_append_drop k L, List.map_append, List.sum_append]
  omega
/-- The text as far as it is made. -/
def midM (ss : List (List UInt8)) : List UInt8 := headM ++ (aheadB ++ 13 :: 10 :: ss.flatMap pieceM)
theorem midM_nil : midM [] = [67, 111, 110, 116, 101, 110, 116, 45, 84, 121, 112, 101, 58, 32, 109, 117, 108, 116, 105, 112, 97, 114, 116, 47, 109, 105, 120, 101, 100, 59, 32, 98, 111, 117, 110, 100, 97, 114, 121, 61, 34, 61, 122, 122, 34, 13, 10, 13, 10, 97, 104, 101, 97, 100, 13, 10] := by decide
def sepB : List UInt8 := [45, 45, 61, 122, 122, 13, 10, 67, 111, 110, 116, 101, 110, 116, 45, 84, 121, 112, 101, 58, 32, 105, 109, 97, 103, 101, 47, 120, 13, 10, 13, 10]
theorem midM_snoc (ss : List (List UInt8)) (s : List UInt8) : midM (ss ++ [s]) = midM ss ++ sepB ++ s ++ [13, 10] := by
  unfold midM
  rw [List.flatMap_append]
  simp [pieceM, sepB, dzB, lineB]
theorem midM_end (ss : List (List UInt8)) : midM ss ++ [45, 45, 61, 122, 122, 45, 45, 13, 10, 98, 101, 104, 105, 110, 100] = textM ss := by
  unfold midM textM bodyM
  simp [tailM, dzB, behindB]
theorem flat_len (ss : List (List UInt8)) : (ss.flatMap pieceM).length = (ss.map fun s => s.length + 34).sum := by
  induction ss with
  | nil => rfl
  | cons s ss ih => rw [List.flatMap_cons, List.length_append, ih, List.map_cons, List.sum_cons]; simp [pieceM, dzB, lineB]
theorem midM_len (ss : List (List UInt8)) : (midM ss).length = 56 + (ss.map fun s => s.length + 34).sum := by
  have h := congrArg List.length midM_nil
  unfold midM at h ⊢
  simp only [List.length_append, List.length_cons, flat_len, List.flatMap_nil, List.length_nil] at h ⊢
  omega
theorem sum34 (ss : List (List UInt8)) : (ss.map fun s => s.length + 34).sum = (ss.map List.length).sum + 34 * ss.length := by
  induction ss with
  | nil => rfl
  | cons s ss ih => simp only [List.map_cons, List.sum_cons, ih, List.length_cons]; omega
theorem text_drop (ss : List (List UInt8)) : (textM ss).drop (headM.length + 7) = ss.flatMap pieceM ++ tailM := by
  unfold textM
  rw [← List.drop_drop, List.drop_left]
  rfl
theorem kids_text (ss : List (List UInt8)) (hz : ∀ s ∈ ss, noZ s) (h9 : ss.length ≤ 9) : (PT.kids (mpart (textM ss))).length = ss.length ∧ ∀ (j : Nat) (hj : j < ss.length), ∃ x, (PT.kids (mpart (textM ss)))[j]? = some (kidM x (ss[j])) ∧ cutB (textM ss) (x + 25) (x + 25 + ss[j].length) = ss[j] := by
  have h : PT.kids (mpart (textM ss)) = kidsM (headM.length + 7) ss := parts_join ss hz h9
  rw [h]
  exact ⟨kids_len ss _, fun j hj => kids_get _ ss _ j hj (text_drop ss)⟩
theorem strCells_snoc (ss : List (List UInt8)) (s : List UInt8) : strCells (ss ++ [s]) = strCells ss ++ [.string ⟨s.toArray⟩] := by simp [strCells]
theorem secJ (b : List UInt8) (i : Nat) (x : PT) (hx : (PT.kids (mpart b))[i]? = some x) : secS b [(i : Int) + 1] 0 = (cutB b x.bo x.to, 0) := by
  have hne : (PT.kids (mpart b)).isEmpty = false := by
    cases hk : PT.kids (mpart b) with
    | nil => rw [hk] at hx; cases hx
    | cons y l => rfl
  have hf : findT (mpart b) [(i : Int) + 1] = some x := by
    unfold findT
    rw [if_neg (fun e => by rw [hne] at e; cases e.1), walkT, show ((i : Int) + 1 - 1).toNat = i by omega, hx]
    dsimp only
    rw [if_pos (by omega)]
    rfl
  unfold secS
  rw [if_neg (by omega), hf]
  simp [secT]
theorem callJ {A : Option Addr} {c : Nat} {b : List UInt8} {w : World} (i : Nat) (L : List UInt8) (N : Nat) (hb : b.length ≤ 2000000) (hc : b.length ≤ c) (hA : A = none → c = 0) (hr : RowIn w A (bcells b)) (hg : Gl w) (hi : i ≤ 1000) (hs : secS b [(i : Int) + 1] 0 = (L, 0)) (hN : L.length = N) (t : Nat) :
    Calls Tryz.prog 22 #[.slice A b.length c, .slice (some ⟨w.heap.size, 0, none⟩) 1 1, .int .i64 0] (w.alloc (.cells #[.int .i64 ((i : Int) + 1)] t)) fun e w' => ∃ A1 c1, e = .returned (.tuple #[.slice A1 N c1, .int .i64 0]) ∧ RowIn w' A1 (bcells L) ∧ Below w.heap.size w w' := by
  have hb2 : Below w.heap.size w (w.alloc (.cells #[.int .i64 ((i : Int) + 1)] t)) := (Below.refl _ _).alloc (Nat.le_refl _) _
  refine (section_any A c b (some ⟨w.heap.size, 0, none⟩) 1 [(i : Int) + 1] 0 _ hb hc hA (hr.below hb2) (hg.below hb2) (row_new8 w [.int .i64 ((i : Int) + 1)] t) (by simp) (fun k hk => by rw [List.mem_singleton.1 hk]; omega)).mono ?_
  rintro e w' ⟨v, rfl, hown, hb3⟩
  rw [hs] at hown ⊢
  obtain ⟨A1, c1, rfl, _, _, hrow, _⟩ := owns_open hown
  exact ⟨A1, c1, by dsimp only; rw [hN], hrow, hb2.trans (hb3.mono hb2.size)⟩
set_option maxRecDepth 100000 in
set_option maxHeartbeats 8000000 in
theorem mjoins_any (A0 : Option Addr) (c0 : Nat) (L : List BRw) (w : World) (hL : L.length ≤ 1048576) (hT : totS L ≤ 1048576) (hr : RowIn w A0 (rwCells L)) (hrs : ∀ r ∈ L, RowIn w r.1 (bcells r.2.2)) (hg : Gl w) (hP : PowTab w) :
    Calls Tryz.prog 7 #[.slice A0 L.length c0] w fun e w' => e = .returned (.bool true) ∧ Below w.heap.size w w' := by
  obtain ⟨i0, hi, hz0, hz1, hz2⟩ := info_parts infoStr
  go_enter Tryz.func7, Tryz.ntmps7
  go_wp2_with fail
  refine (shown11_any w hg hP).mono ?_
  rintro e w1 ⟨rfl, hb1⟩
  have hown0 : (w1.alloc (.cells #[] 9)).ownsRow w.heap.size 9 1 (.slice (some ⟨w1.heap.size, 0, none⟩) 0 0) 0 [] := ⟨rfl, .inr ⟨w1.heap.size, 0, #[], rfl, hb1.size, heap_alloc_new w1 _, by simp, by decide, by simp, by simp⟩⟩
  have hb1a := hb1.alloc hb1.size (.cells #[] 9)
  go_wp2
  go_loopw [4, 5, 6, 7] (fun tt tw ti _ wr => ∃ (k : Nat) (ss : List (List UInt8)) (T : List UInt8), ti = .int .i64 k ∧ k ≤ L.length ∧ tt = .string ⟨T.toArray⟩ ∧ Hid (T = midM ss) ∧ ss.length ≤ 9 ∧ wr.ownsRow w.heap.size 9 1 tw ss.length (strCells ss) ∧ Hid (∀ s ∈ ss, noZ s) ∧ (ss.map List.length).sum ≤ totS (L.take k) ∧ Below w.heap.size w wr) (fun _ _ ti _ _ => L.length - (intOf ti).toNat)
  case atStart => exact ⟨0, [], _, rfl, Nat.zero_le _, rfl, Lib.hid midM_nil.symm, by simp, hown0, Lib.hid (by simp), by simp, hb1a⟩
  case round =>
    obtain ⟨k, ss, T, rfl, hk, rfl, HT, h9, hown, HZ, hsum, hbw⟩ := hrel
    have hTl : T.length = 56 + ((ss.map List.length).sum + 34 * ss.length) := by rw [HT.out, midM_len, sum34]
    by_cases hlt : k < L.length ∧ ss.length < 9
    · obtain ⟨hlt, h6⟩ := hlt
      obtain ⟨Aw, cw, rfl, hcw, hmw, hrw, hAw⟩ := owns_open hown
      have hlt2 : (k : Int) < (L.length : Int) := by omega
      have h62 : (ss.length : Int) < 9 := by omega
      obtain ⟨b0, o0, rfl, _⟩ := hr.addr (by intro e; have := congrArg List.length e; simp [rwCells] at this; rw [this] at hlt; simp at hlt)
      have hck := (hr.below hbw).cell k (.slice L[k].1 L[k].2.2.length L[k].2.1) (by simp [rwCells, hlt])
      have hbk := (hrs L[k] (List.getElem_mem hlt)).below hbw
      have hts := totS_step L k hlt
      have htl := totS_le L (k + 1)
      obtain ⟨r, hs⟩ : ∃ r, L[k] = r := ⟨_, rfl⟩
      obtain ⟨Ak, ck, s⟩ := r
      rw [hs] at hck hbk hts
      dsimp only at hck hbk hts
      clear hs
      have q7 := conv_bytes Ak s s.length ck wr hbk rfl
      have cW := fun W => lwithin_dz s W (by omega)
      cases hwb : withinB s dzB with
      | true =>
        rw [hwb] at cW
        clear hwb
        go_wp2_with (go_at_call 27; refine (cW _).mono ?_; rintro e w2 ⟨rfl, rfl⟩)
        go_roundw
        case rel => exact ⟨k + 1, ss, T, by go_num, by omega, rfl, HT, h9, hown, HZ, by omega, hbw⟩
        case measure => simp [intOf]; omega
      | false =>
        rw [hwb] at cW
        have HN := Lib.hid (within_noZ hwb)
        clear hwb
        obtain ⟨T1, h1⟩ : ∃ T1, T ++ sepB = T1 := ⟨_, rfl⟩
        obtain ⟨T2, h2⟩ : ∃ T2, T1 ++ s = T2 := ⟨_, rfl⟩
        obtain ⟨T3, h3⟩ : ∃ T3, T2 ++ [13, 10] = T3 := ⟨_, rfl⟩
        have HT3 : Hid (T3 = midM (ss ++ [s])) := Lib.hid (by rw [midM_snoc, ← HT.out, h1, h2, h3])
        have c1 : (⟨T.toArray⟩ : ByteArray) ++ ⟨#[45, 45, 61, 122, 122, 13, 10, 67, 111, 110, 116, 101, 110, 116, 45, 84, 121, 112, 101, 58, 32, 105, 109, 97, 103, 101, 47, 120, 13, 10, 13, 10]⟩ = ⟨T1.toArray⟩ := by rw [← h1]; exact bytes_append T sepB
        have c2 : (⟨T1.toArray⟩ : ByteArray) ++ ⟨s.toArray⟩ = ⟨T2.toArray⟩ := by rw [bytes_append, h2]
        have c3 : (⟨T2.toArray⟩ : ByteArray) ++ ⟨#[13, 10]⟩ = ⟨T3.toArray⟩ := by rw [← h3]; exact bytes_append T2 [13, 10]
        have l1 : T1.length = T.length + 32 := by rw [← h1]; simp [sepB]
        have l2 : T2.length = T1.length + s.length := by rw [← h2]; simp
        have a1 : ¬ 9223372036854775807 < T.length + 32 := by omega
        have a2 : ¬ 9223372036854775807 < T1.length + s.length := by omega
        have a3 : ¬ 9223372036854775807 < T2.length + 2 := by omega
        clear h1 h2 h3
        go_wp2_with (first | (go_at_call 27; refine (cW _).mono ?_; rintro e w2 ⟨rfl, rfl⟩) | (at_builtin; refine wpList_append_row _ rfl _ _ 44 rfl w.heap.size 9 i0 (.string ⟨#[]⟩) 1 16 Tryz.underlying44 hi hz0 hz1 hz2 rfl (by decide) _ _ _ rfl (hown.alloc _) _ 1 1 _ rfl (row_new8 _ [.string ⟨s.toArray⟩] _) rfl ?c2 ?c3 ?c4 ?c5 ?_))
        case c2 => intro u hu; simp at hu; subst hu; rfl
        case c3 => unfold maxLen; omega
        case c4 => omega
        case c5 => have := hbw.size; simp; omega
        intro v5 w5 hown5 hg5 _
        have hbw5 : Below w.heap.size w w5 := (hbw.alloc hbw.size _).grown hg5 (by have := hbw.size; simp; omega) (fun k hk => (hown.lt k hk).1)
        go_wp2
        go_roundw
        case rel => exact ⟨k + 1, ss ++ [s], T3, by go_num, by omega, rfl, HT3, by simp; omega, by rw [strCells_snoc, List.length_append]; exact hown5, Lib.hid (fun x hx => by
          rcases List.mem_append.1 hx with h | h
          · exact HZ.out x h
          · rw [List.mem_singleton.1 h]; exact HN.out), by simp; omega, hbw5⟩
        case measure => simp [intOf]; omega
    · have hout : ((k : Int) < (L.length : Int) ∧ ¬ (ss.length : Int) < 9) ∨ ¬ (k : Int) < (L.length : Int) := by
        by_cases h1 : k < L.length
        · exact .inl ⟨by omega, by have : ¬ ss.length < 9 := fun h => hlt ⟨h1, h⟩; omega⟩
        · exact .inr (by omega)
      have htl := totS_le L k
      have HK := Lib.hid (kids_text ss HZ.out h9)
      obtain ⟨TX, hTX⟩ : ∃ TX, textM ss = TX := ⟨_, rfl⟩
      have hTX2 : T ++ [45, 45, 61, 122, 122, 45, 45, 13, 10, 98, 101, 104, 105, 110, 100] = TX := by rw [HT.out, midM_end, hTX]
      have c9 : (⟨T.toArray⟩ : ByteArray) ++ ⟨#[45, 45, 61, 122, 122, 45, 45, 13, 10, 98, 101, 104, 105, 110, 100]⟩ = ⟨TX.toArray⟩ := by rw [← hTX2]; exact bytes_append T [45, 45, 61, 122, 122, 45, 45, 13, 10, 98, 101, 104, 105, 110, 100]
      have hXl : TX.length = T.length + 15 := by rw [← hTX2]; simp
      have a9 : ¬ 9223372036854775807 < T.length + 15 := by omega
      rw [hTX] at HK
      have hXb : TX.length ≤ 2000000 := by omega
      obtain ⟨cap, w3, hconv, hb3, hB3, hcap, hsz3⟩ := str_bytes TX wr
      have hbw3 := hbw.trans (hb3.mono hbw.size)
      have cP := mparse_any (some ⟨wr.heap.size, 0, none⟩) cap TX w3 hXb hcap (fun h => by cases h) hB3.rowIn (hg.below hbw3)
      obtain ⟨Aw, cw, rfl, hcw, hmw, hrw, hAw⟩ := owns_open hown
      clear hTX hTX2 hXl hTl htl hsum hT hrs hr hlt hown hmw hB3
      rcases hout with ⟨o1, o2⟩ | o1
      all_goals
        go_wp2_with fail
        refine cP.mono ?_
        rintro e w5 ⟨m, rfl, hok, her, hb5⟩
        have hb35 := hb3.trans (hb5.mono hb3.size)
        have hbw5 := hbw.trans (hb35.mono hbw.size)
        have hkk : (mkids m).map erase = PT.kids (mpart TX) := by rw [← her, kids_erase]
        have hkl : (mkids m).length = ss.length := by rw [← HK.out.1, ← hkk, List.length_map]
        obtain ⟨ty, sub, bd, en, fr, bo, to_, Ak, ck, kids⟩ := m
        simp only [mkids] at hkk hkl
        obtain ⟨hm1, hm2, hm3, hm4⟩ := hok
        have hPa := pc_new w5 ty sub bd en fr bo to_ (.slice Ak ss.length ck) 29
        have hal : Below w5.heap.size w5 (w5.alloc (.cells #[.string ⟨ty.toArray⟩, .string ⟨sub.toArray⟩, .string ⟨bd.toArray⟩, .string ⟨en.toArray⟩, .int .i64 (fr : Int), .int .i64 (bo : Int), .int .i64 (to_ : Int), .slice Ak ss.length ck] 29)) := (Below.refl _ _).alloc (Nat.le_refl _) _
        obtain ⟨w6, hw6⟩ : ∃ w6, w6 = w5.alloc (.cells #[.string ⟨ty.toArray⟩, .string ⟨sub.toArray⟩, .string ⟨bd.toArray⟩, .string ⟨en.toArray⟩, .int .i64 (fr : Int), .int .i64 (bo : Int), .int .i64 (to_ : Int), .slice Ak ss.length ck] 29) := ⟨_, rfl⟩
        simp only [mval, mcell]
        rw [hkl]
        clear cP her
        go_upto_region 13 with (fail)
        rw [← hw6] at hPa hal ⊢
        clear hw6
        have hb36 := hb35.trans (hal.mono hb35.size)
        have hbw6 := hbw.trans (hb36.mono hbw.size)
        have p7 := hPa.c7
        have HPa := Lib.hid hPa
        have HM1 := Lib.hid hm1
        have HKK := Lib.hid hkk
        have HRW := Lib.hid hrw
        clear hPa hm1 hm2 hm3 hm4 hkk hrw hconv hb3 hb5
        go_wp2
        go_loopw [9, 10, 11] (fun ti _ _ wx => ∃ j : Nat, ti = .int .i64 j ∧ j ≤ ss.length ∧ Below w6.heap.size w6 wx) (fun ti _ _ _ => ss.length - (intOf ti).toNat)
        case atStart => exact ⟨0, rfl, Nat.zero_le _, Below.refl _ _⟩
        case round =>
          obtain ⟨j, rfl, hj2, hbx⟩ := hrel
          have hbrx := hb36.trans (hbx.mono hb36.size)
          have hb0x := hbw.trans (hbrx.mono hbw.size)
          by_cases hlt3 : j < ss.length
          · have hlt4 : (j : Int) < (ss.length : Int) := by omega
            have hjk : j < kids.length := by omega
            obtain ⟨x, hx1, hx2⟩ := HK.out.2 j hlt3
            have hwi : IntKind.i64.wrap ((j : Int) + 1) = (j : Int) + 1 := IntWalk.i64_in _ (by omega)
            obtain ⟨ty3, sub3, bd3, en3, f3, o3, t3, A3, c3, kd3, hkd⟩ : ∃ ty3 sub3 bd3 en3 f3 o3 t3 A3 c3 kd3, kids[j] = .mk ty3 sub3 bd3 en3 f3 o3 t3 A3 c3 kd3 := by
              cases h : kids[j] with
              | mk a1 a2 a3 a4 a5 a6 a7 a8 a9 a10 => exact ⟨a1, a2, a3, a4, a5, a6, a7, a8, a9, a10, rfl⟩
            obtain rfl : sub3 = [88] := by
              have h := hx1
              rw [← HKK.out, List.getElem?_map, List.getElem?_eq_getElem hjk, hkd] at h
              simp only [Option.map_some, Option.some.injEq, erase, kidM, PT.mk.injEq] at h
              exact h.2.1
            obtain ⟨cap2, w7, hconv2, hb7, hB7, hcap2, -⟩ := str_bytes TX wr
            have hb07 := hb0x.trans (hb7.mono hb0x.size)
            have hsec : secS TX [(j : Int) + 1] 0 = (ss[j], 0) := by
              rw [secJ TX j _ hx1]
              exact congrArg (fun l => (l, (0 : Int))) hx2
            obtain ⟨s, hse⟩ : ∃ s, ss[j] = s := ⟨_, rfl⟩
            rw [hse] at hsec
            have HC := fun t => callJ (A := some ⟨wr.heap.size, 0, none⟩) (c := cap2) (b := TX) (w := w7) j s s.length hXb hcap2 (fun h => by cases h) hB7.rowIn (hg.below hb07) (by omega) hsec rfl t
            clear hx1 hx2 hsec hB7 p7 hsz3
            go_wp2_with fail
            refine (HC _).mono ?_
            rintro e w8 ⟨A8, c8, rfl, hr8, hb8⟩
            clear HC hconv2
            have hbx8 := hbx.trans ((hb7.trans (hb8.mono hb7.size)).mono hbx.size)
            have hbr8 := hb36.trans (hbx8.mono hb36.size)
            go_wp2
            have hd8 : Below w8.heap.size w8 w8.drew := (Below.refl _ _).drew
            have hPw := HPa.out.below hbx8
            obtain ⟨wd, hwd⟩ : ∃ wd, wd = w8.drew := ⟨_, rfl⟩
            rw [← hwd] at hd8
            have p7 := (hPw.below hd8).c7
            have hrk : RowIn wd Ak (mcells kids) := (HM1.out.below (hal.trans (hbx8.mono hal.size))).below hd8
            obtain ⟨b1, o1, rfl, _⟩ := hrk.addr (by intro e; have := congrArg List.length e; rw [mcells_len] at this; simp only [List.length_nil] at this; omega)
            obtain ⟨b2, o2, rfl, _⟩ := HRW.out.addr (by intro e; have := congrArg List.length e; simp [strCells] at this; rw [this] at hlt3; simp at hlt3)
            have hcell := ((HRW.out.below hbr8).below hd8).cell j (.string ⟨s.toArray⟩) (by simp [strCells, hlt3, hse])
            obtain ⟨_, k1, _⟩ := kid_cells hrk j hjk hkd
            have q8 := conv_bytes A8 s s.length c8 wd (hr8.below hd8) rfl
            have k1 : wd.cell? ⟨b1, o1 + j * 8 + 1, none⟩ = some (.string ⟨#[88]⟩) := k1
            refine wp_region_still_lit (by kernel_rfl) (by kernel_rfl) ?_
            have hwd2 : ({ w8 with drawn := w8.drawn + 1 } : World) = wd := hwd.symm
            rw [hwd2]
            clear hPw hwd hwd2 hse
            repeat still_step
            refine wpStill_nil ?_
            go_wp2
            exact ⟨⟨j + 1, by go_num, by omega, hbx8.trans (hd8.mono hbx8.size)⟩, by simp [intOf]; omega⟩
          · have hlt4 : ¬ (j : Int) < (ss.length : Int) := by omega
            go_wp2
            go_ret
            exact ⟨rfl, hb0x⟩
end Go.Proofs.YtbjbljfmcpidmaaGreatDoor

/- A text's words: header.Words, and the reference's. -/
import Derived.Test.YtbjbljfmcpidmaaGreatDoorGet
import Derived.Test.YtbjbljfmcpidmaaGreatDoorCutL
import Derived.Test.YtbjbljfmcpidmaaGreatDoorApp
namespace Go.Proofs.YtbjbljfmcpidmaaGreatDoor
open Go.RowKit Go.Lib Go.Shelf

/-- The spans of the words, byte by byte: from where on one is under way. -/
def spB : List UInt8 → Nat → Option Nat → List (Nat × Nat) → List (Nat × Nat) × Option Nat
  | [], _, st, acc => (acc, st)
  | x :: r, pos, st, acc =>
    if isBl x then (match st with
      | some a => spB r (pos + 1) none (acc ++ [(a, pos)])
      | none => spB r (pos + 1) none acc)
    else (match st with
      | some a => spB r (pos + 1) (some a) acc
      | none => spB r (pos + 1) (some pos) acc)
def spEnd (n : Nat) (x : List (Nat × Nat) × Option Nat) : List (Nat × Nat) :=
  match x.2 with
  | some a => x.1 ++ [(a, n)]
  | none => x.1
def spans (l : List UInt8) : List (Nat × Nat) := spEnd l.length (spB l 0 none [])
def cutW (l : List UInt8) (x : Nat × Nat) : List UInt8 := (l.take x.2).drop x.1
def wordsS (l : List UInt8) : List (List UInt8) := (spans l).map (cutW l)

theorem get_hi (s : ByteArray) (i : Nat) (h : i < s.size) : (s.get! i) = s[i]'h := by
  simp [ByteArray.get!, getElem!_pos, h]
  rfl
theorem decode_cont (s : ByteArray) (pos j : Nat) (h1 : 1 ≤ j) (h2 : j < (Utf8.decode s pos).2) : ∃ h : pos + j < s.size, 128 ≤ (s[pos + j]'h).toNat := by
  have key : ∀ k, (decide (pos + k < s.size) && (s.get! (pos + k)).toNat / 64 == 2) = true → ∃ h : pos + k < s.size, 128 ≤ (s[pos + k]'h).toNat := by
    intro k hk
    rw [Bool.and_eq_true, decide_eq_true_eq, beq_iff_eq] at hk
    refine ⟨hk.1, ?_⟩
    have h3 := hk.2
    rw [get_hi s _ hk.1] at h3
    omega
  unfold Utf8.decode at h2
  dsimp only at h2
  split at h2
  · simp at h2; omega
  · split at h2
    · rename_i hc
      rw [Bool.and_eq_true] at hc
      split at h2
      · obtain rfl : j = 1 := by simp at h2; omega
        exact key 1 hc.2
      · simp at h2; omega
    · split at h2
      · rename_i hc
        rw [Bool.and_eq_true, Bool.and_eq_true] at hc
        split at h2
        · obtain rfl | rfl : j = 1 ∨ j = 2 := by simp at h2; omega
          · exact key 1 hc.1.2
          · exact key 2 hc.2
        · simp at h2; omega
      · split at h2
        · rename_i hc
          rw [Bool.and_eq_true, Bool.and_eq_true, Bool.and_eq_true] at hc
          split at h2
          · obtain rfl | rfl | rfl : j = 1 ∨ j = 2 ∨ j = 3 := by simp at h2; omega
            · exact key 1 hc.1.1.2
            · exact key 2 hc.1.2
            · exact key 3 hc.2
          · simp at h2; omega
        · simp at h2; omega
theorem hi_bl {x : UInt8} (h : 128 ≤ x.toNat) : isBl x = false := by
  unfold isBl
  rw [Bool.or_eq_false_iff, beq_eq_false_iff_ne, beq_eq_false_iff_ne]
  exact ⟨fun e => by rw [e] at h; revert h; decide, fun e => by rw [e] at h; revert h; decide⟩
theorem spB_bl {x : UInt8} (h : isBl x = true) (r : List UInt8) (pos : Nat) (st : Option Nat) (acc : List (Nat × Nat)) : spB (x :: r) pos st acc = spB r (pos + 1) none (match st with | some a => acc ++ [(a, pos)] | none => acc) := by
  cases st <;> simp [spB, h]
theorem spB_nb {x : UInt8} (h : isBl x = false) (r : List UInt8) (pos : Nat) (st : Option Nat) (acc : List (Nat × Nat)) : spB (x :: r) pos st acc = spB r (pos + 1) (some (st.getD pos)) acc := by
  cases st <;> simp [spB, h]
theorem spB_skip (l : List UInt8) (a : Nat) (acc : List (Nat × Nat)) : ∀ (K pos : Nat), pos + K ≤ l.length → (∀ j (h : pos + j < l.length), j < K → isBl l[pos + j] = false) → spB (l.drop pos) pos (some a) acc = spB (l.drop (pos + K)) (pos + K) (some a) acc
  | 0, pos, _, _ => rfl
  | K + 1, pos, hl, hb => by
    have h0 := hb 0 (by omega) (by omega)
    simp only [Nat.add_zero] at h0
    rw [List.drop_eq_getElem_cons (by omega : pos < l.length), spB_nb h0, Option.getD_some]
    rw [spB_skip l a acc K (pos + 1) (by omega) (fun j h hj => by
      have := hb (j + 1) (by omega) (by omega)
      simpa only [Nat.add_comm, Nat.add_left_comm] using this)]
    congr 1
    · congr 1
      omega
    · omega
def blR (r : Nat) : Bool := decide (r = 32) || decide (r = 9)
theorem bl_rune (l : List UInt8) (pos : Nat) (h : pos < l.length) : blR (Utf8.decode ⟨l.toArray⟩ pos).1 = isBl l[pos] := by
  rw [← (rune_bl l pos h).1]
  simp [blR, inAt]
theorem spans_runes (l : List UInt8) : ∀ (f pos : Nat) (st : Option Nat) (acc : List (Nat × Nat)), l.length ≤ pos + f → spansFromP blR ⟨l.toArray⟩ f pos st acc = spB (l.drop pos) pos st acc := by
  intro f
  induction f with
  | zero =>
    intro pos st acc h
    rw [List.drop_of_length_le (by omega)]
    rfl
  | succ f ih =>
    intro pos st acc h
    have hs : (⟨l.toArray⟩ : ByteArray).size = l.length := by simp [ByteArray.size]
    unfold spansFromP
    rw [hs]
    by_cases hp : pos < l.length
    · rw [if_pos hp, bl_rune l pos hp]
      have hw : 1 ≤ (Utf8.decode ⟨l.toArray⟩ pos).2 := Lib.width_pos _ _
      cases hb : isBl l[pos] with
      | true =>
        rw [if_pos rfl, (rune_bl l pos hp).2 hb]
        rw [List.drop_eq_getElem_cons hp, spB_bl hb]
        cases st with
        | none => exact ih _ _ _ (by omega)
        | some a => exact ih _ _ _ (by omega)
      | false =>
        rw [if_neg (by simp)]
        have hsk : ∀ a, spB (l.drop pos) pos (some a) acc = spB (l.drop (pos + (Utf8.decode ⟨l.toArray⟩ pos).2)) (pos + (Utf8.decode ⟨l.toArray⟩ pos).2) (some a) acc := by
          intro a
          refine spB_skip l a acc _ pos ?_ ?_
          · rcases Nat.lt_or_ge 1 (Utf8.decode ⟨l.toArray⟩ pos).2 with h1 | h1
            · obtain ⟨h2, _⟩ := decode_cont ⟨l.toArray⟩ pos ((Utf8.decode ⟨l.toArray⟩ pos).2 - 1) (by omega) (by omega)
              rw [hs] at h2
              omega
            · omega
          · intro j hj hjk
            rcases Nat.eq_zero_or_pos j with rfl | h0
            · exact hb
            · obtain ⟨h2, h3⟩ := decode_cont ⟨l.toArray⟩ pos j h0 hjk
              refine hi_bl ?_
              have e : (⟨l.toArray⟩ : ByteArray)[pos + j]'h2 = l[pos + j] := by show l.toArray[pos + j] = _; simp
              rwa [e] at h3
        cases st with
        | none =>
          dsimp only
          rw [ih _ _ _ (by omega), ← hsk pos, List.drop_eq_getElem_cons hp, spB_nb hb, spB_nb hb]
          rfl
        | some a =>
          dsimp only
          rw [ih _ _ _ (by omega), ← hsk a]
    · rw [if_neg hp, List.drop_of_length_le (by omega)]
      rfl
theorem fields_words (l : List UInt8) : goFieldsP blR ⟨l.toArray⟩ = (wordsS l).map fun x => ⟨x.toArray⟩ := by
  have hs : (⟨l.toArray⟩ : ByteArray).size = l.length := by simp [ByteArray.size]
  unfold goFieldsP spansOfP wordsS spans
  rw [spans_runes l _ 0 none [] (by rw [hs]; omega), List.drop_zero, List.map_map]
  have e : closeSpans ⟨l.toArray⟩ (spB l 0 none []) = spEnd l.length (spB l 0 none []) := by
    rcases spB l 0 none [] with ⟨acc, st⟩
    cases st <;> simp [closeSpans, spEnd, hs]
  rw [e]
  refine List.map_congr_left fun x _ => ?_
  rw [bs_extract]
  rfl

/-- A slice of words. -/
def wcells (l : List (List UInt8)) : List Value := l.map fun x => .string ⟨x.toArray⟩
def WDone (l : List UInt8) (w : World) (e : Ending) (w' : World) : Prop := ∃ A c, e = .returned (.slice A (wordsS l).length c) ∧ RowIn w' A (wcells (wordsS l)) ∧ (wordsS l).length ≤ c ∧ c ≤ maxLen ∧ Below w.heap.size w w'

theorem words_bl (w : World) : PredAt Tryz.prog 186 #[] encR blR w := fun W r _ => by
  unfold FnGives
  by_cases h1 : r = 32
  · have z1 : ((r : Int) == 32) = true := by rw [h1]; rfl
    go_enter Tryz.func186, Tryz.ntmps186
    go_wp2
    go_ret
    exact ⟨by simp [blR, h1], 0, rfl⟩
  · have z1 : ((r : Int) == 32) = false := by rw [beq_eq_false_iff_ne]; omega
    by_cases h2 : r = 9
    · have z2 : ((r : Int) == 9) = true := by rw [h2]; rfl
      go_enter Tryz.func186, Tryz.ntmps186
      go_wp2
      go_ret
      exact ⟨by simp [blR, h2], 0, rfl⟩
    · have z2 : ((r : Int) == 9) = false := by rw [beq_eq_false_iff_ne]; omega
      go_enter Tryz.func186, Tryz.ntmps186
      go_wp2
      go_ret
      exact ⟨by simp [blR, h1, h2], 0, rfl⟩
theorem words_any (l : List UInt8) (w : World) (hl : l.length ≤ 4000000) : Calls Tryz.prog 139 #[.string ⟨l.toArray⟩] w (WDone l w) := by
  have hs : (⟨l.toArray⟩ : ByteArray).size = l.length := by simp [ByteArray.size]
  have cF := Tryz.strings_FieldsFunc 186 #[] (enters_of Tryz.func186 (by kernel_rfl) rfl) blR ⟨l.toArray⟩ w (by omega) (words_bl w)
  rw [fields_words] at cF
  have HW : Hid (∀ w' v, w'.ownsRow w.heap.size 9 1 v (wordsS l).length (wcells (wordsS l)) → Below w.heap.size w w' → WDone l w (.returned v) w') := Lib.hid fun w' v h hb => by
    obtain ⟨A, c, rfl, h1, h2, h3, _⟩ := owns_open h
    exact ⟨A, c, rfl, h3, h1, h2, hb⟩
  simp only [List.map_map, List.length_map] at cF
  generalize wordsS l = ws at *
  clear hs
  go_enter Tryz.func139, Tryz.ntmps139
  go_wp2_with fail
  refine cF.mono ?_
  rintro e w' ⟨A, rfl, _, hown, hb⟩
  go_wp2
  go_ret
  exact HW.out _ _ hown hb

theorem cell_one_new' (w : World) (v : Value) (t : Nat) : ∀ j u, [v][j]? = some u → (w.alloc (.cells #[v] t)).cell? ((⟨w.heap.size, 0, none⟩ : Addr).add j) = some u := by
  intro j u hu
  have hj : j = 0 := by
    rcases Nat.eq_zero_or_pos j with h | h
    · exact h
    · rw [List.getElem?_eq_none (by simp; omega)] at hu; cases hu
  subst hj
  have : v = u := by simpa using hu
  subst this
  simp [Addr.add]
theorem infoS : (Tryz.prog.info? 9).map (fun i => (i.zero, i.size, i.bytes)) = some (some (Value.string ⟨#[]⟩), 1, 16) := by kernel_rfl
def scells (l : List UInt8) (acc : List (Nat × Nat)) : List Value := acc.map fun x => .string ⟨(cutW l x).toArray⟩
theorem scells_snoc (l : List UInt8) (acc : List (Nat × Nat)) (x : Nat × Nat) : scells l (acc ++ [x]) = scells l acc ++ [.string ⟨(cutW l x).toArray⟩] := by simp [scells]
def stV (st : Option Nat) : Value := match st with
  | none => .int .i64 (-1)
  | some a => .int .i64 (a : Int)
set_option maxHeartbeats 4000000 in
set_option maxRecDepth 100000 in
theorem rwords_any (l : List UInt8) (w : World) (hl : l.length ≤ 4000000) : Calls Tryz.prog 79 #[.string ⟨l.toArray⟩] w (WDone l w) := by
  obtain ⟨i0, hi, hz0, hz1, hz2⟩ := info_parts infoS
  have HW : Hid (∀ w' v acc, spans l = acc → w'.ownsRow w.heap.size 9 1 v acc.length (scells l acc) → Below w.heap.size w w' → WDone l w (.returned v) w') := Lib.hid fun w' v acc e h hb => by
    obtain ⟨A, c, rfl, h1, h2, h3, _⟩ := owns_open h
    subst e
    exact ⟨A, c, by simp [wordsS], by simpa [wcells, wordsS, scells, Function.comp_def] using h3, by simpa [wordsS] using h1, h2, hb⟩
  have HS : Hid (spans l = spEnd l.length (spB (l.drop 0) 0 none [])) := Lib.hid rfl
  go_enter Tryz.func79, Tryz.ntmps79
  go_wp2
  go_loopw [3, 4, 5] (fun v st i wr => ∃ (k : Nat) (o : Option Nat) (acc : List (Nat × Nat)), i = .int .i64 k ∧ st = stV o ∧ k ≤ l.length + 1 ∧ (∀ a, o = some a → a ≤ k) ∧ wr.ownsRow w.heap.size 9 1 v acc.length (scells l acc) ∧ acc.length ≤ k ∧ Below w.heap.size w wr ∧ Hid ((k ≤ l.length ∧ spans l = spEnd l.length (spB (l.drop k) k o acc)) ∨ (k = l.length + 1 ∧ spans l = acc))) (fun _ _ i _ => l.length + 1 - (intOf i).toNat)
  case atStart => exact ⟨0, none, [], rfl, rfl, by omega, (fun a h => by cases h), World.ownsRow_nil _ _ _ _, Nat.le_refl _, Below.refl _ _, Lib.hid (.inl ⟨Nat.zero_le _, HS.out⟩)⟩
  case round =>
    obtain ⟨k, o, acc, rfl, rfl, hk, ho, hown, hak, hbw, HR⟩ := hrel
    by_cases hlt : k < l.length
    · have hlt2 : (k : Int) < (l.length : Int) := by omega
      have hle2 : (k : Int) ≤ (l.length : Int) := by omega
      have hx := (fun h => by show l.toArray[k] = _; simp : ∀ h : k < (⟨l.toArray⟩ : ByteArray).size, (⟨l.toArray⟩ : ByteArray)[k]'h = l[k])
      have HR1 : Hid (spans l = spEnd l.length (spB (l[k] :: l.drop (k + 1)) k o acc)) := Lib.hid (by
        rcases HR.out with ⟨_, h⟩ | ⟨h, _⟩
        · rw [h, List.drop_eq_getElem_cons hlt]
        · omega)
      obtain ⟨x, hxx⟩ : ∃ x, l[k] = x := ⟨_, rfl⟩
      rw [hxx] at HR1
      simp only [hxx] at hx
      clear hxx HR
      have cB := fun W => blank_any x W
      cases hb : isBl x with
      | true =>
        rw [hb] at cB
        cases o with
        | none =>
          have HF : Hid (spans l = spEnd l.length (spB (l.drop (k + 1)) (k + 1) none acc)) := Lib.hid (by rw [HR1.out, spB_bl hb])
          clear hb ho
          simp only [stV]
          go_wp2_with (go_at_call 144; refine (cB _).mono ?_; rintro e w2 ⟨rfl, rfl⟩)
          go_roundw
          case rel => exact ⟨k + 1, none, acc, by go_num, rfl, by omega, (fun a h => by cases h), hown, by omega, hbw, Lib.hid (.inl ⟨by omega, HF.out⟩)⟩
          case measure => simp [intOf]; omega
        | some a =>
          have HF : Hid (spans l = spEnd l.length (spB (l.drop (k + 1)) (k + 1) none (acc ++ [(a, k)]))) := Lib.hid (by rw [HR1.out, spB_bl hb])
          have hak2 := ho a rfl
          have hak3 : (a : Int) ≤ (k : Int) := by omega
          have hs : (⟨l.toArray⟩ : ByteArray).size = l.length := by simp [ByteArray.size]
          have he : (⟨l.toArray⟩ : ByteArray).extract a k = ⟨(cutW l (a, k)).toArray⟩ := bs_extract l a k
          clear hb ho
          simp only [stV]
          go_wp2_with (first | (go_at_call 144; refine (cB _).mono ?_; rintro e w2 ⟨rfl, rfl⟩) | (at_builtin; refine wpList_append_own _ rfl _ _ 44 rfl w.heap.size 9 i0 (.string ⟨#[]⟩) 1 16 Tryz.underlying44 hi hz0 hz1 hz2 rfl (by decide) _ _ _ rfl (hown.alloc _) ⟨wr.heap.size, 0, none⟩ 1 1 [.string ⟨(cutW l (a, k)).toArray⟩] rfl rfl ?c1 ?c2 ?c3 ?c4 ?c5 ?_))
          case c1 => exact cell_one_new' _ _ _
          case c2 => intro u hu; simp at hu; subst hu; rfl
          case c3 => unfold maxLen; omega
          case c4 => omega
          case c5 => have := hbw.size; simp; omega
          intro v2 w2 hown2 hgr2 _
          have hbw2 : Below w.heap.size w w2 := (hbw.alloc hbw.size _).grown hgr2 (by have := hbw.size; simp; omega) (fun k hk => (hown.lt k hk).1)
          go_wp2
          go_roundw
          case rel => exact ⟨k + 1, none, acc ++ [(a, k)], by go_num, rfl, by omega, (fun a h => by cases h), by rw [scells_snoc, List.length_append]; exact hown2, by simp; omega, hbw2, Lib.hid (.inl ⟨by omega, HF.out⟩)⟩
          case measure => simp [intOf]; omega
      | false =>
        rw [hb] at cB
        cases o with
        | none =>
          have HF : Hid (spans l = spEnd l.length (spB (l.drop (k + 1)) (k + 1) (some k) acc)) := Lib.hid (by rw [HR1.out, spB_nb hb]; rfl)
          clear hb ho
          simp only [stV]
          go_wp2_with (go_at_call 144; refine (cB _).mono ?_; rintro e w2 ⟨rfl, rfl⟩)
          go_roundw
          case rel => exact ⟨k + 1, some k, acc, by go_num, rfl, by omega, (fun a h => by cases h; omega), hown, by omega, hbw, Lib.hid (.inl ⟨by omega, HF.out⟩)⟩
          case measure => simp [intOf]; omega
        | some a =>
          have HF : Hid (spans l = spEnd l.length (spB (l.drop (k + 1)) (k + 1) (some a) acc)) := Lib.hid (by rw [HR1.out, spB_nb hb]; rfl)
          have hak2 := ho a rfl
          clear hb ho
          simp only [stV]
          go_wp2_with (go_at_call 144; refine (cB _).mono ?_; rintro e w2 ⟨rfl, rfl⟩)
          go_roundw
          case rel => exact ⟨k + 1, some a, acc, by go_num, rfl, by omega, (fun a h => by cases h; omega), hown, by omega, hbw, Lib.hid (.inl ⟨by omega, HF.out⟩)⟩
          case measure => simp [intOf]; omega
    · by_cases hke : k = l.length
      · have hlt2 : ¬ (k : Int) < (l.length : Int) := by omega
        have hle2 : (k : Int) ≤ (l.length : Int) := by omega
        have HR1 : Hid (spans l = spEnd l.length (acc, o)) := Lib.hid (by
          rcases HR.out with ⟨_, h⟩ | ⟨h, _⟩
          · rw [h, hke, List.drop_length]; rfl
          · omega)
        have HKE := Lib.hid hke
        clear hke HR
        have cB : True := trivial
        cases o with
        | none =>
          simp only [stV]
          go_wp2
          go_roundw
          case rel => exact ⟨k + 1, none, acc, by go_num, rfl, by omega, (fun a h => by cases h), hown, by omega, hbw, Lib.hid (.inr ⟨by rw [HKE.out], HR1.out⟩)⟩
          case measure => simp [intOf]; omega
        | some a =>
          have hak2 := ho a rfl
          have hak3 : (a : Int) ≤ (k : Int) := by omega
          have HF : Hid (spans l = acc ++ [(a, k)]) := Lib.hid (by rw [HR1.out, HKE.out]; rfl)
          have he : (⟨l.toArray⟩ : ByteArray).extract a k = ⟨(cutW l (a, k)).toArray⟩ := bs_extract l a k
          clear ho
          simp only [stV]
          go_wp2_with (first | (go_at_call 144; fail) | (at_builtin; refine wpList_append_own _ rfl _ _ 44 rfl w.heap.size 9 i0 (.string ⟨#[]⟩) 1 16 Tryz.underlying44 hi hz0 hz1 hz2 rfl (by decide) _ _ _ rfl (hown.alloc _) ⟨wr.heap.size, 0, none⟩ 1 1 [.string ⟨(cutW l (a, k)).toArray⟩] rfl rfl ?d1 ?d2 ?d3 ?d4 ?d5 ?_))
          case d2 => first | rfl | (intro u hu; simp at hu; subst hu; rfl)
          case d3 => unfold maxLen; omega
          case d4 => omega
          case d5 => have := hbw.size; simp; omega
          intro v2 w2 hown2 hgr2 _
          have hbw2 : Below w.heap.size w w2 := (hbw.alloc hbw.size _).grown hgr2 (by have := hbw.size; simp; omega) (fun k hk => (hown.lt k hk).1)
          go_wp2
          go_roundw
          case rel => exact ⟨k + 1, none, acc ++ [(a, k)], by go_num, rfl, by omega, (fun a h => by cases h), by rw [scells_snoc, List.length_append]; exact hown2, by simp; omega, hbw2, Lib.hid (.inr ⟨by rw [HKE.out], HF.out⟩)⟩
          case measure => simp [intOf]; omega
      · obtain rfl : k = l.length + 1 := by omega
        have hle2 : ¬ ((l.length + 1 : Nat) : Int) ≤ (l.length : Int) := by omega
        have HF : Hid (spans l = acc) := Lib.hid (by
          rcases HR.out with ⟨h, _⟩ | ⟨_, h⟩
          · omega
          · exact h)
        go_wp2
        go_ret
        exact HW.out _ _ _ HF.out hown hbw
end Go.Proofs.YtbjbljfmcpidmaaGreatDoor

/- header.Parse: the walk. -/
import Derived.Test.YtbjbljfmcpidmaaGreatDoorCut
import Derived.Outline
import Derived.RegionTactic
import Derived.Lib.SlBytesConst
namespace Go.Proofs.YtbjbljfmcpidmaaGreatDoor
open Go.RowKit Go.Lib Go.Shelf

/-- A scope with two labels: 1, to which the run comes back, and 0, behind which it doesn't jump. -/
theorem wp_scope_two {P : Program} {a : Act} {w : World} {Q : Exit → Act → World → Prop} {c x0 x1 : Code} (J0 : Act → World → Prop) (J1 : Nat → Act → World → Prop)
    (hf0 : findLabel c 0 = some (.seq .skip x0)) (hf1 : findLabel c 1 = some (.seq .skip x1))
    (first : (∀ m a w, J1 m a w → x1.wp P (jumps (fun l a w => (l = 0 ∧ J0 a w) ∨ (l = 1 ∧ ∃ m, J1 m a w)) Q) a w) → c.wp P (jumps (fun l a w => (l = 0 ∧ J0 a w) ∨ (l = 1 ∧ ∃ m, J1 m a w)) Q) a w)
    (pass1 : ∀ m a w, J1 m a w → x1.wp P (jumps (fun l a' w' => (l = 0 ∧ J0 a' w') ∨ (l = 1 ∧ ∃ m', m' < m ∧ J1 m' a' w')) Q) a w)
    (pass0 : ∀ a w, J0 a w → x0.wp P (jumps (fun _ _ _ => False) Q) a w) : (Code.scope c).wp P Q a w := by
  intro b k cs
  have key0 : ∀ a w, J0 a w → ∃ e a' w', Q e a' w' ∧ Arrives P (lone (b.at a (.code (.seq .skip x0) :: .inScope c :: k)) cs w) b k cs e a' w' := by
    intro a w h
    have hwp : (Code.seq .skip x0).wp P (jumps (fun _ _ _ => False) Q) a w := wp_seq (wp_skip (pass0 a w h))
    obtain ⟨e, a₁, w₁, hq, harr⟩ := hwp b (.inScope c :: k) cs
    cases e with
    | normal => exact ⟨.normal, a₁, w₁, hq, Steps.trans harr (.one step_inScope)⟩
    | exit id => exact ⟨.exit id, a₁, w₁, hq, fun k' hk => harr k' (by simp [exitTo, hk])⟩
    | goto l' => exact hq.elim
    | ret => exact ⟨_, a₁, w₁, hq, harr⟩
    | panic ch => exact ⟨_, a₁, w₁, hq, harr⟩
    | outgrown => exact ⟨_, a₁, w₁, hq, harr⟩
  have key1 : ∀ m a w, J1 m a w → ∃ e a' w', Q e a' w' ∧ Arrives P (lone (b.at a (.code (.seq .skip x1) :: .inScope c :: k)) cs w) b k cs e a' w' := by
    intro m
    induction m using Nat.strongRecOn with
    | _ m ih =>
      intro a w h
      have hwp : (Code.seq .skip x1).wp P (jumps (fun l a' w' => (l = 0 ∧ J0 a' w') ∨ (l = 1 ∧ ∃ m', m' < m ∧ J1 m' a' w')) Q) a w := wp_seq (wp_skip (pass1 m a w h))
      obtain ⟨e, a₁, w₁, hq, harr⟩ := hwp b (.inScope c :: k) cs
      cases e with
      | normal => exact ⟨.normal, a₁, w₁, hq, Steps.trans harr (.one step_inScope)⟩
      | exit id => exact ⟨.exit id, a₁, w₁, hq, fun k' hk => harr k' (by simp [exitTo, hk])⟩
      | goto l' =>
        rcases hq with ⟨rfl, hJ⟩ | ⟨rfl, m', hm, hJ⟩
        · obtain ⟨e₂, a₂, w₂, hq₂, harr₂⟩ := key0 a₁ w₁ hJ
          exact ⟨e₂, a₂, w₂, hq₂, .of_steps (harr _ (by simp [gotoIn, hf0])) harr₂⟩
        · obtain ⟨e₂, a₂, w₂, hq₂, harr₂⟩ := ih m' hm a₁ w₁ hJ
          exact ⟨e₂, a₂, w₂, hq₂, .of_steps (harr _ (by simp [gotoIn, hf1])) harr₂⟩
      | ret => exact ⟨_, a₁, w₁, hq, harr⟩
      | panic ch => exact ⟨_, a₁, w₁, hq, harr⟩
      | outgrown => exact ⟨_, a₁, w₁, hq, harr⟩
  have hfirst := first fun m a w h => wp_mono (pass1 m a w h) fun e a' w' hq => by
    cases e <;> first | exact hq | exact hq.imp id fun h => ⟨h.1, h.2.imp fun _ h => h.2⟩
  obtain ⟨e, a₁, w₁, hq, harr⟩ := hfirst b (.inScope c :: k) cs
  cases e with
  | normal => exact ⟨.normal, a₁, w₁, hq, .head step_scope (Steps.trans harr (.one step_inScope))⟩
  | exit id => exact ⟨.exit id, a₁, w₁, hq, fun k' hk => .head step_scope (harr k' (by simp [exitTo, hk]))⟩
  | goto l' =>
    rcases hq with ⟨rfl, hJ⟩ | ⟨rfl, m', hJ⟩
    · obtain ⟨e₂, a₂, w₂, hq₂, harr₂⟩ := key0 a₁ w₁ hJ
      exact ⟨e₂, a₂, w₂, hq₂, .of_steps (.head step_scope (harr _ (by simp [gotoIn, hf0]))) harr₂⟩
    · obtain ⟨e₂, a₂, w₂, hq₂, harr₂⟩ := key1 m' a₁ w₁ hJ
      exact ⟨e₂, a₂, w₂, hq₂, .of_steps (.head step_scope (harr _ (by simp [gotoIn, hf1]))) harr₂⟩
  | ret => exact ⟨_, a₁, w₁, hq, .of_steps (.one step_scope) harr⟩
  | panic ch => exact ⟨_, a₁, w₁, hq, .of_steps (.one step_scope) harr⟩
  | outgrown => exact ⟨_, a₁, w₁, hq, .of_steps (.one step_scope) harr⟩

def pframe (A : Option Addr) (n c : Nat) (v : Value) (at_ many : Nat) (u : Nat → Value) : Array Value := #[.slice A n c, undef, .slice none 0 0, .int .i64 0, v, .int .i64 at_, .int .i64 many, u 7, u 8, u 9, u 10, u 11, u 12, u 13, u 14, u 15, u 16, u 17, u 18, u 19, u 20, u 21, u 22, u 23, u 24, u 25, u 26, u 27, u 28, u 29, u 30, u 31, u 32, u 33, u 34, u 35, u 36, u 37, u 38, u 39, u 40, u 41, u 42, u 43, u 44, u 45, u 46, u 47, u 48, u 49, u 50, u 51, u 52, u 53, u 54, u 55, u 56, u 57, u 58, u 59, u 60, u 61, u 62, u 63, u 64, u 65, u 66, u 67, u 68, u 69, u 70, u 71, u 72, u 73, u 74, u 75, u 76, u 77, u 78, u 79, u 80, u 81, u 82, u 83, u 84, u 85, u 86, u 87, u 88, u 89, u 90, u 91, u 92, u 93, u 94, u 95, u 96, u 97, u 98, u 99, u 100, u 101, u 102, u 103, u 104]
def PFrame (A : Option Addr) (n c : Nat) (v : Value) (at_ many : Nat) (a : Act) : Prop := ∃ u : Nat → Value, a = { tmps := pframe A n c v at_ many u, defers := [] }
theorem PFrame.mk' {A : Option Addr} {n c : Nat} {v : Value} {at_ many : Nat} {T : Array Value} (h : T = pframe A n c v at_ many (fun i => T.getD i undef)) : PFrame A n c v at_ many { tmps := T, defers := [] } := ⟨_, by rw [← h]⟩
theorem hdrFrom_nil (k : Nat) (l : List Fld) (m a : Nat) : hdrFrom k [] l m a = (l, a) := by cases k <;> rfl

/-- What is known at the label 'line'. -/
def PLine (b : List UInt8) (A : Option Addr) (c : Nat) (w0 : World) (gk : Nat) (a : Act) (w : World) : Prop :=
  ∃ (v : Value) (at_ many : Nat) (L : List Fld), PFrame A b.length c v at_ many a ∧ w.ownsRow w0.heap.size 67 2 v L.length (fcells L) ∧ Below w0.heap.size w0 w ∧
    hdrFrom gk (b.drop at_) L many at_ = hdrRaw b ∧ at_ ≤ b.length ∧ b.length < at_ + gk ∧ L.length = min many 64 ∧ many ≤ at_ ∧ FitF L at_
/-- What is known at the label 'end'. -/
def PEnd (b : List UInt8) (A : Option Addr) (c : Nat) (w0 : World) (a : Act) (w : World) : Prop :=
  ∃ (v : Value) (at_ many : Nat) (L : List Fld), PFrame A b.length c v at_ many a ∧ w.ownsRow w0.heap.size 67 2 v L.length (fcells L) ∧ Below w0.heap.size w0 w ∧
    hdrRaw b = (L, at_) ∧ at_ ≤ b.length ∧ FitF L b.length ∧ L.length ≤ 64
def PDone (b : List UInt8) (w0 : World) (e : Ending) (w' : World) : Prop :=
  ∃ v : Value, e = .returned (.tuple #[v, .int .i64 ((hdr b).2 : Int)]) ∧ w'.ownsRow w0.heap.size 67 2 v (hdr b).1.length (fcells (hdr b).1) ∧ Below w0.heap.size w0 w'

theorem index_room (r : List UInt8) : 0 ≤ Lib.index r [13, 10] → Lib.index r [13, 10] + 2 ≤ r.length := by
  induction r with
  | nil => intro h; simp [Lib.index] at h
  | cons x r ih =>
    intro h
    unfold Lib.index at h ⊢
    split
    · rename_i hp
      have := (List.isPrefixOf_iff_prefix.1 hp).length_le
      simp at this ⊢
      omega
    · rename_i hp
      rw [if_neg hp] at h
      split
      · rename_i he; rw [if_pos he] at h; omega
      · rename_i he
        rw [if_neg he] at h
        have h1 := index_le r [13, 10]
        have : Lib.index r [13, 10] ≠ -1 := fun e => he (by simp [e])
        have := ih (by omega)
        simp only [List.length_cons]
        omega
theorem hdr_blank {k : Nat} {b : List UInt8} {at_ many : Nat} {L : List Fld} {res : List Fld × Nat} {ln : List UInt8} {S : Nat} (h : hdrFrom (k + 1) (b.drop at_) L many at_ = res) (hlt : at_ < b.length) (hl : lineOf (b.drop at_) = ln) (hne : ln ≠ []) (hm : 0 < many) (hb : headBl ln = true) (hs : stepOf (b.drop at_) = S) :
    hdrFrom k (b.drop (at_ + S)) (if many ≤ 64 then addVal L (many - 1) ln else L) many (at_ + S) = res := by
  unfold hdrFrom at h
  rw [hl, hs, if_neg (by intro e; have := congrArg List.length e; simp at this; omega), if_neg (fun e => hne e.1), if_pos ⟨hm, hb⟩, List.drop_drop] at h
  exact h
theorem hdr_stop {k : Nat} {b : List UInt8} {at_ many : Nat} {L : List Fld} {res : List Fld × Nat} {ln : List UInt8} (h : hdrFrom (k + 1) (b.drop at_) L many at_ = res) (hlt : at_ < b.length) (hl : lineOf (b.drop at_) = ln) (hne : ln ≠ []) (hb : ¬ (0 < many ∧ headBl ln = true)) (hn : nameOk ln = false) :
    res = (L, at_) := by
  unfold hdrFrom at h
  rw [hl, if_neg (by intro e; have := congrArg List.length e; simp at this; omega), if_neg (fun e => hne e.1), if_neg hb, if_pos hn] at h
  exact h.symm
theorem hdr_field {k : Nat} {b : List UInt8} {at_ many : Nat} {L : List Fld} {res : List Fld × Nat} {ln : List UInt8} {S : Nat} (h : hdrFrom (k + 1) (b.drop at_) L many at_ = res) (hlt : at_ < b.length) (hl : lineOf (b.drop at_) = ln) (hne : ln ≠ []) (hb : ¬ (0 < many ∧ headBl ln = true)) (hn : nameOk ln = true) (hs : stepOf (b.drop at_) = S) :
    hdrFrom k (b.drop (at_ + S)) (if many + 1 ≤ 64 then L ++ [fldOf ln] else L) (many + 1) (at_ + S) = res := by
  unfold hdrFrom at h
  rw [hl, hs, if_neg (by intro e; have := congrArg List.length e; simp at this; omega), if_neg (fun e => hne e.1), if_neg hb, if_neg (by rw [hn]; simp), List.drop_drop] at h
  exact h
theorem bytes_append (x y : List UInt8) : (⟨x.toArray⟩ : ByteArray) ++ ⟨y.toArray⟩ = ⟨(x ++ y).toArray⟩ := by
  apply ByteArray.ext
  simp

theorem fld_le (x : List UInt8) : (fldOf x).1.length + (fldOf x).2.length ≤ x.length := by
  unfold fldOf Lib.cut
  split
  · simp; omega
  · simp
theorem info28 : (Tryz.prog.info? 67).map (fun i => (i.zero, i.size, i.bytes)) = some (some (.agg #[.string ⟨#[]⟩, .string ⟨#[]⟩]), 2, 32) := by kernel_rfl
theorem line_le (r : List UInt8) : (lineOf r).length + (if wholeOf r then 2 else 0) ≤ r.length := by
  have h := index_le r [13, 10]
  have h2 := index_room r
  unfold lineOf wholeOf Lib.cut
  split
  · rename_i h0
    have := h2 h0
    simp
    omega
  · simp
theorem line_whole (r : List UInt8) (h : wholeOf r = false) : lineOf r = r := by
  unfold wholeOf Lib.cut at h
  unfold lineOf Lib.cut
  split at h
  · cases h
  · rename_i h0
    rw [if_neg h0]
theorem lineIn {w : World} {A : Option Addr} {r : List UInt8} (h : RowIn w A (bcells r)) : RowIn w A (bcells (lineOf r)) := by
  unfold lineOf Lib.cut
  split
  · have := h.take (Lib.index r [13, 10]).toNat
    rwa [show (bcells r).take (Lib.index r [13, 10]).toNat = bcells (r.take (Lib.index r [13, 10]).toNat) by simp [bcells]] at this
  · exact h

/-- The fields, the first so many of them trimmed. -/
def half (L : List Fld) (k : Nat) : List Fld := (L.take k).map trimF1 ++ L.drop k
theorem half_all (L : List Fld) : half L L.length = L.map trimF1 := by simp [half]
theorem half_length (L : List Fld) (k : Nat) : (half L k).length = L.length := by simp [half]; omega
theorem half_get (L : List Fld) (k : Nat) (h : k < L.length) : (half L k)[k]'(by rw [half_length]; exact h) = L[k] := by
  simp only [half]
  rw [List.getElem_append_right (by simp; omega)]
  simp [Nat.min_eq_left (Nat.le_of_lt h)]
theorem half_set (L : List Fld) (k : Nat) (h : k < L.length) : (half L k).set k (L[k].1, Lib.trimS L[k].2 [32, 9]) = half L (k + 1) := by
  unfold half
  rw [List.set_append_right _ _ (by simp; omega)]
  simp only [List.length_map, List.length_take, Nat.min_eq_left (Nat.le_of_lt h), Nat.sub_self]
  rw [List.drop_eq_getElem_cons h, List.set_cons_zero, List.take_succ_eq_append_getElem h, List.map_append, List.append_assoc]
  rfl

set_option maxHeartbeats 2000000 in
set_option maxRecDepth 100000 in
theorem parse_any (A : Option Addr) (c : Nat) (b : List UInt8) (w : World) (hb : b.length ≤ 2000000) (hc : b.length ≤ c) (hA : A = none → c = 0) (hr : RowIn w A (bcells b)) (hg : Gl w) :
    Calls Tryz.prog 32 #[.slice A b.length c] w (PDone b w) := by
  go_enter Tryz.func32, Tryz.ntmps32
  go_wp2_with fail
  refine wp_scope_two (PEnd b A c w) (PLine b A c w) rfl rfl ?_ ?_ ?_
  · intro hrest
    go_wp2_with fail
    go_step3
    rename_i K hK
    refine hK _ _ ?_
    clear hK
    refine hrest (b.length + 1) _ _ ?_
    refine ⟨.slice none 0 0, 0, 0, [], ?_, World.ownsRow_nil _ _ _ _, Below.refl _ _, by simp [hdrRaw], by omega, by omega, by simp, by omega, FitF.nil _⟩
    exact PFrame.mk' rfl
  · rintro gk a w1 ⟨v, at_, many, L, ⟨u, rfl⟩, hown, hbw, hfrom, hat, hgk, hL, hma, hfit⟩
    unfold pframe
    have HF := Lib.hid hfrom
    have HL := Lib.hid hL
    clear hfrom hL
    by_cases hend : at_ = b.length
    · subst hend
      go_wp2_with fail
      go_step3
      simp only [Exit.then]
      refine .inl ⟨rfl, v, b.length, many, L, PFrame.mk' rfl, hown, hbw, ?_, Nat.le_refl _, hfit, by rw [HL.out]; omega⟩
      have h := HF.out
      rw [List.drop_length, hdrFrom_nil] at h
      exact h.symm
    · have hlt : at_ < b.length := by omega
      obtain ⟨bb, o, rfl, hbb⟩ := hr.addr (by cases b <;> simp [bcells] at *)
      have hcut : ∀ W, Below w1.heap.size w1 W → RowIn W (some ⟨bb, o + at_, none⟩) (bcells (b.drop at_)) := fun W hW => by
        have h := (hr.below (hbw.trans (hW.mono hbw.size))).drop at_
        rwa [show (bcells b).drop at_ = bcells (b.drop at_) by simp [bcells]] at h
      have hcc : at_ < c := by omega
      have hrl : (b.drop at_).length = b.length - at_ := by simp
      have HR := Lib.hid hrl
      clear hA hend hrl
      have kc := fun (w : World) (C : Array Value) (n c : Nat) => Lib.run_convert_bytes_const (P := Tryz.prog) w 26 5 C n c Tryz.underlying26 Tryz.underlying5
      go_wp2_with fail
      rw [← HR.out]
      refine (cutLine bb (o + at_) (c - at_) w1.heap.size (b.drop at_) _ (hcut _ ((Below.refl _ _).alloc (Nat.le_refl _) _)) (by rw [HR.out]; omega) (by rw [HR.out]; omega) (World.cell?_alloc_mark _ _ _ _ 0) (World.cell?_alloc_mark _ _ _ _ 1) (hg.below (hbw.alloc hbw.size _))).mono ?_
      rintro e w2 ⟨X, rfl, hb2⟩
      have hb12 : Below w1.heap.size w1 w2 := ((Below.refl _ _).alloc (Nat.le_refl _) _).trans (hb2.mono (by simp))
      have hcv := conv_bytes (some ⟨bb, o + at_, none⟩) (lineOf (b.drop at_)) (lineOf (b.drop at_)).length (c - at_) w2 (lineIn (hcut w2 hb12)) rfl
      have HN := Lib.hid (line_le (b.drop at_))
      clear hb2 kc hr
      obtain ⟨ln, hln⟩ : ∃ ln, lineOf (b.drop at_) = ln := ⟨_, rfl⟩
      obtain ⟨wh, hwh⟩ : ∃ wh, wholeOf (b.drop at_) = wh := ⟨_, rfl⟩
      rw [hln, hwh]
      rw [hln] at hcv
      have HLN := Lib.hid hln
      have HWH := Lib.hid hwh
      clear hln hwh
      have hlnl : ln.length ≤ 2000000 := by have h1 := HN.out; have h2 := HR.out; have h3 := HLN.out; subst h3; omega
      have cN := name_any ⟨ln.toArray⟩ w2 (by simpa [ByteArray.size] using by omega) (hg.below (hbw.trans (hb12.mono hbw.size)))
      by_cases hA : ln = [] ∧ wh = true
      · obtain ⟨rfl, rfl⟩ := hA
        simp only [List.length_nil] at hcv
        have hcv := hcv
        go_wp2_with (go_at_call 56; refine cN.mono ?_; rintro e w3 ⟨rfl, hb3⟩)
        go_step3
        simp only [Exit.inBlock, Exit.then]
        have hst : stepOf (b.drop at_) = 2 := by unfold stepOf; rw [HLN.out, HWH.out]; rfl
        have h := HF.out
        have hne : b.drop at_ ≠ [] := fun e => by have := HR.out; rw [e] at this; simp at this; omega
        obtain ⟨k, rfl⟩ : ∃ k, gk = k + 1 := ⟨gk - 1, by omega⟩
        unfold hdrFrom at h
        rw [if_neg hne, if_pos ⟨HLN.out, HWH.out⟩] at h
        have hle := HN.out
        rw [HLN.out, HWH.out, HR.out] at hle
        refine .inl ⟨rfl, v, at_ + 2, many, L, PFrame.mk' rfl, owns_below hown (hb12.trans (hb3.mono hb12.size)), hbw.trans ((hb12.trans (hb3.mono hb12.size)).mono hbw.size), h.symm, by simp at hle; omega, hfit.mono (by omega), by rw [HL.out]; omega⟩
      · have hlne : ln ≠ [] := fun e => by
          cases hwh : wh with
          | true => exact hA ⟨e, hwh⟩
          | false =>
            have h1 := line_whole (b.drop at_) (HWH.out.trans hwh)
            rw [HLN.out, e] at h1
            have := HR.out
            rw [← h1] at this
            simp at this
            omega
        obtain ⟨x, tl, hxt⟩ : ∃ x tl, ln = x :: tl := by cases ln with | nil => exact absurd rfl hlne | cons x tl => exact ⟨x, tl, rfl⟩
        have hlp : 1 ≤ ln.length := by rw [hxt]; simp
        have hz : ((ln.length : Int) == 0) = false := by rw [beq_eq_false_iff_ne]; omega
        have hz2 : ((ln.length : Int) == 0 && wh) = false := by rw [hz]; rfl
        have hlc : ln.length ≤ c - at_ := by have h1 := HN.out; have h2 := HR.out; have h3 := HLN.out; rw [h3, h2] at h1; omega
        have hcell : ∀ W, Below w1.heap.size w1 W → W.cell? ⟨bb, o + at_, none⟩ = some (cell8 x) := fun W hW => by
          have h := (lineIn (hcut W hW)).cell 0 (cell8 x)
          rw [HLN.out, hxt] at h
          exact h rfl
        have HX := Lib.hid hxt
        have HA := Lib.hid hA
        clear hxt hA hlne
        have hst : Hid (((at_ + stepOf (b.drop at_) : Nat) : Int) = if wh then (at_ : Int) + ln.length + 2 else (at_ : Int) + ln.length) := Lib.hid (by
          unfold stepOf; rw [HLN.out, HWH.out]; cases wh <;> simp <;> omega)
        by_cases hB : 0 < many ∧ isBl x = true
        · obtain ⟨hm0, hbl⟩ := hB
          have hm1 : 0 < (many : Int) := by omega
          have hL1 : 1 ≤ L.length := by rw [HL.out]; omega
          obtain ⟨g, cap, rfl⟩ : ∃ g cap, v = .slice (some ⟨g, 0, none⟩) L.length cap := by
            rcases hown.2 with ⟨_, h⟩ | ⟨g, cap, _, h, _⟩
            · omega
            · exact ⟨g, cap, h⟩
          by_cases hm64 : many ≤ 64
          · have hm2 : (many : Int) ≤ 64 := by omega
            have hLm : L.length = many := by rw [HL.out]; omega
            have HLM := Lib.hid hLm
            clear hLm
            obtain ⟨m1, rfl⟩ : ∃ m1, many = m1 + 1 := ⟨many - 1, by omega⟩
            have wq : IntKind.i64.wrap (m1 : Int) = (m1 : Int) := IntWalk.i64_in _ (by omega)
            have hm1L : (m1 : Int) < (L.length : Int) := by rw [HLM.out]; omega
            have hm1n : m1 < L.length := by rw [HLM.out]; omega
            obtain ⟨S, hS, hS1⟩ : ∃ S, stepOf (b.drop at_) = S ∧ S = ln.length + (if wh then 2 else 0) := ⟨_, rfl, by unfold stepOf; rw [HLN.out, HWH.out]⟩
            have hSl : ln.length ≤ S := by omega
            have hSle : at_ + S ≤ b.length := by have h1 := HN.out; have h2 := HR.out; rw [h2] at h1; unfold stepOf at hS; omega
            obtain ⟨k, rfl⟩ : ∃ k, gk = k + 1 := ⟨gk - 1, by omega⟩
            have HF2 := Lib.hid (hdr_blank HF.out hlt HLN.out (by rw [HX.out]; simp) (by omega) (by rw [HX.out]; exact hbl) hS)
            have hvl : (L[m1]'hm1n).2.length ≤ at_ := by have := hfit _ (List.getElem_mem hm1n); omega
            generalize hval : (L[m1]'hm1n).2 = val at *
            have HV := Lib.hid hval
            have HS := Lib.hid hS
            have HS1 := Lib.hid hS1
            clear hval hS hS1 hst HF
            have hcat : ¬ 9223372036854775807 < val.length + ln.length := by omega
            cases wh
            all_goals
              go_wp2_with (first | (go_at_call 56; refine cN.mono ?_; rintro e w3 ⟨rfl, hb3⟩; have hc3 := hcell w3 (hb12.trans (hb3.mono hb12.size))) | (go_at_call 57; (have cI := idxAny_any bb (o + at_) (c - at_) x w3 hc3); rw [if_pos hbl] at cI; refine cI.mono ?_; rintro e w4 ⟨rfl, hb4⟩))
              have hb14 : Below w1.heap.size w1 w4 := hb12.trans ((hb3.trans (hb4.mono hb3.size)).mono hb12.size)
              have hown4 := owns_below hown hb14
              have hcell4 : w4.cell? ⟨g, m1 * 2 + 1, none⟩ = some (.string ⟨val.toArray⟩) := by
                rw [hown4.cellAt (m1 * 2 + 1) (by omega), Nat.mul_comm, ← HV.out]
                exact (fcells_get L m1 hm1n).2
              have hfr4 := hown4.frozenAt (m1 * 2 + 1)
              have hcv4 := conv_bytes (some ⟨bb, o + at_, none⟩) ln ln.length (c - at_) w4.drew (by have h := lineIn (hcut w4.drew hb14.drew); rwa [HLN.out] at h) rfl
              go_region
              all_goals
                go_wp2_with fail
                go_step3
                simp only [Exit.then]
                refine .inr ⟨rfl, k, by omega, .slice (some ⟨g, 0, none⟩) L.length cap, at_ + S, m1 + 1, addVal L m1 ln, ?_, ?_, ?_, ?_, hSle, by omega, ?_, by omega, ?_⟩
                · rw [HS1.out]
                  exact PFrame.mk' rfl
                · have h := ((hown4.drew).stored (m1 * 2 + 1) (.string ⟨(val ++ ln).toArray⟩)).1
                  rw [bytes_append, addVal_length, addVal_set L m1 hm1n ln, ← fcells_set L m1 hm1n, HV.out, Nat.mul_comm 2]
                  exact h
                · exact (hbw.trans (hb14.mono hbw.size)).drew.setCell (hown.lt g rfl).1 _
                · have h := HF2.out
                  rw [if_pos hm64] at h
                  exact h
                · rw [addVal_length]; exact HL.out
                · exact hfit.add m1 ln (by omega)
          · have hm2 : ¬ (many : Int) ≤ 64 := by omega
            obtain ⟨S, hS, hS1⟩ : ∃ S, stepOf (b.drop at_) = S ∧ S = ln.length + (if wh then 2 else 0) := ⟨_, rfl, by unfold stepOf; rw [HLN.out, HWH.out]⟩
            have hSl : ln.length ≤ S := by omega
            have hSle : at_ + S ≤ b.length := by have h1 := HN.out; have h2 := HR.out; rw [h2] at h1; unfold stepOf at hS; omega
            obtain ⟨k, rfl⟩ : ∃ k, gk = k + 1 := ⟨gk - 1, by omega⟩
            have HF2 := Lib.hid (hdr_blank HF.out hlt HLN.out (by rw [HX.out]; simp) (by omega) (by rw [HX.out]; exact hbl) hS)
            have HS1 := Lib.hid hS1
            clear hS hS1 hst HF
            cases wh
            all_goals
              go_wp2_with (first | (go_at_call 56; refine cN.mono ?_; rintro e w3 ⟨rfl, hb3⟩; have hc3 := hcell w3 (hb12.trans (hb3.mono hb12.size))) | (go_at_call 57; (have cI := idxAny_any bb (o + at_) (c - at_) x w3 hc3); rw [if_pos hbl] at cI; refine cI.mono ?_; rintro e w4 ⟨rfl, hb4⟩))
              go_step3
              simp only [Exit.then]
              have hb14 : Below w1.heap.size w1 w4 := hb12.trans ((hb3.trans (hb4.mono hb3.size)).mono hb12.size)
              refine .inr ⟨rfl, k, by omega, .slice (some ⟨g, 0, none⟩) L.length cap, at_ + S, many, L, ?_, owns_below hown hb14, hbw.trans (hb14.mono hbw.size), ?_, hSle, by omega, HL.out, by omega, hfit.mono (by omega)⟩
              · rw [HS1.out]
                exact PFrame.mk' rfl
              · have h := HF2.out
                rw [if_neg hm64] at h
                exact h
        · have hB' : ¬ (0 < many ∧ headBl ln = true) := by rw [HX.out]; exact hB
          by_cases hnm : nameOk ln = true
          · have hst2 : ∃ S, stepOf (b.drop at_) = S ∧ S = ln.length + (if wh then 2 else 0) := ⟨_, rfl, by unfold stepOf; rw [HLN.out, HWH.out]⟩
            obtain ⟨S, hS, hS1⟩ := hst2
            have hSl : ln.length ≤ S := by omega
            have hSle : at_ + S ≤ b.length := by have h1 := HN.out; have h2 := HR.out; rw [h2] at h1; unfold stepOf at hS; omega
            obtain ⟨k, rfl⟩ : ∃ k, gk = k + 1 := ⟨gk - 1, by omega⟩
            have HF2 := Lib.hid (hdr_field HF.out hlt HLN.out (by rw [HX.out]; simp) hB' hnm hS)
            have HS1 := Lib.hid hS1
            have HB := Lib.hid hB
            clear hst HF hS hS1 hB hB'
            have hfl : (fldOf ln).1.length + (fldOf ln).2.length ≤ at_ + S := by have := fld_le ln; omega
            have HFL := Lib.hid hfl
            clear hfl
            obtain ⟨i0, hi, iz0, iz1, iz2⟩ := info_parts info28
            have HNM := Lib.hid hnm
            clear hnm
            have hm64 : many + 1 ≤ 64 ∨ ¬ many + 1 ≤ 64 := Decidable.em _
            have cN : Calls Tryz.prog 56 #[.string ⟨ln.toArray⟩] w2 fun e w' => e = .returned (.tuple #[.string ⟨(fldOf ln).1.toArray⟩, .string ⟨(fldOf ln).2.toArray⟩, .bool true]) ∧ Below w2.heap.size w2 w' := by
              refine cN.mono fun e w' h => ?_
              rw [show nameOk (⟨ln.toArray⟩ : ByteArray).data.toList = true from HNM.out] at h
              exact h
            generalize hfv : fldOf ln = fv at *
            have HFV := Lib.hid hfv
            clear hfv
            obtain ⟨nm, vl⟩ := fv
            dsimp only at cN
            rcases hm64 with hm64 | hm64
            · have hm2 : (many : Int) + 1 ≤ 64 := by omega
              have hL64 : L.length ≤ 64 := by rw [HL.out]; omega
              by_cases hm0 : 0 < many
              · have hbl : ¬ isBl x = true := fun h => HB.out ⟨hm0, h⟩
                have hm1 : 0 < (many : Int) := by omega
                cases wh
                all_goals
                  go_wp2_with (first | (go_at_call 56; refine cN.mono ?_; rintro e w3 ⟨rfl, hb3⟩; have hc3 := hcell w3 (hb12.trans (hb3.mono hb12.size))) | (go_at_call 57; (have cI := idxAny_any bb (o + at_) (c - at_) x w3 hc3); rw [if_neg hbl] at cI; refine cI.mono ?_; rintro e w4 ⟨rfl, hb4⟩; (have hb14 : Below w1.heap.size w1 w4 := hb12.trans ((hb3.trans (hb4.mono hb3.size)).mono hb12.size)); (have hown4 := owns_below hown hb14); have hbw4 : Below w.heap.size w w4 := hbw.trans (hb14.mono hbw.size)) | (at_builtin; refine wpList_append_own _ rfl _ _ 61 rfl w.heap.size 67 i0 (.agg #[.string ⟨#[]⟩, .string ⟨#[]⟩]) 2 32 Tryz.underlying61 hi iz0 iz1 iz2 rfl (by decide) _ _ _ rfl (hown4.alloc _) ⟨w4.heap.size, 0, none⟩ 1 1 [.string ⟨nm.toArray⟩, .string ⟨vl.toArray⟩] rfl rfl (cell_two_new _ _ _ _) ?c2 ?c3 ?c4 ?c5 ?_))
                  case c2 => intro u hu; simp at hu; rcases hu with rfl | rfl <;> rfl
                  case c3 => unfold maxLen; omega
                  case c4 => omega
                  case c5 => have := hbw4.size; simp; omega
                  intro v5 w5 hown5 hg5 _
                  have hbw5 : Below w.heap.size w w5 := (hbw4.alloc hbw4.size _).grown hg5 (by have := hbw4.size; simp; omega) (fun k hk => (hown.lt k hk).1)
                  go_wp2_with fail
                  go_step3
                  simp only [Exit.then]
                  refine .inr ⟨rfl, k, by omega, v5, at_ + S, many + 1, L ++ [(nm, vl)], ?_, ?_, hbw5, ?_, hSle, by omega, ?_, by omega, ?_⟩
                  · rw [HS1.out]
                    exact PFrame.mk' rfl
                  · rw [fcells_append, List.length_append]
                    exact hown5
                  · have h := HF2.out
                    rw [if_pos hm64] at h
                    exact h
                  · rw [List.length_append, HL.out]; simp; omega
                  · exact hfit.snoc _ HFL.out (by omega)
              · have hm1 : ¬ 0 < (many : Int) := by omega
                cases wh
                all_goals
                  go_wp2_with (first | (go_at_call 56; refine cN.mono ?_; rintro e w4 ⟨rfl, hb3⟩; (have hb14 : Below w1.heap.size w1 w4 := hb12.trans (hb3.mono hb12.size)); (have hown4 := owns_below hown hb14); have hbw4 : Below w.heap.size w w4 := hbw.trans (hb14.mono hbw.size)) | (at_builtin; refine wpList_append_own _ rfl _ _ 61 rfl w.heap.size 67 i0 (.agg #[.string ⟨#[]⟩, .string ⟨#[]⟩]) 2 32 Tryz.underlying61 hi iz0 iz1 iz2 rfl (by decide) _ _ _ rfl (hown4.alloc _) ⟨w4.heap.size, 0, none⟩ 1 1 [.string ⟨nm.toArray⟩, .string ⟨vl.toArray⟩] rfl rfl (cell_two_new _ _ _ _) ?c2 ?c3 ?c4 ?c5 ?_))
                  case c2 => intro u hu; simp at hu; rcases hu with rfl | rfl <;> rfl
                  case c3 => unfold maxLen; omega
                  case c4 => omega
                  case c5 => have := hbw4.size; simp; omega
                  intro v5 w5 hown5 hg5 _
                  have hbw5 : Below w.heap.size w w5 := (hbw4.alloc hbw4.size _).grown hg5 (by have := hbw4.size; simp; omega) (fun k hk => (hown.lt k hk).1)
                  go_wp2_with fail
                  go_step3
                  simp only [Exit.then]
                  refine .inr ⟨rfl, k, by omega, v5, at_ + S, many + 1, L ++ [(nm, vl)], ?_, ?_, hbw5, ?_, hSle, by omega, ?_, by omega, ?_⟩
                  · rw [HS1.out]
                    exact PFrame.mk' rfl
                  · rw [fcells_append, List.length_append]
                    exact hown5
                  · have h := HF2.out
                    rw [if_pos hm64] at h
                    exact h
                  · rw [List.length_append, HL.out]; simp; omega
                  · exact hfit.snoc _ HFL.out (by omega)
            · have hm2 : ¬ (many : Int) + 1 ≤ 64 := by omega
              by_cases hm0 : 0 < many
              · have hbl : ¬ isBl x = true := fun h => HB.out ⟨hm0, h⟩
                have hm1 : 0 < (many : Int) := by omega
                cases wh
                all_goals
                  go_wp2_with (first | (go_at_call 56; refine cN.mono ?_; rintro e w3 ⟨rfl, hb3⟩; have hc3 := hcell w3 (hb12.trans (hb3.mono hb12.size))) | (go_at_call 57; (have cI := idxAny_any bb (o + at_) (c - at_) x w3 hc3); rw [if_neg hbl] at cI; refine cI.mono ?_; rintro e w4 ⟨rfl, hb4⟩; (have hb14 : Below w1.heap.size w1 w4 := hb12.trans ((hb3.trans (hb4.mono hb3.size)).mono hb12.size)); (have hown4 := owns_below hown hb14); have hbw4 : Below w.heap.size w w4 := hbw.trans (hb14.mono hbw.size)))
                  go_step3
                  simp only [Exit.then]
                  refine .inr ⟨rfl, k, by omega, v, at_ + S, many + 1, L, ?_, hown4, hbw4, ?_, hSle, by omega, ?_, by omega, hfit.mono (by omega)⟩
                  · rw [HS1.out]
                    exact PFrame.mk' rfl
                  · have h := HF2.out
                    rw [if_neg hm64] at h
                    exact h
                  · have := HL.out; omega
              · exfalso; omega
          · have hnm' : nameOk ln = false := by simpa using hnm
            clear hnm
            obtain ⟨k, rfl⟩ : ∃ k, gk = k + 1 := ⟨gk - 1, by omega⟩
            have HF2 := Lib.hid (hdr_stop HF.out hlt HLN.out (by rw [HX.out]; simp) hB' hnm')
            clear hst HF
            have HB := Lib.hid hB
            clear hB hB'
            by_cases hm0 : 0 < many
            · have hbl : ¬ isBl x = true := fun h => HB.out ⟨hm0, h⟩
              have hm1 : 0 < (many : Int) := by omega
              cases wh
              all_goals
                go_wp2_with (first | (go_at_call 56; refine cN.mono ?_; rintro e w3 ⟨rfl, hb3⟩; have hc3 := hcell w3 (hb12.trans (hb3.mono hb12.size))) | (go_at_call 57; (have cI := idxAny_any bb (o + at_) (c - at_) x w3 hc3); rw [if_neg hbl] at cI; refine cI.mono ?_; rintro e w4 ⟨rfl, hb4⟩))
                go_step3
                simp only [Exit.inBlock, Exit.then]
                have hb14 : Below w1.heap.size w1 w4 := hb12.trans ((hb3.trans (hb4.mono hb3.size)).mono hb12.size)
                exact .inl ⟨rfl, v, at_, many, L, PFrame.mk' rfl, owns_below hown hb14, hbw.trans (hb14.mono hbw.size), HF2.out, by omega, hfit.mono (by omega), by rw [HL.out]; omega⟩
            · have hm1 : ¬ 0 < (many : Int) := by omega
              cases wh
              all_goals
                go_wp2_with (first | (go_at_call 56; refine cN.mono ?_; rintro e w3 ⟨rfl, hb3⟩; have hc3 := hcell w3 (hb12.trans (hb3.mono hb12.size))))
                go_step3
                simp only [Exit.inBlock, Exit.then]
                have hb14 : Below w1.heap.size w1 w3 := hb12.trans (hb3.mono hb12.size)
                exact .inl ⟨rfl, v, at_, many, L, PFrame.mk' rfl, owns_below hown hb14, hbw.trans (hb14.mono hbw.size), HF2.out, by omega, hfit.mono (by omega), by rw [HL.out]; omega⟩
  · rintro a w1 ⟨v, at_, many, L, ⟨u, rfl⟩, hown, hbw, hres, hat, hfit, hL64⟩
    unfold pframe
    have HRES := Lib.hid hres
    clear hres
    have hdone : ∀ wr : World, wr.ownsRow w.heap.size 67 2 v L.length (fcells (half L L.length)) → Below w.heap.size w wr → PDone b w (.returned (.tuple #[v, .int .i64 (at_ : Int)])) wr := fun wr h1 h2 => by
      refine ⟨v, by unfold hdr; rw [HRES.out], ?_, h2⟩
      unfold hdr
      rw [HRES.out]
      simp only [List.length_map]
      rw [half_all] at h1
      exact h1
    rcases hown.2 with ⟨rfl, hL0⟩ | ⟨g, cap, _, rfl, hwg, _⟩
    · have hL : L = [] := List.eq_nil_of_length_eq_zero hL0
      subst hL
      have hd := hdone w1 hown hbw
      have HD := Lib.hid hd
      clear hd hdone
      go_wp2_with fail
      go_loopw [89] (fun i wr => i = .int .i64 0 ∧ wr = w1) (fun _ _ => 0)
      case atStart => exact ⟨rfl, rfl⟩
      case round =>
        obtain ⟨rfl, rfl⟩ := hrel
        go_wp2
        simp only [jumps]
        go_ret2
        exact HD.out
    · have HD := Lib.hid hdone
      clear hdone
      have hLl : L.length ≤ 64 := hL64
      go_wp2_with fail
      go_loopw [89] (fun i wr => ∃ k : Nat, k ≤ L.length ∧ i = .int .i64 k ∧ wr.ownsRow w.heap.size 67 2 (.slice (some ⟨g, 0, none⟩) L.length cap) L.length (fcells (half L k)) ∧ Below w.heap.size w wr) (fun i _ => L.length - (intOf i).toNat)
      case atStart => exact ⟨0, Nat.zero_le _, rfl, hown, hbw⟩
      case round =>
        obtain ⟨k, hk, rfl, hownk, hbk⟩ := hrel
        by_cases hlt : k < L.length
        · have hck : wr.cell? ⟨g, k * 2 + 1, none⟩ = some (.string ⟨(L[k]'hlt).2.toArray⟩) := by
            rw [hownk.cellAt (k * 2 + 1) (by omega), Nat.mul_comm, (fcells_get (half L k) k (by rw [half_length]; exact hlt)).2, half_get L k hlt]
          have hfk := hfit _ (List.getElem_mem hlt)
          have cT := fun W => trim_any ⟨(L[k]'hlt).2.toArray⟩ W (by simpa [ByteArray.size] using by omega)
          generalize hval : (L[k]'hlt).2 = val at *
          have HV := Lib.hid hval
          clear hval hfk
          go_wp2_with (go_at_call 58; refine (cT _).mono ?_; rintro e w2 ⟨rfl, hb2⟩; (have hown2 := owns_below hownk hb2); (have hc2 : w2.cell? ⟨g, k * 2 + 1, none⟩ = some (.string ⟨val.toArray⟩) := (cell_below hb2 hck)); have hf2 := hown2.frozenAt (k * 2 + 1))
          refine ⟨⟨k + 1, by omega, by go_num, ?_, (hbk.trans (hb2.mono hbk.size)).setCell (hown.lt g rfl).1 _⟩, by simp [intOf]; omega⟩
          have h := (hown2.stored (k * 2 + 1) (.string ⟨(Lib.trimS val [32, 9]).toArray⟩)).1
          rw [← half_set L k hlt, ← half_get L k hlt, ← fcells_set _ k (by rw [half_length]; exact hlt), half_get L k hlt, HV.out, Nat.mul_comm 2]
          exact h
        · obtain rfl : k = L.length := by omega
          go_wp2
          simp only [jumps]
          go_ret2
          exact HD.out wr hownk hbk
end Go.Proofs.YtbjbljfmcpidmaaGreatDoor

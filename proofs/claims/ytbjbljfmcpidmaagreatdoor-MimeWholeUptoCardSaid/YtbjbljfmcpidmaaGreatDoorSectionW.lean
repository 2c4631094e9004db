/- mime.Section: some of a message's bytes; slices.Clone of bytes. -/
import Derived.Test.YtbjbljfmcpidmaaGreatDoorAppB
import Derived.Test.YtbjbljfmcpidmaaGreatDoorFind
import Derived.WalkLawsBesides
import Derived.Deep.Cut
namespace Go.Proofs.YtbjbljfmcpidmaaGreatDoor
open Go.RowKit Go.Lib Go.Shelf
theorem eq_nil_slice (W : World) (a : Option Addr) (l c : Nat) : (binOp .eql 26 (.slice a l c) (.slice none 0 0)).run Tryz.prog W = .ok (.bool a.isNone) W := by
  simp only [binOp]
  simp [run_equal_slice_nil W 26 5 a l c Tryz.underlying26]
set_option maxHeartbeats 1000000 in
theorem clone_any (A : Option Addr) (c : Nat) (l : List UInt8) (w : World) (hr : RowIn w A (bcells l)) (hl : l.length ≤ 4000000) :
    Calls Tryz.prog 42 #[.slice A l.length c] w fun e w' => ∃ v, e = .returned v ∧ w'.ownsRow w.heap.size 5 1 v l.length (bcells l) ∧ Below w.heap.size w w' := by
  have heq := eq_nil_slice
  cases A with
  | none =>
    have hl0 : l = [] := by
      cases l with
      | nil => rfl
      | cons x t =>
        obtain ⟨_, _, e, _⟩ := hr.addr (by simp [bcells])
        cases e
    subst hl0
    clear hr hl
    go_enter Tryz.func42, Tryz.ntmps42
    go_wp2
    go_ret
    exact ⟨_, rfl, World.ownsRow_nil _ _ _ _, Below.refl _ _⟩
  | some ad =>
    obtain ⟨i0, hi, hz0, hz1, hz2⟩ := info_parts infoB
    have hown : ∀ t, (w.alloc (.cells #[] t)).ownsRow w.heap.size t 1 (.slice (some ⟨w.heap.size, 0, none⟩) 0 0) 0 [] := fun t => ⟨rfl, .inr ⟨w.heap.size, 0, #[], rfl, Nat.le_refl _, heap_alloc_new w _, by simp, by decide, by simp, by simp⟩⟩
    have hr2 : ∀ o, RowIn (w.alloc o) (some ad) (bcells l) := fun o => hr.below ((Below.refl _ _).alloc (Nat.le_refl _) _)
    have hbl : (bcells l).length = l.length * 1 := by simp [bcells]
    have HO := Lib.hid hown
    have HR := Lib.hid hr2
    have HB := Lib.hid hbl
    clear hown hr2 hbl hr
    go_enter Tryz.func42, Tryz.ntmps42
    go_wp2_with (at_builtin; refine wpList_append_row _ rfl _ _ 26 rfl w.heap.size 5 i0 (Value.int IntKind.u8 0) 1 1 Tryz.underlying26 hi hz0 hz1 hz2 rfl (by decide) _ 0 [] rfl (HO.out _) (some ad) l.length c (bcells l) rfl (HR.out _) HB.out (cells_one l) ?a3 ?a4 ?a5 ?_)
    case a3 => unfold maxLen; omega
    case a4 => omega
    case a5 => simp
    intro v' w' h1 h2 _
    go_wp2
    go_ret
    refine ⟨_, rfl, by simpa using h1, ?_⟩
    exact ((Below.refl _ _).alloc (Nat.le_refl _) _).grown h2 (by simp) (fun k hk => by cases hk; exact Nat.le_refl _)
theorem inside_kid : ∀ (l : List PT) (deep at_ t m i : Nat) (x : PT), insideL deep at_ t l = some m → l[i]? = some x → ∃ m', insideP deep x = some m' ∧ at_ ≤ x.fr ∧ x.to ≤ t := by
  intro l
  induction l with
  | nil => intro deep at_ t m i x _ h; simp at h
  | cons y l ih =>
    intro deep at_ t m i x h hx
    unfold insideL at h
    split at h
    · rename_i hc
      cases hy : insideP deep y with
      | none => rw [hy] at h; simp at h
      | some my =>
        rw [hy] at h
        cases hl : insideL deep y.to t l with
        | none => rw [hl] at h; simp at h
        | some ml =>
          cases i with
          | zero =>
            have : y = x := by simpa using hx
            subst this
            exact ⟨my, hy, hc.1, hc.2⟩
          | succ i =>
            obtain ⟨m', h1, h2, h3⟩ := ih deep y.to t ml i x hl (by simpa using hx)
            refine ⟨m', h1, ?_, h3⟩
            have hy2 : y.fr ≤ y.to := by
              cases y
              unfold insideP at hy
              split at hy
              · rename_i hh; simp only [PT.fr, PT.to]; omega
              · cases hy
            omega
    · cases h
theorem inside_self {deep m : Nat} {x : PT} (h : insideP deep x = some m) : x.fr ≤ x.bo ∧ x.bo ≤ x.to ∧ insideL (deep + 1) x.bo x.to x.kids = some m := by
  cases x
  unfold insideP at h
  split at h
  · rename_i hh
    exact ⟨hh.1, hh.2.1, h⟩
  · cases h
theorem inside_walk : ∀ (ks : List Int) (p x : PT) (deep m : Nat), insideP deep p = some m → walkT p ks = some x → (∃ deep' m', insideP deep' x = some m') ∧ x.to ≤ p.to := by
  intro ks
  induction ks with
  | nil =>
    intro p x deep m h hx
    have : p = x := by simpa [walkT] using hx
    subst this
    exact ⟨⟨deep, m, h⟩, Nat.le_refl _⟩
  | cons k ks ih =>
    intro p x deep m h hx
    obtain ⟨h1, h2, h3⟩ := inside_self h
    unfold walkT at hx
    cases hk : (PT.kids p)[(k - 1).toNat]? with
    | none => rw [hk] at hx; cases hx
    | some y =>
      rw [hk] at hx
      dsimp only at hx
      split at hx
      · obtain ⟨my, g1, g2, g3⟩ := inside_kid _ _ _ _ _ _ _ h3 hk
        obtain ⟨g4, g5⟩ := ih y x (deep + 1) my g1 hx
        exact ⟨g4, Nat.le_trans g5 g3⟩
      · cases hx
theorem find_bounds {b : List UInt8} {ks : List Int} {x : PT} (h : findT (mpart b) ks = some x) : x.fr ≤ x.bo ∧ x.bo ≤ x.to ∧ x.to ≤ b.length := by
  obtain ⟨h1, h2, m, h3, _⟩ := partS_inside b 4 0 0 b.length 0 (by omega) (Nat.zero_le _) (Nat.le_refl _)
  have hm : insideP 0 (mpart b) = some m := h3
  have ht : (mpart b).to = b.length := h2
  have key : (∃ deep' m', insideP deep' x = some m') ∧ x.to ≤ (mpart b).to := by
    unfold findT at h
    split at h
    · have : mpart b = x := by simpa using h
      subst this
      exact ⟨⟨0, m, hm⟩, Nat.le_refl _⟩
    · exact inside_walk ks _ x 0 m hm h
  obtain ⟨⟨d, m', g1⟩, g2⟩ := key
  obtain ⟨g3, g4, _⟩ := inside_self g1
  exact ⟨g3, g4, by omega⟩
/-- Some of a message's bytes, and the answer's number. -/
def secT (b : List UInt8) (ks : List Int) (what : Int) (p : PT) : List UInt8 × Int :=
  if ks = [] ∧ what = 0 then (b, 0)
  else if what = 0 ∨ (ks = [] ∧ what = 2) then (cutB b p.bo p.to, 0)
  else if what ≠ 2 ∧ (ks = [] ↔ what = 1) then (cutB b p.fr p.bo, 0)
  else ([], 110)
def secS (b : List UInt8) (ks : List Int) (what : Int) : List UInt8 × Int :=
  if what < 0 ∨ 3 < what then ([], 1)
  else match findT (mpart b) ks with
    | none => ([], 110)
    | some p => secT b ks what p
theorem row_at {w : World} {A A2 : Option Addr} {c c2 : Nat} {b : List UInt8} {lo hi : Nat} (hr : RowIn w A (bcells b)) (hlh : lo ≤ hi) (hhi : hi ≤ b.length) (hc : b.length ≤ c)
    (h : (A2 = A.map (fun x => x.add lo) ∧ c2 = c - lo) ∨ (A2 = A ∧ c2 = 0 ∧ c = lo)) : RowIn w A2 (bcells (cutB b lo hi)) := by
  have hl : (cutB b lo hi).length = hi - lo := by unfold cutB; simp; omega
  rcases h with ⟨rfl, rfl⟩ | ⟨rfl, rfl, rfl⟩
  · intro hne
    obtain ⟨bb, oo, rfl, hlt⟩ := hr.addr (by intro e; apply hne; have := congrArg List.length e; simp [bcells] at this; rw [this] at hhi; rw [show hi = 0 by simpa using hhi]; rw [this]; simp [cutB, bcells])
    have h2 := (hr.take hi).drop lo
    rw [show ((bcells b).take hi).drop lo = bcells (cutB b lo hi) by simp [bcells, cutB]] at h2
    have e : Option.map (fun x : Addr => x.add lo) (some ⟨bb, oo, none⟩) = some ⟨bb, oo + lo, none⟩ := by
      show some (Addr.add ⟨bb, oo, none⟩ lo) = _
      unfold Addr.add
      split
      · rename_i h0; rw [h0]; rfl
      · rfl
    rw [e]
    exact h2 hne
  · rw [show cutB b c hi = [] from List.eq_nil_of_length_eq_zero (by rw [hl]; omega)]
    exact RowIn.nil _ _
def CPost (l : List UInt8) (w : World) (e : Ending) (w' : World) : Prop := ∃ v, e = .returned v ∧ w'.ownsRow w.heap.size 5 1 v l.length (bcells l) ∧ Below w.heap.size w w'
theorem clone_at {w W : World} {A A2 : Option Addr} {c c2 : Nat} {b : List UInt8} {lo hi : Nat} (hr : RowIn w A (bcells b)) (hlh : lo ≤ hi) (hhi : hi ≤ b.length) (hc : b.length ≤ c) (hb : b.length ≤ 2000000) (hW : Below w.heap.size w W)
    (h : (A2 = A.map (fun x => x.add lo) ∧ c2 = c - lo) ∨ (A2 = A ∧ c2 = 0 ∧ c = lo)) : Calls Tryz.prog 42 #[.slice A2 (hi - lo) c2] W (CPost (cutB b lo hi) w) := by
  have hl : (cutB b lo hi).length = hi - lo := by unfold cutB; simp; omega
  have key := clone_any A2 c2 (cutB b lo hi) W ((row_at hr hlh hhi hc h).below hW) (by omega)
  rw [hl] at key
  refine key.mono ?_
  rintro e w' ⟨v, rfl, h1, h2⟩
  exact ⟨v, rfl, by rw [hl]; exact owns_mono h1 hW.size, hW.trans (h2.mono hW.size)⟩
theorem clone_whole {w W : World} {A : Option Addr} {c : Nat} {b : List UInt8} (hr : RowIn w A (bcells b)) (hb : b.length ≤ 2000000) (hW : Below w.heap.size w W) : Calls Tryz.prog 42 #[.slice A b.length c] W (CPost b w) := by
  refine (clone_any A c b W (hr.below hW) (by omega)).mono ?_
  rintro e w' ⟨v, rfl, h1, h2⟩
  exact ⟨v, rfl, owns_mono h1 hW.size, hW.trans (h2.mono hW.size)⟩
/-- What Section answers. -/
def SPost (r : List UInt8 × Int) (w : World) (e : Ending) (w' : World) : Prop := ∃ v, e = .returned (.tuple #[v, .int .i64 r.2]) ∧ w'.ownsRow w.heap.size 5 1 v r.1.length (bcells r.1) ∧ Below w.heap.size w w'
set_option maxRecDepth 100000 in
set_option maxHeartbeats 2000000 in
theorem section_any (A : Option Addr) (c : Nat) (b : List UInt8) (A2 : Option Addr) (c2 : Nat) (ks : List Int) (what : Int) (w : World) (hb : b.length ≤ 2000000) (hc : b.length ≤ c) (hA : A = none → c = 0) (hr : RowIn w A (bcells b)) (hg : Gl w)
    (hr2 : RowIn w A2 (icells ks)) (hk : ks.length ≤ 2000000) (hkb : ∀ k ∈ ks, -9223372036854775808 ≤ k ∧ k ≤ 9223372036854775807) :
    Calls Tryz.prog 22 #[.slice A b.length c, .slice A2 ks.length c2, .int .i64 what] w (SPost (secS b ks what) w) := by
  obtain ⟨PD, hPD⟩ : ∃ PD, PD = SPost (secS b ks what) w := ⟨_, rfl⟩
  rw [← hPD]
  have HPD := Lib.hid hPD
  clear hPD
  by_cases hw : what < 0 ∨ 3 < what
  · have HS : Hid (secS b ks what = ([], 1)) := Lib.hid (if_pos hw)
    rcases hw with hw | hw
    all_goals
      go_enter Tryz.func22, Tryz.ntmps22
      go_wp2
      (try go_ret2)
      rw [HPD.out, HS.out]
      exact ⟨_, rfl, World.ownsRow_nil _ _ _ _, Below.refl _ _⟩
  · have HS0 : Hid (secS b ks what = match findT (mpart b) ks with | none => ([], 110) | some p => secT b ks what p) := Lib.hid (if_neg hw)
    have hw1 : ¬ what < 0 := fun e => hw (.inl e)
    have hw2 : ¬ 3 < what := fun e => hw (.inr e)
    have hP := mparse_any A c b w hb hc hA hr hg
    go_enter Tryz.func22, Tryz.ntmps22
    go_wp2_with fail
    with_reducible refine hP.mono ?_
    rintro e w1 ⟨m, rfl, hok, her, hb1⟩
    have hF := find_any (fun x => w.heap.size ≤ x) m A2 c2 ks w1 hok (hr2.below hb1) hk hkb
    go_wp2_with fail
    with_reducible refine hF.mono ?_
    rintro e w2 ⟨m', en, rfl, hcase, hb2⟩
    have hb12 : Below w.heap.size w w2 := hb1.trans (hb2.mono hb1.size)
    rcases hcase with ⟨hfm, rfl, hok2⟩ | ⟨hfm, rfl, rfl⟩
    · have hft : findT (mpart b) ks = some (erase m') := by rw [← her, find_erase, hfm]; rfl
      have HS : Hid (secS b ks what = secT b ks what (erase m')) := Lib.hid (by rw [HS0.out, hft])
      obtain ⟨hbd1, hbd2, hbd3⟩ := find_bounds hft
      obtain ⟨ty, sub, bd, en, fr, bo, to_, Ak, ck, kids⟩ := m'
      simp only [erase, PT.fr, PT.bo, PT.to] at hbd1 hbd2 hbd3
      have HC1 := Lib.hid (fun o => clone_whole (W := World.alloc w2 o) (c := c) hr hb (hb12.alloc hb12.size o))
      have HC2 := Lib.hid (fun o A2 c2 h => clone_at (W := World.alloc w2 o) (A2 := A2) (c2 := c2) hr hbd2 hbd3 hc hb (hb12.alloc hb12.size o) h)
      have HC3 := Lib.hid (fun o A2 c2 h => clone_at (W := World.alloc w2 o) (A2 := A2) (c2 := c2) hr hbd1 (Nat.le_trans hbd2 hbd3) hc hb (hb12.alloc hb12.size o) h)
      have hbd4 : (fr : Int) ≤ (bo : Int) := by omega
      have hbd5 : (bo : Int) ≤ (to_ : Int) := by omega
      have hbd6 : (to_ : Int) ≤ (c : Int) := by omega
      simp only [mval, mcell]
      clear hP hF hfm hok hok2 her hft HS0 hr2 hkb hb1 hb2
      have hcs : (ks = [] ∧ what = 0) ∨ (¬ ks = [] ∧ what = 0) ∨ (ks = [] ∧ what = 2) ∨ (ks = [] ∧ what = 1) ∨ (¬ ks = [] ∧ what = 3) ∨ (ks = [] ∧ what = 3) ∨ (¬ ks = [] ∧ what = 1) ∨ (¬ ks = [] ∧ what = 2) := by
        have h4 : what = 0 ∨ what = 1 ∨ what = 2 ∨ what = 3 := by omega
        by_cases h0 : ks = [] <;> rcases h4 with h | h | h | h <;> simp [h0, h]
      clear hw hw1 hw2
      rcases hcs with ⟨h1, h2⟩ | ⟨h1, h2⟩ | ⟨h1, h2⟩ | ⟨h1, h2⟩ | ⟨h1, h2⟩ | ⟨h1, h2⟩ | ⟨h1, h2⟩ | ⟨h1, h2⟩
      all_goals
        subst h2
        have HR := Lib.hid (HS.out.trans (by unfold secT; simp [h1, erase, PT.fr, PT.bo, PT.to]; rfl))
        clear HS
      all_goals
        first
        | (have h3 : ks.length = 0 := by rw [h1]; rfl)
        | (have h3 : ¬ ks.length = 0 := fun e => h1 (List.length_eq_zero_iff.1 e); have h5 : ((ks.length : Int) == 0) = false := beq_eq_false_iff_ne.2 (by omega))
        clear h1
        go_wp2_with (go_at_call 42; (first | (with_reducible refine (HC1.out _).mono ?_) | (with_reducible refine (HC2.out _ _ _ (.inl ⟨rfl, rfl⟩)).mono ?_) | (with_reducible refine (HC2.out _ _ _ (.inr ⟨rfl, rfl, by assumption⟩)).mono ?_) | (with_reducible refine (HC3.out _ _ _ (.inl ⟨rfl, rfl⟩)).mono ?_) | (with_reducible refine (HC3.out _ _ _ (.inr ⟨rfl, rfl, by assumption⟩)).mono ?_)); rintro e w4 ⟨v, rfl, hown, hb4⟩)
        all_goals
          (try go_ret2)
          rw [HPD.out, HR.out]
          first
          | exact ⟨_, rfl, hown, hb4⟩
          | exact ⟨_, rfl, World.ownsRow_nil _ _ _ _, hb12.alloc hb12.size _⟩
    · have HS : Hid (secS b ks what = ([], 110)) := Lib.hid (by rw [HS0.out, ← her, find_erase, hfm]; rfl)
      clear hP hF
      simp only [mval, mcell, zeroP]
      go_wp2
      (try go_ret2)
      rw [HPD.out, HS.out]
      exact ⟨_, rfl, World.ownsRow_nil _ _ _ _, hb12.alloc hb12.size _⟩
end Go.Proofs.YtbjbljfmcpidmaaGreatDoor

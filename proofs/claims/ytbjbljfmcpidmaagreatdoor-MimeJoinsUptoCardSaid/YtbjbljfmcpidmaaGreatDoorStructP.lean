/- mime: the parts of any message can be told, in plain Lean. -/
import Derived.Test.YtbjbljfmcpidmaaGreatDoorTellN
namespace Go.Proofs.YtbjbljfmcpidmaaGreatDoor
open Go.RowKit Go.Lib Go.Shelf
theorem prog_all (rec : Nat → Nat → Nat → PT × Nat) (P : PT → Prop) (to_ : Nat) (hrec : ∀ f t n, f ≤ t → t ≤ to_ → n ≤ 16 → P (rec f t n).1) (ms : List Mark) : ∀ (o : Option Nat) (n lo : Nat), lo ≤ to_ → (∀ g, o = some g → g ≤ lo) → Chain to_ lo ms → ∀ x ∈ (progKids rec to_ o ms n).1, P x := by
  induction ms with
  | nil =>
    intro o n lo h2 ho hc x hx
    cases o with
    | none => simp [progKids] at hx
    | some g =>
      have g2 := ho g rfl
      unfold progKids at hx
      split at hx
      · rw [List.mem_singleton.1 hx]
        exact hrec _ _ _ (Nat.le_max_left _ _) (by omega) (by omega)
      · cases hx
  | cons m ms ih =>
    intro o n lo h2 ho hc x hx
    obtain ⟨c1, c2, c3, c4⟩ := hc
    cases o with
    | none =>
      unfold progKids at hx
      split at hx
      · cases hx
      · exact ih (some m.2.1) n m.2.1 c3 (fun g hg => by cases hg; omega) c4 x hx
    | some g =>
      have g2 := ho g rfl
      have he : max g (m.1 - 2) ≤ to_ := by omega
      unfold progKids at hx
      split at hx
      · split at hx
        · rw [List.mem_singleton.1 hx]
          exact hrec _ _ _ (Nat.le_max_left _ _) he (by omega)
        · rcases List.mem_cons.1 hx with hx | hx
          · rw [hx]
            exact hrec _ _ _ (Nat.le_max_left _ _) he (by omega)
          · exact ih (some m.2.1) _ m.2.1 c3 (fun g hg => by cases hg; omega) c4 x hx
      · split at hx
        · cases hx
        · exact ih (some m.2.1) n m.2.1 c3 (fun g hg => by cases hg; omega) c4 x hx
theorem insideL_len : ∀ (l : List PT) (deep at_ t m : Nat), insideL deep at_ t l = some m → l.length ≤ m := by
  intro l
  induction l with
  | nil => intro deep at_ t m _; simp
  | cons x l ih =>
    intro deep at_ t m h
    unfold insideL at h
    split at h
    · cases hx : insideP deep x with
      | none => rw [hx] at h; cases h
      | some mx =>
        rw [hx] at h
        cases hl : insideL deep x.to t l with
        | none => rw [hl] at h; cases h
        | some ml =>
          rw [hl] at h
          have e : mx + 1 + ml = m := by simpa using h
          have := ih deep x.to t ml hl
          rw [List.length_cons]
          omega
    · cases h
theorem kind_len (v : List UInt8) (h : v.length ≤ 2000000) : (kindS v).1.length ≤ 2000000 ∧ (kindS v).2.1.length ≤ 2000000 := by
  unfold kindS
  split
  · dsimp only
    rw [List.length_map, List.length_map]
    have a1 := tokS_le (tb v)
    have a2 := tb_le v
    have a3 := tokS_le (kS2 v)
    have a4 : (kS2 v).length ≤ (kS1 v).length := signS_le _ _
    have a5 : (kS1 v).length ≤ (tb v).length := tokR_le _
    omega
  · exact ⟨by decide, by decide⟩
theorem enc_len (L : List Fld) (h : (getF L cteName).1.length ≤ 2000000) : (encS L).length ≤ 2000000 := by
  unfold encS encW
  have hw := words_len (getF L cteName).1
  split
  · decide
  · rename_i x t he
    split
    · rw [List.length_map]
      have := hw x (by rw [he]; exact List.mem_cons_self ..)
      omega
    · decide
theorem part_texts (b : List UInt8) (fr to_ : Nat) (hb : b.length ≤ 2000000) : (partKd b fr to_).1.length ≤ 2000000 ∧ (partKd b fr to_).2.1.length ≤ 2000000 ∧ (partEn b fr to_).length ≤ 2000000 := by
  have hcl : (cutB b fr to_).length ≤ 2000000 := by unfold cutB; simp; omega
  have hf := (hdr_fit (cutB b fr to_)).1.mono hcl
  have h1 := kind_len _ (getF_le (hdr (cutB b fr to_)).1 ctName hf)
  exact ⟨h1.1, h1.2, enc_len _ (getF_le (hdr (cutB b fr to_)).1 cteName hf)⟩
theorem partW_form (rec : Nat → Nat → Nat → PT × Nat) (dp : Bool) (b : List UInt8) (fr to_ n : Nat) : ∃ ty sub bd, (ty = (partKd b fr to_).1 ∨ ty = kText) ∧ (sub = (partKd b fr to_).2.1 ∨ sub = kPlain) ∧ ∃ kids, (kids = [] ∨ kids = (partKs rec dp b (partKd b fr to_).2.2 (partBo b fr to_) to_ n).1) ∧
    (partW rec dp b fr to_ n).1 = .mk ty sub bd (partEn b fr to_) fr (partBo b fr to_) to_ kids := by
  unfold partW
  split
  · unfold partEnd
    split
    · exact ⟨_, _, _, .inr rfl, .inr rfl, [], .inl rfl, rfl⟩
    · exact ⟨_, _, _, .inl rfl, .inl rfl, _, .inr rfl, rfl⟩
  · exact ⟨_, _, _, .inl rfl, .inl rfl, [], .inl rfl, rfl⟩
theorem partS_ok (b : List UInt8) (hb : b.length ≤ 2000000) : ∀ k deep fr to_ n, deep + k = 4 → fr ≤ to_ → to_ ≤ b.length → n ≤ 16 → TOk b.length k (partS b k fr to_ n).1 := by
  intro k
  induction k with
  | zero =>
    intro deep fr to_ n hd h ht hn
    obtain ⟨t1, t2, t3⟩ := part_texts b fr to_ hb
    obtain ⟨b1, b2⟩ := bo_le b fr to_ h ht
    obtain ⟨ty, sub, bd, h1, h2, kids, h3, h4⟩ := partW_form (fun _ _ n => (.mk [] [] [] [] 0 0 0 [], n)) false b fr to_ n
    have hk : kids = [] := by
      rcases h3 with h3 | h3
      · exact h3
      · rw [h3, ks_no (.inr rfl)]
    show TOk b.length 0 (partW _ false b fr to_ n).1
    rw [h4, hk]
    refine ⟨?_, ?_, t3, b2, ht, by simp, rfl⟩
    · rcases h1 with h1 | h1 <;> rw [h1]
      · exact t1
      · decide
    · rcases h2 with h2 | h2 <;> rw [h2]
      · exact t2
      · decide
  | succ k ih =>
    intro deep fr to_ n hd h ht hn
    obtain ⟨t1, t2, t3⟩ := part_texts b fr to_ hb
    obtain ⟨b1, b2⟩ := bo_le b fr to_ h ht
    obtain ⟨_, _, m, i1, i2⟩ := partS_inside b (k + 1) deep fr to_ n hd h ht
    have i3 := partS_n b (k + 1) fr to_ n hn
    have hform := partW_form (partS b k) true b fr to_ n
    have hpp : partS b (k + 1) fr to_ n = partW (partS b k) true b fr to_ n := rfl
    rw [hpp] at i1 i2 i3 ⊢
    generalize partW (partS b k) true b fr to_ n = pw at *
    clear hpp
    obtain ⟨ty, sub, bd, h1, h2, kids, h3, h4⟩ := hform
    rw [h4] at i1 ⊢
    have i4 := insideL_len _ _ _ _ _ (inside_self i1).2.2
    have hkl : kids.length ≤ 16 := Nat.le_trans i4 (Nat.le_trans (Nat.le_add_left m n) (i2 ▸ i3))
    clear i1 i2 i3 i4 h4
    refine ⟨?_, ?_, t3, b2, ht, hkl, ?_⟩
    · rcases h1 with h1 | h1 <;> rw [h1]
      · exact t1
      · decide
    · rcases h2 with h2 | h2 <;> rw [h2]
      · exact t2
      · decide
    · rcases h3 with h3 | h3
      · rw [h3]; intro x hx; cases hx
      · rw [h3]
        unfold partKs
        split
        · have hd2 : deep + 1 + k = 4 := by omega
          have hrec : ∀ f t n, f ≤ t → t ≤ to_ → n ≤ 16 → TOk b.length k (partS b k f t n).1 := fun f t n h1 h2 h3 => ih (deep + 1) f t n hd2 h1 (Nat.le_trans h2 ht) h3
          have hch := marks_chain b (partKd b fr to_).2.2 to_ (to_ + 1) (partBo b fr to_) b2
          generalize marksS (to_ + 1) b (partKd b fr to_).2.2 to_ (partBo b fr to_) = ms at *
          generalize partS b k = rec at *
          exact prog_all rec (TOk b.length k) to_ hrec ms none n (partBo b fr to_) b2 (fun g hg => by cases hg) hch
        · intro x hx; cases hx
theorem mpart_ok (b : List UInt8) (hb : b.length ≤ 2000000) : TOk b.length 4 (mpart b) := partS_ok b hb 4 0 0 b.length 0 rfl (Nat.zero_le _) (Nat.le_refl _) (by omega)
def structS (b : List UInt8) : List UInt8 := tellT b (mpart b)
set_option maxHeartbeats 1000000 in
theorem struct_any (A : Option Addr) (c : Nat) (b : List UInt8) (w : World) (hb : b.length ≤ 2000000) (hc : b.length ≤ c) (hA : A = none → c = 0) (hr : RowIn w A (bcells b)) (hg : Gl w) (hP : PowTab w) :
    Calls Tryz.prog 20 #[.slice A b.length c] w fun e w' => e = .returned (.string ⟨(structS b).toArray⟩) ∧ Below w.heap.size w w' := by
  have hal : Below w.heap.size w (w.alloc (.cells #[.slice A b.length c] 71)) := (Below.refl _ _).alloc (Nat.le_refl _) _
  go_enter Tryz.func20, Tryz.ntmps20
  go_wp2_with fail
  have hb1 : ∀ o, Below w.heap.size w (w.alloc o) := fun o => (Below.refl _ _).alloc (Nat.le_refl _) o
  have c0 : ∀ t, (w.alloc (.cells #[.slice A b.length c, .int .i64 0] t)).cell? ⟨w.heap.size, 0, none⟩ = some (.slice A b.length c) := fun t => cell_of_alloc w [.slice A b.length c, .int .i64 0] t _ rfl
  refine (mparse_any A c b _ hb hc hA (hr.below (hb1 _)) (hg.below (hb1 _))).mono ?_
  rintro e w2 ⟨m, rfl, hok, her, hb2⟩
  have hb12 := (hb1 _).trans (hb2.mono (hb1 _).size)
  have hT : TW w2 w.heap.size A c b := ⟨cell_below hb2 (c0 _), hr.below hb12, hg.below hb12, hP.below hb12⟩
  have hC := tell_all 4 (Nat.le_refl _) _ w.heap.size A c b m w2 hT hb hc hA hok (by rw [her]; exact mpart_ok b hb)
  rw [her] at hC
  go_wp2_with fail
  refine hC.mono ?_
  rintro e w3 ⟨rfl, hb3⟩
  go_wp2
  go_ret
  exact ⟨rfl, hb12.trans (hb3.mono hb12.size)⟩
end Go.Proofs.YtbjbljfmcpidmaaGreatDoor

/- HeaderBack's walk. -/
import Derived.Test.YtbjbljfmcpidmaaDoorGood
import Derived.Test.YtbjbljfmcpidmaaDoorReads
import Derived.Test.YtbjbljfmcpidmaaDoorAppB
namespace Go.Proofs.YtbjbljfmcpidmaaDoor
open Go.RowKit Go.Lib Go.Shelf
def sizeF (L : List Fld) : Nat := (L.map fun f => f.1.length + f.2.length).sum
theorem sizeF_take (L : List Fld) (k : Nat) (h : k < L.length) : sizeF (L.take (k + 1)) = sizeF (L.take k) + (L[k].1.length + L[k].2.length) := by
  unfold sizeF
  rw [List.take_succ_eq_append_getElem h, List.map_append, List.sum_append]
  simp
theorem sizeF_take_le (L : List Fld) (k : Nat) : sizeF (L.take k) ≤ sizeF L := by
  have h : sizeF (L.take k) + sizeF (L.drop k) = sizeF L := by
    unfold sizeF
    rw [← List.sum_append, ← List.map_append, List.take_append_drop]
  omega
theorem encL_snoc (l : List Fld) (f : Fld) : encL (l ++ [f]) = encL l ++ f.1 ++ [58, 32] ++ f.2 ++ [13, 10] := by simp [encL, encF]
theorem sizeF_get (L : List Fld) (k : Nat) (h : k < L.length) : L[k].1.length + L[k].2.length ≤ sizeF L := by
  have h1 := sizeF_take L k h
  have h2 := sizeF_take_le L (k + 1)
  omega
theorem infoF : (Tryd.prog.info? 28).map (fun i => (i.zero, i.size, i.bytes)) = some (some (.agg #[.string ⟨#[]⟩, .string ⟨#[]⟩]), 2, 32) := info28
set_option maxHeartbeats 8000000 in
set_option maxRecDepth 100000 in
theorem back_any (A : Option Addr) (c : Nat) (L : List Fld) (A2 : Option Addr) (c2 : Nat) (body : List UInt8) (w : World) (hr : RowIn w A (fcells L)) (hr2 : RowIn w A2 (bcells body)) (hL : L.length ≤ 2000000) (hsz : sizeF L + body.length ≤ 1100000) (hg : Gl w) :
    Calls Tryd.prog 4 #[.slice A L.length c, .slice A2 body.length c2] w fun e w' => e = .returned (.bool true) ∧ Below w.heap.size w w' := by
  obtain ⟨i0, hi, hz0, hz1, hz2⟩ := info_parts infoF
  go_enter Tryd.func4, Tryd.ntmps4
  go_wp2_with fail
  refine (shown_any w hg).mono ?_
  rintro e w1 ⟨rfl, hb1⟩
  have hown0 : (w1.alloc (.cells #[] 28)).ownsRow w.heap.size 28 2 (.slice (some ⟨w1.heap.size, 0, none⟩) 0 0) 0 [] := ⟨rfl, .inr ⟨w1.heap.size, 0, #[], rfl, hb1.size, heap_alloc_new w1 _, by simp, by decide, by simp, by simp⟩⟩
  have hb1a := hb1.alloc hb1.size (.cells #[] 28)
  go_wp2
  go_loopw [6, 7, 8] (fun tx wa i wr => ∃ (k : Nat) (acc : List Fld), i = .int .i64 k ∧ k ≤ L.length ∧ tx = .string ⟨(encL acc).toArray⟩ ∧ wr.ownsRow w.heap.size 28 2 wa acc.length (fcells acc) ∧ Below w.heap.size w wr ∧ acc.length ≤ 60 ∧ Hid (∀ f ∈ acc, goodF f) ∧ (encL acc).length ≤ sizeF (L.take k) + 4 * acc.length) (fun _ _ i _ => L.length - (intOf i).toNat)
  case atStart => exact ⟨0, [], rfl, Nat.zero_le _, rfl, hown0, hb1a, by simp, Lib.hid (by simp), by simp [encL]⟩
  case round =>
    obtain ⟨k, acc, rfl, hk, rfl, hown, hbw, h60, HG, hel⟩ := hrel
    obtain ⟨Aw, cw, rfl, hcw, hmw, hrw, hAw⟩ := owns_open hown
    by_cases hlt : k < L.length ∧ acc.length < 60
    · obtain ⟨hlt, h6⟩ := hlt
      have hlt2 : (k : Int) < (L.length : Int) := by omega
      have h62 : (acc.length : Int) < 60 := by omega
      obtain ⟨b, o, rfl, hblt⟩ := hr.addr (fun e => by have := fcells_length L; rw [e] at this; simp at this; omega)
      have hrow := fcells_row (hr.below hbw) k hlt
      obtain ⟨hc1, hc2⟩ := hrow
      have HS := Lib.hid (sizeF_take L k hlt)
      have HS2 := Lib.hid (sizeF_get L k hlt)
      obtain ⟨f, hfe⟩ : ∃ f, L[k] = f := ⟨_, rfl⟩
      rw [hfe] at hc1 hc2 HS HS2
      clear hfe
      have cG := fun W => good_any f W (by have := HS2.out; omega) (by have := HS2.out; omega)
      obtain ⟨fn, fv⟩ := f
      dsimp only at hc1 hc2 cG
      have hs1 : fn.length ≤ 1100000 := by have := HS2.out; dsimp only at this; omega
      have hs2 : fv.length ≤ 1100000 := by have := HS2.out; dsimp only at this; omega
      have hs3 : (encL acc).length ≤ 1100240 := by have := sizeF_take_le L k; omega
      cases hgd : goodFB (fn, fv) with
      | false =>
        rw [hgd] at cG
        clear hgd
        go_wp2_with fail
        refine (cG _).mono ?_
        rintro e w2 ⟨rfl, hb2⟩
        go_wp2
        go_roundw
        case rel => exact ⟨k + 1, acc, by go_num, by omega, rfl, owns_below hown hb2, hbw.trans (hb2.mono hbw.size), h60, HG, by have := HS.out; omega⟩
        case measure => simp [intOf]; omega
      | true =>
        rw [hgd] at cG
        have HF := Lib.hid ((goodFB_iff (fn, fv)).1 hgd)
        clear hgd
        go_wp2_with fail
        refine (cG _).mono ?_
        rintro e w2 ⟨rfl, hb2⟩
        have hd1 := cell_below hb2 hc1
        have hd2 := cell_below hb2 hc2
        have hown2 := owns_below hown hb2
        have hbw2 := hbw.trans (hb2.mono hbw.size)
        have HT := Lib.hid (encL_snoc acc (fn, fv))
        obtain ⟨tx, htx⟩ : ∃ tx, encL acc = tx := ⟨_, rfl⟩
        rw [htx] at HT hs3 hel
        rw [htx]
        clear htx
        go_wp2
        go_region
        all_goals
          go_wp2_with (at_builtin; refine wpList_append_own _ rfl _ _ 24 rfl w.heap.size 28 i0 (.agg #[.string ⟨#[]⟩, .string ⟨#[]⟩]) 2 32 Tryd.underlying24 hi hz0 hz1 hz2 rfl (by decide) _ _ _ rfl (hown2.drew.alloc _) ⟨w2.heap.size, 0, none⟩ 1 1 [.string ⟨fn.toArray⟩, .string ⟨fv.toArray⟩] rfl rfl (cell_two_new _ _ _ _) ?c2 ?c3 ?c4 ?c5 ?_)
          case c2 => intro u hu; simp at hu; rcases hu with rfl | rfl <;> rfl
          case c3 => unfold maxLen; omega
          case c4 => omega
          case c5 => have := hbw2.size; simp; omega
          intro v5 w5 hown5 hg5 _
          have hbw5 : Below w.heap.size w w5 := ((hbw2.alloc hbw2.size _).drew).grown hg5 (by have := hbw2.size; simp; omega) (fun k hk => (hown2.lt k hk).1)
          go_wp2
          go_roundw
          case rel => exact ⟨k + 1, acc ++ [(fn, fv)], by go_num, by omega, by rw [HT.out]; exact congrArg Value.string (by apply ByteArray.ext; simp), by rw [fcells_append, List.length_append]; exact hown5, hbw5, by simp; omega, Lib.hid (fun f hf => by
            rcases List.mem_append.1 hf with h | h
            · exact HG.out f h
            · rw [List.mem_singleton.1 h]; exact HF.out), by have h1 := HS.out; have h2 := HT.out; rw [h2]; simp at h1 ⊢; omega⟩
          case measure => simp [intOf]; omega
    · have hout : ((k : Int) < (L.length : Int) ∧ ¬ (acc.length : Int) < 60) ∨ ¬ (k : Int) < (L.length : Int) := by
        by_cases h1 : k < L.length
        · exact .inl ⟨by omega, by have : ¬ acc.length < 60 := fun h => hlt ⟨h1, h⟩; omega⟩
        · exact .inr (by omega)
      have hs3 : (encL acc).length ≤ 1100000 - body.length + 240 := by have := sizeF_take_le L k; omega
      obtain ⟨T, hT⟩ : ∃ T, T = encL acc ++ [13, 10] := ⟨_, rfl⟩
      have HH : Hid (hdr (T ++ body) = (acc, T.length)) := Lib.hid (by rw [hT]; have h := hdr_back acc body HG.out h60; simpa using h)
      have hTl : T.length ≤ 1100242 - body.length := by rw [hT]; simp; omega
      have hcat : (⟨(encL acc).toArray⟩ : ByteArray) ++ ⟨#[13, 10]⟩ = ⟨T.toArray⟩ := by rw [hT]; apply ByteArray.ext; simp
      have hadd : ¬ 9223372036854775807 < (encL acc).length + 2 := by omega
      obtain ⟨cap, w3, hconv, hb3, hcapB, hcap, hsz3⟩ := str_cap T wr
      have hbw3 := hbw.trans (hb3.mono hbw.size)
      obtain ⟨v4, w4, hrun, hsl, hb4⟩ := app_bytes w3 wr.heap.size wr.heap.size cap T body A2 c2 hcapB (hr2.below hbw3) (Nat.le_refl _) (by omega)
      have hb34 := hb3.trans hb4
      have hbw4 := hbw.trans (hb34.mono hbw.size)
      obtain ⟨ad, c4, rfl, hrow4, hc4⟩ := hsl
      have hrw4 := hrw.below hb34
      have cP := parse_any (some ad) c4 (T ++ body) w4 (by simp; omega) hc4 (fun h => by cases h) hrow4 (hg.below hbw4)
      have HTl : Hid ((T ++ body).length = T.length + body.length) := Lib.hid (by simp)
      rw [HTl.out] at cP hrun
      have hlm : acc.length ≤ 60 := h60
      clear hT
      rcases hout with ⟨o1, o2⟩ | o1
      all_goals
        go_wp2_with (at_builtin; refine Lib.wpList_append_run_sl _ rfl _ _ 22 rfl _ _ rfl rfl hrun ?_)
        refine cP.mono ?_
        rintro e w5 ⟨v5, rfl, hown5, hb5⟩
        rw [HH.out] at hown5 ⊢
        obtain ⟨A5, c5, hv5, hc5, _, hrow5, _⟩ := owns_open hown5
        subst hv5
        have hrw5 := hrw4.below hb5
        have hbw5 := hbw4.trans (hb5.mono hbw4.size)
        go_wp2
        go_loopw [11] (fun i wx => ∃ k : Nat, i = .int .i64 k ∧ k ≤ acc.length ∧ Below w5.heap.size w5 wx) (fun i _ => acc.length - (intOf i).toNat)
        case atStart => exact ⟨0, rfl, Nat.zero_le _, Below.refl _ _⟩
        case round =>
          obtain ⟨k, rfl, hk, hbx⟩ := hrel
          have hbr := hbw5.trans (hbx.mono hbw5.size)
          by_cases hkL : k < acc.length
          · have hkL1 : (k : Int) < (acc.length : Int) := by omega
            have hne : fcells acc ≠ [] := fun e => by have := fcells_length acc; rw [e] at this; simp at this; omega
            obtain ⟨b3, o3, rfl, _⟩ := hrow5.addr hne
            obtain ⟨b4, o4, rfl, _⟩ := hrw5.addr hne
            obtain ⟨q1, q2⟩ := fcells_row (hrow5.below hbx) k hkL
            obtain ⟨q3, q4⟩ := fcells_row (hrw5.below hbx) k hkL
            generalize acc[k] = f at *
            obtain ⟨fn, fv⟩ := f
            dsimp only at q1 q2 q3 q4
            go_wp2
            go_region
            all_goals
              go_wp2
              go_roundw
              case rel => exact ⟨k + 1, by go_num, by omega, hbx.drew⟩
              case measure => simp [intOf]; omega
          · have hkL1 : ¬ ((k : Int) < (acc.length : Int)) := by omega
            go_wp2
            go_ret
            exact ⟨rfl, hbr⟩
end Go.Proofs.YtbjbljfmcpidmaaDoor

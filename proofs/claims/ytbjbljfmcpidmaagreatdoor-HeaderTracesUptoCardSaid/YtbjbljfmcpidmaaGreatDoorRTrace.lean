/- The reference's Trace. -/
import Derived.Test.YtbjbljfmcpidmaaGreatDoorTrace
namespace Go.Proofs.YtbjbljfmcpidmaaGreatDoor
open Go.RowKit Go.Lib Go.Shelf
theorem itoa_neg1 (u : Nat) (h : 1 ≤ u) : Lib.itoa (-(u : Int)) = 45 :: digitsS u := by rw [Lib.itoa_neg u h, dec_digits]
theorem itoa_pos1 (u : Nat) : Lib.itoa (u : Int) = digitsS u := by rw [Lib.itoa_nonneg, dec_digits]
set_option maxHeartbeats 2000000 in
theorem rtrace_any (f t b : List UInt8) (id s : Int) (w : World) (hf : f.length ≤ 2000000) (ht : t.length ≤ 2000000) (hb : b.length ≤ 2000000) (h0 : -9223372036854775808 ≤ id) (h1 : id ≤ 9223372036854775807) :
    Calls Tryz.prog 15 #[.string ⟨f.toArray⟩, .string ⟨t.toArray⟩, .string ⟨b.toArray⟩, .int .i64 id, .int .i64 s] w fun e w' => e = .returned (.string ⟨(traceS f t b (Lib.itoa id) (htextS s)).toArray⟩) ∧ Below w.heap.size w w' := by
  have l2 := htextS_len s
  have HH := Lib.hid (fun W => rheaderS_any s W)
  have HX : Hid (∀ n X, traceS f t b n X = rpT ++ f ++ [62, 13, 10] ++ dtT ++ t ++ [13, 10] ++ rbT ++ b ++ [32, 105, 100, 32] ++ n ++ [59, 32] ++ X ++ [13, 10]) := Lib.hid fun _ _ => rfl
  generalize htextS s = X at *
  by_cases hneg : id < 0
  · obtain ⟨u, rfl⟩ : ∃ u : Nat, id = -(u : Int) := ⟨id.natAbs, by omega⟩
    have hu1 : 1 ≤ u := by omega
    have hu2 : u ≤ 9223372036854775808 := by omega
    have HN := Lib.hid (itoa_neg1 u hu1)
    have hl := digitsS_len u 18 (by omega)
    have hr : (-(u : Int)).tmod 10 = -((u % 10 : Nat) : Int) := by
      rw [Int.neg_tmod]
      rfl
    have hq : (-(u : Int)).tdiv 10 = -((u / 10 : Nat) : Int) := by
      rw [Int.neg_tdiv]
      rfl
    have hm : u % 10 < 10 := Nat.mod_lt _ (by decide)
    have cM := fun W => rdigits_any (u % 10) W (by omega)
    rw [digitsS_lt hm] at cM
    have em : dig (u % 10) = dig u := by unfold dig; rw [Nat.mod_mod]
    rw [em] at cM
    by_cases h9 : u < 10
    · have hg : ¬ (-(u : Int)) < -9 := by omega
      rw [digitsS_lt h9] at HN
      have e1 : u % 10 = u := Nat.mod_eq_of_lt h9
      rw [e1] at hr cM
      have HM := Lib.hid cM
      clear cM em h0 h1 hm
      go_enter Tryz.func15, Tryz.ntmps15
      go_wp2_with fail
      refine (HM.out _).mono ?_
      rintro e w1 ⟨rfl, hb1⟩
      go_wp2_with fail
      refine (HH.out _).mono ?_
      rintro e w2 ⟨rfl, hb2⟩
      go_wp2
      go_ret
      rw [HX.out, HN.out]
      exact ⟨congrArg (fun b => Ending.returned (Value.string b)) (by apply ByteArray.ext; simp [rpT, dtT, rbT]), hb1.trans (hb2.mono hb1.size)⟩
    · have hg : (-(u : Int)) < -9 := by omega
      have HQ := Lib.hid (fun W => rdigits_any (u / 10) W (by omega))
      have hlq := digitsS_len (u / 10) 18 (by omega)
      rw [digitsS_ge h9] at HN
      have HM := Lib.hid cM
      obtain ⟨q, hqq⟩ : ∃ q, q = u / 10 := ⟨_, rfl⟩
      obtain ⟨m, hmm⟩ : ∃ m, m = u % 10 := ⟨_, rfl⟩
      rw [← hqq] at HQ hq hlq HN
      rw [← hmm] at HM hr hm
      have hq2 : q ≤ 922337203685477581 := by omega
      clear cM em h0 h1 hqq hmm hneg
      generalize digitsS q = D at *
      go_enter Tryz.func15, Tryz.ntmps15
      go_wp2_with fail
      refine (HQ.out _).mono ?_
      rintro e w0 ⟨rfl, hb0⟩
      go_wp2_with fail
      refine (HM.out _).mono ?_
      rintro e w1 ⟨rfl, hb1⟩
      go_wp2_with fail
      refine (HH.out _).mono ?_
      rintro e w2 ⟨rfl, hb2⟩
      go_wp2
      go_ret
      rw [HX.out, HN.out]
      have hb01 := hb0.trans (hb1.mono hb0.size)
      exact ⟨congrArg (fun b => Ending.returned (Value.string b)) (by apply ByteArray.ext; simp [rpT, dtT, rbT]), hb01.trans (hb2.mono hb01.size)⟩
  · obtain ⟨u, rfl⟩ : ∃ u : Nat, id = (u : Int) := ⟨id.toNat, by omega⟩
    have HN := Lib.hid (itoa_pos1 u)
    have hl := digitsS_len u 18 (by omega)
    have HM := Lib.hid (fun W => rdigits_any u W (by omega))
    generalize digitsS u = D at *
    clear h0 h1
    go_enter Tryz.func15, Tryz.ntmps15
    go_wp2_with fail
    refine (HM.out _).mono ?_
    rintro e w1 ⟨rfl, hb1⟩
    go_wp2_with fail
    refine (HH.out _).mono ?_
    rintro e w2 ⟨rfl, hb2⟩
    go_wp2
    go_ret
    rw [HX.out, HN.out]
    exact ⟨congrArg (fun b => Ending.returned (Value.string b)) (by apply ByteArray.ext; simp [rpT, dtT, rbT]), hb1.trans (hb2.mono hb1.size)⟩
end Go.Proofs.YtbjbljfmcpidmaaGreatDoor

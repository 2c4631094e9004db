/- A moment's text: the words. -/
import Derived.Test.YtbjbljfmcpidmaaGreatDoorROf
namespace Go.Proofs.YtbjbljfmcpidmaaGreatDoor
open Go.RowKit Go.Lib Go.Shelf
def wdL : List UInt8 := [83, 117, 110, 77, 111, 110, 84, 117, 101, 87, 101, 100, 84, 104, 117, 70, 114, 105, 83, 97, 116]
def moL : List UInt8 := [74, 97, 110, 70, 101, 98, 77, 97, 114, 65, 112, 114, 77, 97, 121, 74, 117, 110, 74, 117, 108, 65, 117, 103, 83, 101, 112, 79, 99, 116, 78, 111, 118, 68, 101, 99]
def wdS (i : Nat) : List UInt8 := (wdL.take (3 * i + 3)).drop (3 * i)
def moS (m : Nat) : List UInt8 := (moL.take (3 * m)).drop (3 * m - 3)
theorem wdS_len (i : Nat) : (wdS i).length ≤ 3 := by unfold wdS; simp; omega
theorem wdS_len3 (i : Nat) (h : i ≤ 6) : (wdS i).length = 3 := by unfold wdS wdL; simp; omega
theorem moS_len3 (m : Nat) (h0 : 1 ≤ m) (h : m ≤ 12) : (moS m).length = 3 := by unfold moS moL; simp; omega
theorem moS_len (m : Nat) : (moS m).length ≤ 3 := by unfold moS; simp; omega
/-- A moment's year, month, day. -/
def DateN (s y m d : Nat) : Prop := 1 ≤ d ∧ d ≤ 31 ∧ 1 ≤ m ∧ m ≤ 12 ∧ 2000 ≤ y ∧ y ≤ 2137 ∧ IsDate ((s / 86400 : Nat) : Int) y m ((d : Int) - 1)
theorem DateN.same {s y m d y' m' d' : Nat} (h : DateN s y m d) (h' : DateN s y' m' d') : y = y' ∧ m = m' ∧ d = d' := by
  obtain ⟨_, _, _, _, _, _, h⟩ := h
  obtain ⟨_, _, _, _, _, _, h'⟩ := h'
  obtain ⟨a, b, c⟩ := h.same h'
  omega
def timeN (s y m d : Nat) : Value := timeV y m d ((s % 86400 / 3600 : Nat) : Int) ((s % 3600 / 60 : Nat) : Int) ((s % 60 : Nat) : Int) (((s / 86400 + 6) % 7 : Nat) : Int)
theorem of_nat {s : Nat} {w : World} {e : Ending} {w' : World} (h : ODone (s : Int) w e w') : ∃ y m d : Nat, DateN s y m d ∧ e = .returned (.tuple #[timeN s y m d, .int .i64 0]) ∧ Below w.heap.size w w' := by
  obtain ⟨y, k, d, hd, hk, hy0, hy1, rfl, hb⟩ := h
  have hm := mlen_pos y ((k : Int) + 1)
  have hd0 := hd.d0
  have hd1 := hd.d1
  obtain ⟨Y, rfl⟩ : ∃ Y : Nat, y = Y := ⟨y.toNat, by omega⟩
  obtain ⟨D, rfl⟩ : ∃ D : Nat, d = (D : Int) - 1 := ⟨(d + 1).toNat, by omega⟩
  refine ⟨Y, k + 1, D, ⟨by omega, by omega, by omega, by omega, by omega, by omega, hd⟩, ?_, hb⟩
  simp only [timeN]
  have e1 : (D : Int) - 1 + 1 = D := by omega
  have e2 : ((k + 1 : Nat) : Int) = (k : Int) + 1 := by omega
  rw [e1, e2]
  congr 1
theorem ofN_any (s : Nat) (w : World) (h1 : s < 4294967296) (hL : LenTab w) : Calls Tryz.prog 66 #[.int .i64 (s : Int)] w fun e w' => ∃ y m d : Nat, DateN s y m d ∧ e = .returned (.tuple #[timeN s y m d, .int .i64 0]) ∧ Below w.heap.size w w' :=
  (of_any s w (by omega) (by omega) hL).mono fun _ _ h => of_nat h
theorem rofN_any (s : Nat) (w : World) (h1 : s < 4294967296) : Calls Tryz.prog 69 #[.int .i64 (s : Int)] w fun e w' => ∃ y m d : Nat, DateN s y m d ∧ e = .returned (.tuple #[timeN s y m d, .int .i64 0]) ∧ Below w.heap.size w w' :=
  (rof_any s w (by omega) (by omega)).mono fun _ _ h => of_nat h
def hdrS (s y m d : Nat) : List UInt8 := wdS ((s / 86400 + 6) % 7) ++ [44, 32] ++ wideS 2 d ++ [32] ++ moS m ++ [32] ++ wideS 4 y ++ [32] ++ clockS (s % 86400 / 3600) (s % 3600 / 60) (s % 60)
/-- A moment's text. -/
def HText (s : Int) (X : List UInt8) : Prop := ((s < 0 ∨ 4294967296 ≤ s) ∧ X = []) ∨ ∃ (n y m d : Nat), s = n ∧ n < 4294967296 ∧ DateN n y m d ∧ X = hdrS n y m d
theorem HText.same {s : Int} {X Y : List UInt8} (h : HText s X) (h' : HText s Y) : X = Y := by
  rcases h with ⟨h, rfl⟩ | ⟨n, y, m, d, rfl, hn, hd, rfl⟩
  · rcases h' with ⟨_, rfl⟩ | ⟨n, y, m, d, rfl, hn, hd, rfl⟩
    · rfl
    · omega
  · rcases h' with ⟨h', rfl⟩ | ⟨n', y', m', d', he, hn', hd', rfl⟩
    · omega
    · obtain rfl : n = n' := by omega
      obtain ⟨rfl, rfl, rfl⟩ := hd.same hd'
      rfl
theorem HText.len {s : Int} {X : List UInt8} (h : HText s X) : X.length ≤ 40 := by
  rcases h with ⟨h, rfl⟩ | ⟨n, y, m, d, rfl, hn, hd, rfl⟩
  · simp
  · have h1 := wdS_len ((n / 86400 + 6) % 7)
    have h2 := moS_len m
    simp [hdrS, wideS_len, clockS_len]
    omega
def HDone (s : Int) (w : World) (e : Ending) (w' : World) : Prop := ∃ X, HText s X ∧ e = .returned (.string ⟨X.toArray⟩) ∧ Below w.heap.size w w'
/-- A time's cells lie in block B; below N the world is as it was. -/
def TS (w0 : World) (B : Nat) (y m d h i s wd : Nat) (w : World) : Prop := (w.cell? ⟨B, 0, none⟩ = some (.int .i64 (y : Int)) ∧ w.cell? ⟨B, 1, none⟩ = some (.int .i64 (m : Int)) ∧ w.cell? ⟨B, 2, none⟩ = some (.int .i64 (d : Int)) ∧ w.cell? ⟨B, 3, none⟩ = some (.int .i64 (h : Int)) ∧ w.cell? ⟨B, 4, none⟩ = some (.int .i64 (i : Int)) ∧ w.cell? ⟨B, 5, none⟩ = some (.int .i64 (s : Int)) ∧ w.cell? ⟨B, 6, none⟩ = some (.int .i64 (wd : Int)) ∧ Below w0.heap.size w0 w)
theorem TS.below {w0 w w' : World} {B y m d h i s wd : Nat} (hS : TS w0 B y m d h i s wd w) (hb : Below w.heap.size w w') : TS w0 B y m d h i s wd w' :=
  ⟨cell_below hb hS.1, cell_below hb hS.2.1, cell_below hb hS.2.2.1, cell_below hb hS.2.2.2.1, cell_below hb hS.2.2.2.2.1, cell_below hb hS.2.2.2.2.2.1, cell_below hb hS.2.2.2.2.2.2.1, hS.2.2.2.2.2.2.2.trans (hb.mono hS.2.2.2.2.2.2.2.size)⟩
theorem arith_wd (W : Nat) (h : W ≤ 6) : ∃ P Q : Nat, P ≤ Q ∧ Q ≤ 21 ∧ IntKind.i64.wrap (3 * (W : Int)) = (P : Int) ∧ IntKind.i64.wrap ((P : Int) + 3) = (Q : Int) ∧ (⟨#[83, 117, 110, 77, 111, 110, 84, 117, 101, 87, 101, 100, 84, 104, 117, 70, 114, 105, 83, 97, 116]⟩ : ByteArray).extract P Q = ⟨(wdS W).toArray⟩ :=
  ⟨3 * W, 3 * W + 3, by omega, by omega, by rw [IntWalk.i64_in _ (by omega)]; omega, by rw [IntWalk.i64_in _ (by omega)]; omega, bs_extract wdL _ _⟩
theorem arith_mo (m : Nat) (h0 : 1 ≤ m) (h : m ≤ 12) : ∃ P Q : Nat, P ≤ Q ∧ Q ≤ 36 ∧ IntKind.i64.wrap (3 * (m : Int)) = (Q : Int) ∧ IntKind.i64.wrap ((Q : Int) - 3) = (P : Int) ∧ (⟨#[74, 97, 110, 70, 101, 98, 77, 97, 114, 65, 112, 114, 77, 97, 121, 74, 117, 110, 74, 117, 108, 65, 117, 103, 83, 101, 112, 79, 99, 116, 78, 111, 118, 68, 101, 99]⟩ : ByteArray).extract P Q = ⟨(moS m).toArray⟩ :=
  ⟨3 * m - 3, 3 * m, by omega, by omega, by rw [IntWalk.i64_in _ (by omega)]; omega, by rw [IntWalk.i64_in _ (by omega)]; omega, bs_extract moL _ _⟩
end Go.Proofs.YtbjbljfmcpidmaaGreatDoor

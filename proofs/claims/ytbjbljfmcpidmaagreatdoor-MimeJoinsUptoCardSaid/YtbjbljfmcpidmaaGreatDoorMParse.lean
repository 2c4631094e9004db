/- mime.Parse: a message as a part. -/
import Derived.Test.YtbjbljfmcpidmaaGreatDoorPartW
namespace Go.Proofs.YtbjbljfmcpidmaaGreatDoor
open Go.RowKit Go.Lib Go.Shelf
theorem Fr.below {S : Nat → Prop} {w w' : World} (h : Fr S w w') (hS : ∀ k, S k → w.heap.size ≤ k) : Below w.heap.size w w' :=
  ⟨h.os, h.tape, h.output, h.size, fun k hk => h.block k hk fun e => by have := hS k e; omega⟩
theorem Fr.below0 {w w' : World} (h : Fr (fun _ => False) w w') : Below w.heap.size w w' := h.below fun _ h => h.elim
def mpart (b : List UInt8) : PT := (partS b 4 0 b.length 0).1
set_option maxHeartbeats 1000000 in
theorem mparse_any (A : Option Addr) (c : Nat) (b : List UInt8) (w : World) (hb : b.length ≤ 2000000) (hc : b.length ≤ c) (hA : A = none → c = 0) (hr : RowIn w A (bcells b)) (hg : Gl w) :
    Calls Tryz.prog 17 #[.slice A b.length c] w fun e w' => ∃ m : MP, e = .returned (mval m) ∧ MOk (fun x => w.heap.size ≤ x) w' m ∧ erase m = mpart b ∧ Below w.heap.size w w' := by
  have hZ := pc_zero w 29
  have hal : Fr (fun _ => False) w (w.alloc (.cells #[.string ⟨#[]⟩, .string ⟨#[]⟩, .string ⟨#[]⟩, .string ⟨#[]⟩, .int .i64 0, .int .i64 0, .int .i64 0, .slice none 0 0] 29)) := fr_alloc _ _ _
  obtain ⟨w1, hw1⟩ : ∃ w1, w1 = w.alloc (.cells #[.string ⟨#[]⟩, .string ⟨#[]⟩, .string ⟨#[]⟩, .string ⟨#[]⟩, .int .i64 0, .int .i64 0, .int .i64 0, .slice none 0 0] 29) := ⟨_, rfl⟩
  go_enter Tryz.func17, Tryz.ntmps17
  go_wp2_with fail
  rw [← hw1] at hZ hal ⊢
  have hs1 : w1.heap.size = w.heap.size + 1 := by rw [hw1]; simp
  have hal2 : Fr (fun _ => False) w1 (w1.alloc (.cells #[.slice A b.length c, .int .i64 0] 71)) := fr_alloc _ _ _
  have hRR : RR (w1.alloc (.cells #[.slice A b.length c, .int .i64 0] 71)) (w.heap.size + 1) A b c 0 := by
    rw [← hs1]
    exact ⟨by go_simp, by go_simp, by go_simp⟩
  have hP := part_all 4 (w.heap.size + 1) A c b 0 b.length 0 0 (w1.alloc (.cells #[.slice A b.length c, .int .i64 0] 71)) (by omega) (by omega) hb hc hA (hr.below (hal.trans hal2).below0) (fun hne ad e => by
    obtain ⟨b0, o0, e2, hlt⟩ := hr.addr (by intro e3; apply hne; cases b with | nil => rfl | cons x t => simp [bcells] at e3)
    rw [e] at e2
    cases e2
    dsimp only
    omega) hRR ((hal.trans hal2).gl id id id hg) (gne_ge hg (by omega)) (Nat.zero_le _) (Nat.le_refl _) (by omega)
  refine hP.mono ?_
  rintro e w2 ⟨m, rfl, h1, h2, h3, h4⟩
  have hZ2 := (hZ.fr hal2 id).fr h4 (by omega)
  obtain ⟨z0, z1, z2, z3, z4, z5, z6, z7, zz⟩ := PC.lit (N := 0) hZ2
  obtain ⟨ty2, sub2, bd2, en2, f2, o2, t2, A2, c2, kd2⟩ := m
  simp only [mval, mcell]
  have hWs : (w1.alloc (.cells #[.slice A b.length c, .int .i64 0] 71)).heap.size = w.heap.size + 2 := by simp [hs1]
  have hF8 : Fr (fun x => x = w.heap.size) w2 ((((((((w2.setCell ⟨w.heap.size, 0, none⟩ (.string ⟨ty2.toArray⟩)).setCell ⟨w.heap.size, 1, none⟩ (.string ⟨sub2.toArray⟩)).setCell ⟨w.heap.size, 2, none⟩ (.string ⟨bd2.toArray⟩)).setCell ⟨w.heap.size, 3, none⟩ (.string ⟨en2.toArray⟩)).setCell ⟨w.heap.size, 4, none⟩ (.int .i64 (f2 : Int))).setCell ⟨w.heap.size, 5, none⟩ (.int .i64 (o2 : Int))).setCell ⟨w.heap.size, 6, none⟩ (.int .i64 (t2 : Int))).setCell ⟨w.heap.size, 7, none⟩ (.slice A2 kd2.length c2)) := (Fr.refl (fun x => x = w.heap.size) _).set8 (.inl rfl) _ _ _ _ _ _ _ _
  have hFa : Fr (fun x => x = w.heap.size + 1) w w2 := ((hal.trans hal2).weak fun _ h => h.elim).trans h4
  have HM : Hid (MOk (fun x => w.heap.size + 2 ≤ x) w2 (.mk ty2 sub2 bd2 en2 f2 o2 t2 A2 c2 kd2)) := Lib.hid (MOk.weak (fun x hx => by omega) _ h1)
  have HE := Lib.hid h2
  clear h1 h2 h3 hP hRR hWs
  go_wp2
  refine bodyPost_ret (v := mval (.mk ty2 sub2 bd2 en2 f2 o2 t2 A2 c2 kd2)) (by simp [results, Tryz.results17, mval, mcell, go_sem, z0, z1, z2, z3, z4, z5, z6, z7]) rfl ⟨_, rfl, ?_, HE.out, ?_⟩
  · exact MOk.weak (fun x hx => by have := hx.1; omega) _ (MOk.keep hF8.size (fun x hx => hF8.block x hx.2 (by have := hx.1; omega)) _ (MOk.lt _ HM.out))
  · exact ((hFa.weak fun x hx => by omega).trans (hF8.weak fun x hx => by omega)).below (S := fun x => w.heap.size ≤ x) fun _ h => h
end Go.Proofs.YtbjbljfmcpidmaaGreatDoor

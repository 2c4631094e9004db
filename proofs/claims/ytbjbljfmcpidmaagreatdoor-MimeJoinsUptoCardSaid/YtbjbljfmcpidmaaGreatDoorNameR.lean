/- name, bounds -/
import Derived.Test.YtbjbljfmcpidmaaGreatDoorToken
namespace Go.Proofs.YtbjbljfmcpidmaaGreatDoor
open Go.RowKit Go.Lib Go.Shelf
def nameOkB (ok : Bool) (s : List UInt8) : Bool := ok && !(tokS s).isEmpty
set_option maxHeartbeats 1000000 in
theorem rname_any (B : Nat) (s : List UInt8) (ok : Bool) (w : World) (hR : RD w B s ok) (hl : s.length ≤ 4000000) (hg : GU w B) :
    Calls Tryz.prog 59 #[.pointer (some ⟨B, 0, none⟩)] w (RPost B (.string ⟨(tokS s).toArray⟩) (tokR s) (nameOkB ok s) w) := by
  have cT := token_any B s ok w hR hl hg
  have HN : Hid (nameOkB ok s = (ok && !(tokS s).isEmpty)) := Lib.hid rfl
  by_cases he : tokS s = []
  · have HE := Lib.hid he
    have hee : (⟨(tokS s).toArray⟩ : ByteArray) = ByteArray.empty := by rw [he]; rfl
    rw [hee] at cT ⊢
    clear he hee
    go_enter Tryz.func59, Tryz.ntmps59
    go_wp2_with fail
    refine cT.mono ?_
    rintro e w1 ⟨rfl, hR1, hg1⟩
    have c1 := hR1.c1
    have f1 := hR1.f1
    cases ok <;> go_wp2 <;> go_ret <;> exact ⟨rfl, by rw [HN.out, HE.out]; exact hR1.set1 _, hg1.trans (grown_set _ _ _ _)⟩
  · have HE := Lib.hid he
    clear he
    go_enter Tryz.func59, Tryz.ntmps59
    go_wp2_with fail
    refine cT.mono ?_
    rintro e w1 ⟨rfl, hR1, hg1⟩
    have c1 := hR1.c1
    have f1 := hR1.f1
    cases ok
    all_goals
      go_wp2
      go_ret
      have hn : (tokS s).isEmpty = false := by simpa using HE.out
      exact ⟨rfl, by rw [HN.out, hn]; exact hR1.set1 _, hg1.trans (grown_set _ _ _ _)⟩
end Go.Proofs.YtbjbljfmcpidmaaGreatDoor

/- What the rows of mime use: the laid tables, the witness's world, how arguments come. -/
import Derived.Test.YtbjbljfmcpidmaaGreatDoorItoa
import Derived.Test.YtbjbljfmcpidmaaGreatDoorCards
import Derived.Test.YtbjbljfmcpidmaaGreatDoorTie
import Derived.ProofKit
import Derived.OpenShut
import Derived.Deep.DeepHandedRow
import Derived.Lib.LaidU8T
import Derived.SizedLaws
import Derived.Carry
import Derived.ChangeMaps5
import Derived.Lib.SmallJoins
namespace Go.Proofs.YtbjbljfmcpidmaaGreatDoor
open Go.ChangeShapes Go.WideShapes Go.ChangeAt Go.RowKit Go.Lib Go.Shelf
theorem own : ownKnob Tryz.prog.godebug = Option.none := by kernel_rfl
theorem laidOut : laidOutB Tryz.prog = true := by kernel_rfl
theorem cells5 : Tryz.prog.cellsOf 5 = 1 := by kernel_rfl
theorem u8types : U8Types Tryz.prog Tryz.lays260_ren := U8Types.of260 Tryz.lays260
theorem u8extra : U8Extra Tryz.prog Tryz.lays260_ren := { n3 := by kernel_rfl, n4 := by kernel_rfl, y3 := by kernel_rfl, y4 := by kernel_rfl, c5 := by kernel_rfl, c119 := by kernel_rfl, c138 := by kernel_rfl }
theorem tabIs_reads {P : Program} {W : World} {name : String} {k : IntKind} {zs : List Int} {g : Nat} {t e : TypeId} {n : Nat}
    (hg : P.globalNamed name = some g) (hty : (P.globals[g]?).map (·.type) = some t) (ht : P.underlying t = some (.array n e)) (he : P.underlying e = some (.int k)) (hce : P.cellsOf e = 1) (hct : P.cellsOf t = n)
    (h : VarReads P W name (tabData k zs)) : TabIs P W name k zs := by
  obtain ⟨g', t', cs, fuel, p, hg', ht', hvar, hd⟩ := h
  obtain rfl := Option.some.inj (hg.symm.trans hg')
  obtain rfl := Option.some.inj (hty.symm.trans ht')
  unfold TabIs
  rw [hvar, ← cells_of_tab ht he hce hct hd]
theorem pow_of {W : World} (h : VarReads Tryz.prog W "internal/strconv.uint64pow10" Rows.laid_internal_strconv_uint64pow10) : PowTab W := by
  have e : (Rows.laid_internal_strconv_uint64pow10 : DataW Unit) = tabData .u64 Lib.pow10Tab := by kernel_rfl
  rw [e] at h
  exact tabIs_reads (zs := Lib.pow10Tab) (k := .u64) (g := 4) (by kernel_rfl) (by kernel_rfl) Tryz.underlying218 Tryz.underlying191 (by kernel_rfl) (by kernel_rfl) h
set_option maxRecDepth 100000 in
theorem gl_reads {W : World} (h3 : VarReads Tryz.prog W "unicode/utf8.first" Rows.laid_unicode_utf8_first) (h4 : VarReads Tryz.prog W "unicode/utf8.acceptRanges" Rows.laid_unicode_utf8_acceptRanges) (hsh : W.ShapedOpen Tryz.prog) : Gl W :=
  ⟨Tryz.laysM219.s1_3 W hsh, utf8Tabs_of_readsT u8types u8extra h3 h4⟩
abbrev laidT : List (String × DataW Unit) := [("math/bits.deBruijn32tab", Rows.laid_math_bits_deBruijn32tab), ("math/bits.deBruijn64tab", Rows.laid_math_bits_deBruijn64tab), ("internal/strconv.uint64pow10", Rows.laid_internal_strconv_uint64pow10), ("unicode/utf8.acceptRanges", Rows.laid_unicode_utf8_acceptRanges), ("estafette/stamp.lengths", Rows.laid_estafette_stamp_lengths), ("unicode/utf8.first", Rows.laid_unicode_utf8_first)]
abbrev laidM : List (String × DataW Unit) := [("math/bits.deBruijn32tab", Rows.laid_math_bits_deBruijn32tab), ("math/bits.deBruijn64tab", Rows.laid_math_bits_deBruijn64tab), ("internal/strconv.uint64pow10", Rows.laid_internal_strconv_uint64pow10), ("unicode/utf8.acceptRanges", Rows.laid_unicode_utf8_acceptRanges), ("unicode/utf8.first", Rows.laid_unicode_utf8_first)]
set_option maxRecDepth 100000 in
theorem glM {W : World} {l : List (String × DataW Unit)} (hl : l = laidM) (h : laidMetH Tryz.prog l W) (hsh : W.ShapedOpen Tryz.prog) : Gl W ∧ PowTab W := by
  subst hl
  have h' : laidMet Tryz.prog laidM W := h
  exact ⟨gl_reads (Lib.laidMet.reads h' (by simp)) (Lib.laidMet.reads h' (by simp)) hsh, pow_of (Lib.laidMet.reads h' (by simp))⟩
theorem bulk_one {H : Type} (d : DataW H) : 1 ≤ Rows.uptoBulk d := by
  cases d with
  | lit l => cases l <;> simp [Rows.uptoBulk]
  | nil => simp [Rows.uptoBulk]
  | ptr d => simp [Rows.uptoBulk]
  | slice elems spare => simp [Rows.uptoBulk]
  | agg parts => simp [Rows.uptoBulk]
  | iface t d => simp [Rows.uptoBulk]
  | map entries => simp [Rows.uptoBulk]
  | held h => simp [Rows.uptoBulk]
theorem bulk_length {H : Type} (l : List (DataW H)) : l.length ≤ Rows.uptoBulkAll l := by
  induction l with
  | nil => simp [Rows.uptoBulkAll]
  | cons x r ih => have := bulk_one x; simp only [Rows.uptoBulkAll, List.length_cons]; omega
theorem bulk_slice {H : Type} (elems spare : List (DataW H)) : elems.length + spare.length + 1 ≤ Rows.uptoBulk (.slice elems spare) := by
  have h1 := bulk_length elems
  have h2 := bulk_length spare
  simp only [Rows.uptoBulk]
  omega
/-- A []byte that came in. -/
theorem open_bytes {H : Type} {enc : TypeId × Value → H} {W : World} {a0 : Option Addr} {len cap fuel : Nat} {x : DataW H × List MemPlace}
    (hf : DataW.trod enc Tryz.prog W 0 (fun _ => true) true fuel 26 [.slice a0 len cap] = some x) :
    ∃ b : List UInt8, b.length = len ∧ RowIn W a0 (bcells b) ∧ len ≤ cap ∧ (a0 = Option.none → cap = 0) ∧ len ≤ Rows.uptoBulk x.1 := by
  rcases open_ints Tryz.underlying26 Tryz.underlying5 cells5 hf with ⟨hcs, hx⟩ | ⟨a, len', cap', zs, hcs, _, hl, hm, hz, hx, hcell, hwz⟩
  · simp at hcs
    obtain ⟨rfl, rfl, rfl⟩ := hcs
    exact ⟨[], rfl, RowIn.nil _ _, Nat.le_refl _, fun _ => rfl, Nat.zero_le _⟩
  · simp at hcs
    obtain ⟨rfl, rfl, rfl⟩ := hcs
    subst hx
    simp only [if_true] at hz
    refine ⟨(zs.take len).map fun z => UInt8.ofNat z.toNat, by simp; omega, fun hne => ?_, hl, (fun h => by cases h), ?_⟩
    · obtain ⟨b, off, spot⟩ := a
      have hpos : 0 < zs.length := by
        rcases Nat.eq_zero_or_pos zs.length with h0 | h0
        · exact absurd (by rw [List.length_eq_zero_iff.1 h0]; simp [bcells]) hne
        · exact h0
      have hspot : spot = Option.none := by simpa [Addr.add] using World.cell?_spot (hcell 0 hpos)
      subst hspot
      refine ⟨b, off, rfl, World.block_lt_of_cell? _ _ (hcell 0 hpos), fun j u hu => ?_⟩
      have hj : j < len := by
        have := (List.getElem?_eq_some_iff.1 hu).1
        simp [bcells] at this
        omega
      have hc := hcell j (by omega)
      rw [WideShapes.add_plain] at hc
      have hw := hwz (zs.getD j 0) (by rw [List.getD, List.getElem?_eq_getElem (show j < zs.length by omega)]; exact List.getElem_mem _)
      rw [hc]
      simp [bcells, cell8, List.getElem?_take_of_lt hj, List.getElem?_eq_getElem (show j < zs.length by omega)] at hu
      rw [← hu]
      simp [List.getD, List.getElem?_eq_getElem (show j < zs.length by omega)] at hw ⊢
      have hw2 : 0 ≤ zs[j]'(by omega) ∧ zs[j]'(by omega) ≤ 255 := by
        simp only [Lit.wf, Bool.and_eq_true, decide_eq_true_eq] at hw
        exact hw
      generalize zs[j]'(by omega) = z at *
      have h1 : z.toNat < 256 := by omega
      omega
    · have h1 := bulk_slice (H := H) (lits .u8 (zs.take len)) (lits .u8 (zs.drop len))
      have h2 : (lits (H := H) .u8 (zs.take len)).length = len := by simp [lits]; omega
      dsimp only
      omega
theorem str_list (s : ByteArray) : s = ⟨s.data.toList.toArray⟩ := by simp
/-- A block holds these cells. -/
def putCells (cs : Array Value) : Obj → Obj
  | .cells _ t frozen => .cells cs t frozen
  | o => o
def tabCells (d : DataW Unit) : Array Value := match d with
  | .agg parts => (parts.filterMap fun | .lit (.int k z) => some (Value.int k z) | _ => Option.none).toArray
  | _ => #[]
/-- The witness's world: the tables hold what their initialisers lay. -/
noncomputable def laidWorld (os : Os) : World :=
  { World.holding Tryz.prog os ⟨#[], #[], []⟩ with heap := ((((((World.holding Tryz.prog os ⟨#[], #[], []⟩).heap.modify 2 (putCells (Lib.firstTab.map fun z => Value.int .u8 z).toArray)).modify 3 (putCells (([128, 191, 160, 191, 128, 159, 144, 191, 128, 143] ++ List.replicate 22 0 : List Int).map fun z => Value.int .u8 z).toArray)).modify 1 (putCells (tabCells Rows.laid_estafette_stamp_lengths))).modify 4 (putCells (tabCells Rows.laid_internal_strconv_uint64pow10))).modify 5 (putCells (tabCells Rows.laid_math_bits_deBruijn32tab))).modify 6 (putCells (tabCells Rows.laid_math_bits_deBruijn64tab)) }
theorem laid_metM (os : Os) (args : Array Value) : laidMet Tryz.prog laidM ((laidWorld os).forCall (fun _ _ => 0) ⟨#[], args, []⟩).memory :=
  laidMet_of_run' 8 (by kernel_rfl) (by kernel_rfl)
end Go.Proofs.YtbjbljfmcpidmaaGreatDoor

/-
  The seat: what its rows' lists give of memory; a world for the witness.
-/
import Derived.Test.YtadnpidadcgdcaaDoorCards
import Derived.Test.YtadnpidadcgdcaaDoorTie
import Derived.Test.YtadnpidadcgdcaaDoorLibM
import Derived.Test.YtadnpidadcgdcaaDoorP7
namespace Go.Proofs.YtadnpidadcgdcaaDoor
set_option linter.unusedVariables false
set_option linter.unusedSimpArgs false
open Go.ChangeShapes Go.WideShapes Go.ChangeAt Go.RowKit

theorem own : ownKnob Tryd.prog.godebug = none := by kernel_rfl
theorem laidOut : laidOutB Tryd.prog = true := by kernel_rfl
theorem seat_GM {W : World} (h : W.ShapedOpen Tryd.prog) : GM W :=
  cell_of_shapedOpen_int (zero := #[.int .i64 0]) (t := 3) h (of_decide_eq_true (by kernel_rfl)) (by kernel_rfl) rfl (by kernel_rfl) (by kernel_rfl) Tryd.underlying3

def seatLaid : List (String × DataW Unit) := [("math/bits.deBruijn32tab", Rows.laid_math_bits_deBruijn32tab), ("math/bits.deBruijn64tab", Rows.laid_math_bits_deBruijn64tab), ("internal/strconv.uint64pow10", Rows.laid_internal_strconv_uint64pow10), ("unicode/utf8.acceptRanges", Rows.laid_unicode_utf8_acceptRanges), ("unicode/utf8.first", Rows.laid_unicode_utf8_first)]
theorem laid_tail {P : Program} {x : String × DataW Unit} {r : List (String × DataW Unit)} {W : World} {ps : List MemPlace} (h : DataW.LaidVars P W (x :: r) ps) : ∃ q, DataW.LaidVars P W r q := by
  obtain ⟨g, t, cs, fuel, p, q, _, _, _, _, h, _⟩ := h
  exact ⟨q, h⟩
theorem tab_of {P : Program} {W : World} {name : String} {k : IntKind} {zs : List Int} {rest : List (String × DataW Unit)} {ps : List MemPlace} {g : Nat} {t e : TypeId} {n : Nat}
    (hg : P.globalNamed name = some g) (hty : (P.globals[g]?).map (·.type) = some t) (ht : P.underlying t = some (.array n e)) (he : P.underlying e = some (.int k)) (hce : P.cellsOf e = 1) (hct : P.cellsOf t = n)
    (h : DataW.LaidVars P W ((name, Lib.tabData k zs) :: rest) ps) : Lib.TabIs P W name k zs := by
  obtain ⟨g', t', cs, fuel, p, q, hg', ht', hvar, hd, _, _⟩ := h
  obtain rfl := Option.some.inj (hg.symm.trans hg')
  obtain rfl := Option.some.inj (hty.symm.trans ht')
  unfold Lib.TabIs
  rw [hvar, ← Lib.cells_of_tab ht he hce hct hd]
def tab64 : List Int := [0, 1, 56, 2, 57, 49, 28, 3, 61, 58, 42, 50, 38, 29, 17, 4, 62, 47, 59, 36, 45, 43, 51, 22, 53, 39, 33, 30, 24, 18, 12, 5, 63, 55, 48, 27, 60, 41, 37, 16, 46, 35, 44, 21, 52, 32, 23, 11, 54, 26, 40, 15, 34, 20, 31, 10, 25, 14, 19, 9, 13, 8, 7, 6]
theorem seat_GT {W : World} (h : laidMetH Tryd.prog seatLaid W) : GT W := by
  have h' : laidMet Tryd.prog seatLaid W := h
  obtain ⟨ps, hl, _, _⟩ := h'
  obtain ⟨q, h2⟩ := laid_tail hl
  have ht : Lib.TabIs Tryd.prog W "math/bits.deBruijn64tab" .u8 tab64 :=
    tab_of (g := 5) (t := 142) (e := 5) (n := 64) (by kernel_rfl) (by kernel_rfl) Tryd.underlying142 Tryd.underlying5 (by kernel_rfl) (by kernel_rfl) (zs := tab64) h2
  exact ht.cell (g := 5) (by kernel_rfl) 15 (by decide)

/-! a world for the witness -/
mutual
def cellsIn : DataW Unit → List Value
  | .lit (.int k n) => [.int k n]
  | .agg ps => cellsInAll ps
  | _ => []
def cellsInAll : List (DataW Unit) → List Value
  | [] => []
  | d :: r => cellsIn d ++ cellsInAll r
end
def relay (d : DataW Unit) : Obj → Obj
  | .cells _ t fz => .cells (cellsIn d).toArray t fz
  | o => o
noncomputable def laidWorld (os : Os) : World :=
  { World.holding Tryd.prog os ⟨#[], #[], []⟩ with heap := ((((((World.holding Tryd.prog os ⟨#[], #[], []⟩).heap.modify 1 (relay Rows.laid_internal_strconv_uint64pow10)).modify 2 (relay Rows.laid_unicode_utf8_first)).modify 3 (relay Rows.laid_unicode_utf8_acceptRanges)).modify 4 (relay Rows.laid_math_bits_deBruijn32tab)).modify 5 (relay Rows.laid_math_bits_deBruijn64tab)) }
theorem laid_met (os : Os) (args : Array Value) : laidMet Tryd.prog seatLaid ((laidWorld os).forCall (fun _ _ => 0) ⟨#[], args, []⟩).memory :=
  laidMet_of_run' 8 (by kernel_rfl) (by kernel_rfl)
end Go.Proofs.YtadnpidadcgdcaaDoor

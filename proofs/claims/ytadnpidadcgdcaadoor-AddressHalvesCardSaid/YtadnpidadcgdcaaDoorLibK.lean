/-
  The calculus, part K: tests that are decided; a cut.
-/
import Derived.Test.YtadnpidadcgdcaaDoorLibJ
namespace Go.Proofs.YtadnpidadcgdcaaDoor
set_option linter.unusedVariables false
set_option linter.unusedSimpArgs false
open Go.RowKit

section
variable {P : Program} {ρ : Operand → Value} {w : World} {R : Value → World → Prop} {d : Option Tmp} {ty : TypeId} {pos : String} {af : Array Edge} {g : Option (Nat × Bool)} {t t' : TypeId} {x y : Operand} {k : IntKind} {m n : Int}
theorem o_lssT (hx : ρ x = .int k m) (hy : ρ y = .int k n) (hc : m < n) (h : R (.bool true) w) : OpTo P ⟨d, .binOp .lss t x y t', ty, pos, af, g⟩ ρ w R := o_lss hx hy (by rw [decide_eq_true hc]; exact h)
theorem o_lssF (hx : ρ x = .int k m) (hy : ρ y = .int k n) (hc : ¬ m < n) (h : R (.bool false) w) : OpTo P ⟨d, .binOp .lss t x y t', ty, pos, af, g⟩ ρ w R := o_lss hx hy (by rw [decide_eq_false hc]; exact h)
theorem o_leqT (hx : ρ x = .int k m) (hy : ρ y = .int k n) (hc : m ≤ n) (h : R (.bool true) w) : OpTo P ⟨d, .binOp .leq t x y t', ty, pos, af, g⟩ ρ w R := o_leq hx hy (by rw [decide_eq_true hc]; exact h)
theorem o_leqF (hx : ρ x = .int k m) (hy : ρ y = .int k n) (hc : ¬ m ≤ n) (h : R (.bool false) w) : OpTo P ⟨d, .binOp .leq t x y t', ty, pos, af, g⟩ ρ w R := o_leq hx hy (by rw [decide_eq_false hc]; exact h)
theorem o_gtrT (hx : ρ x = .int k m) (hy : ρ y = .int k n) (hc : n < m) (h : R (.bool true) w) : OpTo P ⟨d, .binOp .gtr t x y t', ty, pos, af, g⟩ ρ w R := o_gtr hx hy (by rw [decide_eq_true hc]; exact h)
theorem o_gtrF (hx : ρ x = .int k m) (hy : ρ y = .int k n) (hc : ¬ n < m) (h : R (.bool false) w) : OpTo P ⟨d, .binOp .gtr t x y t', ty, pos, af, g⟩ ρ w R := o_gtr hx hy (by rw [decide_eq_false hc]; exact h)
theorem o_geqT (hx : ρ x = .int k m) (hy : ρ y = .int k n) (hc : n ≤ m) (h : R (.bool true) w) : OpTo P ⟨d, .binOp .geq t x y t', ty, pos, af, g⟩ ρ w R := o_geq hx hy (by rw [decide_eq_true hc]; exact h)
theorem o_geqF (hx : ρ x = .int k m) (hy : ρ y = .int k n) (hc : ¬ n ≤ m) (h : R (.bool false) w) : OpTo P ⟨d, .binOp .geq t x y t', ty, pos, af, g⟩ ρ w R := o_geq hx hy (by rw [decide_eq_false hc]; exact h)
theorem o_eqlT (hx : ρ x = .int k m) (hy : ρ y = .int k n) (hc : m = n) (h : R (.bool true) w) : OpTo P ⟨d, .binOp .eql t x y t', ty, pos, af, g⟩ ρ w R := o_eql hx hy (by rw [beq_iff_eq.2 hc]; exact h)
theorem o_eqlF (hx : ρ x = .int k m) (hy : ρ y = .int k n) (hc : ¬ m = n) (h : R (.bool false) w) : OpTo P ⟨d, .binOp .eql t x y t', ty, pos, af, g⟩ ρ w R := o_eql hx hy (by rw [beq_eq_false_iff_ne.2 hc]; exact h)
theorem o_neqT (hx : ρ x = .int k m) (hy : ρ y = .int k n) (hc : ¬ m = n) (h : R (.bool true) w) : OpTo P ⟨d, .binOp .neq t x y t', ty, pos, af, g⟩ ρ w R := o_neq hx hy (by rw [bne_iff_ne.2 hc]; exact h)
theorem o_neqF (hx : ρ x = .int k m) (hy : ρ y = .int k n) (hc : m = n) (h : R (.bool false) w) : OpTo P ⟨d, .binOp .neq t x y t', ty, pos, af, g⟩ ρ w R := o_neq hx hy (by rw [show (m != n) = false by simp [hc]]; exact h)
end

/-- The code is left off its end, and of the frame and the memory this is known. -/
def Only (I : Act → World → Prop) : Exit → Act → World → Prop
  | .normal, a, w => I a w
  | _, _, _ => False
theorem c_cut {P : Program} {r : Option Nat} {c : Code} {Q : Exit → Act → World → Prop} {a : Act} {w : World} (I : Act → World → Prop) (h : Wp r P c (Only I) a w) (k : ∀ a' w', I a' w' → Q .normal a' w') : Wp r P c Q a w :=
  wpIn_mono h fun e a' w' hq => by cases e <;> first | exact k a' w' hq | exact hq.elim
theorem q_only {I : Act → World → Prop} {a : Act} {w : World} (h : I a w) : Only I .normal a w := h
end Go.Proofs.YtadnpidadcgdcaaDoor

/-
  The calculus, part O: a store into what an alloc of the same region has made; equality of arrays and structs that is decided.
-/
import Derived.Test.YtadnpidadcgdcaaDoorLibN
namespace Go.Proofs.YtadnpidadcgdcaaDoor
set_option linter.unusedVariables false
set_option linter.unusedSimpArgs false
open Go.RowKit
section
variable {P : Program} {ρ : Operand → Value} {w W0 : World} {S : List Nat} {l l' : List (Nat × Obj)} {R : Value → World → Prop} {d : Option Tmp} {ty : TypeId} {pos : String} {af : Array Edge} {g : Option (Nat × Bool)}
theorem o_storeP {t : TypeId} {x y : Operand} {b n : Nat} {cs cs' vs : List Value} {t' : TypeId} [hs : TAgg P t n] (hx : ρ x = ptrTo b) (hy : ρ y = .agg vs.toArray) (hn : vs.length = n) (h1 : vs.all (·.oneCell') = true) (hz : w.heap[b]? = some (.cells cs.toArray t' (0, 0))) (hp : put cs 0 vs = some cs') :
    OpTo P ⟨d, .store t x y, ty, pos, af, g⟩ ρ w fun _ w' => Ext [b] w w' ∧ w'.heap[b]? = some (.cells cs'.toArray t' (0, 0)) := by
  obtain ⟨hle, rfl⟩ := put_splice _ _ _ _ hp
  obtain ⟨w', hr, he, hh⟩ := run_storeRow (P := P) (off := 0) vs 0 cs w hz (by simpa using hle) (fun v hv => List.all_eq_true.1 h1 v hv)
  refine OpTo.skip (w' := w') ?_ ⟨he, by simpa using hh⟩
  simp only [execOp, Instr.storeAt, Instr.sureAddr, hx, hy, ptrTo, storeVar, Sem.run_bind, Sem.run_pure, Result.andThen_ok, run_sizeOf_agg hs.h, Value.cells]
  simp [hr, hn]
theorem o_eqlBT {t t' : TypeId} {x y : Operand} {p q : Bool} (hx : ρ x = .bool p) (hy : ρ y = .bool q) [ht : TU P t .bool] (he : p = q) (h : R (.bool true) w) : OpTo P ⟨d, .binOp .eql t x y t', ty, pos, af, g⟩ ρ w R := o_eqlB hx hy (by subst he; cases p <;> exact h)
theorem o_neqBF {t t' : TypeId} {x y : Operand} {p q : Bool} (hx : ρ x = .bool p) (hy : ρ y = .bool q) [ht : TU P t .bool] (he : p = q) (h : R (.bool false) w) : OpTo P ⟨d, .binOp .neq t x y t', ty, pos, af, g⟩ ρ w R := o_neqB hx hy (by subst he; cases p <;> exact h)
theorem o_eqlAT {t t' : TypeId} {x y : Operand} {ks : List LK} {xs ys : List Value} [ht : TEq P t ks] (hx : ρ x = .agg xs.toArray) (hy : ρ y = .agg ys.toArray) (fx : fitsK ks xs = true) (fy : fitsK ks ys = true) (he : eqVs xs ys = true) (h : R (.bool true) w) : OpTo P ⟨d, .binOp .eql t x y t', ty, pos, af, g⟩ ρ w R := o_eqlA hx hy fx fy (by rw [he]; exact h)
theorem o_eqlAF {t t' : TypeId} {x y : Operand} {ks : List LK} {xs ys : List Value} [ht : TEq P t ks] (hx : ρ x = .agg xs.toArray) (hy : ρ y = .agg ys.toArray) (fx : fitsK ks xs = true) (fy : fitsK ks ys = true) (he : eqVs xs ys = false) (h : R (.bool false) w) : OpTo P ⟨d, .binOp .eql t x y t', ty, pos, af, g⟩ ρ w R := o_eqlA hx hy fx fy (by rw [he]; exact h)
theorem o_neqAT {t t' : TypeId} {x y : Operand} {ks : List LK} {xs ys : List Value} [ht : TEq P t ks] (hx : ρ x = .agg xs.toArray) (hy : ρ y = .agg ys.toArray) (fx : fitsK ks xs = true) (fy : fitsK ks ys = true) (he : eqVs xs ys = false) (h : R (.bool true) w) : OpTo P ⟨d, .binOp .neq t x y t', ty, pos, af, g⟩ ρ w R := o_neqA hx hy fx fy (by rw [he]; exact h)
theorem o_neqAF {t t' : TypeId} {x y : Operand} {ks : List LK} {xs ys : List Value} [ht : TEq P t ks] (hx : ρ x = .agg xs.toArray) (hy : ρ y = .agg ys.toArray) (fx : fitsK ks xs = true) (fy : fitsK ks ys = true) (he : eqVs xs ys = true) (h : R (.bool false) w) : OpTo P ⟨d, .binOp .neq t x y t', ty, pos, af, g⟩ ρ w R := o_neqA hx hy fx fy (by rw [he]; exact h)
end
end Go.Proofs.YtadnpidadcgdcaaDoor

/-
  Small facts on addresses' and prefixes' cells.
-/
import Derived.Test.YtadnpidadcgdcaaDoorQ3
import Derived.Test.YtadnpidadcgdcaaDoorLibN
namespace Go.Proofs.YtadnpidadcgdcaaDoor
set_option linter.unusedVariables false
set_option linter.unusedSimpArgs false
open Go.RowKit

theorem one_ip (a : List Int) : (ipC a).all (·.oneCell') = true := by
  rw [List.all_eq_true]
  intro v hv
  obtain ⟨x, _, rfl⟩ := List.mem_map.1 hv
  rfl
theorem one_pf (a : List Int) (n : Int) : (pfC a n).all (·.oneCell') = true := by
  unfold pfC
  rw [List.all_append, one_ip]
  rfl
theorem modI_bd (x : Int) {n : Int} (hn : 0 < n) : 0 ≤ modI x n ∧ modI x n < n := by
  have h1 := Int.tmod_lt_of_pos x hn
  have h2 : -n < x.tmod n := by have := Int.tmod_lt_of_pos (-x) hn; rw [Int.neg_tmod] at this; omega
  unfold modI
  split <;> omega
theorem eqVs_self {a : List Int} {n : Int} : eqVs (pfC a n) (pfC a n) = true := by rw [eqVs_pf rfl]; simp

end Go.Proofs.YtadnpidadcgdcaaDoor

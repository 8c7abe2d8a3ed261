/-
  The order of link addresses, in plain words.
-/
import Derived.Test.YtadnpidadcgdcaaDoorB1
import Derived.Test.YtadnpidadcgdcaaDoorLibO
namespace Go.Proofs.YtadnpidadcgdcaaDoor
set_option linter.unusedVariables false
set_option linter.unusedSimpArgs false
open Go.RowKit

theorem compareA_if (m s e m' s' e' : Int) : compareA m s e m' s' e' = if m < m' then -1 else if m' < m then 1 else if s < s' then -1 else if s' < s then 1 else if e < e' then -1 else if e' < e then 1 else 0 := by
  unfold compareA cmpV
  by_cases h1 : m < m'
  · simp [orV, h1]
  · by_cases h2 : m' < m
    · simp [orV, h1, h2]
    · by_cases h3 : s < s'
      · simp [orV, h1, h2, h3]
      · by_cases h4 : s' < s
        · simp [orV, h1, h2, h3, h4]
        · by_cases h5 : e < e'
          · simp [orV, h1, h2, h3, h4, h5]
          · by_cases h6 : e' < e
            · simp [orV, h1, h2, h3, h4, h5, h6]
            · simp [orV, h1, h2, h3, h4, h5, h6]
theorem cmp_bd (m s e m' s' e' : Int) : -1 ≤ compareA m s e m' s' e' ∧ compareA m s e m' s' e' ≤ 1 := by
  rw [compareA_if]; (repeat' split) <;> omega
theorem cmp_le (m s e m' s' e' : Int) : compareA m s e m' s' e' ≤ 0 ↔ (m < m' ∨ m = m' ∧ (s < s' ∨ s = s' ∧ e ≤ e')) := by
  rw [compareA_if]; (repeat' split) <;> omega
theorem cmp_zero (m s e m' s' e' : Int) : compareA m s e m' s' e' = 0 ↔ (m = m' ∧ s = s' ∧ e = e') := by
  rw [compareA_if]; (repeat' split) <;> omega
theorem cmp_anti (m s e m' s' e' : Int) : compareA m s e m' s' e' = 0 - compareA m' s' e' m s e := by
  rw [compareA_if, compareA_if]; (repeat' split) <;> omega
theorem cmp_trans {m s e m' s' e' m'' s'' e'' : Int} (h1 : compareA m s e m' s' e' ≤ 0) (h2 : compareA m' s' e' m'' s'' e'' ≤ 0) : compareA m s e m'' s'' e'' ≤ 0 := by
  rw [cmp_le] at *; omega
theorem eqVs_ad (m s e m' s' e' : Int) : eqVs (adC m s e) (adC m' s' e') = decide (compareA m s e m' s' e' = 0) := by
  have h := cmp_zero m s e m' s' e'
  by_cases hc : compareA m s e m' s' e' = 0
  · obtain ⟨rfl, rfl, rfl⟩ := h.1 hc
    rw [decide_eq_true hc]
    simp [adC, eqVs, eqV]
  · rw [decide_eq_false hc]
    simp only [adC, eqVs, eqV, Bool.and_true]
    have : ¬ (m = m' ∧ s = s' ∧ e = e') := fun hh => hc (h.2 hh)
    cases hm : (m == m') <;> cases hs : (s == s') <;> cases he : (e == e') <;> simp_all
theorem fits_ad (m s e : Int) : fitsK [.i .i64, .i .u16, .i .u64] (adC m s e) = true := rfl
/-- the cells of a row of link addresses -/
def adsC : List (Int × Int × Int) → List Value
  | [] => []
  | (m, s, e) :: r => adC m s e ++ adsC r
theorem seg_ads : ∀ (L : List (Int × Int × Int)) (i : Nat), i < L.length → seg (adsC L) (i * 3) 3 = some (adC (L.getD i (0, 0, 0)).1 (L.getD i (0, 0, 0)).2.1 (L.getD i (0, 0, 0)).2.2)
  | [], i, h => by simp at h
  | (m, s, e) :: r, 0, _ => by cases r <;> rfl
  | (m, s, e) :: r, i + 1, h => by
    have ih := seg_ads r i (by simpa using h)
    have : seg (adsC ((m, s, e) :: r)) ((i + 1) * 3) 3 = seg (adsC r) (i * 3) 3 := by
      rw [show (i + 1) * 3 = i * 3 + 3 by omega]
      rfl
    rw [this, ih]
    simp
end Go.Proofs.YtadnpidadcgdcaaDoor

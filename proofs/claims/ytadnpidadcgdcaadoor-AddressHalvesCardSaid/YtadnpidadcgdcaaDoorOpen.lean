/-
  The arguments of this seat's laws, opened.
-/
import Derived.Test.YtadnpidadcgdcaaDoorSeat
import Derived.Test.YtadnpidadcgdcaaDoorQ4
import Derived.Test.YtadnpidadcgdcaaDoorA1
namespace Go.Proofs.YtadnpidadcgdcaaDoor
set_option linter.unusedVariables false
set_option linter.unusedSimpArgs false
open Go.ChangeShapes Go.WideShapes Go.ChangeAt Go.RowKit

def loK : IntKind → Int
  | .i64 => -9223372036854775808 | .u64 => 0 | .u32 => 0 | .u16 => 0 | .u8 => 0 | .i32 => -2147483648 | k => k.min
def hiK : IntKind → Int
  | .i64 => 9223372036854775807 | .u64 => 18446744073709551615 | .u32 => 4294967295 | .u16 => 65535 | .u8 => 255 | .i32 => 2147483647 | k => k.max
theorem int_bd {k : IntKind} {n : Int} (h : (Lit.int k n).wf = true) : loK k ≤ n ∧ n ≤ hiK k := by
  have := wf_bd h
  cases k <;> simp [IntKind.min, IntKind.max, IntKind.signed, IntKind.bits, loK, hiK] at this ⊢ <;> omega
theorem wfV_int {k : IntKind} {v : Value} (h : wfV (.i k) v = true) : ∃ n, v = .int k n ∧ loK k ≤ n ∧ n ≤ hiK k := by
  cases v <;> simp [wfV] at h
  rename_i k' n
  obtain ⟨rfl, hw⟩ := h
  exact ⟨n, rfl, int_bd hw⟩
theorem wfK_cons {k : LK} {ks : List LK} {xs : List Value} (h : wfK (k :: ks) xs = true) : ∃ x ys, xs = x :: ys ∧ wfV k x = true ∧ wfK ks ys = true := by
  cases xs with
  | nil => cases h
  | cons x ys => simp only [wfK, Bool.and_eq_true] at h; exact ⟨x, ys, rfl, h.1, h.2⟩
theorem wfK_nil {xs : List Value} (h : wfK [] xs = true) : xs = [] := by
  cases xs with
  | nil => rfl
  | cons x ys => cases h
theorem ip_wf : ∀ (xs : List Value) (n : Nat), wfK (List.replicate n (.i .u8)) xs = true → ∃ a : List Int, xs = ipC a ∧ a.length = n ∧ ∀ x ∈ a, 0 ≤ x ∧ x < 256
  | [], 0, _ => ⟨[], rfl, rfl, by simp⟩
  | [], n + 1, h => by simp [List.replicate_succ, wfK] at h
  | _ :: _, 0, h => by simp [wfK] at h
  | x :: xs, n + 1, h => by
    simp only [List.replicate_succ, wfK, Bool.and_eq_true] at h
    obtain ⟨a, rfl, hl, hb⟩ := ip_wf xs n h.2
    obtain ⟨m, rfl, h0, h1⟩ := wfV_int h.1
    refine ⟨m :: a, rfl, by simp [hl], fun y hy => ?_⟩
    rcases List.mem_cons.1 hy with rfl | hy
    · simp only [loK, hiK] at h0 h1; omega
    · exact hb y hy
section
variable {H : Type} {enc : TypeId × Value → H} {w : World} {r : Reach} {b0 base : Nat} {sp : Nat → Bool} {held : Bool} {v : Value} {d : DataW H} {p : List MemPlace}
set_option maxRecDepth 100000 in
theorem open_ip (hval : Value.okWide Tryd.prog w r b0 23 v) (h : DataW.Trod enc Tryd.prog w base sp held 23 v d p) : ∃ a, IsIP a ∧ v = .agg (ipC a).toArray := by
  obtain ⟨xs, rfl, hw⟩ := open_lf (ks := List.replicate 16 (.i .u8)) (by kernel_rfl) hval h
  obtain ⟨a, rfl, hl, hb⟩ := ip_wf xs 16 hw
  exact ⟨a, ⟨hl, hb⟩, rfl⟩
theorem wfK_split : ∀ {ks ks' : List LK} {xs : List Value}, wfK (ks ++ ks') xs = true → ∃ ys zs, xs = ys ++ zs ∧ wfK ks ys = true ∧ wfK ks' zs = true
  | [], ks', xs, h => ⟨[], xs, rfl, rfl, h⟩
  | k :: ks, ks', [], h => by cases h
  | k :: ks, ks', x :: xs, h => by
    simp only [List.cons_append, wfK, Bool.and_eq_true] at h
    obtain ⟨ys, zs, rfl, h1, h2⟩ := wfK_split h.2
    exact ⟨x :: ys, zs, rfl, by simp [wfK, h.1, h1], h2⟩
set_option maxRecDepth 100000 in
theorem open_pf (hval : Value.okWide Tryd.prog w r b0 35 v) (h : DataW.Trod enc Tryd.prog w base sp held 35 v d p) : ∃ a n, IsIP a ∧ (-9223372036854775808 ≤ n ∧ n ≤ 9223372036854775807) ∧ v = .agg (pfC a n).toArray := by
  obtain ⟨xs, rfl, hw⟩ := open_lf (ks := List.replicate 16 (.i .u8) ++ [.i .i64]) (by kernel_rfl) hval h
  obtain ⟨ys, zs, rfl, h1, h2⟩ := wfK_split hw
  obtain ⟨a, rfl, hl, hb⟩ := ip_wf ys 16 h1
  obtain ⟨z, zs, rfl, h3, h4⟩ := wfK_cons h2
  obtain rfl := wfK_nil h4
  obtain ⟨n, rfl, h5, h6⟩ := wfV_int h3
  exact ⟨a, n, ⟨hl, hb⟩, ⟨h5, h6⟩, rfl⟩
/-- a link address's numbers fit -/
def IsAd (m s e : Int) : Prop := (-9223372036854775808 ≤ m ∧ m ≤ 9223372036854775807) ∧ (0 ≤ s ∧ s ≤ 65535) ∧ (0 ≤ e ∧ e ≤ 18446744073709551615)
set_option maxRecDepth 100000 in
theorem open_ad (hval : Value.okWide Tryd.prog w r b0 47 v) (h : DataW.Trod enc Tryd.prog w base sp held 47 v d p) : ∃ m s e, IsAd m s e ∧ v = .agg (adC m s e).toArray := by
  obtain ⟨xs, rfl, hw⟩ := open_lf (ks := [.i .i64, .i .u16, .i .u64]) (by kernel_rfl) hval h
  obtain ⟨x, xs, rfl, h1, hw⟩ := wfK_cons hw
  obtain ⟨y, xs, rfl, h2, hw⟩ := wfK_cons hw
  obtain ⟨z, xs, rfl, h3, hw⟩ := wfK_cons hw
  obtain rfl := wfK_nil hw
  obtain ⟨m, rfl, a1, a2⟩ := wfV_int h1
  obtain ⟨s, rfl, a3, a4⟩ := wfV_int h2
  obtain ⟨e, rfl, a5, a6⟩ := wfV_int h3
  exact ⟨m, s, e, ⟨⟨a1, a2⟩, ⟨a3, a4⟩, ⟨a5, a6⟩⟩, rfl⟩
end
end Go.Proofs.YtadnpidadcgdcaaDoor

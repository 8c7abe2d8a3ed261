/-
  The calculus, part L: strings as lists of bytes.
-/
import Derived.Test.YtadnpidadcgdcaaDoorLibK
namespace Go.Proofs.YtadnpidadcgdcaaDoor
set_option linter.unusedVariables false
set_option linter.unusedSimpArgs false
open Go.RowKit

/-- the string of a list of bytes -/
abbrev mkS (bs : List UInt8) : Value := .string ⟨bs.toArray⟩
theorem mkS_size (bs : List UInt8) : (⟨bs.toArray⟩ : ByteArray).size = bs.length := by simp [ByteArray.size]
theorem mkS_toList (bs : List UInt8) : (⟨bs.toArray⟩ : ByteArray).toList = bs := by rw [ByteArray.toList_eq]
theorem mkS_extract (bs : List UInt8) (i j : Nat) : (⟨bs.toArray⟩ : ByteArray).extract i j = ⟨((bs.drop i).take (j - i)).toArray⟩ := by
  apply ByteArray.ext
  rw [ByteArray.data_extract]
  apply Array.ext'
  simp [List.extract_eq_take_drop]
theorem mkS_append (xs ys : List UInt8) : (⟨xs.toArray⟩ ++ ⟨ys.toArray⟩ : ByteArray) = ⟨(xs ++ ys).toArray⟩ := by
  apply ByteArray.ext
  simp
theorem mkS_get {bs : List UInt8} {i : Nat} (h : i < bs.length) : (⟨bs.toArray⟩ : ByteArray)[i]? = some bs[i] := by
  rw [getElem?_pos _ _ (by simpa [ByteArray.size] using h)]
  rfl
theorem byte_lt (b : UInt8) : 0 ≤ (b.toNat : Int) ∧ (b.toNat : Int) ≤ 255 := by have := b.toNat_lt; omega

section
variable {P : Program} {ρ : Operand → Value} {w : World} {R : Value → World → Prop} {d : Option Tmp} {ty : TypeId} {pos : String} {af : Array Edge} {g : Option (Nat × Bool)} {t t' : TypeId} {x y i j : Operand} {k k' : IntKind} {m n : Int} {bs cs : List UInt8}
theorem s_len (hx : ρ x = mkS bs) [ht : TU P t .string] (h : R (.int .i64 bs.length) w) : OpTo P ⟨d, .call ⟨.builtin .len, #[x], #[t]⟩, ty, pos, af, g⟩ ρ w R := o_lenStr hx (by rw [mkS_size]; exact h)
theorem s_idx {q : Nat} (hx : ρ x = mkS bs) (hi : ρ i = .int k m) [ht : TU P t .string] (hq : m = q) (hl : q < bs.length) (h : R (.int .u8 (bs[q]).toNat) w) : OpTo P ⟨d, .index t x i, ty, pos, af, g⟩ ρ w R := by
  subst hq
  exact o_indexStr hx hi (by omega) (by simpa using mkS_get hl) h
theorem s_add (hx : ρ x = mkS bs) (hy : ρ y = mkS cs) (hs : bs.length + cs.length ≤ 9223372036854775807) (h : R (mkS (bs ++ cs)) w) : OpTo P ⟨d, .binOp .add t x y t', ty, pos, af, g⟩ ρ w R :=
  o_addS hx hy (by simpa [mkS_size] using hs) (by rw [mkS_append]; exact h)
theorem s_eql (hx : ρ x = mkS bs) (hy : ρ y = mkS cs) (h : R (.bool (bs == cs)) w) : OpTo P ⟨d, .binOp .eql t x y t', ty, pos, af, g⟩ ρ w R := o_eqlS hx hy (by rw [mkS_toList, mkS_toList]; exact h)
theorem s_neq (hx : ρ x = mkS bs) (hy : ρ y = mkS cs) (h : R (.bool !(bs == cs)) w) : OpTo P ⟨d, .binOp .neq t x y t', ty, pos, af, g⟩ ρ w R := o_neqS hx hy (by rw [mkS_toList, mkS_toList]; exact h)
theorem s_lh {p q : Nat} (hx : ρ x = mkS bs) (hi : ρ i = .int k m) (hj : ρ j = .int k' n) [ht : TU P t .string] (hp : m = p) (hq : n = q) (h1 : p ≤ q) (h2 : q ≤ bs.length) (h : R (mkS ((bs.drop p).take (q - p))) w) : OpTo P ⟨d, .slice t x (some i) (some j) none, ty, pos, af, g⟩ ρ w R := by
  subst hp; subst hq
  exact o_subS hx hi hj (by omega) (by omega) (by rw [mkS_size]; omega) (by rw [mkS_extract]; exact h)
theorem s_l {p : Nat} (hx : ρ x = mkS bs) (hi : ρ i = .int k m) [ht : TU P t .string] (hp : m = p) (h2 : p ≤ bs.length) (h : R (mkS (bs.drop p)) w) : OpTo P ⟨d, .slice t x (some i) none none, ty, pos, af, g⟩ ρ w R := by
  subst hp
  refine o_subSl hx hi (by omega) (by rw [mkS_size]; omega) ?_
  rw [mkS_extract, mkS_size]
  simp only [Int.toNat_natCast]
  rw [List.take_of_length_le (by simp)]
  exact h
theorem s_h {q : Nat} (hx : ρ x = mkS bs) (hj : ρ j = .int k n) [ht : TU P t .string] (hq : n = q) (h2 : q ≤ bs.length) (h : R (mkS (bs.take q)) w) : OpTo P ⟨d, .slice t x none (some j) none, ty, pos, af, g⟩ ρ w R := by
  subst hq
  refine o_subSh hx hj (by omega) (by rw [mkS_size]; omega) ?_
  rw [mkS_extract]
  simpa using h
end
end Go.Proofs.YtadnpidadcgdcaaDoor

/-
  Bits of unsigned integers: the four operations as operations on natural numbers.
-/
import Derived.Test.YtadnpidadcgdcaaDoorLibL
namespace Go.Proofs.YtadnpidadcgdcaaDoor
set_option linter.unusedVariables false
set_option linter.unusedSimpArgs false
open Go.RowKit

theorem wrap_u {k : IntKind} (hk : k.signed = false) {n : Nat} (h : n < 2 ^ k.bits) : k.wrap (n : Int) = n := by
  simp only [IntKind.wrap, hk, Bool.false_and, Bool.false_eq_true, if_false]
  exact Int.emod_eq_of_lt (by omega) (by exact_mod_cast h)
theorem ofInt_u (b : Nat) {m : Int} (h0 : 0 ≤ m) : BitVec.ofInt b m = BitVec.ofNat b m.toNat := by
  obtain ⟨n, rfl⟩ := Int.eq_ofNat_of_zero_le h0
  simp
theorem bits_or {k : IntKind} (hk : k.signed = false) {m n : Nat} (hm : m < 2 ^ k.bits) (hn : n < 2 ^ k.bits) : bitsOf .or k m n = ((m ||| n : Nat) : Int) := by
  simp only [bitsOf]
  rw [ofInt_u _ (by omega), ofInt_u _ (by omega), BitVec.toNat_or, BitVec.toNat_ofNat, BitVec.toNat_ofNat]
  simp only [Int.toNat_natCast, Nat.mod_eq_of_lt hm, Nat.mod_eq_of_lt hn]
  exact wrap_u hk (Nat.or_lt_two_pow hm hn)
theorem bits_and {k : IntKind} (hk : k.signed = false) {m n : Nat} (hm : m < 2 ^ k.bits) (hn : n < 2 ^ k.bits) : bitsOf .and k m n = ((m &&& n : Nat) : Int) := by
  simp only [bitsOf]
  rw [ofInt_u _ (by omega), ofInt_u _ (by omega), BitVec.toNat_and, BitVec.toNat_ofNat, BitVec.toNat_ofNat]
  simp only [Int.toNat_natCast, Nat.mod_eq_of_lt hm, Nat.mod_eq_of_lt hn]
  exact wrap_u hk (Nat.and_lt_two_pow _ hn)
theorem bits_xor {k : IntKind} (hk : k.signed = false) {m n : Nat} (hm : m < 2 ^ k.bits) (hn : n < 2 ^ k.bits) : bitsOf .xor k m n = ((m ^^^ n : Nat) : Int) := by
  simp only [bitsOf]
  rw [ofInt_u _ (by omega), ofInt_u _ (by omega), BitVec.toNat_xor, BitVec.toNat_ofNat, BitVec.toNat_ofNat]
  simp only [Int.toNat_natCast, Nat.mod_eq_of_lt hm, Nat.mod_eq_of_lt hn]
  exact wrap_u hk (Nat.xor_lt_two_pow hm hn)
/-- what lies above j bits, and what lies below -/
theorem or_add {k : IntKind} (hk : k.signed = false) (j q n : Nat) (hn : n < 2 ^ j) (hm : 2 ^ j * q + n < 2 ^ k.bits) : bitsOf .or k ((2 ^ j * q : Nat) : Int) (n : Int) = ((2 ^ j * q + n : Nat) : Int) := by
  rw [bits_or hk (by omega) (by omega), ← Nat.two_pow_add_eq_or_of_lt hn]
theorem shl4or {g d : Int} (h0 : 0 ≤ g) (h1 : g ≤ 4095) (d0 : 0 ≤ d) (d1 : d ≤ 15) : bitsOf .or .u16 (IntKind.u16.wrap (g * 2 ^ min (Int.toNat 4) IntKind.u16.bits)) d = 16 * g + d := by
  obtain ⟨q, rfl⟩ := Int.eq_ofNat_of_zero_le h0
  obtain ⟨n, rfl⟩ := Int.eq_ofNat_of_zero_le d0
  have e : IntKind.u16.wrap ((q : Int) * 2 ^ min (Int.toNat 4) IntKind.u16.bits) = ((2 ^ 4 * q : Nat) : Int) := by
    have : ((q : Int) * 2 ^ min (Int.toNat 4) IntKind.u16.bits) = ((2 ^ 4 * q : Nat) : Int) := by
      show (q : Int) * 16 = _
      omega
    rw [this]
    exact wrap_u rfl (show 2 ^ 4 * q < 65536 by omega)
  rw [e, or_add (k := .u16) rfl 4 q n (by omega) (show 2 ^ 4 * q + n < 65536 by omega)]
  omega
end Go.Proofs.YtadnpidadcgdcaaDoor

/-
  Plain facts on masks: how prefixes of one address are nested; a prefix contains just the addresses with its first bits. No program in sight.
-/
import Derived.Test.YtadnpidadcgdcaaDoorQ3
namespace Go.Proofs.YtadnpidadcgdcaaDoor
set_option linter.unusedVariables false
set_option linter.unusedSimpArgs false
open Go.RowKit

/-- a byte of which the first k bits stay -/
def cutB (x : Int) (k : Nat) : Int := bitsOf .andNot .u8 x (Int.fdiv 255 (2 ^ min k 8))
theorem cutB_fin : ∀ x : Fin 256, ∀ k : Fin 9, cutB (x.1 : Int) k.1 = ((x.1 / 2 ^ (8 - k.1) * 2 ^ (8 - k.1) : Nat) : Int) := by decide +kernel
theorem cutB_nat {x k : Nat} (hx : x < 256) (hk : k ≤ 8) : cutB (x : Int) k = ((x / 2 ^ (8 - k) * 2 ^ (8 - k) : Nat) : Int) := cutB_fin ⟨x, hx⟩ ⟨k, by omega⟩
theorem nest_fin : ∀ x : Fin 256, ∀ k j : Fin 9, (x.1 / 2 ^ (8 - k.1) * 2 ^ (8 - k.1)) / 2 ^ (8 - j.1) * 2 ^ (8 - j.1) = x.1 / 2 ^ (8 - min j.1 k.1) * 2 ^ (8 - min j.1 k.1) := by decide +kernel
theorem low_fin : ∀ x : Fin 256, ∀ k : Fin 9, (x.1 / 2 ^ (8 - k.1) = 0) ↔ Lib.bitLen x.1 ≤ 8 - k.1 := by decide +kernel
theorem bitLen_fin : ∀ x : Fin 256, Lib.bitLen x.1 ≤ 8 ∧ (Lib.bitLen x.1 = 0 ↔ x.1 = 0) := by decide +kernel
theorem cutB_bd {x : Int} {k : Nat} (h0 : 0 ≤ x) (h1 : x < 256) (hk : k ≤ 8) : 0 ≤ cutB x k ∧ cutB x k < 256 := by
  obtain ⟨n, rfl⟩ := Int.eq_ofNat_of_zero_le h0
  rw [cutB_nat (by omega) hk]
  have := Nat.div_mul_le_self n (2 ^ (8 - k))
  omega
theorem cutB_nest {x : Int} {k j : Nat} (h0 : 0 ≤ x) (h1 : x < 256) (hk : k ≤ 8) (hj : j ≤ 8) : cutB (cutB x k) j = cutB x (min j k) := by
  obtain ⟨n, rfl⟩ := Int.eq_ofNat_of_zero_le h0
  have hn : n < 256 := by omega
  have := Nat.div_mul_le_self n (2 ^ (8 - k))
  rw [cutB_nat hn hk, cutB_nat (by omega) hj, cutB_nat hn (by omega), nest_fin ⟨n, hn⟩ ⟨k, by omega⟩ ⟨j, by omega⟩]
theorem cutB_eq {x y : Int} {k : Nat} (h0 : 0 ≤ x) (h1 : x < 256) (g0 : 0 ≤ y) (g1 : y < 256) (hk : k ≤ 8) : (cutB x k = cutB y k) ↔ Lib.bitLen (bitsOf .xor .u8 y x).toNat ≤ 8 - k := by
  obtain ⟨n, rfl⟩ := Int.eq_ofNat_of_zero_le h0
  obtain ⟨m, rfl⟩ := Int.eq_ofNat_of_zero_le g0
  have hn : n < 256 := by omega
  have hm : m < 256 := by omega
  rw [cutB_nat hn hk, cutB_nat hm hk, bits_xor (k := .u8) rfl (show m < 2 ^ 8 by omega) (show n < 2 ^ 8 by omega), Int.toNat_natCast]
  have hx : m ^^^ n < 256 := Nat.xor_lt_two_pow (n := 8) hm hn
  rw [← low_fin ⟨m ^^^ n, hx⟩ ⟨k, by omega⟩]
  simp only
  rw [Nat.xor_div_two_pow]
  have hp : 0 < 2 ^ (8 - k) := Nat.two_pow_pos _
  constructor
  · intro h
    have h' : n / 2 ^ (8 - k) * 2 ^ (8 - k) = m / 2 ^ (8 - k) * 2 ^ (8 - k) := by exact_mod_cast h
    rw [Nat.eq_of_mul_eq_mul_right hp h']
    exact Nat.xor_self _
  · intro h
    have : m / 2 ^ (8 - k) = n / 2 ^ (8 - k) := by
      have h2 := congrArg (· ^^^ (n / 2 ^ (8 - k))) h
      simpa [Nat.xor_assoc] using h2
    rw [this]

theorem keepN_bd (n i : Int) : (keepN n i).toNat ≤ 8 := by unfold keepN; split <;> (try split) <;> omega
theorem maskAt_cut (a : List Int) (n : Int) (i : Nat) : maskAt a n i = cutB (a.getD i 0) (keepN n i).toNat := rfl
theorem maskI_at (a : List Int) (n : Int) {i : Nat} (h : i < 16) : (maskI a n).getD i 0 = maskAt a n i := by simp [maskI, h]
theorem maskI_ext {a b : List Int} {n m : Int} : maskI a n = maskI b m ↔ ∀ i, i < 16 → maskAt a n i = maskAt b m i := by
  unfold maskI
  constructor
  · intro h i hi
    have := congrArg (fun l => l.getD i 0) h
    simpa [hi] using this
  · intro h
    exact List.map_congr_left fun i hi => h i (List.mem_range.1 hi)
def minI (m n : Int) : Int := if n < m then n else m
theorem keep_min (m n i : Int) : min (keepN m i).toNat (keepN n i).toNat = (keepN (minI m n) i).toNat := by
  unfold minI keepN
  split <;> split <;> split <;> (try split) <;> (try split) <;> omega
theorem mask_nest {p : List Int} (hp : IsIP p) (m n : Int) : maskI (maskI p n) m = maskI p (minI m n) := by
  rw [maskI_ext]
  intro i hi
  rw [maskAt_cut, maskI_at _ _ hi, maskAt_cut, maskAt_cut, cutB_nest (hp.at_ i).1 (hp.at_ i).2 (keepN_bd _ _) (keepN_bd _ _), keep_min]
theorem mask_isIP {p : List Int} (hp : IsIP p) (n : Int) : IsIP (maskI p n) := by
  refine ⟨maskI_len p n, fun x hx => ?_⟩
  unfold maskI at hx
  obtain ⟨i, _, rfl⟩ := List.mem_map.1 hx
  exact cutB_bd (hp.at_ i).1 (hp.at_ i).2 (keepN_bd _ _)
theorem minI_self (m : Int) : minI m m = m := by unfold minI; split <;> rfl
theorem minI_left {m n : Int} (h : m ≤ n) : minI m n = m := by unfold minI; rw [if_neg (by omega)]
theorem minI_min (m n : Int) : minI (minI m n) n = minI m n := by unfold minI; split <;> (try split) <;> omega
theorem valid_mask {p : List Int} (hp : IsIP p) {m : Int} (h0 : 0 ≤ m) (h1 : m ≤ 128) : validP (maskI p m) m = true := by
  simp [validP, h0, h1, mask_nest hp, minI_self]
theorem contains_self {p : List Int} (hp : IsIP p) {m : Int} (h0 : 0 ≤ m) (h1 : m ≤ 128) : containsP (maskI p m) m p = true := by
  simp [containsP, valid_mask hp h0 h1]
theorem covers_mask {p : List Int} (hp : IsIP p) {m n : Int} (h0 : 0 ≤ m) (h1 : m ≤ 128) (g0 : 0 ≤ n) (g1 : n ≤ 128) : coversP (maskI p m) m (maskI p n) n = decide (m ≤ n) := by
  unfold coversP
  by_cases h : m ≤ n
  · simp [h, valid_mask hp g0 g1, containsP, valid_mask hp h0 h1, mask_nest hp, minI_left h]
  · simp [h]
theorem mask_min {p : List Int} (hp : IsIP p) (m n : Int) : maskI (maskI p n) (minI m n) = maskI p (minI m n) := by rw [mask_nest hp, minI_min]

theorem common_iff {p q : List Int} (hp : IsIP p) (hq : IsIP q) {m : Int} (h0 : 0 ≤ m) (h1 : m ≤ 128) : ∀ k, k ≤ 16 → ((m ≤ commonFrom p q k) ↔ ∀ i, 16 - k ≤ i → i < 16 → Lib.bitLen (xorAt p q i).toNat ≤ 8 - (keepN m i).toNat)
  | 0, _ => by
    simp only [commonFrom]
    exact ⟨fun _ i h h' => by omega, fun _ => h1⟩
  | k + 1, hk => by
    have ih := common_iff hp hq h0 h1 k (by omega)
    have hx := xor_bd hp hq (15 - k)
    have hbl := bitLen_fin ⟨(xorAt p q (15 - k)).toNat, by omega⟩
    simp only at hbl
    simp only [commonFrom]
    split
    · rename_i hne
      have hne' : Lib.bitLen (xorAt p q (15 - k)).toNat ≠ 0 := fun h => hne (by have := hbl.2.1 h; omega)
      constructor
      · intro h i hi hi'
        by_cases e : i = 15 - k
        · subst e
          unfold keepN
          split <;> (try split) <;> omega
        · have : keepN m i = 0 := by unfold keepN; split <;> (try split) <;> omega
          have hb := bitLen_fin ⟨(xorAt p q i).toNat, by have := xor_bd hp hq i; omega⟩
          simp only at hb
          rw [this]
          exact hb.1
      · intro h
        have := h (15 - k) (by omega) (by omega)
        unfold keepN at this
        split at this <;> (try split at this) <;> omega
    · rename_i he
      have he' : xorAt p q (15 - k) = 0 := Classical.byContradiction he
      rw [ih]
      constructor
      · intro h i hi hi'
        by_cases e : i = 15 - k
        · subst e
          rw [he']
          exact Nat.zero_le _
        · exact h i (by omega) hi'
      · intro h i hi hi'
        exact h i (by omega) hi'
theorem contains_common {p q : List Int} (hp : IsIP p) (hq : IsIP q) {m : Int} (h0 : 0 ≤ m) (h1 : m ≤ 128) : containsP (maskI p m) m q = decide (m ≤ commonI p q) := by
  unfold containsP
  rw [valid_mask hp h0 h1, Bool.true_and]
  have : (maskI q m = maskI p m) ↔ (m ≤ commonI p q) := by
    unfold commonI
    rw [common_iff hp hq h0 h1 16 (Nat.le_refl _), maskI_ext]
    constructor
    · intro h i _ hi
      exact (cutB_eq (hq.at_ i).1 (hq.at_ i).2 (hp.at_ i).1 (hp.at_ i).2 (keepN_bd _ _)).1 (h i hi)
    · intro h i hi
      exact (cutB_eq (hq.at_ i).1 (hq.at_ i).2 (hp.at_ i).1 (hp.at_ i).2 (keepN_bd _ _)).2 (h i (by omega) hi)
  by_cases h : m ≤ commonI p q
  · rw [decide_eq_true h, beq_iff_eq]; exact this.2 h
  · rw [decide_eq_false h, beq_eq_false_iff_ne]; exact fun he => h (this.1 he)
end Go.Proofs.YtadnpidadcgdcaaDoor

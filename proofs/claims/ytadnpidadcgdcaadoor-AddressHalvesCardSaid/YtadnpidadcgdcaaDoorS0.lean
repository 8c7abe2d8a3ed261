/-
  Plain facts on the bits of addresses. No program in sight.
-/
import Derived.Test.YtadnpidadcgdcaaDoorM0
import Derived.Test.YtadnpidadcgdcaaDoorA5
namespace Go.Proofs.YtadnpidadcgdcaaDoor
set_option linter.unusedVariables false
set_option linter.unusedSimpArgs false
open Go.RowKit

def bitX (x : Int) (r : Nat) : Int := bitsOf .and .u8 (Int.fdiv x (2 ^ min (7 - (r : Int)).toNat IntKind.u8.bits)) 1
/-- bit i of an address -/
def bitI (a : List Int) (i : Nat) : Int := bitX (a.getD (i / 8) 0) (i % 8)
theorem bit_fin : ∀ x : Fin 256, ∀ r : Fin 8, bitX (x.1 : Int) r.1 = ((x.1 / 2 ^ (7 - r.1) % 2 : Nat) : Int) := by decide +kernel
theorem valid_fin : ∀ x : Fin 256, ∀ k : Fin 9, (x.1 / 2 ^ (8 - k.1) * 2 ^ (8 - k.1) = x.1) ↔ ∀ r : Fin 8, k.1 ≤ r.1 → x.1 / 2 ^ (7 - r.1) % 2 = 0 := by decide +kernel
theorem low_bits : ∀ x : Fin 256, ∀ k : Fin 9, (Lib.bitLen x.1 ≤ 8 - k.1) ↔ ∀ r : Fin 8, r.1 < k.1 → x.1 / 2 ^ (7 - r.1) % 2 = 0 := by decide +kernel
theorem mask_fin : ∀ x : Fin 256, ∀ r : Fin 8, bitsOf .or .u8 (cutB (x.1 : Int) r.1) (IntKind.u8.wrap (bitX (x.1 : Int) r.1 * 2 ^ min (7 - (r.1 : Int)).toNat IntKind.u8.bits)) = cutB (x.1 : Int) (r.1 + 1) := by decide +kernel
theorem cut0_fin : ∀ x : Fin 256, cutB (x.1 : Int) 0 = 0 := by decide +kernel
theorem bitX_nat {x : Nat} {r : Nat} (hx : x < 256) (hr : r < 8) : bitX (x : Int) r = ((x / 2 ^ (7 - r) % 2 : Nat) : Int) := bit_fin ⟨x, hx⟩ ⟨r, hr⟩
theorem byte_of {a : List Int} (ha : IsIP a) (j : Nat) : ∃ x : Nat, x < 256 ∧ a.getD j 0 = (x : Int) := by
  have := ha.at_ j
  obtain ⟨x, hx⟩ := Int.eq_ofNat_of_zero_le this.1
  exact ⟨x, by omega, hx⟩
theorem bitI_bd {a : List Int} (ha : IsIP a) (i : Nat) : bitI a i = 0 ∨ bitI a i = 1 := by
  obtain ⟨x, hx, hxe⟩ := byte_of ha (i / 8)
  unfold bitI
  rw [hxe, bitX_nat hx (Nat.mod_lt _ (by omega))]
  omega
theorem keep_le {n j r : Nat} (hr : r < 8) : (keepN (n : Int) j).toNat ≤ r ↔ n ≤ 8 * j + r := by
  unfold keepN
  split <;> (try split) <;> omega
theorem keep_lt {n j r : Nat} (hr : r < 8) : r < (keepN (n : Int) j).toNat ↔ 8 * j + r < n := by
  unfold keepN
  split <;> (try split) <;> omega
theorem mask_eq_iff {p : List Int} (hp : IsIP p) (n : Int) : maskI p n = p ↔ ∀ j, j < 16 → maskAt p n j = p.getD j 0 := by
  constructor
  · intro h j hj
    rw [← maskI_at p n hj, h]
  · intro h
    apply List.ext_getElem (by rw [maskI_len, hp.len])
    intro j h1 h2
    have hj : j < 16 := by rw [maskI_len] at h1; exact h1
    have e := h j hj
    simp only [maskI, List.getElem_map, List.getElem_range]
    rw [e, List.getD_eq_getElem?_getD, List.getElem?_eq_getElem h2]
    rfl
theorem valid_bits {p : List Int} (hp : IsIP p) (n : Nat) : maskI p (n : Int) = p ↔ ∀ i, n ≤ i → i < 128 → bitI p i = 0 := by
  rw [mask_eq_iff hp]
  have key : ∀ j, j < 16 → (maskAt p n j = p.getD j 0 ↔ ∀ r, r < 8 → (keepN (n : Int) j).toNat ≤ r → bitI p (8 * j + r) = 0) := by
    intro j hj
    obtain ⟨x, hx, hxe⟩ := byte_of hp j
    have hk := keepN_bd (n : Int) (j : Int)
    rw [maskAt_cut, hxe, cutB_nat hx hk]
    have hv := valid_fin ⟨x, hx⟩ ⟨(keepN (n : Int) j).toNat, by omega⟩
    simp only at hv
    constructor
    · intro h r hr hkr
      have h' : x / 2 ^ (8 - (keepN (n : Int) j).toNat) * 2 ^ (8 - (keepN (n : Int) j).toNat) = x := by exact_mod_cast h
      have := hv.1 h' ⟨r, hr⟩ hkr
      unfold bitI
      rw [show (8 * j + r) / 8 = j by omega, show (8 * j + r) % 8 = r by omega, hxe, bitX_nat hx hr]
      simp only at this
      omega
    · intro h
      have : x / 2 ^ (8 - (keepN (n : Int) j).toNat) * 2 ^ (8 - (keepN (n : Int) j).toNat) = x := hv.2 fun r hkr => by
        have h1 := h r.1 r.2 hkr
        unfold bitI at h1
        rw [show (8 * j + r.1) / 8 = j by omega, show (8 * j + r.1) % 8 = r.1 by omega, hxe, bitX_nat hx r.2] at h1
        omega
      exact_mod_cast this
  constructor
  · intro h i hi hlt
    have := (key (i / 8) (by omega)).1 (h (i / 8) (by omega)) (i % 8) (Nat.mod_lt _ (by omega)) ((keep_le (Nat.mod_lt _ (by omega))).2 (by omega))
    rwa [show 8 * (i / 8) + i % 8 = i by omega] at this
  · intro h j hj
    exact (key j hj).2 fun r hr hkr => h _ ((keep_le hr).1 hkr) (by omega)
/-- one bit more -/
theorem mask_step {a : List Int} (ha : IsIP a) {i : Nat} (hi : i < 128) : bitsOf .or .u8 (maskAt a (i : Int) (i / 8)) (IntKind.u8.wrap (bitI a i * 2 ^ min (7 - ((i % 8 : Nat) : Int)).toNat IntKind.u8.bits)) = maskAt a ((i : Int) + 1) (i / 8) := by
  obtain ⟨x, hx, hxe⟩ := byte_of ha (i / 8)
  have k1 : (keepN (i : Int) ((i / 8 : Nat) : Int)).toNat = i % 8 := by unfold keepN; split <;> (try split) <;> omega
  have k2 : (keepN ((i : Int) + 1) ((i / 8 : Nat) : Int)).toNat = i % 8 + 1 := by unfold keepN; split <;> (try split) <;> omega
  rw [maskAt_cut, maskAt_cut, k1, k2]
  unfold bitI
  rw [hxe]
  exact mask_fin ⟨x, hx⟩ ⟨i % 8, Nat.mod_lt _ (by omega)⟩
theorem mask_other {a : List Int} {i j : Nat} (hj : j ≠ i / 8) : maskAt a ((i : Int) + 1) j = maskAt a (i : Int) j := by
  have : keepN ((i : Int) + 1) (j : Int) = keepN (i : Int) (j : Int) := by unfold keepN; split <;> (try split) <;> (try split) <;> (try split) <;> omega
  rw [maskAt_cut, maskAt_cut, this]
theorem mask_set {a : List Int} {i : Nat} (hi : i < 128) : (maskI a (i : Int)).set (i / 8) (maskAt a ((i : Int) + 1) (i / 8)) = maskI a ((i : Int) + 1) := by
  unfold maskI
  apply List.ext_getElem (by simp)
  intro j h1 h2
  simp only [List.getElem_set, List.getElem_map, List.getElem_range]
  split
  · subst_vars; rfl
  · rename_i hne
    exact (mask_other (fun h => hne h.symm)).symm
theorem mask_zero {a : List Int} (ha : IsIP a) : maskI a 0 = zeroIP := by
  have : ∀ j, j < 16 → maskAt a 0 j = 0 := fun j hj => by
    obtain ⟨x, hx, hxe⟩ := byte_of ha j
    have k : (keepN 0 (j : Int)).toNat = 0 := by unfold keepN; split <;> (try split) <;> omega
    rw [maskAt_cut, hxe, k]
    exact cut0_fin ⟨x, hx⟩
  unfold maskI
  rw [List.map_congr_left (g := fun _ => (0 : Int)) fun j hj => this j (List.mem_range.1 hj)]
  rfl
theorem xor2 (a b : Nat) : (a ^^^ b) % 2 = 0 ↔ a % 2 = b % 2 := by
  have h := Nat.xor_mod_two_pow (a := a) (b := b) (n := 1)
  simp only [Nat.pow_one] at h
  rw [h]
  rcases Nat.mod_two_eq_zero_or_one a with ha | ha <;> rcases Nat.mod_two_eq_zero_or_one b with hb | hb <;> rw [ha, hb] <;> decide
/-- the first bits are the same -/
theorem common_bits {p q : List Int} (hp : IsIP p) (hq : IsIP q) {m : Nat} (hm : m ≤ 128) : ((m : Int) ≤ commonI p q) ↔ ∀ i, i < m → bitI p i = bitI q i := by
  unfold commonI
  rw [common_iff hp hq (by omega) (by omega) 16 (Nat.le_refl _)]
  have key : ∀ j, j < 16 → (Lib.bitLen (xorAt p q j).toNat ≤ 8 - (keepN (m : Int) j).toNat ↔ ∀ r, r < 8 → r < (keepN (m : Int) j).toNat → bitI p (8 * j + r) = bitI q (8 * j + r)) := by
    intro j hj
    obtain ⟨x, hx, hxe⟩ := byte_of hp j
    obtain ⟨y, hy, hye⟩ := byte_of hq j
    have hk := keepN_bd (m : Int) (j : Int)
    have hxy : x ^^^ y < 256 := Nat.xor_lt_two_pow (n := 8) hx hy
    have hxo : (xorAt p q j).toNat = x ^^^ y := by
      unfold xorAt
      rw [hxe, hye, bits_xor (k := .u8) rfl (show x < 2 ^ 8 by omega) (show y < 2 ^ 8 by omega), Int.toNat_natCast]
    rw [hxo]
    have hl := low_bits ⟨x ^^^ y, hxy⟩ ⟨(keepN (m : Int) j).toNat, by omega⟩
    simp only at hl
    rw [hl]
    have hb : ∀ r, r < 8 → (((x ^^^ y) / 2 ^ (7 - r) % 2 = 0) ↔ bitI p (8 * j + r) = bitI q (8 * j + r)) := fun r hr => by
      unfold bitI
      rw [show (8 * j + r) / 8 = j by omega, show (8 * j + r) % 8 = r by omega, hxe, hye, bitX_nat hx hr, bitX_nat hy hr, Nat.xor_div_two_pow, xor2]
      omega
    exact ⟨fun h r hr hk => (hb r hr).1 (h ⟨r, hr⟩ hk), fun h r hk => (hb r.1 r.2).2 (h r.1 r.2 hk)⟩
  constructor
  · intro h i hi
    have := (key (i / 8) (by omega)).1 (h (i / 8) (by omega) (by omega)) (i % 8) (Nat.mod_lt _ (by omega)) ((keep_lt (Nat.mod_lt _ (by omega))).2 (by omega))
    rwa [show 8 * (i / 8) + i % 8 = i by omega] at this
  · intro h j _ hj
    exact (key j hj).2 fun r hr hk => h _ ((keep_lt hr).1 hk)
theorem common_le {p q : List Int} (hp : IsIP p) (hq : IsIP q) : commonI p q ≤ 128 ∧ 0 ≤ commonI p q := by
  have key : ∀ k, k ≤ 16 → commonFrom p q k ≤ 128 ∧ 0 ≤ commonFrom p q k := by
    intro k
    induction k with
    | zero => intro _; simp [commonFrom]
    | succ k ih =>
      intro hk
      have h1 := xor_bd hp hq (15 - k)
      have h2 := bitLen_le8 h1.1 h1.2
      simp only [commonFrom]
      split
      · omega
      · exact ih (by omega)
  exact key 16 (Nat.le_refl _)
theorem common_is {p q : List Int} (hp : IsIP p) (hq : IsIP q) {n : Nat} (hn : n ≤ 128) (h : ∀ i, i < n → bitI p i = bitI q i) (h' : n < 128 → bitI p n ≠ bitI q n) : commonI p q = n := by
  have h1 := (common_bits hp hq hn).2 h
  have h2 := common_le hp hq
  rcases Nat.lt_or_ge n 128 with hlt | hge
  · have h3 : ¬ (((n + 1 : Nat) : Int) ≤ commonI p q) := fun hc => h' hlt ((common_bits hp hq (by omega)).1 hc n (by omega))
    omega
  · omega
/-- eight bytes, back -/
theorem be_inv {xs : List Int} (hl : xs.length = 8) (hb : ∀ x ∈ xs, 0 ≤ x ∧ x < 256) : beB (beN xs) = xs := by
  match xs, hl with
  | [x0, x1, x2, x3, x4, x5, x6, x7], _ =>
    have b0 := hb x0 (by simp); have b1 := hb x1 (by simp); have b2 := hb x2 (by simp); have b3 := hb x3 (by simp)
    have b4 := hb x4 (by simp); have b5 := hb x5 (by simp); have b6 := hb x6 (by simp); have b7 := hb x7 (by simp)
    obtain ⟨y0, rfl⟩ := Int.eq_ofNat_of_zero_le b0.1
    obtain ⟨y1, rfl⟩ := Int.eq_ofNat_of_zero_le b1.1
    obtain ⟨y2, rfl⟩ := Int.eq_ofNat_of_zero_le b2.1
    obtain ⟨y3, rfl⟩ := Int.eq_ofNat_of_zero_le b3.1
    obtain ⟨y4, rfl⟩ := Int.eq_ofNat_of_zero_le b4.1
    obtain ⟨y5, rfl⟩ := Int.eq_ofNat_of_zero_le b5.1
    obtain ⟨y6, rfl⟩ := Int.eq_ofNat_of_zero_le b6.1
    obtain ⟨y7, rfl⟩ := Int.eq_ofNat_of_zero_le b7.1
    clear hb
    obtain ⟨m1, h1⟩ : ∃ m, m = 256 * y0 + y1 := ⟨_, rfl⟩
    obtain ⟨m2, h2⟩ : ∃ m, m = 256 * m1 + y2 := ⟨_, rfl⟩
    obtain ⟨m3, h3⟩ : ∃ m, m = 256 * m2 + y3 := ⟨_, rfl⟩
    obtain ⟨m4, h4⟩ : ∃ m, m = 256 * m3 + y4 := ⟨_, rfl⟩
    obtain ⟨m5, h5⟩ : ∃ m, m = 256 * m4 + y5 := ⟨_, rfl⟩
    obtain ⟨m6, h6⟩ : ∃ m, m = 256 * m5 + y6 := ⟨_, rfl⟩
    obtain ⟨n, h7⟩ : ∃ m, m = 256 * m6 + y7 := ⟨_, rfl⟩
    have hn : beN [(y0 : Int), y1, y2, y3, y4, y5, y6, y7] = (n : Int) := by
      simp only [beN, List.foldl_cons, List.foldl_nil]
      omega
    rw [hn]
    have d6 : n / 256 = m6 := by omega
    have d5 : n / 65536 = m5 := by rw [show 65536 = 256 * 256 from rfl, ← Nat.div_div_eq_div_mul, d6]; omega
    have d4 : n / 16777216 = m4 := by rw [show 16777216 = 65536 * 256 from rfl, ← Nat.div_div_eq_div_mul, d5]; omega
    have d3 : n / 4294967296 = m3 := by rw [show 4294967296 = 16777216 * 256 from rfl, ← Nat.div_div_eq_div_mul, d4]; omega
    have d2 : n / 1099511627776 = m2 := by rw [show 1099511627776 = 4294967296 * 256 from rfl, ← Nat.div_div_eq_div_mul, d3]; omega
    have d1 : n / 281474976710656 = m1 := by rw [show 281474976710656 = 1099511627776 * 256 from rfl, ← Nat.div_div_eq_div_mul, d2]; omega
    have d0 : n / 72057594037927936 = y0 := by rw [show 72057594037927936 = 281474976710656 * 256 from rfl, ← Nat.div_div_eq_div_mul, d1]; omega
    have e0 : beAt (n : Int) 0 = ((n / 72057594037927936 % 256 : Nat) : Int) := beAt_nat n 0 (by omega)
    have e1 : beAt (n : Int) 1 = ((n / 281474976710656 % 256 : Nat) : Int) := beAt_nat n 1 (by omega)
    have e2 : beAt (n : Int) 2 = ((n / 1099511627776 % 256 : Nat) : Int) := beAt_nat n 2 (by omega)
    have e3 : beAt (n : Int) 3 = ((n / 4294967296 % 256 : Nat) : Int) := beAt_nat n 3 (by omega)
    have e4 : beAt (n : Int) 4 = ((n / 16777216 % 256 : Nat) : Int) := beAt_nat n 4 (by omega)
    have e5 : beAt (n : Int) 5 = ((n / 65536 % 256 : Nat) : Int) := beAt_nat n 5 (by omega)
    have e6 : beAt (n : Int) 6 = ((n / 256 % 256 : Nat) : Int) := beAt_nat n 6 (by omega)
    have e7 : beAt (n : Int) 7 = ((n / 1 % 256 : Nat) : Int) := beAt_nat n 7 (by omega)
    have hbb : beB (n : Int) = [beAt n 0, beAt n 1, beAt n 2, beAt n 3, beAt n 4, beAt n 5, beAt n 6, beAt n 7] := rfl
    rw [hbb, e0, e1, e2, e3, e4, e5, e6, e7, d0, d1, d2, d3, d4, d5, d6, Nat.div_one]
    clear d0 d1 d2 d3 d4 d5 d6 e0 e1 e2 e3 e4 e5 e6 e7 hbb hn
    simp only [List.cons.injEq, and_true]
    refine ⟨?_, ?_, ?_, ?_, ?_, ?_, ?_, ?_⟩ <;> omega
end Go.Proofs.YtadnpidadcgdcaaDoor

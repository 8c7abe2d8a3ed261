/-
  Texts joined: M0, V6, W1, W2, V5, W3, W4, LibP, A2, A3, A4, A5.
-/
import Derived.Test.YtadnpidadcgdcaaDoorMPfx3
import Derived.Laws.IdiomStrings
/-! M0 -/
/-
  Plain facts on masks: how prefixes of one address are nested; a prefix contains just the addresses with its first bits. No program in sight.
-/
namespace Go.Proofs.YtadnpidadcgdcaaDoor
set_option linter.unusedVariables false
set_option linter.unusedSimpArgs false
open Go.RowKit

/-- a byte of which the first k bits stay -/
def cutB (x : Int) (k : Nat) : Int := bitsOf .andNot .u8 x (Int.fdiv 255 (2 ^ min k 8))
theorem cutB_fin : ∀ x : Fin 256, ∀ k : Fin 9, cutB (x.1 : Int) k.1 = ((x.1 / 2 ^ (8 - k.1) * 2 ^ (8 - k.1) : Nat) : Int) := by decide +kernel
theorem cutB_nat {x k : Nat} (hx : x < 256) (hk : k ≤ 8) : cutB (x : Int) k = ((x / 2 ^ (8 - k) * 2 ^ (8 - k) : Nat) : Int) := cutB_fin ⟨x, hx⟩ ⟨k, by omega⟩
theorem nest_fin : ∀ x : Fin 256, ∀ k j : Fin 9, (x.1 / 2 ^ (8 - k.1) * 2 ^ (8 - k.1)) / 2 ^ (8 - j.1) * 2 ^ (8 - j.1) = x.1 / 2 ^ (8 - min j.1 k.1) * 2 ^ (8 - min j.1 k.1) := by decide +kernel
theorem low_fin : ∀ x : Fin 256, ∀ k : Fin 9, (x.1 / 2 ^ (8 - k.1) = 0) ↔ Lib.bitLen x.1 ≤ 8 - k.1 := by decide +kernel
theorem bitLen_fin : ∀ x : Fin 256, Lib.bitLen x.1 ≤ 8 ∧ (Lib.bitLen x.1 = 0 ↔ x.1 = 0) := by decide +kernel
theorem cutB_bd {x : Int} {k : Nat} (h0 : 0 ≤ x) (h1 : x < 256) (hk : k ≤ 8) : 0 ≤ cutB x k ∧ cutB x k < 256 := by
  obtain ⟨n, rfl⟩ := Int.eq_ofNat_of_zero_le h0
  rw [cutB_nat (by omega) hk]
  have := Nat.div_mul_le_self n (2 ^ (8 - k))
  omega
theorem cutB_nest {x : Int} {k j : Nat} (h0 : 0 ≤ x) (h1 : x < 256) (hk : k ≤ 8) (hj : j ≤ 8) : cutB (cutB x k) j = cutB x (min j k) := by
  obtain ⟨n, rfl⟩ := Int.eq_ofNat_of_zero_le h0
  have hn : n < 256 := by omega
  have := Nat.div_mul_le_self n (2 ^ (8 - k))
  rw [cutB_nat hn hk, cutB_nat (by omega) hj, cutB_nat hn (by omega), nest_fin ⟨n, hn⟩ ⟨k, by omega⟩ ⟨j, by omega⟩]
theorem cutB_eq {x y : Int} {k : Nat} (h0 : 0 ≤ x) (h1 : x < 256) (g0 : 0 ≤ y) (g1 : y < 256) (hk : k ≤ 8) : (cutB x k = cutB y k) ↔ Lib.bitLen (bitsOf .xor .u8 y x).toNat ≤ 8 - k := by
  obtain ⟨n, rfl⟩ := Int.eq_ofNat_of_zero_le h0
  obtain ⟨m, rfl⟩ := Int.eq_ofNat_of_zero_le g0
  have hn : n < 256 := by omega
  have hm : m < 256 := by omega
  rw [cutB_nat hn hk, cutB_nat hm hk, bits_xor (k := .u8) rfl (show m < 2 ^ 8 by omega) (show n < 2 ^ 8 by omega), Int.toNat_natCast]
  have hx : m ^^^ n < 256 := Nat.xor_lt_two_pow (n := 8) hm hn
  rw [← low_fin ⟨m ^^^ n, hx⟩ ⟨k, by omega⟩]
  simp only
  rw [Nat.xor_div_two_pow]
  have hp : 0 < 2 ^ (8 - k) := Nat.two_pow_pos _
  constructor
  · intro h
    have h' : n / 2 ^ (8 - k) * 2 ^ (8 - k) = m / 2 ^ (8 - k) * 2 ^ (8 - k) := by exact_mod_cast h
    rw [Nat.eq_of_mul_eq_mul_right hp h']
    exact Nat.xor_self _
  · intro h
    have : m / 2 ^ (8 - k) = n / 2 ^ (8 - k) := by
      have h2 := congrArg (· ^^^ (n / 2 ^ (8 - k))) h
      simpa [Nat.xor_assoc] using h2
    rw [this]

theorem keepN_bd (n i : Int) : (keepN n i).toNat ≤ 8 := by unfold keepN; split <;> (try split) <;> omega
theorem maskAt_cut (a : List Int) (n : Int) (i : Nat) : maskAt a n i = cutB (a.getD i 0) (keepN n i).toNat := rfl
theorem maskI_at (a : List Int) (n : Int) {i : Nat} (h : i < 16) : (maskI a n).getD i 0 = maskAt a n i := by simp [maskI, h]
theorem maskI_ext {a b : List Int} {n m : Int} : maskI a n = maskI b m ↔ ∀ i, i < 16 → maskAt a n i = maskAt b m i := by
  unfold maskI
  constructor
  · intro h i hi
    have := congrArg (fun l => l.getD i 0) h
    simpa [hi] using this
  · intro h
    exact List.map_congr_left fun i hi => h i (List.mem_range.1 hi)
def minI (m n : Int) : Int := if n < m then n else m
theorem keep_min (m n i : Int) : min (keepN m i).toNat (keepN n i).toNat = (keepN (minI m n) i).toNat := by
  unfold minI keepN
  split <;> split <;> split <;> (try split) <;> (try split) <;> omega
theorem mask_nest {p : List Int} (hp : IsIP p) (m n : Int) : maskI (maskI p n) m = maskI p (minI m n) := by
  rw [maskI_ext]
  intro i hi
  rw [maskAt_cut, maskI_at _ _ hi, maskAt_cut, maskAt_cut, cutB_nest (hp.at_ i).1 (hp.at_ i).2 (keepN_bd _ _) (keepN_bd _ _), keep_min]
theorem mask_isIP {p : List Int} (hp : IsIP p) (n : Int) : IsIP (maskI p n) := by
  refine ⟨maskI_len p n, fun x hx => ?_⟩
  unfold maskI at hx
  obtain ⟨i, _, rfl⟩ := List.mem_map.1 hx
  exact cutB_bd (hp.at_ i).1 (hp.at_ i).2 (keepN_bd _ _)
theorem minI_self (m : Int) : minI m m = m := by unfold minI; split <;> rfl
theorem minI_left {m n : Int} (h : m ≤ n) : minI m n = m := by unfold minI; rw [if_neg (by omega)]
theorem minI_min (m n : Int) : minI (minI m n) n = minI m n := by unfold minI; split <;> (try split) <;> omega
theorem valid_mask {p : List Int} (hp : IsIP p) {m : Int} (h0 : 0 ≤ m) (h1 : m ≤ 128) : validP (maskI p m) m = true := by
  simp [validP, h0, h1, mask_nest hp, minI_self]
theorem contains_self {p : List Int} (hp : IsIP p) {m : Int} (h0 : 0 ≤ m) (h1 : m ≤ 128) : containsP (maskI p m) m p = true := by
  simp [containsP, valid_mask hp h0 h1]
theorem covers_mask {p : List Int} (hp : IsIP p) {m n : Int} (h0 : 0 ≤ m) (h1 : m ≤ 128) (g0 : 0 ≤ n) (g1 : n ≤ 128) : coversP (maskI p m) m (maskI p n) n = decide (m ≤ n) := by
  unfold coversP
  by_cases h : m ≤ n
  · simp [h, valid_mask hp g0 g1, containsP, valid_mask hp h0 h1, mask_nest hp, minI_left h]
  · simp [h]
theorem mask_min {p : List Int} (hp : IsIP p) (m n : Int) : maskI (maskI p n) (minI m n) = maskI p (minI m n) := by rw [mask_nest hp, minI_min]

theorem common_iff {p q : List Int} (hp : IsIP p) (hq : IsIP q) {m : Int} (h0 : 0 ≤ m) (h1 : m ≤ 128) : ∀ k, k ≤ 16 → ((m ≤ commonFrom p q k) ↔ ∀ i, 16 - k ≤ i → i < 16 → Lib.bitLen (xorAt p q i).toNat ≤ 8 - (keepN m i).toNat)
  | 0, _ => by
    simp only [commonFrom]
    exact ⟨fun _ i h h' => by omega, fun _ => h1⟩
  | k + 1, hk => by
    have ih := common_iff hp hq h0 h1 k (by omega)
    have hx := xor_bd hp hq (15 - k)
    have hbl := bitLen_fin ⟨(xorAt p q (15 - k)).toNat, by omega⟩
    simp only at hbl
    simp only [commonFrom]
    split
    · rename_i hne
      have hne' : Lib.bitLen (xorAt p q (15 - k)).toNat ≠ 0 := fun h => hne (by have := hbl.2.1 h; omega)
      constructor
      · intro h i hi hi'
        by_cases e : i = 15 - k
        · subst e
          unfold keepN
          split <;> (try split) <;> omega
        · have : keepN m i = 0 := by unfold keepN; split <;> (try split) <;> omega
          have hb := bitLen_fin ⟨(xorAt p q i).toNat, by have := xor_bd hp hq i; omega⟩
          simp only at hb
          rw [this]
          exact hb.1
      · intro h
        have := h (15 - k) (by omega) (by omega)
        unfold keepN at this
        split at this <;> (try split at this) <;> omega
    · rename_i he
      have he' : xorAt p q (15 - k) = 0 := Classical.byContradiction he
      rw [ih]
      constructor
      · intro h i hi hi'
        by_cases e : i = 15 - k
        · subst e
          rw [he']
          exact Nat.zero_le _
        · exact h i (by omega) hi'
      · intro h i hi hi'
        exact h i (by omega) hi'
theorem contains_common {p q : List Int} (hp : IsIP p) (hq : IsIP q) {m : Int} (h0 : 0 ≤ m) (h1 : m ≤ 128) : containsP (maskI p m) m q = decide (m ≤ commonI p q) := by
  unfold containsP
  rw [valid_mask hp h0 h1, Bool.true_and]
  have : (maskI q m = maskI p m) ↔ (m ≤ commonI p q) := by
    unfold commonI
    rw [common_iff hp hq h0 h1 16 (Nat.le_refl _), maskI_ext]
    constructor
    · intro h i _ hi
      exact (cutB_eq (hq.at_ i).1 (hq.at_ i).2 (hp.at_ i).1 (hp.at_ i).2 (keepN_bd _ _)).1 (h i hi)
    · intro h i hi
      exact (cutB_eq (hq.at_ i).1 (hq.at_ i).2 (hp.at_ i).1 (hp.at_ i).2 (keepN_bd _ _)).2 (h i (by omega) hi)
  by_cases h : m ≤ commonI p q
  · rw [decide_eq_true h, beq_iff_eq]; exact this.2 h
  · rw [decide_eq_false h, beq_eq_false_iff_ne]; exact fun he => h (this.1 he)
end Go.Proofs.YtadnpidadcgdcaaDoor

/-! V6 -/
/-
  Plain: the reference's ParsePrefix, Contains and Covers. No program in sight.
-/
namespace Go.Proofs.YtadnpidadcgdcaaDoor
set_option linter.unusedVariables false
set_option linter.unusedSimpArgs false
open Go.RowKit

/-- what the reference's Contains says -/
def rcontainsP (p : List Int) (n : Int) (a : List Int) : Bool := validP p n && decide (n ≤ commonI p a)
theorem rcontains_is {p q : List Int} {n : Int} (hp : IsIP p) (hq : IsIP q) : rcontainsP p n q = containsP p n q := by
  unfold rcontainsP
  cases hv : validP p n with
  | false => simp [containsP, hv]
  | true =>
    have hb := validP_bd hv
    have hm : maskI p n = p := by
      simp only [validP, Bool.and_eq_true, beq_iff_eq] at hv
      exact hv.2
    have := contains_common hp hq hb.1 hb.2
    rw [hm] at this
    rw [this]; simp
theorem rcovers_is {p q : List Int} {n m : Int} (hp : IsIP p) (hq : IsIP q) : (validP p n && validP q m && decide (n ≤ m) && rcontainsP p n q) = coversP p n q m := by
  rw [rcontains_is hp hq]
  unfold coversP
  cases h1 : validP p n with
  | false => simp [containsP, h1]
  | true => cases validP q m <;> cases containsP p n q <;> cases decide (n ≤ m) <;> rfl

/-! the number of bits -/
theorem itoa3 : ∀ x y z : Fin 10, (x.1 ≠ 0 → Lib.itoa (100 * x.1 + 10 * y.1 + z.1 : Int) = [UInt8.ofNat (48 + x.1), UInt8.ofNat (48 + y.1), UInt8.ofNat (48 + z.1)]) ∧ (y.1 ≠ 0 → Lib.itoa (10 * y.1 + z.1 : Int) = [UInt8.ofNat (48 + y.1), UInt8.ofNat (48 + z.1)]) ∧ Lib.itoa (z.1 : Int) = [UInt8.ofNat (48 + z.1)] := by decide +kernel
theorem digit_of {c : UInt8} (h : ¬ ((c.toNat : Int) < 48 ∨ 57 < (c.toNat : Int))) : ∃ d : Fin 10, c = UInt8.ofNat (48 + d.1) ∧ (c.toNat : Int) - 48 = d.1 := by
  have h1 : 48 ≤ c.toNat ∧ c.toNat ≤ 57 := by omega
  refine ⟨⟨c.toNat - 48, by omega⟩, ?_, by simp; omega⟩
  simp only
  rw [show 48 + (c.toNat - 48) = c.toNat by omega]
  simp
theorem bits_back {t : List UInt8} {n : Int} (h : bitsV t = some n) : t = Lib.itoa n := by
  unfold bitsV at h
  split at h
  · cases h
  · rename_i hc
    match t, h, hc with
    | [], h, hc => simp at hc
    | [a], h, hc =>
      simp only [bitsGo] at h
      split at h
      · cases h
      · rename_i ha
        obtain ⟨d, hd, he⟩ := digit_of ha
        cases h
        rw [he, show (10 * 0 + (d.1 : Int)) = (d.1 : Int) by omega, (itoa3 0 0 d).2.2, hd]
    | [a, b], h, hc =>
      simp only [bitsGo] at h
      split at h
      · cases h
      · rename_i ha
        split at h
        · cases h
        · rename_i hb
          obtain ⟨d, hd, he⟩ := digit_of ha
          obtain ⟨e, hd2, he2⟩ := digit_of hb
          cases h
          have hne : d.1 ≠ 0 := by
            intro h0
            apply hc
            right; right
            refine ⟨by simp, ?_⟩
            simp only [List.getD_cons_zero]
            omega
          rw [he, he2, show (10 * (10 * 0 + (d.1 : Int)) + (e.1 : Int)) = 10 * (d.1 : Int) + (e.1 : Int) by omega, (itoa3 0 d e).2.1 hne, hd, hd2]
    | [a, b, c], h, hc =>
      simp only [bitsGo] at h
      split at h
      · cases h
      · rename_i ha
        split at h
        · cases h
        · rename_i hb
          split at h
          · cases h
          · rename_i hcc
            obtain ⟨d, hd, he⟩ := digit_of ha
            obtain ⟨e, hd2, he2⟩ := digit_of hb
            obtain ⟨f, hd3, he3⟩ := digit_of hcc
            cases h
            have hne : d.1 ≠ 0 := by
              intro h0
              apply hc
              right; right
              refine ⟨by simp, ?_⟩
              simp only [List.getD_cons_zero]
              omega
            rw [he, he2, he3, show (10 * (10 * (10 * 0 + (d.1 : Int)) + (e.1 : Int)) + (f.1 : Int)) = 100 * (d.1 : Int) + 10 * (e.1 : Int) + (f.1 : Int) by omega, (itoa3 d e f).1 hne, hd, hd2, hd3]
    | a :: b :: c :: d :: r, h, hc => simp at hc

theorem index_no {p : UInt8} : ∀ {s : List UInt8}, (∀ x ∈ s, x ≠ p) → Lib.index s [p] = -1
  | [], _ => by simp [Lib.index, List.isPrefixOf]
  | b :: l, h => by
    have ih := index_no (s := l) (fun x hx => h x (List.mem_cons_of_mem _ hx))
    have hb : (p == b) = false := by rw [beq_eq_false_iff_ne]; exact fun e => h b (by simp) e.symm
    rw [Lib.index, ih]
    simp [List.isPrefixOf, hb]
/-- no slash: no prefix -/
theorem parsePV_no {s : List UInt8} (h : ∀ j, j < s.length → s.getD j 0 ≠ 47) : parsePV s = none := by
  have hc : (Lib.cut s [47]).2.1 = [] := by
    have hi := index_no (p := 47) (s := s) (fun x hx => by
      obtain ⟨j, hj, rfl⟩ := List.getElem_of_mem hx
      have := h j hj
      rwa [List.getD_eq_getElem?_getD, List.getElem?_eq_getElem hj] at this)
    unfold Lib.cut
    rw [hi]; rfl
  unfold parsePV
  rw [hc]
  rfl
/-- the first slash -/
theorem cut_slash {s : List UInt8} {i : Nat} (hi : i < s.length) (h47 : s[i] = 47) (hno : ∀ j, j < i → s.getD j 0 ≠ 47) : Lib.cut s [47] = (s.take i, s.drop (i + 1), true) := by
  have e : s = s.take i ++ 47 :: s.drop (i + 1) := by
    have := List.take_append_drop i s
    rw [List.drop_eq_getElem_cons hi, h47] at this
    exact this.symm
  have h2 := cut_one (p := 47) (s := s.take i) (s.drop (i + 1)) (fun x hx => by
    obtain ⟨j, hj, rfl⟩ := List.getElem_of_mem hx
    have hj' : j < i := by simp at hj; omega
    have := hno j hj'
    rw [List.getD_eq_getElem?_getD, List.getElem?_eq_getElem (by omega)] at this
    simpa using this)
  rwa [← e] at h2
/-- behind a slash: the prefix that is found at n -/
theorem parsePV_hit {s : List UInt8} {i n : Nat} {a : List Int} (hc : Lib.cut s [47] = (s.take i, s.drop (i + 1), true)) (ha : parseIPV (s.take i) = some a) (hn : n ≤ 128) (ht : Lib.itoa n = s.drop (i + 1)) : parsePV s = if validP a n then some (a, (n : Int)) else none := by
  unfold parsePV
  rw [hc]
  dsimp only
  rw [← ht, bits_itoa n (by omega) (by omega)]
  dsimp only
  rw [ha]
theorem parsePV_bad {s : List UInt8} {i : Nat} (hc : Lib.cut s [47] = (s.take i, s.drop (i + 1), true)) (ha : parseIPV (s.take i) = none) : parsePV s = none := by
  unfold parsePV
  rw [hc]
  dsimp only
  cases bitsV (s.drop (i + 1)) with
  | none => rfl
  | some n => dsimp only; rw [ha]
theorem parsePV_miss {s : List UInt8} {i : Nat} {a : List Int} (hc : Lib.cut s [47] = (s.take i, s.drop (i + 1), true)) (ha : parseIPV (s.take i) = some a) (hno : ∀ n : Nat, n ≤ 128 → ¬ (Lib.itoa n = s.drop (i + 1) ∧ validP a n = true)) : parsePV s = none := by
  unfold parsePV
  rw [hc]
  dsimp only
  cases hb : bitsV (s.drop (i + 1)) with
  | none => rfl
  | some n =>
    dsimp only
    rw [ha]
    dsimp only
    by_cases hv : validP a n = true
    · have hbd := validP_bd hv
      obtain ⟨k, rfl⟩ := Int.eq_ofNat_of_zero_le hbd.1
      exact absurd ⟨(bits_back hb).symm, hv⟩ (hno k (by omega))
    · rw [if_neg hv]
end Go.Proofs.YtadnpidadcgdcaaDoor

/-! W1 -/
/-
  The reference's group, text, hex, groups.
-/
namespace Go.Proofs.YtadnpidadcgdcaaDoor
set_option linter.unusedVariables false
set_option linter.unusedSimpArgs false
open Go.RowKit
attribute [local irreducible] OpTo wpListIn Code.wpIn MW Cal

theorem nth_ipN {a : List Int} (ha : IsIP a) {k : Nat} (hk : k < 16) {j : Int} (hj : j = k) : nth (ipC a) (0 + j.toNat * 1) = some (.int .u8 (a.getD k 0)) := by
  subst hj
  exact nth_ip (a := a) (i := k) (by rw [ha.len]; exact hk)
set_option maxHeartbeats 400000 in
theorem rgroup_c (a : List Int) (ha : IsIP a) (i : Nat) (hi : i < 8) (W : World) : Cal Tryd.prog 54 [.agg (ipC a).toArray, .int .i64 i].toArray W fun v w' => v = .int .i64 (grpAt a i) ∧ Ext [] W w' := by
  have n1 : nth (ipC a) (0 + (2 * (i : Int)).toNat * 1) = some (.int .u8 (a.getD (2 * i) 0)) := nth_ipN ha (by omega) (by omega)
  have n2 : nth (ipC a) (0 + (2 * (i : Int) + 1).toNat * 1) = some (.int .u8 (a.getD (2 * i + 1) 0)) := nth_ipN ha (by omega) (by omega)
  have g1 := ha.at_ (2 * i)
  have g2 := ha.at_ (2 * i + 1)
  refine fn_ofM (n := 18) [] Tryd.func54 rfl rfl rfl ?_
  intro a w F M hwW
  refine c_seq ?_
  refine c_region ?_
  (refine stepD rfl F rfl (o_box M (F.ev rfl) rfl ?_); clear F; clear M; intro b2 w M a F)
  refine stepD rfl F rfl (o_assign (F.ev rfl) ?_); clear F; clear a; intro a F
  with_reducible refine l_nil ?_
  with_reducible refine q_then ?_
  with_reducible refine c_seq ?_
  refine c_draw 13 F (by kernel_rfl) ?_
  intro w1 hE hok
  have M1 := M.later hE
  refine mK hok rfl rfl (fun a' w' F' E' => o_move (F'.ev rfl) ⟨Ext.refl _ _, rfl⟩) ?_
  refine mK hok rfl rfl (fun a' w' F' E' => o_mul (F'.ev rfl) (F'.ev rfl) (w_i64 (by omega) (by omega)) ⟨Ext.refl _ _, rfl⟩) ?_
  refine mK hok rfl rfl (fun a' w' F' E' => o_indexArr (F'.ev rfl) (F'.ev rfl) (by omega) (by omega) ⟨Ext.refl _ _, rfl⟩) ?_
  refine mK hok rfl rfl (fun a' w' F' E' => o_load1 (M1.later E') (F'.ev rfl) (by repeat (first | exact .here | apply Has.there)) (by first | assumption | rfl) ⟨Ext.refl _ _, rfl⟩) ?_
  refine mK hok rfl rfl (fun a' w' F' E' => o_conv (F'.ev rfl) (w_i64 (by omega) (by omega)) ⟨Ext.refl _ _, rfl⟩) ?_
  refine mK hok rfl rfl (fun a' w' F' E' => o_mul (F'.ev rfl) (F'.ev rfl) (w_i64 (by omega) (by omega)) ⟨Ext.refl _ _, rfl⟩) ?_
  refine mK hok rfl rfl (fun a' w' F' E' => o_move (F'.ev rfl) ⟨Ext.refl _ _, rfl⟩) ?_
  refine mK hok rfl rfl (fun a' w' F' E' => o_mul (F'.ev rfl) (F'.ev rfl) (w_i64 (by omega) (by omega)) ⟨Ext.refl _ _, rfl⟩) ?_
  refine mK hok rfl rfl (fun a' w' F' E' => o_add (F'.ev rfl) (F'.ev rfl) (w_i64 (by omega) (by omega)) ⟨Ext.refl _ _, rfl⟩) ?_
  refine mK hok rfl rfl (fun a' w' F' E' => o_indexArr (F'.ev rfl) (F'.ev rfl) (by omega) (by omega) ⟨Ext.refl _ _, rfl⟩) ?_
  refine mK hok rfl rfl (fun a' w' F' E' => o_load1 (M1.later E') (F'.ev rfl) (by repeat (first | exact .here | apply Has.there)) (by first | assumption | rfl) ⟨Ext.refl _ _, rfl⟩) ?_
  refine mK hok rfl rfl (fun a' w' F' E' => o_conv (F'.ev rfl) (w_i64 (by omega) (by omega)) ⟨Ext.refl _ _, rfl⟩) ?_
  refine mK hok rfl rfl (fun a' w' F' E' => o_add (F'.ev rfl) (F'.ev rfl) (w_i64 (by omega) (by omega)) ⟨Ext.refl _ _, rfl⟩) ?_
  (refine mDone rfl rfl ?_; clear F; clear M; intro a w F hE2 hX hTT hDD hPP; have M := M1.later hE2; clear M1; clear hX; clear hE2; clear hok; clear hE; clear hTT; clear hDD; clear hPP; (try dsimp only at F))
  refine stepD rfl F rfl (o_assign (F.ev rfl) ?_); clear F; clear a; intro a F
  with_reducible refine l_nil ?_
  with_reducible refine q_then ?_
  with_reducible refine c_ret ?_
  refine p_ret F rfl (.cons (.tmp (F.ev rfl)) .nil) ?_
  exact ⟨by unfold grpAt; simp only [oneOr]; congr 1; omega, M.ext⟩

def dig16 : List UInt8 := [48, 49, 50, 51, 52, 53, 54, 55, 56, 57, 97, 98, 99, 100, 101, 102]
theorem dig_cut {v : Nat} (h : v < 16) : (dig16.drop v).take (v + 1 - v) = txt [hexD v] := by
  have hall : ∀ q : Fin 16, (dig16.drop q.1).take (q.1 + 1 - q.1) = txt [hexD q.1] := by decide
  exact hall ⟨v, h⟩
theorem quo16 {v : Int} (h0 : 0 ≤ v) (h1 : v < 65536) : IntKind.i64.wrap (v.tdiv 16) = v / 16 := by
  rw [Int.tdiv_eq_ediv_of_nonneg h0, w_i64 (by omega) (by omega)]
theorem rem16 {v : Int} (h0 : 0 ≤ v) : v.tmod 16 = v % 16 := Int.tmod_eq_emod_of_nonneg h0
set_option maxHeartbeats 400000 in
theorem rtext0_c (v : Int) (h0 : 0 ≤ v) (h1 : v < 16) (W : World) : Cal Tryd.prog 55 [.int .i64 v].toArray W fun x w' => x = mkS (txt (hexI v)) ∧ Ext [] W w' := by
  obtain ⟨k, rfl⟩ := Int.eq_ofNat_of_zero_le h0
  refine fn_ofM (n := 19) [] Tryd.func55 rfl rfl rfl ?_
  intro a w F M hwW
  with_reducible refine c_seq ?_
  with_reducible refine c_region ?_
  refine stepD rfl F rfl (o_assign (F.ev rfl) ?_); clear F; clear a; intro a F
  with_reducible refine l_nil ?_
  with_reducible refine q_then ?_
  with_reducible refine c_seq ?_
  with_reducible refine c_seq ?_
  with_reducible refine c_region ?_
  refine stepD rfl F rfl (o_move (F.ev rfl) ?_); clear F; clear a; intro a F
  refine stepD rfl F rfl (o_lssT (F.ev rfl) (F.ev rfl) (by omega) ?_); clear F; clear a; intro a F
  with_reducible refine l_nil ?_
  with_reducible refine q_then ?_
  refine c_true F rfl rfl ?_
  with_reducible refine c_seq ?_
  with_reducible refine c_region ?_
  refine stepD rfl F rfl (o_move (F.ev rfl) ?_); clear F; clear a; intro a F
  refine stepD rfl F rfl (o_move (F.ev rfl) ?_); clear F; clear a; intro a F
  refine stepD rfl F rfl (o_add (F.ev rfl) (F.ev rfl) (w_i64 (by omega) (by omega)) ?_); clear F; clear a; intro a F
  (refine stepD rfl F rfl (s_lh (bs := dig16) (p := k) (q := k + 1) rfl (F.ev rfl) (F.ev rfl) rfl (by omega) (by omega) (by simp [dig16]; omega) ?_); clear F; clear a; intro a F)
  rw [dig_cut (by omega)] at F
  refine stepD rfl F rfl (o_assign (F.ev rfl) ?_); clear F; clear a; intro a F
  with_reducible refine l_nil ?_
  with_reducible refine q_then ?_
  with_reducible refine c_ret ?_
  with_reducible refine q_thenR ?_
  refine p_ret F rfl (.cons (.tmp (F.ev rfl)) .nil) ?_
  exact ⟨by rw [hexI_small h1]; rfl, M.ext⟩
set_option maxHeartbeats 400000 in
theorem rtext1_c (v : Int) (h0 : 16 ≤ v) (h1 : v < 65536) (W : World) (ih : ∀ w, Ext [] W w → Cal Tryd.prog 55 [.int .i64 (v / 16)].toArray w fun x w' => x = mkS (txt (hexI (v / 16))) ∧ Ext [] w w') : Cal Tryd.prog 55 [.int .i64 v].toArray W fun x w' => x = mkS (txt (hexI v)) ∧ Ext [] W w' := by
  obtain ⟨k, hk⟩ := Int.eq_ofNat_of_zero_le (show 0 ≤ v % 16 by omega)
  have hl := hexI_len (v / 16)
  refine fn_ofM (n := 19) [] Tryd.func55 rfl rfl rfl ?_
  intro a w F M hwW
  with_reducible refine c_seq ?_
  with_reducible refine c_region ?_
  refine stepD rfl F rfl (o_assign (F.ev rfl) ?_); clear F; clear a; intro a F
  with_reducible refine l_nil ?_
  with_reducible refine q_then ?_
  with_reducible refine c_seq ?_
  with_reducible refine c_seq ?_
  with_reducible refine c_region ?_
  refine stepD rfl F rfl (o_move (F.ev rfl) ?_); clear F; clear a; intro a F
  refine stepD rfl F rfl (o_lssF (F.ev rfl) (F.ev rfl) (by omega) ?_); clear F; clear a; intro a F
  with_reducible refine l_nil ?_
  with_reducible refine q_then ?_
  refine c_false F rfl rfl ?_
  with_reducible refine c_skip ?_
  with_reducible refine q_then ?_
  with_reducible refine c_seq ?_
  refine c_draw 10 F (by kernel_rfl) ?_
  intro w1 hE hok
  have M1 := M.later hE
  refine mK hok rfl rfl (fun a' w' F' E' => o_move (F'.ev rfl) ⟨Ext.refl _ _, rfl⟩) ?_
  (refine mK hok rfl rfl (fun a' w' F' E' => o_quo (F'.ev rfl) (F'.ev rfl) (by omega) (quo16 (by omega) h1) ⟨Ext.refl _ _, rfl⟩) ?_)
  (refine mK hok rfl rfl (fun a' w' F' E' => o_call (F'.ev rfl) (F'.evs rfl) (Cal.mono (ih _ (M1.ext.trans E')) fun _ _ hh => ⟨hh.2, hh.1⟩)) ?_)
  refine mK hok rfl rfl (fun a' w' F' E' => o_move (F'.ev rfl) ⟨Ext.refl _ _, rfl⟩) ?_
  (refine mK hok rfl rfl (fun a' w' F' E' => o_rem (F'.ev rfl) (F'.ev rfl) (by omega) ((rem16 (by omega)).trans hk) ⟨Ext.refl _ _, rfl⟩) ?_)
  refine mK hok rfl rfl (fun a' w' F' E' => o_move (F'.ev rfl) ⟨Ext.refl _ _, rfl⟩) ?_
  (refine mK hok rfl rfl (fun a' w' F' E' => o_rem (F'.ev rfl) (F'.ev rfl) (by omega) ((rem16 (by omega)).trans hk) ⟨Ext.refl _ _, rfl⟩) ?_)
  refine mK hok rfl rfl (fun a' w' F' E' => o_add (F'.ev rfl) (F'.ev rfl) (w_i64 (by omega) (by omega)) ⟨Ext.refl _ _, rfl⟩) ?_
  (refine mK hok rfl rfl (fun a' w' F' E' => s_lh (bs := dig16) (p := k) (q := k + 1) rfl (F'.ev rfl) (F'.ev rfl) rfl (by omega) (by omega) (by simp [dig16]; omega) ⟨Ext.refl _ _, rfl⟩) ?_)
  rw [dig_cut (v := k) (by omega)]
  (refine mK hok rfl rfl (fun a' w' F' E' => s_add (F'.ev rfl) (F'.ev rfl) (by simp [txt]; omega) ⟨Ext.refl _ _, rfl⟩) ?_)
  skip
  (refine mDone rfl rfl ?_; clear F; clear M; intro a w F hE2 hX hTT hDD hPP; have M := M1.later hE2; clear M1; clear hX; clear hE2; clear hok; clear hE; clear hTT; clear hDD; clear hPP; (try dsimp only at F))
  refine stepD rfl F rfl (o_assign (F.ev rfl) ?_); clear F; clear a; intro a F
  with_reducible refine l_nil ?_
  with_reducible refine q_then ?_
  with_reducible refine c_ret ?_
  refine p_ret F rfl (.cons (.tmp (F.ev rfl)) .nil) ?_
  exact ⟨by rw [hexI_step h0 h1, hk]; simp [oneOr, txt], M.ext⟩
theorem rtext_c (v : Int) (h0 : 0 ≤ v) (h1 : v < 65536) (W : World) : Cal Tryd.prog 55 [.int .i64 v].toArray W fun x w' => x = mkS (txt (hexI v)) ∧ Ext [] W w' := by
  have h : ∀ n : Nat, ∀ v : Int, 0 ≤ v → v < 65536 → v < 16 ^ n → ∀ W, Cal Tryd.prog 55 [.int .i64 v].toArray W fun x w' => x = mkS (txt (hexI v)) ∧ Ext [] W w' := by
    intro n
    induction n with
    | zero => intro v h0 _ h1 W; exact rtext0_c v h0 (by omega) W
    | succ n ih =>
      intro v h0 h1 h2 W
      by_cases h : v < 16
      · exact rtext0_c v h0 h W
      · exact rtext1_c v (by omega) h1 W fun w _ => ih (v / 16) (by omega) (by omega) (by rw [Int.pow_succ] at h2; omega) w
  exact h 4 v h0 h1 h1 W

set_option maxHeartbeats 400000 in
theorem rhex_c (c : Int) (h0 : 0 ≤ c) (h1 : c ≤ 255) (W : World) :
    Cal Tryd.prog 83 [.int .u8 c].toArray W fun v w' => v = .int .i64 ((digV c).getD (-1)) ∧ Ext [] W w' := by
  have hcase : c < 48 ∨ (48 ≤ c ∧ c ≤ 57) ∨ (57 < c ∧ c < 65) ∨ (65 ≤ c ∧ c ≤ 70) ∨ (70 < c ∧ c < 97) ∨ (97 ≤ c ∧ c ≤ 102) ∨ 102 < c := by omega
  rcases hcase with h | h | h | h | h | h | h
  all_goals
    refine fn_ofM (n := 35) [] Tryd.func83 rfl rfl rfl ?_
    intro a w F M hwW
    repeat (first | (with_reducible refine c_seq ?_) | (with_reducible refine c_region ?_) | (with_reducible refine l_nil ?_) | (with_reducible refine q_then ?_) | (with_reducible refine c_block ?_) | (with_reducible refine c_skip ?_) | (with_reducible refine q_inB ?_) | (with_reducible refine c_ret ?_) | (with_reducible refine q_thenR ?_) | (with_reducible refine q_inBR ?_) | (refine c_true F rfl rfl ?_) | (refine c_false F rfl rfl ?_) | (refine stepD rfl F rfl (o_move (F.ev rfl) ?_); clear F; clear a; intro a F) | (refine stepD rfl F rfl (o_assign (F.ev rfl) ?_); clear F; clear a; intro a F) | (refine stepD rfl F rfl (o_geqT (F.ev rfl) (F.ev rfl) (by omega) ?_); clear F; clear a; intro a F) | (refine stepD rfl F rfl (o_geqF (F.ev rfl) (F.ev rfl) (by omega) ?_); clear F; clear a; intro a F) | (refine stepD rfl F rfl (o_add (F.ev rfl) (F.ev rfl) (w_i64 (by omega) (by omega)) ?_); clear F; clear a; intro a F) | (refine stepD rfl F rfl (o_sub (F.ev rfl) (F.ev rfl) (w_u8 (by omega) (by omega)) ?_); clear F; clear a; intro a F) | (refine stepD rfl F rfl (o_conv (F.ev rfl) (w_i64 (by omega) (by omega)) ?_); clear F; clear a; intro a F) | (refine stepD rfl F rfl (o_pickT (F.ev rfl) (F.ev rfl) ?_); clear F; clear a; intro a F) | (refine stepD rfl F rfl (o_pickF (F.ev rfl) (F.ev rfl) ?_); clear F; clear a; intro a F) | (refine stepOff F rfl rfl rfl rfl ?_; clear F; clear a; intro a F) | (refine stepG rfl F rfl rfl rfl (o_move (F.ev rfl) ?_); clear F; clear a; intro a F) | (refine stepG rfl F rfl rfl rfl (o_leqT (F.ev rfl) (F.ev rfl) (by omega) ?_); clear F; clear a; intro a F) | (refine stepG rfl F rfl rfl rfl (o_leqF (F.ev rfl) (F.ev rfl) (by omega) ?_); clear F; clear a; intro a F))
    refine p_ret F rfl (.cons (.tmp (F.ev rfl)) .nil) ⟨?_, M.ext⟩
    simp only [digV, oneOr]
  · rw [if_neg (by omega), if_neg (by omega), if_neg (by omega)]; rfl
  · rw [if_pos (by omega)]; rfl
  · rw [if_neg (by omega), if_neg (by omega), if_neg (by omega)]; rfl
  · rw [if_neg (by omega), if_neg (by omega), if_pos (by omega)]; simp; omega
  · rw [if_neg (by omega), if_neg (by omega), if_neg (by omega)]; rfl
  · rw [if_neg (by omega), if_pos (by omega)]; simp; omega
  · rw [if_neg (by omega), if_neg (by omega), if_neg (by omega)]; rfl

set_option maxHeartbeats 2000000 in
theorem rgroups_c (s : List UInt8) (hs : s.length ≤ 4294967296) (W : World) : Cal Tryd.prog 60 [mkS s].toArray W fun v w' => ∃ sv ent, v = .tuple #[sv, .bool (rgV s).isSome] ∧ OwnS 3 1 sv ((rgV s).getD []).length (((rgV s).getD []).map (Value.int .i64)) ent ∧ Mem [] W w' ent := by
  by_cases hne : s = []
  · subst hne
    refine fn_ofM (n := 54) [] Tryd.func60 rfl rfl rfl ?_
    intro a w F M hwW
    with_reducible refine c_seq ?_
    with_reducible refine c_region ?_
    refine stepD rfl F rfl (o_assign (F.ev rfl) ?_); clear F; clear a; intro a F
    refine stepD rfl F rfl (o_assign (F.ev rfl) ?_); clear F; clear a; intro a F
    with_reducible refine l_nil ?_
    with_reducible refine q_then ?_
    with_reducible refine c_seq ?_
    with_reducible refine c_region ?_
    refine stepD rfl F rfl (o_assign (F.ev rfl) ?_); clear F; clear a; intro a F
    with_reducible refine l_nil ?_
    with_reducible refine q_then ?_
    with_reducible refine c_seq ?_
    with_reducible refine c_seq ?_
    with_reducible refine c_region ?_
    refine stepD rfl F rfl (o_move (F.ev rfl) ?_); clear F; clear a; intro a F
    refine stepD rfl F rfl (s_eql (F.ev rfl) (F.ev rfl) ?_); clear F; clear a; intro a F
    with_reducible refine l_nil ?_
    with_reducible refine q_then ?_
    refine c_true F rfl rfl ?_
    with_reducible refine c_seq ?_
    with_reducible refine c_region ?_
    refine stepD rfl F rfl (o_assign (F.ev rfl) ?_); clear F; clear a; intro a F
    refine stepD rfl F rfl (o_assign (F.ev rfl) ?_); clear F; clear a; intro a F
    with_reducible refine l_nil ?_
    with_reducible refine q_then ?_
    with_reducible refine c_ret ?_
    with_reducible refine q_thenR ?_
    refine p_ret F rfl (.cons (.tmp (F.ev rfl)) (.cons (.tmp (F.ev rfl)) .nil)) ?_
    exact ⟨_, [], rfl, OwnS.nil _ _, M.sub (List.nil_sublist _)⟩
  · have hrv : rgV s = rgGo s [] 0 0 := by unfold rgV; rw [if_neg hne]
    rw [hrv]
    have hb : (s == ([] : List UInt8)) = false := by cases s with | nil => exact absurd rfl hne | cons => rfl
    refine fn_ofM (n := 54) [] Tryd.func60 rfl rfl rfl ?_
    intro a w F M hwW
    with_reducible refine c_seq ?_
    with_reducible refine c_region ?_
    refine stepD rfl F rfl (o_assign (F.ev rfl) ?_); clear F; clear a; intro a F
    refine stepD rfl F rfl (o_assign (F.ev rfl) ?_); clear F; clear a; intro a F
    with_reducible refine l_nil ?_
    with_reducible refine q_then ?_
    with_reducible refine c_seq ?_
    with_reducible refine c_region ?_
    refine stepD rfl F rfl (o_assign (F.ev rfl) ?_); clear F; clear a; intro a F
    with_reducible refine l_nil ?_
    with_reducible refine q_then ?_
    with_reducible refine c_seq ?_
    with_reducible refine c_seq ?_
    with_reducible refine c_region ?_
    refine stepD rfl F rfl (o_move (F.ev rfl) ?_); clear F; clear a; intro a F
    refine stepD rfl F rfl (s_eql (F.ev rfl) (F.ev rfl) ?_); clear F; clear a; intro a F
    with_reducible refine l_nil ?_
    with_reducible refine q_then ?_
    rw [hb] at F
    refine c_false F rfl rfl ?_
    with_reducible refine c_skip ?_
    with_reducible refine q_then ?_
    with_reducible refine c_seq ?_
    with_reducible refine c_region ?_
    refine stepD rfl F rfl (o_assign (F.ev rfl) ?_); clear F; clear a; intro a F
    refine stepD rfl F rfl (o_assign (F.ev rfl) ?_); clear F; clear a; intro a F
    with_reducible refine l_nil ?_
    with_reducible refine q_then ?_
    with_reducible refine c_seq ?_
    with_reducible refine c_seq ?_
    with_reducible refine c_region ?_
    refine stepD rfl F rfl (o_assign (F.ev rfl) ?_); clear F; clear a; intro a F
    with_reducible refine l_nil ?_
    with_reducible refine q_then ?_
    with_reducible refine c_block ?_
    refine c_loop (fun k a w => ∃ (i n : Nat) (v : Int) (out : List Int) (sv : Value) (ent : List (Nat × Obj)), k = s.length + 2 - i ∧ n ≤ 4 ∧ (0 ≤ v ∧ v < 65536) ∧ out.length ≤ i ∧ ((i ≤ s.length ∧ rgGo (s.drop i) out n v = rgGo s [] 0 0) ∨ (i = s.length + 1 ∧ rgGo s [] 0 0 = some out)) ∧ (n ≤ 4 → v < 16 ^ n) ∧ OwnS 3 1 sv out.length (out.map (Value.int .i64)) ent ∧ Frm a 54 [] [(7, .int .i64 i), (6, .int .i64 v), (5, .int .i64 n), (4, sv), (0, mkS s)] ∧ Mem [] W w ent) (s.length + 2) ⟨0, 0, 0, [], _, [], rfl, by omega, by omega, by simp, .inl ⟨by omega, rfl⟩, fun _ => by decide, OwnS.nil _ _, F.only [7, 6, 5, 4, 0] rfl, M⟩ ?_
    clear F M
    rintro k a w ⟨i, n, v, out, sv, ent, hk, hn, hv, hol, hinv, hvn, hO, F, M⟩
    obtain ⟨sp, sc, rfl⟩ := hO.slice
    rcases hinv with ⟨hi, hinv⟩ | ⟨rfl, hinv⟩
    rotate_left
    · rw [hinv]
      with_reducible refine c_seq ?_
      with_reducible refine c_seq ?_
      with_reducible refine c_region ?_
      refine stepD rfl F rfl (o_move (F.ev rfl) ?_); clear F; clear a; intro a F
      refine stepD rfl F rfl (o_move (F.ev rfl) ?_); clear F; clear a; intro a F
      refine stepD rfl F rfl (s_len (F.ev rfl) ?_); clear F; clear a; intro a F
      refine stepD rfl F rfl (o_leqF (F.ev rfl) (F.ev rfl) (by omega) ?_); clear F; clear a; intro a F
      with_reducible refine l_nil ?_
      with_reducible refine q_then ?_
      refine c_false F rfl rfl ?_
      with_reducible refine c_exit ?_
      with_reducible refine q_thenX ?_
      with_reducible refine q_thenX ?_
      with_reducible refine q_inBX ?_
      with_reducible refine q_then ?_
      with_reducible refine c_seq ?_
      with_reducible refine c_region ?_
      refine stepD rfl F rfl (o_move (F.ev rfl) ?_); clear F; clear a; intro a F
      refine stepD rfl F rfl (o_assign (F.ev rfl) ?_); clear F; clear a; intro a F
      refine stepD rfl F rfl (o_assign (F.ev rfl) ?_); clear F; clear a; intro a F
      with_reducible refine l_nil ?_
      with_reducible refine q_then ?_
      with_reducible refine c_ret ?_
      refine p_ret F rfl (.cons (.tmp (F.ev rfl)) (.cons (.tmp (F.ev rfl)) .nil)) ?_
      exact ⟨_, ent, rfl, hO, M⟩
    by_cases hend : i = s.length
    · subst hend
      rw [List.drop_length] at hinv
      simp only [rgGo] at hinv
      by_cases hbad : n < 1 ∨ 4 < n
      · rw [if_pos hbad] at hinv
        rw [← hinv]
        have hn0 : n = 0 := by omega
        subst hn0
        with_reducible refine c_seq ?_
        with_reducible refine c_seq ?_
        with_reducible refine c_region ?_
        refine stepD rfl F rfl (o_move (F.ev rfl) ?_); clear F; clear a; intro a F
        refine stepD rfl F rfl (o_move (F.ev rfl) ?_); clear F; clear a; intro a F
        refine stepD rfl F rfl (s_len (F.ev rfl) ?_); clear F; clear a; intro a F
        refine stepD rfl F rfl (o_leqT (F.ev rfl) (F.ev rfl) (by omega) ?_); clear F; clear a; intro a F
        with_reducible refine l_nil ?_
        with_reducible refine q_then ?_
        refine c_true F rfl rfl ?_
        with_reducible refine c_skip ?_
        with_reducible refine q_then ?_
        with_reducible refine c_seq ?_
        with_reducible refine c_block ?_
        with_reducible refine c_seq ?_
        with_reducible refine c_seq ?_
        with_reducible refine c_region ?_
        refine stepD rfl F rfl (o_move (F.ev rfl) ?_); clear F; clear a; intro a F
        refine stepD rfl F rfl (o_move (F.ev rfl) ?_); clear F; clear a; intro a F
        refine stepD rfl F rfl (s_len (F.ev rfl) ?_); clear F; clear a; intro a F
        refine stepD rfl F rfl (o_eqlT (F.ev rfl) (F.ev rfl) (by omega) ?_); clear F; clear a; intro a F
        refine stepD rfl F rfl (o_move (F.ev rfl) ?_); clear F; clear a; intro a F
        refine stepOff F rfl rfl rfl rfl ?_; clear F; clear a; intro a F
        refine stepOff F rfl rfl rfl rfl ?_; clear F; clear a; intro a F
        refine stepOff F rfl rfl rfl rfl ?_; clear F; clear a; intro a F
        refine stepOff F rfl rfl rfl rfl ?_; clear F; clear a; intro a F
        refine stepD rfl F rfl (o_pickT (F.ev rfl) (F.ev rfl) ?_); clear F; clear a; intro a F
        with_reducible refine l_nil ?_
        with_reducible refine q_then ?_
        refine c_true F rfl rfl ?_
        with_reducible refine c_seq ?_
        with_reducible refine c_seq ?_
        with_reducible refine c_region ?_
        refine stepD rfl F rfl (o_move (F.ev rfl) ?_); clear F; clear a; intro a F
        refine stepD rfl F rfl (o_lssT (F.ev rfl) (F.ev rfl) (by omega) ?_); clear F; clear a; intro a F
        refine stepD rfl F rfl (o_move (F.ev rfl) ?_); clear F; clear a; intro a F
        refine stepOff F rfl rfl rfl rfl ?_; clear F; clear a; intro a F
        refine stepOff F rfl rfl rfl rfl ?_; clear F; clear a; intro a F
        refine stepD rfl F rfl (o_pickT (F.ev rfl) (F.ev rfl) ?_); clear F; clear a; intro a F
        with_reducible refine l_nil ?_
        with_reducible refine q_then ?_
        refine c_true F rfl rfl ?_
        with_reducible refine c_seq ?_
        with_reducible refine c_region ?_
        refine stepD rfl F rfl (o_assign (F.ev rfl) ?_); clear F; clear a; intro a F
        refine stepD rfl F rfl (o_assign (F.ev rfl) ?_); clear F; clear a; intro a F
        with_reducible refine l_nil ?_
        with_reducible refine q_then ?_
        with_reducible refine c_ret ?_
        with_reducible refine q_thenR ?_
        with_reducible refine q_thenR ?_
        with_reducible refine q_inBR ?_
        with_reducible refine q_thenR ?_
        with_reducible refine q_thenR ?_
        with_reducible refine q_inBR ?_
        with_reducible refine q_thenR ?_
        refine p_ret F rfl (.cons (.tmp (F.ev rfl)) (.cons (.tmp (F.ev rfl)) .nil)) ?_
        exact ⟨_, [], rfl, OwnS.nil _ _, M.sub (List.nil_sublist _)⟩
      · rw [if_neg hbad] at hinv
        with_reducible refine c_seq ?_
        with_reducible refine c_seq ?_
        with_reducible refine c_region ?_
        refine stepD rfl F rfl (o_move (F.ev rfl) ?_); clear F; clear a; intro a F
        refine stepD rfl F rfl (o_move (F.ev rfl) ?_); clear F; clear a; intro a F
        refine stepD rfl F rfl (s_len (F.ev rfl) ?_); clear F; clear a; intro a F
        refine stepD rfl F rfl (o_leqT (F.ev rfl) (F.ev rfl) (by omega) ?_); clear F; clear a; intro a F
        with_reducible refine l_nil ?_
        with_reducible refine q_then ?_
        refine c_true F rfl rfl ?_
        with_reducible refine c_skip ?_
        with_reducible refine q_then ?_
        with_reducible refine c_seq ?_
        with_reducible refine c_block ?_
        with_reducible refine c_seq ?_
        with_reducible refine c_seq ?_
        with_reducible refine c_region ?_
        refine stepD rfl F rfl (o_move (F.ev rfl) ?_); clear F; clear a; intro a F
        refine stepD rfl F rfl (o_move (F.ev rfl) ?_); clear F; clear a; intro a F
        refine stepD rfl F rfl (s_len (F.ev rfl) ?_); clear F; clear a; intro a F
        refine stepD rfl F rfl (o_eqlT (F.ev rfl) (F.ev rfl) (by omega) ?_); clear F; clear a; intro a F
        refine stepD rfl F rfl (o_move (F.ev rfl) ?_); clear F; clear a; intro a F
        refine stepOff F rfl rfl rfl rfl ?_; clear F; clear a; intro a F
        refine stepOff F rfl rfl rfl rfl ?_; clear F; clear a; intro a F
        refine stepOff F rfl rfl rfl rfl ?_; clear F; clear a; intro a F
        refine stepOff F rfl rfl rfl rfl ?_; clear F; clear a; intro a F
        refine stepD rfl F rfl (o_pickT (F.ev rfl) (F.ev rfl) ?_); clear F; clear a; intro a F
        with_reducible refine l_nil ?_
        with_reducible refine q_then ?_
        refine c_true F rfl rfl ?_
        with_reducible refine c_seq ?_
        with_reducible refine c_seq ?_
        with_reducible refine c_region ?_
        refine stepD rfl F rfl (o_move (F.ev rfl) ?_); clear F; clear a; intro a F
        refine stepD rfl F rfl (o_lssF (F.ev rfl) (F.ev rfl) (by omega) ?_); clear F; clear a; intro a F
        refine stepD rfl F rfl (o_move (F.ev rfl) ?_); clear F; clear a; intro a F
        refine stepG rfl F rfl rfl rfl (o_move (F.ev rfl) ?_); clear F; clear a; intro a F
        refine stepG rfl F rfl rfl rfl (o_gtrF (F.ev rfl) (F.ev rfl) (by omega) ?_); clear F; clear a; intro a F
        refine stepD rfl F rfl (o_pickF (F.ev rfl) (F.ev rfl) ?_); clear F; clear a; intro a F
        with_reducible refine l_nil ?_
        with_reducible refine q_then ?_
        refine c_false F rfl rfl ?_
        with_reducible refine c_skip ?_
        with_reducible refine q_then ?_
        with_reducible refine c_seq ?_
        with_reducible refine c_region ?_
        refine stepD rfl F rfl (o_move (F.ev rfl) ?_); clear F; clear a; intro a F
        refine stepD rfl F rfl (o_move (F.ev rfl) ?_); clear F; clear a; intro a F
        (refine stepD rfl F rfl (o_buildSlice F M rfl rfl rfl rfl ?_); clear F; clear M; intro b35 w M a F)
        (refine stepD rfl F rfl (o_append hO M (.cons .here) (F.ev rfl) (F.ev rfl) (SrcOf.cells' (M.heap .here) rfl rfl) (by first | omega | (simp; omega)) (by first | omega | (simp; omega)) ?_); clear F; clear M; clear hO; intro v2 ent2 w hO M a F; (try dsimp only at M))
        obtain ⟨sp2, sc2, rfl⟩ := hO.slice
        refine stepD rfl F rfl (o_assign (F.ev rfl) ?_); clear F; clear a; intro a F
        with_reducible refine l_nil ?_
        with_reducible refine q_then ?_
        with_reducible refine c_seq ?_
        with_reducible refine c_region ?_
        refine stepD rfl F rfl (o_assign (F.ev rfl) ?_); clear F; clear a; intro a F
        refine stepD rfl F rfl (o_assign (F.ev rfl) ?_); clear F; clear a; intro a F
        with_reducible refine l_nil ?_
        with_reducible refine q_then ?_
        with_reducible refine c_exit ?_
        with_reducible refine q_thenX ?_
        with_reducible refine q_inBX ?_
        with_reducible refine q_then ?_
        with_reducible refine c_region ?_
        refine stepD rfl F rfl (o_move (F.ev rfl) ?_); clear F; clear a; intro a F
        refine stepD rfl F rfl (o_add (F.ev rfl) (F.ev rfl) (w_i64 (by omega) (by omega)) ?_); clear F; clear a; intro a F
        refine stepD rfl F rfl (o_assign (F.ev rfl) ?_); clear F; clear a; intro a F
        with_reducible refine l_nil ?_
        with_reducible refine q_then ?_
        refine ⟨_, by omega, s.length + 1, 0, 0, out ++ [v], .slice sp2 (out.length + 1) sc2, ent2, rfl, by omega, by omega, by simp; omega, .inr ⟨rfl, hinv.symm⟩, fun _ => by decide, ?_, F.only [7, 6, 5, 4, 0] rfl, M.sub (List.sublist_cons_self _ _)⟩
        simpa using hO
    · have hlt : i < s.length := by omega
      rw [List.drop_eq_getElem_cons hlt] at hinv
      have hcb := byte_lt s[i]
      simp only [rgGo] at hinv
      by_cases hc : s[i] = 58
      · have hc2 : (s[i].toNat : Int) = 58 := by rw [hc]; rfl
        rw [if_pos hc] at hinv
        by_cases hbad : n < 1 ∨ 4 < n
        · rw [if_pos hbad] at hinv
          rw [← hinv]
          have hn0 : n = 0 := by omega
          subst hn0
          with_reducible refine c_seq ?_
          with_reducible refine c_seq ?_
          with_reducible refine c_region ?_
          refine stepD rfl F rfl (o_move (F.ev rfl) ?_); clear F; clear a; intro a F
          refine stepD rfl F rfl (o_move (F.ev rfl) ?_); clear F; clear a; intro a F
          refine stepD rfl F rfl (s_len (F.ev rfl) ?_); clear F; clear a; intro a F
          refine stepD rfl F rfl (o_leqT (F.ev rfl) (F.ev rfl) (by omega) ?_); clear F; clear a; intro a F
          with_reducible refine l_nil ?_
          with_reducible refine q_then ?_
          refine c_true F rfl rfl ?_
          with_reducible refine c_skip ?_
          with_reducible refine q_then ?_
          with_reducible refine c_seq ?_
          with_reducible refine c_block ?_
          with_reducible refine c_seq ?_
          with_reducible refine c_seq ?_
          with_reducible refine c_region ?_
          refine stepD rfl F rfl (o_move (F.ev rfl) ?_); clear F; clear a; intro a F
          refine stepD rfl F rfl (o_move (F.ev rfl) ?_); clear F; clear a; intro a F
          refine stepD rfl F rfl (s_len (F.ev rfl) ?_); clear F; clear a; intro a F
          refine stepD rfl F rfl (o_eqlF (F.ev rfl) (F.ev rfl) (by omega) ?_); clear F; clear a; intro a F
          refine stepD rfl F rfl (o_move (F.ev rfl) ?_); clear F; clear a; intro a F
          refine stepG rfl F rfl rfl rfl (o_move (F.ev rfl) ?_); clear F; clear a; intro a F
          refine stepG rfl F rfl rfl rfl (o_move (F.ev rfl) ?_); clear F; clear a; intro a F
          refine stepG rfl F rfl rfl rfl (s_idx (F.ev rfl) (F.ev rfl) rfl (by omega) ?_); clear F; clear a; intro a F
          refine stepG rfl F rfl rfl rfl (o_eqlT (F.ev rfl) (F.ev rfl) (by omega) ?_); clear F; clear a; intro a F
          refine stepD rfl F rfl (o_pickF (F.ev rfl) (F.ev rfl) ?_); clear F; clear a; intro a F
          with_reducible refine l_nil ?_
          with_reducible refine q_then ?_
          refine c_true F rfl rfl ?_
          with_reducible refine c_seq ?_
          with_reducible refine c_seq ?_
          with_reducible refine c_region ?_
          refine stepD rfl F rfl (o_move (F.ev rfl) ?_); clear F; clear a; intro a F
          refine stepD rfl F rfl (o_lssT (F.ev rfl) (F.ev rfl) (by omega) ?_); clear F; clear a; intro a F
          refine stepD rfl F rfl (o_move (F.ev rfl) ?_); clear F; clear a; intro a F
          refine stepOff F rfl rfl rfl rfl ?_; clear F; clear a; intro a F
          refine stepOff F rfl rfl rfl rfl ?_; clear F; clear a; intro a F
          refine stepD rfl F rfl (o_pickT (F.ev rfl) (F.ev rfl) ?_); clear F; clear a; intro a F
          with_reducible refine l_nil ?_
          with_reducible refine q_then ?_
          refine c_true F rfl rfl ?_
          with_reducible refine c_seq ?_
          with_reducible refine c_region ?_
          refine stepD rfl F rfl (o_assign (F.ev rfl) ?_); clear F; clear a; intro a F
          refine stepD rfl F rfl (o_assign (F.ev rfl) ?_); clear F; clear a; intro a F
          with_reducible refine l_nil ?_
          with_reducible refine q_then ?_
          with_reducible refine c_ret ?_
          with_reducible refine q_thenR ?_
          with_reducible refine q_thenR ?_
          with_reducible refine q_inBR ?_
          with_reducible refine q_thenR ?_
          with_reducible refine q_thenR ?_
          with_reducible refine q_inBR ?_
          with_reducible refine q_thenR ?_
          refine p_ret F rfl (.cons (.tmp (F.ev rfl)) (.cons (.tmp (F.ev rfl)) .nil)) ?_
          exact ⟨_, [], rfl, OwnS.nil _ _, M.sub (List.nil_sublist _)⟩
        · rw [if_neg hbad] at hinv
          with_reducible refine c_seq ?_
          with_reducible refine c_seq ?_
          with_reducible refine c_region ?_
          refine stepD rfl F rfl (o_move (F.ev rfl) ?_); clear F; clear a; intro a F
          refine stepD rfl F rfl (o_move (F.ev rfl) ?_); clear F; clear a; intro a F
          refine stepD rfl F rfl (s_len (F.ev rfl) ?_); clear F; clear a; intro a F
          refine stepD rfl F rfl (o_leqT (F.ev rfl) (F.ev rfl) (by omega) ?_); clear F; clear a; intro a F
          with_reducible refine l_nil ?_
          with_reducible refine q_then ?_
          refine c_true F rfl rfl ?_
          with_reducible refine c_skip ?_
          with_reducible refine q_then ?_
          with_reducible refine c_seq ?_
          with_reducible refine c_block ?_
          with_reducible refine c_seq ?_
          with_reducible refine c_seq ?_
          with_reducible refine c_region ?_
          refine stepD rfl F rfl (o_move (F.ev rfl) ?_); clear F; clear a; intro a F
          refine stepD rfl F rfl (o_move (F.ev rfl) ?_); clear F; clear a; intro a F
          refine stepD rfl F rfl (s_len (F.ev rfl) ?_); clear F; clear a; intro a F
          refine stepD rfl F rfl (o_eqlF (F.ev rfl) (F.ev rfl) (by omega) ?_); clear F; clear a; intro a F
          refine stepD rfl F rfl (o_move (F.ev rfl) ?_); clear F; clear a; intro a F
          refine stepG rfl F rfl rfl rfl (o_move (F.ev rfl) ?_); clear F; clear a; intro a F
          refine stepG rfl F rfl rfl rfl (o_move (F.ev rfl) ?_); clear F; clear a; intro a F
          refine stepG rfl F rfl rfl rfl (s_idx (F.ev rfl) (F.ev rfl) rfl (by omega) ?_); clear F; clear a; intro a F
          refine stepG rfl F rfl rfl rfl (o_eqlT (F.ev rfl) (F.ev rfl) (by omega) ?_); clear F; clear a; intro a F
          refine stepD rfl F rfl (o_pickF (F.ev rfl) (F.ev rfl) ?_); clear F; clear a; intro a F
          with_reducible refine l_nil ?_
          with_reducible refine q_then ?_
          refine c_true F rfl rfl ?_
          with_reducible refine c_seq ?_
          with_reducible refine c_seq ?_
          with_reducible refine c_region ?_
          refine stepD rfl F rfl (o_move (F.ev rfl) ?_); clear F; clear a; intro a F
          refine stepD rfl F rfl (o_lssF (F.ev rfl) (F.ev rfl) (by omega) ?_); clear F; clear a; intro a F
          refine stepD rfl F rfl (o_move (F.ev rfl) ?_); clear F; clear a; intro a F
          refine stepG rfl F rfl rfl rfl (o_move (F.ev rfl) ?_); clear F; clear a; intro a F
          refine stepG rfl F rfl rfl rfl (o_gtrF (F.ev rfl) (F.ev rfl) (by omega) ?_); clear F; clear a; intro a F
          refine stepD rfl F rfl (o_pickF (F.ev rfl) (F.ev rfl) ?_); clear F; clear a; intro a F
          with_reducible refine l_nil ?_
          with_reducible refine q_then ?_
          refine c_false F rfl rfl ?_
          with_reducible refine c_skip ?_
          with_reducible refine q_then ?_
          with_reducible refine c_seq ?_
          with_reducible refine c_region ?_
          refine stepD rfl F rfl (o_move (F.ev rfl) ?_); clear F; clear a; intro a F
          refine stepD rfl F rfl (o_move (F.ev rfl) ?_); clear F; clear a; intro a F
          (refine stepD rfl F rfl (o_buildSlice F M rfl rfl rfl rfl ?_); clear F; clear M; intro b35 w M a F)
          (refine stepD rfl F rfl (o_append hO M (.cons .here) (F.ev rfl) (F.ev rfl) (SrcOf.cells' (M.heap .here) rfl rfl) (by first | omega | (simp; omega)) (by first | omega | (simp; omega)) ?_); clear F; clear M; clear hO; intro v2 ent2 w hO M a F; (try dsimp only at M))
          obtain ⟨sp2, sc2, rfl⟩ := hO.slice
          refine stepD rfl F rfl (o_assign (F.ev rfl) ?_); clear F; clear a; intro a F
          with_reducible refine l_nil ?_
          with_reducible refine q_then ?_
          with_reducible refine c_seq ?_
          with_reducible refine c_region ?_
          refine stepD rfl F rfl (o_assign (F.ev rfl) ?_); clear F; clear a; intro a F
          refine stepD rfl F rfl (o_assign (F.ev rfl) ?_); clear F; clear a; intro a F
          with_reducible refine l_nil ?_
          with_reducible refine q_then ?_
          with_reducible refine c_exit ?_
          with_reducible refine q_thenX ?_
          with_reducible refine q_inBX ?_
          with_reducible refine q_then ?_
          with_reducible refine c_region ?_
          refine stepD rfl F rfl (o_move (F.ev rfl) ?_); clear F; clear a; intro a F
          refine stepD rfl F rfl (o_add (F.ev rfl) (F.ev rfl) (w_i64 (by omega) (by omega)) ?_); clear F; clear a; intro a F
          refine stepD rfl F rfl (o_assign (F.ev rfl) ?_); clear F; clear a; intro a F
          with_reducible refine l_nil ?_
          with_reducible refine q_then ?_
          refine ⟨_, by omega, i + 1, 0, 0, out ++ [v], .slice sp2 (out.length + 1) sc2, ent2, rfl, by omega, by omega, by simp; omega, .inl ⟨by omega, hinv⟩, fun _ => by decide, ?_, F.only [7, 6, 5, 4, 0] rfl, M.sub (List.sublist_cons_self _ _)⟩
          simpa using hO
      · have hc2 : ¬ (s[i].toNat : Int) = 58 := fun h => hc (UInt8.toNat_inj.1 (show s[i].toNat = (58 : UInt8).toNat by have : (58 : UInt8).toNat = 58 := rfl; omega))
        rw [if_neg hc] at hinv
        with_reducible refine c_seq ?_
        with_reducible refine c_seq ?_
        with_reducible refine c_region ?_
        refine stepD rfl F rfl (o_move (F.ev rfl) ?_); clear F; clear a; intro a F
        refine stepD rfl F rfl (o_move (F.ev rfl) ?_); clear F; clear a; intro a F
        refine stepD rfl F rfl (s_len (F.ev rfl) ?_); clear F; clear a; intro a F
        refine stepD rfl F rfl (o_leqT (F.ev rfl) (F.ev rfl) (by omega) ?_); clear F; clear a; intro a F
        with_reducible refine l_nil ?_
        with_reducible refine q_then ?_
        refine c_true F rfl rfl ?_
        with_reducible refine c_skip ?_
        with_reducible refine q_then ?_
        with_reducible refine c_seq ?_
        with_reducible refine c_block ?_
        with_reducible refine c_seq ?_
        with_reducible refine c_seq ?_
        with_reducible refine c_region ?_
        refine stepD rfl F rfl (o_move (F.ev rfl) ?_); clear F; clear a; intro a F
        refine stepD rfl F rfl (o_move (F.ev rfl) ?_); clear F; clear a; intro a F
        refine stepD rfl F rfl (s_len (F.ev rfl) ?_); clear F; clear a; intro a F
        refine stepD rfl F rfl (o_eqlF (F.ev rfl) (F.ev rfl) (by omega) ?_); clear F; clear a; intro a F
        refine stepD rfl F rfl (o_move (F.ev rfl) ?_); clear F; clear a; intro a F
        refine stepG rfl F rfl rfl rfl (o_move (F.ev rfl) ?_); clear F; clear a; intro a F
        refine stepG rfl F rfl rfl rfl (o_move (F.ev rfl) ?_); clear F; clear a; intro a F
        refine stepG rfl F rfl rfl rfl (s_idx (F.ev rfl) (F.ev rfl) rfl (by omega) ?_); clear F; clear a; intro a F
        refine stepG rfl F rfl rfl rfl (o_eqlF (F.ev rfl) (F.ev rfl) (by omega) ?_); clear F; clear a; intro a F
        refine stepD rfl F rfl (o_pickF (F.ev rfl) (F.ev rfl) ?_); clear F; clear a; intro a F
        with_reducible refine l_nil ?_
        with_reducible refine q_then ?_
        refine c_false F rfl rfl ?_
        with_reducible refine c_skip ?_
        with_reducible refine q_then ?_
        with_reducible refine c_seq ?_
        with_reducible refine c_region ?_
        refine stepD rfl F rfl (o_move (F.ev rfl) ?_); clear F; clear a; intro a F
        refine stepD rfl F rfl (o_move (F.ev rfl) ?_); clear F; clear a; intro a F
        refine stepD rfl F rfl (s_idx (F.ev rfl) (F.ev rfl) rfl (by omega) ?_); clear F; clear a; intro a F
        (refine stepD rfl F rfl (o_call (F.ev rfl) (F.evs rfl) (Cal.mono (rhex_c _ hcb.1 hcb.2 _) ?_)); clear F; clear a; rintro _ w ⟨rfl, hE⟩ a F; replace M := M.later hE; clear hE)
        cases hd : digV (s[i].toNat : Int) with
        | none =>
          rw [hd] at F hinv
          simp only at hinv
          rw [← hinv]
          refine stepD rfl F rfl (o_assign (F.ev rfl) ?_); clear F; clear a; intro a F
          with_reducible refine l_nil ?_
          with_reducible refine q_then ?_
          with_reducible refine c_seq ?_
          with_reducible refine c_seq ?_
          with_reducible refine c_region ?_
          refine stepD rfl F rfl (o_move (F.ev rfl) ?_); clear F; clear a; intro a F
          refine stepD rfl F rfl (o_lss (F.ev rfl) (F.ev rfl) ?_); clear F; clear a; intro a F
          refine stepD rfl F rfl (o_move (F.ev rfl) ?_); clear F; clear a; intro a F
          refine stepOff F rfl rfl rfl rfl ?_; clear F; clear a; intro a F
          refine stepOff F rfl rfl rfl rfl ?_; clear F; clear a; intro a F
          refine stepD rfl F rfl (o_pickT (F.ev rfl) (F.ev rfl) ?_); clear F; clear a; intro a F
          with_reducible refine l_nil ?_
          with_reducible refine q_then ?_
          refine c_true F rfl rfl ?_
          with_reducible refine c_seq ?_
          with_reducible refine c_region ?_
          refine stepD rfl F rfl (o_assign (F.ev rfl) ?_); clear F; clear a; intro a F
          refine stepD rfl F rfl (o_assign (F.ev rfl) ?_); clear F; clear a; intro a F
          with_reducible refine l_nil ?_
          with_reducible refine q_then ?_
          with_reducible refine c_ret ?_
          with_reducible refine q_thenR ?_
          with_reducible refine q_inBR ?_
          with_reducible refine q_thenR ?_
          with_reducible refine q_thenR ?_
          with_reducible refine q_inBR ?_
          with_reducible refine q_thenR ?_
          refine p_ret F rfl (.cons (.tmp (F.ev rfl)) (.cons (.tmp (F.ev rfl)) .nil)) ?_
          exact ⟨_, [], rfl, OwnS.nil _ _, M.sub (List.nil_sublist _)⟩
        | some d =>
          rw [hd] at F hinv
          have hdb := digV_bd hd
          simp only [Option.getD_some] at F hinv
          by_cases h4 : n = 4
          · rw [if_pos h4] at hinv
            rw [← hinv]
            subst h4
            refine stepD rfl F rfl (o_assign (F.ev rfl) ?_); clear F; clear a; intro a F
            with_reducible refine l_nil ?_
            with_reducible refine q_then ?_
            with_reducible refine c_seq ?_
            with_reducible refine c_seq ?_
            with_reducible refine c_region ?_
            refine stepD rfl F rfl (o_move (F.ev rfl) ?_); clear F; clear a; intro a F
            refine stepD rfl F rfl (o_lssF (F.ev rfl) (F.ev rfl) (by omega) ?_); clear F; clear a; intro a F
            refine stepD rfl F rfl (o_move (F.ev rfl) ?_); clear F; clear a; intro a F
            refine stepG rfl F rfl rfl rfl (o_move (F.ev rfl) ?_); clear F; clear a; intro a F
            refine stepG rfl F rfl rfl rfl (o_eqlT (F.ev rfl) (F.ev rfl) (by omega) ?_); clear F; clear a; intro a F
            refine stepD rfl F rfl (o_pickF (F.ev rfl) (F.ev rfl) ?_); clear F; clear a; intro a F
            with_reducible refine l_nil ?_
            with_reducible refine q_then ?_
            refine c_true F rfl rfl ?_
            with_reducible refine c_seq ?_
            with_reducible refine c_region ?_
            refine stepD rfl F rfl (o_assign (F.ev rfl) ?_); clear F; clear a; intro a F
            refine stepD rfl F rfl (o_assign (F.ev rfl) ?_); clear F; clear a; intro a F
            with_reducible refine l_nil ?_
            with_reducible refine q_then ?_
            with_reducible refine c_ret ?_
            with_reducible refine q_thenR ?_
            with_reducible refine q_inBR ?_
            with_reducible refine q_thenR ?_
            with_reducible refine q_thenR ?_
            with_reducible refine q_inBR ?_
            with_reducible refine q_thenR ?_
            refine p_ret F rfl (.cons (.tmp (F.ev rfl)) (.cons (.tmp (F.ev rfl)) .nil)) ?_
            exact ⟨_, [], rfl, OwnS.nil _ _, M.sub (List.nil_sublist _)⟩
          · rw [if_neg h4] at hinv
            have hv3 : v < 4096 := by
              have := hvn hn
              have h3 : n = 0 ∨ n = 1 ∨ n = 2 ∨ n = 3 := by omega
              rcases h3 with rfl | rfl | rfl | rfl <;> omega
            refine stepD rfl F rfl (o_assign (F.ev rfl) ?_); clear F; clear a; intro a F
            with_reducible refine l_nil ?_
            with_reducible refine q_then ?_
            with_reducible refine c_seq ?_
            with_reducible refine c_seq ?_
            with_reducible refine c_region ?_
            refine stepD rfl F rfl (o_move (F.ev rfl) ?_); clear F; clear a; intro a F
            refine stepD rfl F rfl (o_lssF (F.ev rfl) (F.ev rfl) (by omega) ?_); clear F; clear a; intro a F
            refine stepD rfl F rfl (o_move (F.ev rfl) ?_); clear F; clear a; intro a F
            refine stepG rfl F rfl rfl rfl (o_move (F.ev rfl) ?_); clear F; clear a; intro a F
            refine stepG rfl F rfl rfl rfl (o_eqlF (F.ev rfl) (F.ev rfl) (by omega) ?_); clear F; clear a; intro a F
            refine stepD rfl F rfl (o_pickF (F.ev rfl) (F.ev rfl) ?_); clear F; clear a; intro a F
            with_reducible refine l_nil ?_
            with_reducible refine q_then ?_
            refine c_false F rfl rfl ?_
            with_reducible refine c_skip ?_
            with_reducible refine q_then ?_
            with_reducible refine c_region ?_
            refine stepD rfl F rfl (o_move (F.ev rfl) ?_); clear F; clear a; intro a F
            refine stepD rfl F rfl (o_add (F.ev rfl) (F.ev rfl) (w_i64 (by omega) (by omega)) ?_); clear F; clear a; intro a F
            refine stepD rfl F rfl (o_move (F.ev rfl) ?_); clear F; clear a; intro a F
            refine stepD rfl F rfl (o_mul (F.ev rfl) (F.ev rfl) (w_i64 (by omega) (by omega)) ?_); clear F; clear a; intro a F
            refine stepD rfl F rfl (o_move (F.ev rfl) ?_); clear F; clear a; intro a F
            refine stepD rfl F rfl (o_add (F.ev rfl) (F.ev rfl) (w_i64 (by omega) (by omega)) ?_); clear F; clear a; intro a F
            refine stepD rfl F rfl (o_assign (F.ev rfl) ?_); clear F; clear a; intro a F
            refine stepD rfl F rfl (o_assign (F.ev rfl) ?_); clear F; clear a; intro a F
            with_reducible refine l_nil ?_
            with_reducible refine q_inB ?_
            with_reducible refine q_then ?_
            with_reducible refine c_region ?_
            refine stepD rfl F rfl (o_move (F.ev rfl) ?_); clear F; clear a; intro a F
            refine stepD rfl F rfl (o_add (F.ev rfl) (F.ev rfl) (w_i64 (by omega) (by omega)) ?_); clear F; clear a; intro a F
            refine stepD rfl F rfl (o_assign (F.ev rfl) ?_); clear F; clear a; intro a F
            with_reducible refine l_nil ?_
            with_reducible refine q_then ?_
            refine ⟨_, by omega, i + 1, n + 1, 16 * v + d, out, .slice sp out.length sc, ent, rfl, by omega, by omega, by omega, .inl ⟨by omega, hinv⟩, fun _ => ?_, hO, F.only [7, 6, 5, 4, 0] rfl, M⟩
            have := hvn hn
            rw [Int.pow_succ]; omega
end Go.Proofs.YtadnpidadcgdcaaDoor

/-! W2 -/
/-
  The reference's ParseIP.
-/
namespace Go.Proofs.YtadnpidadcgdcaaDoor
set_option linter.unusedVariables false
set_option linter.unusedSimpArgs false
open Go.RowKit
attribute [local irreducible] OpTo wpListIn Code.wpIn MW Cal

theorem SrcOf.own {P : Program} {S : List Nat} {W0 w : World} {l : List (Nat × Obj)} {e : TypeId} {sz n : Nat} {v : Value} {xs : List Value} {ent : List (Nat × Obj)} (hO : OwnS e sz v n xs ent) (M : Mem S W0 w l) (hs : ∀ p ∈ ent, p ∈ l) (h1 : xs.all (·.oneCell') = true) : SrcOf P w v n sz xs := by
  rcases hO with ⟨rfl, rfl, rfl, rfl⟩ | ⟨b, cap, junk, rfl, rfl, hxl, _, _⟩
  · exact SrcOf.nil P w sz 0
  · refine SrcOf.cells' (M.at_ _ (hs _ (List.mem_singleton.2 rfl))) ?_ h1
    have := seg_of [] xs junk
    simp only [List.nil_append, List.length_nil] at this
    rw [hxl] at this
    exact this
theorem one_i64 (xs : List Int) : (xs.map (Value.int .i64)).all (·.oneCell') = true := by
  rw [List.all_eq_true]; intro v hv; obtain ⟨x, _, rfl⟩ := List.mem_map.1 hv; rfl
theorem nth_own64 {xs : List Int} {junk : List Value} {i : Nat} (h : i < xs.length) : nth (xs.map (Value.int .i64) ++ junk) (0 + (i : Int).toNat * 1) = some (.int .i64 (xs.getD i 0)) := by
  rw [nth_spec]; simp [List.getElem?_append, h]
theorem hiB64 {g : Int} (h0 : 0 ≤ g) (h1 : g ≤ 65535) : IntKind.u8.wrap (Int.fdiv g (2 ^ min (Int.toNat 8) IntKind.i64.bits)) = g / 256 := by
  have e : Int.fdiv g (2 ^ min (Int.toNat 8) IntKind.i64.bits) = g / 256 := by
    show Int.fdiv g 256 = g / 256
    rw [Int.fdiv_eq_ediv_of_nonneg _ (by omega)]
  rw [e]; exact w_u8 (by omega) (by omega)
def zip16 : List Value := [.int .u8 0, .int .u8 0, .int .u8 0, .int .u8 0, .int .u8 0, .int .u8 0, .int .u8 0, .int .u8 0, .int .u8 0, .int .u8 0, .int .u8 0, .int .u8 0, .int .u8 0, .int .u8 0, .int .u8 0, .int .u8 0]
theorem getD_u8 {s : List UInt8} {i : Nat} (h : i < s.length) : s.getD i 0 = s[i] := by rw [List.getD_eq_getElem?_getD, List.getElem?_eq_getElem h]; rfl
theorem u8_58 {c : UInt8} : (c.toNat : Int) = 58 ↔ c = 58 := ⟨fun h => UInt8.toNat_inj.1 (show c.toNat = (58 : UInt8).toNat by have : (58 : UInt8).toNat = 58 := rfl; omega), fun h => by rw [h]; rfl⟩

set_option maxRecDepth 10000 in
set_option maxHeartbeats 4000000 in
theorem rparseIP_c (s : List UInt8) (hs : s.length ≤ 4294967280) (W : World) : Cal Tryd.prog 15 [mkS s].toArray W fun v w' => v = .tuple #[.agg (ipC ((rparseV s).getD ip0)).toArray, .bool (rparseV s).isSome] ∧ Ext [] W w' := by
  refine fn_ofM (n := 122) [] Tryd.func15 rfl rfl rfl ?_
  intro a w F M hwW
  refine c_seq ?_
  refine c_region ?_
  (refine stepD rfl F rfl (o_alloc M ?_); clear F; clear M; intro b2 w M a F)
  refine stepD rfl F rfl (o_assign (F.ev rfl) ?_); clear F; clear a; intro a F
  with_reducible refine l_nil ?_
  with_reducible refine q_then ?_
  with_reducible refine c_seq ?_
  with_reducible refine c_region ?_
  refine stepD rfl F rfl (o_assign (F.ev rfl) ?_); clear F; clear a; intro a F
  with_reducible refine l_nil ?_
  with_reducible refine q_then ?_
  with_reducible refine c_seq ?_
  with_reducible refine c_seq ?_
  with_reducible refine c_region ?_
  refine stepD rfl F rfl (o_assign (F.ev rfl) ?_); clear F; clear a; intro a F
  with_reducible refine l_nil ?_
  with_reducible refine q_then ?_
  with_reducible refine c_block ?_
  replace M : Mem [] W w [(b2, .cells zip16.toArray 23 (0, 0))] := M
  refine c_loop (fun k a w => ∃ (i : Nat) (at_ : Int), k = s.length + 1 - i ∧ i ≤ s.length ∧ ((at_ = -1 ∧ ∀ j, j < i → ¬ pairAt s j) ∨ (∃ p : Nat, at_ = p ∧ i = p + 1 ∧ pairAt s p ∧ ∀ j, j < p → ¬ pairAt s j)) ∧ Frm a 122 [] [(5, .int .i64 i), (4, .int .i64 at_), (2, .pointer (some ⟨b2, 0, none⟩)), (0, mkS s)] ∧ Mem [] W w [(b2, .cells zip16.toArray 23 (0, 0))]) (s.length + 1) ⟨0, -1, rfl, by omega, .inl ⟨rfl, fun j h => by omega⟩, F.only [5, 4, 2, 0] rfl, M⟩ ?_
  clear F M
  rintro k a w ⟨i, at_, hk, hi, hat, F, M⟩
  rcases hat with ⟨rfl, hno⟩ | ⟨p, rfl, rfl, hp, hno⟩
  by_cases hlt : i + 1 < s.length
  · by_cases h1 : s[i] = 58
    · have h1' := u8_58.2 h1
      by_cases h2 : s[i + 1] = 58
      · have h2' := u8_58.2 h2
        with_reducible refine c_seq ?_
        with_reducible refine c_seq ?_
        with_reducible refine c_region ?_
        refine stepD rfl F rfl (o_move (F.ev rfl) ?_); clear F; clear a; intro a F
        refine stepD rfl F rfl (o_add (F.ev rfl) (F.ev rfl) (w_i64 (by omega) (by omega)) ?_); clear F; clear a; intro a F
        refine stepD rfl F rfl (o_move (F.ev rfl) ?_); clear F; clear a; intro a F
        refine stepD rfl F rfl (s_len (F.ev rfl) ?_); clear F; clear a; intro a F
        refine stepD rfl F rfl (o_lssT (F.ev rfl) (F.ev rfl) (by omega) ?_); clear F; clear a; intro a F
        refine stepD rfl F rfl (o_move (F.ev rfl) ?_); clear F; clear a; intro a F
        refine stepG rfl F rfl rfl rfl (o_move (F.ev rfl) ?_); clear F; clear a; intro a F
        refine stepG rfl F rfl rfl rfl (o_lssT (F.ev rfl) (F.ev rfl) (by omega) ?_); clear F; clear a; intro a F
        refine stepD rfl F rfl (o_pickT (F.ev rfl) (F.ev rfl) ?_); clear F; clear a; intro a F
        with_reducible refine l_nil ?_
        with_reducible refine q_then ?_
        refine c_true F rfl rfl ?_
        with_reducible refine c_skip ?_
        with_reducible refine q_then ?_
        with_reducible refine c_seq ?_
        with_reducible refine c_block ?_
        with_reducible refine c_seq ?_
        with_reducible refine c_region ?_
        refine stepD rfl F rfl (o_move (F.ev rfl) ?_); clear F; clear a; intro a F
        refine stepD rfl F rfl (o_move (F.ev rfl) ?_); clear F; clear a; intro a F
        refine stepD rfl F rfl (s_idx (F.ev rfl) (F.ev rfl) rfl (by omega) ?_); clear F; clear a; intro a F
        refine stepD rfl F rfl (o_eqlT (F.ev rfl) (F.ev rfl) (by omega) ?_); clear F; clear a; intro a F
        refine stepD rfl F rfl (o_move (F.ev rfl) ?_); clear F; clear a; intro a F
        refine stepG rfl F rfl rfl rfl (o_move (F.ev rfl) ?_); clear F; clear a; intro a F
        refine stepG rfl F rfl rfl rfl (o_move (F.ev rfl) ?_); clear F; clear a; intro a F
        refine stepG rfl F rfl rfl rfl (o_add (F.ev rfl) (F.ev rfl) (w_i64 (by omega) (by omega)) ?_); clear F; clear a; intro a F
        refine stepG rfl F rfl rfl rfl (s_idx (F.ev rfl) (F.ev rfl) rfl (by omega) ?_); clear F; clear a; intro a F
        refine stepG rfl F rfl rfl rfl (o_eqlT (F.ev rfl) (F.ev rfl) (by omega) ?_); clear F; clear a; intro a F
        refine stepD rfl F rfl (o_pickT (F.ev rfl) (F.ev rfl) ?_); clear F; clear a; intro a F
        with_reducible refine l_nil ?_
        with_reducible refine q_then ?_
        refine c_true F rfl rfl ?_
        with_reducible refine c_region ?_
        refine stepD rfl F rfl (o_move (F.ev rfl) ?_); clear F; clear a; intro a F
        refine stepD rfl F rfl (o_assign (F.ev rfl) ?_); clear F; clear a; intro a F
        with_reducible refine l_nil ?_
        with_reducible refine q_inB ?_
        with_reducible refine q_then ?_
        with_reducible refine c_region ?_
        refine stepD rfl F rfl (o_move (F.ev rfl) ?_); clear F; clear a; intro a F
        refine stepD rfl F rfl (o_add (F.ev rfl) (F.ev rfl) (w_i64 (by omega) (by omega)) ?_); clear F; clear a; intro a F
        refine stepD rfl F rfl (o_assign (F.ev rfl) ?_); clear F; clear a; intro a F
        with_reducible refine l_nil ?_
        with_reducible refine q_then ?_
        refine ⟨_, by omega, i + 1, i, rfl, by omega, .inr ⟨i, rfl, rfl, ⟨by rw [getD_u8 (by omega)]; exact h1, by rw [getD_u8 (by omega)]; exact h2, hlt⟩, hno⟩, F.only [5, 4, 2, 0] rfl, M⟩
      · have h2' : ¬ (s[i + 1].toNat : Int) = 58 := fun h => h2 (u8_58.1 h)
        with_reducible refine c_seq ?_
        with_reducible refine c_seq ?_
        with_reducible refine c_region ?_
        refine stepD rfl F rfl (o_move (F.ev rfl) ?_); clear F; clear a; intro a F
        refine stepD rfl F rfl (o_add (F.ev rfl) (F.ev rfl) (w_i64 (by omega) (by omega)) ?_); clear F; clear a; intro a F
        refine stepD rfl F rfl (o_move (F.ev rfl) ?_); clear F; clear a; intro a F
        refine stepD rfl F rfl (s_len (F.ev rfl) ?_); clear F; clear a; intro a F
        refine stepD rfl F rfl (o_lssT (F.ev rfl) (F.ev rfl) (by omega) ?_); clear F; clear a; intro a F
        refine stepD rfl F rfl (o_move (F.ev rfl) ?_); clear F; clear a; intro a F
        refine stepG rfl F rfl rfl rfl (o_move (F.ev rfl) ?_); clear F; clear a; intro a F
        refine stepG rfl F rfl rfl rfl (o_lssT (F.ev rfl) (F.ev rfl) (by omega) ?_); clear F; clear a; intro a F
        refine stepD rfl F rfl (o_pickT (F.ev rfl) (F.ev rfl) ?_); clear F; clear a; intro a F
        with_reducible refine l_nil ?_
        with_reducible refine q_then ?_
        refine c_true F rfl rfl ?_
        with_reducible refine c_skip ?_
        with_reducible refine q_then ?_
        with_reducible refine c_seq ?_
        with_reducible refine c_block ?_
        with_reducible refine c_seq ?_
        with_reducible refine c_region ?_
        refine stepD rfl F rfl (o_move (F.ev rfl) ?_); clear F; clear a; intro a F
        refine stepD rfl F rfl (o_move (F.ev rfl) ?_); clear F; clear a; intro a F
        refine stepD rfl F rfl (s_idx (F.ev rfl) (F.ev rfl) rfl (by omega) ?_); clear F; clear a; intro a F
        refine stepD rfl F rfl (o_eqlT (F.ev rfl) (F.ev rfl) (by omega) ?_); clear F; clear a; intro a F
        refine stepD rfl F rfl (o_move (F.ev rfl) ?_); clear F; clear a; intro a F
        refine stepG rfl F rfl rfl rfl (o_move (F.ev rfl) ?_); clear F; clear a; intro a F
        refine stepG rfl F rfl rfl rfl (o_move (F.ev rfl) ?_); clear F; clear a; intro a F
        refine stepG rfl F rfl rfl rfl (o_add (F.ev rfl) (F.ev rfl) (w_i64 (by omega) (by omega)) ?_); clear F; clear a; intro a F
        refine stepG rfl F rfl rfl rfl (s_idx (F.ev rfl) (F.ev rfl) rfl (by omega) ?_); clear F; clear a; intro a F
        refine stepG rfl F rfl rfl rfl (o_eqlF (F.ev rfl) (F.ev rfl) (by omega) ?_); clear F; clear a; intro a F
        refine stepD rfl F rfl (o_pickT (F.ev rfl) (F.ev rfl) ?_); clear F; clear a; intro a F
        with_reducible refine l_nil ?_
        with_reducible refine q_then ?_
        refine c_false F rfl rfl ?_
        with_reducible refine c_skip ?_
        with_reducible refine q_inB ?_
        with_reducible refine q_then ?_
        with_reducible refine c_region ?_
        refine stepD rfl F rfl (o_move (F.ev rfl) ?_); clear F; clear a; intro a F
        refine stepD rfl F rfl (o_add (F.ev rfl) (F.ev rfl) (w_i64 (by omega) (by omega)) ?_); clear F; clear a; intro a F
        refine stepD rfl F rfl (o_assign (F.ev rfl) ?_); clear F; clear a; intro a F
        with_reducible refine l_nil ?_
        with_reducible refine q_then ?_
        refine ⟨_, by omega, i + 1, -1, rfl, by omega, .inl ⟨rfl, fun j hj => ?_⟩, F.only [5, 4, 2, 0] rfl, M⟩
        by_cases e : j = i
        · subst e; intro hp; apply h2; have := hp.2.1; rwa [getD_u8 (by omega)] at this
        · exact hno j (by omega)
    · have h1' : ¬ (s[i].toNat : Int) = 58 := fun h => h1 (u8_58.1 h)
      with_reducible refine c_seq ?_
      with_reducible refine c_seq ?_
      with_reducible refine c_region ?_
      refine stepD rfl F rfl (o_move (F.ev rfl) ?_); clear F; clear a; intro a F
      refine stepD rfl F rfl (o_add (F.ev rfl) (F.ev rfl) (w_i64 (by omega) (by omega)) ?_); clear F; clear a; intro a F
      refine stepD rfl F rfl (o_move (F.ev rfl) ?_); clear F; clear a; intro a F
      refine stepD rfl F rfl (s_len (F.ev rfl) ?_); clear F; clear a; intro a F
      refine stepD rfl F rfl (o_lssT (F.ev rfl) (F.ev rfl) (by omega) ?_); clear F; clear a; intro a F
      refine stepD rfl F rfl (o_move (F.ev rfl) ?_); clear F; clear a; intro a F
      refine stepG rfl F rfl rfl rfl (o_move (F.ev rfl) ?_); clear F; clear a; intro a F
      refine stepG rfl F rfl rfl rfl (o_lssT (F.ev rfl) (F.ev rfl) (by omega) ?_); clear F; clear a; intro a F
      refine stepD rfl F rfl (o_pickT (F.ev rfl) (F.ev rfl) ?_); clear F; clear a; intro a F
      with_reducible refine l_nil ?_
      with_reducible refine q_then ?_
      refine c_true F rfl rfl ?_
      with_reducible refine c_skip ?_
      with_reducible refine q_then ?_
      with_reducible refine c_seq ?_
      with_reducible refine c_block ?_
      with_reducible refine c_seq ?_
      with_reducible refine c_region ?_
      refine stepD rfl F rfl (o_move (F.ev rfl) ?_); clear F; clear a; intro a F
      refine stepD rfl F rfl (o_move (F.ev rfl) ?_); clear F; clear a; intro a F
      refine stepD rfl F rfl (s_idx (F.ev rfl) (F.ev rfl) rfl (by omega) ?_); clear F; clear a; intro a F
      refine stepD rfl F rfl (o_eqlF (F.ev rfl) (F.ev rfl) (by omega) ?_); clear F; clear a; intro a F
      refine stepD rfl F rfl (o_move (F.ev rfl) ?_); clear F; clear a; intro a F
      refine stepOff F rfl rfl rfl rfl ?_; clear F; clear a; intro a F
      refine stepOff F rfl rfl rfl rfl ?_; clear F; clear a; intro a F
      refine stepOff F rfl rfl rfl rfl ?_; clear F; clear a; intro a F
      refine stepOff F rfl rfl rfl rfl ?_; clear F; clear a; intro a F
      refine stepOff F rfl rfl rfl rfl ?_; clear F; clear a; intro a F
      refine stepD rfl F rfl (o_pickF (F.ev rfl) (F.ev rfl) ?_); clear F; clear a; intro a F
      with_reducible refine l_nil ?_
      with_reducible refine q_then ?_
      refine c_false F rfl rfl ?_
      with_reducible refine c_skip ?_
      with_reducible refine q_inB ?_
      with_reducible refine q_then ?_
      with_reducible refine c_region ?_
      refine stepD rfl F rfl (o_move (F.ev rfl) ?_); clear F; clear a; intro a F
      refine stepD rfl F rfl (o_add (F.ev rfl) (F.ev rfl) (w_i64 (by omega) (by omega)) ?_); clear F; clear a; intro a F
      refine stepD rfl F rfl (o_assign (F.ev rfl) ?_); clear F; clear a; intro a F
      with_reducible refine l_nil ?_
      with_reducible refine q_then ?_
      refine ⟨_, by omega, i + 1, -1, rfl, by omega, .inl ⟨rfl, fun j hj => ?_⟩, F.only [5, 4, 2, 0] rfl, M⟩
      by_cases e : j = i
      · subst e; intro hp; apply h1; have := hp.1; rwa [getD_u8 (by omega)] at this
      · exact hno j (by omega)
  have hcut := cut_none (s := s) (fun j hj => hno j (by omega))
  have hrp : rparseV s = match rgV s with | some l => if l.length ≠ 8 then none else some (rowA l 8) | none => none := by unfold rparseV; rw [hcut]; rfl
  rw [hrp]
  with_reducible refine c_seq ?_
  with_reducible refine c_seq ?_
  with_reducible refine c_region ?_
  refine stepD rfl F rfl (o_move (F.ev rfl) ?_); clear F; clear a; intro a F
  refine stepD rfl F rfl (o_add (F.ev rfl) (F.ev rfl) (w_i64 (by omega) (by omega)) ?_); clear F; clear a; intro a F
  refine stepD rfl F rfl (o_move (F.ev rfl) ?_); clear F; clear a; intro a F
  refine stepD rfl F rfl (s_len (F.ev rfl) ?_); clear F; clear a; intro a F
  refine stepD rfl F rfl (o_lssF (F.ev rfl) (F.ev rfl) (by omega) ?_); clear F; clear a; intro a F
  refine stepD rfl F rfl (o_move (F.ev rfl) ?_); clear F; clear a; intro a F
  refine stepOff F rfl rfl rfl rfl ?_; clear F; clear a; intro a F
  refine stepOff F rfl rfl rfl rfl ?_; clear F; clear a; intro a F
  refine stepD rfl F rfl (o_pickF (F.ev rfl) (F.ev rfl) ?_); clear F; clear a; intro a F
  with_reducible refine l_nil ?_
  with_reducible refine q_then ?_
  refine c_false F rfl rfl ?_
  with_reducible refine c_exit ?_
  with_reducible refine q_thenX ?_
  with_reducible refine q_thenX ?_
  with_reducible refine q_inBX ?_
  with_reducible refine q_then ?_
  with_reducible refine c_seq ?_
  with_reducible refine c_region ?_
  refine stepD rfl F rfl (o_assign (F.ev rfl) ?_); clear F; clear a; intro a F
  with_reducible refine l_nil ?_
  with_reducible refine q_then ?_
  with_reducible refine c_seq ?_
  with_reducible refine c_seq ?_
  with_reducible refine c_region ?_
  refine stepD rfl F rfl (o_move (F.ev rfl) ?_); clear F; clear a; intro a F
  refine stepD rfl F rfl (o_lssT (F.ev rfl) (F.ev rfl) (by omega) ?_); clear F; clear a; intro a F
  with_reducible refine l_nil ?_
  with_reducible refine q_then ?_
  refine c_true F rfl rfl ?_
  with_reducible refine c_seq ?_
  with_reducible refine c_region ?_
  refine stepD rfl F rfl (o_move (F.ev rfl) ?_); clear F; clear a; intro a F
  (refine stepD rfl F rfl (o_call (F.ev rfl) (F.evs rfl) (Cal.mono (rgroups_c s (by omega) _ ) ?_)); clear F; clear a; rintro _ w ⟨sv, ent, rfl, hO, N⟩ a F; replace M := M.joins N; clear N)
  rcases h1 : rgV s with _ | l
  · rw [h1] at F hO
    refine stepD rfl F rfl (o_move (F.ev rfl) ?_); clear F; clear a; intro a F
    refine stepD rfl F rfl (o_extract (F.ev rfl) rfl ?_); clear F; clear a; intro a F
    refine stepD rfl F rfl (o_extract (F.ev rfl) rfl ?_); clear F; clear a; intro a F
    refine stepD rfl F rfl (o_assign (F.ev rfl) ?_); clear F; clear a; intro a F
    refine stepD rfl F rfl (o_assign (F.ev rfl) ?_); clear F; clear a; intro a F
    with_reducible refine l_nil ?_
    with_reducible refine q_then ?_
    with_reducible refine c_seq ?_
    with_reducible refine c_seq ?_
    with_reducible refine c_region ?_
    refine stepD rfl F rfl (o_move (F.ev rfl) ?_); clear F; clear a; intro a F
    refine stepD rfl F rfl (o_not (F.ev rfl) ?_); clear F; clear a; intro a F
    refine stepD rfl F rfl (o_move (F.ev rfl) ?_); clear F; clear a; intro a F
    refine stepOff F rfl rfl rfl rfl ?_; clear F; clear a; intro a F
    refine stepOff F rfl rfl rfl rfl ?_; clear F; clear a; intro a F
    refine stepOff F rfl rfl rfl rfl ?_; clear F; clear a; intro a F
    refine stepD rfl F rfl (o_pickT (F.ev rfl) (F.ev rfl) ?_); clear F; clear a; intro a F
    with_reducible refine l_nil ?_
    with_reducible refine q_then ?_
    refine c_true F rfl rfl ?_
    with_reducible refine c_seq ?_
    with_reducible refine c_region ?_
    refine stepD rfl F rfl (o_build F rfl rfl ?_); clear F; clear a; intro a F
    replace M := M.perm (l' := (b2, .cells zip16.toArray 23 (0, 0)) :: ent) List.perm_append_comm
    (refine stepN rfl F (o_storeA M (F.ev rfl) (F.ev rfl) (by rfl) (by rfl) (by repeat (first | exact .here | apply Has.there)) (by rfl) (by repeat (first | exact .here | apply Upd.there)) ?_); clear F; clear M; intro w M a F)
    refine stepD rfl F rfl (o_assign (F.ev rfl) ?_); clear F; clear a; intro a F
    with_reducible refine l_nil ?_
    with_reducible refine q_then ?_
    with_reducible refine c_ret ?_
    with_reducible refine q_thenR ?_
    with_reducible refine q_thenR ?_
    refine p_ret F rfl (.cons (.cell (F.ev rfl) (run_loadVar_agg TAgg.h (M.heap .here) rfl)) (.cons (.tmp (F.ev rfl)) .nil)) ⟨rfl, M.ext⟩
  rw [h1] at F hO
  simp only [Option.getD_some, Option.isSome_some] at F hO
  obtain ⟨sp, sc, rfl⟩ := hO.slice
  replace M := M.perm (l' := (b2, .cells zip16.toArray 23 (0, 0)) :: ent) List.perm_append_comm
  by_cases h8 : l.length ≠ 8
  · refine stepD rfl F rfl (o_move (F.ev rfl) ?_); clear F; clear a; intro a F
    refine stepD rfl F rfl (o_extract (F.ev rfl) rfl ?_); clear F; clear a; intro a F
    refine stepD rfl F rfl (o_extract (F.ev rfl) rfl ?_); clear F; clear a; intro a F
    refine stepD rfl F rfl (o_assign (F.ev rfl) ?_); clear F; clear a; intro a F
    refine stepD rfl F rfl (o_assign (F.ev rfl) ?_); clear F; clear a; intro a F
    with_reducible refine l_nil ?_
    with_reducible refine q_then ?_
    with_reducible refine c_seq ?_
    with_reducible refine c_seq ?_
    with_reducible refine c_region ?_
    refine stepD rfl F rfl (o_move (F.ev rfl) ?_); clear F; clear a; intro a F
    refine stepD rfl F rfl (o_not (F.ev rfl) ?_); clear F; clear a; intro a F
    refine stepD rfl F rfl (o_move (F.ev rfl) ?_); clear F; clear a; intro a F
    refine stepG rfl F rfl rfl rfl (o_move (F.ev rfl) ?_); clear F; clear a; intro a F
    refine stepG rfl F rfl rfl rfl (o_lenSl (F.ev rfl) ?_); clear F; clear a; intro a F
    refine stepG rfl F rfl rfl rfl (o_neqT (F.ev rfl) (F.ev rfl) (by omega) ?_); clear F; clear a; intro a F
    refine stepD rfl F rfl (o_pickF (F.ev rfl) (F.ev rfl) ?_); clear F; clear a; intro a F
    with_reducible refine l_nil ?_
    with_reducible refine q_then ?_
    refine c_true F rfl rfl ?_
    with_reducible refine c_seq ?_
    with_reducible refine c_region ?_
    refine stepD rfl F rfl (o_build F rfl rfl ?_); clear F; clear a; intro a F
    (refine stepN rfl F (o_storeA M (F.ev rfl) (F.ev rfl) (by rfl) (by rfl) (by repeat (first | exact .here | apply Has.there)) (by rfl) (by repeat (first | exact .here | apply Upd.there)) ?_); clear F; clear M; intro w M a F)
    refine stepD rfl F rfl (o_assign (F.ev rfl) ?_); clear F; clear a; intro a F
    with_reducible refine l_nil ?_
    with_reducible refine q_then ?_
    with_reducible refine c_ret ?_
    with_reducible refine q_thenR ?_
    with_reducible refine q_thenR ?_
    refine p_ret F rfl (.cons (.cell (F.ev rfl) (run_loadVar_agg TAgg.h (M.heap .here) rfl)) (.cons (.tmp (F.ev rfl)) .nil)) ⟨by simp only [if_pos h8]; rfl, M.ext⟩
  have h8' : l.length = 8 := Classical.not_not.1 h8
  refine stepD rfl F rfl (o_move (F.ev rfl) ?_); clear F; clear a; intro a F
  refine stepD rfl F rfl (o_extract (F.ev rfl) rfl ?_); clear F; clear a; intro a F
  refine stepD rfl F rfl (o_extract (F.ev rfl) rfl ?_); clear F; clear a; intro a F
  refine stepD rfl F rfl (o_assign (F.ev rfl) ?_); clear F; clear a; intro a F
  refine stepD rfl F rfl (o_assign (F.ev rfl) ?_); clear F; clear a; intro a F
  with_reducible refine l_nil ?_
  with_reducible refine q_then ?_
  with_reducible refine c_seq ?_
  with_reducible refine c_seq ?_
  with_reducible refine c_region ?_
  refine stepD rfl F rfl (o_move (F.ev rfl) ?_); clear F; clear a; intro a F
  refine stepD rfl F rfl (o_not (F.ev rfl) ?_); clear F; clear a; intro a F
  refine stepD rfl F rfl (o_move (F.ev rfl) ?_); clear F; clear a; intro a F
  refine stepG rfl F rfl rfl rfl (o_move (F.ev rfl) ?_); clear F; clear a; intro a F
  refine stepG rfl F rfl rfl rfl (o_lenSl (F.ev rfl) ?_); clear F; clear a; intro a F
  refine stepG rfl F rfl rfl rfl (o_neqF (F.ev rfl) (F.ev rfl) (by omega) ?_); clear F; clear a; intro a F
  refine stepD rfl F rfl (o_pickF (F.ev rfl) (F.ev rfl) ?_); clear F; clear a; intro a F
  with_reducible refine l_nil ?_
  with_reducible refine q_then ?_
  refine c_false F rfl rfl ?_
  with_reducible refine c_skip ?_
  with_reducible refine q_then ?_
  with_reducible refine c_region ?_
  refine stepD rfl F rfl (o_move (F.ev rfl) ?_); clear F; clear a; intro a F
  refine stepD rfl F rfl (o_assign (F.ev rfl) ?_); clear F; clear a; intro a F
  with_reducible refine l_nil ?_
  with_reducible refine q_then ?_
  with_reducible refine c_seq ?_
  with_reducible refine c_region ?_
  have hres : (match some l with | some l => if l.length ≠ 8 then none else some (rowA l 8) | none => none) = some (rowA l 8) := by simp only [if_neg h8]
  rw [hres]
  have hgb := rgV_bd h1
  clear hres hrp h1 hcut
  replace h8 := h8'
  rw [h8] at F hO
  replace F := F.only [6, 2] rfl
  obtain ⟨g8, rfl⟩ : ∃ x, x = l := ⟨_, rfl⟩
  rotate_left
  by_cases hqq : p + 1 + 1 < s.length
  iterate 2
    have hcut := cut_at hp hno
    have hpl := hp.2.2
    have hrp : rparseV s = match rgV (s.take p), rgV (s.drop (p + 2)) with | some l, some r => (if 7 < l.length + r.length then none else some (rowA (fill8 l r) 8)) | _, _ => none := by unfold rparseV; rw [hcut]; rfl
    rw [hrp]
    repeat (first | (with_reducible refine c_seq ?_) | (with_reducible refine c_region ?_) | (with_reducible refine l_nil ?_) | (with_reducible refine q_then ?_) | (with_reducible refine c_exit ?_) | (with_reducible refine q_thenX ?_) | (with_reducible refine q_inBX ?_) | (refine c_false F rfl rfl ?_) | (refine stepD rfl F rfl (o_move (F.ev rfl) ?_); clear F; clear a; intro a F) | (refine stepD rfl F rfl (o_assign (F.ev rfl) ?_); clear F; clear a; intro a F) | (refine stepD rfl F rfl (o_lssT (F.ev rfl) (F.ev rfl) (by omega) ?_); clear F; clear a; intro a F) | (refine stepD rfl F rfl (o_lssF (F.ev rfl) (F.ev rfl) (by omega) ?_); clear F; clear a; intro a F) | (refine stepD rfl F rfl (o_add (F.ev rfl) (F.ev rfl) (w_i64 (by omega) (by omega)) ?_); clear F; clear a; intro a F) | (refine stepD rfl F rfl (o_pickT (F.ev rfl) (F.ev rfl) ?_); clear F; clear a; intro a F) | (refine stepD rfl F rfl (o_pickF (F.ev rfl) (F.ev rfl) ?_); clear F; clear a; intro a F) | (refine stepD rfl F rfl (s_len (F.ev rfl) ?_); clear F; clear a; intro a F) | (refine stepOff F rfl rfl rfl rfl ?_; clear F; clear a; intro a F) | (refine stepG rfl F rfl rfl rfl (o_move (F.ev rfl) ?_); clear F; clear a; intro a F) | (refine stepG rfl F rfl rfl rfl (o_lssF (F.ev rfl) (F.ev rfl) (by omega) ?_); clear F; clear a; intro a F))
    (refine stepD rfl F rfl (s_h (q := p) (F.ev rfl) (F.ev rfl) rfl (by omega) ?_); clear F; clear a; intro a F)
    (refine stepD rfl F rfl (o_call (F.ev rfl) (F.evs rfl) (Cal.mono (rgroups_c (s.take p) (by simp; omega) _ ) ?_)); clear F; clear a; rintro _ w ⟨sv, ent, rfl, hO, N⟩ a F; replace M := M.joins N; clear N)
    obtain ⟨sp, sc, rfl⟩ := hO.slice
    repeat (first | (with_reducible refine c_seq ?_) | (with_reducible refine c_region ?_) | (with_reducible refine l_nil ?_) | (with_reducible refine q_then ?_) | (refine stepD rfl F rfl (o_move (F.ev rfl) ?_); clear F; clear a; intro a F) | (refine stepD rfl F rfl (o_assign (F.ev rfl) ?_); clear F; clear a; intro a F) | (refine stepD rfl F rfl (o_add (F.ev rfl) (F.ev rfl) (w_i64 (by omega) (by omega)) ?_); clear F; clear a; intro a F) | (refine stepD rfl F rfl (o_extract (F.ev rfl) rfl ?_); clear F; clear a; intro a F))
    (refine stepD rfl F rfl (s_l (p := p + 2) (m := (p : Int) + 2) (F.ev rfl) (F.ev rfl) (by omega) (by omega) ?_); clear F; clear a; intro a F)
    (refine stepD rfl F rfl (o_call (F.ev rfl) (F.evs rfl) (Cal.mono (rgroups_c (s.drop (p + 2)) (by simp; omega) _ ) ?_)); clear F; clear a; rintro _ w ⟨sv2, ent2, rfl, hO2, N⟩ a F; replace M := M.joins N; clear N)
    obtain ⟨sp2, sc2, rfl⟩ := hO2.slice
    replace M := M.perm (l' := (b2, .cells zip16.toArray 23 (0, 0)) :: (ent2 ++ ent)) (by rw [← List.append_assoc]; exact List.perm_append_comm)
    rcases h1 : rgV (s.take p) with _ | l
    · rw [h1] at F hO
      simp only [Option.isSome_none] at F
      repeat (first | (with_reducible refine c_seq ?_) | (with_reducible refine c_region ?_) | (with_reducible refine l_nil ?_) | (with_reducible refine q_then ?_) | (refine c_true F rfl rfl ?_) | (refine stepD rfl F rfl (o_move (F.ev rfl) ?_); clear F; clear a; intro a F) | (refine stepD rfl F rfl (o_assign (F.ev rfl) ?_); clear F; clear a; intro a F) | (refine stepD rfl F rfl (o_not (F.ev rfl) ?_); clear F; clear a; intro a F) | (refine stepD rfl F rfl (o_pickT (F.ev rfl) (F.ev rfl) ?_); clear F; clear a; intro a F) | (refine stepD rfl F rfl (o_extract (F.ev rfl) rfl ?_); clear F; clear a; intro a F) | (refine stepD rfl F rfl (o_build F rfl rfl ?_); clear F; clear a; intro a F) | (refine stepOff F rfl rfl rfl rfl ?_; clear F; clear a; intro a F))
      (refine stepN rfl F (o_storeA M (F.ev rfl) (F.ev rfl) (by rfl) (by rfl) (by repeat (first | exact .here | apply Has.there)) (by rfl) (by repeat (first | exact .here | apply Upd.there)) ?_); clear F; clear M; intro w M a F)
      repeat (first | (with_reducible refine l_nil ?_) | (with_reducible refine q_then ?_) | (with_reducible refine c_ret ?_) | (with_reducible refine q_thenR ?_) | (refine stepD rfl F rfl (o_assign (F.ev rfl) ?_); clear F; clear a; intro a F))
      refine p_ret F rfl (.cons (.cell (F.ev rfl) (run_loadVar_agg TAgg.h (M.heap .here) rfl)) (.cons (.tmp (F.ev rfl)) .nil)) ⟨rfl, M.ext⟩
    rcases h2 : rgV (s.drop (p + 2)) with _ | r
    · rw [h1] at F hO
      rw [h2] at F hO2
      simp only [Option.isSome_none, Option.isSome_some] at F
      repeat (first | (with_reducible refine c_seq ?_) | (with_reducible refine c_region ?_) | (with_reducible refine l_nil ?_) | (with_reducible refine q_then ?_) | (refine c_true F rfl rfl ?_) | (refine stepD rfl F rfl (o_move (F.ev rfl) ?_); clear F; clear a; intro a F) | (refine stepD rfl F rfl (o_assign (F.ev rfl) ?_); clear F; clear a; intro a F) | (refine stepD rfl F rfl (o_not (F.ev rfl) ?_); clear F; clear a; intro a F) | (refine stepD rfl F rfl (o_pickT (F.ev rfl) (F.ev rfl) ?_); clear F; clear a; intro a F) | (refine stepD rfl F rfl (o_pickF (F.ev rfl) (F.ev rfl) ?_); clear F; clear a; intro a F) | (refine stepD rfl F rfl (o_extract (F.ev rfl) rfl ?_); clear F; clear a; intro a F) | (refine stepD rfl F rfl (o_build F rfl rfl ?_); clear F; clear a; intro a F) | (refine stepOff F rfl rfl rfl rfl ?_; clear F; clear a; intro a F) | (refine stepG rfl F rfl rfl rfl (o_move (F.ev rfl) ?_); clear F; clear a; intro a F) | (refine stepG rfl F rfl rfl rfl (o_not (F.ev rfl) ?_); clear F; clear a; intro a F))
      (refine stepN rfl F (o_storeA M (F.ev rfl) (F.ev rfl) (by rfl) (by rfl) (by repeat (first | exact .here | apply Has.there)) (by rfl) (by repeat (first | exact .here | apply Upd.there)) ?_); clear F; clear M; intro w M a F)
      repeat (first | (with_reducible refine l_nil ?_) | (with_reducible refine q_then ?_) | (with_reducible refine c_ret ?_) | (with_reducible refine q_thenR ?_) | (refine stepD rfl F rfl (o_assign (F.ev rfl) ?_); clear F; clear a; intro a F))
      refine p_ret F rfl (.cons (.cell (F.ev rfl) (run_loadVar_agg TAgg.h (M.heap .here) rfl)) (.cons (.tmp (F.ev rfl)) .nil)) ⟨rfl, M.ext⟩
    rw [h1] at F hO
    rw [h2] at F hO2
    have hbl := rgV_bd h1
    have hbr := rgV_bd h2
    have hl1 := rgV_len h1
    have hl2 := rgV_len h2
    simp only [List.length_take, List.length_drop] at hl1 hl2
    simp only [Option.getD_some, Option.isSome_some] at F hO hO2
    by_cases h7 : 7 < l.length + r.length
    · repeat (first | (with_reducible refine c_seq ?_) | (with_reducible refine c_region ?_) | (with_reducible refine l_nil ?_) | (with_reducible refine q_then ?_) | (refine c_true F rfl rfl ?_) | (refine stepD rfl F rfl (o_move (F.ev rfl) ?_); clear F; clear a; intro a F) | (refine stepD rfl F rfl (o_assign (F.ev rfl) ?_); clear F; clear a; intro a F) | (refine stepD rfl F rfl (o_not (F.ev rfl) ?_); clear F; clear a; intro a F) | (refine stepD rfl F rfl (o_pickF (F.ev rfl) (F.ev rfl) ?_); clear F; clear a; intro a F) | (refine stepD rfl F rfl (o_extract (F.ev rfl) rfl ?_); clear F; clear a; intro a F) | (refine stepD rfl F rfl (o_build F rfl rfl ?_); clear F; clear a; intro a F) | (refine stepG rfl F rfl rfl rfl (o_move (F.ev rfl) ?_); clear F; clear a; intro a F) | (refine stepG rfl F rfl rfl rfl (o_gtrT (F.ev rfl) (F.ev rfl) (by omega) ?_); clear F; clear a; intro a F) | (refine stepG rfl F rfl rfl rfl (o_add (F.ev rfl) (F.ev rfl) (w_i64 (by omega) (by omega)) ?_); clear F; clear a; intro a F) | (refine stepG rfl F rfl rfl rfl (o_not (F.ev rfl) ?_); clear F; clear a; intro a F) | (refine stepG rfl F rfl rfl rfl (o_lenSl (F.ev rfl) ?_); clear F; clear a; intro a F))
      (refine stepN rfl F (o_storeA M (F.ev rfl) (F.ev rfl) (by rfl) (by rfl) (by repeat (first | exact .here | apply Has.there)) (by rfl) (by repeat (first | exact .here | apply Upd.there)) ?_); clear F; clear M; intro w M a F)
      repeat (first | (with_reducible refine l_nil ?_) | (with_reducible refine q_then ?_) | (with_reducible refine c_ret ?_) | (with_reducible refine q_thenR ?_) | (refine stepD rfl F rfl (o_assign (F.ev rfl) ?_); clear F; clear a; intro a F))
      refine p_ret F rfl (.cons (.cell (F.ev rfl) (run_loadVar_agg TAgg.h (M.heap .here) rfl)) (.cons (.tmp (F.ev rfl)) .nil)) ⟨by simp only [if_pos h7]; rfl, M.ext⟩
    have hres : (match some l, some r with | some l, some r => (if 7 < l.length + r.length then none else some (rowA (fill8 l r) 8)) | _, _ => none) = some (rowA (fill8 l r) 8) := by simp only [if_neg h7]
    rw [hres]
    clear hres hrp h1 h2 hcut
    repeat (first | (with_reducible refine c_seq ?_) | (with_reducible refine c_region ?_) | (with_reducible refine l_nil ?_) | (with_reducible refine q_then ?_) | (with_reducible refine c_skip ?_) | (refine c_false F rfl rfl ?_) | (refine stepD rfl F rfl (o_move (F.ev rfl) ?_); clear F; clear a; intro a F) | (refine stepD rfl F rfl (o_assign (F.ev rfl) ?_); clear F; clear a; intro a F) | (refine stepD rfl F rfl (o_not (F.ev rfl) ?_); clear F; clear a; intro a F) | (refine stepD rfl F rfl (o_pickF (F.ev rfl) (F.ev rfl) ?_); clear F; clear a; intro a F) | (refine stepD rfl F rfl (o_extract (F.ev rfl) rfl ?_); clear F; clear a; intro a F) | (refine stepG rfl F rfl rfl rfl (o_move (F.ev rfl) ?_); clear F; clear a; intro a F) | (refine stepG rfl F rfl rfl rfl (o_gtrF (F.ev rfl) (F.ev rfl) (by omega) ?_); clear F; clear a; intro a F) | (refine stepG rfl F rfl rfl rfl (o_add (F.ev rfl) (F.ev rfl) (w_i64 (by omega) (by omega)) ?_); clear F; clear a; intro a F) | (refine stepG rfl F rfl rfl rfl (o_not (F.ev rfl) ?_); clear F; clear a; intro a F) | (refine stepG rfl F rfl rfl rfl (o_lenSl (F.ev rfl) ?_); clear F; clear a; intro a F))
    have hN : OwnS 3 1 (.slice none 0 0) 0 [] [] := OwnS.nil _ _
    replace M := M.perm (l' := (b2, .cells zip16.toArray 23 (0, 0)) :: (ent2 ++ (ent ++ []))) (by simp)
    have hsrc : SrcOf Tryd.prog w (.slice sp l.length sc) l.length 1 (l.map (Value.int .i64)) := SrcOf.own hO M (fun q hq => by simp [hq]) (one_i64 _)
    (refine stepD rfl F rfl (o_append hN M (.cons (.app (.app .here))) (F.ev rfl) (F.ev rfl) (hsrc) (by first | omega | (simp; omega)) (by first | omega | (simp; omega)) ?_); clear F; clear M; clear hN; intro v3 ent3 w hN M a F; (try dsimp only at M))
    clear hsrc
    obtain ⟨sp3, sc3, rfl⟩ := hN.slice
    repeat (first | (with_reducible refine c_seq ?_) | (with_reducible refine l_nil ?_) | (with_reducible refine q_then ?_) | (with_reducible refine c_block ?_) | (refine stepD rfl F rfl (o_assign (F.ev rfl) ?_); clear F; clear a; intro a F))
    refine c_loop (fun k a w => ∃ (q : Nat) (sv : Value) (entA : List (Nat × Obj)), k = 8 - q ∧ l.length + q + r.length ≤ 8 ∧ OwnS 3 1 sv (l.length + q) ((l ++ List.replicate q 0).map (Value.int .i64)) entA ∧ Frm a 122 [] [(6, sv), (11, .slice sp2 r.length sc2), (2, .pointer (some ⟨b2, 0, none⟩))] ∧ Mem [] W w ((b2, .cells zip16.toArray 23 (0, 0)) :: (ent2 ++ (ent ++ entA)))) 8 ⟨0, _, ent3, rfl, by omega, by simpa using hN, by simpa using F.only [6, 11, 2] rfl, M⟩ ?_
    clear F M hN
    rintro k a w ⟨q, sv, entA, hk, hq, hA, F, M⟩
    obtain ⟨sp4, sc4, rfl⟩ := hA.slice
    by_cases hlt : l.length + q + r.length < 8
    · have hrep : (l ++ List.replicate (q + 1) 0).map (Value.int .i64) = (l ++ List.replicate q 0).map (Value.int .i64) ++ [Value.int .i64 0] := by rw [List.replicate_succ']; simp
      repeat (first | (with_reducible refine c_seq ?_) | (with_reducible refine c_region ?_) | (with_reducible refine l_nil ?_) | (with_reducible refine q_then ?_) | (with_reducible refine c_block ?_) | (with_reducible refine c_skip ?_) | (refine c_true F rfl rfl ?_) | (refine stepD rfl F rfl (o_move (F.ev rfl) ?_); clear F; clear a; intro a F) | (refine stepD rfl F rfl (o_lssT (F.ev rfl) (F.ev rfl) (by omega) ?_); clear F; clear a; intro a F) | (refine stepD rfl F rfl (o_add (F.ev rfl) (F.ev rfl) (w_i64 (by omega) (by omega)) ?_); clear F; clear a; intro a F) | (refine stepD rfl F rfl (o_lenSl (F.ev rfl) ?_); clear F; clear a; intro a F))
      (refine stepD rfl F rfl (o_buildSlice F M rfl rfl rfl rfl ?_); clear F; clear M; intro b94 w M a F)
      (refine stepD rfl F rfl (o_append hA M (.cons (.cons (.app (.app .here)))) (F.ev rfl) (F.ev rfl) (SrcOf.cells' (M.heap .here) rfl rfl) (by first | omega | (simp; omega)) (by first | omega | (simp; omega)) ?_); clear F; clear M; clear hA; intro v4 ent4 w hA M a F; (try dsimp only at M))
      obtain ⟨sp5, sc5, rfl⟩ := hA.slice
      repeat (first | (with_reducible refine l_nil ?_) | (with_reducible refine q_then ?_) | (with_reducible refine q_inB ?_) | (refine stepD rfl F rfl (o_assign (F.ev rfl) ?_); clear F; clear a; intro a F))
      exact ⟨8 - (q + 1), by omega, q + 1, _, ent4, rfl, by omega, by rw [hrep]; exact hA, F.only [6, 11, 2] rfl, M.sub (List.sublist_cons_self _ _)⟩
    have hq8 : l.length + q + r.length = 8 := by omega
    repeat (first | (with_reducible refine c_seq ?_) | (with_reducible refine c_region ?_) | (with_reducible refine l_nil ?_) | (with_reducible refine q_then ?_) | (with_reducible refine c_exit ?_) | (with_reducible refine q_thenX ?_) | (with_reducible refine q_inBX ?_) | (refine c_false F rfl rfl ?_) | (refine stepD rfl F rfl (o_move (F.ev rfl) ?_); clear F; clear a; intro a F) | (refine stepD rfl F rfl (o_lssF (F.ev rfl) (F.ev rfl) (by omega) ?_); clear F; clear a; intro a F) | (refine stepD rfl F rfl (o_add (F.ev rfl) (F.ev rfl) (w_i64 (by omega) (by omega)) ?_); clear F; clear a; intro a F) | (refine stepD rfl F rfl (o_lenSl (F.ev rfl) ?_); clear F; clear a; intro a F))
    have hsrc : SrcOf Tryd.prog w (.slice sp2 r.length sc2) r.length 1 (r.map (Value.int .i64)) := SrcOf.own hO2 M (fun q hq => by simp [hq]) (one_i64 _)
    (refine stepD rfl F rfl (o_append hA M (.cons (.app (.app .here))) (F.ev rfl) (F.ev rfl) (hsrc) (by first | omega | (simp; omega)) (by first | omega | (simp; omega)) ?_); clear F; clear M; clear hA; intro v5 ent5 w hA M a F; (try dsimp only at M))
    clear hsrc
    obtain ⟨sp6, sc6, rfl⟩ := hA.slice
    repeat (first | (with_reducible refine c_seq ?_) | (with_reducible refine c_region ?_) | (with_reducible refine l_nil ?_) | (with_reducible refine q_then ?_) | (refine stepD rfl F rfl (o_assign (F.ev rfl) ?_); clear F; clear a; intro a F))
    replace F := F.only [6, 2] rfl
    have hf8 : (l ++ List.replicate q 0).map (Value.int .i64) ++ r.map (Value.int .i64) = (fill8 l r).map (Value.int .i64) := by
      unfold fill8; rw [show 8 - l.length - r.length = q by omega]; simp
    have h8 := fill8_len (l := l) (r := r) (by omega)
    have hgb : ∀ g ∈ fill8 l r, 0 ≤ g ∧ g ≤ 65535 := by
      intro g hg
      unfold fill8 at hg
      rcases List.mem_append.1 hg with h | h
      · rcases List.mem_append.1 h with h | h
        · exact hbl g h
        · have := List.eq_of_mem_replicate h; omega
      · exact hbr g h
    rw [hf8, hq8] at hA
    rw [hq8] at F
    replace M := M.sub (l' := (b2, .cells zip16.toArray 23 (0, 0)) :: ent5) (.cons_cons _ ((List.sublist_append_right ent ent5).trans (List.sublist_append_right ent2 _)))
    clear hO hf8 hbl hbr hO2
    obtain ⟨hO, ent, sp, sc, rfl, rfl, rfl⟩ : ∃ (_ : OwnS 3 1 (.slice sp6 8 sc6) 8 ((fill8 l r).map (Value.int .i64)) ent5) (e : List (Nat × Obj)) (sp' : Option Addr) (sc' : Nat), e = ent5 ∧ sp' = sp6 ∧ sc' = sc6 := ⟨hA, _, _, _, rfl, rfl, rfl⟩
    clear hA
    generalize fill8 l r = g8 at *
    rotate_left
  all_goals
    (refine stepD rfl F rfl (o_alloc M ?_); clear F; clear M; intro b13 w M a F)
    repeat (first | (with_reducible refine c_seq ?_) | (with_reducible refine c_region ?_) | (with_reducible refine l_nil ?_) | (with_reducible refine q_then ?_) | (with_reducible refine c_block ?_) | (refine stepD rfl F rfl (o_assign (F.ev rfl) ?_); clear F; clear a; intro a F))
    replace M : Mem [] W w ((b13, .cells (ipC (rowA g8 0)).toArray 23 (0, 0)) :: (b2, .cells zip16.toArray 23 (0, 0)) :: ent) := M
    refine c_loop (fun k a w => ∃ i : Nat, k = 8 - i ∧ i ≤ 8 ∧ Frm a 122 [] [(14, .int .i64 i), (13, .pointer (some ⟨b13, 0, none⟩)), (6, .slice sp 8 sc), (2, .pointer (some ⟨b2, 0, none⟩))] ∧ Mem [] W w ((b13, .cells (ipC (rowA g8 i)).toArray 23 (0, 0)) :: (b2, .cells zip16.toArray 23 (0, 0)) :: ent)) 8 ⟨0, rfl, by omega, F.only [14, 13, 6, 2] rfl, M⟩ ?_
    clear F M
    rintro k a w ⟨i, hk, hi, F, M⟩
    by_cases hlt : i < 8
    · rcases hO with ⟨_, h0, _, _⟩ | ⟨bf, capf, junkf, hv, rfl, hxl, hjl, hcc⟩
      · omega
      cases hv
      have hgi := hgb (g8.getD i 0) (by rw [List.getD_eq_getElem?_getD, List.getElem?_eq_getElem (by omega)]; exact List.getElem_mem _)
      have n1 := nth_own64 (xs := g8) (junk := junkf) (i := i) (by omega)
      repeat (first | (with_reducible refine c_seq ?_) | (with_reducible refine c_region ?_) | (with_reducible refine l_nil ?_) | (with_reducible refine q_then ?_) | (with_reducible refine c_block ?_) | (with_reducible refine c_skip ?_) | (refine c_true F rfl rfl ?_) | (refine stepD rfl F rfl (o_move (F.ev rfl) ?_); clear F; clear a; intro a F) | (refine stepD rfl F rfl (o_lssT (F.ev rfl) (F.ev rfl) (by omega) ?_); clear F; clear a; intro a F))
      refine c_drawOne M (.cells ((ipC (rowA g8 i)).set (2 * i) (.int .u8 (IntKind.u8.wrap (Int.fdiv (g8.getD i 0) (2 ^ min (Int.toNat 8) IntKind.i64.bits))))).toArray 23 (0, 0)) 18 F (by kernel_rfl) ?_
      intro w1 M1 hok
      repeat (first | (refine mK hok rfl rfl (fun a' w' F' E' => o_move (F'.ev rfl) ⟨Keep.refl _ _, rfl⟩) ?_) | (refine mK hok rfl rfl (fun a' w' F' E' => o_add (F'.ev rfl) (F'.ev rfl) (w_i64 (by omega) (by omega)) ⟨Keep.refl _ _, rfl⟩) ?_) | (refine mK hok rfl rfl (fun a' w' F' E' => o_mul (F'.ev rfl) (F'.ev rfl) (w_i64 (by omega) (by omega)) ⟨Keep.refl _ _, rfl⟩) ?_) | (refine mK hok rfl rfl (fun a' w' F' E' => o_shr (F'.ev rfl) (F'.ev rfl) (by omega) rfl ⟨Keep.refl _ _, rfl⟩) ?_) | (refine mK hok rfl rfl (fun a' w' F' E' => o_conv (F'.ev rfl) rfl ⟨Keep.refl _ _, rfl⟩) ?_) | (refine mK hok rfl rfl (fun a' w' F' E' => o_indexArr (F'.ev rfl) (F'.ev rfl) (by omega) (by omega) ⟨Keep.refl _ _, rfl⟩) ?_) | (refine mK hok rfl rfl (fun a' w' F' E' => o_indexSl (F'.ev rfl) (F'.ev rfl) (by omega) (by omega) ⟨Keep.refl _ _, rfl⟩) ?_) | (refine mK hok rfl rfl (fun a' w' F' E' => o_load1 (keepOne.later M1 E') (F'.ev rfl) (by repeat (first | exact .here | apply Has.there)) (by first | assumption | rfl) ⟨Keep.refl _ _, rfl⟩) ?_))
      refine mNX hok rfl (keepOne.stays _ _ _ _ _ _) (fun a' w' F' E' => (E'.1.1 M1).elim (fun M2 => o_store1E M2 (F'.ev rfl) (F'.ev rfl) rfl .here (by first | exact put1 (q := 2 * i) _ (by omega) (by simp [length_ipC, rowA]; omega) | (rw [put1 (q := 2 * i) _ (by omega) (by simp [length_ipC, rowA]; omega), List.set_set])) .here fun _ hS M3 => keepOne.put hS.size M3) (fun M2 => o_store1E M2 (F'.ev rfl) (F'.ev rfl) rfl .here (by first | exact put1 (q := 2 * i) _ (by omega) (by simp [length_ipC, rowA]; omega) | (rw [put1 (q := 2 * i) _ (by omega) (by simp [length_ipC, rowA]; omega), List.set_set])) .here fun _ hS M3 => keepOne.put hS.size M3)) ?_
      skip
      (refine mDone rfl rfl ?_; clear F; clear M; intro a w F hE2 hX hTT hDD hPP; have M := hX 17 _ rfl; clear M1; clear hX; clear hE2; clear hok; clear hTT; clear hDD; clear hPP; (try dsimp only at F); (try dsimp only at M))
      repeat (first | (refine stepD rfl F rfl (o_indexArr (F.ev rfl) (F.ev rfl) (by omega) (by omega) ?_); clear F; clear a; intro a F))
      (refine stepN rfl F (o_store1 M (F.ev rfl) (F.ev rfl) rfl (by repeat (first | exact .here | apply Has.there)) (put1 (q := 2 * i + 1) _ (by omega) (by simp [length_ipC, rowA]; omega)) (by repeat (first | exact .here | apply Upd.there)) ?_); clear F; clear M; intro w M a F)
      rw [hiB64 hgi.1 hgi.2, loB hgi.1, ← byteOf_even, ← byteOf_odd, ← ipC_set, ← ipC_set, rowA_step (by omega)] at M
      repeat (first | (with_reducible refine c_region ?_) | (with_reducible refine l_nil ?_) | (with_reducible refine q_then ?_) | (with_reducible refine q_inB ?_) | (refine stepD rfl F rfl (o_move (F.ev rfl) ?_); clear F; clear a; intro a F) | (refine stepD rfl F rfl (o_assign (F.ev rfl) ?_); clear F; clear a; intro a F) | (refine stepD rfl F rfl (o_add (F.ev rfl) (F.ev rfl) (w_i64 (by omega) (by omega)) ?_); clear F; clear a; intro a F))
      exact ⟨_, by omega, i + 1, rfl, by omega, F.only [14, 13, 6, 2] rfl, M⟩
    · obtain rfl : i = 8 := by omega
      have hl3 : (ipC (rowA g8 8)).length = 16 := by simp [ipC, rowA]
      have s3 : seg (ipC (rowA g8 8)) 0 16 = some (ipC (rowA g8 8)) := seg_all hl3
      repeat (first | (with_reducible refine c_seq ?_) | (with_reducible refine c_region ?_) | (with_reducible refine l_nil ?_) | (with_reducible refine q_then ?_) | (with_reducible refine c_exit ?_) | (with_reducible refine q_thenX ?_) | (with_reducible refine q_inBX ?_) | (refine c_false F rfl rfl ?_) | (refine stepD rfl F rfl (o_move (F.ev rfl) ?_); clear F; clear a; intro a F) | (refine stepD rfl F rfl (o_lssF (F.ev rfl) (F.ev rfl) (by omega) ?_); clear F; clear a; intro a F) | (refine stepD rfl F rfl (o_loadA M (F.ev rfl) (by repeat (first | exact .here | apply Has.there)) (by first | assumption | rfl) ?_); clear F; clear a; intro a F))
      (refine stepN rfl F (o_storeA M (F.ev rfl) (F.ev rfl) hl3 (one_ip _)  (by repeat (first | exact .here | apply Has.there))  (put_all (by rw [hl3]; rfl)) (by repeat (first | exact .here | apply Upd.there)) ?_); clear F; clear M; intro w M a F)
      repeat (first | (with_reducible refine l_nil ?_) | (with_reducible refine q_then ?_) | (with_reducible refine c_ret ?_) | (refine stepD rfl F rfl (o_assign (F.ev rfl) ?_); clear F; clear a; intro a F))
      refine p_ret F rfl (.cons (.cell (F.ev rfl) (run_loadVar_agg TAgg.h (M.heap (.there .here)) s3)) (.cons (.tmp (F.ev rfl)) .nil)) ⟨rfl, M.ext⟩
end Go.Proofs.YtadnpidadcgdcaaDoor

/-! V5 -/
/-
  Plain: the reference's FormatIP writes what FormatIP writes. No program in sight.
-/
namespace Go.Proofs.YtadnpidadcgdcaaDoor
set_option linter.unusedVariables false
set_option linter.unusedSimpArgs false
open Go.RowKit

/-- which groups are zero -/
def zsB (ip : List Int) : List Bool := (List.range 8).map fun j => decide (grpAt ip j = 0)
/-- how many are zero from i on -/
def runB (zs : List Bool) (i : Nat) : Nat := ((zs.drop i).takeWhile id).length
def bestStep (zs : List Bool) (s : Int × Nat) (i : Nat) : Int × Nat := if s.2 < runB zs i then ((i : Int), runB zs i) else s
def bestB (zs : List Bool) (k : Nat) : Int × Nat := (List.range k).foldl (bestStep zs) (-1, 1)
theorem bestB_succ (zs : List Bool) (k : Nat) : bestB zs (k + 1) = bestStep zs (bestB zs k) k := by
  unfold bestB; rw [List.range_succ, List.foldl_append]; rfl
def zstepB (s : Nat × Nat × Nat) (x : Nat × Bool) : Nat × Nat × Nat :=
  if x.2 = false then (s.1, s.2.1, 0) else if s.2.2 + 1 > s.2.1 then (x.1 + 1 - (s.2.2 + 1), s.2.2 + 1, s.2.2 + 1) else (s.1, s.2.1, s.2.2 + 1)
def zallB (zs : List Bool) : Nat × Nat × Nat := ((List.range 8).map fun i => (i, zs.getD i false)).foldl zstepB (0, 0, 0)
theorem zall_B (ip : List Int) : zall (grps ip) = zallB (zsB ip) := by
  unfold zall zallB grps
  rw [List.foldl_map, List.foldl_map]
  have : ∀ (l : List Nat) (s : Nat × Nat × Nat), (∀ i ∈ l, i < 8) → l.foldl (fun x y => zstep x (y, grpAt ip y)) s = l.foldl (fun x y => zstepB x (y, (zsB ip).getD y false)) s := by
    intro l
    induction l with
    | nil => intro s _; rfl
    | cons a l ih =>
      intro s hl
      rw [List.foldl_cons, List.foldl_cons]
      have ha := hl a (by simp)
      have hz : (zsB ip).getD a false = decide (grpAt ip a = 0) := by simp [zsB, ha]
      have : zstep s (a, grpAt ip a) = zstepB s (a, (zsB ip).getD a false) := by
        rw [hz]
        unfold zstep zstepB
        by_cases h : grpAt ip a = 0 <;> simp [h]
      rw [this]
      exact ih _ (fun i hi => hl i (by simp [hi]))
  exact this _ _ (fun i hi => List.mem_range.1 hi)
def bestOk (zs : List Bool) : Bool := if 2 ≤ (zallB zs).2.1 then bestB zs 8 == (((zallB zs).1 : Int), (zallB zs).2.1) else bestB zs 8 == (-1, 1)
theorem bestOk_all : ∀ a b c d e f g h : Bool, bestOk [a, b, c, d, e, f, g, h] = true := by decide +kernel
theorem best_is (ip : List Int) : (2 ≤ (zall (grps ip)).2.1 → bestB (zsB ip) 8 = (((zall (grps ip)).1 : Int), (zall (grps ip)).2.1)) ∧ (¬ 2 ≤ (zall (grps ip)).2.1 → bestB (zsB ip) 8 = (-1, 1)) := by
  rw [zall_B]
  have h := bestOk_all (decide (grpAt ip 0 = 0)) (decide (grpAt ip 1 = 0)) (decide (grpAt ip 2 = 0)) (decide (grpAt ip 3 = 0)) (decide (grpAt ip 4 = 0)) (decide (grpAt ip 5 = 0)) (decide (grpAt ip 6 = 0)) (decide (grpAt ip 7 = 0))
  have e : zsB ip = [decide (grpAt ip 0 = 0), decide (grpAt ip 1 = 0), decide (grpAt ip 2 = 0), decide (grpAt ip 3 = 0), decide (grpAt ip 4 = 0), decide (grpAt ip 5 = 0), decide (grpAt ip 6 = 0), decide (grpAt ip 7 = 0)] := rfl
  rw [← e] at h
  unfold bestOk at h
  constructor
  · intro h2; rw [if_pos h2] at h; exact beq_iff_eq.1 h
  · intro h2; rw [if_neg h2] at h; exact beq_iff_eq.1 h
theorem run_len : ∀ (n : Nat) (L : List Bool) (i : Nat), (∀ j, j < n → L[i + j]? = some true) → L[i + n]? ≠ some true → ((L.drop i).takeWhile id).length = n
  | 0, L, i, _, h => by
    cases hd : L.drop i with
    | nil => rfl
    | cons b t =>
      have hb : L[i + 0]? = some b := by
        rw [Nat.add_zero, ← Nat.add_zero i, ← List.getElem?_drop, hd]; rfl
      cases b with
      | true => exact absurd hb h
      | false => rfl
  | n + 1, L, i, ha, h => by
    have h0 := ha 0 (by omega)
    rw [Nat.add_zero] at h0
    obtain ⟨hi, he⟩ := List.getElem?_eq_some_iff.1 h0
    rw [List.drop_eq_getElem_cons hi, he]
    have ih := run_len n L (i + 1) (fun j hj => by have := ha (j + 1) (by omega); rwa [show i + (j + 1) = i + 1 + j by omega] at this) (by rwa [show i + 1 + n = i + (n + 1) by omega])
    simp [List.takeWhile, ih]
theorem zsB_at (ip : List Int) {j : Nat} (h : j < 8) : (zsB ip)[j]? = some (decide (grpAt ip j = 0)) := by simp [zsB, h]
theorem runB_is {ip : List Int} {i n : Nat} (hz : ∀ j, j < n → grpAt ip (i + j) = 0) (hn : i + n ≤ 8) (he : i + n = 8 ∨ grpAt ip (i + n) ≠ 0) : runB (zsB ip) i = n := by
  refine run_len n _ i (fun j hj => by rw [zsB_at ip (by omega), hz j hj]; rfl) ?_
  rcases he with he | he
  · rw [he]; simp [zsB]
  · by_cases h8 : i + n < 8
    · rw [zsB_at ip h8]; simp [he]
    · rw [List.getElem?_eq_none (by simp [zsB]; omega)]; simp
theorem runB_le (zs : List Bool) (i : Nat) : runB zs i ≤ zs.length := by
  unfold runB
  exact Nat.le_trans (List.takeWhile_sublist _).length_le (by simp)
theorem bestB_bd (zs : List Bool) (hz : zs.length = 8) : ∀ k, k ≤ 8 → (-1 ≤ (bestB zs k).1 ∧ (bestB zs k).1 ≤ 8) ∧ (bestB zs k).2 ≤ 8
  | 0, _ => by simp [bestB]
  | k + 1, hk => by
    have ih := bestB_bd zs hz k (by omega)
    have hr := runB_le zs k
    rw [bestB_succ]
    unfold bestStep
    split
    · simp only; omega
    · exact ih

/-! the text -/
theorem colon_step (gs : List Int) (x : Int) : colonI (gs ++ [x]) = if gs = [] then hexI x else colonI gs ++ 58 :: hexI x := by
  cases gs with
  | nil => rfl
  | cons g r => rw [if_neg (by simp)]; exact colonI_snoc g r x
theorem gseg_nil {ip : List Int} {a b : Nat} : gseg ip a b = [] ↔ b ≤ a := by
  constructor
  · intro h; have := gseg_len ip a b; rw [h] at this; simp at this; omega
  · intro h; simp [gseg, show b - a = 0 by omega]
theorem shape_zero (ip : List Int) (st len : Nat) : shape ip st len 0 = [] := by simp [shape, gseg_self, colonI]
theorem shape_jump (ip : List Int) {st len : Nat} (h : 2 ≤ len) : shape ip st len (st + len) = shape ip st len st ++ [58, 58] := by
  unfold shape
  rw [if_pos (by omega), if_pos (by omega), if_neg (by omega)]
/-- a step ahead of the run, or where there is none -/
theorem shape_a (ip : List Int) {st len i : Nat} (h : 2 ≤ len → i < st) : shape ip st len (i + 1) = shape ip st len i ++ ((if i = 0 then [] else [58]) ++ hexI (grpAt ip i)) := by
  unfold shape
  rw [if_neg (by omega), if_neg (by omega), gseg_snoc ip (by omega), colon_step]
  by_cases h0 : i = 0
  · subst h0; rw [gseg_self]; simp [colonI]
  · rw [if_neg (by rw [gseg_nil]; omega), if_neg h0]; simp
/-- a step behind the run -/
theorem shape_b (ip : List Int) {st len i : Nat} (h2 : 2 ≤ len) (h : st + len ≤ i) : shape ip st len (i + 1) = shape ip st len i ++ ((if i = st + len then [] else [58]) ++ hexI (grpAt ip i)) := by
  unfold shape
  rw [if_pos (by omega), if_neg (by omega), if_pos (by omega), gseg_snoc ip h, colon_step]
  by_cases h0 : i = st + len
  · subst h0; rw [gseg_self]; simp
  · rw [if_neg (by rw [gseg_nil]; omega), if_neg (by omega), if_neg h0]; simp
theorem shape_len {ip : List Int} (h : IsIP ip) (st len : Nat) {k : Nat} (hk : k ≤ 8) : (shape ip st len k).length ≤ 40 := by
  rw [← fall_take h st len k hk]
  have := fall_len st len ((grps ip).take k) []
  have h2 : ((grps ip).take k).length ≤ 8 := by simp [grps]; omega
  simp only [List.length_nil] at this
  omega
theorem format_shape {ip : List Int} (h : IsIP ip) : formatI ip = shape ip (zall (grps ip)).1 (zall (grps ip)).2.1 8 := by
  have hf := fall_take h (zall (grps ip)).1 (zall (grps ip)).2.1 8 (Nat.le_refl _)
  rw [grps_all] at hf
  rw [← hf]; rfl
end Go.Proofs.YtadnpidadcgdcaaDoor

/-! W3 -/
/-
  The reference's FormatIP.
-/
namespace Go.Proofs.YtadnpidadcgdcaaDoor
set_option linter.unusedVariables false
set_option linter.unusedSimpArgs false
open Go.RowKit
attribute [local irreducible] OpTo wpListIn Code.wpIn MW Cal

theorem bestB_next {zs : List Bool} {i : Nat} (h : (bestB zs i).2 < runB zs i) : bestB zs (i + 1) = ((i : Int), runB zs i) := by
  rw [bestB_succ]; unfold bestStep; rw [if_pos h]
theorem bestB_same {zs : List Bool} {i : Nat} (h : ¬ (bestB zs i).2 < runB zs i) : bestB zs (i + 1) = bestB zs i := by
  rw [bestB_succ]; unfold bestStep; rw [if_neg h]
theorem zallB_end : ∀ a b c d e f g h : Bool, decide ((zallB [a, b, c, d, e, f, g, h]).1 + (zallB [a, b, c, d, e, f, g, h]).2.1 ≤ 8) = true := by decide +kernel
theorem zall_end (ip : List Int) : (zall (grps ip)).1 + (zall (grps ip)).2.1 ≤ 8 := by
  rw [zall_B]
  exact of_decide_eq_true (zallB_end (decide (grpAt ip 0 = 0)) (decide (grpAt ip 1 = 0)) (decide (grpAt ip 2 = 0)) (decide (grpAt ip 3 = 0)) (decide (grpAt ip 4 = 0)) (decide (grpAt ip 5 = 0)) (decide (grpAt ip 6 = 0)) (decide (grpAt ip 7 = 0)))
theorem txt_len (x : List Int) : (txt x).length = x.length := by simp [txt]
theorem txt_c2 (x : List Int) : txt x ++ [58, 58] = txt (x ++ [58, 58]) := by simp [txt]
theorem txt_c1 (x : List Int) : txt x ++ [58] = txt (x ++ [58]) := by simp [txt]

set_option maxRecDepth 10000 in
set_option maxHeartbeats 4000000 in
theorem rformatIP_c (ip : List Int) (h : IsIP ip) (W : World) : Cal Tryd.prog 11 [.agg (ipC ip).toArray].toArray W fun v w' => v = mkS (txt (formatI ip)) ∧ Ext [] W w' := by
  have hl16 : (ipC ip).length = 16 := by rw [length_ipC, h.len]
  have hseg : seg (ipC ip) 0 16 = some (ipC ip) := seg_all hl16
  have hzl : (zsB ip).length = 8 := by simp [zsB]
  refine fn_ofM (n := 70) [] Tryd.func11 rfl rfl rfl ?_
  intro a w F M hwW
  refine c_seq ?_
  refine c_region ?_
  (refine stepD rfl F rfl (o_box M (F.ev rfl) rfl ?_); clear F; clear M; intro b1 w M a F)
  refine stepD rfl F rfl (o_assign (F.ev rfl) ?_); clear F; clear a; intro a F
  with_reducible refine l_nil ?_
  with_reducible refine q_then ?_
  with_reducible refine c_seq ?_
  with_reducible refine c_region ?_
  refine stepD rfl F rfl (o_assign (F.ev rfl) ?_); clear F; clear a; intro a F
  refine stepD rfl F rfl (o_assign (F.ev rfl) ?_); clear F; clear a; intro a F
  with_reducible refine l_nil ?_
  with_reducible refine q_then ?_
  with_reducible refine c_seq ?_
  with_reducible refine c_seq ?_
  with_reducible refine c_region ?_
  refine stepD rfl F rfl (o_assign (F.ev rfl) ?_); clear F; clear a; intro a F
  with_reducible refine l_nil ?_
  with_reducible refine q_then ?_
  with_reducible refine c_block ?_
  refine c_loop (fun k a w => ∃ i : Nat, k = 8 - i ∧ i ≤ 8 ∧ Frm a 70 [] [(5, .int .i64 i), (4, .int .i64 (bestB (zsB ip) i).2), (3, .int .i64 (bestB (zsB ip) i).1), (1, .pointer (some ⟨b1, 0, none⟩))] ∧ Mem [] W w [(b1, .cells (ipC ip).toArray 23 (0, 0))]) 8 ⟨0, rfl, by omega, F.only [5, 4, 3, 1] rfl, M⟩ ?_
  clear F M
  rintro k a w ⟨i, hk, hi, F, M⟩
  have hbd := bestB_bd (zsB ip) hzl i hi
  by_cases hlt : i < 8
  · with_reducible refine c_seq ?_
    with_reducible refine c_seq ?_
    with_reducible refine c_region ?_
    refine stepD rfl F rfl (o_move (F.ev rfl) ?_); clear F; clear a; intro a F
    refine stepD rfl F rfl (o_lssT (F.ev rfl) (F.ev rfl) (by omega) ?_); clear F; clear a; intro a F
    with_reducible refine l_nil ?_
    with_reducible refine q_then ?_
    refine c_true F rfl rfl ?_
    with_reducible refine c_skip ?_
    with_reducible refine q_then ?_
    with_reducible refine c_seq ?_
    with_reducible refine c_block ?_
    with_reducible refine c_seq ?_
    with_reducible refine c_region ?_
    refine stepD rfl F rfl (o_assign (F.ev rfl) ?_); clear F; clear a; intro a F
    with_reducible refine l_nil ?_
    with_reducible refine q_then ?_
    with_reducible refine c_seq ?_
    with_reducible refine c_block ?_
    refine c_loop (fun k a w => ∃ n : Nat, k = 8 - n ∧ i + n ≤ 8 ∧ (∀ j, j < n → grpAt ip (i + j) = 0) ∧ Frm a 70 [] [(6, .int .i64 n), (5, .int .i64 i), (4, .int .i64 (bestB (zsB ip) i).2), (3, .int .i64 (bestB (zsB ip) i).1), (1, .pointer (some ⟨b1, 0, none⟩))] ∧ Mem [] W w [(b1, .cells (ipC ip).toArray 23 (0, 0))]) 8 ⟨0, rfl, by omega, fun j hj => by omega, F.only [6, 5, 4, 3, 1] rfl, M⟩ ?_
    clear F M
    rintro k2 a w ⟨n, hk2, hn, hz, F, M⟩
    by_cases h8 : i + n < 8
    · with_reducible refine c_seq ?_
      with_reducible refine c_seq ?_
      with_reducible refine c_region ?_
      refine stepD rfl F rfl (o_move (F.ev rfl) ?_); clear F; clear a; intro a F
      refine stepD rfl F rfl (o_move (F.ev rfl) ?_); clear F; clear a; intro a F
      refine stepD rfl F rfl (o_add (F.ev rfl) (F.ev rfl) (w_i64 (by omega) (by omega)) ?_); clear F; clear a; intro a F
      refine stepD rfl F rfl (o_lssT (F.ev rfl) (F.ev rfl) (by omega) ?_); clear F; clear a; intro a F
      refine stepD rfl F rfl (o_move (F.ev rfl) ?_); clear F; clear a; intro a F
      refine stepG rfl F rfl rfl rfl (o_loadA M (F.ev rfl) (by repeat (first | exact .here | apply Has.there)) (by first | assumption | rfl) ?_); clear F; clear a; intro a F
      refine stepG rfl F rfl rfl rfl (o_move (F.ev rfl) ?_); clear F; clear a; intro a F
      refine stepG rfl F rfl rfl rfl (o_move (F.ev rfl) ?_); clear F; clear a; intro a F
      refine stepG rfl F rfl rfl rfl (o_add (F.ev rfl) (F.ev rfl) (w_i64 (by omega) (by omega)) ?_); clear F; clear a; intro a F
      (refine stepG rfl F rfl rfl rfl (o_call (F.ev rfl) (F.evs rfl) (Cal.mono (rgroup_c ip h (i + n) h8 _) ?_)); clear F; clear a; rintro _ w ⟨rfl, hE⟩ a F; replace M := M.later hE; clear hE)
      by_cases h0 : grpAt ip (i + n) = 0
      · refine stepG rfl F rfl rfl rfl (o_eqlT (F.ev rfl) (F.ev rfl) (by omega) ?_); clear F; clear a; intro a F
        refine stepD rfl F rfl (o_pickT (F.ev rfl) (F.ev rfl) ?_); clear F; clear a; intro a F
        with_reducible refine l_nil ?_
        with_reducible refine q_then ?_
        refine c_true F rfl rfl ?_
        with_reducible refine c_skip ?_
        with_reducible refine q_then ?_
        with_reducible refine c_block ?_
        with_reducible refine c_region ?_
        refine stepD rfl F rfl (o_move (F.ev rfl) ?_); clear F; clear a; intro a F
        refine stepD rfl F rfl (o_add (F.ev rfl) (F.ev rfl) (w_i64 (by omega) (by omega)) ?_); clear F; clear a; intro a F
        refine stepD rfl F rfl (o_assign (F.ev rfl) ?_); clear F; clear a; intro a F
        with_reducible refine l_nil ?_
        with_reducible refine q_inB ?_
        with_reducible refine q_then ?_
        exact ⟨_, by omega, n + 1, rfl, by omega, fun j hj => by
          by_cases e : j = n
          · subst e; exact h0
          · exact hz j (by omega), F.only [6, 5, 4, 3, 1] rfl, M⟩
      · have hr := runB_is hz hn (.inr h0)
        by_cases hm : (bestB (zsB ip) i).2 < n
        · have hb := bestB_next (i := i) (by rw [hr]; exact hm)
          rw [hr] at hb
          refine stepG rfl F rfl rfl rfl (o_eqlF (F.ev rfl) (F.ev rfl) (by omega) ?_); clear F; clear a; intro a F
          refine stepD rfl F rfl (o_pickT (F.ev rfl) (F.ev rfl) ?_); clear F; clear a; intro a F
          with_reducible refine l_nil ?_
          with_reducible refine q_then ?_
          refine c_false F rfl rfl ?_
          with_reducible refine c_exit ?_
          with_reducible refine q_thenX ?_
          with_reducible refine q_thenX ?_
          with_reducible refine q_inBX ?_
          with_reducible refine q_then ?_
          with_reducible refine c_seq ?_
          with_reducible refine c_region ?_
          refine stepD rfl F rfl (o_move (F.ev rfl) ?_); clear F; clear a; intro a F
          refine stepD rfl F rfl (o_move (F.ev rfl) ?_); clear F; clear a; intro a F
          refine stepD rfl F rfl (o_gtrT (F.ev rfl) (F.ev rfl) (by omega) ?_); clear F; clear a; intro a F
          with_reducible refine l_nil ?_
          with_reducible refine q_then ?_
          refine c_true F rfl rfl ?_
          with_reducible refine c_region ?_
          refine stepD rfl F rfl (o_move (F.ev rfl) ?_); clear F; clear a; intro a F
          refine stepD rfl F rfl (o_move (F.ev rfl) ?_); clear F; clear a; intro a F
          refine stepD rfl F rfl (o_assign (F.ev rfl) ?_); clear F; clear a; intro a F
          refine stepD rfl F rfl (o_assign (F.ev rfl) ?_); clear F; clear a; intro a F
          with_reducible refine l_nil ?_
          with_reducible refine q_inB ?_
          with_reducible refine q_then ?_
          with_reducible refine c_region ?_
          refine stepD rfl F rfl (o_move (F.ev rfl) ?_); clear F; clear a; intro a F
          refine stepD rfl F rfl (o_add (F.ev rfl) (F.ev rfl) (w_i64 (by omega) (by omega)) ?_); clear F; clear a; intro a F
          refine stepD rfl F rfl (o_assign (F.ev rfl) ?_); clear F; clear a; intro a F
          with_reducible refine l_nil ?_
          with_reducible refine q_then ?_
          exact ⟨_, by omega, i + 1, rfl, by omega, by rw [hb]; exact F.only [5, 4, 3, 1] rfl, M⟩
        · have hb := bestB_same (i := i) (by rw [hr]; exact hm)
          refine stepG rfl F rfl rfl rfl (o_eqlF (F.ev rfl) (F.ev rfl) (by omega) ?_); clear F; clear a; intro a F
          refine stepD rfl F rfl (o_pickT (F.ev rfl) (F.ev rfl) ?_); clear F; clear a; intro a F
          with_reducible refine l_nil ?_
          with_reducible refine q_then ?_
          refine c_false F rfl rfl ?_
          with_reducible refine c_exit ?_
          with_reducible refine q_thenX ?_
          with_reducible refine q_thenX ?_
          with_reducible refine q_inBX ?_
          with_reducible refine q_then ?_
          with_reducible refine c_seq ?_
          with_reducible refine c_region ?_
          refine stepD rfl F rfl (o_move (F.ev rfl) ?_); clear F; clear a; intro a F
          refine stepD rfl F rfl (o_move (F.ev rfl) ?_); clear F; clear a; intro a F
          refine stepD rfl F rfl (o_gtrF (F.ev rfl) (F.ev rfl) (by omega) ?_); clear F; clear a; intro a F
          with_reducible refine l_nil ?_
          with_reducible refine q_then ?_
          refine c_false F rfl rfl ?_
          with_reducible refine c_skip ?_
          with_reducible refine q_inB ?_
          with_reducible refine q_then ?_
          with_reducible refine c_region ?_
          refine stepD rfl F rfl (o_move (F.ev rfl) ?_); clear F; clear a; intro a F
          refine stepD rfl F rfl (o_add (F.ev rfl) (F.ev rfl) (w_i64 (by omega) (by omega)) ?_); clear F; clear a; intro a F
          refine stepD rfl F rfl (o_assign (F.ev rfl) ?_); clear F; clear a; intro a F
          with_reducible refine l_nil ?_
          with_reducible refine q_then ?_
          exact ⟨_, by omega, i + 1, rfl, by omega, by rw [hb]; exact F.only [5, 4, 3, 1] rfl, M⟩
    · have hr := runB_is hz hn (.inl (by omega))
      by_cases hm : (bestB (zsB ip) i).2 < n
      · have hb := bestB_next (i := i) (by rw [hr]; exact hm)
        rw [hr] at hb
        with_reducible refine c_seq ?_
        with_reducible refine c_seq ?_
        with_reducible refine c_region ?_
        refine stepD rfl F rfl (o_move (F.ev rfl) ?_); clear F; clear a; intro a F
        refine stepD rfl F rfl (o_move (F.ev rfl) ?_); clear F; clear a; intro a F
        refine stepD rfl F rfl (o_add (F.ev rfl) (F.ev rfl) (w_i64 (by omega) (by omega)) ?_); clear F; clear a; intro a F
        refine stepD rfl F rfl (o_lssF (F.ev rfl) (F.ev rfl) (by omega) ?_); clear F; clear a; intro a F
        refine stepD rfl F rfl (o_move (F.ev rfl) ?_); clear F; clear a; intro a F
        refine stepOff F rfl rfl rfl rfl ?_; clear F; clear a; intro a F
        refine stepOff F rfl rfl rfl rfl ?_; clear F; clear a; intro a F
        refine stepOff F rfl rfl rfl rfl ?_; clear F; clear a; intro a F
        refine stepOff F rfl rfl rfl rfl ?_; clear F; clear a; intro a F
        refine stepOff F rfl rfl rfl rfl ?_; clear F; clear a; intro a F
        refine stepOff F rfl rfl rfl rfl ?_; clear F; clear a; intro a F
        refine stepD rfl F rfl (o_pickF (F.ev rfl) (F.ev rfl) ?_); clear F; clear a; intro a F
        with_reducible refine l_nil ?_
        with_reducible refine q_then ?_
        refine c_false F rfl rfl ?_
        with_reducible refine c_exit ?_
        with_reducible refine q_thenX ?_
        with_reducible refine q_thenX ?_
        with_reducible refine q_inBX ?_
        with_reducible refine q_then ?_
        with_reducible refine c_seq ?_
        with_reducible refine c_region ?_
        refine stepD rfl F rfl (o_move (F.ev rfl) ?_); clear F; clear a; intro a F
        refine stepD rfl F rfl (o_move (F.ev rfl) ?_); clear F; clear a; intro a F
        refine stepD rfl F rfl (o_gtrT (F.ev rfl) (F.ev rfl) (by omega) ?_); clear F; clear a; intro a F
        with_reducible refine l_nil ?_
        with_reducible refine q_then ?_
        refine c_true F rfl rfl ?_
        with_reducible refine c_region ?_
        refine stepD rfl F rfl (o_move (F.ev rfl) ?_); clear F; clear a; intro a F
        refine stepD rfl F rfl (o_move (F.ev rfl) ?_); clear F; clear a; intro a F
        refine stepD rfl F rfl (o_assign (F.ev rfl) ?_); clear F; clear a; intro a F
        refine stepD rfl F rfl (o_assign (F.ev rfl) ?_); clear F; clear a; intro a F
        with_reducible refine l_nil ?_
        with_reducible refine q_inB ?_
        with_reducible refine q_then ?_
        with_reducible refine c_region ?_
        refine stepD rfl F rfl (o_move (F.ev rfl) ?_); clear F; clear a; intro a F
        refine stepD rfl F rfl (o_add (F.ev rfl) (F.ev rfl) (w_i64 (by omega) (by omega)) ?_); clear F; clear a; intro a F
        refine stepD rfl F rfl (o_assign (F.ev rfl) ?_); clear F; clear a; intro a F
        with_reducible refine l_nil ?_
        with_reducible refine q_then ?_
        exact ⟨_, by omega, i + 1, rfl, by omega, by rw [hb]; exact F.only [5, 4, 3, 1] rfl, M⟩
      · have hb := bestB_same (i := i) (by rw [hr]; exact hm)
        with_reducible refine c_seq ?_
        with_reducible refine c_seq ?_
        with_reducible refine c_region ?_
        refine stepD rfl F rfl (o_move (F.ev rfl) ?_); clear F; clear a; intro a F
        refine stepD rfl F rfl (o_move (F.ev rfl) ?_); clear F; clear a; intro a F
        refine stepD rfl F rfl (o_add (F.ev rfl) (F.ev rfl) (w_i64 (by omega) (by omega)) ?_); clear F; clear a; intro a F
        refine stepD rfl F rfl (o_lssF (F.ev rfl) (F.ev rfl) (by omega) ?_); clear F; clear a; intro a F
        refine stepD rfl F rfl (o_move (F.ev rfl) ?_); clear F; clear a; intro a F
        refine stepOff F rfl rfl rfl rfl ?_; clear F; clear a; intro a F
        refine stepOff F rfl rfl rfl rfl ?_; clear F; clear a; intro a F
        refine stepOff F rfl rfl rfl rfl ?_; clear F; clear a; intro a F
        refine stepOff F rfl rfl rfl rfl ?_; clear F; clear a; intro a F
        refine stepOff F rfl rfl rfl rfl ?_; clear F; clear a; intro a F
        refine stepOff F rfl rfl rfl rfl ?_; clear F; clear a; intro a F
        refine stepD rfl F rfl (o_pickF (F.ev rfl) (F.ev rfl) ?_); clear F; clear a; intro a F
        with_reducible refine l_nil ?_
        with_reducible refine q_then ?_
        refine c_false F rfl rfl ?_
        with_reducible refine c_exit ?_
        with_reducible refine q_thenX ?_
        with_reducible refine q_thenX ?_
        with_reducible refine q_inBX ?_
        with_reducible refine q_then ?_
        with_reducible refine c_seq ?_
        with_reducible refine c_region ?_
        refine stepD rfl F rfl (o_move (F.ev rfl) ?_); clear F; clear a; intro a F
        refine stepD rfl F rfl (o_move (F.ev rfl) ?_); clear F; clear a; intro a F
        refine stepD rfl F rfl (o_gtrF (F.ev rfl) (F.ev rfl) (by omega) ?_); clear F; clear a; intro a F
        with_reducible refine l_nil ?_
        with_reducible refine q_then ?_
        refine c_false F rfl rfl ?_
        with_reducible refine c_skip ?_
        with_reducible refine q_inB ?_
        with_reducible refine q_then ?_
        with_reducible refine c_region ?_
        refine stepD rfl F rfl (o_move (F.ev rfl) ?_); clear F; clear a; intro a F
        refine stepD rfl F rfl (o_add (F.ev rfl) (F.ev rfl) (w_i64 (by omega) (by omega)) ?_); clear F; clear a; intro a F
        refine stepD rfl F rfl (o_assign (F.ev rfl) ?_); clear F; clear a; intro a F
        with_reducible refine l_nil ?_
        with_reducible refine q_then ?_
        exact ⟨_, by omega, i + 1, rfl, by omega, by rw [hb]; exact F.only [5, 4, 3, 1] rfl, M⟩
  obtain rfl : i = 8 := by omega
  have hfs := format_shape h
  rw [hfs]
  have hsl := fun k (hk : k ≤ 8) => shape_len h (zall (grps ip)).1 (zall (grps ip)).2.1 hk
  have hbs := best_is ip
  have hzb := zeros_bd ip
  have hze := zall_end ip
  clear hfs
  by_cases h2 : 2 ≤ (zall (grps ip)).2.1
  · have hb := hbs.1 h2
    rw [hb] at F
    dsimp only at F
    generalize (zall (grps ip)).1 = st at *
    generalize (zall (grps ip)).2.1 = len at *
    clear hb hbs hbd
    with_reducible refine c_seq ?_
    with_reducible refine c_seq ?_
    with_reducible refine c_region ?_
    refine stepD rfl F rfl (o_move (F.ev rfl) ?_); clear F; clear a; intro a F
    refine stepD rfl F rfl (o_lssF (F.ev rfl) (F.ev rfl) (by omega) ?_); clear F; clear a; intro a F
    with_reducible refine l_nil ?_
    with_reducible refine q_then ?_
    refine c_false F rfl rfl ?_
    with_reducible refine c_exit ?_
    with_reducible refine q_thenX ?_
    with_reducible refine q_thenX ?_
    with_reducible refine q_inBX ?_
    with_reducible refine q_then ?_
    with_reducible refine c_seq ?_
    with_reducible refine c_region ?_
    refine stepD rfl F rfl (o_assign (F.ev rfl) ?_); clear F; clear a; intro a F
    with_reducible refine l_nil ?_
    with_reducible refine q_then ?_
    with_reducible refine c_seq ?_
    with_reducible refine c_seq ?_
    with_reducible refine c_region ?_
    refine stepD rfl F rfl (o_assign (F.ev rfl) ?_); clear F; clear a; intro a F
    with_reducible refine l_nil ?_
    with_reducible refine q_then ?_
    with_reducible refine c_block ?_
    refine c_loop (fun k a w => ∃ i : Nat, k = 8 - i ∧ i ≤ 8 ∧ (i ≤ st ∨ st + len ≤ i) ∧ Frm a 70 [] [(8, .int .i64 i), (7, mkS (txt (shape ip st len i))), (4, .int .i64 len), (3, .int .i64 st), (1, .pointer (some ⟨b1, 0, none⟩))] ∧ Mem [] W w [(b1, .cells (ipC ip).toArray 23 (0, 0))]) 8 ⟨0, rfl, by omega, .inl (by omega), by rw [shape_zero]; exact F.only [8, 7, 4, 3, 1] rfl, M⟩ ?_
    clear F M
    rintro k a w ⟨i, hk, hi, hio, F, M⟩
    have hsi := hsl i hi
    by_cases hlt : i < 8
    · have hgb := h.grp i
      by_cases e : i = st
      · subst e
        with_reducible refine c_seq ?_
        with_reducible refine c_seq ?_
        with_reducible refine c_region ?_
        refine stepD rfl F rfl (o_move (F.ev rfl) ?_); clear F; clear a; intro a F
        refine stepD rfl F rfl (o_lssT (F.ev rfl) (F.ev rfl) (by omega) ?_); clear F; clear a; intro a F
        with_reducible refine l_nil ?_
        with_reducible refine q_then ?_
        refine c_true F rfl rfl ?_
        with_reducible refine c_skip ?_
        with_reducible refine q_then ?_
        with_reducible refine c_block ?_
        with_reducible refine c_seq ?_
        with_reducible refine c_seq ?_
        with_reducible refine c_region ?_
        refine stepD rfl F rfl (o_move (F.ev rfl) ?_); clear F; clear a; intro a F
        refine stepD rfl F rfl (o_move (F.ev rfl) ?_); clear F; clear a; intro a F
        refine stepD rfl F rfl (o_eqlT (F.ev rfl) (F.ev rfl) (by omega) ?_); clear F; clear a; intro a F
        with_reducible refine l_nil ?_
        with_reducible refine q_then ?_
        refine c_true F rfl rfl ?_
        with_reducible refine c_seq ?_
        with_reducible refine c_region ?_
        refine stepD rfl F rfl (o_move (F.ev rfl) ?_); clear F; clear a; intro a F
        (refine stepD rfl F rfl (s_add (F.ev rfl) (F.ev rfl) (by rw [txt_len]; simp; omega) ?_); clear F; clear a; intro a F)
        refine stepD rfl F rfl (o_assign (F.ev rfl) ?_); clear F; clear a; intro a F
        with_reducible refine l_nil ?_
        with_reducible refine q_then ?_
        with_reducible refine c_seq ?_
        with_reducible refine c_region ?_
        refine stepD rfl F rfl (o_move (F.ev rfl) ?_); clear F; clear a; intro a F
        refine stepD rfl F rfl (o_move (F.ev rfl) ?_); clear F; clear a; intro a F
        refine stepD rfl F rfl (o_add (F.ev rfl) (F.ev rfl) (w_i64 (by omega) (by omega)) ?_); clear F; clear a; intro a F
        refine stepD rfl F rfl (o_assign (F.ev rfl) ?_); clear F; clear a; intro a F
        with_reducible refine l_nil ?_
        with_reducible refine q_then ?_
        with_reducible refine c_exit ?_
        with_reducible refine q_thenX ?_
        with_reducible refine q_inBX ?_
        with_reducible refine q_then ?_
        exact ⟨_, by omega, i + len, rfl, by omega, .inr (by omega), by rw [shape_jump ip h2, ← txt_c2]; exact F.only [8, 7, 4, 3, 1] rfl, M⟩
      · have hg := hexI_len (grpAt ip i)
        by_cases hsep : i = 0 ∨ i = st + len
        · have hsh : shape ip st len (i + 1) = shape ip st len i ++ hexI (grpAt ip i) := by
            rcases hio with h1 | h1
            · rw [shape_a ip (fun _ => by omega), if_pos (by omega)]; rfl
            · rw [shape_b ip h2 h1, if_pos (by omega)]; rfl
          rcases hsep with h00 | h00
          all_goals
            repeat (first | (with_reducible refine c_seq ?_) | (with_reducible refine c_region ?_) | (with_reducible refine l_nil ?_) | (with_reducible refine q_then ?_) | (with_reducible refine c_block ?_) | (with_reducible refine c_skip ?_) | (refine c_true F rfl rfl ?_) | (refine c_false F rfl rfl ?_) | (refine stepD rfl F rfl (o_move (F.ev rfl) ?_); clear F; clear a; intro a F) | (refine stepD rfl F rfl (o_lssT (F.ev rfl) (F.ev rfl) (by omega) ?_); clear F; clear a; intro a F) | (refine stepD rfl F rfl (o_gtrT (F.ev rfl) (F.ev rfl) (by omega) ?_); clear F; clear a; intro a F) | (refine stepD rfl F rfl (o_gtrF (F.ev rfl) (F.ev rfl) (by omega) ?_); clear F; clear a; intro a F) | (refine stepD rfl F rfl (o_eqlF (F.ev rfl) (F.ev rfl) (by omega) ?_); clear F; clear a; intro a F) | (refine stepD rfl F rfl (o_pickT (F.ev rfl) (F.ev rfl) ?_); clear F; clear a; intro a F) | (refine stepD rfl F rfl (o_pickF (F.ev rfl) (F.ev rfl) ?_); clear F; clear a; intro a F) | (refine stepD rfl F rfl (o_loadA M (F.ev rfl) (by repeat (first | exact .here | apply Has.there)) (by first | assumption | rfl) ?_); clear F; clear a; intro a F) | (refine stepOff F rfl rfl rfl rfl ?_; clear F; clear a; intro a F) | (refine stepG rfl F rfl rfl rfl (o_move (F.ev rfl) ?_); clear F; clear a; intro a F) | (refine stepG rfl F rfl rfl rfl (o_lssF (F.ev rfl) (F.ev rfl) (by omega) ?_); clear F; clear a; intro a F) | (refine stepG rfl F rfl rfl rfl (o_gtrT (F.ev rfl) (F.ev rfl) (by omega) ?_); clear F; clear a; intro a F) | (refine stepG rfl F rfl rfl rfl (o_gtrF (F.ev rfl) (F.ev rfl) (by omega) ?_); clear F; clear a; intro a F) | (refine stepG rfl F rfl rfl rfl (o_neqF (F.ev rfl) (F.ev rfl) (by omega) ?_); clear F; clear a; intro a F) | (refine stepG rfl F rfl rfl rfl (o_add (F.ev rfl) (F.ev rfl) (w_i64 (by omega) (by omega)) ?_); clear F; clear a; intro a F) | (refine stepG rfl F rfl rfl rfl (o_pickT (F.ev rfl) (F.ev rfl) ?_); clear F; clear a; intro a F) | (refine stepG rfl F rfl rfl rfl (o_pickF (F.ev rfl) (F.ev rfl) ?_); clear F; clear a; intro a F))
            (refine stepD rfl F rfl (o_call (F.ev rfl) (F.evs rfl) (Cal.mono (rgroup_c ip h i hlt _) ?_)); clear F; clear a; rintro _ w ⟨rfl, hE⟩ a F; replace M := M.later hE; clear hE)
            (refine stepD rfl F rfl (o_call (F.ev rfl) (F.evs rfl) (Cal.mono (rtext_c _ hgb.1 hgb.2 _) ?_)); clear F; clear a; rintro _ w ⟨rfl, hE⟩ a F; replace M := M.later hE; clear hE)
            (refine stepD rfl F rfl (s_add (F.ev rfl) (F.ev rfl) (by rw [txt_len, txt_len]; omega) ?_); clear F; clear a; intro a F)
            repeat (first | (with_reducible refine c_region ?_) | (with_reducible refine l_nil ?_) | (with_reducible refine q_then ?_) | (with_reducible refine q_inB ?_) | (refine stepD rfl F rfl (o_move (F.ev rfl) ?_); clear F; clear a; intro a F) | (refine stepD rfl F rfl (o_assign (F.ev rfl) ?_); clear F; clear a; intro a F) | (refine stepD rfl F rfl (o_add (F.ev rfl) (F.ev rfl) (w_i64 (by omega) (by omega)) ?_); clear F; clear a; intro a F))
            exact ⟨_, by omega, i + 1, rfl, by omega, by omega, by rw [hsh, txt_append]; exact F.only [8, 7, 4, 3, 1] rfl, M⟩
        · have hsh : shape ip st len (i + 1) = (shape ip st len i ++ [58]) ++ hexI (grpAt ip i) := by
            rcases hio with h1 | h1
            · rw [shape_a ip (fun _ => by omega), if_neg (by omega)]; simp
            · rw [shape_b ip h2 h1, if_neg (by omega)]; simp
          with_reducible refine c_seq ?_
          with_reducible refine c_seq ?_
          with_reducible refine c_region ?_
          refine stepD rfl F rfl (o_move (F.ev rfl) ?_); clear F; clear a; intro a F
          refine stepD rfl F rfl (o_lssT (F.ev rfl) (F.ev rfl) (by omega) ?_); clear F; clear a; intro a F
          with_reducible refine l_nil ?_
          with_reducible refine q_then ?_
          refine c_true F rfl rfl ?_
          with_reducible refine c_skip ?_
          with_reducible refine q_then ?_
          with_reducible refine c_block ?_
          with_reducible refine c_seq ?_
          with_reducible refine c_seq ?_
          with_reducible refine c_region ?_
          refine stepD rfl F rfl (o_move (F.ev rfl) ?_); clear F; clear a; intro a F
          refine stepD rfl F rfl (o_move (F.ev rfl) ?_); clear F; clear a; intro a F
          refine stepD rfl F rfl (o_eqlF (F.ev rfl) (F.ev rfl) (by omega) ?_); clear F; clear a; intro a F
          with_reducible refine l_nil ?_
          with_reducible refine q_then ?_
          refine c_false F rfl rfl ?_
          with_reducible refine c_skip ?_
          with_reducible refine q_then ?_
          with_reducible refine c_seq ?_
          with_reducible refine c_seq ?_
          with_reducible refine c_region ?_
          refine stepD rfl F rfl (o_move (F.ev rfl) ?_); clear F; clear a; intro a F
          refine stepD rfl F rfl (o_gtrT (F.ev rfl) (F.ev rfl) (by omega) ?_); clear F; clear a; intro a F
          refine stepD rfl F rfl (o_move (F.ev rfl) ?_); clear F; clear a; intro a F
          refine stepG rfl F rfl rfl rfl (o_move (F.ev rfl) ?_); clear F; clear a; intro a F
          refine stepG rfl F rfl rfl rfl (o_move (F.ev rfl) ?_); clear F; clear a; intro a F
          refine stepG rfl F rfl rfl rfl (o_move (F.ev rfl) ?_); clear F; clear a; intro a F
          refine stepG rfl F rfl rfl rfl (o_add (F.ev rfl) (F.ev rfl) (w_i64 (by omega) (by omega)) ?_); clear F; clear a; intro a F
          refine stepG rfl F rfl rfl rfl (o_neqT (F.ev rfl) (F.ev rfl) (by omega) ?_); clear F; clear a; intro a F
          refine stepD rfl F rfl (o_pickT (F.ev rfl) (F.ev rfl) ?_); clear F; clear a; intro a F
          refine stepD rfl F rfl (o_move (F.ev rfl) ?_); clear F; clear a; intro a F
          refine stepOff F rfl rfl rfl rfl ?_; clear F; clear a; intro a F
          refine stepOff F rfl rfl rfl rfl ?_; clear F; clear a; intro a F
          refine stepOff F rfl rfl rfl rfl ?_; clear F; clear a; intro a F
          refine stepOff F rfl rfl rfl rfl ?_; clear F; clear a; intro a F
          refine stepOff F rfl rfl rfl rfl ?_; clear F; clear a; intro a F
          refine stepOff F rfl rfl rfl rfl ?_; clear F; clear a; intro a F
          refine stepD rfl F rfl (o_pickT (F.ev rfl) (F.ev rfl) ?_); clear F; clear a; intro a F
          with_reducible refine l_nil ?_
          with_reducible refine q_then ?_
          refine c_true F rfl rfl ?_
          with_reducible refine c_region ?_
          refine stepD rfl F rfl (o_move (F.ev rfl) ?_); clear F; clear a; intro a F
          (refine stepD rfl F rfl (s_add (F.ev rfl) (F.ev rfl) (by rw [txt_len]; simp; omega) ?_); clear F; clear a; intro a F)
          rw [show txt (shape ip st len i) ++ _ = _ from txt_c1 _] at F
          refine stepD rfl F rfl (o_assign (F.ev rfl) ?_); clear F; clear a; intro a F
          with_reducible refine l_nil ?_
          with_reducible refine q_then ?_
          with_reducible refine c_seq ?_
          with_reducible refine c_region ?_
          refine stepD rfl F rfl (o_move (F.ev rfl) ?_); clear F; clear a; intro a F
          refine stepD rfl F rfl (o_loadA M (F.ev rfl) (by repeat (first | exact .here | apply Has.there)) (by first | assumption | rfl) ?_); clear F; clear a; intro a F
          refine stepD rfl F rfl (o_move (F.ev rfl) ?_); clear F; clear a; intro a F
          (refine stepD rfl F rfl (o_call (F.ev rfl) (F.evs rfl) (Cal.mono (rgroup_c ip h i hlt _) ?_)); clear F; clear a; rintro _ w ⟨rfl, hE⟩ a F; replace M := M.later hE; clear hE)
          (refine stepD rfl F rfl (o_call (F.ev rfl) (F.evs rfl) (Cal.mono (rtext_c _ hgb.1 hgb.2 _) ?_)); clear F; clear a; rintro _ w ⟨rfl, hE⟩ a F; replace M := M.later hE; clear hE)
          (refine stepD rfl F rfl (s_add (F.ev rfl) (F.ev rfl) (by rw [txt_len, txt_len]; simp; omega) ?_); clear F; clear a; intro a F)
          refine stepD rfl F rfl (o_assign (F.ev rfl) ?_); clear F; clear a; intro a F
          with_reducible refine l_nil ?_
          with_reducible refine q_then ?_
          with_reducible refine c_region ?_
          refine stepD rfl F rfl (o_move (F.ev rfl) ?_); clear F; clear a; intro a F
          refine stepD rfl F rfl (o_add (F.ev rfl) (F.ev rfl) (w_i64 (by omega) (by omega)) ?_); clear F; clear a; intro a F
          refine stepD rfl F rfl (o_assign (F.ev rfl) ?_); clear F; clear a; intro a F
          with_reducible refine l_nil ?_
          with_reducible refine q_inB ?_
          with_reducible refine q_then ?_
          exact ⟨_, by omega, i + 1, rfl, by omega, by omega, by rw [hsh, txt_append]; exact F.only [8, 7, 4, 3, 1] rfl, M⟩
    · obtain rfl : i = 8 := by omega
      with_reducible refine c_seq ?_
      with_reducible refine c_seq ?_
      with_reducible refine c_region ?_
      refine stepD rfl F rfl (o_move (F.ev rfl) ?_); clear F; clear a; intro a F
      refine stepD rfl F rfl (o_lssF (F.ev rfl) (F.ev rfl) (by omega) ?_); clear F; clear a; intro a F
      with_reducible refine l_nil ?_
      with_reducible refine q_then ?_
      refine c_false F rfl rfl ?_
      with_reducible refine c_exit ?_
      with_reducible refine q_thenX ?_
      with_reducible refine q_thenX ?_
      with_reducible refine q_inBX ?_
      with_reducible refine q_then ?_
      with_reducible refine c_seq ?_
      with_reducible refine c_region ?_
      refine stepD rfl F rfl (o_move (F.ev rfl) ?_); clear F; clear a; intro a F
      refine stepD rfl F rfl (o_assign (F.ev rfl) ?_); clear F; clear a; intro a F
      with_reducible refine l_nil ?_
      with_reducible refine q_then ?_
      with_reducible refine c_ret ?_
      refine p_ret F rfl (.cons (.tmp (F.ev rfl)) .nil) ?_
      exact ⟨rfl, M.ext⟩
  · have hb := hbs.2 h2
    rw [hb] at F
    dsimp only at F
    generalize (zall (grps ip)).1 = st at *
    generalize (zall (grps ip)).2.1 = len at *
    clear hb hbs hbd
    with_reducible refine c_seq ?_
    with_reducible refine c_seq ?_
    with_reducible refine c_region ?_
    refine stepD rfl F rfl (o_move (F.ev rfl) ?_); clear F; clear a; intro a F
    refine stepD rfl F rfl (o_lssF (F.ev rfl) (F.ev rfl) (by omega) ?_); clear F; clear a; intro a F
    with_reducible refine l_nil ?_
    with_reducible refine q_then ?_
    refine c_false F rfl rfl ?_
    with_reducible refine c_exit ?_
    with_reducible refine q_thenX ?_
    with_reducible refine q_thenX ?_
    with_reducible refine q_inBX ?_
    with_reducible refine q_then ?_
    with_reducible refine c_seq ?_
    with_reducible refine c_region ?_
    refine stepD rfl F rfl (o_assign (F.ev rfl) ?_); clear F; clear a; intro a F
    with_reducible refine l_nil ?_
    with_reducible refine q_then ?_
    with_reducible refine c_seq ?_
    with_reducible refine c_seq ?_
    with_reducible refine c_region ?_
    refine stepD rfl F rfl (o_assign (F.ev rfl) ?_); clear F; clear a; intro a F
    with_reducible refine l_nil ?_
    with_reducible refine q_then ?_
    with_reducible refine c_block ?_
    refine c_loop (fun k a w => ∃ i : Nat, k = 8 - i ∧ i ≤ 8 ∧ Frm a 70 [] [(8, .int .i64 i), (7, mkS (txt (shape ip st len i))), (4, .int .i64 1), (3, .int .i64 (-1)), (1, .pointer (some ⟨b1, 0, none⟩))] ∧ Mem [] W w [(b1, .cells (ipC ip).toArray 23 (0, 0))]) 8 ⟨0, rfl, by omega, by rw [shape_zero]; exact F.only [8, 7, 4, 3, 1] rfl, M⟩ ?_
    clear F M
    rintro k a w ⟨i, hk, hi, F, M⟩
    have hsi := hsl i hi
    by_cases hlt : i < 8
    · have hgb := h.grp i
      have hg := hexI_len (grpAt ip i)
      by_cases h0 : i = 0
      · have hsh : shape ip st len (i + 1) = shape ip st len i ++ hexI (grpAt ip i) := by
          rw [shape_a ip (fun h => absurd h h2), if_pos h0]; rfl
        with_reducible refine c_seq ?_
        with_reducible refine c_seq ?_
        with_reducible refine c_region ?_
        refine stepD rfl F rfl (o_move (F.ev rfl) ?_); clear F; clear a; intro a F
        refine stepD rfl F rfl (o_lssT (F.ev rfl) (F.ev rfl) (by omega) ?_); clear F; clear a; intro a F
        with_reducible refine l_nil ?_
        with_reducible refine q_then ?_
        refine c_true F rfl rfl ?_
        with_reducible refine c_skip ?_
        with_reducible refine q_then ?_
        with_reducible refine c_block ?_
        with_reducible refine c_seq ?_
        with_reducible refine c_seq ?_
        with_reducible refine c_region ?_
        refine stepD rfl F rfl (o_move (F.ev rfl) ?_); clear F; clear a; intro a F
        refine stepD rfl F rfl (o_move (F.ev rfl) ?_); clear F; clear a; intro a F
        refine stepD rfl F rfl (o_eqlF (F.ev rfl) (F.ev rfl) (by omega) ?_); clear F; clear a; intro a F
        with_reducible refine l_nil ?_
        with_reducible refine q_then ?_
        refine c_false F rfl rfl ?_
        with_reducible refine c_skip ?_
        with_reducible refine q_then ?_
        with_reducible refine c_seq ?_
        with_reducible refine c_seq ?_
        with_reducible refine c_region ?_
        refine stepD rfl F rfl (o_move (F.ev rfl) ?_); clear F; clear a; intro a F
        refine stepD rfl F rfl (o_gtrF (F.ev rfl) (F.ev rfl) (by omega) ?_); clear F; clear a; intro a F
        refine stepD rfl F rfl (o_move (F.ev rfl) ?_); clear F; clear a; intro a F
        refine stepOff F rfl rfl rfl rfl ?_; clear F; clear a; intro a F
        refine stepOff F rfl rfl rfl rfl ?_; clear F; clear a; intro a F
        refine stepOff F rfl rfl rfl rfl ?_; clear F; clear a; intro a F
        refine stepOff F rfl rfl rfl rfl ?_; clear F; clear a; intro a F
        refine stepOff F rfl rfl rfl rfl ?_; clear F; clear a; intro a F
        refine stepD rfl F rfl (o_pickF (F.ev rfl) (F.ev rfl) ?_); clear F; clear a; intro a F
        refine stepD rfl F rfl (o_move (F.ev rfl) ?_); clear F; clear a; intro a F
        refine stepG rfl F rfl rfl rfl (o_move (F.ev rfl) ?_); clear F; clear a; intro a F
        refine stepG rfl F rfl rfl rfl (o_gtrF (F.ev rfl) (F.ev rfl) (by omega) ?_); clear F; clear a; intro a F
        refine stepG rfl F rfl rfl rfl (o_move (F.ev rfl) ?_); clear F; clear a; intro a F
        refine stepOff F rfl rfl rfl rfl ?_; clear F; clear a; intro a F
        refine stepOff F rfl rfl rfl rfl ?_; clear F; clear a; intro a F
        refine stepG rfl F rfl rfl rfl (o_pickF (F.ev rfl) (F.ev rfl) ?_); clear F; clear a; intro a F
        refine stepD rfl F rfl (o_pickF (F.ev rfl) (F.ev rfl) ?_); clear F; clear a; intro a F
        with_reducible refine l_nil ?_
        with_reducible refine q_then ?_
        refine c_false F rfl rfl ?_
        with_reducible refine c_skip ?_
        with_reducible refine q_then ?_
        with_reducible refine c_seq ?_
        with_reducible refine c_region ?_
        refine stepD rfl F rfl (o_move (F.ev rfl) ?_); clear F; clear a; intro a F
        refine stepD rfl F rfl (o_loadA M (F.ev rfl) (by repeat (first | exact .here | apply Has.there)) (by first | assumption | rfl) ?_); clear F; clear a; intro a F
        refine stepD rfl F rfl (o_move (F.ev rfl) ?_); clear F; clear a; intro a F
        (refine stepD rfl F rfl (o_call (F.ev rfl) (F.evs rfl) (Cal.mono (rgroup_c ip h i hlt _) ?_)); clear F; clear a; rintro _ w ⟨rfl, hE⟩ a F; replace M := M.later hE; clear hE)
        (refine stepD rfl F rfl (o_call (F.ev rfl) (F.evs rfl) (Cal.mono (rtext_c _ hgb.1 hgb.2 _) ?_)); clear F; clear a; rintro _ w ⟨rfl, hE⟩ a F; replace M := M.later hE; clear hE)
        (refine stepD rfl F rfl (s_add (F.ev rfl) (F.ev rfl) (by rw [txt_len, txt_len]; omega) ?_); clear F; clear a; intro a F)
        refine stepD rfl F rfl (o_assign (F.ev rfl) ?_); clear F; clear a; intro a F
        with_reducible refine l_nil ?_
        with_reducible refine q_then ?_
        with_reducible refine c_region ?_
        refine stepD rfl F rfl (o_move (F.ev rfl) ?_); clear F; clear a; intro a F
        refine stepD rfl F rfl (o_add (F.ev rfl) (F.ev rfl) (w_i64 (by omega) (by omega)) ?_); clear F; clear a; intro a F
        refine stepD rfl F rfl (o_assign (F.ev rfl) ?_); clear F; clear a; intro a F
        with_reducible refine l_nil ?_
        with_reducible refine q_inB ?_
        with_reducible refine q_then ?_
        exact ⟨_, by omega, i + 1, rfl, by omega, by rw [hsh, txt_append]; exact F.only [8, 7, 4, 3, 1] rfl, M⟩
      · have hsh : shape ip st len (i + 1) = (shape ip st len i ++ [58]) ++ hexI (grpAt ip i) := by
          rw [shape_a ip (fun h => absurd h h2), if_neg h0]; simp
        with_reducible refine c_seq ?_
        with_reducible refine c_seq ?_
        with_reducible refine c_region ?_
        refine stepD rfl F rfl (o_move (F.ev rfl) ?_); clear F; clear a; intro a F
        refine stepD rfl F rfl (o_lssT (F.ev rfl) (F.ev rfl) (by omega) ?_); clear F; clear a; intro a F
        with_reducible refine l_nil ?_
        with_reducible refine q_then ?_
        refine c_true F rfl rfl ?_
        with_reducible refine c_skip ?_
        with_reducible refine q_then ?_
        with_reducible refine c_block ?_
        with_reducible refine c_seq ?_
        with_reducible refine c_seq ?_
        with_reducible refine c_region ?_
        refine stepD rfl F rfl (o_move (F.ev rfl) ?_); clear F; clear a; intro a F
        refine stepD rfl F rfl (o_move (F.ev rfl) ?_); clear F; clear a; intro a F
        refine stepD rfl F rfl (o_eqlF (F.ev rfl) (F.ev rfl) (by omega) ?_); clear F; clear a; intro a F
        with_reducible refine l_nil ?_
        with_reducible refine q_then ?_
        refine c_false F rfl rfl ?_
        with_reducible refine c_skip ?_
        with_reducible refine q_then ?_
        with_reducible refine c_seq ?_
        with_reducible refine c_seq ?_
        with_reducible refine c_region ?_
        refine stepD rfl F rfl (o_move (F.ev rfl) ?_); clear F; clear a; intro a F
        refine stepD rfl F rfl (o_gtrT (F.ev rfl) (F.ev rfl) (by omega) ?_); clear F; clear a; intro a F
        refine stepD rfl F rfl (o_move (F.ev rfl) ?_); clear F; clear a; intro a F
        refine stepG rfl F rfl rfl rfl (o_move (F.ev rfl) ?_); clear F; clear a; intro a F
        refine stepG rfl F rfl rfl rfl (o_move (F.ev rfl) ?_); clear F; clear a; intro a F
        refine stepG rfl F rfl rfl rfl (o_move (F.ev rfl) ?_); clear F; clear a; intro a F
        refine stepG rfl F rfl rfl rfl (o_add (F.ev rfl) (F.ev rfl) (w_i64 (by omega) (by omega)) ?_); clear F; clear a; intro a F
        refine stepG rfl F rfl rfl rfl (o_neqT (F.ev rfl) (F.ev rfl) (by omega) ?_); clear F; clear a; intro a F
        refine stepD rfl F rfl (o_pickT (F.ev rfl) (F.ev rfl) ?_); clear F; clear a; intro a F
        refine stepD rfl F rfl (o_move (F.ev rfl) ?_); clear F; clear a; intro a F
        refine stepOff F rfl rfl rfl rfl ?_; clear F; clear a; intro a F
        refine stepOff F rfl rfl rfl rfl ?_; clear F; clear a; intro a F
        refine stepOff F rfl rfl rfl rfl ?_; clear F; clear a; intro a F
        refine stepOff F rfl rfl rfl rfl ?_; clear F; clear a; intro a F
        refine stepOff F rfl rfl rfl rfl ?_; clear F; clear a; intro a F
        refine stepOff F rfl rfl rfl rfl ?_; clear F; clear a; intro a F
        refine stepD rfl F rfl (o_pickT (F.ev rfl) (F.ev rfl) ?_); clear F; clear a; intro a F
        with_reducible refine l_nil ?_
        with_reducible refine q_then ?_
        refine c_true F rfl rfl ?_
        with_reducible refine c_region ?_
        refine stepD rfl F rfl (o_move (F.ev rfl) ?_); clear F; clear a; intro a F
        (refine stepD rfl F rfl (s_add (F.ev rfl) (F.ev rfl) (by rw [txt_len]; simp; omega) ?_); clear F; clear a; intro a F)
        rw [show txt (shape ip st len i) ++ _ = _ from txt_c1 _] at F
        refine stepD rfl F rfl (o_assign (F.ev rfl) ?_); clear F; clear a; intro a F
        with_reducible refine l_nil ?_
        with_reducible refine q_then ?_
        with_reducible refine c_seq ?_
        with_reducible refine c_region ?_
        refine stepD rfl F rfl (o_move (F.ev rfl) ?_); clear F; clear a; intro a F
        refine stepD rfl F rfl (o_loadA M (F.ev rfl) (by repeat (first | exact .here | apply Has.there)) (by first | assumption | rfl) ?_); clear F; clear a; intro a F
        refine stepD rfl F rfl (o_move (F.ev rfl) ?_); clear F; clear a; intro a F
        (refine stepD rfl F rfl (o_call (F.ev rfl) (F.evs rfl) (Cal.mono (rgroup_c ip h i hlt _) ?_)); clear F; clear a; rintro _ w ⟨rfl, hE⟩ a F; replace M := M.later hE; clear hE)
        (refine stepD rfl F rfl (o_call (F.ev rfl) (F.evs rfl) (Cal.mono (rtext_c _ hgb.1 hgb.2 _) ?_)); clear F; clear a; rintro _ w ⟨rfl, hE⟩ a F; replace M := M.later hE; clear hE)
        (refine stepD rfl F rfl (s_add (F.ev rfl) (F.ev rfl) (by rw [txt_len, txt_len]; simp; omega) ?_); clear F; clear a; intro a F)
        refine stepD rfl F rfl (o_assign (F.ev rfl) ?_); clear F; clear a; intro a F
        with_reducible refine l_nil ?_
        with_reducible refine q_then ?_
        with_reducible refine c_region ?_
        refine stepD rfl F rfl (o_move (F.ev rfl) ?_); clear F; clear a; intro a F
        refine stepD rfl F rfl (o_add (F.ev rfl) (F.ev rfl) (w_i64 (by omega) (by omega)) ?_); clear F; clear a; intro a F
        refine stepD rfl F rfl (o_assign (F.ev rfl) ?_); clear F; clear a; intro a F
        with_reducible refine l_nil ?_
        with_reducible refine q_inB ?_
        with_reducible refine q_then ?_
        exact ⟨_, by omega, i + 1, rfl, by omega, by rw [hsh, txt_append]; exact F.only [8, 7, 4, 3, 1] rfl, M⟩
    · obtain rfl : i = 8 := by omega
      with_reducible refine c_seq ?_
      with_reducible refine c_seq ?_
      with_reducible refine c_region ?_
      refine stepD rfl F rfl (o_move (F.ev rfl) ?_); clear F; clear a; intro a F
      refine stepD rfl F rfl (o_lssF (F.ev rfl) (F.ev rfl) (by omega) ?_); clear F; clear a; intro a F
      with_reducible refine l_nil ?_
      with_reducible refine q_then ?_
      refine c_false F rfl rfl ?_
      with_reducible refine c_exit ?_
      with_reducible refine q_thenX ?_
      with_reducible refine q_thenX ?_
      with_reducible refine q_inBX ?_
      with_reducible refine q_then ?_
      with_reducible refine c_seq ?_
      with_reducible refine c_region ?_
      refine stepD rfl F rfl (o_move (F.ev rfl) ?_); clear F; clear a; intro a F
      refine stepD rfl F rfl (o_assign (F.ev rfl) ?_); clear F; clear a; intro a F
      with_reducible refine l_nil ?_
      with_reducible refine q_then ?_
      with_reducible refine c_ret ?_
      refine p_ret F rfl (.cons (.tmp (F.ev rfl)) .nil) ?_
      exact ⟨rfl, M.ext⟩
end Go.Proofs.YtadnpidadcgdcaaDoor

/-! W4 -/
/-
  multihoplaw04.text.
-/
namespace Go.Proofs.YtadnpidadcgdcaaDoor
set_option linter.unusedVariables false
set_option linter.unusedSimpArgs false
open Go.RowKit
attribute [local irreducible] OpTo wpListIn Code.wpIn MW Cal

def words12 : List (List UInt8) := [[48], [49], [102, 101, 56, 48], [68, 66, 56], [58, 58], [58], [48, 48, 97], [49, 50, 51, 52, 53], [103], [58, 48], [58, 49], [58, 102, 48]]
def words7 : List (List UInt8) := [[47, 48], [47, 54, 52], [47, 49, 50, 56], [47, 49, 50, 57], [47], [47, 48, 49], [47, 55]]
def textGo (xs : List Int) : Nat → Nat → List UInt8 → List UInt8 × Nat
  | 0, k, s => (s, k)
  | n + 1, k, s => textGo xs n (nxK xs k) (s ++ words12.getD (nxV xs k 12).toNat [])
def textE (xs : List Int) (r : List UInt8 × Nat) : List UInt8 := if boolV xs r.2 3 then r.1 ++ words7.getD (nxV xs (nxK xs r.2) 7).toNat [] else r.1
def textV (xs : List Int) : List UInt8 := textE xs (textGo xs (nxV xs 0 10).toNat (nxK xs 0) [])
theorem textE_f {xs : List Int} {s : List UInt8} {k : Nat} (h : boolV xs k 3 = false) : textE xs (s, k) = s := by simp [textE, h]
theorem textE_t {xs : List Int} {s : List UInt8} {k : Nat} (h : boolV xs k 3 = true) : textE xs (s, k) = s ++ words7.getD (nxV xs (nxK xs k) 7).toNat [] := by simp [textE, h]
theorem words12_len (i : Nat) : (words12.getD i []).length ≤ 5 := by
  by_cases h : i < 12
  · have hall : ∀ q : Fin 12, (words12.getD q.1 []).length ≤ 5 := by decide
    exact hall ⟨i, h⟩
  · rw [List.getD_eq_getElem?_getD, List.getElem?_eq_none (by simp [words12]; omega)]; simp
theorem words7_len (i : Nat) : (words7.getD i []).length ≤ 5 := by
  by_cases h : i < 7
  · have hall : ∀ q : Fin 7, (words7.getD q.1 []).length ≤ 5 := by decide
    exact hall ⟨i, h⟩
  · rw [List.getD_eq_getElem?_getD, List.getElem?_eq_none (by simp [words7]; omega)]; simp
theorem textGo_len (xs : List Int) : ∀ n k s, (textGo xs n k s).1.length ≤ s.length + 5 * n
  | 0, k, s => by simp [textGo]
  | n + 1, k, s => by
    have := textGo_len xs n (nxK xs k) (s ++ words12.getD (nxV xs k 12).toNat [])
    have h2 := words12_len (nxV xs k 12).toNat
    rw [List.length_append] at this
    simp only [textGo]; omega
theorem textV_len (xs : List Int) : (textV xs).length ≤ 50 := by
  have h1 := nxV_bd xs 0 (n := 10) (by omega)
  have h2 := textGo_len xs (nxV xs 0 10).toNat (nxK xs 0) []
  have h3 := words7_len (nxV xs (nxK xs (textGo xs (nxV xs 0 10).toNat (nxK xs 0) []).2) 7).toNat
  simp only [List.length_nil] at h2
  unfold textV textE
  split
  · rw [List.length_append]; omega
  · omega
theorem nth_words (L : List (List UInt8)) {i : Nat} (h : i < L.length) : nth (L.map mkS) i = some (mkS (L.getD i [])) := by
  rw [nth_spec]; simp [h]

set_option maxHeartbeats 2000000 in
theorem text_c {pt : Option Addr} {cap : Nat} (xs : List Int) (W : World) (hI : IntsAt W (.slice pt xs.length cap) xs) (hcap : xs.length ≤ cap) : Cal Tryd.prog 13 [.slice pt xs.length cap].toArray W fun x w' => x = mkS (textV (cut400 xs)) ∧ Ext [] W w' := by
  have hmem : 0 < xs.length → ∃ b o cs t fz, pt = some ⟨b, o, none⟩ ∧ W.heap[b]? = some (.cells cs t fz) ∧ seg cs.toList o xs.length = some (i64C xs) := fun hl => by
    obtain ⟨p', cap', h1, _, h3⟩ := hI.ex
    cases h1
    exact h3 hl
  have hbd0 := hI.bd
  refine fn_ofM (n := 31) [] Tryd.func13 rfl rfl rfl ?_
  intro a w F M hwW
  with_reducible refine c_seq ?_
  with_reducible refine c_region ?_
  refine stepD rfl F rfl (o_assign (F.ev rfl) ?_); clear F; clear a; intro a F
  with_reducible refine l_nil ?_
  with_reducible refine q_then ?_
  with_reducible refine c_seq ?_
  with_reducible refine c_region ?_
  refine stepD rfl F rfl (o_move (F.ev rfl) ?_); clear F; clear a; intro a F
  (refine stepD rfl F rfl (o_call (F.ev rfl) (F.evs rfl) (Cal.mono (new_c xs _ (hI.later M.ext) hcap ) ?_)); clear F; clear a; rintro _ w ⟨bt, rfl, N⟩ a F; replace M := M.joins N; clear N)
  have hown := (M.own (bt, _) (List.mem_cons_self)).resolve_left (by simp)
  have hT : TapeS W bt pt (cut400 xs).length (cut400 xs) := tape_new (Ext.refl [] W) hown hbd0 hmem
  clear hI hcap hmem hbd0 hown
  generalize hys : cut400 xs = ys at *
  clear hys
  replace M : Mem [] W w [(bt, tobj pt ys.length cap 0)] := M
  refine stepD rfl F rfl (o_assign (F.ev rfl) ?_); clear F; clear a; intro a F
  with_reducible refine l_nil ?_
  with_reducible refine q_then ?_
  with_reducible refine c_seq ?_
  with_reducible refine c_region ?_
  refine stepD rfl F rfl (o_assign (F.ev rfl) ?_); clear F; clear a; intro a F
  with_reducible refine l_nil ?_
  with_reducible refine q_then ?_
  with_reducible refine c_seq ?_
  with_reducible refine c_seq ?_
  with_reducible refine c_region ?_
  refine stepD rfl F rfl (o_move (F.ev rfl) ?_); clear F; clear a; intro a F
  (refine stepD rfl F rfl (o_call (F.ev rfl) (F.evs rfl) (Cal.mono (next_c 10 (by omega) (by omega) _ (hT.later M.ext.any) (M.heap .here) ) ?_)); clear F; clear a; have M0 := M; clear M; rintro _ w ⟨rfl, N⟩ a F)
  replace M := M0.turn1 N .here
  clear M0 N
  have h10 := nxV_bd ys 0 (n := 10) (by omega)
  obtain ⟨n0, hn0⟩ := Int.eq_ofNat_of_zero_le h10.1
  have htv : textV ys = textE ys (textGo ys n0 (nxK ys 0) []) := by unfold textV; rw [hn0]; rfl
  rw [htv]
  rw [hn0] at F h10
  refine stepD rfl F rfl (o_assign (F.ev rfl) ?_); clear F; clear a; intro a F
  with_reducible refine l_nil ?_
  with_reducible refine q_then ?_
  with_reducible refine c_block ?_
  refine c_loop (fun k a w => ∃ (j kk : Nat) (s : List UInt8), k = j ∧ j ≤ 9 ∧ s.length + 5 * j ≤ 45 ∧ textGo ys j kk s = textGo ys n0 (nxK ys 0) [] ∧ Frm a 31 [] [(5, .int .i64 j), (4, mkS s), (3, .pointer (some ⟨bt, 0, none⟩))] ∧ Mem [] W w [(bt, tobj pt ys.length cap kk)]) n0 ⟨n0, nxK ys 0, [], rfl, by omega, by simp; omega, rfl, F.only [5, 4, 3] rfl, M⟩ ?_
  clear F M
  rintro k a w ⟨j, kk, s, hk, hj, hsl, hgo, F, M⟩
  by_cases hlt : 0 < j
  · obtain ⟨j, rfl⟩ : ∃ q, j = q + 1 := ⟨j - 1, by omega⟩
    have h12 := nxV_bd ys kk (n := 12) (by omega)
    have hw := words12_len (nxV ys kk 12).toNat
    have hn := nth_words words12 (i := 0 + (nxV ys kk 12).toNat * 1) (by simp [words12]; omega)
    with_reducible refine c_seq ?_
    with_reducible refine c_seq ?_
    with_reducible refine c_region ?_
    refine stepD rfl F rfl (o_move (F.ev rfl) ?_); clear F; clear a; intro a F
    refine stepD rfl F rfl (o_gtrT (F.ev rfl) (F.ev rfl) (by omega) ?_); clear F; clear a; intro a F
    with_reducible refine l_nil ?_
    with_reducible refine q_then ?_
    refine c_true F rfl rfl ?_
    with_reducible refine c_skip ?_
    with_reducible refine q_then ?_
    with_reducible refine c_seq ?_
    with_reducible refine c_block ?_
    with_reducible refine c_region ?_
    refine stepD rfl F rfl (o_move (F.ev rfl) ?_); clear F; clear a; intro a F
    (refine stepD rfl F rfl (o_buildSlice F M rfl rfl rfl rfl ?_); clear F; clear M; intro b15 w M a F)
    replace M : Mem [] W w [(b15, .cells (words12.map mkS).toArray 9 (0, 0)), (bt, tobj pt ys.length cap kk)] := M
    refine stepD rfl F rfl (o_move (F.ev rfl) ?_); clear F; clear a; intro a F
    (refine stepD rfl F rfl (o_call (F.ev rfl) (F.evs rfl) (Cal.mono (next_c 12 (by omega) (by omega) _ (hT.later M.ext.any) (M.heap (.there .here)) ) ?_)); clear F; clear a; have M0 := M; clear M; rintro _ w ⟨rfl, N⟩ a F)
    replace M := M0.turn1 N (.there .here)
    clear M0 N
    refine stepD rfl F rfl (o_indexSl (F.ev rfl) (F.ev rfl) (by omega) (by omega) ?_); clear F; clear a; intro a F
    refine stepD rfl F rfl (o_load1 M (F.ev rfl) (by repeat (first | exact .here | apply Has.there)) (by first | assumption | rfl) ?_); clear F; clear a; intro a F
    rw [show 0 + (nxV ys kk 12).toNat * 1 = (nxV ys kk 12).toNat by omega] at F
    (refine stepD rfl F rfl (s_add (F.ev rfl) (F.ev rfl) (by omega) ?_); clear F; clear a; intro a F)
    refine stepD rfl F rfl (o_assign (F.ev rfl) ?_); clear F; clear a; intro a F
    with_reducible refine l_nil ?_
    with_reducible refine q_inB ?_
    with_reducible refine q_then ?_
    with_reducible refine c_region ?_
    refine stepD rfl F rfl (o_move (F.ev rfl) ?_); clear F; clear a; intro a F
    refine stepD rfl F rfl (o_sub (F.ev rfl) (F.ev rfl) (w_i64 (by omega) (by omega)) ?_); clear F; clear a; intro a F
    refine stepD rfl F rfl (o_assign (F.ev rfl) ?_); clear F; clear a; intro a F
    with_reducible refine l_nil ?_
    with_reducible refine q_then ?_
    rw [show ((j + 1 : Nat) : Int) - 1 = (j : Int) by omega] at F
    exact ⟨j, by omega, j, nxK ys kk, s ++ words12.getD (nxV ys kk 12).toNat [], rfl, by omega, by rw [List.length_append]; omega, hgo, F.only [5, 4, 3] rfl, M.sub (List.sublist_cons_self _ _)⟩
  obtain rfl : j = 0 := by omega
  rw [← hgo, show textGo ys 0 kk s = (s, kk) from rfl]
  with_reducible refine c_seq ?_
  with_reducible refine c_seq ?_
  with_reducible refine c_region ?_
  refine stepD rfl F rfl (o_move (F.ev rfl) ?_); clear F; clear a; intro a F
  refine stepD rfl F rfl (o_gtrF (F.ev rfl) (F.ev rfl) (by omega) ?_); clear F; clear a; intro a F
  with_reducible refine l_nil ?_
  with_reducible refine q_then ?_
  refine c_false F rfl rfl ?_
  with_reducible refine c_exit ?_
  with_reducible refine q_thenX ?_
  with_reducible refine q_thenX ?_
  with_reducible refine q_inBX ?_
  with_reducible refine q_then ?_
  with_reducible refine c_seq ?_
  with_reducible refine c_seq ?_
  with_reducible refine c_region ?_
  refine stepD rfl F rfl (o_move (F.ev rfl) ?_); clear F; clear a; intro a F
  (refine stepD rfl F rfl (o_call (F.ev rfl) (F.evs rfl) (Cal.mono (bool_c 3 (by omega) (by omega) _ (hT.later M.ext.any) (M.heap .here) ) ?_)); clear F; clear a; have M0 := M; clear M; rintro _ w ⟨rfl, N⟩ a F)
  replace M := M0.turn1 N .here
  clear M0 N
  obtain hb | hb : boolV ys kk 3 = false ∨ boolV ys kk 3 = true := by cases boolV ys kk 3 <;> simp
  · rw [hb] at F
    with_reducible refine l_nil ?_
    with_reducible refine q_then ?_
    refine c_false F rfl rfl ?_
    with_reducible refine c_skip ?_
    with_reducible refine q_then ?_
    with_reducible refine c_seq ?_
    with_reducible refine c_region ?_
    refine stepD rfl F rfl (o_move (F.ev rfl) ?_); clear F; clear a; intro a F
    refine stepD rfl F rfl (o_assign (F.ev rfl) ?_); clear F; clear a; intro a F
    with_reducible refine l_nil ?_
    with_reducible refine q_then ?_
    with_reducible refine c_ret ?_
    refine p_ret F rfl (.cons (.tmp (F.ev rfl)) .nil) ?_
    exact ⟨by rw [textE_f hb]; rfl, M.ext⟩
  · rw [hb] at F
    have h7 := nxV_bd ys (nxK ys kk) (n := 7) (by omega)
    have hw := words7_len (nxV ys (nxK ys kk) 7).toNat
    have hn := nth_words words7 (i := 0 + (nxV ys (nxK ys kk) 7).toNat * 1) (by simp [words7]; omega)
    with_reducible refine l_nil ?_
    with_reducible refine q_then ?_
    refine c_true F rfl rfl ?_
    with_reducible refine c_region ?_
    refine stepD rfl F rfl (o_move (F.ev rfl) ?_); clear F; clear a; intro a F
    (refine stepD rfl F rfl (o_buildSlice F M rfl rfl rfl rfl ?_); clear F; clear M; intro b24 w M a F)
    replace M : Mem [] W w [(b24, .cells (words7.map mkS).toArray 9 (0, 0)), (bt, tobj pt ys.length cap (nxK ys kk))] := M
    refine stepD rfl F rfl (o_move (F.ev rfl) ?_); clear F; clear a; intro a F
    (refine stepD rfl F rfl (o_call (F.ev rfl) (F.evs rfl) (Cal.mono (next_c 7 (by omega) (by omega) _ (hT.later M.ext.any) (M.heap (.there .here)) ) ?_)); clear F; clear a; have M0 := M; clear M; rintro _ w ⟨rfl, N⟩ a F)
    replace M := M0.turn1 N (.there .here)
    clear M0 N
    refine stepD rfl F rfl (o_indexSl (F.ev rfl) (F.ev rfl) (by omega) (by omega) ?_); clear F; clear a; intro a F
    refine stepD rfl F rfl (o_load1 M (F.ev rfl) (by repeat (first | exact .here | apply Has.there)) (by first | assumption | rfl) ?_); clear F; clear a; intro a F
    rw [show 0 + (nxV ys (nxK ys kk) 7).toNat * 1 = (nxV ys (nxK ys kk) 7).toNat by omega] at F
    (refine stepD rfl F rfl (s_add (F.ev rfl) (F.ev rfl) (by omega) ?_); clear F; clear a; intro a F)
    refine stepD rfl F rfl (o_assign (F.ev rfl) ?_); clear F; clear a; intro a F
    with_reducible refine l_nil ?_
    with_reducible refine q_then ?_
    with_reducible refine c_seq ?_
    with_reducible refine c_region ?_
    refine stepD rfl F rfl (o_move (F.ev rfl) ?_); clear F; clear a; intro a F
    refine stepD rfl F rfl (o_assign (F.ev rfl) ?_); clear F; clear a; intro a F
    with_reducible refine l_nil ?_
    with_reducible refine q_then ?_
    with_reducible refine c_ret ?_
    refine p_ret F rfl (.cons (.tmp (F.ev rfl)) .nil) ?_
    exact ⟨by rw [textE_t hb]; rfl, M.ext⟩
end Go.Proofs.YtadnpidadcgdcaaDoor

/-! LibP -/
/-
  The calculus, part P: '[]byte(s)', and a store of one cell into such bytes.
-/
namespace Go.Proofs.YtadnpidadcgdcaaDoor
set_option linter.unusedVariables false
set_option linter.unusedSimpArgs false
open Go.RowKit

section
variable {P : Program} {ρ : Operand → Value} {w W0 : World} {S : List Nat} {l l' : List (Nat × Obj)} {R : Value → World → Prop} {d : Option Tmp} {ty : TypeId} {pos : String} {af : Array Edge} {g : Option (Nat × Bool)}

/-- the cells of bytes -/
def bysC (bs : List UInt8) : List Value := bs.map fun c => .int .u8 c.toNat
theorem o_convSB {s t e : TypeId} {x : Operand} {bs : List UInt8} (M : Mem S W0 w l) (hx : ρ x = mkS bs) [hs : TU P s .string] [ht : TU P t (.slice e)] [he : TU P e (.int .u8)]
    (h : ∀ b cap junk w', bs.length ≤ cap → Mem S W0 w' ((b, .cells (bysC bs ++ junk).toArray e (bs.length + junk.length, bs.length + junk.length + 1)) :: l) → R (.slice (some ⟨b, 0, none⟩) bs.length cap) w') : OpTo P ⟨d, .convert s t x, ty, pos, af, g⟩ ρ w R := by
  have hrun := run_bytes_of_string (P := P) w s t e ⟨bs.toArray⟩ hs.h ht.h he.h
  rw [mkS_size] at hrun
  have hrow : bytesRow ⟨bs.toArray⟩ (grownCap w bs.length 0 e) = (bysC bs ++ List.replicate (grownCap w bs.length 0 e - bs.length) (Value.int .u8 0)).toArray := by
    unfold bytesRow
    rw [mkS_size]
    apply Array.ext'
    simp [bysC]
  rw [hrow] at hrun
  have hsz : (bysC bs ++ List.replicate (grownCap w bs.length 0 e - bs.length) (Value.int .u8 0)).toArray.size = bs.length + (List.replicate (grownCap w bs.length 0 e - bs.length) (Value.int .u8 0)).length := by simp [bysC]
  rw [hsz] at hrun
  generalize hj : List.replicate (grownCap w bs.length 0 e - bs.length) (Value.int .u8 0) = junk at *
  generalize hc : grownCap w bs.length 0 e = cap at *
  have hge : bs.length ≤ cap := by rw [← hc]; exact grownCap_ge w _ _ _
  refine OpTo.val (v := .slice (some ⟨w.heap.size, 0, none⟩) bs.length cap) (w' := w.drew.alloc (.cells (bysC bs ++ junk).toArray e (bs.length + junk.length, bs.length + junk.length + 1))) ?_ (h _ _ _ _ hge ((M.later (Ext.drawn w (w.drawn + 1))).alloc _))
  simp only [execOp, hx]; simp only [Sem.run_bind, hrun, Result.andThen_ok, Sem.run_pure]

theorem o_storeZ {t : TypeId} {x y : Operand} {b off N N' : Nat} {cs cs' : List Value} {t' : TypeId} {v : Value} [hs : TSz P t 1] (M : Mem S W0 w l) (hx : ρ x = .pointer (some ⟨b, off, none⟩)) (hy : ρ y = v) (h1 : v.oneCell' = true) (hb : Has l b (.cells cs.toArray t' (N, N'))) (hN : off < N) (hc : off < cs.length) (hp : cs.set off v = cs')
    (hu : Upd l b (.cells cs.toArray t' (N, N')) (.cells cs'.toArray t' (N, N')) l') (h : ∀ w', Mem S W0 w' l' → R undef w') : OpTo P ⟨d, .store t x y, ty, pos, af, g⟩ ρ w R := by
  subst hp
  have hvc : v.cells = #[v] := by cases v <;> simp_all [Value.oneCell', Value.cells]
  have hbb := M.heap hb
  have hcell : w.cell? ⟨b, off, none⟩ = some cs[off] := cell_at hbb (by simp [hc])
  have hf : w.frozen? ⟨b, off, none⟩ = false := by simp [World.frozen?, hbb]; omega
  have hr : (store ⟨b, off, none⟩ v : Sem Unit).run P w = .ok () (w.setCell ⟨b, off, none⟩ v) := by
    rw [run_store P w _ v _ h1, hcell]
    simp [hf]
  have hh : (w.setCell ⟨b, off, none⟩ v).heap[b]? = some (.cells (cs.set off v).toArray t' (N, N')) := by
    simp [World.setCell, Array.getElem?_modify, hbb]
  refine OpTo.skip (w' := w.setCell ⟨b, off, none⟩ v) ?_ (h _ (M.turned hu (Ext.setCell w ⟨b, off, none⟩ v) hh))
  simp only [execOp, Instr.storeAt, Instr.sureAddr, hx, hy, storeVar, Sem.run_bind, Sem.run_pure, Result.andThen_ok, run_sizeOf hs.h, hvc]
  simp [storeCells, addr_add, hr]
end
end Go.Proofs.YtadnpidadcgdcaaDoor

/-! A2 -/
/-
  octets.Uint, address.Split.
-/
namespace Go.Proofs.YtadnpidadcgdcaaDoor
set_option linter.unusedVariables false
set_option linter.unusedSimpArgs false
open Go.RowKit
attribute [local irreducible] OpTo wpListIn Code.wpIn MW Cal

/-- the number of a row of bytes, the first one highest -/
def beN (xs : List Int) : Int := xs.foldl (fun v c => 256 * v + c) 0
theorem beN_snoc (xs : List Int) (c : Int) : beN (xs ++ [c]) = 256 * beN xs + c := by simp [beN]
theorem beN_bd : ∀ (n : Nat) (xs : List Int), xs.length = n → (∀ x ∈ xs, 0 ≤ x ∧ x < 256) → 0 ≤ beN xs ∧ beN xs < ((256 ^ n : Nat) : Int)
  | 0, xs, hl, _ => by
    have : xs = [] := List.length_eq_zero_iff.1 hl
    subst this; simp [beN]
  | n + 1, xs, hl, h => by
    obtain ⟨ys, c, rfl⟩ : ∃ ys c, xs = ys ++ [c] := ⟨xs.dropLast, xs.getLast (by intro e; rw [e] at hl; cases hl), (List.dropLast_concat_getLast _).symm⟩
    have ih := beN_bd n ys (by simpa using hl) (fun x hx => h x (by simp [hx]))
    have hc := h c (by simp)
    rw [beN_snoc, Nat.pow_succ]
    omega
theorem shl8u64 {v c : Int} (h0 : 0 ≤ v) (h1 : v < 72057594037927936) (c0 : 0 ≤ c) (c1 : c < 256) : bitsOf .or .u64 (IntKind.u64.wrap (v * 2 ^ min (Int.toNat 8) IntKind.u64.bits)) c = 256 * v + c := by
  obtain ⟨q, rfl⟩ := Int.eq_ofNat_of_zero_le h0
  obtain ⟨n, rfl⟩ := Int.eq_ofNat_of_zero_le c0
  have e : IntKind.u64.wrap ((q : Int) * 2 ^ min (Int.toNat 8) IntKind.u64.bits) = ((2 ^ 8 * q : Nat) : Int) := by
    have : ((q : Int) * 2 ^ min (Int.toNat 8) IntKind.u64.bits) = ((2 ^ 8 * q : Nat) : Int) := by
      show (q : Int) * 256 = _
      omega
    rw [this]
    exact wrap_u rfl (show 2 ^ 8 * q < 18446744073709551616 by omega)
  rw [e, or_add (k := .u64) rfl 8 q n (by omega) (show 2 ^ 8 * q + n < 18446744073709551616 by omega)]
  omega
theorem seg_at {cs : List Value} {off n i : Nat} {xs : List Int} (h : seg cs off n = some (ipC xs)) (hi : i < n) {q : Nat} (hq : q = off + i) : nth cs q = some (.int .u8 (xs.getD i 0)) := by
  obtain ⟨h1, h2⟩ := seg_spec _ _ _ _ h
  have := h2 i hi
  subst hq
  rw [nth_spec, this]
  have hxn : xs.length = n := by simpa [ipC] using h1
  have hl : i < xs.length := by omega
  simp [ipC, hl]

set_option maxHeartbeats 400000 in
theorem uint_c {b o len cap : Nat} {at_ n : Nat} {cs : List Value} {t : TypeId} {fz : Nat × Nat} (xs : List Int) (W : World) (hb : W.heap[b]? = some (.cells cs.toArray t fz)) (hs : seg cs (o + at_) n = some (ipC xs)) (hx : ∀ x ∈ xs, 0 ≤ x ∧ x < 256) (h1 : 1 ≤ n) (h8 : n ≤ 8) (hl : at_ + n ≤ len) (hc : len ≤ cap) (hm : cap ≤ 9223372036854775807) :
    Cal Tryd.prog 70 [.slice (some ⟨b, o, none⟩) len cap, .int .i64 at_, .int .i64 n].toArray W fun v w' => v = .tuple #[.int .u64 (beN xs), .bool true] ∧ Ext [] W w' := by
  have hxl : xs.length = n := by have := (seg_spec _ _ _ _ hs).1; simpa [ipC] using this
  refine fn_ofM (n := 47) [b] Tryd.func70 rfl rfl rfl ?_
  intro a w F M hwW
  replace M := M.came hwW hb (by simp) (by simp)
  with_reducible refine c_seq ?_
  with_reducible refine c_region ?_
  refine stepD rfl F rfl (o_assign (F.ev rfl) ?_); clear F; clear a; intro a F
  refine stepD rfl F rfl (o_assign (F.ev rfl) ?_); clear F; clear a; intro a F
  with_reducible refine l_nil ?_
  with_reducible refine q_then ?_
  with_reducible refine c_seq ?_
  with_reducible refine c_seq ?_
  with_reducible refine c_region ?_
  refine stepD rfl F rfl (o_move (F.ev rfl) ?_); clear F; clear a; intro a F
  refine stepD rfl F rfl (o_lssF (F.ev rfl) (F.ev rfl) (by omega) ?_); clear F; clear a; intro a F
  refine stepD rfl F rfl (o_move (F.ev rfl) ?_); clear F; clear a; intro a F
  refine stepG rfl F rfl rfl rfl (o_move (F.ev rfl) ?_); clear F; clear a; intro a F
  refine stepG rfl F rfl rfl rfl (o_gtrF (F.ev rfl) (F.ev rfl) (by omega) ?_); clear F; clear a; intro a F
  refine stepD rfl F rfl (o_pickF (F.ev rfl) (F.ev rfl) ?_); clear F; clear a; intro a F
  refine stepD rfl F rfl (o_move (F.ev rfl) ?_); clear F; clear a; intro a F
  refine stepG rfl F rfl rfl rfl (o_move (F.ev rfl) ?_); clear F; clear a; intro a F
  refine stepG rfl F rfl rfl rfl (o_lssF (F.ev rfl) (F.ev rfl) (by omega) ?_); clear F; clear a; intro a F
  refine stepD rfl F rfl (o_pickF (F.ev rfl) (F.ev rfl) ?_); clear F; clear a; intro a F
  refine stepD rfl F rfl (o_move (F.ev rfl) ?_); clear F; clear a; intro a F
  refine stepG rfl F rfl rfl rfl (o_move (F.ev rfl) ?_); clear F; clear a; intro a F
  refine stepG rfl F rfl rfl rfl (o_move (F.ev rfl) ?_); clear F; clear a; intro a F
  refine stepG rfl F rfl rfl rfl (o_lenSl (F.ev rfl) ?_); clear F; clear a; intro a F
  refine stepG rfl F rfl rfl rfl (o_move (F.ev rfl) ?_); clear F; clear a; intro a F
  refine stepG rfl F rfl rfl rfl (o_sub (F.ev rfl) (F.ev rfl) (w_i64 (by omega) (by omega)) ?_); clear F; clear a; intro a F
  refine stepG rfl F rfl rfl rfl (o_gtrF (F.ev rfl) (F.ev rfl) (by omega) ?_); clear F; clear a; intro a F
  refine stepD rfl F rfl (o_pickF (F.ev rfl) (F.ev rfl) ?_); clear F; clear a; intro a F
  with_reducible refine l_nil ?_
  with_reducible refine q_then ?_
  refine c_false F rfl rfl ?_
  with_reducible refine c_skip ?_
  with_reducible refine q_then ?_
  with_reducible refine c_seq ?_
  with_reducible refine c_region ?_
  refine stepD rfl F rfl (o_assign (F.ev rfl) ?_); clear F; clear a; intro a F
  with_reducible refine l_nil ?_
  with_reducible refine q_then ?_
  with_reducible refine c_seq ?_
  with_reducible refine c_seq ?_
  with_reducible refine c_region ?_
  refine stepD rfl F rfl (o_move (F.ev rfl) ?_); clear F; clear a; intro a F
  refine stepD rfl F rfl (o_move (F.ev rfl) ?_); clear F; clear a; intro a F
  refine stepD rfl F rfl (o_move (F.ev rfl) ?_); clear F; clear a; intro a F
  refine stepD rfl F rfl (o_move (F.ev rfl) ?_); clear F; clear a; intro a F
  refine stepD rfl F rfl (o_add (F.ev rfl) (F.ev rfl) (w_i64 (by omega) (by omega)) ?_); clear F; clear a; intro a F
  (refine stepD rfl F rfl (o_slLH (F.ev rfl) (F.ev rfl) (F.ev rfl) (by omega) (by omega) (by omega) (by omega) ?_); clear F; clear a; intro a F)
  refine stepD rfl F rfl (o_lenSl (F.ev rfl) ?_); clear F; clear a; intro a F
  refine stepD rfl F rfl (o_move (F.ev rfl) ?_); clear F; clear a; intro a F
  with_reducible refine l_nil ?_
  with_reducible refine q_then ?_
  with_reducible refine c_block ?_
  refine c_loop (fun k a w => ∃ i : Nat, k = n - i ∧ i ≤ n ∧ Frm a 47 [] [(36, .int .i64 i), (35, .int .i64 n), (34, .slice (some ⟨b, o + at_, none⟩) n (cap - at_)), (8, .int .u64 (beN (xs.take i)))] ∧ Mem [b] W w [(b, .cells cs.toArray t fz)]) n ⟨0, rfl, by omega, ?_, M⟩ ?_
  · have e1 : (((at_ : Int) + (n : Int)).toNat - (at_ : Int).toNat) = n := by omega
    have e2 : o + (at_ : Int).toNat * 1 = o + at_ := by omega
    have e3 : cap - (at_ : Int).toNat = cap - at_ := by omega
    rw [e1, e2, e3] at F
    exact F.only [36, 35, 34, 8] rfl
  clear F M
  rintro k a w ⟨i, hk, hi, F, M⟩
  by_cases hlt : i < n
  · have e1 := seg_at hs hlt (q := o + at_ + (i : Int).toNat * 1) (by omega)
    have hg := hx (xs.getD i 0) (by rw [List.getD_eq_getElem?_getD, List.getElem?_eq_getElem (by omega)]; exact List.getElem_mem _)
    have hv := beN_bd i (xs.take i) (by rw [List.length_take]; omega) (fun x h => hx x (List.mem_of_mem_take h))
    have hp : 256 ^ i ≤ 72057594037927936 := Nat.le_trans (Nat.pow_le_pow_right (by omega) (show i ≤ 7 by omega)) (by decide)
    with_reducible refine c_seq ?_
    with_reducible refine c_region ?_
    refine stepD rfl F rfl (o_lssT (F.ev rfl) (F.ev rfl) (by omega) ?_); clear F; clear a; intro a F
    with_reducible refine l_nil ?_
    with_reducible refine q_then ?_
    with_reducible refine c_seq ?_
    refine c_true F rfl rfl ?_
    with_reducible refine c_skip ?_
    with_reducible refine q_then ?_
    with_reducible refine c_seq ?_
    with_reducible refine c_block ?_
    with_reducible refine c_seq ?_
    with_reducible refine c_region ?_
    refine stepD rfl F rfl (o_indexSl (F.ev rfl) (F.ev rfl) (by omega) (by omega) ?_); clear F; clear a; intro a F
    refine stepD rfl F rfl (o_load1 M (F.ev rfl) (by repeat (first | exact .here | apply Has.there)) (by first | assumption | rfl) ?_); clear F; clear a; intro a F
    refine stepD rfl F rfl (o_assign (F.ev rfl) ?_); clear F; clear a; intro a F
    with_reducible refine l_nil ?_
    with_reducible refine q_then ?_
    with_reducible refine c_region ?_
    refine stepD rfl F rfl (o_move (F.ev rfl) ?_); clear F; clear a; intro a F
    refine stepD rfl F rfl (o_shl (F.ev rfl) (F.ev rfl) (by omega) rfl ?_); clear F; clear a; intro a F
    refine stepD rfl F rfl (o_move (F.ev rfl) ?_); clear F; clear a; intro a F
    refine stepD rfl F rfl (o_conv (F.ev rfl) (w_u64 (by omega) (by omega)) ?_); clear F; clear a; intro a F
    refine stepD rfl F rfl (o_or (F.ev rfl) (F.ev rfl) rfl ?_); clear F; clear a; intro a F
    refine stepD rfl F rfl (o_assign (F.ev rfl) ?_); clear F; clear a; intro a F
    with_reducible refine l_nil ?_
    with_reducible refine q_inB ?_
    with_reducible refine q_then ?_
    with_reducible refine c_region ?_
    refine stepD rfl F rfl (o_add (F.ev rfl) (F.ev rfl) (w_i64 (by omega) (by omega)) ?_); clear F; clear a; intro a F
    refine stepD rfl F rfl (o_move (F.ev rfl) ?_); clear F; clear a; intro a F
    with_reducible refine l_nil ?_
    with_reducible refine q_then ?_
    rw [shl8u64 hv.1 (by omega) hg.1 hg.2] at F
    skip
    have hsn : xs.take (i + 1) = xs.take i ++ [xs.getD i 0] := by
      rw [List.take_succ_eq_append_getElem (by omega), List.getD_eq_getElem?_getD, List.getElem?_eq_getElem (by omega)]; rfl
    refine ⟨_, by omega, i + 1, rfl, by omega, ?_, M⟩
    rw [hsn, beN_snoc]
    exact F.only [36, 35, 34, 8] rfl
  · obtain rfl : i = n := by omega
    rw [List.take_of_length_le (by omega)] at F
    with_reducible refine c_seq ?_
    with_reducible refine c_region ?_
    refine stepD rfl F rfl (o_lssF (F.ev rfl) (F.ev rfl) (by omega) ?_); clear F; clear a; intro a F
    with_reducible refine l_nil ?_
    with_reducible refine q_then ?_
    with_reducible refine c_seq ?_
    refine c_false F rfl rfl ?_
    with_reducible refine c_exit ?_
    with_reducible refine q_thenX ?_
    with_reducible refine q_thenX ?_
    with_reducible refine q_inBX ?_
    with_reducible refine q_then ?_
    with_reducible refine c_seq ?_
    with_reducible refine c_region ?_
    refine stepD rfl F rfl (o_move (F.ev rfl) ?_); clear F; clear a; intro a F
    refine stepD rfl F rfl (o_assign (F.ev rfl) ?_); clear F; clear a; intro a F
    refine stepD rfl F rfl (o_assign (F.ev rfl) ?_); clear F; clear a; intro a F
    with_reducible refine l_nil ?_
    with_reducible refine q_then ?_
    with_reducible refine c_ret ?_
    refine p_ret F rfl (.cons (.tmp (F.ev rfl)) (.cons (.tmp (F.ev rfl)) .nil)) ?_
    exact ⟨rfl, M.back1 .here hb⟩

/-- the two halves -/
theorem split_c (p : List Int) (hp : IsIP p) (W : World) : Cal Tryd.prog 26 [.agg (ipC p).toArray].toArray W fun v w' => v = .tuple #[.int .u64 (beN (p.take 8)), .int .u64 (beN (p.drop 8))] ∧ Ext [] W w' := by
  have hb : ∀ x ∈ p, 0 ≤ x ∧ x < 256 := hp.bd
  have s1 : seg (ipC p) (0 + 0) 8 = some (ipC (p.take 8)) := by
    have := seg_of [] (ipC (p.take 8)) (ipC (p.drop 8))
    have hl : (ipC (p.take 8)).length = 8 := by simp [ipC, hp.len]
    rw [hl] at this
    simpa [ipC, ← List.map_append] using this
  have s2 : seg (ipC p) (0 + 8) 8 = some (ipC (p.drop 8)) := by
    have := seg_of (ipC (p.take 8)) (ipC (p.drop 8)) []
    have hl : (ipC (p.take 8)).length = 8 := by simp [ipC, hp.len]
    have hl2 : (ipC (p.drop 8)).length = 8 := by simp [ipC, hp.len]
    rw [hl, hl2] at this
    simpa [ipC, ← List.map_append] using this
  refine fn_ofM (n := 20) [] Tryd.func26 rfl rfl rfl ?_
  intro a w F M hwW
  refine c_seq ?_
  refine c_region ?_
  (refine stepD rfl F rfl (o_box M (F.ev rfl) rfl ?_); clear F; clear M; intro b1 w M a F)
  refine stepD rfl F rfl (o_assign (F.ev rfl) ?_); clear F; clear a; intro a F
  refine stepD rfl F rfl (o_assign (F.ev rfl) ?_); clear F; clear a; intro a F
  with_reducible refine l_nil ?_
  with_reducible refine q_then ?_
  with_reducible refine c_seq ?_
  with_reducible refine c_region ?_
  (refine stepD rfl F rfl (o_arrAll (F.ev rfl) ?_); clear F; clear a; intro a F)
  (refine stepD rfl F rfl (o_call (F.ev rfl) (F.evs rfl) (Cal.mono (uint_c (b := b1) (at_ := 0) (n := 8) (p.take 8) _ (M.heap .here) s1 (fun x h => hb x (List.mem_of_mem_take h)) (by omega) (by omega) (by omega) (by omega) (by omega)) ?_)); clear F; clear a; rintro _ w ⟨rfl, hE⟩ a F; replace M := M.later hE; clear hE)
  refine stepD rfl F rfl (o_move (F.ev rfl) ?_); clear F; clear a; intro a F
  refine stepD rfl F rfl (o_extract (F.ev rfl) rfl ?_); clear F; clear a; intro a F
  refine stepD rfl F rfl (o_extract (F.ev rfl) rfl ?_); clear F; clear a; intro a F
  refine stepD rfl F rfl (o_assign (F.ev rfl) ?_); clear F; clear a; intro a F
  refine stepD rfl F rfl (o_assign (F.ev rfl) ?_); clear F; clear a; intro a F
  with_reducible refine l_nil ?_
  with_reducible refine q_then ?_
  with_reducible refine c_seq ?_
  with_reducible refine c_region ?_
  (refine stepD rfl F rfl (o_arrAll (F.ev rfl) ?_); clear F; clear a; intro a F)
  (refine stepD rfl F rfl (o_call (F.ev rfl) (F.evs rfl) (Cal.mono (uint_c (b := b1) (at_ := 8) (n := 8) (p.drop 8) _ (M.heap .here) s2 (fun x h => hb x (List.mem_of_mem_drop h)) (by omega) (by omega) (by omega) (by omega) (by omega)) ?_)); clear F; clear a; rintro _ w ⟨rfl, hE⟩ a F; replace M := M.later hE; clear hE)
  refine stepD rfl F rfl (o_move (F.ev rfl) ?_); clear F; clear a; intro a F
  refine stepD rfl F rfl (o_extract (F.ev rfl) rfl ?_); clear F; clear a; intro a F
  refine stepD rfl F rfl (o_extract (F.ev rfl) rfl ?_); clear F; clear a; intro a F
  refine stepD rfl F rfl (o_assign (F.ev rfl) ?_); clear F; clear a; intro a F
  refine stepD rfl F rfl (o_assign (F.ev rfl) ?_); clear F; clear a; intro a F
  with_reducible refine l_nil ?_
  with_reducible refine q_then ?_
  with_reducible refine c_seq ?_
  with_reducible refine c_region ?_
  refine stepD rfl F rfl (o_move (F.ev rfl) ?_); clear F; clear a; intro a F
  refine stepD rfl F rfl (o_move (F.ev rfl) ?_); clear F; clear a; intro a F
  refine stepD rfl F rfl (o_assign (F.ev rfl) ?_); clear F; clear a; intro a F
  refine stepD rfl F rfl (o_assign (F.ev rfl) ?_); clear F; clear a; intro a F
  with_reducible refine l_nil ?_
  with_reducible refine q_then ?_
  with_reducible refine c_ret ?_
  refine p_ret F rfl (.cons (.tmp (F.ev rfl)) (.cons (.tmp (F.ev rfl)) .nil)) ?_
  exact ⟨rfl, M.ext⟩
end Go.Proofs.YtadnpidadcgdcaaDoor

/-! A3 -/
/-
  octets.Append onto nothing, address.Join, LinkLocal.
-/
namespace Go.Proofs.YtadnpidadcgdcaaDoor
set_option linter.unusedVariables false
set_option linter.unusedSimpArgs false
open Go.RowKit
attribute [local irreducible] OpTo wpListIn Code.wpIn MW Cal

/-- byte i of the 8 bytes of a number -/
def beAt (v : Int) (i : Nat) : Int := IntKind.u8.wrap (Int.fdiv v (2 ^ min (8 * (8 - 1 - (i : Int))).toNat 64))
def beB (v : Int) : List Int := (List.range 8).map (beAt v)
def brow (v : Int) (i : Nat) : List Value := (List.range 8).map fun j => if j < i then .int .u8 (beAt v j) else .int .u8 0
theorem brow_all (v : Int) : brow v 8 = ipC (beB v) := by
  unfold brow beB ipC
  rw [List.map_map]
  refine List.map_congr_left fun j hj => ?_
  simp [List.mem_range.1 hj]
theorem put_brow {v : Int} {i : Nat} (h : i < 8) {q : Nat} (hq : q = i) : put (brow v i) q [.int .u8 (beAt v i)] = some (brow v (i + 1)) := by
  rw [put1 (q := i) _ hq (by simp [brow]; omega)]
  congr 1
  unfold brow
  apply List.ext_getElem (by simp)
  intro j h1 h2
  simp only [List.getElem_set, List.getElem_map, List.getElem_range]
  split
  · subst_vars; simp
  · have : j < i ↔ j < i + 1 := by omega
    simp [this]

set_option maxHeartbeats 400000 in
theorem append8_c (v : Int) (h0 : 0 ≤ v) (W : World) : Cal Tryd.prog 72 [.slice none 0 0, .int .u64 v, .int .i64 8].toArray W fun x w' => ∃ b, x = .slice (some ⟨b, 0, none⟩) 8 8 ∧ Mem [] W w' [(b, .cells (ipC (beB v)).toArray 5 (0, 0))] := by
  refine fn_ofM (n := 43) [] Tryd.func72 rfl rfl rfl ?_
  intro a w F M hwW
  with_reducible refine c_seq ?_
  with_reducible refine c_region ?_
  refine stepD rfl F rfl (o_assign (F.ev rfl) ?_); clear F; clear a; intro a F
  with_reducible refine l_nil ?_
  with_reducible refine q_then ?_
  with_reducible refine c_seq ?_
  with_reducible refine c_seq ?_
  with_reducible refine c_region ?_
  refine stepD rfl F rfl (o_move (F.ev rfl) ?_); clear F; clear a; intro a F
  refine stepD rfl F rfl (o_lssF (F.ev rfl) (F.ev rfl) (by omega) ?_); clear F; clear a; intro a F
  refine stepD rfl F rfl (o_move (F.ev rfl) ?_); clear F; clear a; intro a F
  refine stepG rfl F rfl rfl rfl (o_move (F.ev rfl) ?_); clear F; clear a; intro a F
  refine stepG rfl F rfl rfl rfl (o_gtrF (F.ev rfl) (F.ev rfl) (by omega) ?_); clear F; clear a; intro a F
  refine stepD rfl F rfl (o_pickF (F.ev rfl) (F.ev rfl) ?_); clear F; clear a; intro a F
  with_reducible refine l_nil ?_
  with_reducible refine q_then ?_
  refine c_false F rfl rfl ?_
  with_reducible refine c_skip ?_
  with_reducible refine q_then ?_
  with_reducible refine c_seq ?_
  with_reducible refine c_region ?_
  refine stepD rfl F rfl (o_move (F.ev rfl) ?_); clear F; clear a; intro a F
  refine stepD rfl F rfl (o_lenSl (F.ev rfl) ?_); clear F; clear a; intro a F
  refine stepD rfl F rfl (o_move (F.ev rfl) ?_); clear F; clear a; intro a F
  refine stepD rfl F rfl (o_add (F.ev rfl) (F.ev rfl) (w_i64 (by omega) (by omega)) ?_); clear F; clear a; intro a F
  (refine stepD rfl F rfl (o_make1 M (F.ev rfl) (F.ev rfl) (by omega) (by omega) (by omega) ?_); clear F; clear M; intro b w M a F)
  refine stepD rfl F rfl (o_assign (F.ev rfl) ?_); clear F; clear a; intro a F
  with_reducible refine l_nil ?_
  with_reducible refine q_then ?_
  with_reducible refine c_seq ?_
  with_reducible refine c_region ?_
  refine stepD rfl F rfl (o_move (F.ev rfl) ?_); clear F; clear a; intro a F
  refine stepD rfl F rfl (o_move (F.ev rfl) ?_); clear F; clear a; intro a F
  (refine stepD rfl F rfl (o_copyNil (F.ev rfl) (F.ev rfl) ?_); clear F; clear a; intro a F)
  with_reducible refine l_nil ?_
  with_reducible refine q_then ?_
  with_reducible refine c_seq ?_
  with_reducible refine c_seq ?_
  with_reducible refine c_region ?_
  refine stepD rfl F rfl (o_move (F.ev rfl) ?_); clear F; clear a; intro a F
  refine stepD rfl F rfl (o_move (F.ev rfl) ?_); clear F; clear a; intro a F
  with_reducible refine l_nil ?_
  with_reducible refine q_then ?_
  with_reducible refine c_block ?_
  refine c_loop (fun k a w => ∃ i : Nat, k = 8 - i ∧ i ≤ 8 ∧ Frm a 43 [] [(24, .int .i64 i), (23, .int .i64 8), (7, .slice (some ⟨b, 0, none⟩) 8 8), (0, .slice none 0 0), (1, .int .u64 v), (2, .int .i64 8)] ∧ Mem [] W w [(b, .cells (brow v i).toArray 5 (0, 0))]) 8 ⟨0, rfl, by omega, F.only [24, 23, 7, 0, 1, 2] rfl, M⟩ ?_
  clear F M
  rintro k a w ⟨i, hk, hi, F, M⟩
  by_cases hlt : i < 8
  · with_reducible refine c_seq ?_
    with_reducible refine c_region ?_
    refine stepD rfl F rfl (o_lssT (F.ev rfl) (F.ev rfl) (by omega) ?_); clear F; clear a; intro a F
    with_reducible refine l_nil ?_
    with_reducible refine q_then ?_
    with_reducible refine c_seq ?_
    refine c_true F rfl rfl ?_
    with_reducible refine c_skip ?_
    with_reducible refine q_then ?_
    with_reducible refine c_seq ?_
    with_reducible refine c_block ?_
    with_reducible refine c_seq ?_
    with_reducible refine c_region ?_
    refine stepD rfl F rfl (o_move (F.ev rfl) ?_); clear F; clear a; intro a F
    refine stepD rfl F rfl (o_assign (F.ev rfl) ?_); clear F; clear a; intro a F
    with_reducible refine l_nil ?_
    with_reducible refine q_then ?_
    with_reducible refine c_region ?_
    refine stepD rfl F rfl (o_move (F.ev rfl) ?_); clear F; clear a; intro a F
    refine stepD rfl F rfl (o_move (F.ev rfl) ?_); clear F; clear a; intro a F
    refine stepD rfl F rfl (o_lenSl (F.ev rfl) ?_); clear F; clear a; intro a F
    refine stepD rfl F rfl (o_move (F.ev rfl) ?_); clear F; clear a; intro a F
    refine stepD rfl F rfl (o_add (F.ev rfl) (F.ev rfl) (w_i64 (by omega) (by omega)) ?_); clear F; clear a; intro a F
    refine stepD rfl F rfl (o_move (F.ev rfl) ?_); clear F; clear a; intro a F
    refine stepD rfl F rfl (o_move (F.ev rfl) ?_); clear F; clear a; intro a F
    refine stepD rfl F rfl (o_sub (F.ev rfl) (F.ev rfl) (w_i64 (by omega) (by omega)) ?_); clear F; clear a; intro a F
    refine stepD rfl F rfl (o_move (F.ev rfl) ?_); clear F; clear a; intro a F
    refine stepD rfl F rfl (o_sub (F.ev rfl) (F.ev rfl) (w_i64 (by omega) (by omega)) ?_); clear F; clear a; intro a F
    refine stepD rfl F rfl (o_mul (F.ev rfl) (F.ev rfl) (w_i64 (by omega) (by omega)) ?_); clear F; clear a; intro a F
    refine stepD rfl F rfl (o_shr (F.ev rfl) (F.ev rfl) (by omega) rfl ?_); clear F; clear a; intro a F
    refine stepD rfl F rfl (o_conv (F.ev rfl) rfl ?_); clear F; clear a; intro a F
    refine stepD rfl F rfl (o_indexSl (F.ev rfl) (F.ev rfl) (by omega) (by omega) ?_); clear F; clear a; intro a F
    (refine stepN rfl F (o_store1 M (F.ev rfl) (F.ev rfl) rfl (by repeat (first | exact .here | apply Has.there)) (put_brow hlt (by omega)) (by repeat (first | exact .here | apply Upd.there)) ?_); clear F; clear M; intro w M a F)
    with_reducible refine l_nil ?_
    with_reducible refine q_inB ?_
    with_reducible refine q_then ?_
    with_reducible refine c_region ?_
    refine stepD rfl F rfl (o_add (F.ev rfl) (F.ev rfl) (w_i64 (by omega) (by omega)) ?_); clear F; clear a; intro a F
    refine stepD rfl F rfl (o_move (F.ev rfl) ?_); clear F; clear a; intro a F
    with_reducible refine l_nil ?_
    with_reducible refine q_then ?_
    exact ⟨_, by omega, i + 1, rfl, by omega, F.only [24, 23, 7, 0, 1, 2] rfl, M⟩
  · obtain rfl : i = 8 := by omega
    rw [brow_all] at M
    with_reducible refine c_seq ?_
    with_reducible refine c_region ?_
    refine stepD rfl F rfl (o_lssF (F.ev rfl) (F.ev rfl) (by omega) ?_); clear F; clear a; intro a F
    with_reducible refine l_nil ?_
    with_reducible refine q_then ?_
    with_reducible refine c_seq ?_
    refine c_false F rfl rfl ?_
    with_reducible refine c_exit ?_
    with_reducible refine q_thenX ?_
    with_reducible refine q_thenX ?_
    with_reducible refine q_inBX ?_
    with_reducible refine q_then ?_
    with_reducible refine c_seq ?_
    with_reducible refine c_region ?_
    refine stepD rfl F rfl (o_move (F.ev rfl) ?_); clear F; clear a; intro a F
    refine stepD rfl F rfl (o_assign (F.ev rfl) ?_); clear F; clear a; intro a F
    with_reducible refine l_nil ?_
    with_reducible refine q_then ?_
    with_reducible refine c_ret ?_
    refine p_ret F rfl (.cons (.tmp (F.ev rfl)) .nil) ?_
    exact ⟨b, rfl, M⟩
end Go.Proofs.YtadnpidadcgdcaaDoor

/-! A4 -/
/-
  address.Join, LinkLocal.
-/
namespace Go.Proofs.YtadnpidadcgdcaaDoor
set_option linter.unusedVariables false
set_option linter.unusedSimpArgs false
open Go.RowKit
attribute [local irreducible] OpTo wpListIn Code.wpIn MW Cal

def joinI (p : List Int) (v : Int) : List Int := p.take 8 ++ beB v
def zeroIP : List Int := [0, 0, 0, 0, 0, 0, 0, 0, 0, 0, 0, 0, 0, 0, 0, 0]
def joinP (p : List Int) (n v : Int) : Option (List Int) := if validP p n && decide (n ≤ 64) then some (joinI p v) else none
def optIP (x : Option (List Int)) : Value := .tuple #[.agg (ipC (x.getD zeroIP)).toArray, .bool x.isSome]
theorem beB_len (v : Int) : (beB v).length = 8 := by simp [beB]

set_option maxHeartbeats 1000000 in
theorem join_c (p : List Int) (hp : p.length = 16) (n v : Int) (hv : 0 ≤ v) (W : World) : Cal Tryd.prog 29 [.agg (pfC p n).toArray, .int .u64 v].toArray W fun x w' => x = optIP (joinP p n v) ∧ Ext [] W w' := by
  have e1 := seg_pf hp n
  have e2 := seg_pf0 hp n
  have e3 := nth_pf hp n
  have s2 : seg (ipC (beB v)) 0 (8 * 1) = some (ipC (beB v)) := seg_all (by simp [ipC, beB_len])
  have hput : put (ipC p) (0 + (8 : Int).toNat * 1) (ipC (beB v)) = some (ipC (joinI p v)) := by
    rw [put_of _ _ _ (by simp [ipC, beB_len, hp])]
    have hl : (ipC (beB v)).length = 8 := by simp [ipC, beB_len]
    simp only [splice, hl]
    rw [List.drop_eq_nil_of_le (by simp [ipC, hp])]
    simp [ipC, joinI]
  have s3 : seg (ipC (joinI p v)) 0 16 = some (ipC (joinI p v)) := seg_all (by simp [ipC, joinI, beB_len, hp])
  have hl3 : (ipC (joinI p v)).length = 16 := by simp [ipC, joinI, beB_len, hp]
  cases hvp : validP p n
  · refine fn_ofM (n := 23) [] Tryd.func29 rfl rfl rfl ?_
    intro a w F M hwW
    refine c_seq ?_
    refine c_region ?_
    (refine stepD rfl F rfl (o_box M (F.ev rfl) rfl ?_); clear F; clear M; intro b2 w M a F)
    (refine stepD rfl F rfl (o_alloc M ?_); clear F; clear M; intro b4 w M a F)
    refine stepD rfl F rfl (o_assign (F.ev rfl) ?_); clear F; clear a; intro a F
    with_reducible refine l_nil ?_
    with_reducible refine q_then ?_
    with_reducible refine c_seq ?_
    with_reducible refine c_seq ?_
    with_reducible refine c_region ?_
    refine stepD rfl F rfl (o_loadA M (F.ev rfl) (by repeat (first | exact .here | apply Has.there)) (by first | assumption | rfl) ?_); clear F; clear a; intro a F
    (refine stepD rfl F rfl (o_call (F.ev rfl) (F.evs rfl) (Cal.mono (Cal.to (validPrefix_c p n hp _) (by rw [hvp])) ?_)); clear F; clear a; rintro _ w ⟨rfl, hE⟩ a F; replace M := M.later hE; clear hE)
    refine stepD rfl F rfl (o_not (F.ev rfl) ?_); clear F; clear a; intro a F
    refine stepD rfl F rfl (o_move (F.ev rfl) ?_); clear F; clear a; intro a F
    refine stepOff F rfl rfl rfl rfl ?_; clear F; clear a; intro a F
    refine stepOff F rfl rfl rfl rfl ?_; clear F; clear a; intro a F
    refine stepOff F rfl rfl rfl rfl ?_; clear F; clear a; intro a F
    refine stepD rfl F rfl (o_pickT (F.ev rfl) (F.ev rfl) ?_); clear F; clear a; intro a F
    with_reducible refine l_nil ?_
    with_reducible refine q_then ?_
    refine c_true F rfl rfl ?_
    with_reducible refine c_seq ?_
    with_reducible refine c_region ?_
    refine stepD rfl F rfl (o_build F rfl rfl ?_); clear F; clear a; intro a F
    (refine stepN rfl F (o_storeA M (F.ev rfl) (F.ev rfl) (by rfl) (by rfl) (by repeat (first | exact .here | apply Has.there)) (by rfl) (by repeat (first | exact .here | apply Upd.there)) ?_); clear F; clear M; intro w M a F)
    refine stepD rfl F rfl (o_assign (F.ev rfl) ?_); clear F; clear a; intro a F
    with_reducible refine l_nil ?_
    with_reducible refine q_then ?_
    with_reducible refine c_ret ?_
    with_reducible refine q_thenR ?_
    refine p_ret F rfl (.cons (.cell (F.ev rfl) (run_loadVar_agg TAgg.h (M.heap (by repeat (first | exact .here | apply Has.there))) rfl)) (.cons (.tmp (F.ev rfl)) .nil)) ⟨by simp [joinP, hvp, optIP, oneOr, zeroIP, ipC], M.ext⟩
  · by_cases h64 : n ≤ 64
    · refine fn_ofM (n := 23) [] Tryd.func29 rfl rfl rfl ?_
      intro a w F M hwW
      refine c_seq ?_
      refine c_region ?_
      (refine stepD rfl F rfl (o_box M (F.ev rfl) rfl ?_); clear F; clear M; intro b2 w M a F)
      (refine stepD rfl F rfl (o_alloc M ?_); clear F; clear M; intro b4 w M a F)
      refine stepD rfl F rfl (o_assign (F.ev rfl) ?_); clear F; clear a; intro a F
      with_reducible refine l_nil ?_
      with_reducible refine q_then ?_
      with_reducible refine c_seq ?_
      with_reducible refine c_seq ?_
      with_reducible refine c_region ?_
      refine stepD rfl F rfl (o_loadA M (F.ev rfl) (by repeat (first | exact .here | apply Has.there)) (by first | assumption | rfl) ?_); clear F; clear a; intro a F
      (refine stepD rfl F rfl (o_call (F.ev rfl) (F.evs rfl) (Cal.mono (Cal.to (validPrefix_c p n hp _) (by rw [hvp])) ?_)); clear F; clear a; rintro _ w ⟨rfl, hE⟩ a F; replace M := M.later hE; clear hE)
      refine stepD rfl F rfl (o_not (F.ev rfl) ?_); clear F; clear a; intro a F
      refine stepD rfl F rfl (o_move (F.ev rfl) ?_); clear F; clear a; intro a F
      refine stepG rfl F rfl rfl rfl (o_fieldAddr (F.ev rfl) ?_); clear F; clear a; intro a F
      refine stepG rfl F rfl rfl rfl (o_load1 M (F.ev rfl) (by repeat (first | exact .here | apply Has.there)) (by first | assumption | rfl) ?_); clear F; clear a; intro a F
      refine stepG rfl F rfl rfl rfl (o_gtrF (F.ev rfl) (F.ev rfl) (by omega) ?_); clear F; clear a; intro a F
      refine stepD rfl F rfl (o_pickF (F.ev rfl) (F.ev rfl) ?_); clear F; clear a; intro a F
      with_reducible refine l_nil ?_
      with_reducible refine q_then ?_
      refine c_false F rfl rfl ?_
      with_reducible refine c_skip ?_
      with_reducible refine q_then ?_
      with_reducible refine c_seq ?_
      with_reducible refine c_region ?_
      refine stepD rfl F rfl (o_fieldAddr (F.ev rfl) ?_); clear F; clear a; intro a F
      refine stepD rfl F rfl (o_loadA M (F.ev rfl) (by repeat (first | exact .here | apply Has.there)) (by first | assumption | rfl) ?_); clear F; clear a; intro a F
      (refine stepD rfl F rfl (o_alloc M ?_); clear F; clear M; intro b6 w M a F)
      (refine stepN rfl F (o_storeA M (F.ev rfl) (F.ev rfl) (ipC_len hp) (one_ip _)  (by repeat (first | exact .here | apply Has.there))  (put_all (by rw [ipC_len hp]; rfl)) (by repeat (first | exact .here | apply Upd.there)) ?_); clear F; clear M; intro w M a F)
      with_reducible refine l_nil ?_
      with_reducible refine q_then ?_
      with_reducible refine c_seq ?_
      replace F := F.only [6, 1, 4] rfl
      refine c_draw 3 F (by kernel_rfl) ?_
      intro w1 hE hok
      have M1 := M.later hE
      (refine mK hok rfl rfl (fun a' w' F' E' => o_arrL (F'.ev rfl) (F'.ev rfl) (by omega) (by omega) ⟨Ext.refl _ _, rfl⟩) ?_)
      refine mK hok rfl rfl (fun a' w' F' E' => o_move (F'.ev rfl) ⟨Ext.refl _ _, rfl⟩) ?_
      refine mX hok rfl rfl (NewS.stays _ _ _ _) (fun a' w' F' E' D' => o_call (F'.ev rfl) (F'.evs rfl) (Cal.mono (append8_c v hv _) fun _ _ hh => newS_of E' hh)) ?_
      (refine mDone rfl rfl ?_; clear F; clear M; intro a w F hE2 hX hTT hDD hPP; have M := M1.later hE2; (try dsimp only at F); obtain ⟨b20, e_1, g_1, q_1⟩ := hX 2 _ rfl; replace F := F.know (d := 20) e_1; replace M := Mem.al (pre := []) M M1 q_1 g_1 (by intro p hp; cases hp); clear M1; clear hX; clear hE2; clear hok; clear hE; clear hTT; clear hDD; clear hPP; clear e_1; clear g_1; clear q_1; (try simp only [List.nil_append] at M))
      (refine stepD rfl F rfl (o_copy (n := 8) M (F.ev rfl) (F.ev rfl) rfl (by repeat (first | exact .here | apply Has.there)) s2 (one_ip _) (by repeat (first | exact .here | apply Has.there)) hput (by repeat (first | exact .here | apply Upd.there)) ?_); clear F; clear M; intro w M a F)
      with_reducible refine l_nil ?_
      with_reducible refine q_then ?_
      with_reducible refine c_seq ?_
      with_reducible refine c_region ?_
      refine stepD rfl F rfl (o_loadA M (F.ev rfl) (by repeat (first | exact .here | apply Has.there)) (by first | assumption | rfl) ?_); clear F; clear a; intro a F
      (refine stepN rfl F (o_storeA M (F.ev rfl) (F.ev rfl) hl3 (one_ip _)  (by repeat (first | exact .here | apply Has.there))  (put_all (by rw [hl3]; rfl)) (by repeat (first | exact .here | apply Upd.there)) ?_); clear F; clear M; intro w M a F)
      refine stepD rfl F rfl (o_assign (F.ev rfl) ?_); clear F; clear a; intro a F
      with_reducible refine l_nil ?_
      with_reducible refine q_then ?_
      with_reducible refine c_ret ?_
      refine p_ret F rfl (.cons (.cell (F.ev rfl) (run_loadVar_agg TAgg.h (M.heap (by repeat (first | exact .here | apply Has.there))) s3)) (.cons (.tmp (F.ev rfl)) .nil)) ⟨by simp [joinP, hvp, h64, optIP, oneOr], M.ext⟩
    · refine fn_ofM (n := 23) [] Tryd.func29 rfl rfl rfl ?_
      intro a w F M hwW
      refine c_seq ?_
      refine c_region ?_
      (refine stepD rfl F rfl (o_box M (F.ev rfl) rfl ?_); clear F; clear M; intro b2 w M a F)
      (refine stepD rfl F rfl (o_alloc M ?_); clear F; clear M; intro b4 w M a F)
      refine stepD rfl F rfl (o_assign (F.ev rfl) ?_); clear F; clear a; intro a F
      with_reducible refine l_nil ?_
      with_reducible refine q_then ?_
      with_reducible refine c_seq ?_
      with_reducible refine c_seq ?_
      with_reducible refine c_region ?_
      refine stepD rfl F rfl (o_loadA M (F.ev rfl) (by repeat (first | exact .here | apply Has.there)) (by first | assumption | rfl) ?_); clear F; clear a; intro a F
      (refine stepD rfl F rfl (o_call (F.ev rfl) (F.evs rfl) (Cal.mono (Cal.to (validPrefix_c p n hp _) (by rw [hvp])) ?_)); clear F; clear a; rintro _ w ⟨rfl, hE⟩ a F; replace M := M.later hE; clear hE)
      refine stepD rfl F rfl (o_not (F.ev rfl) ?_); clear F; clear a; intro a F
      refine stepD rfl F rfl (o_move (F.ev rfl) ?_); clear F; clear a; intro a F
      refine stepG rfl F rfl rfl rfl (o_fieldAddr (F.ev rfl) ?_); clear F; clear a; intro a F
      refine stepG rfl F rfl rfl rfl (o_load1 M (F.ev rfl) (by repeat (first | exact .here | apply Has.there)) (by first | assumption | rfl) ?_); clear F; clear a; intro a F
      refine stepG rfl F rfl rfl rfl (o_gtrT (F.ev rfl) (F.ev rfl) (by omega) ?_); clear F; clear a; intro a F
      refine stepD rfl F rfl (o_pickF (F.ev rfl) (F.ev rfl) ?_); clear F; clear a; intro a F
      with_reducible refine l_nil ?_
      with_reducible refine q_then ?_
      refine c_true F rfl rfl ?_
      with_reducible refine c_seq ?_
      with_reducible refine c_region ?_
      refine stepD rfl F rfl (o_build F rfl rfl ?_); clear F; clear a; intro a F
      (refine stepN rfl F (o_storeA M (F.ev rfl) (F.ev rfl) (by rfl) (by rfl) (by repeat (first | exact .here | apply Has.there)) (by rfl) (by repeat (first | exact .here | apply Upd.there)) ?_); clear F; clear M; intro w M a F)
      refine stepD rfl F rfl (o_assign (F.ev rfl) ?_); clear F; clear a; intro a F
      with_reducible refine l_nil ?_
      with_reducible refine q_then ?_
      with_reducible refine c_ret ?_
      with_reducible refine q_thenR ?_
      refine p_ret F rfl (.cons (.cell (F.ev rfl) (run_loadVar_agg TAgg.h (M.heap (by repeat (first | exact .here | apply Has.there))) rfl)) (.cons (.tmp (F.ev rfl)) .nil)) ⟨by simp [joinP, hvp, h64, optIP, oneOr, zeroIP, ipC], M.ext⟩
end Go.Proofs.YtadnpidadcgdcaaDoor

/-! A5 -/
/-
  address.LinkLocal; AddressIdentifies.
-/
namespace Go.Proofs.YtadnpidadcgdcaaDoor
set_option linter.unusedVariables false
set_option linter.unusedSimpArgs false
open Go.RowKit
attribute [local irreducible] OpTo wpListIn Code.wpIn MW Cal

def localIP : List Int := [254, 128, 0, 0, 0, 0, 0, 0, 0, 0, 0, 0, 0, 0, 0, 0]
theorem local_valid : validP localIP 64 = true := by kernel_rfl
def linkL (m s e : Int) : Option (List Int) := (iidA m s e).map (joinI localIP)
theorem iid_bd {m s e v : Int} (hs0 : 0 ≤ s) (hs1 : s ≤ 65535) (he0 : 0 ≤ e) (he1 : e ≤ 18446744073709551615) (h : iidA m s e = some v) : 0 ≤ v ∧ v ≤ 18446744073709551615 := by
  unfold iidA at h
  split at h
  · split at h
    · simp at h; omega
    · split at h
      · simp only [Option.some.injEq] at h
        obtain ⟨n, rfl⟩ := Int.eq_ofNat_of_zero_le he0
        have e1 : bitsOf .xor .u64 (n : Int) 144115188075855872 = ((n ^^^ 144115188075855872 : Nat) : Int) := bits_xor (k := .u64) rfl (m := n) (n := 144115188075855872) (show n < 18446744073709551616 by omega) (show 144115188075855872 < 18446744073709551616 by decide)
        have e2 : n ^^^ 144115188075855872 < 2 ^ 64 := Nat.xor_lt_two_pow (show n < 2 ^ 64 by omega) (by decide)
        rw [e1] at h
        omega
      · cases h
  · cases h

set_option maxHeartbeats 400000 in
theorem linkLocal_c (m s e : Int) (hs0 : 0 ≤ s) (hs1 : s ≤ 65535) (he0 : 0 ≤ e) (he1 : e ≤ 18446744073709551615) (W : World) : Cal Tryd.prog 40 [.agg (adC m s e).toArray].toArray W fun x w' => x = optIP (linkL m s e) ∧ Ext [] W w' := by
  have hb : @Eq (List Value) (adC m s e) [.int .i64 m, .int .u16 s, .int .u64 e] := rfl
  cases hi : iidA m s e with
  | none =>
    refine fn_ofM (n := 20) [] Tryd.func40 rfl rfl rfl ?_
    intro a w F M hwW
    refine c_seq ?_
    refine c_region ?_
    (refine stepD rfl F rfl (o_box M (F.ev rfl) rfl ?_); clear F; clear M; intro b1 w M a F)
    (refine stepD rfl F rfl (o_alloc M ?_); clear F; clear M; intro b2 w M a F)
    refine stepD rfl F rfl (o_assign (F.ev rfl) ?_); clear F; clear a; intro a F
    with_reducible refine l_nil ?_
    with_reducible refine q_then ?_
    with_reducible refine c_seq ?_
    with_reducible refine c_region ?_
    refine stepD rfl F rfl (o_loadA M (F.ev rfl) (by repeat (first | exact .here | apply Has.there)) (by first | assumption | rfl) ?_); clear F; clear a; intro a F
    (refine stepD rfl F rfl (o_call (F.ev rfl) (F.evs rfl) (Cal.mono (Cal.to (iid_c m s e hs0 hs1 _) (by rw [hi])) ?_)); clear F; clear a; rintro _ w ⟨rfl, hE⟩ a F; replace M := M.later hE; clear hE)
    refine stepD rfl F rfl (o_move (F.ev rfl) ?_); clear F; clear a; intro a F
    refine stepD rfl F rfl (o_extract (F.ev rfl) rfl ?_); clear F; clear a; intro a F
    refine stepD rfl F rfl (o_extract (F.ev rfl) rfl ?_); clear F; clear a; intro a F
    refine stepD rfl F rfl (o_assign (F.ev rfl) ?_); clear F; clear a; intro a F
    refine stepD rfl F rfl (o_assign (F.ev rfl) ?_); clear F; clear a; intro a F
    with_reducible refine l_nil ?_
    with_reducible refine q_then ?_
    with_reducible refine c_seq ?_
    with_reducible refine c_seq ?_
    with_reducible refine c_region ?_
    refine stepD rfl F rfl (o_move (F.ev rfl) ?_); clear F; clear a; intro a F
    refine stepD rfl F rfl (o_not (F.ev rfl) ?_); clear F; clear a; intro a F
    with_reducible refine l_nil ?_
    with_reducible refine q_then ?_
    refine c_true F rfl rfl ?_
    with_reducible refine c_seq ?_
    with_reducible refine c_region ?_
    refine stepD rfl F rfl (o_build F rfl rfl ?_); clear F; clear a; intro a F
    (refine stepN rfl F (o_storeA M (F.ev rfl) (F.ev rfl) (by rfl) (by rfl) (by repeat (first | exact .here | apply Has.there)) (by rfl) (by repeat (first | exact .here | apply Upd.there)) ?_); clear F; clear M; intro w M a F)
    refine stepD rfl F rfl (o_assign (F.ev rfl) ?_); clear F; clear a; intro a F
    with_reducible refine l_nil ?_
    with_reducible refine q_then ?_
    with_reducible refine c_ret ?_
    with_reducible refine q_thenR ?_
    refine p_ret F rfl (.cons (.cell (F.ev rfl) (run_loadVar_agg TAgg.h (M.heap (by repeat (first | exact .here | apply Has.there))) rfl)) (.cons (.tmp (F.ev rfl)) .nil)) ⟨by simp [linkL, hi, optIP, oneOr, zeroIP, ipC], M.ext⟩
  | some v =>
    have hv := iid_bd hs0 hs1 he0 he1 hi
    have hl3 : (ipC (joinI localIP v)).length = 16 := by simp [ipC, joinI, beB_len, localIP]
    have s3 : seg (ipC (joinI localIP v)) 0 16 = some (ipC (joinI localIP v)) := seg_all hl3
    refine fn_ofM (n := 20) [] Tryd.func40 rfl rfl rfl ?_
    intro a w F M hwW
    refine c_seq ?_
    refine c_region ?_
    (refine stepD rfl F rfl (o_box M (F.ev rfl) rfl ?_); clear F; clear M; intro b1 w M a F)
    (refine stepD rfl F rfl (o_alloc M ?_); clear F; clear M; intro b2 w M a F)
    refine stepD rfl F rfl (o_assign (F.ev rfl) ?_); clear F; clear a; intro a F
    with_reducible refine l_nil ?_
    with_reducible refine q_then ?_
    with_reducible refine c_seq ?_
    with_reducible refine c_region ?_
    refine stepD rfl F rfl (o_loadA M (F.ev rfl) (by repeat (first | exact .here | apply Has.there)) (by first | assumption | rfl) ?_); clear F; clear a; intro a F
    (refine stepD rfl F rfl (o_call (F.ev rfl) (F.evs rfl) (Cal.mono (Cal.to (iid_c m s e hs0 hs1 _) (by rw [hi])) ?_)); clear F; clear a; rintro _ w ⟨rfl, hE⟩ a F; replace M := M.later hE; clear hE)
    refine stepD rfl F rfl (o_move (F.ev rfl) ?_); clear F; clear a; intro a F
    refine stepD rfl F rfl (o_extract (F.ev rfl) rfl ?_); clear F; clear a; intro a F
    refine stepD rfl F rfl (o_extract (F.ev rfl) rfl ?_); clear F; clear a; intro a F
    refine stepD rfl F rfl (o_assign (F.ev rfl) ?_); clear F; clear a; intro a F
    refine stepD rfl F rfl (o_assign (F.ev rfl) ?_); clear F; clear a; intro a F
    with_reducible refine l_nil ?_
    with_reducible refine q_then ?_
    with_reducible refine c_seq ?_
    with_reducible refine c_seq ?_
    with_reducible refine c_region ?_
    refine stepD rfl F rfl (o_move (F.ev rfl) ?_); clear F; clear a; intro a F
    refine stepD rfl F rfl (o_not (F.ev rfl) ?_); clear F; clear a; intro a F
    with_reducible refine l_nil ?_
    with_reducible refine q_then ?_
    refine c_false F rfl rfl ?_
    with_reducible refine c_skip ?_
    with_reducible refine q_then ?_
    with_reducible refine c_seq ?_
    with_reducible refine c_region ?_
    refine stepD rfl F rfl (o_build F rfl rfl ?_); clear F; clear a; intro a F
    refine stepD rfl F rfl (o_build F rfl rfl ?_); clear F; clear a; intro a F
    refine stepD rfl F rfl (o_move (F.ev rfl) ?_); clear F; clear a; intro a F
    (refine stepD rfl F rfl (o_call (F.ev rfl) (F.evs rfl) (Cal.mono (Cal.to (join_c localIP rfl 64 v hv.1 _) (show _ = Value.tuple #[.agg (ipC (joinI localIP v)).toArray, .bool true] by simp [joinP, local_valid, optIP])) ?_)); clear F; clear a; rintro _ w ⟨rfl, hE⟩ a F; replace M := M.later hE; clear hE)
    refine stepD rfl F rfl (o_extract (F.ev rfl) rfl ?_); clear F; clear a; intro a F
    refine stepD rfl F rfl (o_extract (F.ev rfl) rfl ?_); clear F; clear a; intro a F
    (refine stepN rfl F (o_storeA M (F.ev rfl) (F.ev rfl) hl3 (one_ip _)  (by repeat (first | exact .here | apply Has.there))  (put_all (by rw [hl3]; rfl)) (by repeat (first | exact .here | apply Upd.there)) ?_); clear F; clear M; intro w M a F)
    refine stepD rfl F rfl (o_assign (F.ev rfl) ?_); clear F; clear a; intro a F
    with_reducible refine l_nil ?_
    with_reducible refine q_then ?_
    with_reducible refine c_ret ?_
    refine p_ret F rfl (.cons (.cell (F.ev rfl) (run_loadVar_agg TAgg.h (M.heap (by repeat (first | exact .here | apply Has.there))) s3)) (.cons (.tmp (F.ev rfl)) .nil)) ⟨by simp [linkL, hi, optIP, oneOr], M.ext⟩

/-! the plain law -/
theorem xor_inj {e f : Int} (he0 : 0 ≤ e) (he1 : e ≤ 18446744073709551615) (hf0 : 0 ≤ f) (hf1 : f ≤ 18446744073709551615) : (bitsOf .xor .u64 e 144115188075855872 == bitsOf .xor .u64 f 144115188075855872) = (e == f) := by
  obtain ⟨n, rfl⟩ := Int.eq_ofNat_of_zero_le he0
  obtain ⟨m, rfl⟩ := Int.eq_ofNat_of_zero_le hf0
  have e1 : ∀ n : Nat, n < 18446744073709551616 → bitsOf .xor .u64 (n : Int) 144115188075855872 = ((n ^^^ 144115188075855872 : Nat) : Int) := fun n hn => bits_xor (k := .u64) rfl (m := n) (n := 144115188075855872) hn (show 144115188075855872 < 18446744073709551616 by decide)
  rw [e1 n (by omega), e1 m (by omega)]
  by_cases h : n = m
  · subst h; simp
  · have h2 : ¬ (n ^^^ 144115188075855872 = m ^^^ 144115188075855872) := fun hc => h (by
      have := congrArg (· ^^^ 144115188075855872) hc
      simpa [Nat.xor_assoc] using this)
    have h3 : ((n : Int) == m) = false := by rw [beq_eq_false_iff_ne]; exact fun hc => h (by omega)
    have h4 : (((n ^^^ 144115188075855872 : Nat) : Int) == ((m ^^^ 144115188075855872 : Nat) : Int)) = false := by
      rw [beq_eq_false_iff_ne]
      exact fun hc => h2 (by exact_mod_cast hc)
    rw [h3, h4]
theorem pow_fin : ∀ i : Fin 8, (2 : Int) ^ (8 * (7 - i.1)) = ((256 ^ (7 - i.1) : Nat) : Int) := by decide
theorem beAt_nat (n i : Nat) (hi : i < 8) : beAt (n : Int) i = ((n / 256 ^ (7 - i) % 256 : Nat) : Int) := by
  unfold beAt
  have e1 : min (8 * (8 - 1 - (i : Int))).toNat 64 = 8 * (7 - i) := by omega
  rw [e1, pow_fin ⟨i, hi⟩, Int.fdiv_eq_ediv_of_nonneg _ (Int.natCast_nonneg _)]
  simp only [IntKind.wrap, IntKind.signed, IntKind.bits, Bool.false_and, Bool.false_eq_true, if_false]
  rfl
theorem be_join (n : Nat) (h : n < 18446744073709551616) : beN (beB (n : Int)) = n := by
  have e0 : beAt (n : Int) 0 = ((n / 72057594037927936 % 256 : Nat) : Int) := beAt_nat n 0 (by omega)
  have e1 : beAt (n : Int) 1 = ((n / 281474976710656 % 256 : Nat) : Int) := beAt_nat n 1 (by omega)
  have e2 : beAt (n : Int) 2 = ((n / 1099511627776 % 256 : Nat) : Int) := beAt_nat n 2 (by omega)
  have e3 : beAt (n : Int) 3 = ((n / 4294967296 % 256 : Nat) : Int) := beAt_nat n 3 (by omega)
  have e4 : beAt (n : Int) 4 = ((n / 16777216 % 256 : Nat) : Int) := beAt_nat n 4 (by omega)
  have e5 : beAt (n : Int) 5 = ((n / 65536 % 256 : Nat) : Int) := beAt_nat n 5 (by omega)
  have e6 : beAt (n : Int) 6 = ((n / 256 % 256 : Nat) : Int) := beAt_nat n 6 (by omega)
  have e7 : beAt (n : Int) 7 = ((n / 1 % 256 : Nat) : Int) := beAt_nat n 7 (by omega)
  have hb : beB (n : Int) = [beAt n 0, beAt n 1, beAt n 2, beAt n 3, beAt n 4, beAt n 5, beAt n 6, beAt n 7] := rfl
  rw [hb, e0, e1, e2, e3, e4, e5, e6, e7]
  simp only [beN, List.foldl_cons, List.foldl_nil]
  omega
theorem beB_bd (n : Nat) : ∀ x ∈ beB (n : Int), 0 ≤ x ∧ x < 256 := by
  intro x hx
  obtain ⟨i, hi, rfl⟩ := List.mem_map.1 hx
  rw [beAt_nat n i (List.mem_range.1 hi)]
  have : n / 256 ^ (7 - i) % 256 < 256 := Nat.mod_lt _ (by omega)
  omega
theorem join_ip {p : List Int} (hp : IsIP p) {v : Int} (h0 : 0 ≤ v) : IsIP (joinI p v) := by
  obtain ⟨n, rfl⟩ := Int.eq_ofNat_of_zero_le h0
  refine ⟨by simp [joinI, beB_len, hp.len], fun x hx => ?_⟩
  rcases List.mem_append.1 hx with h | h
  · exact hp.bd x (List.mem_of_mem_take h)
  · exact beB_bd n x h
theorem split_join {p : List Int} (hp : p.length = 16) {v : Int} (h0 : 0 ≤ v) (h1 : v ≤ 18446744073709551615) : (joinI p v).take 8 = p.take 8 ∧ beN ((joinI p v).drop 8) = v := by
  obtain ⟨n, rfl⟩ := Int.eq_ofNat_of_zero_le h0
  have hl : (p.take 8).length = 8 := by simp [hp]
  refine ⟨?_, ?_⟩
  · unfold joinI
    rw [List.take_append_of_le_length (by omega), List.take_of_length_le (by omega)]
  · unfold joinI
    rw [List.drop_append_of_le_length (by omega), List.drop_eq_nil_of_le (by omega), List.nil_append]
    exact be_join n (by omega)
theorem local_ip : IsIP localIP := ⟨rfl, by decide⟩
end Go.Proofs.YtadnpidadcgdcaaDoor

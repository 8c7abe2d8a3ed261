/-
  address.LinkLocal; AddressIdentifies.
-/
import Derived.Test.YtadnpidadcgdcaaDoorA4
namespace Go.Proofs.YtadnpidadcgdcaaDoor
set_option linter.unusedVariables false
set_option linter.unusedSimpArgs false
open Go.RowKit
attribute [local irreducible] OpTo wpListIn Code.wpIn MW Cal

def localIP : List Int := [254, 128, 0, 0, 0, 0, 0, 0, 0, 0, 0, 0, 0, 0, 0, 0]
theorem local_valid : validP localIP 64 = true := by kernel_rfl
def linkL (m s e : Int) : Option (List Int) := (iidA m s e).map (joinI localIP)
theorem iid_bd {m s e v : Int} (hs0 : 0 ≤ s) (hs1 : s ≤ 65535) (he0 : 0 ≤ e) (he1 : e ≤ 18446744073709551615) (h : iidA m s e = some v) : 0 ≤ v ∧ v ≤ 18446744073709551615 := by
  unfold iidA at h
  split at h
  · split at h
    · simp at h; omega
    · split at h
      · simp only [Option.some.injEq] at h
        obtain ⟨n, rfl⟩ := Int.eq_ofNat_of_zero_le he0
        have e1 : bitsOf .xor .u64 (n : Int) 144115188075855872 = ((n ^^^ 144115188075855872 : Nat) : Int) := bits_xor (k := .u64) rfl (m := n) (n := 144115188075855872) (show n < 18446744073709551616 by omega) (show 144115188075855872 < 18446744073709551616 by decide)
        have e2 : n ^^^ 144115188075855872 < 2 ^ 64 := Nat.xor_lt_two_pow (show n < 2 ^ 64 by omega) (by decide)
        rw [e1] at h
        omega
      · cases h
  · cases h

set_option maxHeartbeats 400000 in
theorem linkLocal_c (m s e : Int) (hs0 : 0 ≤ s) (hs1 : s ≤ 65535) (he0 : 0 ≤ e) (he1 : e ≤ 18446744073709551615) (W : World) : Cal Tryd.prog 40 [.agg (adC m s e).toArray].toArray W fun x w' => x = optIP (linkL m s e) ∧ Ext [] W w' := by
  have hb : @Eq (List Value) (adC m s e) [.int .i64 m, .int .u16 s, .int .u64 e] := rfl
  cases hi : iidA m s e with
  | none =>
    refine fn_ofM (n := 20) [] Tryd.func40 rfl rfl rfl ?_
    intro a w F M hwW
    refine c_seq ?_
    refine c_region ?_
    (refine stepD rfl F rfl (o_box M (F.ev rfl) rfl ?_); clear F; clear M; intro b1 w M a F)
    (refine stepD rfl F rfl (o_alloc M ?_); clear F; clear M; intro b2 w M a F)
    refine stepD rfl F rfl (o_assign (F.ev rfl) ?_); clear F; clear a; intro a F
    with_reducible refine l_nil ?_
    with_reducible refine q_then ?_
    with_reducible refine c_seq ?_
    with_reducible refine c_region ?_
    refine stepD rfl F rfl (o_loadA M (F.ev rfl) (by repeat (first | exact .here | apply Has.there)) (by first | assumption | rfl) ?_); clear F; clear a; intro a F
    (refine stepD rfl F rfl (o_call (F.ev rfl) (F.evs rfl) (Cal.mono (Cal.to (iid_c m s e hs0 hs1 _) (by rw [hi])) ?_)); clear F; clear a; rintro _ w ⟨rfl, hE⟩ a F; replace M := M.later hE; clear hE)
    refine stepD rfl F rfl (o_move (F.ev rfl) ?_); clear F; clear a; intro a F
    refine stepD rfl F rfl (o_extract (F.ev rfl) rfl ?_); clear F; clear a; intro a F
    refine stepD rfl F rfl (o_extract (F.ev rfl) rfl ?_); clear F; clear a; intro a F
    refine stepD rfl F rfl (o_assign (F.ev rfl) ?_); clear F; clear a; intro a F
    refine stepD rfl F rfl (o_assign (F.ev rfl) ?_); clear F; clear a; intro a F
    with_reducible refine l_nil ?_
    with_reducible refine q_then ?_
    with_reducible refine c_seq ?_
    with_reducible refine c_seq ?_
    with_reducible refine c_region ?_
    refine stepD rfl F rfl (o_move (F.ev rfl) ?_); clear F; clear a; intro a F
    refine stepD rfl F rfl (o_not (F.ev rfl) ?_); clear F; clear a; intro a F
    with_reducible refine l_nil ?_
    with_reducible refine q_then ?_
    refine c_true F rfl rfl ?_
    with_reducible refine c_seq ?_
    with_reducible refine c_region ?_
    refine stepD rfl F rfl (o_build F rfl rfl ?_); clear F; clear a; intro a F
    (refine stepN rfl F (o_storeA M (F.ev rfl) (F.ev rfl) (by rfl) (by rfl) (by repeat (first | exact .here | apply Has.there)) (by rfl) (by repeat (first | exact .here | apply Upd.there)) ?_); clear F; clear M; intro w M a F)
    refine stepD rfl F rfl (o_assign (F.ev rfl) ?_); clear F; clear a; intro a F
    with_reducible refine l_nil ?_
    with_reducible refine q_then ?_
    with_reducible refine c_ret ?_
    with_reducible refine q_thenR ?_
    refine p_ret F rfl (.cons (.cell (F.ev rfl) (run_loadVar_agg TAgg.h (M.heap (by repeat (first | exact .here | apply Has.there))) rfl)) (.cons (.tmp (F.ev rfl)) .nil)) ⟨by simp [linkL, hi, optIP, oneOr, zeroIP, ipC], M.ext⟩
  | some v =>
    have hv := iid_bd hs0 hs1 he0 he1 hi
    have hl3 : (ipC (joinI localIP v)).length = 16 := by simp [ipC, joinI, beB_len, localIP]
    have s3 : seg (ipC (joinI localIP v)) 0 16 = some (ipC (joinI localIP v)) := seg_all hl3
    refine fn_ofM (n := 20) [] Tryd.func40 rfl rfl rfl ?_
    intro a w F M hwW
    refine c_seq ?_
    refine c_region ?_
    (refine stepD rfl F rfl (o_box M (F.ev rfl) rfl ?_); clear F; clear M; intro b1 w M a F)
    (refine stepD rfl F rfl (o_alloc M ?_); clear F; clear M; intro b2 w M a F)
    refine stepD rfl F rfl (o_assign (F.ev rfl) ?_); clear F; clear a; intro a F
    with_reducible refine l_nil ?_
    with_reducible refine q_then ?_
    with_reducible refine c_seq ?_
    with_reducible refine c_region ?_
    refine stepD rfl F rfl (o_loadA M (F.ev rfl) (by repeat (first | exact .here | apply Has.there)) (by first | assumption | rfl) ?_); clear F; clear a; intro a F
    (refine stepD rfl F rfl (o_call (F.ev rfl) (F.evs rfl) (Cal.mono (Cal.to (iid_c m s e hs0 hs1 _) (by rw [hi])) ?_)); clear F; clear a; rintro _ w ⟨rfl, hE⟩ a F; replace M := M.later hE; clear hE)
    refine stepD rfl F rfl (o_move (F.ev rfl) ?_); clear F; clear a; intro a F
    refine stepD rfl F rfl (o_extract (F.ev rfl) rfl ?_); clear F; clear a; intro a F
    refine stepD rfl F rfl (o_extract (F.ev rfl) rfl ?_); clear F; clear a; intro a F
    refine stepD rfl F rfl (o_assign (F.ev rfl) ?_); clear F; clear a; intro a F
    refine stepD rfl F rfl (o_assign (F.ev rfl) ?_); clear F; clear a; intro a F
    with_reducible refine l_nil ?_
    with_reducible refine q_then ?_
    with_reducible refine c_seq ?_
    with_reducible refine c_seq ?_
    with_reducible refine c_region ?_
    refine stepD rfl F rfl (o_move (F.ev rfl) ?_); clear F; clear a; intro a F
    refine stepD rfl F rfl (o_not (F.ev rfl) ?_); clear F; clear a; intro a F
    with_reducible refine l_nil ?_
    with_reducible refine q_then ?_
    refine c_false F rfl rfl ?_
    with_reducible refine c_skip ?_
    with_reducible refine q_then ?_
    with_reducible refine c_seq ?_
    with_reducible refine c_region ?_
    refine stepD rfl F rfl (o_build F rfl rfl ?_); clear F; clear a; intro a F
    refine stepD rfl F rfl (o_build F rfl rfl ?_); clear F; clear a; intro a F
    refine stepD rfl F rfl (o_move (F.ev rfl) ?_); clear F; clear a; intro a F
    (refine stepD rfl F rfl (o_call (F.ev rfl) (F.evs rfl) (Cal.mono (Cal.to (join_c localIP rfl 64 v hv.1 _) (show _ = Value.tuple #[.agg (ipC (joinI localIP v)).toArray, .bool true] by simp [joinP, local_valid, optIP])) ?_)); clear F; clear a; rintro _ w ⟨rfl, hE⟩ a F; replace M := M.later hE; clear hE)
    refine stepD rfl F rfl (o_extract (F.ev rfl) rfl ?_); clear F; clear a; intro a F
    refine stepD rfl F rfl (o_extract (F.ev rfl) rfl ?_); clear F; clear a; intro a F
    (refine stepN rfl F (o_storeA M (F.ev rfl) (F.ev rfl) hl3 (one_ip _)  (by repeat (first | exact .here | apply Has.there))  (put_all (by rw [hl3]; rfl)) (by repeat (first | exact .here | apply Upd.there)) ?_); clear F; clear M; intro w M a F)
    refine stepD rfl F rfl (o_assign (F.ev rfl) ?_); clear F; clear a; intro a F
    with_reducible refine l_nil ?_
    with_reducible refine q_then ?_
    with_reducible refine c_ret ?_
    refine p_ret F rfl (.cons (.cell (F.ev rfl) (run_loadVar_agg TAgg.h (M.heap (by repeat (first | exact .here | apply Has.there))) s3)) (.cons (.tmp (F.ev rfl)) .nil)) ⟨by simp [linkL, hi, optIP, oneOr], M.ext⟩

/-! the plain law -/
theorem xor_inj {e f : Int} (he0 : 0 ≤ e) (he1 : e ≤ 18446744073709551615) (hf0 : 0 ≤ f) (hf1 : f ≤ 18446744073709551615) : (bitsOf .xor .u64 e 144115188075855872 == bitsOf .xor .u64 f 144115188075855872) = (e == f) := by
  obtain ⟨n, rfl⟩ := Int.eq_ofNat_of_zero_le he0
  obtain ⟨m, rfl⟩ := Int.eq_ofNat_of_zero_le hf0
  have e1 : ∀ n : Nat, n < 18446744073709551616 → bitsOf .xor .u64 (n : Int) 144115188075855872 = ((n ^^^ 144115188075855872 : Nat) : Int) := fun n hn => bits_xor (k := .u64) rfl (m := n) (n := 144115188075855872) hn (show 144115188075855872 < 18446744073709551616 by decide)
  rw [e1 n (by omega), e1 m (by omega)]
  by_cases h : n = m
  · subst h; simp
  · have h2 : ¬ (n ^^^ 144115188075855872 = m ^^^ 144115188075855872) := fun hc => h (by
      have := congrArg (· ^^^ 144115188075855872) hc
      simpa [Nat.xor_assoc] using this)
    have h3 : ((n : Int) == m) = false := by rw [beq_eq_false_iff_ne]; exact fun hc => h (by omega)
    have h4 : (((n ^^^ 144115188075855872 : Nat) : Int) == ((m ^^^ 144115188075855872 : Nat) : Int)) = false := by
      rw [beq_eq_false_iff_ne]
      exact fun hc => h2 (by exact_mod_cast hc)
    rw [h3, h4]
theorem pow_fin : ∀ i : Fin 8, (2 : Int) ^ (8 * (7 - i.1)) = ((256 ^ (7 - i.1) : Nat) : Int) := by decide
theorem beAt_nat (n i : Nat) (hi : i < 8) : beAt (n : Int) i = ((n / 256 ^ (7 - i) % 256 : Nat) : Int) := by
  unfold beAt
  have e1 : min (8 * (8 - 1 - (i : Int))).toNat 64 = 8 * (7 - i) := by omega
  rw [e1, pow_fin ⟨i, hi⟩, Int.fdiv_eq_ediv_of_nonneg _ (Int.natCast_nonneg _)]
  simp only [IntKind.wrap, IntKind.signed, IntKind.bits, Bool.false_and, Bool.false_eq_true, if_false]
  rfl
theorem be_join (n : Nat) (h : n < 18446744073709551616) : beN (beB (n : Int)) = n := by
  have e0 : beAt (n : Int) 0 = ((n / 72057594037927936 % 256 : Nat) : Int) := beAt_nat n 0 (by omega)
  have e1 : beAt (n : Int) 1 = ((n / 281474976710656 % 256 : Nat) : Int) := beAt_nat n 1 (by omega)
  have e2 : beAt (n : Int) 2 = ((n / 1099511627776 % 256 : Nat) : Int) := beAt_nat n 2 (by omega)
  have e3 : beAt (n : Int) 3 = ((n / 4294967296 % 256 : Nat) : Int) := beAt_nat n 3 (by omega)
  have e4 : beAt (n : Int) 4 = ((n / 16777216 % 256 : Nat) : Int) := beAt_nat n 4 (by omega)
  have e5 : beAt (n : Int) 5 = ((n / 65536 % 256 : Nat) : Int) := beAt_nat n 5 (by omega)
  have e6 : beAt (n : Int) 6 = ((n / 256 % 256 : Nat) : Int) := beAt_nat n 6 (by omega)
  have e7 : beAt (n : Int) 7 = ((n / 1 % 256 : Nat) : Int) := beAt_nat n 7 (by omega)
  have hb : beB (n : Int) = [beAt n 0, beAt n 1, beAt n 2, beAt n 3, beAt n 4, beAt n 5, beAt n 6, beAt n 7] := rfl
  rw [hb, e0, e1, e2, e3, e4, e5, e6, e7]
  simp only [beN, List.foldl_cons, List.foldl_nil]
  omega
theorem beB_bd (n : Nat) : ∀ x ∈ beB (n : Int), 0 ≤ x ∧ x < 256 := by
  intro x hx
  obtain ⟨i, hi, rfl⟩ := List.mem_map.1 hx
  rw [beAt_nat n i (List.mem_range.1 hi)]
  have : n / 256 ^ (7 - i) % 256 < 256 := Nat.mod_lt _ (by omega)
  omega
theorem join_ip {p : List Int} (hp : IsIP p) {v : Int} (h0 : 0 ≤ v) : IsIP (joinI p v) := by
  obtain ⟨n, rfl⟩ := Int.eq_ofNat_of_zero_le h0
  refine ⟨by simp [joinI, beB_len, hp.len], fun x hx => ?_⟩
  rcases List.mem_append.1 hx with h | h
  · exact hp.bd x (List.mem_of_mem_take h)
  · exact beB_bd n x h
theorem split_join {p : List Int} (hp : p.length = 16) {v : Int} (h0 : 0 ≤ v) (h1 : v ≤ 18446744073709551615) : (joinI p v).take 8 = p.take 8 ∧ beN ((joinI p v).drop 8) = v := by
  obtain ⟨n, rfl⟩ := Int.eq_ofNat_of_zero_le h0
  have hl : (p.take 8).length = 8 := by simp [hp]
  refine ⟨?_, ?_⟩
  · unfold joinI
    rw [List.take_append_of_le_length (by omega), List.take_of_length_le (by omega)]
  · unfold joinI
    rw [List.drop_append_of_le_length (by omega), List.drop_eq_nil_of_le (by omega), List.nil_append]
    exact be_join n (by omega)
theorem local_ip : IsIP localIP := ⟨rfl, by decide⟩
end Go.Proofs.YtadnpidadcgdcaaDoor

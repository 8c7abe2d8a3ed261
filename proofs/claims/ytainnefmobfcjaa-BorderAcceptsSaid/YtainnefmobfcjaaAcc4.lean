/-
  Texts joined: G2, NOpen, NOpen2, LibQ, LibT, E0, E1, F0, F1.
-/
import Derived.Test.YtainnefmobfcjaaAcc3
import Derived.Laws.Externs
import Derived.Lib.Overlaps
import Derived.Lib.BytesEntry
/-! G2 -/
/-
  Taken out of texts that were proved for another seat: XS1, XS2, XH1, XU2, XV6, XX2.
-/
namespace Go.Proofs.Ytainnefmobfcjaa
set_option linter.unusedVariables false
set_option linter.unusedSimpArgs false
open Go.RowKit
section
set_option linter.unusedVariables false
set_option linter.unusedSimpArgs false
open Go.RowKit
attribute [local irreducible] OpTo wpListIn Code.wpIn MW Cal
theorem quo8 {i : Nat} (hi : i ≤ 1000) : IntKind.i64.wrap ((i : Int).tdiv 8) = ((i / 8 : Nat) : Int) := by
  rw [Int.tdiv_eq_ediv_of_nonneg (by omega), w_i64 (by omega) (by omega)]; omega
theorem rem8 (i : Nat) : (i : Int).tmod 8 = ((i % 8 : Nat) : Int) := by
  rw [Int.tmod_eq_emod_of_nonneg (by omega)]; omega
set_option maxHeartbeats 400000 in
theorem bit_c (a : List Int) (ha : IsIP a) (i : Nat) (hi : i < 128) (W : World) : Cal Try.prog 38 [.agg (ipC a).toArray, .int .i64 i].toArray W fun v w' => v = .int .u8 (bitI a i) ∧ Ext [] W w' := by
  have hlt : i % 8 < 8 := Nat.mod_lt _ (by omega)
  have hn : nth (ipC a) (0 + ((i / 8 : Nat) : Int).toNat * 1) = some (.int .u8 (a.getD (i / 8) 0)) := nth_ip (by rw [ha.len]; omega)
  refine fn_ofM (n := 15) [] Try.func38 rfl rfl rfl ?_
  intro a w F M hwW
  refine c_seq ?_
  refine c_region ?_
  (refine stepD rfl F rfl (o_box M (F.ev rfl) rfl ?_); clear F; clear M; intro b2 w M a F)
  refine stepD rfl F rfl (o_assign (F.ev rfl) ?_); clear F; clear a; intro a F
  with_reducible refine l_nil ?_
  with_reducible refine q_then ?_
  with_reducible refine c_seq ?_
  with_reducible refine c_region ?_
  refine stepD rfl F rfl (o_move (F.ev rfl) ?_); clear F; clear a; intro a F
  refine stepD rfl F rfl (o_quo (F.ev rfl) (F.ev rfl) (by omega) rfl ?_); clear F; clear a; intro a F
  rw [quo8 (i := i) (by omega)] at F
  refine stepD rfl F rfl (o_indexArr (F.ev rfl) (F.ev rfl) (by omega) (by omega) ?_); clear F; clear a; intro a F
  refine stepD rfl F rfl (o_load1 M (F.ev rfl) (by repeat (first | exact .here | apply Has.there)) (by first | assumption | rfl) ?_); clear F; clear a; intro a F
  refine stepD rfl F rfl (o_move (F.ev rfl) ?_); clear F; clear a; intro a F
  refine stepD rfl F rfl (o_rem (F.ev rfl) (F.ev rfl) (by omega) rfl ?_); clear F; clear a; intro a F
  rw [rem8 i] at F
  refine stepD rfl F rfl (o_conv (F.ev rfl) (w_u64 (by omega) (by omega)) ?_); clear F; clear a; intro a F
  refine stepD rfl F rfl (o_sub (F.ev rfl) (F.ev rfl) (w_u64 (by omega) (by omega)) ?_); clear F; clear a; intro a F
  refine stepD rfl F rfl (o_shr (F.ev rfl) (F.ev rfl) (by omega) rfl ?_); clear F; clear a; intro a F
  refine stepD rfl F rfl (o_and (F.ev rfl) (F.ev rfl) rfl ?_); clear F; clear a; intro a F
  refine stepD rfl F rfl (o_assign (F.ev rfl) ?_); clear F; clear a; intro a F
  with_reducible refine l_nil ?_
  with_reducible refine q_then ?_
  with_reducible refine c_ret ?_
  refine p_ret F rfl (.cons (.tmp (F.ev rfl)) .nil) ?_
  exact ⟨rfl, M.ext⟩
set_option maxHeartbeats 400000 in
theorem rvalidPrefix_c (p : List Int) (n : Int) (hp : IsIP p) (W : World) : Cal Try.prog 68 [.agg (pfC p n).toArray].toArray W fun v w' => v = .bool (validP p n) ∧ Ext [] W w' := by
  have e2 := seg_pf0 hp.len n
  have e3 := nth_pf hp.len n
  by_cases h0 : n < 0
  · refine fn_ofM (n := 23) [] Try.func68 rfl rfl rfl ?_
    intro a w F M hwW
    refine c_seq ?_
    refine c_region ?_
    (refine stepD rfl F rfl (o_box M (F.ev rfl) rfl ?_); clear F; clear M; intro b1 w M a F)
    refine stepD rfl F rfl (o_assign (F.ev rfl) ?_); clear F; clear a; intro a F
    with_reducible refine l_nil ?_
    with_reducible refine q_then ?_
    with_reducible refine c_seq ?_
    with_reducible refine c_seq ?_
    with_reducible refine c_region ?_
    refine stepD rfl F rfl (o_fieldAddr (F.ev rfl) ?_); clear F; clear a; intro a F
    refine stepD rfl F rfl (o_load1 M (F.ev rfl) (by repeat (first | exact .here | apply Has.there)) (by first | assumption | rfl) ?_); clear F; clear a; intro a F
    refine stepD rfl F rfl (o_lssT (F.ev rfl) (F.ev rfl) (by omega) ?_); clear F; clear a; intro a F
    refine stepD rfl F rfl (o_move (F.ev rfl) ?_); clear F; clear a; intro a F
    refine stepOff F rfl rfl rfl rfl ?_; clear F; clear a; intro a F
    refine stepOff F rfl rfl rfl rfl ?_; clear F; clear a; intro a F
    refine stepOff F rfl rfl rfl rfl ?_; clear F; clear a; intro a F
    refine stepD rfl F rfl (o_pickT (F.ev rfl) (F.ev rfl) ?_); clear F; clear a; intro a F
    with_reducible refine l_nil ?_
    with_reducible refine q_then ?_
    refine c_true F rfl rfl ?_
    with_reducible refine c_seq ?_
    with_reducible refine c_region ?_
    refine stepD rfl F rfl (o_assign (F.ev rfl) ?_); clear F; clear a; intro a F
    with_reducible refine l_nil ?_
    with_reducible refine q_then ?_
    with_reducible refine c_ret ?_
    with_reducible refine q_thenR ?_
    refine p_ret F rfl (.cons (.tmp (F.ev rfl)) .nil) ?_
    exact ⟨by simp [oneOr, validP, show ¬ 0 ≤ n by omega], M.ext⟩
  · by_cases h1 : 128 < n
    · refine fn_ofM (n := 23) [] Try.func68 rfl rfl rfl ?_
      intro a w F M hwW
      refine c_seq ?_
      refine c_region ?_
      (refine stepD rfl F rfl (o_box M (F.ev rfl) rfl ?_); clear F; clear M; intro b1 w M a F)
      refine stepD rfl F rfl (o_assign (F.ev rfl) ?_); clear F; clear a; intro a F
      with_reducible refine l_nil ?_
      with_reducible refine q_then ?_
      with_reducible refine c_seq ?_
      with_reducible refine c_seq ?_
      with_reducible refine c_region ?_
      refine stepD rfl F rfl (o_fieldAddr (F.ev rfl) ?_); clear F; clear a; intro a F
      refine stepD rfl F rfl (o_load1 M (F.ev rfl) (by repeat (first | exact .here | apply Has.there)) (by first | assumption | rfl) ?_); clear F; clear a; intro a F
      refine stepD rfl F rfl (o_lssF (F.ev rfl) (F.ev rfl) (by omega) ?_); clear F; clear a; intro a F
      refine stepD rfl F rfl (o_move (F.ev rfl) ?_); clear F; clear a; intro a F
      refine stepG rfl F rfl rfl rfl (o_fieldAddr (F.ev rfl) ?_); clear F; clear a; intro a F
      refine stepG rfl F rfl rfl rfl (o_load1 M (F.ev rfl) (by repeat (first | exact .here | apply Has.there)) (by first | assumption | rfl) ?_); clear F; clear a; intro a F
      refine stepG rfl F rfl rfl rfl (o_gtrT (F.ev rfl) (F.ev rfl) (by omega) ?_); clear F; clear a; intro a F
      refine stepD rfl F rfl (o_pickF (F.ev rfl) (F.ev rfl) ?_); clear F; clear a; intro a F
      with_reducible refine l_nil ?_
      with_reducible refine q_then ?_
      refine c_true F rfl rfl ?_
      with_reducible refine c_seq ?_
      with_reducible refine c_region ?_
      refine stepD rfl F rfl (o_assign (F.ev rfl) ?_); clear F; clear a; intro a F
      with_reducible refine l_nil ?_
      with_reducible refine q_then ?_
      with_reducible refine c_ret ?_
      with_reducible refine q_thenR ?_
      refine p_ret F rfl (.cons (.tmp (F.ev rfl)) .nil) ?_
      exact ⟨by simp [oneOr, validP, show ¬ n ≤ 128 by omega], M.ext⟩
    · obtain ⟨k, rfl⟩ := Int.eq_ofNat_of_zero_le (show 0 ≤ n by omega)
      have hv : validP p (k : Int) = decide (maskI p (k : Int) = p) := by
        have h2 : (0 : Int) ≤ k := by omega
        have h3 : (k : Int) ≤ 128 := by omega
        simp only [validP, h2, h3, decide_true, Bool.true_and]
        by_cases h : maskI p (k : Int) = p
        · rw [decide_eq_true h, beq_iff_eq]; exact h
        · rw [decide_eq_false h, beq_eq_false_iff_ne]; exact h
      rw [hv]
      refine fn_ofM (n := 23) [] Try.func68 rfl rfl rfl ?_
      intro a w F M hwW
      refine c_seq ?_
      refine c_region ?_
      (refine stepD rfl F rfl (o_box M (F.ev rfl) rfl ?_); clear F; clear M; intro b1 w M a F)
      refine stepD rfl F rfl (o_assign (F.ev rfl) ?_); clear F; clear a; intro a F
      with_reducible refine l_nil ?_
      with_reducible refine q_then ?_
      with_reducible refine c_seq ?_
      with_reducible refine c_seq ?_
      with_reducible refine c_region ?_
      refine stepD rfl F rfl (o_fieldAddr (F.ev rfl) ?_); clear F; clear a; intro a F
      refine stepD rfl F rfl (o_load1 M (F.ev rfl) (by repeat (first | exact .here | apply Has.there)) (by first | assumption | rfl) ?_); clear F; clear a; intro a F
      refine stepD rfl F rfl (o_lssF (F.ev rfl) (F.ev rfl) (by omega) ?_); clear F; clear a; intro a F
      refine stepD rfl F rfl (o_move (F.ev rfl) ?_); clear F; clear a; intro a F
      refine stepG rfl F rfl rfl rfl (o_fieldAddr (F.ev rfl) ?_); clear F; clear a; intro a F
      refine stepG rfl F rfl rfl rfl (o_load1 M (F.ev rfl) (by repeat (first | exact .here | apply Has.there)) (by first | assumption | rfl) ?_); clear F; clear a; intro a F
      refine stepG rfl F rfl rfl rfl (o_gtrF (F.ev rfl) (F.ev rfl) (by omega) ?_); clear F; clear a; intro a F
      refine stepD rfl F rfl (o_pickF (F.ev rfl) (F.ev rfl) ?_); clear F; clear a; intro a F
      with_reducible refine l_nil ?_
      with_reducible refine q_then ?_
      refine c_false F rfl rfl ?_
      with_reducible refine c_skip ?_
      with_reducible refine q_then ?_
      with_reducible refine c_seq ?_
      with_reducible refine c_seq ?_
      with_reducible refine c_region ?_
      refine stepD rfl F rfl (o_fieldAddr (F.ev rfl) ?_); clear F; clear a; intro a F
      refine stepD rfl F rfl (o_load1 M (F.ev rfl) (by repeat (first | exact .here | apply Has.there)) (by first | assumption | rfl) ?_); clear F; clear a; intro a F
      refine stepD rfl F rfl (o_assign (F.ev rfl) ?_); clear F; clear a; intro a F
      with_reducible refine l_nil ?_
      with_reducible refine q_then ?_
      with_reducible refine c_block ?_
      refine c_loop (fun m a w => ∃ i : Nat, m = 128 - i ∧ k ≤ i ∧ i ≤ 128 ∧ (∀ j, k ≤ j → j < i → bitI p j = 0) ∧ Frm a 23 [] [(3, .int .i64 i), (1, .pointer (some ⟨b1, 0, none⟩))] ∧ Mem [] W w [(b1, .cells (pfC p k).toArray 28 (0, 0))]) (128 - k) ⟨k, rfl, by omega, by omega, fun j h1 h2 => by omega, F.only [3, 1] rfl, M⟩ ?_
      clear F M
      rintro m a w ⟨i, hm, hki, hi, hall, F, M⟩
      by_cases hlt : i < 128
      · with_reducible refine c_seq ?_
        with_reducible refine c_seq ?_
        with_reducible refine c_region ?_
        refine stepD rfl F rfl (o_move (F.ev rfl) ?_); clear F; clear a; intro a F
        refine stepD rfl F rfl (o_lssT (F.ev rfl) (F.ev rfl) (by omega) ?_); clear F; clear a; intro a F
        with_reducible refine l_nil ?_
        with_reducible refine q_then ?_
        refine c_true F rfl rfl ?_
        with_reducible refine c_skip ?_
        with_reducible refine q_then ?_
        with_reducible refine c_seq ?_
        with_reducible refine c_block ?_
        with_reducible refine c_seq ?_
        with_reducible refine c_region ?_
        refine stepD rfl F rfl (o_fieldAddr (F.ev rfl) ?_); clear F; clear a; intro a F
        refine stepD rfl F rfl (o_loadA M (F.ev rfl) (by repeat (first | exact .here | apply Has.there)) (by first | assumption | rfl) ?_); clear F; clear a; intro a F
        refine stepD rfl F rfl (o_move (F.ev rfl) ?_); clear F; clear a; intro a F
        (refine stepD rfl F rfl (o_call (F.ev rfl) (F.evs rfl) (Cal.mono (bit_c p hp i hlt _) ?_)); clear F; clear a; rintro _ w ⟨rfl, hE⟩ a F; replace M := M.later hE; clear hE)
        by_cases hb : bitI p i = 0
        · refine stepD rfl F rfl (o_neqF (F.ev rfl) (F.ev rfl) (by omega) ?_); clear F; clear a; intro a F
          with_reducible refine l_nil ?_
          with_reducible refine q_then ?_
          refine c_false F rfl rfl ?_
          with_reducible refine c_skip ?_
          with_reducible refine q_inB ?_
          with_reducible refine q_then ?_
          with_reducible refine c_region ?_
          refine stepD rfl F rfl (o_move (F.ev rfl) ?_); clear F; clear a; intro a F
          refine stepD rfl F rfl (o_add (F.ev rfl) (F.ev rfl) (w_i64 (by omega) (by omega)) ?_); clear F; clear a; intro a F
          refine stepD rfl F rfl (o_assign (F.ev rfl) ?_); clear F; clear a; intro a F
          with_reducible refine l_nil ?_
          with_reducible refine q_then ?_
          refine ⟨_, by omega, i + 1, rfl, by omega, by omega, fun j h1 h2 => ?_, F.only [3, 1] rfl, M⟩
          by_cases e : j = i
          · subst e; exact hb
          · exact hall j h1 (by omega)
        · refine stepD rfl F rfl (o_neqT (F.ev rfl) (F.ev rfl) (by omega) ?_); clear F; clear a; intro a F
          with_reducible refine l_nil ?_
          with_reducible refine q_then ?_
          refine c_true F rfl rfl ?_
          with_reducible refine c_seq ?_
          with_reducible refine c_region ?_
          refine stepD rfl F rfl (o_assign (F.ev rfl) ?_); clear F; clear a; intro a F
          with_reducible refine l_nil ?_
          with_reducible refine q_then ?_
          with_reducible refine c_ret ?_
          with_reducible refine q_inBR ?_
          with_reducible refine q_thenR ?_
          with_reducible refine q_thenR ?_
          with_reducible refine q_inBR ?_
          with_reducible refine q_thenR ?_
          refine p_ret F rfl (.cons (.tmp (F.ev rfl)) .nil) ?_
          refine ⟨?_, M.ext⟩
          rw [decide_eq_false fun h => hb ((valid_bits hp k).1 h i hki hlt)]
          rfl
      · obtain rfl : i = 128 := by omega
        with_reducible refine c_seq ?_
        with_reducible refine c_seq ?_
        with_reducible refine c_region ?_
        refine stepD rfl F rfl (o_move (F.ev rfl) ?_); clear F; clear a; intro a F
        refine stepD rfl F rfl (o_lssF (F.ev rfl) (F.ev rfl) (by omega) ?_); clear F; clear a; intro a F
        with_reducible refine l_nil ?_
        with_reducible refine q_then ?_
        refine c_false F rfl rfl ?_
        with_reducible refine c_exit ?_
        with_reducible refine q_thenX ?_
        with_reducible refine q_thenX ?_
        with_reducible refine q_inBX ?_
        with_reducible refine q_then ?_
        with_reducible refine c_seq ?_
        with_reducible refine c_region ?_
        refine stepD rfl F rfl (o_assign (F.ev rfl) ?_); clear F; clear a; intro a F
        with_reducible refine l_nil ?_
        with_reducible refine q_then ?_
        with_reducible refine c_ret ?_
        refine p_ret F rfl (.cons (.tmp (F.ev rfl)) .nil) ?_
        refine ⟨?_, M.ext⟩
        rw [decide_eq_true ((valid_bits hp k).2 fun j h1 h2 => hall j h1 h2)]
        rfl
theorem nth_mask {a : List Int} {i : Nat} (hi : i < 128) (n : Int) : nth (pfC (maskI a (i : Int)) n) (0 + 0 + ((i / 8 : Nat) : Int).toNat * 1) = some (.int .u8 (maskAt a (i : Int) (i / 8))) := by
  have h : i / 8 < 16 := by omega
  rw [nth_spec, show 0 + 0 + ((i / 8 : Nat) : Int).toNat * 1 = i / 8 by omega]
  unfold pfC ipC
  rw [List.getElem?_append_left (by simp [maskI_len, h]), List.getElem?_map]
  simp [maskI, h]
theorem put_mask {a : List Int} (ha : IsIP a) {i : Nat} (hi : i < 128) (n : Int) : put (pfC (maskI a (i : Int)) n) (0 + 0 + ((i / 8 : Nat) : Int).toNat * 1) [.int .u8 (bitsOf .or .u8 (maskAt a (i : Int) (i / 8)) (IntKind.u8.wrap (bitI a i * 2 ^ min (7 - ((i % 8 : Nat) : Int)).toNat IntKind.u8.bits)))] = some (pfC (maskI a ((i : Int) + 1)) n) := by
  have h : i / 8 < 16 := by omega
  rw [mask_step ha hi, put1 (q := i / 8) _ (by omega) (by simp [pfC, ipC, maskI_len]; omega)]
  congr 1
  unfold pfC ipC
  rw [List.set_append_left _ _ (by simp [maskI_len, h]), ← List.map_set, mask_set hi]
set_option maxHeartbeats 400000 in
theorem rmask_c (a : List Int) (ha : IsIP a) (n : Int) (W : World) : Cal Try.prog 9 [.agg (ipC a).toArray, .int .i64 n].toArray W fun v w' => v = .agg (pfC (maskI a (clampB n)) (clampB n)).toArray ∧ Ext [] W w' := by
  have e1 := seg_all (ipC_len ha.len)
  obtain ⟨c, hc⟩ : ∃ c : Nat, clampB n = (c : Int) := Int.eq_ofNat_of_zero_le (by unfold clampB; split <;> (try split) <;> omega)
  have hc2 : c ≤ 128 := by have : clampB n ≤ 128 := by unfold clampB; split <;> (try split) <;> omega
                           omega
  obtain ⟨ip, rfl⟩ : ∃ ip, ip = a := ⟨_, rfl⟩
  rw [hc]
  have hz := mask_zero ha
  refine fn_ofM (n := 34) [] Try.func9 rfl rfl rfl ?_
  intro a w F M hwW
  refine c_seq ?_
  refine c_region ?_
  (refine stepD rfl F rfl (o_box M (F.ev rfl) rfl ?_); clear F; clear M; intro b2 w M a F)
  (refine stepD rfl F rfl (o_alloc M ?_); clear F; clear M; intro b4 w M a F)
  with_reducible refine l_nil ?_
  with_reducible refine q_then ?_
  with_reducible refine c_seq ?_
  with_reducible refine c_region ?_
  refine stepD rfl F rfl (o_move (F.ev rfl) ?_); clear F; clear a; intro a F
  refine stepD rfl F rfl (o_max (F.ev rfl) (F.ev rfl) ?_); clear F; clear a; intro a F
  refine stepD rfl F rfl (o_min (F.ev rfl) (F.ev rfl) ?_); clear F; clear a; intro a F
  refine stepD rfl F rfl (o_assign (F.ev rfl) ?_); clear F; clear a; intro a F
  with_reducible refine l_nil ?_
  with_reducible refine q_then ?_
  with_reducible refine c_seq ?_
  with_reducible refine c_region ?_
  refine stepD rfl F rfl (o_move (F.ev rfl) ?_); clear F; clear a; intro a F
  refine stepD rfl F rfl (o_build F rfl rfl ?_); clear F; clear a; intro a F
  rw [show (if 128 < (if n < 0 then 0 else n) then (128 : Int) else (if n < 0 then 0 else n)) = (c : Int) from hc] at F
  skip
  (refine stepD rfl F rfl (o_alloc M ?_); clear F; clear M; intro b5 w M a F)
  (refine stepN rfl F (o_storeA M (F.ev rfl) (F.ev rfl) (by rfl) (by rfl) (by repeat (first | exact .here | apply Has.there)) (by rfl) (by repeat (first | exact .here | apply Upd.there)) ?_); clear F; clear M; intro w M a F)
  with_reducible refine l_nil ?_
  with_reducible refine q_then ?_
  with_reducible refine c_seq ?_
  with_reducible refine c_seq ?_
  with_reducible refine c_region ?_
  refine stepD rfl F rfl (o_assign (F.ev rfl) ?_); clear F; clear a; intro a F
  with_reducible refine l_nil ?_
  with_reducible refine q_then ?_
  with_reducible refine c_block ?_
  replace M : Mem [] W w [(b5, .cells (pfC (maskI ip ((0 : Nat) : Int)) c).toArray 28 (0, 0)), (b4, .cells (pfC zeroIP 0).toArray 28 (0, 0)), (b2, .cells (ipC ip).toArray 26 (0, 0))] := by
    rw [show ((0 : Nat) : Int) = 0 from rfl, hz]
    exact M
  refine c_loop (fun k a w => ∃ i : Nat, k = c - i ∧ i ≤ c ∧ Frm a 34 [] [(6, .int .i64 i), (1, .int .i64 c), (2, .pointer (some ⟨b2, 0, none⟩)), (4, .pointer (some ⟨b4, 0, none⟩)), (5, .pointer (some ⟨b5, 0, none⟩))] ∧ Mem [] W w [(b5, .cells (pfC (maskI ip (i : Int)) c).toArray 28 (0, 0)), (b4, .cells (pfC zeroIP 0).toArray 28 (0, 0)), (b2, .cells (ipC ip).toArray 26 (0, 0))]) c ⟨0, rfl, by omega, F.only [6, 1, 2, 4, 5] rfl, M⟩ ?_
  clear F M
  rintro k a w ⟨i, hk, hi, F, M⟩
  by_cases hlt : i < c
  · have hm8 : i % 8 < 8 := Nat.mod_lt _ (by omega)
    have n1 := nth_mask (a := ip) (i := i) (by omega) (c : Int)
    have hb := bitI_bd ha i
    with_reducible refine c_seq ?_
    with_reducible refine c_seq ?_
    with_reducible refine c_region ?_
    refine stepD rfl F rfl (o_move (F.ev rfl) ?_); clear F; clear a; intro a F
    refine stepD rfl F rfl (o_move (F.ev rfl) ?_); clear F; clear a; intro a F
    refine stepD rfl F rfl (o_lssT (F.ev rfl) (F.ev rfl) (by omega) ?_); clear F; clear a; intro a F
    with_reducible refine l_nil ?_
    with_reducible refine q_then ?_
    refine c_true F rfl rfl ?_
    with_reducible refine c_skip ?_
    with_reducible refine q_then ?_
    with_reducible refine c_seq ?_
    with_reducible refine c_block ?_
    refine c_draw 16 F (by kernel_rfl) ?_
    intro w1 hE hok
    have M1 := M.later hE
    refine mK hok rfl rfl (fun a' w' F' E' => o_move (F'.ev rfl) ⟨Ext.refl _ _, rfl⟩) ?_
    (refine mK hok rfl rfl (fun a' w' F' E' => o_quo (F'.ev rfl) (F'.ev rfl) (by omega) (quo8 (i := i) (by omega)) ⟨Ext.refl _ _, rfl⟩) ?_)
    refine mK hok rfl rfl (fun a' w' F' E' => o_fieldAddr (F'.ev rfl) ⟨Ext.refl _ _, rfl⟩) ?_
    refine mK hok rfl rfl (fun a' w' F' E' => o_indexArr (F'.ev rfl) (F'.ev rfl) (by omega) (by omega) ⟨Ext.refl _ _, rfl⟩) ?_
    refine mK hok rfl rfl (fun a' w' F' E' => o_load1 (M1.later E') (F'.ev rfl) (by repeat (first | exact .here | apply Has.there)) (by first | assumption | rfl) ⟨Ext.refl _ _, rfl⟩) ?_
    refine mK hok rfl rfl (fun a' w' F' E' => o_loadA (M1.later E') (F'.ev rfl) (by repeat (first | exact .here | apply Has.there)) (by first | assumption | rfl) ⟨Ext.refl _ _, rfl⟩) ?_
    refine mK hok rfl rfl (fun a' w' F' E' => o_move (F'.ev rfl) ⟨Ext.refl _ _, rfl⟩) ?_
    (refine mK hok rfl rfl (fun a' w' F' E' => o_call (F'.ev rfl) (F'.evs rfl) (Cal.mono (bit_c ip ha i (by omega) _) fun _ _ hh => ⟨hh.2, hh.1⟩)) ?_)
    refine mK hok rfl rfl (fun a' w' F' E' => o_move (F'.ev rfl) ⟨Ext.refl _ _, rfl⟩) ?_
    (refine mK hok rfl rfl (fun a' w' F' E' => o_rem (F'.ev rfl) (F'.ev rfl) (by omega) (rem8 i) ⟨Ext.refl _ _, rfl⟩) ?_)
    refine mK hok rfl rfl (fun a' w' F' E' => o_conv (F'.ev rfl) (w_u64 (by omega) (by omega)) ⟨Ext.refl _ _, rfl⟩) ?_
    refine mK hok rfl rfl (fun a' w' F' E' => o_sub (F'.ev rfl) (F'.ev rfl) (w_u64 (by omega) (by omega)) ⟨Ext.refl _ _, rfl⟩) ?_
    refine mK hok rfl rfl (fun a' w' F' E' => o_shl (F'.ev rfl) (F'.ev rfl) (by omega) rfl ⟨Ext.refl _ _, rfl⟩) ?_
    refine mK hok rfl rfl (fun a' w' F' E' => o_or (F'.ev rfl) (F'.ev rfl) rfl ⟨Ext.refl _ _, rfl⟩) ?_
    refine mK hok rfl rfl (fun a' w' F' E' => o_fieldAddr (F'.ev rfl) ⟨Ext.refl _ _, rfl⟩) ?_
    refine mK hok rfl rfl (fun a' w' F' E' => o_indexArr (F'.ev rfl) (F'.ev rfl) (by omega) (by omega) ⟨Ext.refl _ _, rfl⟩) ?_
    (refine mDone rfl rfl ?_; clear F; clear M; intro a w F hE2 hX hTT hDD hPP; have M := M1.later hE2; clear M1; clear hX; clear hE2; clear hok; clear hE; clear hTT; clear hDD; clear hPP; (try dsimp only at F))
    (refine stepN rfl F (o_store1 M (F.ev rfl) (F.ev rfl) rfl (by repeat (first | exact .here | apply Has.there)) (put_mask ha (by omega) _) (by repeat (first | exact .here | apply Upd.there)) ?_); clear F; clear M; intro w M a F)
    with_reducible refine l_nil ?_
    with_reducible refine q_inB ?_
    with_reducible refine q_then ?_
    with_reducible refine c_region ?_
    refine stepD rfl F rfl (o_move (F.ev rfl) ?_); clear F; clear a; intro a F
    refine stepD rfl F rfl (o_add (F.ev rfl) (F.ev rfl) (w_i64 (by omega) (by omega)) ?_); clear F; clear a; intro a F
    refine stepD rfl F rfl (o_assign (F.ev rfl) ?_); clear F; clear a; intro a F
    with_reducible refine l_nil ?_
    with_reducible refine q_then ?_
    refine ⟨_, by omega, i + 1, rfl, by omega, F.only [6, 1, 2, 4, 5] rfl, ?_⟩
    rw [show ((i + 1 : Nat) : Int) = (i : Int) + 1 by omega]
    exact M
  · obtain rfl : i = c := by omega
    have s2 := seg_pf (maskI_len ip (i : Int)) (i : Int)
    with_reducible refine c_seq ?_
    with_reducible refine c_seq ?_
    with_reducible refine c_region ?_
    refine stepD rfl F rfl (o_move (F.ev rfl) ?_); clear F; clear a; intro a F
    refine stepD rfl F rfl (o_move (F.ev rfl) ?_); clear F; clear a; intro a F
    refine stepD rfl F rfl (o_lssF (F.ev rfl) (F.ev rfl) (by omega) ?_); clear F; clear a; intro a F
    with_reducible refine l_nil ?_
    with_reducible refine q_then ?_
    refine c_false F rfl rfl ?_
    with_reducible refine c_exit ?_
    with_reducible refine q_thenX ?_
    with_reducible refine q_thenX ?_
    with_reducible refine q_inBX ?_
    with_reducible refine q_then ?_
    with_reducible refine c_seq ?_
    with_reducible refine c_region ?_
    refine stepD rfl F rfl (o_loadA M (F.ev rfl) (by repeat (first | exact .here | apply Has.there)) (by first | assumption | rfl) ?_); clear F; clear a; intro a F
    (refine stepN rfl F (o_storeA M (F.ev rfl) (F.ev rfl) (pfC_len (maskI_len ip (i : Int)) i) (one_pf _ _)  (by repeat (first | exact .here | apply Has.there))  (put_all (by rw [pfC_len (maskI_len ip (i : Int)) i]; rfl)) (by repeat (first | exact .here | apply Upd.there)) ?_); clear F; clear M; intro w M a F)
    with_reducible refine l_nil ?_
    with_reducible refine q_then ?_
    with_reducible refine c_ret ?_
    refine p_ret F rfl (.cons (.cell (F.ev rfl) (run_loadVar_agg TAgg.h (M.heap (by repeat (first | exact .here | apply Has.there))) s2)) .nil) ⟨rfl, M.ext⟩
set_option maxHeartbeats 400000 in
theorem rcommon_c (p q : List Int) (hp : IsIP p) (hq : IsIP q) (W : World) : Cal Try.prog 101 [.agg (ipC p).toArray, .agg (ipC q).toArray].toArray W fun v w' => v = .int .i64 (commonI p q) ∧ Ext [] W w' := by
  have e1 := seg_all (ipC_len hp.len)
  have e2 := seg_all (ipC_len hq.len)
  refine fn_ofM (n := 20) [] Try.func101 rfl rfl rfl ?_
  intro a w F M hwW
  refine c_seq ?_
  refine c_region ?_
  (refine stepD rfl F rfl (o_box M (F.ev rfl) rfl ?_); clear F; clear M; intro b2 w M a F)
  (refine stepD rfl F rfl (o_box M (F.ev rfl) rfl ?_); clear F; clear M; intro b3 w M a F)
  refine stepD rfl F rfl (o_assign (F.ev rfl) ?_); clear F; clear a; intro a F
  with_reducible refine l_nil ?_
  with_reducible refine q_then ?_
  with_reducible refine c_seq ?_
  with_reducible refine c_region ?_
  refine stepD rfl F rfl (o_assign (F.ev rfl) ?_); clear F; clear a; intro a F
  with_reducible refine l_nil ?_
  with_reducible refine q_then ?_
  with_reducible refine c_seq ?_
  with_reducible refine c_block ?_
  refine c_loop (fun k a w => ∃ i : Nat, k = 128 - i ∧ i ≤ 128 ∧ (∀ j, j < i → bitI p j = bitI q j) ∧ Frm a 20 [] [(5, .int .i64 i), (2, .pointer (some ⟨b2, 0, none⟩)), (3, .pointer (some ⟨b3, 0, none⟩))] ∧ Mem [] W w [(b3, .cells (ipC q).toArray 26 (0, 0)), (b2, .cells (ipC p).toArray 26 (0, 0))]) 128 ⟨0, rfl, by omega, fun j h => by omega, F.only [5, 2, 3] rfl, M⟩ ?_
  clear F M
  rintro k a w ⟨i, hk, hi, hall, F, M⟩
  by_cases hlt : i < 128
  · by_cases hb : bitI p i = bitI q i
    · with_reducible refine c_seq ?_
      with_reducible refine c_seq ?_
      refine c_draw 11 F (by kernel_rfl) ?_
      intro w1 hE hok
      have M1 := M.later hE
      refine mK hok rfl rfl (fun a' w' F' E' => o_move (F'.ev rfl) ⟨Ext.refl _ _, rfl⟩) ?_
      refine mK hok rfl rfl (fun a' w' F' E' => o_lssT (F'.ev rfl) (F'.ev rfl) (by omega) ⟨Ext.refl _ _, rfl⟩) ?_
      refine mK hok rfl rfl (fun a' w' F' E' => o_move (F'.ev rfl) ⟨Ext.refl _ _, rfl⟩) ?_
      refine mKG hok rfl rfl rfl rfl (fun a' w' F' E' => o_loadA (M1.later E') (F'.ev rfl) (by repeat (first | exact .here | apply Has.there)) (by first | assumption | rfl) ⟨Ext.refl _ _, rfl⟩) ?_
      refine mKG hok rfl rfl rfl rfl (fun a' w' F' E' => o_move (F'.ev rfl) ⟨Ext.refl _ _, rfl⟩) ?_
      (refine mKG hok rfl rfl rfl rfl (fun a' w' F' E' => o_call (F'.ev rfl) (F'.evs rfl) (Cal.mono (bit_c p hp i hlt _) fun _ _ hh => ⟨hh.2, hh.1⟩)) ?_)
      refine mKG hok rfl rfl rfl rfl (fun a' w' F' E' => o_loadA (M1.later E') (F'.ev rfl) (by repeat (first | exact .here | apply Has.there)) (by first | assumption | rfl) ⟨Ext.refl _ _, rfl⟩) ?_
      refine mKG hok rfl rfl rfl rfl (fun a' w' F' E' => o_move (F'.ev rfl) ⟨Ext.refl _ _, rfl⟩) ?_
      (refine mKG hok rfl rfl rfl rfl (fun a' w' F' E' => o_call (F'.ev rfl) (F'.evs rfl) (Cal.mono (bit_c q hq i hlt _) fun _ _ hh => ⟨hh.2, hh.1⟩)) ?_)
      refine mKG hok rfl rfl rfl rfl (fun a' w' F' E' => o_eqlT (F'.ev rfl) (F'.ev rfl) (by omega) ⟨Ext.refl _ _, rfl⟩) ?_
      refine mK hok rfl rfl (fun a' w' F' E' => o_pickT (F'.ev rfl) (F'.ev rfl) ⟨Ext.refl _ _, rfl⟩) ?_
      (refine mDone rfl rfl ?_; clear F; clear M; intro a w F hE2 hX hTT hDD hPP; have M := M1.later hE2; clear M1; clear hX; clear hE2; clear hok; clear hE; clear hTT; clear hDD; clear hPP; (try dsimp only at F))
      with_reducible refine l_nil ?_
      with_reducible refine q_then ?_
      refine c_true F rfl rfl ?_
      with_reducible refine c_skip ?_
      with_reducible refine q_then ?_
      with_reducible refine c_block ?_
      with_reducible refine c_region ?_
      refine stepD rfl F rfl (o_move (F.ev rfl) ?_); clear F; clear a; intro a F
      refine stepD rfl F rfl (o_add (F.ev rfl) (F.ev rfl) (w_i64 (by omega) (by omega)) ?_); clear F; clear a; intro a F
      refine stepD rfl F rfl (o_assign (F.ev rfl) ?_); clear F; clear a; intro a F
      with_reducible refine l_nil ?_
      with_reducible refine q_inB ?_
      with_reducible refine q_then ?_
      refine ⟨_, by omega, i + 1, rfl, by omega, fun j h => ?_, F.only [5, 2, 3] rfl, M⟩
      by_cases e : j = i
      · subst e; exact hb
      · exact hall j (by omega)
    · with_reducible refine c_seq ?_
      with_reducible refine c_seq ?_
      refine c_draw 11 F (by kernel_rfl) ?_
      intro w1 hE hok
      have M1 := M.later hE
      refine mK hok rfl rfl (fun a' w' F' E' => o_move (F'.ev rfl) ⟨Ext.refl _ _, rfl⟩) ?_
      refine mK hok rfl rfl (fun a' w' F' E' => o_lssT (F'.ev rfl) (F'.ev rfl) (by omega) ⟨Ext.refl _ _, rfl⟩) ?_
      refine mK hok rfl rfl (fun a' w' F' E' => o_move (F'.ev rfl) ⟨Ext.refl _ _, rfl⟩) ?_
      refine mKG hok rfl rfl rfl rfl (fun a' w' F' E' => o_loadA (M1.later E') (F'.ev rfl) (by repeat (first | exact .here | apply Has.there)) (by first | assumption | rfl) ⟨Ext.refl _ _, rfl⟩) ?_
      refine mKG hok rfl rfl rfl rfl (fun a' w' F' E' => o_move (F'.ev rfl) ⟨Ext.refl _ _, rfl⟩) ?_
      (refine mKG hok rfl rfl rfl rfl (fun a' w' F' E' => o_call (F'.ev rfl) (F'.evs rfl) (Cal.mono (bit_c p hp i hlt _) fun _ _ hh => ⟨hh.2, hh.1⟩)) ?_)
      refine mKG hok rfl rfl rfl rfl (fun a' w' F' E' => o_loadA (M1.later E') (F'.ev rfl) (by repeat (first | exact .here | apply Has.there)) (by first | assumption | rfl) ⟨Ext.refl _ _, rfl⟩) ?_
      refine mKG hok rfl rfl rfl rfl (fun a' w' F' E' => o_move (F'.ev rfl) ⟨Ext.refl _ _, rfl⟩) ?_
      (refine mKG hok rfl rfl rfl rfl (fun a' w' F' E' => o_call (F'.ev rfl) (F'.evs rfl) (Cal.mono (bit_c q hq i hlt _) fun _ _ hh => ⟨hh.2, hh.1⟩)) ?_)
      refine mKG hok rfl rfl rfl rfl (fun a' w' F' E' => o_eqlF (F'.ev rfl) (F'.ev rfl) (by omega) ⟨Ext.refl _ _, rfl⟩) ?_
      refine mK hok rfl rfl (fun a' w' F' E' => o_pickT (F'.ev rfl) (F'.ev rfl) ⟨Ext.refl _ _, rfl⟩) ?_
      (refine mDone rfl rfl ?_; clear F; clear M; intro a w F hE2 hX hTT hDD hPP; have M := M1.later hE2; clear M1; clear hX; clear hE2; clear hok; clear hE; clear hTT; clear hDD; clear hPP; (try dsimp only at F))
      with_reducible refine l_nil ?_
      with_reducible refine q_then ?_
      refine c_false F rfl rfl ?_
      with_reducible refine c_exit ?_
      with_reducible refine q_thenX ?_
      with_reducible refine q_thenX ?_
      with_reducible refine q_inBX ?_
      with_reducible refine q_then ?_
      with_reducible refine c_seq ?_
      with_reducible refine c_region ?_
      refine stepD rfl F rfl (o_move (F.ev rfl) ?_); clear F; clear a; intro a F
      refine stepD rfl F rfl (o_assign (F.ev rfl) ?_); clear F; clear a; intro a F
      with_reducible refine l_nil ?_
      with_reducible refine q_then ?_
      with_reducible refine c_ret ?_
      refine p_ret F rfl (.cons (.tmp (F.ev rfl)) .nil) ?_
      exact ⟨by rw [common_is hp hq (by omega) hall (fun _ => hb)]; rfl, M.ext⟩
  · obtain rfl : i = 128 := by omega
    with_reducible refine c_seq ?_
    with_reducible refine c_seq ?_
    refine c_draw 11 F (by kernel_rfl) ?_
    intro w1 hE hok
    have M1 := M.later hE
    refine mK hok rfl rfl (fun a' w' F' E' => o_move (F'.ev rfl) ⟨Ext.refl _ _, rfl⟩) ?_
    refine mK hok rfl rfl (fun a' w' F' E' => o_lssF (F'.ev rfl) (F'.ev rfl) (by omega) ⟨Ext.refl _ _, rfl⟩) ?_
    refine mK hok rfl rfl (fun a' w' F' E' => o_move (F'.ev rfl) ⟨Ext.refl _ _, rfl⟩) ?_
    refine mOff hok rfl rfl rfl rfl rfl ?_
    refine mOff hok rfl rfl rfl rfl rfl ?_
    refine mOff hok rfl rfl rfl rfl rfl ?_
    refine mOff hok rfl rfl rfl rfl rfl ?_
    refine mOff hok rfl rfl rfl rfl rfl ?_
    refine mOff hok rfl rfl rfl rfl rfl ?_
    refine mOff hok rfl rfl rfl rfl rfl ?_
    refine mK hok rfl rfl (fun a' w' F' E' => o_pickF (F'.ev rfl) (F'.ev rfl) ⟨Ext.refl _ _, rfl⟩) ?_
    (refine mDone rfl rfl ?_; clear F; clear M; intro a w F hE2 hX hTT hDD hPP; have M := M1.later hE2; clear M1; clear hX; clear hE2; clear hok; clear hE; clear hTT; clear hDD; clear hPP; (try dsimp only at F))
    with_reducible refine l_nil ?_
    with_reducible refine q_then ?_
    refine c_false F rfl rfl ?_
    with_reducible refine c_exit ?_
    with_reducible refine q_thenX ?_
    with_reducible refine q_thenX ?_
    with_reducible refine q_inBX ?_
    with_reducible refine q_then ?_
    with_reducible refine c_seq ?_
    with_reducible refine c_region ?_
    refine stepD rfl F rfl (o_move (F.ev rfl) ?_); clear F; clear a; intro a F
    refine stepD rfl F rfl (o_assign (F.ev rfl) ?_); clear F; clear a; intro a F
    with_reducible refine l_nil ?_
    with_reducible refine q_then ?_
    with_reducible refine c_ret ?_
    refine p_ret F rfl (.cons (.tmp (F.ev rfl)) .nil) ?_
    exact ⟨by rw [common_is hp hq (n := 128) (by omega) hall (fun h => by omega)]; rfl, M.ext⟩
theorem shl8add {v c : Int} (h0 : 0 ≤ v) (h1 : v < 72057594037927936) (c0 : 0 ≤ c) (c1 : c < 256) : IntKind.u64.wrap (IntKind.u64.wrap (v * 2 ^ min (Int.toNat 8) IntKind.u64.bits) + c) = 256 * v + c := by
  have e : (v * 2 ^ min (Int.toNat 8) IntKind.u64.bits) = 256 * v := by
    show v * 256 = _
    omega
  have e2 : IntKind.u64.wrap (256 * v) = 256 * v := w_u64 (by omega) (by omega)
  rw [e, e2]
  exact w_u64 (by omega) (by omega)
set_option maxHeartbeats 400000 in
theorem rsplit_c (p : List Int) (hp : IsIP p) (W : World) : Cal Try.prog 109 [.agg (ipC p).toArray].toArray W fun v w' => v = .tuple #[.int .u64 (beN (p.take 8)), .int .u64 (beN (p.drop 8))] ∧ Ext [] W w' := by
  refine fn_ofM (n := 28) [] Try.func109 rfl rfl rfl ?_
  intro a w F M hwW
  refine c_seq ?_
  refine c_region ?_
  (refine stepD rfl F rfl (o_box M (F.ev rfl) rfl ?_); clear F; clear M; intro b1 w M a F)
  refine stepD rfl F rfl (o_assign (F.ev rfl) ?_); clear F; clear a; intro a F
  refine stepD rfl F rfl (o_assign (F.ev rfl) ?_); clear F; clear a; intro a F
  with_reducible refine l_nil ?_
  with_reducible refine q_then ?_
  with_reducible refine c_seq ?_
  with_reducible refine c_region ?_
  refine stepD rfl F rfl (o_assign (F.ev rfl) ?_); clear F; clear a; intro a F
  refine stepD rfl F rfl (o_assign (F.ev rfl) ?_); clear F; clear a; intro a F
  with_reducible refine l_nil ?_
  with_reducible refine q_then ?_
  with_reducible refine c_seq ?_
  with_reducible refine c_seq ?_
  with_reducible refine c_region ?_
  refine stepD rfl F rfl (o_assign (F.ev rfl) ?_); clear F; clear a; intro a F
  with_reducible refine l_nil ?_
  with_reducible refine q_then ?_
  with_reducible refine c_block ?_
  refine c_loop (fun k a w => ∃ i : Nat, k = 8 - i ∧ i ≤ 8 ∧ Frm a 28 [] [(6, .int .i64 i), (4, .int .u64 (beN (p.take i))), (5, .int .u64 (beN ((p.drop 8).take i))), (1, .pointer (some ⟨b1, 0, none⟩))] ∧ Mem [] W w [(b1, .cells (ipC p).toArray 26 (0, 0))]) 8 ⟨0, rfl, by omega, F.only [6, 4, 5, 1] rfl, M⟩ ?_
  clear F M
  rintro k a w ⟨i, hk, hi, F, M⟩
  by_cases hlt : i < 8
  · have n1 := nth_ip (a := p) (i := i) (by rw [hp.len]; omega)
    have n2 : nth (ipC p) (0 + (8 + (i : Int)).toNat * 1) = some (.int .u8 (p.getD (8 + i) 0)) := by
      have := nth_ip (a := p) (i := 8 + i) (by rw [hp.len]; omega)
      rwa [show 0 + ((8 + i : Nat) : Int).toNat * 1 = 0 + (8 + (i : Int)).toNat * 1 by omega] at this
    have g1 := hp.at_ i
    have g2 := hp.at_ (8 + i)
    have v1 := beN_bd i (p.take i) (by rw [List.length_take, hp.len]; omega) (fun x h => hp.bd x (List.mem_of_mem_take h))
    have v2 := beN_bd i ((p.drop 8).take i) (by rw [List.length_take, List.length_drop, hp.len]; omega) (fun x h => hp.bd x (List.mem_of_mem_drop (List.mem_of_mem_take h)))
    have hpw : 256 ^ i ≤ 72057594037927936 := Nat.le_trans (Nat.pow_le_pow_right (by omega) (show i ≤ 7 by omega)) (by decide)
    have s1 : p.take (i + 1) = p.take i ++ [p.getD i 0] := by
      rw [List.take_succ_eq_append_getElem (by rw [hp.len]; omega), List.getD_eq_getElem?_getD, List.getElem?_eq_getElem (by rw [hp.len]; omega)]; rfl
    have s2 : (p.drop 8).take (i + 1) = (p.drop 8).take i ++ [p.getD (8 + i) 0] := by
      rw [List.take_succ_eq_append_getElem (by rw [List.length_drop, hp.len]; omega), List.getD_eq_getElem?_getD, List.getElem?_eq_getElem (by rw [hp.len]; omega)]; simp
    with_reducible refine c_seq ?_
    with_reducible refine c_seq ?_
    with_reducible refine c_region ?_
    refine stepD rfl F rfl (o_move (F.ev rfl) ?_); clear F; clear a; intro a F
    refine stepD rfl F rfl (o_lssT (F.ev rfl) (F.ev rfl) (by omega) ?_); clear F; clear a; intro a F
    with_reducible refine l_nil ?_
    with_reducible refine q_then ?_
    refine c_true F rfl rfl ?_
    with_reducible refine c_skip ?_
    with_reducible refine q_then ?_
    with_reducible refine c_seq ?_
    with_reducible refine c_block ?_
    refine c_draw 16 F (by kernel_rfl) ?_
    intro w1 hE hok
    have M1 := M.later hE
    refine mK hok rfl rfl (fun a' w' F' E' => o_move (F'.ev rfl) ⟨Ext.refl _ _, rfl⟩) ?_
    refine mK hok rfl rfl (fun a' w' F' E' => o_shl (F'.ev rfl) (F'.ev rfl) (by omega) rfl ⟨Ext.refl _ _, rfl⟩) ?_
    refine mK hok rfl rfl (fun a' w' F' E' => o_move (F'.ev rfl) ⟨Ext.refl _ _, rfl⟩) ?_
    refine mK hok rfl rfl (fun a' w' F' E' => o_indexArr (F'.ev rfl) (F'.ev rfl) (by omega) (by omega) ⟨Ext.refl _ _, rfl⟩) ?_
    refine mK hok rfl rfl (fun a' w' F' E' => o_load1 (M1.later E') (F'.ev rfl) (by repeat (first | exact .here | apply Has.there)) (by first | assumption | rfl) ⟨Ext.refl _ _, rfl⟩) ?_
    refine mK hok rfl rfl (fun a' w' F' E' => o_conv (F'.ev rfl) (w_u64 (by omega) (by omega)) ⟨Ext.refl _ _, rfl⟩) ?_
    (refine mK hok rfl rfl (fun a' w' F' E' => o_add (F'.ev rfl) (F'.ev rfl) (shl8add v1.1 (by omega) g1.1 g1.2) ⟨Ext.refl _ _, rfl⟩) ?_)
    refine mK hok rfl rfl (fun a' w' F' E' => o_move (F'.ev rfl) ⟨Ext.refl _ _, rfl⟩) ?_
    refine mK hok rfl rfl (fun a' w' F' E' => o_shl (F'.ev rfl) (F'.ev rfl) (by omega) rfl ⟨Ext.refl _ _, rfl⟩) ?_
    refine mK hok rfl rfl (fun a' w' F' E' => o_move (F'.ev rfl) ⟨Ext.refl _ _, rfl⟩) ?_
    refine mK hok rfl rfl (fun a' w' F' E' => o_add (F'.ev rfl) (F'.ev rfl) (w_i64 (by omega) (by omega)) ⟨Ext.refl _ _, rfl⟩) ?_
    refine mK hok rfl rfl (fun a' w' F' E' => o_indexArr (F'.ev rfl) (F'.ev rfl) (by omega) (by omega) ⟨Ext.refl _ _, rfl⟩) ?_
    refine mK hok rfl rfl (fun a' w' F' E' => o_load1 (M1.later E') (F'.ev rfl) (by repeat (first | exact .here | apply Has.there)) (by first | assumption | rfl) ⟨Ext.refl _ _, rfl⟩) ?_
    refine mK hok rfl rfl (fun a' w' F' E' => o_conv (F'.ev rfl) (w_u64 (by omega) (by omega)) ⟨Ext.refl _ _, rfl⟩) ?_
    (refine mK hok rfl rfl (fun a' w' F' E' => o_add (F'.ev rfl) (F'.ev rfl) (shl8add v2.1 (by omega) g2.1 g2.2) ⟨Ext.refl _ _, rfl⟩) ?_)
    refine mK hok rfl rfl (fun a' w' F' E' => o_assign (F'.ev rfl) ⟨Ext.refl _ _, rfl⟩) ?_
    (refine mDone rfl rfl ?_; clear F; clear M; intro a w F hE2 hX hTT hDD hPP; have M := M1.later hE2; clear M1; clear hX; clear hE2; clear hok; clear hE; clear hTT; clear hDD; clear hPP; (try dsimp only at F))
    refine stepD rfl F rfl (o_assign (F.ev rfl) ?_); clear F; clear a; intro a F
    with_reducible refine l_nil ?_
    with_reducible refine q_inB ?_
    with_reducible refine q_then ?_
    with_reducible refine c_region ?_
    refine stepD rfl F rfl (o_move (F.ev rfl) ?_); clear F; clear a; intro a F
    refine stepD rfl F rfl (o_add (F.ev rfl) (F.ev rfl) (w_i64 (by omega) (by omega)) ?_); clear F; clear a; intro a F
    refine stepD rfl F rfl (o_assign (F.ev rfl) ?_); clear F; clear a; intro a F
    with_reducible refine l_nil ?_
    with_reducible refine q_then ?_
    refine ⟨_, by omega, i + 1, rfl, by omega, ?_, M⟩
    rw [s1, s2, beN_snoc, beN_snoc]
    exact F.only [6, 4, 5, 1] rfl
  · obtain rfl : i = 8 := by omega
    rw [show (p.drop 8).take 8 = p.drop 8 from List.take_of_length_le (by rw [List.length_drop, hp.len]; omega)] at F
    with_reducible refine c_seq ?_
    with_reducible refine c_seq ?_
    with_reducible refine c_region ?_
    refine stepD rfl F rfl (o_move (F.ev rfl) ?_); clear F; clear a; intro a F
    refine stepD rfl F rfl (o_lssF (F.ev rfl) (F.ev rfl) (by omega) ?_); clear F; clear a; intro a F
    with_reducible refine l_nil ?_
    with_reducible refine q_then ?_
    refine c_false F rfl rfl ?_
    with_reducible refine c_exit ?_
    with_reducible refine q_thenX ?_
    with_reducible refine q_thenX ?_
    with_reducible refine q_inBX ?_
    with_reducible refine q_then ?_
    with_reducible refine c_seq ?_
    with_reducible refine c_region ?_
    refine stepD rfl F rfl (o_move (F.ev rfl) ?_); clear F; clear a; intro a F
    refine stepD rfl F rfl (o_move (F.ev rfl) ?_); clear F; clear a; intro a F
    refine stepD rfl F rfl (o_assign (F.ev rfl) ?_); clear F; clear a; intro a F
    refine stepD rfl F rfl (o_assign (F.ev rfl) ?_); clear F; clear a; intro a F
    with_reducible refine l_nil ?_
    with_reducible refine q_then ?_
    with_reducible refine c_ret ?_
    refine p_ret F rfl (.cons (.tmp (F.ev rfl)) (.cons (.tmp (F.ev rfl)) .nil)) ?_
    exact ⟨rfl, M.ext⟩
end

section
set_option linter.unusedVariables false
set_option linter.unusedSimpArgs false
open Go.RowKit
attribute [local irreducible] OpTo wpListIn Code.wpIn MW Cal
theorem rjoin_eq {p : List Int} (hp : IsIP p) (v : Int) : beB (beN (p.take 8)) ++ beB v = joinI p v := by
  rw [be_inv (by simp [hp.len]) (fun x h => hp.bd x (List.mem_of_mem_take h))]; rfl
set_option maxHeartbeats 1000000 in
theorem rjoin_c (p : List Int) (hp : IsIP p) (n v : Int) (hv : 0 ≤ v) (W : World) : Cal Try.prog 94 [.agg (pfC p n).toArray, .int .u64 v].toArray W fun x w' => x = optIP (joinP p n v) ∧ Ext [] W w' := by
  have e1 := seg_pf hp.len n
  have e2 := seg_pf0 hp.len n
  have e3 := nth_pf hp.len n
  have s3 : seg (ipC (joinI p v)) 0 16 = some (ipC (joinI p v)) := seg_all (by simp [ipC, joinI, beB_len, hp.len])
  have hl3 : (ipC (joinI p v)).length = 16 := by simp [ipC, joinI, beB_len, hp.len]
  have hbe := (beN_bd 8 (p.take 8) (by simp [hp.len]) (fun x h => hp.bd x (List.mem_of_mem_take h))).1
  cases hvp : validP p n
  · refine fn_ofM (n := 26) [] Try.func94 rfl rfl rfl ?_
    intro a w F M hwW
    refine c_seq ?_
    refine c_region ?_
    (refine stepD rfl F rfl (o_box M (F.ev rfl) rfl ?_); clear F; clear M; intro b2 w M a F)
    (refine stepD rfl F rfl (o_alloc M ?_); clear F; clear M; intro b4 w M a F)
    refine stepD rfl F rfl (o_assign (F.ev rfl) ?_); clear F; clear a; intro a F
    with_reducible refine l_nil ?_
    with_reducible refine q_then ?_
    with_reducible refine c_seq ?_
    with_reducible refine c_seq ?_
    with_reducible refine c_region ?_
    refine stepD rfl F rfl (o_loadA M (F.ev rfl) (by repeat (first | exact .here | apply Has.there)) (by first | assumption | rfl) ?_); clear F; clear a; intro a F
    (refine stepD rfl F rfl (o_call (F.ev rfl) (F.evs rfl) (Cal.mono (Cal.to (rvalidPrefix_c p n hp _) (by rw [hvp])) ?_)); clear F; clear a; rintro _ w ⟨rfl, hE⟩ a F; replace M := M.later hE; clear hE)
    refine stepD rfl F rfl (o_not (F.ev rfl) ?_); clear F; clear a; intro a F
    refine stepD rfl F rfl (o_move (F.ev rfl) ?_); clear F; clear a; intro a F
    refine stepOff F rfl rfl rfl rfl ?_; clear F; clear a; intro a F
    refine stepOff F rfl rfl rfl rfl ?_; clear F; clear a; intro a F
    refine stepOff F rfl rfl rfl rfl ?_; clear F; clear a; intro a F
    refine stepD rfl F rfl (o_pickT (F.ev rfl) (F.ev rfl) ?_); clear F; clear a; intro a F
    with_reducible refine l_nil ?_
    with_reducible refine q_then ?_
    refine c_true F rfl rfl ?_
    with_reducible refine c_seq ?_
    with_reducible refine c_region ?_
    refine stepD rfl F rfl (o_build F rfl rfl ?_); clear F; clear a; intro a F
    (refine stepN rfl F (o_storeA M (F.ev rfl) (F.ev rfl) (by rfl) (by rfl) (by repeat (first | exact .here | apply Has.there)) (by rfl) (by repeat (first | exact .here | apply Upd.there)) ?_); clear F; clear M; intro w M a F)
    refine stepD rfl F rfl (o_assign (F.ev rfl) ?_); clear F; clear a; intro a F
    with_reducible refine l_nil ?_
    with_reducible refine q_then ?_
    with_reducible refine c_ret ?_
    with_reducible refine q_thenR ?_
    refine p_ret F rfl (.cons (.cell (F.ev rfl) (run_loadVar_agg TAgg.h (M.heap (by repeat (first | exact .here | apply Has.there))) rfl)) (.cons (.tmp (F.ev rfl)) .nil)) ⟨by simp [joinP, hvp, optIP, oneOr, zeroIP, ipC], M.ext⟩
  · by_cases h64 : n ≤ 64
    · refine fn_ofM (n := 26) [] Try.func94 rfl rfl rfl ?_
      intro a w F M hwW
      refine c_seq ?_
      refine c_region ?_
      (refine stepD rfl F rfl (o_box M (F.ev rfl) rfl ?_); clear F; clear M; intro b2 w M a F)
      (refine stepD rfl F rfl (o_alloc M ?_); clear F; clear M; intro b4 w M a F)
      refine stepD rfl F rfl (o_assign (F.ev rfl) ?_); clear F; clear a; intro a F
      with_reducible refine l_nil ?_
      with_reducible refine q_then ?_
      with_reducible refine c_seq ?_
      with_reducible refine c_seq ?_
      with_reducible refine c_region ?_
      refine stepD rfl F rfl (o_loadA M (F.ev rfl) (by repeat (first | exact .here | apply Has.there)) (by first | assumption | rfl) ?_); clear F; clear a; intro a F
      (refine stepD rfl F rfl (o_call (F.ev rfl) (F.evs rfl) (Cal.mono (Cal.to (rvalidPrefix_c p n hp _) (by rw [hvp])) ?_)); clear F; clear a; rintro _ w ⟨rfl, hE⟩ a F; replace M := M.later hE; clear hE)
      refine stepD rfl F rfl (o_not (F.ev rfl) ?_); clear F; clear a; intro a F
      refine stepD rfl F rfl (o_move (F.ev rfl) ?_); clear F; clear a; intro a F
      refine stepG rfl F rfl rfl rfl (o_fieldAddr (F.ev rfl) ?_); clear F; clear a; intro a F
      refine stepG rfl F rfl rfl rfl (o_load1 M (F.ev rfl) (by repeat (first | exact .here | apply Has.there)) (by first | assumption | rfl) ?_); clear F; clear a; intro a F
      refine stepG rfl F rfl rfl rfl (o_gtrF (F.ev rfl) (F.ev rfl) (by omega) ?_); clear F; clear a; intro a F
      refine stepD rfl F rfl (o_pickF (F.ev rfl) (F.ev rfl) ?_); clear F; clear a; intro a F
      with_reducible refine l_nil ?_
      with_reducible refine q_then ?_
      refine c_false F rfl rfl ?_
      with_reducible refine c_skip ?_
      with_reducible refine q_then ?_
      with_reducible refine c_seq ?_
      with_reducible refine c_region ?_
      refine stepD rfl F rfl (o_fieldAddr (F.ev rfl) ?_); clear F; clear a; intro a F
      refine stepD rfl F rfl (o_loadA M (F.ev rfl) (by repeat (first | exact .here | apply Has.there)) (by first | assumption | rfl) ?_); clear F; clear a; intro a F
      (refine stepD rfl F rfl (o_call (F.ev rfl) (F.evs rfl) (Cal.mono (rsplit_c p hp _) ?_)); clear F; clear a; rintro _ w ⟨rfl, hE⟩ a F; replace M := M.later hE; clear hE)
      refine stepD rfl F rfl (o_move (F.ev rfl) ?_); clear F; clear a; intro a F
      refine stepD rfl F rfl (o_extract (F.ev rfl) rfl ?_); clear F; clear a; intro a F
      refine stepD rfl F rfl (o_extract (F.ev rfl) rfl ?_); clear F; clear a; intro a F
      refine stepD rfl F rfl (o_assign (F.ev rfl) ?_); clear F; clear a; intro a F
      refine stepD rfl F rfl (o_assign (F.ev rfl) ?_); clear F; clear a; intro a F
      with_reducible refine l_nil ?_
      with_reducible refine q_then ?_
      with_reducible refine c_seq ?_
      with_reducible refine c_region ?_
      refine stepD rfl F rfl (o_move (F.ev rfl) ?_); clear F; clear a; intro a F
      refine stepD rfl F rfl (o_move (F.ev rfl) ?_); clear F; clear a; intro a F
      (refine stepD rfl F rfl (o_call (F.ev rfl) (F.evs rfl) (Cal.mono (Cal.to (of_c _ v hbe hv _) (by rw [rjoin_eq hp v])) ?_)); clear F; clear a; rintro _ w ⟨rfl, hE⟩ a F; replace M := M.later hE; clear hE)
      (refine stepN rfl F (o_storeA M (F.ev rfl) (F.ev rfl) hl3 (one_ip _)  (by repeat (first | exact .here | apply Has.there))  (put_all (by rw [hl3]; rfl)) (by repeat (first | exact .here | apply Upd.there)) ?_); clear F; clear M; intro w M a F)
      refine stepD rfl F rfl (o_assign (F.ev rfl) ?_); clear F; clear a; intro a F
      with_reducible refine l_nil ?_
      with_reducible refine q_then ?_
      with_reducible refine c_ret ?_
      refine p_ret F rfl (.cons (.cell (F.ev rfl) (run_loadVar_agg TAgg.h (M.heap (by repeat (first | exact .here | apply Has.there))) s3)) (.cons (.tmp (F.ev rfl)) .nil)) ⟨by simp [joinP, hvp, h64, optIP, oneOr], M.ext⟩
    · refine fn_ofM (n := 26) [] Try.func94 rfl rfl rfl ?_
      intro a w F M hwW
      refine c_seq ?_
      refine c_region ?_
      (refine stepD rfl F rfl (o_box M (F.ev rfl) rfl ?_); clear F; clear M; intro b2 w M a F)
      (refine stepD rfl F rfl (o_alloc M ?_); clear F; clear M; intro b4 w M a F)
      refine stepD rfl F rfl (o_assign (F.ev rfl) ?_); clear F; clear a; intro a F
      with_reducible refine l_nil ?_
      with_reducible refine q_then ?_
      with_reducible refine c_seq ?_
      with_reducible refine c_seq ?_
      with_reducible refine c_region ?_
      refine stepD rfl F rfl (o_loadA M (F.ev rfl) (by repeat (first | exact .here | apply Has.there)) (by first | assumption | rfl) ?_); clear F; clear a; intro a F
      (refine stepD rfl F rfl (o_call (F.ev rfl) (F.evs rfl) (Cal.mono (Cal.to (rvalidPrefix_c p n hp _) (by rw [hvp])) ?_)); clear F; clear a; rintro _ w ⟨rfl, hE⟩ a F; replace M := M.later hE; clear hE)
      refine stepD rfl F rfl (o_not (F.ev rfl) ?_); clear F; clear a; intro a F
      refine stepD rfl F rfl (o_move (F.ev rfl) ?_); clear F; clear a; intro a F
      refine stepG rfl F rfl rfl rfl (o_fieldAddr (F.ev rfl) ?_); clear F; clear a; intro a F
      refine stepG rfl F rfl rfl rfl (o_load1 M (F.ev rfl) (by repeat (first | exact .here | apply Has.there)) (by first | assumption | rfl) ?_); clear F; clear a; intro a F
      refine stepG rfl F rfl rfl rfl (o_gtrT (F.ev rfl) (F.ev rfl) (by omega) ?_); clear F; clear a; intro a F
      refine stepD rfl F rfl (o_pickF (F.ev rfl) (F.ev rfl) ?_); clear F; clear a; intro a F
      with_reducible refine l_nil ?_
      with_reducible refine q_then ?_
      refine c_true F rfl rfl ?_
      with_reducible refine c_seq ?_
      with_reducible refine c_region ?_
      refine stepD rfl F rfl (o_build F rfl rfl ?_); clear F; clear a; intro a F
      (refine stepN rfl F (o_storeA M (F.ev rfl) (F.ev rfl) (by rfl) (by rfl) (by repeat (first | exact .here | apply Has.there)) (by rfl) (by repeat (first | exact .here | apply Upd.there)) ?_); clear F; clear M; intro w M a F)
      refine stepD rfl F rfl (o_assign (F.ev rfl) ?_); clear F; clear a; intro a F
      with_reducible refine l_nil ?_
      with_reducible refine q_then ?_
      with_reducible refine c_ret ?_
      with_reducible refine q_thenR ?_
      refine p_ret F rfl (.cons (.cell (F.ev rfl) (run_loadVar_agg TAgg.h (M.heap (by repeat (first | exact .here | apply Has.there))) rfl)) (.cons (.tmp (F.ev rfl)) .nil)) ⟨by simp [joinP, hvp, h64, optIP, oneOr, zeroIP, ipC], M.ext⟩
/-- a prefix, off the tape -/
def headT : List Int := [2306139568115548160, 2306139568115613696, 18338657682652659712, 18230571291595767808, 0]
theorem head_bd (i : Nat) : 0 ≤ headT.getD i 0 ∧ headT.getD i 0 ≤ 18446744073709551615 := by
  rcases Nat.lt_or_ge i 5 with h | h
  · have hc : i = 0 ∨ i = 1 ∨ i = 2 ∨ i = 3 ∨ i = 4 := by omega
    rcases hc with rfl | rfl | rfl | rfl | rfl <;> decide
  · rw [List.getD_eq_getElem?_getD, List.getElem?_eq_none (by simpa [headT] using h)]; decide
theorem beb_ip {x y : Int} (hx : 0 ≤ x) (hy : 0 ≤ y) : IsIP (beB x ++ beB y) := by
  obtain ⟨m, rfl⟩ := Int.eq_ofNat_of_zero_le hx
  obtain ⟨n, rfl⟩ := Int.eq_ofNat_of_zero_le hy
  refine ⟨by simp [beB_len], fun z hz => ?_⟩
  rcases List.mem_append.1 hz with h | h
  · exact beB_bd m z h
  · exact beB_bd n z h
end

section
set_option linter.unusedVariables false
set_option linter.unusedSimpArgs false
open Go.RowKit
attribute [local irreducible] OpTo wpListIn Code.wpIn MW Cal
theorem eqVs_ipS (a : List Int) : eqVs (ipC a) (ipC a) = true := by rw [eqVs_ip a a rfl]; simp
theorem fits_ipS {a : List Int} (ha : a.length = 16) : fitsK [.i .u8, .i .u8, .i .u8, .i .u8, .i .u8, .i .u8, .i .u8, .i .u8, .i .u8, .i .u8, .i .u8, .i .u8, .i .u8, .i .u8, .i .u8, .i .u8] (ipC a) = true := by
  obtain ⟨x0, x1, x2, x3, x4, x5, x6, x7, x8, x9, x10, x11, x12, x13, x14, x15, rfl⟩ := len16 ha
  rfl
end

section
set_option linter.unusedVariables false
set_option linter.unusedSimpArgs false
open Go.RowKit
attribute [local irreducible] OpTo wpListIn Code.wpIn MW Cal
theorem wrap64_nn (x : Int) : 0 ≤ IntKind.u64.wrap x ∧ IntKind.u64.wrap x ≤ 18446744073709551615 := by
  simp [IntKind.wrap, IntKind.signed, IntKind.bits]; omega
set_option maxHeartbeats 1000000 in
theorem word_c {bt : Nat} {p : Option Addr} {len cap k : Nat} {xs : List Int} (W : World) (hT : TapeS W bt p len xs) (hb : W.heap[bt]? = some (tobj p len cap k)) :
    Cal Try.prog 30 [.pointer (some ⟨bt, 0, none⟩)].toArray W fun v w' => ∃ u k', (0 ≤ u ∧ u ≤ 18446744073709551615) ∧ v = .int .u64 u ∧ Mem [bt] W w' [(bt, tobj p len cap k')] := by
  have v1 := nxV_bd xs k (n := 65536) (by omega)
  have v2 := nxV_bd xs (nxK xs k) (n := 5) (by omega)
  have hr := Int.tmod_lt_of_pos (nxV xs k 65536) (show (0 : Int) < 4 by omega)
  have hr0 := Int.tmod_nonneg 4 v1.1
  have hcase : nxV xs (nxK xs k) 5 = 0 ∨ nxV xs (nxK xs k) 5 = 1 ∨ nxV xs (nxK xs k) 5 = 2 ∨ nxV xs (nxK xs k) 5 = 3 ∨ nxV xs (nxK xs k) 5 = 4 := by omega
  refine fn_ofM (n := 29) [bt] Try.func30 rfl rfl rfl ?_
  intro a w F M hwW
  replace M := M.came hwW hb (by simp) (by simp)
  with_reducible refine c_seq ?_
  with_reducible refine c_region ?_
  refine stepD rfl F rfl (o_assign (F.ev rfl) ?_); clear F; clear a; intro a F
  with_reducible refine l_nil ?_
  with_reducible refine q_then ?_
  with_reducible refine c_seq ?_
  with_reducible refine c_region ?_
  refine stepD rfl F rfl (o_move (F.ev rfl) ?_); clear F; clear a; intro a F
  (refine stepD rfl F rfl (o_call (F.ev rfl) (F.evs rfl) (Cal.mono (next_c 65536 (by omega) (by omega) _ (hT.later M.ext) (M.heap .here) ) ?_)); clear F; clear a; have M0 := M; clear M; rintro _ w ⟨rfl, N⟩ a F)
  replace M := M0.turn1 N .here
  refine stepD rfl F rfl (o_conv (F.ev rfl) (w_u64 (by omega) (by omega)) ?_); clear F; clear a; intro a F
  refine stepD rfl F rfl (o_assign (F.ev rfl) ?_); clear F; clear a; intro a F
  with_reducible refine l_nil ?_
  with_reducible refine q_then ?_
  with_reducible refine c_seq ?_
  with_reducible refine c_seq ?_
  with_reducible refine c_region ?_
  refine stepD rfl F rfl (o_move (F.ev rfl) ?_); clear F; clear a; intro a F
  (refine stepD rfl F rfl (o_call (F.ev rfl) (F.evs rfl) (Cal.mono (next_c 5 (by omega) (by omega) _ (hT.later M.ext) (M.heap .here) ) ?_)); clear F; clear a; have M0 := M; clear M; rintro _ w ⟨rfl, N⟩ a F)
  replace M := M0.turn1 N .here
  generalize nxV xs k 65536 = v at *
  rcases hcase with hc | hc | hc | hc | hc
  all_goals
    rw [hc] at F
    clear hc v2
    repeat (first | (with_reducible refine c_seq ?_) | (with_reducible refine c_region ?_) | (with_reducible refine l_nil ?_) | (with_reducible refine q_then ?_) | (with_reducible refine c_block ?_) | (with_reducible refine c_skip ?_) | (with_reducible refine q_inB ?_) | (with_reducible refine c_ret ?_) | (with_reducible refine q_thenR ?_) | (with_reducible refine q_inBR ?_) | (refine c_true F rfl rfl ?_) | (refine c_false F rfl rfl ?_) | (refine stepD rfl F rfl (o_move (F.ev rfl) ?_); clear F; clear a; intro a F) | (refine stepD rfl F rfl (o_assign (F.ev rfl) ?_); clear F; clear a; intro a F) | (refine stepD rfl F rfl (o_eqlT (F.ev rfl) (F.ev rfl) (by omega) ?_); clear F; clear a; intro a F) | (refine stepD rfl F rfl (o_eqlF (F.ev rfl) (F.ev rfl) (by omega) ?_); clear F; clear a; intro a F) | (refine stepD rfl F rfl (o_add (F.ev rfl) (F.ev rfl) (w_u64 (by omega) (by omega)) ?_); clear F; clear a; intro a F) | (refine stepD rfl F rfl (o_add (F.ev rfl) (F.ev rfl) rfl ?_); clear F; clear a; intro a F) | (refine stepD rfl F rfl (o_sub (F.ev rfl) (F.ev rfl) (w_u64 (by omega) (by omega)) ?_); clear F; clear a; intro a F) | (refine stepD rfl F rfl (o_shl (F.ev rfl) (F.ev rfl) (by omega) rfl ?_); clear F; clear a; intro a F) | (refine stepD rfl F rfl (o_rem (F.ev rfl) (F.ev rfl) (by omega) rfl ?_); clear F; clear a; intro a F))
    refine p_ret F rfl (.cons (.tmp (F.ev rfl)) .nil) ?_
    refine ⟨_, _, ?_, rfl, M⟩
    first
      | omega
      | exact wrap64_nn _
theorem IsIP.set {ip : List Int} (h : IsIP ip) (i : Nat) {x : Int} (h0 : 0 ≤ x) (h1 : x < 256) : IsIP (ip.set i x) :=
  ⟨by rw [List.length_set]; exact h.len, fun y hy => by
    rcases List.mem_or_eq_of_mem_set hy with hy | rfl
    · exact h.bd y hy
    · exact ⟨h0, h1⟩⟩
end

section
set_option linter.unusedVariables false
set_option linter.unusedSimpArgs false
open Go.RowKit
/-- what the reference's Contains says -/
def rcontainsP (p : List Int) (n : Int) (a : List Int) : Bool := validP p n && decide (n ≤ commonI p a)
theorem rcontains_is {p q : List Int} {n : Int} (hp : IsIP p) (hq : IsIP q) : rcontainsP p n q = containsP p n q := by
  unfold rcontainsP
  cases hv : validP p n with
  | false => simp [containsP, hv]
  | true =>
    have hb := validP_bd hv
    have hm : maskI p n = p := by
      simp only [validP, Bool.and_eq_true, beq_iff_eq] at hv
      exact hv.2
    have := contains_common hp hq hb.1 hb.2
    rw [hm] at this
    rw [this]; simp
theorem rcovers_is {p q : List Int} {n m : Int} (hp : IsIP p) (hq : IsIP q) : (validP p n && validP q m && decide (n ≤ m) && rcontainsP p n q) = coversP p n q m := by
  rw [rcontains_is hp hq]
  unfold coversP
  cases h1 : validP p n with
  | false => simp [containsP, h1]
  | true => cases validP q m <;> cases containsP p n q <;> cases decide (n ≤ m) <;> rfl
end

section
set_option linter.unusedVariables false
set_option linter.unusedSimpArgs false
open Go.RowKit
attribute [local irreducible] OpTo wpListIn Code.wpIn MW Cal
set_option maxHeartbeats 2000000 in
theorem rcontains_c (p : List Int) (n : Int) (hp : IsIP p) (q : List Int) (hq : IsIP q) (W : World) : Cal Try.prog 82 [.agg (pfC p n).toArray, .agg (ipC q).toArray].toArray W fun v w' => v = .bool (containsP p n q) ∧ Ext [] W w' := by
  rw [← rcontains_is hp hq]
  have e1 := seg_pf hp.len n
  have e2 := seg_pf0 hp.len n
  have e3 := nth_pf hp.len n
  have e4 := seg_all (ipC_len hq.len)
  obtain hv | hv : validP p n = false ∨ validP p n = true := by cases validP p n <;> simp
  · refine fn_ofM (n := 16) [] Try.func82 rfl rfl rfl ?_
    intro a w F M hwW
    refine c_seq ?_
    refine c_region ?_
    (refine stepD rfl F rfl (o_box M (F.ev rfl) rfl ?_); clear F; clear M; intro b2 w M a F)
    (refine stepD rfl F rfl (o_box M (F.ev rfl) rfl ?_); clear F; clear M; intro b3 w M a F)
    refine stepD rfl F rfl (o_assign (F.ev rfl) ?_); clear F; clear a; intro a F
    with_reducible refine l_nil ?_
    with_reducible refine q_then ?_
    with_reducible refine c_seq ?_
    refine c_draw 11 F (by kernel_rfl) ?_
    intro w1 hE hok
    have M1 := M.later hE
    refine mK hok rfl rfl (fun a' w' F' E' => o_loadA (M1.later E') (F'.ev rfl) (by repeat (first | exact .here | apply Has.there)) (by first | assumption | rfl) ⟨Ext.refl _ _, rfl⟩) ?_
    (refine mK hok rfl rfl (fun a' w' F' E' => o_call (F'.ev rfl) (F'.evs rfl) (Cal.mono (Cal.to (rvalidPrefix_c p n hp _) (by rw [hv])) fun _ _ hh => ⟨hh.2, hh.1⟩)) ?_)
    refine mK hok rfl rfl (fun a' w' F' E' => o_move (F'.ev rfl) ⟨Ext.refl _ _, rfl⟩) ?_
    refine mOff hok rfl rfl rfl rfl rfl ?_
    refine mOff hok rfl rfl rfl rfl rfl ?_
    refine mOff hok rfl rfl rfl rfl rfl ?_
    refine mOff hok rfl rfl rfl rfl rfl ?_
    refine mOff hok rfl rfl rfl rfl rfl ?_
    refine mOff hok rfl rfl rfl rfl rfl ?_
    refine mOff hok rfl rfl rfl rfl rfl ?_
    refine mK hok rfl rfl (fun a' w' F' E' => o_pickF (F'.ev rfl) (F'.ev rfl) ⟨Ext.refl _ _, rfl⟩) ?_
    (refine mDone rfl rfl ?_; clear F; clear M; intro a w F hE2 hX hTT hDD hPP; have M := M1.later hE2; clear M1; clear hX; clear hE2; clear hok; clear hE; clear hTT; clear hDD; clear hPP; (try dsimp only at F))
    refine stepD rfl F rfl (o_assign (F.ev rfl) ?_); clear F; clear a; intro a F
    with_reducible refine l_nil ?_
    with_reducible refine q_then ?_
    with_reducible refine c_ret ?_
    refine p_ret F rfl (.cons (.tmp (F.ev rfl)) .nil) ?_
    exact ⟨by simp [rcontainsP, hv, oneOr], M.ext⟩
  · refine fn_ofM (n := 16) [] Try.func82 rfl rfl rfl ?_
    intro a w F M hwW
    refine c_seq ?_
    refine c_region ?_
    (refine stepD rfl F rfl (o_box M (F.ev rfl) rfl ?_); clear F; clear M; intro b2 w M a F)
    (refine stepD rfl F rfl (o_box M (F.ev rfl) rfl ?_); clear F; clear M; intro b3 w M a F)
    refine stepD rfl F rfl (o_assign (F.ev rfl) ?_); clear F; clear a; intro a F
    with_reducible refine l_nil ?_
    with_reducible refine q_then ?_
    with_reducible refine c_seq ?_
    refine c_draw 11 F (by kernel_rfl) ?_
    intro w1 hE hok
    have M1 := M.later hE
    refine mK hok rfl rfl (fun a' w' F' E' => o_loadA (M1.later E') (F'.ev rfl) (by repeat (first | exact .here | apply Has.there)) (by first | assumption | rfl) ⟨Ext.refl _ _, rfl⟩) ?_
    (refine mK hok rfl rfl (fun a' w' F' E' => o_call (F'.ev rfl) (F'.evs rfl) (Cal.mono (Cal.to (rvalidPrefix_c p n hp _) (by rw [hv])) fun _ _ hh => ⟨hh.2, hh.1⟩)) ?_)
    refine mK hok rfl rfl (fun a' w' F' E' => o_move (F'.ev rfl) ⟨Ext.refl _ _, rfl⟩) ?_
    refine mKG hok rfl rfl rfl rfl (fun a' w' F' E' => o_fieldAddr (F'.ev rfl) ⟨Ext.refl _ _, rfl⟩) ?_
    refine mKG hok rfl rfl rfl rfl (fun a' w' F' E' => o_loadA (M1.later E') (F'.ev rfl) (by repeat (first | exact .here | apply Has.there)) (by first | assumption | rfl) ⟨Ext.refl _ _, rfl⟩) ?_
    refine mKG hok rfl rfl rfl rfl (fun a' w' F' E' => o_loadA (M1.later E') (F'.ev rfl) (by repeat (first | exact .here | apply Has.there)) (by first | assumption | rfl) ⟨Ext.refl _ _, rfl⟩) ?_
    (refine mKG hok rfl rfl rfl rfl (fun a' w' F' E' => o_call (F'.ev rfl) (F'.evs rfl) (Cal.mono (rcommon_c p q hp hq _) fun _ _ hh => ⟨hh.2, hh.1⟩)) ?_)
    refine mKG hok rfl rfl rfl rfl (fun a' w' F' E' => o_fieldAddr (F'.ev rfl) ⟨Ext.refl _ _, rfl⟩) ?_
    refine mKG hok rfl rfl rfl rfl (fun a' w' F' E' => o_load1 (M1.later E') (F'.ev rfl) (by repeat (first | exact .here | apply Has.there)) (by first | assumption | rfl) ⟨Ext.refl _ _, rfl⟩) ?_
    refine mKG hok rfl rfl rfl rfl (fun a' w' F' E' => o_geq (F'.ev rfl) (F'.ev rfl) ⟨Ext.refl _ _, rfl⟩) ?_
    refine mK hok rfl rfl (fun a' w' F' E' => o_pickT (F'.ev rfl) (F'.ev rfl) ⟨Ext.refl _ _, rfl⟩) ?_
    (refine mDone rfl rfl ?_; clear F; clear M; intro a w F hE2 hX hTT hDD hPP; have M := M1.later hE2; clear M1; clear hX; clear hE2; clear hok; clear hE; clear hTT; clear hDD; clear hPP; (try dsimp only at F))
    refine stepD rfl F rfl (o_assign (F.ev rfl) ?_); clear F; clear a; intro a F
    with_reducible refine l_nil ?_
    with_reducible refine q_then ?_
    with_reducible refine c_ret ?_
    refine p_ret F rfl (.cons (.tmp (F.ev rfl)) .nil) ?_
    exact ⟨by simp [rcontainsP, hv, oneOr], M.ext⟩
set_option maxHeartbeats 2000000 in
theorem rcovers_c (p : List Int) (n : Int) (hp : IsIP p) (q : List Int) (m : Int) (hq : IsIP q) (W : World) : Cal Try.prog 50 [.agg (pfC p n).toArray, .agg (pfC q m).toArray].toArray W fun v w' => v = .bool (coversP p n q m) ∧ Ext [] W w' := by
  rw [← rcovers_is hp hq, rcontains_is hp hq]
  have e1 := seg_pf hp.len n
  have e3 := nth_pf hp.len n
  have f1 := seg_pf hq.len m
  have f2 := seg_pf0 hq.len m
  have f3 := nth_pf hq.len m
  refine fn_ofM (n := 24) [] Try.func50 rfl rfl rfl ?_
  intro a w F M hwW
  refine c_seq ?_
  refine c_region ?_
  (refine stepD rfl F rfl (o_box M (F.ev rfl) rfl ?_); clear F; clear M; intro b2 w M a F)
  (refine stepD rfl F rfl (o_box M (F.ev rfl) rfl ?_); clear F; clear M; intro b3 w M a F)
  refine stepD rfl F rfl (o_assign (F.ev rfl) ?_); clear F; clear a; intro a F
  with_reducible refine l_nil ?_
  with_reducible refine q_then ?_
  with_reducible refine c_seq ?_
  with_reducible refine c_region ?_
  refine stepD rfl F rfl (o_loadA M (F.ev rfl) (by repeat (first | exact .here | apply Has.there)) (by first | assumption | rfl) ?_); clear F; clear a; intro a F
  (refine stepD rfl F rfl (o_call (F.ev rfl) (F.evs rfl) (Cal.mono (rvalidPrefix_c p n hp _) ?_)); clear F; clear a; rintro _ w ⟨rfl, hE⟩ a F; replace M := M.later hE; clear hE)
  obtain hv | hv : validP p n = false ∨ validP p n = true := by cases validP p n <;> simp
  · rw [hv] at F
    refine stepD rfl F rfl (o_move (F.ev rfl) ?_); clear F; clear a; intro a F
    refine stepOff F rfl rfl rfl rfl ?_; clear F; clear a; intro a F
    refine stepOff F rfl rfl rfl rfl ?_; clear F; clear a; intro a F
    refine stepD rfl F rfl (o_pickF (F.ev rfl) (F.ev rfl) ?_); clear F; clear a; intro a F
    refine stepD rfl F rfl (o_move (F.ev rfl) ?_); clear F; clear a; intro a F
    refine stepOff F rfl rfl rfl rfl ?_; clear F; clear a; intro a F
    refine stepOff F rfl rfl rfl rfl ?_; clear F; clear a; intro a F
    refine stepOff F rfl rfl rfl rfl ?_; clear F; clear a; intro a F
    refine stepOff F rfl rfl rfl rfl ?_; clear F; clear a; intro a F
    refine stepOff F rfl rfl rfl rfl ?_; clear F; clear a; intro a F
    refine stepD rfl F rfl (o_pickF (F.ev rfl) (F.ev rfl) ?_); clear F; clear a; intro a F
    refine stepD rfl F rfl (o_move (F.ev rfl) ?_); clear F; clear a; intro a F
    refine stepOff F rfl rfl rfl rfl ?_; clear F; clear a; intro a F
    refine stepOff F rfl rfl rfl rfl ?_; clear F; clear a; intro a F
    refine stepOff F rfl rfl rfl rfl ?_; clear F; clear a; intro a F
    refine stepOff F rfl rfl rfl rfl ?_; clear F; clear a; intro a F
    refine stepD rfl F rfl (o_pickF (F.ev rfl) (F.ev rfl) ?_); clear F; clear a; intro a F
    refine stepD rfl F rfl (o_assign (F.ev rfl) ?_); clear F; clear a; intro a F
    with_reducible refine l_nil ?_
    with_reducible refine q_then ?_
    with_reducible refine c_ret ?_
    refine p_ret F rfl (.cons (.tmp (F.ev rfl)) .nil) ?_
    exact ⟨by simp [hv, oneOr], M.ext⟩
  rw [hv] at F
  refine stepD rfl F rfl (o_move (F.ev rfl) ?_); clear F; clear a; intro a F
  refine stepG rfl F rfl rfl rfl (o_loadA M (F.ev rfl) (by repeat (first | exact .here | apply Has.there)) (by first | assumption | rfl) ?_); clear F; clear a; intro a F
  (refine stepG rfl F rfl rfl rfl (o_call (F.ev rfl) (F.evs rfl) (Cal.mono (rvalidPrefix_c q m hq _) ?_)); clear F; clear a; rintro _ w ⟨rfl, hE⟩ a F; replace M := M.later hE; clear hE)
  obtain hw | hw : validP q m = false ∨ validP q m = true := by cases validP q m <;> simp
  · rw [hw] at F
    refine stepD rfl F rfl (o_pickT (F.ev rfl) (F.ev rfl) ?_); clear F; clear a; intro a F
    refine stepD rfl F rfl (o_move (F.ev rfl) ?_); clear F; clear a; intro a F
    refine stepOff F rfl rfl rfl rfl ?_; clear F; clear a; intro a F
    refine stepOff F rfl rfl rfl rfl ?_; clear F; clear a; intro a F
    refine stepOff F rfl rfl rfl rfl ?_; clear F; clear a; intro a F
    refine stepOff F rfl rfl rfl rfl ?_; clear F; clear a; intro a F
    refine stepOff F rfl rfl rfl rfl ?_; clear F; clear a; intro a F
    refine stepD rfl F rfl (o_pickF (F.ev rfl) (F.ev rfl) ?_); clear F; clear a; intro a F
    refine stepD rfl F rfl (o_move (F.ev rfl) ?_); clear F; clear a; intro a F
    refine stepOff F rfl rfl rfl rfl ?_; clear F; clear a; intro a F
    refine stepOff F rfl rfl rfl rfl ?_; clear F; clear a; intro a F
    refine stepOff F rfl rfl rfl rfl ?_; clear F; clear a; intro a F
    refine stepOff F rfl rfl rfl rfl ?_; clear F; clear a; intro a F
    refine stepD rfl F rfl (o_pickF (F.ev rfl) (F.ev rfl) ?_); clear F; clear a; intro a F
    refine stepD rfl F rfl (o_assign (F.ev rfl) ?_); clear F; clear a; intro a F
    with_reducible refine l_nil ?_
    with_reducible refine q_then ?_
    with_reducible refine c_ret ?_
    refine p_ret F rfl (.cons (.tmp (F.ev rfl)) .nil) ?_
    exact ⟨by simp [hv, hw, oneOr], M.ext⟩
  rw [hw] at F
  by_cases hnm : n ≤ m
  · refine stepD rfl F rfl (o_pickT (F.ev rfl) (F.ev rfl) ?_); clear F; clear a; intro a F
    refine stepD rfl F rfl (o_move (F.ev rfl) ?_); clear F; clear a; intro a F
    refine stepG rfl F rfl rfl rfl (o_fieldAddr (F.ev rfl) ?_); clear F; clear a; intro a F
    refine stepG rfl F rfl rfl rfl (o_load1 M (F.ev rfl) (by repeat (first | exact .here | apply Has.there)) (by first | assumption | rfl) ?_); clear F; clear a; intro a F
    refine stepG rfl F rfl rfl rfl (o_fieldAddr (F.ev rfl) ?_); clear F; clear a; intro a F
    refine stepG rfl F rfl rfl rfl (o_load1 M (F.ev rfl) (by repeat (first | exact .here | apply Has.there)) (by first | assumption | rfl) ?_); clear F; clear a; intro a F
    refine stepG rfl F rfl rfl rfl (o_leqT (F.ev rfl) (F.ev rfl) (by omega) ?_); clear F; clear a; intro a F
    refine stepD rfl F rfl (o_pickT (F.ev rfl) (F.ev rfl) ?_); clear F; clear a; intro a F
    refine stepD rfl F rfl (o_move (F.ev rfl) ?_); clear F; clear a; intro a F
    refine stepG rfl F rfl rfl rfl (o_loadA M (F.ev rfl) (by repeat (first | exact .here | apply Has.there)) (by first | assumption | rfl) ?_); clear F; clear a; intro a F
    refine stepG rfl F rfl rfl rfl (o_fieldAddr (F.ev rfl) ?_); clear F; clear a; intro a F
    refine stepG rfl F rfl rfl rfl (o_loadA M (F.ev rfl) (by repeat (first | exact .here | apply Has.there)) (by first | assumption | rfl) ?_); clear F; clear a; intro a F
    (refine stepG rfl F rfl rfl rfl (o_call (F.ev rfl) (F.evs rfl) (Cal.mono (rcontains_c p n hp q hq _) ?_)); clear F; clear a; rintro _ w ⟨rfl, hE⟩ a F; replace M := M.later hE; clear hE)
    refine stepD rfl F rfl (o_pickT (F.ev rfl) (F.ev rfl) ?_); clear F; clear a; intro a F
    refine stepD rfl F rfl (o_assign (F.ev rfl) ?_); clear F; clear a; intro a F
    with_reducible refine l_nil ?_
    with_reducible refine q_then ?_
    with_reducible refine c_ret ?_
    refine p_ret F rfl (.cons (.tmp (F.ev rfl)) .nil) ?_
    exact ⟨by simp [hv, hw, hnm, oneOr], M.ext⟩
  · refine stepD rfl F rfl (o_pickT (F.ev rfl) (F.ev rfl) ?_); clear F; clear a; intro a F
    refine stepD rfl F rfl (o_move (F.ev rfl) ?_); clear F; clear a; intro a F
    refine stepG rfl F rfl rfl rfl (o_fieldAddr (F.ev rfl) ?_); clear F; clear a; intro a F
    refine stepG rfl F rfl rfl rfl (o_load1 M (F.ev rfl) (by repeat (first | exact .here | apply Has.there)) (by first | assumption | rfl) ?_); clear F; clear a; intro a F
    refine stepG rfl F rfl rfl rfl (o_fieldAddr (F.ev rfl) ?_); clear F; clear a; intro a F
    refine stepG rfl F rfl rfl rfl (o_load1 M (F.ev rfl) (by repeat (first | exact .here | apply Has.there)) (by first | assumption | rfl) ?_); clear F; clear a; intro a F
    refine stepG rfl F rfl rfl rfl (o_leqF (F.ev rfl) (F.ev rfl) (by omega) ?_); clear F; clear a; intro a F
    refine stepD rfl F rfl (o_pickT (F.ev rfl) (F.ev rfl) ?_); clear F; clear a; intro a F
    refine stepD rfl F rfl (o_move (F.ev rfl) ?_); clear F; clear a; intro a F
    refine stepOff F rfl rfl rfl rfl ?_; clear F; clear a; intro a F
    refine stepOff F rfl rfl rfl rfl ?_; clear F; clear a; intro a F
    refine stepOff F rfl rfl rfl rfl ?_; clear F; clear a; intro a F
    refine stepOff F rfl rfl rfl rfl ?_; clear F; clear a; intro a F
    refine stepD rfl F rfl (o_pickF (F.ev rfl) (F.ev rfl) ?_); clear F; clear a; intro a F
    refine stepD rfl F rfl (o_assign (F.ev rfl) ?_); clear F; clear a; intro a F
    with_reducible refine l_nil ?_
    with_reducible refine q_then ?_
    with_reducible refine c_ret ?_
    refine p_ret F rfl (.cons (.tmp (F.ev rfl)) .nil) ?_
    exact ⟨by simp [hv, hw, hnm, oneOr], M.ext⟩
end

end Go.Proofs.Ytainnefmobfcjaa

/-! NOpen -/
/-
  The arguments of this seat's laws, opened.
-/
namespace Go.Proofs.Ytainnefmobfcjaa
set_option linter.unusedVariables false
set_option linter.unusedSimpArgs false
open Go.ChangeShapes Go.WideShapes Go.ChangeAt Go.RowKit

def loK : IntKind → Int
  | .i64 => -9223372036854775808 | .u64 => 0 | .u32 => 0 | .u16 => 0 | .u8 => 0 | .i32 => -2147483648 | k => k.min
def hiK : IntKind → Int
  | .i64 => 9223372036854775807 | .u64 => 18446744073709551615 | .u32 => 4294967295 | .u16 => 65535 | .u8 => 255 | .i32 => 2147483647 | k => k.max
theorem int_bd {k : IntKind} {n : Int} (h : (Lit.int k n).wf = true) : loK k ≤ n ∧ n ≤ hiK k := by
  have := wf_bd h
  cases k <;> simp [IntKind.min, IntKind.max, IntKind.signed, IntKind.bits, loK, hiK] at this ⊢ <;> omega
theorem wfV_int {k : IntKind} {v : Value} (h : wfV (.i k) v = true) : ∃ n, v = .int k n ∧ loK k ≤ n ∧ n ≤ hiK k := by
  cases v <;> simp [wfV] at h
  rename_i k' n
  obtain ⟨rfl, hw⟩ := h
  exact ⟨n, rfl, int_bd hw⟩
theorem wfK_cons {k : LK} {ks : List LK} {xs : List Value} (h : wfK (k :: ks) xs = true) : ∃ x ys, xs = x :: ys ∧ wfV k x = true ∧ wfK ks ys = true := by
  cases xs with
  | nil => cases h
  | cons x ys => simp only [wfK, Bool.and_eq_true] at h; exact ⟨x, ys, rfl, h.1, h.2⟩
theorem wfK_nil {xs : List Value} (h : wfK [] xs = true) : xs = [] := by
  cases xs with
  | nil => rfl
  | cons x ys => cases h
theorem ip_wf : ∀ (xs : List Value) (n : Nat), wfK (List.replicate n (.i .u8)) xs = true → ∃ a : List Int, xs = ipC a ∧ a.length = n ∧ ∀ x ∈ a, 0 ≤ x ∧ x < 256
  | [], 0, _ => ⟨[], rfl, rfl, by simp⟩
  | [], n + 1, h => by simp [List.replicate_succ, wfK] at h
  | _ :: _, 0, h => by simp [wfK] at h
  | x :: xs, n + 1, h => by
    simp only [List.replicate_succ, wfK, Bool.and_eq_true] at h
    obtain ⟨a, rfl, hl, hb⟩ := ip_wf xs n h.2
    obtain ⟨m, rfl, h0, h1⟩ := wfV_int h.1
    refine ⟨m :: a, rfl, by simp [hl], fun y hy => ?_⟩
    rcases List.mem_cons.1 hy with rfl | hy
    · simp only [loK, hiK] at h0 h1; omega
    · exact hb y hy
section
variable {H : Type} {enc : TypeId × Value → H} {w : World} {r : Reach} {b0 base : Nat} {sp : Nat → Bool} {held : Bool} {v : Value} {d : DataW H} {p : List MemPlace}
set_option maxRecDepth 100000 in
theorem open_ip (hval : Value.okWide Try.prog w r b0 26 v) (h : DataW.Trod enc Try.prog w base sp held 26 v d p) : ∃ a, IsIP a ∧ v = .agg (ipC a).toArray := by
  obtain ⟨xs, rfl, hw⟩ := open_lf (ks := List.replicate 16 (.i .u8)) (by kernel_rfl) hval h
  obtain ⟨a, rfl, hl, hb⟩ := ip_wf xs 16 hw
  exact ⟨a, ⟨hl, hb⟩, rfl⟩
theorem wfK_split : ∀ {ks ks' : List LK} {xs : List Value}, wfK (ks ++ ks') xs = true → ∃ ys zs, xs = ys ++ zs ∧ wfK ks ys = true ∧ wfK ks' zs = true
  | [], ks', xs, h => ⟨[], xs, rfl, rfl, h⟩
  | k :: ks, ks', [], h => by cases h
  | k :: ks, ks', x :: xs, h => by
    simp only [List.cons_append, wfK, Bool.and_eq_true] at h
    obtain ⟨ys, zs, rfl, h1, h2⟩ := wfK_split h.2
    exact ⟨x :: ys, zs, rfl, by simp [wfK, h.1, h1], h2⟩
set_option maxRecDepth 100000 in
theorem open_pf (hval : Value.okWide Try.prog w r b0 28 v) (h : DataW.Trod enc Try.prog w base sp held 28 v d p) : ∃ a n, IsIP a ∧ (-9223372036854775808 ≤ n ∧ n ≤ 9223372036854775807) ∧ v = .agg (pfC a n).toArray := by
  obtain ⟨xs, rfl, hw⟩ := open_lf (ks := List.replicate 16 (.i .u8) ++ [.i .i64]) (by kernel_rfl) hval h
  obtain ⟨ys, zs, rfl, h1, h2⟩ := wfK_split hw
  obtain ⟨a, rfl, hl, hb⟩ := ip_wf ys 16 h1
  obtain ⟨z, zs, rfl, h3, h4⟩ := wfK_cons h2
  obtain rfl := wfK_nil h4
  obtain ⟨n, rfl, h5, h6⟩ := wfV_int h3
  exact ⟨a, n, ⟨hl, hb⟩, ⟨h5, h6⟩, rfl⟩
/-- a link address's numbers fit -/
def IsAd (m s e : Int) : Prop := (-9223372036854775808 ≤ m ∧ m ≤ 9223372036854775807) ∧ (0 ≤ s ∧ s ≤ 65535) ∧ (0 ≤ e ∧ e ≤ 18446744073709551615)
set_option maxRecDepth 100000 in
theorem open_ad (hval : Value.okWide Try.prog w r b0 71 v) (h : DataW.Trod enc Try.prog w base sp held 71 v d p) : ∃ m s e, IsAd m s e ∧ v = .agg (adC m s e).toArray := by
  obtain ⟨xs, rfl, hw⟩ := open_lf (ks := [.i .i64, .i .u16, .i .u64]) (by kernel_rfl) hval h
  obtain ⟨x, xs, rfl, h1, hw⟩ := wfK_cons hw
  obtain ⟨y, xs, rfl, h2, hw⟩ := wfK_cons hw
  obtain ⟨z, xs, rfl, h3, hw⟩ := wfK_cons hw
  obtain rfl := wfK_nil hw
  obtain ⟨m, rfl, a1, a2⟩ := wfV_int h1
  obtain ⟨s, rfl, a3, a4⟩ := wfV_int h2
  obtain ⟨e, rfl, a5, a6⟩ := wfV_int h3
  exact ⟨m, s, e, ⟨⟨a1, a2⟩, ⟨a3, a4⟩, ⟨a5, a6⟩⟩, rfl⟩
end
end Go.Proofs.Ytainnefmobfcjaa

/-! NOpen2 -/
/-
  Arguments that are slices of int, opened.
-/
namespace Go.Proofs.Ytainnefmobfcjaa
set_option linter.unusedVariables false
set_option linter.unusedSimpArgs false
open Go.ChangeShapes Go.WideShapes Go.ChangeAt Go.RowKit

set_option maxRecDepth 100000 in
theorem open_il {H : Type} {enc : TypeId × Value → H} {w : World} {r : Reach} {b0 base : Nat} {held : Bool} {v : Value} {d : DataW H} {p : List MemPlace} (hval : Value.okWide Try.prog w r b0 22 v) (h : DataW.Trod enc Try.prog w base (fun _ => true) held 22 v d p) :
    ∃ xs q cap, v = .slice q xs.length cap ∧ xs.length ≤ cap ∧ IntsAt w v xs := by
  obtain ⟨a, len, cap, rfl⟩ := okWide_slice Try.underlying22 hval
  obtain ⟨fuel, hf⟩ := h
  have hone : (Value.slice a len cap).cells.toList = [Value.slice a len cap] := rfl
  rw [hone] at hf
  rcases open_ints Try.underlying22 Try.underlying3 (by kernel_rfl) hf with ⟨h1, _⟩ | ⟨a', len', cap', zs, h1, _, hlc, hcm, hzl, _, hat, hwf⟩
  · cases h1
    exact ⟨[], none, 0, rfl, by simp, ⟨⟨none, 0, rfl, by simp, fun h => absurd h (by simp)⟩, by simp, by simp⟩⟩
  · cases h1
    simp only [if_true] at hzl
    have hml : maxLen = 9223372036854775807 := rfl
    have htl : (zs.take len).length = len := by rw [List.length_take]; omega
    refine ⟨zs.take len, some a', cap, by rw [htl], by omega, ⟨⟨some a', cap, by rw [htl], by omega, fun hl => ?_⟩, fun x hx => ?_, by omega⟩⟩
    · rw [htl] at hl
      have h0 := hat 0 (by omega)
      have hsp : a'.spot = none := by
        cases hs : a'.spot with
        | none => rfl
        | some q =>
          have e0 : a'.add 0 = a' := by simp [Addr.add]
          rw [e0] at h0
          simp only [World.cell?, hs] at h0
          split at h0 <;> simp at h0
      obtain ⟨b, o, sp⟩ := a'
      simp only at hsp
      subst hsp
      have hadd : ∀ i, (⟨b, o, none⟩ : Addr).add i = ⟨b, o + i, none⟩ := fun i => addr_add b o i
      rw [hadd] at h0
      cases hb : w.heap[b]? with
      | none => simp [World.cell?, hb] at h0
      | some ob =>
        cases ob with
        | cells cs t fz =>
          refine ⟨b, o, cs, t, fz, rfl, hb, ?_⟩
          have hcell : ∀ i, i < zs.length → cs[o + i]? = some (.int .i64 (zs.getD i 0)) := fun i hi => by
            have := hat i hi
            rw [hadd] at this
            simpa [World.cell?, hb] using this
          have hle : o + len ≤ cs.toList.length := by
            have := hcell (len - 1) (by omega)
            have := (Array.getElem?_eq_some_iff.1 this).1
            simp only [Array.length_toList]
            omega
          rw [htl, seg_eq, if_pos hle]
          congr 1
          apply List.ext_getElem
          · simp only [List.length_take, List.length_drop, i64C, List.length_map]
            omega
          · intro i h1 h2
            have hi : i < len := by simp only [List.length_take] at h1; omega
            have := hcell i (by omega)
            have h3 := Array.getElem?_eq_some_iff.1 this
            obtain ⟨h4, h5⟩ := h3
            simp only [List.getElem_take, List.getElem_drop, Array.getElem_toList, h5, i64C, List.getElem_map]
            rw [List.getD_eq_getElem?_getD, List.getElem?_eq_getElem (by omega)]
            rfl
        | _ => simp [World.cell?, hb] at h0
    · have := int_bd (hwf x (List.mem_of_mem_take hx))
      exact this
end Go.Proofs.Ytainnefmobfcjaa

/-! LibQ -/
/-
  The calculus, part Q: slices that came in and are read (SlAt), cap, parts of slices, entries of the model (bytealg.Compare, slices.overlaps), append of zeros.
-/
namespace Go.Proofs.Ytainnefmobfcjaa
set_option linter.unusedVariables false
set_option linter.unusedSimpArgs false
open Go.RowKit

theorem sg_eq : ∀ (cs : List Value) (off n : Nat), seg cs off n = if off + n ≤ cs.length then some ((cs.drop off).take n) else none
  | [], 0, 0 => by simp [seg]
  | [], 0, n + 1 => by simp [seg]
  | [], off + 1, n => by simp [seg]
  | x :: xs, 0, 0 => by simp [seg]
  | x :: xs, 0, n + 1 => by
    rw [seg, sg_eq xs 0 n]
    by_cases h : n ≤ xs.length
    · rw [if_pos (by omega), if_pos (by simp; omega)]; simp
    · rw [if_neg (by omega), if_neg (by simp; omega)]
  | x :: xs, off + 1, n => by
    rw [seg, sg_eq xs off n]
    by_cases h : off + n ≤ xs.length
    · rw [if_pos h, if_pos (by simp; omega)]; simp
    · rw [if_neg h, if_neg (by simp; omega)]
theorem sg_seg {cs ys zs : List Value} {o n off k q : Nat} (h : seg cs o n = some ys) (h2 : seg ys off k = some zs) (hq : q = o + off) : seg cs q k = some zs := by
  subst hq
  rw [sg_eq] at *
  split at h
  · rename_i h1
    simp only [Option.some.injEq] at h
    subst h
    split at h2
    · rename_i h3
      simp only [List.length_take, List.length_drop] at h3
      simp only [Option.some.injEq] at h2
      subst h2
      rw [if_pos (by omega)]
      congr 1
      rw [List.drop_take, List.take_take, List.drop_drop]
      congr 1
      omega
    · cases h2
  · cases h
theorem sg_nth {cs ys : List Value} {o n off q : Nat} {v : Value} (h : seg cs o n = some ys) (h2 : nth ys off = some v) (hq : q = o + off) : nth cs q = some v := by
  subst hq
  obtain ⟨h3, h4⟩ := seg_spec _ _ _ _ h
  rw [nth_spec] at *
  have hlt : off < n := by rw [← h3]; exact (List.getElem?_eq_some_iff.1 h2).1
  rw [h4 off hlt, h2]
theorem sg_all {xs : List Value} {k : Nat} (h : xs.length = k) : seg xs 0 k = some xs := by
  rw [sg_eq, if_pos (by omega)]; simp [← h]

/-- the cells of a list of elements -/
def encL {α : Type} (enc : α → List Value) (ls : List α) : List Value := ls.flatMap enc
theorem encL_nil {α : Type} (enc : α → List Value) : encL enc [] = [] := rfl
theorem encL_app {α : Type} (enc : α → List Value) (xs ys : List α) : encL enc (xs ++ ys) = encL enc xs ++ encL enc ys := by simp [encL]
theorem encL_cons {α : Type} (enc : α → List Value) (x : α) (ys : List α) : encL enc (x :: ys) = enc x ++ encL enc ys := by simp [encL]
theorem encL_one {α : Type} (enc : α → List Value) (x : α) : encL enc [x] = enc x := by simp [encL]
theorem encL_len {α : Type} {enc : α → List Value} {sz : Nat} {ls : List α} (h : ∀ x ∈ ls, (enc x).length = sz) : (encL enc ls).length = ls.length * sz := by
  induction ls with
  | nil => simp [encL]
  | cons x ls ih =>
    rw [encL_cons, List.length_append, h x (by simp), ih fun y hy => h y (by simp [hy]), List.length_cons, Nat.add_mul]; omega
theorem encL_take {α : Type} {enc : α → List Value} {sz : Nat} {ls : List α} (h : ∀ x ∈ ls, (enc x).length = sz) (i : Nat) : (encL enc ls).take (i * sz) = encL enc (ls.take i) := by
  rcases Nat.lt_or_ge i ls.length with hi | hi
  · conv => lhs; rw [← List.take_append_drop i ls, encL_app]
    have := encL_len (ls := ls.take i) (sz := sz) (enc := enc) fun x hx => h x (List.mem_of_mem_take hx)
    rw [List.length_take, Nat.min_eq_left (by omega)] at this
    rw [← this, List.take_left']
    rfl
  · rw [List.take_of_length_le hi, List.take_of_length_le]
    rw [encL_len h]; exact Nat.mul_le_mul_right _ hi
theorem encL_drop {α : Type} {enc : α → List Value} {sz : Nat} {ls : List α} (h : ∀ x ∈ ls, (enc x).length = sz) (i : Nat) : (encL enc ls).drop (i * sz) = encL enc (ls.drop i) := by
  have h1 := List.take_append_drop (i * sz) (encL enc ls)
  have h2 : encL enc (ls.take i) ++ encL enc (ls.drop i) = encL enc ls := by rw [← encL_app, List.take_append_drop]
  rw [encL_take h] at h1
  exact List.append_cancel_left (h1.trans h2.symm)
theorem encL_all {α : Type} {enc : α → List Value} {ls : List α} (h : ∀ x ∈ ls, (enc x).all (·.oneCell') = true) : (encL enc ls).all (·.oneCell') = true := by
  simp only [encL, List.all_eq_true, List.mem_flatMap] at *
  rintro v ⟨x, hx, hv⟩
  exact h x hx v hv
theorem seg_el {α : Type} {enc : α → List Value} {sz : Nat} {ls : List α} (hsz : ∀ x ∈ ls, (enc x).length = sz) {cs : List Value} {o n : Nat} (h : seg cs o (n * sz) = some (encL enc ls)) {i : Nat} (hi : i < ls.length) {q : Nat} (hq : q = o + i * sz) : seg cs q sz = some (enc ls[i]) := by
  refine sg_seg h ?_ hq
  have hl := encL_len hsz
  have hi' : i * sz + sz ≤ ls.length * sz := by rw [← Nat.succ_mul]; exact Nat.mul_le_mul_right _ hi
  rw [sg_eq, if_pos (by omega), encL_drop hsz, List.drop_eq_getElem_cons hi, encL_cons]
  congr 1
  rw [← hsz ls[i] (List.getElem_mem hi), List.take_left']
  rfl

/-- v: a slice of n elements (sz cells each), whose cells are xs -/
def SlAt (W : World) (sz : Nat) (v : Value) (n : Nat) (xs : List Value) : Prop :=
  ∃ p cap, v = .slice p n cap ∧ n ≤ cap ∧ (∀ a : Addr, p = some a → True) ∧ xs.length = n * sz ∧ (0 < n → ∃ b o cs t fz, p = some ⟨b, o, none⟩ ∧ W.heap[b]? = some (.cells (List.toArray cs) t fz) ∧ seg cs o (n * sz) = some xs)
theorem SlAt.later {W w : World} {sz : Nat} {v : Value} {n : Nat} {xs : List Value} (h : SlAt W sz v n xs) (E : Ext [] W w) : SlAt w sz v n xs := by
  obtain ⟨p, cap, h1, h2, h3, h4, h5⟩ := h
  refine ⟨p, cap, h1, h2, h3, h4, fun hn => ?_⟩
  obtain ⟨b, o, cs, t, fz, h6, h7, h8⟩ := h5 hn
  exact ⟨b, o, cs, t, fz, h6, by rw [E.block b (Array.getElem?_eq_some_iff.1 h7).1 (by simp)]; exact h7, h8⟩
theorem SlAt.nil (W : World) (sz : Nat) : SlAt W sz (.slice none 0 0) 0 [] := ⟨none, 0, rfl, Nat.le_refl _, by simp, by simp, fun h => absurd h (by omega)⟩
theorem OwnS.slAt {e : TypeId} {sz : Nat} {v : Value} {n : Nat} {xs : List Value} {ent : List (Nat × Obj)} (h : OwnS e sz v n xs ent) {S : List Nat} {W0 w : World} {l : List (Nat × Obj)} (M : Mem S W0 w l) (hs : ∀ p ∈ ent, p ∈ l) : SlAt w sz v n xs := by
  rcases h with ⟨rfl, rfl, rfl, rfl⟩ | ⟨b, cap, junk, rfl, rfl, hxl, hjl, hnc⟩
  · exact SlAt.nil _ _
  · refine ⟨_, _, rfl, hnc, by simp, hxl, fun _ => ⟨b, 0, xs ++ junk, e, (0, 0), rfl, M.at_ (b, _) (hs _ (by simp)), ?_⟩⟩
    have := seg_of [] xs junk
    simpa [hxl] using this
/-- the elements' slice as a whole new list of them -/
theorem SlAt.src {P : Program} {W : World} {sz : Nat} {v : Value} {n : Nat} {xs : List Value} (h : SlAt W sz v n xs) (h1 : xs.all (·.oneCell') = true) : SrcOf P W v n sz xs := by
  obtain ⟨p, cap, rfl, h2, h3, h4, h5⟩ := h
  rcases Nat.eq_zero_or_pos n with hn | hn
  · subst hn
    have : xs = [] := List.length_eq_zero_iff.1 (by simpa using h4)
    subst this
    refine ⟨by simp [Builtin.lenOf], fun d => ?_, by simp, by simp⟩
    cases p with
    | none => simp [Builtin.firstCells]
    | some a => exact run_firstCells_some _ sz 0 _ _ _ [] (by simp) (fun j v hj => by simp at hj)
  · obtain ⟨b, o, cs, t, fz, rfl, h7, h8⟩ := h5 hn
    exact SrcOf.cells' h7 h8 h1

section
variable {P : Program} {ρ : Operand → Value} {w W0 : World} {S : List Nat} {l l' : List (Nat × Obj)} {R : Value → World → Prop} {d : Option Tmp} {ty : TypeId} {pos : String} {af : Array Edge} {g : Option (Nat × Bool)}

/-- a load out of what there was when the call began -/
theorem o_loadW1 {t : TypeId} {x : Operand} {b off : Nat} {cs : List Value} {t' : TypeId} {fz : Nat × Nat} {v : Value} [ht : TOne P t] (M : Mem [] W0 w l) (hx : ρ x = .pointer (some ⟨b, off, none⟩)) (hb : W0.heap[b]? = some (.cells cs.toArray t' fz)) (hv : nth cs off = some v) (h : R v w) : OpTo P ⟨d, .load t x, ty, pos, af, g⟩ ρ w R :=
  o_load hx (run_loadVar_one ht.h (cell_at ((M.ext.block b (Array.getElem?_eq_some_iff.1 hb).1 (by simp)).trans hb) (by rw [nth_spec] at hv; simpa using hv))) h
theorem o_loadWA {t : TypeId} {x : Operand} {b off n : Nat} {cs : List Value} {t' : TypeId} {fz : Nat × Nat} {vs : List Value} [ht : TAgg P t n] (M : Mem [] W0 w l) (hx : ρ x = .pointer (some ⟨b, off, none⟩)) (hb : W0.heap[b]? = some (.cells cs.toArray t' fz)) (hv : seg cs off n = some vs) (h : R (.agg vs.toArray) w) : OpTo P ⟨d, .load t x, ty, pos, af, g⟩ ρ w R :=
  o_load hx (run_loadVar_agg ht.h ((M.ext.block b (Array.getElem?_eq_some_iff.1 hb).1 (by simp)).trans hb) (by simpa using hv)) h

theorem o_capSl {x : Operand} {t e : TypeId} {p : Option Addr} {n c : Nat} (hx : ρ x = .slice p n c) [ht : TU P t (.slice e)] (h : R (.int .i64 c) w) : OpTo P ⟨d, .call ⟨.builtin .cap, #[x], #[t]⟩, ty, pos, af, g⟩ ρ w R :=
  OpTo.val (v := .int .i64 c) (w' := w) (by simp [execOp, resolve, invoke, builtin, hx, Builtin.cap_, run_underlying ht.h, goInt]) h
/-- x[i:] of a slice, i below its capacity -/
theorem o_slL {t e : TypeId} {x i : Operand} {k : IntKind} {b o len cap : Nat} {m : Int} (hx : ρ x = .slice (some ⟨b, o, none⟩) len cap) (hi : ρ i = .int k m) [ht : TU P t (.slice e)] {sz : Nat} [hs : TSz P e sz] (h0 : 0 ≤ m) (h1 : m ≤ len) (h3 : m < cap) (h : R (.slice (some ⟨b, o + m.toNat * sz, none⟩) (len - m.toNat) (cap - m.toNat)) w) : OpTo P ⟨d, .slice t x (some i) none none, ty, pos, af, g⟩ ρ w R := by
  have h6 : ¬ cap = m.toNat := by omega
  exact OpTo.val (v := .slice (some ⟨b, o + m.toNat * sz, none⟩) (len - m.toNat) (cap - m.toNat)) (w' := w) (by simp [execOp, Instr.sliceAt, Instr.slice, Instr.sliceBounds, Instr.sliceBound, asIntOf, hx, hi, run_underlying ht.h, run_sizeOf hs.h, h0, h1, h6, addr_add]) h
/-- x[i:] of a slice, whose place is not looked at -/
theorem o_slLany {t e : TypeId} {x i : Operand} {k : IntKind} {p : Option Addr} {len cap : Nat} {m : Int} (hx : ρ x = .slice p len cap) (hi : ρ i = .int k m) [ht : TU P t (.slice e)] {sz : Nat} [hs : TSz P e sz] (h0 : 0 ≤ m) (h1 : m ≤ len) (h : ∀ q, R (.slice q (len - m.toNat) (cap - m.toNat)) w) : OpTo P ⟨d, .slice t x (some i) none none, ty, pos, af, g⟩ ρ w R := by
  exact OpTo.val (v := .slice (if cap = m.toNat then p else p.map (·.add (m.toNat * sz))) (len - m.toNat) (cap - m.toNat)) (w' := w) (by simp [execOp, Instr.sliceAt, Instr.slice, Instr.sliceBounds, Instr.sliceBound, asIntOf, hx, hi, run_underlying ht.h, run_sizeOf hs.h, h0, h1]) (h _)

/-! entries of the model -/
theorem o_entry {c : Operand} {f : FuncId} {fn : Func} {e : Array Value → Sem Value} {xs : Array Operand} {ts : Array TypeId} {vs : Array Value} {v : Value} (hc : ρ c = .func (.func f) #[] #[]) (hf : P.funcs[f]? = some fn) (hname : (fn.name == "runtime.NumGoroutine") = false)
    (hb : fn.body.isNone = true) (hn : Extern.findNext fn = none) (he : Extern.find fn = some e) (ha : xs.map ρ = vs) (hr : (e vs).run P w = .ok v w) (h : R v w) : OpTo P ⟨d, .call ⟨.value c, xs, ts⟩, ty, pos, af, g⟩ ρ w R := by
  refine OpTo.val (v := v) (w' := w) ?_ h
  have := run_callFunc_extern hf hname hb hn he vs w
  rw [hr] at this
  simp [execOp, resolve, invoke, Deferred.ofValue, hc, ha, this]
end

/-! bytes compared -/
def cmpL : List Int → List Int → Int
  | [], [] => 0
  | [], _ :: _ => -1
  | _ :: _, [] => 1
  | x :: xs, y :: ys => if x < y then -1 else if y < x then 1 else cmpL xs ys
theorem find_range_succ (n : Nat) (p : Nat → Bool) : (List.range (n + 1)).find? p = if p 0 then some 0 else ((List.range n).find? fun i => p (i + 1)).map (· + 1) := by
  rw [List.range_succ_eq_map, List.find?_cons]
  cases h : p 0 with
  | true => simp
  | false => simp [List.find?_map]; rfl
theorem ba_get (bs : List UInt8) (i : Nat) : (⟨bs.toArray⟩ : ByteArray)[i]! = bs.getD i default := by
  rw [getElem!_def]
  rcases Nat.lt_or_ge i bs.length with h | h
  · rw [mkS_get h]; simp [h]
  · have : (⟨bs.toArray⟩ : ByteArray)[i]? = none := by
      rw [getElem?_neg]
      rw [mkS_size]; omega
    rw [this]; simp [h]
theorem cmp_cmpL : ∀ (xs ys : List UInt8), Extern.BytealgCompare.cmp ⟨xs.toArray⟩ ⟨ys.toArray⟩ = cmpL (xs.map fun c => (c.toNat : Int)) (ys.map fun c => (c.toNat : Int))
  | [], [] => by decide
  | [], y :: ys => by
    unfold Extern.BytealgCompare.cmp
    rw [mkS_size, mkS_size]
    simp [cmpL]
  | x :: xs, [] => by
    unfold Extern.BytealgCompare.cmp
    rw [mkS_size, mkS_size]
    simp [cmpL]
  | x :: xs, y :: ys => by
    have ih := cmp_cmpL xs ys
    unfold Extern.BytealgCompare.cmp at *
    rw [mkS_size, mkS_size] at *
    simp only [List.length_cons] at *
    have hm : min (xs.length + 1) (ys.length + 1) = min xs.length ys.length + 1 := by omega
    rw [hm, find_range_succ]
    have hg0 : ∀ (z : UInt8) (zs : List UInt8), (⟨(z :: zs).toArray⟩ : ByteArray)[0]! = z := fun z zs => by rw [ba_get]; rfl
    have hg1 : ∀ (z : UInt8) (zs : List UInt8) (i : Nat), (⟨(z :: zs).toArray⟩ : ByteArray)[i + 1]! = (⟨zs.toArray⟩ : ByteArray)[i]! := by
      intro z zs i
      rw [ba_get, ba_get]; simp
    simp only [hg0, hg1]
    by_cases hxy : x = y
    · subst hxy
      simp only [bne_self_eq_false, Bool.false_eq_true, if_false, List.map_cons, cmpL, Int.lt_irrefl]
      rw [← ih]
      cases List.find? (fun i => (⟨xs.toArray⟩ : ByteArray)[i]! != (⟨ys.toArray⟩ : ByteArray)[i]!) (List.range (min xs.length ys.length)) with
      | none => simp
      | some i => simp [hg1]
    · have hne : (x != y) = true := by simpa using hxy
      simp only [hne, if_true, hg0, List.map_cons, cmpL]
      have hnn : x.toNat ≠ y.toNat := fun h => hxy (UInt8.toNat_inj.1 h)
      by_cases hlt : x < y
      · have : x.toNat < y.toNat := hlt
        rw [if_pos hlt, if_pos (by omega)]
      · have : ¬ x.toNat < y.toNat := hlt
        rw [if_neg hlt, if_neg (by omega), if_pos (by omega)]
theorem cmpL_self : ∀ xs : List Int, cmpL xs xs = 0
  | [] => rfl
  | x :: xs => by simp [cmpL, cmpL_self xs]
theorem cmpL_anti : ∀ xs ys : List Int, cmpL ys xs = - cmpL xs ys
  | [], [] => rfl
  | [], _ :: _ => rfl
  | _ :: _, [] => rfl
  | x :: xs, y :: ys => by
    simp only [cmpL]
    rcases Int.lt_trichotomy x y with h | h | h
    · rw [if_neg (by omega), if_pos h, if_pos h]; rfl
    · subst h; simp [cmpL_anti xs ys]
    · rw [if_pos h, if_neg (by omega), if_pos h]
theorem cmpL_zero : ∀ {xs ys : List Int}, cmpL xs ys = 0 → xs = ys
  | [], [], _ => rfl
  | [], _ :: _, h => by simp [cmpL] at h
  | _ :: _, [], h => by simp [cmpL] at h
  | x :: xs, y :: ys, h => by
    simp only [cmpL] at h
    split at h
    · cases h
    · split at h
      · cases h
      · rw [cmpL_zero h, show x = y by omega]
theorem cmpL_lt_trans : ∀ {xs ys zs : List Int}, cmpL xs ys < 0 → cmpL ys zs < 0 → cmpL xs zs < 0
  | [], [], _, h, _ => by simp [cmpL] at h
  | [], _ :: _, [], _, h => by simp [cmpL] at h
  | [], _ :: _, _ :: _, _, _ => by simp [cmpL]
  | _ :: _, [], _, h, _ => by simp [cmpL] at h
  | _ :: _, _ :: _, [], _, h => by simp [cmpL] at h
  | x :: xs, y :: ys, z :: zs, h, k => by
    simp only [cmpL] at *
    rcases Int.lt_trichotomy x y with h1 | h1 | h1
    · rcases Int.lt_trichotomy y z with k1 | k1 | k1
      · rw [if_pos (by omega)]; omega
      · subst k1; rw [if_pos h1]; omega
      · rw [if_neg (by omega), if_pos k1] at k; omega
    · subst h1
      rw [if_neg (by omega), if_neg (by omega)] at h
      rcases Int.lt_trichotomy x z with k1 | k1 | k1
      · rw [if_pos k1]; omega
      · subst k1
        rw [if_neg (by omega), if_neg (by omega)] at *
        exact cmpL_lt_trans h k
      · rw [if_neg (by omega), if_pos k1] at k; omega
    · rw [if_neg (by omega), if_pos h1] at h; omega

/-- a slice of bytes -/
theorem run_bytesOf {P : Program} {w : World} {v : Value} {n : Nat} {xs : List Int} (h : SlAt w 1 v n (xs.map (Value.int .u8))) : (Extern.Bytes.bytesOf v).run P w = .ok ⟨(Lib.bytesOf xs).toArray⟩ w := by
  obtain ⟨p, cap, rfl, h2, h3, h4, h5⟩ := h
  simp only [List.length_map, Nat.mul_one] at h4
  rcases Nat.eq_zero_or_pos n with hn | hn
  · have : xs = [] := List.length_eq_zero_iff.1 (by omega)
    subst this; subst hn
    cases p with
    | none => simp [Extern.Bytes.bytesOf, Lib.bytesOf]; rfl
    | some a => simp [Extern.Bytes.bytesOf, Lib.bytesOf, Extern.Bytes.loadBytes]; rfl
  · obtain ⟨b, o, cs, t, fz, rfl, h7, h8⟩ := h5 hn
    have := Lib.run_loadBytesX (P := P) w xs ⟨b, o, none⟩ .empty (fun j x hj => by
      obtain ⟨h9, h10⟩ := seg_spec _ _ _ _ h8
      have hjl : j < xs.length := (List.getElem?_eq_some_iff.1 hj).1
      have := h10 j (by omega)
      rw [addr_add]
      refine cell_at h7 ?_
      simp only [List.getElem?_toArray, this]
      simp [hj])
    simp only [Extern.Bytes.bytesOf, ← h4]
    rw [this]
    simp [ByteArray.empty, ByteArray.emptyWithCapacity]
    rfl
theorem bytes_nums {xs : List Int} (h : ∀ x ∈ xs, 0 ≤ x ∧ x < 256) : (Lib.bytesOf xs).map (fun c => (c.toNat : Int)) = xs := by
  induction xs with
  | nil => rfl
  | cons x xs ih =>
    have h1 := h x (by simp)
    have e : (Lib.bytesOf (x :: xs)) = x.toNat.toUInt8 :: Lib.bytesOf xs := by simp [Lib.bytesOf]
    rw [e, List.map_cons, ih fun y hy => h y (by simp [hy])]
    congr 1
    simp only [Nat.toUInt8, UInt8.toNat_ofNat']
    omega
theorem run_compare {P : Program} {w : World} {v u : Value} {n m : Nat} {xs ys : List Int} (h : SlAt w 1 v n (xs.map (Value.int .u8))) (k : SlAt w 1 u m (ys.map (Value.int .u8))) (hx : ∀ x ∈ xs, 0 ≤ x ∧ x < 256) (hy : ∀ x ∈ ys, 0 ≤ x ∧ x < 256) :
    (Extern.BytealgCompare.compare #[v, u]).run P w = .ok (.int .i64 (cmpL xs ys)) w := by
  change Sem.run P (do pure (goInt (Extern.BytealgCompare.cmp (← Extern.Bytes.bytesOf v) (← Extern.Bytes.bytesOf u)))) w = _
  simp only [Sem.run_bind, run_bytesOf h, run_bytesOf k, Result.andThen_ok, Sem.run_pure, cmp_cmpL, bytes_nums hx, bytes_nums hy, goInt]

section
variable {P : Program} {ρ : Operand → Value} {w W0 : World} {S : List Nat} {l l' : List (Nat × Obj)} {R : Value → World → Prop} {d : Option Tmp} {ty : TypeId} {pos : String} {af : Array Edge} {g : Option (Nat × Bool)}
theorem run_ov {tS tR e : TypeId} {sz vb b o1 o2 la ca lb cb : Nat} {ys cs : List Value} {tA tB : TypeId} (ht : P.underlying tS = some (.slice e)) (hz : sizeIs P e sz = true) (hne : vb ≠ b) (ha : w.heap[vb]? = some (.cells ys.toArray tA (0, 0))) (hb : w.heap[b]? = some (.cells cs.toArray tB (0, 0))) (hk : cs.length ≠ 0) :
    (Extern.SlicesOverlaps.overlaps #[tS, tS] #[tR] #[.slice (some ⟨vb, o1, none⟩) la ca, .slice (some ⟨b, o2, none⟩) lb cb]).run P w = .ok (.bool false) w :=
  Lib.run_overlaps_apart w tS tR e ht sz (fun w => run_sizeOf hz) ⟨vb, o1, none⟩ ⟨b, o2, none⟩ la ca lb cb hne tA tB ys.length cs.length (by simp [World.shape?, ha]) (by simp [World.shape?, hb]) hk (by simp [World.frozen?, ha]) (by simp [World.frozen?, ha])

theorem o_storeAE {t : TypeId} {x y : Operand} {b off n : Nat} {cs cs' vs : List Value} {t' : TypeId} [hs : TAgg P t n] (M : Mem S W0 w l) (hx : ρ x = .pointer (some ⟨b, off, none⟩)) (hy : ρ y = .agg vs.toArray) (hn : vs.length = n) (h1 : vs.all (·.oneCell') = true) (hb : Has l b (.cells cs.toArray t' (0, 0))) (hp : put cs off vs = some cs')
    (hu : Upd l b (.cells cs.toArray t' (0, 0)) (.cells cs'.toArray t' (0, 0)) l') (h : ∀ w', Ext [b] w w' → Mem S W0 w' l' → R undef w') : OpTo P ⟨d, .store t x y, ty, pos, af, g⟩ ρ w R := by
  obtain ⟨hle, rfl⟩ := put_splice _ _ _ _ hp
  obtain ⟨w', hr, he, hh⟩ := run_storeRow (P := P) (off := off) vs 0 cs w (M.heap hb) (by simpa using hle) (fun v hv => List.all_eq_true.1 h1 v hv)
  refine OpTo.skip (w' := w') ?_ (h _ he (M.turned hu he (by simpa using hh)))
  simp only [execOp, Instr.storeAt, Instr.sureAddr, hx, hy, storeVar, Sem.run_bind, Sem.run_pure, Result.andThen_ok, run_sizeOf_agg hs.h, Value.cells]
  simp [hr, hn]
/-- append(x, make(..)...), where there is no room -/
theorem o_appendZ {st tn e : TypeId} {x y : Operand} {sz by_ i k cap : Nat} {p : Option Addr} {xs : List Value} [hst : TU P st (.slice e)] [htn : TU P tn (.int .i64)] [hel : TEl P e sz by_] (M : Mem S W0 w l) (hX : SrcOf P w (.slice p i cap) i sz xs)
    (hx : ρ x = .slice p i cap) (hy : ρ y = .int .i64 (k : Int)) (hgt : cap < i + k) (hci : i ≤ cap) (hsz : 0 < sz) (hbd : (i + k) * by_ ≤ 140737488355328) (hln : i + k ≤ 9223372036854775807)
    (h : ∀ b cap' zs w', zs.length = (cap' - i) * sz → i + k ≤ cap' → Mem S W0 w' ((b, .cells (xs ++ zs).toArray e (0, 0)) :: l) → R (.slice (some ⟨b, 0, none⟩) (i + k) cap') w') : OpTo P ⟨d, .call ⟨.builtin .append, #[x, y], #[st, tn]⟩, ty, pos, af, g⟩ ρ w R := by
  obtain ⟨inf, z, hi, rfl, rfl, hz, hzs⟩ := elB_spec hel.h
  have hw : IntKind.i64.wrap (k : Int) = k := w_i64 (by omega) (by omega)
  have hkb : k * inf.bytes ≤ 281474976710656 := by
    have : k * inf.bytes ≤ (i + k) * inf.bytes := Nat.mul_le_mul_right _ (by omega)
    omega
  have h48i : ¬ (281474976710656 < (k : Int) * (inf.bytes : Int)) := by
    rw [← Int.natCast_mul]; omega
  have hneg : ¬ ((k : Int) < 0) := by omega
  have hk0 : k ≠ 0 := by omega
  have hns : ¬ (k * inf.size = 0) := Nat.mul_ne_zero hk0 (by omega)
  have hn : ¬ (i + k ≤ cap) := by omega
  have h63' : ¬ (9223372036854775807 < ((i : Int) + (k : Int))) := by omega
  have h48 : ¬ (281474976710656 < Builtin.nextslicecap (i + k) cap * inf.bytes) := by
    have := growslice_fits (need := i + k) (old := cap) (bytes := inf.bytes) (by omega) hbd
    omega
  have hold := hX.cells (w.drawn + 1)
  have hnc : i + k ≤ grownCap w (i + k) cap e := grownCap_ge w _ _ _
  have hrun : (Builtin.append_ #[st, tn] ty #[.slice p i cap, .int .i64 (k : Int)]).run P w = .ok (.slice (some ⟨w.heap.size, 0, none⟩) (i + k) (grownCap w (i + k) cap e)) (w.drew.alloc (.cells (xs.toArray ++ Builtin.zeroCells z.cells k ++ Builtin.zeroCells z.cells (grownCap w (i + k) cap e - (i + k))) e)) := by
    have hold' : (Builtin.firstCells inf.size i (.slice p i cap)).run P w.drew = .ok xs.toArray w.drew := hold
    simp [Builtin.append_, run_underlying hst.h, run_underlying htn.h, sizeOf, typeInfo, zeroValue, hi, hz, asInt, asIntOf, hw, hk0, hneg, hns, h63', h48, h48i, hn, Question.forced, hold', newRow, grownCap] <;> (congr 2; apply Array.ext'; simp)
  have e1 : (xs.toArray ++ Builtin.zeroCells z.cells k ++ Builtin.zeroCells z.cells (grownCap w (i + k) cap e - (i + k))) = (xs ++ ((Builtin.zeroCells z.cells k).toList ++ (Builtin.zeroCells z.cells (grownCap w (i + k) cap e - (i + k))).toList)).toArray := by
    apply Array.ext'; simp
  rw [e1] at hrun
  have hzl : ((Builtin.zeroCells z.cells k).toList ++ (Builtin.zeroCells z.cells (grownCap w (i + k) cap e - (i + k))).toList).length = (grownCap w (i + k) cap e - i) * inf.size := by
    rw [List.length_append, Array.length_toList, Array.length_toList, size_zeroCells, size_zeroCells, hzs, ← Nat.add_mul]
    congr 1
    omega
  generalize (Builtin.zeroCells z.cells k).toList ++ (Builtin.zeroCells z.cells (grownCap w (i + k) cap e - (i + k))).toList = zs at *
  refine OpTo.val (v := .slice (some ⟨w.heap.size, 0, none⟩) (i + k) (grownCap w (i + k) cap e)) (w' := w.drew.alloc (.cells (xs ++ zs).toArray e (0, 0))) ?_ (h _ _ zs _ hzl hnc ((M.later (Ext.drawn w (w.drawn + 1) (Nat.le_succ _))).alloc (.cells (xs ++ zs).toArray e (0, 0))))
  simp [execOp, resolve, invoke, builtin, hx, hy, hrun]
end
end Go.Proofs.Ytainnefmobfcjaa

/-! LibT -/
/-
  The closing, part T: arguments that are slices of whatever elements, opened.
-/
namespace Go.Proofs.Ytainnefmobfcjaa
set_option linter.unusedVariables false
set_option linter.unusedSimpArgs false
open Go.RowKit

theorem add_add (a : Addr) (m r : Nat) : (a.add m).add r = a.add (m + r) := by
  obtain ⟨b, o, sp⟩ := a
  unfold Addr.add
  by_cases hm : m = 0
  · subst hm
    simp
  · by_cases hr : r = 0
    · subst hr; simp [hm]
    · simp [hm, hr, show ¬ m + r = 0 by omega]; omega
theorem add_block (a : Addr) (m : Nat) : (a.add m).block = a.block := by unfold Addr.add; split <;> rfl
section
variable {H : Type} {enc : TypeId × Value → H} {P : Program} {w : World} {base : Nat} {sp : Nat → Bool} {held : Bool}
theorem open_slG {α : Type} {encE : α → List Value} {Is : α → Prop} {t e : TypeId} {sz : Nat} (ht : P.underlying t = some (.slice e)) (hsz : P.cellsOf e = sz) (h0 : 0 < sz)
    (hdec : ∀ n cs y, DataW.trod enc P w base sp held n e cs = some y → ∃ x : α, Is x ∧ cs = encE x) {fuel : Nat} {cs : List Value} {x : DataW H × List MemPlace} (h : DataW.trod enc P w base sp held fuel t cs = some x) :
    ∃ (v : Value) (ls : List α), cs = [v] ∧ (∀ x ∈ ls, Is x) ∧ SlAt w sz v ls.length (encL encE ls) ∧ ls.length ≤ 9223372036854775807 := by
  rcases DataW.trod_slice ht h with ⟨rfl, _⟩ | ⟨a, len, cap, elems, rest, n, _, rfl, _, _, hlc, hcm, hel, hat, _, _⟩
  · exact ⟨_, [], rfl, by simp, SlAt.nil _ _, by simp⟩
  have hml : maxLen = 9223372036854775807 := rfl
  rw [hsz] at hat
  have key : ∀ k, k ≤ len → ∃ ls : List α, ls.length = k ∧ (∀ x ∈ ls, Is x) ∧ (encL encE ls).length = k * sz ∧ ∀ j, j < k * sz → w.cell? (a.add j) = (encL encE ls)[j]? := by
    intro k
    induction k with
    | zero => exact fun _ => ⟨[], rfl, by simp, by simp [encL_nil], by simp⟩
    | succ k ih =>
      intro hk
      obtain ⟨ls, h1, h2, h3, h4⟩ := ih (by omega)
      have hb := hat k (by omega)
      rw [List.getElem?_eq_getElem (by omega), Option.bind_eq_some_iff] at hb
      obtain ⟨ck, hc, hy⟩ := hb
      obtain ⟨x, hx, rfl⟩ := hdec _ _ _ hy
      obtain ⟨_, hcl, hca⟩ := World.cells?_some hc
      refine ⟨ls ++ [x], by simp [h1], fun z hz => ?_, ?_, fun j hj => ?_⟩
      · rcases List.mem_append.1 hz with h | h
        · exact h2 z h
        · simp only [List.mem_singleton] at h
          rw [h]; exact hx
      · rw [encL_app, encL_one, List.length_append, h3, hcl, Nat.add_mul]; omega
      · rw [encL_app, encL_one]
        rcases Nat.lt_or_ge j (k * sz) with h | h
        · rw [List.getElem?_append_left (by omega)]
          exact h4 j h
        · rw [List.getElem?_append_right (by omega), h3, ← hca (j - k * sz) (by rw [Nat.add_mul] at hj; omega), add_add]
          congr 2
          omega
  obtain ⟨ls, h1, h2, h3, h4⟩ := key len (Nat.le_refl _)
  refine ⟨_, ls, rfl, h2, ⟨some a, cap, by rw [h1], by omega, fun _ _ => trivial, by rw [h3, h1], fun hl => ?_⟩, by omega⟩
  have hpos : 0 < len * sz := Nat.mul_pos (by omega) h0
  have hc0 := h4 0 hpos
  have hsp : a.spot = none := by
    cases hs : a.spot with
    | none => rfl
    | some q =>
      have e0 : a.add 0 = a := by simp [Addr.add]
      rw [e0, List.getElem?_eq_getElem (by omega)] at hc0
      simp only [World.cell?, hs] at hc0
      split at hc0 <;> simp at hc0
  obtain ⟨b, o, spt⟩ := a
  simp only at hsp
  subst hsp
  have hadd : ∀ i, (⟨b, o, none⟩ : Addr).add i = ⟨b, o + i, none⟩ := fun i => addr_add b o i
  rw [hadd, List.getElem?_eq_getElem (by omega)] at hc0
  cases hb : w.heap[b]? with
  | none => simp [World.cell?, hb] at hc0
  | some ob =>
    cases ob with
    | cells cs t fz =>
      refine ⟨b, o, cs.toList, t, fz, rfl, by simpa using hb, ?_⟩
      have hcell : ∀ i, i < len * sz → cs[o + i]? = (encL encE ls)[i]? := fun i hi => by
        have := h4 i hi
        rw [hadd] at this
        simpa [World.cell?, hb] using this
      have hle : o + len * sz ≤ cs.toList.length := by
        have := hcell (len * sz - 1) (by omega)
        rw [List.getElem?_eq_getElem (by omega)] at this
        have := (Array.getElem?_eq_some_iff.1 this).1
        simp only [Array.length_toList]
        omega
      rw [h1, sg_eq, if_pos hle]
      congr 1
      apply List.ext_getElem?
      intro i
      rcases Nat.lt_or_ge i (len * sz) with hi | hi
      · rw [List.getElem?_take_of_lt hi, List.getElem?_drop, Array.getElem?_toList, hcell i hi]
      · rw [List.getElem?_eq_none (by simp; omega), List.getElem?_eq_none (by omega)]
    | _ => simp [World.cell?, hb] at hc0
end
end Go.Proofs.Ytainnefmobfcjaa

/-! E0 -/
/-
  border: isTime, later, compareIP, overlap, block; multihopref23.Meet; multihopworld.EUI, IP; the tape in short.
-/
namespace Go.Proofs.Ytainnefmobfcjaa
set_option linter.unusedVariables false
set_option linter.unusedSimpArgs false
open Go.RowKit
attribute [local irreducible] OpTo wpListIn Code.wpIn MW Cal

theorem xor8_bd (m n : Int) : 0 ≤ bitsOf .xor .u8 m n ∧ bitsOf .xor .u8 m n < 256 := by
  unfold bitsOf
  simp only [IntKind.wrap, IntKind.signed, IntKind.bits, Bool.false_and, Bool.false_eq_true, if_false]
  omega
/-! the tape: a number, whatever it is -/
theorem nextE_c {bt : Nat} {p : Option Addr} {len cap k : Nat} {xs : List Int} (n : Int) (hn : 0 < n) (hn2 : n ≤ 9223372036854775807) (W : World) (hT : TapeS W bt p len xs) (hb : W.heap[bt]? = some (tobj p len cap k)) :
    Cal Try.prog 14 [.pointer (some ⟨bt, 0, none⟩), .int .i64 n].toArray W fun v w' => ∃ x k', v = .int .i64 x ∧ (0 ≤ x ∧ x < n) ∧ Mem [bt] W w' [(bt, tobj p len cap k')] :=
  Cal.mono (next_c n hn hn2 W hT hb) fun _ _ h => ⟨_, _, h.1, nxV_bd _ _ hn, h.2⟩
theorem boolE_c {bt : Nat} {p : Option Addr} {len cap k : Nat} {xs : List Int} (n : Int) (hn : 0 < n) (hn2 : n ≤ 9223372036854775807) (W : World) (hT : TapeS W bt p len xs) (hb : W.heap[bt]? = some (tobj p len cap k)) :
    Cal Try.prog 17 [.pointer (some ⟨bt, 0, none⟩), .int .i64 n].toArray W fun v w' => ∃ x k', v = .bool x ∧ Mem [bt] W w' [(bt, tobj p len cap k')] :=
  Cal.mono (bool_c n hn hn2 W hT hb) fun _ _ h => ⟨_, _, h.1, h.2⟩
theorem eui_c {bt : Nat} {p : Option Addr} {len cap k : Nat} {xs : List Int} (W : World) (hT : TapeS W bt p len xs) (hb : W.heap[bt]? = some (tobj p len cap k)) :
    Cal Try.prog 12 [.pointer (some ⟨bt, 0, none⟩)].toArray W fun v w' => ∃ x k', v = .int .u64 x ∧ (1 ≤ x ∧ x ≤ 5) ∧ Mem [bt] W w' [(bt, tobj p len cap k')] := by
  refine fn_ofM (n := 7) [bt] Try.func12 rfl rfl rfl ?_
  intro a w F M hwW
  replace M := M.came hwW hb (by simp) (by simp)
  with_reducible refine c_seq ?_
  with_reducible refine c_region ?_
  refine stepD rfl F rfl (o_assign (F.ev rfl) ?_); clear F; clear a; intro a F
  with_reducible refine l_nil ?_
  with_reducible refine q_then ?_
  with_reducible refine c_seq ?_
  with_reducible refine c_region ?_
  refine stepD rfl F rfl (o_move (F.ev rfl) ?_); clear F; clear a; intro a F
  (refine stepD rfl F rfl (o_call (F.ev rfl) (F.evs rfl) (Cal.mono (nextE_c 5 (by omega) (by omega) _ (hT.later M.ext) (M.heap .here) ) ?_)); clear F; clear a; have M0 := M; clear M; rintro _ w ⟨x, k', rfl, hx, N⟩ a F)
  replace M := M0.turn1 N .here
  refine stepD rfl F rfl (o_add (F.ev rfl) (F.ev rfl) (w_i64 (by omega) (by omega)) ?_); clear F; clear a; intro a F
  refine stepD rfl F rfl (o_conv (F.ev rfl) (w_u64 (by omega) (by omega)) ?_); clear F; clear a; intro a F
  refine stepD rfl F rfl (o_assign (F.ev rfl) ?_); clear F; clear a; intro a F
  with_reducible refine l_nil ?_
  with_reducible refine q_then ?_
  with_reducible refine c_ret ?_
  refine p_ret F rfl (.cons (.tmp (F.ev rfl)) .nil) ?_
  exact ⟨1 + x, k', rfl, by omega, M⟩
set_option maxHeartbeats 1000000 in
theorem wip_c {bt : Nat} {p : Option Addr} {len cap k : Nat} {xs : List Int} (W : World) (hT : TapeS W bt p len xs) (hb : W.heap[bt]? = some (tobj p len cap k)) :
    Cal Try.prog 10 [.pointer (some ⟨bt, 0, none⟩)].toArray W fun v w' => ∃ ip k', v = .agg (ipC ip).toArray ∧ IsIP ip ∧ Mem [bt] W w' [(bt, tobj p len cap k')] := by
  refine fn_ofM (n := 28) [bt] Try.func10 rfl rfl rfl ?_
  intro a w F M hwW
  replace M := M.came hwW hb (by simp) (by simp)
  refine c_seq ?_
  refine c_region ?_
  (refine stepD rfl F rfl (o_alloc M ?_); clear F; clear M; intro b2 w M a F)
  with_reducible refine l_nil ?_
  with_reducible refine q_then ?_
  with_reducible refine c_seq ?_
  with_reducible refine c_region ?_
  refine stepD rfl F rfl (o_move (F.ev rfl) ?_); clear F; clear a; intro a F
  (refine stepD rfl F rfl (o_call (F.ev rfl) (F.evs rfl) (Cal.mono (nextE_c 2 (by omega) (by omega) _ (hT.later M.ext) (M.heap (.there .here)) ) ?_)); clear F; clear a; have M0 := M; clear M; rintro _ w ⟨x1, k1, rfl, hx1, N⟩ a F)
  replace M := M0.turn1 N (.there .here)
  refine stepD rfl F rfl (o_conv (F.ev rfl) (w_u8 (by omega) (by omega)) ?_); clear F; clear a; intro a F
  refine stepD rfl F rfl (o_move (F.ev rfl) ?_); clear F; clear a; intro a F
  (refine stepD rfl F rfl (o_call (F.ev rfl) (F.evs rfl) (Cal.mono (nextE_c 2 (by omega) (by omega) _ (hT.later M.ext) (M.heap (.there .here)) ) ?_)); clear F; clear a; have M0 := M; clear M; rintro _ w ⟨x2, k2, rfl, hx2, N⟩ a F)
  replace M := M0.turn1 N (.there .here)
  refine stepD rfl F rfl (o_conv (F.ev rfl) (w_u8 (by omega) (by omega)) ?_); clear F; clear a; intro a F
  refine stepD rfl F rfl (o_build F rfl rfl ?_); clear F; clear a; intro a F
  (refine stepD rfl F rfl (o_alloc M ?_); clear F; clear M; intro b3 w M a F)
  (refine stepN rfl F (o_storeA M (F.ev rfl) (F.ev rfl) (by rfl) (by rfl) (by repeat (first | exact .here | apply Has.there)) (by rfl) (by repeat (first | exact .here | apply Upd.there)) ?_); clear F; clear M; intro w M a F)
  with_reducible refine l_nil ?_
  with_reducible refine q_then ?_
  with_reducible refine c_seq ?_
  with_reducible refine c_region ?_
  refine stepD rfl F rfl (o_move (F.ev rfl) ?_); clear F; clear a; intro a F
  (refine stepD rfl F rfl (o_call (F.ev rfl) (F.evs rfl) (Cal.mono (nextE_c 6 (by omega) (by omega) _ (hT.later M.ext) (M.heap (.there (.there .here))) ) ?_)); clear F; clear a; have M0 := M; clear M; rintro _ w ⟨x3, k3, rfl, hx3, N⟩ a F)
  replace M := M0.turn1 N (.there (.there .here))
  refine stepD rfl F rfl (o_conv (F.ev rfl) (w_u8 (by omega) (by omega)) ?_); clear F; clear a; intro a F
  refine stepD rfl F rfl (o_indexArr (F.ev rfl) (F.ev rfl) (by omega) (by omega) ?_); clear F; clear a; intro a F
  (refine stepN rfl F (o_store1 M (F.ev rfl) (F.ev rfl) rfl (by repeat (first | exact .here | apply Has.there)) (by rfl) (by repeat (first | exact .here | apply Upd.there)) ?_); clear F; clear M; intro w M a F)
  with_reducible refine l_nil ?_
  with_reducible refine q_then ?_
  with_reducible refine c_seq ?_
  with_reducible refine c_seq ?_
  with_reducible refine c_region ?_
  refine stepD rfl F rfl (o_move (F.ev rfl) ?_); clear F; clear a; intro a F
  obtain ⟨ip, hip, M⟩ : ∃ ip, IsIP ip ∧ Mem [bt] W w [(bt, tobj p len cap k3), (b3, .cells (ipC ip).toArray 26 (0, 0)), (b2, .cells (ipC [0, 0, 0, 0, 0, 0, 0, 0, 0, 0, 0, 0, 0, 0, 0, 0]).toArray 26 (0, 0))] :=
    ⟨[32, 1, 13, 184, 0, x1, x2, 0, 0, 0, 0, 0, 0, 0, 0, x3], ⟨rfl, by intro x hx; simp at hx; omega⟩, M.perm ((List.Perm.refl _).trans (List.perm_append_comm (l₁ := [_, _]) (l₂ := [_])))⟩
  (refine stepD rfl F rfl (o_call (F.ev rfl) (F.evs rfl) (Cal.mono (boolE_c 9 (by omega) (by omega) _ (hT.later M.ext) (M.heap .here) ) ?_)); clear F; clear a; have M0 := M; clear M; rintro _ w ⟨c, k4, rfl, N⟩ a F)
  replace M := M0.turn1 N .here
  clear M0
  have e0 : seg (ipC ip) 0 16 = some (ipC ip) := seg_all (ipC_len hip.len)
  cases c
  · with_reducible refine l_nil ?_
    with_reducible refine q_then ?_
    refine c_false F rfl rfl ?_
    with_reducible refine c_skip ?_
    with_reducible refine q_then ?_
    with_reducible refine c_seq ?_
    with_reducible refine c_region ?_
    refine stepD rfl F rfl (o_loadA M (F.ev rfl) (by repeat (first | exact .here | apply Has.there)) (by first | assumption | rfl) ?_); clear F; clear a; intro a F
    (refine stepN rfl F (o_storeA M (F.ev rfl) (F.ev rfl) (ipC_len hip.len) (one_ip _)  (by repeat (first | exact .here | apply Has.there))  (put_all (by rw [ipC_len hip.len]; rfl)) (by repeat (first | exact .here | apply Upd.there)) ?_); clear F; clear M; intro w M a F)
    with_reducible refine l_nil ?_
    with_reducible refine q_then ?_
    with_reducible refine c_ret ?_
    exact p_ret F rfl (.cons (.cell (F.ev rfl) (run_loadVar_agg TAgg.h (M.heap (.there (.there .here))) e0)) .nil) ⟨ip, _, rfl, hip, M.sub (.cons_cons _ (.cons _ (.cons _ (.refl _))))⟩
  · replace F := F.only [0, 2, 3, 16] rfl
    have v1 := nxV_bd xs k4 (n := 16) (by omega)
    have v2 := nxV_bd xs (nxK xs k4) (n := 8) (by omega)
    have hib := hip.at_ (nxV xs k4 16).toNat
    have h1 : nth (ipC ip) (0 + (nxV xs k4 16).toNat * 1) = some (.int .u8 (ip.getD (nxV xs k4 16).toNat 0)) := nth_ip2 hip (by omega) (by omega)
    with_reducible refine l_nil ?_
    with_reducible refine q_then ?_
    refine c_true F rfl rfl ?_
    refine c_drawB (l0 := [(bt, tobj p len cap k4)]) [bt] [1, 5] M 9 F (by kernel_rfl) ?_
    intro w1 M1 hok hef
    have hB : ∀ k ∈ [bt], k ∈ ([(bt, tobj p len cap k4)] : List (Nat × Obj)).map (·.1) := by simp
    have hTw : ∀ w', Ext [bt] w1 w' → TapeS w' bt p len xs := fun w' E => hT.later (M1.ext.trans (E.mono (by simp)))
    refine mK hok rfl rfl (fun a' w' F' E' => o_move (F'.ev rfl) ⟨Ext.refl _ _, rfl⟩) ?_
    refine mE (T' := fun _ w => Mem _ _ w ([(bt, tobj p len cap (nxK xs k4))] ++ _)) hok rfl rfl (fun _ _ _ h k => h.later k) (fun a' w' σ' F' E' T' => o_call (F'.ev rfl) (F'.evs rfl) (Cal.mono (next_c 16 (by omega) (by omega) _ (hTw _ E') (T'.heap .here)) fun _ _ hh => ⟨hh.2.ext, hh.1, Mem.turn1 T' hh.2 .here⟩)) ?_
    refine mK hok rfl rfl (fun a' w' F' E' => o_indexArr (F'.ev rfl) (F'.ev rfl) (by omega) (by omega) ⟨Ext.refl _ _, rfl⟩) ?_
    refine mK hok rfl rfl (fun a' w' F' E' => o_load1 (M1.laterBut E' hB) (F'.ev rfl) (by repeat (first | exact .here | apply Has.there)) (by first | assumption | rfl) ⟨Ext.refl _ _, rfl⟩) ?_
    refine mK hok rfl rfl (fun a' w' F' E' => o_move (F'.ev rfl) ⟨Ext.refl _ _, rfl⟩) ?_
    refine mE (T' := fun _ w => Mem _ _ w ([(bt, tobj p len cap (nxK xs (nxK xs k4)))] ++ _)) hok rfl rfl (fun _ _ _ h k => h.later k) (fun a' w' σ' F' E' T' => o_call (F'.ev rfl) (F'.evs rfl) (Cal.mono (next_c 8 (by omega) (by omega) _ (hTw _ E') (T'.heap .here)) fun _ _ hh => ⟨hh.2.ext, hh.1, Mem.turn1 T' hh.2 .here⟩)) ?_
    refine mK hok rfl rfl (fun a' w' F' E' => o_conv (F'.ev rfl) (w_u64 (by omega) (by omega)) ⟨Ext.refl _ _, rfl⟩) ?_
    refine mK hok rfl rfl (fun a' w' F' E' => o_shl (F'.ev rfl) (F'.ev rfl) (by omega) rfl ⟨Ext.refl _ _, rfl⟩) ?_
    refine mK hok rfl rfl (fun a' w' F' E' => o_xor (F'.ev rfl) (F'.ev rfl) rfl ⟨Ext.refl _ _, rfl⟩) ?_
    clear hTw
    (refine mDone rfl hef ?_; clear F; clear M; intro a w F hE2 hX M hDD hPP; clear M1; clear hX; clear hE2; clear hok; clear hef; clear hB; clear hDD; clear hPP; (try dsimp only at F); (try simp only [List.cons_append, List.nil_append] at M))
    have hbd := xor8_bd (ip.getD (nxV xs k4 16).toNat 0) (IntKind.u8.wrap (1 * 2 ^ min (nxV xs (nxK xs k4) 8).toNat IntKind.u8.bits))
    generalize bitsOf BinOp.xor IntKind.u8 (ip.getD (nxV xs k4 16).toNat 0) (IntKind.u8.wrap (1 * 2 ^ min (nxV xs (nxK xs k4) 8).toNat IntKind.u8.bits)) = z at *
    refine stepD rfl F rfl (o_indexArr (F.ev rfl) (F.ev rfl) (by omega) (by omega) ?_); clear F; clear a; intro a F
    (refine stepN rfl F (o_store1 M (F.ev rfl) (F.ev rfl) rfl (by repeat (first | exact .here | apply Has.there)) (put1 (q := (nxV xs k4 16).toNat) _ (by omega) (by rw [ipC_len hip.len]; omega)) (by repeat (first | exact .here | apply Upd.there)) ?_); clear F; clear M; intro w M a F)
    rw [← ipC_set] at M
    have hip2 := hip.set (nxV xs k4 16).toNat hbd.1 hbd.2
    generalize ip.set (nxV xs k4 16).toNat z = ip2 at *
    have e2 : seg (ipC ip2) 0 16 = some (ipC ip2) := seg_all (ipC_len hip2.len)
    with_reducible refine l_nil ?_
    with_reducible refine q_then ?_
    with_reducible refine c_seq ?_
    with_reducible refine c_region ?_
    refine stepD rfl F rfl (o_loadA M (F.ev rfl) (by repeat (first | exact .here | apply Has.there)) (by first | assumption | rfl) ?_); clear F; clear a; intro a F
    (refine stepN rfl F (o_storeA M (F.ev rfl) (F.ev rfl) (ipC_len hip2.len) (one_ip _)  (by repeat (first | exact .here | apply Has.there))  (put_all (by rw [ipC_len hip2.len]; rfl)) (by repeat (first | exact .here | apply Upd.there)) ?_); clear F; clear M; intro w M a F)
    with_reducible refine l_nil ?_
    with_reducible refine q_then ?_
    with_reducible refine c_ret ?_
    exact p_ret F rfl (.cons (.cell (F.ev rfl) (run_loadVar_agg TAgg.h (M.heap (.there (.there .here))) e2)) .nil) ⟨ip2, _, rfl, hip2, M.sub (.cons_cons _ (.cons _ (.cons _ (.refl _))))⟩

/-! border -/
def isTime (t : Int) : Bool := decide (0 ≤ t) && decide (t ≤ 1099511627776)
theorem isTime_c (t : Int) (W : World) : Cal Try.prog 39 [.int .i64 t].toArray W fun v w' => v = .bool (isTime t) ∧ Ext [] W w' := by
  unfold isTime
  by_cases h : 0 ≤ t
  · rw [decide_eq_true h, Bool.true_and]
    refine fn_ofM (n := 9) [] Try.func39 rfl rfl rfl ?_
    intro a w F M hwW
    with_reducible refine c_seq ?_
    with_reducible refine c_region ?_
    refine stepD rfl F rfl (o_assign (F.ev rfl) ?_); clear F; clear a; intro a F
    with_reducible refine l_nil ?_
    with_reducible refine q_then ?_
    with_reducible refine c_seq ?_
    with_reducible refine c_region ?_
    refine stepD rfl F rfl (o_move (F.ev rfl) ?_); clear F; clear a; intro a F
    refine stepD rfl F rfl (o_geqT (F.ev rfl) (F.ev rfl) (by omega) ?_); clear F; clear a; intro a F
    refine stepD rfl F rfl (o_move (F.ev rfl) ?_); clear F; clear a; intro a F
    refine stepG rfl F rfl rfl rfl (o_move (F.ev rfl) ?_); clear F; clear a; intro a F
    refine stepG rfl F rfl rfl rfl (o_leq (F.ev rfl) (F.ev rfl) ?_); clear F; clear a; intro a F
    refine stepD rfl F rfl (o_pickT (F.ev rfl) (F.ev rfl) ?_); clear F; clear a; intro a F
    refine stepD rfl F rfl (o_assign (F.ev rfl) ?_); clear F; clear a; intro a F
    with_reducible refine l_nil ?_
    with_reducible refine q_then ?_
    with_reducible refine c_ret ?_
    refine p_ret F rfl (.cons (.tmp (F.ev rfl)) .nil) ?_
    exact ⟨rfl, M.ext⟩
  · rw [decide_eq_false h, Bool.false_and]
    refine fn_ofM (n := 9) [] Try.func39 rfl rfl rfl ?_
    intro a w F M hwW
    with_reducible refine c_seq ?_
    with_reducible refine c_region ?_
    refine stepD rfl F rfl (o_assign (F.ev rfl) ?_); clear F; clear a; intro a F
    with_reducible refine l_nil ?_
    with_reducible refine q_then ?_
    with_reducible refine c_seq ?_
    with_reducible refine c_region ?_
    refine stepD rfl F rfl (o_move (F.ev rfl) ?_); clear F; clear a; intro a F
    refine stepD rfl F rfl (o_geqF (F.ev rfl) (F.ev rfl) (by omega) ?_); clear F; clear a; intro a F
    refine stepD rfl F rfl (o_move (F.ev rfl) ?_); clear F; clear a; intro a F
    refine stepOff F rfl rfl rfl rfl ?_; clear F; clear a; intro a F
    refine stepOff F rfl rfl rfl rfl ?_; clear F; clear a; intro a F
    refine stepD rfl F rfl (o_pickF (F.ev rfl) (F.ev rfl) ?_); clear F; clear a; intro a F
    refine stepD rfl F rfl (o_assign (F.ev rfl) ?_); clear F; clear a; intro a F
    with_reducible refine l_nil ?_
    with_reducible refine q_then ?_
    with_reducible refine c_ret ?_
    refine p_ret F rfl (.cons (.tmp (F.ev rfl)) .nil) ?_
    exact ⟨rfl, M.ext⟩
def laterV (a d : Int) : Int := if 1099511627776 < a + d then 1099511627776 else a + d
theorem later_c (a d : Int) (h0 : 0 ≤ a) (h1 : a ≤ 1099511627776) (d0 : 0 ≤ d) (d1 : d ≤ 1099511627776) (W : World) : Cal Try.prog 40 [.int .i64 a, .int .i64 d].toArray W fun v w' => v = .int .i64 (laterV a d) ∧ Ext [] W w' := by
  refine fn_ofM (n := 9) [] Try.func40 rfl rfl rfl ?_
  intro a w F M hwW
  with_reducible refine c_seq ?_
  with_reducible refine c_region ?_
  refine stepD rfl F rfl (o_assign (F.ev rfl) ?_); clear F; clear a; intro a F
  with_reducible refine l_nil ?_
  with_reducible refine q_then ?_
  with_reducible refine c_seq ?_
  with_reducible refine c_region ?_
  refine stepD rfl F rfl (o_move (F.ev rfl) ?_); clear F; clear a; intro a F
  refine stepD rfl F rfl (o_move (F.ev rfl) ?_); clear F; clear a; intro a F
  refine stepD rfl F rfl (o_add (F.ev rfl) (F.ev rfl) (w_i64 (by omega) (by omega)) ?_); clear F; clear a; intro a F
  refine stepD rfl F rfl (o_min (F.ev rfl) (F.ev rfl) ?_); clear F; clear a; intro a F
  refine stepD rfl F rfl (o_assign (F.ev rfl) ?_); clear F; clear a; intro a F
  with_reducible refine l_nil ?_
  with_reducible refine q_then ?_
  with_reducible refine c_ret ?_
  refine p_ret F rfl (.cons (.tmp (F.ev rfl)) .nil) ?_
  exact ⟨rfl, M.ext⟩
theorem bytesCompare_c {v u : Value} {n m : Nat} {xs ys : List Int} (W : World) (h : SlAt W 1 v n (ipC xs)) (k : SlAt W 1 u m (ipC ys)) (hx : ∀ x ∈ xs, 0 ≤ x ∧ x < 256) (hy : ∀ x ∈ ys, 0 ≤ x ∧ x < 256) :
    Cal Try.prog 77 [v, u].toArray W fun x w' => x = .int .i64 (cmpL xs ys) ∧ Ext [] W w' := by
  refine fn_ofM (n := 8) [] Try.func77 rfl rfl rfl ?_
  intro a w F M hwW
  with_reducible refine c_seq ?_
  with_reducible refine c_region ?_
  refine stepD rfl F rfl (o_assign (F.ev rfl) ?_); clear F; clear a; intro a F
  with_reducible refine l_nil ?_
  with_reducible refine q_then ?_
  with_reducible refine c_seq ?_
  with_reducible refine c_region ?_
  refine stepD rfl F rfl (o_move (F.ev rfl) ?_); clear F; clear a; intro a F
  refine stepD rfl F rfl (o_move (F.ev rfl) ?_); clear F; clear a; intro a F
  (refine stepD rfl F rfl (o_entry (F.ev rfl) Try.func99 (by kernel_rfl) (by kernel_rfl) (by kernel_rfl) (e := Extern.BytealgCompare.compare) (by kernel_rfl) (F.evs rfl) (run_compare (h.later M.ext) (k.later M.ext) hx hy) ?_); clear F; clear a; intro a F)
  refine stepD rfl F rfl (o_assign (F.ev rfl) ?_); clear F; clear a; intro a F
  with_reducible refine l_nil ?_
  with_reducible refine q_then ?_
  with_reducible refine c_ret ?_
  refine p_ret F rfl (.cons (.tmp (F.ev rfl)) .nil) ?_
  exact ⟨rfl, M.ext⟩
theorem compareIP_c (p q : List Int) (hp : IsIP p) (hq : IsIP q) (W : World) : Cal Try.prog 45 [.agg (ipC p).toArray, .agg (ipC q).toArray].toArray W fun x w' => x = .int .i64 (cmpL p q) ∧ Ext [] W w' := by
  have l1 := ipC_len hp.len
  have l2 := ipC_len hq.len
  refine fn_ofM (n := 8) [] Try.func45 rfl rfl rfl ?_
  intro a w F M hwW
  refine c_seq ?_
  refine c_region ?_
  (refine stepD rfl F rfl (o_box M (F.ev rfl) rfl ?_); clear F; clear M; intro b2 w M a F)
  (refine stepD rfl F rfl (o_box M (F.ev rfl) rfl ?_); clear F; clear M; intro b3 w M a F)
  refine stepD rfl F rfl (o_assign (F.ev rfl) ?_); clear F; clear a; intro a F
  with_reducible refine l_nil ?_
  with_reducible refine q_then ?_
  with_reducible refine c_seq ?_
  refine c_draw 3 F (by kernel_rfl) ?_
  intro w1 hE hok
  have M1 := M.later hE
  (refine mK hok rfl rfl (fun a' w' F' E' => o_arrAll (F'.ev rfl) ⟨Ext.refl _ _, rfl⟩) ?_)
  (refine mK hok rfl rfl (fun a' w' F' E' => o_arrAll (F'.ev rfl) ⟨Ext.refl _ _, rfl⟩) ?_)
  (refine mK hok rfl rfl (fun a' w' F' E' => o_call (F'.ev rfl) (F'.evs rfl) (Cal.mono (bytesCompare_c _ (n := 16) (m := 16) ⟨_, _, rfl, by omega, by simp, by omega, fun _ => ⟨b2, 0, ipC p, _, _, rfl, (M1.later E').heap (.there .here), seg_all (by omega)⟩⟩ ⟨_, _, rfl, by omega, by simp, by omega, fun _ => ⟨b3, 0, ipC q, _, _, rfl, (M1.later E').heap .here, seg_all (by omega)⟩⟩ hp.bd hq.bd) fun _ _ hh => ⟨hh.2, hh.1⟩)) ?_)
  (refine mDone rfl rfl ?_; clear F; clear M; intro a w F hE2 hX hTT hDD hPP; have M := M1.later hE2; clear M1; clear hX; clear hE2; clear hok; clear hE; clear hTT; clear hDD; clear hPP; (try dsimp only at F))
  refine stepD rfl F rfl (o_assign (F.ev rfl) ?_); clear F; clear a; intro a F
  with_reducible refine l_nil ?_
  with_reducible refine q_then ?_
  with_reducible refine c_ret ?_
  refine p_ret F rfl (.cons (.tmp (F.ev rfl)) .nil) ?_
  exact ⟨rfl, M.ext⟩
def overlapP (p : List Int) (n : Int) (q : List Int) (m : Int) : Bool := coversP p n q m || coversP q m p n
theorem overlap_c (p : List Int) (n : Int) (hp : p.length = 16) (q : List Int) (m : Int) (hq : q.length = 16) (W : World) : Cal Try.prog 49 [.agg (pfC p n).toArray, .agg (pfC q m).toArray].toArray W fun x w' => x = .bool (overlapP p n q m) ∧ Ext [] W w' := by
  have e1 := seg_pf hp n
  have e2 := seg_pf hq m
  unfold overlapP
  cases hc : coversP p n q m
  · refine fn_ofM (n := 13) [] Try.func49 rfl rfl rfl ?_
    intro a w F M hwW
    refine c_seq ?_
    refine c_region ?_
    (refine stepD rfl F rfl (o_box M (F.ev rfl) rfl ?_); clear F; clear M; intro b2 w M a F)
    (refine stepD rfl F rfl (o_box M (F.ev rfl) rfl ?_); clear F; clear M; intro b3 w M a F)
    refine stepD rfl F rfl (o_assign (F.ev rfl) ?_); clear F; clear a; intro a F
    with_reducible refine l_nil ?_
    with_reducible refine q_then ?_
    with_reducible refine c_seq ?_
    with_reducible refine c_region ?_
    refine stepD rfl F rfl (o_loadA M (F.ev rfl) (by repeat (first | exact .here | apply Has.there)) (by first | assumption | rfl) ?_); clear F; clear a; intro a F
    refine stepD rfl F rfl (o_loadA M (F.ev rfl) (by repeat (first | exact .here | apply Has.there)) (by first | assumption | rfl) ?_); clear F; clear a; intro a F
    (refine stepD rfl F rfl (o_call (F.ev rfl) (F.evs rfl) (Cal.mono (covers_c p n hp q m hq _) ?_)); clear F; clear a; rintro _ w ⟨rfl, hE⟩ a F; replace M := M.later hE; clear hE)
    rw [hc] at F
    refine stepD rfl F rfl (o_move (F.ev rfl) ?_); clear F; clear a; intro a F
    refine stepG rfl F rfl rfl rfl (o_loadA M (F.ev rfl) (by repeat (first | exact .here | apply Has.there)) (by first | assumption | rfl) ?_); clear F; clear a; intro a F
    refine stepG rfl F rfl rfl rfl (o_loadA M (F.ev rfl) (by repeat (first | exact .here | apply Has.there)) (by first | assumption | rfl) ?_); clear F; clear a; intro a F
    (refine stepG rfl F rfl rfl rfl (o_call (F.ev rfl) (F.evs rfl) (Cal.mono (covers_c q m hq p n hp _) ?_)); clear F; clear a; rintro _ w ⟨rfl, hE⟩ a F; replace M := M.later hE; clear hE)
    refine stepD rfl F rfl (o_pickF (F.ev rfl) (F.ev rfl) ?_); clear F; clear a; intro a F
    refine stepD rfl F rfl (o_assign (F.ev rfl) ?_); clear F; clear a; intro a F
    with_reducible refine l_nil ?_
    with_reducible refine q_then ?_
    with_reducible refine c_ret ?_
    refine p_ret F rfl (.cons (.tmp (F.ev rfl)) .nil) ?_
    exact ⟨rfl, M.ext⟩
  · refine fn_ofM (n := 13) [] Try.func49 rfl rfl rfl ?_
    intro a w F M hwW
    refine c_seq ?_
    refine c_region ?_
    (refine stepD rfl F rfl (o_box M (F.ev rfl) rfl ?_); clear F; clear M; intro b2 w M a F)
    (refine stepD rfl F rfl (o_box M (F.ev rfl) rfl ?_); clear F; clear M; intro b3 w M a F)
    refine stepD rfl F rfl (o_assign (F.ev rfl) ?_); clear F; clear a; intro a F
    with_reducible refine l_nil ?_
    with_reducible refine q_then ?_
    with_reducible refine c_seq ?_
    with_reducible refine c_region ?_
    refine stepD rfl F rfl (o_loadA M (F.ev rfl) (by repeat (first | exact .here | apply Has.there)) (by first | assumption | rfl) ?_); clear F; clear a; intro a F
    refine stepD rfl F rfl (o_loadA M (F.ev rfl) (by repeat (first | exact .here | apply Has.there)) (by first | assumption | rfl) ?_); clear F; clear a; intro a F
    (refine stepD rfl F rfl (o_call (F.ev rfl) (F.evs rfl) (Cal.mono (covers_c p n hp q m hq _) ?_)); clear F; clear a; rintro _ w ⟨rfl, hE⟩ a F; replace M := M.later hE; clear hE)
    rw [hc] at F
    refine stepD rfl F rfl (o_move (F.ev rfl) ?_); clear F; clear a; intro a F
    refine stepOff F rfl rfl rfl rfl ?_; clear F; clear a; intro a F
    refine stepOff F rfl rfl rfl rfl ?_; clear F; clear a; intro a F
    refine stepOff F rfl rfl rfl rfl ?_; clear F; clear a; intro a F
    refine stepD rfl F rfl (o_pickT (F.ev rfl) (F.ev rfl) ?_); clear F; clear a; intro a F
    refine stepD rfl F rfl (o_assign (F.ev rfl) ?_); clear F; clear a; intro a F
    with_reducible refine l_nil ?_
    with_reducible refine q_then ?_
    with_reducible refine c_ret ?_
    refine p_ret F rfl (.cons (.tmp (F.ev rfl)) .nil) ?_
    exact ⟨rfl, M.ext⟩
theorem meet_c (p : List Int) (n : Int) (hp : IsIP p) (q : List Int) (m : Int) (hq : IsIP q) (W : World) : Cal Try.prog 16 [.agg (pfC p n).toArray, .agg (pfC q m).toArray].toArray W fun x w' => x = .bool (overlapP p n q m) ∧ Ext [] W w' := by
  have e1 := seg_pf hp.len n
  have e2 := seg_pf hq.len m
  unfold overlapP
  cases hc : coversP p n q m
  · refine fn_ofM (n := 13) [] Try.func16 rfl rfl rfl ?_
    intro a w F M hwW
    refine c_seq ?_
    refine c_region ?_
    (refine stepD rfl F rfl (o_box M (F.ev rfl) rfl ?_); clear F; clear M; intro b2 w M a F)
    (refine stepD rfl F rfl (o_box M (F.ev rfl) rfl ?_); clear F; clear M; intro b3 w M a F)
    refine stepD rfl F rfl (o_assign (F.ev rfl) ?_); clear F; clear a; intro a F
    with_reducible refine l_nil ?_
    with_reducible refine q_then ?_
    with_reducible refine c_seq ?_
    with_reducible refine c_region ?_
    refine stepD rfl F rfl (o_loadA M (F.ev rfl) (by repeat (first | exact .here | apply Has.there)) (by first | assumption | rfl) ?_); clear F; clear a; intro a F
    refine stepD rfl F rfl (o_loadA M (F.ev rfl) (by repeat (first | exact .here | apply Has.there)) (by first | assumption | rfl) ?_); clear F; clear a; intro a F
    (refine stepD rfl F rfl (o_call (F.ev rfl) (F.evs rfl) (Cal.mono (rcovers_c p n hp q m hq _) ?_)); clear F; clear a; rintro _ w ⟨rfl, hE⟩ a F; replace M := M.later hE; clear hE)
    rw [hc] at F
    refine stepD rfl F rfl (o_move (F.ev rfl) ?_); clear F; clear a; intro a F
    refine stepG rfl F rfl rfl rfl (o_loadA M (F.ev rfl) (by repeat (first | exact .here | apply Has.there)) (by first | assumption | rfl) ?_); clear F; clear a; intro a F
    refine stepG rfl F rfl rfl rfl (o_loadA M (F.ev rfl) (by repeat (first | exact .here | apply Has.there)) (by first | assumption | rfl) ?_); clear F; clear a; intro a F
    (refine stepG rfl F rfl rfl rfl (o_call (F.ev rfl) (F.evs rfl) (Cal.mono (rcovers_c q m hq p n hp _) ?_)); clear F; clear a; rintro _ w ⟨rfl, hE⟩ a F; replace M := M.later hE; clear hE)
    refine stepD rfl F rfl (o_pickF (F.ev rfl) (F.ev rfl) ?_); clear F; clear a; intro a F
    refine stepD rfl F rfl (o_assign (F.ev rfl) ?_); clear F; clear a; intro a F
    with_reducible refine l_nil ?_
    with_reducible refine q_then ?_
    with_reducible refine c_ret ?_
    refine p_ret F rfl (.cons (.tmp (F.ev rfl)) .nil) ?_
    exact ⟨rfl, M.ext⟩
  · refine fn_ofM (n := 13) [] Try.func16 rfl rfl rfl ?_
    intro a w F M hwW
    refine c_seq ?_
    refine c_region ?_
    (refine stepD rfl F rfl (o_box M (F.ev rfl) rfl ?_); clear F; clear M; intro b2 w M a F)
    (refine stepD rfl F rfl (o_box M (F.ev rfl) rfl ?_); clear F; clear M; intro b3 w M a F)
    refine stepD rfl F rfl (o_assign (F.ev rfl) ?_); clear F; clear a; intro a F
    with_reducible refine l_nil ?_
    with_reducible refine q_then ?_
    with_reducible refine c_seq ?_
    with_reducible refine c_region ?_
    refine stepD rfl F rfl (o_loadA M (F.ev rfl) (by repeat (first | exact .here | apply Has.there)) (by first | assumption | rfl) ?_); clear F; clear a; intro a F
    refine stepD rfl F rfl (o_loadA M (F.ev rfl) (by repeat (first | exact .here | apply Has.there)) (by first | assumption | rfl) ?_); clear F; clear a; intro a F
    (refine stepD rfl F rfl (o_call (F.ev rfl) (F.evs rfl) (Cal.mono (rcovers_c p n hp q m hq _) ?_)); clear F; clear a; rintro _ w ⟨rfl, hE⟩ a F; replace M := M.later hE; clear hE)
    rw [hc] at F
    refine stepD rfl F rfl (o_move (F.ev rfl) ?_); clear F; clear a; intro a F
    refine stepOff F rfl rfl rfl rfl ?_; clear F; clear a; intro a F
    refine stepOff F rfl rfl rfl rfl ?_; clear F; clear a; intro a F
    refine stepOff F rfl rfl rfl rfl ?_; clear F; clear a; intro a F
    refine stepD rfl F rfl (o_pickT (F.ev rfl) (F.ev rfl) ?_); clear F; clear a; intro a F
    refine stepD rfl F rfl (o_assign (F.ev rfl) ?_); clear F; clear a; intro a F
    with_reducible refine l_nil ?_
    with_reducible refine q_then ?_
    with_reducible refine c_ret ?_
    refine p_ret F rfl (.cons (.tmp (F.ev rfl)) .nil) ?_
    exact ⟨rfl, M.ext⟩

theorem shr_ones : ∀ n : Fin 65, Int.fdiv 18446744073709551615 (2 ^ min (n.val : Int).toNat 64) = ((2 ^ (64 - n.val) - 1 : Nat) : Int) := by decide +kernel
/-- the first and the last number of the first 64 bits of a prefix' addresses -/
def net (p : List Int) : Int := beN (p.take 8)
def lastOf (p : List Int) (n : Nat) : Int := net p + (2 ^ (64 - n) - 1 : Nat)
theorem block_c (p : List Int) (hp : IsIP p) (n : Nat) (hn : n ≤ 64) (q : Nat) (hq : net p = ((2 ^ (64 - n) * q : Nat) : Int)) (hq2 : 2 ^ (64 - n) * q + (2 ^ (64 - n) - 1) < 18446744073709551616) (W : World) :
    Cal Try.prog 75 [.agg (pfC p n).toArray].toArray W fun x w' => x = .tuple #[.int .u64 (net p), .int .u64 (lastOf p n)] ∧ Ext [] W w' := by
  have e0 : seg (pfC p n) 0 16 = some (ipC p) := seg_pf0 hp.len n
  have e1 : nth (pfC p n) 16 = some (.int .i64 n) := by
    obtain ⟨x0, x1, x2, x3, x4, x5, x6, x7, x8, x9, x10, x11, x12, x13, x14, x15, rfl⟩ := len16 hp.len
    rfl
  have s1 := shr_ones ⟨n, by omega⟩
  dsimp only at s1
  refine fn_ofM (n := 18) [] Try.func75 rfl rfl rfl ?_
  intro a w F M hwW
  refine c_seq ?_
  refine c_region ?_
  (refine stepD rfl F rfl (o_box M (F.ev rfl) rfl ?_); clear F; clear M; intro b1 w M a F)
  refine stepD rfl F rfl (o_assign (F.ev rfl) ?_); clear F; clear a; intro a F
  refine stepD rfl F rfl (o_assign (F.ev rfl) ?_); clear F; clear a; intro a F
  with_reducible refine l_nil ?_
  with_reducible refine q_then ?_
  with_reducible refine c_seq ?_
  with_reducible refine c_region ?_
  refine stepD rfl F rfl (o_fieldAddr (F.ev rfl) ?_); clear F; clear a; intro a F
  refine stepD rfl F rfl (o_loadA M (F.ev rfl) (by repeat (first | exact .here | apply Has.there)) (by first | assumption | rfl) ?_); clear F; clear a; intro a F
  (refine stepD rfl F rfl (o_call (F.ev rfl) (F.evs rfl) (Cal.mono (split_c p hp _) ?_)); clear F; clear a; rintro _ w ⟨rfl, hE⟩ a F; replace M := M.later hE; clear hE)
  refine stepD rfl F rfl (o_move (F.ev rfl) ?_); clear F; clear a; intro a F
  refine stepD rfl F rfl (o_extract (F.ev rfl) rfl ?_); clear F; clear a; intro a F
  refine stepD rfl F rfl (o_extract (F.ev rfl) rfl ?_); clear F; clear a; intro a F
  refine stepD rfl F rfl (o_assign (F.ev rfl) ?_); clear F; clear a; intro a F
  refine stepD rfl F rfl (o_assign (F.ev rfl) ?_); clear F; clear a; intro a F
  with_reducible refine l_nil ?_
  with_reducible refine q_then ?_
  with_reducible refine c_seq ?_
  replace F := F.only [0, 1, 4, 5] rfl
  refine c_draw 7 F (by kernel_rfl) ?_
  intro w1 hE hok
  have M1 := M.later hE
  refine mK hok rfl rfl (fun a' w' F' E' => o_move (F'.ev rfl) ⟨Ext.refl _ _, rfl⟩) ?_
  refine mK hok rfl rfl (fun a' w' F' E' => o_move (F'.ev rfl) ⟨Ext.refl _ _, rfl⟩) ?_
  refine mK hok rfl rfl (fun a' w' F' E' => o_fieldAddr (F'.ev rfl) ⟨Ext.refl _ _, rfl⟩) ?_
  refine mK hok rfl rfl (fun a' w' F' E' => o_load1 (M1.later E') (F'.ev rfl) (by repeat (first | exact .here | apply Has.there)) (by first | assumption | rfl) ⟨Ext.refl _ _, rfl⟩) ?_
  refine mK hok rfl rfl (fun a' w' F' E' => o_shr (F'.ev rfl) (F'.ev rfl) (by omega) rfl ⟨Ext.refl _ _, rfl⟩) ?_
  refine mK hok rfl rfl (fun a' w' F' E' => o_or (F'.ev rfl) (F'.ev rfl) rfl ⟨Ext.refl _ _, rfl⟩) ?_
  refine mK hok rfl rfl (fun a' w' F' E' => o_assign (F'.ev rfl) ⟨Ext.refl _ _, rfl⟩) ?_
  (refine mDone rfl rfl ?_; clear F; clear M; intro a w F hE2 hX hTT hDD hPP; have M := M1.later hE2; clear M1; clear hX; clear hE2; clear hok; clear hE; clear hTT; clear hDD; clear hPP; (try dsimp only at F))
  refine stepD rfl F rfl (o_assign (F.ev rfl) ?_); clear F; clear a; intro a F
  with_reducible refine l_nil ?_
  with_reducible refine q_then ?_
  with_reducible refine c_ret ?_
  have s2 : bitsOf .or .u64 (beN (p.take 8)) (Int.fdiv 18446744073709551615 (2 ^ min (n : Int).toNat IntKind.u64.bits)) = lastOf p n := by
    have hpos := Nat.two_pow_pos (64 - n)
    rw [show IntKind.u64.bits = 64 from rfl, s1, show beN (p.take 8) = net p from rfl, hq, or_add rfl _ _ _ (by omega) (by show _ < 18446744073709551616; omega)]
    unfold lastOf
    rw [hq]
    omega
  rw [s2] at F
  refine p_ret F rfl (.cons (.tmp (F.ev rfl)) (.cons (.tmp (F.ev rfl)) .nil)) ?_
  exact ⟨rfl, M.ext⟩
end Go.Proofs.Ytainnefmobfcjaa

/-! E1 -/
/-
  border: leases; slices.IndexFunc over them and the closures that it is handed.
-/
namespace Go.Proofs.Ytainnefmobfcjaa
set_option linter.unusedVariables false
set_option linter.unusedSimpArgs false
open Go.RowKit
attribute [local irreducible] OpTo wpListIn Code.wpIn MW Cal

structure Lease where
  ip : List Int
  bits : Int
  own : Int
  til : Int
/-- the cells of a lease -/
def leC (l : Lease) : List Value := pfC l.ip l.bits ++ [.int .u64 l.own, .int .i64 l.til]
theorem leC_len {l : Lease} (h : l.ip.length = 16) : (leC l).length = 19 := by simp [leC, pfC_len h]
theorem leC_form {l : Lease} (h : l.ip.length = 16) : ∃ x0 x1 x2 x3 x4 x5 x6 x7 x8 x9 x10 x11 x12 x13 x14 x15, l.ip = [x0, x1, x2, x3, x4, x5, x6, x7, x8, x9, x10, x11, x12, x13, x14, x15] := len16 h
theorem le_pf {l : Lease} (h : l.ip.length = 16) : seg (leC l) 0 17 = some (pfC l.ip l.bits) := by
  obtain ⟨ip, bits, own, til⟩ := l
  obtain ⟨x0, x1, x2, x3, x4, x5, x6, x7, x8, x9, x10, x11, x12, x13, x14, x15, rfl⟩ := len16 h
  rfl
theorem le_ip {l : Lease} (h : l.ip.length = 16) : seg (leC l) 0 16 = some (ipC l.ip) := by
  obtain ⟨ip, bits, own, til⟩ := l
  obtain ⟨x0, x1, x2, x3, x4, x5, x6, x7, x8, x9, x10, x11, x12, x13, x14, x15, rfl⟩ := len16 h
  rfl
theorem le_bits {l : Lease} (h : l.ip.length = 16) : nth (leC l) 16 = some (.int .i64 l.bits) := by
  obtain ⟨ip, bits, own, til⟩ := l
  obtain ⟨x0, x1, x2, x3, x4, x5, x6, x7, x8, x9, x10, x11, x12, x13, x14, x15, rfl⟩ := len16 h
  rfl
theorem le_own {l : Lease} (h : l.ip.length = 16) : nth (leC l) 17 = some (.int .u64 l.own) := by
  obtain ⟨ip, bits, own, til⟩ := l
  obtain ⟨x0, x1, x2, x3, x4, x5, x6, x7, x8, x9, x10, x11, x12, x13, x14, x15, rfl⟩ := len16 h
  rfl
theorem le_til {l : Lease} (h : l.ip.length = 16) : nth (leC l) 18 = some (.int .i64 l.til) := by
  obtain ⟨ip, bits, own, til⟩ := l
  obtain ⟨x0, x1, x2, x3, x4, x5, x6, x7, x8, x9, x10, x11, x12, x13, x14, x15, rfl⟩ := len16 h
  rfl
theorem le_one (l : Lease) : (leC l).all (·.oneCell') = true := by
  simp [leC, pfC, ipC, Value.oneCell']
def IsLe (l : Lease) : Prop := IsIP l.ip
abbrev lesC (ls : List Lease) : List Value := encL leC ls
theorem les_len {ls : List Lease} (h : ∀ l ∈ ls, IsLe l) : ∀ l ∈ ls, (leC l).length = 19 := fun l hl => leC_len (h l hl).len

/-- the first place where p holds, or -1 -/
def findI {α : Type} (p : α → Bool) (ls : List α) : Int := match ls.findIdx? p with | some i => i | none => -1
theorem findI_at {α : Type} {p : α → Bool} {ls : List α} {i : Nat} (hi : i < ls.length) (h : p ls[i] = true) (hn : ∀ j (hj : j < i), p ls[j] = false) : findI p ls = i := by
  have : ls.findIdx? p = some i := List.findIdx?_eq_some_iff_getElem.2 ⟨hi, h, fun j hj => by simp [hn j hj]⟩
  simp [findI, this]
theorem findI_none {α : Type} {p : α → Bool} {ls : List α} (hn : ∀ j (hj : j < ls.length), p ls[j] = false) : findI p ls = -1 := by
  have : ls.findIdx? p = none := List.findIdx?_eq_none_iff.2 fun x hx => by
    obtain ⟨j, hj, rfl⟩ := List.mem_iff_getElem.1 hx
    exact hn j hj
  simp [findI, this]
theorem findI_cases {α : Type} (p : α → Bool) (ls : List α) : (findI p ls = -1 ∧ ∀ x ∈ ls, p x = false) ∨ (∃ i, ∃ hi : i < ls.length, findI p ls = i ∧ p ls[i] = true ∧ ∀ j (hj : j < i), p ls[j] = false) := by
  unfold findI
  cases h : ls.findIdx? p with
  | none => exact .inl ⟨rfl, fun x hx => List.findIdx?_eq_none_iff.1 h x hx⟩
  | some i =>
    obtain ⟨h1, h2, h3⟩ := List.findIdx?_eq_some_iff_getElem.1 h
    exact .inr ⟨i, h1, rfl, h2, fun j hj => by simpa using h3 j hj⟩

set_option maxHeartbeats 1000000 in
theorem index_c {v : Value} {ls : List Lease} (W : World) (hS : SlAt W 19 v ls.length (lesC ls)) (hls : ∀ l ∈ ls, IsLe l) (hlen : ls.length ≤ 1000) (g : FuncId) [hg : TBody Try.prog g] (caps : List Value) (p : Lease → Bool)
    (hcl : ∀ w l, Ext [] W w → l ∈ ls → Cal Try.prog g (.agg (leC l).toArray :: caps).toArray w fun v w' => v = .bool (p l) ∧ Ext [] w w') :
    Cal Try.prog 41 [v, .func (.func g) #[] caps.toArray].toArray W fun x w' => x = .int .i64 (findI p ls) ∧ Ext [] W w' := by
  obtain ⟨q, cap, rfl, hcap, hsp, hl, hm⟩ := hS
  refine fn_ofM (n := 19) [] Try.func41 rfl rfl rfl ?_
  intro a w F M hwW
  with_reducible refine c_seq ?_
  with_reducible refine c_region ?_
  refine stepD rfl F rfl (o_assign (F.ev rfl) ?_); clear F; clear a; intro a F
  with_reducible refine l_nil ?_
  with_reducible refine q_then ?_
  with_reducible refine c_seq ?_
  with_reducible refine c_seq ?_
  with_reducible refine c_region ?_
  refine stepD rfl F rfl (o_move (F.ev rfl) ?_); clear F; clear a; intro a F
  refine stepD rfl F rfl (o_lenSl (F.ev rfl) ?_); clear F; clear a; intro a F
  refine stepD rfl F rfl (o_move (F.ev rfl) ?_); clear F; clear a; intro a F
  with_reducible refine l_nil ?_
  with_reducible refine q_then ?_
  with_reducible refine c_block ?_
  refine c_loop (fun k a w => ∃ i : Nat, k = ls.length - i ∧ i ≤ ls.length ∧ (∀ j (hj : j < i) (hj2 : j < ls.length), p ls[j] = false) ∧ Frm a 19 [] [(8, .int .i64 i), (7, .int .i64 ls.length), (0, .slice q ls.length cap), (1, .func (.func g) #[] caps.toArray)] ∧ Mem [] W w []) ls.length ⟨0, rfl, by omega, by omega, F.only [8, 7, 0, 1] rfl, M⟩ ?_
  clear F M
  rintro k a w ⟨i, hk, hi, hno, F, M⟩
  by_cases hlt : i < ls.length
  · obtain ⟨b, o, cs, t, fz, rfl, hb, hs⟩ := hm (by omega)
    have e1 : seg cs (o + (i : Int).toNat * 19) 19 = some (leC ls[i]) := seg_el (les_len hls) hs hlt (by omega)
    with_reducible refine c_seq ?_
    with_reducible refine c_region ?_
    refine stepD rfl F rfl (o_lssT (F.ev rfl) (F.ev rfl) (by omega) ?_); clear F; clear a; intro a F
    with_reducible refine l_nil ?_
    with_reducible refine q_then ?_
    with_reducible refine c_seq ?_
    refine c_true F rfl rfl ?_
    with_reducible refine c_skip ?_
    with_reducible refine q_then ?_
    with_reducible refine c_seq ?_
    with_reducible refine c_block ?_
    with_reducible refine c_seq ?_
    with_reducible refine c_region ?_
    refine stepD rfl F rfl (o_move (F.ev rfl) ?_); clear F; clear a; intro a F
    refine stepD rfl F rfl (o_assign (F.ev rfl) ?_); clear F; clear a; intro a F
    with_reducible refine l_nil ?_
    with_reducible refine q_then ?_
    with_reducible refine c_seq ?_
    with_reducible refine c_region ?_
    refine stepD rfl F rfl (o_move (F.ev rfl) ?_); clear F; clear a; intro a F
    refine stepD rfl F rfl (o_move (F.ev rfl) ?_); clear F; clear a; intro a F
    refine stepD rfl F rfl (o_move (F.ev rfl) ?_); clear F; clear a; intro a F
    refine stepD rfl F rfl (o_indexSl (F.ev rfl) (F.ev rfl) (by omega) (by omega) ?_); clear F; clear a; intro a F
    refine stepD rfl F rfl (o_loadWA M (F.ev rfl) (by assumption) (by first | assumption | rfl) ?_); clear F; clear a; intro a F
    (refine stepD rfl F rfl (o_callCl (us := (.agg (leC ls[i]).toArray :: caps).toArray) (F.ev rfl) (F.evs rfl) (by simp) (Cal.mono (hcl _ ls[i] M.ext (List.getElem_mem hlt)) ?_)); clear F; clear a; rintro _ w ⟨rfl, hE⟩ a F; replace M := M.later hE; clear hE)
    cases hp : p ls[i]
    · rw [hp] at F
      with_reducible refine l_nil ?_
      with_reducible refine q_then ?_
      refine c_false F rfl rfl ?_
      with_reducible refine c_skip ?_
      with_reducible refine q_inB ?_
      with_reducible refine q_then ?_
      with_reducible refine c_region ?_
      refine stepD rfl F rfl (o_add (F.ev rfl) (F.ev rfl) (w_i64 (by omega) (by omega)) ?_); clear F; clear a; intro a F
      refine stepD rfl F rfl (o_move (F.ev rfl) ?_); clear F; clear a; intro a F
      with_reducible refine l_nil ?_
      with_reducible refine q_then ?_
      exact ⟨_, by omega, i + 1, rfl, by omega, fun j hj hj2 => by
        rcases Nat.lt_or_ge j i with h | h
        · exact hno j h hj2
        · obtain rfl : j = i := by omega
          exact hp, F.only [8, 7, 0, 1] rfl, M⟩
    · rw [hp] at F
      with_reducible refine l_nil ?_
      with_reducible refine q_then ?_
      refine c_true F rfl rfl ?_
      with_reducible refine c_seq ?_
      with_reducible refine c_region ?_
      refine stepD rfl F rfl (o_move (F.ev rfl) ?_); clear F; clear a; intro a F
      refine stepD rfl F rfl (o_assign (F.ev rfl) ?_); clear F; clear a; intro a F
      with_reducible refine l_nil ?_
      with_reducible refine q_then ?_
      with_reducible refine c_ret ?_
      with_reducible refine q_inBR ?_
      with_reducible refine q_thenR ?_
      with_reducible refine q_thenR ?_
      with_reducible refine q_inBR ?_
      with_reducible refine q_thenR ?_
      refine p_ret F rfl (.cons (.tmp (F.ev rfl)) .nil) ?_
      exact ⟨by rw [findI_at hlt hp fun j hj => hno j hj (by omega)]; rfl, M.ext⟩
  · obtain rfl : i = ls.length := by omega
    with_reducible refine c_seq ?_
    with_reducible refine c_region ?_
    refine stepD rfl F rfl (o_lssF (F.ev rfl) (F.ev rfl) (by omega) ?_); clear F; clear a; intro a F
    with_reducible refine l_nil ?_
    with_reducible refine q_then ?_
    with_reducible refine c_seq ?_
    refine c_false F rfl rfl ?_
    with_reducible refine c_exit ?_
    with_reducible refine q_thenX ?_
    with_reducible refine q_thenX ?_
    with_reducible refine q_inBX ?_
    with_reducible refine q_then ?_
    with_reducible refine c_seq ?_
    with_reducible refine c_region ?_
    refine stepD rfl F rfl (o_assign (F.ev rfl) ?_); clear F; clear a; intro a F
    with_reducible refine l_nil ?_
    with_reducible refine q_then ?_
    with_reducible refine c_ret ?_
    refine p_ret F rfl (.cons (.tmp (F.ev rfl)) .nil) ?_
    exact ⟨by rw [findI_none fun j hj => hno j hj hj]; rfl, M.ext⟩

theorem del1_c (l : Lease) (hl : IsLe l) (own bits : Int) {b7 b8 : Nat} {t7 t8 : TypeId} {z7 z8 : Nat × Nat} (W : World) (h7 : W.heap[b7]? = some (.cells [Value.int .u64 own].toArray t7 z7)) (h8 : W.heap[b8]? = some (.cells [Value.int .i64 bits].toArray t8 z8)) :
    Cal Try.prog 42 [.agg (leC l).toArray, .pointer (some ⟨b7, 0, none⟩), .pointer (some ⟨b8, 0, none⟩)].toArray W fun x w' => x = .bool (l.own == own && l.bits == bits) ∧ Ext [] W w' := by
  have e1 := le_own hl.len
  have e2 := le_bits hl.len
  have l1 := leC_len hl.len
  by_cases hc : l.own = own
  · rw [beq_iff_eq.2 hc, Bool.true_and]
    refine fn_ofM (n := 16) [] Try.func42 rfl rfl rfl ?_
    intro a w F M hwW
    refine c_seq ?_
    refine c_region ?_
    (refine stepD rfl F rfl (o_box M (F.ev rfl) rfl ?_); clear F; clear M; intro b3 w M a F)
    refine stepD rfl F rfl (o_assign (F.ev rfl) ?_); clear F; clear a; intro a F
    with_reducible refine l_nil ?_
    with_reducible refine q_then ?_
    with_reducible refine c_seq ?_
    with_reducible refine c_region ?_
    refine stepD rfl F rfl (o_fieldAddr (F.ev rfl) ?_); clear F; clear a; intro a F
    refine stepD rfl F rfl (o_load1 M (F.ev rfl) (by repeat (first | exact .here | apply Has.there)) (by first | assumption | rfl) ?_); clear F; clear a; intro a F
    refine stepD rfl F rfl (o_loadW1 M (F.ev rfl) (by assumption) (by first | assumption | rfl) ?_); clear F; clear a; intro a F
    refine stepD rfl F rfl (o_eqlT (F.ev rfl) (F.ev rfl) (by omega) ?_); clear F; clear a; intro a F
    refine stepD rfl F rfl (o_move (F.ev rfl) ?_); clear F; clear a; intro a F
    refine stepG rfl F rfl rfl rfl (o_fieldAddr (F.ev rfl) ?_); clear F; clear a; intro a F
    refine stepG rfl F rfl rfl rfl (o_fieldAddr (F.ev rfl) ?_); clear F; clear a; intro a F
    refine stepG rfl F rfl rfl rfl (o_load1 M (F.ev rfl) (by repeat (first | exact .here | apply Has.there)) (by first | assumption | rfl) ?_); clear F; clear a; intro a F
    refine stepG rfl F rfl rfl rfl (o_loadW1 M (F.ev rfl) (by assumption) (by first | assumption | rfl) ?_); clear F; clear a; intro a F
    refine stepG rfl F rfl rfl rfl (o_eql (F.ev rfl) (F.ev rfl) ?_); clear F; clear a; intro a F
    refine stepD rfl F rfl (o_pickT (F.ev rfl) (F.ev rfl) ?_); clear F; clear a; intro a F
    refine stepD rfl F rfl (o_assign (F.ev rfl) ?_); clear F; clear a; intro a F
    with_reducible refine l_nil ?_
    with_reducible refine q_then ?_
    with_reducible refine c_ret ?_
    refine p_ret F rfl (.cons (.tmp (F.ev rfl)) .nil) ?_
    exact ⟨rfl, M.ext⟩
  · rw [beq_eq_false_iff_ne.2 hc, Bool.false_and]
    refine fn_ofM (n := 16) [] Try.func42 rfl rfl rfl ?_
    intro a w F M hwW
    refine c_seq ?_
    refine c_region ?_
    (refine stepD rfl F rfl (o_box M (F.ev rfl) rfl ?_); clear F; clear M; intro b3 w M a F)
    refine stepD rfl F rfl (o_assign (F.ev rfl) ?_); clear F; clear a; intro a F
    with_reducible refine l_nil ?_
    with_reducible refine q_then ?_
    with_reducible refine c_seq ?_
    with_reducible refine c_region ?_
    refine stepD rfl F rfl (o_fieldAddr (F.ev rfl) ?_); clear F; clear a; intro a F
    refine stepD rfl F rfl (o_load1 M (F.ev rfl) (by repeat (first | exact .here | apply Has.there)) (by first | assumption | rfl) ?_); clear F; clear a; intro a F
    refine stepD rfl F rfl (o_loadW1 M (F.ev rfl) (by assumption) (by first | assumption | rfl) ?_); clear F; clear a; intro a F
    refine stepD rfl F rfl (o_eqlF (F.ev rfl) (F.ev rfl) (by omega) ?_); clear F; clear a; intro a F
    refine stepD rfl F rfl (o_move (F.ev rfl) ?_); clear F; clear a; intro a F
    refine stepOff F rfl rfl rfl rfl ?_; clear F; clear a; intro a F
    refine stepOff F rfl rfl rfl rfl ?_; clear F; clear a; intro a F
    refine stepOff F rfl rfl rfl rfl ?_; clear F; clear a; intro a F
    refine stepOff F rfl rfl rfl rfl ?_; clear F; clear a; intro a F
    refine stepOff F rfl rfl rfl rfl ?_; clear F; clear a; intro a F
    refine stepD rfl F rfl (o_pickF (F.ev rfl) (F.ev rfl) ?_); clear F; clear a; intro a F
    refine stepD rfl F rfl (o_assign (F.ev rfl) ?_); clear F; clear a; intro a F
    with_reducible refine l_nil ?_
    with_reducible refine q_then ?_
    with_reducible refine c_ret ?_
    refine p_ret F rfl (.cons (.tmp (F.ev rfl)) .nil) ?_
    exact ⟨rfl, M.ext⟩
theorem free1_c (l : Lease) (hl : IsLe l) (p : List Int) (n : Int) (hp : p.length = 16) {b1 : Nat} {t1 : TypeId} {z1 : Nat × Nat} (W : World) (h1 : W.heap[b1]? = some (.cells (pfC p n).toArray t1 z1)) :
    Cal Try.prog 76 [.agg (leC l).toArray, .pointer (some ⟨b1, 0, none⟩)].toArray W fun x w' => x = .bool (overlapP l.ip l.bits p n) ∧ Ext [] W w' := by
  have e1 := le_pf hl.len
  have e2 := seg_pf hp n
  refine fn_ofM (n := 8) [] Try.func76 rfl rfl rfl ?_
  intro a w F M hwW
  refine c_seq ?_
  refine c_region ?_
  (refine stepD rfl F rfl (o_box M (F.ev rfl) rfl ?_); clear F; clear M; intro b2 w M a F)
  refine stepD rfl F rfl (o_assign (F.ev rfl) ?_); clear F; clear a; intro a F
  with_reducible refine l_nil ?_
  with_reducible refine q_then ?_
  with_reducible refine c_seq ?_
  with_reducible refine c_region ?_
  refine stepD rfl F rfl (o_fieldAddr (F.ev rfl) ?_); clear F; clear a; intro a F
  refine stepD rfl F rfl (o_loadA M (F.ev rfl) (by repeat (first | exact .here | apply Has.there)) (by first | assumption | rfl) ?_); clear F; clear a; intro a F
  refine stepD rfl F rfl (o_loadWA M (F.ev rfl) (by assumption) (by first | assumption | rfl) ?_); clear F; clear a; intro a F
  (refine stepD rfl F rfl (o_call (F.ev rfl) (F.evs rfl) (Cal.mono (overlap_c l.ip l.bits hl.len p n hp _) ?_)); clear F; clear a; rintro _ w ⟨rfl, hE⟩ a F; replace M := M.later hE; clear hE)
  refine stepD rfl F rfl (o_assign (F.ev rfl) ?_); clear F; clear a; intro a F
  with_reducible refine l_nil ?_
  with_reducible refine q_then ?_
  with_reducible refine c_ret ?_
  refine p_ret F rfl (.cons (.tmp (F.ev rfl)) .nil) ?_
  exact ⟨rfl, M.ext⟩
theorem del2_c (l : Lease) (hl : IsLe l) (p : List Int) (n : Int) (hp : IsIP p) {b1 : Nat} {t1 : TypeId} {z1 : Nat × Nat} (W : World) (h1 : W.heap[b1]? = some (.cells (pfC p n).toArray t1 z1)) :
    Cal Try.prog 44 [.agg (leC l).toArray, .pointer (some ⟨b1, 0, none⟩)].toArray W fun x w' => x = .bool (decide (0 < cmpL l.ip p)) ∧ Ext [] W w' := by
  have e1 := le_ip hl.len
  have e2 := seg_pf0 hp.len n
  refine fn_ofM (n := 11) [] Try.func44 rfl rfl rfl ?_
  intro a w F M hwW
  refine c_seq ?_
  refine c_region ?_
  (refine stepD rfl F rfl (o_box M (F.ev rfl) rfl ?_); clear F; clear M; intro b2 w M a F)
  refine stepD rfl F rfl (o_assign (F.ev rfl) ?_); clear F; clear a; intro a F
  with_reducible refine l_nil ?_
  with_reducible refine q_then ?_
  with_reducible refine c_seq ?_
  with_reducible refine c_region ?_
  refine stepD rfl F rfl (o_fieldAddr (F.ev rfl) ?_); clear F; clear a; intro a F
  refine stepD rfl F rfl (o_fieldAddr (F.ev rfl) ?_); clear F; clear a; intro a F
  refine stepD rfl F rfl (o_loadA M (F.ev rfl) (by repeat (first | exact .here | apply Has.there)) (by first | assumption | rfl) ?_); clear F; clear a; intro a F
  refine stepD rfl F rfl (o_fieldAddr (F.ev rfl) ?_); clear F; clear a; intro a F
  refine stepD rfl F rfl (o_loadWA M (F.ev rfl) (by assumption) (by first | assumption | rfl) ?_); clear F; clear a; intro a F
  (refine stepD rfl F rfl (o_call (F.ev rfl) (F.evs rfl) (Cal.mono (compareIP_c l.ip p hl hp _) ?_)); clear F; clear a; rintro _ w ⟨rfl, hE⟩ a F; replace M := M.later hE; clear hE)
  refine stepD rfl F rfl (o_gtr (F.ev rfl) (F.ev rfl) ?_); clear F; clear a; intro a F
  refine stepD rfl F rfl (o_assign (F.ev rfl) ?_); clear F; clear a; intro a F
  with_reducible refine l_nil ?_
  with_reducible refine q_then ?_
  with_reducible refine c_ret ?_
  refine p_ret F rfl (.cons (.tmp (F.ev rfl)) .nil) ?_
  exact ⟨rfl, M.ext⟩
end Go.Proofs.Ytainnefmobfcjaa

/-! F0 -/
/-
  border: the structures of offers (laid by structs.py).
-/
namespace Go.Proofs.Ytainnefmobfcjaa
set_option linter.unusedVariables false
set_option linter.unusedSimpArgs false
open Go.RowKit
/-! PInf -/
structure PInf where
  ip : List Int
  bits : Int
  onl : Bool
  aut : Bool
  life : Int
  deriving DecidableEq
def piC (o : PInf) : List Value := pfC o.ip o.bits ++ ([.bool o.onl, .bool o.aut, .int .u32 o.life])
def IsPi (o : PInf) : Prop := IsIP o.ip
theorem pi_len {o : PInf} (h : IsPi o) : (piC o).length = 20 := by
  obtain ⟨f_ip, f_bits, f_onl, f_aut, f_life⟩ := o
  obtain ⟨x0_0, x0_1, x0_2, x0_3, x0_4, x0_5, x0_6, x0_7, x0_8, x0_9, x0_10, x0_11, x0_12, x0_13, x0_14, x0_15, e0⟩ := len16 (show f_ip.length = 16 from (h).len)
  subst e0
  rfl
theorem pi_all {o : PInf} (h : IsPi o) : seg (piC o) 0 20 = some (piC o) := sg_all (pi_len h)
theorem pi_pre {o : PInf} (h : IsPi o) : seg (piC o) 0 17 = some (pfC o.ip o.bits) := by
  obtain ⟨f_ip, f_bits, f_onl, f_aut, f_life⟩ := o
  obtain ⟨x0_0, x0_1, x0_2, x0_3, x0_4, x0_5, x0_6, x0_7, x0_8, x0_9, x0_10, x0_11, x0_12, x0_13, x0_14, x0_15, e0⟩ := len16 (show f_ip.length = 16 from (h).len)
  subst e0
  rfl
theorem pi_ip {o : PInf} (h : IsPi o) : seg (piC o) 0 16 = some (ipC o.ip) := by
  obtain ⟨f_ip, f_bits, f_onl, f_aut, f_life⟩ := o
  obtain ⟨x0_0, x0_1, x0_2, x0_3, x0_4, x0_5, x0_6, x0_7, x0_8, x0_9, x0_10, x0_11, x0_12, x0_13, x0_14, x0_15, e0⟩ := len16 (show f_ip.length = 16 from (h).len)
  subst e0
  rfl
theorem pi_bits {o : PInf} (h : IsPi o) : nth (piC o) 16 = some (.int .i64 o.bits) := by
  obtain ⟨f_ip, f_bits, f_onl, f_aut, f_life⟩ := o
  obtain ⟨x0_0, x0_1, x0_2, x0_3, x0_4, x0_5, x0_6, x0_7, x0_8, x0_9, x0_10, x0_11, x0_12, x0_13, x0_14, x0_15, e0⟩ := len16 (show f_ip.length = 16 from (h).len)
  subst e0
  rfl
theorem pi_onl {o : PInf} (h : IsPi o) : nth (piC o) 17 = some (.bool o.onl) := by
  obtain ⟨f_ip, f_bits, f_onl, f_aut, f_life⟩ := o
  obtain ⟨x0_0, x0_1, x0_2, x0_3, x0_4, x0_5, x0_6, x0_7, x0_8, x0_9, x0_10, x0_11, x0_12, x0_13, x0_14, x0_15, e0⟩ := len16 (show f_ip.length = 16 from (h).len)
  subst e0
  rfl
theorem pi_put_onl {o : PInf} (h : IsPi o) (z : Bool) : put (piC o) 17 [.bool z] = some (piC { o with onl := z }) := by
  obtain ⟨f_ip, f_bits, f_onl, f_aut, f_life⟩ := o
  obtain ⟨x0_0, x0_1, x0_2, x0_3, x0_4, x0_5, x0_6, x0_7, x0_8, x0_9, x0_10, x0_11, x0_12, x0_13, x0_14, x0_15, e0⟩ := len16 (show f_ip.length = 16 from (h).len)
  subst e0
  rfl
theorem pi_aut {o : PInf} (h : IsPi o) : nth (piC o) 18 = some (.bool o.aut) := by
  obtain ⟨f_ip, f_bits, f_onl, f_aut, f_life⟩ := o
  obtain ⟨x0_0, x0_1, x0_2, x0_3, x0_4, x0_5, x0_6, x0_7, x0_8, x0_9, x0_10, x0_11, x0_12, x0_13, x0_14, x0_15, e0⟩ := len16 (show f_ip.length = 16 from (h).len)
  subst e0
  rfl
theorem pi_put_aut {o : PInf} (h : IsPi o) (z : Bool) : put (piC o) 18 [.bool z] = some (piC { o with aut := z }) := by
  obtain ⟨f_ip, f_bits, f_onl, f_aut, f_life⟩ := o
  obtain ⟨x0_0, x0_1, x0_2, x0_3, x0_4, x0_5, x0_6, x0_7, x0_8, x0_9, x0_10, x0_11, x0_12, x0_13, x0_14, x0_15, e0⟩ := len16 (show f_ip.length = 16 from (h).len)
  subst e0
  rfl
theorem pi_life {o : PInf} (h : IsPi o) : nth (piC o) 19 = some (.int .u32 o.life) := by
  obtain ⟨f_ip, f_bits, f_onl, f_aut, f_life⟩ := o
  obtain ⟨x0_0, x0_1, x0_2, x0_3, x0_4, x0_5, x0_6, x0_7, x0_8, x0_9, x0_10, x0_11, x0_12, x0_13, x0_14, x0_15, e0⟩ := len16 (show f_ip.length = 16 from (h).len)
  subst e0
  rfl
theorem pi_put_life {o : PInf} (h : IsPi o) (z : Int) : put (piC o) 19 [.int .u32 z] = some (piC { o with life := z }) := by
  obtain ⟨f_ip, f_bits, f_onl, f_aut, f_life⟩ := o
  obtain ⟨x0_0, x0_1, x0_2, x0_3, x0_4, x0_5, x0_6, x0_7, x0_8, x0_9, x0_10, x0_11, x0_12, x0_13, x0_14, x0_15, e0⟩ := len16 (show f_ip.length = 16 from (h).len)
  subst e0
  rfl
theorem pi_one (o : PInf) : (piC o).all (·.oneCell') = true := by
  simp [pfC, ipC, piC, Value.oneCell']
def piZ : List Value := [.int .u8 0, .int .u8 0, .int .u8 0, .int .u8 0, .int .u8 0, .int .u8 0, .int .u8 0, .int .u8 0, .int .u8 0, .int .u8 0, .int .u8 0, .int .u8 0, .int .u8 0, .int .u8 0, .int .u8 0, .int .u8 0, .int .i64 0, .bool false, .bool false, .int .u32 0]
theorem pi_build {o : PInf} (h : IsPi o) : putAll [(0, 17), (17, 1), (18, 1), (19, 1)] piZ [(0, pfC o.ip o.bits), (1, [.bool o.onl]), (2, [.bool o.aut]), (3, [.int .u32 o.life])] = some (piC o) := by
  obtain ⟨f_ip, f_bits, f_onl, f_aut, f_life⟩ := o
  obtain ⟨x0_0, x0_1, x0_2, x0_3, x0_4, x0_5, x0_6, x0_7, x0_8, x0_9, x0_10, x0_11, x0_12, x0_13, x0_14, x0_15, e0⟩ := len16 (show f_ip.length = 16 from (h).len)
  subst e0
  rfl
theorem pi_build1 {o : PInf} (h : IsPi o) : putAll (placesL 1 20) (zerosL piZ (1 * 20)) [(0, piC o)] = some (piC o) := by
  obtain ⟨f_ip, f_bits, f_onl, f_aut, f_life⟩ := o
  obtain ⟨x0_0, x0_1, x0_2, x0_3, x0_4, x0_5, x0_6, x0_7, x0_8, x0_9, x0_10, x0_11, x0_12, x0_13, x0_14, x0_15, e0⟩ := len16 (show f_ip.length = 16 from (h).len)
  subst e0
  rfl
abbrev piK : List LK := [.i .u8, .i .u8, .i .u8, .i .u8, .i .u8, .i .u8, .i .u8, .i .u8, .i .u8, .i .u8, .i .u8, .i .u8, .i .u8, .i .u8, .i .u8, .i .u8, .i .i64, .b, .b, .i .u32]
theorem pi_fits {o : PInf} (h : IsPi o) : fitsK piK (piC o) = true := by
  obtain ⟨f_ip, f_bits, f_onl, f_aut, f_life⟩ := o
  obtain ⟨x0_0, x0_1, x0_2, x0_3, x0_4, x0_5, x0_6, x0_7, x0_8, x0_9, x0_10, x0_11, x0_12, x0_13, x0_14, x0_15, e0⟩ := len16 (show f_ip.length = 16 from (h).len)
  subst e0
  rfl
theorem pi_eq {a b : PInf} (ha : IsPi a) (hb : IsPi b) : eqVs (piC a) (piC b) = decide (a = b) := by
  have l0 : a.ip.length = b.ip.length := by rw [(ha).len, (hb).len]
  rw [Bool.eq_iff_iff, decide_eq_true_eq]
  obtain ⟨a_ip, a_bits, a_onl, a_aut, a_life⟩ := a
  obtain ⟨b_ip, b_bits, b_onl, b_aut, b_life⟩ := b
  dsimp only at l0
  simp only [piC, PInf.mk.injEq]
  rw [eqVs_append _ _ _ _ (by first | rfl | assumption | (simp [pfC, ipC]; assumption))]
  rw [eqVs_pf l0]
  simp [eqVs, eqV, Bool.and_eq_true, beq_iff_eq, Bool.and_true, and_assoc, decide_eq_true_eq, List.cons_append, List.nil_append]
abbrev pisC (l : List PInf) : List Value := encL piC l
theorem pis_len {l : List PInf} (h : ∀ x ∈ l, IsPi x) : ∀ x ∈ l, (piC x).length = 20 := fun x hx => pi_len (h x hx)
theorem pis_one {l : List PInf} : (pisC l).all (·.oneCell') = true := encL_all fun x _ => pi_one x
/-! CInf -/
structure CInf where
  id : Int
  ip : List Int
  bits : Int
  cmp : Bool
  life : Int
  deriving DecidableEq
def ciC (o : CInf) : List Value := [.int .i64 o.id] ++ (pfC o.ip o.bits ++ ([.bool o.cmp, .int .u16 o.life]))
def IsCi (o : CInf) : Prop := IsIP o.ip
theorem ci_len {o : CInf} (h : IsCi o) : (ciC o).length = 20 := by
  obtain ⟨f_id, f_ip, f_bits, f_cmp, f_life⟩ := o
  obtain ⟨x0_0, x0_1, x0_2, x0_3, x0_4, x0_5, x0_6, x0_7, x0_8, x0_9, x0_10, x0_11, x0_12, x0_13, x0_14, x0_15, e0⟩ := len16 (show f_ip.length = 16 from (h).len)
  subst e0
  rfl
theorem ci_all {o : CInf} (h : IsCi o) : seg (ciC o) 0 20 = some (ciC o) := sg_all (ci_len h)
theorem ci_id {o : CInf} (h : IsCi o) : nth (ciC o) 0 = some (.int .i64 o.id) := by
  obtain ⟨f_id, f_ip, f_bits, f_cmp, f_life⟩ := o
  obtain ⟨x0_0, x0_1, x0_2, x0_3, x0_4, x0_5, x0_6, x0_7, x0_8, x0_9, x0_10, x0_11, x0_12, x0_13, x0_14, x0_15, e0⟩ := len16 (show f_ip.length = 16 from (h).len)
  subst e0
  rfl
theorem ci_put_id {o : CInf} (h : IsCi o) (z : Int) : put (ciC o) 0 [.int .i64 z] = some (ciC { o with id := z }) := by
  obtain ⟨f_id, f_ip, f_bits, f_cmp, f_life⟩ := o
  obtain ⟨x0_0, x0_1, x0_2, x0_3, x0_4, x0_5, x0_6, x0_7, x0_8, x0_9, x0_10, x0_11, x0_12, x0_13, x0_14, x0_15, e0⟩ := len16 (show f_ip.length = 16 from (h).len)
  subst e0
  rfl
theorem ci_pre {o : CInf} (h : IsCi o) : seg (ciC o) 1 17 = some (pfC o.ip o.bits) := by
  obtain ⟨f_id, f_ip, f_bits, f_cmp, f_life⟩ := o
  obtain ⟨x0_0, x0_1, x0_2, x0_3, x0_4, x0_5, x0_6, x0_7, x0_8, x0_9, x0_10, x0_11, x0_12, x0_13, x0_14, x0_15, e0⟩ := len16 (show f_ip.length = 16 from (h).len)
  subst e0
  rfl
theorem ci_ip {o : CInf} (h : IsCi o) : seg (ciC o) 1 16 = some (ipC o.ip) := by
  obtain ⟨f_id, f_ip, f_bits, f_cmp, f_life⟩ := o
  obtain ⟨x0_0, x0_1, x0_2, x0_3, x0_4, x0_5, x0_6, x0_7, x0_8, x0_9, x0_10, x0_11, x0_12, x0_13, x0_14, x0_15, e0⟩ := len16 (show f_ip.length = 16 from (h).len)
  subst e0
  rfl
theorem ci_bits {o : CInf} (h : IsCi o) : nth (ciC o) 17 = some (.int .i64 o.bits) := by
  obtain ⟨f_id, f_ip, f_bits, f_cmp, f_life⟩ := o
  obtain ⟨x0_0, x0_1, x0_2, x0_3, x0_4, x0_5, x0_6, x0_7, x0_8, x0_9, x0_10, x0_11, x0_12, x0_13, x0_14, x0_15, e0⟩ := len16 (show f_ip.length = 16 from (h).len)
  subst e0
  rfl
theorem ci_cmp {o : CInf} (h : IsCi o) : nth (ciC o) 18 = some (.bool o.cmp) := by
  obtain ⟨f_id, f_ip, f_bits, f_cmp, f_life⟩ := o
  obtain ⟨x0_0, x0_1, x0_2, x0_3, x0_4, x0_5, x0_6, x0_7, x0_8, x0_9, x0_10, x0_11, x0_12, x0_13, x0_14, x0_15, e0⟩ := len16 (show f_ip.length = 16 from (h).len)
  subst e0
  rfl
theorem ci_put_cmp {o : CInf} (h : IsCi o) (z : Bool) : put (ciC o) 18 [.bool z] = some (ciC { o with cmp := z }) := by
  obtain ⟨f_id, f_ip, f_bits, f_cmp, f_life⟩ := o
  obtain ⟨x0_0, x0_1, x0_2, x0_3, x0_4, x0_5, x0_6, x0_7, x0_8, x0_9, x0_10, x0_11, x0_12, x0_13, x0_14, x0_15, e0⟩ := len16 (show f_ip.length = 16 from (h).len)
  subst e0
  rfl
theorem ci_life {o : CInf} (h : IsCi o) : nth (ciC o) 19 = some (.int .u16 o.life) := by
  obtain ⟨f_id, f_ip, f_bits, f_cmp, f_life⟩ := o
  obtain ⟨x0_0, x0_1, x0_2, x0_3, x0_4, x0_5, x0_6, x0_7, x0_8, x0_9, x0_10, x0_11, x0_12, x0_13, x0_14, x0_15, e0⟩ := len16 (show f_ip.length = 16 from (h).len)
  subst e0
  rfl
theorem ci_put_life {o : CInf} (h : IsCi o) (z : Int) : put (ciC o) 19 [.int .u16 z] = some (ciC { o with life := z }) := by
  obtain ⟨f_id, f_ip, f_bits, f_cmp, f_life⟩ := o
  obtain ⟨x0_0, x0_1, x0_2, x0_3, x0_4, x0_5, x0_6, x0_7, x0_8, x0_9, x0_10, x0_11, x0_12, x0_13, x0_14, x0_15, e0⟩ := len16 (show f_ip.length = 16 from (h).len)
  subst e0
  rfl
theorem ci_one (o : CInf) : (ciC o).all (·.oneCell') = true := by
  simp [pfC, ipC, ciC, Value.oneCell']
def ciZ : List Value := [.int .i64 0, .int .u8 0, .int .u8 0, .int .u8 0, .int .u8 0, .int .u8 0, .int .u8 0, .int .u8 0, .int .u8 0, .int .u8 0, .int .u8 0, .int .u8 0, .int .u8 0, .int .u8 0, .int .u8 0, .int .u8 0, .int .u8 0, .int .i64 0, .bool false, .int .u16 0]
theorem ci_build {o : CInf} (h : IsCi o) : putAll [(0, 1), (1, 17), (18, 1), (19, 1)] ciZ [(0, [.int .i64 o.id]), (1, pfC o.ip o.bits), (2, [.bool o.cmp]), (3, [.int .u16 o.life])] = some (ciC o) := by
  obtain ⟨f_id, f_ip, f_bits, f_cmp, f_life⟩ := o
  obtain ⟨x0_0, x0_1, x0_2, x0_3, x0_4, x0_5, x0_6, x0_7, x0_8, x0_9, x0_10, x0_11, x0_12, x0_13, x0_14, x0_15, e0⟩ := len16 (show f_ip.length = 16 from (h).len)
  subst e0
  rfl
theorem ci_build1 {o : CInf} (h : IsCi o) : putAll (placesL 1 20) (zerosL ciZ (1 * 20)) [(0, ciC o)] = some (ciC o) := by
  obtain ⟨f_id, f_ip, f_bits, f_cmp, f_life⟩ := o
  obtain ⟨x0_0, x0_1, x0_2, x0_3, x0_4, x0_5, x0_6, x0_7, x0_8, x0_9, x0_10, x0_11, x0_12, x0_13, x0_14, x0_15, e0⟩ := len16 (show f_ip.length = 16 from (h).len)
  subst e0
  rfl
abbrev ciK : List LK := [.i .i64, .i .u8, .i .u8, .i .u8, .i .u8, .i .u8, .i .u8, .i .u8, .i .u8, .i .u8, .i .u8, .i .u8, .i .u8, .i .u8, .i .u8, .i .u8, .i .u8, .i .i64, .b, .i .u16]
theorem ci_fits {o : CInf} (h : IsCi o) : fitsK ciK (ciC o) = true := by
  obtain ⟨f_id, f_ip, f_bits, f_cmp, f_life⟩ := o
  obtain ⟨x0_0, x0_1, x0_2, x0_3, x0_4, x0_5, x0_6, x0_7, x0_8, x0_9, x0_10, x0_11, x0_12, x0_13, x0_14, x0_15, e0⟩ := len16 (show f_ip.length = 16 from (h).len)
  subst e0
  rfl
theorem ci_eq {a b : CInf} (ha : IsCi a) (hb : IsCi b) : eqVs (ciC a) (ciC b) = decide (a = b) := by
  have l0 : a.ip.length = b.ip.length := by rw [(ha).len, (hb).len]
  rw [Bool.eq_iff_iff, decide_eq_true_eq]
  obtain ⟨a_id, a_ip, a_bits, a_cmp, a_life⟩ := a
  obtain ⟨b_id, b_ip, b_bits, b_cmp, b_life⟩ := b
  dsimp only at l0
  simp only [ciC, CInf.mk.injEq]
  rw [eqVs_append _ _ _ _ (by first | rfl | assumption | (simp [pfC, ipC]; assumption))]
  rw [eqVs_append _ _ _ _ (by first | rfl | assumption | (simp [pfC, ipC]; assumption))]
  rw [eqVs_pf l0]
  simp [eqVs, eqV, Bool.and_eq_true, beq_iff_eq, Bool.and_true, and_assoc, decide_eq_true_eq, List.cons_append, List.nil_append]
abbrev cisC (l : List CInf) : List Value := encL ciC l
theorem cis_len {l : List CInf} (h : ∀ x ∈ l, IsCi x) : ∀ x ∈ l, (ciC x).length = 20 := fun x hx => ci_len (h x hx)
theorem cis_one {l : List CInf} : (cisC l).all (·.oneCell') = true := encL_all fun x _ => ci_one x
/-! OffH -/
structure OffH where
  rt : List Int
  ver : Int
  til : Int
  deriving DecidableEq
def ofC (o : OffH) (ps : Value) (cs : Value) : List Value := ipC o.rt ++ ([.int .i64 o.ver, .int .i64 o.til, ps, cs])
def IsOf (o : OffH) : Prop := IsIP o.rt
theorem of_len {o : OffH} (h : IsOf o) (ps : Value) (cs : Value) : (ofC o ps cs).length = 20 := by
  obtain ⟨f_rt, f_ver, f_til⟩ := o
  obtain ⟨x0_0, x0_1, x0_2, x0_3, x0_4, x0_5, x0_6, x0_7, x0_8, x0_9, x0_10, x0_11, x0_12, x0_13, x0_14, x0_15, e0⟩ := len16 (show f_rt.length = 16 from (h).len)
  subst e0
  rfl
theorem of_all {o : OffH} (h : IsOf o) (ps : Value) (cs : Value) : seg (ofC o ps cs) 0 20 = some (ofC o ps cs) := sg_all (of_len h ps cs)
theorem of_rt {o : OffH} (h : IsOf o) (ps : Value) (cs : Value) : seg (ofC o ps cs) 0 16 = some (ipC o.rt) := by
  obtain ⟨f_rt, f_ver, f_til⟩ := o
  obtain ⟨x0_0, x0_1, x0_2, x0_3, x0_4, x0_5, x0_6, x0_7, x0_8, x0_9, x0_10, x0_11, x0_12, x0_13, x0_14, x0_15, e0⟩ := len16 (show f_rt.length = 16 from (h).len)
  subst e0
  rfl
theorem of_ver {o : OffH} (h : IsOf o) (ps : Value) (cs : Value) : nth (ofC o ps cs) 16 = some (.int .i64 o.ver) := by
  obtain ⟨f_rt, f_ver, f_til⟩ := o
  obtain ⟨x0_0, x0_1, x0_2, x0_3, x0_4, x0_5, x0_6, x0_7, x0_8, x0_9, x0_10, x0_11, x0_12, x0_13, x0_14, x0_15, e0⟩ := len16 (show f_rt.length = 16 from (h).len)
  subst e0
  rfl
theorem of_put_ver {o : OffH} (h : IsOf o) (ps : Value) (cs : Value) (z : Int) : put (ofC o ps cs) 16 [.int .i64 z] = some (ofC { o with ver := z } ps cs) := by
  obtain ⟨f_rt, f_ver, f_til⟩ := o
  obtain ⟨x0_0, x0_1, x0_2, x0_3, x0_4, x0_5, x0_6, x0_7, x0_8, x0_9, x0_10, x0_11, x0_12, x0_13, x0_14, x0_15, e0⟩ := len16 (show f_rt.length = 16 from (h).len)
  subst e0
  rfl
theorem of_til {o : OffH} (h : IsOf o) (ps : Value) (cs : Value) : nth (ofC o ps cs) 17 = some (.int .i64 o.til) := by
  obtain ⟨f_rt, f_ver, f_til⟩ := o
  obtain ⟨x0_0, x0_1, x0_2, x0_3, x0_4, x0_5, x0_6, x0_7, x0_8, x0_9, x0_10, x0_11, x0_12, x0_13, x0_14, x0_15, e0⟩ := len16 (show f_rt.length = 16 from (h).len)
  subst e0
  rfl
theorem of_put_til {o : OffH} (h : IsOf o) (ps : Value) (cs : Value) (z : Int) : put (ofC o ps cs) 17 [.int .i64 z] = some (ofC { o with til := z } ps cs) := by
  obtain ⟨f_rt, f_ver, f_til⟩ := o
  obtain ⟨x0_0, x0_1, x0_2, x0_3, x0_4, x0_5, x0_6, x0_7, x0_8, x0_9, x0_10, x0_11, x0_12, x0_13, x0_14, x0_15, e0⟩ := len16 (show f_rt.length = 16 from (h).len)
  subst e0
  rfl
theorem of_ps {o : OffH} (h : IsOf o) (ps : Value) (cs : Value) : nth (ofC o ps cs) 18 = some ps := by
  obtain ⟨f_rt, f_ver, f_til⟩ := o
  obtain ⟨x0_0, x0_1, x0_2, x0_3, x0_4, x0_5, x0_6, x0_7, x0_8, x0_9, x0_10, x0_11, x0_12, x0_13, x0_14, x0_15, e0⟩ := len16 (show f_rt.length = 16 from (h).len)
  subst e0
  rfl
theorem of_put_ps {o : OffH} (h : IsOf o) (ps : Value) (cs : Value) (z : Value) : put (ofC o ps cs) 18 [z] = some (ofC o z cs) := by
  obtain ⟨f_rt, f_ver, f_til⟩ := o
  obtain ⟨x0_0, x0_1, x0_2, x0_3, x0_4, x0_5, x0_6, x0_7, x0_8, x0_9, x0_10, x0_11, x0_12, x0_13, x0_14, x0_15, e0⟩ := len16 (show f_rt.length = 16 from (h).len)
  subst e0
  rfl
theorem of_cs {o : OffH} (h : IsOf o) (ps : Value) (cs : Value) : nth (ofC o ps cs) 19 = some cs := by
  obtain ⟨f_rt, f_ver, f_til⟩ := o
  obtain ⟨x0_0, x0_1, x0_2, x0_3, x0_4, x0_5, x0_6, x0_7, x0_8, x0_9, x0_10, x0_11, x0_12, x0_13, x0_14, x0_15, e0⟩ := len16 (show f_rt.length = 16 from (h).len)
  subst e0
  rfl
theorem of_put_cs {o : OffH} (h : IsOf o) (ps : Value) (cs : Value) (z : Value) : put (ofC o ps cs) 19 [z] = some (ofC o ps z) := by
  obtain ⟨f_rt, f_ver, f_til⟩ := o
  obtain ⟨x0_0, x0_1, x0_2, x0_3, x0_4, x0_5, x0_6, x0_7, x0_8, x0_9, x0_10, x0_11, x0_12, x0_13, x0_14, x0_15, e0⟩ := len16 (show f_rt.length = 16 from (h).len)
  subst e0
  rfl
theorem of_one (o : OffH) (ps : Value) (cs : Value) (hps : ps.oneCell' = true) (hcs : cs.oneCell' = true) : (ofC o ps cs).all (·.oneCell') = true := by
  simp only [pfC, ipC, ofC, List.all_append, List.all_cons, List.all_nil, hps, hcs]
  simp [pfC, ipC, ofC, Value.oneCell']
def ofZ : List Value := [.int .u8 0, .int .u8 0, .int .u8 0, .int .u8 0, .int .u8 0, .int .u8 0, .int .u8 0, .int .u8 0, .int .u8 0, .int .u8 0, .int .u8 0, .int .u8 0, .int .u8 0, .int .u8 0, .int .u8 0, .int .u8 0, .int .i64 0, .int .i64 0, .slice none 0 0, .slice none 0 0]
theorem of_build {o : OffH} (h : IsOf o) (ps : Value) (cs : Value) : putAll [(0, 16), (16, 1), (17, 1), (18, 1), (19, 1)] ofZ [(0, ipC o.rt), (1, [.int .i64 o.ver]), (2, [.int .i64 o.til]), (3, [ps]), (4, [cs])] = some (ofC o ps cs) := by
  obtain ⟨f_rt, f_ver, f_til⟩ := o
  obtain ⟨x0_0, x0_1, x0_2, x0_3, x0_4, x0_5, x0_6, x0_7, x0_8, x0_9, x0_10, x0_11, x0_12, x0_13, x0_14, x0_15, e0⟩ := len16 (show f_rt.length = 16 from (h).len)
  subst e0
  rfl
theorem of_build1 {o : OffH} (h : IsOf o) (ps : Value) (cs : Value) : putAll (placesL 1 20) (zerosL ofZ (1 * 20)) [(0, ofC o ps cs)] = some (ofC o ps cs) := by
  obtain ⟨f_rt, f_ver, f_til⟩ := o
  obtain ⟨x0_0, x0_1, x0_2, x0_3, x0_4, x0_5, x0_6, x0_7, x0_8, x0_9, x0_10, x0_11, x0_12, x0_13, x0_14, x0_15, e0⟩ := len16 (show f_rt.length = 16 from (h).len)
  subst e0
  rfl

end Go.Proofs.Ytainnefmobfcjaa

/-! F1 -/
/-
  border: offers in memory; ValidOffer.
-/
namespace Go.Proofs.Ytainnefmobfcjaa
set_option linter.unusedVariables false
set_option linter.unusedSimpArgs false
open Go.RowKit
attribute [local irreducible] OpTo wpListIn Code.wpIn MW Cal

def allI (p : Nat → Bool) (n : Nat) : Bool := (List.range n).all p
theorem allI_f {p : Nat → Bool} {n i : Nat} (hi : i < n) (h : p i = false) : allI p n = false := by
  unfold allI
  rw [List.all_eq_false]
  exact ⟨i, List.mem_range.2 hi, by simp [h]⟩
theorem allI_t {p : Nat → Bool} {n : Nat} (h : ∀ i, i < n → p i = true) : allI p n = true := by
  unfold allI
  rw [List.all_eq_true]
  exact fun i hi => h i (List.mem_range.1 hi)
theorem all_f {α : Type} {q : α → Bool} {ls : List α} {i : Nat} (hi : i < ls.length) (h : q ls[i] = false) : ls.all q = false := by
  rw [List.all_eq_false]
  exact ⟨ls[i], List.getElem_mem hi, by simp [h]⟩
theorem all_t {α : Type} {q : α → Bool} {ls : List α} (h : ∀ i (hi : i < ls.length), q ls[i] = true) : ls.all q = true := by
  rw [List.all_eq_true]
  intro x hx
  obtain ⟨i, hi, rfl⟩ := List.mem_iff_getElem.1 hx
  exact h i hi

/-- an offer -/
structure Off where
  h : OffH
  ps : List PInf
  cs : List CInf
  deriving DecidableEq
def IsOff (o : Off) : Prop := IsOf o.h ∧ (∀ p ∈ o.ps, IsPi p) ∧ ∀ c ∈ o.cs, IsCi c
/-- .. with the values of its lists -/
structure OV where
  o : Off
  u : Value
  v : Value
def ovC (x : OV) : List Value := ofC x.o.h x.u x.v
def OffAt (W : World) (x : OV) : Prop := SlAt W 20 x.u x.o.ps.length (pisC x.o.ps) ∧ SlAt W 20 x.v x.o.cs.length (cisC x.o.cs)
theorem OffAt.later {W w : World} {x : OV} (h : OffAt W x) (E : Ext [] W w) : OffAt w x := ⟨h.1.later E, h.2.later E⟩
theorem SlAt.one {W : World} {sz n : Nat} {v : Value} {xs : List Value} (h : SlAt W sz v n xs) : v.oneCell' = true := by
  obtain ⟨p, cap, rfl, _⟩ := h
  rfl
theorem ov_one {W : World} {x : OV} (h : OffAt W x) : (ovC x).all (·.oneCell') = true := of_one _ _ _ h.1.one h.2.one
theorem ov_len {x : OV} (h : IsOff x.o) : (ovC x).length = 20 := of_len h.1 _ _

def validPi (p : PInf) : Bool := validP p.ip p.bits
def ctx1 (cs : List CInf) (i : Nat) : Bool := match cs[i]? with
  | none => true
  | some c => decide (0 ≤ c.id) && decide (c.id < 16) && !((cs.take i).any fun x => x.id == c.id) && validP c.ip c.bits
def hdO (o : Off) : Bool := decide (0 ≤ o.h.ver) && decide (o.h.ver ≤ 4294967295) && isTime o.h.til && decide (o.ps.length ≤ 16) && decide (o.cs.length ≤ 16)
def validO (o : Off) : Bool := hdO o && o.ps.all validPi && allI (ctx1 o.cs) o.cs.length
theorem ctx1_at {cs : List CInf} {i : Nat} (h : i < cs.length) : ctx1 cs i = (decide (0 ≤ cs[i].id) && decide (cs[i].id < 16) && !((cs.take i).any fun x => x.id == cs[i].id) && validP cs[i].ip cs[i].bits) := by
  simp [ctx1, List.getElem?_eq_getElem h]

/-- which IDs have been met -/
def usedC (seen : List CInf) : List Value := (List.range 16).map fun (k : Nat) => .bool (seen.any fun x => x.id == (k : Int))
theorem used_len (seen : List CInf) : (usedC seen).length = 16 := by simp [usedC]
theorem used_nil : usedC [] = [.bool false, .bool false, .bool false, .bool false, .bool false, .bool false, .bool false, .bool false, .bool false, .bool false, .bool false, .bool false, .bool false, .bool false, .bool false, .bool false] := rfl
theorem used_at (seen : List CInf) {id : Int} (h0 : 0 ≤ id) (h1 : id < 16) {q : Nat} (hq : q = id.toNat) : nth (usedC seen) q = some (.bool (seen.any fun x => x.id == id)) := by
  subst hq
  obtain ⟨k, rfl⟩ := Int.eq_ofNat_of_zero_le h0
  rw [nth_spec]
  simp only [usedC, Int.toNat_natCast]
  rw [List.getElem?_map, List.getElem?_range (by omega)]
  rfl
theorem used_put (seen : List CInf) (c : CInf) (h0 : 0 ≤ c.id) (h1 : c.id < 16) {q : Nat} (hq : q = c.id.toNat) : put (usedC seen) q [.bool true] = some (usedC (seen ++ [c])) := by
  subst hq
  rw [put1 _ rfl (by rw [used_len]; omega)]
  congr 1
  apply List.ext_getElem
  · simp [usedC]
  · intro i h2 h3
    rw [List.getElem_set]
    simp only [usedC, List.getElem_map, List.getElem_range, List.any_append, List.any_cons, List.any_nil, Bool.or_false]
    by_cases hi : c.id.toNat = i
    · rw [if_pos hi]
      have : (c.id == (i : Int)) = true := by simp; omega
      rw [this, Bool.or_true]
    · rw [if_neg hi]
      have : (c.id == (i : Int)) = false := by simp; omega
      rw [this, Bool.or_false]

set_option maxHeartbeats 4000000 in
theorem validOffer_c (x : OV) (hx : IsOff x.o) (W : World) (hA : OffAt W x) :
    Cal Try.prog 34 [.agg (ovC x).toArray].toArray W fun v w' => v = .bool (validO x.o) ∧ Ext [] W w' := by
  obtain ⟨⟨h, ps, cs⟩, u, v⟩ := x
  obtain ⟨hh, hps, hcs⟩ := hx
  replace hA : SlAt W 20 u ps.length (pisC ps) ∧ SlAt W 20 v cs.length (cisC cs) := hA
  dsimp only at hh hps hcs
  obtain ⟨⟨q1, cap1, rfl, hc1, hn1, hl1, hm1⟩, ⟨q2, cap2, rfl, hc2, hn2, hl2, hm2⟩⟩ := hA
  unfold validO
  dsimp only
  obtain ⟨ok, hok⟩ : ∃ ok, ok = hdO ⟨h, ps, cs⟩ := ⟨_, rfl⟩
  rw [← hok]
  have e1 := of_ver hh (.slice q1 ps.length cap1) (.slice q2 cs.length cap2)
  have e2 := of_til hh (.slice q1 ps.length cap1) (.slice q2 cs.length cap2)
  have e3 := of_ps hh (.slice q1 ps.length cap1) (.slice q2 cs.length cap2)
  have e4 := of_cs hh (.slice q1 ps.length cap1) (.slice q2 cs.length cap2)
  unfold ovC
  dsimp only
  generalize hoc : ofC h (.slice q1 ps.length cap1) (.slice q2 cs.length cap2) = oc at *
  refine fn_ofM (n := 77) [] Try.func34 rfl rfl rfl ?_
  intro a w F M hwW
  refine c_seq ?_
  refine c_region ?_
  (refine stepD rfl F rfl (o_box M (F.ev rfl) rfl ?_); clear F; clear M; intro b1 w M a F)
  refine stepD rfl F rfl (o_assign (F.ev rfl) ?_); clear F; clear a; intro a F
  refine l_nil ?_
  refine q_then ?_
  refine c_seq ?_
  refine c_seq ?_
  refine c_cut (fun a w => Frm a 77 [] [(33, .bool !ok), (1, .pointer (some ⟨b1, 0, none⟩))] ∧ (ok = true → ps.length ≤ 16 ∧ cs.length ≤ 16) ∧ Mem [] W w [(b1, .cells oc.toArray 58 (0, 0))]) ?_ ?_
  · by_cases c1 : h.ver < 0
    · obtain rfl : ok = false := by rw [hok]; simp [hdO]; omega
      with_reducible refine c_region ?_
      refine stepD rfl F rfl (o_fieldAddr (F.ev rfl) ?_); clear F; clear a; intro a F
      refine stepD rfl F rfl (o_load1 M (F.ev rfl) (by repeat (first | exact .here | apply Has.there)) (by first | assumption | rfl) ?_); clear F; clear a; intro a F
      refine stepD rfl F rfl (o_lssT (F.ev rfl) (F.ev rfl) (by omega) ?_); clear F; clear a; intro a F
      refine stepD rfl F rfl (o_move (F.ev rfl) ?_); clear F; clear a; intro a F
      refine stepOff F rfl rfl rfl rfl ?_; clear F; clear a; intro a F
      refine stepOff F rfl rfl rfl rfl ?_; clear F; clear a; intro a F
      refine stepOff F rfl rfl rfl rfl ?_; clear F; clear a; intro a F
      refine stepD rfl F rfl (o_pickT (F.ev rfl) (F.ev rfl) ?_); clear F; clear a; intro a F
      refine stepD rfl F rfl (o_move (F.ev rfl) ?_); clear F; clear a; intro a F
      refine stepOff F rfl rfl rfl rfl ?_; clear F; clear a; intro a F
      refine stepOff F rfl rfl rfl rfl ?_; clear F; clear a; intro a F
      refine stepOff F rfl rfl rfl rfl ?_; clear F; clear a; intro a F
      refine stepOff F rfl rfl rfl rfl ?_; clear F; clear a; intro a F
      refine stepD rfl F rfl (o_pickT (F.ev rfl) (F.ev rfl) ?_); clear F; clear a; intro a F
      refine stepD rfl F rfl (o_move (F.ev rfl) ?_); clear F; clear a; intro a F
      refine stepOff F rfl rfl rfl rfl ?_; clear F; clear a; intro a F
      refine stepOff F rfl rfl rfl rfl ?_; clear F; clear a; intro a F
      refine stepOff F rfl rfl rfl rfl ?_; clear F; clear a; intro a F
      refine stepOff F rfl rfl rfl rfl ?_; clear F; clear a; intro a F
      refine stepD rfl F rfl (o_pickT (F.ev rfl) (F.ev rfl) ?_); clear F; clear a; intro a F
      refine stepD rfl F rfl (o_move (F.ev rfl) ?_); clear F; clear a; intro a F
      refine stepOff F rfl rfl rfl rfl ?_; clear F; clear a; intro a F
      refine stepOff F rfl rfl rfl rfl ?_; clear F; clear a; intro a F
      refine stepOff F rfl rfl rfl rfl ?_; clear F; clear a; intro a F
      refine stepOff F rfl rfl rfl rfl ?_; clear F; clear a; intro a F
      refine stepD rfl F rfl (o_pickT (F.ev rfl) (F.ev rfl) ?_); clear F; clear a; intro a F
      with_reducible refine l_nil ?_
      exact ⟨F.only [33, 1] rfl, by simp, M⟩
    by_cases c2 : 4294967295 < h.ver
    · obtain rfl : ok = false := by rw [hok]; simp [hdO]; omega
      with_reducible refine c_region ?_
      refine stepD rfl F rfl (o_fieldAddr (F.ev rfl) ?_); clear F; clear a; intro a F
      refine stepD rfl F rfl (o_load1 M (F.ev rfl) (by repeat (first | exact .here | apply Has.there)) (by first | assumption | rfl) ?_); clear F; clear a; intro a F
      refine stepD rfl F rfl (o_lssF (F.ev rfl) (F.ev rfl) (by omega) ?_); clear F; clear a; intro a F
      refine stepD rfl F rfl (o_move (F.ev rfl) ?_); clear F; clear a; intro a F
      refine stepG rfl F rfl rfl rfl (o_fieldAddr (F.ev rfl) ?_); clear F; clear a; intro a F
      refine stepG rfl F rfl rfl rfl (o_load1 M (F.ev rfl) (by repeat (first | exact .here | apply Has.there)) (by first | assumption | rfl) ?_); clear F; clear a; intro a F
      refine stepG rfl F rfl rfl rfl (o_gtrT (F.ev rfl) (F.ev rfl) (by omega) ?_); clear F; clear a; intro a F
      refine stepD rfl F rfl (o_pickF (F.ev rfl) (F.ev rfl) ?_); clear F; clear a; intro a F
      refine stepD rfl F rfl (o_move (F.ev rfl) ?_); clear F; clear a; intro a F
      refine stepOff F rfl rfl rfl rfl ?_; clear F; clear a; intro a F
      refine stepOff F rfl rfl rfl rfl ?_; clear F; clear a; intro a F
      refine stepOff F rfl rfl rfl rfl ?_; clear F; clear a; intro a F
      refine stepOff F rfl rfl rfl rfl ?_; clear F; clear a; intro a F
      refine stepD rfl F rfl (o_pickT (F.ev rfl) (F.ev rfl) ?_); clear F; clear a; intro a F
      refine stepD rfl F rfl (o_move (F.ev rfl) ?_); clear F; clear a; intro a F
      refine stepOff F rfl rfl rfl rfl ?_; clear F; clear a; intro a F
      refine stepOff F rfl rfl rfl rfl ?_; clear F; clear a; intro a F
      refine stepOff F rfl rfl rfl rfl ?_; clear F; clear a; intro a F
      refine stepOff F rfl rfl rfl rfl ?_; clear F; clear a; intro a F
      refine stepD rfl F rfl (o_pickT (F.ev rfl) (F.ev rfl) ?_); clear F; clear a; intro a F
      refine stepD rfl F rfl (o_move (F.ev rfl) ?_); clear F; clear a; intro a F
      refine stepOff F rfl rfl rfl rfl ?_; clear F; clear a; intro a F
      refine stepOff F rfl rfl rfl rfl ?_; clear F; clear a; intro a F
      refine stepOff F rfl rfl rfl rfl ?_; clear F; clear a; intro a F
      refine stepOff F rfl rfl rfl rfl ?_; clear F; clear a; intro a F
      refine stepD rfl F rfl (o_pickT (F.ev rfl) (F.ev rfl) ?_); clear F; clear a; intro a F
      with_reducible refine l_nil ?_
      exact ⟨F.only [33, 1] rfl, by simp, M⟩
    cases c3 : isTime h.til
    · obtain rfl : ok = false := by rw [hok]; simp [hdO, c3]
      with_reducible refine c_region ?_
      refine stepD rfl F rfl (o_fieldAddr (F.ev rfl) ?_); clear F; clear a; intro a F
      refine stepD rfl F rfl (o_load1 M (F.ev rfl) (by repeat (first | exact .here | apply Has.there)) (by first | assumption | rfl) ?_); clear F; clear a; intro a F
      refine stepD rfl F rfl (o_lssF (F.ev rfl) (F.ev rfl) (by omega) ?_); clear F; clear a; intro a F
      refine stepD rfl F rfl (o_move (F.ev rfl) ?_); clear F; clear a; intro a F
      refine stepG rfl F rfl rfl rfl (o_fieldAddr (F.ev rfl) ?_); clear F; clear a; intro a F
      refine stepG rfl F rfl rfl rfl (o_load1 M (F.ev rfl) (by repeat (first | exact .here | apply Has.there)) (by first | assumption | rfl) ?_); clear F; clear a; intro a F
      refine stepG rfl F rfl rfl rfl (o_gtrF (F.ev rfl) (F.ev rfl) (by omega) ?_); clear F; clear a; intro a F
      refine stepD rfl F rfl (o_pickF (F.ev rfl) (F.ev rfl) ?_); clear F; clear a; intro a F
      refine stepD rfl F rfl (o_move (F.ev rfl) ?_); clear F; clear a; intro a F
      refine stepG rfl F rfl rfl rfl (o_fieldAddr (F.ev rfl) ?_); clear F; clear a; intro a F
      refine stepG rfl F rfl rfl rfl (o_load1 M (F.ev rfl) (by repeat (first | exact .here | apply Has.there)) (by first | assumption | rfl) ?_); clear F; clear a; intro a F
      (refine stepG rfl F rfl rfl rfl (o_call (F.ev rfl) (F.evs rfl) (Cal.mono (isTime_c h.til _) ?_)); clear F; clear a; rintro _ w ⟨rfl, hE⟩ a F; replace M := M.later hE; clear hE)
      rw [c3] at F
      refine stepG rfl F rfl rfl rfl (o_not (F.ev rfl) ?_); clear F; clear a; intro a F
      refine stepD rfl F rfl (o_pickF (F.ev rfl) (F.ev rfl) ?_); clear F; clear a; intro a F
      refine stepD rfl F rfl (o_move (F.ev rfl) ?_); clear F; clear a; intro a F
      refine stepOff F rfl rfl rfl rfl ?_; clear F; clear a; intro a F
      refine stepOff F rfl rfl rfl rfl ?_; clear F; clear a; intro a F
      refine stepOff F rfl rfl rfl rfl ?_; clear F; clear a; intro a F
      refine stepOff F rfl rfl rfl rfl ?_; clear F; clear a; intro a F
      refine stepD rfl F rfl (o_pickT (F.ev rfl) (F.ev rfl) ?_); clear F; clear a; intro a F
      refine stepD rfl F rfl (o_move (F.ev rfl) ?_); clear F; clear a; intro a F
      refine stepOff F rfl rfl rfl rfl ?_; clear F; clear a; intro a F
      refine stepOff F rfl rfl rfl rfl ?_; clear F; clear a; intro a F
      refine stepOff F rfl rfl rfl rfl ?_; clear F; clear a; intro a F
      refine stepOff F rfl rfl rfl rfl ?_; clear F; clear a; intro a F
      refine stepD rfl F rfl (o_pickT (F.ev rfl) (F.ev rfl) ?_); clear F; clear a; intro a F
      with_reducible refine l_nil ?_
      exact ⟨F.only [33, 1] rfl, by simp, M⟩
    by_cases c4 : 16 < ps.length
    · obtain rfl : ok = false := by rw [hok]; simp [hdO]; omega
      with_reducible refine c_region ?_
      refine stepD rfl F rfl (o_fieldAddr (F.ev rfl) ?_); clear F; clear a; intro a F
      refine stepD rfl F rfl (o_load1 M (F.ev rfl) (by repeat (first | exact .here | apply Has.there)) (by first | assumption | rfl) ?_); clear F; clear a; intro a F
      refine stepD rfl F rfl (o_lssF (F.ev rfl) (F.ev rfl) (by omega) ?_); clear F; clear a; intro a F
      refine stepD rfl F rfl (o_move (F.ev rfl) ?_); clear F; clear a; intro a F
      refine stepG rfl F rfl rfl rfl (o_fieldAddr (F.ev rfl) ?_); clear F; clear a; intro a F
      refine stepG rfl F rfl rfl rfl (o_load1 M (F.ev rfl) (by repeat (first | exact .here | apply Has.there)) (by first | assumption | rfl) ?_); clear F; clear a; intro a F
      refine stepG rfl F rfl rfl rfl (o_gtrF (F.ev rfl) (F.ev rfl) (by omega) ?_); clear F; clear a; intro a F
      refine stepD rfl F rfl (o_pickF (F.ev rfl) (F.ev rfl) ?_); clear F; clear a; intro a F
      refine stepD rfl F rfl (o_move (F.ev rfl) ?_); clear F; clear a; intro a F
      refine stepG rfl F rfl rfl rfl (o_fieldAddr (F.ev rfl) ?_); clear F; clear a; intro a F
      refine stepG rfl F rfl rfl rfl (o_load1 M (F.ev rfl) (by repeat (first | exact .here | apply Has.there)) (by first | assumption | rfl) ?_); clear F; clear a; intro a F
      (refine stepG rfl F rfl rfl rfl (o_call (F.ev rfl) (F.evs rfl) (Cal.mono (isTime_c h.til _) ?_)); clear F; clear a; rintro _ w ⟨rfl, hE⟩ a F; replace M := M.later hE; clear hE)
      rw [c3] at F
      refine stepG rfl F rfl rfl rfl (o_not (F.ev rfl) ?_); clear F; clear a; intro a F
      refine stepD rfl F rfl (o_pickF (F.ev rfl) (F.ev rfl) ?_); clear F; clear a; intro a F
      refine stepD rfl F rfl (o_move (F.ev rfl) ?_); clear F; clear a; intro a F
      refine stepG rfl F rfl rfl rfl (o_fieldAddr (F.ev rfl) ?_); clear F; clear a; intro a F
      refine stepG rfl F rfl rfl rfl (o_load1 M (F.ev rfl) (by repeat (first | exact .here | apply Has.there)) (by first | assumption | rfl) ?_); clear F; clear a; intro a F
      refine stepG rfl F rfl rfl rfl (o_lenSl (F.ev rfl) ?_); clear F; clear a; intro a F
      refine stepG rfl F rfl rfl rfl (o_gtrT (F.ev rfl) (F.ev rfl) (by omega) ?_); clear F; clear a; intro a F
      refine stepD rfl F rfl (o_pickF (F.ev rfl) (F.ev rfl) ?_); clear F; clear a; intro a F
      refine stepD rfl F rfl (o_move (F.ev rfl) ?_); clear F; clear a; intro a F
      refine stepOff F rfl rfl rfl rfl ?_; clear F; clear a; intro a F
      refine stepOff F rfl rfl rfl rfl ?_; clear F; clear a; intro a F
      refine stepOff F rfl rfl rfl rfl ?_; clear F; clear a; intro a F
      refine stepOff F rfl rfl rfl rfl ?_; clear F; clear a; intro a F
      refine stepD rfl F rfl (o_pickT (F.ev rfl) (F.ev rfl) ?_); clear F; clear a; intro a F
      with_reducible refine l_nil ?_
      exact ⟨F.only [33, 1] rfl, by simp, M⟩
    by_cases c5 : 16 < cs.length
    · obtain rfl : ok = false := by rw [hok]; simp [hdO]; omega
      with_reducible refine c_region ?_
      refine stepD rfl F rfl (o_fieldAddr (F.ev rfl) ?_); clear F; clear a; intro a F
      refine stepD rfl F rfl (o_load1 M (F.ev rfl) (by repeat (first | exact .here | apply Has.there)) (by first | assumption | rfl) ?_); clear F; clear a; intro a F
      refine stepD rfl F rfl (o_lssF (F.ev rfl) (F.ev rfl) (by omega) ?_); clear F; clear a; intro a F
      refine stepD rfl F rfl (o_move (F.ev rfl) ?_); clear F; clear a; intro a F
      refine stepG rfl F rfl rfl rfl (o_fieldAddr (F.ev rfl) ?_); clear F; clear a; intro a F
      refine stepG rfl F rfl rfl rfl (o_load1 M (F.ev rfl) (by repeat (first | exact .here | apply Has.there)) (by first | assumption | rfl) ?_); clear F; clear a; intro a F
      refine stepG rfl F rfl rfl rfl (o_gtrF (F.ev rfl) (F.ev rfl) (by omega) ?_); clear F; clear a; intro a F
      refine stepD rfl F rfl (o_pickF (F.ev rfl) (F.ev rfl) ?_); clear F; clear a; intro a F
      refine stepD rfl F rfl (o_move (F.ev rfl) ?_); clear F; clear a; intro a F
      refine stepG rfl F rfl rfl rfl (o_fieldAddr (F.ev rfl) ?_); clear F; clear a; intro a F
      refine stepG rfl F rfl rfl rfl (o_load1 M (F.ev rfl) (by repeat (first | exact .here | apply Has.there)) (by first | assumption | rfl) ?_); clear F; clear a; intro a F
      (refine stepG rfl F rfl rfl rfl (o_call (F.ev rfl) (F.evs rfl) (Cal.mono (isTime_c h.til _) ?_)); clear F; clear a; rintro _ w ⟨rfl, hE⟩ a F; replace M := M.later hE; clear hE)
      rw [c3] at F
      refine stepG rfl F rfl rfl rfl (o_not (F.ev rfl) ?_); clear F; clear a; intro a F
      refine stepD rfl F rfl (o_pickF (F.ev rfl) (F.ev rfl) ?_); clear F; clear a; intro a F
      refine stepD rfl F rfl (o_move (F.ev rfl) ?_); clear F; clear a; intro a F
      refine stepG rfl F rfl rfl rfl (o_fieldAddr (F.ev rfl) ?_); clear F; clear a; intro a F
      refine stepG rfl F rfl rfl rfl (o_load1 M (F.ev rfl) (by repeat (first | exact .here | apply Has.there)) (by first | assumption | rfl) ?_); clear F; clear a; intro a F
      refine stepG rfl F rfl rfl rfl (o_lenSl (F.ev rfl) ?_); clear F; clear a; intro a F
      refine stepG rfl F rfl rfl rfl (o_gtrF (F.ev rfl) (F.ev rfl) (by omega) ?_); clear F; clear a; intro a F
      refine stepD rfl F rfl (o_pickF (F.ev rfl) (F.ev rfl) ?_); clear F; clear a; intro a F
      refine stepD rfl F rfl (o_move (F.ev rfl) ?_); clear F; clear a; intro a F
      refine stepG rfl F rfl rfl rfl (o_fieldAddr (F.ev rfl) ?_); clear F; clear a; intro a F
      refine stepG rfl F rfl rfl rfl (o_load1 M (F.ev rfl) (by repeat (first | exact .here | apply Has.there)) (by first | assumption | rfl) ?_); clear F; clear a; intro a F
      refine stepG rfl F rfl rfl rfl (o_lenSl (F.ev rfl) ?_); clear F; clear a; intro a F
      refine stepG rfl F rfl rfl rfl (o_gtrT (F.ev rfl) (F.ev rfl) (by omega) ?_); clear F; clear a; intro a F
      refine stepD rfl F rfl (o_pickF (F.ev rfl) (F.ev rfl) ?_); clear F; clear a; intro a F
      with_reducible refine l_nil ?_
      exact ⟨F.only [33, 1] rfl, by simp, M⟩
    · obtain rfl : ok = true := by rw [hok]; simp [hdO, c3]; omega
      with_reducible refine c_region ?_
      refine stepD rfl F rfl (o_fieldAddr (F.ev rfl) ?_); clear F; clear a; intro a F
      refine stepD rfl F rfl (o_load1 M (F.ev rfl) (by repeat (first | exact .here | apply Has.there)) (by first | assumption | rfl) ?_); clear F; clear a; intro a F
      refine stepD rfl F rfl (o_lssF (F.ev rfl) (F.ev rfl) (by omega) ?_); clear F; clear a; intro a F
      refine stepD rfl F rfl (o_move (F.ev rfl) ?_); clear F; clear a; intro a F
      refine stepG rfl F rfl rfl rfl (o_fieldAddr (F.ev rfl) ?_); clear F; clear a; intro a F
      refine stepG rfl F rfl rfl rfl (o_load1 M (F.ev rfl) (by repeat (first | exact .here | apply Has.there)) (by first | assumption | rfl) ?_); clear F; clear a; intro a F
      refine stepG rfl F rfl rfl rfl (o_gtrF (F.ev rfl) (F.ev rfl) (by omega) ?_); clear F; clear a; intro a F
      refine stepD rfl F rfl (o_pickF (F.ev rfl) (F.ev rfl) ?_); clear F; clear a; intro a F
      refine stepD rfl F rfl (o_move (F.ev rfl) ?_); clear F; clear a; intro a F
      refine stepG rfl F rfl rfl rfl (o_fieldAddr (F.ev rfl) ?_); clear F; clear a; intro a F
      refine stepG rfl F rfl rfl rfl (o_load1 M (F.ev rfl) (by repeat (first | exact .here | apply Has.there)) (by first | assumption | rfl) ?_); clear F; clear a; intro a F
      (refine stepG rfl F rfl rfl rfl (o_call (F.ev rfl) (F.evs rfl) (Cal.mono (isTime_c h.til _) ?_)); clear F; clear a; rintro _ w ⟨rfl, hE⟩ a F; replace M := M.later hE; clear hE)
      rw [c3] at F
      refine stepG rfl F rfl rfl rfl (o_not (F.ev rfl) ?_); clear F; clear a; intro a F
      refine stepD rfl F rfl (o_pickF (F.ev rfl) (F.ev rfl) ?_); clear F; clear a; intro a F
      refine stepD rfl F rfl (o_move (F.ev rfl) ?_); clear F; clear a; intro a F
      refine stepG rfl F rfl rfl rfl (o_fieldAddr (F.ev rfl) ?_); clear F; clear a; intro a F
      refine stepG rfl F rfl rfl rfl (o_load1 M (F.ev rfl) (by repeat (first | exact .here | apply Has.there)) (by first | assumption | rfl) ?_); clear F; clear a; intro a F
      refine stepG rfl F rfl rfl rfl (o_lenSl (F.ev rfl) ?_); clear F; clear a; intro a F
      refine stepG rfl F rfl rfl rfl (o_gtrF (F.ev rfl) (F.ev rfl) (by omega) ?_); clear F; clear a; intro a F
      refine stepD rfl F rfl (o_pickF (F.ev rfl) (F.ev rfl) ?_); clear F; clear a; intro a F
      refine stepD rfl F rfl (o_move (F.ev rfl) ?_); clear F; clear a; intro a F
      refine stepG rfl F rfl rfl rfl (o_fieldAddr (F.ev rfl) ?_); clear F; clear a; intro a F
      refine stepG rfl F rfl rfl rfl (o_load1 M (F.ev rfl) (by repeat (first | exact .here | apply Has.there)) (by first | assumption | rfl) ?_); clear F; clear a; intro a F
      refine stepG rfl F rfl rfl rfl (o_lenSl (F.ev rfl) ?_); clear F; clear a; intro a F
      refine stepG rfl F rfl rfl rfl (o_gtrF (F.ev rfl) (F.ev rfl) (by omega) ?_); clear F; clear a; intro a F
      refine stepD rfl F rfl (o_pickF (F.ev rfl) (F.ev rfl) ?_); clear F; clear a; intro a F
      with_reducible refine l_nil ?_
      exact ⟨F.only [33, 1] rfl, by simp; omega, M⟩
  · clear F M a w
    rintro a w ⟨F, hle, M⟩
    clear hok
    cases ok
    · with_reducible refine q_then ?_
      refine c_true F rfl rfl ?_
      with_reducible refine c_seq ?_
      with_reducible refine c_region ?_
      refine stepD rfl F rfl (o_assign (F.ev rfl) ?_); clear F; clear a; intro a F
      with_reducible refine l_nil ?_
      with_reducible refine q_then ?_
      with_reducible refine c_ret ?_
      with_reducible refine q_thenR ?_
      refine p_ret F rfl (.cons (.tmp (F.ev rfl)) .nil) ?_
      exact ⟨by simp [oneOr], M.ext⟩
    · obtain ⟨hp16, hc16⟩ := hle rfl
      simp only [Bool.true_and]
      with_reducible refine q_then ?_
      refine c_false F rfl rfl ?_
      with_reducible refine c_skip ?_
      with_reducible refine q_then ?_
      with_reducible refine c_seq ?_
      with_reducible refine c_seq ?_
      with_reducible refine c_region ?_
      refine stepD rfl F rfl (o_fieldAddr (F.ev rfl) ?_); clear F; clear a; intro a F
      refine stepD rfl F rfl (o_load1 M (F.ev rfl) (by repeat (first | exact .here | apply Has.there)) (by first | assumption | rfl) ?_); clear F; clear a; intro a F
      refine stepD rfl F rfl (o_lenSl (F.ev rfl) ?_); clear F; clear a; intro a F
      refine stepD rfl F rfl (o_move (F.ev rfl) ?_); clear F; clear a; intro a F
      with_reducible refine l_nil ?_
      with_reducible refine q_then ?_
      with_reducible refine c_block ?_
      refine c_loop (fun m a w => ∃ i : Nat, m = ps.length - i ∧ i ≤ ps.length ∧ (∀ j (hj : j < i) (hl : j < ps.length), validPi ps[j] = true) ∧ Frm a 77 [] [(37, .int .i64 i), (36, .int .i64 ps.length), (35, .slice q1 ps.length cap1), (1, .pointer (some ⟨b1, 0, none⟩))] ∧ Mem [] W w [(b1, .cells oc.toArray 58 (0, 0))]) ps.length ⟨0, rfl, by omega, by omega, F.only [37, 36, 35, 1] rfl, M⟩ ?_
      clear F M
      rintro m a w ⟨i, hm, hi, hv, F, M⟩
      by_cases hlt : i < ps.length
      · obtain ⟨b, o, cs', t, fz, rfl, hb, hs⟩ := hm1 (by omega)
        obtain ⟨p, hp0⟩ : ∃ p, p = ps[i] := ⟨_, rfl⟩
        have hpi : IsPi p := by rw [hp0]; exact hps _ (List.getElem_mem hlt)
        have f1 : seg cs' (o + (i : Int).toNat * 20) 20 = some (piC p) := by rw [hp0]; exact seg_el (pis_len hps) hs hlt (by omega)
        have f2 := pi_pre hpi
        with_reducible refine c_seq ?_
        with_reducible refine c_region ?_
        refine stepD rfl F rfl (o_lssT (F.ev rfl) (F.ev rfl) (by omega) ?_); clear F; clear a; intro a F
        with_reducible refine l_nil ?_
        with_reducible refine q_then ?_
        with_reducible refine c_seq ?_
        refine c_true F rfl rfl ?_
        with_reducible refine c_skip ?_
        with_reducible refine q_then ?_
        with_reducible refine c_seq ?_
        with_reducible refine c_block ?_
        with_reducible refine c_seq ?_
        with_reducible refine c_region ?_
        refine stepD rfl F rfl (o_indexSl (F.ev rfl) (F.ev rfl) (by omega) (by omega) ?_); clear F; clear a; intro a F
        refine stepD rfl F rfl (o_loadWA M (F.ev rfl) (by assumption) (by first | assumption | rfl) ?_); clear F; clear a; intro a F
        (refine stepD rfl F rfl (o_alloc M ?_); clear F; clear M; intro b4 w M a F)
        (refine stepN rfl F (o_storeA M (F.ev rfl) (F.ev rfl) (pi_len hpi) (pi_one _)  (by repeat (first | exact .here | apply Has.there))  (put_all (by rw [pi_len hpi]; rfl)) (by repeat (first | exact .here | apply Upd.there)) ?_); clear F; clear M; intro w M a F)
        with_reducible refine l_nil ?_
        with_reducible refine q_then ?_
        with_reducible refine c_seq ?_
        with_reducible refine c_region ?_
        refine stepD rfl F rfl (o_fieldAddr (F.ev rfl) ?_); clear F; clear a; intro a F
        refine stepD rfl F rfl (o_loadA M (F.ev rfl) (by repeat (first | exact .here | apply Has.there)) (by first | assumption | rfl) ?_); clear F; clear a; intro a F
        (refine stepD rfl F rfl (o_call (F.ev rfl) (F.evs rfl) (Cal.mono (validPrefix_c p.ip p.bits hpi.len _) ?_)); clear F; clear a; rintro _ w ⟨rfl, hE⟩ a F; replace M := M.later hE; clear hE)
        cases hvp : validP p.ip p.bits
        · rw [hvp] at F
          have : ps.all validPi = false := all_f hlt (by rw [← hp0]; exact hvp)
          rw [this, Bool.false_and]
          refine stepD rfl F rfl (o_not (F.ev rfl) ?_); clear F; clear a; intro a F
          with_reducible refine l_nil ?_
          with_reducible refine q_then ?_
          refine c_true F rfl rfl ?_
          with_reducible refine c_seq ?_
          with_reducible refine c_region ?_
          refine stepD rfl F rfl (o_assign (F.ev rfl) ?_); clear F; clear a; intro a F
          with_reducible refine l_nil ?_
          with_reducible refine q_then ?_
          with_reducible refine c_ret ?_
          with_reducible refine q_inBR ?_
          with_reducible refine q_thenR ?_
          with_reducible refine q_thenR ?_
          with_reducible refine q_inBR ?_
          with_reducible refine q_thenR ?_
          refine p_ret F rfl (.cons (.tmp (F.ev rfl)) .nil) ?_
          exact ⟨rfl, M.ext⟩
        · rw [hvp] at F
          refine stepD rfl F rfl (o_not (F.ev rfl) ?_); clear F; clear a; intro a F
          with_reducible refine l_nil ?_
          with_reducible refine q_then ?_
          refine c_false F rfl rfl ?_
          with_reducible refine c_skip ?_
          with_reducible refine q_inB ?_
          with_reducible refine q_then ?_
          with_reducible refine c_region ?_
          refine stepD rfl F rfl (o_add (F.ev rfl) (F.ev rfl) (w_i64 (by omega) (by omega)) ?_); clear F; clear a; intro a F
          refine stepD rfl F rfl (o_move (F.ev rfl) ?_); clear F; clear a; intro a F
          with_reducible refine l_nil ?_
          with_reducible refine q_then ?_
          exact ⟨_, by omega, i + 1, rfl, by omega, fun j hj hl => by
            rcases Nat.lt_or_ge j i with h1 | h1
            · exact hv j h1 hl
            · obtain rfl : j = i := by omega
              rw [← hp0]; exact hvp, F.only [37, 36, 35, 1] rfl, M.sub (.cons _ (.refl _))⟩
      · obtain rfl : i = ps.length := by omega
        have : ps.all validPi = true := all_t fun j hj => hv j hj hj
        rw [this, Bool.true_and]
        with_reducible refine c_seq ?_
        with_reducible refine c_region ?_
        refine stepD rfl F rfl (o_lssF (F.ev rfl) (F.ev rfl) (by omega) ?_); clear F; clear a; intro a F
        with_reducible refine l_nil ?_
        with_reducible refine q_then ?_
        with_reducible refine c_seq ?_
        refine c_false F rfl rfl ?_
        with_reducible refine c_exit ?_
        with_reducible refine q_thenX ?_
        with_reducible refine q_thenX ?_
        with_reducible refine q_inBX ?_
        with_reducible refine q_then ?_
        with_reducible refine c_seq ?_
        with_reducible refine c_region ?_
        (refine stepD rfl F rfl (o_alloc M ?_); clear F; clear M; intro b5 w M a F)
        with_reducible refine l_nil ?_
        with_reducible refine q_then ?_
        with_reducible refine c_seq ?_
        with_reducible refine c_seq ?_
        with_reducible refine c_region ?_
        refine stepD rfl F rfl (o_fieldAddr (F.ev rfl) ?_); clear F; clear a; intro a F
        refine stepD rfl F rfl (o_load1 M (F.ev rfl) (by repeat (first | exact .here | apply Has.there)) (by first | assumption | rfl) ?_); clear F; clear a; intro a F
        refine stepD rfl F rfl (o_lenSl (F.ev rfl) ?_); clear F; clear a; intro a F
        refine stepD rfl F rfl (o_move (F.ev rfl) ?_); clear F; clear a; intro a F
        with_reducible refine l_nil ?_
        with_reducible refine q_then ?_
        with_reducible refine c_block ?_
        rw [← used_nil] at M
        refine c_loop (fun m a w => ∃ i : Nat, m = cs.length - i ∧ i ≤ cs.length ∧ (∀ j, j < i → ctx1 cs j = true) ∧ Frm a 77 [] [(49, .int .i64 i), (48, .int .i64 cs.length), (47, .slice q2 cs.length cap2), (5, .pointer (some ⟨b5, 0, none⟩)), (1, .pointer (some ⟨b1, 0, none⟩))] ∧ Mem [] W w [(b5, .cells (usedC (cs.take i)).toArray 120 (0, 0)), (b1, .cells oc.toArray 58 (0, 0))]) cs.length ⟨0, rfl, by omega, by omega, F.only [49, 48, 47, 5, 1] rfl, M⟩ ?_
        clear F M
        rintro m a w ⟨i, hm, hi, hv2, F, M⟩
        by_cases hlt : i < cs.length
        · obtain ⟨b, o, cs', t, fz, rfl, hb, hs⟩ := hm2 (by omega)
          obtain ⟨c, hc0⟩ : ∃ c, c = cs[i] := ⟨_, rfl⟩
          have hci : IsCi c := by rw [hc0]; exact hcs _ (List.getElem_mem hlt)
          have f1 : seg cs' (o + (i : Int).toNat * 20) 20 = some (ciC c) := by rw [hc0]; exact seg_el (cis_len hcs) hs hlt (by omega)
          have f2 := ci_id hci
          have f3 := ci_pre hci
          have hct := ctx1_at hlt
          rw [← hc0] at hct
          with_reducible refine c_seq ?_
          with_reducible refine c_region ?_
          refine stepD rfl F rfl (o_lssT (F.ev rfl) (F.ev rfl) (by omega) ?_); clear F; clear a; intro a F
          with_reducible refine l_nil ?_
          with_reducible refine q_then ?_
          with_reducible refine c_seq ?_
          refine c_true F rfl rfl ?_
          with_reducible refine c_skip ?_
          with_reducible refine q_then ?_
          with_reducible refine c_seq ?_
          with_reducible refine c_block ?_
          with_reducible refine c_seq ?_
          with_reducible refine c_region ?_
          refine stepD rfl F rfl (o_indexSl (F.ev rfl) (F.ev rfl) (by omega) (by omega) ?_); clear F; clear a; intro a F
          refine stepD rfl F rfl (o_loadWA M (F.ev rfl) (by assumption) (by first | assumption | rfl) ?_); clear F; clear a; intro a F
          (refine stepD rfl F rfl (o_alloc M ?_); clear F; clear M; intro b7 w M a F)
          (refine stepN rfl F (o_storeA M (F.ev rfl) (F.ev rfl) (ci_len hci) (ci_one _)  (by repeat (first | exact .here | apply Has.there))  (put_all (by rw [ci_len hci]; rfl)) (by repeat (first | exact .here | apply Upd.there)) ?_); clear F; clear M; intro w M a F)
          by_cases c1 : c.id < 0
          · have : allI (ctx1 cs) cs.length = false := allI_f hlt (by rw [hct, decide_eq_false (by omega)]; rfl)
            rw [this]
            with_reducible refine l_nil ?_
            with_reducible refine q_then ?_
            with_reducible refine c_seq ?_
            with_reducible refine c_seq ?_
            with_reducible refine c_region ?_
            refine stepD rfl F rfl (o_fieldAddr (F.ev rfl) ?_); clear F; clear a; intro a F
            refine stepD rfl F rfl (o_load1 M (F.ev rfl) (by repeat (first | exact .here | apply Has.there)) (by first | assumption | rfl) ?_); clear F; clear a; intro a F
            refine stepD rfl F rfl (o_lssT (F.ev rfl) (F.ev rfl) (by omega) ?_); clear F; clear a; intro a F
            refine stepD rfl F rfl (o_move (F.ev rfl) ?_); clear F; clear a; intro a F
            refine stepOff F rfl rfl rfl rfl ?_; clear F; clear a; intro a F
            refine stepOff F rfl rfl rfl rfl ?_; clear F; clear a; intro a F
            refine stepOff F rfl rfl rfl rfl ?_; clear F; clear a; intro a F
            refine stepD rfl F rfl (o_pickT (F.ev rfl) (F.ev rfl) ?_); clear F; clear a; intro a F
            refine stepD rfl F rfl (o_move (F.ev rfl) ?_); clear F; clear a; intro a F
            refine stepOff F rfl rfl rfl rfl ?_; clear F; clear a; intro a F
            refine stepOff F rfl rfl rfl rfl ?_; clear F; clear a; intro a F
            refine stepOff F rfl rfl rfl rfl ?_; clear F; clear a; intro a F
            refine stepOff F rfl rfl rfl rfl ?_; clear F; clear a; intro a F
            refine stepD rfl F rfl (o_pickT (F.ev rfl) (F.ev rfl) ?_); clear F; clear a; intro a F
            refine stepD rfl F rfl (o_move (F.ev rfl) ?_); clear F; clear a; intro a F
            refine stepOff F rfl rfl rfl rfl ?_; clear F; clear a; intro a F
            refine stepOff F rfl rfl rfl rfl ?_; clear F; clear a; intro a F
            refine stepOff F rfl rfl rfl rfl ?_; clear F; clear a; intro a F
            refine stepOff F rfl rfl rfl rfl ?_; clear F; clear a; intro a F
            refine stepD rfl F rfl (o_pickT (F.ev rfl) (F.ev rfl) ?_); clear F; clear a; intro a F
            with_reducible refine l_nil ?_
            with_reducible refine q_then ?_
            refine c_true F rfl rfl ?_
            with_reducible refine c_seq ?_
            with_reducible refine c_region ?_
            refine stepD rfl F rfl (o_assign (F.ev rfl) ?_); clear F; clear a; intro a F
            with_reducible refine l_nil ?_
            with_reducible refine q_then ?_
            with_reducible refine c_ret ?_
            with_reducible refine q_thenR ?_
            with_reducible refine q_inBR ?_
            with_reducible refine q_thenR ?_
            with_reducible refine q_thenR ?_
            with_reducible refine q_inBR ?_
            with_reducible refine q_thenR ?_
            refine p_ret F rfl (.cons (.tmp (F.ev rfl)) .nil) ?_
            exact ⟨rfl, M.ext⟩
          by_cases c2 : 16 ≤ c.id
          · have : allI (ctx1 cs) cs.length = false := allI_f hlt (by rw [hct, decide_eq_false (show ¬ c.id < 16 by omega)]; simp)
            rw [this]
            with_reducible refine l_nil ?_
            with_reducible refine q_then ?_
            with_reducible refine c_seq ?_
            with_reducible refine c_seq ?_
            with_reducible refine c_region ?_
            refine stepD rfl F rfl (o_fieldAddr (F.ev rfl) ?_); clear F; clear a; intro a F
            refine stepD rfl F rfl (o_load1 M (F.ev rfl) (by repeat (first | exact .here | apply Has.there)) (by first | assumption | rfl) ?_); clear F; clear a; intro a F
            refine stepD rfl F rfl (o_lssF (F.ev rfl) (F.ev rfl) (by omega) ?_); clear F; clear a; intro a F
            refine stepD rfl F rfl (o_move (F.ev rfl) ?_); clear F; clear a; intro a F
            refine stepG rfl F rfl rfl rfl (o_fieldAddr (F.ev rfl) ?_); clear F; clear a; intro a F
            refine stepG rfl F rfl rfl rfl (o_load1 M (F.ev rfl) (by repeat (first | exact .here | apply Has.there)) (by first | assumption | rfl) ?_); clear F; clear a; intro a F
            refine stepG rfl F rfl rfl rfl (o_geqT (F.ev rfl) (F.ev rfl) (by omega) ?_); clear F; clear a; intro a F
            refine stepD rfl F rfl (o_pickF (F.ev rfl) (F.ev rfl) ?_); clear F; clear a; intro a F
            refine stepD rfl F rfl (o_move (F.ev rfl) ?_); clear F; clear a; intro a F
            refine stepOff F rfl rfl rfl rfl ?_; clear F; clear a; intro a F
            refine stepOff F rfl rfl rfl rfl ?_; clear F; clear a; intro a F
            refine stepOff F rfl rfl rfl rfl ?_; clear F; clear a; intro a F
            refine stepOff F rfl rfl rfl rfl ?_; clear F; clear a; intro a F
            refine stepD rfl F rfl (o_pickT (F.ev rfl) (F.ev rfl) ?_); clear F; clear a; intro a F
            refine stepD rfl F rfl (o_move (F.ev rfl) ?_); clear F; clear a; intro a F
            refine stepOff F rfl rfl rfl rfl ?_; clear F; clear a; intro a F
            refine stepOff F rfl rfl rfl rfl ?_; clear F; clear a; intro a F
            refine stepOff F rfl rfl rfl rfl ?_; clear F; clear a; intro a F
            refine stepOff F rfl rfl rfl rfl ?_; clear F; clear a; intro a F
            refine stepD rfl F rfl (o_pickT (F.ev rfl) (F.ev rfl) ?_); clear F; clear a; intro a F
            with_reducible refine l_nil ?_
            with_reducible refine q_then ?_
            refine c_true F rfl rfl ?_
            with_reducible refine c_seq ?_
            with_reducible refine c_region ?_
            refine stepD rfl F rfl (o_assign (F.ev rfl) ?_); clear F; clear a; intro a F
            with_reducible refine l_nil ?_
            with_reducible refine q_then ?_
            with_reducible refine c_ret ?_
            with_reducible refine q_thenR ?_
            with_reducible refine q_inBR ?_
            with_reducible refine q_thenR ?_
            with_reducible refine q_thenR ?_
            with_reducible refine q_inBR ?_
            with_reducible refine q_thenR ?_
            refine p_ret F rfl (.cons (.tmp (F.ev rfl)) .nil) ?_
            exact ⟨rfl, M.ext⟩
          rw [decide_eq_true (show 0 ≤ c.id by omega), decide_eq_true (show c.id < 16 by omega), Bool.true_and, Bool.true_and] at hct
          have f4 : nth (usedC (cs.take i)) (0 + c.id.toNat * 1) = some (.bool ((cs.take i).any fun x => x.id == c.id)) := used_at _ (by omega) (by omega) (by omega)
          cases c3 : (cs.take i).any fun x => x.id == c.id
          · rw [c3] at f4 hct
            cases c4 : validP c.ip c.bits
            · have : allI (ctx1 cs) cs.length = false := allI_f hlt (by rw [hct, c4]; rfl)
              rw [this]
              with_reducible refine l_nil ?_
              with_reducible refine q_then ?_
              with_reducible refine c_seq ?_
              with_reducible refine c_seq ?_
              with_reducible refine c_region ?_
              refine stepD rfl F rfl (o_fieldAddr (F.ev rfl) ?_); clear F; clear a; intro a F
              refine stepD rfl F rfl (o_load1 M (F.ev rfl) (by repeat (first | exact .here | apply Has.there)) (by first | assumption | rfl) ?_); clear F; clear a; intro a F
              refine stepD rfl F rfl (o_lssF (F.ev rfl) (F.ev rfl) (by omega) ?_); clear F; clear a; intro a F
              refine stepD rfl F rfl (o_move (F.ev rfl) ?_); clear F; clear a; intro a F
              refine stepG rfl F rfl rfl rfl (o_fieldAddr (F.ev rfl) ?_); clear F; clear a; intro a F
              refine stepG rfl F rfl rfl rfl (o_load1 M (F.ev rfl) (by repeat (first | exact .here | apply Has.there)) (by first | assumption | rfl) ?_); clear F; clear a; intro a F
              refine stepG rfl F rfl rfl rfl (o_geqF (F.ev rfl) (F.ev rfl) (by omega) ?_); clear F; clear a; intro a F
              refine stepD rfl F rfl (o_pickF (F.ev rfl) (F.ev rfl) ?_); clear F; clear a; intro a F
              refine stepD rfl F rfl (o_move (F.ev rfl) ?_); clear F; clear a; intro a F
              refine stepG rfl F rfl rfl rfl (o_fieldAddr (F.ev rfl) ?_); clear F; clear a; intro a F
              refine stepG rfl F rfl rfl rfl (o_load1 M (F.ev rfl) (by repeat (first | exact .here | apply Has.there)) (by first | assumption | rfl) ?_); clear F; clear a; intro a F
              refine stepG rfl F rfl rfl rfl (o_indexArr (F.ev rfl) (F.ev rfl) (by omega) (by omega) ?_); clear F; clear a; intro a F
              refine stepG rfl F rfl rfl rfl (o_load1 M (F.ev rfl) (by repeat (first | exact .here | apply Has.there)) (by first | assumption | rfl) ?_); clear F; clear a; intro a F
              refine stepD rfl F rfl (o_pickF (F.ev rfl) (F.ev rfl) ?_); clear F; clear a; intro a F
              refine stepD rfl F rfl (o_move (F.ev rfl) ?_); clear F; clear a; intro a F
              refine stepG rfl F rfl rfl rfl (o_fieldAddr (F.ev rfl) ?_); clear F; clear a; intro a F
              refine stepG rfl F rfl rfl rfl (o_loadA M (F.ev rfl) (by repeat (first | exact .here | apply Has.there)) (by first | assumption | rfl) ?_); clear F; clear a; intro a F
              (refine stepG rfl F rfl rfl rfl (o_call (F.ev rfl) (F.evs rfl) (Cal.mono (validPrefix_c c.ip c.bits hci.len _) ?_)); clear F; clear a; rintro _ w ⟨rfl, hE⟩ a F; replace M := M.later hE; clear hE)
              rw [c4] at F
              refine stepG rfl F rfl rfl rfl (o_not (F.ev rfl) ?_); clear F; clear a; intro a F
              refine stepD rfl F rfl (o_pickF (F.ev rfl) (F.ev rfl) ?_); clear F; clear a; intro a F
              with_reducible refine l_nil ?_
              with_reducible refine q_then ?_
              refine c_true F rfl rfl ?_
              with_reducible refine c_seq ?_
              with_reducible refine c_region ?_
              refine stepD rfl F rfl (o_assign (F.ev rfl) ?_); clear F; clear a; intro a F
              with_reducible refine l_nil ?_
              with_reducible refine q_then ?_
              with_reducible refine c_ret ?_
              with_reducible refine q_thenR ?_
              with_reducible refine q_inBR ?_
              with_reducible refine q_thenR ?_
              with_reducible refine q_thenR ?_
              with_reducible refine q_inBR ?_
              with_reducible refine q_thenR ?_
              refine p_ret F rfl (.cons (.tmp (F.ev rfl)) .nil) ?_
              exact ⟨rfl, M.ext⟩
            · with_reducible refine l_nil ?_
              with_reducible refine q_then ?_
              with_reducible refine c_seq ?_
              with_reducible refine c_seq ?_
              with_reducible refine c_region ?_
              refine stepD rfl F rfl (o_fieldAddr (F.ev rfl) ?_); clear F; clear a; intro a F
              refine stepD rfl F rfl (o_load1 M (F.ev rfl) (by repeat (first | exact .here | apply Has.there)) (by first | assumption | rfl) ?_); clear F; clear a; intro a F
              refine stepD rfl F rfl (o_lssF (F.ev rfl) (F.ev rfl) (by omega) ?_); clear F; clear a; intro a F
              refine stepD rfl F rfl (o_move (F.ev rfl) ?_); clear F; clear a; intro a F
              refine stepG rfl F rfl rfl rfl (o_fieldAddr (F.ev rfl) ?_); clear F; clear a; intro a F
              refine stepG rfl F rfl rfl rfl (o_load1 M (F.ev rfl) (by repeat (first | exact .here | apply Has.there)) (by first | assumption | rfl) ?_); clear F; clear a; intro a F
              refine stepG rfl F rfl rfl rfl (o_geqF (F.ev rfl) (F.ev rfl) (by omega) ?_); clear F; clear a; intro a F
              refine stepD rfl F rfl (o_pickF (F.ev rfl) (F.ev rfl) ?_); clear F; clear a; intro a F
              refine stepD rfl F rfl (o_move (F.ev rfl) ?_); clear F; clear a; intro a F
              refine stepG rfl F rfl rfl rfl (o_fieldAddr (F.ev rfl) ?_); clear F; clear a; intro a F
              refine stepG rfl F rfl rfl rfl (o_load1 M (F.ev rfl) (by repeat (first | exact .here | apply Has.there)) (by first | assumption | rfl) ?_); clear F; clear a; intro a F
              refine stepG rfl F rfl rfl rfl (o_indexArr (F.ev rfl) (F.ev rfl) (by omega) (by omega) ?_); clear F; clear a; intro a F
              refine stepG rfl F rfl rfl rfl (o_load1 M (F.ev rfl) (by repeat (first | exact .here | apply Has.there)) (by first | assumption | rfl) ?_); clear F; clear a; intro a F
              refine stepD rfl F rfl (o_pickF (F.ev rfl) (F.ev rfl) ?_); clear F; clear a; intro a F
              refine stepD rfl F rfl (o_move (F.ev rfl) ?_); clear F; clear a; intro a F
              refine stepG rfl F rfl rfl rfl (o_fieldAddr (F.ev rfl) ?_); clear F; clear a; intro a F
              refine stepG rfl F rfl rfl rfl (o_loadA M (F.ev rfl) (by repeat (first | exact .here | apply Has.there)) (by first | assumption | rfl) ?_); clear F; clear a; intro a F
              (refine stepG rfl F rfl rfl rfl (o_call (F.ev rfl) (F.evs rfl) (Cal.mono (validPrefix_c c.ip c.bits hci.len _) ?_)); clear F; clear a; rintro _ w ⟨rfl, hE⟩ a F; replace M := M.later hE; clear hE)
              rw [c4] at F
              refine stepG rfl F rfl rfl rfl (o_not (F.ev rfl) ?_); clear F; clear a; intro a F
              refine stepD rfl F rfl (o_pickF (F.ev rfl) (F.ev rfl) ?_); clear F; clear a; intro a F
              with_reducible refine l_nil ?_
              with_reducible refine q_then ?_
              refine c_false F rfl rfl ?_
              with_reducible refine c_skip ?_
              with_reducible refine q_then ?_
              with_reducible refine c_region ?_
              refine stepD rfl F rfl (o_fieldAddr (F.ev rfl) ?_); clear F; clear a; intro a F
              refine stepD rfl F rfl (o_load1 M (F.ev rfl) (by repeat (first | exact .here | apply Has.there)) (by first | assumption | rfl) ?_); clear F; clear a; intro a F
              refine stepD rfl F rfl (o_indexArr (F.ev rfl) (F.ev rfl) (by omega) (by omega) ?_); clear F; clear a; intro a F
              (refine stepN rfl F (o_store1 M (F.ev rfl) (F.ev rfl) rfl (by repeat (first | exact .here | apply Has.there)) (used_put (cs.take i) c (by omega) (by omega) (by omega)) (by repeat (first | exact .here | apply Upd.there)) ?_); clear F; clear M; intro w M a F)
              with_reducible refine l_nil ?_
              with_reducible refine q_inB ?_
              with_reducible refine q_then ?_
              with_reducible refine c_region ?_
              refine stepD rfl F rfl (o_add (F.ev rfl) (F.ev rfl) (w_i64 (by omega) (by omega)) ?_); clear F; clear a; intro a F
              refine stepD rfl F rfl (o_move (F.ev rfl) ?_); clear F; clear a; intro a F
              with_reducible refine l_nil ?_
              with_reducible refine q_then ?_
              exact ⟨_, by omega, i + 1, rfl, by omega, fun j hj => by
                rcases Nat.lt_or_ge j i with h1 | h1
                · exact hv2 j h1
                · obtain rfl : j = i := by omega
                  rw [hct, c4]; rfl, F.only [49, 48, 47, 5, 1] rfl, by
                rw [List.take_add_one, List.getElem?_eq_getElem hlt, ← hc0]
                exact M.sub (.cons _ (.refl _))⟩
          · rw [c3] at f4 hct
            have : allI (ctx1 cs) cs.length = false := allI_f hlt (by rw [hct]; rfl)
            rw [this]
            with_reducible refine l_nil ?_
            with_reducible refine q_then ?_
            with_reducible refine c_seq ?_
            with_reducible refine c_seq ?_
            with_reducible refine c_region ?_
            refine stepD rfl F rfl (o_fieldAddr (F.ev rfl) ?_); clear F; clear a; intro a F
            refine stepD rfl F rfl (o_load1 M (F.ev rfl) (by repeat (first | exact .here | apply Has.there)) (by first | assumption | rfl) ?_); clear F; clear a; intro a F
            refine stepD rfl F rfl (o_lssF (F.ev rfl) (F.ev rfl) (by omega) ?_); clear F; clear a; intro a F
            refine stepD rfl F rfl (o_move (F.ev rfl) ?_); clear F; clear a; intro a F
            refine stepG rfl F rfl rfl rfl (o_fieldAddr (F.ev rfl) ?_); clear F; clear a; intro a F
            refine stepG rfl F rfl rfl rfl (o_load1 M (F.ev rfl) (by repeat (first | exact .here | apply Has.there)) (by first | assumption | rfl) ?_); clear F; clear a; intro a F
            refine stepG rfl F rfl rfl rfl (o_geqF (F.ev rfl) (F.ev rfl) (by omega) ?_); clear F; clear a; intro a F
            refine stepD rfl F rfl (o_pickF (F.ev rfl) (F.ev rfl) ?_); clear F; clear a; intro a F
            refine stepD rfl F rfl (o_move (F.ev rfl) ?_); clear F; clear a; intro a F
            refine stepG rfl F rfl rfl rfl (o_fieldAddr (F.ev rfl) ?_); clear F; clear a; intro a F
            refine stepG rfl F rfl rfl rfl (o_load1 M (F.ev rfl) (by repeat (first | exact .here | apply Has.there)) (by first | assumption | rfl) ?_); clear F; clear a; intro a F
            refine stepG rfl F rfl rfl rfl (o_indexArr (F.ev rfl) (F.ev rfl) (by omega) (by omega) ?_); clear F; clear a; intro a F
            refine stepG rfl F rfl rfl rfl (o_load1 M (F.ev rfl) (by repeat (first | exact .here | apply Has.there)) (by first | assumption | rfl) ?_); clear F; clear a; intro a F
            refine stepD rfl F rfl (o_pickF (F.ev rfl) (F.ev rfl) ?_); clear F; clear a; intro a F
            refine stepD rfl F rfl (o_move (F.ev rfl) ?_); clear F; clear a; intro a F
            refine stepOff F rfl rfl rfl rfl ?_; clear F; clear a; intro a F
            refine stepOff F rfl rfl rfl rfl ?_; clear F; clear a; intro a F
            refine stepOff F rfl rfl rfl rfl ?_; clear F; clear a; intro a F
            refine stepOff F rfl rfl rfl rfl ?_; clear F; clear a; intro a F
            refine stepD rfl F rfl (o_pickT (F.ev rfl) (F.ev rfl) ?_); clear F; clear a; intro a F
            with_reducible refine l_nil ?_
            with_reducible refine q_then ?_
            refine c_true F rfl rfl ?_
            with_reducible refine c_seq ?_
            with_reducible refine c_region ?_
            refine stepD rfl F rfl (o_assign (F.ev rfl) ?_); clear F; clear a; intro a F
            with_reducible refine l_nil ?_
            with_reducible refine q_then ?_
            with_reducible refine c_ret ?_
            with_reducible refine q_thenR ?_
            with_reducible refine q_inBR ?_
            with_reducible refine q_thenR ?_
            with_reducible refine q_thenR ?_
            with_reducible refine q_inBR ?_
            with_reducible refine q_thenR ?_
            refine p_ret F rfl (.cons (.tmp (F.ev rfl)) .nil) ?_
            exact ⟨rfl, M.ext⟩
        · obtain rfl : i = cs.length := by omega
          have : allI (ctx1 cs) cs.length = true := allI_t hv2
          rw [this]
          with_reducible refine c_seq ?_
          with_reducible refine c_region ?_
          refine stepD rfl F rfl (o_lssF (F.ev rfl) (F.ev rfl) (by omega) ?_); clear F; clear a; intro a F
          with_reducible refine l_nil ?_
          with_reducible refine q_then ?_
          with_reducible refine c_seq ?_
          refine c_false F rfl rfl ?_
          with_reducible refine c_exit ?_
          with_reducible refine q_thenX ?_
          with_reducible refine q_thenX ?_
          with_reducible refine q_inBX ?_
          with_reducible refine q_then ?_
          with_reducible refine c_seq ?_
          with_reducible refine c_region ?_
          refine stepD rfl F rfl (o_assign (F.ev rfl) ?_); clear F; clear a; intro a F
          with_reducible refine l_nil ?_
          with_reducible refine q_then ?_
          with_reducible refine c_ret ?_
          refine p_ret F rfl (.cons (.tmp (F.ev rfl)) .nil) ?_
          exact ⟨rfl, M.ext⟩
end Go.Proofs.Ytainnefmobfcjaa

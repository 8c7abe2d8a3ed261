/-
  Texts joined: G2, NOpen, NOpen2, LibQ, E0, E1, E2, E3, E4, E5.
-/
import Derived.Test.YtainnefmobfcjaaD3
import Derived.Laws.Externs
import Derived.Lib.Overlaps
import Derived.Lib.BytesEntry
/-! G2 -/
/-
  Taken out of texts that were proved for another seat: XS1, XS2, XH1, XU2, XV6, XX2.
-/
namespace Go.Proofs.Ytainnefmobfcjaa
set_option linter.unusedVariables false
set_option linter.unusedSimpArgs false
open Go.RowKit
section
set_option linter.unusedVariables false
set_option linter.unusedSimpArgs false
open Go.RowKit
attribute [local irreducible] OpTo wpListIn Code.wpIn MW Cal
theorem quo8 {i : Nat} (hi : i ≤ 1000) : IntKind.i64.wrap ((i : Int).tdiv 8) = ((i / 8 : Nat) : Int) := by
  rw [Int.tdiv_eq_ediv_of_nonneg (by omega), w_i64 (by omega) (by omega)]; omega
theorem rem8 (i : Nat) : (i : Int).tmod 8 = ((i % 8 : Nat) : Int) := by
  rw [Int.tmod_eq_emod_of_nonneg (by omega)]; omega
set_option maxHeartbeats 400000 in
theorem bit_c (a : List Int) (ha : IsIP a) (i : Nat) (hi : i < 128) (W : World) : Cal Try.prog 38 [.agg (ipC a).toArray, .int .i64 i].toArray W fun v w' => v = .int .u8 (bitI a i) ∧ Ext [] W w' := by
  have hlt : i % 8 < 8 := Nat.mod_lt _ (by omega)
  have hn : nth (ipC a) (0 + ((i / 8 : Nat) : Int).toNat * 1) = some (.int .u8 (a.getD (i / 8) 0)) := nth_ip (by rw [ha.len]; omega)
  refine fn_ofM (n := 15) [] Try.func38 rfl rfl rfl ?_
  intro a w F M hwW
  refine c_seq ?_
  refine c_region ?_
  (refine stepD rfl F rfl (o_box M (F.ev rfl) rfl ?_); clear F; clear M; intro b2 w M a F)
  refine stepD rfl F rfl (o_assign (F.ev rfl) ?_); clear F; clear a; intro a F
  with_reducible refine l_nil ?_
  with_reducible refine q_then ?_
  with_reducible refine c_seq ?_
  with_reducible refine c_region ?_
  refine stepD rfl F rfl (o_move (F.ev rfl) ?_); clear F; clear a; intro a F
  refine stepD rfl F rfl (o_quo (F.ev rfl) (F.ev rfl) (by omega) rfl ?_); clear F; clear a; intro a F
  rw [quo8 (i := i) (by omega)] at F
  refine stepD rfl F rfl (o_indexArr (F.ev rfl) (F.ev rfl) (by omega) (by omega) ?_); clear F; clear a; intro a F
  refine stepD rfl F rfl (o_load1 M (F.ev rfl) (by repeat (first | exact .here | apply Has.there)) (by first | assumption | rfl) ?_); clear F; clear a; intro a F
  refine stepD rfl F rfl (o_move (F.ev rfl) ?_); clear F; clear a; intro a F
  refine stepD rfl F rfl (o_rem (F.ev rfl) (F.ev rfl) (by omega) rfl ?_); clear F; clear a; intro a F
  rw [rem8 i] at F
  refine stepD rfl F rfl (o_conv (F.ev rfl) (w_u64 (by omega) (by omega)) ?_); clear F; clear a; intro a F
  refine stepD rfl F rfl (o_sub (F.ev rfl) (F.ev rfl) (w_u64 (by omega) (by omega)) ?_); clear F; clear a; intro a F
  refine stepD rfl F rfl (o_shr (F.ev rfl) (F.ev rfl) (by omega) rfl ?_); clear F; clear a; intro a F
  refine stepD rfl F rfl (o_and (F.ev rfl) (F.ev rfl) rfl ?_); clear F; clear a; intro a F
  refine stepD rfl F rfl (o_assign (F.ev rfl) ?_); clear F; clear a; intro a F
  with_reducible refine l_nil ?_
  with_reducible refine q_then ?_
  with_reducible refine c_ret ?_
  refine p_ret F rfl (.cons (.tmp (F.ev rfl)) .nil) ?_
  exact ⟨rfl, M.ext⟩
set_option maxHeartbeats 400000 in
theorem rvalidPrefix_c (p : List Int) (n : Int) (hp : IsIP p) (W : World) : Cal Try.prog 68 [.agg (pfC p n).toArray].toArray W fun v w' => v = .bool (validP p n) ∧ Ext [] W w' := by
  have e2 := seg_pf0 hp.len n
  have e3 := nth_pf hp.len n
  by_cases h0 : n < 0
  · refine fn_ofM (n := 23) [] Try.func68 rfl rfl rfl ?_
    intro a w F M hwW
    refine c_seq ?_
    refine c_region ?_
    (refine stepD rfl F rfl (o_box M (F.ev rfl) rfl ?_); clear F; clear M; intro b1 w M a F)
    refine stepD rfl F rfl (o_assign (F.ev rfl) ?_); clear F; clear a; intro a F
    with_reducible refine l_nil ?_
    with_reducible refine q_then ?_
    with_reducible refine c_seq ?_
    with_reducible refine c_seq ?_
    with_reducible refine c_region ?_
    refine stepD rfl F rfl (o_fieldAddr (F.ev rfl) ?_); clear F; clear a; intro a F
    refine stepD rfl F rfl (o_load1 M (F.ev rfl) (by repeat (first | exact .here | apply Has.there)) (by first | assumption | rfl) ?_); clear F; clear a; intro a F
    refine stepD rfl F rfl (o_lssT (F.ev rfl) (F.ev rfl) (by omega) ?_); clear F; clear a; intro a F
    refine stepD rfl F rfl (o_move (F.ev rfl) ?_); clear F; clear a; intro a F
    refine stepOff F rfl rfl rfl rfl ?_; clear F; clear a; intro a F
    refine stepOff F rfl rfl rfl rfl ?_; clear F; clear a; intro a F
    refine stepOff F rfl rfl rfl rfl ?_; clear F; clear a; intro a F
    refine stepD rfl F rfl (o_pickT (F.ev rfl) (F.ev rfl) ?_); clear F; clear a; intro a F
    with_reducible refine l_nil ?_
    with_reducible refine q_then ?_
    refine c_true F rfl rfl ?_
    with_reducible refine c_seq ?_
    with_reducible refine c_region ?_
    refine stepD rfl F rfl (o_assign (F.ev rfl) ?_); clear F; clear a; intro a F
    with_reducible refine l_nil ?_
    with_reducible refine q_then ?_
    with_reducible refine c_ret ?_
    with_reducible refine q_thenR ?_
    refine p_ret F rfl (.cons (.tmp (F.ev rfl)) .nil) ?_
    exact ⟨by simp [oneOr, validP, show ¬ 0 ≤ n by omega], M.ext⟩
  · by_cases h1 : 128 < n
    · refine fn_ofM (n := 23) [] Try.func68 rfl rfl rfl ?_
      intro a w F M hwW
      refine c_seq ?_
      refine c_region ?_
      (refine stepD rfl F rfl (o_box M (F.ev rfl) rfl ?_); clear F; clear M; intro b1 w M a F)
      refine stepD rfl F rfl (o_assign (F.ev rfl) ?_); clear F; clear a; intro a F
      with_reducible refine l_nil ?_
      with_reducible refine q_then ?_
      with_reducible refine c_seq ?_
      with_reducible refine c_seq ?_
      with_reducible refine c_region ?_
      refine stepD rfl F rfl (o_fieldAddr (F.ev rfl) ?_); clear F; clear a; intro a F
      refine stepD rfl F rfl (o_load1 M (F.ev rfl) (by repeat (first | exact .here | apply Has.there)) (by first | assumption | rfl) ?_); clear F; clear a; intro a F
      refine stepD rfl F rfl (o_lssF (F.ev rfl) (F.ev rfl) (by omega) ?_); clear F; clear a; intro a F
      refine stepD rfl F rfl (o_move (F.ev rfl) ?_); clear F; clear a; intro a F
      refine stepG rfl F rfl rfl rfl (o_fieldAddr (F.ev rfl) ?_); clear F; clear a; intro a F
      refine stepG rfl F rfl rfl rfl (o_load1 M (F.ev rfl) (by repeat (first | exact .here | apply Has.there)) (by first | assumption | rfl) ?_); clear F; clear a; intro a F
      refine stepG rfl F rfl rfl rfl (o_gtrT (F.ev rfl) (F.ev rfl) (by omega) ?_); clear F; clear a; intro a F
      refine stepD rfl F rfl (o_pickF (F.ev rfl) (F.ev rfl) ?_); clear F; clear a; intro a F
      with_reducible refine l_nil ?_
      with_reducible refine q_then ?_
      refine c_true F rfl rfl ?_
      with_reducible refine c_seq ?_
      with_reducible refine c_region ?_
      refine stepD rfl F rfl (o_assign (F.ev rfl) ?_); clear F; clear a; intro a F
      with_reducible refine l_nil ?_
      with_reducible refine q_then ?_
      with_reducible refine c_ret ?_
      with_reducible refine q_thenR ?_
      refine p_ret F rfl (.cons (.tmp (F.ev rfl)) .nil) ?_
      exact ⟨by simp [oneOr, validP, show ¬ n ≤ 128 by omega], M.ext⟩
    · obtain ⟨k, rfl⟩ := Int.eq_ofNat_of_zero_le (show 0 ≤ n by omega)
      have hv : validP p (k : Int) = decide (maskI p (k : Int) = p) := by
        have h2 : (0 : Int) ≤ k := by omega
        have h3 : (k : Int) ≤ 128 := by omega
        simp only [validP, h2, h3, decide_true, Bool.true_and]
        by_cases h : maskI p (k : Int) = p
        · rw [decide_eq_true h, beq_iff_eq]; exact h
        · rw [decide_eq_false h, beq_eq_false_iff_ne]; exact h
      rw [hv]
      refine fn_ofM (n := 23) [] Try.func68 rfl rfl rfl ?_
      intro a w F M hwW
      refine c_seq ?_
      refine c_region ?_
      (refine stepD rfl F rfl (o_box M (F.ev rfl) rfl ?_); clear F; clear M; intro b1 w M a F)
      refine stepD rfl F rfl (o_assign (F.ev rfl) ?_); clear F; clear a; intro a F
      with_reducible refine l_nil ?_
      with_reducible refine q_then ?_
      with_reducible refine c_seq ?_
      with_reducible refine c_seq ?_
      with_reducible refine c_region ?_
      refine stepD rfl F rfl (o_fieldAddr (F.ev rfl) ?_); clear F; clear a; intro a F
      refine stepD rfl F rfl (o_load1 M (F.ev rfl) (by repeat (first | exact .here | apply Has.there)) (by first | assumption | rfl) ?_); clear F; clear a; intro a F
      refine stepD rfl F rfl (o_lssF (F.ev rfl) (F.ev rfl) (by omega) ?_); clear F; clear a; intro a F
      refine stepD rfl F rfl (o_move (F.ev rfl) ?_); clear F; clear a; intro a F
      refine stepG rfl F rfl rfl rfl (o_fieldAddr (F.ev rfl) ?_); clear F; clear a; intro a F
      refine stepG rfl F rfl rfl rfl (o_load1 M (F.ev rfl) (by repeat (first | exact .here | apply Has.there)) (by first | assumption | rfl) ?_); clear F; clear a; intro a F
      refine stepG rfl F rfl rfl rfl (o_gtrF (F.ev rfl) (F.ev rfl) (by omega) ?_); clear F; clear a; intro a F
      refine stepD rfl F rfl (o_pickF (F.ev rfl) (F.ev rfl) ?_); clear F; clear a; intro a F
      with_reducible refine l_nil ?_
      with_reducible refine q_then ?_
      refine c_false F rfl rfl ?_
      with_reducible refine c_skip ?_
      with_reducible refine q_then ?_
      with_reducible refine c_seq ?_
      with_reducible refine c_seq ?_
      with_reducible refine c_region ?_
      refine stepD rfl F rfl (o_fieldAddr (F.ev rfl) ?_); clear F; clear a; intro a F
      refine stepD rfl F rfl (o_load1 M (F.ev rfl) (by repeat (first | exact .here | apply Has.there)) (by first | assumption | rfl) ?_); clear F; clear a; intro a F
      refine stepD rfl F rfl (o_assign (F.ev rfl) ?_); clear F; clear a; intro a F
      with_reducible refine l_nil ?_
      with_reducible refine q_then ?_
      with_reducible refine c_block ?_
      refine c_loop (fun m a w => ∃ i : Nat, m = 128 - i ∧ k ≤ i ∧ i ≤ 128 ∧ (∀ j, k ≤ j → j < i → bitI p j = 0) ∧ Frm a 23 [] [(3, .int .i64 i), (1, .pointer (some ⟨b1, 0, none⟩))] ∧ Mem [] W w [(b1, .cells (pfC p k).toArray 28 (0, 0))]) (128 - k) ⟨k, rfl, by omega, by omega, fun j h1 h2 => by omega, F.only [3, 1] rfl, M⟩ ?_
      clear F M
      rintro m a w ⟨i, hm, hki, hi, hall, F, M⟩
      by_cases hlt : i < 128
      · with_reducible refine c_seq ?_
        with_reducible refine c_seq ?_
        with_reducible refine c_region ?_
        refine stepD rfl F rfl (o_move (F.ev rfl) ?_); clear F; clear a; intro a F
        refine stepD rfl F rfl (o_lssT (F.ev rfl) (F.ev rfl) (by omega) ?_); clear F; clear a; intro a F
        with_reducible refine l_nil ?_
        with_reducible refine q_then ?_
        refine c_true F rfl rfl ?_
        with_reducible refine c_skip ?_
        with_reducible refine q_then ?_
        with_reducible refine c_seq ?_
        with_reducible refine c_block ?_
        with_reducible refine c_seq ?_
        with_reducible refine c_region ?_
        refine stepD rfl F rfl (o_fieldAddr (F.ev rfl) ?_); clear F; clear a; intro a F
        refine stepD rfl F rfl (o_loadA M (F.ev rfl) (by repeat (first | exact .here | apply Has.there)) (by first | assumption | rfl) ?_); clear F; clear a; intro a F
        refine stepD rfl F rfl (o_move (F.ev rfl) ?_); clear F; clear a; intro a F
        (refine stepD rfl F rfl (o_call (F.ev rfl) (F.evs rfl) (Cal.mono (bit_c p hp i hlt _) ?_)); clear F; clear a; rintro _ w ⟨rfl, hE⟩ a F; replace M := M.later hE; clear hE)
        by_cases hb : bitI p i = 0
        · refine stepD rfl F rfl (o_neqF (F.ev rfl) (F.ev rfl) (by omega) ?_); clear F; clear a; intro a F
          with_reducible refine l_nil ?_
          with_reducible refine q_then ?_
          refine c_false F rfl rfl ?_
          with_reducible refine c_skip ?_
          with_reducible refine q_inB ?_
          with_reducible refine q_then ?_
          with_reducible refine c_region ?_
          refine stepD rfl F rfl (o_move (F.ev rfl) ?_); clear F; clear a; intro a F
          refine stepD rfl F rfl (o_add (F.ev rfl) (F.ev rfl) (w_i64 (by omega) (by omega)) ?_); clear F; clear a; intro a F
          refine stepD rfl F rfl (o_assign (F.ev rfl) ?_); clear F; clear a; intro a F
          with_reducible refine l_nil ?_
          with_reducible refine q_then ?_
          refine ⟨_, by omega, i + 1, rfl, by omega, by omega, fun j h1 h2 => ?_, F.only [3, 1] rfl, M⟩
          by_cases e : j = i
          · subst e; exact hb
          · exact hall j h1 (by omega)
        · refine stepD rfl F rfl (o_neqT (F.ev rfl) (F.ev rfl) (by omega) ?_); clear F; clear a; intro a F
          with_reducible refine l_nil ?_
          with_reducible refine q_then ?_
          refine c_true F rfl rfl ?_
          with_reducible refine c_seq ?_
          with_reducible refine c_region ?_
          refine stepD rfl F rfl (o_assign (F.ev rfl) ?_); clear F; clear a; intro a F
          with_reducible refine l_nil ?_
          with_reducible refine q_then ?_
          with_reducible refine c_ret ?_
          with_reducible refine q_inBR ?_
          with_reducible refine q_thenR ?_
          with_reducible refine q_thenR ?_
          with_reducible refine q_inBR ?_
          with_reducible refine q_thenR ?_
          refine p_ret F rfl (.cons (.tmp (F.ev rfl)) .nil) ?_
          refine ⟨?_, M.ext⟩
          rw [decide_eq_false fun h => hb ((valid_bits hp k).1 h i hki hlt)]
          rfl
      · obtain rfl : i = 128 := by omega
        with_reducible refine c_seq ?_
        with_reducible refine c_seq ?_
        with_reducible refine c_region ?_
        refine stepD rfl F rfl (o_move (F.ev rfl) ?_); clear F; clear a; intro a F
        refine stepD rfl F rfl (o_lssF (F.ev rfl) (F.ev rfl) (by omega) ?_); clear F; clear a; intro a F
        with_reducible refine l_nil ?_
        with_reducible refine q_then ?_
        refine c_false F rfl rfl ?_
        with_reducible refine c_exit ?_
        with_reducible refine q_thenX ?_
        with_reducible refine q_thenX ?_
        with_reducible refine q_inBX ?_
        with_reducible refine q_then ?_
        with_reducible refine c_seq ?_
        with_reducible refine c_region ?_
        refine stepD rfl F rfl (o_assign (F.ev rfl) ?_); clear F; clear a; intro a F
        with_reducible refine l_nil ?_
        with_reducible refine q_then ?_
        with_reducible refine c_ret ?_
        refine p_ret F rfl (.cons (.tmp (F.ev rfl)) .nil) ?_
        refine ⟨?_, M.ext⟩
        rw [decide_eq_true ((valid_bits hp k).2 fun j h1 h2 => hall j h1 h2)]
        rfl
theorem nth_mask {a : List Int} {i : Nat} (hi : i < 128) (n : Int) : nth (pfC (maskI a (i : Int)) n) (0 + 0 + ((i / 8 : Nat) : Int).toNat * 1) = some (.int .u8 (maskAt a (i : Int) (i / 8))) := by
  have h : i / 8 < 16 := by omega
  rw [nth_spec, show 0 + 0 + ((i / 8 : Nat) : Int).toNat * 1 = i / 8 by omega]
  unfold pfC ipC
  rw [List.getElem?_append_left (by simp [maskI_len, h]), List.getElem?_map]
  simp [maskI, h]
theorem put_mask {a : List Int} (ha : IsIP a) {i : Nat} (hi : i < 128) (n : Int) : put (pfC (maskI a (i : Int)) n) (0 + 0 + ((i / 8 : Nat) : Int).toNat * 1) [.int .u8 (bitsOf .or .u8 (maskAt a (i : Int) (i / 8)) (IntKind.u8.wrap (bitI a i * 2 ^ min (7 - ((i % 8 : Nat) : Int)).toNat IntKind.u8.bits)))] = some (pfC (maskI a ((i : Int) + 1)) n) := by
  have h : i / 8 < 16 := by omega
  rw [mask_step ha hi, put1 (q := i / 8) _ (by omega) (by simp [pfC, ipC, maskI_len]; omega)]
  congr 1
  unfold pfC ipC
  rw [List.set_append_left _ _ (by simp [maskI_len, h]), ← List.map_set, mask_set hi]
set_option maxHeartbeats 400000 in
theorem rmask_c (a : List Int) (ha : IsIP a) (n : Int) (W : World) : Cal Try.prog 9 [.agg (ipC a).toArray, .int .i64 n].toArray W fun v w' => v = .agg (pfC (maskI a (clampB n)) (clampB n)).toArray ∧ Ext [] W w' := by
  have e1 := seg_all (ipC_len ha.len)
  obtain ⟨c, hc⟩ : ∃ c : Nat, clampB n = (c : Int) := Int.eq_ofNat_of_zero_le (by unfold clampB; split <;> (try split) <;> omega)
  have hc2 : c ≤ 128 := by have : clampB n ≤ 128 := by unfold clampB; split <;> (try split) <;> omega
                           omega
  obtain ⟨ip, rfl⟩ : ∃ ip, ip = a := ⟨_, rfl⟩
  rw [hc]
  have hz := mask_zero ha
  refine fn_ofM (n := 34) [] Try.func9 rfl rfl rfl ?_
  intro a w F M hwW
  refine c_seq ?_
  refine c_region ?_
  (refine stepD rfl F rfl (o_box M (F.ev rfl) rfl ?_); clear F; clear M; intro b2 w M a F)
  (refine stepD rfl F rfl (o_alloc M ?_); clear F; clear M; intro b4 w M a F)
  with_reducible refine l_nil ?_
  with_reducible refine q_then ?_
  with_reducible refine c_seq ?_
  with_reducible refine c_region ?_
  refine stepD rfl F rfl (o_move (F.ev rfl) ?_); clear F; clear a; intro a F
  refine stepD rfl F rfl (o_max (F.ev rfl) (F.ev rfl) ?_); clear F; clear a; intro a F
  refine stepD rfl F rfl (o_min (F.ev rfl) (F.ev rfl) ?_); clear F; clear a; intro a F
  refine stepD rfl F rfl (o_assign (F.ev rfl) ?_); clear F; clear a; intro a F
  with_reducible refine l_nil ?_
  with_reducible refine q_then ?_
  with_reducible refine c_seq ?_
  with_reducible refine c_region ?_
  refine stepD rfl F rfl (o_move (F.ev rfl) ?_); clear F; clear a; intro a F
  refine stepD rfl F rfl (o_build F rfl rfl ?_); clear F; clear a; intro a F
  rw [show (if 128 < (if n < 0 then 0 else n) then (128 : Int) else (if n < 0 then 0 else n)) = (c : Int) from hc] at F
  skip
  (refine stepD rfl F rfl (o_alloc M ?_); clear F; clear M; intro b5 w M a F)
  (refine stepN rfl F (o_storeA M (F.ev rfl) (F.ev rfl) (by rfl) (by rfl) (by repeat (first | exact .here | apply Has.there)) (by rfl) (by repeat (first | exact .here | apply Upd.there)) ?_); clear F; clear M; intro w M a F)
  with_reducible refine l_nil ?_
  with_reducible refine q_then ?_
  with_reducible refine c_seq ?_
  with_reducible refine c_seq ?_
  with_reducible refine c_region ?_
  refine stepD rfl F rfl (o_assign (F.ev rfl) ?_); clear F; clear a; intro a F
  with_reducible refine l_nil ?_
  with_reducible refine q_then ?_
  with_reducible refine c_block ?_
  replace M : Mem [] W w [(b5, .cells (pfC (maskI ip ((0 : Nat) : Int)) c).toArray 28 (0, 0)), (b4, .cells (pfC zeroIP 0).toArray 28 (0, 0)), (b2, .cells (ipC ip).toArray 26 (0, 0))] := by
    rw [show ((0 : Nat) : Int) = 0 from rfl, hz]
    exact M
  refine c_loop (fun k a w => ∃ i : Nat, k = c - i ∧ i ≤ c ∧ Frm a 34 [] [(6, .int .i64 i), (1, .int .i64 c), (2, .pointer (some ⟨b2, 0, none⟩)), (4, .pointer (some ⟨b4, 0, none⟩)), (5, .pointer (some ⟨b5, 0, none⟩))] ∧ Mem [] W w [(b5, .cells (pfC (maskI ip (i : Int)) c).toArray 28 (0, 0)), (b4, .cells (pfC zeroIP 0).toArray 28 (0, 0)), (b2, .cells (ipC ip).toArray 26 (0, 0))]) c ⟨0, rfl, by omega, F.only [6, 1, 2, 4, 5] rfl, M⟩ ?_
  clear F M
  rintro k a w ⟨i, hk, hi, F, M⟩
  by_cases hlt : i < c
  · have hm8 : i % 8 < 8 := Nat.mod_lt _ (by omega)
    have n1 := nth_mask (a := ip) (i := i) (by omega) (c : Int)
    have hb := bitI_bd ha i
    with_reducible refine c_seq ?_
    with_reducible refine c_seq ?_
    with_reducible refine c_region ?_
    refine stepD rfl F rfl (o_move (F.ev rfl) ?_); clear F; clear a; intro a F
    refine stepD rfl F rfl (o_move (F.ev rfl) ?_); clear F; clear a; intro a F
    refine stepD rfl F rfl (o_lssT (F.ev rfl) (F.ev rfl) (by omega) ?_); clear F; clear a; intro a F
    with_reducible refine l_nil ?_
    with_reducible refine q_then ?_
    refine c_true F rfl rfl ?_
    with_reducible refine c_skip ?_
    with_reducible refine q_then ?_
    with_reducible refine c_seq ?_
    with_reducible refine c_block ?_
    refine c_draw 16 F (by kernel_rfl) ?_
    intro w1 hE hok
    have M1 := M.later hE
    refine mK hok rfl rfl (fun a' w' F' E' => o_move (F'.ev rfl) ⟨Ext.refl _ _, rfl⟩) ?_
    (refine mK hok rfl rfl (fun a' w' F' E' => o_quo (F'.ev rfl) (F'.ev rfl) (by omega) (quo8 (i := i) (by omega)) ⟨Ext.refl _ _, rfl⟩) ?_)
    refine mK hok rfl rfl (fun a' w' F' E' => o_fieldAddr (F'.ev rfl) ⟨Ext.refl _ _, rfl⟩) ?_
    refine mK hok rfl rfl (fun a' w' F' E' => o_indexArr (F'.ev rfl) (F'.ev rfl) (by omega) (by omega) ⟨Ext.refl _ _, rfl⟩) ?_
    refine mK hok rfl rfl (fun a' w' F' E' => o_load1 (M1.later E') (F'.ev rfl) (by repeat (first | exact .here | apply Has.there)) (by first | assumption | rfl) ⟨Ext.refl _ _, rfl⟩) ?_
    refine mK hok rfl rfl (fun a' w' F' E' => o_loadA (M1.later E') (F'.ev rfl) (by repeat (first | exact .here | apply Has.there)) (by first | assumption | rfl) ⟨Ext.refl _ _, rfl⟩) ?_
    refine mK hok rfl rfl (fun a' w' F' E' => o_move (F'.ev rfl) ⟨Ext.refl _ _, rfl⟩) ?_
    (refine mK hok rfl rfl (fun a' w' F' E' => o_call (F'.ev rfl) (F'.evs rfl) (Cal.mono (bit_c ip ha i (by omega) _) fun _ _ hh => ⟨hh.2, hh.1⟩)) ?_)
    refine mK hok rfl rfl (fun a' w' F' E' => o_move (F'.ev rfl) ⟨Ext.refl _ _, rfl⟩) ?_
    (refine mK hok rfl rfl (fun a' w' F' E' => o_rem (F'.ev rfl) (F'.ev rfl) (by omega) (rem8 i) ⟨Ext.refl _ _, rfl⟩) ?_)
    refine mK hok rfl rfl (fun a' w' F' E' => o_conv (F'.ev rfl) (w_u64 (by omega) (by omega)) ⟨Ext.refl _ _, rfl⟩) ?_
    refine mK hok rfl rfl (fun a' w' F' E' => o_sub (F'.ev rfl) (F'.ev rfl) (w_u64 (by omega) (by omega)) ⟨Ext.refl _ _, rfl⟩) ?_
    refine mK hok rfl rfl (fun a' w' F' E' => o_shl (F'.ev rfl) (F'.ev rfl) (by omega) rfl ⟨Ext.refl _ _, rfl⟩) ?_
    refine mK hok rfl rfl (fun a' w' F' E' => o_or (F'.ev rfl) (F'.ev rfl) rfl ⟨Ext.refl _ _, rfl⟩) ?_
    refine mK hok rfl rfl (fun a' w' F' E' => o_fieldAddr (F'.ev rfl) ⟨Ext.refl _ _, rfl⟩) ?_
    refine mK hok rfl rfl (fun a' w' F' E' => o_indexArr (F'.ev rfl) (F'.ev rfl) (by omega) (by omega) ⟨Ext.refl _ _, rfl⟩) ?_
    (refine mDone rfl rfl ?_; clear F; clear M; intro a w F hE2 hX hTT hDD hPP; have M := M1.later hE2; clear M1; clear hX; clear hE2; clear hok; clear hE; clear hTT; clear hDD; clear hPP; (try dsimp only at F))
    (refine stepN rfl F (o_store1 M (F.ev rfl) (F.ev rfl) rfl (by repeat (first | exact .here | apply Has.there)) (put_mask ha (by omega) _) (by repeat (first | exact .here | apply Upd.there)) ?_); clear F; clear M; intro w M a F)
    with_reducible refine l_nil ?_
    with_reducible refine q_inB ?_
    with_reducible refine q_then ?_
    with_reducible refine c_region ?_
    refine stepD rfl F rfl (o_move (F.ev rfl) ?_); clear F; clear a; intro a F
    refine stepD rfl F rfl (o_add (F.ev rfl) (F.ev rfl) (w_i64 (by omega) (by omega)) ?_); clear F; clear a; intro a F
    refine stepD rfl F rfl (o_assign (F.ev rfl) ?_); clear F; clear a; intro a F
    with_reducible refine l_nil ?_
    with_reducible refine q_then ?_
    refine ⟨_, by omega, i + 1, rfl, by omega, F.only [6, 1, 2, 4, 5] rfl, ?_⟩
    rw [show ((i + 1 : Nat) : Int) = (i : Int) + 1 by omega]
    exact M
  · obtain rfl : i = c := by omega
    have s2 := seg_pf (maskI_len ip (i : Int)) (i : Int)
    with_reducible refine c_seq ?_
    with_reducible refine c_seq ?_
    with_reducible refine c_region ?_
    refine stepD rfl F rfl (o_move (F.ev rfl) ?_); clear F; clear a; intro a F
    refine stepD rfl F rfl (o_move (F.ev rfl) ?_); clear F; clear a; intro a F
    refine stepD rfl F rfl (o_lssF (F.ev rfl) (F.ev rfl) (by omega) ?_); clear F; clear a; intro a F
    with_reducible refine l_nil ?_
    with_reducible refine q_then ?_
    refine c_false F rfl rfl ?_
    with_reducible refine c_exit ?_
    with_reducible refine q_thenX ?_
    with_reducible refine q_thenX ?_
    with_reducible refine q_inBX ?_
    with_reducible refine q_then ?_
    with_reducible refine c_seq ?_
    with_reducible refine c_region ?_
    refine stepD rfl F rfl (o_loadA M (F.ev rfl) (by repeat (first | exact .here | apply Has.there)) (by first | assumption | rfl) ?_); clear F; clear a; intro a F
    (refine stepN rfl F (o_storeA M (F.ev rfl) (F.ev rfl) (pfC_len (maskI_len ip (i : Int)) i) (one_pf _ _)  (by repeat (first | exact .here | apply Has.there))  (put_all (by rw [pfC_len (maskI_len ip (i : Int)) i]; rfl)) (by repeat (first | exact .here | apply Upd.there)) ?_); clear F; clear M; intro w M a F)
    with_reducible refine l_nil ?_
    with_reducible refine q_then ?_
    with_reducible refine c_ret ?_
    refine p_ret F rfl (.cons (.cell (F.ev rfl) (run_loadVar_agg TAgg.h (M.heap (by repeat (first | exact .here | apply Has.there))) s2)) .nil) ⟨rfl, M.ext⟩
set_option maxHeartbeats 400000 in
theorem rcommon_c (p q : List Int) (hp : IsIP p) (hq : IsIP q) (W : World) : Cal Try.prog 101 [.agg (ipC p).toArray, .agg (ipC q).toArray].toArray W fun v w' => v = .int .i64 (commonI p q) ∧ Ext [] W w' := by
  have e1 := seg_all (ipC_len hp.len)
  have e2 := seg_all (ipC_len hq.len)
  refine fn_ofM (n := 20) [] Try.func101 rfl rfl rfl ?_
  intro a w F M hwW
  refine c_seq ?_
  refine c_region ?_
  (refine stepD rfl F rfl (o_box M (F.ev rfl) rfl ?_); clear F; clear M; intro b2 w M a F)
  (refine stepD rfl F rfl (o_box M (F.ev rfl) rfl ?_); clear F; clear M; intro b3 w M a F)
  refine stepD rfl F rfl (o_assign (F.ev rfl) ?_); clear F; clear a; intro a F
  with_reducible refine l_nil ?_
  with_reducible refine q_then ?_
  with_reducible refine c_seq ?_
  with_reducible refine c_region ?_
  refine stepD rfl F rfl (o_assign (F.ev rfl) ?_); clear F; clear a; intro a F
  with_reducible refine l_nil ?_
  with_reducible refine q_then ?_
  with_reducible refine c_seq ?_
  with_reducible refine c_block ?_
  refine c_loop (fun k a w => ∃ i : Nat, k = 128 - i ∧ i ≤ 128 ∧ (∀ j, j < i → bitI p j = bitI q j) ∧ Frm a 20 [] [(5, .int .i64 i), (2, .pointer (some ⟨b2, 0, none⟩)), (3, .pointer (some ⟨b3, 0, none⟩))] ∧ Mem [] W w [(b3, .cells (ipC q).toArray 26 (0, 0)), (b2, .cells (ipC p).toArray 26 (0, 0))]) 128 ⟨0, rfl, by omega, fun j h => by omega, F.only [5, 2, 3] rfl, M⟩ ?_
  clear F M
  rintro k a w ⟨i, hk, hi, hall, F, M⟩
  by_cases hlt : i < 128
  · by_cases hb : bitI p i = bitI q i
    · with_reducible refine c_seq ?_
      with_reducible refine c_seq ?_
      refine c_draw 11 F (by kernel_rfl) ?_
      intro w1 hE hok
      have M1 := M.later hE
      refine mK hok rfl rfl (fun a' w' F' E' => o_move (F'.ev rfl) ⟨Ext.refl _ _, rfl⟩) ?_
      refine mK hok rfl rfl (fun a' w' F' E' => o_lssT (F'.ev rfl) (F'.ev rfl) (by omega) ⟨Ext.refl _ _, rfl⟩) ?_
      refine mK hok rfl rfl (fun a' w' F' E' => o_move (F'.ev rfl) ⟨Ext.refl _ _, rfl⟩) ?_
      refine mKG hok rfl rfl rfl rfl (fun a' w' F' E' => o_loadA (M1.later E') (F'.ev rfl) (by repeat (first | exact .here | apply Has.there)) (by first | assumption | rfl) ⟨Ext.refl _ _, rfl⟩) ?_
      refine mKG hok rfl rfl rfl rfl (fun a' w' F' E' => o_move (F'.ev rfl) ⟨Ext.refl _ _, rfl⟩) ?_
      (refine mKG hok rfl rfl rfl rfl (fun a' w' F' E' => o_call (F'.ev rfl) (F'.evs rfl) (Cal.mono (bit_c p hp i hlt _) fun _ _ hh => ⟨hh.2, hh.1⟩)) ?_)
      refine mKG hok rfl rfl rfl rfl (fun a' w' F' E' => o_loadA (M1.later E') (F'.ev rfl) (by repeat (first | exact .here | apply Has.there)) (by first | assumption | rfl) ⟨Ext.refl _ _, rfl⟩) ?_
      refine mKG hok rfl rfl rfl rfl (fun a' w' F' E' => o_move (F'.ev rfl) ⟨Ext.refl _ _, rfl⟩) ?_
      (refine mKG hok rfl rfl rfl rfl (fun a' w' F' E' => o_call (F'.ev rfl) (F'.evs rfl) (Cal.mono (bit_c q hq i hlt _) fun _ _ hh => ⟨hh.2, hh.1⟩)) ?_)
      refine mKG hok rfl rfl rfl rfl (fun a' w' F' E' => o_eqlT (F'.ev rfl) (F'.ev rfl) (by omega) ⟨Ext.refl _ _, rfl⟩) ?_
      refine mK hok rfl rfl (fun a' w' F' E' => o_pickT (F'.ev rfl) (F'.ev rfl) ⟨Ext.refl _ _, rfl⟩) ?_
      (refine mDone rfl rfl ?_; clear F; clear M; intro a w F hE2 hX hTT hDD hPP; have M := M1.later hE2; clear M1; clear hX; clear hE2; clear hok; clear hE; clear hTT; clear hDD; clear hPP; (try dsimp only at F))
      with_reducible refine l_nil ?_
      with_reducible refine q_then ?_
      refine c_true F rfl rfl ?_
      with_reducible refine c_skip ?_
      with_reducible refine q_then ?_
      with_reducible refine c_block ?_
      with_reducible refine c_region ?_
      refine stepD rfl F rfl (o_move (F.ev rfl) ?_); clear F; clear a; intro a F
      refine stepD rfl F rfl (o_add (F.ev rfl) (F.ev rfl) (w_i64 (by omega) (by omega)) ?_); clear F; clear a; intro a F
      refine stepD rfl F rfl (o_assign (F.ev rfl) ?_); clear F; clear a; intro a F
      with_reducible refine l_nil ?_
      with_reducible refine q_inB ?_
      with_reducible refine q_then ?_
      refine ⟨_, by omega, i + 1, rfl, by omega, fun j h => ?_, F.only [5, 2, 3] rfl, M⟩
      by_cases e : j = i
      · subst e; exact hb
      · exact hall j (by omega)
    · with_reducible refine c_seq ?_
      with_reducible refine c_seq ?_
      refine c_draw 11 F (by kernel_rfl) ?_
      intro w1 hE hok
      have M1 := M.later hE
      refine mK hok rfl rfl (fun a' w' F' E' => o_move (F'.ev rfl) ⟨Ext.refl _ _, rfl⟩) ?_
      refine mK hok rfl rfl (fun a' w' F' E' => o_lssT (F'.ev rfl) (F'.ev rfl) (by omega) ⟨Ext.refl _ _, rfl⟩) ?_
      refine mK hok rfl rfl (fun a' w' F' E' => o_move (F'.ev rfl) ⟨Ext.refl _ _, rfl⟩) ?_
      refine mKG hok rfl rfl rfl rfl (fun a' w' F' E' => o_loadA (M1.later E') (F'.ev rfl) (by repeat (first | exact .here | apply Has.there)) (by first | assumption | rfl) ⟨Ext.refl _ _, rfl⟩) ?_
      refine mKG hok rfl rfl rfl rfl (fun a' w' F' E' => o_move (F'.ev rfl) ⟨Ext.refl _ _, rfl⟩) ?_
      (refine mKG hok rfl rfl rfl rfl (fun a' w' F' E' => o_call (F'.ev rfl) (F'.evs rfl) (Cal.mono (bit_c p hp i hlt _) fun _ _ hh => ⟨hh.2, hh.1⟩)) ?_)
      refine mKG hok rfl rfl rfl rfl (fun a' w' F' E' => o_loadA (M1.later E') (F'.ev rfl) (by repeat (first | exact .here | apply Has.there)) (by first | assumption | rfl) ⟨Ext.refl _ _, rfl⟩) ?_
      refine mKG hok rfl rfl rfl rfl (fun a' w' F' E' => o_move (F'.ev rfl) ⟨Ext.refl _ _, rfl⟩) ?_
      (refine mKG hok rfl rfl rfl rfl (fun a' w' F' E' => o_call (F'.ev rfl) (F'.evs rfl) (Cal.mono (bit_c q hq i hlt _) fun _ _ hh => ⟨hh.2, hh.1⟩)) ?_)
      refine mKG hok rfl rfl rfl rfl (fun a' w' F' E' => o_eqlF (F'.ev rfl) (F'.ev rfl) (by omega) ⟨Ext.refl _ _, rfl⟩) ?_
      refine mK hok rfl rfl (fun a' w' F' E' => o_pickT (F'.ev rfl) (F'.ev rfl) ⟨Ext.refl _ _, rfl⟩) ?_
      (refine mDone rfl rfl ?_; clear F; clear M; intro a w F hE2 hX hTT hDD hPP; have M := M1.later hE2; clear M1; clear hX; clear hE2; clear hok; clear hE; clear hTT; clear hDD; clear hPP; (try dsimp only at F))
      with_reducible refine l_nil ?_
      with_reducible refine q_then ?_
      refine c_false F rfl rfl ?_
      with_reducible refine c_exit ?_
      with_reducible refine q_thenX ?_
      with_reducible refine q_thenX ?_
      with_reducible refine q_inBX ?_
      with_reducible refine q_then ?_
      with_reducible refine c_seq ?_
      with_reducible refine c_region ?_
      refine stepD rfl F rfl (o_move (F.ev rfl) ?_); clear F; clear a; intro a F
      refine stepD rfl F rfl (o_assign (F.ev rfl) ?_); clear F; clear a; intro a F
      with_reducible refine l_nil ?_
      with_reducible refine q_then ?_
      with_reducible refine c_ret ?_
      refine p_ret F rfl (.cons (.tmp (F.ev rfl)) .nil) ?_
      exact ⟨by rw [common_is hp hq (by omega) hall (fun _ => hb)]; rfl, M.ext⟩
  · obtain rfl : i = 128 := by omega
    with_reducible refine c_seq ?_
    with_reducible refine c_seq ?_
    refine c_draw 11 F (by kernel_rfl) ?_
    intro w1 hE hok
    have M1 := M.later hE
    refine mK hok rfl rfl (fun a' w' F' E' => o_move (F'.ev rfl) ⟨Ext.refl _ _, rfl⟩) ?_
    refine mK hok rfl rfl (fun a' w' F' E' => o_lssF (F'.ev rfl) (F'.ev rfl) (by omega) ⟨Ext.refl _ _, rfl⟩) ?_
    refine mK hok rfl rfl (fun a' w' F' E' => o_move (F'.ev rfl) ⟨Ext.refl _ _, rfl⟩) ?_
    refine mOff hok rfl rfl rfl rfl rfl ?_
    refine mOff hok rfl rfl rfl rfl rfl ?_
    refine mOff hok rfl rfl rfl rfl rfl ?_
    refine mOff hok rfl rfl rfl rfl rfl ?_
    refine mOff hok rfl rfl rfl rfl rfl ?_
    refine mOff hok rfl rfl rfl rfl rfl ?_
    refine mOff hok rfl rfl rfl rfl rfl ?_
    refine mK hok rfl rfl (fun a' w' F' E' => o_pickF (F'.ev rfl) (F'.ev rfl) ⟨Ext.refl _ _, rfl⟩) ?_
    (refine mDone rfl rfl ?_; clear F; clear M; intro a w F hE2 hX hTT hDD hPP; have M := M1.later hE2; clear M1; clear hX; clear hE2; clear hok; clear hE; clear hTT; clear hDD; clear hPP; (try dsimp only at F))
    with_reducible refine l_nil ?_
    with_reducible refine q_then ?_
    refine c_false F rfl rfl ?_
    with_reducible refine c_exit ?_
    with_reducible refine q_thenX ?_
    with_reducible refine q_thenX ?_
    with_reducible refine q_inBX ?_
    with_reducible refine q_then ?_
    with_reducible refine c_seq ?_
    with_reducible refine c_region ?_
    refine stepD rfl F rfl (o_move (F.ev rfl) ?_); clear F; clear a; intro a F
    refine stepD rfl F rfl (o_assign (F.ev rfl) ?_); clear F; clear a; intro a F
    with_reducible refine l_nil ?_
    with_reducible refine q_then ?_
    with_reducible refine c_ret ?_
    refine p_ret F rfl (.cons (.tmp (F.ev rfl)) .nil) ?_
    exact ⟨by rw [common_is hp hq (n := 128) (by omega) hall (fun h => by omega)]; rfl, M.ext⟩
theorem shl8add {v c : Int} (h0 : 0 ≤ v) (h1 : v < 72057594037927936) (c0 : 0 ≤ c) (c1 : c < 256) : IntKind.u64.wrap (IntKind.u64.wrap (v * 2 ^ min (Int.toNat 8) IntKind.u64.bits) + c) = 256 * v + c := by
  have e : (v * 2 ^ min (Int.toNat 8) IntKind.u64.bits) = 256 * v := by
    show v * 256 = _
    omega
  have e2 : IntKind.u64.wrap (256 * v) = 256 * v := w_u64 (by omega) (by omega)
  rw [e, e2]
  exact w_u64 (by omega) (by omega)
set_option maxHeartbeats 400000 in
theorem rsplit_c (p : List Int) (hp : IsIP p) (W : World) : Cal Try.prog 109 [.agg (ipC p).toArray].toArray W fun v w' => v = .tuple #[.int .u64 (beN (p.take 8)), .int .u64 (beN (p.drop 8))] ∧ Ext [] W w' := by
  refine fn_ofM (n := 28) [] Try.func109 rfl rfl rfl ?_
  intro a w F M hwW
  refine c_seq ?_
  refine c_region ?_
  (refine stepD rfl F rfl (o_box M (F.ev rfl) rfl ?_); clear F; clear M; intro b1 w M a F)
  refine stepD rfl F rfl (o_assign (F.ev rfl) ?_); clear F; clear a; intro a F
  refine stepD rfl F rfl (o_assign (F.ev rfl) ?_); clear F; clear a; intro a F
  with_reducible refine l_nil ?_
  with_reducible refine q_then ?_
  with_reducible refine c_seq ?_
  with_reducible refine c_region ?_
  refine stepD rfl F rfl (o_assign (F.ev rfl) ?_); clear F; clear a; intro a F
  refine stepD rfl F rfl (o_assign (F.ev rfl) ?_); clear F; clear a; intro a F
  with_reducible refine l_nil ?_
  with_reducible refine q_then ?_
  with_reducible refine c_seq ?_
  with_reducible refine c_seq ?_
  with_reducible refine c_region ?_
  refine stepD rfl F rfl (o_assign (F.ev rfl) ?_); clear F; clear a; intro a F
  with_reducible refine l_nil ?_
  with_reducible refine q_then ?_
  with_reducible refine c_block ?_
  refine c_loop (fun k a w => ∃ i : Nat, k = 8 - i ∧ i ≤ 8 ∧ Frm a 28 [] [(6, .int .i64 i), (4, .int .u64 (beN (p.take i))), (5, .int .u64 (beN ((p.drop 8).take i))), (1, .pointer (some ⟨b1, 0, none⟩))] ∧ Mem [] W w [(b1, .cells (ipC p).toArray 26 (0, 0))]) 8 ⟨0, rfl, by omega, F.only [6, 4, 5, 1] rfl, M⟩ ?_
  clear F M
  rintro k a w ⟨i, hk, hi, F, M⟩
  by_cases hlt : i < 8
  · have n1 := nth_ip (a := p) (i := i) (by rw [hp.len]; omega)
    have n2 : nth (ipC p) (0 + (8 + (i : Int)).toNat * 1) = some (.int .u8 (p.getD (8 + i) 0)) := by
      have := nth_ip (a := p) (i := 8 + i) (by rw [hp.len]; omega)
      rwa [show 0 + ((8 + i : Nat) : Int).toNat * 1 = 0 + (8 + (i : Int)).toNat * 1 by omega] at this
    have g1 := hp.at_ i
    have g2 := hp.at_ (8 + i)
    have v1 := beN_bd i (p.take i) (by rw [List.length_take, hp.len]; omega) (fun x h => hp.bd x (List.mem_of_mem_take h))
    have v2 := beN_bd i ((p.drop 8).take i) (by rw [List.length_take, List.length_drop, hp.len]; omega) (fun x h => hp.bd x (List.mem_of_mem_drop (List.mem_of_mem_take h)))
    have hpw : 256 ^ i ≤ 72057594037927936 := Nat.le_trans (Nat.pow_le_pow_right (by omega) (show i ≤ 7 by omega)) (by decide)
    have s1 : p.take (i + 1) = p.take i ++ [p.getD i 0] := by
      rw [List.take_succ_eq_append_getElem (by rw [hp.len]; omega), List.getD_eq_getElem?_getD, List.getElem?_eq_getElem (by rw [hp.len]; omega)]; rfl
    have s2 : (p.drop 8).take (i + 1) = (p.drop 8).take i ++ [p.getD (8 + i) 0] := by
      rw [List.take_succ_eq_append_getElem (by rw [List.length_drop, hp.len]; omega), List.getD_eq_getElem?_getD, List.getElem?_eq_getElem (by rw [hp.len]; omega)]; simp
    with_reducible refine c_seq ?_
    with_reducible refine c_seq ?_
    with_reducible refine c_region ?_
    refine stepD rfl F rfl (o_move (F.ev rfl) ?_); clear F; clear a; intro a F
    refine stepD rfl F rfl (o_lssT (F.ev rfl) (F.ev rfl) (by omega) ?_); clear F; clear a; intro a F
    with_reducible refine l_nil ?_
    with_reducible refine q_then ?_
    refine c_true F rfl rfl ?_
    with_reducible refine c_skip ?_
    with_reducible refine q_then ?_
    with_reducible refine c_seq ?_
    with_reducible refine c_block ?_
    refine c_draw 16 F (by kernel_rfl) ?_
    intro w1 hE hok
    have M1 := M.later hE
    refine mK hok rfl rfl (fun a' w' F' E' => o_move (F'.ev rfl) ⟨Ext.refl _ _, rfl⟩) ?_
    refine mK hok rfl rfl (fun a' w' F' E' => o_shl (F'.ev rfl) (F'.ev rfl) (by omega) rfl ⟨Ext.refl _ _, rfl⟩) ?_
    refine mK hok rfl rfl (fun a' w' F' E' => o_move (F'.ev rfl) ⟨Ext.refl _ _, rfl⟩) ?_
    refine mK hok rfl rfl (fun a' w' F' E' => o_indexArr (F'.ev rfl) (F'.ev rfl) (by omega) (by omega) ⟨Ext.refl _ _, rfl⟩) ?_
    refine mK hok rfl rfl (fun a' w' F' E' => o_load1 (M1.later E') (F'.ev rfl) (by repeat (first | exact .here | apply Has.there)) (by first | assumption | rfl) ⟨Ext.refl _ _, rfl⟩) ?_
    refine mK hok rfl rfl (fun a' w' F' E' => o_conv (F'.ev rfl) (w_u64 (by omega) (by omega)) ⟨Ext.refl _ _, rfl⟩) ?_
    (refine mK hok rfl rfl (fun a' w' F' E' => o_add (F'.ev rfl) (F'.ev rfl) (shl8add v1.1 (by omega) g1.1 g1.2) ⟨Ext.refl _ _, rfl⟩) ?_)
    refine mK hok rfl rfl (fun a' w' F' E' => o_move (F'.ev rfl) ⟨Ext.refl _ _, rfl⟩) ?_
    refine mK hok rfl rfl (fun a' w' F' E' => o_shl (F'.ev rfl) (F'.ev rfl) (by omega) rfl ⟨Ext.refl _ _, rfl⟩) ?_
    refine mK hok rfl rfl (fun a' w' F' E' => o_move (F'.ev rfl) ⟨Ext.refl _ _, rfl⟩) ?_
    refine mK hok rfl rfl (fun a' w' F' E' => o_add (F'.ev rfl) (F'.ev rfl) (w_i64 (by omega) (by omega)) ⟨Ext.refl _ _, rfl⟩) ?_
    refine mK hok rfl rfl (fun a' w' F' E' => o_indexArr (F'.ev rfl) (F'.ev rfl) (by omega) (by omega) ⟨Ext.refl _ _, rfl⟩) ?_
    refine mK hok rfl rfl (fun a' w' F' E' => o_load1 (M1.later E') (F'.ev rfl) (by repeat (first | exact .here | apply Has.there)) (by first | assumption | rfl) ⟨Ext.refl _ _, rfl⟩) ?_
    refine mK hok rfl rfl (fun a' w' F' E' => o_conv (F'.ev rfl) (w_u64 (by omega) (by omega)) ⟨Ext.refl _ _, rfl⟩) ?_
    (refine mK hok rfl rfl (fun a' w' F' E' => o_add (F'.ev rfl) (F'.ev rfl) (shl8add v2.1 (by omega) g2.1 g2.2) ⟨Ext.refl _ _, rfl⟩) ?_)
    refine mK hok rfl rfl (fun a' w' F' E' => o_assign (F'.ev rfl) ⟨Ext.refl _ _, rfl⟩) ?_
    (refine mDone rfl rfl ?_; clear F; clear M; intro a w F hE2 hX hTT hDD hPP; have M := M1.later hE2; clear M1; clear hX; clear hE2; clear hok; clear hE; clear hTT; clear hDD; clear hPP; (try dsimp only at F))
    refine stepD rfl F rfl (o_assign (F.ev rfl) ?_); clear F; clear a; intro a F
    with_reducible refine l_nil ?_
    with_reducible refine q_inB ?_
    with_reducible refine q_then ?_
    with_reducible refine c_region ?_
    refine stepD rfl F rfl (o_move (F.ev rfl) ?_); clear F; clear a; intro a F
    refine stepD rfl F rfl (o_add (F.ev rfl) (F.ev rfl) (w_i64 (by omega) (by omega)) ?_); clear F; clear a; intro a F
    refine stepD rfl F rfl (o_assign (F.ev rfl) ?_); clear F; clear a; intro a F
    with_reducible refine l_nil ?_
    with_reducible refine q_then ?_
    refine ⟨_, by omega, i + 1, rfl, by omega, ?_, M⟩
    rw [s1, s2, beN_snoc, beN_snoc]
    exact F.only [6, 4, 5, 1] rfl
  · obtain rfl : i = 8 := by omega
    rw [show (p.drop 8).take 8 = p.drop 8 from List.take_of_length_le (by rw [List.length_drop, hp.len]; omega)] at F
    with_reducible refine c_seq ?_
    with_reducible refine c_seq ?_
    with_reducible refine c_region ?_
    refine stepD rfl F rfl (o_move (F.ev rfl) ?_); clear F; clear a; intro a F
    refine stepD rfl F rfl (o_lssF (F.ev rfl) (F.ev rfl) (by omega) ?_); clear F; clear a; intro a F
    with_reducible refine l_nil ?_
    with_reducible refine q_then ?_
    refine c_false F rfl rfl ?_
    with_reducible refine c_exit ?_
    with_reducible refine q_thenX ?_
    with_reducible refine q_thenX ?_
    with_reducible refine q_inBX ?_
    with_reducible refine q_then ?_
    with_reducible refine c_seq ?_
    with_reducible refine c_region ?_
    refine stepD rfl F rfl (o_move (F.ev rfl) ?_); clear F; clear a; intro a F
    refine stepD rfl F rfl (o_move (F.ev rfl) ?_); clear F; clear a; intro a F
    refine stepD rfl F rfl (o_assign (F.ev rfl) ?_); clear F; clear a; intro a F
    refine stepD rfl F rfl (o_assign (F.ev rfl) ?_); clear F; clear a; intro a F
    with_reducible refine l_nil ?_
    with_reducible refine q_then ?_
    with_reducible refine c_ret ?_
    refine p_ret F rfl (.cons (.tmp (F.ev rfl)) (.cons (.tmp (F.ev rfl)) .nil)) ?_
    exact ⟨rfl, M.ext⟩
end

section
set_option linter.unusedVariables false
set_option linter.unusedSimpArgs false
open Go.RowKit
attribute [local irreducible] OpTo wpListIn Code.wpIn MW Cal
theorem rjoin_eq {p : List Int} (hp : IsIP p) (v : Int) : beB (beN (p.take 8)) ++ beB v = joinI p v := by
  rw [be_inv (by simp [hp.len]) (fun x h => hp.bd x (List.mem_of_mem_take h))]; rfl
set_option maxHeartbeats 1000000 in
theorem rjoin_c (p : List Int) (hp : IsIP p) (n v : Int) (hv : 0 ≤ v) (W : World) : Cal Try.prog 94 [.agg (pfC p n).toArray, .int .u64 v].toArray W fun x w' => x = optIP (joinP p n v) ∧ Ext [] W w' := by
  have e1 := seg_pf hp.len n
  have e2 := seg_pf0 hp.len n
  have e3 := nth_pf hp.len n
  have s3 : seg (ipC (joinI p v)) 0 16 = some (ipC (joinI p v)) := seg_all (by simp [ipC, joinI, beB_len, hp.len])
  have hl3 : (ipC (joinI p v)).length = 16 := by simp [ipC, joinI, beB_len, hp.len]
  have hbe := (beN_bd 8 (p.take 8) (by simp [hp.len]) (fun x h => hp.bd x (List.mem_of_mem_take h))).1
  cases hvp : validP p n
  · refine fn_ofM (n := 26) [] Try.func94 rfl rfl rfl ?_
    intro a w F M hwW
    refine c_seq ?_
    refine c_region ?_
    (refine stepD rfl F rfl (o_box M (F.ev rfl) rfl ?_); clear F; clear M; intro b2 w M a F)
    (refine stepD rfl F rfl (o_alloc M ?_); clear F; clear M; intro b4 w M a F)
    refine stepD rfl F rfl (o_assign (F.ev rfl) ?_); clear F; clear a; intro a F
    with_reducible refine l_nil ?_
    with_reducible refine q_then ?_
    with_reducible refine c_seq ?_
    with_reducible refine c_seq ?_
    with_reducible refine c_region ?_
    refine stepD rfl F rfl (o_loadA M (F.ev rfl) (by repeat (first | exact .here | apply Has.there)) (by first | assumption | rfl) ?_); clear F; clear a; intro a F
    (refine stepD rfl F rfl (o_call (F.ev rfl) (F.evs rfl) (Cal.mono (Cal.to (rvalidPrefix_c p n hp _) (by rw [hvp])) ?_)); clear F; clear a; rintro _ w ⟨rfl, hE⟩ a F; replace M := M.later hE; clear hE)
    refine stepD rfl F rfl (o_not (F.ev rfl) ?_); clear F; clear a; intro a F
    refine stepD rfl F rfl (o_move (F.ev rfl) ?_); clear F; clear a; intro a F
    refine stepOff F rfl rfl rfl rfl ?_; clear F; clear a; intro a F
    refine stepOff F rfl rfl rfl rfl ?_; clear F; clear a; intro a F
    refine stepOff F rfl rfl rfl rfl ?_; clear F; clear a; intro a F
    refine stepD rfl F rfl (o_pickT (F.ev rfl) (F.ev rfl) ?_); clear F; clear a; intro a F
    with_reducible refine l_nil ?_
    with_reducible refine q_then ?_
    refine c_true F rfl rfl ?_
    with_reducible refine c_seq ?_
    with_reducible refine c_region ?_
    refine stepD rfl F rfl (o_build F rfl rfl ?_); clear F; clear a; intro a F
    (refine stepN rfl F (o_storeA M (F.ev rfl) (F.ev rfl) (by rfl) (by rfl) (by repeat (first | exact .here | apply Has.there)) (by rfl) (by repeat (first | exact .here | apply Upd.there)) ?_); clear F; clear M; intro w M a F)
    refine stepD rfl F rfl (o_assign (F.ev rfl) ?_); clear F; clear a; intro a F
    with_reducible refine l_nil ?_
    with_reducible refine q_then ?_
    with_reducible refine c_ret ?_
    with_reducible refine q_thenR ?_
    refine p_ret F rfl (.cons (.cell (F.ev rfl) (run_loadVar_agg TAgg.h (M.heap (by repeat (first | exact .here | apply Has.there))) rfl)) (.cons (.tmp (F.ev rfl)) .nil)) ⟨by simp [joinP, hvp, optIP, oneOr, zeroIP, ipC], M.ext⟩
  · by_cases h64 : n ≤ 64
    · refine fn_ofM (n := 26) [] Try.func94 rfl rfl rfl ?_
      intro a w F M hwW
      refine c_seq ?_
      refine c_region ?_
      (refine stepD rfl F rfl (o_box M (F.ev rfl) rfl ?_); clear F; clear M; intro b2 w M a F)
      (refine stepD rfl F rfl (o_alloc M ?_); clear F; clear M; intro b4 w M a F)
      refine stepD rfl F rfl (o_assign (F.ev rfl) ?_); clear F; clear a; intro a F
      with_reducible refine l_nil ?_
      with_reducible refine q_then ?_
      with_reducible refine c_seq ?_
      with_reducible refine c_seq ?_
      with_reducible refine c_region ?_
      refine stepD rfl F rfl (o_loadA M (F.ev rfl) (by repeat (first | exact .here | apply Has.there)) (by first | assumption | rfl) ?_); clear F; clear a; intro a F
      (refine stepD rfl F rfl (o_call (F.ev rfl) (F.evs rfl) (Cal.mono (Cal.to (rvalidPrefix_c p n hp _) (by rw [hvp])) ?_)); clear F; clear a; rintro _ w ⟨rfl, hE⟩ a F; replace M := M.later hE; clear hE)
      refine stepD rfl F rfl (o_not (F.ev rfl) ?_); clear F; clear a; intro a F
      refine stepD rfl F rfl (o_move (F.ev rfl) ?_); clear F; clear a; intro a F
      refine stepG rfl F rfl rfl rfl (o_fieldAddr (F.ev rfl) ?_); clear F; clear a; intro a F
      refine stepG rfl F rfl rfl rfl (o_load1 M (F.ev rfl) (by repeat (first | exact .here | apply Has.there)) (by first | assumption | rfl) ?_); clear F; clear a; intro a F
      refine stepG rfl F rfl rfl rfl (o_gtrF (F.ev rfl) (F.ev rfl) (by omega) ?_); clear F; clear a; intro a F
      refine stepD rfl F rfl (o_pickF (F.ev rfl) (F.ev rfl) ?_); clear F; clear a; intro a F
      with_reducible refine l_nil ?_
      with_reducible refine q_then ?_
      refine c_false F rfl rfl ?_
      with_reducible refine c_skip ?_
      with_reducible refine q_then ?_
      with_reducible refine c_seq ?_
      with_reducible refine c_region ?_
      refine stepD rfl F rfl (o_fieldAddr (F.ev rfl) ?_); clear F; clear a; intro a F
      refine stepD rfl F rfl (o_loadA M (F.ev rfl) (by repeat (first | exact .here | apply Has.there)) (by first | assumption | rfl) ?_); clear F; clear a; intro a F
      (refine stepD rfl F rfl (o_call (F.ev rfl) (F.evs rfl) (Cal.mono (rsplit_c p hp _) ?_)); clear F; clear a; rintro _ w ⟨rfl, hE⟩ a F; replace M := M.later hE; clear hE)
      refine stepD rfl F rfl (o_move (F.ev rfl) ?_); clear F; clear a; intro a F
      refine stepD rfl F rfl (o_extract (F.ev rfl) rfl ?_); clear F; clear a; intro a F
      refine stepD rfl F rfl (o_extract (F.ev rfl) rfl ?_); clear F; clear a; intro a F
      refine stepD rfl F rfl (o_assign (F.ev rfl) ?_); clear F; clear a; intro a F
      refine stepD rfl F rfl (o_assign (F.ev rfl) ?_); clear F; clear a; intro a F
      with_reducible refine l_nil ?_
      with_reducible refine q_then ?_
      with_reducible refine c_seq ?_
      with_reducible refine c_region ?_
      refine stepD rfl F rfl (o_move (F.ev rfl) ?_); clear F; clear a; intro a F
      refine stepD rfl F rfl (o_move (F.ev rfl) ?_); clear F; clear a; intro a F
      (refine stepD rfl F rfl (o_call (F.ev rfl) (F.evs rfl) (Cal.mono (Cal.to (of_c _ v hbe hv _) (by rw [rjoin_eq hp v])) ?_)); clear F; clear a; rintro _ w ⟨rfl, hE⟩ a F; replace M := M.later hE; clear hE)
      (refine stepN rfl F (o_storeA M (F.ev rfl) (F.ev rfl) hl3 (one_ip _)  (by repeat (first | exact .here | apply Has.there))  (put_all (by rw [hl3]; rfl)) (by repeat (first | exact .here | apply Upd.there)) ?_); clear F; clear M; intro w M a F)
      refine stepD rfl F rfl (o_assign (F.ev rfl) ?_); clear F; clear a; intro a F
      with_reducible refine l_nil ?_
      with_reducible refine q_then ?_
      with_reducible refine c_ret ?_
      refine p_ret F rfl (.cons (.cell (F.ev rfl) (run_loadVar_agg TAgg.h (M.heap (by repeat (first | exact .here | apply Has.there))) s3)) (.cons (.tmp (F.ev rfl)) .nil)) ⟨by simp [joinP, hvp, h64, optIP, oneOr], M.ext⟩
    · refine fn_ofM (n := 26) [] Try.func94 rfl rfl rfl ?_
      intro a w F M hwW
      refine c_seq ?_
      refine c_region ?_
      (refine stepD rfl F rfl (o_box M (F.ev rfl) rfl ?_); clear F; clear M; intro b2 w M a F)
      (refine stepD rfl F rfl (o_alloc M ?_); clear F; clear M; intro b4 w M a F)
      refine stepD rfl F rfl (o_assign (F.ev rfl) ?_); clear F; clear a; intro a F
      with_reducible refine l_nil ?_
      with_reducible refine q_then ?_
      with_reducible refine c_seq ?_
      with_reducible refine c_seq ?_
      with_reducible refine c_region ?_
      refine stepD rfl F rfl (o_loadA M (F.ev rfl) (by repeat (first | exact .here | apply Has.there)) (by first | assumption | rfl) ?_); clear F; clear a; intro a F
      (refine stepD rfl F rfl (o_call (F.ev rfl) (F.evs rfl) (Cal.mono (Cal.to (rvalidPrefix_c p n hp _) (by rw [hvp])) ?_)); clear F; clear a; rintro _ w ⟨rfl, hE⟩ a F; replace M := M.later hE; clear hE)
      refine stepD rfl F rfl (o_not (F.ev rfl) ?_); clear F; clear a; intro a F
      refine stepD rfl F rfl (o_move (F.ev rfl) ?_); clear F; clear a; intro a F
      refine stepG rfl F rfl rfl rfl (o_fieldAddr (F.ev rfl) ?_); clear F; clear a; intro a F
      refine stepG rfl F rfl rfl rfl (o_load1 M (F.ev rfl) (by repeat (first | exact .here | apply Has.there)) (by first | assumption | rfl) ?_); clear F; clear a; intro a F
      refine stepG rfl F rfl rfl rfl (o_gtrT (F.ev rfl) (F.ev rfl) (by omega) ?_); clear F; clear a; intro a F
      refine stepD rfl F rfl (o_pickF (F.ev rfl) (F.ev rfl) ?_); clear F; clear a; intro a F
      with_reducible refine l_nil ?_
      with_reducible refine q_then ?_
      refine c_true F rfl rfl ?_
      with_reducible refine c_seq ?_
      with_reducible refine c_region ?_
      refine stepD rfl F rfl (o_build F rfl rfl ?_); clear F; clear a; intro a F
      (refine stepN rfl F (o_storeA M (F.ev rfl) (F.ev rfl) (by rfl) (by rfl) (by repeat (first | exact .here | apply Has.there)) (by rfl) (by repeat (first | exact .here | apply Upd.there)) ?_); clear F; clear M; intro w M a F)
      refine stepD rfl F rfl (o_assign (F.ev rfl) ?_); clear F; clear a; intro a F
      with_reducible refine l_nil ?_
      with_reducible refine q_then ?_
      with_reducible refine c_ret ?_
      with_reducible refine q_thenR ?_
      refine p_ret F rfl (.cons (.cell (F.ev rfl) (run_loadVar_agg TAgg.h (M.heap (by repeat (first | exact .here | apply Has.there))) rfl)) (.cons (.tmp (F.ev rfl)) .nil)) ⟨by simp [joinP, hvp, h64, optIP, oneOr, zeroIP, ipC], M.ext⟩
/-- a prefix, off the tape -/
def headT : List Int := [2306139568115548160, 2306139568115613696, 18338657682652659712, 18230571291595767808, 0]
theorem head_bd (i : Nat) : 0 ≤ headT.getD i 0 ∧ headT.getD i 0 ≤ 18446744073709551615 := by
  rcases Nat.lt_or_ge i 5 with h | h
  · have hc : i = 0 ∨ i = 1 ∨ i = 2 ∨ i = 3 ∨ i = 4 := by omega
    rcases hc with rfl | rfl | rfl | rfl | rfl <;> decide
  · rw [List.getD_eq_getElem?_getD, List.getElem?_eq_none (by simpa [headT] using h)]; decide
theorem beb_ip {x y : Int} (hx : 0 ≤ x) (hy : 0 ≤ y) : IsIP (beB x ++ beB y) := by
  obtain ⟨m, rfl⟩ := Int.eq_ofNat_of_zero_le hx
  obtain ⟨n, rfl⟩ := Int.eq_ofNat_of_zero_le hy
  refine ⟨by simp [beB_len], fun z hz => ?_⟩
  rcases List.mem_append.1 hz with h | h
  · exact beB_bd m z h
  · exact beB_bd n z h
end

section
set_option linter.unusedVariables false
set_option linter.unusedSimpArgs false
open Go.RowKit
attribute [local irreducible] OpTo wpListIn Code.wpIn MW Cal
theorem eqVs_ipS (a : List Int) : eqVs (ipC a) (ipC a) = true := by rw [eqVs_ip a a rfl]; simp
theorem fits_ipS {a : List Int} (ha : a.length = 16) : fitsK [.i .u8, .i .u8, .i .u8, .i .u8, .i .u8, .i .u8, .i .u8, .i .u8, .i .u8, .i .u8, .i .u8, .i .u8, .i .u8, .i .u8, .i .u8, .i .u8] (ipC a) = true := by
  obtain ⟨x0, x1, x2, x3, x4, x5, x6, x7, x8, x9, x10, x11, x12, x13, x14, x15, rfl⟩ := len16 ha
  rfl
end

section
set_option linter.unusedVariables false
set_option linter.unusedSimpArgs false
open Go.RowKit
attribute [local irreducible] OpTo wpListIn Code.wpIn MW Cal
theorem wrap64_nn (x : Int) : 0 ≤ IntKind.u64.wrap x ∧ IntKind.u64.wrap x ≤ 18446744073709551615 := by
  simp [IntKind.wrap, IntKind.signed, IntKind.bits]; omega
set_option maxHeartbeats 1000000 in
theorem word_c {bt : Nat} {p : Option Addr} {len cap k : Nat} {xs : List Int} (W : World) (hT : TapeS W bt p len xs) (hb : W.heap[bt]? = some (tobj p len cap k)) :
    Cal Try.prog 30 [.pointer (some ⟨bt, 0, none⟩)].toArray W fun v w' => ∃ u k', (0 ≤ u ∧ u ≤ 18446744073709551615) ∧ v = .int .u64 u ∧ Mem [bt] W w' [(bt, tobj p len cap k')] := by
  have v1 := nxV_bd xs k (n := 65536) (by omega)
  have v2 := nxV_bd xs (nxK xs k) (n := 5) (by omega)
  have hr := Int.tmod_lt_of_pos (nxV xs k 65536) (show (0 : Int) < 4 by omega)
  have hr0 := Int.tmod_nonneg 4 v1.1
  have hcase : nxV xs (nxK xs k) 5 = 0 ∨ nxV xs (nxK xs k) 5 = 1 ∨ nxV xs (nxK xs k) 5 = 2 ∨ nxV xs (nxK xs k) 5 = 3 ∨ nxV xs (nxK xs k) 5 = 4 := by omega
  refine fn_ofM (n := 29) [bt] Try.func30 rfl rfl rfl ?_
  intro a w F M hwW
  replace M := M.came hwW hb (by simp) (by simp)
  with_reducible refine c_seq ?_
  with_reducible refine c_region ?_
  refine stepD rfl F rfl (o_assign (F.ev rfl) ?_); clear F; clear a; intro a F
  with_reducible refine l_nil ?_
  with_reducible refine q_then ?_
  with_reducible refine c_seq ?_
  with_reducible refine c_region ?_
  refine stepD rfl F rfl (o_move (F.ev rfl) ?_); clear F; clear a; intro a F
  (refine stepD rfl F rfl (o_call (F.ev rfl) (F.evs rfl) (Cal.mono (next_c 65536 (by omega) (by omega) _ (hT.later M.ext) (M.heap .here) ) ?_)); clear F; clear a; have M0 := M; clear M; rintro _ w ⟨rfl, N⟩ a F)
  replace M := M0.turn1 N .here
  refine stepD rfl F rfl (o_conv (F.ev rfl) (w_u64 (by omega) (by omega)) ?_); clear F; clear a; intro a F
  refine stepD rfl F rfl (o_assign (F.ev rfl) ?_); clear F; clear a; intro a F
  with_reducible refine l_nil ?_
  with_reducible refine q_then ?_
  with_reducible refine c_seq ?_
  with_reducible refine c_seq ?_
  with_reducible refine c_region ?_
  refine stepD rfl F rfl (o_move (F.ev rfl) ?_); clear F; clear a; intro a F
  (refine stepD rfl F rfl (o_call (F.ev rfl) (F.evs rfl) (Cal.mono (next_c 5 (by omega) (by omega) _ (hT.later M.ext) (M.heap .here) ) ?_)); clear F; clear a; have M0 := M; clear M; rintro _ w ⟨rfl, N⟩ a F)
  replace M := M0.turn1 N .here
  generalize nxV xs k 65536 = v at *
  rcases hcase with hc | hc | hc | hc | hc
  all_goals
    rw [hc] at F
    clear hc v2
    repeat (first | (with_reducible refine c_seq ?_) | (with_reducible refine c_region ?_) | (with_reducible refine l_nil ?_) | (with_reducible refine q_then ?_) | (with_reducible refine c_block ?_) | (with_reducible refine c_skip ?_) | (with_reducible refine q_inB ?_) | (with_reducible refine c_ret ?_) | (with_reducible refine q_thenR ?_) | (with_reducible refine q_inBR ?_) | (refine c_true F rfl rfl ?_) | (refine c_false F rfl rfl ?_) | (refine stepD rfl F rfl (o_move (F.ev rfl) ?_); clear F; clear a; intro a F) | (refine stepD rfl F rfl (o_assign (F.ev rfl) ?_); clear F; clear a; intro a F) | (refine stepD rfl F rfl (o_eqlT (F.ev rfl) (F.ev rfl) (by omega) ?_); clear F; clear a; intro a F) | (refine stepD rfl F rfl (o_eqlF (F.ev rfl) (F.ev rfl) (by omega) ?_); clear F; clear a; intro a F) | (refine stepD rfl F rfl (o_add (F.ev rfl) (F.ev rfl) (w_u64 (by omega) (by omega)) ?_); clear F; clear a; intro a F) | (refine stepD rfl F rfl (o_add (F.ev rfl) (F.ev rfl) rfl ?_); clear F; clear a; intro a F) | (refine stepD rfl F rfl (o_sub (F.ev rfl) (F.ev rfl) (w_u64 (by omega) (by omega)) ?_); clear F; clear a; intro a F) | (refine stepD rfl F rfl (o_shl (F.ev rfl) (F.ev rfl) (by omega) rfl ?_); clear F; clear a; intro a F) | (refine stepD rfl F rfl (o_rem (F.ev rfl) (F.ev rfl) (by omega) rfl ?_); clear F; clear a; intro a F))
    refine p_ret F rfl (.cons (.tmp (F.ev rfl)) .nil) ?_
    refine ⟨_, _, ?_, rfl, M⟩
    first
      | omega
      | exact wrap64_nn _
theorem IsIP.set {ip : List Int} (h : IsIP ip) (i : Nat) {x : Int} (h0 : 0 ≤ x) (h1 : x < 256) : IsIP (ip.set i x) :=
  ⟨by rw [List.length_set]; exact h.len, fun y hy => by
    rcases List.mem_or_eq_of_mem_set hy with hy | rfl
    · exact h.bd y hy
    · exact ⟨h0, h1⟩⟩
end

section
set_option linter.unusedVariables false
set_option linter.unusedSimpArgs false
open Go.RowKit
/-- what the reference's Contains says -/
def rcontainsP (p : List Int) (n : Int) (a : List Int) : Bool := validP p n && decide (n ≤ commonI p a)
theorem rcontains_is {p q : List Int} {n : Int} (hp : IsIP p) (hq : IsIP q) : rcontainsP p n q = containsP p n q := by
  unfold rcontainsP
  cases hv : validP p n with
  | false => simp [containsP, hv]
  | true =>
    have hb := validP_bd hv
    have hm : maskI p n = p := by
      simp only [validP, Bool.and_eq_true, beq_iff_eq] at hv
      exact hv.2
    have := contains_common hp hq hb.1 hb.2
    rw [hm] at this
    rw [this]; simp
theorem rcovers_is {p q : List Int} {n m : Int} (hp : IsIP p) (hq : IsIP q) : (validP p n && validP q m && decide (n ≤ m) && rcontainsP p n q) = coversP p n q m := by
  rw [rcontains_is hp hq]
  unfold coversP
  cases h1 : validP p n with
  | false => simp [containsP, h1]
  | true => cases validP q m <;> cases containsP p n q <;> cases decide (n ≤ m) <;> rfl
end

section
set_option linter.unusedVariables false
set_option linter.unusedSimpArgs false
open Go.RowKit
attribute [local irreducible] OpTo wpListIn Code.wpIn MW Cal
set_option maxHeartbeats 2000000 in
theorem rcontains_c (p : List Int) (n : Int) (hp : IsIP p) (q : List Int) (hq : IsIP q) (W : World) : Cal Try.prog 82 [.agg (pfC p n).toArray, .agg (ipC q).toArray].toArray W fun v w' => v = .bool (containsP p n q) ∧ Ext [] W w' := by
  rw [← rcontains_is hp hq]
  have e1 := seg_pf hp.len n
  have e2 := seg_pf0 hp.len n
  have e3 := nth_pf hp.len n
  have e4 := seg_all (ipC_len hq.len)
  obtain hv | hv : validP p n = false ∨ validP p n = true := by cases validP p n <;> simp
  · refine fn_ofM (n := 16) [] Try.func82 rfl rfl rfl ?_
    intro a w F M hwW
    refine c_seq ?_
    refine c_region ?_
    (refine stepD rfl F rfl (o_box M (F.ev rfl) rfl ?_); clear F; clear M; intro b2 w M a F)
    (refine stepD rfl F rfl (o_box M (F.ev rfl) rfl ?_); clear F; clear M; intro b3 w M a F)
    refine stepD rfl F rfl (o_assign (F.ev rfl) ?_); clear F; clear a; intro a F
    with_reducible refine l_nil ?_
    with_reducible refine q_then ?_
    with_reducible refine c_seq ?_
    refine c_draw 11 F (by kernel_rfl) ?_
    intro w1 hE hok
    have M1 := M.later hE
    refine mK hok rfl rfl (fun a' w' F' E' => o_loadA (M1.later E') (F'.ev rfl) (by repeat (first | exact .here | apply Has.there)) (by first | assumption | rfl) ⟨Ext.refl _ _, rfl⟩) ?_
    (refine mK hok rfl rfl (fun a' w' F' E' => o_call (F'.ev rfl) (F'.evs rfl) (Cal.mono (Cal.to (rvalidPrefix_c p n hp _) (by rw [hv])) fun _ _ hh => ⟨hh.2, hh.1⟩)) ?_)
    refine mK hok rfl rfl (fun a' w' F' E' => o_move (F'.ev rfl) ⟨Ext.refl _ _, rfl⟩) ?_
    refine mOff hok rfl rfl rfl rfl rfl ?_
    refine mOff hok rfl rfl rfl rfl rfl ?_
    refine mOff hok rfl rfl rfl rfl rfl ?_
    refine mOff hok rfl rfl rfl rfl rfl ?_
    refine mOff hok rfl rfl rfl rfl rfl ?_
    refine mOff hok rfl rfl rfl rfl rfl ?_
    refine mOff hok rfl rfl rfl rfl rfl ?_
    refine mK hok rfl rfl (fun a' w' F' E' => o_pickF (F'.ev rfl) (F'.ev rfl) ⟨Ext.refl _ _, rfl⟩) ?_
    (refine mDone rfl rfl ?_; clear F; clear M; intro a w F hE2 hX hTT hDD hPP; have M := M1.later hE2; clear M1; clear hX; clear hE2; clear hok; clear hE; clear hTT; clear hDD; clear hPP; (try dsimp only at F))
    refine stepD rfl F rfl (o_assign (F.ev rfl) ?_); clear F; clear a; intro a F
    with_reducible refine l_nil ?_
    with_reducible refine q_then ?_
    with_reducible refine c_ret ?_
    refine p_ret F rfl (.cons (.tmp (F.ev rfl)) .nil) ?_
    exact ⟨by simp [rcontainsP, hv, oneOr], M.ext⟩
  · refine fn_ofM (n := 16) [] Try.func82 rfl rfl rfl ?_
    intro a w F M hwW
    refine c_seq ?_
    refine c_region ?_
    (refine stepD rfl F rfl (o_box M (F.ev rfl) rfl ?_); clear F; clear M; intro b2 w M a F)
    (refine stepD rfl F rfl (o_box M (F.ev rfl) rfl ?_); clear F; clear M; intro b3 w M a F)
    refine stepD rfl F rfl (o_assign (F.ev rfl) ?_); clear F; clear a; intro a F
    with_reducible refine l_nil ?_
    with_reducible refine q_then ?_
    with_reducible refine c_seq ?_
    refine c_draw 11 F (by kernel_rfl) ?_
    intro w1 hE hok
    have M1 := M.later hE
    refine mK hok rfl rfl (fun a' w' F' E' => o_loadA (M1.later E') (F'.ev rfl) (by repeat (first | exact .here | apply Has.there)) (by first | assumption | rfl) ⟨Ext.refl _ _, rfl⟩) ?_
    (refine mK hok rfl rfl (fun a' w' F' E' => o_call (F'.ev rfl) (F'.evs rfl) (Cal.mono (Cal.to (rvalidPrefix_c p n hp _) (by rw [hv])) fun _ _ hh => ⟨hh.2, hh.1⟩)) ?_)
    refine mK hok rfl rfl (fun a' w' F' E' => o_move (F'.ev rfl) ⟨Ext.refl _ _, rfl⟩) ?_
    refine mKG hok rfl rfl rfl rfl (fun a' w' F' E' => o_fieldAddr (F'.ev rfl) ⟨Ext.refl _ _, rfl⟩) ?_
    refine mKG hok rfl rfl rfl rfl (fun a' w' F' E' => o_loadA (M1.later E') (F'.ev rfl) (by repeat (first | exact .here | apply Has.there)) (by first | assumption | rfl) ⟨Ext.refl _ _, rfl⟩) ?_
    refine mKG hok rfl rfl rfl rfl (fun a' w' F' E' => o_loadA (M1.later E') (F'.ev rfl) (by repeat (first | exact .here | apply Has.there)) (by first | assumption | rfl) ⟨Ext.refl _ _, rfl⟩) ?_
    (refine mKG hok rfl rfl rfl rfl (fun a' w' F' E' => o_call (F'.ev rfl) (F'.evs rfl) (Cal.mono (rcommon_c p q hp hq _) fun _ _ hh => ⟨hh.2, hh.1⟩)) ?_)
    refine mKG hok rfl rfl rfl rfl (fun a' w' F' E' => o_fieldAddr (F'.ev rfl) ⟨Ext.refl _ _, rfl⟩) ?_
    refine mKG hok rfl rfl rfl rfl (fun a' w' F' E' => o_load1 (M1.later E') (F'.ev rfl) (by repeat (first | exact .here | apply Has.there)) (by first | assumption | rfl) ⟨Ext.refl _ _, rfl⟩) ?_
    refine mKG hok rfl rfl rfl rfl (fun a' w' F' E' => o_geq (F'.ev rfl) (F'.ev rfl) ⟨Ext.refl _ _, rfl⟩) ?_
    refine mK hok rfl rfl (fun a' w' F' E' => o_pickT (F'.ev rfl) (F'.ev rfl) ⟨Ext.refl _ _, rfl⟩) ?_
    (refine mDone rfl rfl ?_; clear F; clear M; intro a w F hE2 hX hTT hDD hPP; have M := M1.later hE2; clear M1; clear hX; clear hE2; clear hok; clear hE; clear hTT; clear hDD; clear hPP; (try dsimp only at F))
    refine stepD rfl F rfl (o_assign (F.ev rfl) ?_); clear F; clear a; intro a F
    with_reducible refine l_nil ?_
    with_reducible refine q_then ?_
    with_reducible refine c_ret ?_
    refine p_ret F rfl (.cons (.tmp (F.ev rfl)) .nil) ?_
    exact ⟨by simp [rcontainsP, hv, oneOr], M.ext⟩
set_option maxHeartbeats 2000000 in
theorem rcovers_c (p : List Int) (n : Int) (hp : IsIP p) (q : List Int) (m : Int) (hq : IsIP q) (W : World) : Cal Try.prog 50 [.agg (pfC p n).toArray, .agg (pfC q m).toArray].toArray W fun v w' => v = .bool (coversP p n q m) ∧ Ext [] W w' := by
  rw [← rcovers_is hp hq, rcontains_is hp hq]
  have e1 := seg_pf hp.len n
  have e3 := nth_pf hp.len n
  have f1 := seg_pf hq.len m
  have f2 := seg_pf0 hq.len m
  have f3 := nth_pf hq.len m
  refine fn_ofM (n := 24) [] Try.func50 rfl rfl rfl ?_
  intro a w F M hwW
  refine c_seq ?_
  refine c_region ?_
  (refine stepD rfl F rfl (o_box M (F.ev rfl) rfl ?_); clear F; clear M; intro b2 w M a F)
  (refine stepD rfl F rfl (o_box M (F.ev rfl) rfl ?_); clear F; clear M; intro b3 w M a F)
  refine stepD rfl F rfl (o_assign (F.ev rfl) ?_); clear F; clear a; intro a F
  with_reducible refine l_nil ?_
  with_reducible refine q_then ?_
  with_reducible refine c_seq ?_
  with_reducible refine c_region ?_
  refine stepD rfl F rfl (o_loadA M (F.ev rfl) (by repeat (first | exact .here | apply Has.there)) (by first | assumption | rfl) ?_); clear F; clear a; intro a F
  (refine stepD rfl F rfl (o_call (F.ev rfl) (F.evs rfl) (Cal.mono (rvalidPrefix_c p n hp _) ?_)); clear F; clear a; rintro _ w ⟨rfl, hE⟩ a F; replace M := M.later hE; clear hE)
  obtain hv | hv : validP p n = false ∨ validP p n = true := by cases validP p n <;> simp
  · rw [hv] at F
    refine stepD rfl F rfl (o_move (F.ev rfl) ?_); clear F; clear a; intro a F
    refine stepOff F rfl rfl rfl rfl ?_; clear F; clear a; intro a F
    refine stepOff F rfl rfl rfl rfl ?_; clear F; clear a; intro a F
    refine stepD rfl F rfl (o_pickF (F.ev rfl) (F.ev rfl) ?_); clear F; clear a; intro a F
    refine stepD rfl F rfl (o_move (F.ev rfl) ?_); clear F; clear a; intro a F
    refine stepOff F rfl rfl rfl rfl ?_; clear F; clear a; intro a F
    refine stepOff F rfl rfl rfl rfl ?_; clear F; clear a; intro a F
    refine stepOff F rfl rfl rfl rfl ?_; clear F; clear a; intro a F
    refine stepOff F rfl rfl rfl rfl ?_; clear F; clear a; intro a F
    refine stepOff F rfl rfl rfl rfl ?_; clear F; clear a; intro a F
    refine stepD rfl F rfl (o_pickF (F.ev rfl) (F.ev rfl) ?_); clear F; clear a; intro a F
    refine stepD rfl F rfl (o_move (F.ev rfl) ?_); clear F; clear a; intro a F
    refine stepOff F rfl rfl rfl rfl ?_; clear F; clear a; intro a F
    refine stepOff F rfl rfl rfl rfl ?_; clear F; clear a; intro a F
    refine stepOff F rfl rfl rfl rfl ?_; clear F; clear a; intro a F
    refine stepOff F rfl rfl rfl rfl ?_; clear F; clear a; intro a F
    refine stepD rfl F rfl (o_pickF (F.ev rfl) (F.ev rfl) ?_); clear F; clear a; intro a F
    refine stepD rfl F rfl (o_assign (F.ev rfl) ?_); clear F; clear a; intro a F
    with_reducible refine l_nil ?_
    with_reducible refine q_then ?_
    with_reducible refine c_ret ?_
    refine p_ret F rfl (.cons (.tmp (F.ev rfl)) .nil) ?_
    exact ⟨by simp [hv, oneOr], M.ext⟩
  rw [hv] at F
  refine stepD rfl F rfl (o_move (F.ev rfl) ?_); clear F; clear a; intro a F
  refine stepG rfl F rfl rfl rfl (o_loadA M (F.ev rfl) (by repeat (first | exact .here | apply Has.there)) (by first | assumption | rfl) ?_); clear F; clear a; intro a F
  (refine stepG rfl F rfl rfl rfl (o_call (F.ev rfl) (F.evs rfl) (Cal.mono (rvalidPrefix_c q m hq _) ?_)); clear F; clear a; rintro _ w ⟨rfl, hE⟩ a F; replace M := M.later hE; clear hE)
  obtain hw | hw : validP q m = false ∨ validP q m = true := by cases validP q m <;> simp
  · rw [hw] at F
    refine stepD rfl F rfl (o_pickT (F.ev rfl) (F.ev rfl) ?_); clear F; clear a; intro a F
    refine stepD rfl F rfl (o_move (F.ev rfl) ?_); clear F; clear a; intro a F
    refine stepOff F rfl rfl rfl rfl ?_; clear F; clear a; intro a F
    refine stepOff F rfl rfl rfl rfl ?_; clear F; clear a; intro a F
    refine stepOff F rfl rfl rfl rfl ?_; clear F; clear a; intro a F
    refine stepOff F rfl rfl rfl rfl ?_; clear F; clear a; intro a F
    refine stepOff F rfl rfl rfl rfl ?_; clear F; clear a; intro a F
    refine stepD rfl F rfl (o_pickF (F.ev rfl) (F.ev rfl) ?_); clear F; clear a; intro a F
    refine stepD rfl F rfl (o_move (F.ev rfl) ?_); clear F; clear a; intro a F
    refine stepOff F rfl rfl rfl rfl ?_; clear F; clear a; intro a F
    refine stepOff F rfl rfl rfl rfl ?_; clear F; clear a; intro a F
    refine stepOff F rfl rfl rfl rfl ?_; clear F; clear a; intro a F
    refine stepOff F rfl rfl rfl rfl ?_; clear F; clear a; intro a F
    refine stepD rfl F rfl (o_pickF (F.ev rfl) (F.ev rfl) ?_); clear F; clear a; intro a F
    refine stepD rfl F rfl (o_assign (F.ev rfl) ?_); clear F; clear a; intro a F
    with_reducible refine l_nil ?_
    with_reducible refine q_then ?_
    with_reducible refine c_ret ?_
    refine p_ret F rfl (.cons (.tmp (F.ev rfl)) .nil) ?_
    exact ⟨by simp [hv, hw, oneOr], M.ext⟩
  rw [hw] at F
  by_cases hnm : n ≤ m
  · refine stepD rfl F rfl (o_pickT (F.ev rfl) (F.ev rfl) ?_); clear F; clear a; intro a F
    refine stepD rfl F rfl (o_move (F.ev rfl) ?_); clear F; clear a; intro a F
    refine stepG rfl F rfl rfl rfl (o_fieldAddr (F.ev rfl) ?_); clear F; clear a; intro a F
    refine stepG rfl F rfl rfl rfl (o_load1 M (F.ev rfl) (by repeat (first | exact .here | apply Has.there)) (by first | assumption | rfl) ?_); clear F; clear a; intro a F
    refine stepG rfl F rfl rfl rfl (o_fieldAddr (F.ev rfl) ?_); clear F; clear a; intro a F
    refine stepG rfl F rfl rfl rfl (o_load1 M (F.ev rfl) (by repeat (first | exact .here | apply Has.there)) (by first | assumption | rfl) ?_); clear F; clear a; intro a F
    refine stepG rfl F rfl rfl rfl (o_leqT (F.ev rfl) (F.ev rfl) (by omega) ?_); clear F; clear a; intro a F
    refine stepD rfl F rfl (o_pickT (F.ev rfl) (F.ev rfl) ?_); clear F; clear a; intro a F
    refine stepD rfl F rfl (o_move (F.ev rfl) ?_); clear F; clear a; intro a F
    refine stepG rfl F rfl rfl rfl (o_loadA M (F.ev rfl) (by repeat (first | exact .here | apply Has.there)) (by first | assumption | rfl) ?_); clear F; clear a; intro a F
    refine stepG rfl F rfl rfl rfl (o_fieldAddr (F.ev rfl) ?_); clear F; clear a; intro a F
    refine stepG rfl F rfl rfl rfl (o_loadA M (F.ev rfl) (by repeat (first | exact .here | apply Has.there)) (by first | assumption | rfl) ?_); clear F; clear a; intro a F
    (refine stepG rfl F rfl rfl rfl (o_call (F.ev rfl) (F.evs rfl) (Cal.mono (rcontains_c p n hp q hq _) ?_)); clear F; clear a; rintro _ w ⟨rfl, hE⟩ a F; replace M := M.later hE; clear hE)
    refine stepD rfl F rfl (o_pickT (F.ev rfl) (F.ev rfl) ?_); clear F; clear a; intro a F
    refine stepD rfl F rfl (o_assign (F.ev rfl) ?_); clear F; clear a; intro a F
    with_reducible refine l_nil ?_
    with_reducible refine q_then ?_
    with_reducible refine c_ret ?_
    refine p_ret F rfl (.cons (.tmp (F.ev rfl)) .nil) ?_
    exact ⟨by simp [hv, hw, hnm, oneOr], M.ext⟩
  · refine stepD rfl F rfl (o_pickT (F.ev rfl) (F.ev rfl) ?_); clear F; clear a; intro a F
    refine stepD rfl F rfl (o_move (F.ev rfl) ?_); clear F; clear a; intro a F
    refine stepG rfl F rfl rfl rfl (o_fieldAddr (F.ev rfl) ?_); clear F; clear a; intro a F
    refine stepG rfl F rfl rfl rfl (o_load1 M (F.ev rfl) (by repeat (first | exact .here | apply Has.there)) (by first | assumption | rfl) ?_); clear F; clear a; intro a F
    refine stepG rfl F rfl rfl rfl (o_fieldAddr (F.ev rfl) ?_); clear F; clear a; intro a F
    refine stepG rfl F rfl rfl rfl (o_load1 M (F.ev rfl) (by repeat (first | exact .here | apply Has.there)) (by first | assumption | rfl) ?_); clear F; clear a; intro a F
    refine stepG rfl F rfl rfl rfl (o_leqF (F.ev rfl) (F.ev rfl) (by omega) ?_); clear F; clear a; intro a F
    refine stepD rfl F rfl (o_pickT (F.ev rfl) (F.ev rfl) ?_); clear F; clear a; intro a F
    refine stepD rfl F rfl (o_move (F.ev rfl) ?_); clear F; clear a; intro a F
    refine stepOff F rfl rfl rfl rfl ?_; clear F; clear a; intro a F
    refine stepOff F rfl rfl rfl rfl ?_; clear F; clear a; intro a F
    refine stepOff F rfl rfl rfl rfl ?_; clear F; clear a; intro a F
    refine stepOff F rfl rfl rfl rfl ?_; clear F; clear a; intro a F
    refine stepD rfl F rfl (o_pickF (F.ev rfl) (F.ev rfl) ?_); clear F; clear a; intro a F
    refine stepD rfl F rfl (o_assign (F.ev rfl) ?_); clear F; clear a; intro a F
    with_reducible refine l_nil ?_
    with_reducible refine q_then ?_
    with_reducible refine c_ret ?_
    refine p_ret F rfl (.cons (.tmp (F.ev rfl)) .nil) ?_
    exact ⟨by simp [hv, hw, hnm, oneOr], M.ext⟩
end

end Go.Proofs.Ytainnefmobfcjaa

/-! NOpen -/
/-
  The arguments of this seat's laws, opened.
-/
namespace Go.Proofs.Ytainnefmobfcjaa
set_option linter.unusedVariables false
set_option linter.unusedSimpArgs false
open Go.ChangeShapes Go.WideShapes Go.ChangeAt Go.RowKit

def loK : IntKind → Int
  | .i64 => -9223372036854775808 | .u64 => 0 | .u32 => 0 | .u16 => 0 | .u8 => 0 | .i32 => -2147483648 | k => k.min
def hiK : IntKind → Int
  | .i64 => 9223372036854775807 | .u64 => 18446744073709551615 | .u32 => 4294967295 | .u16 => 65535 | .u8 => 255 | .i32 => 2147483647 | k => k.max
theorem int_bd {k : IntKind} {n : Int} (h : (Lit.int k n).wf = true) : loK k ≤ n ∧ n ≤ hiK k := by
  have := wf_bd h
  cases k <;> simp [IntKind.min, IntKind.max, IntKind.signed, IntKind.bits, loK, hiK] at this ⊢ <;> omega
theorem wfV_int {k : IntKind} {v : Value} (h : wfV (.i k) v = true) : ∃ n, v = .int k n ∧ loK k ≤ n ∧ n ≤ hiK k := by
  cases v <;> simp [wfV] at h
  rename_i k' n
  obtain ⟨rfl, hw⟩ := h
  exact ⟨n, rfl, int_bd hw⟩
theorem wfK_cons {k : LK} {ks : List LK} {xs : List Value} (h : wfK (k :: ks) xs = true) : ∃ x ys, xs = x :: ys ∧ wfV k x = true ∧ wfK ks ys = true := by
  cases xs with
  | nil => cases h
  | cons x ys => simp only [wfK, Bool.and_eq_true] at h; exact ⟨x, ys, rfl, h.1, h.2⟩
theorem wfK_nil {xs : List Value} (h : wfK [] xs = true) : xs = [] := by
  cases xs with
  | nil => rfl
  | cons x ys => cases h
theorem ip_wf : ∀ (xs : List Value) (n : Nat), wfK (List.replicate n (.i .u8)) xs = true → ∃ a : List Int, xs = ipC a ∧ a.length = n ∧ ∀ x ∈ a, 0 ≤ x ∧ x < 256
  | [], 0, _ => ⟨[], rfl, rfl, by simp⟩
  | [], n + 1, h => by simp [List.replicate_succ, wfK] at h
  | _ :: _, 0, h => by simp [wfK] at h
  | x :: xs, n + 1, h => by
    simp only [List.replicate_succ, wfK, Bool.and_eq_true] at h
    obtain ⟨a, rfl, hl, hb⟩ := ip_wf xs n h.2
    obtain ⟨m, rfl, h0, h1⟩ := wfV_int h.1
    refine ⟨m :: a, rfl, by simp [hl], fun y hy => ?_⟩
    rcases List.mem_cons.1 hy with rfl | hy
    · simp only [loK, hiK] at h0 h1; omega
    · exact hb y hy
section
variable {H : Type} {enc : TypeId × Value → H} {w : World} {r : Reach} {b0 base : Nat} {sp : Nat → Bool} {held : Bool} {v : Value} {d : DataW H} {p : List MemPlace}
set_option maxRecDepth 100000 in
theorem open_ip (hval : Value.okWide Try.prog w r b0 26 v) (h : DataW.Trod enc Try.prog w base sp held 26 v d p) : ∃ a, IsIP a ∧ v = .agg (ipC a).toArray := by
  obtain ⟨xs, rfl, hw⟩ := open_lf (ks := List.replicate 16 (.i .u8)) (by kernel_rfl) hval h
  obtain ⟨a, rfl, hl, hb⟩ := ip_wf xs 16 hw
  exact ⟨a, ⟨hl, hb⟩, rfl⟩
theorem wfK_split : ∀ {ks ks' : List LK} {xs : List Value}, wfK (ks ++ ks') xs = true → ∃ ys zs, xs = ys ++ zs ∧ wfK ks ys = true ∧ wfK ks' zs = true
  | [], ks', xs, h => ⟨[], xs, rfl, rfl, h⟩
  | k :: ks, ks', [], h => by cases h
  | k :: ks, ks', x :: xs, h => by
    simp only [List.cons_append, wfK, Bool.and_eq_true] at h
    obtain ⟨ys, zs, rfl, h1, h2⟩ := wfK_split h.2
    exact ⟨x :: ys, zs, rfl, by simp [wfK, h.1, h1], h2⟩
set_option maxRecDepth 100000 in
theorem open_pf (hval : Value.okWide Try.prog w r b0 28 v) (h : DataW.Trod enc Try.prog w base sp held 28 v d p) : ∃ a n, IsIP a ∧ (-9223372036854775808 ≤ n ∧ n ≤ 9223372036854775807) ∧ v = .agg (pfC a n).toArray := by
  obtain ⟨xs, rfl, hw⟩ := open_lf (ks := List.replicate 16 (.i .u8) ++ [.i .i64]) (by kernel_rfl) hval h
  obtain ⟨ys, zs, rfl, h1, h2⟩ := wfK_split hw
  obtain ⟨a, rfl, hl, hb⟩ := ip_wf ys 16 h1
  obtain ⟨z, zs, rfl, h3, h4⟩ := wfK_cons h2
  obtain rfl := wfK_nil h4
  obtain ⟨n, rfl, h5, h6⟩ := wfV_int h3
  exact ⟨a, n, ⟨hl, hb⟩, ⟨h5, h6⟩, rfl⟩
/-- a link address's numbers fit -/
def IsAd (m s e : Int) : Prop := (-9223372036854775808 ≤ m ∧ m ≤ 9223372036854775807) ∧ (0 ≤ s ∧ s ≤ 65535) ∧ (0 ≤ e ∧ e ≤ 18446744073709551615)
set_option maxRecDepth 100000 in
theorem open_ad (hval : Value.okWide Try.prog w r b0 71 v) (h : DataW.Trod enc Try.prog w base sp held 71 v d p) : ∃ m s e, IsAd m s e ∧ v = .agg (adC m s e).toArray := by
  obtain ⟨xs, rfl, hw⟩ := open_lf (ks := [.i .i64, .i .u16, .i .u64]) (by kernel_rfl) hval h
  obtain ⟨x, xs, rfl, h1, hw⟩ := wfK_cons hw
  obtain ⟨y, xs, rfl, h2, hw⟩ := wfK_cons hw
  obtain ⟨z, xs, rfl, h3, hw⟩ := wfK_cons hw
  obtain rfl := wfK_nil hw
  obtain ⟨m, rfl, a1, a2⟩ := wfV_int h1
  obtain ⟨s, rfl, a3, a4⟩ := wfV_int h2
  obtain ⟨e, rfl, a5, a6⟩ := wfV_int h3
  exact ⟨m, s, e, ⟨⟨a1, a2⟩, ⟨a3, a4⟩, ⟨a5, a6⟩⟩, rfl⟩
end
end Go.Proofs.Ytainnefmobfcjaa

/-! NOpen2 -/
/-
  Arguments that are slices of int, opened.
-/
namespace Go.Proofs.Ytainnefmobfcjaa
set_option linter.unusedVariables false
set_option linter.unusedSimpArgs false
open Go.ChangeShapes Go.WideShapes Go.ChangeAt Go.RowKit

set_option maxRecDepth 100000 in
theorem open_il {H : Type} {enc : TypeId × Value → H} {w : World} {r : Reach} {b0 base : Nat} {held : Bool} {v : Value} {d : DataW H} {p : List MemPlace} (hval : Value.okWide Try.prog w r b0 22 v) (h : DataW.Trod enc Try.prog w base (fun _ => true) held 22 v d p) :
    ∃ xs q cap, v = .slice q xs.length cap ∧ xs.length ≤ cap ∧ IntsAt w v xs := by
  obtain ⟨a, len, cap, rfl⟩ := okWide_slice Try.underlying22 hval
  obtain ⟨fuel, hf⟩ := h
  have hone : (Value.slice a len cap).cells.toList = [Value.slice a len cap] := rfl
  rw [hone] at hf
  rcases open_ints Try.underlying22 Try.underlying3 (by kernel_rfl) hf with ⟨h1, _⟩ | ⟨a', len', cap', zs, h1, _, hlc, hcm, hzl, _, hat, hwf⟩
  · cases h1
    exact ⟨[], none, 0, rfl, by simp, ⟨⟨none, 0, rfl, by simp, fun h => absurd h (by simp)⟩, by simp, by simp⟩⟩
  · cases h1
    simp only [if_true] at hzl
    have hml : maxLen = 9223372036854775807 := rfl
    have htl : (zs.take len).length = len := by rw [List.length_take]; omega
    refine ⟨zs.take len, some a', cap, by rw [htl], by omega, ⟨⟨some a', cap, by rw [htl], by omega, fun hl => ?_⟩, fun x hx => ?_, by omega⟩⟩
    · rw [htl] at hl
      have h0 := hat 0 (by omega)
      have hsp : a'.spot = none := by
        cases hs : a'.spot with
        | none => rfl
        | some q =>
          have e0 : a'.add 0 = a' := by simp [Addr.add]
          rw [e0] at h0
          simp only [World.cell?, hs] at h0
          split at h0 <;> simp at h0
      obtain ⟨b, o, sp⟩ := a'
      simp only at hsp
      subst hsp
      have hadd : ∀ i, (⟨b, o, none⟩ : Addr).add i = ⟨b, o + i, none⟩ := fun i => addr_add b o i
      rw [hadd] at h0
      cases hb : w.heap[b]? with
      | none => simp [World.cell?, hb] at h0
      | some ob =>
        cases ob with
        | cells cs t fz =>
          refine ⟨b, o, cs, t, fz, rfl, hb, ?_⟩
          have hcell : ∀ i, i < zs.length → cs[o + i]? = some (.int .i64 (zs.getD i 0)) := fun i hi => by
            have := hat i hi
            rw [hadd] at this
            simpa [World.cell?, hb] using this
          have hle : o + len ≤ cs.toList.length := by
            have := hcell (len - 1) (by omega)
            have := (Array.getElem?_eq_some_iff.1 this).1
            simp only [Array.length_toList]
            omega
          rw [htl, seg_eq, if_pos hle]
          congr 1
          apply List.ext_getElem
          · simp only [List.length_take, List.length_drop, i64C, List.length_map]
            omega
          · intro i h1 h2
            have hi : i < len := by simp only [List.length_take] at h1; omega
            have := hcell i (by omega)
            have h3 := Array.getElem?_eq_some_iff.1 this
            obtain ⟨h4, h5⟩ := h3
            simp only [List.getElem_take, List.getElem_drop, Array.getElem_toList, h5, i64C, List.getElem_map]
            rw [List.getD_eq_getElem?_getD, List.getElem?_eq_getElem (by omega)]
            rfl
        | _ => simp [World.cell?, hb] at h0
    · have := int_bd (hwf x (List.mem_of_mem_take hx))
      exact this
end Go.Proofs.Ytainnefmobfcjaa

/-! LibQ -/
/-
  The calculus, part Q: slices that came in and are read (SlAt), cap, parts of slices, entries of the model (bytealg.Compare, slices.overlaps), append of zeros.
-/
namespace Go.Proofs.Ytainnefmobfcjaa
set_option linter.unusedVariables false
set_option linter.unusedSimpArgs false
open Go.RowKit

theorem sg_eq : ∀ (cs : List Value) (off n : Nat), seg cs off n = if off + n ≤ cs.length then some ((cs.drop off).take n) else none
  | [], 0, 0 => by simp [seg]
  | [], 0, n + 1 => by simp [seg]
  | [], off + 1, n => by simp [seg]
  | x :: xs, 0, 0 => by simp [seg]
  | x :: xs, 0, n + 1 => by
    rw [seg, sg_eq xs 0 n]
    by_cases h : n ≤ xs.length
    · rw [if_pos (by omega), if_pos (by simp; omega)]; simp
    · rw [if_neg (by omega), if_neg (by simp; omega)]
  | x :: xs, off + 1, n => by
    rw [seg, sg_eq xs off n]
    by_cases h : off + n ≤ xs.length
    · rw [if_pos h, if_pos (by simp; omega)]; simp
    · rw [if_neg h, if_neg (by simp; omega)]
theorem sg_seg {cs ys zs : List Value} {o n off k q : Nat} (h : seg cs o n = some ys) (h2 : seg ys off k = some zs) (hq : q = o + off) : seg cs q k = some zs := by
  subst hq
  rw [sg_eq] at *
  split at h
  · rename_i h1
    simp only [Option.some.injEq] at h
    subst h
    split at h2
    · rename_i h3
      simp only [List.length_take, List.length_drop] at h3
      simp only [Option.some.injEq] at h2
      subst h2
      rw [if_pos (by omega)]
      congr 1
      rw [List.drop_take, List.take_take, List.drop_drop]
      congr 1
      omega
    · cases h2
  · cases h
theorem sg_nth {cs ys : List Value} {o n off q : Nat} {v : Value} (h : seg cs o n = some ys) (h2 : nth ys off = some v) (hq : q = o + off) : nth cs q = some v := by
  subst hq
  obtain ⟨h3, h4⟩ := seg_spec _ _ _ _ h
  rw [nth_spec] at *
  have hlt : off < n := by rw [← h3]; exact (List.getElem?_eq_some_iff.1 h2).1
  rw [h4 off hlt, h2]
theorem sg_all {xs : List Value} {k : Nat} (h : xs.length = k) : seg xs 0 k = some xs := by
  rw [sg_eq, if_pos (by omega)]; simp [← h]

/-- the cells of a list of elements -/
def encL {α : Type} (enc : α → List Value) (ls : List α) : List Value := ls.flatMap enc
theorem encL_nil {α : Type} (enc : α → List Value) : encL enc [] = [] := rfl
theorem encL_app {α : Type} (enc : α → List Value) (xs ys : List α) : encL enc (xs ++ ys) = encL enc xs ++ encL enc ys := by simp [encL]
theorem encL_cons {α : Type} (enc : α → List Value) (x : α) (ys : List α) : encL enc (x :: ys) = enc x ++ encL enc ys := by simp [encL]
theorem encL_one {α : Type} (enc : α → List Value) (x : α) : encL enc [x] = enc x := by simp [encL]
theorem encL_len {α : Type} {enc : α → List Value} {sz : Nat} {ls : List α} (h : ∀ x ∈ ls, (enc x).length = sz) : (encL enc ls).length = ls.length * sz := by
  induction ls with
  | nil => simp [encL]
  | cons x ls ih =>
    rw [encL_cons, List.length_append, h x (by simp), ih fun y hy => h y (by simp [hy]), List.length_cons, Nat.add_mul]; omega
theorem encL_take {α : Type} {enc : α → List Value} {sz : Nat} {ls : List α} (h : ∀ x ∈ ls, (enc x).length = sz) (i : Nat) : (encL enc ls).take (i * sz) = encL enc (ls.take i) := by
  rcases Nat.lt_or_ge i ls.length with hi | hi
  · conv => lhs; rw [← List.take_append_drop i ls, encL_app]
    have := encL_len (ls := ls.take i) (sz := sz) (enc := enc) fun x hx => h x (List.mem_of_mem_take hx)
    rw [List.length_take, Nat.min_eq_left (by omega)] at this
    rw [← this, List.take_left']
    rfl
  · rw [List.take_of_length_le hi, List.take_of_length_le]
    rw [encL_len h]; exact Nat.mul_le_mul_right _ hi
theorem encL_drop {α : Type} {enc : α → List Value} {sz : Nat} {ls : List α} (h : ∀ x ∈ ls, (enc x).length = sz) (i : Nat) : (encL enc ls).drop (i * sz) = encL enc (ls.drop i) := by
  have h1 := List.take_append_drop (i * sz) (encL enc ls)
  have h2 : encL enc (ls.take i) ++ encL enc (ls.drop i) = encL enc ls := by rw [← encL_app, List.take_append_drop]
  rw [encL_take h] at h1
  exact List.append_cancel_left (h1.trans h2.symm)
theorem encL_all {α : Type} {enc : α → List Value} {ls : List α} (h : ∀ x ∈ ls, (enc x).all (·.oneCell') = true) : (encL enc ls).all (·.oneCell') = true := by
  simp only [encL, List.all_eq_true, List.mem_flatMap] at *
  rintro v ⟨x, hx, hv⟩
  exact h x hx v hv
theorem seg_el {α : Type} {enc : α → List Value} {sz : Nat} {ls : List α} (hsz : ∀ x ∈ ls, (enc x).length = sz) {cs : List Value} {o n : Nat} (h : seg cs o (n * sz) = some (encL enc ls)) {i : Nat} (hi : i < ls.length) {q : Nat} (hq : q = o + i * sz) : seg cs q sz = some (enc ls[i]) := by
  refine sg_seg h ?_ hq
  have hl := encL_len hsz
  have hi' : i * sz + sz ≤ ls.length * sz := by rw [← Nat.succ_mul]; exact Nat.mul_le_mul_right _ hi
  rw [sg_eq, if_pos (by omega), encL_drop hsz, List.drop_eq_getElem_cons hi, encL_cons]
  congr 1
  rw [← hsz ls[i] (List.getElem_mem hi), List.take_left']
  rfl

/-- v: a slice of n elements (sz cells each), whose cells are xs -/
def SlAt (W : World) (sz : Nat) (v : Value) (n : Nat) (xs : List Value) : Prop :=
  ∃ p cap, v = .slice p n cap ∧ n ≤ cap ∧ (∀ a, p = some a → a.spot = none) ∧ xs.length = n * sz ∧ (0 < n → ∃ b o cs t fz, p = some ⟨b, o, none⟩ ∧ W.heap[b]? = some (.cells (List.toArray cs) t fz) ∧ seg cs o (n * sz) = some xs)
theorem SlAt.later {W w : World} {sz : Nat} {v : Value} {n : Nat} {xs : List Value} (h : SlAt W sz v n xs) (E : Ext [] W w) : SlAt w sz v n xs := by
  obtain ⟨p, cap, h1, h2, h3, h4, h5⟩ := h
  refine ⟨p, cap, h1, h2, h3, h4, fun hn => ?_⟩
  obtain ⟨b, o, cs, t, fz, h6, h7, h8⟩ := h5 hn
  exact ⟨b, o, cs, t, fz, h6, by rw [E.block b (Array.getElem?_eq_some_iff.1 h7).1 (by simp)]; exact h7, h8⟩
theorem SlAt.nil (W : World) (sz : Nat) : SlAt W sz (.slice none 0 0) 0 [] := ⟨none, 0, rfl, Nat.le_refl _, by simp, by simp, fun h => absurd h (by omega)⟩
theorem OwnS.slAt {e : TypeId} {sz : Nat} {v : Value} {n : Nat} {xs : List Value} {ent : List (Nat × Obj)} (h : OwnS e sz v n xs ent) {S : List Nat} {W0 w : World} {l : List (Nat × Obj)} (M : Mem S W0 w l) (hs : ∀ p ∈ ent, p ∈ l) : SlAt w sz v n xs := by
  rcases h with ⟨rfl, rfl, rfl, rfl⟩ | ⟨b, cap, junk, rfl, rfl, hxl, hjl, hnc⟩
  · exact SlAt.nil _ _
  · refine ⟨_, _, rfl, hnc, by simp, hxl, fun _ => ⟨b, 0, xs ++ junk, e, (0, 0), rfl, M.at_ (b, _) (hs _ (by simp)), ?_⟩⟩
    have := seg_of [] xs junk
    simpa [hxl] using this
/-- the elements' slice as a whole new list of them -/
theorem SlAt.src {P : Program} {W : World} {sz : Nat} {v : Value} {n : Nat} {xs : List Value} (h : SlAt W sz v n xs) (h1 : xs.all (·.oneCell') = true) : SrcOf P W v n sz xs := by
  obtain ⟨p, cap, rfl, h2, h3, h4, h5⟩ := h
  rcases Nat.eq_zero_or_pos n with hn | hn
  · subst hn
    have : xs = [] := List.length_eq_zero_iff.1 (by simpa using h4)
    subst this
    refine ⟨by simp [Builtin.lenOf], fun d => ?_, by simp, by simp⟩
    cases p with
    | none => simp [Builtin.firstCells]
    | some a => exact run_firstCells_some _ sz 0 _ _ _ [] (by simp) (fun j v hj => by simp at hj)
  · obtain ⟨b, o, cs, t, fz, rfl, h7, h8⟩ := h5 hn
    exact SrcOf.cells' h7 h8 h1

section
variable {P : Program} {ρ : Operand → Value} {w W0 : World} {S : List Nat} {l l' : List (Nat × Obj)} {R : Value → World → Prop} {d : Option Tmp} {ty : TypeId} {pos : String} {af : Array Edge} {g : Option (Nat × Bool)}

/-- a load out of what there was when the call began -/
theorem o_loadW1 {t : TypeId} {x : Operand} {b off : Nat} {cs : List Value} {t' : TypeId} {fz : Nat × Nat} {v : Value} [ht : TOne P t] (M : Mem [] W0 w l) (hx : ρ x = .pointer (some ⟨b, off, none⟩)) (hb : W0.heap[b]? = some (.cells cs.toArray t' fz)) (hv : nth cs off = some v) (h : R v w) : OpTo P ⟨d, .load t x, ty, pos, af, g⟩ ρ w R :=
  o_load hx (run_loadVar_one ht.h (cell_at ((M.ext.block b (Array.getElem?_eq_some_iff.1 hb).1 (by simp)).trans hb) (by rw [nth_spec] at hv; simpa using hv))) h
theorem o_loadWA {t : TypeId} {x : Operand} {b off n : Nat} {cs : List Value} {t' : TypeId} {fz : Nat × Nat} {vs : List Value} [ht : TAgg P t n] (M : Mem [] W0 w l) (hx : ρ x = .pointer (some ⟨b, off, none⟩)) (hb : W0.heap[b]? = some (.cells cs.toArray t' fz)) (hv : seg cs off n = some vs) (h : R (.agg vs.toArray) w) : OpTo P ⟨d, .load t x, ty, pos, af, g⟩ ρ w R :=
  o_load hx (run_loadVar_agg ht.h ((M.ext.block b (Array.getElem?_eq_some_iff.1 hb).1 (by simp)).trans hb) (by simpa using hv)) h

theorem o_capSl {x : Operand} {t e : TypeId} {p : Option Addr} {n c : Nat} (hx : ρ x = .slice p n c) [ht : TU P t (.slice e)] (h : R (.int .i64 c) w) : OpTo P ⟨d, .call ⟨.builtin .cap, #[x], #[t]⟩, ty, pos, af, g⟩ ρ w R :=
  OpTo.val (v := .int .i64 c) (w' := w) (by simp [execOp, resolve, invoke, builtin, hx, Builtin.cap_, run_underlying ht.h, goInt]) h
/-- x[i:] of a slice, i below its capacity -/
theorem o_slL {t e : TypeId} {x i : Operand} {k : IntKind} {b o len cap : Nat} {m : Int} (hx : ρ x = .slice (some ⟨b, o, none⟩) len cap) (hi : ρ i = .int k m) [ht : TU P t (.slice e)] {sz : Nat} [hs : TSz P e sz] (h0 : 0 ≤ m) (h1 : m ≤ len) (h3 : m < cap) (h : R (.slice (some ⟨b, o + m.toNat * sz, none⟩) (len - m.toNat) (cap - m.toNat)) w) : OpTo P ⟨d, .slice t x (some i) none none, ty, pos, af, g⟩ ρ w R := by
  have h6 : ¬ cap = m.toNat := by omega
  exact OpTo.val (v := .slice (some ⟨b, o + m.toNat * sz, none⟩) (len - m.toNat) (cap - m.toNat)) (w' := w) (by simp [execOp, Instr.sliceAt, Instr.slice, Instr.sliceBounds, Instr.sliceBound, asIntOf, hx, hi, run_underlying ht.h, run_sizeOf hs.h, h0, h1, h6, addr_add]) h
/-- x[i:] of a slice, whose place is not looked at -/
theorem o_slLany {t e : TypeId} {x i : Operand} {k : IntKind} {p : Option Addr} {len cap : Nat} {m : Int} (hx : ρ x = .slice p len cap) (hi : ρ i = .int k m) [ht : TU P t (.slice e)] {sz : Nat} [hs : TSz P e sz] (h0 : 0 ≤ m) (h1 : m ≤ len) (h : ∀ q, R (.slice q (len - m.toNat) (cap - m.toNat)) w) : OpTo P ⟨d, .slice t x (some i) none none, ty, pos, af, g⟩ ρ w R := by
  exact OpTo.val (v := .slice (if cap = m.toNat then p else p.map (·.add (m.toNat * sz))) (len - m.toNat) (cap - m.toNat)) (w' := w) (by simp [execOp, Instr.sliceAt, Instr.slice, Instr.sliceBounds, Instr.sliceBound, asIntOf, hx, hi, run_underlying ht.h, run_sizeOf hs.h, h0, h1]) (h _)

/-! entries of the model -/
theorem o_entry {c : Operand} {f : FuncId} {fn : Func} {e : Array Value → Sem Value} {xs : Array Operand} {ts : Array TypeId} {vs : Array Value} {v : Value} (hc : ρ c = .func (.func f) #[] #[]) (hf : P.funcs[f]? = some fn) (hname : (fn.name == "runtime.NumGoroutine") = false)
    (hb : fn.body.isNone = true) (hn : Extern.findNext fn = none) (he : Extern.find fn = some e) (ha : xs.map ρ = vs) (hr : (e vs).run P w = .ok v w) (h : R v w) : OpTo P ⟨d, .call ⟨.value c, xs, ts⟩, ty, pos, af, g⟩ ρ w R := by
  refine OpTo.val (v := v) (w' := w) ?_ h
  have := run_callFunc_extern hf hname hb hn he vs w
  rw [hr] at this
  simp [execOp, resolve, invoke, Deferred.ofValue, hc, ha, this]
end

/-! bytes compared -/
def cmpL : List Int → List Int → Int
  | [], [] => 0
  | [], _ :: _ => -1
  | _ :: _, [] => 1
  | x :: xs, y :: ys => if x < y then -1 else if y < x then 1 else cmpL xs ys
theorem find_range_succ (n : Nat) (p : Nat → Bool) : (List.range (n + 1)).find? p = if p 0 then some 0 else ((List.range n).find? fun i => p (i + 1)).map (· + 1) := by
  rw [List.range_succ_eq_map, List.find?_cons]
  cases h : p 0 with
  | true => simp
  | false => simp [List.find?_map]; rfl
theorem ba_get (bs : List UInt8) (i : Nat) : (⟨bs.toArray⟩ : ByteArray)[i]! = bs.getD i default := by
  rw [getElem!_def]
  rcases Nat.lt_or_ge i bs.length with h | h
  · rw [mkS_get h]; simp [h]
  · have : (⟨bs.toArray⟩ : ByteArray)[i]? = none := by
      rw [getElem?_neg]
      rw [mkS_size]; omega
    rw [this]; simp [h]
theorem cmp_cmpL : ∀ (xs ys : List UInt8), Extern.BytealgCompare.cmp ⟨xs.toArray⟩ ⟨ys.toArray⟩ = cmpL (xs.map fun c => (c.toNat : Int)) (ys.map fun c => (c.toNat : Int))
  | [], [] => by decide
  | [], y :: ys => by
    unfold Extern.BytealgCompare.cmp
    rw [mkS_size, mkS_size]
    simp [cmpL]
  | x :: xs, [] => by
    unfold Extern.BytealgCompare.cmp
    rw [mkS_size, mkS_size]
    simp [cmpL]
  | x :: xs, y :: ys => by
    have ih := cmp_cmpL xs ys
    unfold Extern.BytealgCompare.cmp at *
    rw [mkS_size, mkS_size] at *
    simp only [List.length_cons] at *
    have hm : min (xs.length + 1) (ys.length + 1) = min xs.length ys.length + 1 := by omega
    rw [hm, find_range_succ]
    have hg0 : ∀ (z : UInt8) (zs : List UInt8), (⟨(z :: zs).toArray⟩ : ByteArray)[0]! = z := fun z zs => by rw [ba_get]; rfl
    have hg1 : ∀ (z : UInt8) (zs : List UInt8) (i : Nat), (⟨(z :: zs).toArray⟩ : ByteArray)[i + 1]! = (⟨zs.toArray⟩ : ByteArray)[i]! := by
      intro z zs i
      rw [ba_get, ba_get]; simp
    simp only [hg0, hg1]
    by_cases hxy : x = y
    · subst hxy
      simp only [bne_self_eq_false, Bool.false_eq_true, if_false, List.map_cons, cmpL, Int.lt_irrefl]
      rw [← ih]
      cases List.find? (fun i => (⟨xs.toArray⟩ : ByteArray)[i]! != (⟨ys.toArray⟩ : ByteArray)[i]!) (List.range (min xs.length ys.length)) with
      | none => simp
      | some i => simp [hg1]
    · have hne : (x != y) = true := by simpa using hxy
      simp only [hne, if_true, hg0, List.map_cons, cmpL]
      have hnn : x.toNat ≠ y.toNat := fun h => hxy (UInt8.toNat_inj.1 h)
      by_cases hlt : x < y
      · have : x.toNat < y.toNat := hlt
        rw [if_pos hlt, if_pos (by omega)]
      · have : ¬ x.toNat < y.toNat := hlt
        rw [if_neg hlt, if_neg (by omega), if_pos (by omega)]
theorem cmpL_self : ∀ xs : List Int, cmpL xs xs = 0
  | [] => rfl
  | x :: xs => by simp [cmpL, cmpL_self xs]
theorem cmpL_anti : ∀ xs ys : List Int, cmpL ys xs = - cmpL xs ys
  | [], [] => rfl
  | [], _ :: _ => rfl
  | _ :: _, [] => rfl
  | x :: xs, y :: ys => by
    simp only [cmpL]
    rcases Int.lt_trichotomy x y with h | h | h
    · rw [if_neg (by omega), if_pos h, if_pos h]; rfl
    · subst h; simp [cmpL_anti xs ys]
    · rw [if_pos h, if_neg (by omega), if_pos h]
theorem cmpL_zero : ∀ {xs ys : List Int}, cmpL xs ys = 0 → xs = ys
  | [], [], _ => rfl
  | [], _ :: _, h => by simp [cmpL] at h
  | _ :: _, [], h => by simp [cmpL] at h
  | x :: xs, y :: ys, h => by
    simp only [cmpL] at h
    split at h
    · cases h
    · split at h
      · cases h
      · rw [cmpL_zero h, show x = y by omega]
theorem cmpL_lt_trans : ∀ {xs ys zs : List Int}, cmpL xs ys < 0 → cmpL ys zs < 0 → cmpL xs zs < 0
  | [], [], _, h, _ => by simp [cmpL] at h
  | [], _ :: _, [], _, h => by simp [cmpL] at h
  | [], _ :: _, _ :: _, _, _ => by simp [cmpL]
  | _ :: _, [], _, h, _ => by simp [cmpL] at h
  | _ :: _, _ :: _, [], _, h => by simp [cmpL] at h
  | x :: xs, y :: ys, z :: zs, h, k => by
    simp only [cmpL] at *
    rcases Int.lt_trichotomy x y with h1 | h1 | h1
    · rcases Int.lt_trichotomy y z with k1 | k1 | k1
      · rw [if_pos (by omega)]; omega
      · subst k1; rw [if_pos h1]; omega
      · rw [if_neg (by omega), if_pos k1] at k; omega
    · subst h1
      rw [if_neg (by omega), if_neg (by omega)] at h
      rcases Int.lt_trichotomy x z with k1 | k1 | k1
      · rw [if_pos k1]; omega
      · subst k1
        rw [if_neg (by omega), if_neg (by omega)] at *
        exact cmpL_lt_trans h k
      · rw [if_neg (by omega), if_pos k1] at k; omega
    · rw [if_neg (by omega), if_pos h1] at h; omega

/-- a slice of bytes -/
theorem run_bytesOf {P : Program} {w : World} {v : Value} {n : Nat} {xs : List Int} (h : SlAt w 1 v n (xs.map (Value.int .u8))) : (Extern.Bytes.bytesOf v).run P w = .ok ⟨(Lib.bytesOf xs).toArray⟩ w := by
  obtain ⟨p, cap, rfl, h2, h3, h4, h5⟩ := h
  simp only [List.length_map, Nat.mul_one] at h4
  rcases Nat.eq_zero_or_pos n with hn | hn
  · have : xs = [] := List.length_eq_zero_iff.1 (by omega)
    subst this; subst hn
    cases p with
    | none => simp [Extern.Bytes.bytesOf, Lib.bytesOf]; rfl
    | some a => simp [Extern.Bytes.bytesOf, Lib.bytesOf, Extern.Bytes.loadBytes]; rfl
  · obtain ⟨b, o, cs, t, fz, rfl, h7, h8⟩ := h5 hn
    have := Lib.run_loadBytesX (P := P) w xs ⟨b, o, none⟩ .empty (fun j x hj => by
      obtain ⟨h9, h10⟩ := seg_spec _ _ _ _ h8
      have hjl : j < xs.length := (List.getElem?_eq_some_iff.1 hj).1
      have := h10 j (by omega)
      rw [addr_add]
      refine cell_at h7 ?_
      simp only [List.getElem?_toArray, this]
      simp [hj])
    simp only [Extern.Bytes.bytesOf, ← h4]
    rw [this]
    simp [ByteArray.empty, ByteArray.emptyWithCapacity]
    rfl
theorem bytes_nums {xs : List Int} (h : ∀ x ∈ xs, 0 ≤ x ∧ x < 256) : (Lib.bytesOf xs).map (fun c => (c.toNat : Int)) = xs := by
  induction xs with
  | nil => rfl
  | cons x xs ih =>
    have h1 := h x (by simp)
    have e : (Lib.bytesOf (x :: xs)) = x.toNat.toUInt8 :: Lib.bytesOf xs := by simp [Lib.bytesOf]
    rw [e, List.map_cons, ih fun y hy => h y (by simp [hy])]
    congr 1
    simp only [Nat.toUInt8, UInt8.toNat_ofNat']
    omega
theorem run_compare {P : Program} {w : World} {v u : Value} {n m : Nat} {xs ys : List Int} (h : SlAt w 1 v n (xs.map (Value.int .u8))) (k : SlAt w 1 u m (ys.map (Value.int .u8))) (hx : ∀ x ∈ xs, 0 ≤ x ∧ x < 256) (hy : ∀ x ∈ ys, 0 ≤ x ∧ x < 256) :
    (Extern.BytealgCompare.compare #[v, u]).run P w = .ok (.int .i64 (cmpL xs ys)) w := by
  change Sem.run P (do pure (goInt (Extern.BytealgCompare.cmp (← Extern.Bytes.bytesOf v) (← Extern.Bytes.bytesOf u)))) w = _
  simp only [Sem.run_bind, run_bytesOf h, run_bytesOf k, Result.andThen_ok, Sem.run_pure, cmp_cmpL, bytes_nums hx, bytes_nums hy, goInt]

section
variable {P : Program} {ρ : Operand → Value} {w W0 : World} {S : List Nat} {l l' : List (Nat × Obj)} {R : Value → World → Prop} {d : Option Tmp} {ty : TypeId} {pos : String} {af : Array Edge} {g : Option (Nat × Bool)}
theorem run_ov {tS tR e : TypeId} {sz vb b o1 o2 la ca lb cb : Nat} {ys cs : List Value} {tA tB : TypeId} (ht : P.underlying tS = some (.slice e)) (hz : sizeIs P e sz = true) (hne : vb ≠ b) (ha : w.heap[vb]? = some (.cells ys.toArray tA (0, 0))) (hb : w.heap[b]? = some (.cells cs.toArray tB (0, 0))) (hk : cs.length ≠ 0) :
    (Extern.SlicesOverlaps.overlaps #[tS, tS] #[tR] #[.slice (some ⟨vb, o1, none⟩) la ca, .slice (some ⟨b, o2, none⟩) lb cb]).run P w = .ok (.bool false) w :=
  Lib.run_overlaps_apart w tS tR e ht sz (fun w => run_sizeOf hz) ⟨vb, o1, none⟩ ⟨b, o2, none⟩ la ca lb cb hne tA tB ys.length cs.length (by simp [World.shape?, ha]) (by simp [World.shape?, hb]) hk (by simp [World.frozen?, ha]) (by simp [World.frozen?, ha])

theorem o_storeAE {t : TypeId} {x y : Operand} {b off n : Nat} {cs cs' vs : List Value} {t' : TypeId} [hs : TAgg P t n] (M : Mem S W0 w l) (hx : ρ x = .pointer (some ⟨b, off, none⟩)) (hy : ρ y = .agg vs.toArray) (hn : vs.length = n) (h1 : vs.all (·.oneCell') = true) (hb : Has l b (.cells cs.toArray t' (0, 0))) (hp : put cs off vs = some cs')
    (hu : Upd l b (.cells cs.toArray t' (0, 0)) (.cells cs'.toArray t' (0, 0)) l') (h : ∀ w', Ext [b] w w' → Mem S W0 w' l' → R undef w') : OpTo P ⟨d, .store t x y, ty, pos, af, g⟩ ρ w R := by
  obtain ⟨hle, rfl⟩ := put_splice _ _ _ _ hp
  obtain ⟨w', hr, he, hh⟩ := run_storeRow (P := P) (off := off) vs 0 cs w (M.heap hb) (by simpa using hle) (fun v hv => List.all_eq_true.1 h1 v hv)
  refine OpTo.skip (w' := w') ?_ (h _ he (M.turned hu he (by simpa using hh)))
  simp only [execOp, Instr.storeAt, Instr.sureAddr, hx, hy, storeVar, Sem.run_bind, Sem.run_pure, Result.andThen_ok, run_sizeOf_agg hs.h, Value.cells]
  simp [hr, hn]
/-- append(x, make(..)...), where there is no room -/
theorem o_appendZ {st tn e : TypeId} {x y : Operand} {sz by_ i k cap : Nat} {p : Option Addr} {xs : List Value} [hst : TU P st (.slice e)] [htn : TU P tn (.int .i64)] [hel : TEl P e sz by_] (M : Mem S W0 w l) (hX : SrcOf P w (.slice p i cap) i sz xs)
    (hx : ρ x = .slice p i cap) (hy : ρ y = .int .i64 (k : Int)) (hgt : cap < i + k) (hci : i ≤ cap) (hsz : 0 < sz) (hbd : (i + k) * by_ ≤ 140737488355328) (hln : i + k ≤ 9223372036854775807)
    (h : ∀ b cap' zs w', zs.length = (cap' - i) * sz → i + k ≤ cap' → Mem S W0 w' ((b, .cells (xs ++ zs).toArray e (0, 0)) :: l) → R (.slice (some ⟨b, 0, none⟩) (i + k) cap') w') : OpTo P ⟨d, .call ⟨.builtin .append, #[x, y], #[st, tn]⟩, ty, pos, af, g⟩ ρ w R := by
  obtain ⟨inf, z, hi, rfl, rfl, hz, hzs⟩ := elB_spec hel.h
  have hw : IntKind.i64.wrap (k : Int) = k := w_i64 (by omega) (by omega)
  have hkb : k * inf.bytes ≤ 281474976710656 := by
    have : k * inf.bytes ≤ (i + k) * inf.bytes := Nat.mul_le_mul_right _ (by omega)
    omega
  have h48i : ¬ (281474976710656 < (k : Int) * (inf.bytes : Int)) := by
    rw [← Int.natCast_mul]; omega
  have hneg : ¬ ((k : Int) < 0) := by omega
  have hk0 : k ≠ 0 := by omega
  have hns : ¬ (k * inf.size = 0) := Nat.mul_ne_zero hk0 (by omega)
  have hn : ¬ (i + k ≤ cap) := by omega
  have h63' : ¬ (9223372036854775807 < ((i : Int) + (k : Int))) := by omega
  have h48 : ¬ (281474976710656 < Builtin.nextslicecap (i + k) cap * inf.bytes) := by
    have := growslice_fits (need := i + k) (old := cap) (bytes := inf.bytes) (by omega) hbd
    omega
  have hold := hX.cells (w.drawn + 1)
  have hnc : i + k ≤ grownCap w (i + k) cap e := grownCap_ge w _ _ _
  have hrun : (Builtin.append_ #[st, tn] ty #[.slice p i cap, .int .i64 (k : Int)]).run P w = .ok (.slice (some ⟨w.heap.size, 0, none⟩) (i + k) (grownCap w (i + k) cap e)) (w.drew.alloc (.cells (xs.toArray ++ Builtin.zeroCells z.cells k ++ Builtin.zeroCells z.cells (grownCap w (i + k) cap e - (i + k))) e)) := by
    have hold' : (Builtin.firstCells inf.size i (.slice p i cap)).run P w.drew = .ok xs.toArray w.drew := hold
    simp [Builtin.append_, run_underlying hst.h, run_underlying htn.h, sizeOf, typeInfo, zeroValue, hi, hz, asInt, asIntOf, hw, hk0, hneg, hns, h63', h48, h48i, hn, Question.forced, hold', newRow, grownCap] <;> (congr 2; apply Array.ext'; simp)
  have e1 : (xs.toArray ++ Builtin.zeroCells z.cells k ++ Builtin.zeroCells z.cells (grownCap w (i + k) cap e - (i + k))) = (xs ++ ((Builtin.zeroCells z.cells k).toList ++ (Builtin.zeroCells z.cells (grownCap w (i + k) cap e - (i + k))).toList)).toArray := by
    apply Array.ext'; simp
  rw [e1] at hrun
  have hzl : ((Builtin.zeroCells z.cells k).toList ++ (Builtin.zeroCells z.cells (grownCap w (i + k) cap e - (i + k))).toList).length = (grownCap w (i + k) cap e - i) * inf.size := by
    rw [List.length_append, Array.length_toList, Array.length_toList, size_zeroCells, size_zeroCells, hzs, ← Nat.add_mul]
    congr 1
    omega
  generalize (Builtin.zeroCells z.cells k).toList ++ (Builtin.zeroCells z.cells (grownCap w (i + k) cap e - (i + k))).toList = zs at *
  refine OpTo.val (v := .slice (some ⟨w.heap.size, 0, none⟩) (i + k) (grownCap w (i + k) cap e)) (w' := w.drew.alloc (.cells (xs ++ zs).toArray e (0, 0))) ?_ (h _ _ zs _ hzl hnc ((M.later (Ext.drawn w (w.drawn + 1))).alloc (.cells (xs ++ zs).toArray e (0, 0))))
  simp [execOp, resolve, invoke, builtin, hx, hy, hrun]
end
end Go.Proofs.Ytainnefmobfcjaa

/-! E0 -/
/-
  border: isTime, later, compareIP, overlap, block; multihopref23.Meet; multihopworld.EUI, IP; the tape in short.
-/
namespace Go.Proofs.Ytainnefmobfcjaa
set_option linter.unusedVariables false
set_option linter.unusedSimpArgs false
open Go.RowKit
attribute [local irreducible] OpTo wpListIn Code.wpIn MW Cal

theorem xor8_bd (m n : Int) : 0 ≤ bitsOf .xor .u8 m n ∧ bitsOf .xor .u8 m n < 256 := by
  unfold bitsOf
  simp only [IntKind.wrap, IntKind.signed, IntKind.bits, Bool.false_and, Bool.false_eq_true, if_false]
  omega
/-! the tape: a number, whatever it is -/
theorem nextE_c {bt : Nat} {p : Option Addr} {len cap k : Nat} {xs : List Int} (n : Int) (hn : 0 < n) (hn2 : n ≤ 9223372036854775807) (W : World) (hT : TapeS W bt p len xs) (hb : W.heap[bt]? = some (tobj p len cap k)) :
    Cal Try.prog 14 [.pointer (some ⟨bt, 0, none⟩), .int .i64 n].toArray W fun v w' => ∃ x k', v = .int .i64 x ∧ (0 ≤ x ∧ x < n) ∧ Mem [bt] W w' [(bt, tobj p len cap k')] :=
  Cal.mono (next_c n hn hn2 W hT hb) fun _ _ h => ⟨_, _, h.1, nxV_bd _ _ hn, h.2⟩
theorem boolE_c {bt : Nat} {p : Option Addr} {len cap k : Nat} {xs : List Int} (n : Int) (hn : 0 < n) (hn2 : n ≤ 9223372036854775807) (W : World) (hT : TapeS W bt p len xs) (hb : W.heap[bt]? = some (tobj p len cap k)) :
    Cal Try.prog 17 [.pointer (some ⟨bt, 0, none⟩), .int .i64 n].toArray W fun v w' => ∃ x k', v = .bool x ∧ Mem [bt] W w' [(bt, tobj p len cap k')] :=
  Cal.mono (bool_c n hn hn2 W hT hb) fun _ _ h => ⟨_, _, h.1, h.2⟩
theorem eui_c {bt : Nat} {p : Option Addr} {len cap k : Nat} {xs : List Int} (W : World) (hT : TapeS W bt p len xs) (hb : W.heap[bt]? = some (tobj p len cap k)) :
    Cal Try.prog 12 [.pointer (some ⟨bt, 0, none⟩)].toArray W fun v w' => ∃ x k', v = .int .u64 x ∧ (1 ≤ x ∧ x ≤ 5) ∧ Mem [bt] W w' [(bt, tobj p len cap k')] := by
  refine fn_ofM (n := 7) [bt] Try.func12 rfl rfl rfl ?_
  intro a w F M hwW
  replace M := M.came hwW hb (by simp) (by simp)
  with_reducible refine c_seq ?_
  with_reducible refine c_region ?_
  refine stepD rfl F rfl (o_assign (F.ev rfl) ?_); clear F; clear a; intro a F
  with_reducible refine l_nil ?_
  with_reducible refine q_then ?_
  with_reducible refine c_seq ?_
  with_reducible refine c_region ?_
  refine stepD rfl F rfl (o_move (F.ev rfl) ?_); clear F; clear a; intro a F
  (refine stepD rfl F rfl (o_call (F.ev rfl) (F.evs rfl) (Cal.mono (nextE_c 5 (by omega) (by omega) _ (hT.later M.ext) (M.heap .here) ) ?_)); clear F; clear a; have M0 := M; clear M; rintro _ w ⟨x, k', rfl, hx, N⟩ a F)
  replace M := M0.turn1 N .here
  refine stepD rfl F rfl (o_add (F.ev rfl) (F.ev rfl) (w_i64 (by omega) (by omega)) ?_); clear F; clear a; intro a F
  refine stepD rfl F rfl (o_conv (F.ev rfl) (w_u64 (by omega) (by omega)) ?_); clear F; clear a; intro a F
  refine stepD rfl F rfl (o_assign (F.ev rfl) ?_); clear F; clear a; intro a F
  with_reducible refine l_nil ?_
  with_reducible refine q_then ?_
  with_reducible refine c_ret ?_
  refine p_ret F rfl (.cons (.tmp (F.ev rfl)) .nil) ?_
  exact ⟨1 + x, k', rfl, by omega, M⟩
set_option maxHeartbeats 1000000 in
theorem wip_c {bt : Nat} {p : Option Addr} {len cap k : Nat} {xs : List Int} (W : World) (hT : TapeS W bt p len xs) (hb : W.heap[bt]? = some (tobj p len cap k)) :
    Cal Try.prog 10 [.pointer (some ⟨bt, 0, none⟩)].toArray W fun v w' => ∃ ip k', v = .agg (ipC ip).toArray ∧ IsIP ip ∧ Mem [bt] W w' [(bt, tobj p len cap k')] := by
  refine fn_ofM (n := 28) [bt] Try.func10 rfl rfl rfl ?_
  intro a w F M hwW
  replace M := M.came hwW hb (by simp) (by simp)
  refine c_seq ?_
  refine c_region ?_
  (refine stepD rfl F rfl (o_alloc M ?_); clear F; clear M; intro b2 w M a F)
  with_reducible refine l_nil ?_
  with_reducible refine q_then ?_
  with_reducible refine c_seq ?_
  with_reducible refine c_region ?_
  refine stepD rfl F rfl (o_move (F.ev rfl) ?_); clear F; clear a; intro a F
  (refine stepD rfl F rfl (o_call (F.ev rfl) (F.evs rfl) (Cal.mono (nextE_c 2 (by omega) (by omega) _ (hT.later M.ext) (M.heap (.there .here)) ) ?_)); clear F; clear a; have M0 := M; clear M; rintro _ w ⟨x1, k1, rfl, hx1, N⟩ a F)
  replace M := M0.turn1 N (.there .here)
  refine stepD rfl F rfl (o_conv (F.ev rfl) (w_u8 (by omega) (by omega)) ?_); clear F; clear a; intro a F
  refine stepD rfl F rfl (o_move (F.ev rfl) ?_); clear F; clear a; intro a F
  (refine stepD rfl F rfl (o_call (F.ev rfl) (F.evs rfl) (Cal.mono (nextE_c 2 (by omega) (by omega) _ (hT.later M.ext) (M.heap (.there .here)) ) ?_)); clear F; clear a; have M0 := M; clear M; rintro _ w ⟨x2, k2, rfl, hx2, N⟩ a F)
  replace M := M0.turn1 N (.there .here)
  refine stepD rfl F rfl (o_conv (F.ev rfl) (w_u8 (by omega) (by omega)) ?_); clear F; clear a; intro a F
  refine stepD rfl F rfl (o_build F rfl rfl ?_); clear F; clear a; intro a F
  (refine stepD rfl F rfl (o_alloc M ?_); clear F; clear M; intro b3 w M a F)
  (refine stepN rfl F (o_storeA M (F.ev rfl) (F.ev rfl) (by rfl) (by rfl) (by repeat (first | exact .here | apply Has.there)) (by rfl) (by repeat (first | exact .here | apply Upd.there)) ?_); clear F; clear M; intro w M a F)
  with_reducible refine l_nil ?_
  with_reducible refine q_then ?_
  with_reducible refine c_seq ?_
  with_reducible refine c_region ?_
  refine stepD rfl F rfl (o_move (F.ev rfl) ?_); clear F; clear a; intro a F
  (refine stepD rfl F rfl (o_call (F.ev rfl) (F.evs rfl) (Cal.mono (nextE_c 6 (by omega) (by omega) _ (hT.later M.ext) (M.heap (.there (.there .here))) ) ?_)); clear F; clear a; have M0 := M; clear M; rintro _ w ⟨x3, k3, rfl, hx3, N⟩ a F)
  replace M := M0.turn1 N (.there (.there .here))
  refine stepD rfl F rfl (o_conv (F.ev rfl) (w_u8 (by omega) (by omega)) ?_); clear F; clear a; intro a F
  refine stepD rfl F rfl (o_indexArr (F.ev rfl) (F.ev rfl) (by omega) (by omega) ?_); clear F; clear a; intro a F
  (refine stepN rfl F (o_store1 M (F.ev rfl) (F.ev rfl) rfl (by repeat (first | exact .here | apply Has.there)) (by rfl) (by repeat (first | exact .here | apply Upd.there)) ?_); clear F; clear M; intro w M a F)
  with_reducible refine l_nil ?_
  with_reducible refine q_then ?_
  with_reducible refine c_seq ?_
  with_reducible refine c_seq ?_
  with_reducible refine c_region ?_
  refine stepD rfl F rfl (o_move (F.ev rfl) ?_); clear F; clear a; intro a F
  obtain ⟨ip, hip, M⟩ : ∃ ip, IsIP ip ∧ Mem [bt] W w [(bt, tobj p len cap k3), (b3, .cells (ipC ip).toArray 26 (0, 0)), (b2, .cells (ipC [0, 0, 0, 0, 0, 0, 0, 0, 0, 0, 0, 0, 0, 0, 0, 0]).toArray 26 (0, 0))] :=
    ⟨[32, 1, 13, 184, 0, x1, x2, 0, 0, 0, 0, 0, 0, 0, 0, x3], ⟨rfl, by intro x hx; simp at hx; omega⟩, M.perm ((List.Perm.refl _).trans (List.perm_append_comm (l₁ := [_, _]) (l₂ := [_])))⟩
  (refine stepD rfl F rfl (o_call (F.ev rfl) (F.evs rfl) (Cal.mono (boolE_c 9 (by omega) (by omega) _ (hT.later M.ext) (M.heap .here) ) ?_)); clear F; clear a; have M0 := M; clear M; rintro _ w ⟨c, k4, rfl, N⟩ a F)
  replace M := M0.turn1 N .here
  clear M0
  have e0 : seg (ipC ip) 0 16 = some (ipC ip) := seg_all (ipC_len hip.len)
  cases c
  · with_reducible refine l_nil ?_
    with_reducible refine q_then ?_
    refine c_false F rfl rfl ?_
    with_reducible refine c_skip ?_
    with_reducible refine q_then ?_
    with_reducible refine c_seq ?_
    with_reducible refine c_region ?_
    refine stepD rfl F rfl (o_loadA M (F.ev rfl) (by repeat (first | exact .here | apply Has.there)) (by first | assumption | rfl) ?_); clear F; clear a; intro a F
    (refine stepN rfl F (o_storeA M (F.ev rfl) (F.ev rfl) (ipC_len hip.len) (one_ip _)  (by repeat (first | exact .here | apply Has.there))  (put_all (by rw [ipC_len hip.len]; rfl)) (by repeat (first | exact .here | apply Upd.there)) ?_); clear F; clear M; intro w M a F)
    with_reducible refine l_nil ?_
    with_reducible refine q_then ?_
    with_reducible refine c_ret ?_
    exact p_ret F rfl (.cons (.cell (F.ev rfl) (run_loadVar_agg TAgg.h (M.heap (.there (.there .here))) e0)) .nil) ⟨ip, _, rfl, hip, M.sub (.cons_cons _ (.cons _ (.cons _ (.refl _))))⟩
  · replace F := F.only [0, 2, 3, 16] rfl
    have v1 := nxV_bd xs k4 (n := 16) (by omega)
    have v2 := nxV_bd xs (nxK xs k4) (n := 8) (by omega)
    have hib := hip.at_ (nxV xs k4 16).toNat
    have h1 : nth (ipC ip) (0 + (nxV xs k4 16).toNat * 1) = some (.int .u8 (ip.getD (nxV xs k4 16).toNat 0)) := nth_ip2 hip (by omega) (by omega)
    with_reducible refine l_nil ?_
    with_reducible refine q_then ?_
    refine c_true F rfl rfl ?_
    refine c_drawB (l0 := [(bt, tobj p len cap k4)]) [bt] [1, 5] M 9 F (by kernel_rfl) ?_
    intro w1 M1 hok hef
    have hB : ∀ k ∈ [bt], k ∈ ([(bt, tobj p len cap k4)] : List (Nat × Obj)).map (·.1) := by simp
    have hTw : ∀ w', Ext [bt] w1 w' → TapeS w' bt p len xs := fun w' E => hT.later (M1.ext.trans (E.mono (by simp)))
    refine mK hok rfl rfl (fun a' w' F' E' => o_move (F'.ev rfl) ⟨Ext.refl _ _, rfl⟩) ?_
    refine mE (T' := fun _ w => Mem _ _ w ([(bt, tobj p len cap (nxK xs k4))] ++ _)) hok rfl rfl (fun _ _ _ h k => h.later k) (fun a' w' σ' F' E' T' => o_call (F'.ev rfl) (F'.evs rfl) (Cal.mono (next_c 16 (by omega) (by omega) _ (hTw _ E') (T'.heap .here)) fun _ _ hh => ⟨hh.2.ext, hh.1, Mem.turn1 T' hh.2 .here⟩)) ?_
    refine mK hok rfl rfl (fun a' w' F' E' => o_indexArr (F'.ev rfl) (F'.ev rfl) (by omega) (by omega) ⟨Ext.refl _ _, rfl⟩) ?_
    refine mK hok rfl rfl (fun a' w' F' E' => o_load1 (M1.laterBut E' hB) (F'.ev rfl) (by repeat (first | exact .here | apply Has.there)) (by first | assumption | rfl) ⟨Ext.refl _ _, rfl⟩) ?_
    refine mK hok rfl rfl (fun a' w' F' E' => o_move (F'.ev rfl) ⟨Ext.refl _ _, rfl⟩) ?_
    refine mE (T' := fun _ w => Mem _ _ w ([(bt, tobj p len cap (nxK xs (nxK xs k4)))] ++ _)) hok rfl rfl (fun _ _ _ h k => h.later k) (fun a' w' σ' F' E' T' => o_call (F'.ev rfl) (F'.evs rfl) (Cal.mono (next_c 8 (by omega) (by omega) _ (hTw _ E') (T'.heap .here)) fun _ _ hh => ⟨hh.2.ext, hh.1, Mem.turn1 T' hh.2 .here⟩)) ?_
    refine mK hok rfl rfl (fun a' w' F' E' => o_conv (F'.ev rfl) (w_u64 (by omega) (by omega)) ⟨Ext.refl _ _, rfl⟩) ?_
    refine mK hok rfl rfl (fun a' w' F' E' => o_shl (F'.ev rfl) (F'.ev rfl) (by omega) rfl ⟨Ext.refl _ _, rfl⟩) ?_
    refine mK hok rfl rfl (fun a' w' F' E' => o_xor (F'.ev rfl) (F'.ev rfl) rfl ⟨Ext.refl _ _, rfl⟩) ?_
    clear hTw
    (refine mDone rfl hef ?_; clear F; clear M; intro a w F hE2 hX M hDD hPP; clear M1; clear hX; clear hE2; clear hok; clear hef; clear hB; clear hDD; clear hPP; (try dsimp only at F); (try simp only [List.cons_append, List.nil_append] at M))
    have hbd := xor8_bd (ip.getD (nxV xs k4 16).toNat 0) (IntKind.u8.wrap (1 * 2 ^ min (nxV xs (nxK xs k4) 8).toNat IntKind.u8.bits))
    generalize bitsOf BinOp.xor IntKind.u8 (ip.getD (nxV xs k4 16).toNat 0) (IntKind.u8.wrap (1 * 2 ^ min (nxV xs (nxK xs k4) 8).toNat IntKind.u8.bits)) = z at *
    refine stepD rfl F rfl (o_indexArr (F.ev rfl) (F.ev rfl) (by omega) (by omega) ?_); clear F; clear a; intro a F
    (refine stepN rfl F (o_store1 M (F.ev rfl) (F.ev rfl) rfl (by repeat (first | exact .here | apply Has.there)) (put1 (q := (nxV xs k4 16).toNat) _ (by omega) (by rw [ipC_len hip.len]; omega)) (by repeat (first | exact .here | apply Upd.there)) ?_); clear F; clear M; intro w M a F)
    rw [← ipC_set] at M
    have hip2 := hip.set (nxV xs k4 16).toNat hbd.1 hbd.2
    generalize ip.set (nxV xs k4 16).toNat z = ip2 at *
    have e2 : seg (ipC ip2) 0 16 = some (ipC ip2) := seg_all (ipC_len hip2.len)
    with_reducible refine l_nil ?_
    with_reducible refine q_then ?_
    with_reducible refine c_seq ?_
    with_reducible refine c_region ?_
    refine stepD rfl F rfl (o_loadA M (F.ev rfl) (by repeat (first | exact .here | apply Has.there)) (by first | assumption | rfl) ?_); clear F; clear a; intro a F
    (refine stepN rfl F (o_storeA M (F.ev rfl) (F.ev rfl) (ipC_len hip2.len) (one_ip _)  (by repeat (first | exact .here | apply Has.there))  (put_all (by rw [ipC_len hip2.len]; rfl)) (by repeat (first | exact .here | apply Upd.there)) ?_); clear F; clear M; intro w M a F)
    with_reducible refine l_nil ?_
    with_reducible refine q_then ?_
    with_reducible refine c_ret ?_
    exact p_ret F rfl (.cons (.cell (F.ev rfl) (run_loadVar_agg TAgg.h (M.heap (.there (.there .here))) e2)) .nil) ⟨ip2, _, rfl, hip2, M.sub (.cons_cons _ (.cons _ (.cons _ (.refl _))))⟩

/-! border -/
def isTime (t : Int) : Bool := decide (0 ≤ t) && decide (t ≤ 1099511627776)
theorem isTime_c (t : Int) (W : World) : Cal Try.prog 39 [.int .i64 t].toArray W fun v w' => v = .bool (isTime t) ∧ Ext [] W w' := by
  unfold isTime
  by_cases h : 0 ≤ t
  · rw [decide_eq_true h, Bool.true_and]
    refine fn_ofM (n := 9) [] Try.func39 rfl rfl rfl ?_
    intro a w F M hwW
    with_reducible refine c_seq ?_
    with_reducible refine c_region ?_
    refine stepD rfl F rfl (o_assign (F.ev rfl) ?_); clear F; clear a; intro a F
    with_reducible refine l_nil ?_
    with_reducible refine q_then ?_
    with_reducible refine c_seq ?_
    with_reducible refine c_region ?_
    refine stepD rfl F rfl (o_move (F.ev rfl) ?_); clear F; clear a; intro a F
    refine stepD rfl F rfl (o_geqT (F.ev rfl) (F.ev rfl) (by omega) ?_); clear F; clear a; intro a F
    refine stepD rfl F rfl (o_move (F.ev rfl) ?_); clear F; clear a; intro a F
    refine stepG rfl F rfl rfl rfl (o_move (F.ev rfl) ?_); clear F; clear a; intro a F
    refine stepG rfl F rfl rfl rfl (o_leq (F.ev rfl) (F.ev rfl) ?_); clear F; clear a; intro a F
    refine stepD rfl F rfl (o_pickT (F.ev rfl) (F.ev rfl) ?_); clear F; clear a; intro a F
    refine stepD rfl F rfl (o_assign (F.ev rfl) ?_); clear F; clear a; intro a F
    with_reducible refine l_nil ?_
    with_reducible refine q_then ?_
    with_reducible refine c_ret ?_
    refine p_ret F rfl (.cons (.tmp (F.ev rfl)) .nil) ?_
    exact ⟨rfl, M.ext⟩
  · rw [decide_eq_false h, Bool.false_and]
    refine fn_ofM (n := 9) [] Try.func39 rfl rfl rfl ?_
    intro a w F M hwW
    with_reducible refine c_seq ?_
    with_reducible refine c_region ?_
    refine stepD rfl F rfl (o_assign (F.ev rfl) ?_); clear F; clear a; intro a F
    with_reducible refine l_nil ?_
    with_reducible refine q_then ?_
    with_reducible refine c_seq ?_
    with_reducible refine c_region ?_
    refine stepD rfl F rfl (o_move (F.ev rfl) ?_); clear F; clear a; intro a F
    refine stepD rfl F rfl (o_geqF (F.ev rfl) (F.ev rfl) (by omega) ?_); clear F; clear a; intro a F
    refine stepD rfl F rfl (o_move (F.ev rfl) ?_); clear F; clear a; intro a F
    refine stepOff F rfl rfl rfl rfl ?_; clear F; clear a; intro a F
    refine stepOff F rfl rfl rfl rfl ?_; clear F; clear a; intro a F
    refine stepD rfl F rfl (o_pickF (F.ev rfl) (F.ev rfl) ?_); clear F; clear a; intro a F
    refine stepD rfl F rfl (o_assign (F.ev rfl) ?_); clear F; clear a; intro a F
    with_reducible refine l_nil ?_
    with_reducible refine q_then ?_
    with_reducible refine c_ret ?_
    refine p_ret F rfl (.cons (.tmp (F.ev rfl)) .nil) ?_
    exact ⟨rfl, M.ext⟩
def laterV (a d : Int) : Int := if 1099511627776 < a + d then 1099511627776 else a + d
theorem later_c (a d : Int) (h0 : 0 ≤ a) (h1 : a ≤ 1099511627776) (d0 : 0 ≤ d) (d1 : d ≤ 1099511627776) (W : World) : Cal Try.prog 40 [.int .i64 a, .int .i64 d].toArray W fun v w' => v = .int .i64 (laterV a d) ∧ Ext [] W w' := by
  refine fn_ofM (n := 9) [] Try.func40 rfl rfl rfl ?_
  intro a w F M hwW
  with_reducible refine c_seq ?_
  with_reducible refine c_region ?_
  refine stepD rfl F rfl (o_assign (F.ev rfl) ?_); clear F; clear a; intro a F
  with_reducible refine l_nil ?_
  with_reducible refine q_then ?_
  with_reducible refine c_seq ?_
  with_reducible refine c_region ?_
  refine stepD rfl F rfl (o_move (F.ev rfl) ?_); clear F; clear a; intro a F
  refine stepD rfl F rfl (o_move (F.ev rfl) ?_); clear F; clear a; intro a F
  refine stepD rfl F rfl (o_add (F.ev rfl) (F.ev rfl) (w_i64 (by omega) (by omega)) ?_); clear F; clear a; intro a F
  refine stepD rfl F rfl (o_min (F.ev rfl) (F.ev rfl) ?_); clear F; clear a; intro a F
  refine stepD rfl F rfl (o_assign (F.ev rfl) ?_); clear F; clear a; intro a F
  with_reducible refine l_nil ?_
  with_reducible refine q_then ?_
  with_reducible refine c_ret ?_
  refine p_ret F rfl (.cons (.tmp (F.ev rfl)) .nil) ?_
  exact ⟨rfl, M.ext⟩
theorem bytesCompare_c {v u : Value} {n m : Nat} {xs ys : List Int} (W : World) (h : SlAt W 1 v n (ipC xs)) (k : SlAt W 1 u m (ipC ys)) (hx : ∀ x ∈ xs, 0 ≤ x ∧ x < 256) (hy : ∀ x ∈ ys, 0 ≤ x ∧ x < 256) :
    Cal Try.prog 77 [v, u].toArray W fun x w' => x = .int .i64 (cmpL xs ys) ∧ Ext [] W w' := by
  refine fn_ofM (n := 8) [] Try.func77 rfl rfl rfl ?_
  intro a w F M hwW
  with_reducible refine c_seq ?_
  with_reducible refine c_region ?_
  refine stepD rfl F rfl (o_assign (F.ev rfl) ?_); clear F; clear a; intro a F
  with_reducible refine l_nil ?_
  with_reducible refine q_then ?_
  with_reducible refine c_seq ?_
  with_reducible refine c_region ?_
  refine stepD rfl F rfl (o_move (F.ev rfl) ?_); clear F; clear a; intro a F
  refine stepD rfl F rfl (o_move (F.ev rfl) ?_); clear F; clear a; intro a F
  (refine stepD rfl F rfl (o_entry (F.ev rfl) Try.func99 (by kernel_rfl) (by kernel_rfl) (by kernel_rfl) (e := Extern.BytealgCompare.compare) (by kernel_rfl) (F.evs rfl) (run_compare (h.later M.ext) (k.later M.ext) hx hy) ?_); clear F; clear a; intro a F)
  refine stepD rfl F rfl (o_assign (F.ev rfl) ?_); clear F; clear a; intro a F
  with_reducible refine l_nil ?_
  with_reducible refine q_then ?_
  with_reducible refine c_ret ?_
  refine p_ret F rfl (.cons (.tmp (F.ev rfl)) .nil) ?_
  exact ⟨rfl, M.ext⟩
theorem compareIP_c (p q : List Int) (hp : IsIP p) (hq : IsIP q) (W : World) : Cal Try.prog 45 [.agg (ipC p).toArray, .agg (ipC q).toArray].toArray W fun x w' => x = .int .i64 (cmpL p q) ∧ Ext [] W w' := by
  have l1 := ipC_len hp.len
  have l2 := ipC_len hq.len
  refine fn_ofM (n := 8) [] Try.func45 rfl rfl rfl ?_
  intro a w F M hwW
  refine c_seq ?_
  refine c_region ?_
  (refine stepD rfl F rfl (o_box M (F.ev rfl) rfl ?_); clear F; clear M; intro b2 w M a F)
  (refine stepD rfl F rfl (o_box M (F.ev rfl) rfl ?_); clear F; clear M; intro b3 w M a F)
  refine stepD rfl F rfl (o_assign (F.ev rfl) ?_); clear F; clear a; intro a F
  with_reducible refine l_nil ?_
  with_reducible refine q_then ?_
  with_reducible refine c_seq ?_
  refine c_draw 3 F (by kernel_rfl) ?_
  intro w1 hE hok
  have M1 := M.later hE
  (refine mK hok rfl rfl (fun a' w' F' E' => o_arrAll (F'.ev rfl) ⟨Ext.refl _ _, rfl⟩) ?_)
  (refine mK hok rfl rfl (fun a' w' F' E' => o_arrAll (F'.ev rfl) ⟨Ext.refl _ _, rfl⟩) ?_)
  (refine mK hok rfl rfl (fun a' w' F' E' => o_call (F'.ev rfl) (F'.evs rfl) (Cal.mono (bytesCompare_c _ (n := 16) (m := 16) ⟨_, _, rfl, by omega, by simp, by omega, fun _ => ⟨b2, 0, ipC p, _, _, rfl, (M1.later E').heap (.there .here), seg_all (by omega)⟩⟩ ⟨_, _, rfl, by omega, by simp, by omega, fun _ => ⟨b3, 0, ipC q, _, _, rfl, (M1.later E').heap .here, seg_all (by omega)⟩⟩ hp.bd hq.bd) fun _ _ hh => ⟨hh.2, hh.1⟩)) ?_)
  (refine mDone rfl rfl ?_; clear F; clear M; intro a w F hE2 hX hTT hDD hPP; have M := M1.later hE2; clear M1; clear hX; clear hE2; clear hok; clear hE; clear hTT; clear hDD; clear hPP; (try dsimp only at F))
  refine stepD rfl F rfl (o_assign (F.ev rfl) ?_); clear F; clear a; intro a F
  with_reducible refine l_nil ?_
  with_reducible refine q_then ?_
  with_reducible refine c_ret ?_
  refine p_ret F rfl (.cons (.tmp (F.ev rfl)) .nil) ?_
  exact ⟨rfl, M.ext⟩
def overlapP (p : List Int) (n : Int) (q : List Int) (m : Int) : Bool := coversP p n q m || coversP q m p n
theorem overlap_c (p : List Int) (n : Int) (hp : p.length = 16) (q : List Int) (m : Int) (hq : q.length = 16) (W : World) : Cal Try.prog 49 [.agg (pfC p n).toArray, .agg (pfC q m).toArray].toArray W fun x w' => x = .bool (overlapP p n q m) ∧ Ext [] W w' := by
  have e1 := seg_pf hp n
  have e2 := seg_pf hq m
  unfold overlapP
  cases hc : coversP p n q m
  · refine fn_ofM (n := 13) [] Try.func49 rfl rfl rfl ?_
    intro a w F M hwW
    refine c_seq ?_
    refine c_region ?_
    (refine stepD rfl F rfl (o_box M (F.ev rfl) rfl ?_); clear F; clear M; intro b2 w M a F)
    (refine stepD rfl F rfl (o_box M (F.ev rfl) rfl ?_); clear F; clear M; intro b3 w M a F)
    refine stepD rfl F rfl (o_assign (F.ev rfl) ?_); clear F; clear a; intro a F
    with_reducible refine l_nil ?_
    with_reducible refine q_then ?_
    with_reducible refine c_seq ?_
    with_reducible refine c_region ?_
    refine stepD rfl F rfl (o_loadA M (F.ev rfl) (by repeat (first | exact .here | apply Has.there)) (by first | assumption | rfl) ?_); clear F; clear a; intro a F
    refine stepD rfl F rfl (o_loadA M (F.ev rfl) (by repeat (first | exact .here | apply Has.there)) (by first | assumption | rfl) ?_); clear F; clear a; intro a F
    (refine stepD rfl F rfl (o_call (F.ev rfl) (F.evs rfl) (Cal.mono (covers_c p n hp q m hq _) ?_)); clear F; clear a; rintro _ w ⟨rfl, hE⟩ a F; replace M := M.later hE; clear hE)
    rw [hc] at F
    refine stepD rfl F rfl (o_move (F.ev rfl) ?_); clear F; clear a; intro a F
    refine stepG rfl F rfl rfl rfl (o_loadA M (F.ev rfl) (by repeat (first | exact .here | apply Has.there)) (by first | assumption | rfl) ?_); clear F; clear a; intro a F
    refine stepG rfl F rfl rfl rfl (o_loadA M (F.ev rfl) (by repeat (first | exact .here | apply Has.there)) (by first | assumption | rfl) ?_); clear F; clear a; intro a F
    (refine stepG rfl F rfl rfl rfl (o_call (F.ev rfl) (F.evs rfl) (Cal.mono (covers_c q m hq p n hp _) ?_)); clear F; clear a; rintro _ w ⟨rfl, hE⟩ a F; replace M := M.later hE; clear hE)
    refine stepD rfl F rfl (o_pickF (F.ev rfl) (F.ev rfl) ?_); clear F; clear a; intro a F
    refine stepD rfl F rfl (o_assign (F.ev rfl) ?_); clear F; clear a; intro a F
    with_reducible refine l_nil ?_
    with_reducible refine q_then ?_
    with_reducible refine c_ret ?_
    refine p_ret F rfl (.cons (.tmp (F.ev rfl)) .nil) ?_
    exact ⟨rfl, M.ext⟩
  · refine fn_ofM (n := 13) [] Try.func49 rfl rfl rfl ?_
    intro a w F M hwW
    refine c_seq ?_
    refine c_region ?_
    (refine stepD rfl F rfl (o_box M (F.ev rfl) rfl ?_); clear F; clear M; intro b2 w M a F)
    (refine stepD rfl F rfl (o_box M (F.ev rfl) rfl ?_); clear F; clear M; intro b3 w M a F)
    refine stepD rfl F rfl (o_assign (F.ev rfl) ?_); clear F; clear a; intro a F
    with_reducible refine l_nil ?_
    with_reducible refine q_then ?_
    with_reducible refine c_seq ?_
    with_reducible refine c_region ?_
    refine stepD rfl F rfl (o_loadA M (F.ev rfl) (by repeat (first | exact .here | apply Has.there)) (by first | assumption | rfl) ?_); clear F; clear a; intro a F
    refine stepD rfl F rfl (o_loadA M (F.ev rfl) (by repeat (first | exact .here | apply Has.there)) (by first | assumption | rfl) ?_); clear F; clear a; intro a F
    (refine stepD rfl F rfl (o_call (F.ev rfl) (F.evs rfl) (Cal.mono (covers_c p n hp q m hq _) ?_)); clear F; clear a; rintro _ w ⟨rfl, hE⟩ a F; replace M := M.later hE; clear hE)
    rw [hc] at F
    refine stepD rfl F rfl (o_move (F.ev rfl) ?_); clear F; clear a; intro a F
    refine stepOff F rfl rfl rfl rfl ?_; clear F; clear a; intro a F
    refine stepOff F rfl rfl rfl rfl ?_; clear F; clear a; intro a F
    refine stepOff F rfl rfl rfl rfl ?_; clear F; clear a; intro a F
    refine stepD rfl F rfl (o_pickT (F.ev rfl) (F.ev rfl) ?_); clear F; clear a; intro a F
    refine stepD rfl F rfl (o_assign (F.ev rfl) ?_); clear F; clear a; intro a F
    with_reducible refine l_nil ?_
    with_reducible refine q_then ?_
    with_reducible refine c_ret ?_
    refine p_ret F rfl (.cons (.tmp (F.ev rfl)) .nil) ?_
    exact ⟨rfl, M.ext⟩
theorem meet_c (p : List Int) (n : Int) (hp : IsIP p) (q : List Int) (m : Int) (hq : IsIP q) (W : World) : Cal Try.prog 16 [.agg (pfC p n).toArray, .agg (pfC q m).toArray].toArray W fun x w' => x = .bool (overlapP p n q m) ∧ Ext [] W w' := by
  have e1 := seg_pf hp.len n
  have e2 := seg_pf hq.len m
  unfold overlapP
  cases hc : coversP p n q m
  · refine fn_ofM (n := 13) [] Try.func16 rfl rfl rfl ?_
    intro a w F M hwW
    refine c_seq ?_
    refine c_region ?_
    (refine stepD rfl F rfl (o_box M (F.ev rfl) rfl ?_); clear F; clear M; intro b2 w M a F)
    (refine stepD rfl F rfl (o_box M (F.ev rfl) rfl ?_); clear F; clear M; intro b3 w M a F)
    refine stepD rfl F rfl (o_assign (F.ev rfl) ?_); clear F; clear a; intro a F
    with_reducible refine l_nil ?_
    with_reducible refine q_then ?_
    with_reducible refine c_seq ?_
    with_reducible refine c_region ?_
    refine stepD rfl F rfl (o_loadA M (F.ev rfl) (by repeat (first | exact .here | apply Has.there)) (by first | assumption | rfl) ?_); clear F; clear a; intro a F
    refine stepD rfl F rfl (o_loadA M (F.ev rfl) (by repeat (first | exact .here | apply Has.there)) (by first | assumption | rfl) ?_); clear F; clear a; intro a F
    (refine stepD rfl F rfl (o_call (F.ev rfl) (F.evs rfl) (Cal.mono (rcovers_c p n hp q m hq _) ?_)); clear F; clear a; rintro _ w ⟨rfl, hE⟩ a F; replace M := M.later hE; clear hE)
    rw [hc] at F
    refine stepD rfl F rfl (o_move (F.ev rfl) ?_); clear F; clear a; intro a F
    refine stepG rfl F rfl rfl rfl (o_loadA M (F.ev rfl) (by repeat (first | exact .here | apply Has.there)) (by first | assumption | rfl) ?_); clear F; clear a; intro a F
    refine stepG rfl F rfl rfl rfl (o_loadA M (F.ev rfl) (by repeat (first | exact .here | apply Has.there)) (by first | assumption | rfl) ?_); clear F; clear a; intro a F
    (refine stepG rfl F rfl rfl rfl (o_call (F.ev rfl) (F.evs rfl) (Cal.mono (rcovers_c q m hq p n hp _) ?_)); clear F; clear a; rintro _ w ⟨rfl, hE⟩ a F; replace M := M.later hE; clear hE)
    refine stepD rfl F rfl (o_pickF (F.ev rfl) (F.ev rfl) ?_); clear F; clear a; intro a F
    refine stepD rfl F rfl (o_assign (F.ev rfl) ?_); clear F; clear a; intro a F
    with_reducible refine l_nil ?_
    with_reducible refine q_then ?_
    with_reducible refine c_ret ?_
    refine p_ret F rfl (.cons (.tmp (F.ev rfl)) .nil) ?_
    exact ⟨rfl, M.ext⟩
  · refine fn_ofM (n := 13) [] Try.func16 rfl rfl rfl ?_
    intro a w F M hwW
    refine c_seq ?_
    refine c_region ?_
    (refine stepD rfl F rfl (o_box M (F.ev rfl) rfl ?_); clear F; clear M; intro b2 w M a F)
    (refine stepD rfl F rfl (o_box M (F.ev rfl) rfl ?_); clear F; clear M; intro b3 w M a F)
    refine stepD rfl F rfl (o_assign (F.ev rfl) ?_); clear F; clear a; intro a F
    with_reducible refine l_nil ?_
    with_reducible refine q_then ?_
    with_reducible refine c_seq ?_
    with_reducible refine c_region ?_
    refine stepD rfl F rfl (o_loadA M (F.ev rfl) (by repeat (first | exact .here | apply Has.there)) (by first | assumption | rfl) ?_); clear F; clear a; intro a F
    refine stepD rfl F rfl (o_loadA M (F.ev rfl) (by repeat (first | exact .here | apply Has.there)) (by first | assumption | rfl) ?_); clear F; clear a; intro a F
    (refine stepD rfl F rfl (o_call (F.ev rfl) (F.evs rfl) (Cal.mono (rcovers_c p n hp q m hq _) ?_)); clear F; clear a; rintro _ w ⟨rfl, hE⟩ a F; replace M := M.later hE; clear hE)
    rw [hc] at F
    refine stepD rfl F rfl (o_move (F.ev rfl) ?_); clear F; clear a; intro a F
    refine stepOff F rfl rfl rfl rfl ?_; clear F; clear a; intro a F
    refine stepOff F rfl rfl rfl rfl ?_; clear F; clear a; intro a F
    refine stepOff F rfl rfl rfl rfl ?_; clear F; clear a; intro a F
    refine stepD rfl F rfl (o_pickT (F.ev rfl) (F.ev rfl) ?_); clear F; clear a; intro a F
    refine stepD rfl F rfl (o_assign (F.ev rfl) ?_); clear F; clear a; intro a F
    with_reducible refine l_nil ?_
    with_reducible refine q_then ?_
    with_reducible refine c_ret ?_
    refine p_ret F rfl (.cons (.tmp (F.ev rfl)) .nil) ?_
    exact ⟨rfl, M.ext⟩

theorem shr_ones : ∀ n : Fin 65, Int.fdiv 18446744073709551615 (2 ^ min (n.val : Int).toNat 64) = ((2 ^ (64 - n.val) - 1 : Nat) : Int) := by decide +kernel
/-- the first and the last number of the first 64 bits of a prefix' addresses -/
def net (p : List Int) : Int := beN (p.take 8)
def lastOf (p : List Int) (n : Nat) : Int := net p + (2 ^ (64 - n) - 1 : Nat)
theorem block_c (p : List Int) (hp : IsIP p) (n : Nat) (hn : n ≤ 64) (q : Nat) (hq : net p = ((2 ^ (64 - n) * q : Nat) : Int)) (hq2 : 2 ^ (64 - n) * q + (2 ^ (64 - n) - 1) < 18446744073709551616) (W : World) :
    Cal Try.prog 75 [.agg (pfC p n).toArray].toArray W fun x w' => x = .tuple #[.int .u64 (net p), .int .u64 (lastOf p n)] ∧ Ext [] W w' := by
  have e0 : seg (pfC p n) 0 16 = some (ipC p) := seg_pf0 hp.len n
  have e1 : nth (pfC p n) 16 = some (.int .i64 n) := by
    obtain ⟨x0, x1, x2, x3, x4, x5, x6, x7, x8, x9, x10, x11, x12, x13, x14, x15, rfl⟩ := len16 hp.len
    rfl
  have s1 := shr_ones ⟨n, by omega⟩
  dsimp only at s1
  refine fn_ofM (n := 18) [] Try.func75 rfl rfl rfl ?_
  intro a w F M hwW
  refine c_seq ?_
  refine c_region ?_
  (refine stepD rfl F rfl (o_box M (F.ev rfl) rfl ?_); clear F; clear M; intro b1 w M a F)
  refine stepD rfl F rfl (o_assign (F.ev rfl) ?_); clear F; clear a; intro a F
  refine stepD rfl F rfl (o_assign (F.ev rfl) ?_); clear F; clear a; intro a F
  with_reducible refine l_nil ?_
  with_reducible refine q_then ?_
  with_reducible refine c_seq ?_
  with_reducible refine c_region ?_
  refine stepD rfl F rfl (o_fieldAddr (F.ev rfl) ?_); clear F; clear a; intro a F
  refine stepD rfl F rfl (o_loadA M (F.ev rfl) (by repeat (first | exact .here | apply Has.there)) (by first | assumption | rfl) ?_); clear F; clear a; intro a F
  (refine stepD rfl F rfl (o_call (F.ev rfl) (F.evs rfl) (Cal.mono (split_c p hp _) ?_)); clear F; clear a; rintro _ w ⟨rfl, hE⟩ a F; replace M := M.later hE; clear hE)
  refine stepD rfl F rfl (o_move (F.ev rfl) ?_); clear F; clear a; intro a F
  refine stepD rfl F rfl (o_extract (F.ev rfl) rfl ?_); clear F; clear a; intro a F
  refine stepD rfl F rfl (o_extract (F.ev rfl) rfl ?_); clear F; clear a; intro a F
  refine stepD rfl F rfl (o_assign (F.ev rfl) ?_); clear F; clear a; intro a F
  refine stepD rfl F rfl (o_assign (F.ev rfl) ?_); clear F; clear a; intro a F
  with_reducible refine l_nil ?_
  with_reducible refine q_then ?_
  with_reducible refine c_seq ?_
  replace F := F.only [0, 1, 4, 5] rfl
  refine c_draw 7 F (by kernel_rfl) ?_
  intro w1 hE hok
  have M1 := M.later hE
  refine mK hok rfl rfl (fun a' w' F' E' => o_move (F'.ev rfl) ⟨Ext.refl _ _, rfl⟩) ?_
  refine mK hok rfl rfl (fun a' w' F' E' => o_move (F'.ev rfl) ⟨Ext.refl _ _, rfl⟩) ?_
  refine mK hok rfl rfl (fun a' w' F' E' => o_fieldAddr (F'.ev rfl) ⟨Ext.refl _ _, rfl⟩) ?_
  refine mK hok rfl rfl (fun a' w' F' E' => o_load1 (M1.later E') (F'.ev rfl) (by repeat (first | exact .here | apply Has.there)) (by first | assumption | rfl) ⟨Ext.refl _ _, rfl⟩) ?_
  refine mK hok rfl rfl (fun a' w' F' E' => o_shr (F'.ev rfl) (F'.ev rfl) (by omega) rfl ⟨Ext.refl _ _, rfl⟩) ?_
  refine mK hok rfl rfl (fun a' w' F' E' => o_or (F'.ev rfl) (F'.ev rfl) rfl ⟨Ext.refl _ _, rfl⟩) ?_
  refine mK hok rfl rfl (fun a' w' F' E' => o_assign (F'.ev rfl) ⟨Ext.refl _ _, rfl⟩) ?_
  (refine mDone rfl rfl ?_; clear F; clear M; intro a w F hE2 hX hTT hDD hPP; have M := M1.later hE2; clear M1; clear hX; clear hE2; clear hok; clear hE; clear hTT; clear hDD; clear hPP; (try dsimp only at F))
  refine stepD rfl F rfl (o_assign (F.ev rfl) ?_); clear F; clear a; intro a F
  with_reducible refine l_nil ?_
  with_reducible refine q_then ?_
  with_reducible refine c_ret ?_
  have s2 : bitsOf .or .u64 (beN (p.take 8)) (Int.fdiv 18446744073709551615 (2 ^ min (n : Int).toNat IntKind.u64.bits)) = lastOf p n := by
    have hpos := Nat.two_pow_pos (64 - n)
    rw [show IntKind.u64.bits = 64 from rfl, s1, show beN (p.take 8) = net p from rfl, hq, or_add rfl _ _ _ (by omega) (by show _ < 18446744073709551616; omega)]
    unfold lastOf
    rw [hq]
    omega
  rw [s2] at F
  refine p_ret F rfl (.cons (.tmp (F.ev rfl)) (.cons (.tmp (F.ev rfl)) .nil)) ?_
  exact ⟨rfl, M.ext⟩
end Go.Proofs.Ytainnefmobfcjaa

/-! E1 -/
/-
  border: leases; slices.IndexFunc over them and the closures that it is handed.
-/
namespace Go.Proofs.Ytainnefmobfcjaa
set_option linter.unusedVariables false
set_option linter.unusedSimpArgs false
open Go.RowKit
attribute [local irreducible] OpTo wpListIn Code.wpIn MW Cal

structure Lease where
  ip : List Int
  bits : Int
  own : Int
  til : Int
/-- the cells of a lease -/
def leC (l : Lease) : List Value := pfC l.ip l.bits ++ [.int .u64 l.own, .int .i64 l.til]
theorem leC_len {l : Lease} (h : l.ip.length = 16) : (leC l).length = 19 := by simp [leC, pfC_len h]
theorem leC_form {l : Lease} (h : l.ip.length = 16) : ∃ x0 x1 x2 x3 x4 x5 x6 x7 x8 x9 x10 x11 x12 x13 x14 x15, l.ip = [x0, x1, x2, x3, x4, x5, x6, x7, x8, x9, x10, x11, x12, x13, x14, x15] := len16 h
theorem le_pf {l : Lease} (h : l.ip.length = 16) : seg (leC l) 0 17 = some (pfC l.ip l.bits) := by
  obtain ⟨ip, bits, own, til⟩ := l
  obtain ⟨x0, x1, x2, x3, x4, x5, x6, x7, x8, x9, x10, x11, x12, x13, x14, x15, rfl⟩ := len16 h
  rfl
theorem le_ip {l : Lease} (h : l.ip.length = 16) : seg (leC l) 0 16 = some (ipC l.ip) := by
  obtain ⟨ip, bits, own, til⟩ := l
  obtain ⟨x0, x1, x2, x3, x4, x5, x6, x7, x8, x9, x10, x11, x12, x13, x14, x15, rfl⟩ := len16 h
  rfl
theorem le_bits {l : Lease} (h : l.ip.length = 16) : nth (leC l) 16 = some (.int .i64 l.bits) := by
  obtain ⟨ip, bits, own, til⟩ := l
  obtain ⟨x0, x1, x2, x3, x4, x5, x6, x7, x8, x9, x10, x11, x12, x13, x14, x15, rfl⟩ := len16 h
  rfl
theorem le_own {l : Lease} (h : l.ip.length = 16) : nth (leC l) 17 = some (.int .u64 l.own) := by
  obtain ⟨ip, bits, own, til⟩ := l
  obtain ⟨x0, x1, x2, x3, x4, x5, x6, x7, x8, x9, x10, x11, x12, x13, x14, x15, rfl⟩ := len16 h
  rfl
theorem le_til {l : Lease} (h : l.ip.length = 16) : nth (leC l) 18 = some (.int .i64 l.til) := by
  obtain ⟨ip, bits, own, til⟩ := l
  obtain ⟨x0, x1, x2, x3, x4, x5, x6, x7, x8, x9, x10, x11, x12, x13, x14, x15, rfl⟩ := len16 h
  rfl
theorem le_one (l : Lease) : (leC l).all (·.oneCell') = true := by
  simp [leC, pfC, ipC, Value.oneCell']
def IsLe (l : Lease) : Prop := IsIP l.ip
abbrev lesC (ls : List Lease) : List Value := encL leC ls
theorem les_len {ls : List Lease} (h : ∀ l ∈ ls, IsLe l) : ∀ l ∈ ls, (leC l).length = 19 := fun l hl => leC_len (h l hl).len

/-- the first place where p holds, or -1 -/
def findI {α : Type} (p : α → Bool) (ls : List α) : Int := match ls.findIdx? p with | some i => i | none => -1
theorem findI_at {α : Type} {p : α → Bool} {ls : List α} {i : Nat} (hi : i < ls.length) (h : p ls[i] = true) (hn : ∀ j (hj : j < i), p ls[j] = false) : findI p ls = i := by
  have : ls.findIdx? p = some i := List.findIdx?_eq_some_iff_getElem.2 ⟨hi, h, fun j hj => by simp [hn j hj]⟩
  simp [findI, this]
theorem findI_none {α : Type} {p : α → Bool} {ls : List α} (hn : ∀ j (hj : j < ls.length), p ls[j] = false) : findI p ls = -1 := by
  have : ls.findIdx? p = none := List.findIdx?_eq_none_iff.2 fun x hx => by
    obtain ⟨j, hj, rfl⟩ := List.mem_iff_getElem.1 hx
    exact hn j hj
  simp [findI, this]
theorem findI_cases {α : Type} (p : α → Bool) (ls : List α) : (findI p ls = -1 ∧ ∀ x ∈ ls, p x = false) ∨ (∃ i, ∃ hi : i < ls.length, findI p ls = i ∧ p ls[i] = true ∧ ∀ j (hj : j < i), p ls[j] = false) := by
  unfold findI
  cases h : ls.findIdx? p with
  | none => exact .inl ⟨rfl, fun x hx => List.findIdx?_eq_none_iff.1 h x hx⟩
  | some i =>
    obtain ⟨h1, h2, h3⟩ := List.findIdx?_eq_some_iff_getElem.1 h
    exact .inr ⟨i, h1, rfl, h2, fun j hj => by simpa using h3 j hj⟩

set_option maxHeartbeats 1000000 in
theorem index_c {v : Value} {ls : List Lease} (W : World) (hS : SlAt W 19 v ls.length (lesC ls)) (hls : ∀ l ∈ ls, IsLe l) (hlen : ls.length ≤ 1000) (g : FuncId) [hg : TBody Try.prog g] (caps : List Value) (p : Lease → Bool)
    (hcl : ∀ w l, Ext [] W w → l ∈ ls → Cal Try.prog g (.agg (leC l).toArray :: caps).toArray w fun v w' => v = .bool (p l) ∧ Ext [] w w') :
    Cal Try.prog 41 [v, .func (.func g) #[] caps.toArray].toArray W fun x w' => x = .int .i64 (findI p ls) ∧ Ext [] W w' := by
  obtain ⟨q, cap, rfl, hcap, hsp, hl, hm⟩ := hS
  refine fn_ofM (n := 19) [] Try.func41 rfl rfl rfl ?_
  intro a w F M hwW
  with_reducible refine c_seq ?_
  with_reducible refine c_region ?_
  refine stepD rfl F rfl (o_assign (F.ev rfl) ?_); clear F; clear a; intro a F
  with_reducible refine l_nil ?_
  with_reducible refine q_then ?_
  with_reducible refine c_seq ?_
  with_reducible refine c_seq ?_
  with_reducible refine c_region ?_
  refine stepD rfl F rfl (o_move (F.ev rfl) ?_); clear F; clear a; intro a F
  refine stepD rfl F rfl (o_lenSl (F.ev rfl) ?_); clear F; clear a; intro a F
  refine stepD rfl F rfl (o_move (F.ev rfl) ?_); clear F; clear a; intro a F
  with_reducible refine l_nil ?_
  with_reducible refine q_then ?_
  with_reducible refine c_block ?_
  refine c_loop (fun k a w => ∃ i : Nat, k = ls.length - i ∧ i ≤ ls.length ∧ (∀ j (hj : j < i) (hj2 : j < ls.length), p ls[j] = false) ∧ Frm a 19 [] [(8, .int .i64 i), (7, .int .i64 ls.length), (0, .slice q ls.length cap), (1, .func (.func g) #[] caps.toArray)] ∧ Mem [] W w []) ls.length ⟨0, rfl, by omega, by omega, F.only [8, 7, 0, 1] rfl, M⟩ ?_
  clear F M
  rintro k a w ⟨i, hk, hi, hno, F, M⟩
  by_cases hlt : i < ls.length
  · obtain ⟨b, o, cs, t, fz, rfl, hb, hs⟩ := hm (by omega)
    have e1 : seg cs (o + (i : Int).toNat * 19) 19 = some (leC ls[i]) := seg_el (les_len hls) hs hlt (by omega)
    with_reducible refine c_seq ?_
    with_reducible refine c_region ?_
    refine stepD rfl F rfl (o_lssT (F.ev rfl) (F.ev rfl) (by omega) ?_); clear F; clear a; intro a F
    with_reducible refine l_nil ?_
    with_reducible refine q_then ?_
    with_reducible refine c_seq ?_
    refine c_true F rfl rfl ?_
    with_reducible refine c_skip ?_
    with_reducible refine q_then ?_
    with_reducible refine c_seq ?_
    with_reducible refine c_block ?_
    with_reducible refine c_seq ?_
    with_reducible refine c_region ?_
    refine stepD rfl F rfl (o_move (F.ev rfl) ?_); clear F; clear a; intro a F
    refine stepD rfl F rfl (o_assign (F.ev rfl) ?_); clear F; clear a; intro a F
    with_reducible refine l_nil ?_
    with_reducible refine q_then ?_
    with_reducible refine c_seq ?_
    with_reducible refine c_region ?_
    refine stepD rfl F rfl (o_move (F.ev rfl) ?_); clear F; clear a; intro a F
    refine stepD rfl F rfl (o_move (F.ev rfl) ?_); clear F; clear a; intro a F
    refine stepD rfl F rfl (o_move (F.ev rfl) ?_); clear F; clear a; intro a F
    refine stepD rfl F rfl (o_indexSl (F.ev rfl) (F.ev rfl) (by omega) (by omega) ?_); clear F; clear a; intro a F
    refine stepD rfl F rfl (o_loadWA M (F.ev rfl) (by assumption) (by first | assumption | rfl) ?_); clear F; clear a; intro a F
    (refine stepD rfl F rfl (o_callCl (us := (.agg (leC ls[i]).toArray :: caps).toArray) (F.ev rfl) (F.evs rfl) (by simp) (Cal.mono (hcl _ ls[i] M.ext (List.getElem_mem hlt)) ?_)); clear F; clear a; rintro _ w ⟨rfl, hE⟩ a F; replace M := M.later hE; clear hE)
    cases hp : p ls[i]
    · rw [hp] at F
      with_reducible refine l_nil ?_
      with_reducible refine q_then ?_
      refine c_false F rfl rfl ?_
      with_reducible refine c_skip ?_
      with_reducible refine q_inB ?_
      with_reducible refine q_then ?_
      with_reducible refine c_region ?_
      refine stepD rfl F rfl (o_add (F.ev rfl) (F.ev rfl) (w_i64 (by omega) (by omega)) ?_); clear F; clear a; intro a F
      refine stepD rfl F rfl (o_move (F.ev rfl) ?_); clear F; clear a; intro a F
      with_reducible refine l_nil ?_
      with_reducible refine q_then ?_
      exact ⟨_, by omega, i + 1, rfl, by omega, fun j hj hj2 => by
        rcases Nat.lt_or_ge j i with h | h
        · exact hno j h hj2
        · obtain rfl : j = i := by omega
          exact hp, F.only [8, 7, 0, 1] rfl, M⟩
    · rw [hp] at F
      with_reducible refine l_nil ?_
      with_reducible refine q_then ?_
      refine c_true F rfl rfl ?_
      with_reducible refine c_seq ?_
      with_reducible refine c_region ?_
      refine stepD rfl F rfl (o_move (F.ev rfl) ?_); clear F; clear a; intro a F
      refine stepD rfl F rfl (o_assign (F.ev rfl) ?_); clear F; clear a; intro a F
      with_reducible refine l_nil ?_
      with_reducible refine q_then ?_
      with_reducible refine c_ret ?_
      with_reducible refine q_inBR ?_
      with_reducible refine q_thenR ?_
      with_reducible refine q_thenR ?_
      with_reducible refine q_inBR ?_
      with_reducible refine q_thenR ?_
      refine p_ret F rfl (.cons (.tmp (F.ev rfl)) .nil) ?_
      exact ⟨by rw [findI_at hlt hp fun j hj => hno j hj (by omega)]; rfl, M.ext⟩
  · obtain rfl : i = ls.length := by omega
    with_reducible refine c_seq ?_
    with_reducible refine c_region ?_
    refine stepD rfl F rfl (o_lssF (F.ev rfl) (F.ev rfl) (by omega) ?_); clear F; clear a; intro a F
    with_reducible refine l_nil ?_
    with_reducible refine q_then ?_
    with_reducible refine c_seq ?_
    refine c_false F rfl rfl ?_
    with_reducible refine c_exit ?_
    with_reducible refine q_thenX ?_
    with_reducible refine q_thenX ?_
    with_reducible refine q_inBX ?_
    with_reducible refine q_then ?_
    with_reducible refine c_seq ?_
    with_reducible refine c_region ?_
    refine stepD rfl F rfl (o_assign (F.ev rfl) ?_); clear F; clear a; intro a F
    with_reducible refine l_nil ?_
    with_reducible refine q_then ?_
    with_reducible refine c_ret ?_
    refine p_ret F rfl (.cons (.tmp (F.ev rfl)) .nil) ?_
    exact ⟨by rw [findI_none fun j hj => hno j hj hj]; rfl, M.ext⟩

theorem del1_c (l : Lease) (hl : IsLe l) (own bits : Int) {b7 b8 : Nat} {t7 t8 : TypeId} {z7 z8 : Nat × Nat} (W : World) (h7 : W.heap[b7]? = some (.cells [Value.int .u64 own].toArray t7 z7)) (h8 : W.heap[b8]? = some (.cells [Value.int .i64 bits].toArray t8 z8)) :
    Cal Try.prog 42 [.agg (leC l).toArray, .pointer (some ⟨b7, 0, none⟩), .pointer (some ⟨b8, 0, none⟩)].toArray W fun x w' => x = .bool (l.own == own && l.bits == bits) ∧ Ext [] W w' := by
  have e1 := le_own hl.len
  have e2 := le_bits hl.len
  have l1 := leC_len hl.len
  by_cases hc : l.own = own
  · rw [beq_iff_eq.2 hc, Bool.true_and]
    refine fn_ofM (n := 16) [] Try.func42 rfl rfl rfl ?_
    intro a w F M hwW
    refine c_seq ?_
    refine c_region ?_
    (refine stepD rfl F rfl (o_box M (F.ev rfl) rfl ?_); clear F; clear M; intro b3 w M a F)
    refine stepD rfl F rfl (o_assign (F.ev rfl) ?_); clear F; clear a; intro a F
    with_reducible refine l_nil ?_
    with_reducible refine q_then ?_
    with_reducible refine c_seq ?_
    with_reducible refine c_region ?_
    refine stepD rfl F rfl (o_fieldAddr (F.ev rfl) ?_); clear F; clear a; intro a F
    refine stepD rfl F rfl (o_load1 M (F.ev rfl) (by repeat (first | exact .here | apply Has.there)) (by first | assumption | rfl) ?_); clear F; clear a; intro a F
    refine stepD rfl F rfl (o_loadW1 M (F.ev rfl) (by assumption) (by first | assumption | rfl) ?_); clear F; clear a; intro a F
    refine stepD rfl F rfl (o_eqlT (F.ev rfl) (F.ev rfl) (by omega) ?_); clear F; clear a; intro a F
    refine stepD rfl F rfl (o_move (F.ev rfl) ?_); clear F; clear a; intro a F
    refine stepG rfl F rfl rfl rfl (o_fieldAddr (F.ev rfl) ?_); clear F; clear a; intro a F
    refine stepG rfl F rfl rfl rfl (o_fieldAddr (F.ev rfl) ?_); clear F; clear a; intro a F
    refine stepG rfl F rfl rfl rfl (o_load1 M (F.ev rfl) (by repeat (first | exact .here | apply Has.there)) (by first | assumption | rfl) ?_); clear F; clear a; intro a F
    refine stepG rfl F rfl rfl rfl (o_loadW1 M (F.ev rfl) (by assumption) (by first | assumption | rfl) ?_); clear F; clear a; intro a F
    refine stepG rfl F rfl rfl rfl (o_eql (F.ev rfl) (F.ev rfl) ?_); clear F; clear a; intro a F
    refine stepD rfl F rfl (o_pickT (F.ev rfl) (F.ev rfl) ?_); clear F; clear a; intro a F
    refine stepD rfl F rfl (o_assign (F.ev rfl) ?_); clear F; clear a; intro a F
    with_reducible refine l_nil ?_
    with_reducible refine q_then ?_
    with_reducible refine c_ret ?_
    refine p_ret F rfl (.cons (.tmp (F.ev rfl)) .nil) ?_
    exact ⟨rfl, M.ext⟩
  · rw [beq_eq_false_iff_ne.2 hc, Bool.false_and]
    refine fn_ofM (n := 16) [] Try.func42 rfl rfl rfl ?_
    intro a w F M hwW
    refine c_seq ?_
    refine c_region ?_
    (refine stepD rfl F rfl (o_box M (F.ev rfl) rfl ?_); clear F; clear M; intro b3 w M a F)
    refine stepD rfl F rfl (o_assign (F.ev rfl) ?_); clear F; clear a; intro a F
    with_reducible refine l_nil ?_
    with_reducible refine q_then ?_
    with_reducible refine c_seq ?_
    with_reducible refine c_region ?_
    refine stepD rfl F rfl (o_fieldAddr (F.ev rfl) ?_); clear F; clear a; intro a F
    refine stepD rfl F rfl (o_load1 M (F.ev rfl) (by repeat (first | exact .here | apply Has.there)) (by first | assumption | rfl) ?_); clear F; clear a; intro a F
    refine stepD rfl F rfl (o_loadW1 M (F.ev rfl) (by assumption) (by first | assumption | rfl) ?_); clear F; clear a; intro a F
    refine stepD rfl F rfl (o_eqlF (F.ev rfl) (F.ev rfl) (by omega) ?_); clear F; clear a; intro a F
    refine stepD rfl F rfl (o_move (F.ev rfl) ?_); clear F; clear a; intro a F
    refine stepOff F rfl rfl rfl rfl ?_; clear F; clear a; intro a F
    refine stepOff F rfl rfl rfl rfl ?_; clear F; clear a; intro a F
    refine stepOff F rfl rfl rfl rfl ?_; clear F; clear a; intro a F
    refine stepOff F rfl rfl rfl rfl ?_; clear F; clear a; intro a F
    refine stepOff F rfl rfl rfl rfl ?_; clear F; clear a; intro a F
    refine stepD rfl F rfl (o_pickF (F.ev rfl) (F.ev rfl) ?_); clear F; clear a; intro a F
    refine stepD rfl F rfl (o_assign (F.ev rfl) ?_); clear F; clear a; intro a F
    with_reducible refine l_nil ?_
    with_reducible refine q_then ?_
    with_reducible refine c_ret ?_
    refine p_ret F rfl (.cons (.tmp (F.ev rfl)) .nil) ?_
    exact ⟨rfl, M.ext⟩
theorem free1_c (l : Lease) (hl : IsLe l) (p : List Int) (n : Int) (hp : p.length = 16) {b1 : Nat} {t1 : TypeId} {z1 : Nat × Nat} (W : World) (h1 : W.heap[b1]? = some (.cells (pfC p n).toArray t1 z1)) :
    Cal Try.prog 76 [.agg (leC l).toArray, .pointer (some ⟨b1, 0, none⟩)].toArray W fun x w' => x = .bool (overlapP l.ip l.bits p n) ∧ Ext [] W w' := by
  have e1 := le_pf hl.len
  have e2 := seg_pf hp n
  refine fn_ofM (n := 8) [] Try.func76 rfl rfl rfl ?_
  intro a w F M hwW
  refine c_seq ?_
  refine c_region ?_
  (refine stepD rfl F rfl (o_box M (F.ev rfl) rfl ?_); clear F; clear M; intro b2 w M a F)
  refine stepD rfl F rfl (o_assign (F.ev rfl) ?_); clear F; clear a; intro a F
  with_reducible refine l_nil ?_
  with_reducible refine q_then ?_
  with_reducible refine c_seq ?_
  with_reducible refine c_region ?_
  refine stepD rfl F rfl (o_fieldAddr (F.ev rfl) ?_); clear F; clear a; intro a F
  refine stepD rfl F rfl (o_loadA M (F.ev rfl) (by repeat (first | exact .here | apply Has.there)) (by first | assumption | rfl) ?_); clear F; clear a; intro a F
  refine stepD rfl F rfl (o_loadWA M (F.ev rfl) (by assumption) (by first | assumption | rfl) ?_); clear F; clear a; intro a F
  (refine stepD rfl F rfl (o_call (F.ev rfl) (F.evs rfl) (Cal.mono (overlap_c l.ip l.bits hl.len p n hp _) ?_)); clear F; clear a; rintro _ w ⟨rfl, hE⟩ a F; replace M := M.later hE; clear hE)
  refine stepD rfl F rfl (o_assign (F.ev rfl) ?_); clear F; clear a; intro a F
  with_reducible refine l_nil ?_
  with_reducible refine q_then ?_
  with_reducible refine c_ret ?_
  refine p_ret F rfl (.cons (.tmp (F.ev rfl)) .nil) ?_
  exact ⟨rfl, M.ext⟩
theorem del2_c (l : Lease) (hl : IsLe l) (p : List Int) (n : Int) (hp : IsIP p) {b1 : Nat} {t1 : TypeId} {z1 : Nat × Nat} (W : World) (h1 : W.heap[b1]? = some (.cells (pfC p n).toArray t1 z1)) :
    Cal Try.prog 44 [.agg (leC l).toArray, .pointer (some ⟨b1, 0, none⟩)].toArray W fun x w' => x = .bool (decide (0 < cmpL l.ip p)) ∧ Ext [] W w' := by
  have e1 := le_ip hl.len
  have e2 := seg_pf0 hp.len n
  refine fn_ofM (n := 11) [] Try.func44 rfl rfl rfl ?_
  intro a w F M hwW
  refine c_seq ?_
  refine c_region ?_
  (refine stepD rfl F rfl (o_box M (F.ev rfl) rfl ?_); clear F; clear M; intro b2 w M a F)
  refine stepD rfl F rfl (o_assign (F.ev rfl) ?_); clear F; clear a; intro a F
  with_reducible refine l_nil ?_
  with_reducible refine q_then ?_
  with_reducible refine c_seq ?_
  with_reducible refine c_region ?_
  refine stepD rfl F rfl (o_fieldAddr (F.ev rfl) ?_); clear F; clear a; intro a F
  refine stepD rfl F rfl (o_fieldAddr (F.ev rfl) ?_); clear F; clear a; intro a F
  refine stepD rfl F rfl (o_loadA M (F.ev rfl) (by repeat (first | exact .here | apply Has.there)) (by first | assumption | rfl) ?_); clear F; clear a; intro a F
  refine stepD rfl F rfl (o_fieldAddr (F.ev rfl) ?_); clear F; clear a; intro a F
  refine stepD rfl F rfl (o_loadWA M (F.ev rfl) (by assumption) (by first | assumption | rfl) ?_); clear F; clear a; intro a F
  (refine stepD rfl F rfl (o_call (F.ev rfl) (F.evs rfl) (Cal.mono (compareIP_c l.ip p hl hp _) ?_)); clear F; clear a; rintro _ w ⟨rfl, hE⟩ a F; replace M := M.later hE; clear hE)
  refine stepD rfl F rfl (o_gtr (F.ev rfl) (F.ev rfl) ?_); clear F; clear a; intro a F
  refine stepD rfl F rfl (o_assign (F.ev rfl) ?_); clear F; clear a; intro a F
  with_reducible refine l_nil ?_
  with_reducible refine q_then ?_
  with_reducible refine c_ret ?_
  refine p_ret F rfl (.cons (.tmp (F.ev rfl)) .nil) ?_
  exact ⟨rfl, M.ext⟩
end Go.Proofs.Ytainnefmobfcjaa

/-! E2 -/
/-
  slices.Insert of one element into a slice that the caller has made itself.
-/
namespace Go.Proofs.Ytainnefmobfcjaa
set_option linter.unusedVariables false
set_option linter.unusedSimpArgs false
open Go.RowKit
attribute [local irreducible] OpTo wpListIn Code.wpIn MW Cal

theorem put_mid {A B C Y : List Value} {off : Nat} (ho : off = A.length) (hl : B.length = Y.length) : put (A ++ (B ++ C)) off Y = some (A ++ (Y ++ C)) := by
  subst ho
  rw [put_of _ _ _ (by simp; omega), splice]
  congr 1
  rw [List.take_left' rfl, List.drop_append, List.drop_eq_nil_of_le (by omega), List.nil_append, show A.length + Y.length - A.length = Y.length by omega, ← hl, List.drop_left' rfl]
theorem seg_mid {A B C : List Value} {off n : Nat} (ho : off = A.length) (hn : n = B.length) : seg (A ++ (B ++ C)) off n = some B := by
  subst ho; subst hn; exact seg_of A B C
theorem cut_at (xs : List Value) (k : Nat) (h : k ≤ xs.length) : ∃ A B, xs = A ++ B ∧ A.length = k := ⟨xs.take k, xs.drop k, (List.take_append_drop k xs).symm, by simp [h]⟩
theorem Has.app {l : List (Nat × Obj)} {b : Nat} {o : Obj} (h : Has l b o) : ∀ q : List (Nat × Obj), Has (q ++ l) b o
  | [] => h
  | _ :: q => .there (h.app q)
theorem has_other {lr : List (Nat × Obj)} {b vb : Nat} {o o' o2 : Obj} (h : Has (lr ++ [(b, o)]) vb o2) (hne : vb ≠ b) : Has (lr ++ [(b, o')]) vb o2 := by
  induction lr with
  | nil =>
    cases h with
    | here => exact absurd rfl hne
    | there h => cases h
  | cons p lr ih =>
    cases h with
    | here => exact .here
    | there h => exact .there (ih h)

set_option maxHeartbeats 4000000 in
theorem insertLe_c {v : Value} {n : Nat} {xs : List Value} {ent : List (Nat × Obj)} (i : Nat) (hi : i ≤ n) {vb : Nat} (ys : List Value) (hys : ys.length = 19) (h1x : xs.all (·.oneCell') = true) (h1y : ys.all (·.oneCell') = true) (W : World) {S : List Nat} {W0 : World} {l : List (Nat × Obj)} {f : List (Nat × Obj) → List (Nat × Obj)}
    (M : Mem S W0 W l) (hO : OwnS 44 19 v n xs ent) (hl : TailAt ent l f) (hv : Has l vb (.cells ys.toArray 44 (0, 0))) (hne : ∀ p ∈ ent, p.1 ≠ vb) (hn : n ≤ 100000) :
    Cal Try.prog 46 [v, .int .i64 i, .slice (some ⟨vb, 0, none⟩) 1 1].toArray W fun x w' => ∃ ent', OwnS 44 19 x (n + 1) (xs.take (i * 19) ++ (ys ++ xs.drop (i * 19))) ent' ∧ Mem S W0 w' (f ent') := by
  have hxl := hO.len
  have hsy : SrcOf Try.prog W (.slice (some ⟨vb, 0, none⟩) 1 1) 1 19 ys := SrcOf.cells' (M.heap hv) (sg_all (by omega)) h1y
  by_cases hin : i = n
  · subst hin
    rw [List.take_of_length_le (by omega), List.drop_of_length_le (by omega), List.append_nil]
    obtain ⟨q, cap, rfl⟩ := hO.slice
    refine fn_of (n := 95) Try.func46 rfl rfl rfl ?_
    intro a F
    with_reducible refine c_seq ?_
    with_reducible refine c_region ?_
    refine stepD rfl F rfl (o_assign (F.ev rfl) ?_); clear F; clear a; intro a F
    with_reducible refine l_nil ?_
    with_reducible refine q_then ?_
    with_reducible refine c_seq ?_
    with_reducible refine c_region ?_
    refine stepD rfl F rfl (o_move (F.ev rfl) ?_); clear F; clear a; intro a F
    refine stepD rfl F rfl (o_move (F.ev rfl) ?_); clear F; clear a; intro a F
    (refine stepD rfl F rfl (o_slLany (F.ev rfl) (F.ev rfl) (by omega) (by omega) ?_); clear F; clear a; intro _ a F)
    with_reducible refine l_nil ?_
    with_reducible refine q_then ?_
    with_reducible refine c_seq ?_
    with_reducible refine c_region ?_
    refine stepD rfl F rfl (o_move (F.ev rfl) ?_); clear F; clear a; intro a F
    refine stepD rfl F rfl (o_lenSl (F.ev rfl) ?_); clear F; clear a; intro a F
    refine stepD rfl F rfl (o_assign (F.ev rfl) ?_); clear F; clear a; intro a F
    with_reducible refine l_nil ?_
    with_reducible refine q_then ?_
    with_reducible refine c_seq ?_
    with_reducible refine c_seq ?_
    with_reducible refine c_region ?_
    refine stepD rfl F rfl (o_move (F.ev rfl) ?_); clear F; clear a; intro a F
    refine stepD rfl F rfl (o_eqlF (F.ev rfl) (F.ev rfl) (by omega) ?_); clear F; clear a; intro a F
    with_reducible refine l_nil ?_
    with_reducible refine q_then ?_
    refine c_false F rfl rfl ?_
    with_reducible refine c_skip ?_
    with_reducible refine q_then ?_
    with_reducible refine c_seq ?_
    with_reducible refine c_region ?_
    refine stepD rfl F rfl (o_move (F.ev rfl) ?_); clear F; clear a; intro a F
    refine stepD rfl F rfl (o_lenSl (F.ev rfl) ?_); clear F; clear a; intro a F
    refine stepD rfl F rfl (o_assign (F.ev rfl) ?_); clear F; clear a; intro a F
    with_reducible refine l_nil ?_
    with_reducible refine q_then ?_
    with_reducible refine c_seq ?_
    with_reducible refine c_seq ?_
    with_reducible refine c_region ?_
    refine stepD rfl F rfl (o_move (F.ev rfl) ?_); clear F; clear a; intro a F
    refine stepD rfl F rfl (o_move (F.ev rfl) ?_); clear F; clear a; intro a F
    refine stepD rfl F rfl (o_eqlT (F.ev rfl) (F.ev rfl) (by omega) ?_); clear F; clear a; intro a F
    with_reducible refine l_nil ?_
    with_reducible refine q_then ?_
    refine c_true F rfl rfl ?_
    with_reducible refine c_seq ?_
    with_reducible refine c_region ?_
    refine stepD rfl F rfl (o_move (F.ev rfl) ?_); clear F; clear a; intro a F
    refine stepD rfl F rfl (o_move (F.ev rfl) ?_); clear F; clear a; intro a F
    (refine stepD rfl F rfl (o_append hO M hl (F.ev rfl) (F.ev rfl) hsy (by omega) (by omega) ?_); clear F; clear M; intro v2 ent2 w hO2 M a F)
    refine stepD rfl F rfl (o_assign (F.ev rfl) ?_); clear F; clear a; intro a F
    with_reducible refine l_nil ?_
    with_reducible refine q_then ?_
    with_reducible refine c_ret ?_
    with_reducible refine q_thenR ?_
    refine p_ret F rfl (.cons (.tmp (F.ev rfl)) .nil) ?_
    exact ⟨ent2, hO2, M⟩
  · rcases hO with ⟨_, rfl, _, _⟩ | ⟨b, cap, junk, rfl, rfl, _, hjl, hnc⟩
    · omega
    obtain ⟨lr, rfl, hf⟩ := hl.spec
    have hvb : vb ≠ b := fun h => hne _ List.mem_cons_self h.symm
    obtain ⟨A, B, rfl, hA⟩ := cut_at xs (i * 19) (by omega)
    simp only [List.length_append] at hxl
    rw [← hA, List.take_left' rfl, List.drop_left' rfl]
    simp only [List.all_append, Bool.and_eq_true] at h1x
    have hB : B.length = (n - i) * 19 := by omega
    by_cases hroom : n + 1 ≤ cap
    · obtain ⟨J1, J2, rfl, hJ⟩ := cut_at junk 19 (by omega)
      simp only [List.length_append] at hjl
      obtain ⟨B1, B2, rfl, hB1⟩ := cut_at B 19 (by omega)
      simp only [List.length_append] at hB hxl
      have e1 : (A ++ (B1 ++ B2) ++ (J1 ++ J2)) = A ++ ((B1 ++ B2) ++ (J1 ++ J2)) := by simp
      have e2 : (A ++ (B1 ++ B2) ++ (J1 ++ J2)) = (A ++ B1) ++ ((B2 ++ J1) ++ J2) := by simp
      have p1 : put (A ++ (B1 ++ B2) ++ (J1 ++ J2)) (0 + (((i : Int) + 1).toNat * 19)) (B1 ++ B2) = some ((A ++ B1) ++ ((B1 ++ B2) ++ J2)) := by
        rw [e2]; exact put_mid (by simp; omega) (by simp; omega)
      have p2 : put ((A ++ B1) ++ ((B1 ++ B2) ++ J2)) (0 + (i : Int).toNat * 19) ys = some (A ++ (ys ++ ((B1 ++ B2) ++ J2))) := by
        rw [List.append_assoc]; exact put_mid (by omega) (by omega)
      have g1 : seg (A ++ (B1 ++ B2) ++ (J1 ++ J2)) (0 + (i : Int).toNat * 19) ((n - i) * 19) = some (B1 ++ B2) := by
        rw [e1]; exact seg_mid (by omega) (by simp; omega)
      have u1 : Upd (lr ++ [(b, Obj.cells (A ++ (B1 ++ B2) ++ (J1 ++ J2)).toArray 44 (0, 0))]) b (.cells (A ++ (B1 ++ B2) ++ (J1 ++ J2)).toArray 44 (0, 0)) (.cells ((A ++ B1) ++ ((B1 ++ B2) ++ J2)).toArray 44 (0, 0)) (lr ++ [(b, .cells ((A ++ B1) ++ ((B1 ++ B2) ++ J2)).toArray 44 (0, 0))]) := (Upd.here).append lr
      have u2 : Upd (lr ++ [(b, Obj.cells ((A ++ B1) ++ ((B1 ++ B2) ++ J2)).toArray 44 (0, 0))]) b (.cells ((A ++ B1) ++ ((B1 ++ B2) ++ J2)).toArray 44 (0, 0)) (.cells (A ++ (ys ++ ((B1 ++ B2) ++ J2))).toArray 44 (0, 0)) (lr ++ [(b, .cells (A ++ (ys ++ ((B1 ++ B2) ++ J2))).toArray 44 (0, 0))]) := (Upd.here).append lr
      have hv2 : Has (lr ++ [(b, Obj.cells ((A ++ B1) ++ ((B1 ++ B2) ++ J2)).toArray 44 (0, 0))]) vb (.cells ys.toArray 44 (0, 0)) := has_other hv hvb
      refine fn_of (n := 95) Try.func46 rfl rfl rfl ?_
      intro a F
      with_reducible refine c_seq ?_
      with_reducible refine c_region ?_
      refine stepD rfl F rfl (o_assign (F.ev rfl) ?_); clear F; clear a; intro a F
      with_reducible refine l_nil ?_
      with_reducible refine q_then ?_
      with_reducible refine c_seq ?_
      with_reducible refine c_region ?_
      refine stepD rfl F rfl (o_move (F.ev rfl) ?_); clear F; clear a; intro a F
      refine stepD rfl F rfl (o_move (F.ev rfl) ?_); clear F; clear a; intro a F
      (refine stepD rfl F rfl (o_slL (F.ev rfl) (F.ev rfl) (by omega) (by omega) (by omega) ?_); clear F; clear a; intro a F)
      with_reducible refine l_nil ?_
      with_reducible refine q_then ?_
      with_reducible refine c_seq ?_
      with_reducible refine c_region ?_
      refine stepD rfl F rfl (o_move (F.ev rfl) ?_); clear F; clear a; intro a F
      refine stepD rfl F rfl (o_lenSl (F.ev rfl) ?_); clear F; clear a; intro a F
      refine stepD rfl F rfl (o_assign (F.ev rfl) ?_); clear F; clear a; intro a F
      with_reducible refine l_nil ?_
      with_reducible refine q_then ?_
      with_reducible refine c_seq ?_
      with_reducible refine c_seq ?_
      with_reducible refine c_region ?_
      refine stepD rfl F rfl (o_move (F.ev rfl) ?_); clear F; clear a; intro a F
      refine stepD rfl F rfl (o_eqlF (F.ev rfl) (F.ev rfl) (by omega) ?_); clear F; clear a; intro a F
      with_reducible refine l_nil ?_
      with_reducible refine q_then ?_
      refine c_false F rfl rfl ?_
      with_reducible refine c_skip ?_
      with_reducible refine q_then ?_
      with_reducible refine c_seq ?_
      with_reducible refine c_region ?_
      refine stepD rfl F rfl (o_move (F.ev rfl) ?_); clear F; clear a; intro a F
      refine stepD rfl F rfl (o_lenSl (F.ev rfl) ?_); clear F; clear a; intro a F
      refine stepD rfl F rfl (o_assign (F.ev rfl) ?_); clear F; clear a; intro a F
      with_reducible refine l_nil ?_
      with_reducible refine q_then ?_
      with_reducible refine c_seq ?_
      with_reducible refine c_seq ?_
      with_reducible refine c_region ?_
      refine stepD rfl F rfl (o_move (F.ev rfl) ?_); clear F; clear a; intro a F
      refine stepD rfl F rfl (o_move (F.ev rfl) ?_); clear F; clear a; intro a F
      refine stepD rfl F rfl (o_eqlF (F.ev rfl) (F.ev rfl) (by omega) ?_); clear F; clear a; intro a F
      with_reducible refine l_nil ?_
      with_reducible refine q_then ?_
      refine c_false F rfl rfl ?_
      with_reducible refine c_skip ?_
      with_reducible refine q_then ?_
      with_reducible refine c_seq ?_
      with_reducible refine c_seq ?_
      with_reducible refine c_region ?_
      refine stepD rfl F rfl (o_move (F.ev rfl) ?_); clear F; clear a; intro a F
      refine stepD rfl F rfl (o_move (F.ev rfl) ?_); clear F; clear a; intro a F
      refine stepD rfl F rfl (o_add (F.ev rfl) (F.ev rfl) (w_i64 (by omega) (by omega)) ?_); clear F; clear a; intro a F
      refine stepD rfl F rfl (o_move (F.ev rfl) ?_); clear F; clear a; intro a F
      refine stepD rfl F rfl (o_capSl (F.ev rfl) ?_); clear F; clear a; intro a F
      refine stepD rfl F rfl (o_gtrF (F.ev rfl) (F.ev rfl) (by omega) ?_); clear F; clear a; intro a F
      with_reducible refine l_nil ?_
      with_reducible refine q_then ?_
      refine c_false F rfl rfl ?_
      with_reducible refine c_skip ?_
      with_reducible refine q_then ?_
      with_reducible refine c_seq ?_
      with_reducible refine c_region ?_
      refine stepD rfl F rfl (o_move (F.ev rfl) ?_); clear F; clear a; intro a F
      refine stepD rfl F rfl (o_move (F.ev rfl) ?_); clear F; clear a; intro a F
      refine stepD rfl F rfl (o_move (F.ev rfl) ?_); clear F; clear a; intro a F
      refine stepD rfl F rfl (o_add (F.ev rfl) (F.ev rfl) (w_i64 (by omega) (by omega)) ?_); clear F; clear a; intro a F
      (refine stepD rfl F rfl (o_slH (F.ev rfl) (F.ev rfl) (by simp) (by omega) (by omega) ?_); clear F; clear a; intro a F)
      refine stepD rfl F rfl (o_assign (F.ev rfl) ?_); clear F; clear a; intro a F
      with_reducible refine l_nil ?_
      with_reducible refine q_then ?_
      with_reducible refine c_seq ?_
      with_reducible refine c_seq ?_
      with_reducible refine c_region ?_
      refine stepD rfl F rfl (o_move (F.ev rfl) ?_); clear F; clear a; intro a F
      refine stepD rfl F rfl (o_move (F.ev rfl) ?_); clear F; clear a; intro a F
      refine stepD rfl F rfl (o_move (F.ev rfl) ?_); clear F; clear a; intro a F
      refine stepD rfl F rfl (o_move (F.ev rfl) ?_); clear F; clear a; intro a F
      refine stepD rfl F rfl (o_add (F.ev rfl) (F.ev rfl) (w_i64 (by omega) (by omega)) ?_); clear F; clear a; intro a F
      (refine stepD rfl F rfl (o_slL (F.ev rfl) (F.ev rfl) (by omega) (by omega) (by omega) ?_); clear F; clear a; intro a F)
      (refine stepD rfl F rfl (o_entry (F.ev rfl) Try.func78 (by kernel_rfl) (by kernel_rfl) (by kernel_rfl) (e := Extern.SlicesOverlaps.overlaps #[32, 32] #[4]) (by kernel_rfl) (F.evs rfl) (run_ov (TU.h (P := Try.prog) (t := 32)) (TSz.h (P := Try.prog) (t := 44)) hvb (M.heap hv) (M.heap u1.has) (by simp only [List.length_append]; omega)) ?_); clear F; clear a; intro a F)
      refine stepD rfl F rfl (o_not (F.ev rfl) ?_); clear F; clear a; intro a F
      with_reducible refine l_nil ?_
      with_reducible refine q_then ?_
      refine c_true F rfl rfl ?_
      with_reducible refine c_seq ?_
      refine c_draw 8 F (by kernel_rfl) ?_
      intro w1 hE hok
      have M1 := M.later hE
      refine mK hok rfl rfl (fun a' w' F' E' => o_move (F'.ev rfl) ⟨Ext.refl _ _, rfl⟩) ?_
      refine mK hok rfl rfl (fun a' w' F' E' => o_move (F'.ev rfl) ⟨Ext.refl _ _, rfl⟩) ?_
      refine mK hok rfl rfl (fun a' w' F' E' => o_move (F'.ev rfl) ⟨Ext.refl _ _, rfl⟩) ?_
      refine mK hok rfl rfl (fun a' w' F' E' => o_add (F'.ev rfl) (F'.ev rfl) (w_i64 (by omega) (by omega)) ⟨Ext.refl _ _, rfl⟩) ?_
      (refine mK hok rfl rfl (fun a' w' F' E' => o_slL (F'.ev rfl) (F'.ev rfl) (by omega) (by omega) (by omega) ⟨Ext.refl _ _, rfl⟩) ?_)
      refine mK hok rfl rfl (fun a' w' F' E' => o_move (F'.ev rfl) ⟨Ext.refl _ _, rfl⟩) ?_
      refine mK hok rfl rfl (fun a' w' F' E' => o_move (F'.ev rfl) ⟨Ext.refl _ _, rfl⟩) ?_
      (refine mK hok rfl rfl (fun a' w' F' E' => o_slL (F'.ev rfl) (F'.ev rfl) (by omega) (by omega) (by omega) ⟨Ext.refl _ _, rfl⟩) ?_)
      skip
      (refine mDone rfl rfl ?_; clear F; clear M; intro a w F hE2 hX hTT hDD hPP; have M := M1.later hE2; clear M1; clear hX; clear hE2; clear hok; clear hE; clear hTT; clear hDD; clear hPP; (try dsimp only at F))
      (refine stepD rfl F rfl (o_copy (n := n - i) M (F.ev rfl) (F.ev rfl) (by show _ = min _ _; omega) u1.has g1 (by simp only [List.all_append, Bool.and_eq_true] at h1x ⊢; exact h1x.2) u1.has p1 u1 ?_); clear F; clear M; intro w M a F)
      with_reducible refine l_nil ?_
      with_reducible refine q_then ?_
      with_reducible refine c_seq ?_
      with_reducible refine c_region ?_
      refine stepD rfl F rfl (o_move (F.ev rfl) ?_); clear F; clear a; intro a F
      refine stepD rfl F rfl (o_move (F.ev rfl) ?_); clear F; clear a; intro a F
      (refine stepD rfl F rfl (o_slL (F.ev rfl) (F.ev rfl) (by omega) (by omega) (by omega) ?_); clear F; clear a; intro a F)
      refine stepD rfl F rfl (o_move (F.ev rfl) ?_); clear F; clear a; intro a F
      (refine stepD rfl F rfl (o_copy (n := 1) M (F.ev rfl) (F.ev rfl) (by show _ = min _ _; omega) hv2 (sg_all (by omega)) h1y u2.has p2 u2 ?_); clear F; clear M; intro w M a F)
      with_reducible refine l_nil ?_
      with_reducible refine q_then ?_
      with_reducible refine c_seq ?_
      with_reducible refine c_region ?_
      refine stepD rfl F rfl (o_move (F.ev rfl) ?_); clear F; clear a; intro a F
      refine stepD rfl F rfl (o_assign (F.ev rfl) ?_); clear F; clear a; intro a F
      with_reducible refine l_nil ?_
      with_reducible refine q_then ?_
      with_reducible refine c_ret ?_
      with_reducible refine q_thenR ?_
      refine p_ret F rfl (.cons (.tmp (F.ev rfl)) .nil) ?_
      refine ⟨_, .inr ⟨b, cap, J2, ?_, rfl, ?_, ?_, ?_⟩, ?_⟩
      · show Value.slice _ _ _ = _
        congr 1
      · simp; omega
      · omega
      · omega
      · rw [hf]
        have e3 : A ++ (ys ++ (B1 ++ B2)) ++ J2 = A ++ (ys ++ ((B1 ++ B2) ++ J2)) := by simp
        rw [e3]; exact M
    · have hcn : n = cap := by omega
      subst hcn
      have hj0 : junk = [] := List.length_eq_zero_iff.1 (by omega)
      subst hj0
      have hbh : Has (lr ++ [(b, Obj.cells (A ++ B ++ []).toArray 44 (0, 0))]) b (.cells (A ++ B ++ []).toArray 44 (0, 0)) := Has.app .here lr
      have g0 : seg (A ++ B ++ []) 0 (i * 19) = some A := by
        rw [List.append_nil]
        have := seg_mid (A := []) (B := A) (C := B) (off := 0) (n := i * 19) rfl (by omega)
        simpa using this
      have g1 : seg (A ++ B ++ []) (0 + (i : Int).toNat * 19) ((n - i) * 19) = some B := by
        rw [List.append_assoc]; exact seg_mid (by omega) (by omega)
      have hsA : SrcOf Try.prog W (.slice (some ⟨b, 0, none⟩) i n) i 19 A := SrcOf.cells' (M.heap hbh) g0 h1x.1
      refine fn_of (n := 95) Try.func46 rfl rfl rfl ?_
      intro a F
      with_reducible refine c_seq ?_
      with_reducible refine c_region ?_
      refine stepD rfl F rfl (o_assign (F.ev rfl) ?_); clear F; clear a; intro a F
      with_reducible refine l_nil ?_
      with_reducible refine q_then ?_
      with_reducible refine c_seq ?_
      with_reducible refine c_region ?_
      refine stepD rfl F rfl (o_move (F.ev rfl) ?_); clear F; clear a; intro a F
      refine stepD rfl F rfl (o_move (F.ev rfl) ?_); clear F; clear a; intro a F
      (refine stepD rfl F rfl (o_slL (F.ev rfl) (F.ev rfl) (by omega) (by omega) (by omega) ?_); clear F; clear a; intro a F)
      with_reducible refine l_nil ?_
      with_reducible refine q_then ?_
      with_reducible refine c_seq ?_
      with_reducible refine c_region ?_
      refine stepD rfl F rfl (o_move (F.ev rfl) ?_); clear F; clear a; intro a F
      refine stepD rfl F rfl (o_lenSl (F.ev rfl) ?_); clear F; clear a; intro a F
      refine stepD rfl F rfl (o_assign (F.ev rfl) ?_); clear F; clear a; intro a F
      with_reducible refine l_nil ?_
      with_reducible refine q_then ?_
      with_reducible refine c_seq ?_
      with_reducible refine c_seq ?_
      with_reducible refine c_region ?_
      refine stepD rfl F rfl (o_move (F.ev rfl) ?_); clear F; clear a; intro a F
      refine stepD rfl F rfl (o_eqlF (F.ev rfl) (F.ev rfl) (by omega) ?_); clear F; clear a; intro a F
      with_reducible refine l_nil ?_
      with_reducible refine q_then ?_
      refine c_false F rfl rfl ?_
      with_reducible refine c_skip ?_
      with_reducible refine q_then ?_
      with_reducible refine c_seq ?_
      with_reducible refine c_region ?_
      refine stepD rfl F rfl (o_move (F.ev rfl) ?_); clear F; clear a; intro a F
      refine stepD rfl F rfl (o_lenSl (F.ev rfl) ?_); clear F; clear a; intro a F
      refine stepD rfl F rfl (o_assign (F.ev rfl) ?_); clear F; clear a; intro a F
      with_reducible refine l_nil ?_
      with_reducible refine q_then ?_
      with_reducible refine c_seq ?_
      with_reducible refine c_seq ?_
      with_reducible refine c_region ?_
      refine stepD rfl F rfl (o_move (F.ev rfl) ?_); clear F; clear a; intro a F
      refine stepD rfl F rfl (o_move (F.ev rfl) ?_); clear F; clear a; intro a F
      refine stepD rfl F rfl (o_eqlF (F.ev rfl) (F.ev rfl) (by omega) ?_); clear F; clear a; intro a F
      with_reducible refine l_nil ?_
      with_reducible refine q_then ?_
      refine c_false F rfl rfl ?_
      with_reducible refine c_skip ?_
      with_reducible refine q_then ?_
      with_reducible refine c_seq ?_
      with_reducible refine c_seq ?_
      with_reducible refine c_region ?_
      refine stepD rfl F rfl (o_move (F.ev rfl) ?_); clear F; clear a; intro a F
      refine stepD rfl F rfl (o_move (F.ev rfl) ?_); clear F; clear a; intro a F
      refine stepD rfl F rfl (o_add (F.ev rfl) (F.ev rfl) (w_i64 (by omega) (by omega)) ?_); clear F; clear a; intro a F
      refine stepD rfl F rfl (o_move (F.ev rfl) ?_); clear F; clear a; intro a F
      refine stepD rfl F rfl (o_capSl (F.ev rfl) ?_); clear F; clear a; intro a F
      refine stepD rfl F rfl (o_gtrT (F.ev rfl) (F.ev rfl) (by omega) ?_); clear F; clear a; intro a F
      with_reducible refine l_nil ?_
      with_reducible refine q_then ?_
      refine c_true F rfl rfl ?_
      with_reducible refine c_seq ?_
      with_reducible refine c_region ?_
      refine stepD rfl F rfl (o_move (F.ev rfl) ?_); clear F; clear a; intro a F
      refine stepD rfl F rfl (o_move (F.ev rfl) ?_); clear F; clear a; intro a F
      (refine stepD rfl F rfl (o_slH (F.ev rfl) (F.ev rfl) (by simp) (by omega) (by omega) ?_); clear F; clear a; intro a F)
      refine stepD rfl F rfl (o_move (F.ev rfl) ?_); clear F; clear a; intro a F
      refine stepD rfl F rfl (o_move (F.ev rfl) ?_); clear F; clear a; intro a F
      refine stepD rfl F rfl (o_add (F.ev rfl) (F.ev rfl) (w_i64 (by omega) (by omega)) ?_); clear F; clear a; intro a F
      refine stepD rfl F rfl (o_move (F.ev rfl) ?_); clear F; clear a; intro a F
      refine stepD rfl F rfl (o_sub (F.ev rfl) (F.ev rfl) (w_i64 (by omega) (by omega)) ?_); clear F; clear a; intro a F
      rw [show ((n : Int) + ((1 : Nat) : Int) - i) = ((n + 1 - i : Nat) : Int) by omega, Int.toNat_natCast] at F
      (refine stepD rfl F rfl (o_appendZ (xs := A) (k := n + 1 - i) M hsA (F.ev rfl) (F.ev rfl) (by omega) (by omega) (by omega) (by omega) (by omega) ?_); clear F; clear M; intro b2 cap2 zs w hzl hc2 M a F)
      rw [show i + (n + 1 - i) = n + 1 by omega] at F hc2
      obtain ⟨Z1, Z', rfl, hZ1⟩ := cut_at zs 19 (by omega)
      simp only [List.length_append] at hzl
      obtain ⟨Z2, Z3, rfl, hZ2⟩ := cut_at Z' ((n - i) * 19) (by omega)
      simp only [List.length_append] at hzl
      have p1 : put (A ++ (Z1 ++ (Z2 ++ Z3))) (0 + (i : Int).toNat * 19) ys = some (A ++ (ys ++ (Z2 ++ Z3))) := put_mid (by omega) (by omega)
      have p2 : put (A ++ (ys ++ (Z2 ++ Z3))) (0 + ((i : Int) + 1).toNat * 19) B = some ((A ++ ys) ++ (B ++ Z3)) := by
        rw [← List.append_assoc]; exact put_mid (by simp; omega) (by omega)
      refine stepD rfl F rfl (o_assign (F.ev rfl) ?_); clear F; clear a; intro a F
      with_reducible refine l_nil ?_
      with_reducible refine q_then ?_
      with_reducible refine c_seq ?_
      with_reducible refine c_region ?_
      refine stepD rfl F rfl (o_move (F.ev rfl) ?_); clear F; clear a; intro a F
      refine stepD rfl F rfl (o_move (F.ev rfl) ?_); clear F; clear a; intro a F
      (refine stepD rfl F rfl (o_slL (F.ev rfl) (F.ev rfl) (by omega) (by omega) (by omega) ?_); clear F; clear a; intro a F)
      refine stepD rfl F rfl (o_move (F.ev rfl) ?_); clear F; clear a; intro a F
      (refine stepD rfl F rfl (o_copy (n := 1) M (F.ev rfl) (F.ev rfl) (by show _ = min _ _; omega) (.there hv) (sg_all (by omega)) h1y .here p1 .here ?_); clear F; clear M; intro w M a F)
      with_reducible refine l_nil ?_
      with_reducible refine q_then ?_
      with_reducible refine c_seq ?_
      refine c_draw 8 F (by kernel_rfl) ?_
      intro w1 hE hok
      have M1 := M.later hE
      refine mK hok rfl rfl (fun a' w' F' E' => o_move (F'.ev rfl) ⟨Ext.refl _ _, rfl⟩) ?_
      refine mK hok rfl rfl (fun a' w' F' E' => o_move (F'.ev rfl) ⟨Ext.refl _ _, rfl⟩) ?_
      refine mK hok rfl rfl (fun a' w' F' E' => o_move (F'.ev rfl) ⟨Ext.refl _ _, rfl⟩) ?_
      refine mK hok rfl rfl (fun a' w' F' E' => o_add (F'.ev rfl) (F'.ev rfl) (w_i64 (by omega) (by omega)) ⟨Ext.refl _ _, rfl⟩) ?_
      (refine mK hok rfl rfl (fun a' w' F' E' => o_slL (F'.ev rfl) (F'.ev rfl) (by omega) (by omega) (by omega) ⟨Ext.refl _ _, rfl⟩) ?_)
      refine mK hok rfl rfl (fun a' w' F' E' => o_move (F'.ev rfl) ⟨Ext.refl _ _, rfl⟩) ?_
      refine mK hok rfl rfl (fun a' w' F' E' => o_move (F'.ev rfl) ⟨Ext.refl _ _, rfl⟩) ?_
      (refine mK hok rfl rfl (fun a' w' F' E' => o_slL (F'.ev rfl) (F'.ev rfl) (by omega) (by omega) (by omega) ⟨Ext.refl _ _, rfl⟩) ?_)
      skip
      (refine mDone rfl rfl ?_; clear F; clear M; intro a w F hE2 hX hTT hDD hPP; have M := M1.later hE2; clear M1; clear hX; clear hE2; clear hok; clear hE; clear hTT; clear hDD; clear hPP; (try dsimp only at F))
      (refine stepD rfl F rfl (o_copy (n := n - i) M (F.ev rfl) (F.ev rfl) (by show _ = min _ _; omega) (.there hbh) g1 h1x.2 .here p2 .here ?_); clear F; clear M; intro w M a F)
      with_reducible refine l_nil ?_
      with_reducible refine q_then ?_
      with_reducible refine c_seq ?_
      with_reducible refine c_region ?_
      refine stepD rfl F rfl (o_move (F.ev rfl) ?_); clear F; clear a; intro a F
      refine stepD rfl F rfl (o_assign (F.ev rfl) ?_); clear F; clear a; intro a F
      with_reducible refine l_nil ?_
      with_reducible refine q_then ?_
      with_reducible refine c_ret ?_
      with_reducible refine q_thenR ?_
      refine p_ret F rfl (.cons (.tmp (F.ev rfl)) .nil) ?_
      refine ⟨[(b2, .cells ((A ++ ys) ++ (B ++ Z3)).toArray 44 (0, 0))], .inr ⟨b2, cap2, Z3, rfl, ?_, ?_, ?_, ?_⟩, ?_⟩
      · rw [show A ++ (ys ++ B) ++ Z3 = (A ++ ys) ++ (B ++ Z3) by simp]
      · simp; omega
      · omega
      · omega
      · rw [hf]
        exact (M.sub (l' := (b2, .cells ((A ++ ys) ++ (B ++ Z3)).toArray 44 (0, 0)) :: lr) ((List.sublist_append_left lr _).cons_cons _)).perm (List.perm_append_comm (l₁ := [_]) (l₂ := lr))
end Go.Proofs.Ytainnefmobfcjaa

/-! E3 -/
/-
  border: pools; ValidPool at valid pools.
-/
namespace Go.Proofs.Ytainnefmobfcjaa
set_option linter.unusedVariables false
set_option linter.unusedSimpArgs false
open Go.RowKit
attribute [local irreducible] OpTo wpListIn Code.wpIn MW Cal

/-- the cells of a pool -/
def poC (p : List Int) (n : Int) (v : Value) : List Value := pfC p n ++ [v]
theorem poC_len {p : List Int} (h : p.length = 16) (n : Int) (v : Value) : (poC p n v).length = 18 := by simp [poC, pfC_len h]
theorem po_pf {p : List Int} (h : p.length = 16) (n : Int) (v : Value) : seg (poC p n v) 0 17 = some (pfC p n) := by
  obtain ⟨x0, x1, x2, x3, x4, x5, x6, x7, x8, x9, x10, x11, x12, x13, x14, x15, rfl⟩ := len16 h
  rfl
theorem po_bits {p : List Int} (h : p.length = 16) (n : Int) (v : Value) : nth (poC p n v) 16 = some (.int .i64 n) := by
  obtain ⟨x0, x1, x2, x3, x4, x5, x6, x7, x8, x9, x10, x11, x12, x13, x14, x15, rfl⟩ := len16 h
  rfl
theorem po_sl {p : List Int} (h : p.length = 16) (n : Int) (v : Value) : nth (poC p n v) 17 = some v := by
  obtain ⟨x0, x1, x2, x3, x4, x5, x6, x7, x8, x9, x10, x11, x12, x13, x14, x15, rfl⟩ := len16 h
  rfl
theorem po_all {p : List Int} (h : p.length = 16) (n : Int) (v : Value) : seg (poC p n v) 0 18 = some (poC p n v) := sg_all (poC_len h n v)
theorem po_put {p : List Int} (h : p.length = 16) (n : Int) (v u : Value) : put (poC p n v) 17 [u] = some (poC p n u) := by
  obtain ⟨x0, x1, x2, x3, x4, x5, x6, x7, x8, x9, x10, x11, x12, x13, x14, x15, rfl⟩ := len16 h
  rfl

structure LeaseOk (p : List Int) (n : Int) (l : Lease) : Prop where
  ip : IsIP l.ip
  own0 : l.own ≠ 0
  own1 : 0 ≤ l.own ∧ l.own ≤ 18446744073709551615
  til : isTime l.til = true
  bits : l.bits ≤ 64
  cov : coversP p n l.ip l.bits = true
structure PoolOk (p : List Int) (n : Int) (ls : List Lease) : Prop where
  ip : IsIP p
  pre : validP p n = true
  bits : n ≤ 64
  len : ls.length ≤ 64
  each : ∀ l ∈ ls, LeaseOk p n l
  pw : ls.Pairwise fun x y => cmpL x.ip y.ip < 0 ∧ overlapP x.ip x.bits y.ip y.bits = false
theorem PoolOk.asc {p : List Int} {n : Int} {ls : List Lease} (h : PoolOk p n ls) (i : Nat) (hi : i < ls.length) (h0 : 0 < i) : cmpL ls[i - 1].ip ls[i].ip < 0 :=
  (List.pairwise_iff_getElem.1 h.pw (i - 1) i (by omega) hi (by omega)).1
theorem PoolOk.apart {p : List Int} {n : Int} {ls : List Lease} (h : PoolOk p n ls) (i j : Nat) (hi : i < ls.length) (hj : j < i) : overlapP ls[j].ip ls[j].bits ls[i].ip ls[i].bits = false :=
  (List.pairwise_iff_getElem.1 h.pw j i (by omega) hi hj).2
theorem PoolOk.le {p : List Int} {n : Int} {ls : List Lease} (h : PoolOk p n ls) : ∀ l ∈ ls, IsLe l := fun l hl => (h.each l hl).ip

set_option maxHeartbeats 4000000 in
theorem validPool_c (p : List Int) (n : Int) (ls : List Lease) (hP : PoolOk p n ls) (v : Value) (W : World) (hS : SlAt W 19 v ls.length (lesC ls)) :
    Cal Try.prog 15 [.agg (poC p n v).toArray].toArray W fun x w' => x = .bool true ∧ Ext [] W w' := by
  obtain ⟨q, cap, rfl, hcap, hsp, hl, hm⟩ := hS
  have hle := hP.le
  have hlen := hP.len
  have hbits := hP.bits
  have e1 := po_pf hP.ip.len n (.slice q ls.length cap)
  have e2 := po_bits hP.ip.len n (.slice q ls.length cap)
  have e3 := po_sl hP.ip.len n (.slice q ls.length cap)
  have e4 := poC_len hP.ip.len n (.slice q ls.length cap)
  refine fn_ofM (n := 87) [] Try.func15 rfl rfl rfl ?_
  intro a w F M hwW
  refine c_seq ?_
  refine c_region ?_
  (refine stepD rfl F rfl (o_box M (F.ev rfl) rfl ?_); clear F; clear M; intro b1 w M a F)
  refine stepD rfl F rfl (o_assign (F.ev rfl) ?_); clear F; clear a; intro a F
  with_reducible refine l_nil ?_
  with_reducible refine q_then ?_
  with_reducible refine c_seq ?_
  with_reducible refine c_seq ?_
  with_reducible refine c_region ?_
  refine stepD rfl F rfl (o_fieldAddr (F.ev rfl) ?_); clear F; clear a; intro a F
  refine stepD rfl F rfl (o_loadA M (F.ev rfl) (by repeat (first | exact .here | apply Has.there)) (by first | assumption | rfl) ?_); clear F; clear a; intro a F
  (refine stepD rfl F rfl (o_call (F.ev rfl) (F.evs rfl) (Cal.mono (validPrefix_c p n hP.ip.len _) ?_)); clear F; clear a; rintro _ w ⟨rfl, hE⟩ a F; replace M := M.later hE; clear hE)
  rw [hP.pre] at F
  refine stepD rfl F rfl (o_not (F.ev rfl) ?_); clear F; clear a; intro a F
  refine stepD rfl F rfl (o_move (F.ev rfl) ?_); clear F; clear a; intro a F
  refine stepG rfl F rfl rfl rfl (o_fieldAddr (F.ev rfl) ?_); clear F; clear a; intro a F
  refine stepG rfl F rfl rfl rfl (o_fieldAddr (F.ev rfl) ?_); clear F; clear a; intro a F
  refine stepG rfl F rfl rfl rfl (o_load1 M (F.ev rfl) (by repeat (first | exact .here | apply Has.there)) (by first | assumption | rfl) ?_); clear F; clear a; intro a F
  refine stepG rfl F rfl rfl rfl (o_gtrF (F.ev rfl) (F.ev rfl) (by omega) ?_); clear F; clear a; intro a F
  refine stepD rfl F rfl (o_pickF (F.ev rfl) (F.ev rfl) ?_); clear F; clear a; intro a F
  refine stepD rfl F rfl (o_move (F.ev rfl) ?_); clear F; clear a; intro a F
  refine stepG rfl F rfl rfl rfl (o_fieldAddr (F.ev rfl) ?_); clear F; clear a; intro a F
  refine stepG rfl F rfl rfl rfl (o_load1 M (F.ev rfl) (by repeat (first | exact .here | apply Has.there)) (by first | assumption | rfl) ?_); clear F; clear a; intro a F
  refine stepG rfl F rfl rfl rfl (o_lenSl (F.ev rfl) ?_); clear F; clear a; intro a F
  refine stepG rfl F rfl rfl rfl (o_gtrF (F.ev rfl) (F.ev rfl) (by omega) ?_); clear F; clear a; intro a F
  refine stepD rfl F rfl (o_pickF (F.ev rfl) (F.ev rfl) ?_); clear F; clear a; intro a F
  with_reducible refine l_nil ?_
  with_reducible refine q_then ?_
  refine c_false F rfl rfl ?_
  with_reducible refine c_skip ?_
  with_reducible refine q_then ?_
  with_reducible refine c_seq ?_
  with_reducible refine c_seq ?_
  with_reducible refine c_region ?_
  refine stepD rfl F rfl (o_fieldAddr (F.ev rfl) ?_); clear F; clear a; intro a F
  refine stepD rfl F rfl (o_load1 M (F.ev rfl) (by repeat (first | exact .here | apply Has.there)) (by first | assumption | rfl) ?_); clear F; clear a; intro a F
  refine stepD rfl F rfl (o_lenSl (F.ev rfl) ?_); clear F; clear a; intro a F
  refine stepD rfl F rfl (o_move (F.ev rfl) ?_); clear F; clear a; intro a F
  with_reducible refine l_nil ?_
  with_reducible refine q_then ?_
  with_reducible refine c_block ?_
  refine c_loop (fun k a w => ∃ i : Nat, k = ls.length - i ∧ i ≤ ls.length ∧ Frm a 87 [] [(26, .int .i64 i), (25, .int .i64 ls.length), (24, .slice q ls.length cap), (1, .pointer (some ⟨b1, 0, none⟩))] ∧ Mem [] W w [(b1, .cells (poC p n (.slice q ls.length cap)).toArray 34 (0, 0))]) ls.length ⟨0, rfl, by omega, F.only [26, 25, 24, 1] rfl, M⟩ ?_
  clear F M
  rintro k a w ⟨i, hk, hi, F, M⟩
  by_cases hlt : i < ls.length
  · obtain ⟨b, o, cs, t, fz, rfl, hb, hs⟩ := hm (by omega)
    obtain ⟨l, hl0⟩ : ∃ l, l = ls[i] := ⟨_, rfl⟩
    have hlm : l ∈ ls := by rw [hl0]; exact List.getElem_mem hlt
    have hlo := hP.each l hlm
    have f1 : seg cs (o + (i : Int).toNat * 19) 19 = some (leC l) := by rw [hl0]; exact seg_el (les_len hle) hs hlt (by omega)
    have f2 := leC_len hlo.ip.len
    have f3 := le_own hlo.ip.len
    have f4 := le_til hlo.ip.len
    have f5 := le_bits hlo.ip.len
    have f6 := le_pf hlo.ip.len
    have f7 := le_ip hlo.ip.len
    have o1 := hlo.own0
    have o2 := hlo.bits
    with_reducible refine c_seq ?_
    with_reducible refine c_region ?_
    refine stepD rfl F rfl (o_lssT (F.ev rfl) (F.ev rfl) (by omega) ?_); clear F; clear a; intro a F
    with_reducible refine l_nil ?_
    with_reducible refine q_then ?_
    with_reducible refine c_seq ?_
    refine c_true F rfl rfl ?_
    with_reducible refine c_skip ?_
    with_reducible refine q_then ?_
    with_reducible refine c_seq ?_
    with_reducible refine c_block ?_
    with_reducible refine c_seq ?_
    with_reducible refine c_region ?_
    refine stepD rfl F rfl (o_move (F.ev rfl) ?_); clear F; clear a; intro a F
    refine stepD rfl F rfl (o_indexSl (F.ev rfl) (F.ev rfl) (by omega) (by omega) ?_); clear F; clear a; intro a F
    refine stepD rfl F rfl (o_loadWA M (F.ev rfl) (by assumption) (by first | assumption | rfl) ?_); clear F; clear a; intro a F
    (refine stepD rfl F rfl (o_alloc M ?_); clear F; clear M; intro b4 w M a F)
    refine stepD rfl F rfl (o_assign (F.ev rfl) ?_); clear F; clear a; intro a F
    (refine stepN rfl F (o_storeA M (F.ev rfl) (F.ev rfl) (f2) (le_one _)  (by repeat (first | exact .here | apply Has.there))  (put_all (by rw [f2]; rfl)) (by repeat (first | exact .here | apply Upd.there)) ?_); clear F; clear M; intro w M a F)
    with_reducible refine l_nil ?_
    with_reducible refine q_then ?_
    with_reducible refine c_seq ?_
    with_reducible refine c_seq ?_
    with_reducible refine c_region ?_
    refine stepD rfl F rfl (o_fieldAddr (F.ev rfl) ?_); clear F; clear a; intro a F
    refine stepD rfl F rfl (o_load1 M (F.ev rfl) (by repeat (first | exact .here | apply Has.there)) (by first | assumption | rfl) ?_); clear F; clear a; intro a F
    refine stepD rfl F rfl (o_eqlF (F.ev rfl) (F.ev rfl) (by omega) ?_); clear F; clear a; intro a F
    refine stepD rfl F rfl (o_move (F.ev rfl) ?_); clear F; clear a; intro a F
    refine stepG rfl F rfl rfl rfl (o_fieldAddr (F.ev rfl) ?_); clear F; clear a; intro a F
    refine stepG rfl F rfl rfl rfl (o_load1 M (F.ev rfl) (by repeat (first | exact .here | apply Has.there)) (by first | assumption | rfl) ?_); clear F; clear a; intro a F
    (refine stepG rfl F rfl rfl rfl (o_call (F.ev rfl) (F.evs rfl) (Cal.mono (isTime_c l.til _) ?_)); clear F; clear a; rintro _ w ⟨rfl, hE⟩ a F; replace M := M.later hE; clear hE)
    rw [hlo.til] at F
    refine stepG rfl F rfl rfl rfl (o_not (F.ev rfl) ?_); clear F; clear a; intro a F
    refine stepD rfl F rfl (o_pickF (F.ev rfl) (F.ev rfl) ?_); clear F; clear a; intro a F
    refine stepD rfl F rfl (o_move (F.ev rfl) ?_); clear F; clear a; intro a F
    refine stepG rfl F rfl rfl rfl (o_fieldAddr (F.ev rfl) ?_); clear F; clear a; intro a F
    refine stepG rfl F rfl rfl rfl (o_fieldAddr (F.ev rfl) ?_); clear F; clear a; intro a F
    refine stepG rfl F rfl rfl rfl (o_load1 M (F.ev rfl) (by repeat (first | exact .here | apply Has.there)) (by first | assumption | rfl) ?_); clear F; clear a; intro a F
    refine stepG rfl F rfl rfl rfl (o_gtrF (F.ev rfl) (F.ev rfl) (by omega) ?_); clear F; clear a; intro a F
    refine stepD rfl F rfl (o_pickF (F.ev rfl) (F.ev rfl) ?_); clear F; clear a; intro a F
    refine stepD rfl F rfl (o_move (F.ev rfl) ?_); clear F; clear a; intro a F
    refine stepG rfl F rfl rfl rfl (o_fieldAddr (F.ev rfl) ?_); clear F; clear a; intro a F
    refine stepG rfl F rfl rfl rfl (o_loadA M (F.ev rfl) (by repeat (first | exact .here | apply Has.there)) (by first | assumption | rfl) ?_); clear F; clear a; intro a F
    refine stepG rfl F rfl rfl rfl (o_fieldAddr (F.ev rfl) ?_); clear F; clear a; intro a F
    refine stepG rfl F rfl rfl rfl (o_loadA M (F.ev rfl) (by repeat (first | exact .here | apply Has.there)) (by first | assumption | rfl) ?_); clear F; clear a; intro a F
    (refine stepG rfl F rfl rfl rfl (o_call (F.ev rfl) (F.evs rfl) (Cal.mono (covers_c p n hP.ip.len l.ip l.bits hlo.ip.len _) ?_)); clear F; clear a; rintro _ w ⟨rfl, hE⟩ a F; replace M := M.later hE; clear hE)
    rw [hlo.cov] at F
    refine stepG rfl F rfl rfl rfl (o_not (F.ev rfl) ?_); clear F; clear a; intro a F
    refine stepD rfl F rfl (o_pickF (F.ev rfl) (F.ev rfl) ?_); clear F; clear a; intro a F
    with_reducible refine l_nil ?_
    with_reducible refine q_then ?_
    refine c_false F rfl rfl ?_
    with_reducible refine c_skip ?_
    with_reducible refine q_then ?_
    with_reducible refine c_seq ?_
    with_reducible refine c_seq ?_
    refine c_cut (fun a w => Frm a 87 [] [(70, .bool false), (26, .int .i64 i), (25, .int .i64 ls.length), (24, .slice (some ⟨b, o, none⟩) ls.length cap), (4, .pointer (some ⟨b4, 0, none⟩)), (3, .int .i64 i), (1, .pointer (some ⟨b1, 0, none⟩))] ∧ Mem [] W w [(b4, .cells (leC l).toArray 44 (0, 0)), (b1, .cells (poC p n (.slice (some ⟨b, o, none⟩) ls.length cap)).toArray 34 (0, 0))]) ?_ ?_
    · replace F := F.only [26, 25, 24, 4, 3, 1] rfl
      rcases Nat.eq_zero_or_pos i with hi0 | hi0
      · refine c_draw 17 F (by kernel_rfl) ?_
        intro w1 hE hok
        have M1 := M.later hE
        refine mK hok rfl rfl (fun a' w' F' E' => o_move (F'.ev rfl) ⟨Ext.refl _ _, rfl⟩) ?_
        refine mK hok rfl rfl (fun a' w' F' E' => o_gtrF (F'.ev rfl) (F'.ev rfl) (by omega) ⟨Ext.refl _ _, rfl⟩) ?_
        refine mK hok rfl rfl (fun a' w' F' E' => o_move (F'.ev rfl) ⟨Ext.refl _ _, rfl⟩) ?_
        refine mOff hok rfl rfl rfl rfl rfl ?_
        refine mOff hok rfl rfl rfl rfl rfl ?_
        refine mOff hok rfl rfl rfl rfl rfl ?_
        refine mOff hok rfl rfl rfl rfl rfl ?_
        refine mOff hok rfl rfl rfl rfl rfl ?_
        refine mOff hok rfl rfl rfl rfl rfl ?_
        refine mOff hok rfl rfl rfl rfl rfl ?_
        refine mOff hok rfl rfl rfl rfl rfl ?_
        refine mOff hok rfl rfl rfl rfl rfl ?_
        refine mOff hok rfl rfl rfl rfl rfl ?_
        refine mOff hok rfl rfl rfl rfl rfl ?_
        refine mOff hok rfl rfl rfl rfl rfl ?_
        refine mOff hok rfl rfl rfl rfl rfl ?_
        refine mK hok rfl rfl (fun a' w' F' E' => o_pickF (F'.ev rfl) (F'.ev rfl) ⟨Ext.refl _ _, rfl⟩) ?_
        (refine mDone rfl rfl ?_; clear F; clear M; intro a w F hE2 hX hTT hDD hPP; have M := M1.later hE2; clear M1; clear hX; clear hE2; clear hok; clear hE; clear hTT; clear hDD; clear hPP; (try dsimp only at F))
        with_reducible refine l_nil ?_
        exact ⟨F.only [70, 26, 25, 24, 4, 3, 1] rfl, M⟩
      · obtain ⟨l', hl'⟩ : ∃ l', l' = ls[i - 1]'(by omega) := ⟨_, rfl⟩
        have hlm' : l' ∈ ls := by rw [hl']; exact List.getElem_mem _
        have hlo' := hP.each l' hlm'
        have g1 : seg cs (o + ((i : Int) - 1).toNat * 19) 19 = some (leC l') := by rw [hl']; exact seg_el (les_len hle) hs (by omega) (by omega)
        have g2 : seg cs (o + ((i : Int) - 1).toNat * 19) 16 = some (ipC l'.ip) := sg_seg g1 (le_ip hlo'.ip.len) (by omega)
        have g3 : cmpL l'.ip l.ip < 0 := by rw [hl', hl0]; exact hP.asc i hlt hi0
        clear g1 hl'
        refine c_draw 17 F (by kernel_rfl) ?_
        intro w1 hE hok
        have M1 := M.later hE
        refine mK hok rfl rfl (fun a' w' F' E' => o_move (F'.ev rfl) ⟨Ext.refl _ _, rfl⟩) ?_
        refine mK hok rfl rfl (fun a' w' F' E' => o_gtrT (F'.ev rfl) (F'.ev rfl) (by omega) ⟨Ext.refl _ _, rfl⟩) ?_
        refine mK hok rfl rfl (fun a' w' F' E' => o_move (F'.ev rfl) ⟨Ext.refl _ _, rfl⟩) ?_
        refine mKG hok rfl rfl rfl rfl (fun a' w' F' E' => o_fieldAddr (F'.ev rfl) ⟨Ext.refl _ _, rfl⟩) ?_
        refine mKG hok rfl rfl rfl rfl (fun a' w' F' E' => o_load1 (M1.later E') (F'.ev rfl) (by repeat (first | exact .here | apply Has.there)) (by first | assumption | rfl) ⟨Ext.refl _ _, rfl⟩) ?_
        refine mKG hok rfl rfl rfl rfl (fun a' w' F' E' => o_move (F'.ev rfl) ⟨Ext.refl _ _, rfl⟩) ?_
        refine mKG hok rfl rfl rfl rfl (fun a' w' F' E' => o_sub (F'.ev rfl) (F'.ev rfl) (w_i64 (by omega) (by omega)) ⟨Ext.refl _ _, rfl⟩) ?_
        refine mKG hok rfl rfl rfl rfl (fun a' w' F' E' => o_indexSl (F'.ev rfl) (F'.ev rfl) (by omega) (by omega) ⟨Ext.refl _ _, rfl⟩) ?_
        refine mKG hok rfl rfl rfl rfl (fun a' w' F' E' => o_fieldAddr (F'.ev rfl) ⟨Ext.refl _ _, rfl⟩) ?_
        refine mKG hok rfl rfl rfl rfl (fun a' w' F' E' => o_fieldAddr (F'.ev rfl) ⟨Ext.refl _ _, rfl⟩) ?_
        refine mKG hok rfl rfl rfl rfl (fun a' w' F' E' => o_loadWA (M1.later E') (F'.ev rfl) (by assumption) (by first | assumption | rfl) ⟨Ext.refl _ _, rfl⟩) ?_
        refine mKG hok rfl rfl rfl rfl (fun a' w' F' E' => o_fieldAddr (F'.ev rfl) ⟨Ext.refl _ _, rfl⟩) ?_
        refine mKG hok rfl rfl rfl rfl (fun a' w' F' E' => o_fieldAddr (F'.ev rfl) ⟨Ext.refl _ _, rfl⟩) ?_
        refine mKG hok rfl rfl rfl rfl (fun a' w' F' E' => o_loadA (M1.later E') (F'.ev rfl) (by repeat (first | exact .here | apply Has.there)) (by first | assumption | rfl) ⟨Ext.refl _ _, rfl⟩) ?_
        (refine mKG hok rfl rfl rfl rfl (fun a' w' F' E' => o_call (F'.ev rfl) (F'.evs rfl) (Cal.mono (compareIP_c l'.ip l.ip hlo'.ip hlo.ip _) fun _ _ hh => ⟨hh.2, hh.1⟩)) ?_)
        refine mKG hok rfl rfl rfl rfl (fun a' w' F' E' => o_geqF (F'.ev rfl) (F'.ev rfl) (by omega) ⟨Ext.refl _ _, rfl⟩) ?_
        refine mK hok rfl rfl (fun a' w' F' E' => o_pickT (F'.ev rfl) (F'.ev rfl) ⟨Ext.refl _ _, rfl⟩) ?_
        (refine mDone rfl rfl ?_; clear F; clear M; intro a w F hE2 hX hTT hDD hPP; have M := M1.later hE2; clear M1; clear hX; clear hE2; clear hok; clear hE; clear hTT; clear hDD; clear hPP; (try dsimp only at F))
        with_reducible refine l_nil ?_
        exact ⟨F.only [70, 26, 25, 24, 4, 3, 1] rfl, M⟩
    · clear F M a w
      rintro a w ⟨F, M⟩
      with_reducible refine q_then ?_
      refine c_false F rfl rfl ?_
      with_reducible refine c_skip ?_
      with_reducible refine q_then ?_
      with_reducible refine c_seq ?_
      with_reducible refine c_region ?_
      refine stepD rfl F rfl (o_fieldAddr (F.ev rfl) ?_); clear F; clear a; intro a F
      refine stepD rfl F rfl (o_load1 M (F.ev rfl) (by repeat (first | exact .here | apply Has.there)) (by first | assumption | rfl) ?_); clear F; clear a; intro a F
      refine stepD rfl F rfl (o_move (F.ev rfl) ?_); clear F; clear a; intro a F
      (refine stepD rfl F rfl (o_slH (F.ev rfl) (F.ev rfl) (by simp) (by omega) (by omega) ?_); clear F; clear a; intro a F)
      refine stepD rfl F rfl (o_lenSl (F.ev rfl) ?_); clear F; clear a; intro a F
      refine stepD rfl F rfl (o_move (F.ev rfl) ?_); clear F; clear a; intro a F
      with_reducible refine l_nil ?_
      with_reducible refine q_then ?_
      with_reducible refine c_block ?_
      refine c_loop (fun k a w => ∃ j : Nat, k = i - j ∧ j ≤ i ∧ Frm a 87 [] [(76, .int .i64 j), (75, .int .i64 i), (74, .slice (some ⟨b, o, none⟩) i cap), (26, .int .i64 i), (25, .int .i64 ls.length), (24, .slice (some ⟨b, o, none⟩) ls.length cap), (4, .pointer (some ⟨b4, 0, none⟩)), (3, .int .i64 i), (1, .pointer (some ⟨b1, 0, none⟩))] ∧ Mem [] W w [(b4, .cells (leC l).toArray 44 (0, 0)), (b1, .cells (poC p n (.slice (some ⟨b, o, none⟩) ls.length cap)).toArray 34 (0, 0))]) i ⟨0, rfl, by omega, F.only [76, 75, 74, 26, 25, 24, 4, 3, 1] rfl, M⟩ ?_
      clear F M
      rintro k' a w ⟨j, hk', hj, F, M⟩
      by_cases hjl : j < i
      · obtain ⟨l', hl'⟩ : ∃ l', l' = ls[j]'(by omega) := ⟨_, rfl⟩
        have hlm' : l' ∈ ls := by rw [hl']; exact List.getElem_mem _
        have hlo' := hP.each l' hlm'
        have g1 : seg cs (o + (j : Int).toNat * 19) 19 = some (leC l') := by rw [hl']; exact seg_el (les_len hle) hs (by omega) (by omega)
        have g2 := leC_len hlo'.ip.len
        have g3 := le_pf hlo'.ip.len
        have g4 : overlapP l'.ip l'.bits l.ip l.bits = false := by rw [hl', hl0]; exact hP.apart i j hlt hjl
        clear hl'
        with_reducible refine c_seq ?_
        with_reducible refine c_region ?_
        refine stepD rfl F rfl (o_lssT (F.ev rfl) (F.ev rfl) (by omega) ?_); clear F; clear a; intro a F
        with_reducible refine l_nil ?_
        with_reducible refine q_then ?_
        with_reducible refine c_seq ?_
        refine c_true F rfl rfl ?_
        with_reducible refine c_skip ?_
        with_reducible refine q_then ?_
        with_reducible refine c_seq ?_
        with_reducible refine c_block ?_
        with_reducible refine c_seq ?_
        with_reducible refine c_region ?_
        refine stepD rfl F rfl (o_indexSl (F.ev rfl) (F.ev rfl) (by omega) (by omega) ?_); clear F; clear a; intro a F
        refine stepD rfl F rfl (o_loadWA M (F.ev rfl) (by assumption) (by first | assumption | rfl) ?_); clear F; clear a; intro a F
        (refine stepD rfl F rfl (o_alloc M ?_); clear F; clear M; intro b6 w M a F)
        (refine stepN rfl F (o_storeA M (F.ev rfl) (F.ev rfl) (g2) (le_one _)  (by repeat (first | exact .here | apply Has.there))  (put_all (by rw [g2]; rfl)) (by repeat (first | exact .here | apply Upd.there)) ?_); clear F; clear M; intro w M a F)
        with_reducible refine l_nil ?_
        with_reducible refine q_then ?_
        with_reducible refine c_seq ?_
        with_reducible refine c_region ?_
        refine stepD rfl F rfl (o_fieldAddr (F.ev rfl) ?_); clear F; clear a; intro a F
        refine stepD rfl F rfl (o_loadA M (F.ev rfl) (by repeat (first | exact .here | apply Has.there)) (by first | assumption | rfl) ?_); clear F; clear a; intro a F
        refine stepD rfl F rfl (o_fieldAddr (F.ev rfl) ?_); clear F; clear a; intro a F
        refine stepD rfl F rfl (o_loadA M (F.ev rfl) (by repeat (first | exact .here | apply Has.there)) (by first | assumption | rfl) ?_); clear F; clear a; intro a F
        (refine stepD rfl F rfl (o_call (F.ev rfl) (F.evs rfl) (Cal.mono (overlap_c l'.ip l'.bits hlo'.ip.len l.ip l.bits hlo.ip.len _) ?_)); clear F; clear a; rintro _ w ⟨rfl, hE⟩ a F; replace M := M.later hE; clear hE)
        rw [g4] at F
        with_reducible refine l_nil ?_
        with_reducible refine q_then ?_
        refine c_false F rfl rfl ?_
        with_reducible refine c_skip ?_
        with_reducible refine q_inB ?_
        with_reducible refine q_then ?_
        with_reducible refine c_region ?_
        refine stepD rfl F rfl (o_add (F.ev rfl) (F.ev rfl) (w_i64 (by omega) (by omega)) ?_); clear F; clear a; intro a F
        refine stepD rfl F rfl (o_move (F.ev rfl) ?_); clear F; clear a; intro a F
        with_reducible refine l_nil ?_
        with_reducible refine q_then ?_
        exact ⟨_, by omega, j + 1, rfl, by omega, F.only [76, 75, 74, 26, 25, 24, 4, 3, 1] rfl, M.sub (List.sublist_cons_self _ _)⟩
      · obtain rfl : j = i := by omega
        with_reducible refine c_seq ?_
        with_reducible refine c_region ?_
        refine stepD rfl F rfl (o_lssF (F.ev rfl) (F.ev rfl) (by omega) ?_); clear F; clear a; intro a F
        with_reducible refine l_nil ?_
        with_reducible refine q_then ?_
        with_reducible refine c_seq ?_
        refine c_false F rfl rfl ?_
        with_reducible refine c_exit ?_
        with_reducible refine q_thenX ?_
        with_reducible refine q_thenX ?_
        with_reducible refine q_inBX ?_
        with_reducible refine q_inB ?_
        with_reducible refine q_then ?_
        with_reducible refine c_region ?_
        refine stepD rfl F rfl (o_add (F.ev rfl) (F.ev rfl) (w_i64 (by omega) (by omega)) ?_); clear F; clear a; intro a F
        refine stepD rfl F rfl (o_move (F.ev rfl) ?_); clear F; clear a; intro a F
        with_reducible refine l_nil ?_
        with_reducible refine q_then ?_
        exact ⟨_, by omega, j + 1, rfl, by omega, F.only [26, 25, 24, 1] rfl, M.sub (List.sublist_cons_self _ _)⟩
  · obtain rfl : i = ls.length := by omega
    with_reducible refine c_seq ?_
    with_reducible refine c_region ?_
    refine stepD rfl F rfl (o_lssF (F.ev rfl) (F.ev rfl) (by omega) ?_); clear F; clear a; intro a F
    with_reducible refine l_nil ?_
    with_reducible refine q_then ?_
    with_reducible refine c_seq ?_
    refine c_false F rfl rfl ?_
    with_reducible refine c_exit ?_
    with_reducible refine q_thenX ?_
    with_reducible refine q_thenX ?_
    with_reducible refine q_inBX ?_
    with_reducible refine q_then ?_
    with_reducible refine c_seq ?_
    with_reducible refine c_region ?_
    refine stepD rfl F rfl (o_assign (F.ev rfl) ?_); clear F; clear a; intro a F
    with_reducible refine l_nil ?_
    with_reducible refine q_then ?_
    with_reducible refine c_ret ?_
    refine p_ret F rfl (.cons (.tmp (F.ev rfl)) .nil) ?_
    exact ⟨rfl, M.ext⟩
end Go.Proofs.Ytainnefmobfcjaa

/-! E4 -/
/-
  Prefixes of at most 64 bits as numbers: plain facts.
-/
namespace Go.Proofs.Ytainnefmobfcjaa
set_option linter.unusedVariables false
set_option linter.unusedSimpArgs false
open Go.RowKit

def z8 : List Int := [0, 0, 0, 0, 0, 0, 0, 0]
/-- how many numbers a prefix of n bits has -/
def ln (n : Nat) : Nat := 2 ^ (64 - n)
theorem ln_pos (n : Nat) : 0 < ln n := Nat.two_pow_pos _
theorem ln_dvd {n m : Nat} (h : n ≤ m) : ln m ∣ ln n := Nat.pow_dvd_pow 2 (by omega)
theorem ln_le {n m : Nat} (h : n ≤ m) : ln m ≤ ln n := Nat.pow_le_pow_right (by omega) (by omega)
theorem ln_max (n : Nat) : ln n ≤ 18446744073709551616 := by
  have : ln n ≤ 2 ^ 64 := Nat.pow_le_pow_right (by omega) (by omega)
  omega
theorem ln_dvd64 (n : Nat) : ln n ∣ 18446744073709551616 := by
  have : ln n ∣ 2 ^ 64 := Nat.pow_dvd_pow 2 (by omega)
  exact this
def netN (p : List Int) : Nat := (net p).toNat
theorem take8_bd {p : List Int} (hp : IsIP p) : ∀ x ∈ p.take 8, 0 ≤ x ∧ x < 256 := fun x hx => hp.bd x (List.mem_of_mem_take hx)
theorem net_nat {p : List Int} (hp : IsIP p) : net p = (netN p : Int) ∧ netN p < 18446744073709551616 := by
  have := beN_bd 8 (p.take 8) (by simp [hp.len]) (take8_bd hp)
  unfold netN net
  have h2 : ((256 ^ 8 : Nat) : Int) = 18446744073709551616 := by decide
  omega
theorem take8_beB {p : List Int} (hp : IsIP p) : p.take 8 = beB (netN p) := by
  rw [← (net_nat hp).1]
  exact (be_inv (by simp [hp.len]) (take8_bd hp)).symm
theorem byte_net {p : List Int} (hp : IsIP p) {i : Nat} (hi : i < 8) : p.getD i 0 = ((netN p / 2 ^ (8 * (7 - i)) % 256 : Nat) : Int) := by
  have h1 : p.getD i 0 = (p.take 8).getD i 0 := by
    simp only [List.getD_eq_getElem?_getD, List.getElem?_take, hi, if_true]
  rw [h1, take8_beB hp]
  have h2 : (beB (netN p)).getD i 0 = beAt (netN p) i := by simp [beB, hi]
  rw [h2, beAt_nat _ _ hi, show 256 ^ (7 - i) = 2 ^ (8 * (7 - i)) by rw [Nat.pow_mul]]
theorem byte_cutA (N s m : Nat) (h : m ≤ s) : (N / 2 ^ m * 2 ^ m) / 2 ^ s % 256 = N / 2 ^ s % 256 := by
  obtain ⟨d, rfl⟩ : ∃ d, s = m + d := ⟨s - m, by omega⟩
  rw [Nat.pow_add, ← Nat.div_div_eq_div_mul, Nat.mul_div_cancel _ (Nat.two_pow_pos m), Nat.div_div_eq_div_mul]
theorem byte_cutB (N s m : Nat) (h : s + 8 ≤ m) : (N / 2 ^ m * 2 ^ m) / 2 ^ s % 256 = 0 := by
  obtain ⟨d, rfl⟩ : ∃ d, m = d + 8 + s := ⟨m - s - 8, by omega⟩
  rw [Nat.pow_add 2 (d + 8) s, ← Nat.mul_assoc, Nat.mul_div_cancel _ (Nat.two_pow_pos s), Nat.pow_add, ← Nat.mul_assoc]
  exact Nat.mul_mod_left _ _
theorem byte_cutC (N s d : Nat) (h : d ≤ 8) : (N / 2 ^ (s + d) * 2 ^ (s + d)) / 2 ^ s % 256 = (N / 2 ^ s % 256) / 2 ^ d * 2 ^ d := by
  rw [Nat.pow_add, ← Nat.div_div_eq_div_mul, Nat.mul_comm (2 ^ s) (2 ^ d), ← Nat.mul_assoc, Nat.mul_div_cancel _ (Nat.two_pow_pos s)]
  generalize N / 2 ^ s = Y
  have : d = 0 ∨ d = 1 ∨ d = 2 ∨ d = 3 ∨ d = 4 ∨ d = 5 ∨ d = 6 ∨ d = 7 ∨ d = 8 := by omega
  rcases this with rfl | rfl | rfl | rfl | rfl | rfl | rfl | rfl | rfl <;> simp only [Nat.reducePow] <;> omega
theorem mask64 {p : List Int} (hp : IsIP p) {n : Nat} (hn : n ≤ 64) : maskI p (n : Int) = beB ((netN p / ln n * ln n : Nat) : Int) ++ z8 := by
  apply List.ext_getElem (by simp [maskI, beB, z8])
  intro i h1 h2
  have hi : i < 16 := by simpa [maskI] using h1
  have e1 : (maskI p (n : Int))[i]'h1 = maskAt p n i := by simp [maskI]
  refine Eq.trans e1 ?_
  rw [maskAt_cut]
  rcases Nat.lt_or_ge i 8 with h8 | h8
  · have e2 : (beB ((netN p / ln n * ln n : Nat) : Int) ++ z8)[i]'h2 = beAt ((netN p / ln n * ln n : Nat) : Int) i := by
      rw [List.getElem_append_left (by simp [beB, h8])]; simp [beB]
    rw [e2, beAt_nat _ _ h8, byte_net hp h8, cutB_nat (Nat.mod_lt _ (by omega)) (keepN_bd _ _)]
    congr 1
    unfold ln
    rw [show 256 ^ (7 - i) = 2 ^ (8 * (7 - i)) by rw [Nat.pow_mul]]
    rcases Nat.lt_or_ge (8 * i) n with ha | ha
    · rcases Nat.lt_or_ge n (8 * i + 8) with hb | hb
      · have hk : (keepN (n : Int) i).toNat = n - 8 * i := by unfold keepN; split <;> (try split) <;> omega
        rw [hk, show 64 - n = 8 * (7 - i) + (8 - (n - 8 * i)) by omega, byte_cutC _ _ _ (by omega)]
      · have hk : (keepN (n : Int) i).toNat = 8 := by unfold keepN; split <;> (try split) <;> omega
        rw [hk, byte_cutA _ _ _ (by omega)]
        simp
    · have hk : (keepN (n : Int) i).toNat = 0 := by unfold keepN; split <;> (try split) <;> omega
      rw [hk, byte_cutB _ _ _ (by omega)]
      have := Nat.mod_lt (netN p / 2 ^ (8 * (7 - i))) (show 0 < 256 by omega)
      omega
  · have e2 : (beB ((netN p / ln n * ln n : Nat) : Int) ++ z8)[i]'h2 = 0 := by
      rw [List.getElem_append_right (by simp [beB]; omega)]
      have : ∀ j (hj : j < 8), z8[j]'(by simpa [z8] using hj) = 0 := by decide
      exact this _ (by simp [beB]; omega)
    rw [e2]
    have hk : (keepN (n : Int) i).toNat = 0 := by unfold keepN; split <;> (try split) <;> omega
    obtain ⟨x, hx, hxe⟩ := byte_of hp i
    rw [hk, hxe, cutB_nat hx (by omega)]
    have : x / 2 ^ (8 - 0) = 0 := Nat.div_eq_of_lt hx
    simp [this]
theorem beN_beB {v : Nat} (hv : v < 18446744073709551616) : beN (beB (v : Int)) = (v : Int) := by
  have e0 : beAt (v : Int) 0 = ((v / 72057594037927936 % 256 : Nat) : Int) := beAt_nat v 0 (by omega)
  have e1 : beAt (v : Int) 1 = ((v / 281474976710656 % 256 : Nat) : Int) := beAt_nat v 1 (by omega)
  have e2 : beAt (v : Int) 2 = ((v / 1099511627776 % 256 : Nat) : Int) := beAt_nat v 2 (by omega)
  have e3 : beAt (v : Int) 3 = ((v / 4294967296 % 256 : Nat) : Int) := beAt_nat v 3 (by omega)
  have e4 : beAt (v : Int) 4 = ((v / 16777216 % 256 : Nat) : Int) := beAt_nat v 4 (by omega)
  have e5 : beAt (v : Int) 5 = ((v / 65536 % 256 : Nat) : Int) := beAt_nat v 5 (by omega)
  have e6 : beAt (v : Int) 6 = ((v / 256 % 256 : Nat) : Int) := beAt_nat v 6 (by omega)
  have e7 : beAt (v : Int) 7 = ((v / 1 % 256 : Nat) : Int) := beAt_nat v 7 (by omega)
  have hbb : beB (v : Int) = [beAt v 0, beAt v 1, beAt v 2, beAt v 3, beAt v 4, beAt v 5, beAt v 6, beAt v 7] := rfl
  rw [hbb, e0, e1, e2, e3, e4, e5, e6, e7]
  simp only [beN, List.foldl_cons, List.foldl_nil, Nat.div_one]
  have d5 : v / 65536 = v / 256 / 256 := by rw [Nat.div_div_eq_div_mul]
  have d4 : v / 16777216 = v / 65536 / 256 := by rw [Nat.div_div_eq_div_mul]
  have d3 : v / 4294967296 = v / 16777216 / 256 := by rw [Nat.div_div_eq_div_mul]
  have d2 : v / 1099511627776 = v / 4294967296 / 256 := by rw [Nat.div_div_eq_div_mul]
  have d1 : v / 281474976710656 = v / 1099511627776 / 256 := by rw [Nat.div_div_eq_div_mul]
  have d0 : v / 72057594037927936 = v / 281474976710656 / 256 := by rw [Nat.div_div_eq_div_mul]
  have hl : v / 72057594037927936 < 256 := by omega
  have m7 := Nat.div_add_mod v 256
  generalize v / 256 = q6 at *
  generalize v / 65536 = q5 at *
  generalize v / 16777216 = q4 at *
  generalize v / 4294967296 = q3 at *
  generalize v / 1099511627776 = q2 at *
  generalize v / 281474976710656 = q1 at *
  generalize v / 72057594037927936 = q0 at *
  clear e0 e1 e2 e3 e4 e5 e6 e7 hbb hv
  have m6 := Nat.div_add_mod q6 256
  have m5 := Nat.div_add_mod q5 256
  have m4 := Nat.div_add_mod q4 256
  have m3 := Nat.div_add_mod q3 256
  have m2 := Nat.div_add_mod q2 256
  have m1 := Nat.div_add_mod q1 256
  have m0 := Nat.mod_eq_of_lt hl
  rw [← d5] at m6
  rw [← d4] at m5
  rw [← d3] at m4
  rw [← d2] at m3
  rw [← d1] at m2
  rw [← d0] at m1
  rw [m0]
  clear d0 d1 d2 d3 d4 d5 hl m0
  generalize v % 256 = r7 at *
  generalize q6 % 256 = r6 at *
  generalize q5 % 256 = r5 at *
  generalize q4 % 256 = r4 at *
  generalize q3 % 256 = r3 at *
  generalize q2 % 256 = r2 at *
  generalize q1 % 256 = r1 at *
  subst m7 m6 m5 m4 m3 m2 m1
  omega

/-- a valid prefix of n bits that begins at the number a -/
structure Net (p : List Int) (n a : Nat) : Prop where
  ip : IsIP p
  form : p = beB a ++ z8
  lt : a < 18446744073709551616
  dvd : ln n ∣ a
theorem beB_inj {a b : Nat} (ha : a < 18446744073709551616) (hb : b < 18446744073709551616) (h : beB (a : Int) ++ z8 = beB (b : Int) ++ z8) : a = b := by
  have h1 := List.append_cancel_right h
  have h2 := beN_beB ha
  rw [h1, beN_beB hb] at h2
  omega
theorem netN_form {a : Nat} (ha : a < 18446744073709551616) : netN (beB a ++ z8) = a := by
  unfold netN net
  rw [List.take_left' (by simp [beB]), beN_beB ha]; simp
theorem Net.net {p : List Int} {n a : Nat} (h : Net p n a) : netN p = a := by rw [h.form, netN_form h.lt]
theorem cut_dvd {a k : Nat} (h : k ∣ a) : a / k * k = a := Nat.div_mul_cancel h
theorem valid_net {p : List Int} (hp : IsIP p) {n : Nat} (hn : n ≤ 64) (h : validP p n = true) : Net p n (netN p) := by
  unfold validP at h
  simp only [Bool.and_eq_true, decide_eq_true_eq, beq_iff_eq] at h
  have hm := h.2
  rw [mask64 hp hn] at hm
  have hlt := (net_nat hp).2
  have hle : netN p / ln n * ln n ≤ netN p := Nat.div_mul_le_self _ _
  have hN : netN p = netN p / ln n * ln n := by
    conv => lhs; rw [← hm]
    exact netN_form (by omega)
  exact ⟨hp, by conv => lhs; rw [← hm, ← hN], hlt, ⟨netN p / ln n, by rw [Nat.mul_comm]; exact hN⟩⟩
theorem beAt_bd {v : Nat} {i : Nat} (hi : i < 8) : 0 ≤ beAt (v : Int) i ∧ beAt (v : Int) i < 256 := by
  rw [beAt_nat _ _ hi]
  have := Nat.mod_lt (v / 256 ^ (7 - i)) (show 0 < 256 by omega)
  omega
theorem beB_ip (a : Nat) : IsIP (beB a ++ z8) := by
  refine ⟨by simp [beB, z8], fun x hx => ?_⟩
  rcases List.mem_append.1 hx with h | h
  · simp only [beB, List.mem_map, List.mem_range] at h
    obtain ⟨i, hi, rfl⟩ := h
    exact beAt_bd hi
  · simp [z8] at h
    omega
theorem net_of {n a : Nat} (ha : a < 18446744073709551616) (hd : ln n ∣ a) : Net (beB a ++ z8) n a := ⟨beB_ip a, rfl, ha, hd⟩
theorem Net.valid {p : List Int} {n a : Nat} (h : Net p n a) (hn : n ≤ 64) : validP p n = true := by
  unfold validP
  rw [mask64 h.ip hn, h.net, cut_dvd h.dvd, ← h.form]
  simp only [beq_self_eq_true, Bool.and_true, Bool.and_eq_true, decide_eq_true_eq]
  omega
theorem Net.top {p : List Int} {n a : Nat} (h : Net p n a) : a + ln n ≤ 18446744073709551616 := by
  obtain ⟨x, rfl⟩ := h.dvd
  obtain ⟨y, hy⟩ := ln_dvd64 n
  have := h.lt
  rw [hy] at this ⊢
  have hx : x < y := Nat.lt_of_mul_lt_mul_left this
  rw [← Nat.mul_succ]
  exact Nat.mul_le_mul_left _ hx
theorem covers_net {p q : List Int} {n m a b : Nat} (hp : Net p n a) (hq : Net q m b) (hn : n ≤ 64) (hm : m ≤ 64) : coversP p n q m = decide (n ≤ m ∧ a ≤ b ∧ b < a + ln n) := by
  unfold coversP containsP
  rw [hp.valid hn, hq.valid hm, mask64 hq.ip hn, hq.net, Bool.true_and, Bool.true_and, Bool.eq_iff_iff]
  simp only [Bool.and_eq_true, beq_iff_eq, decide_eq_true_eq]
  have hle : b / ln n * ln n ≤ b := Nat.div_mul_le_self _ _
  have hb := hq.lt
  have hpos := ln_pos n
  have key : beB ((b / ln n * ln n : Nat) : Int) ++ z8 = p ↔ (a ≤ b ∧ b < a + ln n) := by
    constructor
    · intro h
      rw [hp.form] at h
      have h1 := beB_inj (by omega) hp.lt h
      have h2 := Nat.div_add_mod b (ln n)
      have h3 := Nat.mod_lt b hpos
      rw [Nat.mul_comm] at h2
      omega
    · rintro ⟨h1, h2⟩
      have : b / ln n * ln n = a := by
        obtain ⟨x, rfl⟩ := hp.dvd
        have : b / ln n = x := by
          refine Nat.div_eq_of_lt_le (by rw [Nat.mul_comm]; exact h1) (by rw [Nat.mul_comm, Nat.mul_succ]; exact h2)
        rw [this, Nat.mul_comm]
      rw [this, hp.form]
  rw [key]
  omega
theorem Net.lt_mul {p q : List Int} {n m a b : Nat} (hp : Net p n a) (hq : Net q m b) (h : n ≤ m) (h1 : a < b + ln m) : a ≤ b := by
  obtain ⟨x, rfl⟩ := Nat.dvd_trans (ln_dvd h) hp.dvd
  obtain ⟨y, rfl⟩ := hq.dvd
  rw [← Nat.mul_succ] at h1
  exact Nat.mul_le_mul_left _ (Nat.le_of_lt_succ (Nat.lt_of_mul_lt_mul_left h1))
theorem overlap_net {p q : List Int} {n m a b : Nat} (hp : Net p n a) (hq : Net q m b) (hn : n ≤ 64) (hm : m ≤ 64) : overlapP p n q m = decide (a < b + ln m ∧ b < a + ln n) := by
  unfold overlapP
  rw [covers_net hp hq hn hm, covers_net hq hp hm hn, Bool.eq_iff_iff]
  simp only [Bool.or_eq_true, decide_eq_true_eq]
  have h1 := ln_pos n
  have h2 := ln_pos m
  constructor
  · rintro (h | h) <;> omega
  · rintro ⟨h3, h4⟩
    rcases Nat.le_total n m with h | h
    · exact .inl ⟨h, hp.lt_mul hq h h3, h4⟩
    · exact .inr ⟨h, hq.lt_mul hp h h4, h3⟩
theorem cmpL_app : ∀ (xs ys zs : List Int), xs.length = ys.length → cmpL (xs ++ zs) (ys ++ zs) = cmpL xs ys
  | [], [], zs, _ => by simp [cmpL_self, cmpL]
  | x :: xs, y :: ys, zs, h => by
    simp only [List.cons_append, cmpL]
    rw [cmpL_app xs ys zs (by simpa using h)]
  | [], _ :: _, _, h => by simp at h
  | _ :: _, [], _, h => by simp at h
theorem foldl_be (xs : List Int) : ∀ v : Int, xs.foldl (fun v c => 256 * v + c) v = v * ((256 ^ xs.length : Nat) : Int) + beN xs := by
  induction xs with
  | nil => intro v; simp [beN]
  | cons x xs ih =>
    intro v
    have h1 : beN (x :: xs) = x * ((256 ^ xs.length : Nat) : Int) + beN xs := by
      show List.foldl _ (256 * 0 + x) xs = _
      rw [ih]; simp
    rw [List.foldl_cons, ih, h1, List.length_cons, Nat.pow_succ, Int.natCast_mul, Int.add_mul, Int.add_assoc, Int.mul_comm ((256 ^ xs.length : Nat) : Int), ← Int.mul_assoc, Int.mul_comm v]
    rfl
theorem beN_cons (x : Int) (xs : List Int) : beN (x :: xs) = x * ((256 ^ xs.length : Nat) : Int) + beN xs := by
  show List.foldl _ (256 * 0 + x) xs = _
  rw [foldl_be]; simp
theorem cmpL_beN : ∀ (xs ys : List Int), xs.length = ys.length → (∀ x ∈ xs, 0 ≤ x ∧ x < 256) → (∀ x ∈ ys, 0 ≤ x ∧ x < 256) → (cmpL xs ys < 0 ↔ beN xs < beN ys)
  | [], [], _, _, _ => by simp [cmpL]
  | x :: xs, y :: ys, h, hx, hy => by
    have hl : xs.length = ys.length := by simpa using h
    have ih := cmpL_beN xs ys hl (fun z hz => hx z (by simp [hz])) (fun z hz => hy z (by simp [hz]))
    have b1 := beN_bd _ xs rfl (fun z hz => hx z (by simp [hz]))
    have b2 := beN_bd _ ys rfl (fun z hz => hy z (by simp [hz]))
    rw [beN_cons, beN_cons]
    rw [← hl] at b2 ⊢
    generalize ((256 ^ xs.length : Nat) : Int) = K at *
    simp only [cmpL]
    rcases Int.lt_trichotomy x y with h1 | h1 | h1
    · rw [if_pos h1]
      have : (x + 1) * K ≤ y * K := Int.mul_le_mul_of_nonneg_right (by omega) (by omega)
      rw [Int.add_mul] at this
      omega
    · subst h1
      rw [if_neg (by omega), if_neg (by omega), ih]
      omega
    · rw [if_neg (by omega), if_pos h1]
      have : (y + 1) * K ≤ x * K := Int.mul_le_mul_of_nonneg_right (by omega) (by omega)
      rw [Int.add_mul] at this
      omega
  | [], _ :: _, h, _, _ => by simp at h
  | _ :: _, [], h, _, _ => by simp at h
theorem cmp_net {p q : List Int} {n m a b : Nat} (hp : Net p n a) (hq : Net q m b) : cmpL p q < 0 ↔ a < b := by
  have e1 : ∀ x ∈ beB (a : Int), 0 ≤ x ∧ x < 256 := fun x hx => (beB_ip a).bd x (by simp [hx])
  have e2 : ∀ x ∈ beB (b : Int), 0 ≤ x ∧ x < 256 := fun x hx => (beB_ip b).bd x (by simp [hx])
  rw [hp.form, hq.form, cmpL_app _ _ _ (by simp [beB]), cmpL_beN _ _ (by simp [beB]) e1 e2, beN_beB hp.lt, beN_beB hq.lt]
  omega
end Go.Proofs.Ytainnefmobfcjaa

/-! E5 -/
/-
  border.free: the first free prefix of a pool.
-/
namespace Go.Proofs.Ytainnefmobfcjaa
set_option linter.unusedVariables false
set_option linter.unusedSimpArgs false
open Go.RowKit
attribute [local irreducible] OpTo wpListIn Code.wpIn MW Cal

theorem net_lease {p : List Int} {n : Nat} (hn : n ≤ 64) {l : Lease} (h : LeaseOk p n l) : ∃ m : Nat, l.bits = m ∧ n ≤ m ∧ m ≤ 64 ∧ Net l.ip m (netN l.ip) := by
  have hc := h.cov
  unfold coversP at hc
  simp only [Bool.and_eq_true, decide_eq_true_eq] at hc
  have hv := hc.1.1
  have h0 : 0 ≤ l.bits := by
    have := hv
    unfold validP at this
    simp only [Bool.and_eq_true, decide_eq_true_eq] at this
    omega
  obtain ⟨m, hm⟩ := Int.eq_ofNat_of_zero_le h0
  have hb := h.bits
  refine ⟨m, hm, by omega, by omega, valid_net h.ip (by omega) (by rw [← hm]; exact hv)⟩
theorem lastOf_net {p : List Int} {n a : Nat} (h : Net p n a) : lastOf p n = ((a + ln n - 1 : Nat) : Int) := by
  unfold lastOf
  rw [(net_nat h.ip).1, h.net]
  have := ln_pos n
  unfold ln at *
  omega
theorem blockN_c (p : List Int) (n a : Nat) (hp : Net p n a) (hn : n ≤ 64) (W : World) :
    Cal Try.prog 75 [.agg (pfC p n).toArray].toArray W fun x w' => x = .tuple #[.int .u64 (a : Int), .int .u64 ((a + ln n - 1 : Nat) : Int)] ∧ Ext [] W w' := by
  obtain ⟨q, hq⟩ := hp.dvd
  have ht := hp.top
  have hpos := ln_pos n
  have e : net p = (a : Int) := by rw [(net_nat hp.ip).1, hp.net]
  have := block_c p hp.ip n hn q (by rw [e, hq]; rfl) (by have h2 : 2 ^ (64 - n) * q = a := hq.symm; have h3 : ln n = 2 ^ (64 - n) := rfl; omega) W
  rw [e, lastOf_net hp] at this
  exact this

/-- the array's cells, of which the first i are made -/
def frow (a i : Nat) : List Value := (List.range 16).map fun j => .int .u8 (if j < i then beAt (a : Int) j else 0)
theorem frow_len (a i : Nat) : (frow a i).length = 16 := by simp [frow]
theorem put_frow {a i : Nat} (h : i < 8) {q : Nat} (hq : q = i) : put (frow a i) q [.int .u8 (beAt (a : Int) i)] = some (frow a (i + 1)) := by
  subst hq
  rw [put_of _ _ _ (by rw [frow_len]; simp; omega)]
  congr 1
  unfold frow splice
  apply List.ext_getElem
  · simp; omega
  · intro j h1 h2
    have hj : j < 16 := by simpa using h2
    simp only [List.length_cons, List.length_nil]
    rcases Nat.lt_trichotomy j q with hlt | heq | hgt
    · rw [List.getElem_append_left (by simp; omega)]
      simp [show j < q + 1 by omega, hlt]
    · subst heq
      rw [List.getElem_append_right (by simp; omega)]
      simp [Nat.min_eq_left (show j ≤ 16 by omega)]
    · rw [List.getElem_append_right (by simp; omega)]
      have : j - min q 16 = (j - q - 1) + 1 := by omega
      simp [this, show ¬ j < q + 1 by omega, show ¬ (q + 1 + (j - q - 1)) < q by omega]
theorem frow_all (a : Nat) : frow a 8 = ipC (beB (a : Int) ++ z8) := rfl
theorem build_pf {a : List Int} (ha : a.length = 16) (n : Int) : putAll [(0, 16), (16, 1)] [.int .u8 0, .int .u8 0, .int .u8 0, .int .u8 0, .int .u8 0, .int .u8 0, .int .u8 0, .int .u8 0, .int .u8 0, .int .u8 0, .int .u8 0, .int .u8 0, .int .u8 0, .int .u8 0, .int .u8 0, .int .u8 0, .int .i64 0] [(0, ipC a), (1, [.int .i64 n])] = some (pfC a n) := by
  obtain ⟨x0, x1, x2, x3, x4, x5, x6, x7, x8, x9, x10, x11, x12, x13, x14, x15, rfl⟩ := len16 ha
  rfl
theorem pf_one (a : List Int) (n : Int) : (pfC a n).all (·.oneCell') = true := by simp [pfC, ipC, Value.oneCell']

def Taken (ls : List Lease) (bits c : Nat) : Prop := ∃ l ∈ ls, overlapP l.ip l.bits (beB (c : Int) ++ z8) bits = true
structure FreeAt (p : List Int) (n : Nat) (ls : List Lease) (bits a : Nat) : Prop where
  lt : a < 18446744073709551616
  dvd : ln bits ∣ a
  lo : netN p ≤ a
  hi : a + ln bits ≤ netN p + ln n
  free : ∀ l ∈ ls, overlapP l.ip l.bits (beB (a : Int) ++ z8) bits = false
  least : ∀ c, ln bits ∣ c → netN p ≤ c → c < a → Taken ls bits c
/-- one step on: the candidate at a meets a lease that begins at b -/
theorem free_step {p : List Int} {n bits a : Nat} {ls : List Lease} (hp : Net p n (netN p)) (hnb : n ≤ bits) (hb : bits ≤ 64) (ha : Net (beB (a : Int) ++ z8) bits a) (hlo : netN p ≤ a) (hhi : a + ln bits ≤ netN p + ln n)
    (hle : ∀ c, ln bits ∣ c → netN p ≤ c → c < a → Taken ls bits c) {l : Lease} {m : Nat} (hl : l ∈ ls) (hm : l.bits = m) (hm64 : m ≤ 64) (hN : Net l.ip m (netN l.ip)) (ho : overlapP l.ip l.bits (beB (a : Int) ++ z8) bits = true) {last : Nat} (hlast : last = max (a + ln bits - 1) (netN l.ip + ln m - 1)) :
    (∀ c, ln bits ∣ c → netN p ≤ c → c < last + 1 → c + ln bits ≤ netN p + ln n → Taken ls bits c) ∧ (last < netN p + ln n - 1 → ln bits ∣ last + 1 ∧ netN p ≤ last + 1 ∧ last + 1 + ln bits ≤ netN p + ln n ∧ last + 1 < 18446744073709551616) := by
  have p1 := ln_pos bits
  have p2 := ln_pos m
  have p3 := ln_pos n
  have htop := hp.top
  rw [hm, overlap_net hN ha hm64 hb] at ho
  have ho := of_decide_eq_true ho
  generalize hB : netN l.ip = b at *
  -- if the lease reaches farther, it covers the candidate
  have hcov : a + ln bits < b + ln m → m ≤ bits ∧ b ≤ a := by
    intro h
    rcases Nat.lt_or_ge bits m with h1 | h1
    · have h2 := ha.lt_mul hN (Nat.le_of_lt h1) (by omega)
      obtain ⟨x, hx⟩ := ha.dvd
      obtain ⟨y, hy⟩ := Nat.dvd_trans (ln_dvd (Nat.le_of_lt h1)) (Nat.dvd_refl (ln bits))
      obtain ⟨z, hz⟩ := hN.dvd
      -- both ends are multiples of the lease's length
      have e1 : ln m * z + ln m = ln m * (z + 1) := by rw [Nat.mul_succ]
      have e2 : a + ln bits = ln m * (y * x + y) := by rw [hx, hy, Nat.mul_add, Nat.mul_assoc]
      have h3 : b < a + ln bits := by omega
      rw [e2, hz] at h3
      have h4 : z + 1 ≤ y * x + y := Nat.lt_of_mul_lt_mul_left h3
      have h5 : ln m * (z + 1) ≤ ln m * (y * x + y) := Nat.mul_le_mul_left _ h4
      omega
    · exact ⟨h1, hN.lt_mul ha h1 (by omega)⟩
  have hdv : ln bits ∣ last + 1 := by
    rcases Nat.lt_or_ge (a + ln bits) (b + ln m) with h | h
    · have h1 := hcov h
      have : last + 1 = b + ln m := by omega
      rw [this]
      exact Nat.dvd_add (Nat.dvd_trans (ln_dvd h1.1) hN.dvd) (ln_dvd h1.1)
    · have : last + 1 = a + ln bits := by omega
      rw [this]
      exact Nat.dvd_add ha.dvd (Nat.dvd_refl _)
  refine ⟨fun c hc1 hc2 hc3 hc4 => ?_, fun h => ⟨hdv, by omega, ?_, by omega⟩⟩
  · rcases Nat.lt_or_ge c a with h | h
    · exact hle c hc1 hc2 h
    · refine ⟨l, hl, ?_⟩
      have hc : Net (beB (c : Int) ++ z8) bits c := net_of (by omega) hc1
      rw [hm, overlap_net hN hc hm64 hb, decide_eq_true_eq]
      rcases Nat.lt_or_ge (a + ln bits) (b + ln m) with h1 | h1
      · have := hcov h1
        omega
      · have hca : c = a := by
          obtain ⟨x, hx⟩ := ha.dvd
          obtain ⟨y, hy⟩ := hc1
          have e1 : ln bits * x + ln bits = ln bits * (x + 1) := by rw [Nat.mul_succ]
          have h2 : ln bits * y < ln bits * (x + 1) := by omega
          have h3 := Nat.lt_of_mul_lt_mul_left h2
          have h4 : ln bits * x ≤ ln bits * y := by omega
          have h5 := Nat.le_of_mul_le_mul_left h4 p1
          have : x = y := by omega
          rw [hx, hy, this]
        omega
  · have hd2 : ln bits ∣ netN p + ln n := Nat.dvd_add (Nat.dvd_trans (ln_dvd hnb) hp.dvd) (ln_dvd hnb)
    obtain ⟨x, hx⟩ := hdv
    obtain ⟨y, hy⟩ := hd2
    have h2 : ln bits * x < ln bits * y := by omega
    have h3 := Nat.lt_of_mul_lt_mul_left h2
    have h4 : ln bits * (x + 1) ≤ ln bits * y := Nat.mul_le_mul_left _ h3
    rw [Nat.mul_succ] at h4
    omega
end Go.Proofs.Ytainnefmobfcjaa

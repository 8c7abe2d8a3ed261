/-
  PROVED: for every input RoutesBest answers true, and each argument reads afterwards as it read before.
-/
import Derived.Test.YtilgoepokaaleaaGreatBest6
/-! ZN -/
namespace Go.Proofs.YtilgoepokaaleaaGreat
set_option linter.unusedVariables false
set_option linter.unusedSimpArgs false
open Go.RowKit
attribute [local irreducible] OpTo wpListIn Code.wpIn MW Cal
set_option maxHeartbeats 1000000 in
theorem reforder_c (x y : RouV) (ha : IsRo x) (hb : IsRo y) (W : World) : Cal Tryz.prog 93 [.agg (roC x).toArray, .agg (roC y).toArray].toArray W fun v w' => v = .int .i64 (cmpR x y) ∧ Ext [] W w' := by
  have a1 := ro_to ha
  have a2 := ro_nb ha
  have c1 := ro_to hb
  have c2 := ro_nb hb
  rw [cmpR_or ha.1 hb.1]
  unfold orI cmpI
  refine fn_ofM (n := 24) [] Tryz.func93 rfl rfl rfl ?_
  intro a w F M hwW
  refine c_seq ?_
  refine c_region ?_
  (refine stepD rfl F rfl (o_box M (F.ev rfl) rfl ?_); clear F; clear M; intro b2 w M a F)
  (refine stepD rfl F rfl (o_box M (F.ev rfl) rfl ?_); clear F; clear M; intro b3 w M a F)
  refine stepD rfl F rfl (o_assign (F.ev rfl) ?_); clear F; clear a; intro a F
  with_reducible refine l_nil ?_
  with_reducible refine q_then ?_
  with_reducible refine c_seq ?_
  with_reducible refine c_seq ?_
  with_reducible refine c_region ?_
  refine stepD rfl F rfl (o_fieldAddr (F.ev rfl) ?_); clear F; clear a; intro a F
  refine stepD rfl F rfl (o_loadA M (F.ev rfl) (by repeat (first | exact .here | apply Has.there)) (by first | assumption | rfl) ?_); clear F; clear a; intro a F
  refine stepD rfl F rfl (o_fieldAddr (F.ev rfl) ?_); clear F; clear a; intro a F
  refine stepD rfl F rfl (o_loadA M (F.ev rfl) (by repeat (first | exact .here | apply Has.there)) (by first | assumption | rfl) ?_); clear F; clear a; intro a F
  (refine stepD rfl F rfl (o_call (F.ev rfl) (F.evs rfl) (Cal.mono (rcompare_c x.to y.to ha.1 hb.1 _) ?_)); clear F; clear a; rintro _ w ⟨rfl, hE⟩ a F; replace M := M.later hE; clear hE)
  by_cases k : cmpD x.to y.to = 0
  · rw [if_pos k]
    by_cases k2 : x.nb < y.nb
    · rw [if_pos k2]
      refine stepD rfl F rfl (o_assign (F.ev rfl) ?_); clear F; clear a; intro a F
      with_reducible refine l_nil ?_
      with_reducible refine q_then ?_
      with_reducible refine c_seq ?_
      with_reducible refine c_region ?_
      refine stepD rfl F rfl (o_move (F.ev rfl) ?_); clear F; clear a; intro a F
      refine stepD rfl F rfl (o_neqF (F.ev rfl) (F.ev rfl) (by omega) ?_); clear F; clear a; intro a F
      with_reducible refine l_nil ?_
      with_reducible refine q_then ?_
      refine c_false F rfl rfl ?_
      with_reducible refine c_skip ?_
      with_reducible refine q_then ?_
      with_reducible refine c_seq ?_
      with_reducible refine c_seq ?_
      with_reducible refine c_region ?_
      refine stepD rfl F rfl (o_fieldAddr (F.ev rfl) ?_); clear F; clear a; intro a F
      refine stepD rfl F rfl (o_load1 M (F.ev rfl) (by repeat (first | exact .here | apply Has.there)) (by first | assumption | rfl) ?_); clear F; clear a; intro a F
      refine stepD rfl F rfl (o_fieldAddr (F.ev rfl) ?_); clear F; clear a; intro a F
      refine stepD rfl F rfl (o_load1 M (F.ev rfl) (by repeat (first | exact .here | apply Has.there)) (by first | assumption | rfl) ?_); clear F; clear a; intro a F
      refine stepD rfl F rfl (o_lssT (F.ev rfl) (F.ev rfl) (by omega) ?_); clear F; clear a; intro a F
      with_reducible refine l_nil ?_
      with_reducible refine q_then ?_
      refine c_true F rfl rfl ?_
      with_reducible refine c_seq ?_
      with_reducible refine c_region ?_
      refine stepD rfl F rfl (o_assign (F.ev rfl) ?_); clear F; clear a; intro a F
      with_reducible refine l_nil ?_
      with_reducible refine q_then ?_
      with_reducible refine c_ret ?_
      with_reducible refine q_thenR ?_
      refine p_ret F rfl (.cons (.tmp (F.ev rfl)) .nil) ?_
      exact ⟨rfl, M.ext⟩
    · rw [if_neg k2]
      by_cases k3 : y.nb < x.nb
      · rw [if_pos k3]
        refine stepD rfl F rfl (o_assign (F.ev rfl) ?_); clear F; clear a; intro a F
        with_reducible refine l_nil ?_
        with_reducible refine q_then ?_
        with_reducible refine c_seq ?_
        with_reducible refine c_region ?_
        refine stepD rfl F rfl (o_move (F.ev rfl) ?_); clear F; clear a; intro a F
        refine stepD rfl F rfl (o_neqF (F.ev rfl) (F.ev rfl) (by omega) ?_); clear F; clear a; intro a F
        with_reducible refine l_nil ?_
        with_reducible refine q_then ?_
        refine c_false F rfl rfl ?_
        with_reducible refine c_skip ?_
        with_reducible refine q_then ?_
        with_reducible refine c_seq ?_
        with_reducible refine c_seq ?_
        with_reducible refine c_region ?_
        refine stepD rfl F rfl (o_fieldAddr (F.ev rfl) ?_); clear F; clear a; intro a F
        refine stepD rfl F rfl (o_load1 M (F.ev rfl) (by repeat (first | exact .here | apply Has.there)) (by first | assumption | rfl) ?_); clear F; clear a; intro a F
        refine stepD rfl F rfl (o_fieldAddr (F.ev rfl) ?_); clear F; clear a; intro a F
        refine stepD rfl F rfl (o_load1 M (F.ev rfl) (by repeat (first | exact .here | apply Has.there)) (by first | assumption | rfl) ?_); clear F; clear a; intro a F
        refine stepD rfl F rfl (o_lssF (F.ev rfl) (F.ev rfl) (by omega) ?_); clear F; clear a; intro a F
        with_reducible refine l_nil ?_
        with_reducible refine q_then ?_
        refine c_false F rfl rfl ?_
        with_reducible refine c_skip ?_
        with_reducible refine q_then ?_
        with_reducible refine c_seq ?_
        with_reducible refine c_seq ?_
        with_reducible refine c_region ?_
        refine stepD rfl F rfl (o_fieldAddr (F.ev rfl) ?_); clear F; clear a; intro a F
        refine stepD rfl F rfl (o_load1 M (F.ev rfl) (by repeat (first | exact .here | apply Has.there)) (by first | assumption | rfl) ?_); clear F; clear a; intro a F
        refine stepD rfl F rfl (o_fieldAddr (F.ev rfl) ?_); clear F; clear a; intro a F
        refine stepD rfl F rfl (o_load1 M (F.ev rfl) (by repeat (first | exact .here | apply Has.there)) (by first | assumption | rfl) ?_); clear F; clear a; intro a F
        refine stepD rfl F rfl (o_gtrT (F.ev rfl) (F.ev rfl) (by omega) ?_); clear F; clear a; intro a F
        with_reducible refine l_nil ?_
        with_reducible refine q_then ?_
        refine c_true F rfl rfl ?_
        with_reducible refine c_seq ?_
        with_reducible refine c_region ?_
        refine stepD rfl F rfl (o_assign (F.ev rfl) ?_); clear F; clear a; intro a F
        with_reducible refine l_nil ?_
        with_reducible refine q_then ?_
        with_reducible refine c_ret ?_
        with_reducible refine q_thenR ?_
        refine p_ret F rfl (.cons (.tmp (F.ev rfl)) .nil) ?_
        exact ⟨rfl, M.ext⟩
      · rw [if_neg k3]
        refine stepD rfl F rfl (o_assign (F.ev rfl) ?_); clear F; clear a; intro a F
        with_reducible refine l_nil ?_
        with_reducible refine q_then ?_
        with_reducible refine c_seq ?_
        with_reducible refine c_region ?_
        refine stepD rfl F rfl (o_move (F.ev rfl) ?_); clear F; clear a; intro a F
        refine stepD rfl F rfl (o_neqF (F.ev rfl) (F.ev rfl) (by omega) ?_); clear F; clear a; intro a F
        with_reducible refine l_nil ?_
        with_reducible refine q_then ?_
        refine c_false F rfl rfl ?_
        with_reducible refine c_skip ?_
        with_reducible refine q_then ?_
        with_reducible refine c_seq ?_
        with_reducible refine c_seq ?_
        with_reducible refine c_region ?_
        refine stepD rfl F rfl (o_fieldAddr (F.ev rfl) ?_); clear F; clear a; intro a F
        refine stepD rfl F rfl (o_load1 M (F.ev rfl) (by repeat (first | exact .here | apply Has.there)) (by first | assumption | rfl) ?_); clear F; clear a; intro a F
        refine stepD rfl F rfl (o_fieldAddr (F.ev rfl) ?_); clear F; clear a; intro a F
        refine stepD rfl F rfl (o_load1 M (F.ev rfl) (by repeat (first | exact .here | apply Has.there)) (by first | assumption | rfl) ?_); clear F; clear a; intro a F
        refine stepD rfl F rfl (o_lssF (F.ev rfl) (F.ev rfl) (by omega) ?_); clear F; clear a; intro a F
        with_reducible refine l_nil ?_
        with_reducible refine q_then ?_
        refine c_false F rfl rfl ?_
        with_reducible refine c_skip ?_
        with_reducible refine q_then ?_
        with_reducible refine c_seq ?_
        with_reducible refine c_seq ?_
        with_reducible refine c_region ?_
        refine stepD rfl F rfl (o_fieldAddr (F.ev rfl) ?_); clear F; clear a; intro a F
        refine stepD rfl F rfl (o_load1 M (F.ev rfl) (by repeat (first | exact .here | apply Has.there)) (by first | assumption | rfl) ?_); clear F; clear a; intro a F
        refine stepD rfl F rfl (o_fieldAddr (F.ev rfl) ?_); clear F; clear a; intro a F
        refine stepD rfl F rfl (o_load1 M (F.ev rfl) (by repeat (first | exact .here | apply Has.there)) (by first | assumption | rfl) ?_); clear F; clear a; intro a F
        refine stepD rfl F rfl (o_gtrF (F.ev rfl) (F.ev rfl) (by omega) ?_); clear F; clear a; intro a F
        with_reducible refine l_nil ?_
        with_reducible refine q_then ?_
        refine c_false F rfl rfl ?_
        with_reducible refine c_skip ?_
        with_reducible refine q_then ?_
        with_reducible refine c_seq ?_
        with_reducible refine c_region ?_
        refine stepD rfl F rfl (o_assign (F.ev rfl) ?_); clear F; clear a; intro a F
        with_reducible refine l_nil ?_
        with_reducible refine q_then ?_
        with_reducible refine c_ret ?_
        refine p_ret F rfl (.cons (.tmp (F.ev rfl)) .nil) ?_
        exact ⟨rfl, M.ext⟩
  · rw [if_neg k]
    refine stepD rfl F rfl (o_assign (F.ev rfl) ?_); clear F; clear a; intro a F
    with_reducible refine l_nil ?_
    with_reducible refine q_then ?_
    with_reducible refine c_seq ?_
    with_reducible refine c_region ?_
    refine stepD rfl F rfl (o_move (F.ev rfl) ?_); clear F; clear a; intro a F
    refine stepD rfl F rfl (o_neqT (F.ev rfl) (F.ev rfl) (by omega) ?_); clear F; clear a; intro a F
    with_reducible refine l_nil ?_
    with_reducible refine q_then ?_
    refine c_true F rfl rfl ?_
    with_reducible refine c_seq ?_
    with_reducible refine c_region ?_
    refine stepD rfl F rfl (o_move (F.ev rfl) ?_); clear F; clear a; intro a F
    refine stepD rfl F rfl (o_assign (F.ev rfl) ?_); clear F; clear a; intro a F
    with_reducible refine l_nil ?_
    with_reducible refine q_then ?_
    with_reducible refine c_ret ?_
    with_reducible refine q_thenR ?_
    refine p_ret F rfl (.cons (.tmp (F.ev rfl)) .nil) ?_
    exact ⟨rfl, M.ext⟩
set_option maxHeartbeats 4000000 in
theorem refvalidR_c (l : List RouV) (hx : ∀ x ∈ l, IsRo x) (v : Value) (W : World) (hS : SlAt W 39 v l.length (rosC l)) :
    Cal Tryz.prog 89 [v].toArray W fun r w' => r = .bool (validRs l) ∧ Ext [] W w' := by
  obtain ⟨q, cap, rfl, hcap, hsp, hl, hm⟩ := hS
  unfold validRs vldL
  by_cases c0 : 512 < l.length
  · rw [decide_eq_false (by omega), Bool.false_and]
    refine fn_ofM (n := 70) [] Tryz.func89 rfl rfl rfl ?_
    intro a w F M hwW
    with_reducible refine c_seq ?_
    with_reducible refine c_region ?_
    refine stepD rfl F rfl (o_assign (F.ev rfl) ?_); clear F; clear a; intro a F
    with_reducible refine l_nil ?_
    with_reducible refine q_then ?_
    with_reducible refine c_seq ?_
    with_reducible refine c_seq ?_
    with_reducible refine c_region ?_
    refine stepD rfl F rfl (o_move (F.ev rfl) ?_); clear F; clear a; intro a F
    refine stepD rfl F rfl (o_lenSl (F.ev rfl) ?_); clear F; clear a; intro a F
    refine stepD rfl F rfl (o_gtrT (F.ev rfl) (F.ev rfl) (by omega) ?_); clear F; clear a; intro a F
    with_reducible refine l_nil ?_
    with_reducible refine q_then ?_
    refine c_true F rfl rfl ?_
    with_reducible refine c_seq ?_
    with_reducible refine c_region ?_
    refine stepD rfl F rfl (o_assign (F.ev rfl) ?_); clear F; clear a; intro a F
    with_reducible refine l_nil ?_
    with_reducible refine q_then ?_
    with_reducible refine c_ret ?_
    with_reducible refine q_thenR ?_
    refine p_ret F rfl (.cons (.tmp (F.ev rfl)) .nil) ?_
    exact ⟨rfl, M.ext⟩
  rw [decide_eq_true (show l.length ≤ 512 by omega), Bool.true_and]
  refine fn_ofM (n := 70) [] Tryz.func89 rfl rfl rfl ?_
  intro a w F M hwW
  with_reducible refine c_seq ?_
  with_reducible refine c_region ?_
  refine stepD rfl F rfl (o_assign (F.ev rfl) ?_); clear F; clear a; intro a F
  with_reducible refine l_nil ?_
  with_reducible refine q_then ?_
  with_reducible refine c_seq ?_
  with_reducible refine c_seq ?_
  with_reducible refine c_region ?_
  refine stepD rfl F rfl (o_move (F.ev rfl) ?_); clear F; clear a; intro a F
  refine stepD rfl F rfl (o_lenSl (F.ev rfl) ?_); clear F; clear a; intro a F
  refine stepD rfl F rfl (o_gtrF (F.ev rfl) (F.ev rfl) (by omega) ?_); clear F; clear a; intro a F
  with_reducible refine l_nil ?_
  with_reducible refine q_then ?_
  refine c_false F rfl rfl ?_
  with_reducible refine c_skip ?_
  with_reducible refine q_then ?_
  with_reducible refine c_seq ?_
  with_reducible refine c_seq ?_
  with_reducible refine c_region ?_
  refine stepD rfl F rfl (o_move (F.ev rfl) ?_); clear F; clear a; intro a F
  refine stepD rfl F rfl (o_lenSl (F.ev rfl) ?_); clear F; clear a; intro a F
  refine stepD rfl F rfl (o_move (F.ev rfl) ?_); clear F; clear a; intro a F
  with_reducible refine l_nil ?_
  with_reducible refine q_then ?_
  with_reducible refine c_block ?_
  refine c_loop (fun m a w => ∃ i : Nat, m = l.length - i ∧ i ≤ l.length ∧ (∀ j, j < i → vld1 rou1 cmpR l j = true) ∧ Frm a 70 [] [(9, .int .i64 i), (8, .int .i64 l.length), (0, .slice q l.length cap)] ∧ Mem [] W w []) l.length ⟨0, rfl, by omega, by omega, F.only [9, 8, 0] rfl, M⟩ ?_
  clear F M
  rintro m a w ⟨i, hm', hi, hv, F, M⟩
  by_cases hlt : i < l.length
  · obtain ⟨b, o, cs, t, fz, rfl, hb, hs⟩ := hm (by omega)
    have hxv := hx _ (List.getElem_mem hlt)
    have hv0 := vld1_0 (e1 := rou1) (cm := cmpR) hlt
    have hvs := vld1_s (e1 := rou1) (cm := cmpR) hlt
    have hvf := vld1_f (e1 := rou1) (cm := cmpR) hlt
    have f1 : seg cs (o + (i : Int).toNat * 39) 39 = some (roC l[i]) := seg_el (ros_len hx) hs hlt (by omega)
    obtain ⟨x, hx0⟩ : ∃ x, x = l[i] := ⟨_, rfl⟩
    rw [← hx0] at hxv hv0 hvs hvf f1
    have g0 : seg cs (o + (i : Int).toNat * 39) 35 = some (dvC x.to) := sg_seg f1 (ro_to hxv) (by omega)
    have g1 : nth cs (o + (i : Int).toNat * 39 + 35) = some (.int .u64 x.nb) := sg_nth f1 (ro_nb hxv) (by omega)
    have g2 : seg cs (o + (i : Int).toNat * 39 + 36) 2 = some (diC x.said) := sg_seg f1 (ro_said hxv) (by omega)
    have g3 : nth cs (o + (i : Int).toNat * 39 + 36 + 1) = some (.int .i64 x.said.met) := sg_nth f1 (ro_said_met hxv) (by omega)
    have g4 : nth cs (o + (i : Int).toNat * 39 + 38) = some (.int .i64 x.til) := sg_nth f1 (ro_til hxv) (by omega)
    with_reducible refine c_seq ?_
    with_reducible refine c_region ?_
    refine stepD rfl F rfl (o_lssT (F.ev rfl) (F.ev rfl) (by omega) ?_); clear F; clear a; intro a F
    with_reducible refine l_nil ?_
    with_reducible refine q_then ?_
    with_reducible refine c_seq ?_
    refine c_true F rfl rfl ?_
    with_reducible refine c_skip ?_
    with_reducible refine q_then ?_
    with_reducible refine c_seq ?_
    with_reducible refine c_block ?_
    with_reducible refine c_seq ?_
    with_reducible refine c_region ?_
    refine stepD rfl F rfl (o_move (F.ev rfl) ?_); clear F; clear a; intro a F
    refine stepD rfl F rfl (o_assign (F.ev rfl) ?_); clear F; clear a; intro a F
    with_reducible refine l_nil ?_
    with_reducible refine q_then ?_
    with_reducible refine c_seq ?_
    with_reducible refine c_seq ?_
    with_reducible refine c_region ?_
    refine stepD rfl F rfl (o_move (F.ev rfl) ?_); clear F; clear a; intro a F
    refine stepD rfl F rfl (o_move (F.ev rfl) ?_); clear F; clear a; intro a F
    refine stepD rfl F rfl (o_indexSl (F.ev rfl) (F.ev rfl) (by omega) (by omega) ?_); clear F; clear a; intro a F
    refine stepD rfl F rfl (o_fieldAddr (F.ev rfl) ?_); clear F; clear a; intro a F
    refine stepD rfl F rfl (o_loadWA M (F.ev rfl) (by assumption) (by first | assumption | rfl) ?_); clear F; clear a; intro a F
    (refine stepD rfl F rfl (o_call (F.ev rfl) (F.evs rfl) (Cal.mono (rvalidTo_c x.to hxv.1 _) ?_)); clear F; clear a; rintro _ w ⟨rfl, hE⟩ a F; replace M := M.later hE; clear hE)
    cases c0 : validT x.to
    · rw [rng_f hlt (hvf (by unfold rou1 finD inf; rw [c0]; simp))]
      rw [c0] at F
      refine stepD rfl F rfl (o_not (F.ev rfl) ?_); clear F; clear a; intro a F
      refine stepD rfl F rfl (o_move (F.ev rfl) ?_); clear F; clear a; intro a F
      refine stepOff F rfl rfl rfl rfl ?_; clear F; clear a; intro a F
      refine stepOff F rfl rfl rfl rfl ?_; clear F; clear a; intro a F
      refine stepOff F rfl rfl rfl rfl ?_; clear F; clear a; intro a F
      refine stepOff F rfl rfl rfl rfl ?_; clear F; clear a; intro a F
      refine stepOff F rfl rfl rfl rfl ?_; clear F; clear a; intro a F
      refine stepOff F rfl rfl rfl rfl ?_; clear F; clear a; intro a F
      refine stepD rfl F rfl (o_pickT (F.ev rfl) (F.ev rfl) ?_); clear F; clear a; intro a F
      refine stepD rfl F rfl (o_move (F.ev rfl) ?_); clear F; clear a; intro a F
      refine stepOff F rfl rfl rfl rfl ?_; clear F; clear a; intro a F
      refine stepOff F rfl rfl rfl rfl ?_; clear F; clear a; intro a F
      refine stepOff F rfl rfl rfl rfl ?_; clear F; clear a; intro a F
      refine stepOff F rfl rfl rfl rfl ?_; clear F; clear a; intro a F
      refine stepOff F rfl rfl rfl rfl ?_; clear F; clear a; intro a F
      refine stepOff F rfl rfl rfl rfl ?_; clear F; clear a; intro a F
      refine stepOff F rfl rfl rfl rfl ?_; clear F; clear a; intro a F
      refine stepD rfl F rfl (o_pickT (F.ev rfl) (F.ev rfl) ?_); clear F; clear a; intro a F
      refine stepD rfl F rfl (o_move (F.ev rfl) ?_); clear F; clear a; intro a F
      refine stepOff F rfl rfl rfl rfl ?_; clear F; clear a; intro a F
      refine stepOff F rfl rfl rfl rfl ?_; clear F; clear a; intro a F
      refine stepOff F rfl rfl rfl rfl ?_; clear F; clear a; intro a F
      refine stepOff F rfl rfl rfl rfl ?_; clear F; clear a; intro a F
      refine stepOff F rfl rfl rfl rfl ?_; clear F; clear a; intro a F
      refine stepOff F rfl rfl rfl rfl ?_; clear F; clear a; intro a F
      refine stepOff F rfl rfl rfl rfl ?_; clear F; clear a; intro a F
      refine stepD rfl F rfl (o_pickT (F.ev rfl) (F.ev rfl) ?_); clear F; clear a; intro a F
      refine stepD rfl F rfl (o_move (F.ev rfl) ?_); clear F; clear a; intro a F
      refine stepOff F rfl rfl rfl rfl ?_; clear F; clear a; intro a F
      refine stepOff F rfl rfl rfl rfl ?_; clear F; clear a; intro a F
      refine stepOff F rfl rfl rfl rfl ?_; clear F; clear a; intro a F
      refine stepOff F rfl rfl rfl rfl ?_; clear F; clear a; intro a F
      refine stepOff F rfl rfl rfl rfl ?_; clear F; clear a; intro a F
      refine stepOff F rfl rfl rfl rfl ?_; clear F; clear a; intro a F
      refine stepOff F rfl rfl rfl rfl ?_; clear F; clear a; intro a F
      refine stepD rfl F rfl (o_pickT (F.ev rfl) (F.ev rfl) ?_); clear F; clear a; intro a F
      with_reducible refine l_nil ?_
      with_reducible refine q_then ?_
      refine c_true F rfl rfl ?_
      with_reducible refine c_seq ?_
      with_reducible refine c_region ?_
      refine stepD rfl F rfl (o_assign (F.ev rfl) ?_); clear F; clear a; intro a F
      with_reducible refine l_nil ?_
      with_reducible refine q_then ?_
      with_reducible refine c_ret ?_
      with_reducible refine q_thenR ?_
      with_reducible refine q_inBR ?_
      with_reducible refine q_thenR ?_
      with_reducible refine q_thenR ?_
      with_reducible refine q_inBR ?_
      with_reducible refine q_thenR ?_
      refine p_ret F rfl (.cons (.tmp (F.ev rfl)) .nil) ?_
      exact ⟨rfl, M.ext⟩
    rw [c0] at F
    by_cases c1 : x.nb = 0
    · rw [rng_f hlt (hvf (by unfold rou1 finD inf; rw [c0, decide_eq_true c1]; simp))]
      refine stepD rfl F rfl (o_not (F.ev rfl) ?_); clear F; clear a; intro a F
      refine stepD rfl F rfl (o_move (F.ev rfl) ?_); clear F; clear a; intro a F
      refine stepG rfl F rfl rfl rfl (o_move (F.ev rfl) ?_); clear F; clear a; intro a F
      refine stepG rfl F rfl rfl rfl (o_move (F.ev rfl) ?_); clear F; clear a; intro a F
      refine stepG rfl F rfl rfl rfl (o_indexSl (F.ev rfl) (F.ev rfl) (by omega) (by omega) ?_); clear F; clear a; intro a F
      refine stepG rfl F rfl rfl rfl (o_fieldAddr (F.ev rfl) ?_); clear F; clear a; intro a F
      refine stepG rfl F rfl rfl rfl (o_loadW1 M (F.ev rfl) (by assumption) (by first | assumption | rfl) ?_); clear F; clear a; intro a F
      refine stepG rfl F rfl rfl rfl (o_eqlT (F.ev rfl) (F.ev rfl) (by omega) ?_); clear F; clear a; intro a F
      refine stepD rfl F rfl (o_pickF (F.ev rfl) (F.ev rfl) ?_); clear F; clear a; intro a F
      refine stepD rfl F rfl (o_move (F.ev rfl) ?_); clear F; clear a; intro a F
      refine stepOff F rfl rfl rfl rfl ?_; clear F; clear a; intro a F
      refine stepOff F rfl rfl rfl rfl ?_; clear F; clear a; intro a F
      refine stepOff F rfl rfl rfl rfl ?_; clear F; clear a; intro a F
      refine stepOff F rfl rfl rfl rfl ?_; clear F; clear a; intro a F
      refine stepOff F rfl rfl rfl rfl ?_; clear F; clear a; intro a F
      refine stepOff F rfl rfl rfl rfl ?_; clear F; clear a; intro a F
      refine stepOff F rfl rfl rfl rfl ?_; clear F; clear a; intro a F
      refine stepD rfl F rfl (o_pickT (F.ev rfl) (F.ev rfl) ?_); clear F; clear a; intro a F
      refine stepD rfl F rfl (o_move (F.ev rfl) ?_); clear F; clear a; intro a F
      refine stepOff F rfl rfl rfl rfl ?_; clear F; clear a; intro a F
      refine stepOff F rfl rfl rfl rfl ?_; clear F; clear a; intro a F
      refine stepOff F rfl rfl rfl rfl ?_; clear F; clear a; intro a F
      refine stepOff F rfl rfl rfl rfl ?_; clear F; clear a; intro a F
      refine stepOff F rfl rfl rfl rfl ?_; clear F; clear a; intro a F
      refine stepOff F rfl rfl rfl rfl ?_; clear F; clear a; intro a F
      refine stepOff F rfl rfl rfl rfl ?_; clear F; clear a; intro a F
      refine stepD rfl F rfl (o_pickT (F.ev rfl) (F.ev rfl) ?_); clear F; clear a; intro a F
      refine stepD rfl F rfl (o_move (F.ev rfl) ?_); clear F; clear a; intro a F
      refine stepOff F rfl rfl rfl rfl ?_; clear F; clear a; intro a F
      refine stepOff F rfl rfl rfl rfl ?_; clear F; clear a; intro a F
      refine stepOff F rfl rfl rfl rfl ?_; clear F; clear a; intro a F
      refine stepOff F rfl rfl rfl rfl ?_; clear F; clear a; intro a F
      refine stepOff F rfl rfl rfl rfl ?_; clear F; clear a; intro a F
      refine stepOff F rfl rfl rfl rfl ?_; clear F; clear a; intro a F
      refine stepOff F rfl rfl rfl rfl ?_; clear F; clear a; intro a F
      refine stepD rfl F rfl (o_pickT (F.ev rfl) (F.ev rfl) ?_); clear F; clear a; intro a F
      with_reducible refine l_nil ?_
      with_reducible refine q_then ?_
      refine c_true F rfl rfl ?_
      with_reducible refine c_seq ?_
      with_reducible refine c_region ?_
      refine stepD rfl F rfl (o_assign (F.ev rfl) ?_); clear F; clear a; intro a F
      with_reducible refine l_nil ?_
      with_reducible refine q_then ?_
      with_reducible refine c_ret ?_
      with_reducible refine q_thenR ?_
      with_reducible refine q_inBR ?_
      with_reducible refine q_thenR ?_
      with_reducible refine q_thenR ?_
      with_reducible refine q_inBR ?_
      with_reducible refine q_thenR ?_
      refine p_ret F rfl (.cons (.tmp (F.ev rfl)) .nil) ?_
      exact ⟨rfl, M.ext⟩
    refine stepD rfl F rfl (o_not (F.ev rfl) ?_); clear F; clear a; intro a F
    refine stepD rfl F rfl (o_move (F.ev rfl) ?_); clear F; clear a; intro a F
    refine stepG rfl F rfl rfl rfl (o_move (F.ev rfl) ?_); clear F; clear a; intro a F
    refine stepG rfl F rfl rfl rfl (o_move (F.ev rfl) ?_); clear F; clear a; intro a F
    refine stepG rfl F rfl rfl rfl (o_indexSl (F.ev rfl) (F.ev rfl) (by omega) (by omega) ?_); clear F; clear a; intro a F
    refine stepG rfl F rfl rfl rfl (o_fieldAddr (F.ev rfl) ?_); clear F; clear a; intro a F
    refine stepG rfl F rfl rfl rfl (o_loadW1 M (F.ev rfl) (by assumption) (by first | assumption | rfl) ?_); clear F; clear a; intro a F
    refine stepG rfl F rfl rfl rfl (o_eqlF (F.ev rfl) (F.ev rfl) (by omega) ?_); clear F; clear a; intro a F
    refine stepD rfl F rfl (o_pickF (F.ev rfl) (F.ev rfl) ?_); clear F; clear a; intro a F
    refine stepD rfl F rfl (o_move (F.ev rfl) ?_); clear F; clear a; intro a F
    refine stepG rfl F rfl rfl rfl (o_move (F.ev rfl) ?_); clear F; clear a; intro a F
    refine stepG rfl F rfl rfl rfl (o_move (F.ev rfl) ?_); clear F; clear a; intro a F
    refine stepG rfl F rfl rfl rfl (o_indexSl (F.ev rfl) (F.ev rfl) (by omega) (by omega) ?_); clear F; clear a; intro a F
    refine stepG rfl F rfl rfl rfl (o_fieldAddr (F.ev rfl) ?_); clear F; clear a; intro a F
    refine stepG rfl F rfl rfl rfl (o_loadWA M (F.ev rfl) (by assumption) (by first | assumption | rfl) ?_); clear F; clear a; intro a F
    (refine stepG rfl F rfl rfl rfl (o_call (F.ev rfl) (F.evs rfl) (Cal.mono (rdvalid_c x.said _) ?_)); clear F; clear a; rintro _ w ⟨rfl, hE⟩ a F; replace M := M.later hE; clear hE)
    cases c2 : validM x.said.met
    · rw [rng_f hlt (hvf (by unfold rou1 finD inf; rw [c0, decide_eq_false c1, c2]; simp))]
      rw [c2] at F
      refine stepG rfl F rfl rfl rfl (o_not (F.ev rfl) ?_); clear F; clear a; intro a F
      refine stepD rfl F rfl (o_pickF (F.ev rfl) (F.ev rfl) ?_); clear F; clear a; intro a F
      refine stepD rfl F rfl (o_move (F.ev rfl) ?_); clear F; clear a; intro a F
      refine stepOff F rfl rfl rfl rfl ?_; clear F; clear a; intro a F
      refine stepOff F rfl rfl rfl rfl ?_; clear F; clear a; intro a F
      refine stepOff F rfl rfl rfl rfl ?_; clear F; clear a; intro a F
      refine stepOff F rfl rfl rfl rfl ?_; clear F; clear a; intro a F
      refine stepOff F rfl rfl rfl rfl ?_; clear F; clear a; intro a F
      refine stepOff F rfl rfl rfl rfl ?_; clear F; clear a; intro a F
      refine stepOff F rfl rfl rfl rfl ?_; clear F; clear a; intro a F
      refine stepD rfl F rfl (o_pickT (F.ev rfl) (F.ev rfl) ?_); clear F; clear a; intro a F
      refine stepD rfl F rfl (o_move (F.ev rfl) ?_); clear F; clear a; intro a F
      refine stepOff F rfl rfl rfl rfl ?_; clear F; clear a; intro a F
      refine stepOff F rfl rfl rfl rfl ?_; clear F; clear a; intro a F
      refine stepOff F rfl rfl rfl rfl ?_; clear F; clear a; intro a F
      refine stepOff F rfl rfl rfl rfl ?_; clear F; clear a; intro a F
      refine stepOff F rfl rfl rfl rfl ?_; clear F; clear a; intro a F
      refine stepOff F rfl rfl rfl rfl ?_; clear F; clear a; intro a F
      refine stepOff F rfl rfl rfl rfl ?_; clear F; clear a; intro a F
      refine stepD rfl F rfl (o_pickT (F.ev rfl) (F.ev rfl) ?_); clear F; clear a; intro a F
      with_reducible refine l_nil ?_
      with_reducible refine q_then ?_
      refine c_true F rfl rfl ?_
      with_reducible refine c_seq ?_
      with_reducible refine c_region ?_
      refine stepD rfl F rfl (o_assign (F.ev rfl) ?_); clear F; clear a; intro a F
      with_reducible refine l_nil ?_
      with_reducible refine q_then ?_
      with_reducible refine c_ret ?_
      with_reducible refine q_thenR ?_
      with_reducible refine q_inBR ?_
      with_reducible refine q_thenR ?_
      with_reducible refine q_thenR ?_
      with_reducible refine q_inBR ?_
      with_reducible refine q_thenR ?_
      refine p_ret F rfl (.cons (.tmp (F.ev rfl)) .nil) ?_
      exact ⟨rfl, M.ext⟩
    rw [c2] at F
    by_cases c3 : x.said.met = 65535
    · rw [rng_f hlt (hvf (by unfold rou1 finD inf; rw [c0, decide_eq_false c1, c2, decide_eq_true c3]; simp))]
      refine stepG rfl F rfl rfl rfl (o_not (F.ev rfl) ?_); clear F; clear a; intro a F
      refine stepD rfl F rfl (o_pickF (F.ev rfl) (F.ev rfl) ?_); clear F; clear a; intro a F
      refine stepD rfl F rfl (o_move (F.ev rfl) ?_); clear F; clear a; intro a F
      refine stepG rfl F rfl rfl rfl (o_move (F.ev rfl) ?_); clear F; clear a; intro a F
      refine stepG rfl F rfl rfl rfl (o_move (F.ev rfl) ?_); clear F; clear a; intro a F
      refine stepG rfl F rfl rfl rfl (o_indexSl (F.ev rfl) (F.ev rfl) (by omega) (by omega) ?_); clear F; clear a; intro a F
      refine stepG rfl F rfl rfl rfl (o_fieldAddr (F.ev rfl) ?_); clear F; clear a; intro a F
      refine stepG rfl F rfl rfl rfl (o_fieldAddr (F.ev rfl) ?_); clear F; clear a; intro a F
      refine stepG rfl F rfl rfl rfl (o_loadW1 M (F.ev rfl) (by assumption) (by first | assumption | rfl) ?_); clear F; clear a; intro a F
      refine stepG rfl F rfl rfl rfl (o_eqlT (F.ev rfl) (F.ev rfl) (by omega) ?_); clear F; clear a; intro a F
      refine stepD rfl F rfl (o_pickF (F.ev rfl) (F.ev rfl) ?_); clear F; clear a; intro a F
      refine stepD rfl F rfl (o_move (F.ev rfl) ?_); clear F; clear a; intro a F
      refine stepOff F rfl rfl rfl rfl ?_; clear F; clear a; intro a F
      refine stepOff F rfl rfl rfl rfl ?_; clear F; clear a; intro a F
      refine stepOff F rfl rfl rfl rfl ?_; clear F; clear a; intro a F
      refine stepOff F rfl rfl rfl rfl ?_; clear F; clear a; intro a F
      refine stepOff F rfl rfl rfl rfl ?_; clear F; clear a; intro a F
      refine stepOff F rfl rfl rfl rfl ?_; clear F; clear a; intro a F
      refine stepOff F rfl rfl rfl rfl ?_; clear F; clear a; intro a F
      refine stepD rfl F rfl (o_pickT (F.ev rfl) (F.ev rfl) ?_); clear F; clear a; intro a F
      with_reducible refine l_nil ?_
      with_reducible refine q_then ?_
      refine c_true F rfl rfl ?_
      with_reducible refine c_seq ?_
      with_reducible refine c_region ?_
      refine stepD rfl F rfl (o_assign (F.ev rfl) ?_); clear F; clear a; intro a F
      with_reducible refine l_nil ?_
      with_reducible refine q_then ?_
      with_reducible refine c_ret ?_
      with_reducible refine q_thenR ?_
      with_reducible refine q_inBR ?_
      with_reducible refine q_thenR ?_
      with_reducible refine q_thenR ?_
      with_reducible refine q_inBR ?_
      with_reducible refine q_thenR ?_
      refine p_ret F rfl (.cons (.tmp (F.ev rfl)) .nil) ?_
      exact ⟨rfl, M.ext⟩
    refine stepG rfl F rfl rfl rfl (o_not (F.ev rfl) ?_); clear F; clear a; intro a F
    refine stepD rfl F rfl (o_pickF (F.ev rfl) (F.ev rfl) ?_); clear F; clear a; intro a F
    refine stepD rfl F rfl (o_move (F.ev rfl) ?_); clear F; clear a; intro a F
    refine stepG rfl F rfl rfl rfl (o_move (F.ev rfl) ?_); clear F; clear a; intro a F
    refine stepG rfl F rfl rfl rfl (o_move (F.ev rfl) ?_); clear F; clear a; intro a F
    refine stepG rfl F rfl rfl rfl (o_indexSl (F.ev rfl) (F.ev rfl) (by omega) (by omega) ?_); clear F; clear a; intro a F
    refine stepG rfl F rfl rfl rfl (o_fieldAddr (F.ev rfl) ?_); clear F; clear a; intro a F
    refine stepG rfl F rfl rfl rfl (o_fieldAddr (F.ev rfl) ?_); clear F; clear a; intro a F
    refine stepG rfl F rfl rfl rfl (o_loadW1 M (F.ev rfl) (by assumption) (by first | assumption | rfl) ?_); clear F; clear a; intro a F
    refine stepG rfl F rfl rfl rfl (o_eqlF (F.ev rfl) (F.ev rfl) (by omega) ?_); clear F; clear a; intro a F
    refine stepD rfl F rfl (o_pickF (F.ev rfl) (F.ev rfl) ?_); clear F; clear a; intro a F
    refine stepD rfl F rfl (o_move (F.ev rfl) ?_); clear F; clear a; intro a F
    refine stepG rfl F rfl rfl rfl (o_move (F.ev rfl) ?_); clear F; clear a; intro a F
    refine stepG rfl F rfl rfl rfl (o_move (F.ev rfl) ?_); clear F; clear a; intro a F
    refine stepG rfl F rfl rfl rfl (o_indexSl (F.ev rfl) (F.ev rfl) (by omega) (by omega) ?_); clear F; clear a; intro a F
    refine stepG rfl F rfl rfl rfl (o_fieldAddr (F.ev rfl) ?_); clear F; clear a; intro a F
    refine stepG rfl F rfl rfl rfl (o_loadW1 M (F.ev rfl) (by assumption) (by first | assumption | rfl) ?_); clear F; clear a; intro a F
    (refine stepG rfl F rfl rfl rfl (o_call (F.ev rfl) (F.evs rfl) (Cal.mono (risTime_c x.til _) ?_)); clear F; clear a; rintro _ w ⟨rfl, hE⟩ a F; replace M := M.later hE; clear hE)
    cases c4 : isTime x.til
    · rw [rng_f hlt (hvf (by unfold rou1 finD inf; rw [c0, decide_eq_false c1, c2, decide_eq_false c3, c4]; simp))]
      rw [c4] at F
      refine stepG rfl F rfl rfl rfl (o_not (F.ev rfl) ?_); clear F; clear a; intro a F
      refine stepD rfl F rfl (o_pickF (F.ev rfl) (F.ev rfl) ?_); clear F; clear a; intro a F
      with_reducible refine l_nil ?_
      with_reducible refine q_then ?_
      refine c_true F rfl rfl ?_
      with_reducible refine c_seq ?_
      with_reducible refine c_region ?_
      refine stepD rfl F rfl (o_assign (F.ev rfl) ?_); clear F; clear a; intro a F
      with_reducible refine l_nil ?_
      with_reducible refine q_then ?_
      with_reducible refine c_ret ?_
      with_reducible refine q_thenR ?_
      with_reducible refine q_inBR ?_
      with_reducible refine q_thenR ?_
      with_reducible refine q_thenR ?_
      with_reducible refine q_inBR ?_
      with_reducible refine q_thenR ?_
      refine p_ret F rfl (.cons (.tmp (F.ev rfl)) .nil) ?_
      exact ⟨rfl, M.ext⟩
    rw [c4] at F
    have hgood : rou1 x = true := by unfold rou1 finD inf; rw [c0, decide_eq_false c1, c2, decide_eq_false c3, c4]; rfl
    rw [hgood] at hv0 hvs
    clear hvf hgood
    refine stepG rfl F rfl rfl rfl (o_not (F.ev rfl) ?_); clear F; clear a; intro a F
    refine stepD rfl F rfl (o_pickF (F.ev rfl) (F.ev rfl) ?_); clear F; clear a; intro a F
    with_reducible refine l_nil ?_
    with_reducible refine q_then ?_
    refine c_false F rfl rfl ?_
    with_reducible refine c_skip ?_
    with_reducible refine q_then ?_
    with_reducible refine c_seq ?_
    replace F := F.only [9, 8, 0, 3] rfl
    rcases Nat.eq_zero_or_pos i with hi0 | hi0
    · refine c_draw 14 F (by kernel_rfl) ?_
      intro w1 hE hok
      have M1 := M.later hE
      refine mK hok rfl rfl (fun a' w' F' E' => o_move (F'.ev rfl) ⟨Ext.refl _ _, rfl⟩) ?_
      refine mK hok rfl rfl (fun a' w' F' E' => o_gtrF (F'.ev rfl) (F'.ev rfl) (by omega) ⟨Ext.refl _ _, rfl⟩) ?_
      refine mK hok rfl rfl (fun a' w' F' E' => o_move (F'.ev rfl) ⟨Ext.refl _ _, rfl⟩) ?_
      refine mOff hok rfl rfl rfl rfl rfl ?_
      refine mOff hok rfl rfl rfl rfl rfl ?_
      refine mOff hok rfl rfl rfl rfl rfl ?_
      refine mOff hok rfl rfl rfl rfl rfl ?_
      refine mOff hok rfl rfl rfl rfl rfl ?_
      refine mOff hok rfl rfl rfl rfl rfl ?_
      refine mOff hok rfl rfl rfl rfl rfl ?_
      refine mOff hok rfl rfl rfl rfl rfl ?_
      refine mOff hok rfl rfl rfl rfl rfl ?_
      refine mOff hok rfl rfl rfl rfl rfl ?_
      refine mOff hok rfl rfl rfl rfl rfl ?_
      (refine mDone rfl rfl ?_; clear F; clear M; intro a w F hE2 hX hTT hDD hPP; have M := M1.later hE2; clear M1; clear hX; clear hE2; clear hok; clear hE; clear hTT; clear hDD; clear hPP; (try dsimp only at F))
      refine stepD rfl F rfl (o_pickF (F.ev rfl) (F.ev rfl) ?_); clear F; clear a; intro a F
      with_reducible refine l_nil ?_
      with_reducible refine q_then ?_
      refine c_false F rfl rfl ?_
      with_reducible refine c_skip ?_
      with_reducible refine q_inB ?_
      with_reducible refine q_then ?_
      with_reducible refine c_region ?_
      refine stepD rfl F rfl (o_add (F.ev rfl) (F.ev rfl) (w_i64 (by omega) (by omega)) ?_); clear F; clear a; intro a F
      refine stepD rfl F rfl (o_move (F.ev rfl) ?_); clear F; clear a; intro a F
      with_reducible refine l_nil ?_
      with_reducible refine q_then ?_
      exact ⟨_, by omega, i + 1, rfl, by omega, fun j hj => by
          rcases Nat.lt_or_ge j i with h1 | h1
          · exact hv j h1
          · obtain rfl : j = i := by omega
            rw [hv0 hi0], F.only [9, 8, 0] rfl, M⟩
    · have hyv := hx _ (List.getElem_mem (show i - 1 < l.length by omega))
      have p1 : seg cs (o + ((i : Int) - 1).toNat * 39) 39 = some (roC (l[i - 1]'(by omega))) := seg_el (ros_len hx) hs (show i - 1 < l.length by omega) (by omega)
      replace hvs := hvs hi0
      obtain ⟨y, hy0⟩ : ∃ y, y = l[i - 1]'(by omega) := ⟨_, rfl⟩
      rw [← hy0] at hyv p1 hvs
      clear hy0
      by_cases c9 : cmpR y x < 0
      · refine c_draw 14 F (by kernel_rfl) ?_
        intro w1 hE hok
        have M1 := M.later hE
        refine mK hok rfl rfl (fun a' w' F' E' => o_move (F'.ev rfl) ⟨Ext.refl _ _, rfl⟩) ?_
        refine mK hok rfl rfl (fun a' w' F' E' => o_gtrT (F'.ev rfl) (F'.ev rfl) (by omega) ⟨Ext.refl _ _, rfl⟩) ?_
        refine mK hok rfl rfl (fun a' w' F' E' => o_move (F'.ev rfl) ⟨Ext.refl _ _, rfl⟩) ?_
        refine mKG hok rfl rfl rfl rfl (fun a' w' F' E' => o_move (F'.ev rfl) ⟨Ext.refl _ _, rfl⟩) ?_
        refine mKG hok rfl rfl rfl rfl (fun a' w' F' E' => o_move (F'.ev rfl) ⟨Ext.refl _ _, rfl⟩) ?_
        refine mKG hok rfl rfl rfl rfl (fun a' w' F' E' => o_sub (F'.ev rfl) (F'.ev rfl) (w_i64 (by omega) (by omega)) ⟨Ext.refl _ _, rfl⟩) ?_
        refine mKG hok rfl rfl rfl rfl (fun a' w' F' E' => o_indexSl (F'.ev rfl) (F'.ev rfl) (by omega) (by omega) ⟨Ext.refl _ _, rfl⟩) ?_
        refine mKG hok rfl rfl rfl rfl (fun a' w' F' E' => o_loadWA (M1.later E') (F'.ev rfl) (by assumption) (by first | assumption | rfl) ⟨Ext.refl _ _, rfl⟩) ?_
        refine mKG hok rfl rfl rfl rfl (fun a' w' F' E' => o_move (F'.ev rfl) ⟨Ext.refl _ _, rfl⟩) ?_
        refine mKG hok rfl rfl rfl rfl (fun a' w' F' E' => o_move (F'.ev rfl) ⟨Ext.refl _ _, rfl⟩) ?_
        refine mKG hok rfl rfl rfl rfl (fun a' w' F' E' => o_indexSl (F'.ev rfl) (F'.ev rfl) (by omega) (by omega) ⟨Ext.refl _ _, rfl⟩) ?_
        refine mKG hok rfl rfl rfl rfl (fun a' w' F' E' => o_loadWA (M1.later E') (F'.ev rfl) (by assumption) (by first | assumption | rfl) ⟨Ext.refl _ _, rfl⟩) ?_
        (refine mKG hok rfl rfl rfl rfl (fun a' w' F' E' => o_call (F'.ev rfl) (F'.evs rfl) (Cal.mono (reforder_c y x hyv hxv _) fun _ _ hh => ⟨hh.2, hh.1⟩)) ?_)
        refine mKG hok rfl rfl rfl rfl (fun a' w' F' E' => o_geqF (F'.ev rfl) (F'.ev rfl) (by omega) ⟨Ext.refl _ _, rfl⟩) ?_
        (refine mDone rfl rfl ?_; clear F; clear M; intro a w F hE2 hX hTT hDD hPP; have M := M1.later hE2; clear M1; clear hX; clear hE2; clear hok; clear hE; clear hTT; clear hDD; clear hPP; (try dsimp only at F))
        refine stepD rfl F rfl (o_pickT (F.ev rfl) (F.ev rfl) ?_); clear F; clear a; intro a F
        with_reducible refine l_nil ?_
        with_reducible refine q_then ?_
        refine c_false F rfl rfl ?_
        with_reducible refine c_skip ?_
        with_reducible refine q_inB ?_
        with_reducible refine q_then ?_
        with_reducible refine c_region ?_
        refine stepD rfl F rfl (o_add (F.ev rfl) (F.ev rfl) (w_i64 (by omega) (by omega)) ?_); clear F; clear a; intro a F
        refine stepD rfl F rfl (o_move (F.ev rfl) ?_); clear F; clear a; intro a F
        with_reducible refine l_nil ?_
        with_reducible refine q_then ?_
        exact ⟨_, by omega, i + 1, rfl, by omega, fun j hj => by
          rcases Nat.lt_or_ge j i with h1 | h1
          · exact hv j h1
          · obtain rfl : j = i := by omega
            rw [hvs]; simp [c9], F.only [9, 8, 0] rfl, M⟩
      · rw [rng_f hlt (by rw [hvs]; simp [c9])]
        refine c_draw 14 F (by kernel_rfl) ?_
        intro w1 hE hok
        have M1 := M.later hE
        refine mK hok rfl rfl (fun a' w' F' E' => o_move (F'.ev rfl) ⟨Ext.refl _ _, rfl⟩) ?_
        refine mK hok rfl rfl (fun a' w' F' E' => o_gtrT (F'.ev rfl) (F'.ev rfl) (by omega) ⟨Ext.refl _ _, rfl⟩) ?_
        refine mK hok rfl rfl (fun a' w' F' E' => o_move (F'.ev rfl) ⟨Ext.refl _ _, rfl⟩) ?_
        refine mKG hok rfl rfl rfl rfl (fun a' w' F' E' => o_move (F'.ev rfl) ⟨Ext.refl _ _, rfl⟩) ?_
        refine mKG hok rfl rfl rfl rfl (fun a' w' F' E' => o_move (F'.ev rfl) ⟨Ext.refl _ _, rfl⟩) ?_
        refine mKG hok rfl rfl rfl rfl (fun a' w' F' E' => o_sub (F'.ev rfl) (F'.ev rfl) (w_i64 (by omega) (by omega)) ⟨Ext.refl _ _, rfl⟩) ?_
        refine mKG hok rfl rfl rfl rfl (fun a' w' F' E' => o_indexSl (F'.ev rfl) (F'.ev rfl) (by omega) (by omega) ⟨Ext.refl _ _, rfl⟩) ?_
        refine mKG hok rfl rfl rfl rfl (fun a' w' F' E' => o_loadWA (M1.later E') (F'.ev rfl) (by assumption) (by first | assumption | rfl) ⟨Ext.refl _ _, rfl⟩) ?_
        refine mKG hok rfl rfl rfl rfl (fun a' w' F' E' => o_move (F'.ev rfl) ⟨Ext.refl _ _, rfl⟩) ?_
        refine mKG hok rfl rfl rfl rfl (fun a' w' F' E' => o_move (F'.ev rfl) ⟨Ext.refl _ _, rfl⟩) ?_
        refine mKG hok rfl rfl rfl rfl (fun a' w' F' E' => o_indexSl (F'.ev rfl) (F'.ev rfl) (by omega) (by omega) ⟨Ext.refl _ _, rfl⟩) ?_
        refine mKG hok rfl rfl rfl rfl (fun a' w' F' E' => o_loadWA (M1.later E') (F'.ev rfl) (by assumption) (by first | assumption | rfl) ⟨Ext.refl _ _, rfl⟩) ?_
        (refine mKG hok rfl rfl rfl rfl (fun a' w' F' E' => o_call (F'.ev rfl) (F'.evs rfl) (Cal.mono (reforder_c y x hyv hxv _) fun _ _ hh => ⟨hh.2, hh.1⟩)) ?_)
        refine mKG hok rfl rfl rfl rfl (fun a' w' F' E' => o_geqT (F'.ev rfl) (F'.ev rfl) (by omega) ⟨Ext.refl _ _, rfl⟩) ?_
        (refine mDone rfl rfl ?_; clear F; clear M; intro a w F hE2 hX hTT hDD hPP; have M := M1.later hE2; clear M1; clear hX; clear hE2; clear hok; clear hE; clear hTT; clear hDD; clear hPP; (try dsimp only at F))
        refine stepD rfl F rfl (o_pickT (F.ev rfl) (F.ev rfl) ?_); clear F; clear a; intro a F
        with_reducible refine l_nil ?_
        with_reducible refine q_then ?_
        refine c_true F rfl rfl ?_
        with_reducible refine c_seq ?_
        with_reducible refine c_region ?_
        refine stepD rfl F rfl (o_assign (F.ev rfl) ?_); clear F; clear a; intro a F
        with_reducible refine l_nil ?_
        with_reducible refine q_then ?_
        with_reducible refine c_ret ?_
        with_reducible refine q_inBR ?_
        with_reducible refine q_thenR ?_
        with_reducible refine q_thenR ?_
        with_reducible refine q_inBR ?_
        with_reducible refine q_thenR ?_
        refine p_ret F rfl (.cons (.tmp (F.ev rfl)) .nil) ?_
        exact ⟨rfl, M.ext⟩
  · obtain rfl : i = l.length := by omega
    rw [rng_t hv]
    with_reducible refine c_seq ?_
    with_reducible refine c_region ?_
    refine stepD rfl F rfl (o_lssF (F.ev rfl) (F.ev rfl) (by omega) ?_); clear F; clear a; intro a F
    with_reducible refine l_nil ?_
    with_reducible refine q_then ?_
    with_reducible refine c_seq ?_
    refine c_false F rfl rfl ?_
    with_reducible refine c_exit ?_
    with_reducible refine q_thenX ?_
    with_reducible refine q_thenX ?_
    with_reducible refine q_inBX ?_
    with_reducible refine q_then ?_
    with_reducible refine c_seq ?_
    with_reducible refine c_region ?_
    refine stepD rfl F rfl (o_assign (F.ev rfl) ?_); clear F; clear a; intro a F
    with_reducible refine l_nil ?_
    with_reducible refine q_then ?_
    with_reducible refine c_ret ?_
    refine p_ret F rfl (.cons (.tmp (F.ev rfl)) .nil) ?_
    exact ⟨rfl, M.ext⟩
end Go.Proofs.YtilgoepokaaleaaGreat
/-! LibY -/
namespace Go.Proofs.YtilgoepokaaleaaGreat
set_option linter.unusedVariables false
set_option linter.unusedSimpArgs false
open Go.RowKit
theorem b_split {a : Act} {n : Nat} {df : List Deferred} {fr : List (Nat × Value)} {b : Bool} {p : Prop} (F : Frm a n df fr) (t : Nat) (h : look fr t = some (.bool b)) (ht : b = true → p) (hf : b = false → p) : p := by
  cases b
  · exact hf rfl
  · exact ht rfl
theorem ne_of_bne {x y : Int} (h : (x != y) = true) : x ≠ y := bne_iff_ne.1 h
theorem eq_of_bne_false {x y : Int} (h : (x != y) = false) : x = y := by simpa using h
theorem false_of_not {b : Bool} (h : (!b) = true) : b = false := by cases b <;> simp_all
theorem true_of_not {b : Bool} (h : (!b) = false) : b = true := by cases b <;> simp_all
section
variable {P : Program} {ρ : Operand → Value} {w W0 : World} {S : List Nat} {l l' : List (Nat × Obj)} {R : Value → World → Prop} {d : Option Tmp} {ty : TypeId} {pos : String} {af : Array Edge} {g : Option (Nat × Bool)}
theorem o_append1 {α : Type} {enc : α → List Value} {out : List α} {x0 : α} {st xt e : TypeId} {x y : Operand} {sz by_ : Nat} {v xv : Value} {ent : List (Nat × Obj)} {f : List (Nat × Obj) → List (Nat × Obj)} [hst : TU P st (.slice e)] [hel : TEl P e sz by_] [hxt : TNI P xt] (hO : OwnS e sz v out.length (encL enc out) ent) (M : Mem S W0 w l) (hl : TailAt ent l f)
    (hx : ρ x = v) (hy : ρ y = xv) (hX : SrcOf P w xv 1 sz (enc x0)) (hbd : (out.length + 1) * by_ ≤ 140737488355328)
    (h : ∀ v' ent' w', OwnS e sz v' (out ++ [x0]).length (encL enc (out ++ [x0])) ent' → Mem S W0 w' (f ent') → R v' w') (hln : out.length + 1 ≤ 9223372036854775807 := by first | omega | (simp only [List.length_append, List.length_singleton]; omega)) : OpTo P ⟨d, .call ⟨.builtin .append, #[x, y], #[st, xt]⟩, ty, pos, af, g⟩ ρ w R := by
  refine o_append hO M hl hx hy hX hbd hln fun v' ent' w' hO' M' => h v' ent' w' ?_ M'
  rw [encL_app, encL_one, List.length_append, List.length_singleton]
  exact hO'
theorem o_eqlAE {t t' : TypeId} {x y : Operand} {ks : List LK} {xs ys : List Value} {b : Bool} [ht : TEq P t ks] (hx : ρ x = .agg xs.toArray) (hy : ρ y = .agg ys.toArray) (fx : fitsK ks xs = true) (fy : fitsK ks ys = true) (he : eqVs xs ys = b) (h : R (.bool b) w) : OpTo P ⟨d, .binOp .eql t x y t', ty, pos, af, g⟩ ρ w R := o_eqlA hx hy fx fy (by rw [he]; exact h)
theorem o_lenOwn {x : Operand} {t e e' : TypeId} {v : Value} {sz n : Nat} {xs : List Value} {ent : List (Nat × Obj)} (hx : ρ x = v) (hO : OwnS e' sz v n xs ent) [ht : TU P t (.slice e)] (h : R (.int .i64 n) w) : OpTo P ⟨d, .call ⟨.builtin .len, #[x], #[t]⟩, ty, pos, af, g⟩ ρ w R := by
  obtain ⟨p, c, rfl⟩ := hO.slice
  exact o_lenSl hx h
theorem o_loadEA {t : TypeId} {x : Operand} {b off n : Nat} {cs : List Value} {t' : TypeId} {fz : Nat × Nat} {vs : List Value} [ht : TAgg P t n] (M : Mem S W0 w l) (hx : ρ x = .pointer (some ⟨b, off, none⟩)) (hb : ∀ w', Ext S W0 w' → w'.heap[b]? = some (.cells cs.toArray t' fz)) (hv : seg cs off n = some vs) (h : R (.agg vs.toArray) w) : OpTo P ⟨d, .load t x, ty, pos, af, g⟩ ρ w R := o_loadHA hx (hb w M.ext) hv h
end
theorem SlAt.memB {W : World} {sz : Nat} {q : Option Addr} {n cap : Nat} {cs : List Value} (h : SlAt W sz (.slice q n cap) n cs) (S : List Nat) (hn : ∀ b o s, q = some ⟨b, o, s⟩ → b ∉ S) : 0 < n → ∃ b o xs t fz, q = some ⟨b, o, none⟩ ∧ (∀ w', Ext S W w' → w'.heap[b]? = some (.cells (List.toArray xs) t fz)) ∧ seg xs o (n * sz) = some cs := by
  obtain ⟨p, cap', e, _, _, _, h5⟩ := h
  cases e
  intro h0
  obtain ⟨b, o, xs, t, fz, rfl, hb, hs⟩ := h5 h0
  refine ⟨b, o, xs, t, fz, rfl, fun w' E => ?_, hs⟩
  rw [E.block b (Array.getElem?_eq_some_iff.1 hb).1 (hn b o none rfl)]
  exact hb
/-! one element merged into an ascending list: c tells how each stands to it -/
section
variable {α : Type} (c : α → Int) (x : α)
def mergeG : Bool → List α → List α
  | done, [] => if done then [] else [x]
  | done, y :: l => (if decide (0 ≤ c y) && !done then [x] else []) ++ ((if c y = 0 then [] else [y]) ++ mergeG (done || decide (0 ≤ c y)) l)
theorem mergeG_cons {y : α} {l : List α} {done : Bool} : mergeG c x done (y :: l) = (if decide (0 ≤ c y) && !done then [x] else []) ++ ((if c y = 0 then [] else [y]) ++ mergeG c x (done || decide (0 ≤ c y)) l) := by
  conv => lhs; unfold mergeG
theorem mergeG_nil {done : Bool} : mergeG c x done [] = if done then [] else [x] := rfl
theorem mergeG_len : ∀ {done : Bool} {l : List α}, (mergeG c x done l).length ≤ l.length + (if done then 0 else 1)
  | done, [] => by
    rw [mergeG_nil]
    cases done <;> simp
  | done, y :: l => by
    rw [mergeG_cons]
    have := mergeG_len (done := done || decide (0 ≤ c y)) (l := l)
    generalize decide (0 ≤ c y) = g at *
    have h1 : (if c y = 0 then [] else [y]).length ≤ 1 := by split <;> simp
    generalize (if c y = 0 then [] else [y]) = ys at *
    rw [List.length_append, List.length_append, List.length_cons]
    cases done <;> cases g <;> simp at this ⊢ <;> omega
theorem mergeG_is {l : List α} (ha : l.Pairwise fun a b => 0 ≤ c a → 0 < c b) {done : Bool} : mergeG c x done l = l.filter (fun y => decide (c y < 0)) ++ ((if done then [] else [x]) ++ l.filter (fun y => decide (0 < c y))) := by
  induction l generalizing done with
  | nil => rw [mergeG_nil]; simp
  | cons y l ih =>
    obtain ⟨h1, h2⟩ := List.pairwise_cons.1 ha
    rw [mergeG_cons, ih h2]
    rcases Int.lt_trichotomy (c y) 0 with hc | hc | hc
    · rw [decide_eq_false (show ¬ 0 ≤ c y by omega), if_neg (show ¬ c y = 0 by omega), List.filter_cons_of_pos (by simpa using hc), List.filter_cons_of_neg (by simp; omega)]
      simp
    · have hl : l.filter (fun y => decide (c y < 0)) = [] := by
        rw [List.filter_eq_nil_iff]
        intro z hz
        have := h1 z hz (by omega)
        simp
        omega
      rw [decide_eq_true (show 0 ≤ c y by omega), if_pos hc, List.filter_cons_of_neg (by simp; omega), List.filter_cons_of_neg (by simp; omega), hl]
      cases done <;> simp
    · have hl : l.filter (fun y => decide (c y < 0)) = [] := by
        rw [List.filter_eq_nil_iff]
        intro z hz
        have := h1 z hz (by omega)
        simp
        omega
      rw [decide_eq_true (show 0 ≤ c y by omega), if_neg (show ¬ c y = 0 by omega), List.filter_cons_of_neg (by simp; omega), List.filter_cons_of_pos (by simpa using hc), hl]
      cases done <;> simp
end
end Go.Proofs.YtilgoepokaaleaaGreat
/-! ZO -/
namespace Go.Proofs.YtilgoepokaaleaaGreat
set_option linter.unusedVariables false
set_option linter.unusedSimpArgs false
open Go.RowKit
attribute [local irreducible] OpTo wpListIn Code.wpIn MW Cal
theorem cmpL_ge {a b x : List Int} (h : cmpL a b < 0) (k : 0 ≤ cmpL a x) : 0 < cmpL b x := by
  have h1 := cmpL_anti a x
  have h2 := cmpL_anti b x
  rcases Int.lt_or_le 0 (cmpL a x) with h3 | h3
  · have := cmpL_lt_trans (show cmpL x a < 0 by omega) h
    omega
  · have h4 := cmpL_zero (show cmpL a x = 0 by omega)
    subst h4
    omega
theorem putR_merge {l : List RouV} {x : RouV} {g : Bool} (h : AscC cmpR l) : mergeG (fun y => cmpR y x) x g l = putR l x g := by
  rw [mergeG_is]
  · rfl
  · exact h.imp fun {a b} h k => cmpL_ge h k
set_option maxHeartbeats 8000000 in
theorem rlearn_c (l : List RouV) (hx : ∀ x ∈ l, IsRo x) (v : Value) (now : Int) (t : DstV) (ht : IsDv t) (nb : Int) (d : DisV) (W : World) (hS : SlAt W 39 v l.length (rosC l)) :
    Cal Tryz.prog 43 [v, .int .i64 now, .agg (dvC t).toArray, .int .u64 nb, .agg (diC d).toArray].toArray W fun r w' => ∃ u ent, r = .tuple [u, .int .i64 (learnV l now t nb d).2].toArray ∧ OwnS 53 39 u (learnV l now t nb d).1.length (rosC (learnV l now t nb d).1) ent ∧ Mem [] W w' ent := by
  have e1 := dv_all ht
  have e2 := di_all (o := d) trivial
  have e3 := di_met (o := d) trivial
  obtain ⟨q, cap, rfl, hcap, hsp, hll, hm⟩ := id hS
  have c1 : ∀ n u, learnV l now t nb d = ([], n) → u = .slice none 0 0 → ∀ w, Ext [] W w → ∃ u' ent, Value.tuple [u, .int .i64 n].toArray = .tuple [u', .int .i64 (learnV l now t nb d).2].toArray ∧ OwnS 53 39 u' (learnV l now t nb d).1.length (rosC (learnV l now t nb d).1) ent ∧ Mem [] W w ent := by
    rintro n _ h rfl w E
    rw [h]
    exact ⟨_, [], rfl, OwnS.nil _ _, Mem.nil E⟩
  refine fn_ofM (n := 83) [] Tryz.func43 rfl rfl rfl ?_
  intro a w F M hwW
  with_reducible refine c_seq ?_
  with_reducible refine c_region ?_
  refine stepD rfl F rfl (o_box M (F.ev rfl) rfl ?_); clear F; clear M; intro b7 w M a F
  refine stepD rfl F rfl (o_box M (F.ev rfl) rfl ?_); clear F; clear M; intro b9 w M a F
  refine stepD rfl F rfl (o_assign (F.ev rfl) ?_); clear F; clear a; intro a F
  refine stepD rfl F rfl (o_assign (F.ev rfl) ?_); clear F; clear a; intro a F
  with_reducible refine l_nil ?_
  with_reducible refine q_then ?_
  with_reducible refine c_seq ?_
  with_reducible refine c_seq ?_
  with_reducible refine c_region ?_
  refine stepD rfl F rfl (o_move (F.ev rfl) ?_); clear F; clear a; intro a F
  refine stepD rfl F rfl (o_call (F.ev rfl) (F.evs rfl) (Cal.mono (refvalidR_c _ (by first | assumption | omega | exact And.left (by assumption) | exact (by assumption : SlAt _ _ _ _ _).later M.ext | exact TapeS.later (by assumption) M.ext | exact M.heap (by repeat (first | exact .here | apply Has.there)) | decide) _ _ (by first | assumption | omega | exact And.left (by assumption) | exact (by assumption : SlAt _ _ _ _ _).later M.ext | exact TapeS.later (by assumption) M.ext | exact M.heap (by repeat (first | exact .here | apply Has.there)) | decide)) ?_)); clear F; clear a; rintro _ w ⟨rfl, hE⟩ a F; replace M := M.later hE; clear hE
  refine stepD rfl F rfl (o_not (F.ev rfl) ?_); clear F; clear a; intro a F
  refine stepD rfl F rfl (o_move (F.ev rfl) ?_); clear F; clear a; intro a F
  refine b_split F 21 rfl (fun h1 => ?_) (fun h1 => ?_)
  · skip
    rw [h1] at F; replace h1 := false_of_not h1; (try rw [h1] at F)
    refine stepOff F rfl rfl rfl rfl ?_; clear F; clear a; intro a F
    refine stepOff F rfl rfl rfl rfl ?_; clear F; clear a; intro a F
    refine stepOff F rfl rfl rfl rfl ?_; clear F; clear a; intro a F
    refine stepD rfl F rfl (o_pickT (F.ev rfl) (F.ev rfl) ?_); clear F; clear a; intro a F
    refine stepD rfl F rfl (o_move (F.ev rfl) ?_); clear F; clear a; intro a F
    refine stepOff F rfl rfl rfl rfl ?_; clear F; clear a; intro a F
    refine stepOff F rfl rfl rfl rfl ?_; clear F; clear a; intro a F
    refine stepOff F rfl rfl rfl rfl ?_; clear F; clear a; intro a F
    refine stepD rfl F rfl (o_pickT (F.ev rfl) (F.ev rfl) ?_); clear F; clear a; intro a F
    refine stepD rfl F rfl (o_move (F.ev rfl) ?_); clear F; clear a; intro a F
    refine stepOff F rfl rfl rfl rfl ?_; clear F; clear a; intro a F
    refine stepOff F rfl rfl rfl rfl ?_; clear F; clear a; intro a F
    refine stepD rfl F rfl (o_pickT (F.ev rfl) (F.ev rfl) ?_); clear F; clear a; intro a F
    with_reducible refine l_nil ?_
    with_reducible refine q_then ?_
    refine c_true F rfl rfl ?_
    with_reducible refine c_seq ?_
    with_reducible refine c_region ?_
    refine stepD rfl F rfl (o_assign (F.ev rfl) ?_); clear F; clear a; intro a F
    refine stepD rfl F rfl (o_assign (F.ev rfl) ?_); clear F; clear a; intro a F
    with_reducible refine l_nil ?_
    with_reducible refine q_then ?_
    with_reducible refine c_ret ?_
    with_reducible refine q_thenR ?_
    refine p_ret F rfl (.cons (.tmp (F.ev rfl)) (.cons (.tmp (F.ev rfl)) .nil)) ?_; (try dsimp only [oneOr])
    exact c1 _ _ (by unfold learnV; simp [*]) rfl _ M.ext
  rw [h1] at F; replace h1 := true_of_not h1; (try rw [h1] at F)
  refine stepG rfl F rfl rfl rfl (o_loadA M (F.ev rfl) (by repeat (first | exact .here | apply Has.there)) (by assumption) ?_); clear F; clear a; intro a F
  refine stepG rfl F rfl rfl rfl (o_call (F.ev rfl) (F.evs rfl) (Cal.mono (rvalidTo_c _ (by first | assumption | omega | exact And.left (by assumption) | exact (by assumption : SlAt _ _ _ _ _).later M.ext | exact TapeS.later (by assumption) M.ext | exact M.heap (by repeat (first | exact .here | apply Has.there)) | decide) _) ?_)); clear F; clear a; rintro _ w ⟨rfl, hE⟩ a F; replace M := M.later hE; clear hE
  refine stepG rfl F rfl rfl rfl (o_not (F.ev rfl) ?_); clear F; clear a; intro a F
  refine stepD rfl F rfl (o_pickF (F.ev rfl) (F.ev rfl) ?_); clear F; clear a; intro a F
  refine stepD rfl F rfl (o_move (F.ev rfl) ?_); clear F; clear a; intro a F
  refine b_split F 26 rfl (fun h2 => ?_) (fun h2 => ?_)
  · skip
    rw [h2] at F; replace h2 := false_of_not h2; (try rw [h2] at F)
    refine stepOff F rfl rfl rfl rfl ?_; clear F; clear a; intro a F
    refine stepOff F rfl rfl rfl rfl ?_; clear F; clear a; intro a F
    refine stepOff F rfl rfl rfl rfl ?_; clear F; clear a; intro a F
    refine stepD rfl F rfl (o_pickT (F.ev rfl) (F.ev rfl) ?_); clear F; clear a; intro a F
    refine stepD rfl F rfl (o_move (F.ev rfl) ?_); clear F; clear a; intro a F
    refine stepOff F rfl rfl rfl rfl ?_; clear F; clear a; intro a F
    refine stepOff F rfl rfl rfl rfl ?_; clear F; clear a; intro a F
    refine stepD rfl F rfl (o_pickT (F.ev rfl) (F.ev rfl) ?_); clear F; clear a; intro a F
    with_reducible refine l_nil ?_
    with_reducible refine q_then ?_
    refine c_true F rfl rfl ?_
    with_reducible refine c_seq ?_
    with_reducible refine c_region ?_
    refine stepD rfl F rfl (o_assign (F.ev rfl) ?_); clear F; clear a; intro a F
    refine stepD rfl F rfl (o_assign (F.ev rfl) ?_); clear F; clear a; intro a F
    with_reducible refine l_nil ?_
    with_reducible refine q_then ?_
    with_reducible refine c_ret ?_
    with_reducible refine q_thenR ?_
    refine p_ret F rfl (.cons (.tmp (F.ev rfl)) (.cons (.tmp (F.ev rfl)) .nil)) ?_; (try dsimp only [oneOr])
    exact c1 _ _ (by unfold learnV; simp [*]) rfl _ M.ext
  rw [h2] at F; replace h2 := true_of_not h2; (try rw [h2] at F)
  refine stepG rfl F rfl rfl rfl (o_loadA M (F.ev rfl) (by repeat (first | exact .here | apply Has.there)) (by assumption) ?_); clear F; clear a; intro a F
  refine stepG rfl F rfl rfl rfl (o_call (F.ev rfl) (F.evs rfl) (Cal.mono (rdvalid_c _ _) ?_)); clear F; clear a; rintro _ w ⟨rfl, hE⟩ a F; replace M := M.later hE; clear hE
  refine stepG rfl F rfl rfl rfl (o_not (F.ev rfl) ?_); clear F; clear a; intro a F
  refine stepD rfl F rfl (o_pickF (F.ev rfl) (F.ev rfl) ?_); clear F; clear a; intro a F
  refine stepD rfl F rfl (o_move (F.ev rfl) ?_); clear F; clear a; intro a F
  refine b_split F 31 rfl (fun h3 => ?_) (fun h3 => ?_)
  · skip
    rw [h3] at F; replace h3 := false_of_not h3; (try rw [h3] at F)
    refine stepOff F rfl rfl rfl rfl ?_; clear F; clear a; intro a F
    refine stepOff F rfl rfl rfl rfl ?_; clear F; clear a; intro a F
    refine stepD rfl F rfl (o_pickT (F.ev rfl) (F.ev rfl) ?_); clear F; clear a; intro a F
    with_reducible refine l_nil ?_
    with_reducible refine q_then ?_
    refine c_true F rfl rfl ?_
    with_reducible refine c_seq ?_
    with_reducible refine c_region ?_
    refine stepD rfl F rfl (o_assign (F.ev rfl) ?_); clear F; clear a; intro a F
    refine stepD rfl F rfl (o_assign (F.ev rfl) ?_); clear F; clear a; intro a F
    with_reducible refine l_nil ?_
    with_reducible refine q_then ?_
    with_reducible refine c_ret ?_
    with_reducible refine q_thenR ?_
    refine p_ret F rfl (.cons (.tmp (F.ev rfl)) (.cons (.tmp (F.ev rfl)) .nil)) ?_; (try dsimp only [oneOr])
    exact c1 _ _ (by unfold learnV; simp [*]) rfl _ M.ext
  rw [h3] at F; replace h3 := true_of_not h3; (try rw [h3] at F)
  refine stepG rfl F rfl rfl rfl (o_move (F.ev rfl) ?_); clear F; clear a; intro a F
  refine stepG rfl F rfl rfl rfl (o_eql (F.ev rfl) (F.ev rfl) ?_); clear F; clear a; intro a F
  refine stepD rfl F rfl (o_pickF (F.ev rfl) (F.ev rfl) ?_); clear F; clear a; intro a F
  with_reducible refine l_nil ?_
  with_reducible refine q_then ?_
  refine c_if F rfl (fun h4 => ?_) (fun h4 => ?_)
  · skip
    rw [h4] at F; replace h4 := of_decide_eq_true h4
    with_reducible refine c_seq ?_
    with_reducible refine c_region ?_
    refine stepD rfl F rfl (o_assign (F.ev rfl) ?_); clear F; clear a; intro a F
    refine stepD rfl F rfl (o_assign (F.ev rfl) ?_); clear F; clear a; intro a F
    with_reducible refine l_nil ?_
    with_reducible refine q_then ?_
    with_reducible refine c_ret ?_
    with_reducible refine q_thenR ?_
    refine p_ret F rfl (.cons (.tmp (F.ev rfl)) (.cons (.tmp (F.ev rfl)) .nil)) ?_; (try dsimp only [oneOr])
    exact c1 _ _ (by unfold learnV; simp [*]) rfl _ M.ext
  rw [h4] at F; replace h4 := of_decide_eq_false h4
  with_reducible refine c_skip ?_
  with_reducible refine q_then ?_
  with_reducible refine c_seq ?_
  with_reducible refine c_seq ?_
  with_reducible refine c_region ?_
  refine stepD rfl F rfl (o_move (F.ev rfl) ?_); clear F; clear a; intro a F
  refine stepD rfl F rfl (o_call (F.ev rfl) (F.evs rfl) (Cal.mono (risTime_c _ _) ?_)); clear F; clear a; rintro _ w ⟨rfl, hE⟩ a F; replace M := M.later hE; clear hE
  refine stepD rfl F rfl (o_not (F.ev rfl) ?_); clear F; clear a; intro a F
  with_reducible refine l_nil ?_
  with_reducible refine q_then ?_
  refine c_if F rfl (fun h5 => ?_) (fun h5 => ?_)
  · skip
    rw [h5] at F; replace h5 := false_of_not h5; (try rw [h5] at F)
    with_reducible refine c_seq ?_
    with_reducible refine c_region ?_
    refine stepD rfl F rfl (o_assign (F.ev rfl) ?_); clear F; clear a; intro a F
    refine stepD rfl F rfl (o_assign (F.ev rfl) ?_); clear F; clear a; intro a F
    with_reducible refine l_nil ?_
    with_reducible refine q_then ?_
    with_reducible refine c_ret ?_
    with_reducible refine q_thenR ?_
    refine p_ret F rfl (.cons (.tmp (F.ev rfl)) (.cons (.tmp (F.ev rfl)) .nil)) ?_; (try dsimp only [oneOr])
    exact c1 _ _ (by unfold learnV; simp [*]) rfl _ M.ext
  rw [h5] at F; replace h5 := true_of_not h5; (try rw [h5] at F)
  with_reducible refine c_skip ?_
  with_reducible refine q_then ?_
  with_reducible refine c_seq ?_
  refine c_draw 7 F (by kernel_rfl) ?_; intro w1 hE hok; have M1 := M.later hE
  refine mK hok rfl rfl (fun a' w' F' E' => o_loadA (M1.later E') (F'.ev rfl) (by repeat (first | exact .here | apply Has.there)) (by first | assumption | rfl) ⟨Ext.refl _ _, rfl⟩) ?_
  refine mK hok rfl rfl (fun a' w' F' E' => o_move (F'.ev rfl) ⟨Ext.refl _ _, rfl⟩) ?_
  refine mK hok rfl rfl (fun a' w' F' E' => o_loadA (M1.later E') (F'.ev rfl) (by repeat (first | exact .here | apply Has.there)) (by first | assumption | rfl) ⟨Ext.refl _ _, rfl⟩) ?_
  refine mK hok rfl rfl (fun a' w' F' E' => o_move (F'.ev rfl) ⟨Ext.refl _ _, rfl⟩) ?_
  obtain ⟨hl512, _, hasc⟩ := validRs_iff.1 h1
  have hnw := h5
  simp only [isTime, Bool.and_eq_true, decide_eq_true_eq] at hnw
  obtain ⟨x, hx0⟩ : ∃ x : RouV, x = ⟨t, nb, d, laterV now 10⟩ := ⟨_, rfl⟩
  have hL : learnV l now t nb d = if 512 < (putR l x (decide (d.met = 65535))).length then ([], 10) else (putR l x (decide (d.met = 65535)), 0) := by
    unfold learnV
    rw [h1, h2, h3, decide_eq_false h4, h5, ← hx0]
    rfl
  have hxx : IsRo x := by rw [hx0]; exact ⟨ht, trivial⟩
  have hb : putAll [(0, 35), (35, 1), (36, 2), (38, 1)] roZ [(0, dvC t), (1, [.int .u64 nb]), (2, diC d), (3, [.int .i64 (laterV now 10)])] = some (roC x) := by rw [hx0]; exact ro_build (o := ⟨t, nb, d, laterV now 10⟩) ⟨ht, trivial⟩
  refine mK hok rfl rfl (fun a' w' F' E' => o_call (F'.ev rfl) (F'.evs rfl) (Cal.mono (rafter_c _ _ (by first | assumption | omega | exact And.left (by assumption) | exact (by assumption : SlAt _ _ _ _ _).later (M1.later E').ext | exact TapeS.later (by assumption) (M1.later E').ext | exact M.heap (by repeat (first | exact .here | apply Has.there)) | decide) (by first | assumption | omega | exact And.left (by assumption) | exact (by assumption : SlAt _ _ _ _ _).later (M1.later E').ext | exact TapeS.later (by assumption) (M1.later E').ext | exact M.heap (by repeat (first | exact .here | apply Has.there)) | decide) (by first | assumption | omega | exact And.left (by assumption) | exact (by assumption : SlAt _ _ _ _ _).later (M1.later E').ext | exact TapeS.later (by assumption) (M1.later E').ext | exact M.heap (by repeat (first | exact .here | apply Has.there)) | decide) (by first | assumption | omega | exact And.left (by assumption) | exact (by assumption : SlAt _ _ _ _ _).later (M1.later E').ext | exact TapeS.later (by assumption) (M1.later E').ext | exact M.heap (by repeat (first | exact .here | apply Has.there)) | decide) _) fun _ _ hh => ⟨hh.2, hh.1⟩)) ?_
  refine mK hok rfl rfl (fun a' w' F' E' => o_build F' rfl (by assumption) ⟨Ext.refl _ _, rfl⟩) ?_
  refine mAl hok rfl rfl (Al.stays _ _) (fun w => Ext.alloc w _) (fun a' w' F' E' => run_al) ?_
  refine mDone rfl rfl ?_; clear F; clear M; intro a w F hE2 hX hTT hDD hPP; have M := M1.later hE2; (try dsimp only at F); obtain ⟨b12, e_b12, g_b12, q_b12⟩ := hX 6 _ rfl; replace F := F.know (d := 12) e_b12; replace M := Mem.al (pre := []) M M1 q_b12 g_b12 (by intro p hp; cases hp); clear M1; clear hX; clear hE2; clear hok; clear hE; clear hTT; clear hDD; clear hPP; clear e_b12; clear g_b12; clear q_b12; (try dsimp only [ptrTo] at F); (try simp only [List.cons_append, List.nil_append] at M)
  refine stepN rfl F (o_storeA M (F.ev rfl) (F.ev rfl) (ro_len (by first | assumption | trivial | exact And.left (by assumption))) (ro_one _) (by repeat (first | exact .here | apply Has.there)) (put_all (by rw [(ro_len (by first | assumption | trivial | exact And.left (by assumption)))]; first | rfl | rw [(ro_len (by first | assumption | trivial | exact And.left (by assumption)))])) (by repeat (first | exact .here | apply Upd.there)) ?_); clear F; clear M; intro w M a F
  with_reducible refine l_nil ?_
  with_reducible refine q_then ?_
  with_reducible refine c_seq ?_
  with_reducible refine c_region ?_
  refine stepD rfl F rfl (o_assign (F.ev rfl) ?_); clear F; clear a; intro a F
  with_reducible refine l_nil ?_
  with_reducible refine q_then ?_
  with_reducible refine c_seq ?_
  with_reducible refine c_region ?_
  refine stepD rfl F rfl (o_fieldAddr (F.ev rfl) ?_); clear F; clear a; intro a F
  refine stepD rfl F rfl (o_load1 M (F.ev rfl) (by repeat (first | exact .here | apply Has.there)) (by assumption) ?_); clear F; clear a; intro a F
  refine stepD rfl F rfl (o_eql (F.ev rfl) (F.ev rfl) ?_); clear F; clear a; intro a F
  refine stepD rfl F rfl (o_assign (F.ev rfl) ?_); clear F; clear a; intro a F
  with_reducible refine l_nil ?_
  with_reducible refine q_then ?_
  with_reducible refine c_seq ?_
  with_reducible refine c_seq ?_
  with_reducible refine c_region ?_
  refine stepD rfl F rfl (o_move (F.ev rfl) ?_); clear F; clear a; intro a F
  refine stepD rfl F rfl (o_lenSl (F.ev rfl) ?_); clear F; clear a; intro a F
  refine stepD rfl F rfl (o_move (F.ev rfl) ?_); clear F; clear a; intro a F
  with_reducible refine l_nil ?_
  with_reducible refine q_then ?_
  with_reducible refine c_block ?_
  have hpl := mergeG_len (fun y => cmpR y x) x (done := decide (d.met = 65535)) (l := l)
  have hpl2 : (mergeG (fun y => cmpR y x) x (decide (d.met = 65535)) l).length ≤ 513 := by split at hpl <;> omega
  rw [← putR_merge hasc] at hL
  clear hpl
  generalize hR : mergeG (fun y => cmpR y x) x (decide (d.met = 65535)) l = R at *
  have c2 : ∀ u ent w, R.length ≤ 512 → OwnS 53 39 u R.length (rosC R) ent → Mem [] W w ent → ∃ u' ent, Value.tuple [u, .int .i64 0].toArray = .tuple [u', .int .i64 (learnV l now t nb d).2].toArray ∧ OwnS 53 39 u' (learnV l now t nb d).1.length (rosC (learnV l now t nb d).1) ent ∧ Mem [] W w ent := by
    intro u ent w h h2 h3
    rw [if_neg (by omega)] at hL
    rw [hL]
    exact ⟨_, _, rfl, h2, h3⟩
  clear hx0 hb
  have g0 := ro_len hxx
  have g1 := ro_all hxx
  refine c_loop (fun m a w => ∃ (i : Nat) (u : Value) (dn : Bool) (out : List RouV) (es : List (Nat × Obj)), m = l.length - i ∧ i ≤ l.length ∧ OwnS 53 39 u out.length (rosC out) es ∧ out ++ mergeG (fun y => cmpR y x) x dn (l.drop i) = R ∧ Frm a 83 [] [(49, .int .i64 i), (48, .int .i64 l.length), (47, .slice q l.length cap), (13, u), (14, .bool dn), (12, .pointer (some ⟨b12, 0, none⟩))] ∧ Mem [] W w ((b12, .cells (roC x).toArray 53 (0, 0)) :: es)) l.length ⟨0, _, decide (d.met = 65535), [], [], rfl, by omega, OwnS.nil _ _, hR, F.only [49, 48, 47, 13, 14, 12] rfl, M.sub (by repeat (first | exact .refl _ | apply List.Sublist.cons_cons | apply List.Sublist.cons))⟩ ?_
  clear F M a w
  rintro m a w ⟨i, u, dn, out, es, hm', hi, hOs, hout, F, M⟩
  have hol : out.length ≤ 513 := by
    have := congrArg List.length hout
    rw [List.length_append] at this
    omega
  by_cases hlt : i < l.length
  · obtain ⟨b, o, cs, t', fz, rfl, hb, hs⟩ := hm (by omega)
    obtain ⟨y, hy0⟩ : ∃ y, y = l[i] := ⟨_, rfl⟩
    have hyi : IsRo y := by rw [hy0]; exact hx _ (List.getElem_mem hlt)
    have f1 : seg cs (o + (i : Int).toNat * 39) 39 = some (roC y) := by rw [hy0]; exact seg_el (ros_len hx) hs hlt (by omega)
    rw [← List.getElem_cons_drop hlt, ← hy0, mergeG_cons] at hout
    have f2 := ro_len hyi
    have f4 := ro_all hyi
    clear hy0
    with_reducible refine c_seq ?_
    with_reducible refine c_region ?_
    refine stepD rfl F rfl (o_lssT (F.ev rfl) (F.ev rfl) (by omega) ?_); clear F; clear a; intro a F
    with_reducible refine l_nil ?_
    with_reducible refine q_then ?_
    with_reducible refine c_seq ?_
    refine c_true F rfl rfl ?_
    with_reducible refine c_skip ?_
    with_reducible refine q_then ?_
    with_reducible refine c_seq ?_
    with_reducible refine c_block ?_
    with_reducible refine c_seq ?_
    with_reducible refine c_region ?_
    refine stepD rfl F rfl (o_indexSl (F.ev rfl) (F.ev rfl) (by omega) (by omega) ?_); clear F; clear a; intro a F
    refine stepD rfl F rfl (o_loadWA M (F.ev rfl) (by assumption) (by assumption) ?_); clear F; clear a; intro a F
    refine stepD rfl F rfl (o_alloc M ?_); clear F; clear M; intro b16 w M a F
    refine stepN rfl F (o_storeA M (F.ev rfl) (F.ev rfl) (ro_len (by first | assumption | trivial | exact And.left (by assumption))) (ro_one _) (by repeat (first | exact .here | apply Has.there)) (put_all (by rw [(ro_len (by first | assumption | trivial | exact And.left (by assumption)))]; first | rfl | rw [(ro_len (by first | assumption | trivial | exact And.left (by assumption)))])) (by repeat (first | exact .here | apply Upd.there)) ?_); clear F; clear M; intro w M a F
    with_reducible refine l_nil ?_
    with_reducible refine q_then ?_
    with_reducible refine c_seq ?_
    with_reducible refine c_region ?_
    refine stepD rfl F rfl (o_loadA M (F.ev rfl) (by repeat (first | exact .here | apply Has.there)) (by assumption) ?_); clear F; clear a; intro a F
    refine stepD rfl F rfl (o_loadA M (F.ev rfl) (by repeat (first | exact .here | apply Has.there)) (by assumption) ?_); clear F; clear a; intro a F
    refine stepD rfl F rfl (o_call (F.ev rfl) (F.evs rfl) (Cal.mono (reforder_c _ _ (by first | assumption | omega | exact And.left (by assumption) | exact (by assumption : SlAt _ _ _ _ _).later M.ext | exact TapeS.later (by assumption) M.ext | exact M.heap (by repeat (first | exact .here | apply Has.there)) | decide) (by first | assumption | omega | exact And.left (by assumption) | exact (by assumption : SlAt _ _ _ _ _).later M.ext | exact TapeS.later (by assumption) M.ext | exact M.heap (by repeat (first | exact .here | apply Has.there)) | decide) _) ?_)); clear F; clear a; rintro _ w ⟨rfl, hE⟩ a F; replace M := M.later hE; clear hE
    refine stepD rfl F rfl (o_assign (F.ev rfl) ?_); clear F; clear a; intro a F
    with_reducible refine l_nil ?_
    with_reducible refine q_then ?_
    with_reducible refine c_seq ?_
    with_reducible refine c_seq ?_
    with_reducible refine c_region ?_
    refine stepD rfl F rfl (o_move (F.ev rfl) ?_); clear F; clear a; intro a F
    refine stepD rfl F rfl (o_geq (F.ev rfl) (F.ev rfl) ?_); clear F; clear a; intro a F
    refine stepD rfl F rfl (o_move (F.ev rfl) ?_); clear F; clear a; intro a F
    refine b_split F 58 rfl (fun h1 => ?_) (fun h1 => ?_)
    · skip
      rw [h1] at F; replace h1 := of_decide_eq_true h1
      refine stepG rfl F rfl rfl rfl (o_move (F.ev rfl) ?_); clear F; clear a; intro a F
      refine stepG rfl F rfl rfl rfl (o_not (F.ev rfl) ?_); clear F; clear a; intro a F
      refine stepD rfl F rfl (o_pickT (F.ev rfl) (F.ev rfl) ?_); clear F; clear a; intro a F
      with_reducible refine l_nil ?_
      with_reducible refine q_then ?_
      refine c_if F rfl (fun h2 => ?_) (fun h2 => ?_)
      · skip
        rw [h2] at F; replace h2 := false_of_not h2; (try rw [h2] at F)
        with_reducible refine c_seq ?_
        with_reducible refine c_region ?_
        refine stepD rfl F rfl (o_move (F.ev rfl) ?_); clear F; clear a; intro a F
        refine stepD rfl F rfl (o_loadA M (F.ev rfl) (by repeat (first | exact .here | apply Has.there)) (by assumption) ?_); clear F; clear a; intro a F
        refine stepD rfl F rfl (o_buildSlice F M rfl rfl rfl (ro_build1 (by first | assumption | trivial | exact And.left (by assumption))) ?_); clear F; clear M; intro bs64 w M a F
        refine stepD rfl F rfl (o_append1 (enc := roC) (by assumption) M (by repeat (first | exact .here | apply TailAt.cons)) (F.ev rfl) (F.ev rfl) (SrcOf.cells' (M.heap .here) (sg_all (ro_len (by first | assumption | trivial | exact And.left (by assumption)))) (ro_one _)) (by first | omega | (simp; omega)) ?_); clear F; clear M; intro v65 es65 w hO65 M a F; (try dsimp only at M)
        refine stepD rfl F rfl (o_assign (F.ev rfl) ?_); clear F; clear a; intro a F
        with_reducible refine l_nil ?_
        with_reducible refine q_then ?_
        with_reducible refine c_region ?_
        refine stepD rfl F rfl (o_assign (F.ev rfl) ?_); clear F; clear a; intro a F
        with_reducible refine l_nil ?_
        with_reducible refine q_then ?_
        with_reducible refine c_seq ?_
        with_reducible refine c_region ?_
        refine stepD rfl F rfl (o_move (F.ev rfl) ?_); clear F; clear a; intro a F
        refine stepD rfl F rfl (o_neq (F.ev rfl) (F.ev rfl) ?_); clear F; clear a; intro a F
        with_reducible refine l_nil ?_
        with_reducible refine q_then ?_
        refine c_if F rfl (fun h3 => ?_) (fun h3 => ?_)
        · skip
          rw [h3] at F; replace h3 := ne_of_bne h3
          with_reducible refine c_region ?_
          refine stepD rfl F rfl (o_move (F.ev rfl) ?_); clear F; clear a; intro a F
          refine stepD rfl F rfl (o_loadA M (F.ev rfl) (by repeat (first | exact .here | apply Has.there)) (by assumption) ?_); clear F; clear a; intro a F
          refine stepD rfl F rfl (o_buildSlice F M rfl rfl rfl (ro_build1 (by first | assumption | trivial | exact And.left (by assumption))) ?_); clear F; clear M; intro bs70 w M a F
          refine stepD rfl F rfl (o_append1 (enc := roC) (by assumption) M (by repeat (first | exact .here | apply TailAt.cons)) (F.ev rfl) (F.ev rfl) (SrcOf.cells' (M.heap .here) (sg_all (ro_len (by first | assumption | trivial | exact And.left (by assumption)))) (ro_one _)) (by first | omega | (simp; omega)) ?_); clear F; clear M; intro v71 es71 w hO71 M a F; (try dsimp only at M)
          refine stepD rfl F rfl (o_assign (F.ev rfl) ?_); clear F; clear a; intro a F
          with_reducible refine l_nil ?_
          with_reducible refine q_inB ?_
          with_reducible refine q_then ?_
          with_reducible refine c_region ?_
          refine stepD rfl F rfl (o_add (F.ev rfl) (F.ev rfl) (w_i64 (by omega) (by omega)) ?_); clear F; clear a; intro a F
          refine stepD rfl F rfl (o_move (F.ev rfl) ?_); clear F; clear a; intro a F
          with_reducible refine l_nil ?_
          with_reducible refine q_then ?_
          exact ⟨_, by omega, i + 1, _, _, _, _, rfl, by omega, by assumption, by rw [← hout]; clear hout hR hL c1 c2; simp [*], F.only [49, 48, 47, 13, 14, 12] rfl, M.sub (by repeat (first | exact .refl _ | apply List.Sublist.cons))⟩
        · skip
          rw [h3] at F; replace h3 := eq_of_bne_false h3
          with_reducible refine c_skip ?_
          with_reducible refine q_inB ?_
          with_reducible refine q_then ?_
          with_reducible refine c_region ?_
          refine stepD rfl F rfl (o_add (F.ev rfl) (F.ev rfl) (w_i64 (by omega) (by omega)) ?_); clear F; clear a; intro a F
          refine stepD rfl F rfl (o_move (F.ev rfl) ?_); clear F; clear a; intro a F
          with_reducible refine l_nil ?_
          with_reducible refine q_then ?_
          exact ⟨_, by omega, i + 1, _, _, _, _, rfl, by omega, by assumption, by rw [← hout]; clear hout hR hL c1 c2; simp [*], F.only [49, 48, 47, 13, 14, 12] rfl, M.sub (by repeat (first | exact .refl _ | apply List.Sublist.cons))⟩
      · skip
        rw [h2] at F; replace h2 := true_of_not h2; (try rw [h2] at F)
        with_reducible refine c_skip ?_
        with_reducible refine q_then ?_
        with_reducible refine c_seq ?_
        with_reducible refine c_region ?_
        refine stepD rfl F rfl (o_move (F.ev rfl) ?_); clear F; clear a; intro a F
        refine stepD rfl F rfl (o_neq (F.ev rfl) (F.ev rfl) ?_); clear F; clear a; intro a F
        with_reducible refine l_nil ?_
        with_reducible refine q_then ?_
        refine c_if F rfl (fun h3 => ?_) (fun h3 => ?_)
        · skip
          rw [h3] at F; replace h3 := ne_of_bne h3
          with_reducible refine c_region ?_
          refine stepD rfl F rfl (o_move (F.ev rfl) ?_); clear F; clear a; intro a F
          refine stepD rfl F rfl (o_loadA M (F.ev rfl) (by repeat (first | exact .here | apply Has.there)) (by assumption) ?_); clear F; clear a; intro a F
          refine stepD rfl F rfl (o_buildSlice F M rfl rfl rfl (ro_build1 (by first | assumption | trivial | exact And.left (by assumption))) ?_); clear F; clear M; intro bs70 w M a F
          refine stepD rfl F rfl (o_append1 (enc := roC) (by assumption) M (by repeat (first | exact .here | apply TailAt.cons)) (F.ev rfl) (F.ev rfl) (SrcOf.cells' (M.heap .here) (sg_all (ro_len (by first | assumption | trivial | exact And.left (by assumption)))) (ro_one _)) (by first | omega | (simp; omega)) ?_); clear F; clear M; intro v71 es71 w hO71 M a F; (try dsimp only at M)
          refine stepD rfl F rfl (o_assign (F.ev rfl) ?_); clear F; clear a; intro a F
          with_reducible refine l_nil ?_
          with_reducible refine q_inB ?_
          with_reducible refine q_then ?_
          with_reducible refine c_region ?_
          refine stepD rfl F rfl (o_add (F.ev rfl) (F.ev rfl) (w_i64 (by omega) (by omega)) ?_); clear F; clear a; intro a F
          refine stepD rfl F rfl (o_move (F.ev rfl) ?_); clear F; clear a; intro a F
          with_reducible refine l_nil ?_
          with_reducible refine q_then ?_
          exact ⟨_, by omega, i + 1, _, _, _, _, rfl, by omega, by assumption, by rw [← hout]; clear hout hR hL c1 c2; simp [*], F.only [49, 48, 47, 13, 14, 12] rfl, M.sub (by repeat (first | exact .refl _ | apply List.Sublist.cons))⟩
        · skip
          rw [h3] at F; replace h3 := eq_of_bne_false h3
          with_reducible refine c_skip ?_
          with_reducible refine q_inB ?_
          with_reducible refine q_then ?_
          with_reducible refine c_region ?_
          refine stepD rfl F rfl (o_add (F.ev rfl) (F.ev rfl) (w_i64 (by omega) (by omega)) ?_); clear F; clear a; intro a F
          refine stepD rfl F rfl (o_move (F.ev rfl) ?_); clear F; clear a; intro a F
          with_reducible refine l_nil ?_
          with_reducible refine q_then ?_
          exact ⟨_, by omega, i + 1, _, _, _, _, rfl, by omega, by assumption, by rw [← hout]; clear hout hR hL c1 c2; simp [*], F.only [49, 48, 47, 13, 14, 12] rfl, M.sub (by repeat (first | exact .refl _ | apply List.Sublist.cons))⟩
    · skip
      rw [h1] at F; replace h1 := of_decide_eq_false h1
      refine stepOff F rfl rfl rfl rfl ?_; clear F; clear a; intro a F
      refine stepOff F rfl rfl rfl rfl ?_; clear F; clear a; intro a F
      refine stepD rfl F rfl (o_pickF (F.ev rfl) (F.ev rfl) ?_); clear F; clear a; intro a F
      with_reducible refine l_nil ?_
      with_reducible refine q_then ?_
      refine c_false F rfl rfl ?_
      with_reducible refine c_skip ?_
      with_reducible refine q_then ?_
      with_reducible refine c_seq ?_
      with_reducible refine c_region ?_
      refine stepD rfl F rfl (o_move (F.ev rfl) ?_); clear F; clear a; intro a F
      refine stepD rfl F rfl (o_neqT (F.ev rfl) (F.ev rfl) (by omega) ?_); clear F; clear a; intro a F
      with_reducible refine l_nil ?_
      with_reducible refine q_then ?_
      refine c_true F rfl rfl ?_
      with_reducible refine c_region ?_
      refine stepD rfl F rfl (o_move (F.ev rfl) ?_); clear F; clear a; intro a F
      refine stepD rfl F rfl (o_loadA M (F.ev rfl) (by repeat (first | exact .here | apply Has.there)) (by assumption) ?_); clear F; clear a; intro a F
      refine stepD rfl F rfl (o_buildSlice F M rfl rfl rfl (ro_build1 (by first | assumption | trivial | exact And.left (by assumption))) ?_); clear F; clear M; intro bs70 w M a F
      refine stepD rfl F rfl (o_append1 (enc := roC) (by assumption) M (by repeat (first | exact .here | apply TailAt.cons)) (F.ev rfl) (F.ev rfl) (SrcOf.cells' (M.heap .here) (sg_all (ro_len (by first | assumption | trivial | exact And.left (by assumption)))) (ro_one _)) (by first | omega | (simp; omega)) ?_); clear F; clear M; intro v71 es71 w hO71 M a F; (try dsimp only at M)
      refine stepD rfl F rfl (o_assign (F.ev rfl) ?_); clear F; clear a; intro a F
      with_reducible refine l_nil ?_
      with_reducible refine q_inB ?_
      with_reducible refine q_then ?_
      with_reducible refine c_region ?_
      refine stepD rfl F rfl (o_add (F.ev rfl) (F.ev rfl) (w_i64 (by omega) (by omega)) ?_); clear F; clear a; intro a F
      refine stepD rfl F rfl (o_move (F.ev rfl) ?_); clear F; clear a; intro a F
      with_reducible refine l_nil ?_
      with_reducible refine q_then ?_
      exact ⟨_, by omega, i + 1, _, _, _, _, rfl, by omega, by assumption, by rw [← hout]; clear hout hR hL c1 c2; have hc : cmpR y x ≠ 0 := (by omega); simp [*], F.only [49, 48, 47, 13, 14, 12] rfl, M.sub (by repeat (first | exact .refl _ | apply List.Sublist.cons))⟩
  · obtain rfl : i = l.length := by omega
    rw [List.drop_length, mergeG_nil] at hout
    cases dn
    · have hout : out ++ [x] = R := hout
      subst hout
      with_reducible refine c_seq ?_
      with_reducible refine c_region ?_
      refine stepD rfl F rfl (o_lssF (F.ev rfl) (F.ev rfl) (by omega) ?_); clear F; clear a; intro a F
      with_reducible refine l_nil ?_
      with_reducible refine q_then ?_
      with_reducible refine c_seq ?_
      refine c_false F rfl rfl ?_
      with_reducible refine c_exit ?_
      with_reducible refine q_thenX ?_
      with_reducible refine q_thenX ?_
      with_reducible refine q_inBX ?_
      with_reducible refine q_then ?_
      with_reducible refine c_seq ?_
      with_reducible refine c_seq ?_
      with_reducible refine c_region ?_
      refine stepD rfl F rfl (o_move (F.ev rfl) ?_); clear F; clear a; intro a F
      refine stepD rfl F rfl (o_not (F.ev rfl) ?_); clear F; clear a; intro a F
      with_reducible refine l_nil ?_
      with_reducible refine q_then ?_
      refine c_true F rfl rfl ?_
      with_reducible refine c_region ?_
      refine stepD rfl F rfl (o_move (F.ev rfl) ?_); clear F; clear a; intro a F
      refine stepD rfl F rfl (o_loadA M (F.ev rfl) (by repeat (first | exact .here | apply Has.there)) (by assumption) ?_); clear F; clear a; intro a F
      refine stepD rfl F rfl (o_buildSlice F M rfl rfl rfl (ro_build1 (by first | assumption | trivial | exact And.left (by assumption))) ?_); clear F; clear M; intro bs77 w M a F
      refine stepD rfl F rfl (o_append1 (enc := roC) (by assumption) M (by repeat (first | exact .here | apply TailAt.cons)) (F.ev rfl) (F.ev rfl) (SrcOf.cells' (M.heap .here) (sg_all (ro_len (by first | assumption | trivial | exact And.left (by assumption)))) (ro_one _)) (by first | omega | (simp; omega)) ?_); clear F; clear M; intro v78 es78 w hO78 M a F; (try dsimp only at M)
      refine stepD rfl F rfl (o_assign (F.ev rfl) ?_); clear F; clear a; intro a F
      with_reducible refine l_nil ?_
      with_reducible refine q_then ?_
      with_reducible refine c_seq ?_
      with_reducible refine c_seq ?_
      with_reducible refine c_region ?_
      refine stepD rfl F rfl (o_move (F.ev rfl) ?_); clear F; clear a; intro a F
      refine stepD rfl F rfl (o_lenOwn (F.ev rfl) (by assumption) ?_); clear F; clear a; intro a F
      refine stepD rfl F rfl (o_gtr (F.ev rfl) (F.ev rfl) ?_); clear F; clear a; intro a F
      with_reducible refine l_nil ?_
      with_reducible refine q_then ?_
      refine c_if F rfl (fun h1 => ?_) (fun h1 => ?_)
      · skip
        rw [h1] at F; replace h1 := of_decide_eq_true h1
        with_reducible refine c_seq ?_
        with_reducible refine c_region ?_
        refine stepD rfl F rfl (o_assign (F.ev rfl) ?_); clear F; clear a; intro a F
        refine stepD rfl F rfl (o_assign (F.ev rfl) ?_); clear F; clear a; intro a F
        with_reducible refine l_nil ?_
        with_reducible refine q_then ?_
        with_reducible refine c_ret ?_
        with_reducible refine q_thenR ?_
        refine p_ret F rfl (.cons (.tmp (F.ev rfl)) (.cons (.tmp (F.ev rfl)) .nil)) ?_; (try dsimp only [oneOr])
        exact c1 10 _ (by rw [hL, if_pos (by omega)]) rfl _ M.ext
      · skip
        rw [h1] at F; replace h1 := of_decide_eq_false h1
        with_reducible refine c_skip ?_
        with_reducible refine q_then ?_
        with_reducible refine c_seq ?_
        with_reducible refine c_region ?_
        refine stepD rfl F rfl (o_move (F.ev rfl) ?_); clear F; clear a; intro a F
        refine stepD rfl F rfl (o_assign (F.ev rfl) ?_); clear F; clear a; intro a F
        refine stepD rfl F rfl (o_assign (F.ev rfl) ?_); clear F; clear a; intro a F
        with_reducible refine l_nil ?_
        with_reducible refine q_then ?_
        with_reducible refine c_ret ?_
        refine p_ret F rfl (.cons (.tmp (F.ev rfl)) (.cons (.tmp (F.ev rfl)) .nil)) ?_; (try dsimp only [oneOr])
        exact c2 _ _ _ (by omega) (by assumption) (M.sub (by repeat (first | exact .refl _ | apply List.Sublist.cons)))
    · have hout : out ++ [] = R := hout
      rw [List.append_nil] at hout
      subst hout
      with_reducible refine c_seq ?_
      with_reducible refine c_region ?_
      refine stepD rfl F rfl (o_lssF (F.ev rfl) (F.ev rfl) (by omega) ?_); clear F; clear a; intro a F
      with_reducible refine l_nil ?_
      with_reducible refine q_then ?_
      with_reducible refine c_seq ?_
      refine c_false F rfl rfl ?_
      with_reducible refine c_exit ?_
      with_reducible refine q_thenX ?_
      with_reducible refine q_thenX ?_
      with_reducible refine q_inBX ?_
      with_reducible refine q_then ?_
      with_reducible refine c_seq ?_
      with_reducible refine c_seq ?_
      with_reducible refine c_region ?_
      refine stepD rfl F rfl (o_move (F.ev rfl) ?_); clear F; clear a; intro a F
      refine stepD rfl F rfl (o_not (F.ev rfl) ?_); clear F; clear a; intro a F
      with_reducible refine l_nil ?_
      with_reducible refine q_then ?_
      refine c_false F rfl rfl ?_
      with_reducible refine c_skip ?_
      with_reducible refine q_then ?_
      with_reducible refine c_seq ?_
      with_reducible refine c_seq ?_
      with_reducible refine c_region ?_
      refine stepD rfl F rfl (o_move (F.ev rfl) ?_); clear F; clear a; intro a F
      refine stepD rfl F rfl (o_lenOwn (F.ev rfl) (by assumption) ?_); clear F; clear a; intro a F
      refine stepD rfl F rfl (o_gtr (F.ev rfl) (F.ev rfl) ?_); clear F; clear a; intro a F
      with_reducible refine l_nil ?_
      with_reducible refine q_then ?_
      refine c_if F rfl (fun h1 => ?_) (fun h1 => ?_)
      · skip
        rw [h1] at F; replace h1 := of_decide_eq_true h1
        with_reducible refine c_seq ?_
        with_reducible refine c_region ?_
        refine stepD rfl F rfl (o_assign (F.ev rfl) ?_); clear F; clear a; intro a F
        refine stepD rfl F rfl (o_assign (F.ev rfl) ?_); clear F; clear a; intro a F
        with_reducible refine l_nil ?_
        with_reducible refine q_then ?_
        with_reducible refine c_ret ?_
        with_reducible refine q_thenR ?_
        refine p_ret F rfl (.cons (.tmp (F.ev rfl)) (.cons (.tmp (F.ev rfl)) .nil)) ?_; (try dsimp only [oneOr])
        exact c1 10 _ (by rw [hL, if_pos (by omega)]) rfl _ M.ext
      · skip
        rw [h1] at F; replace h1 := of_decide_eq_false h1
        with_reducible refine c_skip ?_
        with_reducible refine q_then ?_
        with_reducible refine c_seq ?_
        with_reducible refine c_region ?_
        refine stepD rfl F rfl (o_move (F.ev rfl) ?_); clear F; clear a; intro a F
        refine stepD rfl F rfl (o_assign (F.ev rfl) ?_); clear F; clear a; intro a F
        refine stepD rfl F rfl (o_assign (F.ev rfl) ?_); clear F; clear a; intro a F
        with_reducible refine l_nil ?_
        with_reducible refine q_then ?_
        with_reducible refine c_ret ?_
        refine p_ret F rfl (.cons (.tmp (F.ev rfl)) (.cons (.tmp (F.ev rfl)) .nil)) ?_; (try dsimp only [oneOr])
        exact c2 _ _ _ (by omega) (by assumption) (M.sub (by repeat (first | exact .refl _ | apply List.Sublist.cons)))
end Go.Proofs.YtilgoepokaaleaaGreat
/-! YA -/
namespace Go.Proofs.YtilgoepokaaleaaGreat
set_option linter.unusedVariables false
set_option linter.unusedSimpArgs false
open Go.RowKit
attribute [local irreducible] OpTo wpListIn Code.wpIn MW Cal
theorem seqE_c {bt : Nat} {p : Option Addr} {len cap k : Nat} {xs : List Int} (W : World) (hT : TapeS W bt p len xs) (hb : W.heap[bt]? = some (tobj p len cap k)) :
    Cal Tryz.prog 88 [.pointer (some ⟨bt, 0, none⟩)].toArray W fun v w' => ∃ x k', v = .int .u16 x ∧ Mem [bt] W w' [(bt, tobj p len cap k')] := by
  refine fn_ofM (n := 7) [bt] Tryz.func88 rfl rfl rfl ?_
  intro a w F M hwW
  replace M := M.came hwW hb (by simp) (by simp)
  with_reducible refine c_seq ?_
  with_reducible refine c_region ?_
  refine stepD rfl F rfl (o_assign (F.ev rfl) ?_); clear F; clear a; intro a F
  with_reducible refine l_nil ?_
  with_reducible refine q_then ?_
  with_reducible refine c_seq ?_
  with_reducible refine c_region ?_
  refine stepD rfl F rfl (o_move (F.ev rfl) ?_); clear F; clear a; intro a F
  (refine stepD rfl F rfl (o_call (F.ev rfl) (F.evs rfl) (Cal.mono (nextE_c 6 (by omega) (by omega) _ (hT.later M.ext) (M.heap .here) ) ?_)); clear F; clear a; have M0 := M; clear M; rintro _ w ⟨x, k', rfl, hx, N⟩ a F)
  replace M := M0.turn1 N .here
  clear M0 N
  refine stepD rfl F rfl (o_sub (F.ev rfl) (F.ev rfl) (w_i64 (by omega) (by omega)) ?_); clear F; clear a; intro a F
  refine stepD rfl F rfl (o_conv (F.ev rfl) rfl ?_); clear F; clear a; intro a F
  refine stepD rfl F rfl (o_assign (F.ev rfl) ?_); clear F; clear a; intro a F
  with_reducible refine l_nil ?_
  with_reducible refine q_then ?_
  with_reducible refine c_ret ?_
  refine p_ret F rfl (.cons (.tmp (F.ev rfl)) .nil) ?_
  exact ⟨_, k', rfl, M⟩
theorem costE_c {bt : Nat} {p : Option Addr} {len cap k : Nat} {xs : List Int} (W : World) (hT : TapeS W bt p len xs) (hb : W.heap[bt]? = some (tobj p len cap k)) :
    Cal Tryz.prog 44 [.pointer (some ⟨bt, 0, none⟩)].toArray W fun v w' => ∃ x k', v = .int .i64 x ∧ (0 ≤ x ∧ x ≤ 65534) ∧ Mem [bt] W w' [(bt, tobj p len cap k')] := by
  refine fn_ofM (n := 18) [bt] Tryz.func44 rfl rfl rfl ?_
  intro a w F M hwW
  replace M := M.came hwW hb (by simp) (by simp)
  with_reducible refine c_seq ?_
  with_reducible refine c_region ?_
  refine stepD rfl F rfl (o_assign (F.ev rfl) ?_); clear F; clear a; intro a F
  with_reducible refine l_nil ?_
  with_reducible refine q_then ?_
  with_reducible refine c_seq ?_
  with_reducible refine c_seq ?_
  with_reducible refine c_region ?_
  refine stepD rfl F rfl (o_move (F.ev rfl) ?_); clear F; clear a; intro a F
  (refine stepD rfl F rfl (o_call (F.ev rfl) (F.evs rfl) (Cal.mono (nextE_c 6 (by omega) (by omega) _ (hT.later M.ext) (M.heap .here) ) ?_)); clear F; clear a; have M0 := M; clear M; rintro _ w ⟨x, k', rfl, hx, N⟩ a F)
  replace M := M0.turn1 N .here
  clear M0 N
  by_cases c1 : x = 0
  · with_reducible refine l_nil ?_
    with_reducible refine q_then ?_
    with_reducible refine c_block ?_
    with_reducible refine c_seq ?_
    with_reducible refine c_region ?_
    refine stepD rfl F rfl (o_eqlT (F.ev rfl) (F.ev rfl) (by omega) ?_); clear F; clear a; intro a F
    refine stepD rfl F rfl (o_assign (F.ev rfl) ?_); clear F; clear a; intro a F
    with_reducible refine l_nil ?_
    with_reducible refine q_then ?_
    refine c_true F rfl rfl ?_
    with_reducible refine c_seq ?_
    with_reducible refine c_region ?_
    refine stepD rfl F rfl (o_move (F.ev rfl) ?_); clear F; clear a; intro a F
    (refine stepD rfl F rfl (o_call (F.ev rfl) (F.evs rfl) (Cal.mono (nextE_c 4 (by omega) (by omega) _ (hT.later M.ext) (M.heap .here) ) ?_)); clear F; clear a; have M0 := M; clear M; rintro _ w ⟨x2, k2, rfl, hx2, N⟩ a F)
    replace M := M0.turn1 N .here
    refine stepD rfl F rfl (o_assign (F.ev rfl) ?_); clear F; clear a; intro a F
    with_reducible refine l_nil ?_
    with_reducible refine q_then ?_
    with_reducible refine c_ret ?_
    with_reducible refine q_inBR ?_
    with_reducible refine q_thenR ?_
    refine p_ret F rfl (.cons (.tmp (F.ev rfl)) .nil) ?_
    exact ⟨_, k2, rfl, by omega, M⟩
  by_cases c2 : x = 1
  · with_reducible refine l_nil ?_
    with_reducible refine q_then ?_
    with_reducible refine c_block ?_
    with_reducible refine c_seq ?_
    with_reducible refine c_region ?_
    refine stepD rfl F rfl (o_eqlF (F.ev rfl) (F.ev rfl) (by omega) ?_); clear F; clear a; intro a F
    refine stepD rfl F rfl (o_assign (F.ev rfl) ?_); clear F; clear a; intro a F
    with_reducible refine l_nil ?_
    with_reducible refine q_then ?_
    refine c_false F rfl rfl ?_
    with_reducible refine c_seq ?_
    with_reducible refine c_region ?_
    refine stepD rfl F rfl (o_eqlT (F.ev rfl) (F.ev rfl) (by omega) ?_); clear F; clear a; intro a F
    refine stepD rfl F rfl (o_assign (F.ev rfl) ?_); clear F; clear a; intro a F
    with_reducible refine l_nil ?_
    with_reducible refine q_then ?_
    refine c_true F rfl rfl ?_
    with_reducible refine c_seq ?_
    with_reducible refine c_region ?_
    refine stepD rfl F rfl (o_move (F.ev rfl) ?_); clear F; clear a; intro a F
    (refine stepD rfl F rfl (o_call (F.ev rfl) (F.evs rfl) (Cal.mono (nextE_c 600 (by omega) (by omega) _ (hT.later M.ext) (M.heap .here) ) ?_)); clear F; clear a; have M0 := M; clear M; rintro _ w ⟨x2, k2, rfl, hx2, N⟩ a F)
    replace M := M0.turn1 N .here
    refine stepD rfl F rfl (o_sub (F.ev rfl) (F.ev rfl) (w_i64 (by omega) (by omega)) ?_); clear F; clear a; intro a F
    refine stepD rfl F rfl (o_assign (F.ev rfl) ?_); clear F; clear a; intro a F
    with_reducible refine l_nil ?_
    with_reducible refine q_then ?_
    with_reducible refine c_ret ?_
    with_reducible refine q_inBR ?_
    with_reducible refine q_thenR ?_
    refine p_ret F rfl (.cons (.tmp (F.ev rfl)) .nil) ?_
    exact ⟨_, k2, rfl, by omega, M⟩
  · with_reducible refine l_nil ?_
    with_reducible refine q_then ?_
    with_reducible refine c_block ?_
    with_reducible refine c_seq ?_
    with_reducible refine c_region ?_
    refine stepD rfl F rfl (o_eqlF (F.ev rfl) (F.ev rfl) (by omega) ?_); clear F; clear a; intro a F
    refine stepD rfl F rfl (o_assign (F.ev rfl) ?_); clear F; clear a; intro a F
    with_reducible refine l_nil ?_
    with_reducible refine q_then ?_
    refine c_false F rfl rfl ?_
    with_reducible refine c_seq ?_
    with_reducible refine c_region ?_
    refine stepD rfl F rfl (o_eqlF (F.ev rfl) (F.ev rfl) (by omega) ?_); clear F; clear a; intro a F
    refine stepD rfl F rfl (o_assign (F.ev rfl) ?_); clear F; clear a; intro a F
    with_reducible refine l_nil ?_
    with_reducible refine q_then ?_
    refine c_false F rfl rfl ?_
    with_reducible refine c_skip ?_
    with_reducible refine q_inB ?_
    with_reducible refine q_then ?_
    with_reducible refine c_seq ?_
    with_reducible refine c_region ?_
    refine stepD rfl F rfl (o_move (F.ev rfl) ?_); clear F; clear a; intro a F
    (refine stepD rfl F rfl (o_call (F.ev rfl) (F.evs rfl) (Cal.mono (nextE_c 30 (by omega) (by omega) _ (hT.later M.ext) (M.heap .here) ) ?_)); clear F; clear a; have M0 := M; clear M; rintro _ w ⟨x2, k2, rfl, hx2, N⟩ a F)
    replace M := M0.turn1 N .here
    refine stepD rfl F rfl (o_mul (F.ev rfl) (F.ev rfl) (w_i64 (by omega) (by omega)) ?_); clear F; clear a; intro a F
    refine stepD rfl F rfl (o_add (F.ev rfl) (F.ev rfl) (w_i64 (by omega) (by omega)) ?_); clear F; clear a; intro a F
    refine stepD rfl F rfl (o_assign (F.ev rfl) ?_); clear F; clear a; intro a F
    with_reducible refine l_nil ?_
    with_reducible refine q_then ?_
    with_reducible refine c_ret ?_
    refine p_ret F rfl (.cons (.tmp (F.ev rfl)) .nil) ?_
    exact ⟨_, k2, rfl, by omega, M⟩
theorem distE_c {bt : Nat} {p : Option Addr} {len cap k : Nat} {xs : List Int} (W : World) (hT : TapeS W bt p len xs) (hb : W.heap[bt]? = some (tobj p len cap k)) :
    Cal Tryz.prog 39 [.pointer (some ⟨bt, 0, none⟩)].toArray W fun v w' => ∃ x k', v = diV x ∧ (0 ≤ x.met ∧ x.met ≤ 65534) ∧ Mem [bt] W w' [(bt, tobj p len cap k')] := by
  refine fn_ofM (n := 8) [bt] Tryz.func39 rfl rfl rfl ?_
  intro a w F M hwW
  replace M := M.came hwW hb (by simp) (by simp)
  refine c_seq ?_
  refine c_region ?_
  (refine stepD rfl F rfl (o_alloc M ?_); clear F; clear M; intro b2 w M a F)
  with_reducible refine l_nil ?_
  with_reducible refine q_then ?_
  with_reducible refine c_seq ?_
  with_reducible refine c_region ?_
  refine stepD rfl F rfl (o_move (F.ev rfl) ?_); clear F; clear a; intro a F
  (refine stepD rfl F rfl (o_call (F.ev rfl) (F.evs rfl) (Cal.mono (seqE_c _ (hT.later M.ext) (M.heap (.there .here)) ) ?_)); clear F; clear a; have M0 := M; clear M; rintro _ w ⟨x, k1, rfl, N⟩ a F)
  replace M := M0.turn1 N (.there .here)
  clear M0 N
  refine stepD rfl F rfl (o_move (F.ev rfl) ?_); clear F; clear a; intro a F
  (refine stepD rfl F rfl (o_call (F.ev rfl) (F.evs rfl) (Cal.mono (costE_c _ (hT.later M.ext) (M.heap (.there .here)) ) ?_)); clear F; clear a; have M0 := M; clear M; rintro _ w ⟨y, k2, rfl, hy, N⟩ a F)
  replace M := M0.turn1 N (.there .here)
  clear M0 N
  refine stepD rfl F rfl (o_build F rfl rfl ?_); clear F; clear a; intro a F
  (refine stepN rfl F (o_storeA M (F.ev rfl) (F.ev rfl) (by rfl) (by rfl) (by repeat (first | exact .here | apply Has.there)) (by rfl) (by repeat (first | exact .here | apply Upd.there)) ?_); clear F; clear M; intro w M a F)
  with_reducible refine l_nil ?_
  with_reducible refine q_then ?_
  with_reducible refine c_ret ?_
  exact p_ret F rfl (.cons (.cell (F.ev rfl) (run_loadVar_agg TAgg.h (M.heap (by repeat (first | exact .here | apply Has.there))) rfl)) .nil) ⟨⟨x, y⟩, k2, rfl, hy, M.sub (.cons _ (.refl _))⟩
def tabTo : List Int := [128, 128, 64, 0]
theorem tabTo_bd (i : Nat) : 0 ≤ tabTo.getD i 0 ∧ tabTo.getD i 0 ≤ 128 := by
  rcases Nat.lt_or_ge i 4 with h | h
  · have : ∀ i : Fin 4, 0 ≤ tabTo.getD i.val 0 ∧ tabTo.getD i.val 0 ≤ 128 := by decide
    exact this ⟨i, h⟩
  · rw [List.getD_eq_getElem?_getD, List.getElem?_eq_none (by simpa [tabTo] using h)]
    simp
def zr16 : List Int := [0, 0, 0, 0, 0, 0, 0, 0, 0, 0, 0, 0, 0, 0, 0, 0]
theorem zr16_is : IsIP zr16 := ⟨rfl, by intro x hx; simp [zr16] at hx; omega⟩
theorem dv_buildT {z : List Int} (hz : IsIP z) (n e : Int) : putAll [(0, 17), (17, 17), (34, 1)] dvZ [(0, pfC z n), (2, [.int .u64 e])] = some (dvC ⟨z, n, zr16, 0, e⟩) := by
  obtain ⟨z0, z1, z2, z3, z4, z5, z6, z7, z8, z9, z10, z11, z12, z13, z14, z15, ez⟩ := len16 hz.len
  subst ez
  rfl
theorem zero_valid : validP zr16 0 = true := by decide
set_option maxHeartbeats 1000000 in
theorem toE_c {bt : Nat} {p : Option Addr} {len cap k : Nat} {xs : List Int} (W : World) (hT : TapeS W bt p len xs) (hb : W.heap[bt]? = some (tobj p len cap k)) :
    Cal Tryz.prog 20 [.pointer (some ⟨bt, 0, none⟩)].toArray W fun v w' => ∃ x k', v = dvV x ∧ IsDv x ∧ validT x = true ∧ Mem [bt] W w' [(bt, tobj p len cap k')] := by
  refine fn_ofM (n := 21) [bt] Tryz.func20 rfl rfl rfl ?_
  intro a w F M hwW
  replace M := M.came hwW hb (by simp) (by simp)
  refine c_seq ?_
  refine c_region ?_
  (refine stepD rfl F rfl (o_alloc M ?_); clear F; clear M; intro b2 w M a F)
  with_reducible refine l_nil ?_
  with_reducible refine q_then ?_
  with_reducible refine c_seq ?_
  with_reducible refine c_region ?_
  refine stepD rfl F rfl (o_move (F.ev rfl) ?_); clear F; clear a; intro a F
  (refine stepD rfl F rfl (o_call (F.ev rfl) (F.evs rfl) (Cal.mono (wipD_c _ (hT.later M.ext) (M.heap (.there .here)) ) ?_)); clear F; clear a; have M0 := M; clear M; rintro _ w ⟨rfl, N⟩ a F)
  replace M := M0.turn1 N (.there .here)
  clear M0 N
  have hip := wipV_is xs k
  generalize wipV xs k = ip at *
  generalize wipK xs k = k1 at *
  skip
  (refine stepD rfl F rfl (o_buildSlice F M rfl rfl rfl rfl ?_); clear F; clear M; intro b6 w M a F)
  refine stepD rfl F rfl (o_move (F.ev rfl) ?_); clear F; clear a; intro a F
  (refine stepD rfl F rfl (o_call (F.ev rfl) (F.evs rfl) (Cal.mono (next_c 4 (by omega) (by omega) _ (hT.later M.ext) (M.heap (.there (.there .here))) ) ?_)); clear F; clear a; have M0 := M; clear M; rintro _ w ⟨rfl, N⟩ a F)
  replace M := M0.turn1 N (.there (.there .here))
  clear M0 N
  have v1 := nxV_bd xs k1 (n := 4) (by omega)
  have n1 := nth_tab (k := .i64) (xs := tabTo) v1.1 (by simpa [tabTo] using v1.2)
  have hbd := tabTo_bd (nxV xs k1 4).toNat
  (refine stepD rfl F rfl (o_indexSl (F.ev rfl) (F.ev rfl) (by omega) (by omega) ?_); clear F; clear a; intro a F)
  (refine stepD rfl F rfl (o_load1 M (F.ev rfl) (by repeat (first | exact .here | apply Has.there)) (n1) ?_); clear F; clear a; intro a F)
  generalize tabTo.getD (nxV xs k1 4).toNat 0 = n at *
  generalize nxV xs k1 4 = q at *
  generalize nxK xs k1 = k2 at *
  have hcl : clampB n = n := clamp_in hbd.1 hbd.2
  (refine stepD rfl F rfl (o_call (F.ev rfl) (F.evs rfl) (Cal.mono (Cal.to (rmask_c ip hip n _) (by rw [hcl])) ?_)); clear F; clear a; rintro _ w ⟨rfl, hE⟩ a F; replace M := M.later hE; clear hE)
  have hmi := mask_isIP hip n
  have hvm := valid_mask hip hbd.1 hbd.2
  generalize maskI ip n = mip at *
  refine stepD rfl F rfl (o_move (F.ev rfl) ?_); clear F; clear a; intro a F
  (refine stepD rfl F rfl (o_call (F.ev rfl) (F.evs rfl) (Cal.mono (eui_c _ (hT.later M.ext) (M.heap (.there (.there .here))) ) ?_)); clear F; clear a; have M0 := M; clear M; rintro _ w ⟨e, k3, rfl, he, N⟩ a F)
  replace M := M0.turn1 N (.there (.there .here))
  clear M0 N
  have hd : IsDv ⟨mip, n, zr16, 0, e⟩ := ⟨hmi, zr16_is⟩
  (refine stepD rfl F rfl (o_build F rfl (dv_buildT hmi n e) ?_); clear F; clear a; intro a F)
  skip
  (refine stepD rfl F rfl (o_alloc M ?_); clear F; clear M; intro b3 w M a F)
  (refine stepN rfl F (o_storeA M (F.ev rfl) (F.ev rfl) (dv_len hd) (dv_one _)  (by repeat (first | exact .here | apply Has.there))  (put_all (by rw [dv_len hd]; rfl)) (by repeat (first | exact .here | apply Upd.there)) ?_); clear F; clear M; intro w M a F)
  with_reducible refine l_nil ?_
  with_reducible refine q_then ?_
  with_reducible refine c_seq ?_
  with_reducible refine c_seq ?_
  with_reducible refine c_region ?_
  refine stepD rfl F rfl (o_move (F.ev rfl) ?_); clear F; clear a; intro a F
  (refine stepD rfl F rfl (o_call (F.ev rfl) (F.evs rfl) (Cal.mono (boolE_c 3 (by omega) (by omega) _ (hT.later M.ext) (M.heap (.there (.there (.there .here)))) ) ?_)); clear F; clear a; have M0 := M; clear M; rintro _ w ⟨c, k4, rfl, N⟩ a F)
  replace M := M0.turn1 N (.there (.there (.there .here)))
  clear M0 N
  cases c
  · have g0 := dv_all hd
    with_reducible refine l_nil ?_
    with_reducible refine q_then ?_
    refine c_false F rfl rfl ?_
    with_reducible refine c_skip ?_
    with_reducible refine q_then ?_
    with_reducible refine c_seq ?_
    with_reducible refine c_region ?_
    refine stepD rfl F rfl (o_loadA M (F.ev rfl) (by repeat (first | exact .here | apply Has.there)) (by first | assumption | rfl) ?_); clear F; clear a; intro a F
    (refine stepN rfl F (o_storeA M (F.ev rfl) (F.ev rfl) (dv_len hd) (dv_one _)  (by repeat (first | exact .here | apply Has.there))  (put_all (by rw [dv_len hd]; rfl)) (by repeat (first | exact .here | apply Upd.there)) ?_); clear F; clear M; intro w M a F)
    with_reducible refine l_nil ?_
    with_reducible refine q_then ?_
    with_reducible refine c_ret ?_
    exact p_ret F rfl (.cons (.cell (F.ev rfl) (run_loadVar_agg TAgg.h (M.heap (by repeat (first | exact .here | apply Has.there))) g0)) .nil) ⟨_, k4, rfl, hd, by simp [validT, hvm, zero_valid]; omega, M.sub (by repeat (first | exact List.Sublist.refl _ | apply List.Sublist.cons))⟩
  · with_reducible refine l_nil ?_
    with_reducible refine q_then ?_
    refine c_true F rfl rfl ?_
    with_reducible refine c_region ?_
    refine stepD rfl F rfl (o_move (F.ev rfl) ?_); clear F; clear a; intro a F
    (refine stepD rfl F rfl (o_call (F.ev rfl) (F.evs rfl) (Cal.mono (wprefix_c _ (hT.later M.ext) (M.heap (.there (.there (.there .here)))) ) ?_)); clear F; clear a; have M0 := M; clear M; rintro _ w ⟨rfl, N⟩ a F)
    replace M := M0.turn1 N (.there (.there (.there .here)))
    clear M0 N
    have hpi : IsIP (maskI (wpA xs k4) (wpN xs k4)) := mask_isIP (wipV_is _ _) _
    have hpb := wpN_bd xs k4
    have hpv := valid_mask (wipV_is xs (wpK0 xs k4)) hpb.1 hpb.2
    change validP (maskI (wpA xs k4) (wpN xs k4)) (wpN xs k4) = true at hpv
    generalize maskI (wpA xs k4) (wpN xs k4) = sip at *
    generalize wpN xs k4 = sn at *
    generalize wpK xs k4 = k5 at *
    have hd2 : IsDv ⟨mip, n, sip, sn, e⟩ := ⟨hmi, hpi⟩
    have g0 := dv_all hd2
    refine stepD rfl F rfl (o_fieldAddr (F.ev rfl) ?_); clear F; clear a; intro a F
    (refine stepN rfl F (o_storeA M (F.ev rfl) (F.ev rfl) (pfC_len hpi.len sn) (one_pf _ _)  (by repeat (first | exact .here | apply Has.there))  (dv_put_src hd hpi sn) (by repeat (first | exact .here | apply Upd.there)) ?_); clear F; clear M; intro w M a F)
    replace M : Mem [bt] W w [(b3, .cells (dvC ⟨mip, n, sip, sn, e⟩).toArray 45 (0, 0)), (b6, _), (b2, _), (bt, _)] := M
    with_reducible refine l_nil ?_
    with_reducible refine q_then ?_
    with_reducible refine c_seq ?_
    with_reducible refine c_region ?_
    refine stepD rfl F rfl (o_loadA M (F.ev rfl) (by repeat (first | exact .here | apply Has.there)) (by first | assumption | rfl) ?_); clear F; clear a; intro a F
    (refine stepN rfl F (o_storeA M (F.ev rfl) (F.ev rfl) (dv_len hd2) (dv_one _)  (by repeat (first | exact .here | apply Has.there))  (put_all (by rw [dv_len hd2]; rfl)) (by repeat (first | exact .here | apply Upd.there)) ?_); clear F; clear M; intro w M a F)
    with_reducible refine l_nil ?_
    with_reducible refine q_then ?_
    with_reducible refine c_ret ?_
    exact p_ret F rfl (.cons (.cell (F.ev rfl) (run_loadVar_agg TAgg.h (M.heap (by repeat (first | exact .here | apply Has.there))) g0)) .nil) ⟨_, k5, rfl, hd2, by simp [validT, hvm, hpv]; omega, M.sub (by repeat (first | exact List.Sublist.refl _ | apply List.Sublist.cons))⟩
end Go.Proofs.YtilgoepokaaleaaGreat
/-! YB -/
namespace Go.Proofs.YtilgoepokaaleaaGreat
set_option linter.unusedVariables false
set_option linter.unusedSimpArgs false
open Go.RowKit
attribute [local irreducible] OpTo wpListIn Code.wpIn MW Cal
/-! slices in new memory -/
def SlN (n0 : Nat) (W : World) (sz : Nat) (v : Value) (n : Nat) (cs : List Value) : Prop := SlAt W sz v n cs ∧ NewV n0 v
section
variable {n0 n1 bt sz n : Nat} {W w : World} {v : Value} {cs : List Value}
theorem SlN.mono (h : SlN n1 W sz v n cs) (hle : n0 ≤ n1) : SlN n0 W sz v n cs := ⟨h.1, fun b o s k c e => Nat.le_trans hle (h.2 b o s k c e)⟩
theorem SlN.notIn (h : SlN n0 W sz v n cs) (hbt : bt < n0) : ∀ b o s k c, v = .slice (some ⟨b, o, s⟩) k c → b ∉ [bt] := fun b o s k c e hb => by
  have := h.2 b o s k c e
  simp only [List.mem_singleton] at hb
  omega
theorem SlN.laterB (h : SlN n0 W sz v n cs) (hbt : bt < n0) (E : Ext [bt] W w) : SlN n0 w sz v n cs := ⟨h.1.laterB (h.notIn hbt) E, h.2⟩
theorem SlN.later (h : SlN n0 W sz v n cs) (E : Ext [] W w) : SlN n0 w sz v n cs := ⟨h.1.later E, h.2⟩
theorem SlN.nil (n0 sz : Nat) (W : World) : SlN n0 W sz (.slice none 0 0) 0 [] := ⟨SlAt.nil _ _, NewV.nil _ _ _⟩
theorem OwnS.slN {e : TypeId} {ent : List (Nat × Obj)} (h : OwnS e sz v n cs ent) {S : List Nat} {W0 : World} {l : List (Nat × Obj)} (M : Mem S W0 w l) (hs : ∀ p ∈ ent, p ∈ l) (hS : ∀ p ∈ ent, p.1 ∉ S) : SlN W0.heap.size w sz v n cs := by
  refine ⟨h.slAt M hs, ?_⟩
  rcases h with ⟨rfl, _, _, rfl⟩ | ⟨b, cap, junk, rfl, rfl, _, _, _⟩
  · exact NewV.nil _ _ _
  · intro b' o s n c h
    cases h
    exact (M.own _ (hs _ List.mem_cons_self)).resolve_left (hS _ List.mem_cons_self)
theorem SlAt.mem {q : Option Addr} {cap : Nat} (h : SlAt W sz (.slice q n cap) n cs) : 0 < n → ∃ b o xs t fz, q = some ⟨b, o, none⟩ ∧ W.heap[b]? = some (.cells (List.toArray xs) t fz) ∧ seg xs o (n * sz) = some cs := by
  obtain ⟨p, cap', e, _, _, _, h5⟩ := h
  cases e
  exact h5
theorem nd_not {b : Nat} {o : Obj} {l ent : List (Nat × Obj)} (h : (((b, o) :: l).map (·.1)).Nodup) (hs : ∀ p ∈ ent, p ∈ l) : ∀ p ∈ ent, p.1 ∉ [b] := fun p hp hb => by
  simp only [List.mem_singleton] at hb
  exact (List.nodup_cons.1 h).1 (List.mem_map.2 ⟨p, hs p hp, hb⟩)
end
/-! PutInstalled, plain -/
end Go.Proofs.YtilgoepokaaleaaGreat
/-! YC -/
namespace Go.Proofs.YtilgoepokaaleaaGreat
set_option linter.unusedVariables false
set_option linter.unusedSimpArgs false
open Go.RowKit
attribute [local irreducible] OpTo wpListIn Code.wpIn MW Cal
theorem validM_of {m : Int} (h : 0 ≤ m ∧ m ≤ 65534) : validM m = true := by
  unfold validM
  rw [decide_eq_true h.1, decide_eq_true (by omega)]
  rfl
end Go.Proofs.YtilgoepokaaleaaGreat
/-! ZK -/
namespace Go.Proofs.YtilgoepokaaleaaGreat
set_option linter.unusedVariables false
set_option linter.unusedSimpArgs false
open Go.RowKit
attribute [local irreducible] OpTo wpListIn Code.wpIn MW Cal
theorem wt_time {xs : List Int} {k : Nat} {now : Int} (h0 : 0 ≤ now) (h1 : now ≤ 1099511627776) : isTime (wtV xs k now) = true := by
  unfold wtV isTime
  simp only [Bool.and_eq_true, decide_eq_true_eq]
  repeat' split
  all_goals omega
end Go.Proofs.YtilgoepokaaleaaGreat
/-! ZS -/
namespace Go.Proofs.YtilgoepokaaleaaGreat
set_option linter.unusedVariables false
set_option linter.unusedSimpArgs false
open Go.RowKit
attribute [local irreducible] OpTo wpListIn Code.wpIn MW Cal
theorem time_bd {t : Int} (h : isTime t = true) : 0 ≤ t ∧ t ≤ 1099511627776 := by
  simpa [isTime, Bool.and_eq_true, decide_eq_true_eq] using h
theorem later_time {a d : Int} (h : isTime a = true) (hd : 0 ≤ d) : isTime (laterV a d) = true := by
  have := time_bd h
  unfold laterV isTime
  simp only [Bool.and_eq_true, decide_eq_true_eq]
  split <;> omega
theorem learn_valid {l : List RouV} {now : Int} {t : DstV} {nb : Int} {d : DisV} (h : (learnV l now t nb d).2 = 0) : validRs (learnV l now t nb d).1 = true := by
  unfold learnV at h ⊢
  split at h
  · cases h
  · rename_i h1
    rw [if_neg h1]
    simp only [Bool.or_eq_true, Bool.not_eq_true', decide_eq_true_eq, not_or, Bool.not_eq_false] at h1
    obtain ⟨⟨⟨h1, h2⟩, h3⟩, h4⟩ := h1
    split at h
    · cases h
    · rename_i h5
      rw [if_neg h5]
      simp only [Bool.not_eq_true', Bool.not_eq_false] at h5
      split at h
      · cases h
      · rename_i h6
        rw [if_neg h6]
        obtain ⟨g1, g2, g3⟩ := validRs_iff.1 h1
        refine validRs_iff.2 ⟨by dsimp only; omega, fun a ha => ?_, asc_putR g3⟩
        rcases mem_putR.1 ha with ⟨k1, rfl⟩ | ⟨k1, _⟩
        · unfold rou1 finD
          dsimp only
          rw [h2, h3, k1, decide_eq_false h4, later_time h5 (by omega)]
          rfl
        · exact g2 a k1
theorem learn_is {l : List RouV} {now : Int} {t : DstV} {nb : Int} {d : DisV} (hx : ∀ x ∈ l, IsRo x) (ht : IsDv t) : ∀ x ∈ (learnV l now t nb d).1, IsRo x := by
  intro x h
  unfold learnV at h
  split at h
  · cases h
  · split at h
    · cases h
    · split at h
      · cases h
      · rcases mem_putR.1 h with ⟨_, rfl⟩ | ⟨k1, _⟩
        · exact ⟨ht, trivial⟩
        · exact hx x k1
theorem learn_len {l : List RouV} {now : Int} {t : DstV} {nb : Int} {d : DisV} : (learnV l now t nb d).1.length ≤ l.length + 1 := by
  unfold learnV
  split
  · simp
  · rename_i h1
    split
    · simp
    · split
      · simp
      · simp only [Bool.or_eq_true, Bool.not_eq_true', decide_eq_true_eq, not_or, Bool.not_eq_false] at h1
        dsimp only
        rw [← putR_merge (validRs_iff.1 h1.1.1.1).2.2]
        have := mergeG_len (fun y => cmpR y ⟨t, nb, d, laterV now 10⟩) ⟨t, nb, d, laterV now 10⟩ (done := decide (d.met = inf)) (l := l)
        split at this <;> omega
theorem OwnS.slJ {e : TypeId} {sz n n0 bt : Nat} {v : Value} {cs : List Value} {ent : List (Nat × Obj)} {wb w : World} {o : Obj} (h : OwnS e sz v n cs ent) (M : Mem [bt] wb w (ent ++ [(bt, o)])) (hle : n0 ≤ wb.heap.size) : SlN n0 w sz v n cs := by
  have hnd := (M.perm (l' := (bt, o) :: ent) List.perm_append_comm).nd
  exact (h.slN M (fun q hq => by simp [hq]) (nd_not hnd (fun q hq => hq))).mono hle
theorem wtimeE_c {bt : Nat} {p : Option Addr} {len cap k : Nat} {xs : List Int} (base : Int) (h0 : 0 ≤ base) (h1 : base ≤ 1099511627776) (W : World) (hT : TapeS W bt p len xs) (hb : W.heap[bt]? = some (tobj p len cap k)) :
    Cal Tryz.prog 14 [.pointer (some ⟨bt, 0, none⟩), .int .i64 base].toArray W fun v w' => ∃ x k', v = .int .i64 x ∧ isTime x = true ∧ Mem [bt] W w' [(bt, tobj p len cap k')] :=
  Cal.mono (wtime_c base h0 h1 W hT hb) fun _ _ h => ⟨_, _, h.1, wt_time h0 h1, h.2⟩
structure RouO (n0 : Nat) (W : World) (v : Value) (l : List RouV) : Prop where
  at_ : SlN n0 W 39 v l.length (rosC l)
  is : ∀ x ∈ l, IsRo x
  val : validRs l = true
structure SrcO (n0 : Nat) (W : World) (v : Value) (l : List SrcV) : Prop where
  at_ : SlN n0 W 38 v l.length (srsC l)
  is : ∀ x ∈ l, IsSr x
  val : validSs l = true
structure OptO (n0 : Nat) (W : World) (v : Value) (l : List OptV) : Prop where
  at_ : SlN n0 W 2 v l.length (opsC l)
  val : validOs l = true
theorem RouO.laterB {n0 bt : Nat} {W w : World} {v : Value} {l : List RouV} (h : RouO n0 W v l) (hb : bt < n0) (E : Ext [bt] W w) : RouO n0 w v l := ⟨h.at_.laterB hb E, h.is, h.val⟩
theorem SrcO.laterB {n0 bt : Nat} {W w : World} {v : Value} {l : List SrcV} (h : SrcO n0 W v l) (hb : bt < n0) (E : Ext [bt] W w) : SrcO n0 w v l := ⟨h.at_.laterB hb E, h.is, h.val⟩
theorem OptO.laterB {n0 bt : Nat} {W w : World} {v : Value} {l : List OptV} (h : OptO n0 W v l) (hb : bt < n0) (E : Ext [bt] W w) : OptO n0 w v l := ⟨h.at_.laterB hb E, h.val⟩
set_option maxHeartbeats 4000000 in
theorem routesW_c {bt : Nat} {p : Option Addr} {len cap k : Nat} {xs : List Int} (now : Int) (h0 : 0 ≤ now) (h1 : now ≤ 1099511627776) (W : World) (hT : TapeS W bt p len xs) (hb : W.heap[bt]? = some (tobj p len cap k)) :
    Cal Tryz.prog 11 [.pointer (some ⟨bt, 0, none⟩), .int .i64 now].toArray W fun r w' => ∃ l k', RouO W.heap.size w' r l ∧ l.length ≤ 9 ∧ Mem [bt] W w' [(bt, tobj p len cap k')] := by
  have hbt : bt < W.heap.size := (Array.getElem?_eq_some_iff.1 hb).1
  refine fn_ofM (n := 33) [bt] Tryz.func11 rfl rfl rfl ?_
  intro a w F M hwW
  replace M := M.came hwW hb (by simp) (by simp)
  with_reducible refine c_seq ?_
  with_reducible refine c_region ?_
  refine stepD rfl F rfl (o_assign (F.ev rfl) ?_); clear F; clear a; intro a F
  with_reducible refine l_nil ?_
  with_reducible refine q_then ?_
  with_reducible refine c_seq ?_
  with_reducible refine c_region ?_
  refine stepD rfl F rfl (o_assign (F.ev rfl) ?_); clear F; clear a; intro a F
  with_reducible refine l_nil ?_
  with_reducible refine q_then ?_
  with_reducible refine c_seq ?_
  with_reducible refine c_seq ?_
  with_reducible refine c_region ?_
  refine stepD rfl F rfl (o_move (F.ev rfl) ?_); clear F; clear a; intro a F
  refine stepD rfl F rfl (o_call (F.ev rfl) (F.evs rfl) (Cal.mono (nextE_c _ (by first | assumption | omega | exact And.left (by assumption) | exact (by assumption : SlAt _ _ _ _ _).later M.ext | exact TapeS.later (by assumption) M.ext | exact (SlN.laterB (by assumption) (by omega) M.ext).1 | exact M.heap (by repeat (first | exact .here | apply Has.there)) | decide) (by first | assumption | omega | exact And.left (by assumption) | exact (by assumption : SlAt _ _ _ _ _).later M.ext | exact TapeS.later (by assumption) M.ext | exact (SlN.laterB (by assumption) (by omega) M.ext).1 | exact M.heap (by repeat (first | exact .here | apply Has.there)) | decide) _ (by first | assumption | omega | exact And.left (by assumption) | exact (by assumption : SlAt _ _ _ _ _).later M.ext | exact TapeS.later (by assumption) M.ext | exact (SlN.laterB (by assumption) (by omega) M.ext).1 | exact M.heap (by repeat (first | exact .here | apply Has.there)) | decide) (by first | assumption | omega | exact And.left (by assumption) | exact (by assumption : SlAt _ _ _ _ _).later M.ext | exact TapeS.later (by assumption) M.ext | exact (SlN.laterB (by assumption) (by omega) M.ext).1 | exact M.heap (by repeat (first | exact .here | apply Has.there)) | decide)) ?_)); clear F; clear a; have M0 := M; have zb10 := M0.ext.size; clear M; rintro _ w ⟨x10, k'10, rfl, p10_1, N⟩ a F; replace M := M0.turn1 N (by repeat (first | exact .here | apply Upd.there)); clear M0 N
  refine stepD rfl F rfl (o_assign (F.ev rfl) ?_); clear F; clear a; intro a F
  with_reducible refine l_nil ?_
  with_reducible refine q_then ?_
  with_reducible refine c_block ?_
  obtain ⟨c0, rfl⟩ := Int.eq_ofNat_of_zero_le p10_1.1
  refine c_loop (fun m a w => ∃ (c : Nat) (x : Int) (l : List RouV) (v : Value) (k : Nat), m = c ∧ x = c ∧ RouO W.heap.size w v l ∧ l.length + c ≤ 9 ∧ Frm a 33 [] [(6, .int .i64 x), (5, v), (0, .pointer (some ⟨bt, 0, none⟩)), (1, .int .i64 now)] ∧ Mem [bt] W w [(bt, tobj p len cap k)]) c0 ⟨c0, _, [], _, _, rfl, rfl, ⟨SlN.nil _ _ _, by simp, rfl⟩, by simp; omega, F.only [6, 5, 0, 1] rfl, M⟩ ?_
  clear F M a w
  rintro m a w ⟨c, x, l, v, k, hm, hxc, hO, hc9, F, M⟩
  by_cases hlt : 0 < c
  · have E0 := M.ext
    obtain ⟨wb, hwb, M⟩ : ∃ wb, wb = w ∧ Mem [bt] wb w [(bt, tobj p len cap k)] := ⟨w, rfl, M.re (by simp)⟩
    rw [← hwb] at E0 hO
    clear hwb
    have hTw := hT.later E0
    have hOa := hO.at_
    have hOi := hO.is
    with_reducible refine c_seq ?_
    with_reducible refine c_seq ?_
    with_reducible refine c_region ?_
    refine stepD rfl F rfl (o_move (F.ev rfl) ?_); clear F; clear a; intro a F
    refine stepD rfl F rfl (o_gtrT (F.ev rfl) (F.ev rfl) (by omega) ?_); clear F; clear a; intro a F
    with_reducible refine l_nil ?_
    with_reducible refine q_then ?_
    refine c_true F rfl rfl ?_
    with_reducible refine c_skip ?_
    with_reducible refine q_then ?_
    with_reducible refine c_seq ?_
    with_reducible refine c_block ?_
    with_reducible refine c_seq ?_
    with_reducible refine c_region ?_
    refine stepD rfl F rfl (o_move (F.ev rfl) ?_); clear F; clear a; intro a F
    refine stepD rfl F rfl (o_move (F.ev rfl) ?_); clear F; clear a; intro a F
    refine stepD rfl F rfl (o_move (F.ev rfl) ?_); clear F; clear a; intro a F
    refine stepD rfl F rfl (o_call (F.ev rfl) (F.evs rfl) (Cal.mono (wtimeE_c _ (by first | assumption | omega | exact And.left (by assumption) | exact (by assumption : SlAt _ _ _ _ _).later M.ext | exact TapeS.later (by assumption) M.ext | exact (SlN.laterB (by assumption) (by omega) M.ext).1 | exact M.heap (by repeat (first | exact .here | apply Has.there)) | decide) (by first | assumption | omega | exact And.left (by assumption) | exact (by assumption : SlAt _ _ _ _ _).later M.ext | exact TapeS.later (by assumption) M.ext | exact (SlN.laterB (by assumption) (by omega) M.ext).1 | exact M.heap (by repeat (first | exact .here | apply Has.there)) | decide) _ (by first | assumption | omega | exact And.left (by assumption) | exact (by assumption : SlAt _ _ _ _ _).later M.ext | exact TapeS.later (by assumption) M.ext | exact (SlN.laterB (by assumption) (by omega) M.ext).1 | exact M.heap (by repeat (first | exact .here | apply Has.there)) | decide) (by first | assumption | omega | exact And.left (by assumption) | exact (by assumption : SlAt _ _ _ _ _).later M.ext | exact TapeS.later (by assumption) M.ext | exact (SlN.laterB (by assumption) (by omega) M.ext).1 | exact M.heap (by repeat (first | exact .here | apply Has.there)) | decide)) ?_)); clear F; clear a; have M0 := M; have zb19 := M0.ext.size; clear M; rintro _ w ⟨x19, k'19, rfl, p19_1, N⟩ a F; replace M := M0.turn1 N (by repeat (first | exact .here | apply Upd.there)); clear M0 N
    refine stepD rfl F rfl (o_move (F.ev rfl) ?_); clear F; clear a; intro a F
    refine stepD rfl F rfl (o_call (F.ev rfl) (F.evs rfl) (Cal.mono (toE_c _ (by first | assumption | omega | exact And.left (by assumption) | exact (by assumption : SlAt _ _ _ _ _).later M.ext | exact TapeS.later (by assumption) M.ext | exact (SlN.laterB (by assumption) (by omega) M.ext).1 | exact M.heap (by repeat (first | exact .here | apply Has.there)) | decide) (by first | assumption | omega | exact And.left (by assumption) | exact (by assumption : SlAt _ _ _ _ _).later M.ext | exact TapeS.later (by assumption) M.ext | exact (SlN.laterB (by assumption) (by omega) M.ext).1 | exact M.heap (by repeat (first | exact .here | apply Has.there)) | decide)) ?_)); clear F; clear a; have M0 := M; have zb21 := M0.ext.size; clear M; rintro _ w ⟨x21, k'21, rfl, p21_1, p21_2, N⟩ a F; replace M := M0.turn1 N (by repeat (first | exact .here | apply Upd.there)); clear M0 N
    refine stepD rfl F rfl (o_move (F.ev rfl) ?_); clear F; clear a; intro a F
    refine stepD rfl F rfl (o_call (F.ev rfl) (F.evs rfl) (Cal.mono (eui_c _ (by first | assumption | omega | exact And.left (by assumption) | exact (by assumption : SlAt _ _ _ _ _).later M.ext | exact TapeS.later (by assumption) M.ext | exact (SlN.laterB (by assumption) (by omega) M.ext).1 | exact M.heap (by repeat (first | exact .here | apply Has.there)) | decide) (by first | assumption | omega | exact And.left (by assumption) | exact (by assumption : SlAt _ _ _ _ _).later M.ext | exact TapeS.later (by assumption) M.ext | exact (SlN.laterB (by assumption) (by omega) M.ext).1 | exact M.heap (by repeat (first | exact .here | apply Has.there)) | decide)) ?_)); clear F; clear a; have M0 := M; have zb23 := M0.ext.size; clear M; rintro _ w ⟨x23, k'23, rfl, p23_1, N⟩ a F; replace M := M0.turn1 N (by repeat (first | exact .here | apply Upd.there)); clear M0 N
    refine stepD rfl F rfl (o_move (F.ev rfl) ?_); clear F; clear a; intro a F
    refine stepD rfl F rfl (o_call (F.ev rfl) (F.evs rfl) (Cal.mono (distE_c _ (by first | assumption | omega | exact And.left (by assumption) | exact (by assumption : SlAt _ _ _ _ _).later M.ext | exact TapeS.later (by assumption) M.ext | exact (SlN.laterB (by assumption) (by omega) M.ext).1 | exact M.heap (by repeat (first | exact .here | apply Has.there)) | decide) (by first | assumption | omega | exact And.left (by assumption) | exact (by assumption : SlAt _ _ _ _ _).later M.ext | exact TapeS.later (by assumption) M.ext | exact (SlN.laterB (by assumption) (by omega) M.ext).1 | exact M.heap (by repeat (first | exact .here | apply Has.there)) | decide)) ?_)); clear F; clear a; have M0 := M; have zb25 := M0.ext.size; clear M; rintro _ w ⟨x25, k'25, rfl, p25_1, N⟩ a F; replace M := M0.turn1 N (by repeat (first | exact .here | apply Upd.there)); clear M0 N
    refine stepD rfl F rfl (o_call (F.ev rfl) (F.evs rfl) (Cal.mono (rlearn_c _ (by first | assumption | omega | exact And.left (by assumption) | exact (by assumption : SlAt _ _ _ _ _).later M.ext | exact TapeS.later (by assumption) M.ext | exact (SlN.laterB (by assumption) (by omega) M.ext).1 | exact M.heap (by repeat (first | exact .here | apply Has.there)) | decide) _ _ _ (by first | assumption | omega | exact And.left (by assumption) | exact (by assumption : SlAt _ _ _ _ _).later M.ext | exact TapeS.later (by assumption) M.ext | exact (SlN.laterB (by assumption) (by omega) M.ext).1 | exact M.heap (by repeat (first | exact .here | apply Has.there)) | decide) _ _ _ (by first | assumption | omega | exact And.left (by assumption) | exact (by assumption : SlAt _ _ _ _ _).later M.ext | exact TapeS.later (by assumption) M.ext | exact (SlN.laterB (by assumption) (by omega) M.ext).1 | exact M.heap (by repeat (first | exact .here | apply Has.there)) | decide)) ?_)); clear F; clear a; rintro _ w ⟨u26, ent26, rfl, p26_1, N⟩ a F; replace M := M.joins N; clear N
    refine stepD rfl F rfl (o_move (F.ev rfl) ?_); clear F; clear a; intro a F
    refine stepD rfl F rfl (o_extract (F.ev rfl) rfl ?_); clear F; clear a; intro a F
    refine stepD rfl F rfl (o_extract (F.ev rfl) rfl ?_); clear F; clear a; intro a F
    refine stepD rfl F rfl (o_assign (F.ev rfl) ?_); clear F; clear a; intro a F
    refine stepD rfl F rfl (o_assign (F.ev rfl) ?_); clear F; clear a; intro a F
    with_reducible refine l_nil ?_
    with_reducible refine q_then ?_
    with_reducible refine c_seq ?_
    with_reducible refine c_region ?_
    refine stepD rfl F rfl (o_move (F.ev rfl) ?_); clear F; clear a; intro a F
    refine stepD rfl F rfl (o_eql (F.ev rfl) (F.ev rfl) ?_); clear F; clear a; intro a F
    with_reducible refine l_nil ?_
    with_reducible refine q_then ?_
    refine c_if F rfl (fun h1 => ?_) (fun h1 => ?_)
    · skip
      rw [h1] at F; replace h1 := of_decide_eq_true h1
      with_reducible refine c_region ?_
      refine stepD rfl F rfl (o_move (F.ev rfl) ?_); clear F; clear a; intro a F
      refine stepD rfl F rfl (o_assign (F.ev rfl) ?_); clear F; clear a; intro a F
      with_reducible refine l_nil ?_
      with_reducible refine q_inB ?_
      with_reducible refine q_then ?_
      with_reducible refine c_region ?_
      refine stepD rfl F rfl (o_move (F.ev rfl) ?_); clear F; clear a; intro a F
      refine stepD rfl F rfl (o_sub (F.ev rfl) (F.ev rfl) (w_i64 (by omega) (by omega)) ?_); clear F; clear a; intro a F
      refine stepD rfl F rfl (o_assign (F.ev rfl) ?_); clear F; clear a; intro a F
      with_reducible refine l_nil ?_
      with_reducible refine q_then ?_
      exact ⟨c - 1, by omega, c - 1, _, _, _, _, rfl, by omega, ⟨OwnS.slJ (by assumption) M E0.size, learn_is hOi (by assumption), learn_valid (by assumption)⟩, Nat.le_trans (Nat.add_le_add_right learn_len _) (by omega), F.only [6, 5, 0, 1] rfl, (M.sub (List.sublist_append_right _ _)).un E0⟩
    · skip
      rw [h1] at F; replace h1 := of_decide_eq_false h1
      with_reducible refine c_skip ?_
      with_reducible refine q_inB ?_
      with_reducible refine q_then ?_
      with_reducible refine c_region ?_
      refine stepD rfl F rfl (o_move (F.ev rfl) ?_); clear F; clear a; intro a F
      refine stepD rfl F rfl (o_sub (F.ev rfl) (F.ev rfl) (w_i64 (by omega) (by omega)) ?_); clear F; clear a; intro a F
      refine stepD rfl F rfl (o_assign (F.ev rfl) ?_); clear F; clear a; intro a F
      with_reducible refine l_nil ?_
      with_reducible refine q_then ?_
      exact ⟨c - 1, by omega, c - 1, _, _, _, _, rfl, by omega, hO.laterB hbt M.ext, by omega, F.only [6, 5, 0, 1] rfl, (M.sub (List.sublist_append_right _ _)).un E0⟩
  · with_reducible refine c_seq ?_
    with_reducible refine c_seq ?_
    with_reducible refine c_region ?_
    refine stepD rfl F rfl (o_move (F.ev rfl) ?_); clear F; clear a; intro a F
    refine stepD rfl F rfl (o_gtrF (F.ev rfl) (F.ev rfl) (by omega) ?_); clear F; clear a; intro a F
    with_reducible refine l_nil ?_
    with_reducible refine q_then ?_
    refine c_false F rfl rfl ?_
    with_reducible refine c_exit ?_
    with_reducible refine q_thenX ?_
    with_reducible refine q_thenX ?_
    with_reducible refine q_inBX ?_
    with_reducible refine q_then ?_
    with_reducible refine c_seq ?_
    with_reducible refine c_region ?_
    refine stepD rfl F rfl (o_move (F.ev rfl) ?_); clear F; clear a; intro a F
    refine stepD rfl F rfl (o_assign (F.ev rfl) ?_); clear F; clear a; intro a F
    with_reducible refine l_nil ?_
    with_reducible refine q_then ?_
    with_reducible refine c_ret ?_
    refine p_ret F rfl (.cons (.tmp (F.ev rfl)) .nil) ?_; (try dsimp only [oneOr])
    exact ⟨_, _, hO, by omega, M⟩
end Go.Proofs.YtilgoepokaaleaaGreat
/-! ZR -/
namespace Go.Proofs.YtilgoepokaaleaaGreat
set_option linter.unusedVariables false
set_option linter.unusedSimpArgs false
open Go.RowKit
theorem op_mk (a b : Int) : putAll [(0, 1), (1, 1)] opZ [(0, [.int .u64 a]), (1, [.int .i64 b])] = some (opC ⟨a, b⟩) := rfl
end Go.Proofs.YtilgoepokaaleaaGreat
/-! ZT -/
namespace Go.Proofs.YtilgoepokaaleaaGreat
set_option linter.unusedVariables false
set_option linter.unusedSimpArgs false
open Go.RowKit
attribute [local irreducible] OpTo wpListIn Code.wpIn MW Cal
structure OptI (out : List OptV) (i : Nat) : Prop where
  len : out.length < i
  ok : ∀ o ∈ out, opt1 o = true ∧ o.nb < i
  asc : AscC cmpO out
theorem OptI.snoc {out : List OptV} {i : Nat} (h : OptI out i) (h1 : 1 ≤ i) {c : Int} (hc : validM c = true) : OptI (out ++ [⟨i, c⟩]) (i + 1) where
  len := by have := h.len; simp; omega
  ok := fun o ho => by
    rcases List.mem_append.1 ho with ho | ho
    · exact ⟨(h.ok o ho).1, by have := (h.ok o ho).2; omega⟩
    · simp only [List.mem_singleton] at ho
      subst ho
      refine ⟨?_, by show (i : Int) < ((i + 1 : Nat) : Int); omega⟩
      unfold opt1
      dsimp only
      rw [hc, decide_eq_false (show ¬ (i : Int) = 0 by omega)]
      rfl
  asc := List.pairwise_append.2 ⟨h.asc, List.pairwise_singleton _ _, fun a ha b hb => by
    simp only [List.mem_singleton] at hb
    subst hb
    exact cmpI_lt.2 (h.ok a ha).2⟩
theorem OptI.skip {out : List OptV} {i : Nat} (h : OptI out i) : OptI out (i + 1) := ⟨by have := h.len; omega, fun o ho => ⟨(h.ok o ho).1, by have := (h.ok o ho).2; omega⟩, h.asc⟩
theorem OptI.val {out : List OptV} {i : Nat} (h : OptI out i) (hi : i ≤ 6) : validOs out = true := validOs_iff.2 ⟨by have := h.len; omega, fun a ha => (h.ok a ha).1, h.asc⟩
set_option maxHeartbeats 4000000 in
theorem optionsW_c {bt : Nat} {p : Option Addr} {len cap k : Nat} {xs : List Int} (W : World) (hT : TapeS W bt p len xs) (hb : W.heap[bt]? = some (tobj p len cap k)) :
    Cal Tryz.prog 13 [.pointer (some ⟨bt, 0, none⟩)].toArray W fun r w' => ∃ l k', OptO W.heap.size w' r l ∧ Mem [bt] W w' [(bt, tobj p len cap k')] := by
  have hbt : bt < W.heap.size := (Array.getElem?_eq_some_iff.1 hb).1
  refine fn_ofM (n := 24) [bt] Tryz.func13 rfl rfl rfl ?_
  intro a w F M hwW
  replace M := M.came hwW hb (by simp) (by simp)
  with_reducible refine c_seq ?_
  with_reducible refine c_region ?_
  refine stepD rfl F rfl (o_assign (F.ev rfl) ?_); clear F; clear a; intro a F
  with_reducible refine l_nil ?_
  with_reducible refine q_then ?_
  with_reducible refine c_seq ?_
  with_reducible refine c_region ?_
  refine stepD rfl F rfl (o_assign (F.ev rfl) ?_); clear F; clear a; intro a F
  with_reducible refine l_nil ?_
  with_reducible refine q_then ?_
  with_reducible refine c_seq ?_
  with_reducible refine c_seq ?_
  with_reducible refine c_region ?_
  refine stepD rfl F rfl (o_assign (F.ev rfl) ?_); clear F; clear a; intro a F
  with_reducible refine l_nil ?_
  with_reducible refine q_then ?_
  with_reducible refine c_block ?_
  refine c_loop (fun m a w => ∃ (i : Nat) (x : Int) (out : List OptV) (u : Value) (es : List (Nat × Obj)) (k : Nat), m = 6 - i ∧ x = i ∧ 1 ≤ i ∧ i ≤ 6 ∧ OwnS 55 2 u out.length (opsC out) es ∧ OptI out i ∧ Frm a 24 [] [(4, .int .i64 x), (3, u), (0, .pointer (some ⟨bt, 0, none⟩))] ∧ Mem [bt] W w ((bt, tobj p len cap k) :: es)) 5 ⟨1, _, [], _, [], _, rfl, rfl, by omega, by omega, OwnS.nil _ _, ⟨by simp, by simp, .nil⟩, F.only [4, 3, 0] rfl, M⟩ ?_
  clear F M a
  rintro m a w ⟨i, x, out, u, es, k, hm, hxi, hi1, h6, hOs, hI, F, M⟩
  have hil := hI.len
  by_cases hlt : i < 6
  · with_reducible refine c_seq ?_
    with_reducible refine c_seq ?_
    with_reducible refine c_region ?_
    refine stepD rfl F rfl (o_move (F.ev rfl) ?_); clear F; clear a; intro a F
    refine stepD rfl F rfl (o_leqT (F.ev rfl) (F.ev rfl) (by omega) ?_); clear F; clear a; intro a F
    with_reducible refine l_nil ?_
    with_reducible refine q_then ?_
    refine c_true F rfl rfl ?_
    with_reducible refine c_skip ?_
    with_reducible refine q_then ?_
    with_reducible refine c_seq ?_
    with_reducible refine c_block ?_
    with_reducible refine c_seq ?_
    with_reducible refine c_region ?_
    refine stepD rfl F rfl (o_move (F.ev rfl) ?_); clear F; clear a; intro a F
    refine stepD rfl F rfl (o_call (F.ev rfl) (F.evs rfl) (Cal.mono (boolE_c _ (by first | assumption | omega | exact And.left (by assumption) | exact (by assumption : SlAt _ _ _ _ _).later M.ext | exact TapeS.later (by assumption) M.ext | exact (SlN.laterB (by assumption) (by omega) M.ext).1 | exact M.heap (by repeat (first | exact .here | apply Has.there)) | decide) (by first | assumption | omega | exact And.left (by assumption) | exact (by assumption : SlAt _ _ _ _ _).later M.ext | exact TapeS.later (by assumption) M.ext | exact (SlN.laterB (by assumption) (by omega) M.ext).1 | exact M.heap (by repeat (first | exact .here | apply Has.there)) | decide) _ (by first | assumption | omega | exact And.left (by assumption) | exact (by assumption : SlAt _ _ _ _ _).later M.ext | exact TapeS.later (by assumption) M.ext | exact (SlN.laterB (by assumption) (by omega) M.ext).1 | exact M.heap (by repeat (first | exact .here | apply Has.there)) | decide) (by first | assumption | omega | exact And.left (by assumption) | exact (by assumption : SlAt _ _ _ _ _).later M.ext | exact TapeS.later (by assumption) M.ext | exact (SlN.laterB (by assumption) (by omega) M.ext).1 | exact M.heap (by repeat (first | exact .here | apply Has.there)) | decide)) ?_)); clear F; clear a; have M0 := M; clear M; rintro _ w ⟨x11, k'11, rfl, N⟩ a F; replace M := M0.turn1 N (by repeat (first | exact .here | apply Upd.there)); clear M0 N
    with_reducible refine l_nil ?_
    with_reducible refine q_then ?_
    refine c_if F rfl (fun h1 => ?_) (fun h1 => ?_)
    · skip
      rw [h1] at F
      with_reducible refine c_seq ?_
      with_reducible refine c_region ?_
      refine stepD rfl F rfl (o_move (F.ev rfl) ?_); clear F; clear a; intro a F
      refine stepD rfl F rfl (o_call (F.ev rfl) (F.evs rfl) (Cal.mono (costE_c _ (by first | assumption | omega | exact And.left (by assumption) | exact (by assumption : SlAt _ _ _ _ _).later M.ext | exact TapeS.later (by assumption) M.ext | exact (SlN.laterB (by assumption) (by omega) M.ext).1 | exact M.heap (by repeat (first | exact .here | apply Has.there)) | decide) (by first | assumption | omega | exact And.left (by assumption) | exact (by assumption : SlAt _ _ _ _ _).later M.ext | exact TapeS.later (by assumption) M.ext | exact (SlN.laterB (by assumption) (by omega) M.ext).1 | exact M.heap (by repeat (first | exact .here | apply Has.there)) | decide)) ?_)); clear F; clear a; have M0 := M; clear M; rintro _ w ⟨x13, k'13, rfl, p13_1, N⟩ a F; replace M := M0.turn1 N (by repeat (first | exact .here | apply Upd.there)); clear M0 N
      refine stepD rfl F rfl (o_assign (F.ev rfl) ?_); clear F; clear a; intro a F
      with_reducible refine l_nil ?_
      with_reducible refine q_then ?_
      with_reducible refine c_seq ?_
      with_reducible refine c_seq ?_
      with_reducible refine c_region ?_
      refine stepD rfl F rfl (o_move (F.ev rfl) ?_); clear F; clear a; intro a F
      refine stepD rfl F rfl (o_call (F.ev rfl) (F.evs rfl) (Cal.mono (boolE_c _ (by first | assumption | omega | exact And.left (by assumption) | exact (by assumption : SlAt _ _ _ _ _).later M.ext | exact TapeS.later (by assumption) M.ext | exact (SlN.laterB (by assumption) (by omega) M.ext).1 | exact M.heap (by repeat (first | exact .here | apply Has.there)) | decide) (by first | assumption | omega | exact And.left (by assumption) | exact (by assumption : SlAt _ _ _ _ _).later M.ext | exact TapeS.later (by assumption) M.ext | exact (SlN.laterB (by assumption) (by omega) M.ext).1 | exact M.heap (by repeat (first | exact .here | apply Has.there)) | decide) _ (by first | assumption | omega | exact And.left (by assumption) | exact (by assumption : SlAt _ _ _ _ _).later M.ext | exact TapeS.later (by assumption) M.ext | exact (SlN.laterB (by assumption) (by omega) M.ext).1 | exact M.heap (by repeat (first | exact .here | apply Has.there)) | decide) (by first | assumption | omega | exact And.left (by assumption) | exact (by assumption : SlAt _ _ _ _ _).later M.ext | exact TapeS.later (by assumption) M.ext | exact (SlN.laterB (by assumption) (by omega) M.ext).1 | exact M.heap (by repeat (first | exact .here | apply Has.there)) | decide)) ?_)); clear F; clear a; have M0 := M; clear M; rintro _ w ⟨x15, k'15, rfl, N⟩ a F; replace M := M0.turn1 N (by repeat (first | exact .here | apply Upd.there)); clear M0 N
      with_reducible refine l_nil ?_
      with_reducible refine q_then ?_
      refine c_if F rfl (fun h2 => ?_) (fun h2 => ?_)
      · skip
        rw [h2] at F
        with_reducible refine c_region ?_
        refine stepD rfl F rfl (o_assign (F.ev rfl) ?_); clear F; clear a; intro a F
        with_reducible refine l_nil ?_
        with_reducible refine q_then ?_
        with_reducible refine c_region ?_
        refine stepD rfl F rfl (o_move (F.ev rfl) ?_); clear F; clear a; intro a F
        refine stepD rfl F rfl (o_move (F.ev rfl) ?_); clear F; clear a; intro a F
        refine stepD rfl F rfl (o_conv (F.ev rfl) (w_u64 (by omega) (by omega)) ?_); clear F; clear a; intro a F
        refine stepD rfl F rfl (o_move (F.ev rfl) ?_); clear F; clear a; intro a F
        refine stepD rfl F rfl (o_build F rfl (op_mk _ _) ?_); clear F; clear a; intro a F
        refine stepD rfl F rfl (o_buildSlice F M rfl rfl rfl (op_build1 (by first | assumption | trivial | exact And.left (by assumption))) ?_); clear F; clear M; intro bs21 w M a F
        refine stepD rfl F rfl (o_append1 (enc := opC) (by assumption) M (by repeat (first | exact .here | apply TailAt.cons)) (F.ev rfl) (F.ev rfl) (SrcOf.cells' (M.heap .here) (sg_all (op_len (by first | assumption | trivial | exact And.left (by assumption)))) (op_one _)) (by first | omega | (simp; omega)) ?_); clear F; clear M; intro v22 es22 w hO22 M a F; (try dsimp only at M)
        refine stepD rfl F rfl (o_assign (F.ev rfl) ?_); clear F; clear a; intro a F
        with_reducible refine l_nil ?_
        with_reducible refine q_inB ?_
        with_reducible refine q_then ?_
        with_reducible refine c_region ?_
        refine stepD rfl F rfl (o_move (F.ev rfl) ?_); clear F; clear a; intro a F
        refine stepD rfl F rfl (o_add (F.ev rfl) (F.ev rfl) (w_i64 (by omega) (by omega)) ?_); clear F; clear a; intro a F
        refine stepD rfl F rfl (o_assign (F.ev rfl) ?_); clear F; clear a; intro a F
        with_reducible refine l_nil ?_
        with_reducible refine q_then ?_
        exact ⟨_, by omega, i + 1, _, _, _, _, _, rfl, by omega, by omega, by omega, by assumption, by first | exact hI.skip | (subst hxi; exact hI.snoc hi1 (by first | rfl | exact validM_of (by assumption))), F.only [4, 3, 0] rfl, M.sub (by repeat (first | exact .refl _ | apply List.Sublist.cons))⟩
      · skip
        rw [h2] at F
        with_reducible refine c_skip ?_
        with_reducible refine q_then ?_
        with_reducible refine c_region ?_
        refine stepD rfl F rfl (o_move (F.ev rfl) ?_); clear F; clear a; intro a F
        refine stepD rfl F rfl (o_move (F.ev rfl) ?_); clear F; clear a; intro a F
        refine stepD rfl F rfl (o_conv (F.ev rfl) (w_u64 (by omega) (by omega)) ?_); clear F; clear a; intro a F
        refine stepD rfl F rfl (o_move (F.ev rfl) ?_); clear F; clear a; intro a F
        refine stepD rfl F rfl (o_build F rfl (op_mk _ _) ?_); clear F; clear a; intro a F
        refine stepD rfl F rfl (o_buildSlice F M rfl rfl rfl (op_build1 (by first | assumption | trivial | exact And.left (by assumption))) ?_); clear F; clear M; intro bs21 w M a F
        refine stepD rfl F rfl (o_append1 (enc := opC) (by assumption) M (by repeat (first | exact .here | apply TailAt.cons)) (F.ev rfl) (F.ev rfl) (SrcOf.cells' (M.heap .here) (sg_all (op_len (by first | assumption | trivial | exact And.left (by assumption)))) (op_one _)) (by first | omega | (simp; omega)) ?_); clear F; clear M; intro v22 es22 w hO22 M a F; (try dsimp only at M)
        refine stepD rfl F rfl (o_assign (F.ev rfl) ?_); clear F; clear a; intro a F
        with_reducible refine l_nil ?_
        with_reducible refine q_inB ?_
        with_reducible refine q_then ?_
        with_reducible refine c_region ?_
        refine stepD rfl F rfl (o_move (F.ev rfl) ?_); clear F; clear a; intro a F
        refine stepD rfl F rfl (o_add (F.ev rfl) (F.ev rfl) (w_i64 (by omega) (by omega)) ?_); clear F; clear a; intro a F
        refine stepD rfl F rfl (o_assign (F.ev rfl) ?_); clear F; clear a; intro a F
        with_reducible refine l_nil ?_
        with_reducible refine q_then ?_
        exact ⟨_, by omega, i + 1, _, _, _, _, _, rfl, by omega, by omega, by omega, by assumption, by first | exact hI.skip | (subst hxi; exact hI.snoc hi1 (by first | rfl | exact validM_of (by assumption))), F.only [4, 3, 0] rfl, M.sub (by repeat (first | exact .refl _ | apply List.Sublist.cons))⟩
    · skip
      rw [h1] at F
      with_reducible refine c_skip ?_
      with_reducible refine q_inB ?_
      with_reducible refine q_then ?_
      with_reducible refine c_region ?_
      refine stepD rfl F rfl (o_move (F.ev rfl) ?_); clear F; clear a; intro a F
      refine stepD rfl F rfl (o_add (F.ev rfl) (F.ev rfl) (w_i64 (by omega) (by omega)) ?_); clear F; clear a; intro a F
      refine stepD rfl F rfl (o_assign (F.ev rfl) ?_); clear F; clear a; intro a F
      with_reducible refine l_nil ?_
      with_reducible refine q_then ?_
      exact ⟨_, by omega, i + 1, _, _, _, _, _, rfl, by omega, by omega, by omega, by assumption, by first | exact hI.skip | (subst hxi; exact hI.snoc hi1 (by first | rfl | exact validM_of (by assumption))), F.only [4, 3, 0] rfl, M.sub (by repeat (first | exact .refl _ | apply List.Sublist.cons))⟩
  · obtain ⟨q, cap', rfl⟩ := hOs.slice
    with_reducible refine c_seq ?_
    with_reducible refine c_seq ?_
    with_reducible refine c_region ?_
    refine stepD rfl F rfl (o_move (F.ev rfl) ?_); clear F; clear a; intro a F
    refine stepD rfl F rfl (o_leqF (F.ev rfl) (F.ev rfl) (by omega) ?_); clear F; clear a; intro a F
    with_reducible refine l_nil ?_
    with_reducible refine q_then ?_
    refine c_false F rfl rfl ?_
    with_reducible refine c_exit ?_
    with_reducible refine q_thenX ?_
    with_reducible refine q_thenX ?_
    with_reducible refine q_inBX ?_
    with_reducible refine q_then ?_
    with_reducible refine c_seq ?_
    with_reducible refine c_region ?_
    refine stepD rfl F rfl (o_move (F.ev rfl) ?_); clear F; clear a; intro a F
    refine stepD rfl F rfl (o_assign (F.ev rfl) ?_); clear F; clear a; intro a F
    with_reducible refine l_nil ?_
    with_reducible refine q_then ?_
    with_reducible refine c_ret ?_
    refine p_ret F rfl (.cons (.tmp (F.ev rfl)) .nil) ?_; (try dsimp only [oneOr])
    exact ⟨_, _, ⟨hOs.slN M (fun q hq => by simp [hq]) (nd_not M.nd (fun q hq => hq)), hI.val h6⟩, M.sub (List.Sublist.cons_cons _ (List.nil_sublist _))⟩
end Go.Proofs.YtilgoepokaaleaaGreat
/-! ZL -/
namespace Go.Proofs.YtilgoepokaaleaaGreat
set_option linter.unusedVariables false
set_option linter.unusedSimpArgs false
open Go.RowKit
attribute [local irreducible] OpTo wpListIn Code.wpIn MW Cal
theorem Mem.reR {S : List Nat} {W w : World} {l : List (Nat × Obj)} (M : Mem S W w l) (S' : List Nat) (h : ∀ p ∈ l, p.1 ∈ S') : Mem S' w w l := ⟨Ext.refl _ _, M.at_, M.nd, fun p hp => .inl (h p hp)⟩
theorem Mem.unR {S : List Nat} {W w1 w : World} {l : List (Nat × Obj)} (M : Mem S w1 w l) (E : Ext [] W w1) (hS : ∀ b ∈ S, W.heap.size ≤ b) : Mem [] W w l :=
  ⟨(E.any.trans M.ext).fresh fun k hk => .inr (hS k hk), M.at_, M.nd, fun p hp => .inr ((M.own p hp).elim (hS _) fun h => Nat.le_trans E.size h)⟩
end Go.Proofs.YtilgoepokaaleaaGreat
/-! ZU -/
namespace Go.Proofs.YtilgoepokaaleaaGreat
set_option linter.unusedVariables false
set_option linter.unusedSimpArgs false
open Go.RowKit
attribute [local irreducible] OpTo wpListIn Code.wpIn MW Cal
def getV (l : List InsV) (t : DstV) : Option InsV := l.find? fun x => decide (x.to = t)
set_option maxHeartbeats 2000000 in
theorem rget_c (l : List InsV) (hx : ∀ x ∈ l, IsIn x) (v : Value) (t : DstV) (ht : IsDv t) (W : World) (hS : SlAt W 40 v l.length (insC l)) (hlen : l.length ≤ 100000) :
    Cal Tryz.prog 26 [v, .agg (dvC t).toArray].toArray W fun r w' => r = .tuple [.agg (inC ((getV l t).getD in0)).toArray, .bool (getV l t).isSome].toArray ∧ Ext [] W w' := by
  obtain ⟨q, cap, rfl, hcap, hsp, hll, hm⟩ := id hS
  have c1 : ∀ w, getV l t = none → Ext [] W w → Value.tuple [.agg (inC in0).toArray, .bool false].toArray = .tuple [.agg (inC ((getV l t).getD in0)).toArray, .bool (getV l t).isSome].toArray ∧ Ext [] W w := fun w h E => by
    rw [h]
    exact ⟨rfl, E⟩
  have c2 : ∀ w d, getV l t = some d → Ext [] W w → Value.tuple [.agg (inC d).toArray, .bool true].toArray = .tuple [.agg (inC ((getV l t).getD in0)).toArray, .bool (getV l t).isSome].toArray ∧ Ext [] W w := fun w d h E => by
    rw [h]
    exact ⟨rfl, E⟩
  have hz : putAll [(0, 35), (35, 1), (36, 2), (38, 1), (39, 1)] inZ [] = some (inC in0) := rfl
  have hi0 := in0_is
  refine fn_ofM (n := 21) [] Tryz.func26 rfl rfl rfl ?_
  intro a w F M hwW
  with_reducible refine c_seq ?_
  with_reducible refine c_region ?_
  refine stepD rfl F rfl (o_box M (F.ev rfl) rfl ?_); clear F; clear M; intro b3 w M a F
  refine stepD rfl F rfl (o_alloc M ?_); clear F; clear M; intro b4 w M a F
  refine stepD rfl F rfl (o_assign (F.ev rfl) ?_); clear F; clear a; intro a F
  with_reducible refine l_nil ?_
  with_reducible refine q_then ?_
  with_reducible refine c_seq ?_
  with_reducible refine c_seq ?_
  with_reducible refine c_region ?_
  refine stepD rfl F rfl (o_move (F.ev rfl) ?_); clear F; clear a; intro a F
  refine stepD rfl F rfl (o_lenSl (F.ev rfl) ?_); clear F; clear a; intro a F
  refine stepD rfl F rfl (o_move (F.ev rfl) ?_); clear F; clear a; intro a F
  with_reducible refine l_nil ?_
  with_reducible refine q_then ?_
  with_reducible refine c_block ?_
  obtain ⟨R, hR⟩ : ∃ R, (l.drop 0).find? (fun x => decide (x.to = t)) = R := ⟨_, rfl⟩
  have hV : getV l t = R := hR
  refine c_loop (fun m a w => ∃ (i : Nat) , m = l.length - i ∧ i ≤ l.length ∧ ((l.drop i).find? (fun x => decide (x.to = t)) = R) ∧ Frm a 21 [] [(10, .int .i64 i), (9, .int .i64 l.length), (8, .slice q l.length cap), (3, .pointer (some ⟨b3, 0, none⟩)), (4, .pointer (some ⟨b4, 0, none⟩))] ∧ Mem [] W w [(b4, .cells inZ.toArray 50 (0, 0)), (b3, .cells (dvC t).toArray 45 (0, 0))]) l.length ⟨0, rfl, by omega, hR, F.only [10, 9, 8, 3, 4] rfl, M.sub (by repeat (first | exact .refl _ | apply List.Sublist.cons_cons | apply List.Sublist.cons))⟩ ?_
  clear F M a w
  rintro m a w ⟨i, hm', hi, hf, F, M⟩
  by_cases hlt : i < l.length
  · obtain ⟨b, o, cs, t', fz, rfl, hb, hs⟩ := hm (by omega)
    obtain ⟨y, hy0⟩ : ∃ y, y = l[i] := ⟨_, rfl⟩
    have hyi : IsIn y := by rw [hy0]; exact hx _ (List.getElem_mem hlt)
    have f1 : seg cs (o + (i : Int).toNat * 40) 40 = some (inC y) := by rw [hy0]; exact seg_el (ins_len hx) hs hlt (by omega)
    rw [← List.getElem_cons_drop hlt, ← hy0] at hf
    clear hy0
    rw [List.find?_cons] at hf
    with_reducible refine c_seq ?_
    with_reducible refine c_region ?_
    refine stepD rfl F rfl (o_lssT (F.ev rfl) (F.ev rfl) (by omega) ?_); clear F; clear a; intro a F
    with_reducible refine l_nil ?_
    with_reducible refine q_then ?_
    with_reducible refine c_seq ?_
    refine c_true F rfl rfl ?_
    with_reducible refine c_skip ?_
    with_reducible refine q_then ?_
    with_reducible refine c_seq ?_
    with_reducible refine c_block ?_
    with_reducible refine c_seq ?_
    with_reducible refine c_region ?_
    refine stepD rfl F rfl (o_indexSl (F.ev rfl) (F.ev rfl) (by omega) (by omega) ?_); clear F; clear a; intro a F
    refine stepD rfl F rfl (o_loadWA M (F.ev rfl) (by assumption) (by assumption) ?_); clear F; clear a; intro a F
    refine stepD rfl F rfl (o_alloc M ?_); clear F; clear M; intro b7 w M a F
    refine stepN rfl F (o_storeA M (F.ev rfl) (F.ev rfl) (in_len (by first | assumption | trivial | exact And.left (by assumption))) (in_one _) (by repeat (first | exact .here | apply Has.there)) (put_all (by rw [(in_len (by first | assumption | trivial | exact And.left (by assumption)))]; first | rfl | rw [(in_len (by first | assumption | trivial | exact And.left (by assumption)))])) (by repeat (first | exact .here | apply Upd.there)) ?_); clear F; clear M; intro w M a F
    with_reducible refine l_nil ?_
    with_reducible refine q_then ?_
    with_reducible refine c_seq ?_
    with_reducible refine c_region ?_
    refine stepD rfl F rfl (o_fieldAddr (F.ev rfl) ?_); clear F; clear a; intro a F
    refine stepD rfl F rfl (o_loadA M (F.ev rfl) (by repeat (first | exact .here | apply Has.there)) (in_to (by first | assumption | trivial | exact And.left (by assumption))) ?_); clear F; clear a; intro a F
    refine stepD rfl F rfl (o_loadA M (F.ev rfl) (by repeat (first | exact .here | apply Has.there)) (dv_all (by first | assumption | trivial | exact And.left (by assumption))) ?_); clear F; clear a; intro a F
    refine stepD rfl F rfl (o_eqlAE (F.ev rfl) (F.ev rfl) (dv_fits (by first | assumption | trivial | exact And.left (by assumption))) (dv_fits (by first | assumption | trivial | exact And.left (by assumption))) (dv_eq (by first | assumption | trivial | exact And.left (by assumption)) (by first | assumption | trivial | exact And.left (by assumption))) ?_); clear F; clear a; intro a F
    with_reducible refine l_nil ?_
    with_reducible refine q_then ?_
    refine c_if F rfl (fun h1 => ?_) (fun h1 => ?_)
    · skip
      rw [h1] at F; replace h1 := of_decide_eq_true h1
      with_reducible refine c_seq ?_
      with_reducible refine c_region ?_
      refine stepD rfl F rfl (o_loadA M (F.ev rfl) (by repeat (first | exact .here | apply Has.there)) (in_all (by first | assumption | trivial | exact And.left (by assumption))) ?_); clear F; clear a; intro a F
      refine stepN rfl F (o_storeA M (F.ev rfl) (F.ev rfl) (in_len (by first | assumption | trivial | exact And.left (by assumption))) (in_one _) (by repeat (first | exact .here | apply Has.there)) (put_all (by rw [(in_len (by first | assumption | trivial | exact And.left (by assumption)))]; first | rfl | rw [(in_len (by first | assumption | trivial | exact And.left (by assumption)))])) (by repeat (first | exact .here | apply Upd.there)) ?_); clear F; clear M; intro w M a F
      refine stepD rfl F rfl (o_assign (F.ev rfl) ?_); clear F; clear a; intro a F
      with_reducible refine l_nil ?_
      with_reducible refine q_then ?_
      with_reducible refine c_ret ?_
      with_reducible refine q_inBR ?_
      with_reducible refine q_thenR ?_
      with_reducible refine q_thenR ?_
      with_reducible refine q_inBR ?_
      with_reducible refine q_thenR ?_
      refine p_ret F rfl (.cons (.cell (F.ev rfl) (run_loadVar_agg TAgg.h (M.heap (by repeat (first | exact .here | apply Has.there))) (in_all (by first | assumption | trivial | exact And.left (by assumption))))) (.cons (.tmp (F.ev rfl)) .nil)) ?_; (try dsimp only [oneOr])
      exact c2 _ _ (by rw [hV, ← hf]; simp [*]) M.ext
    · skip
      rw [h1] at F; replace h1 := of_decide_eq_false h1
      with_reducible refine c_skip ?_
      with_reducible refine q_inB ?_
      with_reducible refine q_then ?_
      with_reducible refine c_region ?_
      refine stepD rfl F rfl (o_add (F.ev rfl) (F.ev rfl) (w_i64 (by omega) (by omega)) ?_); clear F; clear a; intro a F
      refine stepD rfl F rfl (o_move (F.ev rfl) ?_); clear F; clear a; intro a F
      with_reducible refine l_nil ?_
      with_reducible refine q_then ?_
      exact ⟨_, by omega, i + 1, rfl, by omega, by rw [← hf]; simp [*], F.only [10, 9, 8, 3, 4] rfl, M.sub (by repeat (first | exact .refl _ | apply List.Sublist.cons))⟩
  · obtain rfl : i = l.length := by omega
    rw [List.drop_length] at hf
    with_reducible refine c_seq ?_
    with_reducible refine c_region ?_
    refine stepD rfl F rfl (o_lssF (F.ev rfl) (F.ev rfl) (by omega) ?_); clear F; clear a; intro a F
    with_reducible refine l_nil ?_
    with_reducible refine q_then ?_
    with_reducible refine c_seq ?_
    refine c_false F rfl rfl ?_
    with_reducible refine c_exit ?_
    with_reducible refine q_thenX ?_
    with_reducible refine q_thenX ?_
    with_reducible refine q_inBX ?_
    with_reducible refine q_then ?_
    with_reducible refine c_seq ?_
    with_reducible refine c_region ?_
    refine stepD rfl F rfl (o_build F rfl (by assumption) ?_); clear F; clear a; intro a F
    refine stepN rfl F (o_storeA M (F.ev rfl) (F.ev rfl) (in_len (by first | assumption | trivial | exact And.left (by assumption))) (in_one _) (by repeat (first | exact .here | apply Has.there)) (put_all (by rw [(in_len (by first | assumption | trivial | exact And.left (by assumption)))]; first | rfl | rw [(in_len (by first | assumption | trivial | exact And.left (by assumption)))])) (by repeat (first | exact .here | apply Upd.there)) ?_); clear F; clear M; intro w M a F
    refine stepD rfl F rfl (o_assign (F.ev rfl) ?_); clear F; clear a; intro a F
    with_reducible refine l_nil ?_
    with_reducible refine q_then ?_
    with_reducible refine c_ret ?_
    refine p_ret F rfl (.cons (.cell (F.ev rfl) (run_loadVar_agg TAgg.h (M.heap (by repeat (first | exact .here | apply Has.there))) (in_all (by first | assumption | trivial | exact And.left (by assumption))))) (.cons (.tmp (F.ev rfl)) .nil)) ?_; (try dsimp only [oneOr])
    exact c1 _ (by rw [hV, ← hf]; rfl) M.ext
end Go.Proofs.YtilgoepokaaleaaGreat
/-! ZV -/
namespace Go.Proofs.YtilgoepokaaleaaGreat
set_option linter.unusedVariables false
set_option linter.unusedSimpArgs false
open Go.RowKit
attribute [local irreducible] OpTo wpListIn Code.wpIn MW Cal
theorem selI_is {now : Int} {l : List RouV} {s : List SrcV} {o : List OptV} {old : List InsV} (hi : ∀ x ∈ l, IsRo x) (ho : ∀ x ∈ old, IsIn x) : ∀ x ∈ selV now l s o old, IsIn x := fun x hx => by
  obtain ⟨t, ht, h⟩ := List.mem_filterMap.1 hx
  refine selE_is ?_ ho h
  rcases (mem_dests hi ho).1 ht with ⟨r, hr, rfl⟩ | ⟨r, hr, rfl⟩
  · exact (hi r hr).1
  · exact (ho r hr).1
theorem selI_len {now : Int} {l : List RouV} {s : List SrcV} {o : List OptV} {old : List InsV} (hi : ∀ x ∈ l, IsRo x) (ho : ∀ x ∈ old, IsIn x) : (selV now l s o old).length ≤ l.length + old.length := by
  have h1 : (destsV l old).length ≤ (allD l old).length := by
    have hd : ∀ x ∈ allD l old, IsDv x := fun x hx => by
      unfold allD at hx
      rcases List.mem_append.1 hx with h | h
      · obtain ⟨r, hr, rfl⟩ := List.mem_map.1 h
        exact (hi r hr).1
      · obtain ⟨r, hr, rfl⟩ := List.mem_map.1 h
        exact (ho r hr).1
    have := foldr_insD hd
    exact nodupD_le this.1 fun x hx => (this.2 x).1 hx
  have h2 : (allD l old).length = l.length + old.length := by unfold allD; simp
  have h3 : (selV now l s o old).length ≤ (destsV l old).length := List.length_filterMap_le _ _
  omega
theorem sel_ok {now : Int} {l : List RouV} {s : List SrcV} {o : List OptV} {old : List InsV} (hi : ∀ x ∈ l, IsRo x) (ho : ∀ x ∈ old, IsIn x) (h1 : validRs l = true) (h2 : validSs s = true) (h3 : validOs o = true) (h4 : validIs old = true) (h5 : isTime now = true) (hn : l.length + old.length ≤ 512) : selectV now l s o old = (selV now l s o old, 0) := by
  unfold selectV
  have := selI_len (now := now) (s := s) (o := o) hi ho
  rw [h1, h2, h3, h4, h5, if_neg (by simp), if_neg (by simp), if_neg (by omega)]
theorem get_is {l : List InsV} (hx : ∀ x ∈ l, IsIn x) (t : DstV) : IsIn ((getV l t).getD in0) := by
  cases h : getV l t with
  | none => exact in0_is
  | some x => exact hx x (List.mem_of_find?_eq_some h)
theorem best_get {now : Int} {l : List RouV} {o : List OptV} (hi : ∀ x ∈ l, IsRo x) (hl : validRs l = true) (ho : validOs o = true) {y : RouV} (hy : y ∈ l) {z : OptV} (hz : z ∈ o) (ht : now < y.til) (hn : y.nb = z.nb) (hs : y.said.met + lkC z.cost < 65535) :
    (getV (selV now l [] o []) y.to).isSome = true ∧ ((getV (selV now l [] o []) y.to).getD in0).own.met ≤ y.said.met + lkC z.cost := by
  obtain ⟨x, h1, h2⟩ := best_law hi hl ho hy hz ht hn hs
  unfold getV
  rw [h1]
  exact ⟨rfl, h2⟩
set_option maxHeartbeats 16000000 in
theorem bestL_c (pt : Option Addr) (cap : Nat) (xs0 : List Int) (W : World) (hI : IntsAt W (.slice pt xs0.length cap) xs0) (hcap : xs0.length ≤ cap) :
    Cal Tryz.prog 5 [.slice pt xs0.length cap].toArray W fun v w' => v = .bool true ∧ Ext [] W w' := by
  have hmem : 0 < xs0.length → ∃ b o cs t fz, pt = some ⟨b, o, none⟩ ∧ W.heap[b]? = some (.cells cs t fz) ∧ seg cs.toList o xs0.length = some (i64C xs0) := fun hl => by
    obtain ⟨p', cap', h1, _, h3⟩ := hI.ex
    cases h1
    exact h3 hl
  refine fn_ofM (n := 93) [] Tryz.func5 rfl rfl rfl ?_
  intro a w F M hwW
  with_reducible refine c_seq ?_
  with_reducible refine c_region ?_
  refine stepD rfl F rfl (o_assign (F.ev rfl) ?_); clear F; clear a; intro a F
  with_reducible refine l_nil ?_
  with_reducible refine q_then ?_
  with_reducible refine c_seq ?_
  with_reducible refine c_region ?_
  refine stepD rfl F rfl (o_move (F.ev rfl) ?_); clear F; clear a; intro a F
  (refine stepD rfl F rfl (o_call (F.ev rfl) (F.evs rfl) (Cal.mono (new_c xs0 _ (hI.later M.ext) hcap ) ?_)); clear F; clear a; rintro _ w ⟨bt, rfl, N⟩ a F; replace M := M.joins N; clear N)
  have hbt : W.heap.size ≤ bt := (M.own _ List.mem_cons_self).resolve_left (by simp)
  have hT : TapeS W bt pt (cut400 xs0).length (cut400 xs0) := tape_new (Ext.refl [] W) hbt hI.bd hmem
  generalize hxs : cut400 xs0 = xs at *
  generalize hlen : xs.length = len at *
  clear hxs hI hmem hcap
  simp only [List.cons_append, List.nil_append] at M
  have E0 := M.ext
  have hS0 : ∀ b ∈ [bt], W.heap.size ≤ b := fun b hb => by simp at hb; rw [hb]; exact hbt
  have hTw := hT.later E0.any
  obtain ⟨wb, hwb, M⟩ : ∃ wb, wb = w ∧ Mem [bt] wb w [(bt, tobj pt len cap 0)] := ⟨w, rfl, M.reR [bt] (by simp)⟩
  rw [← hwb] at E0 hTw
  have hbw : bt < wb.heap.size := by rw [hwb]; exact M.lt List.mem_cons_self
  clear hwb
  refine stepD rfl F rfl (o_assign (F.ev rfl) ?_); clear F; clear a; intro a F
  with_reducible refine l_nil ?_
  with_reducible refine q_then ?_
  with_reducible refine c_seq ?_
  with_reducible refine c_region ?_
  refine stepD rfl F rfl (o_move (F.ev rfl) ?_); clear F; clear a; intro a F
  refine stepD rfl F rfl (o_call (F.ev rfl) (F.evs rfl) (Cal.mono (base_c _ (by first | assumption | omega | exact And.left (by assumption) | exact (by assumption : SlAt _ _ _ _ _).later M.ext | exact TapeS.later (by assumption) M.ext | exact (SlN.laterB (by assumption) (by omega) M.ext).1 | exact M.heap (by repeat (first | exact .here | apply Has.there)) | decide) (by first | assumption | omega | exact And.left (by assumption) | exact (by assumption : SlAt _ _ _ _ _).later M.ext | exact TapeS.later (by assumption) M.ext | exact (SlN.laterB (by assumption) (by omega) M.ext).1 | exact M.heap (by repeat (first | exact .here | apply Has.there)) | decide)) ?_)); clear F; clear a; have M0 := M; have zb19 := M0.ext.size; clear M; rintro _ w ⟨x19, k'19, rfl, p19_1, N⟩ a F; replace M := M0.turn1 N (by repeat (first | exact .here | apply Upd.there)); clear M0 N
  have hnow : 0 ≤ x19.tmod 1000 ∧ x19.tmod 1000 < 1000 := ⟨Int.tmod_nonneg _ p19_1.1, Int.tmod_lt_of_pos _ (by omega)⟩
  refine stepD rfl F rfl (o_rem (F.ev rfl) (F.ev rfl) (by omega) rfl ?_); clear F; clear a; intro a F
  generalize x19.tmod 1000 = now at *
  refine stepD rfl F rfl (o_assign (F.ev rfl) ?_); clear F; clear a; intro a F
  with_reducible refine l_nil ?_
  with_reducible refine q_then ?_
  with_reducible refine c_seq ?_
  with_reducible refine c_region ?_
  refine stepD rfl F rfl (o_move (F.ev rfl) ?_); clear F; clear a; intro a F
  refine stepD rfl F rfl (o_move (F.ev rfl) ?_); clear F; clear a; intro a F
  refine stepD rfl F rfl (o_call (F.ev rfl) (F.evs rfl) (Cal.mono (routesW_c _ (by first | assumption | omega | exact And.left (by assumption) | exact (by assumption : SlAt _ _ _ _ _).later M.ext | exact TapeS.later (by assumption) M.ext | exact (SlN.laterB (by assumption) (by omega) M.ext).1 | exact M.heap (by repeat (first | exact .here | apply Has.there)) | decide) (by first | assumption | omega | exact And.left (by assumption) | exact (by assumption : SlAt _ _ _ _ _).later M.ext | exact TapeS.later (by assumption) M.ext | exact (SlN.laterB (by assumption) (by omega) M.ext).1 | exact M.heap (by repeat (first | exact .here | apply Has.there)) | decide) _ (by first | assumption | omega | exact And.left (by assumption) | exact (by assumption : SlAt _ _ _ _ _).later M.ext | exact TapeS.later (by assumption) M.ext | exact (SlN.laterB (by assumption) (by omega) M.ext).1 | exact M.heap (by repeat (first | exact .here | apply Has.there)) | decide) (by first | assumption | omega | exact And.left (by assumption) | exact (by assumption : SlAt _ _ _ _ _).later M.ext | exact TapeS.later (by assumption) M.ext | exact (SlN.laterB (by assumption) (by omega) M.ext).1 | exact M.heap (by repeat (first | exact .here | apply Has.there)) | decide)) ?_)); clear F; clear a; have M0 := M; have zb23 := M0.ext.size; clear M; rintro v23 w ⟨l23, k'23, p23_0, p23_1, N⟩ a F; replace M := M0.turn1 N (by repeat (first | exact .here | apply Upd.there)); clear M0 N
  replace hTw := hTw.later M.ext
  replace E0 := (M.unR E0 hS0).ext
  obtain ⟨wb, hwb, M⟩ : ∃ wb, wb = w ∧ Mem [bt] wb w [(bt, tobj pt len cap k'23)] := ⟨w, rfl, M.re (by simp)⟩
  rw [← hwb] at E0 hTw p23_0 
  have hbw : bt < wb.heap.size := by rw [hwb]; exact M.lt List.mem_cons_self
  clear hwb
  obtain ⟨l, hl0⟩ : ∃ l, l = l23 := ⟨_, rfl⟩
  rw [← hl0] at p23_0 p23_1
  clear hl0
  refine stepD rfl F rfl (o_move (F.ev rfl) ?_); clear F; clear a; intro a F
  refine stepD rfl F rfl (o_call (F.ev rfl) (F.evs rfl) (Cal.mono (optionsW_c _ (by first | assumption | omega | exact And.left (by assumption) | exact (by assumption : SlAt _ _ _ _ _).later M.ext | exact TapeS.later (by assumption) M.ext | exact (SlN.laterB (by assumption) (by omega) M.ext).1 | exact M.heap (by repeat (first | exact .here | apply Has.there)) | decide) (by first | assumption | omega | exact And.left (by assumption) | exact (by assumption : SlAt _ _ _ _ _).later M.ext | exact TapeS.later (by assumption) M.ext | exact (SlN.laterB (by assumption) (by omega) M.ext).1 | exact M.heap (by repeat (first | exact .here | apply Has.there)) | decide)) ?_)); clear F; clear a; have M0 := M; have zb25 := M0.ext.size; clear M; rintro v25 w ⟨l25, k'25, p25_0, N⟩ a F; replace M := M0.turn1 N (by repeat (first | exact .here | apply Upd.there)); clear M0 N
  replace p23_0 := p23_0.laterB (by omega) M.ext
  replace hTw := hTw.later M.ext
  replace E0 := (M.unR E0 hS0).ext
  obtain ⟨wb, hwb, M⟩ : ∃ wb, wb = w ∧ Mem [bt] wb w [(bt, tobj pt len cap k'25)] := ⟨w, rfl, M.re (by simp)⟩
  rw [← hwb] at E0 hTw p25_0 p23_0
  have hbw : bt < wb.heap.size := by rw [hwb]; exact M.lt List.mem_cons_self
  clear hwb
  obtain ⟨ql, cl, rfl, _⟩ := id p23_0.at_.1
  obtain ⟨qo, co, rfl, _⟩ := id p25_0.at_.1
  generalize l25 = o at *
  generalize k'25 = k3 at *
  have hlx := p23_0.is
  refine stepD rfl F rfl (o_assign (F.ev rfl) ?_); clear F; clear a; intro a F
  refine stepD rfl F rfl (o_assign (F.ev rfl) ?_); clear F; clear a; intro a F
  with_reducible refine l_nil ?_
  with_reducible refine q_then ?_
  with_reducible refine c_seq ?_
  with_reducible refine c_region ?_
  refine stepD rfl F rfl (o_move (F.ev rfl) ?_); clear F; clear a; intro a F
  refine stepD rfl F rfl (o_move (F.ev rfl) ?_); clear F; clear a; intro a F
  refine stepD rfl F rfl (o_move (F.ev rfl) ?_); clear F; clear a; intro a F
  (refine stepD rfl F rfl (o_call (F.ev rfl) (F.evs rfl) (Cal.mono (select_c now l hlx [] (by simp) o [] (by simp) _ _ _ _ _ (p23_0.laterB (by omega) M.ext).at_.1 (SlAt.nil _ _) (p25_0.laterB (by omega) M.ext).at_.1 (SlAt.nil _ _) ) ?_)); clear F; clear a; rintro _ w ⟨u, ent, rfl, hO1, N⟩ a F; replace M := M.joins N; clear N)
  have hsel : selectV now l [] o [] = (selV now l [] o [], 0) := sel_ok hlx (by simp) p23_0.val rfl p25_0.val rfl (by unfold isTime; rw [decide_eq_true hnow.1, decide_eq_true (by omega)]; rfl) (by simp; omega)
  rw [hsel] at F hO1
  dsimp only at F hO1
  have hBG : ∀ y ∈ l, ∀ z ∈ o, now < y.til → y.nb = z.nb → y.said.met + lkC z.cost < 65535 → (getV (selV now l [] o []) y.to).isSome = true ∧ ((getV (selV now l [] o []) y.to).getD in0).own.met ≤ y.said.met + lkC z.cost := fun y hy z hz => best_get hlx p23_0.val p25_0.val hy hz
  have hsx : ∀ x ∈ selV now l [] o [], IsIn x := selI_is hlx (by simp)
  have hsl : (selV now l [] o []).length ≤ 512 := by have := selI_len (now := now) (s := []) (o := o) (old := []) hlx (by simp); simp at this; omega
  generalize selV now l [] o [] = sv at *
  clear hsel
  have hOn := OwnS.slJ hO1 M (Nat.le_refl _)
  replace M := M.sub (List.sublist_append_right _ _)
  clear hO1
  replace p23_0 := p23_0.laterB (by omega) M.ext
  replace p25_0 := p25_0.laterB (by omega) M.ext
  replace hTw := hTw.later M.ext
  replace E0 := (M.unR E0 hS0).ext
  obtain ⟨wb, hwb, M⟩ : ∃ wb, wb = w ∧ Mem [bt] wb w [(bt, tobj pt len cap k3)] := ⟨w, rfl, M.re (by simp)⟩
  rw [← hwb] at E0 hTw hOn p23_0 p25_0
  have hbw : bt < wb.heap.size := by rw [hwb]; exact M.lt List.mem_cons_self
  clear hwb
  obtain ⟨qu, cu, rfl, _⟩ := id hOn.1
  have ho16 := (validOs_iff.1 p25_0.val).1
  have hml := p23_0.at_.1.memB [bt] (fun b p s e => p23_0.at_.notIn (by omega) b p s _ _ (by rw [e]))
  have hmo := p25_0.at_.1.memB [bt] (fun b p s e => p25_0.at_.notIn (by omega) b p s _ _ (by rw [e]))
  have hOu : ∀ w', Ext [bt] wb w' → SlAt w' 40 (.slice qu sv.length cu) sv.length (insC sv) := fun w' E => (hOn.laterB (by omega) E).1
  refine stepD rfl F rfl (o_move (F.ev rfl) ?_); clear F; clear a; intro a F
  refine stepD rfl F rfl (o_extract (F.ev rfl) rfl ?_); clear F; clear a; intro a F
  refine stepD rfl F rfl (o_extract (F.ev rfl) rfl ?_); clear F; clear a; intro a F
  refine stepD rfl F rfl (o_assign (F.ev rfl) ?_); clear F; clear a; intro a F
  refine stepD rfl F rfl (o_assign (F.ev rfl) ?_); clear F; clear a; intro a F
  with_reducible refine l_nil ?_
  with_reducible refine q_then ?_
  with_reducible refine c_seq ?_
  with_reducible refine c_seq ?_
  with_reducible refine c_region ?_
  refine stepD rfl F rfl (o_move (F.ev rfl) ?_); clear F; clear a; intro a F
  refine stepD rfl F rfl (o_neqF (F.ev rfl) (F.ev rfl) (by omega) ?_); clear F; clear a; intro a F
  with_reducible refine l_nil ?_
  with_reducible refine q_then ?_
  refine c_false F rfl rfl ?_
  with_reducible refine c_skip ?_
  with_reducible refine q_then ?_
  with_reducible refine c_seq ?_
  with_reducible refine c_seq ?_
  with_reducible refine c_region ?_
  refine stepD rfl F rfl (o_move (F.ev rfl) ?_); clear F; clear a; intro a F
  refine stepD rfl F rfl (o_lenSl (F.ev rfl) ?_); clear F; clear a; intro a F
  refine stepD rfl F rfl (o_move (F.ev rfl) ?_); clear F; clear a; intro a F
  with_reducible refine l_nil ?_
  with_reducible refine q_then ?_
  with_reducible refine c_block ?_
  refine c_loop (fun m a w => ∃ (i : Nat) , m = l.length - i ∧ i ≤ l.length ∧ Frm a 93 [] [(37, .int .i64 i), (36, .int .i64 l.length), (35, .slice ql l.length cl), (6, .slice qo o.length co), (7, .slice qu sv.length cu), (4, .int .i64 now)] ∧ Mem [bt] wb w [(bt, tobj pt len cap k3)]) l.length ⟨0, rfl, by omega, F.only [37, 36, 35, 6, 7, 4] rfl, M.sub (by repeat (first | exact .refl _ | apply List.Sublist.cons_cons | apply List.Sublist.cons))⟩ ?_
  clear F M a
  rintro m a w ⟨i, hm_i, hi_i, F, M⟩
  by_cases hlt_i : i < l.length
  · obtain ⟨b, p, cs, t', fz, rfl, hb, hs⟩ := hml (by omega)
    obtain ⟨y, hy0⟩ : ∃ y, y = l[i] := ⟨_, rfl⟩
    have hym : y ∈ l := by rw [hy0]; exact List.getElem_mem hlt_i
    have hyi : IsRo y := hlx _ hym
    have f1 : seg cs (p + (i : Int).toNat * 39) 39 = some (roC y) := by rw [hy0]; exact seg_el (ros_len hlx) hs hlt_i (by omega)
    clear hy0
    have y1 := ro_len hyi
    have hyt : IsDv y.to := hyi.1
    have hyv := (validRs_iff.1 p23_0.val).2.1 y hym
    have hyb : 0 ≤ y.said.met ∧ y.said.met ≤ 65535 := by
      unfold rou1 finD validM inf at hyv
      simp only [Bool.and_eq_true, decide_eq_true_eq] at hyv
      exact hyv.1.2.1
    with_reducible refine c_seq ?_
    with_reducible refine c_region ?_
    refine stepD rfl F rfl (o_lssT (F.ev rfl) (F.ev rfl) (by omega) ?_); clear F; clear a; intro a F
    with_reducible refine l_nil ?_
    with_reducible refine q_then ?_
    with_reducible refine c_seq ?_
    refine c_true F rfl rfl ?_
    with_reducible refine c_skip ?_
    with_reducible refine q_then ?_
    with_reducible refine c_seq ?_
    with_reducible refine c_block ?_
    with_reducible refine c_seq ?_
    with_reducible refine c_region ?_
    refine stepD rfl F rfl (o_indexSl (F.ev rfl) (F.ev rfl) (by omega) (by omega) ?_); clear F; clear a; intro a F
    refine stepD rfl F rfl (o_loadEA M (F.ev rfl) (by assumption) (by assumption) ?_); clear F; clear a; intro a F
    refine stepD rfl F rfl (o_alloc M ?_); clear F; clear M; intro b10 w M a F
    refine stepN rfl F (o_storeA M (F.ev rfl) (F.ev rfl) (ro_len (by first | assumption | trivial | exact And.left (by assumption))) (ro_one _) (by repeat (first | exact .here | apply Has.there)) (put_all (by rw [(ro_len (by first | assumption | trivial | exact And.left (by assumption)))]; first | rfl | rw [(ro_len (by first | assumption | trivial | exact And.left (by assumption)))])) (by repeat (first | exact .here | apply Upd.there)) ?_); clear F; clear M; intro w M a F
    with_reducible refine l_nil ?_
    with_reducible refine q_then ?_
    with_reducible refine c_seq ?_
    with_reducible refine c_region ?_
    refine stepD rfl F rfl (o_move (F.ev rfl) ?_); clear F; clear a; intro a F
    refine stepD rfl F rfl (o_lenSl (F.ev rfl) ?_); clear F; clear a; intro a F
    refine stepD rfl F rfl (o_move (F.ev rfl) ?_); clear F; clear a; intro a F
    with_reducible refine l_nil ?_
    with_reducible refine q_then ?_
    with_reducible refine c_block ?_
    refine c_loop (fun m a w => ∃ (j : Nat) , m = o.length - j ∧ j ≤ o.length ∧ Frm a 93 [] [(43, .int .i64 j), (42, .int .i64 o.length), (41, .slice qo o.length co), (37, .int .i64 i), (36, .int .i64 l.length), (35, .slice (some ⟨b, p, none⟩) l.length cl), (6, .slice qo o.length co), (7, .slice qu sv.length cu), (4, .int .i64 now), (10, .pointer (some ⟨b10, 0, none⟩))] ∧ Mem [bt] wb w [(b10, .cells (roC y).toArray 53 (0, 0)), (bt, tobj pt len cap k3)]) o.length ⟨0, rfl, by omega, F.only [43, 42, 41, 37, 36, 35, 6, 7, 4, 10] rfl, M.sub (by repeat (first | exact .refl _ | apply List.Sublist.cons_cons | apply List.Sublist.cons))⟩ ?_
    clear F M a
    rintro m2 a w ⟨j, hm_j, hi_j, F, M⟩
    by_cases hlt_j : j < o.length
    · obtain ⟨b2, p2, cs2, t', fz2, rfl, hb2, hs2⟩ := hmo (by omega)
      obtain ⟨z, hz0⟩ : ∃ z, z = o[j] := ⟨_, rfl⟩
      have hzm : z ∈ o := by rw [hz0]; exact List.getElem_mem hlt_j
      have hzi : IsOp z := (fun _ _ => trivial) _ hzm
      have f2 : seg cs2 (p2 + (j : Int).toNat * 2) 2 = some (opC z) := by rw [hz0]; exact seg_el (ops_len (fun _ _ => trivial)) hs2 hlt_j (by omega)
      clear hz0
      have hzb : 0 ≤ z.cost ∧ z.cost ≤ 65535 := by
        have := (validOs_iff.1 p25_0.val).2.1 z hzm
        unfold opt1 validM at this
        simp only [Bool.and_eq_true, decide_eq_true_eq] at this
        exact this.2
      have hzl : 1 ≤ lkC z.cost ∧ lkC z.cost ≤ 65535 := by unfold lkC; split <;> omega
      have hgi := get_is hsx y.to
      have hB : now < y.til → y.nb = z.nb → y.said.met + (if z.cost < 1 then 1 else z.cost) < 65535 → (getV sv y.to).isSome = true ∧ ((getV sv y.to).getD in0).own.met ≤ y.said.met + (if z.cost < 1 then 1 else z.cost) := hBG y hym z hzm
      have hzl' : 1 ≤ (if z.cost < 1 then 1 else z.cost) ∧ (if z.cost < 1 then 1 else z.cost) ≤ 65535 := hzl
      with_reducible refine c_seq ?_
      with_reducible refine c_region ?_
      refine stepD rfl F rfl (o_lssT (F.ev rfl) (F.ev rfl) (by omega) ?_); clear F; clear a; intro a F
      with_reducible refine l_nil ?_
      with_reducible refine q_then ?_
      with_reducible refine c_seq ?_
      refine c_true F rfl rfl ?_
      with_reducible refine c_skip ?_
      with_reducible refine q_then ?_
      with_reducible refine c_seq ?_
      with_reducible refine c_block ?_
      with_reducible refine c_seq ?_
      with_reducible refine c_region ?_
      refine stepD rfl F rfl (o_indexSl (F.ev rfl) (F.ev rfl) (by omega) (by omega) ?_); clear F; clear a; intro a F
      refine stepD rfl F rfl (o_loadEA M (F.ev rfl) (by assumption) (by assumption) ?_); clear F; clear a; intro a F
      refine stepD rfl F rfl (o_alloc M ?_); clear F; clear M; intro b12 w M a F
      refine stepN rfl F (o_storeA M (F.ev rfl) (F.ev rfl) (op_len (by first | assumption | trivial | exact And.left (by assumption))) (op_one _) (by repeat (first | exact .here | apply Has.there)) (put_all (by rw [(op_len (by first | assumption | trivial | exact And.left (by assumption)))]; first | rfl | rw [(op_len (by first | assumption | trivial | exact And.left (by assumption)))])) (by repeat (first | exact .here | apply Upd.there)) ?_); clear F; clear M; intro w M a F
      with_reducible refine l_nil ?_
      with_reducible refine q_then ?_
      with_reducible refine c_seq ?_
      with_reducible refine c_region ?_
      refine stepD rfl F rfl (o_fieldAddr (F.ev rfl) ?_); clear F; clear a; intro a F
      refine stepD rfl F rfl (o_fieldAddr (F.ev rfl) ?_); clear F; clear a; intro a F
      refine stepD rfl F rfl (o_load1 M (F.ev rfl) (by repeat (first | exact .here | apply Has.there)) (ro_said_met (by first | assumption | trivial | exact And.left (by assumption))) ?_); clear F; clear a; intro a F
      refine stepD rfl F rfl (o_fieldAddr (F.ev rfl) ?_); clear F; clear a; intro a F
      refine stepD rfl F rfl (o_load1 M (F.ev rfl) (by repeat (first | exact .here | apply Has.there)) (op_cost (by first | assumption | trivial | exact And.left (by assumption))) ?_); clear F; clear a; intro a F
      refine stepD rfl F rfl (o_max (F.ev rfl) (F.ev rfl) ?_); clear F; clear a; intro a F
      refine stepD rfl F rfl (o_add (F.ev rfl) (F.ev rfl) (w_i64 (by omega) (by omega)) ?_); clear F; clear a; intro a F
      refine stepD rfl F rfl (o_assign (F.ev rfl) ?_); clear F; clear a; intro a F
      with_reducible refine l_nil ?_
      with_reducible refine q_then ?_
      with_reducible refine c_seq ?_
      with_reducible refine c_seq ?_
      with_reducible refine c_region ?_
      refine stepD rfl F rfl (o_fieldAddr (F.ev rfl) ?_); clear F; clear a; intro a F
      refine stepD rfl F rfl (o_load1 M (F.ev rfl) (by repeat (first | exact .here | apply Has.there)) (ro_til (by first | assumption | trivial | exact And.left (by assumption))) ?_); clear F; clear a; intro a F
      refine stepD rfl F rfl (o_move (F.ev rfl) ?_); clear F; clear a; intro a F
      refine stepD rfl F rfl (o_leq (F.ev rfl) (F.ev rfl) ?_); clear F; clear a; intro a F
      refine stepD rfl F rfl (o_move (F.ev rfl) ?_); clear F; clear a; intro a F
      refine b_split F 58 rfl (fun h1 => ?_) (fun h1 => ?_)
      · skip
        rw [h1] at F; replace h1 := of_decide_eq_true h1
        refine stepOff F rfl rfl rfl rfl ?_; clear F; clear a; intro a F
        refine stepOff F rfl rfl rfl rfl ?_; clear F; clear a; intro a F
        refine stepOff F rfl rfl rfl rfl ?_; clear F; clear a; intro a F
        refine stepOff F rfl rfl rfl rfl ?_; clear F; clear a; intro a F
        refine stepOff F rfl rfl rfl rfl ?_; clear F; clear a; intro a F
        refine stepD rfl F rfl (o_pickT (F.ev rfl) (F.ev rfl) ?_); clear F; clear a; intro a F
        refine stepD rfl F rfl (o_move (F.ev rfl) ?_); clear F; clear a; intro a F
        refine stepOff F rfl rfl rfl rfl ?_; clear F; clear a; intro a F
        refine stepOff F rfl rfl rfl rfl ?_; clear F; clear a; intro a F
        refine stepOff F rfl rfl rfl rfl ?_; clear F; clear a; intro a F
        refine stepD rfl F rfl (o_pickT (F.ev rfl) (F.ev rfl) ?_); clear F; clear a; intro a F
        refine stepD rfl F rfl (o_move (F.ev rfl) ?_); clear F; clear a; intro a F
        refine stepOff F rfl rfl rfl rfl ?_; clear F; clear a; intro a F
        refine stepOff F rfl rfl rfl rfl ?_; clear F; clear a; intro a F
        refine stepD rfl F rfl (o_pickT (F.ev rfl) (F.ev rfl) ?_); clear F; clear a; intro a F
        with_reducible refine l_nil ?_
        with_reducible refine q_then ?_
        refine c_true F rfl rfl ?_
        with_reducible refine c_exit ?_
        with_reducible refine q_thenX ?_
        with_reducible refine q_inBX ?_
        with_reducible refine q_then ?_
        with_reducible refine c_region ?_
        refine stepD rfl F rfl (o_add (F.ev rfl) (F.ev rfl) (w_i64 (by omega) (by omega)) ?_); clear F; clear a; intro a F
        refine stepD rfl F rfl (o_move (F.ev rfl) ?_); clear F; clear a; intro a F
        with_reducible refine l_nil ?_
        with_reducible refine q_then ?_
        exact ⟨_, by omega, j + 1, rfl, by omega, F.only [43, 42, 41, 37, 36, 35, 6, 7, 4, 10] rfl, M.sub (by repeat (first | exact .refl _ | apply List.Sublist.cons))⟩
      · skip
        rw [h1] at F; replace h1 := of_decide_eq_false h1
        refine stepG rfl F rfl rfl rfl (o_fieldAddr (F.ev rfl) ?_); clear F; clear a; intro a F
        refine stepG rfl F rfl rfl rfl (o_load1 M (F.ev rfl) (by repeat (first | exact .here | apply Has.there)) (ro_nb (by first | assumption | trivial | exact And.left (by assumption))) ?_); clear F; clear a; intro a F
        refine stepG rfl F rfl rfl rfl (o_fieldAddr (F.ev rfl) ?_); clear F; clear a; intro a F
        refine stepG rfl F rfl rfl rfl (o_load1 M (F.ev rfl) (by repeat (first | exact .here | apply Has.there)) (op_nb (by first | assumption | trivial | exact And.left (by assumption))) ?_); clear F; clear a; intro a F
        refine stepG rfl F rfl rfl rfl (o_neq (F.ev rfl) (F.ev rfl) ?_); clear F; clear a; intro a F
        refine stepD rfl F rfl (o_pickF (F.ev rfl) (F.ev rfl) ?_); clear F; clear a; intro a F
        refine stepD rfl F rfl (o_move (F.ev rfl) ?_); clear F; clear a; intro a F
        refine b_split F 65 rfl (fun h2 => ?_) (fun h2 => ?_)
        · skip
          rw [h2] at F; replace h2 := ne_of_bne h2
          refine stepOff F rfl rfl rfl rfl ?_; clear F; clear a; intro a F
          refine stepOff F rfl rfl rfl rfl ?_; clear F; clear a; intro a F
          refine stepOff F rfl rfl rfl rfl ?_; clear F; clear a; intro a F
          refine stepD rfl F rfl (o_pickT (F.ev rfl) (F.ev rfl) ?_); clear F; clear a; intro a F
          refine stepD rfl F rfl (o_move (F.ev rfl) ?_); clear F; clear a; intro a F
          refine stepOff F rfl rfl rfl rfl ?_; clear F; clear a; intro a F
          refine stepOff F rfl rfl rfl rfl ?_; clear F; clear a; intro a F
          refine stepD rfl F rfl (o_pickT (F.ev rfl) (F.ev rfl) ?_); clear F; clear a; intro a F
          with_reducible refine l_nil ?_
          with_reducible refine q_then ?_
          refine c_true F rfl rfl ?_
          with_reducible refine c_exit ?_
          with_reducible refine q_thenX ?_
          with_reducible refine q_inBX ?_
          with_reducible refine q_then ?_
          with_reducible refine c_region ?_
          refine stepD rfl F rfl (o_add (F.ev rfl) (F.ev rfl) (w_i64 (by omega) (by omega)) ?_); clear F; clear a; intro a F
          refine stepD rfl F rfl (o_move (F.ev rfl) ?_); clear F; clear a; intro a F
          with_reducible refine l_nil ?_
          with_reducible refine q_then ?_
          exact ⟨_, by omega, j + 1, rfl, by omega, F.only [43, 42, 41, 37, 36, 35, 6, 7, 4, 10] rfl, M.sub (by repeat (first | exact .refl _ | apply List.Sublist.cons))⟩
        · skip
          rw [h2] at F; replace h2 := eq_of_bne_false h2
          refine stepG rfl F rfl rfl rfl (o_fieldAddr (F.ev rfl) ?_); clear F; clear a; intro a F
          refine stepG rfl F rfl rfl rfl (o_load1 M (F.ev rfl) (by repeat (first | exact .here | apply Has.there)) (op_cost (by first | assumption | trivial | exact And.left (by assumption))) ?_); clear F; clear a; intro a F
          refine stepG rfl F rfl rfl rfl (o_eql (F.ev rfl) (F.ev rfl) ?_); clear F; clear a; intro a F
          refine stepD rfl F rfl (o_pickF (F.ev rfl) (F.ev rfl) ?_); clear F; clear a; intro a F
          refine stepD rfl F rfl (o_move (F.ev rfl) ?_); clear F; clear a; intro a F
          refine b_split F 70 rfl (fun h3 => ?_) (fun h3 => ?_)
          · skip
            rw [h3] at F; replace h3 := of_decide_eq_true h3
            refine stepOff F rfl rfl rfl rfl ?_; clear F; clear a; intro a F
            refine stepOff F rfl rfl rfl rfl ?_; clear F; clear a; intro a F
            refine stepD rfl F rfl (o_pickT (F.ev rfl) (F.ev rfl) ?_); clear F; clear a; intro a F
            with_reducible refine l_nil ?_
            with_reducible refine q_then ?_
            refine c_true F rfl rfl ?_
            with_reducible refine c_exit ?_
            with_reducible refine q_thenX ?_
            with_reducible refine q_inBX ?_
            with_reducible refine q_then ?_
            with_reducible refine c_region ?_
            refine stepD rfl F rfl (o_add (F.ev rfl) (F.ev rfl) (w_i64 (by omega) (by omega)) ?_); clear F; clear a; intro a F
            refine stepD rfl F rfl (o_move (F.ev rfl) ?_); clear F; clear a; intro a F
            with_reducible refine l_nil ?_
            with_reducible refine q_then ?_
            exact ⟨_, by omega, j + 1, rfl, by omega, F.only [43, 42, 41, 37, 36, 35, 6, 7, 4, 10] rfl, M.sub (by repeat (first | exact .refl _ | apply List.Sublist.cons))⟩
          · skip
            rw [h3] at F; replace h3 := of_decide_eq_false h3
            refine stepG rfl F rfl rfl rfl (o_move (F.ev rfl) ?_); clear F; clear a; intro a F
            refine stepG rfl F rfl rfl rfl (o_geq (F.ev rfl) (F.ev rfl) ?_); clear F; clear a; intro a F
            refine stepD rfl F rfl (o_pickF (F.ev rfl) (F.ev rfl) ?_); clear F; clear a; intro a F
            with_reducible refine l_nil ?_
            with_reducible refine q_then ?_
            refine c_if F rfl (fun h4 => ?_) (fun h4 => ?_)
            · skip
              rw [h4] at F; replace h4 := of_decide_eq_true h4
              with_reducible refine c_exit ?_
              with_reducible refine q_thenX ?_
              with_reducible refine q_inBX ?_
              with_reducible refine q_then ?_
              with_reducible refine c_region ?_
              refine stepD rfl F rfl (o_add (F.ev rfl) (F.ev rfl) (w_i64 (by omega) (by omega)) ?_); clear F; clear a; intro a F
              refine stepD rfl F rfl (o_move (F.ev rfl) ?_); clear F; clear a; intro a F
              with_reducible refine l_nil ?_
              with_reducible refine q_then ?_
              exact ⟨_, by omega, j + 1, rfl, by omega, F.only [43, 42, 41, 37, 36, 35, 6, 7, 4, 10] rfl, M.sub (by repeat (first | exact .refl _ | apply List.Sublist.cons))⟩
            · skip
              rw [h4] at F; replace h4 := of_decide_eq_false h4
              with_reducible refine c_skip ?_
              with_reducible refine q_then ?_
              with_reducible refine c_seq ?_
              with_reducible refine c_region ?_
              refine stepD rfl F rfl (o_move (F.ev rfl) ?_); clear F; clear a; intro a F
              refine stepD rfl F rfl (o_fieldAddr (F.ev rfl) ?_); clear F; clear a; intro a F
              refine stepD rfl F rfl (o_loadA M (F.ev rfl) (by repeat (first | exact .here | apply Has.there)) (ro_to (by first | assumption | trivial | exact And.left (by assumption))) ?_); clear F; clear a; intro a F
              refine stepD rfl F rfl (o_call (F.ev rfl) (F.evs rfl) (Cal.mono (rget_c _ (by first | assumption | omega | exact And.left (by assumption) | exact (by assumption : SlAt _ _ _ _ _).later M.ext | exact TapeS.later (by assumption) M.ext | exact (SlN.laterB (by assumption) (by omega) M.ext).1 | exact M.heap (by repeat (first | exact .here | apply Has.there)) | decide) _ _ (by first | assumption | omega | exact And.left (by assumption) | exact (by assumption : SlAt _ _ _ _ _).later M.ext | exact TapeS.later (by assumption) M.ext | exact (SlN.laterB (by assumption) (by omega) M.ext).1 | exact M.heap (by repeat (first | exact .here | apply Has.there)) | decide) _ (by first | assumption | omega | exact And.left (by assumption) | exact (by assumption : SlAt _ _ _ _ _).later M.ext | exact TapeS.later (by assumption) M.ext | exact (SlN.laterB (by assumption) (by omega) M.ext).1 | exact M.heap (by repeat (first | exact .here | apply Has.there)) | decide) (by first | assumption | omega | exact And.left (by assumption) | exact (by assumption : SlAt _ _ _ _ _).later M.ext | exact TapeS.later (by assumption) M.ext | exact (SlN.laterB (by assumption) (by omega) M.ext).1 | exact M.heap (by repeat (first | exact .here | apply Has.there)) | decide)) ?_)); clear F; clear a; rintro _ w ⟨rfl, hE⟩ a F; replace M := M.later hE; clear hE
              refine stepD rfl F rfl (o_move (F.ev rfl) ?_); clear F; clear a; intro a F
              refine stepD rfl F rfl (o_extract (F.ev rfl) rfl ?_); clear F; clear a; intro a F
              refine stepD rfl F rfl (o_extract (F.ev rfl) rfl ?_); clear F; clear a; intro a F
              refine stepD rfl F rfl (o_alloc M ?_); clear F; clear M; intro b14 w M a F
              refine stepN rfl F (o_storeA M (F.ev rfl) (F.ev rfl) (in_len (by first | assumption | trivial | exact And.left (by assumption))) (in_one _) (by repeat (first | exact .here | apply Has.there)) (put_all (by rw [(in_len (by first | assumption | trivial | exact And.left (by assumption)))]; first | rfl | rw [(in_len (by first | assumption | trivial | exact And.left (by assumption)))])) (by repeat (first | exact .here | apply Upd.there)) ?_); clear F; clear M; intro w M a F
              refine stepD rfl F rfl (o_assign (F.ev rfl) ?_); clear F; clear a; intro a F
              with_reducible refine l_nil ?_
              with_reducible refine q_then ?_
              with_reducible refine c_seq ?_
              with_reducible refine c_region ?_
              refine stepD rfl F rfl (o_move (F.ev rfl) ?_); clear F; clear a; intro a F
              refine stepD rfl F rfl (o_not (F.ev rfl) ?_); clear F; clear a; intro a F
              refine stepD rfl F rfl (o_move (F.ev rfl) ?_); clear F; clear a; intro a F
              refine b_split F 83 rfl (fun h5 => ?_) (fun h5 => ?_)
              · skip
                rw [h5] at F; replace h5 := false_of_not h5; (try rw [h5] at F)
                refine stepOff F rfl rfl rfl rfl ?_; clear F; clear a; intro a F
                refine stepOff F rfl rfl rfl rfl ?_; clear F; clear a; intro a F
                refine stepOff F rfl rfl rfl rfl ?_; clear F; clear a; intro a F
                refine stepOff F rfl rfl rfl rfl ?_; clear F; clear a; intro a F
                refine stepOff F rfl rfl rfl rfl ?_; clear F; clear a; intro a F
                refine stepD rfl F rfl (o_pickT (F.ev rfl) (F.ev rfl) ?_); clear F; clear a; intro a F
                with_reducible refine l_nil ?_
                with_reducible refine q_then ?_
                refine c_true F rfl rfl ?_
                with_reducible refine c_seq ?_
                with_reducible refine c_region ?_
                refine stepD rfl F rfl (o_assign (F.ev rfl) ?_); clear F; clear a; intro a F
                with_reducible refine l_nil ?_
                with_reducible refine q_then ?_
                with_reducible refine c_ret ?_
                with_reducible refine q_inBR ?_
                with_reducible refine q_thenR ?_
                with_reducible refine q_thenR ?_
                with_reducible refine q_inBR ?_
                with_reducible refine q_inBR ?_
                with_reducible refine q_thenR ?_
                with_reducible refine q_thenR ?_
                with_reducible refine q_inBR ?_
                with_reducible refine q_thenR ?_
                refine p_ret F rfl (.cons (.tmp (F.ev rfl)) .nil) ?_; (try dsimp only [oneOr])
                exfalso; obtain ⟨g1, g2⟩ := hB (by omega) (by assumption) (by omega); first | omega | exact Bool.false_ne_true ((by assumption : (getV sv y.to).isSome = false).symm.trans g1)
              · skip
                rw [h5] at F; replace h5 := true_of_not h5; (try rw [h5] at F)
                refine stepG rfl F rfl rfl rfl (o_fieldAddr (F.ev rfl) ?_); clear F; clear a; intro a F
                refine stepG rfl F rfl rfl rfl (o_fieldAddr (F.ev rfl) ?_); clear F; clear a; intro a F
                refine stepG rfl F rfl rfl rfl (o_load1 M (F.ev rfl) (by repeat (first | exact .here | apply Has.there)) (in_own_met (by first | assumption | trivial | exact And.left (by assumption))) ?_); clear F; clear a; intro a F
                refine stepG rfl F rfl rfl rfl (o_move (F.ev rfl) ?_); clear F; clear a; intro a F
                refine stepG rfl F rfl rfl rfl (o_gtrF (F.ev rfl) (F.ev rfl) (by omega) ?_); clear F; clear a; intro a F
                refine stepD rfl F rfl (o_pickF (F.ev rfl) (F.ev rfl) ?_); clear F; clear a; intro a F
                with_reducible refine l_nil ?_
                with_reducible refine q_then ?_
                refine c_false F rfl rfl ?_
                with_reducible refine c_skip ?_
                with_reducible refine q_inB ?_
                with_reducible refine q_then ?_
                with_reducible refine c_region ?_
                refine stepD rfl F rfl (o_add (F.ev rfl) (F.ev rfl) (w_i64 (by omega) (by omega)) ?_); clear F; clear a; intro a F
                refine stepD rfl F rfl (o_move (F.ev rfl) ?_); clear F; clear a; intro a F
                with_reducible refine l_nil ?_
                with_reducible refine q_then ?_
                exact ⟨_, by omega, j + 1, rfl, by omega, F.only [43, 42, 41, 37, 36, 35, 6, 7, 4, 10] rfl, M.sub (by repeat (first | exact .refl _ | apply List.Sublist.cons))⟩
    · obtain rfl : j = o.length := by omega
      with_reducible refine c_seq ?_
      with_reducible refine c_region ?_
      refine stepD rfl F rfl (o_lssF (F.ev rfl) (F.ev rfl) (by omega) ?_); clear F; clear a; intro a F
      with_reducible refine l_nil ?_
      with_reducible refine q_then ?_
      with_reducible refine c_seq ?_
      refine c_false F rfl rfl ?_
      with_reducible refine c_exit ?_
      with_reducible refine q_thenX ?_
      with_reducible refine q_thenX ?_
      with_reducible refine q_inBX ?_
      with_reducible refine q_inB ?_
      with_reducible refine q_then ?_
      with_reducible refine c_region ?_
      refine stepD rfl F rfl (o_add (F.ev rfl) (F.ev rfl) (w_i64 (by omega) (by omega)) ?_); clear F; clear a; intro a F
      refine stepD rfl F rfl (o_move (F.ev rfl) ?_); clear F; clear a; intro a F
      with_reducible refine l_nil ?_
      with_reducible refine q_then ?_
      exact ⟨_, by omega, i + 1, rfl, by omega, F.only [37, 36, 35, 6, 7, 4] rfl, M.sub (by repeat (first | exact .refl _ | apply List.Sublist.cons))⟩
  · with_reducible refine c_seq ?_
    with_reducible refine c_region ?_
    refine stepD rfl F rfl (o_lssF (F.ev rfl) (F.ev rfl) (by omega) ?_); clear F; clear a; intro a F
    with_reducible refine l_nil ?_
    with_reducible refine q_then ?_
    with_reducible refine c_seq ?_
    refine c_false F rfl rfl ?_
    with_reducible refine c_exit ?_
    with_reducible refine q_thenX ?_
    with_reducible refine q_thenX ?_
    with_reducible refine q_inBX ?_
    with_reducible refine q_then ?_
    with_reducible refine c_seq ?_
    with_reducible refine c_region ?_
    refine stepD rfl F rfl (o_call (F.ev rfl) (F.evs rfl) (Cal.mono (known27_c _) ?_)); clear F; clear a; rintro _ w ⟨rfl, hE⟩ a F; replace M := M.later hE; clear hE
    refine stepD rfl F rfl (o_assign (F.ev rfl) ?_); clear F; clear a; intro a F
    with_reducible refine l_nil ?_
    with_reducible refine q_then ?_
    with_reducible refine c_ret ?_
    refine p_ret F rfl (.cons (.tmp (F.ev rfl)) .nil) ?_; (try dsimp only [oneOr])
    exact ⟨rfl, (M.unR E0 hS0).ext⟩
end Go.Proofs.YtilgoepokaaleaaGreat
namespace Go.Proofs.YtilgoepokaaleaaGreat
set_option linter.unusedVariables false
set_option linter.unusedSimpArgs false
open Go.ChangeShapes Go.WideShapes Go.ChangeAt Go.RowKit
set_option maxRecDepth 100000 in
theorem routesBest_contract (H : Type) (enc : TypeId × Value → H) (W : World) (base : Nat) (args : Array Value) (ds gs : List (DataW H)) (before : List MemPlace)
    (hval : ∀ (j : Nat) t v, Tryz.f5.params[j]? = some t → args[j]? = some v → Value.okWide Tryz.prog W .any base t v)
    (hW : DataW.Whole enc Tryz.prog Tryz.f5.params.toList Rows.routesBestSpec.vars false W args.toList ds gs before) (hL : laidMetH Tryz.prog seatLaid W) (hS : W.ShapedOpen Tryz.prog) :
    Calls Tryz.prog 5 args W fun e W' => ∃ v, e = .returned v ∧ Rows.routesBestSpec.post enc Tryz.prog Tryz.f5 false true false false W args v W' := by
  have hW' := hW
  obtain ⟨p, q, hA0, hV, rfl, hfz, hnd⟩ := hW
  have hA : DataW.TrodAll enc Tryz.prog W 0 (fun _ => true) true Tryz.f5.params.toList args.toList ds p := hA0
  rw [Tryz.params5] at hA hval
  obtain ⟨v0, vs0, d0, ds0, p0, q0, hargs, rfl, rfl, h0, r0⟩ := trodAll_cons hA
  obtain ⟨rfl, rfl, rfl⟩ := trodAll_nil r0
  obtain rfl : args = #[v0] := by cases args; simp_all
  obtain ⟨l0, q0p, cap0, rfl, hc0, hx0⟩ := open_il (hval 0 _ v0 rfl rfl) h0
  refine ((bestL_c q0p cap0 l0 W hx0 hc0).calls).mono ?_
  rintro e W' ⟨v, rfl, rfl, hE⟩
  exact ⟨_, rfl, law_post (tb := 4) laidOut (by kernel_rfl) rfl (by kernel_rfl) Tryz.underlying4 (fun xs hx => by rw [Tryz.params5] at hx; match xs, hx with | [_], _ => rfl) hW' hE⟩
set_option maxRecDepth 100000 in
theorem routesBest_lifted (os : Os) (started : os.Started) (H : Type) (enc : TypeId × Value → H) (F : Stop.Interp) :
    ReturnsInHanded {} Tryz.checked os 5 .any ((OpenSpec.ofChange Rows.routesBestSpec).preRow enc Tryz.prog Tryz.f5 Rows.routesBestRow.domain false Rows.routesBestRow.laid) (((OpenSpec.ofChange Rows.routesBestSpec).at F).post enc Tryz.prog Tryz.f5 false true false false) := by
  have hx : ∃ places ds, DataW.whole enc Tryz.prog ((laidWorld os).forCall (fun _ _ => 0) ⟨#[], #[.slice none 0 0], []⟩).memory Tryz.f5.params.toList Rows.routesBestSpec.vars false #[Value.slice none 0 0].toList 8 = some (ds, [], places) ∧ ds = [.nil] := ⟨[], [.nil], by kernel_rfl, rfl⟩
  obtain ⟨places, ds, hx, rfl⟩ := hx
  refine returnsInHanded_of_row (C := Tryz.checked) (s := OpenSpec.ofChange Rows.routesBestSpec) own started (by kernel_rfl) Tryz.func5
    (witness_row_at (enc := enc) (C := Tryz.checked) false (laidWorld os) #[.slice none 0 0] rfl (by kernel_rfl) (by kernel_rfl) (by kernel_rfl)
      (OpenSpec.preRow_of_cond 8 hx (by kernel_rfl) (fun k hk => by cases hk) (by kernel_rfl) (laid_met os _))) ?_
  intro W base args ds gs before hval hW _ hcond _ hL hS _
  exact routesBest_contract H enc W base args ds gs before hval hW hL hS
theorem routesBest_said : Rows.RoutesBestSaid :=
  OpenClaim.holds_of_cond 5 Tryz.f5 rfl rfl rfl rfl rfl rfl rfl ⟨rfl, rfl, rfl, rfl, rfl⟩ rfl rfl rfl rfl rfl (by kernel_rfl) Tryz.func5 (by kernel_rfl)
    (of_decide_eq_true (by kernel_rfl)) (by unfold Func.isWrapper; first | (rw [if_pos (by decide +kernel)]; kernel_rfl) | (rw [if_neg (by decide +kernel)]; exact ⟨rfl, rfl⟩))
    (fun os started H enc _ F => by rw [OpenClaim.pre_eq_preRow]; exact routesBest_lifted os started H enc F)
#print axioms routesBest_said
end Go.Proofs.YtilgoepokaaleaaGreat

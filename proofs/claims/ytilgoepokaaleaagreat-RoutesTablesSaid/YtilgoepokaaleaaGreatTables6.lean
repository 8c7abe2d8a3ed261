/-
  Texts joined: ZN, ZO, ZS, ZT, ZW, Lib2, Lib3, Tab, Lib4, ZY, ZZ, YN, YO.
-/
import Derived.Test.YtilgoepokaaleaaGreatTables5
/-! ZN -/
namespace Go.Proofs.YtilgoepokaaleaaGreat
set_option linter.unusedVariables false
set_option linter.unusedSimpArgs false
open Go.RowKit
attribute [local irreducible] OpTo wpListIn Code.wpIn MW Cal
set_option maxHeartbeats 1000000 in
theorem reforder_c (x y : RouV) (ha : IsRo x) (hb : IsRo y) (W : World) : Cal Tryz.prog 93 [.agg (roC x).toArray, .agg (roC y).toArray].toArray W fun v w' => v = .int .i64 (cmpR x y) ∧ Ext [] W w' := by
  have a1 := ro_to ha
  have a2 := ro_nb ha
  have c1 := ro_to hb
  have c2 := ro_nb hb
  rw [cmpR_or ha.1 hb.1]
  unfold orI cmpI
  refine fn_ofM (n := 24) [] Tryz.func93 rfl rfl rfl ?_
  intro a w F M hwW
  refine c_seq ?_
  refine c_region ?_
  (refine sD F (o_box M (F.ev rfl) rfl ?_); clear F M; intro b2 w M a F)
  (refine sD F (o_box M (F.ev rfl) rfl ?_); clear F M; intro b3 w M a F)
  refine sD F (o_assign (F.ev rfl) ?_); clear F a; intro a F
  with_reducible refine l_nil (q_then (c_seq (c_seq (c_region ?_))))
  refine sD F (o_fieldAddr (F.ev rfl) ?_); clear F a; intro a F
  refine sD F (o_loadA M (F.ev rfl) (by repeat constructor) (by first | assumption | rfl) ?_); clear F a; intro a F
  refine sD F (o_fieldAddr (F.ev rfl) ?_); clear F a; intro a F
  refine sD F (o_loadA M (F.ev rfl) (by repeat constructor) (by first | assumption | rfl) ?_); clear F a; intro a F
  (refine sD F (o_call (F.ev rfl) (F.evs rfl) (Cal.mono (rcompare_c x.to y.to ha.1 hb.1 _) ?_)); clear F; clear a; rintro _ w ⟨rfl, hE⟩ a F; replace M := M.later hE; clear hE)
  by_cases k : cmpD x.to y.to = 0
  · rw [if_pos k]
    by_cases k2 : x.nb < y.nb
    · rw [if_pos k2]
      refine sD F (o_assign (F.ev rfl) ?_); clear F a; intro a F
      with_reducible refine l_nil (q_then (c_seq (c_region ?_)))
      refine sD F (o_move (F.ev rfl) ?_); clear F a; intro a F
      refine sD F (o_neqF (F.ev rfl) (F.ev rfl) (by omega) ?_); clear F a; intro a F
      with_reducible refine l_nil (q_then ?_)
      refine c_false F rfl rfl ?_
      with_reducible refine c_skip (q_then (c_seq (c_seq (c_region ?_))))
      refine sD F (o_fieldAddr (F.ev rfl) ?_); clear F a; intro a F
      refine sD F (o_load1 M (F.ev rfl) (by repeat constructor) (by first | assumption | rfl) ?_); clear F a; intro a F
      refine sD F (o_fieldAddr (F.ev rfl) ?_); clear F a; intro a F
      refine sD F (o_load1 M (F.ev rfl) (by repeat constructor) (by first | assumption | rfl) ?_); clear F a; intro a F
      refine sD F (o_lssT (F.ev rfl) (F.ev rfl) (by omega) ?_); clear F a; intro a F
      with_reducible refine l_nil (q_then ?_)
      refine c_true F rfl rfl ?_
      refine c_seq (c_region ?_)
      refine sD F (o_assign (F.ev rfl) ?_); clear F a; intro a F
      with_reducible refine l_nil (q_then (c_ret (q_thenR ?_)))
      refine p_ret F rfl (.cons (.tmp (F.ev rfl)) .nil) ?_
      exact ⟨rfl, M.ext⟩
    · rw [if_neg k2]
      by_cases k3 : y.nb < x.nb
      · rw [if_pos k3]
        refine sD F (o_assign (F.ev rfl) ?_); clear F a; intro a F
        with_reducible refine l_nil (q_then (c_seq (c_region ?_)))
        refine sD F (o_move (F.ev rfl) ?_); clear F a; intro a F
        refine sD F (o_neqF (F.ev rfl) (F.ev rfl) (by omega) ?_); clear F a; intro a F
        with_reducible refine l_nil (q_then ?_)
        refine c_false F rfl rfl ?_
        with_reducible refine c_skip (q_then (c_seq (c_seq (c_region ?_))))
        refine sD F (o_fieldAddr (F.ev rfl) ?_); clear F a; intro a F
        refine sD F (o_load1 M (F.ev rfl) (by repeat constructor) (by first | assumption | rfl) ?_); clear F a; intro a F
        refine sD F (o_fieldAddr (F.ev rfl) ?_); clear F a; intro a F
        refine sD F (o_load1 M (F.ev rfl) (by repeat constructor) (by first | assumption | rfl) ?_); clear F a; intro a F
        refine sD F (o_lssF (F.ev rfl) (F.ev rfl) (by omega) ?_); clear F a; intro a F
        with_reducible refine l_nil (q_then ?_)
        refine c_false F rfl rfl ?_
        with_reducible refine c_skip (q_then (c_seq (c_seq (c_region ?_))))
        refine sD F (o_fieldAddr (F.ev rfl) ?_); clear F a; intro a F
        refine sD F (o_load1 M (F.ev rfl) (by repeat constructor) (by first | assumption | rfl) ?_); clear F a; intro a F
        refine sD F (o_fieldAddr (F.ev rfl) ?_); clear F a; intro a F
        refine sD F (o_load1 M (F.ev rfl) (by repeat constructor) (by first | assumption | rfl) ?_); clear F a; intro a F
        refine sD F (o_gtrT (F.ev rfl) (F.ev rfl) (by omega) ?_); clear F a; intro a F
        with_reducible refine l_nil (q_then ?_)
        refine c_true F rfl rfl ?_
        refine c_seq (c_region ?_)
        refine sD F (o_assign (F.ev rfl) ?_); clear F a; intro a F
        with_reducible refine l_nil (q_then (c_ret (q_thenR ?_)))
        refine p_ret F rfl (.cons (.tmp (F.ev rfl)) .nil) ?_
        exact ⟨rfl, M.ext⟩
      · rw [if_neg k3]
        refine sD F (o_assign (F.ev rfl) ?_); clear F a; intro a F
        with_reducible refine l_nil (q_then (c_seq (c_region ?_)))
        refine sD F (o_move (F.ev rfl) ?_); clear F a; intro a F
        refine sD F (o_neqF (F.ev rfl) (F.ev rfl) (by omega) ?_); clear F a; intro a F
        with_reducible refine l_nil (q_then ?_)
        refine c_false F rfl rfl ?_
        with_reducible refine c_skip (q_then (c_seq (c_seq (c_region ?_))))
        refine sD F (o_fieldAddr (F.ev rfl) ?_); clear F a; intro a F
        refine sD F (o_load1 M (F.ev rfl) (by repeat constructor) (by first | assumption | rfl) ?_); clear F a; intro a F
        refine sD F (o_fieldAddr (F.ev rfl) ?_); clear F a; intro a F
        refine sD F (o_load1 M (F.ev rfl) (by repeat constructor) (by first | assumption | rfl) ?_); clear F a; intro a F
        refine sD F (o_lssF (F.ev rfl) (F.ev rfl) (by omega) ?_); clear F a; intro a F
        with_reducible refine l_nil (q_then ?_)
        refine c_false F rfl rfl ?_
        with_reducible refine c_skip (q_then (c_seq (c_seq (c_region ?_))))
        refine sD F (o_fieldAddr (F.ev rfl) ?_); clear F a; intro a F
        refine sD F (o_load1 M (F.ev rfl) (by repeat constructor) (by first | assumption | rfl) ?_); clear F a; intro a F
        refine sD F (o_fieldAddr (F.ev rfl) ?_); clear F a; intro a F
        refine sD F (o_load1 M (F.ev rfl) (by repeat constructor) (by first | assumption | rfl) ?_); clear F a; intro a F
        refine sD F (o_gtrF (F.ev rfl) (F.ev rfl) (by omega) ?_); clear F a; intro a F
        with_reducible refine l_nil (q_then ?_)
        refine c_false F rfl rfl ?_
        with_reducible refine c_skip (q_then (c_seq (c_region ?_)))
        refine sD F (o_assign (F.ev rfl) ?_); clear F a; intro a F
        with_reducible refine l_nil (q_then (c_ret ?_))
        refine p_ret F rfl (.cons (.tmp (F.ev rfl)) .nil) ?_
        exact ⟨rfl, M.ext⟩
  · rw [if_neg k]
    refine sD F (o_assign (F.ev rfl) ?_); clear F a; intro a F
    with_reducible refine l_nil (q_then (c_seq (c_region ?_)))
    refine sD F (o_move (F.ev rfl) ?_); clear F a; intro a F
    refine sD F (o_neqT (F.ev rfl) (F.ev rfl) (by omega) ?_); clear F a; intro a F
    with_reducible refine l_nil (q_then ?_)
    refine c_true F rfl rfl ?_
    refine c_seq (c_region ?_)
    refine sD F (o_move (F.ev rfl) ?_); clear F a; intro a F
    refine sD F (o_assign (F.ev rfl) ?_); clear F a; intro a F
    with_reducible refine l_nil (q_then (c_ret (q_thenR ?_)))
    refine p_ret F rfl (.cons (.tmp (F.ev rfl)) .nil) ?_
    exact ⟨rfl, M.ext⟩
set_option maxHeartbeats 4000000 in
theorem refvalidR_c (l : List RouV) (hx : ∀ x ∈ l, IsRo x) (v : Value) (W : World) (hS : SlAt W 39 v l.length (rosC l)) :
    Cal Tryz.prog 89 [v].toArray W fun r w' => r = .bool (validRs l) ∧ Ext [] W w' := by
  obtain ⟨q, cap, rfl, hcap, hsp, hl, hm⟩ := hS
  unfold validRs vldL
  by_cases c0 : 512 < l.length
  · rw [decide_eq_false (by omega), Bool.false_and]
    refine fn_ofM (n := 70) [] Tryz.func89 rfl rfl rfl ?_
    intro a w F M hwW
    refine c_seq (c_region ?_)
    refine sD F (o_assign (F.ev rfl) ?_); clear F a; intro a F
    with_reducible refine l_nil (q_then (c_seq (c_seq (c_region ?_))))
    refine sD F (o_move (F.ev rfl) ?_); clear F a; intro a F
    refine sD F (o_lenSl (F.ev rfl) ?_); clear F a; intro a F
    refine sD F (o_gtrT (F.ev rfl) (F.ev rfl) (by omega) ?_); clear F a; intro a F
    with_reducible refine l_nil (q_then ?_)
    refine c_true F rfl rfl ?_
    refine c_seq (c_region ?_)
    refine sD F (o_assign (F.ev rfl) ?_); clear F a; intro a F
    with_reducible refine l_nil (q_then (c_ret (q_thenR ?_)))
    refine p_ret F rfl (.cons (.tmp (F.ev rfl)) .nil) ?_
    exact ⟨rfl, M.ext⟩
  rw [decide_eq_true (show l.length ≤ 512 by omega), Bool.true_and]
  refine fn_ofM (n := 70) [] Tryz.func89 rfl rfl rfl ?_
  intro a w F M hwW
  refine c_seq (c_region ?_)
  refine sD F (o_assign (F.ev rfl) ?_); clear F a; intro a F
  with_reducible refine l_nil (q_then (c_seq (c_seq (c_region ?_))))
  refine sD F (o_move (F.ev rfl) ?_); clear F a; intro a F
  refine sD F (o_lenSl (F.ev rfl) ?_); clear F a; intro a F
  refine sD F (o_gtrF (F.ev rfl) (F.ev rfl) (by omega) ?_); clear F a; intro a F
  with_reducible refine l_nil (q_then ?_)
  refine c_false F rfl rfl ?_
  with_reducible refine c_skip (q_then (c_seq (c_seq (c_region ?_))))
  refine sD F (o_move (F.ev rfl) ?_); clear F a; intro a F
  refine sD F (o_lenSl (F.ev rfl) ?_); clear F a; intro a F
  refine sD F (o_move (F.ev rfl) ?_); clear F a; intro a F
  with_reducible refine l_nil (q_then (c_block ?_))
  refine c_loop (fun m a w => ∃ i : Nat, m = l.length - i ∧ i ≤ l.length ∧ (∀ j, j < i → vld1 rou1 cmpR l j = true) ∧ Frm a 70 [] [(9, .int .i64 i), (8, .int .i64 l.length), (0, .slice q l.length cap)] ∧ Mem [] W w []) l.length ⟨0, rfl, by omega, by omega, F.only [9, 8, 0] rfl, M⟩ ?_
  clear F M
  rintro m a w ⟨i, hm', hi, hv, F, M⟩
  by_cases hlt : i < l.length
  · obtain ⟨b, o, cs, t, fz, rfl, hb, hs⟩ := hm (by omega)
    have hxv := hx _ (List.getElem_mem hlt)
    have hv0 := vld1_0 (e1 := rou1) (cm := cmpR) hlt
    have hvs := vld1_s (e1 := rou1) (cm := cmpR) hlt
    have hvf := vld1_f (e1 := rou1) (cm := cmpR) hlt
    have f1 : seg cs (o + (i : Int).toNat * 39) 39 = some (roC l[i]) := seg_el (ros_len hx) hs hlt (by omega)
    obtain ⟨x, hx0⟩ : ∃ x, x = l[i] := ⟨_, rfl⟩
    rw [← hx0] at hxv hv0 hvs hvf f1
    have g0 : seg cs (o + (i : Int).toNat * 39) 35 = some (dvC x.to) := sg_seg f1 (ro_to hxv) (by omega)
    have g1 : nth cs (o + (i : Int).toNat * 39 + 35) = some (.int .u64 x.nb) := sg_nth f1 (ro_nb hxv) (by omega)
    have g2 : seg cs (o + (i : Int).toNat * 39 + 36) 2 = some (diC x.said) := sg_seg f1 (ro_said hxv) (by omega)
    have g3 : nth cs (o + (i : Int).toNat * 39 + 36 + 1) = some (.int .i64 x.said.met) := sg_nth f1 (ro_said_met hxv) (by omega)
    have g4 : nth cs (o + (i : Int).toNat * 39 + 38) = some (.int .i64 x.til) := sg_nth f1 (ro_til hxv) (by omega)
    refine c_seq (c_region ?_)
    refine sD F (o_lssT (F.ev rfl) (F.ev rfl) (by omega) ?_); clear F a; intro a F
    with_reducible refine l_nil (q_then (c_seq ?_))
    refine c_true F rfl rfl ?_
    with_reducible refine c_skip (q_then (c_seq (c_block (c_seq (c_region ?_)))))
    refine sD F (o_move (F.ev rfl) ?_); clear F a; intro a F
    refine sD F (o_assign (F.ev rfl) ?_); clear F a; intro a F
    with_reducible refine l_nil (q_then (c_seq (c_seq (c_region ?_))))
    refine sD F (o_move (F.ev rfl) ?_); clear F a; intro a F
    refine sD F (o_move (F.ev rfl) ?_); clear F a; intro a F
    refine sD F (o_indexSl (F.ev rfl) (F.ev rfl) (by omega) (by omega) ?_); clear F a; intro a F
    refine sD F (o_fieldAddr (F.ev rfl) ?_); clear F a; intro a F
    refine sD F (o_loadWA M (F.ev rfl) (by assumption) (by first | assumption | rfl) ?_); clear F a; intro a F
    (refine sD F (o_call (F.ev rfl) (F.evs rfl) (Cal.mono (rvalidTo_c x.to hxv.1 _) ?_)); clear F; clear a; rintro _ w ⟨rfl, hE⟩ a F; replace M := M.later hE; clear hE)
    cases c0 : validT x.to
    · rw [rng_f hlt (hvf (by unfold rou1 finD inf; rw [c0]; simp))]
      rw [c0] at F
      refine sD F (o_not (F.ev rfl) ?_); clear F a; intro a F
      refine sD F (o_move (F.ev rfl) ?_); clear F a; intro a F
      refine sO F ?_; clear F a; intro a F
      refine sO F ?_; clear F a; intro a F
      refine sO F ?_; clear F a; intro a F
      refine sO F ?_; clear F a; intro a F
      refine sO F ?_; clear F a; intro a F
      refine sO F ?_; clear F a; intro a F
      refine sD F (o_pickT (F.ev rfl) (F.ev rfl) ?_); clear F a; intro a F
      refine sD F (o_move (F.ev rfl) ?_); clear F a; intro a F
      refine sO F ?_; clear F a; intro a F
      refine sO F ?_; clear F a; intro a F
      refine sO F ?_; clear F a; intro a F
      refine sO F ?_; clear F a; intro a F
      refine sO F ?_; clear F a; intro a F
      refine sO F ?_; clear F a; intro a F
      refine sO F ?_; clear F a; intro a F
      refine sD F (o_pickT (F.ev rfl) (F.ev rfl) ?_); clear F a; intro a F
      refine sD F (o_move (F.ev rfl) ?_); clear F a; intro a F
      refine sO F ?_; clear F a; intro a F
      refine sO F ?_; clear F a; intro a F
      refine sO F ?_; clear F a; intro a F
      refine sO F ?_; clear F a; intro a F
      refine sO F ?_; clear F a; intro a F
      refine sO F ?_; clear F a; intro a F
      refine sO F ?_; clear F a; intro a F
      refine sD F (o_pickT (F.ev rfl) (F.ev rfl) ?_); clear F a; intro a F
      refine sD F (o_move (F.ev rfl) ?_); clear F a; intro a F
      refine sO F ?_; clear F a; intro a F
      refine sO F ?_; clear F a; intro a F
      refine sO F ?_; clear F a; intro a F
      refine sO F ?_; clear F a; intro a F
      refine sO F ?_; clear F a; intro a F
      refine sO F ?_; clear F a; intro a F
      refine sO F ?_; clear F a; intro a F
      refine sD F (o_pickT (F.ev rfl) (F.ev rfl) ?_); clear F a; intro a F
      with_reducible refine l_nil (q_then ?_)
      refine c_true F rfl rfl ?_
      refine c_seq (c_region ?_)
      refine sD F (o_assign (F.ev rfl) ?_); clear F a; intro a F
      with_reducible refine l_nil (q_then (c_ret (q_thenR (q_inBR (q_thenR (q_thenR (q_inBR (q_thenR ?_))))))))
      refine p_ret F rfl (.cons (.tmp (F.ev rfl)) .nil) ?_
      exact ⟨rfl, M.ext⟩
    rw [c0] at F
    by_cases c1 : x.nb = 0
    · rw [rng_f hlt (hvf (by unfold rou1 finD inf; rw [c0, decide_eq_true c1]; simp))]
      refine sD F (o_not (F.ev rfl) ?_); clear F a; intro a F
      refine sD F (o_move (F.ev rfl) ?_); clear F a; intro a F
      refine sG F (o_move (F.ev rfl) ?_); clear F a; intro a F
      refine sG F (o_move (F.ev rfl) ?_); clear F a; intro a F
      refine sG F (o_indexSl (F.ev rfl) (F.ev rfl) (by omega) (by omega) ?_); clear F a; intro a F
      refine sG F (o_fieldAddr (F.ev rfl) ?_); clear F a; intro a F
      refine sG F (o_loadW1 M (F.ev rfl) (by assumption) (by first | assumption | rfl) ?_); clear F a; intro a F
      refine sG F (o_eqlT (F.ev rfl) (F.ev rfl) (by omega) ?_); clear F a; intro a F
      refine sD F (o_pickF (F.ev rfl) (F.ev rfl) ?_); clear F a; intro a F
      refine sD F (o_move (F.ev rfl) ?_); clear F a; intro a F
      refine sO F ?_; clear F a; intro a F
      refine sO F ?_; clear F a; intro a F
      refine sO F ?_; clear F a; intro a F
      refine sO F ?_; clear F a; intro a F
      refine sO F ?_; clear F a; intro a F
      refine sO F ?_; clear F a; intro a F
      refine sO F ?_; clear F a; intro a F
      refine sD F (o_pickT (F.ev rfl) (F.ev rfl) ?_); clear F a; intro a F
      refine sD F (o_move (F.ev rfl) ?_); clear F a; intro a F
      refine sO F ?_; clear F a; intro a F
      refine sO F ?_; clear F a; intro a F
      refine sO F ?_; clear F a; intro a F
      refine sO F ?_; clear F a; intro a F
      refine sO F ?_; clear F a; intro a F
      refine sO F ?_; clear F a; intro a F
      refine sO F ?_; clear F a; intro a F
      refine sD F (o_pickT (F.ev rfl) (F.ev rfl) ?_); clear F a; intro a F
      refine sD F (o_move (F.ev rfl) ?_); clear F a; intro a F
      refine sO F ?_; clear F a; intro a F
      refine sO F ?_; clear F a; intro a F
      refine sO F ?_; clear F a; intro a F
      refine sO F ?_; clear F a; intro a F
      refine sO F ?_; clear F a; intro a F
      refine sO F ?_; clear F a; intro a F
      refine sO F ?_; clear F a; intro a F
      refine sD F (o_pickT (F.ev rfl) (F.ev rfl) ?_); clear F a; intro a F
      with_reducible refine l_nil (q_then ?_)
      refine c_true F rfl rfl ?_
      refine c_seq (c_region ?_)
      refine sD F (o_assign (F.ev rfl) ?_); clear F a; intro a F
      with_reducible refine l_nil (q_then (c_ret (q_thenR (q_inBR (q_thenR (q_thenR (q_inBR (q_thenR ?_))))))))
      refine p_ret F rfl (.cons (.tmp (F.ev rfl)) .nil) ?_
      exact ⟨rfl, M.ext⟩
    refine sD F (o_not (F.ev rfl) ?_); clear F a; intro a F
    refine sD F (o_move (F.ev rfl) ?_); clear F a; intro a F
    refine sG F (o_move (F.ev rfl) ?_); clear F a; intro a F
    refine sG F (o_move (F.ev rfl) ?_); clear F a; intro a F
    refine sG F (o_indexSl (F.ev rfl) (F.ev rfl) (by omega) (by omega) ?_); clear F a; intro a F
    refine sG F (o_fieldAddr (F.ev rfl) ?_); clear F a; intro a F
    refine sG F (o_loadW1 M (F.ev rfl) (by assumption) (by first | assumption | rfl) ?_); clear F a; intro a F
    refine sG F (o_eqlF (F.ev rfl) (F.ev rfl) (by omega) ?_); clear F a; intro a F
    refine sD F (o_pickF (F.ev rfl) (F.ev rfl) ?_); clear F a; intro a F
    refine sD F (o_move (F.ev rfl) ?_); clear F a; intro a F
    refine sG F (o_move (F.ev rfl) ?_); clear F a; intro a F
    refine sG F (o_move (F.ev rfl) ?_); clear F a; intro a F
    refine sG F (o_indexSl (F.ev rfl) (F.ev rfl) (by omega) (by omega) ?_); clear F a; intro a F
    refine sG F (o_fieldAddr (F.ev rfl) ?_); clear F a; intro a F
    refine sG F (o_loadWA M (F.ev rfl) (by assumption) (by first | assumption | rfl) ?_); clear F a; intro a F
    (refine sG F (o_call (F.ev rfl) (F.evs rfl) (Cal.mono (rdvalid_c x.said _) ?_)); clear F; clear a; rintro _ w ⟨rfl, hE⟩ a F; replace M := M.later hE; clear hE)
    cases c2 : validM x.said.met
    · rw [rng_f hlt (hvf (by unfold rou1 finD inf; rw [c0, decide_eq_false c1, c2]; simp))]
      rw [c2] at F
      refine sG F (o_not (F.ev rfl) ?_); clear F a; intro a F
      refine sD F (o_pickF (F.ev rfl) (F.ev rfl) ?_); clear F a; intro a F
      refine sD F (o_move (F.ev rfl) ?_); clear F a; intro a F
      refine sO F ?_; clear F a; intro a F
      refine sO F ?_; clear F a; intro a F
      refine sO F ?_; clear F a; intro a F
      refine sO F ?_; clear F a; intro a F
      refine sO F ?_; clear F a; intro a F
      refine sO F ?_; clear F a; intro a F
      refine sO F ?_; clear F a; intro a F
      refine sD F (o_pickT (F.ev rfl) (F.ev rfl) ?_); clear F a; intro a F
      refine sD F (o_move (F.ev rfl) ?_); clear F a; intro a F
      refine sO F ?_; clear F a; intro a F
      refine sO F ?_; clear F a; intro a F
      refine sO F ?_; clear F a; intro a F
      refine sO F ?_; clear F a; intro a F
      refine sO F ?_; clear F a; intro a F
      refine sO F ?_; clear F a; intro a F
      refine sO F ?_; clear F a; intro a F
      refine sD F (o_pickT (F.ev rfl) (F.ev rfl) ?_); clear F a; intro a F
      with_reducible refine l_nil (q_then ?_)
      refine c_true F rfl rfl ?_
      refine c_seq (c_region ?_)
      refine sD F (o_assign (F.ev rfl) ?_); clear F a; intro a F
      with_reducible refine l_nil (q_then (c_ret (q_thenR (q_inBR (q_thenR (q_thenR (q_inBR (q_thenR ?_))))))))
      refine p_ret F rfl (.cons (.tmp (F.ev rfl)) .nil) ?_
      exact ⟨rfl, M.ext⟩
    rw [c2] at F
    by_cases c3 : x.said.met = 65535
    · rw [rng_f hlt (hvf (by unfold rou1 finD inf; rw [c0, decide_eq_false c1, c2, decide_eq_true c3]; simp))]
      refine sG F (o_not (F.ev rfl) ?_); clear F a; intro a F
      refine sD F (o_pickF (F.ev rfl) (F.ev rfl) ?_); clear F a; intro a F
      refine sD F (o_move (F.ev rfl) ?_); clear F a; intro a F
      refine sG F (o_move (F.ev rfl) ?_); clear F a; intro a F
      refine sG F (o_move (F.ev rfl) ?_); clear F a; intro a F
      refine sG F (o_indexSl (F.ev rfl) (F.ev rfl) (by omega) (by omega) ?_); clear F a; intro a F
      refine sG F (o_fieldAddr (F.ev rfl) ?_); clear F a; intro a F
      refine sG F (o_fieldAddr (F.ev rfl) ?_); clear F a; intro a F
      refine sG F (o_loadW1 M (F.ev rfl) (by assumption) (by first | assumption | rfl) ?_); clear F a; intro a F
      refine sG F (o_eqlT (F.ev rfl) (F.ev rfl) (by omega) ?_); clear F a; intro a F
      refine sD F (o_pickF (F.ev rfl) (F.ev rfl) ?_); clear F a; intro a F
      refine sD F (o_move (F.ev rfl) ?_); clear F a; intro a F
      refine sO F ?_; clear F a; intro a F
      refine sO F ?_; clear F a; intro a F
      refine sO F ?_; clear F a; intro a F
      refine sO F ?_; clear F a; intro a F
      refine sO F ?_; clear F a; intro a F
      refine sO F ?_; clear F a; intro a F
      refine sO F ?_; clear F a; intro a F
      refine sD F (o_pickT (F.ev rfl) (F.ev rfl) ?_); clear F a; intro a F
      with_reducible refine l_nil (q_then ?_)
      refine c_true F rfl rfl ?_
      refine c_seq (c_region ?_)
      refine sD F (o_assign (F.ev rfl) ?_); clear F a; intro a F
      with_reducible refine l_nil (q_then (c_ret (q_thenR (q_inBR (q_thenR (q_thenR (q_inBR (q_thenR ?_))))))))
      refine p_ret F rfl (.cons (.tmp (F.ev rfl)) .nil) ?_
      exact ⟨rfl, M.ext⟩
    refine sG F (o_not (F.ev rfl) ?_); clear F a; intro a F
    refine sD F (o_pickF (F.ev rfl) (F.ev rfl) ?_); clear F a; intro a F
    refine sD F (o_move (F.ev rfl) ?_); clear F a; intro a F
    refine sG F (o_move (F.ev rfl) ?_); clear F a; intro a F
    refine sG F (o_move (F.ev rfl) ?_); clear F a; intro a F
    refine sG F (o_indexSl (F.ev rfl) (F.ev rfl) (by omega) (by omega) ?_); clear F a; intro a F
    refine sG F (o_fieldAddr (F.ev rfl) ?_); clear F a; intro a F
    refine sG F (o_fieldAddr (F.ev rfl) ?_); clear F a; intro a F
    refine sG F (o_loadW1 M (F.ev rfl) (by assumption) (by first | assumption | rfl) ?_); clear F a; intro a F
    refine sG F (o_eqlF (F.ev rfl) (F.ev rfl) (by omega) ?_); clear F a; intro a F
    refine sD F (o_pickF (F.ev rfl) (F.ev rfl) ?_); clear F a; intro a F
    refine sD F (o_move (F.ev rfl) ?_); clear F a; intro a F
    refine sG F (o_move (F.ev rfl) ?_); clear F a; intro a F
    refine sG F (o_move (F.ev rfl) ?_); clear F a; intro a F
    refine sG F (o_indexSl (F.ev rfl) (F.ev rfl) (by omega) (by omega) ?_); clear F a; intro a F
    refine sG F (o_fieldAddr (F.ev rfl) ?_); clear F a; intro a F
    refine sG F (o_loadW1 M (F.ev rfl) (by assumption) (by first | assumption | rfl) ?_); clear F a; intro a F
    (refine sG F (o_call (F.ev rfl) (F.evs rfl) (Cal.mono (risTime_c x.til _) ?_)); clear F; clear a; rintro _ w ⟨rfl, hE⟩ a F; replace M := M.later hE; clear hE)
    cases c4 : isTime x.til
    · rw [rng_f hlt (hvf (by unfold rou1 finD inf; rw [c0, decide_eq_false c1, c2, decide_eq_false c3, c4]; simp))]
      rw [c4] at F
      refine sG F (o_not (F.ev rfl) ?_); clear F a; intro a F
      refine sD F (o_pickF (F.ev rfl) (F.ev rfl) ?_); clear F a; intro a F
      with_reducible refine l_nil (q_then ?_)
      refine c_true F rfl rfl ?_
      refine c_seq (c_region ?_)
      refine sD F (o_assign (F.ev rfl) ?_); clear F a; intro a F
      with_reducible refine l_nil (q_then (c_ret (q_thenR (q_inBR (q_thenR (q_thenR (q_inBR (q_thenR ?_))))))))
      refine p_ret F rfl (.cons (.tmp (F.ev rfl)) .nil) ?_
      exact ⟨rfl, M.ext⟩
    rw [c4] at F
    have hgood : rou1 x = true := by unfold rou1 finD inf; rw [c0, decide_eq_false c1, c2, decide_eq_false c3, c4]; rfl
    rw [hgood] at hv0 hvs
    clear hvf hgood
    refine sG F (o_not (F.ev rfl) ?_); clear F a; intro a F
    refine sD F (o_pickF (F.ev rfl) (F.ev rfl) ?_); clear F a; intro a F
    with_reducible refine l_nil (q_then ?_)
    refine c_false F rfl rfl ?_
    with_reducible refine c_skip (q_then (c_seq ?_))
    replace F := F.only [9, 8, 0, 3] rfl
    rcases Nat.eq_zero_or_pos i with hi0 | hi0
    · refine c_draw 14 F (by kernel_rfl) ?_
      intro w1 hE hok
      have M1 := M.later hE
      refine mK hok rfl rfl (fun a' w' F' E' => o_move (F'.ev rfl) ⟨Ext.refl _ _, rfl⟩) ?_
      refine mK hok rfl rfl (fun a' w' F' E' => o_gtrF (F'.ev rfl) (F'.ev rfl) (by omega) ⟨Ext.refl _ _, rfl⟩) ?_
      refine mK hok rfl rfl (fun a' w' F' E' => o_move (F'.ev rfl) ⟨Ext.refl _ _, rfl⟩) ?_
      refine mOff hok rfl rfl rfl rfl rfl ?_
      refine mOff hok rfl rfl rfl rfl rfl ?_
      refine mOff hok rfl rfl rfl rfl rfl ?_
      refine mOff hok rfl rfl rfl rfl rfl ?_
      refine mOff hok rfl rfl rfl rfl rfl ?_
      refine mOff hok rfl rfl rfl rfl rfl ?_
      refine mOff hok rfl rfl rfl rfl rfl ?_
      refine mOff hok rfl rfl rfl rfl rfl ?_
      refine mOff hok rfl rfl rfl rfl rfl ?_
      refine mOff hok rfl rfl rfl rfl rfl ?_
      refine mOff hok rfl rfl rfl rfl rfl ?_
      (refine mDone rfl rfl ?_; clear F M; intro a w F hE2 hX hTT hDD hPP; have M := M1.later hE2; clear M1; clear hX; clear hE2; clear hok; clear hE; clear hTT; clear hDD; clear hPP; (try dsimp only at F))
      refine sD F (o_pickF (F.ev rfl) (F.ev rfl) ?_); clear F a; intro a F
      with_reducible refine l_nil (q_then ?_)
      refine c_false F rfl rfl ?_
      with_reducible refine c_skip (q_inB (q_then (c_region ?_)))
      refine sD F (o_add (F.ev rfl) (F.ev rfl) (w_i64 (by omega) (by omega)) ?_); clear F a; intro a F
      refine sD F (o_move (F.ev rfl) ?_); clear F a; intro a F
      with_reducible refine l_nil (q_then ?_)
      exact ⟨_, by omega, i + 1, rfl, by omega, fun j hj => by
          rcases Nat.lt_or_ge j i with h1 | h1
          · exact hv j h1
          · obtain rfl : j = i := by omega
            rw [hv0 hi0], F.only [9, 8, 0] rfl, M⟩
    · have hyv := hx _ (List.getElem_mem (show i - 1 < l.length by omega))
      have p1 : seg cs (o + ((i : Int) - 1).toNat * 39) 39 = some (roC (l[i - 1]'(by omega))) := seg_el (ros_len hx) hs (show i - 1 < l.length by omega) (by omega)
      replace hvs := hvs hi0
      obtain ⟨y, hy0⟩ : ∃ y, y = l[i - 1]'(by omega) := ⟨_, rfl⟩
      rw [← hy0] at hyv p1 hvs
      clear hy0
      by_cases c9 : cmpR y x < 0
      · refine c_draw 14 F (by kernel_rfl) ?_
        intro w1 hE hok
        have M1 := M.later hE
        refine mK hok rfl rfl (fun a' w' F' E' => o_move (F'.ev rfl) ⟨Ext.refl _ _, rfl⟩) ?_
        refine mK hok rfl rfl (fun a' w' F' E' => o_gtrT (F'.ev rfl) (F'.ev rfl) (by omega) ⟨Ext.refl _ _, rfl⟩) ?_
        refine mK hok rfl rfl (fun a' w' F' E' => o_move (F'.ev rfl) ⟨Ext.refl _ _, rfl⟩) ?_
        refine mKG hok rfl rfl rfl rfl (fun a' w' F' E' => o_move (F'.ev rfl) ⟨Ext.refl _ _, rfl⟩) ?_
        refine mKG hok rfl rfl rfl rfl (fun a' w' F' E' => o_move (F'.ev rfl) ⟨Ext.refl _ _, rfl⟩) ?_
        refine mKG hok rfl rfl rfl rfl (fun a' w' F' E' => o_sub (F'.ev rfl) (F'.ev rfl) (w_i64 (by omega) (by omega)) ⟨Ext.refl _ _, rfl⟩) ?_
        refine mKG hok rfl rfl rfl rfl (fun a' w' F' E' => o_indexSl (F'.ev rfl) (F'.ev rfl) (by omega) (by omega) ⟨Ext.refl _ _, rfl⟩) ?_
        refine mKG hok rfl rfl rfl rfl (fun a' w' F' E' => o_loadWA (M1.later E') (F'.ev rfl) (by assumption) (by first | assumption | rfl) ⟨Ext.refl _ _, rfl⟩) ?_
        refine mKG hok rfl rfl rfl rfl (fun a' w' F' E' => o_move (F'.ev rfl) ⟨Ext.refl _ _, rfl⟩) ?_
        refine mKG hok rfl rfl rfl rfl (fun a' w' F' E' => o_move (F'.ev rfl) ⟨Ext.refl _ _, rfl⟩) ?_
        refine mKG hok rfl rfl rfl rfl (fun a' w' F' E' => o_indexSl (F'.ev rfl) (F'.ev rfl) (by omega) (by omega) ⟨Ext.refl _ _, rfl⟩) ?_
        refine mKG hok rfl rfl rfl rfl (fun a' w' F' E' => o_loadWA (M1.later E') (F'.ev rfl) (by assumption) (by first | assumption | rfl) ⟨Ext.refl _ _, rfl⟩) ?_
        (refine mKG hok rfl rfl rfl rfl (fun a' w' F' E' => o_call (F'.ev rfl) (F'.evs rfl) (Cal.mono (reforder_c y x hyv hxv _) fun _ _ hh => ⟨hh.2, hh.1⟩)) ?_)
        refine mKG hok rfl rfl rfl rfl (fun a' w' F' E' => o_geqF (F'.ev rfl) (F'.ev rfl) (by omega) ⟨Ext.refl _ _, rfl⟩) ?_
        (refine mDone rfl rfl ?_; clear F M; intro a w F hE2 hX hTT hDD hPP; have M := M1.later hE2; clear M1; clear hX; clear hE2; clear hok; clear hE; clear hTT; clear hDD; clear hPP; (try dsimp only at F))
        refine sD F (o_pickT (F.ev rfl) (F.ev rfl) ?_); clear F a; intro a F
        with_reducible refine l_nil (q_then ?_)
        refine c_false F rfl rfl ?_
        with_reducible refine c_skip (q_inB (q_then (c_region ?_)))
        refine sD F (o_add (F.ev rfl) (F.ev rfl) (w_i64 (by omega) (by omega)) ?_); clear F a; intro a F
        refine sD F (o_move (F.ev rfl) ?_); clear F a; intro a F
        with_reducible refine l_nil (q_then ?_)
        exact ⟨_, by omega, i + 1, rfl, by omega, fun j hj => by
          rcases Nat.lt_or_ge j i with h1 | h1
          · exact hv j h1
          · obtain rfl : j = i := by omega
            rw [hvs]; simp [c9], F.only [9, 8, 0] rfl, M⟩
      · rw [rng_f hlt (by rw [hvs]; simp [c9])]
        refine c_draw 14 F (by kernel_rfl) ?_
        intro w1 hE hok
        have M1 := M.later hE
        refine mK hok rfl rfl (fun a' w' F' E' => o_move (F'.ev rfl) ⟨Ext.refl _ _, rfl⟩) ?_
        refine mK hok rfl rfl (fun a' w' F' E' => o_gtrT (F'.ev rfl) (F'.ev rfl) (by omega) ⟨Ext.refl _ _, rfl⟩) ?_
        refine mK hok rfl rfl (fun a' w' F' E' => o_move (F'.ev rfl) ⟨Ext.refl _ _, rfl⟩) ?_
        refine mKG hok rfl rfl rfl rfl (fun a' w' F' E' => o_move (F'.ev rfl) ⟨Ext.refl _ _, rfl⟩) ?_
        refine mKG hok rfl rfl rfl rfl (fun a' w' F' E' => o_move (F'.ev rfl) ⟨Ext.refl _ _, rfl⟩) ?_
        refine mKG hok rfl rfl rfl rfl (fun a' w' F' E' => o_sub (F'.ev rfl) (F'.ev rfl) (w_i64 (by omega) (by omega)) ⟨Ext.refl _ _, rfl⟩) ?_
        refine mKG hok rfl rfl rfl rfl (fun a' w' F' E' => o_indexSl (F'.ev rfl) (F'.ev rfl) (by omega) (by omega) ⟨Ext.refl _ _, rfl⟩) ?_
        refine mKG hok rfl rfl rfl rfl (fun a' w' F' E' => o_loadWA (M1.later E') (F'.ev rfl) (by assumption) (by first | assumption | rfl) ⟨Ext.refl _ _, rfl⟩) ?_
        refine mKG hok rfl rfl rfl rfl (fun a' w' F' E' => o_move (F'.ev rfl) ⟨Ext.refl _ _, rfl⟩) ?_
        refine mKG hok rfl rfl rfl rfl (fun a' w' F' E' => o_move (F'.ev rfl) ⟨Ext.refl _ _, rfl⟩) ?_
        refine mKG hok rfl rfl rfl rfl (fun a' w' F' E' => o_indexSl (F'.ev rfl) (F'.ev rfl) (by omega) (by omega) ⟨Ext.refl _ _, rfl⟩) ?_
        refine mKG hok rfl rfl rfl rfl (fun a' w' F' E' => o_loadWA (M1.later E') (F'.ev rfl) (by assumption) (by first | assumption | rfl) ⟨Ext.refl _ _, rfl⟩) ?_
        (refine mKG hok rfl rfl rfl rfl (fun a' w' F' E' => o_call (F'.ev rfl) (F'.evs rfl) (Cal.mono (reforder_c y x hyv hxv _) fun _ _ hh => ⟨hh.2, hh.1⟩)) ?_)
        refine mKG hok rfl rfl rfl rfl (fun a' w' F' E' => o_geqT (F'.ev rfl) (F'.ev rfl) (by omega) ⟨Ext.refl _ _, rfl⟩) ?_
        (refine mDone rfl rfl ?_; clear F M; intro a w F hE2 hX hTT hDD hPP; have M := M1.later hE2; clear M1; clear hX; clear hE2; clear hok; clear hE; clear hTT; clear hDD; clear hPP; (try dsimp only at F))
        refine sD F (o_pickT (F.ev rfl) (F.ev rfl) ?_); clear F a; intro a F
        with_reducible refine l_nil (q_then ?_)
        refine c_true F rfl rfl ?_
        refine c_seq (c_region ?_)
        refine sD F (o_assign (F.ev rfl) ?_); clear F a; intro a F
        with_reducible refine l_nil (q_then (c_ret (q_inBR (q_thenR (q_thenR (q_inBR (q_thenR ?_)))))))
        refine p_ret F rfl (.cons (.tmp (F.ev rfl)) .nil) ?_
        exact ⟨rfl, M.ext⟩
  · obtain rfl : i = l.length := by omega
    rw [rng_t hv]
    refine c_seq (c_region ?_)
    refine sD F (o_lssF (F.ev rfl) (F.ev rfl) (by omega) ?_); clear F a; intro a F
    with_reducible refine l_nil (q_then (c_seq ?_))
    refine c_false F rfl rfl ?_
    with_reducible refine c_exit (q_thenX (q_thenX (q_inBX (q_then (c_seq (c_region ?_))))))
    refine sD F (o_assign (F.ev rfl) ?_); clear F a; intro a F
    with_reducible refine l_nil (q_then (c_ret ?_))
    refine p_ret F rfl (.cons (.tmp (F.ev rfl)) .nil) ?_
    exact ⟨rfl, M.ext⟩
end Go.Proofs.YtilgoepokaaleaaGreat
/-! ZO -/
namespace Go.Proofs.YtilgoepokaaleaaGreat
set_option linter.unusedVariables false
set_option linter.unusedSimpArgs false
open Go.RowKit
attribute [local irreducible] OpTo wpListIn Code.wpIn MW Cal
theorem cmpL_ge {a b x : List Int} (h : cmpL a b < 0) (k : 0 ≤ cmpL a x) : 0 < cmpL b x := by
  have h1 := cmpL_anti a x
  have h2 := cmpL_anti b x
  rcases Int.lt_or_le 0 (cmpL a x) with h3 | h3
  · have := cmpL_lt_trans (show cmpL x a < 0 by omega) h
    omega
  · have h4 := cmpL_zero (show cmpL a x = 0 by omega)
    subst h4
    omega
theorem putR_merge {l : List RouV} {x : RouV} {g : Bool} (h : AscC cmpR l) : mergeG (fun y => cmpR y x) x g l = putR l x g := by
  rw [mergeG_is]
  · rfl
  · exact h.imp fun {a b} h k => cmpL_ge h k
set_option maxHeartbeats 8000000 in
theorem rlearn_c (l : List RouV) (hx : ∀ x ∈ l, IsRo x) (v : Value) (now : Int) (t : DstV) (ht : IsDv t) (nb : Int) (d : DisV) (W : World) (hS : SlAt W 39 v l.length (rosC l)) :
    Cal Tryz.prog 43 [v, .int .i64 now, .agg (dvC t).toArray, .int .u64 nb, .agg (diC d).toArray].toArray W fun r w' => ∃ u ent, r = .tuple [u, .int .i64 (learnV l now t nb d).2].toArray ∧ OwnS 53 39 u (learnV l now t nb d).1.length (rosC (learnV l now t nb d).1) ent ∧ Mem [] W w' ent := by
  have e1 := dv_all ht
  have e2 := di_all (o := d) trivial
  have e3 := di_met (o := d) trivial
  obtain ⟨q, cap, rfl, hcap, hsp, hll, hm⟩ := id hS
  have c1 : ∀ n u, learnV l now t nb d = ([], n) → u = .slice none 0 0 → ∀ w, Ext [] W w → ∃ u' ent, Value.tuple [u, .int .i64 n].toArray = .tuple [u', .int .i64 (learnV l now t nb d).2].toArray ∧ OwnS 53 39 u' (learnV l now t nb d).1.length (rosC (learnV l now t nb d).1) ent ∧ Mem [] W w ent := by
    rintro n _ h rfl w E
    rw [h]
    exact ⟨_, [], rfl, OwnS.nil _ _, Mem.nil E⟩
  refine fn_ofM (n := 83) [] Tryz.func43 rfl rfl rfl ?_
  intro a w F M hwW
  refine c_seq (c_region ?_)
  refine sD F (o_box M (F.ev rfl) rfl ?_); clear F M; intro b7 w M a F
  refine sD F (o_box M (F.ev rfl) rfl ?_); clear F M; intro b9 w M a F
  refine sD F (o_assign (F.ev rfl) ?_); clear F a; intro a F
  refine sD F (o_assign (F.ev rfl) ?_); clear F a; intro a F
  with_reducible refine l_nil (q_then (c_seq (c_seq (c_region ?_))))
  refine sD F (o_move (F.ev rfl) ?_); clear F a; intro a F
  refine sD F (o_call (F.ev rfl) (F.evs rfl) (Cal.mono (refvalidR_c _ (by first | assumption | omega | exact And.left (by assumption) | exact (by assumption : SlAt _ _ _ _ _).later M.ext | exact TapeS.later (by assumption) M.ext | exact M.heap (by repeat constructor) | decide) _ _ (by first | assumption | omega | exact And.left (by assumption) | exact (by assumption : SlAt _ _ _ _ _).later M.ext | exact TapeS.later (by assumption) M.ext | exact M.heap (by repeat constructor) | decide)) ?_)); clear F; clear a; rintro _ w ⟨rfl, hE⟩ a F; replace M := M.later hE; clear hE
  refine sD F (o_not (F.ev rfl) ?_); clear F a; intro a F
  refine sD F (o_move (F.ev rfl) ?_); clear F a; intro a F
  refine b_split F 21 rfl (fun h1 => ?_) (fun h1 => ?_)
  · skip
    rw [h1] at F; replace h1 := false_of_not h1; (try rw [h1] at F)
    refine sO F ?_; clear F a; intro a F
    refine sO F ?_; clear F a; intro a F
    refine sO F ?_; clear F a; intro a F
    refine sD F (o_pickT (F.ev rfl) (F.ev rfl) ?_); clear F a; intro a F
    refine sD F (o_move (F.ev rfl) ?_); clear F a; intro a F
    refine sO F ?_; clear F a; intro a F
    refine sO F ?_; clear F a; intro a F
    refine sO F ?_; clear F a; intro a F
    refine sD F (o_pickT (F.ev rfl) (F.ev rfl) ?_); clear F a; intro a F
    refine sD F (o_move (F.ev rfl) ?_); clear F a; intro a F
    refine sO F ?_; clear F a; intro a F
    refine sO F ?_; clear F a; intro a F
    refine sD F (o_pickT (F.ev rfl) (F.ev rfl) ?_); clear F a; intro a F
    with_reducible refine l_nil (q_then ?_)
    refine c_true F rfl rfl ?_
    refine c_seq (c_region ?_)
    refine sD F (o_assign (F.ev rfl) ?_); clear F a; intro a F
    refine sD F (o_assign (F.ev rfl) ?_); clear F a; intro a F
    with_reducible refine l_nil (q_then (c_ret (q_thenR ?_)))
    refine p_ret F rfl (.cons (.tmp (F.ev rfl)) (.cons (.tmp (F.ev rfl)) .nil)) ?_; (try dsimp only [oneOr])
    exact c1 _ _ (by unfold learnV; simp [*]) rfl _ M.ext
  rw [h1] at F; replace h1 := true_of_not h1; (try rw [h1] at F)
  refine sG F (o_loadA M (F.ev rfl) (by repeat constructor) (by assumption) ?_); clear F a; intro a F
  refine sG F (o_call (F.ev rfl) (F.evs rfl) (Cal.mono (rvalidTo_c _ (by first | assumption | omega | exact And.left (by assumption) | exact (by assumption : SlAt _ _ _ _ _).later M.ext | exact TapeS.later (by assumption) M.ext | exact M.heap (by repeat constructor) | decide) _) ?_)); clear F; clear a; rintro _ w ⟨rfl, hE⟩ a F; replace M := M.later hE; clear hE
  refine sG F (o_not (F.ev rfl) ?_); clear F a; intro a F
  refine sD F (o_pickF (F.ev rfl) (F.ev rfl) ?_); clear F a; intro a F
  refine sD F (o_move (F.ev rfl) ?_); clear F a; intro a F
  refine b_split F 26 rfl (fun h2 => ?_) (fun h2 => ?_)
  · skip
    rw [h2] at F; replace h2 := false_of_not h2; (try rw [h2] at F)
    refine sO F ?_; clear F a; intro a F
    refine sO F ?_; clear F a; intro a F
    refine sO F ?_; clear F a; intro a F
    refine sD F (o_pickT (F.ev rfl) (F.ev rfl) ?_); clear F a; intro a F
    refine sD F (o_move (F.ev rfl) ?_); clear F a; intro a F
    refine sO F ?_; clear F a; intro a F
    refine sO F ?_; clear F a; intro a F
    refine sD F (o_pickT (F.ev rfl) (F.ev rfl) ?_); clear F a; intro a F
    with_reducible refine l_nil (q_then ?_)
    refine c_true F rfl rfl ?_
    refine c_seq (c_region ?_)
    refine sD F (o_assign (F.ev rfl) ?_); clear F a; intro a F
    refine sD F (o_assign (F.ev rfl) ?_); clear F a; intro a F
    with_reducible refine l_nil (q_then (c_ret (q_thenR ?_)))
    refine p_ret F rfl (.cons (.tmp (F.ev rfl)) (.cons (.tmp (F.ev rfl)) .nil)) ?_; (try dsimp only [oneOr])
    exact c1 _ _ (by unfold learnV; simp [*]) rfl _ M.ext
  rw [h2] at F; replace h2 := true_of_not h2; (try rw [h2] at F)
  refine sG F (o_loadA M (F.ev rfl) (by repeat constructor) (by assumption) ?_); clear F a; intro a F
  refine sG F (o_call (F.ev rfl) (F.evs rfl) (Cal.mono (rdvalid_c _ _) ?_)); clear F; clear a; rintro _ w ⟨rfl, hE⟩ a F; replace M := M.later hE; clear hE
  refine sG F (o_not (F.ev rfl) ?_); clear F a; intro a F
  refine sD F (o_pickF (F.ev rfl) (F.ev rfl) ?_); clear F a; intro a F
  refine sD F (o_move (F.ev rfl) ?_); clear F a; intro a F
  refine b_split F 31 rfl (fun h3 => ?_) (fun h3 => ?_)
  · skip
    rw [h3] at F; replace h3 := false_of_not h3; (try rw [h3] at F)
    refine sO F ?_; clear F a; intro a F
    refine sO F ?_; clear F a; intro a F
    refine sD F (o_pickT (F.ev rfl) (F.ev rfl) ?_); clear F a; intro a F
    with_reducible refine l_nil (q_then ?_)
    refine c_true F rfl rfl ?_
    refine c_seq (c_region ?_)
    refine sD F (o_assign (F.ev rfl) ?_); clear F a; intro a F
    refine sD F (o_assign (F.ev rfl) ?_); clear F a; intro a F
    with_reducible refine l_nil (q_then (c_ret (q_thenR ?_)))
    refine p_ret F rfl (.cons (.tmp (F.ev rfl)) (.cons (.tmp (F.ev rfl)) .nil)) ?_; (try dsimp only [oneOr])
    exact c1 _ _ (by unfold learnV; simp [*]) rfl _ M.ext
  rw [h3] at F; replace h3 := true_of_not h3; (try rw [h3] at F)
  refine sG F (o_move (F.ev rfl) ?_); clear F a; intro a F
  refine sG F (o_eql (F.ev rfl) (F.ev rfl) ?_); clear F a; intro a F
  refine sD F (o_pickF (F.ev rfl) (F.ev rfl) ?_); clear F a; intro a F
  with_reducible refine l_nil (q_then ?_)
  refine c_if F rfl (fun h4 => ?_) (fun h4 => ?_)
  · skip
    rw [h4] at F; replace h4 := of_decide_eq_true h4
    refine c_seq (c_region ?_)
    refine sD F (o_assign (F.ev rfl) ?_); clear F a; intro a F
    refine sD F (o_assign (F.ev rfl) ?_); clear F a; intro a F
    with_reducible refine l_nil (q_then (c_ret (q_thenR ?_)))
    refine p_ret F rfl (.cons (.tmp (F.ev rfl)) (.cons (.tmp (F.ev rfl)) .nil)) ?_; (try dsimp only [oneOr])
    exact c1 _ _ (by unfold learnV; simp [*]) rfl _ M.ext
  rw [h4] at F; replace h4 := of_decide_eq_false h4
  with_reducible refine c_skip (q_then (c_seq (c_seq (c_region ?_))))
  refine sD F (o_move (F.ev rfl) ?_); clear F a; intro a F
  refine sD F (o_call (F.ev rfl) (F.evs rfl) (Cal.mono (risTime_c _ _) ?_)); clear F; clear a; rintro _ w ⟨rfl, hE⟩ a F; replace M := M.later hE; clear hE
  refine sD F (o_not (F.ev rfl) ?_); clear F a; intro a F
  with_reducible refine l_nil (q_then ?_)
  refine c_if F rfl (fun h5 => ?_) (fun h5 => ?_)
  · skip
    rw [h5] at F; replace h5 := false_of_not h5; (try rw [h5] at F)
    refine c_seq (c_region ?_)
    refine sD F (o_assign (F.ev rfl) ?_); clear F a; intro a F
    refine sD F (o_assign (F.ev rfl) ?_); clear F a; intro a F
    with_reducible refine l_nil (q_then (c_ret (q_thenR ?_)))
    refine p_ret F rfl (.cons (.tmp (F.ev rfl)) (.cons (.tmp (F.ev rfl)) .nil)) ?_; (try dsimp only [oneOr])
    exact c1 _ _ (by unfold learnV; simp [*]) rfl _ M.ext
  rw [h5] at F; replace h5 := true_of_not h5; (try rw [h5] at F)
  with_reducible refine c_skip (q_then (c_seq ?_))
  refine c_draw 7 F (by kernel_rfl) ?_; intro w1 hE hok; have M1 := M.later hE
  refine mK hok rfl rfl (fun a' w' F' E' => o_loadA (M1.later E') (F'.ev rfl) (by repeat constructor) (by first | assumption | rfl) ⟨Ext.refl _ _, rfl⟩) ?_
  refine mK hok rfl rfl (fun a' w' F' E' => o_move (F'.ev rfl) ⟨Ext.refl _ _, rfl⟩) ?_
  refine mK hok rfl rfl (fun a' w' F' E' => o_loadA (M1.later E') (F'.ev rfl) (by repeat constructor) (by first | assumption | rfl) ⟨Ext.refl _ _, rfl⟩) ?_
  refine mK hok rfl rfl (fun a' w' F' E' => o_move (F'.ev rfl) ⟨Ext.refl _ _, rfl⟩) ?_
  obtain ⟨hl512, _, hasc⟩ := validRs_iff.1 h1
  have hnw := h5
  simp only [isTime, Bool.and_eq_true, decide_eq_true_eq] at hnw
  obtain ⟨x, hx0⟩ : ∃ x : RouV, x = ⟨t, nb, d, laterV now 10⟩ := ⟨_, rfl⟩
  have hL : learnV l now t nb d = if 512 < (putR l x (decide (d.met = 65535))).length then ([], 10) else (putR l x (decide (d.met = 65535)), 0) := by
    unfold learnV
    rw [h1, h2, h3, decide_eq_false h4, h5, ← hx0]
    rfl
  have hxx : IsRo x := by rw [hx0]; exact ⟨ht, trivial⟩
  have hb : putAll [(0, 35), (35, 1), (36, 2), (38, 1)] roZ [(0, dvC t), (1, [.int .u64 nb]), (2, diC d), (3, [.int .i64 (laterV now 10)])] = some (roC x) := by rw [hx0]; exact ro_build (o := ⟨t, nb, d, laterV now 10⟩) ⟨ht, trivial⟩
  refine mK hok rfl rfl (fun a' w' F' E' => o_call (F'.ev rfl) (F'.evs rfl) (Cal.mono (rafter_c _ _ (by first | assumption | omega | exact And.left (by assumption) | exact (by assumption : SlAt _ _ _ _ _).later (M1.later E').ext | exact TapeS.later (by assumption) (M1.later E').ext | exact M.heap (by repeat constructor) | decide) (by first | assumption | omega | exact And.left (by assumption) | exact (by assumption : SlAt _ _ _ _ _).later (M1.later E').ext | exact TapeS.later (by assumption) (M1.later E').ext | exact M.heap (by repeat constructor) | decide) (by first | assumption | omega | exact And.left (by assumption) | exact (by assumption : SlAt _ _ _ _ _).later (M1.later E').ext | exact TapeS.later (by assumption) (M1.later E').ext | exact M.heap (by repeat constructor) | decide) (by first | assumption | omega | exact And.left (by assumption) | exact (by assumption : SlAt _ _ _ _ _).later (M1.later E').ext | exact TapeS.later (by assumption) (M1.later E').ext | exact M.heap (by repeat constructor) | decide) _) fun _ _ hh => ⟨hh.2, hh.1⟩)) ?_
  refine mK hok rfl rfl (fun a' w' F' E' => o_build F' rfl (by assumption) ⟨Ext.refl _ _, rfl⟩) ?_
  refine mAl hok rfl rfl (Al.stays _ _) (fun w => Ext.alloc w _) (fun a' w' F' E' => run_al) ?_
  refine mDone rfl rfl ?_; clear F M; intro a w F hE2 hX hTT hDD hPP; have M := M1.later hE2; (try dsimp only at F); obtain ⟨b12, e_b12, g_b12, q_b12⟩ := hX 6 _ rfl; replace F := F.know (d := 12) e_b12; replace M := Mem.al (pre := []) M M1 q_b12 g_b12 (by intro p hp; cases hp); clear M1; clear hX; clear hE2; clear hok; clear hE; clear hTT; clear hDD; clear hPP; clear e_b12; clear g_b12; clear q_b12; (try dsimp only [ptrTo] at F); (try simp only [List.cons_append, List.nil_append] at M)
  refine stepN rfl F (o_storeA M (F.ev rfl) (F.ev rfl) (ro_len (by first | assumption | trivial | exact And.left (by assumption))) (ro_one _) (by repeat constructor) (put_all (by rw [(ro_len (by first | assumption | trivial | exact And.left (by assumption)))]; first | rfl | rw [(ro_len (by first | assumption | trivial | exact And.left (by assumption)))])) (by repeat constructor) ?_); clear F M; intro w M a F
  with_reducible refine l_nil (q_then (c_seq (c_region ?_)))
  refine sD F (o_assign (F.ev rfl) ?_); clear F a; intro a F
  with_reducible refine l_nil (q_then (c_seq (c_region ?_)))
  refine sD F (o_fieldAddr (F.ev rfl) ?_); clear F a; intro a F
  refine sD F (o_load1 M (F.ev rfl) (by repeat constructor) (by assumption) ?_); clear F a; intro a F
  refine sD F (o_eql (F.ev rfl) (F.ev rfl) ?_); clear F a; intro a F
  refine sD F (o_assign (F.ev rfl) ?_); clear F a; intro a F
  with_reducible refine l_nil (q_then (c_seq (c_seq (c_region ?_))))
  refine sD F (o_move (F.ev rfl) ?_); clear F a; intro a F
  refine sD F (o_lenSl (F.ev rfl) ?_); clear F a; intro a F
  refine sD F (o_move (F.ev rfl) ?_); clear F a; intro a F
  with_reducible refine l_nil (q_then (c_block ?_))
  have hpl := mergeG_len (fun y => cmpR y x) x (done := decide (d.met = 65535)) (l := l)
  have hpl2 : (mergeG (fun y => cmpR y x) x (decide (d.met = 65535)) l).length ≤ 513 := by split at hpl <;> omega
  rw [← putR_merge hasc] at hL
  clear hpl
  generalize hR : mergeG (fun y => cmpR y x) x (decide (d.met = 65535)) l = R at *
  have c2 : ∀ u ent w, R.length ≤ 512 → OwnS 53 39 u R.length (rosC R) ent → Mem [] W w ent → ∃ u' ent, Value.tuple [u, .int .i64 0].toArray = .tuple [u', .int .i64 (learnV l now t nb d).2].toArray ∧ OwnS 53 39 u' (learnV l now t nb d).1.length (rosC (learnV l now t nb d).1) ent ∧ Mem [] W w ent := by
    intro u ent w h h2 h3
    rw [if_neg (by omega)] at hL
    rw [hL]
    exact ⟨_, _, rfl, h2, h3⟩
  clear hx0 hb
  have g0 := ro_len hxx
  have g1 := ro_all hxx
  refine c_loop (fun m a w => ∃ (i : Nat) (u : Value) (dn : Bool) (out : List RouV) (es : List (Nat × Obj)), m = l.length - i ∧ i ≤ l.length ∧ OwnS 53 39 u out.length (rosC out) es ∧ out ++ mergeG (fun y => cmpR y x) x dn (l.drop i) = R ∧ Frm a 83 [] [(49, .int .i64 i), (48, .int .i64 l.length), (47, .slice q l.length cap), (13, u), (14, .bool dn), (12, .pointer (some ⟨b12, 0, none⟩))] ∧ Mem [] W w ((b12, .cells (roC x).toArray 53 (0, 0)) :: es)) l.length ⟨0, _, decide (d.met = 65535), [], [], rfl, by omega, OwnS.nil _ _, hR, F.only [49, 48, 47, 13, 14, 12] rfl, M.sub (by repeat (first | exact .refl _ | apply List.Sublist.cons_cons | apply List.Sublist.cons))⟩ ?_
  clear F M a w
  rintro m a w ⟨i, u, dn, out, es, hm', hi, hOs, hout, F, M⟩
  have hol : out.length ≤ 513 := by
    have := congrArg List.length hout
    rw [List.length_append] at this
    omega
  by_cases hlt : i < l.length
  · obtain ⟨b, o, cs, t', fz, rfl, hb, hs⟩ := hm (by omega)
    obtain ⟨y, hy0⟩ : ∃ y, y = l[i] := ⟨_, rfl⟩
    have hyi : IsRo y := by rw [hy0]; exact hx _ (List.getElem_mem hlt)
    have f1 : seg cs (o + (i : Int).toNat * 39) 39 = some (roC y) := by rw [hy0]; exact seg_el (ros_len hx) hs hlt (by omega)
    rw [← List.getElem_cons_drop hlt, ← hy0, mergeG_cons] at hout
    have f2 := ro_len hyi
    have f4 := ro_all hyi
    clear hy0
    refine c_seq (c_region ?_)
    refine sD F (o_lssT (F.ev rfl) (F.ev rfl) (by omega) ?_); clear F a; intro a F
    with_reducible refine l_nil (q_then (c_seq ?_))
    refine c_true F rfl rfl ?_
    with_reducible refine c_skip (q_then (c_seq (c_block (c_seq (c_region ?_)))))
    refine sD F (o_indexSl (F.ev rfl) (F.ev rfl) (by omega) (by omega) ?_); clear F a; intro a F
    refine sD F (o_loadWA M (F.ev rfl) (by assumption) (by assumption) ?_); clear F a; intro a F
    refine sD F (o_alloc M ?_); clear F M; intro b16 w M a F
    refine stepN rfl F (o_storeA M (F.ev rfl) (F.ev rfl) (ro_len (by first | assumption | trivial | exact And.left (by assumption))) (ro_one _) (by repeat constructor) (put_all (by rw [(ro_len (by first | assumption | trivial | exact And.left (by assumption)))]; first | rfl | rw [(ro_len (by first | assumption | trivial | exact And.left (by assumption)))])) (by repeat constructor) ?_); clear F M; intro w M a F
    with_reducible refine l_nil (q_then (c_seq (c_region ?_)))
    refine sD F (o_loadA M (F.ev rfl) (by repeat constructor) (by assumption) ?_); clear F a; intro a F
    refine sD F (o_loadA M (F.ev rfl) (by repeat constructor) (by assumption) ?_); clear F a; intro a F
    refine sD F (o_call (F.ev rfl) (F.evs rfl) (Cal.mono (reforder_c _ _ (by first | assumption | omega | exact And.left (by assumption) | exact (by assumption : SlAt _ _ _ _ _).later M.ext | exact TapeS.later (by assumption) M.ext | exact M.heap (by repeat constructor) | decide) (by first | assumption | omega | exact And.left (by assumption) | exact (by assumption : SlAt _ _ _ _ _).later M.ext | exact TapeS.later (by assumption) M.ext | exact M.heap (by repeat constructor) | decide) _) ?_)); clear F; clear a; rintro _ w ⟨rfl, hE⟩ a F; replace M := M.later hE; clear hE
    refine sD F (o_assign (F.ev rfl) ?_); clear F a; intro a F
    with_reducible refine l_nil (q_then (c_seq (c_seq (c_region ?_))))
    refine sD F (o_move (F.ev rfl) ?_); clear F a; intro a F
    refine sD F (o_geq (F.ev rfl) (F.ev rfl) ?_); clear F a; intro a F
    refine sD F (o_move (F.ev rfl) ?_); clear F a; intro a F
    refine b_split F 58 rfl (fun h1 => ?_) (fun h1 => ?_)
    · skip
      rw [h1] at F; replace h1 := of_decide_eq_true h1
      refine sG F (o_move (F.ev rfl) ?_); clear F a; intro a F
      refine sG F (o_not (F.ev rfl) ?_); clear F a; intro a F
      refine sD F (o_pickT (F.ev rfl) (F.ev rfl) ?_); clear F a; intro a F
      with_reducible refine l_nil (q_then ?_)
      refine c_if F rfl (fun h2 => ?_) (fun h2 => ?_)
      · skip
        rw [h2] at F; replace h2 := false_of_not h2; (try rw [h2] at F)
        refine c_seq (c_region ?_)
        refine sD F (o_move (F.ev rfl) ?_); clear F a; intro a F
        refine sD F (o_loadA M (F.ev rfl) (by repeat constructor) (by assumption) ?_); clear F a; intro a F
        refine sD F (o_buildSlice F M rfl rfl rfl (ro_build1 (by first | assumption | trivial | exact And.left (by assumption))) ?_); clear F M; intro bs64 w M a F
        refine sD F (o_append1 (enc := roC) (by assumption) M (by repeat (first | exact .here | apply TailAt.cons)) (F.ev rfl) (F.ev rfl) (SrcOf.cells' (M.heap .here) (sg_all (ro_len (by first | assumption | trivial | exact And.left (by assumption)))) (ro_one _)) (by first | omega | (simp; omega)) ?_); clear F M; intro v65 es65 w hO65 M a F; (try dsimp only at M)
        refine sD F (o_assign (F.ev rfl) ?_); clear F a; intro a F
        with_reducible refine l_nil (q_then (c_region ?_))
        refine sD F (o_assign (F.ev rfl) ?_); clear F a; intro a F
        with_reducible refine l_nil (q_then (c_seq (c_region ?_)))
        refine sD F (o_move (F.ev rfl) ?_); clear F a; intro a F
        refine sD F (o_neq (F.ev rfl) (F.ev rfl) ?_); clear F a; intro a F
        with_reducible refine l_nil (q_then ?_)
        refine c_if F rfl (fun h3 => ?_) (fun h3 => ?_)
        · skip
          rw [h3] at F; replace h3 := ne_of_bne h3
          refine c_region ?_
          refine sD F (o_move (F.ev rfl) ?_); clear F a; intro a F
          refine sD F (o_loadA M (F.ev rfl) (by repeat constructor) (by assumption) ?_); clear F a; intro a F
          refine sD F (o_buildSlice F M rfl rfl rfl (ro_build1 (by first | assumption | trivial | exact And.left (by assumption))) ?_); clear F M; intro bs70 w M a F
          refine sD F (o_append1 (enc := roC) (by assumption) M (by repeat (first | exact .here | apply TailAt.cons)) (F.ev rfl) (F.ev rfl) (SrcOf.cells' (M.heap .here) (sg_all (ro_len (by first | assumption | trivial | exact And.left (by assumption)))) (ro_one _)) (by first | omega | (simp; omega)) ?_); clear F M; intro v71 es71 w hO71 M a F; (try dsimp only at M)
          refine sD F (o_assign (F.ev rfl) ?_); clear F a; intro a F
          with_reducible refine l_nil (q_inB (q_then (c_region ?_)))
          refine sD F (o_add (F.ev rfl) (F.ev rfl) (w_i64 (by omega) (by omega)) ?_); clear F a; intro a F
          refine sD F (o_move (F.ev rfl) ?_); clear F a; intro a F
          with_reducible refine l_nil (q_then ?_)
          exact ⟨_, by omega, i + 1, _, _, _, _, rfl, by omega, by assumption, by rw [← hout]; clear hout hR hL c1 c2; simp [*], F.only [49, 48, 47, 13, 14, 12] rfl, M.sub (by repeat (first | exact .refl _ | apply List.Sublist.cons))⟩
        · skip
          rw [h3] at F; replace h3 := eq_of_bne_false h3
          with_reducible refine c_skip (q_inB (q_then (c_region ?_)))
          refine sD F (o_add (F.ev rfl) (F.ev rfl) (w_i64 (by omega) (by omega)) ?_); clear F a; intro a F
          refine sD F (o_move (F.ev rfl) ?_); clear F a; intro a F
          with_reducible refine l_nil (q_then ?_)
          exact ⟨_, by omega, i + 1, _, _, _, _, rfl, by omega, by assumption, by rw [← hout]; clear hout hR hL c1 c2; simp [*], F.only [49, 48, 47, 13, 14, 12] rfl, M.sub (by repeat (first | exact .refl _ | apply List.Sublist.cons))⟩
      · skip
        rw [h2] at F; replace h2 := true_of_not h2; (try rw [h2] at F)
        with_reducible refine c_skip (q_then (c_seq (c_region ?_)))
        refine sD F (o_move (F.ev rfl) ?_); clear F a; intro a F
        refine sD F (o_neq (F.ev rfl) (F.ev rfl) ?_); clear F a; intro a F
        with_reducible refine l_nil (q_then ?_)
        refine c_if F rfl (fun h3 => ?_) (fun h3 => ?_)
        · skip
          rw [h3] at F; replace h3 := ne_of_bne h3
          refine c_region ?_
          refine sD F (o_move (F.ev rfl) ?_); clear F a; intro a F
          refine sD F (o_loadA M (F.ev rfl) (by repeat constructor) (by assumption) ?_); clear F a; intro a F
          refine sD F (o_buildSlice F M rfl rfl rfl (ro_build1 (by first | assumption | trivial | exact And.left (by assumption))) ?_); clear F M; intro bs70 w M a F
          refine sD F (o_append1 (enc := roC) (by assumption) M (by repeat (first | exact .here | apply TailAt.cons)) (F.ev rfl) (F.ev rfl) (SrcOf.cells' (M.heap .here) (sg_all (ro_len (by first | assumption | trivial | exact And.left (by assumption)))) (ro_one _)) (by first | omega | (simp; omega)) ?_); clear F M; intro v71 es71 w hO71 M a F; (try dsimp only at M)
          refine sD F (o_assign (F.ev rfl) ?_); clear F a; intro a F
          with_reducible refine l_nil (q_inB (q_then (c_region ?_)))
          refine sD F (o_add (F.ev rfl) (F.ev rfl) (w_i64 (by omega) (by omega)) ?_); clear F a; intro a F
          refine sD F (o_move (F.ev rfl) ?_); clear F a; intro a F
          with_reducible refine l_nil (q_then ?_)
          exact ⟨_, by omega, i + 1, _, _, _, _, rfl, by omega, by assumption, by rw [← hout]; clear hout hR hL c1 c2; simp [*], F.only [49, 48, 47, 13, 14, 12] rfl, M.sub (by repeat (first | exact .refl _ | apply List.Sublist.cons))⟩
        · skip
          rw [h3] at F; replace h3 := eq_of_bne_false h3
          with_reducible refine c_skip (q_inB (q_then (c_region ?_)))
          refine sD F (o_add (F.ev rfl) (F.ev rfl) (w_i64 (by omega) (by omega)) ?_); clear F a; intro a F
          refine sD F (o_move (F.ev rfl) ?_); clear F a; intro a F
          with_reducible refine l_nil (q_then ?_)
          exact ⟨_, by omega, i + 1, _, _, _, _, rfl, by omega, by assumption, by rw [← hout]; clear hout hR hL c1 c2; simp [*], F.only [49, 48, 47, 13, 14, 12] rfl, M.sub (by repeat (first | exact .refl _ | apply List.Sublist.cons))⟩
    · skip
      rw [h1] at F; replace h1 := of_decide_eq_false h1
      refine sO F ?_; clear F a; intro a F
      refine sO F ?_; clear F a; intro a F
      refine sD F (o_pickF (F.ev rfl) (F.ev rfl) ?_); clear F a; intro a F
      with_reducible refine l_nil (q_then ?_)
      refine c_false F rfl rfl ?_
      with_reducible refine c_skip (q_then (c_seq (c_region ?_)))
      refine sD F (o_move (F.ev rfl) ?_); clear F a; intro a F
      refine sD F (o_neqT (F.ev rfl) (F.ev rfl) (by omega) ?_); clear F a; intro a F
      with_reducible refine l_nil (q_then ?_)
      refine c_true F rfl rfl ?_
      refine c_region ?_
      refine sD F (o_move (F.ev rfl) ?_); clear F a; intro a F
      refine sD F (o_loadA M (F.ev rfl) (by repeat constructor) (by assumption) ?_); clear F a; intro a F
      refine sD F (o_buildSlice F M rfl rfl rfl (ro_build1 (by first | assumption | trivial | exact And.left (by assumption))) ?_); clear F M; intro bs70 w M a F
      refine sD F (o_append1 (enc := roC) (by assumption) M (by repeat (first | exact .here | apply TailAt.cons)) (F.ev rfl) (F.ev rfl) (SrcOf.cells' (M.heap .here) (sg_all (ro_len (by first | assumption | trivial | exact And.left (by assumption)))) (ro_one _)) (by first | omega | (simp; omega)) ?_); clear F M; intro v71 es71 w hO71 M a F; (try dsimp only at M)
      refine sD F (o_assign (F.ev rfl) ?_); clear F a; intro a F
      with_reducible refine l_nil (q_inB (q_then (c_region ?_)))
      refine sD F (o_add (F.ev rfl) (F.ev rfl) (w_i64 (by omega) (by omega)) ?_); clear F a; intro a F
      refine sD F (o_move (F.ev rfl) ?_); clear F a; intro a F
      with_reducible refine l_nil (q_then ?_)
      exact ⟨_, by omega, i + 1, _, _, _, _, rfl, by omega, by assumption, by rw [← hout]; clear hout hR hL c1 c2; have hc : cmpR y x ≠ 0 := (by omega); simp [*], F.only [49, 48, 47, 13, 14, 12] rfl, M.sub (by repeat (first | exact .refl _ | apply List.Sublist.cons))⟩
  · obtain rfl : i = l.length := by omega
    rw [List.drop_length, mergeG_nil] at hout
    cases dn
    · have hout : out ++ [x] = R := hout
      subst hout
      refine c_seq (c_region ?_)
      refine sD F (o_lssF (F.ev rfl) (F.ev rfl) (by omega) ?_); clear F a; intro a F
      with_reducible refine l_nil (q_then (c_seq ?_))
      refine c_false F rfl rfl ?_
      with_reducible refine c_exit (q_thenX (q_thenX (q_inBX (q_then (c_seq (c_seq (c_region ?_)))))))
      refine sD F (o_move (F.ev rfl) ?_); clear F a; intro a F
      refine sD F (o_not (F.ev rfl) ?_); clear F a; intro a F
      with_reducible refine l_nil (q_then ?_)
      refine c_true F rfl rfl ?_
      refine c_region ?_
      refine sD F (o_move (F.ev rfl) ?_); clear F a; intro a F
      refine sD F (o_loadA M (F.ev rfl) (by repeat constructor) (by assumption) ?_); clear F a; intro a F
      refine sD F (o_buildSlice F M rfl rfl rfl (ro_build1 (by first | assumption | trivial | exact And.left (by assumption))) ?_); clear F M; intro bs77 w M a F
      refine sD F (o_append1 (enc := roC) (by assumption) M (by repeat (first | exact .here | apply TailAt.cons)) (F.ev rfl) (F.ev rfl) (SrcOf.cells' (M.heap .here) (sg_all (ro_len (by first | assumption | trivial | exact And.left (by assumption)))) (ro_one _)) (by first | omega | (simp; omega)) ?_); clear F M; intro v78 es78 w hO78 M a F; (try dsimp only at M)
      refine sD F (o_assign (F.ev rfl) ?_); clear F a; intro a F
      with_reducible refine l_nil (q_then (c_seq (c_seq (c_region ?_))))
      refine sD F (o_move (F.ev rfl) ?_); clear F a; intro a F
      refine sD F (o_lenOwn (F.ev rfl) (by assumption) ?_); clear F a; intro a F
      refine sD F (o_gtr (F.ev rfl) (F.ev rfl) ?_); clear F a; intro a F
      with_reducible refine l_nil (q_then ?_)
      refine c_if F rfl (fun h1 => ?_) (fun h1 => ?_)
      · skip
        rw [h1] at F; replace h1 := of_decide_eq_true h1
        refine c_seq (c_region ?_)
        refine sD F (o_assign (F.ev rfl) ?_); clear F a; intro a F
        refine sD F (o_assign (F.ev rfl) ?_); clear F a; intro a F
        with_reducible refine l_nil (q_then (c_ret (q_thenR ?_)))
        refine p_ret F rfl (.cons (.tmp (F.ev rfl)) (.cons (.tmp (F.ev rfl)) .nil)) ?_; (try dsimp only [oneOr])
        exact c1 10 _ (by rw [hL, if_pos (by omega)]) rfl _ M.ext
      · skip
        rw [h1] at F; replace h1 := of_decide_eq_false h1
        with_reducible refine c_skip (q_then (c_seq (c_region ?_)))
        refine sD F (o_move (F.ev rfl) ?_); clear F a; intro a F
        refine sD F (o_assign (F.ev rfl) ?_); clear F a; intro a F
        refine sD F (o_assign (F.ev rfl) ?_); clear F a; intro a F
        with_reducible refine l_nil (q_then (c_ret ?_))
        refine p_ret F rfl (.cons (.tmp (F.ev rfl)) (.cons (.tmp (F.ev rfl)) .nil)) ?_; (try dsimp only [oneOr])
        exact c2 _ _ _ (by omega) (by assumption) (M.sub (by repeat (first | exact .refl _ | apply List.Sublist.cons)))
    · have hout : out ++ [] = R := hout
      rw [List.append_nil] at hout
      subst hout
      refine c_seq (c_region ?_)
      refine sD F (o_lssF (F.ev rfl) (F.ev rfl) (by omega) ?_); clear F a; intro a F
      with_reducible refine l_nil (q_then (c_seq ?_))
      refine c_false F rfl rfl ?_
      with_reducible refine c_exit (q_thenX (q_thenX (q_inBX (q_then (c_seq (c_seq (c_region ?_)))))))
      refine sD F (o_move (F.ev rfl) ?_); clear F a; intro a F
      refine sD F (o_not (F.ev rfl) ?_); clear F a; intro a F
      with_reducible refine l_nil (q_then ?_)
      refine c_false F rfl rfl ?_
      with_reducible refine c_skip (q_then (c_seq (c_seq (c_region ?_))))
      refine sD F (o_move (F.ev rfl) ?_); clear F a; intro a F
      refine sD F (o_lenOwn (F.ev rfl) (by assumption) ?_); clear F a; intro a F
      refine sD F (o_gtr (F.ev rfl) (F.ev rfl) ?_); clear F a; intro a F
      with_reducible refine l_nil (q_then ?_)
      refine c_if F rfl (fun h1 => ?_) (fun h1 => ?_)
      · skip
        rw [h1] at F; replace h1 := of_decide_eq_true h1
        refine c_seq (c_region ?_)
        refine sD F (o_assign (F.ev rfl) ?_); clear F a; intro a F
        refine sD F (o_assign (F.ev rfl) ?_); clear F a; intro a F
        with_reducible refine l_nil (q_then (c_ret (q_thenR ?_)))
        refine p_ret F rfl (.cons (.tmp (F.ev rfl)) (.cons (.tmp (F.ev rfl)) .nil)) ?_; (try dsimp only [oneOr])
        exact c1 10 _ (by rw [hL, if_pos (by omega)]) rfl _ M.ext
      · skip
        rw [h1] at F; replace h1 := of_decide_eq_false h1
        with_reducible refine c_skip (q_then (c_seq (c_region ?_)))
        refine sD F (o_move (F.ev rfl) ?_); clear F a; intro a F
        refine sD F (o_assign (F.ev rfl) ?_); clear F a; intro a F
        refine sD F (o_assign (F.ev rfl) ?_); clear F a; intro a F
        with_reducible refine l_nil (q_then (c_ret ?_))
        refine p_ret F rfl (.cons (.tmp (F.ev rfl)) (.cons (.tmp (F.ev rfl)) .nil)) ?_; (try dsimp only [oneOr])
        exact c2 _ _ _ (by omega) (by assumption) (M.sub (by repeat (first | exact .refl _ | apply List.Sublist.cons)))
end Go.Proofs.YtilgoepokaaleaaGreat
/-! ZS -/
namespace Go.Proofs.YtilgoepokaaleaaGreat
set_option linter.unusedVariables false
set_option linter.unusedSimpArgs false
open Go.RowKit
attribute [local irreducible] OpTo wpListIn Code.wpIn MW Cal
theorem time_bd {t : Int} (h : isTime t = true) : 0 ≤ t ∧ t ≤ 1099511627776 := by
  simpa [isTime, Bool.and_eq_true, decide_eq_true_eq] using h
theorem later_time {a d : Int} (h : isTime a = true) (hd : 0 ≤ d) : isTime (laterV a d) = true := by
  have := time_bd h
  unfold laterV isTime
  simp only [Bool.and_eq_true, decide_eq_true_eq]
  split <;> omega
theorem learn_valid {l : List RouV} {now : Int} {t : DstV} {nb : Int} {d : DisV} (h : (learnV l now t nb d).2 = 0) : validRs (learnV l now t nb d).1 = true := by
  unfold learnV at h ⊢
  split at h
  · cases h
  · rename_i h1
    rw [if_neg h1]
    simp only [Bool.or_eq_true, Bool.not_eq_true', decide_eq_true_eq, not_or, Bool.not_eq_false] at h1
    obtain ⟨⟨⟨h1, h2⟩, h3⟩, h4⟩ := h1
    split at h
    · cases h
    · rename_i h5
      rw [if_neg h5]
      simp only [Bool.not_eq_true', Bool.not_eq_false] at h5
      split at h
      · cases h
      · rename_i h6
        rw [if_neg h6]
        obtain ⟨g1, g2, g3⟩ := validRs_iff.1 h1
        refine validRs_iff.2 ⟨by dsimp only; omega, fun a ha => ?_, asc_putR g3⟩
        rcases mem_putR.1 ha with ⟨k1, rfl⟩ | ⟨k1, _⟩
        · unfold rou1 finD
          dsimp only
          rw [h2, h3, k1, decide_eq_false h4, later_time h5 (by omega)]
          rfl
        · exact g2 a k1
theorem learn_is {l : List RouV} {now : Int} {t : DstV} {nb : Int} {d : DisV} (hx : ∀ x ∈ l, IsRo x) (ht : IsDv t) : ∀ x ∈ (learnV l now t nb d).1, IsRo x := by
  intro x h
  unfold learnV at h
  split at h
  · cases h
  · split at h
    · cases h
    · split at h
      · cases h
      · rcases mem_putR.1 h with ⟨_, rfl⟩ | ⟨k1, _⟩
        · exact ⟨ht, trivial⟩
        · exact hx x k1
theorem learn_len {l : List RouV} {now : Int} {t : DstV} {nb : Int} {d : DisV} : (learnV l now t nb d).1.length ≤ l.length + 1 := by
  unfold learnV
  split
  · simp
  · rename_i h1
    split
    · simp
    · split
      · simp
      · simp only [Bool.or_eq_true, Bool.not_eq_true', decide_eq_true_eq, not_or, Bool.not_eq_false] at h1
        dsimp only
        rw [← putR_merge (validRs_iff.1 h1.1.1.1).2.2]
        have := mergeG_len (fun y => cmpR y ⟨t, nb, d, laterV now 10⟩) ⟨t, nb, d, laterV now 10⟩ (done := decide (d.met = inf)) (l := l)
        split at this <;> omega
theorem OwnS.slJ {e : TypeId} {sz n n0 bt : Nat} {v : Value} {cs : List Value} {ent : List (Nat × Obj)} {wb w : World} {o : Obj} (h : OwnS e sz v n cs ent) (M : Mem [bt] wb w (ent ++ [(bt, o)])) (hle : n0 ≤ wb.heap.size) : SlN n0 w sz v n cs := by
  have hnd := (M.perm (l' := (bt, o) :: ent) List.perm_append_comm).nd
  exact (h.slN M (fun q hq => by simp [hq]) (nd_not hnd (fun q hq => hq))).mono hle
theorem wtimeE_c {bt : Nat} {p : Option Addr} {len cap k : Nat} {xs : List Int} (base : Int) (h0 : 0 ≤ base) (h1 : base ≤ 1099511627776) (W : World) (hT : TapeS W bt p len xs) (hb : W.heap[bt]? = some (tobj p len cap k)) :
    Cal Tryz.prog 14 [.pointer (some ⟨bt, 0, none⟩), .int .i64 base].toArray W fun v w' => ∃ x k', v = .int .i64 x ∧ isTime x = true ∧ Mem [bt] W w' [(bt, tobj p len cap k')] :=
  Cal.mono (wtime_c base h0 h1 W hT hb) fun _ _ h => ⟨_, _, h.1, wt_time h0 h1, h.2⟩
structure RouO (n0 : Nat) (W : World) (v : Value) (l : List RouV) : Prop where
  at_ : SlN n0 W 39 v l.length (rosC l)
  is : ∀ x ∈ l, IsRo x
  val : validRs l = true
structure SrcO (n0 : Nat) (W : World) (v : Value) (l : List SrcV) : Prop where
  at_ : SlN n0 W 38 v l.length (srsC l)
  is : ∀ x ∈ l, IsSr x
  val : validSs l = true
structure OptO (n0 : Nat) (W : World) (v : Value) (l : List OptV) : Prop where
  at_ : SlN n0 W 2 v l.length (opsC l)
  val : validOs l = true
theorem RouO.laterB {n0 bt : Nat} {W w : World} {v : Value} {l : List RouV} (h : RouO n0 W v l) (hb : bt < n0) (E : Ext [bt] W w) : RouO n0 w v l := ⟨h.at_.laterB hb E, h.is, h.val⟩
theorem SrcO.laterB {n0 bt : Nat} {W w : World} {v : Value} {l : List SrcV} (h : SrcO n0 W v l) (hb : bt < n0) (E : Ext [bt] W w) : SrcO n0 w v l := ⟨h.at_.laterB hb E, h.is, h.val⟩
theorem OptO.laterB {n0 bt : Nat} {W w : World} {v : Value} {l : List OptV} (h : OptO n0 W v l) (hb : bt < n0) (E : Ext [bt] W w) : OptO n0 w v l := ⟨h.at_.laterB hb E, h.val⟩
set_option maxHeartbeats 4000000 in
theorem routesW_c {bt : Nat} {p : Option Addr} {len cap k : Nat} {xs : List Int} (now : Int) (h0 : 0 ≤ now) (h1 : now ≤ 1099511627776) (W : World) (hT : TapeS W bt p len xs) (hb : W.heap[bt]? = some (tobj p len cap k)) :
    Cal Tryz.prog 11 [.pointer (some ⟨bt, 0, none⟩), .int .i64 now].toArray W fun r w' => ∃ l k', RouO W.heap.size w' r l ∧ l.length ≤ 9 ∧ Mem [bt] W w' [(bt, tobj p len cap k')] := by
  have hbt : bt < W.heap.size := (Array.getElem?_eq_some_iff.1 hb).1
  refine fn_ofM (n := 33) [bt] Tryz.func11 rfl rfl rfl ?_
  intro a w F M hwW
  replace M := M.came hwW hb (by simp) (by simp)
  refine c_seq (c_region ?_)
  refine sD F (o_assign (F.ev rfl) ?_); clear F a; intro a F
  with_reducible refine l_nil (q_then (c_seq (c_region ?_)))
  refine sD F (o_assign (F.ev rfl) ?_); clear F a; intro a F
  with_reducible refine l_nil (q_then (c_seq (c_seq (c_region ?_))))
  refine sD F (o_move (F.ev rfl) ?_); clear F a; intro a F
  refine sD F (o_call (F.ev rfl) (F.evs rfl) (Cal.mono (nextE_c _ (by first | assumption | omega | exact And.left (by assumption) | exact (by assumption : SlAt _ _ _ _ _).later M.ext | exact TapeS.later (by assumption) M.ext | exact (SlN.laterB (by assumption) (by omega) M.ext).1 | exact M.heap (by repeat constructor) | decide) (by first | assumption | omega | exact And.left (by assumption) | exact (by assumption : SlAt _ _ _ _ _).later M.ext | exact TapeS.later (by assumption) M.ext | exact (SlN.laterB (by assumption) (by omega) M.ext).1 | exact M.heap (by repeat constructor) | decide) _ (by first | assumption | omega | exact And.left (by assumption) | exact (by assumption : SlAt _ _ _ _ _).later M.ext | exact TapeS.later (by assumption) M.ext | exact (SlN.laterB (by assumption) (by omega) M.ext).1 | exact M.heap (by repeat constructor) | decide) (by first | assumption | omega | exact And.left (by assumption) | exact (by assumption : SlAt _ _ _ _ _).later M.ext | exact TapeS.later (by assumption) M.ext | exact (SlN.laterB (by assumption) (by omega) M.ext).1 | exact M.heap (by repeat constructor) | decide)) ?_)); clear F; clear a; have M0 := M; have zb10 := M0.ext.size; clear M; rintro _ w ⟨x10, k'10, rfl, p10_1, N⟩ a F; replace M := M0.turn1 N (by repeat constructor); clear M0 N
  refine sD F (o_assign (F.ev rfl) ?_); clear F a; intro a F
  with_reducible refine l_nil (q_then (c_block ?_))
  obtain ⟨c0, rfl⟩ := Int.eq_ofNat_of_zero_le p10_1.1
  refine c_loop (fun m a w => ∃ (c : Nat) (x : Int) (l : List RouV) (v : Value) (k : Nat), m = c ∧ x = c ∧ RouO W.heap.size w v l ∧ l.length + c ≤ 9 ∧ Frm a 33 [] [(6, .int .i64 x), (5, v), (0, .pointer (some ⟨bt, 0, none⟩)), (1, .int .i64 now)] ∧ Mem [bt] W w [(bt, tobj p len cap k)]) c0 ⟨c0, _, [], _, _, rfl, rfl, ⟨SlN.nil _ _ _, by simp, rfl⟩, by simp; omega, F.only [6, 5, 0, 1] rfl, M⟩ ?_
  clear F M a w
  rintro m a w ⟨c, x, l, v, k, hm, hxc, hO, hc9, F, M⟩
  by_cases hlt : 0 < c
  · have E0 := M.ext
    obtain ⟨wb, hwb, M⟩ : ∃ wb, wb = w ∧ Mem [bt] wb w [(bt, tobj p len cap k)] := ⟨w, rfl, M.re (by simp)⟩
    rw [← hwb] at E0 hO
    clear hwb
    have hTw := hT.later E0
    have hOa := hO.at_
    have hOi := hO.is
    with_reducible refine c_seq (c_seq (c_region ?_))
    refine sD F (o_move (F.ev rfl) ?_); clear F a; intro a F
    refine sD F (o_gtrT (F.ev rfl) (F.ev rfl) (by omega) ?_); clear F a; intro a F
    with_reducible refine l_nil (q_then ?_)
    refine c_true F rfl rfl ?_
    with_reducible refine c_skip (q_then (c_seq (c_block (c_seq (c_region ?_)))))
    refine sD F (o_move (F.ev rfl) ?_); clear F a; intro a F
    refine sD F (o_move (F.ev rfl) ?_); clear F a; intro a F
    refine sD F (o_move (F.ev rfl) ?_); clear F a; intro a F
    refine sD F (o_call (F.ev rfl) (F.evs rfl) (Cal.mono (wtimeE_c _ (by first | assumption | omega | exact And.left (by assumption) | exact (by assumption : SlAt _ _ _ _ _).later M.ext | exact TapeS.later (by assumption) M.ext | exact (SlN.laterB (by assumption) (by omega) M.ext).1 | exact M.heap (by repeat constructor) | decide) (by first | assumption | omega | exact And.left (by assumption) | exact (by assumption : SlAt _ _ _ _ _).later M.ext | exact TapeS.later (by assumption) M.ext | exact (SlN.laterB (by assumption) (by omega) M.ext).1 | exact M.heap (by repeat constructor) | decide) _ (by first | assumption | omega | exact And.left (by assumption) | exact (by assumption : SlAt _ _ _ _ _).later M.ext | exact TapeS.later (by assumption) M.ext | exact (SlN.laterB (by assumption) (by omega) M.ext).1 | exact M.heap (by repeat constructor) | decide) (by first | assumption | omega | exact And.left (by assumption) | exact (by assumption : SlAt _ _ _ _ _).later M.ext | exact TapeS.later (by assumption) M.ext | exact (SlN.laterB (by assumption) (by omega) M.ext).1 | exact M.heap (by repeat constructor) | decide)) ?_)); clear F; clear a; have M0 := M; have zb19 := M0.ext.size; clear M; rintro _ w ⟨x19, k'19, rfl, p19_1, N⟩ a F; replace M := M0.turn1 N (by repeat constructor); clear M0 N
    refine sD F (o_move (F.ev rfl) ?_); clear F a; intro a F
    refine sD F (o_call (F.ev rfl) (F.evs rfl) (Cal.mono (toE_c _ (by first | assumption | omega | exact And.left (by assumption) | exact (by assumption : SlAt _ _ _ _ _).later M.ext | exact TapeS.later (by assumption) M.ext | exact (SlN.laterB (by assumption) (by omega) M.ext).1 | exact M.heap (by repeat constructor) | decide) (by first | assumption | omega | exact And.left (by assumption) | exact (by assumption : SlAt _ _ _ _ _).later M.ext | exact TapeS.later (by assumption) M.ext | exact (SlN.laterB (by assumption) (by omega) M.ext).1 | exact M.heap (by repeat constructor) | decide)) ?_)); clear F; clear a; have M0 := M; have zb21 := M0.ext.size; clear M; rintro _ w ⟨x21, k'21, rfl, p21_1, p21_2, N⟩ a F; replace M := M0.turn1 N (by repeat constructor); clear M0 N
    refine sD F (o_move (F.ev rfl) ?_); clear F a; intro a F
    refine sD F (o_call (F.ev rfl) (F.evs rfl) (Cal.mono (eui_c _ (by first | assumption | omega | exact And.left (by assumption) | exact (by assumption : SlAt _ _ _ _ _).later M.ext | exact TapeS.later (by assumption) M.ext | exact (SlN.laterB (by assumption) (by omega) M.ext).1 | exact M.heap (by repeat constructor) | decide) (by first | assumption | omega | exact And.left (by assumption) | exact (by assumption : SlAt _ _ _ _ _).later M.ext | exact TapeS.later (by assumption) M.ext | exact (SlN.laterB (by assumption) (by omega) M.ext).1 | exact M.heap (by repeat constructor) | decide)) ?_)); clear F; clear a; have M0 := M; have zb23 := M0.ext.size; clear M; rintro _ w ⟨x23, k'23, rfl, p23_1, N⟩ a F; replace M := M0.turn1 N (by repeat constructor); clear M0 N
    refine sD F (o_move (F.ev rfl) ?_); clear F a; intro a F
    refine sD F (o_call (F.ev rfl) (F.evs rfl) (Cal.mono (distE_c _ (by first | assumption | omega | exact And.left (by assumption) | exact (by assumption : SlAt _ _ _ _ _).later M.ext | exact TapeS.later (by assumption) M.ext | exact (SlN.laterB (by assumption) (by omega) M.ext).1 | exact M.heap (by repeat constructor) | decide) (by first | assumption | omega | exact And.left (by assumption) | exact (by assumption : SlAt _ _ _ _ _).later M.ext | exact TapeS.later (by assumption) M.ext | exact (SlN.laterB (by assumption) (by omega) M.ext).1 | exact M.heap (by repeat constructor) | decide)) ?_)); clear F; clear a; have M0 := M; have zb25 := M0.ext.size; clear M; rintro _ w ⟨x25, k'25, rfl, p25_1, N⟩ a F; replace M := M0.turn1 N (by repeat constructor); clear M0 N
    refine sD F (o_call (F.ev rfl) (F.evs rfl) (Cal.mono (rlearn_c _ (by first | assumption | omega | exact And.left (by assumption) | exact (by assumption : SlAt _ _ _ _ _).later M.ext | exact TapeS.later (by assumption) M.ext | exact (SlN.laterB (by assumption) (by omega) M.ext).1 | exact M.heap (by repeat constructor) | decide) _ _ _ (by first | assumption | omega | exact And.left (by assumption) | exact (by assumption : SlAt _ _ _ _ _).later M.ext | exact TapeS.later (by assumption) M.ext | exact (SlN.laterB (by assumption) (by omega) M.ext).1 | exact M.heap (by repeat constructor) | decide) _ _ _ (by first | assumption | omega | exact And.left (by assumption) | exact (by assumption : SlAt _ _ _ _ _).later M.ext | exact TapeS.later (by assumption) M.ext | exact (SlN.laterB (by assumption) (by omega) M.ext).1 | exact M.heap (by repeat constructor) | decide)) ?_)); clear F; clear a; rintro _ w ⟨u26, ent26, rfl, p26_1, N⟩ a F; replace M := M.joins N; clear N
    refine sD F (o_move (F.ev rfl) ?_); clear F a; intro a F
    refine sD F (o_extract (F.ev rfl) rfl ?_); clear F a; intro a F
    refine sD F (o_extract (F.ev rfl) rfl ?_); clear F a; intro a F
    refine sD F (o_assign (F.ev rfl) ?_); clear F a; intro a F
    refine sD F (o_assign (F.ev rfl) ?_); clear F a; intro a F
    with_reducible refine l_nil (q_then (c_seq (c_region ?_)))
    refine sD F (o_move (F.ev rfl) ?_); clear F a; intro a F
    refine sD F (o_eql (F.ev rfl) (F.ev rfl) ?_); clear F a; intro a F
    with_reducible refine l_nil (q_then ?_)
    refine c_if F rfl (fun h1 => ?_) (fun h1 => ?_)
    · skip
      rw [h1] at F; replace h1 := of_decide_eq_true h1
      refine c_region ?_
      refine sD F (o_move (F.ev rfl) ?_); clear F a; intro a F
      refine sD F (o_assign (F.ev rfl) ?_); clear F a; intro a F
      with_reducible refine l_nil (q_inB (q_then (c_region ?_)))
      refine sD F (o_move (F.ev rfl) ?_); clear F a; intro a F
      refine sD F (o_sub (F.ev rfl) (F.ev rfl) (w_i64 (by omega) (by omega)) ?_); clear F a; intro a F
      refine sD F (o_assign (F.ev rfl) ?_); clear F a; intro a F
      with_reducible refine l_nil (q_then ?_)
      exact ⟨c - 1, by omega, c - 1, _, _, _, _, rfl, by omega, ⟨OwnS.slJ (by assumption) M E0.size, learn_is hOi (by assumption), learn_valid (by assumption)⟩, Nat.le_trans (Nat.add_le_add_right learn_len _) (by omega), F.only [6, 5, 0, 1] rfl, (M.sub (List.sublist_append_right _ _)).un E0⟩
    · skip
      rw [h1] at F; replace h1 := of_decide_eq_false h1
      with_reducible refine c_skip (q_inB (q_then (c_region ?_)))
      refine sD F (o_move (F.ev rfl) ?_); clear F a; intro a F
      refine sD F (o_sub (F.ev rfl) (F.ev rfl) (w_i64 (by omega) (by omega)) ?_); clear F a; intro a F
      refine sD F (o_assign (F.ev rfl) ?_); clear F a; intro a F
      with_reducible refine l_nil (q_then ?_)
      exact ⟨c - 1, by omega, c - 1, _, _, _, _, rfl, by omega, hO.laterB hbt M.ext, by omega, F.only [6, 5, 0, 1] rfl, (M.sub (List.sublist_append_right _ _)).un E0⟩
  · refine c_seq ?_
    refine c_seq (c_region ?_)
    refine sD F (o_move (F.ev rfl) ?_); clear F a; intro a F
    refine sD F (o_gtrF (F.ev rfl) (F.ev rfl) (by omega) ?_); clear F a; intro a F
    with_reducible refine l_nil (q_then ?_)
    refine c_false F rfl rfl ?_
    with_reducible refine c_exit (q_thenX (q_thenX (q_inBX (q_then (c_seq (c_region ?_))))))
    refine sD F (o_move (F.ev rfl) ?_); clear F a; intro a F
    refine sD F (o_assign (F.ev rfl) ?_); clear F a; intro a F
    with_reducible refine l_nil (q_then (c_ret ?_))
    refine p_ret F rfl (.cons (.tmp (F.ev rfl)) .nil) ?_; (try dsimp only [oneOr])
    exact ⟨_, _, hO, by omega, M⟩
end Go.Proofs.YtilgoepokaaleaaGreat
/-! ZT -/
namespace Go.Proofs.YtilgoepokaaleaaGreat
set_option linter.unusedVariables false
set_option linter.unusedSimpArgs false
open Go.RowKit
attribute [local irreducible] OpTo wpListIn Code.wpIn MW Cal
structure OptI (out : List OptV) (i : Nat) : Prop where
  len : out.length < i
  ok : ∀ o ∈ out, opt1 o = true ∧ o.nb < i
  asc : AscC cmpO out
theorem OptI.skip {out : List OptV} {i : Nat} (h : OptI out i) : OptI out (i + 1) := ⟨by have := h.len; omega, fun o ho => ⟨(h.ok o ho).1, by have := (h.ok o ho).2; omega⟩, h.asc⟩
theorem OptI.val {out : List OptV} {i : Nat} (h : OptI out i) (hi : i ≤ 6) : validOs out = true := validOs_iff.2 ⟨by have := h.len; omega, fun a ha => (h.ok a ha).1, h.asc⟩
end Go.Proofs.YtilgoepokaaleaaGreat
/-! ZW -/
namespace Go.Proofs.YtilgoepokaaleaaGreat
set_option linter.unusedVariables false
set_option linter.unusedSimpArgs false
open Go.RowKit
attribute [local irreducible] OpTo wpListIn Code.wpIn MW Cal
theorem InsR.laterB {n0 bt : Nat} {W w : World} {v : Value} {l : List InsV} (h : InsR n0 W v l) (hb : bt < n0) (E : Ext [bt] W w) : InsR n0 w v l := ⟨h.at_.laterB hb E, h.ok, h.asc⟩
end Go.Proofs.YtilgoepokaaleaaGreat
/-! Lib2 -/
namespace Go.Proofs.YtilgoepokaaleaaGreat
set_option linter.unusedVariables false
set_option linter.unusedSimpArgs false
open Go.RowKit
def isSlB (P : Program) (t : TypeId) : Bool := match P.underlying t with | some (.slice _) => true | _ => false
/-- what stays the same in a walk -/
structure Cx where
  P : Program
  r : Option Nat
  n : Nat
  df : List Deferred
  S : List Nat
  W : World
  flds : List (Nat × Nat × Nat)
  slcs : List Nat
  hf : (flds.all fun q => fieldAtB P q.1 q.2.1 q.2.2) = true
  hs : (slcs.all fun t => isSlB P t) = true
inductive KF
  | seq (y : Code)
  | blk (id : Nat)
inductive St
  | code (x : Code)
  | ops (all : Array Oper) (rest : List Oper)
  | ext (e : Exit)
def KQ (c : Cx) (Q : Exit → Act → World → Prop) : List KF → Exit → Act → World → Prop
  | [] => Q
  | .seq y :: ks => Exit.then (Wp c.r c.P y (KQ c Q ks)) (KQ c Q ks)
  | .blk id :: ks => Exit.inBlock id (KQ c Q ks)
def GS (c : Cx) (Q : Exit → Act → World → Prop) (ks : List KF) : St → Act → World → Prop
  | .code x => Wp c.r c.P x (KQ c Q ks)
  | .ops all rest => wpListIn (FW c.r) 0 c.P all (KQ c Q ks) rest
  | .ext e => KQ c Q ks e
/-- the memory's row: blocks, each alone, and lists of blocks that a slice owns -/
abbrev Row := List (List (Nat × Obj))
def G (c : Cx) (Q : Exit → Act → World → Prop) (ks : List KF) (st : St) (fr : List (Nat × Value)) (l : Row) : Prop :=
  ∀ a w, Frm a c.n c.df fr → Mem c.S c.W w l.flatten → GS c Q ks st a w
/-! what is run at once -/
def fldOf : List (Nat × Nat × Nat) → Nat → Nat → Option Nat
  | [], _, _ => none
  | (s, i, o) :: r, t, j => match Nat.beq s t && Nat.beq i j with
    | true => some o
    | false => fldOf r t j
theorem fldOf_ok {P : Program} : ∀ {l : List (Nat × Nat × Nat)} {t j o : Nat}, (l.all fun q => fieldAtB P q.1 q.2.1 q.2.2) = true → fldOf l t j = some o → fieldAtB P t j o = true
  | [], _, _, _, _, h => by simp [fldOf] at h
  | (s, i, q) :: r, t, j, o, ha, h => by
    simp only [List.all_cons, Bool.and_eq_true] at ha
    unfold fldOf at h
    split at h
    · rename_i hb
      simp only [Bool.and_eq_true] at hb
      obtain rfl := Nat.eq_of_beq_eq_true hb.1
      obtain rfl := Nat.eq_of_beq_eq_true hb.2
      cases h
      exact ha.1
    · exact fldOf_ok ha.2 h
def memN : List Nat → Nat → Bool
  | [], _ => false
  | s :: r, t => match Nat.beq s t with
    | true => true
    | false => memN r t
theorem memN_ok : ∀ {l : List Nat} {t : Nat}, memN l t = true → t ∈ l
  | [], _, h => by simp [memN] at h
  | s :: r, t, h => by
    unfold memN at h
    split at h
    · rename_i hb
      simp [Nat.eq_of_beq_eq_true hb]
    · exact List.mem_cons_of_mem _ (memN_ok h)
def kEq : IntKind → IntKind → Bool
  | .i8, .i8 | .i16, .i16 | .i32, .i32 | .i64, .i64 | .u8, .u8 | .u16, .u16 | .u32, .u32 | .u64, .u64 => true
  | _, _ => false
theorem kEq_ok {a b : IntKind} (h : kEq a b = true) : a = b := by
  cases a <;> cases b <;> first | rfl | cases h
def cmpOp : BinOp → Int → Int → Option Bool
  | .lss, m, n => some (decide (m < n))
  | .leq, m, n => some (decide (m ≤ n))
  | .gtr, m, n => some (decide (n < m))
  | .geq, m, n => some (decide (n ≤ m))
  | .eql, m, n => some (m == n)
  | .neq, m, n => some (m != n)
  | _, _, _ => none
def evCmp (b : BinOp) : Value → Value → Option Value
  | .int k m, .int k' n => match kEq k k' with
    | true => match cmpOp b m n with
      | some v => some (.bool v)
      | none => none
    | false => none
  | _, _ => none
def evO (c : Cx) (fr : List (Nat × Value)) : Op → Option Value
  | .move x => Ev fr x
  | .assign x => Ev fr x
  | .extract x i => match Ev fr x with
    | some (.tuple vs) => nth vs.toList i
    | _ => none
  | .fieldAddr s x i => match Ev fr x with
    | some (.pointer (some ⟨b, o, none⟩)) => match fldOf c.flds s i with
      | some off => some (.pointer (some ⟨b, o + off, none⟩))
      | none => none
    | _ => none
  | .unOp .not _ x => match Ev fr x with
    | some (.bool b) => some (.bool (!b))
    | _ => none
  | .binOp b _ x y _ => match Ev fr x with
    | some v => match Ev fr y with
      | some u => evCmp b v u
      | none => none
    | none => none
  | .pick q x y => match Ev fr q with
    | some (.bool true) => match Ev fr y with
      | some _ => Ev fr x
      | none => none
    | some (.bool false) => match Ev fr x with
      | some _ => Ev fr y
      | none => none
    | _ => none
  | .call q => match q.callee with
    | .builtin .len => match q.args.toList with
      | [x] => match q.argTypes.toList with
        | [t] => match Ev fr x with
          | some (.slice _ n _) => match memN c.slcs t with
            | true => some (.int .i64 n)
            | false => none
          | _ => none
        | _ => none
      | _ => none
    | _ => none
  | _ => none
def gOk (all : Array Oper) (fr : List (Nat × Value)) : Option (Nat × Bool) → Option Bool
  | none => some true
  | some (j, b) => match (all[j]?).bind (·.dst) with
    | some t => match look fr t with
      | some (.bool true) => some b
      | some (.bool false) => some (!b)
      | some (.tuple _) => some false
      | _ => none
    | none => none
def run1 (c : Cx) : List KF → St → List (Nat × Value) → Option (List KF × St × List (Nat × Value))
  | ks, .ops all [], fr => some (ks, .ext .normal, fr)
  | ks, .ops all (o :: rest), fr => match o.dst with
    | some d => match Nat.blt d c.n with
      | true => match gOk all fr o.guard with
        | some true => match evO c fr o.op with
          | some v => some (ks, .ops all rest, (d, v) :: fr)
          | none => none
        | some false => some (ks, .ops all rest, (d, undef) :: fr)
        | none => none
      | false => none
    | none => none
  | ks, .code x, fr => match x with
    | .skip => some (ks, .ext .normal, fr)
    | .region _ ops false => some (ks, .ops ops ops.toList, fr)
    | .seq x y => some (.seq y :: ks, .code x, fr)
    | .block id x => some (.blk id :: ks, .code x, fr)
    | .exit id => some (ks, .ext (.exit id), fr)
    | .ret => some (ks, .ext .ret, fr)
    | .cond o x y => match Ev fr o with
      | some (.bool true) => some (ks, .code x, fr)
      | some (.bool false) => some (ks, .code y, fr)
      | _ => none
    | _ => none
  | .seq y :: ks, .ext e, fr => match e with
    | .normal => some (ks, .code y, fr)
    | .exit id => some (ks, .ext (.exit id), fr)
    | .ret => some (ks, .ext .ret, fr)
    | _ => none
  | .blk id :: ks, .ext e, fr => match e with
    | .normal => some (ks, .ext .normal, fr)
    | .exit id' => match Nat.beq id' id with
      | true => some (ks, .ext .normal, fr)
      | false => some (ks, .ext (.exit id'), fr)
    | .ret => some (ks, .ext .ret, fr)
    | _ => none
  | [], .ext _, _ => none
def runN (c : Cx) : Nat → List KF → St → List (Nat × Value) → List KF × St × List (Nat × Value)
  | 0, ks, st, fr => (ks, st, fr)
  | k + 1, ks, st, fr => match run1 c ks st fr with
    | some (ks', st', fr') => runN c k ks' st' fr'
    | none => (ks, st, fr)
theorem evCmp_ok {P : Program} {b : BinOp} {t t' : TypeId} {x y : Operand} {ρ : Operand → Value} {w : World} {R : Value → World → Prop} {d : Option Tmp} {ty : TypeId} {pos : String} {af : Array Edge} {g : Option (Nat × Bool)} {v : Value}
    (h : evCmp b (ρ x) (ρ y) = some v) (hR : R v w) : OpTo P ⟨d, .binOp b t x y t', ty, pos, af, g⟩ ρ w R := by
  unfold evCmp at h
  split at h
  · rename_i k m k' n hx hy
    split at h
    · rename_i hk
      obtain rfl := kEq_ok hk
      split at h
      · rename_i q hq
        cases h
        cases b <;> simp only [cmpOp, Option.some.injEq] at hq <;> first | cases hq | subst hq
        all_goals first | exact o_lss hx hy hR | exact o_leq hx hy hR | exact o_gtr hx hy hR | exact o_geq hx hy hR | exact o_eql hx hy hR | exact o_neq hx hy hR
      · cases h
    · cases h
  · cases h
theorem evO_ok {c : Cx} {fr : List (Nat × Value)} {op : Op} {v : Value} {a : Act} {n : Nat} {df : List Deferred} {w : World} {R : Value → World → Prop} {d : Option Tmp} {ty : TypeId} {pos : String} {af : Array Edge} {g : Option (Nat × Bool)}
    (F : Frm a n df fr) (h : evO c fr op = some v) (hR : R v w) : OpTo c.P ⟨d, op, ty, pos, af, g⟩ a.eval w R := by
  unfold evO at h
  split at h
  · exact o_move (F.ev h) hR
  · exact o_assign (F.ev h) hR
  · split at h
    · rename_i vs hx
      exact o_extract (vs := vs.toList) (by simpa using F.ev hx) h hR
    · cases h
  · split at h
    · rename_i b o hx
      split at h
      · rename_i off hf
        cases h
        haveI : TFld c.P _ _ off := ⟨fldOf_ok c.hf hf⟩
        exact o_fieldAddr (F.ev hx) hR
      · cases h
    · cases h
  · split at h
    · rename_i b hx
      cases h
      exact o_not (F.ev hx) hR
    · cases h
  · split at h
    · rename_i v1 hx
      split at h
      · rename_i v2 hy
        rw [← F.ev hx, ← F.ev hy] at h
        exact evCmp_ok h hR
      · cases h
    · cases h
  · split at h
    · rename_i hq
      split at h
      · rename_i u hy
        exact o_pick (F.ev hq) (F.ev h) (F.ev hy) (by simpa using hR)
      · cases h
    · rename_i hq
      split at h
      · rename_i u hx
        exact o_pick (F.ev hq) (F.ev hx) (F.ev h) (by simpa using hR)
      · cases h
    · cases h
  · rename_i q
    obtain ⟨callee, args, tys⟩ := q
    split at h
    · rename_i hc
      split at h
      · rename_i x hx1
        split at h
        · rename_i t ht1
          split at h
          · rename_i p k q hx
            split at h
            · rename_i hm
              cases h
              dsimp only at hc hx1 ht1
              subst hc
              obtain rfl : args = #[x] := by cases args; simp_all
              obtain rfl : tys = #[t] := by cases tys; simp_all
              have h1 := List.all_eq_true.1 c.hs _ (memN_ok hm)
              unfold isSlB at h1
              split at h1
              · rename_i e he
                haveI : TU c.P _ (.slice e) := ⟨he⟩
                exact o_lenSl (F.ev hx) hR
              · cases h1
            · cases h
          · cases h
        · cases h
      · cases h
    · cases h
  · cases h
theorem evO_plain {c : Cx} {fr : List (Nat × Value)} {op : Op} {v : Value} (h : evO c fr op = some v) : plainOp op = true := by
  cases op <;> first | rfl | (simp [evO] at h)
section
variable {c : Cx} {Q : Exit → Act → World → Prop} {ks ks' : List KF} {st st' : St} {fr fr' : List (Nat × Value)} {l : Row}
theorem gOk_true {all : Array Oper} {g : Option (Nat × Bool)} (h : gOk all fr g = some true) : g = none ∨ ∃ j b t, g = some (j, b) ∧ (all[j]?).bind (·.dst) = some t ∧ look fr t = some (.bool b) := by
  unfold gOk at h
  split at h
  · exact .inl rfl
  · rename_i j b
    split at h
    · rename_i t ht
      split at h
      · rename_i hl
        cases h
        exact .inr ⟨j, true, t, rfl, ht, hl⟩
      · rename_i hl
        have : b = false := by cases b <;> simp_all
        subst this
        exact .inr ⟨j, false, t, rfl, ht, hl⟩
      · cases h
      · cases h
    · cases h
theorem gOk_false {all : Array Oper} {g : Option (Nat × Bool)} (h : gOk all fr g = some false) : ∃ j b t v, g = some (j, b) ∧ (all[j]?).bind (·.dst) = some t ∧ look fr t = some v ∧ offGuard b v = true := by
  unfold gOk at h
  split at h
  · cases h
  · rename_i j b
    split at h
    · rename_i t ht
      split at h
      · rename_i hl
        cases h
        exact ⟨j, false, t, _, rfl, ht, hl, rfl⟩
      · rename_i hl
        have : b = true := by cases b <;> simp_all
        subst this
        exact ⟨j, true, t, _, rfl, ht, hl, rfl⟩
      · rename_i vs hl
        exact ⟨j, b, t, _, rfl, ht, hl, rfl⟩
      · cases h
    · cases h
/-- one operation that writes a slot -/
theorem g_op {all : Array Oper} {d : Nat} {op : Op} {ty : TypeId} {pos : String} {af : Array Edge} {g : Option (Nat × Bool)} {rest : List Oper} (hp : plainOp op = true) (hd : Nat.blt d c.n = true) (hg : gOk all fr g = some true)
    (h : ∀ a w, Frm a c.n c.df fr → Mem c.S c.W w l.flatten → OpTo c.P ⟨some d, op, ty, pos, af, g⟩ a.eval w fun v w' => ∀ a', Frm a' c.n c.df ((d, v) :: fr) → GS c Q ks (.ops all rest) a' w') :
    G c Q ks (.ops all (⟨some d, op, ty, pos, af, g⟩ :: rest)) fr l := fun a w F M => by
  rcases gOk_true hg with rfl | ⟨j, b, t, rfl, ht, hl⟩
  · exact stepD hp F hd (h a w F M)
  · exact stepG hp F hd ht hl (h a w F M)
theorem run1_ok (h : run1 c ks st fr = some (ks', st', fr')) (hk : G c Q ks' st' fr' l) : G c Q ks st fr l := by
  unfold run1 at h
  split at h
  · rename_i all
    cases h
    exact fun a w F M => (l_nil (hk a w F M) : wpListIn (FW c.r) 0 c.P all (KQ c Q ks) [] a w)
  · rename_i all o rest
    obtain ⟨dst, op, ty, pos, af, g⟩ := o
    cases dst with
    | none => cases h
    | some d =>
      simp only at h
      split at h
      · rename_i hd
        split at h
        · rename_i hg
          split at h
          · rename_i v hv
            cases h
            exact g_op (evO_plain hv) hd hg fun a w F M => evO_ok F hv fun a' F' => hk a' w F' M
          · cases h
        · rename_i hg
          cases h
          obtain ⟨j, b, t, v, rfl, ht, hl, ho⟩ := gOk_false hg
          exact fun a w F M => stepOff F hd ht hl ho fun a' F' => hk a' w F' M
        · cases h
      · cases h
  · split at h
    · cases h
      exact fun a w F M => c_skip (hk a w F M)
    · rename_i id ops
      cases h
      intro a w F M
      have := c_region (id := id) (hk a w F M)
      simpa [GS] using this
    · cases h
      exact fun a w F M => c_seq (hk a w F M)
    · cases h
      exact fun a w F M => c_block (hk a w F M)
    · cases h
      exact fun a w F M => c_exit (hk a w F M)
    · cases h
      exact fun a w F M => c_ret (hk a w F M)
    · split at h
      · rename_i ho
        cases h
        exact fun a w F M => c_true F ho rfl (hk a w F M)
      · rename_i ho
        cases h
        exact fun a w F M => c_false F ho rfl (hk a w F M)
      · cases h
    · cases h
  · split at h
    · cases h
      exact fun a w F M => hk a w F M
    · cases h
      exact fun a w F M => hk a w F M
    · cases h
      exact fun a w F M => hk a w F M
    · cases h
  · split at h
    · cases h
      exact fun a w F M => hk a w F M
    · split at h
      · rename_i hb
        cases h
        obtain rfl := Nat.eq_of_beq_eq_true hb
        exact fun a w F M => q_inBX (hk a w F M)
      · rename_i hb
        cases h
        exact fun a w F M => q_inBY hb (hk a w F M)
    · cases h
      exact fun a w F M => hk a w F M
    · cases h
  · cases h
theorem runN_ok : ∀ (k : Nat) {ks ks' : List KF} {st st' : St} {fr fr' : List (Nat × Value)}, runN c k ks st fr = (ks', st', fr') → G c Q ks' st' fr' l → G c Q ks st fr l
  | 0, _, _, _, _, _, _, h, hk => by
    cases h
    exact hk
  | k + 1, ks, ks', st, st', fr, fr', h, hk => by
    unfold runN at h
    split at h
    · rename_i h1
      exact run1_ok h1 (runN_ok k h hk)
    · cases h
      exact hk
/-- runs k steps in which nothing is to be chosen -/
theorem g_run (k : Nat) (h : runN c k ks st fr = (ks', st', fr')) (hk : G c Q ks' st' fr' l) : G c Q ks st fr l := runN_ok k h hk
end
end Go.Proofs.YtilgoepokaaleaaGreat
/-! Lib3 -/
namespace Go.Proofs.YtilgoepokaaleaaGreat
set_option linter.unusedVariables false
set_option linter.unusedSimpArgs false
open Go.RowKit
theorem bneF {x y : Int} (h : x = y) : (x != y) = false := by simp [h]
theorem notT {b : Bool} (h : b = false) : (!b) = true := by simp [h]
theorem notF {b : Bool} (h : b = true) : (!b) = false := by simp [h]
/-! rows of blocks -/
def nthO {α : Type} : List α → Nat → Option α
  | [], _ => none
  | x :: _, 0 => some x
  | _ :: r, i + 1 => nthO r i
theorem nthO_sub : ∀ {l : Row} {i : Nat} {e : List (Nat × Obj)}, nthO l i = some e → ∀ x ∈ e, x ∈ l.flatten
  | [], _, _, h => by simp [nthO] at h
  | y :: _, 0, x, h => by
    simp only [nthO, Option.some.injEq] at h
    intro z hz
    simp [h, hz]
  | _ :: r, i + 1, x, h => fun z hz => List.mem_append_right _ (nthO_sub (l := r) h z hz)
theorem nthO_mem {l : Row} {i : Nat} {x : Nat × Obj} (h : nthO l i = some [x]) : x ∈ l.flatten := nthO_sub h x (by simp)
def setO : Row → Nat → List (Nat × Obj) → Option Row
  | [], _, _ => none
  | _ :: r, 0, o => some (o :: r)
  | p :: r, i + 1, o => match setO r i o with
    | some q => some (p :: q)
    | none => none
theorem subO {l l' : Row} (h : l.Sublist l') : l.flatten.Sublist l'.flatten := by
  induction h with
  | slnil => exact .refl _
  | cons x h ih => exact ih.trans (List.sublist_append_right _ _)
  | cons_cons x h ih => exact List.Sublist.append (.refl _) ih
theorem setO_upd : ∀ {l l' : Row} {i b : Nat} {o o' : Obj}, nthO l i = some [(b, o)] → setO l i [(b, o')] = some l' → Upd l.flatten b o o' l'.flatten
  | [], _, _, _, _, _, h, _ => by simp [nthO] at h
  | p :: r, l', 0, b, o, o', h, k => by
    simp only [nthO, Option.some.injEq] at h
    simp only [setO, Option.some.injEq] at k
    subst h
    subst k
    exact .here
  | p :: r, l', i + 1, b, o, o', h, k => by
    simp only [nthO] at h
    simp only [setO] at k
    split at k
    · rename_i q hq
      cases k
      exact (setO_upd h hq).append _
    · cases k
/-- a list of blocks may be put ahead -/
theorem nthO_perm : ∀ {l l' : Row} {i : Nat} {e e' : List (Nat × Obj)}, nthO l i = some e → setO l i e' = some l' → ∃ r, l.flatten.Perm (e ++ r) ∧ l'.flatten.Perm (e' ++ r)
  | [], _, _, _, _, h, _ => by simp [nthO] at h
  | p :: r, l', 0, e, e', h, k => by
    simp only [nthO, Option.some.injEq] at h
    simp only [setO, Option.some.injEq] at k
    subst h
    subst k
    exact ⟨r.flatten, .refl _, .refl _⟩
  | p :: r, l', i + 1, e, e', h, k => by
    simp only [nthO] at h
    simp only [setO] at k
    split at k
    · rename_i q hq
      cases k
      obtain ⟨s, h1, h2⟩ := nthO_perm h hq
      refine ⟨p ++ s, ?_, ?_⟩
      · refine (List.Perm.append_left p h1).trans ?_
        rw [← List.append_assoc, ← List.append_assoc]
        exact List.Perm.append_right _ List.perm_append_comm
      · refine (List.Perm.append_left p h2).trans ?_
        rw [← List.append_assoc, ← List.append_assoc]
        exact List.Perm.append_right _ List.perm_append_comm
    · cases k
theorem OwnS.nilL {α : Type} (enc : α → List Value) (e : TypeId) (sz : Nat) : OwnS e sz (.slice none 0 0) ([] : List α).length (encL enc []) [] := OwnS.nil _ _
section
variable {c : Cx} {Q : Exit → Act → World → Prop} {ks : List KF} {fr : List (Nat × Value)} {l l' : Row} {all : Array Oper} {rest : List Oper} {d : Nat} {ty : TypeId} {pos : String} {af : Array Edge} {g : Option (Nat × Bool)}
/-- an operation whose value is told and that leaves the world as it is -/
theorem g_v {op : Op} {v : Value} (h : ∀ a w, Frm a c.n c.df fr → Mem c.S c.W w l.flatten → ∀ R : Value → World → Prop, R v w → OpTo c.P ⟨some d, op, ty, pos, af, g⟩ a.eval w R)
    (k : G c Q ks (.ops all rest) ((d, v) :: fr) l) (hp : plainOp op = true := by rfl) (hd : Nat.blt d c.n = true := by rfl) (hg : gOk all fr g = some true := by rfl) : G c Q ks (.ops all (⟨some d, op, ty, pos, af, g⟩ :: rest)) fr l :=
  g_op hp hd hg fun a w F M => h a w F M _ fun a' F' => k a' w F' M
section arith
variable {t t' : TypeId} {x y : Operand} {k : IntKind} {m n s : Int}
theorem g_add (hx : Ev fr x = some (.int k m)) (hy : Ev fr y = some (.int k n)) (hs : k.wrap (m + n) = s) (hk : G c Q ks (.ops all rest) ((d, .int k s) :: fr) l) (hd : Nat.blt d c.n = true := by rfl) (hg : gOk all fr g = some true := by rfl) :
    G c Q ks (.ops all (⟨some d, .binOp .add t x y t', ty, pos, af, g⟩ :: rest)) fr l := g_v (fun a w F M R r => o_add (F.ev hx) (F.ev hy) hs r) hk rfl hd hg
end arith
theorem g_ld1 (i : Nat) {t : TypeId} {x : Operand} {b off : Nat} {cs : List Value} {t' : TypeId} {fz : Nat × Nat} {v : Value} [ht : TOne c.P t] (hx : Ev fr x = some (.pointer (some ⟨b, off, none⟩))) (hl : nthO l i = some [(b, .cells cs.toArray t' fz)]) (hv : nth cs off = some v)
    (hk : G c Q ks (.ops all rest) ((d, v) :: fr) l) (hd : Nat.blt d c.n = true := by rfl) (hg : gOk all fr g = some true := by rfl) : G c Q ks (.ops all (⟨some d, .load t x, ty, pos, af, g⟩ :: rest)) fr l :=
  g_v (fun a w F M R r => o_loadH1 (F.ev hx) (M.at_ _ (nthO_mem hl)) hv r) hk rfl hd hg
theorem g_ldA (i : Nat) {t : TypeId} {x : Operand} {b off n : Nat} {cs : List Value} {t' : TypeId} {fz : Nat × Nat} {vs : List Value} [ht : TAgg c.P t n] (hx : Ev fr x = some (.pointer (some ⟨b, off, none⟩))) (hl : nthO l i = some [(b, .cells cs.toArray t' fz)]) (hv : seg cs off n = some vs)
    (hk : G c Q ks (.ops all rest) ((d, .agg vs.toArray) :: fr) l) (hd : Nat.blt d c.n = true := by rfl) (hg : gOk all fr g = some true := by rfl) : G c Q ks (.ops all (⟨some d, .load t x, ty, pos, af, g⟩ :: rest)) fr l :=
  g_v (fun a w F M R r => o_loadHA (F.ev hx) (M.at_ _ (nthO_mem hl)) hv r) hk rfl hd hg
/-- out of what came in -/
theorem g_le1 {t : TypeId} {x : Operand} {b off : Nat} {cs : List Value} {t' : TypeId} {fz : Nat × Nat} {v : Value} [ht : TOne c.P t] (hx : Ev fr x = some (.pointer (some ⟨b, off, none⟩))) (hb : ∀ w', Ext c.S c.W w' → w'.heap[b]? = some (.cells cs.toArray t' fz)) (hv : nth cs off = some v)
    (hk : G c Q ks (.ops all rest) ((d, v) :: fr) l) (hd : Nat.blt d c.n = true := by rfl) (hg : gOk all fr g = some true := by rfl) : G c Q ks (.ops all (⟨some d, .load t x, ty, pos, af, g⟩ :: rest)) fr l :=
  g_v (fun a w F M R r => o_loadH1 (F.ev hx) (hb w M.ext) hv r) hk rfl hd hg
theorem g_leA {t : TypeId} {x : Operand} {b off n : Nat} {cs : List Value} {t' : TypeId} {fz : Nat × Nat} {vs : List Value} [ht : TAgg c.P t n] (hx : Ev fr x = some (.pointer (some ⟨b, off, none⟩))) (hb : ∀ w', Ext c.S c.W w' → w'.heap[b]? = some (.cells cs.toArray t' fz)) (hv : seg cs off n = some vs)
    (hk : G c Q ks (.ops all rest) ((d, .agg vs.toArray) :: fr) l) (hd : Nat.blt d c.n = true := by rfl) (hg : gOk all fr g = some true := by rfl) : G c Q ks (.ops all (⟨some d, .load t x, ty, pos, af, g⟩ :: rest)) fr l :=
  g_v (fun a w F M R r => o_loadHA (F.ev hx) (hb w M.ext) hv r) hk rfl hd hg
theorem g_ixS {t e : TypeId} {x i : Operand} {k : IntKind} {b o len cap sz : Nat} {j : Int} (hx : Ev fr x = some (.slice (some ⟨b, o, none⟩) len cap)) (hi : Ev fr i = some (.int k j)) [ht : TU c.P t (.slice e)] [hs : TSz c.P e sz] (h0 : 0 ≤ j) (h1 : j < len)
    (hk : G c Q ks (.ops all rest) ((d, .pointer (some ⟨b, o + j.toNat * sz, none⟩)) :: fr) l) (hd : Nat.blt d c.n = true := by rfl) (hg : gOk all fr g = some true := by rfl) : G c Q ks (.ops all (⟨some d, .indexAddr t x i, ty, pos, af, g⟩ :: rest)) fr l :=
  g_v (fun a w F M R r => o_indexSl (F.ev hx) (F.ev hi) h0 h1 r) hk rfl hd hg
/-- a new block -/
theorem g_alloc {t : TypeId} {cs : List Value} [hz : TZero c.P t cs] (hk : ∀ b, G c Q ks (.ops all rest) ((d, .pointer (some ⟨b, 0, none⟩)) :: fr) ([(b, .cells cs.toArray t (0, 0))] :: l)) (hd : Nat.blt d c.n = true := by rfl) (hg : gOk all fr g = some true := by rfl) :
    G c Q ks (.ops all (⟨some d, .alloc t, ty, pos, af, g⟩ :: rest)) fr l :=
  g_op rfl hd hg fun a w F M => o_alloc M fun b w' M' a' F' => hk b a' w' F' M'
theorem g_box {t : TypeId} {x : Operand} {v : Value} {cs : List Value} (hx : Ev fr x = some v) (hv : v.cells = cs.toArray) (hk : ∀ b, G c Q ks (.ops all rest) ((d, .pointer (some ⟨b, 0, none⟩)) :: fr) ([(b, .cells cs.toArray t (0, 0))] :: l)) (hd : Nat.blt d c.n = true := by rfl) (hg : gOk all fr g = some true := by rfl) :
    G c Q ks (.ops all (⟨some d, .box t x, ty, pos, af, g⟩ :: rest)) fr l :=
  g_op rfl hd hg fun a w F M => o_box M (F.ev hx) hv fun b w' M' a' F' => hk b a' w' F' M'
theorem g_stA (i : Nat) {t : TypeId} {x y : Operand} {b off n : Nat} {cs cs' vs : List Value} {t' : TypeId} [hs : TAgg c.P t n] (hx : Ev fr x = some (.pointer (some ⟨b, off, none⟩))) (hy : Ev fr y = some (.agg vs.toArray)) (hn : vs.length = n) (h1 : vs.all (·.oneCell') = true) (hl : nthO l i = some [(b, .cells cs.toArray t' (0, 0))]) (hp : put cs off vs = some cs') (hl' : setO l i [(b, .cells cs'.toArray t' (0, 0))] = some l')
    (hk : G c Q ks (.ops all rest) fr l') : G c Q ks (.ops all (⟨none, .store t x y, ty, pos, af, none⟩ :: rest)) fr l := fun a w F M =>
  stepN rfl F (o_storeA M (F.ev hx) (F.ev hy) hn h1 (setO_upd hl hl').has hp (setO_upd hl hl') fun w' M' a' F' => hk a' w' F' M')
/-- calls: the answer told, nothing turned -/
theorem g_call {x : Operand} {f : FuncId} {xs : List Operand} {ts : Array TypeId} {vs : List Value} {v : Value} [hb : TBody c.P f] (hx : Ev fr x = some (.func (.func f) #[] #[])) (ha : evL fr xs = some vs) (hc : ∀ w, Mem c.S c.W w l.flatten → Cal c.P f vs.toArray w fun u w' => u = v ∧ Ext [] w w')
    (hk : G c Q ks (.ops all rest) ((d, v) :: fr) l) (hd : Nat.blt d c.n = true := by rfl) (hg : gOk all fr g = some true := by rfl) : G c Q ks (.ops all (⟨some d, .call ⟨.value x, xs.toArray, ts⟩, ty, pos, af, g⟩ :: rest)) fr l :=
  g_op rfl hd hg fun a w F M => o_call (F.ev hx) (F.evs ha) (Cal.mono (hc w M) fun u w' h a' F' => hk a' w' (h.1 ▸ F') (M.later h.2))
/-- a branch; a guard that is split -/
theorem g_if {o : Operand} {x y : Code} {t : Bool} (hx : Ev fr o = some (.bool t)) (ht : t = true → G c Q ks (.code x) fr l) (hf : t = false → G c Q ks (.code y) fr l) : G c Q ks (.code (.cond o x y)) fr l := fun a w F M =>
  c_if F hx (fun h => ht h a w F M) (fun h => hf h a w F M)
theorem g_split (s : Nat) {st : St} {b : Bool} (h : look fr s = some (.bool b)) (ht : b = true → G c Q ks st ((s, .bool true) :: fr) l) (hf : b = false → G c Q ks st ((s, .bool false) :: fr) l) : G c Q ks st fr l := fun a w F M => by
  cases b
  · exact hf rfl a w (F.know (F.at_ s _ h)) M
  · exact ht rfl a w (F.know (F.at_ s _ h)) M
theorem g_ret {fn : Func} {R : Value → World → Prop} {rvs : List ResultVar} {vs : List Value} {c : Cx} (hdf : c.df = []) (hr : fn.results = rvs.toArray) (hv : ∀ a w, Frm a c.n c.df fr → Mem c.S c.W w l.flatten → ResVs c.P a w rvs vs) (h : ∀ w, Mem c.S c.W w l.flatten → R (oneOr vs) w) : G c (Post c.P fn R) [] (.ext .ret) fr l := fun a w F M => by
  have F' := F
  rw [hdf] at F'
  exact p_ret F' hr (hv a w F M) (h w M)
theorem g_ret1 {fn : Func} {R : Value → World → Prop} {t : Nat} {v : Value} {c : Cx} (hdf : c.df = []) (hr : fn.results = [ResultVar.tmp t].toArray) (hv : look fr t = some v) (h : ∀ w, Mem c.S c.W w l.flatten → R v w) : G c (Post c.P fn R) [] (.ext .ret) fr l :=
  g_ret hdf hr (fun a w F M => .cons (.tmp (F.ev hv)) .nil) h
theorem g_retC2 (i : Nat) {fn : Func} {R : Value → World → Prop} {q b off n s : Nat} {u : Value} {ty : TypeId} {cs vs : List Value} {t' : TypeId} {fz : Nat × Nat} {c : Cx} [ht : TAgg c.P ty n] (hdf : c.df = []) (hr : fn.results = [ResultVar.cell q ty, ResultVar.tmp s].toArray) (hq : look fr q = some (.pointer (some ⟨b, off, none⟩))) (hl : nthO l i = some [(b, .cells cs.toArray t' fz)]) (hv : seg cs off n = some vs) (hu : look fr s = some u)
    (h : ∀ w, Mem c.S c.W w l.flatten → R (.tuple [.agg vs.toArray, u].toArray) w) : G c (Post c.P fn R) [] (.ext .ret) fr l :=
  g_ret hdf hr (fun a w F M => .cons (.cell (F.ev hq) (run_loadVar_agg ht.h (M.at_ _ (nthO_mem hl)) (by simpa using hv))) (.cons (.tmp (F.ev hu)) .nil)) h
theorem g_start {P : Program} {f : FuncId} {fn : Func} {x : Code} {vs : List Value} {W : World} {R : Value → World → Prop} {n : Nat} {S : List Nat} {flds : List (Nat × Nat × Nat)} {slcs : List Nat} (hf : (flds.all fun q => fieldAtB P q.1 q.2.1 q.2.2) = true) (hs : (slcs.all fun t => isSlB P t) = true)
    (hfn : P.funcs[f]? = some fn) (hb : fn.body = some x) (hn : fn.ntmps = n) (hle : Nat.ble vs.length n = true)
    (h : G ⟨P, none, n, [], S, W, flds, slcs, hf, hs⟩ (Post P fn R) [] (.code x) (number 0 vs) []) : Cal P f vs.toArray W R :=
  fn_ofM S hfn hb hn hle fun a w F M _ => h a w F M
theorem g_ifT {o : Operand} {x y : Code} {t : Bool} (hx : Ev fr o = some (.bool t)) (ht : t = true) (hk : G c Q ks (.code x) fr l) : G c Q ks (.code (.cond o x y)) fr l := fun a w F M => c_true F hx ht (hk a w F M)
theorem g_ifF {o : Operand} {x y : Code} {t : Bool} (hx : Ev fr o = some (.bool t)) (ht : t = false) (hk : G c Q ks (.code y) fr l) : G c Q ks (.code (.cond o x y)) fr l := fun a w F M => c_false F hx ht (hk a w F M)
theorem g_know (s : Nat) {st : St} {b b' : Bool} (h : look fr s = some (.bool b)) (hb : b = b') (hk : G c Q ks st ((s, .bool b') :: fr) l) : G c Q ks st fr l := fun a w F M => by
  subst hb
  exact hk a w (F.know (F.at_ s _ h)) M
/-- a loop: the state is told by i, whose measure falls -/
structure LI (ι : Type) where
  μ : ι → Nat
  p : ι → Prop
  fi : ι → List (Nat × Value)
  li : ι → Row
def LQ {ι : Type} (J : LI ι) (c : Cx) (Q : Exit → Act → World → Prop) (ks : List KF) (i : ι) : Exit → Act → World → Prop
  | .normal, a, w => ∃ j, J.μ j < J.μ i ∧ J.p j ∧ Frm a c.n c.df (J.fi j) ∧ Mem c.S c.W w (J.li j).flatten
  | e, a, w => KQ c Q ks e a w
theorem g_loop {ι : Type} (J : LI ι) (i0 : ι) {x : Code} (h0 : J.p i0) (hfr : ∀ a, Frm a c.n c.df fr → Frm a c.n c.df (J.fi i0)) (hl : (J.li i0).Sublist l)
    (h : ∀ i, J.p i → G c (LQ J c Q ks i) [] (.code x) (J.fi i) (J.li i)) : G c Q ks (.code (.loop x)) fr l := fun a w F M => by
  refine c_loop (fun m a w => ∃ i, m = J.μ i ∧ J.p i ∧ Frm a c.n c.df (J.fi i) ∧ Mem c.S c.W w (J.li i).flatten) (J.μ i0) ⟨i0, rfl, h0, hfr a F, M.sub (subO hl)⟩ ?_
  rintro m a w ⟨i, rfl, hp, F, M⟩
  refine wpIn_mono (h i hp a w F M) fun e a w hq => ?_
  cases e with
  | normal =>
    obtain ⟨j, h1, h2, h3, h4⟩ := hq
    exact ⟨_, h1, j, rfl, h2, h3, h4⟩
  | exit _ => exact hq
  | goto _ => exact hq
  | ret => exact hq
  | panic _ => exact hq
  | outgrown => exact hq
theorem g_next {ι : Type} {J : LI ι} {i : ι} (j : ι) (h2 : J.p j) (h1 : J.μ j < J.μ i) (hfr : ∀ a, Frm a c.n c.df fr → Frm a c.n c.df (J.fi j)) (hl : (J.li j).Sublist l) : G c (LQ J c Q ks i) [] (.ext .normal) fr l := fun a w F M => ⟨j, h1, h2, hfr a F, M.sub (subO hl)⟩
theorem g_outX {ι : Type} {J : LI ι} {i : ι} {id : Nat} (h : G c Q ks (.ext (.exit id)) fr l) : G c (LQ J c Q ks i) [] (.ext (.exit id)) fr l := h
/-- a slice written out: new memory -/
theorem g_bs {t e : TypeId} {len sz : Nat} {xs : List (Nat × Operand)} {parts : List (Nat × List Value)} {zs cs : List Value} [ht : TU c.P t (.slice e)] [hs : TSz c.P e sz] [hz : TZero c.P e zs] (hv : evP fr xs = some parts)
    (hle : Nat.ble (len * sz) 16777216 = true) (hzl : Nat.beq zs.length sz = true) (hp : putAll (placesL len sz) (zerosL zs (len * sz)) parts = some cs)
    (hk : ∀ b, G c Q ks (.ops all rest) ((d, .slice (some ⟨b, 0, none⟩) len len) :: fr) ([(b, .cells cs.toArray e (0, 0))] :: l)) (hd : Nat.blt d c.n = true := by rfl) (hg : gOk all fr g = some true := by rfl) : G c Q ks (.ops all (⟨some d, .buildSlice t len xs.toArray, ty, pos, af, g⟩ :: rest)) fr l :=
  g_op rfl hd hg fun a w F M => o_buildSlice F M hv hle hzl hp fun b w' M' a' F' => hk b a' w' F' M'
/-- one element more: i is the place of the slice's blocks, j that of the new element -/
theorem g_app (i j : Nat) {α : Type} {enc : α → List Value} {out : List α} {x0 : α} {st xt e : TypeId} {x y : Operand} {sz by_ bx kx : Nat} {v : Value} {ent : List (Nat × Obj)} {f : List (Nat × Obj) → Row} {t' : TypeId} {fz : Nat × Nat} [hst : TU c.P st (.slice e)] [hel : TEl c.P e sz by_] [hxt : TNI c.P xt]
    (hx : Ev fr x = some v) (hy : Ev fr y = some (.slice (some ⟨bx, 0, none⟩) 1 kx)) (hO : OwnS e sz v out.length (encL enc out) ent) (hi : nthO l i = some ent) (hj : nthO l j = some [(bx, .cells (enc x0).toArray t' fz)]) (hz : (enc x0).length = sz) (hbd : (out.length + 1) * by_ ≤ 140737488355328)
    (hf : ∀ e', setO l i e' = some (f e')) (hk : ∀ v' ent', OwnS e sz v' (out ++ [x0]).length (encL enc (out ++ [x0])) ent' → G c Q ks (.ops all rest) ((d, v') :: fr) (f ent')) (h1 : (enc x0).all (·.oneCell') = true) (hd : Nat.blt d c.n = true := by rfl) (hg : gOk all fr g = some true := by rfl) (hln : out.length + 1 ≤ 9223372036854775807 := by first | omega | (simp only [List.length_nil]; omega)) :
    G c Q ks (.ops all (⟨some d, .call ⟨.builtin .append, #[x, y], #[st, xt]⟩, ty, pos, af, g⟩ :: rest)) fr l := by
  refine g_op rfl hd hg fun a w F M => ?_
  obtain ⟨r, p1, _⟩ := nthO_perm hi (hf ent)
  have hp : ∀ e', (f e').flatten.Perm (e' ++ r) := fun e' => by
    obtain ⟨r', q1, q2⟩ := nthO_perm hi (hf e')
    exact q2.trans (List.Perm.append_left _ ((List.perm_append_left_iff ent).1 (q1.symm.trans p1)))
  have hX : SrcOf c.P w (.slice (some ⟨bx, 0, none⟩) 1 kx) 1 sz (enc x0) := SrcOf.cells' (M.at_ _ (nthO_mem hj)) (by rw [Nat.one_mul, ← hz]; simpa using seg_of [] (enc x0) []) h1
  refine o_append1 (f := fun e' => r ++ e') hO (M.perm (p1.trans List.perm_append_comm)) ?_ (F.ev hx) (F.ev hy) hX hbd (fun v' ent' w' hO' M' => ?_) hln
  · exact .app .here
  · exact fun a' F' => hk v' ent' hO' a' w' F' (M'.perm (List.perm_append_comm.trans (hp ent').symm))
/-- a slice that owns nothing -/
theorem g_pad {st : St} (hk : G c Q ks st fr ([] :: l)) : G c Q ks st fr l := hk
end
end Go.Proofs.YtilgoepokaaleaaGreat
/-! Tab -/
namespace Go.Proofs.YtilgoepokaaleaaGreat
open Go.RowKit
def fldT : List (Nat × Nat × Nat) := [(7, 0, 0), (7, 1, 1), (7, 2, 2), (7, 3, 3), (8, 0, 0), (8, 1, 1), (8, 2, 2), (8, 3, 3), (13, 0, 0), (13, 1, 1), (14, 0, 0), (14, 1, 1), (18, 0, 0), (19, 0, 0), (40, 0, 0), (40, 1, 16), (41, 0, 0), (41, 1, 16), (44, 0, 0), (44, 1, 17), (44, 2, 34), (45, 0, 0), (45, 1, 17), (45, 2, 34), (47, 0, 0), (47, 1, 1), (48, 0, 0), (48, 1, 1), (49, 0, 0), (49, 1, 35), (49, 2, 36), (49, 3, 38), (49, 4, 39), (50, 0, 0), (50, 1, 35), (50, 2, 36), (50, 3, 38), (50, 4, 39), (52, 0, 0), (52, 1, 35), (52, 2, 36), (52, 3, 38), (53, 0, 0), (53, 1, 35), (53, 2, 36), (53, 3, 38), (54, 0, 0), (54, 1, 1), (55, 0, 0), (55, 1, 1), (94, 0, 0), (94, 1, 1), (95, 0, 0), (95, 1, 1), (132, 0, 0), (132, 1, 35), (132, 2, 37), (133, 0, 0), (133, 1, 35), (133, 2, 37), (140, 0, 0), (140, 1, 1), (140, 2, 2), (141, 0, 0), (141, 1, 1), (141, 2, 2), (187, 0, 0), (187, 1, 1), (187, 2, 2), (187, 3, 3), (188, 0, 0), (188, 1, 1), (188, 2, 2), (188, 3, 3), (199, 0, 0), (199, 1, 1), (199, 2, 2), (199, 3, 3), (199, 4, 4), (199, 5, 5), (199, 6, 6), (199, 7, 7), (199, 8, 8), (199, 9, 9), (199, 10, 10), (200, 0, 0), (200, 1, 1), (200, 2, 2), (200, 3, 3), (200, 4, 4), (200, 5, 5), (200, 6, 6), (200, 7, 7), (200, 8, 8), (200, 9, 9), (200, 10, 10)]
def slcT : List Nat := [22, 26, 28, 30, 33, 73, 74, 75, 76, 77, 78, 101, 158]
theorem fldT_ok : (fldT.all fun q => fieldAtB Tryz.prog q.1 q.2.1 q.2.2) = true := by kernel_rfl
theorem slcT_ok : (slcT.all fun t => isSlB Tryz.prog t) = true := by kernel_rfl
end Go.Proofs.YtilgoepokaaleaaGreat
/-! Lib4 -/
namespace Go.Proofs.YtilgoepokaaleaaGreat
set_option linter.unusedVariables false
set_option linter.unusedSimpArgs false
open Go.RowKit
def FD (c : Cx) (Q : Exit → Act → World → Prop) (ks : List KF) (ol : List Oper) (n k : Nat) (rest : List Oper) (fr : List (Nat × Value)) (l : Row) : Prop :=
  ∀ a w Vs, Mem c.S c.W w l.flatten → regOk ol.toArray n = true → MW ⟨keepAll, [], [], c.P, c.r, ol.toArray, n, c.n, c.df, a, w, KQ c Q ks, [], []⟩ k rest fr Vs noT
section
variable {c : Cx} {Q : Exit → Act → World → Prop} {ks : List KF} {fr fr' : List (Nat × Value)} {l : Row} {ol rest rest' : List Oper} {n k k' : Nat} {d : Nat} {op : Op} {ty : TypeId} {pos : String} {af : Array Edge} {g : Option (Nat × Bool)}
theorem g_draw {id : Nat} (n nt : Nat) [hm : TMix c.P] (hnt : c.n = nt) (hchk : (regOk ol.toArray n && tailOk ol.toArray n && Nat.ble n ol.length && dstOk ol.toArray n nt && effOk ol.toArray n []) = true) (h : FD c Q ks ol n 0 ol fr l) : G c Q ks (.code (.region id ol.toArray true)) fr l := fun a w F M =>
  c_draw n F (by rw [hnt]; exact hchk) fun w1 hE hok => h a w1 [] (M.later hE) hok
theorem fd_c {v : Value} (h : ∀ a w, Frm a c.n c.df fr → Mem c.S c.W w l.flatten → OpTo c.P ⟨some d, op, ty, pos, af, g⟩ a.eval w fun x w' => Ext [] w w' ∧ x = v)
    (hk : FD c Q ks ol n (k + 1) rest ((d, v) :: fr) l) (hlt : flo [] [] [] n k op = true := by rfl) (hd : Nat.blt d c.n = true := by rfl) (hg : gOk ol.toArray fr g = some true := by rfl) : FD c Q ks ol n k (⟨some d, op, ty, pos, af, g⟩ :: rest) fr l := fun a w Vs M hok => by
  rcases gOk_true hg with rfl | ⟨j, b, t, rfl, ht, hl⟩
  · exact mK hok hlt hd (fun a' w' F he => h a' w' F (M.later he)) (hk a w _ M hok)
  · exact mKG hok hlt hd ht hl (fun a' w' F he => h a' w' F (M.later he)) (hk a w _ M hok)
theorem fd_v {v : Value} (h : ∀ a w, Frm a c.n c.df fr → Mem c.S c.W w l.flatten → ∀ R : Value → World → Prop, R v w → OpTo c.P ⟨some d, op, ty, pos, af, g⟩ a.eval w R)
    (hk : FD c Q ks ol n (k + 1) rest ((d, v) :: fr) l) (hlt : flo [] [] [] n k op = true := by rfl) (hd : Nat.blt d c.n = true := by rfl) (hg : gOk ol.toArray fr g = some true := by rfl) : FD c Q ks ol n k (⟨some d, op, ty, pos, af, g⟩ :: rest) fr l :=
  fd_c (fun a w F M => h a w F M _ ⟨Ext.refl _ _, rfl⟩) hk hlt hd hg
theorem fd_call {x : Operand} {f : FuncId} {xs : List Operand} {ts : Array TypeId} {vs : List Value} {v : Value} [hb : TBody c.P f] (hx : Ev fr x = some (.func (.func f) #[] #[])) (ha : evL fr xs = some vs) (hc : ∀ w, Mem c.S c.W w l.flatten → Cal c.P f vs.toArray w fun u w' => u = v ∧ Ext [] w w')
    (hk : FD c Q ks ol n (k + 1) rest ((d, v) :: fr) l) (hlt : flo [] [] [] n k (.call ⟨.value x, xs.toArray, ts⟩) = true := by rfl) (hd : Nat.blt d c.n = true := by rfl) (hg : gOk ol.toArray fr g = some true := by rfl) : FD c Q ks ol n k (⟨some d, .call ⟨.value x, xs.toArray, ts⟩, ty, pos, af, g⟩ :: rest) fr l :=
  fd_c (fun a w F M => o_call (F.ev hx) (F.evs ha) (Cal.mono (hc w M) fun u w' h => ⟨h.2, h.1⟩)) hk hlt hd hg
theorem fd_off (hk : FD c Q ks ol n (k + 1) rest ((d, undef) :: fr) l) (hlt : flo [] [] [] n k op = true := by rfl) (hd : Nat.blt d c.n = true := by rfl) (hg : gOk ol.toArray fr g = some false := by rfl) : FD c Q ks ol n k (⟨some d, op, ty, pos, af, g⟩ :: rest) fr l := fun a w Vs M hok => by
  obtain ⟨j, b, t, v, rfl, ht, hl, ho⟩ := gOk_false hg
  exact mOff hok hlt hd ht hl ho (hk a w _ M hok)
theorem fd_done (hn : Nat.beq k n = true) (hef : effOk ol.toArray n [] = true) (hk : G c Q ks (.ops ol.toArray rest) fr l) : FD c Q ks ol n k rest fr l := fun a w Vs M hok =>
  mDone hn hef fun a' w' F he _ _ _ _ => hk a' w' F (M.later he)
theorem fd_same (h : ∀ t, look fr' t = look fr t) (hk : FD c Q ks ol n k rest fr' l) : FD c Q ks ol n k rest fr l := fun a w Vs M hok => by
  intro h1 h2 h3 h4 hC
  exact hk a w Vs M hok h1 h2 h3 h4 ⟨fun t v hv => hC.c t v (by rw [← h]; exact hv)⟩
theorem look_know {s : Nat} {v : Value} (h : look fr s = some v) (t : Nat) : look ((s, v) :: fr) t = look fr t := by
  cases hb : s.beq t
  · show (match s.beq t with | true => some v | false => look fr t) = look fr t
    rw [hb]
  · show (match s.beq t with | true => some v | false => look fr t) = look fr t
    rw [hb, ← Nat.eq_of_beq_eq_true hb, h]
theorem fd_know (s : Nat) {b b' : Bool} (h : look fr s = some (.bool b)) (hb : b = b') (hk : FD c Q ks ol n k rest ((s, .bool b') :: fr) l) : FD c Q ks ol n k rest fr l := by
  subst hb
  exact fd_same (look_know h) hk
def runF (c : Cx) (all : Array Oper) (n : Nat) : Nat → Nat → List Oper → List (Nat × Value) → Nat × List Oper × List (Nat × Value)
  | m + 1, k, o :: rest, fr => match o.dst with
    | some d => match Nat.blt d c.n && flo [] [] [] n k o.op with
      | true => match gOk all fr o.guard with
        | some true => match evO c fr o.op with
          | some v => runF c all n m (k + 1) rest ((d, v) :: fr)
          | none => (k, o :: rest, fr)
        | some false => runF c all n m (k + 1) rest ((d, undef) :: fr)
        | none => (k, o :: rest, fr)
      | false => (k, o :: rest, fr)
    | none => (k, o :: rest, fr)
  | _, k, rest, fr => (k, rest, fr)
theorem fd_run : ∀ (m : Nat) {k k' : Nat} {rest rest' : List Oper} {fr fr' : List (Nat × Value)}, runF c ol.toArray n m k rest fr = (k', rest', fr') → FD c Q ks ol n k' rest' fr' l → FD c Q ks ol n k rest fr l
  | 0, k, k', rest, rest', fr, fr', h, hk => by
    cases rest <;> cases h <;> exact hk
  | m + 1, k, k', [], rest', fr, fr', h, hk => by
    cases h
    exact hk
  | m + 1, k, k', o :: rest, rest', fr, fr', h, hk => by
    obtain ⟨dst, op, ty, pos, af, g⟩ := o
    unfold runF at h
    split at h
    · rename_i d hd0
      dsimp only at hd0
      subst hd0
      split at h
      · rename_i hb
        simp only [Bool.and_eq_true] at hb
        split at h
        · rename_i hg
          split at h
          · rename_i v hv
            exact fd_v (fun a w F M R r => evO_ok F hv r) (fd_run m h hk) hb.2 hb.1 hg
          · cases h
            exact hk
        · rename_i hg
          exact fd_off (fd_run m h hk) hb.2 hb.1 hg
        · cases h
          exact hk
      · cases h
        exact hk
    · cases h
      exact hk
end
section
variable {c : Cx} {Q : Exit → Act → World → Prop} {ks : List KF} {fr : List (Nat × Value)} {l : Row} {ol rest : List Oper} {nn kx : Nat} {d : Nat} {ty : TypeId} {pos : String} {af : Array Edge} {g : Option (Nat × Bool)}
section arith
variable {t t' : TypeId} {x y : Operand} {k : IntKind} {m n s : Int}
end arith
theorem fd_ldA (i : Nat) {t : TypeId} {x : Operand} {b off n : Nat} {cs : List Value} {t' : TypeId} {fz : Nat × Nat} {vs : List Value} [ht : TAgg c.P t n] (hx : Ev fr x = some (.pointer (some ⟨b, off, none⟩))) (hl : nthO l i = some [(b, .cells cs.toArray t' fz)]) (hv : seg cs off n = some vs)
    (hk : FD c Q ks ol nn (kx + 1) rest ((d, .agg vs.toArray) :: fr) l) (hlt : flo [] [] [] nn kx (.load t x) = true := by rfl) (hd : Nat.blt d c.n = true := by rfl) (hg : gOk ol.toArray fr g = some true := by rfl) : FD c Q ks ol nn kx (⟨some d, .load t x, ty, pos, af, g⟩ :: rest) fr l :=
  fd_v (fun a w F M R r => o_loadHA (F.ev hx) (M.at_ _ (nthO_mem hl)) hv r) hk hlt hd hg
theorem fd_ixS {t e : TypeId} {x i : Operand} {k : IntKind} {b o len cap sz : Nat} {j : Int} (hx : Ev fr x = some (.slice (some ⟨b, o, none⟩) len cap)) (hi : Ev fr i = some (.int k j)) [ht : TU c.P t (.slice e)] [hs : TSz c.P e sz] (h0 : 0 ≤ j) (h1 : j < len)
    (hk : FD c Q ks ol nn (kx + 1) rest ((d, .pointer (some ⟨b, o + j.toNat * sz, none⟩)) :: fr) l) (hlt : flo [] [] [] nn kx (.indexAddr t x i) = true := by rfl) (hd : Nat.blt d c.n = true := by rfl) (hg : gOk ol.toArray fr g = some true := by rfl) : FD c Q ks ol nn kx (⟨some d, .indexAddr t x i, ty, pos, af, g⟩ :: rest) fr l :=
  fd_v (fun a w F M R r => o_indexSl (F.ev hx) (F.ev hi) h0 h1 r) hk hlt hd hg
theorem fd_eqA {t t' : TypeId} {x y : Operand} {kk : List LK} {xs ys : List Value} {b : Bool} [ht : TEq c.P t kk] (hx : Ev fr x = some (.agg xs.toArray)) (hy : Ev fr y = some (.agg ys.toArray)) (fx : fitsK kk xs = true) (fy : fitsK kk ys = true) (he : eqVs xs ys = b)
    (hk : FD c Q ks ol nn (kx + 1) rest ((d, .bool b) :: fr) l) (hlt : flo [] [] [] nn kx (.binOp .eql t x y t') = true := by rfl) (hd : Nat.blt d c.n = true := by rfl) (hg : gOk ol.toArray fr g = some true := by rfl) : FD c Q ks ol nn kx (⟨some d, .binOp .eql t x y t', ty, pos, af, g⟩ :: rest) fr l :=
  fd_v (fun a w F M R r => o_eqlAE (F.ev hx) (F.ev hy) fx fy he r) hk hlt hd hg
end
section
variable {c : Cx} {Q : Exit → Act → World → Prop} {ks : List KF} {st : St} {fr : List (Nat × Value)} {l : Row}
/-- where branches come together -/
structure LJ (ι : Type) where
  p : ι → Prop
  fi : ι → List (Nat × Value)
  li : ι → Row
def JQ {ι : Type} (J : LJ ι) (c : Cx) (Q : Exit → Act → World → Prop) (ks : List KF) : Exit → Act → World → Prop
  | .normal, a, w => ∃ j, J.p j ∧ Frm a c.n c.df (J.fi j) ∧ Mem c.S c.W w (J.li j).flatten
  | e, a, w => KQ c Q ks e a w
theorem JQ.of {ι : Type} {J : LJ ι} {e : Exit} {a : Act} {w : World} (h : JQ J c Q ks e a w) (hk : ∀ j, J.p j → G c Q ks (.ext .normal) (J.fi j) (J.li j)) : KQ c Q ks e a w := by
  cases e with
  | normal =>
    obtain ⟨j, h2, h3, h4⟩ := h
    exact hk j h2 a w h3 h4
  | exit _ => exact h
  | goto _ => exact h
  | ret => exact h
  | panic _ => exact h
  | outgrown => exact h
theorem g_cutC {ι : Type} (J : LJ ι) {x : Code} (h1 : G c (JQ J c Q ks) [] (.code x) fr l) (h2 : ∀ j, J.p j → G c Q ks (.ext .normal) (J.fi j) (J.li j)) : G c Q ks (.code x) fr l := fun a w F M =>
  wpIn_mono (h1 a w F M) fun e a w h => JQ.of h h2
theorem g_join {ι : Type} {J : LJ ι} (j : ι) (h2 : J.p j) (hfr : ∀ a, Frm a c.n c.df fr → Frm a c.n c.df (J.fi j)) (hl : (J.li j).Sublist l) : G c (JQ J c Q ks) [] (.ext .normal) fr l := fun a w F M => ⟨j, h2, hfr a F, M.sub (subO hl)⟩
theorem g_jR {ι : Type} {J : LJ ι} (h : G c Q ks (.ext .ret) fr l) : G c (JQ J c Q ks) [] (.ext .ret) fr l := h
end
end Go.Proofs.YtilgoepokaaleaaGreat
/-! ZY -/
namespace Go.Proofs.YtilgoepokaaleaaGreat
set_option linter.unusedVariables false
set_option linter.unusedSimpArgs false
open Go.RowKit
attribute [local irreducible] OpTo wpListIn Code.wpIn MW Cal
def endN (c : Option InsV) : InsV × Int := match c with
  | none => (in0, 9)
  | some c => if c.nb = 0 then (in0, 15) else (c, 0)
def sameV (y mark : DstV) : Bool := (decide (y.dip = mark.dip) && decide (y.dbits = mark.dbits)) && (decide (y.sip = mark.sip) && decide (y.sbits = mark.sbits))
theorem lookN_far {y : InsV} {ys : List InsV} {mark : DstV} {marked : Bool} (h : (marked && decide (nearC y.to mark < 0)) = true) : lookN (y :: ys) mark marked = (in0, 9) := by
  unfold lookN
  dsimp only
  rw [if_pos h]
theorem lookN_near {y : InsV} {ys : List InsV} {mark : DstV} {marked : Bool} (h : (marked && decide (nearC y.to mark < 0)) = false) : lookN (y :: ys) mark marked = endN (if (marked && sameV y.to mark) = true then (y :: ys).find? (fun e => decide (e.to = mark)) else some (cheap (y :: ys) y)) := by
  unfold lookN sameV endN
  dsimp only
  rw [if_neg (by rw [h]; simp), Bool.and_assoc]
  rfl
theorem tup_in {c : InsV × Int} {x : InsV} {n : Int} {W w : World} (h : c = (x, n)) (E : Ext [] W w) : Value.tuple [.agg (inC x).toArray, .int .i64 n].toArray = .tuple [.agg (inC c.1).toArray, .int .i64 c.2].toArray ∧ Ext [] W w := by
  rw [h]
  exact ⟨rfl, E⟩
end Go.Proofs.YtilgoepokaaleaaGreat
/-! ZZ -/
namespace Go.Proofs.YtilgoepokaaleaaGreat
set_option linter.unusedVariables false
set_option linter.unusedSimpArgs false
open Go.RowKit
attribute [local irreducible] OpTo wpListIn Code.wpIn MW Cal
set_option maxHeartbeats 32000000 in
theorem lookup2_c (l : List InsV) (hx : ∀ x ∈ l, IsIn x) (v : Value) (src dst : List Int) (hs : IsIP src) (hd : IsIP dst) (mark : DstV) (hmk : IsDv mark) (marked : Bool) (W : World) (hS : SlAt W 40 v l.length (insC l)) :
    Cal Tryz.prog 60 [v, .agg (ipC src).toArray, .agg (ipC dst).toArray, .agg (dvC mark).toArray, .bool marked].toArray W fun r w' => r = .tuple [.agg (inC (lookV l src dst mark marked).1).toArray, .int .i64 (lookV l src dst mark marked).2].toArray ∧ Ext [] W w' := by
  obtain ⟨q, cap, rfl, _⟩ := id hS
  have hm := hS.memB [] (by simp)
  have l3 := hs.len
  have l4 := hd.len
  have a1 : seg (ipC src) 0 16 = some (ipC src) := seg_all (ipC_len hs.len)
  have a2 : seg (ipC dst) 0 16 = some (ipC dst) := seg_all (ipC_len hd.len)
  have hz : putAll [(0, 35), (35, 1), (36, 2), (38, 1), (39, 1)] inZ [] = some (inC in0) := rfl
  have hi0 := in0_is
  refine g_start (n := 152) (S := []) fldT_ok slcT_ok Tryz.func60 rfl rfl rfl ?_
  refine g_run 2 rfl ?_
  refine g_box rfl rfl fun b6 => ?_
  refine g_box rfl rfl fun b7 => ?_
  refine g_box rfl rfl fun b8 => ?_
  refine g_alloc fun b10 => ?_
  refine g_run 4 rfl ?_
  refine g_cutC (ι := Unit) ⟨fun _ => validIs l = true ∧ lookV l src dst mark marked = lookN (nearL l src dst) mark marked, fun _ => [(0, .slice q l.length cap), (4, .bool marked), (6, .pointer (some ⟨b6, 0, none⟩)), (7, .pointer (some ⟨b7, 0, none⟩)), (8, .pointer (some ⟨b8, 0, none⟩)), (10, .pointer (some ⟨b10, 0, none⟩))], fun _ => [[(b10, .cells inZ.toArray 50 (0, 0))], [(b8, .cells (dvC mark).toArray 45 (0, 0))], [(b7, .cells (ipC dst).toArray 39 (0, 0))], [(b6, .cells (ipC src).toArray 39 (0, 0))]]⟩ ?_ ?_
  · refine g_run 3 rfl ?_
    refine g_call rfl rfl (fun w M => rtvalidI_c _ (by assumption) _ _ ((by assumption : SlAt _ _ _ _ _).later M.ext)) ?_
    refine g_run 2 rfl ?_
    refine g_split 22 rfl (fun h1 => ?_) (fun h1 => ?_)
    · skip
      replace h1 := false_of_not h1
      refine g_run 12 rfl ?_
      refine g_v (fun a w F M R r => o_build F rfl (by assumption) r) ?_
      refine g_stA 0 rfl rfl (in_len (by assumption)) (in_one _) rfl (put_all (by rw [in_len (by assumption)]; first | rfl | rw [in_len (by assumption)])) rfl ?_
      refine g_run 4 rfl ?_
      refine g_jR ?_
      refine g_run 1 rfl ?_
      refine g_retC2 0 rfl rfl rfl rfl (in_all (by assumption)) rfl fun w M => ?_
      exact tup_in (by unfold lookV; simp [*]) M.ext
    · skip
      replace h1 := true_of_not h1
      refine g_run 2 rfl ?_
      refine g_split 24 rfl (fun h2 => ?_) (fun h2 => ?_)
      · skip
        refine g_ldA 1 rfl rfl (dv_all (by assumption)) ?_
        refine g_call rfl rfl (fun w M => validTo_c _ (by assumption) _) ?_
        refine g_run 5 rfl ?_
        refine g_if rfl (fun h3 => ?_) (fun h3 => ?_)
        · skip
          replace h3 := false_of_not h3
          refine g_run 2 rfl ?_
          refine g_v (fun a w F M R r => o_build F rfl (by assumption) r) ?_
          refine g_stA 0 rfl rfl (in_len (by assumption)) (in_one _) rfl (put_all (by rw [in_len (by assumption)]; first | rfl | rw [in_len (by assumption)])) rfl ?_
          refine g_run 4 rfl ?_
          refine g_jR ?_
          refine g_run 1 rfl ?_
          refine g_retC2 0 rfl rfl rfl rfl (in_all (by assumption)) rfl fun w M => ?_
          exact tup_in (by unfold lookV; simp [*]) M.ext
        · skip
          replace h3 := true_of_not h3
          refine g_run 1 rfl ?_
          exact g_join () ⟨by assumption, by unfold lookV; simp [*]⟩ (fun a F => F.only [0, 4, 6, 7, 8, 10] rfl) (by (try dsimp only); repeat (first | exact .refl _ | with_reducible exact List.nil_sublist _ | with_reducible apply List.Sublist.cons_cons | apply List.Sublist.cons))
      · skip
        refine g_run 9 rfl ?_
        exact g_join () ⟨by assumption, by unfold lookV; simp [*]⟩ (fun a F => F.only [0, 4, 6, 7, 8, 10] rfl) (by (try dsimp only); repeat (first | exact .refl _ | with_reducible exact List.nil_sublist _ | with_reducible apply List.Sublist.cons_cons | apply List.Sublist.cons))
  rintro _ ⟨hv, hL⟩
  have hl512 := (validIs_iff.1 hv).1
  rw [hL]
  refine g_run 15 rfl ?_
  refine g_pad ?_
  refine g_loop (ι := Nat × (List InsV) × Value × (List (Nat × Obj))) ⟨fun (i, near, u, es) => l.length - i, fun (i, near, u, es) => i ≤ l.length ∧ (OwnS 50 40 u near.length (insC near) es) ∧ (near = nearL (l.take i) src dst), fun (i, near, u, es) => [(33, .int .i64 i), (32, .int .i64 l.length), (31, .slice q l.length cap), (12, u), (4, .bool marked), (6, .pointer (some ⟨b6, 0, none⟩)), (7, .pointer (some ⟨b7, 0, none⟩)), (8, .pointer (some ⟨b8, 0, none⟩)), (10, .pointer (some ⟨b10, 0, none⟩))], fun (i, near, u, es) => [es, [(b10, .cells inZ.toArray 50 (0, 0))], [(b8, .cells (dvC mark).toArray 45 (0, 0))], [(b7, .cells (ipC dst).toArray 39 (0, 0))], [(b6, .cells (ipC src).toArray 39 (0, 0))]]⟩ (0, [], _, []) ⟨by omega, OwnS.nilL _ _ _, rfl⟩ (fun a F => F.only [33, 32, 31, 12, 4, 6, 7, 8, 10] rfl) (by repeat (first | exact .refl _ | apply List.Sublist.cons_cons | apply List.Sublist.cons)) ?_
  rintro ⟨i, near, u, es⟩ ⟨hi_i, hOs, hnr⟩
  dsimp only
  by_cases hlt_i : i < l.length
  · obtain ⟨b, o, cs, t', fz, rfl, hb, hs⟩ := hm (by omega)
    obtain ⟨x, hx0⟩ : ∃ x, x = l[i] := ⟨_, rfl⟩
    have hxm : x ∈ l := by rw [hx0]; exact List.getElem_mem hlt_i
    have hxi : IsIn x := hx _ hxm
    have f1 : seg cs (o + (i : Int).toNat * 40) 40 = some (inC x) := by rw [hx0]; exact seg_el (ins_len hx) hs hlt_i (by omega)
    have hx0' := hx0
    clear hx0
    have hst := nearL_step (src := src) (dst := dst) hlt_i
    rw [← hnr, ← hx0'] at hst
    have hnI : ∀ y ∈ near, IsIn y := by rw [hnr]; exact nearL_sub fun y hy => hx y (List.mem_of_mem_take hy)
    have hnl : near.length ≤ 512 := by
      have := nearL_len (src := src) (dst := dst) (l := l.take i)
      rw [← hnr, List.length_take] at this
      omega
    have hxd : IsDv x.to := hxi.1
    have f2 := in_len hxi
    clear hnr hx0' hL
    have l1 := hxd.1.len
    have l2 := hxd.2.len
    cases c3 : containsP x.to.dip x.to.dbits dst
    · have hns : nearS src dst near x = near := by unfold nearS matchV; rw [c3]; rfl
      refine g_run 6 rfl ?_
      refine g_ifT rfl (decide_eq_true (by omega)) ?_
      refine g_run 6 rfl ?_
      refine g_ixS rfl rfl (by omega) (by omega) ?_
      refine g_leA rfl (by assumption) (by with_reducible assumption) ?_
      refine g_alloc fun b14 => ?_
      refine g_stA 0 rfl rfl (in_len (by assumption)) (in_one _) rfl (put_all (by rw [in_len (by assumption)]; first | rfl | rw [in_len (by assumption)])) rfl ?_
      refine g_run 7 rfl ?_
      refine g_ldA 0 rfl rfl (in_to_dst (by assumption)) ?_
      refine g_ldA 4 rfl rfl (by with_reducible assumption) ?_
      refine g_call rfl rfl (fun w M => contains_c _ _ (by assumption) _ (by assumption) _) ?_
      refine g_run 2 rfl ?_
      refine g_know 43 rfl (notT (by assumption)) ?_
      refine g_run 15 rfl ?_
      refine g_add rfl rfl (w_i64 (by omega) (by omega)) ?_
      refine g_run 2 rfl ?_
      exact g_next (i + 1, near, u, es) ⟨by omega, hOs, by rw [hst, hns]⟩ (by dsimp only; omega) (fun a F => F.only [33, 32, 31, 12, 4, 6, 7, 8, 10] rfl) (by (try dsimp only); repeat (first | exact .refl _ | with_reducible exact List.nil_sublist _ | with_reducible apply List.Sublist.cons_cons | apply List.Sublist.cons))
    cases c4 : containsP x.to.sip x.to.sbits src
    · have hns : nearS src dst near x = near := by unfold nearS matchV; rw [c3, c4]; rfl
      refine g_run 6 rfl ?_
      refine g_ifT rfl (decide_eq_true (by omega)) ?_
      refine g_run 6 rfl ?_
      refine g_ixS rfl rfl (by omega) (by omega) ?_
      refine g_leA rfl (by assumption) (by with_reducible assumption) ?_
      refine g_alloc fun b14 => ?_
      refine g_stA 0 rfl rfl (in_len (by assumption)) (in_one _) rfl (put_all (by rw [in_len (by assumption)]; first | rfl | rw [in_len (by assumption)])) rfl ?_
      refine g_run 7 rfl ?_
      refine g_ldA 0 rfl rfl (in_to_dst (by assumption)) ?_
      refine g_ldA 4 rfl rfl (by with_reducible assumption) ?_
      refine g_call rfl rfl (fun w M => contains_c _ _ (by assumption) _ (by assumption) _) ?_
      refine g_run 2 rfl ?_
      refine g_know 43 rfl (notF (by assumption)) ?_
      refine g_run 2 rfl ?_
      refine g_ldA 0 rfl rfl (in_to_src (by assumption)) ?_
      refine g_ldA 5 rfl rfl (by with_reducible assumption) ?_
      refine g_call rfl rfl (fun w M => contains_c _ _ (by assumption) _ (by assumption) _) ?_
      refine g_run 4 rfl ?_
      refine g_ifT rfl (notT (by assumption)) ?_
      refine g_run 5 rfl ?_
      refine g_add rfl rfl (w_i64 (by omega) (by omega)) ?_
      refine g_run 2 rfl ?_
      exact g_next (i + 1, near, u, es) ⟨by omega, hOs, by rw [hst, hns]⟩ (by dsimp only; omega) (fun a F => F.only [33, 32, 31, 12, 4, 6, 7, 8, 10] rfl) (by (try dsimp only); repeat (first | exact .refl _ | with_reducible exact List.nil_sublist _ | with_reducible apply List.Sublist.cons_cons | apply List.Sublist.cons))
    have hmt : matchV x.to src dst = true := by unfold matchV; rw [c3, c4]; rfl
    · cases near with
      | nil =>
        have hns : nearS src dst [] x = [x] := by unfold nearS; rw [hmt]; rfl
        obtain ⟨pz, cz, rfl⟩ := hOs.slice
        refine g_run 6 rfl ?_
        refine g_ifT rfl (decide_eq_true (by omega)) ?_
        refine g_run 6 rfl ?_
        refine g_ixS rfl rfl (by omega) (by omega) ?_
        refine g_leA rfl (by assumption) (by with_reducible assumption) ?_
        refine g_alloc fun b14 => ?_
        refine g_stA 0 rfl rfl (in_len (by assumption)) (in_one _) rfl (put_all (by rw [in_len (by assumption)]; first | rfl | rw [in_len (by assumption)])) rfl ?_
        refine g_run 7 rfl ?_
        refine g_ldA 0 rfl rfl (in_to_dst (by assumption)) ?_
        refine g_ldA 4 rfl rfl (by with_reducible assumption) ?_
        refine g_call rfl rfl (fun w M => contains_c _ _ (by assumption) _ (by assumption) _) ?_
        refine g_run 2 rfl ?_
        refine g_know 43 rfl (notF (by assumption)) ?_
        refine g_run 2 rfl ?_
        refine g_ldA 0 rfl rfl (in_to_src (by assumption)) ?_
        refine g_ldA 5 rfl rfl (by with_reducible assumption) ?_
        refine g_call rfl rfl (fun w M => contains_c _ _ (by assumption) _ (by assumption) _) ?_
        refine g_run 4 rfl ?_
        refine g_ifF rfl (notF (by assumption)) ?_
        refine g_run 4 rfl ?_
        refine g_draw 13 152 rfl (by kernel_rfl) ?_
        refine fd_run 13 rfl ?_
        refine fd_done rfl rfl ?_
        refine g_run 6 rfl ?_
        refine g_draw 13 152 rfl (by kernel_rfl) ?_
        refine fd_run 13 rfl ?_
        refine fd_done rfl rfl ?_
        refine g_run 5 rfl ?_
        refine g_ldA 0 rfl rfl (in_all (by assumption)) ?_
        refine g_bs rfl rfl rfl (in_build1 (by assumption)) fun b79 => ?_
        refine g_app 2 0 (enc := inC) rfl rfl (by assumption) rfl rfl (in_len (by assumption)) (by first | omega | (simp only [List.length_nil]; omega)) (fun _ => rfl) (fun v80 es80 hO80 => ?_) (in_one _)
        refine g_run 5 rfl ?_
        refine g_add rfl rfl (w_i64 (by omega) (by omega)) ?_
        refine g_run 2 rfl ?_
        exact g_next (i + 1, _, _, _) ⟨by omega, by assumption, by rw [hst, hns]; rfl⟩ (by dsimp only; omega) (fun a F => F.only [33, 32, 31, 12, 4, 6, 7, 8, 10] rfl) (by (try dsimp only); repeat (first | exact .refl _ | with_reducible exact List.nil_sublist _ | with_reducible apply List.Sublist.cons_cons | apply List.Sublist.cons))
      | cons y ys =>
        rcases hOs with ⟨_, h0, _, _⟩ | ⟨bN, cN, junk, rfl, rfl, hxl, hjl, hnc⟩
        · simp at h0
        have hyv := hnI y (by simp)
        have hyd : IsDv y.to := hyv.1
        have hsz : ∀ z ∈ y :: ys, (inC z).length = 40 := ins_len hnI
        have g1 : seg (insC (y :: ys) ++ junk) (0 + (0 : Int).toNat * 40) 40 = some (inC y) := own_el hsz junk (show 0 < (y :: ys).length by simp) (by simp)
        have g2 : seg (insC (y :: ys) ++ junk) (0 + (0 : Int).toNat * 40 + 0) 35 = some (dvC y.to) := sg_seg g1 (in_to hyv) (by omega)
        have hO : OwnS 50 40 (.slice (some ⟨bN, 0, none⟩) (y :: ys).length cN) (y :: ys).length (insC (y :: ys)) [(bN, .cells (insC (y :: ys) ++ junk).toArray 50 (0, 0))] := .inr ⟨bN, cN, junk, rfl, rfl, hxl, hjl, hnc⟩
        have hn0 : 0 < (y :: ys).length := by simp
        have hns0 : nearS src dst (y :: ys) x = if 0 < nearC x.to y.to then [x] else if nearC x.to y.to = 0 then y :: ys ++ [x] else y :: ys := by unfold nearS; rw [hmt]; rfl
        clear hxl hjl hnc hsz
        by_cases k1 : 0 < nearC x.to y.to
        · rw [if_pos k1] at hns0
          refine g_run 6 rfl ?_
          refine g_ifT rfl (decide_eq_true (by omega)) ?_
          refine g_run 6 rfl ?_
          refine g_ixS rfl rfl (by omega) (by omega) ?_
          refine g_leA rfl (by assumption) (by with_reducible assumption) ?_
          refine g_alloc fun b14 => ?_
          refine g_stA 0 rfl rfl (in_len (by assumption)) (in_one _) rfl (put_all (by rw [in_len (by assumption)]; first | rfl | rw [in_len (by assumption)])) rfl ?_
          refine g_run 7 rfl ?_
          refine g_ldA 0 rfl rfl (in_to_dst (by assumption)) ?_
          refine g_ldA 4 rfl rfl (by with_reducible assumption) ?_
          refine g_call rfl rfl (fun w M => contains_c _ _ (by assumption) _ (by assumption) _) ?_
          refine g_run 2 rfl ?_
          refine g_know 43 rfl (notF (by assumption)) ?_
          refine g_run 2 rfl ?_
          refine g_ldA 0 rfl rfl (in_to_src (by assumption)) ?_
          refine g_ldA 5 rfl rfl (by with_reducible assumption) ?_
          refine g_call rfl rfl (fun w M => contains_c _ _ (by assumption) _ (by assumption) _) ?_
          refine g_run 4 rfl ?_
          refine g_ifF rfl (notF (by assumption)) ?_
          refine g_run 4 rfl ?_
          refine g_draw 13 152 rfl (by kernel_rfl) ?_
          refine fd_run 4 rfl ?_
          refine fd_know 54 rfl (decide_eq_true (by omega)) ?_
          refine fd_run 1 rfl ?_
          refine fd_ldA 0 rfl rfl (in_to (by assumption)) ?_
          refine fd_run 1 rfl ?_
          refine fd_ixS rfl rfl (by omega) (by omega) ?_
          refine fd_run 1 rfl ?_
          refine fd_ldA 1 rfl rfl (by with_reducible assumption) ?_
          refine fd_call rfl rfl (fun w M => rnearest_c _ _ (by assumption) (by assumption) _) ?_
          refine fd_run 2 rfl ?_
          refine fd_done rfl rfl ?_
          refine g_run 2 rfl ?_
          refine g_ifT rfl (decide_eq_true (by omega)) ?_
          refine g_run 5 rfl ?_
          refine g_draw 13 152 rfl (by kernel_rfl) ?_
          refine fd_run 13 rfl ?_
          refine fd_done rfl rfl ?_
          refine g_run 5 rfl ?_
          refine g_ldA 0 rfl rfl (in_all (by assumption)) ?_
          refine g_bs rfl rfl rfl (in_build1 (by assumption)) fun b79 => ?_
          refine g_pad ?_; refine g_app 0 1 (enc := inC) rfl rfl (OwnS.nilL _ _ _) rfl rfl (in_len (by assumption)) (by first | omega | (simp only [List.length_nil]; omega)) (fun _ => rfl) (fun v80 es80 hO80 => ?_) (in_one _)
          refine g_run 5 rfl ?_
          refine g_add rfl rfl (w_i64 (by omega) (by omega)) ?_
          refine g_run 2 rfl ?_
          exact g_next (i + 1, _, _, _) ⟨by omega, by assumption, by rw [hst, hns0]; rfl⟩ (by dsimp only; omega) (fun a F => F.only [33, 32, 31, 12, 4, 6, 7, 8, 10] rfl) (by (try dsimp only); repeat (first | exact .refl _ | with_reducible exact List.nil_sublist _ | with_reducible apply List.Sublist.cons_cons | apply List.Sublist.cons))
        · rw [if_neg k1] at hns0
          by_cases k2 : nearC x.to y.to = 0
          · rw [if_pos k2] at hns0
            refine g_run 6 rfl ?_
            refine g_ifT rfl (decide_eq_true (by omega)) ?_
            refine g_run 6 rfl ?_
            refine g_ixS rfl rfl (by omega) (by omega) ?_
            refine g_leA rfl (by assumption) (by with_reducible assumption) ?_
            refine g_alloc fun b14 => ?_
            refine g_stA 0 rfl rfl (in_len (by assumption)) (in_one _) rfl (put_all (by rw [in_len (by assumption)]; first | rfl | rw [in_len (by assumption)])) rfl ?_
            refine g_run 7 rfl ?_
            refine g_ldA 0 rfl rfl (in_to_dst (by assumption)) ?_
            refine g_ldA 4 rfl rfl (by with_reducible assumption) ?_
            refine g_call rfl rfl (fun w M => contains_c _ _ (by assumption) _ (by assumption) _) ?_
            refine g_run 2 rfl ?_
            refine g_know 43 rfl (notF (by assumption)) ?_
            refine g_run 2 rfl ?_
            refine g_ldA 0 rfl rfl (in_to_src (by assumption)) ?_
            refine g_ldA 5 rfl rfl (by with_reducible assumption) ?_
            refine g_call rfl rfl (fun w M => contains_c _ _ (by assumption) _ (by assumption) _) ?_
            refine g_run 4 rfl ?_
            refine g_ifF rfl (notF (by assumption)) ?_
            refine g_run 4 rfl ?_
            refine g_draw 13 152 rfl (by kernel_rfl) ?_
            refine fd_run 4 rfl ?_
            refine fd_know 54 rfl (decide_eq_true (by omega)) ?_
            refine fd_run 1 rfl ?_
            refine fd_ldA 0 rfl rfl (in_to (by assumption)) ?_
            refine fd_run 1 rfl ?_
            refine fd_ixS rfl rfl (by omega) (by omega) ?_
            refine fd_run 1 rfl ?_
            refine fd_ldA 1 rfl rfl (by with_reducible assumption) ?_
            refine fd_call rfl rfl (fun w M => rnearest_c _ _ (by assumption) (by assumption) _) ?_
            refine fd_run 2 rfl ?_
            refine fd_done rfl rfl ?_
            refine g_run 2 rfl ?_
            refine g_ifF rfl (decide_eq_false (by omega)) ?_
            refine g_run 3 rfl ?_
            refine g_draw 13 152 rfl (by kernel_rfl) ?_
            refine fd_run 5 rfl ?_
            refine fd_ldA 0 rfl rfl (in_to (by assumption)) ?_
            refine fd_run 1 rfl ?_
            refine fd_ixS rfl rfl (by omega) (by omega) ?_
            refine fd_run 1 rfl ?_
            refine fd_ldA 1 rfl rfl (by with_reducible assumption) ?_
            refine fd_call rfl rfl (fun w M => rnearest_c _ _ (by assumption) (by assumption) _) ?_
            refine fd_run 2 rfl ?_
            refine fd_done rfl rfl ?_
            refine g_run 2 rfl ?_
            refine g_ifT rfl (decide_eq_true (by omega)) ?_
            refine g_run 2 rfl ?_
            refine g_ldA 0 rfl rfl (in_all (by assumption)) ?_
            refine g_bs rfl rfl rfl (in_build1 (by assumption)) fun b79 => ?_
            refine g_app 2 0 (enc := inC) rfl rfl (by assumption) rfl rfl (in_len (by assumption)) (by first | omega | (simp only [List.length_nil]; omega)) (fun _ => rfl) (fun v80 es80 hO80 => ?_) (in_one _)
            refine g_run 5 rfl ?_
            refine g_add rfl rfl (w_i64 (by omega) (by omega)) ?_
            refine g_run 2 rfl ?_
            exact g_next (i + 1, _, _, _) ⟨by omega, by assumption, by rw [hst, hns0]⟩ (by dsimp only; omega) (fun a F => F.only [33, 32, 31, 12, 4, 6, 7, 8, 10] rfl) (by (try dsimp only); repeat (first | exact .refl _ | with_reducible exact List.nil_sublist _ | with_reducible apply List.Sublist.cons_cons | apply List.Sublist.cons))
          · rw [if_neg k2] at hns0
            refine g_run 6 rfl ?_
            refine g_ifT rfl (decide_eq_true (by omega)) ?_
            refine g_run 6 rfl ?_
            refine g_ixS rfl rfl (by omega) (by omega) ?_
            refine g_leA rfl (by assumption) (by with_reducible assumption) ?_
            refine g_alloc fun b14 => ?_
            refine g_stA 0 rfl rfl (in_len (by assumption)) (in_one _) rfl (put_all (by rw [in_len (by assumption)]; first | rfl | rw [in_len (by assumption)])) rfl ?_
            refine g_run 7 rfl ?_
            refine g_ldA 0 rfl rfl (in_to_dst (by assumption)) ?_
            refine g_ldA 4 rfl rfl (by with_reducible assumption) ?_
            refine g_call rfl rfl (fun w M => contains_c _ _ (by assumption) _ (by assumption) _) ?_
            refine g_run 2 rfl ?_
            refine g_know 43 rfl (notF (by assumption)) ?_
            refine g_run 2 rfl ?_
            refine g_ldA 0 rfl rfl (in_to_src (by assumption)) ?_
            refine g_ldA 5 rfl rfl (by with_reducible assumption) ?_
            refine g_call rfl rfl (fun w M => contains_c _ _ (by assumption) _ (by assumption) _) ?_
            refine g_run 4 rfl ?_
            refine g_ifF rfl (notF (by assumption)) ?_
            refine g_run 4 rfl ?_
            refine g_draw 13 152 rfl (by kernel_rfl) ?_
            refine fd_run 4 rfl ?_
            refine fd_know 54 rfl (decide_eq_true (by omega)) ?_
            refine fd_run 1 rfl ?_
            refine fd_ldA 0 rfl rfl (in_to (by assumption)) ?_
            refine fd_run 1 rfl ?_
            refine fd_ixS rfl rfl (by omega) (by omega) ?_
            refine fd_run 1 rfl ?_
            refine fd_ldA 1 rfl rfl (by with_reducible assumption) ?_
            refine fd_call rfl rfl (fun w M => rnearest_c _ _ (by assumption) (by assumption) _) ?_
            refine fd_run 2 rfl ?_
            refine fd_done rfl rfl ?_
            refine g_run 2 rfl ?_
            refine g_ifF rfl (decide_eq_false (by omega)) ?_
            refine g_run 3 rfl ?_
            refine g_draw 13 152 rfl (by kernel_rfl) ?_
            refine fd_run 5 rfl ?_
            refine fd_ldA 0 rfl rfl (in_to (by assumption)) ?_
            refine fd_run 1 rfl ?_
            refine fd_ixS rfl rfl (by omega) (by omega) ?_
            refine fd_run 1 rfl ?_
            refine fd_ldA 1 rfl rfl (by with_reducible assumption) ?_
            refine fd_call rfl rfl (fun w M => rnearest_c _ _ (by assumption) (by assumption) _) ?_
            refine fd_run 2 rfl ?_
            refine fd_done rfl rfl ?_
            refine g_run 2 rfl ?_
            refine g_ifF rfl (decide_eq_false (by omega)) ?_
            refine g_run 4 rfl ?_
            refine g_add rfl rfl (w_i64 (by omega) (by omega)) ?_
            refine g_run 2 rfl ?_
            exact g_next (i + 1, _, _, _) ⟨by omega, by assumption, by rw [hst, hns0]⟩ (by dsimp only; omega) (fun a F => F.only [33, 32, 31, 12, 4, 6, 7, 8, 10] rfl) (by (try dsimp only); repeat (first | exact .refl _ | with_reducible exact List.nil_sublist _ | with_reducible apply List.Sublist.cons_cons | apply List.Sublist.cons))
  · have hil : i = l.length := by omega
    rw [hil, List.take_length] at hnr
    have hnI : ∀ y ∈ near, IsIn y := by rw [hnr]; exact nearL_sub hx
    have hnl : near.length ≤ 512 := by
      have := nearL_len (src := src) (dst := dst) (l := l)
      rw [← hnr] at this
      omega
    rw [← hnr]
    clear hnr hm hL hil
    cases near with
    | nil =>
      obtain ⟨pz, cz, rfl⟩ := hOs.slice
      refine g_run 6 rfl ?_
      refine g_ifF rfl (decide_eq_false (by omega)) ?_
      refine g_run 2 rfl ?_
      refine g_outX ?_
      refine g_run 4 rfl ?_
      refine g_draw 15 152 rfl (by kernel_rfl) ?_
      refine fd_run 15 rfl ?_
      refine fd_done rfl rfl ?_
      refine g_run 5 rfl ?_
      refine g_v (fun a w F M R r => o_build F rfl (by assumption) r) ?_
      refine g_stA 1 rfl rfl (in_len (by assumption)) (in_one _) rfl (put_all (by rw [in_len (by assumption)]; first | rfl | rw [in_len (by assumption)])) rfl ?_
      refine g_run 5 rfl ?_
      refine g_retC2 1 rfl rfl rfl rfl (in_all (by assumption)) rfl fun w M => ?_
      exact tup_in rfl M.ext
    | cons y ys =>
      rcases hOs with ⟨_, h0, _, _⟩ | ⟨bN, cN, junk, rfl, rfl, hxl, hjl, hnc⟩
      · simp at h0
      have hyv := hnI y (by simp)
      have hyd : IsDv y.to := hyv.1
      have hsz : ∀ z ∈ y :: ys, (inC z).length = 40 := ins_len hnI
      have g1 : seg (insC (y :: ys) ++ junk) (0 + (0 : Int).toNat * 40) 40 = some (inC y) := own_el hsz junk (show 0 < (y :: ys).length by simp) (by simp)
      have g2 : seg (insC (y :: ys) ++ junk) (0 + (0 : Int).toNat * 40 + 0) 35 = some (dvC y.to) := sg_seg g1 (in_to hyv) (by omega)
      have g3 : seg (insC (y :: ys) ++ junk) (0 + (0 : Int).toNat * 40 + 0 + 0) 17 = some (pfC y.to.dip y.to.dbits) := sg_seg g1 (in_to_dst hyv) (by omega)
      have g4 : seg (insC (y :: ys) ++ junk) (0 + (0 : Int).toNat * 40 + 0 + 17) 17 = some (pfC y.to.sip y.to.sbits) := sg_seg g1 (in_to_src hyv) (by omega)
      have g5 := fits_pf hyd.1.len y.to.dbits
      have g6 := fits_pf hyd.2.len y.to.sbits
      have m3 := dv_dst hmk
      have m4 := dv_src hmk
      have m5 := fits_pf hmk.1.len mark.dbits
      have m6 := fits_pf hmk.2.len mark.sbits
      have q1 := eq_pfD (a := y.to.dip) (b := mark.dip) (n := y.to.dbits) (m := mark.dbits) (by rw [hyd.1.len, hmk.1.len])
      have q2 := eq_pfD (a := y.to.sip) (b := mark.sip) (n := y.to.sbits) (m := mark.sbits) (by rw [hyd.2.len, hmk.2.len])
      have hO : OwnS 50 40 (.slice (some ⟨bN, 0, none⟩) (y :: ys).length cN) (y :: ys).length (insC (y :: ys)) [(bN, .cells (insC (y :: ys) ++ junk).toArray 50 (0, 0))] := .inr ⟨bN, cN, junk, rfl, rfl, hxl, hjl, hnc⟩
      have hn0 : 0 < (y :: ys).length := by simp
      clear hxl hjl hnc
      refine g_run 6 rfl ?_
      refine g_ifF rfl (decide_eq_false (by omega)) ?_
      refine g_run 2 rfl ?_
      refine g_outX ?_
      refine g_run 3 rfl ?_
      refine g_cutC (ι := Unit) ⟨fun _ => (marked && decide (nearC y.to mark < 0)) = false, fun _ => [(12, .slice (some ⟨bN, 0, none⟩) (y :: ys).length cN), (4, .bool marked), (6, .pointer (some ⟨b6, 0, none⟩)), (7, .pointer (some ⟨b7, 0, none⟩)), (8, .pointer (some ⟨b8, 0, none⟩)), (10, .pointer (some ⟨b10, 0, none⟩))], fun _ => [[(bN, .cells (insC (y :: ys) ++ junk).toArray 50 (0, 0))], [(b10, .cells inZ.toArray 50 (0, 0))], [(b8, .cells (dvC mark).toArray 45 (0, 0))], [(b7, .cells (ipC dst).toArray 39 (0, 0))], [(b6, .cells (ipC src).toArray 39 (0, 0))]]⟩ ?_ ?_
      · cases marked
        · refine g_run 1 rfl ?_
          refine g_draw 15 152 rfl (by kernel_rfl) ?_
          refine fd_run 15 rfl ?_
          refine fd_done rfl rfl ?_
          refine g_run 4 rfl ?_
          exact g_join () rfl (fun a F => F.only [12, 4, 6, 7, 8, 10] rfl) (by (try dsimp only); repeat (first | exact .refl _ | with_reducible exact List.nil_sublist _ | with_reducible apply List.Sublist.cons_cons | apply List.Sublist.cons))
        · by_cases k : nearC y.to mark < 0
          · refine g_run 1 rfl ?_
            refine g_draw 15 152 rfl (by kernel_rfl) ?_
            refine fd_run 7 rfl ?_
            refine fd_ixS rfl rfl (by omega) (by omega) ?_
            refine fd_run 1 rfl ?_
            refine fd_ldA 0 rfl rfl (by with_reducible assumption) ?_
            refine fd_ldA 2 rfl rfl (dv_all (by assumption)) ?_
            refine fd_call rfl rfl (fun w M => rnearest_c _ _ (by assumption) (by assumption) _) ?_
            refine fd_run 3 rfl ?_
            refine fd_done rfl rfl ?_
            refine g_run 2 rfl ?_
            refine g_ifT rfl (decide_eq_true (by omega)) ?_
            refine g_run 2 rfl ?_
            refine g_v (fun a w F M R r => o_build F rfl (by assumption) r) ?_
            refine g_stA 1 rfl rfl (in_len (by assumption)) (in_one _) rfl (put_all (by rw [in_len (by assumption)]; first | rfl | rw [in_len (by assumption)])) rfl ?_
            refine g_run 4 rfl ?_
            refine g_jR ?_
            refine g_run 1 rfl ?_
            refine g_retC2 1 rfl rfl rfl rfl (in_all (by assumption)) rfl fun w M => ?_
            exact tup_in (lookN_far (by simp [k])) M.ext
          · refine g_run 1 rfl ?_
            refine g_draw 15 152 rfl (by kernel_rfl) ?_
            refine fd_run 7 rfl ?_
            refine fd_ixS rfl rfl (by omega) (by omega) ?_
            refine fd_run 1 rfl ?_
            refine fd_ldA 0 rfl rfl (by with_reducible assumption) ?_
            refine fd_ldA 2 rfl rfl (dv_all (by assumption)) ?_
            refine fd_call rfl rfl (fun w M => rnearest_c _ _ (by assumption) (by assumption) _) ?_
            refine fd_run 3 rfl ?_
            refine fd_done rfl rfl ?_
            refine g_run 2 rfl ?_
            refine g_ifF rfl (decide_eq_false (by omega)) ?_
            refine g_run 1 rfl ?_
            exact g_join () (by simp [k]) (fun a F => F.only [12, 4, 6, 7, 8, 10] rfl) (by (try dsimp only); repeat (first | exact .refl _ | with_reducible exact List.nil_sublist _ | with_reducible apply List.Sublist.cons_cons | apply List.Sublist.cons))
      rintro _ hk
      rw [lookN_near hk]
      clear hk
      refine g_run 4 rfl ?_
      refine g_ixS rfl rfl (by omega) (by omega) ?_
      refine g_ldA 0 rfl rfl (by with_reducible assumption) ?_
      refine g_alloc fun b15 => ?_
      refine g_stA 0 rfl rfl (in_len (by assumption)) (in_one _) rfl (put_all (by rw [in_len (by assumption)]; first | rfl | rw [in_len (by assumption)])) rfl ?_
      refine g_run 3 rfl ?_
      refine g_cutC (ι := InsV) ⟨fun c => IsIn c ∧ endN (if (marked && sameV y.to mark) = true then (y :: ys).find? (fun e => decide (e.to = mark)) else some (cheap (y :: ys) y)) = endN (some c), fun _ => [(15, .pointer (some ⟨b15, 0, none⟩)), (10, .pointer (some ⟨b10, 0, none⟩))], fun c => [[(b15, .cells (inC c).toArray 50 (0, 0))], [(b10, .cells inZ.toArray 50 (0, 0))]]⟩ ?_ ?_
      · refine g_run 1 rfl ?_
        refine g_cutC (ι := Unit) ⟨fun _ => True, fun _ => [(121, .bool (marked && sameV y.to mark)), (15, .pointer (some ⟨b15, 0, none⟩)), (12, .slice (some ⟨bN, 0, none⟩) (y :: ys).length cN), (4, .bool marked), (6, .pointer (some ⟨b6, 0, none⟩)), (7, .pointer (some ⟨b7, 0, none⟩)), (8, .pointer (some ⟨b8, 0, none⟩)), (10, .pointer (some ⟨b10, 0, none⟩))], fun _ => [[(b15, .cells (inC y).toArray 50 (0, 0))], [(bN, .cells (insC (y :: ys) ++ junk).toArray 50 (0, 0))], [(b10, .cells inZ.toArray 50 (0, 0))], [(b8, .cells (dvC mark).toArray 45 (0, 0))], [(b7, .cells (ipC dst).toArray 39 (0, 0))], [(b6, .cells (ipC src).toArray 39 (0, 0))]]⟩ ?_ ?_
        · unfold sameV
          cases marked
          · refine g_draw 21 152 rfl (by kernel_rfl) ?_
            refine fd_run 21 rfl ?_
            refine fd_done rfl rfl ?_
            refine g_run 1 rfl ?_
            exact g_join () trivial (fun a F => F.only [121, 15, 12, 4, 6, 7, 8, 10] rfl) (by (try dsimp only); repeat (first | exact .refl _ | with_reducible exact List.nil_sublist _ | with_reducible apply List.Sublist.cons_cons | apply List.Sublist.cons))
          · cases d1 : (decide (y.to.dip = mark.dip) && decide (y.to.dbits = mark.dbits))
            · rw [d1] at q1
              refine g_draw 21 152 rfl (by kernel_rfl) ?_
              refine fd_run 3 rfl ?_
              refine fd_ixS rfl rfl (by omega) (by omega) ?_
              refine fd_run 2 rfl ?_
              refine fd_ldA 1 rfl rfl (by with_reducible assumption) ?_
              refine fd_run 1 rfl ?_
              refine fd_ldA 3 rfl rfl (dv_dst (by assumption)) ?_
              refine fd_eqA rfl rfl (by assumption) (by assumption) (by assumption) ?_
              refine fd_run 11 rfl ?_
              refine fd_done rfl rfl ?_
              refine g_run 1 rfl ?_
              exact g_join () trivial (fun a F => F.only [121, 15, 12, 4, 6, 7, 8, 10] rfl) (by (try dsimp only); repeat (first | exact .refl _ | with_reducible exact List.nil_sublist _ | with_reducible apply List.Sublist.cons_cons | apply List.Sublist.cons))
            · rw [d1] at q1
              cases d2 : (decide (y.to.sip = mark.sip) && decide (y.to.sbits = mark.sbits))
              · rw [d2] at q2
                refine g_draw 21 152 rfl (by kernel_rfl) ?_
                refine fd_run 3 rfl ?_
                refine fd_ixS rfl rfl (by omega) (by omega) ?_
                refine fd_run 2 rfl ?_
                refine fd_ldA 1 rfl rfl (by with_reducible assumption) ?_
                refine fd_run 1 rfl ?_
                refine fd_ldA 3 rfl rfl (dv_dst (by assumption)) ?_
                refine fd_eqA rfl rfl (by assumption) (by assumption) (by assumption) ?_
                refine fd_run 3 rfl ?_
                refine fd_ixS rfl rfl (by omega) (by omega) ?_
                refine fd_run 2 rfl ?_
                refine fd_ldA 1 rfl rfl (by with_reducible assumption) ?_
                refine fd_run 1 rfl ?_
                refine fd_ldA 3 rfl rfl (dv_src (by assumption)) ?_
                refine fd_eqA rfl rfl (by assumption) (by assumption) (by assumption) ?_
                refine fd_run 1 rfl ?_
                refine fd_done rfl rfl ?_
                refine g_run 1 rfl ?_
                exact g_join () trivial (fun a F => F.only [121, 15, 12, 4, 6, 7, 8, 10] rfl) (by (try dsimp only); repeat (first | exact .refl _ | with_reducible exact List.nil_sublist _ | with_reducible apply List.Sublist.cons_cons | apply List.Sublist.cons))
              · rw [d2] at q2
                refine g_draw 21 152 rfl (by kernel_rfl) ?_
                refine fd_run 3 rfl ?_
                refine fd_ixS rfl rfl (by omega) (by omega) ?_
                refine fd_run 2 rfl ?_
                refine fd_ldA 1 rfl rfl (by with_reducible assumption) ?_
                refine fd_run 1 rfl ?_
                refine fd_ldA 3 rfl rfl (dv_dst (by assumption)) ?_
                refine fd_eqA rfl rfl (by assumption) (by assumption) (by assumption) ?_
                refine fd_run 3 rfl ?_
                refine fd_ixS rfl rfl (by omega) (by omega) ?_
                refine fd_run 2 rfl ?_
                refine fd_ldA 1 rfl rfl (by with_reducible assumption) ?_
                refine fd_run 1 rfl ?_
                refine fd_ldA 3 rfl rfl (dv_src (by assumption)) ?_
                refine fd_eqA rfl rfl (by assumption) (by assumption) (by assumption) ?_
                refine fd_run 1 rfl ?_
                refine fd_done rfl rfl ?_
                refine g_run 1 rfl ?_
                exact g_join () trivial (fun a F => F.only [121, 15, 12, 4, 6, 7, 8, 10] rfl) (by (try dsimp only); repeat (first | exact .refl _ | with_reducible exact List.nil_sublist _ | with_reducible apply List.Sublist.cons_cons | apply List.Sublist.cons))
        rintro _ _
        clear q1 q2 g2 g3 g4 g5 g6 m3 m4 m5 m6
        cases hsm : (marked && sameV y.to mark)
        · dsimp only
          rw [if_neg (by simp)]
          refine g_run 10 rfl ?_
          refine g_loop (ι := Nat × InsV) ⟨fun (i, c) => (y :: ys).length - i, fun (i, c) => i ≤ (y :: ys).length ∧ c = cheap ((y :: ys).take i) y, fun (i, c) => [(134, .int .i64 i), (133, .int .i64 (y :: ys).length), (132, .slice (some ⟨bN, 0, none⟩) (y :: ys).length cN), (15, .pointer (some ⟨b15, 0, none⟩)), (10, .pointer (some ⟨b10, 0, none⟩))], fun (i, c) => [[(b15, .cells (inC c).toArray 50 (0, 0))], [(bN, .cells (insC (y :: ys) ++ junk).toArray 50 (0, 0))], [(b10, .cells inZ.toArray 50 (0, 0))]]⟩ (0, y) ⟨by omega, rfl⟩ (fun a F => F.only [134, 133, 132, 15, 10] rfl) (by repeat (first | exact .refl _ | apply List.Sublist.cons_cons | apply List.Sublist.cons)) ?_
          rintro ⟨j, c⟩ ⟨hj, hc⟩
          dsimp only
          have cI : IsIn c := by rw [hc]; exact cheap_p (fun x hx => hnI x (List.mem_of_mem_take hx)) hyv
          by_cases hlt_j : j < (y :: ys).length
          · have gi : seg (insC (y :: ys) ++ junk) (0 + (j : Int).toNat * 40) 40 = some (inC (y :: ys)[j]) := own_el hsz junk hlt_j (by omega)
            have xI := hnI _ (List.getElem_mem hlt_j)
            have hch := cheap_step (y := y) hlt_j
            rw [← hc] at hch
            obtain ⟨x, hx0⟩ : ∃ x, x = (y :: ys)[j] := ⟨_, rfl⟩
            rw [← hx0] at gi xI hch
            clear hc hx0
            by_cases k5 : x.own.met < c.own.met
            · rw [if_pos k5] at hch
              refine g_run 6 rfl ?_
              refine g_ifT rfl (decide_eq_true (by omega)) ?_
              refine g_run 6 rfl ?_
              refine g_ixS rfl rfl (by omega) (by omega) ?_
              refine g_ldA 1 rfl rfl (by with_reducible assumption) ?_
              refine g_alloc fun b18 => ?_
              refine g_stA 0 rfl rfl (in_len (by assumption)) (in_one _) rfl (put_all (by rw [in_len (by assumption)]; first | rfl | rw [in_len (by assumption)])) rfl ?_
              refine g_run 6 rfl ?_
              refine g_ld1 0 rfl rfl (in_own_met (by assumption)) ?_
              refine g_run 2 rfl ?_
              refine g_ld1 1 rfl rfl (in_own_met (by assumption)) ?_
              refine g_run 3 rfl ?_
              refine g_ifT rfl (decide_eq_true (by omega)) ?_
              refine g_run 1 rfl ?_
              refine g_ldA 0 rfl rfl (in_all (by assumption)) ?_
              refine g_stA 1 rfl rfl (in_len (by assumption)) (in_one _) rfl (put_all (by rw [in_len (by assumption)]; first | rfl | rw [in_len (by assumption)])) rfl ?_
              refine g_run 4 rfl ?_
              refine g_add rfl rfl (w_i64 (by omega) (by omega)) ?_
              refine g_run 2 rfl ?_
              exact g_next (j + 1, x) ⟨by omega, hch.symm⟩ (by dsimp only; omega) (fun a F => F.only [134, 133, 132, 15, 10] rfl) (by (try dsimp only); repeat (first | exact .refl _ | with_reducible exact List.nil_sublist _ | with_reducible apply List.Sublist.cons_cons | apply List.Sublist.cons))
            · rw [if_neg k5] at hch
              refine g_run 6 rfl ?_
              refine g_ifT rfl (decide_eq_true (by omega)) ?_
              refine g_run 6 rfl ?_
              refine g_ixS rfl rfl (by omega) (by omega) ?_
              refine g_ldA 1 rfl rfl (by with_reducible assumption) ?_
              refine g_alloc fun b18 => ?_
              refine g_stA 0 rfl rfl (in_len (by assumption)) (in_one _) rfl (put_all (by rw [in_len (by assumption)]; first | rfl | rw [in_len (by assumption)])) rfl ?_
              refine g_run 6 rfl ?_
              refine g_ld1 0 rfl rfl (in_own_met (by assumption)) ?_
              refine g_run 2 rfl ?_
              refine g_ld1 1 rfl rfl (in_own_met (by assumption)) ?_
              refine g_run 3 rfl ?_
              refine g_ifF rfl (decide_eq_false (by omega)) ?_
              refine g_run 4 rfl ?_
              refine g_add rfl rfl (w_i64 (by omega) (by omega)) ?_
              refine g_run 2 rfl ?_
              exact g_next (j + 1, c) ⟨by omega, hch.symm⟩ (by dsimp only; omega) (fun a F => F.only [134, 133, 132, 15, 10] rfl) (by (try dsimp only); repeat (first | exact .refl _ | with_reducible exact List.nil_sublist _ | with_reducible apply List.Sublist.cons_cons | apply List.Sublist.cons))
          · have hje : j = (y :: ys).length := by omega
            rw [hje, List.take_length] at hc
            refine g_run 6 rfl ?_
            refine g_ifF rfl (decide_eq_false (by omega)) ?_
            refine g_run 2 rfl ?_
            refine g_outX ?_
            refine g_run 1 rfl ?_
            exact g_join c ⟨cI, by rw [hc]⟩ (fun a F => F.only [15, 10] rfl) (by (try dsimp only); repeat (first | exact .refl _ | with_reducible exact List.nil_sublist _ | with_reducible apply List.Sublist.cons_cons | apply List.Sublist.cons))
        · dsimp only
          rw [if_pos rfl]
          have hcl : ∀ w, Mem [] W w (List.flatten [[(b15, .cells (inC y).toArray 50 (0, 0))], [(bN, .cells (insC (y :: ys) ++ junk).toArray 50 (0, 0))], [(b10, .cells inZ.toArray 50 (0, 0))], [(b8, .cells (dvC mark).toArray 45 (0, 0))], [(b7, .cells (ipC dst).toArray 39 (0, 0))], [(b6, .cells (ipC src).toArray 39 (0, 0))]]) → ∀ w' (e : InsV), Ext [] w w' → e ∈ y :: ys → Cal Tryz.prog 110 [.agg (inC e).toArray, .pointer (some ⟨b8, 0, none⟩)].toArray w' fun v w'' => v = .bool (decide (e.to = mark)) ∧ Ext [] w' w'' := fun w M w' e E he =>
            lookup1_c e (hnI e he) mark hmk w' ((M.later E).at_ _ (nthO_mem (l := [[(b15, .cells (inC y).toArray 50 (0, 0))], [(bN, .cells (insC (y :: ys) ++ junk).toArray 50 (0, 0))], [(b10, .cells inZ.toArray 50 (0, 0))], [(b8, .cells (dvC mark).toArray 45 (0, 0))], [(b7, .cells (ipC dst).toArray 39 (0, 0))], [(b6, .cells (ipC src).toArray 39 (0, 0))]]) (i := 3) rfl))
          refine g_run 5 rfl ?_
          refine g_v (fun a w F M R r => o_makeFunc (F.evs (xs := []) rfl) (F.evs (xs := [.tmp 8]) rfl) r) ?_
          refine g_call rfl rfl (fun w M => indexI_c (ls := y :: ys) w (hO.slAt M (fun p hp => by simp at hp; simp [hp])) hnI (by omega) 110 [.pointer (some ⟨b8, 0, none⟩)] (fun e => decide (e.to = mark)) (hcl w M)) ?_
          rcases findI_find (p := fun e : InsV => decide (e.to = mark)) (ls := y :: ys) with ⟨h1, h2⟩ | ⟨i, hi, h1, h2⟩
          · rw [h1]
            refine g_run 13 rfl ?_
            refine g_v (fun a w F M R r => o_build F rfl (by assumption) r) ?_
            refine g_stA 2 rfl rfl (in_len (by assumption)) (in_one _) rfl (put_all (by rw [in_len (by assumption)]; first | rfl | rw [in_len (by assumption)])) rfl ?_
            refine g_run 5 rfl ?_
            refine g_jR ?_
            refine g_run 1 rfl ?_
            refine g_retC2 2 rfl rfl rfl rfl (in_all (by assumption)) rfl fun w M => ?_
            exact tup_in (by rw [h2]; rfl) M.ext
          · rw [h1]
            have gi : seg (insC (y :: ys) ++ junk) (0 + (i : Int).toNat * 40) 40 = some (inC (y :: ys)[i]) := own_el hsz junk hi (by omega)
            have cI := hnI _ (List.getElem_mem hi)
            obtain ⟨c, hc⟩ : ∃ c, c = (y :: ys)[i] := ⟨_, rfl⟩
            rw [← hc] at gi cI h2
            refine g_run 16 rfl ?_
            refine g_ixS rfl rfl (by omega) (by omega) ?_
            refine g_ldA 1 rfl rfl (by with_reducible assumption) ?_
            refine g_stA 0 rfl rfl (in_len (by assumption)) (in_one _) rfl (put_all (by rw [in_len (by assumption)]; first | rfl | rw [in_len (by assumption)])) rfl ?_
            refine g_run 1 rfl ?_
            exact g_join c ⟨cI, by rw [h2]⟩ (fun a F => F.only [15, 10] rfl) (by (try dsimp only); repeat (first | exact .refl _ | with_reducible exact List.nil_sublist _ | with_reducible apply List.Sublist.cons_cons | apply List.Sublist.cons))
      rintro c ⟨cI, hE⟩
      rw [hE]
      by_cases k9 : c.nb = 0
      · have k8 : (!decide (c.nb = 0)) = false := by simp [k9]
        refine g_run 4 rfl ?_
        refine g_ldA 0 rfl rfl (in_all (by assumption)) ?_
        refine g_call rfl rfl (fun w M => rtreach_c _ (by assumption) _) ?_
        refine g_run 3 rfl ?_
        refine g_ifT rfl (notT (by assumption)) ?_
        refine g_run 2 rfl ?_
        refine g_v (fun a w F M R r => o_build F rfl (by assumption) r) ?_
        refine g_stA 1 rfl rfl (in_len (by assumption)) (in_one _) rfl (put_all (by rw [in_len (by assumption)]; first | rfl | rw [in_len (by assumption)])) rfl ?_
        refine g_run 5 rfl ?_
        refine g_retC2 1 rfl rfl rfl rfl (in_all (by assumption)) rfl fun w M => ?_
        exact tup_in (by unfold endN; simp [k9]) M.ext
      · have k8 : (!decide (c.nb = 0)) = true := by simp [k9]
        refine g_run 4 rfl ?_
        refine g_ldA 0 rfl rfl (in_all (by assumption)) ?_
        refine g_call rfl rfl (fun w M => rtreach_c _ (by assumption) _) ?_
        refine g_run 3 rfl ?_
        refine g_ifF rfl (notF (by assumption)) ?_
        refine g_run 4 rfl ?_
        refine g_ldA 0 rfl rfl (in_all (by assumption)) ?_
        refine g_stA 1 rfl rfl (in_len (by assumption)) (in_one _) rfl (put_all (by rw [in_len (by assumption)]; first | rfl | rw [in_len (by assumption)])) rfl ?_
        refine g_run 4 rfl ?_
        refine g_retC2 1 rfl rfl rfl rfl (in_all (by assumption)) rfl fun w M => ?_
        exact tup_in (by unfold endN; simp [k9]) M.ext
end Go.Proofs.YtilgoepokaaleaaGreat
/-! YN -/
namespace Go.Proofs.YtilgoepokaaleaaGreat
set_option linter.unusedVariables false
set_option linter.unusedSimpArgs false
open Go.RowKit
attribute [local irreducible] OpTo wpListIn Code.wpIn MW Cal
set_option maxHeartbeats 2000000 in
theorem equalR_c (l : List RouV) (hx : ∀ x ∈ l, IsRo x) (hlen : l.length ≤ 100000) (u v : Value) (W : World) (hu : SlAt W 39 u l.length (rosC l)) (hv : SlAt W 39 v l.length (rosC l)) :
    Cal Tryz.prog 90 [u, v].toArray W fun r w' => r = .bool true ∧ Ext [] W w' := by
  obtain ⟨q1, cap1, rfl, hc1, hn1, hl1, hm1⟩ := hu
  obtain ⟨q2, cap2, rfl, hc2, hn2, hl2, hm2⟩ := hv
  refine fn_ofM (n := 26) [] Tryz.func90 rfl rfl rfl ?_
  intro a w F M hwW
  refine c_seq (c_region ?_)
  refine sD F (o_assign (F.ev rfl) ?_); clear F a; intro a F
  with_reducible refine l_nil (q_then (c_seq (c_seq (c_region ?_))))
  refine sD F (o_move (F.ev rfl) ?_); clear F a; intro a F
  refine sD F (o_lenSl (F.ev rfl) ?_); clear F a; intro a F
  refine sD F (o_move (F.ev rfl) ?_); clear F a; intro a F
  refine sD F (o_lenSl (F.ev rfl) ?_); clear F a; intro a F
  refine sD F (o_neqF (F.ev rfl) (F.ev rfl) (by omega) ?_); clear F a; intro a F
  with_reducible refine l_nil (q_then ?_)
  refine c_false F rfl rfl ?_
  with_reducible refine c_skip (q_then (c_seq (c_seq (c_region ?_))))
  refine sD F (o_move (F.ev rfl) ?_); clear F a; intro a F
  refine sD F (o_lenSl (F.ev rfl) ?_); clear F a; intro a F
  refine sD F (o_move (F.ev rfl) ?_); clear F a; intro a F
  with_reducible refine l_nil (q_then (c_block ?_))
  refine c_loop (fun m a w => ∃ i : Nat, m = l.length - i ∧ i ≤ l.length ∧ Frm a 26 [] [(13, .int .i64 i), (12, .int .i64 l.length), (0, .slice q1 l.length cap1), (1, .slice q2 l.length cap2)] ∧ Mem [] W w []) l.length ⟨0, rfl, by omega, F.only [13, 12, 0, 1] rfl, M⟩ ?_
  clear F M
  rintro m a w ⟨i, hm', hi, F, M⟩
  by_cases hlt : i < l.length
  · obtain ⟨b, o, cs, t, fz, rfl, hb, hs⟩ := hm1 (by omega)
    obtain ⟨b', o', cs', t', fz', rfl, hb', hs'⟩ := hm2 (by omega)
    obtain ⟨p, hp0⟩ : ∃ p, p = l[i] := ⟨_, rfl⟩
    have hpi : IsRo p := by rw [hp0]; exact hx _ (List.getElem_mem hlt)
    have f1 : seg cs (o + (i : Int).toNat * 39) 39 = some (roC p) := by rw [hp0]; exact seg_el (ros_len hx) hs hlt (by omega)
    have f2 : seg cs' (o' + (i : Int).toNat * 39) 39 = some (roC p) := by rw [hp0]; exact seg_el (ros_len hx) hs' hlt (by omega)
    have f3 := ro_fits hpi
    have f4 : eqVs (roC p) (roC p) = true := by rw [ro_eq hpi hpi]; simp
    refine c_seq (c_region ?_)
    refine sD F (o_lssT (F.ev rfl) (F.ev rfl) (by omega) ?_); clear F a; intro a F
    with_reducible refine l_nil (q_then (c_seq ?_))
    refine c_true F rfl rfl ?_
    with_reducible refine c_skip (q_then (c_seq (c_block (c_seq (c_region ?_)))))
    refine sD F (o_move (F.ev rfl) ?_); clear F a; intro a F
    refine sD F (o_assign (F.ev rfl) ?_); clear F a; intro a F
    with_reducible refine l_nil (q_then (c_seq ?_))
    replace F := F.only [13, 12, 0, 1, 5] rfl
    refine c_draw 8 F (by kernel_rfl) ?_
    intro w1 hE hok
    have M1 := M.later hE
    refine mK hok rfl rfl (fun a' w' F' E' => o_move (F'.ev rfl) ⟨Ext.refl _ _, rfl⟩) ?_
    refine mK hok rfl rfl (fun a' w' F' E' => o_move (F'.ev rfl) ⟨Ext.refl _ _, rfl⟩) ?_
    refine mK hok rfl rfl (fun a' w' F' E' => o_indexSl (F'.ev rfl) (F'.ev rfl) (by omega) (by omega) ⟨Ext.refl _ _, rfl⟩) ?_
    refine mK hok rfl rfl (fun a' w' F' E' => o_loadWA (M1.later E') (F'.ev rfl) (by assumption) (by first | assumption | rfl) ⟨Ext.refl _ _, rfl⟩) ?_
    refine mK hok rfl rfl (fun a' w' F' E' => o_move (F'.ev rfl) ⟨Ext.refl _ _, rfl⟩) ?_
    refine mK hok rfl rfl (fun a' w' F' E' => o_move (F'.ev rfl) ⟨Ext.refl _ _, rfl⟩) ?_
    refine mK hok rfl rfl (fun a' w' F' E' => o_indexSl (F'.ev rfl) (F'.ev rfl) (by omega) (by omega) ⟨Ext.refl _ _, rfl⟩) ?_
    refine mK hok rfl rfl (fun a' w' F' E' => o_loadWA (M1.later E') (F'.ev rfl) (by assumption) (by first | assumption | rfl) ⟨Ext.refl _ _, rfl⟩) ?_
    (refine mDone rfl rfl ?_; clear F M; intro a w F hE2 hX hTT hDD hPP; have M := M1.later hE2; clear M1; clear hX; clear hE2; clear hok; clear hE; clear hTT; clear hDD; clear hPP; (try dsimp only at F))
    refine sD F (o_neqAF (F.ev rfl) (F.ev rfl) (by first | assumption | rfl) (by first | assumption | rfl) (by assumption) ?_); clear F a; intro a F
    with_reducible refine l_nil (q_then ?_)
    refine c_false F rfl rfl ?_
    with_reducible refine c_skip (q_inB (q_then (c_region ?_)))
    refine sD F (o_add (F.ev rfl) (F.ev rfl) (w_i64 (by omega) (by omega)) ?_); clear F a; intro a F
    refine sD F (o_move (F.ev rfl) ?_); clear F a; intro a F
    with_reducible refine l_nil (q_then ?_)
    exact ⟨_, by omega, i + 1, rfl, by omega, F.only [13, 12, 0, 1] rfl, M⟩
  · obtain rfl : i = l.length := by omega
    refine c_seq (c_region ?_)
    refine sD F (o_lssF (F.ev rfl) (F.ev rfl) (by omega) ?_); clear F a; intro a F
    with_reducible refine l_nil (q_then (c_seq ?_))
    refine c_false F rfl rfl ?_
    with_reducible refine c_exit (q_thenX (q_thenX (q_inBX (q_then (c_seq (c_region ?_))))))
    refine sD F (o_assign (F.ev rfl) ?_); clear F a; intro a F
    with_reducible refine l_nil (q_then (c_ret ?_))
    refine p_ret F rfl (.cons (.tmp (F.ev rfl)) .nil) ?_
    exact ⟨rfl, M.ext⟩
set_option maxHeartbeats 1000000 in
theorem indexR_c {v : Value} {ls : List RouV} (W : World) (hS : SlAt W 39 v ls.length (rosC ls)) (hls : ∀ l ∈ ls, IsRo l) (hlen : ls.length ≤ 1000) (g : FuncId) [hg : TBody Tryz.prog g] (caps : List Value) (p : RouV → Bool)
    (hcl : ∀ w l, Ext [] W w → l ∈ ls → Cal Tryz.prog g (.agg (roC l).toArray :: caps).toArray w fun v w' => v = .bool (p l) ∧ Ext [] w w') :
    Cal Tryz.prog 142 [v, .func (.func g) #[] caps.toArray].toArray W fun x w' => x = .int .i64 (findI p ls) ∧ Ext [] W w' := by
  obtain ⟨q, cap, rfl, hcap, hsp, hl, hm⟩ := hS
  refine fn_ofM (n := 19) [] Tryz.func142 rfl rfl rfl ?_
  intro a w F M hwW
  refine c_seq (c_region ?_)
  refine sD F (o_assign (F.ev rfl) ?_); clear F a; intro a F
  with_reducible refine l_nil (q_then (c_seq (c_seq (c_region ?_))))
  refine sD F (o_move (F.ev rfl) ?_); clear F a; intro a F
  refine sD F (o_lenSl (F.ev rfl) ?_); clear F a; intro a F
  refine sD F (o_move (F.ev rfl) ?_); clear F a; intro a F
  with_reducible refine l_nil (q_then (c_block ?_))
  refine c_loop (fun k a w => ∃ i : Nat, k = ls.length - i ∧ i ≤ ls.length ∧ (∀ j (hj : j < i) (hj2 : j < ls.length), p ls[j] = false) ∧ Frm a 19 [] [(8, .int .i64 i), (7, .int .i64 ls.length), (0, .slice q ls.length cap), (1, .func (.func g) #[] caps.toArray)] ∧ Mem [] W w []) ls.length ⟨0, rfl, by omega, by omega, F.only [8, 7, 0, 1] rfl, M⟩ ?_
  clear F M
  rintro k a w ⟨i, hk, hi, hno, F, M⟩
  by_cases hlt : i < ls.length
  · obtain ⟨b, o, cs, t, fz, rfl, hb, hs⟩ := hm (by omega)
    have e1 : seg cs (o + (i : Int).toNat * 39) 39 = some (roC ls[i]) := seg_el (ros_len hls) hs hlt (by omega)
    refine c_seq (c_region ?_)
    refine sD F (o_lssT (F.ev rfl) (F.ev rfl) (by omega) ?_); clear F a; intro a F
    with_reducible refine l_nil (q_then (c_seq ?_))
    refine c_true F rfl rfl ?_
    with_reducible refine c_skip (q_then (c_seq (c_block (c_seq (c_region ?_)))))
    refine sD F (o_move (F.ev rfl) ?_); clear F a; intro a F
    refine sD F (o_assign (F.ev rfl) ?_); clear F a; intro a F
    with_reducible refine l_nil (q_then (c_seq (c_region ?_)))
    refine sD F (o_move (F.ev rfl) ?_); clear F a; intro a F
    refine sD F (o_move (F.ev rfl) ?_); clear F a; intro a F
    refine sD F (o_move (F.ev rfl) ?_); clear F a; intro a F
    refine sD F (o_indexSl (F.ev rfl) (F.ev rfl) (by omega) (by omega) ?_); clear F a; intro a F
    refine sD F (o_loadWA M (F.ev rfl) (by assumption) (by first | assumption | rfl) ?_); clear F a; intro a F
    (refine sD F (o_callCl (us := (.agg (roC ls[i]).toArray :: caps).toArray) (F.ev rfl) (F.evs rfl) (by simp) (Cal.mono (hcl _ ls[i] M.ext (List.getElem_mem hlt)) ?_)); clear F; clear a; rintro _ w ⟨rfl, hE⟩ a F; replace M := M.later hE; clear hE)
    cases hp : p ls[i]
    · rw [hp] at F
      with_reducible refine l_nil (q_then ?_)
      refine c_false F rfl rfl ?_
      with_reducible refine c_skip (q_inB (q_then (c_region ?_)))
      refine sD F (o_add (F.ev rfl) (F.ev rfl) (w_i64 (by omega) (by omega)) ?_); clear F a; intro a F
      refine sD F (o_move (F.ev rfl) ?_); clear F a; intro a F
      with_reducible refine l_nil (q_then ?_)
      exact ⟨_, by omega, i + 1, rfl, by omega, fun j hj hj2 => by
        rcases Nat.lt_or_ge j i with h | h
        · exact hno j h hj2
        · obtain rfl : j = i := by omega
          exact hp, F.only [8, 7, 0, 1] rfl, M⟩
    · rw [hp] at F
      with_reducible refine l_nil (q_then ?_)
      refine c_true F rfl rfl ?_
      refine c_seq (c_region ?_)
      refine sD F (o_move (F.ev rfl) ?_); clear F a; intro a F
      refine sD F (o_assign (F.ev rfl) ?_); clear F a; intro a F
      with_reducible refine l_nil (q_then (c_ret (q_inBR (q_thenR (q_thenR (q_inBR (q_thenR ?_)))))))
      refine p_ret F rfl (.cons (.tmp (F.ev rfl)) .nil) ?_
      exact ⟨by rw [findI_at hlt hp fun j hj => hno j hj (by omega)]; rfl, M.ext⟩
  · obtain rfl : i = ls.length := by omega
    refine c_seq (c_region ?_)
    refine sD F (o_lssF (F.ev rfl) (F.ev rfl) (by omega) ?_); clear F a; intro a F
    with_reducible refine l_nil (q_then (c_seq ?_))
    refine c_false F rfl rfl ?_
    with_reducible refine c_exit (q_thenX (q_thenX (q_inBX (q_then (c_seq (c_region ?_))))))
    refine sD F (o_assign (F.ev rfl) ?_); clear F a; intro a F
    with_reducible refine l_nil (q_then (c_ret ?_))
    refine p_ret F rfl (.cons (.tmp (F.ev rfl)) .nil) ?_
    exact ⟨by rw [findI_none fun j hj => hno j hj hj]; rfl, M.ext⟩
theorem filter_step {α : Type} {p : α → Bool} {ls : List α} {j : Nat} (h : j < ls.length) : (ls.take (j + 1)).filter p = (ls.take j).filter p ++ if p ls[j] = true then [ls[j]] else [] := by
  rw [List.take_add_one, List.getElem?_eq_getElem h, List.filter_append]
  simp only [Option.toList_some, List.filter_cons, List.filter_nil]
set_option maxHeartbeats 8000000 in
theorem deleteFuncR_c {ls : List RouV} (hI : ∀ x ∈ ls, IsRo x) (hlen : ls.length ≤ 1000) {b cap : Nat} {junk : List Value} (W : World) (hb : W.heap[b]? = some (.cells (rosC ls ++ junk).toArray 53 (0, 0))) (hjl : junk.length = (cap - ls.length) * 39) (hnc : ls.length ≤ cap) (g : FuncId) [hg : TBody Tryz.prog g] (caps : List Value) (p : RouV → Bool)
    (hcl : ∀ w x, Ext [b] W w → x ∈ ls → Cal Tryz.prog g (.agg (roC x).toArray :: caps).toArray w fun v w' => v = .bool (p x) ∧ Ext [] w w') :
    Cal Tryz.prog 124 [.slice (some ⟨b, 0, none⟩) ls.length cap, .func (.func g) #[] caps.toArray].toArray W fun r w' => ∃ junk' : List Value, r = .slice (some ⟨b, 0, none⟩) (ls.filter fun x => !p x).length cap ∧ junk'.length = (cap - (ls.filter fun x => !p x).length) * 39 ∧ (ls.filter fun x => !p x).length ≤ cap ∧ Mem [b] W w' [(b, .cells (rosC (ls.filter fun x => !p x) ++ junk').toArray 53 (0, 0))] := by
  have hsz : ∀ x ∈ ls, (roC x).length = 39 := ros_len hI
  refine fn_ofM (n := 42) [b] Tryz.func124 rfl rfl rfl ?_
  intro a w F M hwW
  replace M := M.came hwW hb (by simp) (by simp)
  have hO : OwnS 53 39 (.slice (some ⟨b, 0, none⟩) ls.length cap) ls.length (rosC ls) [(b, .cells (rosC ls ++ junk).toArray 53 (0, 0))] := .inr ⟨b, cap, junk, rfl, rfl, encL_len hsz, hjl, hnc⟩
  refine c_seq (c_region ?_)
  refine sD F (o_assign (F.ev rfl) ?_); clear F a; intro a F
  with_reducible refine l_nil (q_then (c_seq (c_region ?_)))
  refine sD F (o_move (F.ev rfl) ?_); clear F a; intro a F
  refine sD F (o_move (F.ev rfl) ?_); clear F a; intro a F
  (refine sD F (o_call (F.ev rfl) (F.evs rfl) (Cal.mono (indexR_c _ (hO.slAt M (fun q hq => hq)) hI hlen g caps p (fun w' x E hm => hcl w' x (M.ext.trans E.any) hm)) ?_)); clear F; clear a; rintro _ w ⟨rfl, hE⟩ a F; replace M := M.later hE; clear hE)
  rcases findI_cases p ls with ⟨h1, h2⟩ | ⟨i, hi, h1, h2, h3⟩
  · have hfl : (ls.filter fun x => !p x) = ls := List.filter_eq_self.2 fun x hx => by rw [h2 x hx]; rfl
    rw [h1] at F
    rw [hfl]
    refine sD F (o_assign (F.ev rfl) ?_); clear F a; intro a F
    with_reducible refine l_nil (q_then (c_seq (c_seq (c_region ?_))))
    refine sD F (o_move (F.ev rfl) ?_); clear F a; intro a F
    refine sD F (o_eqlT (F.ev rfl) (F.ev rfl) (by omega) ?_); clear F a; intro a F
    with_reducible refine l_nil (q_then ?_)
    refine c_true F rfl rfl ?_
    refine c_seq (c_region ?_)
    refine sD F (o_move (F.ev rfl) ?_); clear F a; intro a F
    refine sD F (o_assign (F.ev rfl) ?_); clear F a; intro a F
    with_reducible refine l_nil (q_then (c_ret (q_thenR ?_)))
    refine p_ret F rfl (.cons (.tmp (F.ev rfl)) .nil) ?_
    exact ⟨junk, rfl, hjl, hnc, M⟩
  rw [h1] at F
  have hf0 : (ls.take i).filter (fun x => !p x) = ls.take i := List.filter_eq_self.2 fun x hx => by
    obtain ⟨j, hj, rfl⟩ := List.mem_iff_getElem.1 hx
    rw [List.length_take] at hj
    rw [List.getElem_take, h3 j (by omega)]; rfl
  have hf1 : (ls.take (i + 1)).filter (fun x => !p x) = ls.take i := by
    rw [filter_step hi, hf0, h2]; simp
  refine sD F (o_assign (F.ev rfl) ?_); clear F a; intro a F
  with_reducible refine l_nil (q_then (c_seq (c_seq (c_region ?_))))
  refine sD F (o_move (F.ev rfl) ?_); clear F a; intro a F
  refine sD F (o_eqlF (F.ev rfl) (F.ev rfl) (by omega) ?_); clear F a; intro a F
  with_reducible refine l_nil (q_then ?_)
  refine c_false F rfl rfl ?_
  with_reducible refine c_skip (q_then (c_seq (c_seq (c_region ?_))))
  refine sD F (o_move (F.ev rfl) ?_); clear F a; intro a F
  refine sD F (o_add (F.ev rfl) (F.ev rfl) (w_i64 (by omega) (by omega)) ?_); clear F a; intro a F
  refine sD F (o_assign (F.ev rfl) ?_); clear F a; intro a F
  with_reducible refine l_nil (q_then (c_block ?_))
  refine c_loop (fun m a w => ∃ (i2 j : Nat) (cur : List RouV), m = ls.length - j ∧ i2 < j ∧ j ≤ ls.length ∧ cur.length = ls.length ∧ (∀ x ∈ cur, IsRo x) ∧ cur.take i2 = (ls.take j).filter (fun x => !p x) ∧ (∀ q, j ≤ q → cur[q]? = ls[q]?) ∧ Frm a 42 [] [(5, .int .i64 i2), (6, .int .i64 j), (0, .slice (some ⟨b, 0, none⟩) ls.length cap), (1, .func (.func g) #[] caps.toArray)] ∧ Mem [b] W w [(b, .cells (rosC cur ++ junk).toArray 53 (0, 0))]) (ls.length - (i + 1)) ⟨i, i + 1, ls, rfl, by omega, by omega, rfl, hI, hf1.symm, fun _ _ => rfl, F.only [5, 6, 0, 1] rfl, M⟩ ?_
  clear F M
  rintro m a w ⟨i2, j, cur, hm, hi2, hj, hcl2, hcI, hct, hcp, F, M⟩
  have hcs := ros_len hcI
  by_cases hlt : j < ls.length
  · have e1 : cur[j] = ls[j] := by
      have := hcp j (by omega)
      rwa [List.getElem?_eq_getElem (by omega), List.getElem?_eq_getElem hlt, Option.some.injEq] at this
    have hst := filter_step (p := fun x => !p x) hlt
    have hxm : ls[j] ∈ ls := List.getElem_mem hlt
    have f1 : seg (rosC cur ++ junk) (0 + (j : Int).toNat * 39) 39 = some (roC ls[j]) := by rw [← e1]; exact own_el hcs junk (by omega) (by omega)
    clear e1
    generalize ls[j] = x at *
    have x1 := ro_len (hI x hxm)
    have x2 := ro_all (hI x hxm)
    with_reducible refine c_seq (c_seq (c_region ?_))
    refine sD F (o_move (F.ev rfl) ?_); clear F a; intro a F
    refine sD F (o_move (F.ev rfl) ?_); clear F a; intro a F
    refine sD F (o_lenSl (F.ev rfl) ?_); clear F a; intro a F
    refine sD F (o_lssT (F.ev rfl) (F.ev rfl) (by omega) ?_); clear F a; intro a F
    with_reducible refine l_nil (q_then ?_)
    refine c_true F rfl rfl ?_
    with_reducible refine c_skip (q_then (c_seq (c_block (c_seq (c_region ?_)))))
    refine sD F (o_move (F.ev rfl) ?_); clear F a; intro a F
    refine sD F (o_move (F.ev rfl) ?_); clear F a; intro a F
    refine sD F (o_indexSl (F.ev rfl) (F.ev rfl) (by omega) (by omega) ?_); clear F a; intro a F
    refine sD F (o_loadA M (F.ev rfl) (by repeat constructor) (by first | assumption | rfl) ?_); clear F a; intro a F
    (refine sD F (o_alloc M ?_); clear F M; intro b7 w M a F)
    (refine stepN rfl F (o_storeA M (F.ev rfl) (F.ev rfl) (x1) (ro_one x)  (by repeat constructor)  (put_all (by rw [x1]; rfl)) (by repeat constructor) ?_); clear F M; intro w M a F)
    with_reducible refine l_nil (q_then (c_seq (c_region ?_)))
    refine sD F (o_move (F.ev rfl) ?_); clear F a; intro a F
    refine sD F (o_loadA M (F.ev rfl) (by repeat constructor) (by first | assumption | rfl) ?_); clear F a; intro a F
    (refine sD F (o_callCl (us := (.agg (roC x).toArray :: caps).toArray) (F.ev rfl) (F.evs rfl) (by simp) (Cal.mono (hcl _ x M.ext hxm) ?_)); clear F; clear a; rintro _ w ⟨rfl, hE⟩ a F; replace M := M.later hE; clear hE)
    cases hp : p x
    · rw [hp] at F
      rw [if_pos (by rw [hp]; rfl)] at hst
      have hpt : put (rosC cur ++ junk) (0 + (i2 : Int).toNat * 39) (roC x) = some (rosC (cur.set i2 x) ++ junk) :=
        encL_put hcs junk (show i2 < cur.length by omega) (off := 0) (put_all (by rw [x1, hcs _ (List.getElem_mem _)])) (by omega)
      refine sD F (o_not (F.ev rfl) ?_); clear F a; intro a F
      with_reducible refine l_nil (q_then ?_)
      refine c_true F rfl rfl ?_
      refine c_seq (c_region ?_)
      refine sD F (o_move (F.ev rfl) ?_); clear F a; intro a F
      refine sD F (o_move (F.ev rfl) ?_); clear F a; intro a F
      refine sD F (o_loadA M (F.ev rfl) (by repeat constructor) (by first | assumption | rfl) ?_); clear F a; intro a F
      refine sD F (o_indexSl (F.ev rfl) (F.ev rfl) (by omega) (by omega) ?_); clear F a; intro a F
      (refine stepN rfl F (o_storeA M (F.ev rfl) (F.ev rfl) x1 (ro_one _)  (by repeat constructor)  hpt (by repeat constructor) ?_); clear F M; intro w M a F)
      with_reducible refine l_nil (q_then (c_region ?_))
      refine sD F (o_move (F.ev rfl) ?_); clear F a; intro a F
      refine sD F (o_add (F.ev rfl) (F.ev rfl) (w_i64 (by omega) (by omega)) ?_); clear F a; intro a F
      refine sD F (o_assign (F.ev rfl) ?_); clear F a; intro a F
      with_reducible refine l_nil (q_inB (q_then (c_region ?_)))
      refine sD F (o_move (F.ev rfl) ?_); clear F a; intro a F
      refine sD F (o_add (F.ev rfl) (F.ev rfl) (w_i64 (by omega) (by omega)) ?_); clear F a; intro a F
      refine sD F (o_assign (F.ev rfl) ?_); clear F a; intro a F
      with_reducible refine l_nil (q_then ?_)
      exact ⟨_, by omega, i2 + 1, j + 1, _, rfl, by omega, by omega, by rw [List.length_set]; exact hcl2, mem_set hcI (hI x hxm), by rw [take_set_succ (by omega), hct, hst], fun q hq => by rw [List.getElem?_set_ne (by omega)]; exact hcp q (by omega), F.only [5, 6, 0, 1] rfl, M.sub (.cons _ (.refl _))⟩
    · rw [hp] at F
      rw [if_neg (by rw [hp]; simp), List.append_nil] at hst
      refine sD F (o_not (F.ev rfl) ?_); clear F a; intro a F
      with_reducible refine l_nil (q_then ?_)
      refine c_false F rfl rfl ?_
      with_reducible refine c_skip (q_inB (q_then (c_region ?_)))
      refine sD F (o_move (F.ev rfl) ?_); clear F a; intro a F
      refine sD F (o_add (F.ev rfl) (F.ev rfl) (w_i64 (by omega) (by omega)) ?_); clear F a; intro a F
      refine sD F (o_assign (F.ev rfl) ?_); clear F a; intro a F
      with_reducible refine l_nil (q_then ?_)
      exact ⟨_, by omega, i2, j + 1, cur, rfl, by omega, by omega, hcl2, hcI, by rw [hct, hst], fun q hq => hcp q (by omega), F.only [5, 6, 0, 1] rfl, M.sub (.cons _ (.refl _))⟩
  · have hjl2 : j = ls.length := by omega
    rw [hjl2, List.take_length] at hct
    have hfl : (ls.filter fun x => !p x).length = i2 := by rw [← hct, List.length_take]; omega
    with_reducible refine c_seq (c_seq (c_region ?_))
    refine sD F (o_move (F.ev rfl) ?_); clear F a; intro a F
    refine sD F (o_move (F.ev rfl) ?_); clear F a; intro a F
    refine sD F (o_lenSl (F.ev rfl) ?_); clear F a; intro a F
    refine sD F (o_lssF (F.ev rfl) (F.ev rfl) (by omega) ?_); clear F a; intro a F
    with_reducible refine l_nil (q_then ?_)
    refine c_false F rfl rfl ?_
    with_reducible refine c_exit (q_thenX (q_thenX (q_inBX (q_then (c_seq (c_region ?_))))))
    refine sD F (o_move (F.ev rfl) ?_); clear F a; intro a F
    refine sD F (o_move (F.ev rfl) ?_); clear F a; intro a F
    (refine sD F (o_slL (F.ev rfl) (F.ev rfl) (by omega) (by omega) (by omega) ?_); clear F a; intro a F)
    simp only [Int.toNat_natCast] at F
    have hcl3 : (rosC cur ++ junk).length = cap * 39 := by rw [List.length_append, encL_len hcs, hjl, hcl2, ← Nat.add_mul]; congr 1; omega
    (refine stepN rfl F (o_clear (sz := 39) M (F.ev rfl) (by omega) rfl rfl .here (by rw [hcl3]; omega) (fun vs => .here) ?_); clear F M; intro vs w hvs M a F)
    with_reducible refine l_nil (q_then (c_seq (c_region ?_)))
    refine sD F (o_move (F.ev rfl) ?_); clear F a; intro a F
    refine sD F (o_move (F.ev rfl) ?_); clear F a; intro a F
    (refine sD F (o_slH (F.ev rfl) (F.ev rfl) (by simp) (by omega) (by omega) ?_); clear F a; intro a F)
    simp only [Int.toNat_natCast] at F
    refine sD F (o_assign (F.ev rfl) ?_); clear F a; intro a F
    with_reducible refine l_nil (q_then (c_ret ?_))
    refine p_ret F rfl (.cons (.tmp (F.ev rfl)) .nil) ?_
    refine ⟨vs ++ (rosC cur ++ junk).drop (0 + i2 * 39 + vs.length), by rw [hfl]; rfl, by rw [List.length_append, List.length_drop, hcl3, hvs, hfl]; omega, by omega, ?_⟩
    have hsp : splice (rosC cur ++ junk) (0 + i2 * 39) vs = rosC (ls.filter fun x => !p x) ++ (vs ++ (rosC cur ++ junk).drop (0 + i2 * 39 + vs.length)) := by
      unfold splice
      rw [List.take_append_of_le_length (by rw [encL_len hcs]; omega), Nat.zero_add, encL_take hcs, hct]
    rw [← hsp]
    exact M
set_option maxHeartbeats 2000000 in
theorem deleteFuncN_c (W : World) (g : FuncId) [hg : TBody Tryz.prog g] (caps : List Value) : Cal Tryz.prog 124 [.slice none 0 0, .func (.func g) #[] caps.toArray].toArray W fun r w' => r = .slice none 0 0 ∧ Ext [] W w' := by
  refine fn_ofM (n := 42) [] Tryz.func124 rfl rfl rfl ?_
  intro a w F M hwW
  refine c_seq (c_region ?_)
  refine sD F (o_assign (F.ev rfl) ?_); clear F a; intro a F
  with_reducible refine l_nil (q_then (c_seq (c_region ?_)))
  refine sD F (o_move (F.ev rfl) ?_); clear F a; intro a F
  refine sD F (o_move (F.ev rfl) ?_); clear F a; intro a F
  (refine sD F (o_call (F.ev rfl) (F.evs rfl) (Cal.mono (indexR_c (ls := []) _ (SlAt.nil _ _) (by simp) (by simp) g caps (fun _ => true) (fun w' x E hm => by cases hm)) ?_)); clear F; clear a; rintro _ w ⟨rfl, hE⟩ a F; replace M := M.later hE; clear hE)
  rw [show findI (fun _ : RouV => true) [] = -1 from rfl] at F
  refine sD F (o_assign (F.ev rfl) ?_); clear F a; intro a F
  with_reducible refine l_nil (q_then (c_seq (c_seq (c_region ?_))))
  refine sD F (o_move (F.ev rfl) ?_); clear F a; intro a F
  refine sD F (o_eqlT (F.ev rfl) (F.ev rfl) (by omega) ?_); clear F a; intro a F
  with_reducible refine l_nil (q_then ?_)
  refine c_true F rfl rfl ?_
  refine c_seq (c_region ?_)
  refine sD F (o_move (F.ev rfl) ?_); clear F a; intro a F
  refine sD F (o_assign (F.ev rfl) ?_); clear F a; intro a F
  with_reducible refine l_nil (q_then (c_ret (q_thenR ?_)))
  refine p_ret F rfl (.cons (.tmp (F.ev rfl)) .nil) ?_
  exact ⟨rfl, M.ext⟩
def withoutV (l : List RouV) (p : RouV → Bool) : List RouV := if validRs l then l.filter (fun x => !p x) else []
def forgetV (l : List RouV) (nb : Int) : List RouV := withoutV l fun x => x.nb == nb
def expireV (l : List RouV) (now : Int) : List RouV := if isTime now then withoutV l (fun x => decide (x.til ≤ now)) else []
set_option maxHeartbeats 4000000 in
theorem without_c (l : List RouV) (hx : ∀ x ∈ l, IsRo x) (v : Value) (W : World) (hS : SlAt W 39 v l.length (rosC l)) (g : FuncId) [hg : TBody Tryz.prog g] (caps : List Value) (p : RouV → Bool)
    (hcl : ∀ w x, Ext [] W w → x ∈ l → Cal Tryz.prog g (.agg (roC x).toArray :: caps).toArray w fun v w' => v = .bool (p x) ∧ Ext [] w w') :
    Cal Tryz.prog 81 [v, .func (.func g) #[] caps.toArray].toArray W fun r w' => ∃ ent, OwnS 53 39 r (withoutV l p).length (rosC (withoutV l p)) ent ∧ Mem [] W w' ent := by
  obtain ⟨q, cap, rfl, _⟩ := id hS
  refine fn_ofM (n := 12) [] Tryz.func81 rfl rfl rfl ?_
  intro a w F M hwW
  refine c_seq (c_region ?_)
  refine sD F (o_assign (F.ev rfl) ?_); clear F a; intro a F
  with_reducible refine l_nil (q_then (c_seq (c_seq (c_region ?_))))
  refine sD F (o_move (F.ev rfl) ?_); clear F a; intro a F
  (refine sD F (o_call (F.ev rfl) (F.evs rfl) (Cal.mono (rtvalid_c l hx _ _ (hS.later M.ext)) ?_)); clear F; clear a; rintro _ w ⟨rfl, hE⟩ a F; replace M := M.later hE; clear hE)
  unfold withoutV
  cases hv : validRs l
  · rw [hv] at F
    rw [if_neg (by simp)]
    refine sD F (o_not (F.ev rfl) ?_); clear F a; intro a F
    with_reducible refine l_nil (q_then ?_)
    refine c_true F rfl rfl ?_
    refine c_seq (c_region ?_)
    refine sD F (o_assign (F.ev rfl) ?_); clear F a; intro a F
    with_reducible refine l_nil (q_then (c_ret (q_thenR ?_)))
    refine p_ret F rfl (.cons (.tmp (F.ev rfl)) .nil) ?_
    exact ⟨[], OwnS.nil _ _, M⟩
  rw [hv] at F
  rw [if_pos rfl]
  have hl := (validRs_iff.1 hv).1
  refine sD F (o_not (F.ev rfl) ?_); clear F a; intro a F
  with_reducible refine l_nil (q_then ?_)
  refine c_false F rfl rfl ?_
  with_reducible refine c_skip (q_then (c_seq (c_region ?_)))
  refine sD F (o_move (F.ev rfl) ?_); clear F a; intro a F
  (refine sD F (o_call (F.ev rfl) (F.evs rfl) (Cal.mono (cloneR_c l (by omega) _ _ (hS.later M.ext) ) ?_)); clear F; clear a; rintro _ w ⟨es, hO, _, N⟩ a F; replace M := M.joins N; clear N)
  rcases hO with ⟨rfl, h0, _, rfl⟩ | ⟨b, cp, junk, rfl, rfl, hxl, hjl, hnc⟩
  · obtain rfl : l = [] := List.length_eq_zero_iff.1 h0
    refine sD F (o_move (F.ev rfl) ?_); clear F a; intro a F
    (refine sD F (o_call (F.ev rfl) (F.evs rfl) (Cal.mono (deleteFuncN_c _ g caps) ?_)); clear F; clear a; rintro _ w ⟨rfl, hE⟩ a F; replace M := M.later hE; clear hE)
    refine sD F (o_assign (F.ev rfl) ?_); clear F a; intro a F
    with_reducible refine l_nil (q_then (c_ret ?_))
    refine p_ret F rfl (.cons (.tmp (F.ev rfl)) .nil) ?_
    exact ⟨[], OwnS.nil _ _, M.sub (List.nil_sublist _)⟩
  have hbW : W.heap.size ≤ b := (M.own (b, Obj.cells (rosC l ++ junk).toArray 53 (0, 0)) (by simp)).resolve_left (by simp)
  have hEb : ∀ w' : World, Ext [b] w w' → Ext [] W w' := fun w' E => (M.ext.any.trans E).fresh fun k hk => .inr (by simp only [List.mem_singleton] at hk; rw [hk]; exact hbW)
  refine sD F (o_move (F.ev rfl) ?_); clear F a; intro a F
  (refine sD F (o_call (F.ev rfl) (F.evs rfl) (Cal.mono (deleteFuncR_c hx (by omega) _ (M.heap .here) hjl hnc g caps p (fun w' x E hm => hcl w' x (hEb w' E) hm)) ?_)); clear F; clear a; rintro _ w ⟨junk', rfl, hj1, hj2, N⟩ a F; replace M := M.turn1 N .here; clear N)
  refine sD F (o_assign (F.ev rfl) ?_); clear F a; intro a F
  with_reducible refine l_nil (q_then (c_ret ?_))
  refine p_ret F rfl (.cons (.tmp (F.ev rfl)) .nil) ?_
  exact ⟨[(b, _)], .inr ⟨b, cp, junk', rfl, rfl, encL_len (ros_len fun x hx' => hx x (List.mem_filter.1 hx').1), hj1, hj2⟩, M.sub (.cons_cons _ (List.nil_sublist _))⟩
theorem forget1_c (x : RouV) (hx : IsRo x) (nb : Int) {b : Nat} {t : TypeId} {ft : Nat × Nat} (W : World) (hb : W.heap[b]? = some (.cells [Value.int .u64 nb].toArray t ft)) : Cal Tryz.prog 82 [.agg (roC x).toArray, .pointer (some ⟨b, 0, none⟩)].toArray W fun v w' => v = .bool (x.nb == nb) ∧ Ext [] W w' := by
  have hb' : ∀ w', Ext [] W w' → w'.heap[b]? = some (.cells [Value.int .u64 nb].toArray t ft) := fun w' E => by rw [E.block b (Array.getElem?_eq_some_iff.1 hb).1 (by simp)]; exact hb
  refine g_start (n := 8) (S := []) fldT_ok slcT_ok Tryz.func82 rfl rfl rfl ?_
  have h1 : nth [Value.int .u64 nb] 0 = some (.int .u64 nb) := rfl
  refine g_run 2 rfl ?_
  refine g_box rfl rfl fun b2 => ?_
  refine g_run 6 rfl ?_
  refine g_ld1 0 rfl rfl (ro_nb (by assumption)) ?_
  refine g_le1 rfl (by assumption) (by with_reducible assumption) ?_
  refine g_run 5 rfl ?_
  refine g_ret1 rfl rfl rfl fun w M => ?_
  with_reducible exact ⟨rfl, M.ext⟩
theorem expire1_c (x : RouV) (hx : IsRo x) (now : Int) {b : Nat} {t : TypeId} {ft : Nat × Nat} (W : World) (hb : W.heap[b]? = some (.cells [Value.int .i64 now].toArray t ft)) : Cal Tryz.prog 83 [.agg (roC x).toArray, .pointer (some ⟨b, 0, none⟩)].toArray W fun v w' => v = .bool (decide (x.til ≤ now)) ∧ Ext [] W w' := by
  have hb' : ∀ w', Ext [] W w' → w'.heap[b]? = some (.cells [Value.int .i64 now].toArray t ft) := fun w' E => by rw [E.block b (Array.getElem?_eq_some_iff.1 hb).1 (by simp)]; exact hb
  refine g_start (n := 8) (S := []) fldT_ok slcT_ok Tryz.func83 rfl rfl rfl ?_
  have h1 : nth [Value.int .i64 now] 0 = some (.int .i64 now) := rfl
  refine g_run 2 rfl ?_
  refine g_box rfl rfl fun b2 => ?_
  refine g_run 6 rfl ?_
  refine g_ld1 0 rfl rfl (ro_til (by assumption)) ?_
  refine g_le1 rfl (by assumption) (by with_reducible assumption) ?_
  refine g_run 5 rfl ?_
  refine g_ret1 rfl rfl rfl fun w M => ?_
  with_reducible exact ⟨rfl, M.ext⟩
set_option maxHeartbeats 2000000 in
theorem forget_c (l : List RouV) (hx : ∀ x ∈ l, IsRo x) (v : Value) (nb : Int) (W : World) (hS : SlAt W 39 v l.length (rosC l)) :
    Cal Tryz.prog 32 [v, .int .u64 nb].toArray W fun r w' => ∃ ent, OwnS 53 39 r (forgetV l nb).length (rosC (forgetV l nb)) ent ∧ Mem [] W w' ent := by
  obtain ⟨q, cap, rfl, _⟩ := id hS
  refine fn_ofM (n := 8) [] Tryz.func32 rfl rfl rfl ?_
  intro a w F M hwW
  refine c_seq ?_
  refine c_region ?_
  (refine sD F (o_box M (F.ev rfl) rfl ?_); clear F M; intro b3 w M a F)
  refine sD F (o_assign (F.ev rfl) ?_); clear F a; intro a F
  with_reducible refine l_nil (q_then (c_seq (c_region ?_)))
  refine sD F (o_move (F.ev rfl) ?_); clear F a; intro a F
  (refine sD F (o_makeFunc (F.evs (xs := []) rfl) (F.evs (xs := [.tmp 3]) rfl) ?_); clear F a; intro a F)
  (refine sD F (o_call (F.ev rfl) (F.evs rfl) (Cal.mono (without_c l hx _ _ (hS.later M.ext) 82 [.pointer (some ⟨b3, 0, none⟩)] (fun x => x.nb == nb) (fun w' x E hm => forget1_c x (hx x hm) nb w' ((M.later E).heap .here))) ?_)); clear F; clear a; rintro u w ⟨ent, hO, N⟩ a F; replace M := M.joins N)
  refine sD F (o_assign (F.ev rfl) ?_); clear F a; intro a F
  with_reducible refine l_nil (q_then (c_ret ?_))
  refine p_ret F rfl (.cons (.tmp (F.ev rfl)) .nil) ?_
  exact ⟨ent, hO, M.sub (List.sublist_append_left _ _)⟩
set_option maxHeartbeats 2000000 in
theorem expire_c (l : List RouV) (hx : ∀ x ∈ l, IsRo x) (v : Value) (now : Int) (W : World) (hS : SlAt W 39 v l.length (rosC l)) :
    Cal Tryz.prog 34 [v, .int .i64 now].toArray W fun r w' => ∃ ent, OwnS 53 39 r (expireV l now).length (rosC (expireV l now)) ent ∧ Mem [] W w' ent := by
  obtain ⟨q, cap, rfl, _⟩ := id hS
  unfold expireV
  refine fn_ofM (n := 11) [] Tryz.func34 rfl rfl rfl ?_
  intro a w F M hwW
  refine c_seq ?_
  refine c_region ?_
  (refine sD F (o_box M (F.ev rfl) rfl ?_); clear F M; intro b3 w M a F)
  refine sD F (o_assign (F.ev rfl) ?_); clear F a; intro a F
  with_reducible refine l_nil (q_then (c_seq (c_seq (c_region ?_))))
  refine sD F (o_load1 M (F.ev rfl) (by repeat constructor) (by first | assumption | rfl) ?_); clear F a; intro a F
  (refine sD F (o_call (F.ev rfl) (F.evs rfl) (Cal.mono (rtTime_c now _) ?_)); clear F; clear a; rintro _ w ⟨rfl, hE⟩ a F; replace M := M.later hE; clear hE)
  cases ht : isTime now
  · rw [ht] at F
    rw [if_neg (by simp)]
    refine sD F (o_not (F.ev rfl) ?_); clear F a; intro a F
    with_reducible refine l_nil (q_then ?_)
    refine c_true F rfl rfl ?_
    refine c_seq (c_region ?_)
    refine sD F (o_assign (F.ev rfl) ?_); clear F a; intro a F
    with_reducible refine l_nil (q_then (c_ret (q_thenR ?_)))
    refine p_ret F rfl (.cons (.tmp (F.ev rfl)) .nil) ?_
    exact ⟨[], OwnS.nil _ _, M.sub (List.nil_sublist _)⟩
  rw [ht] at F
  rw [if_pos rfl]
  refine sD F (o_not (F.ev rfl) ?_); clear F a; intro a F
  with_reducible refine l_nil (q_then ?_)
  refine c_false F rfl rfl ?_
  with_reducible refine c_skip (q_then (c_seq (c_region ?_)))
  refine sD F (o_move (F.ev rfl) ?_); clear F a; intro a F
  (refine sD F (o_makeFunc (F.evs (xs := []) rfl) (F.evs (xs := [.tmp 3]) rfl) ?_); clear F a; intro a F)
  (refine sD F (o_call (F.ev rfl) (F.evs rfl) (Cal.mono (without_c l hx _ _ (hS.later M.ext) 83 [.pointer (some ⟨b3, 0, none⟩)] (fun x => decide (x.til ≤ now)) (fun w' x E hm => expire1_c x (hx x hm) now w' ((M.later E).heap .here))) ?_)); clear F; clear a; rintro u w ⟨ent, hO, N⟩ a F; replace M := M.joins N)
  refine sD F (o_assign (F.ev rfl) ?_); clear F a; intro a F
  with_reducible refine l_nil (q_then (c_ret ?_))
  refine p_ret F rfl (.cons (.tmp (F.ev rfl)) .nil) ?_
  exact ⟨ent, hO, M.sub (List.sublist_append_left _ _)⟩
end Go.Proofs.YtilgoepokaaleaaGreat
/-! YO -/
namespace Go.Proofs.YtilgoepokaaleaaGreat
set_option linter.unusedVariables false
set_option linter.unusedSimpArgs false
open Go.RowKit
attribute [local irreducible] OpTo wpListIn Code.wpIn MW Cal
section
variable {P : Program} {ρ : Operand → Value} {w W0 : World} {S : List Nat} {l : List (Nat × Obj)} {R : Value → World → Prop} {d : Option Tmp} {ty : TypeId} {pos : String} {af : Array Edge} {g : Option (Nat × Bool)}
/-- append where there is room -/
theorem o_appendIn {st xt e : TypeId} {x y : Operand} {sz by_ n m b cap : Nat} {xv : Value} {xs junk ys : List Value} [hst : TU P st (.slice e)] [hel : TEl P e sz by_] [hxt : TNI P xt] (M : Mem S W0 w ((b, .cells (xs ++ junk).toArray e (0, 0)) :: l)) (hxl : xs.length = n * sz) (hjl : junk.length = (cap - n) * sz) (hroom : n + m ≤ cap)
    (hx : ρ x = .slice (some ⟨b, 0, none⟩) n cap) (hy : ρ y = xv) (hX : SrcOf P w xv m sz ys) (h : ∀ w', Mem S W0 w' ((b, .cells (xs ++ ys ++ junk.drop (m * sz)).toArray e (0, 0)) :: l) → R (.slice (some ⟨b, 0, none⟩) (n + m) cap) w') : OpTo P ⟨d, .call ⟨.builtin .append, #[x, y], #[st, xt]⟩, ty, pos, af, g⟩ ρ w R := by
  obtain ⟨i, z, hi, rfl, rfl, hz, hzs⟩ := elB_spec hel.h
  have hdx := notInt_spec hxt.h
  have hlen : n * i.size + 0 + ys.length ≤ (xs ++ junk).length := by
    simp only [List.length_append, hxl, hjl, hX.size]
    rw [Nat.add_zero, ← Nat.add_mul, ← Nat.add_mul]
    exact Nat.mul_le_mul_right _ (by omega)
  obtain ⟨w', hr, he, hh⟩ := run_storeRow (P := P) (off := n * i.size) ys 0 (xs ++ junk) w (M.heap .here) hlen hX.one
  have hrun := run_append_room' (tyy := ty) hst.h hi hdx hX.len hroom (hX.cells w.drawn) hr
  have hsp : splice (xs ++ junk) (n * i.size + 0) ys = xs ++ ys ++ junk.drop (m * i.size) := by
    simp only [splice, Nat.add_zero, ← hxl, List.take_left', List.drop_append, hX.size]
    simp
  rw [hsp] at hh
  refine OpTo.val (v := .slice (some ⟨b, 0, none⟩) (n + m) cap) (w' := w') ?_ (h w' (M.turned .here he hh))
  simp [execOp, resolve, invoke, builtin, hx, hy, hrun]
/-- x[i:j:k] of a slice -/
theorem o_sl3 {t e : TypeId} {x i j c : Operand} {k k' k2 : IntKind} {b o len cap : Nat} {m n q : Int} (hx : ρ x = .slice (some ⟨b, o, none⟩) len cap) (hi : ρ i = .int k m) (hj : ρ j = .int k' n) (hc : ρ c = .int k2 q) [ht : TU P t (.slice e)] {sz : Nat} [hs : TSz P e sz] (h0 : 0 ≤ m) (h1 : m ≤ n) (h2 : n ≤ q) (h3 : m < q) (h4 : q ≤ cap) (h : ∀ v, R v w) : OpTo P ⟨d, .slice t x (some i) (some j) (some c), ty, pos, af, g⟩ ρ w R := by
  have h5 : 0 ≤ n := by omega
  have h6 : 0 ≤ q := by omega
  have h7 : m ≤ max n 0 := by omega
  have h8 : n ≤ max q 0 := by omega
  have h9 : ¬ q.toNat = m.toNat := by omega
  exact OpTo.val (v := .slice (some ⟨b, o + m.toNat * sz, none⟩) (n.toNat - m.toNat) (q.toNat - m.toNat)) (w' := w) (by simp [execOp, Instr.sliceAt, Instr.slice, Instr.sliceBounds, Instr.sliceBound, asIntOf, hx, hi, hj, hc, run_underlying ht.h, run_sizeOf hs.h, h0, h2, h4, h5, h6, h7, h8, h9, addr_add]) (h _)
end
/-- x[i:] of a slice, i up to its length -/
theorem slL_ex (P : Program) (b o : Nat) {len cap sz : Nat} {m : Int} (h0 : 0 ≤ m) (h1 : m ≤ len) (hlc : len ≤ cap) : ∃ q, (m < len → q = some ⟨b, o + m.toNat * sz, none⟩) ∧ ∀ {t e : TypeId} {x i : Operand} {k : IntKind} {d : Option Tmp} {ty : TypeId} {pos : String} {af : Array Edge} {g : Option (Nat × Bool)} {ρ : Operand → Value} {w : World} {R : Value → World → Prop} [_ht : TU P t (.slice e)] [_hs : TSz P e sz],
    ρ x = .slice (some ⟨b, o, none⟩) len cap → ρ i = .int k m → R (.slice q (len - m.toNat) (cap - m.toNat)) w → OpTo P ⟨d, .slice t x (some i) none none, ty, pos, af, g⟩ ρ w R := by
  by_cases hc : m < cap
  · exact ⟨_, fun _ => rfl, fun hx hi hR => o_slL hx hi h0 h1 hc hR⟩
  · have e1 : cap = m.toNat := by omega
    have e2 : len = m.toNat := by omega
    refine ⟨some ⟨b, o, none⟩, fun h => by omega, fun {t e x i k d ty pos af g ρ w R} ht hs hx hi hR => ?_⟩
    have h5 : ¬ (len : Int) < m := by omega
    exact OpTo.val (v := .slice (some ⟨b, o, none⟩) (len - m.toNat) (cap - m.toNat)) (w' := w) (by simp [execOp, Instr.sliceAt, Instr.slice, Instr.sliceBounds, Instr.sliceBound, asIntOf, hx, hi, run_underlying ht.h, run_sizeOf hs.h, h0, h1, h5, addr_add]; omega) hR
theorem erase_at {α : Type} (l : List α) (i : Nat) : l.eraseIdx i = l.take i ++ l.drop (i + 1) := List.eraseIdx_eq_take_drop_succ l i
set_option maxHeartbeats 8000000 in
theorem deleteR_c {ls : List RouV} (hI : ∀ x ∈ ls, IsRo x) (hlen : ls.length ≤ 1000) {b cap : Nat} {junk : List Value} (W : World) (hb : W.heap[b]? = some (.cells (rosC ls ++ junk).toArray 53 (0, 0))) (hjl : junk.length = (cap - ls.length) * 39) (hnc : ls.length ≤ cap) (i : Nat) (hi : i < ls.length) :
    Cal Tryz.prog 79 [.slice (some ⟨b, 0, none⟩) ls.length cap, .int .i64 i, .int .i64 (i + 1)].toArray W fun r w' => ∃ junk' : List Value, r = .slice (some ⟨b, 0, none⟩) (ls.eraseIdx i).length cap ∧ junk'.length = (cap - (ls.eraseIdx i).length) * 39 ∧ (ls.eraseIdx i).length ≤ cap ∧ Mem [b] W w' [(b, .cells (rosC (ls.eraseIdx i) ++ junk').toArray 53 (0, 0))] := by
  have hsz : ∀ x ∈ ls, (roC x).length = 39 := ros_len hI
  have hel : (ls.eraseIdx i).length = ls.length - 1 := by rw [List.length_eraseIdx, if_pos hi]
  have hsp : ∀ k, rosC ls ++ junk = rosC (ls.take k) ++ (rosC (ls.drop k) ++ junk) := fun k => by
    show encL roC ls ++ junk = encL roC _ ++ (encL roC _ ++ junk)
    rw [← List.append_assoc, ← encL_app, List.take_append_drop]
  have hti : (rosC (ls.take i)).length = i * 39 := by rw [encL_len fun x hx => hsz x (List.mem_of_mem_take hx), List.length_take]; congr 1; omega
  have htj : (rosC (ls.take (i + 1))).length = (i + 1) * 39 := by rw [encL_len fun x hx => hsz x (List.mem_of_mem_take hx), List.length_take]; congr 1; omega
  have hdi : (rosC (ls.drop i)).length = (ls.length - i) * 39 := by rw [encL_len fun x hx => hsz x (List.mem_of_mem_drop hx), List.length_drop]
  have hdj : (rosC (ls.drop (i + 1))).length = (ls.length - (i + 1)) * 39 := by rw [encL_len fun x hx => hsz x (List.mem_of_mem_drop hx), List.length_drop]
  refine fn_ofM (n := 33) [b] Tryz.func79 rfl rfl rfl ?_
  intro a w F M hwW
  replace M := M.came hwW hb (by simp) (by simp)
  refine c_seq (c_region ?_)
  refine sD F (o_assign (F.ev rfl) ?_); clear F a; intro a F
  with_reducible refine l_nil (q_then (c_seq (c_region ?_)))
  refine sD F (o_move (F.ev rfl) ?_); clear F a; intro a F
  refine sD F (o_move (F.ev rfl) ?_); clear F a; intro a F
  refine sD F (o_move (F.ev rfl) ?_); clear F a; intro a F
  refine sD F (o_move (F.ev rfl) ?_); clear F a; intro a F
  refine sD F (o_lenSl (F.ev rfl) ?_); clear F a; intro a F
  (refine sD F (o_sl3 (F.ev rfl) (F.ev rfl) (F.ev rfl) (F.ev rfl) (by omega) (by omega) (by omega) (by omega) (by omega) ?_); clear F; intro v13 a F)
  with_reducible refine l_nil (q_then (c_seq (c_seq (c_region ?_))))
  refine sD F (o_move (F.ev rfl) ?_); clear F a; intro a F
  refine sD F (o_move (F.ev rfl) ?_); clear F a; intro a F
  refine sD F (o_eqlF (F.ev rfl) (F.ev rfl) (by omega) ?_); clear F a; intro a F
  with_reducible refine l_nil (q_then ?_)
  refine c_false F rfl rfl ?_
  with_reducible refine c_skip (q_then (c_seq (c_region ?_)))
  refine sD F (o_move (F.ev rfl) ?_); clear F a; intro a F
  refine sD F (o_lenSl (F.ev rfl) ?_); clear F a; intro a F
  refine sD F (o_assign (F.ev rfl) ?_); clear F a; intro a F
  with_reducible refine l_nil (q_then (c_seq ?_))
  replace F := F.only [0, 1, 2, 7] rfl
  obtain ⟨q, hq, hqs⟩ := slL_ex Tryz.prog b 0 (len := ls.length) (cap := cap) (sz := 39) (m := (i : Int) + 1) (by omega) (by omega) hnc
  refine c_draw 6 F (by kernel_rfl) ?_
  intro w1 hE hok
  have M1 := M.later hE
  refine mK hok rfl rfl (fun a' w' F' E' => o_move (F'.ev rfl) ⟨Ext.refl _ _, rfl⟩) ?_
  refine mK hok rfl rfl (fun a' w' F' E' => o_move (F'.ev rfl) ⟨Ext.refl _ _, rfl⟩) ?_
  refine mK hok rfl rfl (fun a' w' F' E' => o_slH (F'.ev rfl) (F'.ev rfl) (by simp) (by omega) (by omega) ⟨Ext.refl _ _, rfl⟩) ?_
  refine mK hok rfl rfl (fun a' w' F' E' => o_move (F'.ev rfl) ⟨Ext.refl _ _, rfl⟩) ?_
  refine mK hok rfl rfl (fun a' w' F' E' => o_move (F'.ev rfl) ⟨Ext.refl _ _, rfl⟩) ?_
  refine mK hok rfl rfl (fun a' w' F' E' => hqs (F'.ev rfl) (F'.ev rfl) ⟨Ext.refl _ _, rfl⟩) ?_
  (refine mDone rfl rfl ?_; clear F M; intro a w F hE2 hX hTT hDD hPP; have M := M1.later hE2; clear M1; clear hX; clear hE2; clear hok; clear hE; clear hTT; clear hDD; clear hPP; (try dsimp only at F))
  simp only [Int.toNat_natCast] at F
  have hSl : SlAt w 39 (.slice q (ls.length - ((i : Int) + 1).toNat) (cap - ((i : Int) + 1).toNat)) (ls.length - (i + 1)) (rosC (ls.drop (i + 1))) := by
    refine ⟨q, _, by congr 1 <;> omega, by omega, fun _ _ => trivial, hdj, fun hpos => ⟨b, (i + 1) * 39, rosC ls ++ junk, _, _, by rw [hq (by omega)]; congr 2; omega, M.heap .here, ?_⟩⟩
    rw [hsp (i + 1), ← htj, ← hdj]
    exact seg_of _ _ _
  have hX := hSl.src (P := Tryz.prog) (ros_one)
  rw [hsp i] at M
  (refine sD F (o_appendIn M hti (n := i) (cap := cap) (sz := 39) (by rw [List.length_append, hdi, hjl, ← Nat.add_mul]; congr 1; omega) (by omega) (F.ev rfl) (F.ev rfl) hX ?_); clear F M; intro w M a F)
  have hn1 : i + (ls.length - (i + 1)) = ls.length - 1 := by omega
  rw [hn1] at F
  refine sD F (o_assign (F.ev rfl) ?_); clear F a; intro a F
  with_reducible refine l_nil (q_then (c_seq (c_region ?_)))
  refine sD F (o_move (F.ev rfl) ?_); clear F a; intro a F
  refine sD F (o_move (F.ev rfl) ?_); clear F a; intro a F
  refine sD F (o_lenSl (F.ev rfl) ?_); clear F a; intro a F
  refine sD F (o_move (F.ev rfl) ?_); clear F a; intro a F
  (refine sD F (o_slLH (F.ev rfl) (F.ev rfl) (F.ev rfl) (by omega) (by omega) (by omega) (by omega) ?_); clear F a; intro a F)
  simp only [Int.toNat_natCast] at F
  have hck : rosC (ls.take i) ++ rosC (ls.drop (i + 1)) = rosC (ls.eraseIdx i) := by rw [erase_at]; exact (encL_app _ _ _).symm
  rw [hck] at M
  have hke : (rosC (ls.eraseIdx i)).length = (ls.length - 1) * 39 := by rw [← hck, List.length_append, hti, hdj, ← Nat.add_mul]; congr 1
  obtain ⟨X, hX0⟩ : ∃ X, X = (rosC (ls.drop i) ++ junk).drop ((ls.length - (i + 1)) * 39) := ⟨_, rfl⟩
  have hXl : X.length = (cap - (ls.length - 1)) * 39 := by rw [hX0, List.length_drop, List.length_append, hdi, hjl, ← Nat.add_mul, ← Nat.sub_mul]; congr 1; omega
  rw [← hX0] at M
  (refine stepN rfl F (o_clear (sz := 39) M (F.ev rfl) (by omega) rfl rfl .here (by rw [List.length_append, hke, hXl, ← Nat.add_mul]; omega) (fun vs => .here) ?_); clear F M; intro vs w hvs M a F)
  with_reducible refine l_nil (q_then (c_seq (c_region ?_)))
  refine sD F (o_move (F.ev rfl) ?_); clear F a; intro a F
  refine sD F (o_assign (F.ev rfl) ?_); clear F a; intro a F
  with_reducible refine l_nil (q_then (c_ret ?_))
  refine p_ret F rfl (.cons (.tmp (F.ev rfl)) .nil) ?_
  have hs2 : splice (rosC (ls.eraseIdx i) ++ X) (0 + (ls.length - 1) * 39) vs = rosC (ls.eraseIdx i) ++ (vs ++ X.drop vs.length) := by
    unfold splice
    rw [Nat.zero_add, ← hke, List.take_left', List.drop_append]
    · simp
    · rfl
  refine ⟨vs ++ X.drop vs.length, by rw [hel]; rfl, by rw [List.length_append, List.length_drop, hXl, hvs, hel]; omega, by omega, ?_⟩
  rw [← hs2]
  exact M
end Go.Proofs.YtilgoepokaaleaaGreat

/-
  Texts joined: Z5, Z6, LibV, LibX, Z7, Z8, YA, YB.
-/
import Derived.Test.YtilgoepokaaleaaGreatTables3
/-! Z5 -/
namespace Go.Proofs.YtilgoepokaaleaaGreat
set_option linter.unusedVariables false
set_option linter.unusedSimpArgs false
open Go.RowKit
attribute [local irreducible] OpTo wpListIn Code.wpIn MW Cal
set_option maxHeartbeats 2000000 in
theorem rtelem_c (e : InsV) (he : IsIn e) (W : World) : Cal Tryz.prog 98 [.agg (inC e).toArray].toArray W fun v w' => v = .bool (ins1 e) ∧ Ext [] W w' := by
  have a1 := in_to he
  have a2 := in_own he
  have a3 := in_btn he
  have a4 := in_til he
  have a5 := in_own_met he
  have a6 := in_all he
  have hr := rtreach_c e he
  unfold ins1 inf
  refine fn_ofM (n := 41) [] Tryz.func98 rfl rfl rfl ?_
  intro a w F M hwW
  refine c_seq ?_
  refine c_region ?_
  (refine sD F (o_box M (F.ev rfl) rfl ?_); clear F M; intro b1 w M a F)
  refine sD F (o_assign (F.ev rfl) ?_); clear F a; intro a F
  with_reducible refine l_nil (q_then (c_seq (c_seq (c_region ?_))))
  refine sD F (o_fieldAddr (F.ev rfl) ?_); clear F a; intro a F
  refine sD F (o_loadA M (F.ev rfl) (by repeat constructor) (by first | assumption | rfl) ?_); clear F a; intro a F
  (refine sD F (o_call (F.ev rfl) (F.evs rfl) (Cal.mono (validTo_c e.to he.1 _) ?_)); clear F; clear a; rintro _ w ⟨rfl, hE⟩ a F; replace M := M.later hE; clear hE)
  cases h1 : validT e.to
  · rw [h1] at F
    refine sD F (o_not (F.ev rfl) ?_); clear F a; intro a F
    with_reducible refine l_nil (q_then ?_)
    refine c_true F rfl rfl ?_
    refine c_seq (c_region ?_)
    refine sD F (o_assign (F.ev rfl) ?_); clear F a; intro a F
    with_reducible refine l_nil (q_then (c_ret (q_thenR ?_)))
    refine p_ret F rfl (.cons (.tmp (F.ev rfl)) .nil) ?_
    exact ⟨rfl, M.ext⟩
  rw [h1] at F
  refine sD F (o_not (F.ev rfl) ?_); clear F a; intro a F
  with_reducible refine l_nil (q_then ?_)
  refine c_false F rfl rfl ?_
  with_reducible refine c_skip (q_then (c_seq (c_seq (c_region ?_))))
  refine sD F (o_loadA M (F.ev rfl) (by repeat constructor) (by first | assumption | rfl) ?_); clear F a; intro a F
  (refine sD F (o_call (F.ev rfl) (F.evs rfl) (Cal.mono (hr _) ?_)); clear F; clear a; rintro _ w ⟨rfl, hE⟩ a F; replace M := M.later hE; clear hE)
  by_cases h0 : e.nb = 0
  · rw [decide_eq_true h0] at F
    rw [if_pos h0]
    by_cases h2 : e.own.met = 65535
    · by_cases h3 : e.btn = -1
      · rw [decide_eq_true h2, decide_eq_true h3]
        with_reducible refine l_nil (q_then ?_)
        refine c_false F rfl rfl ?_
        with_reducible refine c_skip (q_then (c_seq (c_region ?_)))
        refine sD F (o_fieldAddr (F.ev rfl) ?_); clear F a; intro a F
        refine sD F (o_fieldAddr (F.ev rfl) ?_); clear F a; intro a F
        refine sD F (o_load1 M (F.ev rfl) (by repeat constructor) (by first | assumption | rfl) ?_); clear F a; intro a F
        refine sD F (o_eqlT (F.ev rfl) (F.ev rfl) (by omega) ?_); clear F a; intro a F
        refine sD F (o_move (F.ev rfl) ?_); clear F a; intro a F
        refine sG F (o_fieldAddr (F.ev rfl) ?_); clear F a; intro a F
        refine sG F (o_load1 M (F.ev rfl) (by repeat constructor) (by first | assumption | rfl) ?_); clear F a; intro a F
        refine sG F (o_eqlT (F.ev rfl) (F.ev rfl) (by omega) ?_); clear F a; intro a F
        refine sD F (o_pickT (F.ev rfl) (F.ev rfl) ?_); clear F a; intro a F
        refine sD F (o_move (F.ev rfl) ?_); clear F a; intro a F
        refine sG F (o_fieldAddr (F.ev rfl) ?_); clear F a; intro a F
        refine sG F (o_load1 M (F.ev rfl) (by repeat constructor) (by first | assumption | rfl) ?_); clear F a; intro a F
        (refine sG F (o_call (F.ev rfl) (F.evs rfl) (Cal.mono (rtTime_c e.til _) ?_)); clear F; clear a; rintro _ w ⟨rfl, hE⟩ a F; replace M := M.later hE; clear hE)
        refine sD F (o_pickT (F.ev rfl) (F.ev rfl) ?_); clear F a; intro a F
        refine sD F (o_assign (F.ev rfl) ?_); clear F a; intro a F
        with_reducible refine l_nil (q_then (c_ret ?_))
        refine p_ret F rfl (.cons (.tmp (F.ev rfl)) .nil) ?_
        exact ⟨rfl, M.ext⟩
      · rw [decide_eq_true h2, decide_eq_false h3]
        with_reducible refine l_nil (q_then ?_)
        refine c_false F rfl rfl ?_
        with_reducible refine c_skip (q_then (c_seq (c_region ?_)))
        refine sD F (o_fieldAddr (F.ev rfl) ?_); clear F a; intro a F
        refine sD F (o_fieldAddr (F.ev rfl) ?_); clear F a; intro a F
        refine sD F (o_load1 M (F.ev rfl) (by repeat constructor) (by first | assumption | rfl) ?_); clear F a; intro a F
        refine sD F (o_eqlT (F.ev rfl) (F.ev rfl) (by omega) ?_); clear F a; intro a F
        refine sD F (o_move (F.ev rfl) ?_); clear F a; intro a F
        refine sG F (o_fieldAddr (F.ev rfl) ?_); clear F a; intro a F
        refine sG F (o_load1 M (F.ev rfl) (by repeat constructor) (by first | assumption | rfl) ?_); clear F a; intro a F
        refine sG F (o_eqlF (F.ev rfl) (F.ev rfl) (by omega) ?_); clear F a; intro a F
        refine sD F (o_pickT (F.ev rfl) (F.ev rfl) ?_); clear F a; intro a F
        refine sD F (o_move (F.ev rfl) ?_); clear F a; intro a F
        refine sO F ?_; clear F a; intro a F
        refine sO F ?_; clear F a; intro a F
        refine sO F ?_; clear F a; intro a F
        refine sD F (o_pickF (F.ev rfl) (F.ev rfl) ?_); clear F a; intro a F
        refine sD F (o_assign (F.ev rfl) ?_); clear F a; intro a F
        with_reducible refine l_nil (q_then (c_ret ?_))
        refine p_ret F rfl (.cons (.tmp (F.ev rfl)) .nil) ?_
        exact ⟨rfl, M.ext⟩
    · rw [decide_eq_false h2]
      with_reducible refine l_nil (q_then ?_)
      refine c_false F rfl rfl ?_
      with_reducible refine c_skip (q_then (c_seq (c_region ?_)))
      refine sD F (o_fieldAddr (F.ev rfl) ?_); clear F a; intro a F
      refine sD F (o_fieldAddr (F.ev rfl) ?_); clear F a; intro a F
      refine sD F (o_load1 M (F.ev rfl) (by repeat constructor) (by first | assumption | rfl) ?_); clear F a; intro a F
      refine sD F (o_eqlF (F.ev rfl) (F.ev rfl) (by omega) ?_); clear F a; intro a F
      refine sD F (o_move (F.ev rfl) ?_); clear F a; intro a F
      refine sO F ?_; clear F a; intro a F
      refine sO F ?_; clear F a; intro a F
      refine sO F ?_; clear F a; intro a F
      refine sD F (o_pickF (F.ev rfl) (F.ev rfl) ?_); clear F a; intro a F
      refine sD F (o_move (F.ev rfl) ?_); clear F a; intro a F
      refine sO F ?_; clear F a; intro a F
      refine sO F ?_; clear F a; intro a F
      refine sO F ?_; clear F a; intro a F
      refine sD F (o_pickF (F.ev rfl) (F.ev rfl) ?_); clear F a; intro a F
      refine sD F (o_assign (F.ev rfl) ?_); clear F a; intro a F
      with_reducible refine l_nil (q_then (c_ret ?_))
      refine p_ret F rfl (.cons (.tmp (F.ev rfl)) .nil) ?_
      exact ⟨rfl, M.ext⟩
  · rw [decide_eq_false h0] at F
    rw [if_neg h0]
    with_reducible refine l_nil (q_then ?_)
    refine c_true F rfl rfl ?_
    refine c_seq (c_region ?_)
    refine sD F (o_fieldAddr (F.ev rfl) ?_); clear F a; intro a F
    refine sD F (o_loadA M (F.ev rfl) (by repeat constructor) (by first | assumption | rfl) ?_); clear F a; intro a F
    (refine sD F (o_call (F.ev rfl) (F.evs rfl) (Cal.mono (rtfin_c e.own _) ?_)); clear F; clear a; rintro _ w ⟨rfl, hE⟩ a F; replace M := M.later hE; clear hE)
    cases h2 : finD e.own
    · rw [h2] at F
      refine sD F (o_move (F.ev rfl) ?_); clear F a; intro a F
      refine sO F ?_; clear F a; intro a F
      refine sO F ?_; clear F a; intro a F
      refine sO F ?_; clear F a; intro a F
      refine sO F ?_; clear F a; intro a F
      refine sO F ?_; clear F a; intro a F
      refine sO F ?_; clear F a; intro a F
      refine sO F ?_; clear F a; intro a F
      refine sO F ?_; clear F a; intro a F
      refine sD F (o_pickF (F.ev rfl) (F.ev rfl) ?_); clear F a; intro a F
      refine sD F (o_move (F.ev rfl) ?_); clear F a; intro a F
      refine sO F ?_; clear F a; intro a F
      refine sO F ?_; clear F a; intro a F
      refine sO F ?_; clear F a; intro a F
      refine sD F (o_pickF (F.ev rfl) (F.ev rfl) ?_); clear F a; intro a F
      refine sD F (o_assign (F.ev rfl) ?_); clear F a; intro a F
      with_reducible refine l_nil (q_then (c_ret (q_thenR ?_)))
      refine p_ret F rfl (.cons (.tmp (F.ev rfl)) .nil) ?_
      exact ⟨rfl, M.ext⟩
    rw [h2] at F
    by_cases h3 : e.btn = -1
    · rw [decide_eq_true h3]
      by_cases h4 : e.til = 0
      · rw [decide_eq_true h4]
        refine sD F (o_move (F.ev rfl) ?_); clear F a; intro a F
        refine sG F (o_fieldAddr (F.ev rfl) ?_); clear F a; intro a F
        refine sG F (o_load1 M (F.ev rfl) (by repeat constructor) (by first | assumption | rfl) ?_); clear F a; intro a F
        refine sG F (o_eqlT (F.ev rfl) (F.ev rfl) (by omega) ?_); clear F a; intro a F
        refine sG F (o_move (F.ev rfl) ?_); clear F a; intro a F
        refine sO F ?_; clear F a; intro a F
        refine sO F ?_; clear F a; intro a F
        refine sO F ?_; clear F a; intro a F
        refine sG F (o_pickT (F.ev rfl) (F.ev rfl) ?_); clear F a; intro a F
        refine sD F (o_pickT (F.ev rfl) (F.ev rfl) ?_); clear F a; intro a F
        refine sD F (o_move (F.ev rfl) ?_); clear F a; intro a F
        refine sG F (o_fieldAddr (F.ev rfl) ?_); clear F a; intro a F
        refine sG F (o_load1 M (F.ev rfl) (by repeat constructor) (by first | assumption | rfl) ?_); clear F a; intro a F
        refine sG F (o_eqlT (F.ev rfl) (F.ev rfl) (by omega) ?_); clear F a; intro a F
        refine sD F (o_pickT (F.ev rfl) (F.ev rfl) ?_); clear F a; intro a F
        refine sD F (o_assign (F.ev rfl) ?_); clear F a; intro a F
        with_reducible refine l_nil (q_then (c_ret (q_thenR ?_)))
        refine p_ret F rfl (.cons (.tmp (F.ev rfl)) .nil) ?_
        exact ⟨rfl, M.ext⟩
      · rw [decide_eq_false h4]
        refine sD F (o_move (F.ev rfl) ?_); clear F a; intro a F
        refine sG F (o_fieldAddr (F.ev rfl) ?_); clear F a; intro a F
        refine sG F (o_load1 M (F.ev rfl) (by repeat constructor) (by first | assumption | rfl) ?_); clear F a; intro a F
        refine sG F (o_eqlT (F.ev rfl) (F.ev rfl) (by omega) ?_); clear F a; intro a F
        refine sG F (o_move (F.ev rfl) ?_); clear F a; intro a F
        refine sO F ?_; clear F a; intro a F
        refine sO F ?_; clear F a; intro a F
        refine sO F ?_; clear F a; intro a F
        refine sG F (o_pickT (F.ev rfl) (F.ev rfl) ?_); clear F a; intro a F
        refine sD F (o_pickT (F.ev rfl) (F.ev rfl) ?_); clear F a; intro a F
        refine sD F (o_move (F.ev rfl) ?_); clear F a; intro a F
        refine sG F (o_fieldAddr (F.ev rfl) ?_); clear F a; intro a F
        refine sG F (o_load1 M (F.ev rfl) (by repeat constructor) (by first | assumption | rfl) ?_); clear F a; intro a F
        refine sG F (o_eqlF (F.ev rfl) (F.ev rfl) (by omega) ?_); clear F a; intro a F
        refine sD F (o_pickT (F.ev rfl) (F.ev rfl) ?_); clear F a; intro a F
        refine sD F (o_assign (F.ev rfl) ?_); clear F a; intro a F
        with_reducible refine l_nil (q_then (c_ret (q_thenR ?_)))
        refine p_ret F rfl (.cons (.tmp (F.ev rfl)) .nil) ?_
        exact ⟨rfl, M.ext⟩
    · rw [decide_eq_false h3]
      refine sD F (o_move (F.ev rfl) ?_); clear F a; intro a F
      refine sG F (o_fieldAddr (F.ev rfl) ?_); clear F a; intro a F
      refine sG F (o_load1 M (F.ev rfl) (by repeat constructor) (by first | assumption | rfl) ?_); clear F a; intro a F
      refine sG F (o_eqlF (F.ev rfl) (F.ev rfl) (by omega) ?_); clear F a; intro a F
      refine sG F (o_move (F.ev rfl) ?_); clear F a; intro a F
      refine sG F (o_fieldAddr (F.ev rfl) ?_); clear F a; intro a F
      refine sG F (o_load1 M (F.ev rfl) (by repeat constructor) (by first | assumption | rfl) ?_); clear F a; intro a F
      (refine sG F (o_call (F.ev rfl) (F.evs rfl) (Cal.mono (rtTime_c e.btn _) ?_)); clear F; clear a; rintro _ w ⟨rfl, hE⟩ a F; replace M := M.later hE; clear hE)
      cases h5 : isTime e.btn
      · rw [h5] at F
        refine sG F (o_pickF (F.ev rfl) (F.ev rfl) ?_); clear F a; intro a F
        refine sD F (o_pickT (F.ev rfl) (F.ev rfl) ?_); clear F a; intro a F
        refine sD F (o_move (F.ev rfl) ?_); clear F a; intro a F
        refine sO F ?_; clear F a; intro a F
        refine sO F ?_; clear F a; intro a F
        refine sO F ?_; clear F a; intro a F
        refine sD F (o_pickF (F.ev rfl) (F.ev rfl) ?_); clear F a; intro a F
        refine sD F (o_assign (F.ev rfl) ?_); clear F a; intro a F
        with_reducible refine l_nil (q_then (c_ret (q_thenR ?_)))
        refine p_ret F rfl (.cons (.tmp (F.ev rfl)) .nil) ?_
        exact ⟨rfl, M.ext⟩
      rw [h5] at F
      by_cases h4 : e.til = 0
      · rw [decide_eq_true h4]
        refine sG F (o_pickF (F.ev rfl) (F.ev rfl) ?_); clear F a; intro a F
        refine sD F (o_pickT (F.ev rfl) (F.ev rfl) ?_); clear F a; intro a F
        refine sD F (o_move (F.ev rfl) ?_); clear F a; intro a F
        refine sG F (o_fieldAddr (F.ev rfl) ?_); clear F a; intro a F
        refine sG F (o_load1 M (F.ev rfl) (by repeat constructor) (by first | assumption | rfl) ?_); clear F a; intro a F
        refine sG F (o_eqlT (F.ev rfl) (F.ev rfl) (by omega) ?_); clear F a; intro a F
        refine sD F (o_pickT (F.ev rfl) (F.ev rfl) ?_); clear F a; intro a F
        refine sD F (o_assign (F.ev rfl) ?_); clear F a; intro a F
        with_reducible refine l_nil (q_then (c_ret (q_thenR ?_)))
        refine p_ret F rfl (.cons (.tmp (F.ev rfl)) .nil) ?_
        exact ⟨rfl, M.ext⟩
      · rw [decide_eq_false h4]
        refine sG F (o_pickF (F.ev rfl) (F.ev rfl) ?_); clear F a; intro a F
        refine sD F (o_pickT (F.ev rfl) (F.ev rfl) ?_); clear F a; intro a F
        refine sD F (o_move (F.ev rfl) ?_); clear F a; intro a F
        refine sG F (o_fieldAddr (F.ev rfl) ?_); clear F a; intro a F
        refine sG F (o_load1 M (F.ev rfl) (by repeat constructor) (by first | assumption | rfl) ?_); clear F a; intro a F
        refine sG F (o_eqlF (F.ev rfl) (F.ev rfl) (by omega) ?_); clear F a; intro a F
        refine sD F (o_pickT (F.ev rfl) (F.ev rfl) ?_); clear F a; intro a F
        refine sD F (o_assign (F.ev rfl) ?_); clear F a; intro a F
        with_reducible refine l_nil (q_then (c_ret (q_thenR ?_)))
        refine p_ret F rfl (.cons (.tmp (F.ev rfl)) .nil) ?_
        exact ⟨rfl, M.ext⟩
set_option maxHeartbeats 4000000 in
theorem rtvalid_c (l : List RouV) (hx : ∀ x ∈ l, IsRo x) (v : Value) (W : World) (hS : SlAt W 39 v l.length (rosC l)) :
    Cal Tryz.prog 45 [v].toArray W fun r w' => r = .bool (validRs l) ∧ Ext [] W w' := by
  obtain ⟨q, cap, rfl, hcap, hsp, hl, hm⟩ := hS
  unfold validRs vldL
  by_cases c0 : 512 < l.length
  · rw [decide_eq_false (by omega), Bool.false_and]
    refine fn_ofM (n := 49) [] Tryz.func45 rfl rfl rfl ?_
    intro a w F M hwW
    refine c_seq (c_region ?_)
    refine sD F (o_assign (F.ev rfl) ?_); clear F a; intro a F
    with_reducible refine l_nil (q_then (c_seq (c_seq (c_region ?_))))
    refine sD F (o_move (F.ev rfl) ?_); clear F a; intro a F
    refine sD F (o_lenSl (F.ev rfl) ?_); clear F a; intro a F
    refine sD F (o_gtrT (F.ev rfl) (F.ev rfl) (by omega) ?_); clear F a; intro a F
    with_reducible refine l_nil (q_then ?_)
    refine c_true F rfl rfl ?_
    refine c_seq (c_region ?_)
    refine sD F (o_assign (F.ev rfl) ?_); clear F a; intro a F
    with_reducible refine l_nil (q_then (c_ret (q_thenR ?_)))
    refine p_ret F rfl (.cons (.tmp (F.ev rfl)) .nil) ?_
    exact ⟨rfl, M.ext⟩
  rw [decide_eq_true (show l.length ≤ 512 by omega), Bool.true_and]
  refine fn_ofM (n := 49) [] Tryz.func45 rfl rfl rfl ?_
  intro a w F M hwW
  refine c_seq (c_region ?_)
  refine sD F (o_assign (F.ev rfl) ?_); clear F a; intro a F
  with_reducible refine l_nil (q_then (c_seq (c_seq (c_region ?_))))
  refine sD F (o_move (F.ev rfl) ?_); clear F a; intro a F
  refine sD F (o_lenSl (F.ev rfl) ?_); clear F a; intro a F
  refine sD F (o_gtrF (F.ev rfl) (F.ev rfl) (by omega) ?_); clear F a; intro a F
  with_reducible refine l_nil (q_then ?_)
  refine c_false F rfl rfl ?_
  with_reducible refine c_skip (q_then (c_seq (c_seq (c_region ?_))))
  refine sD F (o_move (F.ev rfl) ?_); clear F a; intro a F
  refine sD F (o_lenSl (F.ev rfl) ?_); clear F a; intro a F
  refine sD F (o_move (F.ev rfl) ?_); clear F a; intro a F
  with_reducible refine l_nil (q_then (c_block ?_))
  refine c_loop (fun m a w => ∃ i : Nat, m = l.length - i ∧ i ≤ l.length ∧ (∀ j, j < i → vld1 rou1 cmpR l j = true) ∧ Frm a 49 [] [(10, .int .i64 i), (9, .int .i64 l.length), (0, .slice q l.length cap), (8, .slice q l.length cap)] ∧ Mem [] W w []) l.length ⟨0, rfl, by omega, by omega, F.only [10, 9, 0, 8] rfl, M⟩ ?_
  clear F M
  rintro m a w ⟨i, hm', hi, hv, F, M⟩
  by_cases hlt : i < l.length
  · obtain ⟨b, o, cs, t, fz, rfl, hb, hs⟩ := hm (by omega)
    have hxv := hx _ (List.getElem_mem hlt)
    have hv0 := vld1_0 (e1 := rou1) (cm := cmpR) hlt
    have hvs := vld1_s (e1 := rou1) (cm := cmpR) hlt
    have hvf := vld1_f (e1 := rou1) (cm := cmpR) hlt
    have f1 : seg cs (o + (i : Int).toNat * 39) 39 = some (roC l[i]) := seg_el (ros_len hx) hs hlt (by omega)
    obtain ⟨x, hx0⟩ : ∃ x, x = l[i] := ⟨_, rfl⟩
    rw [← hx0] at hxv hv0 hvs hvf f1
    have f2 : (roC x).length = 39 := ro_len hxv
    have f3 := ro_to hxv
    have f4 := ro_nb hxv
    have f5 := ro_said hxv
    have f6 := ro_til hxv
    have f7 : seg cs (o + (i : Int).toNat * 39) 39 = some (roC x) := f1
    refine c_seq (c_region ?_)
    refine sD F (o_lssT (F.ev rfl) (F.ev rfl) (by omega) ?_); clear F a; intro a F
    with_reducible refine l_nil (q_then (c_seq ?_))
    refine c_true F rfl rfl ?_
    with_reducible refine c_skip (q_then (c_seq (c_block (c_seq (c_region ?_)))))
    refine sD F (o_move (F.ev rfl) ?_); clear F a; intro a F
    refine sD F (o_indexSl (F.ev rfl) (F.ev rfl) (by omega) (by omega) ?_); clear F a; intro a F
    refine sD F (o_loadWA M (F.ev rfl) (by assumption) (by first | assumption | rfl) ?_); clear F a; intro a F
    (refine sD F (o_alloc M ?_); clear F M; intro b4 w M a F)
    refine sD F (o_assign (F.ev rfl) ?_); clear F a; intro a F
    (refine stepN rfl F (o_storeA M (F.ev rfl) (F.ev rfl) (f2) (ro_one x)  (by repeat constructor)  (put_all (by rw [f2]; rfl)) (by repeat constructor) ?_); clear F M; intro w M a F)
    with_reducible refine l_nil (q_then (c_seq (c_seq (c_region ?_))))
    refine sD F (o_fieldAddr (F.ev rfl) ?_); clear F a; intro a F
    refine sD F (o_loadA M (F.ev rfl) (by repeat constructor) (by first | assumption | rfl) ?_); clear F a; intro a F
    (refine sD F (o_call (F.ev rfl) (F.evs rfl) (Cal.mono (validTo_c x.to hxv.1 _) ?_)); clear F; clear a; rintro _ w ⟨rfl, hE⟩ a F; replace M := M.later hE; clear hE)
    cases c1 : validT x.to
    · rw [rng_f hlt (hvf (by unfold rou1; rw [c1]; rfl))]
      rw [c1] at F
      refine sD F (o_not (F.ev rfl) ?_); clear F a; intro a F
      refine sD F (o_move (F.ev rfl) ?_); clear F a; intro a F
      refine sO F ?_; clear F a; intro a F
      refine sO F ?_; clear F a; intro a F
      refine sO F ?_; clear F a; intro a F
      refine sD F (o_pickT (F.ev rfl) (F.ev rfl) ?_); clear F a; intro a F
      refine sD F (o_move (F.ev rfl) ?_); clear F a; intro a F
      refine sO F ?_; clear F a; intro a F
      refine sO F ?_; clear F a; intro a F
      refine sO F ?_; clear F a; intro a F
      refine sO F ?_; clear F a; intro a F
      refine sD F (o_pickT (F.ev rfl) (F.ev rfl) ?_); clear F a; intro a F
      refine sD F (o_move (F.ev rfl) ?_); clear F a; intro a F
      refine sO F ?_; clear F a; intro a F
      refine sO F ?_; clear F a; intro a F
      refine sO F ?_; clear F a; intro a F
      refine sO F ?_; clear F a; intro a F
      refine sD F (o_pickT (F.ev rfl) (F.ev rfl) ?_); clear F a; intro a F
      with_reducible refine l_nil (q_then ?_)
      refine c_true F rfl rfl ?_
      refine c_seq (c_region ?_)
      refine sD F (o_assign (F.ev rfl) ?_); clear F a; intro a F
      with_reducible refine l_nil (q_then (c_ret (q_thenR (q_inBR (q_thenR (q_thenR (q_inBR (q_thenR ?_))))))))
      refine p_ret F rfl (.cons (.tmp (F.ev rfl)) .nil) ?_
      exact ⟨rfl, M.ext⟩
    rw [c1] at F
    by_cases c2 : x.nb = 0
    · rw [rng_f hlt (hvf (by unfold rou1; rw [c1, decide_eq_true c2]; rfl))]
      refine sD F (o_not (F.ev rfl) ?_); clear F a; intro a F
      refine sD F (o_move (F.ev rfl) ?_); clear F a; intro a F
      refine sG F (o_fieldAddr (F.ev rfl) ?_); clear F a; intro a F
      refine sG F (o_load1 M (F.ev rfl) (by repeat constructor) (by first | assumption | rfl) ?_); clear F a; intro a F
      refine sG F (o_eqlT (F.ev rfl) (F.ev rfl) (by omega) ?_); clear F a; intro a F
      refine sD F (o_pickF (F.ev rfl) (F.ev rfl) ?_); clear F a; intro a F
      refine sD F (o_move (F.ev rfl) ?_); clear F a; intro a F
      refine sO F ?_; clear F a; intro a F
      refine sO F ?_; clear F a; intro a F
      refine sO F ?_; clear F a; intro a F
      refine sO F ?_; clear F a; intro a F
      refine sD F (o_pickT (F.ev rfl) (F.ev rfl) ?_); clear F a; intro a F
      refine sD F (o_move (F.ev rfl) ?_); clear F a; intro a F
      refine sO F ?_; clear F a; intro a F
      refine sO F ?_; clear F a; intro a F
      refine sO F ?_; clear F a; intro a F
      refine sO F ?_; clear F a; intro a F
      refine sD F (o_pickT (F.ev rfl) (F.ev rfl) ?_); clear F a; intro a F
      with_reducible refine l_nil (q_then ?_)
      refine c_true F rfl rfl ?_
      refine c_seq (c_region ?_)
      refine sD F (o_assign (F.ev rfl) ?_); clear F a; intro a F
      with_reducible refine l_nil (q_then (c_ret (q_thenR (q_inBR (q_thenR (q_thenR (q_inBR (q_thenR ?_))))))))
      refine p_ret F rfl (.cons (.tmp (F.ev rfl)) .nil) ?_
      exact ⟨rfl, M.ext⟩
    refine sD F (o_not (F.ev rfl) ?_); clear F a; intro a F
    refine sD F (o_move (F.ev rfl) ?_); clear F a; intro a F
    refine sG F (o_fieldAddr (F.ev rfl) ?_); clear F a; intro a F
    refine sG F (o_load1 M (F.ev rfl) (by repeat constructor) (by first | assumption | rfl) ?_); clear F a; intro a F
    refine sG F (o_eqlF (F.ev rfl) (F.ev rfl) (by omega) ?_); clear F a; intro a F
    refine sD F (o_pickF (F.ev rfl) (F.ev rfl) ?_); clear F a; intro a F
    refine sD F (o_move (F.ev rfl) ?_); clear F a; intro a F
    refine sG F (o_fieldAddr (F.ev rfl) ?_); clear F a; intro a F
    refine sG F (o_loadA M (F.ev rfl) (by repeat constructor) (by first | assumption | rfl) ?_); clear F a; intro a F
    (refine sG F (o_call (F.ev rfl) (F.evs rfl) (Cal.mono (rtfin_c x.said _) ?_)); clear F; clear a; rintro _ w ⟨rfl, hE⟩ a F; replace M := M.later hE; clear hE)
    cases c3 : finD x.said
    · rw [rng_f hlt (hvf (by unfold rou1; rw [c1, decide_eq_false c2, c3]; rfl))]
      rw [c3] at F
      refine sG F (o_not (F.ev rfl) ?_); clear F a; intro a F
      refine sD F (o_pickF (F.ev rfl) (F.ev rfl) ?_); clear F a; intro a F
      refine sD F (o_move (F.ev rfl) ?_); clear F a; intro a F
      refine sO F ?_; clear F a; intro a F
      refine sO F ?_; clear F a; intro a F
      refine sO F ?_; clear F a; intro a F
      refine sO F ?_; clear F a; intro a F
      refine sD F (o_pickT (F.ev rfl) (F.ev rfl) ?_); clear F a; intro a F
      with_reducible refine l_nil (q_then ?_)
      refine c_true F rfl rfl ?_
      refine c_seq (c_region ?_)
      refine sD F (o_assign (F.ev rfl) ?_); clear F a; intro a F
      with_reducible refine l_nil (q_then (c_ret (q_thenR (q_inBR (q_thenR (q_thenR (q_inBR (q_thenR ?_))))))))
      refine p_ret F rfl (.cons (.tmp (F.ev rfl)) .nil) ?_
      exact ⟨rfl, M.ext⟩
    rw [c3] at F
    refine sG F (o_not (F.ev rfl) ?_); clear F a; intro a F
    refine sD F (o_pickF (F.ev rfl) (F.ev rfl) ?_); clear F a; intro a F
    refine sD F (o_move (F.ev rfl) ?_); clear F a; intro a F
    refine sG F (o_fieldAddr (F.ev rfl) ?_); clear F a; intro a F
    refine sG F (o_load1 M (F.ev rfl) (by repeat constructor) (by first | assumption | rfl) ?_); clear F a; intro a F
    (refine sG F (o_call (F.ev rfl) (F.evs rfl) (Cal.mono (rtTime_c x.til _) ?_)); clear F; clear a; rintro _ w ⟨rfl, hE⟩ a F; replace M := M.later hE; clear hE)
    cases c4 : isTime x.til
    · rw [rng_f hlt (hvf (by unfold rou1; rw [c1, decide_eq_false c2, c3, c4]; rfl))]
      rw [c4] at F
      refine sG F (o_not (F.ev rfl) ?_); clear F a; intro a F
      refine sD F (o_pickF (F.ev rfl) (F.ev rfl) ?_); clear F a; intro a F
      with_reducible refine l_nil (q_then ?_)
      refine c_true F rfl rfl ?_
      refine c_seq (c_region ?_)
      refine sD F (o_assign (F.ev rfl) ?_); clear F a; intro a F
      with_reducible refine l_nil (q_then (c_ret (q_thenR (q_inBR (q_thenR (q_thenR (q_inBR (q_thenR ?_))))))))
      refine p_ret F rfl (.cons (.tmp (F.ev rfl)) .nil) ?_
      exact ⟨rfl, M.ext⟩
    rw [c4] at F
    have c5 : rou1 x = true := by unfold rou1; rw [c1, decide_eq_false c2, c3, c4]; rfl
    rw [c5] at hv0 hvs
    clear hvf
    have f8 := ro_all hxv
    refine sG F (o_not (F.ev rfl) ?_); clear F a; intro a F
    refine sD F (o_pickF (F.ev rfl) (F.ev rfl) ?_); clear F a; intro a F
    with_reducible refine l_nil (q_then ?_)
    refine c_false F rfl rfl ?_
    with_reducible refine c_skip (q_then (c_seq ?_))
    replace F := F.only [10, 9, 0, 8, 3, 4] rfl
    rcases Nat.eq_zero_or_pos i with hi0 | hi0
    · refine c_draw 12 F (by kernel_rfl) ?_
      intro w1 hE hok
      have M1 := M.later hE
      refine mK hok rfl rfl (fun a' w' F' E' => o_move (F'.ev rfl) ⟨Ext.refl _ _, rfl⟩) ?_
      refine mK hok rfl rfl (fun a' w' F' E' => o_gtrF (F'.ev rfl) (F'.ev rfl) (by omega) ⟨Ext.refl _ _, rfl⟩) ?_
      refine mK hok rfl rfl (fun a' w' F' E' => o_move (F'.ev rfl) ⟨Ext.refl _ _, rfl⟩) ?_
      refine mOff hok rfl rfl rfl rfl rfl ?_
      refine mOff hok rfl rfl rfl rfl rfl ?_
      refine mOff hok rfl rfl rfl rfl rfl ?_
      refine mOff hok rfl rfl rfl rfl rfl ?_
      refine mOff hok rfl rfl rfl rfl rfl ?_
      refine mOff hok rfl rfl rfl rfl rfl ?_
      refine mOff hok rfl rfl rfl rfl rfl ?_
      refine mOff hok rfl rfl rfl rfl rfl ?_
      refine mK hok rfl rfl (fun a' w' F' E' => o_pickF (F'.ev rfl) (F'.ev rfl) ⟨Ext.refl _ _, rfl⟩) ?_
      (refine mDone rfl rfl ?_; clear F M; intro a w F hE2 hX hTT hDD hPP; have M := M1.later hE2; clear M1; clear hX; clear hE2; clear hok; clear hE; clear hTT; clear hDD; clear hPP; (try dsimp only at F))
      with_reducible refine l_nil (q_then ?_)
      refine c_false F rfl rfl ?_
      with_reducible refine c_skip (q_inB (q_then (c_region ?_)))
      refine sD F (o_add (F.ev rfl) (F.ev rfl) (w_i64 (by omega) (by omega)) ?_); clear F a; intro a F
      refine sD F (o_move (F.ev rfl) ?_); clear F a; intro a F
      with_reducible refine l_nil (q_then ?_)
      exact ⟨_, by omega, i + 1, rfl, by omega, fun j hj => by
        rcases Nat.lt_or_ge j i with h1 | h1
        · exact hv j h1
        · obtain rfl : j = i := by omega
          exact hv0 hi0, F.only [10, 9, 0, 8] rfl, M.sub (List.sublist_cons_self _ _)⟩
    · have hyv := hx _ (List.getElem_mem (show i - 1 < l.length by omega))
      have g1 : seg cs (o + ((i : Int) - 1).toNat * 39) 39 = some (roC (l[i - 1]'(by omega))) := seg_el (ros_len hx) hs (show i - 1 < l.length by omega) (by omega)
      replace hvs := hvs hi0
      obtain ⟨y, hy0⟩ : ∃ y, y = l[i - 1]'(by omega) := ⟨_, rfl⟩
      rw [← hy0] at hyv g1 hvs
      clear hy0
      by_cases c6 : cmpR y x < 0
      · refine c_draw 12 F (by kernel_rfl) ?_
        intro w1 hE hok
        have M1 := M.later hE
        refine mK hok rfl rfl (fun a' w' F' E' => o_move (F'.ev rfl) ⟨Ext.refl _ _, rfl⟩) ?_
        refine mK hok rfl rfl (fun a' w' F' E' => o_gtrT (F'.ev rfl) (F'.ev rfl) (by omega) ⟨Ext.refl _ _, rfl⟩) ?_
        refine mK hok rfl rfl (fun a' w' F' E' => o_move (F'.ev rfl) ⟨Ext.refl _ _, rfl⟩) ?_
        refine mKG hok rfl rfl rfl rfl (fun a' w' F' E' => o_move (F'.ev rfl) ⟨Ext.refl _ _, rfl⟩) ?_
        refine mKG hok rfl rfl rfl rfl (fun a' w' F' E' => o_move (F'.ev rfl) ⟨Ext.refl _ _, rfl⟩) ?_
        refine mKG hok rfl rfl rfl rfl (fun a' w' F' E' => o_sub (F'.ev rfl) (F'.ev rfl) (w_i64 (by omega) (by omega)) ⟨Ext.refl _ _, rfl⟩) ?_
        refine mKG hok rfl rfl rfl rfl (fun a' w' F' E' => o_indexSl (F'.ev rfl) (F'.ev rfl) (by omega) (by omega) ⟨Ext.refl _ _, rfl⟩) ?_
        refine mKG hok rfl rfl rfl rfl (fun a' w' F' E' => o_loadWA (M1.later E') (F'.ev rfl) (by assumption) (by first | assumption | rfl) ⟨Ext.refl _ _, rfl⟩) ?_
        refine mKG hok rfl rfl rfl rfl (fun a' w' F' E' => o_loadA (M1.later E') (F'.ev rfl) (by repeat constructor) (by first | assumption | rfl) ⟨Ext.refl _ _, rfl⟩) ?_
        (refine mKG hok rfl rfl rfl rfl (fun a' w' F' E' => o_call (F'.ev rfl) (F'.evs rfl) (Cal.mono (rorder_c y x hyv hxv _) fun _ _ hh => ⟨hh.2, hh.1⟩)) ?_)
        refine mKG hok rfl rfl rfl rfl (fun a' w' F' E' => o_geqF (F'.ev rfl) (F'.ev rfl) (by omega) ⟨Ext.refl _ _, rfl⟩) ?_
        refine mK hok rfl rfl (fun a' w' F' E' => o_pickT (F'.ev rfl) (F'.ev rfl) ⟨Ext.refl _ _, rfl⟩) ?_
        (refine mDone rfl rfl ?_; clear F M; intro a w F hE2 hX hTT hDD hPP; have M := M1.later hE2; clear M1; clear hX; clear hE2; clear hok; clear hE; clear hTT; clear hDD; clear hPP; (try dsimp only at F))
        with_reducible refine l_nil (q_then ?_)
        refine c_false F rfl rfl ?_
        with_reducible refine c_skip (q_inB (q_then (c_region ?_)))
        refine sD F (o_add (F.ev rfl) (F.ev rfl) (w_i64 (by omega) (by omega)) ?_); clear F a; intro a F
        refine sD F (o_move (F.ev rfl) ?_); clear F a; intro a F
        with_reducible refine l_nil (q_then ?_)
        exact ⟨_, by omega, i + 1, rfl, by omega, fun j hj => by
          rcases Nat.lt_or_ge j i with h1 | h1
          · exact hv j h1
          · obtain rfl : j = i := by omega
            rw [hvs]; simp [c6], F.only [10, 9, 0, 8] rfl, M.sub (List.sublist_cons_self _ _)⟩
      · rw [rng_f hlt (by rw [hvs]; simp [c6])]
        refine c_draw 12 F (by kernel_rfl) ?_
        intro w1 hE hok
        have M1 := M.later hE
        refine mK hok rfl rfl (fun a' w' F' E' => o_move (F'.ev rfl) ⟨Ext.refl _ _, rfl⟩) ?_
        refine mK hok rfl rfl (fun a' w' F' E' => o_gtrT (F'.ev rfl) (F'.ev rfl) (by omega) ⟨Ext.refl _ _, rfl⟩) ?_
        refine mK hok rfl rfl (fun a' w' F' E' => o_move (F'.ev rfl) ⟨Ext.refl _ _, rfl⟩) ?_
        refine mKG hok rfl rfl rfl rfl (fun a' w' F' E' => o_move (F'.ev rfl) ⟨Ext.refl _ _, rfl⟩) ?_
        refine mKG hok rfl rfl rfl rfl (fun a' w' F' E' => o_move (F'.ev rfl) ⟨Ext.refl _ _, rfl⟩) ?_
        refine mKG hok rfl rfl rfl rfl (fun a' w' F' E' => o_sub (F'.ev rfl) (F'.ev rfl) (w_i64 (by omega) (by omega)) ⟨Ext.refl _ _, rfl⟩) ?_
        refine mKG hok rfl rfl rfl rfl (fun a' w' F' E' => o_indexSl (F'.ev rfl) (F'.ev rfl) (by omega) (by omega) ⟨Ext.refl _ _, rfl⟩) ?_
        refine mKG hok rfl rfl rfl rfl (fun a' w' F' E' => o_loadWA (M1.later E') (F'.ev rfl) (by assumption) (by first | assumption | rfl) ⟨Ext.refl _ _, rfl⟩) ?_
        refine mKG hok rfl rfl rfl rfl (fun a' w' F' E' => o_loadA (M1.later E') (F'.ev rfl) (by repeat constructor) (by first | assumption | rfl) ⟨Ext.refl _ _, rfl⟩) ?_
        (refine mKG hok rfl rfl rfl rfl (fun a' w' F' E' => o_call (F'.ev rfl) (F'.evs rfl) (Cal.mono (rorder_c y x hyv hxv _) fun _ _ hh => ⟨hh.2, hh.1⟩)) ?_)
        refine mKG hok rfl rfl rfl rfl (fun a' w' F' E' => o_geqT (F'.ev rfl) (F'.ev rfl) (by omega) ⟨Ext.refl _ _, rfl⟩) ?_
        refine mK hok rfl rfl (fun a' w' F' E' => o_pickT (F'.ev rfl) (F'.ev rfl) ⟨Ext.refl _ _, rfl⟩) ?_
        (refine mDone rfl rfl ?_; clear F M; intro a w F hE2 hX hTT hDD hPP; have M := M1.later hE2; clear M1; clear hX; clear hE2; clear hok; clear hE; clear hTT; clear hDD; clear hPP; (try dsimp only at F))
        with_reducible refine l_nil (q_then ?_)
        refine c_true F rfl rfl ?_
        refine c_seq (c_region ?_)
        refine sD F (o_assign (F.ev rfl) ?_); clear F a; intro a F
        with_reducible refine l_nil (q_then (c_ret (q_inBR (q_thenR (q_thenR (q_inBR (q_thenR ?_)))))))
        refine p_ret F rfl (.cons (.tmp (F.ev rfl)) .nil) ?_
        exact ⟨rfl, M.ext⟩
  · obtain rfl : i = l.length := by omega
    rw [rng_t hv]
    refine c_seq (c_region ?_)
    refine sD F (o_lssF (F.ev rfl) (F.ev rfl) (by omega) ?_); clear F a; intro a F
    with_reducible refine l_nil (q_then (c_seq ?_))
    refine c_false F rfl rfl ?_
    with_reducible refine c_exit (q_thenX (q_thenX (q_inBX (q_then (c_seq (c_region ?_))))))
    refine sD F (o_assign (F.ev rfl) ?_); clear F a; intro a F
    with_reducible refine l_nil (q_then (c_ret ?_))
    refine p_ret F rfl (.cons (.tmp (F.ev rfl)) .nil) ?_
    exact ⟨rfl, M.ext⟩
set_option maxHeartbeats 4000000 in
theorem scvalid_c (l : List SrcV) (hx : ∀ x ∈ l, IsSr x) (v : Value) (W : World) (hS : SlAt W 38 v l.length (srsC l)) :
    Cal Tryz.prog 46 [v].toArray W fun r w' => r = .bool (validSs l) ∧ Ext [] W w' := by
  obtain ⟨q, cap, rfl, hcap, hsp, hl, hm⟩ := hS
  unfold validSs vldL
  by_cases c0 : 256 < l.length
  · rw [decide_eq_false (by omega), Bool.false_and]
    refine fn_ofM (n := 52) [] Tryz.func46 rfl rfl rfl ?_
    intro a w F M hwW
    refine c_seq (c_region ?_)
    refine sD F (o_assign (F.ev rfl) ?_); clear F a; intro a F
    with_reducible refine l_nil (q_then (c_seq (c_seq (c_region ?_))))
    refine sD F (o_move (F.ev rfl) ?_); clear F a; intro a F
    refine sD F (o_lenSl (F.ev rfl) ?_); clear F a; intro a F
    refine sD F (o_gtrT (F.ev rfl) (F.ev rfl) (by omega) ?_); clear F a; intro a F
    with_reducible refine l_nil (q_then ?_)
    refine c_true F rfl rfl ?_
    refine c_seq (c_region ?_)
    refine sD F (o_assign (F.ev rfl) ?_); clear F a; intro a F
    with_reducible refine l_nil (q_then (c_ret (q_thenR ?_)))
    refine p_ret F rfl (.cons (.tmp (F.ev rfl)) .nil) ?_
    exact ⟨rfl, M.ext⟩
  rw [decide_eq_true (show l.length ≤ 256 by omega), Bool.true_and]
  refine fn_ofM (n := 52) [] Tryz.func46 rfl rfl rfl ?_
  intro a w F M hwW
  refine c_seq (c_region ?_)
  refine sD F (o_assign (F.ev rfl) ?_); clear F a; intro a F
  with_reducible refine l_nil (q_then (c_seq (c_seq (c_region ?_))))
  refine sD F (o_move (F.ev rfl) ?_); clear F a; intro a F
  refine sD F (o_lenSl (F.ev rfl) ?_); clear F a; intro a F
  refine sD F (o_gtrF (F.ev rfl) (F.ev rfl) (by omega) ?_); clear F a; intro a F
  with_reducible refine l_nil (q_then ?_)
  refine c_false F rfl rfl ?_
  with_reducible refine c_skip (q_then (c_seq (c_seq (c_region ?_))))
  refine sD F (o_move (F.ev rfl) ?_); clear F a; intro a F
  refine sD F (o_lenSl (F.ev rfl) ?_); clear F a; intro a F
  refine sD F (o_move (F.ev rfl) ?_); clear F a; intro a F
  with_reducible refine l_nil (q_then (c_block ?_))
  refine c_loop (fun m a w => ∃ i : Nat, m = l.length - i ∧ i ≤ l.length ∧ (∀ j, j < i → vld1 src1 cmpS l j = true) ∧ Frm a 52 [] [(10, .int .i64 i), (9, .int .i64 l.length), (0, .slice q l.length cap), (8, .slice q l.length cap)] ∧ Mem [] W w []) l.length ⟨0, rfl, by omega, by omega, F.only [10, 9, 0, 8] rfl, M⟩ ?_
  clear F M
  rintro m a w ⟨i, hm', hi, hv, F, M⟩
  by_cases hlt : i < l.length
  · obtain ⟨b, o, cs, t, fz, rfl, hb, hs⟩ := hm (by omega)
    have hxv := hx _ (List.getElem_mem hlt)
    have hv0 := vld1_0 (e1 := src1) (cm := cmpS) hlt
    have hvs := vld1_s (e1 := src1) (cm := cmpS) hlt
    have hvf := vld1_f (e1 := src1) (cm := cmpS) hlt
    have f1 : seg cs (o + (i : Int).toNat * 38) 38 = some (srC l[i]) := seg_el (srs_len hx) hs hlt (by omega)
    obtain ⟨x, hx0⟩ : ∃ x, x = l[i] := ⟨_, rfl⟩
    rw [← hx0] at hxv hv0 hvs hvf f1
    have f2 : (srC x).length = 38 := sr_len hxv
    have f3 := sr_to hxv
    have f4 := sr_bst hxv
    have f5 := sr_bst_met hxv
    have f6 := sr_til hxv
    refine c_seq (c_region ?_)
    refine sD F (o_lssT (F.ev rfl) (F.ev rfl) (by omega) ?_); clear F a; intro a F
    with_reducible refine l_nil (q_then (c_seq ?_))
    refine c_true F rfl rfl ?_
    with_reducible refine c_skip (q_then (c_seq (c_block (c_seq (c_region ?_)))))
    refine sD F (o_move (F.ev rfl) ?_); clear F a; intro a F
    refine sD F (o_indexSl (F.ev rfl) (F.ev rfl) (by omega) (by omega) ?_); clear F a; intro a F
    refine sD F (o_loadWA M (F.ev rfl) (by assumption) (by first | assumption | rfl) ?_); clear F a; intro a F
    (refine sD F (o_alloc M ?_); clear F M; intro b4 w M a F)
    refine sD F (o_assign (F.ev rfl) ?_); clear F a; intro a F
    (refine stepN rfl F (o_storeA M (F.ev rfl) (F.ev rfl) (f2) (sr_one x)  (by repeat constructor)  (put_all (by rw [f2]; rfl)) (by repeat constructor) ?_); clear F M; intro w M a F)
    with_reducible refine l_nil (q_then (c_seq (c_seq (c_region ?_))))
    refine sD F (o_fieldAddr (F.ev rfl) ?_); clear F a; intro a F
    refine sD F (o_loadA M (F.ev rfl) (by repeat constructor) (by first | assumption | rfl) ?_); clear F a; intro a F
    (refine sD F (o_call (F.ev rfl) (F.evs rfl) (Cal.mono (validTo_c x.to hxv.1 _) ?_)); clear F; clear a; rintro _ w ⟨rfl, hE⟩ a F; replace M := M.later hE; clear hE)
    cases c1 : validT x.to
    · rw [rng_f hlt (hvf (by unfold src1; rw [c1]; rfl))]
      rw [c1] at F
      refine sD F (o_not (F.ev rfl) ?_); clear F a; intro a F
      refine sD F (o_move (F.ev rfl) ?_); clear F a; intro a F
      refine sO F ?_; clear F a; intro a F
      refine sO F ?_; clear F a; intro a F
      refine sO F ?_; clear F a; intro a F
      refine sO F ?_; clear F a; intro a F
      refine sD F (o_pickT (F.ev rfl) (F.ev rfl) ?_); clear F a; intro a F
      refine sD F (o_move (F.ev rfl) ?_); clear F a; intro a F
      refine sO F ?_; clear F a; intro a F
      refine sO F ?_; clear F a; intro a F
      refine sO F ?_; clear F a; intro a F
      refine sO F ?_; clear F a; intro a F
      refine sD F (o_pickT (F.ev rfl) (F.ev rfl) ?_); clear F a; intro a F
      refine sD F (o_move (F.ev rfl) ?_); clear F a; intro a F
      refine sO F ?_; clear F a; intro a F
      refine sO F ?_; clear F a; intro a F
      refine sO F ?_; clear F a; intro a F
      refine sO F ?_; clear F a; intro a F
      refine sD F (o_pickT (F.ev rfl) (F.ev rfl) ?_); clear F a; intro a F
      with_reducible refine l_nil (q_then ?_)
      refine c_true F rfl rfl ?_
      refine c_seq (c_region ?_)
      refine sD F (o_assign (F.ev rfl) ?_); clear F a; intro a F
      with_reducible refine l_nil (q_then (c_ret (q_thenR (q_inBR (q_thenR (q_thenR (q_inBR (q_thenR ?_))))))))
      refine p_ret F rfl (.cons (.tmp (F.ev rfl)) .nil) ?_
      exact ⟨rfl, M.ext⟩
    rw [c1] at F
    refine sD F (o_not (F.ev rfl) ?_); clear F a; intro a F
    refine sD F (o_move (F.ev rfl) ?_); clear F a; intro a F
    refine sG F (o_fieldAddr (F.ev rfl) ?_); clear F a; intro a F
    refine sG F (o_loadA M (F.ev rfl) (by repeat constructor) (by first | assumption | rfl) ?_); clear F a; intro a F
    (refine sG F (o_call (F.ev rfl) (F.evs rfl) (Cal.mono (sqvalid_c x.bst _) ?_)); clear F; clear a; rintro _ w ⟨rfl, hE⟩ a F; replace M := M.later hE; clear hE)
    cases c2 : validM x.bst.met
    · rw [rng_f hlt (hvf (by unfold src1 finD; rw [c1, c2]; rfl))]
      rw [c2] at F
      refine sG F (o_not (F.ev rfl) ?_); clear F a; intro a F
      refine sD F (o_pickF (F.ev rfl) (F.ev rfl) ?_); clear F a; intro a F
      refine sD F (o_move (F.ev rfl) ?_); clear F a; intro a F
      refine sO F ?_; clear F a; intro a F
      refine sO F ?_; clear F a; intro a F
      refine sO F ?_; clear F a; intro a F
      refine sO F ?_; clear F a; intro a F
      refine sD F (o_pickT (F.ev rfl) (F.ev rfl) ?_); clear F a; intro a F
      refine sD F (o_move (F.ev rfl) ?_); clear F a; intro a F
      refine sO F ?_; clear F a; intro a F
      refine sO F ?_; clear F a; intro a F
      refine sO F ?_; clear F a; intro a F
      refine sO F ?_; clear F a; intro a F
      refine sD F (o_pickT (F.ev rfl) (F.ev rfl) ?_); clear F a; intro a F
      with_reducible refine l_nil (q_then ?_)
      refine c_true F rfl rfl ?_
      refine c_seq (c_region ?_)
      refine sD F (o_assign (F.ev rfl) ?_); clear F a; intro a F
      with_reducible refine l_nil (q_then (c_ret (q_thenR (q_inBR (q_thenR (q_thenR (q_inBR (q_thenR ?_))))))))
      refine p_ret F rfl (.cons (.tmp (F.ev rfl)) .nil) ?_
      exact ⟨rfl, M.ext⟩
    rw [c2] at F
    by_cases c3 : x.bst.met = 65535
    · rw [rng_f hlt (hvf (by unfold src1 finD inf; rw [c1, c2, decide_eq_true c3]; rfl))]
      refine sG F (o_not (F.ev rfl) ?_); clear F a; intro a F
      refine sD F (o_pickF (F.ev rfl) (F.ev rfl) ?_); clear F a; intro a F
      refine sD F (o_move (F.ev rfl) ?_); clear F a; intro a F
      refine sG F (o_fieldAddr (F.ev rfl) ?_); clear F a; intro a F
      refine sG F (o_fieldAddr (F.ev rfl) ?_); clear F a; intro a F
      refine sG F (o_load1 M (F.ev rfl) (by repeat constructor) (by first | assumption | rfl) ?_); clear F a; intro a F
      refine sG F (o_eqlT (F.ev rfl) (F.ev rfl) (by omega) ?_); clear F a; intro a F
      refine sD F (o_pickF (F.ev rfl) (F.ev rfl) ?_); clear F a; intro a F
      refine sD F (o_move (F.ev rfl) ?_); clear F a; intro a F
      refine sO F ?_; clear F a; intro a F
      refine sO F ?_; clear F a; intro a F
      refine sO F ?_; clear F a; intro a F
      refine sO F ?_; clear F a; intro a F
      refine sD F (o_pickT (F.ev rfl) (F.ev rfl) ?_); clear F a; intro a F
      with_reducible refine l_nil (q_then ?_)
      refine c_true F rfl rfl ?_
      refine c_seq (c_region ?_)
      refine sD F (o_assign (F.ev rfl) ?_); clear F a; intro a F
      with_reducible refine l_nil (q_then (c_ret (q_thenR (q_inBR (q_thenR (q_thenR (q_inBR (q_thenR ?_))))))))
      refine p_ret F rfl (.cons (.tmp (F.ev rfl)) .nil) ?_
      exact ⟨rfl, M.ext⟩
    refine sG F (o_not (F.ev rfl) ?_); clear F a; intro a F
    refine sD F (o_pickF (F.ev rfl) (F.ev rfl) ?_); clear F a; intro a F
    refine sD F (o_move (F.ev rfl) ?_); clear F a; intro a F
    refine sG F (o_fieldAddr (F.ev rfl) ?_); clear F a; intro a F
    refine sG F (o_fieldAddr (F.ev rfl) ?_); clear F a; intro a F
    refine sG F (o_load1 M (F.ev rfl) (by repeat constructor) (by first | assumption | rfl) ?_); clear F a; intro a F
    refine sG F (o_eqlF (F.ev rfl) (F.ev rfl) (by omega) ?_); clear F a; intro a F
    refine sD F (o_pickF (F.ev rfl) (F.ev rfl) ?_); clear F a; intro a F
    refine sD F (o_move (F.ev rfl) ?_); clear F a; intro a F
    refine sG F (o_fieldAddr (F.ev rfl) ?_); clear F a; intro a F
    refine sG F (o_load1 M (F.ev rfl) (by repeat constructor) (by first | assumption | rfl) ?_); clear F a; intro a F
    (refine sG F (o_call (F.ev rfl) (F.evs rfl) (Cal.mono (scTime_c x.til _) ?_)); clear F; clear a; rintro _ w ⟨rfl, hE⟩ a F; replace M := M.later hE; clear hE)
    cases c4 : isTime x.til
    · rw [rng_f hlt (hvf (by unfold src1 finD inf; rw [c1, c2, decide_eq_false c3, c4]; rfl))]
      rw [c4] at F
      refine sG F (o_not (F.ev rfl) ?_); clear F a; intro a F
      refine sD F (o_pickF (F.ev rfl) (F.ev rfl) ?_); clear F a; intro a F
      with_reducible refine l_nil (q_then ?_)
      refine c_true F rfl rfl ?_
      refine c_seq (c_region ?_)
      refine sD F (o_assign (F.ev rfl) ?_); clear F a; intro a F
      with_reducible refine l_nil (q_then (c_ret (q_thenR (q_inBR (q_thenR (q_thenR (q_inBR (q_thenR ?_))))))))
      refine p_ret F rfl (.cons (.tmp (F.ev rfl)) .nil) ?_
      exact ⟨rfl, M.ext⟩
    rw [c4] at F
    have c5 : src1 x = true := by unfold src1 finD inf; rw [c1, c2, decide_eq_false c3, c4]; rfl
    rw [c5] at hv0 hvs
    clear hvf
    refine sG F (o_not (F.ev rfl) ?_); clear F a; intro a F
    refine sD F (o_pickF (F.ev rfl) (F.ev rfl) ?_); clear F a; intro a F
    with_reducible refine l_nil (q_then ?_)
    refine c_false F rfl rfl ?_
    with_reducible refine c_skip (q_then (c_seq ?_))
    replace F := F.only [10, 9, 0, 8, 3, 4] rfl
    rcases Nat.eq_zero_or_pos i with hi0 | hi0
    · refine c_draw 14 F (by kernel_rfl) ?_
      intro w1 hE hok
      have M1 := M.later hE
      refine mK hok rfl rfl (fun a' w' F' E' => o_move (F'.ev rfl) ⟨Ext.refl _ _, rfl⟩) ?_
      refine mK hok rfl rfl (fun a' w' F' E' => o_gtrF (F'.ev rfl) (F'.ev rfl) (by omega) ⟨Ext.refl _ _, rfl⟩) ?_
      refine mK hok rfl rfl (fun a' w' F' E' => o_move (F'.ev rfl) ⟨Ext.refl _ _, rfl⟩) ?_
      refine mOff hok rfl rfl rfl rfl rfl ?_
      refine mOff hok rfl rfl rfl rfl rfl ?_
      refine mOff hok rfl rfl rfl rfl rfl ?_
      refine mOff hok rfl rfl rfl rfl rfl ?_
      refine mOff hok rfl rfl rfl rfl rfl ?_
      refine mOff hok rfl rfl rfl rfl rfl ?_
      refine mOff hok rfl rfl rfl rfl rfl ?_
      refine mOff hok rfl rfl rfl rfl rfl ?_
      refine mOff hok rfl rfl rfl rfl rfl ?_
      refine mOff hok rfl rfl rfl rfl rfl ?_
      refine mK hok rfl rfl (fun a' w' F' E' => o_pickF (F'.ev rfl) (F'.ev rfl) ⟨Ext.refl _ _, rfl⟩) ?_
      (refine mDone rfl rfl ?_; clear F M; intro a w F hE2 hX hTT hDD hPP; have M := M1.later hE2; clear M1; clear hX; clear hE2; clear hok; clear hE; clear hTT; clear hDD; clear hPP; (try dsimp only at F))
      with_reducible refine l_nil (q_then ?_)
      refine c_false F rfl rfl ?_
      with_reducible refine c_skip (q_inB (q_then (c_region ?_)))
      refine sD F (o_add (F.ev rfl) (F.ev rfl) (w_i64 (by omega) (by omega)) ?_); clear F a; intro a F
      refine sD F (o_move (F.ev rfl) ?_); clear F a; intro a F
      with_reducible refine l_nil (q_then ?_)
      exact ⟨_, by omega, i + 1, rfl, by omega, fun j hj => by
        rcases Nat.lt_or_ge j i with h1 | h1
        · exact hv j h1
        · obtain rfl : j = i := by omega
          exact hv0 hi0, F.only [10, 9, 0, 8] rfl, M.sub (List.sublist_cons_self _ _)⟩
    · have hyv := hx _ (List.getElem_mem (show i - 1 < l.length by omega))
      have g1 : seg cs (o + ((i : Int) - 1).toNat * 38) 38 = some (srC (l[i - 1]'(by omega))) := seg_el (srs_len hx) hs (show i - 1 < l.length by omega) (by omega)
      replace hvs := hvs hi0
      obtain ⟨y, hy0⟩ : ∃ y, y = l[i - 1]'(by omega) := ⟨_, rfl⟩
      rw [← hy0] at hyv g1 hvs
      have g2 : seg cs (o + ((i : Int) - 1).toNat * 38) 35 = some (dvC y.to) := sg_seg g1 (sr_to hyv) (by omega)
      clear g1 hy0
      change vld1 src1 cmpS l i = (true && decide (cmpD y.to x.to < 0)) at hvs
      by_cases c6 : cmpD y.to x.to < 0
      · refine c_draw 14 F (by kernel_rfl) ?_
        intro w1 hE hok
        have M1 := M.later hE
        refine mK hok rfl rfl (fun a' w' F' E' => o_move (F'.ev rfl) ⟨Ext.refl _ _, rfl⟩) ?_
        refine mK hok rfl rfl (fun a' w' F' E' => o_gtrT (F'.ev rfl) (F'.ev rfl) (by omega) ⟨Ext.refl _ _, rfl⟩) ?_
        refine mK hok rfl rfl (fun a' w' F' E' => o_move (F'.ev rfl) ⟨Ext.refl _ _, rfl⟩) ?_
        refine mKG hok rfl rfl rfl rfl (fun a' w' F' E' => o_move (F'.ev rfl) ⟨Ext.refl _ _, rfl⟩) ?_
        refine mKG hok rfl rfl rfl rfl (fun a' w' F' E' => o_move (F'.ev rfl) ⟨Ext.refl _ _, rfl⟩) ?_
        refine mKG hok rfl rfl rfl rfl (fun a' w' F' E' => o_sub (F'.ev rfl) (F'.ev rfl) (w_i64 (by omega) (by omega)) ⟨Ext.refl _ _, rfl⟩) ?_
        refine mKG hok rfl rfl rfl rfl (fun a' w' F' E' => o_indexSl (F'.ev rfl) (F'.ev rfl) (by omega) (by omega) ⟨Ext.refl _ _, rfl⟩) ?_
        refine mKG hok rfl rfl rfl rfl (fun a' w' F' E' => o_fieldAddr (F'.ev rfl) ⟨Ext.refl _ _, rfl⟩) ?_
        refine mKG hok rfl rfl rfl rfl (fun a' w' F' E' => o_loadWA (M1.later E') (F'.ev rfl) (by assumption) (by first | assumption | rfl) ⟨Ext.refl _ _, rfl⟩) ?_
        refine mKG hok rfl rfl rfl rfl (fun a' w' F' E' => o_fieldAddr (F'.ev rfl) ⟨Ext.refl _ _, rfl⟩) ?_
        refine mKG hok rfl rfl rfl rfl (fun a' w' F' E' => o_loadA (M1.later E') (F'.ev rfl) (by repeat constructor) (by first | assumption | rfl) ⟨Ext.refl _ _, rfl⟩) ?_
        (refine mKG hok rfl rfl rfl rfl (fun a' w' F' E' => o_call (F'.ev rfl) (F'.evs rfl) (Cal.mono (scompare_c y.to x.to hyv.1 hxv.1 _) fun _ _ hh => ⟨hh.2, hh.1⟩)) ?_)
        refine mKG hok rfl rfl rfl rfl (fun a' w' F' E' => o_geqF (F'.ev rfl) (F'.ev rfl) (by omega) ⟨Ext.refl _ _, rfl⟩) ?_
        refine mK hok rfl rfl (fun a' w' F' E' => o_pickT (F'.ev rfl) (F'.ev rfl) ⟨Ext.refl _ _, rfl⟩) ?_
        (refine mDone rfl rfl ?_; clear F M; intro a w F hE2 hX hTT hDD hPP; have M := M1.later hE2; clear M1; clear hX; clear hE2; clear hok; clear hE; clear hTT; clear hDD; clear hPP; (try dsimp only at F))
        with_reducible refine l_nil (q_then ?_)
        refine c_false F rfl rfl ?_
        with_reducible refine c_skip (q_inB (q_then (c_region ?_)))
        refine sD F (o_add (F.ev rfl) (F.ev rfl) (w_i64 (by omega) (by omega)) ?_); clear F a; intro a F
        refine sD F (o_move (F.ev rfl) ?_); clear F a; intro a F
        with_reducible refine l_nil (q_then ?_)
        exact ⟨_, by omega, i + 1, rfl, by omega, fun j hj => by
          rcases Nat.lt_or_ge j i with h1 | h1
          · exact hv j h1
          · obtain rfl : j = i := by omega
            rw [hvs]; simp [c6], F.only [10, 9, 0, 8] rfl, M.sub (List.sublist_cons_self _ _)⟩
      · rw [rng_f hlt (by rw [hvs]; simp [c6])]
        refine c_draw 14 F (by kernel_rfl) ?_
        intro w1 hE hok
        have M1 := M.later hE
        refine mK hok rfl rfl (fun a' w' F' E' => o_move (F'.ev rfl) ⟨Ext.refl _ _, rfl⟩) ?_
        refine mK hok rfl rfl (fun a' w' F' E' => o_gtrT (F'.ev rfl) (F'.ev rfl) (by omega) ⟨Ext.refl _ _, rfl⟩) ?_
        refine mK hok rfl rfl (fun a' w' F' E' => o_move (F'.ev rfl) ⟨Ext.refl _ _, rfl⟩) ?_
        refine mKG hok rfl rfl rfl rfl (fun a' w' F' E' => o_move (F'.ev rfl) ⟨Ext.refl _ _, rfl⟩) ?_
        refine mKG hok rfl rfl rfl rfl (fun a' w' F' E' => o_move (F'.ev rfl) ⟨Ext.refl _ _, rfl⟩) ?_
        refine mKG hok rfl rfl rfl rfl (fun a' w' F' E' => o_sub (F'.ev rfl) (F'.ev rfl) (w_i64 (by omega) (by omega)) ⟨Ext.refl _ _, rfl⟩) ?_
        refine mKG hok rfl rfl rfl rfl (fun a' w' F' E' => o_indexSl (F'.ev rfl) (F'.ev rfl) (by omega) (by omega) ⟨Ext.refl _ _, rfl⟩) ?_
        refine mKG hok rfl rfl rfl rfl (fun a' w' F' E' => o_fieldAddr (F'.ev rfl) ⟨Ext.refl _ _, rfl⟩) ?_
        refine mKG hok rfl rfl rfl rfl (fun a' w' F' E' => o_loadWA (M1.later E') (F'.ev rfl) (by assumption) (by first | assumption | rfl) ⟨Ext.refl _ _, rfl⟩) ?_
        refine mKG hok rfl rfl rfl rfl (fun a' w' F' E' => o_fieldAddr (F'.ev rfl) ⟨Ext.refl _ _, rfl⟩) ?_
        refine mKG hok rfl rfl rfl rfl (fun a' w' F' E' => o_loadA (M1.later E') (F'.ev rfl) (by repeat constructor) (by first | assumption | rfl) ⟨Ext.refl _ _, rfl⟩) ?_
        (refine mKG hok rfl rfl rfl rfl (fun a' w' F' E' => o_call (F'.ev rfl) (F'.evs rfl) (Cal.mono (scompare_c y.to x.to hyv.1 hxv.1 _) fun _ _ hh => ⟨hh.2, hh.1⟩)) ?_)
        refine mKG hok rfl rfl rfl rfl (fun a' w' F' E' => o_geqT (F'.ev rfl) (F'.ev rfl) (by omega) ⟨Ext.refl _ _, rfl⟩) ?_
        refine mK hok rfl rfl (fun a' w' F' E' => o_pickT (F'.ev rfl) (F'.ev rfl) ⟨Ext.refl _ _, rfl⟩) ?_
        (refine mDone rfl rfl ?_; clear F M; intro a w F hE2 hX hTT hDD hPP; have M := M1.later hE2; clear M1; clear hX; clear hE2; clear hok; clear hE; clear hTT; clear hDD; clear hPP; (try dsimp only at F))
        with_reducible refine l_nil (q_then ?_)
        refine c_true F rfl rfl ?_
        refine c_seq (c_region ?_)
        refine sD F (o_assign (F.ev rfl) ?_); clear F a; intro a F
        with_reducible refine l_nil (q_then (c_ret (q_inBR (q_thenR (q_thenR (q_inBR (q_thenR ?_)))))))
        refine p_ret F rfl (.cons (.tmp (F.ev rfl)) .nil) ?_
        exact ⟨rfl, M.ext⟩
  · obtain rfl : i = l.length := by omega
    rw [rng_t hv]
    refine c_seq (c_region ?_)
    refine sD F (o_lssF (F.ev rfl) (F.ev rfl) (by omega) ?_); clear F a; intro a F
    with_reducible refine l_nil (q_then (c_seq ?_))
    refine c_false F rfl rfl ?_
    with_reducible refine c_exit (q_thenX (q_thenX (q_inBX (q_then (c_seq (c_region ?_))))))
    refine sD F (o_assign (F.ev rfl) ?_); clear F a; intro a F
    with_reducible refine l_nil (q_then (c_ret ?_))
    refine p_ret F rfl (.cons (.tmp (F.ev rfl)) .nil) ?_
    exact ⟨rfl, M.ext⟩
set_option maxHeartbeats 4000000 in
theorem rtvalidI_c (l : List InsV) (hx : ∀ x ∈ l, IsIn x) (v : Value) (W : World) (hS : SlAt W 40 v l.length (insC l)) :
    Cal Tryz.prog 48 [v].toArray W fun r w' => r = .bool (validIs l) ∧ Ext [] W w' := by
  obtain ⟨q, cap, rfl, hcap, hsp, hl, hm⟩ := hS
  unfold validIs vldL
  by_cases c0 : 512 < l.length
  · rw [decide_eq_false (by omega), Bool.false_and]
    refine fn_ofM (n := 35) [] Tryz.func48 rfl rfl rfl ?_
    intro a w F M hwW
    refine c_seq (c_region ?_)
    refine sD F (o_assign (F.ev rfl) ?_); clear F a; intro a F
    with_reducible refine l_nil (q_then (c_seq (c_seq (c_region ?_))))
    refine sD F (o_move (F.ev rfl) ?_); clear F a; intro a F
    refine sD F (o_lenSl (F.ev rfl) ?_); clear F a; intro a F
    refine sD F (o_gtrT (F.ev rfl) (F.ev rfl) (by omega) ?_); clear F a; intro a F
    with_reducible refine l_nil (q_then ?_)
    refine c_true F rfl rfl ?_
    refine c_seq (c_region ?_)
    refine sD F (o_assign (F.ev rfl) ?_); clear F a; intro a F
    with_reducible refine l_nil (q_then (c_ret (q_thenR ?_)))
    refine p_ret F rfl (.cons (.tmp (F.ev rfl)) .nil) ?_
    exact ⟨rfl, M.ext⟩
  rw [decide_eq_true (show l.length ≤ 512 by omega), Bool.true_and]
  refine fn_ofM (n := 35) [] Tryz.func48 rfl rfl rfl ?_
  intro a w F M hwW
  refine c_seq (c_region ?_)
  refine sD F (o_assign (F.ev rfl) ?_); clear F a; intro a F
  with_reducible refine l_nil (q_then (c_seq (c_seq (c_region ?_))))
  refine sD F (o_move (F.ev rfl) ?_); clear F a; intro a F
  refine sD F (o_lenSl (F.ev rfl) ?_); clear F a; intro a F
  refine sD F (o_gtrF (F.ev rfl) (F.ev rfl) (by omega) ?_); clear F a; intro a F
  with_reducible refine l_nil (q_then ?_)
  refine c_false F rfl rfl ?_
  with_reducible refine c_skip (q_then (c_seq (c_seq (c_region ?_))))
  refine sD F (o_move (F.ev rfl) ?_); clear F a; intro a F
  refine sD F (o_lenSl (F.ev rfl) ?_); clear F a; intro a F
  refine sD F (o_move (F.ev rfl) ?_); clear F a; intro a F
  with_reducible refine l_nil (q_then (c_block ?_))
  refine c_loop (fun m a w => ∃ i : Nat, m = l.length - i ∧ i ≤ l.length ∧ (∀ j, j < i → vld1 ins1 cmpN l j = true) ∧ Frm a 35 [] [(10, .int .i64 i), (9, .int .i64 l.length), (0, .slice q l.length cap), (8, .slice q l.length cap)] ∧ Mem [] W w []) l.length ⟨0, rfl, by omega, by omega, F.only [10, 9, 0, 8] rfl, M⟩ ?_
  clear F M
  rintro m a w ⟨i, hm', hi, hv, F, M⟩
  by_cases hlt : i < l.length
  · obtain ⟨b, o, cs, t, fz, rfl, hb, hs⟩ := hm (by omega)
    have hxv := hx _ (List.getElem_mem hlt)
    have hv0 := vld1_0 (e1 := ins1) (cm := cmpN) hlt
    have hvs := vld1_s (e1 := ins1) (cm := cmpN) hlt
    have hvf := vld1_f (e1 := ins1) (cm := cmpN) hlt
    have f1 : seg cs (o + (i : Int).toNat * 40) 40 = some (inC l[i]) := seg_el (ins_len hx) hs hlt (by omega)
    obtain ⟨x, hx0⟩ : ∃ x, x = l[i] := ⟨_, rfl⟩
    rw [← hx0] at hxv hv0 hvs hvf f1
    have f2 : (inC x).length = 40 := in_len hxv
    have f3 := in_to hxv
    have f4 := in_all hxv
    have hel := rtelem_c x hxv
    refine c_seq (c_region ?_)
    refine sD F (o_lssT (F.ev rfl) (F.ev rfl) (by omega) ?_); clear F a; intro a F
    with_reducible refine l_nil (q_then (c_seq ?_))
    refine c_true F rfl rfl ?_
    with_reducible refine c_skip (q_then (c_seq (c_block (c_seq (c_region ?_)))))
    refine sD F (o_move (F.ev rfl) ?_); clear F a; intro a F
    refine sD F (o_indexSl (F.ev rfl) (F.ev rfl) (by omega) (by omega) ?_); clear F a; intro a F
    refine sD F (o_loadWA M (F.ev rfl) (by assumption) (by first | assumption | rfl) ?_); clear F a; intro a F
    (refine sD F (o_alloc M ?_); clear F M; intro b4 w M a F)
    refine sD F (o_assign (F.ev rfl) ?_); clear F a; intro a F
    (refine stepN rfl F (o_storeA M (F.ev rfl) (F.ev rfl) (f2) (in_one x)  (by repeat constructor)  (put_all (by rw [f2]; rfl)) (by repeat constructor) ?_); clear F M; intro w M a F)
    with_reducible refine l_nil (q_then (c_seq ?_))
    replace F := F.only [10, 9, 0, 8, 3, 4] rfl
    cases c1 : ins1 x
    · rw [rng_f hlt (hvf c1)]
      rw [c1] at hel
      refine c_draw 19 F (by kernel_rfl) ?_
      intro w1 hE hok
      have M1 := M.later hE
      refine mK hok rfl rfl (fun a' w' F' E' => o_loadA (M1.later E') (F'.ev rfl) (by repeat constructor) (by first | assumption | rfl) ⟨Ext.refl _ _, rfl⟩) ?_
      (refine mK hok rfl rfl (fun a' w' F' E' => o_call (F'.ev rfl) (F'.evs rfl) (Cal.mono (hel _) fun _ _ hh => ⟨hh.2, hh.1⟩)) ?_)
      refine mK hok rfl rfl (fun a' w' F' E' => o_not (F'.ev rfl) ⟨Ext.refl _ _, rfl⟩) ?_
      refine mK hok rfl rfl (fun a' w' F' E' => o_move (F'.ev rfl) ⟨Ext.refl _ _, rfl⟩) ?_
      refine mOff hok rfl rfl rfl rfl rfl ?_
      refine mOff hok rfl rfl rfl rfl rfl ?_
      refine mOff hok rfl rfl rfl rfl rfl ?_
      refine mOff hok rfl rfl rfl rfl rfl ?_
      refine mOff hok rfl rfl rfl rfl rfl ?_
      refine mOff hok rfl rfl rfl rfl rfl ?_
      refine mOff hok rfl rfl rfl rfl rfl ?_
      refine mOff hok rfl rfl rfl rfl rfl ?_
      refine mOff hok rfl rfl rfl rfl rfl ?_
      refine mOff hok rfl rfl rfl rfl rfl ?_
      refine mOff hok rfl rfl rfl rfl rfl ?_
      refine mOff hok rfl rfl rfl rfl rfl ?_
      refine mOff hok rfl rfl rfl rfl rfl ?_
      refine mOff hok rfl rfl rfl rfl rfl ?_
      refine mK hok rfl rfl (fun a' w' F' E' => o_pickT (F'.ev rfl) (F'.ev rfl) ⟨Ext.refl _ _, rfl⟩) ?_
      (refine mDone rfl rfl ?_; clear F M; intro a w F hE2 hX hTT hDD hPP; have M := M1.later hE2; clear M1; clear hX; clear hE2; clear hok; clear hE; clear hTT; clear hDD; clear hPP; (try dsimp only at F))
      with_reducible refine l_nil (q_then ?_)
      refine c_true F rfl rfl ?_
      refine c_seq (c_region ?_)
      refine sD F (o_assign (F.ev rfl) ?_); clear F a; intro a F
      with_reducible refine l_nil (q_then (c_ret (q_inBR (q_thenR (q_thenR (q_inBR (q_thenR ?_)))))))
      refine p_ret F rfl (.cons (.tmp (F.ev rfl)) .nil) ?_
      exact ⟨rfl, M.ext⟩
    rw [c1] at hel hv0 hvs
    clear hvf
    rcases Nat.eq_zero_or_pos i with hi0 | hi0
    · refine c_draw 19 F (by kernel_rfl) ?_
      intro w1 hE hok
      have M1 := M.later hE
      refine mK hok rfl rfl (fun a' w' F' E' => o_loadA (M1.later E') (F'.ev rfl) (by repeat constructor) (by first | assumption | rfl) ⟨Ext.refl _ _, rfl⟩) ?_
      (refine mK hok rfl rfl (fun a' w' F' E' => o_call (F'.ev rfl) (F'.evs rfl) (Cal.mono (hel _) fun _ _ hh => ⟨hh.2, hh.1⟩)) ?_)
      refine mK hok rfl rfl (fun a' w' F' E' => o_not (F'.ev rfl) ⟨Ext.refl _ _, rfl⟩) ?_
      refine mK hok rfl rfl (fun a' w' F' E' => o_move (F'.ev rfl) ⟨Ext.refl _ _, rfl⟩) ?_
      refine mKG hok rfl rfl rfl rfl (fun a' w' F' E' => o_move (F'.ev rfl) ⟨Ext.refl _ _, rfl⟩) ?_
      refine mKG hok rfl rfl rfl rfl (fun a' w' F' E' => o_gtrF (F'.ev rfl) (F'.ev rfl) (by omega) ⟨Ext.refl _ _, rfl⟩) ?_
      refine mKG hok rfl rfl rfl rfl (fun a' w' F' E' => o_move (F'.ev rfl) ⟨Ext.refl _ _, rfl⟩) ?_
      refine mOff hok rfl rfl rfl rfl rfl ?_
      refine mOff hok rfl rfl rfl rfl rfl ?_
      refine mOff hok rfl rfl rfl rfl rfl ?_
      refine mOff hok rfl rfl rfl rfl rfl ?_
      refine mOff hok rfl rfl rfl rfl rfl ?_
      refine mOff hok rfl rfl rfl rfl rfl ?_
      refine mOff hok rfl rfl rfl rfl rfl ?_
      refine mOff hok rfl rfl rfl rfl rfl ?_
      refine mOff hok rfl rfl rfl rfl rfl ?_
      refine mOff hok rfl rfl rfl rfl rfl ?_
      refine mKG hok rfl rfl rfl rfl (fun a' w' F' E' => o_pickF (F'.ev rfl) (F'.ev rfl) ⟨Ext.refl _ _, rfl⟩) ?_
      refine mK hok rfl rfl (fun a' w' F' E' => o_pickF (F'.ev rfl) (F'.ev rfl) ⟨Ext.refl _ _, rfl⟩) ?_
      (refine mDone rfl rfl ?_; clear F M; intro a w F hE2 hX hTT hDD hPP; have M := M1.later hE2; clear M1; clear hX; clear hE2; clear hok; clear hE; clear hTT; clear hDD; clear hPP; (try dsimp only at F))
      with_reducible refine l_nil (q_then ?_)
      refine c_false F rfl rfl ?_
      with_reducible refine c_skip (q_inB (q_then (c_region ?_)))
      refine sD F (o_add (F.ev rfl) (F.ev rfl) (w_i64 (by omega) (by omega)) ?_); clear F a; intro a F
      refine sD F (o_move (F.ev rfl) ?_); clear F a; intro a F
      with_reducible refine l_nil (q_then ?_)
      exact ⟨_, by omega, i + 1, rfl, by omega, fun j hj => by
        rcases Nat.lt_or_ge j i with h1 | h1
        · exact hv j h1
        · obtain rfl : j = i := by omega
          exact hv0 hi0, F.only [10, 9, 0, 8] rfl, M.sub (List.sublist_cons_self _ _)⟩
    · have hyv := hx _ (List.getElem_mem (show i - 1 < l.length by omega))
      have g1 : seg cs (o + ((i : Int) - 1).toNat * 40) 40 = some (inC (l[i - 1]'(by omega))) := seg_el (ins_len hx) hs (show i - 1 < l.length by omega) (by omega)
      replace hvs := hvs hi0
      obtain ⟨y, hy0⟩ : ∃ y, y = l[i - 1]'(by omega) := ⟨_, rfl⟩
      rw [← hy0] at hyv g1 hvs
      have g2 : seg cs (o + ((i : Int) - 1).toNat * 40) 35 = some (dvC y.to) := sg_seg g1 (in_to hyv) (by omega)
      clear g1 hy0
      change vld1 ins1 cmpN l i = (true && decide (cmpD y.to x.to < 0)) at hvs
      by_cases c6 : cmpD y.to x.to < 0
      · refine c_draw 19 F (by kernel_rfl) ?_
        intro w1 hE hok
        have M1 := M.later hE
        refine mK hok rfl rfl (fun a' w' F' E' => o_loadA (M1.later E') (F'.ev rfl) (by repeat constructor) (by first | assumption | rfl) ⟨Ext.refl _ _, rfl⟩) ?_
        (refine mK hok rfl rfl (fun a' w' F' E' => o_call (F'.ev rfl) (F'.evs rfl) (Cal.mono (hel _) fun _ _ hh => ⟨hh.2, hh.1⟩)) ?_)
        refine mK hok rfl rfl (fun a' w' F' E' => o_not (F'.ev rfl) ⟨Ext.refl _ _, rfl⟩) ?_
        refine mK hok rfl rfl (fun a' w' F' E' => o_move (F'.ev rfl) ⟨Ext.refl _ _, rfl⟩) ?_
        refine mKG hok rfl rfl rfl rfl (fun a' w' F' E' => o_move (F'.ev rfl) ⟨Ext.refl _ _, rfl⟩) ?_
        refine mKG hok rfl rfl rfl rfl (fun a' w' F' E' => o_gtrT (F'.ev rfl) (F'.ev rfl) (by omega) ⟨Ext.refl _ _, rfl⟩) ?_
        refine mKG hok rfl rfl rfl rfl (fun a' w' F' E' => o_move (F'.ev rfl) ⟨Ext.refl _ _, rfl⟩) ?_
        refine mKG hok rfl rfl rfl rfl (fun a' w' F' E' => o_move (F'.ev rfl) ⟨Ext.refl _ _, rfl⟩) ?_
        refine mKG hok rfl rfl rfl rfl (fun a' w' F' E' => o_move (F'.ev rfl) ⟨Ext.refl _ _, rfl⟩) ?_
        refine mKG hok rfl rfl rfl rfl (fun a' w' F' E' => o_sub (F'.ev rfl) (F'.ev rfl) (w_i64 (by omega) (by omega)) ⟨Ext.refl _ _, rfl⟩) ?_
        refine mKG hok rfl rfl rfl rfl (fun a' w' F' E' => o_indexSl (F'.ev rfl) (F'.ev rfl) (by omega) (by omega) ⟨Ext.refl _ _, rfl⟩) ?_
        refine mKG hok rfl rfl rfl rfl (fun a' w' F' E' => o_fieldAddr (F'.ev rfl) ⟨Ext.refl _ _, rfl⟩) ?_
        refine mKG hok rfl rfl rfl rfl (fun a' w' F' E' => o_loadWA (M1.later E') (F'.ev rfl) (by assumption) (by first | assumption | rfl) ⟨Ext.refl _ _, rfl⟩) ?_
        refine mKG hok rfl rfl rfl rfl (fun a' w' F' E' => o_fieldAddr (F'.ev rfl) ⟨Ext.refl _ _, rfl⟩) ?_
        refine mKG hok rfl rfl rfl rfl (fun a' w' F' E' => o_loadA (M1.later E') (F'.ev rfl) (by repeat constructor) (by first | assumption | rfl) ⟨Ext.refl _ _, rfl⟩) ?_
        (refine mKG hok rfl rfl rfl rfl (fun a' w' F' E' => o_call (F'.ev rfl) (F'.evs rfl) (Cal.mono (scompare_c y.to x.to hyv.1 hxv.1 _) fun _ _ hh => ⟨hh.2, hh.1⟩)) ?_)
        refine mKG hok rfl rfl rfl rfl (fun a' w' F' E' => o_geqF (F'.ev rfl) (F'.ev rfl) (by omega) ⟨Ext.refl _ _, rfl⟩) ?_
        refine mKG hok rfl rfl rfl rfl (fun a' w' F' E' => o_pickT (F'.ev rfl) (F'.ev rfl) ⟨Ext.refl _ _, rfl⟩) ?_
        refine mK hok rfl rfl (fun a' w' F' E' => o_pickF (F'.ev rfl) (F'.ev rfl) ⟨Ext.refl _ _, rfl⟩) ?_
        (refine mDone rfl rfl ?_; clear F M; intro a w F hE2 hX hTT hDD hPP; have M := M1.later hE2; clear M1; clear hX; clear hE2; clear hok; clear hE; clear hTT; clear hDD; clear hPP; (try dsimp only at F))
        with_reducible refine l_nil (q_then ?_)
        refine c_false F rfl rfl ?_
        with_reducible refine c_skip (q_inB (q_then (c_region ?_)))
        refine sD F (o_add (F.ev rfl) (F.ev rfl) (w_i64 (by omega) (by omega)) ?_); clear F a; intro a F
        refine sD F (o_move (F.ev rfl) ?_); clear F a; intro a F
        with_reducible refine l_nil (q_then ?_)
        exact ⟨_, by omega, i + 1, rfl, by omega, fun j hj => by
          rcases Nat.lt_or_ge j i with h1 | h1
          · exact hv j h1
          · obtain rfl : j = i := by omega
            rw [hvs]; simp [c6], F.only [10, 9, 0, 8] rfl, M.sub (List.sublist_cons_self _ _)⟩
      · rw [rng_f hlt (by rw [hvs]; simp [c6])]
        refine c_draw 19 F (by kernel_rfl) ?_
        intro w1 hE hok
        have M1 := M.later hE
        refine mK hok rfl rfl (fun a' w' F' E' => o_loadA (M1.later E') (F'.ev rfl) (by repeat constructor) (by first | assumption | rfl) ⟨Ext.refl _ _, rfl⟩) ?_
        (refine mK hok rfl rfl (fun a' w' F' E' => o_call (F'.ev rfl) (F'.evs rfl) (Cal.mono (hel _) fun _ _ hh => ⟨hh.2, hh.1⟩)) ?_)
        refine mK hok rfl rfl (fun a' w' F' E' => o_not (F'.ev rfl) ⟨Ext.refl _ _, rfl⟩) ?_
        refine mK hok rfl rfl (fun a' w' F' E' => o_move (F'.ev rfl) ⟨Ext.refl _ _, rfl⟩) ?_
        refine mKG hok rfl rfl rfl rfl (fun a' w' F' E' => o_move (F'.ev rfl) ⟨Ext.refl _ _, rfl⟩) ?_
        refine mKG hok rfl rfl rfl rfl (fun a' w' F' E' => o_gtrT (F'.ev rfl) (F'.ev rfl) (by omega) ⟨Ext.refl _ _, rfl⟩) ?_
        refine mKG hok rfl rfl rfl rfl (fun a' w' F' E' => o_move (F'.ev rfl) ⟨Ext.refl _ _, rfl⟩) ?_
        refine mKG hok rfl rfl rfl rfl (fun a' w' F' E' => o_move (F'.ev rfl) ⟨Ext.refl _ _, rfl⟩) ?_
        refine mKG hok rfl rfl rfl rfl (fun a' w' F' E' => o_move (F'.ev rfl) ⟨Ext.refl _ _, rfl⟩) ?_
        refine mKG hok rfl rfl rfl rfl (fun a' w' F' E' => o_sub (F'.ev rfl) (F'.ev rfl) (w_i64 (by omega) (by omega)) ⟨Ext.refl _ _, rfl⟩) ?_
        refine mKG hok rfl rfl rfl rfl (fun a' w' F' E' => o_indexSl (F'.ev rfl) (F'.ev rfl) (by omega) (by omega) ⟨Ext.refl _ _, rfl⟩) ?_
        refine mKG hok rfl rfl rfl rfl (fun a' w' F' E' => o_fieldAddr (F'.ev rfl) ⟨Ext.refl _ _, rfl⟩) ?_
        refine mKG hok rfl rfl rfl rfl (fun a' w' F' E' => o_loadWA (M1.later E') (F'.ev rfl) (by assumption) (by first | assumption | rfl) ⟨Ext.refl _ _, rfl⟩) ?_
        refine mKG hok rfl rfl rfl rfl (fun a' w' F' E' => o_fieldAddr (F'.ev rfl) ⟨Ext.refl _ _, rfl⟩) ?_
        refine mKG hok rfl rfl rfl rfl (fun a' w' F' E' => o_loadA (M1.later E') (F'.ev rfl) (by repeat constructor) (by first | assumption | rfl) ⟨Ext.refl _ _, rfl⟩) ?_
        (refine mKG hok rfl rfl rfl rfl (fun a' w' F' E' => o_call (F'.ev rfl) (F'.evs rfl) (Cal.mono (scompare_c y.to x.to hyv.1 hxv.1 _) fun _ _ hh => ⟨hh.2, hh.1⟩)) ?_)
        refine mKG hok rfl rfl rfl rfl (fun a' w' F' E' => o_geqT (F'.ev rfl) (F'.ev rfl) (by omega) ⟨Ext.refl _ _, rfl⟩) ?_
        refine mKG hok rfl rfl rfl rfl (fun a' w' F' E' => o_pickT (F'.ev rfl) (F'.ev rfl) ⟨Ext.refl _ _, rfl⟩) ?_
        refine mK hok rfl rfl (fun a' w' F' E' => o_pickF (F'.ev rfl) (F'.ev rfl) ⟨Ext.refl _ _, rfl⟩) ?_
        (refine mDone rfl rfl ?_; clear F M; intro a w F hE2 hX hTT hDD hPP; have M := M1.later hE2; clear M1; clear hX; clear hE2; clear hok; clear hE; clear hTT; clear hDD; clear hPP; (try dsimp only at F))
        with_reducible refine l_nil (q_then ?_)
        refine c_true F rfl rfl ?_
        refine c_seq (c_region ?_)
        refine sD F (o_assign (F.ev rfl) ?_); clear F a; intro a F
        with_reducible refine l_nil (q_then (c_ret (q_inBR (q_thenR (q_thenR (q_inBR (q_thenR ?_)))))))
        refine p_ret F rfl (.cons (.tmp (F.ev rfl)) .nil) ?_
        exact ⟨rfl, M.ext⟩
  · obtain rfl : i = l.length := by omega
    rw [rng_t hv]
    refine c_seq (c_region ?_)
    refine sD F (o_lssF (F.ev rfl) (F.ev rfl) (by omega) ?_); clear F a; intro a F
    with_reducible refine l_nil (q_then (c_seq ?_))
    refine c_false F rfl rfl ?_
    with_reducible refine c_exit (q_thenX (q_thenX (q_inBX (q_then (c_seq (c_region ?_))))))
    refine sD F (o_assign (F.ev rfl) ?_); clear F a; intro a F
    with_reducible refine l_nil (q_then (c_ret ?_))
    refine p_ret F rfl (.cons (.tmp (F.ev rfl)) .nil) ?_
    exact ⟨rfl, M.ext⟩
set_option maxHeartbeats 4000000 in
theorem mtvalidO_c (l : List OptV) (hx : ∀ x ∈ l, IsOp x) (v : Value) (W : World) (hS : SlAt W 2 v l.length (opsC l)) :
    Cal Tryz.prog 47 [v].toArray W fun r w' => r = .bool (validOs l) ∧ Ext [] W w' := by
  obtain ⟨q, cap, rfl, hcap, hsp, hl, hm⟩ := hS
  unfold validOs vldL
  by_cases c0 : 16 < l.length
  · rw [decide_eq_false (by omega), Bool.false_and]
    refine fn_ofM (n := 40) [] Tryz.func47 rfl rfl rfl ?_
    intro a w F M hwW
    refine c_seq (c_region ?_)
    refine sD F (o_assign (F.ev rfl) ?_); clear F a; intro a F
    with_reducible refine l_nil (q_then (c_seq (c_seq (c_region ?_))))
    refine sD F (o_move (F.ev rfl) ?_); clear F a; intro a F
    refine sD F (o_lenSl (F.ev rfl) ?_); clear F a; intro a F
    refine sD F (o_gtrT (F.ev rfl) (F.ev rfl) (by omega) ?_); clear F a; intro a F
    with_reducible refine l_nil (q_then ?_)
    refine c_true F rfl rfl ?_
    refine c_seq (c_region ?_)
    refine sD F (o_assign (F.ev rfl) ?_); clear F a; intro a F
    with_reducible refine l_nil (q_then (c_ret (q_thenR ?_)))
    refine p_ret F rfl (.cons (.tmp (F.ev rfl)) .nil) ?_
    exact ⟨rfl, M.ext⟩
  rw [decide_eq_true (show l.length ≤ 16 by omega), Bool.true_and]
  refine fn_ofM (n := 40) [] Tryz.func47 rfl rfl rfl ?_
  intro a w F M hwW
  refine c_seq (c_region ?_)
  refine sD F (o_assign (F.ev rfl) ?_); clear F a; intro a F
  with_reducible refine l_nil (q_then (c_seq (c_seq (c_region ?_))))
  refine sD F (o_move (F.ev rfl) ?_); clear F a; intro a F
  refine sD F (o_lenSl (F.ev rfl) ?_); clear F a; intro a F
  refine sD F (o_gtrF (F.ev rfl) (F.ev rfl) (by omega) ?_); clear F a; intro a F
  with_reducible refine l_nil (q_then ?_)
  refine c_false F rfl rfl ?_
  with_reducible refine c_skip (q_then (c_seq (c_seq (c_region ?_))))
  refine sD F (o_move (F.ev rfl) ?_); clear F a; intro a F
  refine sD F (o_lenSl (F.ev rfl) ?_); clear F a; intro a F
  refine sD F (o_move (F.ev rfl) ?_); clear F a; intro a F
  with_reducible refine l_nil (q_then (c_block ?_))
  refine c_loop (fun m a w => ∃ i : Nat, m = l.length - i ∧ i ≤ l.length ∧ (∀ j, j < i → vld1 opt1 cmpO l j = true) ∧ Frm a 40 [] [(10, .int .i64 i), (9, .int .i64 l.length), (0, .slice q l.length cap), (8, .slice q l.length cap)] ∧ Mem [] W w []) l.length ⟨0, rfl, by omega, by omega, F.only [10, 9, 0, 8] rfl, M⟩ ?_
  clear F M
  rintro m a w ⟨i, hm', hi, hv, F, M⟩
  by_cases hlt : i < l.length
  · obtain ⟨b, o, cs, t, fz, rfl, hb, hs⟩ := hm (by omega)
    have hxv := hx _ (List.getElem_mem hlt)
    have hv0 := vld1_0 (e1 := opt1) (cm := cmpO) hlt
    have hvs := vld1_s (e1 := opt1) (cm := cmpO) hlt
    have hvf := vld1_f (e1 := opt1) (cm := cmpO) hlt
    have f1 : seg cs (o + (i : Int).toNat * 2) 2 = some (opC l[i]) := seg_el (ops_len hx) hs hlt (by omega)
    obtain ⟨x, hx0⟩ : ∃ x, x = l[i] := ⟨_, rfl⟩
    rw [← hx0] at hxv hv0 hvs hvf f1
    have f2 : (opC x).length = 2 := op_len hxv
    have f3 := op_nb hxv
    have f4 := op_cost hxv
    have hel := mvalid_c x.cost
    refine c_seq (c_region ?_)
    refine sD F (o_lssT (F.ev rfl) (F.ev rfl) (by omega) ?_); clear F a; intro a F
    with_reducible refine l_nil (q_then (c_seq ?_))
    refine c_true F rfl rfl ?_
    with_reducible refine c_skip (q_then (c_seq (c_block (c_seq (c_region ?_)))))
    refine sD F (o_move (F.ev rfl) ?_); clear F a; intro a F
    refine sD F (o_indexSl (F.ev rfl) (F.ev rfl) (by omega) (by omega) ?_); clear F a; intro a F
    refine sD F (o_loadWA M (F.ev rfl) (by assumption) (by first | assumption | rfl) ?_); clear F a; intro a F
    (refine sD F (o_alloc M ?_); clear F M; intro b4 w M a F)
    refine sD F (o_assign (F.ev rfl) ?_); clear F a; intro a F
    (refine stepN rfl F (o_storeA M (F.ev rfl) (F.ev rfl) (f2) (op_one x)  (by repeat constructor)  (put_all (by rw [f2]; rfl)) (by repeat constructor) ?_); clear F M; intro w M a F)
    with_reducible refine l_nil (q_then (c_seq ?_))
    replace F := F.only [10, 9, 0, 8, 3, 4] rfl
    by_cases c1 : x.nb = 0
    · rw [rng_f hlt (hvf (by unfold opt1; rw [decide_eq_true c1]; rfl))]
      refine c_draw 24 F (by kernel_rfl) ?_
      intro w1 hE hok
      have M1 := M.later hE
      refine mK hok rfl rfl (fun a' w' F' E' => o_fieldAddr (F'.ev rfl) ⟨Ext.refl _ _, rfl⟩) ?_
      refine mK hok rfl rfl (fun a' w' F' E' => o_load1 (M1.later E') (F'.ev rfl) (by repeat constructor) (by first | assumption | rfl) ⟨Ext.refl _ _, rfl⟩) ?_
      refine mK hok rfl rfl (fun a' w' F' E' => o_eqlT (F'.ev rfl) (F'.ev rfl) (by omega) ⟨Ext.refl _ _, rfl⟩) ?_
      refine mK hok rfl rfl (fun a' w' F' E' => o_move (F'.ev rfl) ⟨Ext.refl _ _, rfl⟩) ?_
      refine mOff hok rfl rfl rfl rfl rfl ?_
      refine mOff hok rfl rfl rfl rfl rfl ?_
      refine mOff hok rfl rfl rfl rfl rfl ?_
      refine mOff hok rfl rfl rfl rfl rfl ?_
      refine mK hok rfl rfl (fun a' w' F' E' => o_pickT (F'.ev rfl) (F'.ev rfl) ⟨Ext.refl _ _, rfl⟩) ?_
      refine mK hok rfl rfl (fun a' w' F' E' => o_move (F'.ev rfl) ⟨Ext.refl _ _, rfl⟩) ?_
      refine mOff hok rfl rfl rfl rfl rfl ?_
      refine mOff hok rfl rfl rfl rfl rfl ?_
      refine mOff hok rfl rfl rfl rfl rfl ?_
      refine mOff hok rfl rfl rfl rfl rfl ?_
      refine mOff hok rfl rfl rfl rfl rfl ?_
      refine mOff hok rfl rfl rfl rfl rfl ?_
      refine mOff hok rfl rfl rfl rfl rfl ?_
      refine mOff hok rfl rfl rfl rfl rfl ?_
      refine mOff hok rfl rfl rfl rfl rfl ?_
      refine mOff hok rfl rfl rfl rfl rfl ?_
      refine mOff hok rfl rfl rfl rfl rfl ?_
      refine mOff hok rfl rfl rfl rfl rfl ?_
      refine mOff hok rfl rfl rfl rfl rfl ?_
      refine mK hok rfl rfl (fun a' w' F' E' => o_pickT (F'.ev rfl) (F'.ev rfl) ⟨Ext.refl _ _, rfl⟩) ?_
      (refine mDone rfl rfl ?_; clear F M; intro a w F hE2 hX hTT hDD hPP; have M := M1.later hE2; clear M1; clear hX; clear hE2; clear hok; clear hE; clear hTT; clear hDD; clear hPP; (try dsimp only at F))
      with_reducible refine l_nil (q_then ?_)
      refine c_true F rfl rfl ?_
      refine c_seq (c_region ?_)
      refine sD F (o_assign (F.ev rfl) ?_); clear F a; intro a F
      with_reducible refine l_nil (q_then (c_ret (q_inBR (q_thenR (q_thenR (q_inBR (q_thenR ?_)))))))
      refine p_ret F rfl (.cons (.tmp (F.ev rfl)) .nil) ?_
      exact ⟨rfl, M.ext⟩
    cases c2 : validM x.cost
    · rw [rng_f hlt (hvf (by unfold opt1; rw [decide_eq_false c1, c2]; rfl))]
      rw [c2] at hel
      refine c_draw 24 F (by kernel_rfl) ?_
      intro w1 hE hok
      have M1 := M.later hE
      refine mK hok rfl rfl (fun a' w' F' E' => o_fieldAddr (F'.ev rfl) ⟨Ext.refl _ _, rfl⟩) ?_
      refine mK hok rfl rfl (fun a' w' F' E' => o_load1 (M1.later E') (F'.ev rfl) (by repeat constructor) (by first | assumption | rfl) ⟨Ext.refl _ _, rfl⟩) ?_
      refine mK hok rfl rfl (fun a' w' F' E' => o_eqlF (F'.ev rfl) (F'.ev rfl) (by omega) ⟨Ext.refl _ _, rfl⟩) ?_
      refine mK hok rfl rfl (fun a' w' F' E' => o_move (F'.ev rfl) ⟨Ext.refl _ _, rfl⟩) ?_
      refine mKG hok rfl rfl rfl rfl (fun a' w' F' E' => o_fieldAddr (F'.ev rfl) ⟨Ext.refl _ _, rfl⟩) ?_
      refine mKG hok rfl rfl rfl rfl (fun a' w' F' E' => o_load1 (M1.later E') (F'.ev rfl) (by repeat constructor) (by first | assumption | rfl) ⟨Ext.refl _ _, rfl⟩) ?_
      (refine mKG hok rfl rfl rfl rfl (fun a' w' F' E' => o_call (F'.ev rfl) (F'.evs rfl) (Cal.mono (hel _) fun _ _ hh => ⟨hh.2, hh.1⟩)) ?_)
      refine mKG hok rfl rfl rfl rfl (fun a' w' F' E' => o_not (F'.ev rfl) ⟨Ext.refl _ _, rfl⟩) ?_
      refine mK hok rfl rfl (fun a' w' F' E' => o_pickF (F'.ev rfl) (F'.ev rfl) ⟨Ext.refl _ _, rfl⟩) ?_
      refine mK hok rfl rfl (fun a' w' F' E' => o_move (F'.ev rfl) ⟨Ext.refl _ _, rfl⟩) ?_
      refine mOff hok rfl rfl rfl rfl rfl ?_
      refine mOff hok rfl rfl rfl rfl rfl ?_
      refine mOff hok rfl rfl rfl rfl rfl ?_
      refine mOff hok rfl rfl rfl rfl rfl ?_
      refine mOff hok rfl rfl rfl rfl rfl ?_
      refine mOff hok rfl rfl rfl rfl rfl ?_
      refine mOff hok rfl rfl rfl rfl rfl ?_
      refine mOff hok rfl rfl rfl rfl rfl ?_
      refine mOff hok rfl rfl rfl rfl rfl ?_
      refine mOff hok rfl rfl rfl rfl rfl ?_
      refine mOff hok rfl rfl rfl rfl rfl ?_
      refine mOff hok rfl rfl rfl rfl rfl ?_
      refine mOff hok rfl rfl rfl rfl rfl ?_
      refine mK hok rfl rfl (fun a' w' F' E' => o_pickT (F'.ev rfl) (F'.ev rfl) ⟨Ext.refl _ _, rfl⟩) ?_
      (refine mDone rfl rfl ?_; clear F M; intro a w F hE2 hX hTT hDD hPP; have M := M1.later hE2; clear M1; clear hX; clear hE2; clear hok; clear hE; clear hTT; clear hDD; clear hPP; (try dsimp only at F))
      with_reducible refine l_nil (q_then ?_)
      refine c_true F rfl rfl ?_
      refine c_seq (c_region ?_)
      refine sD F (o_assign (F.ev rfl) ?_); clear F a; intro a F
      with_reducible refine l_nil (q_then (c_ret (q_inBR (q_thenR (q_thenR (q_inBR (q_thenR ?_)))))))
      refine p_ret F rfl (.cons (.tmp (F.ev rfl)) .nil) ?_
      exact ⟨rfl, M.ext⟩
    have c5 : opt1 x = true := by unfold opt1; rw [decide_eq_false c1, c2]; rfl
    rw [c2] at hel
    rw [c5] at hv0 hvs
    clear hvf
    rcases Nat.eq_zero_or_pos i with hi0 | hi0
    · refine c_draw 24 F (by kernel_rfl) ?_
      intro w1 hE hok
      have M1 := M.later hE
      refine mK hok rfl rfl (fun a' w' F' E' => o_fieldAddr (F'.ev rfl) ⟨Ext.refl _ _, rfl⟩) ?_
      refine mK hok rfl rfl (fun a' w' F' E' => o_load1 (M1.later E') (F'.ev rfl) (by repeat constructor) (by first | assumption | rfl) ⟨Ext.refl _ _, rfl⟩) ?_
      refine mK hok rfl rfl (fun a' w' F' E' => o_eqlF (F'.ev rfl) (F'.ev rfl) (by omega) ⟨Ext.refl _ _, rfl⟩) ?_
      refine mK hok rfl rfl (fun a' w' F' E' => o_move (F'.ev rfl) ⟨Ext.refl _ _, rfl⟩) ?_
      refine mKG hok rfl rfl rfl rfl (fun a' w' F' E' => o_fieldAddr (F'.ev rfl) ⟨Ext.refl _ _, rfl⟩) ?_
      refine mKG hok rfl rfl rfl rfl (fun a' w' F' E' => o_load1 (M1.later E') (F'.ev rfl) (by repeat constructor) (by first | assumption | rfl) ⟨Ext.refl _ _, rfl⟩) ?_
      (refine mKG hok rfl rfl rfl rfl (fun a' w' F' E' => o_call (F'.ev rfl) (F'.evs rfl) (Cal.mono (hel _) fun _ _ hh => ⟨hh.2, hh.1⟩)) ?_)
      refine mKG hok rfl rfl rfl rfl (fun a' w' F' E' => o_not (F'.ev rfl) ⟨Ext.refl _ _, rfl⟩) ?_
      refine mK hok rfl rfl (fun a' w' F' E' => o_pickF (F'.ev rfl) (F'.ev rfl) ⟨Ext.refl _ _, rfl⟩) ?_
      refine mK hok rfl rfl (fun a' w' F' E' => o_move (F'.ev rfl) ⟨Ext.refl _ _, rfl⟩) ?_
      refine mKG hok rfl rfl rfl rfl (fun a' w' F' E' => o_move (F'.ev rfl) ⟨Ext.refl _ _, rfl⟩) ?_
      refine mKG hok rfl rfl rfl rfl (fun a' w' F' E' => o_gtrF (F'.ev rfl) (F'.ev rfl) (by omega) ⟨Ext.refl _ _, rfl⟩) ?_
      refine mKG hok rfl rfl rfl rfl (fun a' w' F' E' => o_move (F'.ev rfl) ⟨Ext.refl _ _, rfl⟩) ?_
      refine mOff hok rfl rfl rfl rfl rfl ?_
      refine mOff hok rfl rfl rfl rfl rfl ?_
      refine mOff hok rfl rfl rfl rfl rfl ?_
      refine mOff hok rfl rfl rfl rfl rfl ?_
      refine mOff hok rfl rfl rfl rfl rfl ?_
      refine mOff hok rfl rfl rfl rfl rfl ?_
      refine mOff hok rfl rfl rfl rfl rfl ?_
      refine mOff hok rfl rfl rfl rfl rfl ?_
      refine mOff hok rfl rfl rfl rfl rfl ?_
      refine mKG hok rfl rfl rfl rfl (fun a' w' F' E' => o_pickF (F'.ev rfl) (F'.ev rfl) ⟨Ext.refl _ _, rfl⟩) ?_
      refine mK hok rfl rfl (fun a' w' F' E' => o_pickF (F'.ev rfl) (F'.ev rfl) ⟨Ext.refl _ _, rfl⟩) ?_
      (refine mDone rfl rfl ?_; clear F M; intro a w F hE2 hX hTT hDD hPP; have M := M1.later hE2; clear M1; clear hX; clear hE2; clear hok; clear hE; clear hTT; clear hDD; clear hPP; (try dsimp only at F))
      with_reducible refine l_nil (q_then ?_)
      refine c_false F rfl rfl ?_
      with_reducible refine c_skip (q_inB (q_then (c_region ?_)))
      refine sD F (o_add (F.ev rfl) (F.ev rfl) (w_i64 (by omega) (by omega)) ?_); clear F a; intro a F
      refine sD F (o_move (F.ev rfl) ?_); clear F a; intro a F
      with_reducible refine l_nil (q_then ?_)
      exact ⟨_, by omega, i + 1, rfl, by omega, fun j hj => by
        rcases Nat.lt_or_ge j i with h1 | h1
        · exact hv j h1
        · obtain rfl : j = i := by omega
          exact hv0 hi0, F.only [10, 9, 0, 8] rfl, M.sub (List.sublist_cons_self _ _)⟩
    · have hyv := hx _ (List.getElem_mem (show i - 1 < l.length by omega))
      have g1 : seg cs (o + ((i : Int) - 1).toNat * 2) 2 = some (opC (l[i - 1]'(by omega))) := seg_el (ops_len hx) hs (show i - 1 < l.length by omega) (by omega)
      replace hvs := hvs hi0
      obtain ⟨y, hy0⟩ : ∃ y, y = l[i - 1]'(by omega) := ⟨_, rfl⟩
      rw [← hy0] at hyv g1 hvs
      have g2 : nth cs (o + ((i : Int) - 1).toNat * 2 + 0) = some (.int .u64 y.nb) := sg_nth g1 (op_nb hyv) (by omega)
      clear g1 hy0
      change vld1 opt1 cmpO l i = (true && decide (cmpI y.nb x.nb < 0)) at hvs
      by_cases c6 : y.nb < x.nb
      · rw [decide_eq_true (cmpI_lt.2 c6)] at hvs
        refine c_draw 24 F (by kernel_rfl) ?_
        intro w1 hE hok
        have M1 := M.later hE
        refine mK hok rfl rfl (fun a' w' F' E' => o_fieldAddr (F'.ev rfl) ⟨Ext.refl _ _, rfl⟩) ?_
        refine mK hok rfl rfl (fun a' w' F' E' => o_load1 (M1.later E') (F'.ev rfl) (by repeat constructor) (by first | assumption | rfl) ⟨Ext.refl _ _, rfl⟩) ?_
        refine mK hok rfl rfl (fun a' w' F' E' => o_eqlF (F'.ev rfl) (F'.ev rfl) (by omega) ⟨Ext.refl _ _, rfl⟩) ?_
        refine mK hok rfl rfl (fun a' w' F' E' => o_move (F'.ev rfl) ⟨Ext.refl _ _, rfl⟩) ?_
        refine mKG hok rfl rfl rfl rfl (fun a' w' F' E' => o_fieldAddr (F'.ev rfl) ⟨Ext.refl _ _, rfl⟩) ?_
        refine mKG hok rfl rfl rfl rfl (fun a' w' F' E' => o_load1 (M1.later E') (F'.ev rfl) (by repeat constructor) (by first | assumption | rfl) ⟨Ext.refl _ _, rfl⟩) ?_
        (refine mKG hok rfl rfl rfl rfl (fun a' w' F' E' => o_call (F'.ev rfl) (F'.evs rfl) (Cal.mono (hel _) fun _ _ hh => ⟨hh.2, hh.1⟩)) ?_)
        refine mKG hok rfl rfl rfl rfl (fun a' w' F' E' => o_not (F'.ev rfl) ⟨Ext.refl _ _, rfl⟩) ?_
        refine mK hok rfl rfl (fun a' w' F' E' => o_pickF (F'.ev rfl) (F'.ev rfl) ⟨Ext.refl _ _, rfl⟩) ?_
        refine mK hok rfl rfl (fun a' w' F' E' => o_move (F'.ev rfl) ⟨Ext.refl _ _, rfl⟩) ?_
        refine mKG hok rfl rfl rfl rfl (fun a' w' F' E' => o_move (F'.ev rfl) ⟨Ext.refl _ _, rfl⟩) ?_
        refine mKG hok rfl rfl rfl rfl (fun a' w' F' E' => o_gtrT (F'.ev rfl) (F'.ev rfl) (by omega) ⟨Ext.refl _ _, rfl⟩) ?_
        refine mKG hok rfl rfl rfl rfl (fun a' w' F' E' => o_move (F'.ev rfl) ⟨Ext.refl _ _, rfl⟩) ?_
        refine mKG hok rfl rfl rfl rfl (fun a' w' F' E' => o_move (F'.ev rfl) ⟨Ext.refl _ _, rfl⟩) ?_
        refine mKG hok rfl rfl rfl rfl (fun a' w' F' E' => o_move (F'.ev rfl) ⟨Ext.refl _ _, rfl⟩) ?_
        refine mKG hok rfl rfl rfl rfl (fun a' w' F' E' => o_sub (F'.ev rfl) (F'.ev rfl) (w_i64 (by omega) (by omega)) ⟨Ext.refl _ _, rfl⟩) ?_
        refine mKG hok rfl rfl rfl rfl (fun a' w' F' E' => o_indexSl (F'.ev rfl) (F'.ev rfl) (by omega) (by omega) ⟨Ext.refl _ _, rfl⟩) ?_
        refine mKG hok rfl rfl rfl rfl (fun a' w' F' E' => o_fieldAddr (F'.ev rfl) ⟨Ext.refl _ _, rfl⟩) ?_
        refine mKG hok rfl rfl rfl rfl (fun a' w' F' E' => o_loadW1 (M1.later E') (F'.ev rfl) (by assumption) (by first | assumption | rfl) ⟨Ext.refl _ _, rfl⟩) ?_
        refine mKG hok rfl rfl rfl rfl (fun a' w' F' E' => o_fieldAddr (F'.ev rfl) ⟨Ext.refl _ _, rfl⟩) ?_
        refine mKG hok rfl rfl rfl rfl (fun a' w' F' E' => o_load1 (M1.later E') (F'.ev rfl) (by repeat constructor) (by first | assumption | rfl) ⟨Ext.refl _ _, rfl⟩) ?_
        refine mKG hok rfl rfl rfl rfl (fun a' w' F' E' => o_geqF (F'.ev rfl) (F'.ev rfl) (by omega) ⟨Ext.refl _ _, rfl⟩) ?_
        refine mKG hok rfl rfl rfl rfl (fun a' w' F' E' => o_pickT (F'.ev rfl) (F'.ev rfl) ⟨Ext.refl _ _, rfl⟩) ?_
        refine mK hok rfl rfl (fun a' w' F' E' => o_pickF (F'.ev rfl) (F'.ev rfl) ⟨Ext.refl _ _, rfl⟩) ?_
        (refine mDone rfl rfl ?_; clear F M; intro a w F hE2 hX hTT hDD hPP; have M := M1.later hE2; clear M1; clear hX; clear hE2; clear hok; clear hE; clear hTT; clear hDD; clear hPP; (try dsimp only at F))
        with_reducible refine l_nil (q_then ?_)
        refine c_false F rfl rfl ?_
        with_reducible refine c_skip (q_inB (q_then (c_region ?_)))
        refine sD F (o_add (F.ev rfl) (F.ev rfl) (w_i64 (by omega) (by omega)) ?_); clear F a; intro a F
        refine sD F (o_move (F.ev rfl) ?_); clear F a; intro a F
        with_reducible refine l_nil (q_then ?_)
        exact ⟨_, by omega, i + 1, rfl, by omega, fun j hj => by
          rcases Nat.lt_or_ge j i with h1 | h1
          · exact hv j h1
          · obtain rfl : j = i := by omega
            rw [hvs]; rfl, F.only [10, 9, 0, 8] rfl, M.sub (List.sublist_cons_self _ _)⟩
      · rw [rng_f hlt (by rw [hvs, decide_eq_false (fun h => c6 (cmpI_lt.1 h))]; rfl)]
        refine c_draw 24 F (by kernel_rfl) ?_
        intro w1 hE hok
        have M1 := M.later hE
        refine mK hok rfl rfl (fun a' w' F' E' => o_fieldAddr (F'.ev rfl) ⟨Ext.refl _ _, rfl⟩) ?_
        refine mK hok rfl rfl (fun a' w' F' E' => o_load1 (M1.later E') (F'.ev rfl) (by repeat constructor) (by first | assumption | rfl) ⟨Ext.refl _ _, rfl⟩) ?_
        refine mK hok rfl rfl (fun a' w' F' E' => o_eqlF (F'.ev rfl) (F'.ev rfl) (by omega) ⟨Ext.refl _ _, rfl⟩) ?_
        refine mK hok rfl rfl (fun a' w' F' E' => o_move (F'.ev rfl) ⟨Ext.refl _ _, rfl⟩) ?_
        refine mKG hok rfl rfl rfl rfl (fun a' w' F' E' => o_fieldAddr (F'.ev rfl) ⟨Ext.refl _ _, rfl⟩) ?_
        refine mKG hok rfl rfl rfl rfl (fun a' w' F' E' => o_load1 (M1.later E') (F'.ev rfl) (by repeat constructor) (by first | assumption | rfl) ⟨Ext.refl _ _, rfl⟩) ?_
        (refine mKG hok rfl rfl rfl rfl (fun a' w' F' E' => o_call (F'.ev rfl) (F'.evs rfl) (Cal.mono (hel _) fun _ _ hh => ⟨hh.2, hh.1⟩)) ?_)
        refine mKG hok rfl rfl rfl rfl (fun a' w' F' E' => o_not (F'.ev rfl) ⟨Ext.refl _ _, rfl⟩) ?_
        refine mK hok rfl rfl (fun a' w' F' E' => o_pickF (F'.ev rfl) (F'.ev rfl) ⟨Ext.refl _ _, rfl⟩) ?_
        refine mK hok rfl rfl (fun a' w' F' E' => o_move (F'.ev rfl) ⟨Ext.refl _ _, rfl⟩) ?_
        refine mKG hok rfl rfl rfl rfl (fun a' w' F' E' => o_move (F'.ev rfl) ⟨Ext.refl _ _, rfl⟩) ?_
        refine mKG hok rfl rfl rfl rfl (fun a' w' F' E' => o_gtrT (F'.ev rfl) (F'.ev rfl) (by omega) ⟨Ext.refl _ _, rfl⟩) ?_
        refine mKG hok rfl rfl rfl rfl (fun a' w' F' E' => o_move (F'.ev rfl) ⟨Ext.refl _ _, rfl⟩) ?_
        refine mKG hok rfl rfl rfl rfl (fun a' w' F' E' => o_move (F'.ev rfl) ⟨Ext.refl _ _, rfl⟩) ?_
        refine mKG hok rfl rfl rfl rfl (fun a' w' F' E' => o_move (F'.ev rfl) ⟨Ext.refl _ _, rfl⟩) ?_
        refine mKG hok rfl rfl rfl rfl (fun a' w' F' E' => o_sub (F'.ev rfl) (F'.ev rfl) (w_i64 (by omega) (by omega)) ⟨Ext.refl _ _, rfl⟩) ?_
        refine mKG hok rfl rfl rfl rfl (fun a' w' F' E' => o_indexSl (F'.ev rfl) (F'.ev rfl) (by omega) (by omega) ⟨Ext.refl _ _, rfl⟩) ?_
        refine mKG hok rfl rfl rfl rfl (fun a' w' F' E' => o_fieldAddr (F'.ev rfl) ⟨Ext.refl _ _, rfl⟩) ?_
        refine mKG hok rfl rfl rfl rfl (fun a' w' F' E' => o_loadW1 (M1.later E') (F'.ev rfl) (by assumption) (by first | assumption | rfl) ⟨Ext.refl _ _, rfl⟩) ?_
        refine mKG hok rfl rfl rfl rfl (fun a' w' F' E' => o_fieldAddr (F'.ev rfl) ⟨Ext.refl _ _, rfl⟩) ?_
        refine mKG hok rfl rfl rfl rfl (fun a' w' F' E' => o_load1 (M1.later E') (F'.ev rfl) (by repeat constructor) (by first | assumption | rfl) ⟨Ext.refl _ _, rfl⟩) ?_
        refine mKG hok rfl rfl rfl rfl (fun a' w' F' E' => o_geqT (F'.ev rfl) (F'.ev rfl) (by omega) ⟨Ext.refl _ _, rfl⟩) ?_
        refine mKG hok rfl rfl rfl rfl (fun a' w' F' E' => o_pickT (F'.ev rfl) (F'.ev rfl) ⟨Ext.refl _ _, rfl⟩) ?_
        refine mK hok rfl rfl (fun a' w' F' E' => o_pickF (F'.ev rfl) (F'.ev rfl) ⟨Ext.refl _ _, rfl⟩) ?_
        (refine mDone rfl rfl ?_; clear F M; intro a w F hE2 hX hTT hDD hPP; have M := M1.later hE2; clear M1; clear hX; clear hE2; clear hok; clear hE; clear hTT; clear hDD; clear hPP; (try dsimp only at F))
        with_reducible refine l_nil (q_then ?_)
        refine c_true F rfl rfl ?_
        refine c_seq (c_region ?_)
        refine sD F (o_assign (F.ev rfl) ?_); clear F a; intro a F
        with_reducible refine l_nil (q_then (c_ret (q_inBR (q_thenR (q_thenR (q_inBR (q_thenR ?_)))))))
        refine p_ret F rfl (.cons (.tmp (F.ev rfl)) .nil) ?_
        exact ⟨rfl, M.ext⟩
  · obtain rfl : i = l.length := by omega
    rw [rng_t hv]
    refine c_seq (c_region ?_)
    refine sD F (o_lssF (F.ev rfl) (F.ev rfl) (by omega) ?_); clear F a; intro a F
    with_reducible refine l_nil (q_then (c_seq ?_))
    refine c_false F rfl rfl ?_
    with_reducible refine c_exit (q_thenX (q_thenX (q_inBX (q_then (c_seq (c_region ?_))))))
    refine sD F (o_assign (F.ev rfl) ?_); clear F a; intro a F
    with_reducible refine l_nil (q_then (c_ret ?_))
    refine p_ret F rfl (.cons (.tmp (F.ev rfl)) .nil) ?_
    exact ⟨rfl, M.ext⟩
end Go.Proofs.YtilgoepokaaleaaGreat
/-! Z6 -/
namespace Go.Proofs.YtilgoepokaaleaaGreat
set_option linter.unusedVariables false
set_option linter.unusedSimpArgs false
open Go.RowKit
attribute [local irreducible] OpTo wpListIn Code.wpIn MW Cal
def cmpQ (x y : DisV) : Int := if x = y then 0 else if betterV x y then -1 else 1
theorem cmpQ_is (x y : DisV) : decide (cmpQ x y = -1) = betterV x y := by
  unfold cmpQ
  by_cases h : x = y
  · rw [if_pos h]
    unfold betterV
    rw [decide_eq_true h]
    rfl
  · rw [if_neg h]
    cases betterV x y <;> rfl
set_option maxHeartbeats 1000000 in
theorem sqcmp_c (x y : DisV) (W : World) : Cal Tryz.prog 131 [.agg (diC x).toArray, .agg (diC y).toArray].toArray W fun v w' => v = .int .i64 (cmpQ x y) ∧ Ext [] W w' := by
  have e1 := di_met (o := x) trivial
  have e2 := di_all (o := x) trivial
  have e3 := di_seq (o := x) trivial
  have e4 := di_fits (o := x) trivial
  have g1 := di_met (o := y) trivial
  have g2 := di_all (o := y) trivial
  have g3 := di_seq (o := y) trivial
  have g4 := di_fits (o := y) trivial
  have he := di_eq (a := x) (b := y) trivial trivial
  unfold cmpQ betterV
  refine fn_ofM (n := 27) [] Tryz.func131 rfl rfl rfl ?_
  intro a w F M hwW
  refine c_seq ?_
  refine c_region ?_
  (refine sD F (o_box M (F.ev rfl) rfl ?_); clear F M; intro b2 w M a F)
  (refine sD F (o_box M (F.ev rfl) rfl ?_); clear F M; intro b3 w M a F)
  refine sD F (o_assign (F.ev rfl) ?_); clear F a; intro a F
  with_reducible refine l_nil (q_then (c_seq (c_block (c_seq (c_region ?_)))))
  refine sD F (o_loadA M (F.ev rfl) (by repeat constructor) (by first | assumption | rfl) ?_); clear F a; intro a F
  refine sD F (o_loadA M (F.ev rfl) (by repeat constructor) (by first | assumption | rfl) ?_); clear F a; intro a F
  refine sD F (o_eqlA (F.ev rfl) (F.ev rfl) (by first | assumption | rfl) (by first | assumption | rfl) ?_); clear F a; intro a F
  refine sD F (o_assign (F.ev rfl) ?_); clear F a; intro a F
  with_reducible refine l_nil (q_then ?_)
  by_cases h : x = y
  · rw [he, decide_eq_true h] at F
    rw [if_pos h]
    refine c_true F rfl rfl ?_
    refine c_seq (c_region ?_)
    refine sD F (o_assign (F.ev rfl) ?_); clear F a; intro a F
    with_reducible refine l_nil (q_then (c_ret (q_inBR (q_thenR ?_))))
    refine p_ret F rfl (.cons (.tmp (F.ev rfl)) .nil) ?_
    exact ⟨rfl, M.ext⟩
  rw [he, decide_eq_false h] at F
  rw [if_neg h, decide_eq_false h]
  refine c_false F rfl rfl ?_
  with_reducible refine c_seq (c_seq (c_region ?_))
  refine sD F (o_fieldAddr (F.ev rfl) ?_); clear F a; intro a F
  refine sD F (o_load1 M (F.ev rfl) (by repeat constructor) (by first | assumption | rfl) ?_); clear F a; intro a F
  refine sD F (o_fieldAddr (F.ev rfl) ?_); clear F a; intro a F
  refine sD F (o_load1 M (F.ev rfl) (by repeat constructor) (by first | assumption | rfl) ?_); clear F a; intro a F
  (refine sD F (o_call (F.ev rfl) (F.evs rfl) (Cal.mono (newer_c x.seq y.seq _) ?_)); clear F; clear a; rintro _ w ⟨rfl, hE⟩ a F; replace M := M.later hE; clear hE)
  cases h1 : newerV x.seq y.seq
  · rw [h1] at F
    by_cases h2 : x.seq = y.seq
    · rw [decide_eq_true h2]
      by_cases h3 : x.met < y.met
      · rw [decide_eq_true h3]
        refine sD F (o_assign (F.ev rfl) ?_); clear F a; intro a F
        with_reducible refine l_nil (q_then ?_)
        refine c_false F rfl rfl ?_
        refine c_region ?_
        refine sD F (o_fieldAddr (F.ev rfl) ?_); clear F a; intro a F
        refine sD F (o_load1 M (F.ev rfl) (by repeat constructor) (by first | assumption | rfl) ?_); clear F a; intro a F
        refine sD F (o_fieldAddr (F.ev rfl) ?_); clear F a; intro a F
        refine sD F (o_load1 M (F.ev rfl) (by repeat constructor) (by first | assumption | rfl) ?_); clear F a; intro a F
        refine sD F (o_eqlT (F.ev rfl) (F.ev rfl) (by omega) ?_); clear F a; intro a F
        refine sD F (o_move (F.ev rfl) ?_); clear F a; intro a F
        refine sG F (o_fieldAddr (F.ev rfl) ?_); clear F a; intro a F
        refine sG F (o_load1 M (F.ev rfl) (by repeat constructor) (by first | assumption | rfl) ?_); clear F a; intro a F
        refine sG F (o_fieldAddr (F.ev rfl) ?_); clear F a; intro a F
        refine sG F (o_load1 M (F.ev rfl) (by repeat constructor) (by first | assumption | rfl) ?_); clear F a; intro a F
        refine sG F (o_lssT (F.ev rfl) (F.ev rfl) (by omega) ?_); clear F a; intro a F
        refine sD F (o_pickT (F.ev rfl) (F.ev rfl) ?_); clear F a; intro a F
        refine sD F (o_assign (F.ev rfl) ?_); clear F a; intro a F
        with_reducible refine l_nil (q_then ?_)
        refine c_true F rfl rfl ?_
        refine c_seq (c_region ?_)
        refine sD F (o_assign (F.ev rfl) ?_); clear F a; intro a F
        with_reducible refine l_nil (q_then (c_ret (q_inBR (q_thenR ?_))))
        refine p_ret F rfl (.cons (.tmp (F.ev rfl)) .nil) ?_
        exact ⟨rfl, M.ext⟩
      · rw [decide_eq_false h3]
        refine sD F (o_assign (F.ev rfl) ?_); clear F a; intro a F
        with_reducible refine l_nil (q_then ?_)
        refine c_false F rfl rfl ?_
        refine c_region ?_
        refine sD F (o_fieldAddr (F.ev rfl) ?_); clear F a; intro a F
        refine sD F (o_load1 M (F.ev rfl) (by repeat constructor) (by first | assumption | rfl) ?_); clear F a; intro a F
        refine sD F (o_fieldAddr (F.ev rfl) ?_); clear F a; intro a F
        refine sD F (o_load1 M (F.ev rfl) (by repeat constructor) (by first | assumption | rfl) ?_); clear F a; intro a F
        refine sD F (o_eqlT (F.ev rfl) (F.ev rfl) (by omega) ?_); clear F a; intro a F
        refine sD F (o_move (F.ev rfl) ?_); clear F a; intro a F
        refine sG F (o_fieldAddr (F.ev rfl) ?_); clear F a; intro a F
        refine sG F (o_load1 M (F.ev rfl) (by repeat constructor) (by first | assumption | rfl) ?_); clear F a; intro a F
        refine sG F (o_fieldAddr (F.ev rfl) ?_); clear F a; intro a F
        refine sG F (o_load1 M (F.ev rfl) (by repeat constructor) (by first | assumption | rfl) ?_); clear F a; intro a F
        refine sG F (o_lssF (F.ev rfl) (F.ev rfl) (by omega) ?_); clear F a; intro a F
        refine sD F (o_pickT (F.ev rfl) (F.ev rfl) ?_); clear F a; intro a F
        refine sD F (o_assign (F.ev rfl) ?_); clear F a; intro a F
        with_reducible refine l_nil (q_then ?_)
        refine c_false F rfl rfl ?_
        with_reducible refine c_skip (q_inB (q_then (c_seq (c_region ?_))))
        refine sD F (o_assign (F.ev rfl) ?_); clear F a; intro a F
        with_reducible refine l_nil (q_then (c_ret ?_))
        refine p_ret F rfl (.cons (.tmp (F.ev rfl)) .nil) ?_
        exact ⟨rfl, M.ext⟩
    · rw [decide_eq_false h2]
      refine sD F (o_assign (F.ev rfl) ?_); clear F a; intro a F
      with_reducible refine l_nil (q_then ?_)
      refine c_false F rfl rfl ?_
      refine c_region ?_
      refine sD F (o_fieldAddr (F.ev rfl) ?_); clear F a; intro a F
      refine sD F (o_load1 M (F.ev rfl) (by repeat constructor) (by first | assumption | rfl) ?_); clear F a; intro a F
      refine sD F (o_fieldAddr (F.ev rfl) ?_); clear F a; intro a F
      refine sD F (o_load1 M (F.ev rfl) (by repeat constructor) (by first | assumption | rfl) ?_); clear F a; intro a F
      refine sD F (o_eqlF (F.ev rfl) (F.ev rfl) (by omega) ?_); clear F a; intro a F
      refine sD F (o_move (F.ev rfl) ?_); clear F a; intro a F
      refine sO F ?_; clear F a; intro a F
      refine sO F ?_; clear F a; intro a F
      refine sO F ?_; clear F a; intro a F
      refine sO F ?_; clear F a; intro a F
      refine sO F ?_; clear F a; intro a F
      refine sD F (o_pickF (F.ev rfl) (F.ev rfl) ?_); clear F a; intro a F
      refine sD F (o_assign (F.ev rfl) ?_); clear F a; intro a F
      with_reducible refine l_nil (q_then ?_)
      refine c_false F rfl rfl ?_
      with_reducible refine c_skip (q_inB (q_then (c_seq (c_region ?_))))
      refine sD F (o_assign (F.ev rfl) ?_); clear F a; intro a F
      with_reducible refine l_nil (q_then (c_ret ?_))
      refine p_ret F rfl (.cons (.tmp (F.ev rfl)) .nil) ?_
      exact ⟨rfl, M.ext⟩
  · rw [h1] at F
    refine sD F (o_assign (F.ev rfl) ?_); clear F a; intro a F
    with_reducible refine l_nil (q_then ?_)
    refine c_true F rfl rfl ?_
    with_reducible refine c_skip (q_then ?_)
    refine c_true F rfl rfl ?_
    refine c_seq (c_region ?_)
    refine sD F (o_assign (F.ev rfl) ?_); clear F a; intro a F
    with_reducible refine l_nil (q_then (c_ret (q_inBR (q_thenR ?_))))
    refine p_ret F rfl (.cons (.tmp (F.ev rfl)) .nil) ?_
    exact ⟨rfl, M.ext⟩
set_option maxHeartbeats 1000000 in
theorem sqfeas_c (d b : DisV) (k : Bool) (W : World) : Cal Tryz.prog 102 [.agg (diC d).toArray, .agg (diC b).toArray, .bool k].toArray W fun v w' => v = .bool (finD d && (!k || (validM b.met && betterV d b))) ∧ Ext [] W w' := by
  have e1 := di_met (o := d) trivial
  have e2 := di_all (o := d) trivial
  have g2 := di_all (o := b) trivial
  unfold finD inf
  refine fn_ofM (n := 27) [] Tryz.func102 rfl rfl rfl ?_
  intro a w F M hwW
  refine c_seq ?_
  refine c_region ?_
  (refine sD F (o_box M (F.ev rfl) rfl ?_); clear F M; intro b3 w M a F)
  (refine sD F (o_box M (F.ev rfl) rfl ?_); clear F M; intro b4 w M a F)
  refine sD F (o_assign (F.ev rfl) ?_); clear F a; intro a F
  with_reducible refine l_nil (q_then (c_seq (c_seq (c_region ?_))))
  refine sD F (o_loadA M (F.ev rfl) (by repeat constructor) (by first | assumption | rfl) ?_); clear F a; intro a F
  (refine sD F (o_call (F.ev rfl) (F.evs rfl) (Cal.mono (sqvalid_c d _) ?_)); clear F; clear a; rintro _ w ⟨rfl, hE⟩ a F; replace M := M.later hE; clear hE)
  cases h1 : validM d.met
  · rw [h1] at F
    refine sD F (o_not (F.ev rfl) ?_); clear F a; intro a F
    refine sD F (o_move (F.ev rfl) ?_); clear F a; intro a F
    refine sO F ?_; clear F a; intro a F
    refine sO F ?_; clear F a; intro a F
    refine sO F ?_; clear F a; intro a F
    refine sD F (o_pickT (F.ev rfl) (F.ev rfl) ?_); clear F a; intro a F
    with_reducible refine l_nil (q_then ?_)
    refine c_true F rfl rfl ?_
    refine c_seq (c_region ?_)
    refine sD F (o_assign (F.ev rfl) ?_); clear F a; intro a F
    with_reducible refine l_nil (q_then (c_ret (q_thenR ?_)))
    refine p_ret F rfl (.cons (.tmp (F.ev rfl)) .nil) ?_
    exact ⟨rfl, M.ext⟩
  rw [h1] at F
  by_cases h2 : d.met = 65535
  · rw [decide_eq_true h2]
    refine sD F (o_not (F.ev rfl) ?_); clear F a; intro a F
    refine sD F (o_move (F.ev rfl) ?_); clear F a; intro a F
    refine sG F (o_fieldAddr (F.ev rfl) ?_); clear F a; intro a F
    refine sG F (o_load1 M (F.ev rfl) (by repeat constructor) (by first | assumption | rfl) ?_); clear F a; intro a F
    refine sG F (o_eqlT (F.ev rfl) (F.ev rfl) (by omega) ?_); clear F a; intro a F
    refine sD F (o_pickF (F.ev rfl) (F.ev rfl) ?_); clear F a; intro a F
    with_reducible refine l_nil (q_then ?_)
    refine c_true F rfl rfl ?_
    refine c_seq (c_region ?_)
    refine sD F (o_assign (F.ev rfl) ?_); clear F a; intro a F
    with_reducible refine l_nil (q_then (c_ret (q_thenR ?_)))
    refine p_ret F rfl (.cons (.tmp (F.ev rfl)) .nil) ?_
    exact ⟨rfl, M.ext⟩
  rw [decide_eq_false h2]
  cases k
  · refine sD F (o_not (F.ev rfl) ?_); clear F a; intro a F
    refine sD F (o_move (F.ev rfl) ?_); clear F a; intro a F
    refine sG F (o_fieldAddr (F.ev rfl) ?_); clear F a; intro a F
    refine sG F (o_load1 M (F.ev rfl) (by repeat constructor) (by first | assumption | rfl) ?_); clear F a; intro a F
    refine sG F (o_eqlF (F.ev rfl) (F.ev rfl) (by omega) ?_); clear F a; intro a F
    refine sD F (o_pickF (F.ev rfl) (F.ev rfl) ?_); clear F a; intro a F
    with_reducible refine l_nil (q_then ?_)
    refine c_false F rfl rfl ?_
    with_reducible refine c_skip (q_then (c_seq (c_region ?_)))
    refine sD F (o_move (F.ev rfl) ?_); clear F a; intro a F
    refine sD F (o_not (F.ev rfl) ?_); clear F a; intro a F
    refine sD F (o_move (F.ev rfl) ?_); clear F a; intro a F
    refine sO F ?_; clear F a; intro a F
    refine sO F ?_; clear F a; intro a F
    refine sO F ?_; clear F a; intro a F
    refine sO F ?_; clear F a; intro a F
    refine sO F ?_; clear F a; intro a F
    refine sO F ?_; clear F a; intro a F
    refine sO F ?_; clear F a; intro a F
    refine sO F ?_; clear F a; intro a F
    refine sD F (o_pickT (F.ev rfl) (F.ev rfl) ?_); clear F a; intro a F
    refine sD F (o_assign (F.ev rfl) ?_); clear F a; intro a F
    with_reducible refine l_nil (q_then (c_ret ?_))
    refine p_ret F rfl (.cons (.tmp (F.ev rfl)) .nil) ?_
    exact ⟨rfl, M.ext⟩
  · refine sD F (o_not (F.ev rfl) ?_); clear F a; intro a F
    refine sD F (o_move (F.ev rfl) ?_); clear F a; intro a F
    refine sG F (o_fieldAddr (F.ev rfl) ?_); clear F a; intro a F
    refine sG F (o_load1 M (F.ev rfl) (by repeat constructor) (by first | assumption | rfl) ?_); clear F a; intro a F
    refine sG F (o_eqlF (F.ev rfl) (F.ev rfl) (by omega) ?_); clear F a; intro a F
    refine sD F (o_pickF (F.ev rfl) (F.ev rfl) ?_); clear F a; intro a F
    with_reducible refine l_nil (q_then ?_)
    refine c_false F rfl rfl ?_
    with_reducible refine c_skip (q_then (c_seq (c_region ?_)))
    refine sD F (o_move (F.ev rfl) ?_); clear F a; intro a F
    refine sD F (o_not (F.ev rfl) ?_); clear F a; intro a F
    refine sD F (o_move (F.ev rfl) ?_); clear F a; intro a F
    refine sG F (o_loadA M (F.ev rfl) (by repeat constructor) (by first | assumption | rfl) ?_); clear F a; intro a F
    (refine sG F (o_call (F.ev rfl) (F.evs rfl) (Cal.mono (sqvalid_c b _) ?_)); clear F; clear a; rintro _ w ⟨rfl, hE⟩ a F; replace M := M.later hE; clear hE)
    cases h3 : validM b.met
    · rw [h3] at F
      refine sG F (o_move (F.ev rfl) ?_); clear F a; intro a F
      refine sO F ?_; clear F a; intro a F
      refine sO F ?_; clear F a; intro a F
      refine sO F ?_; clear F a; intro a F
      refine sO F ?_; clear F a; intro a F
      refine sG F (o_pickF (F.ev rfl) (F.ev rfl) ?_); clear F a; intro a F
      refine sD F (o_pickF (F.ev rfl) (F.ev rfl) ?_); clear F a; intro a F
      refine sD F (o_assign (F.ev rfl) ?_); clear F a; intro a F
      with_reducible refine l_nil (q_then (c_ret ?_))
      refine p_ret F rfl (.cons (.tmp (F.ev rfl)) .nil) ?_
      exact ⟨rfl, M.ext⟩
    rw [h3] at F
    refine sG F (o_move (F.ev rfl) ?_); clear F a; intro a F
    refine sG F (o_loadA M (F.ev rfl) (by repeat constructor) (by first | assumption | rfl) ?_); clear F a; intro a F
    refine sG F (o_loadA M (F.ev rfl) (by repeat constructor) (by first | assumption | rfl) ?_); clear F a; intro a F
    (refine sG F (o_call (F.ev rfl) (F.evs rfl) (Cal.mono (sqcmp_c d b _) ?_)); clear F; clear a; rintro _ w ⟨rfl, hE⟩ a F; replace M := M.later hE; clear hE)
    rw [← cmpQ_is]
    by_cases h4 : cmpQ d b = -1
    · rw [decide_eq_true h4]
      refine sG F (o_eqlT (F.ev rfl) (F.ev rfl) (by omega) ?_); clear F a; intro a F
      refine sG F (o_pickT (F.ev rfl) (F.ev rfl) ?_); clear F a; intro a F
      refine sD F (o_pickF (F.ev rfl) (F.ev rfl) ?_); clear F a; intro a F
      refine sD F (o_assign (F.ev rfl) ?_); clear F a; intro a F
      with_reducible refine l_nil (q_then (c_ret ?_))
      refine p_ret F rfl (.cons (.tmp (F.ev rfl)) .nil) ?_
      exact ⟨rfl, M.ext⟩
    · rw [decide_eq_false h4]
      refine sG F (o_eqlF (F.ev rfl) (F.ev rfl) (by omega) ?_); clear F a; intro a F
      refine sG F (o_pickT (F.ev rfl) (F.ev rfl) ?_); clear F a; intro a F
      refine sD F (o_pickF (F.ev rfl) (F.ev rfl) ?_); clear F a; intro a F
      refine sD F (o_assign (F.ev rfl) ?_); clear F a; intro a F
      with_reducible refine l_nil (q_then (c_ret ?_))
      refine p_ret F rfl (.cons (.tmp (F.ev rfl)) .nil) ?_
      exact ⟨rfl, M.ext⟩
theorem find_at {α : Type} {p : α → Bool} {l : List α} {i : Nat} (hi : i < l.length) (h : p l[i] = true) (hn : ∀ j (hj : j < l.length), j < i → p l[j] = false) : l.find? p = some l[i] := by
  rw [List.find?_eq_some_iff_getElem]
  exact ⟨h, i, hi, rfl, fun j hj => by rw [hn j (by omega) hj]; rfl⟩
theorem find_no {α : Type} {p : α → Bool} {l : List α} (hn : ∀ j (hj : j < l.length), p l[j] = false) : l.find? p = none := by
  rw [List.find?_eq_none]
  intro x hx
  obtain ⟨j, hj, rfl⟩ := List.mem_iff_getElem.1 hx
  rw [hn j hj]
  simp
def hitS (now : Int) (t : DstV) (x : SrcV) : Bool := decide (x.to = t) && decide (now < x.til)
theorem bestS_is (s : List SrcV) (now : Int) (t : DstV) : bestS s now t = (s.find? (hitS now t)).map (·.bst) := rfl
set_option maxHeartbeats 2000000 in
theorem scfind_c (l : List SrcV) (hx : ∀ x ∈ l, IsSr x) (hval : validSs l = true) (v : Value) (now : Int) (hnow : isTime now = true) (t : DstV) (ht : IsDv t) (W : World) (hS : SlAt W 38 v l.length (srsC l)) :
    Cal Tryz.prog 101 [v, .int .i64 now, .agg (dvC t).toArray].toArray W fun r w' => r = .tuple [diV ((bestS l now t).getD di0), .bool (bestS l now t).isSome].toArray ∧ Ext [] W w' := by
  have hS0 := hS
  have hlen := (validSs_iff.1 hval).1
  obtain ⟨q, cap, rfl, hcap, hsp, hl, hm⟩ := hS
  have d1 := dv_all ht
  have d2 := dv_len ht
  have d3 := dv_fits ht
  rw [bestS_is]
  refine fn_ofM (n := 39) [] Tryz.func101 rfl rfl rfl ?_
  intro a w F M hwW
  refine c_seq ?_
  refine c_region ?_
  (refine sD F (o_box M (F.ev rfl) rfl ?_); clear F M; intro b5 w M a F)
  (refine sD F (o_alloc M ?_); clear F M; intro b6 w M a F)
  refine sD F (o_assign (F.ev rfl) ?_); clear F a; intro a F
  with_reducible refine l_nil (q_then (c_seq (c_seq (c_region ?_))))
  refine sD F (o_move (F.ev rfl) ?_); clear F a; intro a F
  (refine sD F (o_call (F.ev rfl) (F.evs rfl) (Cal.mono (scvalid_c l hx _ _ (hS0.later M.ext)) ?_)); clear F; clear a; rintro _ w ⟨rfl, hE⟩ a F; replace M := M.later hE; clear hE)
  rw [hval] at F
  refine sD F (o_not (F.ev rfl) ?_); clear F a; intro a F
  refine sD F (o_move (F.ev rfl) ?_); clear F a; intro a F
  refine sG F (o_move (F.ev rfl) ?_); clear F a; intro a F
  (refine sG F (o_call (F.ev rfl) (F.evs rfl) (Cal.mono (scTime_c now _) ?_)); clear F; clear a; rintro _ w ⟨rfl, hE⟩ a F; replace M := M.later hE; clear hE)
  rw [hnow] at F
  refine sG F (o_not (F.ev rfl) ?_); clear F a; intro a F
  refine sD F (o_pickF (F.ev rfl) (F.ev rfl) ?_); clear F a; intro a F
  with_reducible refine l_nil (q_then ?_)
  refine c_false F rfl rfl ?_
  with_reducible refine c_skip (q_then (c_seq (c_seq (c_region ?_))))
  refine sD F (o_move (F.ev rfl) ?_); clear F a; intro a F
  refine sD F (o_lenSl (F.ev rfl) ?_); clear F a; intro a F
  refine sD F (o_move (F.ev rfl) ?_); clear F a; intro a F
  with_reducible refine l_nil (q_then (c_block ?_))
  refine c_loop (fun m a w => ∃ i : Nat, m = l.length - i ∧ i ≤ l.length ∧ (∀ j (hj : j < l.length), j < i → hitS now t l[j] = false) ∧ Frm a 39 [] [(21, .int .i64 i), (20, .int .i64 l.length), (19, .slice q l.length cap), (1, .int .i64 now), (5, .pointer (some ⟨b5, 0, none⟩)), (6, .pointer (some ⟨b6, 0, none⟩)), (7, .bool false)] ∧ Mem [] W w [(b6, .cells [Value.int .u16 0, .int .i64 0].toArray 48 (0, 0)), (b5, .cells (dvC t).toArray 45 (0, 0))]) l.length ⟨0, rfl, by omega, by omega, F.only [21, 20, 19, 1, 5, 6, 7] rfl, M⟩ ?_
  clear F M
  rintro m a w ⟨i, hm', hi, hv, F, M⟩
  by_cases hlt : i < l.length
  · obtain ⟨b, o, cs, t', fz, rfl, hb, hs⟩ := hm (by omega)
    have hxv := hx _ (List.getElem_mem hlt)
    have f1 : seg cs (o + (i : Int).toNat * 38) 38 = some (srC l[i]) := seg_el (srs_len hx) hs hlt (by omega)
    have hget := find_at (p := hitS now t) hlt
    have hne : hitS now t l[i] = false → ∀ j (hj : j < l.length), j < i + 1 → hitS now t l[j] = false := fun h j hj hj2 => by
      rcases Nat.lt_or_ge j i with h1 | h1
      · exact hv j hj h1
      · obtain rfl : j = i := by omega
        exact h
    obtain ⟨x, hx0⟩ : ∃ x, x = l[i] := ⟨_, rfl⟩
    rw [← hx0] at hxv f1 hget hne
    have f2 : (srC x).length = 38 := sr_len hxv
    have f3 := sr_to hxv
    have f4 := sr_bst hxv
    have f5 := sr_til hxv
    have f6 := dv_fits hxv.1
    have f7 := dv_eq hxv.1 ht
    refine c_seq (c_region ?_)
    refine sD F (o_lssT (F.ev rfl) (F.ev rfl) (by omega) ?_); clear F a; intro a F
    with_reducible refine l_nil (q_then (c_seq ?_))
    refine c_true F rfl rfl ?_
    with_reducible refine c_skip (q_then (c_seq (c_block (c_seq (c_region ?_)))))
    refine sD F (o_indexSl (F.ev rfl) (F.ev rfl) (by omega) (by omega) ?_); clear F a; intro a F
    refine sD F (o_loadWA M (F.ev rfl) (by assumption) (by first | assumption | rfl) ?_); clear F a; intro a F
    (refine sD F (o_alloc M ?_); clear F M; intro b9 w M a F)
    (refine stepN rfl F (o_storeA M (F.ev rfl) (F.ev rfl) (f2) (sr_one x)  (by repeat constructor)  (put_all (by rw [f2]; rfl)) (by repeat constructor) ?_); clear F M; intro w M a F)
    with_reducible refine l_nil (q_then (c_seq (c_region ?_)))
    refine sD F (o_fieldAddr (F.ev rfl) ?_); clear F a; intro a F
    refine sD F (o_loadA M (F.ev rfl) (by repeat constructor) (by first | assumption | rfl) ?_); clear F a; intro a F
    refine sD F (o_loadA M (F.ev rfl) (by repeat constructor) (by first | assumption | rfl) ?_); clear F a; intro a F
    refine sD F (o_eqlA (F.ev rfl) (F.ev rfl) (by first | assumption | rfl) (by first | assumption | rfl) ?_); clear F a; intro a F
    refine sD F (o_move (F.ev rfl) ?_); clear F a; intro a F
    by_cases he : x.to = t
    · rw [f7, decide_eq_true he] at F
      by_cases h2 : now < x.til
      · rw [hget (by unfold hitS; rw [decide_eq_true he, decide_eq_true h2]; rfl) hv]
        refine sG F (o_fieldAddr (F.ev rfl) ?_); clear F a; intro a F
        refine sG F (o_load1 M (F.ev rfl) (by repeat constructor) (by first | assumption | rfl) ?_); clear F a; intro a F
        refine sG F (o_move (F.ev rfl) ?_); clear F a; intro a F
        refine sG F (o_gtrT (F.ev rfl) (F.ev rfl) (by omega) ?_); clear F a; intro a F
        refine sD F (o_pickT (F.ev rfl) (F.ev rfl) ?_); clear F a; intro a F
        with_reducible refine l_nil (q_then ?_)
        refine c_true F rfl rfl ?_
        refine c_seq (c_region ?_)
        refine sD F (o_fieldAddr (F.ev rfl) ?_); clear F a; intro a F
        refine sD F (o_loadA M (F.ev rfl) (by repeat constructor) (by first | assumption | rfl) ?_); clear F a; intro a F
        (refine stepN rfl F (o_storeA M (F.ev rfl) (F.ev rfl) (di_len (o := x.bst) trivial) (di_one x.bst)  (by repeat constructor)  (put_all (by rw [di_len (o := x.bst) trivial]; rfl)) (by repeat constructor) ?_); clear F M; intro w M a F)
        refine sD F (o_assign (F.ev rfl) ?_); clear F a; intro a F
        with_reducible refine l_nil (q_then (c_ret (q_inBR (q_thenR (q_thenR (q_inBR (q_thenR ?_)))))))
        have e5 : seg (diC x.bst) 0 2 = some (diC x.bst) := di_all (o := x.bst) trivial
        exact p_ret F rfl (.cons (.cell (F.ev rfl) (run_loadVar_agg TAgg.h (M.heap (by repeat constructor)) e5)) (.cons (.tmp (F.ev rfl)) .nil)) ⟨rfl, M.ext⟩
      · refine sG F (o_fieldAddr (F.ev rfl) ?_); clear F a; intro a F
        refine sG F (o_load1 M (F.ev rfl) (by repeat constructor) (by first | assumption | rfl) ?_); clear F a; intro a F
        refine sG F (o_move (F.ev rfl) ?_); clear F a; intro a F
        refine sG F (o_gtrF (F.ev rfl) (F.ev rfl) (by omega) ?_); clear F a; intro a F
        refine sD F (o_pickT (F.ev rfl) (F.ev rfl) ?_); clear F a; intro a F
        with_reducible refine l_nil (q_then ?_)
        refine c_false F rfl rfl ?_
        with_reducible refine c_skip (q_inB (q_then (c_region ?_)))
        refine sD F (o_add (F.ev rfl) (F.ev rfl) (w_i64 (by omega) (by omega)) ?_); clear F a; intro a F
        refine sD F (o_move (F.ev rfl) ?_); clear F a; intro a F
        with_reducible refine l_nil (q_then ?_)
        exact ⟨_, by omega, i + 1, rfl, by omega, hne (by unfold hitS; rw [decide_eq_false h2, Bool.and_false]), F.only [21, 20, 19, 1, 5, 6, 7] rfl, M.sub (List.sublist_cons_self _ _)⟩
    · rw [f7, decide_eq_false he] at F
      refine sO F ?_; clear F a; intro a F
      refine sO F ?_; clear F a; intro a F
      refine sO F ?_; clear F a; intro a F
      refine sO F ?_; clear F a; intro a F
      refine sD F (o_pickF (F.ev rfl) (F.ev rfl) ?_); clear F a; intro a F
      with_reducible refine l_nil (q_then ?_)
      refine c_false F rfl rfl ?_
      with_reducible refine c_skip (q_inB (q_then (c_region ?_)))
      refine sD F (o_add (F.ev rfl) (F.ev rfl) (w_i64 (by omega) (by omega)) ?_); clear F a; intro a F
      refine sD F (o_move (F.ev rfl) ?_); clear F a; intro a F
      with_reducible refine l_nil (q_then ?_)
      exact ⟨_, by omega, i + 1, rfl, by omega, hne (by unfold hitS; rw [decide_eq_false he, Bool.false_and]), F.only [21, 20, 19, 1, 5, 6, 7] rfl, M.sub (List.sublist_cons_self _ _)⟩
  · obtain rfl : i = l.length := by omega
    rw [find_no (fun j hj => hv j hj hj)]
    refine c_seq (c_region ?_)
    refine sD F (o_lssF (F.ev rfl) (F.ev rfl) (by omega) ?_); clear F a; intro a F
    with_reducible refine l_nil (q_then (c_seq ?_))
    refine c_false F rfl rfl ?_
    with_reducible refine c_exit (q_thenX (q_thenX (q_inBX (q_then (c_seq (c_region ?_))))))
    refine sD F (o_build F rfl rfl ?_); clear F a; intro a F
    (refine stepN rfl F (o_storeA M (F.ev rfl) (F.ev rfl) (rfl) (rfl)  (by repeat constructor)  (rfl) (by repeat constructor) ?_); clear F M; intro w M a F)
    refine sD F (o_assign (F.ev rfl) ?_); clear F a; intro a F
    with_reducible refine l_nil (q_then (c_ret ?_))
    exact p_ret F rfl (.cons (.cell (F.ev rfl) (run_loadVar_agg TAgg.h (M.heap (by repeat constructor)) rfl)) (.cons (.tmp (F.ev rfl)) .nil)) ⟨rfl, M.ext⟩
theorem best_valid {l : List SrcV} (hval : validSs l = true) {now : Int} {t : DstV} {b : DisV} (h : bestS l now t = some b) : validM b.met = true := by
  rw [bestS_is, Option.map_eq_some_iff] at h
  obtain ⟨x, h1, rfl⟩ := h
  have h2 := (validSs_iff.1 hval).2.1 x (List.mem_of_find?_eq_some h1)
  simp only [src1, finD, Bool.and_eq_true] at h2
  exact h2.1.2.1
set_option maxHeartbeats 2000000 in
theorem scfeas_c (l : List SrcV) (hx : ∀ x ∈ l, IsSr x) (hval : validSs l = true) (v : Value) (now : Int) (hnow : isTime now = true) (t : DstV) (ht : IsDv t) (hvt : validT t = true) (d : DisV) (W : World) (hS : SlAt W 38 v l.length (srsC l)) :
    Cal Tryz.prog 51 [v, .int .i64 now, .agg (dvC t).toArray, .agg (diC d).toArray].toArray W fun r w' => r = .bool (feasV l now t d) ∧ Ext [] W w' := by
  have hvv := hS.one
  have d1 := dv_all ht
  have e1 := di_all (o := d) trivial
  obtain ⟨z, hz⟩ : ∃ z, z = (bestS l now t).getD di0 := ⟨_, rfl⟩
  obtain ⟨k, hk⟩ : ∃ k, k = (bestS l now t).isSome := ⟨_, rfl⟩
  have hf : feasV l now t d = (finD d && (!k || (validM z.met && betterV d z))) := by
    rw [hz, hk]
    unfold feasV
    cases h : bestS l now t with
    | none => simp
    | some b => simp [best_valid hval h]
  rw [hf]
  have hfind := scfind_c l hx hval v now hnow t ht
  rw [← hz, ← hk] at hfind
  have z1 := di_all (o := z) trivial
  have z2 := di_len (o := z) trivial
  refine fn_ofM (n := 35) [] Tryz.func51 rfl rfl rfl ?_
  intro a w F M hwW
  refine c_seq ?_
  refine c_region ?_
  (refine sD F (o_box M (F.ev rfl) rfl ?_); clear F M; intro b6 w M a F)
  (refine sD F (o_box M (F.ev rfl) rfl ?_); clear F M; intro b7 w M a F)
  refine sD F (o_assign (F.ev rfl) ?_); clear F a; intro a F
  with_reducible refine l_nil (q_then (c_seq (c_seq (c_region ?_))))
  refine sD F (o_move (F.ev rfl) ?_); clear F a; intro a F
  (refine sD F (o_call (F.ev rfl) (F.evs rfl) (Cal.mono (scvalid_c l hx _ _ (hS.later M.ext)) ?_)); clear F; clear a; rintro _ w ⟨rfl, hE⟩ a F; replace M := M.later hE; clear hE)
  rw [hval] at F
  refine sD F (o_not (F.ev rfl) ?_); clear F a; intro a F
  refine sD F (o_move (F.ev rfl) ?_); clear F a; intro a F
  refine sG F (o_loadA M (F.ev rfl) (by repeat constructor) (by first | assumption | rfl) ?_); clear F a; intro a F
  (refine sG F (o_call (F.ev rfl) (F.evs rfl) (Cal.mono (validTo_c t ht _) ?_)); clear F; clear a; rintro _ w ⟨rfl, hE⟩ a F; replace M := M.later hE; clear hE)
  rw [hvt] at F
  refine sG F (o_not (F.ev rfl) ?_); clear F a; intro a F
  refine sD F (o_pickF (F.ev rfl) (F.ev rfl) ?_); clear F a; intro a F
  refine sD F (o_move (F.ev rfl) ?_); clear F a; intro a F
  refine sG F (o_move (F.ev rfl) ?_); clear F a; intro a F
  (refine sG F (o_call (F.ev rfl) (F.evs rfl) (Cal.mono (scTime_c now _) ?_)); clear F; clear a; rintro _ w ⟨rfl, hE⟩ a F; replace M := M.later hE; clear hE)
  rw [hnow] at F
  refine sG F (o_not (F.ev rfl) ?_); clear F a; intro a F
  refine sD F (o_pickF (F.ev rfl) (F.ev rfl) ?_); clear F a; intro a F
  with_reducible refine l_nil (q_then ?_)
  refine c_false F rfl rfl ?_
  with_reducible refine c_skip (q_then (c_seq (c_region ?_)))
  refine sD F (o_move (F.ev rfl) ?_); clear F a; intro a F
  refine sD F (o_move (F.ev rfl) ?_); clear F a; intro a F
  refine sD F (o_loadA M (F.ev rfl) (by repeat constructor) (by first | assumption | rfl) ?_); clear F a; intro a F
  (refine sD F (o_call (F.ev rfl) (F.evs rfl) (Cal.mono (hfind _ (hS.later M.ext)) ?_)); clear F; clear a; rintro _ w ⟨rfl, hE⟩ a F; replace M := M.later hE; clear hE)
  refine sD F (o_move (F.ev rfl) ?_); clear F a; intro a F
  refine sD F (o_extract (F.ev rfl) rfl ?_); clear F a; intro a F
  refine sD F (o_extract (F.ev rfl) rfl ?_); clear F a; intro a F
  (refine sD F (o_alloc M ?_); clear F M; intro b9 w M a F)
  (refine stepN rfl F (o_storeA M (F.ev rfl) (F.ev rfl) (z2) (di_one z)  (by repeat constructor)  (put_all (by rw [z2]; rfl)) (by repeat constructor) ?_); clear F M; intro w M a F)
  refine sD F (o_assign (F.ev rfl) ?_); clear F a; intro a F
  with_reducible refine l_nil (q_then (c_seq (c_region ?_)))
  refine sD F (o_loadA M (F.ev rfl) (by repeat constructor) (by first | assumption | rfl) ?_); clear F a; intro a F
  refine sD F (o_loadA M (F.ev rfl) (by repeat constructor) (by first | assumption | rfl) ?_); clear F a; intro a F
  refine sD F (o_move (F.ev rfl) ?_); clear F a; intro a F
  (refine sD F (o_call (F.ev rfl) (F.evs rfl) (Cal.mono (sqfeas_c d z k _) ?_)); clear F; clear a; rintro _ w ⟨rfl, hE⟩ a F; replace M := M.later hE; clear hE)
  refine sD F (o_assign (F.ev rfl) ?_); clear F a; intro a F
  with_reducible refine l_nil (q_then (c_ret ?_))
  refine p_ret F rfl (.cons (.tmp (F.ev rfl)) .nil) ?_
  exact ⟨rfl, M.ext⟩
set_option maxHeartbeats 1000000 in
theorem mtvalidC_c (c : ChoV) (W : World) : Cal Tryz.prog 132 [.agg (chC c).toArray].toArray W fun v w' => v = .bool (validCh c) ∧ Ext [] W w' := by
  have e1 := ch_cost (o := c) trivial
  have e2 := ch_btn (o := c) trivial
  unfold validCh
  refine fn_ofM (n := 16) [] Tryz.func132 rfl rfl rfl ?_
  intro a w F M hwW
  refine c_seq ?_
  refine c_region ?_
  (refine sD F (o_box M (F.ev rfl) rfl ?_); clear F M; intro b1 w M a F)
  refine sD F (o_assign (F.ev rfl) ?_); clear F a; intro a F
  with_reducible refine l_nil (q_then (c_seq (c_region ?_)))
  refine sD F (o_fieldAddr (F.ev rfl) ?_); clear F a; intro a F
  refine sD F (o_load1 M (F.ev rfl) (by repeat constructor) (by first | assumption | rfl) ?_); clear F a; intro a F
  (refine sD F (o_call (F.ev rfl) (F.evs rfl) (Cal.mono (mvalid_c c.cost _) ?_)); clear F; clear a; rintro _ w ⟨rfl, hE⟩ a F; replace M := M.later hE; clear hE)
  cases h1 : validM c.cost
  · rw [h1] at F
    refine sD F (o_move (F.ev rfl) ?_); clear F a; intro a F
    refine sO F ?_; clear F a; intro a F
    refine sO F ?_; clear F a; intro a F
    refine sO F ?_; clear F a; intro a F
    refine sO F ?_; clear F a; intro a F
    refine sO F ?_; clear F a; intro a F
    refine sO F ?_; clear F a; intro a F
    refine sO F ?_; clear F a; intro a F
    refine sO F ?_; clear F a; intro a F
    refine sD F (o_pickF (F.ev rfl) (F.ev rfl) ?_); clear F a; intro a F
    refine sD F (o_assign (F.ev rfl) ?_); clear F a; intro a F
    with_reducible refine l_nil (q_then (c_ret ?_))
    refine p_ret F rfl (.cons (.tmp (F.ev rfl)) .nil) ?_
    exact ⟨rfl, M.ext⟩
  rw [h1] at F
  by_cases h2 : c.btn = -1
  · rw [decide_eq_true h2]
    refine sD F (o_move (F.ev rfl) ?_); clear F a; intro a F
    refine sG F (o_fieldAddr (F.ev rfl) ?_); clear F a; intro a F
    refine sG F (o_load1 M (F.ev rfl) (by repeat constructor) (by first | assumption | rfl) ?_); clear F a; intro a F
    refine sG F (o_eqlT (F.ev rfl) (F.ev rfl) (by omega) ?_); clear F a; intro a F
    refine sG F (o_move (F.ev rfl) ?_); clear F a; intro a F
    refine sO F ?_; clear F a; intro a F
    refine sO F ?_; clear F a; intro a F
    refine sO F ?_; clear F a; intro a F
    refine sG F (o_pickT (F.ev rfl) (F.ev rfl) ?_); clear F a; intro a F
    refine sD F (o_pickT (F.ev rfl) (F.ev rfl) ?_); clear F a; intro a F
    refine sD F (o_assign (F.ev rfl) ?_); clear F a; intro a F
    with_reducible refine l_nil (q_then (c_ret ?_))
    refine p_ret F rfl (.cons (.tmp (F.ev rfl)) .nil) ?_
    exact ⟨rfl, M.ext⟩
  · rw [decide_eq_false h2]
    refine sD F (o_move (F.ev rfl) ?_); clear F a; intro a F
    refine sG F (o_fieldAddr (F.ev rfl) ?_); clear F a; intro a F
    refine sG F (o_load1 M (F.ev rfl) (by repeat constructor) (by first | assumption | rfl) ?_); clear F a; intro a F
    refine sG F (o_eqlF (F.ev rfl) (F.ev rfl) (by omega) ?_); clear F a; intro a F
    refine sG F (o_move (F.ev rfl) ?_); clear F a; intro a F
    refine sG F (o_fieldAddr (F.ev rfl) ?_); clear F a; intro a F
    refine sG F (o_load1 M (F.ev rfl) (by repeat constructor) (by first | assumption | rfl) ?_); clear F a; intro a F
    (refine sG F (o_call (F.ev rfl) (F.evs rfl) (Cal.mono (mtTime_c c.btn _) ?_)); clear F; clear a; rintro _ w ⟨rfl, hE⟩ a F; replace M := M.later hE; clear hE)
    refine sG F (o_pickF (F.ev rfl) (F.ev rfl) ?_); clear F a; intro a F
    refine sD F (o_pickT (F.ev rfl) (F.ev rfl) ?_); clear F a; intro a F
    refine sD F (o_assign (F.ev rfl) ?_); clear F a; intro a F
    with_reducible refine l_nil (q_then (c_ret ?_))
    refine p_ret F rfl (.cons (.tmp (F.ev rfl)) .nil) ?_
    exact ⟨rfl, M.ext⟩
theorem choose1_c (o : OptV) (bt : Int) (W : World) : Cal Tryz.prog 134 [.agg (opC o).toArray, .int .i64 bt].toArray W fun v w' => v = .tuple [.agg (chC ⟨o.nb, o.cost, bt⟩).toArray, .int .i64 0].toArray ∧ Ext [] W w' := by
  have e1 := op_nb (o := o) trivial
  have e2 := op_cost (o := o) trivial
  refine fn_ofM (n := 12) [] Tryz.func134 rfl rfl rfl ?_
  intro a w F M hwW
  refine c_seq ?_
  refine c_region ?_
  (refine sD F (o_box M (F.ev rfl) rfl ?_); clear F M; intro b2 w M a F)
  (refine sD F (o_alloc M ?_); clear F M; intro b4 w M a F)
  refine sD F (o_assign (F.ev rfl) ?_); clear F a; intro a F
  with_reducible refine l_nil (q_then (c_seq (c_region ?_)))
  refine sD F (o_fieldAddr (F.ev rfl) ?_); clear F a; intro a F
  refine sD F (o_load1 M (F.ev rfl) (by repeat constructor) (by first | assumption | rfl) ?_); clear F a; intro a F
  refine sD F (o_fieldAddr (F.ev rfl) ?_); clear F a; intro a F
  refine sD F (o_load1 M (F.ev rfl) (by repeat constructor) (by first | assumption | rfl) ?_); clear F a; intro a F
  refine sD F (o_move (F.ev rfl) ?_); clear F a; intro a F
  refine sD F (o_build F rfl rfl ?_); clear F a; intro a F
  (refine stepN rfl F (o_storeA M (F.ev rfl) (F.ev rfl) (rfl) (rfl)  (by repeat constructor)  (rfl) (by repeat constructor) ?_); clear F M; intro w M a F)
  refine sD F (o_assign (F.ev rfl) ?_); clear F a; intro a F
  with_reducible refine l_nil (q_then (c_ret ?_))
  exact p_ret F rfl (.cons (.cell (F.ev rfl) (run_loadVar_agg TAgg.h (M.heap (by repeat constructor)) rfl)) (.cons (.tmp (F.ev rfl)) .nil)) ⟨rfl, M.ext⟩
/-! choose -/
theorem bstO_step {l : List OptV} {i : Nat} (h : i < l.length) : bstO (l.take (i + 1)) = if l[i].cost < (bstO (l.take i)).cost then l[i] else bstO (l.take i) := by
  unfold bstO
  rw [List.take_add_one, List.getElem?_eq_getElem h, List.foldl_append]
  rfl
theorem prvO_step {l : List OptV} {nb : Int} {i : Nat} (h : i < l.length) : prvO nb (l.take (i + 1)) = if l[i].cost < inf ∧ l[i].nb = nb then l[i] else prvO nb (l.take i) := by
  unfold prvO
  rw [List.take_add_one, List.getElem?_eq_getElem h, List.foldl_append]
  rfl
theorem bstO_valid {l : List OptV} (h : ∀ o ∈ l, validM o.cost = true) : validM (bstO l).cost = true := by
  have key : ∀ (l : List OptV) (b : OptV), (∀ o ∈ l, validM o.cost = true) → validM b.cost = true → validM (l.foldl (fun b o => if o.cost < b.cost then o else b) b).cost = true := by
    intro l
    induction l with
    | nil => intro b _ h; exact h
    | cons x xs ih =>
      intro b h1 h2
      rw [List.foldl_cons]
      refine ih _ (fun o ho => h1 o (List.mem_cons_of_mem _ ho)) ?_
      split
      · exact h1 x (by simp)
      · exact h2
  exact key l none0 h rfl
theorem prvO_valid {nb : Int} {l : List OptV} (h : ∀ o ∈ l, validM o.cost = true) : validM (prvO nb l).cost = true := by
  have key : ∀ (l : List OptV) (b : OptV), (∀ o ∈ l, validM o.cost = true) → validM b.cost = true → validM (l.foldl (fun c o => if o.cost < inf ∧ o.nb = nb then o else c) b).cost = true := by
    intro l
    induction l with
    | nil => intro b _ h; exact h
    | cons x xs ih =>
      intro b h1 h2
      rw [List.foldl_cons]
      refine ih _ (fun o ho => h1 o (List.mem_cons_of_mem _ ho)) ?_
      split
      · exact h1 x (by simp)
      · exact h2
  exact key l none0 h rfl
abbrev opO (o : OptV) : Obj := .cells (opC o).toArray 55 (0, 0)
set_option maxHeartbeats 8000000 in
theorem choose_c (l : List OptV) (hx : ∀ x ∈ l, IsOp x) (hval : validOs l = true) (v : Value) (now : Int) (hnow : isTime now = true) (old : ChoV) (hold : validCh old = true) (W : World) (hS : SlAt W 2 v l.length (opsC l)) :
    Cal Tryz.prog 103 [.int .i64 now, .agg (chC old).toArray, v].toArray W fun r w' => r = .tuple [.agg (chC (chooseV now old l)).toArray, .int .i64 0].toArray ∧ Ext [] W w' := by
  have hS0 := hS
  have hlen := (validOs_iff.1 hval).1
  have hopt := (validOs_iff.1 hval).2.1
  obtain ⟨q, cap, rfl, hcap, hsp, hl, hm⟩ := hS
  have o1 := ch_all (o := old) trivial
  have o2 := ch_nb (o := old) trivial
  have o3 := ch_btn (o := old) trivial
  have n1 := op_build (o := none0) trivial
  have n2 := op_len (o := none0) trivial
  have n3 := op_all (o := none0) trivial
  unfold chooseV
  refine fn_ofM (n := 114) [] Tryz.func103 rfl rfl rfl ?_
  intro a w F M hwW
  refine c_seq ?_
  refine c_region ?_
  (refine sD F (o_box M (F.ev rfl) rfl ?_); clear F M; intro b4 w M a F)
  (refine sD F (o_alloc M ?_); clear F M; intro b6 w M a F)
  refine sD F (o_assign (F.ev rfl) ?_); clear F a; intro a F
  with_reducible refine l_nil (q_then (c_seq (c_seq (c_region ?_))))
  refine sD F (o_loadA M (F.ev rfl) (by repeat constructor) (by first | assumption | rfl) ?_); clear F a; intro a F
  (refine sD F (o_call (F.ev rfl) (F.evs rfl) (Cal.mono (mtvalidC_c old _) ?_)); clear F; clear a; rintro _ w ⟨rfl, hE⟩ a F; replace M := M.later hE; clear hE)
  rw [hold] at F
  refine sD F (o_not (F.ev rfl) ?_); clear F a; intro a F
  refine sD F (o_move (F.ev rfl) ?_); clear F a; intro a F
  refine sG F (o_move (F.ev rfl) ?_); clear F a; intro a F
  (refine sG F (o_call (F.ev rfl) (F.evs rfl) (Cal.mono (mtvalidO_c l hx _ _ (hS0.later M.ext)) ?_)); clear F; clear a; rintro _ w ⟨rfl, hE⟩ a F; replace M := M.later hE; clear hE)
  rw [hval] at F
  refine sG F (o_not (F.ev rfl) ?_); clear F a; intro a F
  refine sD F (o_pickF (F.ev rfl) (F.ev rfl) ?_); clear F a; intro a F
  with_reducible refine l_nil (q_then ?_)
  refine c_false F rfl rfl ?_
  with_reducible refine c_skip (q_then (c_seq (c_seq (c_region ?_))))
  refine sD F (o_move (F.ev rfl) ?_); clear F a; intro a F
  (refine sD F (o_call (F.ev rfl) (F.evs rfl) (Cal.mono (mtTime_c now _) ?_)); clear F; clear a; rintro _ w ⟨rfl, hE⟩ a F; replace M := M.later hE; clear hE)
  rw [hnow] at F
  refine sD F (o_not (F.ev rfl) ?_); clear F a; intro a F
  with_reducible refine l_nil (q_then ?_)
  refine c_false F rfl rfl ?_
  with_reducible refine c_skip (q_then (c_seq (c_region ?_)))
  refine sD F (o_build F rfl rfl ?_); clear F a; intro a F
  (refine sD F (o_alloc M ?_); clear F M; intro b8 w M a F)
  (refine stepN rfl F (o_storeA M (F.ev rfl) (F.ev rfl) (rfl) (rfl)  (by repeat constructor)  (rfl) (by repeat constructor) ?_); clear F M; intro w M a F)
  replace M : Mem [] W w [(b8, opO none0), (b6, .cells [Value.int .u64 0, .int .i64 0, .int .i64 0].toArray 141 (0, 0)), (b4, .cells (chC old).toArray 141 (0, 0))] := M
  with_reducible refine l_nil (q_then (c_seq ?_))
  replace F := F.only [0, 2, 4, 6, 7, 8] rfl
  refine c_drawP [⟨2, 4, .cells opZ.toArray 55 (0, 0), opO none0⟩, ⟨3, 99999, .cells opZ.toArray 55 (0, 0), .cells opZ.toArray 55 (0, 0)⟩] 5 F (by kernel_rfl) (by kernel_rfl) ?_
  intro w1 hE hsz hok
  have M1 := M.later hE
  refine mK hok rfl rfl (fun a' w' F' E' => o_loadA (M1.laterOld E' (Nat.le_of_eq hsz)) (F'.ev rfl) (by repeat constructor) (by first | assumption | rfl) ⟨Ext.refl _ _, rfl⟩) ?_
  refine mK hok rfl rfl (fun a' w' F' E' => o_loadA (M1.laterOld E' (Nat.le_of_eq hsz)) (F'.ev rfl) (by repeat constructor) (by first | assumption | rfl) ⟨Ext.refl _ _, rfl⟩) ?_
  refine mAlP hok rfl rfl (by intro q hq hj; rcases List.mem_cons.1 hq with rfl | hq; { first | rfl | exact absurd hj (Nat.ne_of_beq_eq_false rfl) }; rcases List.mem_cons.1 hq with rfl | hq; { first | rfl | exact absurd hj (Nat.ne_of_beq_eq_false rfl) }; cases hq) (fun w => Ext.alloc w _) (fun a' w' F' E' => run_al) ?_
  refine mAlP hok rfl rfl (by intro q hq hj; rcases List.mem_cons.1 hq with rfl | hq; { first | rfl | exact absurd hj (Nat.ne_of_beq_eq_false rfl) }; rcases List.mem_cons.1 hq with rfl | hq; { first | rfl | exact absurd hj (Nat.ne_of_beq_eq_false rfl) }; cases hq) (fun w => Ext.alloc w _) (fun a' w' F' E' => run_al) ?_
  refine mStP ⟨2, 4, .cells opZ.toArray 55 (0, 0), opO none0⟩ hok rfl (.head _) rfl (by intro q hq hj; rcases List.mem_cons.1 hq with rfl | hq; { first | rfl | exact absurd hj (Nat.ne_of_beq_eq_false rfl) }; rcases List.mem_cons.1 hq with rfl | hq; { first | rfl | exact absurd hj (Nat.ne_of_beq_eq_false rfl) }; cases hq) (fun _ _ b' hb' h => ⟨h.os, h.tape, h.output, h.size, h.dr, fun k hk hks => h.block k hks (by simp only [List.mem_singleton]; (try dsimp only at hb'); omega)⟩) (fun a' w' b' F' E' hp hh => o_storeP hp (F'.ev rfl) n2 (op_one none0) hh (put_all (by rw [n2]; rfl))) ?_
  (refine mDone rfl rfl ?_; clear F M; intro a w F hE2 hX hTT hDD hPP; have M := M1.laterOld hE2 (Nat.le_of_eq hsz); (try dsimp only at F); obtain ⟨b9, e_b9, g_b9, q_b9⟩ := hPP ⟨2, 4, .cells opZ.toArray 55 (0, 0), opO none0⟩ (.head _); replace F := F.know (d := 9) e_b9; replace q_b9 := q_b9.trans (congrArg some (if_pos (Nat.le_of_ble_eq_true rfl))); replace M := Mem.al (pre := []) M M1 q_b9 g_b9 (by intro p hp; cases hp); obtain ⟨b10, e_b10, g_b10, q_b10⟩ := hPP ⟨3, 99999, .cells opZ.toArray 55 (0, 0), .cells opZ.toArray 55 (0, 0)⟩ (.tail _ (.head _)); replace F := F.know (d := 10) e_b10; replace q_b10 := q_b10.trans (congrArg some (if_neg (Nat.not_lt_of_le (Nat.le_of_ble_eq_true rfl)))); replace M := Mem.al (pre := [(b9, _)]) M M1 q_b10 g_b10 (by intro p hp; rcases List.mem_cons.1 hp with rfl | hp; { exact fun h => hDD 2 3 _ _ (Nat.le_of_ble_eq_true rfl) (Nat.le_of_ble_eq_true rfl) (by decide) rfl rfl rfl rfl (e_b9.trans (h.trans e_b10.symm)) }; cases hp); clear M1; clear hX; clear hE2; clear hok; clear hE; clear hTT; clear hDD; clear hPP; clear hsz; clear e_b9; clear g_b9; clear q_b9; clear e_b10; clear g_b10; clear q_b10; (try dsimp only [ptrTo] at F); (try simp only [List.cons_append, List.nil_append] at M))
  (refine stepN rfl F (o_storeA M (F.ev rfl) (F.ev rfl) (n2) (op_one none0)  (by repeat constructor)  (put_all (by rw [n2]; rfl)) (by repeat constructor) ?_); clear F M; intro w M a F)
  with_reducible refine l_nil (q_then (c_seq (c_seq (c_region ?_))))
  refine sD F (o_move (F.ev rfl) ?_); clear F a; intro a F
  refine sD F (o_lenSl (F.ev rfl) ?_); clear F a; intro a F
  refine sD F (o_move (F.ev rfl) ?_); clear F a; intro a F
  with_reducible refine l_nil (q_then (c_block ?_))
  replace F := F.only [32, 31, 30, 0, 4, 6, 7, 8, 9, 10] rfl
  refine c_loop (fun m a w => ∃ i : Nat, m = l.length - i ∧ i ≤ l.length ∧ Frm a 114 [] [(32, .int .i64 i), (31, .int .i64 l.length), (30, .slice q l.length cap), (0, .int .i64 now), (4, .pointer (some ⟨b4, 0, none⟩)), (6, .pointer (some ⟨b6, 0, none⟩)), (7, .int .i64 0), (8, .pointer (some ⟨b8, 0, none⟩)), (9, .pointer (some ⟨b9, 0, none⟩)), (10, .pointer (some ⟨b10, 0, none⟩))] ∧ Mem [] W w [(b10, opO (prvO old.nb (l.take i))), (b9, opO (bstO (l.take i))), (b8, opO none0), (b6, .cells [Value.int .u64 0, .int .i64 0, .int .i64 0].toArray 141 (0, 0)), (b4, .cells (chC old).toArray 141 (0, 0))]) l.length ⟨0, rfl, by omega, F, M.perm (by classical exact List.perm_iff_count.2 fun _ => by simp only [List.count_append, List.count_cons, List.count_nil, Nat.add_zero, Nat.zero_add] <;> ac_rfl)⟩ ?_
  clear F M
  rintro m a w ⟨i, hm', hi, F, M⟩
  by_cases hlt : i < l.length
  · obtain ⟨b, o, cs, t', fz, rfl, hb, hs⟩ := hm (by omega)
    have hxv := hx _ (List.getElem_mem hlt)
    have f1 : seg cs (o + (i : Int).toNat * 2) 2 = some (opC l[i]) := seg_el (ops_len hx) hs hlt (by omega)
    have hb1 := bstO_step hlt
    have hp1 := prvO_step (nb := old.nb) hlt
    obtain ⟨x, hx0⟩ : ∃ x, x = l[i] := ⟨_, rfl⟩
    rw [← hx0] at hxv f1 hb1 hp1
    obtain ⟨bb, hbb⟩ : ∃ bb, bb = bstO (l.take i) := ⟨_, rfl⟩
    obtain ⟨pp, hpp⟩ : ∃ pp, pp = prvO old.nb (l.take i) := ⟨_, rfl⟩
    rw [← hbb] at hb1 M
    rw [← hpp] at hp1 M
    have f2 : (opC x).length = 2 := op_len hxv
    have f3 := op_nb hxv
    have f4 := op_cost hxv
    have f5 := op_all hxv
    have f6 := op_cost (o := bb) trivial
    have hP : ∀ (x : OptV), (opC x).length = 2 := fun x => op_len (o := x) trivial
    unfold inf at hp1
    refine c_seq (c_region ?_)
    refine sD F (o_lssT (F.ev rfl) (F.ev rfl) (by omega) ?_); clear F a; intro a F
    with_reducible refine l_nil (q_then (c_seq ?_))
    refine c_true F rfl rfl ?_
    with_reducible refine c_skip (q_then (c_seq (c_block (c_seq (c_region ?_)))))
    refine sD F (o_indexSl (F.ev rfl) (F.ev rfl) (by omega) (by omega) ?_); clear F a; intro a F
    refine sD F (o_loadWA M (F.ev rfl) (by assumption) (by first | assumption | rfl) ?_); clear F a; intro a F
    (refine sD F (o_alloc M ?_); clear F M; intro b12 w M a F)
    (refine stepN rfl F (o_storeA M (F.ev rfl) (F.ev rfl) (f2) (op_one x)  (by repeat constructor)  (put_all (by rw [f2]; rfl)) (by repeat constructor) ?_); clear F M; intro w M a F)
    by_cases c1 : x.cost < bb.cost
    · rw [if_pos c1] at hb1
      with_reducible refine l_nil (q_then (c_seq (c_seq (c_region ?_))))
      refine sD F (o_fieldAddr (F.ev rfl) ?_); clear F a; intro a F
      refine sD F (o_load1 M (F.ev rfl) (by repeat constructor) (by first | assumption | rfl) ?_); clear F a; intro a F
      refine sD F (o_fieldAddr (F.ev rfl) ?_); clear F a; intro a F
      refine sD F (o_load1 M (F.ev rfl) (by repeat constructor) (by first | assumption | rfl) ?_); clear F a; intro a F
      refine sD F (o_lssT (F.ev rfl) (F.ev rfl) (by omega) ?_); clear F a; intro a F
      with_reducible refine l_nil (q_then ?_)
      refine c_true F rfl rfl ?_
      refine c_region ?_
      refine sD F (o_loadA M (F.ev rfl) (by repeat constructor) (by first | assumption | rfl) ?_); clear F a; intro a F
      (refine stepN rfl F (o_storeA M (F.ev rfl) (F.ev rfl) (f2) (op_one x)  (by repeat constructor)  (put_all (by simp only [hP])) (by repeat constructor) ?_); clear F M; intro w M a F)
      by_cases c2 : x.cost < 65535
      · by_cases c3 : x.nb = old.nb
        · rw [if_pos ⟨c2, c3⟩] at hp1
          with_reducible refine l_nil (q_then (c_seq (c_region ?_)))
          refine sD F (o_fieldAddr (F.ev rfl) ?_); clear F a; intro a F
          refine sD F (o_load1 M (F.ev rfl) (by repeat constructor) (by first | assumption | rfl) ?_); clear F a; intro a F
          refine sD F (o_lssT (F.ev rfl) (F.ev rfl) (by omega) ?_); clear F a; intro a F
          refine sD F (o_move (F.ev rfl) ?_); clear F a; intro a F
          refine sG F (o_fieldAddr (F.ev rfl) ?_); clear F a; intro a F
          refine sG F (o_load1 M (F.ev rfl) (by repeat constructor) (by first | assumption | rfl) ?_); clear F a; intro a F
          refine sG F (o_fieldAddr (F.ev rfl) ?_); clear F a; intro a F
          refine sG F (o_load1 M (F.ev rfl) (by repeat constructor) (by first | assumption | rfl) ?_); clear F a; intro a F
          refine sG F (o_eqlT (F.ev rfl) (F.ev rfl) (by omega) ?_); clear F a; intro a F
          refine sD F (o_pickT (F.ev rfl) (F.ev rfl) ?_); clear F a; intro a F
          with_reducible refine l_nil (q_then ?_)
          refine c_true F rfl rfl ?_
          refine c_region ?_
          refine sD F (o_loadA M (F.ev rfl) (by repeat constructor) (by first | assumption | rfl) ?_); clear F a; intro a F
          (refine stepN rfl F (o_storeA M (F.ev rfl) (F.ev rfl) (f2) (op_one x)  (by repeat constructor)  (put_all (by simp only [hP])) (by repeat constructor) ?_); clear F M; intro w M a F)
          with_reducible refine l_nil (q_inB (q_then (c_region ?_)))
          refine sD F (o_add (F.ev rfl) (F.ev rfl) (w_i64 (by omega) (by omega)) ?_); clear F a; intro a F
          refine sD F (o_move (F.ev rfl) ?_); clear F a; intro a F
          with_reducible refine l_nil (q_then ?_)
          exact ⟨_, by omega, i + 1, rfl, by omega, F.only [32, 31, 30, 0, 4, 6, 7, 8, 9, 10] rfl, by rw [hb1, hp1]; exact M.sub (List.sublist_cons_self _ _)⟩
        · rw [if_neg (fun h => c3 h.2)] at hp1
          with_reducible refine l_nil (q_then (c_seq (c_region ?_)))
          refine sD F (o_fieldAddr (F.ev rfl) ?_); clear F a; intro a F
          refine sD F (o_load1 M (F.ev rfl) (by repeat constructor) (by first | assumption | rfl) ?_); clear F a; intro a F
          refine sD F (o_lssT (F.ev rfl) (F.ev rfl) (by omega) ?_); clear F a; intro a F
          refine sD F (o_move (F.ev rfl) ?_); clear F a; intro a F
          refine sG F (o_fieldAddr (F.ev rfl) ?_); clear F a; intro a F
          refine sG F (o_load1 M (F.ev rfl) (by repeat constructor) (by first | assumption | rfl) ?_); clear F a; intro a F
          refine sG F (o_fieldAddr (F.ev rfl) ?_); clear F a; intro a F
          refine sG F (o_load1 M (F.ev rfl) (by repeat constructor) (by first | assumption | rfl) ?_); clear F a; intro a F
          refine sG F (o_eqlF (F.ev rfl) (F.ev rfl) (by omega) ?_); clear F a; intro a F
          refine sD F (o_pickT (F.ev rfl) (F.ev rfl) ?_); clear F a; intro a F
          with_reducible refine l_nil (q_then ?_)
          refine c_false F rfl rfl ?_
          with_reducible refine c_skip (q_inB (q_then (c_region ?_)))
          refine sD F (o_add (F.ev rfl) (F.ev rfl) (w_i64 (by omega) (by omega)) ?_); clear F a; intro a F
          refine sD F (o_move (F.ev rfl) ?_); clear F a; intro a F
          with_reducible refine l_nil (q_then ?_)
          exact ⟨_, by omega, i + 1, rfl, by omega, F.only [32, 31, 30, 0, 4, 6, 7, 8, 9, 10] rfl, by rw [hb1, hp1]; exact M.sub (List.sublist_cons_self _ _)⟩
      · rw [if_neg (fun h => c2 h.1)] at hp1
        with_reducible refine l_nil (q_then (c_seq (c_region ?_)))
        refine sD F (o_fieldAddr (F.ev rfl) ?_); clear F a; intro a F
        refine sD F (o_load1 M (F.ev rfl) (by repeat constructor) (by first | assumption | rfl) ?_); clear F a; intro a F
        refine sD F (o_lssF (F.ev rfl) (F.ev rfl) (by omega) ?_); clear F a; intro a F
        refine sD F (o_move (F.ev rfl) ?_); clear F a; intro a F
        refine sO F ?_; clear F a; intro a F
        refine sO F ?_; clear F a; intro a F
        refine sO F ?_; clear F a; intro a F
        refine sO F ?_; clear F a; intro a F
        refine sO F ?_; clear F a; intro a F
        refine sD F (o_pickF (F.ev rfl) (F.ev rfl) ?_); clear F a; intro a F
        with_reducible refine l_nil (q_then ?_)
        refine c_false F rfl rfl ?_
        with_reducible refine c_skip (q_inB (q_then (c_region ?_)))
        refine sD F (o_add (F.ev rfl) (F.ev rfl) (w_i64 (by omega) (by omega)) ?_); clear F a; intro a F
        refine sD F (o_move (F.ev rfl) ?_); clear F a; intro a F
        with_reducible refine l_nil (q_then ?_)
        exact ⟨_, by omega, i + 1, rfl, by omega, F.only [32, 31, 30, 0, 4, 6, 7, 8, 9, 10] rfl, by rw [hb1, hp1]; exact M.sub (List.sublist_cons_self _ _)⟩
    · rw [if_neg c1] at hb1
      by_cases c2 : x.cost < 65535
      · by_cases c3 : x.nb = old.nb
        · rw [if_pos ⟨c2, c3⟩] at hp1
          with_reducible refine l_nil (q_then (c_seq (c_seq (c_region ?_))))
          refine sD F (o_fieldAddr (F.ev rfl) ?_); clear F a; intro a F
          refine sD F (o_load1 M (F.ev rfl) (by repeat constructor) (by first | assumption | rfl) ?_); clear F a; intro a F
          refine sD F (o_fieldAddr (F.ev rfl) ?_); clear F a; intro a F
          refine sD F (o_load1 M (F.ev rfl) (by repeat constructor) (by first | assumption | rfl) ?_); clear F a; intro a F
          refine sD F (o_lssF (F.ev rfl) (F.ev rfl) (by omega) ?_); clear F a; intro a F
          with_reducible refine l_nil (q_then ?_)
          refine c_false F rfl rfl ?_
          with_reducible refine c_skip (q_then (c_seq (c_region ?_)))
          refine sD F (o_fieldAddr (F.ev rfl) ?_); clear F a; intro a F
          refine sD F (o_load1 M (F.ev rfl) (by repeat constructor) (by first | assumption | rfl) ?_); clear F a; intro a F
          refine sD F (o_lssT (F.ev rfl) (F.ev rfl) (by omega) ?_); clear F a; intro a F
          refine sD F (o_move (F.ev rfl) ?_); clear F a; intro a F
          refine sG F (o_fieldAddr (F.ev rfl) ?_); clear F a; intro a F
          refine sG F (o_load1 M (F.ev rfl) (by repeat constructor) (by first | assumption | rfl) ?_); clear F a; intro a F
          refine sG F (o_fieldAddr (F.ev rfl) ?_); clear F a; intro a F
          refine sG F (o_load1 M (F.ev rfl) (by repeat constructor) (by first | assumption | rfl) ?_); clear F a; intro a F
          refine sG F (o_eqlT (F.ev rfl) (F.ev rfl) (by omega) ?_); clear F a; intro a F
          refine sD F (o_pickT (F.ev rfl) (F.ev rfl) ?_); clear F a; intro a F
          with_reducible refine l_nil (q_then ?_)
          refine c_true F rfl rfl ?_
          refine c_region ?_
          refine sD F (o_loadA M (F.ev rfl) (by repeat constructor) (by first | assumption | rfl) ?_); clear F a; intro a F
          (refine stepN rfl F (o_storeA M (F.ev rfl) (F.ev rfl) (f2) (op_one x)  (by repeat constructor)  (put_all (by simp only [hP])) (by repeat constructor) ?_); clear F M; intro w M a F)
          with_reducible refine l_nil (q_inB (q_then (c_region ?_)))
          refine sD F (o_add (F.ev rfl) (F.ev rfl) (w_i64 (by omega) (by omega)) ?_); clear F a; intro a F
          refine sD F (o_move (F.ev rfl) ?_); clear F a; intro a F
          with_reducible refine l_nil (q_then ?_)
          exact ⟨_, by omega, i + 1, rfl, by omega, F.only [32, 31, 30, 0, 4, 6, 7, 8, 9, 10] rfl, by rw [hb1, hp1]; exact M.sub (List.sublist_cons_self _ _)⟩
        · rw [if_neg (fun h => c3 h.2)] at hp1
          with_reducible refine l_nil (q_then (c_seq (c_seq (c_region ?_))))
          refine sD F (o_fieldAddr (F.ev rfl) ?_); clear F a; intro a F
          refine sD F (o_load1 M (F.ev rfl) (by repeat constructor) (by first | assumption | rfl) ?_); clear F a; intro a F
          refine sD F (o_fieldAddr (F.ev rfl) ?_); clear F a; intro a F
          refine sD F (o_load1 M (F.ev rfl) (by repeat constructor) (by first | assumption | rfl) ?_); clear F a; intro a F
          refine sD F (o_lssF (F.ev rfl) (F.ev rfl) (by omega) ?_); clear F a; intro a F
          with_reducible refine l_nil (q_then ?_)
          refine c_false F rfl rfl ?_
          with_reducible refine c_skip (q_then (c_seq (c_region ?_)))
          refine sD F (o_fieldAddr (F.ev rfl) ?_); clear F a; intro a F
          refine sD F (o_load1 M (F.ev rfl) (by repeat constructor) (by first | assumption | rfl) ?_); clear F a; intro a F
          refine sD F (o_lssT (F.ev rfl) (F.ev rfl) (by omega) ?_); clear F a; intro a F
          refine sD F (o_move (F.ev rfl) ?_); clear F a; intro a F
          refine sG F (o_fieldAddr (F.ev rfl) ?_); clear F a; intro a F
          refine sG F (o_load1 M (F.ev rfl) (by repeat constructor) (by first | assumption | rfl) ?_); clear F a; intro a F
          refine sG F (o_fieldAddr (F.ev rfl) ?_); clear F a; intro a F
          refine sG F (o_load1 M (F.ev rfl) (by repeat constructor) (by first | assumption | rfl) ?_); clear F a; intro a F
          refine sG F (o_eqlF (F.ev rfl) (F.ev rfl) (by omega) ?_); clear F a; intro a F
          refine sD F (o_pickT (F.ev rfl) (F.ev rfl) ?_); clear F a; intro a F
          with_reducible refine l_nil (q_then ?_)
          refine c_false F rfl rfl ?_
          with_reducible refine c_skip (q_inB (q_then (c_region ?_)))
          refine sD F (o_add (F.ev rfl) (F.ev rfl) (w_i64 (by omega) (by omega)) ?_); clear F a; intro a F
          refine sD F (o_move (F.ev rfl) ?_); clear F a; intro a F
          with_reducible refine l_nil (q_then ?_)
          exact ⟨_, by omega, i + 1, rfl, by omega, F.only [32, 31, 30, 0, 4, 6, 7, 8, 9, 10] rfl, by rw [hb1, hp1]; exact M.sub (List.sublist_cons_self _ _)⟩
      · rw [if_neg (fun h => c2 h.1)] at hp1
        with_reducible refine l_nil (q_then (c_seq (c_seq (c_region ?_))))
        refine sD F (o_fieldAddr (F.ev rfl) ?_); clear F a; intro a F
        refine sD F (o_load1 M (F.ev rfl) (by repeat constructor) (by first | assumption | rfl) ?_); clear F a; intro a F
        refine sD F (o_fieldAddr (F.ev rfl) ?_); clear F a; intro a F
        refine sD F (o_load1 M (F.ev rfl) (by repeat constructor) (by first | assumption | rfl) ?_); clear F a; intro a F
        refine sD F (o_lssF (F.ev rfl) (F.ev rfl) (by omega) ?_); clear F a; intro a F
        with_reducible refine l_nil (q_then ?_)
        refine c_false F rfl rfl ?_
        with_reducible refine c_skip (q_then (c_seq (c_region ?_)))
        refine sD F (o_fieldAddr (F.ev rfl) ?_); clear F a; intro a F
        refine sD F (o_load1 M (F.ev rfl) (by repeat constructor) (by first | assumption | rfl) ?_); clear F a; intro a F
        refine sD F (o_lssF (F.ev rfl) (F.ev rfl) (by omega) ?_); clear F a; intro a F
        refine sD F (o_move (F.ev rfl) ?_); clear F a; intro a F
        refine sO F ?_; clear F a; intro a F
        refine sO F ?_; clear F a; intro a F
        refine sO F ?_; clear F a; intro a F
        refine sO F ?_; clear F a; intro a F
        refine sO F ?_; clear F a; intro a F
        refine sD F (o_pickF (F.ev rfl) (F.ev rfl) ?_); clear F a; intro a F
        with_reducible refine l_nil (q_then ?_)
        refine c_false F rfl rfl ?_
        with_reducible refine c_skip (q_inB (q_then (c_region ?_)))
        refine sD F (o_add (F.ev rfl) (F.ev rfl) (w_i64 (by omega) (by omega)) ?_); clear F a; intro a F
        refine sD F (o_move (F.ev rfl) ?_); clear F a; intro a F
        with_reducible refine l_nil (q_then ?_)
        exact ⟨_, by omega, i + 1, rfl, by omega, F.only [32, 31, 30, 0, 4, 6, 7, 8, 9, 10] rfl, by rw [hb1, hp1]; exact M.sub (List.sublist_cons_self _ _)⟩
  · obtain rfl : i = l.length := by omega
    rw [List.take_length] at M
    obtain ⟨bb, hbb⟩ : ∃ bb, bb = bstO l := ⟨_, rfl⟩
    obtain ⟨pp, hpp⟩ : ∃ pp, pp = prvO old.nb l := ⟨_, rfl⟩
    have hbp : validM bb.cost = true ∧ validM pp.cost = true := by
      rw [hbb, hpp]
      exact ⟨bstO_valid fun o ho => by have := hopt o ho; simp only [opt1, Bool.and_eq_true] at this; exact this.2, prvO_valid fun o ho => by have := hopt o ho; simp only [opt1, Bool.and_eq_true] at this; exact this.2⟩
    simp only [validM, Bool.and_eq_true, decide_eq_true_eq] at hbp
    rw [← hbb, ← hpp] at M ⊢
    have e1 := op_all (o := bb) trivial
    have e2 := op_all (o := pp) trivial
    have e3 := op_cost (o := bb) trivial
    have e4 := op_cost (o := pp) trivial
    have e5 := op_fits (o := pp) trivial
    have e6 := op_fits (o := none0) trivial
    have e7 := op_eq (a := pp) (b := none0) trivial trivial
    have hbt := hold
    simp only [validCh, isTime, Bool.and_eq_true, Bool.or_eq_true, decide_eq_true_eq] at hbt
    have hnw := hnow
    simp only [isTime, Bool.and_eq_true, decide_eq_true_eq] at hnw
    refine c_seq (c_region ?_)
    refine sD F (o_lssF (F.ev rfl) (F.ev rfl) (by omega) ?_); clear F a; intro a F
    with_reducible refine l_nil (q_then (c_seq ?_))
    refine c_false F rfl rfl ?_
    with_reducible refine c_exit (q_thenX (q_thenX (q_inBX (q_then (c_seq (c_region ?_))))))
    refine sD F (o_assign (F.ev rfl) ?_); clear F a; intro a F
    with_reducible refine l_nil (q_then (c_seq (c_block (c_seq (c_region ?_)))))
    refine sD F (o_loadA M (F.ev rfl) (by repeat constructor) (by first | assumption | rfl) ?_); clear F a; intro a F
    refine sD F (o_loadA M (F.ev rfl) (by repeat constructor) (by first | assumption | rfl) ?_); clear F a; intro a F
    refine sD F (o_eqlA (F.ev rfl) (F.ev rfl) (by first | assumption | rfl) (by first | assumption | rfl) ?_); clear F a; intro a F
    refine sD F (o_assign (F.ev rfl) ?_); clear F a; intro a F
    with_reducible refine l_nil (q_then ?_)
    by_cases c1 : pp = none0
    · rw [e7, decide_eq_true c1] at F
      have hch : choB now old bb pp = ⟨bb.nb, bb.cost, (-1)⟩ := by unfold choB; rw [if_pos c1]
      rw [hch]
      refine c_true F rfl rfl ?_
      refine c_seq (c_region ?_)
      refine sD F (o_move (F.ev rfl) ?_); clear F a; intro a F
      refine sD F (o_loadA M (F.ev rfl) (by repeat constructor) (by first | assumption | rfl) ?_); clear F a; intro a F
      (refine sD F (o_call (F.ev rfl) (F.evs rfl) (Cal.mono (choose1_c bb (-1) _) ?_)); clear F; clear a; rintro _ w ⟨rfl, hE⟩ a F; replace M := M.later hE; clear hE)
      refine sD F (o_extract (F.ev rfl) rfl ?_); clear F a; intro a F
      refine sD F (o_extract (F.ev rfl) rfl ?_); clear F a; intro a F
      (refine stepN rfl F (o_storeA M (F.ev rfl) (F.ev rfl) (ch_len (o := ⟨bb.nb, bb.cost, (-1)⟩) trivial) (ch_one ⟨bb.nb, bb.cost, (-1)⟩)  (by repeat constructor)  (put_all (by rw [ch_len (o := ⟨bb.nb, bb.cost, (-1)⟩) trivial]; rfl)) (by repeat constructor) ?_); clear F M; intro w M a F)
      refine sD F (o_assign (F.ev rfl) ?_); clear F a; intro a F
      with_reducible refine l_nil (q_then (c_ret (q_inBR (q_thenR ?_))))
      exact p_ret F rfl (.cons (.cell (F.ev rfl) (run_loadVar_agg TAgg.h (M.heap (by repeat constructor)) (ch_all (o := ⟨bb.nb, bb.cost, (-1)⟩) trivial))) (.cons (.tmp (F.ev rfl)) .nil)) ⟨rfl, M.ext⟩
    rw [e7, decide_eq_false c1] at F
    by_cases c2 : bb.cost = pp.cost
    · have hch : choB now old bb pp = ⟨pp.nb, pp.cost, (-1)⟩ := by unfold choB; rw [if_neg c1, if_pos c2]
      rw [hch]
      refine c_false F rfl rfl ?_
      refine c_seq (c_region ?_)
      refine sD F (o_fieldAddr (F.ev rfl) ?_); clear F a; intro a F
      refine sD F (o_load1 M (F.ev rfl) (by repeat constructor) (by first | assumption | rfl) ?_); clear F a; intro a F
      refine sD F (o_fieldAddr (F.ev rfl) ?_); clear F a; intro a F
      refine sD F (o_load1 M (F.ev rfl) (by repeat constructor) (by first | assumption | rfl) ?_); clear F a; intro a F
      refine sD F (o_eqlT (F.ev rfl) (F.ev rfl) (by omega) ?_); clear F a; intro a F
      refine sD F (o_assign (F.ev rfl) ?_); clear F a; intro a F
      with_reducible refine l_nil (q_then ?_)
      refine c_true F rfl rfl ?_
      refine c_seq (c_region ?_)
      refine sD F (o_move (F.ev rfl) ?_); clear F a; intro a F
      refine sD F (o_loadA M (F.ev rfl) (by repeat constructor) (by first | assumption | rfl) ?_); clear F a; intro a F
      (refine sD F (o_call (F.ev rfl) (F.evs rfl) (Cal.mono (choose1_c pp (-1) _) ?_)); clear F; clear a; rintro _ w ⟨rfl, hE⟩ a F; replace M := M.later hE; clear hE)
      refine sD F (o_extract (F.ev rfl) rfl ?_); clear F a; intro a F
      refine sD F (o_extract (F.ev rfl) rfl ?_); clear F a; intro a F
      (refine stepN rfl F (o_storeA M (F.ev rfl) (F.ev rfl) (ch_len (o := ⟨pp.nb, pp.cost, (-1)⟩) trivial) (ch_one ⟨pp.nb, pp.cost, (-1)⟩)  (by repeat constructor)  (put_all (by rw [ch_len (o := ⟨pp.nb, pp.cost, (-1)⟩) trivial]; rfl)) (by repeat constructor) ?_); clear F M; intro w M a F)
      refine sD F (o_assign (F.ev rfl) ?_); clear F a; intro a F
      with_reducible refine l_nil (q_then (c_ret (q_inBR (q_thenR ?_))))
      exact p_ret F rfl (.cons (.cell (F.ev rfl) (run_loadVar_agg TAgg.h (M.heap (by repeat constructor)) (ch_all (o := ⟨pp.nb, pp.cost, (-1)⟩) trivial))) (.cons (.tmp (F.ev rfl)) .nil)) ⟨rfl, M.ext⟩
    by_cases c3 : 256 ≤ pp.cost - bb.cost
    · have hch : choB now old bb pp = ⟨bb.nb, bb.cost, (-1)⟩ := by unfold choB; rw [if_neg c1, if_neg c2, if_pos c3]
      rw [hch]
      refine c_false F rfl rfl ?_
      refine c_seq (c_region ?_)
      refine sD F (o_fieldAddr (F.ev rfl) ?_); clear F a; intro a F
      refine sD F (o_load1 M (F.ev rfl) (by repeat constructor) (by first | assumption | rfl) ?_); clear F a; intro a F
      refine sD F (o_fieldAddr (F.ev rfl) ?_); clear F a; intro a F
      refine sD F (o_load1 M (F.ev rfl) (by repeat constructor) (by first | assumption | rfl) ?_); clear F a; intro a F
      refine sD F (o_eqlF (F.ev rfl) (F.ev rfl) (by omega) ?_); clear F a; intro a F
      refine sD F (o_assign (F.ev rfl) ?_); clear F a; intro a F
      with_reducible refine l_nil (q_then ?_)
      refine c_false F rfl rfl ?_
      refine c_seq (c_region ?_)
      refine sD F (o_fieldAddr (F.ev rfl) ?_); clear F a; intro a F
      refine sD F (o_load1 M (F.ev rfl) (by repeat constructor) (by first | assumption | rfl) ?_); clear F a; intro a F
      refine sD F (o_fieldAddr (F.ev rfl) ?_); clear F a; intro a F
      refine sD F (o_load1 M (F.ev rfl) (by repeat constructor) (by first | assumption | rfl) ?_); clear F a; intro a F
      refine sD F (o_sub (F.ev rfl) (F.ev rfl) (w_i64 (by omega) (by omega)) ?_); clear F a; intro a F
      refine sD F (o_geqT (F.ev rfl) (F.ev rfl) (by omega) ?_); clear F a; intro a F
      refine sD F (o_assign (F.ev rfl) ?_); clear F a; intro a F
      with_reducible refine l_nil (q_then ?_)
      refine c_true F rfl rfl ?_
      refine c_seq (c_region ?_)
      refine sD F (o_move (F.ev rfl) ?_); clear F a; intro a F
      refine sD F (o_loadA M (F.ev rfl) (by repeat constructor) (by first | assumption | rfl) ?_); clear F a; intro a F
      (refine sD F (o_call (F.ev rfl) (F.evs rfl) (Cal.mono (choose1_c bb (-1) _) ?_)); clear F; clear a; rintro _ w ⟨rfl, hE⟩ a F; replace M := M.later hE; clear hE)
      refine sD F (o_extract (F.ev rfl) rfl ?_); clear F a; intro a F
      refine sD F (o_extract (F.ev rfl) rfl ?_); clear F a; intro a F
      (refine stepN rfl F (o_storeA M (F.ev rfl) (F.ev rfl) (ch_len (o := ⟨bb.nb, bb.cost, (-1)⟩) trivial) (ch_one ⟨bb.nb, bb.cost, (-1)⟩)  (by repeat constructor)  (put_all (by rw [ch_len (o := ⟨bb.nb, bb.cost, (-1)⟩) trivial]; rfl)) (by repeat constructor) ?_); clear F M; intro w M a F)
      refine sD F (o_assign (F.ev rfl) ?_); clear F a; intro a F
      with_reducible refine l_nil (q_then (c_ret (q_inBR (q_thenR ?_))))
      exact p_ret F rfl (.cons (.cell (F.ev rfl) (run_loadVar_agg TAgg.h (M.heap (by repeat constructor)) (ch_all (o := ⟨bb.nb, bb.cost, (-1)⟩) trivial))) (.cons (.tmp (F.ev rfl)) .nil)) ⟨rfl, M.ext⟩
    by_cases c4 : old.btn = -1
    · have hch : choB now old bb pp = ⟨pp.nb, pp.cost, now⟩ := by unfold choB; rw [if_neg c1, if_neg c2, if_neg c3, if_pos c4]
      rw [hch]
      refine c_false F rfl rfl ?_
      refine c_seq (c_region ?_)
      refine sD F (o_fieldAddr (F.ev rfl) ?_); clear F a; intro a F
      refine sD F (o_load1 M (F.ev rfl) (by repeat constructor) (by first | assumption | rfl) ?_); clear F a; intro a F
      refine sD F (o_fieldAddr (F.ev rfl) ?_); clear F a; intro a F
      refine sD F (o_load1 M (F.ev rfl) (by repeat constructor) (by first | assumption | rfl) ?_); clear F a; intro a F
      refine sD F (o_eqlF (F.ev rfl) (F.ev rfl) (by omega) ?_); clear F a; intro a F
      refine sD F (o_assign (F.ev rfl) ?_); clear F a; intro a F
      with_reducible refine l_nil (q_then ?_)
      refine c_false F rfl rfl ?_
      refine c_seq (c_region ?_)
      refine sD F (o_fieldAddr (F.ev rfl) ?_); clear F a; intro a F
      refine sD F (o_load1 M (F.ev rfl) (by repeat constructor) (by first | assumption | rfl) ?_); clear F a; intro a F
      refine sD F (o_fieldAddr (F.ev rfl) ?_); clear F a; intro a F
      refine sD F (o_load1 M (F.ev rfl) (by repeat constructor) (by first | assumption | rfl) ?_); clear F a; intro a F
      refine sD F (o_sub (F.ev rfl) (F.ev rfl) (w_i64 (by omega) (by omega)) ?_); clear F a; intro a F
      refine sD F (o_geqF (F.ev rfl) (F.ev rfl) (by omega) ?_); clear F a; intro a F
      refine sD F (o_assign (F.ev rfl) ?_); clear F a; intro a F
      with_reducible refine l_nil (q_then ?_)
      refine c_false F rfl rfl ?_
      refine c_seq (c_region ?_)
      refine sD F (o_fieldAddr (F.ev rfl) ?_); clear F a; intro a F
      refine sD F (o_load1 M (F.ev rfl) (by repeat constructor) (by first | assumption | rfl) ?_); clear F a; intro a F
      refine sD F (o_eqlT (F.ev rfl) (F.ev rfl) (by omega) ?_); clear F a; intro a F
      refine sD F (o_assign (F.ev rfl) ?_); clear F a; intro a F
      with_reducible refine l_nil (q_then ?_)
      refine c_true F rfl rfl ?_
      refine c_seq (c_region ?_)
      refine sD F (o_move (F.ev rfl) ?_); clear F a; intro a F
      refine sD F (o_loadA M (F.ev rfl) (by repeat constructor) (by first | assumption | rfl) ?_); clear F a; intro a F
      refine sD F (o_move (F.ev rfl) ?_); clear F a; intro a F
      (refine sD F (o_call (F.ev rfl) (F.evs rfl) (Cal.mono (choose1_c pp now _) ?_)); clear F; clear a; rintro _ w ⟨rfl, hE⟩ a F; replace M := M.later hE; clear hE)
      refine sD F (o_extract (F.ev rfl) rfl ?_); clear F a; intro a F
      refine sD F (o_extract (F.ev rfl) rfl ?_); clear F a; intro a F
      (refine stepN rfl F (o_storeA M (F.ev rfl) (F.ev rfl) (ch_len (o := ⟨pp.nb, pp.cost, now⟩) trivial) (ch_one ⟨pp.nb, pp.cost, now⟩)  (by repeat constructor)  (put_all (by rw [ch_len (o := ⟨pp.nb, pp.cost, now⟩) trivial]; rfl)) (by repeat constructor) ?_); clear F M; intro w M a F)
      refine sD F (o_assign (F.ev rfl) ?_); clear F a; intro a F
      with_reducible refine l_nil (q_then (c_ret (q_inBR (q_thenR ?_))))
      exact p_ret F rfl (.cons (.cell (F.ev rfl) (run_loadVar_agg TAgg.h (M.heap (by repeat constructor)) (ch_all (o := ⟨pp.nb, pp.cost, now⟩) trivial))) (.cons (.tmp (F.ev rfl)) .nil)) ⟨rfl, M.ext⟩
    by_cases c5 : old.btn + 6 ≤ now
    · have hch : choB now old bb pp = ⟨bb.nb, bb.cost, (-1)⟩ := by unfold choB; rw [if_neg c1, if_neg c2, if_neg c3, if_neg c4, if_pos c5]
      rw [hch]
      refine c_false F rfl rfl ?_
      refine c_seq (c_region ?_)
      refine sD F (o_fieldAddr (F.ev rfl) ?_); clear F a; intro a F
      refine sD F (o_load1 M (F.ev rfl) (by repeat constructor) (by first | assumption | rfl) ?_); clear F a; intro a F
      refine sD F (o_fieldAddr (F.ev rfl) ?_); clear F a; intro a F
      refine sD F (o_load1 M (F.ev rfl) (by repeat constructor) (by first | assumption | rfl) ?_); clear F a; intro a F
      refine sD F (o_eqlF (F.ev rfl) (F.ev rfl) (by omega) ?_); clear F a; intro a F
      refine sD F (o_assign (F.ev rfl) ?_); clear F a; intro a F
      with_reducible refine l_nil (q_then ?_)
      refine c_false F rfl rfl ?_
      refine c_seq (c_region ?_)
      refine sD F (o_fieldAddr (F.ev rfl) ?_); clear F a; intro a F
      refine sD F (o_load1 M (F.ev rfl) (by repeat constructor) (by first | assumption | rfl) ?_); clear F a; intro a F
      refine sD F (o_fieldAddr (F.ev rfl) ?_); clear F a; intro a F
      refine sD F (o_load1 M (F.ev rfl) (by repeat constructor) (by first | assumption | rfl) ?_); clear F a; intro a F
      refine sD F (o_sub (F.ev rfl) (F.ev rfl) (w_i64 (by omega) (by omega)) ?_); clear F a; intro a F
      refine sD F (o_geqF (F.ev rfl) (F.ev rfl) (by omega) ?_); clear F a; intro a F
      refine sD F (o_assign (F.ev rfl) ?_); clear F a; intro a F
      with_reducible refine l_nil (q_then ?_)
      refine c_false F rfl rfl ?_
      refine c_seq (c_region ?_)
      refine sD F (o_fieldAddr (F.ev rfl) ?_); clear F a; intro a F
      refine sD F (o_load1 M (F.ev rfl) (by repeat constructor) (by first | assumption | rfl) ?_); clear F a; intro a F
      refine sD F (o_eqlF (F.ev rfl) (F.ev rfl) (by omega) ?_); clear F a; intro a F
      refine sD F (o_assign (F.ev rfl) ?_); clear F a; intro a F
      with_reducible refine l_nil (q_then ?_)
      refine c_false F rfl rfl ?_
      refine c_seq (c_region ?_)
      refine sD F (o_move (F.ev rfl) ?_); clear F a; intro a F
      refine sD F (o_fieldAddr (F.ev rfl) ?_); clear F a; intro a F
      refine sD F (o_load1 M (F.ev rfl) (by repeat constructor) (by first | assumption | rfl) ?_); clear F a; intro a F
      refine sD F (o_add (F.ev rfl) (F.ev rfl) (w_i64 (by omega) (by omega)) ?_); clear F a; intro a F
      refine sD F (o_geqT (F.ev rfl) (F.ev rfl) (by omega) ?_); clear F a; intro a F
      refine sD F (o_assign (F.ev rfl) ?_); clear F a; intro a F
      with_reducible refine l_nil (q_then ?_)
      refine c_true F rfl rfl ?_
      refine c_seq (c_region ?_)
      refine sD F (o_move (F.ev rfl) ?_); clear F a; intro a F
      refine sD F (o_loadA M (F.ev rfl) (by repeat constructor) (by first | assumption | rfl) ?_); clear F a; intro a F
      (refine sD F (o_call (F.ev rfl) (F.evs rfl) (Cal.mono (choose1_c bb (-1) _) ?_)); clear F; clear a; rintro _ w ⟨rfl, hE⟩ a F; replace M := M.later hE; clear hE)
      refine sD F (o_extract (F.ev rfl) rfl ?_); clear F a; intro a F
      refine sD F (o_extract (F.ev rfl) rfl ?_); clear F a; intro a F
      (refine stepN rfl F (o_storeA M (F.ev rfl) (F.ev rfl) (ch_len (o := ⟨bb.nb, bb.cost, (-1)⟩) trivial) (ch_one ⟨bb.nb, bb.cost, (-1)⟩)  (by repeat constructor)  (put_all (by rw [ch_len (o := ⟨bb.nb, bb.cost, (-1)⟩) trivial]; rfl)) (by repeat constructor) ?_); clear F M; intro w M a F)
      refine sD F (o_assign (F.ev rfl) ?_); clear F a; intro a F
      with_reducible refine l_nil (q_then (c_ret (q_inBR (q_thenR ?_))))
      exact p_ret F rfl (.cons (.cell (F.ev rfl) (run_loadVar_agg TAgg.h (M.heap (by repeat constructor)) (ch_all (o := ⟨bb.nb, bb.cost, (-1)⟩) trivial))) (.cons (.tmp (F.ev rfl)) .nil)) ⟨rfl, M.ext⟩
    have hch : choB now old bb pp = ⟨pp.nb, pp.cost, old.btn⟩ := by unfold choB; rw [if_neg c1, if_neg c2, if_neg c3, if_neg c4, if_neg c5]
    rw [hch]
    refine c_false F rfl rfl ?_
    refine c_seq (c_region ?_)
    refine sD F (o_fieldAddr (F.ev rfl) ?_); clear F a; intro a F
    refine sD F (o_load1 M (F.ev rfl) (by repeat constructor) (by first | assumption | rfl) ?_); clear F a; intro a F
    refine sD F (o_fieldAddr (F.ev rfl) ?_); clear F a; intro a F
    refine sD F (o_load1 M (F.ev rfl) (by repeat constructor) (by first | assumption | rfl) ?_); clear F a; intro a F
    refine sD F (o_eqlF (F.ev rfl) (F.ev rfl) (by omega) ?_); clear F a; intro a F
    refine sD F (o_assign (F.ev rfl) ?_); clear F a; intro a F
    with_reducible refine l_nil (q_then ?_)
    refine c_false F rfl rfl ?_
    refine c_seq (c_region ?_)
    refine sD F (o_fieldAddr (F.ev rfl) ?_); clear F a; intro a F
    refine sD F (o_load1 M (F.ev rfl) (by repeat constructor) (by first | assumption | rfl) ?_); clear F a; intro a F
    refine sD F (o_fieldAddr (F.ev rfl) ?_); clear F a; intro a F
    refine sD F (o_load1 M (F.ev rfl) (by repeat constructor) (by first | assumption | rfl) ?_); clear F a; intro a F
    refine sD F (o_sub (F.ev rfl) (F.ev rfl) (w_i64 (by omega) (by omega)) ?_); clear F a; intro a F
    refine sD F (o_geqF (F.ev rfl) (F.ev rfl) (by omega) ?_); clear F a; intro a F
    refine sD F (o_assign (F.ev rfl) ?_); clear F a; intro a F
    with_reducible refine l_nil (q_then ?_)
    refine c_false F rfl rfl ?_
    refine c_seq (c_region ?_)
    refine sD F (o_fieldAddr (F.ev rfl) ?_); clear F a; intro a F
    refine sD F (o_load1 M (F.ev rfl) (by repeat constructor) (by first | assumption | rfl) ?_); clear F a; intro a F
    refine sD F (o_eqlF (F.ev rfl) (F.ev rfl) (by omega) ?_); clear F a; intro a F
    refine sD F (o_assign (F.ev rfl) ?_); clear F a; intro a F
    with_reducible refine l_nil (q_then ?_)
    refine c_false F rfl rfl ?_
    refine c_seq (c_region ?_)
    refine sD F (o_move (F.ev rfl) ?_); clear F a; intro a F
    refine sD F (o_fieldAddr (F.ev rfl) ?_); clear F a; intro a F
    refine sD F (o_load1 M (F.ev rfl) (by repeat constructor) (by first | assumption | rfl) ?_); clear F a; intro a F
    refine sD F (o_add (F.ev rfl) (F.ev rfl) (w_i64 (by omega) (by omega)) ?_); clear F a; intro a F
    refine sD F (o_geqF (F.ev rfl) (F.ev rfl) (by omega) ?_); clear F a; intro a F
    refine sD F (o_assign (F.ev rfl) ?_); clear F a; intro a F
    with_reducible refine l_nil (q_then ?_)
    refine c_false F rfl rfl ?_
    with_reducible refine c_skip (q_inB (q_then (c_seq (c_region ?_))))
    refine sD F (o_move (F.ev rfl) ?_); clear F a; intro a F
    refine sD F (o_loadA M (F.ev rfl) (by repeat constructor) (by first | assumption | rfl) ?_); clear F a; intro a F
    refine sD F (o_fieldAddr (F.ev rfl) ?_); clear F a; intro a F
    refine sD F (o_load1 M (F.ev rfl) (by repeat constructor) (by first | assumption | rfl) ?_); clear F a; intro a F
    (refine sD F (o_call (F.ev rfl) (F.evs rfl) (Cal.mono (choose1_c pp old.btn _) ?_)); clear F; clear a; rintro _ w ⟨rfl, hE⟩ a F; replace M := M.later hE; clear hE)
    refine sD F (o_extract (F.ev rfl) rfl ?_); clear F a; intro a F
    refine sD F (o_extract (F.ev rfl) rfl ?_); clear F a; intro a F
    (refine stepN rfl F (o_storeA M (F.ev rfl) (F.ev rfl) (ch_len (o := ⟨pp.nb, pp.cost, old.btn⟩) trivial) (ch_one ⟨pp.nb, pp.cost, old.btn⟩)  (by repeat constructor)  (put_all (by rw [ch_len (o := ⟨pp.nb, pp.cost, old.btn⟩) trivial]; rfl)) (by repeat constructor) ?_); clear F M; intro w M a F)
    refine sD F (o_assign (F.ev rfl) ?_); clear F a; intro a F
    with_reducible refine l_nil (q_then (c_ret ?_))
    exact p_ret F rfl (.cons (.cell (F.ev rfl) (run_loadVar_agg TAgg.h (M.heap (by repeat constructor)) (ch_all (o := ⟨pp.nb, pp.cost, old.btn⟩) trivial))) (.cons (.tmp (F.ev rfl)) .nil)) ⟨rfl, M.ext⟩
end Go.Proofs.YtilgoepokaaleaaGreat
/-! LibV -/
namespace Go.Proofs.YtilgoepokaaleaaGreat
set_option linter.unusedVariables false
set_option linter.unusedSimpArgs false
open Go.RowKit
/-- a block that such an append may turn -/
def Chg (w : World) (k : Nat) : Prop := ∃ cs t, w.heap[k]? = some (.cells cs t (0, 0)) ∧ 20 < cs.size
structure BigE (n0 : Nat) (w w' : World) : Prop where
  os : w'.os = w.os
  tape : w'.tape = w.tape
  output : w'.output = w.output
  size : w.heap.size ≤ w'.heap.size
  dr : w.drawn ≤ w'.drawn
  block : ∀ k, k < w.heap.size → (k < n0 ∨ ¬ Chg w k) → w'.heap[k]? = w.heap[k]?
theorem BigE.of_ext {n0 : Nat} {w w' : World} (h : Ext [] w w') : BigE n0 w w' := ⟨h.os, h.tape, h.output, h.size, h.dr, fun k hk _ => h.block k hk (by simp)⟩
theorem BigE.trans {n0 : Nat} {a b c : World} (h : BigE n0 a b) (k : BigE n0 b c) : BigE n0 a c :=
  ⟨k.os.trans h.os, k.tape.trans h.tape, k.output.trans h.output, Nat.le_trans h.size k.size, Nat.le_trans h.dr k.dr, fun i hi hc => by
    have h1 := h.block i hi hc
    rw [k.block i (Nat.lt_of_lt_of_le hi h.size) (hc.imp_right fun hn hx => hn (by
      obtain ⟨cs, t, e, hs⟩ := hx
      exact ⟨cs, t, by rw [← h1]; exact e, hs⟩)), h1]⟩
theorem BigE.ext {w w' : World} (h : BigE w.heap.size w w') : Ext [] w w' := ⟨h.os, h.tape, h.output, h.size, h.dr, fun k hk _ => h.block k hk (.inl hk)⟩
section
variable {P : Program} {ρ : Operand → Value} {w W0 : World} {S : List Nat} {l l' : List (Nat × Obj)} {R : Value → World → Prop} {d : Option Tmp} {ty : TypeId} {pos : String} {af : Array Edge} {g : Option (Nat × Bool)}
end
end Go.Proofs.YtilgoepokaaleaaGreat
/-! LibX -/
namespace Go.Proofs.YtilgoepokaaleaaGreat
set_option linter.unusedVariables false
set_option linter.unusedSimpArgs false
open Go.RowKit
section
variable {P : Program} {ρ : Operand → Value} {w W0 : World} {S : List Nat} {l l' : List (Nat × Obj)} {R : Value → World → Prop} {d : Option Tmp} {ty : TypeId} {pos : String} {af : Array Edge} {g : Option (Nat × Bool)}
/-- a slice compared with nil -/
theorem o_eqlNil {t t' e : TypeId} {x y : Operand} {p : Option Addr} {n c : Nat} (hx : ρ x = .slice p n c) (hy : ρ y = .slice none 0 0) [ht : TU P t (.slice e)] (h : R (.bool p.isNone) w) : OpTo P ⟨d, .binOp .eql t x y t', ty, pos, af, g⟩ ρ w R := by
  have hr0 : ∀ k : Nat, (Op.equalIn (k + 1) t (.slice p n c) (.slice none 0 0)).run P w = .ok p.isNone w := fun k => by
    cases p <;> simp [Op.equalIn, run_underlying ht.h]
  have hr := hr0 9999
  exact OpTo.val (v := .bool p.isNone) (w' := w) (by simp [execOp, eqGuard, binOp, Op.equal, Op.maxDepth, hx, hy, hr]) h
/-- append of nothing -/
theorem o_append0 {st xt e : TypeId} {x y : Operand} {sz by_ b n cap : Nat} {xv : Value} [hst : TU P st (.slice e)] [hel : TEl P e sz by_] [hxt : TNI P xt] (hx : ρ x = .slice (some ⟨b, 0, none⟩) n cap) (hy : ρ y = xv) (hnc : n ≤ cap) (hX : SrcOf P w xv 0 sz [])
    (h : R (.slice (some ⟨b, 0, none⟩) n cap) w) : OpTo P ⟨d, .call ⟨.builtin .append, #[x, y], #[st, xt]⟩, ty, pos, af, g⟩ ρ w R := by
  obtain ⟨i, z, hi, rfl, rfl, hz, hzs⟩ := elB_spec hel.h
  have hrun := run_append_room' (tyy := ty) (b := b) (n := n) (cap := cap) (w' := w) hst.h hi (notInt_spec hxt.h) hX.len (by omega) (hX.cells w.drawn) (by simp [storeCells])
  exact OpTo.val (v := .slice (some ⟨b, 0, none⟩) (n + 0) cap) (w' := w) (by simp [execOp, resolve, invoke, builtin, hx, hy, hrun]) h
end
end Go.Proofs.YtilgoepokaaleaaGreat
/-! Z7 -/
namespace Go.Proofs.YtilgoepokaaleaaGreat
set_option linter.unusedVariables false
set_option linter.unusedSimpArgs false
open Go.RowKit
attribute [local irreducible] OpTo wpListIn Code.wpIn MW Cal
theorem cutV_at (xs : List Value) (k : Nat) (h : k ≤ xs.length) : ∃ A B, xs = A ++ B ∧ A.length = k := ⟨xs.take k, xs.drop k, (List.take_append_drop k xs).symm, by simp [h]⟩
theorem Has.app {l : List (Nat × Obj)} {b : Nat} {o : Obj} (h : Has l b o) : ∀ q : List (Nat × Obj), Has (q ++ l) b o
  | [] => h
  | _ :: q => .there (h.app q)
set_option maxHeartbeats 2000000 in
theorem cloneR_c (l : List RouV) (hlen : l.length ≤ 100000) (v : Value) (W : World) (hS : SlAt W 39 v l.length (rosC l)) :
    Cal Tryz.prog 72 [v].toArray W fun r w' => ∃ ent, OwnS 53 39 r l.length (rosC l) ent ∧ (∀ b o s c, r = .slice (some ⟨b, o, s⟩) l.length c → l.length = 0 → c = 0) ∧ Mem [] W w' ent := by
  obtain ⟨q, cap, hq, _⟩ := id hS
  cases q with
  | none =>
    have hn : l.length = 0 := by
      obtain ⟨q', cap', h2, _, _, _, h3⟩ := hS
      rw [hq] at h2
      cases h2
      rcases Nat.eq_zero_or_pos l.length with h | h
      · exact h
      · obtain ⟨_, _, _, _, _, h4, _⟩ := h3 h
        cases h4
    have hxs : l = [] := List.length_eq_zero_iff.1 hn
    subst hxs
    rw [hq]
    refine fn_ofM (n := 8) [] Tryz.func72 rfl rfl rfl ?_
    intro a w F M hwW
    refine c_seq (c_region ?_)
    refine sD F (o_assign (F.ev rfl) ?_); clear F a; intro a F
    with_reducible refine l_nil (q_then (c_seq (c_seq (c_region ?_))))
    refine sD F (o_move (F.ev rfl) ?_); clear F a; intro a F
    (refine sD F (o_eqlNil (F.ev rfl) (F.ev rfl) ?_); clear F a; intro a F)
    with_reducible refine l_nil (q_then ?_)
    refine c_true F rfl rfl ?_
    refine c_seq (c_region ?_)
    refine sD F (o_assign (F.ev rfl) ?_); clear F a; intro a F
    with_reducible refine l_nil (q_then (c_ret (q_thenR ?_)))
    refine p_ret F rfl (.cons (.tmp (F.ev rfl)) .nil) ?_
    exact ⟨[], OwnS.nil _ _, fun b o s c h => (by cases h), M⟩
  | some a0 =>
    rw [hq] at hS ⊢
    refine fn_ofM (n := 8) [] Tryz.func72 rfl rfl rfl ?_
    intro a w F M hwW
    refine c_seq (c_region ?_)
    refine sD F (o_assign (F.ev rfl) ?_); clear F a; intro a F
    with_reducible refine l_nil (q_then (c_seq (c_seq (c_region ?_))))
    refine sD F (o_move (F.ev rfl) ?_); clear F a; intro a F
    (refine sD F (o_eqlNil (F.ev rfl) (F.ev rfl) ?_); clear F a; intro a F)
    with_reducible refine l_nil (q_then ?_)
    refine c_false F rfl rfl ?_
    with_reducible refine c_skip (q_then (c_seq (c_region ?_)))
    (refine sD F (o_buildSlice F M rfl rfl rfl rfl ?_); clear F M; intro b5 w M a F)
    refine sD F (o_move (F.ev rfl) ?_); clear F a; intro a F
    have hSw := hS.later M.ext
    by_cases hn : l.length = 0
    · have hxs : l = [] := List.length_eq_zero_iff.1 hn
      subst hxs
      (refine sD F (o_append0 (F.ev rfl) (F.ev rfl) (by omega) (hSw.src (by simp [encL])) ?_); clear F a; intro a F)
      refine sD F (o_assign (F.ev rfl) ?_); clear F a; intro a F
      with_reducible refine l_nil (q_then (c_ret ?_))
      refine p_ret F rfl (.cons (.tmp (F.ev rfl)) .nil) ?_
      exact ⟨[(b5, _)], .inr ⟨b5, 0, [], rfl, rfl, by simp [encL], by simp, by simp⟩, fun b o s c h _ => (by cases h; rfl), M⟩
    · have hO5 : OwnS 53 39 (.slice (some ⟨b5, 0, none⟩) 0 0) 0 [] [(b5, .cells ([] : List Value).toArray 53 (0, 0))] := .inr ⟨b5, 0, [], rfl, rfl, by simp, by simp, by simp⟩
      (refine sD F (o_append hO5 M .here (F.ev rfl) (F.ev rfl) (hSw.src ros_one) (by omega) (by omega) ?_); clear F M; intro u ent w hO M a F)
      rw [Nat.zero_add, List.nil_append] at hO
      refine sD F (o_assign (F.ev rfl) ?_); clear F a; intro a F
      with_reducible refine l_nil (q_then (c_ret ?_))
      refine p_ret F rfl (.cons (.tmp (F.ev rfl)) .nil) ?_
      exact ⟨ent, hO, fun b o s c _ h => absurd h hn, M⟩
set_option maxHeartbeats 4000000 in
theorem insertR_c {v : Value} {n : Nat} {xs : List Value} {ent : List (Nat × Obj)} (i : Nat) (hi : i ≤ n) {vb : Nat} (ys : List Value) (hys : ys.length = 39) (h1x : xs.all (·.oneCell') = true) (h1y : ys.all (·.oneCell') = true) (W : World) {S : List Nat} {W0 : World} {l : List (Nat × Obj)} {f : List (Nat × Obj) → List (Nat × Obj)}
    (M : Mem S W0 W l) (hO : OwnS 53 39 v n xs ent) (hl : TailAt ent l f) (hv : Has l vb (.cells ys.toArray 53 (0, 0))) (hne : ∀ p ∈ ent, p.1 ≠ vb) (hn : n ≤ 100000) :
    Cal Tryz.prog 80 [v, .int .i64 i, .slice (some ⟨vb, 0, none⟩) 1 1].toArray W fun x w' => ∃ ent', OwnS 53 39 x (n + 1) (xs.take (i * 39) ++ (ys ++ xs.drop (i * 39))) ent' ∧ Mem S W0 w' (f ent') := by
  have hxl := hO.len
  have hsy : SrcOf Tryz.prog W (.slice (some ⟨vb, 0, none⟩) 1 1) 1 39 ys := SrcOf.cells' (M.heap hv) (sg_all (by omega)) h1y
  by_cases hin : i = n
  · subst hin
    rw [List.take_of_length_le (by omega), List.drop_of_length_le (by omega), List.append_nil]
    obtain ⟨q, cap, rfl⟩ := hO.slice
    refine fn_of (n := 95) Tryz.func80 rfl rfl rfl ?_
    intro a F
    refine c_seq (c_region ?_)
    refine sD F (o_assign (F.ev rfl) ?_); clear F a; intro a F
    with_reducible refine l_nil (q_then (c_seq (c_region ?_)))
    refine sD F (o_move (F.ev rfl) ?_); clear F a; intro a F
    refine sD F (o_move (F.ev rfl) ?_); clear F a; intro a F
    (refine sD F (o_slLany (F.ev rfl) (F.ev rfl) (by omega) (by omega) ?_); clear F; clear a; intro _ a F)
    with_reducible refine l_nil (q_then (c_seq (c_region ?_)))
    refine sD F (o_move (F.ev rfl) ?_); clear F a; intro a F
    refine sD F (o_lenSl (F.ev rfl) ?_); clear F a; intro a F
    refine sD F (o_assign (F.ev rfl) ?_); clear F a; intro a F
    with_reducible refine l_nil (q_then (c_seq (c_seq (c_region ?_))))
    refine sD F (o_move (F.ev rfl) ?_); clear F a; intro a F
    refine sD F (o_eqlF (F.ev rfl) (F.ev rfl) (by omega) ?_); clear F a; intro a F
    with_reducible refine l_nil (q_then ?_)
    refine c_false F rfl rfl ?_
    with_reducible refine c_skip (q_then (c_seq (c_region ?_)))
    refine sD F (o_move (F.ev rfl) ?_); clear F a; intro a F
    refine sD F (o_lenSl (F.ev rfl) ?_); clear F a; intro a F
    refine sD F (o_assign (F.ev rfl) ?_); clear F a; intro a F
    with_reducible refine l_nil (q_then (c_seq (c_seq (c_region ?_))))
    refine sD F (o_move (F.ev rfl) ?_); clear F a; intro a F
    refine sD F (o_move (F.ev rfl) ?_); clear F a; intro a F
    refine sD F (o_eqlT (F.ev rfl) (F.ev rfl) (by omega) ?_); clear F a; intro a F
    with_reducible refine l_nil (q_then ?_)
    refine c_true F rfl rfl ?_
    refine c_seq (c_region ?_)
    refine sD F (o_move (F.ev rfl) ?_); clear F a; intro a F
    refine sD F (o_move (F.ev rfl) ?_); clear F a; intro a F
    (refine sD F (o_append hO M hl (F.ev rfl) (F.ev rfl) hsy (by omega) (by omega) ?_); clear F M; intro v2 ent2 w hO2 M a F)
    refine sD F (o_assign (F.ev rfl) ?_); clear F a; intro a F
    with_reducible refine l_nil (q_then (c_ret (q_thenR ?_)))
    refine p_ret F rfl (.cons (.tmp (F.ev rfl)) .nil) ?_
    exact ⟨ent2, hO2, M⟩
  · rcases hO with ⟨_, rfl, _, _⟩ | ⟨b, cap, junk, rfl, rfl, _, hjl, hnc⟩
    · omega
    obtain ⟨lr, rfl, hf⟩ := hl.spec
    have hvb : vb ≠ b := fun h => hne _ List.mem_cons_self h.symm
    obtain ⟨A, B, rfl, hA⟩ := cutV_at xs (i * 39) (by omega)
    simp only [List.length_append] at hxl
    rw [← hA, List.take_left' rfl, List.drop_left' rfl]
    simp only [List.all_append, Bool.and_eq_true] at h1x
    have hB : B.length = (n - i) * 39 := by omega
    by_cases hroom : n + 1 ≤ cap
    · obtain ⟨J1, J2, rfl, hJ⟩ := cutV_at junk 39 (by omega)
      simp only [List.length_append] at hjl
      obtain ⟨B1, B2, rfl, hB1⟩ := cutV_at B 39 (by omega)
      simp only [List.length_append] at hB hxl
      have e1 : (A ++ (B1 ++ B2) ++ (J1 ++ J2)) = A ++ ((B1 ++ B2) ++ (J1 ++ J2)) := by simp
      have e2 : (A ++ (B1 ++ B2) ++ (J1 ++ J2)) = (A ++ B1) ++ ((B2 ++ J1) ++ J2) := by simp
      have p1 : put (A ++ (B1 ++ B2) ++ (J1 ++ J2)) (0 + (((i : Int) + 1).toNat * 39)) (B1 ++ B2) = some ((A ++ B1) ++ ((B1 ++ B2) ++ J2)) := by
        rw [e2]; exact put_mid (by simp; omega) (by simp; omega)
      have p2 : put ((A ++ B1) ++ ((B1 ++ B2) ++ J2)) (0 + (i : Int).toNat * 39) ys = some (A ++ (ys ++ ((B1 ++ B2) ++ J2))) := by
        rw [List.append_assoc]; exact put_mid (by omega) (by omega)
      have g1 : seg (A ++ (B1 ++ B2) ++ (J1 ++ J2)) (0 + (i : Int).toNat * 39) ((n - i) * 39) = some (B1 ++ B2) := by
        rw [e1]; exact seg_mid (by omega) (by simp; omega)
      have u1 : Upd (lr ++ [(b, Obj.cells (A ++ (B1 ++ B2) ++ (J1 ++ J2)).toArray 53 (0, 0))]) b (.cells (A ++ (B1 ++ B2) ++ (J1 ++ J2)).toArray 53 (0, 0)) (.cells ((A ++ B1) ++ ((B1 ++ B2) ++ J2)).toArray 53 (0, 0)) (lr ++ [(b, .cells ((A ++ B1) ++ ((B1 ++ B2) ++ J2)).toArray 53 (0, 0))]) := (Upd.here).append lr
      have u2 : Upd (lr ++ [(b, Obj.cells ((A ++ B1) ++ ((B1 ++ B2) ++ J2)).toArray 53 (0, 0))]) b (.cells ((A ++ B1) ++ ((B1 ++ B2) ++ J2)).toArray 53 (0, 0)) (.cells (A ++ (ys ++ ((B1 ++ B2) ++ J2))).toArray 53 (0, 0)) (lr ++ [(b, .cells (A ++ (ys ++ ((B1 ++ B2) ++ J2))).toArray 53 (0, 0))]) := (Upd.here).append lr
      have hv2 : Has (lr ++ [(b, Obj.cells ((A ++ B1) ++ ((B1 ++ B2) ++ J2)).toArray 53 (0, 0))]) vb (.cells ys.toArray 53 (0, 0)) := has_other hv hvb
      refine fn_of (n := 95) Tryz.func80 rfl rfl rfl ?_
      intro a F
      refine c_seq (c_region ?_)
      refine sD F (o_assign (F.ev rfl) ?_); clear F a; intro a F
      with_reducible refine l_nil (q_then (c_seq (c_region ?_)))
      refine sD F (o_move (F.ev rfl) ?_); clear F a; intro a F
      refine sD F (o_move (F.ev rfl) ?_); clear F a; intro a F
      (refine sD F (o_slL (F.ev rfl) (F.ev rfl) (by omega) (by omega) (by omega) ?_); clear F a; intro a F)
      with_reducible refine l_nil (q_then (c_seq (c_region ?_)))
      refine sD F (o_move (F.ev rfl) ?_); clear F a; intro a F
      refine sD F (o_lenSl (F.ev rfl) ?_); clear F a; intro a F
      refine sD F (o_assign (F.ev rfl) ?_); clear F a; intro a F
      with_reducible refine l_nil (q_then (c_seq (c_seq (c_region ?_))))
      refine sD F (o_move (F.ev rfl) ?_); clear F a; intro a F
      refine sD F (o_eqlF (F.ev rfl) (F.ev rfl) (by omega) ?_); clear F a; intro a F
      with_reducible refine l_nil (q_then ?_)
      refine c_false F rfl rfl ?_
      with_reducible refine c_skip (q_then (c_seq (c_region ?_)))
      refine sD F (o_move (F.ev rfl) ?_); clear F a; intro a F
      refine sD F (o_lenSl (F.ev rfl) ?_); clear F a; intro a F
      refine sD F (o_assign (F.ev rfl) ?_); clear F a; intro a F
      with_reducible refine l_nil (q_then (c_seq (c_seq (c_region ?_))))
      refine sD F (o_move (F.ev rfl) ?_); clear F a; intro a F
      refine sD F (o_move (F.ev rfl) ?_); clear F a; intro a F
      refine sD F (o_eqlF (F.ev rfl) (F.ev rfl) (by omega) ?_); clear F a; intro a F
      with_reducible refine l_nil (q_then ?_)
      refine c_false F rfl rfl ?_
      with_reducible refine c_skip (q_then (c_seq (c_seq (c_region ?_))))
      refine sD F (o_move (F.ev rfl) ?_); clear F a; intro a F
      refine sD F (o_move (F.ev rfl) ?_); clear F a; intro a F
      refine sD F (o_add (F.ev rfl) (F.ev rfl) (w_i64 (by omega) (by omega)) ?_); clear F a; intro a F
      refine sD F (o_move (F.ev rfl) ?_); clear F a; intro a F
      refine sD F (o_capSl (F.ev rfl) ?_); clear F a; intro a F
      refine sD F (o_gtrF (F.ev rfl) (F.ev rfl) (by omega) ?_); clear F a; intro a F
      with_reducible refine l_nil (q_then ?_)
      refine c_false F rfl rfl ?_
      with_reducible refine c_skip (q_then (c_seq (c_region ?_)))
      refine sD F (o_move (F.ev rfl) ?_); clear F a; intro a F
      refine sD F (o_move (F.ev rfl) ?_); clear F a; intro a F
      refine sD F (o_move (F.ev rfl) ?_); clear F a; intro a F
      refine sD F (o_add (F.ev rfl) (F.ev rfl) (w_i64 (by omega) (by omega)) ?_); clear F a; intro a F
      (refine sD F (o_slH (F.ev rfl) (F.ev rfl) (by simp) (by omega) (by omega) ?_); clear F a; intro a F)
      refine sD F (o_assign (F.ev rfl) ?_); clear F a; intro a F
      with_reducible refine l_nil (q_then (c_seq (c_seq (c_region ?_))))
      refine sD F (o_move (F.ev rfl) ?_); clear F a; intro a F
      refine sD F (o_move (F.ev rfl) ?_); clear F a; intro a F
      refine sD F (o_move (F.ev rfl) ?_); clear F a; intro a F
      refine sD F (o_move (F.ev rfl) ?_); clear F a; intro a F
      refine sD F (o_add (F.ev rfl) (F.ev rfl) (w_i64 (by omega) (by omega)) ?_); clear F a; intro a F
      (refine sD F (o_slL (F.ev rfl) (F.ev rfl) (by omega) (by omega) (by omega) ?_); clear F a; intro a F)
      (refine sD F (o_entry (F.ev rfl) Tryz.func122 (by kernel_rfl) (by kernel_rfl) (by kernel_rfl) (e := Extern.SlicesOverlaps.overlaps #[26, 26] #[4]) (by kernel_rfl) (F.evs rfl) (run_ov (TU.h (P := Tryz.prog) (t := 26)) (TSz.h (P := Tryz.prog) (t := 53)) hvb (M.heap hv) (M.heap u1.has) (by simp only [List.length_append]; omega)) ?_); clear F a; intro a F)
      refine sD F (o_not (F.ev rfl) ?_); clear F a; intro a F
      with_reducible refine l_nil (q_then ?_)
      refine c_true F rfl rfl ?_
      refine c_seq ?_
      refine c_draw 8 F (by kernel_rfl) ?_
      intro w1 hE hok
      have M1 := M.later hE
      refine mK hok rfl rfl (fun a' w' F' E' => o_move (F'.ev rfl) ⟨Ext.refl _ _, rfl⟩) ?_
      refine mK hok rfl rfl (fun a' w' F' E' => o_move (F'.ev rfl) ⟨Ext.refl _ _, rfl⟩) ?_
      refine mK hok rfl rfl (fun a' w' F' E' => o_move (F'.ev rfl) ⟨Ext.refl _ _, rfl⟩) ?_
      refine mK hok rfl rfl (fun a' w' F' E' => o_add (F'.ev rfl) (F'.ev rfl) (w_i64 (by omega) (by omega)) ⟨Ext.refl _ _, rfl⟩) ?_
      (refine mK hok rfl rfl (fun a' w' F' E' => o_slL (F'.ev rfl) (F'.ev rfl) (by omega) (by omega) (by omega) ⟨Ext.refl _ _, rfl⟩) ?_)
      refine mK hok rfl rfl (fun a' w' F' E' => o_move (F'.ev rfl) ⟨Ext.refl _ _, rfl⟩) ?_
      refine mK hok rfl rfl (fun a' w' F' E' => o_move (F'.ev rfl) ⟨Ext.refl _ _, rfl⟩) ?_
      (refine mK hok rfl rfl (fun a' w' F' E' => o_slL (F'.ev rfl) (F'.ev rfl) (by omega) (by omega) (by omega) ⟨Ext.refl _ _, rfl⟩) ?_)
      skip
      (refine mDone rfl rfl ?_; clear F M; intro a w F hE2 hX hTT hDD hPP; have M := M1.later hE2; clear M1; clear hX; clear hE2; clear hok; clear hE; clear hTT; clear hDD; clear hPP; (try dsimp only at F))
      (refine sD F (o_copy (n := n - i) M (F.ev rfl) (F.ev rfl) (by show _ = min _ _; omega) u1.has g1 (by simp only [List.all_append, Bool.and_eq_true] at h1x ⊢; exact h1x.2) u1.has p1 u1 ?_); clear F M; intro w M a F)
      with_reducible refine l_nil (q_then (c_seq (c_region ?_)))
      refine sD F (o_move (F.ev rfl) ?_); clear F a; intro a F
      refine sD F (o_move (F.ev rfl) ?_); clear F a; intro a F
      (refine sD F (o_slL (F.ev rfl) (F.ev rfl) (by omega) (by omega) (by omega) ?_); clear F a; intro a F)
      refine sD F (o_move (F.ev rfl) ?_); clear F a; intro a F
      (refine sD F (o_copy (n := 1) M (F.ev rfl) (F.ev rfl) (by show _ = min _ _; omega) hv2 (sg_all (by omega)) h1y u2.has p2 u2 ?_); clear F M; intro w M a F)
      with_reducible refine l_nil (q_then (c_seq (c_region ?_)))
      refine sD F (o_move (F.ev rfl) ?_); clear F a; intro a F
      refine sD F (o_assign (F.ev rfl) ?_); clear F a; intro a F
      with_reducible refine l_nil (q_then (c_ret (q_thenR ?_)))
      refine p_ret F rfl (.cons (.tmp (F.ev rfl)) .nil) ?_
      refine ⟨_, .inr ⟨b, cap, J2, ?_, rfl, ?_, ?_, ?_⟩, ?_⟩
      · show Value.slice _ _ _ = _
        congr 1
      · simp; omega
      · omega
      · omega
      · rw [hf]
        have e3 : A ++ (ys ++ (B1 ++ B2)) ++ J2 = A ++ (ys ++ ((B1 ++ B2) ++ J2)) := by simp
        rw [e3]; exact M
    · have hcn : n = cap := by omega
      subst hcn
      have hj0 : junk = [] := List.length_eq_zero_iff.1 (by omega)
      subst hj0
      have hbh : Has (lr ++ [(b, Obj.cells (A ++ B ++ []).toArray 53 (0, 0))]) b (.cells (A ++ B ++ []).toArray 53 (0, 0)) := Has.app .here lr
      have g0 : seg (A ++ B ++ []) 0 (i * 39) = some A := by
        rw [List.append_nil]
        have := seg_mid (A := []) (B := A) (C := B) (off := 0) (n := i * 39) rfl (by omega)
        simpa using this
      have g1 : seg (A ++ B ++ []) (0 + (i : Int).toNat * 39) ((n - i) * 39) = some B := by
        rw [List.append_assoc]; exact seg_mid (by omega) (by omega)
      have hsA : SrcOf Tryz.prog W (.slice (some ⟨b, 0, none⟩) i n) i 39 A := SrcOf.cells' (M.heap hbh) g0 h1x.1
      refine fn_of (n := 95) Tryz.func80 rfl rfl rfl ?_
      intro a F
      refine c_seq (c_region ?_)
      refine sD F (o_assign (F.ev rfl) ?_); clear F a; intro a F
      with_reducible refine l_nil (q_then (c_seq (c_region ?_)))
      refine sD F (o_move (F.ev rfl) ?_); clear F a; intro a F
      refine sD F (o_move (F.ev rfl) ?_); clear F a; intro a F
      (refine sD F (o_slL (F.ev rfl) (F.ev rfl) (by omega) (by omega) (by omega) ?_); clear F a; intro a F)
      with_reducible refine l_nil (q_then (c_seq (c_region ?_)))
      refine sD F (o_move (F.ev rfl) ?_); clear F a; intro a F
      refine sD F (o_lenSl (F.ev rfl) ?_); clear F a; intro a F
      refine sD F (o_assign (F.ev rfl) ?_); clear F a; intro a F
      with_reducible refine l_nil (q_then (c_seq (c_seq (c_region ?_))))
      refine sD F (o_move (F.ev rfl) ?_); clear F a; intro a F
      refine sD F (o_eqlF (F.ev rfl) (F.ev rfl) (by omega) ?_); clear F a; intro a F
      with_reducible refine l_nil (q_then ?_)
      refine c_false F rfl rfl ?_
      with_reducible refine c_skip (q_then (c_seq (c_region ?_)))
      refine sD F (o_move (F.ev rfl) ?_); clear F a; intro a F
      refine sD F (o_lenSl (F.ev rfl) ?_); clear F a; intro a F
      refine sD F (o_assign (F.ev rfl) ?_); clear F a; intro a F
      with_reducible refine l_nil (q_then (c_seq (c_seq (c_region ?_))))
      refine sD F (o_move (F.ev rfl) ?_); clear F a; intro a F
      refine sD F (o_move (F.ev rfl) ?_); clear F a; intro a F
      refine sD F (o_eqlF (F.ev rfl) (F.ev rfl) (by omega) ?_); clear F a; intro a F
      with_reducible refine l_nil (q_then ?_)
      refine c_false F rfl rfl ?_
      with_reducible refine c_skip (q_then (c_seq (c_seq (c_region ?_))))
      refine sD F (o_move (F.ev rfl) ?_); clear F a; intro a F
      refine sD F (o_move (F.ev rfl) ?_); clear F a; intro a F
      refine sD F (o_add (F.ev rfl) (F.ev rfl) (w_i64 (by omega) (by omega)) ?_); clear F a; intro a F
      refine sD F (o_move (F.ev rfl) ?_); clear F a; intro a F
      refine sD F (o_capSl (F.ev rfl) ?_); clear F a; intro a F
      refine sD F (o_gtrT (F.ev rfl) (F.ev rfl) (by omega) ?_); clear F a; intro a F
      with_reducible refine l_nil (q_then ?_)
      refine c_true F rfl rfl ?_
      refine c_seq (c_region ?_)
      refine sD F (o_move (F.ev rfl) ?_); clear F a; intro a F
      refine sD F (o_move (F.ev rfl) ?_); clear F a; intro a F
      (refine sD F (o_slH (F.ev rfl) (F.ev rfl) (by simp) (by omega) (by omega) ?_); clear F a; intro a F)
      refine sD F (o_move (F.ev rfl) ?_); clear F a; intro a F
      refine sD F (o_move (F.ev rfl) ?_); clear F a; intro a F
      refine sD F (o_add (F.ev rfl) (F.ev rfl) (w_i64 (by omega) (by omega)) ?_); clear F a; intro a F
      refine sD F (o_move (F.ev rfl) ?_); clear F a; intro a F
      refine sD F (o_sub (F.ev rfl) (F.ev rfl) (w_i64 (by omega) (by omega)) ?_); clear F a; intro a F
      rw [show ((n : Int) + ((1 : Nat) : Int) - i) = ((n + 1 - i : Nat) : Int) by omega, Int.toNat_natCast] at F
      (refine sD F (o_appendZ (xs := A) (k := n + 1 - i) M hsA (F.ev rfl) (F.ev rfl) (by omega) (by omega) (by omega) (by omega) (by omega) ?_); clear F M; intro b2 cap2 zs w hzl hc2 M a F)
      rw [show i + (n + 1 - i) = n + 1 by omega] at F hc2
      obtain ⟨Z1, Z', rfl, hZ1⟩ := cutV_at zs 39 (by omega)
      simp only [List.length_append] at hzl
      obtain ⟨Z2, Z3, rfl, hZ2⟩ := cutV_at Z' ((n - i) * 39) (by omega)
      simp only [List.length_append] at hzl
      have p1 : put (A ++ (Z1 ++ (Z2 ++ Z3))) (0 + (i : Int).toNat * 39) ys = some (A ++ (ys ++ (Z2 ++ Z3))) := put_mid (by omega) (by omega)
      have p2 : put (A ++ (ys ++ (Z2 ++ Z3))) (0 + ((i : Int) + 1).toNat * 39) B = some ((A ++ ys) ++ (B ++ Z3)) := by
        rw [← List.append_assoc]; exact put_mid (by simp; omega) (by omega)
      refine sD F (o_assign (F.ev rfl) ?_); clear F a; intro a F
      with_reducible refine l_nil (q_then (c_seq (c_region ?_)))
      refine sD F (o_move (F.ev rfl) ?_); clear F a; intro a F
      refine sD F (o_move (F.ev rfl) ?_); clear F a; intro a F
      (refine sD F (o_slL (F.ev rfl) (F.ev rfl) (by omega) (by omega) (by omega) ?_); clear F a; intro a F)
      refine sD F (o_move (F.ev rfl) ?_); clear F a; intro a F
      (refine sD F (o_copy (n := 1) M (F.ev rfl) (F.ev rfl) (by show _ = min _ _; omega) (.there hv) (sg_all (by omega)) h1y .here p1 .here ?_); clear F M; intro w M a F)
      with_reducible refine l_nil (q_then (c_seq ?_))
      refine c_draw 8 F (by kernel_rfl) ?_
      intro w1 hE hok
      have M1 := M.later hE
      refine mK hok rfl rfl (fun a' w' F' E' => o_move (F'.ev rfl) ⟨Ext.refl _ _, rfl⟩) ?_
      refine mK hok rfl rfl (fun a' w' F' E' => o_move (F'.ev rfl) ⟨Ext.refl _ _, rfl⟩) ?_
      refine mK hok rfl rfl (fun a' w' F' E' => o_move (F'.ev rfl) ⟨Ext.refl _ _, rfl⟩) ?_
      refine mK hok rfl rfl (fun a' w' F' E' => o_add (F'.ev rfl) (F'.ev rfl) (w_i64 (by omega) (by omega)) ⟨Ext.refl _ _, rfl⟩) ?_
      (refine mK hok rfl rfl (fun a' w' F' E' => o_slL (F'.ev rfl) (F'.ev rfl) (by omega) (by omega) (by omega) ⟨Ext.refl _ _, rfl⟩) ?_)
      refine mK hok rfl rfl (fun a' w' F' E' => o_move (F'.ev rfl) ⟨Ext.refl _ _, rfl⟩) ?_
      refine mK hok rfl rfl (fun a' w' F' E' => o_move (F'.ev rfl) ⟨Ext.refl _ _, rfl⟩) ?_
      (refine mK hok rfl rfl (fun a' w' F' E' => o_slL (F'.ev rfl) (F'.ev rfl) (by omega) (by omega) (by omega) ⟨Ext.refl _ _, rfl⟩) ?_)
      skip
      (refine mDone rfl rfl ?_; clear F M; intro a w F hE2 hX hTT hDD hPP; have M := M1.later hE2; clear M1; clear hX; clear hE2; clear hok; clear hE; clear hTT; clear hDD; clear hPP; (try dsimp only at F))
      (refine sD F (o_copy (n := n - i) M (F.ev rfl) (F.ev rfl) (by show _ = min _ _; omega) (.there hbh) g1 h1x.2 .here p2 .here ?_); clear F M; intro w M a F)
      with_reducible refine l_nil (q_then (c_seq (c_region ?_)))
      refine sD F (o_move (F.ev rfl) ?_); clear F a; intro a F
      refine sD F (o_assign (F.ev rfl) ?_); clear F a; intro a F
      with_reducible refine l_nil (q_then (c_ret (q_thenR ?_)))
      refine p_ret F rfl (.cons (.tmp (F.ev rfl)) .nil) ?_
      refine ⟨[(b2, .cells ((A ++ ys) ++ (B ++ Z3)).toArray 53 (0, 0))], .inr ⟨b2, cap2, Z3, rfl, ?_, ?_, ?_, ?_⟩, ?_⟩
      · rw [show A ++ (ys ++ B) ++ Z3 = (A ++ ys) ++ (B ++ Z3) by simp]
      · simp; omega
      · omega
      · omega
      · rw [hf]
        exact (M.sub (l' := (b2, .cells ((A ++ ys) ++ (B ++ Z3)).toArray 53 (0, 0)) :: lr) ((List.sublist_append_left lr _).cons_cons _)).perm (List.perm_append_comm (l₁ := [_]) (l₂ := lr))
set_option maxHeartbeats 2000000 in
theorem bsearchR_c (ys : List RouV) (hy : ∀ x ∈ ys, IsRo x) (rt : RouV) (hrt : IsRo rt) (hlen : ys.length ≤ 1000) (hmono : ∀ j k (hj : j < k) (hk : k < ys.length), cmpR ys[j] ys[k] < 0) (v : Value) (W : World) (hS : SlAt W 39 v ys.length (encL roC ys)) :
    Cal Tryz.prog 77 [v, .agg (roC rt).toArray, .func (.func 78) #[] #[]].toArray W fun r w' => ∃ i, r = .tuple #[.int .i64 (i : Nat), .bool (fndR ys rt i)] ∧ PlR ys rt i ∧ Ext [] W w' := by
  obtain ⟨q, cap, rfl, hcap, hsp, hl, hm⟩ := hS
  have hle : ∀ x ∈ ys, (roC x).length = 39 := fun x h => ro_len (hy x h)
  have e2 : seg (roC rt) 0 39 = some (roC rt) := ro_all hrt
  refine fn_ofM (n := 49) [] Tryz.func77 rfl rfl rfl ?_
  intro a w F M hwW
  refine c_seq ?_
  refine c_region ?_
  (refine sD F (o_box M (F.ev rfl) rfl ?_); clear F M; intro b4 w M a F)
  refine sD F (o_assign (F.ev rfl) ?_); clear F a; intro a F
  refine sD F (o_assign (F.ev rfl) ?_); clear F a; intro a F
  with_reducible refine l_nil (q_then (c_seq (c_region ?_)))
  refine sD F (o_move (F.ev rfl) ?_); clear F a; intro a F
  refine sD F (o_lenSl (F.ev rfl) ?_); clear F a; intro a F
  refine sD F (o_assign (F.ev rfl) ?_); clear F a; intro a F
  with_reducible refine l_nil (q_then (c_seq (c_region ?_)))
  refine sD F (o_move (F.ev rfl) ?_); clear F a; intro a F
  refine sD F (o_assign (F.ev rfl) ?_); clear F a; intro a F
  refine sD F (o_assign (F.ev rfl) ?_); clear F a; intro a F
  with_reducible refine l_nil (q_then (c_seq (c_block ?_)))
  refine c_loop (fun m a w => ∃ i j : Nat, m = j - i ∧ i ≤ j ∧ j ≤ ys.length ∧ (∀ k (hk : k < i) (hl : k < ys.length), cmpR ys[k] rt < 0) ∧ (∀ k (hk : j ≤ k) (hl : k < ys.length), 0 ≤ cmpR ys[k] rt) ∧ Frm a 49 [] [(9, .int .i64 i), (10, .int .i64 j), (8, .int .i64 ys.length), (0, .slice q ys.length cap), (2, .func (.func 78) #[] #[]), (4, .pointer (some ⟨b4, 0, none⟩))] ∧ Mem [] W w [(b4, .cells (roC rt).toArray 53 (0, 0))]) ys.length ⟨0, ys.length, rfl, by omega, by omega, by omega, by omega, F.only [9, 10, 8, 0, 2, 4] rfl, M⟩ ?_
  clear F M
  rintro m a w ⟨i, j, hm', hij, hj, hlo, hhi, F, M⟩
  by_cases hlt : i < j
  · obtain ⟨b, o, cs, t, fz, rfl, hb, hs⟩ := hm (by omega)
    have hmid : IntKind.i64.wrap (Int.fdiv ((i : Int) + j) (2 ^ min (Int.toNat 1) IntKind.u64.bits)) = (((i + j) / 2 : Nat) : Int) := by
      rw [show min (Int.toNat 1) IntKind.u64.bits = 1 from rfl, Int.fdiv_eq_ediv_of_nonneg _ (by omega), show (2 : Int) ^ 1 = 2 from rfl]
      have : ((i : Int) + j) / 2 = (((i + j) / 2 : Nat) : Int) := by omega
      rw [this]
      exact w_i64 (by omega) (by omega)
    with_reducible refine c_seq (c_seq (c_region ?_))
    refine sD F (o_move (F.ev rfl) ?_); clear F a; intro a F
    refine sD F (o_move (F.ev rfl) ?_); clear F a; intro a F
    refine sD F (o_lssT (F.ev rfl) (F.ev rfl) (by omega) ?_); clear F a; intro a F
    with_reducible refine l_nil (q_then ?_)
    refine c_true F rfl rfl ?_
    with_reducible refine c_skip (q_then (c_block (c_seq (c_region ?_))))
    refine sD F (o_move (F.ev rfl) ?_); clear F a; intro a F
    refine sD F (o_move (F.ev rfl) ?_); clear F a; intro a F
    refine sD F (o_add (F.ev rfl) (F.ev rfl) (w_i64 (by omega) (by omega)) ?_); clear F a; intro a F
    refine sD F (o_conv (F.ev rfl) (w_u64 (by omega) (by omega)) ?_); clear F a; intro a F
    refine sD F (o_shr (F.ev rfl) (F.ev rfl) (by omega) rfl ?_); clear F a; intro a F
    refine sD F (o_conv (F.ev rfl) rfl ?_); clear F a; intro a F
    refine sD F (o_assign (F.ev rfl) ?_); clear F a; intro a F
    with_reducible refine l_nil (q_then (c_seq ?_))
    rw [hmid] at F
    obtain ⟨h, hh⟩ : ∃ h, h = (i + j) / 2 := ⟨_, rfl⟩
    rw [← hh] at F
    have hhl : h < ys.length := by omega
    obtain ⟨x, hx0⟩ : ∃ x, x = ys[h] := ⟨_, rfl⟩
    have hxo := hy x (by rw [hx0]; exact List.getElem_mem hhl)
    have f1 : seg cs (o + (h : Int).toNat * 39) 39 = some (roC x) := by rw [hx0]; exact seg_el hle hs hhl (by omega)
    skip
    replace F := F.only [9, 10, 8, 0, 2, 4, 11] rfl
    refine c_draw 7 F (by kernel_rfl) ?_
    intro w1 hE hok
    have M1 := M.later hE
    refine mK hok rfl rfl (fun a' w' F' E' => o_move (F'.ev rfl) ⟨Ext.refl _ _, rfl⟩) ?_
    refine mK hok rfl rfl (fun a' w' F' E' => o_move (F'.ev rfl) ⟨Ext.refl _ _, rfl⟩) ?_
    refine mK hok rfl rfl (fun a' w' F' E' => o_move (F'.ev rfl) ⟨Ext.refl _ _, rfl⟩) ?_
    refine mK hok rfl rfl (fun a' w' F' E' => o_indexSl (F'.ev rfl) (F'.ev rfl) (by omega) (by omega) ⟨Ext.refl _ _, rfl⟩) ?_
    refine mK hok rfl rfl (fun a' w' F' E' => o_loadWA (M1.later E') (F'.ev rfl) (by assumption) (by first | assumption | rfl) ⟨Ext.refl _ _, rfl⟩) ?_
    refine mK hok rfl rfl (fun a' w' F' E' => o_loadA (M1.later E') (F'.ev rfl) (by repeat constructor) (by first | assumption | rfl) ⟨Ext.refl _ _, rfl⟩) ?_
    (refine mK hok rfl rfl (fun a' w' F' E' => o_call (F'.ev rfl) (F'.evs rfl) (Cal.mono (rorder_c x rt hxo hrt _) fun _ _ hh => ⟨hh.2, hh.1⟩)) ?_)
    (refine mDone rfl rfl ?_; clear F M; intro a w F hE2 hX hTT hDD hPP; have M := M1.later hE2; clear M1; clear hX; clear hE2; clear hok; clear hE; clear hTT; clear hDD; clear hPP; (try dsimp only at F))
    by_cases c1 : cmpR x rt < 0
    · refine sD F (o_lssT (F.ev rfl) (F.ev rfl) (by omega) ?_); clear F a; intro a F
      with_reducible refine l_nil (q_then ?_)
      refine c_true F rfl rfl ?_
      refine c_region ?_
      refine sD F (o_move (F.ev rfl) ?_); clear F a; intro a F
      refine sD F (o_add (F.ev rfl) (F.ev rfl) (w_i64 (by omega) (by omega)) ?_); clear F a; intro a F
      refine sD F (o_assign (F.ev rfl) ?_); clear F a; intro a F
      with_reducible refine l_nil (q_inB (q_then ?_))
      exact ⟨_, by omega, h + 1, j, rfl, by omega, by omega, fun k hk hkl => by
        rcases Nat.lt_or_ge k h with h1 | h1
        · exact cmpR_trans (hmono k h h1 hhl) (by rw [← hx0]; exact c1)
        · obtain rfl : k = h := by omega
          rw [← hx0]; exact c1, hhi, F.only [9, 10, 8, 0, 2, 4] rfl, M⟩
    · refine sD F (o_lssF (F.ev rfl) (F.ev rfl) (by omega) ?_); clear F a; intro a F
      with_reducible refine l_nil (q_then ?_)
      refine c_false F rfl rfl ?_
      refine c_region ?_
      refine sD F (o_move (F.ev rfl) ?_); clear F a; intro a F
      refine sD F (o_assign (F.ev rfl) ?_); clear F a; intro a F
      with_reducible refine l_nil (q_inB (q_then ?_))
      exact ⟨_, by omega, i, h, rfl, by omega, by omega, hlo, fun k hk hkl => by
        rcases Nat.lt_or_ge h k with h1 | h1
        · have h2 := hmono h k h1 hkl
          rw [← hx0] at h2
          rcases Int.lt_or_le (cmpR ys[k] rt) 0 with h3 | h3
          · exact absurd (cmpR_trans h2 h3) c1
          · exact h3
        · obtain rfl : k = h := by omega
          rw [← hx0]; omega, F.only [9, 10, 8, 0, 2, 4] rfl, M⟩
  · obtain rfl : i = j := by omega
    have hP : PlR ys rt i := ⟨hj, hlo, hhi⟩
    with_reducible refine c_seq (c_seq (c_region ?_))
    refine sD F (o_move (F.ev rfl) ?_); clear F a; intro a F
    refine sD F (o_move (F.ev rfl) ?_); clear F a; intro a F
    refine sD F (o_lssF (F.ev rfl) (F.ev rfl) (by omega) ?_); clear F a; intro a F
    with_reducible refine l_nil (q_then ?_)
    refine c_false F rfl rfl ?_
    with_reducible refine c_exit (q_thenX (q_thenX (q_inBX (q_then (c_seq ?_)))))
    replace F := F.only [9, 8, 0, 2, 4] rfl
    by_cases hil : i < ys.length
    · obtain ⟨b, o, cs, t, fz, rfl, hb, hs⟩ := hm (by omega)
      obtain ⟨x, hx0⟩ : ∃ x, x = ys[i] := ⟨_, rfl⟩
      have hxo := hy x (by rw [hx0]; exact List.getElem_mem hil)
      have f1 : seg cs (o + (i : Int).toNat * 39) 39 = some (roC x) := by rw [hx0]; exact seg_el hle hs hil (by omega)
      have hf := fndR_at (x := rt) hil
      rw [← hx0] at hf
      by_cases c1 : cmpR x rt = 0
      · rw [decide_eq_true c1] at hf
        refine c_draw 15 F (by kernel_rfl) ?_
        intro w1 hE hok
        have M1 := M.later hE
        refine mK hok rfl rfl (fun a' w' F' E' => o_move (F'.ev rfl) ⟨Ext.refl _ _, rfl⟩) ?_
        refine mK hok rfl rfl (fun a' w' F' E' => o_move (F'.ev rfl) ⟨Ext.refl _ _, rfl⟩) ?_
        refine mK hok rfl rfl (fun a' w' F' E' => o_move (F'.ev rfl) ⟨Ext.refl _ _, rfl⟩) ?_
        refine mK hok rfl rfl (fun a' w' F' E' => o_lssT (F'.ev rfl) (F'.ev rfl) (by omega) ⟨Ext.refl _ _, rfl⟩) ?_
        refine mK hok rfl rfl (fun a' w' F' E' => o_move (F'.ev rfl) ⟨Ext.refl _ _, rfl⟩) ?_
        refine mKG hok rfl rfl rfl rfl (fun a' w' F' E' => o_move (F'.ev rfl) ⟨Ext.refl _ _, rfl⟩) ?_
        refine mKG hok rfl rfl rfl rfl (fun a' w' F' E' => o_move (F'.ev rfl) ⟨Ext.refl _ _, rfl⟩) ?_
        refine mKG hok rfl rfl rfl rfl (fun a' w' F' E' => o_move (F'.ev rfl) ⟨Ext.refl _ _, rfl⟩) ?_
        refine mKG hok rfl rfl rfl rfl (fun a' w' F' E' => o_indexSl (F'.ev rfl) (F'.ev rfl) (by omega) (by omega) ⟨Ext.refl _ _, rfl⟩) ?_
        refine mKG hok rfl rfl rfl rfl (fun a' w' F' E' => o_loadWA (M1.later E') (F'.ev rfl) (by assumption) (by first | assumption | rfl) ⟨Ext.refl _ _, rfl⟩) ?_
        refine mKG hok rfl rfl rfl rfl (fun a' w' F' E' => o_loadA (M1.later E') (F'.ev rfl) (by repeat constructor) (by first | assumption | rfl) ⟨Ext.refl _ _, rfl⟩) ?_
        (refine mKG hok rfl rfl rfl rfl (fun a' w' F' E' => o_call (F'.ev rfl) (F'.evs rfl) (Cal.mono (rorder_c x rt hxo hrt _) fun _ _ hh => ⟨hh.2, hh.1⟩)) ?_)
        refine mKG hok rfl rfl rfl rfl (fun a' w' F' E' => o_eqlT (F'.ev rfl) (F'.ev rfl) (by omega) ⟨Ext.refl _ _, rfl⟩) ?_
        refine mK hok rfl rfl (fun a' w' F' E' => o_pickT (F'.ev rfl) (F'.ev rfl) ⟨Ext.refl _ _, rfl⟩) ?_
        refine mK hok rfl rfl (fun a' w' F' E' => o_assign (F'.ev rfl) ⟨Ext.refl _ _, rfl⟩) ?_
        (refine mDone rfl rfl ?_; clear F M; intro a w F hE2 hX hTT hDD hPP; have M := M1.later hE2; clear M1; clear hX; clear hE2; clear hok; clear hE; clear hTT; clear hDD; clear hPP; (try dsimp only at F))
        refine sD F (o_assign (F.ev rfl) ?_); clear F a; intro a F
        with_reducible refine l_nil (q_then (c_ret ?_))
        refine p_ret F rfl (.cons (.tmp (F.ev rfl)) (.cons (.tmp (F.ev rfl)) .nil)) ?_
        exact ⟨i, by rw [hf]; rfl, hP, M.ext⟩
      · rw [decide_eq_false c1] at hf
        refine c_draw 15 F (by kernel_rfl) ?_
        intro w1 hE hok
        have M1 := M.later hE
        refine mK hok rfl rfl (fun a' w' F' E' => o_move (F'.ev rfl) ⟨Ext.refl _ _, rfl⟩) ?_
        refine mK hok rfl rfl (fun a' w' F' E' => o_move (F'.ev rfl) ⟨Ext.refl _ _, rfl⟩) ?_
        refine mK hok rfl rfl (fun a' w' F' E' => o_move (F'.ev rfl) ⟨Ext.refl _ _, rfl⟩) ?_
        refine mK hok rfl rfl (fun a' w' F' E' => o_lssT (F'.ev rfl) (F'.ev rfl) (by omega) ⟨Ext.refl _ _, rfl⟩) ?_
        refine mK hok rfl rfl (fun a' w' F' E' => o_move (F'.ev rfl) ⟨Ext.refl _ _, rfl⟩) ?_
        refine mKG hok rfl rfl rfl rfl (fun a' w' F' E' => o_move (F'.ev rfl) ⟨Ext.refl _ _, rfl⟩) ?_
        refine mKG hok rfl rfl rfl rfl (fun a' w' F' E' => o_move (F'.ev rfl) ⟨Ext.refl _ _, rfl⟩) ?_
        refine mKG hok rfl rfl rfl rfl (fun a' w' F' E' => o_move (F'.ev rfl) ⟨Ext.refl _ _, rfl⟩) ?_
        refine mKG hok rfl rfl rfl rfl (fun a' w' F' E' => o_indexSl (F'.ev rfl) (F'.ev rfl) (by omega) (by omega) ⟨Ext.refl _ _, rfl⟩) ?_
        refine mKG hok rfl rfl rfl rfl (fun a' w' F' E' => o_loadWA (M1.later E') (F'.ev rfl) (by assumption) (by first | assumption | rfl) ⟨Ext.refl _ _, rfl⟩) ?_
        refine mKG hok rfl rfl rfl rfl (fun a' w' F' E' => o_loadA (M1.later E') (F'.ev rfl) (by repeat constructor) (by first | assumption | rfl) ⟨Ext.refl _ _, rfl⟩) ?_
        (refine mKG hok rfl rfl rfl rfl (fun a' w' F' E' => o_call (F'.ev rfl) (F'.evs rfl) (Cal.mono (rorder_c x rt hxo hrt _) fun _ _ hh => ⟨hh.2, hh.1⟩)) ?_)
        refine mKG hok rfl rfl rfl rfl (fun a' w' F' E' => o_eqlF (F'.ev rfl) (F'.ev rfl) (by omega) ⟨Ext.refl _ _, rfl⟩) ?_
        refine mK hok rfl rfl (fun a' w' F' E' => o_pickT (F'.ev rfl) (F'.ev rfl) ⟨Ext.refl _ _, rfl⟩) ?_
        refine mK hok rfl rfl (fun a' w' F' E' => o_assign (F'.ev rfl) ⟨Ext.refl _ _, rfl⟩) ?_
        (refine mDone rfl rfl ?_; clear F M; intro a w F hE2 hX hTT hDD hPP; have M := M1.later hE2; clear M1; clear hX; clear hE2; clear hok; clear hE; clear hTT; clear hDD; clear hPP; (try dsimp only at F))
        refine sD F (o_assign (F.ev rfl) ?_); clear F a; intro a F
        with_reducible refine l_nil (q_then (c_ret ?_))
        refine p_ret F rfl (.cons (.tmp (F.ev rfl)) (.cons (.tmp (F.ev rfl)) .nil)) ?_
        exact ⟨i, by rw [hf]; rfl, hP, M.ext⟩
    · have hf : fndR ys rt i = false := by simp [fndR, List.getElem?_eq_none (show ys.length ≤ i by omega)]
      refine c_draw 15 F (by kernel_rfl) ?_
      intro w1 hE hok
      have M1 := M.later hE
      refine mK hok rfl rfl (fun a' w' F' E' => o_move (F'.ev rfl) ⟨Ext.refl _ _, rfl⟩) ?_
      refine mK hok rfl rfl (fun a' w' F' E' => o_move (F'.ev rfl) ⟨Ext.refl _ _, rfl⟩) ?_
      refine mK hok rfl rfl (fun a' w' F' E' => o_move (F'.ev rfl) ⟨Ext.refl _ _, rfl⟩) ?_
      refine mK hok rfl rfl (fun a' w' F' E' => o_lssF (F'.ev rfl) (F'.ev rfl) (by omega) ⟨Ext.refl _ _, rfl⟩) ?_
      refine mK hok rfl rfl (fun a' w' F' E' => o_move (F'.ev rfl) ⟨Ext.refl _ _, rfl⟩) ?_
      refine mOff hok rfl rfl rfl rfl rfl ?_
      refine mOff hok rfl rfl rfl rfl rfl ?_
      refine mOff hok rfl rfl rfl rfl rfl ?_
      refine mOff hok rfl rfl rfl rfl rfl ?_
      refine mOff hok rfl rfl rfl rfl rfl ?_
      refine mOff hok rfl rfl rfl rfl rfl ?_
      refine mOff hok rfl rfl rfl rfl rfl ?_
      refine mOff hok rfl rfl rfl rfl rfl ?_
      refine mK hok rfl rfl (fun a' w' F' E' => o_pickF (F'.ev rfl) (F'.ev rfl) ⟨Ext.refl _ _, rfl⟩) ?_
      refine mK hok rfl rfl (fun a' w' F' E' => o_assign (F'.ev rfl) ⟨Ext.refl _ _, rfl⟩) ?_
      (refine mDone rfl rfl ?_; clear F M; intro a w F hE2 hX hTT hDD hPP; have M := M1.later hE2; clear M1; clear hX; clear hE2; clear hok; clear hE; clear hTT; clear hDD; clear hPP; (try dsimp only at F))
      refine sD F (o_assign (F.ev rfl) ?_); clear F a; intro a F
      with_reducible refine l_nil (q_then (c_ret ?_))
      refine p_ret F rfl (.cons (.tmp (F.ev rfl)) (.cons (.tmp (F.ev rfl)) .nil)) ?_
      exact ⟨i, by rw [hf]; rfl, hP, M.ext⟩
end Go.Proofs.YtilgoepokaaleaaGreat
/-! Z8 -/
namespace Go.Proofs.YtilgoepokaaleaaGreat
set_option linter.unusedVariables false
set_option linter.unusedSimpArgs false
open Go.RowKit
attribute [local irreducible] OpTo wpListIn Code.wpIn MW Cal
def learnV (l : List RouV) (now : Int) (t : DstV) (nb : Int) (d : DisV) : List RouV × Int :=
  if !validRs l || !validT t || !validM d.met || decide (nb = 0) then ([], 1) else if !isTime now then ([], 2)
  else if 512 < (putR l ⟨t, nb, d, laterV now 10⟩ (decide (d.met = inf))).length then ([], 10) else (putR l ⟨t, nb, d, laterV now 10⟩ (decide (d.met = inf)), 0)
end Go.Proofs.YtilgoepokaaleaaGreat
/-! YA -/
namespace Go.Proofs.YtilgoepokaaleaaGreat
set_option linter.unusedVariables false
set_option linter.unusedSimpArgs false
open Go.RowKit
attribute [local irreducible] OpTo wpListIn Code.wpIn MW Cal
theorem seqE_c {bt : Nat} {p : Option Addr} {len cap k : Nat} {xs : List Int} (W : World) (hT : TapeS W bt p len xs) (hb : W.heap[bt]? = some (tobj p len cap k)) :
    Cal Tryz.prog 88 [.pointer (some ⟨bt, 0, none⟩)].toArray W fun v w' => ∃ x k', v = .int .u16 x ∧ Mem [bt] W w' [(bt, tobj p len cap k')] := by
  refine fn_ofM (n := 7) [bt] Tryz.func88 rfl rfl rfl ?_
  intro a w F M hwW
  replace M := M.came hwW hb (by simp) (by simp)
  refine c_seq (c_region ?_)
  refine sD F (o_assign (F.ev rfl) ?_); clear F a; intro a F
  with_reducible refine l_nil (q_then (c_seq (c_region ?_)))
  refine sD F (o_move (F.ev rfl) ?_); clear F a; intro a F
  (refine sD F (o_call (F.ev rfl) (F.evs rfl) (Cal.mono (nextE_c 6 (by omega) (by omega) _ (hT.later M.ext) (M.heap .here) ) ?_)); clear F; clear a; have M0 := M; clear M; rintro _ w ⟨x, k', rfl, hx, N⟩ a F)
  replace M := M0.turn1 N .here
  clear M0 N
  refine sD F (o_sub (F.ev rfl) (F.ev rfl) (w_i64 (by omega) (by omega)) ?_); clear F a; intro a F
  refine sD F (o_conv (F.ev rfl) rfl ?_); clear F a; intro a F
  refine sD F (o_assign (F.ev rfl) ?_); clear F a; intro a F
  with_reducible refine l_nil (q_then (c_ret ?_))
  refine p_ret F rfl (.cons (.tmp (F.ev rfl)) .nil) ?_
  exact ⟨_, k', rfl, M⟩
theorem costE_c {bt : Nat} {p : Option Addr} {len cap k : Nat} {xs : List Int} (W : World) (hT : TapeS W bt p len xs) (hb : W.heap[bt]? = some (tobj p len cap k)) :
    Cal Tryz.prog 44 [.pointer (some ⟨bt, 0, none⟩)].toArray W fun v w' => ∃ x k', v = .int .i64 x ∧ (0 ≤ x ∧ x ≤ 65534) ∧ Mem [bt] W w' [(bt, tobj p len cap k')] := by
  refine fn_ofM (n := 18) [bt] Tryz.func44 rfl rfl rfl ?_
  intro a w F M hwW
  replace M := M.came hwW hb (by simp) (by simp)
  refine c_seq (c_region ?_)
  refine sD F (o_assign (F.ev rfl) ?_); clear F a; intro a F
  with_reducible refine l_nil (q_then (c_seq (c_seq (c_region ?_))))
  refine sD F (o_move (F.ev rfl) ?_); clear F a; intro a F
  (refine sD F (o_call (F.ev rfl) (F.evs rfl) (Cal.mono (nextE_c 6 (by omega) (by omega) _ (hT.later M.ext) (M.heap .here) ) ?_)); clear F; clear a; have M0 := M; clear M; rintro _ w ⟨x, k', rfl, hx, N⟩ a F)
  replace M := M0.turn1 N .here
  clear M0 N
  by_cases c1 : x = 0
  · with_reducible refine l_nil ?_
    with_reducible refine q_then (c_block (c_seq (c_region ?_)))
    refine sD F (o_eqlT (F.ev rfl) (F.ev rfl) (by omega) ?_); clear F a; intro a F
    refine sD F (o_assign (F.ev rfl) ?_); clear F a; intro a F
    with_reducible refine l_nil (q_then ?_)
    refine c_true F rfl rfl ?_
    refine c_seq (c_region ?_)
    refine sD F (o_move (F.ev rfl) ?_); clear F a; intro a F
    (refine sD F (o_call (F.ev rfl) (F.evs rfl) (Cal.mono (nextE_c 4 (by omega) (by omega) _ (hT.later M.ext) (M.heap .here) ) ?_)); clear F; clear a; have M0 := M; clear M; rintro _ w ⟨x2, k2, rfl, hx2, N⟩ a F)
    replace M := M0.turn1 N .here
    refine sD F (o_assign (F.ev rfl) ?_); clear F a; intro a F
    with_reducible refine l_nil (q_then (c_ret (q_inBR (q_thenR ?_))))
    refine p_ret F rfl (.cons (.tmp (F.ev rfl)) .nil) ?_
    exact ⟨_, k2, rfl, by omega, M⟩
  by_cases c2 : x = 1
  · with_reducible refine l_nil ?_
    with_reducible refine q_then (c_block (c_seq (c_region ?_)))
    refine sD F (o_eqlF (F.ev rfl) (F.ev rfl) (by omega) ?_); clear F a; intro a F
    refine sD F (o_assign (F.ev rfl) ?_); clear F a; intro a F
    with_reducible refine l_nil (q_then ?_)
    refine c_false F rfl rfl ?_
    refine c_seq (c_region ?_)
    refine sD F (o_eqlT (F.ev rfl) (F.ev rfl) (by omega) ?_); clear F a; intro a F
    refine sD F (o_assign (F.ev rfl) ?_); clear F a; intro a F
    with_reducible refine l_nil (q_then ?_)
    refine c_true F rfl rfl ?_
    refine c_seq (c_region ?_)
    refine sD F (o_move (F.ev rfl) ?_); clear F a; intro a F
    (refine sD F (o_call (F.ev rfl) (F.evs rfl) (Cal.mono (nextE_c 600 (by omega) (by omega) _ (hT.later M.ext) (M.heap .here) ) ?_)); clear F; clear a; have M0 := M; clear M; rintro _ w ⟨x2, k2, rfl, hx2, N⟩ a F)
    replace M := M0.turn1 N .here
    refine sD F (o_sub (F.ev rfl) (F.ev rfl) (w_i64 (by omega) (by omega)) ?_); clear F a; intro a F
    refine sD F (o_assign (F.ev rfl) ?_); clear F a; intro a F
    with_reducible refine l_nil (q_then (c_ret (q_inBR (q_thenR ?_))))
    refine p_ret F rfl (.cons (.tmp (F.ev rfl)) .nil) ?_
    exact ⟨_, k2, rfl, by omega, M⟩
  · with_reducible refine l_nil ?_
    with_reducible refine q_then (c_block (c_seq (c_region ?_)))
    refine sD F (o_eqlF (F.ev rfl) (F.ev rfl) (by omega) ?_); clear F a; intro a F
    refine sD F (o_assign (F.ev rfl) ?_); clear F a; intro a F
    with_reducible refine l_nil (q_then ?_)
    refine c_false F rfl rfl ?_
    refine c_seq (c_region ?_)
    refine sD F (o_eqlF (F.ev rfl) (F.ev rfl) (by omega) ?_); clear F a; intro a F
    refine sD F (o_assign (F.ev rfl) ?_); clear F a; intro a F
    with_reducible refine l_nil (q_then ?_)
    refine c_false F rfl rfl ?_
    with_reducible refine c_skip (q_inB (q_then (c_seq (c_region ?_))))
    refine sD F (o_move (F.ev rfl) ?_); clear F a; intro a F
    (refine sD F (o_call (F.ev rfl) (F.evs rfl) (Cal.mono (nextE_c 30 (by omega) (by omega) _ (hT.later M.ext) (M.heap .here) ) ?_)); clear F; clear a; have M0 := M; clear M; rintro _ w ⟨x2, k2, rfl, hx2, N⟩ a F)
    replace M := M0.turn1 N .here
    refine sD F (o_mul (F.ev rfl) (F.ev rfl) (w_i64 (by omega) (by omega)) ?_); clear F a; intro a F
    refine sD F (o_add (F.ev rfl) (F.ev rfl) (w_i64 (by omega) (by omega)) ?_); clear F a; intro a F
    refine sD F (o_assign (F.ev rfl) ?_); clear F a; intro a F
    with_reducible refine l_nil (q_then (c_ret ?_))
    refine p_ret F rfl (.cons (.tmp (F.ev rfl)) .nil) ?_
    exact ⟨_, k2, rfl, by omega, M⟩
theorem distE_c {bt : Nat} {p : Option Addr} {len cap k : Nat} {xs : List Int} (W : World) (hT : TapeS W bt p len xs) (hb : W.heap[bt]? = some (tobj p len cap k)) :
    Cal Tryz.prog 39 [.pointer (some ⟨bt, 0, none⟩)].toArray W fun v w' => ∃ x k', v = diV x ∧ (0 ≤ x.met ∧ x.met ≤ 65534) ∧ Mem [bt] W w' [(bt, tobj p len cap k')] := by
  refine fn_ofM (n := 8) [bt] Tryz.func39 rfl rfl rfl ?_
  intro a w F M hwW
  replace M := M.came hwW hb (by simp) (by simp)
  refine c_seq ?_
  refine c_region ?_
  (refine sD F (o_alloc M ?_); clear F M; intro b2 w M a F)
  with_reducible refine l_nil (q_then (c_seq (c_region ?_)))
  refine sD F (o_move (F.ev rfl) ?_); clear F a; intro a F
  (refine sD F (o_call (F.ev rfl) (F.evs rfl) (Cal.mono (seqE_c _ (hT.later M.ext) (M.heap (.there .here)) ) ?_)); clear F; clear a; have M0 := M; clear M; rintro _ w ⟨x, k1, rfl, N⟩ a F)
  replace M := M0.turn1 N (.there .here)
  clear M0 N
  refine sD F (o_move (F.ev rfl) ?_); clear F a; intro a F
  (refine sD F (o_call (F.ev rfl) (F.evs rfl) (Cal.mono (costE_c _ (hT.later M.ext) (M.heap (.there .here)) ) ?_)); clear F; clear a; have M0 := M; clear M; rintro _ w ⟨y, k2, rfl, hy, N⟩ a F)
  replace M := M0.turn1 N (.there .here)
  clear M0 N
  refine sD F (o_build F rfl rfl ?_); clear F a; intro a F
  (refine stepN rfl F (o_storeA M (F.ev rfl) (F.ev rfl) (by rfl) (by rfl) (by repeat constructor) (by rfl) (by repeat constructor) ?_); clear F M; intro w M a F)
  with_reducible refine l_nil (q_then (c_ret ?_))
  exact p_ret F rfl (.cons (.cell (F.ev rfl) (run_loadVar_agg TAgg.h (M.heap (by repeat constructor)) rfl)) .nil) ⟨⟨x, y⟩, k2, rfl, hy, M.sub (.cons _ (.refl _))⟩
def tabTo : List Int := [128, 128, 64, 0]
theorem tabTo_bd (i : Nat) : 0 ≤ tabTo.getD i 0 ∧ tabTo.getD i 0 ≤ 128 := by
  rcases Nat.lt_or_ge i 4 with h | h
  · have : ∀ i : Fin 4, 0 ≤ tabTo.getD i.val 0 ∧ tabTo.getD i.val 0 ≤ 128 := by decide
    exact this ⟨i, h⟩
  · rw [List.getD_eq_getElem?_getD, List.getElem?_eq_none (by simpa [tabTo] using h)]
    simp
def zr16 : List Int := [0, 0, 0, 0, 0, 0, 0, 0, 0, 0, 0, 0, 0, 0, 0, 0]
theorem zr16_is : IsIP zr16 := ⟨rfl, by intro x hx; simp [zr16] at hx; omega⟩
theorem dv_buildT {z : List Int} (hz : IsIP z) (n e : Int) : putAll [(0, 17), (17, 17), (34, 1)] dvZ [(0, pfC z n), (2, [.int .u64 e])] = some (dvC ⟨z, n, zr16, 0, e⟩) := by
  obtain ⟨z0, z1, z2, z3, z4, z5, z6, z7, z8, z9, z10, z11, z12, z13, z14, z15, ez⟩ := len16 hz.len
  subst ez
  rfl
theorem zero_valid : validP zr16 0 = true := by decide
set_option maxHeartbeats 1000000 in
theorem toE_c {bt : Nat} {p : Option Addr} {len cap k : Nat} {xs : List Int} (W : World) (hT : TapeS W bt p len xs) (hb : W.heap[bt]? = some (tobj p len cap k)) :
    Cal Tryz.prog 20 [.pointer (some ⟨bt, 0, none⟩)].toArray W fun v w' => ∃ x k', v = dvV x ∧ IsDv x ∧ validT x = true ∧ Mem [bt] W w' [(bt, tobj p len cap k')] := by
  refine fn_ofM (n := 21) [bt] Tryz.func20 rfl rfl rfl ?_
  intro a w F M hwW
  replace M := M.came hwW hb (by simp) (by simp)
  refine c_seq ?_
  refine c_region ?_
  (refine sD F (o_alloc M ?_); clear F M; intro b2 w M a F)
  with_reducible refine l_nil (q_then (c_seq (c_region ?_)))
  refine sD F (o_move (F.ev rfl) ?_); clear F a; intro a F
  (refine sD F (o_call (F.ev rfl) (F.evs rfl) (Cal.mono (wipD_c _ (hT.later M.ext) (M.heap (.there .here)) ) ?_)); clear F; clear a; have M0 := M; clear M; rintro _ w ⟨rfl, N⟩ a F)
  replace M := M0.turn1 N (.there .here)
  clear M0 N
  have hip := wipV_is xs k
  generalize wipV xs k = ip at *
  generalize wipK xs k = k1 at *
  skip
  (refine sD F (o_buildSlice F M rfl rfl rfl rfl ?_); clear F M; intro b6 w M a F)
  refine sD F (o_move (F.ev rfl) ?_); clear F a; intro a F
  (refine sD F (o_call (F.ev rfl) (F.evs rfl) (Cal.mono (next_c 4 (by omega) (by omega) _ (hT.later M.ext) (M.heap (.there (.there .here))) ) ?_)); clear F; clear a; have M0 := M; clear M; rintro _ w ⟨rfl, N⟩ a F)
  replace M := M0.turn1 N (.there (.there .here))
  clear M0 N
  have v1 := nxV_bd xs k1 (n := 4) (by omega)
  have n1 := nth_tab (k := .i64) (xs := tabTo) v1.1 (by simpa [tabTo] using v1.2)
  have hbd := tabTo_bd (nxV xs k1 4).toNat
  (refine sD F (o_indexSl (F.ev rfl) (F.ev rfl) (by omega) (by omega) ?_); clear F a; intro a F)
  (refine sD F (o_load1 M (F.ev rfl) (by repeat constructor) (n1) ?_); clear F a; intro a F)
  generalize tabTo.getD (nxV xs k1 4).toNat 0 = n at *
  generalize nxV xs k1 4 = q at *
  generalize nxK xs k1 = k2 at *
  have hcl : clampB n = n := clamp_in hbd.1 hbd.2
  (refine sD F (o_call (F.ev rfl) (F.evs rfl) (Cal.mono (Cal.to (rmask_c ip hip n _) (by rw [hcl])) ?_)); clear F; clear a; rintro _ w ⟨rfl, hE⟩ a F; replace M := M.later hE; clear hE)
  have hmi := mask_isIP hip n
  have hvm := valid_mask hip hbd.1 hbd.2
  generalize maskI ip n = mip at *
  refine sD F (o_move (F.ev rfl) ?_); clear F a; intro a F
  (refine sD F (o_call (F.ev rfl) (F.evs rfl) (Cal.mono (eui_c _ (hT.later M.ext) (M.heap (.there (.there .here))) ) ?_)); clear F; clear a; have M0 := M; clear M; rintro _ w ⟨e, k3, rfl, he, N⟩ a F)
  replace M := M0.turn1 N (.there (.there .here))
  clear M0 N
  have hd : IsDv ⟨mip, n, zr16, 0, e⟩ := ⟨hmi, zr16_is⟩
  (refine sD F (o_build F rfl (dv_buildT hmi n e) ?_); clear F a; intro a F)
  skip
  (refine sD F (o_alloc M ?_); clear F M; intro b3 w M a F)
  (refine stepN rfl F (o_storeA M (F.ev rfl) (F.ev rfl) (dv_len hd) (dv_one _)  (by repeat constructor)  (put_all (by rw [dv_len hd]; rfl)) (by repeat constructor) ?_); clear F M; intro w M a F)
  with_reducible refine l_nil (q_then (c_seq (c_seq (c_region ?_))))
  refine sD F (o_move (F.ev rfl) ?_); clear F a; intro a F
  (refine sD F (o_call (F.ev rfl) (F.evs rfl) (Cal.mono (boolE_c 3 (by omega) (by omega) _ (hT.later M.ext) (M.heap (.there (.there (.there .here)))) ) ?_)); clear F; clear a; have M0 := M; clear M; rintro _ w ⟨c, k4, rfl, N⟩ a F)
  replace M := M0.turn1 N (.there (.there (.there .here)))
  clear M0 N
  cases c
  · have g0 := dv_all hd
    with_reducible refine l_nil (q_then ?_)
    refine c_false F rfl rfl ?_
    with_reducible refine c_skip (q_then (c_seq (c_region ?_)))
    refine sD F (o_loadA M (F.ev rfl) (by repeat constructor) (by first | assumption | rfl) ?_); clear F a; intro a F
    (refine stepN rfl F (o_storeA M (F.ev rfl) (F.ev rfl) (dv_len hd) (dv_one _)  (by repeat constructor)  (put_all (by rw [dv_len hd]; rfl)) (by repeat constructor) ?_); clear F M; intro w M a F)
    with_reducible refine l_nil (q_then (c_ret ?_))
    exact p_ret F rfl (.cons (.cell (F.ev rfl) (run_loadVar_agg TAgg.h (M.heap (by repeat constructor)) g0)) .nil) ⟨_, k4, rfl, hd, by simp [validT, hvm, zero_valid]; omega, M.sub (by repeat (first | exact List.Sublist.refl _ | apply List.Sublist.cons))⟩
  · with_reducible refine l_nil ?_
    with_reducible refine q_then ?_
    refine c_true F rfl rfl ?_
    refine c_region ?_
    refine sD F (o_move (F.ev rfl) ?_); clear F a; intro a F
    (refine sD F (o_call (F.ev rfl) (F.evs rfl) (Cal.mono (wprefix_c _ (hT.later M.ext) (M.heap (.there (.there (.there .here)))) ) ?_)); clear F; clear a; have M0 := M; clear M; rintro _ w ⟨rfl, N⟩ a F)
    replace M := M0.turn1 N (.there (.there (.there .here)))
    clear M0 N
    have hpi : IsIP (maskI (wpA xs k4) (wpN xs k4)) := mask_isIP (wipV_is _ _) _
    have hpb := wpN_bd xs k4
    have hpv := valid_mask (wipV_is xs (wpK0 xs k4)) hpb.1 hpb.2
    change validP (maskI (wpA xs k4) (wpN xs k4)) (wpN xs k4) = true at hpv
    generalize maskI (wpA xs k4) (wpN xs k4) = sip at *
    generalize wpN xs k4 = sn at *
    generalize wpK xs k4 = k5 at *
    have hd2 : IsDv ⟨mip, n, sip, sn, e⟩ := ⟨hmi, hpi⟩
    have g0 := dv_all hd2
    refine sD F (o_fieldAddr (F.ev rfl) ?_); clear F a; intro a F
    (refine stepN rfl F (o_storeA M (F.ev rfl) (F.ev rfl) (pfC_len hpi.len sn) (one_pf _ _)  (by repeat constructor)  (dv_put_src hd hpi sn) (by repeat constructor) ?_); clear F M; intro w M a F)
    replace M : Mem [bt] W w [(b3, .cells (dvC ⟨mip, n, sip, sn, e⟩).toArray 45 (0, 0)), (b6, _), (b2, _), (bt, _)] := M
    with_reducible refine l_nil (q_then (c_seq (c_region ?_)))
    refine sD F (o_loadA M (F.ev rfl) (by repeat constructor) (by first | assumption | rfl) ?_); clear F a; intro a F
    (refine stepN rfl F (o_storeA M (F.ev rfl) (F.ev rfl) (dv_len hd2) (dv_one _)  (by repeat constructor)  (put_all (by rw [dv_len hd2]; rfl)) (by repeat constructor) ?_); clear F M; intro w M a F)
    with_reducible refine l_nil (q_then (c_ret ?_))
    exact p_ret F rfl (.cons (.cell (F.ev rfl) (run_loadVar_agg TAgg.h (M.heap (by repeat constructor)) g0)) .nil) ⟨_, k5, rfl, hd2, by simp [validT, hvm, hpv]; omega, M.sub (by repeat (first | exact List.Sublist.refl _ | apply List.Sublist.cons))⟩
end Go.Proofs.YtilgoepokaaleaaGreat
/-! YB -/
namespace Go.Proofs.YtilgoepokaaleaaGreat
set_option linter.unusedVariables false
set_option linter.unusedSimpArgs false
open Go.RowKit
attribute [local irreducible] OpTo wpListIn Code.wpIn MW Cal
/-! slices in new memory -/
def SlN (n0 : Nat) (W : World) (sz : Nat) (v : Value) (n : Nat) (cs : List Value) : Prop := SlAt W sz v n cs ∧ NewV n0 v
section
variable {n0 n1 bt sz n : Nat} {W w : World} {v : Value} {cs : List Value}
theorem SlN.mono (h : SlN n1 W sz v n cs) (hle : n0 ≤ n1) : SlN n0 W sz v n cs := ⟨h.1, fun b o s k c e => Nat.le_trans hle (h.2 b o s k c e)⟩
theorem SlN.notIn (h : SlN n0 W sz v n cs) (hbt : bt < n0) : ∀ b o s k c, v = .slice (some ⟨b, o, s⟩) k c → b ∉ [bt] := fun b o s k c e hb => by
  have := h.2 b o s k c e
  simp only [List.mem_singleton] at hb
  omega
theorem SlN.laterB (h : SlN n0 W sz v n cs) (hbt : bt < n0) (E : Ext [bt] W w) : SlN n0 w sz v n cs := ⟨h.1.laterB (h.notIn hbt) E, h.2⟩
theorem SlN.later (h : SlN n0 W sz v n cs) (E : Ext [] W w) : SlN n0 w sz v n cs := ⟨h.1.later E, h.2⟩
theorem SlN.nil (n0 sz : Nat) (W : World) : SlN n0 W sz (.slice none 0 0) 0 [] := ⟨SlAt.nil _ _, NewV.nil _ _ _⟩
theorem OwnS.slN {e : TypeId} {ent : List (Nat × Obj)} (h : OwnS e sz v n cs ent) {S : List Nat} {W0 : World} {l : List (Nat × Obj)} (M : Mem S W0 w l) (hs : ∀ p ∈ ent, p ∈ l) (hS : ∀ p ∈ ent, p.1 ∉ S) : SlN W0.heap.size w sz v n cs := by
  refine ⟨h.slAt M hs, ?_⟩
  rcases h with ⟨rfl, _, _, rfl⟩ | ⟨b, cap, junk, rfl, rfl, _, _, _⟩
  · exact NewV.nil _ _ _
  · intro b' o s n c h
    cases h
    exact (M.own _ (hs _ List.mem_cons_self)).resolve_left (hS _ List.mem_cons_self)
theorem SlAt.mem {q : Option Addr} {cap : Nat} (h : SlAt W sz (.slice q n cap) n cs) : 0 < n → ∃ b o xs t fz, q = some ⟨b, o, none⟩ ∧ W.heap[b]? = some (.cells (List.toArray xs) t fz) ∧ seg xs o (n * sz) = some cs := by
  obtain ⟨p, cap', e, _, _, _, h5⟩ := h
  cases e
  exact h5
theorem nd_not {b : Nat} {o : Obj} {l ent : List (Nat × Obj)} (h : (((b, o) :: l).map (·.1)).Nodup) (hs : ∀ p ∈ ent, p ∈ l) : ∀ p ∈ ent, p.1 ∉ [b] := fun p hp hb => by
  simp only [List.mem_singleton] at hb
  exact (List.nodup_cons.1 h).1 (List.mem_map.2 ⟨p, hs p hp, hb⟩)
end
/-! PutInstalled, plain -/
end Go.Proofs.YtilgoepokaaleaaGreat

/-
  PROVED: for every input RoutesTables answers true, and each argument reads afterwards as it read before.
-/
import Derived.Test.YtilgoepokaaleaaGreatTables6
/-! YP -/
namespace Go.Proofs.YtilgoepokaaleaaGreat
set_option linter.unusedVariables false
set_option linter.unusedSimpArgs false
open Go.RowKit
attribute [local irreducible] OpTo wpListIn Code.wpIn MW Cal
set_option maxHeartbeats 8000000 in
theorem learnA_c (l : List RouV) (hx : ∀ x ∈ l, IsRo x) (v : Value) (now : Int) (t : DstV) (ht : IsDv t) (nb : Int) (d : DisV) (W : World) (hS : SlAt W 39 v l.length (rosC l)) :
    Cal Tryz.prog 31 [v, .int .i64 now, .agg (dvC t).toArray, .int .u64 nb, .agg (diC d).toArray].toArray W fun r w' => ∃ u ent, r = .tuple [u, .int .i64 (learnV l now t nb d).2].toArray ∧ OwnS 53 39 u (learnV l now t nb d).1.length (rosC (learnV l now t nb d).1) ent ∧ Mem [] W w' ent := by
  have e1 := dv_all ht
  have e2 := di_all (o := d) trivial
  have e3 := di_met (o := d) trivial
  refine fn_ofM (n := 82) [] Tryz.func31 rfl rfl rfl ?_
  intro a w F M hwW
  refine c_seq ?_
  refine c_region ?_
  (refine sD F (o_box M (F.ev rfl) rfl ?_); clear F M; intro b7 w M a F)
  (refine sD F (o_box M (F.ev rfl) rfl ?_); clear F M; intro b9 w M a F)
  refine sD F (o_assign (F.ev rfl) ?_); clear F a; intro a F
  refine sD F (o_assign (F.ev rfl) ?_); clear F a; intro a F
  with_reducible refine l_nil (q_then (c_seq (c_seq (c_region ?_))))
  refine sD F (o_move (F.ev rfl) ?_); clear F a; intro a F
  (refine sD F (o_call (F.ev rfl) (F.evs rfl) (Cal.mono (rtvalid_c l hx _ _ (hS.later M.ext)) ?_)); clear F; clear a; rintro _ w ⟨rfl, hE⟩ a F; replace M := M.later hE; clear hE)
  cases c1 : validRs l
  · have hL : learnV l now t nb d = ([], 1) := by unfold learnV; rw [c1]; rfl
    rw [hL]
    rw [c1] at F
    refine sD F (o_not (F.ev rfl) ?_); clear F a; intro a F
    refine sD F (o_move (F.ev rfl) ?_); clear F a; intro a F
    refine sO F ?_; clear F a; intro a F
    refine sO F ?_; clear F a; intro a F
    refine sO F ?_; clear F a; intro a F
    refine sD F (o_pickT (F.ev rfl) (F.ev rfl) ?_); clear F a; intro a F
    refine sD F (o_move (F.ev rfl) ?_); clear F a; intro a F
    refine sO F ?_; clear F a; intro a F
    refine sO F ?_; clear F a; intro a F
    refine sO F ?_; clear F a; intro a F
    refine sD F (o_pickT (F.ev rfl) (F.ev rfl) ?_); clear F a; intro a F
    refine sD F (o_move (F.ev rfl) ?_); clear F a; intro a F
    refine sO F ?_; clear F a; intro a F
    refine sO F ?_; clear F a; intro a F
    refine sD F (o_pickT (F.ev rfl) (F.ev rfl) ?_); clear F a; intro a F
    with_reducible refine l_nil (q_then ?_)
    refine c_true F rfl rfl ?_
    refine c_seq (c_region ?_)
    refine sD F (o_assign (F.ev rfl) ?_); clear F a; intro a F
    refine sD F (o_assign (F.ev rfl) ?_); clear F a; intro a F
    with_reducible refine l_nil (q_then (c_ret (q_thenR ?_)))
    refine p_ret F rfl (.cons (.tmp (F.ev rfl)) (.cons (.tmp (F.ev rfl)) .nil)) ?_
    exact ⟨.slice none 0 0, [], rfl, OwnS.nil _ _, M.sub (List.nil_sublist _)⟩
  rw [c1] at F
  refine sD F (o_not (F.ev rfl) ?_); clear F a; intro a F
  refine sD F (o_move (F.ev rfl) ?_); clear F a; intro a F
  refine sG F (o_loadA M (F.ev rfl) (by repeat constructor) (by first | assumption | rfl) ?_); clear F a; intro a F
  (refine sG F (o_call (F.ev rfl) (F.evs rfl) (Cal.mono (validTo_c t ht _) ?_)); clear F; clear a; rintro _ w ⟨rfl, hE⟩ a F; replace M := M.later hE; clear hE)
  cases c2 : validT t
  · have hL : learnV l now t nb d = ([], 1) := by unfold learnV; rw [c1, c2]; rfl
    rw [hL]
    rw [c2] at F
    refine sG F (o_not (F.ev rfl) ?_); clear F a; intro a F
    refine sD F (o_pickF (F.ev rfl) (F.ev rfl) ?_); clear F a; intro a F
    refine sD F (o_move (F.ev rfl) ?_); clear F a; intro a F
    refine sO F ?_; clear F a; intro a F
    refine sO F ?_; clear F a; intro a F
    refine sO F ?_; clear F a; intro a F
    refine sD F (o_pickT (F.ev rfl) (F.ev rfl) ?_); clear F a; intro a F
    refine sD F (o_move (F.ev rfl) ?_); clear F a; intro a F
    refine sO F ?_; clear F a; intro a F
    refine sO F ?_; clear F a; intro a F
    refine sD F (o_pickT (F.ev rfl) (F.ev rfl) ?_); clear F a; intro a F
    with_reducible refine l_nil (q_then ?_)
    refine c_true F rfl rfl ?_
    refine c_seq (c_region ?_)
    refine sD F (o_assign (F.ev rfl) ?_); clear F a; intro a F
    refine sD F (o_assign (F.ev rfl) ?_); clear F a; intro a F
    with_reducible refine l_nil (q_then (c_ret (q_thenR ?_)))
    refine p_ret F rfl (.cons (.tmp (F.ev rfl)) (.cons (.tmp (F.ev rfl)) .nil)) ?_
    exact ⟨.slice none 0 0, [], rfl, OwnS.nil _ _, M.sub (List.nil_sublist _)⟩
  rw [c2] at F
  refine sG F (o_not (F.ev rfl) ?_); clear F a; intro a F
  refine sD F (o_pickF (F.ev rfl) (F.ev rfl) ?_); clear F a; intro a F
  refine sD F (o_move (F.ev rfl) ?_); clear F a; intro a F
  refine sG F (o_loadA M (F.ev rfl) (by repeat constructor) (by first | assumption | rfl) ?_); clear F a; intro a F
  (refine sG F (o_call (F.ev rfl) (F.evs rfl) (Cal.mono (sqvalid_c d _) ?_)); clear F; clear a; rintro _ w ⟨rfl, hE⟩ a F; replace M := M.later hE; clear hE)
  cases c3 : validM d.met
  · have hL : learnV l now t nb d = ([], 1) := by unfold learnV; rw [c1, c2, c3]; rfl
    rw [hL]
    rw [c3] at F
    refine sG F (o_not (F.ev rfl) ?_); clear F a; intro a F
    refine sD F (o_pickF (F.ev rfl) (F.ev rfl) ?_); clear F a; intro a F
    refine sD F (o_move (F.ev rfl) ?_); clear F a; intro a F
    refine sO F ?_; clear F a; intro a F
    refine sO F ?_; clear F a; intro a F
    refine sD F (o_pickT (F.ev rfl) (F.ev rfl) ?_); clear F a; intro a F
    with_reducible refine l_nil (q_then ?_)
    refine c_true F rfl rfl ?_
    refine c_seq (c_region ?_)
    refine sD F (o_assign (F.ev rfl) ?_); clear F a; intro a F
    refine sD F (o_assign (F.ev rfl) ?_); clear F a; intro a F
    with_reducible refine l_nil (q_then (c_ret (q_thenR ?_)))
    refine p_ret F rfl (.cons (.tmp (F.ev rfl)) (.cons (.tmp (F.ev rfl)) .nil)) ?_
    exact ⟨.slice none 0 0, [], rfl, OwnS.nil _ _, M.sub (List.nil_sublist _)⟩
  rw [c3] at F
  by_cases c4 : nb = 0
  · have hL : learnV l now t nb d = ([], 1) := by unfold learnV; rw [c1, c2, c3, decide_eq_true c4]; rfl
    rw [hL]
    refine sG F (o_not (F.ev rfl) ?_); clear F a; intro a F
    refine sD F (o_pickF (F.ev rfl) (F.ev rfl) ?_); clear F a; intro a F
    refine sD F (o_move (F.ev rfl) ?_); clear F a; intro a F
    refine sG F (o_move (F.ev rfl) ?_); clear F a; intro a F
    refine sG F (o_eqlT (F.ev rfl) (F.ev rfl) (by omega) ?_); clear F a; intro a F
    refine sD F (o_pickF (F.ev rfl) (F.ev rfl) ?_); clear F a; intro a F
    with_reducible refine l_nil (q_then ?_)
    refine c_true F rfl rfl ?_
    refine c_seq (c_region ?_)
    refine sD F (o_assign (F.ev rfl) ?_); clear F a; intro a F
    refine sD F (o_assign (F.ev rfl) ?_); clear F a; intro a F
    with_reducible refine l_nil (q_then (c_ret (q_thenR ?_)))
    refine p_ret F rfl (.cons (.tmp (F.ev rfl)) (.cons (.tmp (F.ev rfl)) .nil)) ?_
    exact ⟨.slice none 0 0, [], rfl, OwnS.nil _ _, M.sub (List.nil_sublist _)⟩
  refine sG F (o_not (F.ev rfl) ?_); clear F a; intro a F
  refine sD F (o_pickF (F.ev rfl) (F.ev rfl) ?_); clear F a; intro a F
  refine sD F (o_move (F.ev rfl) ?_); clear F a; intro a F
  refine sG F (o_move (F.ev rfl) ?_); clear F a; intro a F
  refine sG F (o_eqlF (F.ev rfl) (F.ev rfl) (by omega) ?_); clear F a; intro a F
  refine sD F (o_pickF (F.ev rfl) (F.ev rfl) ?_); clear F a; intro a F
  with_reducible refine l_nil (q_then ?_)
  refine c_false F rfl rfl ?_
  with_reducible refine c_skip (q_then (c_seq (c_seq (c_region ?_))))
  refine sD F (o_move (F.ev rfl) ?_); clear F a; intro a F
  (refine sD F (o_call (F.ev rfl) (F.evs rfl) (Cal.mono (rtTime_c now _) ?_)); clear F; clear a; rintro _ w ⟨rfl, hE⟩ a F; replace M := M.later hE; clear hE)
  cases c5 : isTime now
  · have hL : learnV l now t nb d = ([], 2) := by unfold learnV; rw [c1, c2, c3, decide_eq_false c4, c5]; rfl
    rw [hL]
    rw [c5] at F
    refine sD F (o_not (F.ev rfl) ?_); clear F a; intro a F
    with_reducible refine l_nil (q_then ?_)
    refine c_true F rfl rfl ?_
    refine c_seq (c_region ?_)
    refine sD F (o_assign (F.ev rfl) ?_); clear F a; intro a F
    refine sD F (o_assign (F.ev rfl) ?_); clear F a; intro a F
    with_reducible refine l_nil (q_then (c_ret (q_thenR ?_)))
    refine p_ret F rfl (.cons (.tmp (F.ev rfl)) (.cons (.tmp (F.ev rfl)) .nil)) ?_
    exact ⟨.slice none 0 0, [], rfl, OwnS.nil _ _, M.sub (List.nil_sublist _)⟩
  rw [c5] at F
  obtain ⟨hl512, _, hasc⟩ := validRs_iff.1 c1
  have hnw := c5
  simp only [isTime, Bool.and_eq_true, decide_eq_true_eq] at hnw
  obtain ⟨x, hx0⟩ : ∃ x : RouV, x = ⟨t, nb, d, laterV now 10⟩ := ⟨_, rfl⟩
  have hL : learnV l now t nb d = if 512 < (putR l x (decide (d.met = inf))).length then ([], 10) else (putR l x (decide (d.met = inf)), 0) := by
    unfold learnV
    rw [c1, c2, c3, decide_eq_false c4, c5, ← hx0]
    rfl
  have hxx : IsRo x := by rw [hx0]; exact ⟨ht, trivial⟩
  have hb : putAll [(0, 35), (35, 1), (36, 2), (38, 1)] roZ [(0, dvC t), (1, [.int .u64 nb]), (2, diC d), (3, [.int .i64 (laterV now 10)])] = some (roC x) := by rw [hx0]; exact ro_build (o := ⟨t, nb, d, laterV now 10⟩) ⟨ht, trivial⟩
  have hmono : ∀ j k (hj : j < k) (hk : k < l.length), cmpR l[j] l[k] < 0 := fun j k hj hk => (List.pairwise_iff_getElem.1 hasc) j k (by omega) hk hj
  have hszs : ∀ z ∈ l, (roC z).length = 39 := ros_len hx
  refine sD F (o_not (F.ev rfl) ?_); clear F a; intro a F
  with_reducible refine l_nil (q_then ?_)
  refine c_false F rfl rfl ?_
  with_reducible refine c_skip (q_then (c_seq ?_))
  replace F := F.only [0, 1, 3, 7, 9, 10, 11] rfl
  refine c_draw 7 F (by kernel_rfl) ?_
  intro w1 hE hok
  have M1 := M.later hE
  refine mK hok rfl rfl (fun a' w' F' E' => o_loadA (M1.later E') (F'.ev rfl) (by repeat constructor) (by first | assumption | rfl) ⟨Ext.refl _ _, rfl⟩) ?_
  refine mK hok rfl rfl (fun a' w' F' E' => o_move (F'.ev rfl) ⟨Ext.refl _ _, rfl⟩) ?_
  refine mK hok rfl rfl (fun a' w' F' E' => o_loadA (M1.later E') (F'.ev rfl) (by repeat constructor) (by first | assumption | rfl) ⟨Ext.refl _ _, rfl⟩) ?_
  refine mK hok rfl rfl (fun a' w' F' E' => o_move (F'.ev rfl) ⟨Ext.refl _ _, rfl⟩) ?_
  (refine mK hok rfl rfl (fun a' w' F' E' => o_call (F'.ev rfl) (F'.evs rfl) (Cal.mono (rlater_c now 10 hnw.1 hnw.2 (by omega) (by omega) _) fun _ _ hh => ⟨hh.2, hh.1⟩)) ?_)
  refine mK hok rfl rfl (fun a' w' F' E' => o_build F' rfl (by assumption) ⟨Ext.refl _ _, rfl⟩) ?_
  refine mAl hok rfl rfl (Al.stays _ _) (fun w => Ext.alloc w _) (fun a' w' F' E' => run_al) ?_
  (refine mDone rfl rfl ?_; clear F M; intro a w F hE2 hX hTT hDD hPP; have M := M1.later hE2; (try dsimp only at F); obtain ⟨b12, e_b12, g_b12, q_b12⟩ := hX 6 _ rfl; replace F := F.know (d := 12) e_b12; replace M := Mem.al (pre := []) M M1 q_b12 g_b12 (by intro p hp; cases hp); clear M1; clear hX; clear hE2; clear hok; clear hE; clear hTT; clear hDD; clear hPP; clear e_b12; clear g_b12; clear q_b12; (try dsimp only [ptrTo] at F); (try simp only [List.cons_append, List.nil_append] at M))
  (refine stepN rfl F (o_storeA M (F.ev rfl) (F.ev rfl) (ro_len hxx) (ro_one x)  (by repeat constructor)  (put_all (by rw [ro_len hxx]; rfl)) (by repeat constructor) ?_); clear F M; intro w M a F)
  have e5 := ro_all hxx
  with_reducible refine l_nil (q_then (c_seq (c_region ?_)))
  refine sD F (o_move (F.ev rfl) ?_); clear F a; intro a F
  refine sD F (o_loadA M (F.ev rfl) (by repeat constructor) (by first | assumption | rfl) ?_); clear F a; intro a F
  (refine sD F (o_call (F.ev rfl) (F.evs rfl) (Cal.mono (bsearchR_c l hx x hxx (by omega) hmono _ _ (hS.later M.ext)) ?_)); clear F; clear a; rintro _ w ⟨i, rfl, hP, hE⟩ a F; replace M := M.later hE; clear hE)
  refine sD F (o_move (F.ev rfl) ?_); clear F a; intro a F
  refine sD F (o_extract (F.ev rfl) rfl ?_); clear F a; intro a F
  refine sD F (o_extract (F.ev rfl) rfl ?_); clear F a; intro a F
  refine sD F (o_assign (F.ev rfl) ?_); clear F a; intro a F
  refine sD F (o_assign (F.ev rfl) ?_); clear F a; intro a F
  with_reducible refine l_nil (q_then (c_seq (c_region ?_)))
  refine sD F (o_move (F.ev rfl) ?_); clear F a; intro a F
  (refine sD F (o_call (F.ev rfl) (F.evs rfl) (Cal.mono (cloneR_c l (by omega) v _ (hS.later M.ext) ) ?_)); clear F; clear a; rintro _ w ⟨ent, hO, _, N⟩ a F; replace M := M.joins N; clear N)
  obtain ⟨p0, c0, rfl⟩ := hO.slice
  replace M := M.perm (l' := (b12, .cells (roC x).toArray 53 (0, 0)) :: (b9, .cells (diC d).toArray 48 (0, 0)) :: (b7, .cells (dvC t).toArray 45 (0, 0)) :: ent) (by classical exact List.perm_iff_count.2 fun _ => by simp only [List.count_append, List.count_cons, List.count_nil, Nat.add_zero, Nat.zero_add] <;> ac_rfl)
  by_cases hd : d.met = inf
  · have hd' : d.met = 65535 := hd
    rw [decide_eq_true hd] at hL
    cases hf : fndR l x i
    · rw [hf] at F
      have hhi := hP.miss hf hasc
      have hput : putR l x true = l := by unfold putR; rw [hP.low, hhi]; exact List.take_append_drop i l
      rw [hput, if_neg (by omega)] at hL
      rw [hL]
      refine sD F (o_assign (F.ev rfl) ?_); clear F a; intro a F
      with_reducible refine l_nil (q_then (c_seq (c_block (c_seq (c_region ?_)))))
      refine sD F (o_fieldAddr (F.ev rfl) ?_); clear F a; intro a F
      refine sD F (o_load1 M (F.ev rfl) (by repeat constructor) (by first | assumption | rfl) ?_); clear F a; intro a F
      refine sD F (o_eqlT (F.ev rfl) (F.ev rfl) (by omega) ?_); clear F a; intro a F
      refine sD F (o_move (F.ev rfl) ?_); clear F a; intro a F
      refine sG F (o_move (F.ev rfl) ?_); clear F a; intro a F
      refine sD F (o_pickT (F.ev rfl) (F.ev rfl) ?_); clear F a; intro a F
      refine sD F (o_assign (F.ev rfl) ?_); clear F a; intro a F
      with_reducible refine l_nil (q_then ?_)
      refine c_false F rfl rfl ?_
      refine c_seq (c_region ?_)
      refine sD F (o_fieldAddr (F.ev rfl) ?_); clear F a; intro a F
      refine sD F (o_load1 M (F.ev rfl) (by repeat constructor) (by first | assumption | rfl) ?_); clear F a; intro a F
      refine sD F (o_eqlT (F.ev rfl) (F.ev rfl) (by omega) ?_); clear F a; intro a F
      refine sD F (o_assign (F.ev rfl) ?_); clear F a; intro a F
      with_reducible refine l_nil (q_then ?_)
      refine c_true F rfl rfl ?_
      with_reducible refine c_skip (q_inB (q_then (c_seq (c_region ?_))))
      refine sD F (o_move (F.ev rfl) ?_); clear F a; intro a F
      refine sD F (o_assign (F.ev rfl) ?_); clear F a; intro a F
      refine sD F (o_assign (F.ev rfl) ?_); clear F a; intro a F
      with_reducible refine l_nil (q_then (c_ret ?_))
      refine p_ret F rfl (.cons (.tmp (F.ev rfl)) (.cons (.tmp (F.ev rfl)) .nil)) ?_
      exact ⟨_, ent, rfl, hO, M.sub (List.sublist_append_right [_, _, _] _)⟩
    · rw [hf] at F
      obtain ⟨hil, h0, hhi⟩ := hP.hit hf hasc
      have hput : putR l x true = l.eraseIdx i := by unfold putR; rw [hP.low, hhi, erase_at]; rfl
      rw [hput, if_neg (by rw [List.length_eraseIdx, if_pos hil]; omega)] at hL
      rw [hL]
      rcases hO with ⟨_, h0', _, _⟩ | ⟨bO, cO, junk, hvO, rfl, hxl, hjl, hnc⟩
      · omega
      cases hvO
      replace M := M.perm (l' := (bO, .cells (rosC l ++ junk).toArray 53 (0, 0)) :: (b12, .cells (roC x).toArray 53 (0, 0)) :: (b9, .cells (diC d).toArray 48 (0, 0)) :: (b7, .cells (dvC t).toArray 45 (0, 0)) :: []) (by classical exact List.perm_iff_count.2 fun _ => by simp only [List.count_append, List.count_cons, List.count_nil, Nat.add_zero, Nat.zero_add] <;> ac_rfl)
      refine sD F (o_assign (F.ev rfl) ?_); clear F a; intro a F
      with_reducible refine l_nil (q_then (c_seq (c_block (c_seq (c_region ?_)))))
      refine sD F (o_fieldAddr (F.ev rfl) ?_); clear F a; intro a F
      refine sD F (o_load1 M (F.ev rfl) (by repeat constructor) (by first | assumption | rfl) ?_); clear F a; intro a F
      refine sD F (o_eqlT (F.ev rfl) (F.ev rfl) (by omega) ?_); clear F a; intro a F
      refine sD F (o_move (F.ev rfl) ?_); clear F a; intro a F
      refine sG F (o_move (F.ev rfl) ?_); clear F a; intro a F
      refine sD F (o_pickT (F.ev rfl) (F.ev rfl) ?_); clear F a; intro a F
      refine sD F (o_assign (F.ev rfl) ?_); clear F a; intro a F
      with_reducible refine l_nil (q_then ?_)
      refine c_true F rfl rfl ?_
      refine c_region ?_
      refine sD F (o_move (F.ev rfl) ?_); clear F a; intro a F
      refine sD F (o_move (F.ev rfl) ?_); clear F a; intro a F
      refine sD F (o_move (F.ev rfl) ?_); clear F a; intro a F
      refine sD F (o_add (F.ev rfl) (F.ev rfl) (w_i64 (by omega) (by omega)) ?_); clear F a; intro a F
      (refine sD F (o_call (F.ev rfl) (F.evs rfl) (Cal.mono (deleteR_c hx (by omega) _ (M.heap .here) hjl hnc i hil) ?_)); clear F; clear a; rintro _ w ⟨junk', rfl, hj1, hj2, N⟩ a F; replace M := M.turn1 N .here; clear N)
      refine sD F (o_assign (F.ev rfl) ?_); clear F a; intro a F
      with_reducible refine l_nil (q_inB (q_then (c_seq (c_region ?_))))
      refine sD F (o_move (F.ev rfl) ?_); clear F a; intro a F
      refine sD F (o_assign (F.ev rfl) ?_); clear F a; intro a F
      refine sD F (o_assign (F.ev rfl) ?_); clear F a; intro a F
      with_reducible refine l_nil (q_then (c_ret ?_))
      refine p_ret F rfl (.cons (.tmp (F.ev rfl)) (.cons (.tmp (F.ev rfl)) .nil)) ?_
      exact ⟨_, [(bO, _)], rfl, .inr ⟨bO, c0, junk', rfl, rfl, encL_len (ros_len fun y hy => hx y ((List.eraseIdx_sublist l i).subset hy)), hj1, hj2⟩, M.sub (.cons_cons _ (List.nil_sublist _))⟩
  have hd' : ¬ d.met = 65535 := hd
  rw [decide_eq_false hd] at hL
  cases hf : fndR l x i
  · rw [hf] at F
    have hhi := hP.miss hf hasc
    have hput : putR l x false = l.take i ++ x :: l.drop i := by unfold putR; rw [hP.low, hhi]; rfl
    have hPle := hP.le
    have hlz : (l.take i ++ x :: l.drop i).length = l.length + 1 := by simp; omega
    rw [hput, hlz] at hL
    by_cases c8 : 512 ≤ l.length
    · rw [if_pos (by omega)] at hL
      rw [hL]
      refine sD F (o_assign (F.ev rfl) ?_); clear F a; intro a F
      with_reducible refine l_nil (q_then (c_seq (c_block (c_seq (c_region ?_)))))
      refine sD F (o_fieldAddr (F.ev rfl) ?_); clear F a; intro a F
      refine sD F (o_load1 M (F.ev rfl) (by repeat constructor) (by first | assumption | rfl) ?_); clear F a; intro a F
      refine sD F (o_eqlF (F.ev rfl) (F.ev rfl) (by omega) ?_); clear F a; intro a F
      refine sD F (o_move (F.ev rfl) ?_); clear F a; intro a F
      refine sO F ?_; clear F a; intro a F
      refine sD F (o_pickF (F.ev rfl) (F.ev rfl) ?_); clear F a; intro a F
      refine sD F (o_assign (F.ev rfl) ?_); clear F a; intro a F
      with_reducible refine l_nil (q_then ?_)
      refine c_false F rfl rfl ?_
      refine c_seq (c_region ?_)
      refine sD F (o_fieldAddr (F.ev rfl) ?_); clear F a; intro a F
      refine sD F (o_load1 M (F.ev rfl) (by repeat constructor) (by first | assumption | rfl) ?_); clear F a; intro a F
      refine sD F (o_eqlF (F.ev rfl) (F.ev rfl) (by omega) ?_); clear F a; intro a F
      refine sD F (o_assign (F.ev rfl) ?_); clear F a; intro a F
      with_reducible refine l_nil (q_then ?_)
      refine c_false F rfl rfl ?_
      refine c_seq (c_region ?_)
      refine sD F (o_move (F.ev rfl) ?_); clear F a; intro a F
      refine sD F (o_assign (F.ev rfl) ?_); clear F a; intro a F
      with_reducible refine l_nil (q_then ?_)
      refine c_false F rfl rfl ?_
      refine c_seq (c_region ?_)
      refine sD F (o_move (F.ev rfl) ?_); clear F a; intro a F
      refine sD F (o_lenSl (F.ev rfl) ?_); clear F a; intro a F
      refine sD F (o_geqT (F.ev rfl) (F.ev rfl) (by omega) ?_); clear F a; intro a F
      refine sD F (o_assign (F.ev rfl) ?_); clear F a; intro a F
      with_reducible refine l_nil (q_then ?_)
      refine c_true F rfl rfl ?_
      refine c_seq (c_region ?_)
      refine sD F (o_assign (F.ev rfl) ?_); clear F a; intro a F
      refine sD F (o_assign (F.ev rfl) ?_); clear F a; intro a F
      with_reducible refine l_nil (q_then (c_ret (q_inBR (q_thenR ?_))))
      refine p_ret F rfl (.cons (.tmp (F.ev rfl)) (.cons (.tmp (F.ev rfl)) .nil)) ?_
      exact ⟨.slice none 0 0, [], rfl, OwnS.nil _ _, M.sub (List.nil_sublist _)⟩
    · rw [if_neg (by omega)] at hL
      rw [hL]
      refine sD F (o_assign (F.ev rfl) ?_); clear F a; intro a F
      with_reducible refine l_nil (q_then (c_seq (c_block (c_seq (c_region ?_)))))
      refine sD F (o_fieldAddr (F.ev rfl) ?_); clear F a; intro a F
      refine sD F (o_load1 M (F.ev rfl) (by repeat constructor) (by first | assumption | rfl) ?_); clear F a; intro a F
      refine sD F (o_eqlF (F.ev rfl) (F.ev rfl) (by omega) ?_); clear F a; intro a F
      refine sD F (o_move (F.ev rfl) ?_); clear F a; intro a F
      refine sO F ?_; clear F a; intro a F
      refine sD F (o_pickF (F.ev rfl) (F.ev rfl) ?_); clear F a; intro a F
      refine sD F (o_assign (F.ev rfl) ?_); clear F a; intro a F
      with_reducible refine l_nil (q_then ?_)
      refine c_false F rfl rfl ?_
      refine c_seq (c_region ?_)
      refine sD F (o_fieldAddr (F.ev rfl) ?_); clear F a; intro a F
      refine sD F (o_load1 M (F.ev rfl) (by repeat constructor) (by first | assumption | rfl) ?_); clear F a; intro a F
      refine sD F (o_eqlF (F.ev rfl) (F.ev rfl) (by omega) ?_); clear F a; intro a F
      refine sD F (o_assign (F.ev rfl) ?_); clear F a; intro a F
      with_reducible refine l_nil (q_then ?_)
      refine c_false F rfl rfl ?_
      refine c_seq (c_region ?_)
      refine sD F (o_move (F.ev rfl) ?_); clear F a; intro a F
      refine sD F (o_assign (F.ev rfl) ?_); clear F a; intro a F
      with_reducible refine l_nil (q_then ?_)
      refine c_false F rfl rfl ?_
      refine c_seq (c_region ?_)
      refine sD F (o_move (F.ev rfl) ?_); clear F a; intro a F
      refine sD F (o_lenSl (F.ev rfl) ?_); clear F a; intro a F
      refine sD F (o_geqF (F.ev rfl) (F.ev rfl) (by omega) ?_); clear F a; intro a F
      refine sD F (o_assign (F.ev rfl) ?_); clear F a; intro a F
      with_reducible refine l_nil (q_then ?_)
      refine c_false F rfl rfl ?_
      refine c_region ?_
      refine sD F (o_move (F.ev rfl) ?_); clear F a; intro a F
      refine sD F (o_move (F.ev rfl) ?_); clear F a; intro a F
      refine sD F (o_loadA M (F.ev rfl) (by repeat constructor) (by first | assumption | rfl) ?_); clear F a; intro a F
      (refine sD F (o_buildSlice F M rfl rfl rfl (ro_build1 hxx) ?_); clear F M; intro b53 w M a F)
      (refine sD F (o_call (F.ev rfl) (F.evs rfl) (Cal.mono (insertR_c i hPle (vb := b53) (roC x) (ro_len hxx) ros_one (ro_one x) _ M hO (.cons (.cons (.cons (.cons .here)))) .here (fun q hq e => (List.nodup_cons.1 M.nd).1 (List.mem_map.2 ⟨q, by simp [hq], e⟩)) (by omega)) ?_)); clear F; clear a; clear M; rintro u w ⟨ent2, hO9, M⟩ a F)
      refine sD F (o_assign (F.ev rfl) ?_); clear F a; intro a F
      with_reducible refine l_nil (q_inB (q_then (c_seq (c_region ?_))))
      refine sD F (o_move (F.ev rfl) ?_); clear F a; intro a F
      refine sD F (o_assign (F.ev rfl) ?_); clear F a; intro a F
      refine sD F (o_assign (F.ev rfl) ?_); clear F a; intro a F
      with_reducible refine l_nil (q_then (c_ret ?_))
      refine p_ret F rfl (.cons (.tmp (F.ev rfl)) (.cons (.tmp (F.ev rfl)) .nil)) ?_
      refine ⟨u, ent2, rfl, ?_, M.sub (List.sublist_append_right [_, _, _, _] _)⟩
      rw [hlz]
      show OwnS _ 39 _ _ (encL roC (l.take i ++ x :: l.drop i)) _
      rw [encL_app, encL_cons, ← encL_take hszs, ← encL_drop hszs]
      exact hO9
  · rw [hf] at F
    obtain ⟨hil, h0, hhi⟩ := hP.hit hf hasc
    have hput : putR l x false = l.set i x := by unfold putR; rw [hP.low, hhi, List.set_eq_take_append_cons_drop, if_pos hil]; rfl
    rw [hput, if_neg (by rw [List.length_set]; omega)] at hL
    rw [hL]
    rcases hO with ⟨_, h0', _, _⟩ | ⟨bO, cO, junk, hvO, rfl, hxl, hjl, hnc⟩
    · omega
    cases hvO
    have hpt : put (roC l[i]) 0 (roC x) = some (roC x) := put_all (by rw [ro_len hxx, hszs _ (List.getElem_mem hil)])
    refine sD F (o_assign (F.ev rfl) ?_); clear F a; intro a F
    with_reducible refine l_nil (q_then (c_seq (c_block (c_seq (c_region ?_)))))
    refine sD F (o_fieldAddr (F.ev rfl) ?_); clear F a; intro a F
    refine sD F (o_load1 M (F.ev rfl) (by repeat constructor) (by first | assumption | rfl) ?_); clear F a; intro a F
    refine sD F (o_eqlF (F.ev rfl) (F.ev rfl) (by omega) ?_); clear F a; intro a F
    refine sD F (o_move (F.ev rfl) ?_); clear F a; intro a F
    refine sO F ?_; clear F a; intro a F
    refine sD F (o_pickF (F.ev rfl) (F.ev rfl) ?_); clear F a; intro a F
    refine sD F (o_assign (F.ev rfl) ?_); clear F a; intro a F
    with_reducible refine l_nil (q_then ?_)
    refine c_false F rfl rfl ?_
    refine c_seq (c_region ?_)
    refine sD F (o_fieldAddr (F.ev rfl) ?_); clear F a; intro a F
    refine sD F (o_load1 M (F.ev rfl) (by repeat constructor) (by first | assumption | rfl) ?_); clear F a; intro a F
    refine sD F (o_eqlF (F.ev rfl) (F.ev rfl) (by omega) ?_); clear F a; intro a F
    refine sD F (o_assign (F.ev rfl) ?_); clear F a; intro a F
    with_reducible refine l_nil (q_then ?_)
    refine c_false F rfl rfl ?_
    refine c_seq (c_region ?_)
    refine sD F (o_move (F.ev rfl) ?_); clear F a; intro a F
    refine sD F (o_assign (F.ev rfl) ?_); clear F a; intro a F
    with_reducible refine l_nil (q_then ?_)
    refine c_true F rfl rfl ?_
    refine c_region ?_
    refine sD F (o_move (F.ev rfl) ?_); clear F a; intro a F
    refine sD F (o_move (F.ev rfl) ?_); clear F a; intro a F
    refine sD F (o_loadA M (F.ev rfl) (by repeat constructor) (by first | assumption | rfl) ?_); clear F a; intro a F
    refine sD F (o_indexSl (F.ev rfl) (F.ev rfl) (by omega) (by omega) ?_); clear F a; intro a F
    (refine stepN rfl F (o_storeA M (F.ev rfl) (F.ev rfl) (ro_len hxx) (ro_one x)  (by repeat constructor)  (encL_put hszs junk hil hpt (by omega)) (by repeat constructor) ?_); clear F M; intro w M a F)
    with_reducible refine l_nil (q_inB (q_then (c_seq (c_region ?_))))
    refine sD F (o_move (F.ev rfl) ?_); clear F a; intro a F
    refine sD F (o_assign (F.ev rfl) ?_); clear F a; intro a F
    refine sD F (o_assign (F.ev rfl) ?_); clear F a; intro a F
    with_reducible refine l_nil (q_then (c_ret ?_))
    refine p_ret F rfl (.cons (.tmp (F.ev rfl)) (.cons (.tmp (F.ev rfl)) .nil)) ?_
    refine ⟨_, [(bO, _)], rfl, .inr ⟨bO, c0, junk, by rw [List.length_set], rfl, ?_, by rw [List.length_set]; exact hjl, by rw [List.length_set]; exact hnc⟩, M.sub (List.sublist_append_right [_, _, _] _)⟩
    rw [encL_len fun y hy => (List.mem_or_eq_of_mem_set hy).elim (hszs y) fun h => by rw [h]; exact ro_len hxx]
set_option maxHeartbeats 8000000 in
theorem known2_c (W : World) : Cal Tryz.prog 19 [].toArray W fun r w' => r = .bool true ∧ Ext [] W w' := by
  refine fn_ofM (n := 89) [] Tryz.func19 rfl rfl rfl ?_
  intro a w F M hwW
  refine c_seq (c_region ?_)
  refine sD F (o_assign (F.ev rfl) ?_); clear F a; intro a F
  with_reducible refine l_nil (q_then (c_seq (c_region ?_)))
  (refine sD F (o_call (F.ev rfl) (F.evs rfl) (Cal.mono (host_c 1 9 (by omega) (by omega) (by omega) (by omega) _) ?_)); clear F; clear a; rintro _ w ⟨rfl, hE⟩ a F; replace M := M.later hE; clear hE)
  refine sD F (o_build F rfl rfl ?_); clear F a; intro a F
  (refine sD F (o_call (F.ev rfl) (F.evs (vs := [.slice none 0 0, .int .i64 5, .agg (dvC (hostD 1 9)).toArray, .int .u64 2, .agg (diC ⟨3, 100⟩).toArray]) rfl) (Cal.mono (learnA_c [] (by simp) (.slice none 0 0) 5 (hostD 1 9) k_is 2 ⟨3, 100⟩ _ (SlAt.nil _ _)) ?_)); clear F; clear a; rintro _ w ⟨u, e1, rfl, hO1, N⟩ a F; replace M := M.joins N; clear N)
  rw [kLearn] at F hO1
  dsimp only at F hO1
  obtain ⟨p1, c1, rfl⟩ := hO1.slice
  refine sD F (o_move (F.ev rfl) ?_); clear F a; intro a F
  refine sD F (o_extract (F.ev rfl) rfl ?_); clear F a; intro a F
  refine sD F (o_extract (F.ev rfl) rfl ?_); clear F a; intro a F
  refine sD F (o_assign (F.ev rfl) ?_); clear F a; intro a F
  refine sD F (o_assign (F.ev rfl) ?_); clear F a; intro a F
  with_reducible refine l_nil (q_then (c_seq (c_region ?_)))
  refine sD F (o_build F rfl rfl ?_); clear F a; intro a F
  (refine sD F (o_buildSlice F M rfl rfl rfl rfl ?_); clear F M; intro b19 w M a F)
  replace M : Mem [] W w ((b19, opO kO) :: (e1 ++ [])) := M
  refine sD F (o_assign (F.ev rfl) ?_); clear F a; intro a F
  with_reducible refine l_nil (q_then (c_seq (c_region ?_)))
  refine sD F (o_move (F.ev rfl) ?_); clear F a; intro a F
  refine sD F (o_move (F.ev rfl) ?_); clear F a; intro a F
  (refine sD F (o_call (F.ev rfl) (F.evs rfl) (Cal.mono (select_c 6 [kL] (by simpa using kL_is) [] (by simp) [kO] [] (by simp) _ (.slice none 0 0) (.slice (some ⟨b19, 0, none⟩) 1 1) (.slice none 0 0) _ (hO1.slAt M (fun q hq => by simp [hq])) (SlAt.nil _ _) (slAtO (x := kO) (M.heap .here)) (SlAt.nil _ _)) ?_)); clear F; clear a; rintro _ w ⟨u, e2, rfl, hO2, N⟩ a F; replace M := M.joins N; clear N)
  rw [kSel1] at F hO2
  dsimp only at F hO2
  obtain ⟨p2, c2, rfl⟩ := hO2.slice
  refine sD F (o_move (F.ev rfl) ?_); clear F a; intro a F
  refine sD F (o_extract (F.ev rfl) rfl ?_); clear F a; intro a F
  refine sD F (o_extract (F.ev rfl) rfl ?_); clear F a; intro a F
  refine sD F (o_assign (F.ev rfl) ?_); clear F a; intro a F
  refine sD F (o_assign (F.ev rfl) ?_); clear F a; intro a F
  with_reducible refine l_nil (q_then (c_seq (c_region ?_)))
  refine sD F (o_move (F.ev rfl) ?_); clear F a; intro a F
  refine sD F (o_build F rfl rfl ?_); clear F a; intro a F
  refine sD F (o_build F rfl rfl ?_); clear F a; intro a F
  refine sD F (o_build F rfl rfl ?_); clear F a; intro a F
  (refine sD F (o_call (F.ev rfl) (F.evs (vs := [.slice p2 [kI].length c2, .agg (ipC nul16).toArray, .agg (ipC kIP).toArray, .agg (dvC kZ).toArray, .bool false]) rfl) (Cal.mono (lookup2_c [kI] (by simpa using kI_is) _ nul16 kIP nul16_is kIP_is kZ kZ_is false _ (hO2.slAt M (fun q hq => by simp [hq]))) ?_)); clear F; clear a; rintro _ w ⟨rfl, hE⟩ a F; replace M := M.later hE; clear hE)
  rw [kLook1] at F
  dsimp only at F
  refine sD F (o_move (F.ev rfl) ?_); clear F a; intro a F
  refine sD F (o_extract (F.ev rfl) rfl ?_); clear F a; intro a F
  refine sD F (o_extract (F.ev rfl) rfl ?_); clear F a; intro a F
  (refine sD F (o_alloc M ?_); clear F M; intro b6 w M a F)
  (refine stepN rfl F (o_storeA M (F.ev rfl) (F.ev rfl) (in_len kI_is) (in_one _)  (by repeat constructor)  (put_all (by rw [in_len kI_is]; rfl)) (by repeat constructor) ?_); clear F M; intro w M a F)
  refine sD F (o_assign (F.ev rfl) ?_); clear F a; intro a F
  with_reducible refine l_nil (q_then (c_seq (c_region ?_)))
  refine sD F (o_move (F.ev rfl) ?_); clear F a; intro a F
  refine sD F (o_move (F.ev rfl) ?_); clear F a; intro a F
  (refine sD F (o_call (F.ev rfl) (F.evs rfl) (Cal.mono (select_c 7 [] (by simp) [] (by simp) [kO] [kI] (by simpa using kI_is) (.slice none 0 0) (.slice none 0 0) (.slice (some ⟨b19, 0, none⟩) 1 1) _ _ (SlAt.nil _ _) (SlAt.nil _ _) (slAtO (x := kO) (M.at_ (b19, opO kO) (by simp))) (hO2.slAt M (fun q hq => by simp [hq]))) ?_)); clear F; clear a; rintro _ w ⟨u, e3, rfl, hO3, N⟩ a F; replace M := M.joins N; clear N)
  rw [kSel2] at F hO3
  dsimp only at F hO3
  obtain ⟨p3, c3, hp3⟩ := hO3.slice
  rcases hO3 with ⟨_, h0, _, _⟩ | ⟨bH, cH, junk, rfl, rfl, hxl, hjl, hnc⟩
  · simp at h0
  have hO3 : OwnS 50 40 (.slice (some ⟨bH, 0, none⟩) [kH].length cH) [kH].length (insC [kH]) [(bH, .cells (insC [kH] ++ junk).toArray 50 (0, 0))] := .inr ⟨bH, cH, junk, rfl, rfl, hxl, hjl, hnc⟩
  clear hp3 hxl hjl hnc
  refine sD F (o_move (F.ev rfl) ?_); clear F a; intro a F
  refine sD F (o_extract (F.ev rfl) rfl ?_); clear F a; intro a F
  refine sD F (o_extract (F.ev rfl) rfl ?_); clear F a; intro a F
  refine sD F (o_assign (F.ev rfl) ?_); clear F a; intro a F
  refine sD F (o_assign (F.ev rfl) ?_); clear F a; intro a F
  with_reducible refine l_nil (q_then (c_seq (c_region ?_)))
  refine sD F (o_move (F.ev rfl) ?_); clear F a; intro a F
  refine sD F (o_build F rfl rfl ?_); clear F a; intro a F
  refine sD F (o_build F rfl rfl ?_); clear F a; intro a F
  refine sD F (o_build F rfl rfl ?_); clear F a; intro a F
  (refine sD F (o_call (F.ev rfl) (F.evs (vs := [.slice (some ⟨bH, 0, none⟩) [kH].length cH, .agg (ipC nul16).toArray, .agg (ipC kIP).toArray, .agg (dvC kZ).toArray, .bool false]) rfl) (Cal.mono (lookup2_c [kH] (by simpa using kH_is) _ nul16 kIP nul16_is kIP_is kZ kZ_is false _ (hO3.slAt M (fun q hq => by simp at hq; simp [hq]))) ?_)); clear F; clear a; rintro _ w ⟨rfl, hE⟩ a F; replace M := M.later hE; clear hE)
  rw [kLook2] at F
  dsimp only at F
  refine sD F (o_move (F.ev rfl) ?_); clear F a; intro a F
  refine sD F (o_extract (F.ev rfl) rfl ?_); clear F a; intro a F
  refine sD F (o_extract (F.ev rfl) rfl ?_); clear F a; intro a F
  (refine sD F (o_alloc M ?_); clear F M; intro b10 w M a F)
  (refine stepN rfl F (o_storeA M (F.ev rfl) (F.ev rfl) (in_len in0_is) (in_one _)  (by repeat constructor)  (put_all (by rw [in_len in0_is]; rfl)) (by repeat constructor) ?_); clear F M; intro w M a F)
  replace M := M.perm (l' := (b6, .cells (inC kI).toArray 50 (0, 0)) :: (bH, .cells (insC [kH] ++ junk).toArray 50 (0, 0)) :: (b10, .cells (inC in0).toArray 50 (0, 0)) :: (e2 ++ ((b19, opO kO) :: (e1 ++ [])))) (by classical exact List.perm_iff_count.2 fun _ => by simp only [List.count_append, List.count_cons, List.count_nil, Nat.add_zero, Nat.zero_add] <;> ac_rfl)
  have g1 : seg (insC [kH] ++ junk) (0 + (0 : Int).toNat * 40) 40 = some (inC kH) := own_el (ls := [kH]) (by simpa using in_len kH_is) junk (show 0 < [kH].length by simp) (by simp)
  have g2 : nth (insC [kH] ++ junk) (0 + (0 : Int).toNat * 40 + 39) = some (.int .i64 21) := sg_nth g1 (in_til kH_is) (by omega)
  have g3 := in_nb kI_is
  have g4 := in_own kI_is
  rw [show [kH].length = 1 from rfl] at F
  refine sD F (o_assign (F.ev rfl) ?_); clear F a; intro a F
  with_reducible refine l_nil (q_then (c_seq (c_region ?_)))
  refine sD F (o_move (F.ev rfl) ?_); clear F a; intro a F
  refine sD F (o_eqlT (F.ev rfl) (F.ev rfl) (by omega) ?_); clear F a; intro a F
  refine sD F (o_move (F.ev rfl) ?_); clear F a; intro a F
  refine sG F (o_move (F.ev rfl) ?_); clear F a; intro a F
  refine sG F (o_eqlT (F.ev rfl) (F.ev rfl) (by omega) ?_); clear F a; intro a F
  refine sD F (o_pickT (F.ev rfl) (F.ev rfl) ?_); clear F a; intro a F
  refine sD F (o_move (F.ev rfl) ?_); clear F a; intro a F
  refine sG F (o_move (F.ev rfl) ?_); clear F a; intro a F
  refine sG F (o_eqlT (F.ev rfl) (F.ev rfl) (by omega) ?_); clear F a; intro a F
  refine sD F (o_pickT (F.ev rfl) (F.ev rfl) ?_); clear F a; intro a F
  refine sD F (o_move (F.ev rfl) ?_); clear F a; intro a F
  refine sG F (o_move (F.ev rfl) ?_); clear F a; intro a F
  refine sG F (o_eqlT (F.ev rfl) (F.ev rfl) (by omega) ?_); clear F a; intro a F
  refine sD F (o_pickT (F.ev rfl) (F.ev rfl) ?_); clear F a; intro a F
  refine sD F (o_move (F.ev rfl) ?_); clear F a; intro a F
  refine sG F (o_move (F.ev rfl) ?_); clear F a; intro a F
  refine sG F (o_eqlT (F.ev rfl) (F.ev rfl) (by omega) ?_); clear F a; intro a F
  refine sD F (o_pickT (F.ev rfl) (F.ev rfl) ?_); clear F a; intro a F
  refine sD F (o_move (F.ev rfl) ?_); clear F a; intro a F
  refine sG F (o_fieldAddr (F.ev rfl) ?_); clear F a; intro a F
  refine sG F (o_load1 M (F.ev rfl) (by repeat constructor) (by first | assumption | rfl) ?_); clear F a; intro a F
  refine sG F (o_eql (F.ev rfl) (F.ev rfl) ?_); clear F a; intro a F
  refine sD F (o_pickT (F.ev rfl) (F.ev rfl) ?_); clear F a; intro a F
  refine sD F (o_move (F.ev rfl) ?_); clear F a; intro a F
  refine sG F (o_fieldAddr (F.ev rfl) ?_); clear F a; intro a F
  refine sG F (o_loadA M (F.ev rfl) (by repeat constructor) (by first | assumption | rfl) ?_); clear F a; intro a F
  refine sG F (o_build F rfl (by assumption) ?_); clear F a; intro a F
  refine sG F (o_eqlA (F.ev rfl) (F.ev rfl) (by first | assumption | rfl) (by first | assumption | rfl) ?_); clear F a; intro a F
  refine sD F (o_pickT (F.ev rfl) (F.ev rfl) ?_); clear F a; intro a F
  refine sD F (o_move (F.ev rfl) ?_); clear F a; intro a F
  refine sG F (o_move (F.ev rfl) ?_); clear F a; intro a F
  refine sG F (o_lenSl (F.ev rfl) ?_); clear F a; intro a F
  refine sG F (o_eqlT (F.ev rfl) (F.ev rfl) (by omega) ?_); clear F a; intro a F
  refine sD F (o_pickT (F.ev rfl) (F.ev rfl) ?_); clear F a; intro a F
  refine sD F (o_move (F.ev rfl) ?_); clear F a; intro a F
  refine sG F (o_move (F.ev rfl) ?_); clear F a; intro a F
  refine sG F (o_indexSl (F.ev rfl) (F.ev rfl) (by omega) (by omega) ?_); clear F a; intro a F
  refine sG F (o_fieldAddr (F.ev rfl) ?_); clear F a; intro a F
  refine sG F (o_load1 M (F.ev rfl) (by repeat constructor) (by first | assumption | rfl) ?_); clear F a; intro a F
  refine sG F (o_eqlT (F.ev rfl) (F.ev rfl) (by omega) ?_); clear F a; intro a F
  refine sD F (o_pickT (F.ev rfl) (F.ev rfl) ?_); clear F a; intro a F
  refine sD F (o_assign (F.ev rfl) ?_); clear F a; intro a F
  with_reducible refine l_nil (q_then (c_ret ?_))
  refine p_ret F rfl (.cons (.tmp (F.ev rfl)) .nil) ?_
  exact ⟨rfl, M.ext⟩
end Go.Proofs.YtilgoepokaaleaaGreat
/-! YQ -/
namespace Go.Proofs.YtilgoepokaaleaaGreat
set_option linter.unusedVariables false
set_option linter.unusedSimpArgs false
open Go.RowKit
attribute [local irreducible] OpTo wpListIn Code.wpIn MW Cal
set_option maxHeartbeats 8000000 in
theorem rexpire_c (l : List RouV) (hx : ∀ x ∈ l, IsRo x) (v : Value) (now : Int) (W : World) (hS : SlAt W 39 v l.length (rosC l)) :
    Cal Tryz.prog 91 [v, .int .i64 now].toArray W fun r w' => ∃ ent, OwnS 53 39 r (expireV l now).length (rosC (expireV l now)) ent ∧ Mem [] W w' ent := by
  obtain ⟨q, cap, rfl, _⟩ := id hS
  have hm := hS.memB [] (by simp)
  have c1 : expireV l now = [] → ∀ w, Ext [] W w → ∃ ent, OwnS 53 39 (.slice none 0 0) (expireV l now).length (rosC (expireV l now)) ent ∧ Mem [] W w ent := fun h w E => by rw [h]; exact ⟨[], OwnS.nil _ _, Mem.nil E⟩
  refine g_start (n := 32) (S := []) fldT_ok slcT_ok Tryz.func91 rfl rfl rfl ?_
  cases hv : validRs l
  · refine g_run 9 rfl ?_
    refine g_call rfl rfl (fun w M => refvalidR_c _ (by assumption) _ _ ((by assumption : SlAt _ _ _ _ _).later M.ext)) ?_
    refine g_run 2 rfl ?_
    refine g_know 11 rfl (notT (by assumption)) ?_
    refine g_run 14 rfl ?_
    refine g_ret1 rfl rfl rfl fun w M => ?_
    exact c1 (by unfold expireV withoutV; simp [hv]) _ M.ext
  cases ht : isTime now
  · refine g_run 9 rfl ?_
    refine g_call rfl rfl (fun w M => refvalidR_c _ (by assumption) _ _ ((by assumption : SlAt _ _ _ _ _).later M.ext)) ?_
    refine g_run 2 rfl ?_
    refine g_know 11 rfl (notF (by assumption)) ?_
    refine g_run 1 rfl ?_
    refine g_call rfl rfl (fun w M => risTime_c _ _) ?_
    refine g_run 4 rfl ?_
    refine g_ifT rfl (notT (by assumption)) ?_
    refine g_run 7 rfl ?_
    refine g_ret1 rfl rfl rfl fun w M => ?_
    exact c1 (by unfold expireV; simp [ht]) _ M.ext
  have hl512 := (validRs_iff.1 hv).1
  refine g_run 9 rfl ?_
  refine g_call rfl rfl (fun w M => refvalidR_c _ (by assumption) _ _ ((by assumption : SlAt _ _ _ _ _).later M.ext)) ?_
  refine g_run 2 rfl ?_
  refine g_know 11 rfl (notF (by assumption)) ?_
  refine g_run 1 rfl ?_
  refine g_call rfl rfl (fun w M => risTime_c _ _) ?_
  refine g_run 4 rfl ?_
  refine g_ifF rfl (notF (by assumption)) ?_
  refine g_run 16 rfl ?_
  refine g_pad ?_
  refine g_loop (ι := Nat × (List RouV) × Value × (List (Nat × Obj))) ⟨fun (i, out, u, es) => l.length - i, fun (i, out, u, es) => i ≤ l.length ∧ (OwnS 53 39 u out.length (rosC out) es) ∧ (out = (l.take i).filter (fun x => !decide (x.til ≤ now))), fun (i, out, u, es) => [(18, .int .i64 i), (17, .int .i64 l.length), (16, .slice q l.length cap), (5, u), (1, .int .i64 now)], fun (i, out, u, es) => [es]⟩ (0, [], _, []) ⟨by omega, OwnS.nilL _ _ _, rfl⟩ (fun a F => F.only [18, 17, 16, 5, 1] rfl) (by repeat (first | exact .refl _ | apply List.Sublist.cons_cons | apply List.Sublist.cons)) ?_
  rintro ⟨i, out, u, es⟩ ⟨hi_i, hOs, ho⟩
  dsimp only
  by_cases hlt_i : i < l.length
  · obtain ⟨b, o, cs, t', fz, rfl, hb, hs⟩ := hm (by omega)
    obtain ⟨x, hx0⟩ : ∃ x, x = l[i] := ⟨_, rfl⟩
    have hxm : x ∈ l := by rw [hx0]; exact List.getElem_mem hlt_i
    have hxi : IsRo x := hx _ hxm
    have f1 : seg cs (o + (i : Int).toNat * 39) 39 = some (roC x) := by rw [hx0]; exact seg_el (ros_len hx) hs hlt_i (by omega)
    have hx0' := hx0
    clear hx0
    have hst := filter_step (p := fun x => !decide (x.til ≤ now)) hlt_i
    rw [← ho, ← hx0'] at hst
    have hol : out.length ≤ i := by rw [ho]; exact Nat.le_trans (List.length_filter_le _ _) (by rw [List.length_take]; omega)
    clear ho hx0' c1
    by_cases k : now < x.til
    · rw [if_pos (by simp; omega)] at hst
      refine g_run 6 rfl ?_
      refine g_ifT rfl (decide_eq_true (by omega)) ?_
      refine g_run 6 rfl ?_
      refine g_ixS rfl rfl (by omega) (by omega) ?_
      refine g_leA rfl (by assumption) (by with_reducible assumption) ?_
      refine g_alloc fun b7 => ?_
      refine g_stA 0 rfl rfl (ro_len (by assumption)) (ro_one _) rfl (put_all (by rw [ro_len (by assumption)]; first | rfl | rw [ro_len (by assumption)])) rfl ?_
      refine g_run 5 rfl ?_
      refine g_ld1 0 rfl rfl (ro_til (by assumption)) ?_
      refine g_run 4 rfl ?_
      refine g_ifT rfl (decide_eq_true (by omega)) ?_
      refine g_run 2 rfl ?_
      refine g_ldA 0 rfl rfl (ro_all (by assumption)) ?_
      refine g_bs rfl rfl rfl (ro_build1 (by assumption)) fun b28 => ?_
      refine g_app 2 0 (enc := roC) rfl rfl (by assumption) rfl rfl (ro_len (by assumption)) (by first | omega | (simp only [List.length_nil]; omega)) (fun _ => rfl) (fun v29 es29 hO29 => ?_) (ro_one _)
      refine g_run 5 rfl ?_
      refine g_add rfl rfl (w_i64 (by omega) (by omega)) ?_
      refine g_run 2 rfl ?_
      exact g_next (i + 1, _, _, _) ⟨by omega, by assumption, hst.symm⟩ (by dsimp only; omega) (fun a F => F.only [18, 17, 16, 5, 1] rfl) (by (try dsimp only); repeat (first | exact .refl _ | with_reducible exact List.nil_sublist _ | with_reducible apply List.Sublist.cons_cons | apply List.Sublist.cons))
    · rw [if_neg (by simp; omega), List.append_nil] at hst
      refine g_run 6 rfl ?_
      refine g_ifT rfl (decide_eq_true (by omega)) ?_
      refine g_run 6 rfl ?_
      refine g_ixS rfl rfl (by omega) (by omega) ?_
      refine g_leA rfl (by assumption) (by with_reducible assumption) ?_
      refine g_alloc fun b7 => ?_
      refine g_stA 0 rfl rfl (ro_len (by assumption)) (ro_one _) rfl (put_all (by rw [ro_len (by assumption)]; first | rfl | rw [ro_len (by assumption)])) rfl ?_
      refine g_run 5 rfl ?_
      refine g_ld1 0 rfl rfl (ro_til (by assumption)) ?_
      refine g_run 4 rfl ?_
      refine g_ifF rfl (decide_eq_false (by omega)) ?_
      refine g_run 4 rfl ?_
      refine g_add rfl rfl (w_i64 (by omega) (by omega)) ?_
      refine g_run 2 rfl ?_
      exact g_next (i + 1, out, u, es) ⟨by omega, hOs, hst.symm⟩ (by dsimp only; omega) (fun a F => F.only [18, 17, 16, 5, 1] rfl) (by (try dsimp only); repeat (first | exact .refl _ | with_reducible exact List.nil_sublist _ | with_reducible apply List.Sublist.cons_cons | apply List.Sublist.cons))
  · have hil : i = l.length := by omega
    rw [hil, List.take_length] at ho
    have he : expireV l now = out := by unfold expireV withoutV; rw [if_pos ht, if_pos hv, ho]
    rw [he]
    clear c1
    refine g_run 6 rfl ?_
    refine g_ifF rfl (decide_eq_false (by omega)) ?_
    refine g_run 2 rfl ?_
    refine g_outX ?_
    refine g_run 9 rfl ?_
    refine g_ret1 rfl rfl rfl fun w M => ?_
    exact ⟨es, hOs, M.sub (List.sublist_append_left _ _)⟩
set_option maxHeartbeats 8000000 in
theorem rforget_c (l : List RouV) (hx : ∀ x ∈ l, IsRo x) (hlen : l.length ≤ 100000) (v : Value) (nb : Int) (W : World) (hS : SlAt W 39 v l.length (rosC l)) :
    Cal Tryz.prog 92 [v, .int .u64 nb].toArray W fun r w' => ∃ ent, OwnS 53 39 r (forgetV l nb).length (rosC (forgetV l nb)) ent ∧ Mem [] W w' ent := by
  obtain ⟨q, cap, rfl, _⟩ := id hS
  have hm := hS.memB [] (by simp)
  refine g_start (n := 28) (S := []) fldT_ok slcT_ok Tryz.func92 rfl rfl rfl ?_
  refine g_run 19 rfl ?_
  refine g_pad ?_
  refine g_loop (ι := Nat × (List RouV) × Value × (List (Nat × Obj))) ⟨fun (i, out, u, es) => l.length - i, fun (i, out, u, es) => i ≤ l.length ∧ (OwnS 53 39 u out.length (rosC out) es) ∧ (out = (l.take i).filter (fun x => validRs l && !(x.nb == nb))), fun (i, out, u, es) => [(10, .int .i64 i), (9, .int .i64 l.length), (8, .slice q l.length cap), (5, u), (0, .slice q l.length cap), (1, .int .u64 nb)], fun (i, out, u, es) => [es]⟩ (0, [], _, []) ⟨by omega, OwnS.nilL _ _ _, rfl⟩ (fun a F => F.only [10, 9, 8, 5, 0, 1] rfl) (by repeat (first | exact .refl _ | apply List.Sublist.cons_cons | apply List.Sublist.cons)) ?_
  rintro ⟨i, out, u, es⟩ ⟨hi_i, hOs, ho⟩
  dsimp only
  by_cases hlt_i : i < l.length
  · obtain ⟨b, o, cs, t', fz, rfl, hb, hs⟩ := hm (by omega)
    obtain ⟨x, hx0⟩ : ∃ x, x = l[i] := ⟨_, rfl⟩
    have hxm : x ∈ l := by rw [hx0]; exact List.getElem_mem hlt_i
    have hxi : IsRo x := hx _ hxm
    have f1 : seg cs (o + (i : Int).toNat * 39) 39 = some (roC x) := by rw [hx0]; exact seg_el (ros_len hx) hs hlt_i (by omega)
    have hx0' := hx0
    clear hx0
    have hst := filter_step (p := fun x => validRs l && !(x.nb == nb)) hlt_i
    rw [← ho, ← hx0'] at hst
    have hol : out.length ≤ i := by rw [ho]; exact Nat.le_trans (List.length_filter_le _ _) (by rw [List.length_take]; omega)
    clear ho hx0'
    by_cases k : x.nb = nb
    · rw [if_neg (by simp [k]), List.append_nil] at hst
      refine g_run 6 rfl ?_
      refine g_ifT rfl (decide_eq_true (by omega)) ?_
      refine g_run 6 rfl ?_
      refine g_ixS rfl rfl (by omega) (by omega) ?_
      refine g_leA rfl (by assumption) (by with_reducible assumption) ?_
      refine g_alloc fun b7 => ?_
      refine g_stA 0 rfl rfl (ro_len (by assumption)) (ro_one _) rfl (put_all (by rw [ro_len (by assumption)]; first | rfl | rw [ro_len (by assumption)])) rfl ?_
      refine g_run 5 rfl ?_
      refine g_ld1 0 rfl rfl (ro_nb (by assumption)) ?_
      refine g_run 3 rfl ?_
      refine g_know 18 rfl (bneF (by omega)) ?_
      refine g_run 10 rfl ?_
      refine g_add rfl rfl (w_i64 (by omega) (by omega)) ?_
      refine g_run 2 rfl ?_
      exact g_next (i + 1, out, u, es) ⟨by omega, hOs, hst.symm⟩ (by dsimp only; omega) (fun a F => F.only [10, 9, 8, 5, 0, 1] rfl) (by (try dsimp only); repeat (first | exact .refl _ | with_reducible exact List.nil_sublist _ | with_reducible apply List.Sublist.cons_cons | apply List.Sublist.cons))
    · by_cases hv : validRs l = true
      · rw [if_pos (by simp [k, hv])] at hst
        refine g_run 6 rfl ?_
        refine g_ifT rfl (decide_eq_true (by omega)) ?_
        refine g_run 6 rfl ?_
        refine g_ixS rfl rfl (by omega) (by omega) ?_
        refine g_leA rfl (by assumption) (by with_reducible assumption) ?_
        refine g_alloc fun b7 => ?_
        refine g_stA 0 rfl rfl (ro_len (by assumption)) (ro_one _) rfl (put_all (by rw [ro_len (by assumption)]; first | rfl | rw [ro_len (by assumption)])) rfl ?_
        refine g_run 5 rfl ?_
        refine g_ld1 0 rfl rfl (ro_nb (by assumption)) ?_
        refine g_run 3 rfl ?_
        refine g_know 18 rfl (bne_iff_ne.2 (by omega)) ?_
        refine g_run 1 rfl ?_
        refine g_call rfl rfl (fun w M => refvalidR_c _ (by assumption) _ _ ((by assumption : SlAt _ _ _ _ _).later M.ext)) ?_
        refine g_run 3 rfl ?_
        refine g_ifT rfl (by assumption) ?_
        refine g_run 2 rfl ?_
        refine g_ldA 0 rfl rfl (ro_all (by assumption)) ?_
        refine g_bs rfl rfl rfl (ro_build1 (by assumption)) fun b24 => ?_
        refine g_app 2 0 (enc := roC) rfl rfl (by assumption) rfl rfl (ro_len (by assumption)) (by first | omega | (simp only [List.length_nil]; omega)) (fun _ => rfl) (fun v25 es25 hO25 => ?_) (ro_one _)
        refine g_run 5 rfl ?_
        refine g_add rfl rfl (w_i64 (by omega) (by omega)) ?_
        refine g_run 2 rfl ?_
        exact g_next (i + 1, _, _, _) ⟨by omega, by assumption, hst.symm⟩ (by dsimp only; omega) (fun a F => F.only [10, 9, 8, 5, 0, 1] rfl) (by (try dsimp only); repeat (first | exact .refl _ | with_reducible exact List.nil_sublist _ | with_reducible apply List.Sublist.cons_cons | apply List.Sublist.cons))
      · have hv' : validRs l = false := by simpa using hv
        rw [if_neg (by simp [hv']), List.append_nil] at hst
        refine g_run 6 rfl ?_
        refine g_ifT rfl (decide_eq_true (by omega)) ?_
        refine g_run 6 rfl ?_
        refine g_ixS rfl rfl (by omega) (by omega) ?_
        refine g_leA rfl (by assumption) (by with_reducible assumption) ?_
        refine g_alloc fun b7 => ?_
        refine g_stA 0 rfl rfl (ro_len (by assumption)) (ro_one _) rfl (put_all (by rw [ro_len (by assumption)]; first | rfl | rw [ro_len (by assumption)])) rfl ?_
        refine g_run 5 rfl ?_
        refine g_ld1 0 rfl rfl (ro_nb (by assumption)) ?_
        refine g_run 3 rfl ?_
        refine g_know 18 rfl (bne_iff_ne.2 (by omega)) ?_
        refine g_run 1 rfl ?_
        refine g_call rfl rfl (fun w M => refvalidR_c _ (by assumption) _ _ ((by assumption : SlAt _ _ _ _ _).later M.ext)) ?_
        refine g_run 3 rfl ?_
        refine g_ifF rfl (by assumption) ?_
        refine g_run 4 rfl ?_
        refine g_add rfl rfl (w_i64 (by omega) (by omega)) ?_
        refine g_run 2 rfl ?_
        exact g_next (i + 1, out, u, es) ⟨by omega, hOs, hst.symm⟩ (by dsimp only; omega) (fun a F => F.only [10, 9, 8, 5, 0, 1] rfl) (by (try dsimp only); repeat (first | exact .refl _ | with_reducible exact List.nil_sublist _ | with_reducible apply List.Sublist.cons_cons | apply List.Sublist.cons))
  · have hil : i = l.length := by omega
    rw [hil, List.take_length] at ho
    have he : forgetV l nb = out := by
      unfold forgetV withoutV
      cases hv : validRs l
      · rw [ho, hv]; simp
      · rw [ho, hv]; simp
    rw [he]
    refine g_run 6 rfl ?_
    refine g_ifF rfl (decide_eq_false (by omega)) ?_
    refine g_run 2 rfl ?_
    refine g_outX ?_
    refine g_run 9 rfl ?_
    refine g_ret1 rfl rfl rfl fun w M => ?_
    exact ⟨es, hOs, M.sub (List.sublist_append_left _ _)⟩
end Go.Proofs.YtilgoepokaaleaaGreat
/-! YR -/
namespace Go.Proofs.YtilgoepokaaleaaGreat
set_option linter.unusedVariables false
set_option linter.unusedSimpArgs false
open Go.RowKit
attribute [local irreducible] OpTo wpListIn Code.wpIn MW Cal
set_option maxHeartbeats 16000000 in
theorem tables_c (l : List RouV) (hx : ∀ x ∈ l, IsRo x) (hlen : l.length ≤ 1000) (v : Value) (now : Int) (t : DstV) (ht : IsDv t) (nb : Int) (d : DisV) (W : World) (hS : SlAt W 39 v l.length (rosC l)) :
    Cal Tryz.prog 40 [v, .int .i64 now, .agg (dvC t).toArray, .int .u64 nb, .agg (diC d).toArray].toArray W fun r w' => r = .bool true ∧ Ext [] W w' := by
  obtain ⟨q, cap, rfl, _⟩ := id hS
  have e1 := dv_all ht
  have e2 := di_all (o := d) trivial
  have l1 := learn_is (now := now) (nb := nb) (d := d) hx ht
  have l2 := learn_valid (l := l) (now := now) (t := t) (nb := nb) (d := d)
  have l3 := learn_len (l := l) (now := now) (t := t) (nb := nb) (d := d)
  have k1 := learnA_c l hx (.slice q l.length cap) now t ht nb d
  have k2 := rlearn_c l hx (.slice q l.length cap) now t ht nb d
  generalize learnV l now t nb d = L at *
  obtain ⟨A, er⟩ := L
  dsimp only at l1 l2 l3 k1 k2
  have wS : ∀ p, ∀ x ∈ withoutV l p, IsRo x := fun p x h => by
    unfold withoutV at h
    split at h
    · exact hx x (List.mem_filter.1 h).1
    · cases h
  have wL : ∀ p, (withoutV l p).length ≤ l.length := fun p => by
    unfold withoutV
    split
    · exact List.length_filter_le _ _
    · simp
  have x1 : ∀ x ∈ expireV l now, IsRo x := fun x h => by
    unfold expireV at h
    split at h
    · exact wS _ x h
    · cases h
  have x2 : (expireV l now).length ≤ l.length := by
    unfold expireV
    split
    · exact wL _
    · simp
  have y1 : ∀ x ∈ forgetV l nb, IsRo x := wS _
  have y2 : (forgetV l nb).length ≤ l.length := wL _
  have k3 := expire_c l hx (.slice q l.length cap) now
  have k4 := rexpire_c l hx (.slice q l.length cap) now
  have k5 := forget_c l hx (.slice q l.length cap) nb
  have k6 := rforget_c l hx (by omega) (.slice q l.length cap) nb
  have k7 := rtvalid_c l hx (.slice q l.length cap)
  have k8 := refvalidR_c l hx (.slice q l.length cap)
  generalize expireV l now = X at *
  generalize forgetV l nb = Y at *
  generalize validRs l = V at *
  clear wS wL
  refine fn_ofM (n := 74) [] Tryz.func40 rfl rfl rfl ?_
  intro a w F M hwW
  refine c_seq ?_
  refine c_region ?_
  (refine sD F (o_box M (F.ev rfl) rfl ?_); clear F M; intro b7 w M a F)
  (refine sD F (o_box M (F.ev rfl) rfl ?_); clear F M; intro b9 w M a F)
  refine sD F (o_assign (F.ev rfl) ?_); clear F a; intro a F
  with_reducible refine l_nil (q_then (c_seq (c_region ?_)))
  refine sD F (o_move (F.ev rfl) ?_); clear F a; intro a F
  refine sD F (o_move (F.ev rfl) ?_); clear F a; intro a F
  refine sD F (o_loadA M (F.ev rfl) (by repeat constructor) (by first | assumption | rfl) ?_); clear F a; intro a F
  refine sD F (o_move (F.ev rfl) ?_); clear F a; intro a F
  refine sD F (o_loadA M (F.ev rfl) (by repeat constructor) (by first | assumption | rfl) ?_); clear F a; intro a F
  (refine sD F (o_call (F.ev rfl) (F.evs rfl) (Cal.mono (k1 _ (hS.later M.ext)) ?_)); clear F; clear a; rintro _ w ⟨u1, n1, rfl, hO1, N⟩ a F; replace M := M.joins N; clear N)
  obtain ⟨p1, c1, rfl⟩ := hO1.slice
  replace M := M.perm (l' := (b9, .cells (diC d).toArray 48 (0, 0)) :: (b7, .cells (dvC t).toArray 45 (0, 0)) :: (n1)) (by classical exact List.perm_iff_count.2 fun _ => by simp only [List.count_append, List.count_cons, List.count_nil, Nat.add_zero, Nat.zero_add] <;> ac_rfl)
  refine sD F (o_move (F.ev rfl) ?_); clear F a; intro a F
  refine sD F (o_extract (F.ev rfl) rfl ?_); clear F a; intro a F
  refine sD F (o_extract (F.ev rfl) rfl ?_); clear F a; intro a F
  refine sD F (o_assign (F.ev rfl) ?_); clear F a; intro a F
  refine sD F (o_assign (F.ev rfl) ?_); clear F a; intro a F
  with_reducible refine l_nil (q_then (c_seq (c_region ?_)))
  refine sD F (o_move (F.ev rfl) ?_); clear F a; intro a F
  refine sD F (o_move (F.ev rfl) ?_); clear F a; intro a F
  refine sD F (o_loadA M (F.ev rfl) (by repeat constructor) (by first | assumption | rfl) ?_); clear F a; intro a F
  refine sD F (o_move (F.ev rfl) ?_); clear F a; intro a F
  refine sD F (o_loadA M (F.ev rfl) (by repeat constructor) (by first | assumption | rfl) ?_); clear F a; intro a F
  (refine sD F (o_call (F.ev rfl) (F.evs rfl) (Cal.mono (k2 _ (hS.later M.ext)) ?_)); clear F; clear a; rintro _ w ⟨u2, n2, rfl, hO2, N⟩ a F; replace M := M.joins N; clear N)
  obtain ⟨p2, c2, rfl⟩ := hO2.slice
  replace M := M.perm (l' := (b9, .cells (diC d).toArray 48 (0, 0)) :: (b7, .cells (dvC t).toArray 45 (0, 0)) :: (n1 ++ n2)) (by classical exact List.perm_iff_count.2 fun _ => by simp only [List.count_append, List.count_cons, List.count_nil, Nat.add_zero, Nat.zero_add] <;> ac_rfl)
  refine sD F (o_move (F.ev rfl) ?_); clear F a; intro a F
  refine sD F (o_extract (F.ev rfl) rfl ?_); clear F a; intro a F
  refine sD F (o_extract (F.ev rfl) rfl ?_); clear F a; intro a F
  refine sD F (o_assign (F.ev rfl) ?_); clear F a; intro a F
  refine sD F (o_assign (F.ev rfl) ?_); clear F a; intro a F
  with_reducible refine l_nil (q_then (c_seq (c_region ?_)))
  refine sD F (o_move (F.ev rfl) ?_); clear F a; intro a F
  (refine sD F (o_call (F.ev rfl) (F.evs rfl) (Cal.mono (k7 _ (hS.later M.ext)) ?_)); clear F; clear a; rintro _ w ⟨rfl, hE⟩ a F; replace M := M.later hE; clear hE)
  refine sD F (o_move (F.ev rfl) ?_); clear F a; intro a F
  (refine sD F (o_call (F.ev rfl) (F.evs rfl) (Cal.mono (k8 _ (hS.later M.ext)) ?_)); clear F; clear a; rintro _ w ⟨rfl, hE⟩ a F; replace M := M.later hE; clear hE)
  (refine sD F (o_eqlBT (F.ev rfl) (F.ev rfl) rfl ?_); clear F a; intro a F)
  refine sD F (o_move (F.ev rfl) ?_); clear F a; intro a F
  refine sG F (o_move (F.ev rfl) ?_); clear F a; intro a F
  refine sG F (o_move (F.ev rfl) ?_); clear F a; intro a F
  (refine sG F (o_call (F.ev rfl) (F.evs rfl) (Cal.mono (k3 _ (hS.later M.ext)) ?_)); clear F; clear a; rintro u w ⟨n3, hO3, N⟩ a F; replace M := M.joins N; clear N)
  obtain ⟨p3, c3, rfl⟩ := hO3.slice
  replace M := M.perm (l' := (b9, .cells (diC d).toArray 48 (0, 0)) :: (b7, .cells (dvC t).toArray 45 (0, 0)) :: (n1 ++ n2 ++ n3)) (by classical exact List.perm_iff_count.2 fun _ => by simp only [List.count_append, List.count_cons, List.count_nil, Nat.add_zero, Nat.zero_add] <;> ac_rfl)
  refine sG F (o_move (F.ev rfl) ?_); clear F a; intro a F
  refine sG F (o_move (F.ev rfl) ?_); clear F a; intro a F
  (refine sG F (o_call (F.ev rfl) (F.evs rfl) (Cal.mono (k4 _ (hS.later M.ext)) ?_)); clear F; clear a; rintro u w ⟨n4, hO4, N⟩ a F; replace M := M.joins N; clear N)
  obtain ⟨p4, c4, rfl⟩ := hO4.slice
  replace M := M.perm (l' := (b9, .cells (diC d).toArray 48 (0, 0)) :: (b7, .cells (dvC t).toArray 45 (0, 0)) :: (n1 ++ n2 ++ n3 ++ n4)) (by classical exact List.perm_iff_count.2 fun _ => by simp only [List.count_append, List.count_cons, List.count_nil, Nat.add_zero, Nat.zero_add] <;> ac_rfl)
  skip
  (refine sG F (o_call (F.ev rfl) (F.evs rfl) (Cal.mono (equalR_c X x1 (by omega) _ _ _ (hO3.slAt M (fun q hq => by simp [hq])) (hO4.slAt M (fun q hq => by simp [hq]))) ?_)); clear F; clear a; rintro _ w ⟨rfl, hE⟩ a F; replace M := M.later hE; clear hE)
  refine sD F (o_pickT (F.ev rfl) (F.ev rfl) ?_); clear F a; intro a F
  refine sD F (o_move (F.ev rfl) ?_); clear F a; intro a F
  refine sG F (o_move (F.ev rfl) ?_); clear F a; intro a F
  refine sG F (o_move (F.ev rfl) ?_); clear F a; intro a F
  (refine sG F (o_call (F.ev rfl) (F.evs rfl) (Cal.mono (k5 _ (hS.later M.ext)) ?_)); clear F; clear a; rintro u w ⟨n5, hO5, N⟩ a F; replace M := M.joins N; clear N)
  obtain ⟨p5, c5, rfl⟩ := hO5.slice
  replace M := M.perm (l' := (b9, .cells (diC d).toArray 48 (0, 0)) :: (b7, .cells (dvC t).toArray 45 (0, 0)) :: (n1 ++ n2 ++ n3 ++ n4 ++ n5)) (by classical exact List.perm_iff_count.2 fun _ => by simp only [List.count_append, List.count_cons, List.count_nil, Nat.add_zero, Nat.zero_add] <;> ac_rfl)
  refine sG F (o_move (F.ev rfl) ?_); clear F a; intro a F
  refine sG F (o_move (F.ev rfl) ?_); clear F a; intro a F
  (refine sG F (o_call (F.ev rfl) (F.evs rfl) (Cal.mono (k6 _ (hS.later M.ext)) ?_)); clear F; clear a; rintro u w ⟨n6, hO6, N⟩ a F; replace M := M.joins N; clear N)
  obtain ⟨p6, c6, rfl⟩ := hO6.slice
  replace M := M.perm (l' := (b9, .cells (diC d).toArray 48 (0, 0)) :: (b7, .cells (dvC t).toArray 45 (0, 0)) :: (n1 ++ n2 ++ n3 ++ n4 ++ n5 ++ n6)) (by classical exact List.perm_iff_count.2 fun _ => by simp only [List.count_append, List.count_cons, List.count_nil, Nat.add_zero, Nat.zero_add] <;> ac_rfl)
  skip
  (refine sG F (o_call (F.ev rfl) (F.evs rfl) (Cal.mono (equalR_c Y y1 (by omega) _ _ _ (hO5.slAt M (fun q hq => by simp [hq])) (hO6.slAt M (fun q hq => by simp [hq]))) ?_)); clear F; clear a; rintro _ w ⟨rfl, hE⟩ a F; replace M := M.later hE; clear hE)
  refine sD F (o_pickT (F.ev rfl) (F.ev rfl) ?_); clear F a; intro a F
  refine sD F (o_move (F.ev rfl) ?_); clear F a; intro a F
  refine sG F (o_move (F.ev rfl) ?_); clear F a; intro a F
  refine sG F (o_move (F.ev rfl) ?_); clear F a; intro a F
  refine sG F (o_eqlT (F.ev rfl) (F.ev rfl) (by omega) ?_); clear F a; intro a F
  refine sD F (o_pickT (F.ev rfl) (F.ev rfl) ?_); clear F a; intro a F
  refine sD F (o_move (F.ev rfl) ?_); clear F a; intro a F
  refine sG F (o_move (F.ev rfl) ?_); clear F a; intro a F
  refine sG F (o_move (F.ev rfl) ?_); clear F a; intro a F
  (refine sG F (o_call (F.ev rfl) (F.evs rfl) (Cal.mono (equalR_c A l1 (by omega) _ _ _ (hO1.slAt M (fun q hq => by simp [hq])) (hO2.slAt M (fun q hq => by simp [hq]))) ?_)); clear F; clear a; rintro _ w ⟨rfl, hE⟩ a F; replace M := M.later hE; clear hE)
  by_cases he : er = 0
  · refine sD F (o_pickT (F.ev rfl) (F.ev rfl) ?_); clear F a; intro a F
    refine sD F (o_move (F.ev rfl) ?_); clear F a; intro a F
    refine sG F (o_move (F.ev rfl) ?_); clear F a; intro a F
    refine sG F (o_neqF (F.ev rfl) (F.ev rfl) (by omega) ?_); clear F a; intro a F
    refine sG F (o_move (F.ev rfl) ?_); clear F a; intro a F
    refine sG F (o_move (F.ev rfl) ?_); clear F a; intro a F
    (refine sG F (o_call (F.ev rfl) (F.evs rfl) (Cal.mono (rtvalid_c A l1 _ _ (hO1.slAt M (fun q hq => by simp [hq]))) ?_)); clear F; clear a; rintro _ w ⟨rfl, hE⟩ a F; replace M := M.later hE; clear hE)
    rw [l2 he] at F
    refine sG F (o_pickF (F.ev rfl) (F.ev rfl) ?_); clear F a; intro a F
    refine sD F (o_pickT (F.ev rfl) (F.ev rfl) ?_); clear F a; intro a F
    refine sD F (o_assign (F.ev rfl) ?_); clear F a; intro a F
    with_reducible refine l_nil (q_then (c_ret ?_))
    refine p_ret F rfl (.cons (.tmp (F.ev rfl)) .nil) ?_
    exact ⟨rfl, M.ext⟩
  · refine sD F (o_pickT (F.ev rfl) (F.ev rfl) ?_); clear F a; intro a F
    refine sD F (o_move (F.ev rfl) ?_); clear F a; intro a F
    refine sG F (o_move (F.ev rfl) ?_); clear F a; intro a F
    refine sG F (o_neqT (F.ev rfl) (F.ev rfl) (by omega) ?_); clear F a; intro a F
    refine sG F (o_move (F.ev rfl) ?_); clear F a; intro a F
    refine sO F ?_; clear F a; intro a F
    refine sO F ?_; clear F a; intro a F
    refine sG F (o_pickT (F.ev rfl) (F.ev rfl) ?_); clear F a; intro a F
    refine sD F (o_pickT (F.ev rfl) (F.ev rfl) ?_); clear F a; intro a F
    refine sD F (o_assign (F.ev rfl) ?_); clear F a; intro a F
    with_reducible refine l_nil (q_then (c_ret ?_))
    refine p_ret F rfl (.cons (.tmp (F.ev rfl)) .nil) ?_
    exact ⟨rfl, M.ext⟩
set_option maxHeartbeats 4000000 in
theorem key_c {bt : Nat} {p : Option Addr} {len cap k : Nat} {xs : List Int} (l : List RouV) (hx : ∀ x ∈ l, IsRo x) (hlen : l.length ≤ 1000) (v : Value) (W : World) (hS : SlAt W 39 v l.length (rosC l)) (hnb : ∀ b o s k c, v = .slice (some ⟨b, o, s⟩) k c → b ∉ [bt]) (hT : TapeS W bt p len xs) (hb : W.heap[bt]? = some (tobj p len cap k)) :
    Cal Tryz.prog 41 [.pointer (some ⟨bt, 0, none⟩), v].toArray W fun r w' => ∃ x k', r = .agg (dvC x).toArray ∧ IsDv x ∧ Mem [bt] W w' [(bt, tobj p len cap k')] := by
  obtain ⟨q, cp, rfl, _⟩ := id hS
  have fin : ∀ (w : World) (k' b : Nat) (o : Obj), Mem [bt] W w [(b, o), (bt, tobj p len cap k')] → Mem [bt] W w [(bt, tobj p len cap k')] := fun w k' b o M => M.sub (List.sublist_cons_self _ _)
  refine fn_ofM (n := 22) [bt] Tryz.func41 rfl rfl rfl ?_
  intro a w F M hwW
  replace M := M.came hwW hb (by simp) (by simp)
  refine c_seq ?_
  refine c_region ?_
  (refine sD F (o_alloc M ?_); clear F M; intro b4 w M a F)
  by_cases h0 : 0 < l.length
  · with_reducible refine l_nil ?_
    with_reducible refine q_then (c_seq (c_seq (c_region ?_)))
    refine sD F (o_move (F.ev rfl) ?_); clear F a; intro a F
    refine sD F (o_lenSl (F.ev rfl) ?_); clear F a; intro a F
    refine sD F (o_gtrT (F.ev rfl) (F.ev rfl) (by omega) ?_); clear F a; intro a F
    refine sD F (o_move (F.ev rfl) ?_); clear F a; intro a F
    refine sG F (o_move (F.ev rfl) ?_); clear F a; intro a F
    (refine sG F (o_call (F.ev rfl) (F.evs rfl) (Cal.mono (boolE_c 2 (by omega) (by omega) _ (hT.later M.ext) (M.heap (.there .here))) ?_)); clear F; clear a; have M0 := M; clear M; rintro _ w ⟨c, k3, rfl, N⟩ a F)
    replace M := M0.turn1 N (.there .here)
    clear M0 N
    cases c
    · refine sD F (o_pickT (F.ev rfl) (F.ev rfl) ?_); clear F a; intro a F
      with_reducible refine l_nil (q_then ?_)
      refine c_false F rfl rfl ?_
      with_reducible refine c_skip (q_then (c_seq (c_region ?_)))
      refine sD F (o_move (F.ev rfl) ?_); clear F a; intro a F
      (refine sD F (o_call (F.ev rfl) (F.evs rfl) (Cal.mono (toE_c _ (hT.later M.ext) (M.heap (.there .here)) ) ?_)); clear F; clear a; have M0 := M; clear M; rintro _ w ⟨x0, k2, rfl, hx0, hv0, N⟩ a F)
      replace M := M0.turn1 N (.there .here)
      clear M0 N
      unfold dvV at F
      (refine stepN rfl F (o_storeA M (F.ev rfl) (F.ev rfl) (dv_len hx0) (dv_one _)  (by repeat constructor)  (put_all (by rw [dv_len hx0]; rfl)) (by repeat constructor) ?_); clear F M; intro w M a F)
      with_reducible refine l_nil (q_then (c_ret ?_))
      exact p_ret F rfl (.cons (.cell (F.ev rfl) (run_loadVar_agg TAgg.h (M.heap .here) (dv_all hx0))) .nil) ⟨x0, k2, rfl, hx0, fin _ _ _ _ M⟩
    · refine sD F (o_pickT (F.ev rfl) (F.ev rfl) ?_); clear F a; intro a F
      with_reducible refine l_nil (q_then ?_)
      refine c_true F rfl rfl ?_
      refine c_seq (c_region ?_)
      refine sD F (o_move (F.ev rfl) ?_); clear F a; intro a F
      refine sD F (o_move (F.ev rfl) ?_); clear F a; intro a F
      refine sD F (o_move (F.ev rfl) ?_); clear F a; intro a F
      refine sD F (o_lenSl (F.ev rfl) ?_); clear F a; intro a F
      (refine sD F (o_call (F.ev rfl) (F.evs rfl) (Cal.mono (nextE_c l.length (by omega) (by omega) _ (hT.later M.ext) (M.heap (.there .here)) ) ?_)); clear F; clear a; have M0 := M; clear M; rintro _ w ⟨qi, k4, rfl, hq, N⟩ a F)
      replace M := M0.turn1 N (.there .here)
      clear M0 N
      obtain ⟨qn, rfl⟩ := Int.eq_ofNat_of_zero_le hq.1
      have hqn : qn < l.length := by omega
      obtain ⟨q0, cap0, hv0, _, _, _, hm1⟩ := hS.laterB hnb M.ext
      cases hv0
      obtain ⟨b, o, cs, t, fz, rfl, hbb, hsg⟩ := hm1 (by omega)
      have hqi := hx _ (List.getElem_mem hqn)
      have f1 : seg cs (o + (qn : Int).toNat * 39) 39 = some (roC l[qn]) := seg_el (ros_len hx) hsg hqn (by omega)
      have f2 : seg cs (o + (qn : Int).toNat * 39 + 0) 35 = some (dvC l[qn].to) := sg_seg f1 (ro_to hqi) (by omega)
      refine sD F (o_indexSl (F.ev rfl) (F.ev rfl) (by omega) (by omega) ?_); clear F a; intro a F
      refine sD F (o_fieldAddr (F.ev rfl) ?_); clear F a; intro a F
      (refine sD F (o_loadHA (F.ev rfl) hbb f2 ?_); clear F a; intro a F)
      (refine stepN rfl F (o_storeA M (F.ev rfl) (F.ev rfl) (dv_len hqi.1) (dv_one _)  (by repeat constructor)  (put_all (by rw [dv_len hqi.1]; rfl)) (by repeat constructor) ?_); clear F M; intro w M a F)
      with_reducible refine l_nil (q_then (c_ret (q_thenR ?_)))
      exact p_ret F rfl (.cons (.cell (F.ev rfl) (run_loadVar_agg TAgg.h (M.heap .here) (dv_all hqi.1))) .nil) ⟨_, k4, rfl, hqi.1, fin _ _ _ _ M⟩
  · with_reducible refine l_nil ?_
    with_reducible refine q_then (c_seq (c_seq (c_region ?_)))
    refine sD F (o_move (F.ev rfl) ?_); clear F a; intro a F
    refine sD F (o_lenSl (F.ev rfl) ?_); clear F a; intro a F
    refine sD F (o_gtrF (F.ev rfl) (F.ev rfl) (by omega) ?_); clear F a; intro a F
    refine sD F (o_move (F.ev rfl) ?_); clear F a; intro a F
    refine sO F ?_; clear F a; intro a F
    refine sO F ?_; clear F a; intro a F
    refine sD F (o_pickF (F.ev rfl) (F.ev rfl) ?_); clear F a; intro a F
    with_reducible refine l_nil (q_then ?_)
    refine c_false F rfl rfl ?_
    with_reducible refine c_skip (q_then (c_seq (c_region ?_)))
    refine sD F (o_move (F.ev rfl) ?_); clear F a; intro a F
    (refine sD F (o_call (F.ev rfl) (F.evs rfl) (Cal.mono (toE_c _ (hT.later M.ext) (M.heap (.there .here)) ) ?_)); clear F; clear a; have M0 := M; clear M; rintro _ w ⟨x0, k2, rfl, hx0, hv0, N⟩ a F)
    replace M := M0.turn1 N (.there .here)
    clear M0 N
    unfold dvV at F
    (refine stepN rfl F (o_storeA M (F.ev rfl) (F.ev rfl) (dv_len hx0) (dv_one _)  (by repeat constructor)  (put_all (by rw [dv_len hx0]; rfl)) (by repeat constructor) ?_); clear F M; intro w M a F)
    with_reducible refine l_nil (q_then (c_ret ?_))
    exact p_ret F rfl (.cons (.cell (F.ev rfl) (run_loadVar_agg TAgg.h (M.heap .here) (dv_all hx0))) .nil) ⟨x0, k2, rfl, hx0, fin _ _ _ _ M⟩
end Go.Proofs.YtilgoepokaaleaaGreat
/-! YM -/
namespace Go.Proofs.YtilgoepokaaleaaGreat
set_option linter.unusedVariables false
set_option linter.unusedSimpArgs false
open Go.RowKit
attribute [local irreducible] OpTo wpListIn Code.wpIn MW Cal
/-- c_drawB, with what stays from ahead of the region on -/
theorem c_drawBF {P : Program} {r : Option Nat} {Q : Exit → Act → World → Prop} {a : Act} {w W0 : World} {S : List Nat} {nt : Nat} {df : List Deferred} {fr : List (Nat × Value)} {id : Nat} {ol : List Oper} {l : List (Nat × Obj)} {l0 : List (Nat × Obj)} (B : List Nat) (Ef : List Nat) (M : Mem S W0 w (l0 ++ l)) (n : Nat) [hm : TMix P] (F : Frm a nt df fr)
    (hchk : (regOk ol.toArray n && tailOk ol.toArray n && Nat.ble n ol.length && dstOk ol.toArray n nt && effOk ol.toArray n Ef) = true)
    (h : ∀ w1, Ext [] w w1 → Mem S W0 w1 (l0 ++ l) → regOk ol.toArray n = true → effOk ol.toArray n Ef = true → MW ⟨keepBut B, Ef, [], P, r, ol.toArray, n, nt, df, a, w1, Q, [], []⟩ 0 ol fr [] (fun _ w => Mem S W0 w (l0 ++ l))) : Wp r P (.region id ol.toArray true) Q a w :=
  c_drawK (keepBut B) Ef [] (fun _ w => Mem S W0 w (l0 ++ l)) n F hchk rfl (fun h => absurd rfl h) (fun h => absurd rfl h) (fun _ _ _ h k => h.later k) (fun _ d hd => M.later (Ext.drawn w d hd)) fun w1 hE _ hok hef => h w1 hE (M.later hE) hok hef
/-- installed destinations in new memory, as an answer -/
def InsP (n0 : Nat) : Pred := fun v w => ∃ m : List InsV, (∀ x ∈ m, IsIn x) ∧ SlN n0 w 40 v m.length (insC m)
theorem InsP.staysBut {n0 bt : Nat} (hbt : bt < n0) : Stays (keepBut [bt]) (InsP n0) := fun v w w' ⟨m, h1, h2⟩ h => ⟨m, h1, h2.laterB hbt h⟩
end Go.Proofs.YtilgoepokaaleaaGreat
/-! YS -/
namespace Go.Proofs.YtilgoepokaaleaaGreat
set_option linter.unusedVariables false
set_option linter.unusedSimpArgs false
open Go.RowKit
attribute [local irreducible] OpTo wpListIn Code.wpIn MW Cal
/-- routes in new memory, as an answer -/
def RouP (n0 : Nat) : Pred := fun v w => ∃ m : List RouV, (∀ x ∈ m, IsRo x) ∧ m.length ≤ 10 ∧ SlN n0 w 39 v m.length (rosC m)
theorem RouP.staysBut {n0 bt : Nat} (hbt : bt < n0) : Stays (keepBut [bt]) (RouP n0) := fun v w w' ⟨m, h1, h2, h3⟩ h => ⟨m, h1, h2, h3.laterB hbt h⟩
def DvP : Pred := fun v _ => ∃ x : DstV, IsDv x ∧ v = .agg (dvC x).toArray
theorem DvP.stays (K : Keep) : Stays K DvP := fun _ _ _ h _ => h
def U64P : Pred := fun v _ => ∃ x : Int, v = .int .u64 x
theorem U64P.stays (K : Keep) : Stays K U64P := fun _ _ _ h _ => h
set_option maxHeartbeats 32000000 in
theorem tablesL_c (raw : List RouV) (hrx : ∀ x ∈ raw, IsRo x) (vr : Value) (now : Int) (to : DstV) (hto : IsDv to) (nb : Int) (d : DisV) (pt : Option Addr) (cap : Nat) (xs0 : List Int) (W : World) (hSr : SlAt W 39 vr raw.length (rosC raw)) (hI : IntsAt W (.slice pt xs0.length cap) xs0) (hcap : xs0.length ≤ cap) :
    Cal Tryz.prog 8 [vr, .slice pt xs0.length cap, .int .i64 now, .agg (dvC to).toArray, .int .u64 nb, .agg (diC d).toArray].toArray W fun v w' => v = .bool true ∧ Ext [] W w' := by
  have hmem : 0 < xs0.length → ∃ b o cs t fz, pt = some ⟨b, o, none⟩ ∧ W.heap[b]? = some (.cells cs t fz) ∧ seg cs.toList o xs0.length = some (i64C xs0) := fun hl => by
    obtain ⟨p', cap', h1, _, h3⟩ := hI.ex
    cases h1
    exact h3 hl
  obtain ⟨qr, cr, rfl, _⟩ := id hSr
  have a1 := dv_all hto
  have a2 := di_all (o := d) trivial
  refine fn_ofM (n := 74) [] Tryz.func8 rfl rfl rfl ?_
  intro a w F M hwW
  refine c_seq ?_
  refine c_region ?_
  (refine sD F (o_box M (F.ev rfl) rfl ?_); clear F M; intro b9 w M a F)
  (refine sD F (o_box M (F.ev rfl) rfl ?_); clear F M; intro b11 w M a F)
  by_cases s1 : 600 < raw.length
  · refine sD F (o_assign (F.ev rfl) ?_); clear F a; intro a F
    with_reducible refine l_nil (q_then (c_seq (c_seq (c_region ?_))))
    refine sD F (o_move (F.ev rfl) ?_); clear F a; intro a F
    refine sD F (o_lenSl (F.ev rfl) ?_); clear F a; intro a F
    refine sD F (o_gtrT (F.ev rfl) (F.ev rfl) (by omega) ?_); clear F a; intro a F
    with_reducible refine l_nil (q_then ?_)
    refine c_true F rfl rfl ?_
    refine c_seq (c_region ?_)
    (refine sD F (o_call (F.ev rfl) (F.evs rfl) (Cal.mono (known2_c _) ?_)); clear F; clear a; rintro _ w ⟨rfl, hE⟩ a F; replace M := M.later hE; clear hE)
    refine sD F (o_assign (F.ev rfl) ?_); clear F a; intro a F
    with_reducible refine l_nil (q_then (c_ret (q_thenR ?_)))
    refine p_ret F rfl (.cons (.tmp (F.ev rfl)) .nil) ?_
    exact ⟨rfl, M.ext⟩
  refine sD F (o_assign (F.ev rfl) ?_); clear F a; intro a F
  with_reducible refine l_nil (q_then (c_seq (c_seq (c_region ?_))))
  refine sD F (o_move (F.ev rfl) ?_); clear F a; intro a F
  refine sD F (o_lenSl (F.ev rfl) ?_); clear F a; intro a F
  refine sD F (o_gtrF (F.ev rfl) (F.ev rfl) (by omega) ?_); clear F a; intro a F
  with_reducible refine l_nil (q_then ?_)
  refine c_false F rfl rfl ?_
  with_reducible refine c_skip (q_then (c_seq (c_region ?_)))
  refine sD F (o_move (F.ev rfl) ?_); clear F a; intro a F
  (refine sD F (o_call (F.ev rfl) (F.evs rfl) (Cal.mono (new_c xs0 _ (hI.later M.ext) hcap ) ?_)); clear F; clear a; rintro _ w ⟨bt, rfl, N⟩ a F; replace M := M.joins N; clear N)
  have hbt : W.heap.size ≤ bt := (M.own _ List.mem_cons_self).resolve_left (by simp)
  have hT : TapeS W bt pt (cut400 xs0).length (cut400 xs0) := tape_new (Ext.refl [] W) hbt hI.bd hmem
  generalize hxs : cut400 xs0 = xs at *
  generalize hlen : xs.length = len at *
  clear hxs hI hmem hcap
  simp only [List.cons_append, List.nil_append] at M
  refine sD F (o_assign (F.ev rfl) ?_); clear F a; intro a F
  with_reducible refine l_nil (q_then (c_seq (c_region ?_)))
  refine sD F (o_move (F.ev rfl) ?_); clear F a; intro a F
  (refine sD F (o_call (F.ev rfl) (F.evs rfl) (Cal.mono (base_c _ (hT.later M.ext.any) (M.heap .here) ) ?_)); clear F; clear a; have M0 := M; clear M; rintro _ w ⟨base, k0, rfl, ⟨hb0, hb1⟩, N⟩ a F)
  replace M := M0.turn1 N .here
  clear M0 N
  refine sD F (o_assign (F.ev rfl) ?_); clear F a; intro a F
  with_reducible refine l_nil (q_then (c_seq (c_region ?_)))
  refine sD F (o_move (F.ev rfl) ?_); clear F a; intro a F
  refine sD F (o_move (F.ev rfl) ?_); clear F a; intro a F
  have hbw := M.lt List.mem_cons_self
  have hlt3 : ∀ b ∈ [bt, b11, b9], b < w.heap.size := fun b hb => by
    rcases List.mem_cons.1 hb with rfl | hb
    · exact hbw
    · obtain ⟨q, hq, rfl⟩ : ∃ q ∈ ([(b11, .cells (diC d).toArray 48 (0, 0)), (b9, .cells (dvC to).toArray 45 (0, 0))] : List (Nat × Obj)), q.1 = b := by simpa [eq_comm] using hb
      exact M.lt (List.mem_cons_of_mem _ hq)
  (refine sD F (o_call (F.ev rfl) (F.evs rfl) (Cal.mono (routesW_c base hb0 hb1 _ (hT.later M.ext.any) (M.heap .here) ) ?_)); clear F; clear a; have M0 := M; clear M; rintro _ w ⟨l, k1, hO, hl9, N⟩ a F)
  replace M := M0.turn1 N .here
  clear M0 N
  obtain ⟨pl, cl, rfl, _⟩ := id hO.at_.1
  have hnI := hO.is
  have E0 := M.ext
  have hS0 : ∀ b ∈ [bt, b11, b9], W.heap.size ≤ b := fun b hb => by
    obtain ⟨q, hq, rfl⟩ : ∃ q ∈ ((bt, tobj pt len cap k1) :: [(b11, .cells (diC d).toArray 48 (0, 0)), (b9, .cells (dvC to).toArray 45 (0, 0))] : List (Nat × Obj)), q.1 = b := by simpa [eq_comm] using hb
    exact (M.own q hq).resolve_left (by simp)
  obtain ⟨wb, hwb, M⟩ : ∃ wb, wb = w ∧ Mem [bt, b11, b9] wb w ((bt, tobj pt len cap k1) :: [(b11, .cells (diC d).toArray 48 (0, 0)), (b9, .cells (dvC to).toArray 45 (0, 0))]) := ⟨w, rfl, M.reR [bt, b11, b9] (by simp)⟩
  rw [← hwb] at E0 hO
  clear hwb
  have hIn : ∀ w', Ext [bt, b11, b9] wb w' → SlAt w' 39 (.slice pl l.length cl) l.length (rosC l) := fun w' E => hO.at_.1.laterB (fun b o s k c e hb => Nat.lt_irrefl _ (Nat.lt_of_lt_of_le (hlt3 b hb) (hO.at_.2 b o s k c e))) E
  have hWw : ∀ w', Ext [bt, b11, b9] wb w' → Ext [] W w' := fun w' E => (E0.any.trans E).fresh fun k hk => .inr (hS0 k hk)
  have hno : ∀ b o s k c, Value.slice pl l.length cl = .slice (some ⟨b, o, s⟩) k c → b ∉ [bt] := fun b o s k c e hb => Nat.lt_irrefl _ (Nat.lt_of_lt_of_le (hlt3 b (by simp at hb; simp [hb])) (hO.at_.2 b o s k c e))
  clear hO hlt3 hbw
  refine sD F (o_assign (F.ev rfl) ?_); clear F a; intro a F
  with_reducible refine l_nil (q_then (c_seq (c_region ?_)))
  refine sD F (o_move (F.ev rfl) ?_); clear F a; intro a F
  (refine sD F (o_call (F.ev rfl) (F.evs rfl) (Cal.mono (distE_c _ (hT.later (hWw _ M.ext).any) (M.heap .here) ) ?_)); clear F; clear a; have M0 := M; clear M; rintro _ w ⟨d1, k2, rfl, _, N⟩ a F)
  replace M := M0.turn1 N .here
  clear M0 N
  unfold diV at F
  (refine sD F (o_alloc M ?_); clear F M; intro b16 w M a F)
  (refine stepN rfl F (o_storeA M (F.ev rfl) (F.ev rfl) (di_len (o := d1) trivial) (di_one _)  (by repeat constructor)  (put_all (by rw [di_len (o := d1) trivial]; rfl)) (by repeat constructor) ?_); clear F M; intro w M a F)
  with_reducible refine l_nil (q_then (c_seq (c_seq (c_region ?_))))
  refine sD F (o_move (F.ev rfl) ?_); clear F a; intro a F
  (refine sD F (o_call (F.ev rfl) (F.evs rfl) (Cal.mono (boolE_c 4 (by omega) (by omega) _ (hT.later (hWw _ M.ext).any) (M.heap (.there .here)) ) ?_)); clear F; clear a; have M0 := M; clear M; rintro _ w ⟨c, k3, rfl, N⟩ a F)
  replace M := M0.turn1 N (.there .here)
  clear M0 N
  refine l_nil ?_
  refine q_then ?_
  refine c_cut (fun a w => ∃ x : DisV, Frm a 74 [] [(13, .pointer (some ⟨bt, 0, none⟩)), (14, .int .i64 base), (15, .slice pl l.length cl), (16, .pointer (some ⟨b16, 0, none⟩)), (0, .slice qr raw.length cr), (2, .int .i64 now), (4, .int .u64 nb), (9, .pointer (some ⟨b9, 0, none⟩)), (11, .pointer (some ⟨b11, 0, none⟩))] ∧ Mem [bt, b11, b9] wb w ((bt, tobj pt len cap k3) :: (b16, Obj.cells (diC x).toArray 48 (0, 0)) :: [(b11, .cells (diC d).toArray 48 (0, 0)), (b9, .cells (dvC to).toArray 45 (0, 0))])) ?_ ?_
  · cases c
    · refine c_false F rfl rfl ?_
      with_reducible refine c_skip ?_
      exact ⟨d1, F.only [13, 14, 15, 16, 0, 2, 4, 9, 11] rfl, M.perm (List.Perm.swap _ _ _)⟩
    · refine c_true F rfl rfl ?_
      refine c_region ?_
      refine sD F (o_fieldAddr (F.ev rfl) ?_); clear F a; intro a F
      (refine stepN rfl F (o_store1 M (F.ev rfl) (F.ev rfl) rfl (by repeat constructor) (di_put_met (o := d1) trivial 65535) (by repeat constructor) ?_); clear F M; intro w M a F)
      with_reducible refine l_nil ?_
      exact ⟨_, F.only [13, 14, 15, 16, 0, 2, 4, 9, 11] rfl, M.perm (List.Perm.swap _ _ _)⟩
  clear F M
  rintro a w ⟨x, F, M⟩
  refine q_then ?_
  refine c_seq ?_
  have x1 := di_all (o := x) trivial
  replace M : Mem [bt, b11, b9] wb w ([(bt, tobj pt len cap k3)] ++ ((b16, Obj.cells (diC x).toArray 48 (0, 0)) :: [(b11, .cells (diC d).toArray 48 (0, 0)), (b9, .cells (dvC to).toArray 45 (0, 0))])) := M
  refine c_drawBF (l0 := [(bt, tobj pt len cap k3)]) [bt] [10, 13, 15, 17, 19, 24, 27, 29, 32] M 42 F (by kernel_rfl) ?_
  intro w1 hE1 M1 hok hef
  have hB : ∀ k' ∈ [bt], k' ∈ ([(bt, tobj pt len cap k3)] : List (Nat × Obj)).map (·.1) := by simp
  have hMw : ∀ w', Ext [bt] w1 w' → Ext [bt, b11, b9] wb w' := fun w' E => M1.ext.trans (E.mono fun k hk => by simp at hk; simp [hk])
  have hbw : bt < w1.heap.size := M1.lt List.mem_cons_self
  refine mK hok rfl rfl (fun a' w' F' E' => o_move (F'.ev rfl) ⟨Ext.refl _ _, rfl⟩) ?_
  refine mK hok rfl rfl (fun a' w' F' E' => o_move (F'.ev rfl) ⟨Ext.refl _ _, rfl⟩) ?_
  refine mK hok rfl rfl (fun a' w' F' E' => o_loadA (M1.laterBut E' hB) (F'.ev rfl) (by repeat constructor) (by first | assumption | rfl) ⟨Ext.refl _ _, rfl⟩) ?_
  refine mK hok rfl rfl (fun a' w' F' E' => o_move (F'.ev rfl) ⟨Ext.refl _ _, rfl⟩) ?_
  refine mK hok rfl rfl (fun a' w' F' E' => o_loadA (M1.laterBut E' hB) (F'.ev rfl) (by repeat constructor) (by first | assumption | rfl) ⟨Ext.refl _ _, rfl⟩) ?_
  (refine mK hok rfl rfl (fun a' w' F' E' => o_call (F'.ev rfl) (F'.evs rfl) (Cal.mono (tables_c raw hrx (by omega) _ now to hto nb d _ (hSr.later (hWw _ (hMw _ E')))) fun _ _ hh => ⟨hh.2, hh.1⟩)) ?_)
  refine mK hok rfl rfl (fun a' w' F' E' => o_move (F'.ev rfl) ⟨Ext.refl _ _, rfl⟩) ?_
  refine mKG hok rfl rfl rfl rfl (fun a' w' F' E' => o_move (F'.ev rfl) ⟨Ext.refl _ _, rfl⟩) ?_
  refine mKG hok rfl rfl rfl rfl (fun a' w' F' E' => o_move (F'.ev rfl) ⟨Ext.refl _ _, rfl⟩) ?_
  refine mKG hok rfl rfl rfl rfl (fun a' w' F' E' => o_move (F'.ev rfl) ⟨Ext.refl _ _, rfl⟩) ?_
  refine mEG (T' := fun _ w => Mem _ _ w ([(bt, tobj pt len cap (nxK xs k3))] ++ _)) hok rfl rfl rfl rfl (fun _ _ _ h k => h.later k) (fun a' w' σ' F' E' T' => o_call (F'.ev rfl) (F'.evs rfl) (Cal.mono (wtime_c base hb0 hb1 _ (hT.later (hWw _ (hMw _ E')).any) (T'.heap .here)) fun _ _ hh => ⟨hh.2.ext, hh.1, Mem.turn1 T' hh.2 .here⟩)) ?_
  refine mKG hok rfl rfl rfl rfl (fun a' w' F' E' => o_move (F'.ev rfl) ⟨Ext.refl _ _, rfl⟩) ?_
  refine mKG hok rfl rfl rfl rfl (fun a' w' F' E' => o_move (F'.ev rfl) ⟨Ext.refl _ _, rfl⟩) ?_
  refine mEXG (V := DvP) (T' := fun _ w => ∃ k, Mem _ _ w ([(bt, tobj pt len cap k)] ++ _)) hok rfl rfl rfl rfl (DvP.stays _) (fun _ _ _ h e => h.elim fun k hk => ⟨k, hk.later e⟩) (fun a' w' σ' F' E' D' hσ' T' => o_call (F'.ev rfl) (F'.evs rfl) (Cal.mono (key_c l hnI (by omega) _ _ (hIn _ (hMw _ E')) hno (hT.later (hWw _ (hMw _ E')).any) (T'.heap .here)) fun x w'' hh => by
      obtain ⟨z, kz, hz, hz2, N⟩ := hh
      exact ⟨N.ext, ⟨z, hz2, hz⟩, kz, Mem.turn1 T' N .here⟩)) ?_
  refine mKG hok rfl rfl rfl rfl (fun a' w' F' E' => o_move (F'.ev rfl) ⟨Ext.refl _ _, rfl⟩) ?_
  refine mEXG (V := U64P) (T' := fun _ w => ∃ k, Mem _ _ w ([(bt, tobj pt len cap k)] ++ _)) hok rfl rfl rfl rfl (U64P.stays _) (fun _ _ _ h e => h.elim fun k hk => ⟨k, hk.later e⟩) (fun a' w' σ' F' E' D' hσ' T' => by
    obtain ⟨k0, T'⟩ := T'
    exact o_call (F'.ev rfl) (F'.evs rfl) (Cal.mono (eui_c _ (hT.later (hWw _ (hMw _ E')).any) (T'.heap .here)) fun x w'' hh => by
      obtain ⟨z, kz, hz, _, N⟩ := hh
      exact ⟨N.ext, ⟨z, hz⟩, kz, Mem.turn1 T' N .here⟩)) ?_
  refine mKG hok rfl rfl rfl rfl (fun a' w' F' E' => o_loadA (M1.laterBut E' hB) (F'.ev rfl) (by repeat constructor) (by first | assumption | rfl) ⟨Ext.refl _ _, rfl⟩) ?_
  refine mEKXG (v := .bool true) (T' := fun _ w => ∃ k, Mem _ _ w ([(bt, tobj pt len cap k)] ++ _)) hok rfl rfl rfl rfl (fun _ _ _ h e => h.elim fun k hk => ⟨k, hk.later e⟩) (fun a' w' σ' F' E' D' hσ' T' => by
      obtain ⟨z0, z1, e0⟩ := D' 13 (memDep rfl) DvP (by kernel_rfl)
      have F0 := (F').know (d := 46) e0
      obtain ⟨nn, e1⟩ := D' 15 (memDep rfl) U64P (by kernel_rfl)
      have F1 := (F0).know (d := 48) e1
      exact o_call (F1.ev rfl) (F1.evs rfl) (Cal.mono (tables_c l hnI (by omega) _ _ z0 z1 nn x _ (hIn _ (hMw _ E'))) fun _ _ hh => ⟨hh.2.any, hh.1, T'.elim fun k hk => ⟨k, hk.later hh.2⟩⟩)) ?_
  refine mK hok rfl rfl (fun a' w' F' E' => o_pickT (F'.ev rfl) (F'.ev rfl) ⟨Ext.refl _ _, rfl⟩) ?_
  refine mE (T' := fun _ w => ∃ k, Mem _ _ w ([(bt, tobj pt len cap k)] ++ _)) hok rfl rfl (fun _ _ _ h e => h.elim fun k hk => ⟨k, hk.later e⟩) (fun a' w' σ' F' E' T' => o_move (F'.ev rfl) ⟨Ext.refl _ _, rfl, T'⟩) ?_
  refine mKG hok rfl rfl rfl rfl (fun a' w' F' E' => o_move (F'.ev rfl) ⟨Ext.refl _ _, rfl⟩) ?_
  refine mKG hok rfl rfl rfl rfl (fun a' w' F' E' => o_move (F'.ev rfl) ⟨Ext.refl _ _, rfl⟩) ?_
  refine mKG hok rfl rfl rfl rfl (fun a' w' F' E' => o_move (F'.ev rfl) ⟨Ext.refl _ _, rfl⟩) ?_
  refine mKG hok rfl rfl rfl rfl (fun a' w' F' E' => o_move (F'.ev rfl) ⟨Ext.refl _ _, rfl⟩) ?_
  refine mEXG (V := DvP) (T' := fun _ w => ∃ k, Mem _ _ w ([(bt, tobj pt len cap k)] ++ _)) hok rfl rfl rfl rfl (DvP.stays _) (fun _ _ _ h e => h.elim fun k hk => ⟨k, hk.later e⟩) (fun a' w' σ' F' E' D' hσ' T' => by
    obtain ⟨k0, T'⟩ := T'
    exact o_call (F'.ev rfl) (F'.evs rfl) (Cal.mono (key_c l hnI (by omega) _ _ (hIn _ (hMw _ E')) hno (hT.later (hWw _ (hMw _ E')).any) (T'.heap .here)) fun x w'' hh => by
      obtain ⟨z, kz, hz, hz2, N⟩ := hh
      exact ⟨N.ext, ⟨z, hz2, hz⟩, kz, Mem.turn1 T' N .here⟩)) ?_
  refine mKG hok rfl rfl rfl rfl (fun a' w' F' E' => o_move (F'.ev rfl) ⟨Ext.refl _ _, rfl⟩) ?_
  refine mKG hok rfl rfl rfl rfl (fun a' w' F' E' => o_loadA (M1.laterBut E' hB) (F'.ev rfl) (by repeat constructor) (by first | assumption | rfl) ⟨Ext.refl _ _, rfl⟩) ?_
  refine mEKXG (v := .bool true) (T' := fun _ w => ∃ k, Mem _ _ w ([(bt, tobj pt len cap k)] ++ _)) hok rfl rfl rfl rfl (fun _ _ _ h e => h.elim fun k hk => ⟨k, hk.later e⟩) (fun a' w' σ' F' E' D' hσ' T' => by
      obtain ⟨z0, z1, e0⟩ := D' 24 (memDep rfl) DvP (by kernel_rfl)
      have F0 := (F').know (d := 57) e0
      exact o_call (F0.ev rfl) (F0.evs rfl) (Cal.mono (tables_c l hnI (by omega) _ now z0 z1 nb d _ (hIn _ (hMw _ E'))) fun _ _ hh => ⟨hh.2.any, hh.1, T'.elim fun k hk => ⟨k, hk.later hh.2⟩⟩)) ?_
  refine mK hok rfl rfl (fun a' w' F' E' => o_pickT (F'.ev rfl) (F'.ev rfl) ⟨Ext.refl _ _, rfl⟩) ?_
  refine mE (T' := fun _ w => ∃ k, Mem _ _ w ([(bt, tobj pt len cap k)] ++ _)) hok rfl rfl (fun _ _ _ h e => h.elim fun k hk => ⟨k, hk.later e⟩) (fun a' w' σ' F' E' T' => o_move (F'.ev rfl) ⟨Ext.refl _ _, rfl, T'⟩) ?_
  refine mKG hok rfl rfl rfl rfl (fun a' w' F' E' => o_move (F'.ev rfl) ⟨Ext.refl _ _, rfl⟩) ?_
  refine mKG hok rfl rfl rfl rfl (fun a' w' F' E' => o_move (F'.ev rfl) ⟨Ext.refl _ _, rfl⟩) ?_
  refine mEXG (V := RouP w1.heap.size) (T' := fun _ w => ∃ k, Mem _ _ w ([(bt, tobj pt len cap k)] ++ _)) hok rfl rfl rfl rfl (RouP.staysBut hbw) (fun _ _ _ h e => h.elim fun k hk => ⟨k, hk.later e⟩) (fun a' w' σ' F' E' D' hσ' T' => by
    obtain ⟨k0, T'⟩ := T'
    exact o_call (F'.ev rfl) (F'.evs rfl) (Cal.mono (spoiledR_c l hnI (by omega) _ _ (hIn _ (hMw _ E')) hno (hT.later (hWw _ (hMw _ E')).any) (T'.heap .here)) fun x w'' hh => by
      obtain ⟨z, kz, hz, hz2, hz3, N⟩ := hh
      exact ⟨N.ext, ⟨z, hz2, by omega, hz.mono E'.size⟩, kz, Mem.turn1 T' N .here⟩)) ?_
  refine mKG hok rfl rfl rfl rfl (fun a' w' F' E' => o_move (F'.ev rfl) ⟨Ext.refl _ _, rfl⟩) ?_
  refine mKG hok rfl rfl rfl rfl (fun a' w' F' E' => o_loadA (M1.laterBut E' hB) (F'.ev rfl) (by repeat constructor) (by first | assumption | rfl) ⟨Ext.refl _ _, rfl⟩) ?_
  refine mKG hok rfl rfl rfl rfl (fun a' w' F' E' => o_loadA (M1.laterBut E' hB) (F'.ev rfl) (by repeat constructor) (by first | assumption | rfl) ⟨Ext.refl _ _, rfl⟩) ?_
  refine mKXG (v := .bool true) hok rfl rfl rfl rfl (fun a' w' F' E' D' => by
      obtain ⟨z, z1, z2, z3⟩ := D' 32 (memDep rfl) (RouP w1.heap.size) (by kernel_rfl)
      obtain ⟨qz, cz, e0, _⟩ := id z3.1
      have F0 := F'.know (d := 65) e0
      exact o_call (F0.ev rfl) (F0.evs rfl) (Cal.mono (tables_c z z1 (by omega) _ base to hto 2 x _ (e0 ▸ z3.1)) fun _ _ hh => ⟨hh.2, hh.1⟩)) ?_
  refine mK hok rfl rfl (fun a' w' F' E' => o_pickT (F'.ev rfl) (F'.ev rfl) ⟨Ext.refl _ _, rfl⟩) ?_
  refine mK hok rfl rfl (fun a' w' F' E' => o_move (F'.ev rfl) ⟨Ext.refl _ _, rfl⟩) ?_
  (refine mKG hok rfl rfl rfl rfl (fun a' w' F' E' => o_call (F'.ev rfl) (F'.evs rfl) (Cal.mono (known2_c _) fun _ _ hh => ⟨hh.2, hh.1⟩)) ?_)
  refine mK hok rfl rfl (fun a' w' F' E' => o_pickT (F'.ev rfl) (F'.ev rfl) ⟨Ext.refl _ _, rfl⟩) ?_
  refine mK hok rfl rfl (fun a' w' F' E' => o_assign (F'.ev rfl) ⟨Ext.refl _ _, rfl⟩) ?_
  (refine mDone rfl hef ?_; clear F M; intro a w F hE2 hX MT hDD hPP; obtain ⟨k6, M⟩ := MT; clear hMw; clear M1; clear hX; clear hE2; clear hok; clear hef; clear hB; clear hDD; clear hPP; (try dsimp only at F))
  with_reducible refine l_nil (q_then (c_ret ?_))
  refine p_ret F rfl (.cons (.tmp (F.ev rfl)) .nil) ?_
  exact ⟨rfl, hWw _ M.ext⟩
end Go.Proofs.YtilgoepokaaleaaGreat
namespace Go.Proofs.YtilgoepokaaleaaGreat
set_option linter.unusedVariables false
set_option linter.unusedSimpArgs false
open Go.ChangeShapes Go.WideShapes Go.ChangeAt Go.RowKit
set_option maxRecDepth 100000 in
theorem routesTables_contract (H : Type) (enc : TypeId × Value → H) (W : World) (base : Nat) (args : Array Value) (ds gs : List (DataW H)) (before : List MemPlace)
    (hval : ∀ (j : Nat) t v, Tryz.f8.params[j]? = some t → args[j]? = some v → Value.okWide Tryz.prog W .any base t v)
    (hW : DataW.Whole enc Tryz.prog Tryz.f8.params.toList Rows.routesTablesSpec.vars false W args.toList ds gs before) (hL : laidMetH Tryz.prog seatLaid W) (hS : W.ShapedOpen Tryz.prog) :
    Calls Tryz.prog 8 args W fun e W' => ∃ v, e = .returned v ∧ Rows.routesTablesSpec.post enc Tryz.prog Tryz.f8 false true false false W args v W' := by
  have hW' := hW
  obtain ⟨p, q, hA0, hV, rfl, hfz, hnd⟩ := hW
  have hA : DataW.TrodAll enc Tryz.prog W 0 (fun _ => true) true Tryz.f8.params.toList args.toList ds p := hA0
  rw [Tryz.params8] at hA hval
  obtain ⟨v0, vs0, d0, ds0, p0, q0, hargs, rfl, rfl, h0, r0⟩ := trodAll_cons hA
  obtain ⟨v1, vs1, d1, ds1, p1, q1, rfl, rfl, rfl, h1, r1⟩ := trodAll_cons r0
  obtain ⟨v2, vs2, d2, ds2, p2, q2, rfl, rfl, rfl, h2, r2⟩ := trodAll_cons r1
  obtain ⟨v3, vs3, d3, ds3, p3, q3, rfl, rfl, rfl, h3, r3⟩ := trodAll_cons r2
  obtain ⟨v4, vs4, d4, ds4, p4, q4, rfl, rfl, rfl, h4, r4⟩ := trodAll_cons r3
  obtain ⟨v5, vs5, d5, ds5, p5, q5, rfl, rfl, rfl, h5, r5⟩ := trodAll_cons r4
  obtain ⟨rfl, rfl, rfl⟩ := trodAll_nil r5
  obtain rfl : args = #[v0, v1, v2, v3, v4, v5] := by cases args; simp_all
  obtain ⟨l0, hx0, hs0⟩ := open_ros (hval 0 _ v0 rfl rfl) h0
  obtain ⟨l1, q1p, cap1, rfl, hc1, hx1⟩ := open_il (hval 1 _ v1 rfl rfl) h1
  obtain ⟨x2, rfl, rfl, rfl, w2⟩ := open_int Tryz.underlying3 (hval 2 _ v2 rfl rfl) h2; have hx2 := int_bd w2
  obtain ⟨x3, hx3, rfl⟩ := open_dv (hval 3 _ v3 rfl rfl) h3
  obtain ⟨x4, rfl, rfl, rfl, w4⟩ := open_int Tryz.underlying43 (hval 4 _ v4 rfl rfl) h4; have hx4 := int_bd w4
  obtain ⟨x5, rfl⟩ := open_di (hval 5 _ v5 rfl rfl) h5
  refine ((tablesL_c l0 hx0 v0 x2 x3 hx3 x4 x5 q1p cap1 l1 W hs0 hx1 hc1).calls).mono ?_
  rintro e W' ⟨v, rfl, rfl, hE⟩
  exact ⟨_, rfl, law_post (tb := 4) laidOut (by kernel_rfl) rfl (by kernel_rfl) Tryz.underlying4 (fun xs hx => by rw [Tryz.params8] at hx; match xs, hx with | [_, _, _, _, _, _], _ => rfl) hW' hE⟩
set_option maxRecDepth 100000 in
theorem routesTables_lifted (os : Os) (started : os.Started) (H : Type) (enc : TypeId × Value → H) (F : Stop.Interp) :
    ReturnsInHanded {} Tryz.checked os 8 .any ((OpenSpec.ofChange Rows.routesTablesSpec).preRow enc Tryz.prog Tryz.f8 Rows.routesTablesRow.domain false Rows.routesTablesRow.laid) (((OpenSpec.ofChange Rows.routesTablesSpec).at F).post enc Tryz.prog Tryz.f8 false true false false) := by
  have hx : ∃ places ds, DataW.whole enc Tryz.prog ((laidWorld os).forCall (fun _ _ => 0) ⟨#[], #[.slice none 0 0, .slice none 0 0, .int .i64 0, .agg (dvC ⟨List.replicate 16 0, 0, List.replicate 16 0, 0, 0⟩).toArray, .int .u64 0, .agg (diC ⟨0, 0⟩).toArray], []⟩).memory Tryz.f8.params.toList Rows.routesTablesSpec.vars false #[Value.slice none 0 0, .slice none 0 0, .int .i64 0, .agg (dvC ⟨List.replicate 16 0, 0, List.replicate 16 0, 0, 0⟩).toArray, .int .u64 0, .agg (diC ⟨0, 0⟩).toArray].toList 8 = some (ds, [], places) ∧ ds = [.nil, .nil, .lit (.int .i64 0), .agg [.agg [.agg (List.replicate 16 (.lit (.int .u8 0))), .lit (.int .i64 0)], .agg [.agg (List.replicate 16 (.lit (.int .u8 0))), .lit (.int .i64 0)], .lit (.int .u64 0)], .lit (.int .u64 0), .agg [.lit (.int .u16 0), .lit (.int .i64 0)]] := ⟨[], [.nil, .nil, .lit (.int .i64 0), .agg [.agg [.agg (List.replicate 16 (.lit (.int .u8 0))), .lit (.int .i64 0)], .agg [.agg (List.replicate 16 (.lit (.int .u8 0))), .lit (.int .i64 0)], .lit (.int .u64 0)], .lit (.int .u64 0), .agg [.lit (.int .u16 0), .lit (.int .i64 0)]], by kernel_rfl, rfl⟩
  obtain ⟨places, ds, hx, rfl⟩ := hx
  refine returnsInHanded_of_row (C := Tryz.checked) (s := OpenSpec.ofChange Rows.routesTablesSpec) own started (by kernel_rfl) Tryz.func8
    (witness_row_at (enc := enc) (C := Tryz.checked) false (laidWorld os) #[.slice none 0 0, .slice none 0 0, .int .i64 0, .agg (dvC ⟨List.replicate 16 0, 0, List.replicate 16 0, 0, 0⟩).toArray, .int .u64 0, .agg (diC ⟨0, 0⟩).toArray] rfl (by kernel_rfl) (by kernel_rfl) (by kernel_rfl)
      (OpenSpec.preRow_of_cond 8 hx (by kernel_rfl) (fun k hk => by cases hk) (by kernel_rfl) (laid_met os _))) ?_
  intro W base args ds gs before hval hW _ hcond _ hL hS _
  exact routesTables_contract H enc W base args ds gs before hval hW hL hS
theorem routesTables_said : Rows.RoutesTablesSaid :=
  OpenClaim.holds_of_cond 8 Tryz.f8 rfl rfl rfl rfl rfl rfl rfl ⟨rfl, rfl, rfl, rfl, rfl⟩ rfl rfl rfl rfl rfl (by kernel_rfl) Tryz.func8 (by kernel_rfl)
    (of_decide_eq_true (by kernel_rfl)) (by unfold Func.isWrapper; first | (rw [if_pos (by decide +kernel)]; kernel_rfl) | (rw [if_neg (by decide +kernel)]; exact ⟨rfl, rfl⟩))
    (fun os started H enc _ F => by rw [OpenClaim.pre_eq_preRow]; exact routesTables_lifted os started H enc F)
#print axioms routesTables_said
end Go.Proofs.YtilgoepokaaleaaGreat

/-
  PROVED: for every input RoutesFeasible answers true, and each argument reads afterwards as it read before.
-/
import Derived.Test.YtilgoepokaaleaaGreatFeas6
/-! ZQ -/
namespace Go.Proofs.YtilgoepokaaleaaGreat
set_option linter.unusedVariables false
set_option linter.unusedSimpArgs false
open Go.RowKit
attribute [local irreducible] OpTo wpListIn Code.wpIn MW Cal
def rfeasV (l : List SrcV) (now : Int) (t : DstV) (d : DisV) : Bool := validSs l && validT t && isTime now && feasV l now t d
theorem rfeas_c (l : List SrcV) (hx : ∀ x ∈ l, IsSr x) (v : Value) (now : Int) (t : DstV) (ht : IsDv t) (d : DisV) (W : World) (hS : SlAt W 38 v l.length (srsC l)) :
    Cal Tryz.prog 18 [v, .int .i64 now, .agg (dvC t).toArray, .agg (diC d).toArray].toArray W fun r w' => r = .bool (rfeasV l now t d) ∧ Ext [] W w' := by
  obtain ⟨z, hz⟩ : ∃ z, z = (rfindV l now t).getD di0 := ⟨_, rfl⟩
  obtain ⟨k, hk⟩ : ∃ k, k = (rfindV l now t).isSome := ⟨_, rfl⟩
  have hf : validSs l = true → isTime now = true → feasV l now t d = (finD d && (!k || (validM z.met && decide (cmpQR d z = -1)))) := fun h1 h2 => by
    have hV : rfindV l now t = bestS l now t := by unfold rfindV; rw [h1, h2]; rfl
    rw [hz, hk, hV]
    unfold feasV
    cases hb : bestS l now t with
    | none => simp
    | some b => simp [best_valid h1 hb, cmpQR_is, cmpQ_is]
  refine fn_ofM (n := 35) [] Tryz.func18 rfl rfl rfl ?_
  intro a w F M hwW
  refine c_seq (c_region ?_)
  refine sD F (o_box M (F.ev rfl) rfl ?_); clear F M; intro b6 w M a F
  refine sD F (o_box M (F.ev rfl) rfl ?_); clear F M; intro b7 w M a F
  refine sD F (o_assign (F.ev rfl) ?_); clear F a; intro a F
  with_reducible refine l_nil (q_then (c_seq (c_seq (c_region ?_))))
  refine sD F (o_move (F.ev rfl) ?_); clear F a; intro a F
  refine sD F (o_call (F.ev rfl) (F.evs rfl) (Cal.mono (refvalidS_c _ (by first | assumption | omega | exact And.left (by assumption) | exact (by assumption : SlAt _ _ _ _ _).later M.ext | exact TapeS.later (by assumption) M.ext | exact M.heap (by repeat constructor) | decide) _ _ (by first | assumption | omega | exact And.left (by assumption) | exact (by assumption : SlAt _ _ _ _ _).later M.ext | exact TapeS.later (by assumption) M.ext | exact M.heap (by repeat constructor) | decide)) ?_)); clear F; clear a; rintro _ w ⟨rfl, hE⟩ a F; replace M := M.later hE; clear hE
  refine sD F (o_not (F.ev rfl) ?_); clear F a; intro a F
  refine sD F (o_move (F.ev rfl) ?_); clear F a; intro a F
  refine b_split F 14 rfl (fun h1 => ?_) (fun h1 => ?_)
  · skip
    rw [h1] at F; replace h1 := false_of_not h1; (try rw [h1] at F)
    refine sO F ?_; clear F a; intro a F
    refine sO F ?_; clear F a; intro a F
    refine sO F ?_; clear F a; intro a F
    refine sD F (o_pickT (F.ev rfl) (F.ev rfl) ?_); clear F a; intro a F
    refine sD F (o_move (F.ev rfl) ?_); clear F a; intro a F
    refine sO F ?_; clear F a; intro a F
    refine sO F ?_; clear F a; intro a F
    refine sO F ?_; clear F a; intro a F
    refine sD F (o_pickT (F.ev rfl) (F.ev rfl) ?_); clear F a; intro a F
    with_reducible refine l_nil (q_then ?_)
    refine c_true F rfl rfl ?_
    refine c_seq (c_region ?_)
    refine sD F (o_assign (F.ev rfl) ?_); clear F a; intro a F
    with_reducible refine l_nil (q_then (c_ret (q_thenR ?_)))
    refine p_ret F rfl (.cons (.tmp (F.ev rfl)) .nil) ?_; (try dsimp only [oneOr])
    exact ⟨by unfold rfeasV; simp [*], M.ext⟩
  · skip
    rw [h1] at F; replace h1 := true_of_not h1; (try rw [h1] at F)
    refine sG F (o_loadA M (F.ev rfl) (by repeat constructor) (dv_all (by first | assumption | trivial | exact And.left (by assumption))) ?_); clear F a; intro a F
    refine sG F (o_call (F.ev rfl) (F.evs rfl) (Cal.mono (rvalidTo_c _ (by first | assumption | omega | exact And.left (by assumption) | exact (by assumption : SlAt _ _ _ _ _).later M.ext | exact TapeS.later (by assumption) M.ext | exact M.heap (by repeat constructor) | decide) _) ?_)); clear F; clear a; rintro _ w ⟨rfl, hE⟩ a F; replace M := M.later hE; clear hE
    refine sG F (o_not (F.ev rfl) ?_); clear F a; intro a F
    refine sD F (o_pickF (F.ev rfl) (F.ev rfl) ?_); clear F a; intro a F
    refine sD F (o_move (F.ev rfl) ?_); clear F a; intro a F
    refine b_split F 19 rfl (fun h2 => ?_) (fun h2 => ?_)
    · skip
      rw [h2] at F; replace h2 := false_of_not h2; (try rw [h2] at F)
      refine sO F ?_; clear F a; intro a F
      refine sO F ?_; clear F a; intro a F
      refine sO F ?_; clear F a; intro a F
      refine sD F (o_pickT (F.ev rfl) (F.ev rfl) ?_); clear F a; intro a F
      with_reducible refine l_nil (q_then ?_)
      refine c_true F rfl rfl ?_
      refine c_seq (c_region ?_)
      refine sD F (o_assign (F.ev rfl) ?_); clear F a; intro a F
      with_reducible refine l_nil (q_then (c_ret (q_thenR ?_)))
      refine p_ret F rfl (.cons (.tmp (F.ev rfl)) .nil) ?_; (try dsimp only [oneOr])
      exact ⟨by unfold rfeasV; simp [*], M.ext⟩
    · skip
      rw [h2] at F; replace h2 := true_of_not h2; (try rw [h2] at F)
      refine sG F (o_move (F.ev rfl) ?_); clear F a; intro a F
      refine sG F (o_call (F.ev rfl) (F.evs rfl) (Cal.mono (risTime_c _ _) ?_)); clear F; clear a; rintro _ w ⟨rfl, hE⟩ a F; replace M := M.later hE; clear hE
      refine sG F (o_not (F.ev rfl) ?_); clear F a; intro a F
      refine sD F (o_pickF (F.ev rfl) (F.ev rfl) ?_); clear F a; intro a F
      with_reducible refine l_nil (q_then ?_)
      refine c_if F rfl (fun h3 => ?_) (fun h3 => ?_)
      · skip
        rw [h3] at F; replace h3 := false_of_not h3; (try rw [h3] at F)
        refine c_seq (c_region ?_)
        refine sD F (o_assign (F.ev rfl) ?_); clear F a; intro a F
        with_reducible refine l_nil (q_then (c_ret (q_thenR ?_)))
        refine p_ret F rfl (.cons (.tmp (F.ev rfl)) .nil) ?_; (try dsimp only [oneOr])
        exact ⟨by unfold rfeasV; simp [*], M.ext⟩
      · skip
        rw [h3] at F; replace h3 := true_of_not h3; (try rw [h3] at F)
        with_reducible refine c_skip (q_then (c_seq (c_region ?_)))
        refine sD F (o_move (F.ev rfl) ?_); clear F a; intro a F
        refine sD F (o_move (F.ev rfl) ?_); clear F a; intro a F
        refine sD F (o_loadA M (F.ev rfl) (by repeat constructor) (dv_all (by first | assumption | trivial | exact And.left (by assumption))) ?_); clear F a; intro a F
        refine sD F (o_call (F.ev rfl) (F.evs rfl) (Cal.mono (rfind_c _ (by first | assumption | omega | exact And.left (by assumption) | exact (by assumption : SlAt _ _ _ _ _).later M.ext | exact TapeS.later (by assumption) M.ext | exact M.heap (by repeat constructor) | decide) _ _ _ (by first | assumption | omega | exact And.left (by assumption) | exact (by assumption : SlAt _ _ _ _ _).later M.ext | exact TapeS.later (by assumption) M.ext | exact M.heap (by repeat constructor) | decide) _ (by first | assumption | omega | exact And.left (by assumption) | exact (by assumption : SlAt _ _ _ _ _).later M.ext | exact TapeS.later (by assumption) M.ext | exact M.heap (by repeat constructor) | decide)) ?_)); clear F; clear a; rintro _ w ⟨rfl, hE⟩ a F; replace M := M.later hE; clear hE
        refine sD F (o_move (F.ev rfl) ?_); clear F a; intro a F
        refine sD F (o_extract (F.ev rfl) rfl ?_); clear F a; intro a F
        refine sD F (o_extract (F.ev rfl) rfl ?_); clear F a; intro a F
        refine sD F (o_alloc M ?_); clear F M; intro b9 w M a F
        refine stepN rfl F (o_storeA M (F.ev rfl) (F.ev rfl) (di_len (by first | assumption | trivial | exact And.left (by assumption))) (di_one _) (by repeat constructor) (put_all (by rw [(di_len (by first | assumption | trivial | exact And.left (by assumption)))]; first | rfl | rw [(di_len (by first | assumption | trivial | exact And.left (by assumption)))])) (by repeat constructor) ?_); clear F M; intro w M a F
        refine sD F (o_assign (F.ev rfl) ?_); clear F a; intro a F
        with_reducible refine l_nil (q_then (c_seq (c_region ?_)))
        refine sD F (o_loadA M (F.ev rfl) (by repeat constructor) (di_all (by first | assumption | trivial | exact And.left (by assumption))) ?_); clear F a; intro a F
        refine sD F (o_loadA M (F.ev rfl) (by repeat constructor) (di_all (by first | assumption | trivial | exact And.left (by assumption))) ?_); clear F a; intro a F
        refine sD F (o_move (F.ev rfl) ?_); clear F a; intro a F
        refine sD F (o_call (F.ev rfl) (F.evs rfl) (Cal.mono (rsqfeas_c _ _ _ _) ?_)); clear F; clear a; rintro _ w ⟨rfl, hE⟩ a F; replace M := M.later hE; clear hE
        refine sD F (o_assign (F.ev rfl) ?_); clear F a; intro a F
        with_reducible refine l_nil (q_then (c_ret ?_))
        refine p_ret F rfl (.cons (.tmp (F.ev rfl)) .nil) ?_; (try dsimp only [oneOr])
        exact ⟨by unfold rfeasV; simp [*], M.ext⟩
/-! Record, plain -/
def lowQ (x y : DisV) : DisV := if cmpQR x y = -1 then x else y
def newS (l : List SrcV) (now : Int) (t : DstV) (d : DisV) : SrcV := ⟨t, (match bestS l now t with | none => d | some b => lowQ d b), laterV now 20⟩
def putS (l : List SrcV) (x : SrcV) : List SrcV := l.filter (fun y => decide (cmpD y.to x.to < 0)) ++ ([x] ++ l.filter (fun y => decide (0 < cmpD y.to x.to)))
def recordV (l : List SrcV) (now : Int) (t : DstV) (d : DisV) : List SrcV × Int :=
  if !validSs l || !validT t || !validM d.met || decide (d.met = 65535) then ([], 1) else if !isTime now then ([], 2)
  else if 256 < (putS l (newS l now t d)).length then ([], 10) else (putS l (newS l now t d), 0)
theorem putS_merge {l : List SrcV} {x : SrcV} (h : AscC cmpS l) : mergeG (fun y => cmpD y.to x.to) x false l = putS l x := by
  rw [mergeG_is]
  · rfl
  · exact h.imp fun {a b} h k => cmpL_ge h k
set_option maxHeartbeats 8000000 in
theorem rrecord_c (l : List SrcV) (hx : ∀ x ∈ l, IsSr x) (v : Value) (now : Int) (t : DstV) (ht : IsDv t) (d : DisV) (W : World) (hS : SlAt W 38 v l.length (srsC l)) :
    Cal Tryz.prog 36 [v, .int .i64 now, .agg (dvC t).toArray, .agg (diC d).toArray].toArray W fun r w' => ∃ u ent, r = .tuple [u, .int .i64 (recordV l now t d).2].toArray ∧ OwnS 133 38 u (recordV l now t d).1.length (srsC (recordV l now t d).1) ent ∧ Mem [] W w' ent := by
  obtain ⟨q, cap, rfl, hcap, hsp, hll, hm⟩ := id hS
  have c1 : ∀ n u, recordV l now t d = ([], n) → u = .slice none 0 0 → ∀ w, Ext [] W w → ∃ u' ent, Value.tuple [u, .int .i64 n].toArray = .tuple [u', .int .i64 (recordV l now t d).2].toArray ∧ OwnS 133 38 u' (recordV l now t d).1.length (srsC (recordV l now t d).1) ent ∧ Mem [] W w ent := by
    rintro n _ h rfl w E
    rw [h]
    exact ⟨_, [], rfl, OwnS.nil _ _, Mem.nil E⟩
  obtain ⟨z, hz⟩ : ∃ z, z = (rfindV l now t).getD di0 := ⟨_, rfl⟩
  obtain ⟨k, hk⟩ : ∃ k, k = (rfindV l now t).isSome := ⟨_, rfl⟩
  refine fn_ofM (n := 92) [] Tryz.func36 rfl rfl rfl ?_
  intro a w F M hwW
  refine c_seq (c_region ?_)
  refine sD F (o_box M (F.ev rfl) rfl ?_); clear F M; intro b6 w M a F
  refine sD F (o_box M (F.ev rfl) rfl ?_); clear F M; intro b7 w M a F
  refine sD F (o_assign (F.ev rfl) ?_); clear F a; intro a F
  refine sD F (o_assign (F.ev rfl) ?_); clear F a; intro a F
  with_reducible refine l_nil (q_then (c_seq (c_seq (c_region ?_))))
  refine sD F (o_move (F.ev rfl) ?_); clear F a; intro a F
  refine sD F (o_call (F.ev rfl) (F.evs rfl) (Cal.mono (refvalidS_c _ (by first | assumption | omega | exact And.left (by assumption) | exact (by assumption : SlAt _ _ _ _ _).later M.ext | exact TapeS.later (by assumption) M.ext | exact M.heap (by repeat constructor) | decide) _ _ (by first | assumption | omega | exact And.left (by assumption) | exact (by assumption : SlAt _ _ _ _ _).later M.ext | exact TapeS.later (by assumption) M.ext | exact M.heap (by repeat constructor) | decide)) ?_)); clear F; clear a; rintro _ w ⟨rfl, hE⟩ a F; replace M := M.later hE; clear hE
  refine sD F (o_not (F.ev rfl) ?_); clear F a; intro a F
  refine sD F (o_move (F.ev rfl) ?_); clear F a; intro a F
  refine b_split F 21 rfl (fun h1 => ?_) (fun h1 => ?_)
  · skip
    rw [h1] at F; replace h1 := false_of_not h1; (try rw [h1] at F)
    refine sO F ?_; clear F a; intro a F
    refine sO F ?_; clear F a; intro a F
    refine sO F ?_; clear F a; intro a F
    refine sD F (o_pickT (F.ev rfl) (F.ev rfl) ?_); clear F a; intro a F
    refine sD F (o_move (F.ev rfl) ?_); clear F a; intro a F
    refine sO F ?_; clear F a; intro a F
    refine sO F ?_; clear F a; intro a F
    refine sO F ?_; clear F a; intro a F
    refine sD F (o_pickT (F.ev rfl) (F.ev rfl) ?_); clear F a; intro a F
    refine sD F (o_move (F.ev rfl) ?_); clear F a; intro a F
    refine sO F ?_; clear F a; intro a F
    refine sO F ?_; clear F a; intro a F
    refine sO F ?_; clear F a; intro a F
    refine sD F (o_pickT (F.ev rfl) (F.ev rfl) ?_); clear F a; intro a F
    with_reducible refine l_nil (q_then ?_)
    refine c_true F rfl rfl ?_
    refine c_seq (c_region ?_)
    refine sD F (o_assign (F.ev rfl) ?_); clear F a; intro a F
    refine sD F (o_assign (F.ev rfl) ?_); clear F a; intro a F
    with_reducible refine l_nil (q_then (c_ret (q_thenR ?_)))
    refine p_ret F rfl (.cons (.tmp (F.ev rfl)) (.cons (.tmp (F.ev rfl)) .nil)) ?_; (try dsimp only [oneOr])
    exact c1 _ _ (by unfold recordV; simp [*]) rfl _ M.ext
  rw [h1] at F; replace h1 := true_of_not h1; (try rw [h1] at F)
  refine sG F (o_loadA M (F.ev rfl) (by repeat constructor) (dv_all (by first | assumption | trivial | exact And.left (by assumption))) ?_); clear F a; intro a F
  refine sG F (o_call (F.ev rfl) (F.evs rfl) (Cal.mono (rvalidTo_c _ (by first | assumption | omega | exact And.left (by assumption) | exact (by assumption : SlAt _ _ _ _ _).later M.ext | exact TapeS.later (by assumption) M.ext | exact M.heap (by repeat constructor) | decide) _) ?_)); clear F; clear a; rintro _ w ⟨rfl, hE⟩ a F; replace M := M.later hE; clear hE
  refine sG F (o_not (F.ev rfl) ?_); clear F a; intro a F
  refine sD F (o_pickF (F.ev rfl) (F.ev rfl) ?_); clear F a; intro a F
  refine sD F (o_move (F.ev rfl) ?_); clear F a; intro a F
  refine b_split F 26 rfl (fun h2 => ?_) (fun h2 => ?_)
  · skip
    rw [h2] at F; replace h2 := false_of_not h2; (try rw [h2] at F)
    refine sO F ?_; clear F a; intro a F
    refine sO F ?_; clear F a; intro a F
    refine sO F ?_; clear F a; intro a F
    refine sD F (o_pickT (F.ev rfl) (F.ev rfl) ?_); clear F a; intro a F
    refine sD F (o_move (F.ev rfl) ?_); clear F a; intro a F
    refine sO F ?_; clear F a; intro a F
    refine sO F ?_; clear F a; intro a F
    refine sO F ?_; clear F a; intro a F
    refine sD F (o_pickT (F.ev rfl) (F.ev rfl) ?_); clear F a; intro a F
    with_reducible refine l_nil (q_then ?_)
    refine c_true F rfl rfl ?_
    refine c_seq (c_region ?_)
    refine sD F (o_assign (F.ev rfl) ?_); clear F a; intro a F
    refine sD F (o_assign (F.ev rfl) ?_); clear F a; intro a F
    with_reducible refine l_nil (q_then (c_ret (q_thenR ?_)))
    refine p_ret F rfl (.cons (.tmp (F.ev rfl)) (.cons (.tmp (F.ev rfl)) .nil)) ?_; (try dsimp only [oneOr])
    exact c1 _ _ (by unfold recordV; simp [*]) rfl _ M.ext
  rw [h2] at F; replace h2 := true_of_not h2; (try rw [h2] at F)
  refine sG F (o_loadA M (F.ev rfl) (by repeat constructor) (di_all (by first | assumption | trivial | exact And.left (by assumption))) ?_); clear F a; intro a F
  refine sG F (o_call (F.ev rfl) (F.evs rfl) (Cal.mono (rdvalid_c _ _) ?_)); clear F; clear a; rintro _ w ⟨rfl, hE⟩ a F; replace M := M.later hE; clear hE
  refine sG F (o_not (F.ev rfl) ?_); clear F a; intro a F
  refine sD F (o_pickF (F.ev rfl) (F.ev rfl) ?_); clear F a; intro a F
  refine sD F (o_move (F.ev rfl) ?_); clear F a; intro a F
  refine b_split F 31 rfl (fun h3 => ?_) (fun h3 => ?_)
  · skip
    rw [h3] at F; replace h3 := false_of_not h3; (try rw [h3] at F)
    refine sO F ?_; clear F a; intro a F
    refine sO F ?_; clear F a; intro a F
    refine sO F ?_; clear F a; intro a F
    refine sD F (o_pickT (F.ev rfl) (F.ev rfl) ?_); clear F a; intro a F
    with_reducible refine l_nil (q_then ?_)
    refine c_true F rfl rfl ?_
    refine c_seq (c_region ?_)
    refine sD F (o_assign (F.ev rfl) ?_); clear F a; intro a F
    refine sD F (o_assign (F.ev rfl) ?_); clear F a; intro a F
    with_reducible refine l_nil (q_then (c_ret (q_thenR ?_)))
    refine p_ret F rfl (.cons (.tmp (F.ev rfl)) (.cons (.tmp (F.ev rfl)) .nil)) ?_; (try dsimp only [oneOr])
    exact c1 _ _ (by unfold recordV; simp [*]) rfl _ M.ext
  rw [h3] at F; replace h3 := true_of_not h3; (try rw [h3] at F)
  refine sG F (o_fieldAddr (F.ev rfl) ?_); clear F a; intro a F
  refine sG F (o_load1 M (F.ev rfl) (by repeat constructor) (di_met (by first | assumption | trivial | exact And.left (by assumption))) ?_); clear F a; intro a F
  refine sG F (o_eql (F.ev rfl) (F.ev rfl) ?_); clear F a; intro a F
  refine sD F (o_pickF (F.ev rfl) (F.ev rfl) ?_); clear F a; intro a F
  with_reducible refine l_nil (q_then ?_)
  refine c_if F rfl (fun h4 => ?_) (fun h4 => ?_)
  · skip
    rw [h4] at F; replace h4 := of_decide_eq_true h4
    refine c_seq (c_region ?_)
    refine sD F (o_assign (F.ev rfl) ?_); clear F a; intro a F
    refine sD F (o_assign (F.ev rfl) ?_); clear F a; intro a F
    with_reducible refine l_nil (q_then (c_ret (q_thenR ?_)))
    refine p_ret F rfl (.cons (.tmp (F.ev rfl)) (.cons (.tmp (F.ev rfl)) .nil)) ?_; (try dsimp only [oneOr])
    exact c1 _ _ (by unfold recordV; simp [*]) rfl _ M.ext
  rw [h4] at F; replace h4 := of_decide_eq_false h4
  with_reducible refine c_skip (q_then (c_seq (c_seq (c_region ?_))))
  refine sD F (o_move (F.ev rfl) ?_); clear F a; intro a F
  refine sD F (o_call (F.ev rfl) (F.evs rfl) (Cal.mono (risTime_c _ _) ?_)); clear F; clear a; rintro _ w ⟨rfl, hE⟩ a F; replace M := M.later hE; clear hE
  refine sD F (o_not (F.ev rfl) ?_); clear F a; intro a F
  with_reducible refine l_nil (q_then ?_)
  refine c_if F rfl (fun h5 => ?_) (fun h5 => ?_)
  · skip
    rw [h5] at F; replace h5 := false_of_not h5; (try rw [h5] at F)
    refine c_seq (c_region ?_)
    refine sD F (o_assign (F.ev rfl) ?_); clear F a; intro a F
    refine sD F (o_assign (F.ev rfl) ?_); clear F a; intro a F
    with_reducible refine l_nil (q_then (c_ret (q_thenR ?_)))
    refine p_ret F rfl (.cons (.tmp (F.ev rfl)) (.cons (.tmp (F.ev rfl)) .nil)) ?_; (try dsimp only [oneOr])
    exact c1 _ _ (by unfold recordV; simp [*]) rfl _ M.ext
  rw [h5] at F; replace h5 := true_of_not h5; (try rw [h5] at F)
  with_reducible refine c_skip (q_then (c_seq (c_region ?_)))
  refine sD F (o_move (F.ev rfl) ?_); clear F a; intro a F
  refine sD F (o_move (F.ev rfl) ?_); clear F a; intro a F
  refine sD F (o_loadA M (F.ev rfl) (by repeat constructor) (dv_all (by first | assumption | trivial | exact And.left (by assumption))) ?_); clear F a; intro a F
  refine sD F (o_call (F.ev rfl) (F.evs rfl) (Cal.mono (rfind_c _ (by first | assumption | omega | exact And.left (by assumption) | exact (by assumption : SlAt _ _ _ _ _).later M.ext | exact TapeS.later (by assumption) M.ext | exact M.heap (by repeat constructor) | decide) _ _ _ (by first | assumption | omega | exact And.left (by assumption) | exact (by assumption : SlAt _ _ _ _ _).later M.ext | exact TapeS.later (by assumption) M.ext | exact M.heap (by repeat constructor) | decide) _ (by first | assumption | omega | exact And.left (by assumption) | exact (by assumption : SlAt _ _ _ _ _).later M.ext | exact TapeS.later (by assumption) M.ext | exact M.heap (by repeat constructor) | decide)) ?_)); clear F; clear a; rintro _ w ⟨rfl, hE⟩ a F; replace M := M.later hE; clear hE
  refine sD F (o_move (F.ev rfl) ?_); clear F a; intro a F
  refine sD F (o_extract (F.ev rfl) rfl ?_); clear F a; intro a F
  refine sD F (o_extract (F.ev rfl) rfl ?_); clear F a; intro a F
  refine sD F (o_alloc M ?_); clear F M; intro b10 w M a F
  refine stepN rfl F (o_storeA M (F.ev rfl) (F.ev rfl) (di_len (by first | assumption | trivial | exact And.left (by assumption))) (di_one _) (by repeat constructor) (put_all (by rw [(di_len (by first | assumption | trivial | exact And.left (by assumption)))]; first | rfl | rw [(di_len (by first | assumption | trivial | exact And.left (by assumption)))])) (by repeat constructor) ?_); clear F M; intro w M a F
  refine sD F (o_assign (F.ev rfl) ?_); clear F a; intro a F
  with_reducible refine l_nil (q_then (c_seq ?_))
  refine c_cut (fun a w => ∃ e : DisV, Mem [] W w [(b7, .cells (diC e).toArray 48 (0, 0)), (b6, .cells (dvC t).toArray 45 (0, 0))] ∧ Frm a 92 [] [(0, .slice q l.length cap), (1, .int .i64 now), (6, .pointer (some ⟨b6, 0, none⟩)), (7, .pointer (some ⟨b7, 0, none⟩))] ∧ e = (if k then lowQ d z else d)) ?_ ?_
  · rw [← hz, ← hk] at F
    rw [← hz] at M
    clear hz hk
    refine c_seq (c_region ?_)
    refine sD F (o_move (F.ev rfl) ?_); clear F a; intro a F
    with_reducible refine l_nil (q_then ?_)
    refine c_if F rfl (fun h1 => ?_) (fun h1 => ?_)
    · skip
      rw [h1] at F
      refine c_region ?_
      refine sD F (o_loadA M (F.ev rfl) (by repeat constructor) (di_all (by first | assumption | trivial | exact And.left (by assumption))) ?_); clear F a; intro a F
      refine sD F (o_loadA M (F.ev rfl) (by repeat constructor) (di_all (by first | assumption | trivial | exact And.left (by assumption))) ?_); clear F a; intro a F
      refine sD F (o_call (F.ev rfl) (F.evs rfl) (Cal.mono (rlower_c _ _ _) ?_)); clear F; clear a; rintro _ w ⟨rfl, hE⟩ a F; replace M := M.later hE; clear hE
      refine stepN rfl F (o_storeA M (F.ev rfl) (F.ev rfl) (di_len (by first | assumption | trivial | exact And.left (by assumption))) (di_one _) (by repeat constructor) (put_all (by rw [(di_len (by first | assumption | trivial | exact And.left (by assumption)))]; first | rfl | rw [(di_len (by first | assumption | trivial | exact And.left (by assumption)))])) (by repeat constructor) ?_); clear F M; intro w M a F
      with_reducible refine l_nil ?_
      exact ⟨_, M.sub (by repeat (first | exact .refl _ | apply List.Sublist.cons)), F.only [0, 1, 6, 7] rfl, by simp [*, lowQ]⟩
    · skip
      rw [h1] at F
      with_reducible refine c_skip ?_
      exact ⟨_, M.sub (by repeat (first | exact .refl _ | apply List.Sublist.cons)), F.only [0, 1, 6, 7] rfl, by simp [*, lowQ]⟩
  clear F M a w
  rintro a w ⟨e, M, F, he⟩
  obtain ⟨hl256, _, hasc⟩ := validSs_iff.1 h1
  have hnw := h5
  simp only [isTime, Bool.and_eq_true, decide_eq_true_eq] at hnw
  have hV : rfindV l now t = bestS l now t := by unfold rfindV; rw [h1, h5]; rfl
  have hen : e = (newS l now t d).bst := by
    rw [he, hz, hk, hV]
    unfold newS
    cases bestS l now t <;> rfl
  obtain ⟨x, hx0⟩ : ∃ x, x = newS l now t d := ⟨_, rfl⟩
  have hxt : x.to = t := by rw [hx0]; rfl
  have hL : recordV l now t d = if 256 < (putS l x).length then ([], 10) else (putS l x, 0) := by
    unfold recordV
    rw [h1, h2, h3, decide_eq_false h4, h5, ← hx0]
    rfl
  have hxx : IsSr x := by rw [hx0]; exact ⟨ht, trivial⟩
  have hb : putAll [(0, 35), (35, 2), (37, 1)] srZ [(0, dvC t), (1, diC e), (2, [.int .i64 (laterV now 20)])] = some (srC x) := by
    rw [hx0, hen]
    exact sr_build (o := newS l now t d) ⟨ht, trivial⟩
  clear hx0 hen he hV hz hk
  with_reducible refine q_then (c_seq ?_)
  refine c_draw 6 F (by kernel_rfl) ?_; intro w1 hE hok; have M1 := M.later hE
  refine mK hok rfl rfl (fun a' w' F' E' => o_loadA (M1.later E') (F'.ev rfl) (by repeat constructor) (dv_all (by first | assumption | trivial | exact And.left (by assumption))) ⟨Ext.refl _ _, rfl⟩) ?_
  refine mK hok rfl rfl (fun a' w' F' E' => o_loadA (M1.later E') (F'.ev rfl) (by repeat constructor) (di_all (by first | assumption | trivial | exact And.left (by assumption))) ⟨Ext.refl _ _, rfl⟩) ?_
  refine mK hok rfl rfl (fun a' w' F' E' => o_move (F'.ev rfl) ⟨Ext.refl _ _, rfl⟩) ?_
  refine mK hok rfl rfl (fun a' w' F' E' => o_call (F'.ev rfl) (F'.evs rfl) (Cal.mono (rafter_c _ _ (by first | assumption | omega | exact And.left (by assumption) | exact (by assumption : SlAt _ _ _ _ _).later (M1.later E').ext | exact TapeS.later (by assumption) (M1.later E').ext | exact M.heap (by repeat constructor) | decide) (by first | assumption | omega | exact And.left (by assumption) | exact (by assumption : SlAt _ _ _ _ _).later (M1.later E').ext | exact TapeS.later (by assumption) (M1.later E').ext | exact M.heap (by repeat constructor) | decide) (by first | assumption | omega | exact And.left (by assumption) | exact (by assumption : SlAt _ _ _ _ _).later (M1.later E').ext | exact TapeS.later (by assumption) (M1.later E').ext | exact M.heap (by repeat constructor) | decide) (by first | assumption | omega | exact And.left (by assumption) | exact (by assumption : SlAt _ _ _ _ _).later (M1.later E').ext | exact TapeS.later (by assumption) (M1.later E').ext | exact M.heap (by repeat constructor) | decide) _) fun _ _ hh => ⟨hh.2, hh.1⟩)) ?_
  refine mK hok rfl rfl (fun a' w' F' E' => o_build F' rfl (by assumption) ⟨Ext.refl _ _, rfl⟩) ?_
  refine mAl hok rfl rfl (Al.stays _ _) (fun w => Ext.alloc w _) (fun a' w' F' E' => run_al) ?_
  refine mDone rfl rfl ?_; clear F M; intro a w F hE2 hX hTT hDD hPP; have M := M1.later hE2; (try dsimp only at F); obtain ⟨b12, e_b12, g_b12, q_b12⟩ := hX 5 _ rfl; replace F := F.know (d := 12) e_b12; replace M := Mem.al (pre := []) M M1 q_b12 g_b12 (by intro p hp; cases hp); clear M1; clear hX; clear hE2; clear hok; clear hE; clear hTT; clear hDD; clear hPP; clear e_b12; clear g_b12; clear q_b12; (try dsimp only [ptrTo] at F); (try simp only [List.cons_append, List.nil_append] at M)
  refine stepN rfl F (o_storeA M (F.ev rfl) (F.ev rfl) (sr_len (by first | assumption | trivial | exact And.left (by assumption))) (sr_one _) (by repeat constructor) (put_all (by rw [(sr_len (by first | assumption | trivial | exact And.left (by assumption)))]; first | rfl | rw [(sr_len (by first | assumption | trivial | exact And.left (by assumption)))])) (by repeat constructor) ?_); clear F M; intro w M a F
  with_reducible refine l_nil (q_then (c_seq (c_region ?_)))
  refine sD F (o_assign (F.ev rfl) ?_); clear F a; intro a F
  with_reducible refine l_nil (q_then (c_seq (c_region ?_)))
  refine sD F (o_assign (F.ev rfl) ?_); clear F a; intro a F
  with_reducible refine l_nil (q_then (c_seq (c_seq (c_region ?_))))
  refine sD F (o_move (F.ev rfl) ?_); clear F a; intro a F
  refine sD F (o_lenSl (F.ev rfl) ?_); clear F a; intro a F
  refine sD F (o_move (F.ev rfl) ?_); clear F a; intro a F
  with_reducible refine l_nil (q_then (c_block ?_))
  have hpl := mergeG_len (fun y => cmpD y.to t) x (done := false) (l := l)
  have hpl2 : (mergeG (fun y => cmpD y.to t) x false l).length ≤ 257 := by simp at hpl; omega
  rw [show putS l x = mergeG (fun y => cmpD y.to t) x false l by rw [← hxt]; exact (putS_merge hasc).symm] at hL
  clear hpl hb
  generalize hR : mergeG (fun y => cmpD y.to t) x false l = R at *
  have c2 : ∀ u ent w, R.length ≤ 256 → OwnS 133 38 u R.length (srsC R) ent → Mem [] W w ent → ∃ u' ent, Value.tuple [u, .int .i64 0].toArray = .tuple [u', .int .i64 (recordV l now t d).2].toArray ∧ OwnS 133 38 u' (recordV l now t d).1.length (srsC (recordV l now t d).1) ent ∧ Mem [] W w ent := by
    intro u ent w h h2 h3
    rw [if_neg (by omega)] at hL
    rw [hL]
    exact ⟨_, _, rfl, h2, h3⟩
  refine c_loop (fun m a w => ∃ (i : Nat) (u : Value) (dn : Bool) (out : List SrcV) (es : List (Nat × Obj)), m = l.length - i ∧ i ≤ l.length ∧ (OwnS 133 38 u out.length (srsC out) es) ∧ (out ++ mergeG (fun y => cmpD y.to t) x dn (l.drop i) = R) ∧ Frm a 92 [] [(57, .int .i64 i), (56, .int .i64 l.length), (55, .slice q l.length cap), (6, .pointer (some ⟨b6, 0, none⟩)), (13, u), (14, .bool dn), (12, .pointer (some ⟨b12, 0, none⟩))] ∧ Mem [] W w ((b12, .cells (srC x).toArray 133 (0, 0)) :: (b6, .cells (dvC t).toArray 45 (0, 0)) :: es)) l.length ⟨0, _, false, [], [], rfl, by omega, OwnS.nil _ _, hR, F.only [57, 56, 55, 6, 13, 14, 12] rfl, M.sub (by repeat (first | exact .refl _ | apply List.Sublist.cons_cons | apply List.Sublist.cons))⟩ ?_
  clear F M a w
  rintro m a w ⟨i, u, dn, out, es, hm', hi, hOs, hout, F, M⟩
  have hol : out.length ≤ 257 := by
    have := congrArg List.length hout
    rw [List.length_append] at this
    omega
  by_cases hlt : i < l.length
  · obtain ⟨b, o, cs, t', fz, rfl, hb, hs⟩ := hm (by omega)
    obtain ⟨y, hy0⟩ : ∃ y, y = l[i] := ⟨_, rfl⟩
    have hyi : IsSr y := by rw [hy0]; exact hx _ (List.getElem_mem hlt)
    have f1 : seg cs (o + (i : Int).toNat * 38) 38 = some (srC y) := by rw [hy0]; exact seg_el (srs_len hx) hs hlt (by omega)
    rw [← List.getElem_cons_drop hlt, ← hy0] at hout
    clear hy0
    rw [mergeG_cons] at hout
    have hyd : IsDv y.to := hyi.1
    refine c_seq (c_region ?_)
    refine sD F (o_lssT (F.ev rfl) (F.ev rfl) (by omega) ?_); clear F a; intro a F
    with_reducible refine l_nil (q_then (c_seq ?_))
    refine c_true F rfl rfl ?_
    with_reducible refine c_skip (q_then (c_seq (c_block (c_seq (c_region ?_)))))
    refine sD F (o_indexSl (F.ev rfl) (F.ev rfl) (by omega) (by omega) ?_); clear F a; intro a F
    refine sD F (o_loadWA M (F.ev rfl) (by assumption) (by assumption) ?_); clear F a; intro a F
    refine sD F (o_alloc M ?_); clear F M; intro b16 w M a F
    refine stepN rfl F (o_storeA M (F.ev rfl) (F.ev rfl) (sr_len (by first | assumption | trivial | exact And.left (by assumption))) (sr_one _) (by repeat constructor) (put_all (by rw [(sr_len (by first | assumption | trivial | exact And.left (by assumption)))]; first | rfl | rw [(sr_len (by first | assumption | trivial | exact And.left (by assumption)))])) (by repeat constructor) ?_); clear F M; intro w M a F
    with_reducible refine l_nil (q_then (c_seq (c_region ?_)))
    refine sD F (o_fieldAddr (F.ev rfl) ?_); clear F a; intro a F
    refine sD F (o_loadA M (F.ev rfl) (by repeat constructor) (sr_to (by first | assumption | trivial | exact And.left (by assumption))) ?_); clear F a; intro a F
    refine sD F (o_loadA M (F.ev rfl) (by repeat constructor) (dv_all (by first | assumption | trivial | exact And.left (by assumption))) ?_); clear F a; intro a F
    refine sD F (o_call (F.ev rfl) (F.evs rfl) (Cal.mono (rcompare_c _ _ (by first | assumption | omega | exact And.left (by assumption) | exact (by assumption : SlAt _ _ _ _ _).later M.ext | exact TapeS.later (by assumption) M.ext | exact M.heap (by repeat constructor) | decide) (by first | assumption | omega | exact And.left (by assumption) | exact (by assumption : SlAt _ _ _ _ _).later M.ext | exact TapeS.later (by assumption) M.ext | exact M.heap (by repeat constructor) | decide) _) ?_)); clear F; clear a; rintro _ w ⟨rfl, hE⟩ a F; replace M := M.later hE; clear hE
    refine sD F (o_assign (F.ev rfl) ?_); clear F a; intro a F
    with_reducible refine l_nil (q_then (c_seq (c_seq (c_region ?_))))
    refine sD F (o_move (F.ev rfl) ?_); clear F a; intro a F
    refine sD F (o_geq (F.ev rfl) (F.ev rfl) ?_); clear F a; intro a F
    refine sD F (o_move (F.ev rfl) ?_); clear F a; intro a F
    refine b_split F 67 rfl (fun h1 => ?_) (fun h1 => ?_)
    · skip
      rw [h1] at F; replace h1 := of_decide_eq_true h1
      refine sG F (o_move (F.ev rfl) ?_); clear F a; intro a F
      refine sG F (o_not (F.ev rfl) ?_); clear F a; intro a F
      refine sD F (o_pickT (F.ev rfl) (F.ev rfl) ?_); clear F a; intro a F
      with_reducible refine l_nil (q_then ?_)
      refine c_if F rfl (fun h2 => ?_) (fun h2 => ?_)
      · skip
        rw [h2] at F; replace h2 := false_of_not h2; (try rw [h2] at F)
        refine c_seq (c_region ?_)
        refine sD F (o_move (F.ev rfl) ?_); clear F a; intro a F
        refine sD F (o_loadA M (F.ev rfl) (by repeat constructor) (sr_all (by first | assumption | trivial | exact And.left (by assumption))) ?_); clear F a; intro a F
        refine sD F (o_buildSlice F M rfl rfl rfl (sr_build1 (by first | assumption | trivial | exact And.left (by assumption))) ?_); clear F M; intro bs73 w M a F
        refine sD F (o_append1 (enc := srC) (by assumption) M (by repeat (first | exact .here | apply TailAt.cons)) (F.ev rfl) (F.ev rfl) (SrcOf.cells' (M.heap .here) (sg_all (sr_len (by first | assumption | trivial | exact And.left (by assumption)))) (sr_one _)) (by first | omega | (simp; omega)) ?_); clear F M; intro v74 es74 w hO74 M a F; (try dsimp only at M)
        refine sD F (o_assign (F.ev rfl) ?_); clear F a; intro a F
        with_reducible refine l_nil (q_then (c_region ?_))
        refine sD F (o_assign (F.ev rfl) ?_); clear F a; intro a F
        with_reducible refine l_nil (q_then (c_seq (c_region ?_)))
        refine sD F (o_move (F.ev rfl) ?_); clear F a; intro a F
        refine sD F (o_neq (F.ev rfl) (F.ev rfl) ?_); clear F a; intro a F
        with_reducible refine l_nil (q_then ?_)
        refine c_if F rfl (fun h3 => ?_) (fun h3 => ?_)
        · skip
          rw [h3] at F; replace h3 := ne_of_bne h3
          refine c_region ?_
          refine sD F (o_move (F.ev rfl) ?_); clear F a; intro a F
          refine sD F (o_loadA M (F.ev rfl) (by repeat constructor) (sr_all (by first | assumption | trivial | exact And.left (by assumption))) ?_); clear F a; intro a F
          refine sD F (o_buildSlice F M rfl rfl rfl (sr_build1 (by first | assumption | trivial | exact And.left (by assumption))) ?_); clear F M; intro bs79 w M a F
          refine sD F (o_append1 (enc := srC) (by assumption) M (by repeat (first | exact .here | apply TailAt.cons)) (F.ev rfl) (F.ev rfl) (SrcOf.cells' (M.heap .here) (sg_all (sr_len (by first | assumption | trivial | exact And.left (by assumption)))) (sr_one _)) (by first | omega | (simp; omega)) ?_); clear F M; intro v80 es80 w hO80 M a F; (try dsimp only at M)
          refine sD F (o_assign (F.ev rfl) ?_); clear F a; intro a F
          with_reducible refine l_nil (q_inB (q_then (c_region ?_)))
          refine sD F (o_add (F.ev rfl) (F.ev rfl) (w_i64 (by omega) (by omega)) ?_); clear F a; intro a F
          refine sD F (o_move (F.ev rfl) ?_); clear F a; intro a F
          with_reducible refine l_nil (q_then ?_)
          exact ⟨_, by omega, i + 1, _, _, _, _, rfl, by omega, by assumption, by rw [← hout]; clear hout hR hL c1 c2; simp [*], F.only [57, 56, 55, 6, 13, 14, 12] rfl, M.sub (by repeat (first | exact .refl _ | apply List.Sublist.cons))⟩
        · skip
          rw [h3] at F; replace h3 := eq_of_bne_false h3
          with_reducible refine c_skip (q_inB (q_then (c_region ?_)))
          refine sD F (o_add (F.ev rfl) (F.ev rfl) (w_i64 (by omega) (by omega)) ?_); clear F a; intro a F
          refine sD F (o_move (F.ev rfl) ?_); clear F a; intro a F
          with_reducible refine l_nil (q_then ?_)
          exact ⟨_, by omega, i + 1, _, _, _, _, rfl, by omega, by assumption, by rw [← hout]; clear hout hR hL c1 c2; simp [*], F.only [57, 56, 55, 6, 13, 14, 12] rfl, M.sub (by repeat (first | exact .refl _ | apply List.Sublist.cons))⟩
      · skip
        rw [h2] at F; replace h2 := true_of_not h2; (try rw [h2] at F)
        with_reducible refine c_skip (q_then (c_seq (c_region ?_)))
        refine sD F (o_move (F.ev rfl) ?_); clear F a; intro a F
        refine sD F (o_neq (F.ev rfl) (F.ev rfl) ?_); clear F a; intro a F
        with_reducible refine l_nil (q_then ?_)
        refine c_if F rfl (fun h3 => ?_) (fun h3 => ?_)
        · skip
          rw [h3] at F; replace h3 := ne_of_bne h3
          refine c_region ?_
          refine sD F (o_move (F.ev rfl) ?_); clear F a; intro a F
          refine sD F (o_loadA M (F.ev rfl) (by repeat constructor) (sr_all (by first | assumption | trivial | exact And.left (by assumption))) ?_); clear F a; intro a F
          refine sD F (o_buildSlice F M rfl rfl rfl (sr_build1 (by first | assumption | trivial | exact And.left (by assumption))) ?_); clear F M; intro bs79 w M a F
          refine sD F (o_append1 (enc := srC) (by assumption) M (by repeat (first | exact .here | apply TailAt.cons)) (F.ev rfl) (F.ev rfl) (SrcOf.cells' (M.heap .here) (sg_all (sr_len (by first | assumption | trivial | exact And.left (by assumption)))) (sr_one _)) (by first | omega | (simp; omega)) ?_); clear F M; intro v80 es80 w hO80 M a F; (try dsimp only at M)
          refine sD F (o_assign (F.ev rfl) ?_); clear F a; intro a F
          with_reducible refine l_nil (q_inB (q_then (c_region ?_)))
          refine sD F (o_add (F.ev rfl) (F.ev rfl) (w_i64 (by omega) (by omega)) ?_); clear F a; intro a F
          refine sD F (o_move (F.ev rfl) ?_); clear F a; intro a F
          with_reducible refine l_nil (q_then ?_)
          exact ⟨_, by omega, i + 1, _, _, _, _, rfl, by omega, by assumption, by rw [← hout]; clear hout hR hL c1 c2; simp [*], F.only [57, 56, 55, 6, 13, 14, 12] rfl, M.sub (by repeat (first | exact .refl _ | apply List.Sublist.cons))⟩
        · skip
          rw [h3] at F; replace h3 := eq_of_bne_false h3
          with_reducible refine c_skip (q_inB (q_then (c_region ?_)))
          refine sD F (o_add (F.ev rfl) (F.ev rfl) (w_i64 (by omega) (by omega)) ?_); clear F a; intro a F
          refine sD F (o_move (F.ev rfl) ?_); clear F a; intro a F
          with_reducible refine l_nil (q_then ?_)
          exact ⟨_, by omega, i + 1, _, _, _, _, rfl, by omega, by assumption, by rw [← hout]; clear hout hR hL c1 c2; simp [*], F.only [57, 56, 55, 6, 13, 14, 12] rfl, M.sub (by repeat (first | exact .refl _ | apply List.Sublist.cons))⟩
    · skip
      rw [h1] at F; replace h1 := of_decide_eq_false h1
      refine sO F ?_; clear F a; intro a F
      refine sO F ?_; clear F a; intro a F
      refine sD F (o_pickF (F.ev rfl) (F.ev rfl) ?_); clear F a; intro a F
      with_reducible refine l_nil (q_then ?_)
      refine c_false F rfl rfl ?_
      with_reducible refine c_skip (q_then (c_seq (c_region ?_)))
      refine sD F (o_move (F.ev rfl) ?_); clear F a; intro a F
      refine sD F (o_neqT (F.ev rfl) (F.ev rfl) (by omega) ?_); clear F a; intro a F
      with_reducible refine l_nil (q_then ?_)
      refine c_true F rfl rfl ?_
      refine c_region ?_
      refine sD F (o_move (F.ev rfl) ?_); clear F a; intro a F
      refine sD F (o_loadA M (F.ev rfl) (by repeat constructor) (sr_all (by first | assumption | trivial | exact And.left (by assumption))) ?_); clear F a; intro a F
      refine sD F (o_buildSlice F M rfl rfl rfl (sr_build1 (by first | assumption | trivial | exact And.left (by assumption))) ?_); clear F M; intro bs79 w M a F
      refine sD F (o_append1 (enc := srC) (by assumption) M (by repeat (first | exact .here | apply TailAt.cons)) (F.ev rfl) (F.ev rfl) (SrcOf.cells' (M.heap .here) (sg_all (sr_len (by first | assumption | trivial | exact And.left (by assumption)))) (sr_one _)) (by first | omega | (simp; omega)) ?_); clear F M; intro v80 es80 w hO80 M a F; (try dsimp only at M)
      refine sD F (o_assign (F.ev rfl) ?_); clear F a; intro a F
      with_reducible refine l_nil (q_inB (q_then (c_region ?_)))
      refine sD F (o_add (F.ev rfl) (F.ev rfl) (w_i64 (by omega) (by omega)) ?_); clear F a; intro a F
      refine sD F (o_move (F.ev rfl) ?_); clear F a; intro a F
      with_reducible refine l_nil (q_then ?_)
      exact ⟨_, by omega, i + 1, _, _, _, _, rfl, by omega, by assumption, by rw [← hout]; clear hout hR hL c1 c2; have hc : cmpD y.to t ≠ 0 := (by omega); simp [*], F.only [57, 56, 55, 6, 13, 14, 12] rfl, M.sub (by repeat (first | exact .refl _ | apply List.Sublist.cons))⟩
  · obtain rfl : i = l.length := by omega
    rw [List.drop_length, mergeG_nil] at hout
    cases dn
    · have hout : out ++ [x] = R := hout
      subst hout
      refine c_seq (c_region ?_)
      refine sD F (o_lssF (F.ev rfl) (F.ev rfl) (by omega) ?_); clear F a; intro a F
      with_reducible refine l_nil (q_then (c_seq ?_))
      refine c_false F rfl rfl ?_
      with_reducible refine c_exit (q_thenX (q_thenX (q_inBX (q_then (c_seq (c_seq (c_region ?_)))))))
      refine sD F (o_move (F.ev rfl) ?_); clear F a; intro a F
      refine sD F (o_not (F.ev rfl) ?_); clear F a; intro a F
      with_reducible refine l_nil (q_then ?_)
      refine c_true F rfl rfl ?_
      refine c_region ?_
      refine sD F (o_move (F.ev rfl) ?_); clear F a; intro a F
      refine sD F (o_loadA M (F.ev rfl) (by repeat constructor) (sr_all (by first | assumption | trivial | exact And.left (by assumption))) ?_); clear F a; intro a F
      refine sD F (o_buildSlice F M rfl rfl rfl (sr_build1 (by first | assumption | trivial | exact And.left (by assumption))) ?_); clear F M; intro bs86 w M a F
      refine sD F (o_append1 (enc := srC) (by assumption) M (by repeat (first | exact .here | apply TailAt.cons)) (F.ev rfl) (F.ev rfl) (SrcOf.cells' (M.heap .here) (sg_all (sr_len (by first | assumption | trivial | exact And.left (by assumption)))) (sr_one _)) (by first | omega | (simp; omega)) ?_); clear F M; intro v87 es87 w hO87 M a F; (try dsimp only at M)
      refine sD F (o_assign (F.ev rfl) ?_); clear F a; intro a F
      with_reducible refine l_nil (q_then (c_seq (c_seq (c_region ?_))))
      refine sD F (o_move (F.ev rfl) ?_); clear F a; intro a F
      refine sD F (o_lenOwn (F.ev rfl) (by assumption) ?_); clear F a; intro a F
      refine sD F (o_gtr (F.ev rfl) (F.ev rfl) ?_); clear F a; intro a F
      with_reducible refine l_nil (q_then ?_)
      refine c_if F rfl (fun h1 => ?_) (fun h1 => ?_)
      · skip
        rw [h1] at F; replace h1 := of_decide_eq_true h1
        refine c_seq (c_region ?_)
        refine sD F (o_assign (F.ev rfl) ?_); clear F a; intro a F
        refine sD F (o_assign (F.ev rfl) ?_); clear F a; intro a F
        with_reducible refine l_nil (q_then (c_ret (q_thenR ?_)))
        refine p_ret F rfl (.cons (.tmp (F.ev rfl)) (.cons (.tmp (F.ev rfl)) .nil)) ?_; (try dsimp only [oneOr])
        exact c1 10 _ (by rw [hL, if_pos (by omega)]) rfl _ M.ext
      · skip
        rw [h1] at F; replace h1 := of_decide_eq_false h1
        with_reducible refine c_skip (q_then (c_seq (c_region ?_)))
        refine sD F (o_move (F.ev rfl) ?_); clear F a; intro a F
        refine sD F (o_assign (F.ev rfl) ?_); clear F a; intro a F
        refine sD F (o_assign (F.ev rfl) ?_); clear F a; intro a F
        with_reducible refine l_nil (q_then (c_ret ?_))
        refine p_ret F rfl (.cons (.tmp (F.ev rfl)) (.cons (.tmp (F.ev rfl)) .nil)) ?_; (try dsimp only [oneOr])
        exact c2 _ _ _ (by omega) (by assumption) (M.sub (by repeat (first | exact .refl _ | apply List.Sublist.cons)))
    · have hout : out ++ [] = R := hout
      rw [List.append_nil] at hout
      subst hout
      refine c_seq (c_region ?_)
      refine sD F (o_lssF (F.ev rfl) (F.ev rfl) (by omega) ?_); clear F a; intro a F
      with_reducible refine l_nil (q_then (c_seq ?_))
      refine c_false F rfl rfl ?_
      with_reducible refine c_exit (q_thenX (q_thenX (q_inBX (q_then (c_seq (c_seq (c_region ?_)))))))
      refine sD F (o_move (F.ev rfl) ?_); clear F a; intro a F
      refine sD F (o_not (F.ev rfl) ?_); clear F a; intro a F
      with_reducible refine l_nil (q_then ?_)
      refine c_false F rfl rfl ?_
      with_reducible refine c_skip (q_then (c_seq (c_seq (c_region ?_))))
      refine sD F (o_move (F.ev rfl) ?_); clear F a; intro a F
      refine sD F (o_lenOwn (F.ev rfl) (by assumption) ?_); clear F a; intro a F
      refine sD F (o_gtr (F.ev rfl) (F.ev rfl) ?_); clear F a; intro a F
      with_reducible refine l_nil (q_then ?_)
      refine c_if F rfl (fun h1 => ?_) (fun h1 => ?_)
      · skip
        rw [h1] at F; replace h1 := of_decide_eq_true h1
        refine c_seq (c_region ?_)
        refine sD F (o_assign (F.ev rfl) ?_); clear F a; intro a F
        refine sD F (o_assign (F.ev rfl) ?_); clear F a; intro a F
        with_reducible refine l_nil (q_then (c_ret (q_thenR ?_)))
        refine p_ret F rfl (.cons (.tmp (F.ev rfl)) (.cons (.tmp (F.ev rfl)) .nil)) ?_; (try dsimp only [oneOr])
        exact c1 10 _ (by rw [hL, if_pos (by omega)]) rfl _ M.ext
      · skip
        rw [h1] at F; replace h1 := of_decide_eq_false h1
        with_reducible refine c_skip (q_then (c_seq (c_region ?_)))
        refine sD F (o_move (F.ev rfl) ?_); clear F a; intro a F
        refine sD F (o_assign (F.ev rfl) ?_); clear F a; intro a F
        refine sD F (o_assign (F.ev rfl) ?_); clear F a; intro a F
        with_reducible refine l_nil (q_then (c_ret ?_))
        refine p_ret F rfl (.cons (.tmp (F.ev rfl)) (.cons (.tmp (F.ev rfl)) .nil)) ?_; (try dsimp only [oneOr])
        exact c2 _ _ _ (by omega) (by assumption) (M.sub (by repeat (first | exact .refl _ | apply List.Sublist.cons)))
end Go.Proofs.YtilgoepokaaleaaGreat
/-! YA -/
namespace Go.Proofs.YtilgoepokaaleaaGreat
set_option linter.unusedVariables false
set_option linter.unusedSimpArgs false
open Go.RowKit
attribute [local irreducible] OpTo wpListIn Code.wpIn MW Cal
theorem seqE_c {bt : Nat} {p : Option Addr} {len cap k : Nat} {xs : List Int} (W : World) (hT : TapeS W bt p len xs) (hb : W.heap[bt]? = some (tobj p len cap k)) :
    Cal Tryz.prog 88 [.pointer (some ⟨bt, 0, none⟩)].toArray W fun v w' => ∃ x k', v = .int .u16 x ∧ Mem [bt] W w' [(bt, tobj p len cap k')] := by
  refine fn_ofM (n := 7) [bt] Tryz.func88 rfl rfl rfl ?_
  intro a w F M hwW
  replace M := M.came hwW hb (by simp) (by simp)
  refine c_seq (c_region ?_)
  refine sD F (o_assign (F.ev rfl) ?_); clear F a; intro a F
  with_reducible refine l_nil (q_then (c_seq (c_region ?_)))
  refine sD F (o_move (F.ev rfl) ?_); clear F a; intro a F
  (refine sD F (o_call (F.ev rfl) (F.evs rfl) (Cal.mono (nextE_c 6 (by omega) (by omega) _ (hT.later M.ext) (M.heap .here) ) ?_)); clear F; clear a; have M0 := M; clear M; rintro _ w ⟨x, k', rfl, hx, N⟩ a F)
  replace M := M0.turn1 N .here
  clear M0 N
  refine sD F (o_sub (F.ev rfl) (F.ev rfl) (w_i64 (by omega) (by omega)) ?_); clear F a; intro a F
  refine sD F (o_conv (F.ev rfl) rfl ?_); clear F a; intro a F
  refine sD F (o_assign (F.ev rfl) ?_); clear F a; intro a F
  with_reducible refine l_nil (q_then (c_ret ?_))
  refine p_ret F rfl (.cons (.tmp (F.ev rfl)) .nil) ?_
  exact ⟨_, k', rfl, M⟩
theorem costE_c {bt : Nat} {p : Option Addr} {len cap k : Nat} {xs : List Int} (W : World) (hT : TapeS W bt p len xs) (hb : W.heap[bt]? = some (tobj p len cap k)) :
    Cal Tryz.prog 44 [.pointer (some ⟨bt, 0, none⟩)].toArray W fun v w' => ∃ x k', v = .int .i64 x ∧ (0 ≤ x ∧ x ≤ 65534) ∧ Mem [bt] W w' [(bt, tobj p len cap k')] := by
  refine fn_ofM (n := 18) [bt] Tryz.func44 rfl rfl rfl ?_
  intro a w F M hwW
  replace M := M.came hwW hb (by simp) (by simp)
  refine c_seq (c_region ?_)
  refine sD F (o_assign (F.ev rfl) ?_); clear F a; intro a F
  with_reducible refine l_nil (q_then (c_seq (c_seq (c_region ?_))))
  refine sD F (o_move (F.ev rfl) ?_); clear F a; intro a F
  (refine sD F (o_call (F.ev rfl) (F.evs rfl) (Cal.mono (nextE_c 6 (by omega) (by omega) _ (hT.later M.ext) (M.heap .here) ) ?_)); clear F; clear a; have M0 := M; clear M; rintro _ w ⟨x, k', rfl, hx, N⟩ a F)
  replace M := M0.turn1 N .here
  clear M0 N
  by_cases c1 : x = 0
  · with_reducible refine l_nil ?_
    with_reducible refine q_then (c_block (c_seq (c_region ?_)))
    refine sD F (o_eqlT (F.ev rfl) (F.ev rfl) (by omega) ?_); clear F a; intro a F
    refine sD F (o_assign (F.ev rfl) ?_); clear F a; intro a F
    with_reducible refine l_nil (q_then ?_)
    refine c_true F rfl rfl ?_
    refine c_seq (c_region ?_)
    refine sD F (o_move (F.ev rfl) ?_); clear F a; intro a F
    (refine sD F (o_call (F.ev rfl) (F.evs rfl) (Cal.mono (nextE_c 4 (by omega) (by omega) _ (hT.later M.ext) (M.heap .here) ) ?_)); clear F; clear a; have M0 := M; clear M; rintro _ w ⟨x2, k2, rfl, hx2, N⟩ a F)
    replace M := M0.turn1 N .here
    refine sD F (o_assign (F.ev rfl) ?_); clear F a; intro a F
    with_reducible refine l_nil (q_then (c_ret (q_inBR (q_thenR ?_))))
    refine p_ret F rfl (.cons (.tmp (F.ev rfl)) .nil) ?_
    exact ⟨_, k2, rfl, by omega, M⟩
  by_cases c2 : x = 1
  · with_reducible refine l_nil ?_
    with_reducible refine q_then (c_block (c_seq (c_region ?_)))
    refine sD F (o_eqlF (F.ev rfl) (F.ev rfl) (by omega) ?_); clear F a; intro a F
    refine sD F (o_assign (F.ev rfl) ?_); clear F a; intro a F
    with_reducible refine l_nil (q_then ?_)
    refine c_false F rfl rfl ?_
    refine c_seq (c_region ?_)
    refine sD F (o_eqlT (F.ev rfl) (F.ev rfl) (by omega) ?_); clear F a; intro a F
    refine sD F (o_assign (F.ev rfl) ?_); clear F a; intro a F
    with_reducible refine l_nil (q_then ?_)
    refine c_true F rfl rfl ?_
    refine c_seq (c_region ?_)
    refine sD F (o_move (F.ev rfl) ?_); clear F a; intro a F
    (refine sD F (o_call (F.ev rfl) (F.evs rfl) (Cal.mono (nextE_c 600 (by omega) (by omega) _ (hT.later M.ext) (M.heap .here) ) ?_)); clear F; clear a; have M0 := M; clear M; rintro _ w ⟨x2, k2, rfl, hx2, N⟩ a F)
    replace M := M0.turn1 N .here
    refine sD F (o_sub (F.ev rfl) (F.ev rfl) (w_i64 (by omega) (by omega)) ?_); clear F a; intro a F
    refine sD F (o_assign (F.ev rfl) ?_); clear F a; intro a F
    with_reducible refine l_nil (q_then (c_ret (q_inBR (q_thenR ?_))))
    refine p_ret F rfl (.cons (.tmp (F.ev rfl)) .nil) ?_
    exact ⟨_, k2, rfl, by omega, M⟩
  · with_reducible refine l_nil ?_
    with_reducible refine q_then (c_block (c_seq (c_region ?_)))
    refine sD F (o_eqlF (F.ev rfl) (F.ev rfl) (by omega) ?_); clear F a; intro a F
    refine sD F (o_assign (F.ev rfl) ?_); clear F a; intro a F
    with_reducible refine l_nil (q_then ?_)
    refine c_false F rfl rfl ?_
    refine c_seq (c_region ?_)
    refine sD F (o_eqlF (F.ev rfl) (F.ev rfl) (by omega) ?_); clear F a; intro a F
    refine sD F (o_assign (F.ev rfl) ?_); clear F a; intro a F
    with_reducible refine l_nil (q_then ?_)
    refine c_false F rfl rfl ?_
    with_reducible refine c_skip (q_inB (q_then (c_seq (c_region ?_))))
    refine sD F (o_move (F.ev rfl) ?_); clear F a; intro a F
    (refine sD F (o_call (F.ev rfl) (F.evs rfl) (Cal.mono (nextE_c 30 (by omega) (by omega) _ (hT.later M.ext) (M.heap .here) ) ?_)); clear F; clear a; have M0 := M; clear M; rintro _ w ⟨x2, k2, rfl, hx2, N⟩ a F)
    replace M := M0.turn1 N .here
    refine sD F (o_mul (F.ev rfl) (F.ev rfl) (w_i64 (by omega) (by omega)) ?_); clear F a; intro a F
    refine sD F (o_add (F.ev rfl) (F.ev rfl) (w_i64 (by omega) (by omega)) ?_); clear F a; intro a F
    refine sD F (o_assign (F.ev rfl) ?_); clear F a; intro a F
    with_reducible refine l_nil (q_then (c_ret ?_))
    refine p_ret F rfl (.cons (.tmp (F.ev rfl)) .nil) ?_
    exact ⟨_, k2, rfl, by omega, M⟩
theorem distE_c {bt : Nat} {p : Option Addr} {len cap k : Nat} {xs : List Int} (W : World) (hT : TapeS W bt p len xs) (hb : W.heap[bt]? = some (tobj p len cap k)) :
    Cal Tryz.prog 39 [.pointer (some ⟨bt, 0, none⟩)].toArray W fun v w' => ∃ x k', v = diV x ∧ (0 ≤ x.met ∧ x.met ≤ 65534) ∧ Mem [bt] W w' [(bt, tobj p len cap k')] := by
  refine fn_ofM (n := 8) [bt] Tryz.func39 rfl rfl rfl ?_
  intro a w F M hwW
  replace M := M.came hwW hb (by simp) (by simp)
  refine c_seq ?_
  refine c_region ?_
  (refine sD F (o_alloc M ?_); clear F M; intro b2 w M a F)
  with_reducible refine l_nil (q_then (c_seq (c_region ?_)))
  refine sD F (o_move (F.ev rfl) ?_); clear F a; intro a F
  (refine sD F (o_call (F.ev rfl) (F.evs rfl) (Cal.mono (seqE_c _ (hT.later M.ext) (M.heap (.there .here)) ) ?_)); clear F; clear a; have M0 := M; clear M; rintro _ w ⟨x, k1, rfl, N⟩ a F)
  replace M := M0.turn1 N (.there .here)
  clear M0 N
  refine sD F (o_move (F.ev rfl) ?_); clear F a; intro a F
  (refine sD F (o_call (F.ev rfl) (F.evs rfl) (Cal.mono (costE_c _ (hT.later M.ext) (M.heap (.there .here)) ) ?_)); clear F; clear a; have M0 := M; clear M; rintro _ w ⟨y, k2, rfl, hy, N⟩ a F)
  replace M := M0.turn1 N (.there .here)
  clear M0 N
  refine sD F (o_build F rfl rfl ?_); clear F a; intro a F
  (refine stepN rfl F (o_storeA M (F.ev rfl) (F.ev rfl) (by rfl) (by rfl) (by repeat constructor) (by rfl) (by repeat constructor) ?_); clear F M; intro w M a F)
  with_reducible refine l_nil (q_then (c_ret ?_))
  exact p_ret F rfl (.cons (.cell (F.ev rfl) (run_loadVar_agg TAgg.h (M.heap (by repeat constructor)) rfl)) .nil) ⟨⟨x, y⟩, k2, rfl, hy, M.sub (.cons _ (.refl _))⟩
def tabTo : List Int := [128, 128, 64, 0]
theorem tabTo_bd (i : Nat) : 0 ≤ tabTo.getD i 0 ∧ tabTo.getD i 0 ≤ 128 := by
  rcases Nat.lt_or_ge i 4 with h | h
  · have : ∀ i : Fin 4, 0 ≤ tabTo.getD i.val 0 ∧ tabTo.getD i.val 0 ≤ 128 := by decide
    exact this ⟨i, h⟩
  · rw [List.getD_eq_getElem?_getD, List.getElem?_eq_none (by simpa [tabTo] using h)]
    simp
def zr16 : List Int := [0, 0, 0, 0, 0, 0, 0, 0, 0, 0, 0, 0, 0, 0, 0, 0]
theorem zr16_is : IsIP zr16 := ⟨rfl, by intro x hx; simp [zr16] at hx; omega⟩
theorem dv_buildT {z : List Int} (hz : IsIP z) (n e : Int) : putAll [(0, 17), (17, 17), (34, 1)] dvZ [(0, pfC z n), (2, [.int .u64 e])] = some (dvC ⟨z, n, zr16, 0, e⟩) := by
  obtain ⟨z0, z1, z2, z3, z4, z5, z6, z7, z8, z9, z10, z11, z12, z13, z14, z15, ez⟩ := len16 hz.len
  subst ez
  rfl
theorem zero_valid : validP zr16 0 = true := by decide
set_option maxHeartbeats 1000000 in
theorem toE_c {bt : Nat} {p : Option Addr} {len cap k : Nat} {xs : List Int} (W : World) (hT : TapeS W bt p len xs) (hb : W.heap[bt]? = some (tobj p len cap k)) :
    Cal Tryz.prog 20 [.pointer (some ⟨bt, 0, none⟩)].toArray W fun v w' => ∃ x k', v = dvV x ∧ IsDv x ∧ validT x = true ∧ Mem [bt] W w' [(bt, tobj p len cap k')] := by
  refine fn_ofM (n := 21) [bt] Tryz.func20 rfl rfl rfl ?_
  intro a w F M hwW
  replace M := M.came hwW hb (by simp) (by simp)
  refine c_seq ?_
  refine c_region ?_
  (refine sD F (o_alloc M ?_); clear F M; intro b2 w M a F)
  with_reducible refine l_nil (q_then (c_seq (c_region ?_)))
  refine sD F (o_move (F.ev rfl) ?_); clear F a; intro a F
  (refine sD F (o_call (F.ev rfl) (F.evs rfl) (Cal.mono (wipD_c _ (hT.later M.ext) (M.heap (.there .here)) ) ?_)); clear F; clear a; have M0 := M; clear M; rintro _ w ⟨rfl, N⟩ a F)
  replace M := M0.turn1 N (.there .here)
  clear M0 N
  have hip := wipV_is xs k
  generalize wipV xs k = ip at *
  generalize wipK xs k = k1 at *
  skip
  (refine sD F (o_buildSlice F M rfl rfl rfl rfl ?_); clear F M; intro b6 w M a F)
  refine sD F (o_move (F.ev rfl) ?_); clear F a; intro a F
  (refine sD F (o_call (F.ev rfl) (F.evs rfl) (Cal.mono (next_c 4 (by omega) (by omega) _ (hT.later M.ext) (M.heap (.there (.there .here))) ) ?_)); clear F; clear a; have M0 := M; clear M; rintro _ w ⟨rfl, N⟩ a F)
  replace M := M0.turn1 N (.there (.there .here))
  clear M0 N
  have v1 := nxV_bd xs k1 (n := 4) (by omega)
  have n1 := nth_tab (k := .i64) (xs := tabTo) v1.1 (by simpa [tabTo] using v1.2)
  have hbd := tabTo_bd (nxV xs k1 4).toNat
  (refine sD F (o_indexSl (F.ev rfl) (F.ev rfl) (by omega) (by omega) ?_); clear F a; intro a F)
  (refine sD F (o_load1 M (F.ev rfl) (by repeat constructor) (n1) ?_); clear F a; intro a F)
  generalize tabTo.getD (nxV xs k1 4).toNat 0 = n at *
  generalize nxV xs k1 4 = q at *
  generalize nxK xs k1 = k2 at *
  have hcl : clampB n = n := clamp_in hbd.1 hbd.2
  (refine sD F (o_call (F.ev rfl) (F.evs rfl) (Cal.mono (Cal.to (rmask_c ip hip n _) (by rw [hcl])) ?_)); clear F; clear a; rintro _ w ⟨rfl, hE⟩ a F; replace M := M.later hE; clear hE)
  have hmi := mask_isIP hip n
  have hvm := valid_mask hip hbd.1 hbd.2
  generalize maskI ip n = mip at *
  refine sD F (o_move (F.ev rfl) ?_); clear F a; intro a F
  (refine sD F (o_call (F.ev rfl) (F.evs rfl) (Cal.mono (eui_c _ (hT.later M.ext) (M.heap (.there (.there .here))) ) ?_)); clear F; clear a; have M0 := M; clear M; rintro _ w ⟨e, k3, rfl, he, N⟩ a F)
  replace M := M0.turn1 N (.there (.there .here))
  clear M0 N
  have hd : IsDv ⟨mip, n, zr16, 0, e⟩ := ⟨hmi, zr16_is⟩
  (refine sD F (o_build F rfl (dv_buildT hmi n e) ?_); clear F a; intro a F)
  skip
  (refine sD F (o_alloc M ?_); clear F M; intro b3 w M a F)
  (refine stepN rfl F (o_storeA M (F.ev rfl) (F.ev rfl) (dv_len hd) (dv_one _)  (by repeat constructor)  (put_all (by rw [dv_len hd]; rfl)) (by repeat constructor) ?_); clear F M; intro w M a F)
  with_reducible refine l_nil (q_then (c_seq (c_seq (c_region ?_))))
  refine sD F (o_move (F.ev rfl) ?_); clear F a; intro a F
  (refine sD F (o_call (F.ev rfl) (F.evs rfl) (Cal.mono (boolE_c 3 (by omega) (by omega) _ (hT.later M.ext) (M.heap (.there (.there (.there .here)))) ) ?_)); clear F; clear a; have M0 := M; clear M; rintro _ w ⟨c, k4, rfl, N⟩ a F)
  replace M := M0.turn1 N (.there (.there (.there .here)))
  clear M0 N
  cases c
  · have g0 := dv_all hd
    with_reducible refine l_nil (q_then ?_)
    refine c_false F rfl rfl ?_
    with_reducible refine c_skip (q_then (c_seq (c_region ?_)))
    refine sD F (o_loadA M (F.ev rfl) (by repeat constructor) (by first | assumption | rfl) ?_); clear F a; intro a F
    (refine stepN rfl F (o_storeA M (F.ev rfl) (F.ev rfl) (dv_len hd) (dv_one _)  (by repeat constructor)  (put_all (by rw [dv_len hd]; rfl)) (by repeat constructor) ?_); clear F M; intro w M a F)
    with_reducible refine l_nil (q_then (c_ret ?_))
    exact p_ret F rfl (.cons (.cell (F.ev rfl) (run_loadVar_agg TAgg.h (M.heap (by repeat constructor)) g0)) .nil) ⟨_, k4, rfl, hd, by simp [validT, hvm, zero_valid]; omega, M.sub (by repeat (first | exact List.Sublist.refl _ | apply List.Sublist.cons))⟩
  · with_reducible refine l_nil ?_
    with_reducible refine q_then ?_
    refine c_true F rfl rfl ?_
    refine c_region ?_
    refine sD F (o_move (F.ev rfl) ?_); clear F a; intro a F
    (refine sD F (o_call (F.ev rfl) (F.evs rfl) (Cal.mono (wprefix_c _ (hT.later M.ext) (M.heap (.there (.there (.there .here)))) ) ?_)); clear F; clear a; have M0 := M; clear M; rintro _ w ⟨rfl, N⟩ a F)
    replace M := M0.turn1 N (.there (.there (.there .here)))
    clear M0 N
    have hpi : IsIP (maskI (wpA xs k4) (wpN xs k4)) := mask_isIP (wipV_is _ _) _
    have hpb := wpN_bd xs k4
    have hpv := valid_mask (wipV_is xs (wpK0 xs k4)) hpb.1 hpb.2
    change validP (maskI (wpA xs k4) (wpN xs k4)) (wpN xs k4) = true at hpv
    generalize maskI (wpA xs k4) (wpN xs k4) = sip at *
    generalize wpN xs k4 = sn at *
    generalize wpK xs k4 = k5 at *
    have hd2 : IsDv ⟨mip, n, sip, sn, e⟩ := ⟨hmi, hpi⟩
    have g0 := dv_all hd2
    refine sD F (o_fieldAddr (F.ev rfl) ?_); clear F a; intro a F
    (refine stepN rfl F (o_storeA M (F.ev rfl) (F.ev rfl) (pfC_len hpi.len sn) (one_pf _ _)  (by repeat constructor)  (dv_put_src hd hpi sn) (by repeat constructor) ?_); clear F M; intro w M a F)
    replace M : Mem [bt] W w [(b3, .cells (dvC ⟨mip, n, sip, sn, e⟩).toArray 45 (0, 0)), (b6, _), (b2, _), (bt, _)] := M
    with_reducible refine l_nil (q_then (c_seq (c_region ?_)))
    refine sD F (o_loadA M (F.ev rfl) (by repeat constructor) (by first | assumption | rfl) ?_); clear F a; intro a F
    (refine stepN rfl F (o_storeA M (F.ev rfl) (F.ev rfl) (dv_len hd2) (dv_one _)  (by repeat constructor)  (put_all (by rw [dv_len hd2]; rfl)) (by repeat constructor) ?_); clear F M; intro w M a F)
    with_reducible refine l_nil (q_then (c_ret ?_))
    exact p_ret F rfl (.cons (.cell (F.ev rfl) (run_loadVar_agg TAgg.h (M.heap (by repeat constructor)) g0)) .nil) ⟨_, k5, rfl, hd2, by simp [validT, hvm, hpv]; omega, M.sub (by repeat (first | exact List.Sublist.refl _ | apply List.Sublist.cons))⟩
end Go.Proofs.YtilgoepokaaleaaGreat
/-! YB -/
namespace Go.Proofs.YtilgoepokaaleaaGreat
set_option linter.unusedVariables false
set_option linter.unusedSimpArgs false
open Go.RowKit
attribute [local irreducible] OpTo wpListIn Code.wpIn MW Cal
/-! slices in new memory -/
def SlN (n0 : Nat) (W : World) (sz : Nat) (v : Value) (n : Nat) (cs : List Value) : Prop := SlAt W sz v n cs ∧ NewV n0 v
section
variable {n0 n1 bt sz n : Nat} {W w : World} {v : Value} {cs : List Value}
theorem SlN.mono (h : SlN n1 W sz v n cs) (hle : n0 ≤ n1) : SlN n0 W sz v n cs := ⟨h.1, fun b o s k c e => Nat.le_trans hle (h.2 b o s k c e)⟩
theorem SlN.notIn (h : SlN n0 W sz v n cs) (hbt : bt < n0) : ∀ b o s k c, v = .slice (some ⟨b, o, s⟩) k c → b ∉ [bt] := fun b o s k c e hb => by
  have := h.2 b o s k c e
  simp only [List.mem_singleton] at hb
  omega
theorem SlN.laterB (h : SlN n0 W sz v n cs) (hbt : bt < n0) (E : Ext [bt] W w) : SlN n0 w sz v n cs := ⟨h.1.laterB (h.notIn hbt) E, h.2⟩
theorem SlN.later (h : SlN n0 W sz v n cs) (E : Ext [] W w) : SlN n0 w sz v n cs := ⟨h.1.later E, h.2⟩
theorem SlN.nil (n0 sz : Nat) (W : World) : SlN n0 W sz (.slice none 0 0) 0 [] := ⟨SlAt.nil _ _, NewV.nil _ _ _⟩
theorem OwnS.slN {e : TypeId} {ent : List (Nat × Obj)} (h : OwnS e sz v n cs ent) {S : List Nat} {W0 : World} {l : List (Nat × Obj)} (M : Mem S W0 w l) (hs : ∀ p ∈ ent, p ∈ l) (hS : ∀ p ∈ ent, p.1 ∉ S) : SlN W0.heap.size w sz v n cs := by
  refine ⟨h.slAt M hs, ?_⟩
  rcases h with ⟨rfl, _, _, rfl⟩ | ⟨b, cap, junk, rfl, rfl, _, _, _⟩
  · exact NewV.nil _ _ _
  · intro b' o s n c h
    cases h
    exact (M.own _ (hs _ List.mem_cons_self)).resolve_left (hS _ List.mem_cons_self)
theorem SlAt.mem {q : Option Addr} {cap : Nat} (h : SlAt W sz (.slice q n cap) n cs) : 0 < n → ∃ b o xs t fz, q = some ⟨b, o, none⟩ ∧ W.heap[b]? = some (.cells (List.toArray xs) t fz) ∧ seg xs o (n * sz) = some cs := by
  obtain ⟨p, cap', e, _, _, _, h5⟩ := h
  cases e
  exact h5
theorem nd_not {b : Nat} {o : Obj} {l ent : List (Nat × Obj)} (h : (((b, o) :: l).map (·.1)).Nodup) (hs : ∀ p ∈ ent, p ∈ l) : ∀ p ∈ ent, p.1 ∉ [b] := fun p hp hb => by
  simp only [List.mem_singleton] at hb
  exact (List.nodup_cons.1 h).1 (List.mem_map.2 ⟨p, hs p hp, hb⟩)
end
/-! PutInstalled, plain -/
def putG (x : InsV) : Bool → List InsV → List InsV
  | done, [] => if done then [] else [x]
  | done, y :: l => (if decide (0 ≤ cmpD y.to x.to) && !done then [x] else []) ++ ((if cmpD y.to x.to = 0 then [] else [y]) ++ putG x (done || decide (0 ≤ cmpD y.to x.to)) l)
theorem putG_cons {x y : InsV} {l : List InsV} {done : Bool} : putG x done (y :: l) = (if decide (0 ≤ cmpD y.to x.to) && !done then [x] else []) ++ ((if cmpD y.to x.to = 0 then [] else [y]) ++ putG x (done || decide (0 ≤ cmpD y.to x.to)) l) := by
  conv => lhs; unfold putG
theorem putG_mem {x : InsV} : ∀ {done : Bool} {l : List InsV} {z : InsV}, z ∈ putG x done l → z = x ∨ z ∈ l
  | done, [], z, h => by
    unfold putG at h
    cases done <;> simp_all
  | done, y :: l, z, h => by
    unfold putG at h
    rcases List.mem_append.1 h with h | h
    · split at h
      · exact .inl (by simpa using h)
      · cases h
    · rcases List.mem_append.1 h with h | h
      · split at h
        · cases h
        · exact .inr (by simp at h; simp [h])
      · exact (putG_mem h).imp_right fun h => List.mem_cons_of_mem _ h
theorem putG_len {x : InsV} : ∀ {done : Bool} {l : List InsV}, (putG x done l).length ≤ l.length + (if done then 0 else 1)
  | done, [] => by
    unfold putG
    cases done <;> simp
  | done, y :: l => by
    rw [putG_cons]
    have := putG_len (x := x) (done := done || decide (0 ≤ cmpD y.to x.to)) (l := l)
    generalize decide (0 ≤ cmpD y.to x.to) = g at *
    have h1 : (if cmpD y.to x.to = 0 then [] else [y]).length ≤ 1 := by split <;> simp
    generalize (if cmpD y.to x.to = 0 then [] else [y]) = ys at *
    rw [List.length_append, List.length_append, List.length_cons]
    cases done <;> cases g <;> simp at this ⊢ <;> omega
theorem putG_done {x : InsV} : ∀ {l : List InsV}, (∀ y ∈ l, cmpD x.to y.to < 0) → putG x true l = l
  | [], _ => rfl
  | y :: l, h => by
    have h1 := h y List.mem_cons_self
    have h2 := cmpD_anti x.to y.to
    rw [putG_cons, Bool.true_or, putG_done fun z hz => h z (List.mem_cons_of_mem _ hz), Bool.not_true, Bool.and_false, if_neg Bool.false_ne_true, if_neg (show ¬ cmpD y.to x.to = 0 by omega)]
    rfl
theorem putG_asc {x : InsV} (hx : IsDv x.to) : ∀ {l : List InsV}, AscK InsV.to l → (∀ y ∈ l, IsDv y.to) → AscK InsV.to (putG x false l)
  | [], _, _ => by
    unfold putG
    exact List.pairwise_singleton _ _
  | y :: l, h, hd => by
    obtain ⟨h1, h2⟩ := List.pairwise_cons.1 h
    have ih := putG_asc hx h2 fun z hz => hd z (List.mem_cons_of_mem _ hz)
    have ha := cmpD_anti y.to x.to
    rw [putG_cons]
    rcases Int.lt_trichotomy (cmpD y.to x.to) 0 with hc | hc | hc
    · rw [decide_eq_false (by omega), if_neg (show ¬ cmpD y.to x.to = 0 by omega)]
      simp only [Bool.false_and, Bool.false_or, Bool.false_eq_true, if_false, List.nil_append, List.cons_append]
      refine List.pairwise_cons.2 ⟨fun z hz => ?_, ih⟩
      rcases putG_mem hz with rfl | hz
      · exact hc
      · exact h1 z hz
    · have e := cmpD_zero (hd y List.mem_cons_self) hx hc
      rw [decide_eq_true (by omega), if_pos hc]
      have hl : ∀ z ∈ l, cmpD x.to z.to < 0 := fun z hz => by rw [← e]; exact h1 z hz
      simp only [Bool.not_false, Bool.true_and, if_true, Bool.or_true, List.nil_append, putG_done hl, List.singleton_append]
      exact List.pairwise_cons.2 ⟨hl, h2⟩
    · rw [decide_eq_true (by omega), if_neg (show ¬ cmpD y.to x.to = 0 by omega)]
      have hl : ∀ z ∈ l, cmpD x.to z.to < 0 := fun z hz => cmpD_trans (show cmpD x.to y.to < 0 by omega) (h1 z hz)
      simp only [Bool.not_false, Bool.true_and, if_true, Bool.or_true, putG_done hl, List.singleton_append]
      refine List.pairwise_cons.2 ⟨fun z hz => ?_, h⟩
      rcases List.mem_cons.1 hz with rfl | hz
      · omega
      · exact hl z hz
set_option maxHeartbeats 4000000 in
theorem put_c (l : List InsV) (hl : ∀ x ∈ l, IsIn x) (x : InsV) (hx : IsIn x) (hlen : l.length ≤ 100000) (v : Value) (W : World) (hS : SlAt W 40 v l.length (insC l)) :
    Cal Tryz.prog 54 [v, .agg (inC x).toArray].toArray W fun r w' => ∃ ent, OwnS 50 40 r (putG x false l).length (insC (putG x false l)) ent ∧ Mem [] W w' ent := by
  obtain ⟨q, cap, rfl, hcap, hsp, hll, hm⟩ := hS
  have x1 : (inC x).length = 40 := in_len hx
  have x2 := in_all hx
  have x3 := in_to hx
  have hpl := putG_len (x := x) (done := false) (l := l)
  rw [if_neg (by simp)] at hpl
  refine fn_ofM (n := 45) [] Tryz.func54 rfl rfl rfl ?_
  intro a w F M hwW
  refine c_seq ?_
  refine c_region ?_
  (refine sD F (o_box M (F.ev rfl) rfl ?_); clear F M; intro b3 w M a F)
  refine sD F (o_assign (F.ev rfl) ?_); clear F a; intro a F
  with_reducible refine l_nil (q_then (c_seq (c_region ?_)))
  refine sD F (o_assign (F.ev rfl) ?_); clear F a; intro a F
  with_reducible refine l_nil (q_then (c_seq (c_region ?_)))
  refine sD F (o_assign (F.ev rfl) ?_); clear F a; intro a F
  with_reducible refine l_nil (q_then (c_seq (c_seq (c_region ?_))))
  refine sD F (o_move (F.ev rfl) ?_); clear F a; intro a F
  refine sD F (o_lenSl (F.ev rfl) ?_); clear F a; intro a F
  refine sD F (o_move (F.ev rfl) ?_); clear F a; intro a F
  with_reducible refine l_nil (q_then (c_block ?_))
  obtain ⟨u, hu⟩ : ∃ u, u = Value.slice none 0 0 := ⟨_, rfl⟩
  rw [← hu] at F
  obtain ⟨es, hes⟩ : ∃ es : List (Nat × Obj), es = [] := ⟨_, rfl⟩
  replace M : Mem [] W w ((b3, .cells (inC x).toArray 50 (0, 0)) :: es) := by
    rw [hes]
    exact M
  have hOs : OwnS 50 40 u ([] : List InsV).length (insC []) es := by
    rw [hu, hes]
    exact OwnS.nil _ _
  clear hu hes
  refine c_loop (fun m a w => ∃ (i : Nat) (u : Value) (dn : Bool) (out : List InsV) (es : List (Nat × Obj)), m = l.length - i ∧ i ≤ l.length ∧ out ++ putG x dn (l.drop i) = putG x false l ∧ OwnS 50 40 u out.length (insC out) es ∧ Frm a 45 [] [(12, .int .i64 i), (11, .int .i64 l.length), (10, .slice q l.length cap), (5, u), (6, .bool dn), (3, .pointer (some ⟨b3, 0, none⟩))] ∧ Mem [] W w ((b3, .cells (inC x).toArray 50 (0, 0)) :: es)) l.length ⟨0, u, false, [], es, rfl, by omega, rfl, hOs, F.only [12, 11, 10, 5, 6, 3] rfl, M⟩ ?_
  clear F M a w hOs u es
  rintro m a w ⟨i, u, dn, out, es, hm', hi, hout, hOs, F, M⟩
  have hol : out.length ≤ 100001 := by
    have := congrArg List.length hout
    rw [List.length_append] at this
    omega
  by_cases hlt : i < l.length
  · obtain ⟨b, o, cs, t, fz, rfl, hb, hs⟩ := hm (by omega)
    obtain ⟨y, hy0⟩ : ∃ y, y = l[i] := ⟨_, rfl⟩
    have hyi : IsIn y := by rw [hy0]; exact hl _ (List.getElem_mem hlt)
    have f1 : seg cs (o + (i : Int).toNat * 40) 40 = some (inC y) := by rw [hy0]; exact seg_el (ins_len hl) hs hlt (by omega)
    rw [← List.getElem_cons_drop hlt, ← hy0, putG_cons] at hout
    have f2 : (inC y).length = 40 := in_len hyi
    have f3 := in_to hyi
    have f4 := in_all hyi
    refine c_seq (c_region ?_)
    refine sD F (o_lssT (F.ev rfl) (F.ev rfl) (by omega) ?_); clear F a; intro a F
    with_reducible refine l_nil (q_then (c_seq ?_))
    refine c_true F rfl rfl ?_
    with_reducible refine c_skip (q_then (c_seq (c_block (c_seq (c_region ?_)))))
    refine sD F (o_indexSl (F.ev rfl) (F.ev rfl) (by omega) (by omega) ?_); clear F a; intro a F
    refine sD F (o_loadWA M (F.ev rfl) (by assumption) (by first | assumption | rfl) ?_); clear F a; intro a F
    (refine sD F (o_alloc M ?_); clear F M; intro b8 w M a F)
    skip
    (refine stepN rfl F (o_storeA M (F.ev rfl) (F.ev rfl) (f2) (in_one y)  (by repeat constructor)  (put_all (by rw [f2]; rfl)) (by repeat constructor) ?_); clear F M; intro w M a F)
    with_reducible refine l_nil (q_then (c_seq (c_region ?_)))
    refine sD F (o_fieldAddr (F.ev rfl) ?_); clear F a; intro a F
    refine sD F (o_loadA M (F.ev rfl) (by repeat constructor) (by first | assumption | rfl) ?_); clear F a; intro a F
    refine sD F (o_fieldAddr (F.ev rfl) ?_); clear F a; intro a F
    refine sD F (o_loadA M (F.ev rfl) (by repeat constructor) (by first | assumption | rfl) ?_); clear F a; intro a F
    (refine sD F (o_call (F.ev rfl) (F.evs rfl) (Cal.mono (rcompare_c y.to x.to hyi.1 hx.1 _) ?_)); clear F; clear a; rintro _ w ⟨rfl, hE⟩ a F; replace M := M.later hE; clear hE)
    generalize cmpD y.to x.to = cc at *
    refine sD F (o_assign (F.ev rfl) ?_); clear F a; intro a F
    with_reducible refine l_nil ?_
    refine q_then ?_
    refine c_seq ?_
    refine c_cut (fun a w => ∃ (u : Value) (out2 : List InsV) (es : List (Nat × Obj)), out2 = out ++ (if decide (0 ≤ cc) && !dn then [x] else []) ∧ OwnS 50 40 u out2.length (insC out2) es ∧ Frm a 45 [] [(9, .int .i64 cc), (12, .int .i64 i), (11, .int .i64 l.length), (10, .slice (some ⟨b, o, none⟩) l.length cap), (5, u), (6, .bool (dn || decide (0 ≤ cc))), (3, .pointer (some ⟨b3, 0, none⟩)), (8, .pointer (some ⟨b8, 0, none⟩))] ∧ Mem [] W w ((b8, .cells (inC y).toArray 50 (0, 0)) :: (b3, .cells (inC x).toArray 50 (0, 0)) :: es)) ?_ ?_
    · by_cases hc : 0 ≤ cc
      · rw [decide_eq_true hc]
        cases dn
        · refine c_seq ?_
          refine c_region ?_
          refine sD F (o_move (F.ev rfl) ?_); clear F a; intro a F
          refine sD F (o_geqT (F.ev rfl) (F.ev rfl) (by omega) ?_); clear F a; intro a F
          refine sD F (o_move (F.ev rfl) ?_); clear F a; intro a F
          refine sG F (o_move (F.ev rfl) ?_); clear F a; intro a F
          refine sG F (o_not (F.ev rfl) ?_); clear F a; intro a F
          refine sD F (o_pickT (F.ev rfl) (F.ev rfl) ?_); clear F a; intro a F
          with_reducible refine l_nil (q_then ?_)
          refine c_true F rfl rfl ?_
          refine c_seq (c_region ?_)
          refine sD F (o_move (F.ev rfl) ?_); clear F a; intro a F
          refine sD F (o_loadA M (F.ev rfl) (by repeat constructor) (by first | assumption | rfl) ?_); clear F a; intro a F
          (refine sD F (o_buildSlice F M rfl rfl rfl (in_build1 hx) ?_); clear F M; intro bs w M a F)
          (refine sD F (o_append hOs M (.cons (.cons (.cons .here))) (F.ev rfl) (F.ev rfl) (SrcOf.cells' (M.heap .here) (sg_all (by omega)) (in_one _)) (by omega) (by omega) ?_); clear F M; intro v2 es2 w hO2 M a F)
          refine sD F (o_assign (F.ev rfl) ?_); clear F a; intro a F
          with_reducible refine l_nil (q_then (c_region ?_))
          refine sD F (o_assign (F.ev rfl) ?_); clear F a; intro a F
          with_reducible refine l_nil ?_
          exact ⟨v2, _, es2, rfl, by show OwnS _ 40 _ (out ++ [x]).length (encL inC (out ++ [x])) _; rw [show (out ++ [x]).length = out.length + 1 by simp, encL_app, encL_one]; exact hO2, F.only [9, 12, 11, 10, 5, 6, 3, 8] rfl, M.sub (.cons _ (.refl _))⟩
        · refine c_seq ?_
          refine c_region ?_
          refine sD F (o_move (F.ev rfl) ?_); clear F a; intro a F
          refine sD F (o_geqT (F.ev rfl) (F.ev rfl) (by omega) ?_); clear F a; intro a F
          refine sD F (o_move (F.ev rfl) ?_); clear F a; intro a F
          refine sG F (o_move (F.ev rfl) ?_); clear F a; intro a F
          refine sG F (o_not (F.ev rfl) ?_); clear F a; intro a F
          refine sD F (o_pickT (F.ev rfl) (F.ev rfl) ?_); clear F a; intro a F
          with_reducible refine l_nil (q_then ?_)
          refine c_false F rfl rfl ?_
          with_reducible refine c_skip ?_
          exact ⟨u, _, es, rfl, by rw [if_neg (by simp), List.append_nil]; exact hOs, F.only [9, 12, 11, 10, 5, 6, 3, 8] rfl, M⟩
      · rw [decide_eq_false hc]
        refine c_seq (c_region ?_)
        refine sD F (o_move (F.ev rfl) ?_); clear F a; intro a F
        refine sD F (o_geqF (F.ev rfl) (F.ev rfl) (by omega) ?_); clear F a; intro a F
        refine sD F (o_move (F.ev rfl) ?_); clear F a; intro a F
        refine sO F ?_; clear F a; intro a F
        refine sO F ?_; clear F a; intro a F
        refine sD F (o_pickF (F.ev rfl) (F.ev rfl) ?_); clear F a; intro a F
        with_reducible refine l_nil (q_then ?_)
        refine c_false F rfl rfl ?_
        with_reducible refine c_skip ?_
        exact ⟨u, _, es, rfl, by rw [if_neg (by simp), List.append_nil]; exact hOs, by rw [Bool.or_false]; exact F.only [9, 12, 11, 10, 5, 6, 3, 8] rfl, M⟩
    clear F M a w hOs u es
    rintro a w ⟨u, out2, es, hout2, hOs, F, M⟩
    rw [← List.append_assoc, ← hout2] at hout
    have hol2 : out2.length ≤ 100001 := by
      have := congrArg List.length hout
      rw [List.length_append] at this
      omega
    generalize (dn || decide (0 ≤ cc)) = dn2 at *
    by_cases hc : cc = 0
    · rw [if_pos hc, List.nil_append] at hout
      with_reducible refine q_then (c_seq (c_region ?_))
      refine sD F (o_move (F.ev rfl) ?_); clear F a; intro a F
      refine sD F (o_neqF (F.ev rfl) (F.ev rfl) (by omega) ?_); clear F a; intro a F
      with_reducible refine l_nil (q_then ?_)
      refine c_false F rfl rfl ?_
      with_reducible refine c_skip (q_inB (q_then (c_region ?_)))
      refine sD F (o_add (F.ev rfl) (F.ev rfl) (w_i64 (by omega) (by omega)) ?_); clear F a; intro a F
      refine sD F (o_move (F.ev rfl) ?_); clear F a; intro a F
      with_reducible refine l_nil (q_then ?_)
      exact ⟨_, by omega, i + 1, u, dn2, out2, es, rfl, by omega, hout, hOs, F.only [12, 11, 10, 5, 6, 3] rfl, M.sub (.cons _ (.refl _))⟩
    · rw [if_neg hc, ← List.append_assoc] at hout
      with_reducible refine q_then (c_seq (c_region ?_))
      refine sD F (o_move (F.ev rfl) ?_); clear F a; intro a F
      refine sD F (o_neqT (F.ev rfl) (F.ev rfl) (by omega) ?_); clear F a; intro a F
      with_reducible refine l_nil (q_then ?_)
      refine c_true F rfl rfl ?_
      refine c_region ?_
      refine sD F (o_move (F.ev rfl) ?_); clear F a; intro a F
      refine sD F (o_loadA M (F.ev rfl) (by repeat constructor) (by first | assumption | rfl) ?_); clear F a; intro a F
      (refine sD F (o_buildSlice F M rfl rfl rfl (in_build1 hyi) ?_); clear F M; intro bs w M a F)
      (refine sD F (o_append hOs M (.cons (.cons (.cons .here))) (F.ev rfl) (F.ev rfl) (SrcOf.cells' (M.heap .here) (sg_all (by omega)) (in_one _)) (by omega) (by omega) ?_); clear F M; intro v2 es2 w hO2 M a F)
      refine sD F (o_assign (F.ev rfl) ?_); clear F a; intro a F
      with_reducible refine l_nil (q_inB (q_then (c_region ?_)))
      refine sD F (o_add (F.ev rfl) (F.ev rfl) (w_i64 (by omega) (by omega)) ?_); clear F a; intro a F
      refine sD F (o_move (F.ev rfl) ?_); clear F a; intro a F
      with_reducible refine l_nil (q_then ?_)
      exact ⟨_, by omega, i + 1, v2, dn2, out2 ++ [y], es2, rfl, by omega, hout, by show OwnS _ 40 _ (out2 ++ [y]).length (encL inC (out2 ++ [y])) _; rw [show (out2 ++ [y]).length = out2.length + 1 by simp, encL_app, encL_one]; exact hO2, F.only [12, 11, 10, 5, 6, 3] rfl, M.sub (.cons _ (.cons _ (.refl _)))⟩
  · obtain rfl : i = l.length := by omega
    rw [List.drop_length] at hout
    cases dn
    · have hout : out ++ [x] = putG x false l := hout
      rw [← hout]
      refine c_seq (c_region ?_)
      refine sD F (o_lssF (F.ev rfl) (F.ev rfl) (by omega) ?_); clear F a; intro a F
      with_reducible refine l_nil (q_then (c_seq ?_))
      refine c_false F rfl rfl ?_
      with_reducible refine c_exit (q_thenX (q_thenX (q_inBX (q_then (c_seq (c_seq (c_region ?_)))))))
      refine sD F (o_move (F.ev rfl) ?_); clear F a; intro a F
      refine sD F (o_not (F.ev rfl) ?_); clear F a; intro a F
      with_reducible refine l_nil (q_then ?_)
      refine c_true F rfl rfl ?_
      refine c_region ?_
      refine sD F (o_move (F.ev rfl) ?_); clear F a; intro a F
      refine sD F (o_loadA M (F.ev rfl) (by repeat constructor) (by first | assumption | rfl) ?_); clear F a; intro a F
      (refine sD F (o_buildSlice F M rfl rfl rfl (in_build1 hx) ?_); clear F M; intro bs w M a F)
      (refine sD F (o_append hOs M (.cons (.cons .here)) (F.ev rfl) (F.ev rfl) (SrcOf.cells' (M.heap .here) (sg_all (by omega)) (in_one _)) (by omega) (by omega) ?_); clear F M; intro v2 es2 w hO2 M a F)
      refine sD F (o_assign (F.ev rfl) ?_); clear F a; intro a F
      with_reducible refine l_nil (q_then (c_seq (c_region ?_)))
      refine sD F (o_move (F.ev rfl) ?_); clear F a; intro a F
      refine sD F (o_assign (F.ev rfl) ?_); clear F a; intro a F
      with_reducible refine l_nil (q_then (c_ret ?_))
      refine p_ret F rfl (.cons (.tmp (F.ev rfl)) .nil) ?_
      exact ⟨es2, by show OwnS _ 40 _ (out ++ [x]).length (encL inC (out ++ [x])) _; rw [show (out ++ [x]).length = out.length + 1 by simp, encL_app, encL_one]; exact hO2, M.sub (.cons _ (.cons _ (.refl _)))⟩
    · have hout : out ++ [] = putG x false l := hout
      rw [List.append_nil] at hout
      rw [← hout]
      refine c_seq (c_region ?_)
      refine sD F (o_lssF (F.ev rfl) (F.ev rfl) (by omega) ?_); clear F a; intro a F
      with_reducible refine l_nil (q_then (c_seq ?_))
      refine c_false F rfl rfl ?_
      with_reducible refine c_exit (q_thenX (q_thenX (q_inBX (q_then (c_seq (c_seq (c_region ?_)))))))
      refine sD F (o_move (F.ev rfl) ?_); clear F a; intro a F
      refine sD F (o_not (F.ev rfl) ?_); clear F a; intro a F
      with_reducible refine l_nil (q_then ?_)
      refine c_false F rfl rfl ?_
      with_reducible refine c_skip (q_then (c_seq (c_region ?_)))
      refine sD F (o_move (F.ev rfl) ?_); clear F a; intro a F
      refine sD F (o_assign (F.ev rfl) ?_); clear F a; intro a F
      with_reducible refine l_nil (q_then (c_ret ?_))
      refine p_ret F rfl (.cons (.tmp (F.ev rfl)) .nil) ?_
      exact ⟨es, hOs, M.sub (.cons _ (.refl _))⟩
end Go.Proofs.YtilgoepokaaleaaGreat
/-! YC -/
namespace Go.Proofs.YtilgoepokaaleaaGreat
set_option linter.unusedVariables false
set_option linter.unusedSimpArgs false
open Go.RowKit
attribute [local irreducible] OpTo wpListIn Code.wpIn MW Cal
theorem validM_of {m : Int} (h : 0 ≤ m ∧ m ≤ 65534) : validM m = true := by
  unfold validM
  rw [decide_eq_true h.1, decide_eq_true (by omega)]
  rfl
end Go.Proofs.YtilgoepokaaleaaGreat
/-! ZK -/
namespace Go.Proofs.YtilgoepokaaleaaGreat
set_option linter.unusedVariables false
set_option linter.unusedSimpArgs false
open Go.RowKit
attribute [local irreducible] OpTo wpListIn Code.wpIn MW Cal
def OkR (x : InsV) : Prop := IsIn x ∧ ins1 x = true
structure InsR (n0 : Nat) (W : World) (v : Value) (l : List InsV) : Prop where
  at_ : SlN n0 W 40 v l.length (insC l)
  ok : ∀ x ∈ l, OkR x
  asc : AscK InsV.to l
theorem okR_held {d : DstV} (hd : IsDv d) (hv : validT d = true) {o : DisV} {z : Int} (hz : isTime z = true) : OkR ⟨d, 0, { o with met := 65535 }, -1, z⟩ := by
  refine ⟨⟨hd, trivial⟩, ?_⟩
  unfold ins1 inf
  dsimp only
  rw [hv, hz]
  simp
theorem wt_time {xs : List Int} {k : Nat} {now : Int} (h0 : 0 ≤ now) (h1 : now ≤ 1099511627776) : isTime (wtV xs k now) = true := by
  unfold wtV isTime
  simp only [Bool.and_eq_true, decide_eq_true_eq]
  repeat' split
  all_goals omega
end Go.Proofs.YtilgoepokaaleaaGreat
/-! ZS -/
namespace Go.Proofs.YtilgoepokaaleaaGreat
set_option linter.unusedVariables false
set_option linter.unusedSimpArgs false
open Go.RowKit
attribute [local irreducible] OpTo wpListIn Code.wpIn MW Cal
theorem time_bd {t : Int} (h : isTime t = true) : 0 ≤ t ∧ t ≤ 1099511627776 := by
  simpa [isTime, Bool.and_eq_true, decide_eq_true_eq] using h
theorem later_time {a d : Int} (h : isTime a = true) (hd : 0 ≤ d) : isTime (laterV a d) = true := by
  have := time_bd h
  unfold laterV isTime
  simp only [Bool.and_eq_true, decide_eq_true_eq]
  split <;> omega
theorem learn_valid {l : List RouV} {now : Int} {t : DstV} {nb : Int} {d : DisV} (h : (learnV l now t nb d).2 = 0) : validRs (learnV l now t nb d).1 = true := by
  unfold learnV at h ⊢
  split at h
  · cases h
  · rename_i h1
    rw [if_neg h1]
    simp only [Bool.or_eq_true, Bool.not_eq_true', decide_eq_true_eq, not_or, Bool.not_eq_false] at h1
    obtain ⟨⟨⟨h1, h2⟩, h3⟩, h4⟩ := h1
    split at h
    · cases h
    · rename_i h5
      rw [if_neg h5]
      simp only [Bool.not_eq_true', Bool.not_eq_false] at h5
      split at h
      · cases h
      · rename_i h6
        rw [if_neg h6]
        obtain ⟨g1, g2, g3⟩ := validRs_iff.1 h1
        refine validRs_iff.2 ⟨by dsimp only; omega, fun a ha => ?_, asc_putR g3⟩
        rcases mem_putR.1 ha with ⟨k1, rfl⟩ | ⟨k1, _⟩
        · unfold rou1 finD
          dsimp only
          rw [h2, h3, k1, decide_eq_false h4, later_time h5 (by omega)]
          rfl
        · exact g2 a k1
theorem learn_is {l : List RouV} {now : Int} {t : DstV} {nb : Int} {d : DisV} (hx : ∀ x ∈ l, IsRo x) (ht : IsDv t) : ∀ x ∈ (learnV l now t nb d).1, IsRo x := by
  intro x h
  unfold learnV at h
  split at h
  · cases h
  · split at h
    · cases h
    · split at h
      · cases h
      · rcases mem_putR.1 h with ⟨_, rfl⟩ | ⟨k1, _⟩
        · exact ⟨ht, trivial⟩
        · exact hx x k1
theorem learn_len {l : List RouV} {now : Int} {t : DstV} {nb : Int} {d : DisV} : (learnV l now t nb d).1.length ≤ l.length + 1 := by
  unfold learnV
  split
  · simp
  · rename_i h1
    split
    · simp
    · split
      · simp
      · simp only [Bool.or_eq_true, Bool.not_eq_true', decide_eq_true_eq, not_or, Bool.not_eq_false] at h1
        dsimp only
        rw [← putR_merge (validRs_iff.1 h1.1.1.1).2.2]
        have := mergeG_len (fun y => cmpR y ⟨t, nb, d, laterV now 10⟩) ⟨t, nb, d, laterV now 10⟩ (done := decide (d.met = inf)) (l := l)
        split at this <;> omega
theorem putS_mem {l : List SrcV} {x y : SrcV} (h : y ∈ putS l x) : y = x ∨ y ∈ l := by
  unfold putS at h
  simp only [List.mem_append, List.mem_filter, List.mem_singleton] at h
  rcases h with h | h | h
  · exact .inr h.1
  · exact .inl h
  · exact .inr h.1
theorem asc_putS {l : List SrcV} {x : SrcV} (h : AscC cmpS l) : AscC cmpS (putS l x) := by
  unfold putS
  refine List.pairwise_append.2 ⟨h.filter _, List.pairwise_append.2 ⟨List.pairwise_singleton _ _, h.filter _, fun a ha b hb => ?_⟩, fun a ha b hb => ?_⟩
  · simp only [List.mem_singleton, List.mem_filter, decide_eq_true_eq] at ha hb
    subst ha
    have := cmpD_anti b.to a.to
    show cmpD a.to b.to < 0
    omega
  · simp only [List.mem_append, List.mem_singleton, List.mem_filter, decide_eq_true_eq] at ha hb
    rcases hb with rfl | ⟨_, hb⟩
    · exact ha.2
    · have := cmpD_anti b.to x.to
      exact cmpD_trans ha.2 (by omega)
theorem best_fin {l : List SrcV} (hval : validSs l = true) {now : Int} {t : DstV} {b : DisV} (h : bestS l now t = some b) : finD b = true := by
  rw [bestS_is, Option.map_eq_some_iff] at h
  obtain ⟨x, h1, rfl⟩ := h
  have h2 := (validSs_iff.1 hval).2.1 x (List.mem_of_find?_eq_some h1)
  simp only [src1, Bool.and_eq_true] at h2
  exact h2.1.2
theorem record_valid {l : List SrcV} {now : Int} {t : DstV} {d : DisV} (h : (recordV l now t d).2 = 0) : validSs (recordV l now t d).1 = true := by
  unfold recordV at h ⊢
  split at h
  · cases h
  · rename_i h1
    rw [if_neg h1]
    simp only [Bool.or_eq_true, Bool.not_eq_true', decide_eq_true_eq, not_or, Bool.not_eq_false] at h1
    obtain ⟨⟨⟨h1, h2⟩, h3⟩, h4⟩ := h1
    split at h
    · cases h
    · rename_i h5
      rw [if_neg h5]
      simp only [Bool.not_eq_true', Bool.not_eq_false] at h5
      split at h
      · cases h
      · rename_i h6
        rw [if_neg h6]
        obtain ⟨g1, g2, g3⟩ := validSs_iff.1 h1
        refine validSs_iff.2 ⟨by dsimp only; omega, fun a ha => ?_, asc_putS g3⟩
        rcases putS_mem ha with rfl | k1
        · have hf : finD d = true := by
            unfold finD
            rw [h3]
            simp [inf, h4]
          have hb : finD (newS l now t d).bst = true := by
            unfold newS
            dsimp only
            cases hb : bestS l now t with
            | none => exact hf
            | some b =>
              dsimp only
              unfold lowQ
              split
              · exact hf
              · exact best_fin h1 hb
          unfold src1
          rw [hb, show (newS l now t d).to = t from rfl, show (newS l now t d).til = laterV now 20 from rfl, h2, later_time h5 (by omega)]
          rfl
        · exact g2 a k1
theorem record_is {l : List SrcV} {now : Int} {t : DstV} {d : DisV} (hx : ∀ x ∈ l, IsSr x) (ht : IsDv t) : ∀ x ∈ (recordV l now t d).1, IsSr x := by
  intro x h
  unfold recordV at h
  split at h
  · cases h
  · split at h
    · cases h
    · split at h
      · cases h
      · rcases putS_mem h with rfl | k1
        · exact ⟨ht, trivial⟩
        · exact hx x k1
theorem OwnS.slJ {e : TypeId} {sz n n0 bt : Nat} {v : Value} {cs : List Value} {ent : List (Nat × Obj)} {wb w : World} {o : Obj} (h : OwnS e sz v n cs ent) (M : Mem [bt] wb w (ent ++ [(bt, o)])) (hle : n0 ≤ wb.heap.size) : SlN n0 w sz v n cs := by
  have hnd := (M.perm (l' := (bt, o) :: ent) List.perm_append_comm).nd
  exact (h.slN M (fun q hq => by simp [hq]) (nd_not hnd (fun q hq => hq))).mono hle
theorem wtimeE_c {bt : Nat} {p : Option Addr} {len cap k : Nat} {xs : List Int} (base : Int) (h0 : 0 ≤ base) (h1 : base ≤ 1099511627776) (W : World) (hT : TapeS W bt p len xs) (hb : W.heap[bt]? = some (tobj p len cap k)) :
    Cal Tryz.prog 14 [.pointer (some ⟨bt, 0, none⟩), .int .i64 base].toArray W fun v w' => ∃ x k', v = .int .i64 x ∧ isTime x = true ∧ Mem [bt] W w' [(bt, tobj p len cap k')] :=
  Cal.mono (wtime_c base h0 h1 W hT hb) fun _ _ h => ⟨_, _, h.1, wt_time h0 h1, h.2⟩
structure RouO (n0 : Nat) (W : World) (v : Value) (l : List RouV) : Prop where
  at_ : SlN n0 W 39 v l.length (rosC l)
  is : ∀ x ∈ l, IsRo x
  val : validRs l = true
structure SrcO (n0 : Nat) (W : World) (v : Value) (l : List SrcV) : Prop where
  at_ : SlN n0 W 38 v l.length (srsC l)
  is : ∀ x ∈ l, IsSr x
  val : validSs l = true
structure OptO (n0 : Nat) (W : World) (v : Value) (l : List OptV) : Prop where
  at_ : SlN n0 W 2 v l.length (opsC l)
  val : validOs l = true
theorem RouO.laterB {n0 bt : Nat} {W w : World} {v : Value} {l : List RouV} (h : RouO n0 W v l) (hb : bt < n0) (E : Ext [bt] W w) : RouO n0 w v l := ⟨h.at_.laterB hb E, h.is, h.val⟩
theorem SrcO.laterB {n0 bt : Nat} {W w : World} {v : Value} {l : List SrcV} (h : SrcO n0 W v l) (hb : bt < n0) (E : Ext [bt] W w) : SrcO n0 w v l := ⟨h.at_.laterB hb E, h.is, h.val⟩
theorem OptO.laterB {n0 bt : Nat} {W w : World} {v : Value} {l : List OptV} (h : OptO n0 W v l) (hb : bt < n0) (E : Ext [bt] W w) : OptO n0 w v l := ⟨h.at_.laterB hb E, h.val⟩
set_option maxHeartbeats 4000000 in
theorem routesW_c {bt : Nat} {p : Option Addr} {len cap k : Nat} {xs : List Int} (now : Int) (h0 : 0 ≤ now) (h1 : now ≤ 1099511627776) (W : World) (hT : TapeS W bt p len xs) (hb : W.heap[bt]? = some (tobj p len cap k)) :
    Cal Tryz.prog 11 [.pointer (some ⟨bt, 0, none⟩), .int .i64 now].toArray W fun r w' => ∃ l k', RouO W.heap.size w' r l ∧ l.length ≤ 9 ∧ Mem [bt] W w' [(bt, tobj p len cap k')] := by
  have hbt : bt < W.heap.size := (Array.getElem?_eq_some_iff.1 hb).1
  refine fn_ofM (n := 33) [bt] Tryz.func11 rfl rfl rfl ?_
  intro a w F M hwW
  replace M := M.came hwW hb (by simp) (by simp)
  refine c_seq (c_region ?_)
  refine sD F (o_assign (F.ev rfl) ?_); clear F a; intro a F
  with_reducible refine l_nil (q_then (c_seq (c_region ?_)))
  refine sD F (o_assign (F.ev rfl) ?_); clear F a; intro a F
  with_reducible refine l_nil (q_then (c_seq (c_seq (c_region ?_))))
  refine sD F (o_move (F.ev rfl) ?_); clear F a; intro a F
  refine sD F (o_call (F.ev rfl) (F.evs rfl) (Cal.mono (nextE_c _ (by first | assumption | omega | exact And.left (by assumption) | exact (by assumption : SlAt _ _ _ _ _).later M.ext | exact TapeS.later (by assumption) M.ext | exact (SlN.laterB (by assumption) (by omega) M.ext).1 | exact M.heap (by repeat constructor) | decide) (by first | assumption | omega | exact And.left (by assumption) | exact (by assumption : SlAt _ _ _ _ _).later M.ext | exact TapeS.later (by assumption) M.ext | exact (SlN.laterB (by assumption) (by omega) M.ext).1 | exact M.heap (by repeat constructor) | decide) _ (by first | assumption | omega | exact And.left (by assumption) | exact (by assumption : SlAt _ _ _ _ _).later M.ext | exact TapeS.later (by assumption) M.ext | exact (SlN.laterB (by assumption) (by omega) M.ext).1 | exact M.heap (by repeat constructor) | decide) (by first | assumption | omega | exact And.left (by assumption) | exact (by assumption : SlAt _ _ _ _ _).later M.ext | exact TapeS.later (by assumption) M.ext | exact (SlN.laterB (by assumption) (by omega) M.ext).1 | exact M.heap (by repeat constructor) | decide)) ?_)); clear F; clear a; have M0 := M; have zb10 := M0.ext.size; clear M; rintro _ w ⟨x10, k'10, rfl, p10_1, N⟩ a F; replace M := M0.turn1 N (by repeat constructor); clear M0 N
  refine sD F (o_assign (F.ev rfl) ?_); clear F a; intro a F
  with_reducible refine l_nil (q_then (c_block ?_))
  obtain ⟨c0, rfl⟩ := Int.eq_ofNat_of_zero_le p10_1.1
  refine c_loop (fun m a w => ∃ (c : Nat) (x : Int) (l : List RouV) (v : Value) (k : Nat), m = c ∧ x = c ∧ RouO W.heap.size w v l ∧ l.length + c ≤ 9 ∧ Frm a 33 [] [(6, .int .i64 x), (5, v), (0, .pointer (some ⟨bt, 0, none⟩)), (1, .int .i64 now)] ∧ Mem [bt] W w [(bt, tobj p len cap k)]) c0 ⟨c0, _, [], _, _, rfl, rfl, ⟨SlN.nil _ _ _, by simp, rfl⟩, by simp; omega, F.only [6, 5, 0, 1] rfl, M⟩ ?_
  clear F M a w
  rintro m a w ⟨c, x, l, v, k, hm, hxc, hO, hc9, F, M⟩
  by_cases hlt : 0 < c
  · have E0 := M.ext
    obtain ⟨wb, hwb, M⟩ : ∃ wb, wb = w ∧ Mem [bt] wb w [(bt, tobj p len cap k)] := ⟨w, rfl, M.re (by simp)⟩
    rw [← hwb] at E0 hO
    clear hwb
    have hTw := hT.later E0
    have hOa := hO.at_
    have hOi := hO.is
    with_reducible refine c_seq (c_seq (c_region ?_))
    refine sD F (o_move (F.ev rfl) ?_); clear F a; intro a F
    refine sD F (o_gtrT (F.ev rfl) (F.ev rfl) (by omega) ?_); clear F a; intro a F
    with_reducible refine l_nil (q_then ?_)
    refine c_true F rfl rfl ?_
    with_reducible refine c_skip (q_then (c_seq (c_block (c_seq (c_region ?_)))))
    refine sD F (o_move (F.ev rfl) ?_); clear F a; intro a F
    refine sD F (o_move (F.ev rfl) ?_); clear F a; intro a F
    refine sD F (o_move (F.ev rfl) ?_); clear F a; intro a F
    refine sD F (o_call (F.ev rfl) (F.evs rfl) (Cal.mono (wtimeE_c _ (by first | assumption | omega | exact And.left (by assumption) | exact (by assumption : SlAt _ _ _ _ _).later M.ext | exact TapeS.later (by assumption) M.ext | exact (SlN.laterB (by assumption) (by omega) M.ext).1 | exact M.heap (by repeat constructor) | decide) (by first | assumption | omega | exact And.left (by assumption) | exact (by assumption : SlAt _ _ _ _ _).later M.ext | exact TapeS.later (by assumption) M.ext | exact (SlN.laterB (by assumption) (by omega) M.ext).1 | exact M.heap (by repeat constructor) | decide) _ (by first | assumption | omega | exact And.left (by assumption) | exact (by assumption : SlAt _ _ _ _ _).later M.ext | exact TapeS.later (by assumption) M.ext | exact (SlN.laterB (by assumption) (by omega) M.ext).1 | exact M.heap (by repeat constructor) | decide) (by first | assumption | omega | exact And.left (by assumption) | exact (by assumption : SlAt _ _ _ _ _).later M.ext | exact TapeS.later (by assumption) M.ext | exact (SlN.laterB (by assumption) (by omega) M.ext).1 | exact M.heap (by repeat constructor) | decide)) ?_)); clear F; clear a; have M0 := M; have zb19 := M0.ext.size; clear M; rintro _ w ⟨x19, k'19, rfl, p19_1, N⟩ a F; replace M := M0.turn1 N (by repeat constructor); clear M0 N
    refine sD F (o_move (F.ev rfl) ?_); clear F a; intro a F
    refine sD F (o_call (F.ev rfl) (F.evs rfl) (Cal.mono (toE_c _ (by first | assumption | omega | exact And.left (by assumption) | exact (by assumption : SlAt _ _ _ _ _).later M.ext | exact TapeS.later (by assumption) M.ext | exact (SlN.laterB (by assumption) (by omega) M.ext).1 | exact M.heap (by repeat constructor) | decide) (by first | assumption | omega | exact And.left (by assumption) | exact (by assumption : SlAt _ _ _ _ _).later M.ext | exact TapeS.later (by assumption) M.ext | exact (SlN.laterB (by assumption) (by omega) M.ext).1 | exact M.heap (by repeat constructor) | decide)) ?_)); clear F; clear a; have M0 := M; have zb21 := M0.ext.size; clear M; rintro _ w ⟨x21, k'21, rfl, p21_1, p21_2, N⟩ a F; replace M := M0.turn1 N (by repeat constructor); clear M0 N
    refine sD F (o_move (F.ev rfl) ?_); clear F a; intro a F
    refine sD F (o_call (F.ev rfl) (F.evs rfl) (Cal.mono (eui_c _ (by first | assumption | omega | exact And.left (by assumption) | exact (by assumption : SlAt _ _ _ _ _).later M.ext | exact TapeS.later (by assumption) M.ext | exact (SlN.laterB (by assumption) (by omega) M.ext).1 | exact M.heap (by repeat constructor) | decide) (by first | assumption | omega | exact And.left (by assumption) | exact (by assumption : SlAt _ _ _ _ _).later M.ext | exact TapeS.later (by assumption) M.ext | exact (SlN.laterB (by assumption) (by omega) M.ext).1 | exact M.heap (by repeat constructor) | decide)) ?_)); clear F; clear a; have M0 := M; have zb23 := M0.ext.size; clear M; rintro _ w ⟨x23, k'23, rfl, p23_1, N⟩ a F; replace M := M0.turn1 N (by repeat constructor); clear M0 N
    refine sD F (o_move (F.ev rfl) ?_); clear F a; intro a F
    refine sD F (o_call (F.ev rfl) (F.evs rfl) (Cal.mono (distE_c _ (by first | assumption | omega | exact And.left (by assumption) | exact (by assumption : SlAt _ _ _ _ _).later M.ext | exact TapeS.later (by assumption) M.ext | exact (SlN.laterB (by assumption) (by omega) M.ext).1 | exact M.heap (by repeat constructor) | decide) (by first | assumption | omega | exact And.left (by assumption) | exact (by assumption : SlAt _ _ _ _ _).later M.ext | exact TapeS.later (by assumption) M.ext | exact (SlN.laterB (by assumption) (by omega) M.ext).1 | exact M.heap (by repeat constructor) | decide)) ?_)); clear F; clear a; have M0 := M; have zb25 := M0.ext.size; clear M; rintro _ w ⟨x25, k'25, rfl, p25_1, N⟩ a F; replace M := M0.turn1 N (by repeat constructor); clear M0 N
    refine sD F (o_call (F.ev rfl) (F.evs rfl) (Cal.mono (rlearn_c _ (by first | assumption | omega | exact And.left (by assumption) | exact (by assumption : SlAt _ _ _ _ _).later M.ext | exact TapeS.later (by assumption) M.ext | exact (SlN.laterB (by assumption) (by omega) M.ext).1 | exact M.heap (by repeat constructor) | decide) _ _ _ (by first | assumption | omega | exact And.left (by assumption) | exact (by assumption : SlAt _ _ _ _ _).later M.ext | exact TapeS.later (by assumption) M.ext | exact (SlN.laterB (by assumption) (by omega) M.ext).1 | exact M.heap (by repeat constructor) | decide) _ _ _ (by first | assumption | omega | exact And.left (by assumption) | exact (by assumption : SlAt _ _ _ _ _).later M.ext | exact TapeS.later (by assumption) M.ext | exact (SlN.laterB (by assumption) (by omega) M.ext).1 | exact M.heap (by repeat constructor) | decide)) ?_)); clear F; clear a; rintro _ w ⟨u26, ent26, rfl, p26_1, N⟩ a F; replace M := M.joins N; clear N
    refine sD F (o_move (F.ev rfl) ?_); clear F a; intro a F
    refine sD F (o_extract (F.ev rfl) rfl ?_); clear F a; intro a F
    refine sD F (o_extract (F.ev rfl) rfl ?_); clear F a; intro a F
    refine sD F (o_assign (F.ev rfl) ?_); clear F a; intro a F
    refine sD F (o_assign (F.ev rfl) ?_); clear F a; intro a F
    with_reducible refine l_nil (q_then (c_seq (c_region ?_)))
    refine sD F (o_move (F.ev rfl) ?_); clear F a; intro a F
    refine sD F (o_eql (F.ev rfl) (F.ev rfl) ?_); clear F a; intro a F
    with_reducible refine l_nil (q_then ?_)
    refine c_if F rfl (fun h1 => ?_) (fun h1 => ?_)
    · skip
      rw [h1] at F; replace h1 := of_decide_eq_true h1
      refine c_region ?_
      refine sD F (o_move (F.ev rfl) ?_); clear F a; intro a F
      refine sD F (o_assign (F.ev rfl) ?_); clear F a; intro a F
      with_reducible refine l_nil (q_inB (q_then (c_region ?_)))
      refine sD F (o_move (F.ev rfl) ?_); clear F a; intro a F
      refine sD F (o_sub (F.ev rfl) (F.ev rfl) (w_i64 (by omega) (by omega)) ?_); clear F a; intro a F
      refine sD F (o_assign (F.ev rfl) ?_); clear F a; intro a F
      with_reducible refine l_nil (q_then ?_)
      exact ⟨c - 1, by omega, c - 1, _, _, _, _, rfl, by omega, ⟨OwnS.slJ (by assumption) M E0.size, learn_is hOi (by assumption), learn_valid (by assumption)⟩, Nat.le_trans (Nat.add_le_add_right learn_len _) (by omega), F.only [6, 5, 0, 1] rfl, (M.sub (List.sublist_append_right _ _)).un E0⟩
    · skip
      rw [h1] at F; replace h1 := of_decide_eq_false h1
      with_reducible refine c_skip (q_inB (q_then (c_region ?_)))
      refine sD F (o_move (F.ev rfl) ?_); clear F a; intro a F
      refine sD F (o_sub (F.ev rfl) (F.ev rfl) (w_i64 (by omega) (by omega)) ?_); clear F a; intro a F
      refine sD F (o_assign (F.ev rfl) ?_); clear F a; intro a F
      with_reducible refine l_nil (q_then ?_)
      exact ⟨c - 1, by omega, c - 1, _, _, _, _, rfl, by omega, hO.laterB hbt M.ext, by omega, F.only [6, 5, 0, 1] rfl, (M.sub (List.sublist_append_right _ _)).un E0⟩
  · refine c_seq ?_
    refine c_seq (c_region ?_)
    refine sD F (o_move (F.ev rfl) ?_); clear F a; intro a F
    refine sD F (o_gtrF (F.ev rfl) (F.ev rfl) (by omega) ?_); clear F a; intro a F
    with_reducible refine l_nil (q_then ?_)
    refine c_false F rfl rfl ?_
    with_reducible refine c_exit (q_thenX (q_thenX (q_inBX (q_then (c_seq (c_region ?_))))))
    refine sD F (o_move (F.ev rfl) ?_); clear F a; intro a F
    refine sD F (o_assign (F.ev rfl) ?_); clear F a; intro a F
    with_reducible refine l_nil (q_then (c_ret ?_))
    refine p_ret F rfl (.cons (.tmp (F.ev rfl)) .nil) ?_; (try dsimp only [oneOr])
    exact ⟨_, _, hO, by omega, M⟩
end Go.Proofs.YtilgoepokaaleaaGreat
/-! ZR -/
namespace Go.Proofs.YtilgoepokaaleaaGreat
set_option linter.unusedVariables false
set_option linter.unusedSimpArgs false
open Go.RowKit
theorem op_mk (a b : Int) : putAll [(0, 1), (1, 1)] opZ [(0, [.int .u64 a]), (1, [.int .i64 b])] = some (opC ⟨a, b⟩) := rfl
theorem in_mk4 (t : DstV) (h : IsDv t) (n : Int) (d : DisV) (b : Int) : putAll [(0, 35), (35, 1), (36, 2), (38, 1), (39, 1)] inZ [(0, dvC t), (1, [.int .u64 n]), (2, diC d), (3, [.int .i64 b])] = some (inC ⟨t, n, d, b, 0⟩) := by
  obtain ⟨p1, n1, p2, n2, rt⟩ := t
  obtain ⟨x0, x1, x2, x3, x4, x5, x6, x7, x8, x9, x10, x11, x12, x13, x14, x15, e0⟩ := len16 (show p1.length = 16 from h.1.len)
  obtain ⟨y0, y1, y2, y3, y4, y5, y6, y7, y8, y9, y10, y11, y12, y13, y14, y15, e1⟩ := len16 (show p2.length = 16 from h.2.len)
  subst e0
  subst e1
  rfl
end Go.Proofs.YtilgoepokaaleaaGreat
/-! ZT -/
namespace Go.Proofs.YtilgoepokaaleaaGreat
set_option linter.unusedVariables false
set_option linter.unusedSimpArgs false
open Go.RowKit
attribute [local irreducible] OpTo wpListIn Code.wpIn MW Cal
set_option maxHeartbeats 4000000 in
theorem sourcesW_c {bt : Nat} {p : Option Addr} {len cap k : Nat} {xs : List Int} (now : Int) (h0 : 0 ≤ now) (h1 : now ≤ 1099511627776) (W : World) (hT : TapeS W bt p len xs) (hb : W.heap[bt]? = some (tobj p len cap k)) :
    Cal Tryz.prog 12 [.pointer (some ⟨bt, 0, none⟩), .int .i64 now].toArray W fun r w' => ∃ l k', SrcO W.heap.size w' r l ∧ Mem [bt] W w' [(bt, tobj p len cap k')] := by
  have hbt : bt < W.heap.size := (Array.getElem?_eq_some_iff.1 hb).1
  refine fn_ofM (n := 31) [bt] Tryz.func12 rfl rfl rfl ?_
  intro a w F M hwW
  replace M := M.came hwW hb (by simp) (by simp)
  refine c_seq (c_region ?_)
  refine sD F (o_assign (F.ev rfl) ?_); clear F a; intro a F
  with_reducible refine l_nil (q_then (c_seq (c_region ?_)))
  refine sD F (o_assign (F.ev rfl) ?_); clear F a; intro a F
  with_reducible refine l_nil (q_then (c_seq (c_seq (c_region ?_))))
  refine sD F (o_move (F.ev rfl) ?_); clear F a; intro a F
  refine sD F (o_call (F.ev rfl) (F.evs rfl) (Cal.mono (nextE_c _ (by first | assumption | omega | exact And.left (by assumption) | exact (by assumption : SlAt _ _ _ _ _).later M.ext | exact TapeS.later (by assumption) M.ext | exact (SlN.laterB (by assumption) (by omega) M.ext).1 | exact M.heap (by repeat constructor) | decide) (by first | assumption | omega | exact And.left (by assumption) | exact (by assumption : SlAt _ _ _ _ _).later M.ext | exact TapeS.later (by assumption) M.ext | exact (SlN.laterB (by assumption) (by omega) M.ext).1 | exact M.heap (by repeat constructor) | decide) _ (by first | assumption | omega | exact And.left (by assumption) | exact (by assumption : SlAt _ _ _ _ _).later M.ext | exact TapeS.later (by assumption) M.ext | exact (SlN.laterB (by assumption) (by omega) M.ext).1 | exact M.heap (by repeat constructor) | decide) (by first | assumption | omega | exact And.left (by assumption) | exact (by assumption : SlAt _ _ _ _ _).later M.ext | exact TapeS.later (by assumption) M.ext | exact (SlN.laterB (by assumption) (by omega) M.ext).1 | exact M.heap (by repeat constructor) | decide)) ?_)); clear F; clear a; have M0 := M; clear M; rintro _ w ⟨x10, k'10, rfl, p10_1, N⟩ a F; replace M := M0.turn1 N (by repeat constructor); clear M0 N
  refine sD F (o_assign (F.ev rfl) ?_); clear F a; intro a F
  with_reducible refine l_nil (q_then (c_block ?_))
  obtain ⟨c0, rfl⟩ := Int.eq_ofNat_of_zero_le p10_1.1
  refine c_loop (fun m a w => ∃ (c : Nat) (x : Int) (l : List SrcV) (v : Value) (k : Nat), m = c ∧ x = c ∧ c ≤ 9 ∧ SrcO W.heap.size w v l ∧ Frm a 31 [] [(6, .int .i64 x), (5, v), (0, .pointer (some ⟨bt, 0, none⟩)), (1, .int .i64 now)] ∧ Mem [bt] W w [(bt, tobj p len cap k)]) c0 ⟨c0, _, [], _, _, rfl, rfl, by omega, ⟨SlN.nil _ _ _, by simp, rfl⟩, F.only [6, 5, 0, 1] rfl, M⟩ ?_
  clear F M a w
  rintro m a w ⟨c, x, l, v, k, hm, hxc, hc9, hO, F, M⟩
  by_cases hlt : 0 < c
  · have E0 := M.ext
    obtain ⟨wb, hwb, M⟩ : ∃ wb, wb = w ∧ Mem [bt] wb w [(bt, tobj p len cap k)] := ⟨w, rfl, M.re (by simp)⟩
    rw [← hwb] at E0 hO
    clear hwb
    have hTw := hT.later E0
    have hOa := hO.at_
    have hOi := hO.is
    with_reducible refine c_seq (c_seq (c_region ?_))
    refine sD F (o_move (F.ev rfl) ?_); clear F a; intro a F
    refine sD F (o_gtrT (F.ev rfl) (F.ev rfl) (by omega) ?_); clear F a; intro a F
    with_reducible refine l_nil (q_then ?_)
    refine c_true F rfl rfl ?_
    with_reducible refine c_skip (q_then (c_seq (c_block (c_seq (c_region ?_)))))
    refine sD F (o_move (F.ev rfl) ?_); clear F a; intro a F
    refine sD F (o_move (F.ev rfl) ?_); clear F a; intro a F
    refine sD F (o_move (F.ev rfl) ?_); clear F a; intro a F
    refine sD F (o_call (F.ev rfl) (F.evs rfl) (Cal.mono (wtimeE_c _ (by first | assumption | omega | exact And.left (by assumption) | exact (by assumption : SlAt _ _ _ _ _).later M.ext | exact TapeS.later (by assumption) M.ext | exact (SlN.laterB (by assumption) (by omega) M.ext).1 | exact M.heap (by repeat constructor) | decide) (by first | assumption | omega | exact And.left (by assumption) | exact (by assumption : SlAt _ _ _ _ _).later M.ext | exact TapeS.later (by assumption) M.ext | exact (SlN.laterB (by assumption) (by omega) M.ext).1 | exact M.heap (by repeat constructor) | decide) _ (by first | assumption | omega | exact And.left (by assumption) | exact (by assumption : SlAt _ _ _ _ _).later M.ext | exact TapeS.later (by assumption) M.ext | exact (SlN.laterB (by assumption) (by omega) M.ext).1 | exact M.heap (by repeat constructor) | decide) (by first | assumption | omega | exact And.left (by assumption) | exact (by assumption : SlAt _ _ _ _ _).later M.ext | exact TapeS.later (by assumption) M.ext | exact (SlN.laterB (by assumption) (by omega) M.ext).1 | exact M.heap (by repeat constructor) | decide)) ?_)); clear F; clear a; have M0 := M; clear M; rintro _ w ⟨x19, k'19, rfl, p19_1, N⟩ a F; replace M := M0.turn1 N (by repeat constructor); clear M0 N
    refine sD F (o_move (F.ev rfl) ?_); clear F a; intro a F
    refine sD F (o_call (F.ev rfl) (F.evs rfl) (Cal.mono (toE_c _ (by first | assumption | omega | exact And.left (by assumption) | exact (by assumption : SlAt _ _ _ _ _).later M.ext | exact TapeS.later (by assumption) M.ext | exact (SlN.laterB (by assumption) (by omega) M.ext).1 | exact M.heap (by repeat constructor) | decide) (by first | assumption | omega | exact And.left (by assumption) | exact (by assumption : SlAt _ _ _ _ _).later M.ext | exact TapeS.later (by assumption) M.ext | exact (SlN.laterB (by assumption) (by omega) M.ext).1 | exact M.heap (by repeat constructor) | decide)) ?_)); clear F; clear a; have M0 := M; clear M; rintro _ w ⟨x21, k'21, rfl, p21_1, p21_2, N⟩ a F; replace M := M0.turn1 N (by repeat constructor); clear M0 N
    refine sD F (o_move (F.ev rfl) ?_); clear F a; intro a F
    refine sD F (o_call (F.ev rfl) (F.evs rfl) (Cal.mono (distE_c _ (by first | assumption | omega | exact And.left (by assumption) | exact (by assumption : SlAt _ _ _ _ _).later M.ext | exact TapeS.later (by assumption) M.ext | exact (SlN.laterB (by assumption) (by omega) M.ext).1 | exact M.heap (by repeat constructor) | decide) (by first | assumption | omega | exact And.left (by assumption) | exact (by assumption : SlAt _ _ _ _ _).later M.ext | exact TapeS.later (by assumption) M.ext | exact (SlN.laterB (by assumption) (by omega) M.ext).1 | exact M.heap (by repeat constructor) | decide)) ?_)); clear F; clear a; have M0 := M; clear M; rintro _ w ⟨x23, k'23, rfl, p23_1, N⟩ a F; replace M := M0.turn1 N (by repeat constructor); clear M0 N
    refine sD F (o_call (F.ev rfl) (F.evs rfl) (Cal.mono (rrecord_c _ (by first | assumption | omega | exact And.left (by assumption) | exact (by assumption : SlAt _ _ _ _ _).later M.ext | exact TapeS.later (by assumption) M.ext | exact (SlN.laterB (by assumption) (by omega) M.ext).1 | exact M.heap (by repeat constructor) | decide) _ _ _ (by first | assumption | omega | exact And.left (by assumption) | exact (by assumption : SlAt _ _ _ _ _).later M.ext | exact TapeS.later (by assumption) M.ext | exact (SlN.laterB (by assumption) (by omega) M.ext).1 | exact M.heap (by repeat constructor) | decide) _ _ (by first | assumption | omega | exact And.left (by assumption) | exact (by assumption : SlAt _ _ _ _ _).later M.ext | exact TapeS.later (by assumption) M.ext | exact (SlN.laterB (by assumption) (by omega) M.ext).1 | exact M.heap (by repeat constructor) | decide)) ?_)); clear F; clear a; rintro _ w ⟨u24, ent24, rfl, p24_1, N⟩ a F; replace M := M.joins N; clear N
    refine sD F (o_move (F.ev rfl) ?_); clear F a; intro a F
    refine sD F (o_extract (F.ev rfl) rfl ?_); clear F a; intro a F
    refine sD F (o_extract (F.ev rfl) rfl ?_); clear F a; intro a F
    refine sD F (o_assign (F.ev rfl) ?_); clear F a; intro a F
    refine sD F (o_assign (F.ev rfl) ?_); clear F a; intro a F
    with_reducible refine l_nil (q_then (c_seq (c_region ?_)))
    refine sD F (o_move (F.ev rfl) ?_); clear F a; intro a F
    refine sD F (o_eql (F.ev rfl) (F.ev rfl) ?_); clear F a; intro a F
    with_reducible refine l_nil (q_then ?_)
    refine c_if F rfl (fun h1 => ?_) (fun h1 => ?_)
    · skip
      rw [h1] at F; replace h1 := of_decide_eq_true h1
      refine c_region ?_
      refine sD F (o_move (F.ev rfl) ?_); clear F a; intro a F
      refine sD F (o_assign (F.ev rfl) ?_); clear F a; intro a F
      with_reducible refine l_nil (q_inB (q_then (c_region ?_)))
      refine sD F (o_move (F.ev rfl) ?_); clear F a; intro a F
      refine sD F (o_sub (F.ev rfl) (F.ev rfl) (w_i64 (by omega) (by omega)) ?_); clear F a; intro a F
      refine sD F (o_assign (F.ev rfl) ?_); clear F a; intro a F
      with_reducible refine l_nil (q_then ?_)
      exact ⟨c - 1, by omega, c - 1, _, _, _, _, rfl, by omega, by omega, ⟨OwnS.slJ (by assumption) M E0.size, record_is hOi (by assumption), record_valid (by assumption)⟩, F.only [6, 5, 0, 1] rfl, (M.sub (List.sublist_append_right _ _)).un E0⟩
    · skip
      rw [h1] at F; replace h1 := of_decide_eq_false h1
      with_reducible refine c_skip (q_inB (q_then (c_region ?_)))
      refine sD F (o_move (F.ev rfl) ?_); clear F a; intro a F
      refine sD F (o_sub (F.ev rfl) (F.ev rfl) (w_i64 (by omega) (by omega)) ?_); clear F a; intro a F
      refine sD F (o_assign (F.ev rfl) ?_); clear F a; intro a F
      with_reducible refine l_nil (q_then ?_)
      exact ⟨c - 1, by omega, c - 1, _, _, _, _, rfl, by omega, by omega, hO.laterB hbt M.ext, F.only [6, 5, 0, 1] rfl, (M.sub (List.sublist_append_right _ _)).un E0⟩
  · refine c_seq ?_
    refine c_seq (c_region ?_)
    refine sD F (o_move (F.ev rfl) ?_); clear F a; intro a F
    refine sD F (o_gtrF (F.ev rfl) (F.ev rfl) (by omega) ?_); clear F a; intro a F
    with_reducible refine l_nil (q_then ?_)
    refine c_false F rfl rfl ?_
    with_reducible refine c_exit (q_thenX (q_thenX (q_inBX (q_then (c_seq (c_region ?_))))))
    refine sD F (o_move (F.ev rfl) ?_); clear F a; intro a F
    refine sD F (o_assign (F.ev rfl) ?_); clear F a; intro a F
    with_reducible refine l_nil (q_then (c_ret ?_))
    refine p_ret F rfl (.cons (.tmp (F.ev rfl)) .nil) ?_; (try dsimp only [oneOr])
    exact ⟨_, _, hO, M⟩
structure OptI (out : List OptV) (i : Nat) : Prop where
  len : out.length < i
  ok : ∀ o ∈ out, opt1 o = true ∧ o.nb < i
  asc : AscC cmpO out
theorem OptI.snoc {out : List OptV} {i : Nat} (h : OptI out i) (h1 : 1 ≤ i) {c : Int} (hc : validM c = true) : OptI (out ++ [⟨i, c⟩]) (i + 1) where
  len := by have := h.len; simp; omega
  ok := fun o ho => by
    rcases List.mem_append.1 ho with ho | ho
    · exact ⟨(h.ok o ho).1, by have := (h.ok o ho).2; omega⟩
    · simp only [List.mem_singleton] at ho
      subst ho
      refine ⟨?_, by show (i : Int) < ((i + 1 : Nat) : Int); omega⟩
      unfold opt1
      dsimp only
      rw [hc, decide_eq_false (show ¬ (i : Int) = 0 by omega)]
      rfl
  asc := List.pairwise_append.2 ⟨h.asc, List.pairwise_singleton _ _, fun a ha b hb => by
    simp only [List.mem_singleton] at hb
    subst hb
    exact cmpI_lt.2 (h.ok a ha).2⟩
theorem OptI.skip {out : List OptV} {i : Nat} (h : OptI out i) : OptI out (i + 1) := ⟨by have := h.len; omega, fun o ho => ⟨(h.ok o ho).1, by have := (h.ok o ho).2; omega⟩, h.asc⟩
theorem OptI.val {out : List OptV} {i : Nat} (h : OptI out i) (hi : i ≤ 6) : validOs out = true := validOs_iff.2 ⟨by have := h.len; omega, fun a ha => (h.ok a ha).1, h.asc⟩
set_option maxHeartbeats 4000000 in
theorem optionsW_c {bt : Nat} {p : Option Addr} {len cap k : Nat} {xs : List Int} (W : World) (hT : TapeS W bt p len xs) (hb : W.heap[bt]? = some (tobj p len cap k)) :
    Cal Tryz.prog 13 [.pointer (some ⟨bt, 0, none⟩)].toArray W fun r w' => ∃ l k', OptO W.heap.size w' r l ∧ Mem [bt] W w' [(bt, tobj p len cap k')] := by
  have hbt : bt < W.heap.size := (Array.getElem?_eq_some_iff.1 hb).1
  refine fn_ofM (n := 24) [bt] Tryz.func13 rfl rfl rfl ?_
  intro a w F M hwW
  replace M := M.came hwW hb (by simp) (by simp)
  refine c_seq (c_region ?_)
  refine sD F (o_assign (F.ev rfl) ?_); clear F a; intro a F
  with_reducible refine l_nil (q_then (c_seq (c_region ?_)))
  refine sD F (o_assign (F.ev rfl) ?_); clear F a; intro a F
  with_reducible refine l_nil (q_then (c_seq (c_seq (c_region ?_))))
  refine sD F (o_assign (F.ev rfl) ?_); clear F a; intro a F
  with_reducible refine l_nil (q_then (c_block ?_))
  refine c_loop (fun m a w => ∃ (i : Nat) (x : Int) (out : List OptV) (u : Value) (es : List (Nat × Obj)) (k : Nat), m = 6 - i ∧ x = i ∧ 1 ≤ i ∧ i ≤ 6 ∧ OwnS 55 2 u out.length (opsC out) es ∧ OptI out i ∧ Frm a 24 [] [(4, .int .i64 x), (3, u), (0, .pointer (some ⟨bt, 0, none⟩))] ∧ Mem [bt] W w ((bt, tobj p len cap k) :: es)) 5 ⟨1, _, [], _, [], _, rfl, rfl, by omega, by omega, OwnS.nil _ _, ⟨by simp, by simp, .nil⟩, F.only [4, 3, 0] rfl, M⟩ ?_
  clear F M a
  rintro m a w ⟨i, x, out, u, es, k, hm, hxi, hi1, h6, hOs, hI, F, M⟩
  have hil := hI.len
  by_cases hlt : i < 6
  · refine c_seq ?_
    refine c_seq (c_region ?_)
    refine sD F (o_move (F.ev rfl) ?_); clear F a; intro a F
    refine sD F (o_leqT (F.ev rfl) (F.ev rfl) (by omega) ?_); clear F a; intro a F
    with_reducible refine l_nil (q_then ?_)
    refine c_true F rfl rfl ?_
    with_reducible refine c_skip (q_then (c_seq (c_block (c_seq (c_region ?_)))))
    refine sD F (o_move (F.ev rfl) ?_); clear F a; intro a F
    refine sD F (o_call (F.ev rfl) (F.evs rfl) (Cal.mono (boolE_c _ (by first | assumption | omega | exact And.left (by assumption) | exact (by assumption : SlAt _ _ _ _ _).later M.ext | exact TapeS.later (by assumption) M.ext | exact (SlN.laterB (by assumption) (by omega) M.ext).1 | exact M.heap (by repeat constructor) | decide) (by first | assumption | omega | exact And.left (by assumption) | exact (by assumption : SlAt _ _ _ _ _).later M.ext | exact TapeS.later (by assumption) M.ext | exact (SlN.laterB (by assumption) (by omega) M.ext).1 | exact M.heap (by repeat constructor) | decide) _ (by first | assumption | omega | exact And.left (by assumption) | exact (by assumption : SlAt _ _ _ _ _).later M.ext | exact TapeS.later (by assumption) M.ext | exact (SlN.laterB (by assumption) (by omega) M.ext).1 | exact M.heap (by repeat constructor) | decide) (by first | assumption | omega | exact And.left (by assumption) | exact (by assumption : SlAt _ _ _ _ _).later M.ext | exact TapeS.later (by assumption) M.ext | exact (SlN.laterB (by assumption) (by omega) M.ext).1 | exact M.heap (by repeat constructor) | decide)) ?_)); clear F; clear a; have M0 := M; clear M; rintro _ w ⟨x11, k'11, rfl, N⟩ a F; replace M := M0.turn1 N (by repeat constructor); clear M0 N
    with_reducible refine l_nil (q_then ?_)
    refine c_if F rfl (fun h1 => ?_) (fun h1 => ?_)
    · skip
      rw [h1] at F
      refine c_seq (c_region ?_)
      refine sD F (o_move (F.ev rfl) ?_); clear F a; intro a F
      refine sD F (o_call (F.ev rfl) (F.evs rfl) (Cal.mono (costE_c _ (by first | assumption | omega | exact And.left (by assumption) | exact (by assumption : SlAt _ _ _ _ _).later M.ext | exact TapeS.later (by assumption) M.ext | exact (SlN.laterB (by assumption) (by omega) M.ext).1 | exact M.heap (by repeat constructor) | decide) (by first | assumption | omega | exact And.left (by assumption) | exact (by assumption : SlAt _ _ _ _ _).later M.ext | exact TapeS.later (by assumption) M.ext | exact (SlN.laterB (by assumption) (by omega) M.ext).1 | exact M.heap (by repeat constructor) | decide)) ?_)); clear F; clear a; have M0 := M; clear M; rintro _ w ⟨x13, k'13, rfl, p13_1, N⟩ a F; replace M := M0.turn1 N (by repeat constructor); clear M0 N
      refine sD F (o_assign (F.ev rfl) ?_); clear F a; intro a F
      with_reducible refine l_nil (q_then (c_seq (c_seq (c_region ?_))))
      refine sD F (o_move (F.ev rfl) ?_); clear F a; intro a F
      refine sD F (o_call (F.ev rfl) (F.evs rfl) (Cal.mono (boolE_c _ (by first | assumption | omega | exact And.left (by assumption) | exact (by assumption : SlAt _ _ _ _ _).later M.ext | exact TapeS.later (by assumption) M.ext | exact (SlN.laterB (by assumption) (by omega) M.ext).1 | exact M.heap (by repeat constructor) | decide) (by first | assumption | omega | exact And.left (by assumption) | exact (by assumption : SlAt _ _ _ _ _).later M.ext | exact TapeS.later (by assumption) M.ext | exact (SlN.laterB (by assumption) (by omega) M.ext).1 | exact M.heap (by repeat constructor) | decide) _ (by first | assumption | omega | exact And.left (by assumption) | exact (by assumption : SlAt _ _ _ _ _).later M.ext | exact TapeS.later (by assumption) M.ext | exact (SlN.laterB (by assumption) (by omega) M.ext).1 | exact M.heap (by repeat constructor) | decide) (by first | assumption | omega | exact And.left (by assumption) | exact (by assumption : SlAt _ _ _ _ _).later M.ext | exact TapeS.later (by assumption) M.ext | exact (SlN.laterB (by assumption) (by omega) M.ext).1 | exact M.heap (by repeat constructor) | decide)) ?_)); clear F; clear a; have M0 := M; clear M; rintro _ w ⟨x15, k'15, rfl, N⟩ a F; replace M := M0.turn1 N (by repeat constructor); clear M0 N
      with_reducible refine l_nil (q_then ?_)
      refine c_if F rfl (fun h2 => ?_) (fun h2 => ?_)
      · skip
        rw [h2] at F
        refine c_region ?_
        refine sD F (o_assign (F.ev rfl) ?_); clear F a; intro a F
        with_reducible refine l_nil (q_then (c_region ?_))
        refine sD F (o_move (F.ev rfl) ?_); clear F a; intro a F
        refine sD F (o_move (F.ev rfl) ?_); clear F a; intro a F
        refine sD F (o_conv (F.ev rfl) (w_u64 (by omega) (by omega)) ?_); clear F a; intro a F
        refine sD F (o_move (F.ev rfl) ?_); clear F a; intro a F
        refine sD F (o_build F rfl (op_mk _ _) ?_); clear F a; intro a F
        refine sD F (o_buildSlice F M rfl rfl rfl (op_build1 (by first | assumption | trivial | exact And.left (by assumption))) ?_); clear F M; intro bs21 w M a F
        refine sD F (o_append1 (enc := opC) (by assumption) M (by repeat (first | exact .here | apply TailAt.cons)) (F.ev rfl) (F.ev rfl) (SrcOf.cells' (M.heap .here) (sg_all (op_len (by first | assumption | trivial | exact And.left (by assumption)))) (op_one _)) (by first | omega | (simp; omega)) ?_); clear F M; intro v22 es22 w hO22 M a F; (try dsimp only at M)
        refine sD F (o_assign (F.ev rfl) ?_); clear F a; intro a F
        with_reducible refine l_nil (q_inB (q_then (c_region ?_)))
        refine sD F (o_move (F.ev rfl) ?_); clear F a; intro a F
        refine sD F (o_add (F.ev rfl) (F.ev rfl) (w_i64 (by omega) (by omega)) ?_); clear F a; intro a F
        refine sD F (o_assign (F.ev rfl) ?_); clear F a; intro a F
        with_reducible refine l_nil (q_then ?_)
        exact ⟨_, by omega, i + 1, _, _, _, _, _, rfl, by omega, by omega, by omega, by assumption, by first | exact hI.skip | (subst hxi; exact hI.snoc hi1 (by first | rfl | exact validM_of (by assumption))), F.only [4, 3, 0] rfl, M.sub (by repeat (first | exact .refl _ | apply List.Sublist.cons))⟩
      · skip
        rw [h2] at F
        with_reducible refine c_skip (q_then (c_region ?_))
        refine sD F (o_move (F.ev rfl) ?_); clear F a; intro a F
        refine sD F (o_move (F.ev rfl) ?_); clear F a; intro a F
        refine sD F (o_conv (F.ev rfl) (w_u64 (by omega) (by omega)) ?_); clear F a; intro a F
        refine sD F (o_move (F.ev rfl) ?_); clear F a; intro a F
        refine sD F (o_build F rfl (op_mk _ _) ?_); clear F a; intro a F
        refine sD F (o_buildSlice F M rfl rfl rfl (op_build1 (by first | assumption | trivial | exact And.left (by assumption))) ?_); clear F M; intro bs21 w M a F
        refine sD F (o_append1 (enc := opC) (by assumption) M (by repeat (first | exact .here | apply TailAt.cons)) (F.ev rfl) (F.ev rfl) (SrcOf.cells' (M.heap .here) (sg_all (op_len (by first | assumption | trivial | exact And.left (by assumption)))) (op_one _)) (by first | omega | (simp; omega)) ?_); clear F M; intro v22 es22 w hO22 M a F; (try dsimp only at M)
        refine sD F (o_assign (F.ev rfl) ?_); clear F a; intro a F
        with_reducible refine l_nil (q_inB (q_then (c_region ?_)))
        refine sD F (o_move (F.ev rfl) ?_); clear F a; intro a F
        refine sD F (o_add (F.ev rfl) (F.ev rfl) (w_i64 (by omega) (by omega)) ?_); clear F a; intro a F
        refine sD F (o_assign (F.ev rfl) ?_); clear F a; intro a F
        with_reducible refine l_nil (q_then ?_)
        exact ⟨_, by omega, i + 1, _, _, _, _, _, rfl, by omega, by omega, by omega, by assumption, by first | exact hI.skip | (subst hxi; exact hI.snoc hi1 (by first | rfl | exact validM_of (by assumption))), F.only [4, 3, 0] rfl, M.sub (by repeat (first | exact .refl _ | apply List.Sublist.cons))⟩
    · skip
      rw [h1] at F
      with_reducible refine c_skip (q_inB (q_then (c_region ?_)))
      refine sD F (o_move (F.ev rfl) ?_); clear F a; intro a F
      refine sD F (o_add (F.ev rfl) (F.ev rfl) (w_i64 (by omega) (by omega)) ?_); clear F a; intro a F
      refine sD F (o_assign (F.ev rfl) ?_); clear F a; intro a F
      with_reducible refine l_nil (q_then ?_)
      exact ⟨_, by omega, i + 1, _, _, _, _, _, rfl, by omega, by omega, by omega, by assumption, by first | exact hI.skip | (subst hxi; exact hI.snoc hi1 (by first | rfl | exact validM_of (by assumption))), F.only [4, 3, 0] rfl, M.sub (by repeat (first | exact .refl _ | apply List.Sublist.cons))⟩
  · obtain ⟨q, cap', rfl⟩ := hOs.slice
    with_reducible refine c_seq (c_seq (c_region ?_))
    refine sD F (o_move (F.ev rfl) ?_); clear F a; intro a F
    refine sD F (o_leqF (F.ev rfl) (F.ev rfl) (by omega) ?_); clear F a; intro a F
    with_reducible refine l_nil (q_then ?_)
    refine c_false F rfl rfl ?_
    with_reducible refine c_exit (q_thenX (q_thenX (q_inBX (q_then (c_seq (c_region ?_))))))
    refine sD F (o_move (F.ev rfl) ?_); clear F a; intro a F
    refine sD F (o_assign (F.ev rfl) ?_); clear F a; intro a F
    with_reducible refine l_nil (q_then (c_ret ?_))
    refine p_ret F rfl (.cons (.tmp (F.ev rfl)) .nil) ?_; (try dsimp only [oneOr])
    exact ⟨_, _, ⟨hOs.slN M (fun q hq => by simp [hq]) (nd_not M.nd (fun q hq => hq)), hI.val h6⟩, M.sub (List.Sublist.cons_cons _ (List.nil_sublist _))⟩
end Go.Proofs.YtilgoepokaaleaaGreat
/-! ZL -/
namespace Go.Proofs.YtilgoepokaaleaaGreat
set_option linter.unusedVariables false
set_option linter.unusedSimpArgs false
open Go.RowKit
attribute [local irreducible] OpTo wpListIn Code.wpIn MW Cal
theorem insR_valid {n0 : Nat} {w : World} {v : Value} {l : List InsV} (h : InsR n0 w v l) (hl : l.length ≤ 7) : validIs l = true := by
  refine validIs_iff.2 ⟨by omega, fun a ha => (h.ok a ha).2, h.asc⟩
theorem Mem.reR {S : List Nat} {W w : World} {l : List (Nat × Obj)} (M : Mem S W w l) (S' : List Nat) (h : ∀ p ∈ l, p.1 ∈ S') : Mem S' w w l := ⟨Ext.refl _ _, M.at_, M.nd, fun p hp => .inl (h p hp)⟩
theorem Mem.unR {S : List Nat} {W w1 w : World} {l : List (Nat × Obj)} (M : Mem S w1 w l) (E : Ext [] W w1) (hS : ∀ b ∈ S, W.heap.size ≤ b) : Mem [] W w l :=
  ⟨(E.any.trans M.ext).fresh fun k hk => .inr (hS k hk), M.at_, M.nd, fun p hp => .inr ((M.own p hp).elim (hS _) fun h => Nat.le_trans E.size h)⟩
end Go.Proofs.YtilgoepokaaleaaGreat
/-! ZW -/
namespace Go.Proofs.YtilgoepokaaleaaGreat
set_option linter.unusedVariables false
set_option linter.unusedSimpArgs false
open Go.RowKit
attribute [local irreducible] OpTo wpListIn Code.wpIn MW Cal
theorem InsR.laterB {n0 bt : Nat} {W w : World} {v : Value} {l : List InsV} (h : InsR n0 W v l) (hb : bt < n0) (E : Ext [bt] W w) : InsR n0 w v l := ⟨h.at_.laterB hb E, h.ok, h.asc⟩
theorem okR_new' {d : DstV} (hd : IsDv d) (hv : validT d = true) {e : Int} (he : e ≠ 0) {o : DisV} (ho : 0 ≤ o.met ∧ o.met ≤ 65534) {z : Int} (hz : z = -1 ∨ isTime z = true) : OkR ⟨d, e, o, z, 0⟩ := by
  refine ⟨⟨hd, trivial⟩, ?_⟩
  unfold ins1 finD validM inf
  dsimp only
  rw [hv, if_neg he]
  have h1 : (decide (z = -1) || isTime z) = true := by
    rcases hz with h | h <;> simp [h]
  rw [h1]
  simp
  omega
theorem okR_put {l : List InsV} {x : InsV} (hl : ∀ y ∈ l, OkR y) (hx : OkR x) : ∀ y ∈ putG x false l, OkR y := fun _ hz => (putG_mem hz).elim (fun e => e ▸ hx) (hl _)
set_option maxHeartbeats 8000000 in
theorem installedK_c {bt : Nat} {p : Option Addr} {len cap k : Nat} {xs : List Int} (now : Int) (h0 : 0 ≤ now) (h1 : now ≤ 1099511627776) (rl : List RouV) (hrx : ∀ x ∈ rl, IsRo x) (hrv : validRs rl = true) (v : Value) (n0 : Nat) (W : World) (hS : SlN n0 W 39 v rl.length (rosC rl)) (hb0 : bt < n0) (hT : TapeS W bt p len xs) (hb : W.heap[bt]? = some (tobj p len cap k)) :
    Cal Tryz.prog 16 [.pointer (some ⟨bt, 0, none⟩), .int .i64 now, v].toArray W fun r w' => ∃ l k', InsR W.heap.size w' r l ∧ l.length ≤ 7 ∧ Mem [bt] W w' [(bt, tobj p len cap k')] := by
  have hbt : bt < W.heap.size := (Array.getElem?_eq_some_iff.1 hb).1
  obtain ⟨qr, cr, rfl, _⟩ := id hS.1
  have hmr := hS.1.memB [bt] (fun b o s e => hS.notIn hb0 b o s _ _ (by rw [e]))
  have hr5 := (validRs_iff.1 hrv).1
  refine fn_ofM (n := 65) [bt] Tryz.func16 rfl rfl rfl ?_
  intro a w F M hwW
  replace M := M.came hwW hb (by simp) (by simp)
  refine c_seq (c_region ?_)
  refine sD F (o_assign (F.ev rfl) ?_); clear F a; intro a F
  with_reducible refine l_nil (q_then (c_seq (c_region ?_)))
  refine sD F (o_assign (F.ev rfl) ?_); clear F a; intro a F
  with_reducible refine l_nil (q_then (c_seq (c_seq (c_region ?_))))
  refine sD F (o_move (F.ev rfl) ?_); clear F a; intro a F
  refine sD F (o_call (F.ev rfl) (F.evs rfl) (Cal.mono (nextE_c _ (by first | assumption | omega | exact And.left (by assumption) | exact (by assumption : SlAt _ _ _ _ _).later M.ext | exact TapeS.later (by assumption) M.ext | exact (SlN.laterB (by assumption) (by omega) M.ext).1 | exact M.heap (by repeat constructor) | decide) (by first | assumption | omega | exact And.left (by assumption) | exact (by assumption : SlAt _ _ _ _ _).later M.ext | exact TapeS.later (by assumption) M.ext | exact (SlN.laterB (by assumption) (by omega) M.ext).1 | exact M.heap (by repeat constructor) | decide) _ (by first | assumption | omega | exact And.left (by assumption) | exact (by assumption : SlAt _ _ _ _ _).later M.ext | exact TapeS.later (by assumption) M.ext | exact (SlN.laterB (by assumption) (by omega) M.ext).1 | exact M.heap (by repeat constructor) | decide) (by first | assumption | omega | exact And.left (by assumption) | exact (by assumption : SlAt _ _ _ _ _).later M.ext | exact TapeS.later (by assumption) M.ext | exact (SlN.laterB (by assumption) (by omega) M.ext).1 | exact M.heap (by repeat constructor) | decide)) ?_)); clear F; clear a; have M0 := M; have zb12 := M0.ext.size; clear M; rintro _ w ⟨x12, k'12, rfl, p12_1, N⟩ a F; replace M := M0.turn1 N (by repeat constructor); clear M0 N
  refine sD F (o_assign (F.ev rfl) ?_); clear F a; intro a F
  with_reducible refine l_nil (q_then (c_block ?_))
  obtain ⟨c0, rfl⟩ := Int.eq_ofNat_of_zero_le p12_1.1
  refine c_loop (fun m a w => ∃ (c : Nat) (x : Int) (l : List InsV) (v : Value) (k : Nat), m = c ∧ x = c ∧ InsR W.heap.size w v l ∧ l.length + c ≤ 7 ∧ Frm a 65 [] [(8, .int .i64 x), (7, v), (0, .pointer (some ⟨bt, 0, none⟩)), (1, .int .i64 now), (2, .slice qr rl.length cr)] ∧ Mem [bt] W w [(bt, tobj p len cap k)]) c0 ⟨c0, _, [], _, _, rfl, rfl, ⟨SlN.nil _ _ _, by simp, .nil⟩, by simp; omega, F.only [8, 7, 0, 1, 2] rfl, M⟩ ?_
  clear F M a
  rintro m a w ⟨c, x, l, v, k, hm, hxc, hO, hc9, F, M⟩
  by_cases hlt : 0 < c
  · have E0 := M.ext
    obtain ⟨wb, hwb, M⟩ : ∃ wb, wb = w ∧ Mem [bt] wb w [(bt, tobj p len cap k)] := ⟨w, rfl, M.re (by simp)⟩
    rw [← hwb] at E0 hO
    clear hwb
    have hTw := hT.later E0
    have hOa := hO.at_
    have hOk := hO.ok
    have hOi : ∀ x ∈ l, IsIn x := fun x hx => (hO.ok x hx).1
    have hmw : 0 < rl.length → ∃ b o xs t fz, qr = some ⟨b, o, none⟩ ∧ (∀ w', Ext [bt] wb w' → w'.heap[b]? = some (.cells (List.toArray xs) t fz)) ∧ seg xs o (rl.length * 39) = some (rosC rl) := fun h => by
      obtain ⟨b, o, xs, t, fz, h1, h2, h3⟩ := hmr h
      exact ⟨b, o, xs, t, fz, h1, fun w' E => h2 w' (E0.trans E), h3⟩
    with_reducible refine c_seq (c_seq (c_region ?_))
    refine sD F (o_move (F.ev rfl) ?_); clear F a; intro a F
    refine sD F (o_gtrT (F.ev rfl) (F.ev rfl) (by omega) ?_); clear F a; intro a F
    with_reducible refine l_nil (q_then ?_)
    refine c_true F rfl rfl ?_
    with_reducible refine c_skip (q_then (c_seq (c_block (c_seq (c_region ?_)))))
    refine sD F (o_move (F.ev rfl) ?_); clear F a; intro a F
    refine sD F (o_call (F.ev rfl) (F.evs rfl) (Cal.mono (toE_c _ (by first | assumption | omega | exact And.left (by assumption) | exact (by assumption : SlAt _ _ _ _ _).later M.ext | exact TapeS.later (by assumption) M.ext | exact (SlN.laterB (by assumption) (by omega) M.ext).1 | exact M.heap (by repeat constructor) | decide) (by first | assumption | omega | exact And.left (by assumption) | exact (by assumption : SlAt _ _ _ _ _).later M.ext | exact TapeS.later (by assumption) M.ext | exact (SlN.laterB (by assumption) (by omega) M.ext).1 | exact M.heap (by repeat constructor) | decide)) ?_)); clear F; clear a; have M0 := M; have zb18 := M0.ext.size; clear M; rintro _ w ⟨x18, k'18, rfl, p18_1, p18_2, N⟩ a F; replace M := M0.turn1 N (by repeat constructor); clear M0 N
    refine sD F (o_move (F.ev rfl) ?_); clear F a; intro a F
    refine sD F (o_call (F.ev rfl) (F.evs rfl) (Cal.mono (eui_c _ (by first | assumption | omega | exact And.left (by assumption) | exact (by assumption : SlAt _ _ _ _ _).later M.ext | exact TapeS.later (by assumption) M.ext | exact (SlN.laterB (by assumption) (by omega) M.ext).1 | exact M.heap (by repeat constructor) | decide) (by first | assumption | omega | exact And.left (by assumption) | exact (by assumption : SlAt _ _ _ _ _).later M.ext | exact TapeS.later (by assumption) M.ext | exact (SlN.laterB (by assumption) (by omega) M.ext).1 | exact M.heap (by repeat constructor) | decide)) ?_)); clear F; clear a; have M0 := M; have zb20 := M0.ext.size; clear M; rintro _ w ⟨x20, k'20, rfl, p20_1, N⟩ a F; replace M := M0.turn1 N (by repeat constructor); clear M0 N
    refine sD F (o_move (F.ev rfl) ?_); clear F a; intro a F
    refine sD F (o_call (F.ev rfl) (F.evs rfl) (Cal.mono (distE_c _ (by first | assumption | omega | exact And.left (by assumption) | exact (by assumption : SlAt _ _ _ _ _).later M.ext | exact TapeS.later (by assumption) M.ext | exact (SlN.laterB (by assumption) (by omega) M.ext).1 | exact M.heap (by repeat constructor) | decide) (by first | assumption | omega | exact And.left (by assumption) | exact (by assumption : SlAt _ _ _ _ _).later M.ext | exact TapeS.later (by assumption) M.ext | exact (SlN.laterB (by assumption) (by omega) M.ext).1 | exact M.heap (by repeat constructor) | decide)) ?_)); clear F; clear a; have M0 := M; have zb22 := M0.ext.size; clear M; rintro _ w ⟨x22, k'22, rfl, p22_1, N⟩ a F; replace M := M0.turn1 N (by repeat constructor); clear M0 N
    refine sD F (o_build F rfl (in_mk4 _ (by first | assumption | trivial | exact And.left (by assumption) | exact ⟨by assumption, trivial⟩) _ _ _) ?_); clear F a; intro a F
    refine sD F (o_alloc M ?_); clear F M; intro b9 w M a F
    refine stepN rfl F (o_storeA M (F.ev rfl) (F.ev rfl) (in_len (by first | assumption | trivial | exact And.left (by assumption) | exact ⟨by assumption, trivial⟩)) (in_one _) (by repeat constructor) (put_all (by rw [(in_len (by first | assumption | trivial | exact And.left (by assumption) | exact ⟨by assumption, trivial⟩))]; first | rfl | rw [(in_len (by first | assumption | trivial | exact And.left (by assumption) | exact ⟨by assumption, trivial⟩))])) (by repeat constructor) ?_); clear F M; intro w M a F
    with_reducible refine l_nil (q_then (c_seq ?_))
    refine c_cut (fun a w => ∃ (d : DstV) (e : Int) (k : Nat), Mem [bt] wb w [(b9, .cells (inC ⟨d, e, x22, -1, 0⟩).toArray 50 (0, 0)), (bt, tobj p len cap k)] ∧ Frm a 65 [] [(9, .pointer (some ⟨b9, 0, none⟩)), (8, .int .i64 x), (7, v), (0, .pointer (some ⟨bt, 0, none⟩)), (1, .int .i64 now), (2, .slice qr rl.length cr)] ∧ IsDv d ∧ validT d = true ∧ e ≠ 0) ?_ ?_
    · by_cases hl0 : 0 < rl.length
      · obtain ⟨b, o, cs, t', fz, hq, hbh, hsg⟩ := hmw hl0
        subst hq
        refine c_seq (c_region ?_)
        refine sD F (o_move (F.ev rfl) ?_); clear F a; intro a F
        refine sD F (o_lenSl (F.ev rfl) ?_); clear F a; intro a F
        refine sD F (o_gtrT (F.ev rfl) (F.ev rfl) (by omega) ?_); clear F a; intro a F
        refine sD F (o_move (F.ev rfl) ?_); clear F a; intro a F
        refine sG F (o_move (F.ev rfl) ?_); clear F a; intro a F
        refine sG F (o_call (F.ev rfl) (F.evs rfl) (Cal.mono (boolE_c _ (by first | assumption | omega | exact And.left (by assumption) | exact (by assumption : SlAt _ _ _ _ _).later M.ext | exact TapeS.later (by assumption) M.ext | exact (SlN.laterB (by assumption) (by omega) M.ext).1 | exact M.heap (by repeat constructor) | decide) (by first | assumption | omega | exact And.left (by assumption) | exact (by assumption : SlAt _ _ _ _ _).later M.ext | exact TapeS.later (by assumption) M.ext | exact (SlN.laterB (by assumption) (by omega) M.ext).1 | exact M.heap (by repeat constructor) | decide) _ (by first | assumption | omega | exact And.left (by assumption) | exact (by assumption : SlAt _ _ _ _ _).later M.ext | exact TapeS.later (by assumption) M.ext | exact (SlN.laterB (by assumption) (by omega) M.ext).1 | exact M.heap (by repeat constructor) | decide) (by first | assumption | omega | exact And.left (by assumption) | exact (by assumption : SlAt _ _ _ _ _).later M.ext | exact TapeS.later (by assumption) M.ext | exact (SlN.laterB (by assumption) (by omega) M.ext).1 | exact M.heap (by repeat constructor) | decide)) ?_)); clear F; clear a; have M0 := M; have zb29 := M0.ext.size; clear M; rintro _ w ⟨x29, k'29, rfl, N⟩ a F; replace M := M0.turn1 N (by repeat constructor); clear M0 N
        refine sD F (o_pickT (F.ev rfl) (F.ev rfl) ?_); clear F a; intro a F
        with_reducible refine l_nil (q_then ?_)
        refine c_if F rfl (fun h1 => ?_) (fun h1 => ?_)
        focus
          rw [h1] at F
          refine c_seq (c_region ?_)
          refine sD F (o_move (F.ev rfl) ?_); clear F a; intro a F
          refine sD F (o_move (F.ev rfl) ?_); clear F a; intro a F
          refine sD F (o_move (F.ev rfl) ?_); clear F a; intro a F
          refine sD F (o_lenSl (F.ev rfl) ?_); clear F a; intro a F
          refine sD F (o_call (F.ev rfl) (F.evs rfl) (Cal.mono (nextE_c _ (by first | assumption | omega | exact And.left (by assumption) | exact (by assumption : SlAt _ _ _ _ _).later M.ext | exact TapeS.later (by assumption) M.ext | exact (SlN.laterB (by assumption) (by omega) M.ext).1 | exact M.heap (by repeat constructor) | decide) (by first | assumption | omega | exact And.left (by assumption) | exact (by assumption : SlAt _ _ _ _ _).later M.ext | exact TapeS.later (by assumption) M.ext | exact (SlN.laterB (by assumption) (by omega) M.ext).1 | exact M.heap (by repeat constructor) | decide) _ (by first | assumption | omega | exact And.left (by assumption) | exact (by assumption : SlAt _ _ _ _ _).later M.ext | exact TapeS.later (by assumption) M.ext | exact (SlN.laterB (by assumption) (by omega) M.ext).1 | exact M.heap (by repeat constructor) | decide) (by first | assumption | omega | exact And.left (by assumption) | exact (by assumption : SlAt _ _ _ _ _).later M.ext | exact TapeS.later (by assumption) M.ext | exact (SlN.laterB (by assumption) (by omega) M.ext).1 | exact M.heap (by repeat constructor) | decide)) ?_)); clear F; clear a; have M0 := M; have zb35 := M0.ext.size; clear M; rintro _ w ⟨x35, k'35, rfl, p35_1, N⟩ a F; replace M := M0.turn1 N (by repeat constructor); clear M0 N
          refine sD F (o_indexSl (F.ev rfl) (F.ev rfl) (by omega) (by omega) ?_); clear F a; intro a F
        rotate_left 1
        focus
          rw [h1] at F
          with_reducible refine c_skip ?_
          exact ⟨_, _, _, M, F.only [9, 8, 7, 0, 1, 2] rfl, by assumption, by assumption, by omega⟩
        obtain ⟨qn, rfl⟩ := Int.eq_ofNat_of_zero_le p35_1.1
        have hqn : qn < rl.length := by omega
        obtain ⟨y, hy0⟩ : ∃ y, y = rl[qn] := ⟨_, rfl⟩
        have hym : y ∈ rl := by rw [hy0]; exact List.getElem_mem hqn
        have hyi := hrx y hym
        have hyd : IsDv y.to := hyi.1
        have f1 : seg cs (o + (qn : Int).toNat * 39) 39 = some (roC y) := by rw [hy0]; exact seg_el (ros_len hrx) hsg hqn (by omega)
        clear hy0
        have hyv := (validRs_iff.1 hrv).2.1 y hym
        unfold rou1 at hyv
        simp only [Bool.and_eq_true, Bool.not_eq_true', decide_eq_false_iff_not] at hyv
        have hyt : validT y.to = true := hyv.1.1.1
        have hyn : y.nb ≠ 0 := hyv.1.1.2
        refine sD F (o_loadEA M (F.ev rfl) (by assumption) (by assumption) ?_); clear F a; intro a F
        refine sD F (o_alloc M ?_); clear F M; intro b10 w M a F
        refine stepN rfl F (o_storeA M (F.ev rfl) (F.ev rfl) (ro_len (by first | assumption | trivial | exact And.left (by assumption) | exact ⟨by assumption, trivial⟩)) (ro_one _) (by repeat constructor) (put_all (by rw [(ro_len (by first | assumption | trivial | exact And.left (by assumption) | exact ⟨by assumption, trivial⟩))]; first | rfl | rw [(ro_len (by first | assumption | trivial | exact And.left (by assumption) | exact ⟨by assumption, trivial⟩))])) (by repeat constructor) ?_); clear F M; intro w M a F
        with_reducible refine l_nil (q_then ?_)
        have hi1 : IsIn ⟨x18, x20, x22, -1, 0⟩ := ⟨by assumption, trivial⟩
        have hi2 : IsIn ⟨y.to, x20, x22, -1, 0⟩ := ⟨hyd, trivial⟩
        have g1 := ro_to hyi
        have g2 := ro_nb hyi
        replace M : Mem [bt] wb w ([(b9, .cells (inC ⟨x18, x20, x22, -1, 0⟩).toArray 50 (0, 0))] ++ [(b10, .cells (roC y).toArray 53 (0, 0)), (bt, tobj p len cap k'35)]) := M.perm (by classical exact List.perm_iff_count.2 fun _ => by simp only [List.count_append, List.count_cons, List.count_nil, Nat.add_zero, Nat.zero_add] <;> ac_rfl)
        replace F := F.only [0, 1, 2, 7, 8, 9, 10] rfl
        refine c_drawOne M (.cells (inC ⟨y.to, x20, x22, -1, 0⟩).toArray 50 (0, 0)) 6 F (by kernel_rfl) ?_
        intro w1 M1 hok
        refine mK hok rfl rfl (fun a' w' F' E' => o_fieldAddr (F'.ev rfl) ⟨Keep.refl _ _, rfl⟩) ?_
        refine mK hok rfl rfl (fun a' w' F' E' => o_loadA (keepOne.later M1 E') (F'.ev rfl) (by repeat constructor) (by first | assumption | rfl) ⟨Keep.refl _ _, rfl⟩) ?_
        refine mK hok rfl rfl (fun a' w' F' E' => o_fieldAddr (F'.ev rfl) ⟨Keep.refl _ _, rfl⟩) ?_
        refine mK hok rfl rfl (fun a' w' F' E' => o_load1 (keepOne.later M1 E') (F'.ev rfl) (by repeat constructor) (by first | assumption | rfl) ⟨Keep.refl _ _, rfl⟩) ?_
        refine mK hok rfl rfl (fun a' w' F' E' => o_fieldAddr (F'.ev rfl) ⟨Keep.refl _ _, rfl⟩) ?_
        refine mNX hok rfl (keepOne.stays _ _ _ _ _ _) (fun a' w' F' E' => (E'.1.1 M1).elim (fun M2 => o_storeAE M2 (F'.ev rfl) (F'.ev rfl) (dv_len hyd) (dv_one _) .here (in_put_to hi1 hyd) .here fun _ hS M3 => keepOne.put hS.size M3) (fun M2 => o_storeAE M2 (F'.ev rfl) (F'.ev rfl) (dv_len hyd) (dv_one _) .here (in_put_to hi2 hyd) .here fun _ hS M3 => keepOne.put hS.size M3)) ?_
        (refine mDone rfl rfl ?_; clear F M; intro a w F hE2 hX hTT hDD hPP; have M := hX 5 _ rfl; clear M1; clear hX; clear hE2; clear hok; clear hTT; clear hDD; clear hPP; (try dsimp only at F); (try dsimp only at M))
        refine sD F (o_fieldAddr (F.ev rfl) ?_); clear F a; intro a F
        refine stepN rfl F (o_store1 M (F.ev rfl) (F.ev rfl) rfl (by repeat constructor) (in_put_nb (by first | assumption | trivial | exact And.left (by assumption) | exact ⟨by assumption, trivial⟩) _) (by repeat constructor) ?_); clear F M; intro w M a F
        with_reducible refine l_nil ?_
        exact ⟨_, _, _, M.sub (List.Sublist.cons_cons _ (.cons _ (.refl _))), F.only [9, 8, 7, 0, 1, 2] rfl, by assumption, by assumption, by assumption⟩
      · refine c_seq ?_
        refine c_region ?_
        refine sD F (o_move (F.ev rfl) ?_); clear F a; intro a F
        refine sD F (o_lenSl (F.ev rfl) ?_); clear F a; intro a F
        refine sD F (o_gtrF (F.ev rfl) (F.ev rfl) (by omega) ?_); clear F a; intro a F
        refine sD F (o_move (F.ev rfl) ?_); clear F a; intro a F
        refine sO F ?_; clear F a; intro a F
        refine sO F ?_; clear F a; intro a F
        refine sD F (o_pickF (F.ev rfl) (F.ev rfl) ?_); clear F a; intro a F
        with_reducible refine l_nil (q_then ?_)
        refine c_false F rfl rfl ?_
        with_reducible refine c_skip ?_
        exact ⟨_, _, _, M, F.only [9, 8, 7, 0, 1, 2] rfl, by assumption, by assumption, by omega⟩
    clear F M a
    rintro a w ⟨d, e, k5, M, F, hd, hdv, he⟩
    have hy : IsIn ⟨d, e, x22, -1, 0⟩ := ⟨hd, trivial⟩
    have hy2 : IsIn ⟨d, 0, x22, -1, 0⟩ := ⟨hd, trivial⟩
    have hom : 0 ≤ x22.met ∧ x22.met ≤ 65534 := p22_1
    with_reducible refine q_then (c_seq (c_seq (c_region ?_)))
    refine sD F (o_move (F.ev rfl) ?_); clear F a; intro a F
    refine sD F (o_call (F.ev rfl) (F.evs rfl) (Cal.mono (nextE_c _ (by first | assumption | omega | exact And.left (by assumption) | exact (by assumption : SlAt _ _ _ _ _).later M.ext | exact TapeS.later (by assumption) M.ext | exact (SlN.laterB (by assumption) (by omega) M.ext).1 | exact M.heap (by repeat constructor) | decide) (by first | assumption | omega | exact And.left (by assumption) | exact (by assumption : SlAt _ _ _ _ _).later M.ext | exact TapeS.later (by assumption) M.ext | exact (SlN.laterB (by assumption) (by omega) M.ext).1 | exact M.heap (by repeat constructor) | decide) _ (by first | assumption | omega | exact And.left (by assumption) | exact (by assumption : SlAt _ _ _ _ _).later M.ext | exact TapeS.later (by assumption) M.ext | exact (SlN.laterB (by assumption) (by omega) M.ext).1 | exact M.heap (by repeat constructor) | decide) (by first | assumption | omega | exact And.left (by assumption) | exact (by assumption : SlAt _ _ _ _ _).later M.ext | exact TapeS.later (by assumption) M.ext | exact (SlN.laterB (by assumption) (by omega) M.ext).1 | exact M.heap (by repeat constructor) | decide)) ?_)); clear F; clear a; have M0 := M; have zb45 := M0.ext.size; clear M; rintro _ w ⟨x45, k'45, rfl, p45_1, N⟩ a F; replace M := M0.turn1 N (by repeat constructor); clear M0 N
    with_reducible refine l_nil (q_then (c_block (c_seq (c_region ?_))))
    refine sD F (o_eql (F.ev rfl) (F.ev rfl) ?_); clear F a; intro a F
    refine sD F (o_assign (F.ev rfl) ?_); clear F a; intro a F
    with_reducible refine l_nil (q_then ?_)
    refine c_if F rfl (fun h1 => ?_) (fun h1 => ?_)
    · skip
      rw [h1] at F; replace h1 := of_decide_eq_true h1
      refine c_region ?_
      refine sD F (o_move (F.ev rfl) ?_); clear F a; intro a F
      refine sD F (o_move (F.ev rfl) ?_); clear F a; intro a F
      refine sD F (o_call (F.ev rfl) (F.evs rfl) (Cal.mono (wtimeE_c _ (by first | assumption | omega | exact And.left (by assumption) | exact (by assumption : SlAt _ _ _ _ _).later M.ext | exact TapeS.later (by assumption) M.ext | exact (SlN.laterB (by assumption) (by omega) M.ext).1 | exact M.heap (by repeat constructor) | decide) (by first | assumption | omega | exact And.left (by assumption) | exact (by assumption : SlAt _ _ _ _ _).later M.ext | exact TapeS.later (by assumption) M.ext | exact (SlN.laterB (by assumption) (by omega) M.ext).1 | exact M.heap (by repeat constructor) | decide) _ (by first | assumption | omega | exact And.left (by assumption) | exact (by assumption : SlAt _ _ _ _ _).later M.ext | exact TapeS.later (by assumption) M.ext | exact (SlN.laterB (by assumption) (by omega) M.ext).1 | exact M.heap (by repeat constructor) | decide) (by first | assumption | omega | exact And.left (by assumption) | exact (by assumption : SlAt _ _ _ _ _).later M.ext | exact TapeS.later (by assumption) M.ext | exact (SlN.laterB (by assumption) (by omega) M.ext).1 | exact M.heap (by repeat constructor) | decide)) ?_)); clear F; clear a; have M0 := M; have zb50 := M0.ext.size; clear M; rintro _ w ⟨x50, k'50, rfl, p50_1, N⟩ a F; replace M := M0.turn1 N (by repeat constructor); clear M0 N
      refine sD F (o_fieldAddr (F.ev rfl) ?_); clear F a; intro a F
      refine stepN rfl F (o_store1 M (F.ev rfl) (F.ev rfl) rfl (by repeat constructor) (in_put_btn (by first | assumption | trivial | exact And.left (by assumption) | exact ⟨by assumption, trivial⟩) _) (by repeat constructor) ?_); clear F M; intro w M a F
      with_reducible refine l_nil (q_inB (q_then (c_region ?_)))
      refine sD F (o_move (F.ev rfl) ?_); clear F a; intro a F
      refine sD F (o_loadA M (F.ev rfl) (by repeat constructor) (in_all (by first | assumption | trivial | exact And.left (by assumption) | exact ⟨by assumption, trivial⟩)) ?_); clear F a; intro a F
      refine sD F (o_call (F.ev rfl) (F.evs rfl) (Cal.mono (put_c _ (by first | assumption | omega | exact And.left (by assumption) | exact (by assumption : SlAt _ _ _ _ _).later M.ext | exact TapeS.later (by assumption) M.ext | exact (SlN.laterB (by assumption) (by omega) M.ext).1 | exact M.heap (by repeat constructor) | decide) _ (by first | assumption | omega | exact And.left (by assumption) | exact (by assumption : SlAt _ _ _ _ _).later M.ext | exact TapeS.later (by assumption) M.ext | exact (SlN.laterB (by assumption) (by omega) M.ext).1 | exact M.heap (by repeat constructor) | decide) (by first | assumption | omega | exact And.left (by assumption) | exact (by assumption : SlAt _ _ _ _ _).later M.ext | exact TapeS.later (by assumption) M.ext | exact (SlN.laterB (by assumption) (by omega) M.ext).1 | exact M.heap (by repeat constructor) | decide) _ _ (by first | assumption | omega | exact And.left (by assumption) | exact (by assumption : SlAt _ _ _ _ _).later M.ext | exact TapeS.later (by assumption) M.ext | exact (SlN.laterB (by assumption) (by omega) M.ext).1 | exact M.heap (by repeat constructor) | decide)) ?_)); clear F; clear a; rintro v63 w ⟨ent63, p63_0, N⟩ a F; replace M := M.joins N; clear N
      refine sD F (o_assign (F.ev rfl) ?_); clear F a; intro a F
      with_reducible refine l_nil (q_inB (q_then (c_region ?_)))
      refine sD F (o_move (F.ev rfl) ?_); clear F a; intro a F
      refine sD F (o_sub (F.ev rfl) (F.ev rfl) (w_i64 (by omega) (by omega)) ?_); clear F a; intro a F
      refine sD F (o_assign (F.ev rfl) ?_); clear F a; intro a F
      with_reducible refine l_nil (q_then ?_)
      exact ⟨c - 1, by omega, c - 1, _, _, _, _, rfl, by omega, ⟨OwnS.slJ (by assumption) (M.sub (List.Sublist.append_left (.cons _ (.refl _)) _)) E0.size, okR_put hOk (by first | exact okR_new' hd hdv he hom (.inr (by assumption)) | exact okR_held hd hdv (by assumption) | exact okR_new' hd hdv he hom (.inl rfl)), putG_asc hd hO.asc fun z hz => (hOi z hz).1⟩, Nat.le_trans (Nat.add_le_add_right putG_len _) (by simp; omega), F.only [8, 7, 0, 1, 2] rfl, (M.sub (List.sublist_append_of_sublist_right (.cons _ (.refl _)))).un E0⟩
    · skip
      rw [h1] at F; replace h1 := of_decide_eq_false h1
      refine c_seq (c_region ?_)
      refine sD F (o_eql (F.ev rfl) (F.ev rfl) ?_); clear F a; intro a F
      refine sD F (o_assign (F.ev rfl) ?_); clear F a; intro a F
      with_reducible refine l_nil (q_then ?_)
      refine c_if F rfl (fun h2 => ?_) (fun h2 => ?_)
      · skip
        rw [h2] at F; replace h2 := of_decide_eq_true h2
        refine c_region ?_
        refine sD F (o_move (F.ev rfl) ?_); clear F a; intro a F
        refine sD F (o_move (F.ev rfl) ?_); clear F a; intro a F
        refine sD F (o_call (F.ev rfl) (F.evs rfl) (Cal.mono (wtimeE_c _ (by first | assumption | omega | exact And.left (by assumption) | exact (by assumption : SlAt _ _ _ _ _).later M.ext | exact TapeS.later (by assumption) M.ext | exact (SlN.laterB (by assumption) (by omega) M.ext).1 | exact M.heap (by repeat constructor) | decide) (by first | assumption | omega | exact And.left (by assumption) | exact (by assumption : SlAt _ _ _ _ _).later M.ext | exact TapeS.later (by assumption) M.ext | exact (SlN.laterB (by assumption) (by omega) M.ext).1 | exact M.heap (by repeat constructor) | decide) _ (by first | assumption | omega | exact And.left (by assumption) | exact (by assumption : SlAt _ _ _ _ _).later M.ext | exact TapeS.later (by assumption) M.ext | exact (SlN.laterB (by assumption) (by omega) M.ext).1 | exact M.heap (by repeat constructor) | decide) (by first | assumption | omega | exact And.left (by assumption) | exact (by assumption : SlAt _ _ _ _ _).later M.ext | exact TapeS.later (by assumption) M.ext | exact (SlN.laterB (by assumption) (by omega) M.ext).1 | exact M.heap (by repeat constructor) | decide)) ?_)); clear F; clear a; have M0 := M; have zb56 := M0.ext.size; clear M; rintro _ w ⟨x56, k'56, rfl, p56_1, N⟩ a F; replace M := M0.turn1 N (by repeat constructor); clear M0 N
        refine sD F (o_fieldAddr (F.ev rfl) ?_); clear F a; intro a F
        refine stepN rfl F (o_store1 M (F.ev rfl) (F.ev rfl) rfl (by repeat constructor) (in_put_nb (by first | assumption | trivial | exact And.left (by assumption) | exact ⟨by assumption, trivial⟩) _) (by repeat constructor) ?_); clear F M; intro w M a F
        refine sD F (o_fieldAddr (F.ev rfl) ?_); clear F a; intro a F
        refine sD F (o_fieldAddr (F.ev rfl) ?_); clear F a; intro a F
        refine stepN rfl F (o_store1 M (F.ev rfl) (F.ev rfl) rfl (by repeat constructor) (in_put_own_met (by first | assumption | trivial | exact And.left (by assumption) | exact ⟨by assumption, trivial⟩) _) (by repeat constructor) ?_); clear F M; intro w M a F
        refine sD F (o_fieldAddr (F.ev rfl) ?_); clear F a; intro a F
        refine stepN rfl F (o_store1 M (F.ev rfl) (F.ev rfl) rfl (by repeat constructor) (in_put_til (by first | assumption | trivial | exact And.left (by assumption) | exact ⟨by assumption, trivial⟩) _) (by repeat constructor) ?_); clear F M; intro w M a F
        with_reducible refine l_nil (q_inB (q_then (c_region ?_)))
        refine sD F (o_move (F.ev rfl) ?_); clear F a; intro a F
        refine sD F (o_loadA M (F.ev rfl) (by repeat constructor) (in_all (by first | assumption | trivial | exact And.left (by assumption) | exact ⟨by assumption, trivial⟩)) ?_); clear F a; intro a F
        refine sD F (o_call (F.ev rfl) (F.evs rfl) (Cal.mono (put_c _ (by first | assumption | omega | exact And.left (by assumption) | exact (by assumption : SlAt _ _ _ _ _).later M.ext | exact TapeS.later (by assumption) M.ext | exact (SlN.laterB (by assumption) (by omega) M.ext).1 | exact M.heap (by repeat constructor) | decide) _ (by first | assumption | omega | exact And.left (by assumption) | exact (by assumption : SlAt _ _ _ _ _).later M.ext | exact TapeS.later (by assumption) M.ext | exact (SlN.laterB (by assumption) (by omega) M.ext).1 | exact M.heap (by repeat constructor) | decide) (by first | assumption | omega | exact And.left (by assumption) | exact (by assumption : SlAt _ _ _ _ _).later M.ext | exact TapeS.later (by assumption) M.ext | exact (SlN.laterB (by assumption) (by omega) M.ext).1 | exact M.heap (by repeat constructor) | decide) _ _ (by first | assumption | omega | exact And.left (by assumption) | exact (by assumption : SlAt _ _ _ _ _).later M.ext | exact TapeS.later (by assumption) M.ext | exact (SlN.laterB (by assumption) (by omega) M.ext).1 | exact M.heap (by repeat constructor) | decide)) ?_)); clear F; clear a; rintro v63 w ⟨ent63, p63_0, N⟩ a F; replace M := M.joins N; clear N
        refine sD F (o_assign (F.ev rfl) ?_); clear F a; intro a F
        with_reducible refine l_nil (q_inB (q_then (c_region ?_)))
        refine sD F (o_move (F.ev rfl) ?_); clear F a; intro a F
        refine sD F (o_sub (F.ev rfl) (F.ev rfl) (w_i64 (by omega) (by omega)) ?_); clear F a; intro a F
        refine sD F (o_assign (F.ev rfl) ?_); clear F a; intro a F
        with_reducible refine l_nil (q_then ?_)
        exact ⟨c - 1, by omega, c - 1, _, _, _, _, rfl, by omega, ⟨OwnS.slJ (by assumption) (M.sub (List.Sublist.append_left (.cons _ (.refl _)) _)) E0.size, okR_put hOk (by first | exact okR_new' hd hdv he hom (.inr (by assumption)) | exact okR_held hd hdv (by assumption) | exact okR_new' hd hdv he hom (.inl rfl)), putG_asc hd hO.asc fun z hz => (hOi z hz).1⟩, Nat.le_trans (Nat.add_le_add_right putG_len _) (by simp; omega), F.only [8, 7, 0, 1, 2] rfl, (M.sub (List.sublist_append_of_sublist_right (.cons _ (.refl _)))).un E0⟩
      · skip
        rw [h2] at F; replace h2 := of_decide_eq_false h2
        with_reducible refine c_skip (q_inB (q_then (c_region ?_)))
        refine sD F (o_move (F.ev rfl) ?_); clear F a; intro a F
        refine sD F (o_loadA M (F.ev rfl) (by repeat constructor) (in_all (by first | assumption | trivial | exact And.left (by assumption) | exact ⟨by assumption, trivial⟩)) ?_); clear F a; intro a F
        refine sD F (o_call (F.ev rfl) (F.evs rfl) (Cal.mono (put_c _ (by first | assumption | omega | exact And.left (by assumption) | exact (by assumption : SlAt _ _ _ _ _).later M.ext | exact TapeS.later (by assumption) M.ext | exact (SlN.laterB (by assumption) (by omega) M.ext).1 | exact M.heap (by repeat constructor) | decide) _ (by first | assumption | omega | exact And.left (by assumption) | exact (by assumption : SlAt _ _ _ _ _).later M.ext | exact TapeS.later (by assumption) M.ext | exact (SlN.laterB (by assumption) (by omega) M.ext).1 | exact M.heap (by repeat constructor) | decide) (by first | assumption | omega | exact And.left (by assumption) | exact (by assumption : SlAt _ _ _ _ _).later M.ext | exact TapeS.later (by assumption) M.ext | exact (SlN.laterB (by assumption) (by omega) M.ext).1 | exact M.heap (by repeat constructor) | decide) _ _ (by first | assumption | omega | exact And.left (by assumption) | exact (by assumption : SlAt _ _ _ _ _).later M.ext | exact TapeS.later (by assumption) M.ext | exact (SlN.laterB (by assumption) (by omega) M.ext).1 | exact M.heap (by repeat constructor) | decide)) ?_)); clear F; clear a; rintro v63 w ⟨ent63, p63_0, N⟩ a F; replace M := M.joins N; clear N
        refine sD F (o_assign (F.ev rfl) ?_); clear F a; intro a F
        with_reducible refine l_nil (q_inB (q_then (c_region ?_)))
        refine sD F (o_move (F.ev rfl) ?_); clear F a; intro a F
        refine sD F (o_sub (F.ev rfl) (F.ev rfl) (w_i64 (by omega) (by omega)) ?_); clear F a; intro a F
        refine sD F (o_assign (F.ev rfl) ?_); clear F a; intro a F
        with_reducible refine l_nil (q_then ?_)
        exact ⟨c - 1, by omega, c - 1, _, _, _, _, rfl, by omega, ⟨OwnS.slJ (by assumption) (M.sub (List.Sublist.append_left (.cons _ (.refl _)) _)) E0.size, okR_put hOk (by first | exact okR_new' hd hdv he hom (.inr (by assumption)) | exact okR_held hd hdv (by assumption) | exact okR_new' hd hdv he hom (.inl rfl)), putG_asc hd hO.asc fun z hz => (hOi z hz).1⟩, Nat.le_trans (Nat.add_le_add_right putG_len _) (by simp; omega), F.only [8, 7, 0, 1, 2] rfl, (M.sub (List.sublist_append_of_sublist_right (.cons _ (.refl _)))).un E0⟩
  · refine c_seq ?_
    refine c_seq (c_region ?_)
    refine sD F (o_move (F.ev rfl) ?_); clear F a; intro a F
    refine sD F (o_gtrF (F.ev rfl) (F.ev rfl) (by omega) ?_); clear F a; intro a F
    with_reducible refine l_nil (q_then ?_)
    refine c_false F rfl rfl ?_
    with_reducible refine c_exit (q_thenX (q_thenX (q_inBX (q_then (c_seq (c_region ?_))))))
    refine sD F (o_move (F.ev rfl) ?_); clear F a; intro a F
    refine sD F (o_assign (F.ev rfl) ?_); clear F a; intro a F
    with_reducible refine l_nil (q_then (c_ret ?_))
    refine p_ret F rfl (.cons (.tmp (F.ev rfl)) .nil) ?_; (try dsimp only [oneOr])
    exact ⟨_, _, hO, by omega, M⟩
end Go.Proofs.YtilgoepokaaleaaGreat
/-! ZV -/
namespace Go.Proofs.YtilgoepokaaleaaGreat
set_option linter.unusedVariables false
set_option linter.unusedSimpArgs false
open Go.RowKit
attribute [local irreducible] OpTo wpListIn Code.wpIn MW Cal
theorem selI_is {now : Int} {l : List RouV} {s : List SrcV} {o : List OptV} {old : List InsV} (hi : ∀ x ∈ l, IsRo x) (ho : ∀ x ∈ old, IsIn x) : ∀ x ∈ selV now l s o old, IsIn x := fun x hx => by
  obtain ⟨t, ht, h⟩ := List.mem_filterMap.1 hx
  refine selE_is ?_ ho h
  rcases (mem_dests hi ho).1 ht with ⟨r, hr, rfl⟩ | ⟨r, hr, rfl⟩
  · exact (hi r hr).1
  · exact (ho r hr).1
theorem selI_len {now : Int} {l : List RouV} {s : List SrcV} {o : List OptV} {old : List InsV} (hi : ∀ x ∈ l, IsRo x) (ho : ∀ x ∈ old, IsIn x) : (selV now l s o old).length ≤ l.length + old.length := by
  have h1 : (destsV l old).length ≤ (allD l old).length := by
    have hd : ∀ x ∈ allD l old, IsDv x := fun x hx => by
      unfold allD at hx
      rcases List.mem_append.1 hx with h | h
      · obtain ⟨r, hr, rfl⟩ := List.mem_map.1 h
        exact (hi r hr).1
      · obtain ⟨r, hr, rfl⟩ := List.mem_map.1 h
        exact (ho r hr).1
    have := foldr_insD hd
    exact nodupD_le this.1 fun x hx => (this.2 x).1 hx
  have h2 : (allD l old).length = l.length + old.length := by unfold allD; simp
  have h3 : (selV now l s o old).length ≤ (destsV l old).length := List.length_filterMap_le _ _
  omega
theorem sel_ok {now : Int} {l : List RouV} {s : List SrcV} {o : List OptV} {old : List InsV} (hi : ∀ x ∈ l, IsRo x) (ho : ∀ x ∈ old, IsIn x) (h1 : validRs l = true) (h2 : validSs s = true) (h3 : validOs o = true) (h4 : validIs old = true) (h5 : isTime now = true) (hn : l.length + old.length ≤ 512) : selectV now l s o old = (selV now l s o old, 0) := by
  unfold selectV
  have := selI_len (now := now) (s := s) (o := o) hi ho
  rw [h1, h2, h3, h4, h5, if_neg (by simp), if_neg (by simp), if_neg (by omega)]
end Go.Proofs.YtilgoepokaaleaaGreat
/-! ZX -/
namespace Go.Proofs.YtilgoepokaaleaaGreat
set_option linter.unusedVariables false
set_option linter.unusedSimpArgs false
open Go.RowKit
attribute [local irreducible] OpTo wpListIn Code.wpIn MW Cal
def GF (s : List SrcV) (now : Int) (x : InsV) (y : RouV) (z : OptV) : Prop :=
  y.to = x.to ∧ y.nb = x.nb ∧ now < y.til ∧ z.nb = x.nb ∧ z.cost < 65535 ∧ rfeasV s now x.to y.said = true ∧ y.said.met < x.own.met ∧ x.own.seq = y.said.seq
theorem gf_law {now : Int} {l : List RouV} {s : List SrcV} {o : List OptV} {old : List InsV} (hi : ∀ x ∈ l, IsRo x) (hl : validRs l = true) (hs : validSs s = true) (hn : isTime now = true) (ho : ∀ x ∈ old, ins1 x = true) {x : InsV} (hx : x ∈ selV now l s o old) (hnb : x.nb ≠ 0) : ∃ y ∈ l, ∃ z ∈ o, GF s now x y z := by
  obtain ⟨y, hy, z, hz, h1, h2, h3, h4, h5, h6, h7, h8⟩ := feas_law hi hl hx hnb
  refine ⟨y, hy, z, hz, h1, h2, h3, h4, h5, ?_, h7, h8⟩
  have hv := (validRs_iff.1 hl).2.1 y hy
  unfold rou1 at hv
  simp only [Bool.and_eq_true] at hv
  unfold rfeasV
  rw [hs, hn, h6, ← h1, hv.1.1.1]
  rfl
theorem gf_step {s : List SrcV} {now : Int} {x : InsV} {y : RouV} {z : OptV} {r r' : Bool} {os : List OptV} {P : Prop} (h : r = true ∨ (∃ z' ∈ z :: os, GF s now x y z') ∨ P) (h1 : r = true → r' = true) (h2 : GF s now x y z → r' = true) : r' = true ∨ (∃ z' ∈ os, GF s now x y z') ∨ P := by
  rcases h with h | ⟨z', hz, g⟩ | h
  · exact .inl (h1 h)
  · rcases List.mem_cons.1 hz with rfl | hz
    · exact .inl (h2 g)
    · exact .inr (.inl ⟨z', hz, g⟩)
  · exact .inr (.inr h)
set_option maxHeartbeats 32000000 in
theorem feasL_c (pt : Option Addr) (cap : Nat) (xs0 : List Int) (W : World) (hI : IntsAt W (.slice pt xs0.length cap) xs0) (hcap : xs0.length ≤ cap) :
    Cal Tryz.prog 3 [.slice pt xs0.length cap].toArray W fun v w' => v = .bool true ∧ Ext [] W w' := by
  have hmem : 0 < xs0.length → ∃ b o cs t fz, pt = some ⟨b, o, none⟩ ∧ W.heap[b]? = some (.cells cs t fz) ∧ seg cs.toList o xs0.length = some (i64C xs0) := fun hl => by
    obtain ⟨p', cap', h1, _, h3⟩ := hI.ex
    cases h1
    exact h3 hl
  refine fn_ofM (n := 132) [] Tryz.func3 rfl rfl rfl ?_
  intro a w F M hwW
  refine c_seq (c_region ?_)
  refine sD F (o_assign (F.ev rfl) ?_); clear F a; intro a F
  with_reducible refine l_nil (q_then (c_seq (c_region ?_)))
  refine sD F (o_move (F.ev rfl) ?_); clear F a; intro a F
  (refine sD F (o_call (F.ev rfl) (F.evs rfl) (Cal.mono (new_c xs0 _ (hI.later M.ext) hcap ) ?_)); clear F; clear a; rintro _ w ⟨bt, rfl, N⟩ a F; replace M := M.joins N; clear N)
  have hbt : W.heap.size ≤ bt := (M.own _ List.mem_cons_self).resolve_left (by simp)
  have hT : TapeS W bt pt (cut400 xs0).length (cut400 xs0) := tape_new (Ext.refl [] W) hbt hI.bd hmem
  generalize hxs : cut400 xs0 = xs at *
  generalize hlen : xs.length = len at *
  clear hxs hI hmem hcap
  simp only [List.cons_append, List.nil_append] at M
  have E0 := M.ext
  have hS0 : ∀ b ∈ [bt], W.heap.size ≤ b := fun b hb => by simp at hb; rw [hb]; exact hbt
  have hTw := hT.later E0.any
  obtain ⟨wb, hwb, M⟩ : ∃ wb, wb = w ∧ Mem [bt] wb w [(bt, tobj pt len cap 0)] := ⟨w, rfl, M.reR [bt] (by simp)⟩
  rw [← hwb] at E0 hTw
  have hbw : bt < wb.heap.size := by rw [hwb]; exact M.lt List.mem_cons_self
  clear hwb
  refine sD F (o_assign (F.ev rfl) ?_); clear F a; intro a F
  with_reducible refine l_nil (q_then (c_seq (c_region ?_)))
  refine sD F (o_move (F.ev rfl) ?_); clear F a; intro a F
  refine sD F (o_call (F.ev rfl) (F.evs rfl) (Cal.mono (base_c _ (by first | assumption | omega | exact And.left (by assumption) | exact (by assumption : SlAt _ _ _ _ _).later M.ext | exact TapeS.later (by assumption) M.ext | exact (SlN.laterB (by assumption) (by omega) M.ext).1 | exact M.heap (by repeat constructor) | decide) (by first | assumption | omega | exact And.left (by assumption) | exact (by assumption : SlAt _ _ _ _ _).later M.ext | exact TapeS.later (by assumption) M.ext | exact (SlN.laterB (by assumption) (by omega) M.ext).1 | exact M.heap (by repeat constructor) | decide)) ?_)); clear F; clear a; have M0 := M; have zb21 := M0.ext.size; clear M; rintro _ w ⟨x21, k'21, rfl, p21_1, N⟩ a F; replace M := M0.turn1 N (by repeat constructor); clear M0 N
  refine sD F (o_assign (F.ev rfl) ?_); clear F a; intro a F
  with_reducible refine l_nil (q_then (c_seq (c_region ?_)))
  refine sD F (o_move (F.ev rfl) ?_); clear F a; intro a F
  refine sD F (o_move (F.ev rfl) ?_); clear F a; intro a F
  refine sD F (o_call (F.ev rfl) (F.evs rfl) (Cal.mono (routesW_c _ (by first | assumption | omega | exact And.left (by assumption) | exact (by assumption : SlAt _ _ _ _ _).later M.ext | exact TapeS.later (by assumption) M.ext | exact (SlN.laterB (by assumption) (by omega) M.ext).1 | exact M.heap (by repeat constructor) | decide) (by first | assumption | omega | exact And.left (by assumption) | exact (by assumption : SlAt _ _ _ _ _).later M.ext | exact TapeS.later (by assumption) M.ext | exact (SlN.laterB (by assumption) (by omega) M.ext).1 | exact M.heap (by repeat constructor) | decide) _ (by first | assumption | omega | exact And.left (by assumption) | exact (by assumption : SlAt _ _ _ _ _).later M.ext | exact TapeS.later (by assumption) M.ext | exact (SlN.laterB (by assumption) (by omega) M.ext).1 | exact M.heap (by repeat constructor) | decide) (by first | assumption | omega | exact And.left (by assumption) | exact (by assumption : SlAt _ _ _ _ _).later M.ext | exact TapeS.later (by assumption) M.ext | exact (SlN.laterB (by assumption) (by omega) M.ext).1 | exact M.heap (by repeat constructor) | decide)) ?_)); clear F; clear a; have M0 := M; have zb24 := M0.ext.size; clear M; rintro v24 w ⟨l24, k'24, p24_0, p24_1, N⟩ a F; replace M := M0.turn1 N (by repeat constructor); clear M0 N
  replace hTw := hTw.later M.ext
  replace E0 := (M.unR E0 hS0).ext
  obtain ⟨wb, hwb, M⟩ : ∃ wb, wb = w ∧ Mem [bt] wb w [(bt, tobj pt len cap k'24)] := ⟨w, rfl, M.re (by simp)⟩
  rw [← hwb] at E0 hTw p24_0 
  have hbw : bt < wb.heap.size := by rw [hwb]; exact M.lt List.mem_cons_self
  clear hwb
  obtain ⟨l, hl0⟩ : ∃ l, l = l24 := ⟨_, rfl⟩
  rw [← hl0] at p24_0 p24_1
  clear hl0
  refine sD F (o_move (F.ev rfl) ?_); clear F a; intro a F
  refine sD F (o_move (F.ev rfl) ?_); clear F a; intro a F
  refine sD F (o_call (F.ev rfl) (F.evs rfl) (Cal.mono (sourcesW_c _ (by first | assumption | omega | exact And.left (by assumption) | exact (by assumption : SlAt _ _ _ _ _).later M.ext | exact TapeS.later (by assumption) M.ext | exact (SlN.laterB (by assumption) (by omega) M.ext).1 | exact M.heap (by repeat constructor) | decide) (by first | assumption | omega | exact And.left (by assumption) | exact (by assumption : SlAt _ _ _ _ _).later M.ext | exact TapeS.later (by assumption) M.ext | exact (SlN.laterB (by assumption) (by omega) M.ext).1 | exact M.heap (by repeat constructor) | decide) _ (by first | assumption | omega | exact And.left (by assumption) | exact (by assumption : SlAt _ _ _ _ _).later M.ext | exact TapeS.later (by assumption) M.ext | exact (SlN.laterB (by assumption) (by omega) M.ext).1 | exact M.heap (by repeat constructor) | decide) (by first | assumption | omega | exact And.left (by assumption) | exact (by assumption : SlAt _ _ _ _ _).later M.ext | exact TapeS.later (by assumption) M.ext | exact (SlN.laterB (by assumption) (by omega) M.ext).1 | exact M.heap (by repeat constructor) | decide)) ?_)); clear F; clear a; have M0 := M; have zb27 := M0.ext.size; clear M; rintro v27 w ⟨l27, k'27, p27_0, N⟩ a F; replace M := M0.turn1 N (by repeat constructor); clear M0 N
  replace p24_0 := p24_0.laterB (by omega) M.ext
  replace hTw := hTw.later M.ext
  replace E0 := (M.unR E0 hS0).ext
  obtain ⟨wb, hwb, M⟩ : ∃ wb, wb = w ∧ Mem [bt] wb w [(bt, tobj pt len cap k'27)] := ⟨w, rfl, M.re (by simp)⟩
  rw [← hwb] at E0 hTw p27_0 p24_0
  have hbw : bt < wb.heap.size := by rw [hwb]; exact M.lt List.mem_cons_self
  clear hwb
  obtain ⟨s, hl0⟩ : ∃ s, s = l27 := ⟨_, rfl⟩
  rw [← hl0] at p27_0
  clear hl0
  refine sD F (o_move (F.ev rfl) ?_); clear F a; intro a F
  refine sD F (o_call (F.ev rfl) (F.evs rfl) (Cal.mono (optionsW_c _ (by first | assumption | omega | exact And.left (by assumption) | exact (by assumption : SlAt _ _ _ _ _).later M.ext | exact TapeS.later (by assumption) M.ext | exact (SlN.laterB (by assumption) (by omega) M.ext).1 | exact M.heap (by repeat constructor) | decide) (by first | assumption | omega | exact And.left (by assumption) | exact (by assumption : SlAt _ _ _ _ _).later M.ext | exact TapeS.later (by assumption) M.ext | exact (SlN.laterB (by assumption) (by omega) M.ext).1 | exact M.heap (by repeat constructor) | decide)) ?_)); clear F; clear a; have M0 := M; have zb29 := M0.ext.size; clear M; rintro v29 w ⟨l29, k'29, p29_0, N⟩ a F; replace M := M0.turn1 N (by repeat constructor); clear M0 N
  replace p24_0 := p24_0.laterB (by omega) M.ext
  replace p27_0 := p27_0.laterB (by omega) M.ext
  replace hTw := hTw.later M.ext
  replace E0 := (M.unR E0 hS0).ext
  obtain ⟨wb, hwb, M⟩ : ∃ wb, wb = w ∧ Mem [bt] wb w [(bt, tobj pt len cap k'29)] := ⟨w, rfl, M.re (by simp)⟩
  rw [← hwb] at E0 hTw p29_0 p24_0 p27_0
  have hbw : bt < wb.heap.size := by rw [hwb]; exact M.lt List.mem_cons_self
  clear hwb
  obtain ⟨o, hl0⟩ : ∃ o, o = l29 := ⟨_, rfl⟩
  rw [← hl0] at p29_0
  clear hl0
  obtain ⟨ql, cl, rfl, _⟩ := id p24_0.at_.1
  obtain ⟨qs, cs0, rfl, _⟩ := id p27_0.at_.1
  obtain ⟨qo, co, rfl, _⟩ := id p29_0.at_.1
  have hlx := p24_0.is
  have hlv := p24_0.val
  have hsx0 := p27_0.is
  refine sD F (o_assign (F.ev rfl) ?_); clear F a; intro a F
  refine sD F (o_assign (F.ev rfl) ?_); clear F a; intro a F
  refine sD F (o_assign (F.ev rfl) ?_); clear F a; intro a F
  with_reducible refine l_nil (q_then (c_seq (c_region ?_)))
  refine sD F (o_move (F.ev rfl) ?_); clear F a; intro a F
  refine sD F (o_move (F.ev rfl) ?_); clear F a; intro a F
  refine sD F (o_call (F.ev rfl) (F.evs rfl) (Cal.mono (wtimeE_c _ (by first | assumption | omega | exact And.left (by assumption) | exact (by assumption : SlAt _ _ _ _ _).later M.ext | exact TapeS.later (by assumption) M.ext | exact (SlN.laterB (by assumption) (by omega) M.ext).1 | exact M.heap (by repeat constructor) | decide) (by first | assumption | omega | exact And.left (by assumption) | exact (by assumption : SlAt _ _ _ _ _).later M.ext | exact TapeS.later (by assumption) M.ext | exact (SlN.laterB (by assumption) (by omega) M.ext).1 | exact M.heap (by repeat constructor) | decide) _ (by first | assumption | omega | exact And.left (by assumption) | exact (by assumption : SlAt _ _ _ _ _).later M.ext | exact TapeS.later (by assumption) M.ext | exact (SlN.laterB (by assumption) (by omega) M.ext).1 | exact M.heap (by repeat constructor) | decide) (by first | assumption | omega | exact And.left (by assumption) | exact (by assumption : SlAt _ _ _ _ _).later M.ext | exact TapeS.later (by assumption) M.ext | exact (SlN.laterB (by assumption) (by omega) M.ext).1 | exact M.heap (by repeat constructor) | decide)) ?_)); clear F; clear a; have M0 := M; have zb32 := M0.ext.size; clear M; rintro _ w ⟨x32, k'32, rfl, p32_1, N⟩ a F; replace M := M0.turn1 N (by repeat constructor); clear M0 N
  refine sD F (o_assign (F.ev rfl) ?_); clear F a; intro a F
  with_reducible refine l_nil (q_then (c_seq (c_region ?_)))
  refine sD F (o_move (F.ev rfl) ?_); clear F a; intro a F
  refine sD F (o_move (F.ev rfl) ?_); clear F a; intro a F
  refine sD F (o_move (F.ev rfl) ?_); clear F a; intro a F
  refine sD F (o_move (F.ev rfl) ?_); clear F a; intro a F
  refine sD F (o_move (F.ev rfl) ?_); clear F a; intro a F
  refine sD F (o_move (F.ev rfl) ?_); clear F a; intro a F
  refine sD F (o_move (F.ev rfl) ?_); clear F a; intro a F
  (refine sD F (o_call (F.ev rfl) (F.evs rfl) (Cal.mono (installedK_c x21 (by omega) (by omega) l hlx hlv _ _ _ (p24_0.at_.laterB (by omega) M.ext) (by omega) (hTw.later M.ext) (M.heap .here) ) ?_)); clear F; clear a; have M0 := M; clear M; rintro _ w ⟨old, k3, hO, h7, N⟩ a F)
  have zb41 := M0.ext.size
  replace M := M0.turn1 N .here
  clear M0 N
  have hox : ∀ x ∈ old, IsIn x := fun x hx => (hO.ok x hx).1
  have hov := insR_valid hO h7
  (refine sD F (o_call (F.ev rfl) (F.evs rfl) (Cal.mono (select_c x32 l hlx s hsx0 o old hox _ _ _ _ _ (p24_0.at_.laterB (by omega) M.ext).1 (p27_0.at_.laterB (by omega) M.ext).1 (p29_0.at_.laterB (by omega) M.ext).1 hO.at_.1 ) ?_)); clear F; clear a; rintro _ w ⟨u, ent, rfl, hO1, N⟩ a F; replace M := M.joins N; clear N)
  have hsel : selectV x32 l s o old = (selV x32 l s o old, 0) := sel_ok hlx hox hlv p27_0.val p29_0.val hov (by assumption) (by omega)
  rw [hsel] at F hO1
  dsimp only at F hO1
  have hsx : ∀ x ∈ selV x32 l s o old, IsIn x := selI_is hlx hox
  have hsl : (selV x32 l s o old).length ≤ 512 := by have := selI_len (now := x32) (s := s) (o := o) (old := old) hlx hox; omega
  have hGF : ∀ x ∈ selV x32 l s o old, x.nb ≠ 0 → ∃ y ∈ l, ∃ z ∈ o, GF s x32 x y z := fun x hx hnb => gf_law hlx hlv p27_0.val (by assumption) (fun y hy => (hO.ok y hy).2) hx hnb
  generalize selV x32 l s o old = sv at *
  obtain ⟨now, hnow0⟩ : ∃ now, now = x32 := ⟨_, rfl⟩
  rw [← hnow0] at F hGF
  clear hsel hnow0
  have hOn := OwnS.slJ hO1 M (Nat.le_refl _)
  replace M := M.sub (List.sublist_append_right _ _)
  clear hO1 hO
  replace p24_0 := p24_0.laterB (by omega) M.ext
  replace p27_0 := p27_0.laterB (by omega) M.ext
  replace p29_0 := p29_0.laterB (by omega) M.ext
  replace hTw := hTw.later M.ext
  replace E0 := (M.unR E0 hS0).ext
  obtain ⟨wb, hwb, M⟩ : ∃ wb, wb = w ∧ Mem [bt] wb w [(bt, tobj pt len cap k3)] := ⟨w, rfl, M.re (by simp)⟩
  rw [← hwb] at E0 hTw hOn p24_0 p27_0 p29_0
  have hbw : bt < wb.heap.size := by rw [hwb]; exact M.lt List.mem_cons_self
  clear hwb
  obtain ⟨qu, cu, rfl, _⟩ := id hOn.1
  have ho16 := (validOs_iff.1 p29_0.val).1
  have hml := p24_0.at_.1.memB [bt] (fun b p s e => p24_0.at_.notIn (by omega) b p s _ _ (by rw [e]))
  have hmo := p29_0.at_.1.memB [bt] (fun b p s e => p29_0.at_.notIn (by omega) b p s _ _ (by rw [e]))
  have hmu := hOn.1.memB [bt] (fun b p s e => hOn.notIn (by omega) b p s _ _ (by rw [e]))
  have hSn := p27_0.at_
  refine sD F (o_move (F.ev rfl) ?_); clear F a; intro a F
  refine sD F (o_extract (F.ev rfl) rfl ?_); clear F a; intro a F
  refine sD F (o_extract (F.ev rfl) rfl ?_); clear F a; intro a F
  refine sD F (o_assign (F.ev rfl) ?_); clear F a; intro a F
  refine sD F (o_assign (F.ev rfl) ?_); clear F a; intro a F
  with_reducible refine l_nil (q_then (c_seq (c_seq (c_region ?_))))
  refine sD F (o_move (F.ev rfl) ?_); clear F a; intro a F
  refine sD F (o_neqF (F.ev rfl) (F.ev rfl) (by omega) ?_); clear F a; intro a F
  with_reducible refine l_nil (q_then ?_)
  refine c_false F rfl rfl ?_
  with_reducible refine c_skip (q_then (c_seq (c_seq (c_region ?_))))
  refine sD F (o_move (F.ev rfl) ?_); clear F a; intro a F
  refine sD F (o_lenSl (F.ev rfl) ?_); clear F a; intro a F
  refine sD F (o_move (F.ev rfl) ?_); clear F a; intro a F
  with_reducible refine l_nil (q_then (c_block ?_))
  refine c_loop (fun m a w => ∃ (n : Nat) , m = sv.length - n ∧ n ≤ sv.length ∧ Frm a 132 [] [(49, .int .i64 n), (48, .int .i64 sv.length), (47, .slice qu sv.length cu), (5, .slice ql l.length cl), (6, .slice qs s.length cs0), (7, .slice qo o.length co), (8, .int .i64 now)] ∧ Mem [bt] wb w [(bt, tobj pt len cap k3)]) sv.length ⟨0, rfl, by omega, F.only [49, 48, 47, 5, 6, 7, 8] rfl, M.sub (by repeat (first | exact .refl _ | apply List.Sublist.cons_cons | apply List.Sublist.cons))⟩ ?_
  clear F M a
  rintro m0 a w ⟨n, hm_n, hi_n, F, M⟩
  by_cases hlt_n : n < sv.length
  · obtain ⟨b0, p0, cc0, t', fz0, rfl, hb0, hs0⟩ := hmu (by omega)
    obtain ⟨x, hx0⟩ : ∃ x, x = sv[n] := ⟨_, rfl⟩
    have hxm : x ∈ sv := by rw [hx0]; exact List.getElem_mem hlt_n
    have hxi : IsIn x := hsx _ hxm
    have f0 : seg cc0 (p0 + (n : Int).toNat * 40) 40 = some (inC x) := by rw [hx0]; exact seg_el (ins_len hsx) hs0 hlt_n (by omega)
    clear hx0
    have hxt : IsDv x.to := hxi.1
    have hex : (!!decide (x.nb = 0)) = true ∨ ∃ y ∈ l.drop 0, ∃ z ∈ o, GF s now x y z := by
      by_cases h : x.nb = 0
      · exact .inl (by simp [h])
      · exact .inr (hGF x hxm h)
    refine c_seq (c_region ?_)
    refine sD F (o_lssT (F.ev rfl) (F.ev rfl) (by omega) ?_); clear F a; intro a F
    with_reducible refine l_nil (q_then (c_seq ?_))
    refine c_true F rfl rfl ?_
    with_reducible refine c_skip (q_then (c_seq (c_block (c_seq (c_region ?_)))))
    refine sD F (o_indexSl (F.ev rfl) (F.ev rfl) (by omega) (by omega) ?_); clear F a; intro a F
    refine sD F (o_loadEA M (F.ev rfl) (by assumption) (by with_reducible assumption) ?_); clear F a; intro a F
    refine sD F (o_alloc M ?_); clear F M; intro b12 w M a F
    refine stepN rfl F (o_storeA M (F.ev rfl) (F.ev rfl) (in_len (by first | assumption | trivial | exact And.left (by assumption) | exact ⟨by assumption, trivial⟩)) (in_one _) (by repeat constructor) (put_all (by rw [(in_len (by first | assumption | trivial | exact And.left (by assumption) | exact ⟨by assumption, trivial⟩))]; first | rfl | rw [(in_len (by first | assumption | trivial | exact And.left (by assumption) | exact ⟨by assumption, trivial⟩))])) (by repeat constructor) ?_); clear F M; intro w M a F
    with_reducible refine l_nil (q_then (c_seq (c_region ?_)))
    refine sD F (o_loadA M (F.ev rfl) (by repeat constructor) (in_all (by first | assumption | trivial | exact And.left (by assumption) | exact ⟨by assumption, trivial⟩)) ?_); clear F a; intro a F
    refine sD F (o_call (F.ev rfl) (F.evs rfl) (Cal.mono (refreach_c _ (by first | assumption | omega | exact And.left (by assumption) | exact (by assumption : SlAt _ _ _ _ _).later M.ext | exact TapeS.later (by assumption) M.ext | exact (SlN.laterB (by assumption) (by omega) M.ext).1 | exact M.heap (by repeat constructor) | decide) _) ?_)); clear F; clear a; rintro _ w ⟨rfl, hE⟩ a F; replace M := M.later hE; clear hE
    refine sD F (o_not (F.ev rfl) ?_); clear F a; intro a F
    refine sD F (o_assign (F.ev rfl) ?_); clear F a; intro a F
    with_reducible refine l_nil (q_then (c_seq (c_seq (c_region ?_))))
    refine sD F (o_move (F.ev rfl) ?_); clear F a; intro a F
    refine sD F (o_lenSl (F.ev rfl) ?_); clear F a; intro a F
    refine sD F (o_move (F.ev rfl) ?_); clear F a; intro a F
    with_reducible refine l_nil (q_then (c_block ?_))
    refine c_loop (fun m a w => ∃ (i : Nat) (r : Bool), m = l.length - i ∧ i ≤ l.length ∧ (r = true ∨ ∃ y ∈ l.drop i, ∃ z ∈ o, GF s now x y z) ∧ Frm a 132 [] [(58, .int .i64 i), (57, .int .i64 l.length), (56, .slice ql l.length cl), (13, .bool r), (49, .int .i64 n), (48, .int .i64 sv.length), (47, .slice (some ⟨b0, p0, none⟩) sv.length cu), (5, .slice ql l.length cl), (6, .slice qs s.length cs0), (7, .slice qo o.length co), (8, .int .i64 now), (12, .pointer (some ⟨b12, 0, none⟩))] ∧ Mem [bt] wb w [(b12, .cells (inC x).toArray 50 (0, 0)), (bt, tobj pt len cap k3)]) l.length ⟨0, _, rfl, by omega, hex, F.only [58, 57, 56, 13, 49, 48, 47, 5, 6, 7, 8, 12] rfl, M.sub (by repeat (first | exact .refl _ | apply List.Sublist.cons_cons | apply List.Sublist.cons))⟩ ?_
    clear F M a
    rintro m a w ⟨i, r, hm_i, hi_i, hinv, F, M⟩
    by_cases hlt_i : i < l.length
    · obtain ⟨b1, p1, cc1, t', fz1, rfl, hb1, hs1⟩ := hml (by omega)
      obtain ⟨y, hy0⟩ : ∃ y, y = l[i] := ⟨_, rfl⟩
      have hym : y ∈ l := by rw [hy0]; exact List.getElem_mem hlt_i
      have hyi : IsRo y := hlx _ hym
      have f1 : seg cc1 (p1 + (i : Int).toNat * 39) 39 = some (roC y) := by rw [hy0]; exact seg_el (ros_len hlx) hs1 hlt_i (by omega)
      rw [← List.getElem_cons_drop hlt_i, ← hy0] at hinv
      clear hy0
      have hyt : IsDv y.to := hyi.1
      have hin2 : r = true ∨ (∃ z ∈ o.drop 0, GF s now x y z) ∨ ∃ y ∈ l.drop (i + 1), ∃ z ∈ o, GF s now x y z := by
        rcases hinv with h | ⟨y', hy', h⟩
        · exact .inl h
        · rcases List.mem_cons.1 hy' with rfl | hy'
          · exact .inr (.inl h)
          · exact .inr (.inr ⟨y', hy', h⟩)
      clear hinv
      refine c_seq (c_region ?_)
      refine sD F (o_lssT (F.ev rfl) (F.ev rfl) (by omega) ?_); clear F a; intro a F
      with_reducible refine l_nil (q_then (c_seq ?_))
      refine c_true F rfl rfl ?_
      with_reducible refine c_skip (q_then (c_seq (c_block (c_seq (c_region ?_)))))
      refine sD F (o_indexSl (F.ev rfl) (F.ev rfl) (by omega) (by omega) ?_); clear F a; intro a F
      refine sD F (o_loadEA M (F.ev rfl) (by assumption) (by with_reducible assumption) ?_); clear F a; intro a F
      refine sD F (o_alloc M ?_); clear F M; intro b15 w M a F
      refine stepN rfl F (o_storeA M (F.ev rfl) (F.ev rfl) (ro_len (by first | assumption | trivial | exact And.left (by assumption) | exact ⟨by assumption, trivial⟩)) (ro_one _) (by repeat constructor) (put_all (by rw [(ro_len (by first | assumption | trivial | exact And.left (by assumption) | exact ⟨by assumption, trivial⟩))]; first | rfl | rw [(ro_len (by first | assumption | trivial | exact And.left (by assumption) | exact ⟨by assumption, trivial⟩))])) (by repeat constructor) ?_); clear F M; intro w M a F
      with_reducible refine l_nil (q_then (c_seq (c_region ?_)))
      refine sD F (o_move (F.ev rfl) ?_); clear F a; intro a F
      refine sD F (o_lenSl (F.ev rfl) ?_); clear F a; intro a F
      refine sD F (o_move (F.ev rfl) ?_); clear F a; intro a F
      with_reducible refine l_nil (q_then (c_block ?_))
      refine c_loop (fun m a w => ∃ (j : Nat) (r : Bool), m = o.length - j ∧ j ≤ o.length ∧ (r = true ∨ (∃ z ∈ o.drop j, GF s now x y z) ∨ ∃ y ∈ l.drop (i + 1), ∃ z ∈ o, GF s now x y z) ∧ Frm a 132 [] [(64, .int .i64 j), (63, .int .i64 o.length), (62, .slice qo o.length co), (13, .bool r), (58, .int .i64 i), (57, .int .i64 l.length), (56, .slice (some ⟨b1, p1, none⟩) l.length cl), (49, .int .i64 n), (48, .int .i64 sv.length), (47, .slice (some ⟨b0, p0, none⟩) sv.length cu), (5, .slice (some ⟨b1, p1, none⟩) l.length cl), (6, .slice qs s.length cs0), (7, .slice qo o.length co), (8, .int .i64 now), (12, .pointer (some ⟨b12, 0, none⟩)), (15, .pointer (some ⟨b15, 0, none⟩))] ∧ Mem [bt] wb w [(b15, .cells (roC y).toArray 53 (0, 0)), (b12, .cells (inC x).toArray 50 (0, 0)), (bt, tobj pt len cap k3)]) o.length ⟨0, _, rfl, by omega, hin2, F.only [64, 63, 62, 13, 58, 57, 56, 49, 48, 47, 5, 6, 7, 8, 12, 15] rfl, M.sub (by repeat (first | exact .refl _ | apply List.Sublist.cons_cons | apply List.Sublist.cons))⟩ ?_
      clear F M a
      rintro m2 a w ⟨j, r, hm_j, hi_j, hinv, F, M⟩
      by_cases hlt_j : j < o.length
      · obtain ⟨b2, p2, cc2, t', fz2, rfl, hb2, hs2⟩ := hmo (by omega)
        obtain ⟨z, hz0⟩ : ∃ z, z = o[j] := ⟨_, rfl⟩
        have hzm : z ∈ o := by rw [hz0]; exact List.getElem_mem hlt_j
        have hzi : IsOp z := (fun _ _ => trivial) _ hzm
        have f2 : seg cc2 (p2 + (j : Int).toNat * 2) 2 = some (opC z) := by rw [hz0]; exact seg_el (ops_len (fun _ _ => trivial)) hs2 hlt_j (by omega)
        rw [← List.getElem_cons_drop hlt_j, ← hz0] at hinv
        clear hz0
        refine c_seq (c_region ?_)
        refine sD F (o_lssT (F.ev rfl) (F.ev rfl) (by omega) ?_); clear F a; intro a F
        with_reducible refine l_nil (q_then (c_seq ?_))
        refine c_true F rfl rfl ?_
        with_reducible refine c_skip (q_then (c_seq (c_block (c_seq (c_region ?_)))))
        refine sD F (o_indexSl (F.ev rfl) (F.ev rfl) (by omega) (by omega) ?_); clear F a; intro a F
        refine sD F (o_loadEA M (F.ev rfl) (by assumption) (by with_reducible assumption) ?_); clear F a; intro a F
        refine sD F (o_alloc M ?_); clear F M; intro b17 w M a F
        refine stepN rfl F (o_storeA M (F.ev rfl) (F.ev rfl) (op_len (by first | assumption | trivial | exact And.left (by assumption) | exact ⟨by assumption, trivial⟩)) (op_one _) (by repeat constructor) (put_all (by rw [(op_len (by first | assumption | trivial | exact And.left (by assumption) | exact ⟨by assumption, trivial⟩))]; first | rfl | rw [(op_len (by first | assumption | trivial | exact And.left (by assumption) | exact ⟨by assumption, trivial⟩))])) (by repeat constructor) ?_); clear F M; intro w M a F
        with_reducible refine l_nil (q_then (c_seq (c_region ?_)))
        refine sD F (o_fieldAddr (F.ev rfl) ?_); clear F a; intro a F
        refine sD F (o_loadA M (F.ev rfl) (by repeat constructor) (ro_to (by first | assumption | trivial | exact And.left (by assumption) | exact ⟨by assumption, trivial⟩)) ?_); clear F a; intro a F
        refine sD F (o_fieldAddr (F.ev rfl) ?_); clear F a; intro a F
        refine sD F (o_loadA M (F.ev rfl) (by repeat constructor) (in_to (by first | assumption | trivial | exact And.left (by assumption) | exact ⟨by assumption, trivial⟩)) ?_); clear F a; intro a F
        refine sD F (o_eqlAE (F.ev rfl) (F.ev rfl) (dv_fits (by first | assumption | trivial | exact And.left (by assumption) | exact ⟨by assumption, trivial⟩)) (dv_fits (by first | assumption | trivial | exact And.left (by assumption) | exact ⟨by assumption, trivial⟩)) (dv_eq (by first | assumption | trivial | exact And.left (by assumption) | exact ⟨by assumption, trivial⟩) (by first | assumption | trivial | exact And.left (by assumption) | exact ⟨by assumption, trivial⟩)) ?_); clear F a; intro a F
        refine sD F (o_move (F.ev rfl) ?_); clear F a; intro a F
        refine b_split F 73 rfl (fun h1 => ?_) (fun h1 => ?_)
        · skip
          rw [h1] at F; replace h1 := of_decide_eq_true h1
          refine sG F (o_fieldAddr (F.ev rfl) ?_); clear F a; intro a F
          refine sG F (o_load1 M (F.ev rfl) (by repeat constructor) (ro_nb (by first | assumption | trivial | exact And.left (by assumption) | exact ⟨by assumption, trivial⟩)) ?_); clear F a; intro a F
          refine sG F (o_fieldAddr (F.ev rfl) ?_); clear F a; intro a F
          refine sG F (o_load1 M (F.ev rfl) (by repeat constructor) (in_nb (by first | assumption | trivial | exact And.left (by assumption) | exact ⟨by assumption, trivial⟩)) ?_); clear F a; intro a F
          refine sG F (o_eql (F.ev rfl) (F.ev rfl) ?_); clear F a; intro a F
          refine sD F (o_pickT (F.ev rfl) (F.ev rfl) ?_); clear F a; intro a F
          refine sD F (o_move (F.ev rfl) ?_); clear F a; intro a F
          refine b_split F 80 rfl (fun h2 => ?_) (fun h2 => ?_)
          · skip
            rw [h2] at F; replace h2 := of_decide_eq_true h2
            refine sG F (o_fieldAddr (F.ev rfl) ?_); clear F a; intro a F
            refine sG F (o_load1 M (F.ev rfl) (by repeat constructor) (ro_til (by first | assumption | trivial | exact And.left (by assumption) | exact ⟨by assumption, trivial⟩)) ?_); clear F a; intro a F
            refine sG F (o_move (F.ev rfl) ?_); clear F a; intro a F
            refine sG F (o_gtr (F.ev rfl) (F.ev rfl) ?_); clear F a; intro a F
            refine sD F (o_pickT (F.ev rfl) (F.ev rfl) ?_); clear F a; intro a F
            refine sD F (o_move (F.ev rfl) ?_); clear F a; intro a F
            refine b_split F 86 rfl (fun h3 => ?_) (fun h3 => ?_)
            · skip
              rw [h3] at F; replace h3 := of_decide_eq_true h3
              refine sG F (o_fieldAddr (F.ev rfl) ?_); clear F a; intro a F
              refine sG F (o_load1 M (F.ev rfl) (by repeat constructor) (op_nb (by first | assumption | trivial | exact And.left (by assumption) | exact ⟨by assumption, trivial⟩)) ?_); clear F a; intro a F
              refine sG F (o_fieldAddr (F.ev rfl) ?_); clear F a; intro a F
              refine sG F (o_load1 M (F.ev rfl) (by repeat constructor) (in_nb (by first | assumption | trivial | exact And.left (by assumption) | exact ⟨by assumption, trivial⟩)) ?_); clear F a; intro a F
              refine sG F (o_eql (F.ev rfl) (F.ev rfl) ?_); clear F a; intro a F
              refine sD F (o_pickT (F.ev rfl) (F.ev rfl) ?_); clear F a; intro a F
              refine sD F (o_move (F.ev rfl) ?_); clear F a; intro a F
              refine b_split F 93 rfl (fun h4 => ?_) (fun h4 => ?_)
              · skip
                rw [h4] at F; replace h4 := of_decide_eq_true h4
                refine sG F (o_fieldAddr (F.ev rfl) ?_); clear F a; intro a F
                refine sG F (o_load1 M (F.ev rfl) (by repeat constructor) (op_cost (by first | assumption | trivial | exact And.left (by assumption) | exact ⟨by assumption, trivial⟩)) ?_); clear F a; intro a F
                refine sG F (o_lss (F.ev rfl) (F.ev rfl) ?_); clear F a; intro a F
                refine sD F (o_pickT (F.ev rfl) (F.ev rfl) ?_); clear F a; intro a F
                with_reducible refine l_nil (q_then ?_)
                refine c_if F rfl (fun h5 => ?_) (fun h5 => ?_)
                · skip
                  rw [h5] at F; replace h5 := of_decide_eq_true h5
                  refine c_region ?_
                  refine sD F (o_move (F.ev rfl) ?_); clear F a; intro a F
                  refine sD F (o_move (F.ev rfl) ?_); clear F a; intro a F
                  refine b_split F 99 rfl (fun h6 => ?_) (fun h6 => ?_)
                  · skip
                    rw [h6] at F
                    refine sO F ?_; clear F a; intro a F
                    refine sO F ?_; clear F a; intro a F
                    refine sO F ?_; clear F a; intro a F
                    refine sO F ?_; clear F a; intro a F
                    refine sO F ?_; clear F a; intro a F
                    refine sO F ?_; clear F a; intro a F
                    refine sO F ?_; clear F a; intro a F
                    refine sO F ?_; clear F a; intro a F
                    refine sO F ?_; clear F a; intro a F
                    refine sO F ?_; clear F a; intro a F
                    refine sO F ?_; clear F a; intro a F
                    refine sO F ?_; clear F a; intro a F
                    refine sO F ?_; clear F a; intro a F
                    refine sO F ?_; clear F a; intro a F
                    refine sO F ?_; clear F a; intro a F
                    refine sO F ?_; clear F a; intro a F
                    refine sO F ?_; clear F a; intro a F
                    refine sO F ?_; clear F a; intro a F
                    refine sO F ?_; clear F a; intro a F
                    refine sO F ?_; clear F a; intro a F
                    refine sO F ?_; clear F a; intro a F
                    refine sO F ?_; clear F a; intro a F
                    refine sO F ?_; clear F a; intro a F
                    refine sO F ?_; clear F a; intro a F
                    refine sO F ?_; clear F a; intro a F
                    refine sD F (o_pickT (F.ev rfl) (F.ev rfl) ?_); clear F a; intro a F
                    refine sD F (o_assign (F.ev rfl) ?_); clear F a; intro a F
                    with_reducible refine l_nil (q_inB (q_then (c_region ?_)))
                    refine sD F (o_add (F.ev rfl) (F.ev rfl) (w_i64 (by omega) (by omega)) ?_); clear F a; intro a F
                    refine sD F (o_move (F.ev rfl) ?_); clear F a; intro a F
                    with_reducible refine l_nil (q_then ?_)
                    exact ⟨_, by omega, j + 1, _, rfl, by omega, gf_step hinv (by intro h; first | exact h | rfl | exact absurd h (by simp [*])) (by rintro ⟨g1, g2, g3, g4, g5, g6, g7, g8⟩; first | rfl | exact beq_iff_eq.2 g8 | (exfalso; first | omega | contradiction | exact Bool.false_ne_true ((by assumption : rfeasV _ _ _ _ = false).symm.trans g6))), F.only [64, 63, 62, 13, 58, 57, 56, 49, 48, 47, 5, 6, 7, 8, 12, 15] rfl, M.sub (by repeat (first | exact .refl _ | apply List.Sublist.cons))⟩
                  · skip
                    rw [h6] at F
                    refine sG F (o_move (F.ev rfl) ?_); clear F a; intro a F
                    refine sG F (o_move (F.ev rfl) ?_); clear F a; intro a F
                    refine sG F (o_fieldAddr (F.ev rfl) ?_); clear F a; intro a F
                    refine sG F (o_loadA M (F.ev rfl) (by repeat constructor) (in_to (by first | assumption | trivial | exact And.left (by assumption) | exact ⟨by assumption, trivial⟩)) ?_); clear F a; intro a F
                    refine sG F (o_fieldAddr (F.ev rfl) ?_); clear F a; intro a F
                    refine sG F (o_loadA M (F.ev rfl) (by repeat constructor) (ro_said (by first | assumption | trivial | exact And.left (by assumption) | exact ⟨by assumption, trivial⟩)) ?_); clear F a; intro a F
                    refine sG F (o_call (F.ev rfl) (F.evs rfl) (Cal.mono (rfeas_c _ (by first | assumption | omega | exact And.left (by assumption) | exact (by assumption : SlAt _ _ _ _ _).later M.ext | exact TapeS.later (by assumption) M.ext | exact (SlN.laterB (by assumption) (by omega) M.ext).1 | exact M.heap (by repeat constructor) | decide) _ _ _ (by first | assumption | omega | exact And.left (by assumption) | exact (by assumption : SlAt _ _ _ _ _).later M.ext | exact TapeS.later (by assumption) M.ext | exact (SlN.laterB (by assumption) (by omega) M.ext).1 | exact M.heap (by repeat constructor) | decide) _ _ (by first | assumption | omega | exact And.left (by assumption) | exact (by assumption : SlAt _ _ _ _ _).later M.ext | exact TapeS.later (by assumption) M.ext | exact (SlN.laterB (by assumption) (by omega) M.ext).1 | exact M.heap (by repeat constructor) | decide)) ?_)); clear F; clear a; rintro _ w ⟨rfl, hE⟩ a F; replace M := M.later hE; clear hE
                    refine sG F (o_move (F.ev rfl) ?_); clear F a; intro a F
                    refine b_split F 107 rfl (fun h7 => ?_) (fun h7 => ?_)
                    · skip
                      rw [h7] at F
                      refine sG F (o_fieldAddr (F.ev rfl) ?_); clear F a; intro a F
                      refine sG F (o_fieldAddr (F.ev rfl) ?_); clear F a; intro a F
                      refine sG F (o_load1 M (F.ev rfl) (by repeat constructor) (in_own_met (by first | assumption | trivial | exact And.left (by assumption) | exact ⟨by assumption, trivial⟩)) ?_); clear F a; intro a F
                      refine sG F (o_fieldAddr (F.ev rfl) ?_); clear F a; intro a F
                      refine sG F (o_fieldAddr (F.ev rfl) ?_); clear F a; intro a F
                      refine sG F (o_load1 M (F.ev rfl) (by repeat constructor) (ro_said_met (by first | assumption | trivial | exact And.left (by assumption) | exact ⟨by assumption, trivial⟩)) ?_); clear F a; intro a F
                      refine sG F (o_gtr (F.ev rfl) (F.ev rfl) ?_); clear F a; intro a F
                      refine sG F (o_pickT (F.ev rfl) (F.ev rfl) ?_); clear F a; intro a F
                      refine sG F (o_move (F.ev rfl) ?_); clear F a; intro a F
                      refine b_split F 116 rfl (fun h8 => ?_) (fun h8 => ?_)
                      · skip
                        rw [h8] at F; replace h8 := of_decide_eq_true h8
                        refine sG F (o_fieldAddr (F.ev rfl) ?_); clear F a; intro a F
                        refine sG F (o_fieldAddr (F.ev rfl) ?_); clear F a; intro a F
                        refine sG F (o_load1 M (F.ev rfl) (by repeat constructor) (in_own_seq (by first | assumption | trivial | exact And.left (by assumption) | exact ⟨by assumption, trivial⟩)) ?_); clear F a; intro a F
                        refine sG F (o_fieldAddr (F.ev rfl) ?_); clear F a; intro a F
                        refine sG F (o_fieldAddr (F.ev rfl) ?_); clear F a; intro a F
                        refine sG F (o_load1 M (F.ev rfl) (by repeat constructor) (ro_said_seq (by first | assumption | trivial | exact And.left (by assumption) | exact ⟨by assumption, trivial⟩)) ?_); clear F a; intro a F
                        refine sG F (o_eql (F.ev rfl) (F.ev rfl) ?_); clear F a; intro a F
                        refine sG F (o_pickT (F.ev rfl) (F.ev rfl) ?_); clear F a; intro a F
                        refine sD F (o_pickF (F.ev rfl) (F.ev rfl) ?_); clear F a; intro a F
                        refine sD F (o_assign (F.ev rfl) ?_); clear F a; intro a F
                        with_reducible refine l_nil (q_inB (q_then (c_region ?_)))
                        refine sD F (o_add (F.ev rfl) (F.ev rfl) (w_i64 (by omega) (by omega)) ?_); clear F a; intro a F
                        refine sD F (o_move (F.ev rfl) ?_); clear F a; intro a F
                        with_reducible refine l_nil (q_then ?_)
                        exact ⟨_, by omega, j + 1, _, rfl, by omega, gf_step hinv (by intro h; first | exact h | rfl | exact absurd h (by simp [*])) (by rintro ⟨g1, g2, g3, g4, g5, g6, g7, g8⟩; first | rfl | exact beq_iff_eq.2 g8 | (exfalso; first | omega | contradiction | exact Bool.false_ne_true ((by assumption : rfeasV _ _ _ _ = false).symm.trans g6))), F.only [64, 63, 62, 13, 58, 57, 56, 49, 48, 47, 5, 6, 7, 8, 12, 15] rfl, M.sub (by repeat (first | exact .refl _ | apply List.Sublist.cons))⟩
                      · skip
                        rw [h8] at F; replace h8 := of_decide_eq_false h8
                        refine sO F ?_; clear F a; intro a F
                        refine sO F ?_; clear F a; intro a F
                        refine sO F ?_; clear F a; intro a F
                        refine sO F ?_; clear F a; intro a F
                        refine sO F ?_; clear F a; intro a F
                        refine sO F ?_; clear F a; intro a F
                        refine sO F ?_; clear F a; intro a F
                        refine sG F (o_pickF (F.ev rfl) (F.ev rfl) ?_); clear F a; intro a F
                        refine sD F (o_pickF (F.ev rfl) (F.ev rfl) ?_); clear F a; intro a F
                        refine sD F (o_assign (F.ev rfl) ?_); clear F a; intro a F
                        with_reducible refine l_nil (q_inB (q_then (c_region ?_)))
                        refine sD F (o_add (F.ev rfl) (F.ev rfl) (w_i64 (by omega) (by omega)) ?_); clear F a; intro a F
                        refine sD F (o_move (F.ev rfl) ?_); clear F a; intro a F
                        with_reducible refine l_nil (q_then ?_)
                        exact ⟨_, by omega, j + 1, _, rfl, by omega, gf_step hinv (by intro h; first | exact h | rfl | exact absurd h (by simp [*])) (by rintro ⟨g1, g2, g3, g4, g5, g6, g7, g8⟩; first | rfl | exact beq_iff_eq.2 g8 | (exfalso; first | omega | contradiction | exact Bool.false_ne_true ((by assumption : rfeasV _ _ _ _ = false).symm.trans g6))), F.only [64, 63, 62, 13, 58, 57, 56, 49, 48, 47, 5, 6, 7, 8, 12, 15] rfl, M.sub (by repeat (first | exact .refl _ | apply List.Sublist.cons))⟩
                    · skip
                      rw [h7] at F
                      refine sO F ?_; clear F a; intro a F
                      refine sO F ?_; clear F a; intro a F
                      refine sO F ?_; clear F a; intro a F
                      refine sO F ?_; clear F a; intro a F
                      refine sO F ?_; clear F a; intro a F
                      refine sO F ?_; clear F a; intro a F
                      refine sO F ?_; clear F a; intro a F
                      refine sG F (o_pickF (F.ev rfl) (F.ev rfl) ?_); clear F a; intro a F
                      refine sG F (o_move (F.ev rfl) ?_); clear F a; intro a F
                      refine sO F ?_; clear F a; intro a F
                      refine sO F ?_; clear F a; intro a F
                      refine sO F ?_; clear F a; intro a F
                      refine sO F ?_; clear F a; intro a F
                      refine sO F ?_; clear F a; intro a F
                      refine sO F ?_; clear F a; intro a F
                      refine sO F ?_; clear F a; intro a F
                      refine sG F (o_pickF (F.ev rfl) (F.ev rfl) ?_); clear F a; intro a F
                      refine sD F (o_pickF (F.ev rfl) (F.ev rfl) ?_); clear F a; intro a F
                      refine sD F (o_assign (F.ev rfl) ?_); clear F a; intro a F
                      with_reducible refine l_nil (q_inB (q_then (c_region ?_)))
                      refine sD F (o_add (F.ev rfl) (F.ev rfl) (w_i64 (by omega) (by omega)) ?_); clear F a; intro a F
                      refine sD F (o_move (F.ev rfl) ?_); clear F a; intro a F
                      with_reducible refine l_nil (q_then ?_)
                      exact ⟨_, by omega, j + 1, _, rfl, by omega, gf_step hinv (by intro h; first | exact h | rfl | exact absurd h (by simp [*])) (by rintro ⟨g1, g2, g3, g4, g5, g6, g7, g8⟩; first | rfl | exact beq_iff_eq.2 g8 | (exfalso; first | omega | contradiction | exact Bool.false_ne_true ((by assumption : rfeasV _ _ _ _ = false).symm.trans g6))), F.only [64, 63, 62, 13, 58, 57, 56, 49, 48, 47, 5, 6, 7, 8, 12, 15] rfl, M.sub (by repeat (first | exact .refl _ | apply List.Sublist.cons))⟩
                · skip
                  rw [h5] at F; replace h5 := of_decide_eq_false h5
                  with_reducible refine c_skip (q_inB (q_then (c_region ?_)))
                  refine sD F (o_add (F.ev rfl) (F.ev rfl) (w_i64 (by omega) (by omega)) ?_); clear F a; intro a F
                  refine sD F (o_move (F.ev rfl) ?_); clear F a; intro a F
                  with_reducible refine l_nil (q_then ?_)
                  exact ⟨_, by omega, j + 1, _, rfl, by omega, gf_step hinv (by intro h; first | exact h | rfl | exact absurd h (by simp [*])) (by rintro ⟨g1, g2, g3, g4, g5, g6, g7, g8⟩; first | rfl | exact beq_iff_eq.2 g8 | (exfalso; first | omega | contradiction | exact Bool.false_ne_true ((by assumption : rfeasV _ _ _ _ = false).symm.trans g6))), F.only [64, 63, 62, 13, 58, 57, 56, 49, 48, 47, 5, 6, 7, 8, 12, 15] rfl, M.sub (by repeat (first | exact .refl _ | apply List.Sublist.cons))⟩
              · skip
                rw [h4] at F; replace h4 := of_decide_eq_false h4
                refine sO F ?_; clear F a; intro a F
                refine sO F ?_; clear F a; intro a F
                refine sO F ?_; clear F a; intro a F
                refine sD F (o_pickF (F.ev rfl) (F.ev rfl) ?_); clear F a; intro a F
                with_reducible refine l_nil (q_then ?_)
                refine c_false F rfl rfl ?_
                with_reducible refine c_skip (q_inB (q_then (c_region ?_)))
                refine sD F (o_add (F.ev rfl) (F.ev rfl) (w_i64 (by omega) (by omega)) ?_); clear F a; intro a F
                refine sD F (o_move (F.ev rfl) ?_); clear F a; intro a F
                with_reducible refine l_nil (q_then ?_)
                exact ⟨_, by omega, j + 1, _, rfl, by omega, gf_step hinv (by intro h; first | exact h | rfl | exact absurd h (by simp [*])) (by rintro ⟨g1, g2, g3, g4, g5, g6, g7, g8⟩; first | rfl | exact beq_iff_eq.2 g8 | (exfalso; first | omega | contradiction | exact Bool.false_ne_true ((by assumption : rfeasV _ _ _ _ = false).symm.trans g6))), F.only [64, 63, 62, 13, 58, 57, 56, 49, 48, 47, 5, 6, 7, 8, 12, 15] rfl, M.sub (by repeat (first | exact .refl _ | apply List.Sublist.cons))⟩
            · skip
              rw [h3] at F; replace h3 := of_decide_eq_false h3
              refine sO F ?_; clear F a; intro a F
              refine sO F ?_; clear F a; intro a F
              refine sO F ?_; clear F a; intro a F
              refine sO F ?_; clear F a; intro a F
              refine sO F ?_; clear F a; intro a F
              refine sD F (o_pickF (F.ev rfl) (F.ev rfl) ?_); clear F a; intro a F
              refine sD F (o_move (F.ev rfl) ?_); clear F a; intro a F
              refine sO F ?_; clear F a; intro a F
              refine sO F ?_; clear F a; intro a F
              refine sO F ?_; clear F a; intro a F
              refine sD F (o_pickF (F.ev rfl) (F.ev rfl) ?_); clear F a; intro a F
              with_reducible refine l_nil (q_then ?_)
              refine c_false F rfl rfl ?_
              with_reducible refine c_skip (q_inB (q_then (c_region ?_)))
              refine sD F (o_add (F.ev rfl) (F.ev rfl) (w_i64 (by omega) (by omega)) ?_); clear F a; intro a F
              refine sD F (o_move (F.ev rfl) ?_); clear F a; intro a F
              with_reducible refine l_nil (q_then ?_)
              exact ⟨_, by omega, j + 1, _, rfl, by omega, gf_step hinv (by intro h; first | exact h | rfl | exact absurd h (by simp [*])) (by rintro ⟨g1, g2, g3, g4, g5, g6, g7, g8⟩; first | rfl | exact beq_iff_eq.2 g8 | (exfalso; first | omega | contradiction | exact Bool.false_ne_true ((by assumption : rfeasV _ _ _ _ = false).symm.trans g6))), F.only [64, 63, 62, 13, 58, 57, 56, 49, 48, 47, 5, 6, 7, 8, 12, 15] rfl, M.sub (by repeat (first | exact .refl _ | apply List.Sublist.cons))⟩
          · skip
            rw [h2] at F; replace h2 := of_decide_eq_false h2
            refine sO F ?_; clear F a; intro a F
            refine sO F ?_; clear F a; intro a F
            refine sO F ?_; clear F a; intro a F
            refine sO F ?_; clear F a; intro a F
            refine sD F (o_pickF (F.ev rfl) (F.ev rfl) ?_); clear F a; intro a F
            refine sD F (o_move (F.ev rfl) ?_); clear F a; intro a F
            refine sO F ?_; clear F a; intro a F
            refine sO F ?_; clear F a; intro a F
            refine sO F ?_; clear F a; intro a F
            refine sO F ?_; clear F a; intro a F
            refine sO F ?_; clear F a; intro a F
            refine sD F (o_pickF (F.ev rfl) (F.ev rfl) ?_); clear F a; intro a F
            refine sD F (o_move (F.ev rfl) ?_); clear F a; intro a F
            refine sO F ?_; clear F a; intro a F
            refine sO F ?_; clear F a; intro a F
            refine sO F ?_; clear F a; intro a F
            refine sD F (o_pickF (F.ev rfl) (F.ev rfl) ?_); clear F a; intro a F
            with_reducible refine l_nil (q_then ?_)
            refine c_false F rfl rfl ?_
            with_reducible refine c_skip (q_inB (q_then (c_region ?_)))
            refine sD F (o_add (F.ev rfl) (F.ev rfl) (w_i64 (by omega) (by omega)) ?_); clear F a; intro a F
            refine sD F (o_move (F.ev rfl) ?_); clear F a; intro a F
            with_reducible refine l_nil (q_then ?_)
            exact ⟨_, by omega, j + 1, _, rfl, by omega, gf_step hinv (by intro h; first | exact h | rfl | exact absurd h (by simp [*])) (by rintro ⟨g1, g2, g3, g4, g5, g6, g7, g8⟩; first | rfl | exact beq_iff_eq.2 g8 | (exfalso; first | omega | contradiction | exact Bool.false_ne_true ((by assumption : rfeasV _ _ _ _ = false).symm.trans g6))), F.only [64, 63, 62, 13, 58, 57, 56, 49, 48, 47, 5, 6, 7, 8, 12, 15] rfl, M.sub (by repeat (first | exact .refl _ | apply List.Sublist.cons))⟩
        · skip
          rw [h1] at F; replace h1 := of_decide_eq_false h1
          refine sO F ?_; clear F a; intro a F
          refine sO F ?_; clear F a; intro a F
          refine sO F ?_; clear F a; intro a F
          refine sO F ?_; clear F a; intro a F
          refine sO F ?_; clear F a; intro a F
          refine sD F (o_pickF (F.ev rfl) (F.ev rfl) ?_); clear F a; intro a F
          refine sD F (o_move (F.ev rfl) ?_); clear F a; intro a F
          refine sO F ?_; clear F a; intro a F
          refine sO F ?_; clear F a; intro a F
          refine sO F ?_; clear F a; intro a F
          refine sO F ?_; clear F a; intro a F
          refine sD F (o_pickF (F.ev rfl) (F.ev rfl) ?_); clear F a; intro a F
          refine sD F (o_move (F.ev rfl) ?_); clear F a; intro a F
          refine sO F ?_; clear F a; intro a F
          refine sO F ?_; clear F a; intro a F
          refine sO F ?_; clear F a; intro a F
          refine sO F ?_; clear F a; intro a F
          refine sO F ?_; clear F a; intro a F
          refine sD F (o_pickF (F.ev rfl) (F.ev rfl) ?_); clear F a; intro a F
          refine sD F (o_move (F.ev rfl) ?_); clear F a; intro a F
          refine sO F ?_; clear F a; intro a F
          refine sO F ?_; clear F a; intro a F
          refine sO F ?_; clear F a; intro a F
          refine sD F (o_pickF (F.ev rfl) (F.ev rfl) ?_); clear F a; intro a F
          with_reducible refine l_nil (q_then ?_)
          refine c_false F rfl rfl ?_
          with_reducible refine c_skip (q_inB (q_then (c_region ?_)))
          refine sD F (o_add (F.ev rfl) (F.ev rfl) (w_i64 (by omega) (by omega)) ?_); clear F a; intro a F
          refine sD F (o_move (F.ev rfl) ?_); clear F a; intro a F
          with_reducible refine l_nil (q_then ?_)
          exact ⟨_, by omega, j + 1, _, rfl, by omega, gf_step hinv (by intro h; first | exact h | rfl | exact absurd h (by simp [*])) (by rintro ⟨g1, g2, g3, g4, g5, g6, g7, g8⟩; first | rfl | exact beq_iff_eq.2 g8 | (exfalso; first | omega | contradiction | exact Bool.false_ne_true ((by assumption : rfeasV _ _ _ _ = false).symm.trans g6))), F.only [64, 63, 62, 13, 58, 57, 56, 49, 48, 47, 5, 6, 7, 8, 12, 15] rfl, M.sub (by repeat (first | exact .refl _ | apply List.Sublist.cons))⟩
      · obtain rfl : j = o.length := by omega
        rw [List.drop_length] at hinv
        refine c_seq (c_region ?_)
        refine sD F (o_lssF (F.ev rfl) (F.ev rfl) (by omega) ?_); clear F a; intro a F
        with_reducible refine l_nil (q_then (c_seq ?_))
        refine c_false F rfl rfl ?_
        with_reducible refine c_exit (q_thenX (q_thenX (q_inBX (q_inB (q_then (c_region ?_))))))
        refine sD F (o_add (F.ev rfl) (F.ev rfl) (w_i64 (by omega) (by omega)) ?_); clear F a; intro a F
        refine sD F (o_move (F.ev rfl) ?_); clear F a; intro a F
        with_reducible refine l_nil (q_then ?_)
        exact ⟨_, by omega, i + 1, _, rfl, by omega, (by rcases hinv with h | ⟨_, h, _⟩ | h; exact .inl h; cases h; exact .inr h), F.only [58, 57, 56, 13, 49, 48, 47, 5, 6, 7, 8, 12] rfl, M.sub (by repeat (first | exact .refl _ | apply List.Sublist.cons))⟩
    · obtain rfl : i = l.length := by omega
      rw [List.drop_length] at hinv
      have hr : r = true := by
        rcases hinv with h | ⟨_, h, _⟩
        · exact h
        · cases h
      subst hr
      refine c_seq (c_region ?_)
      refine sD F (o_lssF (F.ev rfl) (F.ev rfl) (by omega) ?_); clear F a; intro a F
      with_reducible refine l_nil (q_then (c_seq ?_))
      refine c_false F rfl rfl ?_
      with_reducible refine c_exit (q_thenX (q_thenX (q_inBX (q_then (c_seq (c_region ?_))))))
      refine sD F (o_move (F.ev rfl) ?_); clear F a; intro a F
      refine sD F (o_not (F.ev rfl) ?_); clear F a; intro a F
      with_reducible refine l_nil (q_then ?_)
      refine c_false F rfl rfl ?_
      with_reducible refine c_skip (q_inB (q_then (c_region ?_)))
      refine sD F (o_add (F.ev rfl) (F.ev rfl) (w_i64 (by omega) (by omega)) ?_); clear F a; intro a F
      refine sD F (o_move (F.ev rfl) ?_); clear F a; intro a F
      with_reducible refine l_nil (q_then ?_)
      exact ⟨_, by omega, n + 1, rfl, by omega, F.only [49, 48, 47, 5, 6, 7, 8] rfl, M.sub (by repeat (first | exact .refl _ | apply List.Sublist.cons))⟩
  · refine c_seq ?_
    refine c_region ?_
    refine sD F (o_lssF (F.ev rfl) (F.ev rfl) (by omega) ?_); clear F a; intro a F
    with_reducible refine l_nil (q_then (c_seq ?_))
    refine c_false F rfl rfl ?_
    with_reducible refine c_exit (q_thenX (q_thenX (q_inBX (q_then (c_seq (c_region ?_))))))
    refine sD F (o_call (F.ev rfl) (F.evs rfl) (Cal.mono (known27_c _) ?_)); clear F; clear a; rintro _ w ⟨rfl, hE⟩ a F; replace M := M.later hE; clear hE
    refine sD F (o_assign (F.ev rfl) ?_); clear F a; intro a F
    with_reducible refine l_nil (q_then (c_ret ?_))
    refine p_ret F rfl (.cons (.tmp (F.ev rfl)) .nil) ?_; (try dsimp only [oneOr])
    exact ⟨rfl, (M.unR E0 hS0).ext⟩
end Go.Proofs.YtilgoepokaaleaaGreat
namespace Go.Proofs.YtilgoepokaaleaaGreat
set_option linter.unusedVariables false
set_option linter.unusedSimpArgs false
open Go.ChangeShapes Go.WideShapes Go.ChangeAt Go.RowKit
set_option maxRecDepth 100000 in
theorem routesFeasible_contract (H : Type) (enc : TypeId × Value → H) (W : World) (base : Nat) (args : Array Value) (ds gs : List (DataW H)) (before : List MemPlace)
    (hval : ∀ (j : Nat) t v, Tryz.f3.params[j]? = some t → args[j]? = some v → Value.okWide Tryz.prog W .any base t v)
    (hW : DataW.Whole enc Tryz.prog Tryz.f3.params.toList Rows.routesFeasibleSpec.vars false W args.toList ds gs before) (hL : laidMetH Tryz.prog seatLaid W) (hS : W.ShapedOpen Tryz.prog) :
    Calls Tryz.prog 3 args W fun e W' => ∃ v, e = .returned v ∧ Rows.routesFeasibleSpec.post enc Tryz.prog Tryz.f3 false true false false W args v W' := by
  have hW' := hW
  obtain ⟨p, q, hA0, hV, rfl, hfz, hnd⟩ := hW
  have hA : DataW.TrodAll enc Tryz.prog W 0 (fun _ => true) true Tryz.f3.params.toList args.toList ds p := hA0
  rw [Tryz.params3] at hA hval
  obtain ⟨v0, vs0, d0, ds0, p0, q0, hargs, rfl, rfl, h0, r0⟩ := trodAll_cons hA
  obtain ⟨rfl, rfl, rfl⟩ := trodAll_nil r0
  obtain rfl : args = #[v0] := by cases args; simp_all
  obtain ⟨l0, q0p, cap0, rfl, hc0, hx0⟩ := open_il (hval 0 _ v0 rfl rfl) h0
  refine ((feasL_c q0p cap0 l0 W hx0 hc0).calls).mono ?_
  rintro e W' ⟨v, rfl, rfl, hE⟩
  exact ⟨_, rfl, law_post (tb := 4) laidOut (by kernel_rfl) rfl (by kernel_rfl) Tryz.underlying4 (fun xs hx => by rw [Tryz.params3] at hx; match xs, hx with | [_], _ => rfl) hW' hE⟩
set_option maxRecDepth 100000 in
theorem routesFeasible_lifted (os : Os) (started : os.Started) (H : Type) (enc : TypeId × Value → H) (F : Stop.Interp) :
    ReturnsInHanded {} Tryz.checked os 3 .any ((OpenSpec.ofChange Rows.routesFeasibleSpec).preRow enc Tryz.prog Tryz.f3 Rows.routesFeasibleRow.domain false Rows.routesFeasibleRow.laid) (((OpenSpec.ofChange Rows.routesFeasibleSpec).at F).post enc Tryz.prog Tryz.f3 false true false false) := by
  have hx : ∃ places ds, DataW.whole enc Tryz.prog ((laidWorld os).forCall (fun _ _ => 0) ⟨#[], #[.slice none 0 0], []⟩).memory Tryz.f3.params.toList Rows.routesFeasibleSpec.vars false #[Value.slice none 0 0].toList 8 = some (ds, [], places) ∧ ds = [.nil] := ⟨[], [.nil], by kernel_rfl, rfl⟩
  obtain ⟨places, ds, hx, rfl⟩ := hx
  refine returnsInHanded_of_row (C := Tryz.checked) (s := OpenSpec.ofChange Rows.routesFeasibleSpec) own started (by kernel_rfl) Tryz.func3
    (witness_row_at (enc := enc) (C := Tryz.checked) false (laidWorld os) #[.slice none 0 0] rfl (by kernel_rfl) (by kernel_rfl) (by kernel_rfl)
      (OpenSpec.preRow_of_cond 8 hx (by kernel_rfl) (fun k hk => by cases hk) (by kernel_rfl) (laid_met os _))) ?_
  intro W base args ds gs before hval hW _ hcond _ hL hS _
  exact routesFeasible_contract H enc W base args ds gs before hval hW hL hS
theorem routesFeasible_said : Rows.RoutesFeasibleSaid :=
  OpenClaim.holds_of_cond 3 Tryz.f3 rfl rfl rfl rfl rfl rfl rfl ⟨rfl, rfl, rfl, rfl, rfl⟩ rfl rfl rfl rfl rfl (by kernel_rfl) Tryz.func3 (by kernel_rfl)
    (of_decide_eq_true (by kernel_rfl)) (by unfold Func.isWrapper; first | (rw [if_pos (by decide +kernel)]; kernel_rfl) | (rw [if_neg (by decide +kernel)]; exact ⟨rfl, rfl⟩))
    (fun os started H enc _ F => by rw [OpenClaim.pre_eq_preRow]; exact routesFeasible_lifted os started H enc F)
#print axioms routesFeasible_said
end Go.Proofs.YtilgoepokaaleaaGreat

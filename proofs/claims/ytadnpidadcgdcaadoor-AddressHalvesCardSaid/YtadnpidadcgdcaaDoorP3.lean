/-
  strings.SplitSeq, address.parseGroups.
-/
import Derived.Test.YtadnpidadcgdcaaDoorP2
namespace Go.Proofs.YtadnpidadcgdcaaDoor
set_option linter.unusedVariables false
set_option linter.unusedSimpArgs false
open Go.RowKit
attribute [local irreducible] OpTo wpListIn Code.wpIn MW Cal

/-- the iterator's own blocks -/
def splitB (s : List UInt8) (b1 b2 b3 : Nat) : List (Nat × Obj) := [(b1, .cells [mkS s].toArray 9 (0, 0)), (b2, .cells [mkS [58]].toArray 9 (0, 0)), (b3, .cells [Value.int .i64 0].toArray 3 (0, 0))]
def splitF (b1 b2 b3 : Nat) : List Value := [.pointer (some ⟨b2, 0, none⟩), .pointer (some ⟨b1, 0, none⟩), .pointer (some ⟨b3, 0, none⟩)]

set_option maxHeartbeats 400000 in
theorem splitSeq0_c (s : List UInt8) (W : World) : Cal Tryd.prog 92 [mkS s, mkS [58], .int .i64 0].toArray W fun v w' => ∃ b1 b2 b3, v = .func (.func 103) #[] (splitF b1 b2 b3).toArray ∧ Mem [] W w' (splitB s b1 b2 b3) := by
  refine fn_ofM (n := 8) [] Tryd.func92 rfl rfl rfl ?_
  intro a w F M hwW
  refine c_seq ?_
  refine c_region ?_
  (refine stepD rfl F rfl (o_box M (F.ev rfl) rfl ?_); clear F; clear M; intro b1 w M a F)
  (refine stepD rfl F rfl (o_box M (F.ev rfl) rfl ?_); clear F; clear M; intro b2 w M a F)
  (refine stepD rfl F rfl (o_box M (F.ev rfl) rfl ?_); clear F; clear M; intro b3 w M a F)
  refine stepD rfl F rfl (o_assign (F.ev rfl) ?_); clear F; clear a; intro a F
  with_reducible refine l_nil ?_
  with_reducible refine q_then ?_
  with_reducible refine c_seq ?_
  with_reducible refine c_region ?_
  (refine stepD rfl F rfl (o_makeFunc (F.evs (xs := []) rfl) (F.evs (xs := [.tmp 4, .tmp 3, .tmp 5]) rfl) ?_); clear F; clear a; intro a F)
  refine stepD rfl F rfl (o_assign (F.ev rfl) ?_); clear F; clear a; intro a F
  with_reducible refine l_nil ?_
  with_reducible refine q_then ?_
  with_reducible refine c_ret ?_
  refine p_ret F rfl (.cons (.tmp (F.ev rfl)) .nil) ?_
  exact ⟨b1, b2, b3, rfl, M.perm (by unfold splitB; exact (List.reverse_perm [_, _, _]).symm)⟩
set_option maxHeartbeats 400000 in
theorem splitSeq_c (s : List UInt8) (W : World) : Cal Tryd.prog 81 [mkS s, mkS [58]].toArray W fun v w' => ∃ b1 b2 b3, v = .func (.func 103) #[] (splitF b1 b2 b3).toArray ∧ Mem [] W w' (splitB s b1 b2 b3) := by
  refine fn_ofM (n := 8) [] Tryd.func81 rfl rfl rfl ?_
  intro a w F M hwW
  with_reducible refine c_seq ?_
  with_reducible refine c_region ?_
  refine stepD rfl F rfl (o_assign (F.ev rfl) ?_); clear F; clear a; intro a F
  with_reducible refine l_nil ?_
  with_reducible refine q_then ?_
  with_reducible refine c_seq ?_
  with_reducible refine c_region ?_
  refine stepD rfl F rfl (o_move (F.ev rfl) ?_); clear F; clear a; intro a F
  refine stepD rfl F rfl (o_move (F.ev rfl) ?_); clear F; clear a; intro a F
  (refine stepD rfl F rfl (o_call (F.ev rfl) (F.evs rfl) (Cal.mono (splitSeq0_c _ _ ) ?_)); clear F; clear a; rintro _ w ⟨b1, b2, b3, rfl, N⟩ a F; replace M := M.joins N; clear N)
  refine stepD rfl F rfl (o_assign (F.ev rfl) ?_); clear F; clear a; intro a F
  with_reducible refine l_nil ?_
  with_reducible refine q_then ?_
  with_reducible refine c_ret ?_
  refine p_ret F rfl (.cons (.tmp (F.ev rfl)) .nil) ?_
  exact ⟨b1, b2, b3, rfl, by simpa using M⟩

def groupsGo : List (List UInt8) → List Int → Option (List Int)
  | [], r => some r
  | p :: ps, r => match grpV p with
    | none => none
    | some g => if r.length = 8 then none else groupsGo ps (r ++ [g])
/-- the groups of a text, at most eight -/
def groupsV (s : List UInt8) : Option (List Int) := if s = [] then some [] else groupsGo (splitC s) []
theorem groupsGo_append : ∀ (a b : List (List UInt8)) (r : List Int), groupsGo (a ++ b) r = (groupsGo a r).bind (groupsGo b)
  | [], b, r => rfl
  | p :: a, b, r => by
    simp only [List.cons_append, groupsGo]
    cases grpV p with
    | none => rfl
    | some g =>
      simp only
      split
      · rfl
      · exact groupsGo_append a b _

set_option maxHeartbeats 1000000 in
theorem parseGroups_c (s : List UInt8) (hs : s.length ≤ 4611686018427387904) (W : World) : Cal Tryd.prog 59 [mkS s].toArray W fun v w' => ∃ sv ent, v = .tuple #[sv, .bool (groupsV s).isSome] ∧ OwnS 42 1 sv ((groupsV s).getD []).length (((groupsV s).getD []).map (Value.int .u16)) ent ∧ Mem [] W w' ent := by
  refine fn_ofM (n := 30) [] Tryd.func59 rfl rfl rfl ?_
  intro a w F M hwW
  refine c_seq ?_
  refine c_region ?_
  (refine stepD rfl F rfl (o_alloc M ?_); clear F; clear M; intro b2 w M a F)
  (refine stepD rfl F rfl (o_alloc M ?_); clear F; clear M; intro b3 w M a F)
  with_reducible refine l_nil ?_
  with_reducible refine q_then ?_
  with_reducible refine c_seq ?_
  with_reducible refine c_seq ?_
  with_reducible refine c_region ?_
  refine stepD rfl F rfl (o_move (F.ev rfl) ?_); clear F; clear a; intro a F
  refine stepD rfl F rfl (s_eql (F.ev rfl) (F.ev rfl) ?_); clear F; clear a; intro a F
  with_reducible refine l_nil ?_
  with_reducible refine q_then ?_
  cases s with
  | nil =>
    refine c_true F rfl rfl ?_
    with_reducible refine c_seq ?_
    with_reducible refine c_region ?_
    (refine stepN rfl F (o_store1 M (F.ev rfl) (F.ev rfl) rfl (by repeat (first | exact .here | apply Has.there)) (by rfl) (by repeat (first | exact .here | apply Upd.there)) ?_); clear F; clear M; intro w M a F)
    (refine stepN rfl F (o_store1 M (F.ev rfl) (F.ev rfl) rfl (by repeat (first | exact .here | apply Has.there)) (by rfl) (by repeat (first | exact .here | apply Upd.there)) ?_); clear F; clear M; intro w M a F)
    with_reducible refine l_nil ?_
    with_reducible refine q_then ?_
    with_reducible refine c_ret ?_
    with_reducible refine q_thenR ?_
    refine p_ret F rfl (.cons (.cell (F.ev rfl) (run_loadVar_one TOne.h (cell_at (M.heap (.there .here)) rfl))) (.cons (.cell (F.ev rfl) (run_loadVar_one TOne.h (cell_at (M.heap .here) rfl))) .nil)) ⟨_, [], rfl, OwnS.nil _ _, M.sub (List.nil_sublist _)⟩
  | cons c0 cs0 =>
    have hgv : groupsV (c0 :: cs0) = groupsGo (splitC (c0 :: cs0)) [] := by simp [groupsV]
    rw [hgv]
    have hne : ((c0 :: cs0) == ([] : List UInt8)) = false := rfl
    rw [hne] at F
    clear hne hgv
    generalize c0 :: cs0 = s at *
    refine c_false F rfl rfl ?_
    with_reducible refine c_skip ?_
    with_reducible refine q_then ?_
    with_reducible refine c_seq ?_
    with_reducible refine c_region ?_
    (refine stepD rfl F rfl (o_alloc M ?_); clear F; clear M; intro b4 w M a F)
    with_reducible refine l_nil ?_
    with_reducible refine q_then ?_
    with_reducible refine c_seq ?_
    with_reducible refine c_seq ?_
    with_reducible refine c_region ?_
    refine stepD rfl F rfl (o_move (F.ev rfl) ?_); clear F; clear a; intro a F
    (refine stepD rfl F rfl (o_call (F.ev rfl) (F.evs rfl) (Cal.mono (splitSeq_c _ _ ) ?_)); clear F; clear a; rintro _ w ⟨c1, c2, c3, rfl, N⟩ a F; replace M := M.joins N; clear N)
    with_reducible refine l_nil ?_
    with_reducible refine q_then ?_
    with_reducible refine c_block ?_
    replace F := F.only [11, 4, 3, 2] rfl
    replace M := M.perm (l' := [(b4, .cells [.slice none 0 0].toArray 81 (0, 0)), (b3, .cells [.bool false].toArray 4 (0, 0)), (b2, .cells [.slice none 0 0].toArray 81 (0, 0))] ++ splitB s c1 c2 c3) List.perm_append_comm
    refine c_range (α := List UInt8) (ps := [12]) F M rfl (split_iter s hs c1 c2 c3) (fun _ => rfl) rfl
      (fun pre l => ∃ gs sv ent, groupsGo pre [] = some gs ∧ gs.length ≤ 8 ∧ OwnS 42 1 sv gs.length (gs.map (Value.int .u16)) ent ∧ l = [(b4, .cells [sv].toArray 81 (0, 0)), (b3, .cells [.bool false].toArray 4 (0, 0)), (b2, .cells [.slice none 0 0].toArray 81 (0, 0))] ++ ent)
      (fun c pre l => c = .ret ∧ groupsGo pre [] = none ∧ pre <+: splitC s ∧ l = [(b3, .cells [.bool false].toArray 4 (0, 0)), (b2, .cells [.slice none 0 0].toArray 81 (0, 0))])
      ⟨[], _, [], rfl, by simp, OwnS.nil _ _, rfl⟩ ?round ?done ?stop
    case round =>
      clear F M
      rintro L pre x _ w p a hok ⟨gs, sv, ent, hgs, hg8, hO, rfl⟩ M F
      with_reducible refine c_region ?_
      refine stepD rfl F rfl (o_assign (F.ev rfl) ?_); clear F; clear a; intro a F
      with_reducible refine l_nil ?_
      with_reducible refine q_then ?_
      refine ⟨_, M, ?_⟩
      clear M
      intro w p M
      obtain ⟨sp, sc, rfl⟩ := hO.slice
      replace M := M.perm (l' := (b4, .cells [.slice sp gs.length sc].toArray 81 (0, 0)) :: (b3, .cells [.bool false].toArray 4 (0, 0)) :: (b2, .cells [.slice none 0 0].toArray 81 (0, 0)) :: (p ++ ent)) (by rw [List.append_assoc]; exact List.Perm.append_left [_, _, _] List.perm_append_comm)
      with_reducible refine c_block ?_
      with_reducible refine c_seq ?_
      with_reducible refine c_region ?_
      refine stepD rfl F rfl (o_move (F.ev rfl) ?_); clear F; clear a; intro a F
      (refine stepD rfl F rfl (o_call (F.ev rfl) (F.evs rfl) (Cal.mono (parseGroup_c _ _) ?_)); clear F; clear a; rintro _ w ⟨rfl, hE⟩ a F; replace M := M.later hE; clear hE)
      have hstep : groupsGo (pre ++ [x]) [] = match grpV x with | none => none | some g => if gs.length = 8 then none else some (gs ++ [g]) := by
        rw [groupsGo_append, hgs]; rfl
      cases hg : grpV x with
      | none =>
        rw [hg] at F hstep
        refine stepD rfl F rfl (o_move (F.ev rfl) ?_); clear F; clear a; intro a F
        refine stepD rfl F rfl (o_extract (F.ev rfl) rfl ?_); clear F; clear a; intro a F
        refine stepD rfl F rfl (o_extract (F.ev rfl) rfl ?_); clear F; clear a; intro a F
        refine stepD rfl F rfl (o_assign (F.ev rfl) ?_); clear F; clear a; intro a F
        refine stepD rfl F rfl (o_assign (F.ev rfl) ?_); clear F; clear a; intro a F
        with_reducible refine l_nil ?_
        with_reducible refine q_then ?_
        with_reducible refine c_seq ?_
        with_reducible refine c_seq ?_
        with_reducible refine c_region ?_
        refine stepD rfl F rfl (o_move (F.ev rfl) ?_); clear F; clear a; intro a F
        refine stepD rfl F rfl (o_not (F.ev rfl) ?_); clear F; clear a; intro a F
        refine stepD rfl F rfl (o_move (F.ev rfl) ?_); clear F; clear a; intro a F
        refine stepOff F rfl rfl rfl rfl ?_; clear F; clear a; intro a F
        refine stepOff F rfl rfl rfl rfl ?_; clear F; clear a; intro a F
        refine stepOff F rfl rfl rfl rfl ?_; clear F; clear a; intro a F
        refine stepD rfl F rfl (o_pickT (F.ev rfl) (F.ev rfl) ?_); clear F; clear a; intro a F
        with_reducible refine l_nil ?_
        with_reducible refine q_then ?_
        refine c_true F rfl rfl ?_
        with_reducible refine c_seq ?_
        with_reducible refine c_region ?_
        (refine stepN rfl F (o_store1 M (F.ev rfl) (F.ev rfl) rfl (by repeat (first | exact .here | apply Has.there)) (by rfl) (by repeat (first | exact .here | apply Upd.there)) ?_); clear F; clear M; intro w M a F)
        (refine stepN rfl F (o_store1 M (F.ev rfl) (F.ev rfl) rfl (by repeat (first | exact .here | apply Has.there)) (by rfl) (by repeat (first | exact .here | apply Upd.there)) ?_); clear F; clear M; intro w M a F)
        with_reducible refine l_nil ?_
        with_reducible refine q_then ?_
        with_reducible refine c_ret ?_
        with_reducible refine q_thenR ?_
        with_reducible refine q_inBR ?_
        exact ⟨_, ⟨rfl, hstep, hok, rfl⟩, (M.sub (l' := [_, _] ++ p) ((List.Sublist.append_left (List.sublist_append_left p ent) [_, _]).trans (List.sublist_cons_self _ _)))⟩
      | some g =>
        rw [hg] at F hstep
        by_cases h8 : gs.length = 8
        · simp only [h8, if_true] at hstep
          refine stepD rfl F rfl (o_move (F.ev rfl) ?_); clear F; clear a; intro a F
          refine stepD rfl F rfl (o_extract (F.ev rfl) rfl ?_); clear F; clear a; intro a F
          refine stepD rfl F rfl (o_extract (F.ev rfl) rfl ?_); clear F; clear a; intro a F
          refine stepD rfl F rfl (o_assign (F.ev rfl) ?_); clear F; clear a; intro a F
          refine stepD rfl F rfl (o_assign (F.ev rfl) ?_); clear F; clear a; intro a F
          with_reducible refine l_nil ?_
          with_reducible refine q_then ?_
          with_reducible refine c_seq ?_
          with_reducible refine c_seq ?_
          with_reducible refine c_region ?_
          refine stepD rfl F rfl (o_move (F.ev rfl) ?_); clear F; clear a; intro a F
          refine stepD rfl F rfl (o_not (F.ev rfl) ?_); clear F; clear a; intro a F
          refine stepD rfl F rfl (o_move (F.ev rfl) ?_); clear F; clear a; intro a F
          refine stepG rfl F rfl rfl rfl (o_load1 M (F.ev rfl) (by repeat (first | exact .here | apply Has.there)) (by first | assumption | rfl) ?_); clear F; clear a; intro a F
          refine stepG rfl F rfl rfl rfl (o_lenSl (F.ev rfl) ?_); clear F; clear a; intro a F
          refine stepG rfl F rfl rfl rfl (o_eqlT (F.ev rfl) (F.ev rfl) (by omega) ?_); clear F; clear a; intro a F
          refine stepD rfl F rfl (o_pickF (F.ev rfl) (F.ev rfl) ?_); clear F; clear a; intro a F
          with_reducible refine l_nil ?_
          with_reducible refine q_then ?_
          refine c_true F rfl rfl ?_
          with_reducible refine c_seq ?_
          with_reducible refine c_region ?_
          (refine stepN rfl F (o_store1 M (F.ev rfl) (F.ev rfl) rfl (by repeat (first | exact .here | apply Has.there)) (by rfl) (by repeat (first | exact .here | apply Upd.there)) ?_); clear F; clear M; intro w M a F)
          (refine stepN rfl F (o_store1 M (F.ev rfl) (F.ev rfl) rfl (by repeat (first | exact .here | apply Has.there)) (by rfl) (by repeat (first | exact .here | apply Upd.there)) ?_); clear F; clear M; intro w M a F)
          with_reducible refine l_nil ?_
          with_reducible refine q_then ?_
          with_reducible refine c_ret ?_
          with_reducible refine q_thenR ?_
          with_reducible refine q_inBR ?_
          exact ⟨_, ⟨rfl, hstep, hok, rfl⟩, (M.sub (l' := [_, _] ++ p) ((List.Sublist.append_left (List.sublist_append_left p ent) [_, _]).trans (List.sublist_cons_self _ _)))⟩
        · simp only [h8, if_false] at hstep
          refine stepD rfl F rfl (o_move (F.ev rfl) ?_); clear F; clear a; intro a F
          refine stepD rfl F rfl (o_extract (F.ev rfl) rfl ?_); clear F; clear a; intro a F
          refine stepD rfl F rfl (o_extract (F.ev rfl) rfl ?_); clear F; clear a; intro a F
          refine stepD rfl F rfl (o_assign (F.ev rfl) ?_); clear F; clear a; intro a F
          refine stepD rfl F rfl (o_assign (F.ev rfl) ?_); clear F; clear a; intro a F
          with_reducible refine l_nil ?_
          with_reducible refine q_then ?_
          with_reducible refine c_seq ?_
          with_reducible refine c_seq ?_
          with_reducible refine c_region ?_
          refine stepD rfl F rfl (o_move (F.ev rfl) ?_); clear F; clear a; intro a F
          refine stepD rfl F rfl (o_not (F.ev rfl) ?_); clear F; clear a; intro a F
          refine stepD rfl F rfl (o_move (F.ev rfl) ?_); clear F; clear a; intro a F
          refine stepG rfl F rfl rfl rfl (o_load1 M (F.ev rfl) (by repeat (first | exact .here | apply Has.there)) (by first | assumption | rfl) ?_); clear F; clear a; intro a F
          refine stepG rfl F rfl rfl rfl (o_lenSl (F.ev rfl) ?_); clear F; clear a; intro a F
          refine stepG rfl F rfl rfl rfl (o_eqlF (F.ev rfl) (F.ev rfl) (by omega) ?_); clear F; clear a; intro a F
          refine stepD rfl F rfl (o_pickF (F.ev rfl) (F.ev rfl) ?_); clear F; clear a; intro a F
          with_reducible refine l_nil ?_
          with_reducible refine q_then ?_
          refine c_false F rfl rfl ?_
          with_reducible refine c_skip ?_
          with_reducible refine q_then ?_
          with_reducible refine c_region ?_
          refine stepD rfl F rfl (o_load1 M (F.ev rfl) (by repeat (first | exact .here | apply Has.there)) (by first | assumption | rfl) ?_); clear F; clear a; intro a F
          refine stepD rfl F rfl (o_move (F.ev rfl) ?_); clear F; clear a; intro a F
          (refine stepD rfl F rfl (o_buildSlice F M rfl rfl rfl rfl ?_); clear F; clear M; intro b5 w M a F)
          (refine stepD rfl F rfl (o_append hO M (.cons (.cons (.cons (.cons (.app .here))))) (F.ev rfl) (F.ev rfl) (SrcOf.cells' (M.heap .here) rfl rfl) (by first | omega | (simp; omega)) (by first | omega | (simp; omega)) ?_); clear F; clear M; clear hO; intro v2 ent2 w hO M a F; (try dsimp only at M))
          obtain ⟨sp2, sc2, rfl⟩ := hO.slice
          (refine stepN rfl F (o_store1 M (F.ev rfl) (F.ev rfl) rfl (by repeat (first | exact .here | apply Has.there)) (by rfl) (by repeat (first | exact .here | apply Upd.there)) ?_); clear F; clear M; intro w M a F)
          with_reducible refine l_nil ?_
          with_reducible refine q_inB ?_
          refine ⟨[(b4, _), (b3, _), (b2, _)] ++ ent2, ⟨gs ++ [g], .slice sp2 (gs.length + 1) sc2, ent2, hstep, by simp; omega, ?_, rfl⟩, ?_⟩
          · simpa using hO
          · exact (M.sub (List.sublist_cons_self _ _)).perm (by rw [List.append_assoc]; exact List.Perm.append_left [_, _, _] List.perm_append_comm)
    case done =>
      clear F M
      rintro D xs _ p w a rfl ⟨gs, sv, ent, hgs, hg8, hO, rfl⟩ M F
      rw [hgs]
      obtain ⟨sp, sc, rfl⟩ := hO.slice
      with_reducible refine q_inB ?_
      with_reducible refine q_then ?_
      with_reducible refine c_seq ?_
      with_reducible refine c_region ?_
      refine stepD rfl F rfl (o_load1 M (F.ev rfl) (by repeat (first | exact .here | apply Has.there)) (by first | assumption | rfl) ?_); clear F; clear a; intro a F
      (refine stepN rfl F (o_store1 M (F.ev rfl) (F.ev rfl) rfl (by repeat (first | exact .here | apply Has.there)) (by rfl) (by repeat (first | exact .here | apply Upd.there)) ?_); clear F; clear M; intro w M a F)
      (refine stepN rfl F (o_store1 M (F.ev rfl) (F.ev rfl) rfl (by repeat (first | exact .here | apply Has.there)) (by rfl) (by repeat (first | exact .here | apply Upd.there)) ?_); clear F; clear M; intro w M a F)
      with_reducible refine l_nil ?_
      with_reducible refine q_then ?_
      with_reducible refine c_ret ?_
      refine p_ret1 F M .here rfl fun w' M' => ⟨.cons (.cell (F.ev rfl) (run_loadVar_one TOne.h (cell_at (M'.heap (.there (.there (.there .here)))) rfl))) (.cons (.cell (F.ev rfl) (run_loadVar_one TOne.h (cell_at (M'.heap (.there (.there .here))) rfl))) .nil), _, ent, rfl, hO, ?_⟩
      exact M'.sub ((List.sublist_append_left ent p).trans (List.sublist_append_right [_, _, _, _] (ent ++ p)))
    case stop =>
      clear F M
      rintro D c pre _ p w a ⟨rfl, hgs, ⟨suf, hsuf⟩, rfl⟩ M F
      have hnone : groupsGo (splitC s) [] = none := by rw [← hsuf, groupsGo_append, hgs]; rfl
      rw [hnone]
      with_reducible refine c_ret ?_
      with_reducible refine q_inBR ?_
      with_reducible refine q_thenR ?_
      refine p_ret1 F M .here rfl fun w' M' => ⟨.cons (.cell (F.ev rfl) (run_loadVar_one TOne.h (cell_at (M'.heap (.there (.there .here))) rfl))) (.cons (.cell (F.ev rfl) (run_loadVar_one TOne.h (cell_at (M'.heap (.there .here)) rfl))) .nil), _, [], rfl, OwnS.nil _ _, M'.sub (List.nil_sublist _)⟩
end Go.Proofs.YtadnpidadcgdcaaDoor

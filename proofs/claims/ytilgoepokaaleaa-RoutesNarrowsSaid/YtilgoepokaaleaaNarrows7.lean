/-
  PROVED: for every input RoutesNarrows answers true, and each argument reads afterwards as it read before.
-/
import Derived.Test.YtilgoepokaaleaaNarrows6
/-! ZD -/
namespace Go.Proofs.Ytilgoepokaaleaa
set_option linter.unusedVariables false
set_option linter.unusedSimpArgs false
open Go.RowKit
attribute [local irreducible] OpTo wpListIn Code.wpIn MW Cal
def selectV (now : Int) (l : List RouV) (s : List SrcV) (links : List OptV) (old : List InsV) : List InsV × Int :=
  if !validRs l || !validSs s || !validOs links || !validIs old then ([], 1) else if !isTime now then ([], 2)
  else if 512 < (selV now l s links old).length then ([], 10) else (selV now l s links old, 0)
def mapI (m : List (Int × Int)) : List (Int × Value) := m.map fun p => (p.1, Value.int .i64 p.2)
theorem zero_iR : zeroIs Try.prog 3 (.int .i64 0) := by
  unfold zeroIs
  kernel_rfl
theorem getA_mapI (x : Int) (m : List (Int × Int)) : getA x (mapI m) = (getA x m).map (Value.int .i64) := getA_map _ x m
theorem nodupD_le : ∀ {xs ys : List DstV}, AscD xs → (∀ x ∈ xs, x ∈ ys) → xs.length ≤ ys.length
  | [], _, _, _ => by simp
  | x :: xs, ys, hn, hs => by
    have h1 := List.pairwise_cons.1 hn
    have hx := hs x (by simp)
    have h2 : xs.length ≤ (ys.erase x).length := nodupD_le h1.2 fun y hy => (List.mem_erase_of_ne (fun e => by have := h1.1 y hy; rw [e, cmpD_self] at this; omega)).2 (hs y (List.mem_cons_of_mem _ hy))
    rw [List.length_erase_of_mem hx] at h2
    have : 0 < ys.length := List.length_pos_of_mem hx
    simp only [List.length_cons]
    omega
theorem oldV_is {old : List InsV} (hy : ∀ x ∈ old, IsIn x) {t : DstV} {o : InsV} (h : oldV old t = some o) : IsIn o := hy o (List.mem_of_find?_eq_some h)
theorem selE_is {now : Int} {l : List RouV} {s : List SrcV} {cm : List (Int × Int)} {old : List InsV} {t : DstV} (ht : IsDv t) (hy : ∀ x ∈ old, IsIn x) {e : InsV} (h : selE now l s cm old t = some e) : IsIn e := by
  unfold selE aftV at h
  dsimp only at h
  split at h
  · cases h
    exact ⟨ht, trivial⟩
  · split at h
    · cases h
    · rename_i o ho
      split at h
      · cases h
        exact ⟨ht, trivial⟩
      · split at h
        · cases h
          exact oldV_is hy ho
        · cases h
theorem opts_len {now : Int} {s : List SrcV} {cm : List (Int × Int)} {t : DstV} {l : List RouV} {n : Nat} (h : l.length ≤ n) : (optsV now s cm t l).length ≤ n := by
  unfold optsV
  have h1 := List.length_filterMap_le (optV now s cm t) (l.filter fun r => decide (r.to = t))
  have h2 := List.length_filter_le (fun r => decide (r.to = t)) l
  omega
def PhO (o : OptV) (r : Value) (ent : List (Nat × Obj)) : Prop := ∃ b, r = .slice (some ⟨b, 0, none⟩) 1 1 ∧ ent = [(b, opO o)]
theorem bsO (o : OptV) {a : Act} {n t : Nat} {df : List Deferred} {fr : List (Nat × Value)} {w w1 : World} {d : Option Tmp} {ty : TypeId} {pos : String} {af : Array Edge} {g : Option (Nat × Bool)} (F : Frm a n df fr) (E : Ext [] w1 w) (ht : Ev fr (.tmp t) = some (.agg (opC o).toArray)) :
    OpTo Try.prog ⟨d, .buildSlice 74 1 [(0, .tmp t)].toArray, ty, pos, af, g⟩ a.eval w fun r w' => Ext [] w w' ∧ NewP w1.heap.size (PhO o) r w' := by
  have hev : evP fr [(0, .tmp t)] = some [(0, opC o)] := by simp only [evP, ht]
  refine o_buildSlice F (Mem.start [] w) hev rfl rfl (op_build1 (o := o) trivial) ?_
  intro b w' M
  exact newP_of E ⟨_, ⟨b, rfl, rfl⟩, M⟩
set_option maxHeartbeats 16000000 in
theorem select_c (now : Int) (l : List RouV) (hx : ∀ x ∈ l, IsRo x) (s : List SrcV) (hs' : ∀ x ∈ s, IsSr x) (links : List OptV) (old : List InsV) (hy : ∀ x ∈ old, IsIn x) (vl vs vk vo : Value) (W : World) (hSl : SlAt W 39 vl l.length (rosC l)) (hSs : SlAt W 38 vs s.length (srsC s)) (hSk : SlAt W 2 vk links.length (opsC links)) (hSo : SlAt W 40 vo old.length (insC old)) :
    Cal Try.prog 37 [.int .i64 now, vl, vs, vk, vo].toArray W fun r w' => ∃ u ent, r = .tuple [u, .int .i64 (selectV now l s links old).2].toArray ∧ OwnS 62 40 u (selectV now l s links old).1.length (insC (selectV now l s links old).1) ent ∧ Mem [] W w' ent := by
  have hk : ∀ x ∈ links, IsOp x := fun _ _ => trivial
  have hSl0 := hSl
  have hSk0 := hSk
  have hSo0 := hSo
  obtain ⟨q, cap, rfl, hcap, hsp, hl, hm⟩ := hSl
  obtain ⟨qk, capk, rfl, hcapk, hspk, hlk, hmk⟩ := hSk
  obtain ⟨qo, capo, rfl, hcapo, hspo, hlo, hmo⟩ := hSo
  refine fn_ofM (n := 190) [] Try.func37 rfl rfl rfl ?_
  intro a w F M hwW
  with_reducible refine c_seq ?_
  with_reducible refine c_region ?_
  refine stepD rfl F rfl (o_assign (F.ev rfl) ?_); clear F; clear a; intro a F
  refine stepD rfl F rfl (o_assign (F.ev rfl) ?_); clear F; clear a; intro a F
  with_reducible refine l_nil ?_
  with_reducible refine q_then ?_
  with_reducible refine c_seq ?_
  with_reducible refine c_seq ?_
  with_reducible refine c_region ?_
  refine stepD rfl F rfl (o_move (F.ev rfl) ?_); clear F; clear a; intro a F
  (refine stepD rfl F rfl (o_call (F.ev rfl) (F.evs rfl) (Cal.mono (rtvalid_c l hx _ _ (hSl0.later M.ext)) ?_)); clear F; clear a; rintro _ w ⟨rfl, hE⟩ a F; replace M := M.later hE; clear hE)
  cases c1 : validRs l
  · have hL : selectV now l s links old = ([], 1) := by unfold selectV; rw [c1]; rfl
    rw [hL]
    rw [c1] at F
    refine stepD rfl F rfl (o_not (F.ev rfl) ?_); clear F; clear a; intro a F
    refine stepD rfl F rfl (o_move (F.ev rfl) ?_); clear F; clear a; intro a F
    refine stepOff F rfl rfl rfl rfl ?_; clear F; clear a; intro a F
    refine stepOff F rfl rfl rfl rfl ?_; clear F; clear a; intro a F
    refine stepOff F rfl rfl rfl rfl ?_; clear F; clear a; intro a F
    refine stepD rfl F rfl (o_pickT (F.ev rfl) (F.ev rfl) ?_); clear F; clear a; intro a F
    refine stepD rfl F rfl (o_move (F.ev rfl) ?_); clear F; clear a; intro a F
    refine stepOff F rfl rfl rfl rfl ?_; clear F; clear a; intro a F
    refine stepOff F rfl rfl rfl rfl ?_; clear F; clear a; intro a F
    refine stepOff F rfl rfl rfl rfl ?_; clear F; clear a; intro a F
    refine stepD rfl F rfl (o_pickT (F.ev rfl) (F.ev rfl) ?_); clear F; clear a; intro a F
    refine stepD rfl F rfl (o_move (F.ev rfl) ?_); clear F; clear a; intro a F
    refine stepOff F rfl rfl rfl rfl ?_; clear F; clear a; intro a F
    refine stepOff F rfl rfl rfl rfl ?_; clear F; clear a; intro a F
    refine stepOff F rfl rfl rfl rfl ?_; clear F; clear a; intro a F
    refine stepD rfl F rfl (o_pickT (F.ev rfl) (F.ev rfl) ?_); clear F; clear a; intro a F
    with_reducible refine l_nil ?_
    with_reducible refine q_then ?_
    refine c_true F rfl rfl ?_
    with_reducible refine c_seq ?_
    with_reducible refine c_region ?_
    refine stepD rfl F rfl (o_assign (F.ev rfl) ?_); clear F; clear a; intro a F
    refine stepD rfl F rfl (o_assign (F.ev rfl) ?_); clear F; clear a; intro a F
    with_reducible refine l_nil ?_
    with_reducible refine q_then ?_
    with_reducible refine c_ret ?_
    with_reducible refine q_thenR ?_
    refine p_ret F rfl (.cons (.tmp (F.ev rfl)) (.cons (.tmp (F.ev rfl)) .nil)) ?_
    exact ⟨.slice none 0 0, [], rfl, OwnS.nil _ _, M⟩
  rw [c1] at F
  refine stepD rfl F rfl (o_not (F.ev rfl) ?_); clear F; clear a; intro a F
  refine stepD rfl F rfl (o_move (F.ev rfl) ?_); clear F; clear a; intro a F
  refine stepG rfl F rfl rfl rfl (o_move (F.ev rfl) ?_); clear F; clear a; intro a F
  (refine stepG rfl F rfl rfl rfl (o_call (F.ev rfl) (F.evs rfl) (Cal.mono (scvalid_c s hs' _ _ (hSs.later M.ext)) ?_)); clear F; clear a; rintro _ w ⟨rfl, hE⟩ a F; replace M := M.later hE; clear hE)
  cases c2 : validSs s
  · have hL : selectV now l s links old = ([], 1) := by unfold selectV; rw [c1, c2]; rfl
    rw [hL]
    rw [c2] at F
    refine stepG rfl F rfl rfl rfl (o_not (F.ev rfl) ?_); clear F; clear a; intro a F
    refine stepD rfl F rfl (o_pickF (F.ev rfl) (F.ev rfl) ?_); clear F; clear a; intro a F
    refine stepD rfl F rfl (o_move (F.ev rfl) ?_); clear F; clear a; intro a F
    refine stepOff F rfl rfl rfl rfl ?_; clear F; clear a; intro a F
    refine stepOff F rfl rfl rfl rfl ?_; clear F; clear a; intro a F
    refine stepOff F rfl rfl rfl rfl ?_; clear F; clear a; intro a F
    refine stepD rfl F rfl (o_pickT (F.ev rfl) (F.ev rfl) ?_); clear F; clear a; intro a F
    refine stepD rfl F rfl (o_move (F.ev rfl) ?_); clear F; clear a; intro a F
    refine stepOff F rfl rfl rfl rfl ?_; clear F; clear a; intro a F
    refine stepOff F rfl rfl rfl rfl ?_; clear F; clear a; intro a F
    refine stepOff F rfl rfl rfl rfl ?_; clear F; clear a; intro a F
    refine stepD rfl F rfl (o_pickT (F.ev rfl) (F.ev rfl) ?_); clear F; clear a; intro a F
    with_reducible refine l_nil ?_
    with_reducible refine q_then ?_
    refine c_true F rfl rfl ?_
    with_reducible refine c_seq ?_
    with_reducible refine c_region ?_
    refine stepD rfl F rfl (o_assign (F.ev rfl) ?_); clear F; clear a; intro a F
    refine stepD rfl F rfl (o_assign (F.ev rfl) ?_); clear F; clear a; intro a F
    with_reducible refine l_nil ?_
    with_reducible refine q_then ?_
    with_reducible refine c_ret ?_
    with_reducible refine q_thenR ?_
    refine p_ret F rfl (.cons (.tmp (F.ev rfl)) (.cons (.tmp (F.ev rfl)) .nil)) ?_
    exact ⟨.slice none 0 0, [], rfl, OwnS.nil _ _, M⟩
  rw [c2] at F
  refine stepG rfl F rfl rfl rfl (o_not (F.ev rfl) ?_); clear F; clear a; intro a F
  refine stepD rfl F rfl (o_pickF (F.ev rfl) (F.ev rfl) ?_); clear F; clear a; intro a F
  refine stepD rfl F rfl (o_move (F.ev rfl) ?_); clear F; clear a; intro a F
  refine stepG rfl F rfl rfl rfl (o_move (F.ev rfl) ?_); clear F; clear a; intro a F
  (refine stepG rfl F rfl rfl rfl (o_call (F.ev rfl) (F.evs rfl) (Cal.mono (mtvalidO_c links hk _ _ (hSk0.later M.ext)) ?_)); clear F; clear a; rintro _ w ⟨rfl, hE⟩ a F; replace M := M.later hE; clear hE)
  cases c3 : validOs links
  · have hL : selectV now l s links old = ([], 1) := by unfold selectV; rw [c1, c2, c3]; rfl
    rw [hL]
    rw [c3] at F
    refine stepG rfl F rfl rfl rfl (o_not (F.ev rfl) ?_); clear F; clear a; intro a F
    refine stepD rfl F rfl (o_pickF (F.ev rfl) (F.ev rfl) ?_); clear F; clear a; intro a F
    refine stepD rfl F rfl (o_move (F.ev rfl) ?_); clear F; clear a; intro a F
    refine stepOff F rfl rfl rfl rfl ?_; clear F; clear a; intro a F
    refine stepOff F rfl rfl rfl rfl ?_; clear F; clear a; intro a F
    refine stepOff F rfl rfl rfl rfl ?_; clear F; clear a; intro a F
    refine stepD rfl F rfl (o_pickT (F.ev rfl) (F.ev rfl) ?_); clear F; clear a; intro a F
    with_reducible refine l_nil ?_
    with_reducible refine q_then ?_
    refine c_true F rfl rfl ?_
    with_reducible refine c_seq ?_
    with_reducible refine c_region ?_
    refine stepD rfl F rfl (o_assign (F.ev rfl) ?_); clear F; clear a; intro a F
    refine stepD rfl F rfl (o_assign (F.ev rfl) ?_); clear F; clear a; intro a F
    with_reducible refine l_nil ?_
    with_reducible refine q_then ?_
    with_reducible refine c_ret ?_
    with_reducible refine q_thenR ?_
    refine p_ret F rfl (.cons (.tmp (F.ev rfl)) (.cons (.tmp (F.ev rfl)) .nil)) ?_
    exact ⟨.slice none 0 0, [], rfl, OwnS.nil _ _, M⟩
  rw [c3] at F
  refine stepG rfl F rfl rfl rfl (o_not (F.ev rfl) ?_); clear F; clear a; intro a F
  refine stepD rfl F rfl (o_pickF (F.ev rfl) (F.ev rfl) ?_); clear F; clear a; intro a F
  refine stepD rfl F rfl (o_move (F.ev rfl) ?_); clear F; clear a; intro a F
  refine stepG rfl F rfl rfl rfl (o_move (F.ev rfl) ?_); clear F; clear a; intro a F
  (refine stepG rfl F rfl rfl rfl (o_call (F.ev rfl) (F.evs rfl) (Cal.mono (rtvalidI_c old hy _ _ (hSo0.later M.ext)) ?_)); clear F; clear a; rintro _ w ⟨rfl, hE⟩ a F; replace M := M.later hE; clear hE)
  cases c4 : validIs old
  · have hL : selectV now l s links old = ([], 1) := by unfold selectV; rw [c1, c2, c3, c4]; rfl
    rw [hL]
    rw [c4] at F
    refine stepG rfl F rfl rfl rfl (o_not (F.ev rfl) ?_); clear F; clear a; intro a F
    refine stepD rfl F rfl (o_pickF (F.ev rfl) (F.ev rfl) ?_); clear F; clear a; intro a F
    with_reducible refine l_nil ?_
    with_reducible refine q_then ?_
    refine c_true F rfl rfl ?_
    with_reducible refine c_seq ?_
    with_reducible refine c_region ?_
    refine stepD rfl F rfl (o_assign (F.ev rfl) ?_); clear F; clear a; intro a F
    refine stepD rfl F rfl (o_assign (F.ev rfl) ?_); clear F; clear a; intro a F
    with_reducible refine l_nil ?_
    with_reducible refine q_then ?_
    with_reducible refine c_ret ?_
    with_reducible refine q_thenR ?_
    refine p_ret F rfl (.cons (.tmp (F.ev rfl)) (.cons (.tmp (F.ev rfl)) .nil)) ?_
    exact ⟨.slice none 0 0, [], rfl, OwnS.nil _ _, M⟩
  rw [c4] at F
  refine stepG rfl F rfl rfl rfl (o_not (F.ev rfl) ?_); clear F; clear a; intro a F
  refine stepD rfl F rfl (o_pickF (F.ev rfl) (F.ev rfl) ?_); clear F; clear a; intro a F
  with_reducible refine l_nil ?_
  with_reducible refine q_then ?_
  refine c_false F rfl rfl ?_
  with_reducible refine c_skip ?_
  with_reducible refine q_then ?_
  with_reducible refine c_seq ?_
  with_reducible refine c_seq ?_
  with_reducible refine c_region ?_
  refine stepD rfl F rfl (o_move (F.ev rfl) ?_); clear F; clear a; intro a F
  (refine stepD rfl F rfl (o_call (F.ev rfl) (F.evs rfl) (Cal.mono (rtTime_c now _) ?_)); clear F; clear a; rintro _ w ⟨rfl, hE⟩ a F; replace M := M.later hE; clear hE)
  cases c5 : isTime now
  · have hL : selectV now l s links old = ([], 2) := by unfold selectV; rw [c1, c2, c3, c4, c5]; rfl
    rw [hL]
    rw [c5] at F
    refine stepD rfl F rfl (o_not (F.ev rfl) ?_); clear F; clear a; intro a F
    with_reducible refine l_nil ?_
    with_reducible refine q_then ?_
    refine c_true F rfl rfl ?_
    with_reducible refine c_seq ?_
    with_reducible refine c_region ?_
    refine stepD rfl F rfl (o_assign (F.ev rfl) ?_); clear F; clear a; intro a F
    refine stepD rfl F rfl (o_assign (F.ev rfl) ?_); clear F; clear a; intro a F
    with_reducible refine l_nil ?_
    with_reducible refine q_then ?_
    with_reducible refine c_ret ?_
    with_reducible refine q_thenR ?_
    refine p_ret F rfl (.cons (.tmp (F.ev rfl)) (.cons (.tmp (F.ev rfl)) .nil)) ?_
    exact ⟨.slice none 0 0, [], rfl, OwnS.nil _ _, M⟩
  rw [c5] at F
  have hL : selectV now l s links old = if 512 < (selV now l s links old).length then ([], 10) else (selV now l s links old, 0) := by unfold selectV; rw [c1, c2, c3, c4, c5]; rfl
  obtain ⟨hl512, hrou, hasc⟩ := validRs_iff.1 c1
  obtain ⟨hk16, hopt, _⟩ := validOs_iff.1 c3
  obtain ⟨ho512, hins, hascN⟩ := validIs_iff.1 c4
  refine stepD rfl F rfl (o_not (F.ev rfl) ?_); clear F; clear a; intro a F
  with_reducible refine l_nil ?_
  with_reducible refine q_then ?_
  refine c_false F rfl rfl ?_
  with_reducible refine c_skip ?_
  with_reducible refine q_then ?_
  with_reducible refine c_seq ?_
  with_reducible refine c_region ?_
  refine stepD rfl F rfl (o_move (F.ev rfl) ?_); clear F; clear a; intro a F
  refine stepD rfl F rfl (o_lenSl (F.ev rfl) ?_); clear F; clear a; intro a F
  (refine stepD rfl F rfl (o_makeMap M (F.ev rfl) ?_); clear F; clear M; intro b12 w M a F)
  refine stepD rfl F rfl (o_assign (F.ev rfl) ?_); clear F; clear a; intro a F
  with_reducible refine l_nil ?_
  with_reducible refine q_then ?_
  with_reducible refine c_seq ?_
  with_reducible refine c_seq ?_
  with_reducible refine c_region ?_
  refine stepD rfl F rfl (o_move (F.ev rfl) ?_); clear F; clear a; intro a F
  refine stepD rfl F rfl (o_lenSl (F.ev rfl) ?_); clear F; clear a; intro a F
  refine stepD rfl F rfl (o_move (F.ev rfl) ?_); clear F; clear a; intro a F
  with_reducible refine l_nil ?_
  with_reducible refine q_then ?_
  with_reducible refine c_block ?_
  refine c_loop (fun m a w => ∃ (i : Nat) (ent : List (Nat × Obj)), m = links.length - i ∧ i ≤ links.length ∧ OwnM (Value.int .u64) (.map (some b12)) (mapI (costM (links.take i))) ent ∧ Frm a 190 [] [(54, .int .i64 i), (53, .int .i64 links.length), (52, .slice qk links.length capk), (12, .map (some b12)), (0, .int .i64 now), (1, .slice q l.length cap), (2, vs), (4, .slice qo old.length capo)] ∧ Mem [] W w ent) links.length ⟨0, _, rfl, by omega, ⟨b12, _, rfl, rfl, MapAt.empty _⟩, F.only [54, 53, 52, 12, 0, 1, 2, 4] rfl, M⟩ ?_
  clear F M
  rintro m a w ⟨i, ent, hm', hi, hO, F, M⟩
  by_cases hlt : i < links.length
  · obtain ⟨b, o, cs, t, fz, rfl, hb, hs⟩ := hmk (by omega)
    have hxv := hk _ (List.getElem_mem hlt)
    have f1 : seg cs (o + (i : Int).toNat * 2) 2 = some (opC links[i]) := seg_el (ops_len hk) hs hlt (by omega)
    have hmt := costM_step hlt
    obtain ⟨x, hx0⟩ : ∃ x, x = links[i] := ⟨_, rfl⟩
    rw [← hx0] at hxv f1 hmt
    have f2 : (opC x).length = 2 := op_len hxv
    have f3 := op_nb hxv
    have f4 := op_cost hxv
    with_reducible refine c_seq ?_
    with_reducible refine c_region ?_
    refine stepD rfl F rfl (o_lssT (F.ev rfl) (F.ev rfl) (by omega) ?_); clear F; clear a; intro a F
    with_reducible refine l_nil ?_
    with_reducible refine q_then ?_
    with_reducible refine c_seq ?_
    refine c_true F rfl rfl ?_
    with_reducible refine c_skip ?_
    with_reducible refine q_then ?_
    with_reducible refine c_seq ?_
    with_reducible refine c_block ?_
    with_reducible refine c_seq ?_
    with_reducible refine c_region ?_
    refine stepD rfl F rfl (o_indexSl (F.ev rfl) (F.ev rfl) (by omega) (by omega) ?_); clear F; clear a; intro a F
    refine stepD rfl F rfl (o_loadWA M (F.ev rfl) (by assumption) (by first | assumption | rfl) ?_); clear F; clear a; intro a F
    (refine stepD rfl F rfl (o_alloc M ?_); clear F; clear M; intro b14 w M a F)
    (refine stepN rfl F (o_storeA M (F.ev rfl) (F.ev rfl) (f2) (op_one x)  (by repeat (first | exact .here | apply Has.there))  (put_all (by rw [f2]; rfl)) (by repeat (first | exact .here | apply Upd.there)) ?_); clear F; clear M; intro w M a F)
    with_reducible refine l_nil ?_
    with_reducible refine q_then ?_
    with_reducible refine c_region ?_
    refine stepD rfl F rfl (o_move (F.ev rfl) ?_); clear F; clear a; intro a F
    refine stepD rfl F rfl (o_fieldAddr (F.ev rfl) ?_); clear F; clear a; intro a F
    refine stepD rfl F rfl (o_load1 M (F.ev rfl) (by repeat (first | exact .here | apply Has.there)) (by first | assumption | rfl) ?_); clear F; clear a; intro a F
    refine stepD rfl F rfl (o_fieldAddr (F.ev rfl) ?_); clear F; clear a; intro a F
    refine stepD rfl F rfl (o_load1 M (F.ev rfl) (by repeat (first | exact .here | apply Has.there)) (by first | assumption | rfl) ?_); clear F; clear a; intro a F
    refine stepD rfl F rfl (o_max (F.ev rfl) (F.ev rfl) ?_); clear F; clear a; intro a F
    (refine stepN rfl F (o_mapUpdate (u := .int .i64 (lkC x.cost)) keyE_law M hO (.cons .here) (fun _ _ => trivial) (a := x.nb) trivial (F.ev rfl) (F.ev rfl) (F.ev rfl) ?_); clear F; clear M; intro ent2 w hO2 M a F)
    with_reducible refine l_nil ?_
    with_reducible refine q_inB ?_
    with_reducible refine q_then ?_
    with_reducible refine c_region ?_
    refine stepD rfl F rfl (o_add (F.ev rfl) (F.ev rfl) (w_i64 (by omega) (by omega)) ?_); clear F; clear a; intro a F
    refine stepD rfl F rfl (o_move (F.ev rfl) ?_); clear F; clear a; intro a F
    with_reducible refine l_nil ?_
    with_reducible refine q_then ?_
    exact ⟨_, by omega, i + 1, ent2, rfl, by omega, by rw [hmt]; unfold mapI; rw [← putA_map]; exact hO2, F.only [54, 53, 52, 12, 0, 1, 2, 4] rfl, M.sub (List.sublist_cons_self _ _)⟩
  obtain rfl : i = links.length := by omega
  rw [List.take_length] at hO
  clear hmk hspk hcapk
  with_reducible refine c_seq ?_
  with_reducible refine c_region ?_
  refine stepD rfl F rfl (o_lssF (F.ev rfl) (F.ev rfl) (by omega) ?_); clear F; clear a; intro a F
  with_reducible refine l_nil ?_
  with_reducible refine q_then ?_
  with_reducible refine c_seq ?_
  refine c_false F rfl rfl ?_
  with_reducible refine c_exit ?_
  with_reducible refine q_thenX ?_
  with_reducible refine q_thenX ?_
  with_reducible refine q_inBX ?_
  with_reducible refine q_then ?_
  with_reducible refine c_seq ?_
  with_reducible refine c_region ?_
  refine stepD rfl F rfl (o_assign (F.ev rfl) ?_); clear F; clear a; intro a F
  with_reducible refine l_nil ?_
  with_reducible refine q_then ?_
  with_reducible refine c_seq ?_
  with_reducible refine c_region ?_
  refine stepD rfl F rfl (o_assign (F.ev rfl) ?_); clear F; clear a; intro a F
  refine stepD rfl F rfl (o_assign (F.ev rfl) ?_); clear F; clear a; intro a F
  with_reducible refine l_nil ?_
  with_reducible refine q_then ?_
  with_reducible refine c_seq ?_
  with_reducible refine c_seq ?_
  with_reducible refine c_region ?_
  refine stepD rfl F rfl (o_move (F.ev rfl) ?_); clear F; clear a; intro a F
  refine stepD rfl F rfl (o_move (F.ev rfl) ?_); clear F; clear a; intro a F
  (refine stepD rfl F rfl (o_call (F.ev rfl) (F.evs rfl) (Cal.mono (dests_c l hx old hy (by omega) (by omega) _ _ _ (hSl0.later M.ext) (hSo0.later M.ext) ) ?_)); clear F; clear a; rintro _ w ⟨entD, hD, N⟩ a F; replace M := M.joins N; clear N)
  obtain ⟨qd, capd, rfl⟩ := hD.slice
  obtain ⟨cm, hcm⟩ : ∃ cm, cm = costM links := ⟨_, rfl⟩
  obtain ⟨ds, hds⟩ : ∃ ds, ds = destsV l old := ⟨_, rfl⟩
  have hall : ∀ x ∈ allD l old, IsDv x ∧ validT x = true := by
    intro x h
    unfold allD at h
    rcases List.mem_append.1 h with h | h
    · obtain ⟨r, h1, rfl⟩ := List.mem_map.1 h
      have := hrou r h1
      simp only [rou1, Bool.and_eq_true] at this
      exact ⟨(hx r h1).1, this.1.1.1⟩
    · obtain ⟨r, h1, rfl⟩ := List.mem_map.1 h
      have := hins r h1
      simp only [ins1, Bool.and_eq_true] at this
      exact ⟨(hy r h1).1, this.1⟩
  obtain ⟨hdA, hdm⟩ := foldr_insD fun x h => (hall x h).1
  have hdA' : AscD ds := by rw [hds]; exact hdA
  have hdm' : ∀ x, x ∈ ds ↔ x ∈ allD l old := by rw [hds]; exact hdm
  clear hdA hdm
  have hdi : ∀ x ∈ ds, IsDv x ∧ validT x = true := fun x h => hall x ((hdm' x).1 h)
  have hszd : ∀ x ∈ ds, (dvC x).length = 35 := fun x h => dv_len (hdi x h).1
  have hdl : ds.length ≤ 1024 := by
    have h1 := nodupD_le hdA' (fun x h => (hdm' x).1 h)
    simp only [allD, List.length_append, List.length_map] at h1
    omega
  have hsel : selV now l s links old = ds.filterMap (selE now l s cm old) := by rw [hds, hcm]; rfl
  rw [← hds] at hD F
  rw [← hcm] at hO
  rw [hsel] at hL
  have hoE : ∀ (t : DstV), IsDv t → ∀ e, selE now l s cm old t = some e → IsIn e := fun t ht e h => selE_is ht hy h
  have hwR := weak_R hx hasc
  have hwN := weak_N hascN
  have hov : ∀ t, validOs (optsV now s cm t l) = true := fun t => by rw [hcm]; exact opts_valid hx c1 hk16
  refine stepD rfl F rfl (o_lenSl (F.ev rfl) ?_); clear F; clear a; intro a F
  refine stepD rfl F rfl (o_move (F.ev rfl) ?_); clear F; clear a; intro a F
  with_reducible refine l_nil ?_
  with_reducible refine q_then ?_
  with_reducible refine c_block ?_
  refine c_loop (fun m a w => ∃ (k r i : Nat) (z : Value) (entR : List (Nat × Obj)), m = ds.length - k ∧ k ≤ ds.length ∧ Yet RouV.to l (ds.drop k) r ∧ Yet InsV.to old (ds.drop k) i ∧ OwnS 62 40 z ((ds.take k).filterMap (selE now l s cm old)).length (insC ((ds.take k).filterMap (selE now l s cm old))) entR ∧ Frm a 190 [] [(69, .int .i64 k), (68, .int .i64 ds.length), (67, .slice qd ds.length capd), (12, .map (some b12)), (15, z), (16, .int .i64 r), (17, .int .i64 i), (0, .int .i64 now), (1, .slice q l.length cap), (2, vs), (4, .slice qo old.length capo)] ∧ Mem [] W w (entR ++ (entD ++ ent))) ds.length ⟨0, 0, 0, .slice none 0 0, [], rfl, by omega, ⟨by omega, fun j hj h => absurd h (by omega), fun j hj _ => (hdm' _).2 (List.mem_append_left _ (List.mem_map_of_mem (List.getElem_mem hj)))⟩, ⟨by omega, fun j hj h => absurd h (by omega), fun j hj _ => (hdm' _).2 (List.mem_append_right _ (List.mem_map_of_mem (List.getElem_mem hj)))⟩, OwnS.nil _ _, F.only [69, 68, 67, 12, 15, 16, 17, 0, 1, 2, 4] rfl, M⟩ ?_
  clear F M
  rintro m a w ⟨k, r, i, z, entR, hm', hkl, hYr, hYi, hR, F, M⟩
  by_cases hlt : k < ds.length
  · rcases hD with ⟨_, h0, _, _⟩ | ⟨bD, cD, junk, hvD, hentD, hxl, hjl, hnc⟩
    · omega
    cases hvD
    subst hentD
    have f1 : seg (dvsC ds ++ junk) (0 + (k : Int).toNat * 35) 35 = some (dvC ds[k]) := own_el hszd junk hlt (by omega)
    have hdk : ds.drop k = ds[k] :: ds.drop (k + 1) := List.drop_eq_getElem_cons hlt
    have htk : (ds.take (k + 1)).filterMap (selE now l s cm old) = (ds.take k).filterMap (selE now l s cm old) ++ (selE now l s cm old ds[k]).toList := by
      rw [List.take_add_one, List.getElem?_eq_getElem hlt, List.filterMap_append]
      cases ho : selE now l s cm old ds[k] <;> simp [List.filterMap_cons, ho]
    obtain ⟨ht, hvt⟩ := hdi _ (List.getElem_mem hlt)
    obtain ⟨t, ht0⟩ : ∃ t, t = ds[k] := ⟨_, rfl⟩
    rw [← ht0] at f1 hdk htk ht hvt
    have hdk2 : AscD (t :: ds.drop (k + 1)) := by rw [← hdk]; exact hdA'.sublist (List.drop_sublist _ _)
    have hdk3 : ∀ x ∈ t :: ds.drop (k + 1), IsDv x := fun x h => (hdi x (List.mem_of_mem_drop (by rw [hdk]; exact h))).1
    rw [hdk] at hYr hYi
    have t1 := dv_len ht
    have t2 := dv_all ht
    have t3 := dv_fits ht
    replace M := M.perm (l' := (bD, .cells (dvsC ds ++ junk).toArray 47 (0, 0)) :: (entR ++ ent)) (by classical exact List.perm_iff_count.2 fun _ => by simp only [List.count_append, List.count_cons, List.count_nil, Nat.add_zero, Nat.zero_add] <;> ac_rfl)
    with_reducible refine c_seq ?_
    with_reducible refine c_region ?_
    refine stepD rfl F rfl (o_lssT (F.ev rfl) (F.ev rfl) (by omega) ?_); clear F; clear a; intro a F
    with_reducible refine l_nil ?_
    with_reducible refine q_then ?_
    with_reducible refine c_seq ?_
    refine c_true F rfl rfl ?_
    with_reducible refine c_skip ?_
    with_reducible refine q_then ?_
    with_reducible refine c_seq ?_
    with_reducible refine c_block ?_
    with_reducible refine c_seq ?_
    with_reducible refine c_region ?_
    refine stepD rfl F rfl (o_indexSl (F.ev rfl) (F.ev rfl) (by omega) (by omega) ?_); clear F; clear a; intro a F
    refine stepD rfl F rfl (o_loadA M (F.ev rfl) (by repeat (first | exact .here | apply Has.there)) (by first | assumption | rfl) ?_); clear F; clear a; intro a F
    (refine stepD rfl F rfl (o_alloc M ?_); clear F; clear M; intro b19 w M a F)
    (refine stepN rfl F (o_storeA M (F.ev rfl) (F.ev rfl) (t1) (dv_one t)  (by repeat (first | exact .here | apply Has.there))  (put_all (by rw [t1]; rfl)) (by repeat (first | exact .here | apply Upd.there)) ?_); clear F; clear M; intro w M a F)
    with_reducible refine l_nil ?_
    with_reducible refine q_then ?_
    with_reducible refine c_seq ?_
    with_reducible refine c_region ?_
    refine stepD rfl F rfl (o_assign (F.ev rfl) ?_); clear F; clear a; intro a F
    with_reducible refine l_nil ?_
    with_reducible refine q_then ?_
    with_reducible refine c_seq ?_
    with_reducible refine c_region ?_
    (refine stepD rfl F rfl (o_makeMap0 M ?_); clear F; clear M; intro bS w M a F)
    refine stepD rfl F rfl (o_assign (F.ev rfl) ?_); clear F; clear a; intro a F
    refine l_nil ?_
    refine q_then ?_
    repeat (with_reducible refine c_seq ?_)
    refine c_cut (fun a w => ∃ (r1 : Nat) (zO : Value) (entO entS : List (Nat × Obj)), Yet RouV.to l (ds.drop (k + 1)) r1 ∧ OwnS 73 2 zO (optsV now s cm t l).length (opsC (optsV now s cm t l)) entO ∧ OwnM (Value.int .u64) (.map (some bS)) (mapQ (saidV now s cm t l)) entS ∧ Frm a 190 [] [(16, .int .i64 r1), (20, zO), (21, .map (some bS)), (19, .pointer (some ⟨b19, 0, none⟩)), (69, .int .i64 k), (68, .int .i64 ds.length), (67, .slice (some ⟨bD, 0, none⟩) ds.length capd), (12, .map (some b12)), (15, z), (17, .int .i64 i), (0, .int .i64 now), (1, .slice q l.length cap), (2, vs), (4, .slice qo old.length capo)] ∧ Mem [] W w (entS ++ (entO ++ ((b19, .cells (dvC t).toArray 47 (0, 0)) :: (bD, .cells (dvsC ds ++ junk).toArray 47 (0, 0)) :: (entR ++ ent))))) ?_ ?_
    · with_reducible refine c_block ?_
      refine c_loop (fun m a w => ∃ (r' : Nat) (zO : Value) (entO entS : List (Nat × Obj)), m = l.length - r' ∧ r ≤ r' ∧ r' ≤ l.length ∧ (∀ j (hj : j < l.length), r ≤ j → j < r' → l[j].to = t) ∧ OwnS 73 2 zO (optsV now s cm t (l.take r')).length (opsC (optsV now s cm t (l.take r'))) entO ∧ OwnM (Value.int .u64) (.map (some bS)) (mapQ (saidV now s cm t (l.take r'))) entS ∧ Frm a 190 [] [(16, .int .i64 r'), (20, zO), (21, .map (some bS)), (19, .pointer (some ⟨b19, 0, none⟩)), (69, .int .i64 k), (68, .int .i64 ds.length), (67, .slice (some ⟨bD, 0, none⟩) ds.length capd), (12, .map (some b12)), (15, z), (17, .int .i64 i), (0, .int .i64 now), (1, .slice q l.length cap), (2, vs), (4, .slice qo old.length capo)] ∧ Mem [] W w (entS ++ (entO ++ ((b19, .cells (dvC t).toArray 47 (0, 0)) :: (bD, .cells (dvsC ds ++ junk).toArray 47 (0, 0)) :: (entR ++ ent))))) (l.length - r) ⟨r, .slice none 0 0, [], [(bS, _)], rfl, by omega, hYr.le, fun j hj h1 h2 => absurd h2 (by omega), by rw [optsV_nil (hYr.before)]; exact OwnS.nil _ _, by rw [saidV_nil (hYr.before)]; exact ⟨bS, _, rfl, rfl, MapAt.empty _⟩, F.only [16, 20, 21, 19, 69, 68, 67, 12, 15, 17, 0, 1, 2, 4] rfl, M⟩ ?_
      clear F M
      rintro m a w ⟨r', zO, entO, entS, hm2, hr1, hr2, hre, hOO, hOS, F, M⟩
      have hend : (∀ hj : r' < l.length, l[r'].to ≠ t) → Yet RouV.to l (ds.drop (k + 1)) r' ∧ optsV now s cm t l = optsV now s cm t (l.take r') ∧ saidV now s cm t l = saidV now s cm t (l.take r') := fun h => by
        obtain ⟨h1, h2⟩ := Yet.next hwR hdk2 hdk3 hYr hr1 hr2 hre h
        exact ⟨h1, optsV_all h2, saidV_all h2⟩
      by_cases hlt2 : r' < l.length
      · obtain ⟨b, o, cs, t', fz, rfl, hb, hs⟩ := hm (by omega)
        have g1 : seg cs (o + (r' : Int).toNat * 39) 39 = some (roC l[r']) := seg_el (ros_len hx) hs hlt2 (by omega)
        have hxv := hx _ (List.getElem_mem hlt2)
        have hos := fun h => optsV_step (now := now) (s := s) (cm := cm) (t := t) hlt2 h
        have hss := fun h => saidV_step (now := now) (s := s) (cm := cm) (t := t) hlt2 h
        obtain ⟨x, hx0⟩ : ∃ x, x = l[r'] := ⟨_, rfl⟩
        rw [← hx0] at g1 hxv hos hss
        have g2 : seg cs (o + (r' : Int).toNat * 39) 35 = some (dvC x.to) := sg_seg g1 (ro_to hxv) (by omega)
        have g3 : nth cs (o + (r' : Int).toNat * 39 + 35) = some (.int .u64 x.nb) := sg_nth g1 (ro_nb hxv) (by omega)
        have g4 : seg cs (o + (r' : Int).toNat * 39 + 36) 2 = some (diC x.said) := sg_seg g1 (ro_said hxv) (by omega)
        have g5 : nth cs (o + (r' : Int).toNat * 39 + 37) = some (.int .i64 x.said.met) := sg_nth g1 (ro_said_met hxv) (by omega)
        have g6 : nth cs (o + (r' : Int).toNat * 39 + 38) = some (.int .i64 x.til) := sg_nth g1 (ro_til hxv) (by omega)
        have g7 := dv_fits hxv.1
        have g8 := dv_eq hxv.1 ht
        replace M := M.perm (l' := (b19, .cells (dvC t).toArray 47 (0, 0)) :: (entS ++ (entO ++ ((bD, .cells (dvsC ds ++ junk).toArray 47 (0, 0)) :: (entR ++ ent))))) (by classical exact List.perm_iff_count.2 fun _ => by simp only [List.count_append, List.count_cons, List.count_nil, Nat.add_zero, Nat.zero_add] <;> ac_rfl)
        with_reducible refine c_seq ?_
        with_reducible refine c_seq ?_
        by_cases he : x.to = t
        · rw [decide_eq_true he] at g8
          refine c_draw 13 F (by kernel_rfl) ?_
          intro w1 hE hok
          have M1 := M.later hE
          refine mK hok rfl rfl (fun a' w' F' E' => o_move (F'.ev rfl) ⟨Ext.refl _ _, rfl⟩) ?_
          refine mK hok rfl rfl (fun a' w' F' E' => o_move (F'.ev rfl) ⟨Ext.refl _ _, rfl⟩) ?_
          refine mK hok rfl rfl (fun a' w' F' E' => o_lenSl (F'.ev rfl) ⟨Ext.refl _ _, rfl⟩) ?_
          refine mK hok rfl rfl (fun a' w' F' E' => o_lssT (F'.ev rfl) (F'.ev rfl) (by omega) ⟨Ext.refl _ _, rfl⟩) ?_
          refine mK hok rfl rfl (fun a' w' F' E' => o_move (F'.ev rfl) ⟨Ext.refl _ _, rfl⟩) ?_
          refine mKG hok rfl rfl rfl rfl (fun a' w' F' E' => o_move (F'.ev rfl) ⟨Ext.refl _ _, rfl⟩) ?_
          refine mKG hok rfl rfl rfl rfl (fun a' w' F' E' => o_move (F'.ev rfl) ⟨Ext.refl _ _, rfl⟩) ?_
          refine mKG hok rfl rfl rfl rfl (fun a' w' F' E' => o_indexSl (F'.ev rfl) (F'.ev rfl) (by omega) (by omega) ⟨Ext.refl _ _, rfl⟩) ?_
          refine mKG hok rfl rfl rfl rfl (fun a' w' F' E' => o_fieldAddr (F'.ev rfl) ⟨Ext.refl _ _, rfl⟩) ?_
          refine mKG hok rfl rfl rfl rfl (fun a' w' F' E' => o_loadWA (M1.later E') (F'.ev rfl) (by assumption) (by first | assumption | rfl) ⟨Ext.refl _ _, rfl⟩) ?_
          refine mKG hok rfl rfl rfl rfl (fun a' w' F' E' => o_loadA (M1.later E') (F'.ev rfl) (by repeat (first | exact .here | apply Has.there)) (by first | assumption | rfl) ⟨Ext.refl _ _, rfl⟩) ?_
          refine mKG hok rfl rfl rfl rfl (fun a' w' F' E' => o_eqlAT (F'.ev rfl) (F'.ev rfl) (by first | assumption | rfl) (by first | assumption | rfl) (by assumption) ⟨Ext.refl _ _, rfl⟩) ?_
          refine mK hok rfl rfl (fun a' w' F' E' => o_pickT (F'.ev rfl) (F'.ev rfl) ⟨Ext.refl _ _, rfl⟩) ?_
          (refine mDone rfl rfl ?_; clear F; clear M; intro a w F hE2 hX hTT hDD hPP; have M := M1.later hE2; clear M1; clear hX; clear hE2; clear hok; clear hE; clear hTT; clear hDD; clear hPP; (try dsimp only at F))
          refine l_nil ?_
          dsimp only
          refine q_then ?_
          repeat (with_reducible refine c_seq ?_)
          refine c_true F rfl rfl ?_
          refine c_skip ?_
          refine q_then ?_
          repeat (with_reducible refine c_seq ?_)
          replace F := F.only [16, 20, 21, 19, 69, 68, 67, 12, 15, 17, 0, 1, 2, 4] rfl
          refine c_cut (fun a w => ∃ (zO2 : Value) (entO2 entS2 : List (Nat × Obj)), OwnS 73 2 zO2 (optsV now s cm t (l.take (r' + 1))).length (opsC (optsV now s cm t (l.take (r' + 1)))) entO2 ∧ OwnM (Value.int .u64) (.map (some bS)) (mapQ (saidV now s cm t (l.take (r' + 1)))) entS2 ∧ Frm a 190 [] [(16, .int .i64 r'), (20, zO2), (21, .map (some bS)), (19, .pointer (some ⟨b19, 0, none⟩)), (69, .int .i64 k), (68, .int .i64 ds.length), (67, .slice (some ⟨bD, 0, none⟩) ds.length capd), (12, .map (some b12)), (15, z), (17, .int .i64 i), (0, .int .i64 now), (1, .slice (some ⟨b, o, none⟩) l.length cap), (2, vs), (4, .slice qo old.length capo)] ∧ Mem [] W w (entS2 ++ (entO2 ++ ((b19, .cells (dvC t).toArray 47 (0, 0)) :: (bD, .cells (dvsC ds ++ junk).toArray 47 (0, 0)) :: (entR ++ ent))))) ?_ ?_
          · rw [hos he, hss he]
            clear hos hss hend hL
            with_reducible refine c_block ?_
            with_reducible refine c_seq ?_
            with_reducible refine c_region ?_
            refine stepD rfl F rfl (o_move (F.ev rfl) ?_); clear F; clear a; intro a F
            refine stepD rfl F rfl (o_move (F.ev rfl) ?_); clear F; clear a; intro a F
            refine stepD rfl F rfl (o_move (F.ev rfl) ?_); clear F; clear a; intro a F
            refine stepD rfl F rfl (o_indexSl (F.ev rfl) (F.ev rfl) (by omega) (by omega) ?_); clear F; clear a; intro a F
            refine stepD rfl F rfl (o_fieldAddr (F.ev rfl) ?_); clear F; clear a; intro a F
            refine stepD rfl F rfl (o_loadW1 M (F.ev rfl) (by assumption) (by first | assumption | rfl) ?_); clear F; clear a; intro a F
            (refine stepD rfl F rfl (o_lookup2 keyE_law zero_iR (hO.at_ (fun p hp => M.at_ p (by simp [hp]))) (fun _ _ => trivial) (a := x.nb) trivial (F.ev rfl) (F.ev rfl) ?_); clear F; clear a; intro a F)
            rw [getA_mapI] at F
            cases hc : getA x.nb cm with
            | none =>
              rw [hc] at F
              have hv0 : optV now s cm t x = none := by unfold optV; rw [hc]
              rw [hv0]
              refine stepD rfl F rfl (o_move (F.ev rfl) ?_); clear F; clear a; intro a F
              refine stepD rfl F rfl (o_extract (F.ev rfl) rfl ?_); clear F; clear a; intro a F
              refine stepD rfl F rfl (o_extract (F.ev rfl) rfl ?_); clear F; clear a; intro a F
              refine stepD rfl F rfl (o_assign (F.ev rfl) ?_); clear F; clear a; intro a F
              refine stepD rfl F rfl (o_assign (F.ev rfl) ?_); clear F; clear a; intro a F
              with_reducible refine l_nil ?_
              with_reducible refine q_then ?_
              with_reducible refine c_seq ?_
              with_reducible refine c_seq ?_
              replace F := F.only [16, 20, 21, 19, 69, 68, 67, 12, 15, 17, 0, 1, 2, 4, 22, 23] rfl
              refine c_draw 23 F (by kernel_rfl) ?_
              intro w1 hE hok
              have M1 := M.later hE
              refine mK hok rfl rfl (fun a' w' F' E' => o_move (F'.ev rfl) ⟨Ext.refl _ _, rfl⟩) ?_
              refine mK hok rfl rfl (fun a' w' F' E' => o_not (F'.ev rfl) ⟨Ext.refl _ _, rfl⟩) ?_
              refine mK hok rfl rfl (fun a' w' F' E' => o_move (F'.ev rfl) ⟨Ext.refl _ _, rfl⟩) ?_
              refine mOff hok rfl rfl rfl rfl rfl ?_
              refine mOff hok rfl rfl rfl rfl rfl ?_
              refine mOff hok rfl rfl rfl rfl rfl ?_
              refine mOff hok rfl rfl rfl rfl rfl ?_
              refine mOff hok rfl rfl rfl rfl rfl ?_
              refine mOff hok rfl rfl rfl rfl rfl ?_
              refine mOff hok rfl rfl rfl rfl rfl ?_
              refine mK hok rfl rfl (fun a' w' F' E' => o_pickT (F'.ev rfl) (F'.ev rfl) ⟨Ext.refl _ _, rfl⟩) ?_
              refine mK hok rfl rfl (fun a' w' F' E' => o_move (F'.ev rfl) ⟨Ext.refl _ _, rfl⟩) ?_
              refine mOff hok rfl rfl rfl rfl rfl ?_
              refine mOff hok rfl rfl rfl rfl rfl ?_
              refine mOff hok rfl rfl rfl rfl rfl ?_
              refine mOff hok rfl rfl rfl rfl rfl ?_
              refine mOff hok rfl rfl rfl rfl rfl ?_
              refine mOff hok rfl rfl rfl rfl rfl ?_
              refine mOff hok rfl rfl rfl rfl rfl ?_
              refine mOff hok rfl rfl rfl rfl rfl ?_
              refine mOff hok rfl rfl rfl rfl rfl ?_
              refine mOff hok rfl rfl rfl rfl rfl ?_
              refine mK hok rfl rfl (fun a' w' F' E' => o_pickT (F'.ev rfl) (F'.ev rfl) ⟨Ext.refl _ _, rfl⟩) ?_
              (refine mDone rfl rfl ?_; clear F; clear M; intro a w F hE2 hX hTT hDD hPP; have M := M1.later hE2; clear M1; clear hX; clear hE2; clear hok; clear hE; clear hTT; clear hDD; clear hPP; (try dsimp only at F))
              with_reducible refine l_nil ?_
              with_reducible refine q_then ?_
              refine c_true F rfl rfl ?_
              with_reducible refine c_exit ?_
              with_reducible refine q_thenX ?_
              with_reducible refine q_inBX ?_
              exact ⟨zO, entO, entS, by simpa using hOO, by simpa using hOS, F.only [16, 20, 21, 19, 69, 68, 67, 12, 15, 17, 0, 1, 2, 4] rfl, M.perm (by classical exact List.perm_iff_count.2 fun _ => by simp only [List.count_append, List.count_cons, List.count_nil, Nat.add_zero, Nat.zero_add] <;> ac_rfl)⟩
            | some c =>
              rw [hc] at F
              refine stepD rfl F rfl (o_move (F.ev rfl) ?_); clear F; clear a; intro a F
              refine stepD rfl F rfl (o_extract (F.ev rfl) rfl ?_); clear F; clear a; intro a F
              refine stepD rfl F rfl (o_extract (F.ev rfl) rfl ?_); clear F; clear a; intro a F
              refine stepD rfl F rfl (o_assign (F.ev rfl) ?_); clear F; clear a; intro a F
              refine stepD rfl F rfl (o_assign (F.ev rfl) ?_); clear F; clear a; intro a F
              with_reducible refine l_nil ?_
              with_reducible refine q_then ?_
              with_reducible refine c_seq ?_
              with_reducible refine c_seq ?_
              replace F := F.only [16, 20, 21, 19, 69, 68, 67, 12, 15, 17, 0, 1, 2, 4, 22, 23] rfl
              by_cases c6 : x.til ≤ now
              · have hv0 : optV now s cm t x = none := by unfold optV; rw [hc]; dsimp only; rw [decide_eq_true c6]; rfl
                rw [hv0]
                refine c_draw 23 F (by kernel_rfl) ?_
                intro w1 hE hok
                have M1 := M.later hE
                refine mK hok rfl rfl (fun a' w' F' E' => o_move (F'.ev rfl) ⟨Ext.refl _ _, rfl⟩) ?_
                refine mK hok rfl rfl (fun a' w' F' E' => o_not (F'.ev rfl) ⟨Ext.refl _ _, rfl⟩) ?_
                refine mK hok rfl rfl (fun a' w' F' E' => o_move (F'.ev rfl) ⟨Ext.refl _ _, rfl⟩) ?_
                refine mKG hok rfl rfl rfl rfl (fun a' w' F' E' => o_move (F'.ev rfl) ⟨Ext.refl _ _, rfl⟩) ?_
                refine mKG hok rfl rfl rfl rfl (fun a' w' F' E' => o_move (F'.ev rfl) ⟨Ext.refl _ _, rfl⟩) ?_
                refine mKG hok rfl rfl rfl rfl (fun a' w' F' E' => o_indexSl (F'.ev rfl) (F'.ev rfl) (by omega) (by omega) ⟨Ext.refl _ _, rfl⟩) ?_
                refine mKG hok rfl rfl rfl rfl (fun a' w' F' E' => o_fieldAddr (F'.ev rfl) ⟨Ext.refl _ _, rfl⟩) ?_
                refine mKG hok rfl rfl rfl rfl (fun a' w' F' E' => o_loadW1 (M1.later E') (F'.ev rfl) (by assumption) (by first | assumption | rfl) ⟨Ext.refl _ _, rfl⟩) ?_
                refine mKG hok rfl rfl rfl rfl (fun a' w' F' E' => o_move (F'.ev rfl) ⟨Ext.refl _ _, rfl⟩) ?_
                refine mKG hok rfl rfl rfl rfl (fun a' w' F' E' => o_leqT (F'.ev rfl) (F'.ev rfl) (by omega) ⟨Ext.refl _ _, rfl⟩) ?_
                refine mK hok rfl rfl (fun a' w' F' E' => o_pickF (F'.ev rfl) (F'.ev rfl) ⟨Ext.refl _ _, rfl⟩) ?_
                refine mK hok rfl rfl (fun a' w' F' E' => o_move (F'.ev rfl) ⟨Ext.refl _ _, rfl⟩) ?_
                refine mOff hok rfl rfl rfl rfl rfl ?_
                refine mOff hok rfl rfl rfl rfl rfl ?_
                refine mOff hok rfl rfl rfl rfl rfl ?_
                refine mOff hok rfl rfl rfl rfl rfl ?_
                refine mOff hok rfl rfl rfl rfl rfl ?_
                refine mOff hok rfl rfl rfl rfl rfl ?_
                refine mOff hok rfl rfl rfl rfl rfl ?_
                refine mOff hok rfl rfl rfl rfl rfl ?_
                refine mOff hok rfl rfl rfl rfl rfl ?_
                refine mOff hok rfl rfl rfl rfl rfl ?_
                refine mK hok rfl rfl (fun a' w' F' E' => o_pickT (F'.ev rfl) (F'.ev rfl) ⟨Ext.refl _ _, rfl⟩) ?_
                (refine mDone rfl rfl ?_; clear F; clear M; intro a w F hE2 hX hTT hDD hPP; have M := M1.later hE2; clear M1; clear hX; clear hE2; clear hok; clear hE; clear hTT; clear hDD; clear hPP; (try dsimp only at F))
                with_reducible refine l_nil ?_
                with_reducible refine q_then ?_
                refine c_true F rfl rfl ?_
                with_reducible refine c_exit ?_
                with_reducible refine q_thenX ?_
                with_reducible refine q_inBX ?_
                exact ⟨zO, entO, entS, by simpa using hOO, by simpa using hOS, F.only [16, 20, 21, 19, 69, 68, 67, 12, 15, 17, 0, 1, 2, 4] rfl, M.perm (by classical exact List.perm_iff_count.2 fun _ => by simp only [List.count_append, List.count_cons, List.count_nil, Nat.add_zero, Nat.zero_add] <;> ac_rfl)⟩
              have hfe := scfeas_c s hs' c2 vs now c5 t ht hvt x.said
              cases c7 : feasV s now t x.said
              · have hv0 : optV now s cm t x = none := by unfold optV; rw [hc]; dsimp only; rw [decide_eq_false c6, c7]; rfl
                rw [hv0]
                rw [c7] at hfe
                refine c_draw 23 F (by kernel_rfl) ?_
                intro w1 hE hok
                have M1 := M.later hE
                refine mK hok rfl rfl (fun a' w' F' E' => o_move (F'.ev rfl) ⟨Ext.refl _ _, rfl⟩) ?_
                refine mK hok rfl rfl (fun a' w' F' E' => o_not (F'.ev rfl) ⟨Ext.refl _ _, rfl⟩) ?_
                refine mK hok rfl rfl (fun a' w' F' E' => o_move (F'.ev rfl) ⟨Ext.refl _ _, rfl⟩) ?_
                refine mKG hok rfl rfl rfl rfl (fun a' w' F' E' => o_move (F'.ev rfl) ⟨Ext.refl _ _, rfl⟩) ?_
                refine mKG hok rfl rfl rfl rfl (fun a' w' F' E' => o_move (F'.ev rfl) ⟨Ext.refl _ _, rfl⟩) ?_
                refine mKG hok rfl rfl rfl rfl (fun a' w' F' E' => o_indexSl (F'.ev rfl) (F'.ev rfl) (by omega) (by omega) ⟨Ext.refl _ _, rfl⟩) ?_
                refine mKG hok rfl rfl rfl rfl (fun a' w' F' E' => o_fieldAddr (F'.ev rfl) ⟨Ext.refl _ _, rfl⟩) ?_
                refine mKG hok rfl rfl rfl rfl (fun a' w' F' E' => o_loadW1 (M1.later E') (F'.ev rfl) (by assumption) (by first | assumption | rfl) ⟨Ext.refl _ _, rfl⟩) ?_
                refine mKG hok rfl rfl rfl rfl (fun a' w' F' E' => o_move (F'.ev rfl) ⟨Ext.refl _ _, rfl⟩) ?_
                refine mKG hok rfl rfl rfl rfl (fun a' w' F' E' => o_leqF (F'.ev rfl) (F'.ev rfl) (by omega) ⟨Ext.refl _ _, rfl⟩) ?_
                refine mK hok rfl rfl (fun a' w' F' E' => o_pickF (F'.ev rfl) (F'.ev rfl) ⟨Ext.refl _ _, rfl⟩) ?_
                refine mK hok rfl rfl (fun a' w' F' E' => o_move (F'.ev rfl) ⟨Ext.refl _ _, rfl⟩) ?_
                refine mKG hok rfl rfl rfl rfl (fun a' w' F' E' => o_move (F'.ev rfl) ⟨Ext.refl _ _, rfl⟩) ?_
                refine mKG hok rfl rfl rfl rfl (fun a' w' F' E' => o_move (F'.ev rfl) ⟨Ext.refl _ _, rfl⟩) ?_
                refine mKG hok rfl rfl rfl rfl (fun a' w' F' E' => o_loadA (M1.later E') (F'.ev rfl) (by repeat (first | exact .here | apply Has.there)) (by first | assumption | rfl) ⟨Ext.refl _ _, rfl⟩) ?_
                refine mKG hok rfl rfl rfl rfl (fun a' w' F' E' => o_move (F'.ev rfl) ⟨Ext.refl _ _, rfl⟩) ?_
                refine mKG hok rfl rfl rfl rfl (fun a' w' F' E' => o_move (F'.ev rfl) ⟨Ext.refl _ _, rfl⟩) ?_
                refine mKG hok rfl rfl rfl rfl (fun a' w' F' E' => o_indexSl (F'.ev rfl) (F'.ev rfl) (by omega) (by omega) ⟨Ext.refl _ _, rfl⟩) ?_
                refine mKG hok rfl rfl rfl rfl (fun a' w' F' E' => o_fieldAddr (F'.ev rfl) ⟨Ext.refl _ _, rfl⟩) ?_
                refine mKG hok rfl rfl rfl rfl (fun a' w' F' E' => o_loadWA (M1.later E') (F'.ev rfl) (by assumption) (by first | assumption | rfl) ⟨Ext.refl _ _, rfl⟩) ?_
                (refine mKG hok rfl rfl rfl rfl (fun a' w' F' E' => o_call (F'.ev rfl) (F'.evs rfl) (Cal.mono (hfe _ (hSs.later (M1.later E').ext)) fun _ _ hh => ⟨hh.2, hh.1⟩)) ?_)
                refine mKG hok rfl rfl rfl rfl (fun a' w' F' E' => o_not (F'.ev rfl) ⟨Ext.refl _ _, rfl⟩) ?_
                refine mK hok rfl rfl (fun a' w' F' E' => o_pickF (F'.ev rfl) (F'.ev rfl) ⟨Ext.refl _ _, rfl⟩) ?_
                (refine mDone rfl rfl ?_; clear F; clear M; intro a w F hE2 hX hTT hDD hPP; have M := M1.later hE2; clear M1; clear hX; clear hE2; clear hok; clear hE; clear hTT; clear hDD; clear hPP; (try dsimp only at F))
                with_reducible refine l_nil ?_
                with_reducible refine q_then ?_
                refine c_true F rfl rfl ?_
                with_reducible refine c_exit ?_
                with_reducible refine q_thenX ?_
                with_reducible refine q_inBX ?_
                exact ⟨zO, entO, entS, by simpa using hOO, by simpa using hOS, F.only [16, 20, 21, 19, 69, 68, 67, 12, 15, 17, 0, 1, 2, 4] rfl, M.perm (by classical exact List.perm_iff_count.2 fun _ => by simp only [List.count_append, List.count_cons, List.count_nil, Nat.add_zero, Nat.zero_add] <;> ac_rfl)⟩
              have hv0 : optV now s cm t x = some ⟨x.nb, addM x.said.met c⟩ := by unfold optV; rw [hc]; dsimp only; rw [decide_eq_false c6, c7]; rfl
              rw [hv0]
              rw [c7] at hfe
              refine c_draw 23 F (by kernel_rfl) ?_
              intro w1 hE hok
              have M1 := M.later hE
              refine mK hok rfl rfl (fun a' w' F' E' => o_move (F'.ev rfl) ⟨Ext.refl _ _, rfl⟩) ?_
              refine mK hok rfl rfl (fun a' w' F' E' => o_not (F'.ev rfl) ⟨Ext.refl _ _, rfl⟩) ?_
              refine mK hok rfl rfl (fun a' w' F' E' => o_move (F'.ev rfl) ⟨Ext.refl _ _, rfl⟩) ?_
              refine mKG hok rfl rfl rfl rfl (fun a' w' F' E' => o_move (F'.ev rfl) ⟨Ext.refl _ _, rfl⟩) ?_
              refine mKG hok rfl rfl rfl rfl (fun a' w' F' E' => o_move (F'.ev rfl) ⟨Ext.refl _ _, rfl⟩) ?_
              refine mKG hok rfl rfl rfl rfl (fun a' w' F' E' => o_indexSl (F'.ev rfl) (F'.ev rfl) (by omega) (by omega) ⟨Ext.refl _ _, rfl⟩) ?_
              refine mKG hok rfl rfl rfl rfl (fun a' w' F' E' => o_fieldAddr (F'.ev rfl) ⟨Ext.refl _ _, rfl⟩) ?_
              refine mKG hok rfl rfl rfl rfl (fun a' w' F' E' => o_loadW1 (M1.later E') (F'.ev rfl) (by assumption) (by first | assumption | rfl) ⟨Ext.refl _ _, rfl⟩) ?_
              refine mKG hok rfl rfl rfl rfl (fun a' w' F' E' => o_move (F'.ev rfl) ⟨Ext.refl _ _, rfl⟩) ?_
              refine mKG hok rfl rfl rfl rfl (fun a' w' F' E' => o_leqF (F'.ev rfl) (F'.ev rfl) (by omega) ⟨Ext.refl _ _, rfl⟩) ?_
              refine mK hok rfl rfl (fun a' w' F' E' => o_pickF (F'.ev rfl) (F'.ev rfl) ⟨Ext.refl _ _, rfl⟩) ?_
              refine mK hok rfl rfl (fun a' w' F' E' => o_move (F'.ev rfl) ⟨Ext.refl _ _, rfl⟩) ?_
              refine mKG hok rfl rfl rfl rfl (fun a' w' F' E' => o_move (F'.ev rfl) ⟨Ext.refl _ _, rfl⟩) ?_
              refine mKG hok rfl rfl rfl rfl (fun a' w' F' E' => o_move (F'.ev rfl) ⟨Ext.refl _ _, rfl⟩) ?_
              refine mKG hok rfl rfl rfl rfl (fun a' w' F' E' => o_loadA (M1.later E') (F'.ev rfl) (by repeat (first | exact .here | apply Has.there)) (by first | assumption | rfl) ⟨Ext.refl _ _, rfl⟩) ?_
              refine mKG hok rfl rfl rfl rfl (fun a' w' F' E' => o_move (F'.ev rfl) ⟨Ext.refl _ _, rfl⟩) ?_
              refine mKG hok rfl rfl rfl rfl (fun a' w' F' E' => o_move (F'.ev rfl) ⟨Ext.refl _ _, rfl⟩) ?_
              refine mKG hok rfl rfl rfl rfl (fun a' w' F' E' => o_indexSl (F'.ev rfl) (F'.ev rfl) (by omega) (by omega) ⟨Ext.refl _ _, rfl⟩) ?_
              refine mKG hok rfl rfl rfl rfl (fun a' w' F' E' => o_fieldAddr (F'.ev rfl) ⟨Ext.refl _ _, rfl⟩) ?_
              refine mKG hok rfl rfl rfl rfl (fun a' w' F' E' => o_loadWA (M1.later E') (F'.ev rfl) (by assumption) (by first | assumption | rfl) ⟨Ext.refl _ _, rfl⟩) ?_
              (refine mKG hok rfl rfl rfl rfl (fun a' w' F' E' => o_call (F'.ev rfl) (F'.evs rfl) (Cal.mono (hfe _ (hSs.later (M1.later E').ext)) fun _ _ hh => ⟨hh.2, hh.1⟩)) ?_)
              refine mKG hok rfl rfl rfl rfl (fun a' w' F' E' => o_not (F'.ev rfl) ⟨Ext.refl _ _, rfl⟩) ?_
              refine mK hok rfl rfl (fun a' w' F' E' => o_pickF (F'.ev rfl) (F'.ev rfl) ⟨Ext.refl _ _, rfl⟩) ?_
              (refine mDone rfl rfl ?_; clear F; clear M; intro a w F hE2 hX hTT hDD hPP; have M := M1.later hE2; clear M1; clear hX; clear hE2; clear hok; clear hE; clear hTT; clear hDD; clear hPP; (try dsimp only at F))
              with_reducible refine l_nil ?_
              with_reducible refine q_then ?_
              refine c_false F rfl rfl ?_
              with_reducible refine c_skip ?_
              with_reducible refine q_then ?_
              with_reducible refine c_seq ?_
              clear hov hoE hYi hdk2 hdk3 htk hfe hre
              have hol : (optsV now s cm t (l.take r')).length ≤ 512 := opts_len (by rw [List.length_take]; omega)
              replace F := F.only [16, 20, 21, 19, 69, 68, 67, 12, 15, 17, 0, 1, 2, 4, 22] rfl
              replace M := M.perm (l' := (b19, .cells (dvC t).toArray 47 (0, 0)) :: (bD, .cells (dvsC ds ++ junk).toArray 47 (0, 0)) :: (entO ++ (entR ++ (ent ++ entS)))) (by classical exact List.perm_iff_count.2 fun _ => by simp only [List.count_append, List.count_cons, List.count_nil, Nat.add_zero, Nat.zero_add] <;> ac_rfl)
              refine c_draw 11 F (by kernel_rfl) ?_
              intro w1 hE hok
              have M1 := M.later hE
              refine mK hok rfl rfl (fun a' w' F' E' => o_move (F'.ev rfl) ⟨Ext.refl _ _, rfl⟩) ?_
              refine mK hok rfl rfl (fun a' w' F' E' => o_move (F'.ev rfl) ⟨Ext.refl _ _, rfl⟩) ?_
              refine mK hok rfl rfl (fun a' w' F' E' => o_move (F'.ev rfl) ⟨Ext.refl _ _, rfl⟩) ?_
              refine mK hok rfl rfl (fun a' w' F' E' => o_indexSl (F'.ev rfl) (F'.ev rfl) (by omega) (by omega) ⟨Ext.refl _ _, rfl⟩) ?_
              refine mK hok rfl rfl (fun a' w' F' E' => o_fieldAddr (F'.ev rfl) ⟨Ext.refl _ _, rfl⟩) ?_
              refine mK hok rfl rfl (fun a' w' F' E' => o_loadW1 (M1.later E') (F'.ev rfl) (by assumption) (by first | assumption | rfl) ⟨Ext.refl _ _, rfl⟩) ?_
              refine mK hok rfl rfl (fun a' w' F' E' => o_move (F'.ev rfl) ⟨Ext.refl _ _, rfl⟩) ?_
              refine mK hok rfl rfl (fun a' w' F' E' => o_move (F'.ev rfl) ⟨Ext.refl _ _, rfl⟩) ?_
              refine mK hok rfl rfl (fun a' w' F' E' => o_indexSl (F'.ev rfl) (F'.ev rfl) (by omega) (by omega) ⟨Ext.refl _ _, rfl⟩) ?_
              refine mK hok rfl rfl (fun a' w' F' E' => o_fieldAddr (F'.ev rfl) ⟨Ext.refl _ _, rfl⟩) ?_
              refine mK hok rfl rfl (fun a' w' F' E' => o_loadWA (M1.later E') (F'.ev rfl) (by assumption) (by first | assumption | rfl) ⟨Ext.refl _ _, rfl⟩) ?_
              (refine mDone rfl rfl ?_; clear F; clear M; intro a w F hE2 hX hTT hDD hPP; have M := M1.later hE2; clear M1; clear hX; clear hE2; clear hok; clear hE; clear hTT; clear hDD; clear hPP; (try dsimp only at F))
              (refine stepN rfl F (o_mapUpdate (u := diV x.said) keyE_law M hOS (.cons (.cons (.app (.app (.app .here))))) (fun _ _ => trivial) (a := x.nb) trivial (F.ev rfl) (F.ev rfl) (F.ev rfl) ?_); clear F; clear M; intro entS2 w hOS2 M a F)
              replace M := M.perm (l' := (b19, .cells (dvC t).toArray 47 (0, 0)) :: (bD, .cells (dvsC ds ++ junk).toArray 47 (0, 0)) :: (entS2 ++ (entR ++ (ent ++ entO)))) (by classical exact List.perm_iff_count.2 fun _ => by simp only [List.count_append, List.count_cons, List.count_nil, Nat.add_zero, Nat.zero_add] <;> ac_rfl)
              with_reducible refine l_nil ?_
              with_reducible refine q_then ?_
              replace F := F.only [16, 20, 21, 19, 69, 68, 67, 12, 15, 17, 0, 1, 2, 4, 22] rfl
              refine c_draw 16 F (by kernel_rfl) ?_
              intro w1 hE hok
              have M1 := M.later hE
              refine mK hok rfl rfl (fun a' w' F' E' => o_move (F'.ev rfl) ⟨Ext.refl _ _, rfl⟩) ?_
              refine mK hok rfl rfl (fun a' w' F' E' => o_move (F'.ev rfl) ⟨Ext.refl _ _, rfl⟩) ?_
              refine mK hok rfl rfl (fun a' w' F' E' => o_move (F'.ev rfl) ⟨Ext.refl _ _, rfl⟩) ?_
              refine mK hok rfl rfl (fun a' w' F' E' => o_indexSl (F'.ev rfl) (F'.ev rfl) (by omega) (by omega) ⟨Ext.refl _ _, rfl⟩) ?_
              refine mK hok rfl rfl (fun a' w' F' E' => o_fieldAddr (F'.ev rfl) ⟨Ext.refl _ _, rfl⟩) ?_
              refine mK hok rfl rfl (fun a' w' F' E' => o_loadW1 (M1.later E') (F'.ev rfl) (by assumption) (by first | assumption | rfl) ⟨Ext.refl _ _, rfl⟩) ?_
              refine mK hok rfl rfl (fun a' w' F' E' => o_move (F'.ev rfl) ⟨Ext.refl _ _, rfl⟩) ?_
              refine mK hok rfl rfl (fun a' w' F' E' => o_move (F'.ev rfl) ⟨Ext.refl _ _, rfl⟩) ?_
              refine mK hok rfl rfl (fun a' w' F' E' => o_indexSl (F'.ev rfl) (F'.ev rfl) (by omega) (by omega) ⟨Ext.refl _ _, rfl⟩) ?_
              refine mK hok rfl rfl (fun a' w' F' E' => o_fieldAddr (F'.ev rfl) ⟨Ext.refl _ _, rfl⟩) ?_
              refine mK hok rfl rfl (fun a' w' F' E' => o_fieldAddr (F'.ev rfl) ⟨Ext.refl _ _, rfl⟩) ?_
              refine mK hok rfl rfl (fun a' w' F' E' => o_loadW1 (M1.later E') (F'.ev rfl) (by assumption) (by first | assumption | rfl) ⟨Ext.refl _ _, rfl⟩) ?_
              refine mK hok rfl rfl (fun a' w' F' E' => o_move (F'.ev rfl) ⟨Ext.refl _ _, rfl⟩) ?_
              (refine mK hok rfl rfl (fun a' w' F' E' => o_call (F'.ev rfl) (F'.evs rfl) (Cal.mono (addM_c x.said.met c _) fun _ _ hh => ⟨hh.2, hh.1⟩)) ?_)
              refine mK hok rfl rfl (fun a' w' F' E' => o_build F' rfl rfl ⟨Ext.refl _ _, rfl⟩) ?_
              refine mX (V := NewP w1.heap.size (PhO ⟨x.nb, addM x.said.met c⟩)) hok rfl rfl (NewP.stays _ _) (fun a' w' F' E' D' => bsO ⟨x.nb, addM x.said.met c⟩ F' E' rfl) ?_
              (refine mDone rfl rfl ?_; clear F; clear M; intro a w F hE2 hX hTT hDD hPP; have M := M1.later hE2; (try dsimp only at F); obtain ⟨new, hΦ, hN⟩ := hX 15 _ rfl; replace M := M.joinNew M1 hN; obtain ⟨b148, hr, rfl⟩ := hΦ; replace F := F.know (d := 148) hr; clear hr; clear hN; clear M1; clear hX; clear hE2; clear hok; clear hE; clear hTT; clear hDD; clear hPP)
              replace M := M.perm (l' := (b148, opO ⟨x.nb, addM x.said.met c⟩) :: (b19, .cells (dvC t).toArray 47 (0, 0)) :: (bD, .cells (dvsC ds ++ junk).toArray 47 (0, 0)) :: (entS2 ++ (entR ++ (ent ++ entO)))) (by classical exact List.perm_iff_count.2 fun _ => by simp only [List.count_append, List.count_cons, List.count_nil, Nat.add_zero, Nat.zero_add] <;> ac_rfl)
              (refine stepD rfl F rfl (o_append hOO M (.cons (.cons (.cons (.app (.app (.app .here)))))) (F.ev rfl) (F.ev rfl) (SrcOf.cells' (M.heap .here) (sg_all (op_len (o := ⟨x.nb, addM x.said.met c⟩) trivial)) (op_one _)) (by omega) (by omega) ?_); clear F; clear M; intro zO2 entO2 w hOO2 M a F)
              refine stepD rfl F rfl (o_assign (F.ev rfl) ?_); clear F; clear a; intro a F
              with_reducible refine l_nil ?_
              with_reducible refine q_inB ?_
              refine ⟨zO2, entO2, entS2, ?_, ?_, F.only [16, 20, 21, 19, 69, 68, 67, 12, 15, 17, 0, 1, 2, 4] rfl, (M.perm (l' := (entS2 ++ (entO2 ++ ((b19, .cells (dvC t).toArray 47 (0, 0)) :: (bD, .cells (dvsC ds ++ junk).toArray 47 (0, 0)) :: (entR ++ ent)))) ++ [(b148, opO ⟨x.nb, addM x.said.met c⟩)]) (by classical exact List.perm_iff_count.2 fun _ => by simp only [List.count_append, List.count_cons, List.count_nil, Nat.add_zero, Nat.zero_add] <;> ac_rfl)).sub (List.sublist_append_left _ _)⟩
              · rw [show (some (⟨x.nb, addM x.said.met c⟩ : OptV)).toList = [⟨x.nb, addM x.said.met c⟩] from rfl, List.length_append]
                show OwnS _ 2 _ _ (encL opC _) _
                rw [encL_app, encL_one]
                exact hOO2
              · rw [if_pos (show (some (⟨x.nb, addM x.said.met c⟩ : OptV)).isSome = true from rfl)]
                unfold mapQ
                rw [← putA_map]
                exact hOS2
          · clear F M
            rintro a w ⟨zO2, entO2, entS2, hOO2, hOS2, F, M⟩
            with_reducible refine q_then ?_
            with_reducible refine c_region ?_
            refine stepD rfl F rfl (o_move (F.ev rfl) ?_); clear F; clear a; intro a F
            refine stepD rfl F rfl (o_add (F.ev rfl) (F.ev rfl) (w_i64 (by omega) (by omega)) ?_); clear F; clear a; intro a F
            refine stepD rfl F rfl (o_assign (F.ev rfl) ?_); clear F; clear a; intro a F
            with_reducible refine l_nil ?_
            with_reducible refine q_then ?_
            exact ⟨_, by omega, r' + 1, zO2, entO2, entS2, rfl, by omega, by omega, fun j hj h1 h2 => by
              rcases Nat.lt_or_ge j r' with h3 | h3
              · exact hre j hj h1 h3
              · obtain rfl : j = r' := by omega
                rw [← hx0]; exact he, hOO2, hOS2, F.only [16, 20, 21, 19, 69, 68, 67, 12, 15, 17, 0, 1, 2, 4] rfl, M⟩
        · rw [decide_eq_false he] at g8
          refine c_draw 13 F (by kernel_rfl) ?_
          intro w1 hE hok
          have M1 := M.later hE
          refine mK hok rfl rfl (fun a' w' F' E' => o_move (F'.ev rfl) ⟨Ext.refl _ _, rfl⟩) ?_
          refine mK hok rfl rfl (fun a' w' F' E' => o_move (F'.ev rfl) ⟨Ext.refl _ _, rfl⟩) ?_
          refine mK hok rfl rfl (fun a' w' F' E' => o_lenSl (F'.ev rfl) ⟨Ext.refl _ _, rfl⟩) ?_
          refine mK hok rfl rfl (fun a' w' F' E' => o_lssT (F'.ev rfl) (F'.ev rfl) (by omega) ⟨Ext.refl _ _, rfl⟩) ?_
          refine mK hok rfl rfl (fun a' w' F' E' => o_move (F'.ev rfl) ⟨Ext.refl _ _, rfl⟩) ?_
          refine mKG hok rfl rfl rfl rfl (fun a' w' F' E' => o_move (F'.ev rfl) ⟨Ext.refl _ _, rfl⟩) ?_
          refine mKG hok rfl rfl rfl rfl (fun a' w' F' E' => o_move (F'.ev rfl) ⟨Ext.refl _ _, rfl⟩) ?_
          refine mKG hok rfl rfl rfl rfl (fun a' w' F' E' => o_indexSl (F'.ev rfl) (F'.ev rfl) (by omega) (by omega) ⟨Ext.refl _ _, rfl⟩) ?_
          refine mKG hok rfl rfl rfl rfl (fun a' w' F' E' => o_fieldAddr (F'.ev rfl) ⟨Ext.refl _ _, rfl⟩) ?_
          refine mKG hok rfl rfl rfl rfl (fun a' w' F' E' => o_loadWA (M1.later E') (F'.ev rfl) (by assumption) (by first | assumption | rfl) ⟨Ext.refl _ _, rfl⟩) ?_
          refine mKG hok rfl rfl rfl rfl (fun a' w' F' E' => o_loadA (M1.later E') (F'.ev rfl) (by repeat (first | exact .here | apply Has.there)) (by first | assumption | rfl) ⟨Ext.refl _ _, rfl⟩) ?_
          refine mKG hok rfl rfl rfl rfl (fun a' w' F' E' => o_eqlAF (F'.ev rfl) (F'.ev rfl) (by first | assumption | rfl) (by first | assumption | rfl) (by assumption) ⟨Ext.refl _ _, rfl⟩) ?_
          refine mK hok rfl rfl (fun a' w' F' E' => o_pickT (F'.ev rfl) (F'.ev rfl) ⟨Ext.refl _ _, rfl⟩) ?_
          (refine mDone rfl rfl ?_; clear F; clear M; intro a w F hE2 hX hTT hDD hPP; have M := M1.later hE2; clear M1; clear hX; clear hE2; clear hok; clear hE; clear hTT; clear hDD; clear hPP; (try dsimp only at F))
          with_reducible refine l_nil ?_
          with_reducible refine q_then ?_
          refine c_false F rfl rfl ?_
          with_reducible refine c_exit ?_
          with_reducible refine q_thenX ?_
          with_reducible refine q_thenX ?_
          with_reducible refine q_inBX ?_
          obtain ⟨h1, h2, h3⟩ := hend (fun hj => by rw [← hx0]; exact he)
          exact ⟨r', zO, entO, entS, h1, by rw [h2]; exact hOO, by rw [h3]; exact hOS, F.only [16, 20, 21, 19, 69, 68, 67, 12, 15, 17, 0, 1, 2, 4] rfl, M.perm (by classical exact List.perm_iff_count.2 fun _ => by simp only [List.count_append, List.count_cons, List.count_nil, Nat.add_zero, Nat.zero_add] <;> ac_rfl)⟩
      · with_reducible refine c_seq ?_
        with_reducible refine c_seq ?_
        refine c_draw 13 F (by kernel_rfl) ?_
        intro w1 hE hok
        have M1 := M.later hE
        refine mK hok rfl rfl (fun a' w' F' E' => o_move (F'.ev rfl) ⟨Ext.refl _ _, rfl⟩) ?_
        refine mK hok rfl rfl (fun a' w' F' E' => o_move (F'.ev rfl) ⟨Ext.refl _ _, rfl⟩) ?_
        refine mK hok rfl rfl (fun a' w' F' E' => o_lenSl (F'.ev rfl) ⟨Ext.refl _ _, rfl⟩) ?_
        refine mK hok rfl rfl (fun a' w' F' E' => o_lssF (F'.ev rfl) (F'.ev rfl) (by omega) ⟨Ext.refl _ _, rfl⟩) ?_
        refine mK hok rfl rfl (fun a' w' F' E' => o_move (F'.ev rfl) ⟨Ext.refl _ _, rfl⟩) ?_
        refine mOff hok rfl rfl rfl rfl rfl ?_
        refine mOff hok rfl rfl rfl rfl rfl ?_
        refine mOff hok rfl rfl rfl rfl rfl ?_
        refine mOff hok rfl rfl rfl rfl rfl ?_
        refine mOff hok rfl rfl rfl rfl rfl ?_
        refine mOff hok rfl rfl rfl rfl rfl ?_
        refine mOff hok rfl rfl rfl rfl rfl ?_
        refine mK hok rfl rfl (fun a' w' F' E' => o_pickF (F'.ev rfl) (F'.ev rfl) ⟨Ext.refl _ _, rfl⟩) ?_
        (refine mDone rfl rfl ?_; clear F; clear M; intro a w F hE2 hX hTT hDD hPP; have M := M1.later hE2; clear M1; clear hX; clear hE2; clear hok; clear hE; clear hTT; clear hDD; clear hPP; (try dsimp only at F))
        with_reducible refine l_nil ?_
        with_reducible refine q_then ?_
        refine c_false F rfl rfl ?_
        with_reducible refine c_exit ?_
        with_reducible refine q_thenX ?_
        with_reducible refine q_thenX ?_
        with_reducible refine q_inBX ?_
        obtain ⟨h1, h2, h3⟩ := hend (fun hj => absurd hj hlt2)
        exact ⟨r', zO, entO, entS, h1, by rw [h2]; exact hOO, by rw [h3]; exact hOS, F.only [16, 20, 21, 19, 69, 68, 67, 12, 15, 17, 0, 1, 2, 4] rfl, M⟩
    · clear F M
      rintro a w ⟨r1, zO, entO, entS, hYr1, hOO, hOS, F, M⟩
      clear hYr
      have hvO := hov t
      have hlO : (ds.take k).length = k := by rw [List.length_take]; omega
      have hlR : ((ds.take k).filterMap (selE now l s cm old)).length ≤ 1024 := by
        have := List.length_filterMap_le (selE now l s cm old) (ds.take k)
        omega
      refine q_then ?_
      repeat (with_reducible refine c_seq ?_)
      replace M := M.perm (l' := ((b19, .cells (dvC t).toArray 47 (0, 0)) :: (bD, .cells (dvsC ds ++ junk).toArray 47 (0, 0)) :: (entS ++ (entO ++ (entR ++ ent))))) (by classical exact List.perm_iff_count.2 fun _ => by simp only [List.count_append, List.count_cons, List.count_nil, Nat.add_zero, Nat.zero_add] <;> ac_rfl)
      refine c_cut (fun a w => ∃ had : Bool, (had = true → ∃ hil : i < old.length, old[i].to = t) ∧ (had = false → ∀ hil : i < old.length, old[i].to ≠ t) ∧ Frm a 190 [] [(24, .bool had), (17, .int .i64 i), (16, .int .i64 r1), (20, zO), (21, .map (some bS)), (19, .pointer (some ⟨b19, 0, none⟩)), (69, .int .i64 k), (68, .int .i64 ds.length), (67, .slice (some ⟨bD, 0, none⟩) ds.length capd), (12, .map (some b12)), (15, z), (0, .int .i64 now), (1, .slice q l.length cap), (2, vs), (4, .slice qo old.length capo)] ∧ Mem [] W w ((b19, .cells (dvC t).toArray 47 (0, 0)) :: (bD, .cells (dvsC ds ++ junk).toArray 47 (0, 0)) :: (entS ++ (entO ++ (entR ++ ent))))) ?_ ?_
      · clear hov hoE hYi hdk2 hdk3 htk
        by_cases hil : i < old.length
        · obtain ⟨b, o, cs, t', fz, rfl, hb, hs⟩ := hmo (by omega)
          have g1 : seg cs (o + (i : Int).toNat * 40) 40 = some (inC old[i]) := seg_el (ins_len hy) hs hil (by omega)
          have hxv := hy _ (List.getElem_mem hil)
          obtain ⟨y, hy0⟩ : ∃ y, y = old[i] := ⟨_, rfl⟩
          rw [← hy0] at g1 hxv
          have g2 : seg cs (o + (i : Int).toNat * 40) 35 = some (dvC y.to) := sg_seg g1 (in_to hxv) (by omega)
          have g7 := dv_fits hxv.1
          have g8 := dv_eq hxv.1 ht
          by_cases he : y.to = t
          · rw [decide_eq_true he] at g8
            refine c_draw 13 F (by kernel_rfl) ?_
            intro w1 hE hok
            have M1 := M.later hE
            refine mK hok rfl rfl (fun a' w' F' E' => o_move (F'.ev rfl) ⟨Ext.refl _ _, rfl⟩) ?_
            refine mK hok rfl rfl (fun a' w' F' E' => o_move (F'.ev rfl) ⟨Ext.refl _ _, rfl⟩) ?_
            refine mK hok rfl rfl (fun a' w' F' E' => o_lenSl (F'.ev rfl) ⟨Ext.refl _ _, rfl⟩) ?_
            refine mK hok rfl rfl (fun a' w' F' E' => o_lssT (F'.ev rfl) (F'.ev rfl) (by omega) ⟨Ext.refl _ _, rfl⟩) ?_
            refine mK hok rfl rfl (fun a' w' F' E' => o_move (F'.ev rfl) ⟨Ext.refl _ _, rfl⟩) ?_
            refine mKG hok rfl rfl rfl rfl (fun a' w' F' E' => o_move (F'.ev rfl) ⟨Ext.refl _ _, rfl⟩) ?_
            refine mKG hok rfl rfl rfl rfl (fun a' w' F' E' => o_move (F'.ev rfl) ⟨Ext.refl _ _, rfl⟩) ?_
            refine mKG hok rfl rfl rfl rfl (fun a' w' F' E' => o_indexSl (F'.ev rfl) (F'.ev rfl) (by omega) (by omega) ⟨Ext.refl _ _, rfl⟩) ?_
            refine mKG hok rfl rfl rfl rfl (fun a' w' F' E' => o_fieldAddr (F'.ev rfl) ⟨Ext.refl _ _, rfl⟩) ?_
            refine mKG hok rfl rfl rfl rfl (fun a' w' F' E' => o_loadWA (M1.later E') (F'.ev rfl) (by assumption) (by first | assumption | rfl) ⟨Ext.refl _ _, rfl⟩) ?_
            refine mKG hok rfl rfl rfl rfl (fun a' w' F' E' => o_loadA (M1.later E') (F'.ev rfl) (by repeat (first | exact .here | apply Has.there)) (by first | assumption | rfl) ⟨Ext.refl _ _, rfl⟩) ?_
            refine mKG hok rfl rfl rfl rfl (fun a' w' F' E' => o_eqlAT (F'.ev rfl) (F'.ev rfl) (by first | assumption | rfl) (by first | assumption | rfl) (by assumption) ⟨Ext.refl _ _, rfl⟩) ?_
            refine mK hok rfl rfl (fun a' w' F' E' => o_pickT (F'.ev rfl) (F'.ev rfl) ⟨Ext.refl _ _, rfl⟩) ?_
            (refine mDone rfl rfl ?_; clear F; clear M; intro a w F hE2 hX hTT hDD hPP; have M := M1.later hE2; clear M1; clear hX; clear hE2; clear hok; clear hE; clear hTT; clear hDD; clear hPP; (try dsimp only at F))
            refine stepD rfl F rfl (o_assign (F.ev rfl) ?_); clear F; clear a; intro a F
            with_reducible refine l_nil ?_
            exact ⟨true, fun _ => ⟨hil, by rw [← hy0]; exact he⟩, fun h => (by cases h), F.only [24, 17, 16, 20, 21, 19, 69, 68, 67, 12, 15, 0, 1, 2, 4] rfl, M⟩
          · rw [decide_eq_false he] at g8
            refine c_draw 13 F (by kernel_rfl) ?_
            intro w1 hE hok
            have M1 := M.later hE
            refine mK hok rfl rfl (fun a' w' F' E' => o_move (F'.ev rfl) ⟨Ext.refl _ _, rfl⟩) ?_
            refine mK hok rfl rfl (fun a' w' F' E' => o_move (F'.ev rfl) ⟨Ext.refl _ _, rfl⟩) ?_
            refine mK hok rfl rfl (fun a' w' F' E' => o_lenSl (F'.ev rfl) ⟨Ext.refl _ _, rfl⟩) ?_
            refine mK hok rfl rfl (fun a' w' F' E' => o_lssT (F'.ev rfl) (F'.ev rfl) (by omega) ⟨Ext.refl _ _, rfl⟩) ?_
            refine mK hok rfl rfl (fun a' w' F' E' => o_move (F'.ev rfl) ⟨Ext.refl _ _, rfl⟩) ?_
            refine mKG hok rfl rfl rfl rfl (fun a' w' F' E' => o_move (F'.ev rfl) ⟨Ext.refl _ _, rfl⟩) ?_
            refine mKG hok rfl rfl rfl rfl (fun a' w' F' E' => o_move (F'.ev rfl) ⟨Ext.refl _ _, rfl⟩) ?_
            refine mKG hok rfl rfl rfl rfl (fun a' w' F' E' => o_indexSl (F'.ev rfl) (F'.ev rfl) (by omega) (by omega) ⟨Ext.refl _ _, rfl⟩) ?_
            refine mKG hok rfl rfl rfl rfl (fun a' w' F' E' => o_fieldAddr (F'.ev rfl) ⟨Ext.refl _ _, rfl⟩) ?_
            refine mKG hok rfl rfl rfl rfl (fun a' w' F' E' => o_loadWA (M1.later E') (F'.ev rfl) (by assumption) (by first | assumption | rfl) ⟨Ext.refl _ _, rfl⟩) ?_
            refine mKG hok rfl rfl rfl rfl (fun a' w' F' E' => o_loadA (M1.later E') (F'.ev rfl) (by repeat (first | exact .here | apply Has.there)) (by first | assumption | rfl) ⟨Ext.refl _ _, rfl⟩) ?_
            refine mKG hok rfl rfl rfl rfl (fun a' w' F' E' => o_eqlAF (F'.ev rfl) (F'.ev rfl) (by first | assumption | rfl) (by first | assumption | rfl) (by assumption) ⟨Ext.refl _ _, rfl⟩) ?_
            refine mK hok rfl rfl (fun a' w' F' E' => o_pickT (F'.ev rfl) (F'.ev rfl) ⟨Ext.refl _ _, rfl⟩) ?_
            (refine mDone rfl rfl ?_; clear F; clear M; intro a w F hE2 hX hTT hDD hPP; have M := M1.later hE2; clear M1; clear hX; clear hE2; clear hok; clear hE; clear hTT; clear hDD; clear hPP; (try dsimp only at F))
            refine stepD rfl F rfl (o_assign (F.ev rfl) ?_); clear F; clear a; intro a F
            with_reducible refine l_nil ?_
            exact ⟨false, fun h => (by cases h), fun _ _ => by rw [← hy0]; exact he, F.only [24, 17, 16, 20, 21, 19, 69, 68, 67, 12, 15, 0, 1, 2, 4] rfl, M⟩
        · refine c_draw 13 F (by kernel_rfl) ?_
          intro w1 hE hok
          have M1 := M.later hE
          refine mK hok rfl rfl (fun a' w' F' E' => o_move (F'.ev rfl) ⟨Ext.refl _ _, rfl⟩) ?_
          refine mK hok rfl rfl (fun a' w' F' E' => o_move (F'.ev rfl) ⟨Ext.refl _ _, rfl⟩) ?_
          refine mK hok rfl rfl (fun a' w' F' E' => o_lenSl (F'.ev rfl) ⟨Ext.refl _ _, rfl⟩) ?_
          refine mK hok rfl rfl (fun a' w' F' E' => o_lssF (F'.ev rfl) (F'.ev rfl) (by omega) ⟨Ext.refl _ _, rfl⟩) ?_
          refine mK hok rfl rfl (fun a' w' F' E' => o_move (F'.ev rfl) ⟨Ext.refl _ _, rfl⟩) ?_
          refine mOff hok rfl rfl rfl rfl rfl ?_
          refine mOff hok rfl rfl rfl rfl rfl ?_
          refine mOff hok rfl rfl rfl rfl rfl ?_
          refine mOff hok rfl rfl rfl rfl rfl ?_
          refine mOff hok rfl rfl rfl rfl rfl ?_
          refine mOff hok rfl rfl rfl rfl rfl ?_
          refine mOff hok rfl rfl rfl rfl rfl ?_
          refine mK hok rfl rfl (fun a' w' F' E' => o_pickF (F'.ev rfl) (F'.ev rfl) ⟨Ext.refl _ _, rfl⟩) ?_
          (refine mDone rfl rfl ?_; clear F; clear M; intro a w F hE2 hX hTT hDD hPP; have M := M1.later hE2; clear M1; clear hX; clear hE2; clear hok; clear hE; clear hTT; clear hDD; clear hPP; (try dsimp only at F))
          refine stepD rfl F rfl (o_assign (F.ev rfl) ?_); clear F; clear a; intro a F
          with_reducible refine l_nil ?_
          exact ⟨false, fun h => (by cases h), fun _ h => absurd h hil, F.only [24, 17, 16, 20, 21, 19, 69, 68, 67, 12, 15, 0, 1, 2, 4] rfl, M⟩
      clear F M
      rintro a w ⟨had, hh1, hh2, F, M⟩
      with_reducible refine q_then ?_
      with_reducible refine c_seq ?_
      with_reducible refine c_region ?_
      (refine stepD rfl F rfl (o_alloc M ?_); clear F; clear M; intro b25 w M a F)
      with_reducible refine l_nil ?_
      with_reducible refine q_then ?_
      with_reducible refine c_seq ?_
      with_reducible refine c_seq ?_
      with_reducible refine c_region ?_
      refine stepD rfl F rfl (o_move (F.ev rfl) ?_); clear F; clear a; intro a F
      with_reducible refine l_nil ?_
      with_reducible refine q_then ?_
      refine c_cut (fun a w => ∃ (y : InsV) (i' : Nat), IsIn y ∧ (had = true → ins1 y = true) ∧ oldV old t = oldB y had ∧ Yet InsV.to old (ds.drop (k + 1)) i' ∧ Frm a 190 [] [(24, .bool had), (25, .pointer (some ⟨b25, 0, none⟩)), (17, .int .i64 i'), (16, .int .i64 r1), (20, zO), (21, .map (some bS)), (19, .pointer (some ⟨b19, 0, none⟩)), (69, .int .i64 k), (68, .int .i64 ds.length), (67, .slice (some ⟨bD, 0, none⟩) ds.length capd), (12, .map (some b12)), (15, z), (0, .int .i64 now), (1, .slice q l.length cap), (2, vs), (4, .slice qo old.length capo)] ∧ Mem [] W w ((b25, .cells (inC y).toArray 62 (0, 0)) :: ((b19, .cells (dvC t).toArray 47 (0, 0)) :: (bD, .cells (dvsC ds ++ junk).toArray 47 (0, 0)) :: (entS ++ (entO ++ (entR ++ ent)))))) ?_ ?_
      · cases had with
        | false =>
          have hn := hh2 rfl
          obtain ⟨h1, h2⟩ := Yet.next hwN hdk2 hdk3 hYi (Nat.le_refl _) hYi.le (fun j hj h1 h2 => absurd h2 (by omega)) hn
          have hov2 : oldV old t = none := oldV_no fun j hj => by
            rcases Nat.lt_or_ge j i with h3 | h3
            · exact hYi.before j hj h3
            · exact h2 j hj h3
          refine c_false F rfl rfl ?_
          with_reducible refine c_skip ?_
          exact ⟨in0, i, in0_is, fun h => (by cases h), hov2, h1, F.only [24, 25, 17, 16, 20, 21, 19, 69, 68, 67, 12, 15, 0, 1, 2, 4] rfl, M⟩
        | true =>
          obtain ⟨hil, he⟩ := hh1 rfl
          obtain ⟨b, o, cs, t', fz, rfl, hb, hs⟩ := hmo (by omega)
          have g1 : seg cs (o + (i : Int).toNat * 40) 40 = some (inC old[i]) := seg_el (ins_len hy) hs hil (by omega)
          have hxv := hy _ (List.getElem_mem hil)
          have hnx := Yet.next (r1 := i + 1) hwN hdk2 hdk3 hYi (by omega) (by omega) (fun j hj h1 h2 => by
            obtain rfl : j = i := by omega
            exact he) (fun hj e => by
            have h3 := (List.pairwise_iff_getElem.1 hascN) i (i + 1) hil hj (by omega)
            unfold cmpN at h3
            rw [e, he, cmpD_self] at h3
            omega)
          have hov2 : oldV old t = some old[i] := oldV_at hil he hYi.before
          have hin := hins _ (List.getElem_mem hil)
          obtain ⟨y, hy0⟩ : ∃ y, y = old[i] := ⟨_, rfl⟩
          rw [← hy0] at g1 hxv hov2 hin
          clear he
          refine c_true F rfl rfl ?_
          with_reducible refine c_seq ?_
          with_reducible refine c_region ?_
          refine stepD rfl F rfl (o_move (F.ev rfl) ?_); clear F; clear a; intro a F
          refine stepD rfl F rfl (o_move (F.ev rfl) ?_); clear F; clear a; intro a F
          refine stepD rfl F rfl (o_indexSl (F.ev rfl) (F.ev rfl) (by omega) (by omega) ?_); clear F; clear a; intro a F
          refine stepD rfl F rfl (o_loadWA M (F.ev rfl) (by assumption) (by first | assumption | rfl) ?_); clear F; clear a; intro a F
          (refine stepN rfl F (o_storeA M (F.ev rfl) (F.ev rfl) (in_len hxv) (in_one y)  (by repeat (first | exact .here | apply Has.there))  (put_all (by rw [in_len hxv]; rfl)) (by repeat (first | exact .here | apply Upd.there)) ?_); clear F; clear M; intro w M a F)
          with_reducible refine l_nil ?_
          with_reducible refine q_then ?_
          with_reducible refine c_region ?_
          refine stepD rfl F rfl (o_move (F.ev rfl) ?_); clear F; clear a; intro a F
          refine stepD rfl F rfl (o_add (F.ev rfl) (F.ev rfl) (w_i64 (by omega) (by omega)) ?_); clear F; clear a; intro a F
          refine stepD rfl F rfl (o_assign (F.ev rfl) ?_); clear F; clear a; intro a F
          with_reducible refine l_nil ?_
          exact ⟨y, i + 1, hxv, fun _ => hin, hov2, hnx.1, F.only [24, 25, 17, 16, 20, 21, 19, 69, 68, 67, 12, 15, 0, 1, 2, 4] rfl, M⟩
      clear F M
      rintro a w ⟨y, i', hyI, hy1, hov2, hYi2, F, M⟩
      have hEq : selE now l s cm old t = aftV now t (oldB y had) (optsV now s cm t l) (saidV now s cm t l) := by
        unfold selE
        rw [hov2]
      rw [hEq] at htk
      have hEI : ∀ e, aftV now t (oldB y had) (optsV now s cm t l) (saidV now s cm t l) = some e → IsIn e := fun e h => hoE t ht e (by rw [hEq]; exact h)
      have haf := after_c now c5 t ht y hyI had hy1 (optsV now s cm t l) hvO zO (saidV now s cm t l) (.map (some bS))
      obtain ⟨E, hE⟩ : ∃ E, E = aftV now t (oldB y had) (optsV now s cm t l) (saidV now s cm t l) := ⟨_, rfl⟩
      rw [← hE] at htk hEI haf
      have hgI : IsIn (E.getD in0) := by
        cases E with
        | none => exact in0_is
        | some e => exact hEI e rfl
      have y1 := in_all hyI
      have e1 := in_all hgI
      have e2 := in_len hgI
      with_reducible refine q_then ?_
      with_reducible refine c_seq ?_
      with_reducible refine c_region ?_
      refine stepD rfl F rfl (o_move (F.ev rfl) ?_); clear F; clear a; intro a F
      refine stepD rfl F rfl (o_loadA M (F.ev rfl) (by repeat (first | exact .here | apply Has.there)) (by first | assumption | rfl) ?_); clear F; clear a; intro a F
      refine stepD rfl F rfl (o_loadA M (F.ev rfl) (by repeat (first | exact .here | apply Has.there)) (by first | assumption | rfl) ?_); clear F; clear a; intro a F
      refine stepD rfl F rfl (o_move (F.ev rfl) ?_); clear F; clear a; intro a F
      refine stepD rfl F rfl (o_move (F.ev rfl) ?_); clear F; clear a; intro a F
      refine stepD rfl F rfl (o_move (F.ev rfl) ?_); clear F; clear a; intro a F
      (refine stepD rfl F rfl (o_call (F.ev rfl) (F.evs rfl) (Cal.mono (haf _ (hOO.slAt M (fun p hp => by simp [hp])) (hOS.at_ (fun p hp => M.at_ p (by simp [hp])))) ?_)); clear F; clear a; rintro _ w ⟨rfl, hE⟩ a F; replace M := M.later hE; clear hE)
      refine stepD rfl F rfl (o_move (F.ev rfl) ?_); clear F; clear a; intro a F
      refine stepD rfl F rfl (o_extract (F.ev rfl) rfl ?_); clear F; clear a; intro a F
      refine stepD rfl F rfl (o_extract (F.ev rfl) rfl ?_); clear F; clear a; intro a F
      (refine stepD rfl F rfl (o_alloc M ?_); clear F; clear M; intro b26 w M a F)
      (refine stepN rfl F (o_storeA M (F.ev rfl) (F.ev rfl) (e2) (in_one _)  (by repeat (first | exact .here | apply Has.there))  (put_all (by rw [e2]; rfl)) (by repeat (first | exact .here | apply Upd.there)) ?_); clear F; clear M; intro w M a F)
      cases E with
      | none =>
        have htk2 : (ds.take (k + 1)).filterMap (selE now l s cm old) = (ds.take k).filterMap (selE now l s cm old) := by rw [htk]; simp
        refine stepD rfl F rfl (o_assign (F.ev rfl) ?_); clear F; clear a; intro a F
        with_reducible refine l_nil ?_
        with_reducible refine q_then ?_
        with_reducible refine c_seq ?_
        with_reducible refine c_region ?_
        refine stepD rfl F rfl (o_move (F.ev rfl) ?_); clear F; clear a; intro a F
        with_reducible refine l_nil ?_
        with_reducible refine q_then ?_
        refine c_false F rfl rfl ?_
        with_reducible refine c_skip ?_
        with_reducible refine q_inB ?_
        with_reducible refine q_then ?_
        with_reducible refine c_region ?_
        refine stepD rfl F rfl (o_add (F.ev rfl) (F.ev rfl) (w_i64 (by omega) (by omega)) ?_); clear F; clear a; intro a F
        refine stepD rfl F rfl (o_move (F.ev rfl) ?_); clear F; clear a; intro a F
        with_reducible refine l_nil ?_
        with_reducible refine q_then ?_
        exact ⟨_, by omega, k + 1, r1, i', z, entR, rfl, by omega, hYr1, hYi2, by rw [htk2]; exact hR, F.only [69, 68, 67, 12, 15, 16, 17, 0, 1, 2, 4] rfl, (M.perm (l' := (entR ++ ([(bD, .cells (dvsC ds ++ junk).toArray 47 (0, 0))] ++ ent)) ++ ((b26, .cells (inC ((none : Option InsV).getD in0)).toArray 62 (0, 0)) :: (b25, .cells (inC y).toArray 62 (0, 0)) :: (b19, .cells (dvC t).toArray 47 (0, 0)) :: (entS ++ entO))) (by classical exact List.perm_iff_count.2 fun _ => by simp only [List.count_append, List.count_cons, List.count_nil, Nat.add_zero, Nat.zero_add] <;> ac_rfl)).sub (List.sublist_append_left _ _)⟩
      | some e =>
        have htk2 : (ds.take (k + 1)).filterMap (selE now l s cm old) = (ds.take k).filterMap (selE now l s cm old) ++ [e] := by rw [htk]; rfl
        have heI := hEI e rfl
        have e3 : seg (inC e) 0 40 = some (inC e) := in_all heI
        replace M := M.perm (l' := (b26, .cells (inC e).toArray 62 (0, 0)) :: (b25, .cells (inC y).toArray 62 (0, 0)) :: (b19, .cells (dvC t).toArray 47 (0, 0)) :: (bD, .cells (dvsC ds ++ junk).toArray 47 (0, 0)) :: (entS ++ (entO ++ (ent ++ entR)))) (by classical exact List.perm_iff_count.2 fun _ => by simp only [List.count_append, List.count_cons, List.count_nil, Nat.add_zero, Nat.zero_add] <;> ac_rfl)
        refine stepD rfl F rfl (o_assign (F.ev rfl) ?_); clear F; clear a; intro a F
        with_reducible refine l_nil ?_
        with_reducible refine q_then ?_
        with_reducible refine c_seq ?_
        with_reducible refine c_region ?_
        refine stepD rfl F rfl (o_move (F.ev rfl) ?_); clear F; clear a; intro a F
        with_reducible refine l_nil ?_
        with_reducible refine q_then ?_
        refine c_true F rfl rfl ?_
        with_reducible refine c_region ?_
        refine stepD rfl F rfl (o_move (F.ev rfl) ?_); clear F; clear a; intro a F
        refine stepD rfl F rfl (o_loadA M (F.ev rfl) (by repeat (first | exact .here | apply Has.there)) (by first | assumption | rfl) ?_); clear F; clear a; intro a F
        (refine stepD rfl F rfl (o_buildSlice F M rfl rfl rfl (in_build1 heI) ?_); clear F; clear M; intro b183 w M a F)
        (refine stepD rfl F rfl (o_append hR M (.cons (.cons (.cons (.cons (.cons (.app (.app (.app .here)))))))) (F.ev rfl) (F.ev rfl) (SrcOf.cells' (M.heap .here) (sg_all (in_len heI)) (in_one _)) (by omega) (by omega) ?_); clear F; clear M; intro z2 entR2 w hR2 M a F)
        refine stepD rfl F rfl (o_assign (F.ev rfl) ?_); clear F; clear a; intro a F
        with_reducible refine l_nil ?_
        with_reducible refine q_inB ?_
        with_reducible refine q_then ?_
        with_reducible refine c_region ?_
        refine stepD rfl F rfl (o_add (F.ev rfl) (F.ev rfl) (w_i64 (by omega) (by omega)) ?_); clear F; clear a; intro a F
        refine stepD rfl F rfl (o_move (F.ev rfl) ?_); clear F; clear a; intro a F
        with_reducible refine l_nil ?_
        with_reducible refine q_then ?_
        refine ⟨_, by omega, k + 1, r1, i', z2, entR2, rfl, by omega, hYr1, hYi2, ?_, F.only [69, 68, 67, 12, 15, 16, 17, 0, 1, 2, 4] rfl, (M.perm (l' := (entR2 ++ ([(bD, .cells (dvsC ds ++ junk).toArray 47 (0, 0))] ++ ent)) ++ ((b183, .cells (inC e).toArray 62 (0, 0)) :: (b26, .cells (inC e).toArray 62 (0, 0)) :: (b25, .cells (inC y).toArray 62 (0, 0)) :: (b19, .cells (dvC t).toArray 47 (0, 0)) :: (entS ++ entO))) (by classical exact List.perm_iff_count.2 fun _ => by simp only [List.count_append, List.count_cons, List.count_nil, Nat.add_zero, Nat.zero_add] <;> ac_rfl)).sub (List.sublist_append_left _ _)⟩
        rw [htk2, List.length_append]
        show OwnS _ 40 _ _ (encL inC _) _
        rw [encL_app, encL_one]
        exact hR2
  · obtain rfl : k = ds.length := by omega
    rw [List.take_length] at hR
    obtain ⟨pz, cz, rfl⟩ := hR.slice
    clear hD hov hoE
    by_cases c9 : 512 < (ds.filterMap (selE now l s cm old)).length
    · rw [if_pos c9] at hL
      rw [hL]
      with_reducible refine c_seq ?_
      with_reducible refine c_region ?_
      refine stepD rfl F rfl (o_lssF (F.ev rfl) (F.ev rfl) (by omega) ?_); clear F; clear a; intro a F
      with_reducible refine l_nil ?_
      with_reducible refine q_then ?_
      with_reducible refine c_seq ?_
      refine c_false F rfl rfl ?_
      with_reducible refine c_exit ?_
      with_reducible refine q_thenX ?_
      with_reducible refine q_thenX ?_
      with_reducible refine q_inBX ?_
      with_reducible refine q_then ?_
      with_reducible refine c_seq ?_
      with_reducible refine c_seq ?_
      with_reducible refine c_region ?_
      refine stepD rfl F rfl (o_move (F.ev rfl) ?_); clear F; clear a; intro a F
      refine stepD rfl F rfl (o_lenSl (F.ev rfl) ?_); clear F; clear a; intro a F
      refine stepD rfl F rfl (o_gtrT (F.ev rfl) (F.ev rfl) (by omega) ?_); clear F; clear a; intro a F
      with_reducible refine l_nil ?_
      with_reducible refine q_then ?_
      refine c_true F rfl rfl ?_
      with_reducible refine c_seq ?_
      with_reducible refine c_region ?_
      refine stepD rfl F rfl (o_assign (F.ev rfl) ?_); clear F; clear a; intro a F
      refine stepD rfl F rfl (o_assign (F.ev rfl) ?_); clear F; clear a; intro a F
      with_reducible refine l_nil ?_
      with_reducible refine q_then ?_
      with_reducible refine c_ret ?_
      with_reducible refine q_thenR ?_
      refine p_ret F rfl (.cons (.tmp (F.ev rfl)) (.cons (.tmp (F.ev rfl)) .nil)) ?_
      exact ⟨.slice none 0 0, [], rfl, OwnS.nil _ _, M.sub (List.nil_sublist _)⟩
    · rw [if_neg c9] at hL
      rw [hL]
      with_reducible refine c_seq ?_
      with_reducible refine c_region ?_
      refine stepD rfl F rfl (o_lssF (F.ev rfl) (F.ev rfl) (by omega) ?_); clear F; clear a; intro a F
      with_reducible refine l_nil ?_
      with_reducible refine q_then ?_
      with_reducible refine c_seq ?_
      refine c_false F rfl rfl ?_
      with_reducible refine c_exit ?_
      with_reducible refine q_thenX ?_
      with_reducible refine q_thenX ?_
      with_reducible refine q_inBX ?_
      with_reducible refine q_then ?_
      with_reducible refine c_seq ?_
      with_reducible refine c_seq ?_
      with_reducible refine c_region ?_
      refine stepD rfl F rfl (o_move (F.ev rfl) ?_); clear F; clear a; intro a F
      refine stepD rfl F rfl (o_lenSl (F.ev rfl) ?_); clear F; clear a; intro a F
      refine stepD rfl F rfl (o_gtrF (F.ev rfl) (F.ev rfl) (by omega) ?_); clear F; clear a; intro a F
      with_reducible refine l_nil ?_
      with_reducible refine q_then ?_
      refine c_false F rfl rfl ?_
      with_reducible refine c_skip ?_
      with_reducible refine q_then ?_
      with_reducible refine c_seq ?_
      with_reducible refine c_region ?_
      refine stepD rfl F rfl (o_move (F.ev rfl) ?_); clear F; clear a; intro a F
      refine stepD rfl F rfl (o_assign (F.ev rfl) ?_); clear F; clear a; intro a F
      refine stepD rfl F rfl (o_assign (F.ev rfl) ?_); clear F; clear a; intro a F
      with_reducible refine l_nil ?_
      with_reducible refine q_then ?_
      with_reducible refine c_ret ?_
      refine p_ret F rfl (.cons (.tmp (F.ev rfl)) (.cons (.tmp (F.ev rfl)) .nil)) ?_
      exact ⟨_, entR, rfl, hR, M.sub (List.sublist_append_left _ _)⟩
end Go.Proofs.Ytilgoepokaaleaa
/-! ZG -/
namespace Go.Proofs.Ytilgoepokaaleaa
set_option linter.unusedVariables false
set_option linter.unusedSimpArgs false
open Go.RowKit
attribute [local irreducible] OpTo wpListIn Code.wpIn MW Cal
def hostD (n r : Int) : DstV := ⟨[32, 1, 0, 0, 0, 0, 0, 0, 0, 0, 0, 0, 0, 0, 0, n], 128, nul16, 0, r⟩
theorem hostD_is {n r : Int} (h0 : 0 ≤ n) (h1 : n < 256) : IsDv (hostD n r) := ⟨⟨rfl, by intro x hx; simp [hostD] at hx; omega⟩, nul16_is⟩
theorem host_c (n r : Int) (h0 : 0 ≤ n) (h1 : n < 256) (r0 : 0 ≤ r) (r1 : r < 100000) (W : World) : Cal Try.prog 35 [.int .i64 n, .int .i64 r].toArray W fun v w' => v = .agg (dvC (hostD n r)).toArray ∧ Ext [] W w' := by
  refine fn_ofM (n := 12) [] Try.func35 rfl rfl rfl ?_
  intro a w F M hwW
  refine c_seq ?_
  refine c_region ?_
  (refine stepD rfl F rfl (o_alloc M ?_); clear F; clear M; intro b4 w M a F)
  with_reducible refine l_nil ?_
  with_reducible refine q_then ?_
  with_reducible refine c_seq ?_
  with_reducible refine c_region ?_
  refine stepD rfl F rfl (o_move (F.ev rfl) ?_); clear F; clear a; intro a F
  refine stepD rfl F rfl (o_conv (F.ev rfl) (w_u8 (by omega) (by omega)) ?_); clear F; clear a; intro a F
  refine stepD rfl F rfl (o_build F rfl rfl ?_); clear F; clear a; intro a F
  refine stepD rfl F rfl (o_build F rfl rfl ?_); clear F; clear a; intro a F
  refine stepD rfl F rfl (o_move (F.ev rfl) ?_); clear F; clear a; intro a F
  refine stepD rfl F rfl (o_conv (F.ev rfl) (w_u64 (by omega) (by omega)) ?_); clear F; clear a; intro a F
  refine stepD rfl F rfl (o_build F rfl rfl ?_); clear F; clear a; intro a F
  (refine stepN rfl F (o_storeA M (F.ev rfl) (F.ev rfl) (by rfl) (by rfl) (by repeat (first | exact .here | apply Has.there)) (by rfl) (by repeat (first | exact .here | apply Upd.there)) ?_); clear F; clear M; intro w M a F)
  with_reducible refine l_nil ?_
  with_reducible refine q_then ?_
  with_reducible refine c_ret ?_
  exact p_ret F rfl (.cons (.cell (F.ev rfl) (run_loadVar_agg TAgg.h (M.heap (by repeat (first | exact .here | apply Has.there))) rfl)) .nil) ⟨rfl, M.ext⟩
def kL : RouV := ⟨hostD 1 9, 2, ⟨3, 100⟩, 15⟩
def kI : InsV := ⟨hostD 1 9, 2, ⟨3, 356⟩, -1, 0⟩
def kH : InsV := ⟨hostD 1 9, 0, ⟨3, 65535⟩, -1, 21⟩
def kO : OptV := ⟨2, 256⟩
def kIP : List Int := [32, 1, 0, 0, 0, 0, 0, 0, 0, 0, 0, 0, 0, 0, 0, 1]
def kZ : DstV := ⟨nul16, 0, nul16, 0, 0⟩
theorem k_is : IsDv (hostD 1 9) := hostD_is (by omega) (by omega)
theorem kL_is : IsRo kL := ⟨k_is, trivial⟩
theorem kI_is : IsIn kI := ⟨k_is, trivial⟩
theorem kH_is : IsIn kH := ⟨k_is, trivial⟩
theorem kIP_is : IsIP kIP := ⟨rfl, by intro x hx; simp [kIP] at hx; omega⟩
theorem kZ_is : IsDv kZ := ⟨nul16_is, nul16_is⟩
theorem kLearn : learnV [] 5 (hostD 1 9) 2 ⟨3, 100⟩ = ([kL], 0) := by decide +kernel
theorem kSel1 : selectV 6 [kL] [] [kO] [] = ([kI], 0) := by decide +kernel
theorem kSel2 : selectV 7 [] [] [kO] [kI] = ([kH], 0) := by decide +kernel
theorem kLook1 : lookV [kI] nul16 kIP kZ false = (kI, 0) := by decide +kernel
theorem kLook2 : lookV [kH] nul16 kIP kZ false = (in0, 15) := by decide +kernel
theorem slAtO {w : World} {b : Nat} {x : OptV} {t : TypeId} {fz : Nat × Nat} (h : w.heap[b]? = some (.cells (opC x).toArray t fz)) : SlAt w 2 (.slice (some ⟨b, 0, none⟩) 1 1) 1 (opsC [x]) :=
  ⟨_, _, rfl, Nat.le_refl _, by simp, by rw [show opsC [x] = opC x from encL_one _ _, op_len (o := x) trivial], fun _ => ⟨b, 0, _, _, _, rfl, h, by rw [show opsC [x] = opC x from encL_one _ _]; exact sg_all (op_len (o := x) trivial)⟩⟩
set_option maxHeartbeats 8000000 in
theorem known27_c (W : World) : Cal Try.prog 30 [].toArray W fun r w' => r = .bool true ∧ Ext [] W w' := by
  refine fn_ofM (n := 89) [] Try.func30 rfl rfl rfl ?_
  intro a w F M hwW
  with_reducible refine c_seq ?_
  with_reducible refine c_region ?_
  refine stepD rfl F rfl (o_assign (F.ev rfl) ?_); clear F; clear a; intro a F
  with_reducible refine l_nil ?_
  with_reducible refine q_then ?_
  with_reducible refine c_seq ?_
  with_reducible refine c_region ?_
  (refine stepD rfl F rfl (o_call (F.ev rfl) (F.evs rfl) (Cal.mono (host_c 1 9 (by omega) (by omega) (by omega) (by omega) _) ?_)); clear F; clear a; rintro _ w ⟨rfl, hE⟩ a F; replace M := M.later hE; clear hE)
  refine stepD rfl F rfl (o_build F rfl rfl ?_); clear F; clear a; intro a F
  (refine stepD rfl F rfl (o_call (F.ev rfl) (F.evs (vs := [.slice none 0 0, .int .i64 5, .agg (dvC (hostD 1 9)).toArray, .int .u64 2, .agg (diC ⟨3, 100⟩).toArray]) rfl) (Cal.mono (learn_c [] (by simp) (.slice none 0 0) 5 (hostD 1 9) k_is 2 ⟨3, 100⟩ (by decide) _ (SlAt.nil _ _)) ?_)); clear F; clear a; rintro _ w ⟨u, e1, rfl, hO1, N⟩ a F; replace M := M.joins N; clear N)
  rw [kLearn] at F hO1
  dsimp only at F hO1
  obtain ⟨p1, c1, rfl⟩ := hO1.slice
  refine stepD rfl F rfl (o_move (F.ev rfl) ?_); clear F; clear a; intro a F
  refine stepD rfl F rfl (o_extract (F.ev rfl) rfl ?_); clear F; clear a; intro a F
  refine stepD rfl F rfl (o_extract (F.ev rfl) rfl ?_); clear F; clear a; intro a F
  refine stepD rfl F rfl (o_assign (F.ev rfl) ?_); clear F; clear a; intro a F
  refine stepD rfl F rfl (o_assign (F.ev rfl) ?_); clear F; clear a; intro a F
  with_reducible refine l_nil ?_
  with_reducible refine q_then ?_
  with_reducible refine c_seq ?_
  with_reducible refine c_region ?_
  refine stepD rfl F rfl (o_build F rfl rfl ?_); clear F; clear a; intro a F
  (refine stepD rfl F rfl (o_buildSlice F M rfl rfl rfl rfl ?_); clear F; clear M; intro b19 w M a F)
  replace M : Mem [] W w ((b19, opO kO) :: (e1 ++ [])) := M
  refine stepD rfl F rfl (o_assign (F.ev rfl) ?_); clear F; clear a; intro a F
  with_reducible refine l_nil ?_
  with_reducible refine q_then ?_
  with_reducible refine c_seq ?_
  with_reducible refine c_region ?_
  refine stepD rfl F rfl (o_move (F.ev rfl) ?_); clear F; clear a; intro a F
  refine stepD rfl F rfl (o_move (F.ev rfl) ?_); clear F; clear a; intro a F
  (refine stepD rfl F rfl (o_call (F.ev rfl) (F.evs rfl) (Cal.mono (select_c 6 [kL] (by simpa using kL_is) [] (by simp) [kO] [] (by simp) _ (.slice none 0 0) (.slice (some ⟨b19, 0, none⟩) 1 1) (.slice none 0 0) _ (hO1.slAt M (fun q hq => by simp [hq])) (SlAt.nil _ _) (slAtO (x := kO) (M.heap .here)) (SlAt.nil _ _)) ?_)); clear F; clear a; rintro _ w ⟨u, e2, rfl, hO2, N⟩ a F; replace M := M.joins N; clear N)
  rw [kSel1] at F hO2
  dsimp only at F hO2
  obtain ⟨p2, c2, rfl⟩ := hO2.slice
  refine stepD rfl F rfl (o_move (F.ev rfl) ?_); clear F; clear a; intro a F
  refine stepD rfl F rfl (o_extract (F.ev rfl) rfl ?_); clear F; clear a; intro a F
  refine stepD rfl F rfl (o_extract (F.ev rfl) rfl ?_); clear F; clear a; intro a F
  refine stepD rfl F rfl (o_assign (F.ev rfl) ?_); clear F; clear a; intro a F
  refine stepD rfl F rfl (o_assign (F.ev rfl) ?_); clear F; clear a; intro a F
  with_reducible refine l_nil ?_
  with_reducible refine q_then ?_
  with_reducible refine c_seq ?_
  with_reducible refine c_region ?_
  refine stepD rfl F rfl (o_move (F.ev rfl) ?_); clear F; clear a; intro a F
  refine stepD rfl F rfl (o_build F rfl rfl ?_); clear F; clear a; intro a F
  refine stepD rfl F rfl (o_build F rfl rfl ?_); clear F; clear a; intro a F
  refine stepD rfl F rfl (o_build F rfl rfl ?_); clear F; clear a; intro a F
  (refine stepD rfl F rfl (o_call (F.ev rfl) (F.evs (vs := [.slice p2 [kI].length c2, .agg (ipC nul16).toArray, .agg (ipC kIP).toArray, .agg (dvC kZ).toArray, .bool false]) rfl) (Cal.mono (lookup_c [kI] (by simpa using kI_is) _ nul16 kIP nul16_is kIP_is kZ kZ_is false _ (hO2.slAt M (fun q hq => by simp [hq]))) ?_)); clear F; clear a; rintro _ w ⟨rfl, hE⟩ a F; replace M := M.later hE; clear hE)
  rw [kLook1] at F
  dsimp only at F
  refine stepD rfl F rfl (o_move (F.ev rfl) ?_); clear F; clear a; intro a F
  refine stepD rfl F rfl (o_extract (F.ev rfl) rfl ?_); clear F; clear a; intro a F
  refine stepD rfl F rfl (o_extract (F.ev rfl) rfl ?_); clear F; clear a; intro a F
  (refine stepD rfl F rfl (o_alloc M ?_); clear F; clear M; intro b6 w M a F)
  (refine stepN rfl F (o_storeA M (F.ev rfl) (F.ev rfl) (in_len kI_is) (in_one _)  (by repeat (first | exact .here | apply Has.there))  (put_all (by rw [in_len kI_is]; rfl)) (by repeat (first | exact .here | apply Upd.there)) ?_); clear F; clear M; intro w M a F)
  refine stepD rfl F rfl (o_assign (F.ev rfl) ?_); clear F; clear a; intro a F
  with_reducible refine l_nil ?_
  with_reducible refine q_then ?_
  with_reducible refine c_seq ?_
  with_reducible refine c_region ?_
  refine stepD rfl F rfl (o_move (F.ev rfl) ?_); clear F; clear a; intro a F
  refine stepD rfl F rfl (o_move (F.ev rfl) ?_); clear F; clear a; intro a F
  (refine stepD rfl F rfl (o_call (F.ev rfl) (F.evs rfl) (Cal.mono (select_c 7 [] (by simp) [] (by simp) [kO] [kI] (by simpa using kI_is) (.slice none 0 0) (.slice none 0 0) (.slice (some ⟨b19, 0, none⟩) 1 1) _ _ (SlAt.nil _ _) (SlAt.nil _ _) (slAtO (x := kO) (M.at_ (b19, opO kO) (by simp))) (hO2.slAt M (fun q hq => by simp [hq]))) ?_)); clear F; clear a; rintro _ w ⟨u, e3, rfl, hO3, N⟩ a F; replace M := M.joins N; clear N)
  rw [kSel2] at F hO3
  dsimp only at F hO3
  obtain ⟨p3, c3, hp3⟩ := hO3.slice
  rcases hO3 with ⟨_, h0, _, _⟩ | ⟨bH, cH, junk, rfl, rfl, hxl, hjl, hnc⟩
  · simp at h0
  have hO3 : OwnS 62 40 (.slice (some ⟨bH, 0, none⟩) [kH].length cH) [kH].length (insC [kH]) [(bH, .cells (insC [kH] ++ junk).toArray 62 (0, 0))] := .inr ⟨bH, cH, junk, rfl, rfl, hxl, hjl, hnc⟩
  clear hp3 hxl hjl hnc
  refine stepD rfl F rfl (o_move (F.ev rfl) ?_); clear F; clear a; intro a F
  refine stepD rfl F rfl (o_extract (F.ev rfl) rfl ?_); clear F; clear a; intro a F
  refine stepD rfl F rfl (o_extract (F.ev rfl) rfl ?_); clear F; clear a; intro a F
  refine stepD rfl F rfl (o_assign (F.ev rfl) ?_); clear F; clear a; intro a F
  refine stepD rfl F rfl (o_assign (F.ev rfl) ?_); clear F; clear a; intro a F
  with_reducible refine l_nil ?_
  with_reducible refine q_then ?_
  with_reducible refine c_seq ?_
  with_reducible refine c_region ?_
  refine stepD rfl F rfl (o_move (F.ev rfl) ?_); clear F; clear a; intro a F
  refine stepD rfl F rfl (o_build F rfl rfl ?_); clear F; clear a; intro a F
  refine stepD rfl F rfl (o_build F rfl rfl ?_); clear F; clear a; intro a F
  refine stepD rfl F rfl (o_build F rfl rfl ?_); clear F; clear a; intro a F
  (refine stepD rfl F rfl (o_call (F.ev rfl) (F.evs (vs := [.slice (some ⟨bH, 0, none⟩) [kH].length cH, .agg (ipC nul16).toArray, .agg (ipC kIP).toArray, .agg (dvC kZ).toArray, .bool false]) rfl) (Cal.mono (lookup_c [kH] (by simpa using kH_is) _ nul16 kIP nul16_is kIP_is kZ kZ_is false _ (hO3.slAt M (fun q hq => by simp at hq; simp [hq]))) ?_)); clear F; clear a; rintro _ w ⟨rfl, hE⟩ a F; replace M := M.later hE; clear hE)
  rw [kLook2] at F
  dsimp only at F
  refine stepD rfl F rfl (o_move (F.ev rfl) ?_); clear F; clear a; intro a F
  refine stepD rfl F rfl (o_extract (F.ev rfl) rfl ?_); clear F; clear a; intro a F
  refine stepD rfl F rfl (o_extract (F.ev rfl) rfl ?_); clear F; clear a; intro a F
  (refine stepD rfl F rfl (o_alloc M ?_); clear F; clear M; intro b10 w M a F)
  (refine stepN rfl F (o_storeA M (F.ev rfl) (F.ev rfl) (in_len in0_is) (in_one _)  (by repeat (first | exact .here | apply Has.there))  (put_all (by rw [in_len in0_is]; rfl)) (by repeat (first | exact .here | apply Upd.there)) ?_); clear F; clear M; intro w M a F)
  replace M := M.perm (l' := (b6, .cells (inC kI).toArray 62 (0, 0)) :: (bH, .cells (insC [kH] ++ junk).toArray 62 (0, 0)) :: (b10, .cells (inC in0).toArray 62 (0, 0)) :: (e2 ++ ((b19, opO kO) :: (e1 ++ [])))) (by classical exact List.perm_iff_count.2 fun _ => by simp only [List.count_append, List.count_cons, List.count_nil, Nat.add_zero, Nat.zero_add] <;> ac_rfl)
  have g1 : seg (insC [kH] ++ junk) (0 + (0 : Int).toNat * 40) 40 = some (inC kH) := own_el (ls := [kH]) (by simpa using in_len kH_is) junk (show 0 < [kH].length by simp) (by simp)
  have g2 : nth (insC [kH] ++ junk) (0 + (0 : Int).toNat * 40 + 39) = some (.int .i64 21) := sg_nth g1 (in_til kH_is) (by omega)
  have g3 := in_nb kI_is
  have g4 := in_own kI_is
  rw [show [kH].length = 1 from rfl] at F
  refine stepD rfl F rfl (o_assign (F.ev rfl) ?_); clear F; clear a; intro a F
  with_reducible refine l_nil ?_
  with_reducible refine q_then ?_
  with_reducible refine c_seq ?_
  with_reducible refine c_region ?_
  refine stepD rfl F rfl (o_move (F.ev rfl) ?_); clear F; clear a; intro a F
  refine stepD rfl F rfl (o_eqlT (F.ev rfl) (F.ev rfl) (by omega) ?_); clear F; clear a; intro a F
  refine stepD rfl F rfl (o_move (F.ev rfl) ?_); clear F; clear a; intro a F
  refine stepG rfl F rfl rfl rfl (o_move (F.ev rfl) ?_); clear F; clear a; intro a F
  refine stepG rfl F rfl rfl rfl (o_eqlT (F.ev rfl) (F.ev rfl) (by omega) ?_); clear F; clear a; intro a F
  refine stepD rfl F rfl (o_pickT (F.ev rfl) (F.ev rfl) ?_); clear F; clear a; intro a F
  refine stepD rfl F rfl (o_move (F.ev rfl) ?_); clear F; clear a; intro a F
  refine stepG rfl F rfl rfl rfl (o_move (F.ev rfl) ?_); clear F; clear a; intro a F
  refine stepG rfl F rfl rfl rfl (o_eqlT (F.ev rfl) (F.ev rfl) (by omega) ?_); clear F; clear a; intro a F
  refine stepD rfl F rfl (o_pickT (F.ev rfl) (F.ev rfl) ?_); clear F; clear a; intro a F
  refine stepD rfl F rfl (o_move (F.ev rfl) ?_); clear F; clear a; intro a F
  refine stepG rfl F rfl rfl rfl (o_move (F.ev rfl) ?_); clear F; clear a; intro a F
  refine stepG rfl F rfl rfl rfl (o_eqlT (F.ev rfl) (F.ev rfl) (by omega) ?_); clear F; clear a; intro a F
  refine stepD rfl F rfl (o_pickT (F.ev rfl) (F.ev rfl) ?_); clear F; clear a; intro a F
  refine stepD rfl F rfl (o_move (F.ev rfl) ?_); clear F; clear a; intro a F
  refine stepG rfl F rfl rfl rfl (o_move (F.ev rfl) ?_); clear F; clear a; intro a F
  refine stepG rfl F rfl rfl rfl (o_eqlT (F.ev rfl) (F.ev rfl) (by omega) ?_); clear F; clear a; intro a F
  refine stepD rfl F rfl (o_pickT (F.ev rfl) (F.ev rfl) ?_); clear F; clear a; intro a F
  refine stepD rfl F rfl (o_move (F.ev rfl) ?_); clear F; clear a; intro a F
  refine stepG rfl F rfl rfl rfl (o_fieldAddr (F.ev rfl) ?_); clear F; clear a; intro a F
  refine stepG rfl F rfl rfl rfl (o_load1 M (F.ev rfl) (by repeat (first | exact .here | apply Has.there)) (by first | assumption | rfl) ?_); clear F; clear a; intro a F
  refine stepG rfl F rfl rfl rfl (o_eql (F.ev rfl) (F.ev rfl) ?_); clear F; clear a; intro a F
  refine stepD rfl F rfl (o_pickT (F.ev rfl) (F.ev rfl) ?_); clear F; clear a; intro a F
  refine stepD rfl F rfl (o_move (F.ev rfl) ?_); clear F; clear a; intro a F
  refine stepG rfl F rfl rfl rfl (o_fieldAddr (F.ev rfl) ?_); clear F; clear a; intro a F
  refine stepG rfl F rfl rfl rfl (o_loadA M (F.ev rfl) (by repeat (first | exact .here | apply Has.there)) (by first | assumption | rfl) ?_); clear F; clear a; intro a F
  refine stepG rfl F rfl rfl rfl (o_build F rfl rfl ?_); clear F; clear a; intro a F
  refine stepG rfl F rfl rfl rfl (o_eqlA (F.ev rfl) (F.ev rfl) (by first | assumption | rfl) (by first | assumption | rfl) ?_); clear F; clear a; intro a F
  refine stepD rfl F rfl (o_pickT (F.ev rfl) (F.ev rfl) ?_); clear F; clear a; intro a F
  refine stepD rfl F rfl (o_move (F.ev rfl) ?_); clear F; clear a; intro a F
  refine stepG rfl F rfl rfl rfl (o_move (F.ev rfl) ?_); clear F; clear a; intro a F
  refine stepG rfl F rfl rfl rfl (o_lenSl (F.ev rfl) ?_); clear F; clear a; intro a F
  refine stepG rfl F rfl rfl rfl (o_eqlT (F.ev rfl) (F.ev rfl) (by omega) ?_); clear F; clear a; intro a F
  refine stepD rfl F rfl (o_pickT (F.ev rfl) (F.ev rfl) ?_); clear F; clear a; intro a F
  refine stepD rfl F rfl (o_move (F.ev rfl) ?_); clear F; clear a; intro a F
  refine stepG rfl F rfl rfl rfl (o_move (F.ev rfl) ?_); clear F; clear a; intro a F
  refine stepG rfl F rfl rfl rfl (o_indexSl (F.ev rfl) (F.ev rfl) (by omega) (by omega) ?_); clear F; clear a; intro a F
  refine stepG rfl F rfl rfl rfl (o_fieldAddr (F.ev rfl) ?_); clear F; clear a; intro a F
  refine stepG rfl F rfl rfl rfl (o_load1 M (F.ev rfl) (by repeat (first | exact .here | apply Has.there)) (by first | assumption | rfl) ?_); clear F; clear a; intro a F
  refine stepG rfl F rfl rfl rfl (o_eqlT (F.ev rfl) (F.ev rfl) (by omega) ?_); clear F; clear a; intro a F
  refine stepD rfl F rfl (o_pickT (F.ev rfl) (F.ev rfl) ?_); clear F; clear a; intro a F
  refine stepD rfl F rfl (o_assign (F.ev rfl) ?_); clear F; clear a; intro a F
  with_reducible refine l_nil ?_
  with_reducible refine q_then ?_
  with_reducible refine c_ret ?_
  refine p_ret F rfl (.cons (.tmp (F.ev rfl)) .nil) ?_
  exact ⟨rfl, M.ext⟩
end Go.Proofs.Ytilgoepokaaleaa
/-! ZJ -/
namespace Go.Proofs.Ytilgoepokaaleaa
set_option linter.unusedVariables false
set_option linter.unusedSimpArgs false
open Go.RowKit
def bitsD (d : DstV) : List Int := [d.dbits, d.sbits]
theorem nearC_is (a b : DstV) : nearC a b = cmpL (bitsD a) (bitsD b) := by
  unfold nearC bitsD
  rw [cmpL_cons, cmpL_cons]
  have : cmpL ([] : List Int) [] = 0 := cmpL_self _
  rw [this]
  congr 1
  unfold orI
  split <;> simp_all
theorem nearC_self (a : DstV) : nearC a a = 0 := by rw [nearC_is]; exact cmpL_self _
theorem nearC_anti (a b : DstV) : nearC b a = - nearC a b := by rw [nearC_is, nearC_is]; exact cmpL_anti _ _
theorem nearC_zero {a b : DstV} (h : nearC a b = 0) : a.dbits = b.dbits ∧ a.sbits = b.sbits := by
  rw [nearC_is] at h
  have h2 := cmpL_zero h
  simp only [bitsD, List.cons.injEq, and_true] at h2
  exact h2
theorem nearC_right {a b c : DstV} (h : nearC b c = 0) : nearC a b = nearC a c := by
  have h2 := nearC_zero h
  unfold nearC
  rw [h2.1, h2.2]
theorem nearC_trans {a b c : DstV} (h : nearC a b < 0) (k : nearC b c < 0) : nearC a c < 0 := by
  rw [nearC_is] at *
  exact cmpL_lt_trans h k
/-- what is known of the nearest ones -/
structure NearK (l near : List InsV) (src dst : List Int) : Prop where
  mem : ∀ x ∈ near, x ∈ l ∧ matchV x.to src dst = true
  like : ∀ x ∈ near, ∀ y ∈ near, nearC x.to y.to = 0
  some : ∀ y ∈ l, matchV y.to src dst = true → near ≠ [] ∧ ∀ x ∈ near, nearC y.to x.to ≤ 0
theorem nearK_snoc {l near : List InsV} {src dst : List Int} {e : InsV} (h : NearK l near src dst) : NearK (l ++ [e]) (nearS src dst near e) src dst := by
  unfold nearS
  by_cases hm : matchV e.to src dst = true
  · rw [if_pos hm]
    cases near with
    | nil =>
      refine ⟨fun x hx => ?_, fun x hx y hy => ?_, fun y hy hym => ?_⟩
      · simp at hx
        subst hx
        exact ⟨by simp, hm⟩
      · simp at hx hy
        rw [hx, hy]
        exact nearC_self _
      · rcases List.mem_append.1 hy with h1 | h1
        · exact absurd rfl (h.some y h1 hym).1
        · simp at h1
          subst h1
          refine ⟨by simp, fun x hx => ?_⟩
          simp at hx
          rw [hx, nearC_self]
          omega
    | cons y0 ys =>
      dsimp only
      by_cases k1 : 0 < nearC e.to y0.to
      · rw [if_pos k1]
        refine ⟨fun x hx => ?_, fun x hx y hy => ?_, fun y hy hym => ?_⟩
        · simp at hx
          subst hx
          exact ⟨by simp, hm⟩
        · simp at hx hy
          rw [hx, hy]
          exact nearC_self _
        · refine ⟨by simp, fun x hx => ?_⟩
          simp at hx
          subst hx
          rcases List.mem_append.1 hy with h1 | h1
          · have h2 := (h.some y h1 hym).2 y0 (by simp)
            have h3 := nearC_anti x.to y0.to
            rcases Int.lt_or_le (nearC y.to y0.to) 0 with h4 | h4
            · have := nearC_trans h4 (show nearC y0.to x.to < 0 by omega)
              omega
            · have h5 : nearC y.to y0.to = 0 := by omega
              have h6 := nearC_right (a := x.to) h5
              have h7 := nearC_anti x.to y.to
              omega
          · simp at h1
            rw [h1, nearC_self]
            omega
      · rw [if_neg k1]
        by_cases k2 : nearC e.to y0.to = 0
        · rw [if_pos k2]
          have hlike : ∀ x ∈ y0 :: ys ++ [e], nearC x.to y0.to = 0 := by
            intro x hx
            rcases List.mem_append.1 hx with h1 | h1
            · exact h.like x h1 y0 (by simp)
            · simp at h1
              rw [h1]
              exact k2
          refine ⟨fun x hx => ?_, fun x hx y hy => ?_, fun y hy hym => ?_⟩
          · rcases List.mem_append.1 hx with h1 | h1
            · exact ⟨List.mem_append_left _ (h.mem x h1).1, (h.mem x h1).2⟩
            · simp at h1
              subst h1
              exact ⟨by simp, hm⟩
          · have h2 := hlike x hx
            have h3 := hlike y hy
            rw [nearC_right (a := x.to) h3]
            exact h2
          · refine ⟨by simp, fun x hx => ?_⟩
            rw [nearC_right (a := y.to) (hlike x hx)]
            rcases List.mem_append.1 hy with h1 | h1
            · exact (h.some y h1 hym).2 y0 (by simp)
            · simp at h1
              rw [h1]
              omega
        · rw [if_neg k2]
          refine ⟨fun x hx => ⟨List.mem_append_left _ (h.mem x hx).1, (h.mem x hx).2⟩, h.like, fun y hy hym => ⟨by simp, fun x hx => ?_⟩⟩
          rcases List.mem_append.1 hy with h1 | h1
          · exact (h.some y h1 hym).2 x hx
          · simp at h1
            subst h1
            rw [nearC_right (a := y.to) (h.like x hx y0 (by simp))]
            omega
  · rw [if_neg hm]
    refine ⟨fun x hx => ⟨List.mem_append_left _ (h.mem x hx).1, (h.mem x hx).2⟩, h.like, fun y hy hym => ?_⟩
    rcases List.mem_append.1 hy with h1 | h1
    · exact h.some y h1 hym
    · simp at h1
      subst h1
      exact absurd hym hm
theorem nearK_all (l : List InsV) (src dst : List Int) : NearK l (nearL l src dst) src dst := by
  have key : ∀ i, i ≤ l.length → NearK (l.take i) (nearL (l.take i) src dst) src dst := by
    intro i
    induction i with
    | zero => exact fun _ => ⟨by simp [nearL], by simp [nearL], by simp⟩
    | succ i ih =>
      intro hi
      rw [nearL_step (show i < l.length by omega), List.take_add_one, List.getElem?_eq_getElem (show i < l.length by omega)]
      exact nearK_snoc (ih (by omega))
  have := key l.length (Nat.le_refl _)
  rwa [List.take_length] at this
theorem cont_eq {p q : List Int} {n : Int} {b : List Int} (h1 : containsP p n b = true) (h2 : containsP q n b = true) : p = q := by
  unfold containsP at h1 h2
  simp only [Bool.and_eq_true, beq_iff_eq] at h1 h2
  rw [← h1.2, ← h2.2]
theorem cont_self {p : List Int} {n : Int} (h : validP p n = true) : containsP p n p = true := by
  unfold containsP
  rw [h]
  unfold validP at h
  simp only [Bool.and_eq_true, beq_iff_eq] at h
  simp [h.2]
/-- what RoutesNarrows says of the element that is found -/
theorem narrow {l : List InsV} {src dst : List Int} {mark : DstV} (hv : validIs l = true) (hm : validT mark = true) (hd : containsP mark.dip mark.dbits dst = true) (hs : containsP mark.sip mark.sbits src = true) :
    ((lookV l src dst mark true).2 = 9 ∨ (lookV l src dst mark true).2 = 15) ∨ ((lookV l src dst mark true).2 = 0 ∧ ∃ x, x = (lookV l src dst mark true).1 ∧ matchV x.to src dst = true ∧ 0 ≤ nearC x.to mark ∧ (nearC x.to mark = 0 → x.to = mark) ∧ (∀ y ∈ l, matchV y.to src dst = true → nearC y.to x.to ≤ 0) ∧ x.nb ≠ 0 ∧ x ∈ l) := by
  have hK := nearK_all l src dst
  have hL : lookV l src dst mark true = lookN (nearL l src dst) mark true := by unfold lookV; rw [hv, hm]; rfl
  rw [hL]
  clear hL
  generalize nearL l src dst = near at *
  cases near with
  | nil => exact .inl (.inl rfl)
  | cons y ys =>
    have hy := hK.mem y (by simp)
    by_cases hk : nearC y.to mark < 0
    · refine .inl (.inl ?_)
      unfold lookN
      dsimp only
      rw [if_pos (by simpa using hk)]
    have hfin : ∀ c : InsV, c ∈ y :: ys → (nearC c.to mark = 0 → c.to = mark) → lookN (y :: ys) mark true = (if c.nb = 0 then (in0, 15) else (c, 0)) → ((lookN (y :: ys) mark true).2 = 9 ∨ (lookN (y :: ys) mark true).2 = 15) ∨ ((lookN (y :: ys) mark true).2 = 0 ∧ ∃ x, x = (lookN (y :: ys) mark true).1 ∧ matchV x.to src dst = true ∧ 0 ≤ nearC x.to mark ∧ (nearC x.to mark = 0 → x.to = mark) ∧ (∀ y ∈ l, matchV y.to src dst = true → nearC y.to x.to ≤ 0) ∧ x.nb ≠ 0 ∧ x ∈ l) := by
      intro c hc he hl
      rw [hl]
      by_cases h0 : c.nb = 0
      · rw [if_pos h0]
        exact .inl (.inr rfl)
      · rw [if_neg h0]
        refine .inr ⟨rfl, c, rfl, (hK.mem c hc).2, ?_, he, fun z hz hzm => (hK.some z hz hzm).2 c hc, h0, (hK.mem c hc).1⟩
        have h1 := nearC_right (a := mark) (hK.like c hc y (by simp))
        have h2 := nearC_anti mark c.to
        have h3 := nearC_anti mark y.to
        omega
    have hlk : lookN (y :: ys) mark true = match (if (true && (decide (y.to.dip = mark.dip) && decide (y.to.dbits = mark.dbits)) && (decide (y.to.sip = mark.sip) && decide (y.to.sbits = mark.sbits))) = true then (y :: ys).find? (fun e => decide (e.to = mark)) else some (cheap (y :: ys) y)) with
        | none => (in0, 9)
        | some c => if c.nb = 0 then (in0, 15) else (c, 0) := by
      unfold lookN
      dsimp only
      rw [if_neg (by simpa using hk)]
      rfl
    by_cases hsm : (true && (decide (y.to.dip = mark.dip) && decide (y.to.dbits = mark.dbits)) && (decide (y.to.sip = mark.sip) && decide (y.to.sbits = mark.sbits))) = true
    · rw [if_pos hsm] at hlk
      cases hf : (y :: ys).find? (fun e => decide (e.to = mark)) with
      | none =>
        rw [hf] at hlk
        rw [hlk]
        exact .inl (.inl rfl)
      | some c =>
        rw [hf] at hlk
        exact hfin c (List.mem_of_find?_eq_some hf) (fun _ => of_decide_eq_true (by simpa using List.find?_some hf)) hlk
    · rw [if_neg hsm] at hlk
      have hcm : cheap (y :: ys) y ∈ y :: ys := cheap_p (p := fun x => x ∈ y :: ys) (fun x hx => hx) (by simp)
      refine hfin _ hcm (fun h0 => ?_) hlk
      exfalso
      refine hsm ?_
      have h1 := nearC_right (a := mark) (hK.like _ hcm y (by simp))
      have h2 := nearC_anti mark (cheap (y :: ys) y).to
      have h3 := nearC_anti mark y.to
      have h4 := nearC_zero (show nearC y.to mark = 0 by omega)
      have hmy := hy.2
      unfold matchV at hmy
      simp only [Bool.and_eq_true] at hmy
      rw [h4.1, h4.2] at hmy
      have h5 := cont_eq hmy.1 hd
      have h6 := cont_eq hmy.2 hs
      simp [h5, h6, h4.1, h4.2]
end Go.Proofs.Ytilgoepokaaleaa
/-! YA -/
namespace Go.Proofs.Ytilgoepokaaleaa
set_option linter.unusedVariables false
set_option linter.unusedSimpArgs false
open Go.RowKit
attribute [local irreducible] OpTo wpListIn Code.wpIn MW Cal
theorem seqE_c {bt : Nat} {p : Option Addr} {len cap k : Nat} {xs : List Int} (W : World) (hT : TapeS W bt p len xs) (hb : W.heap[bt]? = some (tobj p len cap k)) :
    Cal Try.prog 82 [.pointer (some ⟨bt, 0, none⟩)].toArray W fun v w' => ∃ x k', v = .int .u16 x ∧ Mem [bt] W w' [(bt, tobj p len cap k')] := by
  refine fn_ofM (n := 7) [bt] Try.func82 rfl rfl rfl ?_
  intro a w F M hwW
  replace M := M.came hwW hb (by simp) (by simp)
  with_reducible refine c_seq ?_
  with_reducible refine c_region ?_
  refine stepD rfl F rfl (o_assign (F.ev rfl) ?_); clear F; clear a; intro a F
  with_reducible refine l_nil ?_
  with_reducible refine q_then ?_
  with_reducible refine c_seq ?_
  with_reducible refine c_region ?_
  refine stepD rfl F rfl (o_move (F.ev rfl) ?_); clear F; clear a; intro a F
  (refine stepD rfl F rfl (o_call (F.ev rfl) (F.evs rfl) (Cal.mono (nextE_c 6 (by omega) (by omega) _ (hT.later M.ext) (M.heap .here) ) ?_)); clear F; clear a; have M0 := M; clear M; rintro _ w ⟨x, k', rfl, hx, N⟩ a F)
  replace M := M0.turn1 N .here
  clear M0 N
  refine stepD rfl F rfl (o_sub (F.ev rfl) (F.ev rfl) (w_i64 (by omega) (by omega)) ?_); clear F; clear a; intro a F
  refine stepD rfl F rfl (o_conv (F.ev rfl) rfl ?_); clear F; clear a; intro a F
  refine stepD rfl F rfl (o_assign (F.ev rfl) ?_); clear F; clear a; intro a F
  with_reducible refine l_nil ?_
  with_reducible refine q_then ?_
  with_reducible refine c_ret ?_
  refine p_ret F rfl (.cons (.tmp (F.ev rfl)) .nil) ?_
  exact ⟨_, k', rfl, M⟩
theorem costE_c {bt : Nat} {p : Option Addr} {len cap k : Nat} {xs : List Int} (W : World) (hT : TapeS W bt p len xs) (hb : W.heap[bt]? = some (tobj p len cap k)) :
    Cal Try.prog 83 [.pointer (some ⟨bt, 0, none⟩)].toArray W fun v w' => ∃ x k', v = .int .i64 x ∧ (0 ≤ x ∧ x ≤ 65534) ∧ Mem [bt] W w' [(bt, tobj p len cap k')] := by
  refine fn_ofM (n := 18) [bt] Try.func83 rfl rfl rfl ?_
  intro a w F M hwW
  replace M := M.came hwW hb (by simp) (by simp)
  with_reducible refine c_seq ?_
  with_reducible refine c_region ?_
  refine stepD rfl F rfl (o_assign (F.ev rfl) ?_); clear F; clear a; intro a F
  with_reducible refine l_nil ?_
  with_reducible refine q_then ?_
  with_reducible refine c_seq ?_
  with_reducible refine c_seq ?_
  with_reducible refine c_region ?_
  refine stepD rfl F rfl (o_move (F.ev rfl) ?_); clear F; clear a; intro a F
  (refine stepD rfl F rfl (o_call (F.ev rfl) (F.evs rfl) (Cal.mono (nextE_c 6 (by omega) (by omega) _ (hT.later M.ext) (M.heap .here) ) ?_)); clear F; clear a; have M0 := M; clear M; rintro _ w ⟨x, k', rfl, hx, N⟩ a F)
  replace M := M0.turn1 N .here
  clear M0 N
  by_cases c1 : x = 0
  · with_reducible refine l_nil ?_
    with_reducible refine q_then ?_
    with_reducible refine c_block ?_
    with_reducible refine c_seq ?_
    with_reducible refine c_region ?_
    refine stepD rfl F rfl (o_eqlT (F.ev rfl) (F.ev rfl) (by omega) ?_); clear F; clear a; intro a F
    refine stepD rfl F rfl (o_assign (F.ev rfl) ?_); clear F; clear a; intro a F
    with_reducible refine l_nil ?_
    with_reducible refine q_then ?_
    refine c_true F rfl rfl ?_
    with_reducible refine c_seq ?_
    with_reducible refine c_region ?_
    refine stepD rfl F rfl (o_move (F.ev rfl) ?_); clear F; clear a; intro a F
    (refine stepD rfl F rfl (o_call (F.ev rfl) (F.evs rfl) (Cal.mono (nextE_c 4 (by omega) (by omega) _ (hT.later M.ext) (M.heap .here) ) ?_)); clear F; clear a; have M0 := M; clear M; rintro _ w ⟨x2, k2, rfl, hx2, N⟩ a F)
    replace M := M0.turn1 N .here
    refine stepD rfl F rfl (o_assign (F.ev rfl) ?_); clear F; clear a; intro a F
    with_reducible refine l_nil ?_
    with_reducible refine q_then ?_
    with_reducible refine c_ret ?_
    with_reducible refine q_inBR ?_
    with_reducible refine q_thenR ?_
    refine p_ret F rfl (.cons (.tmp (F.ev rfl)) .nil) ?_
    exact ⟨_, k2, rfl, by omega, M⟩
  by_cases c2 : x = 1
  · with_reducible refine l_nil ?_
    with_reducible refine q_then ?_
    with_reducible refine c_block ?_
    with_reducible refine c_seq ?_
    with_reducible refine c_region ?_
    refine stepD rfl F rfl (o_eqlF (F.ev rfl) (F.ev rfl) (by omega) ?_); clear F; clear a; intro a F
    refine stepD rfl F rfl (o_assign (F.ev rfl) ?_); clear F; clear a; intro a F
    with_reducible refine l_nil ?_
    with_reducible refine q_then ?_
    refine c_false F rfl rfl ?_
    with_reducible refine c_seq ?_
    with_reducible refine c_region ?_
    refine stepD rfl F rfl (o_eqlT (F.ev rfl) (F.ev rfl) (by omega) ?_); clear F; clear a; intro a F
    refine stepD rfl F rfl (o_assign (F.ev rfl) ?_); clear F; clear a; intro a F
    with_reducible refine l_nil ?_
    with_reducible refine q_then ?_
    refine c_true F rfl rfl ?_
    with_reducible refine c_seq ?_
    with_reducible refine c_region ?_
    refine stepD rfl F rfl (o_move (F.ev rfl) ?_); clear F; clear a; intro a F
    (refine stepD rfl F rfl (o_call (F.ev rfl) (F.evs rfl) (Cal.mono (nextE_c 600 (by omega) (by omega) _ (hT.later M.ext) (M.heap .here) ) ?_)); clear F; clear a; have M0 := M; clear M; rintro _ w ⟨x2, k2, rfl, hx2, N⟩ a F)
    replace M := M0.turn1 N .here
    refine stepD rfl F rfl (o_sub (F.ev rfl) (F.ev rfl) (w_i64 (by omega) (by omega)) ?_); clear F; clear a; intro a F
    refine stepD rfl F rfl (o_assign (F.ev rfl) ?_); clear F; clear a; intro a F
    with_reducible refine l_nil ?_
    with_reducible refine q_then ?_
    with_reducible refine c_ret ?_
    with_reducible refine q_inBR ?_
    with_reducible refine q_thenR ?_
    refine p_ret F rfl (.cons (.tmp (F.ev rfl)) .nil) ?_
    exact ⟨_, k2, rfl, by omega, M⟩
  · with_reducible refine l_nil ?_
    with_reducible refine q_then ?_
    with_reducible refine c_block ?_
    with_reducible refine c_seq ?_
    with_reducible refine c_region ?_
    refine stepD rfl F rfl (o_eqlF (F.ev rfl) (F.ev rfl) (by omega) ?_); clear F; clear a; intro a F
    refine stepD rfl F rfl (o_assign (F.ev rfl) ?_); clear F; clear a; intro a F
    with_reducible refine l_nil ?_
    with_reducible refine q_then ?_
    refine c_false F rfl rfl ?_
    with_reducible refine c_seq ?_
    with_reducible refine c_region ?_
    refine stepD rfl F rfl (o_eqlF (F.ev rfl) (F.ev rfl) (by omega) ?_); clear F; clear a; intro a F
    refine stepD rfl F rfl (o_assign (F.ev rfl) ?_); clear F; clear a; intro a F
    with_reducible refine l_nil ?_
    with_reducible refine q_then ?_
    refine c_false F rfl rfl ?_
    with_reducible refine c_skip ?_
    with_reducible refine q_inB ?_
    with_reducible refine q_then ?_
    with_reducible refine c_seq ?_
    with_reducible refine c_region ?_
    refine stepD rfl F rfl (o_move (F.ev rfl) ?_); clear F; clear a; intro a F
    (refine stepD rfl F rfl (o_call (F.ev rfl) (F.evs rfl) (Cal.mono (nextE_c 30 (by omega) (by omega) _ (hT.later M.ext) (M.heap .here) ) ?_)); clear F; clear a; have M0 := M; clear M; rintro _ w ⟨x2, k2, rfl, hx2, N⟩ a F)
    replace M := M0.turn1 N .here
    refine stepD rfl F rfl (o_mul (F.ev rfl) (F.ev rfl) (w_i64 (by omega) (by omega)) ?_); clear F; clear a; intro a F
    refine stepD rfl F rfl (o_add (F.ev rfl) (F.ev rfl) (w_i64 (by omega) (by omega)) ?_); clear F; clear a; intro a F
    refine stepD rfl F rfl (o_assign (F.ev rfl) ?_); clear F; clear a; intro a F
    with_reducible refine l_nil ?_
    with_reducible refine q_then ?_
    with_reducible refine c_ret ?_
    refine p_ret F rfl (.cons (.tmp (F.ev rfl)) .nil) ?_
    exact ⟨_, k2, rfl, by omega, M⟩
theorem distE_c {bt : Nat} {p : Option Addr} {len cap k : Nat} {xs : List Int} (W : World) (hT : TapeS W bt p len xs) (hb : W.heap[bt]? = some (tobj p len cap k)) :
    Cal Try.prog 40 [.pointer (some ⟨bt, 0, none⟩)].toArray W fun v w' => ∃ x k', v = diV x ∧ (0 ≤ x.met ∧ x.met ≤ 65534) ∧ Mem [bt] W w' [(bt, tobj p len cap k')] := by
  refine fn_ofM (n := 8) [bt] Try.func40 rfl rfl rfl ?_
  intro a w F M hwW
  replace M := M.came hwW hb (by simp) (by simp)
  refine c_seq ?_
  refine c_region ?_
  (refine stepD rfl F rfl (o_alloc M ?_); clear F; clear M; intro b2 w M a F)
  with_reducible refine l_nil ?_
  with_reducible refine q_then ?_
  with_reducible refine c_seq ?_
  with_reducible refine c_region ?_
  refine stepD rfl F rfl (o_move (F.ev rfl) ?_); clear F; clear a; intro a F
  (refine stepD rfl F rfl (o_call (F.ev rfl) (F.evs rfl) (Cal.mono (seqE_c _ (hT.later M.ext) (M.heap (.there .here)) ) ?_)); clear F; clear a; have M0 := M; clear M; rintro _ w ⟨x, k1, rfl, N⟩ a F)
  replace M := M0.turn1 N (.there .here)
  clear M0 N
  refine stepD rfl F rfl (o_move (F.ev rfl) ?_); clear F; clear a; intro a F
  (refine stepD rfl F rfl (o_call (F.ev rfl) (F.evs rfl) (Cal.mono (costE_c _ (hT.later M.ext) (M.heap (.there .here)) ) ?_)); clear F; clear a; have M0 := M; clear M; rintro _ w ⟨y, k2, rfl, hy, N⟩ a F)
  replace M := M0.turn1 N (.there .here)
  clear M0 N
  refine stepD rfl F rfl (o_build F rfl rfl ?_); clear F; clear a; intro a F
  (refine stepN rfl F (o_storeA M (F.ev rfl) (F.ev rfl) (by rfl) (by rfl) (by repeat (first | exact .here | apply Has.there)) (by rfl) (by repeat (first | exact .here | apply Upd.there)) ?_); clear F; clear M; intro w M a F)
  with_reducible refine l_nil ?_
  with_reducible refine q_then ?_
  with_reducible refine c_ret ?_
  exact p_ret F rfl (.cons (.cell (F.ev rfl) (run_loadVar_agg TAgg.h (M.heap (by repeat (first | exact .here | apply Has.there))) rfl)) .nil) ⟨⟨x, y⟩, k2, rfl, hy, M.sub (.cons _ (.refl _))⟩
def tabTo : List Int := [128, 128, 64, 0]
theorem tabTo_bd (i : Nat) : 0 ≤ tabTo.getD i 0 ∧ tabTo.getD i 0 ≤ 128 := by
  rcases Nat.lt_or_ge i 4 with h | h
  · have : ∀ i : Fin 4, 0 ≤ tabTo.getD i.val 0 ∧ tabTo.getD i.val 0 ≤ 128 := by decide
    exact this ⟨i, h⟩
  · rw [List.getD_eq_getElem?_getD, List.getElem?_eq_none (by simpa [tabTo] using h)]
    simp
def zr16 : List Int := [0, 0, 0, 0, 0, 0, 0, 0, 0, 0, 0, 0, 0, 0, 0, 0]
theorem zr16_is : IsIP zr16 := ⟨rfl, by intro x hx; simp [zr16] at hx; omega⟩
theorem dv_buildT {z : List Int} (hz : IsIP z) (n e : Int) : putAll [(0, 17), (17, 17), (34, 1)] dvZ [(0, pfC z n), (2, [.int .u64 e])] = some (dvC ⟨z, n, zr16, 0, e⟩) := by
  obtain ⟨z0, z1, z2, z3, z4, z5, z6, z7, z8, z9, z10, z11, z12, z13, z14, z15, ez⟩ := len16 hz.len
  subst ez
  rfl
theorem zero_valid : validP zr16 0 = true := by decide
set_option maxHeartbeats 1000000 in
theorem toE_c {bt : Nat} {p : Option Addr} {len cap k : Nat} {xs : List Int} (W : World) (hT : TapeS W bt p len xs) (hb : W.heap[bt]? = some (tobj p len cap k)) :
    Cal Try.prog 26 [.pointer (some ⟨bt, 0, none⟩)].toArray W fun v w' => ∃ x k', v = dvV x ∧ IsDv x ∧ validT x = true ∧ Mem [bt] W w' [(bt, tobj p len cap k')] := by
  refine fn_ofM (n := 21) [bt] Try.func26 rfl rfl rfl ?_
  intro a w F M hwW
  replace M := M.came hwW hb (by simp) (by simp)
  refine c_seq ?_
  refine c_region ?_
  (refine stepD rfl F rfl (o_alloc M ?_); clear F; clear M; intro b2 w M a F)
  with_reducible refine l_nil ?_
  with_reducible refine q_then ?_
  with_reducible refine c_seq ?_
  with_reducible refine c_region ?_
  refine stepD rfl F rfl (o_move (F.ev rfl) ?_); clear F; clear a; intro a F
  (refine stepD rfl F rfl (o_call (F.ev rfl) (F.evs rfl) (Cal.mono (wipD_c _ (hT.later M.ext) (M.heap (.there .here)) ) ?_)); clear F; clear a; have M0 := M; clear M; rintro _ w ⟨rfl, N⟩ a F)
  replace M := M0.turn1 N (.there .here)
  clear M0 N
  have hip := wipV_is xs k
  generalize wipV xs k = ip at *
  generalize wipK xs k = k1 at *
  skip
  (refine stepD rfl F rfl (o_buildSlice F M rfl rfl rfl rfl ?_); clear F; clear M; intro b6 w M a F)
  refine stepD rfl F rfl (o_move (F.ev rfl) ?_); clear F; clear a; intro a F
  (refine stepD rfl F rfl (o_call (F.ev rfl) (F.evs rfl) (Cal.mono (next_c 4 (by omega) (by omega) _ (hT.later M.ext) (M.heap (.there (.there .here))) ) ?_)); clear F; clear a; have M0 := M; clear M; rintro _ w ⟨rfl, N⟩ a F)
  replace M := M0.turn1 N (.there (.there .here))
  clear M0 N
  have v1 := nxV_bd xs k1 (n := 4) (by omega)
  have n1 := nth_tab (k := .i64) (xs := tabTo) v1.1 (by simpa [tabTo] using v1.2)
  have hbd := tabTo_bd (nxV xs k1 4).toNat
  (refine stepD rfl F rfl (o_indexSl (F.ev rfl) (F.ev rfl) (by omega) (by omega) ?_); clear F; clear a; intro a F)
  (refine stepD rfl F rfl (o_load1 M (F.ev rfl) (by repeat (first | exact .here | apply Has.there)) (n1) ?_); clear F; clear a; intro a F)
  generalize tabTo.getD (nxV xs k1 4).toNat 0 = n at *
  generalize nxV xs k1 4 = q at *
  generalize nxK xs k1 = k2 at *
  have hcl : clampB n = n := clamp_in hbd.1 hbd.2
  (refine stepD rfl F rfl (o_call (F.ev rfl) (F.evs rfl) (Cal.mono (Cal.to (rmask_c ip hip n _) (by rw [hcl])) ?_)); clear F; clear a; rintro _ w ⟨rfl, hE⟩ a F; replace M := M.later hE; clear hE)
  have hmi := mask_isIP hip n
  have hvm := valid_mask hip hbd.1 hbd.2
  generalize maskI ip n = mip at *
  refine stepD rfl F rfl (o_move (F.ev rfl) ?_); clear F; clear a; intro a F
  (refine stepD rfl F rfl (o_call (F.ev rfl) (F.evs rfl) (Cal.mono (eui_c _ (hT.later M.ext) (M.heap (.there (.there .here))) ) ?_)); clear F; clear a; have M0 := M; clear M; rintro _ w ⟨e, k3, rfl, he, N⟩ a F)
  replace M := M0.turn1 N (.there (.there .here))
  clear M0 N
  have hd : IsDv ⟨mip, n, zr16, 0, e⟩ := ⟨hmi, zr16_is⟩
  (refine stepD rfl F rfl (o_build F rfl (dv_buildT hmi n e) ?_); clear F; clear a; intro a F)
  skip
  (refine stepD rfl F rfl (o_alloc M ?_); clear F; clear M; intro b3 w M a F)
  (refine stepN rfl F (o_storeA M (F.ev rfl) (F.ev rfl) (dv_len hd) (dv_one _)  (by repeat (first | exact .here | apply Has.there))  (put_all (by rw [dv_len hd]; rfl)) (by repeat (first | exact .here | apply Upd.there)) ?_); clear F; clear M; intro w M a F)
  with_reducible refine l_nil ?_
  with_reducible refine q_then ?_
  with_reducible refine c_seq ?_
  with_reducible refine c_seq ?_
  with_reducible refine c_region ?_
  refine stepD rfl F rfl (o_move (F.ev rfl) ?_); clear F; clear a; intro a F
  (refine stepD rfl F rfl (o_call (F.ev rfl) (F.evs rfl) (Cal.mono (boolE_c 3 (by omega) (by omega) _ (hT.later M.ext) (M.heap (.there (.there (.there .here)))) ) ?_)); clear F; clear a; have M0 := M; clear M; rintro _ w ⟨c, k4, rfl, N⟩ a F)
  replace M := M0.turn1 N (.there (.there (.there .here)))
  clear M0 N
  cases c
  · have g0 := dv_all hd
    with_reducible refine l_nil ?_
    with_reducible refine q_then ?_
    refine c_false F rfl rfl ?_
    with_reducible refine c_skip ?_
    with_reducible refine q_then ?_
    with_reducible refine c_seq ?_
    with_reducible refine c_region ?_
    refine stepD rfl F rfl (o_loadA M (F.ev rfl) (by repeat (first | exact .here | apply Has.there)) (by first | assumption | rfl) ?_); clear F; clear a; intro a F
    (refine stepN rfl F (o_storeA M (F.ev rfl) (F.ev rfl) (dv_len hd) (dv_one _)  (by repeat (first | exact .here | apply Has.there))  (put_all (by rw [dv_len hd]; rfl)) (by repeat (first | exact .here | apply Upd.there)) ?_); clear F; clear M; intro w M a F)
    with_reducible refine l_nil ?_
    with_reducible refine q_then ?_
    with_reducible refine c_ret ?_
    exact p_ret F rfl (.cons (.cell (F.ev rfl) (run_loadVar_agg TAgg.h (M.heap (by repeat (first | exact .here | apply Has.there))) g0)) .nil) ⟨_, k4, rfl, hd, by simp [validT, hvm, zero_valid]; omega, M.sub (by repeat (first | exact List.Sublist.refl _ | apply List.Sublist.cons))⟩
  · with_reducible refine l_nil ?_
    with_reducible refine q_then ?_
    refine c_true F rfl rfl ?_
    with_reducible refine c_region ?_
    refine stepD rfl F rfl (o_move (F.ev rfl) ?_); clear F; clear a; intro a F
    (refine stepD rfl F rfl (o_call (F.ev rfl) (F.evs rfl) (Cal.mono (wprefix_c _ (hT.later M.ext) (M.heap (.there (.there (.there .here)))) ) ?_)); clear F; clear a; have M0 := M; clear M; rintro _ w ⟨rfl, N⟩ a F)
    replace M := M0.turn1 N (.there (.there (.there .here)))
    clear M0 N
    have hpi : IsIP (maskI (wpA xs k4) (wpN xs k4)) := mask_isIP (wipV_is _ _) _
    have hpb := wpN_bd xs k4
    have hpv := valid_mask (wipV_is xs (wpK0 xs k4)) hpb.1 hpb.2
    change validP (maskI (wpA xs k4) (wpN xs k4)) (wpN xs k4) = true at hpv
    generalize maskI (wpA xs k4) (wpN xs k4) = sip at *
    generalize wpN xs k4 = sn at *
    generalize wpK xs k4 = k5 at *
    have hd2 : IsDv ⟨mip, n, sip, sn, e⟩ := ⟨hmi, hpi⟩
    have g0 := dv_all hd2
    refine stepD rfl F rfl (o_fieldAddr (F.ev rfl) ?_); clear F; clear a; intro a F
    (refine stepN rfl F (o_storeA M (F.ev rfl) (F.ev rfl) (pfC_len hpi.len sn) (one_pf _ _)  (by repeat (first | exact .here | apply Has.there))  (dv_put_src hd hpi sn) (by repeat (first | exact .here | apply Upd.there)) ?_); clear F; clear M; intro w M a F)
    replace M : Mem [bt] W w [(b3, .cells (dvC ⟨mip, n, sip, sn, e⟩).toArray 47 (0, 0)), (b6, _), (b2, _), (bt, _)] := M
    with_reducible refine l_nil ?_
    with_reducible refine q_then ?_
    with_reducible refine c_seq ?_
    with_reducible refine c_region ?_
    refine stepD rfl F rfl (o_loadA M (F.ev rfl) (by repeat (first | exact .here | apply Has.there)) (by first | assumption | rfl) ?_); clear F; clear a; intro a F
    (refine stepN rfl F (o_storeA M (F.ev rfl) (F.ev rfl) (dv_len hd2) (dv_one _)  (by repeat (first | exact .here | apply Has.there))  (put_all (by rw [dv_len hd2]; rfl)) (by repeat (first | exact .here | apply Upd.there)) ?_); clear F; clear M; intro w M a F)
    with_reducible refine l_nil ?_
    with_reducible refine q_then ?_
    with_reducible refine c_ret ?_
    exact p_ret F rfl (.cons (.cell (F.ev rfl) (run_loadVar_agg TAgg.h (M.heap (by repeat (first | exact .here | apply Has.there))) g0)) .nil) ⟨_, k5, rfl, hd2, by simp [validT, hvm, hpv]; omega, M.sub (by repeat (first | exact List.Sublist.refl _ | apply List.Sublist.cons))⟩
end Go.Proofs.Ytilgoepokaaleaa
/-! YB -/
namespace Go.Proofs.Ytilgoepokaaleaa
set_option linter.unusedVariables false
set_option linter.unusedSimpArgs false
open Go.RowKit
attribute [local irreducible] OpTo wpListIn Code.wpIn MW Cal
/-! slices in new memory -/
def SlN (n0 : Nat) (W : World) (sz : Nat) (v : Value) (n : Nat) (cs : List Value) : Prop := SlAt W sz v n cs ∧ NewV n0 v
section
variable {n0 n1 bt sz n : Nat} {W w : World} {v : Value} {cs : List Value}
theorem SlN.mono (h : SlN n1 W sz v n cs) (hle : n0 ≤ n1) : SlN n0 W sz v n cs := ⟨h.1, fun b o s k c e => Nat.le_trans hle (h.2 b o s k c e)⟩
theorem SlN.notIn (h : SlN n0 W sz v n cs) (hbt : bt < n0) : ∀ b o s k c, v = .slice (some ⟨b, o, s⟩) k c → b ∉ [bt] := fun b o s k c e hb => by
  have := h.2 b o s k c e
  simp only [List.mem_singleton] at hb
  omega
theorem SlN.laterB (h : SlN n0 W sz v n cs) (hbt : bt < n0) (E : Ext [bt] W w) : SlN n0 w sz v n cs := ⟨h.1.laterB (h.notIn hbt) E, h.2⟩
theorem SlN.later (h : SlN n0 W sz v n cs) (E : Ext [] W w) : SlN n0 w sz v n cs := ⟨h.1.later E, h.2⟩
theorem SlN.nil (n0 sz : Nat) (W : World) : SlN n0 W sz (.slice none 0 0) 0 [] := ⟨SlAt.nil _ _, NewV.nil _ _ _⟩
theorem OwnS.slN {e : TypeId} {ent : List (Nat × Obj)} (h : OwnS e sz v n cs ent) {S : List Nat} {W0 : World} {l : List (Nat × Obj)} (M : Mem S W0 w l) (hs : ∀ p ∈ ent, p ∈ l) (hS : ∀ p ∈ ent, p.1 ∉ S) : SlN W0.heap.size w sz v n cs := by
  refine ⟨h.slAt M hs, ?_⟩
  rcases h with ⟨rfl, _, _, rfl⟩ | ⟨b, cap, junk, rfl, rfl, _, _, _⟩
  · exact NewV.nil _ _ _
  · intro b' o s n c h
    cases h
    exact (M.own _ (hs _ List.mem_cons_self)).resolve_left (hS _ List.mem_cons_self)
theorem SlAt.mem {q : Option Addr} {cap : Nat} (h : SlAt W sz (.slice q n cap) n cs) : 0 < n → ∃ b o xs t fz, q = some ⟨b, o, none⟩ ∧ W.heap[b]? = some (.cells (List.toArray xs) t fz) ∧ seg xs o (n * sz) = some cs := by
  obtain ⟨p, cap', e, _, _, _, h5⟩ := h
  cases e
  exact h5
theorem nd_not {b : Nat} {o : Obj} {l ent : List (Nat × Obj)} (h : (((b, o) :: l).map (·.1)).Nodup) (hs : ∀ p ∈ ent, p ∈ l) : ∀ p ∈ ent, p.1 ∉ [b] := fun p hp hb => by
  simp only [List.mem_singleton] at hb
  exact (List.nodup_cons.1 h).1 (List.mem_map.2 ⟨p, hs p hp, hb⟩)
end
/-! PutInstalled, plain -/
def putG (x : InsV) : Bool → List InsV → List InsV
  | done, [] => if done then [] else [x]
  | done, y :: l => (if decide (0 ≤ cmpD y.to x.to) && !done then [x] else []) ++ ((if cmpD y.to x.to = 0 then [] else [y]) ++ putG x (done || decide (0 ≤ cmpD y.to x.to)) l)
theorem putG_cons {x y : InsV} {l : List InsV} {done : Bool} : putG x done (y :: l) = (if decide (0 ≤ cmpD y.to x.to) && !done then [x] else []) ++ ((if cmpD y.to x.to = 0 then [] else [y]) ++ putG x (done || decide (0 ≤ cmpD y.to x.to)) l) := by
  conv => lhs; unfold putG
theorem putG_mem {x : InsV} : ∀ {done : Bool} {l : List InsV} {z : InsV}, z ∈ putG x done l → z = x ∨ z ∈ l
  | done, [], z, h => by
    unfold putG at h
    cases done <;> simp_all
  | done, y :: l, z, h => by
    unfold putG at h
    rcases List.mem_append.1 h with h | h
    · split at h
      · exact .inl (by simpa using h)
      · cases h
    · rcases List.mem_append.1 h with h | h
      · split at h
        · cases h
        · exact .inr (by simp at h; simp [h])
      · exact (putG_mem h).imp_right fun h => List.mem_cons_of_mem _ h
theorem putG_len {x : InsV} : ∀ {done : Bool} {l : List InsV}, (putG x done l).length ≤ l.length + (if done then 0 else 1)
  | done, [] => by
    unfold putG
    cases done <;> simp
  | done, y :: l => by
    rw [putG_cons]
    have := putG_len (x := x) (done := done || decide (0 ≤ cmpD y.to x.to)) (l := l)
    generalize decide (0 ≤ cmpD y.to x.to) = g at *
    have h1 : (if cmpD y.to x.to = 0 then [] else [y]).length ≤ 1 := by split <;> simp
    generalize (if cmpD y.to x.to = 0 then [] else [y]) = ys at *
    rw [List.length_append, List.length_append, List.length_cons]
    cases done <;> cases g <;> simp at this ⊢ <;> omega
theorem putG_done {x : InsV} : ∀ {l : List InsV}, (∀ y ∈ l, cmpD x.to y.to < 0) → putG x true l = l
  | [], _ => rfl
  | y :: l, h => by
    have h1 := h y List.mem_cons_self
    have h2 := cmpD_anti x.to y.to
    rw [putG_cons, Bool.true_or, putG_done fun z hz => h z (List.mem_cons_of_mem _ hz), Bool.not_true, Bool.and_false, if_neg Bool.false_ne_true, if_neg (show ¬ cmpD y.to x.to = 0 by omega)]
    rfl
theorem putG_asc {x : InsV} (hx : IsDv x.to) : ∀ {l : List InsV}, AscK InsV.to l → (∀ y ∈ l, IsDv y.to) → AscK InsV.to (putG x false l)
  | [], _, _ => by
    unfold putG
    exact List.pairwise_singleton _ _
  | y :: l, h, hd => by
    obtain ⟨h1, h2⟩ := List.pairwise_cons.1 h
    have ih := putG_asc hx h2 fun z hz => hd z (List.mem_cons_of_mem _ hz)
    have ha := cmpD_anti y.to x.to
    rw [putG_cons]
    rcases Int.lt_trichotomy (cmpD y.to x.to) 0 with hc | hc | hc
    · rw [decide_eq_false (by omega), if_neg (show ¬ cmpD y.to x.to = 0 by omega)]
      simp only [Bool.false_and, Bool.false_or, Bool.false_eq_true, if_false, List.nil_append, List.cons_append]
      refine List.pairwise_cons.2 ⟨fun z hz => ?_, ih⟩
      rcases putG_mem hz with rfl | hz
      · exact hc
      · exact h1 z hz
    · have e := cmpD_zero (hd y List.mem_cons_self) hx hc
      rw [decide_eq_true (by omega), if_pos hc]
      have hl : ∀ z ∈ l, cmpD x.to z.to < 0 := fun z hz => by rw [← e]; exact h1 z hz
      simp only [Bool.not_false, Bool.true_and, if_true, Bool.or_true, List.nil_append, putG_done hl, List.singleton_append]
      exact List.pairwise_cons.2 ⟨hl, h2⟩
    · rw [decide_eq_true (by omega), if_neg (show ¬ cmpD y.to x.to = 0 by omega)]
      have hl : ∀ z ∈ l, cmpD x.to z.to < 0 := fun z hz => cmpD_trans (show cmpD x.to y.to < 0 by omega) (h1 z hz)
      simp only [Bool.not_false, Bool.true_and, if_true, Bool.or_true, putG_done hl, List.singleton_append]
      refine List.pairwise_cons.2 ⟨fun z hz => ?_, h⟩
      rcases List.mem_cons.1 hz with rfl | hz
      · omega
      · exact hl z hz
set_option maxHeartbeats 4000000 in
theorem put_c (l : List InsV) (hl : ∀ x ∈ l, IsIn x) (x : InsV) (hx : IsIn x) (hlen : l.length ≤ 100000) (v : Value) (W : World) (hS : SlAt W 40 v l.length (insC l)) :
    Cal Try.prog 55 [v, .agg (inC x).toArray].toArray W fun r w' => ∃ ent, OwnS 62 40 r (putG x false l).length (insC (putG x false l)) ent ∧ Mem [] W w' ent := by
  obtain ⟨q, cap, rfl, hcap, hsp, hll, hm⟩ := hS
  have x1 : (inC x).length = 40 := in_len hx
  have x2 := in_all hx
  have x3 := in_to hx
  have hpl := putG_len (x := x) (done := false) (l := l)
  rw [if_neg (by simp)] at hpl
  refine fn_ofM (n := 45) [] Try.func55 rfl rfl rfl ?_
  intro a w F M hwW
  refine c_seq ?_
  refine c_region ?_
  (refine stepD rfl F rfl (o_box M (F.ev rfl) rfl ?_); clear F; clear M; intro b3 w M a F)
  refine stepD rfl F rfl (o_assign (F.ev rfl) ?_); clear F; clear a; intro a F
  with_reducible refine l_nil ?_
  with_reducible refine q_then ?_
  with_reducible refine c_seq ?_
  with_reducible refine c_region ?_
  refine stepD rfl F rfl (o_assign (F.ev rfl) ?_); clear F; clear a; intro a F
  with_reducible refine l_nil ?_
  with_reducible refine q_then ?_
  with_reducible refine c_seq ?_
  with_reducible refine c_region ?_
  refine stepD rfl F rfl (o_assign (F.ev rfl) ?_); clear F; clear a; intro a F
  with_reducible refine l_nil ?_
  with_reducible refine q_then ?_
  with_reducible refine c_seq ?_
  with_reducible refine c_seq ?_
  with_reducible refine c_region ?_
  refine stepD rfl F rfl (o_move (F.ev rfl) ?_); clear F; clear a; intro a F
  refine stepD rfl F rfl (o_lenSl (F.ev rfl) ?_); clear F; clear a; intro a F
  refine stepD rfl F rfl (o_move (F.ev rfl) ?_); clear F; clear a; intro a F
  with_reducible refine l_nil ?_
  with_reducible refine q_then ?_
  with_reducible refine c_block ?_
  obtain ⟨u, hu⟩ : ∃ u, u = Value.slice none 0 0 := ⟨_, rfl⟩
  rw [← hu] at F
  obtain ⟨es, hes⟩ : ∃ es : List (Nat × Obj), es = [] := ⟨_, rfl⟩
  replace M : Mem [] W w ((b3, .cells (inC x).toArray 62 (0, 0)) :: es) := by
    rw [hes]
    exact M
  have hOs : OwnS 62 40 u ([] : List InsV).length (insC []) es := by
    rw [hu, hes]
    exact OwnS.nil _ _
  clear hu hes
  refine c_loop (fun m a w => ∃ (i : Nat) (u : Value) (dn : Bool) (out : List InsV) (es : List (Nat × Obj)), m = l.length - i ∧ i ≤ l.length ∧ out ++ putG x dn (l.drop i) = putG x false l ∧ OwnS 62 40 u out.length (insC out) es ∧ Frm a 45 [] [(12, .int .i64 i), (11, .int .i64 l.length), (10, .slice q l.length cap), (5, u), (6, .bool dn), (3, .pointer (some ⟨b3, 0, none⟩))] ∧ Mem [] W w ((b3, .cells (inC x).toArray 62 (0, 0)) :: es)) l.length ⟨0, u, false, [], es, rfl, by omega, rfl, hOs, F.only [12, 11, 10, 5, 6, 3] rfl, M⟩ ?_
  clear F M a w hOs u es
  rintro m a w ⟨i, u, dn, out, es, hm', hi, hout, hOs, F, M⟩
  have hol : out.length ≤ 100001 := by
    have := congrArg List.length hout
    rw [List.length_append] at this
    omega
  by_cases hlt : i < l.length
  · obtain ⟨b, o, cs, t, fz, rfl, hb, hs⟩ := hm (by omega)
    obtain ⟨y, hy0⟩ : ∃ y, y = l[i] := ⟨_, rfl⟩
    have hyi : IsIn y := by rw [hy0]; exact hl _ (List.getElem_mem hlt)
    have f1 : seg cs (o + (i : Int).toNat * 40) 40 = some (inC y) := by rw [hy0]; exact seg_el (ins_len hl) hs hlt (by omega)
    rw [← List.getElem_cons_drop hlt, ← hy0, putG_cons] at hout
    have f2 : (inC y).length = 40 := in_len hyi
    have f3 := in_to hyi
    have f4 := in_all hyi
    with_reducible refine c_seq ?_
    with_reducible refine c_region ?_
    refine stepD rfl F rfl (o_lssT (F.ev rfl) (F.ev rfl) (by omega) ?_); clear F; clear a; intro a F
    with_reducible refine l_nil ?_
    with_reducible refine q_then ?_
    with_reducible refine c_seq ?_
    refine c_true F rfl rfl ?_
    with_reducible refine c_skip ?_
    with_reducible refine q_then ?_
    with_reducible refine c_seq ?_
    with_reducible refine c_block ?_
    with_reducible refine c_seq ?_
    with_reducible refine c_region ?_
    refine stepD rfl F rfl (o_indexSl (F.ev rfl) (F.ev rfl) (by omega) (by omega) ?_); clear F; clear a; intro a F
    refine stepD rfl F rfl (o_loadWA M (F.ev rfl) (by assumption) (by first | assumption | rfl) ?_); clear F; clear a; intro a F
    (refine stepD rfl F rfl (o_alloc M ?_); clear F; clear M; intro b8 w M a F)
    skip
    (refine stepN rfl F (o_storeA M (F.ev rfl) (F.ev rfl) (f2) (in_one y)  (by repeat (first | exact .here | apply Has.there))  (put_all (by rw [f2]; rfl)) (by repeat (first | exact .here | apply Upd.there)) ?_); clear F; clear M; intro w M a F)
    with_reducible refine l_nil ?_
    with_reducible refine q_then ?_
    with_reducible refine c_seq ?_
    with_reducible refine c_region ?_
    refine stepD rfl F rfl (o_fieldAddr (F.ev rfl) ?_); clear F; clear a; intro a F
    refine stepD rfl F rfl (o_loadA M (F.ev rfl) (by repeat (first | exact .here | apply Has.there)) (by first | assumption | rfl) ?_); clear F; clear a; intro a F
    refine stepD rfl F rfl (o_fieldAddr (F.ev rfl) ?_); clear F; clear a; intro a F
    refine stepD rfl F rfl (o_loadA M (F.ev rfl) (by repeat (first | exact .here | apply Has.there)) (by first | assumption | rfl) ?_); clear F; clear a; intro a F
    (refine stepD rfl F rfl (o_call (F.ev rfl) (F.evs rfl) (Cal.mono (rcompare_c y.to x.to hyi.1 hx.1 _) ?_)); clear F; clear a; rintro _ w ⟨rfl, hE⟩ a F; replace M := M.later hE; clear hE)
    generalize cmpD y.to x.to = cc at *
    refine stepD rfl F rfl (o_assign (F.ev rfl) ?_); clear F; clear a; intro a F
    with_reducible refine l_nil ?_
    refine q_then ?_
    refine c_seq ?_
    refine c_cut (fun a w => ∃ (u : Value) (out2 : List InsV) (es : List (Nat × Obj)), out2 = out ++ (if decide (0 ≤ cc) && !dn then [x] else []) ∧ OwnS 62 40 u out2.length (insC out2) es ∧ Frm a 45 [] [(9, .int .i64 cc), (12, .int .i64 i), (11, .int .i64 l.length), (10, .slice (some ⟨b, o, none⟩) l.length cap), (5, u), (6, .bool (dn || decide (0 ≤ cc))), (3, .pointer (some ⟨b3, 0, none⟩)), (8, .pointer (some ⟨b8, 0, none⟩))] ∧ Mem [] W w ((b8, .cells (inC y).toArray 62 (0, 0)) :: (b3, .cells (inC x).toArray 62 (0, 0)) :: es)) ?_ ?_
    · by_cases hc : 0 ≤ cc
      · rw [decide_eq_true hc]
        cases dn
        · with_reducible refine c_seq ?_
          with_reducible refine c_region ?_
          refine stepD rfl F rfl (o_move (F.ev rfl) ?_); clear F; clear a; intro a F
          refine stepD rfl F rfl (o_geqT (F.ev rfl) (F.ev rfl) (by omega) ?_); clear F; clear a; intro a F
          refine stepD rfl F rfl (o_move (F.ev rfl) ?_); clear F; clear a; intro a F
          refine stepG rfl F rfl rfl rfl (o_move (F.ev rfl) ?_); clear F; clear a; intro a F
          refine stepG rfl F rfl rfl rfl (o_not (F.ev rfl) ?_); clear F; clear a; intro a F
          refine stepD rfl F rfl (o_pickT (F.ev rfl) (F.ev rfl) ?_); clear F; clear a; intro a F
          with_reducible refine l_nil ?_
          with_reducible refine q_then ?_
          refine c_true F rfl rfl ?_
          with_reducible refine c_seq ?_
          with_reducible refine c_region ?_
          refine stepD rfl F rfl (o_move (F.ev rfl) ?_); clear F; clear a; intro a F
          refine stepD rfl F rfl (o_loadA M (F.ev rfl) (by repeat (first | exact .here | apply Has.there)) (by first | assumption | rfl) ?_); clear F; clear a; intro a F
          (refine stepD rfl F rfl (o_buildSlice F M rfl rfl rfl (in_build1 hx) ?_); clear F; clear M; intro bs w M a F)
          (refine stepD rfl F rfl (o_append hOs M (.cons (.cons (.cons .here))) (F.ev rfl) (F.ev rfl) (SrcOf.cells' (M.heap .here) (sg_all (by omega)) (in_one _)) (by omega) (by omega) ?_); clear F; clear M; intro v2 es2 w hO2 M a F)
          refine stepD rfl F rfl (o_assign (F.ev rfl) ?_); clear F; clear a; intro a F
          with_reducible refine l_nil ?_
          with_reducible refine q_then ?_
          with_reducible refine c_region ?_
          refine stepD rfl F rfl (o_assign (F.ev rfl) ?_); clear F; clear a; intro a F
          with_reducible refine l_nil ?_
          exact ⟨v2, _, es2, rfl, by show OwnS _ 40 _ (out ++ [x]).length (encL inC (out ++ [x])) _; rw [show (out ++ [x]).length = out.length + 1 by simp, encL_app, encL_one]; exact hO2, F.only [9, 12, 11, 10, 5, 6, 3, 8] rfl, M.sub (.cons _ (.refl _))⟩
        · with_reducible refine c_seq ?_
          with_reducible refine c_region ?_
          refine stepD rfl F rfl (o_move (F.ev rfl) ?_); clear F; clear a; intro a F
          refine stepD rfl F rfl (o_geqT (F.ev rfl) (F.ev rfl) (by omega) ?_); clear F; clear a; intro a F
          refine stepD rfl F rfl (o_move (F.ev rfl) ?_); clear F; clear a; intro a F
          refine stepG rfl F rfl rfl rfl (o_move (F.ev rfl) ?_); clear F; clear a; intro a F
          refine stepG rfl F rfl rfl rfl (o_not (F.ev rfl) ?_); clear F; clear a; intro a F
          refine stepD rfl F rfl (o_pickT (F.ev rfl) (F.ev rfl) ?_); clear F; clear a; intro a F
          with_reducible refine l_nil ?_
          with_reducible refine q_then ?_
          refine c_false F rfl rfl ?_
          with_reducible refine c_skip ?_
          exact ⟨u, _, es, rfl, by rw [if_neg (by simp), List.append_nil]; exact hOs, F.only [9, 12, 11, 10, 5, 6, 3, 8] rfl, M⟩
      · rw [decide_eq_false hc]
        with_reducible refine c_seq ?_
        with_reducible refine c_region ?_
        refine stepD rfl F rfl (o_move (F.ev rfl) ?_); clear F; clear a; intro a F
        refine stepD rfl F rfl (o_geqF (F.ev rfl) (F.ev rfl) (by omega) ?_); clear F; clear a; intro a F
        refine stepD rfl F rfl (o_move (F.ev rfl) ?_); clear F; clear a; intro a F
        refine stepOff F rfl rfl rfl rfl ?_; clear F; clear a; intro a F
        refine stepOff F rfl rfl rfl rfl ?_; clear F; clear a; intro a F
        refine stepD rfl F rfl (o_pickF (F.ev rfl) (F.ev rfl) ?_); clear F; clear a; intro a F
        with_reducible refine l_nil ?_
        with_reducible refine q_then ?_
        refine c_false F rfl rfl ?_
        with_reducible refine c_skip ?_
        exact ⟨u, _, es, rfl, by rw [if_neg (by simp), List.append_nil]; exact hOs, by rw [Bool.or_false]; exact F.only [9, 12, 11, 10, 5, 6, 3, 8] rfl, M⟩
    clear F M a w hOs u es
    rintro a w ⟨u, out2, es, hout2, hOs, F, M⟩
    rw [← List.append_assoc, ← hout2] at hout
    have hol2 : out2.length ≤ 100001 := by
      have := congrArg List.length hout
      rw [List.length_append] at this
      omega
    generalize (dn || decide (0 ≤ cc)) = dn2 at *
    by_cases hc : cc = 0
    · rw [if_pos hc, List.nil_append] at hout
      with_reducible refine q_then ?_
      with_reducible refine c_seq ?_
      with_reducible refine c_region ?_
      refine stepD rfl F rfl (o_move (F.ev rfl) ?_); clear F; clear a; intro a F
      refine stepD rfl F rfl (o_neqF (F.ev rfl) (F.ev rfl) (by omega) ?_); clear F; clear a; intro a F
      with_reducible refine l_nil ?_
      with_reducible refine q_then ?_
      refine c_false F rfl rfl ?_
      with_reducible refine c_skip ?_
      with_reducible refine q_inB ?_
      with_reducible refine q_then ?_
      with_reducible refine c_region ?_
      refine stepD rfl F rfl (o_add (F.ev rfl) (F.ev rfl) (w_i64 (by omega) (by omega)) ?_); clear F; clear a; intro a F
      refine stepD rfl F rfl (o_move (F.ev rfl) ?_); clear F; clear a; intro a F
      with_reducible refine l_nil ?_
      with_reducible refine q_then ?_
      exact ⟨_, by omega, i + 1, u, dn2, out2, es, rfl, by omega, hout, hOs, F.only [12, 11, 10, 5, 6, 3] rfl, M.sub (.cons _ (.refl _))⟩
    · rw [if_neg hc, ← List.append_assoc] at hout
      with_reducible refine q_then ?_
      with_reducible refine c_seq ?_
      with_reducible refine c_region ?_
      refine stepD rfl F rfl (o_move (F.ev rfl) ?_); clear F; clear a; intro a F
      refine stepD rfl F rfl (o_neqT (F.ev rfl) (F.ev rfl) (by omega) ?_); clear F; clear a; intro a F
      with_reducible refine l_nil ?_
      with_reducible refine q_then ?_
      refine c_true F rfl rfl ?_
      with_reducible refine c_region ?_
      refine stepD rfl F rfl (o_move (F.ev rfl) ?_); clear F; clear a; intro a F
      refine stepD rfl F rfl (o_loadA M (F.ev rfl) (by repeat (first | exact .here | apply Has.there)) (by first | assumption | rfl) ?_); clear F; clear a; intro a F
      (refine stepD rfl F rfl (o_buildSlice F M rfl rfl rfl (in_build1 hyi) ?_); clear F; clear M; intro bs w M a F)
      (refine stepD rfl F rfl (o_append hOs M (.cons (.cons (.cons .here))) (F.ev rfl) (F.ev rfl) (SrcOf.cells' (M.heap .here) (sg_all (by omega)) (in_one _)) (by omega) (by omega) ?_); clear F; clear M; intro v2 es2 w hO2 M a F)
      refine stepD rfl F rfl (o_assign (F.ev rfl) ?_); clear F; clear a; intro a F
      with_reducible refine l_nil ?_
      with_reducible refine q_inB ?_
      with_reducible refine q_then ?_
      with_reducible refine c_region ?_
      refine stepD rfl F rfl (o_add (F.ev rfl) (F.ev rfl) (w_i64 (by omega) (by omega)) ?_); clear F; clear a; intro a F
      refine stepD rfl F rfl (o_move (F.ev rfl) ?_); clear F; clear a; intro a F
      with_reducible refine l_nil ?_
      with_reducible refine q_then ?_
      exact ⟨_, by omega, i + 1, v2, dn2, out2 ++ [y], es2, rfl, by omega, hout, by show OwnS _ 40 _ (out2 ++ [y]).length (encL inC (out2 ++ [y])) _; rw [show (out2 ++ [y]).length = out2.length + 1 by simp, encL_app, encL_one]; exact hO2, F.only [12, 11, 10, 5, 6, 3] rfl, M.sub (.cons _ (.cons _ (.refl _)))⟩
  · obtain rfl : i = l.length := by omega
    rw [List.drop_length] at hout
    cases dn
    · have hout : out ++ [x] = putG x false l := hout
      rw [← hout]
      with_reducible refine c_seq ?_
      with_reducible refine c_region ?_
      refine stepD rfl F rfl (o_lssF (F.ev rfl) (F.ev rfl) (by omega) ?_); clear F; clear a; intro a F
      with_reducible refine l_nil ?_
      with_reducible refine q_then ?_
      with_reducible refine c_seq ?_
      refine c_false F rfl rfl ?_
      with_reducible refine c_exit ?_
      with_reducible refine q_thenX ?_
      with_reducible refine q_thenX ?_
      with_reducible refine q_inBX ?_
      with_reducible refine q_then ?_
      with_reducible refine c_seq ?_
      with_reducible refine c_seq ?_
      with_reducible refine c_region ?_
      refine stepD rfl F rfl (o_move (F.ev rfl) ?_); clear F; clear a; intro a F
      refine stepD rfl F rfl (o_not (F.ev rfl) ?_); clear F; clear a; intro a F
      with_reducible refine l_nil ?_
      with_reducible refine q_then ?_
      refine c_true F rfl rfl ?_
      with_reducible refine c_region ?_
      refine stepD rfl F rfl (o_move (F.ev rfl) ?_); clear F; clear a; intro a F
      refine stepD rfl F rfl (o_loadA M (F.ev rfl) (by repeat (first | exact .here | apply Has.there)) (by first | assumption | rfl) ?_); clear F; clear a; intro a F
      (refine stepD rfl F rfl (o_buildSlice F M rfl rfl rfl (in_build1 hx) ?_); clear F; clear M; intro bs w M a F)
      (refine stepD rfl F rfl (o_append hOs M (.cons (.cons .here)) (F.ev rfl) (F.ev rfl) (SrcOf.cells' (M.heap .here) (sg_all (by omega)) (in_one _)) (by omega) (by omega) ?_); clear F; clear M; intro v2 es2 w hO2 M a F)
      refine stepD rfl F rfl (o_assign (F.ev rfl) ?_); clear F; clear a; intro a F
      with_reducible refine l_nil ?_
      with_reducible refine q_then ?_
      with_reducible refine c_seq ?_
      with_reducible refine c_region ?_
      refine stepD rfl F rfl (o_move (F.ev rfl) ?_); clear F; clear a; intro a F
      refine stepD rfl F rfl (o_assign (F.ev rfl) ?_); clear F; clear a; intro a F
      with_reducible refine l_nil ?_
      with_reducible refine q_then ?_
      with_reducible refine c_ret ?_
      refine p_ret F rfl (.cons (.tmp (F.ev rfl)) .nil) ?_
      exact ⟨es2, by show OwnS _ 40 _ (out ++ [x]).length (encL inC (out ++ [x])) _; rw [show (out ++ [x]).length = out.length + 1 by simp, encL_app, encL_one]; exact hO2, M.sub (.cons _ (.cons _ (.refl _)))⟩
    · have hout : out ++ [] = putG x false l := hout
      rw [List.append_nil] at hout
      rw [← hout]
      with_reducible refine c_seq ?_
      with_reducible refine c_region ?_
      refine stepD rfl F rfl (o_lssF (F.ev rfl) (F.ev rfl) (by omega) ?_); clear F; clear a; intro a F
      with_reducible refine l_nil ?_
      with_reducible refine q_then ?_
      with_reducible refine c_seq ?_
      refine c_false F rfl rfl ?_
      with_reducible refine c_exit ?_
      with_reducible refine q_thenX ?_
      with_reducible refine q_thenX ?_
      with_reducible refine q_inBX ?_
      with_reducible refine q_then ?_
      with_reducible refine c_seq ?_
      with_reducible refine c_seq ?_
      with_reducible refine c_region ?_
      refine stepD rfl F rfl (o_move (F.ev rfl) ?_); clear F; clear a; intro a F
      refine stepD rfl F rfl (o_not (F.ev rfl) ?_); clear F; clear a; intro a F
      with_reducible refine l_nil ?_
      with_reducible refine q_then ?_
      refine c_false F rfl rfl ?_
      with_reducible refine c_skip ?_
      with_reducible refine q_then ?_
      with_reducible refine c_seq ?_
      with_reducible refine c_region ?_
      refine stepD rfl F rfl (o_move (F.ev rfl) ?_); clear F; clear a; intro a F
      refine stepD rfl F rfl (o_assign (F.ev rfl) ?_); clear F; clear a; intro a F
      with_reducible refine l_nil ?_
      with_reducible refine q_then ?_
      with_reducible refine c_ret ?_
      refine p_ret F rfl (.cons (.tmp (F.ev rfl)) .nil) ?_
      exact ⟨es, hOs, M.sub (.cons _ (.refl _))⟩
end Go.Proofs.Ytilgoepokaaleaa
/-! YC -/
namespace Go.Proofs.Ytilgoepokaaleaa
set_option linter.unusedVariables false
set_option linter.unusedSimpArgs false
open Go.RowKit
attribute [local irreducible] OpTo wpListIn Code.wpIn MW Cal
theorem in_buildI {d : DstV} (hd : IsDv d) (e : Int) (o : DisV) : putAll [(0, 35), (35, 1), (36, 2), (38, 1), (39, 1)] inZ [(0, dvC d), (1, [.int .u64 e]), (2, diC o), (3, [.int .i64 (-1)])] = some (inC ⟨d, e, o, -1, 0⟩) := by
  obtain ⟨p1, n1, p2, n2, rt⟩ := d
  obtain ⟨x0, x1, x2, x3, x4, x5, x6, x7, x8, x9, x10, x11, x12, x13, x14, x15, e0⟩ := len16 (show p1.length = 16 from hd.1.len)
  obtain ⟨y0, y1, y2, y3, y4, y5, y6, y7, y8, y9, y10, y11, y12, y13, y14, y15, e1⟩ := len16 (show p2.length = 16 from hd.2.len)
  subst e0
  subst e1
  rfl
theorem validM_of {m : Int} (h : 0 ≤ m ∧ m ≤ 65534) : validM m = true := by
  unfold validM
  rw [decide_eq_true h.1, decide_eq_true (by omega)]
  rfl
end Go.Proofs.Ytilgoepokaaleaa
/-! ZK -/
namespace Go.Proofs.Ytilgoepokaaleaa
set_option linter.unusedVariables false
set_option linter.unusedSimpArgs false
open Go.RowKit
attribute [local irreducible] OpTo wpListIn Code.wpIn MW Cal
def OkR (x : InsV) : Prop := IsIn x ∧ ins1 x = true
structure InsR (n0 : Nat) (W : World) (v : Value) (l : List InsV) : Prop where
  at_ : SlN n0 W 40 v l.length (insC l)
  ok : ∀ x ∈ l, OkR x
  asc : AscK InsV.to l
theorem okR_new {d : DstV} (hd : IsDv d) (hv : validT d = true) {e : Int} (he : 1 ≤ e) {o : DisV} (ho : 0 ≤ o.met ∧ o.met ≤ 65534) {z : Int} (hz : z = -1 ∨ isTime z = true) : OkR ⟨d, e, o, z, 0⟩ := by
  refine ⟨⟨hd, trivial⟩, ?_⟩
  unfold ins1 finD validM inf
  dsimp only
  rw [hv, if_neg (by omega)]
  have h1 : (decide (z = -1) || isTime z) = true := by
    rcases hz with h | h <;> simp [h]
  rw [h1]
  simp
  omega
theorem okR_held {d : DstV} (hd : IsDv d) (hv : validT d = true) {o : DisV} {z : Int} (hz : isTime z = true) : OkR ⟨d, 0, { o with met := 65535 }, -1, z⟩ := by
  refine ⟨⟨hd, trivial⟩, ?_⟩
  unfold ins1 inf
  dsimp only
  rw [hv, hz]
  simp
theorem wt_time {xs : List Int} {k : Nat} {now : Int} (h0 : 0 ≤ now) (h1 : now ≤ 1099511627776) : isTime (wtV xs k now) = true := by
  unfold wtV isTime
  simp only [Bool.and_eq_true, decide_eq_true_eq]
  repeat' split
  all_goals omega
set_option maxHeartbeats 4000000 in
theorem installedR_c {bt : Nat} {p : Option Addr} {len cap k : Nat} {xs : List Int} (now : Int) (h0 : 0 ≤ now) (h1 : now ≤ 1099511627776) (W : World) (hT : TapeS W bt p len xs) (hb : W.heap[bt]? = some (tobj p len cap k)) :
    Cal Try.prog 25 [.pointer (some ⟨bt, 0, none⟩), .int .i64 now, .slice none 0 0].toArray W fun r w' => ∃ l k', InsR W.heap.size w' r l ∧ l.length ≤ 7 ∧ Mem [bt] W w' [(bt, tobj p len cap k')] := by
  have hbt : bt < W.heap.size := (Array.getElem?_eq_some_iff.1 hb).1
  refine fn_ofM (n := 65) [bt] Try.func25 rfl rfl rfl ?_
  intro a w F M hwW
  replace M := M.came hwW hb (by simp) (by simp)
  with_reducible refine c_seq ?_
  with_reducible refine c_region ?_
  refine stepD rfl F rfl (o_assign (F.ev rfl) ?_); clear F; clear a; intro a F
  with_reducible refine l_nil ?_
  with_reducible refine q_then ?_
  with_reducible refine c_seq ?_
  with_reducible refine c_region ?_
  refine stepD rfl F rfl (o_assign (F.ev rfl) ?_); clear F; clear a; intro a F
  with_reducible refine l_nil ?_
  with_reducible refine q_then ?_
  with_reducible refine c_seq ?_
  with_reducible refine c_seq ?_
  with_reducible refine c_region ?_
  refine stepD rfl F rfl (o_move (F.ev rfl) ?_); clear F; clear a; intro a F
  (refine stepD rfl F rfl (o_call (F.ev rfl) (F.evs rfl) (Cal.mono (next_c 8 (by omega) (by omega) _ (hT.later M.ext) (M.heap .here) ) ?_)); clear F; clear a; have M0 := M; clear M; rintro _ w ⟨rfl, N⟩ a F)
  replace M := M0.turn1 N .here
  clear M0 N
  have v1 := nxV_bd xs k (n := 8) (by omega)
  obtain ⟨c0, hc0⟩ := Int.eq_ofNat_of_zero_le v1.1
  rw [hc0] at F v1
  refine stepD rfl F rfl (o_assign (F.ev rfl) ?_); clear F; clear a; intro a F
  with_reducible refine l_nil ?_
  with_reducible refine q_then ?_
  with_reducible refine c_block ?_
  refine c_loop (fun m a w => ∃ (c : Nat) (x : Int) (l : List InsV) (v : Value) (k : Nat), m = c ∧ x = c ∧ l.length + c ≤ 7 ∧ InsR W.heap.size w v l ∧ Frm a 65 [] [(8, .int .i64 x), (7, v), (0, .pointer (some ⟨bt, 0, none⟩)), (1, .int .i64 now), (2, .slice none 0 0)] ∧ Mem [bt] W w [(bt, tobj p len cap k)]) c0 ⟨c0, _, [], _, nxK xs k, rfl, rfl, by simp; omega, ⟨SlN.nil _ _ _, by simp, .nil⟩, F.only [8, 7, 0, 1, 2] rfl, M⟩ ?_
  clear F M
  rintro m a w ⟨c, x, l, v, kk, hm, hxc, hc5, hO, F, M⟩
  by_cases hlt : 0 < c
  · with_reducible refine c_seq ?_
    with_reducible refine c_seq ?_
    with_reducible refine c_region ?_
    refine stepD rfl F rfl (o_move (F.ev rfl) ?_); clear F; clear a; intro a F
    refine stepD rfl F rfl (o_gtrT (F.ev rfl) (F.ev rfl) (by omega) ?_); clear F; clear a; intro a F
    with_reducible refine l_nil ?_
    with_reducible refine q_then ?_
    refine c_true F rfl rfl ?_
    with_reducible refine c_skip ?_
    with_reducible refine q_then ?_
    with_reducible refine c_seq ?_
    with_reducible refine c_block ?_
    with_reducible refine c_seq ?_
    with_reducible refine c_region ?_
    refine stepD rfl F rfl (o_move (F.ev rfl) ?_); clear F; clear a; intro a F
    (refine stepD rfl F rfl (o_call (F.ev rfl) (F.evs rfl) (Cal.mono (toE_c _ (hT.later M.ext) (M.heap .here) ) ?_)); clear F; clear a; have M0 := M; clear M; rintro _ w ⟨d, k2, rfl, hd, hdv, N⟩ a F)
    replace hO : InsR W.heap.size w v l := ⟨hO.at_.laterB hbt N.ext, hO.ok, hO.asc⟩
    replace M := M0.turn1 N .here
    clear M0 N
    refine stepD rfl F rfl (o_move (F.ev rfl) ?_); clear F; clear a; intro a F
    (refine stepD rfl F rfl (o_call (F.ev rfl) (F.evs rfl) (Cal.mono (eui_c _ (hT.later M.ext) (M.heap .here) ) ?_)); clear F; clear a; have M0 := M; clear M; rintro _ w ⟨e, k3, rfl, he, N⟩ a F)
    replace hO : InsR W.heap.size w v l := ⟨hO.at_.laterB hbt N.ext, hO.ok, hO.asc⟩
    replace M := M0.turn1 N .here
    clear M0 N
    refine stepD rfl F rfl (o_move (F.ev rfl) ?_); clear F; clear a; intro a F
    (refine stepD rfl F rfl (o_call (F.ev rfl) (F.evs rfl) (Cal.mono (distE_c _ (hT.later M.ext) (M.heap .here) ) ?_)); clear F; clear a; have M0 := M; clear M; rintro _ w ⟨o, k4, rfl, ho, N⟩ a F)
    replace hO : InsR W.heap.size w v l := ⟨hO.at_.laterB hbt N.ext, hO.ok, hO.asc⟩
    replace M := M0.turn1 N .here
    clear M0 N
    have E0 := M.ext
    obtain ⟨wb, hwb, M⟩ : ∃ wb, wb = w ∧ Mem [bt] wb w [(bt, tobj p len cap k4)] := ⟨w, rfl, M.re (by simp)⟩
    rw [← hwb] at E0 hO
    clear hwb
    have hTw := hT.later E0
    (refine stepD rfl F rfl (o_build F rfl (in_buildI hd e o) ?_); clear F; clear a; intro a F)
    have hi : IsIn ⟨d, e, o, -1, 0⟩ := ⟨hd, trivial⟩
    have hom := validM_of ho
    (refine stepD rfl F rfl (o_alloc M ?_); clear F; clear M; intro b9 w M a F)
    (refine stepN rfl F (o_storeA M (F.ev rfl) (F.ev rfl) (in_len hi) (in_one _)  (by repeat (first | exact .here | apply Has.there))  (put_all (by rw [in_len hi]; rfl)) (by repeat (first | exact .here | apply Upd.there)) ?_); clear F; clear M; intro w M a F)
    with_reducible refine l_nil ?_
    with_reducible refine q_then ?_
    with_reducible refine c_seq ?_
    with_reducible refine c_seq ?_
    with_reducible refine c_region ?_
    refine stepD rfl F rfl (o_move (F.ev rfl) ?_); clear F; clear a; intro a F
    refine stepD rfl F rfl (o_lenSl (F.ev rfl) ?_); clear F; clear a; intro a F
    refine stepD rfl F rfl (o_gtrF (F.ev rfl) (F.ev rfl) (by omega) ?_); clear F; clear a; intro a F
    refine stepD rfl F rfl (o_move (F.ev rfl) ?_); clear F; clear a; intro a F
    refine stepOff F rfl rfl rfl rfl ?_; clear F; clear a; intro a F
    refine stepOff F rfl rfl rfl rfl ?_; clear F; clear a; intro a F
    refine stepD rfl F rfl (o_pickF (F.ev rfl) (F.ev rfl) ?_); clear F; clear a; intro a F
    with_reducible refine l_nil ?_
    with_reducible refine q_then ?_
    refine c_false F rfl rfl ?_
    with_reducible refine c_skip ?_
    with_reducible refine q_then ?_
    with_reducible refine c_seq ?_
    with_reducible refine c_seq ?_
    with_reducible refine c_region ?_
    refine stepD rfl F rfl (o_move (F.ev rfl) ?_); clear F; clear a; intro a F
    (refine stepD rfl F rfl (o_call (F.ev rfl) (F.evs rfl) (Cal.mono (nextE_c 3 (by omega) (by omega) _ (hTw.later M.ext) (M.heap (.there .here)) ) ?_)); clear F; clear a; have M0 := M; clear M; rintro _ w ⟨q, k5, rfl, hq, N⟩ a F)
    replace M := M0.turn1 N (.there .here)
    clear M0 N
    refine l_nil ?_
    refine q_then ?_
    repeat (with_reducible refine c_seq ?_)
    refine c_cut (fun a w => ∃ (y : InsV) (k : Nat), OkR y ∧ Frm a 65 [] [(9, .pointer (some ⟨b9, 0, none⟩)), (8, .int .i64 x), (7, v), (0, .pointer (some ⟨bt, 0, none⟩)), (1, .int .i64 now), (2, .slice none 0 0)] ∧ Mem [bt] wb w [(b9, .cells (inC y).toArray 62 (0, 0)), (bt, tobj p len cap k)]) ?_ ?_
    · by_cases q0 : q = 0
      · with_reducible refine c_block ?_
        with_reducible refine c_seq ?_
        with_reducible refine c_region ?_
        refine stepD rfl F rfl (o_eqlT (F.ev rfl) (F.ev rfl) (by omega) ?_); clear F; clear a; intro a F
        refine stepD rfl F rfl (o_assign (F.ev rfl) ?_); clear F; clear a; intro a F
        with_reducible refine l_nil ?_
        with_reducible refine q_then ?_
        refine c_true F rfl rfl ?_
        with_reducible refine c_region ?_
        refine stepD rfl F rfl (o_move (F.ev rfl) ?_); clear F; clear a; intro a F
        refine stepD rfl F rfl (o_move (F.ev rfl) ?_); clear F; clear a; intro a F
        (refine stepD rfl F rfl (o_call (F.ev rfl) (F.evs rfl) (Cal.mono (wtime_c now h0 h1 _ (hTw.later M.ext) (M.heap (.there .here)) ) ?_)); clear F; clear a; have M0 := M; clear M; rintro _ w ⟨rfl, N⟩ a F)
        replace M := M0.turn1 N (.there .here)
        clear M0 N
        refine stepD rfl F rfl (o_fieldAddr (F.ev rfl) ?_); clear F; clear a; intro a F
        (refine stepN rfl F (o_store1 M (F.ev rfl) (F.ev rfl) rfl (by repeat (first | exact .here | apply Has.there)) (in_put_btn hi _) (by repeat (first | exact .here | apply Upd.there)) ?_); clear F; clear M; intro w M a F)
        with_reducible refine l_nil ?_
        with_reducible refine q_inB ?_
        exact ⟨⟨d, e, o, wtV xs k5 now, 0⟩, _, okR_new hd hdv he.1 ho (.inr (wt_time h0 h1)), F.only [9, 8, 7, 0, 1, 2] rfl, M⟩
      by_cases q1 : q = 1
      · with_reducible refine c_block ?_
        with_reducible refine c_seq ?_
        with_reducible refine c_region ?_
        refine stepD rfl F rfl (o_eqlF (F.ev rfl) (F.ev rfl) (by omega) ?_); clear F; clear a; intro a F
        refine stepD rfl F rfl (o_assign (F.ev rfl) ?_); clear F; clear a; intro a F
        with_reducible refine l_nil ?_
        with_reducible refine q_then ?_
        refine c_false F rfl rfl ?_
        with_reducible refine c_seq ?_
        with_reducible refine c_region ?_
        refine stepD rfl F rfl (o_eqlT (F.ev rfl) (F.ev rfl) (by omega) ?_); clear F; clear a; intro a F
        refine stepD rfl F rfl (o_assign (F.ev rfl) ?_); clear F; clear a; intro a F
        with_reducible refine l_nil ?_
        with_reducible refine q_then ?_
        refine c_true F rfl rfl ?_
        with_reducible refine c_region ?_
        refine stepD rfl F rfl (o_move (F.ev rfl) ?_); clear F; clear a; intro a F
        refine stepD rfl F rfl (o_move (F.ev rfl) ?_); clear F; clear a; intro a F
        (refine stepD rfl F rfl (o_call (F.ev rfl) (F.evs rfl) (Cal.mono (wtime_c now h0 h1 _ (hTw.later M.ext) (M.heap (.there .here)) ) ?_)); clear F; clear a; have M0 := M; clear M; rintro _ w ⟨rfl, N⟩ a F)
        replace M := M0.turn1 N (.there .here)
        clear M0 N
        have hi2 : IsIn ⟨d, 0, o, -1, 0⟩ := ⟨hd, trivial⟩
        have hi3 : IsIn ⟨d, 0, { o with met := 65535 }, -1, 0⟩ := ⟨hd, trivial⟩
        refine stepD rfl F rfl (o_fieldAddr (F.ev rfl) ?_); clear F; clear a; intro a F
        (refine stepN rfl F (o_store1 M (F.ev rfl) (F.ev rfl) rfl (by repeat (first | exact .here | apply Has.there)) (in_put_nb hi 0) (by repeat (first | exact .here | apply Upd.there)) ?_); clear F; clear M; intro w M a F)
        refine stepD rfl F rfl (o_fieldAddr (F.ev rfl) ?_); clear F; clear a; intro a F
        refine stepD rfl F rfl (o_fieldAddr (F.ev rfl) ?_); clear F; clear a; intro a F
        (refine stepN rfl F (o_store1 M (F.ev rfl) (F.ev rfl) rfl (by repeat (first | exact .here | apply Has.there)) (in_put_own_met hi2 65535) (by repeat (first | exact .here | apply Upd.there)) ?_); clear F; clear M; intro w M a F)
        refine stepD rfl F rfl (o_fieldAddr (F.ev rfl) ?_); clear F; clear a; intro a F
        (refine stepN rfl F (o_store1 M (F.ev rfl) (F.ev rfl) rfl (by repeat (first | exact .here | apply Has.there)) (in_put_til hi3 _) (by repeat (first | exact .here | apply Upd.there)) ?_); clear F; clear M; intro w M a F)
        with_reducible refine l_nil ?_
        with_reducible refine q_inB ?_
        exact ⟨⟨d, 0, { o with met := 65535 }, -1, wtV xs k5 now⟩, _, okR_held hd hdv (wt_time h0 h1), F.only [9, 8, 7, 0, 1, 2] rfl, M⟩
      · with_reducible refine c_block ?_
        with_reducible refine c_seq ?_
        with_reducible refine c_region ?_
        refine stepD rfl F rfl (o_eqlF (F.ev rfl) (F.ev rfl) (by omega) ?_); clear F; clear a; intro a F
        refine stepD rfl F rfl (o_assign (F.ev rfl) ?_); clear F; clear a; intro a F
        with_reducible refine l_nil ?_
        with_reducible refine q_then ?_
        refine c_false F rfl rfl ?_
        with_reducible refine c_seq ?_
        with_reducible refine c_region ?_
        refine stepD rfl F rfl (o_eqlF (F.ev rfl) (F.ev rfl) (by omega) ?_); clear F; clear a; intro a F
        refine stepD rfl F rfl (o_assign (F.ev rfl) ?_); clear F; clear a; intro a F
        with_reducible refine l_nil ?_
        with_reducible refine q_then ?_
        refine c_false F rfl rfl ?_
        with_reducible refine c_skip ?_
        with_reducible refine q_inB ?_
        exact ⟨_, k5, okR_new hd hdv he.1 ho (.inl rfl), F.only [9, 8, 7, 0, 1, 2] rfl, M⟩
    clear F M a w
    rintro a w ⟨y, k6, hy, F, M⟩
    have hol := putG_len (x := y) (done := false) (l := l)
    rw [if_neg (by simp)] at hol
    have g1 := in_all hy.1
    with_reducible refine q_then ?_
    with_reducible refine c_region ?_
    refine stepD rfl F rfl (o_move (F.ev rfl) ?_); clear F; clear a; intro a F
    refine stepD rfl F rfl (o_loadA M (F.ev rfl) (by repeat (first | exact .here | apply Has.there)) (by first | assumption | rfl) ?_); clear F; clear a; intro a F
    (refine stepD rfl F rfl (o_call (F.ev rfl) (F.evs rfl) (Cal.mono (put_c l (fun z hz => (hO.ok z hz).1) y hy.1 (by omega) v _ (hO.at_.laterB hbt M.ext).1 ) ?_)); clear F; clear a; rintro _ w ⟨ent, hO2, N⟩ a F; replace M := M.joins N; clear N)
    have hnd := (M.perm (l' := (bt, tobj p len cap k6) :: (ent ++ [(b9, .cells (inC y).toArray 62 (0, 0))])) (by classical exact List.perm_iff_count.2 fun _ => by simp only [List.count_append, List.count_cons, List.count_nil, Nat.add_zero, Nat.zero_add] <;> ac_rfl)).nd
    have hO3 := (hO2.slN M (fun q hq => by simp [hq]) (nd_not hnd (fun q hq => by simp [hq]))).mono E0.size
    refine stepD rfl F rfl (o_assign (F.ev rfl) ?_); clear F; clear a; intro a F
    with_reducible refine l_nil ?_
    with_reducible refine q_inB ?_
    with_reducible refine q_then ?_
    with_reducible refine c_region ?_
    refine stepD rfl F rfl (o_move (F.ev rfl) ?_); clear F; clear a; intro a F
    refine stepD rfl F rfl (o_sub (F.ev rfl) (F.ev rfl) (w_i64 (by omega) (by omega)) ?_); clear F; clear a; intro a F
    refine stepD rfl F rfl (o_assign (F.ev rfl) ?_); clear F; clear a; intro a F
    with_reducible refine l_nil ?_
    with_reducible refine q_then ?_
    exact ⟨_, by omega, c - 1, _, putG y false l, _, k6, rfl, by omega, by omega, ⟨hO3, fun z hz => (putG_mem hz).elim (fun e => e ▸ hy) (hO.ok z), putG_asc hy.1.1 hO.asc fun z hz => (hO.ok z hz).1.1⟩, F.only [8, 7, 0, 1, 2] rfl, (M.sub (List.sublist_append_of_sublist_right (.cons _ (.refl _)))).un E0⟩
  · with_reducible refine c_seq ?_
    with_reducible refine c_seq ?_
    with_reducible refine c_region ?_
    refine stepD rfl F rfl (o_move (F.ev rfl) ?_); clear F; clear a; intro a F
    refine stepD rfl F rfl (o_gtrF (F.ev rfl) (F.ev rfl) (by omega) ?_); clear F; clear a; intro a F
    with_reducible refine l_nil ?_
    with_reducible refine q_then ?_
    refine c_false F rfl rfl ?_
    with_reducible refine c_exit ?_
    with_reducible refine q_thenX ?_
    with_reducible refine q_thenX ?_
    with_reducible refine q_inBX ?_
    with_reducible refine q_then ?_
    with_reducible refine c_seq ?_
    with_reducible refine c_region ?_
    refine stepD rfl F rfl (o_move (F.ev rfl) ?_); clear F; clear a; intro a F
    refine stepD rfl F rfl (o_assign (F.ev rfl) ?_); clear F; clear a; intro a F
    with_reducible refine l_nil ?_
    with_reducible refine q_then ?_
    with_reducible refine c_ret ?_
    refine p_ret F rfl (.cons (.tmp (F.ev rfl)) .nil) ?_
    exact ⟨l, kk, hO, by omega, M⟩
end Go.Proofs.Ytilgoepokaaleaa
/-! ZH -/
namespace Go.Proofs.Ytilgoepokaaleaa
set_option linter.unusedVariables false
set_option linter.unusedSimpArgs false
open Go.RowKit
def k5 : OptV := ⟨5, 300⟩
section
variable {t : DstV} {d : DisV} {now til : Int}
end
end Go.Proofs.Ytilgoepokaaleaa
/-! ZL -/
namespace Go.Proofs.Ytilgoepokaaleaa
set_option linter.unusedVariables false
set_option linter.unusedSimpArgs false
open Go.RowKit
attribute [local irreducible] OpTo wpListIn Code.wpIn MW Cal
theorem insR_valid {n0 : Nat} {w : World} {v : Value} {l : List InsV} (h : InsR n0 w v l) (hl : l.length ≤ 7) : validIs l = true := by
  refine validIs_iff.2 ⟨by omega, fun a ha => (h.ok a ha).2, h.asc⟩
theorem Mem.pastR {S : List Nat} {W0 w w' : World} {l : List (Nat × Obj)} {b : Nat} (M : Mem S W0 w l) (E : Ext [b] w w') (hb : ∀ p ∈ l, p.1 ≠ b) (ho : b ∈ S ∨ W0.heap.size ≤ b) : Mem S W0 w' l :=
  ⟨⟨E.os.trans M.ext.os, E.tape.trans M.ext.tape, E.output.trans M.ext.output, Nat.le_trans M.ext.size E.size, Nat.le_trans M.ext.dr E.dr, fun k hk hs => by
    rw [E.block k (Nat.lt_of_lt_of_le hk M.ext.size) (by
      simp only [List.mem_singleton]
      rintro rfl
      rcases ho with h | h
      · exact hs h
      · omega)]
    exact M.ext.block k hk hs⟩, fun p hp => by rw [E.block p.1 (M.lt hp) (by simpa using hb p hp)]; exact M.at_ p hp, M.nd, M.own⟩
theorem Mem.reR {S : List Nat} {W w : World} {l : List (Nat × Obj)} (M : Mem S W w l) (S' : List Nat) (h : ∀ p ∈ l, p.1 ∈ S') : Mem S' w w l := ⟨Ext.refl _ _, M.at_, M.nd, fun p hp => .inl (h p hp)⟩
theorem Mem.unR {S : List Nat} {W w1 w : World} {l : List (Nat × Obj)} (M : Mem S w1 w l) (E : Ext [] W w1) (hS : ∀ b ∈ S, W.heap.size ≤ b) : Mem [] W w l :=
  ⟨(E.any.trans M.ext).fresh fun k hk => .inr (hS k hk), M.at_, M.nd, fun p hp => .inr ((M.own p hp).elim (hS _) fun h => Nat.le_trans E.size h)⟩
theorem look_is {l : List InsV} {src dst : List Int} {mark : DstV} {marked : Bool} (hx : ∀ x ∈ l, IsIn x) : IsIn (lookV l src dst mark marked).1 := by
  unfold lookV
  split
  · exact in0_is
  · have hn : ∀ x ∈ nearL l src dst, IsIn x := nearL_sub hx
    generalize nearL l src dst = near at *
    unfold lookN
    cases near with
    | nil => exact in0_is
    | cons y ys =>
      dsimp only
      split
      · exact in0_is
      · split
        · exact in0_is
        · rename_i c hc
          have hci : IsIn c := by
            split at hc
            · exact hn c (List.mem_of_find?_eq_some hc)
            · cases hc
              exact cheap_p (p := IsIn) hn (hn y (by simp))
          split
          · exact in0_is
          · exact hci
theorem validT_parts {t : DstV} (h : validT t = true) : validP t.dip t.dbits = true ∧ validP t.sip t.sbits = true := by
  unfold validT at h
  simp only [Bool.and_eq_true] at h
  exact ⟨h.1.1, h.1.2⟩
set_option maxHeartbeats 16000000 in
theorem narrowsL_c (pt : Option Addr) (cap : Nat) (xs0 : List Int) (W : World) (hI : IntsAt W (.slice pt xs0.length cap) xs0) (hcap : xs0.length ≤ cap) :
    Cal Try.prog 7 [.slice pt xs0.length cap].toArray W fun v w' => v = .bool true ∧ Ext [] W w' := by
  have hmem : 0 < xs0.length → ∃ b o cs t fz, pt = some ⟨b, o, none⟩ ∧ W.heap[b]? = some (.cells cs t fz) ∧ seg cs.toList o xs0.length = some (i64C xs0) := fun hl => by
    obtain ⟨p', cap', h1, _, h3⟩ := hI.ex
    cases h1
    exact h3 hl
  refine fn_ofM (n := 117) [] Try.func7 rfl rfl rfl ?_
  intro a w F M hwW
  with_reducible refine c_seq ?_
  with_reducible refine c_region ?_
  refine stepD rfl F rfl (o_assign (F.ev rfl) ?_); clear F; clear a; intro a F
  with_reducible refine l_nil ?_
  with_reducible refine q_then ?_
  with_reducible refine c_seq ?_
  with_reducible refine c_region ?_
  refine stepD rfl F rfl (o_move (F.ev rfl) ?_); clear F; clear a; intro a F
  (refine stepD rfl F rfl (o_call (F.ev rfl) (F.evs rfl) (Cal.mono (new_c xs0 _ (hI.later M.ext) hcap ) ?_)); clear F; clear a; rintro _ w ⟨bt, rfl, N⟩ a F; replace M := M.joins N; clear N)
  have hbt : W.heap.size ≤ bt := (M.own _ List.mem_cons_self).resolve_left (by simp)
  have hT : TapeS W bt pt (cut400 xs0).length (cut400 xs0) := tape_new (Ext.refl [] W) hbt hI.bd hmem
  generalize hxs : cut400 xs0 = xs at *
  generalize hlen : xs.length = len at *
  clear hxs hI hmem hcap
  simp only [List.cons_append, List.nil_append] at M
  refine stepD rfl F rfl (o_assign (F.ev rfl) ?_); clear F; clear a; intro a F
  with_reducible refine l_nil ?_
  with_reducible refine q_then ?_
  with_reducible refine c_seq ?_
  with_reducible refine c_region ?_
  refine stepD rfl F rfl (o_move (F.ev rfl) ?_); clear F; clear a; intro a F
  have hbw := M.lt List.mem_cons_self
  (refine stepD rfl F rfl (o_call (F.ev rfl) (F.evs rfl) (Cal.mono (installedR_c 100 (by omega) (by omega) _ (hT.later M.ext.any) (M.heap .here) ) ?_)); clear F; clear a; have M0 := M; clear M; rintro _ w ⟨l, k1, hO, hl7, N⟩ a F)
  replace M := M0.turn1 N .here
  clear M0 N
  obtain ⟨pl, cl, rfl, _⟩ := id hO.at_.1
  have hV := insR_valid hO hl7
  have hnI : ∀ x ∈ l, IsIn x := fun x hx => (hO.ok x hx).1
  have E0 := M.ext
  obtain ⟨wb, hwb, M⟩ : ∃ wb, wb = w ∧ Mem [bt] wb w [(bt, tobj pt len cap k1)] := ⟨w, rfl, M.reR [bt] (by simp)⟩
  rw [← hwb] at E0 hO
  clear hwb
  have hTw := hT.later E0.any
  have hIn : ∀ w', Ext [bt] wb w' → SlAt w' 40 (.slice pl l.length cl) l.length (insC l) := fun w' E => (hO.at_.laterB hbw E).1
  have hS0 : ∀ b ∈ [bt], W.heap.size ≤ b := fun b hb => by simp at hb; rw [hb]; exact hbt
  clear hT hO
  refine stepD rfl F rfl (o_assign (F.ev rfl) ?_); clear F; clear a; intro a F
  with_reducible refine l_nil ?_
  with_reducible refine q_then ?_
  with_reducible refine c_seq ?_
  with_reducible refine c_region ?_
  refine stepD rfl F rfl (o_move (F.ev rfl) ?_); clear F; clear a; intro a F
  (refine stepD rfl F rfl (o_call (F.ev rfl) (F.evs rfl) (Cal.mono (toE_c _ (hTw.later M.ext) (M.heap .here) ) ?_)); clear F; clear a; have M0 := M; clear M; rintro _ w ⟨mark0, k2, rfl, hm0, hv0, N⟩ a F)
  replace M := M0.turn1 N .here
  clear M0 N
  unfold dvV at F
  skip
  (refine stepD rfl F rfl (o_alloc M ?_); clear F; clear M; intro b5 w M a F)
  (refine stepN rfl F (o_storeA M (F.ev rfl) (F.ev rfl) (dv_len hm0) (dv_one _)  (by repeat (first | exact .here | apply Has.there))  (put_all (by rw [dv_len hm0]; rfl)) (by repeat (first | exact .here | apply Upd.there)) ?_); clear F; clear M; intro w M a F)
  refine l_nil ?_
  refine q_then ?_
  refine c_seq ?_
  refine c_cut (fun a w => ∃ (mark : DstV) (k : Nat), IsDv mark ∧ validT mark = true ∧ Frm a 117 [] [(3, .pointer (some ⟨bt, 0, none⟩)), (4, .slice pl l.length cl), (5, .pointer (some ⟨b5, 0, none⟩))] ∧ Mem [bt] wb w [(b5, Obj.cells (dvC mark).toArray 47 (0, 0)), (bt, tobj pt len cap k)]) ?_ ?_
  · by_cases hl0 : 0 < l.length
    · with_reducible refine c_seq ?_
      with_reducible refine c_region ?_
      refine stepD rfl F rfl (o_move (F.ev rfl) ?_); clear F; clear a; intro a F
      refine stepD rfl F rfl (o_lenSl (F.ev rfl) ?_); clear F; clear a; intro a F
      refine stepD rfl F rfl (o_gtrT (F.ev rfl) (F.ev rfl) (by omega) ?_); clear F; clear a; intro a F
      refine stepD rfl F rfl (o_move (F.ev rfl) ?_); clear F; clear a; intro a F
      refine stepG rfl F rfl rfl rfl (o_move (F.ev rfl) ?_); clear F; clear a; intro a F
      (refine stepG rfl F rfl rfl rfl (o_call (F.ev rfl) (F.evs rfl) (Cal.mono (boolE_c 3 (by omega) (by omega) _ (hTw.later M.ext) (M.heap (.there .here))) ?_)); clear F; clear a; have M0 := M; clear M; rintro _ w ⟨c, k3, rfl, N⟩ a F)
      replace M := M0.turn1 N (.there .here)
      clear M0 N
      cases c
      · refine stepG rfl F rfl rfl rfl (o_not (F.ev rfl) ?_); clear F; clear a; intro a F
        refine stepD rfl F rfl (o_pickT (F.ev rfl) (F.ev rfl) ?_); clear F; clear a; intro a F
        with_reducible refine l_nil ?_
        with_reducible refine q_then ?_
        refine c_true F rfl rfl ?_
        with_reducible refine c_region ?_
        refine stepD rfl F rfl (o_move (F.ev rfl) ?_); clear F; clear a; intro a F
        refine stepD rfl F rfl (o_move (F.ev rfl) ?_); clear F; clear a; intro a F
        refine stepD rfl F rfl (o_move (F.ev rfl) ?_); clear F; clear a; intro a F
        refine stepD rfl F rfl (o_lenSl (F.ev rfl) ?_); clear F; clear a; intro a F
        (refine stepD rfl F rfl (o_call (F.ev rfl) (F.evs rfl) (Cal.mono (nextE_c l.length (by omega) (by omega) _ (hTw.later M.ext) (M.heap (.there .here)) ) ?_)); clear F; clear a; have M0 := M; clear M; rintro _ w ⟨q, k4, rfl, hq, N⟩ a F)
        replace M := M0.turn1 N (.there .here)
        clear M0 N
        obtain ⟨qn, rfl⟩ := Int.eq_ofNat_of_zero_le hq.1
        have hqn : qn < l.length := by omega
        obtain ⟨q0, cap0, hv0, _, _, _, hm1⟩ := hIn _ M.ext
        cases hv0
        obtain ⟨b, o, cs, t, fz, rfl, hb, hsg⟩ := hm1 (by omega)
        have hqi := hnI _ (List.getElem_mem hqn)
        have f1 : seg cs (o + (qn : Int).toNat * 40) 40 = some (inC l[qn]) := seg_el (ins_len hnI) hsg hqn (by omega)
        have f2 : seg cs (o + (qn : Int).toNat * 40 + 0) 35 = some (dvC l[qn].to) := sg_seg f1 (in_to hqi) (by omega)
        have hqv : validT l[qn].to = true := by
          have := (validIs_iff.1 hV).2.1 _ (List.getElem_mem hqn)
          unfold ins1 at this
          simp only [Bool.and_eq_true] at this
          exact this.1
        refine stepD rfl F rfl (o_indexSl (F.ev rfl) (F.ev rfl) (by omega) (by omega) ?_); clear F; clear a; intro a F
        refine stepD rfl F rfl (o_fieldAddr (F.ev rfl) ?_); clear F; clear a; intro a F
        (refine stepD rfl F rfl (o_loadHA (F.ev rfl) hb f2 ?_); clear F; clear a; intro a F)
        (refine stepN rfl F (o_storeA M (F.ev rfl) (F.ev rfl) (dv_len hqi.1) (dv_one _)  (by repeat (first | exact .here | apply Has.there))  (put_all (by rw [dv_len hm0, dv_len hqi.1])) (by repeat (first | exact .here | apply Upd.there)) ?_); clear F; clear M; intro w M a F)
        with_reducible refine l_nil ?_
        exact ⟨_, k4, hqi.1, hqv, F.only [3, 4, 5] rfl, M⟩
      · refine stepG rfl F rfl rfl rfl (o_not (F.ev rfl) ?_); clear F; clear a; intro a F
        refine stepD rfl F rfl (o_pickT (F.ev rfl) (F.ev rfl) ?_); clear F; clear a; intro a F
        with_reducible refine l_nil ?_
        with_reducible refine q_then ?_
        refine c_false F rfl rfl ?_
        with_reducible refine c_skip ?_
        exact ⟨mark0, k3, hm0, hv0, F.only [3, 4, 5] rfl, M⟩
    · with_reducible refine c_seq ?_
      with_reducible refine c_region ?_
      refine stepD rfl F rfl (o_move (F.ev rfl) ?_); clear F; clear a; intro a F
      refine stepD rfl F rfl (o_lenSl (F.ev rfl) ?_); clear F; clear a; intro a F
      refine stepD rfl F rfl (o_gtrF (F.ev rfl) (F.ev rfl) (by omega) ?_); clear F; clear a; intro a F
      refine stepD rfl F rfl (o_move (F.ev rfl) ?_); clear F; clear a; intro a F
      refine stepOff F rfl rfl rfl rfl ?_; clear F; clear a; intro a F
      refine stepOff F rfl rfl rfl rfl ?_; clear F; clear a; intro a F
      refine stepOff F rfl rfl rfl rfl ?_; clear F; clear a; intro a F
      refine stepD rfl F rfl (o_pickF (F.ev rfl) (F.ev rfl) ?_); clear F; clear a; intro a F
      with_reducible refine l_nil ?_
      with_reducible refine q_then ?_
      refine c_false F rfl rfl ?_
      with_reducible refine c_skip ?_
      exact ⟨mark0, k2, hm0, hv0, F.only [3, 4, 5] rfl, M⟩
  clear F M a hm0 hv0
  rintro a w ⟨mark, k2, hmk, hvm, F, M⟩
  refine q_then ?_
  refine c_seq ?_
  replace M : Mem [bt] wb w ([(bt, tobj pt len cap k2)] ++ [(b5, Obj.cells (dvC mark).toArray 47 (0, 0))]) := M.perm (List.Perm.swap _ _ _)
  have hblt : ∀ j ∈ [bt], j < w.heap.size := fun j hj => by simp at hj; subst hj; exact M.lt List.mem_cons_self
  have hws : wb.heap.size ≤ w.heap.size := M.ext.size
  have g0 := dv_dip hmk
  refine c_drawX (keepSh w.heap.size [bt]) [1, 7] [5] [] (fun _ w' => Mem [bt] wb w' ([(bt, tobj pt len cap k2)] ++ [(b5, Obj.cells (dvC mark).toArray 47 (0, 0))])) 8 F (by kernel_rfl) (fun _ _ _ h k => Mem.later h k) (fun _ _ _ _ _ h => h) (fun _ d hd => M.later (Ext.drawn w d hd)) ?_
  intro w1 hE hsz hok
  have M1 := M.later hE
  have hB : ∀ k ∈ [bt], k ∈ ([(bt, tobj pt len cap k2)] : List (Nat × Obj)).map (·.1) := by simp
  have hM : ∀ w', Sh w.heap.size [bt] w1 w' → Mem [bt] wb w' [(b5, Obj.cells (dvC mark).toArray 47 (0, 0))] := fun w' h => M1.laterBut (Sh.ext (by rw [hsz]; exact h)) hB
  refine mK hok rfl rfl (fun a' w' F' E' => o_move (F'.ev rfl) ⟨Ext.refl _ _, rfl⟩) ?_
  obtain ⟨ip, hip0⟩ : ∃ ip, ip = wipV xs k2 := ⟨_, rfl⟩
  have hip : IsIP ip := by rw [hip0]; exact wipV_is xs k2
  have ip1 := ipC_len hip.len
  refine xE (v := .agg (ipC ip).toArray) (T' := fun _ w => Mem [bt] wb w ([(bt, tobj pt len cap (wipK xs k2))] ++ [(b5, Obj.cells (dvC mark).toArray 47 (0, 0))])) hok rfl rfl (fun _ _ _ h k => Mem.later h k) (fun _ _ _ _ _ _ h => h) (fun a' w' σ' F' E' T' => o_call (F'.ev rfl) (F'.evs rfl) (Cal.mono (wipD_c w' (hTw.later T'.ext) (T'.heap .here)) fun _ _ hh => ⟨Sh.of_extB hh.2.ext hblt, by rw [hip0]; exact hh.1, Mem.turn1 T' hh.2 .here⟩)) ?_
  refine mK hok rfl rfl (fun a' w' F' E' => o_fieldAddr (F'.ev rfl) ⟨Ext.refl _ _, rfl⟩) ?_
  refine mK hok rfl rfl (fun a' w' F' E' => o_fieldAddr (F'.ev rfl) ⟨Ext.refl _ _, rfl⟩) ?_
  refine mK hok rfl rfl (fun a' w' F' E' => o_loadA (hM _ E') (F'.ev rfl) (by repeat (first | exact .here | apply Has.there)) (by first | assumption | rfl) ⟨Ext.refl _ _, rfl⟩) ?_
  refine xAl hok rfl rfl (by dsimp only; rw [hsz]; exact AlS.stays _ _ _ _) (fun w => Ext.alloc w _) (fun a' w' F' E' => run_al) ?_
  refine xAl hok rfl rfl (by dsimp only; rw [hsz]; exact AlS.stays _ _ _ _) (fun w => Ext.alloc w _) (fun a' w' F' E' => run_al) ?_
  have hlow : ∀ q ∈ ([(bt, tobj pt len cap (wipK xs k2))] ++ [(b5, Obj.cells (dvC mark).toArray 47 (0, 0))] : List (Nat × Obj)), q.1 < w.heap.size := fun q hq => by
    rcases List.mem_cons.1 hq with rfl | hq
    · exact hblt bt (by simp)
    · rw [← hsz]; exact M1.lt (List.mem_cons_of_mem _ hq)
  refine xEN (T' := fun σ w' => ∃ b, σ 5 = ptrTo b ∧ w.heap.size ≤ b ∧ Mem [bt] wb w' ((b, .cells (ipC ip).toArray 41 (0, 0)) :: ([(bt, tobj pt len cap (wipK xs k2))] ++ [(b5, Obj.cells (dvC mark).toArray 47 (0, 0))]))) hok rfl (fun σ w1 w2 ⟨b, h1, h2, h3⟩ k => ⟨b, h1, h2, h3.later k⟩) (fun x hx hk => by simp at hx; omega) (fun a' w' σ' F' E' D' S' R' T' => by
      obtain ⟨b, cs0, hb1, hb2, hb3, hb4⟩ := D' 5 (memDep rfl) _ rfl
      dsimp only at hb2
      rw [hsz] at hb2
      have e5 := S' 5 (.inr (.head _)) (memDep rfl)
      have hne : ∀ q ∈ ([(bt, tobj pt len cap (wipK xs k2))] ++ [(b5, Obj.cells (dvC mark).toArray 47 (0, 0))] : List (Nat × Obj)), q.1 ≠ b := fun q hq e => by have := hlow q hq; omega
      refine (o_storeP (cs := cs0.toList) (cs' := ipC ip) hb1 (F'.ev rfl) ip1 (one_ip _) (by simpa using hb3) (put_all (by simp [hb4, ip1]))).mono fun _ w'' ⟨q1, q2⟩ => ⟨Sh.of_new q1 hb2 hb3 q2 (by simp [hb4, ip1]), b, ?_, hb2, ?_⟩
      · exact (show (updS σ' 7 undef) 5 = σ' 5 from if_neg (by omega)).trans (e5.trans hb1)
      · exact (Mem.pastR T' q1 hne (.inr (Nat.le_trans hws hb2))).cons q2 hne (.inr (Nat.le_trans hws hb2))) ?_
  refine xDone rfl ?_
  clear F M
  intro a w' F hE2 hX hTT hDD hRel
  obtain ⟨b6, t5, g6, M⟩ := hTT
  obtain ⟨b7, cs7', e7, g7, q7, l7⟩ := hX 6 _ rfl
  obtain ⟨cs7, rfl⟩ : ∃ c : List Value, cs7' = c.toArray := ⟨cs7'.toList, by simp⟩
  have k6 : a.tmps.getD 6 undef = ptrTo b6 := t5
  have k7 : a.tmps.getD 7 undef = ptrTo b7 := e7
  dsimp only at g7
  rw [hsz] at g7
  have h67 : b6 ≠ b7 := fun e => hDD 5 6 _ _ (Nat.le_of_ble_eq_true rfl) (Nat.le_of_ble_eq_true rfl) (by decide) rfl rfl rfl rfl (k6.trans ((congrArg ptrTo e).trans k7.symm))
  replace M := M.cons q7 (fun q hq e => by
    rcases List.mem_cons.1 hq with rfl | hq
    · exact h67 e
    · have := hlow q hq; omega) (.inr (Nat.le_trans hws g7))
  replace F := (F.know k6).know k7
  dsimp only [ptrTo] at F
  have l7' : cs7.length = 16 := by simpa using l7
  clear k6 k7 t5 e7 hX hDD hRel hM hB hE2 hE hok hlow hblt g6 g7 q7 l7 M1 h67 hws
  generalize wipK xs k2 = k3 at *
  clear hip0 hsz
  simp only [List.cons_append, List.nil_append] at M
  have sip1 := ipC_len hmk.1.len
  (refine stepN rfl F (o_storeA M (F.ev rfl) (F.ev rfl) (sip1) (one_ip _)  (by repeat (first | exact .here | apply Has.there))  (put_all (by rw [sip1, l7'])) (by repeat (first | exact .here | apply Upd.there)) ?_); clear F; clear M; intro w M a F)
  have hvp := validT_parts hvm
  refine l_nil ?_
  dsimp only
  refine q_then ?_
  refine c_seq ?_
  refine c_cut (fun a w => ∃ src : List Int, IsIP src ∧ containsP mark.sip mark.sbits src = true ∧ Frm a 117 [] [(4, .slice pl l.length cl), (5, .pointer (some ⟨b5, 0, none⟩)), (6, .pointer (some ⟨b6, 0, none⟩)), (7, .pointer (some ⟨b7, 0, none⟩))] ∧ Mem [bt] wb w [(b7, .cells (ipC mark.dip).toArray 41 (0, 0)), (b6, .cells (ipC src).toArray 41 (0, 0)), (bt, tobj pt len cap k3), (b5, .cells (dvC mark).toArray 47 (0, 0))]) ?_ ?_
  · have d1 := dv_src hmk
    have d2 := dv_sip hmk
    have d3 := seg_all ip1
    with_reducible refine c_seq ?_
    with_reducible refine c_region ?_
    refine stepD rfl F rfl (o_fieldAddr (F.ev rfl) ?_); clear F; clear a; intro a F
    refine stepD rfl F rfl (o_loadA M (F.ev rfl) (by repeat (first | exact .here | apply Has.there)) (by first | assumption | rfl) ?_); clear F; clear a; intro a F
    refine stepD rfl F rfl (o_loadA M (F.ev rfl) (by repeat (first | exact .here | apply Has.there)) (by first | assumption | rfl) ?_); clear F; clear a; intro a F
    (refine stepD rfl F rfl (o_call (F.ev rfl) (F.evs rfl) (Cal.mono (rcontains_c mark.sip mark.sbits hmk.2 ip hip _) ?_)); clear F; clear a; rintro _ w ⟨rfl, hE⟩ a F; replace M := M.later hE; clear hE)
    cases c1 : containsP mark.sip mark.sbits ip
    · rw [c1] at F
      refine stepD rfl F rfl (o_not (F.ev rfl) ?_); clear F; clear a; intro a F
      with_reducible refine l_nil ?_
      with_reducible refine q_then ?_
      refine c_true F rfl rfl ?_
      with_reducible refine c_region ?_
      refine stepD rfl F rfl (o_fieldAddr (F.ev rfl) ?_); clear F; clear a; intro a F
      refine stepD rfl F rfl (o_fieldAddr (F.ev rfl) ?_); clear F; clear a; intro a F
      refine stepD rfl F rfl (o_loadA M (F.ev rfl) (by repeat (first | exact .here | apply Has.there)) (by first | assumption | rfl) ?_); clear F; clear a; intro a F
      (refine stepN rfl F (o_storeA M (F.ev rfl) (F.ev rfl) (ipC_len hmk.2.len) (one_ip _)  (by repeat (first | exact .here | apply Has.there))  (put_all (by rw [ipC_len hmk.2.len, ip1])) (by repeat (first | exact .here | apply Upd.there)) ?_); clear F; clear M; intro w M a F)
      with_reducible refine l_nil ?_
      exact ⟨mark.sip, hmk.2, cont_self hvp.2, F.only [4, 5, 6, 7] rfl, M⟩
    · rw [c1] at F
      refine stepD rfl F rfl (o_not (F.ev rfl) ?_); clear F; clear a; intro a F
      with_reducible refine l_nil ?_
      with_reducible refine q_then ?_
      refine c_false F rfl rfl ?_
      with_reducible refine c_skip ?_
      exact ⟨ip, hip, c1, F.only [4, 5, 6, 7] rfl, M⟩
  clear F M a hip ip1 l7' g0 cs7
  rintro a w ⟨src, hsi, hcs, F, M⟩
  have hcd : containsP mark.dip mark.dbits mark.dip = true := cont_self hvp.1
  have s1 : seg (ipC src) 0 16 = some (ipC src) := seg_all (ipC_len hsi.len)
  have s2 : seg (ipC mark.dip) 0 16 = some (ipC mark.dip) := seg_all (ipC_len hmk.1.len)
  have s3 := dv_all hmk
  refine q_then ?_
  with_reducible refine c_seq ?_
  with_reducible refine c_region ?_
  refine stepD rfl F rfl (o_move (F.ev rfl) ?_); clear F; clear a; intro a F
  refine stepD rfl F rfl (o_loadA M (F.ev rfl) (by repeat (first | exact .here | apply Has.there)) (by first | assumption | rfl) ?_); clear F; clear a; intro a F
  refine stepD rfl F rfl (o_loadA M (F.ev rfl) (by repeat (first | exact .here | apply Has.there)) (by first | assumption | rfl) ?_); clear F; clear a; intro a F
  refine stepD rfl F rfl (o_loadA M (F.ev rfl) (by repeat (first | exact .here | apply Has.there)) (by first | assumption | rfl) ?_); clear F; clear a; intro a F
  (refine stepD rfl F rfl (o_call (F.ev rfl) (F.evs rfl) (Cal.mono (lookup_c l hnI _ src mark.dip hsi hmk.1 mark hmk true _ (hIn _ M.ext)) ?_)); clear F; clear a; rintro _ w ⟨rfl, hE⟩ a F; replace M := M.later hE; clear hE)
  have hN := narrow hV hvm hcd hcs
  have hqi : IsIn (lookV l src mark.dip mark true).1 := look_is hnI
  obtain ⟨q, hq⟩ : ∃ q, q = lookV l src mark.dip mark true := ⟨_, rfl⟩
  rw [← hq] at F hN hqi
  clear hq
  obtain ⟨x, e⟩ := q
  dsimp only at F hN hqi
  have x1 := in_len hqi
  refine stepD rfl F rfl (o_move (F.ev rfl) ?_); clear F; clear a; intro a F
  refine stepD rfl F rfl (o_extract (F.ev rfl) rfl ?_); clear F; clear a; intro a F
  refine stepD rfl F rfl (o_extract (F.ev rfl) rfl ?_); clear F; clear a; intro a F
  (refine stepD rfl F rfl (o_alloc M ?_); clear F; clear M; intro b8 w M a F)
  (refine stepN rfl F (o_storeA M (F.ev rfl) (F.ev rfl) (x1) (in_one _)  (by repeat (first | exact .here | apply Has.there))  (put_all (by rw [x1]; rfl)) (by repeat (first | exact .here | apply Upd.there)) ?_); clear F; clear M; intro w M a F)
  rcases hN with (rfl | rfl) | ⟨rfl, x', rfl, hxm, hxn, hxe, hxa, hnb, hxl⟩
  · refine stepD rfl F rfl (o_assign (F.ev rfl) ?_); clear F; clear a; intro a F
    with_reducible refine l_nil ?_
    with_reducible refine q_then ?_
    with_reducible refine c_seq ?_
    with_reducible refine c_seq ?_
    with_reducible refine c_region ?_
    refine stepD rfl F rfl (o_move (F.ev rfl) ?_); clear F; clear a; intro a F
    refine stepD rfl F rfl (o_neqT (F.ev rfl) (F.ev rfl) (by omega) ?_); clear F; clear a; intro a F
    with_reducible refine l_nil ?_
    with_reducible refine q_then ?_
    refine c_true F rfl rfl ?_
    with_reducible refine c_seq ?_
    with_reducible refine c_region ?_
    refine stepD rfl F rfl (o_move (F.ev rfl) ?_); clear F; clear a; intro a F
    refine stepD rfl F rfl (o_eqlT (F.ev rfl) (F.ev rfl) (by omega) ?_); clear F; clear a; intro a F
    refine stepD rfl F rfl (o_move (F.ev rfl) ?_); clear F; clear a; intro a F
    refine stepOff F rfl rfl rfl rfl ?_; clear F; clear a; intro a F
    refine stepOff F rfl rfl rfl rfl ?_; clear F; clear a; intro a F
    refine stepD rfl F rfl (o_pickT (F.ev rfl) (F.ev rfl) ?_); clear F; clear a; intro a F
    refine stepD rfl F rfl (o_move (F.ev rfl) ?_); clear F; clear a; intro a F
    (refine stepG rfl F rfl rfl rfl (o_call (F.ev rfl) (F.evs rfl) (Cal.mono (known27_c _) ?_)); clear F; clear a; rintro _ w ⟨rfl, hE⟩ a F; replace M := M.later hE; clear hE)
    refine stepD rfl F rfl (o_pickT (F.ev rfl) (F.ev rfl) ?_); clear F; clear a; intro a F
    refine stepD rfl F rfl (o_assign (F.ev rfl) ?_); clear F; clear a; intro a F
    with_reducible refine l_nil ?_
    with_reducible refine q_then ?_
    with_reducible refine c_ret ?_
    with_reducible refine q_thenR ?_
    refine p_ret F rfl (.cons (.tmp (F.ev rfl)) .nil) ?_
    exact ⟨rfl, (M.unR E0 hS0).ext⟩
  · refine stepD rfl F rfl (o_assign (F.ev rfl) ?_); clear F; clear a; intro a F
    with_reducible refine l_nil ?_
    with_reducible refine q_then ?_
    with_reducible refine c_seq ?_
    with_reducible refine c_seq ?_
    with_reducible refine c_region ?_
    refine stepD rfl F rfl (o_move (F.ev rfl) ?_); clear F; clear a; intro a F
    refine stepD rfl F rfl (o_neqT (F.ev rfl) (F.ev rfl) (by omega) ?_); clear F; clear a; intro a F
    with_reducible refine l_nil ?_
    with_reducible refine q_then ?_
    refine c_true F rfl rfl ?_
    with_reducible refine c_seq ?_
    with_reducible refine c_region ?_
    refine stepD rfl F rfl (o_move (F.ev rfl) ?_); clear F; clear a; intro a F
    refine stepD rfl F rfl (o_eqlF (F.ev rfl) (F.ev rfl) (by omega) ?_); clear F; clear a; intro a F
    refine stepD rfl F rfl (o_move (F.ev rfl) ?_); clear F; clear a; intro a F
    refine stepG rfl F rfl rfl rfl (o_move (F.ev rfl) ?_); clear F; clear a; intro a F
    refine stepG rfl F rfl rfl rfl (o_eqlT (F.ev rfl) (F.ev rfl) (by omega) ?_); clear F; clear a; intro a F
    refine stepD rfl F rfl (o_pickF (F.ev rfl) (F.ev rfl) ?_); clear F; clear a; intro a F
    refine stepD rfl F rfl (o_move (F.ev rfl) ?_); clear F; clear a; intro a F
    (refine stepG rfl F rfl rfl rfl (o_call (F.ev rfl) (F.evs rfl) (Cal.mono (known27_c _) ?_)); clear F; clear a; rintro _ w ⟨rfl, hE⟩ a F; replace M := M.later hE; clear hE)
    refine stepD rfl F rfl (o_pickT (F.ev rfl) (F.ev rfl) ?_); clear F; clear a; intro a F
    refine stepD rfl F rfl (o_assign (F.ev rfl) ?_); clear F; clear a; intro a F
    with_reducible refine l_nil ?_
    with_reducible refine q_then ?_
    with_reducible refine c_ret ?_
    with_reducible refine q_thenR ?_
    refine p_ret F rfl (.cons (.tmp (F.ev rfl)) .nil) ?_
    exact ⟨rfl, (M.unR E0 hS0).ext⟩
  have x2 := in_to hqi
  have x3 := in_all hqi
  have x4 : eqVs (dvC x'.to) (dvC x'.to) = true := by rw [dv_eq hqi.1 hqi.1]; simp
  have x5 := dv_fits hqi.1
  refine stepD rfl F rfl (o_assign (F.ev rfl) ?_); clear F; clear a; intro a F
  with_reducible refine l_nil ?_
  with_reducible refine q_then ?_
  with_reducible refine c_seq ?_
  with_reducible refine c_seq ?_
  with_reducible refine c_region ?_
  refine stepD rfl F rfl (o_move (F.ev rfl) ?_); clear F; clear a; intro a F
  refine stepD rfl F rfl (o_neqF (F.ev rfl) (F.ev rfl) (by omega) ?_); clear F; clear a; intro a F
  with_reducible refine l_nil ?_
  with_reducible refine q_then ?_
  refine c_false F rfl rfl ?_
  with_reducible refine c_skip ?_
  refine q_then ?_
  refine c_seq ?_
  refine c_cut (fun a w => Frm a 117 [] [(4, .slice pl l.length cl), (6, .pointer (some ⟨b6, 0, none⟩)), (7, .pointer (some ⟨b7, 0, none⟩)), (8, .pointer (some ⟨b8, 0, none⟩))] ∧ Mem [bt] wb w [(b8, .cells (inC x').toArray 62 (0, 0)), (b7, .cells (ipC mark.dip).toArray 41 (0, 0)), (b6, .cells (ipC src).toArray 41 (0, 0)), (bt, tobj pt len cap k3), (b5, .cells (dvC mark).toArray 47 (0, 0))]) ?_ ?_
  · by_cases k0 : nearC x'.to mark = 0
    · have k1 := hxe k0
      subst k1
      with_reducible refine c_seq ?_
      with_reducible refine c_region ?_
      refine stepD rfl F rfl (o_fieldAddr (F.ev rfl) ?_); clear F; clear a; intro a F
      refine stepD rfl F rfl (o_loadA M (F.ev rfl) (by repeat (first | exact .here | apply Has.there)) (by first | assumption | rfl) ?_); clear F; clear a; intro a F
      refine stepD rfl F rfl (o_loadA M (F.ev rfl) (by repeat (first | exact .here | apply Has.there)) (by first | assumption | rfl) ?_); clear F; clear a; intro a F
      refine stepD rfl F rfl (o_loadA M (F.ev rfl) (by repeat (first | exact .here | apply Has.there)) (by first | assumption | rfl) ?_); clear F; clear a; intro a F
      (refine stepD rfl F rfl (o_call (F.ev rfl) (F.evs rfl) (Cal.mono (matches_c x'.to hqi.1 src x'.to.dip hsi hmk.1 _) ?_)); clear F; clear a; rintro _ w ⟨rfl, hE⟩ a F; replace M := M.later hE; clear hE)
      rw [hxm] at F
      refine stepD rfl F rfl (o_not (F.ev rfl) ?_); clear F; clear a; intro a F
      refine stepD rfl F rfl (o_move (F.ev rfl) ?_); clear F; clear a; intro a F
      refine stepG rfl F rfl rfl rfl (o_fieldAddr (F.ev rfl) ?_); clear F; clear a; intro a F
      refine stepG rfl F rfl rfl rfl (o_loadA M (F.ev rfl) (by repeat (first | exact .here | apply Has.there)) (by first | assumption | rfl) ?_); clear F; clear a; intro a F
      refine stepG rfl F rfl rfl rfl (o_loadA M (F.ev rfl) (by repeat (first | exact .here | apply Has.there)) (by first | assumption | rfl) ?_); clear F; clear a; intro a F
      (refine stepG rfl F rfl rfl rfl (o_call (F.ev rfl) (F.evs rfl) (Cal.mono (refnear_c x'.to x'.to hqi.1 hmk _) ?_)); clear F; clear a; rintro _ w ⟨rfl, hE⟩ a F; replace M := M.later hE; clear hE)
      refine stepG rfl F rfl rfl rfl (o_lssF (F.ev rfl) (F.ev rfl) (by omega) ?_); clear F; clear a; intro a F
      refine stepD rfl F rfl (o_pickF (F.ev rfl) (F.ev rfl) ?_); clear F; clear a; intro a F
      refine stepD rfl F rfl (o_move (F.ev rfl) ?_); clear F; clear a; intro a F
      refine stepG rfl F rfl rfl rfl (o_fieldAddr (F.ev rfl) ?_); clear F; clear a; intro a F
      refine stepG rfl F rfl rfl rfl (o_loadA M (F.ev rfl) (by repeat (first | exact .here | apply Has.there)) (by first | assumption | rfl) ?_); clear F; clear a; intro a F
      refine stepG rfl F rfl rfl rfl (o_loadA M (F.ev rfl) (by repeat (first | exact .here | apply Has.there)) (by first | assumption | rfl) ?_); clear F; clear a; intro a F
      (refine stepG rfl F rfl rfl rfl (o_call (F.ev rfl) (F.evs rfl) (Cal.mono (refnear_c x'.to x'.to hqi.1 hmk _) ?_)); clear F; clear a; rintro _ w ⟨rfl, hE⟩ a F; replace M := M.later hE; clear hE)
      refine stepG rfl F rfl rfl rfl (o_eqlT (F.ev rfl) (F.ev rfl) (by omega) ?_); clear F; clear a; intro a F
      refine stepG rfl F rfl rfl rfl (o_move (F.ev rfl) ?_); clear F; clear a; intro a F
      refine stepG rfl F rfl rfl rfl (o_fieldAddr (F.ev rfl) ?_); clear F; clear a; intro a F
      refine stepG rfl F rfl rfl rfl (o_loadA M (F.ev rfl) (by repeat (first | exact .here | apply Has.there)) (by first | assumption | rfl) ?_); clear F; clear a; intro a F
      refine stepG rfl F rfl rfl rfl (o_loadA M (F.ev rfl) (by repeat (first | exact .here | apply Has.there)) (by first | assumption | rfl) ?_); clear F; clear a; intro a F
      refine stepG rfl F rfl rfl rfl (o_neqAF (F.ev rfl) (F.ev rfl) (by first | assumption | rfl) (by first | assumption | rfl) (by assumption) ?_); clear F; clear a; intro a F
      refine stepG rfl F rfl rfl rfl (o_pickT (F.ev rfl) (F.ev rfl) ?_); clear F; clear a; intro a F
      refine stepD rfl F rfl (o_pickF (F.ev rfl) (F.ev rfl) ?_); clear F; clear a; intro a F
      with_reducible refine l_nil ?_
      with_reducible refine q_then ?_
      refine c_false F rfl rfl ?_
      with_reducible refine c_skip ?_
      exact ⟨F.only [4, 6, 7, 8] rfl, M⟩
    · with_reducible refine c_seq ?_
      with_reducible refine c_region ?_
      refine stepD rfl F rfl (o_fieldAddr (F.ev rfl) ?_); clear F; clear a; intro a F
      refine stepD rfl F rfl (o_loadA M (F.ev rfl) (by repeat (first | exact .here | apply Has.there)) (by first | assumption | rfl) ?_); clear F; clear a; intro a F
      refine stepD rfl F rfl (o_loadA M (F.ev rfl) (by repeat (first | exact .here | apply Has.there)) (by first | assumption | rfl) ?_); clear F; clear a; intro a F
      refine stepD rfl F rfl (o_loadA M (F.ev rfl) (by repeat (first | exact .here | apply Has.there)) (by first | assumption | rfl) ?_); clear F; clear a; intro a F
      (refine stepD rfl F rfl (o_call (F.ev rfl) (F.evs rfl) (Cal.mono (matches_c x'.to hqi.1 src mark.dip hsi hmk.1 _) ?_)); clear F; clear a; rintro _ w ⟨rfl, hE⟩ a F; replace M := M.later hE; clear hE)
      rw [hxm] at F
      refine stepD rfl F rfl (o_not (F.ev rfl) ?_); clear F; clear a; intro a F
      refine stepD rfl F rfl (o_move (F.ev rfl) ?_); clear F; clear a; intro a F
      refine stepG rfl F rfl rfl rfl (o_fieldAddr (F.ev rfl) ?_); clear F; clear a; intro a F
      refine stepG rfl F rfl rfl rfl (o_loadA M (F.ev rfl) (by repeat (first | exact .here | apply Has.there)) (by first | assumption | rfl) ?_); clear F; clear a; intro a F
      refine stepG rfl F rfl rfl rfl (o_loadA M (F.ev rfl) (by repeat (first | exact .here | apply Has.there)) (by first | assumption | rfl) ?_); clear F; clear a; intro a F
      (refine stepG rfl F rfl rfl rfl (o_call (F.ev rfl) (F.evs rfl) (Cal.mono (refnear_c x'.to mark hqi.1 hmk _) ?_)); clear F; clear a; rintro _ w ⟨rfl, hE⟩ a F; replace M := M.later hE; clear hE)
      refine stepG rfl F rfl rfl rfl (o_lssF (F.ev rfl) (F.ev rfl) (by omega) ?_); clear F; clear a; intro a F
      refine stepD rfl F rfl (o_pickF (F.ev rfl) (F.ev rfl) ?_); clear F; clear a; intro a F
      refine stepD rfl F rfl (o_move (F.ev rfl) ?_); clear F; clear a; intro a F
      refine stepG rfl F rfl rfl rfl (o_fieldAddr (F.ev rfl) ?_); clear F; clear a; intro a F
      refine stepG rfl F rfl rfl rfl (o_loadA M (F.ev rfl) (by repeat (first | exact .here | apply Has.there)) (by first | assumption | rfl) ?_); clear F; clear a; intro a F
      refine stepG rfl F rfl rfl rfl (o_loadA M (F.ev rfl) (by repeat (first | exact .here | apply Has.there)) (by first | assumption | rfl) ?_); clear F; clear a; intro a F
      (refine stepG rfl F rfl rfl rfl (o_call (F.ev rfl) (F.evs rfl) (Cal.mono (refnear_c x'.to mark hqi.1 hmk _) ?_)); clear F; clear a; rintro _ w ⟨rfl, hE⟩ a F; replace M := M.later hE; clear hE)
      refine stepG rfl F rfl rfl rfl (o_eqlF (F.ev rfl) (F.ev rfl) (by omega) ?_); clear F; clear a; intro a F
      refine stepG rfl F rfl rfl rfl (o_move (F.ev rfl) ?_); clear F; clear a; intro a F
      refine stepOff F rfl rfl rfl rfl ?_; clear F; clear a; intro a F
      refine stepOff F rfl rfl rfl rfl ?_; clear F; clear a; intro a F
      refine stepOff F rfl rfl rfl rfl ?_; clear F; clear a; intro a F
      refine stepOff F rfl rfl rfl rfl ?_; clear F; clear a; intro a F
      refine stepG rfl F rfl rfl rfl (o_pickF (F.ev rfl) (F.ev rfl) ?_); clear F; clear a; intro a F
      refine stepD rfl F rfl (o_pickF (F.ev rfl) (F.ev rfl) ?_); clear F; clear a; intro a F
      with_reducible refine l_nil ?_
      with_reducible refine q_then ?_
      refine c_false F rfl rfl ?_
      with_reducible refine c_skip ?_
      exact ⟨F.only [4, 6, 7, 8] rfl, M⟩
  clear F M a
  rintro a w ⟨F, M⟩
  refine q_then ?_
  with_reducible refine c_seq ?_
  with_reducible refine c_seq ?_
  with_reducible refine c_region ?_
  refine stepD rfl F rfl (o_move (F.ev rfl) ?_); clear F; clear a; intro a F
  refine stepD rfl F rfl (o_lenSl (F.ev rfl) ?_); clear F; clear a; intro a F
  refine stepD rfl F rfl (o_move (F.ev rfl) ?_); clear F; clear a; intro a F
  with_reducible refine l_nil ?_
  with_reducible refine q_then ?_
  with_reducible refine c_block ?_
  refine c_loop (fun m a w => ∃ i : Nat, m = l.length - i ∧ i ≤ l.length ∧ Frm a 117 [] [(94, .int .i64 i), (93, .int .i64 l.length), (92, .slice pl l.length cl), (6, .pointer (some ⟨b6, 0, none⟩)), (7, .pointer (some ⟨b7, 0, none⟩)), (8, .pointer (some ⟨b8, 0, none⟩))] ∧ Mem [bt] wb w [(b8, .cells (inC x').toArray 62 (0, 0)), (b7, .cells (ipC mark.dip).toArray 41 (0, 0)), (b6, .cells (ipC src).toArray 41 (0, 0)), (bt, tobj pt len cap k3), (b5, .cells (dvC mark).toArray 47 (0, 0))]) l.length ⟨0, rfl, by omega, F.only [94, 93, 92, 6, 7, 8] rfl, M⟩ ?_
  clear F M
  rintro m a w ⟨i, hm', hi, F, M⟩
  by_cases hlt : i < l.length
  · obtain ⟨q0, cap0, hv0, _, _, _, hm1⟩ := hIn _ M.ext
    cases hv0
    obtain ⟨b, o, cs, t, fz, rfl, hb, hsg⟩ := hm1 (by omega)
    have hyi := hnI _ (List.getElem_mem hlt)
    have hya := hxa _ (List.getElem_mem hlt)
    have f1 : seg cs (o + (i : Int).toNat * 40) 40 = some (inC l[i]) := seg_el (ins_len hnI) hsg hlt (by omega)
    obtain ⟨y, hy0⟩ : ∃ y, y = l[i] := ⟨_, rfl⟩
    rw [← hy0] at hyi hya f1
    have y1 := in_len hyi
    have y2 := in_to hyi
    with_reducible refine c_seq ?_
    with_reducible refine c_region ?_
    refine stepD rfl F rfl (o_lssT (F.ev rfl) (F.ev rfl) (by omega) ?_); clear F; clear a; intro a F
    with_reducible refine l_nil ?_
    with_reducible refine q_then ?_
    with_reducible refine c_seq ?_
    refine c_true F rfl rfl ?_
    with_reducible refine c_skip ?_
    with_reducible refine q_then ?_
    with_reducible refine c_seq ?_
    with_reducible refine c_block ?_
    with_reducible refine c_seq ?_
    with_reducible refine c_region ?_
    refine stepD rfl F rfl (o_indexSl (F.ev rfl) (F.ev rfl) (by omega) (by omega) ?_); clear F; clear a; intro a F
    (refine stepD rfl F rfl (o_loadHA (F.ev rfl) hb f1 ?_); clear F; clear a; intro a F)
    (refine stepD rfl F rfl (o_alloc M ?_); clear F; clear M; intro b11 w M a F)
    (refine stepN rfl F (o_storeA M (F.ev rfl) (F.ev rfl) (y1) (in_one _)  (by repeat (first | exact .here | apply Has.there))  (put_all (by rw [y1]; rfl)) (by repeat (first | exact .here | apply Upd.there)) ?_); clear F; clear M; intro w M a F)
    with_reducible refine l_nil ?_
    with_reducible refine q_then ?_
    with_reducible refine c_seq ?_
    with_reducible refine c_region ?_
    refine stepD rfl F rfl (o_fieldAddr (F.ev rfl) ?_); clear F; clear a; intro a F
    refine stepD rfl F rfl (o_loadA M (F.ev rfl) (by repeat (first | exact .here | apply Has.there)) (by first | assumption | rfl) ?_); clear F; clear a; intro a F
    refine stepD rfl F rfl (o_loadA M (F.ev rfl) (by repeat (first | exact .here | apply Has.there)) (by first | assumption | rfl) ?_); clear F; clear a; intro a F
    refine stepD rfl F rfl (o_loadA M (F.ev rfl) (by repeat (first | exact .here | apply Has.there)) (by first | assumption | rfl) ?_); clear F; clear a; intro a F
    (refine stepD rfl F rfl (o_call (F.ev rfl) (F.evs rfl) (Cal.mono (matches_c y.to hyi.1 src mark.dip hsi hmk.1 _) ?_)); clear F; clear a; rintro _ w ⟨rfl, hE⟩ a F; replace M := M.later hE; clear hE)
    cases m1 : matchV y.to src mark.dip
    · rw [m1] at F
      refine stepD rfl F rfl (o_move (F.ev rfl) ?_); clear F; clear a; intro a F
      refine stepOff F rfl rfl rfl rfl ?_; clear F; clear a; intro a F
      refine stepOff F rfl rfl rfl rfl ?_; clear F; clear a; intro a F
      refine stepOff F rfl rfl rfl rfl ?_; clear F; clear a; intro a F
      refine stepOff F rfl rfl rfl rfl ?_; clear F; clear a; intro a F
      refine stepOff F rfl rfl rfl rfl ?_; clear F; clear a; intro a F
      refine stepOff F rfl rfl rfl rfl ?_; clear F; clear a; intro a F
      refine stepD rfl F rfl (o_pickF (F.ev rfl) (F.ev rfl) ?_); clear F; clear a; intro a F
      with_reducible refine l_nil ?_
      with_reducible refine q_then ?_
      refine c_false F rfl rfl ?_
      with_reducible refine c_skip ?_
      with_reducible refine q_inB ?_
      with_reducible refine q_then ?_
      with_reducible refine c_region ?_
      refine stepD rfl F rfl (o_add (F.ev rfl) (F.ev rfl) (w_i64 (by omega) (by omega)) ?_); clear F; clear a; intro a F
      refine stepD rfl F rfl (o_move (F.ev rfl) ?_); clear F; clear a; intro a F
      with_reducible refine l_nil ?_
      with_reducible refine q_then ?_
      exact ⟨_, by omega, i + 1, rfl, by omega, F.only [94, 93, 92, 6, 7, 8] rfl, M.sub (List.sublist_cons_self _ _)⟩
    · rw [m1] at F
      have m2 := hya m1
      refine stepD rfl F rfl (o_move (F.ev rfl) ?_); clear F; clear a; intro a F
      refine stepG rfl F rfl rfl rfl (o_fieldAddr (F.ev rfl) ?_); clear F; clear a; intro a F
      refine stepG rfl F rfl rfl rfl (o_loadA M (F.ev rfl) (by repeat (first | exact .here | apply Has.there)) (by first | assumption | rfl) ?_); clear F; clear a; intro a F
      refine stepG rfl F rfl rfl rfl (o_fieldAddr (F.ev rfl) ?_); clear F; clear a; intro a F
      refine stepG rfl F rfl rfl rfl (o_loadA M (F.ev rfl) (by repeat (first | exact .here | apply Has.there)) (by first | assumption | rfl) ?_); clear F; clear a; intro a F
      (refine stepG rfl F rfl rfl rfl (o_call (F.ev rfl) (F.evs rfl) (Cal.mono (refnear_c y.to x'.to hyi.1 hqi.1 _) ?_)); clear F; clear a; rintro _ w ⟨rfl, hE⟩ a F; replace M := M.later hE; clear hE)
      refine stepG rfl F rfl rfl rfl (o_gtrF (F.ev rfl) (F.ev rfl) (by omega) ?_); clear F; clear a; intro a F
      refine stepD rfl F rfl (o_pickT (F.ev rfl) (F.ev rfl) ?_); clear F; clear a; intro a F
      with_reducible refine l_nil ?_
      with_reducible refine q_then ?_
      refine c_false F rfl rfl ?_
      with_reducible refine c_skip ?_
      with_reducible refine q_inB ?_
      with_reducible refine q_then ?_
      with_reducible refine c_region ?_
      refine stepD rfl F rfl (o_add (F.ev rfl) (F.ev rfl) (w_i64 (by omega) (by omega)) ?_); clear F; clear a; intro a F
      refine stepD rfl F rfl (o_move (F.ev rfl) ?_); clear F; clear a; intro a F
      with_reducible refine l_nil ?_
      with_reducible refine q_then ?_
      exact ⟨_, by omega, i + 1, rfl, by omega, F.only [94, 93, 92, 6, 7, 8] rfl, M.sub (List.sublist_cons_self _ _)⟩
  · with_reducible refine c_seq ?_
    with_reducible refine c_region ?_
    refine stepD rfl F rfl (o_lssF (F.ev rfl) (F.ev rfl) (by omega) ?_); clear F; clear a; intro a F
    with_reducible refine l_nil ?_
    with_reducible refine q_then ?_
    with_reducible refine c_seq ?_
    refine c_false F rfl rfl ?_
    with_reducible refine c_exit ?_
    with_reducible refine q_thenX ?_
    with_reducible refine q_thenX ?_
    with_reducible refine q_inBX ?_
    with_reducible refine q_then ?_
    with_reducible refine c_seq ?_
    with_reducible refine c_region ?_
    refine stepD rfl F rfl (o_loadA M (F.ev rfl) (by repeat (first | exact .here | apply Has.there)) (by first | assumption | rfl) ?_); clear F; clear a; intro a F
    (refine stepD rfl F rfl (o_call (F.ev rfl) (F.evs rfl) (Cal.mono (refreach_c x' hqi _) ?_)); clear F; clear a; rintro _ w ⟨rfl, hE⟩ a F; replace M := M.later hE; clear hE)
    rw [decide_eq_false hnb] at F
    refine stepD rfl F rfl (o_move (F.ev rfl) ?_); clear F; clear a; intro a F
    (refine stepG rfl F rfl rfl rfl (o_call (F.ev rfl) (F.evs rfl) (Cal.mono (known27_c _) ?_)); clear F; clear a; rintro _ w ⟨rfl, hE⟩ a F; replace M := M.later hE; clear hE)
    refine stepD rfl F rfl (o_pickT (F.ev rfl) (F.ev rfl) ?_); clear F; clear a; intro a F
    refine stepD rfl F rfl (o_assign (F.ev rfl) ?_); clear F; clear a; intro a F
    with_reducible refine l_nil ?_
    with_reducible refine q_then ?_
    with_reducible refine c_ret ?_
    refine p_ret F rfl (.cons (.tmp (F.ev rfl)) .nil) ?_
    exact ⟨rfl, (M.unR E0 hS0).ext⟩
end Go.Proofs.Ytilgoepokaaleaa
namespace Go.Proofs.Ytilgoepokaaleaa
set_option linter.unusedVariables false
set_option linter.unusedSimpArgs false
open Go.ChangeShapes Go.WideShapes Go.ChangeAt Go.RowKit
set_option maxRecDepth 100000 in
theorem routesNarrows_contract (H : Type) (enc : TypeId × Value → H) (W : World) (base : Nat) (args : Array Value) (ds gs : List (DataW H)) (before : List MemPlace)
    (hval : ∀ (j : Nat) t v, Try.f7.params[j]? = some t → args[j]? = some v → Value.okWide Try.prog W .any base t v)
    (hW : DataW.Whole enc Try.prog Try.f7.params.toList Rows.routesNarrowsSpec.vars false W args.toList ds gs before) (hL : laidMetH Try.prog seatLaid W) (hS : W.ShapedOpen Try.prog) :
    Calls Try.prog 7 args W fun e W' => ∃ v, e = .returned v ∧ Rows.routesNarrowsSpec.post enc Try.prog Try.f7 false true false false W args v W' := by
  have hW' := hW
  obtain ⟨p, q, hA0, hV, rfl, hfz, hnd⟩ := hW
  have hA : DataW.TrodAll enc Try.prog W 0 (fun _ => true) true Try.f7.params.toList args.toList ds p := hA0
  rw [Try.params7] at hA hval
  obtain ⟨v0, vs0, d0, ds0, p0, q0, hargs, rfl, rfl, h0, r0⟩ := trodAll_cons hA
  obtain ⟨rfl, rfl, rfl⟩ := trodAll_nil r0
  obtain rfl : args = #[v0] := by cases args; simp_all
  obtain ⟨l0, q0p, cap0, rfl, hc0, hx0⟩ := open_il (hval 0 _ v0 rfl rfl) h0
  refine ((narrowsL_c q0p cap0 l0 W hx0 hc0).calls).mono ?_
  rintro e W' ⟨v, rfl, rfl, hE⟩
  exact ⟨_, rfl, law_post (tb := 4) laidOut (by kernel_rfl) rfl (by kernel_rfl) Try.underlying4 (fun xs hx => by rw [Try.params7] at hx; match xs, hx with | [_], _ => rfl) hW' hE⟩
set_option maxRecDepth 100000 in
theorem routesNarrows_lifted (os : Os) (started : os.Started) (H : Type) (enc : TypeId × Value → H) (F : Stop.Interp) :
    ReturnsInHanded {} Try.checked os 7 .any ((OpenSpec.ofChange Rows.routesNarrowsSpec).preRow enc Try.prog Try.f7 Rows.routesNarrowsRow.domain false Rows.routesNarrowsRow.laid) (((OpenSpec.ofChange Rows.routesNarrowsSpec).at F).post enc Try.prog Try.f7 false true false false) := by
  have hx : ∃ places ds, DataW.whole enc Try.prog ((laidWorld os).forCall (fun _ _ => 0) ⟨#[], #[.slice none 0 0], []⟩).memory Try.f7.params.toList Rows.routesNarrowsSpec.vars false #[Value.slice none 0 0].toList 8 = some (ds, [], places) ∧ ds = [.nil] := ⟨[], [.nil], by kernel_rfl, rfl⟩
  obtain ⟨places, ds, hx, rfl⟩ := hx
  refine returnsInHanded_of_row (C := Try.checked) (s := OpenSpec.ofChange Rows.routesNarrowsSpec) own started (by kernel_rfl) Try.func7
    (witness_row_at (enc := enc) (C := Try.checked) false (laidWorld os) #[.slice none 0 0] rfl (by kernel_rfl) (by kernel_rfl) (by kernel_rfl)
      (OpenSpec.preRow_of_cond 8 hx (by kernel_rfl) (fun k hk => by cases hk) (by kernel_rfl) (laid_met os _))) ?_
  intro W base args ds gs before hval hW _ hcond _ hL hS _
  exact routesNarrows_contract H enc W base args ds gs before hval hW hL hS
theorem routesNarrows_said : Rows.RoutesNarrowsSaid :=
  OpenClaim.holds_of_cond 7 Try.f7 rfl rfl rfl rfl rfl rfl rfl ⟨rfl, rfl, rfl, rfl, rfl⟩ rfl rfl rfl rfl rfl (by kernel_rfl) Try.func7 (by kernel_rfl)
    (of_decide_eq_true (by kernel_rfl)) (by unfold Func.isWrapper; first | (rw [if_pos (by decide +kernel)]; kernel_rfl) | (rw [if_neg (by decide +kernel)]; exact ⟨rfl, rfl⟩))
    (fun os started H enc _ F => by rw [OpenClaim.pre_eq_preRow]; exact routesNarrows_lifted os started H enc F)
#print axioms routesNarrows_said
end Go.Proofs.Ytilgoepokaaleaa

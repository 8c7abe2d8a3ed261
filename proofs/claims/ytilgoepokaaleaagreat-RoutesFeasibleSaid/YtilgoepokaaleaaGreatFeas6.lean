/-
  Texts joined: ZD, ZG, ZH, ZM, ZN, LibY, ZP, ZO.
-/
import Derived.Test.YtilgoepokaaleaaGreatFeas5
/-! ZD -/
namespace Go.Proofs.YtilgoepokaaleaaGreat
set_option linter.unusedVariables false
set_option linter.unusedSimpArgs false
open Go.RowKit
attribute [local irreducible] OpTo wpListIn Code.wpIn MW Cal
def selectV (now : Int) (l : List RouV) (s : List SrcV) (links : List OptV) (old : List InsV) : List InsV × Int :=
  if !validRs l || !validSs s || !validOs links || !validIs old then ([], 1) else if !isTime now then ([], 2)
  else if 512 < (selV now l s links old).length then ([], 10) else (selV now l s links old, 0)
def mapI (m : List (Int × Int)) : List (Int × Value) := m.map fun p => (p.1, Value.int .i64 p.2)
theorem zero_iR : zeroIs Tryz.prog 3 (.int .i64 0) := by
  unfold zeroIs
  kernel_rfl
theorem getA_mapI (x : Int) (m : List (Int × Int)) : getA x (mapI m) = (getA x m).map (Value.int .i64) := getA_map _ x m
theorem nodupD_le : ∀ {xs ys : List DstV}, AscD xs → (∀ x ∈ xs, x ∈ ys) → xs.length ≤ ys.length
  | [], _, _, _ => by simp
  | x :: xs, ys, hn, hs => by
    have h1 := List.pairwise_cons.1 hn
    have hx := hs x (by simp)
    have h2 : xs.length ≤ (ys.erase x).length := nodupD_le h1.2 fun y hy => (List.mem_erase_of_ne (fun e => by have := h1.1 y hy; rw [e, cmpD_self] at this; omega)).2 (hs y (List.mem_cons_of_mem _ hy))
    rw [List.length_erase_of_mem hx] at h2
    have : 0 < ys.length := List.length_pos_of_mem hx
    simp only [List.length_cons]
    omega
theorem oldV_is {old : List InsV} (hy : ∀ x ∈ old, IsIn x) {t : DstV} {o : InsV} (h : oldV old t = some o) : IsIn o := hy o (List.mem_of_find?_eq_some h)
theorem selE_is {now : Int} {l : List RouV} {s : List SrcV} {cm : List (Int × Int)} {old : List InsV} {t : DstV} (ht : IsDv t) (hy : ∀ x ∈ old, IsIn x) {e : InsV} (h : selE now l s cm old t = some e) : IsIn e := by
  unfold selE aftV at h
  dsimp only at h
  split at h
  · cases h
    exact ⟨ht, trivial⟩
  · split at h
    · cases h
    · rename_i o ho
      split at h
      · cases h
        exact ⟨ht, trivial⟩
      · split at h
        · cases h
          exact oldV_is hy ho
        · cases h
theorem opts_len {now : Int} {s : List SrcV} {cm : List (Int × Int)} {t : DstV} {l : List RouV} {n : Nat} (h : l.length ≤ n) : (optsV now s cm t l).length ≤ n := by
  unfold optsV
  have h1 := List.length_filterMap_le (optV now s cm t) (l.filter fun r => decide (r.to = t))
  have h2 := List.length_filter_le (fun r => decide (r.to = t)) l
  omega
def PhO (o : OptV) (r : Value) (ent : List (Nat × Obj)) : Prop := ∃ b, r = .slice (some ⟨b, 0, none⟩) 1 1 ∧ ent = [(b, opO o)]
theorem bsO (o : OptV) {a : Act} {n t : Nat} {df : List Deferred} {fr : List (Nat × Value)} {w w1 : World} {d : Option Tmp} {ty : TypeId} {pos : String} {af : Array Edge} {g : Option (Nat × Bool)} (F : Frm a n df fr) (E : Ext [] w1 w) (ht : Ev fr (.tmp t) = some (.agg (opC o).toArray)) :
    OpTo Tryz.prog ⟨d, .buildSlice 30 1 [(0, .tmp t)].toArray, ty, pos, af, g⟩ a.eval w fun r w' => Ext [] w w' ∧ NewP w1.heap.size (PhO o) r w' := by
  have hev : evP fr [(0, .tmp t)] = some [(0, opC o)] := by simp only [evP, ht]
  refine o_buildSlice F (Mem.start [] w) hev rfl rfl (op_build1 (o := o) trivial) ?_
  intro b w' M
  exact newP_of E ⟨_, ⟨b, rfl, rfl⟩, M⟩
set_option maxHeartbeats 16000000 in
theorem select_c (now : Int) (l : List RouV) (hx : ∀ x ∈ l, IsRo x) (s : List SrcV) (hs' : ∀ x ∈ s, IsSr x) (links : List OptV) (old : List InsV) (hy : ∀ x ∈ old, IsIn x) (vl vs vk vo : Value) (W : World) (hSl : SlAt W 39 vl l.length (rosC l)) (hSs : SlAt W 38 vs s.length (srsC s)) (hSk : SlAt W 2 vk links.length (opsC links)) (hSo : SlAt W 40 vo old.length (insC old)) :
    Cal Tryz.prog 15 [.int .i64 now, vl, vs, vk, vo].toArray W fun r w' => ∃ u ent, r = .tuple [u, .int .i64 (selectV now l s links old).2].toArray ∧ OwnS 50 40 u (selectV now l s links old).1.length (insC (selectV now l s links old).1) ent ∧ Mem [] W w' ent := by
  have hk : ∀ x ∈ links, IsOp x := fun _ _ => trivial
  have hSl0 := hSl
  have hSk0 := hSk
  have hSo0 := hSo
  obtain ⟨q, cap, rfl, hcap, hsp, hl, hm⟩ := hSl
  obtain ⟨qk, capk, rfl, hcapk, hspk, hlk, hmk⟩ := hSk
  obtain ⟨qo, capo, rfl, hcapo, hspo, hlo, hmo⟩ := hSo
  refine fn_ofM (n := 190) [] Tryz.func15 rfl rfl rfl ?_
  intro a w F M hwW
  refine c_seq (c_region ?_)
  refine sD F (o_assign (F.ev rfl) ?_); clear F a; intro a F
  refine sD F (o_assign (F.ev rfl) ?_); clear F a; intro a F
  with_reducible refine l_nil (q_then (c_seq (c_seq (c_region ?_))))
  refine sD F (o_move (F.ev rfl) ?_); clear F a; intro a F
  (refine sD F (o_call (F.ev rfl) (F.evs rfl) (Cal.mono (rtvalid_c l hx _ _ (hSl0.later M.ext)) ?_)); clear F; clear a; rintro _ w ⟨rfl, hE⟩ a F; replace M := M.later hE; clear hE)
  cases c1 : validRs l
  · have hL : selectV now l s links old = ([], 1) := by unfold selectV; rw [c1]; rfl
    rw [hL]
    rw [c1] at F
    refine sD F (o_not (F.ev rfl) ?_); clear F a; intro a F
    refine sD F (o_move (F.ev rfl) ?_); clear F a; intro a F
    refine sO F ?_; clear F a; intro a F
    refine sO F ?_; clear F a; intro a F
    refine sO F ?_; clear F a; intro a F
    refine sD F (o_pickT (F.ev rfl) (F.ev rfl) ?_); clear F a; intro a F
    refine sD F (o_move (F.ev rfl) ?_); clear F a; intro a F
    refine sO F ?_; clear F a; intro a F
    refine sO F ?_; clear F a; intro a F
    refine sO F ?_; clear F a; intro a F
    refine sD F (o_pickT (F.ev rfl) (F.ev rfl) ?_); clear F a; intro a F
    refine sD F (o_move (F.ev rfl) ?_); clear F a; intro a F
    refine sO F ?_; clear F a; intro a F
    refine sO F ?_; clear F a; intro a F
    refine sO F ?_; clear F a; intro a F
    refine sD F (o_pickT (F.ev rfl) (F.ev rfl) ?_); clear F a; intro a F
    with_reducible refine l_nil (q_then ?_)
    refine c_true F rfl rfl ?_
    refine c_seq (c_region ?_)
    refine sD F (o_assign (F.ev rfl) ?_); clear F a; intro a F
    refine sD F (o_assign (F.ev rfl) ?_); clear F a; intro a F
    with_reducible refine l_nil (q_then (c_ret (q_thenR ?_)))
    refine p_ret F rfl (.cons (.tmp (F.ev rfl)) (.cons (.tmp (F.ev rfl)) .nil)) ?_
    exact ⟨.slice none 0 0, [], rfl, OwnS.nil _ _, M⟩
  rw [c1] at F
  refine sD F (o_not (F.ev rfl) ?_); clear F a; intro a F
  refine sD F (o_move (F.ev rfl) ?_); clear F a; intro a F
  refine sG F (o_move (F.ev rfl) ?_); clear F a; intro a F
  (refine sG F (o_call (F.ev rfl) (F.evs rfl) (Cal.mono (scvalid_c s hs' _ _ (hSs.later M.ext)) ?_)); clear F; clear a; rintro _ w ⟨rfl, hE⟩ a F; replace M := M.later hE; clear hE)
  cases c2 : validSs s
  · have hL : selectV now l s links old = ([], 1) := by unfold selectV; rw [c1, c2]; rfl
    rw [hL]
    rw [c2] at F
    refine sG F (o_not (F.ev rfl) ?_); clear F a; intro a F
    refine sD F (o_pickF (F.ev rfl) (F.ev rfl) ?_); clear F a; intro a F
    refine sD F (o_move (F.ev rfl) ?_); clear F a; intro a F
    refine sO F ?_; clear F a; intro a F
    refine sO F ?_; clear F a; intro a F
    refine sO F ?_; clear F a; intro a F
    refine sD F (o_pickT (F.ev rfl) (F.ev rfl) ?_); clear F a; intro a F
    refine sD F (o_move (F.ev rfl) ?_); clear F a; intro a F
    refine sO F ?_; clear F a; intro a F
    refine sO F ?_; clear F a; intro a F
    refine sO F ?_; clear F a; intro a F
    refine sD F (o_pickT (F.ev rfl) (F.ev rfl) ?_); clear F a; intro a F
    with_reducible refine l_nil (q_then ?_)
    refine c_true F rfl rfl ?_
    refine c_seq (c_region ?_)
    refine sD F (o_assign (F.ev rfl) ?_); clear F a; intro a F
    refine sD F (o_assign (F.ev rfl) ?_); clear F a; intro a F
    with_reducible refine l_nil (q_then (c_ret (q_thenR ?_)))
    refine p_ret F rfl (.cons (.tmp (F.ev rfl)) (.cons (.tmp (F.ev rfl)) .nil)) ?_
    exact ⟨.slice none 0 0, [], rfl, OwnS.nil _ _, M⟩
  rw [c2] at F
  refine sG F (o_not (F.ev rfl) ?_); clear F a; intro a F
  refine sD F (o_pickF (F.ev rfl) (F.ev rfl) ?_); clear F a; intro a F
  refine sD F (o_move (F.ev rfl) ?_); clear F a; intro a F
  refine sG F (o_move (F.ev rfl) ?_); clear F a; intro a F
  (refine sG F (o_call (F.ev rfl) (F.evs rfl) (Cal.mono (mtvalidO_c links hk _ _ (hSk0.later M.ext)) ?_)); clear F; clear a; rintro _ w ⟨rfl, hE⟩ a F; replace M := M.later hE; clear hE)
  cases c3 : validOs links
  · have hL : selectV now l s links old = ([], 1) := by unfold selectV; rw [c1, c2, c3]; rfl
    rw [hL]
    rw [c3] at F
    refine sG F (o_not (F.ev rfl) ?_); clear F a; intro a F
    refine sD F (o_pickF (F.ev rfl) (F.ev rfl) ?_); clear F a; intro a F
    refine sD F (o_move (F.ev rfl) ?_); clear F a; intro a F
    refine sO F ?_; clear F a; intro a F
    refine sO F ?_; clear F a; intro a F
    refine sO F ?_; clear F a; intro a F
    refine sD F (o_pickT (F.ev rfl) (F.ev rfl) ?_); clear F a; intro a F
    with_reducible refine l_nil (q_then ?_)
    refine c_true F rfl rfl ?_
    refine c_seq (c_region ?_)
    refine sD F (o_assign (F.ev rfl) ?_); clear F a; intro a F
    refine sD F (o_assign (F.ev rfl) ?_); clear F a; intro a F
    with_reducible refine l_nil (q_then (c_ret (q_thenR ?_)))
    refine p_ret F rfl (.cons (.tmp (F.ev rfl)) (.cons (.tmp (F.ev rfl)) .nil)) ?_
    exact ⟨.slice none 0 0, [], rfl, OwnS.nil _ _, M⟩
  rw [c3] at F
  refine sG F (o_not (F.ev rfl) ?_); clear F a; intro a F
  refine sD F (o_pickF (F.ev rfl) (F.ev rfl) ?_); clear F a; intro a F
  refine sD F (o_move (F.ev rfl) ?_); clear F a; intro a F
  refine sG F (o_move (F.ev rfl) ?_); clear F a; intro a F
  (refine sG F (o_call (F.ev rfl) (F.evs rfl) (Cal.mono (rtvalidI_c old hy _ _ (hSo0.later M.ext)) ?_)); clear F; clear a; rintro _ w ⟨rfl, hE⟩ a F; replace M := M.later hE; clear hE)
  cases c4 : validIs old
  · have hL : selectV now l s links old = ([], 1) := by unfold selectV; rw [c1, c2, c3, c4]; rfl
    rw [hL]
    rw [c4] at F
    refine sG F (o_not (F.ev rfl) ?_); clear F a; intro a F
    refine sD F (o_pickF (F.ev rfl) (F.ev rfl) ?_); clear F a; intro a F
    with_reducible refine l_nil (q_then ?_)
    refine c_true F rfl rfl ?_
    refine c_seq (c_region ?_)
    refine sD F (o_assign (F.ev rfl) ?_); clear F a; intro a F
    refine sD F (o_assign (F.ev rfl) ?_); clear F a; intro a F
    with_reducible refine l_nil (q_then (c_ret (q_thenR ?_)))
    refine p_ret F rfl (.cons (.tmp (F.ev rfl)) (.cons (.tmp (F.ev rfl)) .nil)) ?_
    exact ⟨.slice none 0 0, [], rfl, OwnS.nil _ _, M⟩
  rw [c4] at F
  refine sG F (o_not (F.ev rfl) ?_); clear F a; intro a F
  refine sD F (o_pickF (F.ev rfl) (F.ev rfl) ?_); clear F a; intro a F
  with_reducible refine l_nil (q_then ?_)
  refine c_false F rfl rfl ?_
  with_reducible refine c_skip (q_then (c_seq (c_seq (c_region ?_))))
  refine sD F (o_move (F.ev rfl) ?_); clear F a; intro a F
  (refine sD F (o_call (F.ev rfl) (F.evs rfl) (Cal.mono (rtTime_c now _) ?_)); clear F; clear a; rintro _ w ⟨rfl, hE⟩ a F; replace M := M.later hE; clear hE)
  cases c5 : isTime now
  · have hL : selectV now l s links old = ([], 2) := by unfold selectV; rw [c1, c2, c3, c4, c5]; rfl
    rw [hL]
    rw [c5] at F
    refine sD F (o_not (F.ev rfl) ?_); clear F a; intro a F
    with_reducible refine l_nil (q_then ?_)
    refine c_true F rfl rfl ?_
    refine c_seq (c_region ?_)
    refine sD F (o_assign (F.ev rfl) ?_); clear F a; intro a F
    refine sD F (o_assign (F.ev rfl) ?_); clear F a; intro a F
    with_reducible refine l_nil (q_then (c_ret (q_thenR ?_)))
    refine p_ret F rfl (.cons (.tmp (F.ev rfl)) (.cons (.tmp (F.ev rfl)) .nil)) ?_
    exact ⟨.slice none 0 0, [], rfl, OwnS.nil _ _, M⟩
  rw [c5] at F
  have hL : selectV now l s links old = if 512 < (selV now l s links old).length then ([], 10) else (selV now l s links old, 0) := by unfold selectV; rw [c1, c2, c3, c4, c5]; rfl
  obtain ⟨hl512, hrou, hasc⟩ := validRs_iff.1 c1
  obtain ⟨hk16, hopt, _⟩ := validOs_iff.1 c3
  obtain ⟨ho512, hins, hascN⟩ := validIs_iff.1 c4
  refine sD F (o_not (F.ev rfl) ?_); clear F a; intro a F
  with_reducible refine l_nil (q_then ?_)
  refine c_false F rfl rfl ?_
  with_reducible refine c_skip (q_then (c_seq (c_region ?_)))
  refine sD F (o_move (F.ev rfl) ?_); clear F a; intro a F
  refine sD F (o_lenSl (F.ev rfl) ?_); clear F a; intro a F
  (refine sD F (o_makeMap M (F.ev rfl) ?_); clear F M; intro b12 w M a F)
  refine sD F (o_assign (F.ev rfl) ?_); clear F a; intro a F
  with_reducible refine l_nil (q_then (c_seq (c_seq (c_region ?_))))
  refine sD F (o_move (F.ev rfl) ?_); clear F a; intro a F
  refine sD F (o_lenSl (F.ev rfl) ?_); clear F a; intro a F
  refine sD F (o_move (F.ev rfl) ?_); clear F a; intro a F
  with_reducible refine l_nil (q_then (c_block ?_))
  refine c_loop (fun m a w => ∃ (i : Nat) (ent : List (Nat × Obj)), m = links.length - i ∧ i ≤ links.length ∧ OwnM (Value.int .u64) (.map (some b12)) (mapI (costM (links.take i))) ent ∧ Frm a 190 [] [(54, .int .i64 i), (53, .int .i64 links.length), (52, .slice qk links.length capk), (12, .map (some b12)), (0, .int .i64 now), (1, .slice q l.length cap), (2, vs), (4, .slice qo old.length capo)] ∧ Mem [] W w ent) links.length ⟨0, _, rfl, by omega, ⟨b12, _, rfl, rfl, MapAt.empty _⟩, F.only [54, 53, 52, 12, 0, 1, 2, 4] rfl, M⟩ ?_
  clear F M
  rintro m a w ⟨i, ent, hm', hi, hO, F, M⟩
  by_cases hlt : i < links.length
  · obtain ⟨b, o, cs, t, fz, rfl, hb, hs⟩ := hmk (by omega)
    have hxv := hk _ (List.getElem_mem hlt)
    have f1 : seg cs (o + (i : Int).toNat * 2) 2 = some (opC links[i]) := seg_el (ops_len hk) hs hlt (by omega)
    have hmt := costM_step hlt
    obtain ⟨x, hx0⟩ : ∃ x, x = links[i] := ⟨_, rfl⟩
    rw [← hx0] at hxv f1 hmt
    have f2 : (opC x).length = 2 := op_len hxv
    have f3 := op_nb hxv
    have f4 := op_cost hxv
    refine c_seq (c_region ?_)
    refine sD F (o_lssT (F.ev rfl) (F.ev rfl) (by omega) ?_); clear F a; intro a F
    with_reducible refine l_nil (q_then (c_seq ?_))
    refine c_true F rfl rfl ?_
    with_reducible refine c_skip (q_then (c_seq (c_block (c_seq (c_region ?_)))))
    refine sD F (o_indexSl (F.ev rfl) (F.ev rfl) (by omega) (by omega) ?_); clear F a; intro a F
    refine sD F (o_loadWA M (F.ev rfl) (by assumption) (by first | assumption | rfl) ?_); clear F a; intro a F
    (refine sD F (o_alloc M ?_); clear F M; intro b14 w M a F)
    (refine stepN rfl F (o_storeA M (F.ev rfl) (F.ev rfl) (f2) (op_one x)  (by repeat constructor)  (put_all (by rw [f2]; rfl)) (by repeat constructor) ?_); clear F M; intro w M a F)
    with_reducible refine l_nil (q_then (c_region ?_))
    refine sD F (o_move (F.ev rfl) ?_); clear F a; intro a F
    refine sD F (o_fieldAddr (F.ev rfl) ?_); clear F a; intro a F
    refine sD F (o_load1 M (F.ev rfl) (by repeat constructor) (by first | assumption | rfl) ?_); clear F a; intro a F
    refine sD F (o_fieldAddr (F.ev rfl) ?_); clear F a; intro a F
    refine sD F (o_load1 M (F.ev rfl) (by repeat constructor) (by first | assumption | rfl) ?_); clear F a; intro a F
    refine sD F (o_max (F.ev rfl) (F.ev rfl) ?_); clear F a; intro a F
    (refine stepN rfl F (o_mapUpdate (u := .int .i64 (lkC x.cost)) keyE_law M hO (.cons .here) (fun _ _ => trivial) (a := x.nb) trivial (F.ev rfl) (F.ev rfl) (F.ev rfl) ?_); clear F M; intro ent2 w hO2 M a F)
    with_reducible refine l_nil (q_inB (q_then (c_region ?_)))
    refine sD F (o_add (F.ev rfl) (F.ev rfl) (w_i64 (by omega) (by omega)) ?_); clear F a; intro a F
    refine sD F (o_move (F.ev rfl) ?_); clear F a; intro a F
    with_reducible refine l_nil (q_then ?_)
    exact ⟨_, by omega, i + 1, ent2, rfl, by omega, by rw [hmt]; unfold mapI; rw [← putA_map]; exact hO2, F.only [54, 53, 52, 12, 0, 1, 2, 4] rfl, M.sub (List.sublist_cons_self _ _)⟩
  obtain rfl : i = links.length := by omega
  rw [List.take_length] at hO
  clear hmk hspk hcapk
  refine c_seq (c_region ?_)
  refine sD F (o_lssF (F.ev rfl) (F.ev rfl) (by omega) ?_); clear F a; intro a F
  with_reducible refine l_nil (q_then (c_seq ?_))
  refine c_false F rfl rfl ?_
  with_reducible refine c_exit (q_thenX (q_thenX (q_inBX (q_then (c_seq (c_region ?_))))))
  refine sD F (o_assign (F.ev rfl) ?_); clear F a; intro a F
  with_reducible refine l_nil (q_then (c_seq (c_region ?_)))
  refine sD F (o_assign (F.ev rfl) ?_); clear F a; intro a F
  refine sD F (o_assign (F.ev rfl) ?_); clear F a; intro a F
  with_reducible refine l_nil (q_then (c_seq (c_seq (c_region ?_))))
  refine sD F (o_move (F.ev rfl) ?_); clear F a; intro a F
  refine sD F (o_move (F.ev rfl) ?_); clear F a; intro a F
  (refine sD F (o_call (F.ev rfl) (F.evs rfl) (Cal.mono (dests_c l hx old hy (by omega) (by omega) _ _ _ (hSl0.later M.ext) (hSo0.later M.ext) ) ?_)); clear F; clear a; rintro _ w ⟨entD, hD, N⟩ a F; replace M := M.joins N; clear N)
  obtain ⟨qd, capd, rfl⟩ := hD.slice
  obtain ⟨cm, hcm⟩ : ∃ cm, cm = costM links := ⟨_, rfl⟩
  obtain ⟨ds, hds⟩ : ∃ ds, ds = destsV l old := ⟨_, rfl⟩
  have hall : ∀ x ∈ allD l old, IsDv x ∧ validT x = true := by
    intro x h
    unfold allD at h
    rcases List.mem_append.1 h with h | h
    · obtain ⟨r, h1, rfl⟩ := List.mem_map.1 h
      have := hrou r h1
      simp only [rou1, Bool.and_eq_true] at this
      exact ⟨(hx r h1).1, this.1.1.1⟩
    · obtain ⟨r, h1, rfl⟩ := List.mem_map.1 h
      have := hins r h1
      simp only [ins1, Bool.and_eq_true] at this
      exact ⟨(hy r h1).1, this.1⟩
  obtain ⟨hdA, hdm⟩ := foldr_insD fun x h => (hall x h).1
  have hdA' : AscD ds := by rw [hds]; exact hdA
  have hdm' : ∀ x, x ∈ ds ↔ x ∈ allD l old := by rw [hds]; exact hdm
  clear hdA hdm
  have hdi : ∀ x ∈ ds, IsDv x ∧ validT x = true := fun x h => hall x ((hdm' x).1 h)
  have hszd : ∀ x ∈ ds, (dvC x).length = 35 := fun x h => dv_len (hdi x h).1
  have hdl : ds.length ≤ 1024 := by
    have h1 := nodupD_le hdA' (fun x h => (hdm' x).1 h)
    simp only [allD, List.length_append, List.length_map] at h1
    omega
  have hsel : selV now l s links old = ds.filterMap (selE now l s cm old) := by rw [hds, hcm]; rfl
  rw [← hds] at hD F
  rw [← hcm] at hO
  rw [hsel] at hL
  have hoE : ∀ (t : DstV), IsDv t → ∀ e, selE now l s cm old t = some e → IsIn e := fun t ht e h => selE_is ht hy h
  have hwR := weak_R hx hasc
  have hwN := weak_N hascN
  have hov : ∀ t, validOs (optsV now s cm t l) = true := fun t => by rw [hcm]; exact opts_valid hx c1 hk16
  refine sD F (o_lenSl (F.ev rfl) ?_); clear F a; intro a F
  refine sD F (o_move (F.ev rfl) ?_); clear F a; intro a F
  with_reducible refine l_nil (q_then (c_block ?_))
  refine c_loop (fun m a w => ∃ (k r i : Nat) (z : Value) (entR : List (Nat × Obj)), m = ds.length - k ∧ k ≤ ds.length ∧ Yet RouV.to l (ds.drop k) r ∧ Yet InsV.to old (ds.drop k) i ∧ OwnS 50 40 z ((ds.take k).filterMap (selE now l s cm old)).length (insC ((ds.take k).filterMap (selE now l s cm old))) entR ∧ Frm a 190 [] [(69, .int .i64 k), (68, .int .i64 ds.length), (67, .slice qd ds.length capd), (12, .map (some b12)), (15, z), (16, .int .i64 r), (17, .int .i64 i), (0, .int .i64 now), (1, .slice q l.length cap), (2, vs), (4, .slice qo old.length capo)] ∧ Mem [] W w (entR ++ (entD ++ ent))) ds.length ⟨0, 0, 0, .slice none 0 0, [], rfl, by omega, ⟨by omega, fun j hj h => absurd h (by omega), fun j hj _ => (hdm' _).2 (List.mem_append_left _ (List.mem_map_of_mem (List.getElem_mem hj)))⟩, ⟨by omega, fun j hj h => absurd h (by omega), fun j hj _ => (hdm' _).2 (List.mem_append_right _ (List.mem_map_of_mem (List.getElem_mem hj)))⟩, OwnS.nil _ _, F.only [69, 68, 67, 12, 15, 16, 17, 0, 1, 2, 4] rfl, M⟩ ?_
  clear F M
  rintro m a w ⟨k, r, i, z, entR, hm', hkl, hYr, hYi, hR, F, M⟩
  by_cases hlt : k < ds.length
  · rcases hD with ⟨_, h0, _, _⟩ | ⟨bD, cD, junk, hvD, hentD, hxl, hjl, hnc⟩
    · omega
    cases hvD
    subst hentD
    have f1 : seg (dvsC ds ++ junk) (0 + (k : Int).toNat * 35) 35 = some (dvC ds[k]) := own_el hszd junk hlt (by omega)
    have hdk : ds.drop k = ds[k] :: ds.drop (k + 1) := List.drop_eq_getElem_cons hlt
    have htk : (ds.take (k + 1)).filterMap (selE now l s cm old) = (ds.take k).filterMap (selE now l s cm old) ++ (selE now l s cm old ds[k]).toList := by
      rw [List.take_add_one, List.getElem?_eq_getElem hlt, List.filterMap_append]
      cases ho : selE now l s cm old ds[k] <;> simp [List.filterMap_cons, ho]
    obtain ⟨ht, hvt⟩ := hdi _ (List.getElem_mem hlt)
    obtain ⟨t, ht0⟩ : ∃ t, t = ds[k] := ⟨_, rfl⟩
    rw [← ht0] at f1 hdk htk ht hvt
    have hdk2 : AscD (t :: ds.drop (k + 1)) := by rw [← hdk]; exact hdA'.sublist (List.drop_sublist _ _)
    have hdk3 : ∀ x ∈ t :: ds.drop (k + 1), IsDv x := fun x h => (hdi x (List.mem_of_mem_drop (by rw [hdk]; exact h))).1
    rw [hdk] at hYr hYi
    have t1 := dv_len ht
    have t2 := dv_all ht
    have t3 := dv_fits ht
    replace M := M.perm (l' := (bD, .cells (dvsC ds ++ junk).toArray 45 (0, 0)) :: (entR ++ ent)) (by classical exact List.perm_iff_count.2 fun _ => by simp only [List.count_append, List.count_cons, List.count_nil, Nat.add_zero, Nat.zero_add] <;> ac_rfl)
    refine c_seq (c_region ?_)
    refine sD F (o_lssT (F.ev rfl) (F.ev rfl) (by omega) ?_); clear F a; intro a F
    with_reducible refine l_nil (q_then (c_seq ?_))
    refine c_true F rfl rfl ?_
    with_reducible refine c_skip (q_then (c_seq (c_block (c_seq (c_region ?_)))))
    refine sD F (o_indexSl (F.ev rfl) (F.ev rfl) (by omega) (by omega) ?_); clear F a; intro a F
    refine sD F (o_loadA M (F.ev rfl) (by repeat constructor) (by first | assumption | rfl) ?_); clear F a; intro a F
    (refine sD F (o_alloc M ?_); clear F M; intro b19 w M a F)
    (refine stepN rfl F (o_storeA M (F.ev rfl) (F.ev rfl) (t1) (dv_one t)  (by repeat constructor)  (put_all (by rw [t1]; rfl)) (by repeat constructor) ?_); clear F M; intro w M a F)
    with_reducible refine l_nil (q_then (c_seq (c_region ?_)))
    refine sD F (o_assign (F.ev rfl) ?_); clear F a; intro a F
    with_reducible refine l_nil (q_then (c_seq (c_region ?_)))
    (refine sD F (o_makeMap0 M ?_); clear F M; intro bS w M a F)
    refine sD F (o_assign (F.ev rfl) ?_); clear F a; intro a F
    refine l_nil ?_
    refine q_then ?_
    repeat (refine c_seq ?_)
    refine c_cut (fun a w => ∃ (r1 : Nat) (zO : Value) (entO entS : List (Nat × Obj)), Yet RouV.to l (ds.drop (k + 1)) r1 ∧ OwnS 55 2 zO (optsV now s cm t l).length (opsC (optsV now s cm t l)) entO ∧ OwnM (Value.int .u64) (.map (some bS)) (mapQ (saidV now s cm t l)) entS ∧ Frm a 190 [] [(16, .int .i64 r1), (20, zO), (21, .map (some bS)), (19, .pointer (some ⟨b19, 0, none⟩)), (69, .int .i64 k), (68, .int .i64 ds.length), (67, .slice (some ⟨bD, 0, none⟩) ds.length capd), (12, .map (some b12)), (15, z), (17, .int .i64 i), (0, .int .i64 now), (1, .slice q l.length cap), (2, vs), (4, .slice qo old.length capo)] ∧ Mem [] W w (entS ++ (entO ++ ((b19, .cells (dvC t).toArray 45 (0, 0)) :: (bD, .cells (dvsC ds ++ junk).toArray 45 (0, 0)) :: (entR ++ ent))))) ?_ ?_
    · refine c_block ?_
      refine c_loop (fun m a w => ∃ (r' : Nat) (zO : Value) (entO entS : List (Nat × Obj)), m = l.length - r' ∧ r ≤ r' ∧ r' ≤ l.length ∧ (∀ j (hj : j < l.length), r ≤ j → j < r' → l[j].to = t) ∧ OwnS 55 2 zO (optsV now s cm t (l.take r')).length (opsC (optsV now s cm t (l.take r'))) entO ∧ OwnM (Value.int .u64) (.map (some bS)) (mapQ (saidV now s cm t (l.take r'))) entS ∧ Frm a 190 [] [(16, .int .i64 r'), (20, zO), (21, .map (some bS)), (19, .pointer (some ⟨b19, 0, none⟩)), (69, .int .i64 k), (68, .int .i64 ds.length), (67, .slice (some ⟨bD, 0, none⟩) ds.length capd), (12, .map (some b12)), (15, z), (17, .int .i64 i), (0, .int .i64 now), (1, .slice q l.length cap), (2, vs), (4, .slice qo old.length capo)] ∧ Mem [] W w (entS ++ (entO ++ ((b19, .cells (dvC t).toArray 45 (0, 0)) :: (bD, .cells (dvsC ds ++ junk).toArray 45 (0, 0)) :: (entR ++ ent))))) (l.length - r) ⟨r, .slice none 0 0, [], [(bS, _)], rfl, by omega, hYr.le, fun j hj h1 h2 => absurd h2 (by omega), by rw [optsV_nil (hYr.before)]; exact OwnS.nil _ _, by rw [saidV_nil (hYr.before)]; exact ⟨bS, _, rfl, rfl, MapAt.empty _⟩, F.only [16, 20, 21, 19, 69, 68, 67, 12, 15, 17, 0, 1, 2, 4] rfl, M⟩ ?_
      clear F M
      rintro m a w ⟨r', zO, entO, entS, hm2, hr1, hr2, hre, hOO, hOS, F, M⟩
      have hend : (∀ hj : r' < l.length, l[r'].to ≠ t) → Yet RouV.to l (ds.drop (k + 1)) r' ∧ optsV now s cm t l = optsV now s cm t (l.take r') ∧ saidV now s cm t l = saidV now s cm t (l.take r') := fun h => by
        obtain ⟨h1, h2⟩ := Yet.next hwR hdk2 hdk3 hYr hr1 hr2 hre h
        exact ⟨h1, optsV_all h2, saidV_all h2⟩
      by_cases hlt2 : r' < l.length
      · obtain ⟨b, o, cs, t', fz, rfl, hb, hs⟩ := hm (by omega)
        have g1 : seg cs (o + (r' : Int).toNat * 39) 39 = some (roC l[r']) := seg_el (ros_len hx) hs hlt2 (by omega)
        have hxv := hx _ (List.getElem_mem hlt2)
        have hos := fun h => optsV_step (now := now) (s := s) (cm := cm) (t := t) hlt2 h
        have hss := fun h => saidV_step (now := now) (s := s) (cm := cm) (t := t) hlt2 h
        obtain ⟨x, hx0⟩ : ∃ x, x = l[r'] := ⟨_, rfl⟩
        rw [← hx0] at g1 hxv hos hss
        have g2 : seg cs (o + (r' : Int).toNat * 39) 35 = some (dvC x.to) := sg_seg g1 (ro_to hxv) (by omega)
        have g3 : nth cs (o + (r' : Int).toNat * 39 + 35) = some (.int .u64 x.nb) := sg_nth g1 (ro_nb hxv) (by omega)
        have g4 : seg cs (o + (r' : Int).toNat * 39 + 36) 2 = some (diC x.said) := sg_seg g1 (ro_said hxv) (by omega)
        have g5 : nth cs (o + (r' : Int).toNat * 39 + 37) = some (.int .i64 x.said.met) := sg_nth g1 (ro_said_met hxv) (by omega)
        have g6 : nth cs (o + (r' : Int).toNat * 39 + 38) = some (.int .i64 x.til) := sg_nth g1 (ro_til hxv) (by omega)
        have g7 := dv_fits hxv.1
        have g8 := dv_eq hxv.1 ht
        replace M := M.perm (l' := (b19, .cells (dvC t).toArray 45 (0, 0)) :: (entS ++ (entO ++ ((bD, .cells (dvsC ds ++ junk).toArray 45 (0, 0)) :: (entR ++ ent))))) (by classical exact List.perm_iff_count.2 fun _ => by simp only [List.count_append, List.count_cons, List.count_nil, Nat.add_zero, Nat.zero_add] <;> ac_rfl)
        with_reducible refine c_seq (c_seq ?_)
        by_cases he : x.to = t
        · rw [decide_eq_true he] at g8
          refine c_draw 13 F (by kernel_rfl) ?_
          intro w1 hE hok
          have M1 := M.later hE
          refine mK hok rfl rfl (fun a' w' F' E' => o_move (F'.ev rfl) ⟨Ext.refl _ _, rfl⟩) ?_
          refine mK hok rfl rfl (fun a' w' F' E' => o_move (F'.ev rfl) ⟨Ext.refl _ _, rfl⟩) ?_
          refine mK hok rfl rfl (fun a' w' F' E' => o_lenSl (F'.ev rfl) ⟨Ext.refl _ _, rfl⟩) ?_
          refine mK hok rfl rfl (fun a' w' F' E' => o_lssT (F'.ev rfl) (F'.ev rfl) (by omega) ⟨Ext.refl _ _, rfl⟩) ?_
          refine mK hok rfl rfl (fun a' w' F' E' => o_move (F'.ev rfl) ⟨Ext.refl _ _, rfl⟩) ?_
          refine mKG hok rfl rfl rfl rfl (fun a' w' F' E' => o_move (F'.ev rfl) ⟨Ext.refl _ _, rfl⟩) ?_
          refine mKG hok rfl rfl rfl rfl (fun a' w' F' E' => o_move (F'.ev rfl) ⟨Ext.refl _ _, rfl⟩) ?_
          refine mKG hok rfl rfl rfl rfl (fun a' w' F' E' => o_indexSl (F'.ev rfl) (F'.ev rfl) (by omega) (by omega) ⟨Ext.refl _ _, rfl⟩) ?_
          refine mKG hok rfl rfl rfl rfl (fun a' w' F' E' => o_fieldAddr (F'.ev rfl) ⟨Ext.refl _ _, rfl⟩) ?_
          refine mKG hok rfl rfl rfl rfl (fun a' w' F' E' => o_loadWA (M1.later E') (F'.ev rfl) (by assumption) (by first | assumption | rfl) ⟨Ext.refl _ _, rfl⟩) ?_
          refine mKG hok rfl rfl rfl rfl (fun a' w' F' E' => o_loadA (M1.later E') (F'.ev rfl) (by repeat constructor) (by first | assumption | rfl) ⟨Ext.refl _ _, rfl⟩) ?_
          refine mKG hok rfl rfl rfl rfl (fun a' w' F' E' => o_eqlAT (F'.ev rfl) (F'.ev rfl) (by first | assumption | rfl) (by first | assumption | rfl) (by assumption) ⟨Ext.refl _ _, rfl⟩) ?_
          refine mK hok rfl rfl (fun a' w' F' E' => o_pickT (F'.ev rfl) (F'.ev rfl) ⟨Ext.refl _ _, rfl⟩) ?_
          (refine mDone rfl rfl ?_; clear F M; intro a w F hE2 hX hTT hDD hPP; have M := M1.later hE2; clear M1; clear hX; clear hE2; clear hok; clear hE; clear hTT; clear hDD; clear hPP; (try dsimp only at F))
          refine l_nil ?_
          dsimp only
          refine q_then ?_
          repeat (refine c_seq ?_)
          refine c_true F rfl rfl ?_
          refine c_skip ?_
          refine q_then ?_
          repeat (refine c_seq ?_)
          replace F := F.only [16, 20, 21, 19, 69, 68, 67, 12, 15, 17, 0, 1, 2, 4] rfl
          refine c_cut (fun a w => ∃ (zO2 : Value) (entO2 entS2 : List (Nat × Obj)), OwnS 55 2 zO2 (optsV now s cm t (l.take (r' + 1))).length (opsC (optsV now s cm t (l.take (r' + 1)))) entO2 ∧ OwnM (Value.int .u64) (.map (some bS)) (mapQ (saidV now s cm t (l.take (r' + 1)))) entS2 ∧ Frm a 190 [] [(16, .int .i64 r'), (20, zO2), (21, .map (some bS)), (19, .pointer (some ⟨b19, 0, none⟩)), (69, .int .i64 k), (68, .int .i64 ds.length), (67, .slice (some ⟨bD, 0, none⟩) ds.length capd), (12, .map (some b12)), (15, z), (17, .int .i64 i), (0, .int .i64 now), (1, .slice (some ⟨b, o, none⟩) l.length cap), (2, vs), (4, .slice qo old.length capo)] ∧ Mem [] W w (entS2 ++ (entO2 ++ ((b19, .cells (dvC t).toArray 45 (0, 0)) :: (bD, .cells (dvsC ds ++ junk).toArray 45 (0, 0)) :: (entR ++ ent))))) ?_ ?_
          · rw [hos he, hss he]
            clear hos hss hend hL
            with_reducible refine c_block (c_seq (c_region ?_))
            refine sD F (o_move (F.ev rfl) ?_); clear F a; intro a F
            refine sD F (o_move (F.ev rfl) ?_); clear F a; intro a F
            refine sD F (o_move (F.ev rfl) ?_); clear F a; intro a F
            refine sD F (o_indexSl (F.ev rfl) (F.ev rfl) (by omega) (by omega) ?_); clear F a; intro a F
            refine sD F (o_fieldAddr (F.ev rfl) ?_); clear F a; intro a F
            refine sD F (o_loadW1 M (F.ev rfl) (by assumption) (by first | assumption | rfl) ?_); clear F a; intro a F
            (refine sD F (o_lookup2 keyE_law zero_iR (hO.at_ (fun p hp => M.at_ p (by simp [hp]))) (fun _ _ => trivial) (a := x.nb) trivial (F.ev rfl) (F.ev rfl) ?_); clear F a; intro a F)
            rw [getA_mapI] at F
            cases hc : getA x.nb cm with
            | none =>
              rw [hc] at F
              have hv0 : optV now s cm t x = none := by unfold optV; rw [hc]
              rw [hv0]
              refine sD F (o_move (F.ev rfl) ?_); clear F a; intro a F
              refine sD F (o_extract (F.ev rfl) rfl ?_); clear F a; intro a F
              refine sD F (o_extract (F.ev rfl) rfl ?_); clear F a; intro a F
              refine sD F (o_assign (F.ev rfl) ?_); clear F a; intro a F
              refine sD F (o_assign (F.ev rfl) ?_); clear F a; intro a F
              with_reducible refine l_nil (q_then (c_seq (c_seq ?_)))
              replace F := F.only [16, 20, 21, 19, 69, 68, 67, 12, 15, 17, 0, 1, 2, 4, 22, 23] rfl
              refine c_draw 23 F (by kernel_rfl) ?_
              intro w1 hE hok
              have M1 := M.later hE
              refine mK hok rfl rfl (fun a' w' F' E' => o_move (F'.ev rfl) ⟨Ext.refl _ _, rfl⟩) ?_
              refine mK hok rfl rfl (fun a' w' F' E' => o_not (F'.ev rfl) ⟨Ext.refl _ _, rfl⟩) ?_
              refine mK hok rfl rfl (fun a' w' F' E' => o_move (F'.ev rfl) ⟨Ext.refl _ _, rfl⟩) ?_
              refine mOff hok rfl rfl rfl rfl rfl ?_
              refine mOff hok rfl rfl rfl rfl rfl ?_
              refine mOff hok rfl rfl rfl rfl rfl ?_
              refine mOff hok rfl rfl rfl rfl rfl ?_
              refine mOff hok rfl rfl rfl rfl rfl ?_
              refine mOff hok rfl rfl rfl rfl rfl ?_
              refine mOff hok rfl rfl rfl rfl rfl ?_
              refine mK hok rfl rfl (fun a' w' F' E' => o_pickT (F'.ev rfl) (F'.ev rfl) ⟨Ext.refl _ _, rfl⟩) ?_
              refine mK hok rfl rfl (fun a' w' F' E' => o_move (F'.ev rfl) ⟨Ext.refl _ _, rfl⟩) ?_
              refine mOff hok rfl rfl rfl rfl rfl ?_
              refine mOff hok rfl rfl rfl rfl rfl ?_
              refine mOff hok rfl rfl rfl rfl rfl ?_
              refine mOff hok rfl rfl rfl rfl rfl ?_
              refine mOff hok rfl rfl rfl rfl rfl ?_
              refine mOff hok rfl rfl rfl rfl rfl ?_
              refine mOff hok rfl rfl rfl rfl rfl ?_
              refine mOff hok rfl rfl rfl rfl rfl ?_
              refine mOff hok rfl rfl rfl rfl rfl ?_
              refine mOff hok rfl rfl rfl rfl rfl ?_
              refine mK hok rfl rfl (fun a' w' F' E' => o_pickT (F'.ev rfl) (F'.ev rfl) ⟨Ext.refl _ _, rfl⟩) ?_
              (refine mDone rfl rfl ?_; clear F M; intro a w F hE2 hX hTT hDD hPP; have M := M1.later hE2; clear M1; clear hX; clear hE2; clear hok; clear hE; clear hTT; clear hDD; clear hPP; (try dsimp only at F))
              with_reducible refine l_nil (q_then ?_)
              refine c_true F rfl rfl ?_
              with_reducible refine c_exit (q_thenX (q_inBX ?_))
              exact ⟨zO, entO, entS, by simpa using hOO, by simpa using hOS, F.only [16, 20, 21, 19, 69, 68, 67, 12, 15, 17, 0, 1, 2, 4] rfl, M.perm (by classical exact List.perm_iff_count.2 fun _ => by simp only [List.count_append, List.count_cons, List.count_nil, Nat.add_zero, Nat.zero_add] <;> ac_rfl)⟩
            | some c =>
              rw [hc] at F
              refine sD F (o_move (F.ev rfl) ?_); clear F a; intro a F
              refine sD F (o_extract (F.ev rfl) rfl ?_); clear F a; intro a F
              refine sD F (o_extract (F.ev rfl) rfl ?_); clear F a; intro a F
              refine sD F (o_assign (F.ev rfl) ?_); clear F a; intro a F
              refine sD F (o_assign (F.ev rfl) ?_); clear F a; intro a F
              with_reducible refine l_nil (q_then (c_seq (c_seq ?_)))
              replace F := F.only [16, 20, 21, 19, 69, 68, 67, 12, 15, 17, 0, 1, 2, 4, 22, 23] rfl
              by_cases c6 : x.til ≤ now
              · have hv0 : optV now s cm t x = none := by unfold optV; rw [hc]; dsimp only; rw [decide_eq_true c6]; rfl
                rw [hv0]
                refine c_draw 23 F (by kernel_rfl) ?_
                intro w1 hE hok
                have M1 := M.later hE
                refine mK hok rfl rfl (fun a' w' F' E' => o_move (F'.ev rfl) ⟨Ext.refl _ _, rfl⟩) ?_
                refine mK hok rfl rfl (fun a' w' F' E' => o_not (F'.ev rfl) ⟨Ext.refl _ _, rfl⟩) ?_
                refine mK hok rfl rfl (fun a' w' F' E' => o_move (F'.ev rfl) ⟨Ext.refl _ _, rfl⟩) ?_
                refine mKG hok rfl rfl rfl rfl (fun a' w' F' E' => o_move (F'.ev rfl) ⟨Ext.refl _ _, rfl⟩) ?_
                refine mKG hok rfl rfl rfl rfl (fun a' w' F' E' => o_move (F'.ev rfl) ⟨Ext.refl _ _, rfl⟩) ?_
                refine mKG hok rfl rfl rfl rfl (fun a' w' F' E' => o_indexSl (F'.ev rfl) (F'.ev rfl) (by omega) (by omega) ⟨Ext.refl _ _, rfl⟩) ?_
                refine mKG hok rfl rfl rfl rfl (fun a' w' F' E' => o_fieldAddr (F'.ev rfl) ⟨Ext.refl _ _, rfl⟩) ?_
                refine mKG hok rfl rfl rfl rfl (fun a' w' F' E' => o_loadW1 (M1.later E') (F'.ev rfl) (by assumption) (by first | assumption | rfl) ⟨Ext.refl _ _, rfl⟩) ?_
                refine mKG hok rfl rfl rfl rfl (fun a' w' F' E' => o_move (F'.ev rfl) ⟨Ext.refl _ _, rfl⟩) ?_
                refine mKG hok rfl rfl rfl rfl (fun a' w' F' E' => o_leqT (F'.ev rfl) (F'.ev rfl) (by omega) ⟨Ext.refl _ _, rfl⟩) ?_
                refine mK hok rfl rfl (fun a' w' F' E' => o_pickF (F'.ev rfl) (F'.ev rfl) ⟨Ext.refl _ _, rfl⟩) ?_
                refine mK hok rfl rfl (fun a' w' F' E' => o_move (F'.ev rfl) ⟨Ext.refl _ _, rfl⟩) ?_
                refine mOff hok rfl rfl rfl rfl rfl ?_
                refine mOff hok rfl rfl rfl rfl rfl ?_
                refine mOff hok rfl rfl rfl rfl rfl ?_
                refine mOff hok rfl rfl rfl rfl rfl ?_
                refine mOff hok rfl rfl rfl rfl rfl ?_
                refine mOff hok rfl rfl rfl rfl rfl ?_
                refine mOff hok rfl rfl rfl rfl rfl ?_
                refine mOff hok rfl rfl rfl rfl rfl ?_
                refine mOff hok rfl rfl rfl rfl rfl ?_
                refine mOff hok rfl rfl rfl rfl rfl ?_
                refine mK hok rfl rfl (fun a' w' F' E' => o_pickT (F'.ev rfl) (F'.ev rfl) ⟨Ext.refl _ _, rfl⟩) ?_
                (refine mDone rfl rfl ?_; clear F M; intro a w F hE2 hX hTT hDD hPP; have M := M1.later hE2; clear M1; clear hX; clear hE2; clear hok; clear hE; clear hTT; clear hDD; clear hPP; (try dsimp only at F))
                with_reducible refine l_nil (q_then ?_)
                refine c_true F rfl rfl ?_
                with_reducible refine c_exit (q_thenX (q_inBX ?_))
                exact ⟨zO, entO, entS, by simpa using hOO, by simpa using hOS, F.only [16, 20, 21, 19, 69, 68, 67, 12, 15, 17, 0, 1, 2, 4] rfl, M.perm (by classical exact List.perm_iff_count.2 fun _ => by simp only [List.count_append, List.count_cons, List.count_nil, Nat.add_zero, Nat.zero_add] <;> ac_rfl)⟩
              have hfe := scfeas_c s hs' c2 vs now c5 t ht hvt x.said
              cases c7 : feasV s now t x.said
              · have hv0 : optV now s cm t x = none := by unfold optV; rw [hc]; dsimp only; rw [decide_eq_false c6, c7]; rfl
                rw [hv0]
                rw [c7] at hfe
                refine c_draw 23 F (by kernel_rfl) ?_
                intro w1 hE hok
                have M1 := M.later hE
                refine mK hok rfl rfl (fun a' w' F' E' => o_move (F'.ev rfl) ⟨Ext.refl _ _, rfl⟩) ?_
                refine mK hok rfl rfl (fun a' w' F' E' => o_not (F'.ev rfl) ⟨Ext.refl _ _, rfl⟩) ?_
                refine mK hok rfl rfl (fun a' w' F' E' => o_move (F'.ev rfl) ⟨Ext.refl _ _, rfl⟩) ?_
                refine mKG hok rfl rfl rfl rfl (fun a' w' F' E' => o_move (F'.ev rfl) ⟨Ext.refl _ _, rfl⟩) ?_
                refine mKG hok rfl rfl rfl rfl (fun a' w' F' E' => o_move (F'.ev rfl) ⟨Ext.refl _ _, rfl⟩) ?_
                refine mKG hok rfl rfl rfl rfl (fun a' w' F' E' => o_indexSl (F'.ev rfl) (F'.ev rfl) (by omega) (by omega) ⟨Ext.refl _ _, rfl⟩) ?_
                refine mKG hok rfl rfl rfl rfl (fun a' w' F' E' => o_fieldAddr (F'.ev rfl) ⟨Ext.refl _ _, rfl⟩) ?_
                refine mKG hok rfl rfl rfl rfl (fun a' w' F' E' => o_loadW1 (M1.later E') (F'.ev rfl) (by assumption) (by first | assumption | rfl) ⟨Ext.refl _ _, rfl⟩) ?_
                refine mKG hok rfl rfl rfl rfl (fun a' w' F' E' => o_move (F'.ev rfl) ⟨Ext.refl _ _, rfl⟩) ?_
                refine mKG hok rfl rfl rfl rfl (fun a' w' F' E' => o_leqF (F'.ev rfl) (F'.ev rfl) (by omega) ⟨Ext.refl _ _, rfl⟩) ?_
                refine mK hok rfl rfl (fun a' w' F' E' => o_pickF (F'.ev rfl) (F'.ev rfl) ⟨Ext.refl _ _, rfl⟩) ?_
                refine mK hok rfl rfl (fun a' w' F' E' => o_move (F'.ev rfl) ⟨Ext.refl _ _, rfl⟩) ?_
                refine mKG hok rfl rfl rfl rfl (fun a' w' F' E' => o_move (F'.ev rfl) ⟨Ext.refl _ _, rfl⟩) ?_
                refine mKG hok rfl rfl rfl rfl (fun a' w' F' E' => o_move (F'.ev rfl) ⟨Ext.refl _ _, rfl⟩) ?_
                refine mKG hok rfl rfl rfl rfl (fun a' w' F' E' => o_loadA (M1.later E') (F'.ev rfl) (by repeat constructor) (by first | assumption | rfl) ⟨Ext.refl _ _, rfl⟩) ?_
                refine mKG hok rfl rfl rfl rfl (fun a' w' F' E' => o_move (F'.ev rfl) ⟨Ext.refl _ _, rfl⟩) ?_
                refine mKG hok rfl rfl rfl rfl (fun a' w' F' E' => o_move (F'.ev rfl) ⟨Ext.refl _ _, rfl⟩) ?_
                refine mKG hok rfl rfl rfl rfl (fun a' w' F' E' => o_indexSl (F'.ev rfl) (F'.ev rfl) (by omega) (by omega) ⟨Ext.refl _ _, rfl⟩) ?_
                refine mKG hok rfl rfl rfl rfl (fun a' w' F' E' => o_fieldAddr (F'.ev rfl) ⟨Ext.refl _ _, rfl⟩) ?_
                refine mKG hok rfl rfl rfl rfl (fun a' w' F' E' => o_loadWA (M1.later E') (F'.ev rfl) (by assumption) (by first | assumption | rfl) ⟨Ext.refl _ _, rfl⟩) ?_
                (refine mKG hok rfl rfl rfl rfl (fun a' w' F' E' => o_call (F'.ev rfl) (F'.evs rfl) (Cal.mono (hfe _ (hSs.later (M1.later E').ext)) fun _ _ hh => ⟨hh.2, hh.1⟩)) ?_)
                refine mKG hok rfl rfl rfl rfl (fun a' w' F' E' => o_not (F'.ev rfl) ⟨Ext.refl _ _, rfl⟩) ?_
                refine mK hok rfl rfl (fun a' w' F' E' => o_pickF (F'.ev rfl) (F'.ev rfl) ⟨Ext.refl _ _, rfl⟩) ?_
                (refine mDone rfl rfl ?_; clear F M; intro a w F hE2 hX hTT hDD hPP; have M := M1.later hE2; clear M1; clear hX; clear hE2; clear hok; clear hE; clear hTT; clear hDD; clear hPP; (try dsimp only at F))
                with_reducible refine l_nil (q_then ?_)
                refine c_true F rfl rfl ?_
                with_reducible refine c_exit (q_thenX (q_inBX ?_))
                exact ⟨zO, entO, entS, by simpa using hOO, by simpa using hOS, F.only [16, 20, 21, 19, 69, 68, 67, 12, 15, 17, 0, 1, 2, 4] rfl, M.perm (by classical exact List.perm_iff_count.2 fun _ => by simp only [List.count_append, List.count_cons, List.count_nil, Nat.add_zero, Nat.zero_add] <;> ac_rfl)⟩
              have hv0 : optV now s cm t x = some ⟨x.nb, addM x.said.met c⟩ := by unfold optV; rw [hc]; dsimp only; rw [decide_eq_false c6, c7]; rfl
              rw [hv0]
              rw [c7] at hfe
              refine c_draw 23 F (by kernel_rfl) ?_
              intro w1 hE hok
              have M1 := M.later hE
              refine mK hok rfl rfl (fun a' w' F' E' => o_move (F'.ev rfl) ⟨Ext.refl _ _, rfl⟩) ?_
              refine mK hok rfl rfl (fun a' w' F' E' => o_not (F'.ev rfl) ⟨Ext.refl _ _, rfl⟩) ?_
              refine mK hok rfl rfl (fun a' w' F' E' => o_move (F'.ev rfl) ⟨Ext.refl _ _, rfl⟩) ?_
              refine mKG hok rfl rfl rfl rfl (fun a' w' F' E' => o_move (F'.ev rfl) ⟨Ext.refl _ _, rfl⟩) ?_
              refine mKG hok rfl rfl rfl rfl (fun a' w' F' E' => o_move (F'.ev rfl) ⟨Ext.refl _ _, rfl⟩) ?_
              refine mKG hok rfl rfl rfl rfl (fun a' w' F' E' => o_indexSl (F'.ev rfl) (F'.ev rfl) (by omega) (by omega) ⟨Ext.refl _ _, rfl⟩) ?_
              refine mKG hok rfl rfl rfl rfl (fun a' w' F' E' => o_fieldAddr (F'.ev rfl) ⟨Ext.refl _ _, rfl⟩) ?_
              refine mKG hok rfl rfl rfl rfl (fun a' w' F' E' => o_loadW1 (M1.later E') (F'.ev rfl) (by assumption) (by first | assumption | rfl) ⟨Ext.refl _ _, rfl⟩) ?_
              refine mKG hok rfl rfl rfl rfl (fun a' w' F' E' => o_move (F'.ev rfl) ⟨Ext.refl _ _, rfl⟩) ?_
              refine mKG hok rfl rfl rfl rfl (fun a' w' F' E' => o_leqF (F'.ev rfl) (F'.ev rfl) (by omega) ⟨Ext.refl _ _, rfl⟩) ?_
              refine mK hok rfl rfl (fun a' w' F' E' => o_pickF (F'.ev rfl) (F'.ev rfl) ⟨Ext.refl _ _, rfl⟩) ?_
              refine mK hok rfl rfl (fun a' w' F' E' => o_move (F'.ev rfl) ⟨Ext.refl _ _, rfl⟩) ?_
              refine mKG hok rfl rfl rfl rfl (fun a' w' F' E' => o_move (F'.ev rfl) ⟨Ext.refl _ _, rfl⟩) ?_
              refine mKG hok rfl rfl rfl rfl (fun a' w' F' E' => o_move (F'.ev rfl) ⟨Ext.refl _ _, rfl⟩) ?_
              refine mKG hok rfl rfl rfl rfl (fun a' w' F' E' => o_loadA (M1.later E') (F'.ev rfl) (by repeat constructor) (by first | assumption | rfl) ⟨Ext.refl _ _, rfl⟩) ?_
              refine mKG hok rfl rfl rfl rfl (fun a' w' F' E' => o_move (F'.ev rfl) ⟨Ext.refl _ _, rfl⟩) ?_
              refine mKG hok rfl rfl rfl rfl (fun a' w' F' E' => o_move (F'.ev rfl) ⟨Ext.refl _ _, rfl⟩) ?_
              refine mKG hok rfl rfl rfl rfl (fun a' w' F' E' => o_indexSl (F'.ev rfl) (F'.ev rfl) (by omega) (by omega) ⟨Ext.refl _ _, rfl⟩) ?_
              refine mKG hok rfl rfl rfl rfl (fun a' w' F' E' => o_fieldAddr (F'.ev rfl) ⟨Ext.refl _ _, rfl⟩) ?_
              refine mKG hok rfl rfl rfl rfl (fun a' w' F' E' => o_loadWA (M1.later E') (F'.ev rfl) (by assumption) (by first | assumption | rfl) ⟨Ext.refl _ _, rfl⟩) ?_
              (refine mKG hok rfl rfl rfl rfl (fun a' w' F' E' => o_call (F'.ev rfl) (F'.evs rfl) (Cal.mono (hfe _ (hSs.later (M1.later E').ext)) fun _ _ hh => ⟨hh.2, hh.1⟩)) ?_)
              refine mKG hok rfl rfl rfl rfl (fun a' w' F' E' => o_not (F'.ev rfl) ⟨Ext.refl _ _, rfl⟩) ?_
              refine mK hok rfl rfl (fun a' w' F' E' => o_pickF (F'.ev rfl) (F'.ev rfl) ⟨Ext.refl _ _, rfl⟩) ?_
              (refine mDone rfl rfl ?_; clear F M; intro a w F hE2 hX hTT hDD hPP; have M := M1.later hE2; clear M1; clear hX; clear hE2; clear hok; clear hE; clear hTT; clear hDD; clear hPP; (try dsimp only at F))
              with_reducible refine l_nil (q_then ?_)
              refine c_false F rfl rfl ?_
              with_reducible refine c_skip (q_then (c_seq ?_))
              clear hov hoE hYi hdk2 hdk3 htk hfe hre
              have hol : (optsV now s cm t (l.take r')).length ≤ 512 := opts_len (by rw [List.length_take]; omega)
              replace F := F.only [16, 20, 21, 19, 69, 68, 67, 12, 15, 17, 0, 1, 2, 4, 22] rfl
              replace M := M.perm (l' := (b19, .cells (dvC t).toArray 45 (0, 0)) :: (bD, .cells (dvsC ds ++ junk).toArray 45 (0, 0)) :: (entO ++ (entR ++ (ent ++ entS)))) (by classical exact List.perm_iff_count.2 fun _ => by simp only [List.count_append, List.count_cons, List.count_nil, Nat.add_zero, Nat.zero_add] <;> ac_rfl)
              refine c_draw 11 F (by kernel_rfl) ?_
              intro w1 hE hok
              have M1 := M.later hE
              refine mK hok rfl rfl (fun a' w' F' E' => o_move (F'.ev rfl) ⟨Ext.refl _ _, rfl⟩) ?_
              refine mK hok rfl rfl (fun a' w' F' E' => o_move (F'.ev rfl) ⟨Ext.refl _ _, rfl⟩) ?_
              refine mK hok rfl rfl (fun a' w' F' E' => o_move (F'.ev rfl) ⟨Ext.refl _ _, rfl⟩) ?_
              refine mK hok rfl rfl (fun a' w' F' E' => o_indexSl (F'.ev rfl) (F'.ev rfl) (by omega) (by omega) ⟨Ext.refl _ _, rfl⟩) ?_
              refine mK hok rfl rfl (fun a' w' F' E' => o_fieldAddr (F'.ev rfl) ⟨Ext.refl _ _, rfl⟩) ?_
              refine mK hok rfl rfl (fun a' w' F' E' => o_loadW1 (M1.later E') (F'.ev rfl) (by assumption) (by first | assumption | rfl) ⟨Ext.refl _ _, rfl⟩) ?_
              refine mK hok rfl rfl (fun a' w' F' E' => o_move (F'.ev rfl) ⟨Ext.refl _ _, rfl⟩) ?_
              refine mK hok rfl rfl (fun a' w' F' E' => o_move (F'.ev rfl) ⟨Ext.refl _ _, rfl⟩) ?_
              refine mK hok rfl rfl (fun a' w' F' E' => o_indexSl (F'.ev rfl) (F'.ev rfl) (by omega) (by omega) ⟨Ext.refl _ _, rfl⟩) ?_
              refine mK hok rfl rfl (fun a' w' F' E' => o_fieldAddr (F'.ev rfl) ⟨Ext.refl _ _, rfl⟩) ?_
              refine mK hok rfl rfl (fun a' w' F' E' => o_loadWA (M1.later E') (F'.ev rfl) (by assumption) (by first | assumption | rfl) ⟨Ext.refl _ _, rfl⟩) ?_
              (refine mDone rfl rfl ?_; clear F M; intro a w F hE2 hX hTT hDD hPP; have M := M1.later hE2; clear M1; clear hX; clear hE2; clear hok; clear hE; clear hTT; clear hDD; clear hPP; (try dsimp only at F))
              (refine stepN rfl F (o_mapUpdate (u := diV x.said) keyE_law M hOS (.cons (.cons (.app (.app (.app .here))))) (fun _ _ => trivial) (a := x.nb) trivial (F.ev rfl) (F.ev rfl) (F.ev rfl) ?_); clear F M; intro entS2 w hOS2 M a F)
              replace M := M.perm (l' := (b19, .cells (dvC t).toArray 45 (0, 0)) :: (bD, .cells (dvsC ds ++ junk).toArray 45 (0, 0)) :: (entS2 ++ (entR ++ (ent ++ entO)))) (by classical exact List.perm_iff_count.2 fun _ => by simp only [List.count_append, List.count_cons, List.count_nil, Nat.add_zero, Nat.zero_add] <;> ac_rfl)
              with_reducible refine l_nil (q_then ?_)
              replace F := F.only [16, 20, 21, 19, 69, 68, 67, 12, 15, 17, 0, 1, 2, 4, 22] rfl
              refine c_draw 16 F (by kernel_rfl) ?_
              intro w1 hE hok
              have M1 := M.later hE
              refine mK hok rfl rfl (fun a' w' F' E' => o_move (F'.ev rfl) ⟨Ext.refl _ _, rfl⟩) ?_
              refine mK hok rfl rfl (fun a' w' F' E' => o_move (F'.ev rfl) ⟨Ext.refl _ _, rfl⟩) ?_
              refine mK hok rfl rfl (fun a' w' F' E' => o_move (F'.ev rfl) ⟨Ext.refl _ _, rfl⟩) ?_
              refine mK hok rfl rfl (fun a' w' F' E' => o_indexSl (F'.ev rfl) (F'.ev rfl) (by omega) (by omega) ⟨Ext.refl _ _, rfl⟩) ?_
              refine mK hok rfl rfl (fun a' w' F' E' => o_fieldAddr (F'.ev rfl) ⟨Ext.refl _ _, rfl⟩) ?_
              refine mK hok rfl rfl (fun a' w' F' E' => o_loadW1 (M1.later E') (F'.ev rfl) (by assumption) (by first | assumption | rfl) ⟨Ext.refl _ _, rfl⟩) ?_
              refine mK hok rfl rfl (fun a' w' F' E' => o_move (F'.ev rfl) ⟨Ext.refl _ _, rfl⟩) ?_
              refine mK hok rfl rfl (fun a' w' F' E' => o_move (F'.ev rfl) ⟨Ext.refl _ _, rfl⟩) ?_
              refine mK hok rfl rfl (fun a' w' F' E' => o_indexSl (F'.ev rfl) (F'.ev rfl) (by omega) (by omega) ⟨Ext.refl _ _, rfl⟩) ?_
              refine mK hok rfl rfl (fun a' w' F' E' => o_fieldAddr (F'.ev rfl) ⟨Ext.refl _ _, rfl⟩) ?_
              refine mK hok rfl rfl (fun a' w' F' E' => o_fieldAddr (F'.ev rfl) ⟨Ext.refl _ _, rfl⟩) ?_
              refine mK hok rfl rfl (fun a' w' F' E' => o_loadW1 (M1.later E') (F'.ev rfl) (by assumption) (by first | assumption | rfl) ⟨Ext.refl _ _, rfl⟩) ?_
              refine mK hok rfl rfl (fun a' w' F' E' => o_move (F'.ev rfl) ⟨Ext.refl _ _, rfl⟩) ?_
              (refine mK hok rfl rfl (fun a' w' F' E' => o_call (F'.ev rfl) (F'.evs rfl) (Cal.mono (addM_c x.said.met c _) fun _ _ hh => ⟨hh.2, hh.1⟩)) ?_)
              refine mK hok rfl rfl (fun a' w' F' E' => o_build F' rfl rfl ⟨Ext.refl _ _, rfl⟩) ?_
              refine mX (V := NewP w1.heap.size (PhO ⟨x.nb, addM x.said.met c⟩)) hok rfl rfl (NewP.stays _ _) (fun a' w' F' E' D' => bsO ⟨x.nb, addM x.said.met c⟩ F' E' rfl) ?_
              (refine mDone rfl rfl ?_; clear F M; intro a w F hE2 hX hTT hDD hPP; have M := M1.later hE2; (try dsimp only at F); obtain ⟨new, hΦ, hN⟩ := hX 15 _ rfl; replace M := M.joinNew M1 hN; obtain ⟨b148, hr, rfl⟩ := hΦ; replace F := F.know (d := 148) hr; clear hr; clear hN; clear M1; clear hX; clear hE2; clear hok; clear hE; clear hTT; clear hDD; clear hPP)
              replace M := M.perm (l' := (b148, opO ⟨x.nb, addM x.said.met c⟩) :: (b19, .cells (dvC t).toArray 45 (0, 0)) :: (bD, .cells (dvsC ds ++ junk).toArray 45 (0, 0)) :: (entS2 ++ (entR ++ (ent ++ entO)))) (by classical exact List.perm_iff_count.2 fun _ => by simp only [List.count_append, List.count_cons, List.count_nil, Nat.add_zero, Nat.zero_add] <;> ac_rfl)
              (refine sD F (o_append hOO M (.cons (.cons (.cons (.app (.app (.app .here)))))) (F.ev rfl) (F.ev rfl) (SrcOf.cells' (M.heap .here) (sg_all (op_len (o := ⟨x.nb, addM x.said.met c⟩) trivial)) (op_one _)) (by omega) (by omega) ?_); clear F M; intro zO2 entO2 w hOO2 M a F)
              refine sD F (o_assign (F.ev rfl) ?_); clear F a; intro a F
              with_reducible refine l_nil (q_inB ?_)
              refine ⟨zO2, entO2, entS2, ?_, ?_, F.only [16, 20, 21, 19, 69, 68, 67, 12, 15, 17, 0, 1, 2, 4] rfl, (M.perm (l' := (entS2 ++ (entO2 ++ ((b19, .cells (dvC t).toArray 45 (0, 0)) :: (bD, .cells (dvsC ds ++ junk).toArray 45 (0, 0)) :: (entR ++ ent)))) ++ [(b148, opO ⟨x.nb, addM x.said.met c⟩)]) (by classical exact List.perm_iff_count.2 fun _ => by simp only [List.count_append, List.count_cons, List.count_nil, Nat.add_zero, Nat.zero_add] <;> ac_rfl)).sub (List.sublist_append_left _ _)⟩
              · rw [show (some (⟨x.nb, addM x.said.met c⟩ : OptV)).toList = [⟨x.nb, addM x.said.met c⟩] from rfl, List.length_append]
                show OwnS _ 2 _ _ (encL opC _) _
                rw [encL_app, encL_one]
                exact hOO2
              · rw [if_pos (show (some (⟨x.nb, addM x.said.met c⟩ : OptV)).isSome = true from rfl)]
                unfold mapQ
                rw [← putA_map]
                exact hOS2
          · clear F M
            rintro a w ⟨zO2, entO2, entS2, hOO2, hOS2, F, M⟩
            with_reducible refine q_then (c_region ?_)
            refine sD F (o_move (F.ev rfl) ?_); clear F a; intro a F
            refine sD F (o_add (F.ev rfl) (F.ev rfl) (w_i64 (by omega) (by omega)) ?_); clear F a; intro a F
            refine sD F (o_assign (F.ev rfl) ?_); clear F a; intro a F
            with_reducible refine l_nil (q_then ?_)
            exact ⟨_, by omega, r' + 1, zO2, entO2, entS2, rfl, by omega, by omega, fun j hj h1 h2 => by
              rcases Nat.lt_or_ge j r' with h3 | h3
              · exact hre j hj h1 h3
              · obtain rfl : j = r' := by omega
                rw [← hx0]; exact he, hOO2, hOS2, F.only [16, 20, 21, 19, 69, 68, 67, 12, 15, 17, 0, 1, 2, 4] rfl, M⟩
        · rw [decide_eq_false he] at g8
          refine c_draw 13 F (by kernel_rfl) ?_
          intro w1 hE hok
          have M1 := M.later hE
          refine mK hok rfl rfl (fun a' w' F' E' => o_move (F'.ev rfl) ⟨Ext.refl _ _, rfl⟩) ?_
          refine mK hok rfl rfl (fun a' w' F' E' => o_move (F'.ev rfl) ⟨Ext.refl _ _, rfl⟩) ?_
          refine mK hok rfl rfl (fun a' w' F' E' => o_lenSl (F'.ev rfl) ⟨Ext.refl _ _, rfl⟩) ?_
          refine mK hok rfl rfl (fun a' w' F' E' => o_lssT (F'.ev rfl) (F'.ev rfl) (by omega) ⟨Ext.refl _ _, rfl⟩) ?_
          refine mK hok rfl rfl (fun a' w' F' E' => o_move (F'.ev rfl) ⟨Ext.refl _ _, rfl⟩) ?_
          refine mKG hok rfl rfl rfl rfl (fun a' w' F' E' => o_move (F'.ev rfl) ⟨Ext.refl _ _, rfl⟩) ?_
          refine mKG hok rfl rfl rfl rfl (fun a' w' F' E' => o_move (F'.ev rfl) ⟨Ext.refl _ _, rfl⟩) ?_
          refine mKG hok rfl rfl rfl rfl (fun a' w' F' E' => o_indexSl (F'.ev rfl) (F'.ev rfl) (by omega) (by omega) ⟨Ext.refl _ _, rfl⟩) ?_
          refine mKG hok rfl rfl rfl rfl (fun a' w' F' E' => o_fieldAddr (F'.ev rfl) ⟨Ext.refl _ _, rfl⟩) ?_
          refine mKG hok rfl rfl rfl rfl (fun a' w' F' E' => o_loadWA (M1.later E') (F'.ev rfl) (by assumption) (by first | assumption | rfl) ⟨Ext.refl _ _, rfl⟩) ?_
          refine mKG hok rfl rfl rfl rfl (fun a' w' F' E' => o_loadA (M1.later E') (F'.ev rfl) (by repeat constructor) (by first | assumption | rfl) ⟨Ext.refl _ _, rfl⟩) ?_
          refine mKG hok rfl rfl rfl rfl (fun a' w' F' E' => o_eqlAF (F'.ev rfl) (F'.ev rfl) (by first | assumption | rfl) (by first | assumption | rfl) (by assumption) ⟨Ext.refl _ _, rfl⟩) ?_
          refine mK hok rfl rfl (fun a' w' F' E' => o_pickT (F'.ev rfl) (F'.ev rfl) ⟨Ext.refl _ _, rfl⟩) ?_
          (refine mDone rfl rfl ?_; clear F M; intro a w F hE2 hX hTT hDD hPP; have M := M1.later hE2; clear M1; clear hX; clear hE2; clear hok; clear hE; clear hTT; clear hDD; clear hPP; (try dsimp only at F))
          with_reducible refine l_nil (q_then ?_)
          refine c_false F rfl rfl ?_
          with_reducible refine c_exit (q_thenX (q_thenX (q_inBX ?_)))
          obtain ⟨h1, h2, h3⟩ := hend (fun hj => by rw [← hx0]; exact he)
          exact ⟨r', zO, entO, entS, h1, by rw [h2]; exact hOO, by rw [h3]; exact hOS, F.only [16, 20, 21, 19, 69, 68, 67, 12, 15, 17, 0, 1, 2, 4] rfl, M.perm (by classical exact List.perm_iff_count.2 fun _ => by simp only [List.count_append, List.count_cons, List.count_nil, Nat.add_zero, Nat.zero_add] <;> ac_rfl)⟩
      · refine c_seq ?_
        refine c_seq ?_
        refine c_draw 13 F (by kernel_rfl) ?_
        intro w1 hE hok
        have M1 := M.later hE
        refine mK hok rfl rfl (fun a' w' F' E' => o_move (F'.ev rfl) ⟨Ext.refl _ _, rfl⟩) ?_
        refine mK hok rfl rfl (fun a' w' F' E' => o_move (F'.ev rfl) ⟨Ext.refl _ _, rfl⟩) ?_
        refine mK hok rfl rfl (fun a' w' F' E' => o_lenSl (F'.ev rfl) ⟨Ext.refl _ _, rfl⟩) ?_
        refine mK hok rfl rfl (fun a' w' F' E' => o_lssF (F'.ev rfl) (F'.ev rfl) (by omega) ⟨Ext.refl _ _, rfl⟩) ?_
        refine mK hok rfl rfl (fun a' w' F' E' => o_move (F'.ev rfl) ⟨Ext.refl _ _, rfl⟩) ?_
        refine mOff hok rfl rfl rfl rfl rfl ?_
        refine mOff hok rfl rfl rfl rfl rfl ?_
        refine mOff hok rfl rfl rfl rfl rfl ?_
        refine mOff hok rfl rfl rfl rfl rfl ?_
        refine mOff hok rfl rfl rfl rfl rfl ?_
        refine mOff hok rfl rfl rfl rfl rfl ?_
        refine mOff hok rfl rfl rfl rfl rfl ?_
        refine mK hok rfl rfl (fun a' w' F' E' => o_pickF (F'.ev rfl) (F'.ev rfl) ⟨Ext.refl _ _, rfl⟩) ?_
        (refine mDone rfl rfl ?_; clear F M; intro a w F hE2 hX hTT hDD hPP; have M := M1.later hE2; clear M1; clear hX; clear hE2; clear hok; clear hE; clear hTT; clear hDD; clear hPP; (try dsimp only at F))
        with_reducible refine l_nil (q_then ?_)
        refine c_false F rfl rfl ?_
        with_reducible refine c_exit (q_thenX (q_thenX (q_inBX ?_)))
        obtain ⟨h1, h2, h3⟩ := hend (fun hj => absurd hj hlt2)
        exact ⟨r', zO, entO, entS, h1, by rw [h2]; exact hOO, by rw [h3]; exact hOS, F.only [16, 20, 21, 19, 69, 68, 67, 12, 15, 17, 0, 1, 2, 4] rfl, M⟩
    · clear F M
      rintro a w ⟨r1, zO, entO, entS, hYr1, hOO, hOS, F, M⟩
      clear hYr
      have hvO := hov t
      have hlO : (ds.take k).length = k := by rw [List.length_take]; omega
      have hlR : ((ds.take k).filterMap (selE now l s cm old)).length ≤ 1024 := by
        have := List.length_filterMap_le (selE now l s cm old) (ds.take k)
        omega
      refine q_then ?_
      repeat (refine c_seq ?_)
      replace M := M.perm (l' := ((b19, .cells (dvC t).toArray 45 (0, 0)) :: (bD, .cells (dvsC ds ++ junk).toArray 45 (0, 0)) :: (entS ++ (entO ++ (entR ++ ent))))) (by classical exact List.perm_iff_count.2 fun _ => by simp only [List.count_append, List.count_cons, List.count_nil, Nat.add_zero, Nat.zero_add] <;> ac_rfl)
      refine c_cut (fun a w => ∃ had : Bool, (had = true → ∃ hil : i < old.length, old[i].to = t) ∧ (had = false → ∀ hil : i < old.length, old[i].to ≠ t) ∧ Frm a 190 [] [(24, .bool had), (17, .int .i64 i), (16, .int .i64 r1), (20, zO), (21, .map (some bS)), (19, .pointer (some ⟨b19, 0, none⟩)), (69, .int .i64 k), (68, .int .i64 ds.length), (67, .slice (some ⟨bD, 0, none⟩) ds.length capd), (12, .map (some b12)), (15, z), (0, .int .i64 now), (1, .slice q l.length cap), (2, vs), (4, .slice qo old.length capo)] ∧ Mem [] W w ((b19, .cells (dvC t).toArray 45 (0, 0)) :: (bD, .cells (dvsC ds ++ junk).toArray 45 (0, 0)) :: (entS ++ (entO ++ (entR ++ ent))))) ?_ ?_
      · clear hov hoE hYi hdk2 hdk3 htk
        by_cases hil : i < old.length
        · obtain ⟨b, o, cs, t', fz, rfl, hb, hs⟩ := hmo (by omega)
          have g1 : seg cs (o + (i : Int).toNat * 40) 40 = some (inC old[i]) := seg_el (ins_len hy) hs hil (by omega)
          have hxv := hy _ (List.getElem_mem hil)
          obtain ⟨y, hy0⟩ : ∃ y, y = old[i] := ⟨_, rfl⟩
          rw [← hy0] at g1 hxv
          have g2 : seg cs (o + (i : Int).toNat * 40) 35 = some (dvC y.to) := sg_seg g1 (in_to hxv) (by omega)
          have g7 := dv_fits hxv.1
          have g8 := dv_eq hxv.1 ht
          by_cases he : y.to = t
          · rw [decide_eq_true he] at g8
            refine c_draw 13 F (by kernel_rfl) ?_
            intro w1 hE hok
            have M1 := M.later hE
            refine mK hok rfl rfl (fun a' w' F' E' => o_move (F'.ev rfl) ⟨Ext.refl _ _, rfl⟩) ?_
            refine mK hok rfl rfl (fun a' w' F' E' => o_move (F'.ev rfl) ⟨Ext.refl _ _, rfl⟩) ?_
            refine mK hok rfl rfl (fun a' w' F' E' => o_lenSl (F'.ev rfl) ⟨Ext.refl _ _, rfl⟩) ?_
            refine mK hok rfl rfl (fun a' w' F' E' => o_lssT (F'.ev rfl) (F'.ev rfl) (by omega) ⟨Ext.refl _ _, rfl⟩) ?_
            refine mK hok rfl rfl (fun a' w' F' E' => o_move (F'.ev rfl) ⟨Ext.refl _ _, rfl⟩) ?_
            refine mKG hok rfl rfl rfl rfl (fun a' w' F' E' => o_move (F'.ev rfl) ⟨Ext.refl _ _, rfl⟩) ?_
            refine mKG hok rfl rfl rfl rfl (fun a' w' F' E' => o_move (F'.ev rfl) ⟨Ext.refl _ _, rfl⟩) ?_
            refine mKG hok rfl rfl rfl rfl (fun a' w' F' E' => o_indexSl (F'.ev rfl) (F'.ev rfl) (by omega) (by omega) ⟨Ext.refl _ _, rfl⟩) ?_
            refine mKG hok rfl rfl rfl rfl (fun a' w' F' E' => o_fieldAddr (F'.ev rfl) ⟨Ext.refl _ _, rfl⟩) ?_
            refine mKG hok rfl rfl rfl rfl (fun a' w' F' E' => o_loadWA (M1.later E') (F'.ev rfl) (by assumption) (by first | assumption | rfl) ⟨Ext.refl _ _, rfl⟩) ?_
            refine mKG hok rfl rfl rfl rfl (fun a' w' F' E' => o_loadA (M1.later E') (F'.ev rfl) (by repeat constructor) (by first | assumption | rfl) ⟨Ext.refl _ _, rfl⟩) ?_
            refine mKG hok rfl rfl rfl rfl (fun a' w' F' E' => o_eqlAT (F'.ev rfl) (F'.ev rfl) (by first | assumption | rfl) (by first | assumption | rfl) (by assumption) ⟨Ext.refl _ _, rfl⟩) ?_
            refine mK hok rfl rfl (fun a' w' F' E' => o_pickT (F'.ev rfl) (F'.ev rfl) ⟨Ext.refl _ _, rfl⟩) ?_
            (refine mDone rfl rfl ?_; clear F M; intro a w F hE2 hX hTT hDD hPP; have M := M1.later hE2; clear M1; clear hX; clear hE2; clear hok; clear hE; clear hTT; clear hDD; clear hPP; (try dsimp only at F))
            refine sD F (o_assign (F.ev rfl) ?_); clear F a; intro a F
            with_reducible refine l_nil ?_
            exact ⟨true, fun _ => ⟨hil, by rw [← hy0]; exact he⟩, fun h => (by cases h), F.only [24, 17, 16, 20, 21, 19, 69, 68, 67, 12, 15, 0, 1, 2, 4] rfl, M⟩
          · rw [decide_eq_false he] at g8
            refine c_draw 13 F (by kernel_rfl) ?_
            intro w1 hE hok
            have M1 := M.later hE
            refine mK hok rfl rfl (fun a' w' F' E' => o_move (F'.ev rfl) ⟨Ext.refl _ _, rfl⟩) ?_
            refine mK hok rfl rfl (fun a' w' F' E' => o_move (F'.ev rfl) ⟨Ext.refl _ _, rfl⟩) ?_
            refine mK hok rfl rfl (fun a' w' F' E' => o_lenSl (F'.ev rfl) ⟨Ext.refl _ _, rfl⟩) ?_
            refine mK hok rfl rfl (fun a' w' F' E' => o_lssT (F'.ev rfl) (F'.ev rfl) (by omega) ⟨Ext.refl _ _, rfl⟩) ?_
            refine mK hok rfl rfl (fun a' w' F' E' => o_move (F'.ev rfl) ⟨Ext.refl _ _, rfl⟩) ?_
            refine mKG hok rfl rfl rfl rfl (fun a' w' F' E' => o_move (F'.ev rfl) ⟨Ext.refl _ _, rfl⟩) ?_
            refine mKG hok rfl rfl rfl rfl (fun a' w' F' E' => o_move (F'.ev rfl) ⟨Ext.refl _ _, rfl⟩) ?_
            refine mKG hok rfl rfl rfl rfl (fun a' w' F' E' => o_indexSl (F'.ev rfl) (F'.ev rfl) (by omega) (by omega) ⟨Ext.refl _ _, rfl⟩) ?_
            refine mKG hok rfl rfl rfl rfl (fun a' w' F' E' => o_fieldAddr (F'.ev rfl) ⟨Ext.refl _ _, rfl⟩) ?_
            refine mKG hok rfl rfl rfl rfl (fun a' w' F' E' => o_loadWA (M1.later E') (F'.ev rfl) (by assumption) (by first | assumption | rfl) ⟨Ext.refl _ _, rfl⟩) ?_
            refine mKG hok rfl rfl rfl rfl (fun a' w' F' E' => o_loadA (M1.later E') (F'.ev rfl) (by repeat constructor) (by first | assumption | rfl) ⟨Ext.refl _ _, rfl⟩) ?_
            refine mKG hok rfl rfl rfl rfl (fun a' w' F' E' => o_eqlAF (F'.ev rfl) (F'.ev rfl) (by first | assumption | rfl) (by first | assumption | rfl) (by assumption) ⟨Ext.refl _ _, rfl⟩) ?_
            refine mK hok rfl rfl (fun a' w' F' E' => o_pickT (F'.ev rfl) (F'.ev rfl) ⟨Ext.refl _ _, rfl⟩) ?_
            (refine mDone rfl rfl ?_; clear F M; intro a w F hE2 hX hTT hDD hPP; have M := M1.later hE2; clear M1; clear hX; clear hE2; clear hok; clear hE; clear hTT; clear hDD; clear hPP; (try dsimp only at F))
            refine sD F (o_assign (F.ev rfl) ?_); clear F a; intro a F
            with_reducible refine l_nil ?_
            exact ⟨false, fun h => (by cases h), fun _ _ => by rw [← hy0]; exact he, F.only [24, 17, 16, 20, 21, 19, 69, 68, 67, 12, 15, 0, 1, 2, 4] rfl, M⟩
        · refine c_draw 13 F (by kernel_rfl) ?_
          intro w1 hE hok
          have M1 := M.later hE
          refine mK hok rfl rfl (fun a' w' F' E' => o_move (F'.ev rfl) ⟨Ext.refl _ _, rfl⟩) ?_
          refine mK hok rfl rfl (fun a' w' F' E' => o_move (F'.ev rfl) ⟨Ext.refl _ _, rfl⟩) ?_
          refine mK hok rfl rfl (fun a' w' F' E' => o_lenSl (F'.ev rfl) ⟨Ext.refl _ _, rfl⟩) ?_
          refine mK hok rfl rfl (fun a' w' F' E' => o_lssF (F'.ev rfl) (F'.ev rfl) (by omega) ⟨Ext.refl _ _, rfl⟩) ?_
          refine mK hok rfl rfl (fun a' w' F' E' => o_move (F'.ev rfl) ⟨Ext.refl _ _, rfl⟩) ?_
          refine mOff hok rfl rfl rfl rfl rfl ?_
          refine mOff hok rfl rfl rfl rfl rfl ?_
          refine mOff hok rfl rfl rfl rfl rfl ?_
          refine mOff hok rfl rfl rfl rfl rfl ?_
          refine mOff hok rfl rfl rfl rfl rfl ?_
          refine mOff hok rfl rfl rfl rfl rfl ?_
          refine mOff hok rfl rfl rfl rfl rfl ?_
          refine mK hok rfl rfl (fun a' w' F' E' => o_pickF (F'.ev rfl) (F'.ev rfl) ⟨Ext.refl _ _, rfl⟩) ?_
          (refine mDone rfl rfl ?_; clear F M; intro a w F hE2 hX hTT hDD hPP; have M := M1.later hE2; clear M1; clear hX; clear hE2; clear hok; clear hE; clear hTT; clear hDD; clear hPP; (try dsimp only at F))
          refine sD F (o_assign (F.ev rfl) ?_); clear F a; intro a F
          with_reducible refine l_nil ?_
          exact ⟨false, fun h => (by cases h), fun _ h => absurd h hil, F.only [24, 17, 16, 20, 21, 19, 69, 68, 67, 12, 15, 0, 1, 2, 4] rfl, M⟩
      clear F M
      rintro a w ⟨had, hh1, hh2, F, M⟩
      with_reducible refine q_then (c_seq (c_region ?_))
      (refine sD F (o_alloc M ?_); clear F M; intro b25 w M a F)
      with_reducible refine l_nil (q_then (c_seq (c_seq (c_region ?_))))
      refine sD F (o_move (F.ev rfl) ?_); clear F a; intro a F
      with_reducible refine l_nil (q_then ?_)
      refine c_cut (fun a w => ∃ (y : InsV) (i' : Nat), IsIn y ∧ (had = true → ins1 y = true) ∧ oldV old t = oldB y had ∧ Yet InsV.to old (ds.drop (k + 1)) i' ∧ Frm a 190 [] [(24, .bool had), (25, .pointer (some ⟨b25, 0, none⟩)), (17, .int .i64 i'), (16, .int .i64 r1), (20, zO), (21, .map (some bS)), (19, .pointer (some ⟨b19, 0, none⟩)), (69, .int .i64 k), (68, .int .i64 ds.length), (67, .slice (some ⟨bD, 0, none⟩) ds.length capd), (12, .map (some b12)), (15, z), (0, .int .i64 now), (1, .slice q l.length cap), (2, vs), (4, .slice qo old.length capo)] ∧ Mem [] W w ((b25, .cells (inC y).toArray 50 (0, 0)) :: ((b19, .cells (dvC t).toArray 45 (0, 0)) :: (bD, .cells (dvsC ds ++ junk).toArray 45 (0, 0)) :: (entS ++ (entO ++ (entR ++ ent)))))) ?_ ?_
      · cases had with
        | false =>
          have hn := hh2 rfl
          obtain ⟨h1, h2⟩ := Yet.next hwN hdk2 hdk3 hYi (Nat.le_refl _) hYi.le (fun j hj h1 h2 => absurd h2 (by omega)) hn
          have hov2 : oldV old t = none := oldV_no fun j hj => by
            rcases Nat.lt_or_ge j i with h3 | h3
            · exact hYi.before j hj h3
            · exact h2 j hj h3
          refine c_false F rfl rfl ?_
          with_reducible refine c_skip ?_
          exact ⟨in0, i, in0_is, fun h => (by cases h), hov2, h1, F.only [24, 25, 17, 16, 20, 21, 19, 69, 68, 67, 12, 15, 0, 1, 2, 4] rfl, M⟩
        | true =>
          obtain ⟨hil, he⟩ := hh1 rfl
          obtain ⟨b, o, cs, t', fz, rfl, hb, hs⟩ := hmo (by omega)
          have g1 : seg cs (o + (i : Int).toNat * 40) 40 = some (inC old[i]) := seg_el (ins_len hy) hs hil (by omega)
          have hxv := hy _ (List.getElem_mem hil)
          have hnx := Yet.next (r1 := i + 1) hwN hdk2 hdk3 hYi (by omega) (by omega) (fun j hj h1 h2 => by
            obtain rfl : j = i := by omega
            exact he) (fun hj e => by
            have h3 := (List.pairwise_iff_getElem.1 hascN) i (i + 1) hil hj (by omega)
            unfold cmpN at h3
            rw [e, he, cmpD_self] at h3
            omega)
          have hov2 : oldV old t = some old[i] := oldV_at hil he hYi.before
          have hin := hins _ (List.getElem_mem hil)
          obtain ⟨y, hy0⟩ : ∃ y, y = old[i] := ⟨_, rfl⟩
          rw [← hy0] at g1 hxv hov2 hin
          clear he
          refine c_true F rfl rfl ?_
          refine c_seq (c_region ?_)
          refine sD F (o_move (F.ev rfl) ?_); clear F a; intro a F
          refine sD F (o_move (F.ev rfl) ?_); clear F a; intro a F
          refine sD F (o_indexSl (F.ev rfl) (F.ev rfl) (by omega) (by omega) ?_); clear F a; intro a F
          refine sD F (o_loadWA M (F.ev rfl) (by assumption) (by first | assumption | rfl) ?_); clear F a; intro a F
          (refine stepN rfl F (o_storeA M (F.ev rfl) (F.ev rfl) (in_len hxv) (in_one y)  (by repeat constructor)  (put_all (by rw [in_len hxv]; rfl)) (by repeat constructor) ?_); clear F M; intro w M a F)
          with_reducible refine l_nil (q_then (c_region ?_))
          refine sD F (o_move (F.ev rfl) ?_); clear F a; intro a F
          refine sD F (o_add (F.ev rfl) (F.ev rfl) (w_i64 (by omega) (by omega)) ?_); clear F a; intro a F
          refine sD F (o_assign (F.ev rfl) ?_); clear F a; intro a F
          with_reducible refine l_nil ?_
          exact ⟨y, i + 1, hxv, fun _ => hin, hov2, hnx.1, F.only [24, 25, 17, 16, 20, 21, 19, 69, 68, 67, 12, 15, 0, 1, 2, 4] rfl, M⟩
      clear F M
      rintro a w ⟨y, i', hyI, hy1, hov2, hYi2, F, M⟩
      have hEq : selE now l s cm old t = aftV now t (oldB y had) (optsV now s cm t l) (saidV now s cm t l) := by
        unfold selE
        rw [hov2]
      rw [hEq] at htk
      have hEI : ∀ e, aftV now t (oldB y had) (optsV now s cm t l) (saidV now s cm t l) = some e → IsIn e := fun e h => hoE t ht e (by rw [hEq]; exact h)
      have haf := after_c now c5 t ht y hyI had hy1 (optsV now s cm t l) hvO zO (saidV now s cm t l) (.map (some bS))
      obtain ⟨E, hE⟩ : ∃ E, E = aftV now t (oldB y had) (optsV now s cm t l) (saidV now s cm t l) := ⟨_, rfl⟩
      rw [← hE] at htk hEI haf
      have hgI : IsIn (E.getD in0) := by
        cases E with
        | none => exact in0_is
        | some e => exact hEI e rfl
      have y1 := in_all hyI
      have e1 := in_all hgI
      have e2 := in_len hgI
      with_reducible refine q_then (c_seq (c_region ?_))
      refine sD F (o_move (F.ev rfl) ?_); clear F a; intro a F
      refine sD F (o_loadA M (F.ev rfl) (by repeat constructor) (by first | assumption | rfl) ?_); clear F a; intro a F
      refine sD F (o_loadA M (F.ev rfl) (by repeat constructor) (by first | assumption | rfl) ?_); clear F a; intro a F
      refine sD F (o_move (F.ev rfl) ?_); clear F a; intro a F
      refine sD F (o_move (F.ev rfl) ?_); clear F a; intro a F
      refine sD F (o_move (F.ev rfl) ?_); clear F a; intro a F
      (refine sD F (o_call (F.ev rfl) (F.evs rfl) (Cal.mono (haf _ (hOO.slAt M (fun p hp => by simp [hp])) (hOS.at_ (fun p hp => M.at_ p (by simp [hp])))) ?_)); clear F; clear a; rintro _ w ⟨rfl, hE⟩ a F; replace M := M.later hE; clear hE)
      refine sD F (o_move (F.ev rfl) ?_); clear F a; intro a F
      refine sD F (o_extract (F.ev rfl) rfl ?_); clear F a; intro a F
      refine sD F (o_extract (F.ev rfl) rfl ?_); clear F a; intro a F
      (refine sD F (o_alloc M ?_); clear F M; intro b26 w M a F)
      (refine stepN rfl F (o_storeA M (F.ev rfl) (F.ev rfl) (e2) (in_one _)  (by repeat constructor)  (put_all (by rw [e2]; rfl)) (by repeat constructor) ?_); clear F M; intro w M a F)
      cases E with
      | none =>
        have htk2 : (ds.take (k + 1)).filterMap (selE now l s cm old) = (ds.take k).filterMap (selE now l s cm old) := by rw [htk]; simp
        refine sD F (o_assign (F.ev rfl) ?_); clear F a; intro a F
        with_reducible refine l_nil (q_then (c_seq (c_region ?_)))
        refine sD F (o_move (F.ev rfl) ?_); clear F a; intro a F
        with_reducible refine l_nil (q_then ?_)
        refine c_false F rfl rfl ?_
        with_reducible refine c_skip (q_inB (q_then (c_region ?_)))
        refine sD F (o_add (F.ev rfl) (F.ev rfl) (w_i64 (by omega) (by omega)) ?_); clear F a; intro a F
        refine sD F (o_move (F.ev rfl) ?_); clear F a; intro a F
        with_reducible refine l_nil (q_then ?_)
        exact ⟨_, by omega, k + 1, r1, i', z, entR, rfl, by omega, hYr1, hYi2, by rw [htk2]; exact hR, F.only [69, 68, 67, 12, 15, 16, 17, 0, 1, 2, 4] rfl, (M.perm (l' := (entR ++ ([(bD, .cells (dvsC ds ++ junk).toArray 45 (0, 0))] ++ ent)) ++ ((b26, .cells (inC ((none : Option InsV).getD in0)).toArray 50 (0, 0)) :: (b25, .cells (inC y).toArray 50 (0, 0)) :: (b19, .cells (dvC t).toArray 45 (0, 0)) :: (entS ++ entO))) (by classical exact List.perm_iff_count.2 fun _ => by simp only [List.count_append, List.count_cons, List.count_nil, Nat.add_zero, Nat.zero_add] <;> ac_rfl)).sub (List.sublist_append_left _ _)⟩
      | some e =>
        have htk2 : (ds.take (k + 1)).filterMap (selE now l s cm old) = (ds.take k).filterMap (selE now l s cm old) ++ [e] := by rw [htk]; rfl
        have heI := hEI e rfl
        have e3 : seg (inC e) 0 40 = some (inC e) := in_all heI
        replace M := M.perm (l' := (b26, .cells (inC e).toArray 50 (0, 0)) :: (b25, .cells (inC y).toArray 50 (0, 0)) :: (b19, .cells (dvC t).toArray 45 (0, 0)) :: (bD, .cells (dvsC ds ++ junk).toArray 45 (0, 0)) :: (entS ++ (entO ++ (ent ++ entR)))) (by classical exact List.perm_iff_count.2 fun _ => by simp only [List.count_append, List.count_cons, List.count_nil, Nat.add_zero, Nat.zero_add] <;> ac_rfl)
        refine sD F (o_assign (F.ev rfl) ?_); clear F a; intro a F
        with_reducible refine l_nil (q_then (c_seq (c_region ?_)))
        refine sD F (o_move (F.ev rfl) ?_); clear F a; intro a F
        with_reducible refine l_nil (q_then ?_)
        refine c_true F rfl rfl ?_
        refine c_region ?_
        refine sD F (o_move (F.ev rfl) ?_); clear F a; intro a F
        refine sD F (o_loadA M (F.ev rfl) (by repeat constructor) (by first | assumption | rfl) ?_); clear F a; intro a F
        (refine sD F (o_buildSlice F M rfl rfl rfl (in_build1 heI) ?_); clear F M; intro b183 w M a F)
        (refine sD F (o_append hR M (.cons (.cons (.cons (.cons (.cons (.app (.app (.app .here)))))))) (F.ev rfl) (F.ev rfl) (SrcOf.cells' (M.heap .here) (sg_all (in_len heI)) (in_one _)) (by omega) (by omega) ?_); clear F M; intro z2 entR2 w hR2 M a F)
        refine sD F (o_assign (F.ev rfl) ?_); clear F a; intro a F
        with_reducible refine l_nil (q_inB (q_then (c_region ?_)))
        refine sD F (o_add (F.ev rfl) (F.ev rfl) (w_i64 (by omega) (by omega)) ?_); clear F a; intro a F
        refine sD F (o_move (F.ev rfl) ?_); clear F a; intro a F
        with_reducible refine l_nil (q_then ?_)
        refine ⟨_, by omega, k + 1, r1, i', z2, entR2, rfl, by omega, hYr1, hYi2, ?_, F.only [69, 68, 67, 12, 15, 16, 17, 0, 1, 2, 4] rfl, (M.perm (l' := (entR2 ++ ([(bD, .cells (dvsC ds ++ junk).toArray 45 (0, 0))] ++ ent)) ++ ((b183, .cells (inC e).toArray 50 (0, 0)) :: (b26, .cells (inC e).toArray 50 (0, 0)) :: (b25, .cells (inC y).toArray 50 (0, 0)) :: (b19, .cells (dvC t).toArray 45 (0, 0)) :: (entS ++ entO))) (by classical exact List.perm_iff_count.2 fun _ => by simp only [List.count_append, List.count_cons, List.count_nil, Nat.add_zero, Nat.zero_add] <;> ac_rfl)).sub (List.sublist_append_left _ _)⟩
        rw [htk2, List.length_append]
        show OwnS _ 40 _ _ (encL inC _) _
        rw [encL_app, encL_one]
        exact hR2
  · obtain rfl : k = ds.length := by omega
    rw [List.take_length] at hR
    obtain ⟨pz, cz, rfl⟩ := hR.slice
    clear hD hov hoE
    by_cases c9 : 512 < (ds.filterMap (selE now l s cm old)).length
    · rw [if_pos c9] at hL
      rw [hL]
      refine c_seq (c_region ?_)
      refine sD F (o_lssF (F.ev rfl) (F.ev rfl) (by omega) ?_); clear F a; intro a F
      with_reducible refine l_nil (q_then (c_seq ?_))
      refine c_false F rfl rfl ?_
      with_reducible refine c_exit (q_thenX (q_thenX (q_inBX (q_then (c_seq (c_seq (c_region ?_)))))))
      refine sD F (o_move (F.ev rfl) ?_); clear F a; intro a F
      refine sD F (o_lenSl (F.ev rfl) ?_); clear F a; intro a F
      refine sD F (o_gtrT (F.ev rfl) (F.ev rfl) (by omega) ?_); clear F a; intro a F
      with_reducible refine l_nil (q_then ?_)
      refine c_true F rfl rfl ?_
      refine c_seq (c_region ?_)
      refine sD F (o_assign (F.ev rfl) ?_); clear F a; intro a F
      refine sD F (o_assign (F.ev rfl) ?_); clear F a; intro a F
      with_reducible refine l_nil (q_then (c_ret (q_thenR ?_)))
      refine p_ret F rfl (.cons (.tmp (F.ev rfl)) (.cons (.tmp (F.ev rfl)) .nil)) ?_
      exact ⟨.slice none 0 0, [], rfl, OwnS.nil _ _, M.sub (List.nil_sublist _)⟩
    · rw [if_neg c9] at hL
      rw [hL]
      refine c_seq (c_region ?_)
      refine sD F (o_lssF (F.ev rfl) (F.ev rfl) (by omega) ?_); clear F a; intro a F
      with_reducible refine l_nil (q_then (c_seq ?_))
      refine c_false F rfl rfl ?_
      with_reducible refine c_exit (q_thenX (q_thenX (q_inBX (q_then (c_seq (c_seq (c_region ?_)))))))
      refine sD F (o_move (F.ev rfl) ?_); clear F a; intro a F
      refine sD F (o_lenSl (F.ev rfl) ?_); clear F a; intro a F
      refine sD F (o_gtrF (F.ev rfl) (F.ev rfl) (by omega) ?_); clear F a; intro a F
      with_reducible refine l_nil (q_then ?_)
      refine c_false F rfl rfl ?_
      with_reducible refine c_skip (q_then (c_seq (c_region ?_)))
      refine sD F (o_move (F.ev rfl) ?_); clear F a; intro a F
      refine sD F (o_assign (F.ev rfl) ?_); clear F a; intro a F
      refine sD F (o_assign (F.ev rfl) ?_); clear F a; intro a F
      with_reducible refine l_nil (q_then (c_ret ?_))
      refine p_ret F rfl (.cons (.tmp (F.ev rfl)) (.cons (.tmp (F.ev rfl)) .nil)) ?_
      exact ⟨_, entR, rfl, hR, M.sub (List.sublist_append_left _ _)⟩
end Go.Proofs.YtilgoepokaaleaaGreat
/-! ZG -/
namespace Go.Proofs.YtilgoepokaaleaaGreat
set_option linter.unusedVariables false
set_option linter.unusedSimpArgs false
open Go.RowKit
attribute [local irreducible] OpTo wpListIn Code.wpIn MW Cal
def hostD (n r : Int) : DstV := ⟨[32, 1, 0, 0, 0, 0, 0, 0, 0, 0, 0, 0, 0, 0, 0, n], 128, nul16, 0, r⟩
theorem hostD_is {n r : Int} (h0 : 0 ≤ n) (h1 : n < 256) : IsDv (hostD n r) := ⟨⟨rfl, by intro x hx; simp [hostD] at hx; omega⟩, nul16_is⟩
theorem host_c (n r : Int) (h0 : 0 ≤ n) (h1 : n < 256) (r0 : 0 ≤ r) (r1 : r < 100000) (W : World) : Cal Tryz.prog 30 [.int .i64 n, .int .i64 r].toArray W fun v w' => v = .agg (dvC (hostD n r)).toArray ∧ Ext [] W w' := by
  refine fn_ofM (n := 12) [] Tryz.func30 rfl rfl rfl ?_
  intro a w F M hwW
  refine c_seq ?_
  refine c_region ?_
  (refine sD F (o_alloc M ?_); clear F M; intro b4 w M a F)
  with_reducible refine l_nil (q_then (c_seq (c_region ?_)))
  refine sD F (o_move (F.ev rfl) ?_); clear F a; intro a F
  refine sD F (o_conv (F.ev rfl) (w_u8 (by omega) (by omega)) ?_); clear F a; intro a F
  refine sD F (o_build F rfl rfl ?_); clear F a; intro a F
  refine sD F (o_build F rfl rfl ?_); clear F a; intro a F
  refine sD F (o_move (F.ev rfl) ?_); clear F a; intro a F
  refine sD F (o_conv (F.ev rfl) (w_u64 (by omega) (by omega)) ?_); clear F a; intro a F
  refine sD F (o_build F rfl rfl ?_); clear F a; intro a F
  (refine stepN rfl F (o_storeA M (F.ev rfl) (F.ev rfl) (by rfl) (by rfl) (by repeat constructor) (by rfl) (by repeat constructor) ?_); clear F M; intro w M a F)
  with_reducible refine l_nil (q_then (c_ret ?_))
  exact p_ret F rfl (.cons (.cell (F.ev rfl) (run_loadVar_agg TAgg.h (M.heap (by repeat constructor)) rfl)) .nil) ⟨rfl, M.ext⟩
def kL : RouV := ⟨hostD 1 9, 2, ⟨3, 100⟩, 15⟩
def kI : InsV := ⟨hostD 1 9, 2, ⟨3, 356⟩, -1, 0⟩
def kH : InsV := ⟨hostD 1 9, 0, ⟨3, 65535⟩, -1, 21⟩
def kO : OptV := ⟨2, 256⟩
def kIP : List Int := [32, 1, 0, 0, 0, 0, 0, 0, 0, 0, 0, 0, 0, 0, 0, 1]
def kZ : DstV := ⟨nul16, 0, nul16, 0, 0⟩
theorem k_is : IsDv (hostD 1 9) := hostD_is (by omega) (by omega)
theorem kL_is : IsRo kL := ⟨k_is, trivial⟩
theorem kI_is : IsIn kI := ⟨k_is, trivial⟩
theorem kH_is : IsIn kH := ⟨k_is, trivial⟩
theorem kIP_is : IsIP kIP := ⟨rfl, by intro x hx; simp [kIP] at hx; omega⟩
theorem kZ_is : IsDv kZ := ⟨nul16_is, nul16_is⟩
theorem kLearn : learnV [] 5 (hostD 1 9) 2 ⟨3, 100⟩ = ([kL], 0) := by decide +kernel
theorem kSel1 : selectV 6 [kL] [] [kO] [] = ([kI], 0) := by decide +kernel
theorem kSel2 : selectV 7 [] [] [kO] [kI] = ([kH], 0) := by decide +kernel
theorem kLook1 : lookV [kI] nul16 kIP kZ false = (kI, 0) := by decide +kernel
theorem kLook2 : lookV [kH] nul16 kIP kZ false = (in0, 15) := by decide +kernel
theorem slAtO {w : World} {b : Nat} {x : OptV} {t : TypeId} {fz : Nat × Nat} (h : w.heap[b]? = some (.cells (opC x).toArray t fz)) : SlAt w 2 (.slice (some ⟨b, 0, none⟩) 1 1) 1 (opsC [x]) :=
  ⟨_, _, rfl, Nat.le_refl _, by simp, by rw [show opsC [x] = opC x from encL_one _ _, op_len (o := x) trivial], fun _ => ⟨b, 0, _, _, _, rfl, h, by rw [show opsC [x] = opC x from encL_one _ _]; exact sg_all (op_len (o := x) trivial)⟩⟩
set_option maxHeartbeats 8000000 in
theorem known27_c (W : World) : Cal Tryz.prog 19 [].toArray W fun r w' => r = .bool true ∧ Ext [] W w' := by
  refine fn_ofM (n := 89) [] Tryz.func19 rfl rfl rfl ?_
  intro a w F M hwW
  refine c_seq (c_region ?_)
  refine sD F (o_assign (F.ev rfl) ?_); clear F a; intro a F
  with_reducible refine l_nil (q_then (c_seq (c_region ?_)))
  (refine sD F (o_call (F.ev rfl) (F.evs rfl) (Cal.mono (host_c 1 9 (by omega) (by omega) (by omega) (by omega) _) ?_)); clear F; clear a; rintro _ w ⟨rfl, hE⟩ a F; replace M := M.later hE; clear hE)
  refine sD F (o_build F rfl rfl ?_); clear F a; intro a F
  (refine sD F (o_call (F.ev rfl) (F.evs (vs := [.slice none 0 0, .int .i64 5, .agg (dvC (hostD 1 9)).toArray, .int .u64 2, .agg (diC ⟨3, 100⟩).toArray]) rfl) (Cal.mono (learn_c [] (by simp) (.slice none 0 0) 5 (hostD 1 9) k_is 2 ⟨3, 100⟩ (by decide) _ (SlAt.nil _ _)) ?_)); clear F; clear a; rintro _ w ⟨u, e1, rfl, hO1, N⟩ a F; replace M := M.joins N; clear N)
  rw [kLearn] at F hO1
  dsimp only at F hO1
  obtain ⟨p1, c1, rfl⟩ := hO1.slice
  refine sD F (o_move (F.ev rfl) ?_); clear F a; intro a F
  refine sD F (o_extract (F.ev rfl) rfl ?_); clear F a; intro a F
  refine sD F (o_extract (F.ev rfl) rfl ?_); clear F a; intro a F
  refine sD F (o_assign (F.ev rfl) ?_); clear F a; intro a F
  refine sD F (o_assign (F.ev rfl) ?_); clear F a; intro a F
  with_reducible refine l_nil (q_then (c_seq (c_region ?_)))
  refine sD F (o_build F rfl rfl ?_); clear F a; intro a F
  (refine sD F (o_buildSlice F M rfl rfl rfl rfl ?_); clear F M; intro b19 w M a F)
  replace M : Mem [] W w ((b19, opO kO) :: (e1 ++ [])) := M
  refine sD F (o_assign (F.ev rfl) ?_); clear F a; intro a F
  with_reducible refine l_nil (q_then (c_seq (c_region ?_)))
  refine sD F (o_move (F.ev rfl) ?_); clear F a; intro a F
  refine sD F (o_move (F.ev rfl) ?_); clear F a; intro a F
  (refine sD F (o_call (F.ev rfl) (F.evs rfl) (Cal.mono (select_c 6 [kL] (by simpa using kL_is) [] (by simp) [kO] [] (by simp) _ (.slice none 0 0) (.slice (some ⟨b19, 0, none⟩) 1 1) (.slice none 0 0) _ (hO1.slAt M (fun q hq => by simp [hq])) (SlAt.nil _ _) (slAtO (x := kO) (M.heap .here)) (SlAt.nil _ _)) ?_)); clear F; clear a; rintro _ w ⟨u, e2, rfl, hO2, N⟩ a F; replace M := M.joins N; clear N)
  rw [kSel1] at F hO2
  dsimp only at F hO2
  obtain ⟨p2, c2, rfl⟩ := hO2.slice
  refine sD F (o_move (F.ev rfl) ?_); clear F a; intro a F
  refine sD F (o_extract (F.ev rfl) rfl ?_); clear F a; intro a F
  refine sD F (o_extract (F.ev rfl) rfl ?_); clear F a; intro a F
  refine sD F (o_assign (F.ev rfl) ?_); clear F a; intro a F
  refine sD F (o_assign (F.ev rfl) ?_); clear F a; intro a F
  with_reducible refine l_nil (q_then (c_seq (c_region ?_)))
  refine sD F (o_move (F.ev rfl) ?_); clear F a; intro a F
  refine sD F (o_build F rfl rfl ?_); clear F a; intro a F
  refine sD F (o_build F rfl rfl ?_); clear F a; intro a F
  refine sD F (o_build F rfl rfl ?_); clear F a; intro a F
  (refine sD F (o_call (F.ev rfl) (F.evs (vs := [.slice p2 [kI].length c2, .agg (ipC nul16).toArray, .agg (ipC kIP).toArray, .agg (dvC kZ).toArray, .bool false]) rfl) (Cal.mono (lookup_c [kI] (by simpa using kI_is) _ nul16 kIP nul16_is kIP_is kZ kZ_is false _ (hO2.slAt M (fun q hq => by simp [hq]))) ?_)); clear F; clear a; rintro _ w ⟨rfl, hE⟩ a F; replace M := M.later hE; clear hE)
  rw [kLook1] at F
  dsimp only at F
  refine sD F (o_move (F.ev rfl) ?_); clear F a; intro a F
  refine sD F (o_extract (F.ev rfl) rfl ?_); clear F a; intro a F
  refine sD F (o_extract (F.ev rfl) rfl ?_); clear F a; intro a F
  (refine sD F (o_alloc M ?_); clear F M; intro b6 w M a F)
  (refine stepN rfl F (o_storeA M (F.ev rfl) (F.ev rfl) (in_len kI_is) (in_one _)  (by repeat constructor)  (put_all (by rw [in_len kI_is]; rfl)) (by repeat constructor) ?_); clear F M; intro w M a F)
  refine sD F (o_assign (F.ev rfl) ?_); clear F a; intro a F
  with_reducible refine l_nil (q_then (c_seq (c_region ?_)))
  refine sD F (o_move (F.ev rfl) ?_); clear F a; intro a F
  refine sD F (o_move (F.ev rfl) ?_); clear F a; intro a F
  (refine sD F (o_call (F.ev rfl) (F.evs rfl) (Cal.mono (select_c 7 [] (by simp) [] (by simp) [kO] [kI] (by simpa using kI_is) (.slice none 0 0) (.slice none 0 0) (.slice (some ⟨b19, 0, none⟩) 1 1) _ _ (SlAt.nil _ _) (SlAt.nil _ _) (slAtO (x := kO) (M.at_ (b19, opO kO) (by simp))) (hO2.slAt M (fun q hq => by simp [hq]))) ?_)); clear F; clear a; rintro _ w ⟨u, e3, rfl, hO3, N⟩ a F; replace M := M.joins N; clear N)
  rw [kSel2] at F hO3
  dsimp only at F hO3
  obtain ⟨p3, c3, hp3⟩ := hO3.slice
  rcases hO3 with ⟨_, h0, _, _⟩ | ⟨bH, cH, junk, rfl, rfl, hxl, hjl, hnc⟩
  · simp at h0
  have hO3 : OwnS 50 40 (.slice (some ⟨bH, 0, none⟩) [kH].length cH) [kH].length (insC [kH]) [(bH, .cells (insC [kH] ++ junk).toArray 50 (0, 0))] := .inr ⟨bH, cH, junk, rfl, rfl, hxl, hjl, hnc⟩
  clear hp3 hxl hjl hnc
  refine sD F (o_move (F.ev rfl) ?_); clear F a; intro a F
  refine sD F (o_extract (F.ev rfl) rfl ?_); clear F a; intro a F
  refine sD F (o_extract (F.ev rfl) rfl ?_); clear F a; intro a F
  refine sD F (o_assign (F.ev rfl) ?_); clear F a; intro a F
  refine sD F (o_assign (F.ev rfl) ?_); clear F a; intro a F
  with_reducible refine l_nil (q_then (c_seq (c_region ?_)))
  refine sD F (o_move (F.ev rfl) ?_); clear F a; intro a F
  refine sD F (o_build F rfl rfl ?_); clear F a; intro a F
  refine sD F (o_build F rfl rfl ?_); clear F a; intro a F
  refine sD F (o_build F rfl rfl ?_); clear F a; intro a F
  (refine sD F (o_call (F.ev rfl) (F.evs (vs := [.slice (some ⟨bH, 0, none⟩) [kH].length cH, .agg (ipC nul16).toArray, .agg (ipC kIP).toArray, .agg (dvC kZ).toArray, .bool false]) rfl) (Cal.mono (lookup_c [kH] (by simpa using kH_is) _ nul16 kIP nul16_is kIP_is kZ kZ_is false _ (hO3.slAt M (fun q hq => by simp at hq; simp [hq]))) ?_)); clear F; clear a; rintro _ w ⟨rfl, hE⟩ a F; replace M := M.later hE; clear hE)
  rw [kLook2] at F
  dsimp only at F
  refine sD F (o_move (F.ev rfl) ?_); clear F a; intro a F
  refine sD F (o_extract (F.ev rfl) rfl ?_); clear F a; intro a F
  refine sD F (o_extract (F.ev rfl) rfl ?_); clear F a; intro a F
  (refine sD F (o_alloc M ?_); clear F M; intro b10 w M a F)
  (refine stepN rfl F (o_storeA M (F.ev rfl) (F.ev rfl) (in_len in0_is) (in_one _)  (by repeat constructor)  (put_all (by rw [in_len in0_is]; rfl)) (by repeat constructor) ?_); clear F M; intro w M a F)
  replace M := M.perm (l' := (b6, .cells (inC kI).toArray 50 (0, 0)) :: (bH, .cells (insC [kH] ++ junk).toArray 50 (0, 0)) :: (b10, .cells (inC in0).toArray 50 (0, 0)) :: (e2 ++ ((b19, opO kO) :: (e1 ++ [])))) (by classical exact List.perm_iff_count.2 fun _ => by simp only [List.count_append, List.count_cons, List.count_nil, Nat.add_zero, Nat.zero_add] <;> ac_rfl)
  have g1 : seg (insC [kH] ++ junk) (0 + (0 : Int).toNat * 40) 40 = some (inC kH) := own_el (ls := [kH]) (by simpa using in_len kH_is) junk (show 0 < [kH].length by simp) (by simp)
  have g2 : nth (insC [kH] ++ junk) (0 + (0 : Int).toNat * 40 + 39) = some (.int .i64 21) := sg_nth g1 (in_til kH_is) (by omega)
  have g3 := in_nb kI_is
  have g4 := in_own kI_is
  rw [show [kH].length = 1 from rfl] at F
  refine sD F (o_assign (F.ev rfl) ?_); clear F a; intro a F
  with_reducible refine l_nil (q_then (c_seq (c_region ?_)))
  refine sD F (o_move (F.ev rfl) ?_); clear F a; intro a F
  refine sD F (o_eqlT (F.ev rfl) (F.ev rfl) (by omega) ?_); clear F a; intro a F
  refine sD F (o_move (F.ev rfl) ?_); clear F a; intro a F
  refine sG F (o_move (F.ev rfl) ?_); clear F a; intro a F
  refine sG F (o_eqlT (F.ev rfl) (F.ev rfl) (by omega) ?_); clear F a; intro a F
  refine sD F (o_pickT (F.ev rfl) (F.ev rfl) ?_); clear F a; intro a F
  refine sD F (o_move (F.ev rfl) ?_); clear F a; intro a F
  refine sG F (o_move (F.ev rfl) ?_); clear F a; intro a F
  refine sG F (o_eqlT (F.ev rfl) (F.ev rfl) (by omega) ?_); clear F a; intro a F
  refine sD F (o_pickT (F.ev rfl) (F.ev rfl) ?_); clear F a; intro a F
  refine sD F (o_move (F.ev rfl) ?_); clear F a; intro a F
  refine sG F (o_move (F.ev rfl) ?_); clear F a; intro a F
  refine sG F (o_eqlT (F.ev rfl) (F.ev rfl) (by omega) ?_); clear F a; intro a F
  refine sD F (o_pickT (F.ev rfl) (F.ev rfl) ?_); clear F a; intro a F
  refine sD F (o_move (F.ev rfl) ?_); clear F a; intro a F
  refine sG F (o_move (F.ev rfl) ?_); clear F a; intro a F
  refine sG F (o_eqlT (F.ev rfl) (F.ev rfl) (by omega) ?_); clear F a; intro a F
  refine sD F (o_pickT (F.ev rfl) (F.ev rfl) ?_); clear F a; intro a F
  refine sD F (o_move (F.ev rfl) ?_); clear F a; intro a F
  refine sG F (o_fieldAddr (F.ev rfl) ?_); clear F a; intro a F
  refine sG F (o_load1 M (F.ev rfl) (by repeat constructor) (by first | assumption | rfl) ?_); clear F a; intro a F
  refine sG F (o_eql (F.ev rfl) (F.ev rfl) ?_); clear F a; intro a F
  refine sD F (o_pickT (F.ev rfl) (F.ev rfl) ?_); clear F a; intro a F
  refine sD F (o_move (F.ev rfl) ?_); clear F a; intro a F
  refine sG F (o_fieldAddr (F.ev rfl) ?_); clear F a; intro a F
  refine sG F (o_loadA M (F.ev rfl) (by repeat constructor) (by first | assumption | rfl) ?_); clear F a; intro a F
  refine sG F (o_build F rfl rfl ?_); clear F a; intro a F
  refine sG F (o_eqlA (F.ev rfl) (F.ev rfl) (by first | assumption | rfl) (by first | assumption | rfl) ?_); clear F a; intro a F
  refine sD F (o_pickT (F.ev rfl) (F.ev rfl) ?_); clear F a; intro a F
  refine sD F (o_move (F.ev rfl) ?_); clear F a; intro a F
  refine sG F (o_move (F.ev rfl) ?_); clear F a; intro a F
  refine sG F (o_lenSl (F.ev rfl) ?_); clear F a; intro a F
  refine sG F (o_eqlT (F.ev rfl) (F.ev rfl) (by omega) ?_); clear F a; intro a F
  refine sD F (o_pickT (F.ev rfl) (F.ev rfl) ?_); clear F a; intro a F
  refine sD F (o_move (F.ev rfl) ?_); clear F a; intro a F
  refine sG F (o_move (F.ev rfl) ?_); clear F a; intro a F
  refine sG F (o_indexSl (F.ev rfl) (F.ev rfl) (by omega) (by omega) ?_); clear F a; intro a F
  refine sG F (o_fieldAddr (F.ev rfl) ?_); clear F a; intro a F
  refine sG F (o_load1 M (F.ev rfl) (by repeat constructor) (by first | assumption | rfl) ?_); clear F a; intro a F
  refine sG F (o_eqlT (F.ev rfl) (F.ev rfl) (by omega) ?_); clear F a; intro a F
  refine sD F (o_pickT (F.ev rfl) (F.ev rfl) ?_); clear F a; intro a F
  refine sD F (o_assign (F.ev rfl) ?_); clear F a; intro a F
  with_reducible refine l_nil (q_then (c_ret ?_))
  refine p_ret F rfl (.cons (.tmp (F.ev rfl)) .nil) ?_
  exact ⟨rfl, M.ext⟩
end Go.Proofs.YtilgoepokaaleaaGreat
/-! ZH -/
namespace Go.Proofs.YtilgoepokaaleaaGreat
set_option linter.unusedVariables false
set_option linter.unusedSimpArgs false
open Go.RowKit
def k5 : OptV := ⟨5, 300⟩
section
variable {t : DstV} {d : DisV} {now til : Int}
end
end Go.Proofs.YtilgoepokaaleaaGreat
/-! ZM -/
namespace Go.Proofs.YtilgoepokaaleaaGreat
set_option linter.unusedVariables false
set_option linter.unusedSimpArgs false
open Go.RowKit
theorem bst_fold : ∀ (l : List OptV) (b : OptV), ((l.foldl (fun b o => if o.cost < b.cost then o else b) b = b ∨ (l.foldl (fun b o => if o.cost < b.cost then o else b) b ∈ l ∧ (l.foldl (fun b o => if o.cost < b.cost then o else b) b).cost < b.cost)) ∧ (l.foldl (fun b o => if o.cost < b.cost then o else b) b).cost ≤ b.cost ∧ ∀ o ∈ l, (l.foldl (fun b o => if o.cost < b.cost then o else b) b).cost ≤ o.cost)
  | [], b => by simp
  | a :: l, b => by
    rw [List.foldl_cons]
    obtain ⟨h1, h2, h3⟩ := bst_fold l (if a.cost < b.cost then a else b)
    generalize l.foldl (fun b o => if o.cost < b.cost then o else b) (if a.cost < b.cost then a else b) = r at *
    by_cases h : a.cost < b.cost
    · rw [if_pos h] at h1 h2
      refine ⟨.inr ⟨?_, by omega⟩, by omega, fun o ho => ?_⟩
      · rcases h1 with rfl | h1
        · simp
        · exact List.mem_cons_of_mem _ h1.1
      · rcases List.mem_cons.1 ho with rfl | ho
        · exact h2
        · exact h3 o ho
    · rw [if_neg h] at h1 h2
      refine ⟨?_, h2, fun o ho => ?_⟩
      · rcases h1 with rfl | h1
        · exact .inl rfl
        · exact .inr ⟨List.mem_cons_of_mem _ h1.1, h1.2⟩
      · rcases List.mem_cons.1 ho with rfl | ho
        · omega
        · exact h3 o ho
theorem bst_is (l : List OptV) : bstO l = none0 ∨ (bstO l ∈ l ∧ (bstO l).cost < inf) := (bst_fold l none0).1
theorem prv_fold (nb : Int) : ∀ (l : List OptV) (b : OptV), l.foldl (fun c o => if o.cost < inf ∧ o.nb = nb then o else c) b = b ∨ (l.foldl (fun c o => if o.cost < inf ∧ o.nb = nb then o else c) b ∈ l ∧ (l.foldl (fun c o => if o.cost < inf ∧ o.nb = nb then o else c) b).cost < inf ∧ (l.foldl (fun c o => if o.cost < inf ∧ o.nb = nb then o else c) b).nb = nb)
  | [], b => by simp
  | a :: l, b => by
    rw [List.foldl_cons]
    have h1 := prv_fold nb l (if a.cost < inf ∧ a.nb = nb then a else b)
    generalize l.foldl (fun c o => if o.cost < inf ∧ o.nb = nb then o else c) (if a.cost < inf ∧ a.nb = nb then a else b) = r at *
    by_cases h : a.cost < inf ∧ a.nb = nb
    · rw [if_pos h] at h1
      rcases h1 with rfl | h1
      · exact .inr ⟨by simp, h⟩
      · exact .inr ⟨List.mem_cons_of_mem _ h1.1, h1.2⟩
    · rw [if_neg h] at h1
      rcases h1 with rfl | h1
      · exact .inl rfl
      · exact .inr ⟨List.mem_cons_of_mem _ h1.1, h1.2⟩
theorem prv_is (nb : Int) (l : List OptV) : prvO nb l = none0 ∨ (prvO nb l ∈ l ∧ (prvO nb l).cost < inf ∧ (prvO nb l).nb = nb) := prv_fold nb l none0
theorem choB_is (now : Int) (old : ChoV) (b c : OptV) : ∃ q, (q = b ∨ q = c) ∧ (choB now old b c).nb = q.nb ∧ (choB now old b c).cost = q.cost := by
  unfold choB
  repeat' split
  all_goals first | exact ⟨b, .inl rfl, rfl, rfl⟩ | exact ⟨c, .inr rfl, rfl, rfl⟩
theorem choose_is {now : Int} {old : ChoV} {l : List OptV} (h : (chooseV now old l).nb ≠ 0) : ∃ q ∈ l, q.cost < inf ∧ (chooseV now old l).nb = q.nb ∧ (chooseV now old l).cost = q.cost := by
  obtain ⟨q, h1, h2, h3⟩ := choB_is now old (bstO l) (prvO old.nb l)
  have h4 : (chooseV now old l).nb = q.nb := h2
  have hq : q ≠ none0 := fun e => h (by rw [h4, e]; rfl)
  rcases h1 with rfl | rfl
  · have := (bst_is l).resolve_left hq
    exact ⟨_, this.1, this.2, h2, h3⟩
  · have := (prv_is old.nb l).resolve_left hq
    exact ⟨_, this.1, this.2.1, h2, h3⟩
theorem mem_opts {now : Int} {s : List SrcV} {cm : List (Int × Int)} {t : DstV} {l : List RouV} {q : OptV} : q ∈ optsV now s cm t l ↔ ∃ r ∈ l, r.to = t ∧ optV now s cm t r = some q := by
  unfold optsV
  simp only [List.mem_filterMap, List.mem_filter, decide_eq_true_eq, and_assoc]
theorem optV_is {now : Int} {s : List SrcV} {cm : List (Int × Int)} {t : DstV} {r : RouV} {q : OptV} : optV now s cm t r = some q ↔ ∃ c, getA r.nb cm = some c ∧ now < r.til ∧ feasV s now t r.said = true ∧ q = ⟨r.nb, addM r.said.met c⟩ := by
  unfold optV
  cases hc : getA r.nb cm with
  | none => simp
  | some c =>
    dsimp only
    by_cases h : r.til ≤ now
    · simp [h]
      intro _ _
      omega
    · cases hf : feasV s now t r.said
      · simp [h]
      · simp [h]
        constructor
        · rintro rfl
          exact ⟨by omega, rfl⟩
        · exact fun h => h.2.symm
theorem asc_one {α : Type} {cm : α → α → Int} {l : List α} (h : AscC cm l) {a b : α} (ha : a ∈ l) (hb : b ∈ l) (hab : ¬ cm a b < 0) (hba : ¬ cm b a < 0) : a = b := by
  obtain ⟨i, hi, rfl⟩ := List.mem_iff_getElem.1 ha
  obtain ⟨j, hj, rfl⟩ := List.mem_iff_getElem.1 hb
  rcases Nat.lt_trichotomy i j with e | e | e
  · exact absurd (List.pairwise_iff_getElem.1 h i j hi hj e) hab
  · subst e; rfl
  · exact absurd (List.pairwise_iff_getElem.1 h j i hj hi e) hba
theorem rou_one {l : List RouV} (hi : ∀ x ∈ l, IsRo x) (h : validRs l = true) {a b : RouV} (ha : a ∈ l) (hb : b ∈ l) (e : a.to = b.to) (e2 : a.nb = b.nb) : a = b := by
  have h0 : cmpR a b = 0 := (cmpR_zero (hi a ha).1 (hi b hb).1).2 ⟨e, e2⟩
  have h1 := cmpR_anti a b
  exact asc_one (validRs_iff.1 h).2.2 ha hb (by omega) (by omega)
theorem said_fold (x : Int) (d : DisV) : ∀ (l : List RouV) (m : List (Int × DisV)), (∀ r ∈ l, r.nb = x → r.said = d) → ((∃ r ∈ l, r.nb = x) ∨ getA x m = some d) → getA x (l.foldl (fun m r => putA r.nb r.said m) m) = some d
  | [], m, _, h => h.resolve_left (by simp)
  | r :: l, m, hd, h => by
    rw [List.foldl_cons]
    refine said_fold x d l _ (fun r hr => hd r (List.mem_cons_of_mem _ hr)) ?_
    rw [getA_put]
    by_cases e : x = r.nb
    · rw [if_pos e, hd r (by simp) e.symm]
      exact .inr rfl
    · rw [if_neg e]
      rcases h with ⟨r', h1, h2⟩ | h
      · rcases List.mem_cons.1 h1 with rfl | h1
        · exact absurd h2.symm e
        · exact .inl ⟨r', h1, h2⟩
      · exact .inr h
theorem said_at {now : Int} {s : List SrcV} {cm : List (Int × Int)} {t : DstV} {l : List RouV} (hi : ∀ x ∈ l, IsRo x) (h : validRs l = true) {r : RouV} (hr : r ∈ l) (ht : r.to = t) {q : OptV} (hq : optV now s cm t r = some q) : getA r.nb (saidV now s cm t l) = some r.said := by
  refine said_fold _ _ _ _ (fun r' hr' e => ?_) (.inl ⟨r, ?_, rfl⟩)
  · simp only [List.mem_filter, decide_eq_true_eq] at hr'
    rw [rou_one hi h hr'.1.1 hr (by rw [hr'.1.2, ht]) e]
  · simp only [List.mem_filter, decide_eq_true_eq]
    exact ⟨⟨hr, ht⟩, by rw [hq]; rfl⟩
theorem selE_to {now : Int} {s : List SrcV} {cm : List (Int × Int)} {t : DstV} {l : List RouV} {old : List InsV} {x : InsV} (h : selE now l s cm old t = some x) : x.to = t := by
  unfold selE aftV at h
  dsimp only at h
  split at h
  · cases h; rfl
  · cases ho : oldV old t with
    | none => rw [ho] at h; cases h
    | some o =>
      have h2 : o.to = t := of_decide_eq_true (by simpa using List.find?_some ho)
      rw [ho] at h
      dsimp only at h
      split at h
      · cases h; rfl
      · split at h
        · cases h; exact h2
        · cases h
theorem lkC_pos (c : Int) : 1 ≤ lkC c ∧ c ≤ lkC c := by
  unfold lkC
  split <;> omega
theorem addM_lt {a b : Int} (h : addM a b < inf) : addM a b = a + b ∧ b < inf ∧ 0 ≤ a ∧ 0 ≤ b := by
  unfold addM at h ⊢
  split at h
  · rename_i h2
    rw [if_pos h2]
    unfold validM at h2
    simp only [Bool.and_eq_true, decide_eq_true_eq] at h2
    unfold inf at *
    omega
  · omega
/-- a reachable one rests on a route -/
theorem feas_law {now : Int} {l : List RouV} {s : List SrcV} {o : List OptV} {old : List InsV} (hi : ∀ x ∈ l, IsRo x) (hl : validRs l = true) {x : InsV} (hx : x ∈ selV now l s o old) (hnb : x.nb ≠ 0) :
    ∃ y ∈ l, ∃ z ∈ o, y.to = x.to ∧ y.nb = x.nb ∧ now < y.til ∧ z.nb = x.nb ∧ z.cost < inf ∧ feasV s now x.to y.said = true ∧ y.said.met < x.own.met ∧ x.own.seq = y.said.seq := by
  obtain ⟨t, _, h⟩ := List.mem_filterMap.1 hx
  have ht := selE_to h
  unfold selE aftV at h
  dsimp only at h
  split at h
  · rename_i hc
    obtain ⟨q, hq, hqc, e1, e2⟩ := choose_is hc
    obtain ⟨r, hr, hrt, ho⟩ := mem_opts.1 hq
    have hsaid := said_at hi hl hr hrt ho
    obtain ⟨c, hc1, hc2, hc3, rfl⟩ := optV_is.1 ho
    obtain ⟨z, hz, hz1, rfl⟩ := costM_mem hc1
    dsimp only at e1 e2 hqc
    obtain ⟨g1, g2, g3, g4⟩ := addM_lt hqc
    have g5 := lkC_pos z.cost
    rw [e1, e2, hsaid] at h
    cases h
    refine ⟨r, hr, z, hz, hrt, rfl, hc2, hz1, by omega, hc3, ?_, rfl⟩
    dsimp only
    omega
  · cases ho : oldV old t with
    | none => rw [ho] at h; cases h
    | some o =>
      rw [ho] at h
      dsimp only at h
      split at h
      · cases h
        exact absurd rfl hnb
      · rename_i h0
        split at h
        · cases h
          exact absurd (by simpa using h0) hnb
        · cases h
theorem mem_dests {l : List RouV} {old : List InsV} (hi : ∀ x ∈ l, IsRo x) (ho : ∀ x ∈ old, IsIn x) {t : DstV} : t ∈ destsV l old ↔ (∃ r ∈ l, r.to = t) ∨ ∃ x ∈ old, x.to = t := by
  unfold destsV
  rw [(foldr_insD (l := allD l old) (fun x hx => by
    unfold allD at hx
    rcases List.mem_append.1 hx with h | h
    · obtain ⟨r, hr, rfl⟩ := List.mem_map.1 h
      exact (hi r hr).1
    · obtain ⟨r, hr, rfl⟩ := List.mem_map.1 h
      exact (ho r hr).1)).2]
  unfold allD
  simp only [List.mem_append, List.mem_map]
end Go.Proofs.YtilgoepokaaleaaGreat
/-! ZN -/
namespace Go.Proofs.YtilgoepokaaleaaGreat
set_option linter.unusedVariables false
set_option linter.unusedSimpArgs false
open Go.RowKit
attribute [local irreducible] OpTo wpListIn Code.wpIn MW Cal
set_option maxHeartbeats 1000000 in
theorem reforder_c (x y : RouV) (ha : IsRo x) (hb : IsRo y) (W : World) : Cal Tryz.prog 93 [.agg (roC x).toArray, .agg (roC y).toArray].toArray W fun v w' => v = .int .i64 (cmpR x y) ∧ Ext [] W w' := by
  have a1 := ro_to ha
  have a2 := ro_nb ha
  have c1 := ro_to hb
  have c2 := ro_nb hb
  rw [cmpR_or ha.1 hb.1]
  unfold orI cmpI
  refine fn_ofM (n := 24) [] Tryz.func93 rfl rfl rfl ?_
  intro a w F M hwW
  refine c_seq ?_
  refine c_region ?_
  (refine sD F (o_box M (F.ev rfl) rfl ?_); clear F M; intro b2 w M a F)
  (refine sD F (o_box M (F.ev rfl) rfl ?_); clear F M; intro b3 w M a F)
  refine sD F (o_assign (F.ev rfl) ?_); clear F a; intro a F
  with_reducible refine l_nil (q_then (c_seq (c_seq (c_region ?_))))
  refine sD F (o_fieldAddr (F.ev rfl) ?_); clear F a; intro a F
  refine sD F (o_loadA M (F.ev rfl) (by repeat constructor) (by first | assumption | rfl) ?_); clear F a; intro a F
  refine sD F (o_fieldAddr (F.ev rfl) ?_); clear F a; intro a F
  refine sD F (o_loadA M (F.ev rfl) (by repeat constructor) (by first | assumption | rfl) ?_); clear F a; intro a F
  (refine sD F (o_call (F.ev rfl) (F.evs rfl) (Cal.mono (rcompare_c x.to y.to ha.1 hb.1 _) ?_)); clear F; clear a; rintro _ w ⟨rfl, hE⟩ a F; replace M := M.later hE; clear hE)
  by_cases k : cmpD x.to y.to = 0
  · rw [if_pos k]
    by_cases k2 : x.nb < y.nb
    · rw [if_pos k2]
      refine sD F (o_assign (F.ev rfl) ?_); clear F a; intro a F
      with_reducible refine l_nil (q_then (c_seq (c_region ?_)))
      refine sD F (o_move (F.ev rfl) ?_); clear F a; intro a F
      refine sD F (o_neqF (F.ev rfl) (F.ev rfl) (by omega) ?_); clear F a; intro a F
      with_reducible refine l_nil (q_then ?_)
      refine c_false F rfl rfl ?_
      with_reducible refine c_skip (q_then (c_seq (c_seq (c_region ?_))))
      refine sD F (o_fieldAddr (F.ev rfl) ?_); clear F a; intro a F
      refine sD F (o_load1 M (F.ev rfl) (by repeat constructor) (by first | assumption | rfl) ?_); clear F a; intro a F
      refine sD F (o_fieldAddr (F.ev rfl) ?_); clear F a; intro a F
      refine sD F (o_load1 M (F.ev rfl) (by repeat constructor) (by first | assumption | rfl) ?_); clear F a; intro a F
      refine sD F (o_lssT (F.ev rfl) (F.ev rfl) (by omega) ?_); clear F a; intro a F
      with_reducible refine l_nil (q_then ?_)
      refine c_true F rfl rfl ?_
      refine c_seq (c_region ?_)
      refine sD F (o_assign (F.ev rfl) ?_); clear F a; intro a F
      with_reducible refine l_nil (q_then (c_ret (q_thenR ?_)))
      refine p_ret F rfl (.cons (.tmp (F.ev rfl)) .nil) ?_
      exact ⟨rfl, M.ext⟩
    · rw [if_neg k2]
      by_cases k3 : y.nb < x.nb
      · rw [if_pos k3]
        refine sD F (o_assign (F.ev rfl) ?_); clear F a; intro a F
        with_reducible refine l_nil (q_then (c_seq (c_region ?_)))
        refine sD F (o_move (F.ev rfl) ?_); clear F a; intro a F
        refine sD F (o_neqF (F.ev rfl) (F.ev rfl) (by omega) ?_); clear F a; intro a F
        with_reducible refine l_nil (q_then ?_)
        refine c_false F rfl rfl ?_
        with_reducible refine c_skip (q_then (c_seq (c_seq (c_region ?_))))
        refine sD F (o_fieldAddr (F.ev rfl) ?_); clear F a; intro a F
        refine sD F (o_load1 M (F.ev rfl) (by repeat constructor) (by first | assumption | rfl) ?_); clear F a; intro a F
        refine sD F (o_fieldAddr (F.ev rfl) ?_); clear F a; intro a F
        refine sD F (o_load1 M (F.ev rfl) (by repeat constructor) (by first | assumption | rfl) ?_); clear F a; intro a F
        refine sD F (o_lssF (F.ev rfl) (F.ev rfl) (by omega) ?_); clear F a; intro a F
        with_reducible refine l_nil (q_then ?_)
        refine c_false F rfl rfl ?_
        with_reducible refine c_skip (q_then (c_seq (c_seq (c_region ?_))))
        refine sD F (o_fieldAddr (F.ev rfl) ?_); clear F a; intro a F
        refine sD F (o_load1 M (F.ev rfl) (by repeat constructor) (by first | assumption | rfl) ?_); clear F a; intro a F
        refine sD F (o_fieldAddr (F.ev rfl) ?_); clear F a; intro a F
        refine sD F (o_load1 M (F.ev rfl) (by repeat constructor) (by first | assumption | rfl) ?_); clear F a; intro a F
        refine sD F (o_gtrT (F.ev rfl) (F.ev rfl) (by omega) ?_); clear F a; intro a F
        with_reducible refine l_nil (q_then ?_)
        refine c_true F rfl rfl ?_
        refine c_seq (c_region ?_)
        refine sD F (o_assign (F.ev rfl) ?_); clear F a; intro a F
        with_reducible refine l_nil (q_then (c_ret (q_thenR ?_)))
        refine p_ret F rfl (.cons (.tmp (F.ev rfl)) .nil) ?_
        exact ⟨rfl, M.ext⟩
      · rw [if_neg k3]
        refine sD F (o_assign (F.ev rfl) ?_); clear F a; intro a F
        with_reducible refine l_nil (q_then (c_seq (c_region ?_)))
        refine sD F (o_move (F.ev rfl) ?_); clear F a; intro a F
        refine sD F (o_neqF (F.ev rfl) (F.ev rfl) (by omega) ?_); clear F a; intro a F
        with_reducible refine l_nil (q_then ?_)
        refine c_false F rfl rfl ?_
        with_reducible refine c_skip (q_then (c_seq (c_seq (c_region ?_))))
        refine sD F (o_fieldAddr (F.ev rfl) ?_); clear F a; intro a F
        refine sD F (o_load1 M (F.ev rfl) (by repeat constructor) (by first | assumption | rfl) ?_); clear F a; intro a F
        refine sD F (o_fieldAddr (F.ev rfl) ?_); clear F a; intro a F
        refine sD F (o_load1 M (F.ev rfl) (by repeat constructor) (by first | assumption | rfl) ?_); clear F a; intro a F
        refine sD F (o_lssF (F.ev rfl) (F.ev rfl) (by omega) ?_); clear F a; intro a F
        with_reducible refine l_nil (q_then ?_)
        refine c_false F rfl rfl ?_
        with_reducible refine c_skip (q_then (c_seq (c_seq (c_region ?_))))
        refine sD F (o_fieldAddr (F.ev rfl) ?_); clear F a; intro a F
        refine sD F (o_load1 M (F.ev rfl) (by repeat constructor) (by first | assumption | rfl) ?_); clear F a; intro a F
        refine sD F (o_fieldAddr (F.ev rfl) ?_); clear F a; intro a F
        refine sD F (o_load1 M (F.ev rfl) (by repeat constructor) (by first | assumption | rfl) ?_); clear F a; intro a F
        refine sD F (o_gtrF (F.ev rfl) (F.ev rfl) (by omega) ?_); clear F a; intro a F
        with_reducible refine l_nil (q_then ?_)
        refine c_false F rfl rfl ?_
        with_reducible refine c_skip (q_then (c_seq (c_region ?_)))
        refine sD F (o_assign (F.ev rfl) ?_); clear F a; intro a F
        with_reducible refine l_nil (q_then (c_ret ?_))
        refine p_ret F rfl (.cons (.tmp (F.ev rfl)) .nil) ?_
        exact ⟨rfl, M.ext⟩
  · rw [if_neg k]
    refine sD F (o_assign (F.ev rfl) ?_); clear F a; intro a F
    with_reducible refine l_nil (q_then (c_seq (c_region ?_)))
    refine sD F (o_move (F.ev rfl) ?_); clear F a; intro a F
    refine sD F (o_neqT (F.ev rfl) (F.ev rfl) (by omega) ?_); clear F a; intro a F
    with_reducible refine l_nil (q_then ?_)
    refine c_true F rfl rfl ?_
    refine c_seq (c_region ?_)
    refine sD F (o_move (F.ev rfl) ?_); clear F a; intro a F
    refine sD F (o_assign (F.ev rfl) ?_); clear F a; intro a F
    with_reducible refine l_nil (q_then (c_ret (q_thenR ?_)))
    refine p_ret F rfl (.cons (.tmp (F.ev rfl)) .nil) ?_
    exact ⟨rfl, M.ext⟩
set_option maxHeartbeats 4000000 in
theorem refvalidR_c (l : List RouV) (hx : ∀ x ∈ l, IsRo x) (v : Value) (W : World) (hS : SlAt W 39 v l.length (rosC l)) :
    Cal Tryz.prog 89 [v].toArray W fun r w' => r = .bool (validRs l) ∧ Ext [] W w' := by
  obtain ⟨q, cap, rfl, hcap, hsp, hl, hm⟩ := hS
  unfold validRs vldL
  by_cases c0 : 512 < l.length
  · rw [decide_eq_false (by omega), Bool.false_and]
    refine fn_ofM (n := 70) [] Tryz.func89 rfl rfl rfl ?_
    intro a w F M hwW
    refine c_seq (c_region ?_)
    refine sD F (o_assign (F.ev rfl) ?_); clear F a; intro a F
    with_reducible refine l_nil (q_then (c_seq (c_seq (c_region ?_))))
    refine sD F (o_move (F.ev rfl) ?_); clear F a; intro a F
    refine sD F (o_lenSl (F.ev rfl) ?_); clear F a; intro a F
    refine sD F (o_gtrT (F.ev rfl) (F.ev rfl) (by omega) ?_); clear F a; intro a F
    with_reducible refine l_nil (q_then ?_)
    refine c_true F rfl rfl ?_
    refine c_seq (c_region ?_)
    refine sD F (o_assign (F.ev rfl) ?_); clear F a; intro a F
    with_reducible refine l_nil (q_then (c_ret (q_thenR ?_)))
    refine p_ret F rfl (.cons (.tmp (F.ev rfl)) .nil) ?_
    exact ⟨rfl, M.ext⟩
  rw [decide_eq_true (show l.length ≤ 512 by omega), Bool.true_and]
  refine fn_ofM (n := 70) [] Tryz.func89 rfl rfl rfl ?_
  intro a w F M hwW
  refine c_seq (c_region ?_)
  refine sD F (o_assign (F.ev rfl) ?_); clear F a; intro a F
  with_reducible refine l_nil (q_then (c_seq (c_seq (c_region ?_))))
  refine sD F (o_move (F.ev rfl) ?_); clear F a; intro a F
  refine sD F (o_lenSl (F.ev rfl) ?_); clear F a; intro a F
  refine sD F (o_gtrF (F.ev rfl) (F.ev rfl) (by omega) ?_); clear F a; intro a F
  with_reducible refine l_nil (q_then ?_)
  refine c_false F rfl rfl ?_
  with_reducible refine c_skip (q_then (c_seq (c_seq (c_region ?_))))
  refine sD F (o_move (F.ev rfl) ?_); clear F a; intro a F
  refine sD F (o_lenSl (F.ev rfl) ?_); clear F a; intro a F
  refine sD F (o_move (F.ev rfl) ?_); clear F a; intro a F
  with_reducible refine l_nil (q_then (c_block ?_))
  refine c_loop (fun m a w => ∃ i : Nat, m = l.length - i ∧ i ≤ l.length ∧ (∀ j, j < i → vld1 rou1 cmpR l j = true) ∧ Frm a 70 [] [(9, .int .i64 i), (8, .int .i64 l.length), (0, .slice q l.length cap)] ∧ Mem [] W w []) l.length ⟨0, rfl, by omega, by omega, F.only [9, 8, 0] rfl, M⟩ ?_
  clear F M
  rintro m a w ⟨i, hm', hi, hv, F, M⟩
  by_cases hlt : i < l.length
  · obtain ⟨b, o, cs, t, fz, rfl, hb, hs⟩ := hm (by omega)
    have hxv := hx _ (List.getElem_mem hlt)
    have hv0 := vld1_0 (e1 := rou1) (cm := cmpR) hlt
    have hvs := vld1_s (e1 := rou1) (cm := cmpR) hlt
    have hvf := vld1_f (e1 := rou1) (cm := cmpR) hlt
    have f1 : seg cs (o + (i : Int).toNat * 39) 39 = some (roC l[i]) := seg_el (ros_len hx) hs hlt (by omega)
    obtain ⟨x, hx0⟩ : ∃ x, x = l[i] := ⟨_, rfl⟩
    rw [← hx0] at hxv hv0 hvs hvf f1
    have g0 : seg cs (o + (i : Int).toNat * 39) 35 = some (dvC x.to) := sg_seg f1 (ro_to hxv) (by omega)
    have g1 : nth cs (o + (i : Int).toNat * 39 + 35) = some (.int .u64 x.nb) := sg_nth f1 (ro_nb hxv) (by omega)
    have g2 : seg cs (o + (i : Int).toNat * 39 + 36) 2 = some (diC x.said) := sg_seg f1 (ro_said hxv) (by omega)
    have g3 : nth cs (o + (i : Int).toNat * 39 + 36 + 1) = some (.int .i64 x.said.met) := sg_nth f1 (ro_said_met hxv) (by omega)
    have g4 : nth cs (o + (i : Int).toNat * 39 + 38) = some (.int .i64 x.til) := sg_nth f1 (ro_til hxv) (by omega)
    refine c_seq (c_region ?_)
    refine sD F (o_lssT (F.ev rfl) (F.ev rfl) (by omega) ?_); clear F a; intro a F
    with_reducible refine l_nil (q_then (c_seq ?_))
    refine c_true F rfl rfl ?_
    with_reducible refine c_skip (q_then (c_seq (c_block (c_seq (c_region ?_)))))
    refine sD F (o_move (F.ev rfl) ?_); clear F a; intro a F
    refine sD F (o_assign (F.ev rfl) ?_); clear F a; intro a F
    with_reducible refine l_nil (q_then (c_seq (c_seq (c_region ?_))))
    refine sD F (o_move (F.ev rfl) ?_); clear F a; intro a F
    refine sD F (o_move (F.ev rfl) ?_); clear F a; intro a F
    refine sD F (o_indexSl (F.ev rfl) (F.ev rfl) (by omega) (by omega) ?_); clear F a; intro a F
    refine sD F (o_fieldAddr (F.ev rfl) ?_); clear F a; intro a F
    refine sD F (o_loadWA M (F.ev rfl) (by assumption) (by first | assumption | rfl) ?_); clear F a; intro a F
    (refine sD F (o_call (F.ev rfl) (F.evs rfl) (Cal.mono (rvalidTo_c x.to hxv.1 _) ?_)); clear F; clear a; rintro _ w ⟨rfl, hE⟩ a F; replace M := M.later hE; clear hE)
    cases c0 : validT x.to
    · rw [rng_f hlt (hvf (by unfold rou1 finD inf; rw [c0]; simp))]
      rw [c0] at F
      refine sD F (o_not (F.ev rfl) ?_); clear F a; intro a F
      refine sD F (o_move (F.ev rfl) ?_); clear F a; intro a F
      refine sO F ?_; clear F a; intro a F
      refine sO F ?_; clear F a; intro a F
      refine sO F ?_; clear F a; intro a F
      refine sO F ?_; clear F a; intro a F
      refine sO F ?_; clear F a; intro a F
      refine sO F ?_; clear F a; intro a F
      refine sD F (o_pickT (F.ev rfl) (F.ev rfl) ?_); clear F a; intro a F
      refine sD F (o_move (F.ev rfl) ?_); clear F a; intro a F
      refine sO F ?_; clear F a; intro a F
      refine sO F ?_; clear F a; intro a F
      refine sO F ?_; clear F a; intro a F
      refine sO F ?_; clear F a; intro a F
      refine sO F ?_; clear F a; intro a F
      refine sO F ?_; clear F a; intro a F
      refine sO F ?_; clear F a; intro a F
      refine sD F (o_pickT (F.ev rfl) (F.ev rfl) ?_); clear F a; intro a F
      refine sD F (o_move (F.ev rfl) ?_); clear F a; intro a F
      refine sO F ?_; clear F a; intro a F
      refine sO F ?_; clear F a; intro a F
      refine sO F ?_; clear F a; intro a F
      refine sO F ?_; clear F a; intro a F
      refine sO F ?_; clear F a; intro a F
      refine sO F ?_; clear F a; intro a F
      refine sO F ?_; clear F a; intro a F
      refine sD F (o_pickT (F.ev rfl) (F.ev rfl) ?_); clear F a; intro a F
      refine sD F (o_move (F.ev rfl) ?_); clear F a; intro a F
      refine sO F ?_; clear F a; intro a F
      refine sO F ?_; clear F a; intro a F
      refine sO F ?_; clear F a; intro a F
      refine sO F ?_; clear F a; intro a F
      refine sO F ?_; clear F a; intro a F
      refine sO F ?_; clear F a; intro a F
      refine sO F ?_; clear F a; intro a F
      refine sD F (o_pickT (F.ev rfl) (F.ev rfl) ?_); clear F a; intro a F
      with_reducible refine l_nil (q_then ?_)
      refine c_true F rfl rfl ?_
      refine c_seq (c_region ?_)
      refine sD F (o_assign (F.ev rfl) ?_); clear F a; intro a F
      with_reducible refine l_nil (q_then (c_ret (q_thenR (q_inBR (q_thenR (q_thenR (q_inBR (q_thenR ?_))))))))
      refine p_ret F rfl (.cons (.tmp (F.ev rfl)) .nil) ?_
      exact ⟨rfl, M.ext⟩
    rw [c0] at F
    by_cases c1 : x.nb = 0
    · rw [rng_f hlt (hvf (by unfold rou1 finD inf; rw [c0, decide_eq_true c1]; simp))]
      refine sD F (o_not (F.ev rfl) ?_); clear F a; intro a F
      refine sD F (o_move (F.ev rfl) ?_); clear F a; intro a F
      refine sG F (o_move (F.ev rfl) ?_); clear F a; intro a F
      refine sG F (o_move (F.ev rfl) ?_); clear F a; intro a F
      refine sG F (o_indexSl (F.ev rfl) (F.ev rfl) (by omega) (by omega) ?_); clear F a; intro a F
      refine sG F (o_fieldAddr (F.ev rfl) ?_); clear F a; intro a F
      refine sG F (o_loadW1 M (F.ev rfl) (by assumption) (by first | assumption | rfl) ?_); clear F a; intro a F
      refine sG F (o_eqlT (F.ev rfl) (F.ev rfl) (by omega) ?_); clear F a; intro a F
      refine sD F (o_pickF (F.ev rfl) (F.ev rfl) ?_); clear F a; intro a F
      refine sD F (o_move (F.ev rfl) ?_); clear F a; intro a F
      refine sO F ?_; clear F a; intro a F
      refine sO F ?_; clear F a; intro a F
      refine sO F ?_; clear F a; intro a F
      refine sO F ?_; clear F a; intro a F
      refine sO F ?_; clear F a; intro a F
      refine sO F ?_; clear F a; intro a F
      refine sO F ?_; clear F a; intro a F
      refine sD F (o_pickT (F.ev rfl) (F.ev rfl) ?_); clear F a; intro a F
      refine sD F (o_move (F.ev rfl) ?_); clear F a; intro a F
      refine sO F ?_; clear F a; intro a F
      refine sO F ?_; clear F a; intro a F
      refine sO F ?_; clear F a; intro a F
      refine sO F ?_; clear F a; intro a F
      refine sO F ?_; clear F a; intro a F
      refine sO F ?_; clear F a; intro a F
      refine sO F ?_; clear F a; intro a F
      refine sD F (o_pickT (F.ev rfl) (F.ev rfl) ?_); clear F a; intro a F
      refine sD F (o_move (F.ev rfl) ?_); clear F a; intro a F
      refine sO F ?_; clear F a; intro a F
      refine sO F ?_; clear F a; intro a F
      refine sO F ?_; clear F a; intro a F
      refine sO F ?_; clear F a; intro a F
      refine sO F ?_; clear F a; intro a F
      refine sO F ?_; clear F a; intro a F
      refine sO F ?_; clear F a; intro a F
      refine sD F (o_pickT (F.ev rfl) (F.ev rfl) ?_); clear F a; intro a F
      with_reducible refine l_nil (q_then ?_)
      refine c_true F rfl rfl ?_
      refine c_seq (c_region ?_)
      refine sD F (o_assign (F.ev rfl) ?_); clear F a; intro a F
      with_reducible refine l_nil (q_then (c_ret (q_thenR (q_inBR (q_thenR (q_thenR (q_inBR (q_thenR ?_))))))))
      refine p_ret F rfl (.cons (.tmp (F.ev rfl)) .nil) ?_
      exact ⟨rfl, M.ext⟩
    refine sD F (o_not (F.ev rfl) ?_); clear F a; intro a F
    refine sD F (o_move (F.ev rfl) ?_); clear F a; intro a F
    refine sG F (o_move (F.ev rfl) ?_); clear F a; intro a F
    refine sG F (o_move (F.ev rfl) ?_); clear F a; intro a F
    refine sG F (o_indexSl (F.ev rfl) (F.ev rfl) (by omega) (by omega) ?_); clear F a; intro a F
    refine sG F (o_fieldAddr (F.ev rfl) ?_); clear F a; intro a F
    refine sG F (o_loadW1 M (F.ev rfl) (by assumption) (by first | assumption | rfl) ?_); clear F a; intro a F
    refine sG F (o_eqlF (F.ev rfl) (F.ev rfl) (by omega) ?_); clear F a; intro a F
    refine sD F (o_pickF (F.ev rfl) (F.ev rfl) ?_); clear F a; intro a F
    refine sD F (o_move (F.ev rfl) ?_); clear F a; intro a F
    refine sG F (o_move (F.ev rfl) ?_); clear F a; intro a F
    refine sG F (o_move (F.ev rfl) ?_); clear F a; intro a F
    refine sG F (o_indexSl (F.ev rfl) (F.ev rfl) (by omega) (by omega) ?_); clear F a; intro a F
    refine sG F (o_fieldAddr (F.ev rfl) ?_); clear F a; intro a F
    refine sG F (o_loadWA M (F.ev rfl) (by assumption) (by first | assumption | rfl) ?_); clear F a; intro a F
    (refine sG F (o_call (F.ev rfl) (F.evs rfl) (Cal.mono (rdvalid_c x.said _) ?_)); clear F; clear a; rintro _ w ⟨rfl, hE⟩ a F; replace M := M.later hE; clear hE)
    cases c2 : validM x.said.met
    · rw [rng_f hlt (hvf (by unfold rou1 finD inf; rw [c0, decide_eq_false c1, c2]; simp))]
      rw [c2] at F
      refine sG F (o_not (F.ev rfl) ?_); clear F a; intro a F
      refine sD F (o_pickF (F.ev rfl) (F.ev rfl) ?_); clear F a; intro a F
      refine sD F (o_move (F.ev rfl) ?_); clear F a; intro a F
      refine sO F ?_; clear F a; intro a F
      refine sO F ?_; clear F a; intro a F
      refine sO F ?_; clear F a; intro a F
      refine sO F ?_; clear F a; intro a F
      refine sO F ?_; clear F a; intro a F
      refine sO F ?_; clear F a; intro a F
      refine sO F ?_; clear F a; intro a F
      refine sD F (o_pickT (F.ev rfl) (F.ev rfl) ?_); clear F a; intro a F
      refine sD F (o_move (F.ev rfl) ?_); clear F a; intro a F
      refine sO F ?_; clear F a; intro a F
      refine sO F ?_; clear F a; intro a F
      refine sO F ?_; clear F a; intro a F
      refine sO F ?_; clear F a; intro a F
      refine sO F ?_; clear F a; intro a F
      refine sO F ?_; clear F a; intro a F
      refine sO F ?_; clear F a; intro a F
      refine sD F (o_pickT (F.ev rfl) (F.ev rfl) ?_); clear F a; intro a F
      with_reducible refine l_nil (q_then ?_)
      refine c_true F rfl rfl ?_
      refine c_seq (c_region ?_)
      refine sD F (o_assign (F.ev rfl) ?_); clear F a; intro a F
      with_reducible refine l_nil (q_then (c_ret (q_thenR (q_inBR (q_thenR (q_thenR (q_inBR (q_thenR ?_))))))))
      refine p_ret F rfl (.cons (.tmp (F.ev rfl)) .nil) ?_
      exact ⟨rfl, M.ext⟩
    rw [c2] at F
    by_cases c3 : x.said.met = 65535
    · rw [rng_f hlt (hvf (by unfold rou1 finD inf; rw [c0, decide_eq_false c1, c2, decide_eq_true c3]; simp))]
      refine sG F (o_not (F.ev rfl) ?_); clear F a; intro a F
      refine sD F (o_pickF (F.ev rfl) (F.ev rfl) ?_); clear F a; intro a F
      refine sD F (o_move (F.ev rfl) ?_); clear F a; intro a F
      refine sG F (o_move (F.ev rfl) ?_); clear F a; intro a F
      refine sG F (o_move (F.ev rfl) ?_); clear F a; intro a F
      refine sG F (o_indexSl (F.ev rfl) (F.ev rfl) (by omega) (by omega) ?_); clear F a; intro a F
      refine sG F (o_fieldAddr (F.ev rfl) ?_); clear F a; intro a F
      refine sG F (o_fieldAddr (F.ev rfl) ?_); clear F a; intro a F
      refine sG F (o_loadW1 M (F.ev rfl) (by assumption) (by first | assumption | rfl) ?_); clear F a; intro a F
      refine sG F (o_eqlT (F.ev rfl) (F.ev rfl) (by omega) ?_); clear F a; intro a F
      refine sD F (o_pickF (F.ev rfl) (F.ev rfl) ?_); clear F a; intro a F
      refine sD F (o_move (F.ev rfl) ?_); clear F a; intro a F
      refine sO F ?_; clear F a; intro a F
      refine sO F ?_; clear F a; intro a F
      refine sO F ?_; clear F a; intro a F
      refine sO F ?_; clear F a; intro a F
      refine sO F ?_; clear F a; intro a F
      refine sO F ?_; clear F a; intro a F
      refine sO F ?_; clear F a; intro a F
      refine sD F (o_pickT (F.ev rfl) (F.ev rfl) ?_); clear F a; intro a F
      with_reducible refine l_nil (q_then ?_)
      refine c_true F rfl rfl ?_
      refine c_seq (c_region ?_)
      refine sD F (o_assign (F.ev rfl) ?_); clear F a; intro a F
      with_reducible refine l_nil (q_then (c_ret (q_thenR (q_inBR (q_thenR (q_thenR (q_inBR (q_thenR ?_))))))))
      refine p_ret F rfl (.cons (.tmp (F.ev rfl)) .nil) ?_
      exact ⟨rfl, M.ext⟩
    refine sG F (o_not (F.ev rfl) ?_); clear F a; intro a F
    refine sD F (o_pickF (F.ev rfl) (F.ev rfl) ?_); clear F a; intro a F
    refine sD F (o_move (F.ev rfl) ?_); clear F a; intro a F
    refine sG F (o_move (F.ev rfl) ?_); clear F a; intro a F
    refine sG F (o_move (F.ev rfl) ?_); clear F a; intro a F
    refine sG F (o_indexSl (F.ev rfl) (F.ev rfl) (by omega) (by omega) ?_); clear F a; intro a F
    refine sG F (o_fieldAddr (F.ev rfl) ?_); clear F a; intro a F
    refine sG F (o_fieldAddr (F.ev rfl) ?_); clear F a; intro a F
    refine sG F (o_loadW1 M (F.ev rfl) (by assumption) (by first | assumption | rfl) ?_); clear F a; intro a F
    refine sG F (o_eqlF (F.ev rfl) (F.ev rfl) (by omega) ?_); clear F a; intro a F
    refine sD F (o_pickF (F.ev rfl) (F.ev rfl) ?_); clear F a; intro a F
    refine sD F (o_move (F.ev rfl) ?_); clear F a; intro a F
    refine sG F (o_move (F.ev rfl) ?_); clear F a; intro a F
    refine sG F (o_move (F.ev rfl) ?_); clear F a; intro a F
    refine sG F (o_indexSl (F.ev rfl) (F.ev rfl) (by omega) (by omega) ?_); clear F a; intro a F
    refine sG F (o_fieldAddr (F.ev rfl) ?_); clear F a; intro a F
    refine sG F (o_loadW1 M (F.ev rfl) (by assumption) (by first | assumption | rfl) ?_); clear F a; intro a F
    (refine sG F (o_call (F.ev rfl) (F.evs rfl) (Cal.mono (risTime_c x.til _) ?_)); clear F; clear a; rintro _ w ⟨rfl, hE⟩ a F; replace M := M.later hE; clear hE)
    cases c4 : isTime x.til
    · rw [rng_f hlt (hvf (by unfold rou1 finD inf; rw [c0, decide_eq_false c1, c2, decide_eq_false c3, c4]; simp))]
      rw [c4] at F
      refine sG F (o_not (F.ev rfl) ?_); clear F a; intro a F
      refine sD F (o_pickF (F.ev rfl) (F.ev rfl) ?_); clear F a; intro a F
      with_reducible refine l_nil (q_then ?_)
      refine c_true F rfl rfl ?_
      refine c_seq (c_region ?_)
      refine sD F (o_assign (F.ev rfl) ?_); clear F a; intro a F
      with_reducible refine l_nil (q_then (c_ret (q_thenR (q_inBR (q_thenR (q_thenR (q_inBR (q_thenR ?_))))))))
      refine p_ret F rfl (.cons (.tmp (F.ev rfl)) .nil) ?_
      exact ⟨rfl, M.ext⟩
    rw [c4] at F
    have hgood : rou1 x = true := by unfold rou1 finD inf; rw [c0, decide_eq_false c1, c2, decide_eq_false c3, c4]; rfl
    rw [hgood] at hv0 hvs
    clear hvf hgood
    refine sG F (o_not (F.ev rfl) ?_); clear F a; intro a F
    refine sD F (o_pickF (F.ev rfl) (F.ev rfl) ?_); clear F a; intro a F
    with_reducible refine l_nil (q_then ?_)
    refine c_false F rfl rfl ?_
    with_reducible refine c_skip (q_then (c_seq ?_))
    replace F := F.only [9, 8, 0, 3] rfl
    rcases Nat.eq_zero_or_pos i with hi0 | hi0
    · refine c_draw 14 F (by kernel_rfl) ?_
      intro w1 hE hok
      have M1 := M.later hE
      refine mK hok rfl rfl (fun a' w' F' E' => o_move (F'.ev rfl) ⟨Ext.refl _ _, rfl⟩) ?_
      refine mK hok rfl rfl (fun a' w' F' E' => o_gtrF (F'.ev rfl) (F'.ev rfl) (by omega) ⟨Ext.refl _ _, rfl⟩) ?_
      refine mK hok rfl rfl (fun a' w' F' E' => o_move (F'.ev rfl) ⟨Ext.refl _ _, rfl⟩) ?_
      refine mOff hok rfl rfl rfl rfl rfl ?_
      refine mOff hok rfl rfl rfl rfl rfl ?_
      refine mOff hok rfl rfl rfl rfl rfl ?_
      refine mOff hok rfl rfl rfl rfl rfl ?_
      refine mOff hok rfl rfl rfl rfl rfl ?_
      refine mOff hok rfl rfl rfl rfl rfl ?_
      refine mOff hok rfl rfl rfl rfl rfl ?_
      refine mOff hok rfl rfl rfl rfl rfl ?_
      refine mOff hok rfl rfl rfl rfl rfl ?_
      refine mOff hok rfl rfl rfl rfl rfl ?_
      refine mOff hok rfl rfl rfl rfl rfl ?_
      (refine mDone rfl rfl ?_; clear F M; intro a w F hE2 hX hTT hDD hPP; have M := M1.later hE2; clear M1; clear hX; clear hE2; clear hok; clear hE; clear hTT; clear hDD; clear hPP; (try dsimp only at F))
      refine sD F (o_pickF (F.ev rfl) (F.ev rfl) ?_); clear F a; intro a F
      with_reducible refine l_nil (q_then ?_)
      refine c_false F rfl rfl ?_
      with_reducible refine c_skip (q_inB (q_then (c_region ?_)))
      refine sD F (o_add (F.ev rfl) (F.ev rfl) (w_i64 (by omega) (by omega)) ?_); clear F a; intro a F
      refine sD F (o_move (F.ev rfl) ?_); clear F a; intro a F
      with_reducible refine l_nil (q_then ?_)
      exact ⟨_, by omega, i + 1, rfl, by omega, fun j hj => by
          rcases Nat.lt_or_ge j i with h1 | h1
          · exact hv j h1
          · obtain rfl : j = i := by omega
            rw [hv0 hi0], F.only [9, 8, 0] rfl, M⟩
    · have hyv := hx _ (List.getElem_mem (show i - 1 < l.length by omega))
      have p1 : seg cs (o + ((i : Int) - 1).toNat * 39) 39 = some (roC (l[i - 1]'(by omega))) := seg_el (ros_len hx) hs (show i - 1 < l.length by omega) (by omega)
      replace hvs := hvs hi0
      obtain ⟨y, hy0⟩ : ∃ y, y = l[i - 1]'(by omega) := ⟨_, rfl⟩
      rw [← hy0] at hyv p1 hvs
      clear hy0
      by_cases c9 : cmpR y x < 0
      · refine c_draw 14 F (by kernel_rfl) ?_
        intro w1 hE hok
        have M1 := M.later hE
        refine mK hok rfl rfl (fun a' w' F' E' => o_move (F'.ev rfl) ⟨Ext.refl _ _, rfl⟩) ?_
        refine mK hok rfl rfl (fun a' w' F' E' => o_gtrT (F'.ev rfl) (F'.ev rfl) (by omega) ⟨Ext.refl _ _, rfl⟩) ?_
        refine mK hok rfl rfl (fun a' w' F' E' => o_move (F'.ev rfl) ⟨Ext.refl _ _, rfl⟩) ?_
        refine mKG hok rfl rfl rfl rfl (fun a' w' F' E' => o_move (F'.ev rfl) ⟨Ext.refl _ _, rfl⟩) ?_
        refine mKG hok rfl rfl rfl rfl (fun a' w' F' E' => o_move (F'.ev rfl) ⟨Ext.refl _ _, rfl⟩) ?_
        refine mKG hok rfl rfl rfl rfl (fun a' w' F' E' => o_sub (F'.ev rfl) (F'.ev rfl) (w_i64 (by omega) (by omega)) ⟨Ext.refl _ _, rfl⟩) ?_
        refine mKG hok rfl rfl rfl rfl (fun a' w' F' E' => o_indexSl (F'.ev rfl) (F'.ev rfl) (by omega) (by omega) ⟨Ext.refl _ _, rfl⟩) ?_
        refine mKG hok rfl rfl rfl rfl (fun a' w' F' E' => o_loadWA (M1.later E') (F'.ev rfl) (by assumption) (by first | assumption | rfl) ⟨Ext.refl _ _, rfl⟩) ?_
        refine mKG hok rfl rfl rfl rfl (fun a' w' F' E' => o_move (F'.ev rfl) ⟨Ext.refl _ _, rfl⟩) ?_
        refine mKG hok rfl rfl rfl rfl (fun a' w' F' E' => o_move (F'.ev rfl) ⟨Ext.refl _ _, rfl⟩) ?_
        refine mKG hok rfl rfl rfl rfl (fun a' w' F' E' => o_indexSl (F'.ev rfl) (F'.ev rfl) (by omega) (by omega) ⟨Ext.refl _ _, rfl⟩) ?_
        refine mKG hok rfl rfl rfl rfl (fun a' w' F' E' => o_loadWA (M1.later E') (F'.ev rfl) (by assumption) (by first | assumption | rfl) ⟨Ext.refl _ _, rfl⟩) ?_
        (refine mKG hok rfl rfl rfl rfl (fun a' w' F' E' => o_call (F'.ev rfl) (F'.evs rfl) (Cal.mono (reforder_c y x hyv hxv _) fun _ _ hh => ⟨hh.2, hh.1⟩)) ?_)
        refine mKG hok rfl rfl rfl rfl (fun a' w' F' E' => o_geqF (F'.ev rfl) (F'.ev rfl) (by omega) ⟨Ext.refl _ _, rfl⟩) ?_
        (refine mDone rfl rfl ?_; clear F M; intro a w F hE2 hX hTT hDD hPP; have M := M1.later hE2; clear M1; clear hX; clear hE2; clear hok; clear hE; clear hTT; clear hDD; clear hPP; (try dsimp only at F))
        refine sD F (o_pickT (F.ev rfl) (F.ev rfl) ?_); clear F a; intro a F
        with_reducible refine l_nil (q_then ?_)
        refine c_false F rfl rfl ?_
        with_reducible refine c_skip (q_inB (q_then (c_region ?_)))
        refine sD F (o_add (F.ev rfl) (F.ev rfl) (w_i64 (by omega) (by omega)) ?_); clear F a; intro a F
        refine sD F (o_move (F.ev rfl) ?_); clear F a; intro a F
        with_reducible refine l_nil (q_then ?_)
        exact ⟨_, by omega, i + 1, rfl, by omega, fun j hj => by
          rcases Nat.lt_or_ge j i with h1 | h1
          · exact hv j h1
          · obtain rfl : j = i := by omega
            rw [hvs]; simp [c9], F.only [9, 8, 0] rfl, M⟩
      · rw [rng_f hlt (by rw [hvs]; simp [c9])]
        refine c_draw 14 F (by kernel_rfl) ?_
        intro w1 hE hok
        have M1 := M.later hE
        refine mK hok rfl rfl (fun a' w' F' E' => o_move (F'.ev rfl) ⟨Ext.refl _ _, rfl⟩) ?_
        refine mK hok rfl rfl (fun a' w' F' E' => o_gtrT (F'.ev rfl) (F'.ev rfl) (by omega) ⟨Ext.refl _ _, rfl⟩) ?_
        refine mK hok rfl rfl (fun a' w' F' E' => o_move (F'.ev rfl) ⟨Ext.refl _ _, rfl⟩) ?_
        refine mKG hok rfl rfl rfl rfl (fun a' w' F' E' => o_move (F'.ev rfl) ⟨Ext.refl _ _, rfl⟩) ?_
        refine mKG hok rfl rfl rfl rfl (fun a' w' F' E' => o_move (F'.ev rfl) ⟨Ext.refl _ _, rfl⟩) ?_
        refine mKG hok rfl rfl rfl rfl (fun a' w' F' E' => o_sub (F'.ev rfl) (F'.ev rfl) (w_i64 (by omega) (by omega)) ⟨Ext.refl _ _, rfl⟩) ?_
        refine mKG hok rfl rfl rfl rfl (fun a' w' F' E' => o_indexSl (F'.ev rfl) (F'.ev rfl) (by omega) (by omega) ⟨Ext.refl _ _, rfl⟩) ?_
        refine mKG hok rfl rfl rfl rfl (fun a' w' F' E' => o_loadWA (M1.later E') (F'.ev rfl) (by assumption) (by first | assumption | rfl) ⟨Ext.refl _ _, rfl⟩) ?_
        refine mKG hok rfl rfl rfl rfl (fun a' w' F' E' => o_move (F'.ev rfl) ⟨Ext.refl _ _, rfl⟩) ?_
        refine mKG hok rfl rfl rfl rfl (fun a' w' F' E' => o_move (F'.ev rfl) ⟨Ext.refl _ _, rfl⟩) ?_
        refine mKG hok rfl rfl rfl rfl (fun a' w' F' E' => o_indexSl (F'.ev rfl) (F'.ev rfl) (by omega) (by omega) ⟨Ext.refl _ _, rfl⟩) ?_
        refine mKG hok rfl rfl rfl rfl (fun a' w' F' E' => o_loadWA (M1.later E') (F'.ev rfl) (by assumption) (by first | assumption | rfl) ⟨Ext.refl _ _, rfl⟩) ?_
        (refine mKG hok rfl rfl rfl rfl (fun a' w' F' E' => o_call (F'.ev rfl) (F'.evs rfl) (Cal.mono (reforder_c y x hyv hxv _) fun _ _ hh => ⟨hh.2, hh.1⟩)) ?_)
        refine mKG hok rfl rfl rfl rfl (fun a' w' F' E' => o_geqT (F'.ev rfl) (F'.ev rfl) (by omega) ⟨Ext.refl _ _, rfl⟩) ?_
        (refine mDone rfl rfl ?_; clear F M; intro a w F hE2 hX hTT hDD hPP; have M := M1.later hE2; clear M1; clear hX; clear hE2; clear hok; clear hE; clear hTT; clear hDD; clear hPP; (try dsimp only at F))
        refine sD F (o_pickT (F.ev rfl) (F.ev rfl) ?_); clear F a; intro a F
        with_reducible refine l_nil (q_then ?_)
        refine c_true F rfl rfl ?_
        refine c_seq (c_region ?_)
        refine sD F (o_assign (F.ev rfl) ?_); clear F a; intro a F
        with_reducible refine l_nil (q_then (c_ret (q_inBR (q_thenR (q_thenR (q_inBR (q_thenR ?_)))))))
        refine p_ret F rfl (.cons (.tmp (F.ev rfl)) .nil) ?_
        exact ⟨rfl, M.ext⟩
  · obtain rfl : i = l.length := by omega
    rw [rng_t hv]
    refine c_seq (c_region ?_)
    refine sD F (o_lssF (F.ev rfl) (F.ev rfl) (by omega) ?_); clear F a; intro a F
    with_reducible refine l_nil (q_then (c_seq ?_))
    refine c_false F rfl rfl ?_
    with_reducible refine c_exit (q_thenX (q_thenX (q_inBX (q_then (c_seq (c_region ?_))))))
    refine sD F (o_assign (F.ev rfl) ?_); clear F a; intro a F
    with_reducible refine l_nil (q_then (c_ret ?_))
    refine p_ret F rfl (.cons (.tmp (F.ev rfl)) .nil) ?_
    exact ⟨rfl, M.ext⟩
set_option maxHeartbeats 4000000 in
theorem refvalidS_c (l : List SrcV) (hx : ∀ x ∈ l, IsSr x) (v : Value) (W : World) (hS : SlAt W 38 v l.length (srsC l)) :
    Cal Tryz.prog 55 [v].toArray W fun r w' => r = .bool (validSs l) ∧ Ext [] W w' := by
  obtain ⟨q, cap, rfl, hcap, hsp, hl, hm⟩ := hS
  unfold validSs vldL
  by_cases c0 : 256 < l.length
  · rw [decide_eq_false (by omega), Bool.false_and]
    refine fn_ofM (n := 64) [] Tryz.func55 rfl rfl rfl ?_
    intro a w F M hwW
    refine c_seq (c_region ?_)
    refine sD F (o_assign (F.ev rfl) ?_); clear F a; intro a F
    with_reducible refine l_nil (q_then (c_seq (c_seq (c_region ?_))))
    refine sD F (o_move (F.ev rfl) ?_); clear F a; intro a F
    refine sD F (o_lenSl (F.ev rfl) ?_); clear F a; intro a F
    refine sD F (o_gtrT (F.ev rfl) (F.ev rfl) (by omega) ?_); clear F a; intro a F
    with_reducible refine l_nil (q_then ?_)
    refine c_true F rfl rfl ?_
    refine c_seq (c_region ?_)
    refine sD F (o_assign (F.ev rfl) ?_); clear F a; intro a F
    with_reducible refine l_nil (q_then (c_ret (q_thenR ?_)))
    refine p_ret F rfl (.cons (.tmp (F.ev rfl)) .nil) ?_
    exact ⟨rfl, M.ext⟩
  rw [decide_eq_true (show l.length ≤ 256 by omega), Bool.true_and]
  refine fn_ofM (n := 64) [] Tryz.func55 rfl rfl rfl ?_
  intro a w F M hwW
  refine c_seq (c_region ?_)
  refine sD F (o_assign (F.ev rfl) ?_); clear F a; intro a F
  with_reducible refine l_nil (q_then (c_seq (c_seq (c_region ?_))))
  refine sD F (o_move (F.ev rfl) ?_); clear F a; intro a F
  refine sD F (o_lenSl (F.ev rfl) ?_); clear F a; intro a F
  refine sD F (o_gtrF (F.ev rfl) (F.ev rfl) (by omega) ?_); clear F a; intro a F
  with_reducible refine l_nil (q_then ?_)
  refine c_false F rfl rfl ?_
  with_reducible refine c_skip (q_then (c_seq (c_seq (c_region ?_))))
  refine sD F (o_move (F.ev rfl) ?_); clear F a; intro a F
  refine sD F (o_lenSl (F.ev rfl) ?_); clear F a; intro a F
  refine sD F (o_move (F.ev rfl) ?_); clear F a; intro a F
  with_reducible refine l_nil (q_then (c_block ?_))
  refine c_loop (fun m a w => ∃ i : Nat, m = l.length - i ∧ i ≤ l.length ∧ (∀ j, j < i → vld1 src1 cmpS l j = true) ∧ Frm a 64 [] [(9, .int .i64 i), (8, .int .i64 l.length), (0, .slice q l.length cap)] ∧ Mem [] W w []) l.length ⟨0, rfl, by omega, by omega, F.only [9, 8, 0] rfl, M⟩ ?_
  clear F M
  rintro m a w ⟨i, hm', hi, hv, F, M⟩
  by_cases hlt : i < l.length
  · obtain ⟨b, o, cs, t, fz, rfl, hb, hs⟩ := hm (by omega)
    have hxv := hx _ (List.getElem_mem hlt)
    have hv0 := vld1_0 (e1 := src1) (cm := cmpS) hlt
    have hvs := vld1_s (e1 := src1) (cm := cmpS) hlt
    have hvf := vld1_f (e1 := src1) (cm := cmpS) hlt
    have f1 : seg cs (o + (i : Int).toNat * 38) 38 = some (srC l[i]) := seg_el (srs_len hx) hs hlt (by omega)
    obtain ⟨x, hx0⟩ : ∃ x, x = l[i] := ⟨_, rfl⟩
    rw [← hx0] at hxv hv0 hvs hvf f1
    have g0 : seg cs (o + (i : Int).toNat * 38) 35 = some (dvC x.to) := sg_seg f1 (sr_to hxv) (by omega)
    have g1 : seg cs (o + (i : Int).toNat * 38 + 35) 2 = some (diC x.bst) := sg_seg f1 (sr_bst hxv) (by omega)
    have g2 : nth cs (o + (i : Int).toNat * 38 + 35 + 1) = some (.int .i64 x.bst.met) := sg_nth f1 (sr_bst_met hxv) (by omega)
    have g3 : nth cs (o + (i : Int).toNat * 38 + 37) = some (.int .i64 x.til) := sg_nth f1 (sr_til hxv) (by omega)
    refine c_seq (c_region ?_)
    refine sD F (o_lssT (F.ev rfl) (F.ev rfl) (by omega) ?_); clear F a; intro a F
    with_reducible refine l_nil (q_then (c_seq ?_))
    refine c_true F rfl rfl ?_
    with_reducible refine c_skip (q_then (c_seq (c_block (c_seq (c_region ?_)))))
    refine sD F (o_move (F.ev rfl) ?_); clear F a; intro a F
    refine sD F (o_assign (F.ev rfl) ?_); clear F a; intro a F
    with_reducible refine l_nil (q_then (c_seq (c_seq (c_region ?_))))
    refine sD F (o_move (F.ev rfl) ?_); clear F a; intro a F
    refine sD F (o_move (F.ev rfl) ?_); clear F a; intro a F
    refine sD F (o_indexSl (F.ev rfl) (F.ev rfl) (by omega) (by omega) ?_); clear F a; intro a F
    refine sD F (o_fieldAddr (F.ev rfl) ?_); clear F a; intro a F
    refine sD F (o_loadWA M (F.ev rfl) (by assumption) (by first | assumption | rfl) ?_); clear F a; intro a F
    (refine sD F (o_call (F.ev rfl) (F.evs rfl) (Cal.mono (rvalidTo_c x.to hxv.1 _) ?_)); clear F; clear a; rintro _ w ⟨rfl, hE⟩ a F; replace M := M.later hE; clear hE)
    cases c0 : validT x.to
    · rw [rng_f hlt (hvf (by unfold src1 finD inf; rw [c0]; simp))]
      rw [c0] at F
      refine sD F (o_not (F.ev rfl) ?_); clear F a; intro a F
      refine sD F (o_move (F.ev rfl) ?_); clear F a; intro a F
      refine sO F ?_; clear F a; intro a F
      refine sO F ?_; clear F a; intro a F
      refine sO F ?_; clear F a; intro a F
      refine sO F ?_; clear F a; intro a F
      refine sO F ?_; clear F a; intro a F
      refine sO F ?_; clear F a; intro a F
      refine sO F ?_; clear F a; intro a F
      refine sD F (o_pickT (F.ev rfl) (F.ev rfl) ?_); clear F a; intro a F
      refine sD F (o_move (F.ev rfl) ?_); clear F a; intro a F
      refine sO F ?_; clear F a; intro a F
      refine sO F ?_; clear F a; intro a F
      refine sO F ?_; clear F a; intro a F
      refine sO F ?_; clear F a; intro a F
      refine sO F ?_; clear F a; intro a F
      refine sO F ?_; clear F a; intro a F
      refine sO F ?_; clear F a; intro a F
      refine sD F (o_pickT (F.ev rfl) (F.ev rfl) ?_); clear F a; intro a F
      refine sD F (o_move (F.ev rfl) ?_); clear F a; intro a F
      refine sO F ?_; clear F a; intro a F
      refine sO F ?_; clear F a; intro a F
      refine sO F ?_; clear F a; intro a F
      refine sO F ?_; clear F a; intro a F
      refine sO F ?_; clear F a; intro a F
      refine sO F ?_; clear F a; intro a F
      refine sO F ?_; clear F a; intro a F
      refine sD F (o_pickT (F.ev rfl) (F.ev rfl) ?_); clear F a; intro a F
      with_reducible refine l_nil (q_then ?_)
      refine c_true F rfl rfl ?_
      refine c_seq (c_region ?_)
      refine sD F (o_assign (F.ev rfl) ?_); clear F a; intro a F
      with_reducible refine l_nil (q_then (c_ret (q_thenR (q_inBR (q_thenR (q_thenR (q_inBR (q_thenR ?_))))))))
      refine p_ret F rfl (.cons (.tmp (F.ev rfl)) .nil) ?_
      exact ⟨rfl, M.ext⟩
    rw [c0] at F
    refine sD F (o_not (F.ev rfl) ?_); clear F a; intro a F
    refine sD F (o_move (F.ev rfl) ?_); clear F a; intro a F
    refine sG F (o_move (F.ev rfl) ?_); clear F a; intro a F
    refine sG F (o_move (F.ev rfl) ?_); clear F a; intro a F
    refine sG F (o_indexSl (F.ev rfl) (F.ev rfl) (by omega) (by omega) ?_); clear F a; intro a F
    refine sG F (o_fieldAddr (F.ev rfl) ?_); clear F a; intro a F
    refine sG F (o_loadWA M (F.ev rfl) (by assumption) (by first | assumption | rfl) ?_); clear F a; intro a F
    (refine sG F (o_call (F.ev rfl) (F.evs rfl) (Cal.mono (rdvalid_c x.bst _) ?_)); clear F; clear a; rintro _ w ⟨rfl, hE⟩ a F; replace M := M.later hE; clear hE)
    cases c1 : validM x.bst.met
    · rw [rng_f hlt (hvf (by unfold src1 finD inf; rw [c0, c1]; simp))]
      rw [c1] at F
      refine sG F (o_not (F.ev rfl) ?_); clear F a; intro a F
      refine sD F (o_pickF (F.ev rfl) (F.ev rfl) ?_); clear F a; intro a F
      refine sD F (o_move (F.ev rfl) ?_); clear F a; intro a F
      refine sO F ?_; clear F a; intro a F
      refine sO F ?_; clear F a; intro a F
      refine sO F ?_; clear F a; intro a F
      refine sO F ?_; clear F a; intro a F
      refine sO F ?_; clear F a; intro a F
      refine sO F ?_; clear F a; intro a F
      refine sO F ?_; clear F a; intro a F
      refine sD F (o_pickT (F.ev rfl) (F.ev rfl) ?_); clear F a; intro a F
      refine sD F (o_move (F.ev rfl) ?_); clear F a; intro a F
      refine sO F ?_; clear F a; intro a F
      refine sO F ?_; clear F a; intro a F
      refine sO F ?_; clear F a; intro a F
      refine sO F ?_; clear F a; intro a F
      refine sO F ?_; clear F a; intro a F
      refine sO F ?_; clear F a; intro a F
      refine sO F ?_; clear F a; intro a F
      refine sD F (o_pickT (F.ev rfl) (F.ev rfl) ?_); clear F a; intro a F
      with_reducible refine l_nil (q_then ?_)
      refine c_true F rfl rfl ?_
      refine c_seq (c_region ?_)
      refine sD F (o_assign (F.ev rfl) ?_); clear F a; intro a F
      with_reducible refine l_nil (q_then (c_ret (q_thenR (q_inBR (q_thenR (q_thenR (q_inBR (q_thenR ?_))))))))
      refine p_ret F rfl (.cons (.tmp (F.ev rfl)) .nil) ?_
      exact ⟨rfl, M.ext⟩
    rw [c1] at F
    by_cases c2 : x.bst.met = 65535
    · rw [rng_f hlt (hvf (by unfold src1 finD inf; rw [c0, c1, decide_eq_true c2]; simp))]
      refine sG F (o_not (F.ev rfl) ?_); clear F a; intro a F
      refine sD F (o_pickF (F.ev rfl) (F.ev rfl) ?_); clear F a; intro a F
      refine sD F (o_move (F.ev rfl) ?_); clear F a; intro a F
      refine sG F (o_move (F.ev rfl) ?_); clear F a; intro a F
      refine sG F (o_move (F.ev rfl) ?_); clear F a; intro a F
      refine sG F (o_indexSl (F.ev rfl) (F.ev rfl) (by omega) (by omega) ?_); clear F a; intro a F
      refine sG F (o_fieldAddr (F.ev rfl) ?_); clear F a; intro a F
      refine sG F (o_fieldAddr (F.ev rfl) ?_); clear F a; intro a F
      refine sG F (o_loadW1 M (F.ev rfl) (by assumption) (by first | assumption | rfl) ?_); clear F a; intro a F
      refine sG F (o_eqlT (F.ev rfl) (F.ev rfl) (by omega) ?_); clear F a; intro a F
      refine sD F (o_pickF (F.ev rfl) (F.ev rfl) ?_); clear F a; intro a F
      refine sD F (o_move (F.ev rfl) ?_); clear F a; intro a F
      refine sO F ?_; clear F a; intro a F
      refine sO F ?_; clear F a; intro a F
      refine sO F ?_; clear F a; intro a F
      refine sO F ?_; clear F a; intro a F
      refine sO F ?_; clear F a; intro a F
      refine sO F ?_; clear F a; intro a F
      refine sO F ?_; clear F a; intro a F
      refine sD F (o_pickT (F.ev rfl) (F.ev rfl) ?_); clear F a; intro a F
      with_reducible refine l_nil (q_then ?_)
      refine c_true F rfl rfl ?_
      refine c_seq (c_region ?_)
      refine sD F (o_assign (F.ev rfl) ?_); clear F a; intro a F
      with_reducible refine l_nil (q_then (c_ret (q_thenR (q_inBR (q_thenR (q_thenR (q_inBR (q_thenR ?_))))))))
      refine p_ret F rfl (.cons (.tmp (F.ev rfl)) .nil) ?_
      exact ⟨rfl, M.ext⟩
    refine sG F (o_not (F.ev rfl) ?_); clear F a; intro a F
    refine sD F (o_pickF (F.ev rfl) (F.ev rfl) ?_); clear F a; intro a F
    refine sD F (o_move (F.ev rfl) ?_); clear F a; intro a F
    refine sG F (o_move (F.ev rfl) ?_); clear F a; intro a F
    refine sG F (o_move (F.ev rfl) ?_); clear F a; intro a F
    refine sG F (o_indexSl (F.ev rfl) (F.ev rfl) (by omega) (by omega) ?_); clear F a; intro a F
    refine sG F (o_fieldAddr (F.ev rfl) ?_); clear F a; intro a F
    refine sG F (o_fieldAddr (F.ev rfl) ?_); clear F a; intro a F
    refine sG F (o_loadW1 M (F.ev rfl) (by assumption) (by first | assumption | rfl) ?_); clear F a; intro a F
    refine sG F (o_eqlF (F.ev rfl) (F.ev rfl) (by omega) ?_); clear F a; intro a F
    refine sD F (o_pickF (F.ev rfl) (F.ev rfl) ?_); clear F a; intro a F
    refine sD F (o_move (F.ev rfl) ?_); clear F a; intro a F
    refine sG F (o_move (F.ev rfl) ?_); clear F a; intro a F
    refine sG F (o_move (F.ev rfl) ?_); clear F a; intro a F
    refine sG F (o_indexSl (F.ev rfl) (F.ev rfl) (by omega) (by omega) ?_); clear F a; intro a F
    refine sG F (o_fieldAddr (F.ev rfl) ?_); clear F a; intro a F
    refine sG F (o_loadW1 M (F.ev rfl) (by assumption) (by first | assumption | rfl) ?_); clear F a; intro a F
    (refine sG F (o_call (F.ev rfl) (F.evs rfl) (Cal.mono (risTime_c x.til _) ?_)); clear F; clear a; rintro _ w ⟨rfl, hE⟩ a F; replace M := M.later hE; clear hE)
    cases c3 : isTime x.til
    · rw [rng_f hlt (hvf (by unfold src1 finD inf; rw [c0, c1, decide_eq_false c2, c3]; simp))]
      rw [c3] at F
      refine sG F (o_not (F.ev rfl) ?_); clear F a; intro a F
      refine sD F (o_pickF (F.ev rfl) (F.ev rfl) ?_); clear F a; intro a F
      with_reducible refine l_nil (q_then ?_)
      refine c_true F rfl rfl ?_
      refine c_seq (c_region ?_)
      refine sD F (o_assign (F.ev rfl) ?_); clear F a; intro a F
      with_reducible refine l_nil (q_then (c_ret (q_thenR (q_inBR (q_thenR (q_thenR (q_inBR (q_thenR ?_))))))))
      refine p_ret F rfl (.cons (.tmp (F.ev rfl)) .nil) ?_
      exact ⟨rfl, M.ext⟩
    rw [c3] at F
    have hgood : src1 x = true := by unfold src1 finD inf; rw [c0, c1, decide_eq_false c2, c3]; rfl
    rw [hgood] at hv0 hvs
    clear hvf hgood
    refine sG F (o_not (F.ev rfl) ?_); clear F a; intro a F
    refine sD F (o_pickF (F.ev rfl) (F.ev rfl) ?_); clear F a; intro a F
    with_reducible refine l_nil (q_then ?_)
    refine c_false F rfl rfl ?_
    with_reducible refine c_skip (q_then (c_seq ?_))
    replace F := F.only [9, 8, 0, 3] rfl
    rcases Nat.eq_zero_or_pos i with hi0 | hi0
    · refine c_draw 16 F (by kernel_rfl) ?_
      intro w1 hE hok
      have M1 := M.later hE
      refine mK hok rfl rfl (fun a' w' F' E' => o_move (F'.ev rfl) ⟨Ext.refl _ _, rfl⟩) ?_
      refine mK hok rfl rfl (fun a' w' F' E' => o_gtrF (F'.ev rfl) (F'.ev rfl) (by omega) ⟨Ext.refl _ _, rfl⟩) ?_
      refine mK hok rfl rfl (fun a' w' F' E' => o_move (F'.ev rfl) ⟨Ext.refl _ _, rfl⟩) ?_
      refine mOff hok rfl rfl rfl rfl rfl ?_
      refine mOff hok rfl rfl rfl rfl rfl ?_
      refine mOff hok rfl rfl rfl rfl rfl ?_
      refine mOff hok rfl rfl rfl rfl rfl ?_
      refine mOff hok rfl rfl rfl rfl rfl ?_
      refine mOff hok rfl rfl rfl rfl rfl ?_
      refine mOff hok rfl rfl rfl rfl rfl ?_
      refine mOff hok rfl rfl rfl rfl rfl ?_
      refine mOff hok rfl rfl rfl rfl rfl ?_
      refine mOff hok rfl rfl rfl rfl rfl ?_
      refine mOff hok rfl rfl rfl rfl rfl ?_
      refine mOff hok rfl rfl rfl rfl rfl ?_
      refine mOff hok rfl rfl rfl rfl rfl ?_
      (refine mDone rfl rfl ?_; clear F M; intro a w F hE2 hX hTT hDD hPP; have M := M1.later hE2; clear M1; clear hX; clear hE2; clear hok; clear hE; clear hTT; clear hDD; clear hPP; (try dsimp only at F))
      refine sD F (o_pickF (F.ev rfl) (F.ev rfl) ?_); clear F a; intro a F
      with_reducible refine l_nil (q_then ?_)
      refine c_false F rfl rfl ?_
      with_reducible refine c_skip (q_inB (q_then (c_region ?_)))
      refine sD F (o_add (F.ev rfl) (F.ev rfl) (w_i64 (by omega) (by omega)) ?_); clear F a; intro a F
      refine sD F (o_move (F.ev rfl) ?_); clear F a; intro a F
      with_reducible refine l_nil (q_then ?_)
      exact ⟨_, by omega, i + 1, rfl, by omega, fun j hj => by
          rcases Nat.lt_or_ge j i with h1 | h1
          · exact hv j h1
          · obtain rfl : j = i := by omega
            rw [hv0 hi0], F.only [9, 8, 0] rfl, M⟩
    · have hyv := hx _ (List.getElem_mem (show i - 1 < l.length by omega))
      have p1 : seg cs (o + ((i : Int) - 1).toNat * 38) 38 = some (srC (l[i - 1]'(by omega))) := seg_el (srs_len hx) hs (show i - 1 < l.length by omega) (by omega)
      replace hvs := hvs hi0
      obtain ⟨y, hy0⟩ : ∃ y, y = l[i - 1]'(by omega) := ⟨_, rfl⟩
      rw [← hy0] at hyv p1 hvs
      have p2 : seg cs (o + ((i : Int) - 1).toNat * 38) 35 = some (dvC y.to) := sg_seg p1 (sr_to hyv) (by omega)
      clear hy0
      by_cases c9 : cmpS y x < 0
      · have c8 : cmpD y.to x.to < 0 := c9
        refine c_draw 16 F (by kernel_rfl) ?_
        intro w1 hE hok
        have M1 := M.later hE
        refine mK hok rfl rfl (fun a' w' F' E' => o_move (F'.ev rfl) ⟨Ext.refl _ _, rfl⟩) ?_
        refine mK hok rfl rfl (fun a' w' F' E' => o_gtrT (F'.ev rfl) (F'.ev rfl) (by omega) ⟨Ext.refl _ _, rfl⟩) ?_
        refine mK hok rfl rfl (fun a' w' F' E' => o_move (F'.ev rfl) ⟨Ext.refl _ _, rfl⟩) ?_
        refine mKG hok rfl rfl rfl rfl (fun a' w' F' E' => o_move (F'.ev rfl) ⟨Ext.refl _ _, rfl⟩) ?_
        refine mKG hok rfl rfl rfl rfl (fun a' w' F' E' => o_move (F'.ev rfl) ⟨Ext.refl _ _, rfl⟩) ?_
        refine mKG hok rfl rfl rfl rfl (fun a' w' F' E' => o_sub (F'.ev rfl) (F'.ev rfl) (w_i64 (by omega) (by omega)) ⟨Ext.refl _ _, rfl⟩) ?_
        refine mKG hok rfl rfl rfl rfl (fun a' w' F' E' => o_indexSl (F'.ev rfl) (F'.ev rfl) (by omega) (by omega) ⟨Ext.refl _ _, rfl⟩) ?_
        refine mKG hok rfl rfl rfl rfl (fun a' w' F' E' => o_fieldAddr (F'.ev rfl) ⟨Ext.refl _ _, rfl⟩) ?_
        refine mKG hok rfl rfl rfl rfl (fun a' w' F' E' => o_loadWA (M1.later E') (F'.ev rfl) (by assumption) (by first | assumption | rfl) ⟨Ext.refl _ _, rfl⟩) ?_
        refine mKG hok rfl rfl rfl rfl (fun a' w' F' E' => o_move (F'.ev rfl) ⟨Ext.refl _ _, rfl⟩) ?_
        refine mKG hok rfl rfl rfl rfl (fun a' w' F' E' => o_move (F'.ev rfl) ⟨Ext.refl _ _, rfl⟩) ?_
        refine mKG hok rfl rfl rfl rfl (fun a' w' F' E' => o_indexSl (F'.ev rfl) (F'.ev rfl) (by omega) (by omega) ⟨Ext.refl _ _, rfl⟩) ?_
        refine mKG hok rfl rfl rfl rfl (fun a' w' F' E' => o_fieldAddr (F'.ev rfl) ⟨Ext.refl _ _, rfl⟩) ?_
        refine mKG hok rfl rfl rfl rfl (fun a' w' F' E' => o_loadWA (M1.later E') (F'.ev rfl) (by assumption) (by first | assumption | rfl) ⟨Ext.refl _ _, rfl⟩) ?_
        (refine mKG hok rfl rfl rfl rfl (fun a' w' F' E' => o_call (F'.ev rfl) (F'.evs rfl) (Cal.mono (rcompare_c y.to x.to hyv.1 hxv.1 _) fun _ _ hh => ⟨hh.2, hh.1⟩)) ?_)
        refine mKG hok rfl rfl rfl rfl (fun a' w' F' E' => o_geqF (F'.ev rfl) (F'.ev rfl) (by omega) ⟨Ext.refl _ _, rfl⟩) ?_
        (refine mDone rfl rfl ?_; clear F M; intro a w F hE2 hX hTT hDD hPP; have M := M1.later hE2; clear M1; clear hX; clear hE2; clear hok; clear hE; clear hTT; clear hDD; clear hPP; (try dsimp only at F))
        refine sD F (o_pickT (F.ev rfl) (F.ev rfl) ?_); clear F a; intro a F
        with_reducible refine l_nil (q_then ?_)
        refine c_false F rfl rfl ?_
        with_reducible refine c_skip (q_inB (q_then (c_region ?_)))
        refine sD F (o_add (F.ev rfl) (F.ev rfl) (w_i64 (by omega) (by omega)) ?_); clear F a; intro a F
        refine sD F (o_move (F.ev rfl) ?_); clear F a; intro a F
        with_reducible refine l_nil (q_then ?_)
        exact ⟨_, by omega, i + 1, rfl, by omega, fun j hj => by
          rcases Nat.lt_or_ge j i with h1 | h1
          · exact hv j h1
          · obtain rfl : j = i := by omega
            rw [hvs]; simp [c9], F.only [9, 8, 0] rfl, M⟩
      · rw [rng_f hlt (by rw [hvs]; simp [c9])]
        have c8 : ¬ cmpD y.to x.to < 0 := c9
        refine c_draw 16 F (by kernel_rfl) ?_
        intro w1 hE hok
        have M1 := M.later hE
        refine mK hok rfl rfl (fun a' w' F' E' => o_move (F'.ev rfl) ⟨Ext.refl _ _, rfl⟩) ?_
        refine mK hok rfl rfl (fun a' w' F' E' => o_gtrT (F'.ev rfl) (F'.ev rfl) (by omega) ⟨Ext.refl _ _, rfl⟩) ?_
        refine mK hok rfl rfl (fun a' w' F' E' => o_move (F'.ev rfl) ⟨Ext.refl _ _, rfl⟩) ?_
        refine mKG hok rfl rfl rfl rfl (fun a' w' F' E' => o_move (F'.ev rfl) ⟨Ext.refl _ _, rfl⟩) ?_
        refine mKG hok rfl rfl rfl rfl (fun a' w' F' E' => o_move (F'.ev rfl) ⟨Ext.refl _ _, rfl⟩) ?_
        refine mKG hok rfl rfl rfl rfl (fun a' w' F' E' => o_sub (F'.ev rfl) (F'.ev rfl) (w_i64 (by omega) (by omega)) ⟨Ext.refl _ _, rfl⟩) ?_
        refine mKG hok rfl rfl rfl rfl (fun a' w' F' E' => o_indexSl (F'.ev rfl) (F'.ev rfl) (by omega) (by omega) ⟨Ext.refl _ _, rfl⟩) ?_
        refine mKG hok rfl rfl rfl rfl (fun a' w' F' E' => o_fieldAddr (F'.ev rfl) ⟨Ext.refl _ _, rfl⟩) ?_
        refine mKG hok rfl rfl rfl rfl (fun a' w' F' E' => o_loadWA (M1.later E') (F'.ev rfl) (by assumption) (by first | assumption | rfl) ⟨Ext.refl _ _, rfl⟩) ?_
        refine mKG hok rfl rfl rfl rfl (fun a' w' F' E' => o_move (F'.ev rfl) ⟨Ext.refl _ _, rfl⟩) ?_
        refine mKG hok rfl rfl rfl rfl (fun a' w' F' E' => o_move (F'.ev rfl) ⟨Ext.refl _ _, rfl⟩) ?_
        refine mKG hok rfl rfl rfl rfl (fun a' w' F' E' => o_indexSl (F'.ev rfl) (F'.ev rfl) (by omega) (by omega) ⟨Ext.refl _ _, rfl⟩) ?_
        refine mKG hok rfl rfl rfl rfl (fun a' w' F' E' => o_fieldAddr (F'.ev rfl) ⟨Ext.refl _ _, rfl⟩) ?_
        refine mKG hok rfl rfl rfl rfl (fun a' w' F' E' => o_loadWA (M1.later E') (F'.ev rfl) (by assumption) (by first | assumption | rfl) ⟨Ext.refl _ _, rfl⟩) ?_
        (refine mKG hok rfl rfl rfl rfl (fun a' w' F' E' => o_call (F'.ev rfl) (F'.evs rfl) (Cal.mono (rcompare_c y.to x.to hyv.1 hxv.1 _) fun _ _ hh => ⟨hh.2, hh.1⟩)) ?_)
        refine mKG hok rfl rfl rfl rfl (fun a' w' F' E' => o_geqT (F'.ev rfl) (F'.ev rfl) (by omega) ⟨Ext.refl _ _, rfl⟩) ?_
        (refine mDone rfl rfl ?_; clear F M; intro a w F hE2 hX hTT hDD hPP; have M := M1.later hE2; clear M1; clear hX; clear hE2; clear hok; clear hE; clear hTT; clear hDD; clear hPP; (try dsimp only at F))
        refine sD F (o_pickT (F.ev rfl) (F.ev rfl) ?_); clear F a; intro a F
        with_reducible refine l_nil (q_then ?_)
        refine c_true F rfl rfl ?_
        refine c_seq (c_region ?_)
        refine sD F (o_assign (F.ev rfl) ?_); clear F a; intro a F
        with_reducible refine l_nil (q_then (c_ret (q_inBR (q_thenR (q_thenR (q_inBR (q_thenR ?_)))))))
        refine p_ret F rfl (.cons (.tmp (F.ev rfl)) .nil) ?_
        exact ⟨rfl, M.ext⟩
  · obtain rfl : i = l.length := by omega
    rw [rng_t hv]
    refine c_seq (c_region ?_)
    refine sD F (o_lssF (F.ev rfl) (F.ev rfl) (by omega) ?_); clear F a; intro a F
    with_reducible refine l_nil (q_then (c_seq ?_))
    refine c_false F rfl rfl ?_
    with_reducible refine c_exit (q_thenX (q_thenX (q_inBX (q_then (c_seq (c_region ?_))))))
    refine sD F (o_assign (F.ev rfl) ?_); clear F a; intro a F
    with_reducible refine l_nil (q_then (c_ret ?_))
    refine p_ret F rfl (.cons (.tmp (F.ev rfl)) .nil) ?_
    exact ⟨rfl, M.ext⟩
end Go.Proofs.YtilgoepokaaleaaGreat
/-! LibY -/
namespace Go.Proofs.YtilgoepokaaleaaGreat
set_option linter.unusedVariables false
set_option linter.unusedSimpArgs false
open Go.RowKit
theorem b_split {a : Act} {n : Nat} {df : List Deferred} {fr : List (Nat × Value)} {b : Bool} {p : Prop} (F : Frm a n df fr) (t : Nat) (h : look fr t = some (.bool b)) (ht : b = true → p) (hf : b = false → p) : p := by
  cases b
  · exact hf rfl
  · exact ht rfl
theorem ne_of_bne {x y : Int} (h : (x != y) = true) : x ≠ y := bne_iff_ne.1 h
theorem eq_of_bne_false {x y : Int} (h : (x != y) = false) : x = y := by simpa using h
theorem false_of_not {b : Bool} (h : (!b) = true) : b = false := by cases b <;> simp_all
theorem true_of_not {b : Bool} (h : (!b) = false) : b = true := by cases b <;> simp_all
section
variable {P : Program} {ρ : Operand → Value} {w W0 : World} {S : List Nat} {l l' : List (Nat × Obj)} {R : Value → World → Prop} {d : Option Tmp} {ty : TypeId} {pos : String} {af : Array Edge} {g : Option (Nat × Bool)}
theorem o_append1 {α : Type} {enc : α → List Value} {out : List α} {x0 : α} {st xt e : TypeId} {x y : Operand} {sz by_ : Nat} {v xv : Value} {ent : List (Nat × Obj)} {f : List (Nat × Obj) → List (Nat × Obj)} [hst : TU P st (.slice e)] [hel : TEl P e sz by_] [hxt : TNI P xt] (hO : OwnS e sz v out.length (encL enc out) ent) (M : Mem S W0 w l) (hl : TailAt ent l f)
    (hx : ρ x = v) (hy : ρ y = xv) (hX : SrcOf P w xv 1 sz (enc x0)) (hbd : (out.length + 1) * by_ ≤ 140737488355328)
    (h : ∀ v' ent' w', OwnS e sz v' (out ++ [x0]).length (encL enc (out ++ [x0])) ent' → Mem S W0 w' (f ent') → R v' w') (hln : out.length + 1 ≤ 9223372036854775807 := by first | omega | (simp only [List.length_append, List.length_singleton]; omega)) : OpTo P ⟨d, .call ⟨.builtin .append, #[x, y], #[st, xt]⟩, ty, pos, af, g⟩ ρ w R := by
  refine o_append hO M hl hx hy hX hbd hln fun v' ent' w' hO' M' => h v' ent' w' ?_ M'
  rw [encL_app, encL_one, List.length_append, List.length_singleton]
  exact hO'
theorem o_eqlAE {t t' : TypeId} {x y : Operand} {ks : List LK} {xs ys : List Value} {b : Bool} [ht : TEq P t ks] (hx : ρ x = .agg xs.toArray) (hy : ρ y = .agg ys.toArray) (fx : fitsK ks xs = true) (fy : fitsK ks ys = true) (he : eqVs xs ys = b) (h : R (.bool b) w) : OpTo P ⟨d, .binOp .eql t x y t', ty, pos, af, g⟩ ρ w R := o_eqlA hx hy fx fy (by rw [he]; exact h)
theorem o_lenOwn {x : Operand} {t e e' : TypeId} {v : Value} {sz n : Nat} {xs : List Value} {ent : List (Nat × Obj)} (hx : ρ x = v) (hO : OwnS e' sz v n xs ent) [ht : TU P t (.slice e)] (h : R (.int .i64 n) w) : OpTo P ⟨d, .call ⟨.builtin .len, #[x], #[t]⟩, ty, pos, af, g⟩ ρ w R := by
  obtain ⟨p, c, rfl⟩ := hO.slice
  exact o_lenSl hx h
theorem o_loadEA {t : TypeId} {x : Operand} {b off n : Nat} {cs : List Value} {t' : TypeId} {fz : Nat × Nat} {vs : List Value} [ht : TAgg P t n] (M : Mem S W0 w l) (hx : ρ x = .pointer (some ⟨b, off, none⟩)) (hb : ∀ w', Ext S W0 w' → w'.heap[b]? = some (.cells cs.toArray t' fz)) (hv : seg cs off n = some vs) (h : R (.agg vs.toArray) w) : OpTo P ⟨d, .load t x, ty, pos, af, g⟩ ρ w R := o_loadHA hx (hb w M.ext) hv h
end
theorem SlAt.memB {W : World} {sz : Nat} {q : Option Addr} {n cap : Nat} {cs : List Value} (h : SlAt W sz (.slice q n cap) n cs) (S : List Nat) (hn : ∀ b o s, q = some ⟨b, o, s⟩ → b ∉ S) : 0 < n → ∃ b o xs t fz, q = some ⟨b, o, none⟩ ∧ (∀ w', Ext S W w' → w'.heap[b]? = some (.cells (List.toArray xs) t fz)) ∧ seg xs o (n * sz) = some cs := by
  obtain ⟨p, cap', e, _, _, _, h5⟩ := h
  cases e
  intro h0
  obtain ⟨b, o, xs, t, fz, rfl, hb, hs⟩ := h5 h0
  refine ⟨b, o, xs, t, fz, rfl, fun w' E => ?_, hs⟩
  rw [E.block b (Array.getElem?_eq_some_iff.1 hb).1 (hn b o none rfl)]
  exact hb
/-! one element merged into an ascending list: c tells how each stands to it -/
section
variable {α : Type} (c : α → Int) (x : α)
def mergeG : Bool → List α → List α
  | done, [] => if done then [] else [x]
  | done, y :: l => (if decide (0 ≤ c y) && !done then [x] else []) ++ ((if c y = 0 then [] else [y]) ++ mergeG (done || decide (0 ≤ c y)) l)
theorem mergeG_cons {y : α} {l : List α} {done : Bool} : mergeG c x done (y :: l) = (if decide (0 ≤ c y) && !done then [x] else []) ++ ((if c y = 0 then [] else [y]) ++ mergeG c x (done || decide (0 ≤ c y)) l) := by
  conv => lhs; unfold mergeG
theorem mergeG_nil {done : Bool} : mergeG c x done [] = if done then [] else [x] := rfl
theorem mergeG_len : ∀ {done : Bool} {l : List α}, (mergeG c x done l).length ≤ l.length + (if done then 0 else 1)
  | done, [] => by
    rw [mergeG_nil]
    cases done <;> simp
  | done, y :: l => by
    rw [mergeG_cons]
    have := mergeG_len (done := done || decide (0 ≤ c y)) (l := l)
    generalize decide (0 ≤ c y) = g at *
    have h1 : (if c y = 0 then [] else [y]).length ≤ 1 := by split <;> simp
    generalize (if c y = 0 then [] else [y]) = ys at *
    rw [List.length_append, List.length_append, List.length_cons]
    cases done <;> cases g <;> simp at this ⊢ <;> omega
theorem mergeG_is {l : List α} (ha : l.Pairwise fun a b => 0 ≤ c a → 0 < c b) {done : Bool} : mergeG c x done l = l.filter (fun y => decide (c y < 0)) ++ ((if done then [] else [x]) ++ l.filter (fun y => decide (0 < c y))) := by
  induction l generalizing done with
  | nil => rw [mergeG_nil]; simp
  | cons y l ih =>
    obtain ⟨h1, h2⟩ := List.pairwise_cons.1 ha
    rw [mergeG_cons, ih h2]
    rcases Int.lt_trichotomy (c y) 0 with hc | hc | hc
    · rw [decide_eq_false (show ¬ 0 ≤ c y by omega), if_neg (show ¬ c y = 0 by omega), List.filter_cons_of_pos (by simpa using hc), List.filter_cons_of_neg (by simp; omega)]
      simp
    · have hl : l.filter (fun y => decide (c y < 0)) = [] := by
        rw [List.filter_eq_nil_iff]
        intro z hz
        have := h1 z hz (by omega)
        simp
        omega
      rw [decide_eq_true (show 0 ≤ c y by omega), if_pos hc, List.filter_cons_of_neg (by simp; omega), List.filter_cons_of_neg (by simp; omega), hl]
      cases done <;> simp
    · have hl : l.filter (fun y => decide (c y < 0)) = [] := by
        rw [List.filter_eq_nil_iff]
        intro z hz
        have := h1 z hz (by omega)
        simp
        omega
      rw [decide_eq_true (show 0 ≤ c y by omega), if_neg (show ¬ c y = 0 by omega), List.filter_cons_of_neg (by simp; omega), List.filter_cons_of_pos (by simpa using hc), hl]
      cases done <;> simp
end
end Go.Proofs.YtilgoepokaaleaaGreat
/-! ZP -/
namespace Go.Proofs.YtilgoepokaaleaaGreat
set_option linter.unusedVariables false
set_option linter.unusedSimpArgs false
open Go.RowKit
attribute [local irreducible] OpTo wpListIn Code.wpIn MW Cal
def rfindV (l : List SrcV) (now : Int) (t : DstV) : Option DisV := if validSs l && isTime now then bestS l now t else none
def cmpQR (x y : DisV) : Int := if newerV x.seq y.seq || (decide (x.seq = y.seq) && decide (x.met < y.met)) then -1 else if x = y then 0 else 1
theorem newerV_self (x : Int) : newerV x x = false := by
  unfold newerV
  rw [Int.sub_self]
  rfl
theorem cmpQR_is (x y : DisV) : cmpQR x y = cmpQ x y := by
  unfold cmpQR cmpQ betterV
  by_cases h : x = y
  · subst h
    simp [newerV_self]
  · simp [h]
theorem wrap16_bd (d : Int) : 0 ≤ IntKind.u16.wrap d ∧ IntKind.u16.wrap d ≤ 65535 := by
  have h : IntKind.u16.wrap d = d % 65536 := rfl
  omega
theorem and_i64 {d : Int} (h0 : 0 ≤ d) (h1 : d ≤ 65535) : bitsOf .and .i64 d 65535 = d := by
  obtain ⟨n, rfl⟩ := Int.eq_ofNat_of_zero_le h0
  have hn : n < 65536 := by omega
  simp only [bitsOf]
  rw [ofInt_u _ (by omega), ofInt_u _ (by omega), BitVec.toNat_and, BitVec.toNat_ofNat, BitVec.toNat_ofNat]
  have hb : IntKind.i64.bits = 64 := rfl
  simp only [Int.toNat_natCast, hb]
  rw [Nat.mod_eq_of_lt (by omega), show (65535 : Int).toNat % 2 ^ 64 = 2 ^ 16 - 1 from rfl, Nat.and_two_pow_sub_one_eq_mod, Nat.mod_eq_of_lt (by omega)]
  exact w_i64 (by omega) (by omega)
theorem rnewer_c (x y : Int) (W : World) : Cal Tryz.prog 135 [.int .u16 x, .int .u16 y].toArray W fun v w' => v = .bool (newerV x y) ∧ Ext [] W w' := by
  obtain ⟨d, hd⟩ : ∃ d, d = IntKind.u16.wrap (x - y) := ⟨_, rfl⟩
  have hb := wrap16_bd (x - y)
  have hn : newerV x y = ((decide (1 ≤ d) && decide (d < 32768)) || (decide (d = 32768) && decide (y < x))) := by rw [hd]; rfl
  rw [hn]
  rw [← hd] at hb
  have ha := and_i64 hb.1 hb.2
  refine fn_ofM (n := 26) [] Tryz.func135 rfl rfl rfl ?_
  intro a w F M hwW
  refine c_seq (c_region ?_)
  refine sD F (o_assign (F.ev rfl) ?_); clear F a; intro a F
  with_reducible refine l_nil (q_then (c_seq (c_region ?_)))
  refine sD F (o_move (F.ev rfl) ?_); clear F a; intro a F
  refine sD F (o_move (F.ev rfl) ?_); clear F a; intro a F
  refine sD F (o_sub (F.ev rfl) (F.ev rfl) rfl ?_); clear F a; intro a F
  rw [← hd] at F
  refine sD F (o_conv (F.ev rfl) (w_i64 (by omega) (by omega)) ?_); clear F a; intro a F
  refine sD F (o_and (F.ev rfl) (F.ev rfl) rfl ?_); clear F a; intro a F
  rw [ha] at F
  clear hd hn ha
  refine sD F (o_assign (F.ev rfl) ?_); clear F a; intro a F
  with_reducible refine l_nil (q_then (c_seq (c_region ?_)))
  refine sD F (o_move (F.ev rfl) ?_); clear F a; intro a F
  refine sD F (o_geq (F.ev rfl) (F.ev rfl) ?_); clear F a; intro a F
  refine sD F (o_move (F.ev rfl) ?_); clear F a; intro a F
  refine b_split F 13 rfl (fun h1 => ?_) (fun h1 => ?_)
  · skip
    rw [h1] at F; replace h1 := of_decide_eq_true h1
    refine sG F (o_move (F.ev rfl) ?_); clear F a; intro a F
    refine sG F (o_lss (F.ev rfl) (F.ev rfl) ?_); clear F a; intro a F
    refine sD F (o_pickT (F.ev rfl) (F.ev rfl) ?_); clear F a; intro a F
    refine sD F (o_move (F.ev rfl) ?_); clear F a; intro a F
    refine b_split F 17 rfl (fun h2 => ?_) (fun h2 => ?_)
    · skip
      rw [h2] at F; replace h2 := of_decide_eq_true h2
      refine sO F ?_; clear F a; intro a F
      refine sO F ?_; clear F a; intro a F
      refine sO F ?_; clear F a; intro a F
      refine sO F ?_; clear F a; intro a F
      refine sO F ?_; clear F a; intro a F
      refine sO F ?_; clear F a; intro a F
      refine sO F ?_; clear F a; intro a F
      refine sD F (o_pickT (F.ev rfl) (F.ev rfl) ?_); clear F a; intro a F
      refine sD F (o_assign (F.ev rfl) ?_); clear F a; intro a F
      with_reducible refine l_nil (q_then (c_ret ?_))
      refine p_ret F rfl (.cons (.tmp (F.ev rfl)) .nil) ?_; (try dsimp only [oneOr])
      exact ⟨by simp [*], M.ext⟩
    · skip
      rw [h2] at F; replace h2 := of_decide_eq_false h2
      refine sG F (o_move (F.ev rfl) ?_); clear F a; intro a F
      refine sG F (o_eql (F.ev rfl) (F.ev rfl) ?_); clear F a; intro a F
      refine sG F (o_move (F.ev rfl) ?_); clear F a; intro a F
      refine b_split F 20 rfl (fun h3 => ?_) (fun h3 => ?_)
      · skip
        rw [h3] at F; replace h3 := of_decide_eq_true h3
        refine sG F (o_move (F.ev rfl) ?_); clear F a; intro a F
        refine sG F (o_move (F.ev rfl) ?_); clear F a; intro a F
        refine sG F (o_gtr (F.ev rfl) (F.ev rfl) ?_); clear F a; intro a F
        refine sG F (o_pickT (F.ev rfl) (F.ev rfl) ?_); clear F a; intro a F
        refine sD F (o_pickF (F.ev rfl) (F.ev rfl) ?_); clear F a; intro a F
        refine sD F (o_assign (F.ev rfl) ?_); clear F a; intro a F
        with_reducible refine l_nil (q_then (c_ret ?_))
        refine p_ret F rfl (.cons (.tmp (F.ev rfl)) .nil) ?_; (try dsimp only [oneOr])
        exact ⟨by simp [*], M.ext⟩
      · skip
        rw [h3] at F; replace h3 := of_decide_eq_false h3
        refine sO F ?_; clear F a; intro a F
        refine sO F ?_; clear F a; intro a F
        refine sO F ?_; clear F a; intro a F
        refine sG F (o_pickF (F.ev rfl) (F.ev rfl) ?_); clear F a; intro a F
        refine sD F (o_pickF (F.ev rfl) (F.ev rfl) ?_); clear F a; intro a F
        refine sD F (o_assign (F.ev rfl) ?_); clear F a; intro a F
        with_reducible refine l_nil (q_then (c_ret ?_))
        refine p_ret F rfl (.cons (.tmp (F.ev rfl)) .nil) ?_; (try dsimp only [oneOr])
        exact ⟨by simp [*], M.ext⟩
  · skip
    rw [h1] at F; replace h1 := of_decide_eq_false h1
    refine sO F ?_; clear F a; intro a F
    refine sO F ?_; clear F a; intro a F
    refine sD F (o_pickF (F.ev rfl) (F.ev rfl) ?_); clear F a; intro a F
    refine sD F (o_move (F.ev rfl) ?_); clear F a; intro a F
    refine sG F (o_move (F.ev rfl) ?_); clear F a; intro a F
    refine sG F (o_eqlF (F.ev rfl) (F.ev rfl) (by omega) ?_); clear F a; intro a F
    refine sG F (o_move (F.ev rfl) ?_); clear F a; intro a F
    refine sO F ?_; clear F a; intro a F
    refine sO F ?_; clear F a; intro a F
    refine sO F ?_; clear F a; intro a F
    refine sG F (o_pickF (F.ev rfl) (F.ev rfl) ?_); clear F a; intro a F
    refine sD F (o_pickF (F.ev rfl) (F.ev rfl) ?_); clear F a; intro a F
    refine sD F (o_assign (F.ev rfl) ?_); clear F a; intro a F
    with_reducible refine l_nil (q_then (c_ret ?_))
    refine p_ret F rfl (.cons (.tmp (F.ev rfl)) .nil) ?_; (try dsimp only [oneOr])
    exact ⟨by simp [*]; omega, M.ext⟩
theorem rsqcmp_c (x y : DisV) (W : World) : Cal Tryz.prog 106 [.agg (diC x).toArray, .agg (diC y).toArray].toArray W fun v w' => v = .int .i64 (cmpQR x y) ∧ Ext [] W w' := by
  unfold cmpQR
  refine fn_ofM (n := 27) [] Tryz.func106 rfl rfl rfl ?_
  intro a w F M hwW
  refine c_seq (c_region ?_)
  refine sD F (o_box M (F.ev rfl) rfl ?_); clear F M; intro b2 w M a F
  refine sD F (o_box M (F.ev rfl) rfl ?_); clear F M; intro b3 w M a F
  refine sD F (o_assign (F.ev rfl) ?_); clear F a; intro a F
  with_reducible refine l_nil (q_then (c_seq (c_seq (c_region ?_))))
  refine sD F (o_fieldAddr (F.ev rfl) ?_); clear F a; intro a F
  refine sD F (o_load1 M (F.ev rfl) (by repeat constructor) (di_seq (by first | assumption | trivial | exact And.left (by assumption))) ?_); clear F a; intro a F
  refine sD F (o_fieldAddr (F.ev rfl) ?_); clear F a; intro a F
  refine sD F (o_load1 M (F.ev rfl) (by repeat constructor) (di_seq (by first | assumption | trivial | exact And.left (by assumption))) ?_); clear F a; intro a F
  refine sD F (o_call (F.ev rfl) (F.evs rfl) (Cal.mono (rnewer_c _ _ _) ?_)); clear F; clear a; rintro _ w ⟨rfl, hE⟩ a F; replace M := M.later hE; clear hE
  refine sD F (o_move (F.ev rfl) ?_); clear F a; intro a F
  refine b_split F 10 rfl (fun h1 => ?_) (fun h1 => ?_)
  · skip
    rw [h1] at F
    refine sO F ?_; clear F a; intro a F
    refine sO F ?_; clear F a; intro a F
    refine sO F ?_; clear F a; intro a F
    refine sO F ?_; clear F a; intro a F
    refine sO F ?_; clear F a; intro a F
    refine sO F ?_; clear F a; intro a F
    refine sO F ?_; clear F a; intro a F
    refine sO F ?_; clear F a; intro a F
    refine sO F ?_; clear F a; intro a F
    refine sO F ?_; clear F a; intro a F
    refine sO F ?_; clear F a; intro a F
    refine sO F ?_; clear F a; intro a F
    refine sD F (o_pickT (F.ev rfl) (F.ev rfl) ?_); clear F a; intro a F
    with_reducible refine l_nil (q_then ?_)
    refine c_true F rfl rfl ?_
    refine c_seq (c_region ?_)
    refine sD F (o_assign (F.ev rfl) ?_); clear F a; intro a F
    with_reducible refine l_nil (q_then (c_ret (q_thenR ?_)))
    refine p_ret F rfl (.cons (.tmp (F.ev rfl)) .nil) ?_; (try dsimp only [oneOr])
    exact ⟨by simp [*], M.ext⟩
  · skip
    rw [h1] at F
    refine sG F (o_fieldAddr (F.ev rfl) ?_); clear F a; intro a F
    refine sG F (o_load1 M (F.ev rfl) (by repeat constructor) (di_seq (by first | assumption | trivial | exact And.left (by assumption))) ?_); clear F a; intro a F
    refine sG F (o_fieldAddr (F.ev rfl) ?_); clear F a; intro a F
    refine sG F (o_load1 M (F.ev rfl) (by repeat constructor) (di_seq (by first | assumption | trivial | exact And.left (by assumption))) ?_); clear F a; intro a F
    refine sG F (o_eql (F.ev rfl) (F.ev rfl) ?_); clear F a; intro a F
    refine sG F (o_move (F.ev rfl) ?_); clear F a; intro a F
    refine b_split F 16 rfl (fun h2 => ?_) (fun h2 => ?_)
    · skip
      rw [h2] at F; replace h2 := of_decide_eq_true h2
      refine sG F (o_fieldAddr (F.ev rfl) ?_); clear F a; intro a F
      refine sG F (o_load1 M (F.ev rfl) (by repeat constructor) (di_met (by first | assumption | trivial | exact And.left (by assumption))) ?_); clear F a; intro a F
      refine sG F (o_fieldAddr (F.ev rfl) ?_); clear F a; intro a F
      refine sG F (o_load1 M (F.ev rfl) (by repeat constructor) (di_met (by first | assumption | trivial | exact And.left (by assumption))) ?_); clear F a; intro a F
      refine sG F (o_lss (F.ev rfl) (F.ev rfl) ?_); clear F a; intro a F
      refine sG F (o_pickT (F.ev rfl) (F.ev rfl) ?_); clear F a; intro a F
      refine sD F (o_pickF (F.ev rfl) (F.ev rfl) ?_); clear F a; intro a F
      with_reducible refine l_nil (q_then ?_)
      refine c_if F rfl (fun h3 => ?_) (fun h3 => ?_)
      · skip
        rw [h3] at F; replace h3 := of_decide_eq_true h3
        refine c_seq (c_region ?_)
        refine sD F (o_assign (F.ev rfl) ?_); clear F a; intro a F
        with_reducible refine l_nil (q_then (c_ret (q_thenR ?_)))
        refine p_ret F rfl (.cons (.tmp (F.ev rfl)) .nil) ?_; (try dsimp only [oneOr])
        exact ⟨by simp [*], M.ext⟩
      · skip
        rw [h3] at F; replace h3 := of_decide_eq_false h3
        with_reducible refine c_skip (q_then (c_seq (c_seq (c_region ?_))))
        refine sD F (o_loadA M (F.ev rfl) (by repeat constructor) (di_all (by first | assumption | trivial | exact And.left (by assumption))) ?_); clear F a; intro a F
        refine sD F (o_loadA M (F.ev rfl) (by repeat constructor) (di_all (by first | assumption | trivial | exact And.left (by assumption))) ?_); clear F a; intro a F
        refine sD F (o_eqlAE (F.ev rfl) (F.ev rfl) (di_fits (by first | assumption | trivial | exact And.left (by assumption))) (di_fits (by first | assumption | trivial | exact And.left (by assumption))) (di_eq (by first | assumption | trivial | exact And.left (by assumption)) (by first | assumption | trivial | exact And.left (by assumption))) ?_); clear F a; intro a F
        with_reducible refine l_nil (q_then ?_)
        refine c_if F rfl (fun h4 => ?_) (fun h4 => ?_)
        · skip
          rw [h4] at F; replace h4 := of_decide_eq_true h4
          refine c_seq (c_region ?_)
          refine sD F (o_assign (F.ev rfl) ?_); clear F a; intro a F
          with_reducible refine l_nil (q_then (c_ret (q_thenR ?_)))
          refine p_ret F rfl (.cons (.tmp (F.ev rfl)) .nil) ?_; (try dsimp only [oneOr])
          exact ⟨by simp [*, newerV_self], M.ext⟩
        · skip
          rw [h4] at F; replace h4 := of_decide_eq_false h4
          with_reducible refine c_skip (q_then (c_seq (c_region ?_)))
          refine sD F (o_assign (F.ev rfl) ?_); clear F a; intro a F
          with_reducible refine l_nil (q_then (c_ret ?_))
          refine p_ret F rfl (.cons (.tmp (F.ev rfl)) .nil) ?_; (try dsimp only [oneOr])
          exact ⟨by simp [*, newerV_self], M.ext⟩
    · skip
      rw [h2] at F; replace h2 := of_decide_eq_false h2
      refine sO F ?_; clear F a; intro a F
      refine sO F ?_; clear F a; intro a F
      refine sO F ?_; clear F a; intro a F
      refine sO F ?_; clear F a; intro a F
      refine sO F ?_; clear F a; intro a F
      refine sG F (o_pickF (F.ev rfl) (F.ev rfl) ?_); clear F a; intro a F
      refine sD F (o_pickF (F.ev rfl) (F.ev rfl) ?_); clear F a; intro a F
      with_reducible refine l_nil (q_then ?_)
      refine c_false F rfl rfl ?_
      with_reducible refine c_skip (q_then (c_seq (c_seq (c_region ?_))))
      refine sD F (o_loadA M (F.ev rfl) (by repeat constructor) (di_all (by first | assumption | trivial | exact And.left (by assumption))) ?_); clear F a; intro a F
      refine sD F (o_loadA M (F.ev rfl) (by repeat constructor) (di_all (by first | assumption | trivial | exact And.left (by assumption))) ?_); clear F a; intro a F
      refine sD F (o_eqlAE (F.ev rfl) (F.ev rfl) (di_fits (by first | assumption | trivial | exact And.left (by assumption))) (di_fits (by first | assumption | trivial | exact And.left (by assumption))) (di_eq (by first | assumption | trivial | exact And.left (by assumption)) (by first | assumption | trivial | exact And.left (by assumption))) ?_); clear F a; intro a F
      with_reducible refine l_nil (q_then ?_)
      refine c_if F rfl (fun h3 => ?_) (fun h3 => ?_)
      · skip
        rw [h3] at F; replace h3 := of_decide_eq_true h3
        refine c_seq (c_region ?_)
        refine sD F (o_assign (F.ev rfl) ?_); clear F a; intro a F
        with_reducible refine l_nil (q_then (c_ret (q_thenR ?_)))
        refine p_ret F rfl (.cons (.tmp (F.ev rfl)) .nil) ?_; (try dsimp only [oneOr])
        exact ⟨by simp [*, newerV_self], M.ext⟩
      · skip
        rw [h3] at F; replace h3 := of_decide_eq_false h3
        with_reducible refine c_skip (q_then (c_seq (c_region ?_)))
        refine sD F (o_assign (F.ev rfl) ?_); clear F a; intro a F
        with_reducible refine l_nil (q_then (c_ret ?_))
        refine p_ret F rfl (.cons (.tmp (F.ev rfl)) .nil) ?_; (try dsimp only [oneOr])
        exact ⟨by simp [*], M.ext⟩
set_option maxHeartbeats 4000000 in
theorem rsqfeas_c (d b : DisV) (k : Bool) (W : World) : Cal Tryz.prog 59 [.agg (diC d).toArray, .agg (diC b).toArray, .bool k].toArray W fun v w' => v = .bool (finD d && (!k || (validM b.met && decide (cmpQR d b = -1)))) ∧ Ext [] W w' := by
  unfold finD inf
  refine fn_ofM (n := 25) [] Tryz.func59 rfl rfl rfl ?_
  intro a w F M hwW
  refine c_seq (c_region ?_)
  refine sD F (o_box M (F.ev rfl) rfl ?_); clear F M; intro b3 w M a F
  refine sD F (o_box M (F.ev rfl) rfl ?_); clear F M; intro b4 w M a F
  refine sD F (o_assign (F.ev rfl) ?_); clear F a; intro a F
  with_reducible refine l_nil (q_then (c_seq (c_seq (c_region ?_))))
  refine sD F (o_loadA M (F.ev rfl) (by repeat constructor) (di_all (by first | assumption | trivial | exact And.left (by assumption))) ?_); clear F a; intro a F
  refine sD F (o_call (F.ev rfl) (F.evs rfl) (Cal.mono (rdvalid_c _ _) ?_)); clear F; clear a; rintro _ w ⟨rfl, hE⟩ a F; replace M := M.later hE; clear hE
  refine sD F (o_not (F.ev rfl) ?_); clear F a; intro a F
  refine sD F (o_move (F.ev rfl) ?_); clear F a; intro a F
  refine b_split F 10 rfl (fun h1 => ?_) (fun h1 => ?_)
  · skip
    rw [h1] at F; replace h1 := false_of_not h1; (try rw [h1] at F)
    refine sO F ?_; clear F a; intro a F
    refine sO F ?_; clear F a; intro a F
    refine sO F ?_; clear F a; intro a F
    refine sD F (o_pickT (F.ev rfl) (F.ev rfl) ?_); clear F a; intro a F
    with_reducible refine l_nil (q_then ?_)
    refine c_true F rfl rfl ?_
    refine c_seq (c_region ?_)
    refine sD F (o_assign (F.ev rfl) ?_); clear F a; intro a F
    with_reducible refine l_nil (q_then (c_ret (q_thenR ?_)))
    refine p_ret F rfl (.cons (.tmp (F.ev rfl)) .nil) ?_; (try dsimp only [oneOr])
    exact ⟨by simp [*], M.ext⟩
  · skip
    rw [h1] at F; replace h1 := true_of_not h1; (try rw [h1] at F)
    refine sG F (o_fieldAddr (F.ev rfl) ?_); clear F a; intro a F
    refine sG F (o_load1 M (F.ev rfl) (by repeat constructor) (di_met (by first | assumption | trivial | exact And.left (by assumption))) ?_); clear F a; intro a F
    refine sG F (o_eql (F.ev rfl) (F.ev rfl) ?_); clear F a; intro a F
    refine sD F (o_pickF (F.ev rfl) (F.ev rfl) ?_); clear F a; intro a F
    with_reducible refine l_nil (q_then ?_)
    refine c_if F rfl (fun h2 => ?_) (fun h2 => ?_)
    · skip
      rw [h2] at F; replace h2 := of_decide_eq_true h2
      refine c_seq (c_region ?_)
      refine sD F (o_assign (F.ev rfl) ?_); clear F a; intro a F
      with_reducible refine l_nil (q_then (c_ret (q_thenR ?_)))
      refine p_ret F rfl (.cons (.tmp (F.ev rfl)) .nil) ?_; (try dsimp only [oneOr])
      exact ⟨by simp [*], M.ext⟩
    · skip
      rw [h2] at F; replace h2 := of_decide_eq_false h2
      with_reducible refine c_skip (q_then (c_seq (c_seq (c_region ?_))))
      refine sD F (o_move (F.ev rfl) ?_); clear F a; intro a F
      refine sD F (o_not (F.ev rfl) ?_); clear F a; intro a F
      with_reducible refine l_nil (q_then ?_)
      refine c_if F rfl (fun h3 => ?_) (fun h3 => ?_)
      · skip
        rw [h3] at F; replace h3 := false_of_not h3; (try rw [h3] at F)
        refine c_seq (c_region ?_)
        refine sD F (o_assign (F.ev rfl) ?_); clear F a; intro a F
        with_reducible refine l_nil (q_then (c_ret (q_thenR ?_)))
        refine p_ret F rfl (.cons (.tmp (F.ev rfl)) .nil) ?_; (try dsimp only [oneOr])
        exact ⟨by simp [*], M.ext⟩
      · skip
        rw [h3] at F; replace h3 := true_of_not h3; (try rw [h3] at F)
        with_reducible refine c_skip (q_then (c_seq (c_region ?_)))
        refine sD F (o_loadA M (F.ev rfl) (by repeat constructor) (di_all (by first | assumption | trivial | exact And.left (by assumption))) ?_); clear F a; intro a F
        refine sD F (o_call (F.ev rfl) (F.evs rfl) (Cal.mono (rdvalid_c _ _) ?_)); clear F; clear a; rintro _ w ⟨rfl, hE⟩ a F; replace M := M.later hE; clear hE
        refine sD F (o_move (F.ev rfl) ?_); clear F a; intro a F
        refine b_split F 19 rfl (fun h4 => ?_) (fun h4 => ?_)
        · skip
          rw [h4] at F
          refine sG F (o_loadA M (F.ev rfl) (by repeat constructor) (di_all (by first | assumption | trivial | exact And.left (by assumption))) ?_); clear F a; intro a F
          refine sG F (o_loadA M (F.ev rfl) (by repeat constructor) (di_all (by first | assumption | trivial | exact And.left (by assumption))) ?_); clear F a; intro a F
          refine sG F (o_call (F.ev rfl) (F.evs rfl) (Cal.mono (rsqcmp_c _ _ _) ?_)); clear F; clear a; rintro _ w ⟨rfl, hE⟩ a F; replace M := M.later hE; clear hE
          refine sG F (o_eql (F.ev rfl) (F.ev rfl) ?_); clear F a; intro a F
          refine sD F (o_pickT (F.ev rfl) (F.ev rfl) ?_); clear F a; intro a F
          refine sD F (o_assign (F.ev rfl) ?_); clear F a; intro a F
          with_reducible refine l_nil (q_then (c_ret ?_))
          refine p_ret F rfl (.cons (.tmp (F.ev rfl)) .nil) ?_; (try dsimp only [oneOr])
          exact ⟨by congr 1; rw [Bool.eq_iff_iff]; simp [*], M.ext⟩
        · skip
          rw [h4] at F
          refine sO F ?_; clear F a; intro a F
          refine sO F ?_; clear F a; intro a F
          refine sO F ?_; clear F a; intro a F
          refine sO F ?_; clear F a; intro a F
          refine sD F (o_pickF (F.ev rfl) (F.ev rfl) ?_); clear F a; intro a F
          refine sD F (o_assign (F.ev rfl) ?_); clear F a; intro a F
          with_reducible refine l_nil (q_then (c_ret ?_))
          refine p_ret F rfl (.cons (.tmp (F.ev rfl)) .nil) ?_; (try dsimp only [oneOr])
          exact ⟨by simp [*], M.ext⟩
theorem rlower_c (x y : DisV) (W : World) : Cal Tryz.prog 85 [.agg (diC x).toArray, .agg (diC y).toArray].toArray W fun v w' => v = .agg (diC (if cmpQR x y = -1 then x else y)).toArray ∧ Ext [] W w' := by
  refine fn_ofM (n := 11) [] Tryz.func85 rfl rfl rfl ?_
  intro a w F M hwW
  refine c_seq (c_region ?_)
  refine sD F (o_box M (F.ev rfl) rfl ?_); clear F M; intro b2 w M a F
  refine sD F (o_box M (F.ev rfl) rfl ?_); clear F M; intro b3 w M a F
  refine sD F (o_alloc M ?_); clear F M; intro b4 w M a F
  with_reducible refine l_nil (q_then (c_seq (c_seq (c_region ?_))))
  refine sD F (o_loadA M (F.ev rfl) (by repeat constructor) (di_all (by first | assumption | trivial | exact And.left (by assumption))) ?_); clear F a; intro a F
  refine sD F (o_loadA M (F.ev rfl) (by repeat constructor) (di_all (by first | assumption | trivial | exact And.left (by assumption))) ?_); clear F a; intro a F
  refine sD F (o_call (F.ev rfl) (F.evs rfl) (Cal.mono (rsqcmp_c _ _ _) ?_)); clear F; clear a; rintro _ w ⟨rfl, hE⟩ a F; replace M := M.later hE; clear hE
  refine sD F (o_eql (F.ev rfl) (F.ev rfl) ?_); clear F a; intro a F
  with_reducible refine l_nil (q_then ?_)
  refine c_if F rfl (fun h1 => ?_) (fun h1 => ?_)
  · skip
    rw [h1] at F; replace h1 := of_decide_eq_true h1
    refine c_seq (c_region ?_)
    refine sD F (o_loadA M (F.ev rfl) (by repeat constructor) (di_all (by first | assumption | trivial | exact And.left (by assumption))) ?_); clear F a; intro a F
    refine stepN rfl F (o_storeA M (F.ev rfl) (F.ev rfl) (di_len (by first | assumption | trivial | exact And.left (by assumption))) (di_one _) (by repeat constructor) (put_all (by rw [(di_len (by first | assumption | trivial | exact And.left (by assumption)))]; first | rfl | rw [(di_len (by first | assumption | trivial | exact And.left (by assumption)))])) (by repeat constructor) ?_); clear F M; intro w M a F
    with_reducible refine l_nil (q_then (c_ret (q_thenR ?_)))
    refine p_ret F rfl (.cons (.cell (F.ev rfl) (run_loadVar_agg TAgg.h (M.heap (by repeat constructor)) (di_all (by first | assumption | trivial | exact And.left (by assumption))))) .nil) ?_; (try dsimp only [oneOr])
    exact ⟨by simp [*], M.ext⟩
  · skip
    rw [h1] at F; replace h1 := of_decide_eq_false h1
    with_reducible refine c_skip (q_then (c_seq (c_region ?_)))
    refine sD F (o_loadA M (F.ev rfl) (by repeat constructor) (di_all (by first | assumption | trivial | exact And.left (by assumption))) ?_); clear F a; intro a F
    refine stepN rfl F (o_storeA M (F.ev rfl) (F.ev rfl) (di_len (by first | assumption | trivial | exact And.left (by assumption))) (di_one _) (by repeat constructor) (put_all (by rw [(di_len (by first | assumption | trivial | exact And.left (by assumption)))]; first | rfl | rw [(di_len (by first | assumption | trivial | exact And.left (by assumption)))])) (by repeat constructor) ?_); clear F M; intro w M a F
    with_reducible refine l_nil (q_then (c_ret ?_))
    refine p_ret F rfl (.cons (.cell (F.ev rfl) (run_loadVar_agg TAgg.h (M.heap (by repeat constructor)) (di_all (by first | assumption | trivial | exact And.left (by assumption))))) .nil) ?_; (try dsimp only [oneOr])
    exact ⟨by simp [*], M.ext⟩
set_option maxHeartbeats 2000000 in
theorem rfind_c (l : List SrcV) (hx : ∀ x ∈ l, IsSr x) (v : Value) (now : Int) (t : DstV) (ht : IsDv t) (W : World) (hS : SlAt W 38 v l.length (srsC l)) :
    Cal Tryz.prog 58 [v, .int .i64 now, .agg (dvC t).toArray].toArray W fun r w' => r = .tuple [diV ((rfindV l now t).getD di0), .bool (rfindV l now t).isSome].toArray ∧ Ext [] W w' := by
  obtain ⟨q, cap, rfl, hcap, hsp, hll, hm⟩ := id hS
  have c1 : ∀ w, rfindV l now t = none → Ext [] W w → Value.tuple [.agg [.int .u16 0, .int .i64 0].toArray, .bool false].toArray = .tuple [diV ((rfindV l now t).getD di0), .bool (rfindV l now t).isSome].toArray ∧ Ext [] W w := fun w h E => by
    rw [h]
    exact ⟨rfl, E⟩
  have c2 : ∀ w d, rfindV l now t = some d → Ext [] W w → Value.tuple [.agg (diC d).toArray, .bool true].toArray = .tuple [diV ((rfindV l now t).getD di0), .bool (rfindV l now t).isSome].toArray ∧ Ext [] W w := fun w d h E => by
    rw [h]
    exact ⟨rfl, E⟩
  refine fn_ofM (n := 39) [] Tryz.func58 rfl rfl rfl ?_
  intro a w F M hwW
  refine c_seq (c_region ?_)
  refine sD F (o_box M (F.ev rfl) rfl ?_); clear F M; intro b5 w M a F
  refine sD F (o_alloc M ?_); clear F M; intro b6 w M a F
  refine sD F (o_assign (F.ev rfl) ?_); clear F a; intro a F
  with_reducible refine l_nil (q_then (c_seq (c_seq (c_region ?_))))
  refine sD F (o_move (F.ev rfl) ?_); clear F a; intro a F
  refine sD F (o_call (F.ev rfl) (F.evs rfl) (Cal.mono (refvalidS_c _ (by first | assumption | omega | exact And.left (by assumption) | exact (by assumption : SlAt _ _ _ _ _).later M.ext | exact TapeS.later (by assumption) M.ext | exact M.heap (by repeat constructor) | decide) _ _ (by first | assumption | omega | exact And.left (by assumption) | exact (by assumption : SlAt _ _ _ _ _).later M.ext | exact TapeS.later (by assumption) M.ext | exact M.heap (by repeat constructor) | decide)) ?_)); clear F; clear a; rintro _ w ⟨rfl, hE⟩ a F; replace M := M.later hE; clear hE
  refine sD F (o_not (F.ev rfl) ?_); clear F a; intro a F
  refine sD F (o_move (F.ev rfl) ?_); clear F a; intro a F
  refine b_split F 13 rfl (fun h1 => ?_) (fun h1 => ?_)
  · skip
    rw [h1] at F; replace h1 := false_of_not h1; (try rw [h1] at F)
    refine sO F ?_; clear F a; intro a F
    refine sO F ?_; clear F a; intro a F
    refine sO F ?_; clear F a; intro a F
    refine sD F (o_pickT (F.ev rfl) (F.ev rfl) ?_); clear F a; intro a F
    with_reducible refine l_nil (q_then ?_)
    refine c_true F rfl rfl ?_
    refine c_seq (c_region ?_)
    refine sD F (o_build F rfl rfl ?_); clear F a; intro a F
    refine stepN rfl F (o_storeA M (F.ev rfl) (F.ev rfl) (by rfl) (by rfl) (by repeat constructor) (by rfl) (by repeat constructor) ?_); clear F M; intro w M a F
    refine sD F (o_assign (F.ev rfl) ?_); clear F a; intro a F
    with_reducible refine l_nil (q_then (c_ret (q_thenR ?_)))
    refine p_ret F rfl (.cons (.cell (F.ev rfl) (run_loadVar_agg TAgg.h (M.heap (by repeat constructor)) rfl)) (.cons (.tmp (F.ev rfl)) .nil)) ?_; (try dsimp only [oneOr])
    exact c1 _ (by unfold rfindV; simp [*]) M.ext
  rw [h1] at F; replace h1 := true_of_not h1; (try rw [h1] at F)
  refine sG F (o_move (F.ev rfl) ?_); clear F a; intro a F
  refine sG F (o_call (F.ev rfl) (F.evs rfl) (Cal.mono (risTime_c _ _) ?_)); clear F; clear a; rintro _ w ⟨rfl, hE⟩ a F; replace M := M.later hE; clear hE
  refine sG F (o_not (F.ev rfl) ?_); clear F a; intro a F
  refine sD F (o_pickF (F.ev rfl) (F.ev rfl) ?_); clear F a; intro a F
  with_reducible refine l_nil (q_then ?_)
  refine c_if F rfl (fun h2 => ?_) (fun h2 => ?_)
  · skip
    rw [h2] at F; replace h2 := false_of_not h2; (try rw [h2] at F)
    refine c_seq (c_region ?_)
    refine sD F (o_build F rfl rfl ?_); clear F a; intro a F
    refine stepN rfl F (o_storeA M (F.ev rfl) (F.ev rfl) (by rfl) (by rfl) (by repeat constructor) (by rfl) (by repeat constructor) ?_); clear F M; intro w M a F
    refine sD F (o_assign (F.ev rfl) ?_); clear F a; intro a F
    with_reducible refine l_nil (q_then (c_ret (q_thenR ?_)))
    refine p_ret F rfl (.cons (.cell (F.ev rfl) (run_loadVar_agg TAgg.h (M.heap (by repeat constructor)) rfl)) (.cons (.tmp (F.ev rfl)) .nil)) ?_; (try dsimp only [oneOr])
    exact c1 _ (by unfold rfindV; simp [*]) M.ext
  rw [h2] at F; replace h2 := true_of_not h2; (try rw [h2] at F)
  with_reducible refine c_skip (q_then (c_seq (c_seq (c_region ?_))))
  refine sD F (o_move (F.ev rfl) ?_); clear F a; intro a F
  refine sD F (o_lenSl (F.ev rfl) ?_); clear F a; intro a F
  refine sD F (o_move (F.ev rfl) ?_); clear F a; intro a F
  with_reducible refine l_nil (q_then (c_block ?_))
  obtain ⟨hl256, _, _⟩ := validSs_iff.1 h1
  obtain ⟨R, hR⟩ : ∃ R, (l.drop 0).find? (hitS now t) = R := ⟨_, rfl⟩
  have hV : rfindV l now t = R.map (·.bst) := by rw [← hR]; unfold rfindV; rw [h1, h2]; rfl
  refine c_loop (fun m a w => ∃ (i : Nat) , m = l.length - i ∧ i ≤ l.length ∧ ((l.drop i).find? (hitS now t) = R) ∧ Frm a 39 [] [(21, .int .i64 i), (20, .int .i64 l.length), (19, .slice q l.length cap), (1, .int .i64 now), (5, .pointer (some ⟨b5, 0, none⟩)), (6, .pointer (some ⟨b6, 0, none⟩))] ∧ Mem [] W w [(b6, .cells [Value.int .u16 0, .int .i64 0].toArray 48 (0, 0)), (b5, .cells (dvC t).toArray 45 (0, 0))]) l.length ⟨0, rfl, by omega, hR, F.only [21, 20, 19, 1, 5, 6] rfl, M.sub (by repeat (first | exact .refl _ | apply List.Sublist.cons_cons | apply List.Sublist.cons))⟩ ?_
  clear F M a w
  rintro m a w ⟨i, hm', hi, hf, F, M⟩
  by_cases hlt : i < l.length
  · obtain ⟨b, o, cs, t', fz, rfl, hb, hs⟩ := hm (by omega)
    obtain ⟨y, hy0⟩ : ∃ y, y = l[i] := ⟨_, rfl⟩
    have hyi : IsSr y := by rw [hy0]; exact hx _ (List.getElem_mem hlt)
    have f1 : seg cs (o + (i : Int).toNat * 38) 38 = some (srC y) := by rw [hy0]; exact seg_el (srs_len hx) hs hlt (by omega)
    rw [← List.getElem_cons_drop hlt, ← hy0] at hf
    clear hy0
    rw [List.find?_cons] at hf
    refine c_seq (c_region ?_)
    refine sD F (o_lssT (F.ev rfl) (F.ev rfl) (by omega) ?_); clear F a; intro a F
    with_reducible refine l_nil (q_then (c_seq ?_))
    refine c_true F rfl rfl ?_
    with_reducible refine c_skip (q_then (c_seq (c_block (c_seq (c_region ?_)))))
    refine sD F (o_indexSl (F.ev rfl) (F.ev rfl) (by omega) (by omega) ?_); clear F a; intro a F
    refine sD F (o_loadWA M (F.ev rfl) (by assumption) (by assumption) ?_); clear F a; intro a F
    refine sD F (o_alloc M ?_); clear F M; intro b9 w M a F
    refine stepN rfl F (o_storeA M (F.ev rfl) (F.ev rfl) (sr_len (by first | assumption | trivial | exact And.left (by assumption))) (sr_one _) (by repeat constructor) (put_all (by rw [(sr_len (by first | assumption | trivial | exact And.left (by assumption)))]; first | rfl | rw [(sr_len (by first | assumption | trivial | exact And.left (by assumption)))])) (by repeat constructor) ?_); clear F M; intro w M a F
    with_reducible refine l_nil (q_then (c_seq (c_region ?_)))
    refine sD F (o_fieldAddr (F.ev rfl) ?_); clear F a; intro a F
    refine sD F (o_loadA M (F.ev rfl) (by repeat constructor) (sr_to (by first | assumption | trivial | exact And.left (by assumption))) ?_); clear F a; intro a F
    refine sD F (o_loadA M (F.ev rfl) (by repeat constructor) (dv_all (by first | assumption | trivial | exact And.left (by assumption))) ?_); clear F a; intro a F
    refine sD F (o_eqlAE (F.ev rfl) (F.ev rfl) (dv_fits (by first | assumption | trivial | exact And.left (by assumption))) (dv_fits (by first | assumption | trivial | exact And.left (by assumption))) (dv_eq (by first | assumption | trivial | exact And.left (by assumption)) (by first | assumption | trivial | exact And.left (by assumption))) ?_); clear F a; intro a F
    refine sD F (o_move (F.ev rfl) ?_); clear F a; intro a F
    refine b_split F 29 rfl (fun h1 => ?_) (fun h1 => ?_)
    · skip
      rw [h1] at F; replace h1 := of_decide_eq_true h1
      refine sG F (o_fieldAddr (F.ev rfl) ?_); clear F a; intro a F
      refine sG F (o_load1 M (F.ev rfl) (by repeat constructor) (sr_til (by first | assumption | trivial | exact And.left (by assumption))) ?_); clear F a; intro a F
      refine sG F (o_move (F.ev rfl) ?_); clear F a; intro a F
      refine sG F (o_gtr (F.ev rfl) (F.ev rfl) ?_); clear F a; intro a F
      refine sD F (o_pickT (F.ev rfl) (F.ev rfl) ?_); clear F a; intro a F
      with_reducible refine l_nil (q_then ?_)
      refine c_if F rfl (fun h2 => ?_) (fun h2 => ?_)
      · skip
        rw [h2] at F; replace h2 := of_decide_eq_true h2
        refine c_seq (c_region ?_)
        refine sD F (o_fieldAddr (F.ev rfl) ?_); clear F a; intro a F
        refine sD F (o_loadA M (F.ev rfl) (by repeat constructor) (sr_bst (by first | assumption | trivial | exact And.left (by assumption))) ?_); clear F a; intro a F
        refine stepN rfl F (o_storeA M (F.ev rfl) (F.ev rfl) (di_len (by first | assumption | trivial | exact And.left (by assumption))) (di_one _) (by repeat constructor) (put_all (by rw [(di_len (by first | assumption | trivial | exact And.left (by assumption)))]; first | rfl | rw [(di_len (by first | assumption | trivial | exact And.left (by assumption)))])) (by repeat constructor) ?_); clear F M; intro w M a F
        refine sD F (o_assign (F.ev rfl) ?_); clear F a; intro a F
        with_reducible refine l_nil (q_then (c_ret (q_inBR (q_thenR (q_thenR (q_inBR (q_thenR ?_)))))))
        refine p_ret F rfl (.cons (.cell (F.ev rfl) (run_loadVar_agg TAgg.h (M.heap (by repeat constructor)) (di_all (by first | assumption | trivial | exact And.left (by assumption))))) (.cons (.tmp (F.ev rfl)) .nil)) ?_; (try dsimp only [oneOr])
        exact c2 _ _ (by rw [hV, ← hf]; simp [hitS, *]) M.ext
      · skip
        rw [h2] at F; replace h2 := of_decide_eq_false h2
        with_reducible refine c_skip (q_inB (q_then (c_region ?_)))
        refine sD F (o_add (F.ev rfl) (F.ev rfl) (w_i64 (by omega) (by omega)) ?_); clear F a; intro a F
        refine sD F (o_move (F.ev rfl) ?_); clear F a; intro a F
        with_reducible refine l_nil (q_then ?_)
        exact ⟨_, by omega, i + 1, rfl, by omega, by rw [← hf]; simp [hitS, *], F.only [21, 20, 19, 1, 5, 6] rfl, M.sub (by repeat (first | exact .refl _ | apply List.Sublist.cons))⟩
    · skip
      rw [h1] at F; replace h1 := of_decide_eq_false h1
      refine sO F ?_; clear F a; intro a F
      refine sO F ?_; clear F a; intro a F
      refine sO F ?_; clear F a; intro a F
      refine sO F ?_; clear F a; intro a F
      refine sD F (o_pickF (F.ev rfl) (F.ev rfl) ?_); clear F a; intro a F
      with_reducible refine l_nil (q_then ?_)
      refine c_false F rfl rfl ?_
      with_reducible refine c_skip (q_inB (q_then (c_region ?_)))
      refine sD F (o_add (F.ev rfl) (F.ev rfl) (w_i64 (by omega) (by omega)) ?_); clear F a; intro a F
      refine sD F (o_move (F.ev rfl) ?_); clear F a; intro a F
      with_reducible refine l_nil (q_then ?_)
      exact ⟨_, by omega, i + 1, rfl, by omega, by rw [← hf]; simp [hitS, *], F.only [21, 20, 19, 1, 5, 6] rfl, M.sub (by repeat (first | exact .refl _ | apply List.Sublist.cons))⟩
  · obtain rfl : i = l.length := by omega
    rw [List.drop_length] at hf
    refine c_seq (c_region ?_)
    refine sD F (o_lssF (F.ev rfl) (F.ev rfl) (by omega) ?_); clear F a; intro a F
    with_reducible refine l_nil (q_then (c_seq ?_))
    refine c_false F rfl rfl ?_
    with_reducible refine c_exit (q_thenX (q_thenX (q_inBX (q_then (c_seq (c_region ?_))))))
    refine sD F (o_build F rfl rfl ?_); clear F a; intro a F
    refine stepN rfl F (o_storeA M (F.ev rfl) (F.ev rfl) (by rfl) (by rfl) (by repeat constructor) (by rfl) (by repeat constructor) ?_); clear F M; intro w M a F
    refine sD F (o_assign (F.ev rfl) ?_); clear F a; intro a F
    with_reducible refine l_nil (q_then (c_ret ?_))
    refine p_ret F rfl (.cons (.cell (F.ev rfl) (run_loadVar_agg TAgg.h (M.heap (by repeat constructor)) rfl)) (.cons (.tmp (F.ev rfl)) .nil)) ?_; (try dsimp only [oneOr])
    exact c1 _ (by rw [hV, ← hf]; rfl) M.ext
end Go.Proofs.YtilgoepokaaleaaGreat
/-! ZO -/
namespace Go.Proofs.YtilgoepokaaleaaGreat
set_option linter.unusedVariables false
set_option linter.unusedSimpArgs false
open Go.RowKit
attribute [local irreducible] OpTo wpListIn Code.wpIn MW Cal
theorem cmpL_ge {a b x : List Int} (h : cmpL a b < 0) (k : 0 ≤ cmpL a x) : 0 < cmpL b x := by
  have h1 := cmpL_anti a x
  have h2 := cmpL_anti b x
  rcases Int.lt_or_le 0 (cmpL a x) with h3 | h3
  · have := cmpL_lt_trans (show cmpL x a < 0 by omega) h
    omega
  · have h4 := cmpL_zero (show cmpL a x = 0 by omega)
    subst h4
    omega
theorem putR_merge {l : List RouV} {x : RouV} {g : Bool} (h : AscC cmpR l) : mergeG (fun y => cmpR y x) x g l = putR l x g := by
  rw [mergeG_is]
  · rfl
  · exact h.imp fun {a b} h k => cmpL_ge h k
set_option maxHeartbeats 8000000 in
theorem rlearn_c (l : List RouV) (hx : ∀ x ∈ l, IsRo x) (v : Value) (now : Int) (t : DstV) (ht : IsDv t) (nb : Int) (d : DisV) (W : World) (hS : SlAt W 39 v l.length (rosC l)) :
    Cal Tryz.prog 43 [v, .int .i64 now, .agg (dvC t).toArray, .int .u64 nb, .agg (diC d).toArray].toArray W fun r w' => ∃ u ent, r = .tuple [u, .int .i64 (learnV l now t nb d).2].toArray ∧ OwnS 53 39 u (learnV l now t nb d).1.length (rosC (learnV l now t nb d).1) ent ∧ Mem [] W w' ent := by
  have e1 := dv_all ht
  have e2 := di_all (o := d) trivial
  have e3 := di_met (o := d) trivial
  obtain ⟨q, cap, rfl, hcap, hsp, hll, hm⟩ := id hS
  have c1 : ∀ n u, learnV l now t nb d = ([], n) → u = .slice none 0 0 → ∀ w, Ext [] W w → ∃ u' ent, Value.tuple [u, .int .i64 n].toArray = .tuple [u', .int .i64 (learnV l now t nb d).2].toArray ∧ OwnS 53 39 u' (learnV l now t nb d).1.length (rosC (learnV l now t nb d).1) ent ∧ Mem [] W w ent := by
    rintro n _ h rfl w E
    rw [h]
    exact ⟨_, [], rfl, OwnS.nil _ _, Mem.nil E⟩
  refine fn_ofM (n := 83) [] Tryz.func43 rfl rfl rfl ?_
  intro a w F M hwW
  refine c_seq (c_region ?_)
  refine sD F (o_box M (F.ev rfl) rfl ?_); clear F M; intro b7 w M a F
  refine sD F (o_box M (F.ev rfl) rfl ?_); clear F M; intro b9 w M a F
  refine sD F (o_assign (F.ev rfl) ?_); clear F a; intro a F
  refine sD F (o_assign (F.ev rfl) ?_); clear F a; intro a F
  with_reducible refine l_nil (q_then (c_seq (c_seq (c_region ?_))))
  refine sD F (o_move (F.ev rfl) ?_); clear F a; intro a F
  refine sD F (o_call (F.ev rfl) (F.evs rfl) (Cal.mono (refvalidR_c _ (by first | assumption | omega | exact And.left (by assumption) | exact (by assumption : SlAt _ _ _ _ _).later M.ext | exact TapeS.later (by assumption) M.ext | exact M.heap (by repeat constructor) | decide) _ _ (by first | assumption | omega | exact And.left (by assumption) | exact (by assumption : SlAt _ _ _ _ _).later M.ext | exact TapeS.later (by assumption) M.ext | exact M.heap (by repeat constructor) | decide)) ?_)); clear F; clear a; rintro _ w ⟨rfl, hE⟩ a F; replace M := M.later hE; clear hE
  refine sD F (o_not (F.ev rfl) ?_); clear F a; intro a F
  refine sD F (o_move (F.ev rfl) ?_); clear F a; intro a F
  refine b_split F 21 rfl (fun h1 => ?_) (fun h1 => ?_)
  · skip
    rw [h1] at F; replace h1 := false_of_not h1; (try rw [h1] at F)
    refine sO F ?_; clear F a; intro a F
    refine sO F ?_; clear F a; intro a F
    refine sO F ?_; clear F a; intro a F
    refine sD F (o_pickT (F.ev rfl) (F.ev rfl) ?_); clear F a; intro a F
    refine sD F (o_move (F.ev rfl) ?_); clear F a; intro a F
    refine sO F ?_; clear F a; intro a F
    refine sO F ?_; clear F a; intro a F
    refine sO F ?_; clear F a; intro a F
    refine sD F (o_pickT (F.ev rfl) (F.ev rfl) ?_); clear F a; intro a F
    refine sD F (o_move (F.ev rfl) ?_); clear F a; intro a F
    refine sO F ?_; clear F a; intro a F
    refine sO F ?_; clear F a; intro a F
    refine sD F (o_pickT (F.ev rfl) (F.ev rfl) ?_); clear F a; intro a F
    with_reducible refine l_nil (q_then ?_)
    refine c_true F rfl rfl ?_
    refine c_seq (c_region ?_)
    refine sD F (o_assign (F.ev rfl) ?_); clear F a; intro a F
    refine sD F (o_assign (F.ev rfl) ?_); clear F a; intro a F
    with_reducible refine l_nil (q_then (c_ret (q_thenR ?_)))
    refine p_ret F rfl (.cons (.tmp (F.ev rfl)) (.cons (.tmp (F.ev rfl)) .nil)) ?_; (try dsimp only [oneOr])
    exact c1 _ _ (by unfold learnV; simp [*]) rfl _ M.ext
  rw [h1] at F; replace h1 := true_of_not h1; (try rw [h1] at F)
  refine sG F (o_loadA M (F.ev rfl) (by repeat constructor) (by assumption) ?_); clear F a; intro a F
  refine sG F (o_call (F.ev rfl) (F.evs rfl) (Cal.mono (rvalidTo_c _ (by first | assumption | omega | exact And.left (by assumption) | exact (by assumption : SlAt _ _ _ _ _).later M.ext | exact TapeS.later (by assumption) M.ext | exact M.heap (by repeat constructor) | decide) _) ?_)); clear F; clear a; rintro _ w ⟨rfl, hE⟩ a F; replace M := M.later hE; clear hE
  refine sG F (o_not (F.ev rfl) ?_); clear F a; intro a F
  refine sD F (o_pickF (F.ev rfl) (F.ev rfl) ?_); clear F a; intro a F
  refine sD F (o_move (F.ev rfl) ?_); clear F a; intro a F
  refine b_split F 26 rfl (fun h2 => ?_) (fun h2 => ?_)
  · skip
    rw [h2] at F; replace h2 := false_of_not h2; (try rw [h2] at F)
    refine sO F ?_; clear F a; intro a F
    refine sO F ?_; clear F a; intro a F
    refine sO F ?_; clear F a; intro a F
    refine sD F (o_pickT (F.ev rfl) (F.ev rfl) ?_); clear F a; intro a F
    refine sD F (o_move (F.ev rfl) ?_); clear F a; intro a F
    refine sO F ?_; clear F a; intro a F
    refine sO F ?_; clear F a; intro a F
    refine sD F (o_pickT (F.ev rfl) (F.ev rfl) ?_); clear F a; intro a F
    with_reducible refine l_nil (q_then ?_)
    refine c_true F rfl rfl ?_
    refine c_seq (c_region ?_)
    refine sD F (o_assign (F.ev rfl) ?_); clear F a; intro a F
    refine sD F (o_assign (F.ev rfl) ?_); clear F a; intro a F
    with_reducible refine l_nil (q_then (c_ret (q_thenR ?_)))
    refine p_ret F rfl (.cons (.tmp (F.ev rfl)) (.cons (.tmp (F.ev rfl)) .nil)) ?_; (try dsimp only [oneOr])
    exact c1 _ _ (by unfold learnV; simp [*]) rfl _ M.ext
  rw [h2] at F; replace h2 := true_of_not h2; (try rw [h2] at F)
  refine sG F (o_loadA M (F.ev rfl) (by repeat constructor) (by assumption) ?_); clear F a; intro a F
  refine sG F (o_call (F.ev rfl) (F.evs rfl) (Cal.mono (rdvalid_c _ _) ?_)); clear F; clear a; rintro _ w ⟨rfl, hE⟩ a F; replace M := M.later hE; clear hE
  refine sG F (o_not (F.ev rfl) ?_); clear F a; intro a F
  refine sD F (o_pickF (F.ev rfl) (F.ev rfl) ?_); clear F a; intro a F
  refine sD F (o_move (F.ev rfl) ?_); clear F a; intro a F
  refine b_split F 31 rfl (fun h3 => ?_) (fun h3 => ?_)
  · skip
    rw [h3] at F; replace h3 := false_of_not h3; (try rw [h3] at F)
    refine sO F ?_; clear F a; intro a F
    refine sO F ?_; clear F a; intro a F
    refine sD F (o_pickT (F.ev rfl) (F.ev rfl) ?_); clear F a; intro a F
    with_reducible refine l_nil (q_then ?_)
    refine c_true F rfl rfl ?_
    refine c_seq (c_region ?_)
    refine sD F (o_assign (F.ev rfl) ?_); clear F a; intro a F
    refine sD F (o_assign (F.ev rfl) ?_); clear F a; intro a F
    with_reducible refine l_nil (q_then (c_ret (q_thenR ?_)))
    refine p_ret F rfl (.cons (.tmp (F.ev rfl)) (.cons (.tmp (F.ev rfl)) .nil)) ?_; (try dsimp only [oneOr])
    exact c1 _ _ (by unfold learnV; simp [*]) rfl _ M.ext
  rw [h3] at F; replace h3 := true_of_not h3; (try rw [h3] at F)
  refine sG F (o_move (F.ev rfl) ?_); clear F a; intro a F
  refine sG F (o_eql (F.ev rfl) (F.ev rfl) ?_); clear F a; intro a F
  refine sD F (o_pickF (F.ev rfl) (F.ev rfl) ?_); clear F a; intro a F
  with_reducible refine l_nil (q_then ?_)
  refine c_if F rfl (fun h4 => ?_) (fun h4 => ?_)
  · skip
    rw [h4] at F; replace h4 := of_decide_eq_true h4
    refine c_seq (c_region ?_)
    refine sD F (o_assign (F.ev rfl) ?_); clear F a; intro a F
    refine sD F (o_assign (F.ev rfl) ?_); clear F a; intro a F
    with_reducible refine l_nil (q_then (c_ret (q_thenR ?_)))
    refine p_ret F rfl (.cons (.tmp (F.ev rfl)) (.cons (.tmp (F.ev rfl)) .nil)) ?_; (try dsimp only [oneOr])
    exact c1 _ _ (by unfold learnV; simp [*]) rfl _ M.ext
  rw [h4] at F; replace h4 := of_decide_eq_false h4
  with_reducible refine c_skip (q_then (c_seq (c_seq (c_region ?_))))
  refine sD F (o_move (F.ev rfl) ?_); clear F a; intro a F
  refine sD F (o_call (F.ev rfl) (F.evs rfl) (Cal.mono (risTime_c _ _) ?_)); clear F; clear a; rintro _ w ⟨rfl, hE⟩ a F; replace M := M.later hE; clear hE
  refine sD F (o_not (F.ev rfl) ?_); clear F a; intro a F
  with_reducible refine l_nil (q_then ?_)
  refine c_if F rfl (fun h5 => ?_) (fun h5 => ?_)
  · skip
    rw [h5] at F; replace h5 := false_of_not h5; (try rw [h5] at F)
    refine c_seq (c_region ?_)
    refine sD F (o_assign (F.ev rfl) ?_); clear F a; intro a F
    refine sD F (o_assign (F.ev rfl) ?_); clear F a; intro a F
    with_reducible refine l_nil (q_then (c_ret (q_thenR ?_)))
    refine p_ret F rfl (.cons (.tmp (F.ev rfl)) (.cons (.tmp (F.ev rfl)) .nil)) ?_; (try dsimp only [oneOr])
    exact c1 _ _ (by unfold learnV; simp [*]) rfl _ M.ext
  rw [h5] at F; replace h5 := true_of_not h5; (try rw [h5] at F)
  with_reducible refine c_skip (q_then (c_seq ?_))
  refine c_draw 7 F (by kernel_rfl) ?_; intro w1 hE hok; have M1 := M.later hE
  refine mK hok rfl rfl (fun a' w' F' E' => o_loadA (M1.later E') (F'.ev rfl) (by repeat constructor) (by first | assumption | rfl) ⟨Ext.refl _ _, rfl⟩) ?_
  refine mK hok rfl rfl (fun a' w' F' E' => o_move (F'.ev rfl) ⟨Ext.refl _ _, rfl⟩) ?_
  refine mK hok rfl rfl (fun a' w' F' E' => o_loadA (M1.later E') (F'.ev rfl) (by repeat constructor) (by first | assumption | rfl) ⟨Ext.refl _ _, rfl⟩) ?_
  refine mK hok rfl rfl (fun a' w' F' E' => o_move (F'.ev rfl) ⟨Ext.refl _ _, rfl⟩) ?_
  obtain ⟨hl512, _, hasc⟩ := validRs_iff.1 h1
  have hnw := h5
  simp only [isTime, Bool.and_eq_true, decide_eq_true_eq] at hnw
  obtain ⟨x, hx0⟩ : ∃ x : RouV, x = ⟨t, nb, d, laterV now 10⟩ := ⟨_, rfl⟩
  have hL : learnV l now t nb d = if 512 < (putR l x (decide (d.met = 65535))).length then ([], 10) else (putR l x (decide (d.met = 65535)), 0) := by
    unfold learnV
    rw [h1, h2, h3, decide_eq_false h4, h5, ← hx0]
    rfl
  have hxx : IsRo x := by rw [hx0]; exact ⟨ht, trivial⟩
  have hb : putAll [(0, 35), (35, 1), (36, 2), (38, 1)] roZ [(0, dvC t), (1, [.int .u64 nb]), (2, diC d), (3, [.int .i64 (laterV now 10)])] = some (roC x) := by rw [hx0]; exact ro_build (o := ⟨t, nb, d, laterV now 10⟩) ⟨ht, trivial⟩
  refine mK hok rfl rfl (fun a' w' F' E' => o_call (F'.ev rfl) (F'.evs rfl) (Cal.mono (rafter_c _ _ (by first | assumption | omega | exact And.left (by assumption) | exact (by assumption : SlAt _ _ _ _ _).later (M1.later E').ext | exact TapeS.later (by assumption) (M1.later E').ext | exact M.heap (by repeat constructor) | decide) (by first | assumption | omega | exact And.left (by assumption) | exact (by assumption : SlAt _ _ _ _ _).later (M1.later E').ext | exact TapeS.later (by assumption) (M1.later E').ext | exact M.heap (by repeat constructor) | decide) (by first | assumption | omega | exact And.left (by assumption) | exact (by assumption : SlAt _ _ _ _ _).later (M1.later E').ext | exact TapeS.later (by assumption) (M1.later E').ext | exact M.heap (by repeat constructor) | decide) (by first | assumption | omega | exact And.left (by assumption) | exact (by assumption : SlAt _ _ _ _ _).later (M1.later E').ext | exact TapeS.later (by assumption) (M1.later E').ext | exact M.heap (by repeat constructor) | decide) _) fun _ _ hh => ⟨hh.2, hh.1⟩)) ?_
  refine mK hok rfl rfl (fun a' w' F' E' => o_build F' rfl (by assumption) ⟨Ext.refl _ _, rfl⟩) ?_
  refine mAl hok rfl rfl (Al.stays _ _) (fun w => Ext.alloc w _) (fun a' w' F' E' => run_al) ?_
  refine mDone rfl rfl ?_; clear F M; intro a w F hE2 hX hTT hDD hPP; have M := M1.later hE2; (try dsimp only at F); obtain ⟨b12, e_b12, g_b12, q_b12⟩ := hX 6 _ rfl; replace F := F.know (d := 12) e_b12; replace M := Mem.al (pre := []) M M1 q_b12 g_b12 (by intro p hp; cases hp); clear M1; clear hX; clear hE2; clear hok; clear hE; clear hTT; clear hDD; clear hPP; clear e_b12; clear g_b12; clear q_b12; (try dsimp only [ptrTo] at F); (try simp only [List.cons_append, List.nil_append] at M)
  refine stepN rfl F (o_storeA M (F.ev rfl) (F.ev rfl) (ro_len (by first | assumption | trivial | exact And.left (by assumption))) (ro_one _) (by repeat constructor) (put_all (by rw [(ro_len (by first | assumption | trivial | exact And.left (by assumption)))]; first | rfl | rw [(ro_len (by first | assumption | trivial | exact And.left (by assumption)))])) (by repeat constructor) ?_); clear F M; intro w M a F
  with_reducible refine l_nil (q_then (c_seq (c_region ?_)))
  refine sD F (o_assign (F.ev rfl) ?_); clear F a; intro a F
  with_reducible refine l_nil (q_then (c_seq (c_region ?_)))
  refine sD F (o_fieldAddr (F.ev rfl) ?_); clear F a; intro a F
  refine sD F (o_load1 M (F.ev rfl) (by repeat constructor) (by assumption) ?_); clear F a; intro a F
  refine sD F (o_eql (F.ev rfl) (F.ev rfl) ?_); clear F a; intro a F
  refine sD F (o_assign (F.ev rfl) ?_); clear F a; intro a F
  with_reducible refine l_nil (q_then (c_seq (c_seq (c_region ?_))))
  refine sD F (o_move (F.ev rfl) ?_); clear F a; intro a F
  refine sD F (o_lenSl (F.ev rfl) ?_); clear F a; intro a F
  refine sD F (o_move (F.ev rfl) ?_); clear F a; intro a F
  with_reducible refine l_nil (q_then (c_block ?_))
  have hpl := mergeG_len (fun y => cmpR y x) x (done := decide (d.met = 65535)) (l := l)
  have hpl2 : (mergeG (fun y => cmpR y x) x (decide (d.met = 65535)) l).length ≤ 513 := by split at hpl <;> omega
  rw [← putR_merge hasc] at hL
  clear hpl
  generalize hR : mergeG (fun y => cmpR y x) x (decide (d.met = 65535)) l = R at *
  have c2 : ∀ u ent w, R.length ≤ 512 → OwnS 53 39 u R.length (rosC R) ent → Mem [] W w ent → ∃ u' ent, Value.tuple [u, .int .i64 0].toArray = .tuple [u', .int .i64 (learnV l now t nb d).2].toArray ∧ OwnS 53 39 u' (learnV l now t nb d).1.length (rosC (learnV l now t nb d).1) ent ∧ Mem [] W w ent := by
    intro u ent w h h2 h3
    rw [if_neg (by omega)] at hL
    rw [hL]
    exact ⟨_, _, rfl, h2, h3⟩
  clear hx0 hb
  have g0 := ro_len hxx
  have g1 := ro_all hxx
  refine c_loop (fun m a w => ∃ (i : Nat) (u : Value) (dn : Bool) (out : List RouV) (es : List (Nat × Obj)), m = l.length - i ∧ i ≤ l.length ∧ OwnS 53 39 u out.length (rosC out) es ∧ out ++ mergeG (fun y => cmpR y x) x dn (l.drop i) = R ∧ Frm a 83 [] [(49, .int .i64 i), (48, .int .i64 l.length), (47, .slice q l.length cap), (13, u), (14, .bool dn), (12, .pointer (some ⟨b12, 0, none⟩))] ∧ Mem [] W w ((b12, .cells (roC x).toArray 53 (0, 0)) :: es)) l.length ⟨0, _, decide (d.met = 65535), [], [], rfl, by omega, OwnS.nil _ _, hR, F.only [49, 48, 47, 13, 14, 12] rfl, M.sub (by repeat (first | exact .refl _ | apply List.Sublist.cons_cons | apply List.Sublist.cons))⟩ ?_
  clear F M a w
  rintro m a w ⟨i, u, dn, out, es, hm', hi, hOs, hout, F, M⟩
  have hol : out.length ≤ 513 := by
    have := congrArg List.length hout
    rw [List.length_append] at this
    omega
  by_cases hlt : i < l.length
  · obtain ⟨b, o, cs, t', fz, rfl, hb, hs⟩ := hm (by omega)
    obtain ⟨y, hy0⟩ : ∃ y, y = l[i] := ⟨_, rfl⟩
    have hyi : IsRo y := by rw [hy0]; exact hx _ (List.getElem_mem hlt)
    have f1 : seg cs (o + (i : Int).toNat * 39) 39 = some (roC y) := by rw [hy0]; exact seg_el (ros_len hx) hs hlt (by omega)
    rw [← List.getElem_cons_drop hlt, ← hy0, mergeG_cons] at hout
    have f2 := ro_len hyi
    have f4 := ro_all hyi
    clear hy0
    refine c_seq (c_region ?_)
    refine sD F (o_lssT (F.ev rfl) (F.ev rfl) (by omega) ?_); clear F a; intro a F
    with_reducible refine l_nil (q_then (c_seq ?_))
    refine c_true F rfl rfl ?_
    with_reducible refine c_skip (q_then (c_seq (c_block (c_seq (c_region ?_)))))
    refine sD F (o_indexSl (F.ev rfl) (F.ev rfl) (by omega) (by omega) ?_); clear F a; intro a F
    refine sD F (o_loadWA M (F.ev rfl) (by assumption) (by assumption) ?_); clear F a; intro a F
    refine sD F (o_alloc M ?_); clear F M; intro b16 w M a F
    refine stepN rfl F (o_storeA M (F.ev rfl) (F.ev rfl) (ro_len (by first | assumption | trivial | exact And.left (by assumption))) (ro_one _) (by repeat constructor) (put_all (by rw [(ro_len (by first | assumption | trivial | exact And.left (by assumption)))]; first | rfl | rw [(ro_len (by first | assumption | trivial | exact And.left (by assumption)))])) (by repeat constructor) ?_); clear F M; intro w M a F
    with_reducible refine l_nil (q_then (c_seq (c_region ?_)))
    refine sD F (o_loadA M (F.ev rfl) (by repeat constructor) (by assumption) ?_); clear F a; intro a F
    refine sD F (o_loadA M (F.ev rfl) (by repeat constructor) (by assumption) ?_); clear F a; intro a F
    refine sD F (o_call (F.ev rfl) (F.evs rfl) (Cal.mono (reforder_c _ _ (by first | assumption | omega | exact And.left (by assumption) | exact (by assumption : SlAt _ _ _ _ _).later M.ext | exact TapeS.later (by assumption) M.ext | exact M.heap (by repeat constructor) | decide) (by first | assumption | omega | exact And.left (by assumption) | exact (by assumption : SlAt _ _ _ _ _).later M.ext | exact TapeS.later (by assumption) M.ext | exact M.heap (by repeat constructor) | decide) _) ?_)); clear F; clear a; rintro _ w ⟨rfl, hE⟩ a F; replace M := M.later hE; clear hE
    refine sD F (o_assign (F.ev rfl) ?_); clear F a; intro a F
    with_reducible refine l_nil (q_then (c_seq (c_seq (c_region ?_))))
    refine sD F (o_move (F.ev rfl) ?_); clear F a; intro a F
    refine sD F (o_geq (F.ev rfl) (F.ev rfl) ?_); clear F a; intro a F
    refine sD F (o_move (F.ev rfl) ?_); clear F a; intro a F
    refine b_split F 58 rfl (fun h1 => ?_) (fun h1 => ?_)
    · skip
      rw [h1] at F; replace h1 := of_decide_eq_true h1
      refine sG F (o_move (F.ev rfl) ?_); clear F a; intro a F
      refine sG F (o_not (F.ev rfl) ?_); clear F a; intro a F
      refine sD F (o_pickT (F.ev rfl) (F.ev rfl) ?_); clear F a; intro a F
      with_reducible refine l_nil (q_then ?_)
      refine c_if F rfl (fun h2 => ?_) (fun h2 => ?_)
      · skip
        rw [h2] at F; replace h2 := false_of_not h2; (try rw [h2] at F)
        refine c_seq (c_region ?_)
        refine sD F (o_move (F.ev rfl) ?_); clear F a; intro a F
        refine sD F (o_loadA M (F.ev rfl) (by repeat constructor) (by assumption) ?_); clear F a; intro a F
        refine sD F (o_buildSlice F M rfl rfl rfl (ro_build1 (by first | assumption | trivial | exact And.left (by assumption))) ?_); clear F M; intro bs64 w M a F
        refine sD F (o_append1 (enc := roC) (by assumption) M (by repeat (first | exact .here | apply TailAt.cons)) (F.ev rfl) (F.ev rfl) (SrcOf.cells' (M.heap .here) (sg_all (ro_len (by first | assumption | trivial | exact And.left (by assumption)))) (ro_one _)) (by first | omega | (simp; omega)) ?_); clear F M; intro v65 es65 w hO65 M a F; (try dsimp only at M)
        refine sD F (o_assign (F.ev rfl) ?_); clear F a; intro a F
        with_reducible refine l_nil (q_then (c_region ?_))
        refine sD F (o_assign (F.ev rfl) ?_); clear F a; intro a F
        with_reducible refine l_nil (q_then (c_seq (c_region ?_)))
        refine sD F (o_move (F.ev rfl) ?_); clear F a; intro a F
        refine sD F (o_neq (F.ev rfl) (F.ev rfl) ?_); clear F a; intro a F
        with_reducible refine l_nil (q_then ?_)
        refine c_if F rfl (fun h3 => ?_) (fun h3 => ?_)
        · skip
          rw [h3] at F; replace h3 := ne_of_bne h3
          refine c_region ?_
          refine sD F (o_move (F.ev rfl) ?_); clear F a; intro a F
          refine sD F (o_loadA M (F.ev rfl) (by repeat constructor) (by assumption) ?_); clear F a; intro a F
          refine sD F (o_buildSlice F M rfl rfl rfl (ro_build1 (by first | assumption | trivial | exact And.left (by assumption))) ?_); clear F M; intro bs70 w M a F
          refine sD F (o_append1 (enc := roC) (by assumption) M (by repeat (first | exact .here | apply TailAt.cons)) (F.ev rfl) (F.ev rfl) (SrcOf.cells' (M.heap .here) (sg_all (ro_len (by first | assumption | trivial | exact And.left (by assumption)))) (ro_one _)) (by first | omega | (simp; omega)) ?_); clear F M; intro v71 es71 w hO71 M a F; (try dsimp only at M)
          refine sD F (o_assign (F.ev rfl) ?_); clear F a; intro a F
          with_reducible refine l_nil (q_inB (q_then (c_region ?_)))
          refine sD F (o_add (F.ev rfl) (F.ev rfl) (w_i64 (by omega) (by omega)) ?_); clear F a; intro a F
          refine sD F (o_move (F.ev rfl) ?_); clear F a; intro a F
          with_reducible refine l_nil (q_then ?_)
          exact ⟨_, by omega, i + 1, _, _, _, _, rfl, by omega, by assumption, by rw [← hout]; clear hout hR hL c1 c2; simp [*], F.only [49, 48, 47, 13, 14, 12] rfl, M.sub (by repeat (first | exact .refl _ | apply List.Sublist.cons))⟩
        · skip
          rw [h3] at F; replace h3 := eq_of_bne_false h3
          with_reducible refine c_skip (q_inB (q_then (c_region ?_)))
          refine sD F (o_add (F.ev rfl) (F.ev rfl) (w_i64 (by omega) (by omega)) ?_); clear F a; intro a F
          refine sD F (o_move (F.ev rfl) ?_); clear F a; intro a F
          with_reducible refine l_nil (q_then ?_)
          exact ⟨_, by omega, i + 1, _, _, _, _, rfl, by omega, by assumption, by rw [← hout]; clear hout hR hL c1 c2; simp [*], F.only [49, 48, 47, 13, 14, 12] rfl, M.sub (by repeat (first | exact .refl _ | apply List.Sublist.cons))⟩
      · skip
        rw [h2] at F; replace h2 := true_of_not h2; (try rw [h2] at F)
        with_reducible refine c_skip (q_then (c_seq (c_region ?_)))
        refine sD F (o_move (F.ev rfl) ?_); clear F a; intro a F
        refine sD F (o_neq (F.ev rfl) (F.ev rfl) ?_); clear F a; intro a F
        with_reducible refine l_nil (q_then ?_)
        refine c_if F rfl (fun h3 => ?_) (fun h3 => ?_)
        · skip
          rw [h3] at F; replace h3 := ne_of_bne h3
          refine c_region ?_
          refine sD F (o_move (F.ev rfl) ?_); clear F a; intro a F
          refine sD F (o_loadA M (F.ev rfl) (by repeat constructor) (by assumption) ?_); clear F a; intro a F
          refine sD F (o_buildSlice F M rfl rfl rfl (ro_build1 (by first | assumption | trivial | exact And.left (by assumption))) ?_); clear F M; intro bs70 w M a F
          refine sD F (o_append1 (enc := roC) (by assumption) M (by repeat (first | exact .here | apply TailAt.cons)) (F.ev rfl) (F.ev rfl) (SrcOf.cells' (M.heap .here) (sg_all (ro_len (by first | assumption | trivial | exact And.left (by assumption)))) (ro_one _)) (by first | omega | (simp; omega)) ?_); clear F M; intro v71 es71 w hO71 M a F; (try dsimp only at M)
          refine sD F (o_assign (F.ev rfl) ?_); clear F a; intro a F
          with_reducible refine l_nil (q_inB (q_then (c_region ?_)))
          refine sD F (o_add (F.ev rfl) (F.ev rfl) (w_i64 (by omega) (by omega)) ?_); clear F a; intro a F
          refine sD F (o_move (F.ev rfl) ?_); clear F a; intro a F
          with_reducible refine l_nil (q_then ?_)
          exact ⟨_, by omega, i + 1, _, _, _, _, rfl, by omega, by assumption, by rw [← hout]; clear hout hR hL c1 c2; simp [*], F.only [49, 48, 47, 13, 14, 12] rfl, M.sub (by repeat (first | exact .refl _ | apply List.Sublist.cons))⟩
        · skip
          rw [h3] at F; replace h3 := eq_of_bne_false h3
          with_reducible refine c_skip (q_inB (q_then (c_region ?_)))
          refine sD F (o_add (F.ev rfl) (F.ev rfl) (w_i64 (by omega) (by omega)) ?_); clear F a; intro a F
          refine sD F (o_move (F.ev rfl) ?_); clear F a; intro a F
          with_reducible refine l_nil (q_then ?_)
          exact ⟨_, by omega, i + 1, _, _, _, _, rfl, by omega, by assumption, by rw [← hout]; clear hout hR hL c1 c2; simp [*], F.only [49, 48, 47, 13, 14, 12] rfl, M.sub (by repeat (first | exact .refl _ | apply List.Sublist.cons))⟩
    · skip
      rw [h1] at F; replace h1 := of_decide_eq_false h1
      refine sO F ?_; clear F a; intro a F
      refine sO F ?_; clear F a; intro a F
      refine sD F (o_pickF (F.ev rfl) (F.ev rfl) ?_); clear F a; intro a F
      with_reducible refine l_nil (q_then ?_)
      refine c_false F rfl rfl ?_
      with_reducible refine c_skip (q_then (c_seq (c_region ?_)))
      refine sD F (o_move (F.ev rfl) ?_); clear F a; intro a F
      refine sD F (o_neqT (F.ev rfl) (F.ev rfl) (by omega) ?_); clear F a; intro a F
      with_reducible refine l_nil (q_then ?_)
      refine c_true F rfl rfl ?_
      refine c_region ?_
      refine sD F (o_move (F.ev rfl) ?_); clear F a; intro a F
      refine sD F (o_loadA M (F.ev rfl) (by repeat constructor) (by assumption) ?_); clear F a; intro a F
      refine sD F (o_buildSlice F M rfl rfl rfl (ro_build1 (by first | assumption | trivial | exact And.left (by assumption))) ?_); clear F M; intro bs70 w M a F
      refine sD F (o_append1 (enc := roC) (by assumption) M (by repeat (first | exact .here | apply TailAt.cons)) (F.ev rfl) (F.ev rfl) (SrcOf.cells' (M.heap .here) (sg_all (ro_len (by first | assumption | trivial | exact And.left (by assumption)))) (ro_one _)) (by first | omega | (simp; omega)) ?_); clear F M; intro v71 es71 w hO71 M a F; (try dsimp only at M)
      refine sD F (o_assign (F.ev rfl) ?_); clear F a; intro a F
      with_reducible refine l_nil (q_inB (q_then (c_region ?_)))
      refine sD F (o_add (F.ev rfl) (F.ev rfl) (w_i64 (by omega) (by omega)) ?_); clear F a; intro a F
      refine sD F (o_move (F.ev rfl) ?_); clear F a; intro a F
      with_reducible refine l_nil (q_then ?_)
      exact ⟨_, by omega, i + 1, _, _, _, _, rfl, by omega, by assumption, by rw [← hout]; clear hout hR hL c1 c2; have hc : cmpR y x ≠ 0 := (by omega); simp [*], F.only [49, 48, 47, 13, 14, 12] rfl, M.sub (by repeat (first | exact .refl _ | apply List.Sublist.cons))⟩
  · obtain rfl : i = l.length := by omega
    rw [List.drop_length, mergeG_nil] at hout
    cases dn
    · have hout : out ++ [x] = R := hout
      subst hout
      refine c_seq (c_region ?_)
      refine sD F (o_lssF (F.ev rfl) (F.ev rfl) (by omega) ?_); clear F a; intro a F
      with_reducible refine l_nil (q_then (c_seq ?_))
      refine c_false F rfl rfl ?_
      with_reducible refine c_exit (q_thenX (q_thenX (q_inBX (q_then (c_seq (c_seq (c_region ?_)))))))
      refine sD F (o_move (F.ev rfl) ?_); clear F a; intro a F
      refine sD F (o_not (F.ev rfl) ?_); clear F a; intro a F
      with_reducible refine l_nil (q_then ?_)
      refine c_true F rfl rfl ?_
      refine c_region ?_
      refine sD F (o_move (F.ev rfl) ?_); clear F a; intro a F
      refine sD F (o_loadA M (F.ev rfl) (by repeat constructor) (by assumption) ?_); clear F a; intro a F
      refine sD F (o_buildSlice F M rfl rfl rfl (ro_build1 (by first | assumption | trivial | exact And.left (by assumption))) ?_); clear F M; intro bs77 w M a F
      refine sD F (o_append1 (enc := roC) (by assumption) M (by repeat (first | exact .here | apply TailAt.cons)) (F.ev rfl) (F.ev rfl) (SrcOf.cells' (M.heap .here) (sg_all (ro_len (by first | assumption | trivial | exact And.left (by assumption)))) (ro_one _)) (by first | omega | (simp; omega)) ?_); clear F M; intro v78 es78 w hO78 M a F; (try dsimp only at M)
      refine sD F (o_assign (F.ev rfl) ?_); clear F a; intro a F
      with_reducible refine l_nil (q_then (c_seq (c_seq (c_region ?_))))
      refine sD F (o_move (F.ev rfl) ?_); clear F a; intro a F
      refine sD F (o_lenOwn (F.ev rfl) (by assumption) ?_); clear F a; intro a F
      refine sD F (o_gtr (F.ev rfl) (F.ev rfl) ?_); clear F a; intro a F
      with_reducible refine l_nil (q_then ?_)
      refine c_if F rfl (fun h1 => ?_) (fun h1 => ?_)
      · skip
        rw [h1] at F; replace h1 := of_decide_eq_true h1
        refine c_seq (c_region ?_)
        refine sD F (o_assign (F.ev rfl) ?_); clear F a; intro a F
        refine sD F (o_assign (F.ev rfl) ?_); clear F a; intro a F
        with_reducible refine l_nil (q_then (c_ret (q_thenR ?_)))
        refine p_ret F rfl (.cons (.tmp (F.ev rfl)) (.cons (.tmp (F.ev rfl)) .nil)) ?_; (try dsimp only [oneOr])
        exact c1 10 _ (by rw [hL, if_pos (by omega)]) rfl _ M.ext
      · skip
        rw [h1] at F; replace h1 := of_decide_eq_false h1
        with_reducible refine c_skip (q_then (c_seq (c_region ?_)))
        refine sD F (o_move (F.ev rfl) ?_); clear F a; intro a F
        refine sD F (o_assign (F.ev rfl) ?_); clear F a; intro a F
        refine sD F (o_assign (F.ev rfl) ?_); clear F a; intro a F
        with_reducible refine l_nil (q_then (c_ret ?_))
        refine p_ret F rfl (.cons (.tmp (F.ev rfl)) (.cons (.tmp (F.ev rfl)) .nil)) ?_; (try dsimp only [oneOr])
        exact c2 _ _ _ (by omega) (by assumption) (M.sub (by repeat (first | exact .refl _ | apply List.Sublist.cons)))
    · have hout : out ++ [] = R := hout
      rw [List.append_nil] at hout
      subst hout
      refine c_seq (c_region ?_)
      refine sD F (o_lssF (F.ev rfl) (F.ev rfl) (by omega) ?_); clear F a; intro a F
      with_reducible refine l_nil (q_then (c_seq ?_))
      refine c_false F rfl rfl ?_
      with_reducible refine c_exit (q_thenX (q_thenX (q_inBX (q_then (c_seq (c_seq (c_region ?_)))))))
      refine sD F (o_move (F.ev rfl) ?_); clear F a; intro a F
      refine sD F (o_not (F.ev rfl) ?_); clear F a; intro a F
      with_reducible refine l_nil (q_then ?_)
      refine c_false F rfl rfl ?_
      with_reducible refine c_skip (q_then (c_seq (c_seq (c_region ?_))))
      refine sD F (o_move (F.ev rfl) ?_); clear F a; intro a F
      refine sD F (o_lenOwn (F.ev rfl) (by assumption) ?_); clear F a; intro a F
      refine sD F (o_gtr (F.ev rfl) (F.ev rfl) ?_); clear F a; intro a F
      with_reducible refine l_nil (q_then ?_)
      refine c_if F rfl (fun h1 => ?_) (fun h1 => ?_)
      · skip
        rw [h1] at F; replace h1 := of_decide_eq_true h1
        refine c_seq (c_region ?_)
        refine sD F (o_assign (F.ev rfl) ?_); clear F a; intro a F
        refine sD F (o_assign (F.ev rfl) ?_); clear F a; intro a F
        with_reducible refine l_nil (q_then (c_ret (q_thenR ?_)))
        refine p_ret F rfl (.cons (.tmp (F.ev rfl)) (.cons (.tmp (F.ev rfl)) .nil)) ?_; (try dsimp only [oneOr])
        exact c1 10 _ (by rw [hL, if_pos (by omega)]) rfl _ M.ext
      · skip
        rw [h1] at F; replace h1 := of_decide_eq_false h1
        with_reducible refine c_skip (q_then (c_seq (c_region ?_)))
        refine sD F (o_move (F.ev rfl) ?_); clear F a; intro a F
        refine sD F (o_assign (F.ev rfl) ?_); clear F a; intro a F
        refine sD F (o_assign (F.ev rfl) ?_); clear F a; intro a F
        with_reducible refine l_nil (q_then (c_ret ?_))
        refine p_ret F rfl (.cons (.tmp (F.ev rfl)) (.cons (.tmp (F.ev rfl)) .nil)) ?_; (try dsimp only [oneOr])
        exact c2 _ _ _ (by omega) (by assumption) (M.sub (by repeat (first | exact .refl _ | apply List.Sublist.cons)))
end Go.Proofs.YtilgoepokaaleaaGreat

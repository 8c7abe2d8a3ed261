/-
  Texts joined: ZD, ZG, ZH, ZN, LibY, YA, YB, YC, ZK, ZS, ZT, ZL, ZU, Lib2, Lib3, Tab.
-/
import Derived.Test.YtilgoepokaaleaaGreatLookups5
/-! ZD -/
namespace Go.Proofs.YtilgoepokaaleaaGreat
set_option linter.unusedVariables false
set_option linter.unusedSimpArgs false
open Go.RowKit
attribute [local irreducible] OpTo wpListIn Code.wpIn MW Cal
def selectV (now : Int) (l : List RouV) (s : List SrcV) (links : List OptV) (old : List InsV) : List InsV × Int :=
  if !validRs l || !validSs s || !validOs links || !validIs old then ([], 1) else if !isTime now then ([], 2)
  else if 512 < (selV now l s links old).length then ([], 10) else (selV now l s links old, 0)
def mapI (m : List (Int × Int)) : List (Int × Value) := m.map fun p => (p.1, Value.int .i64 p.2)
theorem zero_iR : zeroIs Tryz.prog 3 (.int .i64 0) := by
  unfold zeroIs
  kernel_rfl
theorem getA_mapI (x : Int) (m : List (Int × Int)) : getA x (mapI m) = (getA x m).map (Value.int .i64) := getA_map _ x m
theorem nodupD_le : ∀ {xs ys : List DstV}, AscD xs → (∀ x ∈ xs, x ∈ ys) → xs.length ≤ ys.length
  | [], _, _, _ => by simp
  | x :: xs, ys, hn, hs => by
    have h1 := List.pairwise_cons.1 hn
    have hx := hs x (by simp)
    have h2 : xs.length ≤ (ys.erase x).length := nodupD_le h1.2 fun y hy => (List.mem_erase_of_ne (fun e => by have := h1.1 y hy; rw [e, cmpD_self] at this; omega)).2 (hs y (List.mem_cons_of_mem _ hy))
    rw [List.length_erase_of_mem hx] at h2
    have : 0 < ys.length := List.length_pos_of_mem hx
    simp only [List.length_cons]
    omega
theorem oldV_is {old : List InsV} (hy : ∀ x ∈ old, IsIn x) {t : DstV} {o : InsV} (h : oldV old t = some o) : IsIn o := hy o (List.mem_of_find?_eq_some h)
theorem selE_is {now : Int} {l : List RouV} {s : List SrcV} {cm : List (Int × Int)} {old : List InsV} {t : DstV} (ht : IsDv t) (hy : ∀ x ∈ old, IsIn x) {e : InsV} (h : selE now l s cm old t = some e) : IsIn e := by
  unfold selE aftV at h
  dsimp only at h
  split at h
  · cases h
    exact ⟨ht, trivial⟩
  · split at h
    · cases h
    · rename_i o ho
      split at h
      · cases h
        exact ⟨ht, trivial⟩
      · split at h
        · cases h
          exact oldV_is hy ho
        · cases h
theorem opts_len {now : Int} {s : List SrcV} {cm : List (Int × Int)} {t : DstV} {l : List RouV} {n : Nat} (h : l.length ≤ n) : (optsV now s cm t l).length ≤ n := by
  unfold optsV
  have h1 := List.length_filterMap_le (optV now s cm t) (l.filter fun r => decide (r.to = t))
  have h2 := List.length_filter_le (fun r => decide (r.to = t)) l
  omega
def PhO (o : OptV) (r : Value) (ent : List (Nat × Obj)) : Prop := ∃ b, r = .slice (some ⟨b, 0, none⟩) 1 1 ∧ ent = [(b, opO o)]
theorem bsO (o : OptV) {a : Act} {n t : Nat} {df : List Deferred} {fr : List (Nat × Value)} {w w1 : World} {d : Option Tmp} {ty : TypeId} {pos : String} {af : Array Edge} {g : Option (Nat × Bool)} (F : Frm a n df fr) (E : Ext [] w1 w) (ht : Ev fr (.tmp t) = some (.agg (opC o).toArray)) :
    OpTo Tryz.prog ⟨d, .buildSlice 30 1 [(0, .tmp t)].toArray, ty, pos, af, g⟩ a.eval w fun r w' => Ext [] w w' ∧ NewP w1.heap.size (PhO o) r w' := by
  have hev : evP fr [(0, .tmp t)] = some [(0, opC o)] := by simp only [evP, ht]
  refine o_buildSlice F (Mem.start [] w) hev rfl rfl (op_build1 (o := o) trivial) ?_
  intro b w' M
  exact newP_of E ⟨_, ⟨b, rfl, rfl⟩, M⟩
set_option maxHeartbeats 16000000 in
theorem select_c (now : Int) (l : List RouV) (hx : ∀ x ∈ l, IsRo x) (s : List SrcV) (hs' : ∀ x ∈ s, IsSr x) (links : List OptV) (old : List InsV) (hy : ∀ x ∈ old, IsIn x) (vl vs vk vo : Value) (W : World) (hSl : SlAt W 39 vl l.length (rosC l)) (hSs : SlAt W 38 vs s.length (srsC s)) (hSk : SlAt W 2 vk links.length (opsC links)) (hSo : SlAt W 40 vo old.length (insC old)) :
    Cal Tryz.prog 15 [.int .i64 now, vl, vs, vk, vo].toArray W fun r w' => ∃ u ent, r = .tuple [u, .int .i64 (selectV now l s links old).2].toArray ∧ OwnS 50 40 u (selectV now l s links old).1.length (insC (selectV now l s links old).1) ent ∧ Mem [] W w' ent := by
  have hk : ∀ x ∈ links, IsOp x := fun _ _ => trivial
  have hSl0 := hSl
  have hSk0 := hSk
  have hSo0 := hSo
  obtain ⟨q, cap, rfl, hcap, hsp, hl, hm⟩ := hSl
  obtain ⟨qk, capk, rfl, hcapk, hspk, hlk, hmk⟩ := hSk
  obtain ⟨qo, capo, rfl, hcapo, hspo, hlo, hmo⟩ := hSo
  refine fn_ofM (n := 190) [] Tryz.func15 rfl rfl rfl ?_
  intro a w F M hwW
  refine c_seq (c_region ?_)
  refine sD F (o_assign (F.ev rfl) ?_); clear F a; intro a F
  refine sD F (o_assign (F.ev rfl) ?_); clear F a; intro a F
  with_reducible refine l_nil (q_then (c_seq (c_seq (c_region ?_))))
  refine sD F (o_move (F.ev rfl) ?_); clear F a; intro a F
  (refine sD F (o_call (F.ev rfl) (F.evs rfl) (Cal.mono (rtvalid_c l hx _ _ (hSl0.later M.ext)) ?_)); clear F; clear a; rintro _ w ⟨rfl, hE⟩ a F; replace M := M.later hE; clear hE)
  cases c1 : validRs l
  · have hL : selectV now l s links old = ([], 1) := by unfold selectV; rw [c1]; rfl
    rw [hL]
    rw [c1] at F
    refine sD F (o_not (F.ev rfl) ?_); clear F a; intro a F
    refine sD F (o_move (F.ev rfl) ?_); clear F a; intro a F
    refine sO F ?_; clear F a; intro a F
    refine sO F ?_; clear F a; intro a F
    refine sO F ?_; clear F a; intro a F
    refine sD F (o_pickT (F.ev rfl) (F.ev rfl) ?_); clear F a; intro a F
    refine sD F (o_move (F.ev rfl) ?_); clear F a; intro a F
    refine sO F ?_; clear F a; intro a F
    refine sO F ?_; clear F a; intro a F
    refine sO F ?_; clear F a; intro a F
    refine sD F (o_pickT (F.ev rfl) (F.ev rfl) ?_); clear F a; intro a F
    refine sD F (o_move (F.ev rfl) ?_); clear F a; intro a F
    refine sO F ?_; clear F a; intro a F
    refine sO F ?_; clear F a; intro a F
    refine sO F ?_; clear F a; intro a F
    refine sD F (o_pickT (F.ev rfl) (F.ev rfl) ?_); clear F a; intro a F
    with_reducible refine l_nil (q_then ?_)
    refine c_true F rfl rfl ?_
    refine c_seq (c_region ?_)
    refine sD F (o_assign (F.ev rfl) ?_); clear F a; intro a F
    refine sD F (o_assign (F.ev rfl) ?_); clear F a; intro a F
    with_reducible refine l_nil (q_then (c_ret (q_thenR ?_)))
    refine p_ret F rfl (.cons (.tmp (F.ev rfl)) (.cons (.tmp (F.ev rfl)) .nil)) ?_
    exact ⟨.slice none 0 0, [], rfl, OwnS.nil _ _, M⟩
  rw [c1] at F
  refine sD F (o_not (F.ev rfl) ?_); clear F a; intro a F
  refine sD F (o_move (F.ev rfl) ?_); clear F a; intro a F
  refine sG F (o_move (F.ev rfl) ?_); clear F a; intro a F
  (refine sG F (o_call (F.ev rfl) (F.evs rfl) (Cal.mono (scvalid_c s hs' _ _ (hSs.later M.ext)) ?_)); clear F; clear a; rintro _ w ⟨rfl, hE⟩ a F; replace M := M.later hE; clear hE)
  cases c2 : validSs s
  · have hL : selectV now l s links old = ([], 1) := by unfold selectV; rw [c1, c2]; rfl
    rw [hL]
    rw [c2] at F
    refine sG F (o_not (F.ev rfl) ?_); clear F a; intro a F
    refine sD F (o_pickF (F.ev rfl) (F.ev rfl) ?_); clear F a; intro a F
    refine sD F (o_move (F.ev rfl) ?_); clear F a; intro a F
    refine sO F ?_; clear F a; intro a F
    refine sO F ?_; clear F a; intro a F
    refine sO F ?_; clear F a; intro a F
    refine sD F (o_pickT (F.ev rfl) (F.ev rfl) ?_); clear F a; intro a F
    refine sD F (o_move (F.ev rfl) ?_); clear F a; intro a F
    refine sO F ?_; clear F a; intro a F
    refine sO F ?_; clear F a; intro a F
    refine sO F ?_; clear F a; intro a F
    refine sD F (o_pickT (F.ev rfl) (F.ev rfl) ?_); clear F a; intro a F
    with_reducible refine l_nil (q_then ?_)
    refine c_true F rfl rfl ?_
    refine c_seq (c_region ?_)
    refine sD F (o_assign (F.ev rfl) ?_); clear F a; intro a F
    refine sD F (o_assign (F.ev rfl) ?_); clear F a; intro a F
    with_reducible refine l_nil (q_then (c_ret (q_thenR ?_)))
    refine p_ret F rfl (.cons (.tmp (F.ev rfl)) (.cons (.tmp (F.ev rfl)) .nil)) ?_
    exact ⟨.slice none 0 0, [], rfl, OwnS.nil _ _, M⟩
  rw [c2] at F
  refine sG F (o_not (F.ev rfl) ?_); clear F a; intro a F
  refine sD F (o_pickF (F.ev rfl) (F.ev rfl) ?_); clear F a; intro a F
  refine sD F (o_move (F.ev rfl) ?_); clear F a; intro a F
  refine sG F (o_move (F.ev rfl) ?_); clear F a; intro a F
  (refine sG F (o_call (F.ev rfl) (F.evs rfl) (Cal.mono (mtvalidO_c links hk _ _ (hSk0.later M.ext)) ?_)); clear F; clear a; rintro _ w ⟨rfl, hE⟩ a F; replace M := M.later hE; clear hE)
  cases c3 : validOs links
  · have hL : selectV now l s links old = ([], 1) := by unfold selectV; rw [c1, c2, c3]; rfl
    rw [hL]
    rw [c3] at F
    refine sG F (o_not (F.ev rfl) ?_); clear F a; intro a F
    refine sD F (o_pickF (F.ev rfl) (F.ev rfl) ?_); clear F a; intro a F
    refine sD F (o_move (F.ev rfl) ?_); clear F a; intro a F
    refine sO F ?_; clear F a; intro a F
    refine sO F ?_; clear F a; intro a F
    refine sO F ?_; clear F a; intro a F
    refine sD F (o_pickT (F.ev rfl) (F.ev rfl) ?_); clear F a; intro a F
    with_reducible refine l_nil (q_then ?_)
    refine c_true F rfl rfl ?_
    refine c_seq (c_region ?_)
    refine sD F (o_assign (F.ev rfl) ?_); clear F a; intro a F
    refine sD F (o_assign (F.ev rfl) ?_); clear F a; intro a F
    with_reducible refine l_nil (q_then (c_ret (q_thenR ?_)))
    refine p_ret F rfl (.cons (.tmp (F.ev rfl)) (.cons (.tmp (F.ev rfl)) .nil)) ?_
    exact ⟨.slice none 0 0, [], rfl, OwnS.nil _ _, M⟩
  rw [c3] at F
  refine sG F (o_not (F.ev rfl) ?_); clear F a; intro a F
  refine sD F (o_pickF (F.ev rfl) (F.ev rfl) ?_); clear F a; intro a F
  refine sD F (o_move (F.ev rfl) ?_); clear F a; intro a F
  refine sG F (o_move (F.ev rfl) ?_); clear F a; intro a F
  (refine sG F (o_call (F.ev rfl) (F.evs rfl) (Cal.mono (rtvalidI_c old hy _ _ (hSo0.later M.ext)) ?_)); clear F; clear a; rintro _ w ⟨rfl, hE⟩ a F; replace M := M.later hE; clear hE)
  cases c4 : validIs old
  · have hL : selectV now l s links old = ([], 1) := by unfold selectV; rw [c1, c2, c3, c4]; rfl
    rw [hL]
    rw [c4] at F
    refine sG F (o_not (F.ev rfl) ?_); clear F a; intro a F
    refine sD F (o_pickF (F.ev rfl) (F.ev rfl) ?_); clear F a; intro a F
    with_reducible refine l_nil (q_then ?_)
    refine c_true F rfl rfl ?_
    refine c_seq (c_region ?_)
    refine sD F (o_assign (F.ev rfl) ?_); clear F a; intro a F
    refine sD F (o_assign (F.ev rfl) ?_); clear F a; intro a F
    with_reducible refine l_nil (q_then (c_ret (q_thenR ?_)))
    refine p_ret F rfl (.cons (.tmp (F.ev rfl)) (.cons (.tmp (F.ev rfl)) .nil)) ?_
    exact ⟨.slice none 0 0, [], rfl, OwnS.nil _ _, M⟩
  rw [c4] at F
  refine sG F (o_not (F.ev rfl) ?_); clear F a; intro a F
  refine sD F (o_pickF (F.ev rfl) (F.ev rfl) ?_); clear F a; intro a F
  with_reducible refine l_nil (q_then ?_)
  refine c_false F rfl rfl ?_
  with_reducible refine c_skip (q_then (c_seq (c_seq (c_region ?_))))
  refine sD F (o_move (F.ev rfl) ?_); clear F a; intro a F
  (refine sD F (o_call (F.ev rfl) (F.evs rfl) (Cal.mono (rtTime_c now _) ?_)); clear F; clear a; rintro _ w ⟨rfl, hE⟩ a F; replace M := M.later hE; clear hE)
  cases c5 : isTime now
  · have hL : selectV now l s links old = ([], 2) := by unfold selectV; rw [c1, c2, c3, c4, c5]; rfl
    rw [hL]
    rw [c5] at F
    refine sD F (o_not (F.ev rfl) ?_); clear F a; intro a F
    with_reducible refine l_nil (q_then ?_)
    refine c_true F rfl rfl ?_
    refine c_seq (c_region ?_)
    refine sD F (o_assign (F.ev rfl) ?_); clear F a; intro a F
    refine sD F (o_assign (F.ev rfl) ?_); clear F a; intro a F
    with_reducible refine l_nil (q_then (c_ret (q_thenR ?_)))
    refine p_ret F rfl (.cons (.tmp (F.ev rfl)) (.cons (.tmp (F.ev rfl)) .nil)) ?_
    exact ⟨.slice none 0 0, [], rfl, OwnS.nil _ _, M⟩
  rw [c5] at F
  have hL : selectV now l s links old = if 512 < (selV now l s links old).length then ([], 10) else (selV now l s links old, 0) := by unfold selectV; rw [c1, c2, c3, c4, c5]; rfl
  obtain ⟨hl512, hrou, hasc⟩ := validRs_iff.1 c1
  obtain ⟨hk16, hopt, _⟩ := validOs_iff.1 c3
  obtain ⟨ho512, hins, hascN⟩ := validIs_iff.1 c4
  refine sD F (o_not (F.ev rfl) ?_); clear F a; intro a F
  with_reducible refine l_nil (q_then ?_)
  refine c_false F rfl rfl ?_
  with_reducible refine c_skip (q_then (c_seq (c_region ?_)))
  refine sD F (o_move (F.ev rfl) ?_); clear F a; intro a F
  refine sD F (o_lenSl (F.ev rfl) ?_); clear F a; intro a F
  (refine sD F (o_makeMap M (F.ev rfl) ?_); clear F M; intro b12 w M a F)
  refine sD F (o_assign (F.ev rfl) ?_); clear F a; intro a F
  with_reducible refine l_nil (q_then (c_seq (c_seq (c_region ?_))))
  refine sD F (o_move (F.ev rfl) ?_); clear F a; intro a F
  refine sD F (o_lenSl (F.ev rfl) ?_); clear F a; intro a F
  refine sD F (o_move (F.ev rfl) ?_); clear F a; intro a F
  with_reducible refine l_nil (q_then (c_block ?_))
  refine c_loop (fun m a w => ∃ (i : Nat) (ent : List (Nat × Obj)), m = links.length - i ∧ i ≤ links.length ∧ OwnM (Value.int .u64) (.map (some b12)) (mapI (costM (links.take i))) ent ∧ Frm a 190 [] [(54, .int .i64 i), (53, .int .i64 links.length), (52, .slice qk links.length capk), (12, .map (some b12)), (0, .int .i64 now), (1, .slice q l.length cap), (2, vs), (4, .slice qo old.length capo)] ∧ Mem [] W w ent) links.length ⟨0, _, rfl, by omega, ⟨b12, _, rfl, rfl, MapAt.empty _⟩, F.only [54, 53, 52, 12, 0, 1, 2, 4] rfl, M⟩ ?_
  clear F M
  rintro m a w ⟨i, ent, hm', hi, hO, F, M⟩
  by_cases hlt : i < links.length
  · obtain ⟨b, o, cs, t, fz, rfl, hb, hs⟩ := hmk (by omega)
    have hxv := hk _ (List.getElem_mem hlt)
    have f1 : seg cs (o + (i : Int).toNat * 2) 2 = some (opC links[i]) := seg_el (ops_len hk) hs hlt (by omega)
    have hmt := costM_step hlt
    obtain ⟨x, hx0⟩ : ∃ x, x = links[i] := ⟨_, rfl⟩
    rw [← hx0] at hxv f1 hmt
    have f2 : (opC x).length = 2 := op_len hxv
    have f3 := op_nb hxv
    have f4 := op_cost hxv
    refine c_seq (c_region ?_)
    refine sD F (o_lssT (F.ev rfl) (F.ev rfl) (by omega) ?_); clear F a; intro a F
    with_reducible refine l_nil (q_then (c_seq ?_))
    refine c_true F rfl rfl ?_
    with_reducible refine c_skip (q_then (c_seq (c_block (c_seq (c_region ?_)))))
    refine sD F (o_indexSl (F.ev rfl) (F.ev rfl) (by omega) (by omega) ?_); clear F a; intro a F
    refine sD F (o_loadWA M (F.ev rfl) (by assumption) (by first | assumption | rfl) ?_); clear F a; intro a F
    (refine sD F (o_alloc M ?_); clear F M; intro b14 w M a F)
    (refine stepN rfl F (o_storeA M (F.ev rfl) (F.ev rfl) (f2) (op_one x)  (by repeat constructor)  (put_all (by rw [f2]; rfl)) (by repeat constructor) ?_); clear F M; intro w M a F)
    with_reducible refine l_nil (q_then (c_region ?_))
    refine sD F (o_move (F.ev rfl) ?_); clear F a; intro a F
    refine sD F (o_fieldAddr (F.ev rfl) ?_); clear F a; intro a F
    refine sD F (o_load1 M (F.ev rfl) (by repeat constructor) (by first | assumption | rfl) ?_); clear F a; intro a F
    refine sD F (o_fieldAddr (F.ev rfl) ?_); clear F a; intro a F
    refine sD F (o_load1 M (F.ev rfl) (by repeat constructor) (by first | assumption | rfl) ?_); clear F a; intro a F
    refine sD F (o_max (F.ev rfl) (F.ev rfl) ?_); clear F a; intro a F
    (refine stepN rfl F (o_mapUpdate (u := .int .i64 (lkC x.cost)) keyE_law M hO (.cons .here) (fun _ _ => trivial) (a := x.nb) trivial (F.ev rfl) (F.ev rfl) (F.ev rfl) ?_); clear F M; intro ent2 w hO2 M a F)
    with_reducible refine l_nil (q_inB (q_then (c_region ?_)))
    refine sD F (o_add (F.ev rfl) (F.ev rfl) (w_i64 (by omega) (by omega)) ?_); clear F a; intro a F
    refine sD F (o_move (F.ev rfl) ?_); clear F a; intro a F
    with_reducible refine l_nil (q_then ?_)
    exact ⟨_, by omega, i + 1, ent2, rfl, by omega, by rw [hmt]; unfold mapI; rw [← putA_map]; exact hO2, F.only [54, 53, 52, 12, 0, 1, 2, 4] rfl, M.sub (List.sublist_cons_self _ _)⟩
  obtain rfl : i = links.length := by omega
  rw [List.take_length] at hO
  clear hmk hspk hcapk
  refine c_seq (c_region ?_)
  refine sD F (o_lssF (F.ev rfl) (F.ev rfl) (by omega) ?_); clear F a; intro a F
  with_reducible refine l_nil (q_then (c_seq ?_))
  refine c_false F rfl rfl ?_
  with_reducible refine c_exit (q_thenX (q_thenX (q_inBX (q_then (c_seq (c_region ?_))))))
  refine sD F (o_assign (F.ev rfl) ?_); clear F a; intro a F
  with_reducible refine l_nil (q_then (c_seq (c_region ?_)))
  refine sD F (o_assign (F.ev rfl) ?_); clear F a; intro a F
  refine sD F (o_assign (F.ev rfl) ?_); clear F a; intro a F
  with_reducible refine l_nil (q_then (c_seq (c_seq (c_region ?_))))
  refine sD F (o_move (F.ev rfl) ?_); clear F a; intro a F
  refine sD F (o_move (F.ev rfl) ?_); clear F a; intro a F
  (refine sD F (o_call (F.ev rfl) (F.evs rfl) (Cal.mono (dests_c l hx old hy (by omega) (by omega) _ _ _ (hSl0.later M.ext) (hSo0.later M.ext) ) ?_)); clear F; clear a; rintro _ w ⟨entD, hD, N⟩ a F; replace M := M.joins N; clear N)
  obtain ⟨qd, capd, rfl⟩ := hD.slice
  obtain ⟨cm, hcm⟩ : ∃ cm, cm = costM links := ⟨_, rfl⟩
  obtain ⟨ds, hds⟩ : ∃ ds, ds = destsV l old := ⟨_, rfl⟩
  have hall : ∀ x ∈ allD l old, IsDv x ∧ validT x = true := by
    intro x h
    unfold allD at h
    rcases List.mem_append.1 h with h | h
    · obtain ⟨r, h1, rfl⟩ := List.mem_map.1 h
      have := hrou r h1
      simp only [rou1, Bool.and_eq_true] at this
      exact ⟨(hx r h1).1, this.1.1.1⟩
    · obtain ⟨r, h1, rfl⟩ := List.mem_map.1 h
      have := hins r h1
      simp only [ins1, Bool.and_eq_true] at this
      exact ⟨(hy r h1).1, this.1⟩
  obtain ⟨hdA, hdm⟩ := foldr_insD fun x h => (hall x h).1
  have hdA' : AscD ds := by rw [hds]; exact hdA
  have hdm' : ∀ x, x ∈ ds ↔ x ∈ allD l old := by rw [hds]; exact hdm
  clear hdA hdm
  have hdi : ∀ x ∈ ds, IsDv x ∧ validT x = true := fun x h => hall x ((hdm' x).1 h)
  have hszd : ∀ x ∈ ds, (dvC x).length = 35 := fun x h => dv_len (hdi x h).1
  have hdl : ds.length ≤ 1024 := by
    have h1 := nodupD_le hdA' (fun x h => (hdm' x).1 h)
    simp only [allD, List.length_append, List.length_map] at h1
    omega
  have hsel : selV now l s links old = ds.filterMap (selE now l s cm old) := by rw [hds, hcm]; rfl
  rw [← hds] at hD F
  rw [← hcm] at hO
  rw [hsel] at hL
  have hoE : ∀ (t : DstV), IsDv t → ∀ e, selE now l s cm old t = some e → IsIn e := fun t ht e h => selE_is ht hy h
  have hwR := weak_R hx hasc
  have hwN := weak_N hascN
  have hov : ∀ t, validOs (optsV now s cm t l) = true := fun t => by rw [hcm]; exact opts_valid hx c1 hk16
  refine sD F (o_lenSl (F.ev rfl) ?_); clear F a; intro a F
  refine sD F (o_move (F.ev rfl) ?_); clear F a; intro a F
  with_reducible refine l_nil (q_then (c_block ?_))
  refine c_loop (fun m a w => ∃ (k r i : Nat) (z : Value) (entR : List (Nat × Obj)), m = ds.length - k ∧ k ≤ ds.length ∧ Yet RouV.to l (ds.drop k) r ∧ Yet InsV.to old (ds.drop k) i ∧ OwnS 50 40 z ((ds.take k).filterMap (selE now l s cm old)).length (insC ((ds.take k).filterMap (selE now l s cm old))) entR ∧ Frm a 190 [] [(69, .int .i64 k), (68, .int .i64 ds.length), (67, .slice qd ds.length capd), (12, .map (some b12)), (15, z), (16, .int .i64 r), (17, .int .i64 i), (0, .int .i64 now), (1, .slice q l.length cap), (2, vs), (4, .slice qo old.length capo)] ∧ Mem [] W w (entR ++ (entD ++ ent))) ds.length ⟨0, 0, 0, .slice none 0 0, [], rfl, by omega, ⟨by omega, fun j hj h => absurd h (by omega), fun j hj _ => (hdm' _).2 (List.mem_append_left _ (List.mem_map_of_mem (List.getElem_mem hj)))⟩, ⟨by omega, fun j hj h => absurd h (by omega), fun j hj _ => (hdm' _).2 (List.mem_append_right _ (List.mem_map_of_mem (List.getElem_mem hj)))⟩, OwnS.nil _ _, F.only [69, 68, 67, 12, 15, 16, 17, 0, 1, 2, 4] rfl, M⟩ ?_
  clear F M
  rintro m a w ⟨k, r, i, z, entR, hm', hkl, hYr, hYi, hR, F, M⟩
  by_cases hlt : k < ds.length
  · rcases hD with ⟨_, h0, _, _⟩ | ⟨bD, cD, junk, hvD, hentD, hxl, hjl, hnc⟩
    · omega
    cases hvD
    subst hentD
    have f1 : seg (dvsC ds ++ junk) (0 + (k : Int).toNat * 35) 35 = some (dvC ds[k]) := own_el hszd junk hlt (by omega)
    have hdk : ds.drop k = ds[k] :: ds.drop (k + 1) := List.drop_eq_getElem_cons hlt
    have htk : (ds.take (k + 1)).filterMap (selE now l s cm old) = (ds.take k).filterMap (selE now l s cm old) ++ (selE now l s cm old ds[k]).toList := by
      rw [List.take_add_one, List.getElem?_eq_getElem hlt, List.filterMap_append]
      cases ho : selE now l s cm old ds[k] <;> simp [List.filterMap_cons, ho]
    obtain ⟨ht, hvt⟩ := hdi _ (List.getElem_mem hlt)
    obtain ⟨t, ht0⟩ : ∃ t, t = ds[k] := ⟨_, rfl⟩
    rw [← ht0] at f1 hdk htk ht hvt
    have hdk2 : AscD (t :: ds.drop (k + 1)) := by rw [← hdk]; exact hdA'.sublist (List.drop_sublist _ _)
    have hdk3 : ∀ x ∈ t :: ds.drop (k + 1), IsDv x := fun x h => (hdi x (List.mem_of_mem_drop (by rw [hdk]; exact h))).1
    rw [hdk] at hYr hYi
    have t1 := dv_len ht
    have t2 := dv_all ht
    have t3 := dv_fits ht
    replace M := M.perm (l' := (bD, .cells (dvsC ds ++ junk).toArray 45 (0, 0)) :: (entR ++ ent)) (by classical exact List.perm_iff_count.2 fun _ => by simp only [List.count_append, List.count_cons, List.count_nil, Nat.add_zero, Nat.zero_add] <;> ac_rfl)
    refine c_seq (c_region ?_)
    refine sD F (o_lssT (F.ev rfl) (F.ev rfl) (by omega) ?_); clear F a; intro a F
    with_reducible refine l_nil (q_then (c_seq ?_))
    refine c_true F rfl rfl ?_
    with_reducible refine c_skip (q_then (c_seq (c_block (c_seq (c_region ?_)))))
    refine sD F (o_indexSl (F.ev rfl) (F.ev rfl) (by omega) (by omega) ?_); clear F a; intro a F
    refine sD F (o_loadA M (F.ev rfl) (by repeat constructor) (by first | assumption | rfl) ?_); clear F a; intro a F
    (refine sD F (o_alloc M ?_); clear F M; intro b19 w M a F)
    (refine stepN rfl F (o_storeA M (F.ev rfl) (F.ev rfl) (t1) (dv_one t)  (by repeat constructor)  (put_all (by rw [t1]; rfl)) (by repeat constructor) ?_); clear F M; intro w M a F)
    with_reducible refine l_nil (q_then (c_seq (c_region ?_)))
    refine sD F (o_assign (F.ev rfl) ?_); clear F a; intro a F
    with_reducible refine l_nil (q_then (c_seq (c_region ?_)))
    (refine sD F (o_makeMap0 M ?_); clear F M; intro bS w M a F)
    refine sD F (o_assign (F.ev rfl) ?_); clear F a; intro a F
    refine l_nil ?_
    refine q_then ?_
    repeat (refine c_seq ?_)
    refine c_cut (fun a w => ∃ (r1 : Nat) (zO : Value) (entO entS : List (Nat × Obj)), Yet RouV.to l (ds.drop (k + 1)) r1 ∧ OwnS 55 2 zO (optsV now s cm t l).length (opsC (optsV now s cm t l)) entO ∧ OwnM (Value.int .u64) (.map (some bS)) (mapQ (saidV now s cm t l)) entS ∧ Frm a 190 [] [(16, .int .i64 r1), (20, zO), (21, .map (some bS)), (19, .pointer (some ⟨b19, 0, none⟩)), (69, .int .i64 k), (68, .int .i64 ds.length), (67, .slice (some ⟨bD, 0, none⟩) ds.length capd), (12, .map (some b12)), (15, z), (17, .int .i64 i), (0, .int .i64 now), (1, .slice q l.length cap), (2, vs), (4, .slice qo old.length capo)] ∧ Mem [] W w (entS ++ (entO ++ ((b19, .cells (dvC t).toArray 45 (0, 0)) :: (bD, .cells (dvsC ds ++ junk).toArray 45 (0, 0)) :: (entR ++ ent))))) ?_ ?_
    · refine c_block ?_
      refine c_loop (fun m a w => ∃ (r' : Nat) (zO : Value) (entO entS : List (Nat × Obj)), m = l.length - r' ∧ r ≤ r' ∧ r' ≤ l.length ∧ (∀ j (hj : j < l.length), r ≤ j → j < r' → l[j].to = t) ∧ OwnS 55 2 zO (optsV now s cm t (l.take r')).length (opsC (optsV now s cm t (l.take r'))) entO ∧ OwnM (Value.int .u64) (.map (some bS)) (mapQ (saidV now s cm t (l.take r'))) entS ∧ Frm a 190 [] [(16, .int .i64 r'), (20, zO), (21, .map (some bS)), (19, .pointer (some ⟨b19, 0, none⟩)), (69, .int .i64 k), (68, .int .i64 ds.length), (67, .slice (some ⟨bD, 0, none⟩) ds.length capd), (12, .map (some b12)), (15, z), (17, .int .i64 i), (0, .int .i64 now), (1, .slice q l.length cap), (2, vs), (4, .slice qo old.length capo)] ∧ Mem [] W w (entS ++ (entO ++ ((b19, .cells (dvC t).toArray 45 (0, 0)) :: (bD, .cells (dvsC ds ++ junk).toArray 45 (0, 0)) :: (entR ++ ent))))) (l.length - r) ⟨r, .slice none 0 0, [], [(bS, _)], rfl, by omega, hYr.le, fun j hj h1 h2 => absurd h2 (by omega), by rw [optsV_nil (hYr.before)]; exact OwnS.nil _ _, by rw [saidV_nil (hYr.before)]; exact ⟨bS, _, rfl, rfl, MapAt.empty _⟩, F.only [16, 20, 21, 19, 69, 68, 67, 12, 15, 17, 0, 1, 2, 4] rfl, M⟩ ?_
      clear F M
      rintro m a w ⟨r', zO, entO, entS, hm2, hr1, hr2, hre, hOO, hOS, F, M⟩
      have hend : (∀ hj : r' < l.length, l[r'].to ≠ t) → Yet RouV.to l (ds.drop (k + 1)) r' ∧ optsV now s cm t l = optsV now s cm t (l.take r') ∧ saidV now s cm t l = saidV now s cm t (l.take r') := fun h => by
        obtain ⟨h1, h2⟩ := Yet.next hwR hdk2 hdk3 hYr hr1 hr2 hre h
        exact ⟨h1, optsV_all h2, saidV_all h2⟩
      by_cases hlt2 : r' < l.length
      · obtain ⟨b, o, cs, t', fz, rfl, hb, hs⟩ := hm (by omega)
        have g1 : seg cs (o + (r' : Int).toNat * 39) 39 = some (roC l[r']) := seg_el (ros_len hx) hs hlt2 (by omega)
        have hxv := hx _ (List.getElem_mem hlt2)
        have hos := fun h => optsV_step (now := now) (s := s) (cm := cm) (t := t) hlt2 h
        have hss := fun h => saidV_step (now := now) (s := s) (cm := cm) (t := t) hlt2 h
        obtain ⟨x, hx0⟩ : ∃ x, x = l[r'] := ⟨_, rfl⟩
        rw [← hx0] at g1 hxv hos hss
        have g2 : seg cs (o + (r' : Int).toNat * 39) 35 = some (dvC x.to) := sg_seg g1 (ro_to hxv) (by omega)
        have g3 : nth cs (o + (r' : Int).toNat * 39 + 35) = some (.int .u64 x.nb) := sg_nth g1 (ro_nb hxv) (by omega)
        have g4 : seg cs (o + (r' : Int).toNat * 39 + 36) 2 = some (diC x.said) := sg_seg g1 (ro_said hxv) (by omega)
        have g5 : nth cs (o + (r' : Int).toNat * 39 + 37) = some (.int .i64 x.said.met) := sg_nth g1 (ro_said_met hxv) (by omega)
        have g6 : nth cs (o + (r' : Int).toNat * 39 + 38) = some (.int .i64 x.til) := sg_nth g1 (ro_til hxv) (by omega)
        have g7 := dv_fits hxv.1
        have g8 := dv_eq hxv.1 ht
        replace M := M.perm (l' := (b19, .cells (dvC t).toArray 45 (0, 0)) :: (entS ++ (entO ++ ((bD, .cells (dvsC ds ++ junk).toArray 45 (0, 0)) :: (entR ++ ent))))) (by classical exact List.perm_iff_count.2 fun _ => by simp only [List.count_append, List.count_cons, List.count_nil, Nat.add_zero, Nat.zero_add] <;> ac_rfl)
        with_reducible refine c_seq (c_seq ?_)
        by_cases he : x.to = t
        · rw [decide_eq_true he] at g8
          refine c_draw 13 F (by kernel_rfl) ?_
          intro w1 hE hok
          have M1 := M.later hE
          refine mK hok rfl rfl (fun a' w' F' E' => o_move (F'.ev rfl) ⟨Ext.refl _ _, rfl⟩) ?_
          refine mK hok rfl rfl (fun a' w' F' E' => o_move (F'.ev rfl) ⟨Ext.refl _ _, rfl⟩) ?_
          refine mK hok rfl rfl (fun a' w' F' E' => o_lenSl (F'.ev rfl) ⟨Ext.refl _ _, rfl⟩) ?_
          refine mK hok rfl rfl (fun a' w' F' E' => o_lssT (F'.ev rfl) (F'.ev rfl) (by omega) ⟨Ext.refl _ _, rfl⟩) ?_
          refine mK hok rfl rfl (fun a' w' F' E' => o_move (F'.ev rfl) ⟨Ext.refl _ _, rfl⟩) ?_
          refine mKG hok rfl rfl rfl rfl (fun a' w' F' E' => o_move (F'.ev rfl) ⟨Ext.refl _ _, rfl⟩) ?_
          refine mKG hok rfl rfl rfl rfl (fun a' w' F' E' => o_move (F'.ev rfl) ⟨Ext.refl _ _, rfl⟩) ?_
          refine mKG hok rfl rfl rfl rfl (fun a' w' F' E' => o_indexSl (F'.ev rfl) (F'.ev rfl) (by omega) (by omega) ⟨Ext.refl _ _, rfl⟩) ?_
          refine mKG hok rfl rfl rfl rfl (fun a' w' F' E' => o_fieldAddr (F'.ev rfl) ⟨Ext.refl _ _, rfl⟩) ?_
          refine mKG hok rfl rfl rfl rfl (fun a' w' F' E' => o_loadWA (M1.later E') (F'.ev rfl) (by assumption) (by first | assumption | rfl) ⟨Ext.refl _ _, rfl⟩) ?_
          refine mKG hok rfl rfl rfl rfl (fun a' w' F' E' => o_loadA (M1.later E') (F'.ev rfl) (by repeat constructor) (by first | assumption | rfl) ⟨Ext.refl _ _, rfl⟩) ?_
          refine mKG hok rfl rfl rfl rfl (fun a' w' F' E' => o_eqlAT (F'.ev rfl) (F'.ev rfl) (by first | assumption | rfl) (by first | assumption | rfl) (by assumption) ⟨Ext.refl _ _, rfl⟩) ?_
          refine mK hok rfl rfl (fun a' w' F' E' => o_pickT (F'.ev rfl) (F'.ev rfl) ⟨Ext.refl _ _, rfl⟩) ?_
          (refine mDone rfl rfl ?_; clear F M; intro a w F hE2 hX hTT hDD hPP; have M := M1.later hE2; clear M1; clear hX; clear hE2; clear hok; clear hE; clear hTT; clear hDD; clear hPP; (try dsimp only at F))
          refine l_nil ?_
          dsimp only
          refine q_then ?_
          repeat (refine c_seq ?_)
          refine c_true F rfl rfl ?_
          refine c_skip ?_
          refine q_then ?_
          repeat (refine c_seq ?_)
          replace F := F.only [16, 20, 21, 19, 69, 68, 67, 12, 15, 17, 0, 1, 2, 4] rfl
          refine c_cut (fun a w => ∃ (zO2 : Value) (entO2 entS2 : List (Nat × Obj)), OwnS 55 2 zO2 (optsV now s cm t (l.take (r' + 1))).length (opsC (optsV now s cm t (l.take (r' + 1)))) entO2 ∧ OwnM (Value.int .u64) (.map (some bS)) (mapQ (saidV now s cm t (l.take (r' + 1)))) entS2 ∧ Frm a 190 [] [(16, .int .i64 r'), (20, zO2), (21, .map (some bS)), (19, .pointer (some ⟨b19, 0, none⟩)), (69, .int .i64 k), (68, .int .i64 ds.length), (67, .slice (some ⟨bD, 0, none⟩) ds.length capd), (12, .map (some b12)), (15, z), (17, .int .i64 i), (0, .int .i64 now), (1, .slice (some ⟨b, o, none⟩) l.length cap), (2, vs), (4, .slice qo old.length capo)] ∧ Mem [] W w (entS2 ++ (entO2 ++ ((b19, .cells (dvC t).toArray 45 (0, 0)) :: (bD, .cells (dvsC ds ++ junk).toArray 45 (0, 0)) :: (entR ++ ent))))) ?_ ?_
          · rw [hos he, hss he]
            clear hos hss hend hL
            with_reducible refine c_block (c_seq (c_region ?_))
            refine sD F (o_move (F.ev rfl) ?_); clear F a; intro a F
            refine sD F (o_move (F.ev rfl) ?_); clear F a; intro a F
            refine sD F (o_move (F.ev rfl) ?_); clear F a; intro a F
            refine sD F (o_indexSl (F.ev rfl) (F.ev rfl) (by omega) (by omega) ?_); clear F a; intro a F
            refine sD F (o_fieldAddr (F.ev rfl) ?_); clear F a; intro a F
            refine sD F (o_loadW1 M (F.ev rfl) (by assumption) (by first | assumption | rfl) ?_); clear F a; intro a F
            (refine sD F (o_lookup2 keyE_law zero_iR (hO.at_ (fun p hp => M.at_ p (by simp [hp]))) (fun _ _ => trivial) (a := x.nb) trivial (F.ev rfl) (F.ev rfl) ?_); clear F a; intro a F)
            rw [getA_mapI] at F
            cases hc : getA x.nb cm with
            | none =>
              rw [hc] at F
              have hv0 : optV now s cm t x = none := by unfold optV; rw [hc]
              rw [hv0]
              refine sD F (o_move (F.ev rfl) ?_); clear F a; intro a F
              refine sD F (o_extract (F.ev rfl) rfl ?_); clear F a; intro a F
              refine sD F (o_extract (F.ev rfl) rfl ?_); clear F a; intro a F
              refine sD F (o_assign (F.ev rfl) ?_); clear F a; intro a F
              refine sD F (o_assign (F.ev rfl) ?_); clear F a; intro a F
              with_reducible refine l_nil (q_then (c_seq (c_seq ?_)))
              replace F := F.only [16, 20, 21, 19, 69, 68, 67, 12, 15, 17, 0, 1, 2, 4, 22, 23] rfl
              refine c_draw 23 F (by kernel_rfl) ?_
              intro w1 hE hok
              have M1 := M.later hE
              refine mK hok rfl rfl (fun a' w' F' E' => o_move (F'.ev rfl) ⟨Ext.refl _ _, rfl⟩) ?_
              refine mK hok rfl rfl (fun a' w' F' E' => o_not (F'.ev rfl) ⟨Ext.refl _ _, rfl⟩) ?_
              refine mK hok rfl rfl (fun a' w' F' E' => o_move (F'.ev rfl) ⟨Ext.refl _ _, rfl⟩) ?_
              refine mOff hok rfl rfl rfl rfl rfl ?_
              refine mOff hok rfl rfl rfl rfl rfl ?_
              refine mOff hok rfl rfl rfl rfl rfl ?_
              refine mOff hok rfl rfl rfl rfl rfl ?_
              refine mOff hok rfl rfl rfl rfl rfl ?_
              refine mOff hok rfl rfl rfl rfl rfl ?_
              refine mOff hok rfl rfl rfl rfl rfl ?_
              refine mK hok rfl rfl (fun a' w' F' E' => o_pickT (F'.ev rfl) (F'.ev rfl) ⟨Ext.refl _ _, rfl⟩) ?_
              refine mK hok rfl rfl (fun a' w' F' E' => o_move (F'.ev rfl) ⟨Ext.refl _ _, rfl⟩) ?_
              refine mOff hok rfl rfl rfl rfl rfl ?_
              refine mOff hok rfl rfl rfl rfl rfl ?_
              refine mOff hok rfl rfl rfl rfl rfl ?_
              refine mOff hok rfl rfl rfl rfl rfl ?_
              refine mOff hok rfl rfl rfl rfl rfl ?_
              refine mOff hok rfl rfl rfl rfl rfl ?_
              refine mOff hok rfl rfl rfl rfl rfl ?_
              refine mOff hok rfl rfl rfl rfl rfl ?_
              refine mOff hok rfl rfl rfl rfl rfl ?_
              refine mOff hok rfl rfl rfl rfl rfl ?_
              refine mK hok rfl rfl (fun a' w' F' E' => o_pickT (F'.ev rfl) (F'.ev rfl) ⟨Ext.refl _ _, rfl⟩) ?_
              (refine mDone rfl rfl ?_; clear F M; intro a w F hE2 hX hTT hDD hPP; have M := M1.later hE2; clear M1; clear hX; clear hE2; clear hok; clear hE; clear hTT; clear hDD; clear hPP; (try dsimp only at F))
              with_reducible refine l_nil (q_then ?_)
              refine c_true F rfl rfl ?_
              with_reducible refine c_exit (q_thenX (q_inBX ?_))
              exact ⟨zO, entO, entS, by simpa using hOO, by simpa using hOS, F.only [16, 20, 21, 19, 69, 68, 67, 12, 15, 17, 0, 1, 2, 4] rfl, M.perm (by classical exact List.perm_iff_count.2 fun _ => by simp only [List.count_append, List.count_cons, List.count_nil, Nat.add_zero, Nat.zero_add] <;> ac_rfl)⟩
            | some c =>
              rw [hc] at F
              refine sD F (o_move (F.ev rfl) ?_); clear F a; intro a F
              refine sD F (o_extract (F.ev rfl) rfl ?_); clear F a; intro a F
              refine sD F (o_extract (F.ev rfl) rfl ?_); clear F a; intro a F
              refine sD F (o_assign (F.ev rfl) ?_); clear F a; intro a F
              refine sD F (o_assign (F.ev rfl) ?_); clear F a; intro a F
              with_reducible refine l_nil (q_then (c_seq (c_seq ?_)))
              replace F := F.only [16, 20, 21, 19, 69, 68, 67, 12, 15, 17, 0, 1, 2, 4, 22, 23] rfl
              by_cases c6 : x.til ≤ now
              · have hv0 : optV now s cm t x = none := by unfold optV; rw [hc]; dsimp only; rw [decide_eq_true c6]; rfl
                rw [hv0]
                refine c_draw 23 F (by kernel_rfl) ?_
                intro w1 hE hok
                have M1 := M.later hE
                refine mK hok rfl rfl (fun a' w' F' E' => o_move (F'.ev rfl) ⟨Ext.refl _ _, rfl⟩) ?_
                refine mK hok rfl rfl (fun a' w' F' E' => o_not (F'.ev rfl) ⟨Ext.refl _ _, rfl⟩) ?_
                refine mK hok rfl rfl (fun a' w' F' E' => o_move (F'.ev rfl) ⟨Ext.refl _ _, rfl⟩) ?_
                refine mKG hok rfl rfl rfl rfl (fun a' w' F' E' => o_move (F'.ev rfl) ⟨Ext.refl _ _, rfl⟩) ?_
                refine mKG hok rfl rfl rfl rfl (fun a' w' F' E' => o_move (F'.ev rfl) ⟨Ext.refl _ _, rfl⟩) ?_
                refine mKG hok rfl rfl rfl rfl (fun a' w' F' E' => o_indexSl (F'.ev rfl) (F'.ev rfl) (by omega) (by omega) ⟨Ext.refl _ _, rfl⟩) ?_
                refine mKG hok rfl rfl rfl rfl (fun a' w' F' E' => o_fieldAddr (F'.ev rfl) ⟨Ext.refl _ _, rfl⟩) ?_
                refine mKG hok rfl rfl rfl rfl (fun a' w' F' E' => o_loadW1 (M1.later E') (F'.ev rfl) (by assumption) (by first | assumption | rfl) ⟨Ext.refl _ _, rfl⟩) ?_
                refine mKG hok rfl rfl rfl rfl (fun a' w' F' E' => o_move (F'.ev rfl) ⟨Ext.refl _ _, rfl⟩) ?_
                refine mKG hok rfl rfl rfl rfl (fun a' w' F' E' => o_leqT (F'.ev rfl) (F'.ev rfl) (by omega) ⟨Ext.refl _ _, rfl⟩) ?_
                refine mK hok rfl rfl (fun a' w' F' E' => o_pickF (F'.ev rfl) (F'.ev rfl) ⟨Ext.refl _ _, rfl⟩) ?_
                refine mK hok rfl rfl (fun a' w' F' E' => o_move (F'.ev rfl) ⟨Ext.refl _ _, rfl⟩) ?_
                refine mOff hok rfl rfl rfl rfl rfl ?_
                refine mOff hok rfl rfl rfl rfl rfl ?_
                refine mOff hok rfl rfl rfl rfl rfl ?_
                refine mOff hok rfl rfl rfl rfl rfl ?_
                refine mOff hok rfl rfl rfl rfl rfl ?_
                refine mOff hok rfl rfl rfl rfl rfl ?_
                refine mOff hok rfl rfl rfl rfl rfl ?_
                refine mOff hok rfl rfl rfl rfl rfl ?_
                refine mOff hok rfl rfl rfl rfl rfl ?_
                refine mOff hok rfl rfl rfl rfl rfl ?_
                refine mK hok rfl rfl (fun a' w' F' E' => o_pickT (F'.ev rfl) (F'.ev rfl) ⟨Ext.refl _ _, rfl⟩) ?_
                (refine mDone rfl rfl ?_; clear F M; intro a w F hE2 hX hTT hDD hPP; have M := M1.later hE2; clear M1; clear hX; clear hE2; clear hok; clear hE; clear hTT; clear hDD; clear hPP; (try dsimp only at F))
                with_reducible refine l_nil (q_then ?_)
                refine c_true F rfl rfl ?_
                with_reducible refine c_exit (q_thenX (q_inBX ?_))
                exact ⟨zO, entO, entS, by simpa using hOO, by simpa using hOS, F.only [16, 20, 21, 19, 69, 68, 67, 12, 15, 17, 0, 1, 2, 4] rfl, M.perm (by classical exact List.perm_iff_count.2 fun _ => by simp only [List.count_append, List.count_cons, List.count_nil, Nat.add_zero, Nat.zero_add] <;> ac_rfl)⟩
              have hfe := scfeas_c s hs' c2 vs now c5 t ht hvt x.said
              cases c7 : feasV s now t x.said
              · have hv0 : optV now s cm t x = none := by unfold optV; rw [hc]; dsimp only; rw [decide_eq_false c6, c7]; rfl
                rw [hv0]
                rw [c7] at hfe
                refine c_draw 23 F (by kernel_rfl) ?_
                intro w1 hE hok
                have M1 := M.later hE
                refine mK hok rfl rfl (fun a' w' F' E' => o_move (F'.ev rfl) ⟨Ext.refl _ _, rfl⟩) ?_
                refine mK hok rfl rfl (fun a' w' F' E' => o_not (F'.ev rfl) ⟨Ext.refl _ _, rfl⟩) ?_
                refine mK hok rfl rfl (fun a' w' F' E' => o_move (F'.ev rfl) ⟨Ext.refl _ _, rfl⟩) ?_
                refine mKG hok rfl rfl rfl rfl (fun a' w' F' E' => o_move (F'.ev rfl) ⟨Ext.refl _ _, rfl⟩) ?_
                refine mKG hok rfl rfl rfl rfl (fun a' w' F' E' => o_move (F'.ev rfl) ⟨Ext.refl _ _, rfl⟩) ?_
                refine mKG hok rfl rfl rfl rfl (fun a' w' F' E' => o_indexSl (F'.ev rfl) (F'.ev rfl) (by omega) (by omega) ⟨Ext.refl _ _, rfl⟩) ?_
                refine mKG hok rfl rfl rfl rfl (fun a' w' F' E' => o_fieldAddr (F'.ev rfl) ⟨Ext.refl _ _, rfl⟩) ?_
                refine mKG hok rfl rfl rfl rfl (fun a' w' F' E' => o_loadW1 (M1.later E') (F'.ev rfl) (by assumption) (by first | assumption | rfl) ⟨Ext.refl _ _, rfl⟩) ?_
                refine mKG hok rfl rfl rfl rfl (fun a' w' F' E' => o_move (F'.ev rfl) ⟨Ext.refl _ _, rfl⟩) ?_
                refine mKG hok rfl rfl rfl rfl (fun a' w' F' E' => o_leqF (F'.ev rfl) (F'.ev rfl) (by omega) ⟨Ext.refl _ _, rfl⟩) ?_
                refine mK hok rfl rfl (fun a' w' F' E' => o_pickF (F'.ev rfl) (F'.ev rfl) ⟨Ext.refl _ _, rfl⟩) ?_
                refine mK hok rfl rfl (fun a' w' F' E' => o_move (F'.ev rfl) ⟨Ext.refl _ _, rfl⟩) ?_
                refine mKG hok rfl rfl rfl rfl (fun a' w' F' E' => o_move (F'.ev rfl) ⟨Ext.refl _ _, rfl⟩) ?_
                refine mKG hok rfl rfl rfl rfl (fun a' w' F' E' => o_move (F'.ev rfl) ⟨Ext.refl _ _, rfl⟩) ?_
                refine mKG hok rfl rfl rfl rfl (fun a' w' F' E' => o_loadA (M1.later E') (F'.ev rfl) (by repeat constructor) (by first | assumption | rfl) ⟨Ext.refl _ _, rfl⟩) ?_
                refine mKG hok rfl rfl rfl rfl (fun a' w' F' E' => o_move (F'.ev rfl) ⟨Ext.refl _ _, rfl⟩) ?_
                refine mKG hok rfl rfl rfl rfl (fun a' w' F' E' => o_move (F'.ev rfl) ⟨Ext.refl _ _, rfl⟩) ?_
                refine mKG hok rfl rfl rfl rfl (fun a' w' F' E' => o_indexSl (F'.ev rfl) (F'.ev rfl) (by omega) (by omega) ⟨Ext.refl _ _, rfl⟩) ?_
                refine mKG hok rfl rfl rfl rfl (fun a' w' F' E' => o_fieldAddr (F'.ev rfl) ⟨Ext.refl _ _, rfl⟩) ?_
                refine mKG hok rfl rfl rfl rfl (fun a' w' F' E' => o_loadWA (M1.later E') (F'.ev rfl) (by assumption) (by first | assumption | rfl) ⟨Ext.refl _ _, rfl⟩) ?_
                (refine mKG hok rfl rfl rfl rfl (fun a' w' F' E' => o_call (F'.ev rfl) (F'.evs rfl) (Cal.mono (hfe _ (hSs.later (M1.later E').ext)) fun _ _ hh => ⟨hh.2, hh.1⟩)) ?_)
                refine mKG hok rfl rfl rfl rfl (fun a' w' F' E' => o_not (F'.ev rfl) ⟨Ext.refl _ _, rfl⟩) ?_
                refine mK hok rfl rfl (fun a' w' F' E' => o_pickF (F'.ev rfl) (F'.ev rfl) ⟨Ext.refl _ _, rfl⟩) ?_
                (refine mDone rfl rfl ?_; clear F M; intro a w F hE2 hX hTT hDD hPP; have M := M1.later hE2; clear M1; clear hX; clear hE2; clear hok; clear hE; clear hTT; clear hDD; clear hPP; (try dsimp only at F))
                with_reducible refine l_nil (q_then ?_)
                refine c_true F rfl rfl ?_
                with_reducible refine c_exit (q_thenX (q_inBX ?_))
                exact ⟨zO, entO, entS, by simpa using hOO, by simpa using hOS, F.only [16, 20, 21, 19, 69, 68, 67, 12, 15, 17, 0, 1, 2, 4] rfl, M.perm (by classical exact List.perm_iff_count.2 fun _ => by simp only [List.count_append, List.count_cons, List.count_nil, Nat.add_zero, Nat.zero_add] <;> ac_rfl)⟩
              have hv0 : optV now s cm t x = some ⟨x.nb, addM x.said.met c⟩ := by unfold optV; rw [hc]; dsimp only; rw [decide_eq_false c6, c7]; rfl
              rw [hv0]
              rw [c7] at hfe
              refine c_draw 23 F (by kernel_rfl) ?_
              intro w1 hE hok
              have M1 := M.later hE
              refine mK hok rfl rfl (fun a' w' F' E' => o_move (F'.ev rfl) ⟨Ext.refl _ _, rfl⟩) ?_
              refine mK hok rfl rfl (fun a' w' F' E' => o_not (F'.ev rfl) ⟨Ext.refl _ _, rfl⟩) ?_
              refine mK hok rfl rfl (fun a' w' F' E' => o_move (F'.ev rfl) ⟨Ext.refl _ _, rfl⟩) ?_
              refine mKG hok rfl rfl rfl rfl (fun a' w' F' E' => o_move (F'.ev rfl) ⟨Ext.refl _ _, rfl⟩) ?_
              refine mKG hok rfl rfl rfl rfl (fun a' w' F' E' => o_move (F'.ev rfl) ⟨Ext.refl _ _, rfl⟩) ?_
              refine mKG hok rfl rfl rfl rfl (fun a' w' F' E' => o_indexSl (F'.ev rfl) (F'.ev rfl) (by omega) (by omega) ⟨Ext.refl _ _, rfl⟩) ?_
              refine mKG hok rfl rfl rfl rfl (fun a' w' F' E' => o_fieldAddr (F'.ev rfl) ⟨Ext.refl _ _, rfl⟩) ?_
              refine mKG hok rfl rfl rfl rfl (fun a' w' F' E' => o_loadW1 (M1.later E') (F'.ev rfl) (by assumption) (by first | assumption | rfl) ⟨Ext.refl _ _, rfl⟩) ?_
              refine mKG hok rfl rfl rfl rfl (fun a' w' F' E' => o_move (F'.ev rfl) ⟨Ext.refl _ _, rfl⟩) ?_
              refine mKG hok rfl rfl rfl rfl (fun a' w' F' E' => o_leqF (F'.ev rfl) (F'.ev rfl) (by omega) ⟨Ext.refl _ _, rfl⟩) ?_
              refine mK hok rfl rfl (fun a' w' F' E' => o_pickF (F'.ev rfl) (F'.ev rfl) ⟨Ext.refl _ _, rfl⟩) ?_
              refine mK hok rfl rfl (fun a' w' F' E' => o_move (F'.ev rfl) ⟨Ext.refl _ _, rfl⟩) ?_
              refine mKG hok rfl rfl rfl rfl (fun a' w' F' E' => o_move (F'.ev rfl) ⟨Ext.refl _ _, rfl⟩) ?_
              refine mKG hok rfl rfl rfl rfl (fun a' w' F' E' => o_move (F'.ev rfl) ⟨Ext.refl _ _, rfl⟩) ?_
              refine mKG hok rfl rfl rfl rfl (fun a' w' F' E' => o_loadA (M1.later E') (F'.ev rfl) (by repeat constructor) (by first | assumption | rfl) ⟨Ext.refl _ _, rfl⟩) ?_
              refine mKG hok rfl rfl rfl rfl (fun a' w' F' E' => o_move (F'.ev rfl) ⟨Ext.refl _ _, rfl⟩) ?_
              refine mKG hok rfl rfl rfl rfl (fun a' w' F' E' => o_move (F'.ev rfl) ⟨Ext.refl _ _, rfl⟩) ?_
              refine mKG hok rfl rfl rfl rfl (fun a' w' F' E' => o_indexSl (F'.ev rfl) (F'.ev rfl) (by omega) (by omega) ⟨Ext.refl _ _, rfl⟩) ?_
              refine mKG hok rfl rfl rfl rfl (fun a' w' F' E' => o_fieldAddr (F'.ev rfl) ⟨Ext.refl _ _, rfl⟩) ?_
              refine mKG hok rfl rfl rfl rfl (fun a' w' F' E' => o_loadWA (M1.later E') (F'.ev rfl) (by assumption) (by first | assumption | rfl) ⟨Ext.refl _ _, rfl⟩) ?_
              (refine mKG hok rfl rfl rfl rfl (fun a' w' F' E' => o_call (F'.ev rfl) (F'.evs rfl) (Cal.mono (hfe _ (hSs.later (M1.later E').ext)) fun _ _ hh => ⟨hh.2, hh.1⟩)) ?_)
              refine mKG hok rfl rfl rfl rfl (fun a' w' F' E' => o_not (F'.ev rfl) ⟨Ext.refl _ _, rfl⟩) ?_
              refine mK hok rfl rfl (fun a' w' F' E' => o_pickF (F'.ev rfl) (F'.ev rfl) ⟨Ext.refl _ _, rfl⟩) ?_
              (refine mDone rfl rfl ?_; clear F M; intro a w F hE2 hX hTT hDD hPP; have M := M1.later hE2; clear M1; clear hX; clear hE2; clear hok; clear hE; clear hTT; clear hDD; clear hPP; (try dsimp only at F))
              with_reducible refine l_nil (q_then ?_)
              refine c_false F rfl rfl ?_
              with_reducible refine c_skip (q_then (c_seq ?_))
              clear hov hoE hYi hdk2 hdk3 htk hfe hre
              have hol : (optsV now s cm t (l.take r')).length ≤ 512 := opts_len (by rw [List.length_take]; omega)
              replace F := F.only [16, 20, 21, 19, 69, 68, 67, 12, 15, 17, 0, 1, 2, 4, 22] rfl
              replace M := M.perm (l' := (b19, .cells (dvC t).toArray 45 (0, 0)) :: (bD, .cells (dvsC ds ++ junk).toArray 45 (0, 0)) :: (entO ++ (entR ++ (ent ++ entS)))) (by classical exact List.perm_iff_count.2 fun _ => by simp only [List.count_append, List.count_cons, List.count_nil, Nat.add_zero, Nat.zero_add] <;> ac_rfl)
              refine c_draw 11 F (by kernel_rfl) ?_
              intro w1 hE hok
              have M1 := M.later hE
              refine mK hok rfl rfl (fun a' w' F' E' => o_move (F'.ev rfl) ⟨Ext.refl _ _, rfl⟩) ?_
              refine mK hok rfl rfl (fun a' w' F' E' => o_move (F'.ev rfl) ⟨Ext.refl _ _, rfl⟩) ?_
              refine mK hok rfl rfl (fun a' w' F' E' => o_move (F'.ev rfl) ⟨Ext.refl _ _, rfl⟩) ?_
              refine mK hok rfl rfl (fun a' w' F' E' => o_indexSl (F'.ev rfl) (F'.ev rfl) (by omega) (by omega) ⟨Ext.refl _ _, rfl⟩) ?_
              refine mK hok rfl rfl (fun a' w' F' E' => o_fieldAddr (F'.ev rfl) ⟨Ext.refl _ _, rfl⟩) ?_
              refine mK hok rfl rfl (fun a' w' F' E' => o_loadW1 (M1.later E') (F'.ev rfl) (by assumption) (by first | assumption | rfl) ⟨Ext.refl _ _, rfl⟩) ?_
              refine mK hok rfl rfl (fun a' w' F' E' => o_move (F'.ev rfl) ⟨Ext.refl _ _, rfl⟩) ?_
              refine mK hok rfl rfl (fun a' w' F' E' => o_move (F'.ev rfl) ⟨Ext.refl _ _, rfl⟩) ?_
              refine mK hok rfl rfl (fun a' w' F' E' => o_indexSl (F'.ev rfl) (F'.ev rfl) (by omega) (by omega) ⟨Ext.refl _ _, rfl⟩) ?_
              refine mK hok rfl rfl (fun a' w' F' E' => o_fieldAddr (F'.ev rfl) ⟨Ext.refl _ _, rfl⟩) ?_
              refine mK hok rfl rfl (fun a' w' F' E' => o_loadWA (M1.later E') (F'.ev rfl) (by assumption) (by first | assumption | rfl) ⟨Ext.refl _ _, rfl⟩) ?_
              (refine mDone rfl rfl ?_; clear F M; intro a w F hE2 hX hTT hDD hPP; have M := M1.later hE2; clear M1; clear hX; clear hE2; clear hok; clear hE; clear hTT; clear hDD; clear hPP; (try dsimp only at F))
              (refine stepN rfl F (o_mapUpdate (u := diV x.said) keyE_law M hOS (.cons (.cons (.app (.app (.app .here))))) (fun _ _ => trivial) (a := x.nb) trivial (F.ev rfl) (F.ev rfl) (F.ev rfl) ?_); clear F M; intro entS2 w hOS2 M a F)
              replace M := M.perm (l' := (b19, .cells (dvC t).toArray 45 (0, 0)) :: (bD, .cells (dvsC ds ++ junk).toArray 45 (0, 0)) :: (entS2 ++ (entR ++ (ent ++ entO)))) (by classical exact List.perm_iff_count.2 fun _ => by simp only [List.count_append, List.count_cons, List.count_nil, Nat.add_zero, Nat.zero_add] <;> ac_rfl)
              with_reducible refine l_nil (q_then ?_)
              replace F := F.only [16, 20, 21, 19, 69, 68, 67, 12, 15, 17, 0, 1, 2, 4, 22] rfl
              refine c_draw 16 F (by kernel_rfl) ?_
              intro w1 hE hok
              have M1 := M.later hE
              refine mK hok rfl rfl (fun a' w' F' E' => o_move (F'.ev rfl) ⟨Ext.refl _ _, rfl⟩) ?_
              refine mK hok rfl rfl (fun a' w' F' E' => o_move (F'.ev rfl) ⟨Ext.refl _ _, rfl⟩) ?_
              refine mK hok rfl rfl (fun a' w' F' E' => o_move (F'.ev rfl) ⟨Ext.refl _ _, rfl⟩) ?_
              refine mK hok rfl rfl (fun a' w' F' E' => o_indexSl (F'.ev rfl) (F'.ev rfl) (by omega) (by omega) ⟨Ext.refl _ _, rfl⟩) ?_
              refine mK hok rfl rfl (fun a' w' F' E' => o_fieldAddr (F'.ev rfl) ⟨Ext.refl _ _, rfl⟩) ?_
              refine mK hok rfl rfl (fun a' w' F' E' => o_loadW1 (M1.later E') (F'.ev rfl) (by assumption) (by first | assumption | rfl) ⟨Ext.refl _ _, rfl⟩) ?_
              refine mK hok rfl rfl (fun a' w' F' E' => o_move (F'.ev rfl) ⟨Ext.refl _ _, rfl⟩) ?_
              refine mK hok rfl rfl (fun a' w' F' E' => o_move (F'.ev rfl) ⟨Ext.refl _ _, rfl⟩) ?_
              refine mK hok rfl rfl (fun a' w' F' E' => o_indexSl (F'.ev rfl) (F'.ev rfl) (by omega) (by omega) ⟨Ext.refl _ _, rfl⟩) ?_
              refine mK hok rfl rfl (fun a' w' F' E' => o_fieldAddr (F'.ev rfl) ⟨Ext.refl _ _, rfl⟩) ?_
              refine mK hok rfl rfl (fun a' w' F' E' => o_fieldAddr (F'.ev rfl) ⟨Ext.refl _ _, rfl⟩) ?_
              refine mK hok rfl rfl (fun a' w' F' E' => o_loadW1 (M1.later E') (F'.ev rfl) (by assumption) (by first | assumption | rfl) ⟨Ext.refl _ _, rfl⟩) ?_
              refine mK hok rfl rfl (fun a' w' F' E' => o_move (F'.ev rfl) ⟨Ext.refl _ _, rfl⟩) ?_
              (refine mK hok rfl rfl (fun a' w' F' E' => o_call (F'.ev rfl) (F'.evs rfl) (Cal.mono (addM_c x.said.met c _) fun _ _ hh => ⟨hh.2, hh.1⟩)) ?_)
              refine mK hok rfl rfl (fun a' w' F' E' => o_build F' rfl rfl ⟨Ext.refl _ _, rfl⟩) ?_
              refine mX (V := NewP w1.heap.size (PhO ⟨x.nb, addM x.said.met c⟩)) hok rfl rfl (NewP.stays _ _) (fun a' w' F' E' D' => bsO ⟨x.nb, addM x.said.met c⟩ F' E' rfl) ?_
              (refine mDone rfl rfl ?_; clear F M; intro a w F hE2 hX hTT hDD hPP; have M := M1.later hE2; (try dsimp only at F); obtain ⟨new, hΦ, hN⟩ := hX 15 _ rfl; replace M := M.joinNew M1 hN; obtain ⟨b148, hr, rfl⟩ := hΦ; replace F := F.know (d := 148) hr; clear hr; clear hN; clear M1; clear hX; clear hE2; clear hok; clear hE; clear hTT; clear hDD; clear hPP)
              replace M := M.perm (l' := (b148, opO ⟨x.nb, addM x.said.met c⟩) :: (b19, .cells (dvC t).toArray 45 (0, 0)) :: (bD, .cells (dvsC ds ++ junk).toArray 45 (0, 0)) :: (entS2 ++ (entR ++ (ent ++ entO)))) (by classical exact List.perm_iff_count.2 fun _ => by simp only [List.count_append, List.count_cons, List.count_nil, Nat.add_zero, Nat.zero_add] <;> ac_rfl)
              (refine sD F (o_append hOO M (.cons (.cons (.cons (.app (.app (.app .here)))))) (F.ev rfl) (F.ev rfl) (SrcOf.cells' (M.heap .here) (sg_all (op_len (o := ⟨x.nb, addM x.said.met c⟩) trivial)) (op_one _)) (by omega) (by omega) ?_); clear F M; intro zO2 entO2 w hOO2 M a F)
              refine sD F (o_assign (F.ev rfl) ?_); clear F a; intro a F
              with_reducible refine l_nil (q_inB ?_)
              refine ⟨zO2, entO2, entS2, ?_, ?_, F.only [16, 20, 21, 19, 69, 68, 67, 12, 15, 17, 0, 1, 2, 4] rfl, (M.perm (l' := (entS2 ++ (entO2 ++ ((b19, .cells (dvC t).toArray 45 (0, 0)) :: (bD, .cells (dvsC ds ++ junk).toArray 45 (0, 0)) :: (entR ++ ent)))) ++ [(b148, opO ⟨x.nb, addM x.said.met c⟩)]) (by classical exact List.perm_iff_count.2 fun _ => by simp only [List.count_append, List.count_cons, List.count_nil, Nat.add_zero, Nat.zero_add] <;> ac_rfl)).sub (List.sublist_append_left _ _)⟩
              · rw [show (some (⟨x.nb, addM x.said.met c⟩ : OptV)).toList = [⟨x.nb, addM x.said.met c⟩] from rfl, List.length_append]
                show OwnS _ 2 _ _ (encL opC _) _
                rw [encL_app, encL_one]
                exact hOO2
              · rw [if_pos (show (some (⟨x.nb, addM x.said.met c⟩ : OptV)).isSome = true from rfl)]
                unfold mapQ
                rw [← putA_map]
                exact hOS2
          · clear F M
            rintro a w ⟨zO2, entO2, entS2, hOO2, hOS2, F, M⟩
            with_reducible refine q_then (c_region ?_)
            refine sD F (o_move (F.ev rfl) ?_); clear F a; intro a F
            refine sD F (o_add (F.ev rfl) (F.ev rfl) (w_i64 (by omega) (by omega)) ?_); clear F a; intro a F
            refine sD F (o_assign (F.ev rfl) ?_); clear F a; intro a F
            with_reducible refine l_nil (q_then ?_)
            exact ⟨_, by omega, r' + 1, zO2, entO2, entS2, rfl, by omega, by omega, fun j hj h1 h2 => by
              rcases Nat.lt_or_ge j r' with h3 | h3
              · exact hre j hj h1 h3
              · obtain rfl : j = r' := by omega
                rw [← hx0]; exact he, hOO2, hOS2, F.only [16, 20, 21, 19, 69, 68, 67, 12, 15, 17, 0, 1, 2, 4] rfl, M⟩
        · rw [decide_eq_false he] at g8
          refine c_draw 13 F (by kernel_rfl) ?_
          intro w1 hE hok
          have M1 := M.later hE
          refine mK hok rfl rfl (fun a' w' F' E' => o_move (F'.ev rfl) ⟨Ext.refl _ _, rfl⟩) ?_
          refine mK hok rfl rfl (fun a' w' F' E' => o_move (F'.ev rfl) ⟨Ext.refl _ _, rfl⟩) ?_
          refine mK hok rfl rfl (fun a' w' F' E' => o_lenSl (F'.ev rfl) ⟨Ext.refl _ _, rfl⟩) ?_
          refine mK hok rfl rfl (fun a' w' F' E' => o_lssT (F'.ev rfl) (F'.ev rfl) (by omega) ⟨Ext.refl _ _, rfl⟩) ?_
          refine mK hok rfl rfl (fun a' w' F' E' => o_move (F'.ev rfl) ⟨Ext.refl _ _, rfl⟩) ?_
          refine mKG hok rfl rfl rfl rfl (fun a' w' F' E' => o_move (F'.ev rfl) ⟨Ext.refl _ _, rfl⟩) ?_
          refine mKG hok rfl rfl rfl rfl (fun a' w' F' E' => o_move (F'.ev rfl) ⟨Ext.refl _ _, rfl⟩) ?_
          refine mKG hok rfl rfl rfl rfl (fun a' w' F' E' => o_indexSl (F'.ev rfl) (F'.ev rfl) (by omega) (by omega) ⟨Ext.refl _ _, rfl⟩) ?_
          refine mKG hok rfl rfl rfl rfl (fun a' w' F' E' => o_fieldAddr (F'.ev rfl) ⟨Ext.refl _ _, rfl⟩) ?_
          refine mKG hok rfl rfl rfl rfl (fun a' w' F' E' => o_loadWA (M1.later E') (F'.ev rfl) (by assumption) (by first | assumption | rfl) ⟨Ext.refl _ _, rfl⟩) ?_
          refine mKG hok rfl rfl rfl rfl (fun a' w' F' E' => o_loadA (M1.later E') (F'.ev rfl) (by repeat constructor) (by first | assumption | rfl) ⟨Ext.refl _ _, rfl⟩) ?_
          refine mKG hok rfl rfl rfl rfl (fun a' w' F' E' => o_eqlAF (F'.ev rfl) (F'.ev rfl) (by first | assumption | rfl) (by first | assumption | rfl) (by assumption) ⟨Ext.refl _ _, rfl⟩) ?_
          refine mK hok rfl rfl (fun a' w' F' E' => o_pickT (F'.ev rfl) (F'.ev rfl) ⟨Ext.refl _ _, rfl⟩) ?_
          (refine mDone rfl rfl ?_; clear F M; intro a w F hE2 hX hTT hDD hPP; have M := M1.later hE2; clear M1; clear hX; clear hE2; clear hok; clear hE; clear hTT; clear hDD; clear hPP; (try dsimp only at F))
          with_reducible refine l_nil (q_then ?_)
          refine c_false F rfl rfl ?_
          with_reducible refine c_exit (q_thenX (q_thenX (q_inBX ?_)))
          obtain ⟨h1, h2, h3⟩ := hend (fun hj => by rw [← hx0]; exact he)
          exact ⟨r', zO, entO, entS, h1, by rw [h2]; exact hOO, by rw [h3]; exact hOS, F.only [16, 20, 21, 19, 69, 68, 67, 12, 15, 17, 0, 1, 2, 4] rfl, M.perm (by classical exact List.perm_iff_count.2 fun _ => by simp only [List.count_append, List.count_cons, List.count_nil, Nat.add_zero, Nat.zero_add] <;> ac_rfl)⟩
      · refine c_seq ?_
        refine c_seq ?_
        refine c_draw 13 F (by kernel_rfl) ?_
        intro w1 hE hok
        have M1 := M.later hE
        refine mK hok rfl rfl (fun a' w' F' E' => o_move (F'.ev rfl) ⟨Ext.refl _ _, rfl⟩) ?_
        refine mK hok rfl rfl (fun a' w' F' E' => o_move (F'.ev rfl) ⟨Ext.refl _ _, rfl⟩) ?_
        refine mK hok rfl rfl (fun a' w' F' E' => o_lenSl (F'.ev rfl) ⟨Ext.refl _ _, rfl⟩) ?_
        refine mK hok rfl rfl (fun a' w' F' E' => o_lssF (F'.ev rfl) (F'.ev rfl) (by omega) ⟨Ext.refl _ _, rfl⟩) ?_
        refine mK hok rfl rfl (fun a' w' F' E' => o_move (F'.ev rfl) ⟨Ext.refl _ _, rfl⟩) ?_
        refine mOff hok rfl rfl rfl rfl rfl ?_
        refine mOff hok rfl rfl rfl rfl rfl ?_
        refine mOff hok rfl rfl rfl rfl rfl ?_
        refine mOff hok rfl rfl rfl rfl rfl ?_
        refine mOff hok rfl rfl rfl rfl rfl ?_
        refine mOff hok rfl rfl rfl rfl rfl ?_
        refine mOff hok rfl rfl rfl rfl rfl ?_
        refine mK hok rfl rfl (fun a' w' F' E' => o_pickF (F'.ev rfl) (F'.ev rfl) ⟨Ext.refl _ _, rfl⟩) ?_
        (refine mDone rfl rfl ?_; clear F M; intro a w F hE2 hX hTT hDD hPP; have M := M1.later hE2; clear M1; clear hX; clear hE2; clear hok; clear hE; clear hTT; clear hDD; clear hPP; (try dsimp only at F))
        with_reducible refine l_nil (q_then ?_)
        refine c_false F rfl rfl ?_
        with_reducible refine c_exit (q_thenX (q_thenX (q_inBX ?_)))
        obtain ⟨h1, h2, h3⟩ := hend (fun hj => absurd hj hlt2)
        exact ⟨r', zO, entO, entS, h1, by rw [h2]; exact hOO, by rw [h3]; exact hOS, F.only [16, 20, 21, 19, 69, 68, 67, 12, 15, 17, 0, 1, 2, 4] rfl, M⟩
    · clear F M
      rintro a w ⟨r1, zO, entO, entS, hYr1, hOO, hOS, F, M⟩
      clear hYr
      have hvO := hov t
      have hlO : (ds.take k).length = k := by rw [List.length_take]; omega
      have hlR : ((ds.take k).filterMap (selE now l s cm old)).length ≤ 1024 := by
        have := List.length_filterMap_le (selE now l s cm old) (ds.take k)
        omega
      refine q_then ?_
      repeat (refine c_seq ?_)
      replace M := M.perm (l' := ((b19, .cells (dvC t).toArray 45 (0, 0)) :: (bD, .cells (dvsC ds ++ junk).toArray 45 (0, 0)) :: (entS ++ (entO ++ (entR ++ ent))))) (by classical exact List.perm_iff_count.2 fun _ => by simp only [List.count_append, List.count_cons, List.count_nil, Nat.add_zero, Nat.zero_add] <;> ac_rfl)
      refine c_cut (fun a w => ∃ had : Bool, (had = true → ∃ hil : i < old.length, old[i].to = t) ∧ (had = false → ∀ hil : i < old.length, old[i].to ≠ t) ∧ Frm a 190 [] [(24, .bool had), (17, .int .i64 i), (16, .int .i64 r1), (20, zO), (21, .map (some bS)), (19, .pointer (some ⟨b19, 0, none⟩)), (69, .int .i64 k), (68, .int .i64 ds.length), (67, .slice (some ⟨bD, 0, none⟩) ds.length capd), (12, .map (some b12)), (15, z), (0, .int .i64 now), (1, .slice q l.length cap), (2, vs), (4, .slice qo old.length capo)] ∧ Mem [] W w ((b19, .cells (dvC t).toArray 45 (0, 0)) :: (bD, .cells (dvsC ds ++ junk).toArray 45 (0, 0)) :: (entS ++ (entO ++ (entR ++ ent))))) ?_ ?_
      · clear hov hoE hYi hdk2 hdk3 htk
        by_cases hil : i < old.length
        · obtain ⟨b, o, cs, t', fz, rfl, hb, hs⟩ := hmo (by omega)
          have g1 : seg cs (o + (i : Int).toNat * 40) 40 = some (inC old[i]) := seg_el (ins_len hy) hs hil (by omega)
          have hxv := hy _ (List.getElem_mem hil)
          obtain ⟨y, hy0⟩ : ∃ y, y = old[i] := ⟨_, rfl⟩
          rw [← hy0] at g1 hxv
          have g2 : seg cs (o + (i : Int).toNat * 40) 35 = some (dvC y.to) := sg_seg g1 (in_to hxv) (by omega)
          have g7 := dv_fits hxv.1
          have g8 := dv_eq hxv.1 ht
          by_cases he : y.to = t
          · rw [decide_eq_true he] at g8
            refine c_draw 13 F (by kernel_rfl) ?_
            intro w1 hE hok
            have M1 := M.later hE
            refine mK hok rfl rfl (fun a' w' F' E' => o_move (F'.ev rfl) ⟨Ext.refl _ _, rfl⟩) ?_
            refine mK hok rfl rfl (fun a' w' F' E' => o_move (F'.ev rfl) ⟨Ext.refl _ _, rfl⟩) ?_
            refine mK hok rfl rfl (fun a' w' F' E' => o_lenSl (F'.ev rfl) ⟨Ext.refl _ _, rfl⟩) ?_
            refine mK hok rfl rfl (fun a' w' F' E' => o_lssT (F'.ev rfl) (F'.ev rfl) (by omega) ⟨Ext.refl _ _, rfl⟩) ?_
            refine mK hok rfl rfl (fun a' w' F' E' => o_move (F'.ev rfl) ⟨Ext.refl _ _, rfl⟩) ?_
            refine mKG hok rfl rfl rfl rfl (fun a' w' F' E' => o_move (F'.ev rfl) ⟨Ext.refl _ _, rfl⟩) ?_
            refine mKG hok rfl rfl rfl rfl (fun a' w' F' E' => o_move (F'.ev rfl) ⟨Ext.refl _ _, rfl⟩) ?_
            refine mKG hok rfl rfl rfl rfl (fun a' w' F' E' => o_indexSl (F'.ev rfl) (F'.ev rfl) (by omega) (by omega) ⟨Ext.refl _ _, rfl⟩) ?_
            refine mKG hok rfl rfl rfl rfl (fun a' w' F' E' => o_fieldAddr (F'.ev rfl) ⟨Ext.refl _ _, rfl⟩) ?_
            refine mKG hok rfl rfl rfl rfl (fun a' w' F' E' => o_loadWA (M1.later E') (F'.ev rfl) (by assumption) (by first | assumption | rfl) ⟨Ext.refl _ _, rfl⟩) ?_
            refine mKG hok rfl rfl rfl rfl (fun a' w' F' E' => o_loadA (M1.later E') (F'.ev rfl) (by repeat constructor) (by first | assumption | rfl) ⟨Ext.refl _ _, rfl⟩) ?_
            refine mKG hok rfl rfl rfl rfl (fun a' w' F' E' => o_eqlAT (F'.ev rfl) (F'.ev rfl) (by first | assumption | rfl) (by first | assumption | rfl) (by assumption) ⟨Ext.refl _ _, rfl⟩) ?_
            refine mK hok rfl rfl (fun a' w' F' E' => o_pickT (F'.ev rfl) (F'.ev rfl) ⟨Ext.refl _ _, rfl⟩) ?_
            (refine mDone rfl rfl ?_; clear F M; intro a w F hE2 hX hTT hDD hPP; have M := M1.later hE2; clear M1; clear hX; clear hE2; clear hok; clear hE; clear hTT; clear hDD; clear hPP; (try dsimp only at F))
            refine sD F (o_assign (F.ev rfl) ?_); clear F a; intro a F
            with_reducible refine l_nil ?_
            exact ⟨true, fun _ => ⟨hil, by rw [← hy0]; exact he⟩, fun h => (by cases h), F.only [24, 17, 16, 20, 21, 19, 69, 68, 67, 12, 15, 0, 1, 2, 4] rfl, M⟩
          · rw [decide_eq_false he] at g8
            refine c_draw 13 F (by kernel_rfl) ?_
            intro w1 hE hok
            have M1 := M.later hE
            refine mK hok rfl rfl (fun a' w' F' E' => o_move (F'.ev rfl) ⟨Ext.refl _ _, rfl⟩) ?_
            refine mK hok rfl rfl (fun a' w' F' E' => o_move (F'.ev rfl) ⟨Ext.refl _ _, rfl⟩) ?_
            refine mK hok rfl rfl (fun a' w' F' E' => o_lenSl (F'.ev rfl) ⟨Ext.refl _ _, rfl⟩) ?_
            refine mK hok rfl rfl (fun a' w' F' E' => o_lssT (F'.ev rfl) (F'.ev rfl) (by omega) ⟨Ext.refl _ _, rfl⟩) ?_
            refine mK hok rfl rfl (fun a' w' F' E' => o_move (F'.ev rfl) ⟨Ext.refl _ _, rfl⟩) ?_
            refine mKG hok rfl rfl rfl rfl (fun a' w' F' E' => o_move (F'.ev rfl) ⟨Ext.refl _ _, rfl⟩) ?_
            refine mKG hok rfl rfl rfl rfl (fun a' w' F' E' => o_move (F'.ev rfl) ⟨Ext.refl _ _, rfl⟩) ?_
            refine mKG hok rfl rfl rfl rfl (fun a' w' F' E' => o_indexSl (F'.ev rfl) (F'.ev rfl) (by omega) (by omega) ⟨Ext.refl _ _, rfl⟩) ?_
            refine mKG hok rfl rfl rfl rfl (fun a' w' F' E' => o_fieldAddr (F'.ev rfl) ⟨Ext.refl _ _, rfl⟩) ?_
            refine mKG hok rfl rfl rfl rfl (fun a' w' F' E' => o_loadWA (M1.later E') (F'.ev rfl) (by assumption) (by first | assumption | rfl) ⟨Ext.refl _ _, rfl⟩) ?_
            refine mKG hok rfl rfl rfl rfl (fun a' w' F' E' => o_loadA (M1.later E') (F'.ev rfl) (by repeat constructor) (by first | assumption | rfl) ⟨Ext.refl _ _, rfl⟩) ?_
            refine mKG hok rfl rfl rfl rfl (fun a' w' F' E' => o_eqlAF (F'.ev rfl) (F'.ev rfl) (by first | assumption | rfl) (by first | assumption | rfl) (by assumption) ⟨Ext.refl _ _, rfl⟩) ?_
            refine mK hok rfl rfl (fun a' w' F' E' => o_pickT (F'.ev rfl) (F'.ev rfl) ⟨Ext.refl _ _, rfl⟩) ?_
            (refine mDone rfl rfl ?_; clear F M; intro a w F hE2 hX hTT hDD hPP; have M := M1.later hE2; clear M1; clear hX; clear hE2; clear hok; clear hE; clear hTT; clear hDD; clear hPP; (try dsimp only at F))
            refine sD F (o_assign (F.ev rfl) ?_); clear F a; intro a F
            with_reducible refine l_nil ?_
            exact ⟨false, fun h => (by cases h), fun _ _ => by rw [← hy0]; exact he, F.only [24, 17, 16, 20, 21, 19, 69, 68, 67, 12, 15, 0, 1, 2, 4] rfl, M⟩
        · refine c_draw 13 F (by kernel_rfl) ?_
          intro w1 hE hok
          have M1 := M.later hE
          refine mK hok rfl rfl (fun a' w' F' E' => o_move (F'.ev rfl) ⟨Ext.refl _ _, rfl⟩) ?_
          refine mK hok rfl rfl (fun a' w' F' E' => o_move (F'.ev rfl) ⟨Ext.refl _ _, rfl⟩) ?_
          refine mK hok rfl rfl (fun a' w' F' E' => o_lenSl (F'.ev rfl) ⟨Ext.refl _ _, rfl⟩) ?_
          refine mK hok rfl rfl (fun a' w' F' E' => o_lssF (F'.ev rfl) (F'.ev rfl) (by omega) ⟨Ext.refl _ _, rfl⟩) ?_
          refine mK hok rfl rfl (fun a' w' F' E' => o_move (F'.ev rfl) ⟨Ext.refl _ _, rfl⟩) ?_
          refine mOff hok rfl rfl rfl rfl rfl ?_
          refine mOff hok rfl rfl rfl rfl rfl ?_
          refine mOff hok rfl rfl rfl rfl rfl ?_
          refine mOff hok rfl rfl rfl rfl rfl ?_
          refine mOff hok rfl rfl rfl rfl rfl ?_
          refine mOff hok rfl rfl rfl rfl rfl ?_
          refine mOff hok rfl rfl rfl rfl rfl ?_
          refine mK hok rfl rfl (fun a' w' F' E' => o_pickF (F'.ev rfl) (F'.ev rfl) ⟨Ext.refl _ _, rfl⟩) ?_
          (refine mDone rfl rfl ?_; clear F M; intro a w F hE2 hX hTT hDD hPP; have M := M1.later hE2; clear M1; clear hX; clear hE2; clear hok; clear hE; clear hTT; clear hDD; clear hPP; (try dsimp only at F))
          refine sD F (o_assign (F.ev rfl) ?_); clear F a; intro a F
          with_reducible refine l_nil ?_
          exact ⟨false, fun h => (by cases h), fun _ h => absurd h hil, F.only [24, 17, 16, 20, 21, 19, 69, 68, 67, 12, 15, 0, 1, 2, 4] rfl, M⟩
      clear F M
      rintro a w ⟨had, hh1, hh2, F, M⟩
      with_reducible refine q_then (c_seq (c_region ?_))
      (refine sD F (o_alloc M ?_); clear F M; intro b25 w M a F)
      with_reducible refine l_nil (q_then (c_seq (c_seq (c_region ?_))))
      refine sD F (o_move (F.ev rfl) ?_); clear F a; intro a F
      with_reducible refine l_nil (q_then ?_)
      refine c_cut (fun a w => ∃ (y : InsV) (i' : Nat), IsIn y ∧ (had = true → ins1 y = true) ∧ oldV old t = oldB y had ∧ Yet InsV.to old (ds.drop (k + 1)) i' ∧ Frm a 190 [] [(24, .bool had), (25, .pointer (some ⟨b25, 0, none⟩)), (17, .int .i64 i'), (16, .int .i64 r1), (20, zO), (21, .map (some bS)), (19, .pointer (some ⟨b19, 0, none⟩)), (69, .int .i64 k), (68, .int .i64 ds.length), (67, .slice (some ⟨bD, 0, none⟩) ds.length capd), (12, .map (some b12)), (15, z), (0, .int .i64 now), (1, .slice q l.length cap), (2, vs), (4, .slice qo old.length capo)] ∧ Mem [] W w ((b25, .cells (inC y).toArray 50 (0, 0)) :: ((b19, .cells (dvC t).toArray 45 (0, 0)) :: (bD, .cells (dvsC ds ++ junk).toArray 45 (0, 0)) :: (entS ++ (entO ++ (entR ++ ent)))))) ?_ ?_
      · cases had with
        | false =>
          have hn := hh2 rfl
          obtain ⟨h1, h2⟩ := Yet.next hwN hdk2 hdk3 hYi (Nat.le_refl _) hYi.le (fun j hj h1 h2 => absurd h2 (by omega)) hn
          have hov2 : oldV old t = none := oldV_no fun j hj => by
            rcases Nat.lt_or_ge j i with h3 | h3
            · exact hYi.before j hj h3
            · exact h2 j hj h3
          refine c_false F rfl rfl ?_
          with_reducible refine c_skip ?_
          exact ⟨in0, i, in0_is, fun h => (by cases h), hov2, h1, F.only [24, 25, 17, 16, 20, 21, 19, 69, 68, 67, 12, 15, 0, 1, 2, 4] rfl, M⟩
        | true =>
          obtain ⟨hil, he⟩ := hh1 rfl
          obtain ⟨b, o, cs, t', fz, rfl, hb, hs⟩ := hmo (by omega)
          have g1 : seg cs (o + (i : Int).toNat * 40) 40 = some (inC old[i]) := seg_el (ins_len hy) hs hil (by omega)
          have hxv := hy _ (List.getElem_mem hil)
          have hnx := Yet.next (r1 := i + 1) hwN hdk2 hdk3 hYi (by omega) (by omega) (fun j hj h1 h2 => by
            obtain rfl : j = i := by omega
            exact he) (fun hj e => by
            have h3 := (List.pairwise_iff_getElem.1 hascN) i (i + 1) hil hj (by omega)
            unfold cmpN at h3
            rw [e, he, cmpD_self] at h3
            omega)
          have hov2 : oldV old t = some old[i] := oldV_at hil he hYi.before
          have hin := hins _ (List.getElem_mem hil)
          obtain ⟨y, hy0⟩ : ∃ y, y = old[i] := ⟨_, rfl⟩
          rw [← hy0] at g1 hxv hov2 hin
          clear he
          refine c_true F rfl rfl ?_
          refine c_seq (c_region ?_)
          refine sD F (o_move (F.ev rfl) ?_); clear F a; intro a F
          refine sD F (o_move (F.ev rfl) ?_); clear F a; intro a F
          refine sD F (o_indexSl (F.ev rfl) (F.ev rfl) (by omega) (by omega) ?_); clear F a; intro a F
          refine sD F (o_loadWA M (F.ev rfl) (by assumption) (by first | assumption | rfl) ?_); clear F a; intro a F
          (refine stepN rfl F (o_storeA M (F.ev rfl) (F.ev rfl) (in_len hxv) (in_one y)  (by repeat constructor)  (put_all (by rw [in_len hxv]; rfl)) (by repeat constructor) ?_); clear F M; intro w M a F)
          with_reducible refine l_nil (q_then (c_region ?_))
          refine sD F (o_move (F.ev rfl) ?_); clear F a; intro a F
          refine sD F (o_add (F.ev rfl) (F.ev rfl) (w_i64 (by omega) (by omega)) ?_); clear F a; intro a F
          refine sD F (o_assign (F.ev rfl) ?_); clear F a; intro a F
          with_reducible refine l_nil ?_
          exact ⟨y, i + 1, hxv, fun _ => hin, hov2, hnx.1, F.only [24, 25, 17, 16, 20, 21, 19, 69, 68, 67, 12, 15, 0, 1, 2, 4] rfl, M⟩
      clear F M
      rintro a w ⟨y, i', hyI, hy1, hov2, hYi2, F, M⟩
      have hEq : selE now l s cm old t = aftV now t (oldB y had) (optsV now s cm t l) (saidV now s cm t l) := by
        unfold selE
        rw [hov2]
      rw [hEq] at htk
      have hEI : ∀ e, aftV now t (oldB y had) (optsV now s cm t l) (saidV now s cm t l) = some e → IsIn e := fun e h => hoE t ht e (by rw [hEq]; exact h)
      have haf := after_c now c5 t ht y hyI had hy1 (optsV now s cm t l) hvO zO (saidV now s cm t l) (.map (some bS))
      obtain ⟨E, hE⟩ : ∃ E, E = aftV now t (oldB y had) (optsV now s cm t l) (saidV now s cm t l) := ⟨_, rfl⟩
      rw [← hE] at htk hEI haf
      have hgI : IsIn (E.getD in0) := by
        cases E with
        | none => exact in0_is
        | some e => exact hEI e rfl
      have y1 := in_all hyI
      have e1 := in_all hgI
      have e2 := in_len hgI
      with_reducible refine q_then (c_seq (c_region ?_))
      refine sD F (o_move (F.ev rfl) ?_); clear F a; intro a F
      refine sD F (o_loadA M (F.ev rfl) (by repeat constructor) (by first | assumption | rfl) ?_); clear F a; intro a F
      refine sD F (o_loadA M (F.ev rfl) (by repeat constructor) (by first | assumption | rfl) ?_); clear F a; intro a F
      refine sD F (o_move (F.ev rfl) ?_); clear F a; intro a F
      refine sD F (o_move (F.ev rfl) ?_); clear F a; intro a F
      refine sD F (o_move (F.ev rfl) ?_); clear F a; intro a F
      (refine sD F (o_call (F.ev rfl) (F.evs rfl) (Cal.mono (haf _ (hOO.slAt M (fun p hp => by simp [hp])) (hOS.at_ (fun p hp => M.at_ p (by simp [hp])))) ?_)); clear F; clear a; rintro _ w ⟨rfl, hE⟩ a F; replace M := M.later hE; clear hE)
      refine sD F (o_move (F.ev rfl) ?_); clear F a; intro a F
      refine sD F (o_extract (F.ev rfl) rfl ?_); clear F a; intro a F
      refine sD F (o_extract (F.ev rfl) rfl ?_); clear F a; intro a F
      (refine sD F (o_alloc M ?_); clear F M; intro b26 w M a F)
      (refine stepN rfl F (o_storeA M (F.ev rfl) (F.ev rfl) (e2) (in_one _)  (by repeat constructor)  (put_all (by rw [e2]; rfl)) (by repeat constructor) ?_); clear F M; intro w M a F)
      cases E with
      | none =>
        have htk2 : (ds.take (k + 1)).filterMap (selE now l s cm old) = (ds.take k).filterMap (selE now l s cm old) := by rw [htk]; simp
        refine sD F (o_assign (F.ev rfl) ?_); clear F a; intro a F
        with_reducible refine l_nil (q_then (c_seq (c_region ?_)))
        refine sD F (o_move (F.ev rfl) ?_); clear F a; intro a F
        with_reducible refine l_nil (q_then ?_)
        refine c_false F rfl rfl ?_
        with_reducible refine c_skip (q_inB (q_then (c_region ?_)))
        refine sD F (o_add (F.ev rfl) (F.ev rfl) (w_i64 (by omega) (by omega)) ?_); clear F a; intro a F
        refine sD F (o_move (F.ev rfl) ?_); clear F a; intro a F
        with_reducible refine l_nil (q_then ?_)
        exact ⟨_, by omega, k + 1, r1, i', z, entR, rfl, by omega, hYr1, hYi2, by rw [htk2]; exact hR, F.only [69, 68, 67, 12, 15, 16, 17, 0, 1, 2, 4] rfl, (M.perm (l' := (entR ++ ([(bD, .cells (dvsC ds ++ junk).toArray 45 (0, 0))] ++ ent)) ++ ((b26, .cells (inC ((none : Option InsV).getD in0)).toArray 50 (0, 0)) :: (b25, .cells (inC y).toArray 50 (0, 0)) :: (b19, .cells (dvC t).toArray 45 (0, 0)) :: (entS ++ entO))) (by classical exact List.perm_iff_count.2 fun _ => by simp only [List.count_append, List.count_cons, List.count_nil, Nat.add_zero, Nat.zero_add] <;> ac_rfl)).sub (List.sublist_append_left _ _)⟩
      | some e =>
        have htk2 : (ds.take (k + 1)).filterMap (selE now l s cm old) = (ds.take k).filterMap (selE now l s cm old) ++ [e] := by rw [htk]; rfl
        have heI := hEI e rfl
        have e3 : seg (inC e) 0 40 = some (inC e) := in_all heI
        replace M := M.perm (l' := (b26, .cells (inC e).toArray 50 (0, 0)) :: (b25, .cells (inC y).toArray 50 (0, 0)) :: (b19, .cells (dvC t).toArray 45 (0, 0)) :: (bD, .cells (dvsC ds ++ junk).toArray 45 (0, 0)) :: (entS ++ (entO ++ (ent ++ entR)))) (by classical exact List.perm_iff_count.2 fun _ => by simp only [List.count_append, List.count_cons, List.count_nil, Nat.add_zero, Nat.zero_add] <;> ac_rfl)
        refine sD F (o_assign (F.ev rfl) ?_); clear F a; intro a F
        with_reducible refine l_nil (q_then (c_seq (c_region ?_)))
        refine sD F (o_move (F.ev rfl) ?_); clear F a; intro a F
        with_reducible refine l_nil (q_then ?_)
        refine c_true F rfl rfl ?_
        refine c_region ?_
        refine sD F (o_move (F.ev rfl) ?_); clear F a; intro a F
        refine sD F (o_loadA M (F.ev rfl) (by repeat constructor) (by first | assumption | rfl) ?_); clear F a; intro a F
        (refine sD F (o_buildSlice F M rfl rfl rfl (in_build1 heI) ?_); clear F M; intro b183 w M a F)
        (refine sD F (o_append hR M (.cons (.cons (.cons (.cons (.cons (.app (.app (.app .here)))))))) (F.ev rfl) (F.ev rfl) (SrcOf.cells' (M.heap .here) (sg_all (in_len heI)) (in_one _)) (by omega) (by omega) ?_); clear F M; intro z2 entR2 w hR2 M a F)
        refine sD F (o_assign (F.ev rfl) ?_); clear F a; intro a F
        with_reducible refine l_nil (q_inB (q_then (c_region ?_)))
        refine sD F (o_add (F.ev rfl) (F.ev rfl) (w_i64 (by omega) (by omega)) ?_); clear F a; intro a F
        refine sD F (o_move (F.ev rfl) ?_); clear F a; intro a F
        with_reducible refine l_nil (q_then ?_)
        refine ⟨_, by omega, k + 1, r1, i', z2, entR2, rfl, by omega, hYr1, hYi2, ?_, F.only [69, 68, 67, 12, 15, 16, 17, 0, 1, 2, 4] rfl, (M.perm (l' := (entR2 ++ ([(bD, .cells (dvsC ds ++ junk).toArray 45 (0, 0))] ++ ent)) ++ ((b183, .cells (inC e).toArray 50 (0, 0)) :: (b26, .cells (inC e).toArray 50 (0, 0)) :: (b25, .cells (inC y).toArray 50 (0, 0)) :: (b19, .cells (dvC t).toArray 45 (0, 0)) :: (entS ++ entO))) (by classical exact List.perm_iff_count.2 fun _ => by simp only [List.count_append, List.count_cons, List.count_nil, Nat.add_zero, Nat.zero_add] <;> ac_rfl)).sub (List.sublist_append_left _ _)⟩
        rw [htk2, List.length_append]
        show OwnS _ 40 _ _ (encL inC _) _
        rw [encL_app, encL_one]
        exact hR2
  · obtain rfl : k = ds.length := by omega
    rw [List.take_length] at hR
    obtain ⟨pz, cz, rfl⟩ := hR.slice
    clear hD hov hoE
    by_cases c9 : 512 < (ds.filterMap (selE now l s cm old)).length
    · rw [if_pos c9] at hL
      rw [hL]
      refine c_seq (c_region ?_)
      refine sD F (o_lssF (F.ev rfl) (F.ev rfl) (by omega) ?_); clear F a; intro a F
      with_reducible refine l_nil (q_then (c_seq ?_))
      refine c_false F rfl rfl ?_
      with_reducible refine c_exit (q_thenX (q_thenX (q_inBX (q_then (c_seq (c_seq (c_region ?_)))))))
      refine sD F (o_move (F.ev rfl) ?_); clear F a; intro a F
      refine sD F (o_lenSl (F.ev rfl) ?_); clear F a; intro a F
      refine sD F (o_gtrT (F.ev rfl) (F.ev rfl) (by omega) ?_); clear F a; intro a F
      with_reducible refine l_nil (q_then ?_)
      refine c_true F rfl rfl ?_
      refine c_seq (c_region ?_)
      refine sD F (o_assign (F.ev rfl) ?_); clear F a; intro a F
      refine sD F (o_assign (F.ev rfl) ?_); clear F a; intro a F
      with_reducible refine l_nil (q_then (c_ret (q_thenR ?_)))
      refine p_ret F rfl (.cons (.tmp (F.ev rfl)) (.cons (.tmp (F.ev rfl)) .nil)) ?_
      exact ⟨.slice none 0 0, [], rfl, OwnS.nil _ _, M.sub (List.nil_sublist _)⟩
    · rw [if_neg c9] at hL
      rw [hL]
      refine c_seq (c_region ?_)
      refine sD F (o_lssF (F.ev rfl) (F.ev rfl) (by omega) ?_); clear F a; intro a F
      with_reducible refine l_nil (q_then (c_seq ?_))
      refine c_false F rfl rfl ?_
      with_reducible refine c_exit (q_thenX (q_thenX (q_inBX (q_then (c_seq (c_seq (c_region ?_)))))))
      refine sD F (o_move (F.ev rfl) ?_); clear F a; intro a F
      refine sD F (o_lenSl (F.ev rfl) ?_); clear F a; intro a F
      refine sD F (o_gtrF (F.ev rfl) (F.ev rfl) (by omega) ?_); clear F a; intro a F
      with_reducible refine l_nil (q_then ?_)
      refine c_false F rfl rfl ?_
      with_reducible refine c_skip (q_then (c_seq (c_region ?_)))
      refine sD F (o_move (F.ev rfl) ?_); clear F a; intro a F
      refine sD F (o_assign (F.ev rfl) ?_); clear F a; intro a F
      refine sD F (o_assign (F.ev rfl) ?_); clear F a; intro a F
      with_reducible refine l_nil (q_then (c_ret ?_))
      refine p_ret F rfl (.cons (.tmp (F.ev rfl)) (.cons (.tmp (F.ev rfl)) .nil)) ?_
      exact ⟨_, entR, rfl, hR, M.sub (List.sublist_append_left _ _)⟩
end Go.Proofs.YtilgoepokaaleaaGreat
/-! ZG -/
namespace Go.Proofs.YtilgoepokaaleaaGreat
set_option linter.unusedVariables false
set_option linter.unusedSimpArgs false
open Go.RowKit
attribute [local irreducible] OpTo wpListIn Code.wpIn MW Cal
def hostD (n r : Int) : DstV := ⟨[32, 1, 0, 0, 0, 0, 0, 0, 0, 0, 0, 0, 0, 0, 0, n], 128, nul16, 0, r⟩
theorem hostD_is {n r : Int} (h0 : 0 ≤ n) (h1 : n < 256) : IsDv (hostD n r) := ⟨⟨rfl, by intro x hx; simp [hostD] at hx; omega⟩, nul16_is⟩
theorem host_c (n r : Int) (h0 : 0 ≤ n) (h1 : n < 256) (r0 : 0 ≤ r) (r1 : r < 100000) (W : World) : Cal Tryz.prog 30 [.int .i64 n, .int .i64 r].toArray W fun v w' => v = .agg (dvC (hostD n r)).toArray ∧ Ext [] W w' := by
  refine fn_ofM (n := 12) [] Tryz.func30 rfl rfl rfl ?_
  intro a w F M hwW
  refine c_seq ?_
  refine c_region ?_
  (refine sD F (o_alloc M ?_); clear F M; intro b4 w M a F)
  with_reducible refine l_nil (q_then (c_seq (c_region ?_)))
  refine sD F (o_move (F.ev rfl) ?_); clear F a; intro a F
  refine sD F (o_conv (F.ev rfl) (w_u8 (by omega) (by omega)) ?_); clear F a; intro a F
  refine sD F (o_build F rfl rfl ?_); clear F a; intro a F
  refine sD F (o_build F rfl rfl ?_); clear F a; intro a F
  refine sD F (o_move (F.ev rfl) ?_); clear F a; intro a F
  refine sD F (o_conv (F.ev rfl) (w_u64 (by omega) (by omega)) ?_); clear F a; intro a F
  refine sD F (o_build F rfl rfl ?_); clear F a; intro a F
  (refine stepN rfl F (o_storeA M (F.ev rfl) (F.ev rfl) (by rfl) (by rfl) (by repeat constructor) (by rfl) (by repeat constructor) ?_); clear F M; intro w M a F)
  with_reducible refine l_nil (q_then (c_ret ?_))
  exact p_ret F rfl (.cons (.cell (F.ev rfl) (run_loadVar_agg TAgg.h (M.heap (by repeat constructor)) rfl)) .nil) ⟨rfl, M.ext⟩
def kL : RouV := ⟨hostD 1 9, 2, ⟨3, 100⟩, 15⟩
def kI : InsV := ⟨hostD 1 9, 2, ⟨3, 356⟩, -1, 0⟩
def kH : InsV := ⟨hostD 1 9, 0, ⟨3, 65535⟩, -1, 21⟩
def kO : OptV := ⟨2, 256⟩
def kIP : List Int := [32, 1, 0, 0, 0, 0, 0, 0, 0, 0, 0, 0, 0, 0, 0, 1]
def kZ : DstV := ⟨nul16, 0, nul16, 0, 0⟩
theorem k_is : IsDv (hostD 1 9) := hostD_is (by omega) (by omega)
theorem kL_is : IsRo kL := ⟨k_is, trivial⟩
theorem kI_is : IsIn kI := ⟨k_is, trivial⟩
theorem kH_is : IsIn kH := ⟨k_is, trivial⟩
theorem kIP_is : IsIP kIP := ⟨rfl, by intro x hx; simp [kIP] at hx; omega⟩
theorem kZ_is : IsDv kZ := ⟨nul16_is, nul16_is⟩
theorem kLearn : learnV [] 5 (hostD 1 9) 2 ⟨3, 100⟩ = ([kL], 0) := by decide +kernel
theorem kSel1 : selectV 6 [kL] [] [kO] [] = ([kI], 0) := by decide +kernel
theorem kSel2 : selectV 7 [] [] [kO] [kI] = ([kH], 0) := by decide +kernel
theorem kLook1 : lookV [kI] nul16 kIP kZ false = (kI, 0) := by decide +kernel
theorem kLook2 : lookV [kH] nul16 kIP kZ false = (in0, 15) := by decide +kernel
theorem slAtO {w : World} {b : Nat} {x : OptV} {t : TypeId} {fz : Nat × Nat} (h : w.heap[b]? = some (.cells (opC x).toArray t fz)) : SlAt w 2 (.slice (some ⟨b, 0, none⟩) 1 1) 1 (opsC [x]) :=
  ⟨_, _, rfl, Nat.le_refl _, by simp, by rw [show opsC [x] = opC x from encL_one _ _, op_len (o := x) trivial], fun _ => ⟨b, 0, _, _, _, rfl, h, by rw [show opsC [x] = opC x from encL_one _ _]; exact sg_all (op_len (o := x) trivial)⟩⟩
set_option maxHeartbeats 8000000 in
theorem known27_c (W : World) : Cal Tryz.prog 19 [].toArray W fun r w' => r = .bool true ∧ Ext [] W w' := by
  refine fn_ofM (n := 89) [] Tryz.func19 rfl rfl rfl ?_
  intro a w F M hwW
  refine c_seq (c_region ?_)
  refine sD F (o_assign (F.ev rfl) ?_); clear F a; intro a F
  with_reducible refine l_nil (q_then (c_seq (c_region ?_)))
  (refine sD F (o_call (F.ev rfl) (F.evs rfl) (Cal.mono (host_c 1 9 (by omega) (by omega) (by omega) (by omega) _) ?_)); clear F; clear a; rintro _ w ⟨rfl, hE⟩ a F; replace M := M.later hE; clear hE)
  refine sD F (o_build F rfl rfl ?_); clear F a; intro a F
  (refine sD F (o_call (F.ev rfl) (F.evs (vs := [.slice none 0 0, .int .i64 5, .agg (dvC (hostD 1 9)).toArray, .int .u64 2, .agg (diC ⟨3, 100⟩).toArray]) rfl) (Cal.mono (learn_c [] (by simp) (.slice none 0 0) 5 (hostD 1 9) k_is 2 ⟨3, 100⟩ (by decide) _ (SlAt.nil _ _)) ?_)); clear F; clear a; rintro _ w ⟨u, e1, rfl, hO1, N⟩ a F; replace M := M.joins N; clear N)
  rw [kLearn] at F hO1
  dsimp only at F hO1
  obtain ⟨p1, c1, rfl⟩ := hO1.slice
  refine sD F (o_move (F.ev rfl) ?_); clear F a; intro a F
  refine sD F (o_extract (F.ev rfl) rfl ?_); clear F a; intro a F
  refine sD F (o_extract (F.ev rfl) rfl ?_); clear F a; intro a F
  refine sD F (o_assign (F.ev rfl) ?_); clear F a; intro a F
  refine sD F (o_assign (F.ev rfl) ?_); clear F a; intro a F
  with_reducible refine l_nil (q_then (c_seq (c_region ?_)))
  refine sD F (o_build F rfl rfl ?_); clear F a; intro a F
  (refine sD F (o_buildSlice F M rfl rfl rfl rfl ?_); clear F M; intro b19 w M a F)
  replace M : Mem [] W w ((b19, opO kO) :: (e1 ++ [])) := M
  refine sD F (o_assign (F.ev rfl) ?_); clear F a; intro a F
  with_reducible refine l_nil (q_then (c_seq (c_region ?_)))
  refine sD F (o_move (F.ev rfl) ?_); clear F a; intro a F
  refine sD F (o_move (F.ev rfl) ?_); clear F a; intro a F
  (refine sD F (o_call (F.ev rfl) (F.evs rfl) (Cal.mono (select_c 6 [kL] (by simpa using kL_is) [] (by simp) [kO] [] (by simp) _ (.slice none 0 0) (.slice (some ⟨b19, 0, none⟩) 1 1) (.slice none 0 0) _ (hO1.slAt M (fun q hq => by simp [hq])) (SlAt.nil _ _) (slAtO (x := kO) (M.heap .here)) (SlAt.nil _ _)) ?_)); clear F; clear a; rintro _ w ⟨u, e2, rfl, hO2, N⟩ a F; replace M := M.joins N; clear N)
  rw [kSel1] at F hO2
  dsimp only at F hO2
  obtain ⟨p2, c2, rfl⟩ := hO2.slice
  refine sD F (o_move (F.ev rfl) ?_); clear F a; intro a F
  refine sD F (o_extract (F.ev rfl) rfl ?_); clear F a; intro a F
  refine sD F (o_extract (F.ev rfl) rfl ?_); clear F a; intro a F
  refine sD F (o_assign (F.ev rfl) ?_); clear F a; intro a F
  refine sD F (o_assign (F.ev rfl) ?_); clear F a; intro a F
  with_reducible refine l_nil (q_then (c_seq (c_region ?_)))
  refine sD F (o_move (F.ev rfl) ?_); clear F a; intro a F
  refine sD F (o_build F rfl rfl ?_); clear F a; intro a F
  refine sD F (o_build F rfl rfl ?_); clear F a; intro a F
  refine sD F (o_build F rfl rfl ?_); clear F a; intro a F
  (refine sD F (o_call (F.ev rfl) (F.evs (vs := [.slice p2 [kI].length c2, .agg (ipC nul16).toArray, .agg (ipC kIP).toArray, .agg (dvC kZ).toArray, .bool false]) rfl) (Cal.mono (lookup_c [kI] (by simpa using kI_is) _ nul16 kIP nul16_is kIP_is kZ kZ_is false _ (hO2.slAt M (fun q hq => by simp [hq]))) ?_)); clear F; clear a; rintro _ w ⟨rfl, hE⟩ a F; replace M := M.later hE; clear hE)
  rw [kLook1] at F
  dsimp only at F
  refine sD F (o_move (F.ev rfl) ?_); clear F a; intro a F
  refine sD F (o_extract (F.ev rfl) rfl ?_); clear F a; intro a F
  refine sD F (o_extract (F.ev rfl) rfl ?_); clear F a; intro a F
  (refine sD F (o_alloc M ?_); clear F M; intro b6 w M a F)
  (refine stepN rfl F (o_storeA M (F.ev rfl) (F.ev rfl) (in_len kI_is) (in_one _)  (by repeat constructor)  (put_all (by rw [in_len kI_is]; rfl)) (by repeat constructor) ?_); clear F M; intro w M a F)
  refine sD F (o_assign (F.ev rfl) ?_); clear F a; intro a F
  with_reducible refine l_nil (q_then (c_seq (c_region ?_)))
  refine sD F (o_move (F.ev rfl) ?_); clear F a; intro a F
  refine sD F (o_move (F.ev rfl) ?_); clear F a; intro a F
  (refine sD F (o_call (F.ev rfl) (F.evs rfl) (Cal.mono (select_c 7 [] (by simp) [] (by simp) [kO] [kI] (by simpa using kI_is) (.slice none 0 0) (.slice none 0 0) (.slice (some ⟨b19, 0, none⟩) 1 1) _ _ (SlAt.nil _ _) (SlAt.nil _ _) (slAtO (x := kO) (M.at_ (b19, opO kO) (by simp))) (hO2.slAt M (fun q hq => by simp [hq]))) ?_)); clear F; clear a; rintro _ w ⟨u, e3, rfl, hO3, N⟩ a F; replace M := M.joins N; clear N)
  rw [kSel2] at F hO3
  dsimp only at F hO3
  obtain ⟨p3, c3, hp3⟩ := hO3.slice
  rcases hO3 with ⟨_, h0, _, _⟩ | ⟨bH, cH, junk, rfl, rfl, hxl, hjl, hnc⟩
  · simp at h0
  have hO3 : OwnS 50 40 (.slice (some ⟨bH, 0, none⟩) [kH].length cH) [kH].length (insC [kH]) [(bH, .cells (insC [kH] ++ junk).toArray 50 (0, 0))] := .inr ⟨bH, cH, junk, rfl, rfl, hxl, hjl, hnc⟩
  clear hp3 hxl hjl hnc
  refine sD F (o_move (F.ev rfl) ?_); clear F a; intro a F
  refine sD F (o_extract (F.ev rfl) rfl ?_); clear F a; intro a F
  refine sD F (o_extract (F.ev rfl) rfl ?_); clear F a; intro a F
  refine sD F (o_assign (F.ev rfl) ?_); clear F a; intro a F
  refine sD F (o_assign (F.ev rfl) ?_); clear F a; intro a F
  with_reducible refine l_nil (q_then (c_seq (c_region ?_)))
  refine sD F (o_move (F.ev rfl) ?_); clear F a; intro a F
  refine sD F (o_build F rfl rfl ?_); clear F a; intro a F
  refine sD F (o_build F rfl rfl ?_); clear F a; intro a F
  refine sD F (o_build F rfl rfl ?_); clear F a; intro a F
  (refine sD F (o_call (F.ev rfl) (F.evs (vs := [.slice (some ⟨bH, 0, none⟩) [kH].length cH, .agg (ipC nul16).toArray, .agg (ipC kIP).toArray, .agg (dvC kZ).toArray, .bool false]) rfl) (Cal.mono (lookup_c [kH] (by simpa using kH_is) _ nul16 kIP nul16_is kIP_is kZ kZ_is false _ (hO3.slAt M (fun q hq => by simp at hq; simp [hq]))) ?_)); clear F; clear a; rintro _ w ⟨rfl, hE⟩ a F; replace M := M.later hE; clear hE)
  rw [kLook2] at F
  dsimp only at F
  refine sD F (o_move (F.ev rfl) ?_); clear F a; intro a F
  refine sD F (o_extract (F.ev rfl) rfl ?_); clear F a; intro a F
  refine sD F (o_extract (F.ev rfl) rfl ?_); clear F a; intro a F
  (refine sD F (o_alloc M ?_); clear F M; intro b10 w M a F)
  (refine stepN rfl F (o_storeA M (F.ev rfl) (F.ev rfl) (in_len in0_is) (in_one _)  (by repeat constructor)  (put_all (by rw [in_len in0_is]; rfl)) (by repeat constructor) ?_); clear F M; intro w M a F)
  replace M := M.perm (l' := (b6, .cells (inC kI).toArray 50 (0, 0)) :: (bH, .cells (insC [kH] ++ junk).toArray 50 (0, 0)) :: (b10, .cells (inC in0).toArray 50 (0, 0)) :: (e2 ++ ((b19, opO kO) :: (e1 ++ [])))) (by classical exact List.perm_iff_count.2 fun _ => by simp only [List.count_append, List.count_cons, List.count_nil, Nat.add_zero, Nat.zero_add] <;> ac_rfl)
  have g1 : seg (insC [kH] ++ junk) (0 + (0 : Int).toNat * 40) 40 = some (inC kH) := own_el (ls := [kH]) (by simpa using in_len kH_is) junk (show 0 < [kH].length by simp) (by simp)
  have g2 : nth (insC [kH] ++ junk) (0 + (0 : Int).toNat * 40 + 39) = some (.int .i64 21) := sg_nth g1 (in_til kH_is) (by omega)
  have g3 := in_nb kI_is
  have g4 := in_own kI_is
  rw [show [kH].length = 1 from rfl] at F
  refine sD F (o_assign (F.ev rfl) ?_); clear F a; intro a F
  with_reducible refine l_nil (q_then (c_seq (c_region ?_)))
  refine sD F (o_move (F.ev rfl) ?_); clear F a; intro a F
  refine sD F (o_eqlT (F.ev rfl) (F.ev rfl) (by omega) ?_); clear F a; intro a F
  refine sD F (o_move (F.ev rfl) ?_); clear F a; intro a F
  refine sG F (o_move (F.ev rfl) ?_); clear F a; intro a F
  refine sG F (o_eqlT (F.ev rfl) (F.ev rfl) (by omega) ?_); clear F a; intro a F
  refine sD F (o_pickT (F.ev rfl) (F.ev rfl) ?_); clear F a; intro a F
  refine sD F (o_move (F.ev rfl) ?_); clear F a; intro a F
  refine sG F (o_move (F.ev rfl) ?_); clear F a; intro a F
  refine sG F (o_eqlT (F.ev rfl) (F.ev rfl) (by omega) ?_); clear F a; intro a F
  refine sD F (o_pickT (F.ev rfl) (F.ev rfl) ?_); clear F a; intro a F
  refine sD F (o_move (F.ev rfl) ?_); clear F a; intro a F
  refine sG F (o_move (F.ev rfl) ?_); clear F a; intro a F
  refine sG F (o_eqlT (F.ev rfl) (F.ev rfl) (by omega) ?_); clear F a; intro a F
  refine sD F (o_pickT (F.ev rfl) (F.ev rfl) ?_); clear F a; intro a F
  refine sD F (o_move (F.ev rfl) ?_); clear F a; intro a F
  refine sG F (o_move (F.ev rfl) ?_); clear F a; intro a F
  refine sG F (o_eqlT (F.ev rfl) (F.ev rfl) (by omega) ?_); clear F a; intro a F
  refine sD F (o_pickT (F.ev rfl) (F.ev rfl) ?_); clear F a; intro a F
  refine sD F (o_move (F.ev rfl) ?_); clear F a; intro a F
  refine sG F (o_fieldAddr (F.ev rfl) ?_); clear F a; intro a F
  refine sG F (o_load1 M (F.ev rfl) (by repeat constructor) (by first | assumption | rfl) ?_); clear F a; intro a F
  refine sG F (o_eql (F.ev rfl) (F.ev rfl) ?_); clear F a; intro a F
  refine sD F (o_pickT (F.ev rfl) (F.ev rfl) ?_); clear F a; intro a F
  refine sD F (o_move (F.ev rfl) ?_); clear F a; intro a F
  refine sG F (o_fieldAddr (F.ev rfl) ?_); clear F a; intro a F
  refine sG F (o_loadA M (F.ev rfl) (by repeat constructor) (by first | assumption | rfl) ?_); clear F a; intro a F
  refine sG F (o_build F rfl rfl ?_); clear F a; intro a F
  refine sG F (o_eqlA (F.ev rfl) (F.ev rfl) (by first | assumption | rfl) (by first | assumption | rfl) ?_); clear F a; intro a F
  refine sD F (o_pickT (F.ev rfl) (F.ev rfl) ?_); clear F a; intro a F
  refine sD F (o_move (F.ev rfl) ?_); clear F a; intro a F
  refine sG F (o_move (F.ev rfl) ?_); clear F a; intro a F
  refine sG F (o_lenSl (F.ev rfl) ?_); clear F a; intro a F
  refine sG F (o_eqlT (F.ev rfl) (F.ev rfl) (by omega) ?_); clear F a; intro a F
  refine sD F (o_pickT (F.ev rfl) (F.ev rfl) ?_); clear F a; intro a F
  refine sD F (o_move (F.ev rfl) ?_); clear F a; intro a F
  refine sG F (o_move (F.ev rfl) ?_); clear F a; intro a F
  refine sG F (o_indexSl (F.ev rfl) (F.ev rfl) (by omega) (by omega) ?_); clear F a; intro a F
  refine sG F (o_fieldAddr (F.ev rfl) ?_); clear F a; intro a F
  refine sG F (o_load1 M (F.ev rfl) (by repeat constructor) (by first | assumption | rfl) ?_); clear F a; intro a F
  refine sG F (o_eqlT (F.ev rfl) (F.ev rfl) (by omega) ?_); clear F a; intro a F
  refine sD F (o_pickT (F.ev rfl) (F.ev rfl) ?_); clear F a; intro a F
  refine sD F (o_assign (F.ev rfl) ?_); clear F a; intro a F
  with_reducible refine l_nil (q_then (c_ret ?_))
  refine p_ret F rfl (.cons (.tmp (F.ev rfl)) .nil) ?_
  exact ⟨rfl, M.ext⟩
end Go.Proofs.YtilgoepokaaleaaGreat
/-! ZH -/
namespace Go.Proofs.YtilgoepokaaleaaGreat
set_option linter.unusedVariables false
set_option linter.unusedSimpArgs false
open Go.RowKit
def k5 : OptV := ⟨5, 300⟩
section
variable {t : DstV} {d : DisV} {now til : Int}
end
end Go.Proofs.YtilgoepokaaleaaGreat
/-! ZN -/
namespace Go.Proofs.YtilgoepokaaleaaGreat
set_option linter.unusedVariables false
set_option linter.unusedSimpArgs false
open Go.RowKit
attribute [local irreducible] OpTo wpListIn Code.wpIn MW Cal
set_option maxHeartbeats 2000000 in
theorem refelem_c (e : InsV) (he : IsIn e) (W : World) : Cal Tryz.prog 118 [.agg (inC e).toArray].toArray W fun v w' => v = .bool (ins1 e) ∧ Ext [] W w' := by
  have a1 := in_to he
  have a2 := in_own he
  have a3 := in_btn he
  have a4 := in_til he
  have a5 := in_own_met he
  have a6 := in_nb he
  unfold ins1 finD inf
  refine fn_ofM (n := 49) [] Tryz.func118 rfl rfl rfl ?_
  intro a w F M hwW
  refine c_seq ?_
  refine c_region ?_
  (refine sD F (o_box M (F.ev rfl) rfl ?_); clear F M; intro b1 w M a F)
  refine sD F (o_assign (F.ev rfl) ?_); clear F a; intro a F
  with_reducible refine l_nil (q_then (c_seq (c_seq (c_region ?_))))
  refine sD F (o_fieldAddr (F.ev rfl) ?_); clear F a; intro a F
  refine sD F (o_loadA M (F.ev rfl) (by repeat constructor) (by first | assumption | rfl) ?_); clear F a; intro a F
  (refine sD F (o_call (F.ev rfl) (F.evs rfl) (Cal.mono (rvalidTo_c e.to he.1 _) ?_)); clear F; clear a; rintro _ w ⟨rfl, hE⟩ a F; replace M := M.later hE; clear hE)
  cases h1 : validT e.to
  · rw [h1] at F
    refine sD F (o_not (F.ev rfl) ?_); clear F a; intro a F
    refine sD F (o_move (F.ev rfl) ?_); clear F a; intro a F
    refine sO F ?_; clear F a; intro a F
    refine sO F ?_; clear F a; intro a F
    refine sO F ?_; clear F a; intro a F
    refine sO F ?_; clear F a; intro a F
    refine sD F (o_pickT (F.ev rfl) (F.ev rfl) ?_); clear F a; intro a F
    with_reducible refine l_nil (q_then ?_)
    refine c_true F rfl rfl ?_
    refine c_seq (c_region ?_)
    refine sD F (o_assign (F.ev rfl) ?_); clear F a; intro a F
    with_reducible refine l_nil (q_then (c_ret (q_thenR ?_)))
    refine p_ret F rfl (.cons (.tmp (F.ev rfl)) .nil) ?_
    exact ⟨rfl, M.ext⟩
  rw [h1] at F
  refine sD F (o_not (F.ev rfl) ?_); clear F a; intro a F
  refine sD F (o_move (F.ev rfl) ?_); clear F a; intro a F
  refine sG F (o_fieldAddr (F.ev rfl) ?_); clear F a; intro a F
  refine sG F (o_loadA M (F.ev rfl) (by repeat constructor) (by first | assumption | rfl) ?_); clear F a; intro a F
  (refine sG F (o_call (F.ev rfl) (F.evs rfl) (Cal.mono (rdvalid_c e.own _) ?_)); clear F; clear a; rintro _ w ⟨rfl, hE⟩ a F; replace M := M.later hE; clear hE)
  cases h2 : validM e.own.met
  · rw [h2] at F
    have hnot : ¬ e.own.met = 65535 := fun h => by rw [h] at h2; revert h2; decide
    rw [decide_eq_false hnot]
    by_cases h0 : e.nb = 0
    · rw [if_pos h0]
      refine sG F (o_not (F.ev rfl) ?_); clear F a; intro a F
      refine sD F (o_pickF (F.ev rfl) (F.ev rfl) ?_); clear F a; intro a F
      with_reducible refine l_nil (q_then ?_)
      refine c_true F rfl rfl ?_
      refine c_seq (c_region ?_)
      refine sD F (o_assign (F.ev rfl) ?_); clear F a; intro a F
      with_reducible refine l_nil (q_then (c_ret (q_thenR ?_)))
      refine p_ret F rfl (.cons (.tmp (F.ev rfl)) .nil) ?_
      exact ⟨rfl, M.ext⟩
    · rw [if_neg h0]
      refine sG F (o_not (F.ev rfl) ?_); clear F a; intro a F
      refine sD F (o_pickF (F.ev rfl) (F.ev rfl) ?_); clear F a; intro a F
      with_reducible refine l_nil (q_then ?_)
      refine c_true F rfl rfl ?_
      refine c_seq (c_region ?_)
      refine sD F (o_assign (F.ev rfl) ?_); clear F a; intro a F
      with_reducible refine l_nil (q_then (c_ret (q_thenR ?_)))
      refine p_ret F rfl (.cons (.tmp (F.ev rfl)) .nil) ?_
      exact ⟨rfl, M.ext⟩
  rw [h2] at F
  by_cases h0 : e.nb = 0
  · rw [if_pos h0]
    by_cases h3 : e.own.met = 65535
    · by_cases h4 : e.btn = -1
      · rw [decide_eq_true h3, decide_eq_true h4]
        refine sG F (o_not (F.ev rfl) ?_); clear F a; intro a F
        refine sD F (o_pickF (F.ev rfl) (F.ev rfl) ?_); clear F a; intro a F
        with_reducible refine l_nil (q_then ?_)
        refine c_false F rfl rfl ?_
        with_reducible refine c_skip (q_then (c_seq (c_seq (c_region ?_))))
        refine sD F (o_fieldAddr (F.ev rfl) ?_); clear F a; intro a F
        refine sD F (o_load1 M (F.ev rfl) (by repeat constructor) (by first | assumption | rfl) ?_); clear F a; intro a F
        refine sD F (o_neqF (F.ev rfl) (F.ev rfl) (by omega) ?_); clear F a; intro a F
        with_reducible refine l_nil (q_then ?_)
        refine c_false F rfl rfl ?_
        with_reducible refine c_skip (q_then (c_seq (c_region ?_)))
        refine sD F (o_fieldAddr (F.ev rfl) ?_); clear F a; intro a F
        refine sD F (o_fieldAddr (F.ev rfl) ?_); clear F a; intro a F
        refine sD F (o_load1 M (F.ev rfl) (by repeat constructor) (by first | assumption | rfl) ?_); clear F a; intro a F
        refine sD F (o_eqlT (F.ev rfl) (F.ev rfl) (by omega) ?_); clear F a; intro a F
        refine sD F (o_move (F.ev rfl) ?_); clear F a; intro a F
        refine sG F (o_fieldAddr (F.ev rfl) ?_); clear F a; intro a F
        refine sG F (o_load1 M (F.ev rfl) (by repeat constructor) (by first | assumption | rfl) ?_); clear F a; intro a F
        refine sG F (o_eqlT (F.ev rfl) (F.ev rfl) (by omega) ?_); clear F a; intro a F
        refine sD F (o_pickT (F.ev rfl) (F.ev rfl) ?_); clear F a; intro a F
        refine sD F (o_move (F.ev rfl) ?_); clear F a; intro a F
        refine sG F (o_fieldAddr (F.ev rfl) ?_); clear F a; intro a F
        refine sG F (o_load1 M (F.ev rfl) (by repeat constructor) (by first | assumption | rfl) ?_); clear F a; intro a F
        (refine sG F (o_call (F.ev rfl) (F.evs rfl) (Cal.mono (risTime_c e.til _) ?_)); clear F; clear a; rintro _ w ⟨rfl, hE⟩ a F; replace M := M.later hE; clear hE)
        refine sD F (o_pickT (F.ev rfl) (F.ev rfl) ?_); clear F a; intro a F
        refine sD F (o_assign (F.ev rfl) ?_); clear F a; intro a F
        with_reducible refine l_nil (q_then (c_ret ?_))
        refine p_ret F rfl (.cons (.tmp (F.ev rfl)) .nil) ?_
        exact ⟨rfl, M.ext⟩
      · rw [decide_eq_true h3, decide_eq_false h4]
        refine sG F (o_not (F.ev rfl) ?_); clear F a; intro a F
        refine sD F (o_pickF (F.ev rfl) (F.ev rfl) ?_); clear F a; intro a F
        with_reducible refine l_nil (q_then ?_)
        refine c_false F rfl rfl ?_
        with_reducible refine c_skip (q_then (c_seq (c_seq (c_region ?_))))
        refine sD F (o_fieldAddr (F.ev rfl) ?_); clear F a; intro a F
        refine sD F (o_load1 M (F.ev rfl) (by repeat constructor) (by first | assumption | rfl) ?_); clear F a; intro a F
        refine sD F (o_neqF (F.ev rfl) (F.ev rfl) (by omega) ?_); clear F a; intro a F
        with_reducible refine l_nil (q_then ?_)
        refine c_false F rfl rfl ?_
        with_reducible refine c_skip (q_then (c_seq (c_region ?_)))
        refine sD F (o_fieldAddr (F.ev rfl) ?_); clear F a; intro a F
        refine sD F (o_fieldAddr (F.ev rfl) ?_); clear F a; intro a F
        refine sD F (o_load1 M (F.ev rfl) (by repeat constructor) (by first | assumption | rfl) ?_); clear F a; intro a F
        refine sD F (o_eqlT (F.ev rfl) (F.ev rfl) (by omega) ?_); clear F a; intro a F
        refine sD F (o_move (F.ev rfl) ?_); clear F a; intro a F
        refine sG F (o_fieldAddr (F.ev rfl) ?_); clear F a; intro a F
        refine sG F (o_load1 M (F.ev rfl) (by repeat constructor) (by first | assumption | rfl) ?_); clear F a; intro a F
        refine sG F (o_eqlF (F.ev rfl) (F.ev rfl) (by omega) ?_); clear F a; intro a F
        refine sD F (o_pickT (F.ev rfl) (F.ev rfl) ?_); clear F a; intro a F
        refine sD F (o_move (F.ev rfl) ?_); clear F a; intro a F
        refine sO F ?_; clear F a; intro a F
        refine sO F ?_; clear F a; intro a F
        refine sO F ?_; clear F a; intro a F
        refine sD F (o_pickF (F.ev rfl) (F.ev rfl) ?_); clear F a; intro a F
        refine sD F (o_assign (F.ev rfl) ?_); clear F a; intro a F
        with_reducible refine l_nil (q_then (c_ret ?_))
        refine p_ret F rfl (.cons (.tmp (F.ev rfl)) .nil) ?_
        exact ⟨rfl, M.ext⟩
    · rw [decide_eq_false h3]
      refine sG F (o_not (F.ev rfl) ?_); clear F a; intro a F
      refine sD F (o_pickF (F.ev rfl) (F.ev rfl) ?_); clear F a; intro a F
      with_reducible refine l_nil (q_then ?_)
      refine c_false F rfl rfl ?_
      with_reducible refine c_skip (q_then (c_seq (c_seq (c_region ?_))))
      refine sD F (o_fieldAddr (F.ev rfl) ?_); clear F a; intro a F
      refine sD F (o_load1 M (F.ev rfl) (by repeat constructor) (by first | assumption | rfl) ?_); clear F a; intro a F
      refine sD F (o_neqF (F.ev rfl) (F.ev rfl) (by omega) ?_); clear F a; intro a F
      with_reducible refine l_nil (q_then ?_)
      refine c_false F rfl rfl ?_
      with_reducible refine c_skip (q_then (c_seq (c_region ?_)))
      refine sD F (o_fieldAddr (F.ev rfl) ?_); clear F a; intro a F
      refine sD F (o_fieldAddr (F.ev rfl) ?_); clear F a; intro a F
      refine sD F (o_load1 M (F.ev rfl) (by repeat constructor) (by first | assumption | rfl) ?_); clear F a; intro a F
      refine sD F (o_eqlF (F.ev rfl) (F.ev rfl) (by omega) ?_); clear F a; intro a F
      refine sD F (o_move (F.ev rfl) ?_); clear F a; intro a F
      refine sO F ?_; clear F a; intro a F
      refine sO F ?_; clear F a; intro a F
      refine sO F ?_; clear F a; intro a F
      refine sD F (o_pickF (F.ev rfl) (F.ev rfl) ?_); clear F a; intro a F
      refine sD F (o_move (F.ev rfl) ?_); clear F a; intro a F
      refine sO F ?_; clear F a; intro a F
      refine sO F ?_; clear F a; intro a F
      refine sO F ?_; clear F a; intro a F
      refine sD F (o_pickF (F.ev rfl) (F.ev rfl) ?_); clear F a; intro a F
      refine sD F (o_assign (F.ev rfl) ?_); clear F a; intro a F
      with_reducible refine l_nil (q_then (c_ret ?_))
      refine p_ret F rfl (.cons (.tmp (F.ev rfl)) .nil) ?_
      exact ⟨rfl, M.ext⟩
  · rw [if_neg h0]
    by_cases h3 : e.own.met = 65535
    · rw [decide_eq_true h3]
      refine sG F (o_not (F.ev rfl) ?_); clear F a; intro a F
      refine sD F (o_pickF (F.ev rfl) (F.ev rfl) ?_); clear F a; intro a F
      with_reducible refine l_nil (q_then ?_)
      refine c_false F rfl rfl ?_
      with_reducible refine c_skip (q_then (c_seq (c_seq (c_region ?_))))
      refine sD F (o_fieldAddr (F.ev rfl) ?_); clear F a; intro a F
      refine sD F (o_load1 M (F.ev rfl) (by repeat constructor) (by first | assumption | rfl) ?_); clear F a; intro a F
      refine sD F (o_neqT (F.ev rfl) (F.ev rfl) (by omega) ?_); clear F a; intro a F
      with_reducible refine l_nil (q_then ?_)
      refine c_true F rfl rfl ?_
      refine c_seq (c_region ?_)
      refine sD F (o_fieldAddr (F.ev rfl) ?_); clear F a; intro a F
      refine sD F (o_fieldAddr (F.ev rfl) ?_); clear F a; intro a F
      refine sD F (o_load1 M (F.ev rfl) (by repeat constructor) (by first | assumption | rfl) ?_); clear F a; intro a F
      refine sD F (o_neqF (F.ev rfl) (F.ev rfl) (by omega) ?_); clear F a; intro a F
      refine sD F (o_move (F.ev rfl) ?_); clear F a; intro a F
      refine sO F ?_; clear F a; intro a F
      refine sO F ?_; clear F a; intro a F
      refine sO F ?_; clear F a; intro a F
      refine sO F ?_; clear F a; intro a F
      refine sO F ?_; clear F a; intro a F
      refine sO F ?_; clear F a; intro a F
      refine sO F ?_; clear F a; intro a F
      refine sO F ?_; clear F a; intro a F
      refine sD F (o_pickF (F.ev rfl) (F.ev rfl) ?_); clear F a; intro a F
      refine sD F (o_move (F.ev rfl) ?_); clear F a; intro a F
      refine sO F ?_; clear F a; intro a F
      refine sO F ?_; clear F a; intro a F
      refine sO F ?_; clear F a; intro a F
      refine sD F (o_pickF (F.ev rfl) (F.ev rfl) ?_); clear F a; intro a F
      refine sD F (o_assign (F.ev rfl) ?_); clear F a; intro a F
      with_reducible refine l_nil (q_then (c_ret (q_thenR ?_)))
      refine p_ret F rfl (.cons (.tmp (F.ev rfl)) .nil) ?_
      exact ⟨rfl, M.ext⟩
    rw [decide_eq_false h3]
    by_cases h4 : e.btn = -1
    · rw [decide_eq_true h4]
      by_cases h5 : e.til = 0
      · rw [decide_eq_true h5]
        refine sG F (o_not (F.ev rfl) ?_); clear F a; intro a F
        refine sD F (o_pickF (F.ev rfl) (F.ev rfl) ?_); clear F a; intro a F
        with_reducible refine l_nil (q_then ?_)
        refine c_false F rfl rfl ?_
        with_reducible refine c_skip (q_then (c_seq (c_seq (c_region ?_))))
        refine sD F (o_fieldAddr (F.ev rfl) ?_); clear F a; intro a F
        refine sD F (o_load1 M (F.ev rfl) (by repeat constructor) (by first | assumption | rfl) ?_); clear F a; intro a F
        refine sD F (o_neqT (F.ev rfl) (F.ev rfl) (by omega) ?_); clear F a; intro a F
        with_reducible refine l_nil (q_then ?_)
        refine c_true F rfl rfl ?_
        refine c_seq (c_region ?_)
        refine sD F (o_fieldAddr (F.ev rfl) ?_); clear F a; intro a F
        refine sD F (o_fieldAddr (F.ev rfl) ?_); clear F a; intro a F
        refine sD F (o_load1 M (F.ev rfl) (by repeat constructor) (by first | assumption | rfl) ?_); clear F a; intro a F
        refine sD F (o_neqT (F.ev rfl) (F.ev rfl) (by omega) ?_); clear F a; intro a F
        refine sD F (o_move (F.ev rfl) ?_); clear F a; intro a F
        refine sG F (o_fieldAddr (F.ev rfl) ?_); clear F a; intro a F
        refine sG F (o_load1 M (F.ev rfl) (by repeat constructor) (by first | assumption | rfl) ?_); clear F a; intro a F
        refine sG F (o_eqlT (F.ev rfl) (F.ev rfl) (by omega) ?_); clear F a; intro a F
        refine sG F (o_move (F.ev rfl) ?_); clear F a; intro a F
        refine sO F ?_; clear F a; intro a F
        refine sO F ?_; clear F a; intro a F
        refine sO F ?_; clear F a; intro a F
        refine sG F (o_pickT (F.ev rfl) (F.ev rfl) ?_); clear F a; intro a F
        refine sD F (o_pickT (F.ev rfl) (F.ev rfl) ?_); clear F a; intro a F
        refine sD F (o_move (F.ev rfl) ?_); clear F a; intro a F
        refine sG F (o_fieldAddr (F.ev rfl) ?_); clear F a; intro a F
        refine sG F (o_load1 M (F.ev rfl) (by repeat constructor) (by first | assumption | rfl) ?_); clear F a; intro a F
        refine sG F (o_eqlT (F.ev rfl) (F.ev rfl) (by omega) ?_); clear F a; intro a F
        refine sD F (o_pickT (F.ev rfl) (F.ev rfl) ?_); clear F a; intro a F
        refine sD F (o_assign (F.ev rfl) ?_); clear F a; intro a F
        with_reducible refine l_nil (q_then (c_ret (q_thenR ?_)))
        refine p_ret F rfl (.cons (.tmp (F.ev rfl)) .nil) ?_
        exact ⟨rfl, M.ext⟩
      · rw [decide_eq_false h5]
        refine sG F (o_not (F.ev rfl) ?_); clear F a; intro a F
        refine sD F (o_pickF (F.ev rfl) (F.ev rfl) ?_); clear F a; intro a F
        with_reducible refine l_nil (q_then ?_)
        refine c_false F rfl rfl ?_
        with_reducible refine c_skip (q_then (c_seq (c_seq (c_region ?_))))
        refine sD F (o_fieldAddr (F.ev rfl) ?_); clear F a; intro a F
        refine sD F (o_load1 M (F.ev rfl) (by repeat constructor) (by first | assumption | rfl) ?_); clear F a; intro a F
        refine sD F (o_neqT (F.ev rfl) (F.ev rfl) (by omega) ?_); clear F a; intro a F
        with_reducible refine l_nil (q_then ?_)
        refine c_true F rfl rfl ?_
        refine c_seq (c_region ?_)
        refine sD F (o_fieldAddr (F.ev rfl) ?_); clear F a; intro a F
        refine sD F (o_fieldAddr (F.ev rfl) ?_); clear F a; intro a F
        refine sD F (o_load1 M (F.ev rfl) (by repeat constructor) (by first | assumption | rfl) ?_); clear F a; intro a F
        refine sD F (o_neqT (F.ev rfl) (F.ev rfl) (by omega) ?_); clear F a; intro a F
        refine sD F (o_move (F.ev rfl) ?_); clear F a; intro a F
        refine sG F (o_fieldAddr (F.ev rfl) ?_); clear F a; intro a F
        refine sG F (o_load1 M (F.ev rfl) (by repeat constructor) (by first | assumption | rfl) ?_); clear F a; intro a F
        refine sG F (o_eqlT (F.ev rfl) (F.ev rfl) (by omega) ?_); clear F a; intro a F
        refine sG F (o_move (F.ev rfl) ?_); clear F a; intro a F
        refine sO F ?_; clear F a; intro a F
        refine sO F ?_; clear F a; intro a F
        refine sO F ?_; clear F a; intro a F
        refine sG F (o_pickT (F.ev rfl) (F.ev rfl) ?_); clear F a; intro a F
        refine sD F (o_pickT (F.ev rfl) (F.ev rfl) ?_); clear F a; intro a F
        refine sD F (o_move (F.ev rfl) ?_); clear F a; intro a F
        refine sG F (o_fieldAddr (F.ev rfl) ?_); clear F a; intro a F
        refine sG F (o_load1 M (F.ev rfl) (by repeat constructor) (by first | assumption | rfl) ?_); clear F a; intro a F
        refine sG F (o_eqlF (F.ev rfl) (F.ev rfl) (by omega) ?_); clear F a; intro a F
        refine sD F (o_pickT (F.ev rfl) (F.ev rfl) ?_); clear F a; intro a F
        refine sD F (o_assign (F.ev rfl) ?_); clear F a; intro a F
        with_reducible refine l_nil (q_then (c_ret (q_thenR ?_)))
        refine p_ret F rfl (.cons (.tmp (F.ev rfl)) .nil) ?_
        exact ⟨rfl, M.ext⟩
    · rw [decide_eq_false h4]
      refine sG F (o_not (F.ev rfl) ?_); clear F a; intro a F
      refine sD F (o_pickF (F.ev rfl) (F.ev rfl) ?_); clear F a; intro a F
      with_reducible refine l_nil (q_then ?_)
      refine c_false F rfl rfl ?_
      with_reducible refine c_skip (q_then (c_seq (c_seq (c_region ?_))))
      refine sD F (o_fieldAddr (F.ev rfl) ?_); clear F a; intro a F
      refine sD F (o_load1 M (F.ev rfl) (by repeat constructor) (by first | assumption | rfl) ?_); clear F a; intro a F
      refine sD F (o_neqT (F.ev rfl) (F.ev rfl) (by omega) ?_); clear F a; intro a F
      with_reducible refine l_nil (q_then ?_)
      refine c_true F rfl rfl ?_
      refine c_seq (c_region ?_)
      refine sD F (o_fieldAddr (F.ev rfl) ?_); clear F a; intro a F
      refine sD F (o_fieldAddr (F.ev rfl) ?_); clear F a; intro a F
      refine sD F (o_load1 M (F.ev rfl) (by repeat constructor) (by first | assumption | rfl) ?_); clear F a; intro a F
      refine sD F (o_neqT (F.ev rfl) (F.ev rfl) (by omega) ?_); clear F a; intro a F
      refine sD F (o_move (F.ev rfl) ?_); clear F a; intro a F
      refine sG F (o_fieldAddr (F.ev rfl) ?_); clear F a; intro a F
      refine sG F (o_load1 M (F.ev rfl) (by repeat constructor) (by first | assumption | rfl) ?_); clear F a; intro a F
      refine sG F (o_eqlF (F.ev rfl) (F.ev rfl) (by omega) ?_); clear F a; intro a F
      refine sG F (o_move (F.ev rfl) ?_); clear F a; intro a F
      refine sG F (o_fieldAddr (F.ev rfl) ?_); clear F a; intro a F
      refine sG F (o_load1 M (F.ev rfl) (by repeat constructor) (by first | assumption | rfl) ?_); clear F a; intro a F
      (refine sG F (o_call (F.ev rfl) (F.evs rfl) (Cal.mono (risTime_c e.btn _) ?_)); clear F; clear a; rintro _ w ⟨rfl, hE⟩ a F; replace M := M.later hE; clear hE)
      cases h6 : isTime e.btn
      · rw [h6] at F
        refine sG F (o_pickF (F.ev rfl) (F.ev rfl) ?_); clear F a; intro a F
        refine sD F (o_pickT (F.ev rfl) (F.ev rfl) ?_); clear F a; intro a F
        refine sD F (o_move (F.ev rfl) ?_); clear F a; intro a F
        refine sO F ?_; clear F a; intro a F
        refine sO F ?_; clear F a; intro a F
        refine sO F ?_; clear F a; intro a F
        refine sD F (o_pickF (F.ev rfl) (F.ev rfl) ?_); clear F a; intro a F
        refine sD F (o_assign (F.ev rfl) ?_); clear F a; intro a F
        with_reducible refine l_nil (q_then (c_ret (q_thenR ?_)))
        refine p_ret F rfl (.cons (.tmp (F.ev rfl)) .nil) ?_
        exact ⟨rfl, M.ext⟩
      rw [h6] at F
      by_cases h5 : e.til = 0
      · rw [decide_eq_true h5]
        refine sG F (o_pickF (F.ev rfl) (F.ev rfl) ?_); clear F a; intro a F
        refine sD F (o_pickT (F.ev rfl) (F.ev rfl) ?_); clear F a; intro a F
        refine sD F (o_move (F.ev rfl) ?_); clear F a; intro a F
        refine sG F (o_fieldAddr (F.ev rfl) ?_); clear F a; intro a F
        refine sG F (o_load1 M (F.ev rfl) (by repeat constructor) (by first | assumption | rfl) ?_); clear F a; intro a F
        refine sG F (o_eqlT (F.ev rfl) (F.ev rfl) (by omega) ?_); clear F a; intro a F
        refine sD F (o_pickT (F.ev rfl) (F.ev rfl) ?_); clear F a; intro a F
        refine sD F (o_assign (F.ev rfl) ?_); clear F a; intro a F
        with_reducible refine l_nil (q_then (c_ret (q_thenR ?_)))
        refine p_ret F rfl (.cons (.tmp (F.ev rfl)) .nil) ?_
        exact ⟨rfl, M.ext⟩
      · rw [decide_eq_false h5]
        refine sG F (o_pickF (F.ev rfl) (F.ev rfl) ?_); clear F a; intro a F
        refine sD F (o_pickT (F.ev rfl) (F.ev rfl) ?_); clear F a; intro a F
        refine sD F (o_move (F.ev rfl) ?_); clear F a; intro a F
        refine sG F (o_fieldAddr (F.ev rfl) ?_); clear F a; intro a F
        refine sG F (o_load1 M (F.ev rfl) (by repeat constructor) (by first | assumption | rfl) ?_); clear F a; intro a F
        refine sG F (o_eqlF (F.ev rfl) (F.ev rfl) (by omega) ?_); clear F a; intro a F
        refine sD F (o_pickT (F.ev rfl) (F.ev rfl) ?_); clear F a; intro a F
        refine sD F (o_assign (F.ev rfl) ?_); clear F a; intro a F
        with_reducible refine l_nil (q_then (c_ret (q_thenR ?_)))
        refine p_ret F rfl (.cons (.tmp (F.ev rfl)) .nil) ?_
        exact ⟨rfl, M.ext⟩
set_option maxHeartbeats 4000000 in
theorem refvalidI_c (l : List InsV) (hx : ∀ x ∈ l, IsIn x) (v : Value) (W : World) (hS : SlAt W 40 v l.length (insC l)) :
    Cal Tryz.prog 70 [v].toArray W fun r w' => r = .bool (validIs l) ∧ Ext [] W w' := by
  obtain ⟨q, cap, rfl, hcap, hsp, hl, hm⟩ := hS
  unfold validIs vldL
  by_cases c0 : 512 < l.length
  · rw [decide_eq_false (by omega), Bool.false_and]
    refine fn_ofM (n := 38) [] Tryz.func70 rfl rfl rfl ?_
    intro a w F M hwW
    refine c_seq (c_region ?_)
    refine sD F (o_assign (F.ev rfl) ?_); clear F a; intro a F
    with_reducible refine l_nil (q_then (c_seq (c_seq (c_region ?_))))
    refine sD F (o_move (F.ev rfl) ?_); clear F a; intro a F
    refine sD F (o_lenSl (F.ev rfl) ?_); clear F a; intro a F
    refine sD F (o_gtrT (F.ev rfl) (F.ev rfl) (by omega) ?_); clear F a; intro a F
    with_reducible refine l_nil (q_then ?_)
    refine c_true F rfl rfl ?_
    refine c_seq (c_region ?_)
    refine sD F (o_assign (F.ev rfl) ?_); clear F a; intro a F
    with_reducible refine l_nil (q_then (c_ret (q_thenR ?_)))
    refine p_ret F rfl (.cons (.tmp (F.ev rfl)) .nil) ?_
    exact ⟨rfl, M.ext⟩
  rw [decide_eq_true (show l.length ≤ 512 by omega), Bool.true_and]
  refine fn_ofM (n := 38) [] Tryz.func70 rfl rfl rfl ?_
  intro a w F M hwW
  refine c_seq (c_region ?_)
  refine sD F (o_assign (F.ev rfl) ?_); clear F a; intro a F
  with_reducible refine l_nil (q_then (c_seq (c_seq (c_region ?_))))
  refine sD F (o_move (F.ev rfl) ?_); clear F a; intro a F
  refine sD F (o_lenSl (F.ev rfl) ?_); clear F a; intro a F
  refine sD F (o_gtrF (F.ev rfl) (F.ev rfl) (by omega) ?_); clear F a; intro a F
  with_reducible refine l_nil (q_then ?_)
  refine c_false F rfl rfl ?_
  with_reducible refine c_skip (q_then (c_seq (c_seq (c_region ?_))))
  refine sD F (o_move (F.ev rfl) ?_); clear F a; intro a F
  refine sD F (o_lenSl (F.ev rfl) ?_); clear F a; intro a F
  refine sD F (o_move (F.ev rfl) ?_); clear F a; intro a F
  with_reducible refine l_nil (q_then (c_block ?_))
  refine c_loop (fun m a w => ∃ i : Nat, m = l.length - i ∧ i ≤ l.length ∧ (∀ j, j < i → vld1 ins1 cmpN l j = true) ∧ Frm a 38 [] [(9, .int .i64 i), (8, .int .i64 l.length), (0, .slice q l.length cap)] ∧ Mem [] W w []) l.length ⟨0, rfl, by omega, by omega, F.only [9, 8, 0] rfl, M⟩ ?_
  clear F M
  rintro m a w ⟨i, hm', hi, hv, F, M⟩
  by_cases hlt : i < l.length
  · obtain ⟨b, o, cs, t, fz, rfl, hb, hs⟩ := hm (by omega)
    have hxv := hx _ (List.getElem_mem hlt)
    have hv0 := vld1_0 (e1 := ins1) (cm := cmpN) hlt
    have hvs := vld1_s (e1 := ins1) (cm := cmpN) hlt
    have hvf := vld1_f (e1 := ins1) (cm := cmpN) hlt
    have f1 : seg cs (o + (i : Int).toNat * 40) 40 = some (inC l[i]) := seg_el (ins_len hx) hs hlt (by omega)
    obtain ⟨x, hx0⟩ : ∃ x, x = l[i] := ⟨_, rfl⟩
    rw [← hx0] at hxv hv0 hvs hvf f1
    have g0 : seg cs (o + (i : Int).toNat * 40) 35 = some (dvC x.to) := sg_seg f1 (in_to hxv) (by omega)
    refine c_seq (c_region ?_)
    refine sD F (o_lssT (F.ev rfl) (F.ev rfl) (by omega) ?_); clear F a; intro a F
    with_reducible refine l_nil (q_then (c_seq ?_))
    refine c_true F rfl rfl ?_
    with_reducible refine c_skip (q_then (c_seq (c_block (c_seq (c_region ?_)))))
    refine sD F (o_move (F.ev rfl) ?_); clear F a; intro a F
    refine sD F (o_assign (F.ev rfl) ?_); clear F a; intro a F
    with_reducible refine l_nil (q_then (c_seq ?_))
    replace F := F.only [9, 8, 0, 3] rfl
    cases c1 : ins1 x
    · rw [rng_f hlt (hvf c1)]
      refine c_draw 24 F (by kernel_rfl) ?_
      intro w1 hE hok
      have M1 := M.later hE
      refine mK hok rfl rfl (fun a' w' F' E' => o_move (F'.ev rfl) ⟨Ext.refl _ _, rfl⟩) ?_
      refine mK hok rfl rfl (fun a' w' F' E' => o_move (F'.ev rfl) ⟨Ext.refl _ _, rfl⟩) ?_
      refine mK hok rfl rfl (fun a' w' F' E' => o_indexSl (F'.ev rfl) (F'.ev rfl) (by omega) (by omega) ⟨Ext.refl _ _, rfl⟩) ?_
      refine mK hok rfl rfl (fun a' w' F' E' => o_loadWA (M1.later E') (F'.ev rfl) (by assumption) (by first | assumption | rfl) ⟨Ext.refl _ _, rfl⟩) ?_
      (refine mK hok rfl rfl (fun a' w' F' E' => o_call (F'.ev rfl) (F'.evs rfl) (Cal.mono (Cal.to (v' := .bool false) (refelem_c x hxv _) (by rw [c1])) fun _ _ hh => ⟨hh.2, hh.1⟩)) ?_)
      refine mK hok rfl rfl (fun a' w' F' E' => o_not (F'.ev rfl) ⟨Ext.refl _ _, rfl⟩) ?_
      refine mK hok rfl rfl (fun a' w' F' E' => o_move (F'.ev rfl) ⟨Ext.refl _ _, rfl⟩) ?_
      refine mOff hok rfl rfl rfl rfl rfl ?_
      refine mOff hok rfl rfl rfl rfl rfl ?_
      refine mOff hok rfl rfl rfl rfl rfl ?_
      refine mOff hok rfl rfl rfl rfl rfl ?_
      refine mOff hok rfl rfl rfl rfl rfl ?_
      refine mOff hok rfl rfl rfl rfl rfl ?_
      refine mOff hok rfl rfl rfl rfl rfl ?_
      refine mOff hok rfl rfl rfl rfl rfl ?_
      refine mOff hok rfl rfl rfl rfl rfl ?_
      refine mOff hok rfl rfl rfl rfl rfl ?_
      refine mOff hok rfl rfl rfl rfl rfl ?_
      refine mOff hok rfl rfl rfl rfl rfl ?_
      refine mOff hok rfl rfl rfl rfl rfl ?_
      refine mOff hok rfl rfl rfl rfl rfl ?_
      refine mOff hok rfl rfl rfl rfl rfl ?_
      refine mOff hok rfl rfl rfl rfl rfl ?_
      refine mOff hok rfl rfl rfl rfl rfl ?_
      (refine mDone rfl rfl ?_; clear F M; intro a w F hE2 hX hTT hDD hPP; have M := M1.later hE2; clear M1; clear hX; clear hE2; clear hok; clear hE; clear hTT; clear hDD; clear hPP; (try dsimp only at F))
      refine sD F (o_pickT (F.ev rfl) (F.ev rfl) ?_); clear F a; intro a F
      with_reducible refine l_nil (q_then ?_)
      refine c_true F rfl rfl ?_
      refine c_seq (c_region ?_)
      refine sD F (o_assign (F.ev rfl) ?_); clear F a; intro a F
      with_reducible refine l_nil (q_then (c_ret (q_inBR (q_thenR (q_thenR (q_inBR (q_thenR ?_)))))))
      refine p_ret F rfl (.cons (.tmp (F.ev rfl)) .nil) ?_
      exact ⟨rfl, M.ext⟩
    rw [c1] at hv0 hvs
    clear hvf
    rcases Nat.eq_zero_or_pos i with hi0 | hi0
    · refine c_draw 24 F (by kernel_rfl) ?_
      intro w1 hE hok
      have M1 := M.later hE
      refine mK hok rfl rfl (fun a' w' F' E' => o_move (F'.ev rfl) ⟨Ext.refl _ _, rfl⟩) ?_
      refine mK hok rfl rfl (fun a' w' F' E' => o_move (F'.ev rfl) ⟨Ext.refl _ _, rfl⟩) ?_
      refine mK hok rfl rfl (fun a' w' F' E' => o_indexSl (F'.ev rfl) (F'.ev rfl) (by omega) (by omega) ⟨Ext.refl _ _, rfl⟩) ?_
      refine mK hok rfl rfl (fun a' w' F' E' => o_loadWA (M1.later E') (F'.ev rfl) (by assumption) (by first | assumption | rfl) ⟨Ext.refl _ _, rfl⟩) ?_
      (refine mK hok rfl rfl (fun a' w' F' E' => o_call (F'.ev rfl) (F'.evs rfl) (Cal.mono (Cal.to (v' := .bool true) (refelem_c x hxv _) (by rw [c1])) fun _ _ hh => ⟨hh.2, hh.1⟩)) ?_)
      refine mK hok rfl rfl (fun a' w' F' E' => o_not (F'.ev rfl) ⟨Ext.refl _ _, rfl⟩) ?_
      refine mK hok rfl rfl (fun a' w' F' E' => o_move (F'.ev rfl) ⟨Ext.refl _ _, rfl⟩) ?_
      refine mKG hok rfl rfl rfl rfl (fun a' w' F' E' => o_move (F'.ev rfl) ⟨Ext.refl _ _, rfl⟩) ?_
      refine mKG hok rfl rfl rfl rfl (fun a' w' F' E' => o_gtrF (F'.ev rfl) (F'.ev rfl) (by omega) ⟨Ext.refl _ _, rfl⟩) ?_
      refine mKG hok rfl rfl rfl rfl (fun a' w' F' E' => o_move (F'.ev rfl) ⟨Ext.refl _ _, rfl⟩) ?_
      refine mOff hok rfl rfl rfl rfl rfl ?_
      refine mOff hok rfl rfl rfl rfl rfl ?_
      refine mOff hok rfl rfl rfl rfl rfl ?_
      refine mOff hok rfl rfl rfl rfl rfl ?_
      refine mOff hok rfl rfl rfl rfl rfl ?_
      refine mOff hok rfl rfl rfl rfl rfl ?_
      refine mOff hok rfl rfl rfl rfl rfl ?_
      refine mOff hok rfl rfl rfl rfl rfl ?_
      refine mOff hok rfl rfl rfl rfl rfl ?_
      refine mOff hok rfl rfl rfl rfl rfl ?_
      refine mOff hok rfl rfl rfl rfl rfl ?_
      refine mOff hok rfl rfl rfl rfl rfl ?_
      refine mOff hok rfl rfl rfl rfl rfl ?_
      refine mKG hok rfl rfl rfl rfl (fun a' w' F' E' => o_pickF (F'.ev rfl) (F'.ev rfl) ⟨Ext.refl _ _, rfl⟩) ?_
      (refine mDone rfl rfl ?_; clear F M; intro a w F hE2 hX hTT hDD hPP; have M := M1.later hE2; clear M1; clear hX; clear hE2; clear hok; clear hE; clear hTT; clear hDD; clear hPP; (try dsimp only at F))
      refine sD F (o_pickF (F.ev rfl) (F.ev rfl) ?_); clear F a; intro a F
      with_reducible refine l_nil (q_then ?_)
      refine c_false F rfl rfl ?_
      with_reducible refine c_skip (q_inB (q_then (c_region ?_)))
      refine sD F (o_add (F.ev rfl) (F.ev rfl) (w_i64 (by omega) (by omega)) ?_); clear F a; intro a F
      refine sD F (o_move (F.ev rfl) ?_); clear F a; intro a F
      with_reducible refine l_nil (q_then ?_)
      exact ⟨_, by omega, i + 1, rfl, by omega, fun j hj => by
          rcases Nat.lt_or_ge j i with h1 | h1
          · exact hv j h1
          · obtain rfl : j = i := by omega
            rw [hv0 hi0], F.only [9, 8, 0] rfl, M⟩
    · have hyv := hx _ (List.getElem_mem (show i - 1 < l.length by omega))
      have p1 : seg cs (o + ((i : Int) - 1).toNat * 40) 40 = some (inC (l[i - 1]'(by omega))) := seg_el (ins_len hx) hs (show i - 1 < l.length by omega) (by omega)
      replace hvs := hvs hi0
      obtain ⟨y, hy0⟩ : ∃ y, y = l[i - 1]'(by omega) := ⟨_, rfl⟩
      rw [← hy0] at hyv p1 hvs
      have p2 : seg cs (o + ((i : Int) - 1).toNat * 40) 35 = some (dvC y.to) := sg_seg p1 (in_to hyv) (by omega)
      clear hy0
      by_cases c9 : cmpN y x < 0
      · have c8 : cmpD y.to x.to < 0 := c9
        refine c_draw 24 F (by kernel_rfl) ?_
        intro w1 hE hok
        have M1 := M.later hE
        refine mK hok rfl rfl (fun a' w' F' E' => o_move (F'.ev rfl) ⟨Ext.refl _ _, rfl⟩) ?_
        refine mK hok rfl rfl (fun a' w' F' E' => o_move (F'.ev rfl) ⟨Ext.refl _ _, rfl⟩) ?_
        refine mK hok rfl rfl (fun a' w' F' E' => o_indexSl (F'.ev rfl) (F'.ev rfl) (by omega) (by omega) ⟨Ext.refl _ _, rfl⟩) ?_
        refine mK hok rfl rfl (fun a' w' F' E' => o_loadWA (M1.later E') (F'.ev rfl) (by assumption) (by first | assumption | rfl) ⟨Ext.refl _ _, rfl⟩) ?_
        (refine mK hok rfl rfl (fun a' w' F' E' => o_call (F'.ev rfl) (F'.evs rfl) (Cal.mono (Cal.to (v' := .bool true) (refelem_c x hxv _) (by rw [c1])) fun _ _ hh => ⟨hh.2, hh.1⟩)) ?_)
        refine mK hok rfl rfl (fun a' w' F' E' => o_not (F'.ev rfl) ⟨Ext.refl _ _, rfl⟩) ?_
        refine mK hok rfl rfl (fun a' w' F' E' => o_move (F'.ev rfl) ⟨Ext.refl _ _, rfl⟩) ?_
        refine mKG hok rfl rfl rfl rfl (fun a' w' F' E' => o_move (F'.ev rfl) ⟨Ext.refl _ _, rfl⟩) ?_
        refine mKG hok rfl rfl rfl rfl (fun a' w' F' E' => o_gtrT (F'.ev rfl) (F'.ev rfl) (by omega) ⟨Ext.refl _ _, rfl⟩) ?_
        refine mKG hok rfl rfl rfl rfl (fun a' w' F' E' => o_move (F'.ev rfl) ⟨Ext.refl _ _, rfl⟩) ?_
        refine mKG hok rfl rfl rfl rfl (fun a' w' F' E' => o_move (F'.ev rfl) ⟨Ext.refl _ _, rfl⟩) ?_
        refine mKG hok rfl rfl rfl rfl (fun a' w' F' E' => o_move (F'.ev rfl) ⟨Ext.refl _ _, rfl⟩) ?_
        refine mKG hok rfl rfl rfl rfl (fun a' w' F' E' => o_sub (F'.ev rfl) (F'.ev rfl) (w_i64 (by omega) (by omega)) ⟨Ext.refl _ _, rfl⟩) ?_
        refine mKG hok rfl rfl rfl rfl (fun a' w' F' E' => o_indexSl (F'.ev rfl) (F'.ev rfl) (by omega) (by omega) ⟨Ext.refl _ _, rfl⟩) ?_
        refine mKG hok rfl rfl rfl rfl (fun a' w' F' E' => o_fieldAddr (F'.ev rfl) ⟨Ext.refl _ _, rfl⟩) ?_
        refine mKG hok rfl rfl rfl rfl (fun a' w' F' E' => o_loadWA (M1.later E') (F'.ev rfl) (by assumption) (by first | assumption | rfl) ⟨Ext.refl _ _, rfl⟩) ?_
        refine mKG hok rfl rfl rfl rfl (fun a' w' F' E' => o_move (F'.ev rfl) ⟨Ext.refl _ _, rfl⟩) ?_
        refine mKG hok rfl rfl rfl rfl (fun a' w' F' E' => o_move (F'.ev rfl) ⟨Ext.refl _ _, rfl⟩) ?_
        refine mKG hok rfl rfl rfl rfl (fun a' w' F' E' => o_indexSl (F'.ev rfl) (F'.ev rfl) (by omega) (by omega) ⟨Ext.refl _ _, rfl⟩) ?_
        refine mKG hok rfl rfl rfl rfl (fun a' w' F' E' => o_fieldAddr (F'.ev rfl) ⟨Ext.refl _ _, rfl⟩) ?_
        refine mKG hok rfl rfl rfl rfl (fun a' w' F' E' => o_loadWA (M1.later E') (F'.ev rfl) (by assumption) (by first | assumption | rfl) ⟨Ext.refl _ _, rfl⟩) ?_
        (refine mKG hok rfl rfl rfl rfl (fun a' w' F' E' => o_call (F'.ev rfl) (F'.evs rfl) (Cal.mono (rcompare_c y.to x.to hyv.1 hxv.1 _) fun _ _ hh => ⟨hh.2, hh.1⟩)) ?_)
        refine mKG hok rfl rfl rfl rfl (fun a' w' F' E' => o_geqF (F'.ev rfl) (F'.ev rfl) (by omega) ⟨Ext.refl _ _, rfl⟩) ?_
        refine mKG hok rfl rfl rfl rfl (fun a' w' F' E' => o_pickT (F'.ev rfl) (F'.ev rfl) ⟨Ext.refl _ _, rfl⟩) ?_
        (refine mDone rfl rfl ?_; clear F M; intro a w F hE2 hX hTT hDD hPP; have M := M1.later hE2; clear M1; clear hX; clear hE2; clear hok; clear hE; clear hTT; clear hDD; clear hPP; (try dsimp only at F))
        refine sD F (o_pickF (F.ev rfl) (F.ev rfl) ?_); clear F a; intro a F
        with_reducible refine l_nil (q_then ?_)
        refine c_false F rfl rfl ?_
        with_reducible refine c_skip (q_inB (q_then (c_region ?_)))
        refine sD F (o_add (F.ev rfl) (F.ev rfl) (w_i64 (by omega) (by omega)) ?_); clear F a; intro a F
        refine sD F (o_move (F.ev rfl) ?_); clear F a; intro a F
        with_reducible refine l_nil (q_then ?_)
        exact ⟨_, by omega, i + 1, rfl, by omega, fun j hj => by
          rcases Nat.lt_or_ge j i with h1 | h1
          · exact hv j h1
          · obtain rfl : j = i := by omega
            rw [hvs]; simp [c9], F.only [9, 8, 0] rfl, M⟩
      · rw [rng_f hlt (by rw [hvs]; simp [c9])]
        have c8 : ¬ cmpD y.to x.to < 0 := c9
        refine c_draw 24 F (by kernel_rfl) ?_
        intro w1 hE hok
        have M1 := M.later hE
        refine mK hok rfl rfl (fun a' w' F' E' => o_move (F'.ev rfl) ⟨Ext.refl _ _, rfl⟩) ?_
        refine mK hok rfl rfl (fun a' w' F' E' => o_move (F'.ev rfl) ⟨Ext.refl _ _, rfl⟩) ?_
        refine mK hok rfl rfl (fun a' w' F' E' => o_indexSl (F'.ev rfl) (F'.ev rfl) (by omega) (by omega) ⟨Ext.refl _ _, rfl⟩) ?_
        refine mK hok rfl rfl (fun a' w' F' E' => o_loadWA (M1.later E') (F'.ev rfl) (by assumption) (by first | assumption | rfl) ⟨Ext.refl _ _, rfl⟩) ?_
        (refine mK hok rfl rfl (fun a' w' F' E' => o_call (F'.ev rfl) (F'.evs rfl) (Cal.mono (Cal.to (v' := .bool true) (refelem_c x hxv _) (by rw [c1])) fun _ _ hh => ⟨hh.2, hh.1⟩)) ?_)
        refine mK hok rfl rfl (fun a' w' F' E' => o_not (F'.ev rfl) ⟨Ext.refl _ _, rfl⟩) ?_
        refine mK hok rfl rfl (fun a' w' F' E' => o_move (F'.ev rfl) ⟨Ext.refl _ _, rfl⟩) ?_
        refine mKG hok rfl rfl rfl rfl (fun a' w' F' E' => o_move (F'.ev rfl) ⟨Ext.refl _ _, rfl⟩) ?_
        refine mKG hok rfl rfl rfl rfl (fun a' w' F' E' => o_gtrT (F'.ev rfl) (F'.ev rfl) (by omega) ⟨Ext.refl _ _, rfl⟩) ?_
        refine mKG hok rfl rfl rfl rfl (fun a' w' F' E' => o_move (F'.ev rfl) ⟨Ext.refl _ _, rfl⟩) ?_
        refine mKG hok rfl rfl rfl rfl (fun a' w' F' E' => o_move (F'.ev rfl) ⟨Ext.refl _ _, rfl⟩) ?_
        refine mKG hok rfl rfl rfl rfl (fun a' w' F' E' => o_move (F'.ev rfl) ⟨Ext.refl _ _, rfl⟩) ?_
        refine mKG hok rfl rfl rfl rfl (fun a' w' F' E' => o_sub (F'.ev rfl) (F'.ev rfl) (w_i64 (by omega) (by omega)) ⟨Ext.refl _ _, rfl⟩) ?_
        refine mKG hok rfl rfl rfl rfl (fun a' w' F' E' => o_indexSl (F'.ev rfl) (F'.ev rfl) (by omega) (by omega) ⟨Ext.refl _ _, rfl⟩) ?_
        refine mKG hok rfl rfl rfl rfl (fun a' w' F' E' => o_fieldAddr (F'.ev rfl) ⟨Ext.refl _ _, rfl⟩) ?_
        refine mKG hok rfl rfl rfl rfl (fun a' w' F' E' => o_loadWA (M1.later E') (F'.ev rfl) (by assumption) (by first | assumption | rfl) ⟨Ext.refl _ _, rfl⟩) ?_
        refine mKG hok rfl rfl rfl rfl (fun a' w' F' E' => o_move (F'.ev rfl) ⟨Ext.refl _ _, rfl⟩) ?_
        refine mKG hok rfl rfl rfl rfl (fun a' w' F' E' => o_move (F'.ev rfl) ⟨Ext.refl _ _, rfl⟩) ?_
        refine mKG hok rfl rfl rfl rfl (fun a' w' F' E' => o_indexSl (F'.ev rfl) (F'.ev rfl) (by omega) (by omega) ⟨Ext.refl _ _, rfl⟩) ?_
        refine mKG hok rfl rfl rfl rfl (fun a' w' F' E' => o_fieldAddr (F'.ev rfl) ⟨Ext.refl _ _, rfl⟩) ?_
        refine mKG hok rfl rfl rfl rfl (fun a' w' F' E' => o_loadWA (M1.later E') (F'.ev rfl) (by assumption) (by first | assumption | rfl) ⟨Ext.refl _ _, rfl⟩) ?_
        (refine mKG hok rfl rfl rfl rfl (fun a' w' F' E' => o_call (F'.ev rfl) (F'.evs rfl) (Cal.mono (rcompare_c y.to x.to hyv.1 hxv.1 _) fun _ _ hh => ⟨hh.2, hh.1⟩)) ?_)
        refine mKG hok rfl rfl rfl rfl (fun a' w' F' E' => o_geqT (F'.ev rfl) (F'.ev rfl) (by omega) ⟨Ext.refl _ _, rfl⟩) ?_
        refine mKG hok rfl rfl rfl rfl (fun a' w' F' E' => o_pickT (F'.ev rfl) (F'.ev rfl) ⟨Ext.refl _ _, rfl⟩) ?_
        (refine mDone rfl rfl ?_; clear F M; intro a w F hE2 hX hTT hDD hPP; have M := M1.later hE2; clear M1; clear hX; clear hE2; clear hok; clear hE; clear hTT; clear hDD; clear hPP; (try dsimp only at F))
        refine sD F (o_pickF (F.ev rfl) (F.ev rfl) ?_); clear F a; intro a F
        with_reducible refine l_nil (q_then ?_)
        refine c_true F rfl rfl ?_
        refine c_seq (c_region ?_)
        refine sD F (o_assign (F.ev rfl) ?_); clear F a; intro a F
        with_reducible refine l_nil (q_then (c_ret (q_inBR (q_thenR (q_thenR (q_inBR (q_thenR ?_)))))))
        refine p_ret F rfl (.cons (.tmp (F.ev rfl)) .nil) ?_
        exact ⟨rfl, M.ext⟩
  · obtain rfl : i = l.length := by omega
    rw [rng_t hv]
    refine c_seq (c_region ?_)
    refine sD F (o_lssF (F.ev rfl) (F.ev rfl) (by omega) ?_); clear F a; intro a F
    with_reducible refine l_nil (q_then (c_seq ?_))
    refine c_false F rfl rfl ?_
    with_reducible refine c_exit (q_thenX (q_thenX (q_inBX (q_then (c_seq (c_region ?_))))))
    refine sD F (o_assign (F.ev rfl) ?_); clear F a; intro a F
    with_reducible refine l_nil (q_then (c_ret ?_))
    refine p_ret F rfl (.cons (.tmp (F.ev rfl)) .nil) ?_
    exact ⟨rfl, M.ext⟩
end Go.Proofs.YtilgoepokaaleaaGreat
/-! LibY -/
namespace Go.Proofs.YtilgoepokaaleaaGreat
set_option linter.unusedVariables false
set_option linter.unusedSimpArgs false
open Go.RowKit
theorem false_of_not {b : Bool} (h : (!b) = true) : b = false := by cases b <;> simp_all
theorem true_of_not {b : Bool} (h : (!b) = false) : b = true := by cases b <;> simp_all
section
variable {P : Program} {ρ : Operand → Value} {w W0 : World} {S : List Nat} {l l' : List (Nat × Obj)} {R : Value → World → Prop} {d : Option Tmp} {ty : TypeId} {pos : String} {af : Array Edge} {g : Option (Nat × Bool)}
theorem o_append1 {α : Type} {enc : α → List Value} {out : List α} {x0 : α} {st xt e : TypeId} {x y : Operand} {sz by_ : Nat} {v xv : Value} {ent : List (Nat × Obj)} {f : List (Nat × Obj) → List (Nat × Obj)} [hst : TU P st (.slice e)] [hel : TEl P e sz by_] [hxt : TNI P xt] (hO : OwnS e sz v out.length (encL enc out) ent) (M : Mem S W0 w l) (hl : TailAt ent l f)
    (hx : ρ x = v) (hy : ρ y = xv) (hX : SrcOf P w xv 1 sz (enc x0)) (hbd : (out.length + 1) * by_ ≤ 140737488355328)
    (h : ∀ v' ent' w', OwnS e sz v' (out ++ [x0]).length (encL enc (out ++ [x0])) ent' → Mem S W0 w' (f ent') → R v' w') (hln : out.length + 1 ≤ 9223372036854775807 := by first | omega | (simp only [List.length_append, List.length_singleton]; omega)) : OpTo P ⟨d, .call ⟨.builtin .append, #[x, y], #[st, xt]⟩, ty, pos, af, g⟩ ρ w R := by
  refine o_append hO M hl hx hy hX hbd hln fun v' ent' w' hO' M' => h v' ent' w' ?_ M'
  rw [encL_app, encL_one, List.length_append, List.length_singleton]
  exact hO'
theorem o_eqlAE {t t' : TypeId} {x y : Operand} {ks : List LK} {xs ys : List Value} {b : Bool} [ht : TEq P t ks] (hx : ρ x = .agg xs.toArray) (hy : ρ y = .agg ys.toArray) (fx : fitsK ks xs = true) (fy : fitsK ks ys = true) (he : eqVs xs ys = b) (h : R (.bool b) w) : OpTo P ⟨d, .binOp .eql t x y t', ty, pos, af, g⟩ ρ w R := o_eqlA hx hy fx fy (by rw [he]; exact h)
end
theorem SlAt.memB {W : World} {sz : Nat} {q : Option Addr} {n cap : Nat} {cs : List Value} (h : SlAt W sz (.slice q n cap) n cs) (S : List Nat) (hn : ∀ b o s, q = some ⟨b, o, s⟩ → b ∉ S) : 0 < n → ∃ b o xs t fz, q = some ⟨b, o, none⟩ ∧ (∀ w', Ext S W w' → w'.heap[b]? = some (.cells (List.toArray xs) t fz)) ∧ seg xs o (n * sz) = some cs := by
  obtain ⟨p, cap', e, _, _, _, h5⟩ := h
  cases e
  intro h0
  obtain ⟨b, o, xs, t, fz, rfl, hb, hs⟩ := h5 h0
  refine ⟨b, o, xs, t, fz, rfl, fun w' E => ?_, hs⟩
  rw [E.block b (Array.getElem?_eq_some_iff.1 hb).1 (hn b o none rfl)]
  exact hb
/-! one element merged into an ascending list: c tells how each stands to it -/
section
variable {α : Type} (c : α → Int) (x : α)
end
end Go.Proofs.YtilgoepokaaleaaGreat
/-! YA -/
namespace Go.Proofs.YtilgoepokaaleaaGreat
set_option linter.unusedVariables false
set_option linter.unusedSimpArgs false
open Go.RowKit
attribute [local irreducible] OpTo wpListIn Code.wpIn MW Cal
theorem seqE_c {bt : Nat} {p : Option Addr} {len cap k : Nat} {xs : List Int} (W : World) (hT : TapeS W bt p len xs) (hb : W.heap[bt]? = some (tobj p len cap k)) :
    Cal Tryz.prog 88 [.pointer (some ⟨bt, 0, none⟩)].toArray W fun v w' => ∃ x k', v = .int .u16 x ∧ Mem [bt] W w' [(bt, tobj p len cap k')] := by
  refine fn_ofM (n := 7) [bt] Tryz.func88 rfl rfl rfl ?_
  intro a w F M hwW
  replace M := M.came hwW hb (by simp) (by simp)
  refine c_seq (c_region ?_)
  refine sD F (o_assign (F.ev rfl) ?_); clear F a; intro a F
  with_reducible refine l_nil (q_then (c_seq (c_region ?_)))
  refine sD F (o_move (F.ev rfl) ?_); clear F a; intro a F
  (refine sD F (o_call (F.ev rfl) (F.evs rfl) (Cal.mono (nextE_c 6 (by omega) (by omega) _ (hT.later M.ext) (M.heap .here) ) ?_)); clear F; clear a; have M0 := M; clear M; rintro _ w ⟨x, k', rfl, hx, N⟩ a F)
  replace M := M0.turn1 N .here
  clear M0 N
  refine sD F (o_sub (F.ev rfl) (F.ev rfl) (w_i64 (by omega) (by omega)) ?_); clear F a; intro a F
  refine sD F (o_conv (F.ev rfl) rfl ?_); clear F a; intro a F
  refine sD F (o_assign (F.ev rfl) ?_); clear F a; intro a F
  with_reducible refine l_nil (q_then (c_ret ?_))
  refine p_ret F rfl (.cons (.tmp (F.ev rfl)) .nil) ?_
  exact ⟨_, k', rfl, M⟩
theorem costE_c {bt : Nat} {p : Option Addr} {len cap k : Nat} {xs : List Int} (W : World) (hT : TapeS W bt p len xs) (hb : W.heap[bt]? = some (tobj p len cap k)) :
    Cal Tryz.prog 44 [.pointer (some ⟨bt, 0, none⟩)].toArray W fun v w' => ∃ x k', v = .int .i64 x ∧ (0 ≤ x ∧ x ≤ 65534) ∧ Mem [bt] W w' [(bt, tobj p len cap k')] := by
  refine fn_ofM (n := 18) [bt] Tryz.func44 rfl rfl rfl ?_
  intro a w F M hwW
  replace M := M.came hwW hb (by simp) (by simp)
  refine c_seq (c_region ?_)
  refine sD F (o_assign (F.ev rfl) ?_); clear F a; intro a F
  with_reducible refine l_nil (q_then (c_seq (c_seq (c_region ?_))))
  refine sD F (o_move (F.ev rfl) ?_); clear F a; intro a F
  (refine sD F (o_call (F.ev rfl) (F.evs rfl) (Cal.mono (nextE_c 6 (by omega) (by omega) _ (hT.later M.ext) (M.heap .here) ) ?_)); clear F; clear a; have M0 := M; clear M; rintro _ w ⟨x, k', rfl, hx, N⟩ a F)
  replace M := M0.turn1 N .here
  clear M0 N
  by_cases c1 : x = 0
  · with_reducible refine l_nil ?_
    with_reducible refine q_then (c_block (c_seq (c_region ?_)))
    refine sD F (o_eqlT (F.ev rfl) (F.ev rfl) (by omega) ?_); clear F a; intro a F
    refine sD F (o_assign (F.ev rfl) ?_); clear F a; intro a F
    with_reducible refine l_nil (q_then ?_)
    refine c_true F rfl rfl ?_
    refine c_seq (c_region ?_)
    refine sD F (o_move (F.ev rfl) ?_); clear F a; intro a F
    (refine sD F (o_call (F.ev rfl) (F.evs rfl) (Cal.mono (nextE_c 4 (by omega) (by omega) _ (hT.later M.ext) (M.heap .here) ) ?_)); clear F; clear a; have M0 := M; clear M; rintro _ w ⟨x2, k2, rfl, hx2, N⟩ a F)
    replace M := M0.turn1 N .here
    refine sD F (o_assign (F.ev rfl) ?_); clear F a; intro a F
    with_reducible refine l_nil (q_then (c_ret (q_inBR (q_thenR ?_))))
    refine p_ret F rfl (.cons (.tmp (F.ev rfl)) .nil) ?_
    exact ⟨_, k2, rfl, by omega, M⟩
  by_cases c2 : x = 1
  · with_reducible refine l_nil ?_
    with_reducible refine q_then (c_block (c_seq (c_region ?_)))
    refine sD F (o_eqlF (F.ev rfl) (F.ev rfl) (by omega) ?_); clear F a; intro a F
    refine sD F (o_assign (F.ev rfl) ?_); clear F a; intro a F
    with_reducible refine l_nil (q_then ?_)
    refine c_false F rfl rfl ?_
    refine c_seq (c_region ?_)
    refine sD F (o_eqlT (F.ev rfl) (F.ev rfl) (by omega) ?_); clear F a; intro a F
    refine sD F (o_assign (F.ev rfl) ?_); clear F a; intro a F
    with_reducible refine l_nil (q_then ?_)
    refine c_true F rfl rfl ?_
    refine c_seq (c_region ?_)
    refine sD F (o_move (F.ev rfl) ?_); clear F a; intro a F
    (refine sD F (o_call (F.ev rfl) (F.evs rfl) (Cal.mono (nextE_c 600 (by omega) (by omega) _ (hT.later M.ext) (M.heap .here) ) ?_)); clear F; clear a; have M0 := M; clear M; rintro _ w ⟨x2, k2, rfl, hx2, N⟩ a F)
    replace M := M0.turn1 N .here
    refine sD F (o_sub (F.ev rfl) (F.ev rfl) (w_i64 (by omega) (by omega)) ?_); clear F a; intro a F
    refine sD F (o_assign (F.ev rfl) ?_); clear F a; intro a F
    with_reducible refine l_nil (q_then (c_ret (q_inBR (q_thenR ?_))))
    refine p_ret F rfl (.cons (.tmp (F.ev rfl)) .nil) ?_
    exact ⟨_, k2, rfl, by omega, M⟩
  · with_reducible refine l_nil ?_
    with_reducible refine q_then (c_block (c_seq (c_region ?_)))
    refine sD F (o_eqlF (F.ev rfl) (F.ev rfl) (by omega) ?_); clear F a; intro a F
    refine sD F (o_assign (F.ev rfl) ?_); clear F a; intro a F
    with_reducible refine l_nil (q_then ?_)
    refine c_false F rfl rfl ?_
    refine c_seq (c_region ?_)
    refine sD F (o_eqlF (F.ev rfl) (F.ev rfl) (by omega) ?_); clear F a; intro a F
    refine sD F (o_assign (F.ev rfl) ?_); clear F a; intro a F
    with_reducible refine l_nil (q_then ?_)
    refine c_false F rfl rfl ?_
    with_reducible refine c_skip (q_inB (q_then (c_seq (c_region ?_))))
    refine sD F (o_move (F.ev rfl) ?_); clear F a; intro a F
    (refine sD F (o_call (F.ev rfl) (F.evs rfl) (Cal.mono (nextE_c 30 (by omega) (by omega) _ (hT.later M.ext) (M.heap .here) ) ?_)); clear F; clear a; have M0 := M; clear M; rintro _ w ⟨x2, k2, rfl, hx2, N⟩ a F)
    replace M := M0.turn1 N .here
    refine sD F (o_mul (F.ev rfl) (F.ev rfl) (w_i64 (by omega) (by omega)) ?_); clear F a; intro a F
    refine sD F (o_add (F.ev rfl) (F.ev rfl) (w_i64 (by omega) (by omega)) ?_); clear F a; intro a F
    refine sD F (o_assign (F.ev rfl) ?_); clear F a; intro a F
    with_reducible refine l_nil (q_then (c_ret ?_))
    refine p_ret F rfl (.cons (.tmp (F.ev rfl)) .nil) ?_
    exact ⟨_, k2, rfl, by omega, M⟩
theorem distE_c {bt : Nat} {p : Option Addr} {len cap k : Nat} {xs : List Int} (W : World) (hT : TapeS W bt p len xs) (hb : W.heap[bt]? = some (tobj p len cap k)) :
    Cal Tryz.prog 39 [.pointer (some ⟨bt, 0, none⟩)].toArray W fun v w' => ∃ x k', v = diV x ∧ (0 ≤ x.met ∧ x.met ≤ 65534) ∧ Mem [bt] W w' [(bt, tobj p len cap k')] := by
  refine fn_ofM (n := 8) [bt] Tryz.func39 rfl rfl rfl ?_
  intro a w F M hwW
  replace M := M.came hwW hb (by simp) (by simp)
  refine c_seq ?_
  refine c_region ?_
  (refine sD F (o_alloc M ?_); clear F M; intro b2 w M a F)
  with_reducible refine l_nil (q_then (c_seq (c_region ?_)))
  refine sD F (o_move (F.ev rfl) ?_); clear F a; intro a F
  (refine sD F (o_call (F.ev rfl) (F.evs rfl) (Cal.mono (seqE_c _ (hT.later M.ext) (M.heap (.there .here)) ) ?_)); clear F; clear a; have M0 := M; clear M; rintro _ w ⟨x, k1, rfl, N⟩ a F)
  replace M := M0.turn1 N (.there .here)
  clear M0 N
  refine sD F (o_move (F.ev rfl) ?_); clear F a; intro a F
  (refine sD F (o_call (F.ev rfl) (F.evs rfl) (Cal.mono (costE_c _ (hT.later M.ext) (M.heap (.there .here)) ) ?_)); clear F; clear a; have M0 := M; clear M; rintro _ w ⟨y, k2, rfl, hy, N⟩ a F)
  replace M := M0.turn1 N (.there .here)
  clear M0 N
  refine sD F (o_build F rfl rfl ?_); clear F a; intro a F
  (refine stepN rfl F (o_storeA M (F.ev rfl) (F.ev rfl) (by rfl) (by rfl) (by repeat constructor) (by rfl) (by repeat constructor) ?_); clear F M; intro w M a F)
  with_reducible refine l_nil (q_then (c_ret ?_))
  exact p_ret F rfl (.cons (.cell (F.ev rfl) (run_loadVar_agg TAgg.h (M.heap (by repeat constructor)) rfl)) .nil) ⟨⟨x, y⟩, k2, rfl, hy, M.sub (.cons _ (.refl _))⟩
def tabTo : List Int := [128, 128, 64, 0]
theorem tabTo_bd (i : Nat) : 0 ≤ tabTo.getD i 0 ∧ tabTo.getD i 0 ≤ 128 := by
  rcases Nat.lt_or_ge i 4 with h | h
  · have : ∀ i : Fin 4, 0 ≤ tabTo.getD i.val 0 ∧ tabTo.getD i.val 0 ≤ 128 := by decide
    exact this ⟨i, h⟩
  · rw [List.getD_eq_getElem?_getD, List.getElem?_eq_none (by simpa [tabTo] using h)]
    simp
def zr16 : List Int := [0, 0, 0, 0, 0, 0, 0, 0, 0, 0, 0, 0, 0, 0, 0, 0]
theorem zr16_is : IsIP zr16 := ⟨rfl, by intro x hx; simp [zr16] at hx; omega⟩
theorem dv_buildT {z : List Int} (hz : IsIP z) (n e : Int) : putAll [(0, 17), (17, 17), (34, 1)] dvZ [(0, pfC z n), (2, [.int .u64 e])] = some (dvC ⟨z, n, zr16, 0, e⟩) := by
  obtain ⟨z0, z1, z2, z3, z4, z5, z6, z7, z8, z9, z10, z11, z12, z13, z14, z15, ez⟩ := len16 hz.len
  subst ez
  rfl
theorem zero_valid : validP zr16 0 = true := by decide
set_option maxHeartbeats 1000000 in
theorem toE_c {bt : Nat} {p : Option Addr} {len cap k : Nat} {xs : List Int} (W : World) (hT : TapeS W bt p len xs) (hb : W.heap[bt]? = some (tobj p len cap k)) :
    Cal Tryz.prog 20 [.pointer (some ⟨bt, 0, none⟩)].toArray W fun v w' => ∃ x k', v = dvV x ∧ IsDv x ∧ validT x = true ∧ Mem [bt] W w' [(bt, tobj p len cap k')] := by
  refine fn_ofM (n := 21) [bt] Tryz.func20 rfl rfl rfl ?_
  intro a w F M hwW
  replace M := M.came hwW hb (by simp) (by simp)
  refine c_seq ?_
  refine c_region ?_
  (refine sD F (o_alloc M ?_); clear F M; intro b2 w M a F)
  with_reducible refine l_nil (q_then (c_seq (c_region ?_)))
  refine sD F (o_move (F.ev rfl) ?_); clear F a; intro a F
  (refine sD F (o_call (F.ev rfl) (F.evs rfl) (Cal.mono (wipD_c _ (hT.later M.ext) (M.heap (.there .here)) ) ?_)); clear F; clear a; have M0 := M; clear M; rintro _ w ⟨rfl, N⟩ a F)
  replace M := M0.turn1 N (.there .here)
  clear M0 N
  have hip := wipV_is xs k
  generalize wipV xs k = ip at *
  generalize wipK xs k = k1 at *
  skip
  (refine sD F (o_buildSlice F M rfl rfl rfl rfl ?_); clear F M; intro b6 w M a F)
  refine sD F (o_move (F.ev rfl) ?_); clear F a; intro a F
  (refine sD F (o_call (F.ev rfl) (F.evs rfl) (Cal.mono (next_c 4 (by omega) (by omega) _ (hT.later M.ext) (M.heap (.there (.there .here))) ) ?_)); clear F; clear a; have M0 := M; clear M; rintro _ w ⟨rfl, N⟩ a F)
  replace M := M0.turn1 N (.there (.there .here))
  clear M0 N
  have v1 := nxV_bd xs k1 (n := 4) (by omega)
  have n1 := nth_tab (k := .i64) (xs := tabTo) v1.1 (by simpa [tabTo] using v1.2)
  have hbd := tabTo_bd (nxV xs k1 4).toNat
  (refine sD F (o_indexSl (F.ev rfl) (F.ev rfl) (by omega) (by omega) ?_); clear F a; intro a F)
  (refine sD F (o_load1 M (F.ev rfl) (by repeat constructor) (n1) ?_); clear F a; intro a F)
  generalize tabTo.getD (nxV xs k1 4).toNat 0 = n at *
  generalize nxV xs k1 4 = q at *
  generalize nxK xs k1 = k2 at *
  have hcl : clampB n = n := clamp_in hbd.1 hbd.2
  (refine sD F (o_call (F.ev rfl) (F.evs rfl) (Cal.mono (Cal.to (rmask_c ip hip n _) (by rw [hcl])) ?_)); clear F; clear a; rintro _ w ⟨rfl, hE⟩ a F; replace M := M.later hE; clear hE)
  have hmi := mask_isIP hip n
  have hvm := valid_mask hip hbd.1 hbd.2
  generalize maskI ip n = mip at *
  refine sD F (o_move (F.ev rfl) ?_); clear F a; intro a F
  (refine sD F (o_call (F.ev rfl) (F.evs rfl) (Cal.mono (eui_c _ (hT.later M.ext) (M.heap (.there (.there .here))) ) ?_)); clear F; clear a; have M0 := M; clear M; rintro _ w ⟨e, k3, rfl, he, N⟩ a F)
  replace M := M0.turn1 N (.there (.there .here))
  clear M0 N
  have hd : IsDv ⟨mip, n, zr16, 0, e⟩ := ⟨hmi, zr16_is⟩
  (refine sD F (o_build F rfl (dv_buildT hmi n e) ?_); clear F a; intro a F)
  skip
  (refine sD F (o_alloc M ?_); clear F M; intro b3 w M a F)
  (refine stepN rfl F (o_storeA M (F.ev rfl) (F.ev rfl) (dv_len hd) (dv_one _)  (by repeat constructor)  (put_all (by rw [dv_len hd]; rfl)) (by repeat constructor) ?_); clear F M; intro w M a F)
  with_reducible refine l_nil (q_then (c_seq (c_seq (c_region ?_))))
  refine sD F (o_move (F.ev rfl) ?_); clear F a; intro a F
  (refine sD F (o_call (F.ev rfl) (F.evs rfl) (Cal.mono (boolE_c 3 (by omega) (by omega) _ (hT.later M.ext) (M.heap (.there (.there (.there .here)))) ) ?_)); clear F; clear a; have M0 := M; clear M; rintro _ w ⟨c, k4, rfl, N⟩ a F)
  replace M := M0.turn1 N (.there (.there (.there .here)))
  clear M0 N
  cases c
  · have g0 := dv_all hd
    with_reducible refine l_nil (q_then ?_)
    refine c_false F rfl rfl ?_
    with_reducible refine c_skip (q_then (c_seq (c_region ?_)))
    refine sD F (o_loadA M (F.ev rfl) (by repeat constructor) (by first | assumption | rfl) ?_); clear F a; intro a F
    (refine stepN rfl F (o_storeA M (F.ev rfl) (F.ev rfl) (dv_len hd) (dv_one _)  (by repeat constructor)  (put_all (by rw [dv_len hd]; rfl)) (by repeat constructor) ?_); clear F M; intro w M a F)
    with_reducible refine l_nil (q_then (c_ret ?_))
    exact p_ret F rfl (.cons (.cell (F.ev rfl) (run_loadVar_agg TAgg.h (M.heap (by repeat constructor)) g0)) .nil) ⟨_, k4, rfl, hd, by simp [validT, hvm, zero_valid]; omega, M.sub (by repeat (first | exact List.Sublist.refl _ | apply List.Sublist.cons))⟩
  · with_reducible refine l_nil ?_
    with_reducible refine q_then ?_
    refine c_true F rfl rfl ?_
    refine c_region ?_
    refine sD F (o_move (F.ev rfl) ?_); clear F a; intro a F
    (refine sD F (o_call (F.ev rfl) (F.evs rfl) (Cal.mono (wprefix_c _ (hT.later M.ext) (M.heap (.there (.there (.there .here)))) ) ?_)); clear F; clear a; have M0 := M; clear M; rintro _ w ⟨rfl, N⟩ a F)
    replace M := M0.turn1 N (.there (.there (.there .here)))
    clear M0 N
    have hpi : IsIP (maskI (wpA xs k4) (wpN xs k4)) := mask_isIP (wipV_is _ _) _
    have hpb := wpN_bd xs k4
    have hpv := valid_mask (wipV_is xs (wpK0 xs k4)) hpb.1 hpb.2
    change validP (maskI (wpA xs k4) (wpN xs k4)) (wpN xs k4) = true at hpv
    generalize maskI (wpA xs k4) (wpN xs k4) = sip at *
    generalize wpN xs k4 = sn at *
    generalize wpK xs k4 = k5 at *
    have hd2 : IsDv ⟨mip, n, sip, sn, e⟩ := ⟨hmi, hpi⟩
    have g0 := dv_all hd2
    refine sD F (o_fieldAddr (F.ev rfl) ?_); clear F a; intro a F
    (refine stepN rfl F (o_storeA M (F.ev rfl) (F.ev rfl) (pfC_len hpi.len sn) (one_pf _ _)  (by repeat constructor)  (dv_put_src hd hpi sn) (by repeat constructor) ?_); clear F M; intro w M a F)
    replace M : Mem [bt] W w [(b3, .cells (dvC ⟨mip, n, sip, sn, e⟩).toArray 45 (0, 0)), (b6, _), (b2, _), (bt, _)] := M
    with_reducible refine l_nil (q_then (c_seq (c_region ?_)))
    refine sD F (o_loadA M (F.ev rfl) (by repeat constructor) (by first | assumption | rfl) ?_); clear F a; intro a F
    (refine stepN rfl F (o_storeA M (F.ev rfl) (F.ev rfl) (dv_len hd2) (dv_one _)  (by repeat constructor)  (put_all (by rw [dv_len hd2]; rfl)) (by repeat constructor) ?_); clear F M; intro w M a F)
    with_reducible refine l_nil (q_then (c_ret ?_))
    exact p_ret F rfl (.cons (.cell (F.ev rfl) (run_loadVar_agg TAgg.h (M.heap (by repeat constructor)) g0)) .nil) ⟨_, k5, rfl, hd2, by simp [validT, hvm, hpv]; omega, M.sub (by repeat (first | exact List.Sublist.refl _ | apply List.Sublist.cons))⟩
end Go.Proofs.YtilgoepokaaleaaGreat
/-! YB -/
namespace Go.Proofs.YtilgoepokaaleaaGreat
set_option linter.unusedVariables false
set_option linter.unusedSimpArgs false
open Go.RowKit
attribute [local irreducible] OpTo wpListIn Code.wpIn MW Cal
/-! slices in new memory -/
def SlN (n0 : Nat) (W : World) (sz : Nat) (v : Value) (n : Nat) (cs : List Value) : Prop := SlAt W sz v n cs ∧ NewV n0 v
section
variable {n0 n1 bt sz n : Nat} {W w : World} {v : Value} {cs : List Value}
theorem SlN.mono (h : SlN n1 W sz v n cs) (hle : n0 ≤ n1) : SlN n0 W sz v n cs := ⟨h.1, fun b o s k c e => Nat.le_trans hle (h.2 b o s k c e)⟩
theorem SlN.notIn (h : SlN n0 W sz v n cs) (hbt : bt < n0) : ∀ b o s k c, v = .slice (some ⟨b, o, s⟩) k c → b ∉ [bt] := fun b o s k c e hb => by
  have := h.2 b o s k c e
  simp only [List.mem_singleton] at hb
  omega
theorem SlN.laterB (h : SlN n0 W sz v n cs) (hbt : bt < n0) (E : Ext [bt] W w) : SlN n0 w sz v n cs := ⟨h.1.laterB (h.notIn hbt) E, h.2⟩
theorem SlN.later (h : SlN n0 W sz v n cs) (E : Ext [] W w) : SlN n0 w sz v n cs := ⟨h.1.later E, h.2⟩
theorem SlN.nil (n0 sz : Nat) (W : World) : SlN n0 W sz (.slice none 0 0) 0 [] := ⟨SlAt.nil _ _, NewV.nil _ _ _⟩
theorem OwnS.slN {e : TypeId} {ent : List (Nat × Obj)} (h : OwnS e sz v n cs ent) {S : List Nat} {W0 : World} {l : List (Nat × Obj)} (M : Mem S W0 w l) (hs : ∀ p ∈ ent, p ∈ l) (hS : ∀ p ∈ ent, p.1 ∉ S) : SlN W0.heap.size w sz v n cs := by
  refine ⟨h.slAt M hs, ?_⟩
  rcases h with ⟨rfl, _, _, rfl⟩ | ⟨b, cap, junk, rfl, rfl, _, _, _⟩
  · exact NewV.nil _ _ _
  · intro b' o s n c h
    cases h
    exact (M.own _ (hs _ List.mem_cons_self)).resolve_left (hS _ List.mem_cons_self)
theorem SlAt.mem {q : Option Addr} {cap : Nat} (h : SlAt W sz (.slice q n cap) n cs) : 0 < n → ∃ b o xs t fz, q = some ⟨b, o, none⟩ ∧ W.heap[b]? = some (.cells (List.toArray xs) t fz) ∧ seg xs o (n * sz) = some cs := by
  obtain ⟨p, cap', e, _, _, _, h5⟩ := h
  cases e
  exact h5
theorem nd_not {b : Nat} {o : Obj} {l ent : List (Nat × Obj)} (h : (((b, o) :: l).map (·.1)).Nodup) (hs : ∀ p ∈ ent, p ∈ l) : ∀ p ∈ ent, p.1 ∉ [b] := fun p hp hb => by
  simp only [List.mem_singleton] at hb
  exact (List.nodup_cons.1 h).1 (List.mem_map.2 ⟨p, hs p hp, hb⟩)
end
/-! PutInstalled, plain -/
def putG (x : InsV) : Bool → List InsV → List InsV
  | done, [] => if done then [] else [x]
  | done, y :: l => (if decide (0 ≤ cmpD y.to x.to) && !done then [x] else []) ++ ((if cmpD y.to x.to = 0 then [] else [y]) ++ putG x (done || decide (0 ≤ cmpD y.to x.to)) l)
theorem putG_cons {x y : InsV} {l : List InsV} {done : Bool} : putG x done (y :: l) = (if decide (0 ≤ cmpD y.to x.to) && !done then [x] else []) ++ ((if cmpD y.to x.to = 0 then [] else [y]) ++ putG x (done || decide (0 ≤ cmpD y.to x.to)) l) := by
  conv => lhs; unfold putG
theorem putG_mem {x : InsV} : ∀ {done : Bool} {l : List InsV} {z : InsV}, z ∈ putG x done l → z = x ∨ z ∈ l
  | done, [], z, h => by
    unfold putG at h
    cases done <;> simp_all
  | done, y :: l, z, h => by
    unfold putG at h
    rcases List.mem_append.1 h with h | h
    · split at h
      · exact .inl (by simpa using h)
      · cases h
    · rcases List.mem_append.1 h with h | h
      · split at h
        · cases h
        · exact .inr (by simp at h; simp [h])
      · exact (putG_mem h).imp_right fun h => List.mem_cons_of_mem _ h
theorem putG_len {x : InsV} : ∀ {done : Bool} {l : List InsV}, (putG x done l).length ≤ l.length + (if done then 0 else 1)
  | done, [] => by
    unfold putG
    cases done <;> simp
  | done, y :: l => by
    rw [putG_cons]
    have := putG_len (x := x) (done := done || decide (0 ≤ cmpD y.to x.to)) (l := l)
    generalize decide (0 ≤ cmpD y.to x.to) = g at *
    have h1 : (if cmpD y.to x.to = 0 then [] else [y]).length ≤ 1 := by split <;> simp
    generalize (if cmpD y.to x.to = 0 then [] else [y]) = ys at *
    rw [List.length_append, List.length_append, List.length_cons]
    cases done <;> cases g <;> simp at this ⊢ <;> omega
theorem putG_done {x : InsV} : ∀ {l : List InsV}, (∀ y ∈ l, cmpD x.to y.to < 0) → putG x true l = l
  | [], _ => rfl
  | y :: l, h => by
    have h1 := h y List.mem_cons_self
    have h2 := cmpD_anti x.to y.to
    rw [putG_cons, Bool.true_or, putG_done fun z hz => h z (List.mem_cons_of_mem _ hz), Bool.not_true, Bool.and_false, if_neg Bool.false_ne_true, if_neg (show ¬ cmpD y.to x.to = 0 by omega)]
    rfl
theorem putG_asc {x : InsV} (hx : IsDv x.to) : ∀ {l : List InsV}, AscK InsV.to l → (∀ y ∈ l, IsDv y.to) → AscK InsV.to (putG x false l)
  | [], _, _ => by
    unfold putG
    exact List.pairwise_singleton _ _
  | y :: l, h, hd => by
    obtain ⟨h1, h2⟩ := List.pairwise_cons.1 h
    have ih := putG_asc hx h2 fun z hz => hd z (List.mem_cons_of_mem _ hz)
    have ha := cmpD_anti y.to x.to
    rw [putG_cons]
    rcases Int.lt_trichotomy (cmpD y.to x.to) 0 with hc | hc | hc
    · rw [decide_eq_false (by omega), if_neg (show ¬ cmpD y.to x.to = 0 by omega)]
      simp only [Bool.false_and, Bool.false_or, Bool.false_eq_true, if_false, List.nil_append, List.cons_append]
      refine List.pairwise_cons.2 ⟨fun z hz => ?_, ih⟩
      rcases putG_mem hz with rfl | hz
      · exact hc
      · exact h1 z hz
    · have e := cmpD_zero (hd y List.mem_cons_self) hx hc
      rw [decide_eq_true (by omega), if_pos hc]
      have hl : ∀ z ∈ l, cmpD x.to z.to < 0 := fun z hz => by rw [← e]; exact h1 z hz
      simp only [Bool.not_false, Bool.true_and, if_true, Bool.or_true, List.nil_append, putG_done hl, List.singleton_append]
      exact List.pairwise_cons.2 ⟨hl, h2⟩
    · rw [decide_eq_true (by omega), if_neg (show ¬ cmpD y.to x.to = 0 by omega)]
      have hl : ∀ z ∈ l, cmpD x.to z.to < 0 := fun z hz => cmpD_trans (show cmpD x.to y.to < 0 by omega) (h1 z hz)
      simp only [Bool.not_false, Bool.true_and, if_true, Bool.or_true, putG_done hl, List.singleton_append]
      refine List.pairwise_cons.2 ⟨fun z hz => ?_, h⟩
      rcases List.mem_cons.1 hz with rfl | hz
      · omega
      · exact hl z hz
set_option maxHeartbeats 4000000 in
theorem put_c (l : List InsV) (hl : ∀ x ∈ l, IsIn x) (x : InsV) (hx : IsIn x) (hlen : l.length ≤ 100000) (v : Value) (W : World) (hS : SlAt W 40 v l.length (insC l)) :
    Cal Tryz.prog 54 [v, .agg (inC x).toArray].toArray W fun r w' => ∃ ent, OwnS 50 40 r (putG x false l).length (insC (putG x false l)) ent ∧ Mem [] W w' ent := by
  obtain ⟨q, cap, rfl, hcap, hsp, hll, hm⟩ := hS
  have x1 : (inC x).length = 40 := in_len hx
  have x2 := in_all hx
  have x3 := in_to hx
  have hpl := putG_len (x := x) (done := false) (l := l)
  rw [if_neg (by simp)] at hpl
  refine fn_ofM (n := 45) [] Tryz.func54 rfl rfl rfl ?_
  intro a w F M hwW
  refine c_seq ?_
  refine c_region ?_
  (refine sD F (o_box M (F.ev rfl) rfl ?_); clear F M; intro b3 w M a F)
  refine sD F (o_assign (F.ev rfl) ?_); clear F a; intro a F
  with_reducible refine l_nil (q_then (c_seq (c_region ?_)))
  refine sD F (o_assign (F.ev rfl) ?_); clear F a; intro a F
  with_reducible refine l_nil (q_then (c_seq (c_region ?_)))
  refine sD F (o_assign (F.ev rfl) ?_); clear F a; intro a F
  with_reducible refine l_nil (q_then (c_seq (c_seq (c_region ?_))))
  refine sD F (o_move (F.ev rfl) ?_); clear F a; intro a F
  refine sD F (o_lenSl (F.ev rfl) ?_); clear F a; intro a F
  refine sD F (o_move (F.ev rfl) ?_); clear F a; intro a F
  with_reducible refine l_nil (q_then (c_block ?_))
  obtain ⟨u, hu⟩ : ∃ u, u = Value.slice none 0 0 := ⟨_, rfl⟩
  rw [← hu] at F
  obtain ⟨es, hes⟩ : ∃ es : List (Nat × Obj), es = [] := ⟨_, rfl⟩
  replace M : Mem [] W w ((b3, .cells (inC x).toArray 50 (0, 0)) :: es) := by
    rw [hes]
    exact M
  have hOs : OwnS 50 40 u ([] : List InsV).length (insC []) es := by
    rw [hu, hes]
    exact OwnS.nil _ _
  clear hu hes
  refine c_loop (fun m a w => ∃ (i : Nat) (u : Value) (dn : Bool) (out : List InsV) (es : List (Nat × Obj)), m = l.length - i ∧ i ≤ l.length ∧ out ++ putG x dn (l.drop i) = putG x false l ∧ OwnS 50 40 u out.length (insC out) es ∧ Frm a 45 [] [(12, .int .i64 i), (11, .int .i64 l.length), (10, .slice q l.length cap), (5, u), (6, .bool dn), (3, .pointer (some ⟨b3, 0, none⟩))] ∧ Mem [] W w ((b3, .cells (inC x).toArray 50 (0, 0)) :: es)) l.length ⟨0, u, false, [], es, rfl, by omega, rfl, hOs, F.only [12, 11, 10, 5, 6, 3] rfl, M⟩ ?_
  clear F M a w hOs u es
  rintro m a w ⟨i, u, dn, out, es, hm', hi, hout, hOs, F, M⟩
  have hol : out.length ≤ 100001 := by
    have := congrArg List.length hout
    rw [List.length_append] at this
    omega
  by_cases hlt : i < l.length
  · obtain ⟨b, o, cs, t, fz, rfl, hb, hs⟩ := hm (by omega)
    obtain ⟨y, hy0⟩ : ∃ y, y = l[i] := ⟨_, rfl⟩
    have hyi : IsIn y := by rw [hy0]; exact hl _ (List.getElem_mem hlt)
    have f1 : seg cs (o + (i : Int).toNat * 40) 40 = some (inC y) := by rw [hy0]; exact seg_el (ins_len hl) hs hlt (by omega)
    rw [← List.getElem_cons_drop hlt, ← hy0, putG_cons] at hout
    have f2 : (inC y).length = 40 := in_len hyi
    have f3 := in_to hyi
    have f4 := in_all hyi
    refine c_seq (c_region ?_)
    refine sD F (o_lssT (F.ev rfl) (F.ev rfl) (by omega) ?_); clear F a; intro a F
    with_reducible refine l_nil (q_then (c_seq ?_))
    refine c_true F rfl rfl ?_
    with_reducible refine c_skip (q_then (c_seq (c_block (c_seq (c_region ?_)))))
    refine sD F (o_indexSl (F.ev rfl) (F.ev rfl) (by omega) (by omega) ?_); clear F a; intro a F
    refine sD F (o_loadWA M (F.ev rfl) (by assumption) (by first | assumption | rfl) ?_); clear F a; intro a F
    (refine sD F (o_alloc M ?_); clear F M; intro b8 w M a F)
    skip
    (refine stepN rfl F (o_storeA M (F.ev rfl) (F.ev rfl) (f2) (in_one y)  (by repeat constructor)  (put_all (by rw [f2]; rfl)) (by repeat constructor) ?_); clear F M; intro w M a F)
    with_reducible refine l_nil (q_then (c_seq (c_region ?_)))
    refine sD F (o_fieldAddr (F.ev rfl) ?_); clear F a; intro a F
    refine sD F (o_loadA M (F.ev rfl) (by repeat constructor) (by first | assumption | rfl) ?_); clear F a; intro a F
    refine sD F (o_fieldAddr (F.ev rfl) ?_); clear F a; intro a F
    refine sD F (o_loadA M (F.ev rfl) (by repeat constructor) (by first | assumption | rfl) ?_); clear F a; intro a F
    (refine sD F (o_call (F.ev rfl) (F.evs rfl) (Cal.mono (rcompare_c y.to x.to hyi.1 hx.1 _) ?_)); clear F; clear a; rintro _ w ⟨rfl, hE⟩ a F; replace M := M.later hE; clear hE)
    generalize cmpD y.to x.to = cc at *
    refine sD F (o_assign (F.ev rfl) ?_); clear F a; intro a F
    with_reducible refine l_nil ?_
    refine q_then ?_
    refine c_seq ?_
    refine c_cut (fun a w => ∃ (u : Value) (out2 : List InsV) (es : List (Nat × Obj)), out2 = out ++ (if decide (0 ≤ cc) && !dn then [x] else []) ∧ OwnS 50 40 u out2.length (insC out2) es ∧ Frm a 45 [] [(9, .int .i64 cc), (12, .int .i64 i), (11, .int .i64 l.length), (10, .slice (some ⟨b, o, none⟩) l.length cap), (5, u), (6, .bool (dn || decide (0 ≤ cc))), (3, .pointer (some ⟨b3, 0, none⟩)), (8, .pointer (some ⟨b8, 0, none⟩))] ∧ Mem [] W w ((b8, .cells (inC y).toArray 50 (0, 0)) :: (b3, .cells (inC x).toArray 50 (0, 0)) :: es)) ?_ ?_
    · by_cases hc : 0 ≤ cc
      · rw [decide_eq_true hc]
        cases dn
        · refine c_seq ?_
          refine c_region ?_
          refine sD F (o_move (F.ev rfl) ?_); clear F a; intro a F
          refine sD F (o_geqT (F.ev rfl) (F.ev rfl) (by omega) ?_); clear F a; intro a F
          refine sD F (o_move (F.ev rfl) ?_); clear F a; intro a F
          refine sG F (o_move (F.ev rfl) ?_); clear F a; intro a F
          refine sG F (o_not (F.ev rfl) ?_); clear F a; intro a F
          refine sD F (o_pickT (F.ev rfl) (F.ev rfl) ?_); clear F a; intro a F
          with_reducible refine l_nil (q_then ?_)
          refine c_true F rfl rfl ?_
          refine c_seq (c_region ?_)
          refine sD F (o_move (F.ev rfl) ?_); clear F a; intro a F
          refine sD F (o_loadA M (F.ev rfl) (by repeat constructor) (by first | assumption | rfl) ?_); clear F a; intro a F
          (refine sD F (o_buildSlice F M rfl rfl rfl (in_build1 hx) ?_); clear F M; intro bs w M a F)
          (refine sD F (o_append hOs M (.cons (.cons (.cons .here))) (F.ev rfl) (F.ev rfl) (SrcOf.cells' (M.heap .here) (sg_all (by omega)) (in_one _)) (by omega) (by omega) ?_); clear F M; intro v2 es2 w hO2 M a F)
          refine sD F (o_assign (F.ev rfl) ?_); clear F a; intro a F
          with_reducible refine l_nil (q_then (c_region ?_))
          refine sD F (o_assign (F.ev rfl) ?_); clear F a; intro a F
          with_reducible refine l_nil ?_
          exact ⟨v2, _, es2, rfl, by show OwnS _ 40 _ (out ++ [x]).length (encL inC (out ++ [x])) _; rw [show (out ++ [x]).length = out.length + 1 by simp, encL_app, encL_one]; exact hO2, F.only [9, 12, 11, 10, 5, 6, 3, 8] rfl, M.sub (.cons _ (.refl _))⟩
        · refine c_seq ?_
          refine c_region ?_
          refine sD F (o_move (F.ev rfl) ?_); clear F a; intro a F
          refine sD F (o_geqT (F.ev rfl) (F.ev rfl) (by omega) ?_); clear F a; intro a F
          refine sD F (o_move (F.ev rfl) ?_); clear F a; intro a F
          refine sG F (o_move (F.ev rfl) ?_); clear F a; intro a F
          refine sG F (o_not (F.ev rfl) ?_); clear F a; intro a F
          refine sD F (o_pickT (F.ev rfl) (F.ev rfl) ?_); clear F a; intro a F
          with_reducible refine l_nil (q_then ?_)
          refine c_false F rfl rfl ?_
          with_reducible refine c_skip ?_
          exact ⟨u, _, es, rfl, by rw [if_neg (by simp), List.append_nil]; exact hOs, F.only [9, 12, 11, 10, 5, 6, 3, 8] rfl, M⟩
      · rw [decide_eq_false hc]
        refine c_seq (c_region ?_)
        refine sD F (o_move (F.ev rfl) ?_); clear F a; intro a F
        refine sD F (o_geqF (F.ev rfl) (F.ev rfl) (by omega) ?_); clear F a; intro a F
        refine sD F (o_move (F.ev rfl) ?_); clear F a; intro a F
        refine sO F ?_; clear F a; intro a F
        refine sO F ?_; clear F a; intro a F
        refine sD F (o_pickF (F.ev rfl) (F.ev rfl) ?_); clear F a; intro a F
        with_reducible refine l_nil (q_then ?_)
        refine c_false F rfl rfl ?_
        with_reducible refine c_skip ?_
        exact ⟨u, _, es, rfl, by rw [if_neg (by simp), List.append_nil]; exact hOs, by rw [Bool.or_false]; exact F.only [9, 12, 11, 10, 5, 6, 3, 8] rfl, M⟩
    clear F M a w hOs u es
    rintro a w ⟨u, out2, es, hout2, hOs, F, M⟩
    rw [← List.append_assoc, ← hout2] at hout
    have hol2 : out2.length ≤ 100001 := by
      have := congrArg List.length hout
      rw [List.length_append] at this
      omega
    generalize (dn || decide (0 ≤ cc)) = dn2 at *
    by_cases hc : cc = 0
    · rw [if_pos hc, List.nil_append] at hout
      with_reducible refine q_then (c_seq (c_region ?_))
      refine sD F (o_move (F.ev rfl) ?_); clear F a; intro a F
      refine sD F (o_neqF (F.ev rfl) (F.ev rfl) (by omega) ?_); clear F a; intro a F
      with_reducible refine l_nil (q_then ?_)
      refine c_false F rfl rfl ?_
      with_reducible refine c_skip (q_inB (q_then (c_region ?_)))
      refine sD F (o_add (F.ev rfl) (F.ev rfl) (w_i64 (by omega) (by omega)) ?_); clear F a; intro a F
      refine sD F (o_move (F.ev rfl) ?_); clear F a; intro a F
      with_reducible refine l_nil (q_then ?_)
      exact ⟨_, by omega, i + 1, u, dn2, out2, es, rfl, by omega, hout, hOs, F.only [12, 11, 10, 5, 6, 3] rfl, M.sub (.cons _ (.refl _))⟩
    · rw [if_neg hc, ← List.append_assoc] at hout
      with_reducible refine q_then (c_seq (c_region ?_))
      refine sD F (o_move (F.ev rfl) ?_); clear F a; intro a F
      refine sD F (o_neqT (F.ev rfl) (F.ev rfl) (by omega) ?_); clear F a; intro a F
      with_reducible refine l_nil (q_then ?_)
      refine c_true F rfl rfl ?_
      refine c_region ?_
      refine sD F (o_move (F.ev rfl) ?_); clear F a; intro a F
      refine sD F (o_loadA M (F.ev rfl) (by repeat constructor) (by first | assumption | rfl) ?_); clear F a; intro a F
      (refine sD F (o_buildSlice F M rfl rfl rfl (in_build1 hyi) ?_); clear F M; intro bs w M a F)
      (refine sD F (o_append hOs M (.cons (.cons (.cons .here))) (F.ev rfl) (F.ev rfl) (SrcOf.cells' (M.heap .here) (sg_all (by omega)) (in_one _)) (by omega) (by omega) ?_); clear F M; intro v2 es2 w hO2 M a F)
      refine sD F (o_assign (F.ev rfl) ?_); clear F a; intro a F
      with_reducible refine l_nil (q_inB (q_then (c_region ?_)))
      refine sD F (o_add (F.ev rfl) (F.ev rfl) (w_i64 (by omega) (by omega)) ?_); clear F a; intro a F
      refine sD F (o_move (F.ev rfl) ?_); clear F a; intro a F
      with_reducible refine l_nil (q_then ?_)
      exact ⟨_, by omega, i + 1, v2, dn2, out2 ++ [y], es2, rfl, by omega, hout, by show OwnS _ 40 _ (out2 ++ [y]).length (encL inC (out2 ++ [y])) _; rw [show (out2 ++ [y]).length = out2.length + 1 by simp, encL_app, encL_one]; exact hO2, F.only [12, 11, 10, 5, 6, 3] rfl, M.sub (.cons _ (.cons _ (.refl _)))⟩
  · obtain rfl : i = l.length := by omega
    rw [List.drop_length] at hout
    cases dn
    · have hout : out ++ [x] = putG x false l := hout
      rw [← hout]
      refine c_seq (c_region ?_)
      refine sD F (o_lssF (F.ev rfl) (F.ev rfl) (by omega) ?_); clear F a; intro a F
      with_reducible refine l_nil (q_then (c_seq ?_))
      refine c_false F rfl rfl ?_
      with_reducible refine c_exit (q_thenX (q_thenX (q_inBX (q_then (c_seq (c_seq (c_region ?_)))))))
      refine sD F (o_move (F.ev rfl) ?_); clear F a; intro a F
      refine sD F (o_not (F.ev rfl) ?_); clear F a; intro a F
      with_reducible refine l_nil (q_then ?_)
      refine c_true F rfl rfl ?_
      refine c_region ?_
      refine sD F (o_move (F.ev rfl) ?_); clear F a; intro a F
      refine sD F (o_loadA M (F.ev rfl) (by repeat constructor) (by first | assumption | rfl) ?_); clear F a; intro a F
      (refine sD F (o_buildSlice F M rfl rfl rfl (in_build1 hx) ?_); clear F M; intro bs w M a F)
      (refine sD F (o_append hOs M (.cons (.cons .here)) (F.ev rfl) (F.ev rfl) (SrcOf.cells' (M.heap .here) (sg_all (by omega)) (in_one _)) (by omega) (by omega) ?_); clear F M; intro v2 es2 w hO2 M a F)
      refine sD F (o_assign (F.ev rfl) ?_); clear F a; intro a F
      with_reducible refine l_nil (q_then (c_seq (c_region ?_)))
      refine sD F (o_move (F.ev rfl) ?_); clear F a; intro a F
      refine sD F (o_assign (F.ev rfl) ?_); clear F a; intro a F
      with_reducible refine l_nil (q_then (c_ret ?_))
      refine p_ret F rfl (.cons (.tmp (F.ev rfl)) .nil) ?_
      exact ⟨es2, by show OwnS _ 40 _ (out ++ [x]).length (encL inC (out ++ [x])) _; rw [show (out ++ [x]).length = out.length + 1 by simp, encL_app, encL_one]; exact hO2, M.sub (.cons _ (.cons _ (.refl _)))⟩
    · have hout : out ++ [] = putG x false l := hout
      rw [List.append_nil] at hout
      rw [← hout]
      refine c_seq (c_region ?_)
      refine sD F (o_lssF (F.ev rfl) (F.ev rfl) (by omega) ?_); clear F a; intro a F
      with_reducible refine l_nil (q_then (c_seq ?_))
      refine c_false F rfl rfl ?_
      with_reducible refine c_exit (q_thenX (q_thenX (q_inBX (q_then (c_seq (c_seq (c_region ?_)))))))
      refine sD F (o_move (F.ev rfl) ?_); clear F a; intro a F
      refine sD F (o_not (F.ev rfl) ?_); clear F a; intro a F
      with_reducible refine l_nil (q_then ?_)
      refine c_false F rfl rfl ?_
      with_reducible refine c_skip (q_then (c_seq (c_region ?_)))
      refine sD F (o_move (F.ev rfl) ?_); clear F a; intro a F
      refine sD F (o_assign (F.ev rfl) ?_); clear F a; intro a F
      with_reducible refine l_nil (q_then (c_ret ?_))
      refine p_ret F rfl (.cons (.tmp (F.ev rfl)) .nil) ?_
      exact ⟨es, hOs, M.sub (.cons _ (.refl _))⟩
end Go.Proofs.YtilgoepokaaleaaGreat
/-! YC -/
namespace Go.Proofs.YtilgoepokaaleaaGreat
set_option linter.unusedVariables false
set_option linter.unusedSimpArgs false
open Go.RowKit
attribute [local irreducible] OpTo wpListIn Code.wpIn MW Cal
theorem in_buildI {d : DstV} (hd : IsDv d) (e : Int) (o : DisV) : putAll [(0, 35), (35, 1), (36, 2), (38, 1), (39, 1)] inZ [(0, dvC d), (1, [.int .u64 e]), (2, diC o), (3, [.int .i64 (-1)])] = some (inC ⟨d, e, o, -1, 0⟩) := by
  obtain ⟨p1, n1, p2, n2, rt⟩ := d
  obtain ⟨x0, x1, x2, x3, x4, x5, x6, x7, x8, x9, x10, x11, x12, x13, x14, x15, e0⟩ := len16 (show p1.length = 16 from hd.1.len)
  obtain ⟨y0, y1, y2, y3, y4, y5, y6, y7, y8, y9, y10, y11, y12, y13, y14, y15, e1⟩ := len16 (show p2.length = 16 from hd.2.len)
  subst e0
  subst e1
  rfl
theorem validM_of {m : Int} (h : 0 ≤ m ∧ m ≤ 65534) : validM m = true := by
  unfold validM
  rw [decide_eq_true h.1, decide_eq_true (by omega)]
  rfl
end Go.Proofs.YtilgoepokaaleaaGreat
/-! ZK -/
namespace Go.Proofs.YtilgoepokaaleaaGreat
set_option linter.unusedVariables false
set_option linter.unusedSimpArgs false
open Go.RowKit
attribute [local irreducible] OpTo wpListIn Code.wpIn MW Cal
def OkR (x : InsV) : Prop := IsIn x ∧ ins1 x = true
structure InsR (n0 : Nat) (W : World) (v : Value) (l : List InsV) : Prop where
  at_ : SlN n0 W 40 v l.length (insC l)
  ok : ∀ x ∈ l, OkR x
  asc : AscK InsV.to l
theorem okR_new {d : DstV} (hd : IsDv d) (hv : validT d = true) {e : Int} (he : 1 ≤ e) {o : DisV} (ho : 0 ≤ o.met ∧ o.met ≤ 65534) {z : Int} (hz : z = -1 ∨ isTime z = true) : OkR ⟨d, e, o, z, 0⟩ := by
  refine ⟨⟨hd, trivial⟩, ?_⟩
  unfold ins1 finD validM inf
  dsimp only
  rw [hv, if_neg (by omega)]
  have h1 : (decide (z = -1) || isTime z) = true := by
    rcases hz with h | h <;> simp [h]
  rw [h1]
  simp
  omega
theorem okR_held {d : DstV} (hd : IsDv d) (hv : validT d = true) {o : DisV} {z : Int} (hz : isTime z = true) : OkR ⟨d, 0, { o with met := 65535 }, -1, z⟩ := by
  refine ⟨⟨hd, trivial⟩, ?_⟩
  unfold ins1 inf
  dsimp only
  rw [hv, hz]
  simp
theorem wt_time {xs : List Int} {k : Nat} {now : Int} (h0 : 0 ≤ now) (h1 : now ≤ 1099511627776) : isTime (wtV xs k now) = true := by
  unfold wtV isTime
  simp only [Bool.and_eq_true, decide_eq_true_eq]
  repeat' split
  all_goals omega
set_option maxHeartbeats 4000000 in
theorem installedR_c {bt : Nat} {p : Option Addr} {len cap k : Nat} {xs : List Int} (now : Int) (h0 : 0 ≤ now) (h1 : now ≤ 1099511627776) (W : World) (hT : TapeS W bt p len xs) (hb : W.heap[bt]? = some (tobj p len cap k)) :
    Cal Tryz.prog 16 [.pointer (some ⟨bt, 0, none⟩), .int .i64 now, .slice none 0 0].toArray W fun r w' => ∃ l k', InsR W.heap.size w' r l ∧ l.length ≤ 7 ∧ Mem [bt] W w' [(bt, tobj p len cap k')] := by
  have hbt : bt < W.heap.size := (Array.getElem?_eq_some_iff.1 hb).1
  refine fn_ofM (n := 65) [bt] Tryz.func16 rfl rfl rfl ?_
  intro a w F M hwW
  replace M := M.came hwW hb (by simp) (by simp)
  refine c_seq (c_region ?_)
  refine sD F (o_assign (F.ev rfl) ?_); clear F a; intro a F
  with_reducible refine l_nil (q_then (c_seq (c_region ?_)))
  refine sD F (o_assign (F.ev rfl) ?_); clear F a; intro a F
  with_reducible refine l_nil (q_then (c_seq (c_seq (c_region ?_))))
  refine sD F (o_move (F.ev rfl) ?_); clear F a; intro a F
  (refine sD F (o_call (F.ev rfl) (F.evs rfl) (Cal.mono (next_c 8 (by omega) (by omega) _ (hT.later M.ext) (M.heap .here) ) ?_)); clear F; clear a; have M0 := M; clear M; rintro _ w ⟨rfl, N⟩ a F)
  replace M := M0.turn1 N .here
  clear M0 N
  have v1 := nxV_bd xs k (n := 8) (by omega)
  obtain ⟨c0, hc0⟩ := Int.eq_ofNat_of_zero_le v1.1
  rw [hc0] at F v1
  refine sD F (o_assign (F.ev rfl) ?_); clear F a; intro a F
  with_reducible refine l_nil (q_then (c_block ?_))
  refine c_loop (fun m a w => ∃ (c : Nat) (x : Int) (l : List InsV) (v : Value) (k : Nat), m = c ∧ x = c ∧ l.length + c ≤ 7 ∧ InsR W.heap.size w v l ∧ Frm a 65 [] [(8, .int .i64 x), (7, v), (0, .pointer (some ⟨bt, 0, none⟩)), (1, .int .i64 now), (2, .slice none 0 0)] ∧ Mem [bt] W w [(bt, tobj p len cap k)]) c0 ⟨c0, _, [], _, nxK xs k, rfl, rfl, by simp; omega, ⟨SlN.nil _ _ _, by simp, .nil⟩, F.only [8, 7, 0, 1, 2] rfl, M⟩ ?_
  clear F M
  rintro m a w ⟨c, x, l, v, kk, hm, hxc, hc5, hO, F, M⟩
  by_cases hlt : 0 < c
  · refine c_seq ?_
    refine c_seq (c_region ?_)
    refine sD F (o_move (F.ev rfl) ?_); clear F a; intro a F
    refine sD F (o_gtrT (F.ev rfl) (F.ev rfl) (by omega) ?_); clear F a; intro a F
    with_reducible refine l_nil (q_then ?_)
    refine c_true F rfl rfl ?_
    with_reducible refine c_skip (q_then (c_seq (c_block (c_seq (c_region ?_)))))
    refine sD F (o_move (F.ev rfl) ?_); clear F a; intro a F
    (refine sD F (o_call (F.ev rfl) (F.evs rfl) (Cal.mono (toE_c _ (hT.later M.ext) (M.heap .here) ) ?_)); clear F; clear a; have M0 := M; clear M; rintro _ w ⟨d, k2, rfl, hd, hdv, N⟩ a F)
    replace hO : InsR W.heap.size w v l := ⟨hO.at_.laterB hbt N.ext, hO.ok, hO.asc⟩
    replace M := M0.turn1 N .here
    clear M0 N
    refine sD F (o_move (F.ev rfl) ?_); clear F a; intro a F
    (refine sD F (o_call (F.ev rfl) (F.evs rfl) (Cal.mono (eui_c _ (hT.later M.ext) (M.heap .here) ) ?_)); clear F; clear a; have M0 := M; clear M; rintro _ w ⟨e, k3, rfl, he, N⟩ a F)
    replace hO : InsR W.heap.size w v l := ⟨hO.at_.laterB hbt N.ext, hO.ok, hO.asc⟩
    replace M := M0.turn1 N .here
    clear M0 N
    refine sD F (o_move (F.ev rfl) ?_); clear F a; intro a F
    (refine sD F (o_call (F.ev rfl) (F.evs rfl) (Cal.mono (distE_c _ (hT.later M.ext) (M.heap .here) ) ?_)); clear F; clear a; have M0 := M; clear M; rintro _ w ⟨o, k4, rfl, ho, N⟩ a F)
    replace hO : InsR W.heap.size w v l := ⟨hO.at_.laterB hbt N.ext, hO.ok, hO.asc⟩
    replace M := M0.turn1 N .here
    clear M0 N
    have E0 := M.ext
    obtain ⟨wb, hwb, M⟩ : ∃ wb, wb = w ∧ Mem [bt] wb w [(bt, tobj p len cap k4)] := ⟨w, rfl, M.re (by simp)⟩
    rw [← hwb] at E0 hO
    clear hwb
    have hTw := hT.later E0
    (refine sD F (o_build F rfl (in_buildI hd e o) ?_); clear F a; intro a F)
    have hi : IsIn ⟨d, e, o, -1, 0⟩ := ⟨hd, trivial⟩
    have hom := validM_of ho
    (refine sD F (o_alloc M ?_); clear F M; intro b9 w M a F)
    (refine stepN rfl F (o_storeA M (F.ev rfl) (F.ev rfl) (in_len hi) (in_one _)  (by repeat constructor)  (put_all (by rw [in_len hi]; rfl)) (by repeat constructor) ?_); clear F M; intro w M a F)
    with_reducible refine l_nil (q_then (c_seq (c_seq (c_region ?_))))
    refine sD F (o_move (F.ev rfl) ?_); clear F a; intro a F
    refine sD F (o_lenSl (F.ev rfl) ?_); clear F a; intro a F
    refine sD F (o_gtrF (F.ev rfl) (F.ev rfl) (by omega) ?_); clear F a; intro a F
    refine sD F (o_move (F.ev rfl) ?_); clear F a; intro a F
    refine sO F ?_; clear F a; intro a F
    refine sO F ?_; clear F a; intro a F
    refine sD F (o_pickF (F.ev rfl) (F.ev rfl) ?_); clear F a; intro a F
    with_reducible refine l_nil (q_then ?_)
    refine c_false F rfl rfl ?_
    with_reducible refine c_skip (q_then (c_seq (c_seq (c_region ?_))))
    refine sD F (o_move (F.ev rfl) ?_); clear F a; intro a F
    (refine sD F (o_call (F.ev rfl) (F.evs rfl) (Cal.mono (nextE_c 3 (by omega) (by omega) _ (hTw.later M.ext) (M.heap (.there .here)) ) ?_)); clear F; clear a; have M0 := M; clear M; rintro _ w ⟨q, k5, rfl, hq, N⟩ a F)
    replace M := M0.turn1 N (.there .here)
    clear M0 N
    refine l_nil ?_
    refine q_then ?_
    repeat (refine c_seq ?_)
    refine c_cut (fun a w => ∃ (y : InsV) (k : Nat), OkR y ∧ Frm a 65 [] [(9, .pointer (some ⟨b9, 0, none⟩)), (8, .int .i64 x), (7, v), (0, .pointer (some ⟨bt, 0, none⟩)), (1, .int .i64 now), (2, .slice none 0 0)] ∧ Mem [bt] wb w [(b9, .cells (inC y).toArray 50 (0, 0)), (bt, tobj p len cap k)]) ?_ ?_
    · by_cases q0 : q = 0
      · refine c_block ?_
        refine c_seq (c_region ?_)
        refine sD F (o_eqlT (F.ev rfl) (F.ev rfl) (by omega) ?_); clear F a; intro a F
        refine sD F (o_assign (F.ev rfl) ?_); clear F a; intro a F
        with_reducible refine l_nil (q_then ?_)
        refine c_true F rfl rfl ?_
        refine c_region ?_
        refine sD F (o_move (F.ev rfl) ?_); clear F a; intro a F
        refine sD F (o_move (F.ev rfl) ?_); clear F a; intro a F
        (refine sD F (o_call (F.ev rfl) (F.evs rfl) (Cal.mono (wtime_c now h0 h1 _ (hTw.later M.ext) (M.heap (.there .here)) ) ?_)); clear F; clear a; have M0 := M; clear M; rintro _ w ⟨rfl, N⟩ a F)
        replace M := M0.turn1 N (.there .here)
        clear M0 N
        refine sD F (o_fieldAddr (F.ev rfl) ?_); clear F a; intro a F
        (refine stepN rfl F (o_store1 M (F.ev rfl) (F.ev rfl) rfl (by repeat constructor) (in_put_btn hi _) (by repeat constructor) ?_); clear F M; intro w M a F)
        with_reducible refine l_nil (q_inB ?_)
        exact ⟨⟨d, e, o, wtV xs k5 now, 0⟩, _, okR_new hd hdv he.1 ho (.inr (wt_time h0 h1)), F.only [9, 8, 7, 0, 1, 2] rfl, M⟩
      by_cases q1 : q = 1
      · refine c_block ?_
        refine c_seq (c_region ?_)
        refine sD F (o_eqlF (F.ev rfl) (F.ev rfl) (by omega) ?_); clear F a; intro a F
        refine sD F (o_assign (F.ev rfl) ?_); clear F a; intro a F
        with_reducible refine l_nil (q_then ?_)
        refine c_false F rfl rfl ?_
        refine c_seq (c_region ?_)
        refine sD F (o_eqlT (F.ev rfl) (F.ev rfl) (by omega) ?_); clear F a; intro a F
        refine sD F (o_assign (F.ev rfl) ?_); clear F a; intro a F
        with_reducible refine l_nil (q_then ?_)
        refine c_true F rfl rfl ?_
        refine c_region ?_
        refine sD F (o_move (F.ev rfl) ?_); clear F a; intro a F
        refine sD F (o_move (F.ev rfl) ?_); clear F a; intro a F
        (refine sD F (o_call (F.ev rfl) (F.evs rfl) (Cal.mono (wtime_c now h0 h1 _ (hTw.later M.ext) (M.heap (.there .here)) ) ?_)); clear F; clear a; have M0 := M; clear M; rintro _ w ⟨rfl, N⟩ a F)
        replace M := M0.turn1 N (.there .here)
        clear M0 N
        have hi2 : IsIn ⟨d, 0, o, -1, 0⟩ := ⟨hd, trivial⟩
        have hi3 : IsIn ⟨d, 0, { o with met := 65535 }, -1, 0⟩ := ⟨hd, trivial⟩
        refine sD F (o_fieldAddr (F.ev rfl) ?_); clear F a; intro a F
        (refine stepN rfl F (o_store1 M (F.ev rfl) (F.ev rfl) rfl (by repeat constructor) (in_put_nb hi 0) (by repeat constructor) ?_); clear F M; intro w M a F)
        refine sD F (o_fieldAddr (F.ev rfl) ?_); clear F a; intro a F
        refine sD F (o_fieldAddr (F.ev rfl) ?_); clear F a; intro a F
        (refine stepN rfl F (o_store1 M (F.ev rfl) (F.ev rfl) rfl (by repeat constructor) (in_put_own_met hi2 65535) (by repeat constructor) ?_); clear F M; intro w M a F)
        refine sD F (o_fieldAddr (F.ev rfl) ?_); clear F a; intro a F
        (refine stepN rfl F (o_store1 M (F.ev rfl) (F.ev rfl) rfl (by repeat constructor) (in_put_til hi3 _) (by repeat constructor) ?_); clear F M; intro w M a F)
        with_reducible refine l_nil (q_inB ?_)
        exact ⟨⟨d, 0, { o with met := 65535 }, -1, wtV xs k5 now⟩, _, okR_held hd hdv (wt_time h0 h1), F.only [9, 8, 7, 0, 1, 2] rfl, M⟩
      · refine c_block ?_
        refine c_seq (c_region ?_)
        refine sD F (o_eqlF (F.ev rfl) (F.ev rfl) (by omega) ?_); clear F a; intro a F
        refine sD F (o_assign (F.ev rfl) ?_); clear F a; intro a F
        with_reducible refine l_nil (q_then ?_)
        refine c_false F rfl rfl ?_
        refine c_seq (c_region ?_)
        refine sD F (o_eqlF (F.ev rfl) (F.ev rfl) (by omega) ?_); clear F a; intro a F
        refine sD F (o_assign (F.ev rfl) ?_); clear F a; intro a F
        with_reducible refine l_nil (q_then ?_)
        refine c_false F rfl rfl ?_
        with_reducible refine c_skip (q_inB ?_)
        exact ⟨_, k5, okR_new hd hdv he.1 ho (.inl rfl), F.only [9, 8, 7, 0, 1, 2] rfl, M⟩
    clear F M a w
    rintro a w ⟨y, k6, hy, F, M⟩
    have hol := putG_len (x := y) (done := false) (l := l)
    rw [if_neg (by simp)] at hol
    have g1 := in_all hy.1
    with_reducible refine q_then (c_region ?_)
    refine sD F (o_move (F.ev rfl) ?_); clear F a; intro a F
    refine sD F (o_loadA M (F.ev rfl) (by repeat constructor) (by first | assumption | rfl) ?_); clear F a; intro a F
    (refine sD F (o_call (F.ev rfl) (F.evs rfl) (Cal.mono (put_c l (fun z hz => (hO.ok z hz).1) y hy.1 (by omega) v _ (hO.at_.laterB hbt M.ext).1 ) ?_)); clear F; clear a; rintro _ w ⟨ent, hO2, N⟩ a F; replace M := M.joins N; clear N)
    have hnd := (M.perm (l' := (bt, tobj p len cap k6) :: (ent ++ [(b9, .cells (inC y).toArray 50 (0, 0))])) (by classical exact List.perm_iff_count.2 fun _ => by simp only [List.count_append, List.count_cons, List.count_nil, Nat.add_zero, Nat.zero_add] <;> ac_rfl)).nd
    have hO3 := (hO2.slN M (fun q hq => by simp [hq]) (nd_not hnd (fun q hq => by simp [hq]))).mono E0.size
    refine sD F (o_assign (F.ev rfl) ?_); clear F a; intro a F
    with_reducible refine l_nil (q_inB (q_then (c_region ?_)))
    refine sD F (o_move (F.ev rfl) ?_); clear F a; intro a F
    refine sD F (o_sub (F.ev rfl) (F.ev rfl) (w_i64 (by omega) (by omega)) ?_); clear F a; intro a F
    refine sD F (o_assign (F.ev rfl) ?_); clear F a; intro a F
    with_reducible refine l_nil (q_then ?_)
    exact ⟨_, by omega, c - 1, _, putG y false l, _, k6, rfl, by omega, by omega, ⟨hO3, fun z hz => (putG_mem hz).elim (fun e => e ▸ hy) (hO.ok z), putG_asc hy.1.1 hO.asc fun z hz => (hO.ok z hz).1.1⟩, F.only [8, 7, 0, 1, 2] rfl, (M.sub (List.sublist_append_of_sublist_right (.cons _ (.refl _)))).un E0⟩
  · refine c_seq ?_
    refine c_seq (c_region ?_)
    refine sD F (o_move (F.ev rfl) ?_); clear F a; intro a F
    refine sD F (o_gtrF (F.ev rfl) (F.ev rfl) (by omega) ?_); clear F a; intro a F
    with_reducible refine l_nil (q_then ?_)
    refine c_false F rfl rfl ?_
    with_reducible refine c_exit (q_thenX (q_thenX (q_inBX (q_then (c_seq (c_region ?_))))))
    refine sD F (o_move (F.ev rfl) ?_); clear F a; intro a F
    refine sD F (o_assign (F.ev rfl) ?_); clear F a; intro a F
    with_reducible refine l_nil (q_then (c_ret ?_))
    refine p_ret F rfl (.cons (.tmp (F.ev rfl)) .nil) ?_
    exact ⟨l, kk, hO, by omega, M⟩
end Go.Proofs.YtilgoepokaaleaaGreat
/-! ZS -/
namespace Go.Proofs.YtilgoepokaaleaaGreat
set_option linter.unusedVariables false
set_option linter.unusedSimpArgs false
open Go.RowKit
attribute [local irreducible] OpTo wpListIn Code.wpIn MW Cal
structure RouO (n0 : Nat) (W : World) (v : Value) (l : List RouV) : Prop where
  at_ : SlN n0 W 39 v l.length (rosC l)
  is : ∀ x ∈ l, IsRo x
  val : validRs l = true
structure SrcO (n0 : Nat) (W : World) (v : Value) (l : List SrcV) : Prop where
  at_ : SlN n0 W 38 v l.length (srsC l)
  is : ∀ x ∈ l, IsSr x
  val : validSs l = true
structure OptO (n0 : Nat) (W : World) (v : Value) (l : List OptV) : Prop where
  at_ : SlN n0 W 2 v l.length (opsC l)
  val : validOs l = true
theorem RouO.laterB {n0 bt : Nat} {W w : World} {v : Value} {l : List RouV} (h : RouO n0 W v l) (hb : bt < n0) (E : Ext [bt] W w) : RouO n0 w v l := ⟨h.at_.laterB hb E, h.is, h.val⟩
theorem SrcO.laterB {n0 bt : Nat} {W w : World} {v : Value} {l : List SrcV} (h : SrcO n0 W v l) (hb : bt < n0) (E : Ext [bt] W w) : SrcO n0 w v l := ⟨h.at_.laterB hb E, h.is, h.val⟩
theorem OptO.laterB {n0 bt : Nat} {W w : World} {v : Value} {l : List OptV} (h : OptO n0 W v l) (hb : bt < n0) (E : Ext [bt] W w) : OptO n0 w v l := ⟨h.at_.laterB hb E, h.val⟩
end Go.Proofs.YtilgoepokaaleaaGreat
/-! ZT -/
namespace Go.Proofs.YtilgoepokaaleaaGreat
set_option linter.unusedVariables false
set_option linter.unusedSimpArgs false
open Go.RowKit
attribute [local irreducible] OpTo wpListIn Code.wpIn MW Cal
structure OptI (out : List OptV) (i : Nat) : Prop where
  len : out.length < i
  ok : ∀ o ∈ out, opt1 o = true ∧ o.nb < i
  asc : AscC cmpO out
theorem OptI.skip {out : List OptV} {i : Nat} (h : OptI out i) : OptI out (i + 1) := ⟨by have := h.len; omega, fun o ho => ⟨(h.ok o ho).1, by have := (h.ok o ho).2; omega⟩, h.asc⟩
theorem OptI.val {out : List OptV} {i : Nat} (h : OptI out i) (hi : i ≤ 6) : validOs out = true := validOs_iff.2 ⟨by have := h.len; omega, fun a ha => (h.ok a ha).1, h.asc⟩
end Go.Proofs.YtilgoepokaaleaaGreat
/-! ZL -/
namespace Go.Proofs.YtilgoepokaaleaaGreat
set_option linter.unusedVariables false
set_option linter.unusedSimpArgs false
open Go.RowKit
attribute [local irreducible] OpTo wpListIn Code.wpIn MW Cal
theorem Mem.reR {S : List Nat} {W w : World} {l : List (Nat × Obj)} (M : Mem S W w l) (S' : List Nat) (h : ∀ p ∈ l, p.1 ∈ S') : Mem S' w w l := ⟨Ext.refl _ _, M.at_, M.nd, fun p hp => .inl (h p hp)⟩
theorem look_is {l : List InsV} {src dst : List Int} {mark : DstV} {marked : Bool} (hx : ∀ x ∈ l, IsIn x) : IsIn (lookV l src dst mark marked).1 := by
  unfold lookV
  split
  · exact in0_is
  · have hn : ∀ x ∈ nearL l src dst, IsIn x := nearL_sub hx
    generalize nearL l src dst = near at *
    unfold lookN
    cases near with
    | nil => exact in0_is
    | cons y ys =>
      dsimp only
      split
      · exact in0_is
      · split
        · exact in0_is
        · rename_i c hc
          have hci : IsIn c := by
            split at hc
            · exact hn c (List.mem_of_find?_eq_some hc)
            · cases hc
              exact cheap_p (p := IsIn) hn (hn y (by simp))
          split
          · exact in0_is
          · exact hci
end Go.Proofs.YtilgoepokaaleaaGreat
/-! ZU -/
namespace Go.Proofs.YtilgoepokaaleaaGreat
set_option linter.unusedVariables false
set_option linter.unusedSimpArgs false
open Go.RowKit
attribute [local irreducible] OpTo wpListIn Code.wpIn MW Cal
def getV (l : List InsV) (t : DstV) : Option InsV := l.find? fun x => decide (x.to = t)
set_option maxHeartbeats 2000000 in
theorem rget_c (l : List InsV) (hx : ∀ x ∈ l, IsIn x) (v : Value) (t : DstV) (ht : IsDv t) (W : World) (hS : SlAt W 40 v l.length (insC l)) (hlen : l.length ≤ 100000) :
    Cal Tryz.prog 26 [v, .agg (dvC t).toArray].toArray W fun r w' => r = .tuple [.agg (inC ((getV l t).getD in0)).toArray, .bool (getV l t).isSome].toArray ∧ Ext [] W w' := by
  obtain ⟨q, cap, rfl, hcap, hsp, hll, hm⟩ := id hS
  have c1 : ∀ w, getV l t = none → Ext [] W w → Value.tuple [.agg (inC in0).toArray, .bool false].toArray = .tuple [.agg (inC ((getV l t).getD in0)).toArray, .bool (getV l t).isSome].toArray ∧ Ext [] W w := fun w h E => by
    rw [h]
    exact ⟨rfl, E⟩
  have c2 : ∀ w d, getV l t = some d → Ext [] W w → Value.tuple [.agg (inC d).toArray, .bool true].toArray = .tuple [.agg (inC ((getV l t).getD in0)).toArray, .bool (getV l t).isSome].toArray ∧ Ext [] W w := fun w d h E => by
    rw [h]
    exact ⟨rfl, E⟩
  have hz : putAll [(0, 35), (35, 1), (36, 2), (38, 1), (39, 1)] inZ [] = some (inC in0) := rfl
  have hi0 := in0_is
  refine fn_ofM (n := 21) [] Tryz.func26 rfl rfl rfl ?_
  intro a w F M hwW
  refine c_seq (c_region ?_)
  refine sD F (o_box M (F.ev rfl) rfl ?_); clear F M; intro b3 w M a F
  refine sD F (o_alloc M ?_); clear F M; intro b4 w M a F
  refine sD F (o_assign (F.ev rfl) ?_); clear F a; intro a F
  with_reducible refine l_nil (q_then (c_seq (c_seq (c_region ?_))))
  refine sD F (o_move (F.ev rfl) ?_); clear F a; intro a F
  refine sD F (o_lenSl (F.ev rfl) ?_); clear F a; intro a F
  refine sD F (o_move (F.ev rfl) ?_); clear F a; intro a F
  with_reducible refine l_nil (q_then (c_block ?_))
  obtain ⟨R, hR⟩ : ∃ R, (l.drop 0).find? (fun x => decide (x.to = t)) = R := ⟨_, rfl⟩
  have hV : getV l t = R := hR
  refine c_loop (fun m a w => ∃ (i : Nat) , m = l.length - i ∧ i ≤ l.length ∧ ((l.drop i).find? (fun x => decide (x.to = t)) = R) ∧ Frm a 21 [] [(10, .int .i64 i), (9, .int .i64 l.length), (8, .slice q l.length cap), (3, .pointer (some ⟨b3, 0, none⟩)), (4, .pointer (some ⟨b4, 0, none⟩))] ∧ Mem [] W w [(b4, .cells inZ.toArray 50 (0, 0)), (b3, .cells (dvC t).toArray 45 (0, 0))]) l.length ⟨0, rfl, by omega, hR, F.only [10, 9, 8, 3, 4] rfl, M.sub (by repeat (first | exact .refl _ | apply List.Sublist.cons_cons | apply List.Sublist.cons))⟩ ?_
  clear F M a w
  rintro m a w ⟨i, hm', hi, hf, F, M⟩
  by_cases hlt : i < l.length
  · obtain ⟨b, o, cs, t', fz, rfl, hb, hs⟩ := hm (by omega)
    obtain ⟨y, hy0⟩ : ∃ y, y = l[i] := ⟨_, rfl⟩
    have hyi : IsIn y := by rw [hy0]; exact hx _ (List.getElem_mem hlt)
    have f1 : seg cs (o + (i : Int).toNat * 40) 40 = some (inC y) := by rw [hy0]; exact seg_el (ins_len hx) hs hlt (by omega)
    rw [← List.getElem_cons_drop hlt, ← hy0] at hf
    clear hy0
    rw [List.find?_cons] at hf
    refine c_seq (c_region ?_)
    refine sD F (o_lssT (F.ev rfl) (F.ev rfl) (by omega) ?_); clear F a; intro a F
    with_reducible refine l_nil (q_then (c_seq ?_))
    refine c_true F rfl rfl ?_
    with_reducible refine c_skip (q_then (c_seq (c_block (c_seq (c_region ?_)))))
    refine sD F (o_indexSl (F.ev rfl) (F.ev rfl) (by omega) (by omega) ?_); clear F a; intro a F
    refine sD F (o_loadWA M (F.ev rfl) (by assumption) (by assumption) ?_); clear F a; intro a F
    refine sD F (o_alloc M ?_); clear F M; intro b7 w M a F
    refine stepN rfl F (o_storeA M (F.ev rfl) (F.ev rfl) (in_len (by first | assumption | trivial | exact And.left (by assumption))) (in_one _) (by repeat constructor) (put_all (by rw [(in_len (by first | assumption | trivial | exact And.left (by assumption)))]; first | rfl | rw [(in_len (by first | assumption | trivial | exact And.left (by assumption)))])) (by repeat constructor) ?_); clear F M; intro w M a F
    with_reducible refine l_nil (q_then (c_seq (c_region ?_)))
    refine sD F (o_fieldAddr (F.ev rfl) ?_); clear F a; intro a F
    refine sD F (o_loadA M (F.ev rfl) (by repeat constructor) (in_to (by first | assumption | trivial | exact And.left (by assumption))) ?_); clear F a; intro a F
    refine sD F (o_loadA M (F.ev rfl) (by repeat constructor) (dv_all (by first | assumption | trivial | exact And.left (by assumption))) ?_); clear F a; intro a F
    refine sD F (o_eqlAE (F.ev rfl) (F.ev rfl) (dv_fits (by first | assumption | trivial | exact And.left (by assumption))) (dv_fits (by first | assumption | trivial | exact And.left (by assumption))) (dv_eq (by first | assumption | trivial | exact And.left (by assumption)) (by first | assumption | trivial | exact And.left (by assumption))) ?_); clear F a; intro a F
    with_reducible refine l_nil (q_then ?_)
    refine c_if F rfl (fun h1 => ?_) (fun h1 => ?_)
    · skip
      rw [h1] at F; replace h1 := of_decide_eq_true h1
      refine c_seq (c_region ?_)
      refine sD F (o_loadA M (F.ev rfl) (by repeat constructor) (in_all (by first | assumption | trivial | exact And.left (by assumption))) ?_); clear F a; intro a F
      refine stepN rfl F (o_storeA M (F.ev rfl) (F.ev rfl) (in_len (by first | assumption | trivial | exact And.left (by assumption))) (in_one _) (by repeat constructor) (put_all (by rw [(in_len (by first | assumption | trivial | exact And.left (by assumption)))]; first | rfl | rw [(in_len (by first | assumption | trivial | exact And.left (by assumption)))])) (by repeat constructor) ?_); clear F M; intro w M a F
      refine sD F (o_assign (F.ev rfl) ?_); clear F a; intro a F
      with_reducible refine l_nil (q_then (c_ret (q_inBR (q_thenR (q_thenR (q_inBR (q_thenR ?_)))))))
      refine p_ret F rfl (.cons (.cell (F.ev rfl) (run_loadVar_agg TAgg.h (M.heap (by repeat constructor)) (in_all (by first | assumption | trivial | exact And.left (by assumption))))) (.cons (.tmp (F.ev rfl)) .nil)) ?_; (try dsimp only [oneOr])
      exact c2 _ _ (by rw [hV, ← hf]; simp [*]) M.ext
    · skip
      rw [h1] at F; replace h1 := of_decide_eq_false h1
      with_reducible refine c_skip (q_inB (q_then (c_region ?_)))
      refine sD F (o_add (F.ev rfl) (F.ev rfl) (w_i64 (by omega) (by omega)) ?_); clear F a; intro a F
      refine sD F (o_move (F.ev rfl) ?_); clear F a; intro a F
      with_reducible refine l_nil (q_then ?_)
      exact ⟨_, by omega, i + 1, rfl, by omega, by rw [← hf]; simp [*], F.only [10, 9, 8, 3, 4] rfl, M.sub (by repeat (first | exact .refl _ | apply List.Sublist.cons))⟩
  · obtain rfl : i = l.length := by omega
    rw [List.drop_length] at hf
    refine c_seq (c_region ?_)
    refine sD F (o_lssF (F.ev rfl) (F.ev rfl) (by omega) ?_); clear F a; intro a F
    with_reducible refine l_nil (q_then (c_seq ?_))
    refine c_false F rfl rfl ?_
    with_reducible refine c_exit (q_thenX (q_thenX (q_inBX (q_then (c_seq (c_region ?_))))))
    refine sD F (o_build F rfl (by assumption) ?_); clear F a; intro a F
    refine stepN rfl F (o_storeA M (F.ev rfl) (F.ev rfl) (in_len (by first | assumption | trivial | exact And.left (by assumption))) (in_one _) (by repeat constructor) (put_all (by rw [(in_len (by first | assumption | trivial | exact And.left (by assumption)))]; first | rfl | rw [(in_len (by first | assumption | trivial | exact And.left (by assumption)))])) (by repeat constructor) ?_); clear F M; intro w M a F
    refine sD F (o_assign (F.ev rfl) ?_); clear F a; intro a F
    with_reducible refine l_nil (q_then (c_ret ?_))
    refine p_ret F rfl (.cons (.cell (F.ev rfl) (run_loadVar_agg TAgg.h (M.heap (by repeat constructor)) (in_all (by first | assumption | trivial | exact And.left (by assumption))))) (.cons (.tmp (F.ev rfl)) .nil)) ?_; (try dsimp only [oneOr])
    exact c1 _ (by rw [hV, ← hf]; rfl) M.ext
end Go.Proofs.YtilgoepokaaleaaGreat
/-! Lib2 -/
namespace Go.Proofs.YtilgoepokaaleaaGreat
set_option linter.unusedVariables false
set_option linter.unusedSimpArgs false
open Go.RowKit
def isSlB (P : Program) (t : TypeId) : Bool := match P.underlying t with | some (.slice _) => true | _ => false
/-- what stays the same in a walk -/
structure Cx where
  P : Program
  r : Option Nat
  n : Nat
  df : List Deferred
  S : List Nat
  W : World
  flds : List (Nat × Nat × Nat)
  slcs : List Nat
  hf : (flds.all fun q => fieldAtB P q.1 q.2.1 q.2.2) = true
  hs : (slcs.all fun t => isSlB P t) = true
inductive KF
  | seq (y : Code)
  | blk (id : Nat)
inductive St
  | code (x : Code)
  | ops (all : Array Oper) (rest : List Oper)
  | ext (e : Exit)
def KQ (c : Cx) (Q : Exit → Act → World → Prop) : List KF → Exit → Act → World → Prop
  | [] => Q
  | .seq y :: ks => Exit.then (Wp c.r c.P y (KQ c Q ks)) (KQ c Q ks)
  | .blk id :: ks => Exit.inBlock id (KQ c Q ks)
def GS (c : Cx) (Q : Exit → Act → World → Prop) (ks : List KF) : St → Act → World → Prop
  | .code x => Wp c.r c.P x (KQ c Q ks)
  | .ops all rest => wpListIn (FW c.r) 0 c.P all (KQ c Q ks) rest
  | .ext e => KQ c Q ks e
/-- the memory's row: blocks, each alone, and lists of blocks that a slice owns -/
abbrev Row := List (List (Nat × Obj))
def G (c : Cx) (Q : Exit → Act → World → Prop) (ks : List KF) (st : St) (fr : List (Nat × Value)) (l : Row) : Prop :=
  ∀ a w, Frm a c.n c.df fr → Mem c.S c.W w l.flatten → GS c Q ks st a w
/-! what is run at once -/
def fldOf : List (Nat × Nat × Nat) → Nat → Nat → Option Nat
  | [], _, _ => none
  | (s, i, o) :: r, t, j => match Nat.beq s t && Nat.beq i j with
    | true => some o
    | false => fldOf r t j
theorem fldOf_ok {P : Program} : ∀ {l : List (Nat × Nat × Nat)} {t j o : Nat}, (l.all fun q => fieldAtB P q.1 q.2.1 q.2.2) = true → fldOf l t j = some o → fieldAtB P t j o = true
  | [], _, _, _, _, h => by simp [fldOf] at h
  | (s, i, q) :: r, t, j, o, ha, h => by
    simp only [List.all_cons, Bool.and_eq_true] at ha
    unfold fldOf at h
    split at h
    · rename_i hb
      simp only [Bool.and_eq_true] at hb
      obtain rfl := Nat.eq_of_beq_eq_true hb.1
      obtain rfl := Nat.eq_of_beq_eq_true hb.2
      cases h
      exact ha.1
    · exact fldOf_ok ha.2 h
def memN : List Nat → Nat → Bool
  | [], _ => false
  | s :: r, t => match Nat.beq s t with
    | true => true
    | false => memN r t
theorem memN_ok : ∀ {l : List Nat} {t : Nat}, memN l t = true → t ∈ l
  | [], _, h => by simp [memN] at h
  | s :: r, t, h => by
    unfold memN at h
    split at h
    · rename_i hb
      simp [Nat.eq_of_beq_eq_true hb]
    · exact List.mem_cons_of_mem _ (memN_ok h)
def kEq : IntKind → IntKind → Bool
  | .i8, .i8 | .i16, .i16 | .i32, .i32 | .i64, .i64 | .u8, .u8 | .u16, .u16 | .u32, .u32 | .u64, .u64 => true
  | _, _ => false
theorem kEq_ok {a b : IntKind} (h : kEq a b = true) : a = b := by
  cases a <;> cases b <;> first | rfl | cases h
def cmpOp : BinOp → Int → Int → Option Bool
  | .lss, m, n => some (decide (m < n))
  | .leq, m, n => some (decide (m ≤ n))
  | .gtr, m, n => some (decide (n < m))
  | .geq, m, n => some (decide (n ≤ m))
  | .eql, m, n => some (m == n)
  | .neq, m, n => some (m != n)
  | _, _, _ => none
def evCmp (b : BinOp) : Value → Value → Option Value
  | .int k m, .int k' n => match kEq k k' with
    | true => match cmpOp b m n with
      | some v => some (.bool v)
      | none => none
    | false => none
  | _, _ => none
def evO (c : Cx) (fr : List (Nat × Value)) : Op → Option Value
  | .move x => Ev fr x
  | .assign x => Ev fr x
  | .extract x i => match Ev fr x with
    | some (.tuple vs) => nth vs.toList i
    | _ => none
  | .fieldAddr s x i => match Ev fr x with
    | some (.pointer (some ⟨b, o, none⟩)) => match fldOf c.flds s i with
      | some off => some (.pointer (some ⟨b, o + off, none⟩))
      | none => none
    | _ => none
  | .unOp .not _ x => match Ev fr x with
    | some (.bool b) => some (.bool (!b))
    | _ => none
  | .binOp b _ x y _ => match Ev fr x with
    | some v => match Ev fr y with
      | some u => evCmp b v u
      | none => none
    | none => none
  | .pick q x y => match Ev fr q with
    | some (.bool true) => match Ev fr y with
      | some _ => Ev fr x
      | none => none
    | some (.bool false) => match Ev fr x with
      | some _ => Ev fr y
      | none => none
    | _ => none
  | .call q => match q.callee with
    | .builtin .len => match q.args.toList with
      | [x] => match q.argTypes.toList with
        | [t] => match Ev fr x with
          | some (.slice _ n _) => match memN c.slcs t with
            | true => some (.int .i64 n)
            | false => none
          | _ => none
        | _ => none
      | _ => none
    | _ => none
  | _ => none
def gOk (all : Array Oper) (fr : List (Nat × Value)) : Option (Nat × Bool) → Option Bool
  | none => some true
  | some (j, b) => match (all[j]?).bind (·.dst) with
    | some t => match look fr t with
      | some (.bool true) => some b
      | some (.bool false) => some (!b)
      | some (.tuple _) => some false
      | _ => none
    | none => none
def run1 (c : Cx) : List KF → St → List (Nat × Value) → Option (List KF × St × List (Nat × Value))
  | ks, .ops all [], fr => some (ks, .ext .normal, fr)
  | ks, .ops all (o :: rest), fr => match o.dst with
    | some d => match Nat.blt d c.n with
      | true => match gOk all fr o.guard with
        | some true => match evO c fr o.op with
          | some v => some (ks, .ops all rest, (d, v) :: fr)
          | none => none
        | some false => some (ks, .ops all rest, (d, undef) :: fr)
        | none => none
      | false => none
    | none => none
  | ks, .code x, fr => match x with
    | .skip => some (ks, .ext .normal, fr)
    | .region _ ops false => some (ks, .ops ops ops.toList, fr)
    | .seq x y => some (.seq y :: ks, .code x, fr)
    | .block id x => some (.blk id :: ks, .code x, fr)
    | .exit id => some (ks, .ext (.exit id), fr)
    | .ret => some (ks, .ext .ret, fr)
    | .cond o x y => match Ev fr o with
      | some (.bool true) => some (ks, .code x, fr)
      | some (.bool false) => some (ks, .code y, fr)
      | _ => none
    | _ => none
  | .seq y :: ks, .ext e, fr => match e with
    | .normal => some (ks, .code y, fr)
    | .exit id => some (ks, .ext (.exit id), fr)
    | .ret => some (ks, .ext .ret, fr)
    | _ => none
  | .blk id :: ks, .ext e, fr => match e with
    | .normal => some (ks, .ext .normal, fr)
    | .exit id' => match Nat.beq id' id with
      | true => some (ks, .ext .normal, fr)
      | false => some (ks, .ext (.exit id'), fr)
    | .ret => some (ks, .ext .ret, fr)
    | _ => none
  | [], .ext _, _ => none
def runN (c : Cx) : Nat → List KF → St → List (Nat × Value) → List KF × St × List (Nat × Value)
  | 0, ks, st, fr => (ks, st, fr)
  | k + 1, ks, st, fr => match run1 c ks st fr with
    | some (ks', st', fr') => runN c k ks' st' fr'
    | none => (ks, st, fr)
theorem evCmp_ok {P : Program} {b : BinOp} {t t' : TypeId} {x y : Operand} {ρ : Operand → Value} {w : World} {R : Value → World → Prop} {d : Option Tmp} {ty : TypeId} {pos : String} {af : Array Edge} {g : Option (Nat × Bool)} {v : Value}
    (h : evCmp b (ρ x) (ρ y) = some v) (hR : R v w) : OpTo P ⟨d, .binOp b t x y t', ty, pos, af, g⟩ ρ w R := by
  unfold evCmp at h
  split at h
  · rename_i k m k' n hx hy
    split at h
    · rename_i hk
      obtain rfl := kEq_ok hk
      split at h
      · rename_i q hq
        cases h
        cases b <;> simp only [cmpOp, Option.some.injEq] at hq <;> first | cases hq | subst hq
        all_goals first | exact o_lss hx hy hR | exact o_leq hx hy hR | exact o_gtr hx hy hR | exact o_geq hx hy hR | exact o_eql hx hy hR | exact o_neq hx hy hR
      · cases h
    · cases h
  · cases h
theorem evO_ok {c : Cx} {fr : List (Nat × Value)} {op : Op} {v : Value} {a : Act} {n : Nat} {df : List Deferred} {w : World} {R : Value → World → Prop} {d : Option Tmp} {ty : TypeId} {pos : String} {af : Array Edge} {g : Option (Nat × Bool)}
    (F : Frm a n df fr) (h : evO c fr op = some v) (hR : R v w) : OpTo c.P ⟨d, op, ty, pos, af, g⟩ a.eval w R := by
  unfold evO at h
  split at h
  · exact o_move (F.ev h) hR
  · exact o_assign (F.ev h) hR
  · split at h
    · rename_i vs hx
      exact o_extract (vs := vs.toList) (by simpa using F.ev hx) h hR
    · cases h
  · split at h
    · rename_i b o hx
      split at h
      · rename_i off hf
        cases h
        haveI : TFld c.P _ _ off := ⟨fldOf_ok c.hf hf⟩
        exact o_fieldAddr (F.ev hx) hR
      · cases h
    · cases h
  · split at h
    · rename_i b hx
      cases h
      exact o_not (F.ev hx) hR
    · cases h
  · split at h
    · rename_i v1 hx
      split at h
      · rename_i v2 hy
        rw [← F.ev hx, ← F.ev hy] at h
        exact evCmp_ok h hR
      · cases h
    · cases h
  · split at h
    · rename_i hq
      split at h
      · rename_i u hy
        exact o_pick (F.ev hq) (F.ev h) (F.ev hy) (by simpa using hR)
      · cases h
    · rename_i hq
      split at h
      · rename_i u hx
        exact o_pick (F.ev hq) (F.ev hx) (F.ev h) (by simpa using hR)
      · cases h
    · cases h
  · rename_i q
    obtain ⟨callee, args, tys⟩ := q
    split at h
    · rename_i hc
      split at h
      · rename_i x hx1
        split at h
        · rename_i t ht1
          split at h
          · rename_i p k q hx
            split at h
            · rename_i hm
              cases h
              dsimp only at hc hx1 ht1
              subst hc
              obtain rfl : args = #[x] := by cases args; simp_all
              obtain rfl : tys = #[t] := by cases tys; simp_all
              have h1 := List.all_eq_true.1 c.hs _ (memN_ok hm)
              unfold isSlB at h1
              split at h1
              · rename_i e he
                haveI : TU c.P _ (.slice e) := ⟨he⟩
                exact o_lenSl (F.ev hx) hR
              · cases h1
            · cases h
          · cases h
        · cases h
      · cases h
    · cases h
  · cases h
theorem evO_plain {c : Cx} {fr : List (Nat × Value)} {op : Op} {v : Value} (h : evO c fr op = some v) : plainOp op = true := by
  cases op <;> first | rfl | (simp [evO] at h)
section
variable {c : Cx} {Q : Exit → Act → World → Prop} {ks ks' : List KF} {st st' : St} {fr fr' : List (Nat × Value)} {l : Row}
theorem gOk_true {all : Array Oper} {g : Option (Nat × Bool)} (h : gOk all fr g = some true) : g = none ∨ ∃ j b t, g = some (j, b) ∧ (all[j]?).bind (·.dst) = some t ∧ look fr t = some (.bool b) := by
  unfold gOk at h
  split at h
  · exact .inl rfl
  · rename_i j b
    split at h
    · rename_i t ht
      split at h
      · rename_i hl
        cases h
        exact .inr ⟨j, true, t, rfl, ht, hl⟩
      · rename_i hl
        have : b = false := by cases b <;> simp_all
        subst this
        exact .inr ⟨j, false, t, rfl, ht, hl⟩
      · cases h
      · cases h
    · cases h
theorem gOk_false {all : Array Oper} {g : Option (Nat × Bool)} (h : gOk all fr g = some false) : ∃ j b t v, g = some (j, b) ∧ (all[j]?).bind (·.dst) = some t ∧ look fr t = some v ∧ offGuard b v = true := by
  unfold gOk at h
  split at h
  · cases h
  · rename_i j b
    split at h
    · rename_i t ht
      split at h
      · rename_i hl
        cases h
        exact ⟨j, false, t, _, rfl, ht, hl, rfl⟩
      · rename_i hl
        have : b = true := by cases b <;> simp_all
        subst this
        exact ⟨j, true, t, _, rfl, ht, hl, rfl⟩
      · rename_i vs hl
        exact ⟨j, b, t, _, rfl, ht, hl, rfl⟩
      · cases h
    · cases h
/-- one operation that writes a slot -/
theorem g_op {all : Array Oper} {d : Nat} {op : Op} {ty : TypeId} {pos : String} {af : Array Edge} {g : Option (Nat × Bool)} {rest : List Oper} (hp : plainOp op = true) (hd : Nat.blt d c.n = true) (hg : gOk all fr g = some true)
    (h : ∀ a w, Frm a c.n c.df fr → Mem c.S c.W w l.flatten → OpTo c.P ⟨some d, op, ty, pos, af, g⟩ a.eval w fun v w' => ∀ a', Frm a' c.n c.df ((d, v) :: fr) → GS c Q ks (.ops all rest) a' w') :
    G c Q ks (.ops all (⟨some d, op, ty, pos, af, g⟩ :: rest)) fr l := fun a w F M => by
  rcases gOk_true hg with rfl | ⟨j, b, t, rfl, ht, hl⟩
  · exact stepD hp F hd (h a w F M)
  · exact stepG hp F hd ht hl (h a w F M)
theorem run1_ok (h : run1 c ks st fr = some (ks', st', fr')) (hk : G c Q ks' st' fr' l) : G c Q ks st fr l := by
  unfold run1 at h
  split at h
  · rename_i all
    cases h
    exact fun a w F M => (l_nil (hk a w F M) : wpListIn (FW c.r) 0 c.P all (KQ c Q ks) [] a w)
  · rename_i all o rest
    obtain ⟨dst, op, ty, pos, af, g⟩ := o
    cases dst with
    | none => cases h
    | some d =>
      simp only at h
      split at h
      · rename_i hd
        split at h
        · rename_i hg
          split at h
          · rename_i v hv
            cases h
            exact g_op (evO_plain hv) hd hg fun a w F M => evO_ok F hv fun a' F' => hk a' w F' M
          · cases h
        · rename_i hg
          cases h
          obtain ⟨j, b, t, v, rfl, ht, hl, ho⟩ := gOk_false hg
          exact fun a w F M => stepOff F hd ht hl ho fun a' F' => hk a' w F' M
        · cases h
      · cases h
  · split at h
    · cases h
      exact fun a w F M => c_skip (hk a w F M)
    · rename_i id ops
      cases h
      intro a w F M
      have := c_region (id := id) (hk a w F M)
      simpa [GS] using this
    · cases h
      exact fun a w F M => c_seq (hk a w F M)
    · cases h
      exact fun a w F M => c_block (hk a w F M)
    · cases h
      exact fun a w F M => c_exit (hk a w F M)
    · cases h
      exact fun a w F M => c_ret (hk a w F M)
    · split at h
      · rename_i ho
        cases h
        exact fun a w F M => c_true F ho rfl (hk a w F M)
      · rename_i ho
        cases h
        exact fun a w F M => c_false F ho rfl (hk a w F M)
      · cases h
    · cases h
  · split at h
    · cases h
      exact fun a w F M => hk a w F M
    · cases h
      exact fun a w F M => hk a w F M
    · cases h
      exact fun a w F M => hk a w F M
    · cases h
  · split at h
    · cases h
      exact fun a w F M => hk a w F M
    · split at h
      · rename_i hb
        cases h
        obtain rfl := Nat.eq_of_beq_eq_true hb
        exact fun a w F M => q_inBX (hk a w F M)
      · rename_i hb
        cases h
        exact fun a w F M => q_inBY hb (hk a w F M)
    · cases h
      exact fun a w F M => hk a w F M
    · cases h
  · cases h
theorem runN_ok : ∀ (k : Nat) {ks ks' : List KF} {st st' : St} {fr fr' : List (Nat × Value)}, runN c k ks st fr = (ks', st', fr') → G c Q ks' st' fr' l → G c Q ks st fr l
  | 0, _, _, _, _, _, _, h, hk => by
    cases h
    exact hk
  | k + 1, ks, ks', st, st', fr, fr', h, hk => by
    unfold runN at h
    split at h
    · rename_i h1
      exact run1_ok h1 (runN_ok k h hk)
    · cases h
      exact hk
/-- runs k steps in which nothing is to be chosen -/
theorem g_run (k : Nat) (h : runN c k ks st fr = (ks', st', fr')) (hk : G c Q ks' st' fr' l) : G c Q ks st fr l := runN_ok k h hk
end
end Go.Proofs.YtilgoepokaaleaaGreat
/-! Lib3 -/
namespace Go.Proofs.YtilgoepokaaleaaGreat
set_option linter.unusedVariables false
set_option linter.unusedSimpArgs false
open Go.RowKit
theorem notT {b : Bool} (h : b = false) : (!b) = true := by simp [h]
theorem notF {b : Bool} (h : b = true) : (!b) = false := by simp [h]
/-! rows of blocks -/
def nthO {α : Type} : List α → Nat → Option α
  | [], _ => none
  | x :: _, 0 => some x
  | _ :: r, i + 1 => nthO r i
theorem nthO_sub : ∀ {l : Row} {i : Nat} {e : List (Nat × Obj)}, nthO l i = some e → ∀ x ∈ e, x ∈ l.flatten
  | [], _, _, h => by simp [nthO] at h
  | y :: _, 0, x, h => by
    simp only [nthO, Option.some.injEq] at h
    intro z hz
    simp [h, hz]
  | _ :: r, i + 1, x, h => fun z hz => List.mem_append_right _ (nthO_sub (l := r) h z hz)
theorem nthO_mem {l : Row} {i : Nat} {x : Nat × Obj} (h : nthO l i = some [x]) : x ∈ l.flatten := nthO_sub h x (by simp)
def setO : Row → Nat → List (Nat × Obj) → Option Row
  | [], _, _ => none
  | _ :: r, 0, o => some (o :: r)
  | p :: r, i + 1, o => match setO r i o with
    | some q => some (p :: q)
    | none => none
theorem subO {l l' : Row} (h : l.Sublist l') : l.flatten.Sublist l'.flatten := by
  induction h with
  | slnil => exact .refl _
  | cons x h ih => exact ih.trans (List.sublist_append_right _ _)
  | cons_cons x h ih => exact List.Sublist.append (.refl _) ih
theorem setO_upd : ∀ {l l' : Row} {i b : Nat} {o o' : Obj}, nthO l i = some [(b, o)] → setO l i [(b, o')] = some l' → Upd l.flatten b o o' l'.flatten
  | [], _, _, _, _, _, h, _ => by simp [nthO] at h
  | p :: r, l', 0, b, o, o', h, k => by
    simp only [nthO, Option.some.injEq] at h
    simp only [setO, Option.some.injEq] at k
    subst h
    subst k
    exact .here
  | p :: r, l', i + 1, b, o, o', h, k => by
    simp only [nthO] at h
    simp only [setO] at k
    split at k
    · rename_i q hq
      cases k
      exact (setO_upd h hq).append _
    · cases k
/-- a list of blocks may be put ahead -/
theorem nthO_perm : ∀ {l l' : Row} {i : Nat} {e e' : List (Nat × Obj)}, nthO l i = some e → setO l i e' = some l' → ∃ r, l.flatten.Perm (e ++ r) ∧ l'.flatten.Perm (e' ++ r)
  | [], _, _, _, _, h, _ => by simp [nthO] at h
  | p :: r, l', 0, e, e', h, k => by
    simp only [nthO, Option.some.injEq] at h
    simp only [setO, Option.some.injEq] at k
    subst h
    subst k
    exact ⟨r.flatten, .refl _, .refl _⟩
  | p :: r, l', i + 1, e, e', h, k => by
    simp only [nthO] at h
    simp only [setO] at k
    split at k
    · rename_i q hq
      cases k
      obtain ⟨s, h1, h2⟩ := nthO_perm h hq
      refine ⟨p ++ s, ?_, ?_⟩
      · refine (List.Perm.append_left p h1).trans ?_
        rw [← List.append_assoc, ← List.append_assoc]
        exact List.Perm.append_right _ List.perm_append_comm
      · refine (List.Perm.append_left p h2).trans ?_
        rw [← List.append_assoc, ← List.append_assoc]
        exact List.Perm.append_right _ List.perm_append_comm
    · cases k
theorem OwnS.nilL {α : Type} (enc : α → List Value) (e : TypeId) (sz : Nat) : OwnS e sz (.slice none 0 0) ([] : List α).length (encL enc []) [] := OwnS.nil _ _
section
variable {c : Cx} {Q : Exit → Act → World → Prop} {ks : List KF} {fr : List (Nat × Value)} {l l' : Row} {all : Array Oper} {rest : List Oper} {d : Nat} {ty : TypeId} {pos : String} {af : Array Edge} {g : Option (Nat × Bool)}
/-- an operation whose value is told and that leaves the world as it is -/
theorem g_v {op : Op} {v : Value} (h : ∀ a w, Frm a c.n c.df fr → Mem c.S c.W w l.flatten → ∀ R : Value → World → Prop, R v w → OpTo c.P ⟨some d, op, ty, pos, af, g⟩ a.eval w R)
    (k : G c Q ks (.ops all rest) ((d, v) :: fr) l) (hp : plainOp op = true := by rfl) (hd : Nat.blt d c.n = true := by rfl) (hg : gOk all fr g = some true := by rfl) : G c Q ks (.ops all (⟨some d, op, ty, pos, af, g⟩ :: rest)) fr l :=
  g_op hp hd hg fun a w F M => h a w F M _ fun a' F' => k a' w F' M
section arith
variable {t t' : TypeId} {x y : Operand} {k : IntKind} {m n s : Int}
theorem g_add (hx : Ev fr x = some (.int k m)) (hy : Ev fr y = some (.int k n)) (hs : k.wrap (m + n) = s) (hk : G c Q ks (.ops all rest) ((d, .int k s) :: fr) l) (hd : Nat.blt d c.n = true := by rfl) (hg : gOk all fr g = some true := by rfl) :
    G c Q ks (.ops all (⟨some d, .binOp .add t x y t', ty, pos, af, g⟩ :: rest)) fr l := g_v (fun a w F M R r => o_add (F.ev hx) (F.ev hy) hs r) hk rfl hd hg
end arith
theorem g_ld1 (i : Nat) {t : TypeId} {x : Operand} {b off : Nat} {cs : List Value} {t' : TypeId} {fz : Nat × Nat} {v : Value} [ht : TOne c.P t] (hx : Ev fr x = some (.pointer (some ⟨b, off, none⟩))) (hl : nthO l i = some [(b, .cells cs.toArray t' fz)]) (hv : nth cs off = some v)
    (hk : G c Q ks (.ops all rest) ((d, v) :: fr) l) (hd : Nat.blt d c.n = true := by rfl) (hg : gOk all fr g = some true := by rfl) : G c Q ks (.ops all (⟨some d, .load t x, ty, pos, af, g⟩ :: rest)) fr l :=
  g_v (fun a w F M R r => o_loadH1 (F.ev hx) (M.at_ _ (nthO_mem hl)) hv r) hk rfl hd hg
theorem g_ldA (i : Nat) {t : TypeId} {x : Operand} {b off n : Nat} {cs : List Value} {t' : TypeId} {fz : Nat × Nat} {vs : List Value} [ht : TAgg c.P t n] (hx : Ev fr x = some (.pointer (some ⟨b, off, none⟩))) (hl : nthO l i = some [(b, .cells cs.toArray t' fz)]) (hv : seg cs off n = some vs)
    (hk : G c Q ks (.ops all rest) ((d, .agg vs.toArray) :: fr) l) (hd : Nat.blt d c.n = true := by rfl) (hg : gOk all fr g = some true := by rfl) : G c Q ks (.ops all (⟨some d, .load t x, ty, pos, af, g⟩ :: rest)) fr l :=
  g_v (fun a w F M R r => o_loadHA (F.ev hx) (M.at_ _ (nthO_mem hl)) hv r) hk rfl hd hg
theorem g_leA {t : TypeId} {x : Operand} {b off n : Nat} {cs : List Value} {t' : TypeId} {fz : Nat × Nat} {vs : List Value} [ht : TAgg c.P t n] (hx : Ev fr x = some (.pointer (some ⟨b, off, none⟩))) (hb : ∀ w', Ext c.S c.W w' → w'.heap[b]? = some (.cells cs.toArray t' fz)) (hv : seg cs off n = some vs)
    (hk : G c Q ks (.ops all rest) ((d, .agg vs.toArray) :: fr) l) (hd : Nat.blt d c.n = true := by rfl) (hg : gOk all fr g = some true := by rfl) : G c Q ks (.ops all (⟨some d, .load t x, ty, pos, af, g⟩ :: rest)) fr l :=
  g_v (fun a w F M R r => o_loadHA (F.ev hx) (hb w M.ext) hv r) hk rfl hd hg
theorem g_ixS {t e : TypeId} {x i : Operand} {k : IntKind} {b o len cap sz : Nat} {j : Int} (hx : Ev fr x = some (.slice (some ⟨b, o, none⟩) len cap)) (hi : Ev fr i = some (.int k j)) [ht : TU c.P t (.slice e)] [hs : TSz c.P e sz] (h0 : 0 ≤ j) (h1 : j < len)
    (hk : G c Q ks (.ops all rest) ((d, .pointer (some ⟨b, o + j.toNat * sz, none⟩)) :: fr) l) (hd : Nat.blt d c.n = true := by rfl) (hg : gOk all fr g = some true := by rfl) : G c Q ks (.ops all (⟨some d, .indexAddr t x i, ty, pos, af, g⟩ :: rest)) fr l :=
  g_v (fun a w F M R r => o_indexSl (F.ev hx) (F.ev hi) h0 h1 r) hk rfl hd hg
theorem g_eqA {t t' : TypeId} {x y : Operand} {kk : List LK} {xs ys : List Value} {b : Bool} [ht : TEq c.P t kk] (hx : Ev fr x = some (.agg xs.toArray)) (hy : Ev fr y = some (.agg ys.toArray)) (fx : fitsK kk xs = true) (fy : fitsK kk ys = true) (he : eqVs xs ys = b)
    (hk : G c Q ks (.ops all rest) ((d, .bool b) :: fr) l) (hd : Nat.blt d c.n = true := by rfl) (hg : gOk all fr g = some true := by rfl) : G c Q ks (.ops all (⟨some d, .binOp .eql t x y t', ty, pos, af, g⟩ :: rest)) fr l :=
  g_v (fun a w F M R r => o_eqlAE (F.ev hx) (F.ev hy) fx fy he r) hk rfl hd hg
/-- a new block -/
theorem g_alloc {t : TypeId} {cs : List Value} [hz : TZero c.P t cs] (hk : ∀ b, G c Q ks (.ops all rest) ((d, .pointer (some ⟨b, 0, none⟩)) :: fr) ([(b, .cells cs.toArray t (0, 0))] :: l)) (hd : Nat.blt d c.n = true := by rfl) (hg : gOk all fr g = some true := by rfl) :
    G c Q ks (.ops all (⟨some d, .alloc t, ty, pos, af, g⟩ :: rest)) fr l :=
  g_op rfl hd hg fun a w F M => o_alloc M fun b w' M' a' F' => hk b a' w' F' M'
theorem g_box {t : TypeId} {x : Operand} {v : Value} {cs : List Value} (hx : Ev fr x = some v) (hv : v.cells = cs.toArray) (hk : ∀ b, G c Q ks (.ops all rest) ((d, .pointer (some ⟨b, 0, none⟩)) :: fr) ([(b, .cells cs.toArray t (0, 0))] :: l)) (hd : Nat.blt d c.n = true := by rfl) (hg : gOk all fr g = some true := by rfl) :
    G c Q ks (.ops all (⟨some d, .box t x, ty, pos, af, g⟩ :: rest)) fr l :=
  g_op rfl hd hg fun a w F M => o_box M (F.ev hx) hv fun b w' M' a' F' => hk b a' w' F' M'
theorem g_stA (i : Nat) {t : TypeId} {x y : Operand} {b off n : Nat} {cs cs' vs : List Value} {t' : TypeId} [hs : TAgg c.P t n] (hx : Ev fr x = some (.pointer (some ⟨b, off, none⟩))) (hy : Ev fr y = some (.agg vs.toArray)) (hn : vs.length = n) (h1 : vs.all (·.oneCell') = true) (hl : nthO l i = some [(b, .cells cs.toArray t' (0, 0))]) (hp : put cs off vs = some cs') (hl' : setO l i [(b, .cells cs'.toArray t' (0, 0))] = some l')
    (hk : G c Q ks (.ops all rest) fr l') : G c Q ks (.ops all (⟨none, .store t x y, ty, pos, af, none⟩ :: rest)) fr l := fun a w F M =>
  stepN rfl F (o_storeA M (F.ev hx) (F.ev hy) hn h1 (setO_upd hl hl').has hp (setO_upd hl hl') fun w' M' a' F' => hk a' w' F' M')
/-- calls: the answer told, nothing turned -/
theorem g_call {x : Operand} {f : FuncId} {xs : List Operand} {ts : Array TypeId} {vs : List Value} {v : Value} [hb : TBody c.P f] (hx : Ev fr x = some (.func (.func f) #[] #[])) (ha : evL fr xs = some vs) (hc : ∀ w, Mem c.S c.W w l.flatten → Cal c.P f vs.toArray w fun u w' => u = v ∧ Ext [] w w')
    (hk : G c Q ks (.ops all rest) ((d, v) :: fr) l) (hd : Nat.blt d c.n = true := by rfl) (hg : gOk all fr g = some true := by rfl) : G c Q ks (.ops all (⟨some d, .call ⟨.value x, xs.toArray, ts⟩, ty, pos, af, g⟩ :: rest)) fr l :=
  g_op rfl hd hg fun a w F M => o_call (F.ev hx) (F.evs ha) (Cal.mono (hc w M) fun u w' h a' F' => hk a' w' (h.1 ▸ F') (M.later h.2))
/-- a branch; a guard that is split -/
theorem g_if {o : Operand} {x y : Code} {t : Bool} (hx : Ev fr o = some (.bool t)) (ht : t = true → G c Q ks (.code x) fr l) (hf : t = false → G c Q ks (.code y) fr l) : G c Q ks (.code (.cond o x y)) fr l := fun a w F M =>
  c_if F hx (fun h => ht h a w F M) (fun h => hf h a w F M)
theorem g_split (s : Nat) {st : St} {b : Bool} (h : look fr s = some (.bool b)) (ht : b = true → G c Q ks st ((s, .bool true) :: fr) l) (hf : b = false → G c Q ks st ((s, .bool false) :: fr) l) : G c Q ks st fr l := fun a w F M => by
  cases b
  · exact hf rfl a w (F.know (F.at_ s _ h)) M
  · exact ht rfl a w (F.know (F.at_ s _ h)) M
theorem g_ret {fn : Func} {R : Value → World → Prop} {rvs : List ResultVar} {vs : List Value} {c : Cx} (hdf : c.df = []) (hr : fn.results = rvs.toArray) (hv : ∀ a w, Frm a c.n c.df fr → Mem c.S c.W w l.flatten → ResVs c.P a w rvs vs) (h : ∀ w, Mem c.S c.W w l.flatten → R (oneOr vs) w) : G c (Post c.P fn R) [] (.ext .ret) fr l := fun a w F M => by
  have F' := F
  rw [hdf] at F'
  exact p_ret F' hr (hv a w F M) (h w M)
theorem g_ret1 {fn : Func} {R : Value → World → Prop} {t : Nat} {v : Value} {c : Cx} (hdf : c.df = []) (hr : fn.results = [ResultVar.tmp t].toArray) (hv : look fr t = some v) (h : ∀ w, Mem c.S c.W w l.flatten → R v w) : G c (Post c.P fn R) [] (.ext .ret) fr l :=
  g_ret hdf hr (fun a w F M => .cons (.tmp (F.ev hv)) .nil) h
theorem g_retC2 (i : Nat) {fn : Func} {R : Value → World → Prop} {q b off n s : Nat} {u : Value} {ty : TypeId} {cs vs : List Value} {t' : TypeId} {fz : Nat × Nat} {c : Cx} [ht : TAgg c.P ty n] (hdf : c.df = []) (hr : fn.results = [ResultVar.cell q ty, ResultVar.tmp s].toArray) (hq : look fr q = some (.pointer (some ⟨b, off, none⟩))) (hl : nthO l i = some [(b, .cells cs.toArray t' fz)]) (hv : seg cs off n = some vs) (hu : look fr s = some u)
    (h : ∀ w, Mem c.S c.W w l.flatten → R (.tuple [.agg vs.toArray, u].toArray) w) : G c (Post c.P fn R) [] (.ext .ret) fr l :=
  g_ret hdf hr (fun a w F M => .cons (.cell (F.ev hq) (run_loadVar_agg ht.h (M.at_ _ (nthO_mem hl)) (by simpa using hv))) (.cons (.tmp (F.ev hu)) .nil)) h
theorem g_start {P : Program} {f : FuncId} {fn : Func} {x : Code} {vs : List Value} {W : World} {R : Value → World → Prop} {n : Nat} {S : List Nat} {flds : List (Nat × Nat × Nat)} {slcs : List Nat} (hf : (flds.all fun q => fieldAtB P q.1 q.2.1 q.2.2) = true) (hs : (slcs.all fun t => isSlB P t) = true)
    (hfn : P.funcs[f]? = some fn) (hb : fn.body = some x) (hn : fn.ntmps = n) (hle : Nat.ble vs.length n = true)
    (h : G ⟨P, none, n, [], S, W, flds, slcs, hf, hs⟩ (Post P fn R) [] (.code x) (number 0 vs) []) : Cal P f vs.toArray W R :=
  fn_ofM S hfn hb hn hle fun a w F M _ => h a w F M
theorem g_ifT {o : Operand} {x y : Code} {t : Bool} (hx : Ev fr o = some (.bool t)) (ht : t = true) (hk : G c Q ks (.code x) fr l) : G c Q ks (.code (.cond o x y)) fr l := fun a w F M => c_true F hx ht (hk a w F M)
theorem g_ifF {o : Operand} {x y : Code} {t : Bool} (hx : Ev fr o = some (.bool t)) (ht : t = false) (hk : G c Q ks (.code y) fr l) : G c Q ks (.code (.cond o x y)) fr l := fun a w F M => c_false F hx ht (hk a w F M)
theorem g_know (s : Nat) {st : St} {b b' : Bool} (h : look fr s = some (.bool b)) (hb : b = b') (hk : G c Q ks st ((s, .bool b') :: fr) l) : G c Q ks st fr l := fun a w F M => by
  subst hb
  exact hk a w (F.know (F.at_ s _ h)) M
/-- a loop: the state is told by i, whose measure falls -/
structure LI (ι : Type) where
  μ : ι → Nat
  p : ι → Prop
  fi : ι → List (Nat × Value)
  li : ι → Row
def LQ {ι : Type} (J : LI ι) (c : Cx) (Q : Exit → Act → World → Prop) (ks : List KF) (i : ι) : Exit → Act → World → Prop
  | .normal, a, w => ∃ j, J.μ j < J.μ i ∧ J.p j ∧ Frm a c.n c.df (J.fi j) ∧ Mem c.S c.W w (J.li j).flatten
  | e, a, w => KQ c Q ks e a w
theorem g_loop {ι : Type} (J : LI ι) (i0 : ι) {x : Code} (h0 : J.p i0) (hfr : ∀ a, Frm a c.n c.df fr → Frm a c.n c.df (J.fi i0)) (hl : (J.li i0).Sublist l)
    (h : ∀ i, J.p i → G c (LQ J c Q ks i) [] (.code x) (J.fi i) (J.li i)) : G c Q ks (.code (.loop x)) fr l := fun a w F M => by
  refine c_loop (fun m a w => ∃ i, m = J.μ i ∧ J.p i ∧ Frm a c.n c.df (J.fi i) ∧ Mem c.S c.W w (J.li i).flatten) (J.μ i0) ⟨i0, rfl, h0, hfr a F, M.sub (subO hl)⟩ ?_
  rintro m a w ⟨i, rfl, hp, F, M⟩
  refine wpIn_mono (h i hp a w F M) fun e a w hq => ?_
  cases e with
  | normal =>
    obtain ⟨j, h1, h2, h3, h4⟩ := hq
    exact ⟨_, h1, j, rfl, h2, h3, h4⟩
  | exit _ => exact hq
  | goto _ => exact hq
  | ret => exact hq
  | panic _ => exact hq
  | outgrown => exact hq
theorem g_next {ι : Type} {J : LI ι} {i : ι} (j : ι) (h2 : J.p j) (h1 : J.μ j < J.μ i) (hfr : ∀ a, Frm a c.n c.df fr → Frm a c.n c.df (J.fi j)) (hl : (J.li j).Sublist l) : G c (LQ J c Q ks i) [] (.ext .normal) fr l := fun a w F M => ⟨j, h1, h2, hfr a F, M.sub (subO hl)⟩
theorem g_outX {ι : Type} {J : LI ι} {i : ι} {id : Nat} (h : G c Q ks (.ext (.exit id)) fr l) : G c (LQ J c Q ks i) [] (.ext (.exit id)) fr l := h
/-- a slice written out: new memory -/
theorem g_bs {t e : TypeId} {len sz : Nat} {xs : List (Nat × Operand)} {parts : List (Nat × List Value)} {zs cs : List Value} [ht : TU c.P t (.slice e)] [hs : TSz c.P e sz] [hz : TZero c.P e zs] (hv : evP fr xs = some parts)
    (hle : Nat.ble (len * sz) 16777216 = true) (hzl : Nat.beq zs.length sz = true) (hp : putAll (placesL len sz) (zerosL zs (len * sz)) parts = some cs)
    (hk : ∀ b, G c Q ks (.ops all rest) ((d, .slice (some ⟨b, 0, none⟩) len len) :: fr) ([(b, .cells cs.toArray e (0, 0))] :: l)) (hd : Nat.blt d c.n = true := by rfl) (hg : gOk all fr g = some true := by rfl) : G c Q ks (.ops all (⟨some d, .buildSlice t len xs.toArray, ty, pos, af, g⟩ :: rest)) fr l :=
  g_op rfl hd hg fun a w F M => o_buildSlice F M hv hle hzl hp fun b w' M' a' F' => hk b a' w' F' M'
/-- one element more: i is the place of the slice's blocks, j that of the new element -/
theorem g_app (i j : Nat) {α : Type} {enc : α → List Value} {out : List α} {x0 : α} {st xt e : TypeId} {x y : Operand} {sz by_ bx kx : Nat} {v : Value} {ent : List (Nat × Obj)} {f : List (Nat × Obj) → Row} {t' : TypeId} {fz : Nat × Nat} [hst : TU c.P st (.slice e)] [hel : TEl c.P e sz by_] [hxt : TNI c.P xt]
    (hx : Ev fr x = some v) (hy : Ev fr y = some (.slice (some ⟨bx, 0, none⟩) 1 kx)) (hO : OwnS e sz v out.length (encL enc out) ent) (hi : nthO l i = some ent) (hj : nthO l j = some [(bx, .cells (enc x0).toArray t' fz)]) (hz : (enc x0).length = sz) (hbd : (out.length + 1) * by_ ≤ 140737488355328)
    (hf : ∀ e', setO l i e' = some (f e')) (hk : ∀ v' ent', OwnS e sz v' (out ++ [x0]).length (encL enc (out ++ [x0])) ent' → G c Q ks (.ops all rest) ((d, v') :: fr) (f ent')) (h1 : (enc x0).all (·.oneCell') = true) (hd : Nat.blt d c.n = true := by rfl) (hg : gOk all fr g = some true := by rfl) (hln : out.length + 1 ≤ 9223372036854775807 := by first | omega | (simp only [List.length_nil]; omega)) :
    G c Q ks (.ops all (⟨some d, .call ⟨.builtin .append, #[x, y], #[st, xt]⟩, ty, pos, af, g⟩ :: rest)) fr l := by
  refine g_op rfl hd hg fun a w F M => ?_
  obtain ⟨r, p1, _⟩ := nthO_perm hi (hf ent)
  have hp : ∀ e', (f e').flatten.Perm (e' ++ r) := fun e' => by
    obtain ⟨r', q1, q2⟩ := nthO_perm hi (hf e')
    exact q2.trans (List.Perm.append_left _ ((List.perm_append_left_iff ent).1 (q1.symm.trans p1)))
  have hX : SrcOf c.P w (.slice (some ⟨bx, 0, none⟩) 1 kx) 1 sz (enc x0) := SrcOf.cells' (M.at_ _ (nthO_mem hj)) (by rw [Nat.one_mul, ← hz]; simpa using seg_of [] (enc x0) []) h1
  refine o_append1 (f := fun e' => r ++ e') hO (M.perm (p1.trans List.perm_append_comm)) ?_ (F.ev hx) (F.ev hy) hX hbd (fun v' ent' w' hO' M' => ?_) hln
  · exact .app .here
  · exact fun a' F' => hk v' ent' hO' a' w' F' (M'.perm (List.perm_append_comm.trans (hp ent').symm))
/-- a slice that owns nothing -/
theorem g_pad {st : St} (hk : G c Q ks st fr ([] :: l)) : G c Q ks st fr l := hk
end
end Go.Proofs.YtilgoepokaaleaaGreat
/-! Tab -/
namespace Go.Proofs.YtilgoepokaaleaaGreat
open Go.RowKit
def fldT : List (Nat × Nat × Nat) := [(7, 0, 0), (7, 1, 1), (7, 2, 2), (7, 3, 3), (8, 0, 0), (8, 1, 1), (8, 2, 2), (8, 3, 3), (13, 0, 0), (13, 1, 1), (14, 0, 0), (14, 1, 1), (18, 0, 0), (19, 0, 0), (40, 0, 0), (40, 1, 16), (41, 0, 0), (41, 1, 16), (44, 0, 0), (44, 1, 17), (44, 2, 34), (45, 0, 0), (45, 1, 17), (45, 2, 34), (47, 0, 0), (47, 1, 1), (48, 0, 0), (48, 1, 1), (49, 0, 0), (49, 1, 35), (49, 2, 36), (49, 3, 38), (49, 4, 39), (50, 0, 0), (50, 1, 35), (50, 2, 36), (50, 3, 38), (50, 4, 39), (52, 0, 0), (52, 1, 35), (52, 2, 36), (52, 3, 38), (53, 0, 0), (53, 1, 35), (53, 2, 36), (53, 3, 38), (54, 0, 0), (54, 1, 1), (55, 0, 0), (55, 1, 1), (94, 0, 0), (94, 1, 1), (95, 0, 0), (95, 1, 1), (132, 0, 0), (132, 1, 35), (132, 2, 37), (133, 0, 0), (133, 1, 35), (133, 2, 37), (140, 0, 0), (140, 1, 1), (140, 2, 2), (141, 0, 0), (141, 1, 1), (141, 2, 2), (187, 0, 0), (187, 1, 1), (187, 2, 2), (187, 3, 3), (188, 0, 0), (188, 1, 1), (188, 2, 2), (188, 3, 3), (199, 0, 0), (199, 1, 1), (199, 2, 2), (199, 3, 3), (199, 4, 4), (199, 5, 5), (199, 6, 6), (199, 7, 7), (199, 8, 8), (199, 9, 9), (199, 10, 10), (200, 0, 0), (200, 1, 1), (200, 2, 2), (200, 3, 3), (200, 4, 4), (200, 5, 5), (200, 6, 6), (200, 7, 7), (200, 8, 8), (200, 9, 9), (200, 10, 10)]
def slcT : List Nat := [22, 26, 28, 30, 33, 73, 74, 75, 76, 77, 78, 101, 158]
theorem fldT_ok : (fldT.all fun q => fieldAtB Tryz.prog q.1 q.2.1 q.2.2) = true := by kernel_rfl
theorem slcT_ok : (slcT.all fun t => isSlB Tryz.prog t) = true := by kernel_rfl
end Go.Proofs.YtilgoepokaaleaaGreat

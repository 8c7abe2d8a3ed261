/-
  Texts joined: ZD, ZG, ZH, ZM, ZN, ZP, ZO, ZQ, YB, ZS, ZR, ZT, ZU, ZY, ZZ, YV, YW, ZV, Y8, Y9, YD, YE, YL.
-/
import Derived.Test.YtilgoepokaaleaaGreatNoCircle4
/-! ZD -/
namespace Go.Proofs.YtilgoepokaaleaaGreat
set_option linter.unusedVariables false
set_option linter.unusedSimpArgs false
open Go.RowKit
attribute [local irreducible] OpTo wpListIn Code.wpIn MW Cal
def selectV (now : Int) (l : List RouV) (s : List SrcV) (links : List OptV) (old : List InsV) : List InsV × Int :=
 if !validRs l || !validSs s || !validOs links || !validIs old then ([], 1) else if !isTime now then ([], 2)
 else if 512 < (selV now l s links old).length then ([], 10) else (selV now l s links old, 0)
def mapI (m : List (Int × Int)) : List (Int × Value) := m.map fun p => (p.1, Value.int .i64 p.2)
theorem zero_iR : zeroIs Tryz.prog 3 (.int .i64 0) := by
 unfold zeroIs
 kernel_rfl
theorem getA_mapI (x : Int) (m : List (Int × Int)) : getA x (mapI m) = (getA x m).map (Value.int .i64) := getA_map _ x m
theorem nodupD_le : ∀ {xs ys : List DstV}, AscD xs → (∀ x ∈ xs, x ∈ ys) → xs.length ≤ ys.length
 | [], _, _, _ => by simp
 | x :: xs, ys, hn, hs => by
  have h1 := List.pairwise_cons.1 hn
  have hx := hs x (by simp)
  have h2 : xs.length ≤ (ys.erase x).length := nodupD_le h1.2 fun y hy => (List.mem_erase_of_ne (fun e => by have := h1.1 y hy;rw [e, cmpD_self] at this;omega)).2 (hs y (List.mem_cons_of_mem _ hy))
  rw [List.length_erase_of_mem hx] at h2
  have : 0 < ys.length := List.length_pos_of_mem hx
  simp only [List.length_cons]
  omega
theorem oldV_is {old : List InsV} (hy : ∀ x ∈ old, IsIn x) {t : DstV} {o : InsV} (h : oldV old t = some o) : IsIn o := hy o (List.mem_of_find?_eq_some h)
theorem selE_is {now : Int} {l : List RouV} {s : List SrcV} {cm : List (Int × Int)} {old : List InsV} {t : DstV} (ht : IsDv t) (hy : ∀ x ∈ old, IsIn x) {e : InsV} (h : selE now l s cm old t = some e) : IsIn e := by
 unfold selE aftV at h
 dsimp only at h
 split at h
 ·cases h
  exact ⟨ht, trivial⟩
 ·split at h
  ·cases h
  ·rename_i o ho
   split at h
   ·cases h
    exact ⟨ht, trivial⟩
   ·split at h
    ·cases h
     exact oldV_is hy ho
    ·cases h
theorem opts_len {now : Int} {s : List SrcV} {cm : List (Int × Int)} {t : DstV} {l : List RouV} {n : Nat} (h : l.length ≤ n) : (optsV now s cm t l).length ≤ n := by
 unfold optsV
 have h1 := List.length_filterMap_le (optV now s cm t) (l.filter fun r => decide (r.to = t))
 have h2 := List.length_filter_le (fun r => decide (r.to = t)) l
 omega
def PhO (o : OptV) (r : Value) (ent : List (Nat × Obj)) : Prop := ∃ b, r = .slice (some ⟨b, 0, none⟩) 1 1 ∧ ent = [(b, opO o)]
theorem bsO (o : OptV) {a : Act} {n t : Nat} {df : List Deferred} {fr : List (Nat × Value)} {w w1 : World} {d : Option Tmp} {ty : TypeId} {pos : String} {af : Array Edge} {g : Option (Nat × Bool)} (F : Frm a n df fr) (E : Ext [] w1 w) (ht : Ev fr (.tmp t) = some (.agg (opC o).toArray)) :
  OpTo Tryz.prog ⟨d, .buildSlice 30 1 [(0, .tmp t)].toArray, ty, pos, af, g⟩ a.eval w fun r w' => Ext [] w w' ∧ NewP w1.heap.size (PhO o) r w' := by
 have hev : evP fr [(0, .tmp t)] = some [(0, opC o)] := by simp only [evP, ht]
 refine o_buildSlice F (Mem.start [] w) hev rfl rfl (op_build1 (o := o) trivial) ?_
 intro b w' M
 exact newP_of E ⟨_, ⟨b, rfl, rfl⟩, M⟩
set_option maxHeartbeats 16000000 in
theorem select_c (now : Int) (l : List RouV) (hx : ∀ x ∈ l, IsRo x) (s : List SrcV) (hs' : ∀ x ∈ s, IsSr x) (links : List OptV) (old : List InsV) (hy : ∀ x ∈ old, IsIn x) (vl vs vk vo : Value) (W : World) (hSl : SlAt W 39 vl l.length (rosC l)) (hSs : SlAt W 38 vs s.length (srsC s)) (hSk : SlAt W 2 vk links.length (opsC links)) (hSo : SlAt W 40 vo old.length (insC old)) :
  Cal Tryz.prog 15 [.int .i64 now, vl, vs, vk, vo].toArray W fun r w' => ∃ u ent, r = .tuple [u, .int .i64 (selectV now l s links old).2].toArray ∧ OwnS 50 40 u (selectV now l s links old).1.length (insC (selectV now l s links old).1) ent ∧ Mem [] W w' ent := by
 have hk : ∀ x ∈ links, IsOp x := fun _ _ => trivial
 have hSl0 := hSl
 have hSk0 := hSk
 have hSo0 := hSo
 obtain ⟨q, cap, rfl, hcap, hsp, hl, hm⟩ := hSl
 obtain ⟨qk, capk, rfl, hcapk, hspk, hlk, hmk⟩ := hSk
 obtain ⟨qo, capo, rfl, hcapo, hspo, hlo, hmo⟩ := hSo
 refine fn_ofM (n := 190) [] Tryz.func15 rfl rfl rfl ?_
 intro a w F M hwW
 refine c_seq (c_region ?_)
 refine sD F (o_assign (F.e rfl) ?_);clear F a;intro a F
 refine sD F (o_assign (F.e rfl) ?_);clear F a;intro a F
 with_reducible refine l_nil (q_then (c_seq (c_seq (c_region ?_))))
 refine sD F (o_move (F.e rfl) ?_);clear F a;intro a F
 (refine sD F (o_call (F.e rfl) (F.evs rfl) (Cal.mono (rtvalid_c l hx _ _ (hSl0.later M.ext)) ?_));clear F;clear a;rintro _ w ⟨rfl, hE⟩ a F;replace M := M.later hE;clear hE)
 cases c1 : validRs l
 ·have hL : selectV now l s links old = ([], 1) := by unfold selectV;rw [c1];rfl
  rw [hL]
  rw [c1] at F
  refine sD F (o_not (F.e rfl) ?_);clear F a;intro a F
  refine sD F (o_move (F.e rfl) ?_);clear F a;intro a F
  refine sO F ?_;clear F a;intro a F
  refine sO F ?_;clear F a;intro a F
  refine sO F ?_;clear F a;intro a F
  refine sD F (o_pickT (F.e rfl) (F.e rfl) ?_);clear F a;intro a F
  refine sD F (o_move (F.e rfl) ?_);clear F a;intro a F
  refine sO F ?_;clear F a;intro a F
  refine sO F ?_;clear F a;intro a F
  refine sO F ?_;clear F a;intro a F
  refine sD F (o_pickT (F.e rfl) (F.e rfl) ?_);clear F a;intro a F
  refine sD F (o_move (F.e rfl) ?_);clear F a;intro a F
  refine sO F ?_;clear F a;intro a F
  refine sO F ?_;clear F a;intro a F
  refine sO F ?_;clear F a;intro a F
  refine sD F (o_pickT (F.e rfl) (F.e rfl) ?_);clear F a;intro a F
  with_reducible refine l_nil (q_then ?_)
  refine c_true F rfl rfl ?_
  refine c_seq (c_region ?_)
  refine sD F (o_assign (F.e rfl) ?_);clear F a;intro a F
  refine sD F (o_assign (F.e rfl) ?_);clear F a;intro a F
  with_reducible refine l_nil (q_then (c_ret (q_thenR ?_)))
  refine p_ret F rfl (.cons (.tmp (F.e rfl)) (.cons (.tmp (F.e rfl)) .nil)) ?_
  exact ⟨.slice none 0 0, [], rfl, OwnS.nil _ _, M⟩
 rw [c1] at F
 refine sD F (o_not (F.e rfl) ?_);clear F a;intro a F
 refine sD F (o_move (F.e rfl) ?_);clear F a;intro a F
 refine sG F (o_move (F.e rfl) ?_);clear F a;intro a F
 (refine sG F (o_call (F.e rfl) (F.evs rfl) (Cal.mono (scvalid_c s hs' _ _ (hSs.later M.ext)) ?_));clear F;clear a;rintro _ w ⟨rfl, hE⟩ a F;replace M := M.later hE;clear hE)
 cases c2 : validSs s
 ·have hL : selectV now l s links old = ([], 1) := by unfold selectV;rw [c1, c2];rfl
  rw [hL]
  rw [c2] at F
  refine sG F (o_not (F.e rfl) ?_);clear F a;intro a F
  refine sD F (o_pickF (F.e rfl) (F.e rfl) ?_);clear F a;intro a F
  refine sD F (o_move (F.e rfl) ?_);clear F a;intro a F
  refine sO F ?_;clear F a;intro a F
  refine sO F ?_;clear F a;intro a F
  refine sO F ?_;clear F a;intro a F
  refine sD F (o_pickT (F.e rfl) (F.e rfl) ?_);clear F a;intro a F
  refine sD F (o_move (F.e rfl) ?_);clear F a;intro a F
  refine sO F ?_;clear F a;intro a F
  refine sO F ?_;clear F a;intro a F
  refine sO F ?_;clear F a;intro a F
  refine sD F (o_pickT (F.e rfl) (F.e rfl) ?_);clear F a;intro a F
  with_reducible refine l_nil (q_then ?_)
  refine c_true F rfl rfl ?_
  refine c_seq (c_region ?_)
  refine sD F (o_assign (F.e rfl) ?_);clear F a;intro a F
  refine sD F (o_assign (F.e rfl) ?_);clear F a;intro a F
  with_reducible refine l_nil (q_then (c_ret (q_thenR ?_)))
  refine p_ret F rfl (.cons (.tmp (F.e rfl)) (.cons (.tmp (F.e rfl)) .nil)) ?_
  exact ⟨.slice none 0 0, [], rfl, OwnS.nil _ _, M⟩
 rw [c2] at F
 refine sG F (o_not (F.e rfl) ?_);clear F a;intro a F
 refine sD F (o_pickF (F.e rfl) (F.e rfl) ?_);clear F a;intro a F
 refine sD F (o_move (F.e rfl) ?_);clear F a;intro a F
 refine sG F (o_move (F.e rfl) ?_);clear F a;intro a F
 (refine sG F (o_call (F.e rfl) (F.evs rfl) (Cal.mono (mtvalidO_c links hk _ _ (hSk0.later M.ext)) ?_));clear F;clear a;rintro _ w ⟨rfl, hE⟩ a F;replace M := M.later hE;clear hE)
 cases c3 : validOs links
 ·have hL : selectV now l s links old = ([], 1) := by unfold selectV;rw [c1, c2, c3];rfl
  rw [hL]
  rw [c3] at F
  refine sG F (o_not (F.e rfl) ?_);clear F a;intro a F
  refine sD F (o_pickF (F.e rfl) (F.e rfl) ?_);clear F a;intro a F
  refine sD F (o_move (F.e rfl) ?_);clear F a;intro a F
  refine sO F ?_;clear F a;intro a F
  refine sO F ?_;clear F a;intro a F
  refine sO F ?_;clear F a;intro a F
  refine sD F (o_pickT (F.e rfl) (F.e rfl) ?_);clear F a;intro a F
  with_reducible refine l_nil (q_then ?_)
  refine c_true F rfl rfl ?_
  refine c_seq (c_region ?_)
  refine sD F (o_assign (F.e rfl) ?_);clear F a;intro a F
  refine sD F (o_assign (F.e rfl) ?_);clear F a;intro a F
  with_reducible refine l_nil (q_then (c_ret (q_thenR ?_)))
  refine p_ret F rfl (.cons (.tmp (F.e rfl)) (.cons (.tmp (F.e rfl)) .nil)) ?_
  exact ⟨.slice none 0 0, [], rfl, OwnS.nil _ _, M⟩
 rw [c3] at F
 refine sG F (o_not (F.e rfl) ?_);clear F a;intro a F
 refine sD F (o_pickF (F.e rfl) (F.e rfl) ?_);clear F a;intro a F
 refine sD F (o_move (F.e rfl) ?_);clear F a;intro a F
 refine sG F (o_move (F.e rfl) ?_);clear F a;intro a F
 (refine sG F (o_call (F.e rfl) (F.evs rfl) (Cal.mono (rtvalidI_c old hy _ _ (hSo0.later M.ext)) ?_));clear F;clear a;rintro _ w ⟨rfl, hE⟩ a F;replace M := M.later hE;clear hE)
 cases c4 : validIs old
 ·have hL : selectV now l s links old = ([], 1) := by unfold selectV;rw [c1, c2, c3, c4];rfl
  rw [hL]
  rw [c4] at F
  refine sG F (o_not (F.e rfl) ?_);clear F a;intro a F
  refine sD F (o_pickF (F.e rfl) (F.e rfl) ?_);clear F a;intro a F
  with_reducible refine l_nil (q_then ?_)
  refine c_true F rfl rfl ?_
  refine c_seq (c_region ?_)
  refine sD F (o_assign (F.e rfl) ?_);clear F a;intro a F
  refine sD F (o_assign (F.e rfl) ?_);clear F a;intro a F
  with_reducible refine l_nil (q_then (c_ret (q_thenR ?_)))
  refine p_ret F rfl (.cons (.tmp (F.e rfl)) (.cons (.tmp (F.e rfl)) .nil)) ?_
  exact ⟨.slice none 0 0, [], rfl, OwnS.nil _ _, M⟩
 rw [c4] at F
 refine sG F (o_not (F.e rfl) ?_);clear F a;intro a F
 refine sD F (o_pickF (F.e rfl) (F.e rfl) ?_);clear F a;intro a F
 with_reducible refine l_nil (q_then ?_)
 refine c_false F rfl rfl ?_
 with_reducible refine c_skip (q_then (c_seq (c_seq (c_region ?_))))
 refine sD F (o_move (F.e rfl) ?_);clear F a;intro a F
 (refine sD F (o_call (F.e rfl) (F.evs rfl) (Cal.mono (rtTime_c now _) ?_));clear F;clear a;rintro _ w ⟨rfl, hE⟩ a F;replace M := M.later hE;clear hE)
 cases c5 : isTime now
 ·have hL : selectV now l s links old = ([], 2) := by unfold selectV;rw [c1, c2, c3, c4, c5];rfl
  rw [hL]
  rw [c5] at F
  refine sD F (o_not (F.e rfl) ?_);clear F a;intro a F
  with_reducible refine l_nil (q_then ?_)
  refine c_true F rfl rfl ?_
  refine c_seq (c_region ?_)
  refine sD F (o_assign (F.e rfl) ?_);clear F a;intro a F
  refine sD F (o_assign (F.e rfl) ?_);clear F a;intro a F
  with_reducible refine l_nil (q_then (c_ret (q_thenR ?_)))
  refine p_ret F rfl (.cons (.tmp (F.e rfl)) (.cons (.tmp (F.e rfl)) .nil)) ?_
  exact ⟨.slice none 0 0, [], rfl, OwnS.nil _ _, M⟩
 rw [c5] at F
 have hL : selectV now l s links old = if 512 < (selV now l s links old).length then ([], 10) else (selV now l s links old, 0) := by unfold selectV;rw [c1, c2, c3, c4, c5];rfl
 obtain ⟨hl512, hrou, hasc⟩ := validRs_iff.1 c1
 obtain ⟨hk16, hopt, _⟩ := validOs_iff.1 c3
 obtain ⟨ho512, hins, hascN⟩ := validIs_iff.1 c4
 refine sD F (o_not (F.e rfl) ?_);clear F a;intro a F
 with_reducible refine l_nil (q_then ?_)
 refine c_false F rfl rfl ?_
 with_reducible refine c_skip (q_then (c_seq (c_region ?_)))
 refine sD F (o_move (F.e rfl) ?_);clear F a;intro a F
 refine sD F (o_lenSl (F.e rfl) ?_);clear F a;intro a F
 (refine sD F (o_makeMap M (F.e rfl) ?_);clear F M;intro b12 w M a F)
 refine sD F (o_assign (F.e rfl) ?_);clear F a;intro a F
 with_reducible refine l_nil (q_then (c_seq (c_seq (c_region ?_))))
 refine sD F (o_move (F.e rfl) ?_);clear F a;intro a F
 refine sD F (o_lenSl (F.e rfl) ?_);clear F a;intro a F
 refine sD F (o_move (F.e rfl) ?_);clear F a;intro a F
 with_reducible refine l_nil (q_then (c_block ?_))
 refine c_loop (fun m a w => ∃ (i : Nat) (ent : List (Nat × Obj)), m = links.length - i ∧ i ≤ links.length ∧ OwnM (Value.int .u64) (.map (some b12)) (mapI (costM (links.take i))) ent ∧ Frm a 190 [] [(54, .int .i64 i), (53, .int .i64 links.length), (52, .slice qk links.length capk), (12, .map (some b12)), (0, .int .i64 now), (1, .slice q l.length cap), (2, vs), (4, .slice qo old.length capo)] ∧ Mem [] W w ent) links.length ⟨0, _, rfl, by omega, ⟨b12, _, rfl, rfl, MapAt.empty _⟩, F.only [54, 53, 52, 12, 0, 1, 2, 4] rfl, M⟩ ?_
 clear F M
 rintro m a w ⟨i, ent, hm', hi, hO, F, M⟩
 by_cases hlt : i < links.length
 ·obtain ⟨b, o, cs, t, fz, rfl, hb, hs⟩ := hmk (by omega)
  have hxv := hk _ (List.getElem_mem hlt)
  have f1 : seg cs (o + (i : Int).toNat * 2) 2 = some (opC links[i]) := seg_el (ops_len hk) hs hlt (by omega)
  have hmt := costM_step hlt
  obtain ⟨x, hx0⟩ : ∃ x, x = links[i] := ⟨_, rfl⟩
  rw [← hx0] at hxv f1 hmt
  have f2 : (opC x).length = 2 := op_len hxv
  have f3 := op_nb hxv
  have f4 := op_cost hxv
  refine c_seq (c_region ?_)
  refine sD F (o_lssT (F.e rfl) (F.e rfl) (by omega) ?_);clear F a;intro a F
  with_reducible refine l_nil (q_then (c_seq ?_))
  refine c_true F rfl rfl ?_
  with_reducible refine c_skip (q_then (c_seq (c_block (c_seq (c_region ?_)))))
  refine sD F (o_indexSl (F.e rfl) (F.e rfl) (by omega) (by omega) ?_);clear F a;intro a F
  refine sD F (o_loadWA M (F.e rfl) ‹_› (by first | assumption | rfl) ?_);clear F a;intro a F
  (refine sD F (o_alloc M ?_);clear F M;intro b14 w M a F)
  (refine stepN rfl F (o_storeA M (F.e rfl) (F.e rfl) (f2) (op_one x)  (by repeat constructor)  (put_all (by rw [f2];rfl)) (by repeat constructor) ?_);clear F M;intro w M a F)
  with_reducible refine l_nil (q_then (c_region ?_))
  refine sD F (o_move (F.e rfl) ?_);clear F a;intro a F
  refine sD F (o_fieldAddr (F.e rfl) ?_);clear F a;intro a F
  refine sD F (o_load1 M (F.e rfl) (by repeat constructor) (by first | assumption | rfl) ?_);clear F a;intro a F
  refine sD F (o_fieldAddr (F.e rfl) ?_);clear F a;intro a F
  refine sD F (o_load1 M (F.e rfl) (by repeat constructor) (by first | assumption | rfl) ?_);clear F a;intro a F
  refine sD F (o_max (F.e rfl) (F.e rfl) ?_);clear F a;intro a F
  (refine stepN rfl F (o_mapUpdate (u := .int .i64 (lkC x.cost)) keyE_law M hO (.cons .here) (fun _ _ => trivial) (a := x.nb) trivial (F.e rfl) (F.e rfl) (F.e rfl) ?_);clear F M;intro ent2 w hO2 M a F)
  with_reducible refine l_nil (q_inB (q_then (c_region ?_)))
  refine sD F (o_add (F.e rfl) (F.e rfl) (w_i64 (by omega) (by omega)) ?_);clear F a;intro a F
  refine sD F (o_move (F.e rfl) ?_);clear F a;intro a F
  with_reducible refine l_nil (q_then ?_)
  exact ⟨_, by omega, i + 1, ent2, rfl, by omega, by rw [hmt];unfold mapI;rw [← putA_map];exact hO2, F.only [54, 53, 52, 12, 0, 1, 2, 4] rfl, M.sub (List.sublist_cons_self _ _)⟩
 obtain rfl : i = links.length := by omega
 rw [List.take_length] at hO
 clear hmk hspk hcapk
 refine c_seq (c_region ?_)
 refine sD F (o_lssF (F.e rfl) (F.e rfl) (by omega) ?_);clear F a;intro a F
 with_reducible refine l_nil (q_then (c_seq ?_))
 refine c_false F rfl rfl ?_
 with_reducible refine c_exit (q_thenX (q_thenX (q_inBX (q_then (c_seq (c_region ?_))))))
 refine sD F (o_assign (F.e rfl) ?_);clear F a;intro a F
 with_reducible refine l_nil (q_then (c_seq (c_region ?_)))
 refine sD F (o_assign (F.e rfl) ?_);clear F a;intro a F
 refine sD F (o_assign (F.e rfl) ?_);clear F a;intro a F
 with_reducible refine l_nil (q_then (c_seq (c_seq (c_region ?_))))
 refine sD F (o_move (F.e rfl) ?_);clear F a;intro a F
 refine sD F (o_move (F.e rfl) ?_);clear F a;intro a F
 (refine sD F (o_call (F.e rfl) (F.evs rfl) (Cal.mono (dests_c l hx old hy (by omega) (by omega) _ _ _ (hSl0.later M.ext) (hSo0.later M.ext) ) ?_));clear F;clear a;rintro _ w ⟨entD, hD, N⟩ a F;replace M := M.joins N;clear N)
 obtain ⟨qd, capd, rfl⟩ := hD.slice
 obtain ⟨cm, hcm⟩ : ∃ cm, cm = costM links := ⟨_, rfl⟩
 obtain ⟨ds, hds⟩ : ∃ ds, ds = destsV l old := ⟨_, rfl⟩
 have hall : ∀ x ∈ allD l old, IsDv x ∧ validT x = true := by
  intro x h
  unfold allD at h
  rcases List.mem_append.1 h with h | h
  ·obtain ⟨r, h1, rfl⟩ := List.mem_map.1 h
   have := hrou r h1
   simp only [rou1, Bool.and_eq_true] at this
   exact ⟨(hx r h1).1, this.1.1.1⟩
  ·obtain ⟨r, h1, rfl⟩ := List.mem_map.1 h
   have := hins r h1
   simp only [ins1, Bool.and_eq_true] at this
   exact ⟨(hy r h1).1, this.1⟩
 obtain ⟨hdA, hdm⟩ := foldr_insD fun x h => (hall x h).1
 have hdA' : AscD ds := by rw [hds];exact hdA
 have hdm' : ∀ x, x ∈ ds ↔ x ∈ allD l old := by rw [hds];exact hdm
 clear hdA hdm
 have hdi : ∀ x ∈ ds, IsDv x ∧ validT x = true := fun x h => hall x ((hdm' x).1 h)
 have hszd : ∀ x ∈ ds, (dvC x).length = 35 := fun x h => dv_len (hdi x h).1
 have hdl : ds.length ≤ 1024 := by
  have h1 := nodupD_le hdA' (fun x h => (hdm' x).1 h)
  simp only [allD, List.length_append, List.length_map] at h1
  omega
 have hsel : selV now l s links old = ds.filterMap (selE now l s cm old) := by rw [hds, hcm];rfl
 rw [← hds] at hD F
 rw [← hcm] at hO
 rw [hsel] at hL
 have hoE : ∀ (t : DstV), IsDv t → ∀ e, selE now l s cm old t = some e → IsIn e := fun t ht e h => selE_is ht hy h
 have hwR := weak_R hx hasc
 have hwN := weak_N hascN
 have hov : ∀ t, validOs (optsV now s cm t l) = true := fun t => by rw [hcm];exact opts_valid hx c1 hk16
 refine sD F (o_lenSl (F.e rfl) ?_);clear F a;intro a F
 refine sD F (o_move (F.e rfl) ?_);clear F a;intro a F
 with_reducible refine l_nil (q_then (c_block ?_))
 refine c_loop (fun m a w => ∃ (k r i : Nat) (z : Value) (entR : List (Nat × Obj)), m = ds.length - k ∧ k ≤ ds.length ∧ Yet RouV.to l (ds.drop k) r ∧ Yet InsV.to old (ds.drop k) i ∧ OwnS 50 40 z ((ds.take k).filterMap (selE now l s cm old)).length (insC ((ds.take k).filterMap (selE now l s cm old))) entR ∧ Frm a 190 [] [(69, .int .i64 k), (68, .int .i64 ds.length), (67, .slice qd ds.length capd), (12, .map (some b12)), (15, z), (16, .int .i64 r), (17, .int .i64 i), (0, .int .i64 now), (1, .slice q l.length cap), (2, vs), (4, .slice qo old.length capo)] ∧ Mem [] W w (entR ++ (entD ++ ent))) ds.length ⟨0, 0, 0, .slice none 0 0, [], rfl, by omega, ⟨by omega, fun j hj h => absurd h (by omega), fun j hj _ => (hdm' _).2 (List.mem_append_left _ (List.mem_map_of_mem (List.getElem_mem hj)))⟩, ⟨by omega, fun j hj h => absurd h (by omega), fun j hj _ => (hdm' _).2 (List.mem_append_right _ (List.mem_map_of_mem (List.getElem_mem hj)))⟩, OwnS.nil _ _, F.only [69, 68, 67, 12, 15, 16, 17, 0, 1, 2, 4] rfl, M⟩ ?_
 clear F M
 rintro m a w ⟨k, r, i, z, entR, hm', hkl, hYr, hYi, hR, F, M⟩
 by_cases hlt : k < ds.length
 ·rcases hD with ⟨_, h0, _, _⟩ | ⟨bD, cD, junk, hvD, hentD, hxl, hjl, hnc⟩
  ·omega
  cases hvD
  subst hentD
  have f1 : seg (dvsC ds ++ junk) (0 + (k : Int).toNat * 35) 35 = some (dvC ds[k]) := own_el hszd junk hlt (by omega)
  have hdk : ds.drop k = ds[k] :: ds.drop (k + 1) := List.drop_eq_getElem_cons hlt
  have htk : (ds.take (k + 1)).filterMap (selE now l s cm old) = (ds.take k).filterMap (selE now l s cm old) ++ (selE now l s cm old ds[k]).toList := by
   rw [List.take_add_one, List.getElem?_eq_getElem hlt, List.filterMap_append]
   cases ho : selE now l s cm old ds[k] <;> simp [List.filterMap_cons, ho]
  obtain ⟨ht, hvt⟩ := hdi _ (List.getElem_mem hlt)
  obtain ⟨t, ht0⟩ : ∃ t, t = ds[k] := ⟨_, rfl⟩
  rw [← ht0] at f1 hdk htk ht hvt
  have hdk2 : AscD (t :: ds.drop (k + 1)) := by rw [← hdk];exact hdA'.sublist (List.drop_sublist _ _)
  have hdk3 : ∀ x ∈ t :: ds.drop (k + 1), IsDv x := fun x h => (hdi x (List.mem_of_mem_drop (by rw [hdk];exact h))).1
  rw [hdk] at hYr hYi
  have t1 := dv_len ht
  have t2 := dv_all ht
  have t3 := dv_fits ht
  replace M := M.perm (l' := (bD, .cells (dvsC ds ++ junk).toArray 45 (0, 0)) :: (entR ++ ent)) (by classical exact List.perm_iff_count.2 fun _ => by simp only [List.count_append, List.count_cons, List.count_nil, Nat.add_zero, Nat.zero_add] <;> ac_rfl)
  refine c_seq (c_region ?_)
  refine sD F (o_lssT (F.e rfl) (F.e rfl) (by omega) ?_);clear F a;intro a F
  with_reducible refine l_nil (q_then (c_seq ?_))
  refine c_true F rfl rfl ?_
  with_reducible refine c_skip (q_then (c_seq (c_block (c_seq (c_region ?_)))))
  refine sD F (o_indexSl (F.e rfl) (F.e rfl) (by omega) (by omega) ?_);clear F a;intro a F
  refine sD F (o_loadA M (F.e rfl) (by repeat constructor) (by first | assumption | rfl) ?_);clear F a;intro a F
  (refine sD F (o_alloc M ?_);clear F M;intro b19 w M a F)
  (refine stepN rfl F (o_storeA M (F.e rfl) (F.e rfl) (t1) (dv_one t)  (by repeat constructor)  (put_all (by rw [t1];rfl)) (by repeat constructor) ?_);clear F M;intro w M a F)
  with_reducible refine l_nil (q_then (c_seq (c_region ?_)))
  refine sD F (o_assign (F.e rfl) ?_);clear F a;intro a F
  with_reducible refine l_nil (q_then (c_seq (c_region ?_)))
  (refine sD F (o_makeMap0 M ?_);clear F M;intro bS w M a F)
  refine sD F (o_assign (F.e rfl) ?_);clear F a;intro a F
  refine l_nil ?_
  refine q_then ?_
  repeat (refine c_seq ?_)
  refine c_cut (fun a w => ∃ (r1 : Nat) (zO : Value) (entO entS : List (Nat × Obj)), Yet RouV.to l (ds.drop (k + 1)) r1 ∧ OwnS 55 2 zO (optsV now s cm t l).length (opsC (optsV now s cm t l)) entO ∧ OwnM (Value.int .u64) (.map (some bS)) (mapQ (saidV now s cm t l)) entS ∧ Frm a 190 [] [(16, .int .i64 r1), (20, zO), (21, .map (some bS)), (19, .pointer (some ⟨b19, 0, none⟩)), (69, .int .i64 k), (68, .int .i64 ds.length), (67, .slice (some ⟨bD, 0, none⟩) ds.length capd), (12, .map (some b12)), (15, z), (17, .int .i64 i), (0, .int .i64 now), (1, .slice q l.length cap), (2, vs), (4, .slice qo old.length capo)] ∧ Mem [] W w (entS ++ (entO ++ ((b19, .cells (dvC t).toArray 45 (0, 0)) :: (bD, .cells (dvsC ds ++ junk).toArray 45 (0, 0)) :: (entR ++ ent))))) ?_ ?_
  ·refine c_block ?_
   refine c_loop (fun m a w => ∃ (r' : Nat) (zO : Value) (entO entS : List (Nat × Obj)), m = l.length - r' ∧ r ≤ r' ∧ r' ≤ l.length ∧ (∀ j (hj : j < l.length), r ≤ j → j < r' → l[j].to = t) ∧ OwnS 55 2 zO (optsV now s cm t (l.take r')).length (opsC (optsV now s cm t (l.take r'))) entO ∧ OwnM (Value.int .u64) (.map (some bS)) (mapQ (saidV now s cm t (l.take r'))) entS ∧ Frm a 190 [] [(16, .int .i64 r'), (20, zO), (21, .map (some bS)), (19, .pointer (some ⟨b19, 0, none⟩)), (69, .int .i64 k), (68, .int .i64 ds.length), (67, .slice (some ⟨bD, 0, none⟩) ds.length capd), (12, .map (some b12)), (15, z), (17, .int .i64 i), (0, .int .i64 now), (1, .slice q l.length cap), (2, vs), (4, .slice qo old.length capo)] ∧ Mem [] W w (entS ++ (entO ++ ((b19, .cells (dvC t).toArray 45 (0, 0)) :: (bD, .cells (dvsC ds ++ junk).toArray 45 (0, 0)) :: (entR ++ ent))))) (l.length - r) ⟨r, .slice none 0 0, [], [(bS, _)], rfl, by omega, hYr.le, fun j hj h1 h2 => absurd h2 (by omega), by rw [optsV_nil (hYr.before)];exact OwnS.nil _ _, by rw [saidV_nil (hYr.before)];exact ⟨bS, _, rfl, rfl, MapAt.empty _⟩, F.only [16, 20, 21, 19, 69, 68, 67, 12, 15, 17, 0, 1, 2, 4] rfl, M⟩ ?_
   clear F M
   rintro m a w ⟨r', zO, entO, entS, hm2, hr1, hr2, hre, hOO, hOS, F, M⟩
   have hend : (∀ hj : r' < l.length, l[r'].to ≠ t) → Yet RouV.to l (ds.drop (k + 1)) r' ∧ optsV now s cm t l = optsV now s cm t (l.take r') ∧ saidV now s cm t l = saidV now s cm t (l.take r') := fun h => by
    obtain ⟨h1, h2⟩ := Yet.next hwR hdk2 hdk3 hYr hr1 hr2 hre h
    exact ⟨h1, optsV_all h2, saidV_all h2⟩
   by_cases hlt2 : r' < l.length
   ·obtain ⟨b, o, cs, t', fz, rfl, hb, hs⟩ := hm (by omega)
    have g1 : seg cs (o + (r' : Int).toNat * 39) 39 = some (roC l[r']) := seg_el (ros_len hx) hs hlt2 (by omega)
    have hxv := hx _ (List.getElem_mem hlt2)
    have hos := fun h => optsV_step (now := now) (s := s) (cm := cm) (t := t) hlt2 h
    have hss := fun h => saidV_step (now := now) (s := s) (cm := cm) (t := t) hlt2 h
    obtain ⟨x, hx0⟩ : ∃ x, x = l[r'] := ⟨_, rfl⟩
    rw [← hx0] at g1 hxv hos hss
    have g2 : seg cs (o + (r' : Int).toNat * 39) 35 = some (dvC x.to) := sg_seg g1 (ro_to hxv) (by omega)
    have g3 : nth cs (o + (r' : Int).toNat * 39 + 35) = some (.int .u64 x.nb) := sg_nth g1 (ro_nb hxv) (by omega)
    have g4 : seg cs (o + (r' : Int).toNat * 39 + 36) 2 = some (diC x.said) := sg_seg g1 (ro_said hxv) (by omega)
    have g5 : nth cs (o + (r' : Int).toNat * 39 + 37) = some (.int .i64 x.said.met) := sg_nth g1 (ro_said_met hxv) (by omega)
    have g6 : nth cs (o + (r' : Int).toNat * 39 + 38) = some (.int .i64 x.til) := sg_nth g1 (ro_til hxv) (by omega)
    have g7 := dv_fits hxv.1
    have g8 := dv_eq hxv.1 ht
    replace M := M.perm (l' := (b19, .cells (dvC t).toArray 45 (0, 0)) :: (entS ++ (entO ++ ((bD, .cells (dvsC ds ++ junk).toArray 45 (0, 0)) :: (entR ++ ent))))) (by classical exact List.perm_iff_count.2 fun _ => by simp only [List.count_append, List.count_cons, List.count_nil, Nat.add_zero, Nat.zero_add] <;> ac_rfl)
    with_reducible refine c_seq (c_seq ?_)
    by_cases he : x.to = t
    ·rw [decide_eq_true he] at g8
     refine c_draw 13 F (by kernel_rfl) ?_
     intro w1 hE hok
     have M1 := M.later hE
     refine mK hok rfl rfl (fun a' w' F' E' => o_move (F'.e rfl) ⟨Ext.refl _ _, rfl⟩) ?_
     refine mK hok rfl rfl (fun a' w' F' E' => o_move (F'.e rfl) ⟨Ext.refl _ _, rfl⟩) ?_
     refine mK hok rfl rfl (fun a' w' F' E' => o_lenSl (F'.e rfl) ⟨Ext.refl _ _, rfl⟩) ?_
     refine mK hok rfl rfl (fun a' w' F' E' => o_lssT (F'.e rfl) (F'.e rfl) (by omega) ⟨Ext.refl _ _, rfl⟩) ?_
     refine mK hok rfl rfl (fun a' w' F' E' => o_move (F'.e rfl) ⟨Ext.refl _ _, rfl⟩) ?_
     refine mKG hok rfl rfl rfl rfl (fun a' w' F' E' => o_move (F'.e rfl) ⟨Ext.refl _ _, rfl⟩) ?_
     refine mKG hok rfl rfl rfl rfl (fun a' w' F' E' => o_move (F'.e rfl) ⟨Ext.refl _ _, rfl⟩) ?_
     refine mKG hok rfl rfl rfl rfl (fun a' w' F' E' => o_indexSl (F'.e rfl) (F'.e rfl) (by omega) (by omega) ⟨Ext.refl _ _, rfl⟩) ?_
     refine mKG hok rfl rfl rfl rfl (fun a' w' F' E' => o_fieldAddr (F'.e rfl) ⟨Ext.refl _ _, rfl⟩) ?_
     refine mKG hok rfl rfl rfl rfl (fun a' w' F' E' => o_loadWA (M1.later E') (F'.e rfl) ‹_› (by first | assumption | rfl) ⟨Ext.refl _ _, rfl⟩) ?_
     refine mKG hok rfl rfl rfl rfl (fun a' w' F' E' => o_loadA (M1.later E') (F'.e rfl) (by repeat constructor) (by first | assumption | rfl) ⟨Ext.refl _ _, rfl⟩) ?_
     refine mKG hok rfl rfl rfl rfl (fun a' w' F' E' => o_eqlAT (F'.e rfl) (F'.e rfl) (by first | assumption | rfl) (by first | assumption | rfl) ‹_› ⟨Ext.refl _ _, rfl⟩) ?_
     refine mK hok rfl rfl (fun a' w' F' E' => o_pickT (F'.e rfl) (F'.e rfl) ⟨Ext.refl _ _, rfl⟩) ?_
     (refine mDone rfl rfl ?_;clear F M;intro a w F hE2 hX hTT hDD hPP;have M := M1.later hE2;clear M1;clear hX;clear hE2;clear hok;clear hE;clear hTT;clear hDD;clear hPP;(try dsimp only at F))
     refine l_nil ?_
     dsimp only
     refine q_then ?_
     repeat (refine c_seq ?_)
     refine c_true F rfl rfl ?_
     refine c_skip ?_
     refine q_then ?_
     repeat (refine c_seq ?_)
     replace F := F.only [16, 20, 21, 19, 69, 68, 67, 12, 15, 17, 0, 1, 2, 4] rfl
     refine c_cut (fun a w => ∃ (zO2 : Value) (entO2 entS2 : List (Nat × Obj)), OwnS 55 2 zO2 (optsV now s cm t (l.take (r' + 1))).length (opsC (optsV now s cm t (l.take (r' + 1)))) entO2 ∧ OwnM (Value.int .u64) (.map (some bS)) (mapQ (saidV now s cm t (l.take (r' + 1)))) entS2 ∧ Frm a 190 [] [(16, .int .i64 r'), (20, zO2), (21, .map (some bS)), (19, .pointer (some ⟨b19, 0, none⟩)), (69, .int .i64 k), (68, .int .i64 ds.length), (67, .slice (some ⟨bD, 0, none⟩) ds.length capd), (12, .map (some b12)), (15, z), (17, .int .i64 i), (0, .int .i64 now), (1, .slice (some ⟨b, o, none⟩) l.length cap), (2, vs), (4, .slice qo old.length capo)] ∧ Mem [] W w (entS2 ++ (entO2 ++ ((b19, .cells (dvC t).toArray 45 (0, 0)) :: (bD, .cells (dvsC ds ++ junk).toArray 45 (0, 0)) :: (entR ++ ent))))) ?_ ?_
     ·rw [hos he, hss he]
      clear hos hss hend hL
      with_reducible refine c_block (c_seq (c_region ?_))
      refine sD F (o_move (F.e rfl) ?_);clear F a;intro a F
      refine sD F (o_move (F.e rfl) ?_);clear F a;intro a F
      refine sD F (o_move (F.e rfl) ?_);clear F a;intro a F
      refine sD F (o_indexSl (F.e rfl) (F.e rfl) (by omega) (by omega) ?_);clear F a;intro a F
      refine sD F (o_fieldAddr (F.e rfl) ?_);clear F a;intro a F
      refine sD F (o_loadW1 M (F.e rfl) ‹_› (by first | assumption | rfl) ?_);clear F a;intro a F
      (refine sD F (o_lookup2 keyE_law zero_iR (hO.at_ (fun p hp => M.at_ p (by simp [hp]))) (fun _ _ => trivial) (a := x.nb) trivial (F.e rfl) (F.e rfl) ?_);clear F a;intro a F)
      rw [getA_mapI] at F
      cases hc : getA x.nb cm with
      | none =>
       rw [hc] at F
       have hv0 : optV now s cm t x = none := by unfold optV;rw [hc]
       rw [hv0]
       refine sD F (o_move (F.e rfl) ?_);clear F a;intro a F
       refine sD F (o_extract (F.e rfl) rfl ?_);clear F a;intro a F
       refine sD F (o_extract (F.e rfl) rfl ?_);clear F a;intro a F
       refine sD F (o_assign (F.e rfl) ?_);clear F a;intro a F
       refine sD F (o_assign (F.e rfl) ?_);clear F a;intro a F
       with_reducible refine l_nil (q_then (c_seq (c_seq ?_)))
       replace F := F.only [16, 20, 21, 19, 69, 68, 67, 12, 15, 17, 0, 1, 2, 4, 22, 23] rfl
       refine c_draw 23 F (by kernel_rfl) ?_
       intro w1 hE hok
       have M1 := M.later hE
       refine mK hok rfl rfl (fun a' w' F' E' => o_move (F'.e rfl) ⟨Ext.refl _ _, rfl⟩) ?_
       refine mK hok rfl rfl (fun a' w' F' E' => o_not (F'.e rfl) ⟨Ext.refl _ _, rfl⟩) ?_
       refine mK hok rfl rfl (fun a' w' F' E' => o_move (F'.e rfl) ⟨Ext.refl _ _, rfl⟩) ?_
       refine mOff hok rfl rfl rfl rfl rfl ?_
       refine mOff hok rfl rfl rfl rfl rfl ?_
       refine mOff hok rfl rfl rfl rfl rfl ?_
       refine mOff hok rfl rfl rfl rfl rfl ?_
       refine mOff hok rfl rfl rfl rfl rfl ?_
       refine mOff hok rfl rfl rfl rfl rfl ?_
       refine mOff hok rfl rfl rfl rfl rfl ?_
       refine mK hok rfl rfl (fun a' w' F' E' => o_pickT (F'.e rfl) (F'.e rfl) ⟨Ext.refl _ _, rfl⟩) ?_
       refine mK hok rfl rfl (fun a' w' F' E' => o_move (F'.e rfl) ⟨Ext.refl _ _, rfl⟩) ?_
       refine mOff hok rfl rfl rfl rfl rfl ?_
       refine mOff hok rfl rfl rfl rfl rfl ?_
       refine mOff hok rfl rfl rfl rfl rfl ?_
       refine mOff hok rfl rfl rfl rfl rfl ?_
       refine mOff hok rfl rfl rfl rfl rfl ?_
       refine mOff hok rfl rfl rfl rfl rfl ?_
       refine mOff hok rfl rfl rfl rfl rfl ?_
       refine mOff hok rfl rfl rfl rfl rfl ?_
       refine mOff hok rfl rfl rfl rfl rfl ?_
       refine mOff hok rfl rfl rfl rfl rfl ?_
       refine mK hok rfl rfl (fun a' w' F' E' => o_pickT (F'.e rfl) (F'.e rfl) ⟨Ext.refl _ _, rfl⟩) ?_
       (refine mDone rfl rfl ?_;clear F M;intro a w F hE2 hX hTT hDD hPP;have M := M1.later hE2;clear M1;clear hX;clear hE2;clear hok;clear hE;clear hTT;clear hDD;clear hPP;(try dsimp only at F))
       with_reducible refine l_nil (q_then ?_)
       refine c_true F rfl rfl ?_
       with_reducible refine c_exit (q_thenX (q_inBX ?_))
       exact ⟨zO, entO, entS, by simpa using hOO, by simpa using hOS, F.only [16, 20, 21, 19, 69, 68, 67, 12, 15, 17, 0, 1, 2, 4] rfl, M.perm (by classical exact List.perm_iff_count.2 fun _ => by simp only [List.count_append, List.count_cons, List.count_nil, Nat.add_zero, Nat.zero_add] <;> ac_rfl)⟩
      | some c =>
       rw [hc] at F
       refine sD F (o_move (F.e rfl) ?_);clear F a;intro a F
       refine sD F (o_extract (F.e rfl) rfl ?_);clear F a;intro a F
       refine sD F (o_extract (F.e rfl) rfl ?_);clear F a;intro a F
       refine sD F (o_assign (F.e rfl) ?_);clear F a;intro a F
       refine sD F (o_assign (F.e rfl) ?_);clear F a;intro a F
       with_reducible refine l_nil (q_then (c_seq (c_seq ?_)))
       replace F := F.only [16, 20, 21, 19, 69, 68, 67, 12, 15, 17, 0, 1, 2, 4, 22, 23] rfl
       by_cases c6 : x.til ≤ now
       ·have hv0 : optV now s cm t x = none := by unfold optV;rw [hc];dsimp only;rw [decide_eq_true c6];rfl
        rw [hv0]
        refine c_draw 23 F (by kernel_rfl) ?_
        intro w1 hE hok
        have M1 := M.later hE
        refine mK hok rfl rfl (fun a' w' F' E' => o_move (F'.e rfl) ⟨Ext.refl _ _, rfl⟩) ?_
        refine mK hok rfl rfl (fun a' w' F' E' => o_not (F'.e rfl) ⟨Ext.refl _ _, rfl⟩) ?_
        refine mK hok rfl rfl (fun a' w' F' E' => o_move (F'.e rfl) ⟨Ext.refl _ _, rfl⟩) ?_
        refine mKG hok rfl rfl rfl rfl (fun a' w' F' E' => o_move (F'.e rfl) ⟨Ext.refl _ _, rfl⟩) ?_
        refine mKG hok rfl rfl rfl rfl (fun a' w' F' E' => o_move (F'.e rfl) ⟨Ext.refl _ _, rfl⟩) ?_
        refine mKG hok rfl rfl rfl rfl (fun a' w' F' E' => o_indexSl (F'.e rfl) (F'.e rfl) (by omega) (by omega) ⟨Ext.refl _ _, rfl⟩) ?_
        refine mKG hok rfl rfl rfl rfl (fun a' w' F' E' => o_fieldAddr (F'.e rfl) ⟨Ext.refl _ _, rfl⟩) ?_
        refine mKG hok rfl rfl rfl rfl (fun a' w' F' E' => o_loadW1 (M1.later E') (F'.e rfl) ‹_› (by first | assumption | rfl) ⟨Ext.refl _ _, rfl⟩) ?_
        refine mKG hok rfl rfl rfl rfl (fun a' w' F' E' => o_move (F'.e rfl) ⟨Ext.refl _ _, rfl⟩) ?_
        refine mKG hok rfl rfl rfl rfl (fun a' w' F' E' => o_leqT (F'.e rfl) (F'.e rfl) (by omega) ⟨Ext.refl _ _, rfl⟩) ?_
        refine mK hok rfl rfl (fun a' w' F' E' => o_pickF (F'.e rfl) (F'.e rfl) ⟨Ext.refl _ _, rfl⟩) ?_
        refine mK hok rfl rfl (fun a' w' F' E' => o_move (F'.e rfl) ⟨Ext.refl _ _, rfl⟩) ?_
        refine mOff hok rfl rfl rfl rfl rfl ?_
        refine mOff hok rfl rfl rfl rfl rfl ?_
        refine mOff hok rfl rfl rfl rfl rfl ?_
        refine mOff hok rfl rfl rfl rfl rfl ?_
        refine mOff hok rfl rfl rfl rfl rfl ?_
        refine mOff hok rfl rfl rfl rfl rfl ?_
        refine mOff hok rfl rfl rfl rfl rfl ?_
        refine mOff hok rfl rfl rfl rfl rfl ?_
        refine mOff hok rfl rfl rfl rfl rfl ?_
        refine mOff hok rfl rfl rfl rfl rfl ?_
        refine mK hok rfl rfl (fun a' w' F' E' => o_pickT (F'.e rfl) (F'.e rfl) ⟨Ext.refl _ _, rfl⟩) ?_
        (refine mDone rfl rfl ?_;clear F M;intro a w F hE2 hX hTT hDD hPP;have M := M1.later hE2;clear M1;clear hX;clear hE2;clear hok;clear hE;clear hTT;clear hDD;clear hPP;(try dsimp only at F))
        with_reducible refine l_nil (q_then ?_)
        refine c_true F rfl rfl ?_
        with_reducible refine c_exit (q_thenX (q_inBX ?_))
        exact ⟨zO, entO, entS, by simpa using hOO, by simpa using hOS, F.only [16, 20, 21, 19, 69, 68, 67, 12, 15, 17, 0, 1, 2, 4] rfl, M.perm (by classical exact List.perm_iff_count.2 fun _ => by simp only [List.count_append, List.count_cons, List.count_nil, Nat.add_zero, Nat.zero_add] <;> ac_rfl)⟩
       have hfe := scfeas_c s hs' c2 vs now c5 t ht hvt x.said
       cases c7 : feasV s now t x.said
       ·have hv0 : optV now s cm t x = none := by unfold optV;rw [hc];dsimp only;rw [decide_eq_false c6, c7];rfl
        rw [hv0]
        rw [c7] at hfe
        refine c_draw 23 F (by kernel_rfl) ?_
        intro w1 hE hok
        have M1 := M.later hE
        refine mK hok rfl rfl (fun a' w' F' E' => o_move (F'.e rfl) ⟨Ext.refl _ _, rfl⟩) ?_
        refine mK hok rfl rfl (fun a' w' F' E' => o_not (F'.e rfl) ⟨Ext.refl _ _, rfl⟩) ?_
        refine mK hok rfl rfl (fun a' w' F' E' => o_move (F'.e rfl) ⟨Ext.refl _ _, rfl⟩) ?_
        refine mKG hok rfl rfl rfl rfl (fun a' w' F' E' => o_move (F'.e rfl) ⟨Ext.refl _ _, rfl⟩) ?_
        refine mKG hok rfl rfl rfl rfl (fun a' w' F' E' => o_move (F'.e rfl) ⟨Ext.refl _ _, rfl⟩) ?_
        refine mKG hok rfl rfl rfl rfl (fun a' w' F' E' => o_indexSl (F'.e rfl) (F'.e rfl) (by omega) (by omega) ⟨Ext.refl _ _, rfl⟩) ?_
        refine mKG hok rfl rfl rfl rfl (fun a' w' F' E' => o_fieldAddr (F'.e rfl) ⟨Ext.refl _ _, rfl⟩) ?_
        refine mKG hok rfl rfl rfl rfl (fun a' w' F' E' => o_loadW1 (M1.later E') (F'.e rfl) ‹_› (by first | assumption | rfl) ⟨Ext.refl _ _, rfl⟩) ?_
        refine mKG hok rfl rfl rfl rfl (fun a' w' F' E' => o_move (F'.e rfl) ⟨Ext.refl _ _, rfl⟩) ?_
        refine mKG hok rfl rfl rfl rfl (fun a' w' F' E' => o_leqF (F'.e rfl) (F'.e rfl) (by omega) ⟨Ext.refl _ _, rfl⟩) ?_
        refine mK hok rfl rfl (fun a' w' F' E' => o_pickF (F'.e rfl) (F'.e rfl) ⟨Ext.refl _ _, rfl⟩) ?_
        refine mK hok rfl rfl (fun a' w' F' E' => o_move (F'.e rfl) ⟨Ext.refl _ _, rfl⟩) ?_
        refine mKG hok rfl rfl rfl rfl (fun a' w' F' E' => o_move (F'.e rfl) ⟨Ext.refl _ _, rfl⟩) ?_
        refine mKG hok rfl rfl rfl rfl (fun a' w' F' E' => o_move (F'.e rfl) ⟨Ext.refl _ _, rfl⟩) ?_
        refine mKG hok rfl rfl rfl rfl (fun a' w' F' E' => o_loadA (M1.later E') (F'.e rfl) (by repeat constructor) (by first | assumption | rfl) ⟨Ext.refl _ _, rfl⟩) ?_
        refine mKG hok rfl rfl rfl rfl (fun a' w' F' E' => o_move (F'.e rfl) ⟨Ext.refl _ _, rfl⟩) ?_
        refine mKG hok rfl rfl rfl rfl (fun a' w' F' E' => o_move (F'.e rfl) ⟨Ext.refl _ _, rfl⟩) ?_
        refine mKG hok rfl rfl rfl rfl (fun a' w' F' E' => o_indexSl (F'.e rfl) (F'.e rfl) (by omega) (by omega) ⟨Ext.refl _ _, rfl⟩) ?_
        refine mKG hok rfl rfl rfl rfl (fun a' w' F' E' => o_fieldAddr (F'.e rfl) ⟨Ext.refl _ _, rfl⟩) ?_
        refine mKG hok rfl rfl rfl rfl (fun a' w' F' E' => o_loadWA (M1.later E') (F'.e rfl) ‹_› (by first | assumption | rfl) ⟨Ext.refl _ _, rfl⟩) ?_
        (refine mKG hok rfl rfl rfl rfl (fun a' w' F' E' => o_call (F'.e rfl) (F'.evs rfl) (Cal.mono (hfe _ (hSs.later (M1.later E').ext)) fun _ _ hh => ⟨hh.2, hh.1⟩)) ?_)
        refine mKG hok rfl rfl rfl rfl (fun a' w' F' E' => o_not (F'.e rfl) ⟨Ext.refl _ _, rfl⟩) ?_
        refine mK hok rfl rfl (fun a' w' F' E' => o_pickF (F'.e rfl) (F'.e rfl) ⟨Ext.refl _ _, rfl⟩) ?_
        (refine mDone rfl rfl ?_;clear F M;intro a w F hE2 hX hTT hDD hPP;have M := M1.later hE2;clear M1;clear hX;clear hE2;clear hok;clear hE;clear hTT;clear hDD;clear hPP;(try dsimp only at F))
        with_reducible refine l_nil (q_then ?_)
        refine c_true F rfl rfl ?_
        with_reducible refine c_exit (q_thenX (q_inBX ?_))
        exact ⟨zO, entO, entS, by simpa using hOO, by simpa using hOS, F.only [16, 20, 21, 19, 69, 68, 67, 12, 15, 17, 0, 1, 2, 4] rfl, M.perm (by classical exact List.perm_iff_count.2 fun _ => by simp only [List.count_append, List.count_cons, List.count_nil, Nat.add_zero, Nat.zero_add] <;> ac_rfl)⟩
       have hv0 : optV now s cm t x = some ⟨x.nb, addM x.said.met c⟩ := by unfold optV;rw [hc];dsimp only;rw [decide_eq_false c6, c7];rfl
       rw [hv0]
       rw [c7] at hfe
       refine c_draw 23 F (by kernel_rfl) ?_
       intro w1 hE hok
       have M1 := M.later hE
       refine mK hok rfl rfl (fun a' w' F' E' => o_move (F'.e rfl) ⟨Ext.refl _ _, rfl⟩) ?_
       refine mK hok rfl rfl (fun a' w' F' E' => o_not (F'.e rfl) ⟨Ext.refl _ _, rfl⟩) ?_
       refine mK hok rfl rfl (fun a' w' F' E' => o_move (F'.e rfl) ⟨Ext.refl _ _, rfl⟩) ?_
       refine mKG hok rfl rfl rfl rfl (fun a' w' F' E' => o_move (F'.e rfl) ⟨Ext.refl _ _, rfl⟩) ?_
       refine mKG hok rfl rfl rfl rfl (fun a' w' F' E' => o_move (F'.e rfl) ⟨Ext.refl _ _, rfl⟩) ?_
       refine mKG hok rfl rfl rfl rfl (fun a' w' F' E' => o_indexSl (F'.e rfl) (F'.e rfl) (by omega) (by omega) ⟨Ext.refl _ _, rfl⟩) ?_
       refine mKG hok rfl rfl rfl rfl (fun a' w' F' E' => o_fieldAddr (F'.e rfl) ⟨Ext.refl _ _, rfl⟩) ?_
       refine mKG hok rfl rfl rfl rfl (fun a' w' F' E' => o_loadW1 (M1.later E') (F'.e rfl) ‹_› (by first | assumption | rfl) ⟨Ext.refl _ _, rfl⟩) ?_
       refine mKG hok rfl rfl rfl rfl (fun a' w' F' E' => o_move (F'.e rfl) ⟨Ext.refl _ _, rfl⟩) ?_
       refine mKG hok rfl rfl rfl rfl (fun a' w' F' E' => o_leqF (F'.e rfl) (F'.e rfl) (by omega) ⟨Ext.refl _ _, rfl⟩) ?_
       refine mK hok rfl rfl (fun a' w' F' E' => o_pickF (F'.e rfl) (F'.e rfl) ⟨Ext.refl _ _, rfl⟩) ?_
       refine mK hok rfl rfl (fun a' w' F' E' => o_move (F'.e rfl) ⟨Ext.refl _ _, rfl⟩) ?_
       refine mKG hok rfl rfl rfl rfl (fun a' w' F' E' => o_move (F'.e rfl) ⟨Ext.refl _ _, rfl⟩) ?_
       refine mKG hok rfl rfl rfl rfl (fun a' w' F' E' => o_move (F'.e rfl) ⟨Ext.refl _ _, rfl⟩) ?_
       refine mKG hok rfl rfl rfl rfl (fun a' w' F' E' => o_loadA (M1.later E') (F'.e rfl) (by repeat constructor) (by first | assumption | rfl) ⟨Ext.refl _ _, rfl⟩) ?_
       refine mKG hok rfl rfl rfl rfl (fun a' w' F' E' => o_move (F'.e rfl) ⟨Ext.refl _ _, rfl⟩) ?_
       refine mKG hok rfl rfl rfl rfl (fun a' w' F' E' => o_move (F'.e rfl) ⟨Ext.refl _ _, rfl⟩) ?_
       refine mKG hok rfl rfl rfl rfl (fun a' w' F' E' => o_indexSl (F'.e rfl) (F'.e rfl) (by omega) (by omega) ⟨Ext.refl _ _, rfl⟩) ?_
       refine mKG hok rfl rfl rfl rfl (fun a' w' F' E' => o_fieldAddr (F'.e rfl) ⟨Ext.refl _ _, rfl⟩) ?_
       refine mKG hok rfl rfl rfl rfl (fun a' w' F' E' => o_loadWA (M1.later E') (F'.e rfl) ‹_› (by first | assumption | rfl) ⟨Ext.refl _ _, rfl⟩) ?_
       (refine mKG hok rfl rfl rfl rfl (fun a' w' F' E' => o_call (F'.e rfl) (F'.evs rfl) (Cal.mono (hfe _ (hSs.later (M1.later E').ext)) fun _ _ hh => ⟨hh.2, hh.1⟩)) ?_)
       refine mKG hok rfl rfl rfl rfl (fun a' w' F' E' => o_not (F'.e rfl) ⟨Ext.refl _ _, rfl⟩) ?_
       refine mK hok rfl rfl (fun a' w' F' E' => o_pickF (F'.e rfl) (F'.e rfl) ⟨Ext.refl _ _, rfl⟩) ?_
       (refine mDone rfl rfl ?_;clear F M;intro a w F hE2 hX hTT hDD hPP;have M := M1.later hE2;clear M1;clear hX;clear hE2;clear hok;clear hE;clear hTT;clear hDD;clear hPP;(try dsimp only at F))
       with_reducible refine l_nil (q_then ?_)
       refine c_false F rfl rfl ?_
       with_reducible refine c_skip (q_then (c_seq ?_))
       clear hov hoE hYi hdk2 hdk3 htk hfe hre
       have hol : (optsV now s cm t (l.take r')).length ≤ 512 := opts_len (by rw [List.length_take];omega)
       replace F := F.only [16, 20, 21, 19, 69, 68, 67, 12, 15, 17, 0, 1, 2, 4, 22] rfl
       replace M := M.perm (l' := (b19, .cells (dvC t).toArray 45 (0, 0)) :: (bD, .cells (dvsC ds ++ junk).toArray 45 (0, 0)) :: (entO ++ (entR ++ (ent ++ entS)))) (by classical exact List.perm_iff_count.2 fun _ => by simp only [List.count_append, List.count_cons, List.count_nil, Nat.add_zero, Nat.zero_add] <;> ac_rfl)
       refine c_draw 11 F (by kernel_rfl) ?_
       intro w1 hE hok
       have M1 := M.later hE
       refine mK hok rfl rfl (fun a' w' F' E' => o_move (F'.e rfl) ⟨Ext.refl _ _, rfl⟩) ?_
       refine mK hok rfl rfl (fun a' w' F' E' => o_move (F'.e rfl) ⟨Ext.refl _ _, rfl⟩) ?_
       refine mK hok rfl rfl (fun a' w' F' E' => o_move (F'.e rfl) ⟨Ext.refl _ _, rfl⟩) ?_
       refine mK hok rfl rfl (fun a' w' F' E' => o_indexSl (F'.e rfl) (F'.e rfl) (by omega) (by omega) ⟨Ext.refl _ _, rfl⟩) ?_
       refine mK hok rfl rfl (fun a' w' F' E' => o_fieldAddr (F'.e rfl) ⟨Ext.refl _ _, rfl⟩) ?_
       refine mK hok rfl rfl (fun a' w' F' E' => o_loadW1 (M1.later E') (F'.e rfl) ‹_› (by first | assumption | rfl) ⟨Ext.refl _ _, rfl⟩) ?_
       refine mK hok rfl rfl (fun a' w' F' E' => o_move (F'.e rfl) ⟨Ext.refl _ _, rfl⟩) ?_
       refine mK hok rfl rfl (fun a' w' F' E' => o_move (F'.e rfl) ⟨Ext.refl _ _, rfl⟩) ?_
       refine mK hok rfl rfl (fun a' w' F' E' => o_indexSl (F'.e rfl) (F'.e rfl) (by omega) (by omega) ⟨Ext.refl _ _, rfl⟩) ?_
       refine mK hok rfl rfl (fun a' w' F' E' => o_fieldAddr (F'.e rfl) ⟨Ext.refl _ _, rfl⟩) ?_
       refine mK hok rfl rfl (fun a' w' F' E' => o_loadWA (M1.later E') (F'.e rfl) ‹_› (by first | assumption | rfl) ⟨Ext.refl _ _, rfl⟩) ?_
       (refine mDone rfl rfl ?_;clear F M;intro a w F hE2 hX hTT hDD hPP;have M := M1.later hE2;clear M1;clear hX;clear hE2;clear hok;clear hE;clear hTT;clear hDD;clear hPP;(try dsimp only at F))
       (refine stepN rfl F (o_mapUpdate (u := diV x.said) keyE_law M hOS (.cons (.cons (.app (.app (.app .here))))) (fun _ _ => trivial) (a := x.nb) trivial (F.e rfl) (F.e rfl) (F.e rfl) ?_);clear F M;intro entS2 w hOS2 M a F)
       replace M := M.perm (l' := (b19, .cells (dvC t).toArray 45 (0, 0)) :: (bD, .cells (dvsC ds ++ junk).toArray 45 (0, 0)) :: (entS2 ++ (entR ++ (ent ++ entO)))) (by classical exact List.perm_iff_count.2 fun _ => by simp only [List.count_append, List.count_cons, List.count_nil, Nat.add_zero, Nat.zero_add] <;> ac_rfl)
       with_reducible refine l_nil (q_then ?_)
       replace F := F.only [16, 20, 21, 19, 69, 68, 67, 12, 15, 17, 0, 1, 2, 4, 22] rfl
       refine c_draw 16 F (by kernel_rfl) ?_
       intro w1 hE hok
       have M1 := M.later hE
       refine mK hok rfl rfl (fun a' w' F' E' => o_move (F'.e rfl) ⟨Ext.refl _ _, rfl⟩) ?_
       refine mK hok rfl rfl (fun a' w' F' E' => o_move (F'.e rfl) ⟨Ext.refl _ _, rfl⟩) ?_
       refine mK hok rfl rfl (fun a' w' F' E' => o_move (F'.e rfl) ⟨Ext.refl _ _, rfl⟩) ?_
       refine mK hok rfl rfl (fun a' w' F' E' => o_indexSl (F'.e rfl) (F'.e rfl) (by omega) (by omega) ⟨Ext.refl _ _, rfl⟩) ?_
       refine mK hok rfl rfl (fun a' w' F' E' => o_fieldAddr (F'.e rfl) ⟨Ext.refl _ _, rfl⟩) ?_
       refine mK hok rfl rfl (fun a' w' F' E' => o_loadW1 (M1.later E') (F'.e rfl) ‹_› (by first | assumption | rfl) ⟨Ext.refl _ _, rfl⟩) ?_
       refine mK hok rfl rfl (fun a' w' F' E' => o_move (F'.e rfl) ⟨Ext.refl _ _, rfl⟩) ?_
       refine mK hok rfl rfl (fun a' w' F' E' => o_move (F'.e rfl) ⟨Ext.refl _ _, rfl⟩) ?_
       refine mK hok rfl rfl (fun a' w' F' E' => o_indexSl (F'.e rfl) (F'.e rfl) (by omega) (by omega) ⟨Ext.refl _ _, rfl⟩) ?_
       refine mK hok rfl rfl (fun a' w' F' E' => o_fieldAddr (F'.e rfl) ⟨Ext.refl _ _, rfl⟩) ?_
       refine mK hok rfl rfl (fun a' w' F' E' => o_fieldAddr (F'.e rfl) ⟨Ext.refl _ _, rfl⟩) ?_
       refine mK hok rfl rfl (fun a' w' F' E' => o_loadW1 (M1.later E') (F'.e rfl) ‹_› (by first | assumption | rfl) ⟨Ext.refl _ _, rfl⟩) ?_
       refine mK hok rfl rfl (fun a' w' F' E' => o_move (F'.e rfl) ⟨Ext.refl _ _, rfl⟩) ?_
       (refine mK hok rfl rfl (fun a' w' F' E' => o_call (F'.e rfl) (F'.evs rfl) (Cal.mono (addM_c x.said.met c _) fun _ _ hh => ⟨hh.2, hh.1⟩)) ?_)
       refine mK hok rfl rfl (fun a' w' F' E' => o_build F' rfl rfl ⟨Ext.refl _ _, rfl⟩) ?_
       refine mX (V := NewP w1.heap.size (PhO ⟨x.nb, addM x.said.met c⟩)) hok rfl rfl (NewP.stays _ _) (fun a' w' F' E' D' => bsO ⟨x.nb, addM x.said.met c⟩ F' E' rfl) ?_
       (refine mDone rfl rfl ?_;clear F M;intro a w F hE2 hX hTT hDD hPP;have M := M1.later hE2;(try dsimp only at F);obtain ⟨new, hΦ, hN⟩ := hX 15 _ rfl;replace M := M.joinNew M1 hN;obtain ⟨b148, hr, rfl⟩ := hΦ;replace F := F.know (d := 148) hr;clear hr;clear hN;clear M1;clear hX;clear hE2;clear hok;clear hE;clear hTT;clear hDD;clear hPP)
       replace M := M.perm (l' := (b148, opO ⟨x.nb, addM x.said.met c⟩) :: (b19, .cells (dvC t).toArray 45 (0, 0)) :: (bD, .cells (dvsC ds ++ junk).toArray 45 (0, 0)) :: (entS2 ++ (entR ++ (ent ++ entO)))) (by classical exact List.perm_iff_count.2 fun _ => by simp only [List.count_append, List.count_cons, List.count_nil, Nat.add_zero, Nat.zero_add] <;> ac_rfl)
       (refine sD F (o_append hOO M (.cons (.cons (.cons (.app (.app (.app .here)))))) (F.e rfl) (F.e rfl) (SrcOf.cells' (M.heap .here) (sg_all (op_len (o := ⟨x.nb, addM x.said.met c⟩) trivial)) (op_one _)) (by omega) (by omega) ?_);clear F M;intro zO2 entO2 w hOO2 M a F)
       refine sD F (o_assign (F.e rfl) ?_);clear F a;intro a F
       with_reducible refine l_nil (q_inB ?_)
       refine ⟨zO2, entO2, entS2, ?_, ?_, F.only [16, 20, 21, 19, 69, 68, 67, 12, 15, 17, 0, 1, 2, 4] rfl, (M.perm (l' := (entS2 ++ (entO2 ++ ((b19, .cells (dvC t).toArray 45 (0, 0)) :: (bD, .cells (dvsC ds ++ junk).toArray 45 (0, 0)) :: (entR ++ ent)))) ++ [(b148, opO ⟨x.nb, addM x.said.met c⟩)]) (by classical exact List.perm_iff_count.2 fun _ => by simp only [List.count_append, List.count_cons, List.count_nil, Nat.add_zero, Nat.zero_add] <;> ac_rfl)).sub (List.sublist_append_left _ _)⟩
       ·rw [show (some (⟨x.nb, addM x.said.met c⟩ : OptV)).toList = [⟨x.nb, addM x.said.met c⟩] from rfl, List.length_append]
        show OwnS _ 2 _ _ (encL opC _) _
        rw [encL_app, encL_one]
        exact hOO2
       ·rw [if_pos (show (some (⟨x.nb, addM x.said.met c⟩ : OptV)).isSome = true from rfl)]
        unfold mapQ
        rw [← putA_map]
        exact hOS2
     ·clear F M
      rintro a w ⟨zO2, entO2, entS2, hOO2, hOS2, F, M⟩
      with_reducible refine q_then (c_region ?_)
      refine sD F (o_move (F.e rfl) ?_);clear F a;intro a F
      refine sD F (o_add (F.e rfl) (F.e rfl) (w_i64 (by omega) (by omega)) ?_);clear F a;intro a F
      refine sD F (o_assign (F.e rfl) ?_);clear F a;intro a F
      with_reducible refine l_nil (q_then ?_)
      exact ⟨_, by omega, r' + 1, zO2, entO2, entS2, rfl, by omega, by omega, fun j hj h1 h2 => by
       rcases Nat.lt_or_ge j r' with h3 | h3
       ·exact hre j hj h1 h3
       ·obtain rfl : j = r' := by omega
        rw [← hx0];exact he, hOO2, hOS2, F.only [16, 20, 21, 19, 69, 68, 67, 12, 15, 17, 0, 1, 2, 4] rfl, M⟩
    ·rw [decide_eq_false he] at g8
     refine c_draw 13 F (by kernel_rfl) ?_
     intro w1 hE hok
     have M1 := M.later hE
     refine mK hok rfl rfl (fun a' w' F' E' => o_move (F'.e rfl) ⟨Ext.refl _ _, rfl⟩) ?_
     refine mK hok rfl rfl (fun a' w' F' E' => o_move (F'.e rfl) ⟨Ext.refl _ _, rfl⟩) ?_
     refine mK hok rfl rfl (fun a' w' F' E' => o_lenSl (F'.e rfl) ⟨Ext.refl _ _, rfl⟩) ?_
     refine mK hok rfl rfl (fun a' w' F' E' => o_lssT (F'.e rfl) (F'.e rfl) (by omega) ⟨Ext.refl _ _, rfl⟩) ?_
     refine mK hok rfl rfl (fun a' w' F' E' => o_move (F'.e rfl) ⟨Ext.refl _ _, rfl⟩) ?_
     refine mKG hok rfl rfl rfl rfl (fun a' w' F' E' => o_move (F'.e rfl) ⟨Ext.refl _ _, rfl⟩) ?_
     refine mKG hok rfl rfl rfl rfl (fun a' w' F' E' => o_move (F'.e rfl) ⟨Ext.refl _ _, rfl⟩) ?_
     refine mKG hok rfl rfl rfl rfl (fun a' w' F' E' => o_indexSl (F'.e rfl) (F'.e rfl) (by omega) (by omega) ⟨Ext.refl _ _, rfl⟩) ?_
     refine mKG hok rfl rfl rfl rfl (fun a' w' F' E' => o_fieldAddr (F'.e rfl) ⟨Ext.refl _ _, rfl⟩) ?_
     refine mKG hok rfl rfl rfl rfl (fun a' w' F' E' => o_loadWA (M1.later E') (F'.e rfl) ‹_› (by first | assumption | rfl) ⟨Ext.refl _ _, rfl⟩) ?_
     refine mKG hok rfl rfl rfl rfl (fun a' w' F' E' => o_loadA (M1.later E') (F'.e rfl) (by repeat constructor) (by first | assumption | rfl) ⟨Ext.refl _ _, rfl⟩) ?_
     refine mKG hok rfl rfl rfl rfl (fun a' w' F' E' => o_eqlAF (F'.e rfl) (F'.e rfl) (by first | assumption | rfl) (by first | assumption | rfl) ‹_› ⟨Ext.refl _ _, rfl⟩) ?_
     refine mK hok rfl rfl (fun a' w' F' E' => o_pickT (F'.e rfl) (F'.e rfl) ⟨Ext.refl _ _, rfl⟩) ?_
     (refine mDone rfl rfl ?_;clear F M;intro a w F hE2 hX hTT hDD hPP;have M := M1.later hE2;clear M1;clear hX;clear hE2;clear hok;clear hE;clear hTT;clear hDD;clear hPP;(try dsimp only at F))
     with_reducible refine l_nil (q_then ?_)
     refine c_false F rfl rfl ?_
     with_reducible refine c_exit (q_thenX (q_thenX (q_inBX ?_)))
     obtain ⟨h1, h2, h3⟩ := hend (fun hj => by rw [← hx0];exact he)
     exact ⟨r', zO, entO, entS, h1, by rw [h2];exact hOO, by rw [h3];exact hOS, F.only [16, 20, 21, 19, 69, 68, 67, 12, 15, 17, 0, 1, 2, 4] rfl, M.perm (by classical exact List.perm_iff_count.2 fun _ => by simp only [List.count_append, List.count_cons, List.count_nil, Nat.add_zero, Nat.zero_add] <;> ac_rfl)⟩
   ·refine c_seq ?_
    refine c_seq ?_
    refine c_draw 13 F (by kernel_rfl) ?_
    intro w1 hE hok
    have M1 := M.later hE
    refine mK hok rfl rfl (fun a' w' F' E' => o_move (F'.e rfl) ⟨Ext.refl _ _, rfl⟩) ?_
    refine mK hok rfl rfl (fun a' w' F' E' => o_move (F'.e rfl) ⟨Ext.refl _ _, rfl⟩) ?_
    refine mK hok rfl rfl (fun a' w' F' E' => o_lenSl (F'.e rfl) ⟨Ext.refl _ _, rfl⟩) ?_
    refine mK hok rfl rfl (fun a' w' F' E' => o_lssF (F'.e rfl) (F'.e rfl) (by omega) ⟨Ext.refl _ _, rfl⟩) ?_
    refine mK hok rfl rfl (fun a' w' F' E' => o_move (F'.e rfl) ⟨Ext.refl _ _, rfl⟩) ?_
    refine mOff hok rfl rfl rfl rfl rfl ?_
    refine mOff hok rfl rfl rfl rfl rfl ?_
    refine mOff hok rfl rfl rfl rfl rfl ?_
    refine mOff hok rfl rfl rfl rfl rfl ?_
    refine mOff hok rfl rfl rfl rfl rfl ?_
    refine mOff hok rfl rfl rfl rfl rfl ?_
    refine mOff hok rfl rfl rfl rfl rfl ?_
    refine mK hok rfl rfl (fun a' w' F' E' => o_pickF (F'.e rfl) (F'.e rfl) ⟨Ext.refl _ _, rfl⟩) ?_
    (refine mDone rfl rfl ?_;clear F M;intro a w F hE2 hX hTT hDD hPP;have M := M1.later hE2;clear M1;clear hX;clear hE2;clear hok;clear hE;clear hTT;clear hDD;clear hPP;(try dsimp only at F))
    with_reducible refine l_nil (q_then ?_)
    refine c_false F rfl rfl ?_
    with_reducible refine c_exit (q_thenX (q_thenX (q_inBX ?_)))
    obtain ⟨h1, h2, h3⟩ := hend (fun hj => absurd hj hlt2)
    exact ⟨r', zO, entO, entS, h1, by rw [h2];exact hOO, by rw [h3];exact hOS, F.only [16, 20, 21, 19, 69, 68, 67, 12, 15, 17, 0, 1, 2, 4] rfl, M⟩
  ·clear F M
   rintro a w ⟨r1, zO, entO, entS, hYr1, hOO, hOS, F, M⟩
   clear hYr
   have hvO := hov t
   have hlO : (ds.take k).length = k := by rw [List.length_take];omega
   have hlR : ((ds.take k).filterMap (selE now l s cm old)).length ≤ 1024 := by
    have := List.length_filterMap_le (selE now l s cm old) (ds.take k)
    omega
   refine q_then ?_
   repeat (refine c_seq ?_)
   replace M := M.perm (l' := ((b19, .cells (dvC t).toArray 45 (0, 0)) :: (bD, .cells (dvsC ds ++ junk).toArray 45 (0, 0)) :: (entS ++ (entO ++ (entR ++ ent))))) (by classical exact List.perm_iff_count.2 fun _ => by simp only [List.count_append, List.count_cons, List.count_nil, Nat.add_zero, Nat.zero_add] <;> ac_rfl)
   refine c_cut (fun a w => ∃ had : Bool, (had = true → ∃ hil : i < old.length, old[i].to = t) ∧ (had = false → ∀ hil : i < old.length, old[i].to ≠ t) ∧ Frm a 190 [] [(24, .bool had), (17, .int .i64 i), (16, .int .i64 r1), (20, zO), (21, .map (some bS)), (19, .pointer (some ⟨b19, 0, none⟩)), (69, .int .i64 k), (68, .int .i64 ds.length), (67, .slice (some ⟨bD, 0, none⟩) ds.length capd), (12, .map (some b12)), (15, z), (0, .int .i64 now), (1, .slice q l.length cap), (2, vs), (4, .slice qo old.length capo)] ∧ Mem [] W w ((b19, .cells (dvC t).toArray 45 (0, 0)) :: (bD, .cells (dvsC ds ++ junk).toArray 45 (0, 0)) :: (entS ++ (entO ++ (entR ++ ent))))) ?_ ?_
   ·clear hov hoE hYi hdk2 hdk3 htk
    by_cases hil : i < old.length
    ·obtain ⟨b, o, cs, t', fz, rfl, hb, hs⟩ := hmo (by omega)
     have g1 : seg cs (o + (i : Int).toNat * 40) 40 = some (inC old[i]) := seg_el (ins_len hy) hs hil (by omega)
     have hxv := hy _ (List.getElem_mem hil)
     obtain ⟨y, hy0⟩ : ∃ y, y = old[i] := ⟨_, rfl⟩
     rw [← hy0] at g1 hxv
     have g2 : seg cs (o + (i : Int).toNat * 40) 35 = some (dvC y.to) := sg_seg g1 (in_to hxv) (by omega)
     have g7 := dv_fits hxv.1
     have g8 := dv_eq hxv.1 ht
     by_cases he : y.to = t
     ·rw [decide_eq_true he] at g8
      refine c_draw 13 F (by kernel_rfl) ?_
      intro w1 hE hok
      have M1 := M.later hE
      refine mK hok rfl rfl (fun a' w' F' E' => o_move (F'.e rfl) ⟨Ext.refl _ _, rfl⟩) ?_
      refine mK hok rfl rfl (fun a' w' F' E' => o_move (F'.e rfl) ⟨Ext.refl _ _, rfl⟩) ?_
      refine mK hok rfl rfl (fun a' w' F' E' => o_lenSl (F'.e rfl) ⟨Ext.refl _ _, rfl⟩) ?_
      refine mK hok rfl rfl (fun a' w' F' E' => o_lssT (F'.e rfl) (F'.e rfl) (by omega) ⟨Ext.refl _ _, rfl⟩) ?_
      refine mK hok rfl rfl (fun a' w' F' E' => o_move (F'.e rfl) ⟨Ext.refl _ _, rfl⟩) ?_
      refine mKG hok rfl rfl rfl rfl (fun a' w' F' E' => o_move (F'.e rfl) ⟨Ext.refl _ _, rfl⟩) ?_
      refine mKG hok rfl rfl rfl rfl (fun a' w' F' E' => o_move (F'.e rfl) ⟨Ext.refl _ _, rfl⟩) ?_
      refine mKG hok rfl rfl rfl rfl (fun a' w' F' E' => o_indexSl (F'.e rfl) (F'.e rfl) (by omega) (by omega) ⟨Ext.refl _ _, rfl⟩) ?_
      refine mKG hok rfl rfl rfl rfl (fun a' w' F' E' => o_fieldAddr (F'.e rfl) ⟨Ext.refl _ _, rfl⟩) ?_
      refine mKG hok rfl rfl rfl rfl (fun a' w' F' E' => o_loadWA (M1.later E') (F'.e rfl) ‹_› (by first | assumption | rfl) ⟨Ext.refl _ _, rfl⟩) ?_
      refine mKG hok rfl rfl rfl rfl (fun a' w' F' E' => o_loadA (M1.later E') (F'.e rfl) (by repeat constructor) (by first | assumption | rfl) ⟨Ext.refl _ _, rfl⟩) ?_
      refine mKG hok rfl rfl rfl rfl (fun a' w' F' E' => o_eqlAT (F'.e rfl) (F'.e rfl) (by first | assumption | rfl) (by first | assumption | rfl) ‹_› ⟨Ext.refl _ _, rfl⟩) ?_
      refine mK hok rfl rfl (fun a' w' F' E' => o_pickT (F'.e rfl) (F'.e rfl) ⟨Ext.refl _ _, rfl⟩) ?_
      (refine mDone rfl rfl ?_;clear F M;intro a w F hE2 hX hTT hDD hPP;have M := M1.later hE2;clear M1;clear hX;clear hE2;clear hok;clear hE;clear hTT;clear hDD;clear hPP;(try dsimp only at F))
      refine sD F (o_assign (F.e rfl) ?_);clear F a;intro a F
      with_reducible refine l_nil ?_
      exact ⟨true, fun _ => ⟨hil, by rw [← hy0];exact he⟩, fun h => (by cases h), F.only [24, 17, 16, 20, 21, 19, 69, 68, 67, 12, 15, 0, 1, 2, 4] rfl, M⟩
     ·rw [decide_eq_false he] at g8
      refine c_draw 13 F (by kernel_rfl) ?_
      intro w1 hE hok
      have M1 := M.later hE
      refine mK hok rfl rfl (fun a' w' F' E' => o_move (F'.e rfl) ⟨Ext.refl _ _, rfl⟩) ?_
      refine mK hok rfl rfl (fun a' w' F' E' => o_move (F'.e rfl) ⟨Ext.refl _ _, rfl⟩) ?_
      refine mK hok rfl rfl (fun a' w' F' E' => o_lenSl (F'.e rfl) ⟨Ext.refl _ _, rfl⟩) ?_
      refine mK hok rfl rfl (fun a' w' F' E' => o_lssT (F'.e rfl) (F'.e rfl) (by omega) ⟨Ext.refl _ _, rfl⟩) ?_
      refine mK hok rfl rfl (fun a' w' F' E' => o_move (F'.e rfl) ⟨Ext.refl _ _, rfl⟩) ?_
      refine mKG hok rfl rfl rfl rfl (fun a' w' F' E' => o_move (F'.e rfl) ⟨Ext.refl _ _, rfl⟩) ?_
      refine mKG hok rfl rfl rfl rfl (fun a' w' F' E' => o_move (F'.e rfl) ⟨Ext.refl _ _, rfl⟩) ?_
      refine mKG hok rfl rfl rfl rfl (fun a' w' F' E' => o_indexSl (F'.e rfl) (F'.e rfl) (by omega) (by omega) ⟨Ext.refl _ _, rfl⟩) ?_
      refine mKG hok rfl rfl rfl rfl (fun a' w' F' E' => o_fieldAddr (F'.e rfl) ⟨Ext.refl _ _, rfl⟩) ?_
      refine mKG hok rfl rfl rfl rfl (fun a' w' F' E' => o_loadWA (M1.later E') (F'.e rfl) ‹_› (by first | assumption | rfl) ⟨Ext.refl _ _, rfl⟩) ?_
      refine mKG hok rfl rfl rfl rfl (fun a' w' F' E' => o_loadA (M1.later E') (F'.e rfl) (by repeat constructor) (by first | assumption | rfl) ⟨Ext.refl _ _, rfl⟩) ?_
      refine mKG hok rfl rfl rfl rfl (fun a' w' F' E' => o_eqlAF (F'.e rfl) (F'.e rfl) (by first | assumption | rfl) (by first | assumption | rfl) ‹_› ⟨Ext.refl _ _, rfl⟩) ?_
      refine mK hok rfl rfl (fun a' w' F' E' => o_pickT (F'.e rfl) (F'.e rfl) ⟨Ext.refl _ _, rfl⟩) ?_
      (refine mDone rfl rfl ?_;clear F M;intro a w F hE2 hX hTT hDD hPP;have M := M1.later hE2;clear M1;clear hX;clear hE2;clear hok;clear hE;clear hTT;clear hDD;clear hPP;(try dsimp only at F))
      refine sD F (o_assign (F.e rfl) ?_);clear F a;intro a F
      with_reducible refine l_nil ?_
      exact ⟨false, fun h => (by cases h), fun _ _ => by rw [← hy0];exact he, F.only [24, 17, 16, 20, 21, 19, 69, 68, 67, 12, 15, 0, 1, 2, 4] rfl, M⟩
    ·refine c_draw 13 F (by kernel_rfl) ?_
     intro w1 hE hok
     have M1 := M.later hE
     refine mK hok rfl rfl (fun a' w' F' E' => o_move (F'.e rfl) ⟨Ext.refl _ _, rfl⟩) ?_
     refine mK hok rfl rfl (fun a' w' F' E' => o_move (F'.e rfl) ⟨Ext.refl _ _, rfl⟩) ?_
     refine mK hok rfl rfl (fun a' w' F' E' => o_lenSl (F'.e rfl) ⟨Ext.refl _ _, rfl⟩) ?_
     refine mK hok rfl rfl (fun a' w' F' E' => o_lssF (F'.e rfl) (F'.e rfl) (by omega) ⟨Ext.refl _ _, rfl⟩) ?_
     refine mK hok rfl rfl (fun a' w' F' E' => o_move (F'.e rfl) ⟨Ext.refl _ _, rfl⟩) ?_
     refine mOff hok rfl rfl rfl rfl rfl ?_
     refine mOff hok rfl rfl rfl rfl rfl ?_
     refine mOff hok rfl rfl rfl rfl rfl ?_
     refine mOff hok rfl rfl rfl rfl rfl ?_
     refine mOff hok rfl rfl rfl rfl rfl ?_
     refine mOff hok rfl rfl rfl rfl rfl ?_
     refine mOff hok rfl rfl rfl rfl rfl ?_
     refine mK hok rfl rfl (fun a' w' F' E' => o_pickF (F'.e rfl) (F'.e rfl) ⟨Ext.refl _ _, rfl⟩) ?_
     (refine mDone rfl rfl ?_;clear F M;intro a w F hE2 hX hTT hDD hPP;have M := M1.later hE2;clear M1;clear hX;clear hE2;clear hok;clear hE;clear hTT;clear hDD;clear hPP;(try dsimp only at F))
     refine sD F (o_assign (F.e rfl) ?_);clear F a;intro a F
     with_reducible refine l_nil ?_
     exact ⟨false, fun h => (by cases h), fun _ h => absurd h hil, F.only [24, 17, 16, 20, 21, 19, 69, 68, 67, 12, 15, 0, 1, 2, 4] rfl, M⟩
   clear F M
   rintro a w ⟨had, hh1, hh2, F, M⟩
   with_reducible refine q_then (c_seq (c_region ?_))
   (refine sD F (o_alloc M ?_);clear F M;intro b25 w M a F)
   with_reducible refine l_nil (q_then (c_seq (c_seq (c_region ?_))))
   refine sD F (o_move (F.e rfl) ?_);clear F a;intro a F
   with_reducible refine l_nil (q_then ?_)
   refine c_cut (fun a w => ∃ (y : InsV) (i' : Nat), IsIn y ∧ (had = true → ins1 y = true) ∧ oldV old t = oldB y had ∧ Yet InsV.to old (ds.drop (k + 1)) i' ∧ Frm a 190 [] [(24, .bool had), (25, .pointer (some ⟨b25, 0, none⟩)), (17, .int .i64 i'), (16, .int .i64 r1), (20, zO), (21, .map (some bS)), (19, .pointer (some ⟨b19, 0, none⟩)), (69, .int .i64 k), (68, .int .i64 ds.length), (67, .slice (some ⟨bD, 0, none⟩) ds.length capd), (12, .map (some b12)), (15, z), (0, .int .i64 now), (1, .slice q l.length cap), (2, vs), (4, .slice qo old.length capo)] ∧ Mem [] W w ((b25, .cells (inC y).toArray 50 (0, 0)) :: ((b19, .cells (dvC t).toArray 45 (0, 0)) :: (bD, .cells (dvsC ds ++ junk).toArray 45 (0, 0)) :: (entS ++ (entO ++ (entR ++ ent)))))) ?_ ?_
   ·cases had with
    | false =>
     have hn := hh2 rfl
     obtain ⟨h1, h2⟩ := Yet.next hwN hdk2 hdk3 hYi (Nat.le_refl _) hYi.le (fun j hj h1 h2 => absurd h2 (by omega)) hn
     have hov2 : oldV old t = none := oldV_no fun j hj => by
      rcases Nat.lt_or_ge j i with h3 | h3
      ·exact hYi.before j hj h3
      ·exact h2 j hj h3
     refine c_false F rfl rfl ?_
     with_reducible refine c_skip ?_
     exact ⟨in0, i, in0_is, fun h => (by cases h), hov2, h1, F.only [24, 25, 17, 16, 20, 21, 19, 69, 68, 67, 12, 15, 0, 1, 2, 4] rfl, M⟩
    | true =>
     obtain ⟨hil, he⟩ := hh1 rfl
     obtain ⟨b, o, cs, t', fz, rfl, hb, hs⟩ := hmo (by omega)
     have g1 : seg cs (o + (i : Int).toNat * 40) 40 = some (inC old[i]) := seg_el (ins_len hy) hs hil (by omega)
     have hxv := hy _ (List.getElem_mem hil)
     have hnx := Yet.next (r1 := i + 1) hwN hdk2 hdk3 hYi (by omega) (by omega) (fun j hj h1 h2 => by
      obtain rfl : j = i := by omega
      exact he) (fun hj e => by
      have h3 := (List.pairwise_iff_getElem.1 hascN) i (i + 1) hil hj (by omega)
      unfold cmpN at h3
      rw [e, he, cmpD_self] at h3
      omega)
     have hov2 : oldV old t = some old[i] := oldV_at hil he hYi.before
     have hin := hins _ (List.getElem_mem hil)
     obtain ⟨y, hy0⟩ : ∃ y, y = old[i] := ⟨_, rfl⟩
     rw [← hy0] at g1 hxv hov2 hin
     clear he
     refine c_true F rfl rfl ?_
     refine c_seq (c_region ?_)
     refine sD F (o_move (F.e rfl) ?_);clear F a;intro a F
     refine sD F (o_move (F.e rfl) ?_);clear F a;intro a F
     refine sD F (o_indexSl (F.e rfl) (F.e rfl) (by omega) (by omega) ?_);clear F a;intro a F
     refine sD F (o_loadWA M (F.e rfl) ‹_› (by first | assumption | rfl) ?_);clear F a;intro a F
     (refine stepN rfl F (o_storeA M (F.e rfl) (F.e rfl) (in_len hxv) (in_one y)  (by repeat constructor)  (put_all (by rw [in_len hxv];rfl)) (by repeat constructor) ?_);clear F M;intro w M a F)
     with_reducible refine l_nil (q_then (c_region ?_))
     refine sD F (o_move (F.e rfl) ?_);clear F a;intro a F
     refine sD F (o_add (F.e rfl) (F.e rfl) (w_i64 (by omega) (by omega)) ?_);clear F a;intro a F
     refine sD F (o_assign (F.e rfl) ?_);clear F a;intro a F
     with_reducible refine l_nil ?_
     exact ⟨y, i + 1, hxv, fun _ => hin, hov2, hnx.1, F.only [24, 25, 17, 16, 20, 21, 19, 69, 68, 67, 12, 15, 0, 1, 2, 4] rfl, M⟩
   clear F M
   rintro a w ⟨y, i', hyI, hy1, hov2, hYi2, F, M⟩
   have hEq : selE now l s cm old t = aftV now t (oldB y had) (optsV now s cm t l) (saidV now s cm t l) := by
    unfold selE
    rw [hov2]
   rw [hEq] at htk
   have hEI : ∀ e, aftV now t (oldB y had) (optsV now s cm t l) (saidV now s cm t l) = some e → IsIn e := fun e h => hoE t ht e (by rw [hEq];exact h)
   have haf := after_c now c5 t ht y hyI had hy1 (optsV now s cm t l) hvO zO (saidV now s cm t l) (.map (some bS))
   obtain ⟨E, hE⟩ : ∃ E, E = aftV now t (oldB y had) (optsV now s cm t l) (saidV now s cm t l) := ⟨_, rfl⟩
   rw [← hE] at htk hEI haf
   have hgI : IsIn (E.getD in0) := by
    cases E with
    | none => exact in0_is
    | some e => exact hEI e rfl
   have y1 := in_all hyI
   have e1 := in_all hgI
   have e2 := in_len hgI
   with_reducible refine q_then (c_seq (c_region ?_))
   refine sD F (o_move (F.e rfl) ?_);clear F a;intro a F
   refine sD F (o_loadA M (F.e rfl) (by repeat constructor) (by first | assumption | rfl) ?_);clear F a;intro a F
   refine sD F (o_loadA M (F.e rfl) (by repeat constructor) (by first | assumption | rfl) ?_);clear F a;intro a F
   refine sD F (o_move (F.e rfl) ?_);clear F a;intro a F
   refine sD F (o_move (F.e rfl) ?_);clear F a;intro a F
   refine sD F (o_move (F.e rfl) ?_);clear F a;intro a F
   (refine sD F (o_call (F.e rfl) (F.evs rfl) (Cal.mono (haf _ (hOO.slAt M (fun p hp => by simp [hp])) (hOS.at_ (fun p hp => M.at_ p (by simp [hp])))) ?_));clear F;clear a;rintro _ w ⟨rfl, hE⟩ a F;replace M := M.later hE;clear hE)
   refine sD F (o_move (F.e rfl) ?_);clear F a;intro a F
   refine sD F (o_extract (F.e rfl) rfl ?_);clear F a;intro a F
   refine sD F (o_extract (F.e rfl) rfl ?_);clear F a;intro a F
   (refine sD F (o_alloc M ?_);clear F M;intro b26 w M a F)
   (refine stepN rfl F (o_storeA M (F.e rfl) (F.e rfl) (e2) (in_one _)  (by repeat constructor)  (put_all (by rw [e2];rfl)) (by repeat constructor) ?_);clear F M;intro w M a F)
   cases E with
   | none =>
    have htk2 : (ds.take (k + 1)).filterMap (selE now l s cm old) = (ds.take k).filterMap (selE now l s cm old) := by rw [htk];simp
    refine sD F (o_assign (F.e rfl) ?_);clear F a;intro a F
    with_reducible refine l_nil (q_then (c_seq (c_region ?_)))
    refine sD F (o_move (F.e rfl) ?_);clear F a;intro a F
    with_reducible refine l_nil (q_then ?_)
    refine c_false F rfl rfl ?_
    with_reducible refine c_skip (q_inB (q_then (c_region ?_)))
    refine sD F (o_add (F.e rfl) (F.e rfl) (w_i64 (by omega) (by omega)) ?_);clear F a;intro a F
    refine sD F (o_move (F.e rfl) ?_);clear F a;intro a F
    with_reducible refine l_nil (q_then ?_)
    exact ⟨_, by omega, k + 1, r1, i', z, entR, rfl, by omega, hYr1, hYi2, by rw [htk2];exact hR, F.only [69, 68, 67, 12, 15, 16, 17, 0, 1, 2, 4] rfl, (M.perm (l' := (entR ++ ([(bD, .cells (dvsC ds ++ junk).toArray 45 (0, 0))] ++ ent)) ++ ((b26, .cells (inC ((none : Option InsV).getD in0)).toArray 50 (0, 0)) :: (b25, .cells (inC y).toArray 50 (0, 0)) :: (b19, .cells (dvC t).toArray 45 (0, 0)) :: (entS ++ entO))) (by classical exact List.perm_iff_count.2 fun _ => by simp only [List.count_append, List.count_cons, List.count_nil, Nat.add_zero, Nat.zero_add] <;> ac_rfl)).sub (List.sublist_append_left _ _)⟩
   | some e =>
    have htk2 : (ds.take (k + 1)).filterMap (selE now l s cm old) = (ds.take k).filterMap (selE now l s cm old) ++ [e] := by rw [htk];rfl
    have heI := hEI e rfl
    have e3 : seg (inC e) 0 40 = some (inC e) := in_all heI
    replace M := M.perm (l' := (b26, .cells (inC e).toArray 50 (0, 0)) :: (b25, .cells (inC y).toArray 50 (0, 0)) :: (b19, .cells (dvC t).toArray 45 (0, 0)) :: (bD, .cells (dvsC ds ++ junk).toArray 45 (0, 0)) :: (entS ++ (entO ++ (ent ++ entR)))) (by classical exact List.perm_iff_count.2 fun _ => by simp only [List.count_append, List.count_cons, List.count_nil, Nat.add_zero, Nat.zero_add] <;> ac_rfl)
    refine sD F (o_assign (F.e rfl) ?_);clear F a;intro a F
    with_reducible refine l_nil (q_then (c_seq (c_region ?_)))
    refine sD F (o_move (F.e rfl) ?_);clear F a;intro a F
    with_reducible refine l_nil (q_then ?_)
    refine c_true F rfl rfl ?_
    refine c_region ?_
    refine sD F (o_move (F.e rfl) ?_);clear F a;intro a F
    refine sD F (o_loadA M (F.e rfl) (by repeat constructor) (by first | assumption | rfl) ?_);clear F a;intro a F
    (refine sD F (o_buildSlice F M rfl rfl rfl (in_build1 heI) ?_);clear F M;intro b183 w M a F)
    (refine sD F (o_append hR M (.cons (.cons (.cons (.cons (.cons (.app (.app (.app .here)))))))) (F.e rfl) (F.e rfl) (SrcOf.cells' (M.heap .here) (sg_all (in_len heI)) (in_one _)) (by omega) (by omega) ?_);clear F M;intro z2 entR2 w hR2 M a F)
    refine sD F (o_assign (F.e rfl) ?_);clear F a;intro a F
    with_reducible refine l_nil (q_inB (q_then (c_region ?_)))
    refine sD F (o_add (F.e rfl) (F.e rfl) (w_i64 (by omega) (by omega)) ?_);clear F a;intro a F
    refine sD F (o_move (F.e rfl) ?_);clear F a;intro a F
    with_reducible refine l_nil (q_then ?_)
    refine ⟨_, by omega, k + 1, r1, i', z2, entR2, rfl, by omega, hYr1, hYi2, ?_, F.only [69, 68, 67, 12, 15, 16, 17, 0, 1, 2, 4] rfl, (M.perm (l' := (entR2 ++ ([(bD, .cells (dvsC ds ++ junk).toArray 45 (0, 0))] ++ ent)) ++ ((b183, .cells (inC e).toArray 50 (0, 0)) :: (b26, .cells (inC e).toArray 50 (0, 0)) :: (b25, .cells (inC y).toArray 50 (0, 0)) :: (b19, .cells (dvC t).toArray 45 (0, 0)) :: (entS ++ entO))) (by classical exact List.perm_iff_count.2 fun _ => by simp only [List.count_append, List.count_cons, List.count_nil, Nat.add_zero, Nat.zero_add] <;> ac_rfl)).sub (List.sublist_append_left _ _)⟩
    rw [htk2, List.length_append]
    show OwnS _ 40 _ _ (encL inC _) _
    rw [encL_app, encL_one]
    exact hR2
 ·obtain rfl : k = ds.length := by omega
  rw [List.take_length] at hR
  obtain ⟨pz, cz, rfl⟩ := hR.slice
  clear hD hov hoE
  by_cases c9 : 512 < (ds.filterMap (selE now l s cm old)).length
  ·rw [if_pos c9] at hL
   rw [hL]
   refine c_seq (c_region ?_)
   refine sD F (o_lssF (F.e rfl) (F.e rfl) (by omega) ?_);clear F a;intro a F
   with_reducible refine l_nil (q_then (c_seq ?_))
   refine c_false F rfl rfl ?_
   with_reducible refine c_exit (q_thenX (q_thenX (q_inBX (q_then (c_seq (c_seq (c_region ?_)))))))
   refine sD F (o_move (F.e rfl) ?_);clear F a;intro a F
   refine sD F (o_lenSl (F.e rfl) ?_);clear F a;intro a F
   refine sD F (o_gtrT (F.e rfl) (F.e rfl) (by omega) ?_);clear F a;intro a F
   with_reducible refine l_nil (q_then ?_)
   refine c_true F rfl rfl ?_
   refine c_seq (c_region ?_)
   refine sD F (o_assign (F.e rfl) ?_);clear F a;intro a F
   refine sD F (o_assign (F.e rfl) ?_);clear F a;intro a F
   with_reducible refine l_nil (q_then (c_ret (q_thenR ?_)))
   refine p_ret F rfl (.cons (.tmp (F.e rfl)) (.cons (.tmp (F.e rfl)) .nil)) ?_
   exact ⟨.slice none 0 0, [], rfl, OwnS.nil _ _, M.sub (List.nil_sublist _)⟩
  ·rw [if_neg c9] at hL
   rw [hL]
   refine c_seq (c_region ?_)
   refine sD F (o_lssF (F.e rfl) (F.e rfl) (by omega) ?_);clear F a;intro a F
   with_reducible refine l_nil (q_then (c_seq ?_))
   refine c_false F rfl rfl ?_
   with_reducible refine c_exit (q_thenX (q_thenX (q_inBX (q_then (c_seq (c_seq (c_region ?_)))))))
   refine sD F (o_move (F.e rfl) ?_);clear F a;intro a F
   refine sD F (o_lenSl (F.e rfl) ?_);clear F a;intro a F
   refine sD F (o_gtrF (F.e rfl) (F.e rfl) (by omega) ?_);clear F a;intro a F
   with_reducible refine l_nil (q_then ?_)
   refine c_false F rfl rfl ?_
   with_reducible refine c_skip (q_then (c_seq (c_region ?_)))
   refine sD F (o_move (F.e rfl) ?_);clear F a;intro a F
   refine sD F (o_assign (F.e rfl) ?_);clear F a;intro a F
   refine sD F (o_assign (F.e rfl) ?_);clear F a;intro a F
   with_reducible refine l_nil (q_then (c_ret ?_))
   refine p_ret F rfl (.cons (.tmp (F.e rfl)) (.cons (.tmp (F.e rfl)) .nil)) ?_
   exact ⟨_, entR, rfl, hR, M.sub (List.sublist_append_left _ _)⟩
end Go.Proofs.YtilgoepokaaleaaGreat
/-! ZG -/
namespace Go.Proofs.YtilgoepokaaleaaGreat
set_option linter.unusedVariables false
set_option linter.unusedSimpArgs false
open Go.RowKit
attribute [local irreducible] OpTo wpListIn Code.wpIn MW Cal
def hostD (n r : Int) : DstV := ⟨[32, 1, 0, 0, 0, 0, 0, 0, 0, 0, 0, 0, 0, 0, 0, n], 128, nul16, 0, r⟩
theorem hostD_is {n r : Int} (h0 : 0 ≤ n) (h1 : n < 256) : IsDv (hostD n r) := ⟨⟨rfl, by intro x hx;simp [hostD] at hx;omega⟩, nul16_is⟩
theorem host_c (n r : Int) (h0 : 0 ≤ n) (h1 : n < 256) (r0 : 0 ≤ r) (r1 : r < 100000) (W : World) : Cal Tryz.prog 30 [.int .i64 n, .int .i64 r].toArray W fun v w' => v = .agg (dvC (hostD n r)).toArray ∧ Ext [] W w' := by
 refine fn_ofM (n := 12) [] Tryz.func30 rfl rfl rfl ?_
 intro a w F M hwW
 refine c_seq ?_
 refine c_region ?_
 (refine sD F (o_alloc M ?_);clear F M;intro b4 w M a F)
 with_reducible refine l_nil (q_then (c_seq (c_region ?_)))
 refine sD F (o_move (F.e rfl) ?_);clear F a;intro a F
 refine sD F (o_conv (F.e rfl) (w_u8 (by omega) (by omega)) ?_);clear F a;intro a F
 refine sD F (o_build F rfl rfl ?_);clear F a;intro a F
 refine sD F (o_build F rfl rfl ?_);clear F a;intro a F
 refine sD F (o_move (F.e rfl) ?_);clear F a;intro a F
 refine sD F (o_conv (F.e rfl) (w_u64 (by omega) (by omega)) ?_);clear F a;intro a F
 refine sD F (o_build F rfl rfl ?_);clear F a;intro a F
 (refine stepN rfl F (o_storeA M (F.e rfl) (F.e rfl) (by rfl) (by rfl) (by repeat constructor) (by rfl) (by repeat constructor) ?_);clear F M;intro w M a F)
 with_reducible refine l_nil (q_then (c_ret ?_))
 exact p_ret F rfl (.cons (.cell (F.e rfl) (run_loadVar_agg TAgg.h (M.heap (by repeat constructor)) rfl)) .nil) ⟨rfl, M.ext⟩
def kL : RouV := ⟨hostD 1 9, 2, ⟨3, 100⟩, 15⟩
def kI : InsV := ⟨hostD 1 9, 2, ⟨3, 356⟩, -1, 0⟩
def kH : InsV := ⟨hostD 1 9, 0, ⟨3, 65535⟩, -1, 21⟩
def kO : OptV := ⟨2, 256⟩
def kIP : List Int := [32, 1, 0, 0, 0, 0, 0, 0, 0, 0, 0, 0, 0, 0, 0, 1]
def kZ : DstV := ⟨nul16, 0, nul16, 0, 0⟩
theorem k_is : IsDv (hostD 1 9) := hostD_is (by omega) (by omega)
theorem kL_is : IsRo kL := ⟨k_is, trivial⟩
theorem kI_is : IsIn kI := ⟨k_is, trivial⟩
theorem kH_is : IsIn kH := ⟨k_is, trivial⟩
theorem kIP_is : IsIP kIP := ⟨rfl, by intro x hx;simp [kIP] at hx;omega⟩
theorem kZ_is : IsDv kZ := ⟨nul16_is, nul16_is⟩
theorem kLearn : learnV [] 5 (hostD 1 9) 2 ⟨3, 100⟩ = ([kL], 0) := by decide +kernel
theorem kSel1 : selectV 6 [kL] [] [kO] [] = ([kI], 0) := by decide +kernel
theorem kSel2 : selectV 7 [] [] [kO] [kI] = ([kH], 0) := by decide +kernel
theorem kLook1 : lookV [kI] nul16 kIP kZ false = (kI, 0) := by decide +kernel
theorem kLook2 : lookV [kH] nul16 kIP kZ false = (in0, 15) := by decide +kernel
theorem slAtO {w : World} {b : Nat} {x : OptV} {t : TypeId} {fz : Nat × Nat} (h : w.heap[b]? = some (.cells (opC x).toArray t fz)) : SlAt w 2 (.slice (some ⟨b, 0, none⟩) 1 1) 1 (opsC [x]) :=
 ⟨_, _, rfl, Nat.le_refl _, by simp, by rw [show opsC [x] = opC x from encL_one _ _, op_len (o := x) trivial], fun _ => ⟨b, 0, _, _, _, rfl, h, by rw [show opsC [x] = opC x from encL_one _ _];exact sg_all (op_len (o := x) trivial)⟩⟩
end Go.Proofs.YtilgoepokaaleaaGreat
/-! ZH -/
namespace Go.Proofs.YtilgoepokaaleaaGreat
set_option linter.unusedVariables false
set_option linter.unusedSimpArgs false
open Go.RowKit
def k5 : OptV := ⟨5, 300⟩
theorem host_valid {n r : Int} (h0 : 0 ≤ n) (h1 : n < 256) (hr : 1 ≤ r) : validT (hostD n r) = true := by
 have key : ∀ m : Fin 256, validP [32, 1, 0, 0, 0, 0, 0, 0, 0, 0, 0, 0, 0, 0, 0, ((m : Nat) : Int)] 128 = true := by decide +kernel
 have h2 := key ⟨n.toNat, by omega⟩
 have h3 : ((n.toNat : Nat) : Int) = n := by omega
 simp only [h3] at h2
 unfold validT hostD
 simp only [h2, Bool.true_and]
 rw [show validP nul16 0 = true by decide +kernel]
 simp
 omega
section
variable {t : DstV} {d : DisV} {now til : Int}
end
end Go.Proofs.YtilgoepokaaleaaGreat
/-! ZM -/
namespace Go.Proofs.YtilgoepokaaleaaGreat
set_option linter.unusedVariables false
set_option linter.unusedSimpArgs false
open Go.RowKit
theorem bst_fold : ∀ (l : List OptV) (b : OptV), ((l.foldl (fun b o => if o.cost < b.cost then o else b) b = b ∨ (l.foldl (fun b o => if o.cost < b.cost then o else b) b ∈ l ∧ (l.foldl (fun b o => if o.cost < b.cost then o else b) b).cost < b.cost)) ∧ (l.foldl (fun b o => if o.cost < b.cost then o else b) b).cost ≤ b.cost ∧ ∀ o ∈ l, (l.foldl (fun b o => if o.cost < b.cost then o else b) b).cost ≤ o.cost)
 | [], b => by simp
 | a :: l, b => by
  rw [List.foldl_cons]
  obtain ⟨h1, h2, h3⟩ := bst_fold l (if a.cost < b.cost then a else b)
  generalize l.foldl (fun b o => if o.cost < b.cost then o else b) (if a.cost < b.cost then a else b) = r at *
  by_cases h : a.cost < b.cost
  ·rw [if_pos h] at h1 h2
   refine ⟨.inr ⟨?_, by omega⟩, by omega, fun o ho => ?_⟩
   ·rcases h1 with rfl | h1
    ·simp
    ·exact List.mem_cons_of_mem _ h1.1
   ·rcases List.mem_cons.1 ho with rfl | ho
    ·exact h2
    ·exact h3 o ho
  ·rw [if_neg h] at h1 h2
   refine ⟨?_, h2, fun o ho => ?_⟩
   ·rcases h1 with rfl | h1
    ·exact .inl rfl
    ·exact .inr ⟨List.mem_cons_of_mem _ h1.1, h1.2⟩
   ·rcases List.mem_cons.1 ho with rfl | ho
    ·omega
    ·exact h3 o ho
theorem bst_is (l : List OptV) : bstO l = none0 ∨ (bstO l ∈ l ∧ (bstO l).cost < inf) := (bst_fold l none0).1
theorem prv_fold (nb : Int) : ∀ (l : List OptV) (b : OptV), l.foldl (fun c o => if o.cost < inf ∧ o.nb = nb then o else c) b = b ∨ (l.foldl (fun c o => if o.cost < inf ∧ o.nb = nb then o else c) b ∈ l ∧ (l.foldl (fun c o => if o.cost < inf ∧ o.nb = nb then o else c) b).cost < inf ∧ (l.foldl (fun c o => if o.cost < inf ∧ o.nb = nb then o else c) b).nb = nb)
 | [], b => by simp
 | a :: l, b => by
  rw [List.foldl_cons]
  have h1 := prv_fold nb l (if a.cost < inf ∧ a.nb = nb then a else b)
  generalize l.foldl (fun c o => if o.cost < inf ∧ o.nb = nb then o else c) (if a.cost < inf ∧ a.nb = nb then a else b) = r at *
  by_cases h : a.cost < inf ∧ a.nb = nb
  ·rw [if_pos h] at h1
   rcases h1 with rfl | h1
   ·exact .inr ⟨by simp, h⟩
   ·exact .inr ⟨List.mem_cons_of_mem _ h1.1, h1.2⟩
  ·rw [if_neg h] at h1
   rcases h1 with rfl | h1
   ·exact .inl rfl
   ·exact .inr ⟨List.mem_cons_of_mem _ h1.1, h1.2⟩
theorem prv_is (nb : Int) (l : List OptV) : prvO nb l = none0 ∨ (prvO nb l ∈ l ∧ (prvO nb l).cost < inf ∧ (prvO nb l).nb = nb) := prv_fold nb l none0
theorem choB_is (now : Int) (old : ChoV) (b c : OptV) : ∃ q, (q = b ∨ q = c) ∧ (choB now old b c).nb = q.nb ∧ (choB now old b c).cost = q.cost := by
 unfold choB
 repeat' split
 all_goals first | exact ⟨b, .inl rfl, rfl, rfl⟩ | exact ⟨c, .inr rfl, rfl, rfl⟩
theorem choose_is {now : Int} {old : ChoV} {l : List OptV} (h : (chooseV now old l).nb ≠ 0) : ∃ q ∈ l, q.cost < inf ∧ (chooseV now old l).nb = q.nb ∧ (chooseV now old l).cost = q.cost := by
 obtain ⟨q, h1, h2, h3⟩ := choB_is now old (bstO l) (prvO old.nb l)
 have h4 : (chooseV now old l).nb = q.nb := h2
 have hq : q ≠ none0 := fun e => h (by rw [h4, e];rfl)
 rcases h1 with rfl | rfl
 ·have := (bst_is l).resolve_left hq
  exact ⟨_, this.1, this.2, h2, h3⟩
 ·have := (prv_is old.nb l).resolve_left hq
  exact ⟨_, this.1, this.2.1, h2, h3⟩
theorem mem_opts {now : Int} {s : List SrcV} {cm : List (Int × Int)} {t : DstV} {l : List RouV} {q : OptV} : q ∈ optsV now s cm t l ↔ ∃ r ∈ l, r.to = t ∧ optV now s cm t r = some q := by
 unfold optsV
 simp only [List.mem_filterMap, List.mem_filter, decide_eq_true_eq, and_assoc]
theorem optV_is {now : Int} {s : List SrcV} {cm : List (Int × Int)} {t : DstV} {r : RouV} {q : OptV} : optV now s cm t r = some q ↔ ∃ c, getA r.nb cm = some c ∧ now < r.til ∧ feasV s now t r.said = true ∧ q = ⟨r.nb, addM r.said.met c⟩ := by
 unfold optV
 cases hc : getA r.nb cm with
 | none => simp
 | some c =>
  dsimp only
  by_cases h : r.til ≤ now
  ·simp [h]
   intro _ _
   omega
  ·cases hf : feasV s now t r.said
   ·simp [h]
   ·simp [h]
    constructor
    ·rintro rfl
     exact ⟨by omega, rfl⟩
    ·exact fun h => h.2.symm
theorem asc_one {α : Type} {cm : α → α → Int} {l : List α} (h : AscC cm l) {a b : α} (ha : a ∈ l) (hb : b ∈ l) (hab : ¬ cm a b < 0) (hba : ¬ cm b a < 0) : a = b := by
 obtain ⟨i, hi, rfl⟩ := List.mem_iff_getElem.1 ha
 obtain ⟨j, hj, rfl⟩ := List.mem_iff_getElem.1 hb
 rcases Nat.lt_trichotomy i j with e | e | e
 ·exact absurd (List.pairwise_iff_getElem.1 h i j hi hj e) hab
 ·subst e;rfl
 ·exact absurd (List.pairwise_iff_getElem.1 h j i hj hi e) hba
theorem rou_one {l : List RouV} (hi : ∀ x ∈ l, IsRo x) (h : validRs l = true) {a b : RouV} (ha : a ∈ l) (hb : b ∈ l) (e : a.to = b.to) (e2 : a.nb = b.nb) : a = b := by
 have h0 : cmpR a b = 0 := (cmpR_zero (hi a ha).1 (hi b hb).1).2 ⟨e, e2⟩
 have h1 := cmpR_anti a b
 exact asc_one (validRs_iff.1 h).2.2 ha hb (by omega) (by omega)
theorem said_fold (x : Int) (d : DisV) : ∀ (l : List RouV) (m : List (Int × DisV)), (∀ r ∈ l, r.nb = x → r.said = d) → ((∃ r ∈ l, r.nb = x) ∨ getA x m = some d) → getA x (l.foldl (fun m r => putA r.nb r.said m) m) = some d
 | [], m, _, h => h.resolve_left (by simp)
 | r :: l, m, hd, h => by
  rw [List.foldl_cons]
  refine said_fold x d l _ (fun r hr => hd r (List.mem_cons_of_mem _ hr)) ?_
  rw [getA_put]
  by_cases e : x = r.nb
  ·rw [if_pos e, hd r (by simp) e.symm]
   exact .inr rfl
  ·rw [if_neg e]
   rcases h with ⟨r', h1, h2⟩ | h
   ·rcases List.mem_cons.1 h1 with rfl | h1
    ·exact absurd h2.symm e
    ·exact .inl ⟨r', h1, h2⟩
   ·exact .inr h
theorem said_at {now : Int} {s : List SrcV} {cm : List (Int × Int)} {t : DstV} {l : List RouV} (hi : ∀ x ∈ l, IsRo x) (h : validRs l = true) {r : RouV} (hr : r ∈ l) (ht : r.to = t) {q : OptV} (hq : optV now s cm t r = some q) : getA r.nb (saidV now s cm t l) = some r.said := by
 refine said_fold _ _ _ _ (fun r' hr' e => ?_) (.inl ⟨r, ?_, rfl⟩)
 ·simp only [List.mem_filter, decide_eq_true_eq] at hr'
  rw [rou_one hi h hr'.1.1 hr (by rw [hr'.1.2, ht]) e]
 ·simp only [List.mem_filter, decide_eq_true_eq]
  exact ⟨⟨hr, ht⟩, by rw [hq];rfl⟩
theorem selE_to {now : Int} {s : List SrcV} {cm : List (Int × Int)} {t : DstV} {l : List RouV} {old : List InsV} {x : InsV} (h : selE now l s cm old t = some x) : x.to = t := by
 unfold selE aftV at h
 dsimp only at h
 split at h
 ·cases h;rfl
 ·cases ho : oldV old t with
  | none => rw [ho] at h;cases h
  | some o =>
   have h2 : o.to = t := of_decide_eq_true (by simpa using List.find?_some ho)
   rw [ho] at h
   dsimp only at h
   split at h
   ·cases h;rfl
   ·split at h
    ·cases h;exact h2
    ·cases h
theorem lkC_pos (c : Int) : 1 ≤ lkC c ∧ c ≤ lkC c := by
 unfold lkC
 split <;> omega
theorem addM_lt {a b : Int} (h : addM a b < inf) : addM a b = a + b ∧ b < inf ∧ 0 ≤ a ∧ 0 ≤ b := by
 unfold addM at h ⊢
 split at h
 ·rename_i h2
  rw [if_pos h2]
  unfold validM at h2
  simp only [Bool.and_eq_true, decide_eq_true_eq] at h2
  unfold inf at *
  omega
 ·omega
/-- a reachable one rests on a route -/
theorem feas_law {now : Int} {l : List RouV} {s : List SrcV} {o : List OptV} {old : List InsV} (hi : ∀ x ∈ l, IsRo x) (hl : validRs l = true) {x : InsV} (hx : x ∈ selV now l s o old) (hnb : x.nb ≠ 0) :
  ∃ y ∈ l, ∃ z ∈ o, y.to = x.to ∧ y.nb = x.nb ∧ now < y.til ∧ z.nb = x.nb ∧ z.cost < inf ∧ feasV s now x.to y.said = true ∧ y.said.met < x.own.met ∧ x.own.seq = y.said.seq := by
 obtain ⟨t, _, h⟩ := List.mem_filterMap.1 hx
 have ht := selE_to h
 unfold selE aftV at h
 dsimp only at h
 split at h
 ·rename_i hc
  obtain ⟨q, hq, hqc, e1, e2⟩ := choose_is hc
  obtain ⟨r, hr, hrt, ho⟩ := mem_opts.1 hq
  have hsaid := said_at hi hl hr hrt ho
  obtain ⟨c, hc1, hc2, hc3, rfl⟩ := optV_is.1 ho
  obtain ⟨z, hz, hz1, rfl⟩ := costM_mem hc1
  dsimp only at e1 e2 hqc
  obtain ⟨g1, g2, g3, g4⟩ := addM_lt hqc
  have g5 := lkC_pos z.cost
  rw [e1, e2, hsaid] at h
  cases h
  refine ⟨r, hr, z, hz, hrt, rfl, hc2, hz1, by omega, hc3, ?_, rfl⟩
  dsimp only
  omega
 ·cases ho : oldV old t with
  | none => rw [ho] at h;cases h
  | some o =>
   rw [ho] at h
   dsimp only at h
   split at h
   ·cases h
    exact absurd rfl hnb
   ·rename_i h0
    split at h
    ·cases h
     exact absurd (by simpa using h0) hnb
    ·cases h
theorem mem_dests {l : List RouV} {old : List InsV} (hi : ∀ x ∈ l, IsRo x) (ho : ∀ x ∈ old, IsIn x) {t : DstV} : t ∈ destsV l old ↔ (∃ r ∈ l, r.to = t) ∨ ∃ x ∈ old, x.to = t := by
 unfold destsV
 rw [(foldr_insD (l := allD l old) (fun x hx => by
  unfold allD at hx
  rcases List.mem_append.1 hx with h | h
  ·obtain ⟨r, hr, rfl⟩ := List.mem_map.1 h
   exact (hi r hr).1
  ·obtain ⟨r, hr, rfl⟩ := List.mem_map.1 h
   exact (ho r hr).1)).2]
 unfold allD
 simp only [List.mem_append, List.mem_map]
end Go.Proofs.YtilgoepokaaleaaGreat
/-! ZN -/
namespace Go.Proofs.YtilgoepokaaleaaGreat
set_option linter.unusedVariables false
set_option linter.unusedSimpArgs false
open Go.RowKit
attribute [local irreducible] OpTo wpListIn Code.wpIn MW Cal
set_option maxHeartbeats 16000000 in
theorem refvalidS_c (l : List SrcV) (hx : ∀ x ∈ l, IsSr x) (v : Value) (W : World) (hS : SlAt W 38 v l.length (srsC l)) :
  Cal Tryz.prog 55 [v].toArray W fun r w' => r = .bool (validSs l) ∧ Ext [] W w' := by
 obtain ⟨q, cap, rfl, _⟩ := id hS
 have hm := hS.memB [] (by simp)
 unfold validSs
 generalize hV : vldL 256 src1 cmpS l = b0
 refine g_start (n := 64) (S := []) fldT_ok slcT_ok Tryz.func55 rfl rfl rfl ?_
 by_cases c0 : 256 < l.length
 ·refine gR 13 rfl ?_
  refine g_ifT rfl (decide_eq_true (by omega)) ?_
  refine gR 7 rfl ?_
  refine g_ret1 rfl rfl rfl fun w M => ?_
  exact vl_L hV c0 M.ext
 refine gR 13 rfl ?_
 refine g_ifF rfl (decide_eq_false (by omega)) ?_
 refine gR 11 rfl ?_
 refine g_loop (ι := Nat) ⟨fun (i : Nat) => l.length - i, fun (i : Nat) => i ≤ l.length ∧ (∀ j, j < i → vld1 src1 cmpS l j = true), fun (i : Nat) => [(9, .int .i64 i), (8, .int .i64 l.length), (7, .slice q l.length cap), (0, .slice q l.length cap)], fun (i : Nat) => []⟩ 0 ⟨by omega, by omega⟩ (fun a F => F.only [9, 8, 7, 0] rfl) (by repeat (first | exact .refl _ | apply sC2 | apply sC1)) ?_
 rintro i ⟨hi_i, hv⟩
 by_cases hlt_i : i < l.length
 ·obtain ⟨b, o, cs, t', fz, rfl, hb, hs⟩ := hm (by omega)
  obtain ⟨x, hx0⟩ : ∃ x, x = l[i] := ⟨_, rfl⟩
  have hxm : x ∈ l := by rw [hx0];exact List.getElem_mem hlt_i
  have hxi : IsSr x := hx _ hxm
  have f1 : seg cs (o + (i : Int).toNat * 38) 38 = some (srC x) := by rw [hx0];exact seg_el (srs_len hx) hs hlt_i (by omega)
  replace hx0 := hx0.symm
  have xd : IsDv x.to := hxi.1
  by_cases hi0 : 0 < i
  ·obtain ⟨y, hy0⟩ : ∃ y, y = l[i - 1]'(by omega) := ⟨_, rfl⟩
   have yI : IsSr y := by rw [hy0];exact hx _ (List.getElem_mem _)
   have f2 : seg cs (o + ((i : Int) - 1).toNat * 38) 38 = some (srC y) := by rw [hy0];exact seg_el (srs_len hx) hs (show i - 1 < l.length by omega) (by omega)
   replace hy0 := hy0.symm
   have yd : IsDv y.to := yI.1
   refine gR 6 rfl ?_
   refine g_ifT rfl (decide_eq_true (by omega)) ?_
   refine gR 15 rfl ?_
   refine g_ixS rfl rfl (by omega) (by omega) ?_
   refine gR 1 rfl ?_
   refine g_leA rfl ‹_› (sg_seg f1 (sr_to ‹_›) (by omega)) ?_
   refine g_call rfl rfl (fun w M => rvalidTo_c _ ‹_› _) ?_
   refine gR 2 rfl ?_
   refine g_split 19 rfl (fun h1 => ?_) (fun h1 => ?_)
   ·skip
    replace h1 := false_of_not h1
    refine gR 38 rfl ?_
    refine g_outR ?_
    refine gR 2 rfl ?_
    refine g_ret1 rfl rfl rfl fun w M => ?_
    exact vl_F hV hlt_i hx0.symm (by first | assumption | (unfold src1;simp [*];done) | (unfold src1 finD inf;simp [*])) M.ext
   ·skip
    replace h1 := true_of_not h1
    refine gR 2 rfl ?_
    refine g_ixS rfl rfl (by omega) (by omega) ?_
    refine gR 1 rfl ?_
    refine g_leA rfl ‹_› (sg_seg f1 (sr_bst ‹_›) (by omega)) ?_
    refine g_call rfl rfl (fun w M => rdvalid_c _ _) ?_
    refine gR 3 rfl ?_
    refine g_split 28 rfl (fun h2 => ?_) (fun h2 => ?_)
    ·skip
     replace h2 := false_of_not h2
     refine gR 29 rfl ?_
     refine g_outR ?_
     refine gR 2 rfl ?_
     refine g_ret1 rfl rfl rfl fun w M => ?_
     exact vl_F hV hlt_i hx0.symm (by first | assumption | (unfold src1;simp [*];done) | (unfold src1 finD inf;simp [*])) M.ext
    ·skip
     replace h2 := true_of_not h2
     refine gR 2 rfl ?_
     refine g_ixS rfl rfl (by omega) (by omega) ?_
     refine gR 2 rfl ?_
     refine g_le1 rfl ‹_› (sg_nth f1 (sr_bst_met ‹_›) (by omega)) ?_
     refine gR 3 rfl ?_
     refine g_split 37 rfl (fun h3 => ?_) (fun h3 => ?_)
     ·skip
      replace h3 := of_decide_eq_true h3
      refine gR 20 rfl ?_
      refine g_outR ?_
      refine gR 2 rfl ?_
      refine g_ret1 rfl rfl rfl fun w M => ?_
      exact vl_F hV hlt_i hx0.symm (by first | assumption | (unfold src1;simp [*];done) | (unfold src1 finD inf;simp [*])) M.ext
     ·skip
      replace h3 := of_decide_eq_false h3
      refine gR 2 rfl ?_
      refine g_ixS rfl rfl (by omega) (by omega) ?_
      refine gR 1 rfl ?_
      refine g_le1 rfl ‹_› (sg_nth f1 (sr_til ‹_›) (by omega)) ?_
      refine g_call rfl rfl (fun w M => risTime_c _ _) ?_
      refine gR 4 rfl ?_
      refine g_if rfl (fun h4 => ?_) (fun h4 => ?_)
      ·skip
       replace h4 := false_of_not h4
       refine gR 9 rfl ?_
       refine g_outR ?_
       refine gR 2 rfl ?_
       refine g_ret1 rfl rfl rfl fun w M => ?_
       exact vl_F hV hlt_i hx0.symm (by first | assumption | (unfold src1;simp [*];done) | (unfold src1 finD inf;simp [*])) M.ext
      ·skip
       replace h4 := true_of_not h4
       refine gR 3 rfl ?_
       refine g_draw 17 64 rfl (by kernel_rfl) ?_
       refine fR 3 rfl ?_
       refine fd_know 48 rfl (decide_eq_true (by omega)) ?_
       refine fR 2 rfl ?_
       refine fd_sub rfl rfl (w_i64 (by omega) (by omega)) ?_
       refine fd_ixS rfl rfl (by omega) (by omega) ?_
       refine fR 1 rfl ?_
       refine fd_leA rfl ‹_› (sg_seg f2 (sr_to ‹_›) (by omega)) ?_
       refine fR 2 rfl ?_
       refine fd_ixS rfl rfl (by omega) (by omega) ?_
       refine fR 1 rfl ?_
       refine fd_leA rfl ‹_› (sg_seg f1 (sr_to ‹_›) (by omega)) ?_
       refine fd_call rfl rfl (fun w M => rcompare_c _ _ ‹_› ‹_› _) ?_
       refine fR 2 rfl ?_
       refine fd_done rfl rfl ?_
       refine gR 2 rfl ?_
       refine g_if rfl (fun h5 => ?_) (fun h5 => ?_)
       ·skip
        replace h5 := of_decide_eq_true h5
        refine gR 8 rfl ?_
        refine g_outR ?_
        refine gR 2 rfl ?_
        refine g_ret1 rfl rfl rfl fun w M => ?_
        exact vl_S hV hlt_i hi0 hx0.symm hy0.symm (by unfold cmpS;omega) M.ext
       ·skip
        replace h5 := of_decide_eq_false h5
        refine gR 4 rfl ?_
        refine g_add rfl rfl (w_i64 (by omega) (by omega)) ?_
        refine gR 2 rfl ?_
        exact g_next (i + 1) ⟨by omega, vl_N hlt_i hx0.symm hv (by first | assumption | (unfold src1;simp [*];done) | (unfold src1 finD inf;simp [*])) fun _ => by rw [hy0];exact (by unfold cmpS;omega)⟩ (by dsimp only;omega) (fun a F => F.only [9, 8, 7, 0] rfl) (by (try dsimp only);repeat (first | exact .refl _ | with_reducible exact sC0 _ | with_reducible apply sC2 | apply sC1))
  ·refine gR 6 rfl ?_
   refine g_ifT rfl (decide_eq_true (by omega)) ?_
   refine gR 15 rfl ?_
   refine g_ixS rfl rfl (by omega) (by omega) ?_
   refine gR 1 rfl ?_
   refine g_leA rfl ‹_› (sg_seg ‹_› (sr_to ‹_›) (by omega)) ?_
   refine g_call rfl rfl (fun w M => rvalidTo_c _ ‹_› _) ?_
   refine gR 2 rfl ?_
   refine g_split 19 rfl (fun h1 => ?_) (fun h1 => ?_)
   ·skip
    replace h1 := false_of_not h1
    refine gR 38 rfl ?_
    refine g_outR ?_
    refine gR 2 rfl ?_
    refine g_ret1 rfl rfl rfl fun w M => ?_
    exact vl_F hV hlt_i hx0.symm (by first | assumption | (unfold src1;simp [*];done) | (unfold src1 finD inf;simp [*])) M.ext
   ·skip
    replace h1 := true_of_not h1
    refine gR 2 rfl ?_
    refine g_ixS rfl rfl (by omega) (by omega) ?_
    refine gR 1 rfl ?_
    refine g_leA rfl ‹_› (sg_seg ‹_› (sr_bst ‹_›) (by omega)) ?_
    refine g_call rfl rfl (fun w M => rdvalid_c _ _) ?_
    refine gR 3 rfl ?_
    refine g_split 28 rfl (fun h2 => ?_) (fun h2 => ?_)
    ·skip
     replace h2 := false_of_not h2
     refine gR 29 rfl ?_
     refine g_outR ?_
     refine gR 2 rfl ?_
     refine g_ret1 rfl rfl rfl fun w M => ?_
     exact vl_F hV hlt_i hx0.symm (by first | assumption | (unfold src1;simp [*];done) | (unfold src1 finD inf;simp [*])) M.ext
    ·skip
     replace h2 := true_of_not h2
     refine gR 2 rfl ?_
     refine g_ixS rfl rfl (by omega) (by omega) ?_
     refine gR 2 rfl ?_
     refine g_le1 rfl ‹_› (sg_nth ‹_› (sr_bst_met ‹_›) (by omega)) ?_
     refine gR 3 rfl ?_
     refine g_split 37 rfl (fun h3 => ?_) (fun h3 => ?_)
     ·skip
      replace h3 := of_decide_eq_true h3
      refine gR 20 rfl ?_
      refine g_outR ?_
      refine gR 2 rfl ?_
      refine g_ret1 rfl rfl rfl fun w M => ?_
      exact vl_F hV hlt_i hx0.symm (by first | assumption | (unfold src1;simp [*];done) | (unfold src1 finD inf;simp [*])) M.ext
     ·skip
      replace h3 := of_decide_eq_false h3
      refine gR 2 rfl ?_
      refine g_ixS rfl rfl (by omega) (by omega) ?_
      refine gR 1 rfl ?_
      refine g_le1 rfl ‹_› (sg_nth ‹_› (sr_til ‹_›) (by omega)) ?_
      refine g_call rfl rfl (fun w M => risTime_c _ _) ?_
      refine gR 4 rfl ?_
      refine g_if rfl (fun h4 => ?_) (fun h4 => ?_)
      ·skip
       replace h4 := false_of_not h4
       refine gR 9 rfl ?_
       refine g_outR ?_
       refine gR 2 rfl ?_
       refine g_ret1 rfl rfl rfl fun w M => ?_
       exact vl_F hV hlt_i hx0.symm (by first | assumption | (unfold src1;simp [*];done) | (unfold src1 finD inf;simp [*])) M.ext
      ·skip
       replace h4 := true_of_not h4
       refine gR 3 rfl ?_
       refine g_draw 17 64 rfl (by kernel_rfl) ?_
       refine fR 3 rfl ?_
       refine fd_know 48 rfl (decide_eq_false (by omega)) ?_
       refine fR 14 rfl ?_
       refine fd_done rfl rfl ?_
       refine gR 7 rfl ?_
       refine g_add rfl rfl (w_i64 (by omega) (by omega)) ?_
       refine gR 2 rfl ?_
       exact g_next (i + 1) ⟨by omega, vl_N hlt_i hx0.symm hv (by first | assumption | (unfold src1;simp [*];done) | (unfold src1 finD inf;simp [*])) fun h => absurd h hi0⟩ (by dsimp only;omega) (fun a F => F.only [9, 8, 7, 0] rfl) (by (try dsimp only);repeat (first | exact .refl _ | with_reducible exact sC0 _ | with_reducible apply sC2 | apply sC1))
 ·have hil : i = l.length := by omega
  rw [hil] at hv
  refine gR 6 rfl ?_
  refine g_ifF rfl (decide_eq_false (by omega)) ?_
  refine gR 2 rfl ?_
  refine g_outX ?_
  refine gR 8 rfl ?_
  refine g_ret1 rfl rfl rfl fun w M => ?_
  exact vl_T hV (by omega) hv M.ext
end Go.Proofs.YtilgoepokaaleaaGreat
/-! ZP -/
namespace Go.Proofs.YtilgoepokaaleaaGreat
set_option linter.unusedVariables false
set_option linter.unusedSimpArgs false
open Go.RowKit
attribute [local irreducible] OpTo wpListIn Code.wpIn MW Cal
def rfindV (l : List SrcV) (now : Int) (t : DstV) : Option DisV := if validSs l && isTime now then bestS l now t else none
def cmpQR (x y : DisV) : Int := if newerV x.seq y.seq || (decide (x.seq = y.seq) && decide (x.met < y.met)) then -1 else if x = y then 0 else 1
theorem newerV_self (x : Int) : newerV x x = false := by
 unfold newerV
 rw [Int.sub_self]
 rfl
theorem cmpQR_is (x y : DisV) : cmpQR x y = cmpQ x y := by
 unfold cmpQR cmpQ betterV
 by_cases h : x = y
 ·subst h
  simp [newerV_self]
 ·simp [h]
theorem wrap16_bd (d : Int) : 0 ≤ IntKind.u16.wrap d ∧ IntKind.u16.wrap d ≤ 65535 := by
 have h : IntKind.u16.wrap d = d % 65536 := rfl
 omega
theorem and_i64 {d : Int} (h0 : 0 ≤ d) (h1 : d ≤ 65535) : bitsOf .and .i64 d 65535 = d := by
 obtain ⟨n, rfl⟩ := Int.eq_ofNat_of_zero_le h0
 have hn : n < 65536 := by omega
 simp only [bitsOf]
 rw [ofInt_u _ (by omega), ofInt_u _ (by omega), BitVec.toNat_and, BitVec.toNat_ofNat, BitVec.toNat_ofNat]
 have hb : IntKind.i64.bits = 64 := rfl
 simp only [Int.toNat_natCast, hb]
 rw [Nat.mod_eq_of_lt (by omega), show (65535 : Int).toNat % 2 ^ 64 = 2 ^ 16 - 1 from rfl, Nat.and_two_pow_sub_one_eq_mod, Nat.mod_eq_of_lt (by omega)]
 exact w_i64 (by omega) (by omega)
theorem rnewer_c (x y : Int) (W : World) : Cal Tryz.prog 135 [.int .u16 x, .int .u16 y].toArray W fun v w' => v = .bool (newerV x y) ∧ Ext [] W w' := by
 obtain ⟨d, hd⟩ : ∃ d, d = IntKind.u16.wrap (x - y) := ⟨_, rfl⟩
 have hb := wrap16_bd (x - y)
 have hn : newerV x y = ((decide (1 ≤ d) && decide (d < 32768)) || (decide (d = 32768) && decide (y < x))) := by rw [hd];rfl
 rw [hn]
 rw [← hd] at hb
 have ha := and_i64 hb.1 hb.2
 refine fn_ofM (n := 26) [] Tryz.func135 rfl rfl rfl ?_
 intro a w F M hwW
 refine c_seq (c_region ?_)
 refine sD F (o_assign (F.e rfl) ?_);clear F a;intro a F
 with_reducible refine l_nil (q_then (c_seq (c_region ?_)))
 refine sD F (o_move (F.e rfl) ?_);clear F a;intro a F
 refine sD F (o_move (F.e rfl) ?_);clear F a;intro a F
 refine sD F (o_sub (F.e rfl) (F.e rfl) rfl ?_);clear F a;intro a F
 rw [← hd] at F
 refine sD F (o_conv (F.e rfl) (w_i64 (by omega) (by omega)) ?_);clear F a;intro a F
 refine sD F (o_and (F.e rfl) (F.e rfl) rfl ?_);clear F a;intro a F
 rw [ha] at F
 clear hd hn ha
 refine sD F (o_assign (F.e rfl) ?_);clear F a;intro a F
 with_reducible refine l_nil (q_then (c_seq (c_region ?_)))
 refine sD F (o_move (F.e rfl) ?_);clear F a;intro a F
 refine sD F (o_geq (F.e rfl) (F.e rfl) ?_);clear F a;intro a F
 refine sD F (o_move (F.e rfl) ?_);clear F a;intro a F
 refine b_split F 13 rfl (fun h1 => ?_) (fun h1 => ?_)
 ·skip
  rw [h1] at F;replace h1 := of_decide_eq_true h1
  refine sG F (o_move (F.e rfl) ?_);clear F a;intro a F
  refine sG F (o_lss (F.e rfl) (F.e rfl) ?_);clear F a;intro a F
  refine sD F (o_pickT (F.e rfl) (F.e rfl) ?_);clear F a;intro a F
  refine sD F (o_move (F.e rfl) ?_);clear F a;intro a F
  refine b_split F 17 rfl (fun h2 => ?_) (fun h2 => ?_)
  ·skip
   rw [h2] at F;replace h2 := of_decide_eq_true h2
   refine sO F ?_;clear F a;intro a F
   refine sO F ?_;clear F a;intro a F
   refine sO F ?_;clear F a;intro a F
   refine sO F ?_;clear F a;intro a F
   refine sO F ?_;clear F a;intro a F
   refine sO F ?_;clear F a;intro a F
   refine sO F ?_;clear F a;intro a F
   refine sD F (o_pickT (F.e rfl) (F.e rfl) ?_);clear F a;intro a F
   refine sD F (o_assign (F.e rfl) ?_);clear F a;intro a F
   with_reducible refine l_nil (q_then (c_ret ?_))
   refine p_ret F rfl (.cons (.tmp (F.e rfl)) .nil) ?_;(try dsimp only [oneOr])
   exact ⟨by simp [*], M.ext⟩
  ·skip
   rw [h2] at F;replace h2 := of_decide_eq_false h2
   refine sG F (o_move (F.e rfl) ?_);clear F a;intro a F
   refine sG F (o_eql (F.e rfl) (F.e rfl) ?_);clear F a;intro a F
   refine sG F (o_move (F.e rfl) ?_);clear F a;intro a F
   refine b_split F 20 rfl (fun h3 => ?_) (fun h3 => ?_)
   ·skip
    rw [h3] at F;replace h3 := of_decide_eq_true h3
    refine sG F (o_move (F.e rfl) ?_);clear F a;intro a F
    refine sG F (o_move (F.e rfl) ?_);clear F a;intro a F
    refine sG F (o_gtr (F.e rfl) (F.e rfl) ?_);clear F a;intro a F
    refine sG F (o_pickT (F.e rfl) (F.e rfl) ?_);clear F a;intro a F
    refine sD F (o_pickF (F.e rfl) (F.e rfl) ?_);clear F a;intro a F
    refine sD F (o_assign (F.e rfl) ?_);clear F a;intro a F
    with_reducible refine l_nil (q_then (c_ret ?_))
    refine p_ret F rfl (.cons (.tmp (F.e rfl)) .nil) ?_;(try dsimp only [oneOr])
    exact ⟨by simp [*], M.ext⟩
   ·skip
    rw [h3] at F;replace h3 := of_decide_eq_false h3
    refine sO F ?_;clear F a;intro a F
    refine sO F ?_;clear F a;intro a F
    refine sO F ?_;clear F a;intro a F
    refine sG F (o_pickF (F.e rfl) (F.e rfl) ?_);clear F a;intro a F
    refine sD F (o_pickF (F.e rfl) (F.e rfl) ?_);clear F a;intro a F
    refine sD F (o_assign (F.e rfl) ?_);clear F a;intro a F
    with_reducible refine l_nil (q_then (c_ret ?_))
    refine p_ret F rfl (.cons (.tmp (F.e rfl)) .nil) ?_;(try dsimp only [oneOr])
    exact ⟨by simp [*], M.ext⟩
 ·skip
  rw [h1] at F;replace h1 := of_decide_eq_false h1
  refine sO F ?_;clear F a;intro a F
  refine sO F ?_;clear F a;intro a F
  refine sD F (o_pickF (F.e rfl) (F.e rfl) ?_);clear F a;intro a F
  refine sD F (o_move (F.e rfl) ?_);clear F a;intro a F
  refine sG F (o_move (F.e rfl) ?_);clear F a;intro a F
  refine sG F (o_eqlF (F.e rfl) (F.e rfl) (by omega) ?_);clear F a;intro a F
  refine sG F (o_move (F.e rfl) ?_);clear F a;intro a F
  refine sO F ?_;clear F a;intro a F
  refine sO F ?_;clear F a;intro a F
  refine sO F ?_;clear F a;intro a F
  refine sG F (o_pickF (F.e rfl) (F.e rfl) ?_);clear F a;intro a F
  refine sD F (o_pickF (F.e rfl) (F.e rfl) ?_);clear F a;intro a F
  refine sD F (o_assign (F.e rfl) ?_);clear F a;intro a F
  with_reducible refine l_nil (q_then (c_ret ?_))
  refine p_ret F rfl (.cons (.tmp (F.e rfl)) .nil) ?_;(try dsimp only [oneOr])
  exact ⟨by simp [*];omega, M.ext⟩
theorem rsqcmp_c (x y : DisV) (W : World) : Cal Tryz.prog 106 [.agg (diC x).toArray, .agg (diC y).toArray].toArray W fun v w' => v = .int .i64 (cmpQR x y) ∧ Ext [] W w' := by
 unfold cmpQR
 refine fn_ofM (n := 27) [] Tryz.func106 rfl rfl rfl ?_
 intro a w F M hwW
 refine c_seq (c_region ?_)
 refine sD F (o_box M (F.e rfl) rfl ?_);clear F M;intro b2 w M a F
 refine sD F (o_box M (F.e rfl) rfl ?_);clear F M;intro b3 w M a F
 refine sD F (o_assign (F.e rfl) ?_);clear F a;intro a F
 with_reducible refine l_nil (q_then (c_seq (c_seq (c_region ?_))))
 refine sD F (o_fieldAddr (F.e rfl) ?_);clear F a;intro a F
 refine sD F (o_load1 M (F.e rfl) (by repeat constructor) (di_seq (by first | assumption | trivial | exact And.left ‹_›)) ?_);clear F a;intro a F
 refine sD F (o_fieldAddr (F.e rfl) ?_);clear F a;intro a F
 refine sD F (o_load1 M (F.e rfl) (by repeat constructor) (di_seq (by first | assumption | trivial | exact And.left ‹_›)) ?_);clear F a;intro a F
 refine sD F (o_call (F.e rfl) (F.evs rfl) (Cal.mono (rnewer_c _ _ _) ?_));clear F;clear a;rintro _ w ⟨rfl, hE⟩ a F;replace M := M.later hE;clear hE
 refine sD F (o_move (F.e rfl) ?_);clear F a;intro a F
 refine b_split F 10 rfl (fun h1 => ?_) (fun h1 => ?_)
 ·skip
  rw [h1] at F
  refine sO F ?_;clear F a;intro a F
  refine sO F ?_;clear F a;intro a F
  refine sO F ?_;clear F a;intro a F
  refine sO F ?_;clear F a;intro a F
  refine sO F ?_;clear F a;intro a F
  refine sO F ?_;clear F a;intro a F
  refine sO F ?_;clear F a;intro a F
  refine sO F ?_;clear F a;intro a F
  refine sO F ?_;clear F a;intro a F
  refine sO F ?_;clear F a;intro a F
  refine sO F ?_;clear F a;intro a F
  refine sO F ?_;clear F a;intro a F
  refine sD F (o_pickT (F.e rfl) (F.e rfl) ?_);clear F a;intro a F
  with_reducible refine l_nil (q_then ?_)
  refine c_true F rfl rfl ?_
  refine c_seq (c_region ?_)
  refine sD F (o_assign (F.e rfl) ?_);clear F a;intro a F
  with_reducible refine l_nil (q_then (c_ret (q_thenR ?_)))
  refine p_ret F rfl (.cons (.tmp (F.e rfl)) .nil) ?_;(try dsimp only [oneOr])
  exact ⟨by simp [*], M.ext⟩
 ·skip
  rw [h1] at F
  refine sG F (o_fieldAddr (F.e rfl) ?_);clear F a;intro a F
  refine sG F (o_load1 M (F.e rfl) (by repeat constructor) (di_seq (by first | assumption | trivial | exact And.left ‹_›)) ?_);clear F a;intro a F
  refine sG F (o_fieldAddr (F.e rfl) ?_);clear F a;intro a F
  refine sG F (o_load1 M (F.e rfl) (by repeat constructor) (di_seq (by first | assumption | trivial | exact And.left ‹_›)) ?_);clear F a;intro a F
  refine sG F (o_eql (F.e rfl) (F.e rfl) ?_);clear F a;intro a F
  refine sG F (o_move (F.e rfl) ?_);clear F a;intro a F
  refine b_split F 16 rfl (fun h2 => ?_) (fun h2 => ?_)
  ·skip
   rw [h2] at F;replace h2 := of_decide_eq_true h2
   refine sG F (o_fieldAddr (F.e rfl) ?_);clear F a;intro a F
   refine sG F (o_load1 M (F.e rfl) (by repeat constructor) (di_met (by first | assumption | trivial | exact And.left ‹_›)) ?_);clear F a;intro a F
   refine sG F (o_fieldAddr (F.e rfl) ?_);clear F a;intro a F
   refine sG F (o_load1 M (F.e rfl) (by repeat constructor) (di_met (by first | assumption | trivial | exact And.left ‹_›)) ?_);clear F a;intro a F
   refine sG F (o_lss (F.e rfl) (F.e rfl) ?_);clear F a;intro a F
   refine sG F (o_pickT (F.e rfl) (F.e rfl) ?_);clear F a;intro a F
   refine sD F (o_pickF (F.e rfl) (F.e rfl) ?_);clear F a;intro a F
   with_reducible refine l_nil (q_then ?_)
   refine c_if F rfl (fun h3 => ?_) (fun h3 => ?_)
   ·skip
    rw [h3] at F;replace h3 := of_decide_eq_true h3
    refine c_seq (c_region ?_)
    refine sD F (o_assign (F.e rfl) ?_);clear F a;intro a F
    with_reducible refine l_nil (q_then (c_ret (q_thenR ?_)))
    refine p_ret F rfl (.cons (.tmp (F.e rfl)) .nil) ?_;(try dsimp only [oneOr])
    exact ⟨by simp [*], M.ext⟩
   ·skip
    rw [h3] at F;replace h3 := of_decide_eq_false h3
    with_reducible refine c_skip (q_then (c_seq (c_seq (c_region ?_))))
    refine sD F (o_loadA M (F.e rfl) (by repeat constructor) (di_all (by first | assumption | trivial | exact And.left ‹_›)) ?_);clear F a;intro a F
    refine sD F (o_loadA M (F.e rfl) (by repeat constructor) (di_all (by first | assumption | trivial | exact And.left ‹_›)) ?_);clear F a;intro a F
    refine sD F (o_eqlAE (F.e rfl) (F.e rfl) (di_fits (by first | assumption | trivial | exact And.left ‹_›)) (di_fits (by first | assumption | trivial | exact And.left ‹_›)) (di_eq (by first | assumption | trivial | exact And.left ‹_›) (by first | assumption | trivial | exact And.left ‹_›)) ?_);clear F a;intro a F
    with_reducible refine l_nil (q_then ?_)
    refine c_if F rfl (fun h4 => ?_) (fun h4 => ?_)
    ·skip
     rw [h4] at F;replace h4 := of_decide_eq_true h4
     refine c_seq (c_region ?_)
     refine sD F (o_assign (F.e rfl) ?_);clear F a;intro a F
     with_reducible refine l_nil (q_then (c_ret (q_thenR ?_)))
     refine p_ret F rfl (.cons (.tmp (F.e rfl)) .nil) ?_;(try dsimp only [oneOr])
     exact ⟨by simp [*, newerV_self], M.ext⟩
    ·skip
     rw [h4] at F;replace h4 := of_decide_eq_false h4
     with_reducible refine c_skip (q_then (c_seq (c_region ?_)))
     refine sD F (o_assign (F.e rfl) ?_);clear F a;intro a F
     with_reducible refine l_nil (q_then (c_ret ?_))
     refine p_ret F rfl (.cons (.tmp (F.e rfl)) .nil) ?_;(try dsimp only [oneOr])
     exact ⟨by simp [*, newerV_self], M.ext⟩
  ·skip
   rw [h2] at F;replace h2 := of_decide_eq_false h2
   refine sO F ?_;clear F a;intro a F
   refine sO F ?_;clear F a;intro a F
   refine sO F ?_;clear F a;intro a F
   refine sO F ?_;clear F a;intro a F
   refine sO F ?_;clear F a;intro a F
   refine sG F (o_pickF (F.e rfl) (F.e rfl) ?_);clear F a;intro a F
   refine sD F (o_pickF (F.e rfl) (F.e rfl) ?_);clear F a;intro a F
   with_reducible refine l_nil (q_then ?_)
   refine c_false F rfl rfl ?_
   with_reducible refine c_skip (q_then (c_seq (c_seq (c_region ?_))))
   refine sD F (o_loadA M (F.e rfl) (by repeat constructor) (di_all (by first | assumption | trivial | exact And.left ‹_›)) ?_);clear F a;intro a F
   refine sD F (o_loadA M (F.e rfl) (by repeat constructor) (di_all (by first | assumption | trivial | exact And.left ‹_›)) ?_);clear F a;intro a F
   refine sD F (o_eqlAE (F.e rfl) (F.e rfl) (di_fits (by first | assumption | trivial | exact And.left ‹_›)) (di_fits (by first | assumption | trivial | exact And.left ‹_›)) (di_eq (by first | assumption | trivial | exact And.left ‹_›) (by first | assumption | trivial | exact And.left ‹_›)) ?_);clear F a;intro a F
   with_reducible refine l_nil (q_then ?_)
   refine c_if F rfl (fun h3 => ?_) (fun h3 => ?_)
   ·skip
    rw [h3] at F;replace h3 := of_decide_eq_true h3
    refine c_seq (c_region ?_)
    refine sD F (o_assign (F.e rfl) ?_);clear F a;intro a F
    with_reducible refine l_nil (q_then (c_ret (q_thenR ?_)))
    refine p_ret F rfl (.cons (.tmp (F.e rfl)) .nil) ?_;(try dsimp only [oneOr])
    exact ⟨by simp [*, newerV_self], M.ext⟩
   ·skip
    rw [h3] at F;replace h3 := of_decide_eq_false h3
    with_reducible refine c_skip (q_then (c_seq (c_region ?_)))
    refine sD F (o_assign (F.e rfl) ?_);clear F a;intro a F
    with_reducible refine l_nil (q_then (c_ret ?_))
    refine p_ret F rfl (.cons (.tmp (F.e rfl)) .nil) ?_;(try dsimp only [oneOr])
    exact ⟨by simp [*], M.ext⟩
theorem rlower_c (x y : DisV) (W : World) : Cal Tryz.prog 85 [.agg (diC x).toArray, .agg (diC y).toArray].toArray W fun v w' => v = .agg (diC (if cmpQR x y = -1 then x else y)).toArray ∧ Ext [] W w' := by
 refine fn_ofM (n := 11) [] Tryz.func85 rfl rfl rfl ?_
 intro a w F M hwW
 refine c_seq (c_region ?_)
 refine sD F (o_box M (F.e rfl) rfl ?_);clear F M;intro b2 w M a F
 refine sD F (o_box M (F.e rfl) rfl ?_);clear F M;intro b3 w M a F
 refine sD F (o_alloc M ?_);clear F M;intro b4 w M a F
 with_reducible refine l_nil (q_then (c_seq (c_seq (c_region ?_))))
 refine sD F (o_loadA M (F.e rfl) (by repeat constructor) (di_all (by first | assumption | trivial | exact And.left ‹_›)) ?_);clear F a;intro a F
 refine sD F (o_loadA M (F.e rfl) (by repeat constructor) (di_all (by first | assumption | trivial | exact And.left ‹_›)) ?_);clear F a;intro a F
 refine sD F (o_call (F.e rfl) (F.evs rfl) (Cal.mono (rsqcmp_c _ _ _) ?_));clear F;clear a;rintro _ w ⟨rfl, hE⟩ a F;replace M := M.later hE;clear hE
 refine sD F (o_eql (F.e rfl) (F.e rfl) ?_);clear F a;intro a F
 with_reducible refine l_nil (q_then ?_)
 refine c_if F rfl (fun h1 => ?_) (fun h1 => ?_)
 ·skip
  rw [h1] at F;replace h1 := of_decide_eq_true h1
  refine c_seq (c_region ?_)
  refine sD F (o_loadA M (F.e rfl) (by repeat constructor) (di_all (by first | assumption | trivial | exact And.left ‹_›)) ?_);clear F a;intro a F
  refine stepN rfl F (o_storeA M (F.e rfl) (F.e rfl) (di_len (by first | assumption | trivial | exact And.left ‹_›)) (di_one _) (by repeat constructor) (put_all (by rw [(di_len (by first | assumption | trivial | exact And.left ‹_›))];first | rfl | rw [(di_len (by first | assumption | trivial | exact And.left ‹_›))])) (by repeat constructor) ?_);clear F M;intro w M a F
  with_reducible refine l_nil (q_then (c_ret (q_thenR ?_)))
  refine p_ret F rfl (.cons (.cell (F.e rfl) (run_loadVar_agg TAgg.h (M.heap (by repeat constructor)) (di_all (by first | assumption | trivial | exact And.left ‹_›)))) .nil) ?_;(try dsimp only [oneOr])
  exact ⟨by simp [*], M.ext⟩
 ·skip
  rw [h1] at F;replace h1 := of_decide_eq_false h1
  with_reducible refine c_skip (q_then (c_seq (c_region ?_)))
  refine sD F (o_loadA M (F.e rfl) (by repeat constructor) (di_all (by first | assumption | trivial | exact And.left ‹_›)) ?_);clear F a;intro a F
  refine stepN rfl F (o_storeA M (F.e rfl) (F.e rfl) (di_len (by first | assumption | trivial | exact And.left ‹_›)) (di_one _) (by repeat constructor) (put_all (by rw [(di_len (by first | assumption | trivial | exact And.left ‹_›))];first | rfl | rw [(di_len (by first | assumption | trivial | exact And.left ‹_›))])) (by repeat constructor) ?_);clear F M;intro w M a F
  with_reducible refine l_nil (q_then (c_ret ?_))
  refine p_ret F rfl (.cons (.cell (F.e rfl) (run_loadVar_agg TAgg.h (M.heap (by repeat constructor)) (di_all (by first | assumption | trivial | exact And.left ‹_›)))) .nil) ?_;(try dsimp only [oneOr])
  exact ⟨by simp [*], M.ext⟩
set_option maxHeartbeats 2000000 in
theorem rfind_c (l : List SrcV) (hx : ∀ x ∈ l, IsSr x) (v : Value) (now : Int) (t : DstV) (ht : IsDv t) (W : World) (hS : SlAt W 38 v l.length (srsC l)) :
  Cal Tryz.prog 58 [v, .int .i64 now, .agg (dvC t).toArray].toArray W fun r w' => r = .tuple [diV ((rfindV l now t).getD di0), .bool (rfindV l now t).isSome].toArray ∧ Ext [] W w' := by
 obtain ⟨q, cap, rfl, hcap, hsp, hll, hm⟩ := id hS
 have c1 : ∀ w, rfindV l now t = none → Ext [] W w → Value.tuple [.agg [.int .u16 0, .int .i64 0].toArray, .bool false].toArray = .tuple [diV ((rfindV l now t).getD di0), .bool (rfindV l now t).isSome].toArray ∧ Ext [] W w := fun w h E => by
  rw [h]
  exact ⟨rfl, E⟩
 have c2 : ∀ w d, rfindV l now t = some d → Ext [] W w → Value.tuple [.agg (diC d).toArray, .bool true].toArray = .tuple [diV ((rfindV l now t).getD di0), .bool (rfindV l now t).isSome].toArray ∧ Ext [] W w := fun w d h E => by
  rw [h]
  exact ⟨rfl, E⟩
 refine fn_ofM (n := 39) [] Tryz.func58 rfl rfl rfl ?_
 intro a w F M hwW
 refine c_seq (c_region ?_)
 refine sD F (o_box M (F.e rfl) rfl ?_);clear F M;intro b5 w M a F
 refine sD F (o_alloc M ?_);clear F M;intro b6 w M a F
 refine sD F (o_assign (F.e rfl) ?_);clear F a;intro a F
 with_reducible refine l_nil (q_then (c_seq (c_seq (c_region ?_))))
 refine sD F (o_move (F.e rfl) ?_);clear F a;intro a F
 refine sD F (o_call (F.e rfl) (F.evs rfl) (Cal.mono (refvalidS_c _ (by first | assumption | omega | exact And.left ‹_› | exact (by assumption : SlAt _ _ _ _ _).later M.ext | exact TapeS.later ‹_› M.ext | exact M.heap (by repeat constructor) | decide) _ _ (by first | assumption | omega | exact And.left ‹_› | exact (by assumption : SlAt _ _ _ _ _).later M.ext | exact TapeS.later ‹_› M.ext | exact M.heap (by repeat constructor) | decide)) ?_));clear F;clear a;rintro _ w ⟨rfl, hE⟩ a F;replace M := M.later hE;clear hE
 refine sD F (o_not (F.e rfl) ?_);clear F a;intro a F
 refine sD F (o_move (F.e rfl) ?_);clear F a;intro a F
 refine b_split F 13 rfl (fun h1 => ?_) (fun h1 => ?_)
 ·skip
  rw [h1] at F;replace h1 := false_of_not h1;(try rw [h1] at F)
  refine sO F ?_;clear F a;intro a F
  refine sO F ?_;clear F a;intro a F
  refine sO F ?_;clear F a;intro a F
  refine sD F (o_pickT (F.e rfl) (F.e rfl) ?_);clear F a;intro a F
  with_reducible refine l_nil (q_then ?_)
  refine c_true F rfl rfl ?_
  refine c_seq (c_region ?_)
  refine sD F (o_build F rfl rfl ?_);clear F a;intro a F
  refine stepN rfl F (o_storeA M (F.e rfl) (F.e rfl) (by rfl) (by rfl) (by repeat constructor) (by rfl) (by repeat constructor) ?_);clear F M;intro w M a F
  refine sD F (o_assign (F.e rfl) ?_);clear F a;intro a F
  with_reducible refine l_nil (q_then (c_ret (q_thenR ?_)))
  refine p_ret F rfl (.cons (.cell (F.e rfl) (run_loadVar_agg TAgg.h (M.heap (by repeat constructor)) rfl)) (.cons (.tmp (F.e rfl)) .nil)) ?_;(try dsimp only [oneOr])
  exact c1 _ (by unfold rfindV;simp [*]) M.ext
 rw [h1] at F;replace h1 := true_of_not h1;(try rw [h1] at F)
 refine sG F (o_move (F.e rfl) ?_);clear F a;intro a F
 refine sG F (o_call (F.e rfl) (F.evs rfl) (Cal.mono (risTime_c _ _) ?_));clear F;clear a;rintro _ w ⟨rfl, hE⟩ a F;replace M := M.later hE;clear hE
 refine sG F (o_not (F.e rfl) ?_);clear F a;intro a F
 refine sD F (o_pickF (F.e rfl) (F.e rfl) ?_);clear F a;intro a F
 with_reducible refine l_nil (q_then ?_)
 refine c_if F rfl (fun h2 => ?_) (fun h2 => ?_)
 ·skip
  rw [h2] at F;replace h2 := false_of_not h2;(try rw [h2] at F)
  refine c_seq (c_region ?_)
  refine sD F (o_build F rfl rfl ?_);clear F a;intro a F
  refine stepN rfl F (o_storeA M (F.e rfl) (F.e rfl) (by rfl) (by rfl) (by repeat constructor) (by rfl) (by repeat constructor) ?_);clear F M;intro w M a F
  refine sD F (o_assign (F.e rfl) ?_);clear F a;intro a F
  with_reducible refine l_nil (q_then (c_ret (q_thenR ?_)))
  refine p_ret F rfl (.cons (.cell (F.e rfl) (run_loadVar_agg TAgg.h (M.heap (by repeat constructor)) rfl)) (.cons (.tmp (F.e rfl)) .nil)) ?_;(try dsimp only [oneOr])
  exact c1 _ (by unfold rfindV;simp [*]) M.ext
 rw [h2] at F;replace h2 := true_of_not h2;(try rw [h2] at F)
 with_reducible refine c_skip (q_then (c_seq (c_seq (c_region ?_))))
 refine sD F (o_move (F.e rfl) ?_);clear F a;intro a F
 refine sD F (o_lenSl (F.e rfl) ?_);clear F a;intro a F
 refine sD F (o_move (F.e rfl) ?_);clear F a;intro a F
 with_reducible refine l_nil (q_then (c_block ?_))
 obtain ⟨hl256, _, _⟩ := validSs_iff.1 h1
 obtain ⟨R, hR⟩ : ∃ R, (l.drop 0).find? (hitS now t) = R := ⟨_, rfl⟩
 have hV : rfindV l now t = R.map (·.bst) := by rw [← hR];unfold rfindV;rw [h1, h2];rfl
 refine c_loop (fun m a w => ∃ (i : Nat) , m = l.length - i ∧ i ≤ l.length ∧ ((l.drop i).find? (hitS now t) = R) ∧ Frm a 39 [] [(21, .int .i64 i), (20, .int .i64 l.length), (19, .slice q l.length cap), (1, .int .i64 now), (5, .pointer (some ⟨b5, 0, none⟩)), (6, .pointer (some ⟨b6, 0, none⟩))] ∧ Mem [] W w [(b6, .cells [Value.int .u16 0, .int .i64 0].toArray 48 (0, 0)), (b5, .cells (dvC t).toArray 45 (0, 0))]) l.length ⟨0, rfl, by omega, hR, F.only [21, 20, 19, 1, 5, 6] rfl, M.sub (by repeat (first | exact .refl _ | apply sC2 | apply sC1))⟩ ?_
 clear F M a w
 rintro m a w ⟨i, hm', hi, hf, F, M⟩
 by_cases hlt : i < l.length
 ·obtain ⟨b, o, cs, t', fz, rfl, hb, hs⟩ := hm (by omega)
  obtain ⟨y, hy0⟩ : ∃ y, y = l[i] := ⟨_, rfl⟩
  have hyi : IsSr y := by rw [hy0];exact hx _ (List.getElem_mem hlt)
  have f1 : seg cs (o + (i : Int).toNat * 38) 38 = some (srC y) := by rw [hy0];exact seg_el (srs_len hx) hs hlt (by omega)
  rw [← List.getElem_cons_drop hlt, ← hy0] at hf
  clear hy0
  rw [List.find?_cons] at hf
  refine c_seq (c_region ?_)
  refine sD F (o_lssT (F.e rfl) (F.e rfl) (by omega) ?_);clear F a;intro a F
  with_reducible refine l_nil (q_then (c_seq ?_))
  refine c_true F rfl rfl ?_
  with_reducible refine c_skip (q_then (c_seq (c_block (c_seq (c_region ?_)))))
  refine sD F (o_indexSl (F.e rfl) (F.e rfl) (by omega) (by omega) ?_);clear F a;intro a F
  refine sD F (o_loadWA M (F.e rfl) ‹_› ‹_› ?_);clear F a;intro a F
  refine sD F (o_alloc M ?_);clear F M;intro b9 w M a F
  refine stepN rfl F (o_storeA M (F.e rfl) (F.e rfl) (sr_len (by first | assumption | trivial | exact And.left ‹_›)) (sr_one _) (by repeat constructor) (put_all (by rw [(sr_len (by first | assumption | trivial | exact And.left ‹_›))];first | rfl | rw [(sr_len (by first | assumption | trivial | exact And.left ‹_›))])) (by repeat constructor) ?_);clear F M;intro w M a F
  with_reducible refine l_nil (q_then (c_seq (c_region ?_)))
  refine sD F (o_fieldAddr (F.e rfl) ?_);clear F a;intro a F
  refine sD F (o_loadA M (F.e rfl) (by repeat constructor) (sr_to (by first | assumption | trivial | exact And.left ‹_›)) ?_);clear F a;intro a F
  refine sD F (o_loadA M (F.e rfl) (by repeat constructor) (dv_all (by first | assumption | trivial | exact And.left ‹_›)) ?_);clear F a;intro a F
  refine sD F (o_eqlAE (F.e rfl) (F.e rfl) (dv_fits (by first | assumption | trivial | exact And.left ‹_›)) (dv_fits (by first | assumption | trivial | exact And.left ‹_›)) (dv_eq (by first | assumption | trivial | exact And.left ‹_›) (by first | assumption | trivial | exact And.left ‹_›)) ?_);clear F a;intro a F
  refine sD F (o_move (F.e rfl) ?_);clear F a;intro a F
  refine b_split F 29 rfl (fun h1 => ?_) (fun h1 => ?_)
  ·skip
   rw [h1] at F;replace h1 := of_decide_eq_true h1
   refine sG F (o_fieldAddr (F.e rfl) ?_);clear F a;intro a F
   refine sG F (o_load1 M (F.e rfl) (by repeat constructor) (sr_til (by first | assumption | trivial | exact And.left ‹_›)) ?_);clear F a;intro a F
   refine sG F (o_move (F.e rfl) ?_);clear F a;intro a F
   refine sG F (o_gtr (F.e rfl) (F.e rfl) ?_);clear F a;intro a F
   refine sD F (o_pickT (F.e rfl) (F.e rfl) ?_);clear F a;intro a F
   with_reducible refine l_nil (q_then ?_)
   refine c_if F rfl (fun h2 => ?_) (fun h2 => ?_)
   ·skip
    rw [h2] at F;replace h2 := of_decide_eq_true h2
    refine c_seq (c_region ?_)
    refine sD F (o_fieldAddr (F.e rfl) ?_);clear F a;intro a F
    refine sD F (o_loadA M (F.e rfl) (by repeat constructor) (sr_bst (by first | assumption | trivial | exact And.left ‹_›)) ?_);clear F a;intro a F
    refine stepN rfl F (o_storeA M (F.e rfl) (F.e rfl) (di_len (by first | assumption | trivial | exact And.left ‹_›)) (di_one _) (by repeat constructor) (put_all (by rw [(di_len (by first | assumption | trivial | exact And.left ‹_›))];first | rfl | rw [(di_len (by first | assumption | trivial | exact And.left ‹_›))])) (by repeat constructor) ?_);clear F M;intro w M a F
    refine sD F (o_assign (F.e rfl) ?_);clear F a;intro a F
    with_reducible refine l_nil (q_then (c_ret (q_inBR (q_thenR (q_thenR (q_inBR (q_thenR ?_)))))))
    refine p_ret F rfl (.cons (.cell (F.e rfl) (run_loadVar_agg TAgg.h (M.heap (by repeat constructor)) (di_all (by first | assumption | trivial | exact And.left ‹_›)))) (.cons (.tmp (F.e rfl)) .nil)) ?_;(try dsimp only [oneOr])
    exact c2 _ _ (by rw [hV, ← hf];simp [hitS, *]) M.ext
   ·skip
    rw [h2] at F;replace h2 := of_decide_eq_false h2
    with_reducible refine c_skip (q_inB (q_then (c_region ?_)))
    refine sD F (o_add (F.e rfl) (F.e rfl) (w_i64 (by omega) (by omega)) ?_);clear F a;intro a F
    refine sD F (o_move (F.e rfl) ?_);clear F a;intro a F
    with_reducible refine l_nil (q_then ?_)
    exact ⟨_, by omega, i + 1, rfl, by omega, by rw [← hf];simp [hitS, *], F.only [21, 20, 19, 1, 5, 6] rfl, M.sub (by repeat (first | exact .refl _ | apply sC1))⟩
  ·skip
   rw [h1] at F;replace h1 := of_decide_eq_false h1
   refine sO F ?_;clear F a;intro a F
   refine sO F ?_;clear F a;intro a F
   refine sO F ?_;clear F a;intro a F
   refine sO F ?_;clear F a;intro a F
   refine sD F (o_pickF (F.e rfl) (F.e rfl) ?_);clear F a;intro a F
   with_reducible refine l_nil (q_then ?_)
   refine c_false F rfl rfl ?_
   with_reducible refine c_skip (q_inB (q_then (c_region ?_)))
   refine sD F (o_add (F.e rfl) (F.e rfl) (w_i64 (by omega) (by omega)) ?_);clear F a;intro a F
   refine sD F (o_move (F.e rfl) ?_);clear F a;intro a F
   with_reducible refine l_nil (q_then ?_)
   exact ⟨_, by omega, i + 1, rfl, by omega, by rw [← hf];simp [hitS, *], F.only [21, 20, 19, 1, 5, 6] rfl, M.sub (by repeat (first | exact .refl _ | apply sC1))⟩
 ·obtain rfl : i = l.length := by omega
  rw [List.drop_length] at hf
  refine c_seq (c_region ?_)
  refine sD F (o_lssF (F.e rfl) (F.e rfl) (by omega) ?_);clear F a;intro a F
  with_reducible refine l_nil (q_then (c_seq ?_))
  refine c_false F rfl rfl ?_
  with_reducible refine c_exit (q_thenX (q_thenX (q_inBX (q_then (c_seq (c_region ?_))))))
  refine sD F (o_build F rfl rfl ?_);clear F a;intro a F
  refine stepN rfl F (o_storeA M (F.e rfl) (F.e rfl) (by rfl) (by rfl) (by repeat constructor) (by rfl) (by repeat constructor) ?_);clear F M;intro w M a F
  refine sD F (o_assign (F.e rfl) ?_);clear F a;intro a F
  with_reducible refine l_nil (q_then (c_ret ?_))
  refine p_ret F rfl (.cons (.cell (F.e rfl) (run_loadVar_agg TAgg.h (M.heap (by repeat constructor)) rfl)) (.cons (.tmp (F.e rfl)) .nil)) ?_;(try dsimp only [oneOr])
  exact c1 _ (by rw [hV, ← hf];rfl) M.ext
end Go.Proofs.YtilgoepokaaleaaGreat
/-! ZO -/
namespace Go.Proofs.YtilgoepokaaleaaGreat
set_option linter.unusedVariables false
set_option linter.unusedSimpArgs false
open Go.RowKit
attribute [local irreducible] OpTo wpListIn Code.wpIn MW Cal
theorem cmpL_ge {a b x : List Int} (h : cmpL a b < 0) (k : 0 ≤ cmpL a x) : 0 < cmpL b x := by
 have h1 := cmpL_anti a x
 have h2 := cmpL_anti b x
 rcases Int.lt_or_le 0 (cmpL a x) with h3 | h3
 ·have := cmpL_lt_trans (show cmpL x a < 0 by omega) h
  omega
 ·have h4 := cmpL_zero (show cmpL a x = 0 by omega)
  subst h4
  omega
theorem putR_merge {l : List RouV} {x : RouV} {g : Bool} (h : AscC cmpR l) : mergeG (fun y => cmpR y x) x g l = putR l x g := by
 rw [mergeG_is]
 ·rfl
 ·exact h.imp fun {a b} h k => cmpL_ge h k
end Go.Proofs.YtilgoepokaaleaaGreat
/-! ZQ -/
namespace Go.Proofs.YtilgoepokaaleaaGreat
set_option linter.unusedVariables false
set_option linter.unusedSimpArgs false
open Go.RowKit
attribute [local irreducible] OpTo wpListIn Code.wpIn MW Cal
def lowQ (x y : DisV) : DisV := if cmpQR x y = -1 then x else y
def newS (l : List SrcV) (now : Int) (t : DstV) (d : DisV) : SrcV := ⟨t, (match bestS l now t with | none => d | some b => lowQ d b), laterV now 20⟩
def putS (l : List SrcV) (x : SrcV) : List SrcV := l.filter (fun y => decide (cmpD y.to x.to < 0)) ++ ([x] ++ l.filter (fun y => decide (0 < cmpD y.to x.to)))
def recordV (l : List SrcV) (now : Int) (t : DstV) (d : DisV) : List SrcV × Int :=
 if !validSs l || !validT t || !validM d.met || decide (d.met = 65535) then ([], 1) else if !isTime now then ([], 2)
 else if 256 < (putS l (newS l now t d)).length then ([], 10) else (putS l (newS l now t d), 0)
theorem putS_merge {l : List SrcV} {x : SrcV} (h : AscC cmpS l) : mergeG (fun y => cmpD y.to x.to) x false l = putS l x := by
 rw [mergeG_is]
 ·rfl
 ·exact h.imp fun {a b} h k => cmpL_ge h k
set_option maxHeartbeats 8000000 in
theorem rrecord_c (l : List SrcV) (hx : ∀ x ∈ l, IsSr x) (v : Value) (now : Int) (t : DstV) (ht : IsDv t) (d : DisV) (W : World) (hS : SlAt W 38 v l.length (srsC l)) :
  Cal Tryz.prog 36 [v, .int .i64 now, .agg (dvC t).toArray, .agg (diC d).toArray].toArray W fun r w' => ∃ u ent, r = .tuple [u, .int .i64 (recordV l now t d).2].toArray ∧ OwnS 133 38 u (recordV l now t d).1.length (srsC (recordV l now t d).1) ent ∧ Mem [] W w' ent := by
 obtain ⟨q, cap, rfl, hcap, hsp, hll, hm⟩ := id hS
 have c1 : ∀ n u, recordV l now t d = ([], n) → u = .slice none 0 0 → ∀ w, Ext [] W w → ∃ u' ent, Value.tuple [u, .int .i64 n].toArray = .tuple [u', .int .i64 (recordV l now t d).2].toArray ∧ OwnS 133 38 u' (recordV l now t d).1.length (srsC (recordV l now t d).1) ent ∧ Mem [] W w ent := by
  rintro n _ h rfl w E
  rw [h]
  exact ⟨_, [], rfl, OwnS.nil _ _, Mem.nil E⟩
 obtain ⟨z, hz⟩ : ∃ z, z = (rfindV l now t).getD di0 := ⟨_, rfl⟩
 obtain ⟨k, hk⟩ : ∃ k, k = (rfindV l now t).isSome := ⟨_, rfl⟩
 refine fn_ofM (n := 92) [] Tryz.func36 rfl rfl rfl ?_
 intro a w F M hwW
 refine c_seq (c_region ?_)
 refine sD F (o_box M (F.e rfl) rfl ?_);clear F M;intro b6 w M a F
 refine sD F (o_box M (F.e rfl) rfl ?_);clear F M;intro b7 w M a F
 refine sD F (o_assign (F.e rfl) ?_);clear F a;intro a F
 refine sD F (o_assign (F.e rfl) ?_);clear F a;intro a F
 with_reducible refine l_nil (q_then (c_seq (c_seq (c_region ?_))))
 refine sD F (o_move (F.e rfl) ?_);clear F a;intro a F
 refine sD F (o_call (F.e rfl) (F.evs rfl) (Cal.mono (refvalidS_c _ (by first | assumption | omega | exact And.left ‹_› | exact (by assumption : SlAt _ _ _ _ _).later M.ext | exact TapeS.later ‹_› M.ext | exact M.heap (by repeat constructor) | decide) _ _ (by first | assumption | omega | exact And.left ‹_› | exact (by assumption : SlAt _ _ _ _ _).later M.ext | exact TapeS.later ‹_› M.ext | exact M.heap (by repeat constructor) | decide)) ?_));clear F;clear a;rintro _ w ⟨rfl, hE⟩ a F;replace M := M.later hE;clear hE
 refine sD F (o_not (F.e rfl) ?_);clear F a;intro a F
 refine sD F (o_move (F.e rfl) ?_);clear F a;intro a F
 refine b_split F 21 rfl (fun h1 => ?_) (fun h1 => ?_)
 ·skip
  rw [h1] at F;replace h1 := false_of_not h1;(try rw [h1] at F)
  refine sO F ?_;clear F a;intro a F
  refine sO F ?_;clear F a;intro a F
  refine sO F ?_;clear F a;intro a F
  refine sD F (o_pickT (F.e rfl) (F.e rfl) ?_);clear F a;intro a F
  refine sD F (o_move (F.e rfl) ?_);clear F a;intro a F
  refine sO F ?_;clear F a;intro a F
  refine sO F ?_;clear F a;intro a F
  refine sO F ?_;clear F a;intro a F
  refine sD F (o_pickT (F.e rfl) (F.e rfl) ?_);clear F a;intro a F
  refine sD F (o_move (F.e rfl) ?_);clear F a;intro a F
  refine sO F ?_;clear F a;intro a F
  refine sO F ?_;clear F a;intro a F
  refine sO F ?_;clear F a;intro a F
  refine sD F (o_pickT (F.e rfl) (F.e rfl) ?_);clear F a;intro a F
  with_reducible refine l_nil (q_then ?_)
  refine c_true F rfl rfl ?_
  refine c_seq (c_region ?_)
  refine sD F (o_assign (F.e rfl) ?_);clear F a;intro a F
  refine sD F (o_assign (F.e rfl) ?_);clear F a;intro a F
  with_reducible refine l_nil (q_then (c_ret (q_thenR ?_)))
  refine p_ret F rfl (.cons (.tmp (F.e rfl)) (.cons (.tmp (F.e rfl)) .nil)) ?_;(try dsimp only [oneOr])
  exact c1 _ _ (by unfold recordV;simp [*]) rfl _ M.ext
 rw [h1] at F;replace h1 := true_of_not h1;(try rw [h1] at F)
 refine sG F (o_loadA M (F.e rfl) (by repeat constructor) (dv_all (by first | assumption | trivial | exact And.left ‹_›)) ?_);clear F a;intro a F
 refine sG F (o_call (F.e rfl) (F.evs rfl) (Cal.mono (rvalidTo_c _ (by first | assumption | omega | exact And.left ‹_› | exact (by assumption : SlAt _ _ _ _ _).later M.ext | exact TapeS.later ‹_› M.ext | exact M.heap (by repeat constructor) | decide) _) ?_));clear F;clear a;rintro _ w ⟨rfl, hE⟩ a F;replace M := M.later hE;clear hE
 refine sG F (o_not (F.e rfl) ?_);clear F a;intro a F
 refine sD F (o_pickF (F.e rfl) (F.e rfl) ?_);clear F a;intro a F
 refine sD F (o_move (F.e rfl) ?_);clear F a;intro a F
 refine b_split F 26 rfl (fun h2 => ?_) (fun h2 => ?_)
 ·skip
  rw [h2] at F;replace h2 := false_of_not h2;(try rw [h2] at F)
  refine sO F ?_;clear F a;intro a F
  refine sO F ?_;clear F a;intro a F
  refine sO F ?_;clear F a;intro a F
  refine sD F (o_pickT (F.e rfl) (F.e rfl) ?_);clear F a;intro a F
  refine sD F (o_move (F.e rfl) ?_);clear F a;intro a F
  refine sO F ?_;clear F a;intro a F
  refine sO F ?_;clear F a;intro a F
  refine sO F ?_;clear F a;intro a F
  refine sD F (o_pickT (F.e rfl) (F.e rfl) ?_);clear F a;intro a F
  with_reducible refine l_nil (q_then ?_)
  refine c_true F rfl rfl ?_
  refine c_seq (c_region ?_)
  refine sD F (o_assign (F.e rfl) ?_);clear F a;intro a F
  refine sD F (o_assign (F.e rfl) ?_);clear F a;intro a F
  with_reducible refine l_nil (q_then (c_ret (q_thenR ?_)))
  refine p_ret F rfl (.cons (.tmp (F.e rfl)) (.cons (.tmp (F.e rfl)) .nil)) ?_;(try dsimp only [oneOr])
  exact c1 _ _ (by unfold recordV;simp [*]) rfl _ M.ext
 rw [h2] at F;replace h2 := true_of_not h2;(try rw [h2] at F)
 refine sG F (o_loadA M (F.e rfl) (by repeat constructor) (di_all (by first | assumption | trivial | exact And.left ‹_›)) ?_);clear F a;intro a F
 refine sG F (o_call (F.e rfl) (F.evs rfl) (Cal.mono (rdvalid_c _ _) ?_));clear F;clear a;rintro _ w ⟨rfl, hE⟩ a F;replace M := M.later hE;clear hE
 refine sG F (o_not (F.e rfl) ?_);clear F a;intro a F
 refine sD F (o_pickF (F.e rfl) (F.e rfl) ?_);clear F a;intro a F
 refine sD F (o_move (F.e rfl) ?_);clear F a;intro a F
 refine b_split F 31 rfl (fun h3 => ?_) (fun h3 => ?_)
 ·skip
  rw [h3] at F;replace h3 := false_of_not h3;(try rw [h3] at F)
  refine sO F ?_;clear F a;intro a F
  refine sO F ?_;clear F a;intro a F
  refine sO F ?_;clear F a;intro a F
  refine sD F (o_pickT (F.e rfl) (F.e rfl) ?_);clear F a;intro a F
  with_reducible refine l_nil (q_then ?_)
  refine c_true F rfl rfl ?_
  refine c_seq (c_region ?_)
  refine sD F (o_assign (F.e rfl) ?_);clear F a;intro a F
  refine sD F (o_assign (F.e rfl) ?_);clear F a;intro a F
  with_reducible refine l_nil (q_then (c_ret (q_thenR ?_)))
  refine p_ret F rfl (.cons (.tmp (F.e rfl)) (.cons (.tmp (F.e rfl)) .nil)) ?_;(try dsimp only [oneOr])
  exact c1 _ _ (by unfold recordV;simp [*]) rfl _ M.ext
 rw [h3] at F;replace h3 := true_of_not h3;(try rw [h3] at F)
 refine sG F (o_fieldAddr (F.e rfl) ?_);clear F a;intro a F
 refine sG F (o_load1 M (F.e rfl) (by repeat constructor) (di_met (by first | assumption | trivial | exact And.left ‹_›)) ?_);clear F a;intro a F
 refine sG F (o_eql (F.e rfl) (F.e rfl) ?_);clear F a;intro a F
 refine sD F (o_pickF (F.e rfl) (F.e rfl) ?_);clear F a;intro a F
 with_reducible refine l_nil (q_then ?_)
 refine c_if F rfl (fun h4 => ?_) (fun h4 => ?_)
 ·skip
  rw [h4] at F;replace h4 := of_decide_eq_true h4
  refine c_seq (c_region ?_)
  refine sD F (o_assign (F.e rfl) ?_);clear F a;intro a F
  refine sD F (o_assign (F.e rfl) ?_);clear F a;intro a F
  with_reducible refine l_nil (q_then (c_ret (q_thenR ?_)))
  refine p_ret F rfl (.cons (.tmp (F.e rfl)) (.cons (.tmp (F.e rfl)) .nil)) ?_;(try dsimp only [oneOr])
  exact c1 _ _ (by unfold recordV;simp [*]) rfl _ M.ext
 rw [h4] at F;replace h4 := of_decide_eq_false h4
 with_reducible refine c_skip (q_then (c_seq (c_seq (c_region ?_))))
 refine sD F (o_move (F.e rfl) ?_);clear F a;intro a F
 refine sD F (o_call (F.e rfl) (F.evs rfl) (Cal.mono (risTime_c _ _) ?_));clear F;clear a;rintro _ w ⟨rfl, hE⟩ a F;replace M := M.later hE;clear hE
 refine sD F (o_not (F.e rfl) ?_);clear F a;intro a F
 with_reducible refine l_nil (q_then ?_)
 refine c_if F rfl (fun h5 => ?_) (fun h5 => ?_)
 ·skip
  rw [h5] at F;replace h5 := false_of_not h5;(try rw [h5] at F)
  refine c_seq (c_region ?_)
  refine sD F (o_assign (F.e rfl) ?_);clear F a;intro a F
  refine sD F (o_assign (F.e rfl) ?_);clear F a;intro a F
  with_reducible refine l_nil (q_then (c_ret (q_thenR ?_)))
  refine p_ret F rfl (.cons (.tmp (F.e rfl)) (.cons (.tmp (F.e rfl)) .nil)) ?_;(try dsimp only [oneOr])
  exact c1 _ _ (by unfold recordV;simp [*]) rfl _ M.ext
 rw [h5] at F;replace h5 := true_of_not h5;(try rw [h5] at F)
 with_reducible refine c_skip (q_then (c_seq (c_region ?_)))
 refine sD F (o_move (F.e rfl) ?_);clear F a;intro a F
 refine sD F (o_move (F.e rfl) ?_);clear F a;intro a F
 refine sD F (o_loadA M (F.e rfl) (by repeat constructor) (dv_all (by first | assumption | trivial | exact And.left ‹_›)) ?_);clear F a;intro a F
 refine sD F (o_call (F.e rfl) (F.evs rfl) (Cal.mono (rfind_c _ (by first | assumption | omega | exact And.left ‹_› | exact (by assumption : SlAt _ _ _ _ _).later M.ext | exact TapeS.later ‹_› M.ext | exact M.heap (by repeat constructor) | decide) _ _ _ (by first | assumption | omega | exact And.left ‹_› | exact (by assumption : SlAt _ _ _ _ _).later M.ext | exact TapeS.later ‹_› M.ext | exact M.heap (by repeat constructor) | decide) _ (by first | assumption | omega | exact And.left ‹_› | exact (by assumption : SlAt _ _ _ _ _).later M.ext | exact TapeS.later ‹_› M.ext | exact M.heap (by repeat constructor) | decide)) ?_));clear F;clear a;rintro _ w ⟨rfl, hE⟩ a F;replace M := M.later hE;clear hE
 refine sD F (o_move (F.e rfl) ?_);clear F a;intro a F
 refine sD F (o_extract (F.e rfl) rfl ?_);clear F a;intro a F
 refine sD F (o_extract (F.e rfl) rfl ?_);clear F a;intro a F
 refine sD F (o_alloc M ?_);clear F M;intro b10 w M a F
 refine stepN rfl F (o_storeA M (F.e rfl) (F.e rfl) (di_len (by first | assumption | trivial | exact And.left ‹_›)) (di_one _) (by repeat constructor) (put_all (by rw [(di_len (by first | assumption | trivial | exact And.left ‹_›))];first | rfl | rw [(di_len (by first | assumption | trivial | exact And.left ‹_›))])) (by repeat constructor) ?_);clear F M;intro w M a F
 refine sD F (o_assign (F.e rfl) ?_);clear F a;intro a F
 with_reducible refine l_nil (q_then (c_seq ?_))
 refine c_cut (fun a w => ∃ e : DisV, Mem [] W w [(b7, .cells (diC e).toArray 48 (0, 0)), (b6, .cells (dvC t).toArray 45 (0, 0))] ∧ Frm a 92 [] [(0, .slice q l.length cap), (1, .int .i64 now), (6, .pointer (some ⟨b6, 0, none⟩)), (7, .pointer (some ⟨b7, 0, none⟩))] ∧ e = (if k then lowQ d z else d)) ?_ ?_
 ·rw [← hz, ← hk] at F
  rw [← hz] at M
  clear hz hk
  refine c_seq (c_region ?_)
  refine sD F (o_move (F.e rfl) ?_);clear F a;intro a F
  with_reducible refine l_nil (q_then ?_)
  refine c_if F rfl (fun h1 => ?_) (fun h1 => ?_)
  ·skip
   rw [h1] at F
   refine c_region ?_
   refine sD F (o_loadA M (F.e rfl) (by repeat constructor) (di_all (by first | assumption | trivial | exact And.left ‹_›)) ?_);clear F a;intro a F
   refine sD F (o_loadA M (F.e rfl) (by repeat constructor) (di_all (by first | assumption | trivial | exact And.left ‹_›)) ?_);clear F a;intro a F
   refine sD F (o_call (F.e rfl) (F.evs rfl) (Cal.mono (rlower_c _ _ _) ?_));clear F;clear a;rintro _ w ⟨rfl, hE⟩ a F;replace M := M.later hE;clear hE
   refine stepN rfl F (o_storeA M (F.e rfl) (F.e rfl) (di_len (by first | assumption | trivial | exact And.left ‹_›)) (di_one _) (by repeat constructor) (put_all (by rw [(di_len (by first | assumption | trivial | exact And.left ‹_›))];first | rfl | rw [(di_len (by first | assumption | trivial | exact And.left ‹_›))])) (by repeat constructor) ?_);clear F M;intro w M a F
   with_reducible refine l_nil ?_
   exact ⟨_, M.sub (by repeat (first | exact .refl _ | apply sC1)), F.only [0, 1, 6, 7] rfl, by simp [*, lowQ]⟩
  ·skip
   rw [h1] at F
   with_reducible refine c_skip ?_
   exact ⟨_, M.sub (by repeat (first | exact .refl _ | apply sC1)), F.only [0, 1, 6, 7] rfl, by simp [*, lowQ]⟩
 clear F M a w
 rintro a w ⟨e, M, F, he⟩
 obtain ⟨hl256, _, hasc⟩ := validSs_iff.1 h1
 have hnw := h5
 simp only [isTime, Bool.and_eq_true, decide_eq_true_eq] at hnw
 have hV : rfindV l now t = bestS l now t := by unfold rfindV;rw [h1, h5];rfl
 have hen : e = (newS l now t d).bst := by
  rw [he, hz, hk, hV]
  unfold newS
  cases bestS l now t <;> rfl
 obtain ⟨x, hx0⟩ : ∃ x, x = newS l now t d := ⟨_, rfl⟩
 have hxt : x.to = t := by rw [hx0];rfl
 have hL : recordV l now t d = if 256 < (putS l x).length then ([], 10) else (putS l x, 0) := by
  unfold recordV
  rw [h1, h2, h3, decide_eq_false h4, h5, ← hx0]
  rfl
 have hxx : IsSr x := by rw [hx0];exact ⟨ht, trivial⟩
 have hb : putAll [(0, 35), (35, 2), (37, 1)] srZ [(0, dvC t), (1, diC e), (2, [.int .i64 (laterV now 20)])] = some (srC x) := by
  rw [hx0, hen]
  exact sr_build (o := newS l now t d) ⟨ht, trivial⟩
 clear hx0 hen he hV hz hk
 with_reducible refine q_then (c_seq ?_)
 refine c_draw 6 F (by kernel_rfl) ?_;intro w1 hE hok;have M1 := M.later hE
 refine mK hok rfl rfl (fun a' w' F' E' => o_loadA (M1.later E') (F'.e rfl) (by repeat constructor) (dv_all (by first | assumption | trivial | exact And.left ‹_›)) ⟨Ext.refl _ _, rfl⟩) ?_
 refine mK hok rfl rfl (fun a' w' F' E' => o_loadA (M1.later E') (F'.e rfl) (by repeat constructor) (di_all (by first | assumption | trivial | exact And.left ‹_›)) ⟨Ext.refl _ _, rfl⟩) ?_
 refine mK hok rfl rfl (fun a' w' F' E' => o_move (F'.e rfl) ⟨Ext.refl _ _, rfl⟩) ?_
 refine mK hok rfl rfl (fun a' w' F' E' => o_call (F'.e rfl) (F'.evs rfl) (Cal.mono (rafter_c _ _ (by first | assumption | omega | exact And.left ‹_› | exact (by assumption : SlAt _ _ _ _ _).later (M1.later E').ext | exact TapeS.later ‹_› (M1.later E').ext | exact M.heap (by repeat constructor) | decide) (by first | assumption | omega | exact And.left ‹_› | exact (by assumption : SlAt _ _ _ _ _).later (M1.later E').ext | exact TapeS.later ‹_› (M1.later E').ext | exact M.heap (by repeat constructor) | decide) (by first | assumption | omega | exact And.left ‹_› | exact (by assumption : SlAt _ _ _ _ _).later (M1.later E').ext | exact TapeS.later ‹_› (M1.later E').ext | exact M.heap (by repeat constructor) | decide) (by first | assumption | omega | exact And.left ‹_› | exact (by assumption : SlAt _ _ _ _ _).later (M1.later E').ext | exact TapeS.later ‹_› (M1.later E').ext | exact M.heap (by repeat constructor) | decide) _) fun _ _ hh => ⟨hh.2, hh.1⟩)) ?_
 refine mK hok rfl rfl (fun a' w' F' E' => o_build F' rfl ‹_› ⟨Ext.refl _ _, rfl⟩) ?_
 refine mAl hok rfl rfl (Al.stays _ _) (fun w => Ext.alloc w _) (fun a' w' F' E' => run_al) ?_
 refine mDone rfl rfl ?_;clear F M;intro a w F hE2 hX hTT hDD hPP;have M := M1.later hE2;(try dsimp only at F);obtain ⟨b12, e_b12, g_b12, q_b12⟩ := hX 5 _ rfl;replace F := F.know (d := 12) e_b12;replace M := Mem.al (pre := []) M M1 q_b12 g_b12 (by intro p hp;cases hp);clear M1;clear hX;clear hE2;clear hok;clear hE;clear hTT;clear hDD;clear hPP;clear e_b12;clear g_b12;clear q_b12;(try dsimp only [ptrTo] at F);(try simp only [List.cons_append, List.nil_append] at M)
 refine stepN rfl F (o_storeA M (F.e rfl) (F.e rfl) (sr_len (by first | assumption | trivial | exact And.left ‹_›)) (sr_one _) (by repeat constructor) (put_all (by rw [(sr_len (by first | assumption | trivial | exact And.left ‹_›))];first | rfl | rw [(sr_len (by first | assumption | trivial | exact And.left ‹_›))])) (by repeat constructor) ?_);clear F M;intro w M a F
 with_reducible refine l_nil (q_then (c_seq (c_region ?_)))
 refine sD F (o_assign (F.e rfl) ?_);clear F a;intro a F
 with_reducible refine l_nil (q_then (c_seq (c_region ?_)))
 refine sD F (o_assign (F.e rfl) ?_);clear F a;intro a F
 with_reducible refine l_nil (q_then (c_seq (c_seq (c_region ?_))))
 refine sD F (o_move (F.e rfl) ?_);clear F a;intro a F
 refine sD F (o_lenSl (F.e rfl) ?_);clear F a;intro a F
 refine sD F (o_move (F.e rfl) ?_);clear F a;intro a F
 with_reducible refine l_nil (q_then (c_block ?_))
 have hpl := mergeG_len (fun y => cmpD y.to t) x (done := false) (l := l)
 have hpl2 : (mergeG (fun y => cmpD y.to t) x false l).length ≤ 257 := by simp at hpl;omega
 rw [show putS l x = mergeG (fun y => cmpD y.to t) x false l by rw [← hxt];exact (putS_merge hasc).symm] at hL
 clear hpl hb
 generalize hR : mergeG (fun y => cmpD y.to t) x false l = R at *
 have c2 : ∀ u ent w, R.length ≤ 256 → OwnS 133 38 u R.length (srsC R) ent → Mem [] W w ent → ∃ u' ent, Value.tuple [u, .int .i64 0].toArray = .tuple [u', .int .i64 (recordV l now t d).2].toArray ∧ OwnS 133 38 u' (recordV l now t d).1.length (srsC (recordV l now t d).1) ent ∧ Mem [] W w ent := by
  intro u ent w h h2 h3
  rw [if_neg (by omega)] at hL
  rw [hL]
  exact ⟨_, _, rfl, h2, h3⟩
 refine c_loop (fun m a w => ∃ (i : Nat) (u : Value) (dn : Bool) (out : List SrcV) (es : List (Nat × Obj)), m = l.length - i ∧ i ≤ l.length ∧ (OwnS 133 38 u out.length (srsC out) es) ∧ (out ++ mergeG (fun y => cmpD y.to t) x dn (l.drop i) = R) ∧ Frm a 92 [] [(57, .int .i64 i), (56, .int .i64 l.length), (55, .slice q l.length cap), (6, .pointer (some ⟨b6, 0, none⟩)), (13, u), (14, .bool dn), (12, .pointer (some ⟨b12, 0, none⟩))] ∧ Mem [] W w ((b12, .cells (srC x).toArray 133 (0, 0)) :: (b6, .cells (dvC t).toArray 45 (0, 0)) :: es)) l.length ⟨0, _, false, [], [], rfl, by omega, OwnS.nil _ _, hR, F.only [57, 56, 55, 6, 13, 14, 12] rfl, M.sub (by repeat (first | exact .refl _ | apply sC2 | apply sC1))⟩ ?_
 clear F M a w
 rintro m a w ⟨i, u, dn, out, es, hm', hi, hOs, hout, F, M⟩
 have hol : out.length ≤ 257 := by
  have := congrArg List.length hout
  rw [List.length_append] at this
  omega
 by_cases hlt : i < l.length
 ·obtain ⟨b, o, cs, t', fz, rfl, hb, hs⟩ := hm (by omega)
  obtain ⟨y, hy0⟩ : ∃ y, y = l[i] := ⟨_, rfl⟩
  have hyi : IsSr y := by rw [hy0];exact hx _ (List.getElem_mem hlt)
  have f1 : seg cs (o + (i : Int).toNat * 38) 38 = some (srC y) := by rw [hy0];exact seg_el (srs_len hx) hs hlt (by omega)
  rw [← List.getElem_cons_drop hlt, ← hy0] at hout
  clear hy0
  rw [mergeG_cons] at hout
  have hyd : IsDv y.to := hyi.1
  refine c_seq (c_region ?_)
  refine sD F (o_lssT (F.e rfl) (F.e rfl) (by omega) ?_);clear F a;intro a F
  with_reducible refine l_nil (q_then (c_seq ?_))
  refine c_true F rfl rfl ?_
  with_reducible refine c_skip (q_then (c_seq (c_block (c_seq (c_region ?_)))))
  refine sD F (o_indexSl (F.e rfl) (F.e rfl) (by omega) (by omega) ?_);clear F a;intro a F
  refine sD F (o_loadWA M (F.e rfl) ‹_› ‹_› ?_);clear F a;intro a F
  refine sD F (o_alloc M ?_);clear F M;intro b16 w M a F
  refine stepN rfl F (o_storeA M (F.e rfl) (F.e rfl) (sr_len (by first | assumption | trivial | exact And.left ‹_›)) (sr_one _) (by repeat constructor) (put_all (by rw [(sr_len (by first | assumption | trivial | exact And.left ‹_›))];first | rfl | rw [(sr_len (by first | assumption | trivial | exact And.left ‹_›))])) (by repeat constructor) ?_);clear F M;intro w M a F
  with_reducible refine l_nil (q_then (c_seq (c_region ?_)))
  refine sD F (o_fieldAddr (F.e rfl) ?_);clear F a;intro a F
  refine sD F (o_loadA M (F.e rfl) (by repeat constructor) (sr_to (by first | assumption | trivial | exact And.left ‹_›)) ?_);clear F a;intro a F
  refine sD F (o_loadA M (F.e rfl) (by repeat constructor) (dv_all (by first | assumption | trivial | exact And.left ‹_›)) ?_);clear F a;intro a F
  refine sD F (o_call (F.e rfl) (F.evs rfl) (Cal.mono (rcompare_c _ _ (by first | assumption | omega | exact And.left ‹_› | exact (by assumption : SlAt _ _ _ _ _).later M.ext | exact TapeS.later ‹_› M.ext | exact M.heap (by repeat constructor) | decide) (by first | assumption | omega | exact And.left ‹_› | exact (by assumption : SlAt _ _ _ _ _).later M.ext | exact TapeS.later ‹_› M.ext | exact M.heap (by repeat constructor) | decide) _) ?_));clear F;clear a;rintro _ w ⟨rfl, hE⟩ a F;replace M := M.later hE;clear hE
  refine sD F (o_assign (F.e rfl) ?_);clear F a;intro a F
  with_reducible refine l_nil (q_then (c_seq (c_seq (c_region ?_))))
  refine sD F (o_move (F.e rfl) ?_);clear F a;intro a F
  refine sD F (o_geq (F.e rfl) (F.e rfl) ?_);clear F a;intro a F
  refine sD F (o_move (F.e rfl) ?_);clear F a;intro a F
  refine b_split F 67 rfl (fun h1 => ?_) (fun h1 => ?_)
  ·skip
   rw [h1] at F;replace h1 := of_decide_eq_true h1
   refine sG F (o_move (F.e rfl) ?_);clear F a;intro a F
   refine sG F (o_not (F.e rfl) ?_);clear F a;intro a F
   refine sD F (o_pickT (F.e rfl) (F.e rfl) ?_);clear F a;intro a F
   with_reducible refine l_nil (q_then ?_)
   refine c_if F rfl (fun h2 => ?_) (fun h2 => ?_)
   ·skip
    rw [h2] at F;replace h2 := false_of_not h2;(try rw [h2] at F)
    refine c_seq (c_region ?_)
    refine sD F (o_move (F.e rfl) ?_);clear F a;intro a F
    refine sD F (o_loadA M (F.e rfl) (by repeat constructor) (sr_all (by first | assumption | trivial | exact And.left ‹_›)) ?_);clear F a;intro a F
    refine sD F (o_buildSlice F M rfl rfl rfl (sr_build1 (by first | assumption | trivial | exact And.left ‹_›)) ?_);clear F M;intro bs73 w M a F
    refine sD F (o_append1 (enc := srC) ‹_› M (by repeat (first | exact .here | apply TailAt.cons)) (F.e rfl) (F.e rfl) (SrcOf.cells' (M.heap .here) (sg_all (sr_len (by first | assumption | trivial | exact And.left ‹_›))) (sr_one _)) (by first | omega | (simp;omega)) ?_);clear F M;intro v74 es74 w hO74 M a F;(try dsimp only at M)
    refine sD F (o_assign (F.e rfl) ?_);clear F a;intro a F
    with_reducible refine l_nil (q_then (c_region ?_))
    refine sD F (o_assign (F.e rfl) ?_);clear F a;intro a F
    with_reducible refine l_nil (q_then (c_seq (c_region ?_)))
    refine sD F (o_move (F.e rfl) ?_);clear F a;intro a F
    refine sD F (o_neq (F.e rfl) (F.e rfl) ?_);clear F a;intro a F
    with_reducible refine l_nil (q_then ?_)
    refine c_if F rfl (fun h3 => ?_) (fun h3 => ?_)
    ·skip
     rw [h3] at F;replace h3 := ne_of_bne h3
     refine c_region ?_
     refine sD F (o_move (F.e rfl) ?_);clear F a;intro a F
     refine sD F (o_loadA M (F.e rfl) (by repeat constructor) (sr_all (by first | assumption | trivial | exact And.left ‹_›)) ?_);clear F a;intro a F
     refine sD F (o_buildSlice F M rfl rfl rfl (sr_build1 (by first | assumption | trivial | exact And.left ‹_›)) ?_);clear F M;intro bs79 w M a F
     refine sD F (o_append1 (enc := srC) ‹_› M (by repeat (first | exact .here | apply TailAt.cons)) (F.e rfl) (F.e rfl) (SrcOf.cells' (M.heap .here) (sg_all (sr_len (by first | assumption | trivial | exact And.left ‹_›))) (sr_one _)) (by first | omega | (simp;omega)) ?_);clear F M;intro v80 es80 w hO80 M a F;(try dsimp only at M)
     refine sD F (o_assign (F.e rfl) ?_);clear F a;intro a F
     with_reducible refine l_nil (q_inB (q_then (c_region ?_)))
     refine sD F (o_add (F.e rfl) (F.e rfl) (w_i64 (by omega) (by omega)) ?_);clear F a;intro a F
     refine sD F (o_move (F.e rfl) ?_);clear F a;intro a F
     with_reducible refine l_nil (q_then ?_)
     exact ⟨_, by omega, i + 1, _, _, _, _, rfl, by omega, by assumption, by rw [← hout];clear hout hR hL c1 c2;simp [*], F.only [57, 56, 55, 6, 13, 14, 12] rfl, M.sub (by repeat (first | exact .refl _ | apply sC1))⟩
    ·skip
     rw [h3] at F;replace h3 := eq_of_bne_false h3
     with_reducible refine c_skip (q_inB (q_then (c_region ?_)))
     refine sD F (o_add (F.e rfl) (F.e rfl) (w_i64 (by omega) (by omega)) ?_);clear F a;intro a F
     refine sD F (o_move (F.e rfl) ?_);clear F a;intro a F
     with_reducible refine l_nil (q_then ?_)
     exact ⟨_, by omega, i + 1, _, _, _, _, rfl, by omega, by assumption, by rw [← hout];clear hout hR hL c1 c2;simp [*], F.only [57, 56, 55, 6, 13, 14, 12] rfl, M.sub (by repeat (first | exact .refl _ | apply sC1))⟩
   ·skip
    rw [h2] at F;replace h2 := true_of_not h2;(try rw [h2] at F)
    with_reducible refine c_skip (q_then (c_seq (c_region ?_)))
    refine sD F (o_move (F.e rfl) ?_);clear F a;intro a F
    refine sD F (o_neq (F.e rfl) (F.e rfl) ?_);clear F a;intro a F
    with_reducible refine l_nil (q_then ?_)
    refine c_if F rfl (fun h3 => ?_) (fun h3 => ?_)
    ·skip
     rw [h3] at F;replace h3 := ne_of_bne h3
     refine c_region ?_
     refine sD F (o_move (F.e rfl) ?_);clear F a;intro a F
     refine sD F (o_loadA M (F.e rfl) (by repeat constructor) (sr_all (by first | assumption | trivial | exact And.left ‹_›)) ?_);clear F a;intro a F
     refine sD F (o_buildSlice F M rfl rfl rfl (sr_build1 (by first | assumption | trivial | exact And.left ‹_›)) ?_);clear F M;intro bs79 w M a F
     refine sD F (o_append1 (enc := srC) ‹_› M (by repeat (first | exact .here | apply TailAt.cons)) (F.e rfl) (F.e rfl) (SrcOf.cells' (M.heap .here) (sg_all (sr_len (by first | assumption | trivial | exact And.left ‹_›))) (sr_one _)) (by first | omega | (simp;omega)) ?_);clear F M;intro v80 es80 w hO80 M a F;(try dsimp only at M)
     refine sD F (o_assign (F.e rfl) ?_);clear F a;intro a F
     with_reducible refine l_nil (q_inB (q_then (c_region ?_)))
     refine sD F (o_add (F.e rfl) (F.e rfl) (w_i64 (by omega) (by omega)) ?_);clear F a;intro a F
     refine sD F (o_move (F.e rfl) ?_);clear F a;intro a F
     with_reducible refine l_nil (q_then ?_)
     exact ⟨_, by omega, i + 1, _, _, _, _, rfl, by omega, by assumption, by rw [← hout];clear hout hR hL c1 c2;simp [*], F.only [57, 56, 55, 6, 13, 14, 12] rfl, M.sub (by repeat (first | exact .refl _ | apply sC1))⟩
    ·skip
     rw [h3] at F;replace h3 := eq_of_bne_false h3
     with_reducible refine c_skip (q_inB (q_then (c_region ?_)))
     refine sD F (o_add (F.e rfl) (F.e rfl) (w_i64 (by omega) (by omega)) ?_);clear F a;intro a F
     refine sD F (o_move (F.e rfl) ?_);clear F a;intro a F
     with_reducible refine l_nil (q_then ?_)
     exact ⟨_, by omega, i + 1, _, _, _, _, rfl, by omega, by assumption, by rw [← hout];clear hout hR hL c1 c2;simp [*], F.only [57, 56, 55, 6, 13, 14, 12] rfl, M.sub (by repeat (first | exact .refl _ | apply sC1))⟩
  ·skip
   rw [h1] at F;replace h1 := of_decide_eq_false h1
   refine sO F ?_;clear F a;intro a F
   refine sO F ?_;clear F a;intro a F
   refine sD F (o_pickF (F.e rfl) (F.e rfl) ?_);clear F a;intro a F
   with_reducible refine l_nil (q_then ?_)
   refine c_false F rfl rfl ?_
   with_reducible refine c_skip (q_then (c_seq (c_region ?_)))
   refine sD F (o_move (F.e rfl) ?_);clear F a;intro a F
   refine sD F (o_neqT (F.e rfl) (F.e rfl) (by omega) ?_);clear F a;intro a F
   with_reducible refine l_nil (q_then ?_)
   refine c_true F rfl rfl ?_
   refine c_region ?_
   refine sD F (o_move (F.e rfl) ?_);clear F a;intro a F
   refine sD F (o_loadA M (F.e rfl) (by repeat constructor) (sr_all (by first | assumption | trivial | exact And.left ‹_›)) ?_);clear F a;intro a F
   refine sD F (o_buildSlice F M rfl rfl rfl (sr_build1 (by first | assumption | trivial | exact And.left ‹_›)) ?_);clear F M;intro bs79 w M a F
   refine sD F (o_append1 (enc := srC) ‹_› M (by repeat (first | exact .here | apply TailAt.cons)) (F.e rfl) (F.e rfl) (SrcOf.cells' (M.heap .here) (sg_all (sr_len (by first | assumption | trivial | exact And.left ‹_›))) (sr_one _)) (by first | omega | (simp;omega)) ?_);clear F M;intro v80 es80 w hO80 M a F;(try dsimp only at M)
   refine sD F (o_assign (F.e rfl) ?_);clear F a;intro a F
   with_reducible refine l_nil (q_inB (q_then (c_region ?_)))
   refine sD F (o_add (F.e rfl) (F.e rfl) (w_i64 (by omega) (by omega)) ?_);clear F a;intro a F
   refine sD F (o_move (F.e rfl) ?_);clear F a;intro a F
   with_reducible refine l_nil (q_then ?_)
   exact ⟨_, by omega, i + 1, _, _, _, _, rfl, by omega, by assumption, by rw [← hout];clear hout hR hL c1 c2;have hc : cmpD y.to t ≠ 0 := (by omega);simp [*], F.only [57, 56, 55, 6, 13, 14, 12] rfl, M.sub (by repeat (first | exact .refl _ | apply sC1))⟩
 ·obtain rfl : i = l.length := by omega
  rw [List.drop_length, mergeG_nil] at hout
  cases dn
  ·have hout : out ++ [x] = R := hout
   subst hout
   refine c_seq (c_region ?_)
   refine sD F (o_lssF (F.e rfl) (F.e rfl) (by omega) ?_);clear F a;intro a F
   with_reducible refine l_nil (q_then (c_seq ?_))
   refine c_false F rfl rfl ?_
   with_reducible refine c_exit (q_thenX (q_thenX (q_inBX (q_then (c_seq (c_seq (c_region ?_)))))))
   refine sD F (o_move (F.e rfl) ?_);clear F a;intro a F
   refine sD F (o_not (F.e rfl) ?_);clear F a;intro a F
   with_reducible refine l_nil (q_then ?_)
   refine c_true F rfl rfl ?_
   refine c_region ?_
   refine sD F (o_move (F.e rfl) ?_);clear F a;intro a F
   refine sD F (o_loadA M (F.e rfl) (by repeat constructor) (sr_all (by first | assumption | trivial | exact And.left ‹_›)) ?_);clear F a;intro a F
   refine sD F (o_buildSlice F M rfl rfl rfl (sr_build1 (by first | assumption | trivial | exact And.left ‹_›)) ?_);clear F M;intro bs86 w M a F
   refine sD F (o_append1 (enc := srC) ‹_› M (by repeat (first | exact .here | apply TailAt.cons)) (F.e rfl) (F.e rfl) (SrcOf.cells' (M.heap .here) (sg_all (sr_len (by first | assumption | trivial | exact And.left ‹_›))) (sr_one _)) (by first | omega | (simp;omega)) ?_);clear F M;intro v87 es87 w hO87 M a F;(try dsimp only at M)
   refine sD F (o_assign (F.e rfl) ?_);clear F a;intro a F
   with_reducible refine l_nil (q_then (c_seq (c_seq (c_region ?_))))
   refine sD F (o_move (F.e rfl) ?_);clear F a;intro a F
   refine sD F (o_lenOwn (F.e rfl) ‹_› ?_);clear F a;intro a F
   refine sD F (o_gtr (F.e rfl) (F.e rfl) ?_);clear F a;intro a F
   with_reducible refine l_nil (q_then ?_)
   refine c_if F rfl (fun h1 => ?_) (fun h1 => ?_)
   ·skip
    rw [h1] at F;replace h1 := of_decide_eq_true h1
    refine c_seq (c_region ?_)
    refine sD F (o_assign (F.e rfl) ?_);clear F a;intro a F
    refine sD F (o_assign (F.e rfl) ?_);clear F a;intro a F
    with_reducible refine l_nil (q_then (c_ret (q_thenR ?_)))
    refine p_ret F rfl (.cons (.tmp (F.e rfl)) (.cons (.tmp (F.e rfl)) .nil)) ?_;(try dsimp only [oneOr])
    exact c1 10 _ (by rw [hL, if_pos (by omega)]) rfl _ M.ext
   ·skip
    rw [h1] at F;replace h1 := of_decide_eq_false h1
    with_reducible refine c_skip (q_then (c_seq (c_region ?_)))
    refine sD F (o_move (F.e rfl) ?_);clear F a;intro a F
    refine sD F (o_assign (F.e rfl) ?_);clear F a;intro a F
    refine sD F (o_assign (F.e rfl) ?_);clear F a;intro a F
    with_reducible refine l_nil (q_then (c_ret ?_))
    refine p_ret F rfl (.cons (.tmp (F.e rfl)) (.cons (.tmp (F.e rfl)) .nil)) ?_;(try dsimp only [oneOr])
    exact c2 _ _ _ (by omega) ‹_› (M.sub (by repeat (first | exact .refl _ | apply sC1)))
  ·have hout : out ++ [] = R := hout
   rw [List.append_nil] at hout
   subst hout
   refine c_seq (c_region ?_)
   refine sD F (o_lssF (F.e rfl) (F.e rfl) (by omega) ?_);clear F a;intro a F
   with_reducible refine l_nil (q_then (c_seq ?_))
   refine c_false F rfl rfl ?_
   with_reducible refine c_exit (q_thenX (q_thenX (q_inBX (q_then (c_seq (c_seq (c_region ?_)))))))
   refine sD F (o_move (F.e rfl) ?_);clear F a;intro a F
   refine sD F (o_not (F.e rfl) ?_);clear F a;intro a F
   with_reducible refine l_nil (q_then ?_)
   refine c_false F rfl rfl ?_
   with_reducible refine c_skip (q_then (c_seq (c_seq (c_region ?_))))
   refine sD F (o_move (F.e rfl) ?_);clear F a;intro a F
   refine sD F (o_lenOwn (F.e rfl) ‹_› ?_);clear F a;intro a F
   refine sD F (o_gtr (F.e rfl) (F.e rfl) ?_);clear F a;intro a F
   with_reducible refine l_nil (q_then ?_)
   refine c_if F rfl (fun h1 => ?_) (fun h1 => ?_)
   ·skip
    rw [h1] at F;replace h1 := of_decide_eq_true h1
    refine c_seq (c_region ?_)
    refine sD F (o_assign (F.e rfl) ?_);clear F a;intro a F
    refine sD F (o_assign (F.e rfl) ?_);clear F a;intro a F
    with_reducible refine l_nil (q_then (c_ret (q_thenR ?_)))
    refine p_ret F rfl (.cons (.tmp (F.e rfl)) (.cons (.tmp (F.e rfl)) .nil)) ?_;(try dsimp only [oneOr])
    exact c1 10 _ (by rw [hL, if_pos (by omega)]) rfl _ M.ext
   ·skip
    rw [h1] at F;replace h1 := of_decide_eq_false h1
    with_reducible refine c_skip (q_then (c_seq (c_region ?_)))
    refine sD F (o_move (F.e rfl) ?_);clear F a;intro a F
    refine sD F (o_assign (F.e rfl) ?_);clear F a;intro a F
    refine sD F (o_assign (F.e rfl) ?_);clear F a;intro a F
    with_reducible refine l_nil (q_then (c_ret ?_))
    refine p_ret F rfl (.cons (.tmp (F.e rfl)) (.cons (.tmp (F.e rfl)) .nil)) ?_;(try dsimp only [oneOr])
    exact c2 _ _ _ (by omega) ‹_› (M.sub (by repeat (first | exact .refl _ | apply sC1)))
end Go.Proofs.YtilgoepokaaleaaGreat
/-! YB -/
namespace Go.Proofs.YtilgoepokaaleaaGreat
set_option linter.unusedVariables false
set_option linter.unusedSimpArgs false
open Go.RowKit
attribute [local irreducible] OpTo wpListIn Code.wpIn MW Cal
def SlN (n0 : Nat) (W : World) (sz : Nat) (v : Value) (n : Nat) (cs : List Value) : Prop := SlAt W sz v n cs ∧ NewV n0 v
section
variable {n0 n1 bt sz n : Nat} {W w : World} {v : Value} {cs : List Value}
theorem SlN.mono (h : SlN n1 W sz v n cs) (hle : n0 ≤ n1) : SlN n0 W sz v n cs := ⟨h.1, fun b o s k c e => Nat.le_trans hle (h.2 b o s k c e)⟩
theorem SlN.notIn (h : SlN n0 W sz v n cs) (hbt : bt < n0) : ∀ b o s k c, v = .slice (some ⟨b, o, s⟩) k c → b ∉ [bt] := fun b o s k c e hb => by
 have := h.2 b o s k c e
 simp only [List.mem_singleton] at hb
 omega
theorem SlN.later (h : SlN n0 W sz v n cs) (E : Ext [] W w) : SlN n0 w sz v n cs := ⟨h.1.later E, h.2⟩
theorem SlN.nil (n0 sz : Nat) (W : World) : SlN n0 W sz (.slice none 0 0) 0 [] := ⟨SlAt.nil _ _, NewV.nil _ _ _⟩
theorem SlAt.mem {q : Option Addr} {cap : Nat} (h : SlAt W sz (.slice q n cap) n cs) : 0 < n → ∃ b o xs t fz, q = some ⟨b, o, none⟩ ∧ W.heap[b]? = some (.cells (List.toArray xs) t fz) ∧ seg xs o (n * sz) = some cs := by
 obtain ⟨p, cap', e, _, _, _, h5⟩ := h
 cases e
 exact h5
end
end Go.Proofs.YtilgoepokaaleaaGreat
/-! ZS -/
namespace Go.Proofs.YtilgoepokaaleaaGreat
set_option linter.unusedVariables false
set_option linter.unusedSimpArgs false
open Go.RowKit
attribute [local irreducible] OpTo wpListIn Code.wpIn MW Cal
theorem time_bd {t : Int} (h : isTime t = true) : 0 ≤ t ∧ t ≤ 1099511627776 := by
 simpa [isTime, Bool.and_eq_true, decide_eq_true_eq] using h
theorem later_time {a d : Int} (h : isTime a = true) (hd : 0 ≤ d) : isTime (laterV a d) = true := by
 have := time_bd h
 unfold laterV isTime
 simp only [Bool.and_eq_true, decide_eq_true_eq]
 split <;> omega
theorem learn_valid {l : List RouV} {now : Int} {t : DstV} {nb : Int} {d : DisV} (h : (learnV l now t nb d).2 = 0) : validRs (learnV l now t nb d).1 = true := by
 unfold learnV at h ⊢
 split at h
 ·cases h
 ·rename_i h1
  rw [if_neg h1]
  simp only [Bool.or_eq_true, Bool.not_eq_true', decide_eq_true_eq, not_or, Bool.not_eq_false] at h1
  obtain ⟨⟨⟨h1, h2⟩, h3⟩, h4⟩ := h1
  split at h
  ·cases h
  ·rename_i h5
   rw [if_neg h5]
   simp only [Bool.not_eq_true', Bool.not_eq_false] at h5
   split at h
   ·cases h
   ·rename_i h6
    rw [if_neg h6]
    obtain ⟨g1, g2, g3⟩ := validRs_iff.1 h1
    refine validRs_iff.2 ⟨by dsimp only;omega, fun a ha => ?_, asc_putR g3⟩
    rcases mem_putR.1 ha with ⟨k1, rfl⟩ | ⟨k1, _⟩
    ·unfold rou1 finD
     dsimp only
     rw [h2, h3, k1, decide_eq_false h4, later_time h5 (by omega)]
     rfl
    ·exact g2 a k1
theorem learn_len {l : List RouV} {now : Int} {t : DstV} {nb : Int} {d : DisV} : (learnV l now t nb d).1.length ≤ l.length + 1 := by
 unfold learnV
 split
 ·simp
 ·rename_i h1
  split
  ·simp
  ·split
   ·simp
   ·simp only [Bool.or_eq_true, Bool.not_eq_true', decide_eq_true_eq, not_or, Bool.not_eq_false] at h1
    dsimp only
    rw [← putR_merge (validRs_iff.1 h1.1.1.1).2.2]
    have := mergeG_len (fun y => cmpR y ⟨t, nb, d, laterV now 10⟩) ⟨t, nb, d, laterV now 10⟩ (done := decide (d.met = inf)) (l := l)
    split at this <;> omega
theorem putS_mem {l : List SrcV} {x y : SrcV} (h : y ∈ putS l x) : y = x ∨ y ∈ l := by
 unfold putS at h
 simp only [List.mem_append, List.mem_filter, List.mem_singleton] at h
 rcases h with h | h | h
 ·exact .inr h.1
 ·exact .inl h
 ·exact .inr h.1
theorem asc_putS {l : List SrcV} {x : SrcV} (h : AscC cmpS l) : AscC cmpS (putS l x) := by
 unfold putS
 refine List.pairwise_append.2 ⟨h.filter _, List.pairwise_append.2 ⟨List.pairwise_singleton _ _, h.filter _, fun a ha b hb => ?_⟩, fun a ha b hb => ?_⟩
 ·simp only [List.mem_singleton, List.mem_filter, decide_eq_true_eq] at ha hb
  subst ha
  have := cmpD_anti b.to a.to
  show cmpD a.to b.to < 0
  omega
 ·simp only [List.mem_append, List.mem_singleton, List.mem_filter, decide_eq_true_eq] at ha hb
  rcases hb with rfl | ⟨_, hb⟩
  ·exact ha.2
  ·have := cmpD_anti b.to x.to
   exact cmpD_trans ha.2 (by omega)
theorem best_fin {l : List SrcV} (hval : validSs l = true) {now : Int} {t : DstV} {b : DisV} (h : bestS l now t = some b) : finD b = true := by
 rw [bestS_is, Option.map_eq_some_iff] at h
 obtain ⟨x, h1, rfl⟩ := h
 have h2 := (validSs_iff.1 hval).2.1 x (List.mem_of_find?_eq_some h1)
 simp only [src1, Bool.and_eq_true] at h2
 exact h2.1.2
theorem record_valid {l : List SrcV} {now : Int} {t : DstV} {d : DisV} (h : (recordV l now t d).2 = 0) : validSs (recordV l now t d).1 = true := by
 unfold recordV at h ⊢
 split at h
 ·cases h
 ·rename_i h1
  rw [if_neg h1]
  simp only [Bool.or_eq_true, Bool.not_eq_true', decide_eq_true_eq, not_or, Bool.not_eq_false] at h1
  obtain ⟨⟨⟨h1, h2⟩, h3⟩, h4⟩ := h1
  split at h
  ·cases h
  ·rename_i h5
   rw [if_neg h5]
   simp only [Bool.not_eq_true', Bool.not_eq_false] at h5
   split at h
   ·cases h
   ·rename_i h6
    rw [if_neg h6]
    obtain ⟨g1, g2, g3⟩ := validSs_iff.1 h1
    refine validSs_iff.2 ⟨by dsimp only;omega, fun a ha => ?_, asc_putS g3⟩
    rcases putS_mem ha with rfl | k1
    ·have hf : finD d = true := by
      unfold finD
      rw [h3]
      simp [inf, h4]
     have hb : finD (newS l now t d).bst = true := by
      unfold newS
      dsimp only
      cases hb : bestS l now t with
      | none => exact hf
      | some b =>
       dsimp only
       unfold lowQ
       split
       ·exact hf
       ·exact best_fin h1 hb
     unfold src1
     rw [hb, show (newS l now t d).to = t from rfl, show (newS l now t d).til = laterV now 20 from rfl, h2, later_time h5 (by omega)]
     rfl
    ·exact g2 a k1
end Go.Proofs.YtilgoepokaaleaaGreat
/-! ZR -/
namespace Go.Proofs.YtilgoepokaaleaaGreat
set_option linter.unusedVariables false
set_option linter.unusedSimpArgs false
open Go.RowKit
theorem op_mk (a b : Int) : putAll [(0, 1), (1, 1)] opZ [(0, [.int .u64 a]), (1, [.int .i64 b])] = some (opC ⟨a, b⟩) := rfl
end Go.Proofs.YtilgoepokaaleaaGreat
/-! ZT -/
namespace Go.Proofs.YtilgoepokaaleaaGreat
set_option linter.unusedVariables false
set_option linter.unusedSimpArgs false
open Go.RowKit
attribute [local irreducible] OpTo wpListIn Code.wpIn MW Cal
structure OptI (out : List OptV) (i : Nat) : Prop where
 len : out.length < i
 ok : ∀ o ∈ out, opt1 o = true ∧ o.nb < i
 asc : AscC cmpO out
theorem OptI.skip {out : List OptV} {i : Nat} (h : OptI out i) : OptI out (i + 1) := ⟨by have := h.len;omega, fun o ho => ⟨(h.ok o ho).1, by have := (h.ok o ho).2;omega⟩, h.asc⟩
theorem OptI.val {out : List OptV} {i : Nat} (h : OptI out i) (hi : i ≤ 6) : validOs out = true := validOs_iff.2 ⟨by have := h.len;omega, fun a ha => (h.ok a ha).1, h.asc⟩
end Go.Proofs.YtilgoepokaaleaaGreat
/-! ZU -/
namespace Go.Proofs.YtilgoepokaaleaaGreat
set_option linter.unusedVariables false
set_option linter.unusedSimpArgs false
open Go.RowKit
attribute [local irreducible] OpTo wpListIn Code.wpIn MW Cal
def getV (l : List InsV) (t : DstV) : Option InsV := l.find? fun x => decide (x.to = t)
end Go.Proofs.YtilgoepokaaleaaGreat
/-! ZY -/
namespace Go.Proofs.YtilgoepokaaleaaGreat
set_option linter.unusedVariables false
set_option linter.unusedSimpArgs false
open Go.RowKit
attribute [local irreducible] OpTo wpListIn Code.wpIn MW Cal
def endN (c : Option InsV) : InsV × Int := match c with
 | none => (in0, 9)
 | some c => if c.nb = 0 then (in0, 15) else (c, 0)
def sameV (y mark : DstV) : Bool := (decide (y.dip = mark.dip) && decide (y.dbits = mark.dbits)) && (decide (y.sip = mark.sip) && decide (y.sbits = mark.sbits))
theorem lookN_far {y : InsV} {ys : List InsV} {mark : DstV} {marked : Bool} (h : (marked && decide (nearC y.to mark < 0)) = true) : lookN (y :: ys) mark marked = (in0, 9) := by
 unfold lookN
 dsimp only
 rw [if_pos h]
theorem lookN_near {y : InsV} {ys : List InsV} {mark : DstV} {marked : Bool} (h : (marked && decide (nearC y.to mark < 0)) = false) : lookN (y :: ys) mark marked = endN (if (marked && sameV y.to mark) = true then (y :: ys).find? (fun e => decide (e.to = mark)) else some (cheap (y :: ys) y)) := by
 unfold lookN sameV endN
 dsimp only
 rw [if_neg (by rw [h];simp), Bool.and_assoc]
 rfl
theorem tup_in {c : InsV × Int} {x : InsV} {n : Int} {W w : World} (h : c = (x, n)) (E : Ext [] W w) : Value.tuple [.agg (inC x).toArray, .int .i64 n].toArray = .tuple [.agg (inC c.1).toArray, .int .i64 c.2].toArray ∧ Ext [] W w := by
 rw [h]
 exact ⟨rfl, E⟩
end Go.Proofs.YtilgoepokaaleaaGreat
/-! ZZ -/
namespace Go.Proofs.YtilgoepokaaleaaGreat
set_option linter.unusedVariables false
set_option linter.unusedSimpArgs false
open Go.RowKit
attribute [local irreducible] OpTo wpListIn Code.wpIn MW Cal
set_option maxHeartbeats 32000000 in
theorem lookup2_c (l : List InsV) (hx : ∀ x ∈ l, IsIn x) (v : Value) (src dst : List Int) (hs : IsIP src) (hd : IsIP dst) (mark : DstV) (hmk : IsDv mark) (marked : Bool) (W : World) (hS : SlAt W 40 v l.length (insC l)) :
  Cal Tryz.prog 60 [v, .agg (ipC src).toArray, .agg (ipC dst).toArray, .agg (dvC mark).toArray, .bool marked].toArray W fun r w' => r = .tuple [.agg (inC (lookV l src dst mark marked).1).toArray, .int .i64 (lookV l src dst mark marked).2].toArray ∧ Ext [] W w' := by
 obtain ⟨q, cap, rfl, _⟩ := id hS
 have hm := hS.memB [] (by simp)
 have l3 := hs.len
 have l4 := hd.len
 have a1 : seg (ipC src) 0 16 = some (ipC src) := seg_all (ipC_len hs.len)
 have a2 : seg (ipC dst) 0 16 = some (ipC dst) := seg_all (ipC_len hd.len)
 have hz : putAll [(0, 35), (35, 1), (36, 2), (38, 1), (39, 1)] inZ [] = some (inC in0) := rfl
 have hi0 := in0_is
 refine g_start (n := 152) (S := []) fldT_ok slcT_ok Tryz.func60 rfl rfl rfl ?_
 refine gR 2 rfl ?_
 refine g_box rfl rfl fun b6 => ?_
 refine g_box rfl rfl fun b7 => ?_
 refine g_box rfl rfl fun b8 => ?_
 refine g_alloc fun b10 => ?_
 refine gR 4 rfl ?_
 refine g_cutC (ι := Unit) ⟨fun _ => validIs l = true ∧ lookV l src dst mark marked = lookN (nearL l src dst) mark marked, fun _ => [(0, .slice q l.length cap), (4, .bool marked), (6, .pointer (some ⟨b6, 0, none⟩)), (7, .pointer (some ⟨b7, 0, none⟩)), (8, .pointer (some ⟨b8, 0, none⟩)), (10, .pointer (some ⟨b10, 0, none⟩))], fun _ => [[(b10, .cells inZ.toArray 50 (0, 0))], [(b8, .cells (dvC mark).toArray 45 (0, 0))], [(b7, .cells (ipC dst).toArray 39 (0, 0))], [(b6, .cells (ipC src).toArray 39 (0, 0))]]⟩ ?_ ?_
 ·refine gR 3 rfl ?_
  refine g_call rfl rfl (fun w M => rtvalidI_c _ ‹_› _ _ ((by assumption : SlAt _ _ _ _ _).later M.ext)) ?_
  refine gR 2 rfl ?_
  refine g_split 22 rfl (fun h1 => ?_) (fun h1 => ?_)
  ·skip
   replace h1 := false_of_not h1
   refine gR 12 rfl ?_
   refine g_v (fun a w F M R r => o_build F rfl ‹_› r) ?_
   refine g_stA 0 rfl rfl (in_len ‹_›) (in_one _) rfl (put_all (by rw [in_len ‹_›];first | rfl | rw [in_len ‹_›])) rfl ?_
   refine gR 4 rfl ?_
   refine g_jR ?_
   refine gR 1 rfl ?_
   refine g_retC2 0 rfl rfl rfl rfl (in_all ‹_›) rfl fun w M => ?_
   exact tup_in (by unfold lookV;simp [*]) M.ext
  ·skip
   replace h1 := true_of_not h1
   refine gR 2 rfl ?_
   refine g_split 24 rfl (fun h2 => ?_) (fun h2 => ?_)
   ·skip
    refine g_ldA 1 rfl rfl (dv_all ‹_›) ?_
    refine g_call rfl rfl (fun w M => validTo_c _ ‹_› _) ?_
    refine gR 5 rfl ?_
    refine g_if rfl (fun h3 => ?_) (fun h3 => ?_)
    ·skip
     replace h3 := false_of_not h3
     refine gR 2 rfl ?_
     refine g_v (fun a w F M R r => o_build F rfl ‹_› r) ?_
     refine g_stA 0 rfl rfl (in_len ‹_›) (in_one _) rfl (put_all (by rw [in_len ‹_›];first | rfl | rw [in_len ‹_›])) rfl ?_
     refine gR 4 rfl ?_
     refine g_jR ?_
     refine gR 1 rfl ?_
     refine g_retC2 0 rfl rfl rfl rfl (in_all ‹_›) rfl fun w M => ?_
     exact tup_in (by unfold lookV;simp [*]) M.ext
    ·skip
     replace h3 := true_of_not h3
     refine gR 1 rfl ?_
     exact g_join () ⟨by assumption, by unfold lookV;simp [*]⟩ (fun a F => F.only [0, 4, 6, 7, 8, 10] rfl) (by (try dsimp only);repeat (first | exact .refl _ | with_reducible exact sC0 _ | with_reducible apply sC2 | apply sC1))
   ·skip
    refine gR 9 rfl ?_
    exact g_join () ⟨by assumption, by unfold lookV;simp [*]⟩ (fun a F => F.only [0, 4, 6, 7, 8, 10] rfl) (by (try dsimp only);repeat (first | exact .refl _ | with_reducible exact sC0 _ | with_reducible apply sC2 | apply sC1))
 rintro _ ⟨hv, hL⟩
 have hl512 := (validIs_iff.1 hv).1
 rw [hL]
 refine gR 15 rfl ?_
 refine g_pad ?_
 refine g_loop (ι := Nat × (List InsV) × Value × (List (Nat × Obj))) ⟨fun (i, near, u, es) => l.length - i, fun (i, near, u, es) => i ≤ l.length ∧ (OwnS 50 40 u near.length (insC near) es) ∧ (near = nearL (l.take i) src dst), fun (i, near, u, es) => [(33, .int .i64 i), (32, .int .i64 l.length), (31, .slice q l.length cap), (12, u), (4, .bool marked), (6, .pointer (some ⟨b6, 0, none⟩)), (7, .pointer (some ⟨b7, 0, none⟩)), (8, .pointer (some ⟨b8, 0, none⟩)), (10, .pointer (some ⟨b10, 0, none⟩))], fun (i, near, u, es) => [es, [(b10, .cells inZ.toArray 50 (0, 0))], [(b8, .cells (dvC mark).toArray 45 (0, 0))], [(b7, .cells (ipC dst).toArray 39 (0, 0))], [(b6, .cells (ipC src).toArray 39 (0, 0))]]⟩ (0, [], _, []) ⟨by omega, OwnS.nilL _ _ _, rfl⟩ (fun a F => F.only [33, 32, 31, 12, 4, 6, 7, 8, 10] rfl) (by repeat (first | exact .refl _ | apply sC2 | apply sC1)) ?_
 rintro ⟨i, near, u, es⟩ ⟨hi_i, hOs, hnr⟩
 dsimp only
 by_cases hlt_i : i < l.length
 ·obtain ⟨b, o, cs, t', fz, rfl, hb, hs⟩ := hm (by omega)
  obtain ⟨x, hx0⟩ : ∃ x, x = l[i] := ⟨_, rfl⟩
  have hxm : x ∈ l := by rw [hx0];exact List.getElem_mem hlt_i
  have hxi : IsIn x := hx _ hxm
  have f1 : seg cs (o + (i : Int).toNat * 40) 40 = some (inC x) := by rw [hx0];exact seg_el (ins_len hx) hs hlt_i (by omega)
  have hx0' := hx0
  clear hx0
  have hst := nearL_step (src := src) (dst := dst) hlt_i
  rw [← hnr, ← hx0'] at hst
  have hnI : ∀ y ∈ near, IsIn y := by rw [hnr];exact nearL_sub fun y hy => hx y (List.mem_of_mem_take hy)
  have hnl : near.length ≤ 512 := by
   have := nearL_len (src := src) (dst := dst) (l := l.take i)
   rw [← hnr, List.length_take] at this
   omega
  have hxd : IsDv x.to := hxi.1
  have f2 := in_len hxi
  clear hnr hx0' hL
  have l1 := hxd.1.len
  have l2 := hxd.2.len
  cases c3 : containsP x.to.dip x.to.dbits dst
  ·have hns : nearS src dst near x = near := by unfold nearS matchV;rw [c3];rfl
   refine gR 6 rfl ?_
   refine g_ifT rfl (decide_eq_true (by omega)) ?_
   refine gR 6 rfl ?_
   refine g_ixS rfl rfl (by omega) (by omega) ?_
   refine g_leA rfl ‹_› (by with_reducible assumption) ?_
   refine g_alloc fun b14 => ?_
   refine g_stA 0 rfl rfl (in_len ‹_›) (in_one _) rfl (put_all (by rw [in_len ‹_›];first | rfl | rw [in_len ‹_›])) rfl ?_
   refine gR 7 rfl ?_
   refine g_ldA 0 rfl rfl (in_to_dst ‹_›) ?_
   refine g_ldA 4 rfl rfl (by with_reducible assumption) ?_
   refine g_call rfl rfl (fun w M => contains_c _ _ ‹_› _ ‹_› _) ?_
   refine gR 2 rfl ?_
   refine g_know 43 rfl (notT ‹_›) ?_
   refine gR 15 rfl ?_
   refine g_add rfl rfl (w_i64 (by omega) (by omega)) ?_
   refine gR 2 rfl ?_
   exact g_next (i + 1, near, u, es) ⟨by omega, hOs, by rw [hst, hns]⟩ (by dsimp only;omega) (fun a F => F.only [33, 32, 31, 12, 4, 6, 7, 8, 10] rfl) (by (try dsimp only);repeat (first | exact .refl _ | with_reducible exact sC0 _ | with_reducible apply sC2 | apply sC1))
  cases c4 : containsP x.to.sip x.to.sbits src
  ·have hns : nearS src dst near x = near := by unfold nearS matchV;rw [c3, c4];rfl
   refine gR 6 rfl ?_
   refine g_ifT rfl (decide_eq_true (by omega)) ?_
   refine gR 6 rfl ?_
   refine g_ixS rfl rfl (by omega) (by omega) ?_
   refine g_leA rfl ‹_› (by with_reducible assumption) ?_
   refine g_alloc fun b14 => ?_
   refine g_stA 0 rfl rfl (in_len ‹_›) (in_one _) rfl (put_all (by rw [in_len ‹_›];first | rfl | rw [in_len ‹_›])) rfl ?_
   refine gR 7 rfl ?_
   refine g_ldA 0 rfl rfl (in_to_dst ‹_›) ?_
   refine g_ldA 4 rfl rfl (by with_reducible assumption) ?_
   refine g_call rfl rfl (fun w M => contains_c _ _ ‹_› _ ‹_› _) ?_
   refine gR 2 rfl ?_
   refine g_know 43 rfl (notF ‹_›) ?_
   refine gR 2 rfl ?_
   refine g_ldA 0 rfl rfl (in_to_src ‹_›) ?_
   refine g_ldA 5 rfl rfl (by with_reducible assumption) ?_
   refine g_call rfl rfl (fun w M => contains_c _ _ ‹_› _ ‹_› _) ?_
   refine gR 4 rfl ?_
   refine g_ifT rfl (notT ‹_›) ?_
   refine gR 5 rfl ?_
   refine g_add rfl rfl (w_i64 (by omega) (by omega)) ?_
   refine gR 2 rfl ?_
   exact g_next (i + 1, near, u, es) ⟨by omega, hOs, by rw [hst, hns]⟩ (by dsimp only;omega) (fun a F => F.only [33, 32, 31, 12, 4, 6, 7, 8, 10] rfl) (by (try dsimp only);repeat (first | exact .refl _ | with_reducible exact sC0 _ | with_reducible apply sC2 | apply sC1))
  have hmt : matchV x.to src dst = true := by unfold matchV;rw [c3, c4];rfl
  ·cases near with
   | nil =>
    have hns : nearS src dst [] x = [x] := by unfold nearS;rw [hmt];rfl
    obtain ⟨pz, cz, rfl⟩ := hOs.slice
    refine gR 6 rfl ?_
    refine g_ifT rfl (decide_eq_true (by omega)) ?_
    refine gR 6 rfl ?_
    refine g_ixS rfl rfl (by omega) (by omega) ?_
    refine g_leA rfl ‹_› (by with_reducible assumption) ?_
    refine g_alloc fun b14 => ?_
    refine g_stA 0 rfl rfl (in_len ‹_›) (in_one _) rfl (put_all (by rw [in_len ‹_›];first | rfl | rw [in_len ‹_›])) rfl ?_
    refine gR 7 rfl ?_
    refine g_ldA 0 rfl rfl (in_to_dst ‹_›) ?_
    refine g_ldA 4 rfl rfl (by with_reducible assumption) ?_
    refine g_call rfl rfl (fun w M => contains_c _ _ ‹_› _ ‹_› _) ?_
    refine gR 2 rfl ?_
    refine g_know 43 rfl (notF ‹_›) ?_
    refine gR 2 rfl ?_
    refine g_ldA 0 rfl rfl (in_to_src ‹_›) ?_
    refine g_ldA 5 rfl rfl (by with_reducible assumption) ?_
    refine g_call rfl rfl (fun w M => contains_c _ _ ‹_› _ ‹_› _) ?_
    refine gR 4 rfl ?_
    refine g_ifF rfl (notF ‹_›) ?_
    refine gR 4 rfl ?_
    refine g_draw 13 152 rfl (by kernel_rfl) ?_
    refine fR 13 rfl ?_
    refine fd_done rfl rfl ?_
    refine gR 6 rfl ?_
    refine g_draw 13 152 rfl (by kernel_rfl) ?_
    refine fR 13 rfl ?_
    refine fd_done rfl rfl ?_
    refine gR 5 rfl ?_
    refine g_ldA 0 rfl rfl (in_all ‹_›) ?_
    refine g_bs rfl rfl rfl (in_build1 ‹_›) fun b79 => ?_
    refine g_app 2 0 (enc := inC) rfl rfl ‹_› rfl rfl (in_len ‹_›) (by first | omega | (simp only [List.length_nil];omega)) (fun _ => rfl) (fun v80 es80 hO80 => ?_) (in_one _)
    refine gR 5 rfl ?_
    refine g_add rfl rfl (w_i64 (by omega) (by omega)) ?_
    refine gR 2 rfl ?_
    exact g_next (i + 1, _, _, _) ⟨by omega, by assumption, by rw [hst, hns];rfl⟩ (by dsimp only;omega) (fun a F => F.only [33, 32, 31, 12, 4, 6, 7, 8, 10] rfl) (by (try dsimp only);repeat (first | exact .refl _ | with_reducible exact sC0 _ | with_reducible apply sC2 | apply sC1))
   | cons y ys =>
    rcases hOs with ⟨_, h0, _, _⟩ | ⟨bN, cN, junk, rfl, rfl, hxl, hjl, hnc⟩
    ·simp at h0
    have hyv := hnI y (by simp)
    have hyd : IsDv y.to := hyv.1
    have hsz : ∀ z ∈ y :: ys, (inC z).length = 40 := ins_len hnI
    have g1 : seg (insC (y :: ys) ++ junk) (0 + (0 : Int).toNat * 40) 40 = some (inC y) := own_el hsz junk (show 0 < (y :: ys).length by simp) (by simp)
    have g2 : seg (insC (y :: ys) ++ junk) (0 + (0 : Int).toNat * 40 + 0) 35 = some (dvC y.to) := sg_seg g1 (in_to hyv) (by omega)
    have hO : OwnS 50 40 (.slice (some ⟨bN, 0, none⟩) (y :: ys).length cN) (y :: ys).length (insC (y :: ys)) [(bN, .cells (insC (y :: ys) ++ junk).toArray 50 (0, 0))] := .inr ⟨bN, cN, junk, rfl, rfl, hxl, hjl, hnc⟩
    have hn0 : 0 < (y :: ys).length := by simp
    have hns0 : nearS src dst (y :: ys) x = if 0 < nearC x.to y.to then [x] else if nearC x.to y.to = 0 then y :: ys ++ [x] else y :: ys := by unfold nearS;rw [hmt];rfl
    clear hxl hjl hnc hsz
    by_cases k1 : 0 < nearC x.to y.to
    ·rw [if_pos k1] at hns0
     refine gR 6 rfl ?_
     refine g_ifT rfl (decide_eq_true (by omega)) ?_
     refine gR 6 rfl ?_
     refine g_ixS rfl rfl (by omega) (by omega) ?_
     refine g_leA rfl ‹_› (by with_reducible assumption) ?_
     refine g_alloc fun b14 => ?_
     refine g_stA 0 rfl rfl (in_len ‹_›) (in_one _) rfl (put_all (by rw [in_len ‹_›];first | rfl | rw [in_len ‹_›])) rfl ?_
     refine gR 7 rfl ?_
     refine g_ldA 0 rfl rfl (in_to_dst ‹_›) ?_
     refine g_ldA 4 rfl rfl (by with_reducible assumption) ?_
     refine g_call rfl rfl (fun w M => contains_c _ _ ‹_› _ ‹_› _) ?_
     refine gR 2 rfl ?_
     refine g_know 43 rfl (notF ‹_›) ?_
     refine gR 2 rfl ?_
     refine g_ldA 0 rfl rfl (in_to_src ‹_›) ?_
     refine g_ldA 5 rfl rfl (by with_reducible assumption) ?_
     refine g_call rfl rfl (fun w M => contains_c _ _ ‹_› _ ‹_› _) ?_
     refine gR 4 rfl ?_
     refine g_ifF rfl (notF ‹_›) ?_
     refine gR 4 rfl ?_
     refine g_draw 13 152 rfl (by kernel_rfl) ?_
     refine fR 4 rfl ?_
     refine fd_know 54 rfl (decide_eq_true (by omega)) ?_
     refine fR 1 rfl ?_
     refine fd_ldA 0 rfl rfl (in_to ‹_›) ?_
     refine fR 1 rfl ?_
     refine fd_ixS rfl rfl (by omega) (by omega) ?_
     refine fR 1 rfl ?_
     refine fd_ldA 1 rfl rfl (by with_reducible assumption) ?_
     refine fd_call rfl rfl (fun w M => rnearest_c _ _ ‹_› ‹_› _) ?_
     refine fR 2 rfl ?_
     refine fd_done rfl rfl ?_
     refine gR 2 rfl ?_
     refine g_ifT rfl (decide_eq_true (by omega)) ?_
     refine gR 5 rfl ?_
     refine g_draw 13 152 rfl (by kernel_rfl) ?_
     refine fR 13 rfl ?_
     refine fd_done rfl rfl ?_
     refine gR 5 rfl ?_
     refine g_ldA 0 rfl rfl (in_all ‹_›) ?_
     refine g_bs rfl rfl rfl (in_build1 ‹_›) fun b79 => ?_
     refine g_pad ?_;refine g_app 0 1 (enc := inC) rfl rfl (OwnS.nilL _ _ _) rfl rfl (in_len ‹_›) (by first | omega | (simp only [List.length_nil];omega)) (fun _ => rfl) (fun v80 es80 hO80 => ?_) (in_one _)
     refine gR 5 rfl ?_
     refine g_add rfl rfl (w_i64 (by omega) (by omega)) ?_
     refine gR 2 rfl ?_
     exact g_next (i + 1, _, _, _) ⟨by omega, by assumption, by rw [hst, hns0];rfl⟩ (by dsimp only;omega) (fun a F => F.only [33, 32, 31, 12, 4, 6, 7, 8, 10] rfl) (by (try dsimp only);repeat (first | exact .refl _ | with_reducible exact sC0 _ | with_reducible apply sC2 | apply sC1))
    ·rw [if_neg k1] at hns0
     by_cases k2 : nearC x.to y.to = 0
     ·rw [if_pos k2] at hns0
      refine gR 6 rfl ?_
      refine g_ifT rfl (decide_eq_true (by omega)) ?_
      refine gR 6 rfl ?_
      refine g_ixS rfl rfl (by omega) (by omega) ?_
      refine g_leA rfl ‹_› (by with_reducible assumption) ?_
      refine g_alloc fun b14 => ?_
      refine g_stA 0 rfl rfl (in_len ‹_›) (in_one _) rfl (put_all (by rw [in_len ‹_›];first | rfl | rw [in_len ‹_›])) rfl ?_
      refine gR 7 rfl ?_
      refine g_ldA 0 rfl rfl (in_to_dst ‹_›) ?_
      refine g_ldA 4 rfl rfl (by with_reducible assumption) ?_
      refine g_call rfl rfl (fun w M => contains_c _ _ ‹_› _ ‹_› _) ?_
      refine gR 2 rfl ?_
      refine g_know 43 rfl (notF ‹_›) ?_
      refine gR 2 rfl ?_
      refine g_ldA 0 rfl rfl (in_to_src ‹_›) ?_
      refine g_ldA 5 rfl rfl (by with_reducible assumption) ?_
      refine g_call rfl rfl (fun w M => contains_c _ _ ‹_› _ ‹_› _) ?_
      refine gR 4 rfl ?_
      refine g_ifF rfl (notF ‹_›) ?_
      refine gR 4 rfl ?_
      refine g_draw 13 152 rfl (by kernel_rfl) ?_
      refine fR 4 rfl ?_
      refine fd_know 54 rfl (decide_eq_true (by omega)) ?_
      refine fR 1 rfl ?_
      refine fd_ldA 0 rfl rfl (in_to ‹_›) ?_
      refine fR 1 rfl ?_
      refine fd_ixS rfl rfl (by omega) (by omega) ?_
      refine fR 1 rfl ?_
      refine fd_ldA 1 rfl rfl (by with_reducible assumption) ?_
      refine fd_call rfl rfl (fun w M => rnearest_c _ _ ‹_› ‹_› _) ?_
      refine fR 2 rfl ?_
      refine fd_done rfl rfl ?_
      refine gR 2 rfl ?_
      refine g_ifF rfl (decide_eq_false (by omega)) ?_
      refine gR 3 rfl ?_
      refine g_draw 13 152 rfl (by kernel_rfl) ?_
      refine fR 5 rfl ?_
      refine fd_ldA 0 rfl rfl (in_to ‹_›) ?_
      refine fR 1 rfl ?_
      refine fd_ixS rfl rfl (by omega) (by omega) ?_
      refine fR 1 rfl ?_
      refine fd_ldA 1 rfl rfl (by with_reducible assumption) ?_
      refine fd_call rfl rfl (fun w M => rnearest_c _ _ ‹_› ‹_› _) ?_
      refine fR 2 rfl ?_
      refine fd_done rfl rfl ?_
      refine gR 2 rfl ?_
      refine g_ifT rfl (decide_eq_true (by omega)) ?_
      refine gR 2 rfl ?_
      refine g_ldA 0 rfl rfl (in_all ‹_›) ?_
      refine g_bs rfl rfl rfl (in_build1 ‹_›) fun b79 => ?_
      refine g_app 2 0 (enc := inC) rfl rfl ‹_› rfl rfl (in_len ‹_›) (by first | omega | (simp only [List.length_nil];omega)) (fun _ => rfl) (fun v80 es80 hO80 => ?_) (in_one _)
      refine gR 5 rfl ?_
      refine g_add rfl rfl (w_i64 (by omega) (by omega)) ?_
      refine gR 2 rfl ?_
      exact g_next (i + 1, _, _, _) ⟨by omega, by assumption, by rw [hst, hns0]⟩ (by dsimp only;omega) (fun a F => F.only [33, 32, 31, 12, 4, 6, 7, 8, 10] rfl) (by (try dsimp only);repeat (first | exact .refl _ | with_reducible exact sC0 _ | with_reducible apply sC2 | apply sC1))
     ·rw [if_neg k2] at hns0
      refine gR 6 rfl ?_
      refine g_ifT rfl (decide_eq_true (by omega)) ?_
      refine gR 6 rfl ?_
      refine g_ixS rfl rfl (by omega) (by omega) ?_
      refine g_leA rfl ‹_› (by with_reducible assumption) ?_
      refine g_alloc fun b14 => ?_
      refine g_stA 0 rfl rfl (in_len ‹_›) (in_one _) rfl (put_all (by rw [in_len ‹_›];first | rfl | rw [in_len ‹_›])) rfl ?_
      refine gR 7 rfl ?_
      refine g_ldA 0 rfl rfl (in_to_dst ‹_›) ?_
      refine g_ldA 4 rfl rfl (by with_reducible assumption) ?_
      refine g_call rfl rfl (fun w M => contains_c _ _ ‹_› _ ‹_› _) ?_
      refine gR 2 rfl ?_
      refine g_know 43 rfl (notF ‹_›) ?_
      refine gR 2 rfl ?_
      refine g_ldA 0 rfl rfl (in_to_src ‹_›) ?_
      refine g_ldA 5 rfl rfl (by with_reducible assumption) ?_
      refine g_call rfl rfl (fun w M => contains_c _ _ ‹_› _ ‹_› _) ?_
      refine gR 4 rfl ?_
      refine g_ifF rfl (notF ‹_›) ?_
      refine gR 4 rfl ?_
      refine g_draw 13 152 rfl (by kernel_rfl) ?_
      refine fR 4 rfl ?_
      refine fd_know 54 rfl (decide_eq_true (by omega)) ?_
      refine fR 1 rfl ?_
      refine fd_ldA 0 rfl rfl (in_to ‹_›) ?_
      refine fR 1 rfl ?_
      refine fd_ixS rfl rfl (by omega) (by omega) ?_
      refine fR 1 rfl ?_
      refine fd_ldA 1 rfl rfl (by with_reducible assumption) ?_
      refine fd_call rfl rfl (fun w M => rnearest_c _ _ ‹_› ‹_› _) ?_
      refine fR 2 rfl ?_
      refine fd_done rfl rfl ?_
      refine gR 2 rfl ?_
      refine g_ifF rfl (decide_eq_false (by omega)) ?_
      refine gR 3 rfl ?_
      refine g_draw 13 152 rfl (by kernel_rfl) ?_
      refine fR 5 rfl ?_
      refine fd_ldA 0 rfl rfl (in_to ‹_›) ?_
      refine fR 1 rfl ?_
      refine fd_ixS rfl rfl (by omega) (by omega) ?_
      refine fR 1 rfl ?_
      refine fd_ldA 1 rfl rfl (by with_reducible assumption) ?_
      refine fd_call rfl rfl (fun w M => rnearest_c _ _ ‹_› ‹_› _) ?_
      refine fR 2 rfl ?_
      refine fd_done rfl rfl ?_
      refine gR 2 rfl ?_
      refine g_ifF rfl (decide_eq_false (by omega)) ?_
      refine gR 4 rfl ?_
      refine g_add rfl rfl (w_i64 (by omega) (by omega)) ?_
      refine gR 2 rfl ?_
      exact g_next (i + 1, _, _, _) ⟨by omega, by assumption, by rw [hst, hns0]⟩ (by dsimp only;omega) (fun a F => F.only [33, 32, 31, 12, 4, 6, 7, 8, 10] rfl) (by (try dsimp only);repeat (first | exact .refl _ | with_reducible exact sC0 _ | with_reducible apply sC2 | apply sC1))
 ·have hil : i = l.length := by omega
  rw [hil, List.take_length] at hnr
  have hnI : ∀ y ∈ near, IsIn y := by rw [hnr];exact nearL_sub hx
  have hnl : near.length ≤ 512 := by
   have := nearL_len (src := src) (dst := dst) (l := l)
   rw [← hnr] at this
   omega
  rw [← hnr]
  clear hnr hm hL hil
  cases near with
  | nil =>
   obtain ⟨pz, cz, rfl⟩ := hOs.slice
   refine gR 6 rfl ?_
   refine g_ifF rfl (decide_eq_false (by omega)) ?_
   refine gR 2 rfl ?_
   refine g_outX ?_
   refine gR 4 rfl ?_
   refine g_draw 15 152 rfl (by kernel_rfl) ?_
   refine fR 15 rfl ?_
   refine fd_done rfl rfl ?_
   refine gR 5 rfl ?_
   refine g_v (fun a w F M R r => o_build F rfl ‹_› r) ?_
   refine g_stA 1 rfl rfl (in_len ‹_›) (in_one _) rfl (put_all (by rw [in_len ‹_›];first | rfl | rw [in_len ‹_›])) rfl ?_
   refine gR 5 rfl ?_
   refine g_retC2 1 rfl rfl rfl rfl (in_all ‹_›) rfl fun w M => ?_
   exact tup_in rfl M.ext
  | cons y ys =>
   rcases hOs with ⟨_, h0, _, _⟩ | ⟨bN, cN, junk, rfl, rfl, hxl, hjl, hnc⟩
   ·simp at h0
   have hyv := hnI y (by simp)
   have hyd : IsDv y.to := hyv.1
   have hsz : ∀ z ∈ y :: ys, (inC z).length = 40 := ins_len hnI
   have g1 : seg (insC (y :: ys) ++ junk) (0 + (0 : Int).toNat * 40) 40 = some (inC y) := own_el hsz junk (show 0 < (y :: ys).length by simp) (by simp)
   have g2 : seg (insC (y :: ys) ++ junk) (0 + (0 : Int).toNat * 40 + 0) 35 = some (dvC y.to) := sg_seg g1 (in_to hyv) (by omega)
   have g3 : seg (insC (y :: ys) ++ junk) (0 + (0 : Int).toNat * 40 + 0 + 0) 17 = some (pfC y.to.dip y.to.dbits) := sg_seg g1 (in_to_dst hyv) (by omega)
   have g4 : seg (insC (y :: ys) ++ junk) (0 + (0 : Int).toNat * 40 + 0 + 17) 17 = some (pfC y.to.sip y.to.sbits) := sg_seg g1 (in_to_src hyv) (by omega)
   have g5 := fits_pf hyd.1.len y.to.dbits
   have g6 := fits_pf hyd.2.len y.to.sbits
   have m3 := dv_dst hmk
   have m4 := dv_src hmk
   have m5 := fits_pf hmk.1.len mark.dbits
   have m6 := fits_pf hmk.2.len mark.sbits
   have q1 := eq_pfD (a := y.to.dip) (b := mark.dip) (n := y.to.dbits) (m := mark.dbits) (by rw [hyd.1.len, hmk.1.len])
   have q2 := eq_pfD (a := y.to.sip) (b := mark.sip) (n := y.to.sbits) (m := mark.sbits) (by rw [hyd.2.len, hmk.2.len])
   have hO : OwnS 50 40 (.slice (some ⟨bN, 0, none⟩) (y :: ys).length cN) (y :: ys).length (insC (y :: ys)) [(bN, .cells (insC (y :: ys) ++ junk).toArray 50 (0, 0))] := .inr ⟨bN, cN, junk, rfl, rfl, hxl, hjl, hnc⟩
   have hn0 : 0 < (y :: ys).length := by simp
   clear hxl hjl hnc
   refine gR 6 rfl ?_
   refine g_ifF rfl (decide_eq_false (by omega)) ?_
   refine gR 2 rfl ?_
   refine g_outX ?_
   refine gR 3 rfl ?_
   refine g_cutC (ι := Unit) ⟨fun _ => (marked && decide (nearC y.to mark < 0)) = false, fun _ => [(12, .slice (some ⟨bN, 0, none⟩) (y :: ys).length cN), (4, .bool marked), (6, .pointer (some ⟨b6, 0, none⟩)), (7, .pointer (some ⟨b7, 0, none⟩)), (8, .pointer (some ⟨b8, 0, none⟩)), (10, .pointer (some ⟨b10, 0, none⟩))], fun _ => [[(bN, .cells (insC (y :: ys) ++ junk).toArray 50 (0, 0))], [(b10, .cells inZ.toArray 50 (0, 0))], [(b8, .cells (dvC mark).toArray 45 (0, 0))], [(b7, .cells (ipC dst).toArray 39 (0, 0))], [(b6, .cells (ipC src).toArray 39 (0, 0))]]⟩ ?_ ?_
   ·cases marked
    ·refine gR 1 rfl ?_
     refine g_draw 15 152 rfl (by kernel_rfl) ?_
     refine fR 15 rfl ?_
     refine fd_done rfl rfl ?_
     refine gR 4 rfl ?_
     exact g_join () rfl (fun a F => F.only [12, 4, 6, 7, 8, 10] rfl) (by (try dsimp only);repeat (first | exact .refl _ | with_reducible exact sC0 _ | with_reducible apply sC2 | apply sC1))
    ·by_cases k : nearC y.to mark < 0
     ·refine gR 1 rfl ?_
      refine g_draw 15 152 rfl (by kernel_rfl) ?_
      refine fR 7 rfl ?_
      refine fd_ixS rfl rfl (by omega) (by omega) ?_
      refine fR 1 rfl ?_
      refine fd_ldA 0 rfl rfl (by with_reducible assumption) ?_
      refine fd_ldA 2 rfl rfl (dv_all ‹_›) ?_
      refine fd_call rfl rfl (fun w M => rnearest_c _ _ ‹_› ‹_› _) ?_
      refine fR 3 rfl ?_
      refine fd_done rfl rfl ?_
      refine gR 2 rfl ?_
      refine g_ifT rfl (decide_eq_true (by omega)) ?_
      refine gR 2 rfl ?_
      refine g_v (fun a w F M R r => o_build F rfl ‹_› r) ?_
      refine g_stA 1 rfl rfl (in_len ‹_›) (in_one _) rfl (put_all (by rw [in_len ‹_›];first | rfl | rw [in_len ‹_›])) rfl ?_
      refine gR 4 rfl ?_
      refine g_jR ?_
      refine gR 1 rfl ?_
      refine g_retC2 1 rfl rfl rfl rfl (in_all ‹_›) rfl fun w M => ?_
      exact tup_in (lookN_far (by simp [k])) M.ext
     ·refine gR 1 rfl ?_
      refine g_draw 15 152 rfl (by kernel_rfl) ?_
      refine fR 7 rfl ?_
      refine fd_ixS rfl rfl (by omega) (by omega) ?_
      refine fR 1 rfl ?_
      refine fd_ldA 0 rfl rfl (by with_reducible assumption) ?_
      refine fd_ldA 2 rfl rfl (dv_all ‹_›) ?_
      refine fd_call rfl rfl (fun w M => rnearest_c _ _ ‹_› ‹_› _) ?_
      refine fR 3 rfl ?_
      refine fd_done rfl rfl ?_
      refine gR 2 rfl ?_
      refine g_ifF rfl (decide_eq_false (by omega)) ?_
      refine gR 1 rfl ?_
      exact g_join () (by simp [k]) (fun a F => F.only [12, 4, 6, 7, 8, 10] rfl) (by (try dsimp only);repeat (first | exact .refl _ | with_reducible exact sC0 _ | with_reducible apply sC2 | apply sC1))
   rintro _ hk
   rw [lookN_near hk]
   clear hk
   refine gR 4 rfl ?_
   refine g_ixS rfl rfl (by omega) (by omega) ?_
   refine g_ldA 0 rfl rfl (by with_reducible assumption) ?_
   refine g_alloc fun b15 => ?_
   refine g_stA 0 rfl rfl (in_len ‹_›) (in_one _) rfl (put_all (by rw [in_len ‹_›];first | rfl | rw [in_len ‹_›])) rfl ?_
   refine gR 3 rfl ?_
   refine g_cutC (ι := InsV) ⟨fun c => IsIn c ∧ endN (if (marked && sameV y.to mark) = true then (y :: ys).find? (fun e => decide (e.to = mark)) else some (cheap (y :: ys) y)) = endN (some c), fun _ => [(15, .pointer (some ⟨b15, 0, none⟩)), (10, .pointer (some ⟨b10, 0, none⟩))], fun c => [[(b15, .cells (inC c).toArray 50 (0, 0))], [(b10, .cells inZ.toArray 50 (0, 0))]]⟩ ?_ ?_
   ·refine gR 1 rfl ?_
    refine g_cutC (ι := Unit) ⟨fun _ => True, fun _ => [(121, .bool (marked && sameV y.to mark)), (15, .pointer (some ⟨b15, 0, none⟩)), (12, .slice (some ⟨bN, 0, none⟩) (y :: ys).length cN), (4, .bool marked), (6, .pointer (some ⟨b6, 0, none⟩)), (7, .pointer (some ⟨b7, 0, none⟩)), (8, .pointer (some ⟨b8, 0, none⟩)), (10, .pointer (some ⟨b10, 0, none⟩))], fun _ => [[(b15, .cells (inC y).toArray 50 (0, 0))], [(bN, .cells (insC (y :: ys) ++ junk).toArray 50 (0, 0))], [(b10, .cells inZ.toArray 50 (0, 0))], [(b8, .cells (dvC mark).toArray 45 (0, 0))], [(b7, .cells (ipC dst).toArray 39 (0, 0))], [(b6, .cells (ipC src).toArray 39 (0, 0))]]⟩ ?_ ?_
    ·unfold sameV
     cases marked
     ·refine g_draw 21 152 rfl (by kernel_rfl) ?_
      refine fR 21 rfl ?_
      refine fd_done rfl rfl ?_
      refine gR 1 rfl ?_
      exact g_join () trivial (fun a F => F.only [121, 15, 12, 4, 6, 7, 8, 10] rfl) (by (try dsimp only);repeat (first | exact .refl _ | with_reducible exact sC0 _ | with_reducible apply sC2 | apply sC1))
     ·cases d1 : (decide (y.to.dip = mark.dip) && decide (y.to.dbits = mark.dbits))
      ·rw [d1] at q1
       refine g_draw 21 152 rfl (by kernel_rfl) ?_
       refine fR 3 rfl ?_
       refine fd_ixS rfl rfl (by omega) (by omega) ?_
       refine fR 2 rfl ?_
       refine fd_ldA 1 rfl rfl (by with_reducible assumption) ?_
       refine fR 1 rfl ?_
       refine fd_ldA 3 rfl rfl (dv_dst ‹_›) ?_
       refine fd_eqA rfl rfl ‹_› ‹_› ‹_› ?_
       refine fR 11 rfl ?_
       refine fd_done rfl rfl ?_
       refine gR 1 rfl ?_
       exact g_join () trivial (fun a F => F.only [121, 15, 12, 4, 6, 7, 8, 10] rfl) (by (try dsimp only);repeat (first | exact .refl _ | with_reducible exact sC0 _ | with_reducible apply sC2 | apply sC1))
      ·rw [d1] at q1
       cases d2 : (decide (y.to.sip = mark.sip) && decide (y.to.sbits = mark.sbits))
       ·rw [d2] at q2
        refine g_draw 21 152 rfl (by kernel_rfl) ?_
        refine fR 3 rfl ?_
        refine fd_ixS rfl rfl (by omega) (by omega) ?_
        refine fR 2 rfl ?_
        refine fd_ldA 1 rfl rfl (by with_reducible assumption) ?_
        refine fR 1 rfl ?_
        refine fd_ldA 3 rfl rfl (dv_dst ‹_›) ?_
        refine fd_eqA rfl rfl ‹_› ‹_› ‹_› ?_
        refine fR 3 rfl ?_
        refine fd_ixS rfl rfl (by omega) (by omega) ?_
        refine fR 2 rfl ?_
        refine fd_ldA 1 rfl rfl (by with_reducible assumption) ?_
        refine fR 1 rfl ?_
        refine fd_ldA 3 rfl rfl (dv_src ‹_›) ?_
        refine fd_eqA rfl rfl ‹_› ‹_› ‹_› ?_
        refine fR 1 rfl ?_
        refine fd_done rfl rfl ?_
        refine gR 1 rfl ?_
        exact g_join () trivial (fun a F => F.only [121, 15, 12, 4, 6, 7, 8, 10] rfl) (by (try dsimp only);repeat (first | exact .refl _ | with_reducible exact sC0 _ | with_reducible apply sC2 | apply sC1))
       ·rw [d2] at q2
        refine g_draw 21 152 rfl (by kernel_rfl) ?_
        refine fR 3 rfl ?_
        refine fd_ixS rfl rfl (by omega) (by omega) ?_
        refine fR 2 rfl ?_
        refine fd_ldA 1 rfl rfl (by with_reducible assumption) ?_
        refine fR 1 rfl ?_
        refine fd_ldA 3 rfl rfl (dv_dst ‹_›) ?_
        refine fd_eqA rfl rfl ‹_› ‹_› ‹_› ?_
        refine fR 3 rfl ?_
        refine fd_ixS rfl rfl (by omega) (by omega) ?_
        refine fR 2 rfl ?_
        refine fd_ldA 1 rfl rfl (by with_reducible assumption) ?_
        refine fR 1 rfl ?_
        refine fd_ldA 3 rfl rfl (dv_src ‹_›) ?_
        refine fd_eqA rfl rfl ‹_› ‹_› ‹_› ?_
        refine fR 1 rfl ?_
        refine fd_done rfl rfl ?_
        refine gR 1 rfl ?_
        exact g_join () trivial (fun a F => F.only [121, 15, 12, 4, 6, 7, 8, 10] rfl) (by (try dsimp only);repeat (first | exact .refl _ | with_reducible exact sC0 _ | with_reducible apply sC2 | apply sC1))
    rintro _ _
    clear q1 q2 g2 g3 g4 g5 g6 m3 m4 m5 m6
    cases hsm : (marked && sameV y.to mark)
    ·dsimp only
     rw [if_neg (by simp)]
     refine gR 10 rfl ?_
     refine g_loop (ι := Nat × InsV) ⟨fun (i, c) => (y :: ys).length - i, fun (i, c) => i ≤ (y :: ys).length ∧ c = cheap ((y :: ys).take i) y, fun (i, c) => [(134, .int .i64 i), (133, .int .i64 (y :: ys).length), (132, .slice (some ⟨bN, 0, none⟩) (y :: ys).length cN), (15, .pointer (some ⟨b15, 0, none⟩)), (10, .pointer (some ⟨b10, 0, none⟩))], fun (i, c) => [[(b15, .cells (inC c).toArray 50 (0, 0))], [(bN, .cells (insC (y :: ys) ++ junk).toArray 50 (0, 0))], [(b10, .cells inZ.toArray 50 (0, 0))]]⟩ (0, y) ⟨by omega, rfl⟩ (fun a F => F.only [134, 133, 132, 15, 10] rfl) (by repeat (first | exact .refl _ | apply sC2 | apply sC1)) ?_
     rintro ⟨j, c⟩ ⟨hj, hc⟩
     dsimp only
     have cI : IsIn c := by rw [hc];exact cheap_p (fun x hx => hnI x (List.mem_of_mem_take hx)) hyv
     by_cases hlt_j : j < (y :: ys).length
     ·have gi : seg (insC (y :: ys) ++ junk) (0 + (j : Int).toNat * 40) 40 = some (inC (y :: ys)[j]) := own_el hsz junk hlt_j (by omega)
      have xI := hnI _ (List.getElem_mem hlt_j)
      have hch := cheap_step (y := y) hlt_j
      rw [← hc] at hch
      obtain ⟨x, hx0⟩ : ∃ x, x = (y :: ys)[j] := ⟨_, rfl⟩
      rw [← hx0] at gi xI hch
      clear hc hx0
      by_cases k5 : x.own.met < c.own.met
      ·rw [if_pos k5] at hch
       refine gR 6 rfl ?_
       refine g_ifT rfl (decide_eq_true (by omega)) ?_
       refine gR 6 rfl ?_
       refine g_ixS rfl rfl (by omega) (by omega) ?_
       refine g_ldA 1 rfl rfl (by with_reducible assumption) ?_
       refine g_alloc fun b18 => ?_
       refine g_stA 0 rfl rfl (in_len ‹_›) (in_one _) rfl (put_all (by rw [in_len ‹_›];first | rfl | rw [in_len ‹_›])) rfl ?_
       refine gR 6 rfl ?_
       refine g_ld1 0 rfl rfl (in_own_met ‹_›) ?_
       refine gR 2 rfl ?_
       refine g_ld1 1 rfl rfl (in_own_met ‹_›) ?_
       refine gR 3 rfl ?_
       refine g_ifT rfl (decide_eq_true (by omega)) ?_
       refine gR 1 rfl ?_
       refine g_ldA 0 rfl rfl (in_all ‹_›) ?_
       refine g_stA 1 rfl rfl (in_len ‹_›) (in_one _) rfl (put_all (by rw [in_len ‹_›];first | rfl | rw [in_len ‹_›])) rfl ?_
       refine gR 4 rfl ?_
       refine g_add rfl rfl (w_i64 (by omega) (by omega)) ?_
       refine gR 2 rfl ?_
       exact g_next (j + 1, x) ⟨by omega, hch.symm⟩ (by dsimp only;omega) (fun a F => F.only [134, 133, 132, 15, 10] rfl) (by (try dsimp only);repeat (first | exact .refl _ | with_reducible exact sC0 _ | with_reducible apply sC2 | apply sC1))
      ·rw [if_neg k5] at hch
       refine gR 6 rfl ?_
       refine g_ifT rfl (decide_eq_true (by omega)) ?_
       refine gR 6 rfl ?_
       refine g_ixS rfl rfl (by omega) (by omega) ?_
       refine g_ldA 1 rfl rfl (by with_reducible assumption) ?_
       refine g_alloc fun b18 => ?_
       refine g_stA 0 rfl rfl (in_len ‹_›) (in_one _) rfl (put_all (by rw [in_len ‹_›];first | rfl | rw [in_len ‹_›])) rfl ?_
       refine gR 6 rfl ?_
       refine g_ld1 0 rfl rfl (in_own_met ‹_›) ?_
       refine gR 2 rfl ?_
       refine g_ld1 1 rfl rfl (in_own_met ‹_›) ?_
       refine gR 3 rfl ?_
       refine g_ifF rfl (decide_eq_false (by omega)) ?_
       refine gR 4 rfl ?_
       refine g_add rfl rfl (w_i64 (by omega) (by omega)) ?_
       refine gR 2 rfl ?_
       exact g_next (j + 1, c) ⟨by omega, hch.symm⟩ (by dsimp only;omega) (fun a F => F.only [134, 133, 132, 15, 10] rfl) (by (try dsimp only);repeat (first | exact .refl _ | with_reducible exact sC0 _ | with_reducible apply sC2 | apply sC1))
     ·have hje : j = (y :: ys).length := by omega
      rw [hje, List.take_length] at hc
      refine gR 6 rfl ?_
      refine g_ifF rfl (decide_eq_false (by omega)) ?_
      refine gR 2 rfl ?_
      refine g_outX ?_
      refine gR 1 rfl ?_
      exact g_join c ⟨cI, by rw [hc]⟩ (fun a F => F.only [15, 10] rfl) (by (try dsimp only);repeat (first | exact .refl _ | with_reducible exact sC0 _ | with_reducible apply sC2 | apply sC1))
    ·dsimp only
     rw [if_pos rfl]
     have hcl : ∀ w, Mem [] W w (List.flatten [[(b15, .cells (inC y).toArray 50 (0, 0))], [(bN, .cells (insC (y :: ys) ++ junk).toArray 50 (0, 0))], [(b10, .cells inZ.toArray 50 (0, 0))], [(b8, .cells (dvC mark).toArray 45 (0, 0))], [(b7, .cells (ipC dst).toArray 39 (0, 0))], [(b6, .cells (ipC src).toArray 39 (0, 0))]]) → ∀ w' (e : InsV), Ext [] w w' → e ∈ y :: ys → Cal Tryz.prog 110 [.agg (inC e).toArray, .pointer (some ⟨b8, 0, none⟩)].toArray w' fun v w'' => v = .bool (decide (e.to = mark)) ∧ Ext [] w' w'' := fun w M w' e E he =>
      lookup1_c e (hnI e he) mark hmk w' ((M.later E).at_ _ (nthO_mem (l := [[(b15, .cells (inC y).toArray 50 (0, 0))], [(bN, .cells (insC (y :: ys) ++ junk).toArray 50 (0, 0))], [(b10, .cells inZ.toArray 50 (0, 0))], [(b8, .cells (dvC mark).toArray 45 (0, 0))], [(b7, .cells (ipC dst).toArray 39 (0, 0))], [(b6, .cells (ipC src).toArray 39 (0, 0))]]) (i := 3) rfl))
     refine gR 5 rfl ?_
     refine g_v (fun a w F M R r => o_makeFunc (F.evs (xs := []) rfl) (F.evs (xs := [.tmp 8]) rfl) r) ?_
     refine g_call rfl rfl (fun w M => indexI_c (ls := y :: ys) w (hO.slAt M (fun p hp => by simp at hp;simp [hp])) hnI (by omega) 110 [.pointer (some ⟨b8, 0, none⟩)] (fun e => decide (e.to = mark)) (hcl w M)) ?_
     rcases findI_find (p := fun e : InsV => decide (e.to = mark)) (ls := y :: ys) with ⟨h1, h2⟩ | ⟨i, hi, h1, h2⟩
     ·rw [h1]
      refine gR 13 rfl ?_
      refine g_v (fun a w F M R r => o_build F rfl ‹_› r) ?_
      refine g_stA 2 rfl rfl (in_len ‹_›) (in_one _) rfl (put_all (by rw [in_len ‹_›];first | rfl | rw [in_len ‹_›])) rfl ?_
      refine gR 5 rfl ?_
      refine g_jR ?_
      refine gR 1 rfl ?_
      refine g_retC2 2 rfl rfl rfl rfl (in_all ‹_›) rfl fun w M => ?_
      exact tup_in (by rw [h2];rfl) M.ext
     ·rw [h1]
      have gi : seg (insC (y :: ys) ++ junk) (0 + (i : Int).toNat * 40) 40 = some (inC (y :: ys)[i]) := own_el hsz junk hi (by omega)
      have cI := hnI _ (List.getElem_mem hi)
      obtain ⟨c, hc⟩ : ∃ c, c = (y :: ys)[i] := ⟨_, rfl⟩
      rw [← hc] at gi cI h2
      refine gR 16 rfl ?_
      refine g_ixS rfl rfl (by omega) (by omega) ?_
      refine g_ldA 1 rfl rfl (by with_reducible assumption) ?_
      refine g_stA 0 rfl rfl (in_len ‹_›) (in_one _) rfl (put_all (by rw [in_len ‹_›];first | rfl | rw [in_len ‹_›])) rfl ?_
      refine gR 1 rfl ?_
      exact g_join c ⟨cI, by rw [h2]⟩ (fun a F => F.only [15, 10] rfl) (by (try dsimp only);repeat (first | exact .refl _ | with_reducible exact sC0 _ | with_reducible apply sC2 | apply sC1))
   rintro c ⟨cI, hE⟩
   rw [hE]
   by_cases k9 : c.nb = 0
   ·have k8 : (!decide (c.nb = 0)) = false := by simp [k9]
    refine gR 4 rfl ?_
    refine g_ldA 0 rfl rfl (in_all ‹_›) ?_
    refine g_call rfl rfl (fun w M => rtreach_c _ ‹_› _) ?_
    refine gR 3 rfl ?_
    refine g_ifT rfl (notT ‹_›) ?_
    refine gR 2 rfl ?_
    refine g_v (fun a w F M R r => o_build F rfl ‹_› r) ?_
    refine g_stA 1 rfl rfl (in_len ‹_›) (in_one _) rfl (put_all (by rw [in_len ‹_›];first | rfl | rw [in_len ‹_›])) rfl ?_
    refine gR 5 rfl ?_
    refine g_retC2 1 rfl rfl rfl rfl (in_all ‹_›) rfl fun w M => ?_
    exact tup_in (by unfold endN;simp [k9]) M.ext
   ·have k8 : (!decide (c.nb = 0)) = true := by simp [k9]
    refine gR 4 rfl ?_
    refine g_ldA 0 rfl rfl (in_all ‹_›) ?_
    refine g_call rfl rfl (fun w M => rtreach_c _ ‹_› _) ?_
    refine gR 3 rfl ?_
    refine g_ifF rfl (notF ‹_›) ?_
    refine gR 4 rfl ?_
    refine g_ldA 0 rfl rfl (in_all ‹_›) ?_
    refine g_stA 1 rfl rfl (in_len ‹_›) (in_one _) rfl (put_all (by rw [in_len ‹_›];first | rfl | rw [in_len ‹_›])) rfl ?_
    refine gR 4 rfl ?_
    refine g_retC2 1 rfl rfl rfl rfl (in_all ‹_›) rfl fun w M => ?_
    exact tup_in (by unfold endN;simp [k9]) M.ext
end Go.Proofs.YtilgoepokaaleaaGreat
/-! YV -/
namespace Go.Proofs.YtilgoepokaaleaaGreat
set_option linter.unusedVariables false
set_option linter.unusedSimpArgs false
open Go.RowKit
attribute [local irreducible] OpTo wpListIn Code.wpIn MW Cal
theorem dests_asc {l : List RouV} {old : List InsV} (hx : ∀ x ∈ l, IsRo x) (hy : ∀ x ∈ old, IsIn x) : AscD (destsV l old) ∧ (∀ x, x ∈ destsV l old ↔ x ∈ allD l old) := foldr_insD fun x h => by
 rcases List.mem_append.1 h with h | h
 ·obtain ⟨y, h1, rfl⟩ := List.mem_map.1 h
  exact (hx y h1).1
 ·obtain ⟨y, h1, rfl⟩ := List.mem_map.1 h
  exact (hy y h1).1
theorem dests_is {l : List RouV} {old : List InsV} (hx : ∀ x ∈ l, IsRo x) (hy : ∀ x ∈ old, IsIn x) : ∀ t ∈ destsV l old, IsDv t := fun t h => by
 rcases List.mem_append.1 (((dests_asc hx hy).2 t).1 h) with h | h
 ·obtain ⟨y, h1, rfl⟩ := List.mem_map.1 h
  exact (hx y h1).1
 ·obtain ⟨y, h1, rfl⟩ := List.mem_map.1 h
  exact (hy y h1).1
/-- the first of what is still to come -/
theorem yet_le {α : Type} {to : α → DstV} {l : List α} {t : DstV} {ds : List DstV} {i : Nat} (hd : AscD (t :: ds)) (h : Yet to l (t :: ds) i) (hi : i < l.length) : ¬ cmpD (to l[i]) t < 0 := fun h1 => by
 rcases List.mem_cons.1 (h.yet i hi (Nat.le_refl _)) with h2 | h2
 ·rw [h2, cmpD_self] at h1
  omega
 ·have h3 := (List.pairwise_cons.1 hd).1 _ h2
  have h4 := cmpD_anti t (to l[i])
  omega
theorem yet_at {α : Type} {to : α → DstV} {l : List α} {t : DstV} {ds : List DstV} {i : Nat} (hT : ∀ x ∈ l, IsDv (to x)) (ht : IsDv t) (hW : Weak to l) (hd : AscD (t :: ds)) (h : Yet to l (t :: ds) i) (hm : t ∈ l.map to) : ∃ hi : i < l.length, to l[i] = t := by
 obtain ⟨x, hx, e⟩ := List.mem_map.1 hm
 obtain ⟨j, hj, rfl⟩ := List.mem_iff_getElem.1 hx
 have hij : i ≤ j := Nat.le_of_not_lt fun h1 => h.gone j hj h1 (by rw [e];simp)
 have hi : i < l.length := by omega
 refine ⟨hi, ?_⟩
 rcases Nat.lt_or_ge i j with h1 | h1
 ·have h2 := (List.pairwise_iff_getElem.1 hW) i j hi hj h1
  rw [e] at h2
  have h3 := yet_le hd h hi
  have h4 := cmpD_anti (to l[i]) t
  exact cmpD_zero (hT _ (List.getElem_mem hi)) ht (by omega)
 ·obtain rfl : i = j := by omega
  exact e
structure RdI (l : List RouV) (old : List InsV) (out ds : List DstV) (i k : Nat) : Prop where
 all : destsV l old = out ++ ds
 y1 : Yet RouV.to l ds i
 y2 : Yet InsV.to old ds k
theorem RdI.ds {l : List RouV} {old : List InsV} {out ds : List DstV} {i k : Nat} (h : RdI l old out ds i k) (hx : ∀ x ∈ l, IsRo x) (hy : ∀ x ∈ old, IsIn x) : AscD ds ∧ (∀ x ∈ ds, IsDv x) ∧ ∀ x ∈ ds, x ∈ l.map RouV.to ∨ x ∈ old.map InsV.to := by
 have h1 := dests_asc hx hy
 rw [h.all] at h1
 refine ⟨(List.pairwise_append.1 h1.1).2.1, fun x hm => dests_is hx hy x (by rw [h.all];exact List.mem_append_right _ hm), fun x hm => ?_⟩
 exact List.mem_append.1 ((h1.2 x).1 (List.mem_append_right _ hm))
theorem RdI.nil {l : List RouV} {old : List InsV} {out ds : List DstV} {i k : Nat} (h : RdI l old out ds i k) (hx : ∀ x ∈ l, IsRo x) (hy : ∀ x ∈ old, IsIn x) (h1 : ¬ i < l.length) (h2 : ¬ k < old.length) : destsV l old = out := by
 cases ds with
 | nil => rw [h.all, List.append_nil]
 | cons t ds =>
  obtain ⟨g1, g2, g3⟩ := h.ds hx hy
  exfalso
  rcases g3 t (by simp) with g | g
  ·obtain ⟨x, hx1, e⟩ := List.mem_map.1 g
   obtain ⟨j, hj, rfl⟩ := List.mem_iff_getElem.1 hx1
   exact h.y1.gone j hj (by omega) (by rw [e];simp)
  ·obtain ⟨x, hx1, e⟩ := List.mem_map.1 g
   obtain ⟨j, hj, rfl⟩ := List.mem_iff_getElem.1 hx1
   exact h.y2.gone j hj (by omega) (by rw [e];simp)
theorem RdI.head {l : List RouV} {old : List InsV} {out ds : List DstV} {i k : Nat} (h : RdI l old out ds i k) (hx : ∀ x ∈ l, IsRo x) (hy : ∀ x ∈ old, IsIn x) (hW1 : Weak RouV.to l) (hW2 : Weak InsV.to old) (hne : i < l.length ∨ k < old.length) :
  ∃ t ds', ds = t :: ds' ∧ IsDv t ∧ (∀ hi : i < l.length, (∀ hk : k < old.length, cmpD l[i].to old[k].to ≤ 0) → l[i].to = t) ∧ (∀ hk : k < old.length, (∀ hi : i < l.length, 0 < cmpD l[i].to old[k].to) → old[k].to = t) ∧ ((∃ hi : i < l.length, l[i].to = t) ∨ ∃ hk : k < old.length, old[k].to = t) := by
 obtain ⟨g1, g2, g3⟩ := h.ds hx hy
 cases ds with
 | nil =>
  exfalso
  rcases hne with h1 | h1
  ·exact (by simpa using h.y1.yet i h1 (Nat.le_refl _))
  ·exact (by simpa using h.y2.yet k h1 (Nat.le_refl _))
 | cons t ds =>
  have ht := g2 t (by simp)
  have hT1 : ∀ x ∈ l, IsDv (RouV.to x) := fun x hm => (hx x hm).1
  have hT2 : ∀ x ∈ old, IsDv (InsV.to x) := fun x hm => (hy x hm).1
  have F3 : (∃ hi : i < l.length, l[i].to = t) ∨ ∃ hk : k < old.length, old[k].to = t := by
   rcases g3 t (by simp) with g | g
   ·exact .inl (yet_at hT1 ht hW1 g1 h.y1 g)
   ·exact .inr (yet_at hT2 ht hW2 g1 h.y2 g)
  refine ⟨t, ds, rfl, ht, fun hi hc => ?_, fun hk hc => ?_, F3⟩
  ·rcases F3 with ⟨_, h1⟩ | ⟨hk, h1⟩
   ·exact h1
   ·have h2 := hc hk
    rw [h1] at h2
    have h3 := yet_le g1 h.y1 hi
    exact cmpD_zero (hT1 _ (List.getElem_mem hi)) ht (by omega)
  ·rcases F3 with ⟨hi, h1⟩ | ⟨_, h1⟩
   ·have h2 := hc hi
    rw [h1] at h2
    have h3 := yet_le g1 h.y2 hk
    have h4 := cmpD_anti t old[k].to
    omega
   ·exact h1
theorem RdI.next {l : List RouV} {old : List InsV} {out ds : List DstV} {t : DstV} {i k i' k' : Nat} (h : RdI l old out (t :: ds) i k) (hx : ∀ x ∈ l, IsRo x) (hy : ∀ x ∈ old, IsIn x) (hW1 : Weak RouV.to l) (hW2 : Weak InsV.to old)
  (a1 : i ≤ i') (a2 : i' ≤ l.length) (a3 : ∀ j (hj : j < l.length), i ≤ j → j < i' → l[j].to = t) (a4 : ∀ hj : i' < l.length, l[i'].to ≠ t)
  (b1 : k ≤ k') (b2 : k' ≤ old.length) (b3 : ∀ j (hj : j < old.length), k ≤ j → j < k' → old[j].to = t) (b4 : ∀ hj : k' < old.length, old[k'].to ≠ t) : RdI l old (out ++ [t]) ds i' k' := by
 obtain ⟨g1, g2, _⟩ := h.ds hx hy
 exact ⟨by rw [h.all];simp, (Yet.next hW1 g1 g2 h.y1 a1 a2 a3 a4).1, (Yet.next hW2 g1 g2 h.y2 b1 b2 b3 b4).1⟩
theorem RdI.start {l : List RouV} {old : List InsV} (hx : ∀ x ∈ l, IsRo x) (hy : ∀ x ∈ old, IsIn x) : RdI l old [] (destsV l old) 0 0 := ⟨rfl, ⟨Nat.zero_le _, fun j hj h => by omega, fun j hj _ => ((dests_asc hx hy).2 _).2 (List.mem_append_left _ (List.mem_map.2 ⟨_, List.getElem_mem hj, rfl⟩))⟩, ⟨Nat.zero_le _, fun j hj h => by omega, fun j hj _ => ((dests_asc hx hy).2 _).2 (List.mem_append_right _ (List.mem_map.2 ⟨_, List.getElem_mem hj, rfl⟩))⟩⟩
end Go.Proofs.YtilgoepokaaleaaGreat
/-! YW -/
namespace Go.Proofs.YtilgoepokaaleaaGreat
set_option linter.unusedVariables false
set_option linter.unusedSimpArgs false
open Go.RowKit
section
variable {now : Int} {t : DstV} {op : List OptV} {said : List (Int × DisV)}
theorem aft_cho {o : Option InsV} (h : (chooseV now (befV o) op).nb ≠ 0) : aftV now t o op said = some ⟨t, (chooseV now (befV o) op).nb, ⟨((getA (chooseV now (befV o) op).nb said).getD di0).seq, (chooseV now (befV o) op).cost⟩, (chooseV now (befV o) op).btn, 0⟩ := by
 unfold aftV
 dsimp only
 rw [if_pos h]
theorem aft_none (h : (chooseV now (befV none) op).nb = 0) : aftV now t none op said = none := by
 unfold aftV
 dsimp only
 rw [if_neg (by simp [h])]
theorem aft_some {w : InsV} (h : (chooseV now (befV (some w)) op).nb = 0) : aftV now t (some w) op said = if w.nb ≠ 0 then some ⟨t, 0, ⟨w.own.seq, inf⟩, -1, laterV now 14⟩ else if now < w.til then some w else none := by
 unfold aftV
 dsimp only
 rw [if_neg (by simp [h])]
end
theorem dests_ok {l : List RouV} {old : List InsV} (hx : ∀ x ∈ l, IsRo x) (hy : ∀ x ∈ old, IsIn x) (h1 : validRs l = true) (h2 : validIs old = true) : ∀ t ∈ destsV l old, validT t = true := fun t h => by
 rcases List.mem_append.1 (((dests_asc hx hy).2 t).1 h) with h | h
 ·obtain ⟨y, h3, rfl⟩ := List.mem_map.1 h
  have := (validRs_iff.1 h1).2.1 y h3
  simp only [rou1, Bool.and_eq_true] at this
  exact this.1.1.1
 ·obtain ⟨y, h3, rfl⟩ := List.mem_map.1 h
  have := (validIs_iff.1 h2).2.1 y h3
  simp only [ins1, Bool.and_eq_true] at this
  exact this.1
end Go.Proofs.YtilgoepokaaleaaGreat
/-! ZV -/
namespace Go.Proofs.YtilgoepokaaleaaGreat
set_option linter.unusedVariables false
set_option linter.unusedSimpArgs false
open Go.RowKit
attribute [local irreducible] OpTo wpListIn Code.wpIn MW Cal
theorem selI_is {now : Int} {l : List RouV} {s : List SrcV} {o : List OptV} {old : List InsV} (hi : ∀ x ∈ l, IsRo x) (ho : ∀ x ∈ old, IsIn x) : ∀ x ∈ selV now l s o old, IsIn x := fun x hx => by
 obtain ⟨t, ht, h⟩ := List.mem_filterMap.1 hx
 refine selE_is ?_ ho h
 rcases (mem_dests hi ho).1 ht with ⟨r, hr, rfl⟩ | ⟨r, hr, rfl⟩
 ·exact (hi r hr).1
 ·exact (ho r hr).1
theorem selI_len {now : Int} {l : List RouV} {s : List SrcV} {o : List OptV} {old : List InsV} (hi : ∀ x ∈ l, IsRo x) (ho : ∀ x ∈ old, IsIn x) : (selV now l s o old).length ≤ l.length + old.length := by
 have h1 : (destsV l old).length ≤ (allD l old).length := by
  have hd : ∀ x ∈ allD l old, IsDv x := fun x hx => by
   unfold allD at hx
   rcases List.mem_append.1 hx with h | h
   ·obtain ⟨r, hr, rfl⟩ := List.mem_map.1 h
    exact (hi r hr).1
   ·obtain ⟨r, hr, rfl⟩ := List.mem_map.1 h
    exact (ho r hr).1
  have := foldr_insD hd
  exact nodupD_le this.1 fun x hx => (this.2 x).1 hx
 have h2 : (allD l old).length = l.length + old.length := by unfold allD;simp
 have h3 : (selV now l s o old).length ≤ (destsV l old).length := List.length_filterMap_le _ _
 omega
theorem sel_ok {now : Int} {l : List RouV} {s : List SrcV} {o : List OptV} {old : List InsV} (hi : ∀ x ∈ l, IsRo x) (ho : ∀ x ∈ old, IsIn x) (h1 : validRs l = true) (h2 : validSs s = true) (h3 : validOs o = true) (h4 : validIs old = true) (h5 : isTime now = true) (hn : l.length + old.length ≤ 512) : selectV now l s o old = (selV now l s o old, 0) := by
 unfold selectV
 have := selI_len (now := now) (s := s) (o := o) hi ho
 rw [h1, h2, h3, h4, h5, if_neg (by simp), if_neg (by simp), if_neg (by omega)]
end Go.Proofs.YtilgoepokaaleaaGreat
/-! Y8 -/
namespace Go.Proofs.YtilgoepokaaleaaGreat
set_option linter.unusedVariables false
set_option linter.unusedSimpArgs false
open Go.RowKit
attribute [local irreducible] OpTo wpListIn Code.wpIn MW Cal
def x0 : AdvV := ⟨⟨[], 0, [], 0, 0⟩, ⟨0, 0⟩⟩
def LoK (T l : List AdvV) (i k : Nat) : Prop := ∀ j (hj : j < T.length) i' (hi : i' < l.length), j < k → i ≤ i' → cmpD T[j].to l[i'].to < 0
theorem asc_at {l : List AdvV} (h : AscA l) {i j : Nat} (hi : i < l.length) (hj : j < l.length) (hij : i < j) : cmpD l[i].to l[j].to < 0 := List.pairwise_iff_getElem.1 h i j hi hj hij
theorem LoK.next {T l : List AdvV} {i k : Nat} (h : LoK T l i k) : LoK T l (i + 1) k := fun j hj i' hi h1 h2 => h j hj i' hi h1 (by omega)
theorem LoK.skip {T l : List AdvV} {i k : Nat} (h : LoK T l i k) (hl : AscA l) (hk : k < T.length) (hlt : ∀ hi : i < l.length, cmpD T[k].to l[i].to < 0) : LoK T l i (k + 1) := fun j hj i' hi' h1 h2 => by
 rcases Nat.lt_or_ge j k with h3 | h3
 ·exact h j hj i' hi' h3 h2
 ·obtain rfl : j = k := by omega
  rcases Nat.lt_or_ge i i' with h4 | h4
  ·exact cmpD_trans (hlt (by omega)) (asc_at hl (by omega) hi' h4)
  ·obtain rfl : i = i' := by omega
   exact hlt hi'
theorem Mem.empty (w : World) : Mem [] w w [] := ⟨Ext.refl _ _, fun p hp => (by cases hp), by simp, fun p hp => (by cases hp)⟩
end Go.Proofs.YtilgoepokaaleaaGreat
/-! Y9 -/
namespace Go.Proofs.YtilgoepokaaleaaGreat
set_option linter.unusedVariables false
set_option linter.unusedSimpArgs false
open Go.RowKit
attribute [local irreducible] OpTo wpListIn Code.wpIn MW Cal
theorem MapIn.mk {κ : Type} {w : World} {kv : κ → Value} {b : Nat} {o : Obj} {m : List (κ × Value)} (h : w.heap[b]? = some o) (hA : MapAt kv m o) : MapIn w kv (.map (some b)) m := ⟨b, o, rfl, h, hA⟩
end Go.Proofs.YtilgoepokaaleaaGreat
/-! YD -/
namespace Go.Proofs.YtilgoepokaaleaaGreat
set_option linter.unusedVariables false
set_option linter.unusedSimpArgs false
open Go.RowKit
attribute [local irreducible] OpTo wpListIn Code.wpIn MW Cal
def VarI (l s m : List AdvV) : Prop := (m.map AdvV.to).Sublist (s.map AdvV.to) ∧ ∀ y ∈ m, IsAv y ∧ (validM y.own.met = true ∨ ∃ z ∈ l, z.own = y.own)
theorem VarI.add {l s m : List AdvV} {x y : AdvV} (h : VarI l s m) (e : y.to = x.to) (hy : IsAv y ∧ (validM y.own.met = true ∨ ∃ z ∈ l, z.own = y.own)) : VarI l (s ++ [x]) (m ++ [y]) := by
 refine ⟨?_, fun z hz => ?_⟩
 ·rw [List.map_append, List.map_append, List.map_singleton, List.map_singleton, e]
  exact h.1.append (List.Sublist.refl _)
 ·rcases List.mem_append.1 hz with h1 | h1
  ·exact h.2 z h1
  ·simp only [List.mem_singleton] at h1
   rw [h1];exact hy
theorem VarI.skip {l s m : List AdvV} {x : AdvV} (h : VarI l s m) : VarI l (s ++ [x]) m := ⟨by rw [List.map_append];exact h.1.trans (List.sublist_append_left _ _), h.2⟩
end Go.Proofs.YtilgoepokaaleaaGreat
/-! YE -/
namespace Go.Proofs.YtilgoepokaaleaaGreat
set_option linter.unusedVariables false
set_option linter.unusedSimpArgs false
open Go.RowKit
attribute [local irreducible] OpTo wpListIn Code.wpIn MW Cal
def SlV (n : Nat) (cs : List Value) : Pred := fun v w => SlAt w 37 v n cs
theorem SlV.stays (n : Nat) (cs : List Value) : Stays keepAll (SlV n cs) := fun _ _ _ h E => SlAt.later h E
end Go.Proofs.YtilgoepokaaleaaGreat
/-! YL -/
namespace Go.Proofs.YtilgoepokaaleaaGreat
set_option linter.unusedVariables false
set_option linter.unusedSimpArgs false
open Go.RowKit
attribute [local irreducible] OpTo wpListIn Code.wpIn MW Cal
def ElP {α : Type} (Is : α → Prop) (enc : α → List Value) : Pred := fun v _ => ∃ x, Is x ∧ v = .agg (enc x).toArray
theorem ElP.stays {α : Type} {Is : α → Prop} {enc : α → List Value} (K : Keep) : Stays K (ElP Is enc) := fun _ _ _ h _ => h
theorem mem_set {α : Type} {Is : α → Prop} {l : List α} {q : Nat} {x : α} (h : ∀ y ∈ l, Is y) (hx : Is x) : ∀ y ∈ l.set q x, Is y := fun y hy => by
 rcases List.mem_or_eq_of_mem_set hy with h1 | rfl
 ·exact h y h1
 ·exact hx
end Go.Proofs.YtilgoepokaaleaaGreat

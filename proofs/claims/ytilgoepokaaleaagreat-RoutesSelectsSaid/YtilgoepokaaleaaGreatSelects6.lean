/-
  Texts joined: YA, YB, YC, ZK, ZS, ZR, ZT, ZI, ZL, ZU, ZY, YT, YU, YV, YW, ZV, YX, Y8, Y9, YD, YE.
-/
import Derived.Test.YtilgoepokaaleaaGreatSelects5
/-! YA -/
namespace Go.Proofs.YtilgoepokaaleaaGreat
set_option linter.unusedVariables false
set_option linter.unusedSimpArgs false
open Go.RowKit
attribute [local irreducible] OpTo wpListIn Code.wpIn MW Cal
theorem seqE_c {bt : Nat} {p : Option Addr} {len cap k : Nat} {xs : List Int} (W : World) (hT : TapeS W bt p len xs) (hb : W.heap[bt]? = some (tobj p len cap k)) :
  Cal Tryz.prog 88 [.pointer (some ⟨bt, 0, none⟩)].toArray W fun v w' => ∃ x k', v = .int .u16 x ∧ Mem [bt] W w' [(bt, tobj p len cap k')] := by
 refine fn_ofM (n := 7) [bt] Tryz.func88 rfl rfl rfl ?_
 intro a w F M hwW
 replace M := M.came hwW hb (by simp) (by simp)
 refine c_seq (c_region ?_)
 refine sD F (o_assign (F.e rfl) ?_);clear F a;intro a F
 with_reducible refine l_nil (q_then (c_seq (c_region ?_)))
 refine sD F (o_move (F.e rfl) ?_);clear F a;intro a F
 (refine sD F (o_call (F.e rfl) (F.evs rfl) (Cal.mono (nextE_c 6 (by omega) (by omega) _ (hT.later M.ext) (M.heap .here) ) ?_));clear F;clear a;have M0 := M;clear M;rintro _ w ⟨x, k', rfl, hx, N⟩ a F)
 replace M := M0.turn1 N .here
 clear M0 N
 refine sD F (o_sub (F.e rfl) (F.e rfl) (w_i64 (by omega) (by omega)) ?_);clear F a;intro a F
 refine sD F (o_conv (F.e rfl) rfl ?_);clear F a;intro a F
 refine sD F (o_assign (F.e rfl) ?_);clear F a;intro a F
 with_reducible refine l_nil (q_then (c_ret ?_))
 refine p_ret F rfl (.cons (.tmp (F.e rfl)) .nil) ?_
 exact ⟨_, k', rfl, M⟩
theorem costE_c {bt : Nat} {p : Option Addr} {len cap k : Nat} {xs : List Int} (W : World) (hT : TapeS W bt p len xs) (hb : W.heap[bt]? = some (tobj p len cap k)) :
  Cal Tryz.prog 44 [.pointer (some ⟨bt, 0, none⟩)].toArray W fun v w' => ∃ x k', v = .int .i64 x ∧ (0 ≤ x ∧ x ≤ 65534) ∧ Mem [bt] W w' [(bt, tobj p len cap k')] := by
 refine fn_ofM (n := 18) [bt] Tryz.func44 rfl rfl rfl ?_
 intro a w F M hwW
 replace M := M.came hwW hb (by simp) (by simp)
 refine c_seq (c_region ?_)
 refine sD F (o_assign (F.e rfl) ?_);clear F a;intro a F
 with_reducible refine l_nil (q_then (c_seq (c_seq (c_region ?_))))
 refine sD F (o_move (F.e rfl) ?_);clear F a;intro a F
 (refine sD F (o_call (F.e rfl) (F.evs rfl) (Cal.mono (nextE_c 6 (by omega) (by omega) _ (hT.later M.ext) (M.heap .here) ) ?_));clear F;clear a;have M0 := M;clear M;rintro _ w ⟨x, k', rfl, hx, N⟩ a F)
 replace M := M0.turn1 N .here
 clear M0 N
 by_cases c1 : x = 0
 ·with_reducible refine l_nil ?_
  with_reducible refine q_then (c_block (c_seq (c_region ?_)))
  refine sD F (o_eqlT (F.e rfl) (F.e rfl) (by omega) ?_);clear F a;intro a F
  refine sD F (o_assign (F.e rfl) ?_);clear F a;intro a F
  with_reducible refine l_nil (q_then ?_)
  refine c_true F rfl rfl ?_
  refine c_seq (c_region ?_)
  refine sD F (o_move (F.e rfl) ?_);clear F a;intro a F
  (refine sD F (o_call (F.e rfl) (F.evs rfl) (Cal.mono (nextE_c 4 (by omega) (by omega) _ (hT.later M.ext) (M.heap .here) ) ?_));clear F;clear a;have M0 := M;clear M;rintro _ w ⟨x2, k2, rfl, hx2, N⟩ a F)
  replace M := M0.turn1 N .here
  refine sD F (o_assign (F.e rfl) ?_);clear F a;intro a F
  with_reducible refine l_nil (q_then (c_ret (q_inBR (q_thenR ?_))))
  refine p_ret F rfl (.cons (.tmp (F.e rfl)) .nil) ?_
  exact ⟨_, k2, rfl, by omega, M⟩
 by_cases c2 : x = 1
 ·with_reducible refine l_nil ?_
  with_reducible refine q_then (c_block (c_seq (c_region ?_)))
  refine sD F (o_eqlF (F.e rfl) (F.e rfl) (by omega) ?_);clear F a;intro a F
  refine sD F (o_assign (F.e rfl) ?_);clear F a;intro a F
  with_reducible refine l_nil (q_then ?_)
  refine c_false F rfl rfl ?_
  refine c_seq (c_region ?_)
  refine sD F (o_eqlT (F.e rfl) (F.e rfl) (by omega) ?_);clear F a;intro a F
  refine sD F (o_assign (F.e rfl) ?_);clear F a;intro a F
  with_reducible refine l_nil (q_then ?_)
  refine c_true F rfl rfl ?_
  refine c_seq (c_region ?_)
  refine sD F (o_move (F.e rfl) ?_);clear F a;intro a F
  (refine sD F (o_call (F.e rfl) (F.evs rfl) (Cal.mono (nextE_c 600 (by omega) (by omega) _ (hT.later M.ext) (M.heap .here) ) ?_));clear F;clear a;have M0 := M;clear M;rintro _ w ⟨x2, k2, rfl, hx2, N⟩ a F)
  replace M := M0.turn1 N .here
  refine sD F (o_sub (F.e rfl) (F.e rfl) (w_i64 (by omega) (by omega)) ?_);clear F a;intro a F
  refine sD F (o_assign (F.e rfl) ?_);clear F a;intro a F
  with_reducible refine l_nil (q_then (c_ret (q_inBR (q_thenR ?_))))
  refine p_ret F rfl (.cons (.tmp (F.e rfl)) .nil) ?_
  exact ⟨_, k2, rfl, by omega, M⟩
 ·with_reducible refine l_nil ?_
  with_reducible refine q_then (c_block (c_seq (c_region ?_)))
  refine sD F (o_eqlF (F.e rfl) (F.e rfl) (by omega) ?_);clear F a;intro a F
  refine sD F (o_assign (F.e rfl) ?_);clear F a;intro a F
  with_reducible refine l_nil (q_then ?_)
  refine c_false F rfl rfl ?_
  refine c_seq (c_region ?_)
  refine sD F (o_eqlF (F.e rfl) (F.e rfl) (by omega) ?_);clear F a;intro a F
  refine sD F (o_assign (F.e rfl) ?_);clear F a;intro a F
  with_reducible refine l_nil (q_then ?_)
  refine c_false F rfl rfl ?_
  with_reducible refine c_skip (q_inB (q_then (c_seq (c_region ?_))))
  refine sD F (o_move (F.e rfl) ?_);clear F a;intro a F
  (refine sD F (o_call (F.e rfl) (F.evs rfl) (Cal.mono (nextE_c 30 (by omega) (by omega) _ (hT.later M.ext) (M.heap .here) ) ?_));clear F;clear a;have M0 := M;clear M;rintro _ w ⟨x2, k2, rfl, hx2, N⟩ a F)
  replace M := M0.turn1 N .here
  refine sD F (o_mul (F.e rfl) (F.e rfl) (w_i64 (by omega) (by omega)) ?_);clear F a;intro a F
  refine sD F (o_add (F.e rfl) (F.e rfl) (w_i64 (by omega) (by omega)) ?_);clear F a;intro a F
  refine sD F (o_assign (F.e rfl) ?_);clear F a;intro a F
  with_reducible refine l_nil (q_then (c_ret ?_))
  refine p_ret F rfl (.cons (.tmp (F.e rfl)) .nil) ?_
  exact ⟨_, k2, rfl, by omega, M⟩
theorem distE_c {bt : Nat} {p : Option Addr} {len cap k : Nat} {xs : List Int} (W : World) (hT : TapeS W bt p len xs) (hb : W.heap[bt]? = some (tobj p len cap k)) :
  Cal Tryz.prog 39 [.pointer (some ⟨bt, 0, none⟩)].toArray W fun v w' => ∃ x k', v = diV x ∧ (0 ≤ x.met ∧ x.met ≤ 65534) ∧ Mem [bt] W w' [(bt, tobj p len cap k')] := by
 refine fn_ofM (n := 8) [bt] Tryz.func39 rfl rfl rfl ?_
 intro a w F M hwW
 replace M := M.came hwW hb (by simp) (by simp)
 refine c_seq ?_
 refine c_region ?_
 (refine sD F (o_alloc M ?_);clear F M;intro b2 w M a F)
 with_reducible refine l_nil (q_then (c_seq (c_region ?_)))
 refine sD F (o_move (F.e rfl) ?_);clear F a;intro a F
 (refine sD F (o_call (F.e rfl) (F.evs rfl) (Cal.mono (seqE_c _ (hT.later M.ext) (M.heap (.there .here)) ) ?_));clear F;clear a;have M0 := M;clear M;rintro _ w ⟨x, k1, rfl, N⟩ a F)
 replace M := M0.turn1 N (.there .here)
 clear M0 N
 refine sD F (o_move (F.e rfl) ?_);clear F a;intro a F
 (refine sD F (o_call (F.e rfl) (F.evs rfl) (Cal.mono (costE_c _ (hT.later M.ext) (M.heap (.there .here)) ) ?_));clear F;clear a;have M0 := M;clear M;rintro _ w ⟨y, k2, rfl, hy, N⟩ a F)
 replace M := M0.turn1 N (.there .here)
 clear M0 N
 refine sD F (o_build F rfl rfl ?_);clear F a;intro a F
 (refine stepN rfl F (o_storeA M (F.e rfl) (F.e rfl) (by rfl) (by rfl) (by repeat constructor) (by rfl) (by repeat constructor) ?_);clear F M;intro w M a F)
 with_reducible refine l_nil (q_then (c_ret ?_))
 exact p_ret F rfl (.cons (.cell (F.e rfl) (run_loadVar_agg TAgg.h (M.heap (by repeat constructor)) rfl)) .nil) ⟨⟨x, y⟩, k2, rfl, hy, M.sub (.cons _ (.refl _))⟩
def tabTo : List Int := [128, 128, 64, 0]
theorem tabTo_bd (i : Nat) : 0 ≤ tabTo.getD i 0 ∧ tabTo.getD i 0 ≤ 128 := by
 rcases Nat.lt_or_ge i 4 with h | h
 ·have : ∀ i : Fin 4, 0 ≤ tabTo.getD i.val 0 ∧ tabTo.getD i.val 0 ≤ 128 := by decide
  exact this ⟨i, h⟩
 ·rw [List.getD_eq_getElem?_getD, List.getElem?_eq_none (by simpa [tabTo] using h)]
  simp
def zr16 : List Int := [0, 0, 0, 0, 0, 0, 0, 0, 0, 0, 0, 0, 0, 0, 0, 0]
theorem zr16_is : IsIP zr16 := ⟨rfl, by intro x hx;simp [zr16] at hx;omega⟩
theorem dv_buildT {z : List Int} (hz : IsIP z) (n e : Int) : putAll [(0, 17), (17, 17), (34, 1)] dvZ [(0, pfC z n), (2, [.int .u64 e])] = some (dvC ⟨z, n, zr16, 0, e⟩) := by
 obtain ⟨z0, z1, z2, z3, z4, z5, z6, z7, z8, z9, z10, z11, z12, z13, z14, z15, ez⟩ := len16 hz.len
 subst ez
 rfl
theorem zero_valid : validP zr16 0 = true := by decide
set_option maxHeartbeats 1000000 in
theorem toE_c {bt : Nat} {p : Option Addr} {len cap k : Nat} {xs : List Int} (W : World) (hT : TapeS W bt p len xs) (hb : W.heap[bt]? = some (tobj p len cap k)) :
  Cal Tryz.prog 20 [.pointer (some ⟨bt, 0, none⟩)].toArray W fun v w' => ∃ x k', v = dvV x ∧ IsDv x ∧ validT x = true ∧ Mem [bt] W w' [(bt, tobj p len cap k')] := by
 refine fn_ofM (n := 21) [bt] Tryz.func20 rfl rfl rfl ?_
 intro a w F M hwW
 replace M := M.came hwW hb (by simp) (by simp)
 refine c_seq ?_
 refine c_region ?_
 (refine sD F (o_alloc M ?_);clear F M;intro b2 w M a F)
 with_reducible refine l_nil (q_then (c_seq (c_region ?_)))
 refine sD F (o_move (F.e rfl) ?_);clear F a;intro a F
 (refine sD F (o_call (F.e rfl) (F.evs rfl) (Cal.mono (wipD_c _ (hT.later M.ext) (M.heap (.there .here)) ) ?_));clear F;clear a;have M0 := M;clear M;rintro _ w ⟨rfl, N⟩ a F)
 replace M := M0.turn1 N (.there .here)
 clear M0 N
 have hip := wipV_is xs k
 generalize wipV xs k = ip at *
 generalize wipK xs k = k1 at *
 skip
 (refine sD F (o_buildSlice F M rfl rfl rfl rfl ?_);clear F M;intro b6 w M a F)
 refine sD F (o_move (F.e rfl) ?_);clear F a;intro a F
 (refine sD F (o_call (F.e rfl) (F.evs rfl) (Cal.mono (next_c 4 (by omega) (by omega) _ (hT.later M.ext) (M.heap (.there (.there .here))) ) ?_));clear F;clear a;have M0 := M;clear M;rintro _ w ⟨rfl, N⟩ a F)
 replace M := M0.turn1 N (.there (.there .here))
 clear M0 N
 have v1 := nxV_bd xs k1 (n := 4) (by omega)
 have n1 := nth_tab (k := .i64) (xs := tabTo) v1.1 (by simpa [tabTo] using v1.2)
 have hbd := tabTo_bd (nxV xs k1 4).toNat
 (refine sD F (o_indexSl (F.e rfl) (F.e rfl) (by omega) (by omega) ?_);clear F a;intro a F)
 (refine sD F (o_load1 M (F.e rfl) (by repeat constructor) (n1) ?_);clear F a;intro a F)
 generalize tabTo.getD (nxV xs k1 4).toNat 0 = n at *
 generalize nxV xs k1 4 = q at *
 generalize nxK xs k1 = k2 at *
 have hcl : clampB n = n := clamp_in hbd.1 hbd.2
 (refine sD F (o_call (F.e rfl) (F.evs rfl) (Cal.mono (Cal.to (rmask_c ip hip n _) (by rw [hcl])) ?_));clear F;clear a;rintro _ w ⟨rfl, hE⟩ a F;replace M := M.later hE;clear hE)
 have hmi := mask_isIP hip n
 have hvm := valid_mask hip hbd.1 hbd.2
 generalize maskI ip n = mip at *
 refine sD F (o_move (F.e rfl) ?_);clear F a;intro a F
 (refine sD F (o_call (F.e rfl) (F.evs rfl) (Cal.mono (eui_c _ (hT.later M.ext) (M.heap (.there (.there .here))) ) ?_));clear F;clear a;have M0 := M;clear M;rintro _ w ⟨e, k3, rfl, he, N⟩ a F)
 replace M := M0.turn1 N (.there (.there .here))
 clear M0 N
 have hd : IsDv ⟨mip, n, zr16, 0, e⟩ := ⟨hmi, zr16_is⟩
 (refine sD F (o_build F rfl (dv_buildT hmi n e) ?_);clear F a;intro a F)
 skip
 (refine sD F (o_alloc M ?_);clear F M;intro b3 w M a F)
 (refine stepN rfl F (o_storeA M (F.e rfl) (F.e rfl) (dv_len hd) (dv_one _)  (by repeat constructor)  (put_all (by rw [dv_len hd];rfl)) (by repeat constructor) ?_);clear F M;intro w M a F)
 with_reducible refine l_nil (q_then (c_seq (c_seq (c_region ?_))))
 refine sD F (o_move (F.e rfl) ?_);clear F a;intro a F
 (refine sD F (o_call (F.e rfl) (F.evs rfl) (Cal.mono (boolE_c 3 (by omega) (by omega) _ (hT.later M.ext) (M.heap (.there (.there (.there .here)))) ) ?_));clear F;clear a;have M0 := M;clear M;rintro _ w ⟨c, k4, rfl, N⟩ a F)
 replace M := M0.turn1 N (.there (.there (.there .here)))
 clear M0 N
 cases c
 ·have g0 := dv_all hd
  with_reducible refine l_nil (q_then ?_)
  refine c_false F rfl rfl ?_
  with_reducible refine c_skip (q_then (c_seq (c_region ?_)))
  refine sD F (o_loadA M (F.e rfl) (by repeat constructor) (by first | assumption | rfl) ?_);clear F a;intro a F
  (refine stepN rfl F (o_storeA M (F.e rfl) (F.e rfl) (dv_len hd) (dv_one _)  (by repeat constructor)  (put_all (by rw [dv_len hd];rfl)) (by repeat constructor) ?_);clear F M;intro w M a F)
  with_reducible refine l_nil (q_then (c_ret ?_))
  exact p_ret F rfl (.cons (.cell (F.e rfl) (run_loadVar_agg TAgg.h (M.heap (by repeat constructor)) g0)) .nil) ⟨_, k4, rfl, hd, by simp [validT, hvm, zero_valid];omega, M.sub (by repeat (first | exact List.Sublist.refl _ | apply sC1))⟩
 ·with_reducible refine l_nil ?_
  with_reducible refine q_then ?_
  refine c_true F rfl rfl ?_
  refine c_region ?_
  refine sD F (o_move (F.e rfl) ?_);clear F a;intro a F
  (refine sD F (o_call (F.e rfl) (F.evs rfl) (Cal.mono (wprefix_c _ (hT.later M.ext) (M.heap (.there (.there (.there .here)))) ) ?_));clear F;clear a;have M0 := M;clear M;rintro _ w ⟨rfl, N⟩ a F)
  replace M := M0.turn1 N (.there (.there (.there .here)))
  clear M0 N
  have hpi : IsIP (maskI (wpA xs k4) (wpN xs k4)) := mask_isIP (wipV_is _ _) _
  have hpb := wpN_bd xs k4
  have hpv := valid_mask (wipV_is xs (wpK0 xs k4)) hpb.1 hpb.2
  change validP (maskI (wpA xs k4) (wpN xs k4)) (wpN xs k4) = true at hpv
  generalize maskI (wpA xs k4) (wpN xs k4) = sip at *
  generalize wpN xs k4 = sn at *
  generalize wpK xs k4 = k5 at *
  have hd2 : IsDv ⟨mip, n, sip, sn, e⟩ := ⟨hmi, hpi⟩
  have g0 := dv_all hd2
  refine sD F (o_fieldAddr (F.e rfl) ?_);clear F a;intro a F
  (refine stepN rfl F (o_storeA M (F.e rfl) (F.e rfl) (pfC_len hpi.len sn) (one_pf _ _)  (by repeat constructor)  (dv_put_src hd hpi sn) (by repeat constructor) ?_);clear F M;intro w M a F)
  replace M : Mem [bt] W w [(b3, .cells (dvC ⟨mip, n, sip, sn, e⟩).toArray 45 (0, 0)), (b6, _), (b2, _), (bt, _)] := M
  with_reducible refine l_nil (q_then (c_seq (c_region ?_)))
  refine sD F (o_loadA M (F.e rfl) (by repeat constructor) (by first | assumption | rfl) ?_);clear F a;intro a F
  (refine stepN rfl F (o_storeA M (F.e rfl) (F.e rfl) (dv_len hd2) (dv_one _)  (by repeat constructor)  (put_all (by rw [dv_len hd2];rfl)) (by repeat constructor) ?_);clear F M;intro w M a F)
  with_reducible refine l_nil (q_then (c_ret ?_))
  exact p_ret F rfl (.cons (.cell (F.e rfl) (run_loadVar_agg TAgg.h (M.heap (by repeat constructor)) g0)) .nil) ⟨_, k5, rfl, hd2, by simp [validT, hvm, hpv];omega, M.sub (by repeat (first | exact List.Sublist.refl _ | apply sC1))⟩
end Go.Proofs.YtilgoepokaaleaaGreat
/-! YB -/
namespace Go.Proofs.YtilgoepokaaleaaGreat
set_option linter.unusedVariables false
set_option linter.unusedSimpArgs false
open Go.RowKit
attribute [local irreducible] OpTo wpListIn Code.wpIn MW Cal
def SlN (n0 : Nat) (W : World) (sz : Nat) (v : Value) (n : Nat) (cs : List Value) : Prop := SlAt W sz v n cs ∧ NewV n0 v
section
variable {n0 n1 bt sz n : Nat} {W w : World} {v : Value} {cs : List Value}
theorem SlN.mono (h : SlN n1 W sz v n cs) (hle : n0 ≤ n1) : SlN n0 W sz v n cs := ⟨h.1, fun b o s k c e => Nat.le_trans hle (h.2 b o s k c e)⟩
theorem SlN.notIn (h : SlN n0 W sz v n cs) (hbt : bt < n0) : ∀ b o s k c, v = .slice (some ⟨b, o, s⟩) k c → b ∉ [bt] := fun b o s k c e hb => by
 have := h.2 b o s k c e
 simp only [List.mem_singleton] at hb
 omega
theorem SlN.laterB (h : SlN n0 W sz v n cs) (hbt : bt < n0) (E : Ext [bt] W w) : SlN n0 w sz v n cs := ⟨h.1.laterB (h.notIn hbt) E, h.2⟩
theorem SlN.later (h : SlN n0 W sz v n cs) (E : Ext [] W w) : SlN n0 w sz v n cs := ⟨h.1.later E, h.2⟩
theorem SlN.nil (n0 sz : Nat) (W : World) : SlN n0 W sz (.slice none 0 0) 0 [] := ⟨SlAt.nil _ _, NewV.nil _ _ _⟩
theorem OwnS.slN {e : TypeId} {ent : List (Nat × Obj)} (h : OwnS e sz v n cs ent) {S : List Nat} {W0 : World} {l : List (Nat × Obj)} (M : Mem S W0 w l) (hs : ∀ p ∈ ent, p ∈ l) (hS : ∀ p ∈ ent, p.1 ∉ S) : SlN W0.heap.size w sz v n cs := by
 refine ⟨h.slAt M hs, ?_⟩
 rcases h with ⟨rfl, _, _, rfl⟩ | ⟨b, cap, junk, rfl, rfl, _, _, _⟩
 ·exact NewV.nil _ _ _
 ·intro b' o s n c h
  cases h
  exact (M.own _ (hs _ List.mem_cons_self)).resolve_left (hS _ List.mem_cons_self)
theorem SlAt.mem {q : Option Addr} {cap : Nat} (h : SlAt W sz (.slice q n cap) n cs) : 0 < n → ∃ b o xs t fz, q = some ⟨b, o, none⟩ ∧ W.heap[b]? = some (.cells (List.toArray xs) t fz) ∧ seg xs o (n * sz) = some cs := by
 obtain ⟨p, cap', e, _, _, _, h5⟩ := h
 cases e
 exact h5
theorem nd_not {b : Nat} {o : Obj} {l ent : List (Nat × Obj)} (h : (((b, o) :: l).map (·.1)).Nodup) (hs : ∀ p ∈ ent, p ∈ l) : ∀ p ∈ ent, p.1 ∉ [b] := fun p hp hb => by
 simp only [List.mem_singleton] at hb
 exact (List.nodup_cons.1 h).1 (List.mem_map.2 ⟨p, hs p hp, hb⟩)
end
def putG (x : InsV) : Bool → List InsV → List InsV
 | done, [] => if done then [] else [x]
 | done, y :: l => (if decide (0 ≤ cmpD y.to x.to) && !done then [x] else []) ++ ((if cmpD y.to x.to = 0 then [] else [y]) ++ putG x (done || decide (0 ≤ cmpD y.to x.to)) l)
theorem putG_cons {x y : InsV} {l : List InsV} {done : Bool} : putG x done (y :: l) = (if decide (0 ≤ cmpD y.to x.to) && !done then [x] else []) ++ ((if cmpD y.to x.to = 0 then [] else [y]) ++ putG x (done || decide (0 ≤ cmpD y.to x.to)) l) := by
 conv => lhs;unfold putG
theorem putG_mem {x : InsV} : ∀ {done : Bool} {l : List InsV} {z : InsV}, z ∈ putG x done l → z = x ∨ z ∈ l
 | done, [], z, h => by
  unfold putG at h
  cases done <;> simp_all
 | done, y :: l, z, h => by
  unfold putG at h
  rcases List.mem_append.1 h with h | h
  ·split at h
   ·exact .inl (by simpa using h)
   ·cases h
  ·rcases List.mem_append.1 h with h | h
   ·split at h
    ·cases h
    ·exact .inr (by simp at h;simp [h])
   ·exact (putG_mem h).imp_right fun h => List.mem_cons_of_mem _ h
theorem putG_len {x : InsV} : ∀ {done : Bool} {l : List InsV}, (putG x done l).length ≤ l.length + (if done then 0 else 1)
 | done, [] => by
  unfold putG
  cases done <;> simp
 | done, y :: l => by
  rw [putG_cons]
  have := putG_len (x := x) (done := done || decide (0 ≤ cmpD y.to x.to)) (l := l)
  generalize decide (0 ≤ cmpD y.to x.to) = g at *
  have h1 : (if cmpD y.to x.to = 0 then [] else [y]).length ≤ 1 := by split <;> simp
  generalize (if cmpD y.to x.to = 0 then [] else [y]) = ys at *
  rw [List.length_append, List.length_append, List.length_cons]
  cases done <;> cases g <;> simp at this ⊢ <;> omega
theorem putG_done {x : InsV} : ∀ {l : List InsV}, (∀ y ∈ l, cmpD x.to y.to < 0) → putG x true l = l
 | [], _ => rfl
 | y :: l, h => by
  have h1 := h y List.mem_cons_self
  have h2 := cmpD_anti x.to y.to
  rw [putG_cons, Bool.true_or, putG_done fun z hz => h z (List.mem_cons_of_mem _ hz), Bool.not_true, Bool.and_false, if_neg Bool.false_ne_true, if_neg (show ¬ cmpD y.to x.to = 0 by omega)]
  rfl
theorem putG_asc {x : InsV} (hx : IsDv x.to) : ∀ {l : List InsV}, AscK InsV.to l → (∀ y ∈ l, IsDv y.to) → AscK InsV.to (putG x false l)
 | [], _, _ => by
  unfold putG
  exact List.pairwise_singleton _ _
 | y :: l, h, hd => by
  obtain ⟨h1, h2⟩ := List.pairwise_cons.1 h
  have ih := putG_asc hx h2 fun z hz => hd z (List.mem_cons_of_mem _ hz)
  have ha := cmpD_anti y.to x.to
  rw [putG_cons]
  rcases Int.lt_trichotomy (cmpD y.to x.to) 0 with hc | hc | hc
  ·rw [decide_eq_false (by omega), if_neg (show ¬ cmpD y.to x.to = 0 by omega)]
   simp only [Bool.false_and, Bool.false_or, Bool.false_eq_true, if_false, List.nil_append, List.cons_append]
   refine List.pairwise_cons.2 ⟨fun z hz => ?_, ih⟩
   rcases putG_mem hz with rfl | hz
   ·exact hc
   ·exact h1 z hz
  ·have e := cmpD_zero (hd y List.mem_cons_self) hx hc
   rw [decide_eq_true (by omega), if_pos hc]
   have hl : ∀ z ∈ l, cmpD x.to z.to < 0 := fun z hz => by rw [← e];exact h1 z hz
   simp only [Bool.not_false, Bool.true_and, if_true, Bool.or_true, List.nil_append, putG_done hl, List.singleton_append]
   exact List.pairwise_cons.2 ⟨hl, h2⟩
  ·rw [decide_eq_true (by omega), if_neg (show ¬ cmpD y.to x.to = 0 by omega)]
   have hl : ∀ z ∈ l, cmpD x.to z.to < 0 := fun z hz => cmpD_trans (show cmpD x.to y.to < 0 by omega) (h1 z hz)
   simp only [Bool.not_false, Bool.true_and, if_true, Bool.or_true, putG_done hl, List.singleton_append]
   refine List.pairwise_cons.2 ⟨fun z hz => ?_, h⟩
   rcases List.mem_cons.1 hz with rfl | hz
   ·omega
   ·exact hl z hz
set_option maxHeartbeats 4000000 in
theorem put_c (l : List InsV) (hl : ∀ x ∈ l, IsIn x) (x : InsV) (hx : IsIn x) (hlen : l.length ≤ 100000) (v : Value) (W : World) (hS : SlAt W 40 v l.length (insC l)) :
  Cal Tryz.prog 54 [v, .agg (inC x).toArray].toArray W fun r w' => ∃ ent, OwnS 50 40 r (putG x false l).length (insC (putG x false l)) ent ∧ Mem [] W w' ent := by
 obtain ⟨q, cap, rfl, hcap, hsp, hll, hm⟩ := hS
 have x1 : (inC x).length = 40 := in_len hx
 have x2 := in_all hx
 have x3 := in_to hx
 have hpl := putG_len (x := x) (done := false) (l := l)
 rw [if_neg (by simp)] at hpl
 refine fn_ofM (n := 45) [] Tryz.func54 rfl rfl rfl ?_
 intro a w F M hwW
 refine c_seq ?_
 refine c_region ?_
 (refine sD F (o_box M (F.e rfl) rfl ?_);clear F M;intro b3 w M a F)
 refine sD F (o_assign (F.e rfl) ?_);clear F a;intro a F
 with_reducible refine l_nil (q_then (c_seq (c_region ?_)))
 refine sD F (o_assign (F.e rfl) ?_);clear F a;intro a F
 with_reducible refine l_nil (q_then (c_seq (c_region ?_)))
 refine sD F (o_assign (F.e rfl) ?_);clear F a;intro a F
 with_reducible refine l_nil (q_then (c_seq (c_seq (c_region ?_))))
 refine sD F (o_move (F.e rfl) ?_);clear F a;intro a F
 refine sD F (o_lenSl (F.e rfl) ?_);clear F a;intro a F
 refine sD F (o_move (F.e rfl) ?_);clear F a;intro a F
 with_reducible refine l_nil (q_then (c_block ?_))
 obtain ⟨u, hu⟩ : ∃ u, u = Value.slice none 0 0 := ⟨_, rfl⟩
 rw [← hu] at F
 obtain ⟨es, hes⟩ : ∃ es : List (Nat × Obj), es = [] := ⟨_, rfl⟩
 replace M : Mem [] W w ((b3, .cells (inC x).toArray 50 (0, 0)) :: es) := by
  rw [hes]
  exact M
 have hOs : OwnS 50 40 u ([] : List InsV).length (insC []) es := by
  rw [hu, hes]
  exact OwnS.nil _ _
 clear hu hes
 refine c_loop (fun m a w => ∃ (i : Nat) (u : Value) (dn : Bool) (out : List InsV) (es : List (Nat × Obj)), m = l.length - i ∧ i ≤ l.length ∧ out ++ putG x dn (l.drop i) = putG x false l ∧ OwnS 50 40 u out.length (insC out) es ∧ Frm a 45 [] [(12, .int .i64 i), (11, .int .i64 l.length), (10, .slice q l.length cap), (5, u), (6, .bool dn), (3, .pointer (some ⟨b3, 0, none⟩))] ∧ Mem [] W w ((b3, .cells (inC x).toArray 50 (0, 0)) :: es)) l.length ⟨0, u, false, [], es, rfl, by omega, rfl, hOs, F.only [12, 11, 10, 5, 6, 3] rfl, M⟩ ?_
 clear F M a w hOs u es
 rintro m a w ⟨i, u, dn, out, es, hm', hi, hout, hOs, F, M⟩
 have hol : out.length ≤ 100001 := by
  have := congrArg List.length hout
  rw [List.length_append] at this
  omega
 by_cases hlt : i < l.length
 ·obtain ⟨b, o, cs, t, fz, rfl, hb, hs⟩ := hm (by omega)
  obtain ⟨y, hy0⟩ : ∃ y, y = l[i] := ⟨_, rfl⟩
  have hyi : IsIn y := by rw [hy0];exact hl _ (List.getElem_mem hlt)
  have f1 : seg cs (o + (i : Int).toNat * 40) 40 = some (inC y) := by rw [hy0];exact seg_el (ins_len hl) hs hlt (by omega)
  rw [← List.getElem_cons_drop hlt, ← hy0, putG_cons] at hout
  have f2 : (inC y).length = 40 := in_len hyi
  have f3 := in_to hyi
  have f4 := in_all hyi
  refine c_seq (c_region ?_)
  refine sD F (o_lssT (F.e rfl) (F.e rfl) (by omega) ?_);clear F a;intro a F
  with_reducible refine l_nil (q_then (c_seq ?_))
  refine c_true F rfl rfl ?_
  with_reducible refine c_skip (q_then (c_seq (c_block (c_seq (c_region ?_)))))
  refine sD F (o_indexSl (F.e rfl) (F.e rfl) (by omega) (by omega) ?_);clear F a;intro a F
  refine sD F (o_loadWA M (F.e rfl) ‹_› (by first | assumption | rfl) ?_);clear F a;intro a F
  (refine sD F (o_alloc M ?_);clear F M;intro b8 w M a F)
  skip
  (refine stepN rfl F (o_storeA M (F.e rfl) (F.e rfl) (f2) (in_one y)  (by repeat constructor)  (put_all (by rw [f2];rfl)) (by repeat constructor) ?_);clear F M;intro w M a F)
  with_reducible refine l_nil (q_then (c_seq (c_region ?_)))
  refine sD F (o_fieldAddr (F.e rfl) ?_);clear F a;intro a F
  refine sD F (o_loadA M (F.e rfl) (by repeat constructor) (by first | assumption | rfl) ?_);clear F a;intro a F
  refine sD F (o_fieldAddr (F.e rfl) ?_);clear F a;intro a F
  refine sD F (o_loadA M (F.e rfl) (by repeat constructor) (by first | assumption | rfl) ?_);clear F a;intro a F
  (refine sD F (o_call (F.e rfl) (F.evs rfl) (Cal.mono (rcompare_c y.to x.to hyi.1 hx.1 _) ?_));clear F;clear a;rintro _ w ⟨rfl, hE⟩ a F;replace M := M.later hE;clear hE)
  generalize cmpD y.to x.to = cc at *
  refine sD F (o_assign (F.e rfl) ?_);clear F a;intro a F
  with_reducible refine l_nil ?_
  refine q_then ?_
  refine c_seq ?_
  refine c_cut (fun a w => ∃ (u : Value) (out2 : List InsV) (es : List (Nat × Obj)), out2 = out ++ (if decide (0 ≤ cc) && !dn then [x] else []) ∧ OwnS 50 40 u out2.length (insC out2) es ∧ Frm a 45 [] [(9, .int .i64 cc), (12, .int .i64 i), (11, .int .i64 l.length), (10, .slice (some ⟨b, o, none⟩) l.length cap), (5, u), (6, .bool (dn || decide (0 ≤ cc))), (3, .pointer (some ⟨b3, 0, none⟩)), (8, .pointer (some ⟨b8, 0, none⟩))] ∧ Mem [] W w ((b8, .cells (inC y).toArray 50 (0, 0)) :: (b3, .cells (inC x).toArray 50 (0, 0)) :: es)) ?_ ?_
  ·by_cases hc : 0 ≤ cc
   ·rw [decide_eq_true hc]
    cases dn
    ·refine c_seq ?_
     refine c_region ?_
     refine sD F (o_move (F.e rfl) ?_);clear F a;intro a F
     refine sD F (o_geqT (F.e rfl) (F.e rfl) (by omega) ?_);clear F a;intro a F
     refine sD F (o_move (F.e rfl) ?_);clear F a;intro a F
     refine sG F (o_move (F.e rfl) ?_);clear F a;intro a F
     refine sG F (o_not (F.e rfl) ?_);clear F a;intro a F
     refine sD F (o_pickT (F.e rfl) (F.e rfl) ?_);clear F a;intro a F
     with_reducible refine l_nil (q_then ?_)
     refine c_true F rfl rfl ?_
     refine c_seq (c_region ?_)
     refine sD F (o_move (F.e rfl) ?_);clear F a;intro a F
     refine sD F (o_loadA M (F.e rfl) (by repeat constructor) (by first | assumption | rfl) ?_);clear F a;intro a F
     (refine sD F (o_buildSlice F M rfl rfl rfl (in_build1 hx) ?_);clear F M;intro bs w M a F)
     (refine sD F (o_append hOs M (.cons (.cons (.cons .here))) (F.e rfl) (F.e rfl) (SrcOf.cells' (M.heap .here) (sg_all (by omega)) (in_one _)) (by omega) (by omega) ?_);clear F M;intro v2 es2 w hO2 M a F)
     refine sD F (o_assign (F.e rfl) ?_);clear F a;intro a F
     with_reducible refine l_nil (q_then (c_region ?_))
     refine sD F (o_assign (F.e rfl) ?_);clear F a;intro a F
     with_reducible refine l_nil ?_
     exact ⟨v2, _, es2, rfl, by show OwnS _ 40 _ (out ++ [x]).length (encL inC (out ++ [x])) _;rw [show (out ++ [x]).length = out.length + 1 by simp, encL_app, encL_one];exact hO2, F.only [9, 12, 11, 10, 5, 6, 3, 8] rfl, M.sub (.cons _ (.refl _))⟩
    ·refine c_seq ?_
     refine c_region ?_
     refine sD F (o_move (F.e rfl) ?_);clear F a;intro a F
     refine sD F (o_geqT (F.e rfl) (F.e rfl) (by omega) ?_);clear F a;intro a F
     refine sD F (o_move (F.e rfl) ?_);clear F a;intro a F
     refine sG F (o_move (F.e rfl) ?_);clear F a;intro a F
     refine sG F (o_not (F.e rfl) ?_);clear F a;intro a F
     refine sD F (o_pickT (F.e rfl) (F.e rfl) ?_);clear F a;intro a F
     with_reducible refine l_nil (q_then ?_)
     refine c_false F rfl rfl ?_
     with_reducible refine c_skip ?_
     exact ⟨u, _, es, rfl, by rw [if_neg (by simp), List.append_nil];exact hOs, F.only [9, 12, 11, 10, 5, 6, 3, 8] rfl, M⟩
   ·rw [decide_eq_false hc]
    refine c_seq (c_region ?_)
    refine sD F (o_move (F.e rfl) ?_);clear F a;intro a F
    refine sD F (o_geqF (F.e rfl) (F.e rfl) (by omega) ?_);clear F a;intro a F
    refine sD F (o_move (F.e rfl) ?_);clear F a;intro a F
    refine sO F ?_;clear F a;intro a F
    refine sO F ?_;clear F a;intro a F
    refine sD F (o_pickF (F.e rfl) (F.e rfl) ?_);clear F a;intro a F
    with_reducible refine l_nil (q_then ?_)
    refine c_false F rfl rfl ?_
    with_reducible refine c_skip ?_
    exact ⟨u, _, es, rfl, by rw [if_neg (by simp), List.append_nil];exact hOs, by rw [Bool.or_false];exact F.only [9, 12, 11, 10, 5, 6, 3, 8] rfl, M⟩
  clear F M a w hOs u es
  rintro a w ⟨u, out2, es, hout2, hOs, F, M⟩
  rw [← List.append_assoc, ← hout2] at hout
  have hol2 : out2.length ≤ 100001 := by
   have := congrArg List.length hout
   rw [List.length_append] at this
   omega
  generalize (dn || decide (0 ≤ cc)) = dn2 at *
  by_cases hc : cc = 0
  ·rw [if_pos hc, List.nil_append] at hout
   with_reducible refine q_then (c_seq (c_region ?_))
   refine sD F (o_move (F.e rfl) ?_);clear F a;intro a F
   refine sD F (o_neqF (F.e rfl) (F.e rfl) (by omega) ?_);clear F a;intro a F
   with_reducible refine l_nil (q_then ?_)
   refine c_false F rfl rfl ?_
   with_reducible refine c_skip (q_inB (q_then (c_region ?_)))
   refine sD F (o_add (F.e rfl) (F.e rfl) (w_i64 (by omega) (by omega)) ?_);clear F a;intro a F
   refine sD F (o_move (F.e rfl) ?_);clear F a;intro a F
   with_reducible refine l_nil (q_then ?_)
   exact ⟨_, by omega, i + 1, u, dn2, out2, es, rfl, by omega, hout, hOs, F.only [12, 11, 10, 5, 6, 3] rfl, M.sub (.cons _ (.refl _))⟩
  ·rw [if_neg hc, ← List.append_assoc] at hout
   with_reducible refine q_then (c_seq (c_region ?_))
   refine sD F (o_move (F.e rfl) ?_);clear F a;intro a F
   refine sD F (o_neqT (F.e rfl) (F.e rfl) (by omega) ?_);clear F a;intro a F
   with_reducible refine l_nil (q_then ?_)
   refine c_true F rfl rfl ?_
   refine c_region ?_
   refine sD F (o_move (F.e rfl) ?_);clear F a;intro a F
   refine sD F (o_loadA M (F.e rfl) (by repeat constructor) (by first | assumption | rfl) ?_);clear F a;intro a F
   (refine sD F (o_buildSlice F M rfl rfl rfl (in_build1 hyi) ?_);clear F M;intro bs w M a F)
   (refine sD F (o_append hOs M (.cons (.cons (.cons .here))) (F.e rfl) (F.e rfl) (SrcOf.cells' (M.heap .here) (sg_all (by omega)) (in_one _)) (by omega) (by omega) ?_);clear F M;intro v2 es2 w hO2 M a F)
   refine sD F (o_assign (F.e rfl) ?_);clear F a;intro a F
   with_reducible refine l_nil (q_inB (q_then (c_region ?_)))
   refine sD F (o_add (F.e rfl) (F.e rfl) (w_i64 (by omega) (by omega)) ?_);clear F a;intro a F
   refine sD F (o_move (F.e rfl) ?_);clear F a;intro a F
   with_reducible refine l_nil (q_then ?_)
   exact ⟨_, by omega, i + 1, v2, dn2, out2 ++ [y], es2, rfl, by omega, hout, by show OwnS _ 40 _ (out2 ++ [y]).length (encL inC (out2 ++ [y])) _;rw [show (out2 ++ [y]).length = out2.length + 1 by simp, encL_app, encL_one];exact hO2, F.only [12, 11, 10, 5, 6, 3] rfl, M.sub (.cons _ (.cons _ (.refl _)))⟩
 ·obtain rfl : i = l.length := by omega
  rw [List.drop_length] at hout
  cases dn
  ·have hout : out ++ [x] = putG x false l := hout
   rw [← hout]
   refine c_seq (c_region ?_)
   refine sD F (o_lssF (F.e rfl) (F.e rfl) (by omega) ?_);clear F a;intro a F
   with_reducible refine l_nil (q_then (c_seq ?_))
   refine c_false F rfl rfl ?_
   with_reducible refine c_exit (q_thenX (q_thenX (q_inBX (q_then (c_seq (c_seq (c_region ?_)))))))
   refine sD F (o_move (F.e rfl) ?_);clear F a;intro a F
   refine sD F (o_not (F.e rfl) ?_);clear F a;intro a F
   with_reducible refine l_nil (q_then ?_)
   refine c_true F rfl rfl ?_
   refine c_region ?_
   refine sD F (o_move (F.e rfl) ?_);clear F a;intro a F
   refine sD F (o_loadA M (F.e rfl) (by repeat constructor) (by first | assumption | rfl) ?_);clear F a;intro a F
   (refine sD F (o_buildSlice F M rfl rfl rfl (in_build1 hx) ?_);clear F M;intro bs w M a F)
   (refine sD F (o_append hOs M (.cons (.cons .here)) (F.e rfl) (F.e rfl) (SrcOf.cells' (M.heap .here) (sg_all (by omega)) (in_one _)) (by omega) (by omega) ?_);clear F M;intro v2 es2 w hO2 M a F)
   refine sD F (o_assign (F.e rfl) ?_);clear F a;intro a F
   with_reducible refine l_nil (q_then (c_seq (c_region ?_)))
   refine sD F (o_move (F.e rfl) ?_);clear F a;intro a F
   refine sD F (o_assign (F.e rfl) ?_);clear F a;intro a F
   with_reducible refine l_nil (q_then (c_ret ?_))
   refine p_ret F rfl (.cons (.tmp (F.e rfl)) .nil) ?_
   exact ⟨es2, by show OwnS _ 40 _ (out ++ [x]).length (encL inC (out ++ [x])) _;rw [show (out ++ [x]).length = out.length + 1 by simp, encL_app, encL_one];exact hO2, M.sub (.cons _ (.cons _ (.refl _)))⟩
  ·have hout : out ++ [] = putG x false l := hout
   rw [List.append_nil] at hout
   rw [← hout]
   refine c_seq (c_region ?_)
   refine sD F (o_lssF (F.e rfl) (F.e rfl) (by omega) ?_);clear F a;intro a F
   with_reducible refine l_nil (q_then (c_seq ?_))
   refine c_false F rfl rfl ?_
   with_reducible refine c_exit (q_thenX (q_thenX (q_inBX (q_then (c_seq (c_seq (c_region ?_)))))))
   refine sD F (o_move (F.e rfl) ?_);clear F a;intro a F
   refine sD F (o_not (F.e rfl) ?_);clear F a;intro a F
   with_reducible refine l_nil (q_then ?_)
   refine c_false F rfl rfl ?_
   with_reducible refine c_skip (q_then (c_seq (c_region ?_)))
   refine sD F (o_move (F.e rfl) ?_);clear F a;intro a F
   refine sD F (o_assign (F.e rfl) ?_);clear F a;intro a F
   with_reducible refine l_nil (q_then (c_ret ?_))
   refine p_ret F rfl (.cons (.tmp (F.e rfl)) .nil) ?_
   exact ⟨es, hOs, M.sub (.cons _ (.refl _))⟩
end Go.Proofs.YtilgoepokaaleaaGreat
/-! YC -/
namespace Go.Proofs.YtilgoepokaaleaaGreat
set_option linter.unusedVariables false
set_option linter.unusedSimpArgs false
open Go.RowKit
attribute [local irreducible] OpTo wpListIn Code.wpIn MW Cal
theorem validM_of {m : Int} (h : 0 ≤ m ∧ m ≤ 65534) : validM m = true := by
 unfold validM
 rw [decide_eq_true h.1, decide_eq_true (by omega)]
 rfl
end Go.Proofs.YtilgoepokaaleaaGreat
/-! ZK -/
namespace Go.Proofs.YtilgoepokaaleaaGreat
set_option linter.unusedVariables false
set_option linter.unusedSimpArgs false
open Go.RowKit
attribute [local irreducible] OpTo wpListIn Code.wpIn MW Cal
def OkR (x : InsV) : Prop := IsIn x ∧ ins1 x = true
structure InsR (n0 : Nat) (W : World) (v : Value) (l : List InsV) : Prop where
 at_ : SlN n0 W 40 v l.length (insC l)
 ok : ∀ x ∈ l, OkR x
 asc : AscK InsV.to l
theorem okR_held {d : DstV} (hd : IsDv d) (hv : validT d = true) {o : DisV} {z : Int} (hz : isTime z = true) : OkR ⟨d, 0, { o with met := 65535 }, -1, z⟩ := by
 refine ⟨⟨hd, trivial⟩, ?_⟩
 unfold ins1 inf
 dsimp only
 rw [hv, hz]
 simp
theorem wt_time {xs : List Int} {k : Nat} {now : Int} (h0 : 0 ≤ now) (h1 : now ≤ 1099511627776) : isTime (wtV xs k now) = true := by
 unfold wtV isTime
 simp only [Bool.and_eq_true, decide_eq_true_eq]
 repeat' split
 all_goals omega
end Go.Proofs.YtilgoepokaaleaaGreat
/-! ZS -/
namespace Go.Proofs.YtilgoepokaaleaaGreat
set_option linter.unusedVariables false
set_option linter.unusedSimpArgs false
open Go.RowKit
attribute [local irreducible] OpTo wpListIn Code.wpIn MW Cal
theorem time_bd {t : Int} (h : isTime t = true) : 0 ≤ t ∧ t ≤ 1099511627776 := by
 simpa [isTime, Bool.and_eq_true, decide_eq_true_eq] using h
theorem later_time {a d : Int} (h : isTime a = true) (hd : 0 ≤ d) : isTime (laterV a d) = true := by
 have := time_bd h
 unfold laterV isTime
 simp only [Bool.and_eq_true, decide_eq_true_eq]
 split <;> omega
theorem learn_valid {l : List RouV} {now : Int} {t : DstV} {nb : Int} {d : DisV} (h : (learnV l now t nb d).2 = 0) : validRs (learnV l now t nb d).1 = true := by
 unfold learnV at h ⊢
 split at h
 ·cases h
 ·rename_i h1
  rw [if_neg h1]
  simp only [Bool.or_eq_true, Bool.not_eq_true', decide_eq_true_eq, not_or, Bool.not_eq_false] at h1
  obtain ⟨⟨⟨h1, h2⟩, h3⟩, h4⟩ := h1
  split at h
  ·cases h
  ·rename_i h5
   rw [if_neg h5]
   simp only [Bool.not_eq_true', Bool.not_eq_false] at h5
   split at h
   ·cases h
   ·rename_i h6
    rw [if_neg h6]
    obtain ⟨g1, g2, g3⟩ := validRs_iff.1 h1
    refine validRs_iff.2 ⟨by dsimp only;omega, fun a ha => ?_, asc_putR g3⟩
    rcases mem_putR.1 ha with ⟨k1, rfl⟩ | ⟨k1, _⟩
    ·unfold rou1 finD
     dsimp only
     rw [h2, h3, k1, decide_eq_false h4, later_time h5 (by omega)]
     rfl
    ·exact g2 a k1
theorem learn_is {l : List RouV} {now : Int} {t : DstV} {nb : Int} {d : DisV} (hx : ∀ x ∈ l, IsRo x) (ht : IsDv t) : ∀ x ∈ (learnV l now t nb d).1, IsRo x := by
 intro x h
 unfold learnV at h
 split at h
 ·cases h
 ·split at h
  ·cases h
  ·split at h
   ·cases h
   ·rcases mem_putR.1 h with ⟨_, rfl⟩ | ⟨k1, _⟩
    ·exact ⟨ht, trivial⟩
    ·exact hx x k1
theorem learn_len {l : List RouV} {now : Int} {t : DstV} {nb : Int} {d : DisV} : (learnV l now t nb d).1.length ≤ l.length + 1 := by
 unfold learnV
 split
 ·simp
 ·rename_i h1
  split
  ·simp
  ·split
   ·simp
   ·simp only [Bool.or_eq_true, Bool.not_eq_true', decide_eq_true_eq, not_or, Bool.not_eq_false] at h1
    dsimp only
    rw [← putR_merge (validRs_iff.1 h1.1.1.1).2.2]
    have := mergeG_len (fun y => cmpR y ⟨t, nb, d, laterV now 10⟩) ⟨t, nb, d, laterV now 10⟩ (done := decide (d.met = inf)) (l := l)
    split at this <;> omega
theorem putS_mem {l : List SrcV} {x y : SrcV} (h : y ∈ putS l x) : y = x ∨ y ∈ l := by
 unfold putS at h
 simp only [List.mem_append, List.mem_filter, List.mem_singleton] at h
 rcases h with h | h | h
 ·exact .inr h.1
 ·exact .inl h
 ·exact .inr h.1
theorem asc_putS {l : List SrcV} {x : SrcV} (h : AscC cmpS l) : AscC cmpS (putS l x) := by
 unfold putS
 refine List.pairwise_append.2 ⟨h.filter _, List.pairwise_append.2 ⟨List.pairwise_singleton _ _, h.filter _, fun a ha b hb => ?_⟩, fun a ha b hb => ?_⟩
 ·simp only [List.mem_singleton, List.mem_filter, decide_eq_true_eq] at ha hb
  subst ha
  have := cmpD_anti b.to a.to
  show cmpD a.to b.to < 0
  omega
 ·simp only [List.mem_append, List.mem_singleton, List.mem_filter, decide_eq_true_eq] at ha hb
  rcases hb with rfl | ⟨_, hb⟩
  ·exact ha.2
  ·have := cmpD_anti b.to x.to
   exact cmpD_trans ha.2 (by omega)
theorem best_fin {l : List SrcV} (hval : validSs l = true) {now : Int} {t : DstV} {b : DisV} (h : bestS l now t = some b) : finD b = true := by
 rw [bestS_is, Option.map_eq_some_iff] at h
 obtain ⟨x, h1, rfl⟩ := h
 have h2 := (validSs_iff.1 hval).2.1 x (List.mem_of_find?_eq_some h1)
 simp only [src1, Bool.and_eq_true] at h2
 exact h2.1.2
theorem record_valid {l : List SrcV} {now : Int} {t : DstV} {d : DisV} (h : (recordV l now t d).2 = 0) : validSs (recordV l now t d).1 = true := by
 unfold recordV at h ⊢
 split at h
 ·cases h
 ·rename_i h1
  rw [if_neg h1]
  simp only [Bool.or_eq_true, Bool.not_eq_true', decide_eq_true_eq, not_or, Bool.not_eq_false] at h1
  obtain ⟨⟨⟨h1, h2⟩, h3⟩, h4⟩ := h1
  split at h
  ·cases h
  ·rename_i h5
   rw [if_neg h5]
   simp only [Bool.not_eq_true', Bool.not_eq_false] at h5
   split at h
   ·cases h
   ·rename_i h6
    rw [if_neg h6]
    obtain ⟨g1, g2, g3⟩ := validSs_iff.1 h1
    refine validSs_iff.2 ⟨by dsimp only;omega, fun a ha => ?_, asc_putS g3⟩
    rcases putS_mem ha with rfl | k1
    ·have hf : finD d = true := by
      unfold finD
      rw [h3]
      simp [inf, h4]
     have hb : finD (newS l now t d).bst = true := by
      unfold newS
      dsimp only
      cases hb : bestS l now t with
      | none => exact hf
      | some b =>
       dsimp only
       unfold lowQ
       split
       ·exact hf
       ·exact best_fin h1 hb
     unfold src1
     rw [hb, show (newS l now t d).to = t from rfl, show (newS l now t d).til = laterV now 20 from rfl, h2, later_time h5 (by omega)]
     rfl
    ·exact g2 a k1
theorem record_is {l : List SrcV} {now : Int} {t : DstV} {d : DisV} (hx : ∀ x ∈ l, IsSr x) (ht : IsDv t) : ∀ x ∈ (recordV l now t d).1, IsSr x := by
 intro x h
 unfold recordV at h
 split at h
 ·cases h
 ·split at h
  ·cases h
  ·split at h
   ·cases h
   ·rcases putS_mem h with rfl | k1
    ·exact ⟨ht, trivial⟩
    ·exact hx x k1
theorem OwnS.slJ {e : TypeId} {sz n n0 bt : Nat} {v : Value} {cs : List Value} {ent : List (Nat × Obj)} {wb w : World} {o : Obj} (h : OwnS e sz v n cs ent) (M : Mem [bt] wb w (ent ++ [(bt, o)])) (hle : n0 ≤ wb.heap.size) : SlN n0 w sz v n cs := by
 have hnd := (M.perm (l' := (bt, o) :: ent) List.perm_append_comm).nd
 exact (h.slN M (fun q hq => by simp [hq]) (nd_not hnd (fun q hq => hq))).mono hle
theorem wtimeE_c {bt : Nat} {p : Option Addr} {len cap k : Nat} {xs : List Int} (base : Int) (h0 : 0 ≤ base) (h1 : base ≤ 1099511627776) (W : World) (hT : TapeS W bt p len xs) (hb : W.heap[bt]? = some (tobj p len cap k)) :
  Cal Tryz.prog 14 [.pointer (some ⟨bt, 0, none⟩), .int .i64 base].toArray W fun v w' => ∃ x k', v = .int .i64 x ∧ isTime x = true ∧ Mem [bt] W w' [(bt, tobj p len cap k')] :=
 Cal.mono (wtime_c base h0 h1 W hT hb) fun _ _ h => ⟨_, _, h.1, wt_time h0 h1, h.2⟩
structure RouO (n0 : Nat) (W : World) (v : Value) (l : List RouV) : Prop where
 at_ : SlN n0 W 39 v l.length (rosC l)
 is : ∀ x ∈ l, IsRo x
 val : validRs l = true
structure SrcO (n0 : Nat) (W : World) (v : Value) (l : List SrcV) : Prop where
 at_ : SlN n0 W 38 v l.length (srsC l)
 is : ∀ x ∈ l, IsSr x
 val : validSs l = true
structure OptO (n0 : Nat) (W : World) (v : Value) (l : List OptV) : Prop where
 at_ : SlN n0 W 2 v l.length (opsC l)
 val : validOs l = true
theorem RouO.laterB {n0 bt : Nat} {W w : World} {v : Value} {l : List RouV} (h : RouO n0 W v l) (hb : bt < n0) (E : Ext [bt] W w) : RouO n0 w v l := ⟨h.at_.laterB hb E, h.is, h.val⟩
theorem SrcO.laterB {n0 bt : Nat} {W w : World} {v : Value} {l : List SrcV} (h : SrcO n0 W v l) (hb : bt < n0) (E : Ext [bt] W w) : SrcO n0 w v l := ⟨h.at_.laterB hb E, h.is, h.val⟩
theorem OptO.laterB {n0 bt : Nat} {W w : World} {v : Value} {l : List OptV} (h : OptO n0 W v l) (hb : bt < n0) (E : Ext [bt] W w) : OptO n0 w v l := ⟨h.at_.laterB hb E, h.val⟩
set_option maxHeartbeats 4000000 in
theorem routesW_c {bt : Nat} {p : Option Addr} {len cap k : Nat} {xs : List Int} (now : Int) (h0 : 0 ≤ now) (h1 : now ≤ 1099511627776) (W : World) (hT : TapeS W bt p len xs) (hb : W.heap[bt]? = some (tobj p len cap k)) :
  Cal Tryz.prog 11 [.pointer (some ⟨bt, 0, none⟩), .int .i64 now].toArray W fun r w' => ∃ l k', RouO W.heap.size w' r l ∧ l.length ≤ 9 ∧ Mem [bt] W w' [(bt, tobj p len cap k')] := by
 have hbt : bt < W.heap.size := (Array.getElem?_eq_some_iff.1 hb).1
 refine fn_ofM (n := 33) [bt] Tryz.func11 rfl rfl rfl ?_
 intro a w F M hwW
 replace M := M.came hwW hb (by simp) (by simp)
 refine c_seq (c_region ?_)
 refine sD F (o_assign (F.e rfl) ?_);clear F a;intro a F
 with_reducible refine l_nil (q_then (c_seq (c_region ?_)))
 refine sD F (o_assign (F.e rfl) ?_);clear F a;intro a F
 with_reducible refine l_nil (q_then (c_seq (c_seq (c_region ?_))))
 refine sD F (o_move (F.e rfl) ?_);clear F a;intro a F
 refine sD F (o_call (F.e rfl) (F.evs rfl) (Cal.mono (nextE_c _ (by first | assumption | omega | exact And.left ‹_› | exact (by assumption : SlAt _ _ _ _ _).later M.ext | exact TapeS.later ‹_› M.ext | exact (SlN.laterB ‹_› (by omega) M.ext).1 | exact M.heap (by repeat constructor) | decide) (by first | assumption | omega | exact And.left ‹_› | exact (by assumption : SlAt _ _ _ _ _).later M.ext | exact TapeS.later ‹_› M.ext | exact (SlN.laterB ‹_› (by omega) M.ext).1 | exact M.heap (by repeat constructor) | decide) _ (by first | assumption | omega | exact And.left ‹_› | exact (by assumption : SlAt _ _ _ _ _).later M.ext | exact TapeS.later ‹_› M.ext | exact (SlN.laterB ‹_› (by omega) M.ext).1 | exact M.heap (by repeat constructor) | decide) (by first | assumption | omega | exact And.left ‹_› | exact (by assumption : SlAt _ _ _ _ _).later M.ext | exact TapeS.later ‹_› M.ext | exact (SlN.laterB ‹_› (by omega) M.ext).1 | exact M.heap (by repeat constructor) | decide)) ?_));clear F;clear a;have M0 := M;have zb10 := M0.ext.size;clear M;rintro _ w ⟨x10, k'10, rfl, p10_1, N⟩ a F;replace M := M0.turn1 N (by repeat constructor);clear M0 N
 refine sD F (o_assign (F.e rfl) ?_);clear F a;intro a F
 with_reducible refine l_nil (q_then (c_block ?_))
 obtain ⟨c0, rfl⟩ := Int.eq_ofNat_of_zero_le p10_1.1
 refine c_loop (fun m a w => ∃ (c : Nat) (x : Int) (l : List RouV) (v : Value) (k : Nat), m = c ∧ x = c ∧ RouO W.heap.size w v l ∧ l.length + c ≤ 9 ∧ Frm a 33 [] [(6, .int .i64 x), (5, v), (0, .pointer (some ⟨bt, 0, none⟩)), (1, .int .i64 now)] ∧ Mem [bt] W w [(bt, tobj p len cap k)]) c0 ⟨c0, _, [], _, _, rfl, rfl, ⟨SlN.nil _ _ _, by simp, rfl⟩, by simp;omega, F.only [6, 5, 0, 1] rfl, M⟩ ?_
 clear F M a w
 rintro m a w ⟨c, x, l, v, k, hm, hxc, hO, hc9, F, M⟩
 by_cases hlt : 0 < c
 ·have E0 := M.ext
  obtain ⟨wb, hwb, M⟩ : ∃ wb, wb = w ∧ Mem [bt] wb w [(bt, tobj p len cap k)] := ⟨w, rfl, M.re (by simp)⟩
  rw [← hwb] at E0 hO
  clear hwb
  have hTw := hT.later E0
  have hOa := hO.at_
  have hOi := hO.is
  with_reducible refine c_seq (c_seq (c_region ?_))
  refine sD F (o_move (F.e rfl) ?_);clear F a;intro a F
  refine sD F (o_gtrT (F.e rfl) (F.e rfl) (by omega) ?_);clear F a;intro a F
  with_reducible refine l_nil (q_then ?_)
  refine c_true F rfl rfl ?_
  with_reducible refine c_skip (q_then (c_seq (c_block (c_seq (c_region ?_)))))
  refine sD F (o_move (F.e rfl) ?_);clear F a;intro a F
  refine sD F (o_move (F.e rfl) ?_);clear F a;intro a F
  refine sD F (o_move (F.e rfl) ?_);clear F a;intro a F
  refine sD F (o_call (F.e rfl) (F.evs rfl) (Cal.mono (wtimeE_c _ (by first | assumption | omega | exact And.left ‹_› | exact (by assumption : SlAt _ _ _ _ _).later M.ext | exact TapeS.later ‹_› M.ext | exact (SlN.laterB ‹_› (by omega) M.ext).1 | exact M.heap (by repeat constructor) | decide) (by first | assumption | omega | exact And.left ‹_› | exact (by assumption : SlAt _ _ _ _ _).later M.ext | exact TapeS.later ‹_› M.ext | exact (SlN.laterB ‹_› (by omega) M.ext).1 | exact M.heap (by repeat constructor) | decide) _ (by first | assumption | omega | exact And.left ‹_› | exact (by assumption : SlAt _ _ _ _ _).later M.ext | exact TapeS.later ‹_› M.ext | exact (SlN.laterB ‹_› (by omega) M.ext).1 | exact M.heap (by repeat constructor) | decide) (by first | assumption | omega | exact And.left ‹_› | exact (by assumption : SlAt _ _ _ _ _).later M.ext | exact TapeS.later ‹_› M.ext | exact (SlN.laterB ‹_› (by omega) M.ext).1 | exact M.heap (by repeat constructor) | decide)) ?_));clear F;clear a;have M0 := M;have zb19 := M0.ext.size;clear M;rintro _ w ⟨x19, k'19, rfl, p19_1, N⟩ a F;replace M := M0.turn1 N (by repeat constructor);clear M0 N
  refine sD F (o_move (F.e rfl) ?_);clear F a;intro a F
  refine sD F (o_call (F.e rfl) (F.evs rfl) (Cal.mono (toE_c _ (by first | assumption | omega | exact And.left ‹_› | exact (by assumption : SlAt _ _ _ _ _).later M.ext | exact TapeS.later ‹_› M.ext | exact (SlN.laterB ‹_› (by omega) M.ext).1 | exact M.heap (by repeat constructor) | decide) (by first | assumption | omega | exact And.left ‹_› | exact (by assumption : SlAt _ _ _ _ _).later M.ext | exact TapeS.later ‹_› M.ext | exact (SlN.laterB ‹_› (by omega) M.ext).1 | exact M.heap (by repeat constructor) | decide)) ?_));clear F;clear a;have M0 := M;have zb21 := M0.ext.size;clear M;rintro _ w ⟨x21, k'21, rfl, p21_1, p21_2, N⟩ a F;replace M := M0.turn1 N (by repeat constructor);clear M0 N
  refine sD F (o_move (F.e rfl) ?_);clear F a;intro a F
  refine sD F (o_call (F.e rfl) (F.evs rfl) (Cal.mono (eui_c _ (by first | assumption | omega | exact And.left ‹_› | exact (by assumption : SlAt _ _ _ _ _).later M.ext | exact TapeS.later ‹_› M.ext | exact (SlN.laterB ‹_› (by omega) M.ext).1 | exact M.heap (by repeat constructor) | decide) (by first | assumption | omega | exact And.left ‹_› | exact (by assumption : SlAt _ _ _ _ _).later M.ext | exact TapeS.later ‹_› M.ext | exact (SlN.laterB ‹_› (by omega) M.ext).1 | exact M.heap (by repeat constructor) | decide)) ?_));clear F;clear a;have M0 := M;have zb23 := M0.ext.size;clear M;rintro _ w ⟨x23, k'23, rfl, p23_1, N⟩ a F;replace M := M0.turn1 N (by repeat constructor);clear M0 N
  refine sD F (o_move (F.e rfl) ?_);clear F a;intro a F
  refine sD F (o_call (F.e rfl) (F.evs rfl) (Cal.mono (distE_c _ (by first | assumption | omega | exact And.left ‹_› | exact (by assumption : SlAt _ _ _ _ _).later M.ext | exact TapeS.later ‹_› M.ext | exact (SlN.laterB ‹_› (by omega) M.ext).1 | exact M.heap (by repeat constructor) | decide) (by first | assumption | omega | exact And.left ‹_› | exact (by assumption : SlAt _ _ _ _ _).later M.ext | exact TapeS.later ‹_› M.ext | exact (SlN.laterB ‹_› (by omega) M.ext).1 | exact M.heap (by repeat constructor) | decide)) ?_));clear F;clear a;have M0 := M;have zb25 := M0.ext.size;clear M;rintro _ w ⟨x25, k'25, rfl, p25_1, N⟩ a F;replace M := M0.turn1 N (by repeat constructor);clear M0 N
  refine sD F (o_call (F.e rfl) (F.evs rfl) (Cal.mono (rlearn_c _ (by first | assumption | omega | exact And.left ‹_› | exact (by assumption : SlAt _ _ _ _ _).later M.ext | exact TapeS.later ‹_› M.ext | exact (SlN.laterB ‹_› (by omega) M.ext).1 | exact M.heap (by repeat constructor) | decide) _ _ _ (by first | assumption | omega | exact And.left ‹_› | exact (by assumption : SlAt _ _ _ _ _).later M.ext | exact TapeS.later ‹_› M.ext | exact (SlN.laterB ‹_› (by omega) M.ext).1 | exact M.heap (by repeat constructor) | decide) _ _ _ (by first | assumption | omega | exact And.left ‹_› | exact (by assumption : SlAt _ _ _ _ _).later M.ext | exact TapeS.later ‹_› M.ext | exact (SlN.laterB ‹_› (by omega) M.ext).1 | exact M.heap (by repeat constructor) | decide)) ?_));clear F;clear a;rintro _ w ⟨u26, ent26, rfl, p26_1, N⟩ a F;replace M := M.joins N;clear N
  refine sD F (o_move (F.e rfl) ?_);clear F a;intro a F
  refine sD F (o_extract (F.e rfl) rfl ?_);clear F a;intro a F
  refine sD F (o_extract (F.e rfl) rfl ?_);clear F a;intro a F
  refine sD F (o_assign (F.e rfl) ?_);clear F a;intro a F
  refine sD F (o_assign (F.e rfl) ?_);clear F a;intro a F
  with_reducible refine l_nil (q_then (c_seq (c_region ?_)))
  refine sD F (o_move (F.e rfl) ?_);clear F a;intro a F
  refine sD F (o_eql (F.e rfl) (F.e rfl) ?_);clear F a;intro a F
  with_reducible refine l_nil (q_then ?_)
  refine c_if F rfl (fun h1 => ?_) (fun h1 => ?_)
  ·skip
   rw [h1] at F;replace h1 := of_decide_eq_true h1
   refine c_region ?_
   refine sD F (o_move (F.e rfl) ?_);clear F a;intro a F
   refine sD F (o_assign (F.e rfl) ?_);clear F a;intro a F
   with_reducible refine l_nil (q_inB (q_then (c_region ?_)))
   refine sD F (o_move (F.e rfl) ?_);clear F a;intro a F
   refine sD F (o_sub (F.e rfl) (F.e rfl) (w_i64 (by omega) (by omega)) ?_);clear F a;intro a F
   refine sD F (o_assign (F.e rfl) ?_);clear F a;intro a F
   with_reducible refine l_nil (q_then ?_)
   exact ⟨c - 1, by omega, c - 1, _, _, _, _, rfl, by omega, ⟨OwnS.slJ ‹_› M E0.size, learn_is hOi ‹_›, learn_valid ‹_›⟩, Nat.le_trans (Nat.add_le_add_right learn_len _) (by omega), F.only [6, 5, 0, 1] rfl, (M.sub (List.sublist_append_right _ _)).un E0⟩
  ·skip
   rw [h1] at F;replace h1 := of_decide_eq_false h1
   with_reducible refine c_skip (q_inB (q_then (c_region ?_)))
   refine sD F (o_move (F.e rfl) ?_);clear F a;intro a F
   refine sD F (o_sub (F.e rfl) (F.e rfl) (w_i64 (by omega) (by omega)) ?_);clear F a;intro a F
   refine sD F (o_assign (F.e rfl) ?_);clear F a;intro a F
   with_reducible refine l_nil (q_then ?_)
   exact ⟨c - 1, by omega, c - 1, _, _, _, _, rfl, by omega, hO.laterB hbt M.ext, by omega, F.only [6, 5, 0, 1] rfl, (M.sub (List.sublist_append_right _ _)).un E0⟩
 ·refine c_seq ?_
  refine c_seq (c_region ?_)
  refine sD F (o_move (F.e rfl) ?_);clear F a;intro a F
  refine sD F (o_gtrF (F.e rfl) (F.e rfl) (by omega) ?_);clear F a;intro a F
  with_reducible refine l_nil (q_then ?_)
  refine c_false F rfl rfl ?_
  with_reducible refine c_exit (q_thenX (q_thenX (q_inBX (q_then (c_seq (c_region ?_))))))
  refine sD F (o_move (F.e rfl) ?_);clear F a;intro a F
  refine sD F (o_assign (F.e rfl) ?_);clear F a;intro a F
  with_reducible refine l_nil (q_then (c_ret ?_))
  refine p_ret F rfl (.cons (.tmp (F.e rfl)) .nil) ?_;(try dsimp only [oneOr])
  exact ⟨_, _, hO, by omega, M⟩
end Go.Proofs.YtilgoepokaaleaaGreat
/-! ZR -/
namespace Go.Proofs.YtilgoepokaaleaaGreat
set_option linter.unusedVariables false
set_option linter.unusedSimpArgs false
open Go.RowKit
theorem di_mk (a b : Int) : putAll [(0, 1), (1, 1)] diZ [(0, [.int .u16 a]), (1, [.int .i64 b])] = some (diC ⟨a, b⟩) := rfl
theorem op_mk (a b : Int) : putAll [(0, 1), (1, 1)] opZ [(0, [.int .u64 a]), (1, [.int .i64 b])] = some (opC ⟨a, b⟩) := rfl
theorem ch_mk (a b c : Int) : putAll [(0, 1), (1, 1), (2, 1)] chZ [(0, [.int .u64 a]), (1, [.int .i64 b]), (2, [.int .i64 c])] = some (chC ⟨a, b, c⟩) := rfl
theorem ch_mk3 (a c : Int) : putAll [(0, 1), (1, 1), (2, 1)] chZ [(1, [.int .i64 a]), (2, [.int .i64 c])] = some (chC ⟨0, a, c⟩) := rfl
theorem ro_mk (t : DstV) (h : IsDv t) (n : Int) (d : DisV) (u : Int) : putAll [(0, 35), (35, 1), (36, 2), (38, 1)] roZ [(0, dvC t), (1, [.int .u64 n]), (2, diC d), (3, [.int .i64 u])] = some (roC ⟨t, n, d, u⟩) := ro_build (o := ⟨t, n, d, u⟩) ⟨h, trivial⟩
theorem in_mk4 (t : DstV) (h : IsDv t) (n : Int) (d : DisV) (b : Int) : putAll [(0, 35), (35, 1), (36, 2), (38, 1), (39, 1)] inZ [(0, dvC t), (1, [.int .u64 n]), (2, diC d), (3, [.int .i64 b])] = some (inC ⟨t, n, d, b, 0⟩) := by
 obtain ⟨p1, n1, p2, n2, rt⟩ := t
 obtain ⟨x0, x1, x2, x3, x4, x5, x6, x7, x8, x9, x10, x11, x12, x13, x14, x15, e0⟩ := len16 (show p1.length = 16 from h.1.len)
 obtain ⟨y0, y1, y2, y3, y4, y5, y6, y7, y8, y9, y10, y11, y12, y13, y14, y15, e1⟩ := len16 (show p2.length = 16 from h.2.len)
 subst e0
 subst e1
 rfl
theorem in_mk3 (t : DstV) (h : IsDv t) (n b : Int) : putAll [(0, 35), (35, 1), (36, 2), (38, 1), (39, 1)] inZ [(0, dvC t), (1, [.int .u64 n]), (3, [.int .i64 b])] = some (inC ⟨t, n, di0, b, 0⟩) := by
 obtain ⟨p1, n1, p2, n2, rt⟩ := t
 obtain ⟨x0, x1, x2, x3, x4, x5, x6, x7, x8, x9, x10, x11, x12, x13, x14, x15, e0⟩ := len16 (show p1.length = 16 from h.1.len)
 obtain ⟨y0, y1, y2, y3, y4, y5, y6, y7, y8, y9, y10, y11, y12, y13, y14, y15, e1⟩ := len16 (show p2.length = 16 from h.2.len)
 subst e0
 subst e1
 rfl
theorem in_mkH (t : DstV) (h : IsDv t) (d : DisV) (b u : Int) : putAll [(0, 35), (35, 1), (36, 2), (38, 1), (39, 1)] inZ [(0, dvC t), (2, diC d), (3, [.int .i64 b]), (4, [.int .i64 u])] = some (inC ⟨t, 0, d, b, u⟩) := by
 obtain ⟨p1, n1, p2, n2, rt⟩ := t
 obtain ⟨x0, x1, x2, x3, x4, x5, x6, x7, x8, x9, x10, x11, x12, x13, x14, x15, e0⟩ := len16 (show p1.length = 16 from h.1.len)
 obtain ⟨y0, y1, y2, y3, y4, y5, y6, y7, y8, y9, y10, y11, y12, y13, y14, y15, e1⟩ := len16 (show p2.length = 16 from h.2.len)
 subst e0
 subst e1
 rfl
end Go.Proofs.YtilgoepokaaleaaGreat
/-! ZT -/
namespace Go.Proofs.YtilgoepokaaleaaGreat
set_option linter.unusedVariables false
set_option linter.unusedSimpArgs false
open Go.RowKit
attribute [local irreducible] OpTo wpListIn Code.wpIn MW Cal
set_option maxHeartbeats 4000000 in
theorem sourcesW_c {bt : Nat} {p : Option Addr} {len cap k : Nat} {xs : List Int} (now : Int) (h0 : 0 ≤ now) (h1 : now ≤ 1099511627776) (W : World) (hT : TapeS W bt p len xs) (hb : W.heap[bt]? = some (tobj p len cap k)) :
  Cal Tryz.prog 12 [.pointer (some ⟨bt, 0, none⟩), .int .i64 now].toArray W fun r w' => ∃ l k', SrcO W.heap.size w' r l ∧ Mem [bt] W w' [(bt, tobj p len cap k')] := by
 have hbt : bt < W.heap.size := (Array.getElem?_eq_some_iff.1 hb).1
 refine fn_ofM (n := 31) [bt] Tryz.func12 rfl rfl rfl ?_
 intro a w F M hwW
 replace M := M.came hwW hb (by simp) (by simp)
 refine c_seq (c_region ?_)
 refine sD F (o_assign (F.e rfl) ?_);clear F a;intro a F
 with_reducible refine l_nil (q_then (c_seq (c_region ?_)))
 refine sD F (o_assign (F.e rfl) ?_);clear F a;intro a F
 with_reducible refine l_nil (q_then (c_seq (c_seq (c_region ?_))))
 refine sD F (o_move (F.e rfl) ?_);clear F a;intro a F
 refine sD F (o_call (F.e rfl) (F.evs rfl) (Cal.mono (nextE_c _ (by first | assumption | omega | exact And.left ‹_› | exact (by assumption : SlAt _ _ _ _ _).later M.ext | exact TapeS.later ‹_› M.ext | exact (SlN.laterB ‹_› (by omega) M.ext).1 | exact M.heap (by repeat constructor) | decide) (by first | assumption | omega | exact And.left ‹_› | exact (by assumption : SlAt _ _ _ _ _).later M.ext | exact TapeS.later ‹_› M.ext | exact (SlN.laterB ‹_› (by omega) M.ext).1 | exact M.heap (by repeat constructor) | decide) _ (by first | assumption | omega | exact And.left ‹_› | exact (by assumption : SlAt _ _ _ _ _).later M.ext | exact TapeS.later ‹_› M.ext | exact (SlN.laterB ‹_› (by omega) M.ext).1 | exact M.heap (by repeat constructor) | decide) (by first | assumption | omega | exact And.left ‹_› | exact (by assumption : SlAt _ _ _ _ _).later M.ext | exact TapeS.later ‹_› M.ext | exact (SlN.laterB ‹_› (by omega) M.ext).1 | exact M.heap (by repeat constructor) | decide)) ?_));clear F;clear a;have M0 := M;clear M;rintro _ w ⟨x10, k'10, rfl, p10_1, N⟩ a F;replace M := M0.turn1 N (by repeat constructor);clear M0 N
 refine sD F (o_assign (F.e rfl) ?_);clear F a;intro a F
 with_reducible refine l_nil (q_then (c_block ?_))
 obtain ⟨c0, rfl⟩ := Int.eq_ofNat_of_zero_le p10_1.1
 refine c_loop (fun m a w => ∃ (c : Nat) (x : Int) (l : List SrcV) (v : Value) (k : Nat), m = c ∧ x = c ∧ c ≤ 9 ∧ SrcO W.heap.size w v l ∧ Frm a 31 [] [(6, .int .i64 x), (5, v), (0, .pointer (some ⟨bt, 0, none⟩)), (1, .int .i64 now)] ∧ Mem [bt] W w [(bt, tobj p len cap k)]) c0 ⟨c0, _, [], _, _, rfl, rfl, by omega, ⟨SlN.nil _ _ _, by simp, rfl⟩, F.only [6, 5, 0, 1] rfl, M⟩ ?_
 clear F M a w
 rintro m a w ⟨c, x, l, v, k, hm, hxc, hc9, hO, F, M⟩
 by_cases hlt : 0 < c
 ·have E0 := M.ext
  obtain ⟨wb, hwb, M⟩ : ∃ wb, wb = w ∧ Mem [bt] wb w [(bt, tobj p len cap k)] := ⟨w, rfl, M.re (by simp)⟩
  rw [← hwb] at E0 hO
  clear hwb
  have hTw := hT.later E0
  have hOa := hO.at_
  have hOi := hO.is
  with_reducible refine c_seq (c_seq (c_region ?_))
  refine sD F (o_move (F.e rfl) ?_);clear F a;intro a F
  refine sD F (o_gtrT (F.e rfl) (F.e rfl) (by omega) ?_);clear F a;intro a F
  with_reducible refine l_nil (q_then ?_)
  refine c_true F rfl rfl ?_
  with_reducible refine c_skip (q_then (c_seq (c_block (c_seq (c_region ?_)))))
  refine sD F (o_move (F.e rfl) ?_);clear F a;intro a F
  refine sD F (o_move (F.e rfl) ?_);clear F a;intro a F
  refine sD F (o_move (F.e rfl) ?_);clear F a;intro a F
  refine sD F (o_call (F.e rfl) (F.evs rfl) (Cal.mono (wtimeE_c _ (by first | assumption | omega | exact And.left ‹_› | exact (by assumption : SlAt _ _ _ _ _).later M.ext | exact TapeS.later ‹_› M.ext | exact (SlN.laterB ‹_› (by omega) M.ext).1 | exact M.heap (by repeat constructor) | decide) (by first | assumption | omega | exact And.left ‹_› | exact (by assumption : SlAt _ _ _ _ _).later M.ext | exact TapeS.later ‹_› M.ext | exact (SlN.laterB ‹_› (by omega) M.ext).1 | exact M.heap (by repeat constructor) | decide) _ (by first | assumption | omega | exact And.left ‹_› | exact (by assumption : SlAt _ _ _ _ _).later M.ext | exact TapeS.later ‹_› M.ext | exact (SlN.laterB ‹_› (by omega) M.ext).1 | exact M.heap (by repeat constructor) | decide) (by first | assumption | omega | exact And.left ‹_› | exact (by assumption : SlAt _ _ _ _ _).later M.ext | exact TapeS.later ‹_› M.ext | exact (SlN.laterB ‹_› (by omega) M.ext).1 | exact M.heap (by repeat constructor) | decide)) ?_));clear F;clear a;have M0 := M;clear M;rintro _ w ⟨x19, k'19, rfl, p19_1, N⟩ a F;replace M := M0.turn1 N (by repeat constructor);clear M0 N
  refine sD F (o_move (F.e rfl) ?_);clear F a;intro a F
  refine sD F (o_call (F.e rfl) (F.evs rfl) (Cal.mono (toE_c _ (by first | assumption | omega | exact And.left ‹_› | exact (by assumption : SlAt _ _ _ _ _).later M.ext | exact TapeS.later ‹_› M.ext | exact (SlN.laterB ‹_› (by omega) M.ext).1 | exact M.heap (by repeat constructor) | decide) (by first | assumption | omega | exact And.left ‹_› | exact (by assumption : SlAt _ _ _ _ _).later M.ext | exact TapeS.later ‹_› M.ext | exact (SlN.laterB ‹_› (by omega) M.ext).1 | exact M.heap (by repeat constructor) | decide)) ?_));clear F;clear a;have M0 := M;clear M;rintro _ w ⟨x21, k'21, rfl, p21_1, p21_2, N⟩ a F;replace M := M0.turn1 N (by repeat constructor);clear M0 N
  refine sD F (o_move (F.e rfl) ?_);clear F a;intro a F
  refine sD F (o_call (F.e rfl) (F.evs rfl) (Cal.mono (distE_c _ (by first | assumption | omega | exact And.left ‹_› | exact (by assumption : SlAt _ _ _ _ _).later M.ext | exact TapeS.later ‹_› M.ext | exact (SlN.laterB ‹_› (by omega) M.ext).1 | exact M.heap (by repeat constructor) | decide) (by first | assumption | omega | exact And.left ‹_› | exact (by assumption : SlAt _ _ _ _ _).later M.ext | exact TapeS.later ‹_› M.ext | exact (SlN.laterB ‹_› (by omega) M.ext).1 | exact M.heap (by repeat constructor) | decide)) ?_));clear F;clear a;have M0 := M;clear M;rintro _ w ⟨x23, k'23, rfl, p23_1, N⟩ a F;replace M := M0.turn1 N (by repeat constructor);clear M0 N
  refine sD F (o_call (F.e rfl) (F.evs rfl) (Cal.mono (rrecord_c _ (by first | assumption | omega | exact And.left ‹_› | exact (by assumption : SlAt _ _ _ _ _).later M.ext | exact TapeS.later ‹_› M.ext | exact (SlN.laterB ‹_› (by omega) M.ext).1 | exact M.heap (by repeat constructor) | decide) _ _ _ (by first | assumption | omega | exact And.left ‹_› | exact (by assumption : SlAt _ _ _ _ _).later M.ext | exact TapeS.later ‹_› M.ext | exact (SlN.laterB ‹_› (by omega) M.ext).1 | exact M.heap (by repeat constructor) | decide) _ _ (by first | assumption | omega | exact And.left ‹_› | exact (by assumption : SlAt _ _ _ _ _).later M.ext | exact TapeS.later ‹_› M.ext | exact (SlN.laterB ‹_› (by omega) M.ext).1 | exact M.heap (by repeat constructor) | decide)) ?_));clear F;clear a;rintro _ w ⟨u24, ent24, rfl, p24_1, N⟩ a F;replace M := M.joins N;clear N
  refine sD F (o_move (F.e rfl) ?_);clear F a;intro a F
  refine sD F (o_extract (F.e rfl) rfl ?_);clear F a;intro a F
  refine sD F (o_extract (F.e rfl) rfl ?_);clear F a;intro a F
  refine sD F (o_assign (F.e rfl) ?_);clear F a;intro a F
  refine sD F (o_assign (F.e rfl) ?_);clear F a;intro a F
  with_reducible refine l_nil (q_then (c_seq (c_region ?_)))
  refine sD F (o_move (F.e rfl) ?_);clear F a;intro a F
  refine sD F (o_eql (F.e rfl) (F.e rfl) ?_);clear F a;intro a F
  with_reducible refine l_nil (q_then ?_)
  refine c_if F rfl (fun h1 => ?_) (fun h1 => ?_)
  ·skip
   rw [h1] at F;replace h1 := of_decide_eq_true h1
   refine c_region ?_
   refine sD F (o_move (F.e rfl) ?_);clear F a;intro a F
   refine sD F (o_assign (F.e rfl) ?_);clear F a;intro a F
   with_reducible refine l_nil (q_inB (q_then (c_region ?_)))
   refine sD F (o_move (F.e rfl) ?_);clear F a;intro a F
   refine sD F (o_sub (F.e rfl) (F.e rfl) (w_i64 (by omega) (by omega)) ?_);clear F a;intro a F
   refine sD F (o_assign (F.e rfl) ?_);clear F a;intro a F
   with_reducible refine l_nil (q_then ?_)
   exact ⟨c - 1, by omega, c - 1, _, _, _, _, rfl, by omega, by omega, ⟨OwnS.slJ ‹_› M E0.size, record_is hOi ‹_›, record_valid ‹_›⟩, F.only [6, 5, 0, 1] rfl, (M.sub (List.sublist_append_right _ _)).un E0⟩
  ·skip
   rw [h1] at F;replace h1 := of_decide_eq_false h1
   with_reducible refine c_skip (q_inB (q_then (c_region ?_)))
   refine sD F (o_move (F.e rfl) ?_);clear F a;intro a F
   refine sD F (o_sub (F.e rfl) (F.e rfl) (w_i64 (by omega) (by omega)) ?_);clear F a;intro a F
   refine sD F (o_assign (F.e rfl) ?_);clear F a;intro a F
   with_reducible refine l_nil (q_then ?_)
   exact ⟨c - 1, by omega, c - 1, _, _, _, _, rfl, by omega, by omega, hO.laterB hbt M.ext, F.only [6, 5, 0, 1] rfl, (M.sub (List.sublist_append_right _ _)).un E0⟩
 ·refine c_seq ?_
  refine c_seq (c_region ?_)
  refine sD F (o_move (F.e rfl) ?_);clear F a;intro a F
  refine sD F (o_gtrF (F.e rfl) (F.e rfl) (by omega) ?_);clear F a;intro a F
  with_reducible refine l_nil (q_then ?_)
  refine c_false F rfl rfl ?_
  with_reducible refine c_exit (q_thenX (q_thenX (q_inBX (q_then (c_seq (c_region ?_))))))
  refine sD F (o_move (F.e rfl) ?_);clear F a;intro a F
  refine sD F (o_assign (F.e rfl) ?_);clear F a;intro a F
  with_reducible refine l_nil (q_then (c_ret ?_))
  refine p_ret F rfl (.cons (.tmp (F.e rfl)) .nil) ?_;(try dsimp only [oneOr])
  exact ⟨_, _, hO, M⟩
structure OptI (out : List OptV) (i : Nat) : Prop where
 len : out.length < i
 ok : ∀ o ∈ out, opt1 o = true ∧ o.nb < i
 asc : AscC cmpO out
theorem OptI.snoc {out : List OptV} {i : Nat} (h : OptI out i) (h1 : 1 ≤ i) {c : Int} (hc : validM c = true) : OptI (out ++ [⟨i, c⟩]) (i + 1) where
 len := by have := h.len;simp;omega
 ok := fun o ho => by
  rcases List.mem_append.1 ho with ho | ho
  ·exact ⟨(h.ok o ho).1, by have := (h.ok o ho).2;omega⟩
  ·simp only [List.mem_singleton] at ho
   subst ho
   refine ⟨?_, by show (i : Int) < ((i + 1 : Nat) : Int);omega⟩
   unfold opt1
   dsimp only
   rw [hc, decide_eq_false (show ¬ (i : Int) = 0 by omega)]
   rfl
 asc := List.pairwise_append.2 ⟨h.asc, List.pairwise_singleton _ _, fun a ha b hb => by
  simp only [List.mem_singleton] at hb
  subst hb
  exact cmpI_lt.2 (h.ok a ha).2⟩
theorem OptI.skip {out : List OptV} {i : Nat} (h : OptI out i) : OptI out (i + 1) := ⟨by have := h.len;omega, fun o ho => ⟨(h.ok o ho).1, by have := (h.ok o ho).2;omega⟩, h.asc⟩
theorem OptI.val {out : List OptV} {i : Nat} (h : OptI out i) (hi : i ≤ 6) : validOs out = true := validOs_iff.2 ⟨by have := h.len;omega, fun a ha => (h.ok a ha).1, h.asc⟩
set_option maxHeartbeats 4000000 in
theorem optionsW_c {bt : Nat} {p : Option Addr} {len cap k : Nat} {xs : List Int} (W : World) (hT : TapeS W bt p len xs) (hb : W.heap[bt]? = some (tobj p len cap k)) :
  Cal Tryz.prog 13 [.pointer (some ⟨bt, 0, none⟩)].toArray W fun r w' => ∃ l k', OptO W.heap.size w' r l ∧ Mem [bt] W w' [(bt, tobj p len cap k')] := by
 have hbt : bt < W.heap.size := (Array.getElem?_eq_some_iff.1 hb).1
 refine fn_ofM (n := 24) [bt] Tryz.func13 rfl rfl rfl ?_
 intro a w F M hwW
 replace M := M.came hwW hb (by simp) (by simp)
 refine c_seq (c_region ?_)
 refine sD F (o_assign (F.e rfl) ?_);clear F a;intro a F
 with_reducible refine l_nil (q_then (c_seq (c_region ?_)))
 refine sD F (o_assign (F.e rfl) ?_);clear F a;intro a F
 with_reducible refine l_nil (q_then (c_seq (c_seq (c_region ?_))))
 refine sD F (o_assign (F.e rfl) ?_);clear F a;intro a F
 with_reducible refine l_nil (q_then (c_block ?_))
 refine c_loop (fun m a w => ∃ (i : Nat) (x : Int) (out : List OptV) (u : Value) (es : List (Nat × Obj)) (k : Nat), m = 6 - i ∧ x = i ∧ 1 ≤ i ∧ i ≤ 6 ∧ OwnS 55 2 u out.length (opsC out) es ∧ OptI out i ∧ Frm a 24 [] [(4, .int .i64 x), (3, u), (0, .pointer (some ⟨bt, 0, none⟩))] ∧ Mem [bt] W w ((bt, tobj p len cap k) :: es)) 5 ⟨1, _, [], _, [], _, rfl, rfl, by omega, by omega, OwnS.nil _ _, ⟨by simp, by simp, .nil⟩, F.only [4, 3, 0] rfl, M⟩ ?_
 clear F M a
 rintro m a w ⟨i, x, out, u, es, k, hm, hxi, hi1, h6, hOs, hI, F, M⟩
 have hil := hI.len
 by_cases hlt : i < 6
 ·refine c_seq ?_
  refine c_seq (c_region ?_)
  refine sD F (o_move (F.e rfl) ?_);clear F a;intro a F
  refine sD F (o_leqT (F.e rfl) (F.e rfl) (by omega) ?_);clear F a;intro a F
  with_reducible refine l_nil (q_then ?_)
  refine c_true F rfl rfl ?_
  with_reducible refine c_skip (q_then (c_seq (c_block (c_seq (c_region ?_)))))
  refine sD F (o_move (F.e rfl) ?_);clear F a;intro a F
  refine sD F (o_call (F.e rfl) (F.evs rfl) (Cal.mono (boolE_c _ (by first | assumption | omega | exact And.left ‹_› | exact (by assumption : SlAt _ _ _ _ _).later M.ext | exact TapeS.later ‹_› M.ext | exact (SlN.laterB ‹_› (by omega) M.ext).1 | exact M.heap (by repeat constructor) | decide) (by first | assumption | omega | exact And.left ‹_› | exact (by assumption : SlAt _ _ _ _ _).later M.ext | exact TapeS.later ‹_› M.ext | exact (SlN.laterB ‹_› (by omega) M.ext).1 | exact M.heap (by repeat constructor) | decide) _ (by first | assumption | omega | exact And.left ‹_› | exact (by assumption : SlAt _ _ _ _ _).later M.ext | exact TapeS.later ‹_› M.ext | exact (SlN.laterB ‹_› (by omega) M.ext).1 | exact M.heap (by repeat constructor) | decide) (by first | assumption | omega | exact And.left ‹_› | exact (by assumption : SlAt _ _ _ _ _).later M.ext | exact TapeS.later ‹_› M.ext | exact (SlN.laterB ‹_› (by omega) M.ext).1 | exact M.heap (by repeat constructor) | decide)) ?_));clear F;clear a;have M0 := M;clear M;rintro _ w ⟨x11, k'11, rfl, N⟩ a F;replace M := M0.turn1 N (by repeat constructor);clear M0 N
  with_reducible refine l_nil (q_then ?_)
  refine c_if F rfl (fun h1 => ?_) (fun h1 => ?_)
  ·skip
   rw [h1] at F
   refine c_seq (c_region ?_)
   refine sD F (o_move (F.e rfl) ?_);clear F a;intro a F
   refine sD F (o_call (F.e rfl) (F.evs rfl) (Cal.mono (costE_c _ (by first | assumption | omega | exact And.left ‹_› | exact (by assumption : SlAt _ _ _ _ _).later M.ext | exact TapeS.later ‹_› M.ext | exact (SlN.laterB ‹_› (by omega) M.ext).1 | exact M.heap (by repeat constructor) | decide) (by first | assumption | omega | exact And.left ‹_› | exact (by assumption : SlAt _ _ _ _ _).later M.ext | exact TapeS.later ‹_› M.ext | exact (SlN.laterB ‹_› (by omega) M.ext).1 | exact M.heap (by repeat constructor) | decide)) ?_));clear F;clear a;have M0 := M;clear M;rintro _ w ⟨x13, k'13, rfl, p13_1, N⟩ a F;replace M := M0.turn1 N (by repeat constructor);clear M0 N
   refine sD F (o_assign (F.e rfl) ?_);clear F a;intro a F
   with_reducible refine l_nil (q_then (c_seq (c_seq (c_region ?_))))
   refine sD F (o_move (F.e rfl) ?_);clear F a;intro a F
   refine sD F (o_call (F.e rfl) (F.evs rfl) (Cal.mono (boolE_c _ (by first | assumption | omega | exact And.left ‹_› | exact (by assumption : SlAt _ _ _ _ _).later M.ext | exact TapeS.later ‹_› M.ext | exact (SlN.laterB ‹_› (by omega) M.ext).1 | exact M.heap (by repeat constructor) | decide) (by first | assumption | omega | exact And.left ‹_› | exact (by assumption : SlAt _ _ _ _ _).later M.ext | exact TapeS.later ‹_› M.ext | exact (SlN.laterB ‹_› (by omega) M.ext).1 | exact M.heap (by repeat constructor) | decide) _ (by first | assumption | omega | exact And.left ‹_› | exact (by assumption : SlAt _ _ _ _ _).later M.ext | exact TapeS.later ‹_› M.ext | exact (SlN.laterB ‹_› (by omega) M.ext).1 | exact M.heap (by repeat constructor) | decide) (by first | assumption | omega | exact And.left ‹_› | exact (by assumption : SlAt _ _ _ _ _).later M.ext | exact TapeS.later ‹_› M.ext | exact (SlN.laterB ‹_› (by omega) M.ext).1 | exact M.heap (by repeat constructor) | decide)) ?_));clear F;clear a;have M0 := M;clear M;rintro _ w ⟨x15, k'15, rfl, N⟩ a F;replace M := M0.turn1 N (by repeat constructor);clear M0 N
   with_reducible refine l_nil (q_then ?_)
   refine c_if F rfl (fun h2 => ?_) (fun h2 => ?_)
   ·skip
    rw [h2] at F
    refine c_region ?_
    refine sD F (o_assign (F.e rfl) ?_);clear F a;intro a F
    with_reducible refine l_nil (q_then (c_region ?_))
    refine sD F (o_move (F.e rfl) ?_);clear F a;intro a F
    refine sD F (o_move (F.e rfl) ?_);clear F a;intro a F
    refine sD F (o_conv (F.e rfl) (w_u64 (by omega) (by omega)) ?_);clear F a;intro a F
    refine sD F (o_move (F.e rfl) ?_);clear F a;intro a F
    refine sD F (o_build F rfl (op_mk _ _) ?_);clear F a;intro a F
    refine sD F (o_buildSlice F M rfl rfl rfl (op_build1 (by first | assumption | trivial | exact And.left ‹_›)) ?_);clear F M;intro bs21 w M a F
    refine sD F (o_append1 (enc := opC) ‹_› M (by repeat (first | exact .here | apply TailAt.cons)) (F.e rfl) (F.e rfl) (SrcOf.cells' (M.heap .here) (sg_all (op_len (by first | assumption | trivial | exact And.left ‹_›))) (op_one _)) (by first | omega | (simp;omega)) ?_);clear F M;intro v22 es22 w hO22 M a F;(try dsimp only at M)
    refine sD F (o_assign (F.e rfl) ?_);clear F a;intro a F
    with_reducible refine l_nil (q_inB (q_then (c_region ?_)))
    refine sD F (o_move (F.e rfl) ?_);clear F a;intro a F
    refine sD F (o_add (F.e rfl) (F.e rfl) (w_i64 (by omega) (by omega)) ?_);clear F a;intro a F
    refine sD F (o_assign (F.e rfl) ?_);clear F a;intro a F
    with_reducible refine l_nil (q_then ?_)
    exact ⟨_, by omega, i + 1, _, _, _, _, _, rfl, by omega, by omega, by omega, by assumption, by first | exact hI.skip | (subst hxi;exact hI.snoc hi1 (by first | rfl | exact validM_of ‹_›)), F.only [4, 3, 0] rfl, M.sub (by repeat (first | exact .refl _ | apply sC1))⟩
   ·skip
    rw [h2] at F
    with_reducible refine c_skip (q_then (c_region ?_))
    refine sD F (o_move (F.e rfl) ?_);clear F a;intro a F
    refine sD F (o_move (F.e rfl) ?_);clear F a;intro a F
    refine sD F (o_conv (F.e rfl) (w_u64 (by omega) (by omega)) ?_);clear F a;intro a F
    refine sD F (o_move (F.e rfl) ?_);clear F a;intro a F
    refine sD F (o_build F rfl (op_mk _ _) ?_);clear F a;intro a F
    refine sD F (o_buildSlice F M rfl rfl rfl (op_build1 (by first | assumption | trivial | exact And.left ‹_›)) ?_);clear F M;intro bs21 w M a F
    refine sD F (o_append1 (enc := opC) ‹_› M (by repeat (first | exact .here | apply TailAt.cons)) (F.e rfl) (F.e rfl) (SrcOf.cells' (M.heap .here) (sg_all (op_len (by first | assumption | trivial | exact And.left ‹_›))) (op_one _)) (by first | omega | (simp;omega)) ?_);clear F M;intro v22 es22 w hO22 M a F;(try dsimp only at M)
    refine sD F (o_assign (F.e rfl) ?_);clear F a;intro a F
    with_reducible refine l_nil (q_inB (q_then (c_region ?_)))
    refine sD F (o_move (F.e rfl) ?_);clear F a;intro a F
    refine sD F (o_add (F.e rfl) (F.e rfl) (w_i64 (by omega) (by omega)) ?_);clear F a;intro a F
    refine sD F (o_assign (F.e rfl) ?_);clear F a;intro a F
    with_reducible refine l_nil (q_then ?_)
    exact ⟨_, by omega, i + 1, _, _, _, _, _, rfl, by omega, by omega, by omega, by assumption, by first | exact hI.skip | (subst hxi;exact hI.snoc hi1 (by first | rfl | exact validM_of ‹_›)), F.only [4, 3, 0] rfl, M.sub (by repeat (first | exact .refl _ | apply sC1))⟩
  ·skip
   rw [h1] at F
   with_reducible refine c_skip (q_inB (q_then (c_region ?_)))
   refine sD F (o_move (F.e rfl) ?_);clear F a;intro a F
   refine sD F (o_add (F.e rfl) (F.e rfl) (w_i64 (by omega) (by omega)) ?_);clear F a;intro a F
   refine sD F (o_assign (F.e rfl) ?_);clear F a;intro a F
   with_reducible refine l_nil (q_then ?_)
   exact ⟨_, by omega, i + 1, _, _, _, _, _, rfl, by omega, by omega, by omega, by assumption, by first | exact hI.skip | (subst hxi;exact hI.snoc hi1 (by first | rfl | exact validM_of ‹_›)), F.only [4, 3, 0] rfl, M.sub (by repeat (first | exact .refl _ | apply sC1))⟩
 ·obtain ⟨q, cap', rfl⟩ := hOs.slice
  with_reducible refine c_seq (c_seq (c_region ?_))
  refine sD F (o_move (F.e rfl) ?_);clear F a;intro a F
  refine sD F (o_leqF (F.e rfl) (F.e rfl) (by omega) ?_);clear F a;intro a F
  with_reducible refine l_nil (q_then ?_)
  refine c_false F rfl rfl ?_
  with_reducible refine c_exit (q_thenX (q_thenX (q_inBX (q_then (c_seq (c_region ?_))))))
  refine sD F (o_move (F.e rfl) ?_);clear F a;intro a F
  refine sD F (o_assign (F.e rfl) ?_);clear F a;intro a F
  with_reducible refine l_nil (q_then (c_ret ?_))
  refine p_ret F rfl (.cons (.tmp (F.e rfl)) .nil) ?_;(try dsimp only [oneOr])
  exact ⟨_, _, ⟨hOs.slN M (fun q hq => by simp [hq]) (nd_not M.nd (fun q hq => hq)), hI.val h6⟩, M.sub (List.Sublist.cons_cons _ (List.nil_sublist _))⟩
end Go.Proofs.YtilgoepokaaleaaGreat
/-! ZI -/
namespace Go.Proofs.YtilgoepokaaleaaGreat
set_option linter.unusedVariables false
set_option linter.unusedSimpArgs false
open Go.RowKit
attribute [local irreducible] OpTo wpListIn Code.wpIn MW Cal
set_option maxHeartbeats 2000000 in
theorem equalI_c (l : List InsV) (hx : ∀ x ∈ l, IsIn x) (hlen : l.length ≤ 100000) (u v : Value) (W : World) (hu : SlAt W 40 u l.length (insC l)) (hv : SlAt W 40 v l.length (insC l)) :
  Cal Tryz.prog 71 [u, v].toArray W fun r w' => r = .bool true ∧ Ext [] W w' := by
 obtain ⟨q1, cap1, rfl, hc1, hn1, hl1, hm1⟩ := hu
 obtain ⟨q2, cap2, rfl, hc2, hn2, hl2, hm2⟩ := hv
 refine fn_ofM (n := 26) [] Tryz.func71 rfl rfl rfl ?_
 intro a w F M hwW
 refine c_seq (c_region ?_)
 refine sD F (o_assign (F.e rfl) ?_);clear F a;intro a F
 with_reducible refine l_nil (q_then (c_seq (c_seq (c_region ?_))))
 refine sD F (o_move (F.e rfl) ?_);clear F a;intro a F
 refine sD F (o_lenSl (F.e rfl) ?_);clear F a;intro a F
 refine sD F (o_move (F.e rfl) ?_);clear F a;intro a F
 refine sD F (o_lenSl (F.e rfl) ?_);clear F a;intro a F
 refine sD F (o_neqF (F.e rfl) (F.e rfl) (by omega) ?_);clear F a;intro a F
 with_reducible refine l_nil (q_then ?_)
 refine c_false F rfl rfl ?_
 with_reducible refine c_skip (q_then (c_seq (c_seq (c_region ?_))))
 refine sD F (o_move (F.e rfl) ?_);clear F a;intro a F
 refine sD F (o_lenSl (F.e rfl) ?_);clear F a;intro a F
 refine sD F (o_move (F.e rfl) ?_);clear F a;intro a F
 with_reducible refine l_nil (q_then (c_block ?_))
 refine c_loop (fun m a w => ∃ i : Nat, m = l.length - i ∧ i ≤ l.length ∧ Frm a 26 [] [(13, .int .i64 i), (12, .int .i64 l.length), (0, .slice q1 l.length cap1), (1, .slice q2 l.length cap2)] ∧ Mem [] W w []) l.length ⟨0, rfl, by omega, F.only [13, 12, 0, 1] rfl, M⟩ ?_
 clear F M
 rintro m a w ⟨i, hm', hi, F, M⟩
 by_cases hlt : i < l.length
 ·obtain ⟨b, o, cs, t, fz, rfl, hb, hs⟩ := hm1 (by omega)
  obtain ⟨b', o', cs', t', fz', rfl, hb', hs'⟩ := hm2 (by omega)
  obtain ⟨p, hp0⟩ : ∃ p, p = l[i] := ⟨_, rfl⟩
  have hpi : IsIn p := by rw [hp0];exact hx _ (List.getElem_mem hlt)
  have f1 : seg cs (o + (i : Int).toNat * 40) 40 = some (inC p) := by rw [hp0];exact seg_el (ins_len hx) hs hlt (by omega)
  have f2 : seg cs' (o' + (i : Int).toNat * 40) 40 = some (inC p) := by rw [hp0];exact seg_el (ins_len hx) hs' hlt (by omega)
  have f3 := in_fits hpi
  have f4 : eqVs (inC p) (inC p) = true := by rw [in_eq hpi hpi];simp
  refine c_seq (c_region ?_)
  refine sD F (o_lssT (F.e rfl) (F.e rfl) (by omega) ?_);clear F a;intro a F
  with_reducible refine l_nil (q_then (c_seq ?_))
  refine c_true F rfl rfl ?_
  with_reducible refine c_skip (q_then (c_seq (c_block (c_seq (c_region ?_)))))
  refine sD F (o_move (F.e rfl) ?_);clear F a;intro a F
  refine sD F (o_assign (F.e rfl) ?_);clear F a;intro a F
  with_reducible refine l_nil (q_then (c_seq ?_))
  replace F := F.only [13, 12, 0, 1, 5] rfl
  refine c_draw 8 F (by kernel_rfl) ?_
  intro w1 hE hok
  have M1 := M.later hE
  refine mK hok rfl rfl (fun a' w' F' E' => o_move (F'.e rfl) ⟨Ext.refl _ _, rfl⟩) ?_
  refine mK hok rfl rfl (fun a' w' F' E' => o_move (F'.e rfl) ⟨Ext.refl _ _, rfl⟩) ?_
  refine mK hok rfl rfl (fun a' w' F' E' => o_indexSl (F'.e rfl) (F'.e rfl) (by omega) (by omega) ⟨Ext.refl _ _, rfl⟩) ?_
  refine mK hok rfl rfl (fun a' w' F' E' => o_loadWA (M1.later E') (F'.e rfl) ‹_› (by first | assumption | rfl) ⟨Ext.refl _ _, rfl⟩) ?_
  refine mK hok rfl rfl (fun a' w' F' E' => o_move (F'.e rfl) ⟨Ext.refl _ _, rfl⟩) ?_
  refine mK hok rfl rfl (fun a' w' F' E' => o_move (F'.e rfl) ⟨Ext.refl _ _, rfl⟩) ?_
  refine mK hok rfl rfl (fun a' w' F' E' => o_indexSl (F'.e rfl) (F'.e rfl) (by omega) (by omega) ⟨Ext.refl _ _, rfl⟩) ?_
  refine mK hok rfl rfl (fun a' w' F' E' => o_loadWA (M1.later E') (F'.e rfl) ‹_› (by first | assumption | rfl) ⟨Ext.refl _ _, rfl⟩) ?_
  (refine mDone rfl rfl ?_;clear F M;intro a w F hE2 hX hTT hDD hPP;have M := M1.later hE2;clear M1;clear hX;clear hE2;clear hok;clear hE;clear hTT;clear hDD;clear hPP;(try dsimp only at F))
  refine sD F (o_neqAF (F.e rfl) (F.e rfl) (by first | assumption | rfl) (by first | assumption | rfl) ‹_› ?_);clear F a;intro a F
  with_reducible refine l_nil (q_then ?_)
  refine c_false F rfl rfl ?_
  with_reducible refine c_skip (q_inB (q_then (c_region ?_)))
  refine sD F (o_add (F.e rfl) (F.e rfl) (w_i64 (by omega) (by omega)) ?_);clear F a;intro a F
  refine sD F (o_move (F.e rfl) ?_);clear F a;intro a F
  with_reducible refine l_nil (q_then ?_)
  exact ⟨_, by omega, i + 1, rfl, by omega, F.only [13, 12, 0, 1] rfl, M⟩
 ·obtain rfl : i = l.length := by omega
  refine c_seq (c_region ?_)
  refine sD F (o_lssF (F.e rfl) (F.e rfl) (by omega) ?_);clear F a;intro a F
  with_reducible refine l_nil (q_then (c_seq ?_))
  refine c_false F rfl rfl ?_
  with_reducible refine c_exit (q_thenX (q_thenX (q_inBX (q_then (c_seq (c_region ?_))))))
  refine sD F (o_assign (F.e rfl) ?_);clear F a;intro a F
  with_reducible refine l_nil (q_then (c_ret ?_))
  refine p_ret F rfl (.cons (.tmp (F.e rfl)) .nil) ?_
  exact ⟨rfl, M.ext⟩
end Go.Proofs.YtilgoepokaaleaaGreat
/-! ZL -/
namespace Go.Proofs.YtilgoepokaaleaaGreat
set_option linter.unusedVariables false
set_option linter.unusedSimpArgs false
open Go.RowKit
attribute [local irreducible] OpTo wpListIn Code.wpIn MW Cal
theorem Mem.reR {S : List Nat} {W w : World} {l : List (Nat × Obj)} (M : Mem S W w l) (S' : List Nat) (h : ∀ p ∈ l, p.1 ∈ S') : Mem S' w w l := ⟨Ext.refl _ _, M.at_, M.nd, fun p hp => .inl (h p hp)⟩
theorem Mem.unR {S : List Nat} {W w1 w : World} {l : List (Nat × Obj)} (M : Mem S w1 w l) (E : Ext [] W w1) (hS : ∀ b ∈ S, W.heap.size ≤ b) : Mem [] W w l :=
 ⟨(E.any.trans M.ext).fresh fun k hk => .inr (hS k hk), M.at_, M.nd, fun p hp => .inr ((M.own p hp).elim (hS _) fun h => Nat.le_trans E.size h)⟩
end Go.Proofs.YtilgoepokaaleaaGreat
/-! ZU -/
namespace Go.Proofs.YtilgoepokaaleaaGreat
set_option linter.unusedVariables false
set_option linter.unusedSimpArgs false
open Go.RowKit
attribute [local irreducible] OpTo wpListIn Code.wpIn MW Cal
def getV (l : List InsV) (t : DstV) : Option InsV := l.find? fun x => decide (x.to = t)
set_option maxHeartbeats 2000000 in
theorem rget_c (l : List InsV) (hx : ∀ x ∈ l, IsIn x) (v : Value) (t : DstV) (ht : IsDv t) (W : World) (hS : SlAt W 40 v l.length (insC l)) (hlen : l.length ≤ 100000) :
  Cal Tryz.prog 26 [v, .agg (dvC t).toArray].toArray W fun r w' => r = .tuple [.agg (inC ((getV l t).getD in0)).toArray, .bool (getV l t).isSome].toArray ∧ Ext [] W w' := by
 obtain ⟨q, cap, rfl, hcap, hsp, hll, hm⟩ := id hS
 have c1 : ∀ w, getV l t = none → Ext [] W w → Value.tuple [.agg (inC in0).toArray, .bool false].toArray = .tuple [.agg (inC ((getV l t).getD in0)).toArray, .bool (getV l t).isSome].toArray ∧ Ext [] W w := fun w h E => by
  rw [h]
  exact ⟨rfl, E⟩
 have c2 : ∀ w d, getV l t = some d → Ext [] W w → Value.tuple [.agg (inC d).toArray, .bool true].toArray = .tuple [.agg (inC ((getV l t).getD in0)).toArray, .bool (getV l t).isSome].toArray ∧ Ext [] W w := fun w d h E => by
  rw [h]
  exact ⟨rfl, E⟩
 have hz : putAll [(0, 35), (35, 1), (36, 2), (38, 1), (39, 1)] inZ [] = some (inC in0) := rfl
 have hi0 := in0_is
 refine fn_ofM (n := 21) [] Tryz.func26 rfl rfl rfl ?_
 intro a w F M hwW
 refine c_seq (c_region ?_)
 refine sD F (o_box M (F.e rfl) rfl ?_);clear F M;intro b3 w M a F
 refine sD F (o_alloc M ?_);clear F M;intro b4 w M a F
 refine sD F (o_assign (F.e rfl) ?_);clear F a;intro a F
 with_reducible refine l_nil (q_then (c_seq (c_seq (c_region ?_))))
 refine sD F (o_move (F.e rfl) ?_);clear F a;intro a F
 refine sD F (o_lenSl (F.e rfl) ?_);clear F a;intro a F
 refine sD F (o_move (F.e rfl) ?_);clear F a;intro a F
 with_reducible refine l_nil (q_then (c_block ?_))
 obtain ⟨R, hR⟩ : ∃ R, (l.drop 0).find? (fun x => decide (x.to = t)) = R := ⟨_, rfl⟩
 have hV : getV l t = R := hR
 refine c_loop (fun m a w => ∃ (i : Nat) , m = l.length - i ∧ i ≤ l.length ∧ ((l.drop i).find? (fun x => decide (x.to = t)) = R) ∧ Frm a 21 [] [(10, .int .i64 i), (9, .int .i64 l.length), (8, .slice q l.length cap), (3, .pointer (some ⟨b3, 0, none⟩)), (4, .pointer (some ⟨b4, 0, none⟩))] ∧ Mem [] W w [(b4, .cells inZ.toArray 50 (0, 0)), (b3, .cells (dvC t).toArray 45 (0, 0))]) l.length ⟨0, rfl, by omega, hR, F.only [10, 9, 8, 3, 4] rfl, M.sub (by repeat (first | exact .refl _ | apply sC2 | apply sC1))⟩ ?_
 clear F M a w
 rintro m a w ⟨i, hm', hi, hf, F, M⟩
 by_cases hlt : i < l.length
 ·obtain ⟨b, o, cs, t', fz, rfl, hb, hs⟩ := hm (by omega)
  obtain ⟨y, hy0⟩ : ∃ y, y = l[i] := ⟨_, rfl⟩
  have hyi : IsIn y := by rw [hy0];exact hx _ (List.getElem_mem hlt)
  have f1 : seg cs (o + (i : Int).toNat * 40) 40 = some (inC y) := by rw [hy0];exact seg_el (ins_len hx) hs hlt (by omega)
  rw [← List.getElem_cons_drop hlt, ← hy0] at hf
  clear hy0
  rw [List.find?_cons] at hf
  refine c_seq (c_region ?_)
  refine sD F (o_lssT (F.e rfl) (F.e rfl) (by omega) ?_);clear F a;intro a F
  with_reducible refine l_nil (q_then (c_seq ?_))
  refine c_true F rfl rfl ?_
  with_reducible refine c_skip (q_then (c_seq (c_block (c_seq (c_region ?_)))))
  refine sD F (o_indexSl (F.e rfl) (F.e rfl) (by omega) (by omega) ?_);clear F a;intro a F
  refine sD F (o_loadWA M (F.e rfl) ‹_› ‹_› ?_);clear F a;intro a F
  refine sD F (o_alloc M ?_);clear F M;intro b7 w M a F
  refine stepN rfl F (o_storeA M (F.e rfl) (F.e rfl) (in_len (by first | assumption | trivial | exact And.left ‹_›)) (in_one _) (by repeat constructor) (put_all (by rw [(in_len (by first | assumption | trivial | exact And.left ‹_›))];first | rfl | rw [(in_len (by first | assumption | trivial | exact And.left ‹_›))])) (by repeat constructor) ?_);clear F M;intro w M a F
  with_reducible refine l_nil (q_then (c_seq (c_region ?_)))
  refine sD F (o_fieldAddr (F.e rfl) ?_);clear F a;intro a F
  refine sD F (o_loadA M (F.e rfl) (by repeat constructor) (in_to (by first | assumption | trivial | exact And.left ‹_›)) ?_);clear F a;intro a F
  refine sD F (o_loadA M (F.e rfl) (by repeat constructor) (dv_all (by first | assumption | trivial | exact And.left ‹_›)) ?_);clear F a;intro a F
  refine sD F (o_eqlAE (F.e rfl) (F.e rfl) (dv_fits (by first | assumption | trivial | exact And.left ‹_›)) (dv_fits (by first | assumption | trivial | exact And.left ‹_›)) (dv_eq (by first | assumption | trivial | exact And.left ‹_›) (by first | assumption | trivial | exact And.left ‹_›)) ?_);clear F a;intro a F
  with_reducible refine l_nil (q_then ?_)
  refine c_if F rfl (fun h1 => ?_) (fun h1 => ?_)
  ·skip
   rw [h1] at F;replace h1 := of_decide_eq_true h1
   refine c_seq (c_region ?_)
   refine sD F (o_loadA M (F.e rfl) (by repeat constructor) (in_all (by first | assumption | trivial | exact And.left ‹_›)) ?_);clear F a;intro a F
   refine stepN rfl F (o_storeA M (F.e rfl) (F.e rfl) (in_len (by first | assumption | trivial | exact And.left ‹_›)) (in_one _) (by repeat constructor) (put_all (by rw [(in_len (by first | assumption | trivial | exact And.left ‹_›))];first | rfl | rw [(in_len (by first | assumption | trivial | exact And.left ‹_›))])) (by repeat constructor) ?_);clear F M;intro w M a F
   refine sD F (o_assign (F.e rfl) ?_);clear F a;intro a F
   with_reducible refine l_nil (q_then (c_ret (q_inBR (q_thenR (q_thenR (q_inBR (q_thenR ?_)))))))
   refine p_ret F rfl (.cons (.cell (F.e rfl) (run_loadVar_agg TAgg.h (M.heap (by repeat constructor)) (in_all (by first | assumption | trivial | exact And.left ‹_›)))) (.cons (.tmp (F.e rfl)) .nil)) ?_;(try dsimp only [oneOr])
   exact c2 _ _ (by rw [hV, ← hf];simp [*]) M.ext
  ·skip
   rw [h1] at F;replace h1 := of_decide_eq_false h1
   with_reducible refine c_skip (q_inB (q_then (c_region ?_)))
   refine sD F (o_add (F.e rfl) (F.e rfl) (w_i64 (by omega) (by omega)) ?_);clear F a;intro a F
   refine sD F (o_move (F.e rfl) ?_);clear F a;intro a F
   with_reducible refine l_nil (q_then ?_)
   exact ⟨_, by omega, i + 1, rfl, by omega, by rw [← hf];simp [*], F.only [10, 9, 8, 3, 4] rfl, M.sub (by repeat (first | exact .refl _ | apply sC1))⟩
 ·obtain rfl : i = l.length := by omega
  rw [List.drop_length] at hf
  refine c_seq (c_region ?_)
  refine sD F (o_lssF (F.e rfl) (F.e rfl) (by omega) ?_);clear F a;intro a F
  with_reducible refine l_nil (q_then (c_seq ?_))
  refine c_false F rfl rfl ?_
  with_reducible refine c_exit (q_thenX (q_thenX (q_inBX (q_then (c_seq (c_region ?_))))))
  refine sD F (o_build F rfl ‹_› ?_);clear F a;intro a F
  refine stepN rfl F (o_storeA M (F.e rfl) (F.e rfl) (in_len (by first | assumption | trivial | exact And.left ‹_›)) (in_one _) (by repeat constructor) (put_all (by rw [(in_len (by first | assumption | trivial | exact And.left ‹_›))];first | rfl | rw [(in_len (by first | assumption | trivial | exact And.left ‹_›))])) (by repeat constructor) ?_);clear F M;intro w M a F
  refine sD F (o_assign (F.e rfl) ?_);clear F a;intro a F
  with_reducible refine l_nil (q_then (c_ret ?_))
  refine p_ret F rfl (.cons (.cell (F.e rfl) (run_loadVar_agg TAgg.h (M.heap (by repeat constructor)) (in_all (by first | assumption | trivial | exact And.left ‹_›)))) (.cons (.tmp (F.e rfl)) .nil)) ?_;(try dsimp only [oneOr])
  exact c1 _ (by rw [hV, ← hf];rfl) M.ext
end Go.Proofs.YtilgoepokaaleaaGreat
/-! ZY -/
namespace Go.Proofs.YtilgoepokaaleaaGreat
set_option linter.unusedVariables false
set_option linter.unusedSimpArgs false
open Go.RowKit
attribute [local irreducible] OpTo wpListIn Code.wpIn MW Cal
theorem tup_in {c : InsV × Int} {x : InsV} {n : Int} {W w : World} (h : c = (x, n)) (E : Ext [] W w) : Value.tuple [.agg (inC x).toArray, .int .i64 n].toArray = .tuple [.agg (inC c.1).toArray, .int .i64 c.2].toArray ∧ Ext [] W w := by
 rw [h]
 exact ⟨rfl, E⟩
end Go.Proofs.YtilgoepokaaleaaGreat
/-! YT -/
namespace Go.Proofs.YtilgoepokaaleaaGreat
set_option linter.unusedVariables false
set_option linter.unusedSimpArgs false
open Go.RowKit
attribute [local irreducible] OpTo wpListIn Code.wpIn MW Cal
theorem raddM_c (x y : Int) (W : World) : Cal Tryz.prog 138 [.int .i64 x, .int .i64 y].toArray W fun v w' => v = .int .i64 (addM x y) ∧ Ext [] W w' := by
 unfold addM inf
 refine g_start (n := 17) (S := []) fldT_ok slcT_ok Tryz.func138 rfl rfl rfl ?_
 cases h1 : validM x
 ·refine gR 9 rfl ?_
  refine g_call rfl rfl (fun w M => rmvalid_c _ _) ?_
  refine gR 2 rfl ?_
  refine g_know 8 rfl (notT ‹_›) ?_
  refine gR 14 rfl ?_
  refine g_ret1 rfl rfl rfl fun w M => ?_
  with_reducible exact ⟨rfl, M.ext⟩
 cases h2 : validM y
 ·refine gR 9 rfl ?_
  refine g_call rfl rfl (fun w M => rmvalid_c _ _) ?_
  refine gR 2 rfl ?_
  refine g_know 8 rfl (notF ‹_›) ?_
  refine gR 1 rfl ?_
  refine g_call rfl rfl (fun w M => rmvalid_c _ _) ?_
  refine gR 4 rfl ?_
  refine g_ifT rfl (notT ‹_›) ?_
  refine gR 7 rfl ?_
  refine g_ret1 rfl rfl rfl fun w M => ?_
  with_reducible exact ⟨rfl, M.ext⟩
 have b1 := h1
 have b2 := h2
 simp only [validM, Bool.and_eq_true, decide_eq_true_eq] at b1 b2
 refine gR 9 rfl ?_
 refine g_call rfl rfl (fun w M => rmvalid_c _ _) ?_
 refine gR 2 rfl ?_
 refine g_know 8 rfl (notF ‹_›) ?_
 refine gR 1 rfl ?_
 refine g_call rfl rfl (fun w M => rmvalid_c _ _) ?_
 refine gR 4 rfl ?_
 refine g_ifF rfl (notF ‹_›) ?_
 refine gR 6 rfl ?_
 refine g_add rfl rfl (w_i64 (by omega) (by omega)) ?_
 refine g_v (fun a w F M R r => o_min (F.e rfl) (F.e rfl) r) ?_
 refine gR 4 rfl ?_
 refine g_ret1 rfl rfl rfl fun w M => ?_
 exact ⟨by simp [*];omega, M.ext⟩
theorem rvalidCh_c (c : ChoV) (W : World) : Cal Tryz.prog 139 [.agg (chC c).toArray].toArray W fun v w' => v = .bool (validCh c) ∧ Ext [] W w' := by
 unfold validCh
 refine g_start (n := 16) (S := []) fldT_ok slcT_ok Tryz.func139 rfl rfl rfl ?_
 cases h1 : validM c.cost
 ·refine gR 2 rfl ?_
  refine g_box rfl rfl fun b1 => ?_
  refine gR 6 rfl ?_
  refine g_ld1 0 rfl rfl (ch_cost trivial) ?_
  refine g_call rfl rfl (fun w M => rmvalid_c _ _) ?_
  refine gR 1 rfl ?_
  refine g_know 6 rfl ‹_› ?_
  refine gR 13 rfl ?_
  refine g_ret1 rfl rfl rfl fun w M => ?_
  with_reducible exact ⟨rfl, M.ext⟩
 by_cases h2 : c.btn = -1
 ·refine gR 2 rfl ?_
  refine g_box rfl rfl fun b1 => ?_
  refine gR 6 rfl ?_
  refine g_ld1 0 rfl rfl (ch_cost trivial) ?_
  refine g_call rfl rfl (fun w M => rmvalid_c _ _) ?_
  refine gR 1 rfl ?_
  refine g_know 6 rfl ‹_› ?_
  refine gR 1 rfl ?_
  refine g_ld1 0 rfl rfl (ch_btn trivial) ?_
  refine gR 2 rfl ?_
  refine g_know 10 rfl (decide_eq_true (by omega)) ?_
  refine gR 9 rfl ?_
  refine g_ret1 rfl rfl rfl fun w M => ?_
  exact ⟨by simp [*], M.ext⟩
 ·refine gR 2 rfl ?_
  refine g_box rfl rfl fun b1 => ?_
  refine gR 6 rfl ?_
  refine g_ld1 0 rfl rfl (ch_cost trivial) ?_
  refine g_call rfl rfl (fun w M => rmvalid_c _ _) ?_
  refine gR 1 rfl ?_
  refine g_know 6 rfl ‹_› ?_
  refine gR 1 rfl ?_
  refine g_ld1 0 rfl rfl (ch_btn trivial) ?_
  refine gR 2 rfl ?_
  refine g_know 10 rfl (decide_eq_false (by omega)) ?_
  refine gR 1 rfl ?_
  refine g_ld1 0 rfl rfl (ch_btn trivial) ?_
  refine g_call rfl rfl (fun w M => risTime_c _ _) ?_
  refine gR 6 rfl ?_
  refine g_ret1 rfl rfl rfl fun w M => ?_
  exact ⟨by simp [*], M.ext⟩
theorem tup_ch {c x : ChoV} {W w : World} (h : c = x) (E : Ext [] W w) : Value.tuple [.agg (chC x).toArray, .int .i64 0].toArray = .tuple [.agg (chC c).toArray, .int .i64 0].toArray ∧ Ext [] W w := by
 rw [h]
 exact ⟨rfl, E⟩
set_option maxHeartbeats 16000000 in
theorem rchoose_c (l : List OptV) (hx : ∀ x ∈ l, IsOp x) (hval : validOs l = true) (v : Value) (now : Int) (hnow : isTime now = true) (old : ChoV) (hold : validCh old = true) (W : World) (hS : SlAt W 2 v l.length (opsC l)) :
  Cal Tryz.prog 117 [.int .i64 now, .agg (chC old).toArray, v].toArray W fun r w' => r = .tuple [.agg (chC (chooseV now old l)).toArray, .int .i64 0].toArray ∧ Ext [] W w' := by
 obtain ⟨q, cap, rfl, _⟩ := id hS
 have hm := hS.memB [] (by simp)
 have hlen := (validOs_iff.1 hval).1
 have hopt := (validOs_iff.1 hval).2.1
 have hcost : ∀ o ∈ l, validM o.cost = true := fun o ho => by
  have := hopt o ho
  simp only [opt1, Bool.and_eq_true] at this
  exact this.2
 have z0 : putAll [(0, 1), (1, 1), (2, 1)] chZ [(1, [Value.int .i64 65535]), (2, [Value.int .i64 (-1)])] = some (chC ⟨none0.nb, none0.cost, -1⟩) := rfl
 refine g_start (n := 97) (S := []) fldT_ok slcT_ok Tryz.func117 rfl rfl rfl ?_
 refine gR 2 rfl ?_
 refine g_box rfl rfl fun b4 => ?_
 refine g_alloc fun b6 => ?_
 refine gR 6 rfl ?_
 refine g_ldA 1 rfl rfl (ch_all trivial) ?_
 refine g_call rfl rfl (fun w M => rvalidCh_c _ _) ?_
 refine gR 2 rfl ?_
 refine g_know 15 rfl (notF ‹_›) ?_
 refine gR 1 rfl ?_
 refine g_call rfl rfl (fun w M => refvalidO_c _ ‹_› _ _ ((by assumption : SlAt _ _ _ _ _).later M.ext)) ?_
 refine gR 4 rfl ?_
 refine g_ifF rfl (notF ‹_›) ?_
 refine gR 6 rfl ?_
 refine g_call rfl rfl (fun w M => risTime_c _ _) ?_
 refine gR 3 rfl ?_
 refine g_ifF rfl (notF ‹_›) ?_
 refine gR 4 rfl ?_
 refine g_v (fun a w F M R r => o_build F rfl ‹_› r) ?_
 refine g_alloc fun b8 => ?_
 refine g_stA 0 rfl rfl (ch_len trivial) (ch_one _) rfl (put_all (by rw [ch_len trivial];first | rfl | rw [ch_len ‹_›])) rfl ?_
 refine gR 4 rfl ?_
 refine g_v (fun a w F M R r => o_build F rfl ‹_› r) ?_
 refine g_alloc fun b9 => ?_
 refine g_stA 0 rfl rfl (ch_len trivial) (ch_one _) rfl (put_all (by rw [ch_len trivial];first | rfl | rw [ch_len ‹_›])) rfl ?_
 refine gR 11 rfl ?_
 refine g_loop (ι := Nat × OptV × OptV) ⟨fun (i, bs, pv) => l.length - i, fun (i, bs, pv) => i ≤ l.length ∧ (bs = bstO (l.take i)) ∧ (pv = prvO old.nb (l.take i)), fun (i, bs, pv) => [(29, .int .i64 i), (28, .int .i64 l.length), (27, .slice q l.length cap), (0, .int .i64 now), (4, .pointer (some ⟨b4, 0, none⟩)), (6, .pointer (some ⟨b6, 0, none⟩)), (8, .pointer (some ⟨b8, 0, none⟩)), (9, .pointer (some ⟨b9, 0, none⟩))], fun (i, bs, pv) => [[(b9, .cells (chC ⟨pv.nb, pv.cost, -1⟩).toArray 141 (0, 0))], [(b8, .cells (chC ⟨bs.nb, bs.cost, -1⟩).toArray 141 (0, 0))], [(b6, .cells chZ.toArray 141 (0, 0))], [(b4, .cells (chC old).toArray 141 (0, 0))]]⟩ (0, none0, none0) ⟨by omega, rfl, rfl⟩ (fun a F => F.only [29, 28, 27, 0, 4, 6, 8, 9] rfl) (by repeat (first | exact .refl _ | apply sC2 | apply sC1)) ?_
 rintro ⟨i, bs, pv⟩ ⟨hi_i, hbs, hpv⟩
 dsimp only
 by_cases hlt_i : i < l.length
 ·obtain ⟨b, o, cs, t', fz, rfl, hb, hs⟩ := hm (by omega)
  obtain ⟨x, hx0⟩ : ∃ x, x = l[i] := ⟨_, rfl⟩
  have hxm : x ∈ l := by rw [hx0];exact List.getElem_mem hlt_i
  have hxi : IsOp x := hx _ hxm
  have f1 : seg cs (o + (i : Int).toNat * 2) 2 = some (opC x) := by rw [hx0];exact seg_el (ops_len hx) hs hlt_i (by omega)
  have h1 := bstO_step hlt_i
  have h2 := prvO_step (nb := old.nb) hlt_i
  rw [← hx0, ← hbs] at h1
  rw [← hx0, ← hpv] at h2
  clear hx0 hbs hpv
  by_cases k1 : x.cost < bs.cost
  ·rw [if_pos k1] at h1
   by_cases k2 : x.nb = old.nb
   ·by_cases k3 : x.cost < 65535
    ·rw [if_pos ⟨k3, k2⟩] at h2
     refine gR 6 rfl ?_
     refine g_ifT rfl (decide_eq_true (by omega)) ?_
     refine gR 6 rfl ?_
     refine g_ixS rfl rfl (by omega) (by omega) ?_
     refine g_leA rfl ‹_› (by with_reducible assumption) ?_
     refine g_alloc fun b11 => ?_
     refine g_stA 0 rfl rfl (op_len ‹_›) (op_one _) rfl (put_all (by rw [op_len ‹_›];first | rfl | rw [op_len ‹_›])) rfl ?_
     refine gR 6 rfl ?_
     refine g_ld1 0 rfl rfl (op_cost ‹_›) ?_
     refine gR 1 rfl ?_
     refine g_ld1 2 rfl rfl (ch_cost ‹_›) ?_
     refine gR 3 rfl ?_
     refine g_ifT rfl (decide_eq_true (by omega)) ?_
     refine gR 2 rfl ?_
     refine g_ld1 0 rfl rfl (op_nb ‹_›) ?_
     refine gR 1 rfl ?_
     refine g_ld1 0 rfl rfl (op_cost ‹_›) ?_
     refine g_v (fun a w F M R r => o_build F rfl (ch_mk _ _ _) r) ?_
     refine g_stA 2 rfl rfl (ch_len ‹_›) (ch_one _) rfl (put_all (by rw [ch_len ‹_›];first | rfl | rw [ch_len ‹_›])) rfl ?_
     refine gR 5 rfl ?_
     refine g_ld1 0 rfl rfl (op_nb ‹_›) ?_
     refine gR 1 rfl ?_
     refine g_ld1 4 rfl rfl (ch_nb ‹_›) ?_
     refine gR 2 rfl ?_
     refine g_know 48 rfl (decide_eq_true (by omega)) ?_
     refine gR 1 rfl ?_
     refine g_ld1 0 rfl rfl (op_cost ‹_›) ?_
     refine gR 4 rfl ?_
     refine g_ifT rfl (decide_eq_true (by omega)) ?_
     refine gR 2 rfl ?_
     refine g_ld1 0 rfl rfl (op_nb ‹_›) ?_
     refine gR 1 rfl ?_
     refine g_ld1 0 rfl rfl (op_cost ‹_›) ?_
     refine g_v (fun a w F M R r => o_build F rfl (ch_mk _ _ _) r) ?_
     refine g_stA 1 rfl rfl (ch_len ‹_›) (ch_one _) rfl (put_all (by rw [ch_len ‹_›];first | rfl | rw [ch_len ‹_›])) rfl ?_
     refine gR 4 rfl ?_
     refine g_add rfl rfl (w_i64 (by omega) (by omega)) ?_
     refine gR 2 rfl ?_
     exact g_next (i + 1, x, x) ⟨by omega, h1.symm, h2.symm⟩ (by dsimp only;omega) (fun a F => F.only [29, 28, 27, 0, 4, 6, 8, 9] rfl) (by (try dsimp only);repeat (first | exact .refl _ | with_reducible exact sC0 _ | with_reducible apply sC2 | apply sC1))
    ·rw [if_neg (fun h => k3 h.1)] at h2
     refine gR 6 rfl ?_
     refine g_ifT rfl (decide_eq_true (by omega)) ?_
     refine gR 6 rfl ?_
     refine g_ixS rfl rfl (by omega) (by omega) ?_
     refine g_leA rfl ‹_› (by with_reducible assumption) ?_
     refine g_alloc fun b11 => ?_
     refine g_stA 0 rfl rfl (op_len ‹_›) (op_one _) rfl (put_all (by rw [op_len ‹_›];first | rfl | rw [op_len ‹_›])) rfl ?_
     refine gR 6 rfl ?_
     refine g_ld1 0 rfl rfl (op_cost ‹_›) ?_
     refine gR 1 rfl ?_
     refine g_ld1 2 rfl rfl (ch_cost ‹_›) ?_
     refine gR 3 rfl ?_
     refine g_ifT rfl (decide_eq_true (by omega)) ?_
     refine gR 2 rfl ?_
     refine g_ld1 0 rfl rfl (op_nb ‹_›) ?_
     refine gR 1 rfl ?_
     refine g_ld1 0 rfl rfl (op_cost ‹_›) ?_
     refine g_v (fun a w F M R r => o_build F rfl (ch_mk _ _ _) r) ?_
     refine g_stA 2 rfl rfl (ch_len ‹_›) (ch_one _) rfl (put_all (by rw [ch_len ‹_›];first | rfl | rw [ch_len ‹_›])) rfl ?_
     refine gR 5 rfl ?_
     refine g_ld1 0 rfl rfl (op_nb ‹_›) ?_
     refine gR 1 rfl ?_
     refine g_ld1 4 rfl rfl (ch_nb ‹_›) ?_
     refine gR 2 rfl ?_
     refine g_know 48 rfl (decide_eq_true (by omega)) ?_
     refine gR 1 rfl ?_
     refine g_ld1 0 rfl rfl (op_cost ‹_›) ?_
     refine gR 4 rfl ?_
     refine g_ifF rfl (decide_eq_false (by omega)) ?_
     refine gR 4 rfl ?_
     refine g_add rfl rfl (w_i64 (by omega) (by omega)) ?_
     refine gR 2 rfl ?_
     exact g_next (i + 1, x, pv) ⟨by omega, h1.symm, h2.symm⟩ (by dsimp only;omega) (fun a F => F.only [29, 28, 27, 0, 4, 6, 8, 9] rfl) (by (try dsimp only);repeat (first | exact .refl _ | with_reducible exact sC0 _ | with_reducible apply sC2 | apply sC1))
   ·rw [if_neg (fun h => k2 h.2)] at h2
    refine gR 6 rfl ?_
    refine g_ifT rfl (decide_eq_true (by omega)) ?_
    refine gR 6 rfl ?_
    refine g_ixS rfl rfl (by omega) (by omega) ?_
    refine g_leA rfl ‹_› (by with_reducible assumption) ?_
    refine g_alloc fun b11 => ?_
    refine g_stA 0 rfl rfl (op_len ‹_›) (op_one _) rfl (put_all (by rw [op_len ‹_›];first | rfl | rw [op_len ‹_›])) rfl ?_
    refine gR 6 rfl ?_
    refine g_ld1 0 rfl rfl (op_cost ‹_›) ?_
    refine gR 1 rfl ?_
    refine g_ld1 2 rfl rfl (ch_cost ‹_›) ?_
    refine gR 3 rfl ?_
    refine g_ifT rfl (decide_eq_true (by omega)) ?_
    refine gR 2 rfl ?_
    refine g_ld1 0 rfl rfl (op_nb ‹_›) ?_
    refine gR 1 rfl ?_
    refine g_ld1 0 rfl rfl (op_cost ‹_›) ?_
    refine g_v (fun a w F M R r => o_build F rfl (ch_mk _ _ _) r) ?_
    refine g_stA 2 rfl rfl (ch_len ‹_›) (ch_one _) rfl (put_all (by rw [ch_len ‹_›];first | rfl | rw [ch_len ‹_›])) rfl ?_
    refine gR 5 rfl ?_
    refine g_ld1 0 rfl rfl (op_nb ‹_›) ?_
    refine gR 1 rfl ?_
    refine g_ld1 4 rfl rfl (ch_nb ‹_›) ?_
    refine gR 2 rfl ?_
    refine g_know 48 rfl (decide_eq_false (by omega)) ?_
    refine gR 11 rfl ?_
    refine g_add rfl rfl (w_i64 (by omega) (by omega)) ?_
    refine gR 2 rfl ?_
    exact g_next (i + 1, x, pv) ⟨by omega, h1.symm, h2.symm⟩ (by dsimp only;omega) (fun a F => F.only [29, 28, 27, 0, 4, 6, 8, 9] rfl) (by (try dsimp only);repeat (first | exact .refl _ | with_reducible exact sC0 _ | with_reducible apply sC2 | apply sC1))
  ·rw [if_neg k1] at h1
   by_cases k2 : x.nb = old.nb
   ·by_cases k3 : x.cost < 65535
    ·rw [if_pos ⟨k3, k2⟩] at h2
     refine gR 6 rfl ?_
     refine g_ifT rfl (decide_eq_true (by omega)) ?_
     refine gR 6 rfl ?_
     refine g_ixS rfl rfl (by omega) (by omega) ?_
     refine g_leA rfl ‹_› (by with_reducible assumption) ?_
     refine g_alloc fun b11 => ?_
     refine g_stA 0 rfl rfl (op_len ‹_›) (op_one _) rfl (put_all (by rw [op_len ‹_›];first | rfl | rw [op_len ‹_›])) rfl ?_
     refine gR 6 rfl ?_
     refine g_ld1 0 rfl rfl (op_cost ‹_›) ?_
     refine gR 1 rfl ?_
     refine g_ld1 2 rfl rfl (ch_cost ‹_›) ?_
     refine gR 3 rfl ?_
     refine g_ifF rfl (decide_eq_false (by omega)) ?_
     refine gR 5 rfl ?_
     refine g_ld1 0 rfl rfl (op_nb ‹_›) ?_
     refine gR 1 rfl ?_
     refine g_ld1 4 rfl rfl (ch_nb ‹_›) ?_
     refine gR 2 rfl ?_
     refine g_know 48 rfl (decide_eq_true (by omega)) ?_
     refine gR 1 rfl ?_
     refine g_ld1 0 rfl rfl (op_cost ‹_›) ?_
     refine gR 4 rfl ?_
     refine g_ifT rfl (decide_eq_true (by omega)) ?_
     refine gR 2 rfl ?_
     refine g_ld1 0 rfl rfl (op_nb ‹_›) ?_
     refine gR 1 rfl ?_
     refine g_ld1 0 rfl rfl (op_cost ‹_›) ?_
     refine g_v (fun a w F M R r => o_build F rfl (ch_mk _ _ _) r) ?_
     refine g_stA 1 rfl rfl (ch_len ‹_›) (ch_one _) rfl (put_all (by rw [ch_len ‹_›];first | rfl | rw [ch_len ‹_›])) rfl ?_
     refine gR 4 rfl ?_
     refine g_add rfl rfl (w_i64 (by omega) (by omega)) ?_
     refine gR 2 rfl ?_
     exact g_next (i + 1, bs, x) ⟨by omega, h1.symm, h2.symm⟩ (by dsimp only;omega) (fun a F => F.only [29, 28, 27, 0, 4, 6, 8, 9] rfl) (by (try dsimp only);repeat (first | exact .refl _ | with_reducible exact sC0 _ | with_reducible apply sC2 | apply sC1))
    ·rw [if_neg (fun h => k3 h.1)] at h2
     refine gR 6 rfl ?_
     refine g_ifT rfl (decide_eq_true (by omega)) ?_
     refine gR 6 rfl ?_
     refine g_ixS rfl rfl (by omega) (by omega) ?_
     refine g_leA rfl ‹_› (by with_reducible assumption) ?_
     refine g_alloc fun b11 => ?_
     refine g_stA 0 rfl rfl (op_len ‹_›) (op_one _) rfl (put_all (by rw [op_len ‹_›];first | rfl | rw [op_len ‹_›])) rfl ?_
     refine gR 6 rfl ?_
     refine g_ld1 0 rfl rfl (op_cost ‹_›) ?_
     refine gR 1 rfl ?_
     refine g_ld1 2 rfl rfl (ch_cost ‹_›) ?_
     refine gR 3 rfl ?_
     refine g_ifF rfl (decide_eq_false (by omega)) ?_
     refine gR 5 rfl ?_
     refine g_ld1 0 rfl rfl (op_nb ‹_›) ?_
     refine gR 1 rfl ?_
     refine g_ld1 4 rfl rfl (ch_nb ‹_›) ?_
     refine gR 2 rfl ?_
     refine g_know 48 rfl (decide_eq_true (by omega)) ?_
     refine gR 1 rfl ?_
     refine g_ld1 0 rfl rfl (op_cost ‹_›) ?_
     refine gR 4 rfl ?_
     refine g_ifF rfl (decide_eq_false (by omega)) ?_
     refine gR 4 rfl ?_
     refine g_add rfl rfl (w_i64 (by omega) (by omega)) ?_
     refine gR 2 rfl ?_
     exact g_next (i + 1, bs, pv) ⟨by omega, h1.symm, h2.symm⟩ (by dsimp only;omega) (fun a F => F.only [29, 28, 27, 0, 4, 6, 8, 9] rfl) (by (try dsimp only);repeat (first | exact .refl _ | with_reducible exact sC0 _ | with_reducible apply sC2 | apply sC1))
   ·rw [if_neg (fun h => k2 h.2)] at h2
    refine gR 6 rfl ?_
    refine g_ifT rfl (decide_eq_true (by omega)) ?_
    refine gR 6 rfl ?_
    refine g_ixS rfl rfl (by omega) (by omega) ?_
    refine g_leA rfl ‹_› (by with_reducible assumption) ?_
    refine g_alloc fun b11 => ?_
    refine g_stA 0 rfl rfl (op_len ‹_›) (op_one _) rfl (put_all (by rw [op_len ‹_›];first | rfl | rw [op_len ‹_›])) rfl ?_
    refine gR 6 rfl ?_
    refine g_ld1 0 rfl rfl (op_cost ‹_›) ?_
    refine gR 1 rfl ?_
    refine g_ld1 2 rfl rfl (ch_cost ‹_›) ?_
    refine gR 3 rfl ?_
    refine g_ifF rfl (decide_eq_false (by omega)) ?_
    refine gR 5 rfl ?_
    refine g_ld1 0 rfl rfl (op_nb ‹_›) ?_
    refine gR 1 rfl ?_
    refine g_ld1 4 rfl rfl (ch_nb ‹_›) ?_
    refine gR 2 rfl ?_
    refine g_know 48 rfl (decide_eq_false (by omega)) ?_
    refine gR 11 rfl ?_
    refine g_add rfl rfl (w_i64 (by omega) (by omega)) ?_
    refine gR 2 rfl ?_
    exact g_next (i + 1, bs, pv) ⟨by omega, h1.symm, h2.symm⟩ (by dsimp only;omega) (fun a F => F.only [29, 28, 27, 0, 4, 6, 8, 9] rfl) (by (try dsimp only);repeat (first | exact .refl _ | with_reducible exact sC0 _ | with_reducible apply sC2 | apply sC1))
 ·have hil : i = l.length := by omega
  rw [hil, List.take_length] at hbs hpv
  have hb0 := bstO_valid hcost
  have hp0 := prvO_valid (nb := old.nb) hcost
  have hpi := prv_is old.nb l
  rw [← hbs] at hb0
  rw [← hpv] at hp0 hpi
  have hc : chooseV now old l = choB now old bs pv := by rw [hbs, hpv];rfl
  rw [hc]
  simp only [validM, Bool.and_eq_true, decide_eq_true_eq] at hb0 hp0
  have hob := hold
  simp only [validCh, Bool.and_eq_true, Bool.or_eq_true, decide_eq_true_eq, isTime] at hob
  have hnb := hnow
  simp only [isTime, Bool.and_eq_true, decide_eq_true_eq] at hnb
  have hn0 : pv.nb = 0 ↔ pv = none0 := ⟨fun h => by
   rcases hpi with h1 | ⟨h1, _⟩
   ·exact h1
   ·have := hopt _ h1
    simp [opt1, h] at this, fun h => by rw [h];rfl⟩
  clear hbs hpv hc hpi
  obtain ⟨cb, hcb⟩ : ∃ c : ChoV, c = ⟨bs.nb, bs.cost, -1⟩ := ⟨_, rfl⟩
  obtain ⟨cp, hcp⟩ : ∃ c : ChoV, c = ⟨pv.nb, pv.cost, -1⟩ := ⟨_, rfl⟩
  rw [← hcb, ← hcp]
  have kb : cb.cost = bs.cost := by rw [hcb]
  have kp : cp.nb = pv.nb ∧ cp.cost = pv.cost ∧ cp.btn = -1 := by rw [hcp];exact ⟨rfl, rfl, rfl⟩
  obtain ⟨kp1, kp2, kp3⟩ := kp
  by_cases c1 : cp.nb = 0
  ·refine gR 6 rfl ?_
   refine g_ifF rfl (decide_eq_false (by omega)) ?_
   refine gR 2 rfl ?_
   refine g_outX ?_
   refine gR 6 rfl ?_
   refine g_ld1 0 rfl rfl (ch_nb trivial) ?_
   refine gR 3 rfl ?_
   refine g_ifT rfl (decide_eq_true (by omega)) ?_
   refine gR 2 rfl ?_
   refine g_ldA 1 rfl rfl (ch_all trivial) ?_
   refine g_stA 2 rfl rfl (ch_len trivial) (ch_one _) rfl (put_all (by rw [ch_len trivial];first | rfl | rw [ch_len ‹_›])) rfl ?_
   refine gR 5 rfl ?_
   refine g_retC2 2 rfl rfl rfl rfl (ch_all trivial) rfl fun w M => ?_
   exact tup_ch (by unfold choB;rw [if_pos (hn0.1 (by omega)), hcb]) M.ext
  have c1' : ¬ pv = none0 := fun h => c1 (by rw [kp1];exact hn0.2 h)
  clear hn0
  by_cases c2 : bs.cost = pv.cost
  ·refine gR 6 rfl ?_
   refine g_ifF rfl (decide_eq_false (by omega)) ?_
   refine gR 2 rfl ?_
   refine g_outX ?_
   refine gR 6 rfl ?_
   refine g_ld1 0 rfl rfl (ch_nb trivial) ?_
   refine gR 3 rfl ?_
   refine g_ifF rfl (decide_eq_false (by omega)) ?_
   refine gR 6 rfl ?_
   refine g_ld1 1 rfl rfl (ch_cost trivial) ?_
   refine gR 1 rfl ?_
   refine g_ld1 0 rfl rfl (ch_cost trivial) ?_
   refine gR 3 rfl ?_
   refine g_ifT rfl (decide_eq_true (by omega)) ?_
   refine gR 2 rfl ?_
   refine g_ldA 0 rfl rfl (ch_all trivial) ?_
   refine g_stA 2 rfl rfl (ch_len trivial) (ch_one _) rfl (put_all (by rw [ch_len trivial];first | rfl | rw [ch_len ‹_›])) rfl ?_
   refine gR 5 rfl ?_
   refine g_retC2 2 rfl rfl rfl rfl (ch_all trivial) rfl fun w M => ?_
   exact tup_ch (by unfold choB;rw [if_neg c1', if_pos c2, hcp]) M.ext
  by_cases c3 : 256 ≤ pv.cost - bs.cost
  ·refine gR 6 rfl ?_
   refine g_ifF rfl (decide_eq_false (by omega)) ?_
   refine gR 2 rfl ?_
   refine g_outX ?_
   refine gR 6 rfl ?_
   refine g_ld1 0 rfl rfl (ch_nb trivial) ?_
   refine gR 3 rfl ?_
   refine g_ifF rfl (decide_eq_false (by omega)) ?_
   refine gR 6 rfl ?_
   refine g_ld1 1 rfl rfl (ch_cost trivial) ?_
   refine gR 1 rfl ?_
   refine g_ld1 0 rfl rfl (ch_cost trivial) ?_
   refine gR 3 rfl ?_
   refine g_ifF rfl (decide_eq_false (by omega)) ?_
   refine gR 6 rfl ?_
   refine g_ld1 0 rfl rfl (ch_cost trivial) ?_
   refine gR 1 rfl ?_
   refine g_ld1 1 rfl rfl (ch_cost trivial) ?_
   refine g_sub rfl rfl (w_i64 (by omega) (by omega)) ?_
   refine gR 2 rfl ?_
   refine g_know 75 rfl (decide_eq_true (by omega)) ?_
   refine gR 16 rfl ?_
   refine g_ldA 1 rfl rfl (ch_all trivial) ?_
   refine g_stA 2 rfl rfl (ch_len trivial) (ch_one _) rfl (put_all (by rw [ch_len trivial];first | rfl | rw [ch_len ‹_›])) rfl ?_
   refine gR 5 rfl ?_
   refine g_retC2 2 rfl rfl rfl rfl (ch_all trivial) rfl fun w M => ?_
   exact tup_ch (by unfold choB;rw [if_neg c1', if_neg c2, if_pos c3, hcb]) M.ext
  by_cases c4 : old.btn = -1
  ·refine gR 6 rfl ?_
   refine g_ifF rfl (decide_eq_false (by omega)) ?_
   refine gR 2 rfl ?_
   refine g_outX ?_
   refine gR 6 rfl ?_
   refine g_ld1 0 rfl rfl (ch_nb trivial) ?_
   refine gR 3 rfl ?_
   refine g_ifF rfl (decide_eq_false (by omega)) ?_
   refine gR 6 rfl ?_
   refine g_ld1 1 rfl rfl (ch_cost trivial) ?_
   refine gR 1 rfl ?_
   refine g_ld1 0 rfl rfl (ch_cost trivial) ?_
   refine gR 3 rfl ?_
   refine g_ifF rfl (decide_eq_false (by omega)) ?_
   refine gR 6 rfl ?_
   refine g_ld1 0 rfl rfl (ch_cost trivial) ?_
   refine gR 1 rfl ?_
   refine g_ld1 1 rfl rfl (ch_cost trivial) ?_
   refine g_sub rfl rfl (w_i64 (by omega) (by omega)) ?_
   refine gR 2 rfl ?_
   refine g_know 75 rfl (decide_eq_false (by omega)) ?_
   refine gR 1 rfl ?_
   refine g_ld1 3 rfl rfl (ch_btn trivial) ?_
   refine gR 2 rfl ?_
   refine g_know 79 rfl (bneF (by omega)) ?_
   refine gR 15 rfl ?_
   refine g_ld1 3 rfl rfl (ch_btn trivial) ?_
   refine gR 1 rfl ?_
   refine g_st1 0 rfl rfl rfl rfl rfl rfl ?_
   refine gR 6 rfl ?_
   refine g_ld1 0 rfl rfl rfl ?_
   refine gR 3 rfl ?_
   refine g_ifT rfl (decide_eq_true (by omega)) ?_
   refine gR 3 rfl ?_
   refine g_st1 0 rfl rfl rfl rfl rfl rfl ?_
   refine gR 4 rfl ?_
   refine g_ldA 0 rfl rfl rfl ?_
   refine g_stA 2 rfl rfl rfl rfl rfl rfl rfl ?_
   refine gR 4 rfl ?_
   refine g_retC2 2 rfl rfl rfl rfl rfl rfl fun w M => ?_
   exact tup_ch (x := ⟨cp.nb, cp.cost, now⟩) (by unfold choB;rw [if_neg c1', if_neg c2, if_neg c3, if_pos c4, kp1, kp2]) M.ext
  by_cases c5 : old.btn + 6 ≤ now
  ·refine gR 6 rfl ?_
   refine g_ifF rfl (decide_eq_false (by omega)) ?_
   refine gR 2 rfl ?_
   refine g_outX ?_
   refine gR 6 rfl ?_
   refine g_ld1 0 rfl rfl (ch_nb trivial) ?_
   refine gR 3 rfl ?_
   refine g_ifF rfl (decide_eq_false (by omega)) ?_
   refine gR 6 rfl ?_
   refine g_ld1 1 rfl rfl (ch_cost trivial) ?_
   refine gR 1 rfl ?_
   refine g_ld1 0 rfl rfl (ch_cost trivial) ?_
   refine gR 3 rfl ?_
   refine g_ifF rfl (decide_eq_false (by omega)) ?_
   refine gR 6 rfl ?_
   refine g_ld1 0 rfl rfl (ch_cost trivial) ?_
   refine gR 1 rfl ?_
   refine g_ld1 1 rfl rfl (ch_cost trivial) ?_
   refine g_sub rfl rfl (w_i64 (by omega) (by omega)) ?_
   refine gR 2 rfl ?_
   refine g_know 75 rfl (decide_eq_false (by omega)) ?_
   refine gR 1 rfl ?_
   refine g_ld1 3 rfl rfl (ch_btn trivial) ?_
   refine gR 2 rfl ?_
   refine g_know 79 rfl (bne_iff_ne.2 (by omega)) ?_
   refine gR 2 rfl ?_
   refine g_ld1 3 rfl rfl (ch_btn trivial) ?_
   refine g_add rfl rfl (w_i64 (by omega) (by omega)) ?_
   refine gR 5 rfl ?_
   refine g_ifT rfl (decide_eq_true (by omega)) ?_
   refine gR 2 rfl ?_
   refine g_ldA 1 rfl rfl (ch_all trivial) ?_
   refine g_stA 2 rfl rfl rfl rfl rfl rfl rfl ?_
   refine gR 5 rfl ?_
   refine g_retC2 2 rfl rfl rfl rfl rfl rfl fun w M => ?_
   exact tup_ch (by unfold choB;rw [if_neg c1', if_neg c2, if_neg c3, if_neg c4, if_pos c5, hcb]) M.ext
  ·refine gR 6 rfl ?_
   refine g_ifF rfl (decide_eq_false (by omega)) ?_
   refine gR 2 rfl ?_
   refine g_outX ?_
   refine gR 6 rfl ?_
   refine g_ld1 0 rfl rfl (ch_nb trivial) ?_
   refine gR 3 rfl ?_
   refine g_ifF rfl (decide_eq_false (by omega)) ?_
   refine gR 6 rfl ?_
   refine g_ld1 1 rfl rfl (ch_cost trivial) ?_
   refine gR 1 rfl ?_
   refine g_ld1 0 rfl rfl (ch_cost trivial) ?_
   refine gR 3 rfl ?_
   refine g_ifF rfl (decide_eq_false (by omega)) ?_
   refine gR 6 rfl ?_
   refine g_ld1 0 rfl rfl (ch_cost trivial) ?_
   refine gR 1 rfl ?_
   refine g_ld1 1 rfl rfl (ch_cost trivial) ?_
   refine g_sub rfl rfl (w_i64 (by omega) (by omega)) ?_
   refine gR 2 rfl ?_
   refine g_know 75 rfl (decide_eq_false (by omega)) ?_
   refine gR 1 rfl ?_
   refine g_ld1 3 rfl rfl (ch_btn trivial) ?_
   refine gR 2 rfl ?_
   refine g_know 79 rfl (bne_iff_ne.2 (by omega)) ?_
   refine gR 2 rfl ?_
   refine g_ld1 3 rfl rfl (ch_btn trivial) ?_
   refine g_add rfl rfl (w_i64 (by omega) (by omega)) ?_
   refine gR 5 rfl ?_
   refine g_ifF rfl (decide_eq_false (by omega)) ?_
   refine gR 5 rfl ?_
   refine g_ld1 3 rfl rfl (ch_btn trivial) ?_
   refine gR 1 rfl ?_
   refine g_st1 0 rfl rfl rfl rfl rfl rfl ?_
   refine gR 6 rfl ?_
   refine g_ld1 0 rfl rfl rfl ?_
   refine gR 3 rfl ?_
   refine g_ifF rfl (decide_eq_false (by omega)) ?_
   refine gR 4 rfl ?_
   refine g_ldA 0 rfl rfl rfl ?_
   refine g_stA 2 rfl rfl rfl rfl rfl rfl rfl ?_
   refine gR 4 rfl ?_
   refine g_retC2 2 rfl rfl rfl rfl rfl rfl fun w M => ?_
   exact tup_ch (x := ⟨cp.nb, cp.cost, old.btn⟩) (by unfold choB;rw [if_neg c1', if_neg c2, if_neg c3, if_neg c4, if_neg c5, kp1, kp2]) M.ext
end Go.Proofs.YtilgoepokaaleaaGreat
/-! YU -/
namespace Go.Proofs.YtilgoepokaaleaaGreat
set_option linter.unusedVariables false
set_option linter.unusedSimpArgs false
open Go.RowKit
attribute [local irreducible] OpTo wpListIn Code.wpIn MW Cal
def keepW (now : Int) (s : List SrcV) (t : DstV) (r : RouV) : Bool := decide (r.to = t) && (!decide (r.til ≤ now) && rfeasV s now t r.said)
def pushO (r : RouV) (acc : List OptV × List RouV) (o : OptV) : List OptV × List RouV := if o.nb = r.nb then (acc.1 ++ [⟨r.nb, addM r.said.met (lkC o.cost)⟩], acc.2 ++ [r]) else acc
def stepW (now : Int) (s : List SrcV) (links : List OptV) (t : DstV) (acc : List OptV × List RouV) (r : RouV) : List OptV × List RouV := if keepW now s t r then links.foldl (pushO r) acc else acc
def waysV (now : Int) (s : List SrcV) (links : List OptV) (t : DstV) (l : List RouV) : List OptV × List RouV := l.foldl (stepW now s links t) ([], [])
theorem foldl_tk {α β : Type} {f : β → α → β} {a : β} {l : List α} {i : Nat} (h : i < l.length) : (l.take (i + 1)).foldl f a = f ((l.take i).foldl f a) l[i] := by
 rw [List.take_add_one, List.getElem?_eq_getElem h, List.foldl_append]
 rfl
set_option maxHeartbeats 32000000 in
theorem ropts_c (l : List RouV) (hx : ∀ x ∈ l, IsRo x) (s : List SrcV) (hsr : ∀ x ∈ s, IsSr x) (links : List OptV) (hll : l.length ≤ 1000) (hkl : links.length ≤ 100) (vl vs vk : Value) (now : Int) (t : DstV) (ht : IsDv t) (W : World) (hS : SlAt W 39 vl l.length (rosC l)) (hSs : SlAt W 38 vs s.length (srsC s)) (hSk : SlAt W 2 vk links.length (opsC links)) :
  Cal Tryz.prog 116 [.int .i64 now, vl, vs, vk, .agg (dvC t).toArray].toArray W fun r w' => ∃ u1 e1 u2 e2, r = .tuple [u1, u2].toArray ∧ OwnS 55 2 u1 (waysV now s links t l).1.length (opsC (waysV now s links t l).1) e1 ∧ OwnS 53 39 u2 (waysV now s links t l).2.length (rosC (waysV now s links t l).2) e2 ∧ Mem [] W w' (e1 ++ e2) := by
 obtain ⟨q, cap, rfl, _⟩ := id hS
 obtain ⟨qs, cs0, rfl, _⟩ := id hSs
 obtain ⟨ql, cl, rfl, _⟩ := id hSk
 have hm := hS.memB [] (by simp)
 have hmk := hSk.memB [] (by simp)
 have hlk : ∀ o ∈ links, IsOp o := fun _ _ => trivial
 refine g_start (n := 75) (S := []) fldT_ok slcT_ok Tryz.func116 rfl rfl rfl ?_
 refine gR 2 rfl ?_
 refine g_box rfl rfl fun b9 => ?_
 refine gR 23 rfl ?_
 refine g_pad ?_
 refine g_pad ?_
 refine g_loop (ι := Nat × (List OptV) × (List RouV) × Value × (List (Nat × Obj)) × Value × (List (Nat × Obj))) ⟨fun (i, os, ws, u1, e1, u2, e2) => l.length - i, fun (i, os, ws, u1, e1, u2, e2) => i ≤ l.length ∧ (OwnS 55 2 u1 os.length (opsC os) e1) ∧ (OwnS 53 39 u2 ws.length (rosC ws) e2) ∧ ((os, ws) = waysV now s links t (l.take i)) ∧ (os.length ≤ 100 * i) ∧ (ws.length ≤ 100 * i), fun (i, os, ws, u1, e1, u2, e2) => [(20, .int .i64 i), (19, .int .i64 l.length), (18, .slice q l.length cap), (12, u1), (13, u2), (0, .int .i64 now), (2, .slice qs s.length cs0), (3, .slice ql links.length cl), (9, .pointer (some ⟨b9, 0, none⟩))], fun (i, os, ws, u1, e1, u2, e2) => [e1, e2, [(b9, .cells (dvC t).toArray 45 (0, 0))]]⟩ (0, [], [], _, [], _, []) ⟨by omega, OwnS.nilL _ _ _, OwnS.nilL _ _ _, rfl, by simp, by simp⟩ (fun a F => F.only [20, 19, 18, 12, 13, 0, 2, 3, 9] rfl) (by repeat (first | exact .refl _ | apply sC2 | apply sC1)) ?_
 rintro ⟨i, os, ws, u1, e1, u2, e2⟩ ⟨hi_i, hO1, hO2, hac, hl1, hl2⟩
 dsimp only
 by_cases hlt_i : i < l.length
 ·obtain ⟨b, o, cs, t', fz, rfl, hb, hs⟩ := hm (by omega)
  obtain ⟨x, hx0⟩ : ∃ x, x = l[i] := ⟨_, rfl⟩
  have hxm : x ∈ l := by rw [hx0];exact List.getElem_mem hlt_i
  have hxi : IsRo x := hx _ hxm
  have f1 : seg cs (o + (i : Int).toNat * 39) 39 = some (roC x) := by rw [hx0];exact seg_el (ros_len hx) hs hlt_i (by omega)
  have hxd : IsDv x.to := hxi.1
  have hst : waysV now s links t (l.take (i + 1)) = stepW now s links t (os, ws) x := by
   unfold waysV
   rw [foldl_tk hlt_i, ← hx0]
   exact congrArg (fun a => stepW now s links t a x) hac.symm
  clear hac
  have hne : keepW now s t x = false → (os, ws) = waysV now s links t (l.take (i + 1)) := fun h => by
   rw [hst]
   unfold stepW
   rw [h]
   rfl
  by_cases k1 : x.to = t
  rotate_left
  ·have k1' := decide_eq_false k1
   have hn := hne (by unfold keepW;simp [k1])
   refine gR 6 rfl ?_
   refine g_ifT rfl (decide_eq_true (by omega)) ?_
   refine gR 6 rfl ?_
   refine g_ixS rfl rfl (by omega) (by omega) ?_
   refine g_leA rfl ‹_› (by with_reducible assumption) ?_
   refine g_alloc fun b15 => ?_
   refine g_stA 0 rfl rfl (ro_len ‹_›) (ro_one _) rfl (put_all (by rw [ro_len ‹_›];first | rfl | rw [ro_len ‹_›])) rfl ?_
   refine gR 6 rfl ?_
   refine g_ldA 0 rfl rfl (ro_to ‹_›) ?_
   refine g_ldA 3 rfl rfl (dv_all ‹_›) ?_
   refine g_neA rfl rfl (dv_fits ‹_›) (dv_fits ‹_›) (dv_eq ‹_› ‹_›) ?_
   refine gR 1 rfl ?_
   refine g_know 28 rfl (notT ‹_›) ?_
   refine gR 22 rfl ?_
   refine g_add rfl rfl (w_i64 (by omega) (by omega)) ?_
   refine gR 2 rfl ?_
   exact g_next (i + 1, os, ws, u1, e1, u2, e2) ⟨by omega, hO1, hO2, hn, by dsimp only;omega, by dsimp only;omega⟩ (by dsimp only;omega) (fun a F => F.only [20, 19, 18, 12, 13, 0, 2, 3, 9] rfl) (by (try dsimp only);repeat (first | exact .refl _ | with_reducible exact sC0 _ | with_reducible apply sC2 | apply sC1))
  have k1' := decide_eq_true k1
  by_cases k2 : x.til ≤ now
  ·have hn := hne (by unfold keepW;simp [k2])
   refine gR 6 rfl ?_
   refine g_ifT rfl (decide_eq_true (by omega)) ?_
   refine gR 6 rfl ?_
   refine g_ixS rfl rfl (by omega) (by omega) ?_
   refine g_leA rfl ‹_› (by with_reducible assumption) ?_
   refine g_alloc fun b15 => ?_
   refine g_stA 0 rfl rfl (ro_len ‹_›) (ro_one _) rfl (put_all (by rw [ro_len ‹_›];first | rfl | rw [ro_len ‹_›])) rfl ?_
   refine gR 6 rfl ?_
   refine g_ldA 0 rfl rfl (ro_to ‹_›) ?_
   refine g_ldA 3 rfl rfl (dv_all ‹_›) ?_
   refine g_neA rfl rfl (dv_fits ‹_›) (dv_fits ‹_›) (dv_eq ‹_› ‹_›) ?_
   refine gR 1 rfl ?_
   refine g_know 28 rfl (notF ‹_›) ?_
   refine gR 1 rfl ?_
   refine g_ld1 0 rfl rfl (ro_til ‹_›) ?_
   refine gR 4 rfl ?_
   refine g_know 34 rfl (decide_eq_true (by omega)) ?_
   refine gR 16 rfl ?_
   refine g_add rfl rfl (w_i64 (by omega) (by omega)) ?_
   refine gR 2 rfl ?_
   exact g_next (i + 1, os, ws, u1, e1, u2, e2) ⟨by omega, hO1, hO2, hn, by dsimp only;omega, by dsimp only;omega⟩ (by dsimp only;omega) (fun a F => F.only [20, 19, 18, 12, 13, 0, 2, 3, 9] rfl) (by (try dsimp only);repeat (first | exact .refl _ | with_reducible exact sC0 _ | with_reducible apply sC2 | apply sC1))
  cases k3 : rfeasV s now t x.said
  ·have hn := hne (by unfold keepW;simp [k3])
   refine gR 6 rfl ?_
   refine g_ifT rfl (decide_eq_true (by omega)) ?_
   refine gR 6 rfl ?_
   refine g_ixS rfl rfl (by omega) (by omega) ?_
   refine g_leA rfl ‹_› (by with_reducible assumption) ?_
   refine g_alloc fun b15 => ?_
   refine g_stA 0 rfl rfl (ro_len ‹_›) (ro_one _) rfl (put_all (by rw [ro_len ‹_›];first | rfl | rw [ro_len ‹_›])) rfl ?_
   refine gR 6 rfl ?_
   refine g_ldA 0 rfl rfl (ro_to ‹_›) ?_
   refine g_ldA 3 rfl rfl (dv_all ‹_›) ?_
   refine g_neA rfl rfl (dv_fits ‹_›) (dv_fits ‹_›) (dv_eq ‹_› ‹_›) ?_
   refine gR 1 rfl ?_
   refine g_know 28 rfl (notF ‹_›) ?_
   refine gR 1 rfl ?_
   refine g_ld1 0 rfl rfl (ro_til ‹_›) ?_
   refine gR 4 rfl ?_
   refine g_know 34 rfl (decide_eq_false (by omega)) ?_
   refine gR 2 rfl ?_
   refine g_ldA 3 rfl rfl (dv_all ‹_›) ?_
   refine gR 1 rfl ?_
   refine g_ldA 0 rfl rfl (ro_said ‹_›) ?_
   refine g_call rfl rfl (fun w M => rfeas_c _ ‹_› _ _ _ ‹_› _ _ ((by assumption : SlAt _ _ _ _ _).later M.ext)) ?_
   refine gR 4 rfl ?_
   refine g_ifT rfl (notT ‹_›) ?_
   refine gR 5 rfl ?_
   refine g_add rfl rfl (w_i64 (by omega) (by omega)) ?_
   refine gR 2 rfl ?_
   exact g_next (i + 1, os, ws, u1, e1, u2, e2) ⟨by omega, hO1, hO2, hn, by dsimp only;omega, by dsimp only;omega⟩ (by dsimp only;omega) (fun a F => F.only [20, 19, 18, 12, 13, 0, 2, 3, 9] rfl) (by (try dsimp only);repeat (first | exact .refl _ | with_reducible exact sC0 _ | with_reducible apply sC2 | apply sC1))
  clear hne
  have hst2 : waysV now s links t (l.take (i + 1)) = links.foldl (pushO x) (os, ws) := by
   rw [hst]
   unfold stepW keepW
   rw [k3]
   simp [k1, k2]
  clear hst
  refine gR 6 rfl ?_
  refine g_ifT rfl (decide_eq_true (by omega)) ?_
  refine gR 6 rfl ?_
  refine g_ixS rfl rfl (by omega) (by omega) ?_
  refine g_leA rfl ‹_› (by with_reducible assumption) ?_
  refine g_alloc fun b15 => ?_
  refine g_stA 0 rfl rfl (ro_len ‹_›) (ro_one _) rfl (put_all (by rw [ro_len ‹_›];first | rfl | rw [ro_len ‹_›])) rfl ?_
  refine gR 6 rfl ?_
  refine g_ldA 0 rfl rfl (ro_to ‹_›) ?_
  refine g_ldA 3 rfl rfl (dv_all ‹_›) ?_
  refine g_neA rfl rfl (dv_fits ‹_›) (dv_fits ‹_›) (dv_eq ‹_› ‹_›) ?_
  refine gR 1 rfl ?_
  refine g_know 28 rfl (notF ‹_›) ?_
  refine gR 1 rfl ?_
  refine g_ld1 0 rfl rfl (ro_til ‹_›) ?_
  refine gR 4 rfl ?_
  refine g_know 34 rfl (decide_eq_false (by omega)) ?_
  refine gR 2 rfl ?_
  refine g_ldA 3 rfl rfl (dv_all ‹_›) ?_
  refine gR 1 rfl ?_
  refine g_ldA 0 rfl rfl (ro_said ‹_›) ?_
  refine g_call rfl rfl (fun w M => rfeas_c _ ‹_› _ _ _ ‹_› _ _ ((by assumption : SlAt _ _ _ _ _).later M.ext)) ?_
  refine gR 4 rfl ?_
  refine g_ifF rfl (notF ‹_›) ?_
  refine gR 10 rfl ?_
  refine g_loop (ι := Nat × (List OptV) × (List RouV) × Value × (List (Nat × Obj)) × Value × (List (Nat × Obj))) ⟨fun (j, os2, ws2, u3, e3, u4, e4) => links.length - j, fun (j, os2, ws2, u3, e3, u4, e4) => j ≤ links.length ∧ (OwnS 55 2 u3 os2.length (opsC os2) e3) ∧ (OwnS 53 39 u4 ws2.length (rosC ws2) e4) ∧ ((os2, ws2) = (links.take j).foldl (pushO x) (os, ws)) ∧ (os2.length ≤ 100 * i + j) ∧ (ws2.length ≤ 100 * i + j), fun (j, os2, ws2, u3, e3, u4, e4) => [(45, .int .i64 j), (44, .int .i64 links.length), (43, .slice ql links.length cl), (12, u3), (13, u4), (15, .pointer (some ⟨b15, 0, none⟩)), (20, .int .i64 i), (19, .int .i64 l.length), (18, .slice (some ⟨b, o, none⟩) l.length cap), (0, .int .i64 now), (2, .slice qs s.length cs0), (3, .slice ql links.length cl), (9, .pointer (some ⟨b9, 0, none⟩))], fun (j, os2, ws2, u3, e3, u4, e4) => [[(b15, .cells (roC x).toArray 53 (0, 0))], e3, e4, [(b9, .cells (dvC t).toArray 45 (0, 0))]]⟩ (0, os, ws, u1, e1, u2, e2) ⟨by omega, hO1, hO2, rfl, by omega, by omega⟩ (fun a F => F.only [45, 44, 43, 12, 13, 15, 20, 19, 18, 0, 2, 3, 9] rfl) (by repeat (first | exact .refl _ | apply sC2 | apply sC1)) ?_
  rintro ⟨j, os2, ws2, u3, e3, u4, e4⟩ ⟨hi_j, hO3, hO4, hin, hl3, hl4⟩
  dsimp only
  by_cases hlt_j : j < links.length
  ·obtain ⟨b2, o2, cs2, t', fz2, rfl, hb2, hs2⟩ := hmk (by omega)
   obtain ⟨oo, hoo0⟩ : ∃ oo, oo = links[j] := ⟨_, rfl⟩
   have hoom : oo ∈ links := by rw [hoo0];exact List.getElem_mem hlt_j
   have hooi : IsOp oo := hlk _ hoom
   have f2 : seg cs2 (o2 + (j : Int).toNat * 2) 2 = some (opC oo) := by rw [hoo0];exact seg_el (ops_len hlk) hs2 hlt_j (by omega)
   have hi2 : (links.take (j + 1)).foldl (pushO x) (os, ws) = pushO x (os2, ws2) oo := by
    rw [foldl_tk hlt_j, ← hoo0]
    exact congrArg (fun a => pushO x a oo) hin.symm
   clear hin
   by_cases k4 : oo.nb = x.nb
   ·have hn : (os2 ++ [⟨x.nb, addM x.said.met (lkC oo.cost)⟩], ws2 ++ [x]) = (links.take (j + 1)).foldl (pushO x) (os, ws) := by rw [hi2];unfold pushO;rw [if_pos k4]
    refine gR 6 rfl ?_
    refine g_ifT rfl (decide_eq_true (by omega)) ?_
    refine gR 6 rfl ?_
    refine g_ixS rfl rfl (by omega) (by omega) ?_
    refine g_leA rfl ‹_› (by with_reducible assumption) ?_
    refine g_alloc fun b17 => ?_
    refine g_stA 0 rfl rfl (op_len ‹_›) (op_one _) rfl (put_all (by rw [op_len ‹_›];first | rfl | rw [op_len ‹_›])) rfl ?_
    refine gR 5 rfl ?_
    refine g_ld1 0 rfl rfl (op_nb ‹_›) ?_
    refine gR 1 rfl ?_
    refine g_ld1 1 rfl rfl (ro_nb ‹_›) ?_
    refine gR 3 rfl ?_
    refine g_ifT rfl (decide_eq_true (by omega)) ?_
    refine gR 1 rfl ?_
    refine g_draw 12 75 rfl (by kernel_rfl) ?_
    refine fR 2 rfl ?_
    refine fd_ld1 1 rfl rfl (ro_nb ‹_›) ?_
    refine fR 2 rfl ?_
    refine fd_ld1 1 rfl rfl (ro_said_met ‹_›) ?_
    refine fR 1 rfl ?_
    refine fd_ld1 0 rfl rfl (op_cost ‹_›) ?_
    refine fd_v (fun a w F M R r => o_max (F.e rfl) (F.e rfl) r) ?_
    refine fd_call rfl rfl (fun w M => raddM_c _ _ _) ?_
    refine fd_v (fun a w F M R r => o_build F rfl (op_mk _ _) r) ?_
    refine fd_bs rfl rfl rfl (op_build1 ‹_›) (fun b65 => ?_)
    refine g_app 3 0 (enc := opC) rfl rfl ‹_› rfl rfl (op_len ‹_›) (by first | omega | (simp only [List.length_nil];omega)) (fun _ => rfl) (fun v66 es66 hO66 => ?_) (op_one _)
    refine gR 5 rfl ?_
    refine g_ldA 2 rfl rfl (ro_all ‹_›) ?_
    refine g_bs rfl rfl rfl (ro_build1 ‹_›) (fun b69 => ?_)
    refine g_app 5 0 (enc := roC) rfl rfl ‹_› rfl rfl (ro_len ‹_›) (by first | omega | (simp only [List.length_nil];omega)) (fun _ => rfl) (fun v70 es70 hO70 => ?_) (ro_one _)
    refine gR 5 rfl ?_
    refine g_add rfl rfl (w_i64 (by omega) (by omega)) ?_
    refine gR 2 rfl ?_
    exact g_next (j + 1, _, _, _, _, _, _) ⟨by omega, by assumption, by assumption, hn, by simp;omega, by simp;omega⟩ (by dsimp only;omega) (fun a F => F.only [45, 44, 43, 12, 13, 15, 20, 19, 18, 0, 2, 3, 9] rfl) (by (try dsimp only);repeat (first | exact .refl _ | with_reducible exact sC0 _ | with_reducible apply sC2 | apply sC1))
   ·have hn : (os2, ws2) = (links.take (j + 1)).foldl (pushO x) (os, ws) := by rw [hi2];unfold pushO;rw [if_neg k4]
    refine gR 6 rfl ?_
    refine g_ifT rfl (decide_eq_true (by omega)) ?_
    refine gR 6 rfl ?_
    refine g_ixS rfl rfl (by omega) (by omega) ?_
    refine g_leA rfl ‹_› (by with_reducible assumption) ?_
    refine g_alloc fun b17 => ?_
    refine g_stA 0 rfl rfl (op_len ‹_›) (op_one _) rfl (put_all (by rw [op_len ‹_›];first | rfl | rw [op_len ‹_›])) rfl ?_
    refine gR 5 rfl ?_
    refine g_ld1 0 rfl rfl (op_nb ‹_›) ?_
    refine gR 1 rfl ?_
    refine g_ld1 1 rfl rfl (ro_nb ‹_›) ?_
    refine gR 3 rfl ?_
    refine g_ifF rfl (decide_eq_false (by omega)) ?_
    refine gR 4 rfl ?_
    refine g_add rfl rfl (w_i64 (by omega) (by omega)) ?_
    refine gR 2 rfl ?_
    exact g_next (j + 1, os2, ws2, u3, e3, u4, e4) ⟨by omega, hO3, hO4, hn, by dsimp only;omega, by dsimp only;omega⟩ (by dsimp only;omega) (fun a F => F.only [45, 44, 43, 12, 13, 15, 20, 19, 18, 0, 2, 3, 9] rfl) (by (try dsimp only);repeat (first | exact .refl _ | with_reducible exact sC0 _ | with_reducible apply sC2 | apply sC1))
  ·have hjl : j = links.length := by omega
   rw [hjl, List.take_length, ← hst2] at hin
   refine gR 6 rfl ?_
   refine g_ifF rfl (decide_eq_false (by omega)) ?_
   refine gR 2 rfl ?_
   refine g_outX ?_
   refine gR 4 rfl ?_
   refine g_add rfl rfl (w_i64 (by omega) (by omega)) ?_
   refine gR 2 rfl ?_
   exact g_next (i + 1, os2, ws2, u3, e3, u4, e4) ⟨by omega, hO3, hO4, hin, by dsimp only;omega, by dsimp only;omega⟩ (by dsimp only;omega) (fun a F => F.only [20, 19, 18, 12, 13, 0, 2, 3, 9] rfl) (by (try dsimp only);repeat (first | exact .refl _ | with_reducible exact sC0 _ | with_reducible apply sC2 | apply sC1))
 ·have hil : i = l.length := by omega
  rw [hil, List.take_length] at hac
  rw [← hac]
  refine gR 6 rfl ?_
  refine g_ifF rfl (decide_eq_false (by omega)) ?_
  refine gR 2 rfl ?_
  refine g_outX ?_
  refine gR 11 rfl ?_
  refine g_ret2 rfl rfl rfl rfl fun w M => ?_
  exact ⟨u1, e1, u2, e2, rfl, hO1, hO2, M.sub (by simp [List.flatten_cons])⟩
end Go.Proofs.YtilgoepokaaleaaGreat
/-! YV -/
namespace Go.Proofs.YtilgoepokaaleaaGreat
set_option linter.unusedVariables false
set_option linter.unusedSimpArgs false
open Go.RowKit
attribute [local irreducible] OpTo wpListIn Code.wpIn MW Cal
theorem dests_asc {l : List RouV} {old : List InsV} (hx : ∀ x ∈ l, IsRo x) (hy : ∀ x ∈ old, IsIn x) : AscD (destsV l old) ∧ (∀ x, x ∈ destsV l old ↔ x ∈ allD l old) := foldr_insD fun x h => by
 rcases List.mem_append.1 h with h | h
 ·obtain ⟨y, h1, rfl⟩ := List.mem_map.1 h
  exact (hx y h1).1
 ·obtain ⟨y, h1, rfl⟩ := List.mem_map.1 h
  exact (hy y h1).1
theorem dests_is {l : List RouV} {old : List InsV} (hx : ∀ x ∈ l, IsRo x) (hy : ∀ x ∈ old, IsIn x) : ∀ t ∈ destsV l old, IsDv t := fun t h => by
 rcases List.mem_append.1 (((dests_asc hx hy).2 t).1 h) with h | h
 ·obtain ⟨y, h1, rfl⟩ := List.mem_map.1 h
  exact (hx y h1).1
 ·obtain ⟨y, h1, rfl⟩ := List.mem_map.1 h
  exact (hy y h1).1
/-- the first of what is still to come -/
theorem yet_le {α : Type} {to : α → DstV} {l : List α} {t : DstV} {ds : List DstV} {i : Nat} (hd : AscD (t :: ds)) (h : Yet to l (t :: ds) i) (hi : i < l.length) : ¬ cmpD (to l[i]) t < 0 := fun h1 => by
 rcases List.mem_cons.1 (h.yet i hi (Nat.le_refl _)) with h2 | h2
 ·rw [h2, cmpD_self] at h1
  omega
 ·have h3 := (List.pairwise_cons.1 hd).1 _ h2
  have h4 := cmpD_anti t (to l[i])
  omega
theorem yet_at {α : Type} {to : α → DstV} {l : List α} {t : DstV} {ds : List DstV} {i : Nat} (hT : ∀ x ∈ l, IsDv (to x)) (ht : IsDv t) (hW : Weak to l) (hd : AscD (t :: ds)) (h : Yet to l (t :: ds) i) (hm : t ∈ l.map to) : ∃ hi : i < l.length, to l[i] = t := by
 obtain ⟨x, hx, e⟩ := List.mem_map.1 hm
 obtain ⟨j, hj, rfl⟩ := List.mem_iff_getElem.1 hx
 have hij : i ≤ j := Nat.le_of_not_lt fun h1 => h.gone j hj h1 (by rw [e];simp)
 have hi : i < l.length := by omega
 refine ⟨hi, ?_⟩
 rcases Nat.lt_or_ge i j with h1 | h1
 ·have h2 := (List.pairwise_iff_getElem.1 hW) i j hi hj h1
  rw [e] at h2
  have h3 := yet_le hd h hi
  have h4 := cmpD_anti (to l[i]) t
  exact cmpD_zero (hT _ (List.getElem_mem hi)) ht (by omega)
 ·obtain rfl : i = j := by omega
  exact e
structure RdI (l : List RouV) (old : List InsV) (out ds : List DstV) (i k : Nat) : Prop where
 all : destsV l old = out ++ ds
 y1 : Yet RouV.to l ds i
 y2 : Yet InsV.to old ds k
theorem RdI.ds {l : List RouV} {old : List InsV} {out ds : List DstV} {i k : Nat} (h : RdI l old out ds i k) (hx : ∀ x ∈ l, IsRo x) (hy : ∀ x ∈ old, IsIn x) : AscD ds ∧ (∀ x ∈ ds, IsDv x) ∧ ∀ x ∈ ds, x ∈ l.map RouV.to ∨ x ∈ old.map InsV.to := by
 have h1 := dests_asc hx hy
 rw [h.all] at h1
 refine ⟨(List.pairwise_append.1 h1.1).2.1, fun x hm => dests_is hx hy x (by rw [h.all];exact List.mem_append_right _ hm), fun x hm => ?_⟩
 exact List.mem_append.1 ((h1.2 x).1 (List.mem_append_right _ hm))
theorem RdI.nil {l : List RouV} {old : List InsV} {out ds : List DstV} {i k : Nat} (h : RdI l old out ds i k) (hx : ∀ x ∈ l, IsRo x) (hy : ∀ x ∈ old, IsIn x) (h1 : ¬ i < l.length) (h2 : ¬ k < old.length) : destsV l old = out := by
 cases ds with
 | nil => rw [h.all, List.append_nil]
 | cons t ds =>
  obtain ⟨g1, g2, g3⟩ := h.ds hx hy
  exfalso
  rcases g3 t (by simp) with g | g
  ·obtain ⟨x, hx1, e⟩ := List.mem_map.1 g
   obtain ⟨j, hj, rfl⟩ := List.mem_iff_getElem.1 hx1
   exact h.y1.gone j hj (by omega) (by rw [e];simp)
  ·obtain ⟨x, hx1, e⟩ := List.mem_map.1 g
   obtain ⟨j, hj, rfl⟩ := List.mem_iff_getElem.1 hx1
   exact h.y2.gone j hj (by omega) (by rw [e];simp)
theorem RdI.head {l : List RouV} {old : List InsV} {out ds : List DstV} {i k : Nat} (h : RdI l old out ds i k) (hx : ∀ x ∈ l, IsRo x) (hy : ∀ x ∈ old, IsIn x) (hW1 : Weak RouV.to l) (hW2 : Weak InsV.to old) (hne : i < l.length ∨ k < old.length) :
  ∃ t ds', ds = t :: ds' ∧ IsDv t ∧ (∀ hi : i < l.length, (∀ hk : k < old.length, cmpD l[i].to old[k].to ≤ 0) → l[i].to = t) ∧ (∀ hk : k < old.length, (∀ hi : i < l.length, 0 < cmpD l[i].to old[k].to) → old[k].to = t) ∧ ((∃ hi : i < l.length, l[i].to = t) ∨ ∃ hk : k < old.length, old[k].to = t) := by
 obtain ⟨g1, g2, g3⟩ := h.ds hx hy
 cases ds with
 | nil =>
  exfalso
  rcases hne with h1 | h1
  ·exact (by simpa using h.y1.yet i h1 (Nat.le_refl _))
  ·exact (by simpa using h.y2.yet k h1 (Nat.le_refl _))
 | cons t ds =>
  have ht := g2 t (by simp)
  have hT1 : ∀ x ∈ l, IsDv (RouV.to x) := fun x hm => (hx x hm).1
  have hT2 : ∀ x ∈ old, IsDv (InsV.to x) := fun x hm => (hy x hm).1
  have F3 : (∃ hi : i < l.length, l[i].to = t) ∨ ∃ hk : k < old.length, old[k].to = t := by
   rcases g3 t (by simp) with g | g
   ·exact .inl (yet_at hT1 ht hW1 g1 h.y1 g)
   ·exact .inr (yet_at hT2 ht hW2 g1 h.y2 g)
  refine ⟨t, ds, rfl, ht, fun hi hc => ?_, fun hk hc => ?_, F3⟩
  ·rcases F3 with ⟨_, h1⟩ | ⟨hk, h1⟩
   ·exact h1
   ·have h2 := hc hk
    rw [h1] at h2
    have h3 := yet_le g1 h.y1 hi
    exact cmpD_zero (hT1 _ (List.getElem_mem hi)) ht (by omega)
  ·rcases F3 with ⟨hi, h1⟩ | ⟨_, h1⟩
   ·have h2 := hc hi
    rw [h1] at h2
    have h3 := yet_le g1 h.y2 hk
    have h4 := cmpD_anti t old[k].to
    omega
   ·exact h1
theorem RdI.next {l : List RouV} {old : List InsV} {out ds : List DstV} {t : DstV} {i k i' k' : Nat} (h : RdI l old out (t :: ds) i k) (hx : ∀ x ∈ l, IsRo x) (hy : ∀ x ∈ old, IsIn x) (hW1 : Weak RouV.to l) (hW2 : Weak InsV.to old)
  (a1 : i ≤ i') (a2 : i' ≤ l.length) (a3 : ∀ j (hj : j < l.length), i ≤ j → j < i' → l[j].to = t) (a4 : ∀ hj : i' < l.length, l[i'].to ≠ t)
  (b1 : k ≤ k') (b2 : k' ≤ old.length) (b3 : ∀ j (hj : j < old.length), k ≤ j → j < k' → old[j].to = t) (b4 : ∀ hj : k' < old.length, old[k'].to ≠ t) : RdI l old (out ++ [t]) ds i' k' := by
 obtain ⟨g1, g2, _⟩ := h.ds hx hy
 exact ⟨by rw [h.all];simp, (Yet.next hW1 g1 g2 h.y1 a1 a2 a3 a4).1, (Yet.next hW2 g1 g2 h.y2 b1 b2 b3 b4).1⟩
theorem RdI.start {l : List RouV} {old : List InsV} (hx : ∀ x ∈ l, IsRo x) (hy : ∀ x ∈ old, IsIn x) : RdI l old [] (destsV l old) 0 0 := ⟨rfl, ⟨Nat.zero_le _, fun j hj h => by omega, fun j hj _ => ((dests_asc hx hy).2 _).2 (List.mem_append_left _ (List.mem_map.2 ⟨_, List.getElem_mem hj, rfl⟩))⟩, ⟨Nat.zero_le _, fun j hj h => by omega, fun j hj _ => ((dests_asc hx hy).2 _).2 (List.mem_append_right _ (List.mem_map.2 ⟨_, List.getElem_mem hj, rfl⟩))⟩⟩
set_option maxHeartbeats 32000000 in
theorem rdests_c (l : List RouV) (hx : ∀ x ∈ l, IsRo x) (hA : AscC cmpR l) (old : List InsV) (hy : ∀ x ∈ old, IsIn x) (hB : AscC cmpN old) (hll : l.length ≤ 1000) (hol : old.length ≤ 1000) (vl vo : Value) (W : World) (hS : SlAt W 39 vl l.length (rosC l)) (hSo : SlAt W 40 vo old.length (insC old)) :
  Cal Tryz.prog 115 [vl, vo].toArray W fun r w' => ∃ ent, OwnS 45 35 r (destsV l old).length (dvsC (destsV l old)) ent ∧ Mem [] W w' ent := by
 obtain ⟨ql, cl, rfl, _⟩ := id hS
 obtain ⟨qo, co, rfl, _⟩ := id hSo
 have hm := hS.memB [] (by simp)
 have hmo := hSo.memB [] (by simp)
 have hW1 := weak_R hx hA
 have hW2 := weak_N hB
 refine g_start (n := 88) (S := []) fldT_ok slcT_ok Tryz.func115 rfl rfl rfl ?_
 refine gR 18 rfl ?_
 refine g_pad ?_
 refine g_loop (ι := Nat × Nat × List DstV × List DstV × Value × List (Nat × Obj)) ⟨fun (i, k, out, ds, u, es) => (l.length - i) + (old.length - k), fun (i, k, out, ds, u, es) => i ≤ l.length ∧ k ≤ old.length ∧ out.length ≤ i + k ∧ RdI l old out ds i k ∧ OwnS 45 35 u out.length (dvsC out) es, fun (i, k, out, ds, u, es) => [(6, .int .i64 i), (7, .int .i64 k), (5, u), (0, .slice ql l.length cl), (1, .slice qo old.length co)], fun (i, k, out, ds, u, es) => [es]⟩ (0, 0, [], destsV l old, _, []) ⟨by omega, by omega, by simp, RdI.start hx hy, OwnS.nilL _ _ _⟩ (fun a F => F.only [6, 7, 5, 0, 1] rfl) (by repeat (first | exact .refl _ | apply sC2 | apply sC1)) ?_
 rintro ⟨i, k, out, ds, u, es⟩ ⟨hi, hk, hou, hR, hO⟩
 dsimp only
 by_cases hne : i < l.length ∨ k < old.length
 ·obtain ⟨t, ds', rfl, htd, hA1, hA2, hF⟩ := hR.head hx hy hW1 hW2 hne
  refine gR 1 rfl ?_
  refine g_cutC (ι := Unit) ⟨fun _ => True, fun _ => [(6, .int .i64 i), (7, .int .i64 k), (5, u), (0, .slice ql l.length cl), (1, .slice qo old.length co)], fun _ => [es]⟩ ?_ ?_
  ·clear hR hF hA1 hA2
   by_cases hii : i < l.length
   ·refine gR 7 rfl ?_
    refine g_know 13 rfl (decide_eq_true (by omega)) ?_
    refine gR 9 rfl ?_
    exact g_join () trivial (fun a F => F.only [6, 7, 5, 0, 1] rfl) (by (try dsimp only);repeat (first | exact .refl _ | with_reducible exact sC0 _ | with_reducible apply sC2 | apply sC1))
   ·have hki : k < old.length := by omega
    refine gR 7 rfl ?_
    refine g_know 13 rfl (decide_eq_false (by omega)) ?_
    refine gR 7 rfl ?_
    refine g_ifT rfl (decide_eq_true (by omega)) ?_
    refine gR 1 rfl ?_
    exact g_join () trivial (fun a F => F.only [6, 7, 5, 0, 1] rfl) (by (try dsimp only);repeat (first | exact .refl _ | with_reducible exact sC0 _ | with_reducible apply sC2 | apply sC1))
  rintro _ _
  refine gR 4 rfl ?_
  refine g_alloc fun b8 => ?_
  refine gR 3 rfl ?_
  refine g_cutC (ι := Unit) ⟨fun _ => True, fun _ => [(8, .pointer (some ⟨b8, 0, none⟩)), (6, .int .i64 i), (7, .int .i64 k), (5, u), (0, .slice ql l.length cl), (1, .slice qo old.length co)], fun _ => [[(b8, .cells (dvC t).toArray 45 (0, 0))], es]⟩ ?_ ?_
  ·clear hR hF
   by_cases hki : k < old.length
   ·obtain ⟨b', o', cs', t2, fz', rfl, hb', hs'⟩ := hmo (by omega)
    have f2 : seg cs' (o' + (k : Int).toNat * 40) 40 = some (inC old[k]) := seg_el (ins_len hy) hs' hki (by omega)
    have yI := hy _ (List.getElem_mem hki)
    have yD : IsDv old[k].to := yI.1
    by_cases hii : i < l.length
    ·obtain ⟨b, o, cs, t1, fz, rfl, hb, hs⟩ := hm (by omega)
     have f1 : seg cs (o + (i : Int).toNat * 39) 39 = some (roC l[i]) := seg_el (ros_len hx) hs hii (by omega)
     have xI := hx _ (List.getElem_mem hii)
     have xD : IsDv l[i].to := xI.1
     by_cases hc : cmpD l[i].to old[k].to ≤ 0
     ·have e := hA1 hii (fun _ => hc)
      clear hA1 hA2
      generalize l[i] = x at *
      generalize old[k] = y at *
      refine gR 1 rfl ?_
      refine g_draw 24 88 rfl (by kernel_rfl) ?_
      refine fR 5 rfl ?_
      refine fd_know 23 rfl (decide_eq_false (by omega)) ?_
      refine fR 5 rfl ?_
      refine fd_know 28 rfl (decide_eq_true (by omega)) ?_
      refine fR 2 rfl ?_
      refine fd_ixS rfl rfl (by omega) (by omega) ?_
      refine fR 1 rfl ?_
      refine fd_leA rfl ‹_› (sg_seg ‹_› (ro_to ‹_›) (by omega)) ?_
      refine fR 2 rfl ?_
      refine fd_ixS rfl rfl (by omega) (by omega) ?_
      refine fR 1 rfl ?_
      refine fd_leA rfl ‹_› (sg_seg ‹_› (in_to ‹_›) (by omega)) ?_
      refine fd_call rfl rfl (fun w M => rcompare_c _ _ ‹_› ‹_› _) ?_
      refine fR 3 rfl ?_
      refine fd_done rfl rfl ?_
      refine gR 2 rfl ?_
      refine g_ifT rfl (decide_eq_true (by omega)) ?_
      refine gR 3 rfl ?_
      refine g_ixS rfl rfl (by omega) (by omega) ?_
      refine gR 1 rfl ?_
      refine g_leA rfl ‹_› (sg_seg ‹_› (ro_to ‹_›) (by omega)) ?_
      refine g_stA 0 rfl rfl (dv_len ‹_›) (dv_one _) rfl (put_all (by rw [dv_len ‹_›];first | rfl | rw [dv_len ‹_›])) rfl ?_
      refine gR 1 rfl ?_
      exact g_join () trivial (fun a F => F.only [8, 6, 7, 5, 0, 1] rfl) (by dsimp only;rw [e];exact (.refl _))
     ·have e := hA2 hki (fun _ => by omega)
      clear hA1 hA2
      generalize l[i] = x at *
      generalize old[k] = y at *
      refine gR 1 rfl ?_
      refine g_draw 24 88 rfl (by kernel_rfl) ?_
      refine fR 5 rfl ?_
      refine fd_know 23 rfl (decide_eq_false (by omega)) ?_
      refine fR 5 rfl ?_
      refine fd_know 28 rfl (decide_eq_true (by omega)) ?_
      refine fR 2 rfl ?_
      refine fd_ixS rfl rfl (by omega) (by omega) ?_
      refine fR 1 rfl ?_
      refine fd_leA rfl ‹_› (sg_seg ‹_› (ro_to ‹_›) (by omega)) ?_
      refine fR 2 rfl ?_
      refine fd_ixS rfl rfl (by omega) (by omega) ?_
      refine fR 1 rfl ?_
      refine fd_leA rfl ‹_› (sg_seg ‹_› (in_to ‹_›) (by omega)) ?_
      refine fd_call rfl rfl (fun w M => rcompare_c _ _ ‹_› ‹_› _) ?_
      refine fR 3 rfl ?_
      refine fd_done rfl rfl ?_
      refine gR 2 rfl ?_
      refine g_ifF rfl (decide_eq_false (by omega)) ?_
      refine gR 3 rfl ?_
      refine g_ixS rfl rfl (by omega) (by omega) ?_
      refine gR 1 rfl ?_
      refine g_leA rfl ‹_› (sg_seg ‹_› (in_to ‹_›) (by omega)) ?_
      refine g_stA 0 rfl rfl (dv_len ‹_›) (dv_one _) rfl (put_all (by rw [dv_len ‹_›];first | rfl | rw [dv_len ‹_›])) rfl ?_
      refine gR 1 rfl ?_
      exact g_join () trivial (fun a F => F.only [8, 6, 7, 5, 0, 1] rfl) (by dsimp only;rw [e];exact (.refl _))
    ·have e := hA2 hki (fun h => absurd h hii)
     clear hA1 hA2
     generalize old[k] = y at *
     refine gR 1 rfl ?_
     refine g_draw 24 88 rfl (by kernel_rfl) ?_
     refine fR 5 rfl ?_
     refine fd_know 23 rfl (decide_eq_false (by omega)) ?_
     refine fR 5 rfl ?_
     refine fd_know 28 rfl (decide_eq_false (by omega)) ?_
     refine fR 14 rfl ?_
     refine fd_done rfl rfl ?_
     refine gR 6 rfl ?_
     refine g_ixS rfl rfl (by omega) (by omega) ?_
     refine gR 1 rfl ?_
     refine g_leA rfl ‹_› (sg_seg ‹_› (in_to ‹_›) (by omega)) ?_
     refine g_stA 0 rfl rfl (dv_len ‹_›) (dv_one _) rfl (put_all (by rw [dv_len ‹_›];first | rfl | rw [dv_len ‹_›])) rfl ?_
     refine gR 1 rfl ?_
     exact g_join () trivial (fun a F => F.only [8, 6, 7, 5, 0, 1] rfl) (by dsimp only;rw [e];exact (.refl _))
   ·have hii : i < l.length := by omega
    obtain ⟨b, o, cs, t1, fz, rfl, hb, hs⟩ := hm (by omega)
    have f1 : seg cs (o + (i : Int).toNat * 39) 39 = some (roC l[i]) := seg_el (ros_len hx) hs hii (by omega)
    have xI := hx _ (List.getElem_mem hii)
    have xD : IsDv l[i].to := xI.1
    have e := hA1 hii (fun h => absurd h hki)
    clear hA1 hA2
    generalize l[i] = x at *
    refine gR 1 rfl ?_
    refine g_draw 24 88 rfl (by kernel_rfl) ?_
    refine fR 5 rfl ?_
    refine fd_know 23 rfl (decide_eq_true (by omega)) ?_
    refine fR 19 rfl ?_
    refine fd_done rfl rfl ?_
    refine gR 6 rfl ?_
    refine g_ixS rfl rfl (by omega) (by omega) ?_
    refine gR 1 rfl ?_
    refine g_leA rfl ‹_› (sg_seg ‹_› (ro_to ‹_›) (by omega)) ?_
    refine g_stA 0 rfl rfl (dv_len ‹_›) (dv_one _) rfl (put_all (by rw [dv_len ‹_›];first | rfl | rw [dv_len ‹_›])) rfl ?_
    refine gR 1 rfl ?_
    exact g_join () trivial (fun a F => F.only [8, 6, 7, 5, 0, 1] rfl) (by dsimp only;rw [e];exact (.refl _))
  rintro _ _
  clear hA1 hA2
  refine gR 4 rfl ?_
  refine g_ldA 0 rfl rfl (dv_all ‹_›) ?_
  refine g_bs rfl rfl rfl (dv_build1 ‹_›) (fun b55 => ?_)
  refine g_app 2 0 (enc := dvC) rfl rfl ‹_› rfl rfl (dv_len ‹_›) (by first | omega | (simp only [List.length_nil];omega)) (fun _ => rfl) (fun v56 es56 hO56 => ?_) (dv_one _)
  refine gR 5 rfl ?_
  refine g_cutB (ι := Nat) ⟨fun i2 => i ≤ i2 ∧ i2 ≤ l.length ∧ (∀ j (hj : j < l.length), i ≤ j → j < i2 → l[j].to = t) ∧ (∀ hj : i2 < l.length, l[i2].to ≠ t), fun i2 => [(6, .int .i64 i2), (7, .int .i64 k), (5, v56), (8, .pointer (some ⟨b8, 0, none⟩)), (0, .slice ql l.length cl), (1, .slice qo old.length co)], fun _ => [[(b8, .cells (dvC t).toArray 45 (0, 0))], es56]⟩ ?_ ?_
  ·refine g_loop (ι := Nat) ⟨fun i2 => l.length - i2, fun i2 => i ≤ i2 ∧ i2 ≤ l.length ∧ (∀ j (hj : j < l.length), i ≤ j → j < i2 → l[j].to = t), fun i2 => [(6, .int .i64 i2), (7, .int .i64 k), (5, v56), (8, .pointer (some ⟨b8, 0, none⟩)), (0, .slice ql l.length cl), (1, .slice qo old.length co)], fun _ => [[(b8, .cells (dvC t).toArray 45 (0, 0))], es56]⟩ i ⟨by omega, hi, fun j hj h1 h2 => by omega⟩ (fun a F => F.only [6, 7, 5, 8, 0, 1] rfl) (by repeat (first | exact .refl _ | apply sC2 | apply sC1)) ?_
   rintro i2 ⟨h1, h2, h3⟩
   by_cases h4 : i2 < l.length
   ·obtain ⟨b, o, cs, t1, fz, rfl, hb, hs⟩ := hm (by omega)
    have f1 : seg cs (o + (i2 : Int).toNat * 39) 39 = some (roC l[i2]) := seg_el (ros_len hx) hs h4 (by omega)
    have xI := hx _ (List.getElem_mem h4)
    have xD : IsDv l[i2].to := xI.1
    by_cases h5 : l[i2].to = t
    ·have h5' := decide_eq_true h5
     have h6 : ∀ j (hj : j < l.length), i ≤ j → j < i2 + 1 → l[j].to = t := fun j hj g1 g2 => by
      rcases Nat.lt_or_ge j i2 with g | g
      ·exact h3 j hj g1 g
      ·obtain rfl : j = i2 := by omega
       exact h5
     clear h3 h5
     generalize hxg : l[i2] = x at f1 xI xD h5'
     clear hxg
     refine gR 2 rfl ?_
     refine g_draw 13 88 rfl (by kernel_rfl) ?_
     refine fR 5 rfl ?_
     refine fd_know 61 rfl (decide_eq_true (by omega)) ?_
     refine fR 2 rfl ?_
     refine fd_ixS rfl rfl (by omega) (by omega) ?_
     refine fR 1 rfl ?_
     refine fd_leA rfl ‹_› (sg_seg ‹_› (ro_to ‹_›) (by omega)) ?_
     refine fd_ldA 0 rfl rfl (dv_all ‹_›) ?_
     refine fd_eqA rfl rfl (dv_fits ‹_›) (dv_fits ‹_›) (dv_eq ‹_› ‹_›) ?_
     refine fR 1 rfl ?_
     refine fd_done rfl rfl ?_
     refine gR 2 rfl ?_
     refine g_ifT rfl ‹_› ?_
     refine gR 5 rfl ?_
     refine g_add rfl rfl (w_i64 (by omega) (by omega)) ?_
     refine gR 3 rfl ?_
     exact g_next (i2 + 1) ⟨by omega, by omega, h6⟩ (by dsimp only;omega) (fun a F => F.only [6, 7, 5, 8, 0, 1] rfl) (by (try dsimp only);repeat (first | exact .refl _ | with_reducible exact sC0 _ | with_reducible apply sC2 | apply sC1))
    ·have h5' := decide_eq_false h5
     have h6 : ∀ hj : i2 < l.length, l[i2].to ≠ t := fun _ => h5
     clear h5
     generalize hxg : l[i2] = x at f1 xI xD h5'
     clear hxg
     refine gR 2 rfl ?_
     refine g_draw 13 88 rfl (by kernel_rfl) ?_
     refine fR 5 rfl ?_
     refine fd_know 61 rfl (decide_eq_true (by omega)) ?_
     refine fR 2 rfl ?_
     refine fd_ixS rfl rfl (by omega) (by omega) ?_
     refine fR 1 rfl ?_
     refine fd_leA rfl ‹_› (sg_seg ‹_› (ro_to ‹_›) (by omega)) ?_
     refine fd_ldA 0 rfl rfl (dv_all ‹_›) ?_
     refine fd_eqA rfl rfl (dv_fits ‹_›) (dv_fits ‹_›) (dv_eq ‹_› ‹_›) ?_
     refine fR 1 rfl ?_
     refine fd_done rfl rfl ?_
     refine gR 2 rfl ?_
     refine g_ifF rfl ‹_› ?_
     refine gR 2 rfl ?_
     refine g_outX ?_
     refine gR 1 rfl ?_
     exact g_join i2 ⟨h1, h2, h3, h6⟩ (fun a F => F.only [6, 7, 5, 8, 0, 1] rfl) (by (try dsimp only);repeat (first | exact .refl _ | with_reducible exact sC0 _ | with_reducible apply sC2 | apply sC1))
   ·refine gR 2 rfl ?_
    refine g_draw 13 88 rfl (by kernel_rfl) ?_
    refine fR 5 rfl ?_
    refine fd_know 61 rfl (decide_eq_false (by omega)) ?_
    refine fR 8 rfl ?_
    refine fd_done rfl rfl ?_
    refine gR 5 rfl ?_
    refine g_outX ?_
    refine gR 1 rfl ?_
    exact g_join i2 ⟨h1, h2, h3, fun h => absurd h h4⟩ (fun a F => F.only [6, 7, 5, 8, 0, 1] rfl) (by (try dsimp only);repeat (first | exact .refl _ | with_reducible exact sC0 _ | with_reducible apply sC2 | apply sC1))
  rintro i2 ⟨a1, a2, a3, a4⟩
  refine gR 2 rfl ?_
  refine g_cutB (ι := Nat) ⟨fun k2 => k ≤ k2 ∧ k2 ≤ old.length ∧ (∀ j (hj : j < old.length), k ≤ j → j < k2 → old[j].to = t) ∧ (∀ hj : k2 < old.length, old[k2].to ≠ t), fun k2 => [(6, .int .i64 i2), (7, .int .i64 k2), (5, v56), (0, .slice ql l.length cl), (1, .slice qo old.length co)], fun _ => [es56]⟩ ?_ ?_
  ·refine g_loop (ι := Nat) ⟨fun k2 => old.length - k2, fun k2 => k ≤ k2 ∧ k2 ≤ old.length ∧ (∀ j (hj : j < old.length), k ≤ j → j < k2 → old[j].to = t), fun k2 => [(6, .int .i64 i2), (7, .int .i64 k2), (5, v56), (8, .pointer (some ⟨b8, 0, none⟩)), (0, .slice ql l.length cl), (1, .slice qo old.length co)], fun _ => [[(b8, .cells (dvC t).toArray 45 (0, 0))], es56]⟩ k ⟨by omega, hk, fun j hj h1 h2 => by omega⟩ (fun a F => F.only [6, 7, 5, 8, 0, 1] rfl) (by repeat (first | exact .refl _ | apply sC2 | apply sC1)) ?_
   rintro k2 ⟨h1, h2, h3⟩
   by_cases h4 : k2 < old.length
   ·obtain ⟨b, o, cs, t1, fz, rfl, hb, hs⟩ := hmo (by omega)
    have f1 : seg cs (o + (k2 : Int).toNat * 40) 40 = some (inC old[k2]) := seg_el (ins_len hy) hs h4 (by omega)
    have xI := hy _ (List.getElem_mem h4)
    have xD : IsDv old[k2].to := xI.1
    by_cases h5 : old[k2].to = t
    ·have h5' := decide_eq_true h5
     have h6 : ∀ j (hj : j < old.length), k ≤ j → j < k2 + 1 → old[j].to = t := fun j hj g1 g2 => by
      rcases Nat.lt_or_ge j k2 with g | g
      ·exact h3 j hj g1 g
      ·obtain rfl : j = k2 := by omega
       exact h5
     clear h3 h5
     generalize hxg : old[k2] = x at f1 xI xD h5'
     clear hxg
     refine gR 2 rfl ?_
     refine g_draw 13 88 rfl (by kernel_rfl) ?_
     refine fR 5 rfl ?_
     refine fd_know 76 rfl (decide_eq_true (by omega)) ?_
     refine fR 2 rfl ?_
     refine fd_ixS rfl rfl (by omega) (by omega) ?_
     refine fR 1 rfl ?_
     refine fd_leA rfl ‹_› (sg_seg ‹_› (in_to ‹_›) (by omega)) ?_
     refine fd_ldA 0 rfl rfl (dv_all ‹_›) ?_
     refine fd_eqA rfl rfl (dv_fits ‹_›) (dv_fits ‹_›) (dv_eq ‹_› ‹_›) ?_
     refine fR 1 rfl ?_
     refine fd_done rfl rfl ?_
     refine gR 2 rfl ?_
     refine g_ifT rfl ‹_› ?_
     refine gR 5 rfl ?_
     refine g_add rfl rfl (w_i64 (by omega) (by omega)) ?_
     refine gR 3 rfl ?_
     exact g_next (k2 + 1) ⟨by omega, by omega, h6⟩ (by dsimp only;omega) (fun a F => F.only [6, 7, 5, 8, 0, 1] rfl) (by (try dsimp only);repeat (first | exact .refl _ | with_reducible exact sC0 _ | with_reducible apply sC2 | apply sC1))
    ·have h5' := decide_eq_false h5
     have h6 : ∀ hj : k2 < old.length, old[k2].to ≠ t := fun _ => h5
     clear h5
     generalize hxg : old[k2] = x at f1 xI xD h5'
     clear hxg
     refine gR 2 rfl ?_
     refine g_draw 13 88 rfl (by kernel_rfl) ?_
     refine fR 5 rfl ?_
     refine fd_know 76 rfl (decide_eq_true (by omega)) ?_
     refine fR 2 rfl ?_
     refine fd_ixS rfl rfl (by omega) (by omega) ?_
     refine fR 1 rfl ?_
     refine fd_leA rfl ‹_› (sg_seg ‹_› (in_to ‹_›) (by omega)) ?_
     refine fd_ldA 0 rfl rfl (dv_all ‹_›) ?_
     refine fd_eqA rfl rfl (dv_fits ‹_›) (dv_fits ‹_›) (dv_eq ‹_› ‹_›) ?_
     refine fR 1 rfl ?_
     refine fd_done rfl rfl ?_
     refine gR 2 rfl ?_
     refine g_ifF rfl ‹_› ?_
     refine gR 2 rfl ?_
     refine g_outX ?_
     refine gR 1 rfl ?_
     exact g_join k2 ⟨h1, h2, h3, h6⟩ (fun a F => F.only [6, 7, 5, 0, 1] rfl) (by (try dsimp only);repeat (first | exact .refl _ | with_reducible exact sC0 _ | with_reducible apply sC2 | apply sC1))
   ·refine gR 2 rfl ?_
    refine g_draw 13 88 rfl (by kernel_rfl) ?_
    refine fR 5 rfl ?_
    refine fd_know 76 rfl (decide_eq_false (by omega)) ?_
    refine fR 8 rfl ?_
    refine fd_done rfl rfl ?_
    refine gR 5 rfl ?_
    refine g_outX ?_
    refine gR 1 rfl ?_
    exact g_join k2 ⟨h1, h2, h3, fun h => absurd h h4⟩ (fun a F => F.only [6, 7, 5, 0, 1] rfl) (by (try dsimp only);repeat (first | exact .refl _ | with_reducible exact sC0 _ | with_reducible apply sC2 | apply sC1))
  rintro k2 ⟨c1, c2, c3, c4⟩
  have hlt : i < i2 ∨ k < k2 := by
   rcases hF with ⟨g, e⟩ | ⟨g, e⟩
   ·exact .inl (Nat.lt_of_le_of_ne a1 fun h => by subst h;exact a4 g e)
   ·exact .inr (Nat.lt_of_le_of_ne c1 fun h => by subst h;exact c4 g e)
  have hRn := hR.next hx hy hW1 hW2 a1 a2 a3 a4 c1 c2 c3 c4
  refine gR 1 rfl ?_
  exact g_next (i2, k2, out ++ [t], ds', v56, es56) ⟨a2, c2, by simp;omega, hRn, hO56⟩ (by dsimp only;omega) (fun a F => F.only [6, 7, 5, 0, 1] rfl) (by (try dsimp only);repeat (first | exact .refl _ | with_reducible exact sC0 _ | with_reducible apply sC2 | apply sC1))
 ·have he := hR.nil hx hy (by omega) (by omega)
  rw [he]
  refine gR 8 rfl ?_
  refine g_know 13 rfl (decide_eq_false (by omega)) ?_
  refine gR 7 rfl ?_
  refine g_ifF rfl (decide_eq_false (by omega)) ?_
  refine gR 2 rfl ?_
  refine g_outX ?_
  refine gR 9 rfl ?_
  refine g_ret1 rfl rfl rfl fun w M => ?_
  exact ⟨es, hO, M.sub (List.sublist_append_left _ _)⟩
end Go.Proofs.YtilgoepokaaleaaGreat
/-! YW -/
namespace Go.Proofs.YtilgoepokaaleaaGreat
set_option linter.unusedVariables false
set_option linter.unusedSimpArgs false
open Go.RowKit
theorem snoc_ind {α : Type} {p : List α → Prop} (h0 : p []) (h1 : ∀ xs x, p xs → p (xs ++ [x])) : ∀ l, p l := fun l => by
 have : ∀ n, p (l.take n) := fun n => by
  induction n with
  | zero => simpa using h0
  | succ n ih =>
   rcases Nat.lt_or_ge n l.length with h | h
   ·rw [List.take_add_one, List.getElem?_eq_getElem h]
    exact h1 _ _ ih
   ·rw [List.take_of_length_le (by omega)]
    rwa [List.take_of_length_le h] at ih
 simpa using this l.length
theorem push_all {r : RouV} (links : List OptV) : AscC cmpO links → ∀ acc, links.foldl (pushO r) acc = match getA r.nb (costM links) with
  | none => acc
  | some c => (acc.1 ++ [⟨r.nb, addM r.said.met c⟩], acc.2 ++ [r]) := by
 refine snoc_ind (p := fun links => AscC cmpO links → ∀ acc, links.foldl (pushO r) acc = match getA r.nb (costM links) with
  | none => acc
  | some c => (acc.1 ++ [⟨r.nb, addM r.said.met c⟩], acc.2 ++ [r])) (fun _ _ => rfl) (fun xs o ih h acc => ?_) links
 have h1 := List.pairwise_append.1 h
 have hc : costM (xs ++ [o]) = putA o.nb (lkC o.cost) (costM xs) := by
  unfold costM
  rw [List.foldl_append]
  rfl
 rw [List.foldl_append, ih h1.1, hc, getA_put]
 simp only [List.foldl_cons, List.foldl_nil]
 by_cases e : o.nb = r.nb
 ·have hn : getA r.nb (costM xs) = none := by
   cases hg : getA r.nb (costM xs) with
   | none => rfl
   | some c =>
    obtain ⟨o', hm, e', _⟩ := costM_mem hg
    have := h1.2.2 o' hm o (by simp)
    unfold cmpO at this
    rw [cmpI_lt] at this
    omega
  rw [hn]
  simp [pushO, e]
 ·rw [if_neg (fun h => e h.symm)]
  cases hg : getA r.nb (costM xs) <;> simp [pushO, e]
theorem rfeas_is {s : List SrcV} {now : Int} {t : DstV} {d : DisV} (h1 : validSs s = true) (h2 : validT t = true) (h3 : isTime now = true) : rfeasV s now t d = feasV s now t d := by
 unfold rfeasV
 rw [h1, h2, h3]
 rfl
theorem ways_is {now : Int} {s : List SrcV} {links : List OptV} {t : DstV} (l : List RouV) (hs : validSs s = true) (ht : validT t = true) (hn : isTime now = true) (hk : AscC cmpO links) :
  waysV now s links t l = (optsV now s (costM links) t l, (l.filter fun r => decide (r.to = t)).filter fun r => (optV now s (costM links) t r).isSome) := by
 refine snoc_ind (p := fun l => waysV now s links t l = (optsV now s (costM links) t l, (l.filter fun r => decide (r.to = t)).filter fun r => (optV now s (costM links) t r).isSome)) rfl (fun xs r ih => ?_) l
 have h1 : waysV now s links t (xs ++ [r]) = stepW now s links t (waysV now s links t xs) r := by
  unfold waysV
  rw [List.foldl_append]
  rfl
 rw [h1, ih]
 unfold stepW keepW optsV
 rw [rfeas_is hs ht hn]
 by_cases e : r.to = t
 ·rw [push_all links hk]
  simp only [List.filter_append, List.filterMap_append, List.filter_cons, List.filter_nil, e, decide_true, Bool.true_and, if_true]
  by_cases c : (!decide (r.til ≤ now) && feasV s now t r.said) = true
  ·rw [if_pos c]
   have c' : (decide (r.til ≤ now) || !feasV s now t r.said) = false := by
    simp only [Bool.and_eq_true, Bool.not_eq_true'] at c
    rw [c.1, c.2]
    rfl
   cases hg : getA r.nb (costM links) with
   | none => simp [optV, hg]
   | some v => simp only [Bool.or_eq_false_iff, Bool.not_eq_false'] at c';simp [optV, hg, c'.1, c'.2]
  ·rw [if_neg c]
   have c' : (decide (r.til ≤ now) || !feasV s now t r.said) = true := by
    cases h2 : decide (r.til ≤ now)
    ·cases h3 : feasV s now t r.said
     ·rfl
     ·rw [h2, h3] at c;exact absurd rfl c
    ·rfl
   have hn2 : optV now s (costM links) t r = none := by
    unfold optV
    cases getA r.nb (costM links) with
    | none => rfl
    | some v => dsimp only;rw [if_pos c']
   simp [hn2]
 ·simp [List.filter_append, List.filter_cons, e]
def ownW (ws : List RouV) (nb cost : Int) : DisV := ws.foldl (fun a w => if w.nb = nb then ⟨w.said.seq, cost⟩ else a) di0
theorem own_is {nb cost : Int} (ws : List RouV) : (∃ w ∈ ws, w.nb = nb) → ownW ws nb cost = ⟨((getA nb (ws.foldl (fun m r => putA r.nb r.said m) [])).getD di0).seq, cost⟩ := by
 refine snoc_ind (p := fun ws => (∃ w ∈ ws, w.nb = nb) → ownW ws nb cost = ⟨((getA nb (ws.foldl (fun m r => putA r.nb r.said m) [])).getD di0).seq, cost⟩) (fun ⟨w, h, _⟩ => by cases h) (fun xs x ih ⟨w, hw, e⟩ => ?_) ws
 have h1 : ownW (xs ++ [x]) nb cost = if x.nb = nb then ⟨x.said.seq, cost⟩ else ownW xs nb cost := by
  unfold ownW
  rw [List.foldl_append]
  rfl
 rw [h1, List.foldl_append]
 simp only [List.foldl_cons, List.foldl_nil]
 rw [getA_put]
 by_cases e2 : x.nb = nb
 ·rw [if_pos e2, if_pos e2.symm]
  rfl
 ·rw [if_neg e2, if_neg (fun h => e2 h.symm)]
  refine ih ⟨w, ?_, e⟩
  rcases List.mem_append.1 hw with h | h
  ·exact h
  ·simp only [List.mem_singleton] at h
   rw [h] at e
   exact absurd e e2
section
variable {now : Int} {t : DstV} {op : List OptV} {said : List (Int × DisV)}
theorem aft_cho {o : Option InsV} (h : (chooseV now (befV o) op).nb ≠ 0) : aftV now t o op said = some ⟨t, (chooseV now (befV o) op).nb, ⟨((getA (chooseV now (befV o) op).nb said).getD di0).seq, (chooseV now (befV o) op).cost⟩, (chooseV now (befV o) op).btn, 0⟩ := by
 unfold aftV
 dsimp only
 rw [if_pos h]
theorem aft_none (h : (chooseV now (befV none) op).nb = 0) : aftV now t none op said = none := by
 unfold aftV
 dsimp only
 rw [if_neg (by simp [h])]
theorem aft_some {w : InsV} (h : (chooseV now (befV (some w)) op).nb = 0) : aftV now t (some w) op said = if w.nb ≠ 0 then some ⟨t, 0, ⟨w.own.seq, inf⟩, -1, laterV now 14⟩ else if now < w.til then some w else none := by
 unfold aftV
 dsimp only
 rw [if_neg (by simp [h])]
end
theorem fm_step {α β : Type} {f : α → Option β} {l : List α} {i : Nat} (h : i < l.length) : (l.take (i + 1)).filterMap f = (l.take i).filterMap f ++ (f l[i]).toList := by
 rw [List.take_add_one, List.getElem?_eq_getElem h, List.filterMap_append]
 cases hf : f l[i] <;> simp [hf]
theorem insD_len (t : DstV) : ∀ l : List DstV, (insD t l).length ≤ l.length + 1
 | [] => by simp [insD]
 | x :: xs => by
  have := insD_len t xs
  unfold insD
  split
  ·simp
  ·split
   ·simp
   ·simp only [List.length_cons];omega
theorem dests_len (l : List RouV) (old : List InsV) : (destsV l old).length ≤ l.length + old.length := by
 have : ∀ xs : List DstV, (xs.foldr insD []).length ≤ xs.length := fun xs => by
  induction xs with
  | nil => simp
  | cons a xs ih =>
   have := insD_len a (xs.foldr insD [])
   simp only [List.foldr_cons, List.length_cons]
   omega
 have h := this (allD l old)
 unfold destsV
 simpa [allD] using h
theorem dests_ok {l : List RouV} {old : List InsV} (hx : ∀ x ∈ l, IsRo x) (hy : ∀ x ∈ old, IsIn x) (h1 : validRs l = true) (h2 : validIs old = true) : ∀ t ∈ destsV l old, validT t = true := fun t h => by
 rcases List.mem_append.1 (((dests_asc hx hy).2 t).1 h) with h | h
 ·obtain ⟨y, h3, rfl⟩ := List.mem_map.1 h
  have := (validRs_iff.1 h1).2.1 y h3
  simp only [rou1, Bool.and_eq_true] at this
  exact this.1.1.1
 ·obtain ⟨y, h3, rfl⟩ := List.mem_map.1 h
  have := (validIs_iff.1 h2).2.1 y h3
  simp only [ins1, Bool.and_eq_true] at this
  exact this.1
end Go.Proofs.YtilgoepokaaleaaGreat
/-! ZV -/
namespace Go.Proofs.YtilgoepokaaleaaGreat
set_option linter.unusedVariables false
set_option linter.unusedSimpArgs false
open Go.RowKit
attribute [local irreducible] OpTo wpListIn Code.wpIn MW Cal
theorem selI_is {now : Int} {l : List RouV} {s : List SrcV} {o : List OptV} {old : List InsV} (hi : ∀ x ∈ l, IsRo x) (ho : ∀ x ∈ old, IsIn x) : ∀ x ∈ selV now l s o old, IsIn x := fun x hx => by
 obtain ⟨t, ht, h⟩ := List.mem_filterMap.1 hx
 refine selE_is ?_ ho h
 rcases (mem_dests hi ho).1 ht with ⟨r, hr, rfl⟩ | ⟨r, hr, rfl⟩
 ·exact (hi r hr).1
 ·exact (ho r hr).1
theorem selI_len {now : Int} {l : List RouV} {s : List SrcV} {o : List OptV} {old : List InsV} (hi : ∀ x ∈ l, IsRo x) (ho : ∀ x ∈ old, IsIn x) : (selV now l s o old).length ≤ l.length + old.length := by
 have h1 : (destsV l old).length ≤ (allD l old).length := by
  have hd : ∀ x ∈ allD l old, IsDv x := fun x hx => by
   unfold allD at hx
   rcases List.mem_append.1 hx with h | h
   ·obtain ⟨r, hr, rfl⟩ := List.mem_map.1 h
    exact (hi r hr).1
   ·obtain ⟨r, hr, rfl⟩ := List.mem_map.1 h
    exact (ho r hr).1
  have := foldr_insD hd
  exact nodupD_le this.1 fun x hx => (this.2 x).1 hx
 have h2 : (allD l old).length = l.length + old.length := by unfold allD;simp
 have h3 : (selV now l s o old).length ≤ (destsV l old).length := List.length_filterMap_le _ _
 omega
end Go.Proofs.YtilgoepokaaleaaGreat
/-! YX -/
namespace Go.Proofs.YtilgoepokaaleaaGreat
set_option linter.unusedVariables false
set_option linter.unusedSimpArgs false
open Go.RowKit
attribute [local irreducible] OpTo wpListIn Code.wpIn MW Cal
set_option maxHeartbeats 64000000 in
theorem rselect_c (now : Int) (l : List RouV) (hx : ∀ x ∈ l, IsRo x) (s : List SrcV) (hsr : ∀ x ∈ s, IsSr x) (links : List OptV) (old : List InsV) (hy : ∀ x ∈ old, IsIn x) (vl vs vk vo : Value) (W : World) (hS : SlAt W 39 vl l.length (rosC l)) (hSs : SlAt W 38 vs s.length (srsC s)) (hSk : SlAt W 2 vk links.length (opsC links)) (hSo : SlAt W 40 vo old.length (insC old)) :
  Cal Tryz.prog 66 [.int .i64 now, vl, vs, vk, vo].toArray W fun r w' => ∃ u ent, r = .tuple [u, .int .i64 (selectV now l s links old).2].toArray ∧ OwnS 50 40 u (selectV now l s links old).1.length (insC (selectV now l s links old).1) ent ∧ Mem [] W w' ent := by
 obtain ⟨ql, cl, rfl, _⟩ := id hS
 obtain ⟨qs, cs0, rfl, _⟩ := id hSs
 obtain ⟨qk, ck, rfl, _⟩ := id hSk
 obtain ⟨qo, co, rfl, _⟩ := id hSo
 have c1 : ∀ n, selectV now l s links old = ([], n) → ∀ w, Ext [] W w → ∃ u ent, Value.tuple [.slice none 0 0, .int .i64 n].toArray = .tuple [u, .int .i64 (selectV now l s links old).2].toArray ∧ OwnS 50 40 u (selectV now l s links old).1.length (insC (selectV now l s links old).1) ent ∧ Mem [] W w ent := fun n h w E => by
  rw [h]
  exact ⟨_, [], rfl, OwnS.nil _ _, Mem.nil E⟩
 have hki : ∀ o ∈ links, IsOp o := fun _ _ => trivial
 refine g_start (n := 151) (S := []) fldT_ok slcT_ok Tryz.func66 rfl rfl rfl ?_
 cases hv : validRs l
 ·refine gR 10 rfl ?_
  refine g_call rfl rfl (fun w M => refvalidR_c _ ‹_› _ _ ((by assumption : SlAt _ _ _ _ _).later M.ext)) ?_
  refine gR 2 rfl ?_
  refine g_know 28 rfl (notT ‹_›) ?_
  refine gR 25 rfl ?_
  refine g_ret2 rfl rfl rfl rfl fun w M => ?_
  exact c1 _ (by unfold selectV;simp [*]) _ M.ext
 cases hs : validSs s
 ·refine gR 10 rfl ?_
  refine g_call rfl rfl (fun w M => refvalidR_c _ ‹_› _ _ ((by assumption : SlAt _ _ _ _ _).later M.ext)) ?_
  refine gR 2 rfl ?_
  refine g_know 28 rfl (notF ‹_›) ?_
  refine gR 1 rfl ?_
  refine g_call rfl rfl (fun w M => refvalidS_c _ ‹_› _ _ ((by assumption : SlAt _ _ _ _ _).later M.ext)) ?_
  refine gR 3 rfl ?_
  refine g_know 33 rfl (notT ‹_›) ?_
  refine gR 20 rfl ?_
  refine g_ret2 rfl rfl rfl rfl fun w M => ?_
  exact c1 _ (by unfold selectV;simp [*]) _ M.ext
 cases ho : validIs old
 ·refine gR 10 rfl ?_
  refine g_call rfl rfl (fun w M => refvalidR_c _ ‹_› _ _ ((by assumption : SlAt _ _ _ _ _).later M.ext)) ?_
  refine gR 2 rfl ?_
  refine g_know 28 rfl (notF ‹_›) ?_
  refine gR 1 rfl ?_
  refine g_call rfl rfl (fun w M => refvalidS_c _ ‹_› _ _ ((by assumption : SlAt _ _ _ _ _).later M.ext)) ?_
  refine gR 3 rfl ?_
  refine g_know 33 rfl (notF ‹_›) ?_
  refine gR 1 rfl ?_
  refine g_call rfl rfl (fun w M => refvalidI_c _ ‹_› _ _ ((by assumption : SlAt _ _ _ _ _).later M.ext)) ?_
  refine gR 3 rfl ?_
  refine g_know 38 rfl (notT ‹_›) ?_
  refine gR 15 rfl ?_
  refine g_ret2 rfl rfl rfl rfl fun w M => ?_
  exact c1 _ (by unfold selectV;simp [*]) _ M.ext
 cases hk : validOs links
 ·refine gR 10 rfl ?_
  refine g_call rfl rfl (fun w M => refvalidR_c _ ‹_› _ _ ((by assumption : SlAt _ _ _ _ _).later M.ext)) ?_
  refine gR 2 rfl ?_
  refine g_know 28 rfl (notF ‹_›) ?_
  refine gR 1 rfl ?_
  refine g_call rfl rfl (fun w M => refvalidS_c _ ‹_› _ _ ((by assumption : SlAt _ _ _ _ _).later M.ext)) ?_
  refine gR 3 rfl ?_
  refine g_know 33 rfl (notF ‹_›) ?_
  refine gR 1 rfl ?_
  refine g_call rfl rfl (fun w M => refvalidI_c _ ‹_› _ _ ((by assumption : SlAt _ _ _ _ _).later M.ext)) ?_
  refine gR 3 rfl ?_
  refine g_know 38 rfl (notF ‹_›) ?_
  refine gR 1 rfl ?_
  refine g_call rfl rfl (fun w M => refvalidO_c _ ‹_› _ _ ((by assumption : SlAt _ _ _ _ _).later M.ext)) ?_
  refine gR 4 rfl ?_
  refine g_ifT rfl (notT ‹_›) ?_
  refine gR 8 rfl ?_
  refine g_ret2 rfl rfl rfl rfl fun w M => ?_
  exact c1 _ (by unfold selectV;simp [*]) _ M.ext
 cases hn : isTime now
 ·refine gR 10 rfl ?_
  refine g_call rfl rfl (fun w M => refvalidR_c _ ‹_› _ _ ((by assumption : SlAt _ _ _ _ _).later M.ext)) ?_
  refine gR 2 rfl ?_
  refine g_know 28 rfl (notF ‹_›) ?_
  refine gR 1 rfl ?_
  refine g_call rfl rfl (fun w M => refvalidS_c _ ‹_› _ _ ((by assumption : SlAt _ _ _ _ _).later M.ext)) ?_
  refine gR 3 rfl ?_
  refine g_know 33 rfl (notF ‹_›) ?_
  refine gR 1 rfl ?_
  refine g_call rfl rfl (fun w M => refvalidI_c _ ‹_› _ _ ((by assumption : SlAt _ _ _ _ _).later M.ext)) ?_
  refine gR 3 rfl ?_
  refine g_know 38 rfl (notF ‹_›) ?_
  refine gR 1 rfl ?_
  refine g_call rfl rfl (fun w M => refvalidO_c _ ‹_› _ _ ((by assumption : SlAt _ _ _ _ _).later M.ext)) ?_
  refine gR 4 rfl ?_
  refine g_ifF rfl (notF ‹_›) ?_
  refine gR 6 rfl ?_
  refine g_call rfl rfl (fun w M => risTime_c _ _) ?_
  refine gR 3 rfl ?_
  refine g_ifT rfl (notT ‹_›) ?_
  refine gR 8 rfl ?_
  refine g_ret2 rfl rfl rfl rfl fun w M => ?_
  exact c1 _ (by unfold selectV;simp [*]) _ M.ext
 have hrs : selectV now l s links old = if 512 < (selV now l s links old).length then ([], 10) else (selV now l s links old, 0) := by
  unfold selectV
  rw [hv, hs, hk, ho, hn]
  rfl
 obtain ⟨l1, _, hA⟩ := validRs_iff.1 hv
 obtain ⟨l2, hov1, hB⟩ := validIs_iff.1 ho
 obtain ⟨l3, _, hK⟩ := validOs_iff.1 hk
 have hDi := dests_is hx hy
 have hDv := dests_ok hx hy hv ho
 have hDl := dests_len l old
 have hsv : selV now l s links old = (destsV l old).filterMap (selE now l s (costM links) old) := rfl
 have hnw := hn
 simp only [isTime, Bool.and_eq_true, decide_eq_true_eq] at hnw
 rw [hrs] at c1 ⊢
 rw [hsv] at c1 ⊢
 clear hrs hsv
 refine gR 10 rfl ?_
 refine g_call rfl rfl (fun w M => refvalidR_c _ ‹_› _ _ ((by assumption : SlAt _ _ _ _ _).later M.ext)) ?_
 refine gR 2 rfl ?_
 refine g_know 28 rfl (notF ‹_›) ?_
 refine gR 1 rfl ?_
 refine g_call rfl rfl (fun w M => refvalidS_c _ ‹_› _ _ ((by assumption : SlAt _ _ _ _ _).later M.ext)) ?_
 refine gR 3 rfl ?_
 refine g_know 33 rfl (notF ‹_›) ?_
 refine gR 1 rfl ?_
 refine g_call rfl rfl (fun w M => refvalidI_c _ ‹_› _ _ ((by assumption : SlAt _ _ _ _ _).later M.ext)) ?_
 refine gR 3 rfl ?_
 refine g_know 38 rfl (notF ‹_›) ?_
 refine gR 1 rfl ?_
 refine g_call rfl rfl (fun w M => refvalidO_c _ ‹_› _ _ ((by assumption : SlAt _ _ _ _ _).later M.ext)) ?_
 refine gR 4 rfl ?_
 refine g_ifF rfl (notF ‹_›) ?_
 refine gR 6 rfl ?_
 refine g_call rfl rfl (fun w M => risTime_c _ _) ?_
 refine gR 3 rfl ?_
 refine g_ifF rfl (notF ‹_›) ?_
 refine gR 12 rfl ?_
 refine g_callN (ι := Value × List (Nat × Obj)) (fun x => x.1) (fun x => OwnS 45 35 x.1 (destsV l old).length (dvsC (destsV l old)) x.2) (fun x => [x.2]) rfl rfl (fun w M => Cal.mono (rdests_c l hx hA old hy hB (by omega) (by omega) _ _ w (hS.later M.ext) (hSo.later M.ext)) fun r w' ⟨ent, h, N⟩ => ⟨(r, ent), rfl, h, by simpa using N⟩) ?_
 generalize destsV l old = D0 at *
 rintro ⟨vD, eD⟩ hOD
 simp only [List.cons_append, List.nil_append]
 refine g_len rfl ‹_› ?_
 refine gR 4 rfl ?_
 refine g_pad ?_
 refine g_loop (ι := Nat × List InsV × Value × List (Nat × Obj)) ⟨fun (i, out, u, es) => D0.length - i, fun (i, out, u, es) => i ≤ D0.length ∧ out.length ≤ i ∧ out = (D0.take i).filterMap (selE now l s (costM links) old) ∧ OwnS 50 40 u out.length (insC out) es, fun (i, out, u, es) => [(50, .int .i64 i), (49, .int .i64 D0.length), (48, vD), (12, u), (0, .int .i64 now), (1, .slice ql l.length cl), (2, .slice qs s.length cs0), (3, .slice qk links.length ck), (4, .slice qo old.length co)], fun (i, out, u, es) => [es, eD]⟩ (0, [], _, []) ⟨by omega, by simp, rfl, OwnS.nilL _ _ _⟩ (fun a F => F.only [50, 49, 48, 12, 0, 1, 2, 3, 4] rfl) (by repeat (first | exact .refl _ | apply sC2 | apply sC1)) ?_
 rintro ⟨i, out, u, es⟩ ⟨hi, hol, hout, hO⟩
 dsimp only
 by_cases hlt : i < D0.length
 ·clear c1
  rcases id hOD with ⟨_, h0, _, _⟩ | ⟨bD, cD, jD, rfl, rfl, _, _, _⟩
  ·omega
  have htd := hDi _ (List.getElem_mem hlt)
  have htv := hDv _ (List.getElem_mem hlt)
  have f1 : seg (dvsC D0 ++ jD) (0 + (i : Int).toNat * 35) 35 = some (dvC D0[i]) := own_el (dvs_len hDi) jD hlt (by omega)
  have hst := fm_step (f := selE now l s (costM links) old) hlt
  rw [← hout] at hst
  generalize D0[i] = t at *
  have hW := ways_is (links := links) l hs htv hn hK
  have hval := opts_valid (now := now) (s := s) (links := links) (t := t) hx hv l3
  have hsel : selE now l s (costM links) old t = aftV now t (getV old t) (optsV now s (costM links) t l) (((l.filter fun r => decide (r.to = t)).filter fun r => (optV now s (costM links) t r).isSome).foldl (fun m r => putA r.nb r.said m) []) := rfl
  obtain ⟨op, hop⟩ : ∃ o, o = optsV now s (costM links) t l := ⟨_, rfl⟩
  obtain ⟨wy, hwy⟩ : ∃ o, o = (l.filter fun r => decide (r.to = t)).filter fun r => (optV now s (costM links) t r).isSome := ⟨_, rfl⟩
  have hwyI : ∀ x ∈ wy, IsRo x := fun x h => by rw [hwy] at h;exact hx x (List.mem_filter.1 (List.mem_filter.1 h).1).1
  have hwl : wy.length ≤ 512 := by rw [hwy];exact Nat.le_trans (List.length_filter_le _ _) (Nat.le_trans (List.length_filter_le _ _) l1)
  rw [← hop, ← hwy] at hW hsel
  rw [← hop] at hval
  clear hout
  refine gR 6 rfl ?_
  refine g_ifT rfl (decide_eq_true (by omega)) ?_
  refine gR 6 rfl ?_
  refine g_ixS rfl rfl (by omega) (by omega) ?_
  refine g_ldA 1 rfl rfl (by with_reducible assumption) ?_
  refine g_alloc fun b14 => ?_
  refine g_stA 0 rfl rfl (dv_len ‹_›) (dv_one _) rfl (put_all (by rw [dv_len ‹_›];first | rfl | rw [dv_len ‹_›])) rfl ?_
  refine gR 8 rfl ?_
  refine g_ldA 0 rfl rfl (dv_all ‹_›) ?_
  refine g_callN (ι := (Value × List (Nat × Obj)) × (Value × List (Nat × Obj))) (fun x => .tuple [x.1.1, x.2.1].toArray) (fun x => OwnS 55 2 x.1.1 op.length (opsC op) x.1.2 ∧ OwnS 53 39 x.2.1 wy.length (rosC wy) x.2.2) (fun x => [x.1.2, x.2.2]) rfl rfl (fun w M => Cal.mono (ropts_c l hx s hsr links (by omega) (by omega) _ _ _ now t htd w (hS.later M.ext) (hSs.later M.ext) (hSk.later M.ext)) fun r w' ⟨u1, e1, u2, e2, h0, h1, h2, N⟩ => ⟨((u1, e1), (u2, e2)), h0, ⟨by rw [hW] at h1;exact h1, by rw [hW] at h2;exact h2⟩, by simpa using N⟩) ?_
  rintro ⟨⟨u1, e1⟩, ⟨u2, e2⟩⟩ ⟨hO1, hO2⟩
  simp only [List.cons_append, List.nil_append]
  dsimp only at hO1 hO2
  cases hg : getV old t with
  | none =>
   have hG : ∀ w, SlAt w 40 (.slice qo old.length co) old.length (insC old) → Cal Tryz.prog 26 [.slice qo old.length co, .agg (dvC t).toArray].toArray w _ := fun w h => rget_c old hy _ t htd w h (by omega)
   rw [hg] at hG
   simp only [Option.getD_none, Option.isSome_none] at hG
   have hC := fun w v h => rchoose_c op (fun _ _ => trivial) hval v now hn ⟨0, 0, -1⟩ rfl w h
   obtain ⟨c, hc⟩ : ∃ c, c = chooseV now (befV none) op := ⟨_, rfl⟩
   rw [show chooseV now ⟨0, 0, -1⟩ op = c from hc.symm] at hC
   refine gR 10 rfl ?_
   refine g_ldA 2 rfl rfl (dv_all ‹_›) ?_
   refine g_call rfl rfl (fun w M => hG w (hSo.later M.ext)) ?_
   refine gR 3 rfl ?_
   refine g_alloc fun b17 => ?_
   refine g_stA 0 rfl rfl rfl rfl rfl rfl rfl ?_
   refine gR 6 rfl ?_
   refine g_ld1 0 rfl rfl rfl ?_
   refine gR 2 rfl ?_
   refine g_ld1 0 rfl rfl rfl ?_
   refine gR 1 rfl ?_
   refine g_ld1 0 rfl rfl rfl ?_
   refine g_v (fun a w F M R r => o_build F rfl (ch_mk3 _ _) r) ?_
   refine g_alloc fun b19 => ?_
   refine g_stA 0 rfl rfl (ch_len trivial) (ch_one _) rfl (put_all (by rw [ch_len trivial];first | rfl | rw [ch_len ‹_›])) rfl ?_
   refine gR 11 rfl ?_
   refine g_v (fun a w F M R r => o_build F rfl (ch_mk3 _ _) r) ?_
   refine g_stA 0 rfl rfl (ch_len trivial) (ch_one _) rfl (put_all (by rw [ch_len trivial];first | rfl | rw [ch_len ‹_›])) rfl ?_
   refine gR 5 rfl ?_
   refine g_ldA 0 rfl rfl (ch_all trivial) ?_
   refine gR 1 rfl ?_
   refine g_call rfl rfl (fun w M => hC w _ (hO1.slAt M (fun p hp => by simp [hp]))) ?_
   clear hC hG
   by_cases hc0 : c.nb = 0
   rotate_left
   ·have hex : ∃ w ∈ wy, w.nb = c.nb := by
     rw [hc] at hc0 ⊢
     obtain ⟨o, h1, _, h2, _⟩ := choose_is hc0
     rw [hop] at h1
     obtain ⟨r, h3, h4⟩ := List.mem_filterMap.1 h1
     exact ⟨r, by rw [hwy];exact List.mem_filter.2 ⟨h3, by rw [h4];rfl⟩, by rw [h2, (optV_some h4).1]⟩
    have hq : selE now l s (costM links) old t = some ⟨t, c.nb, ownW wy c.nb c.cost, c.btn, 0⟩ := by
     have hcc : c = chooseV now (befV (getV old t)) op := by rw [hg];exact hc
     rw [hsel, aft_cho (by rw [← hcc];exact hc0), ← hcc, own_is wy hex]
    rw [hq] at hst
    have xI0 : IsIn (⟨t, c.nb, di0, c.btn, 0⟩ : InsV) := ⟨htd, trivial⟩
    refine gR 3 rfl ?_
    refine g_alloc fun b20 => ?_
    refine g_stA 0 rfl rfl (ch_len trivial) (ch_one _) rfl (put_all (by rw [ch_len trivial];first | rfl | rw [ch_len ‹_›])) rfl ?_
    refine gR 7 rfl ?_
    refine g_ld1 0 rfl rfl (ch_nb trivial) ?_
    refine gR 3 rfl ?_
    refine g_ifT rfl (bne_iff_ne.2 (by omega)) ?_
    refine gR 2 rfl ?_
    refine g_ldA 5 rfl rfl (dv_all ‹_›) ?_
    refine gR 1 rfl ?_
    refine g_ld1 0 rfl rfl (ch_nb trivial) ?_
    refine gR 1 rfl ?_
    refine g_ld1 0 rfl rfl (ch_btn trivial) ?_
    refine g_v (fun a w F M R r => o_build F rfl (in_mk3 _ ‹_› _ _) r) ?_
    refine g_alloc fun b22 => ?_
    refine g_stA 0 rfl rfl (in_len ‹_›) (in_one _) rfl (put_all (by rw [in_len ‹_›];first | rfl | rw [in_len ‹_›])) rfl ?_
    refine gR 6 rfl ?_
    refine g_len rfl ‹_› ?_
    refine gR 4 rfl ?_
    refine g_loop (ι := Nat × DisV) ⟨fun (j, own) => wy.length - j, fun (j, own) => j ≤ wy.length ∧ own = ownW (wy.take j) c.nb c.cost, fun (j, own) => [(98, .int .i64 j), (97, .int .i64 wy.length), (96, u2), (20, .pointer (some ⟨b20, 0, none⟩)), (22, .pointer (some ⟨b22, 0, none⟩)), (50, .int .i64 i), (49, .int .i64 D0.length), (48, .slice (some ⟨bD, 0, none⟩) D0.length cD), (12, u), (0, .int .i64 now), (1, .slice ql l.length cl), (2, .slice qs s.length cs0), (3, .slice qk links.length ck), (4, .slice qo old.length co)], fun (j, own) => [[(b22, .cells (inC ⟨t, c.nb, own, c.btn, 0⟩).toArray 50 (0, 0))], [(b20, .cells (chC c).toArray 141 (0, 0))], e2, es, [(bD, .cells (dvsC D0 ++ jD).toArray 45 (0, 0))]]⟩ (0, di0) ⟨by omega, rfl⟩ (fun a F => F.only [98, 97, 96, 20, 22, 50, 49, 48, 12, 0, 1, 2, 3, 4] rfl) (by repeat (first | exact .refl _ | apply sC2 | apply sC1)) ?_
    rintro ⟨j, own⟩ ⟨hj, how⟩
    dsimp only
    have xI : IsIn (⟨t, c.nb, own, c.btn, 0⟩ : InsV) := ⟨htd, trivial⟩
    by_cases hltj : j < wy.length
    ·rcases id hO2 with ⟨_, h0, _, _⟩ | ⟨bw, cw, jw, rfl, rfl, _, _, _⟩
     ·omega
     have f2 : seg (rosC wy ++ jw) (0 + (j : Int).toNat * 39) 39 = some (roC wy[j]) := own_el (ros_len hwyI) jw hltj (by omega)
     have wI := hwyI _ (List.getElem_mem hltj)
     have ho2 : ownW (wy.take (j + 1)) c.nb c.cost = if wy[j].nb = c.nb then ⟨wy[j].said.seq, c.cost⟩ else own := by
      unfold ownW
      rw [foldl_tk hltj]
      exact congrArg (fun a => if wy[j].nb = c.nb then (⟨wy[j].said.seq, c.cost⟩ : DisV) else a) how.symm
     clear how
     generalize wy[j] = x at *
     by_cases k : x.nb = c.nb
     ·rw [if_pos k] at ho2
      refine gR 6 rfl ?_
      refine g_ifT rfl (decide_eq_true (by omega)) ?_
      refine gR 6 rfl ?_
      refine g_ixS rfl rfl (by omega) (by omega) ?_
      refine g_ldA 2 rfl rfl (by with_reducible assumption) ?_
      refine g_alloc fun b24 => ?_
      refine g_stA 0 rfl rfl (ro_len ‹_›) (ro_one _) rfl (put_all (by rw [ro_len ‹_›];first | rfl | rw [ro_len ‹_›])) rfl ?_
      refine gR 5 rfl ?_
      refine g_ld1 0 rfl rfl (ro_nb ‹_›) ?_
      refine gR 1 rfl ?_
      refine g_ld1 2 rfl rfl (ch_nb trivial) ?_
      refine gR 3 rfl ?_
      refine g_ifT rfl (decide_eq_true (by omega)) ?_
      refine gR 3 rfl ?_
      refine g_ld1 0 rfl rfl (ro_said_seq ‹_›) ?_
      refine gR 1 rfl ?_
      refine g_ld1 2 rfl rfl (ch_cost trivial) ?_
      refine g_v (fun a w F M R r => o_build F rfl (di_mk _ _) r) ?_
      refine gR 1 rfl ?_
      refine g_stA 1 rfl rfl (di_len trivial) (di_one _) rfl (in_put_own ‹_› trivial) rfl ?_
      refine gR 4 rfl ?_
      refine g_add rfl rfl (w_i64 (by omega) (by omega)) ?_
      refine gR 2 rfl ?_
      exact g_next (j + 1, ⟨x.said.seq, c.cost⟩) ⟨by omega, ho2.symm⟩ (by dsimp only;omega) (fun a F => F.only [98, 97, 96, 20, 22, 50, 49, 48, 12, 0, 1, 2, 3, 4] rfl) (by (try dsimp only);repeat (first | exact .refl _ | with_reducible exact sC0 _ | with_reducible apply sC2 | apply sC1))
     ·rw [if_neg k] at ho2
      refine gR 6 rfl ?_
      refine g_ifT rfl (decide_eq_true (by omega)) ?_
      refine gR 6 rfl ?_
      refine g_ixS rfl rfl (by omega) (by omega) ?_
      refine g_ldA 2 rfl rfl (by with_reducible assumption) ?_
      refine g_alloc fun b24 => ?_
      refine g_stA 0 rfl rfl (ro_len ‹_›) (ro_one _) rfl (put_all (by rw [ro_len ‹_›];first | rfl | rw [ro_len ‹_›])) rfl ?_
      refine gR 5 rfl ?_
      refine g_ld1 0 rfl rfl (ro_nb ‹_›) ?_
      refine gR 1 rfl ?_
      refine g_ld1 2 rfl rfl (ch_nb trivial) ?_
      refine gR 3 rfl ?_
      refine g_ifF rfl (decide_eq_false (by omega)) ?_
      refine gR 4 rfl ?_
      refine g_add rfl rfl (w_i64 (by omega) (by omega)) ?_
      refine gR 2 rfl ?_
      exact g_next (j + 1, own) ⟨by omega, ho2.symm⟩ (by dsimp only;omega) (fun a F => F.only [98, 97, 96, 20, 22, 50, 49, 48, 12, 0, 1, 2, 3, 4] rfl) (by (try dsimp only);repeat (first | exact .refl _ | with_reducible exact sC0 _ | with_reducible apply sC2 | apply sC1))
    ·have hjl : j = wy.length := by omega
     rw [hjl, List.take_length] at how
     rw [← how] at hst
     refine gR 6 rfl ?_
     refine g_ifF rfl (decide_eq_false (by omega)) ?_
     refine gR 2 rfl ?_
     refine g_outX ?_
     refine gR 5 rfl ?_
     refine g_ldA 0 rfl rfl (in_all ‹_›) ?_
     refine g_bs rfl rfl rfl (in_build1 ‹_›) (fun b117 => ?_)
     refine g_app 4 0 (enc := inC) rfl rfl ‹_› rfl rfl (in_len ‹_›) (by first | omega | (simp only [List.length_nil];omega)) (fun _ => rfl) (fun v118 es118 hO118 => ?_) (in_one _)
     refine gR 8 rfl ?_
     refine g_add rfl rfl (w_i64 (by omega) (by omega)) ?_
     refine gR 2 rfl ?_
     exact g_next (i + 1, _, _, _) ⟨by omega, by simp;omega, hst.symm, by assumption⟩ (by dsimp only;omega) (fun a F => F.only [50, 49, 48, 12, 0, 1, 2, 3, 4] rfl) (by (try dsimp only);repeat (first | exact .refl _ | with_reducible exact sC0 _ | with_reducible apply sC2 | apply sC1))
   have hf : selE now l s (costM links) old t = none := by rw [hsel, hg];exact aft_none (by rw [← hc];exact hc0)
   refine gR 3 rfl ?_
   refine g_alloc fun b20 => ?_
   refine g_stA 0 rfl rfl (ch_len trivial) (ch_one _) rfl (put_all (by rw [ch_len trivial];first | rfl | rw [ch_len ‹_›])) rfl ?_
   refine gR 7 rfl ?_
   refine g_ld1 0 rfl rfl (ch_nb trivial) ?_
   refine gR 3 rfl ?_
   refine g_ifF rfl (bneF (by omega)) ?_
   refine gR 28 rfl ?_
   refine g_add rfl rfl (w_i64 (by omega) (by omega)) ?_
   refine gR 2 rfl ?_
   exact g_next (i + 1, out, u, es) ⟨by omega, by dsimp only;omega, by rw [hst, hf];simp, hO⟩ (by dsimp only;omega) (fun a F => F.only [50, 49, 48, 12, 0, 1, 2, 3, 4] rfl) (by (try dsimp only);repeat (first | exact .refl _ | with_reducible exact sC0 _ | with_reducible apply sC2 | apply sC1))
  | some was =>
   have hG : ∀ w, SlAt w 40 (.slice qo old.length co) old.length (insC old) → Cal Tryz.prog 26 [.slice qo old.length co, .agg (dvC t).toArray].toArray w _ := fun w h => rget_c old hy _ t htd w h (by omega)
   rw [hg] at hG
   simp only [Option.getD_some, Option.isSome_some] at hG
   have wI : IsIn was := hy _ (List.mem_of_find?_eq_some hg)
   have wv : ins1 was = true := hov1 _ (List.mem_of_find?_eq_some hg)
   have hC := fun w v h => rchoose_c op (fun _ _ => trivial) hval v now hn ⟨was.nb, was.own.met, was.btn⟩ (bef_valid (o := was) (had := true) fun _ => wv) w h
   obtain ⟨c, hc⟩ : ∃ c, c = chooseV now (befV (some was)) op := ⟨_, rfl⟩
   rw [show chooseV now ⟨was.nb, was.own.met, was.btn⟩ op = c from hc.symm] at hC
   refine gR 10 rfl ?_
   refine g_ldA 2 rfl rfl (dv_all ‹_›) ?_
   refine g_call rfl rfl (fun w M => hG w (hSo.later M.ext)) ?_
   refine gR 3 rfl ?_
   refine g_alloc fun b17 => ?_
   refine g_stA 0 rfl rfl (in_len ‹_›) (in_one _) rfl (put_all (by rw [in_len ‹_›];first | rfl | rw [in_len ‹_›])) rfl ?_
   refine gR 6 rfl ?_
   refine g_ld1 0 rfl rfl (in_nb ‹_›) ?_
   refine gR 2 rfl ?_
   refine g_ld1 0 rfl rfl (in_own_met ‹_›) ?_
   refine gR 1 rfl ?_
   refine g_ld1 0 rfl rfl (in_btn ‹_›) ?_
   refine g_v (fun a w F M R r => o_build F rfl (ch_mk _ _ _) r) ?_
   refine g_alloc fun b19 => ?_
   refine g_stA 0 rfl rfl (ch_len trivial) (ch_one _) rfl (put_all (by rw [ch_len trivial];first | rfl | rw [ch_len ‹_›])) rfl ?_
   refine gR 15 rfl ?_
   refine g_ldA 0 rfl rfl (ch_all trivial) ?_
   refine gR 1 rfl ?_
   refine g_call rfl rfl (fun w M => hC w _ (hO1.slAt M (fun p hp => by simp [hp]))) ?_
   clear hC hG
   by_cases hc0 : c.nb = 0
   rotate_left
   ·have hex : ∃ w ∈ wy, w.nb = c.nb := by
     rw [hc] at hc0 ⊢
     obtain ⟨o, h1, _, h2, _⟩ := choose_is hc0
     rw [hop] at h1
     obtain ⟨r, h3, h4⟩ := List.mem_filterMap.1 h1
     exact ⟨r, by rw [hwy];exact List.mem_filter.2 ⟨h3, by rw [h4];rfl⟩, by rw [h2, (optV_some h4).1]⟩
    have hq : selE now l s (costM links) old t = some ⟨t, c.nb, ownW wy c.nb c.cost, c.btn, 0⟩ := by
     have hcc : c = chooseV now (befV (getV old t)) op := by rw [hg];exact hc
     rw [hsel, aft_cho (by rw [← hcc];exact hc0), ← hcc, own_is wy hex]
    rw [hq] at hst
    have xI0 : IsIn (⟨t, c.nb, di0, c.btn, 0⟩ : InsV) := ⟨htd, trivial⟩
    refine gR 3 rfl ?_
    refine g_alloc fun b20 => ?_
    refine g_stA 0 rfl rfl (ch_len trivial) (ch_one _) rfl (put_all (by rw [ch_len trivial];first | rfl | rw [ch_len ‹_›])) rfl ?_
    refine gR 7 rfl ?_
    refine g_ld1 0 rfl rfl (ch_nb trivial) ?_
    refine gR 3 rfl ?_
    refine g_ifT rfl (bne_iff_ne.2 (by omega)) ?_
    refine gR 2 rfl ?_
    refine g_ldA 5 rfl rfl (dv_all ‹_›) ?_
    refine gR 1 rfl ?_
    refine g_ld1 0 rfl rfl (ch_nb trivial) ?_
    refine gR 1 rfl ?_
    refine g_ld1 0 rfl rfl (ch_btn trivial) ?_
    refine g_v (fun a w F M R r => o_build F rfl (in_mk3 _ ‹_› _ _) r) ?_
    refine g_alloc fun b22 => ?_
    refine g_stA 0 rfl rfl (in_len ‹_›) (in_one _) rfl (put_all (by rw [in_len ‹_›];first | rfl | rw [in_len ‹_›])) rfl ?_
    refine gR 6 rfl ?_
    refine g_len rfl ‹_› ?_
    refine gR 4 rfl ?_
    refine g_loop (ι := Nat × DisV) ⟨fun (j, own) => wy.length - j, fun (j, own) => j ≤ wy.length ∧ own = ownW (wy.take j) c.nb c.cost, fun (j, own) => [(98, .int .i64 j), (97, .int .i64 wy.length), (96, u2), (20, .pointer (some ⟨b20, 0, none⟩)), (22, .pointer (some ⟨b22, 0, none⟩)), (50, .int .i64 i), (49, .int .i64 D0.length), (48, .slice (some ⟨bD, 0, none⟩) D0.length cD), (12, u), (0, .int .i64 now), (1, .slice ql l.length cl), (2, .slice qs s.length cs0), (3, .slice qk links.length ck), (4, .slice qo old.length co)], fun (j, own) => [[(b22, .cells (inC ⟨t, c.nb, own, c.btn, 0⟩).toArray 50 (0, 0))], [(b20, .cells (chC c).toArray 141 (0, 0))], e2, es, [(bD, .cells (dvsC D0 ++ jD).toArray 45 (0, 0))]]⟩ (0, di0) ⟨by omega, rfl⟩ (fun a F => F.only [98, 97, 96, 20, 22, 50, 49, 48, 12, 0, 1, 2, 3, 4] rfl) (by repeat (first | exact .refl _ | apply sC2 | apply sC1)) ?_
    rintro ⟨j, own⟩ ⟨hj, how⟩
    dsimp only
    have xI : IsIn (⟨t, c.nb, own, c.btn, 0⟩ : InsV) := ⟨htd, trivial⟩
    by_cases hltj : j < wy.length
    ·rcases id hO2 with ⟨_, h0, _, _⟩ | ⟨bw, cw, jw, rfl, rfl, _, _, _⟩
     ·omega
     have f2 : seg (rosC wy ++ jw) (0 + (j : Int).toNat * 39) 39 = some (roC wy[j]) := own_el (ros_len hwyI) jw hltj (by omega)
     have wI := hwyI _ (List.getElem_mem hltj)
     have ho2 : ownW (wy.take (j + 1)) c.nb c.cost = if wy[j].nb = c.nb then ⟨wy[j].said.seq, c.cost⟩ else own := by
      unfold ownW
      rw [foldl_tk hltj]
      exact congrArg (fun a => if wy[j].nb = c.nb then (⟨wy[j].said.seq, c.cost⟩ : DisV) else a) how.symm
     clear how
     generalize wy[j] = x at *
     by_cases k : x.nb = c.nb
     ·rw [if_pos k] at ho2
      refine gR 6 rfl ?_
      refine g_ifT rfl (decide_eq_true (by omega)) ?_
      refine gR 6 rfl ?_
      refine g_ixS rfl rfl (by omega) (by omega) ?_
      refine g_ldA 2 rfl rfl (by with_reducible assumption) ?_
      refine g_alloc fun b24 => ?_
      refine g_stA 0 rfl rfl (ro_len ‹_›) (ro_one _) rfl (put_all (by rw [ro_len ‹_›];first | rfl | rw [ro_len ‹_›])) rfl ?_
      refine gR 5 rfl ?_
      refine g_ld1 0 rfl rfl (ro_nb ‹_›) ?_
      refine gR 1 rfl ?_
      refine g_ld1 2 rfl rfl (ch_nb trivial) ?_
      refine gR 3 rfl ?_
      refine g_ifT rfl (decide_eq_true (by omega)) ?_
      refine gR 3 rfl ?_
      refine g_ld1 0 rfl rfl (ro_said_seq ‹_›) ?_
      refine gR 1 rfl ?_
      refine g_ld1 2 rfl rfl (ch_cost trivial) ?_
      refine g_v (fun a w F M R r => o_build F rfl (di_mk _ _) r) ?_
      refine gR 1 rfl ?_
      refine g_stA 1 rfl rfl (di_len trivial) (di_one _) rfl (in_put_own ‹_› trivial) rfl ?_
      refine gR 4 rfl ?_
      refine g_add rfl rfl (w_i64 (by omega) (by omega)) ?_
      refine gR 2 rfl ?_
      exact g_next (j + 1, ⟨x.said.seq, c.cost⟩) ⟨by omega, ho2.symm⟩ (by dsimp only;omega) (fun a F => F.only [98, 97, 96, 20, 22, 50, 49, 48, 12, 0, 1, 2, 3, 4] rfl) (by (try dsimp only);repeat (first | exact .refl _ | with_reducible exact sC0 _ | with_reducible apply sC2 | apply sC1))
     ·rw [if_neg k] at ho2
      refine gR 6 rfl ?_
      refine g_ifT rfl (decide_eq_true (by omega)) ?_
      refine gR 6 rfl ?_
      refine g_ixS rfl rfl (by omega) (by omega) ?_
      refine g_ldA 2 rfl rfl (by with_reducible assumption) ?_
      refine g_alloc fun b24 => ?_
      refine g_stA 0 rfl rfl (ro_len ‹_›) (ro_one _) rfl (put_all (by rw [ro_len ‹_›];first | rfl | rw [ro_len ‹_›])) rfl ?_
      refine gR 5 rfl ?_
      refine g_ld1 0 rfl rfl (ro_nb ‹_›) ?_
      refine gR 1 rfl ?_
      refine g_ld1 2 rfl rfl (ch_nb trivial) ?_
      refine gR 3 rfl ?_
      refine g_ifF rfl (decide_eq_false (by omega)) ?_
      refine gR 4 rfl ?_
      refine g_add rfl rfl (w_i64 (by omega) (by omega)) ?_
      refine gR 2 rfl ?_
      exact g_next (j + 1, own) ⟨by omega, ho2.symm⟩ (by dsimp only;omega) (fun a F => F.only [98, 97, 96, 20, 22, 50, 49, 48, 12, 0, 1, 2, 3, 4] rfl) (by (try dsimp only);repeat (first | exact .refl _ | with_reducible exact sC0 _ | with_reducible apply sC2 | apply sC1))
    ·have hjl : j = wy.length := by omega
     rw [hjl, List.take_length] at how
     rw [← how] at hst
     refine gR 6 rfl ?_
     refine g_ifF rfl (decide_eq_false (by omega)) ?_
     refine gR 2 rfl ?_
     refine g_outX ?_
     refine gR 5 rfl ?_
     refine g_ldA 0 rfl rfl (in_all ‹_›) ?_
     refine g_bs rfl rfl rfl (in_build1 ‹_›) (fun b117 => ?_)
     refine g_app 4 0 (enc := inC) rfl rfl ‹_› rfl rfl (in_len ‹_›) (by first | omega | (simp only [List.length_nil];omega)) (fun _ => rfl) (fun v118 es118 hO118 => ?_) (in_one _)
     refine gR 8 rfl ?_
     refine g_add rfl rfl (w_i64 (by omega) (by omega)) ?_
     refine gR 2 rfl ?_
     exact g_next (i + 1, _, _, _) ⟨by omega, by simp;omega, hst.symm, by assumption⟩ (by dsimp only;omega) (fun a F => F.only [50, 49, 48, 12, 0, 1, 2, 3, 4] rfl) (by (try dsimp only);repeat (first | exact .refl _ | with_reducible exact sC0 _ | with_reducible apply sC2 | apply sC1))
   have hf := (hsel.trans (by rw [hg])).trans (aft_some (now := now) (t := t) (op := op) (said := wy.foldl (fun m r => putA r.nb r.said m) []) (by rw [← hc];exact hc0))
   have hne0 : (c.nb != 0) = false := by simp [hc0]
   by_cases hr : was.nb = 0
   ·have hr' : (!decide (was.nb = 0)) = false := by simp [hr]
    rw [if_neg (by simp [hr])] at hf
    by_cases hw : now < was.til
    ·rw [if_pos hw] at hf
     rw [hf] at hst
     refine gR 3 rfl ?_
     refine g_alloc fun b20 => ?_
     refine g_stA 0 rfl rfl (ch_len trivial) (ch_one _) rfl (put_all (by rw [ch_len trivial];first | rfl | rw [ch_len ‹_›])) rfl ?_
     refine gR 7 rfl ?_
     refine g_ld1 0 rfl rfl (ch_nb trivial) ?_
     refine gR 3 rfl ?_
     refine g_ifF rfl (bneF (by omega)) ?_
     refine gR 6 rfl ?_
     refine g_ldA 2 rfl rfl (in_all ‹_›) ?_
     refine g_call rfl rfl (fun w M => refreach_c _ ‹_› _) ?_
     refine gR 3 rfl ?_
     refine g_ifF rfl (bneF (by omega)) ?_
     refine gR 5 rfl ?_
     refine g_ld1 2 rfl rfl (in_til ‹_›) ?_
     refine gR 5 rfl ?_
     refine g_ifT rfl (decide_eq_true (by omega)) ?_
     refine gR 2 rfl ?_
     refine g_ldA 2 rfl rfl (in_all ‹_›) ?_
     refine g_bs rfl rfl rfl (in_build1 ‹_›) (fun b144 => ?_)
     refine g_app 7 0 (enc := inC) rfl rfl ‹_› rfl rfl (in_len ‹_›) (by first | omega | (simp only [List.length_nil];omega)) (fun _ => rfl) (fun v145 es145 hO145 => ?_) (in_one _)
     refine gR 5 rfl ?_
     refine g_add rfl rfl (w_i64 (by omega) (by omega)) ?_
     refine gR 2 rfl ?_
     exact g_next (i + 1, _, _, _) ⟨by omega, by simp;omega, hst.symm, by assumption⟩ (by dsimp only;omega) (fun a F => F.only [50, 49, 48, 12, 0, 1, 2, 3, 4] rfl) (by (try dsimp only);repeat (first | exact .refl _ | with_reducible exact sC0 _ | with_reducible apply sC2 | apply sC1))
    ·rw [if_neg hw] at hf
     refine gR 3 rfl ?_
     refine g_alloc fun b20 => ?_
     refine g_stA 0 rfl rfl (ch_len trivial) (ch_one _) rfl (put_all (by rw [ch_len trivial];first | rfl | rw [ch_len ‹_›])) rfl ?_
     refine gR 7 rfl ?_
     refine g_ld1 0 rfl rfl (ch_nb trivial) ?_
     refine gR 3 rfl ?_
     refine g_ifF rfl (bneF (by omega)) ?_
     refine gR 6 rfl ?_
     refine g_ldA 2 rfl rfl (in_all ‹_›) ?_
     refine g_call rfl rfl (fun w M => refreach_c _ ‹_› _) ?_
     refine gR 3 rfl ?_
     refine g_ifF rfl (bneF (by omega)) ?_
     refine gR 5 rfl ?_
     refine g_ld1 2 rfl rfl (in_til ‹_›) ?_
     refine gR 5 rfl ?_
     refine g_ifF rfl (decide_eq_false (by omega)) ?_
     refine gR 4 rfl ?_
     refine g_add rfl rfl (w_i64 (by omega) (by omega)) ?_
     refine gR 2 rfl ?_
     exact g_next (i + 1, out, u, es) ⟨by omega, by dsimp only;omega, by rw [hst, hf];simp, hO⟩ (by dsimp only;omega) (fun a F => F.only [50, 49, 48, 12, 0, 1, 2, 3, 4] rfl) (by (try dsimp only);repeat (first | exact .refl _ | with_reducible exact sC0 _ | with_reducible apply sC2 | apply sC1))
   ·have hr' : (!decide (was.nb = 0)) = true := by simp [hr]
    rw [if_pos hr] at hf
    rw [hf] at hst
    have nI : IsIn (⟨t, 0, ⟨was.own.seq, 65535⟩, -1, laterV now 14⟩ : InsV) := ⟨htd, trivial⟩
    refine gR 3 rfl ?_
    refine g_alloc fun b20 => ?_
    refine g_stA 0 rfl rfl (ch_len trivial) (ch_one _) rfl (put_all (by rw [ch_len trivial];first | rfl | rw [ch_len ‹_›])) rfl ?_
    refine gR 7 rfl ?_
    refine g_ld1 0 rfl rfl (ch_nb trivial) ?_
    refine gR 3 rfl ?_
    refine g_ifF rfl (bneF (by omega)) ?_
    refine gR 6 rfl ?_
    refine g_ldA 2 rfl rfl (in_all ‹_›) ?_
    refine g_call rfl rfl (fun w M => refreach_c _ ‹_› _) ?_
    refine gR 3 rfl ?_
    refine g_ifT rfl ‹_› ?_
    refine g_draw 10 151 rfl (by kernel_rfl) ?_
    refine fR 1 rfl ?_
    refine fd_ldA 5 rfl rfl (dv_all ‹_›) ?_
    refine fR 2 rfl ?_
    refine fd_ld1 2 rfl rfl (in_own_seq ‹_›) ?_
    refine fd_v (fun a w F M R r => o_build F rfl (di_mk _ _) r) ?_
    refine fR 1 rfl ?_
    refine fd_call rfl rfl (fun w M => rafter_c _ _ (by omega) (by omega) (by omega) (by omega) _) ?_
    refine fd_v (fun a w F M R r => o_build F rfl (in_mkH _ ‹_› _ _ _) r) ?_
    refine fd_bs rfl rfl rfl (in_build1 ‹_›) (fun b133 => ?_)
    refine g_app 7 0 (enc := inC) rfl rfl ‹_› rfl rfl (in_len ‹_›) (by first | omega | (simp only [List.length_nil];omega)) (fun _ => rfl) (fun v134 es134 hO134 => ?_) (in_one _)
    refine gR 5 rfl ?_
    refine g_add rfl rfl (w_i64 (by omega) (by omega)) ?_
    refine gR 2 rfl ?_
    exact g_next (i + 1, _, _, _) ⟨by omega, by simp;omega, hst.symm, by assumption⟩ (by dsimp only;omega) (fun a F => F.only [50, 49, 48, 12, 0, 1, 2, 3, 4] rfl) (by (try dsimp only);repeat (first | exact .refl _ | with_reducible exact sC0 _ | with_reducible apply sC2 | apply sC1))
 ·have hil : i = D0.length := by omega
  rw [hil, List.take_length] at hout
  rw [← hout] at c1 ⊢
  by_cases hlen : 512 < out.length
  ·rw [if_pos hlen] at c1 ⊢
   refine gR 6 rfl ?_
   refine g_ifF rfl (decide_eq_false (by omega)) ?_
   refine gR 2 rfl ?_
   refine g_outX ?_
   refine gR 6 rfl ?_
   refine g_len rfl ‹_› ?_
   refine gR 3 rfl ?_
   refine g_ifT rfl (decide_eq_true (by omega)) ?_
   refine gR 8 rfl ?_
   refine g_ret2 rfl rfl rfl rfl fun w M => ?_
   exact c1 _ rfl _ M.ext
  ·rw [if_neg hlen] at c1 ⊢
   clear c1
   refine gR 6 rfl ?_
   refine g_ifF rfl (decide_eq_false (by omega)) ?_
   refine gR 2 rfl ?_
   refine g_outX ?_
   refine gR 6 rfl ?_
   refine g_len rfl ‹_› ?_
   refine gR 3 rfl ?_
   refine g_ifF rfl (decide_eq_false (by omega)) ?_
   refine gR 10 rfl ?_
   refine g_ret2 rfl rfl rfl rfl fun w M => ?_
   exact ⟨u, es, rfl, hO, M.sub (List.sublist_append_left _ _)⟩
end Go.Proofs.YtilgoepokaaleaaGreat
/-! Y8 -/
namespace Go.Proofs.YtilgoepokaaleaaGreat
set_option linter.unusedVariables false
set_option linter.unusedSimpArgs false
open Go.RowKit
attribute [local irreducible] OpTo wpListIn Code.wpIn MW Cal
def x0 : AdvV := ⟨⟨[], 0, [], 0, 0⟩, ⟨0, 0⟩⟩
def LoK (T l : List AdvV) (i k : Nat) : Prop := ∀ j (hj : j < T.length) i' (hi : i' < l.length), j < k → i ≤ i' → cmpD T[j].to l[i'].to < 0
theorem asc_at {l : List AdvV} (h : AscA l) {i j : Nat} (hi : i < l.length) (hj : j < l.length) (hij : i < j) : cmpD l[i].to l[j].to < 0 := List.pairwise_iff_getElem.1 h i j hi hj hij
theorem LoK.next {T l : List AdvV} {i k : Nat} (h : LoK T l i k) : LoK T l (i + 1) k := fun j hj i' hi h1 h2 => h j hj i' hi h1 (by omega)
theorem LoK.skip {T l : List AdvV} {i k : Nat} (h : LoK T l i k) (hl : AscA l) (hk : k < T.length) (hlt : ∀ hi : i < l.length, cmpD T[k].to l[i].to < 0) : LoK T l i (k + 1) := fun j hj i' hi' h1 h2 => by
 rcases Nat.lt_or_ge j k with h3 | h3
 ·exact h j hj i' hi' h3 h2
 ·obtain rfl : j = k := by omega
  rcases Nat.lt_or_ge i i' with h4 | h4
  ·exact cmpD_trans (hlt (by omega)) (asc_at hl (by omega) hi' h4)
  ·obtain rfl : i = i' := by omega
   exact hlt hi'
theorem Mem.empty (w : World) : Mem [] w w [] := ⟨Ext.refl _ _, fun p hp => (by cases hp), by simp, fun p hp => (by cases hp)⟩
end Go.Proofs.YtilgoepokaaleaaGreat
/-! Y9 -/
namespace Go.Proofs.YtilgoepokaaleaaGreat
set_option linter.unusedVariables false
set_option linter.unusedSimpArgs false
open Go.RowKit
attribute [local irreducible] OpTo wpListIn Code.wpIn MW Cal
theorem MapIn.mk {κ : Type} {w : World} {kv : κ → Value} {b : Nat} {o : Obj} {m : List (κ × Value)} (h : w.heap[b]? = some o) (hA : MapAt kv m o) : MapIn w kv (.map (some b)) m := ⟨b, o, rfl, h, hA⟩
end Go.Proofs.YtilgoepokaaleaaGreat
/-! YD -/
namespace Go.Proofs.YtilgoepokaaleaaGreat
set_option linter.unusedVariables false
set_option linter.unusedSimpArgs false
open Go.RowKit
attribute [local irreducible] OpTo wpListIn Code.wpIn MW Cal
def VarI (l s m : List AdvV) : Prop := (m.map AdvV.to).Sublist (s.map AdvV.to) ∧ ∀ y ∈ m, IsAv y ∧ (validM y.own.met = true ∨ ∃ z ∈ l, z.own = y.own)
theorem VarI.add {l s m : List AdvV} {x y : AdvV} (h : VarI l s m) (e : y.to = x.to) (hy : IsAv y ∧ (validM y.own.met = true ∨ ∃ z ∈ l, z.own = y.own)) : VarI l (s ++ [x]) (m ++ [y]) := by
 refine ⟨?_, fun z hz => ?_⟩
 ·rw [List.map_append, List.map_append, List.map_singleton, List.map_singleton, e]
  exact h.1.append (List.Sublist.refl _)
 ·rcases List.mem_append.1 hz with h1 | h1
  ·exact h.2 z h1
  ·simp only [List.mem_singleton] at h1
   rw [h1];exact hy
theorem VarI.skip {l s m : List AdvV} {x : AdvV} (h : VarI l s m) : VarI l (s ++ [x]) m := ⟨by rw [List.map_append];exact h.1.trans (List.sublist_append_left _ _), h.2⟩
end Go.Proofs.YtilgoepokaaleaaGreat
/-! YE -/
namespace Go.Proofs.YtilgoepokaaleaaGreat
set_option linter.unusedVariables false
set_option linter.unusedSimpArgs false
open Go.RowKit
attribute [local irreducible] OpTo wpListIn Code.wpIn MW Cal
def SlV (n : Nat) (cs : List Value) : Pred := fun v w => SlAt w 37 v n cs
theorem SlV.stays (n : Nat) (cs : List Value) : Stays keepAll (SlV n cs) := fun _ _ _ h E => SlAt.later h E
end Go.Proofs.YtilgoepokaaleaaGreat

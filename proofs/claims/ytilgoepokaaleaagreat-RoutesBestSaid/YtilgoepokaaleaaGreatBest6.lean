/-
  Texts joined: ZF, ZC, ZD, ZG, ZH, ZM.
-/
import Derived.Test.YtilgoepokaaleaaGreatBest5
/-! ZF -/
namespace Go.Proofs.YtilgoepokaaleaaGreat
set_option linter.unusedVariables false
set_option linter.unusedSimpArgs false
open Go.RowKit
attribute [local irreducible] OpTo wpListIn Code.wpIn MW Cal
set_option maxHeartbeats 16000000 in
theorem lookup_c (l : List InsV) (hx : ∀ x ∈ l, IsIn x) (v : Value) (src dst : List Int) (hs : IsIP src) (hd : IsIP dst) (mark : DstV) (hmk : IsDv mark) (marked : Bool) (W : World) (hS : SlAt W 40 v l.length (insC l)) :
    Cal Tryz.prog 60 [v, .agg (ipC src).toArray, .agg (ipC dst).toArray, .agg (dvC mark).toArray, .bool marked].toArray W fun r w' => r = .tuple [.agg (inC (lookV l src dst mark marked).1).toArray, .int .i64 (lookV l src dst mark marked).2].toArray ∧ Ext [] W w' := by
  have hS0 := hS
  obtain ⟨q, cap, rfl, hcap, hsp, hl, hm⟩ := hS
  have a1 : seg (ipC src) 0 16 = some (ipC src) := seg_all (ipC_len hs.len)
  have a2 : seg (ipC dst) 0 16 = some (ipC dst) := seg_all (ipC_len hd.len)
  have a3 := dv_all hmk
  have a4 := dv_dst hmk
  have a5 := dv_src hmk
  have a6 := fits_pf hmk.1.len mark.dbits
  have a7 := fits_pf hmk.2.len mark.sbits
  refine fn_ofM (n := 152) [] Tryz.func60 rfl rfl rfl ?_
  intro a w F M hwW
  refine c_seq ?_
  refine c_region ?_
  (refine stepD rfl F rfl (o_box M (F.ev rfl) rfl ?_); clear F; clear M; intro b6 w M a F)
  (refine stepD rfl F rfl (o_box M (F.ev rfl) rfl ?_); clear F; clear M; intro b7 w M a F)
  (refine stepD rfl F rfl (o_box M (F.ev rfl) rfl ?_); clear F; clear M; intro b8 w M a F)
  (refine stepD rfl F rfl (o_alloc M ?_); clear F; clear M; intro b10 w M a F)
  refine stepD rfl F rfl (o_assign (F.ev rfl) ?_); clear F; clear a; intro a F
  refine l_nil ?_
  refine q_then ?_
  repeat (with_reducible refine c_seq ?_)
  refine c_cut (fun a w => Frm a 152 [] [(29, .bool (!validIs l || (marked && !validT mark))), (0, .slice q l.length cap), (4, .bool marked), (6, .pointer (some ⟨b6, 0, none⟩)), (7, .pointer (some ⟨b7, 0, none⟩)), (8, .pointer (some ⟨b8, 0, none⟩)), (10, .pointer (some ⟨b10, 0, none⟩)), (11, .int .i64 0)] ∧ Mem [] W w ((b10, .cells inZ.toArray 50 (0, 0)) :: (b8, .cells (dvC mark).toArray 45 (0, 0)) :: (b7, .cells (ipC dst).toArray 39 (0, 0)) :: (b6, .cells (ipC src).toArray 39 (0, 0)) :: [])) ?_ ?_
  · with_reducible refine c_region ?_
    refine stepD rfl F rfl (o_move (F.ev rfl) ?_); clear F; clear a; intro a F
    (refine stepD rfl F rfl (o_call (F.ev rfl) (F.evs rfl) (Cal.mono (rtvalidI_c l hx _ _ (hS0.later M.ext)) ?_)); clear F; clear a; rintro _ w ⟨rfl, hE⟩ a F; replace M := M.later hE; clear hE)
    cases c1 : validIs l
    · rw [c1] at F
      refine stepD rfl F rfl (o_not (F.ev rfl) ?_); clear F; clear a; intro a F
      refine stepD rfl F rfl (o_move (F.ev rfl) ?_); clear F; clear a; intro a F
      refine stepOff F rfl rfl rfl rfl ?_; clear F; clear a; intro a F
      refine stepOff F rfl rfl rfl rfl ?_; clear F; clear a; intro a F
      refine stepOff F rfl rfl rfl rfl ?_; clear F; clear a; intro a F
      refine stepOff F rfl rfl rfl rfl ?_; clear F; clear a; intro a F
      refine stepOff F rfl rfl rfl rfl ?_; clear F; clear a; intro a F
      refine stepOff F rfl rfl rfl rfl ?_; clear F; clear a; intro a F
      refine stepD rfl F rfl (o_pickT (F.ev rfl) (F.ev rfl) ?_); clear F; clear a; intro a F
      with_reducible refine l_nil ?_
      exact ⟨F.only [29, 0, 4, 6, 7, 8, 10, 11] rfl, M⟩
    rw [c1] at F
    cases marked
    · refine stepD rfl F rfl (o_not (F.ev rfl) ?_); clear F; clear a; intro a F
      refine stepD rfl F rfl (o_move (F.ev rfl) ?_); clear F; clear a; intro a F
      refine stepG rfl F rfl rfl rfl (o_move (F.ev rfl) ?_); clear F; clear a; intro a F
      refine stepG rfl F rfl rfl rfl (o_move (F.ev rfl) ?_); clear F; clear a; intro a F
      refine stepOff F rfl rfl rfl rfl ?_; clear F; clear a; intro a F
      refine stepOff F rfl rfl rfl rfl ?_; clear F; clear a; intro a F
      refine stepOff F rfl rfl rfl rfl ?_; clear F; clear a; intro a F
      refine stepG rfl F rfl rfl rfl (o_pickF (F.ev rfl) (F.ev rfl) ?_); clear F; clear a; intro a F
      refine stepD rfl F rfl (o_pickF (F.ev rfl) (F.ev rfl) ?_); clear F; clear a; intro a F
      with_reducible refine l_nil ?_
      exact ⟨F.only [29, 0, 4, 6, 7, 8, 10, 11] rfl, M⟩
    · refine stepD rfl F rfl (o_not (F.ev rfl) ?_); clear F; clear a; intro a F
      refine stepD rfl F rfl (o_move (F.ev rfl) ?_); clear F; clear a; intro a F
      refine stepG rfl F rfl rfl rfl (o_move (F.ev rfl) ?_); clear F; clear a; intro a F
      refine stepG rfl F rfl rfl rfl (o_move (F.ev rfl) ?_); clear F; clear a; intro a F
      refine stepG rfl F rfl rfl rfl (o_loadA M (F.ev rfl) (by repeat (first | exact .here | apply Has.there)) (by first | assumption | rfl) ?_); clear F; clear a; intro a F
      (refine stepG rfl F rfl rfl rfl (o_call (F.ev rfl) (F.evs rfl) (Cal.mono (validTo_c mark hmk _) ?_)); clear F; clear a; rintro _ w ⟨rfl, hE⟩ a F; replace M := M.later hE; clear hE)
      cases c2 : validT mark
      · rw [c2] at F
        refine stepG rfl F rfl rfl rfl (o_not (F.ev rfl) ?_); clear F; clear a; intro a F
        refine stepG rfl F rfl rfl rfl (o_pickT (F.ev rfl) (F.ev rfl) ?_); clear F; clear a; intro a F
        refine stepD rfl F rfl (o_pickF (F.ev rfl) (F.ev rfl) ?_); clear F; clear a; intro a F
        with_reducible refine l_nil ?_
        exact ⟨F.only [29, 0, 4, 6, 7, 8, 10, 11] rfl, M⟩
      · rw [c2] at F
        refine stepG rfl F rfl rfl rfl (o_not (F.ev rfl) ?_); clear F; clear a; intro a F
        refine stepG rfl F rfl rfl rfl (o_pickT (F.ev rfl) (F.ev rfl) ?_); clear F; clear a; intro a F
        refine stepD rfl F rfl (o_pickF (F.ev rfl) (F.ev rfl) ?_); clear F; clear a; intro a F
        with_reducible refine l_nil ?_
        exact ⟨F.only [29, 0, 4, 6, 7, 8, 10, 11] rfl, M⟩
  clear F M
  rintro a w ⟨F, M⟩
  cases hbad : (!validIs l || (marked && !validT mark))
  case true =>
    have hL : lookV l src dst mark marked = (in0, 1) := by unfold lookV; rw [if_pos hbad]
    rw [hL]
    rw [hbad] at F
    with_reducible refine q_then ?_
    refine c_true F rfl rfl ?_
    with_reducible refine c_seq ?_
    with_reducible refine c_region ?_
    refine stepD rfl F rfl (o_build F rfl rfl ?_); clear F; clear a; intro a F
    (refine stepN rfl F (o_storeA M (F.ev rfl) (F.ev rfl) (rfl) (rfl)  (by repeat (first | exact .here | apply Has.there))  (rfl) (by repeat (first | exact .here | apply Upd.there)) ?_); clear F; clear M; intro w M a F)
    refine stepD rfl F rfl (o_assign (F.ev rfl) ?_); clear F; clear a; intro a F
    with_reducible refine l_nil ?_
    with_reducible refine q_then ?_
    with_reducible refine c_ret ?_
    with_reducible refine q_thenR ?_
    exact p_ret F rfl (.cons (.cell (F.ev rfl) (run_loadVar_agg TAgg.h (M.heap (by repeat (first | exact .here | apply Has.there))) rfl)) (.cons (.tmp (F.ev rfl)) .nil)) ⟨rfl, M.ext⟩
  have hL : lookV l src dst mark marked = lookN (nearL l src dst) mark marked := by unfold lookV; rw [if_neg (by rw [hbad]; simp)]
  rw [hL]
  have hv : validIs l = true := by
    cases h : validIs l
    · rw [h] at hbad; cases hbad
    · rfl
  have hl512 := (validIs_iff.1 hv).1
  rw [hbad] at F
  clear hbad hL
  with_reducible refine q_then ?_
  refine c_false F rfl rfl ?_
  with_reducible refine c_skip ?_
  with_reducible refine q_then ?_
  with_reducible refine c_seq ?_
  with_reducible refine c_region ?_
  refine stepD rfl F rfl (o_assign (F.ev rfl) ?_); clear F; clear a; intro a F
  with_reducible refine l_nil ?_
  with_reducible refine q_then ?_
  with_reducible refine c_seq ?_
  with_reducible refine c_seq ?_
  with_reducible refine c_region ?_
  refine stepD rfl F rfl (o_move (F.ev rfl) ?_); clear F; clear a; intro a F
  refine stepD rfl F rfl (o_lenSl (F.ev rfl) ?_); clear F; clear a; intro a F
  refine stepD rfl F rfl (o_move (F.ev rfl) ?_); clear F; clear a; intro a F
  with_reducible refine l_nil ?_
  with_reducible refine q_then ?_
  with_reducible refine c_block ?_
  refine c_loop (fun m a w => ∃ (i : Nat) (z : Value) (ent : List (Nat × Obj)), m = l.length - i ∧ i ≤ l.length ∧ OwnS 50 40 z (nearL (l.take i) src dst).length (insC (nearL (l.take i) src dst)) ent ∧ Frm a 152 [] [(33, .int .i64 i), (32, .int .i64 l.length), (31, .slice q l.length cap), (12, z), (4, .bool marked), (6, .pointer (some ⟨b6, 0, none⟩)), (7, .pointer (some ⟨b7, 0, none⟩)), (8, .pointer (some ⟨b8, 0, none⟩)), (10, .pointer (some ⟨b10, 0, none⟩)), (11, .int .i64 0)] ∧ Mem [] W w ((b10, .cells inZ.toArray 50 (0, 0)) :: (b8, .cells (dvC mark).toArray 45 (0, 0)) :: (b7, .cells (ipC dst).toArray 39 (0, 0)) :: (b6, .cells (ipC src).toArray 39 (0, 0)) :: ent)) l.length ⟨0, .slice none 0 0, [], rfl, by omega, OwnS.nil _ _, F.only [33, 32, 31, 12, 4, 6, 7, 8, 10, 11] rfl, M⟩ ?_
  clear F M
  rintro m a w ⟨i, z, ent, hm', hi, hO, F, M⟩
  by_cases hlt : i < l.length
  · obtain ⟨b, o, cs, t, fz, rfl, hb, hsg⟩ := hm (by omega)
    have hxv := hx _ (List.getElem_mem hlt)
    have f1 : seg cs (o + (i : Int).toNat * 40) 40 = some (inC l[i]) := seg_el (ins_len hx) hsg hlt (by omega)
    have hst := nearL_step (src := src) (dst := dst) hlt
    have hnI : ∀ y ∈ nearL (l.take i) src dst, IsIn y := nearL_sub fun y hy => hx y (List.mem_of_mem_take hy)
    have hnl : (nearL (l.take i) src dst).length ≤ 512 := by
      have := nearL_len (src := src) (dst := dst) (l := l.take i)
      rw [List.length_take] at this
      omega
    obtain ⟨x, hx0⟩ : ∃ x, x = l[i] := ⟨_, rfl⟩
    obtain ⟨near, hnr⟩ : ∃ near, near = nearL (l.take i) src dst := ⟨_, rfl⟩
    rw [← hx0] at hxv f1 hst
    rw [← hnr] at hst hnI hnl hO
    have f2 : (inC x).length = 40 := in_len hxv
    have f3 := in_to_dst hxv
    have f4 := in_to_src hxv
    have f5 := in_to hxv
    have f6 := in_all hxv
    with_reducible refine c_seq ?_
    with_reducible refine c_region ?_
    refine stepD rfl F rfl (o_lssT (F.ev rfl) (F.ev rfl) (by omega) ?_); clear F; clear a; intro a F
    with_reducible refine l_nil ?_
    with_reducible refine q_then ?_
    with_reducible refine c_seq ?_
    refine c_true F rfl rfl ?_
    with_reducible refine c_skip ?_
    with_reducible refine q_then ?_
    with_reducible refine c_seq ?_
    with_reducible refine c_block ?_
    with_reducible refine c_seq ?_
    with_reducible refine c_region ?_
    refine stepD rfl F rfl (o_indexSl (F.ev rfl) (F.ev rfl) (by omega) (by omega) ?_); clear F; clear a; intro a F
    refine stepD rfl F rfl (o_loadWA M (F.ev rfl) (by assumption) (by first | assumption | rfl) ?_); clear F; clear a; intro a F
    (refine stepD rfl F rfl (o_alloc M ?_); clear F; clear M; intro b14 w M a F)
    (refine stepN rfl F (o_storeA M (F.ev rfl) (F.ev rfl) (f2) (in_one x)  (by repeat (first | exact .here | apply Has.there))  (put_all (by rw [f2]; rfl)) (by repeat (first | exact .here | apply Upd.there)) ?_); clear F; clear M; intro w M a F)
    with_reducible refine l_nil ?_
    with_reducible refine q_then ?_
    with_reducible refine c_seq ?_
    with_reducible refine c_seq ?_
    with_reducible refine c_region ?_
    refine stepD rfl F rfl (o_fieldAddr (F.ev rfl) ?_); clear F; clear a; intro a F
    refine stepD rfl F rfl (o_fieldAddr (F.ev rfl) ?_); clear F; clear a; intro a F
    refine stepD rfl F rfl (o_loadA M (F.ev rfl) (by repeat (first | exact .here | apply Has.there)) (by first | assumption | rfl) ?_); clear F; clear a; intro a F
    refine stepD rfl F rfl (o_loadA M (F.ev rfl) (by repeat (first | exact .here | apply Has.there)) (by first | assumption | rfl) ?_); clear F; clear a; intro a F
    (refine stepD rfl F rfl (o_call (F.ev rfl) (F.evs rfl) (Cal.mono (contains_c x.to.dip x.to.dbits hxv.1.1.len dst hd.len _) ?_)); clear F; clear a; rintro _ w ⟨rfl, hE⟩ a F; replace M := M.later hE; clear hE)
    cases c3 : containsP x.to.dip x.to.dbits dst
    · rw [c3] at F
      have hns : nearS src dst near x = near := by unfold nearS matchV; rw [c3]; rfl
      refine stepD rfl F rfl (o_not (F.ev rfl) ?_); clear F; clear a; intro a F
      refine stepD rfl F rfl (o_move (F.ev rfl) ?_); clear F; clear a; intro a F
      refine stepOff F rfl rfl rfl rfl ?_; clear F; clear a; intro a F
      refine stepOff F rfl rfl rfl rfl ?_; clear F; clear a; intro a F
      refine stepOff F rfl rfl rfl rfl ?_; clear F; clear a; intro a F
      refine stepOff F rfl rfl rfl rfl ?_; clear F; clear a; intro a F
      refine stepOff F rfl rfl rfl rfl ?_; clear F; clear a; intro a F
      refine stepOff F rfl rfl rfl rfl ?_; clear F; clear a; intro a F
      refine stepD rfl F rfl (o_pickT (F.ev rfl) (F.ev rfl) ?_); clear F; clear a; intro a F
      with_reducible refine l_nil ?_
      with_reducible refine q_then ?_
      refine c_true F rfl rfl ?_
      with_reducible refine c_exit ?_
      with_reducible refine q_thenX ?_
      with_reducible refine q_inBX ?_
      with_reducible refine q_then ?_
      with_reducible refine c_region ?_
      refine stepD rfl F rfl (o_add (F.ev rfl) (F.ev rfl) (w_i64 (by omega) (by omega)) ?_); clear F; clear a; intro a F
      refine stepD rfl F rfl (o_move (F.ev rfl) ?_); clear F; clear a; intro a F
      with_reducible refine l_nil ?_
      with_reducible refine q_then ?_
      exact ⟨_, by omega, i + 1, z, ent, rfl, by omega, by rw [hst, hns]; exact hO, F.only [33, 32, 31, 12, 4, 6, 7, 8, 10, 11] rfl, M.sub (List.sublist_cons_self _ _)⟩
    rw [c3] at F
    refine stepD rfl F rfl (o_not (F.ev rfl) ?_); clear F; clear a; intro a F
    refine stepD rfl F rfl (o_move (F.ev rfl) ?_); clear F; clear a; intro a F
    refine stepG rfl F rfl rfl rfl (o_fieldAddr (F.ev rfl) ?_); clear F; clear a; intro a F
    refine stepG rfl F rfl rfl rfl (o_fieldAddr (F.ev rfl) ?_); clear F; clear a; intro a F
    refine stepG rfl F rfl rfl rfl (o_loadA M (F.ev rfl) (by repeat (first | exact .here | apply Has.there)) (by first | assumption | rfl) ?_); clear F; clear a; intro a F
    refine stepG rfl F rfl rfl rfl (o_loadA M (F.ev rfl) (by repeat (first | exact .here | apply Has.there)) (by first | assumption | rfl) ?_); clear F; clear a; intro a F
    (refine stepG rfl F rfl rfl rfl (o_call (F.ev rfl) (F.evs rfl) (Cal.mono (contains_c x.to.sip x.to.sbits hxv.1.2.len src hs.len _) ?_)); clear F; clear a; rintro _ w ⟨rfl, hE⟩ a F; replace M := M.later hE; clear hE)
    cases c4 : containsP x.to.sip x.to.sbits src
    · rw [c4] at F
      have hns : nearS src dst near x = near := by unfold nearS matchV; rw [c3, c4]; rfl
      refine stepG rfl F rfl rfl rfl (o_not (F.ev rfl) ?_); clear F; clear a; intro a F
      refine stepD rfl F rfl (o_pickF (F.ev rfl) (F.ev rfl) ?_); clear F; clear a; intro a F
      with_reducible refine l_nil ?_
      with_reducible refine q_then ?_
      refine c_true F rfl rfl ?_
      with_reducible refine c_exit ?_
      with_reducible refine q_thenX ?_
      with_reducible refine q_inBX ?_
      with_reducible refine q_then ?_
      with_reducible refine c_region ?_
      refine stepD rfl F rfl (o_add (F.ev rfl) (F.ev rfl) (w_i64 (by omega) (by omega)) ?_); clear F; clear a; intro a F
      refine stepD rfl F rfl (o_move (F.ev rfl) ?_); clear F; clear a; intro a F
      with_reducible refine l_nil ?_
      with_reducible refine q_then ?_
      exact ⟨_, by omega, i + 1, z, ent, rfl, by omega, by rw [hst, hns]; exact hO, F.only [33, 32, 31, 12, 4, 6, 7, 8, 10, 11] rfl, M.sub (List.sublist_cons_self _ _)⟩
    rw [c4] at F
    have hmt : matchV x.to src dst = true := by unfold matchV; rw [c3, c4]; rfl
    refine stepG rfl F rfl rfl rfl (o_not (F.ev rfl) ?_); clear F; clear a; intro a F
    refine stepD rfl F rfl (o_pickF (F.ev rfl) (F.ev rfl) ?_); clear F; clear a; intro a F
    with_reducible refine l_nil ?_
    with_reducible refine q_then ?_
    refine c_false F rfl rfl ?_
    with_reducible refine c_skip ?_
    with_reducible refine q_then ?_
    with_reducible refine c_seq ?_
    with_reducible refine c_seq ?_
    replace F := F.only [33, 32, 31, 12, 4, 6, 7, 8, 10, 11, 14] rfl
    cases near with
    | nil =>
      have hns : nearS src dst [] x = [x] := by unfold nearS; rw [hmt]; rfl
      replace hO : OwnS 50 40 z 0 [] ent := hO
      obtain ⟨pz, cz, rfl⟩ := hO.slice
      refine c_draw 13 F (by kernel_rfl) ?_
      intro w1 hE hok
      have M1 := M.later hE
      refine mK hok rfl rfl (fun a' w' F' E' => o_move (F'.ev rfl) ⟨Ext.refl _ _, rfl⟩) ?_
      refine mK hok rfl rfl (fun a' w' F' E' => o_lenSl (F'.ev rfl) ⟨Ext.refl _ _, rfl⟩) ?_
      refine mK hok rfl rfl (fun a' w' F' E' => o_gtrF (F'.ev rfl) (F'.ev rfl) (by omega) ⟨Ext.refl _ _, rfl⟩) ?_
      refine mK hok rfl rfl (fun a' w' F' E' => o_move (F'.ev rfl) ⟨Ext.refl _ _, rfl⟩) ?_
      refine mOff hok rfl rfl rfl rfl rfl ?_
      refine mOff hok rfl rfl rfl rfl rfl ?_
      refine mOff hok rfl rfl rfl rfl rfl ?_
      refine mOff hok rfl rfl rfl rfl rfl ?_
      refine mOff hok rfl rfl rfl rfl rfl ?_
      refine mOff hok rfl rfl rfl rfl rfl ?_
      refine mOff hok rfl rfl rfl rfl rfl ?_
      refine mOff hok rfl rfl rfl rfl rfl ?_
      refine mK hok rfl rfl (fun a' w' F' E' => o_pickF (F'.ev rfl) (F'.ev rfl) ⟨Ext.refl _ _, rfl⟩) ?_
      (refine mDone rfl rfl ?_; clear F; clear M; intro a w F hE2 hX hTT hDD hPP; have M := M1.later hE2; clear M1; clear hX; clear hE2; clear hok; clear hE; clear hTT; clear hDD; clear hPP; (try dsimp only at F))
      with_reducible refine l_nil ?_
      with_reducible refine q_then ?_
      refine c_false F rfl rfl ?_
      with_reducible refine c_skip ?_
      with_reducible refine q_then ?_
      with_reducible refine c_seq ?_
      replace F := F.only [33, 32, 31, 12, 4, 6, 7, 8, 10, 11, 14] rfl
      refine c_draw 13 F (by kernel_rfl) ?_
      intro w1 hE hok
      have M1 := M.later hE
      refine mK hok rfl rfl (fun a' w' F' E' => o_move (F'.ev rfl) ⟨Ext.refl _ _, rfl⟩) ?_
      refine mK hok rfl rfl (fun a' w' F' E' => o_lenSl (F'.ev rfl) ⟨Ext.refl _ _, rfl⟩) ?_
      refine mK hok rfl rfl (fun a' w' F' E' => o_eqlT (F'.ev rfl) (F'.ev rfl) (by omega) ⟨Ext.refl _ _, rfl⟩) ?_
      refine mK hok rfl rfl (fun a' w' F' E' => o_move (F'.ev rfl) ⟨Ext.refl _ _, rfl⟩) ?_
      refine mOff hok rfl rfl rfl rfl rfl ?_
      refine mOff hok rfl rfl rfl rfl rfl ?_
      refine mOff hok rfl rfl rfl rfl rfl ?_
      refine mOff hok rfl rfl rfl rfl rfl ?_
      refine mOff hok rfl rfl rfl rfl rfl ?_
      refine mOff hok rfl rfl rfl rfl rfl ?_
      refine mOff hok rfl rfl rfl rfl rfl ?_
      refine mOff hok rfl rfl rfl rfl rfl ?_
      refine mK hok rfl rfl (fun a' w' F' E' => o_pickT (F'.ev rfl) (F'.ev rfl) ⟨Ext.refl _ _, rfl⟩) ?_
      (refine mDone rfl rfl ?_; clear F; clear M; intro a w F hE2 hX hTT hDD hPP; have M := M1.later hE2; clear M1; clear hX; clear hE2; clear hok; clear hE; clear hTT; clear hDD; clear hPP; (try dsimp only at F))
      with_reducible refine l_nil ?_
      with_reducible refine q_then ?_
      refine c_true F rfl rfl ?_
      with_reducible refine c_region ?_
      refine stepD rfl F rfl (o_move (F.ev rfl) ?_); clear F; clear a; intro a F
      refine stepD rfl F rfl (o_loadA M (F.ev rfl) (by repeat (first | exact .here | apply Has.there)) (by first | assumption | rfl) ?_); clear F; clear a; intro a F
      (refine stepD rfl F rfl (o_buildSlice F M rfl rfl rfl (in_build1 hxv) ?_); clear F; clear M; intro b79 w M a F)
      (refine stepD rfl F rfl (o_append hO M (.cons (.cons (.cons (.cons (.cons (.cons .here)))))) (F.ev rfl) (F.ev rfl) (SrcOf.cells' (M.heap .here) (sg_all f2) (in_one _)) (by omega) (by omega) ?_); clear F; clear M; intro z2 ent2 w hO2 M a F)
      refine stepD rfl F rfl (o_assign (F.ev rfl) ?_); clear F; clear a; intro a F
      with_reducible refine l_nil ?_
      with_reducible refine q_inB ?_
      with_reducible refine q_then ?_
      with_reducible refine c_region ?_
      refine stepD rfl F rfl (o_add (F.ev rfl) (F.ev rfl) (w_i64 (by omega) (by omega)) ?_); clear F; clear a; intro a F
      refine stepD rfl F rfl (o_move (F.ev rfl) ?_); clear F; clear a; intro a F
      with_reducible refine l_nil ?_
      with_reducible refine q_then ?_
      refine ⟨_, by omega, i + 1, z2, ent2, rfl, by omega, ?_, F.only [33, 32, 31, 12, 4, 6, 7, 8, 10, 11] rfl, M.sub (List.sublist_append_right [_, _] _)⟩
      rw [hst, hns]
      show OwnS _ 40 _ _ (encL inC [x]) _
      rw [encL_one]
      exact hO2
    | cons y ys =>
      rcases hO with ⟨_, h0, _, _⟩ | ⟨bN, cN, junk, rfl, rfl, hxl, hjl, hnc⟩
      · simp at h0
      have hyv := hnI y (by simp)
      have hsz : ∀ z ∈ y :: ys, (inC z).length = 40 := ins_len hnI
      have g1 : seg (insC (y :: ys) ++ junk) (0 + (0 : Int).toNat * 40) 40 = some (inC y) := own_el hsz junk (show 0 < (y :: ys).length by simp) (by simp)
      have g2 : seg (insC (y :: ys) ++ junk) (0 + (0 : Int).toNat * 40) 35 = some (dvC y.to) := sg_seg g1 (in_to hyv) (by omega)
      have hN := rnearest_c x.to y.to hxv.1 hyv.1
      have hO : OwnS 50 40 (.slice (some ⟨bN, 0, none⟩) (y :: ys).length cN) (y :: ys).length (insC (y :: ys)) [(bN, .cells (insC (y :: ys) ++ junk).toArray 50 (0, 0))] := .inr ⟨bN, cN, junk, rfl, rfl, hxl, hjl, hnc⟩
      obtain ⟨n, hn⟩ : ∃ n, n = (y :: ys).length := ⟨_, rfl⟩
      have hn0 : 0 < n := by rw [hn]; simp
      rw [← hn] at hO F hnl
      obtain ⟨cc, hcc⟩ : ∃ cc, cc = nearC x.to y.to := ⟨_, rfl⟩
      rw [← hcc] at hN
      have hns0 : nearS src dst (y :: ys) x = if 0 < cc then [x] else if cc = 0 then y :: ys ++ [x] else y :: ys := by unfold nearS; rw [hmt, hcc]; rfl
      replace M := M.perm (l' := (bN, .cells (insC (y :: ys) ++ junk).toArray 50 (0, 0)) :: (b14, .cells (inC x).toArray 50 (0, 0)) :: (b10, .cells inZ.toArray 50 (0, 0)) :: (b8, .cells (dvC mark).toArray 45 (0, 0)) :: (b7, .cells (ipC dst).toArray 39 (0, 0)) :: (b6, .cells (ipC src).toArray 39 (0, 0)) :: []) (by classical exact List.perm_iff_count.2 fun _ => by simp only [List.count_append, List.count_cons, List.count_nil, Nat.add_zero, Nat.zero_add] <;> ac_rfl)
      clear f3 f4 hxl hjl hnc
      by_cases k1 : 0 < cc
      · rw [if_pos k1] at hns0
        refine c_draw 13 F (by kernel_rfl) ?_
        intro w1 hE hok
        have M1 := M.later hE
        refine mK hok rfl rfl (fun a' w' F' E' => o_move (F'.ev rfl) ⟨Ext.refl _ _, rfl⟩) ?_
        refine mK hok rfl rfl (fun a' w' F' E' => o_lenSl (F'.ev rfl) ⟨Ext.refl _ _, rfl⟩) ?_
        refine mK hok rfl rfl (fun a' w' F' E' => o_gtrT (F'.ev rfl) (F'.ev rfl) (by omega) ⟨Ext.refl _ _, rfl⟩) ?_
        refine mK hok rfl rfl (fun a' w' F' E' => o_move (F'.ev rfl) ⟨Ext.refl _ _, rfl⟩) ?_
        refine mKG hok rfl rfl rfl rfl (fun a' w' F' E' => o_fieldAddr (F'.ev rfl) ⟨Ext.refl _ _, rfl⟩) ?_
        refine mKG hok rfl rfl rfl rfl (fun a' w' F' E' => o_loadA (M1.later E') (F'.ev rfl) (by repeat (first | exact .here | apply Has.there)) (by first | assumption | rfl) ⟨Ext.refl _ _, rfl⟩) ?_
        refine mKG hok rfl rfl rfl rfl (fun a' w' F' E' => o_move (F'.ev rfl) ⟨Ext.refl _ _, rfl⟩) ?_
        refine mKG hok rfl rfl rfl rfl (fun a' w' F' E' => o_indexSl (F'.ev rfl) (F'.ev rfl) (by omega) (by omega) ⟨Ext.refl _ _, rfl⟩) ?_
        refine mKG hok rfl rfl rfl rfl (fun a' w' F' E' => o_fieldAddr (F'.ev rfl) ⟨Ext.refl _ _, rfl⟩) ?_
        refine mKG hok rfl rfl rfl rfl (fun a' w' F' E' => o_loadA (M1.later E') (F'.ev rfl) (by repeat (first | exact .here | apply Has.there)) (by first | assumption | rfl) ⟨Ext.refl _ _, rfl⟩) ?_
        (refine mKG hok rfl rfl rfl rfl (fun a' w' F' E' => o_call (F'.ev rfl) (F'.evs rfl) (Cal.mono (hN _) fun _ _ hh => ⟨hh.2, hh.1⟩)) ?_)
        refine mKG hok rfl rfl rfl rfl (fun a' w' F' E' => o_gtrT (F'.ev rfl) (F'.ev rfl) (by omega) ⟨Ext.refl _ _, rfl⟩) ?_
        refine mK hok rfl rfl (fun a' w' F' E' => o_pickT (F'.ev rfl) (F'.ev rfl) ⟨Ext.refl _ _, rfl⟩) ?_
        (refine mDone rfl rfl ?_; clear F; clear M; intro a w F hE2 hX hTT hDD hPP; have M := M1.later hE2; clear M1; clear hX; clear hE2; clear hok; clear hE; clear hTT; clear hDD; clear hPP; (try dsimp only at F))
        with_reducible refine l_nil ?_
        with_reducible refine q_then ?_
        refine c_true F rfl rfl ?_
        with_reducible refine c_region ?_
        refine stepD rfl F rfl (o_assign (F.ev rfl) ?_); clear F; clear a; intro a F
        with_reducible refine l_nil ?_
        with_reducible refine q_then ?_
        with_reducible refine c_seq ?_
        replace F := F.only [33, 32, 31, 12, 4, 6, 7, 8, 10, 11, 14] rfl
        refine c_draw 13 F (by kernel_rfl) ?_
        intro w1 hE hok
        have M1 := M.later hE
        refine mK hok rfl rfl (fun a' w' F' E' => o_move (F'.ev rfl) ⟨Ext.refl _ _, rfl⟩) ?_
        refine mK hok rfl rfl (fun a' w' F' E' => o_lenSl (F'.ev rfl) ⟨Ext.refl _ _, rfl⟩) ?_
        refine mK hok rfl rfl (fun a' w' F' E' => o_eqlT (F'.ev rfl) (F'.ev rfl) (by omega) ⟨Ext.refl _ _, rfl⟩) ?_
        refine mK hok rfl rfl (fun a' w' F' E' => o_move (F'.ev rfl) ⟨Ext.refl _ _, rfl⟩) ?_
        refine mOff hok rfl rfl rfl rfl rfl ?_
        refine mOff hok rfl rfl rfl rfl rfl ?_
        refine mOff hok rfl rfl rfl rfl rfl ?_
        refine mOff hok rfl rfl rfl rfl rfl ?_
        refine mOff hok rfl rfl rfl rfl rfl ?_
        refine mOff hok rfl rfl rfl rfl rfl ?_
        refine mOff hok rfl rfl rfl rfl rfl ?_
        refine mOff hok rfl rfl rfl rfl rfl ?_
        refine mK hok rfl rfl (fun a' w' F' E' => o_pickT (F'.ev rfl) (F'.ev rfl) ⟨Ext.refl _ _, rfl⟩) ?_
        (refine mDone rfl rfl ?_; clear F; clear M; intro a w F hE2 hX hTT hDD hPP; have M := M1.later hE2; clear M1; clear hX; clear hE2; clear hok; clear hE; clear hTT; clear hDD; clear hPP; (try dsimp only at F))
        with_reducible refine l_nil ?_
        with_reducible refine q_then ?_
        refine c_true F rfl rfl ?_
        with_reducible refine c_region ?_
        refine stepD rfl F rfl (o_move (F.ev rfl) ?_); clear F; clear a; intro a F
        refine stepD rfl F rfl (o_loadA M (F.ev rfl) (by repeat (first | exact .here | apply Has.there)) (by first | assumption | rfl) ?_); clear F; clear a; intro a F
        (refine stepD rfl F rfl (o_buildSlice F M rfl rfl rfl (in_build1 hxv) ?_); clear F; clear M; intro b79 w M a F)
        replace M := M.sub (l' := (b79, .cells (inC x).toArray 50 (0, 0)) :: (b14, .cells (inC x).toArray 50 (0, 0)) :: (b10, .cells inZ.toArray 50 (0, 0)) :: (b8, .cells (dvC mark).toArray 45 (0, 0)) :: (b7, .cells (ipC dst).toArray 39 (0, 0)) :: (b6, .cells (ipC src).toArray 39 (0, 0)) :: []) ((List.sublist_cons_self _ _).cons_cons _)
        (refine stepD rfl F rfl (o_append (OwnS.nil 50 40) M (.cons (.cons (.cons (.cons (.cons (.cons .here)))))) (F.ev rfl) (F.ev rfl) (SrcOf.cells' (M.heap .here) (sg_all f2) (in_one _)) (by omega) (by omega) ?_); clear F; clear M; intro z2 ent2 w hO2 M a F)
        refine stepD rfl F rfl (o_assign (F.ev rfl) ?_); clear F; clear a; intro a F
        with_reducible refine l_nil ?_
        with_reducible refine q_inB ?_
        with_reducible refine q_then ?_
        with_reducible refine c_region ?_
        refine stepD rfl F rfl (o_add (F.ev rfl) (F.ev rfl) (w_i64 (by omega) (by omega)) ?_); clear F; clear a; intro a F
        refine stepD rfl F rfl (o_move (F.ev rfl) ?_); clear F; clear a; intro a F
        with_reducible refine l_nil ?_
        with_reducible refine q_then ?_
        refine ⟨_, by omega, i + 1, z2, ent2, rfl, by omega, ?_, F.only [33, 32, 31, 12, 4, 6, 7, 8, 10, 11] rfl, M.sub (List.sublist_append_right [_, _] _)⟩
        rw [hst, hns0]
        show OwnS _ 40 _ _ (encL inC [x]) _
        rw [encL_one]
        exact hO2
      rw [if_neg k1] at hns0
      by_cases k2 : cc = 0
      · rw [if_pos k2] at hns0
        refine c_draw 13 F (by kernel_rfl) ?_
        intro w1 hE hok
        have M1 := M.later hE
        refine mK hok rfl rfl (fun a' w' F' E' => o_move (F'.ev rfl) ⟨Ext.refl _ _, rfl⟩) ?_
        refine mK hok rfl rfl (fun a' w' F' E' => o_lenSl (F'.ev rfl) ⟨Ext.refl _ _, rfl⟩) ?_
        refine mK hok rfl rfl (fun a' w' F' E' => o_gtrT (F'.ev rfl) (F'.ev rfl) (by omega) ⟨Ext.refl _ _, rfl⟩) ?_
        refine mK hok rfl rfl (fun a' w' F' E' => o_move (F'.ev rfl) ⟨Ext.refl _ _, rfl⟩) ?_
        refine mKG hok rfl rfl rfl rfl (fun a' w' F' E' => o_fieldAddr (F'.ev rfl) ⟨Ext.refl _ _, rfl⟩) ?_
        refine mKG hok rfl rfl rfl rfl (fun a' w' F' E' => o_loadA (M1.later E') (F'.ev rfl) (by repeat (first | exact .here | apply Has.there)) (by first | assumption | rfl) ⟨Ext.refl _ _, rfl⟩) ?_
        refine mKG hok rfl rfl rfl rfl (fun a' w' F' E' => o_move (F'.ev rfl) ⟨Ext.refl _ _, rfl⟩) ?_
        refine mKG hok rfl rfl rfl rfl (fun a' w' F' E' => o_indexSl (F'.ev rfl) (F'.ev rfl) (by omega) (by omega) ⟨Ext.refl _ _, rfl⟩) ?_
        refine mKG hok rfl rfl rfl rfl (fun a' w' F' E' => o_fieldAddr (F'.ev rfl) ⟨Ext.refl _ _, rfl⟩) ?_
        refine mKG hok rfl rfl rfl rfl (fun a' w' F' E' => o_loadA (M1.later E') (F'.ev rfl) (by repeat (first | exact .here | apply Has.there)) (by first | assumption | rfl) ⟨Ext.refl _ _, rfl⟩) ?_
        (refine mKG hok rfl rfl rfl rfl (fun a' w' F' E' => o_call (F'.ev rfl) (F'.evs rfl) (Cal.mono (hN _) fun _ _ hh => ⟨hh.2, hh.1⟩)) ?_)
        refine mKG hok rfl rfl rfl rfl (fun a' w' F' E' => o_gtrF (F'.ev rfl) (F'.ev rfl) (by omega) ⟨Ext.refl _ _, rfl⟩) ?_
        refine mK hok rfl rfl (fun a' w' F' E' => o_pickT (F'.ev rfl) (F'.ev rfl) ⟨Ext.refl _ _, rfl⟩) ?_
        (refine mDone rfl rfl ?_; clear F; clear M; intro a w F hE2 hX hTT hDD hPP; have M := M1.later hE2; clear M1; clear hX; clear hE2; clear hok; clear hE; clear hTT; clear hDD; clear hPP; (try dsimp only at F))
        with_reducible refine l_nil ?_
        with_reducible refine q_then ?_
        refine c_false F rfl rfl ?_
        with_reducible refine c_skip ?_
        with_reducible refine q_then ?_
        with_reducible refine c_seq ?_
        replace F := F.only [33, 32, 31, 12, 4, 6, 7, 8, 10, 11, 14] rfl
        refine c_draw 13 F (by kernel_rfl) ?_
        intro w1 hE hok
        have M1 := M.later hE
        refine mK hok rfl rfl (fun a' w' F' E' => o_move (F'.ev rfl) ⟨Ext.refl _ _, rfl⟩) ?_
        refine mK hok rfl rfl (fun a' w' F' E' => o_lenSl (F'.ev rfl) ⟨Ext.refl _ _, rfl⟩) ?_
        refine mK hok rfl rfl (fun a' w' F' E' => o_eqlF (F'.ev rfl) (F'.ev rfl) (by omega) ⟨Ext.refl _ _, rfl⟩) ?_
        refine mK hok rfl rfl (fun a' w' F' E' => o_move (F'.ev rfl) ⟨Ext.refl _ _, rfl⟩) ?_
        refine mKG hok rfl rfl rfl rfl (fun a' w' F' E' => o_fieldAddr (F'.ev rfl) ⟨Ext.refl _ _, rfl⟩) ?_
        refine mKG hok rfl rfl rfl rfl (fun a' w' F' E' => o_loadA (M1.later E') (F'.ev rfl) (by repeat (first | exact .here | apply Has.there)) (by first | assumption | rfl) ⟨Ext.refl _ _, rfl⟩) ?_
        refine mKG hok rfl rfl rfl rfl (fun a' w' F' E' => o_move (F'.ev rfl) ⟨Ext.refl _ _, rfl⟩) ?_
        refine mKG hok rfl rfl rfl rfl (fun a' w' F' E' => o_indexSl (F'.ev rfl) (F'.ev rfl) (by omega) (by omega) ⟨Ext.refl _ _, rfl⟩) ?_
        refine mKG hok rfl rfl rfl rfl (fun a' w' F' E' => o_fieldAddr (F'.ev rfl) ⟨Ext.refl _ _, rfl⟩) ?_
        refine mKG hok rfl rfl rfl rfl (fun a' w' F' E' => o_loadA (M1.later E') (F'.ev rfl) (by repeat (first | exact .here | apply Has.there)) (by first | assumption | rfl) ⟨Ext.refl _ _, rfl⟩) ?_
        (refine mKG hok rfl rfl rfl rfl (fun a' w' F' E' => o_call (F'.ev rfl) (F'.evs rfl) (Cal.mono (hN _) fun _ _ hh => ⟨hh.2, hh.1⟩)) ?_)
        refine mKG hok rfl rfl rfl rfl (fun a' w' F' E' => o_eqlT (F'.ev rfl) (F'.ev rfl) (by omega) ⟨Ext.refl _ _, rfl⟩) ?_
        refine mK hok rfl rfl (fun a' w' F' E' => o_pickF (F'.ev rfl) (F'.ev rfl) ⟨Ext.refl _ _, rfl⟩) ?_
        (refine mDone rfl rfl ?_; clear F; clear M; intro a w F hE2 hX hTT hDD hPP; have M := M1.later hE2; clear M1; clear hX; clear hE2; clear hok; clear hE; clear hTT; clear hDD; clear hPP; (try dsimp only at F))
        with_reducible refine l_nil ?_
        with_reducible refine q_then ?_
        refine c_true F rfl rfl ?_
        with_reducible refine c_region ?_
        refine stepD rfl F rfl (o_move (F.ev rfl) ?_); clear F; clear a; intro a F
        refine stepD rfl F rfl (o_loadA M (F.ev rfl) (by repeat (first | exact .here | apply Has.there)) (by first | assumption | rfl) ?_); clear F; clear a; intro a F
        (refine stepD rfl F rfl (o_buildSlice F M rfl rfl rfl (in_build1 hxv) ?_); clear F; clear M; intro b79 w M a F)
        replace M := M.perm (l' := (b79, .cells (inC x).toArray 50 (0, 0)) :: (b14, .cells (inC x).toArray 50 (0, 0)) :: (b10, .cells inZ.toArray 50 (0, 0)) :: (b8, .cells (dvC mark).toArray 45 (0, 0)) :: (b7, .cells (ipC dst).toArray 39 (0, 0)) :: (b6, .cells (ipC src).toArray 39 (0, 0)) :: [(bN, .cells (insC (y :: ys) ++ junk).toArray 50 (0, 0))]) (by classical exact List.perm_iff_count.2 fun _ => by simp only [List.count_append, List.count_cons, List.count_nil, Nat.add_zero, Nat.zero_add] <;> ac_rfl)
        (refine stepD rfl F rfl (o_append hO M (.cons (.cons (.cons (.cons (.cons (.cons .here)))))) (F.ev rfl) (F.ev rfl) (SrcOf.cells' (M.heap .here) (sg_all f2) (in_one _)) (by omega) (by omega) ?_); clear F; clear M; intro z2 ent2 w hO2 M a F)
        refine stepD rfl F rfl (o_assign (F.ev rfl) ?_); clear F; clear a; intro a F
        with_reducible refine l_nil ?_
        with_reducible refine q_inB ?_
        with_reducible refine q_then ?_
        with_reducible refine c_region ?_
        refine stepD rfl F rfl (o_add (F.ev rfl) (F.ev rfl) (w_i64 (by omega) (by omega)) ?_); clear F; clear a; intro a F
        refine stepD rfl F rfl (o_move (F.ev rfl) ?_); clear F; clear a; intro a F
        with_reducible refine l_nil ?_
        with_reducible refine q_then ?_
        refine ⟨_, by omega, i + 1, z2, ent2, rfl, by omega, ?_, F.only [33, 32, 31, 12, 4, 6, 7, 8, 10, 11] rfl, M.sub (List.sublist_append_right [_, _] _)⟩
        rw [hst, hns0, show (y :: ys ++ [x]).length = n + 1 by rw [hn]; simp]
        show OwnS _ 40 _ _ (encL inC (y :: ys ++ [x])) _
        rw [encL_app, encL_one]
        exact hO2
      · rw [if_neg k2] at hns0
        refine c_draw 13 F (by kernel_rfl) ?_
        intro w1 hE hok
        have M1 := M.later hE
        refine mK hok rfl rfl (fun a' w' F' E' => o_move (F'.ev rfl) ⟨Ext.refl _ _, rfl⟩) ?_
        refine mK hok rfl rfl (fun a' w' F' E' => o_lenSl (F'.ev rfl) ⟨Ext.refl _ _, rfl⟩) ?_
        refine mK hok rfl rfl (fun a' w' F' E' => o_gtrT (F'.ev rfl) (F'.ev rfl) (by omega) ⟨Ext.refl _ _, rfl⟩) ?_
        refine mK hok rfl rfl (fun a' w' F' E' => o_move (F'.ev rfl) ⟨Ext.refl _ _, rfl⟩) ?_
        refine mKG hok rfl rfl rfl rfl (fun a' w' F' E' => o_fieldAddr (F'.ev rfl) ⟨Ext.refl _ _, rfl⟩) ?_
        refine mKG hok rfl rfl rfl rfl (fun a' w' F' E' => o_loadA (M1.later E') (F'.ev rfl) (by repeat (first | exact .here | apply Has.there)) (by first | assumption | rfl) ⟨Ext.refl _ _, rfl⟩) ?_
        refine mKG hok rfl rfl rfl rfl (fun a' w' F' E' => o_move (F'.ev rfl) ⟨Ext.refl _ _, rfl⟩) ?_
        refine mKG hok rfl rfl rfl rfl (fun a' w' F' E' => o_indexSl (F'.ev rfl) (F'.ev rfl) (by omega) (by omega) ⟨Ext.refl _ _, rfl⟩) ?_
        refine mKG hok rfl rfl rfl rfl (fun a' w' F' E' => o_fieldAddr (F'.ev rfl) ⟨Ext.refl _ _, rfl⟩) ?_
        refine mKG hok rfl rfl rfl rfl (fun a' w' F' E' => o_loadA (M1.later E') (F'.ev rfl) (by repeat (first | exact .here | apply Has.there)) (by first | assumption | rfl) ⟨Ext.refl _ _, rfl⟩) ?_
        (refine mKG hok rfl rfl rfl rfl (fun a' w' F' E' => o_call (F'.ev rfl) (F'.evs rfl) (Cal.mono (hN _) fun _ _ hh => ⟨hh.2, hh.1⟩)) ?_)
        refine mKG hok rfl rfl rfl rfl (fun a' w' F' E' => o_gtrF (F'.ev rfl) (F'.ev rfl) (by omega) ⟨Ext.refl _ _, rfl⟩) ?_
        refine mK hok rfl rfl (fun a' w' F' E' => o_pickT (F'.ev rfl) (F'.ev rfl) ⟨Ext.refl _ _, rfl⟩) ?_
        (refine mDone rfl rfl ?_; clear F; clear M; intro a w F hE2 hX hTT hDD hPP; have M := M1.later hE2; clear M1; clear hX; clear hE2; clear hok; clear hE; clear hTT; clear hDD; clear hPP; (try dsimp only at F))
        with_reducible refine l_nil ?_
        with_reducible refine q_then ?_
        refine c_false F rfl rfl ?_
        with_reducible refine c_skip ?_
        with_reducible refine q_then ?_
        with_reducible refine c_seq ?_
        replace F := F.only [33, 32, 31, 12, 4, 6, 7, 8, 10, 11, 14] rfl
        refine c_draw 13 F (by kernel_rfl) ?_
        intro w1 hE hok
        have M1 := M.later hE
        refine mK hok rfl rfl (fun a' w' F' E' => o_move (F'.ev rfl) ⟨Ext.refl _ _, rfl⟩) ?_
        refine mK hok rfl rfl (fun a' w' F' E' => o_lenSl (F'.ev rfl) ⟨Ext.refl _ _, rfl⟩) ?_
        refine mK hok rfl rfl (fun a' w' F' E' => o_eqlF (F'.ev rfl) (F'.ev rfl) (by omega) ⟨Ext.refl _ _, rfl⟩) ?_
        refine mK hok rfl rfl (fun a' w' F' E' => o_move (F'.ev rfl) ⟨Ext.refl _ _, rfl⟩) ?_
        refine mKG hok rfl rfl rfl rfl (fun a' w' F' E' => o_fieldAddr (F'.ev rfl) ⟨Ext.refl _ _, rfl⟩) ?_
        refine mKG hok rfl rfl rfl rfl (fun a' w' F' E' => o_loadA (M1.later E') (F'.ev rfl) (by repeat (first | exact .here | apply Has.there)) (by first | assumption | rfl) ⟨Ext.refl _ _, rfl⟩) ?_
        refine mKG hok rfl rfl rfl rfl (fun a' w' F' E' => o_move (F'.ev rfl) ⟨Ext.refl _ _, rfl⟩) ?_
        refine mKG hok rfl rfl rfl rfl (fun a' w' F' E' => o_indexSl (F'.ev rfl) (F'.ev rfl) (by omega) (by omega) ⟨Ext.refl _ _, rfl⟩) ?_
        refine mKG hok rfl rfl rfl rfl (fun a' w' F' E' => o_fieldAddr (F'.ev rfl) ⟨Ext.refl _ _, rfl⟩) ?_
        refine mKG hok rfl rfl rfl rfl (fun a' w' F' E' => o_loadA (M1.later E') (F'.ev rfl) (by repeat (first | exact .here | apply Has.there)) (by first | assumption | rfl) ⟨Ext.refl _ _, rfl⟩) ?_
        (refine mKG hok rfl rfl rfl rfl (fun a' w' F' E' => o_call (F'.ev rfl) (F'.evs rfl) (Cal.mono (hN _) fun _ _ hh => ⟨hh.2, hh.1⟩)) ?_)
        refine mKG hok rfl rfl rfl rfl (fun a' w' F' E' => o_eqlF (F'.ev rfl) (F'.ev rfl) (by omega) ⟨Ext.refl _ _, rfl⟩) ?_
        refine mK hok rfl rfl (fun a' w' F' E' => o_pickF (F'.ev rfl) (F'.ev rfl) ⟨Ext.refl _ _, rfl⟩) ?_
        (refine mDone rfl rfl ?_; clear F; clear M; intro a w F hE2 hX hTT hDD hPP; have M := M1.later hE2; clear M1; clear hX; clear hE2; clear hok; clear hE; clear hTT; clear hDD; clear hPP; (try dsimp only at F))
        with_reducible refine l_nil ?_
        with_reducible refine q_then ?_
        refine c_false F rfl rfl ?_
        with_reducible refine c_skip ?_
        with_reducible refine q_inB ?_
        with_reducible refine q_then ?_
        with_reducible refine c_region ?_
        refine stepD rfl F rfl (o_add (F.ev rfl) (F.ev rfl) (w_i64 (by omega) (by omega)) ?_); clear F; clear a; intro a F
        refine stepD rfl F rfl (o_move (F.ev rfl) ?_); clear F; clear a; intro a F
        with_reducible refine l_nil ?_
        with_reducible refine q_then ?_
        exact ⟨_, by omega, i + 1, _, _, rfl, by omega, by rw [hst, hns0, ← hn]; exact hO, F.only [33, 32, 31, 12, 4, 6, 7, 8, 10, 11] rfl, (M.perm (l' := (((b10, .cells inZ.toArray 50 (0, 0)) :: (b8, .cells (dvC mark).toArray 45 (0, 0)) :: (b7, .cells (ipC dst).toArray 39 (0, 0)) :: (b6, .cells (ipC src).toArray 39 (0, 0)) :: [(bN, .cells (insC (y :: ys) ++ junk).toArray 50 (0, 0))]) ++ [(b14, .cells (inC x).toArray 50 (0, 0))])) (by classical exact List.perm_iff_count.2 fun _ => by simp only [List.count_append, List.count_cons, List.count_nil, Nat.add_zero, Nat.zero_add] <;> ac_rfl)).sub (List.sublist_append_left _ _)⟩
  · obtain rfl : i = l.length := by omega
    rw [List.take_length] at hO
    have hnI : ∀ y ∈ nearL l src dst, IsIn y := nearL_sub hx
    have hnl : (nearL l src dst).length ≤ 512 := by
      have := nearL_len (src := src) (dst := dst) (l := l)
      omega
    obtain ⟨near, hnr⟩ : ∃ near, near = nearL l src dst := ⟨_, rfl⟩
    rw [← hnr] at hnI hnl hO ⊢
    clear hnr hm hS0
    cases near with
    | nil =>
      rw [show lookN [] mark marked = (in0, 9) from rfl]
      replace hO : OwnS 50 40 z 0 [] ent := hO
      obtain ⟨pz, cz, rfl⟩ := hO.slice
      with_reducible refine c_seq ?_
      with_reducible refine c_region ?_
      refine stepD rfl F rfl (o_lssF (F.ev rfl) (F.ev rfl) (by omega) ?_); clear F; clear a; intro a F
      with_reducible refine l_nil ?_
      with_reducible refine q_then ?_
      with_reducible refine c_seq ?_
      refine c_false F rfl rfl ?_
      with_reducible refine c_exit ?_
      with_reducible refine q_thenX ?_
      with_reducible refine q_thenX ?_
      with_reducible refine q_inBX ?_
      with_reducible refine q_then ?_
      with_reducible refine c_seq ?_
      with_reducible refine c_seq ?_
      replace F := F.only [12, 4, 6, 7, 8, 10, 11] rfl
      refine c_draw 15 F (by kernel_rfl) ?_
      intro w1 hE hok
      have M1 := M.later hE
      refine mK hok rfl rfl (fun a' w' F' E' => o_move (F'.ev rfl) ⟨Ext.refl _ _, rfl⟩) ?_
      refine mK hok rfl rfl (fun a' w' F' E' => o_lenSl (F'.ev rfl) ⟨Ext.refl _ _, rfl⟩) ?_
      refine mK hok rfl rfl (fun a' w' F' E' => o_eqlT (F'.ev rfl) (F'.ev rfl) (by omega) ⟨Ext.refl _ _, rfl⟩) ?_
      refine mK hok rfl rfl (fun a' w' F' E' => o_move (F'.ev rfl) ⟨Ext.refl _ _, rfl⟩) ?_
      refine mOff hok rfl rfl rfl rfl rfl ?_
      refine mOff hok rfl rfl rfl rfl rfl ?_
      refine mOff hok rfl rfl rfl rfl rfl ?_
      refine mOff hok rfl rfl rfl rfl rfl ?_
      refine mOff hok rfl rfl rfl rfl rfl ?_
      refine mOff hok rfl rfl rfl rfl rfl ?_
      refine mOff hok rfl rfl rfl rfl rfl ?_
      refine mOff hok rfl rfl rfl rfl rfl ?_
      refine mOff hok rfl rfl rfl rfl rfl ?_
      refine mOff hok rfl rfl rfl rfl rfl ?_
      refine mK hok rfl rfl (fun a' w' F' E' => o_pickT (F'.ev rfl) (F'.ev rfl) ⟨Ext.refl _ _, rfl⟩) ?_
      (refine mDone rfl rfl ?_; clear F; clear M; intro a w F hE2 hX hTT hDD hPP; have M := M1.later hE2; clear M1; clear hX; clear hE2; clear hok; clear hE; clear hTT; clear hDD; clear hPP; (try dsimp only at F))
      with_reducible refine l_nil ?_
      with_reducible refine q_then ?_
      refine c_true F rfl rfl ?_
      with_reducible refine c_seq ?_
      with_reducible refine c_region ?_
      refine stepD rfl F rfl (o_build F rfl rfl ?_); clear F; clear a; intro a F
      (refine stepN rfl F (o_storeA M (F.ev rfl) (F.ev rfl) (rfl) (rfl)  (by repeat (first | exact .here | apply Has.there))  (rfl) (by repeat (first | exact .here | apply Upd.there)) ?_); clear F; clear M; intro w M a F)
      refine stepD rfl F rfl (o_assign (F.ev rfl) ?_); clear F; clear a; intro a F
      with_reducible refine l_nil ?_
      with_reducible refine q_then ?_
      with_reducible refine c_ret ?_
      with_reducible refine q_thenR ?_
      exact p_ret F rfl (.cons (.cell (F.ev rfl) (run_loadVar_agg TAgg.h (M.heap (by repeat (first | exact .here | apply Has.there))) rfl)) (.cons (.tmp (F.ev rfl)) .nil)) ⟨rfl, M.ext⟩
    | cons y ys =>
      rcases hO with ⟨_, h0, _, _⟩ | ⟨bN, cN, junk, rfl, rfl, hxl, hjl, hnc⟩
      · simp at h0
      have hyv := hnI y (by simp)
      have hsz : ∀ z ∈ y :: ys, (inC z).length = 40 := ins_len hnI
      have g1 : seg (insC (y :: ys) ++ junk) (0 + (0 : Int).toNat * 40) 40 = some (inC y) := own_el hsz junk (show 0 < (y :: ys).length by simp) (by simp)
      have g2 : seg (insC (y :: ys) ++ junk) (0 + (0 : Int).toNat * 40) 35 = some (dvC y.to) := sg_seg g1 (in_to hyv) (by omega)
      have g3 : seg (insC (y :: ys) ++ junk) (0 + (0 : Int).toNat * 40) 17 = some (pfC y.to.dip y.to.dbits) := sg_seg g1 (in_to_dst hyv) (by omega)
      have g4 : seg (insC (y :: ys) ++ junk) (0 + (0 : Int).toNat * 40 + 17) 17 = some (pfC y.to.sip y.to.sbits) := sg_seg g1 (in_to_src hyv) (by omega)
      have g5 := fits_pf hyv.1.1.len y.to.dbits
      have g6 := fits_pf hyv.1.2.len y.to.sbits
      have q1 := eq_pfD (a := y.to.dip) (b := mark.dip) (n := y.to.dbits) (m := mark.dbits) (by rw [hyv.1.1.len, hmk.1.len])
      have q2 := eq_pfD (a := y.to.sip) (b := mark.sip) (n := y.to.sbits) (m := mark.sbits) (by rw [hyv.1.2.len, hmk.2.len])
      have hN := rnearest_c y.to mark hyv.1 hmk
      have hO : OwnS 50 40 (.slice (some ⟨bN, 0, none⟩) (y :: ys).length cN) (y :: ys).length (insC (y :: ys)) [(bN, .cells (insC (y :: ys) ++ junk).toArray 50 (0, 0))] := .inr ⟨bN, cN, junk, rfl, rfl, hxl, hjl, hnc⟩
      obtain ⟨n, hn⟩ : ∃ n, n = (y :: ys).length := ⟨_, rfl⟩
      have hn0 : 0 < n := by rw [hn]; simp
      rw [← hn] at hO F hnl
      replace M := M.perm (l' := (bN, .cells (insC (y :: ys) ++ junk).toArray 50 (0, 0)) :: (b10, .cells inZ.toArray 50 (0, 0)) :: (b8, .cells (dvC mark).toArray 45 (0, 0)) :: (b7, .cells (ipC dst).toArray 39 (0, 0)) :: (b6, .cells (ipC src).toArray 39 (0, 0)) :: []) (by classical exact List.perm_iff_count.2 fun _ => by simp only [List.count_append, List.count_cons, List.count_nil, Nat.add_zero, Nat.zero_add] <;> ac_rfl)
      with_reducible refine c_seq ?_
      with_reducible refine c_region ?_
      refine stepD rfl F rfl (o_lssF (F.ev rfl) (F.ev rfl) (by omega) ?_); clear F; clear a; intro a F
      with_reducible refine l_nil ?_
      with_reducible refine q_then ?_
      with_reducible refine c_seq ?_
      refine c_false F rfl rfl ?_
      with_reducible refine c_exit ?_
      with_reducible refine q_thenX ?_
      with_reducible refine q_thenX ?_
      with_reducible refine q_inBX ?_
      with_reducible refine q_then ?_
      with_reducible refine c_seq ?_
      with_reducible refine c_seq ?_
      replace F := F.only [12, 4, 6, 7, 8, 10, 11] rfl
      refine c_cut (fun a w => Frm a 152 [] [(96, .bool (marked && decide (nearC y.to mark < 0))), (12, .slice (some ⟨bN, 0, none⟩) n cN), (4, .bool marked), (6, .pointer (some ⟨b6, 0, none⟩)), (7, .pointer (some ⟨b7, 0, none⟩)), (8, .pointer (some ⟨b8, 0, none⟩)), (10, .pointer (some ⟨b10, 0, none⟩)), (11, .int .i64 0)] ∧ Mem [] W w ((bN, .cells (insC (y :: ys) ++ junk).toArray 50 (0, 0)) :: (b10, .cells inZ.toArray 50 (0, 0)) :: (b8, .cells (dvC mark).toArray 45 (0, 0)) :: (b7, .cells (ipC dst).toArray 39 (0, 0)) :: (b6, .cells (ipC src).toArray 39 (0, 0)) :: [])) ?_ ?_
      · cases marked
        · refine c_draw 15 F (by kernel_rfl) ?_
          intro w1 hE hok
          have M1 := M.later hE
          refine mK hok rfl rfl (fun a' w' F' E' => o_move (F'.ev rfl) ⟨Ext.refl _ _, rfl⟩) ?_
          refine mK hok rfl rfl (fun a' w' F' E' => o_lenSl (F'.ev rfl) ⟨Ext.refl _ _, rfl⟩) ?_
          refine mK hok rfl rfl (fun a' w' F' E' => o_eqlF (F'.ev rfl) (F'.ev rfl) (by omega) ⟨Ext.refl _ _, rfl⟩) ?_
          refine mK hok rfl rfl (fun a' w' F' E' => o_move (F'.ev rfl) ⟨Ext.refl _ _, rfl⟩) ?_
          refine mKG hok rfl rfl rfl rfl (fun a' w' F' E' => o_move (F'.ev rfl) ⟨Ext.refl _ _, rfl⟩) ?_
          refine mKG hok rfl rfl rfl rfl (fun a' w' F' E' => o_move (F'.ev rfl) ⟨Ext.refl _ _, rfl⟩) ?_
          refine mOff hok rfl rfl rfl rfl rfl ?_
          refine mOff hok rfl rfl rfl rfl rfl ?_
          refine mOff hok rfl rfl rfl rfl rfl ?_
          refine mOff hok rfl rfl rfl rfl rfl ?_
          refine mOff hok rfl rfl rfl rfl rfl ?_
          refine mOff hok rfl rfl rfl rfl rfl ?_
          refine mOff hok rfl rfl rfl rfl rfl ?_
          refine mKG hok rfl rfl rfl rfl (fun a' w' F' E' => o_pickF (F'.ev rfl) (F'.ev rfl) ⟨Ext.refl _ _, rfl⟩) ?_
          refine mK hok rfl rfl (fun a' w' F' E' => o_pickF (F'.ev rfl) (F'.ev rfl) ⟨Ext.refl _ _, rfl⟩) ?_
          (refine mDone rfl rfl ?_; clear F; clear M; intro a w F hE2 hX hTT hDD hPP; have M := M1.later hE2; clear M1; clear hX; clear hE2; clear hok; clear hE; clear hTT; clear hDD; clear hPP; (try dsimp only at F))
          with_reducible refine l_nil ?_
          exact ⟨F.only [96, 12, 4, 6, 7, 8, 10, 11] rfl, M⟩
        · by_cases k : nearC y.to mark < 0
          · rw [decide_eq_true k]
            refine c_draw 15 F (by kernel_rfl) ?_
            intro w1 hE hok
            have M1 := M.later hE
            refine mK hok rfl rfl (fun a' w' F' E' => o_move (F'.ev rfl) ⟨Ext.refl _ _, rfl⟩) ?_
            refine mK hok rfl rfl (fun a' w' F' E' => o_lenSl (F'.ev rfl) ⟨Ext.refl _ _, rfl⟩) ?_
            refine mK hok rfl rfl (fun a' w' F' E' => o_eqlF (F'.ev rfl) (F'.ev rfl) (by omega) ⟨Ext.refl _ _, rfl⟩) ?_
            refine mK hok rfl rfl (fun a' w' F' E' => o_move (F'.ev rfl) ⟨Ext.refl _ _, rfl⟩) ?_
            refine mKG hok rfl rfl rfl rfl (fun a' w' F' E' => o_move (F'.ev rfl) ⟨Ext.refl _ _, rfl⟩) ?_
            refine mKG hok rfl rfl rfl rfl (fun a' w' F' E' => o_move (F'.ev rfl) ⟨Ext.refl _ _, rfl⟩) ?_
            refine mKG hok rfl rfl rfl rfl (fun a' w' F' E' => o_move (F'.ev rfl) ⟨Ext.refl _ _, rfl⟩) ?_
            refine mKG hok rfl rfl rfl rfl (fun a' w' F' E' => o_indexSl (F'.ev rfl) (F'.ev rfl) (by omega) (by omega) ⟨Ext.refl _ _, rfl⟩) ?_
            refine mKG hok rfl rfl rfl rfl (fun a' w' F' E' => o_fieldAddr (F'.ev rfl) ⟨Ext.refl _ _, rfl⟩) ?_
            refine mKG hok rfl rfl rfl rfl (fun a' w' F' E' => o_loadA (M1.later E') (F'.ev rfl) (by repeat (first | exact .here | apply Has.there)) (by first | assumption | rfl) ⟨Ext.refl _ _, rfl⟩) ?_
            refine mKG hok rfl rfl rfl rfl (fun a' w' F' E' => o_loadA (M1.later E') (F'.ev rfl) (by repeat (first | exact .here | apply Has.there)) (by first | assumption | rfl) ⟨Ext.refl _ _, rfl⟩) ?_
            (refine mKG hok rfl rfl rfl rfl (fun a' w' F' E' => o_call (F'.ev rfl) (F'.evs rfl) (Cal.mono (hN _) fun _ _ hh => ⟨hh.2, hh.1⟩)) ?_)
            refine mKG hok rfl rfl rfl rfl (fun a' w' F' E' => o_lssT (F'.ev rfl) (F'.ev rfl) (by omega) ⟨Ext.refl _ _, rfl⟩) ?_
            refine mKG hok rfl rfl rfl rfl (fun a' w' F' E' => o_pickT (F'.ev rfl) (F'.ev rfl) ⟨Ext.refl _ _, rfl⟩) ?_
            refine mK hok rfl rfl (fun a' w' F' E' => o_pickF (F'.ev rfl) (F'.ev rfl) ⟨Ext.refl _ _, rfl⟩) ?_
            (refine mDone rfl rfl ?_; clear F; clear M; intro a w F hE2 hX hTT hDD hPP; have M := M1.later hE2; clear M1; clear hX; clear hE2; clear hok; clear hE; clear hTT; clear hDD; clear hPP; (try dsimp only at F))
            with_reducible refine l_nil ?_
            exact ⟨F.only [96, 12, 4, 6, 7, 8, 10, 11] rfl, M⟩
          · rw [decide_eq_false k]
            refine c_draw 15 F (by kernel_rfl) ?_
            intro w1 hE hok
            have M1 := M.later hE
            refine mK hok rfl rfl (fun a' w' F' E' => o_move (F'.ev rfl) ⟨Ext.refl _ _, rfl⟩) ?_
            refine mK hok rfl rfl (fun a' w' F' E' => o_lenSl (F'.ev rfl) ⟨Ext.refl _ _, rfl⟩) ?_
            refine mK hok rfl rfl (fun a' w' F' E' => o_eqlF (F'.ev rfl) (F'.ev rfl) (by omega) ⟨Ext.refl _ _, rfl⟩) ?_
            refine mK hok rfl rfl (fun a' w' F' E' => o_move (F'.ev rfl) ⟨Ext.refl _ _, rfl⟩) ?_
            refine mKG hok rfl rfl rfl rfl (fun a' w' F' E' => o_move (F'.ev rfl) ⟨Ext.refl _ _, rfl⟩) ?_
            refine mKG hok rfl rfl rfl rfl (fun a' w' F' E' => o_move (F'.ev rfl) ⟨Ext.refl _ _, rfl⟩) ?_
            refine mKG hok rfl rfl rfl rfl (fun a' w' F' E' => o_move (F'.ev rfl) ⟨Ext.refl _ _, rfl⟩) ?_
            refine mKG hok rfl rfl rfl rfl (fun a' w' F' E' => o_indexSl (F'.ev rfl) (F'.ev rfl) (by omega) (by omega) ⟨Ext.refl _ _, rfl⟩) ?_
            refine mKG hok rfl rfl rfl rfl (fun a' w' F' E' => o_fieldAddr (F'.ev rfl) ⟨Ext.refl _ _, rfl⟩) ?_
            refine mKG hok rfl rfl rfl rfl (fun a' w' F' E' => o_loadA (M1.later E') (F'.ev rfl) (by repeat (first | exact .here | apply Has.there)) (by first | assumption | rfl) ⟨Ext.refl _ _, rfl⟩) ?_
            refine mKG hok rfl rfl rfl rfl (fun a' w' F' E' => o_loadA (M1.later E') (F'.ev rfl) (by repeat (first | exact .here | apply Has.there)) (by first | assumption | rfl) ⟨Ext.refl _ _, rfl⟩) ?_
            (refine mKG hok rfl rfl rfl rfl (fun a' w' F' E' => o_call (F'.ev rfl) (F'.evs rfl) (Cal.mono (hN _) fun _ _ hh => ⟨hh.2, hh.1⟩)) ?_)
            refine mKG hok rfl rfl rfl rfl (fun a' w' F' E' => o_lssF (F'.ev rfl) (F'.ev rfl) (by omega) ⟨Ext.refl _ _, rfl⟩) ?_
            refine mKG hok rfl rfl rfl rfl (fun a' w' F' E' => o_pickT (F'.ev rfl) (F'.ev rfl) ⟨Ext.refl _ _, rfl⟩) ?_
            refine mK hok rfl rfl (fun a' w' F' E' => o_pickF (F'.ev rfl) (F'.ev rfl) ⟨Ext.refl _ _, rfl⟩) ?_
            (refine mDone rfl rfl ?_; clear F; clear M; intro a w F hE2 hX hTT hDD hPP; have M := M1.later hE2; clear M1; clear hX; clear hE2; clear hok; clear hE; clear hTT; clear hDD; clear hPP; (try dsimp only at F))
            with_reducible refine l_nil ?_
            exact ⟨F.only [96, 12, 4, 6, 7, 8, 10, 11] rfl, M⟩
      clear F M
      rintro a w ⟨F, M⟩
      cases hk : (marked && decide (nearC y.to mark < 0))
      case true =>
        rw [hk] at F
        rw [show lookN (y :: ys) mark marked = (in0, 9) by unfold lookN; dsimp only; rw [if_pos hk]]
        with_reducible refine q_then ?_
        refine c_true F rfl rfl ?_
        with_reducible refine c_seq ?_
        with_reducible refine c_region ?_
        refine stepD rfl F rfl (o_build F rfl rfl ?_); clear F; clear a; intro a F
        (refine stepN rfl F (o_storeA M (F.ev rfl) (F.ev rfl) (rfl) (rfl)  (by repeat (first | exact .here | apply Has.there))  (rfl) (by repeat (first | exact .here | apply Upd.there)) ?_); clear F; clear M; intro w M a F)
        refine stepD rfl F rfl (o_assign (F.ev rfl) ?_); clear F; clear a; intro a F
        with_reducible refine l_nil ?_
        with_reducible refine q_then ?_
        with_reducible refine c_ret ?_
        with_reducible refine q_thenR ?_
        exact p_ret F rfl (.cons (.cell (F.ev rfl) (run_loadVar_agg TAgg.h (M.heap (by repeat (first | exact .here | apply Has.there))) rfl)) (.cons (.tmp (F.ev rfl)) .nil)) ⟨rfl, M.ext⟩
      rw [hk] at F
      obtain ⟨same, hsm⟩ : ∃ same, same = (marked && (decide (y.to.dip = mark.dip) && decide (y.to.dbits = mark.dbits)) && (decide (y.to.sip = mark.sip) && decide (y.to.sbits = mark.sbits))) := ⟨_, rfl⟩
      have hlk : lookN (y :: ys) mark marked = match (if same = true then (y :: ys).find? (fun e => decide (e.to = mark)) else some (cheap (y :: ys) y)) with
          | none => (in0, 9)
          | some c => if c.nb = 0 then (in0, 15) else (c, 0) := by
        unfold lookN
        dsimp only
        rw [if_neg (by rw [hk]; simp), hsm]
        rfl
      have y1 := in_len hyv
      with_reducible refine q_then ?_
      refine c_false F rfl rfl ?_
      with_reducible refine c_skip ?_
      with_reducible refine q_then ?_
      with_reducible refine c_seq ?_
      with_reducible refine c_region ?_
      refine stepD rfl F rfl (o_move (F.ev rfl) ?_); clear F; clear a; intro a F
      refine stepD rfl F rfl (o_indexSl (F.ev rfl) (F.ev rfl) (by omega) (by omega) ?_); clear F; clear a; intro a F
      refine stepD rfl F rfl (o_loadA M (F.ev rfl) (by repeat (first | exact .here | apply Has.there)) (by first | assumption | rfl) ?_); clear F; clear a; intro a F
      (refine stepD rfl F rfl (o_alloc M ?_); clear F; clear M; intro b15 w M a F)
      (refine stepN rfl F (o_storeA M (F.ev rfl) (F.ev rfl) (y1) (in_one y)  (by repeat (first | exact .here | apply Has.there))  (put_all (by rw [y1]; rfl)) (by repeat (first | exact .here | apply Upd.there)) ?_); clear F; clear M; intro w M a F)
      with_reducible refine l_nil ?_
      with_reducible refine q_then ?_
      with_reducible refine c_seq ?_
      with_reducible refine c_seq ?_
      replace F := F.only [12, 15, 4, 6, 7, 8, 10, 11] rfl
      replace M := M.perm (l' := (b15, .cells (inC (y)).toArray 50 (0, 0)) :: (bN, .cells (insC (y :: ys) ++ junk).toArray 50 (0, 0)) :: (b10, .cells inZ.toArray 50 (0, 0)) :: (b8, .cells (dvC mark).toArray 45 (0, 0)) :: (b7, .cells (ipC dst).toArray 39 (0, 0)) :: (b6, .cells (ipC src).toArray 39 (0, 0)) :: []) (by classical exact List.perm_iff_count.2 fun _ => by simp only [List.count_append, List.count_cons, List.count_nil, Nat.add_zero, Nat.zero_add] <;> ac_rfl)
      refine c_cut (fun a w => Frm a 152 [] [(121, .bool same), (15, .pointer (some ⟨b15, 0, none⟩)), (12, .slice (some ⟨bN, 0, none⟩) n cN), (4, .bool marked), (6, .pointer (some ⟨b6, 0, none⟩)), (7, .pointer (some ⟨b7, 0, none⟩)), (8, .pointer (some ⟨b8, 0, none⟩)), (10, .pointer (some ⟨b10, 0, none⟩)), (11, .int .i64 0)] ∧ Mem [] W w ((b15, .cells (inC (y)).toArray 50 (0, 0)) :: (bN, .cells (insC (y :: ys) ++ junk).toArray 50 (0, 0)) :: (b10, .cells inZ.toArray 50 (0, 0)) :: (b8, .cells (dvC mark).toArray 45 (0, 0)) :: (b7, .cells (ipC dst).toArray 39 (0, 0)) :: (b6, .cells (ipC src).toArray 39 (0, 0)) :: [])) ?_ ?_
      · rw [hsm]
        clear hlk hsm hk hN
        cases marked
        · refine c_draw 21 F (by kernel_rfl) ?_
          intro w1 hE hok
          have M1 := M.later hE
          refine mK hok rfl rfl (fun a' w' F' E' => o_move (F'.ev rfl) ⟨Ext.refl _ _, rfl⟩) ?_
          refine mK hok rfl rfl (fun a' w' F' E' => o_move (F'.ev rfl) ⟨Ext.refl _ _, rfl⟩) ?_
          refine mOff hok rfl rfl rfl rfl rfl ?_
          refine mOff hok rfl rfl rfl rfl rfl ?_
          refine mOff hok rfl rfl rfl rfl rfl ?_
          refine mOff hok rfl rfl rfl rfl rfl ?_
          refine mOff hok rfl rfl rfl rfl rfl ?_
          refine mOff hok rfl rfl rfl rfl rfl ?_
          refine mOff hok rfl rfl rfl rfl rfl ?_
          refine mOff hok rfl rfl rfl rfl rfl ?_
          refine mK hok rfl rfl (fun a' w' F' E' => o_pickF (F'.ev rfl) (F'.ev rfl) ⟨Ext.refl _ _, rfl⟩) ?_
          refine mK hok rfl rfl (fun a' w' F' E' => o_move (F'.ev rfl) ⟨Ext.refl _ _, rfl⟩) ?_
          refine mOff hok rfl rfl rfl rfl rfl ?_
          refine mOff hok rfl rfl rfl rfl rfl ?_
          refine mOff hok rfl rfl rfl rfl rfl ?_
          refine mOff hok rfl rfl rfl rfl rfl ?_
          refine mOff hok rfl rfl rfl rfl rfl ?_
          refine mOff hok rfl rfl rfl rfl rfl ?_
          refine mOff hok rfl rfl rfl rfl rfl ?_
          refine mOff hok rfl rfl rfl rfl rfl ?_
          refine mK hok rfl rfl (fun a' w' F' E' => o_pickF (F'.ev rfl) (F'.ev rfl) ⟨Ext.refl _ _, rfl⟩) ?_
          (refine mDone rfl rfl ?_; clear F; clear M; intro a w F hE2 hX hTT hDD hPP; have M := M1.later hE2; clear M1; clear hX; clear hE2; clear hok; clear hE; clear hTT; clear hDD; clear hPP; (try dsimp only at F))
          with_reducible refine l_nil ?_
          exact ⟨F.only [121, 15, 12, 4, 6, 7, 8, 10, 11] rfl, M⟩
        · cases d1 : (decide (y.to.dip = mark.dip) && decide (y.to.dbits = mark.dbits))
          · rw [d1] at q1
            refine c_draw 21 F (by kernel_rfl) ?_
            intro w1 hE hok
            have M1 := M.later hE
            refine mK hok rfl rfl (fun a' w' F' E' => o_move (F'.ev rfl) ⟨Ext.refl _ _, rfl⟩) ?_
            refine mK hok rfl rfl (fun a' w' F' E' => o_move (F'.ev rfl) ⟨Ext.refl _ _, rfl⟩) ?_
            refine mKG hok rfl rfl rfl rfl (fun a' w' F' E' => o_move (F'.ev rfl) ⟨Ext.refl _ _, rfl⟩) ?_
            refine mKG hok rfl rfl rfl rfl (fun a' w' F' E' => o_indexSl (F'.ev rfl) (F'.ev rfl) (by omega) (by omega) ⟨Ext.refl _ _, rfl⟩) ?_
            refine mKG hok rfl rfl rfl rfl (fun a' w' F' E' => o_fieldAddr (F'.ev rfl) ⟨Ext.refl _ _, rfl⟩) ?_
            refine mKG hok rfl rfl rfl rfl (fun a' w' F' E' => o_fieldAddr (F'.ev rfl) ⟨Ext.refl _ _, rfl⟩) ?_
            refine mKG hok rfl rfl rfl rfl (fun a' w' F' E' => o_loadA (M1.later E') (F'.ev rfl) (by repeat (first | exact .here | apply Has.there)) (by first | assumption | rfl) ⟨Ext.refl _ _, rfl⟩) ?_
            refine mKG hok rfl rfl rfl rfl (fun a' w' F' E' => o_fieldAddr (F'.ev rfl) ⟨Ext.refl _ _, rfl⟩) ?_
            refine mKG hok rfl rfl rfl rfl (fun a' w' F' E' => o_loadA (M1.later E') (F'.ev rfl) (by repeat (first | exact .here | apply Has.there)) (by first | assumption | rfl) ⟨Ext.refl _ _, rfl⟩) ?_
            refine mKG hok rfl rfl rfl rfl (fun a' w' F' E' => o_eqlAF (F'.ev rfl) (F'.ev rfl) (by first | assumption | rfl) (by first | assumption | rfl) (by assumption) ⟨Ext.refl _ _, rfl⟩) ?_
            refine mK hok rfl rfl (fun a' w' F' E' => o_pickT (F'.ev rfl) (F'.ev rfl) ⟨Ext.refl _ _, rfl⟩) ?_
            refine mK hok rfl rfl (fun a' w' F' E' => o_move (F'.ev rfl) ⟨Ext.refl _ _, rfl⟩) ?_
            refine mOff hok rfl rfl rfl rfl rfl ?_
            refine mOff hok rfl rfl rfl rfl rfl ?_
            refine mOff hok rfl rfl rfl rfl rfl ?_
            refine mOff hok rfl rfl rfl rfl rfl ?_
            refine mOff hok rfl rfl rfl rfl rfl ?_
            refine mOff hok rfl rfl rfl rfl rfl ?_
            refine mOff hok rfl rfl rfl rfl rfl ?_
            refine mOff hok rfl rfl rfl rfl rfl ?_
            refine mK hok rfl rfl (fun a' w' F' E' => o_pickF (F'.ev rfl) (F'.ev rfl) ⟨Ext.refl _ _, rfl⟩) ?_
            (refine mDone rfl rfl ?_; clear F; clear M; intro a w F hE2 hX hTT hDD hPP; have M := M1.later hE2; clear M1; clear hX; clear hE2; clear hok; clear hE; clear hTT; clear hDD; clear hPP; (try dsimp only at F))
            with_reducible refine l_nil ?_
            exact ⟨F.only [121, 15, 12, 4, 6, 7, 8, 10, 11] rfl, M⟩
          · rw [d1] at q1
            cases d2 : (decide (y.to.sip = mark.sip) && decide (y.to.sbits = mark.sbits))
            · rw [d2] at q2
              refine c_draw 21 F (by kernel_rfl) ?_
              intro w1 hE hok
              have M1 := M.later hE
              refine mK hok rfl rfl (fun a' w' F' E' => o_move (F'.ev rfl) ⟨Ext.refl _ _, rfl⟩) ?_
              refine mK hok rfl rfl (fun a' w' F' E' => o_move (F'.ev rfl) ⟨Ext.refl _ _, rfl⟩) ?_
              refine mKG hok rfl rfl rfl rfl (fun a' w' F' E' => o_move (F'.ev rfl) ⟨Ext.refl _ _, rfl⟩) ?_
              refine mKG hok rfl rfl rfl rfl (fun a' w' F' E' => o_indexSl (F'.ev rfl) (F'.ev rfl) (by omega) (by omega) ⟨Ext.refl _ _, rfl⟩) ?_
              refine mKG hok rfl rfl rfl rfl (fun a' w' F' E' => o_fieldAddr (F'.ev rfl) ⟨Ext.refl _ _, rfl⟩) ?_
              refine mKG hok rfl rfl rfl rfl (fun a' w' F' E' => o_fieldAddr (F'.ev rfl) ⟨Ext.refl _ _, rfl⟩) ?_
              refine mKG hok rfl rfl rfl rfl (fun a' w' F' E' => o_loadA (M1.later E') (F'.ev rfl) (by repeat (first | exact .here | apply Has.there)) (by first | assumption | rfl) ⟨Ext.refl _ _, rfl⟩) ?_
              refine mKG hok rfl rfl rfl rfl (fun a' w' F' E' => o_fieldAddr (F'.ev rfl) ⟨Ext.refl _ _, rfl⟩) ?_
              refine mKG hok rfl rfl rfl rfl (fun a' w' F' E' => o_loadA (M1.later E') (F'.ev rfl) (by repeat (first | exact .here | apply Has.there)) (by first | assumption | rfl) ⟨Ext.refl _ _, rfl⟩) ?_
              refine mKG hok rfl rfl rfl rfl (fun a' w' F' E' => o_eqlAT (F'.ev rfl) (F'.ev rfl) (by first | assumption | rfl) (by first | assumption | rfl) (by assumption) ⟨Ext.refl _ _, rfl⟩) ?_
              refine mK hok rfl rfl (fun a' w' F' E' => o_pickT (F'.ev rfl) (F'.ev rfl) ⟨Ext.refl _ _, rfl⟩) ?_
              refine mK hok rfl rfl (fun a' w' F' E' => o_move (F'.ev rfl) ⟨Ext.refl _ _, rfl⟩) ?_
              refine mKG hok rfl rfl rfl rfl (fun a' w' F' E' => o_move (F'.ev rfl) ⟨Ext.refl _ _, rfl⟩) ?_
              refine mKG hok rfl rfl rfl rfl (fun a' w' F' E' => o_indexSl (F'.ev rfl) (F'.ev rfl) (by omega) (by omega) ⟨Ext.refl _ _, rfl⟩) ?_
              refine mKG hok rfl rfl rfl rfl (fun a' w' F' E' => o_fieldAddr (F'.ev rfl) ⟨Ext.refl _ _, rfl⟩) ?_
              refine mKG hok rfl rfl rfl rfl (fun a' w' F' E' => o_fieldAddr (F'.ev rfl) ⟨Ext.refl _ _, rfl⟩) ?_
              refine mKG hok rfl rfl rfl rfl (fun a' w' F' E' => o_loadA (M1.later E') (F'.ev rfl) (by repeat (first | exact .here | apply Has.there)) (by first | assumption | rfl) ⟨Ext.refl _ _, rfl⟩) ?_
              refine mKG hok rfl rfl rfl rfl (fun a' w' F' E' => o_fieldAddr (F'.ev rfl) ⟨Ext.refl _ _, rfl⟩) ?_
              refine mKG hok rfl rfl rfl rfl (fun a' w' F' E' => o_loadA (M1.later E') (F'.ev rfl) (by repeat (first | exact .here | apply Has.there)) (by first | assumption | rfl) ⟨Ext.refl _ _, rfl⟩) ?_
              refine mKG hok rfl rfl rfl rfl (fun a' w' F' E' => o_eqlAF (F'.ev rfl) (F'.ev rfl) (by first | assumption | rfl) (by first | assumption | rfl) (by assumption) ⟨Ext.refl _ _, rfl⟩) ?_
              refine mK hok rfl rfl (fun a' w' F' E' => o_pickT (F'.ev rfl) (F'.ev rfl) ⟨Ext.refl _ _, rfl⟩) ?_
              (refine mDone rfl rfl ?_; clear F; clear M; intro a w F hE2 hX hTT hDD hPP; have M := M1.later hE2; clear M1; clear hX; clear hE2; clear hok; clear hE; clear hTT; clear hDD; clear hPP; (try dsimp only at F))
              with_reducible refine l_nil ?_
              exact ⟨F.only [121, 15, 12, 4, 6, 7, 8, 10, 11] rfl, M⟩
            · rw [d2] at q2
              refine c_draw 21 F (by kernel_rfl) ?_
              intro w1 hE hok
              have M1 := M.later hE
              refine mK hok rfl rfl (fun a' w' F' E' => o_move (F'.ev rfl) ⟨Ext.refl _ _, rfl⟩) ?_
              refine mK hok rfl rfl (fun a' w' F' E' => o_move (F'.ev rfl) ⟨Ext.refl _ _, rfl⟩) ?_
              refine mKG hok rfl rfl rfl rfl (fun a' w' F' E' => o_move (F'.ev rfl) ⟨Ext.refl _ _, rfl⟩) ?_
              refine mKG hok rfl rfl rfl rfl (fun a' w' F' E' => o_indexSl (F'.ev rfl) (F'.ev rfl) (by omega) (by omega) ⟨Ext.refl _ _, rfl⟩) ?_
              refine mKG hok rfl rfl rfl rfl (fun a' w' F' E' => o_fieldAddr (F'.ev rfl) ⟨Ext.refl _ _, rfl⟩) ?_
              refine mKG hok rfl rfl rfl rfl (fun a' w' F' E' => o_fieldAddr (F'.ev rfl) ⟨Ext.refl _ _, rfl⟩) ?_
              refine mKG hok rfl rfl rfl rfl (fun a' w' F' E' => o_loadA (M1.later E') (F'.ev rfl) (by repeat (first | exact .here | apply Has.there)) (by first | assumption | rfl) ⟨Ext.refl _ _, rfl⟩) ?_
              refine mKG hok rfl rfl rfl rfl (fun a' w' F' E' => o_fieldAddr (F'.ev rfl) ⟨Ext.refl _ _, rfl⟩) ?_
              refine mKG hok rfl rfl rfl rfl (fun a' w' F' E' => o_loadA (M1.later E') (F'.ev rfl) (by repeat (first | exact .here | apply Has.there)) (by first | assumption | rfl) ⟨Ext.refl _ _, rfl⟩) ?_
              refine mKG hok rfl rfl rfl rfl (fun a' w' F' E' => o_eqlAT (F'.ev rfl) (F'.ev rfl) (by first | assumption | rfl) (by first | assumption | rfl) (by assumption) ⟨Ext.refl _ _, rfl⟩) ?_
              refine mK hok rfl rfl (fun a' w' F' E' => o_pickT (F'.ev rfl) (F'.ev rfl) ⟨Ext.refl _ _, rfl⟩) ?_
              refine mK hok rfl rfl (fun a' w' F' E' => o_move (F'.ev rfl) ⟨Ext.refl _ _, rfl⟩) ?_
              refine mKG hok rfl rfl rfl rfl (fun a' w' F' E' => o_move (F'.ev rfl) ⟨Ext.refl _ _, rfl⟩) ?_
              refine mKG hok rfl rfl rfl rfl (fun a' w' F' E' => o_indexSl (F'.ev rfl) (F'.ev rfl) (by omega) (by omega) ⟨Ext.refl _ _, rfl⟩) ?_
              refine mKG hok rfl rfl rfl rfl (fun a' w' F' E' => o_fieldAddr (F'.ev rfl) ⟨Ext.refl _ _, rfl⟩) ?_
              refine mKG hok rfl rfl rfl rfl (fun a' w' F' E' => o_fieldAddr (F'.ev rfl) ⟨Ext.refl _ _, rfl⟩) ?_
              refine mKG hok rfl rfl rfl rfl (fun a' w' F' E' => o_loadA (M1.later E') (F'.ev rfl) (by repeat (first | exact .here | apply Has.there)) (by first | assumption | rfl) ⟨Ext.refl _ _, rfl⟩) ?_
              refine mKG hok rfl rfl rfl rfl (fun a' w' F' E' => o_fieldAddr (F'.ev rfl) ⟨Ext.refl _ _, rfl⟩) ?_
              refine mKG hok rfl rfl rfl rfl (fun a' w' F' E' => o_loadA (M1.later E') (F'.ev rfl) (by repeat (first | exact .here | apply Has.there)) (by first | assumption | rfl) ⟨Ext.refl _ _, rfl⟩) ?_
              refine mKG hok rfl rfl rfl rfl (fun a' w' F' E' => o_eqlAT (F'.ev rfl) (F'.ev rfl) (by first | assumption | rfl) (by first | assumption | rfl) (by assumption) ⟨Ext.refl _ _, rfl⟩) ?_
              refine mK hok rfl rfl (fun a' w' F' E' => o_pickT (F'.ev rfl) (F'.ev rfl) ⟨Ext.refl _ _, rfl⟩) ?_
              (refine mDone rfl rfl ?_; clear F; clear M; intro a w F hE2 hX hTT hDD hPP; have M := M1.later hE2; clear M1; clear hX; clear hE2; clear hok; clear hE; clear hTT; clear hDD; clear hPP; (try dsimp only at F))
              with_reducible refine l_nil ?_
              exact ⟨F.only [121, 15, 12, 4, 6, 7, 8, 10, 11] rfl, M⟩
      clear F M
      rintro a w ⟨F, M⟩
      clear hsm q1 q2 g3 g4 g5 g6 hN hk
      cases same
      case true =>
        with_reducible refine q_then ?_
        refine c_true F rfl rfl ?_
        with_reducible refine c_seq ?_
        with_reducible refine c_region ?_
        refine stepD rfl F rfl (o_move (F.ev rfl) ?_); clear F; clear a; intro a F
        (refine stepD rfl F rfl (o_makeFunc (F.evs (xs := []) rfl) (F.evs (xs := [.tmp 8]) rfl) ?_); clear F; clear a; intro a F)
        have hcl : ∀ w' (e : InsV), Ext [] w w' → e ∈ y :: ys → Cal Tryz.prog 110 [.agg (inC e).toArray, .pointer (some ⟨b8, 0, none⟩)].toArray w' fun v w'' => v = .bool (decide (e.to = mark)) ∧ Ext [] w' w'' := fun w' e E he =>
          lookup1_c e (hnI e he) mark hmk w' ((M.later E).heap (by repeat (first | exact .here | apply Has.there)))
        have hSl : SlAt w 40 (.slice (some ⟨bN, 0, none⟩) n cN) (y :: ys).length (insC (y :: ys)) := by rw [← hn]; exact hO.slAt M (fun p hp => by simp at hp; simp [hp])
        (refine stepD rfl F rfl (o_call (F.ev rfl) (F.evs rfl) (Cal.mono (indexI_c _ hSl hnI (by omega) 110 [.pointer (some ⟨b8, 0, none⟩)] (fun e => decide (e.to = mark)) hcl) ?_)); clear F; clear a; rintro _ w ⟨rfl, hE⟩ a F; replace M := M.later hE; clear hE hcl hSl)
        rw [if_pos rfl] at hlk
        rcases findI_find (p := fun e : InsV => decide (e.to = mark)) (ls := y :: ys) with ⟨h1, h2⟩ | ⟨i, hi, h1, h2⟩
        · rw [h1] at F
          rw [h2] at hlk
          rw [hlk]
          refine stepD rfl F rfl (o_assign (F.ev rfl) ?_); clear F; clear a; intro a F
          with_reducible refine l_nil ?_
          with_reducible refine q_then ?_
          with_reducible refine c_seq ?_
          with_reducible refine c_seq ?_
          with_reducible refine c_region ?_
          refine stepD rfl F rfl (o_move (F.ev rfl) ?_); clear F; clear a; intro a F
          refine stepD rfl F rfl (o_lssT (F.ev rfl) (F.ev rfl) (by omega) ?_); clear F; clear a; intro a F
          with_reducible refine l_nil ?_
          with_reducible refine q_then ?_
          refine c_true F rfl rfl ?_
          with_reducible refine c_seq ?_
          with_reducible refine c_region ?_
          refine stepD rfl F rfl (o_build F rfl rfl ?_); clear F; clear a; intro a F
          (refine stepN rfl F (o_storeA M (F.ev rfl) (F.ev rfl) (rfl) (rfl)  (by repeat (first | exact .here | apply Has.there))  (rfl) (by repeat (first | exact .here | apply Upd.there)) ?_); clear F; clear M; intro w M a F)
          refine stepD rfl F rfl (o_assign (F.ev rfl) ?_); clear F; clear a; intro a F
          with_reducible refine l_nil ?_
          with_reducible refine q_then ?_
          with_reducible refine c_ret ?_
          with_reducible refine q_thenR ?_
          with_reducible refine q_thenR ?_
          exact p_ret F rfl (.cons (.cell (F.ev rfl) (run_loadVar_agg TAgg.h (M.heap (by repeat (first | exact .here | apply Has.there))) rfl)) (.cons (.tmp (F.ev rfl)) .nil)) ⟨rfl, M.ext⟩
        · rw [h1] at F
          rw [h2] at hlk
          have gi : seg (insC (y :: ys) ++ junk) (0 + (i : Int).toNat * 40) 40 = some (inC (y :: ys)[i]) := own_el hsz junk hi (by omega)
          have cI := hnI _ (List.getElem_mem hi)
          obtain ⟨c, hc⟩ : ∃ c, c = (y :: ys)[i] := ⟨_, rfl⟩
          rw [← hc] at gi cI hlk
          rw [← hn] at hi
          dsimp only at hlk
          refine stepD rfl F rfl (o_assign (F.ev rfl) ?_); clear F; clear a; intro a F
          with_reducible refine l_nil ?_
          with_reducible refine q_then ?_
          with_reducible refine c_seq ?_
          with_reducible refine c_seq ?_
          with_reducible refine c_region ?_
          refine stepD rfl F rfl (o_move (F.ev rfl) ?_); clear F; clear a; intro a F
          refine stepD rfl F rfl (o_lssF (F.ev rfl) (F.ev rfl) (by omega) ?_); clear F; clear a; intro a F
          with_reducible refine l_nil ?_
          with_reducible refine q_then ?_
          refine c_false F rfl rfl ?_
          with_reducible refine c_skip ?_
          with_reducible refine q_then ?_
          with_reducible refine c_region ?_
          refine stepD rfl F rfl (o_move (F.ev rfl) ?_); clear F; clear a; intro a F
          refine stepD rfl F rfl (o_move (F.ev rfl) ?_); clear F; clear a; intro a F
          refine stepD rfl F rfl (o_indexSl (F.ev rfl) (F.ev rfl) (by omega) (by omega) ?_); clear F; clear a; intro a F
          refine stepD rfl F rfl (o_loadA M (F.ev rfl) (by repeat (first | exact .here | apply Has.there)) (by first | assumption | rfl) ?_); clear F; clear a; intro a F
          (refine stepN rfl F (o_storeA M (F.ev rfl) (F.ev rfl) (in_len cI) (in_one c)  (by repeat (first | exact .here | apply Has.there))  (put_all (by rw [in_len cI, y1])) (by repeat (first | exact .here | apply Upd.there)) ?_); clear F; clear M; intro w M a F)
          have c1 := in_all cI
          have c2 := rtreach_c (c) cI
          with_reducible refine l_nil ?_
          with_reducible refine q_then ?_
          with_reducible refine c_seq ?_
          with_reducible refine c_seq ?_
          with_reducible refine c_region ?_
          refine stepD rfl F rfl (o_loadA M (F.ev rfl) (by repeat (first | exact .here | apply Has.there)) (by first | assumption | rfl) ?_); clear F; clear a; intro a F
          (refine stepD rfl F rfl (o_call (F.ev rfl) (F.evs rfl) (Cal.mono (c2 _) ?_)); clear F; clear a; rintro _ w ⟨rfl, hE⟩ a F; replace M := M.later hE; clear hE)
          by_cases k9 : (c).nb = 0
          · rw [hlk, if_pos k9]
            rw [decide_eq_true k9] at F
            refine stepD rfl F rfl (o_not (F.ev rfl) ?_); clear F; clear a; intro a F
            with_reducible refine l_nil ?_
            with_reducible refine q_then ?_
            refine c_true F rfl rfl ?_
            with_reducible refine c_seq ?_
            with_reducible refine c_region ?_
            refine stepD rfl F rfl (o_build F rfl rfl ?_); clear F; clear a; intro a F
            (refine stepN rfl F (o_storeA M (F.ev rfl) (F.ev rfl) (rfl) (rfl)  (by repeat (first | exact .here | apply Has.there))  (rfl) (by repeat (first | exact .here | apply Upd.there)) ?_); clear F; clear M; intro w M a F)
            refine stepD rfl F rfl (o_assign (F.ev rfl) ?_); clear F; clear a; intro a F
            with_reducible refine l_nil ?_
            with_reducible refine q_then ?_
            with_reducible refine c_ret ?_
            with_reducible refine q_thenR ?_
            exact p_ret F rfl (.cons (.cell (F.ev rfl) (run_loadVar_agg TAgg.h (M.heap (by repeat (first | exact .here | apply Has.there))) rfl)) (.cons (.tmp (F.ev rfl)) .nil)) ⟨rfl, M.ext⟩
          · rw [hlk, if_neg k9]
            rw [decide_eq_false k9] at F
            refine stepD rfl F rfl (o_not (F.ev rfl) ?_); clear F; clear a; intro a F
            with_reducible refine l_nil ?_
            with_reducible refine q_then ?_
            refine c_false F rfl rfl ?_
            with_reducible refine c_skip ?_
            with_reducible refine q_then ?_
            with_reducible refine c_seq ?_
            with_reducible refine c_region ?_
            refine stepD rfl F rfl (o_loadA M (F.ev rfl) (by repeat (first | exact .here | apply Has.there)) (by first | assumption | rfl) ?_); clear F; clear a; intro a F
            (refine stepN rfl F (o_storeA M (F.ev rfl) (F.ev rfl) (in_len cI) (in_one _)  (by repeat (first | exact .here | apply Has.there))  (put_all (by rw [in_len cI]; rfl)) (by repeat (first | exact .here | apply Upd.there)) ?_); clear F; clear M; intro w M a F)
            refine stepD rfl F rfl (o_assign (F.ev rfl) ?_); clear F; clear a; intro a F
            with_reducible refine l_nil ?_
            with_reducible refine q_then ?_
            with_reducible refine c_ret ?_
            exact p_ret F rfl (.cons (.cell (F.ev rfl) (run_loadVar_agg TAgg.h (M.heap (by repeat (first | exact .here | apply Has.there))) (in_all cI))) (.cons (.tmp (F.ev rfl)) .nil)) ⟨rfl, M.ext⟩
      case false =>
        rw [if_neg (by simp)] at hlk
        dsimp only at hlk
        with_reducible refine q_then ?_
        refine c_false F rfl rfl ?_
        with_reducible refine c_seq ?_
        with_reducible refine c_region ?_
        refine stepD rfl F rfl (o_move (F.ev rfl) ?_); clear F; clear a; intro a F
        refine stepD rfl F rfl (o_lenSl (F.ev rfl) ?_); clear F; clear a; intro a F
        refine stepD rfl F rfl (o_move (F.ev rfl) ?_); clear F; clear a; intro a F
        with_reducible refine l_nil ?_
        with_reducible refine q_then ?_
        with_reducible refine c_block ?_
        refine c_loop (fun m a w => ∃ i : Nat, m = n - i ∧ i ≤ n ∧ Frm a 152 [] [(134, .int .i64 i), (133, .int .i64 n), (132, .slice (some ⟨bN, 0, none⟩) n cN), (15, .pointer (some ⟨b15, 0, none⟩)), (4, .bool marked), (6, .pointer (some ⟨b6, 0, none⟩)), (7, .pointer (some ⟨b7, 0, none⟩)), (8, .pointer (some ⟨b8, 0, none⟩)), (10, .pointer (some ⟨b10, 0, none⟩)), (11, .int .i64 0)] ∧ Mem [] W w ((b15, .cells (inC (cheap ((y :: ys).take i) y)).toArray 50 (0, 0)) :: (bN, .cells (insC (y :: ys) ++ junk).toArray 50 (0, 0)) :: (b10, .cells inZ.toArray 50 (0, 0)) :: (b8, .cells (dvC mark).toArray 45 (0, 0)) :: (b7, .cells (ipC dst).toArray 39 (0, 0)) :: (b6, .cells (ipC src).toArray 39 (0, 0)) :: [])) n ⟨0, rfl, by omega, F.only [134, 133, 132, 15, 4, 6, 7, 8, 10, 11] rfl, M⟩ ?_
        clear F M
        rintro m a w ⟨i, hm', hi, F, M⟩
        have cI : IsIn (cheap ((y :: ys).take i) y) := cheap_p (fun x hx => hnI x (List.mem_of_mem_take hx)) hyv
        by_cases hlt2 : i < n
        · have hil : i < (y :: ys).length := by omega
          have gi : seg (insC (y :: ys) ++ junk) (0 + (i : Int).toNat * 40) 40 = some (inC (y :: ys)[i]) := own_el hsz junk hil (by omega)
          have xI := hnI _ (List.getElem_mem hil)
          have hch := cheap_step (y := y) hil
          obtain ⟨x, hx0⟩ : ∃ x, x = (y :: ys)[i] := ⟨_, rfl⟩
          obtain ⟨c, hc⟩ : ∃ c, c = cheap ((y :: ys).take i) y := ⟨_, rfl⟩
          rw [← hx0] at gi xI hch
          rw [← hc] at hch cI M
          have x1 := in_len xI
          have x2 := in_own_met xI
          have x3 := in_own_met cI
          have x4 := in_all xI
          with_reducible refine c_seq ?_
          with_reducible refine c_region ?_
          refine stepD rfl F rfl (o_lssT (F.ev rfl) (F.ev rfl) (by omega) ?_); clear F; clear a; intro a F
          with_reducible refine l_nil ?_
          with_reducible refine q_then ?_
          with_reducible refine c_seq ?_
          refine c_true F rfl rfl ?_
          with_reducible refine c_skip ?_
          with_reducible refine q_then ?_
          with_reducible refine c_seq ?_
          with_reducible refine c_block ?_
          with_reducible refine c_seq ?_
          with_reducible refine c_region ?_
          refine stepD rfl F rfl (o_indexSl (F.ev rfl) (F.ev rfl) (by omega) (by omega) ?_); clear F; clear a; intro a F
          refine stepD rfl F rfl (o_loadA M (F.ev rfl) (by repeat (first | exact .here | apply Has.there)) (by first | assumption | rfl) ?_); clear F; clear a; intro a F
          (refine stepD rfl F rfl (o_alloc M ?_); clear F; clear M; intro b18 w M a F)
          (refine stepN rfl F (o_storeA M (F.ev rfl) (F.ev rfl) (x1) (in_one x)  (by repeat (first | exact .here | apply Has.there))  (put_all (by rw [x1]; rfl)) (by repeat (first | exact .here | apply Upd.there)) ?_); clear F; clear M; intro w M a F)
          by_cases k5 : x.own.met < c.own.met
          · rw [if_pos k5] at hch
            with_reducible refine l_nil ?_
            with_reducible refine q_then ?_
            with_reducible refine c_seq ?_
            with_reducible refine c_region ?_
            refine stepD rfl F rfl (o_fieldAddr (F.ev rfl) ?_); clear F; clear a; intro a F
            refine stepD rfl F rfl (o_fieldAddr (F.ev rfl) ?_); clear F; clear a; intro a F
            refine stepD rfl F rfl (o_load1 M (F.ev rfl) (by repeat (first | exact .here | apply Has.there)) (by first | assumption | rfl) ?_); clear F; clear a; intro a F
            refine stepD rfl F rfl (o_fieldAddr (F.ev rfl) ?_); clear F; clear a; intro a F
            refine stepD rfl F rfl (o_fieldAddr (F.ev rfl) ?_); clear F; clear a; intro a F
            refine stepD rfl F rfl (o_load1 M (F.ev rfl) (by repeat (first | exact .here | apply Has.there)) (by first | assumption | rfl) ?_); clear F; clear a; intro a F
            refine stepD rfl F rfl (o_lssT (F.ev rfl) (F.ev rfl) (by omega) ?_); clear F; clear a; intro a F
            with_reducible refine l_nil ?_
            with_reducible refine q_then ?_
            refine c_true F rfl rfl ?_
            with_reducible refine c_region ?_
            refine stepD rfl F rfl (o_loadA M (F.ev rfl) (by repeat (first | exact .here | apply Has.there)) (by first | assumption | rfl) ?_); clear F; clear a; intro a F
            (refine stepN rfl F (o_storeA M (F.ev rfl) (F.ev rfl) (x1) (in_one x)  (by repeat (first | exact .here | apply Has.there))  (put_all (by rw [x1, in_len cI])) (by repeat (first | exact .here | apply Upd.there)) ?_); clear F; clear M; intro w M a F)
            with_reducible refine l_nil ?_
            with_reducible refine q_inB ?_
            with_reducible refine q_then ?_
            with_reducible refine c_region ?_
            refine stepD rfl F rfl (o_add (F.ev rfl) (F.ev rfl) (w_i64 (by omega) (by omega)) ?_); clear F; clear a; intro a F
            refine stepD rfl F rfl (o_move (F.ev rfl) ?_); clear F; clear a; intro a F
            with_reducible refine l_nil ?_
            with_reducible refine q_then ?_
            exact ⟨_, by omega, i + 1, rfl, by omega, F.only [134, 133, 132, 15, 4, 6, 7, 8, 10, 11] rfl, by rw [hch]; exact M.sub (List.sublist_cons_self _ _)⟩
          · rw [if_neg k5] at hch
            with_reducible refine l_nil ?_
            with_reducible refine q_then ?_
            with_reducible refine c_seq ?_
            with_reducible refine c_region ?_
            refine stepD rfl F rfl (o_fieldAddr (F.ev rfl) ?_); clear F; clear a; intro a F
            refine stepD rfl F rfl (o_fieldAddr (F.ev rfl) ?_); clear F; clear a; intro a F
            refine stepD rfl F rfl (o_load1 M (F.ev rfl) (by repeat (first | exact .here | apply Has.there)) (by first | assumption | rfl) ?_); clear F; clear a; intro a F
            refine stepD rfl F rfl (o_fieldAddr (F.ev rfl) ?_); clear F; clear a; intro a F
            refine stepD rfl F rfl (o_fieldAddr (F.ev rfl) ?_); clear F; clear a; intro a F
            refine stepD rfl F rfl (o_load1 M (F.ev rfl) (by repeat (first | exact .here | apply Has.there)) (by first | assumption | rfl) ?_); clear F; clear a; intro a F
            refine stepD rfl F rfl (o_lssF (F.ev rfl) (F.ev rfl) (by omega) ?_); clear F; clear a; intro a F
            with_reducible refine l_nil ?_
            with_reducible refine q_then ?_
            refine c_false F rfl rfl ?_
            with_reducible refine c_skip ?_
            with_reducible refine q_inB ?_
            with_reducible refine q_then ?_
            with_reducible refine c_region ?_
            refine stepD rfl F rfl (o_add (F.ev rfl) (F.ev rfl) (w_i64 (by omega) (by omega)) ?_); clear F; clear a; intro a F
            refine stepD rfl F rfl (o_move (F.ev rfl) ?_); clear F; clear a; intro a F
            with_reducible refine l_nil ?_
            with_reducible refine q_then ?_
            exact ⟨_, by omega, i + 1, rfl, by omega, F.only [134, 133, 132, 15, 4, 6, 7, 8, 10, 11] rfl, by rw [hch]; exact M.sub (List.sublist_cons_self _ _)⟩
        · obtain rfl : i = n := by omega
          rw [hn, List.take_length] at M cI
          obtain ⟨c, hc⟩ : ∃ c, c = cheap (y :: ys) y := ⟨_, rfl⟩
          rw [← hc] at M cI hlk
          have c1 := in_all cI
          have c2 := rtreach_c (c) cI
          with_reducible refine c_seq ?_
          with_reducible refine c_region ?_
          refine stepD rfl F rfl (o_lssF (F.ev rfl) (F.ev rfl) (by omega) ?_); clear F; clear a; intro a F
          with_reducible refine l_nil ?_
          with_reducible refine q_then ?_
          with_reducible refine c_seq ?_
          refine c_false F rfl rfl ?_
          with_reducible refine c_exit ?_
          with_reducible refine q_thenX ?_
          with_reducible refine q_thenX ?_
          with_reducible refine q_inBX ?_
          with_reducible refine q_then ?_
          with_reducible refine c_seq ?_
          with_reducible refine c_seq ?_
          with_reducible refine c_region ?_
          refine stepD rfl F rfl (o_loadA M (F.ev rfl) (by repeat (first | exact .here | apply Has.there)) (by first | assumption | rfl) ?_); clear F; clear a; intro a F
          (refine stepD rfl F rfl (o_call (F.ev rfl) (F.evs rfl) (Cal.mono (c2 _) ?_)); clear F; clear a; rintro _ w ⟨rfl, hE⟩ a F; replace M := M.later hE; clear hE)
          by_cases k9 : (c).nb = 0
          · rw [hlk, if_pos k9]
            rw [decide_eq_true k9] at F
            refine stepD rfl F rfl (o_not (F.ev rfl) ?_); clear F; clear a; intro a F
            with_reducible refine l_nil ?_
            with_reducible refine q_then ?_
            refine c_true F rfl rfl ?_
            with_reducible refine c_seq ?_
            with_reducible refine c_region ?_
            refine stepD rfl F rfl (o_build F rfl rfl ?_); clear F; clear a; intro a F
            (refine stepN rfl F (o_storeA M (F.ev rfl) (F.ev rfl) (rfl) (rfl)  (by repeat (first | exact .here | apply Has.there))  (rfl) (by repeat (first | exact .here | apply Upd.there)) ?_); clear F; clear M; intro w M a F)
            refine stepD rfl F rfl (o_assign (F.ev rfl) ?_); clear F; clear a; intro a F
            with_reducible refine l_nil ?_
            with_reducible refine q_then ?_
            with_reducible refine c_ret ?_
            with_reducible refine q_thenR ?_
            exact p_ret F rfl (.cons (.cell (F.ev rfl) (run_loadVar_agg TAgg.h (M.heap (by repeat (first | exact .here | apply Has.there))) rfl)) (.cons (.tmp (F.ev rfl)) .nil)) ⟨rfl, M.ext⟩
          · rw [hlk, if_neg k9]
            rw [decide_eq_false k9] at F
            refine stepD rfl F rfl (o_not (F.ev rfl) ?_); clear F; clear a; intro a F
            with_reducible refine l_nil ?_
            with_reducible refine q_then ?_
            refine c_false F rfl rfl ?_
            with_reducible refine c_skip ?_
            with_reducible refine q_then ?_
            with_reducible refine c_seq ?_
            with_reducible refine c_region ?_
            refine stepD rfl F rfl (o_loadA M (F.ev rfl) (by repeat (first | exact .here | apply Has.there)) (by first | assumption | rfl) ?_); clear F; clear a; intro a F
            (refine stepN rfl F (o_storeA M (F.ev rfl) (F.ev rfl) (in_len cI) (in_one _)  (by repeat (first | exact .here | apply Has.there))  (put_all (by rw [in_len cI]; rfl)) (by repeat (first | exact .here | apply Upd.there)) ?_); clear F; clear M; intro w M a F)
            refine stepD rfl F rfl (o_assign (F.ev rfl) ?_); clear F; clear a; intro a F
            with_reducible refine l_nil ?_
            with_reducible refine q_then ?_
            with_reducible refine c_ret ?_
            exact p_ret F rfl (.cons (.cell (F.ev rfl) (run_loadVar_agg TAgg.h (M.heap (by repeat (first | exact .here | apply Has.there))) (in_all cI))) (.cons (.tmp (F.ev rfl)) .nil)) ⟨rfl, M.ext⟩
end Go.Proofs.YtilgoepokaaleaaGreat
/-! ZC -/
namespace Go.Proofs.YtilgoepokaaleaaGreat
set_option linter.unusedVariables false
set_option linter.unusedSimpArgs false
open Go.RowKit
section
variable {now : Int} {s : List SrcV} {cm : List (Int × Int)} {t : DstV} {l : List RouV}
theorem toR_take {r : Nat} (h : r < l.length) (he : l[r].to = t) : (l.take (r + 1)).filter (fun r => decide (r.to = t)) = (l.take r).filter (fun r => decide (r.to = t)) ++ [l[r]] := by
  rw [List.take_add_one, List.getElem?_eq_getElem h, List.filter_append]
  simp [he]
theorem optsV_step {r : Nat} (h : r < l.length) (he : l[r].to = t) : optsV now s cm t (l.take (r + 1)) = optsV now s cm t (l.take r) ++ (optV now s cm t l[r]).toList := by
  unfold optsV
  rw [toR_take h he, List.filterMap_append]
  cases ho : optV now s cm t l[r] <;> simp [List.filterMap_cons, ho]
theorem saidV_step {r : Nat} (h : r < l.length) (he : l[r].to = t) : saidV now s cm t (l.take (r + 1)) = if (optV now s cm t l[r]).isSome then putA l[r].nb l[r].said (saidV now s cm t (l.take r)) else saidV now s cm t (l.take r) := by
  unfold saidV
  rw [toR_take h he, List.filter_append, List.foldl_append]
  cases ho : (optV now s cm t l[r]).isSome <;> simp [List.filter_cons, ho]
theorem toR_none {r : Nat} (h : ∀ j (hj : j < l.length), r ≤ j → l[j].to ≠ t) : l.filter (fun r => decide (r.to = t)) = (l.take r).filter (fun r => decide (r.to = t)) := by
  have h2 : (l.drop r).filter (fun r => decide (r.to = t)) = [] := filter_no fun a ha => by
    obtain ⟨j, hj, rfl⟩ := List.mem_iff_getElem.1 ha
    rw [List.length_drop] at hj
    rw [List.getElem_drop]
    exact decide_eq_false (h (r + j) (by omega) (by omega))
  conv => lhs; rw [← List.take_append_drop r l]
  rw [List.filter_append, h2, List.append_nil]
theorem toR_nil {r : Nat} (h : ∀ j (hj : j < l.length), j < r → l[j].to ≠ t) : (l.take r).filter (fun r => decide (r.to = t)) = [] := filter_no fun a ha => by
  obtain ⟨j, hj, rfl⟩ := List.mem_iff_getElem.1 ha
  rw [List.length_take] at hj
  rw [List.getElem_take]
  exact decide_eq_false (h j (by omega) (by omega))
theorem optsV_all {r : Nat} (h : ∀ j (hj : j < l.length), r ≤ j → l[j].to ≠ t) : optsV now s cm t l = optsV now s cm t (l.take r) := by
  unfold optsV; rw [toR_none h]
theorem saidV_all {r : Nat} (h : ∀ j (hj : j < l.length), r ≤ j → l[j].to ≠ t) : saidV now s cm t l = saidV now s cm t (l.take r) := by
  unfold saidV; rw [toR_none h]
theorem optsV_nil {r : Nat} (h : ∀ j (hj : j < l.length), j < r → l[j].to ≠ t) : optsV now s cm t (l.take r) = [] := by
  unfold optsV; rw [toR_nil h]; rfl
theorem saidV_nil {r : Nat} (h : ∀ j (hj : j < l.length), j < r → l[j].to ≠ t) : saidV now s cm t (l.take r) = [] := by
  unfold saidV; rw [toR_nil h]; rfl
end
/-! the places in the two lists -/
/-- from r on, a list's destinations are still to come; before, they are gone -/
structure Yet {α : Type} (to : α → DstV) (l : List α) (ds : List DstV) (r : Nat) : Prop where
  le : r ≤ l.length
  gone : ∀ j (hj : j < l.length), j < r → to l[j] ∉ ds
  yet : ∀ j (hj : j < l.length), r ≤ j → to l[j] ∈ ds
/-- the destinations do not fall -/
abbrev Weak {α : Type} (to : α → DstV) (l : List α) : Prop := l.Pairwise fun a b => ¬ cmpD (to b) (to a) < 0
theorem Yet.next {α : Type} {to : α → DstV} {l : List α} {t : DstV} {ds : List DstV} {r r1 : Nat} (hW : Weak to l) (hd : AscD (t :: ds)) (hi : ∀ x ∈ t :: ds, IsDv x) (h : Yet to l (t :: ds) r) (hr : r ≤ r1) (hle : r1 ≤ l.length) (he : ∀ j (hj : j < l.length), r ≤ j → j < r1 → to l[j] = t) (hn : ∀ hj : r1 < l.length, to l[r1] ≠ t) : Yet to l ds r1 ∧ ∀ j (hj : j < l.length), r1 ≤ j → to l[j] ≠ t := by
  have hd1 := List.pairwise_cons.1 hd
  have htn : t ∉ ds := fun h => by have := hd1.1 t h; rw [cmpD_self] at this; omega
  have key : ∀ j (hj : j < l.length), r1 ≤ j → to l[j] ≠ t := by
    intro j hj h1 e
    have hr1 : r1 < l.length := by omega
    have h2 := h.yet r1 hr1 hr
    have h3 : cmpD t (to l[r1]) < 0 := by
      rcases List.mem_cons.1 h2 with h4 | h4
      · exact absurd h4 (hn hr1)
      · exact hd1.1 _ h4
    rcases Nat.lt_or_ge r1 j with h5 | h5
    · have := (List.pairwise_iff_getElem.1 hW) r1 j hr1 hj h5
      rw [e] at this
      exact this h3
    · obtain rfl : j = r1 := by omega
      exact hn hj e
  refine ⟨⟨hle, fun j hj h1 h2 => ?_, fun j hj h1 => ?_⟩, key⟩
  · rcases Nat.lt_or_ge j r with h3 | h3
    · exact h.gone j hj h3 (List.mem_cons_of_mem _ h2)
    · rw [he j hj h3 h1] at h2
      exact htn h2
  · rcases List.mem_cons.1 (h.yet j hj (by omega)) with h2 | h2
    · exact absurd h2 (key j hj h1)
    · exact h2
theorem Yet.before {α : Type} {to : α → DstV} {l : List α} {t : DstV} {ds : List DstV} {r : Nat} (h : Yet to l (t :: ds) r) : ∀ j (hj : j < l.length), j < r → to l[j] ≠ t := fun j hj h1 e => h.gone j hj h1 (by rw [e]; simp)
theorem weak_R {l : List RouV} (hi : ∀ x ∈ l, IsRo x) (h : AscC cmpR l) : Weak RouV.to l := by
  refine List.Pairwise.imp_of_mem ?_ h
  intro a b ha hb h1 h2
  rw [cmpR_or (hi a ha).1 (hi b hb).1, orI] at h1
  have h3 := cmpD_anti a.to b.to
  split at h1
  · omega
  · omega
theorem weak_N {l : List InsV} (h : AscC cmpN l) : Weak InsV.to l := by
  refine h.imp ?_
  intro a b h1 h2
  have h3 := cmpD_anti a.to b.to
  unfold cmpN at h1
  omega
/-! the old element -/
theorem oldV_at {old : List InsV} {t : DstV} {i : Nat} (h : i < old.length) (he : old[i].to = t) (hb : ∀ j (hj : j < old.length), j < i → old[j].to ≠ t) : oldV old t = some old[i] :=
  find_at h (decide_eq_true he) fun j hj h1 => decide_eq_false (hb j hj h1)
theorem oldV_no {old : List InsV} {t : DstV} (hb : ∀ j (hj : j < old.length), old[j].to ≠ t) : oldV old t = none := find_no fun j hj => decide_eq_false (hb j hj)
/-! the costs -/
theorem costM_step {l : List OptV} {i : Nat} (h : i < l.length) : costM (l.take (i + 1)) = putA l[i].nb (lkC l[i].cost) (costM (l.take i)) := by
  unfold costM
  rw [List.take_add_one, List.getElem?_eq_getElem h, List.foldl_append]
  rfl
theorem costM_mem {l : List OptV} {x c : Int} (h : getA x (costM l) = some c) : ∃ o ∈ l, o.nb = x ∧ c = lkC o.cost := by
  have key : ∀ (l : List OptV) (m : List (Int × Int)), getA x (l.foldl (fun m o => putA o.nb (lkC o.cost) m) m) = some c → (∃ o ∈ l, o.nb = x ∧ c = lkC o.cost) ∨ getA x m = some c := by
    intro l
    induction l with
    | nil => intro m h; exact .inr h
    | cons o l ih =>
      intro m h
      rw [List.foldl_cons] at h
      rcases ih _ h with ⟨o', h1, h2⟩ | h1
      · exact .inl ⟨o', List.mem_cons_of_mem _ h1, h2⟩
      · rw [getA_put] at h1
        split at h1
        · rename_i e
          exact .inl ⟨o, by simp, e.symm, by cases h1; rfl⟩
        · exact .inr h1
  rcases key l [] h with h | h
  · exact h
  · simp [getA] at h
theorem nodup_le : ∀ {xs ys : List Int}, xs.Nodup → (∀ x ∈ xs, x ∈ ys) → xs.length ≤ ys.length
  | [], _, _, _ => by simp
  | x :: xs, ys, hn, hs => by
    have h1 := List.nodup_cons.1 hn
    have hx := hs x (by simp)
    have h2 : xs.length ≤ (ys.erase x).length := nodup_le h1.2 fun y hy => (List.mem_erase_of_ne (fun e => h1.1 (by rw [← e]; exact hy))).2 (hs y (List.mem_cons_of_mem _ hy))
    rw [List.length_erase_of_mem hx] at h2
    have : 0 < ys.length := List.length_pos_of_mem hx
    simp only [List.length_cons]
    omega
theorem addM_valid (a b : Int) : validM (addM a b) = true := by
  unfold addM
  split
  · rename_i h
    unfold validM at h ⊢
    simp only [Bool.and_eq_true, decide_eq_true_eq] at h
    unfold inf
    simp only [Bool.and_eq_true, decide_eq_true_eq]
    omega
  · rfl
theorem optV_some {now : Int} {s : List SrcV} {cm : List (Int × Int)} {t : DstV} {r : RouV} {o : OptV} (h : optV now s cm t r = some o) : o.nb = r.nb ∧ ∃ c, getA r.nb cm = some c ∧ o.cost = addM r.said.met c := by
  unfold optV at h
  cases hc : getA r.nb cm with
  | none => rw [hc] at h; cases h
  | some c =>
    rw [hc] at h
    dsimp only at h
    split at h
    · cases h
    · cases h
      exact ⟨rfl, c, rfl, rfl⟩
theorem opts_valid {now : Int} {s : List SrcV} {links : List OptV} {t : DstV} {l : List RouV} (hi : ∀ x ∈ l, IsRo x) (hl : validRs l = true) (hk : links.length ≤ 16) : validOs (optsV now s (costM links) t l) = true := by
  obtain ⟨_, h2, h3⟩ := validRs_iff.1 hl
  have hasc : AscC cmpO (optsV now s (costM links) t l) := by
    unfold optsV
    refine List.Pairwise.filterMap _ ?_ ((List.Pairwise.filter (fun r => decide (r.to = t)) (List.Pairwise.imp_of_mem (S := fun a b => a.to = t → b.to = t → a.nb < b.nb) ?_ h3)).imp_of_mem (S := fun a b => a.nb < b.nb) ?_)
    · intro a a' h b hb b' hb'
      have e1 := (optV_some hb).1
      have e2 := (optV_some hb').1
      unfold cmpO
      rw [cmpI_lt, e1, e2]
      exact h
    · intro a b ha hb h1 ea eb
      rw [cmpR_or (hi a ha).1 (hi b hb).1, ea, eb, cmpD_self, orI, if_pos rfl, cmpI_lt] at h1
      exact h1
    · intro a b ha hb h1
      exact h1 (of_decide_eq_true (List.mem_filter.1 ha).2) (of_decide_eq_true (List.mem_filter.1 hb).2)
  refine validOs_iff.2 ⟨?_, fun o ho => ?_, hasc⟩
  · have h4 : ((optsV now s (costM links) t l).map (·.nb)).Nodup := by
      rw [List.Nodup, List.pairwise_map]
      refine hasc.imp ?_
      intro a b h e
      unfold cmpO at h
      rw [cmpI_lt] at h
      omega
    have h5 := nodup_le (ys := links.map (·.nb)) h4 fun x hx => by
      obtain ⟨o, ho, rfl⟩ := List.mem_map.1 hx
      obtain ⟨r, _, hr⟩ := List.mem_filterMap.1 ho
      obtain ⟨e1, c, hc, _⟩ := optV_some hr
      obtain ⟨k, hk1, hk2, _⟩ := costM_mem hc
      rw [e1, ← hk2]
      exact List.mem_map_of_mem hk1
    simp only [List.length_map] at h5
    omega
  · obtain ⟨r, hr1, hr⟩ := List.mem_filterMap.1 ho
    obtain ⟨e1, c, hc, e2⟩ := optV_some hr
    have h6 := h2 r (List.mem_filter.1 hr1).1
    simp only [rou1, Bool.and_eq_true] at h6
    unfold opt1
    rw [e1, e2, addM_valid, h6.1.1.2]
    rfl
end Go.Proofs.YtilgoepokaaleaaGreat
/-! ZD -/
namespace Go.Proofs.YtilgoepokaaleaaGreat
set_option linter.unusedVariables false
set_option linter.unusedSimpArgs false
open Go.RowKit
attribute [local irreducible] OpTo wpListIn Code.wpIn MW Cal
def selectV (now : Int) (l : List RouV) (s : List SrcV) (links : List OptV) (old : List InsV) : List InsV × Int :=
  if !validRs l || !validSs s || !validOs links || !validIs old then ([], 1) else if !isTime now then ([], 2)
  else if 512 < (selV now l s links old).length then ([], 10) else (selV now l s links old, 0)
def mapI (m : List (Int × Int)) : List (Int × Value) := m.map fun p => (p.1, Value.int .i64 p.2)
theorem zero_iR : zeroIs Tryz.prog 3 (.int .i64 0) := by
  unfold zeroIs
  kernel_rfl
theorem getA_mapI (x : Int) (m : List (Int × Int)) : getA x (mapI m) = (getA x m).map (Value.int .i64) := getA_map _ x m
theorem nodupD_le : ∀ {xs ys : List DstV}, AscD xs → (∀ x ∈ xs, x ∈ ys) → xs.length ≤ ys.length
  | [], _, _, _ => by simp
  | x :: xs, ys, hn, hs => by
    have h1 := List.pairwise_cons.1 hn
    have hx := hs x (by simp)
    have h2 : xs.length ≤ (ys.erase x).length := nodupD_le h1.2 fun y hy => (List.mem_erase_of_ne (fun e => by have := h1.1 y hy; rw [e, cmpD_self] at this; omega)).2 (hs y (List.mem_cons_of_mem _ hy))
    rw [List.length_erase_of_mem hx] at h2
    have : 0 < ys.length := List.length_pos_of_mem hx
    simp only [List.length_cons]
    omega
theorem oldV_is {old : List InsV} (hy : ∀ x ∈ old, IsIn x) {t : DstV} {o : InsV} (h : oldV old t = some o) : IsIn o := hy o (List.mem_of_find?_eq_some h)
theorem selE_is {now : Int} {l : List RouV} {s : List SrcV} {cm : List (Int × Int)} {old : List InsV} {t : DstV} (ht : IsDv t) (hy : ∀ x ∈ old, IsIn x) {e : InsV} (h : selE now l s cm old t = some e) : IsIn e := by
  unfold selE aftV at h
  dsimp only at h
  split at h
  · cases h
    exact ⟨ht, trivial⟩
  · split at h
    · cases h
    · rename_i o ho
      split at h
      · cases h
        exact ⟨ht, trivial⟩
      · split at h
        · cases h
          exact oldV_is hy ho
        · cases h
theorem opts_len {now : Int} {s : List SrcV} {cm : List (Int × Int)} {t : DstV} {l : List RouV} {n : Nat} (h : l.length ≤ n) : (optsV now s cm t l).length ≤ n := by
  unfold optsV
  have h1 := List.length_filterMap_le (optV now s cm t) (l.filter fun r => decide (r.to = t))
  have h2 := List.length_filter_le (fun r => decide (r.to = t)) l
  omega
def PhO (o : OptV) (r : Value) (ent : List (Nat × Obj)) : Prop := ∃ b, r = .slice (some ⟨b, 0, none⟩) 1 1 ∧ ent = [(b, opO o)]
theorem bsO (o : OptV) {a : Act} {n t : Nat} {df : List Deferred} {fr : List (Nat × Value)} {w w1 : World} {d : Option Tmp} {ty : TypeId} {pos : String} {af : Array Edge} {g : Option (Nat × Bool)} (F : Frm a n df fr) (E : Ext [] w1 w) (ht : Ev fr (.tmp t) = some (.agg (opC o).toArray)) :
    OpTo Tryz.prog ⟨d, .buildSlice 30 1 [(0, .tmp t)].toArray, ty, pos, af, g⟩ a.eval w fun r w' => Ext [] w w' ∧ NewP w1.heap.size (PhO o) r w' := by
  have hev : evP fr [(0, .tmp t)] = some [(0, opC o)] := by simp only [evP, ht]
  refine o_buildSlice F (Mem.start [] w) hev rfl rfl (op_build1 (o := o) trivial) ?_
  intro b w' M
  exact newP_of E ⟨_, ⟨b, rfl, rfl⟩, M⟩
set_option maxHeartbeats 16000000 in
theorem select_c (now : Int) (l : List RouV) (hx : ∀ x ∈ l, IsRo x) (s : List SrcV) (hs' : ∀ x ∈ s, IsSr x) (links : List OptV) (old : List InsV) (hy : ∀ x ∈ old, IsIn x) (vl vs vk vo : Value) (W : World) (hSl : SlAt W 39 vl l.length (rosC l)) (hSs : SlAt W 38 vs s.length (srsC s)) (hSk : SlAt W 2 vk links.length (opsC links)) (hSo : SlAt W 40 vo old.length (insC old)) :
    Cal Tryz.prog 15 [.int .i64 now, vl, vs, vk, vo].toArray W fun r w' => ∃ u ent, r = .tuple [u, .int .i64 (selectV now l s links old).2].toArray ∧ OwnS 50 40 u (selectV now l s links old).1.length (insC (selectV now l s links old).1) ent ∧ Mem [] W w' ent := by
  have hk : ∀ x ∈ links, IsOp x := fun _ _ => trivial
  have hSl0 := hSl
  have hSk0 := hSk
  have hSo0 := hSo
  obtain ⟨q, cap, rfl, hcap, hsp, hl, hm⟩ := hSl
  obtain ⟨qk, capk, rfl, hcapk, hspk, hlk, hmk⟩ := hSk
  obtain ⟨qo, capo, rfl, hcapo, hspo, hlo, hmo⟩ := hSo
  refine fn_ofM (n := 190) [] Tryz.func15 rfl rfl rfl ?_
  intro a w F M hwW
  with_reducible refine c_seq ?_
  with_reducible refine c_region ?_
  refine stepD rfl F rfl (o_assign (F.ev rfl) ?_); clear F; clear a; intro a F
  refine stepD rfl F rfl (o_assign (F.ev rfl) ?_); clear F; clear a; intro a F
  with_reducible refine l_nil ?_
  with_reducible refine q_then ?_
  with_reducible refine c_seq ?_
  with_reducible refine c_seq ?_
  with_reducible refine c_region ?_
  refine stepD rfl F rfl (o_move (F.ev rfl) ?_); clear F; clear a; intro a F
  (refine stepD rfl F rfl (o_call (F.ev rfl) (F.evs rfl) (Cal.mono (rtvalid_c l hx _ _ (hSl0.later M.ext)) ?_)); clear F; clear a; rintro _ w ⟨rfl, hE⟩ a F; replace M := M.later hE; clear hE)
  cases c1 : validRs l
  · have hL : selectV now l s links old = ([], 1) := by unfold selectV; rw [c1]; rfl
    rw [hL]
    rw [c1] at F
    refine stepD rfl F rfl (o_not (F.ev rfl) ?_); clear F; clear a; intro a F
    refine stepD rfl F rfl (o_move (F.ev rfl) ?_); clear F; clear a; intro a F
    refine stepOff F rfl rfl rfl rfl ?_; clear F; clear a; intro a F
    refine stepOff F rfl rfl rfl rfl ?_; clear F; clear a; intro a F
    refine stepOff F rfl rfl rfl rfl ?_; clear F; clear a; intro a F
    refine stepD rfl F rfl (o_pickT (F.ev rfl) (F.ev rfl) ?_); clear F; clear a; intro a F
    refine stepD rfl F rfl (o_move (F.ev rfl) ?_); clear F; clear a; intro a F
    refine stepOff F rfl rfl rfl rfl ?_; clear F; clear a; intro a F
    refine stepOff F rfl rfl rfl rfl ?_; clear F; clear a; intro a F
    refine stepOff F rfl rfl rfl rfl ?_; clear F; clear a; intro a F
    refine stepD rfl F rfl (o_pickT (F.ev rfl) (F.ev rfl) ?_); clear F; clear a; intro a F
    refine stepD rfl F rfl (o_move (F.ev rfl) ?_); clear F; clear a; intro a F
    refine stepOff F rfl rfl rfl rfl ?_; clear F; clear a; intro a F
    refine stepOff F rfl rfl rfl rfl ?_; clear F; clear a; intro a F
    refine stepOff F rfl rfl rfl rfl ?_; clear F; clear a; intro a F
    refine stepD rfl F rfl (o_pickT (F.ev rfl) (F.ev rfl) ?_); clear F; clear a; intro a F
    with_reducible refine l_nil ?_
    with_reducible refine q_then ?_
    refine c_true F rfl rfl ?_
    with_reducible refine c_seq ?_
    with_reducible refine c_region ?_
    refine stepD rfl F rfl (o_assign (F.ev rfl) ?_); clear F; clear a; intro a F
    refine stepD rfl F rfl (o_assign (F.ev rfl) ?_); clear F; clear a; intro a F
    with_reducible refine l_nil ?_
    with_reducible refine q_then ?_
    with_reducible refine c_ret ?_
    with_reducible refine q_thenR ?_
    refine p_ret F rfl (.cons (.tmp (F.ev rfl)) (.cons (.tmp (F.ev rfl)) .nil)) ?_
    exact ⟨.slice none 0 0, [], rfl, OwnS.nil _ _, M⟩
  rw [c1] at F
  refine stepD rfl F rfl (o_not (F.ev rfl) ?_); clear F; clear a; intro a F
  refine stepD rfl F rfl (o_move (F.ev rfl) ?_); clear F; clear a; intro a F
  refine stepG rfl F rfl rfl rfl (o_move (F.ev rfl) ?_); clear F; clear a; intro a F
  (refine stepG rfl F rfl rfl rfl (o_call (F.ev rfl) (F.evs rfl) (Cal.mono (scvalid_c s hs' _ _ (hSs.later M.ext)) ?_)); clear F; clear a; rintro _ w ⟨rfl, hE⟩ a F; replace M := M.later hE; clear hE)
  cases c2 : validSs s
  · have hL : selectV now l s links old = ([], 1) := by unfold selectV; rw [c1, c2]; rfl
    rw [hL]
    rw [c2] at F
    refine stepG rfl F rfl rfl rfl (o_not (F.ev rfl) ?_); clear F; clear a; intro a F
    refine stepD rfl F rfl (o_pickF (F.ev rfl) (F.ev rfl) ?_); clear F; clear a; intro a F
    refine stepD rfl F rfl (o_move (F.ev rfl) ?_); clear F; clear a; intro a F
    refine stepOff F rfl rfl rfl rfl ?_; clear F; clear a; intro a F
    refine stepOff F rfl rfl rfl rfl ?_; clear F; clear a; intro a F
    refine stepOff F rfl rfl rfl rfl ?_; clear F; clear a; intro a F
    refine stepD rfl F rfl (o_pickT (F.ev rfl) (F.ev rfl) ?_); clear F; clear a; intro a F
    refine stepD rfl F rfl (o_move (F.ev rfl) ?_); clear F; clear a; intro a F
    refine stepOff F rfl rfl rfl rfl ?_; clear F; clear a; intro a F
    refine stepOff F rfl rfl rfl rfl ?_; clear F; clear a; intro a F
    refine stepOff F rfl rfl rfl rfl ?_; clear F; clear a; intro a F
    refine stepD rfl F rfl (o_pickT (F.ev rfl) (F.ev rfl) ?_); clear F; clear a; intro a F
    with_reducible refine l_nil ?_
    with_reducible refine q_then ?_
    refine c_true F rfl rfl ?_
    with_reducible refine c_seq ?_
    with_reducible refine c_region ?_
    refine stepD rfl F rfl (o_assign (F.ev rfl) ?_); clear F; clear a; intro a F
    refine stepD rfl F rfl (o_assign (F.ev rfl) ?_); clear F; clear a; intro a F
    with_reducible refine l_nil ?_
    with_reducible refine q_then ?_
    with_reducible refine c_ret ?_
    with_reducible refine q_thenR ?_
    refine p_ret F rfl (.cons (.tmp (F.ev rfl)) (.cons (.tmp (F.ev rfl)) .nil)) ?_
    exact ⟨.slice none 0 0, [], rfl, OwnS.nil _ _, M⟩
  rw [c2] at F
  refine stepG rfl F rfl rfl rfl (o_not (F.ev rfl) ?_); clear F; clear a; intro a F
  refine stepD rfl F rfl (o_pickF (F.ev rfl) (F.ev rfl) ?_); clear F; clear a; intro a F
  refine stepD rfl F rfl (o_move (F.ev rfl) ?_); clear F; clear a; intro a F
  refine stepG rfl F rfl rfl rfl (o_move (F.ev rfl) ?_); clear F; clear a; intro a F
  (refine stepG rfl F rfl rfl rfl (o_call (F.ev rfl) (F.evs rfl) (Cal.mono (mtvalidO_c links hk _ _ (hSk0.later M.ext)) ?_)); clear F; clear a; rintro _ w ⟨rfl, hE⟩ a F; replace M := M.later hE; clear hE)
  cases c3 : validOs links
  · have hL : selectV now l s links old = ([], 1) := by unfold selectV; rw [c1, c2, c3]; rfl
    rw [hL]
    rw [c3] at F
    refine stepG rfl F rfl rfl rfl (o_not (F.ev rfl) ?_); clear F; clear a; intro a F
    refine stepD rfl F rfl (o_pickF (F.ev rfl) (F.ev rfl) ?_); clear F; clear a; intro a F
    refine stepD rfl F rfl (o_move (F.ev rfl) ?_); clear F; clear a; intro a F
    refine stepOff F rfl rfl rfl rfl ?_; clear F; clear a; intro a F
    refine stepOff F rfl rfl rfl rfl ?_; clear F; clear a; intro a F
    refine stepOff F rfl rfl rfl rfl ?_; clear F; clear a; intro a F
    refine stepD rfl F rfl (o_pickT (F.ev rfl) (F.ev rfl) ?_); clear F; clear a; intro a F
    with_reducible refine l_nil ?_
    with_reducible refine q_then ?_
    refine c_true F rfl rfl ?_
    with_reducible refine c_seq ?_
    with_reducible refine c_region ?_
    refine stepD rfl F rfl (o_assign (F.ev rfl) ?_); clear F; clear a; intro a F
    refine stepD rfl F rfl (o_assign (F.ev rfl) ?_); clear F; clear a; intro a F
    with_reducible refine l_nil ?_
    with_reducible refine q_then ?_
    with_reducible refine c_ret ?_
    with_reducible refine q_thenR ?_
    refine p_ret F rfl (.cons (.tmp (F.ev rfl)) (.cons (.tmp (F.ev rfl)) .nil)) ?_
    exact ⟨.slice none 0 0, [], rfl, OwnS.nil _ _, M⟩
  rw [c3] at F
  refine stepG rfl F rfl rfl rfl (o_not (F.ev rfl) ?_); clear F; clear a; intro a F
  refine stepD rfl F rfl (o_pickF (F.ev rfl) (F.ev rfl) ?_); clear F; clear a; intro a F
  refine stepD rfl F rfl (o_move (F.ev rfl) ?_); clear F; clear a; intro a F
  refine stepG rfl F rfl rfl rfl (o_move (F.ev rfl) ?_); clear F; clear a; intro a F
  (refine stepG rfl F rfl rfl rfl (o_call (F.ev rfl) (F.evs rfl) (Cal.mono (rtvalidI_c old hy _ _ (hSo0.later M.ext)) ?_)); clear F; clear a; rintro _ w ⟨rfl, hE⟩ a F; replace M := M.later hE; clear hE)
  cases c4 : validIs old
  · have hL : selectV now l s links old = ([], 1) := by unfold selectV; rw [c1, c2, c3, c4]; rfl
    rw [hL]
    rw [c4] at F
    refine stepG rfl F rfl rfl rfl (o_not (F.ev rfl) ?_); clear F; clear a; intro a F
    refine stepD rfl F rfl (o_pickF (F.ev rfl) (F.ev rfl) ?_); clear F; clear a; intro a F
    with_reducible refine l_nil ?_
    with_reducible refine q_then ?_
    refine c_true F rfl rfl ?_
    with_reducible refine c_seq ?_
    with_reducible refine c_region ?_
    refine stepD rfl F rfl (o_assign (F.ev rfl) ?_); clear F; clear a; intro a F
    refine stepD rfl F rfl (o_assign (F.ev rfl) ?_); clear F; clear a; intro a F
    with_reducible refine l_nil ?_
    with_reducible refine q_then ?_
    with_reducible refine c_ret ?_
    with_reducible refine q_thenR ?_
    refine p_ret F rfl (.cons (.tmp (F.ev rfl)) (.cons (.tmp (F.ev rfl)) .nil)) ?_
    exact ⟨.slice none 0 0, [], rfl, OwnS.nil _ _, M⟩
  rw [c4] at F
  refine stepG rfl F rfl rfl rfl (o_not (F.ev rfl) ?_); clear F; clear a; intro a F
  refine stepD rfl F rfl (o_pickF (F.ev rfl) (F.ev rfl) ?_); clear F; clear a; intro a F
  with_reducible refine l_nil ?_
  with_reducible refine q_then ?_
  refine c_false F rfl rfl ?_
  with_reducible refine c_skip ?_
  with_reducible refine q_then ?_
  with_reducible refine c_seq ?_
  with_reducible refine c_seq ?_
  with_reducible refine c_region ?_
  refine stepD rfl F rfl (o_move (F.ev rfl) ?_); clear F; clear a; intro a F
  (refine stepD rfl F rfl (o_call (F.ev rfl) (F.evs rfl) (Cal.mono (rtTime_c now _) ?_)); clear F; clear a; rintro _ w ⟨rfl, hE⟩ a F; replace M := M.later hE; clear hE)
  cases c5 : isTime now
  · have hL : selectV now l s links old = ([], 2) := by unfold selectV; rw [c1, c2, c3, c4, c5]; rfl
    rw [hL]
    rw [c5] at F
    refine stepD rfl F rfl (o_not (F.ev rfl) ?_); clear F; clear a; intro a F
    with_reducible refine l_nil ?_
    with_reducible refine q_then ?_
    refine c_true F rfl rfl ?_
    with_reducible refine c_seq ?_
    with_reducible refine c_region ?_
    refine stepD rfl F rfl (o_assign (F.ev rfl) ?_); clear F; clear a; intro a F
    refine stepD rfl F rfl (o_assign (F.ev rfl) ?_); clear F; clear a; intro a F
    with_reducible refine l_nil ?_
    with_reducible refine q_then ?_
    with_reducible refine c_ret ?_
    with_reducible refine q_thenR ?_
    refine p_ret F rfl (.cons (.tmp (F.ev rfl)) (.cons (.tmp (F.ev rfl)) .nil)) ?_
    exact ⟨.slice none 0 0, [], rfl, OwnS.nil _ _, M⟩
  rw [c5] at F
  have hL : selectV now l s links old = if 512 < (selV now l s links old).length then ([], 10) else (selV now l s links old, 0) := by unfold selectV; rw [c1, c2, c3, c4, c5]; rfl
  obtain ⟨hl512, hrou, hasc⟩ := validRs_iff.1 c1
  obtain ⟨hk16, hopt, _⟩ := validOs_iff.1 c3
  obtain ⟨ho512, hins, hascN⟩ := validIs_iff.1 c4
  refine stepD rfl F rfl (o_not (F.ev rfl) ?_); clear F; clear a; intro a F
  with_reducible refine l_nil ?_
  with_reducible refine q_then ?_
  refine c_false F rfl rfl ?_
  with_reducible refine c_skip ?_
  with_reducible refine q_then ?_
  with_reducible refine c_seq ?_
  with_reducible refine c_region ?_
  refine stepD rfl F rfl (o_move (F.ev rfl) ?_); clear F; clear a; intro a F
  refine stepD rfl F rfl (o_lenSl (F.ev rfl) ?_); clear F; clear a; intro a F
  (refine stepD rfl F rfl (o_makeMap M (F.ev rfl) ?_); clear F; clear M; intro b12 w M a F)
  refine stepD rfl F rfl (o_assign (F.ev rfl) ?_); clear F; clear a; intro a F
  with_reducible refine l_nil ?_
  with_reducible refine q_then ?_
  with_reducible refine c_seq ?_
  with_reducible refine c_seq ?_
  with_reducible refine c_region ?_
  refine stepD rfl F rfl (o_move (F.ev rfl) ?_); clear F; clear a; intro a F
  refine stepD rfl F rfl (o_lenSl (F.ev rfl) ?_); clear F; clear a; intro a F
  refine stepD rfl F rfl (o_move (F.ev rfl) ?_); clear F; clear a; intro a F
  with_reducible refine l_nil ?_
  with_reducible refine q_then ?_
  with_reducible refine c_block ?_
  refine c_loop (fun m a w => ∃ (i : Nat) (ent : List (Nat × Obj)), m = links.length - i ∧ i ≤ links.length ∧ OwnM (Value.int .u64) (.map (some b12)) (mapI (costM (links.take i))) ent ∧ Frm a 190 [] [(54, .int .i64 i), (53, .int .i64 links.length), (52, .slice qk links.length capk), (12, .map (some b12)), (0, .int .i64 now), (1, .slice q l.length cap), (2, vs), (4, .slice qo old.length capo)] ∧ Mem [] W w ent) links.length ⟨0, _, rfl, by omega, ⟨b12, _, rfl, rfl, MapAt.empty _⟩, F.only [54, 53, 52, 12, 0, 1, 2, 4] rfl, M⟩ ?_
  clear F M
  rintro m a w ⟨i, ent, hm', hi, hO, F, M⟩
  by_cases hlt : i < links.length
  · obtain ⟨b, o, cs, t, fz, rfl, hb, hs⟩ := hmk (by omega)
    have hxv := hk _ (List.getElem_mem hlt)
    have f1 : seg cs (o + (i : Int).toNat * 2) 2 = some (opC links[i]) := seg_el (ops_len hk) hs hlt (by omega)
    have hmt := costM_step hlt
    obtain ⟨x, hx0⟩ : ∃ x, x = links[i] := ⟨_, rfl⟩
    rw [← hx0] at hxv f1 hmt
    have f2 : (opC x).length = 2 := op_len hxv
    have f3 := op_nb hxv
    have f4 := op_cost hxv
    with_reducible refine c_seq ?_
    with_reducible refine c_region ?_
    refine stepD rfl F rfl (o_lssT (F.ev rfl) (F.ev rfl) (by omega) ?_); clear F; clear a; intro a F
    with_reducible refine l_nil ?_
    with_reducible refine q_then ?_
    with_reducible refine c_seq ?_
    refine c_true F rfl rfl ?_
    with_reducible refine c_skip ?_
    with_reducible refine q_then ?_
    with_reducible refine c_seq ?_
    with_reducible refine c_block ?_
    with_reducible refine c_seq ?_
    with_reducible refine c_region ?_
    refine stepD rfl F rfl (o_indexSl (F.ev rfl) (F.ev rfl) (by omega) (by omega) ?_); clear F; clear a; intro a F
    refine stepD rfl F rfl (o_loadWA M (F.ev rfl) (by assumption) (by first | assumption | rfl) ?_); clear F; clear a; intro a F
    (refine stepD rfl F rfl (o_alloc M ?_); clear F; clear M; intro b14 w M a F)
    (refine stepN rfl F (o_storeA M (F.ev rfl) (F.ev rfl) (f2) (op_one x)  (by repeat (first | exact .here | apply Has.there))  (put_all (by rw [f2]; rfl)) (by repeat (first | exact .here | apply Upd.there)) ?_); clear F; clear M; intro w M a F)
    with_reducible refine l_nil ?_
    with_reducible refine q_then ?_
    with_reducible refine c_region ?_
    refine stepD rfl F rfl (o_move (F.ev rfl) ?_); clear F; clear a; intro a F
    refine stepD rfl F rfl (o_fieldAddr (F.ev rfl) ?_); clear F; clear a; intro a F
    refine stepD rfl F rfl (o_load1 M (F.ev rfl) (by repeat (first | exact .here | apply Has.there)) (by first | assumption | rfl) ?_); clear F; clear a; intro a F
    refine stepD rfl F rfl (o_fieldAddr (F.ev rfl) ?_); clear F; clear a; intro a F
    refine stepD rfl F rfl (o_load1 M (F.ev rfl) (by repeat (first | exact .here | apply Has.there)) (by first | assumption | rfl) ?_); clear F; clear a; intro a F
    refine stepD rfl F rfl (o_max (F.ev rfl) (F.ev rfl) ?_); clear F; clear a; intro a F
    (refine stepN rfl F (o_mapUpdate (u := .int .i64 (lkC x.cost)) keyE_law M hO (.cons .here) (fun _ _ => trivial) (a := x.nb) trivial (F.ev rfl) (F.ev rfl) (F.ev rfl) ?_); clear F; clear M; intro ent2 w hO2 M a F)
    with_reducible refine l_nil ?_
    with_reducible refine q_inB ?_
    with_reducible refine q_then ?_
    with_reducible refine c_region ?_
    refine stepD rfl F rfl (o_add (F.ev rfl) (F.ev rfl) (w_i64 (by omega) (by omega)) ?_); clear F; clear a; intro a F
    refine stepD rfl F rfl (o_move (F.ev rfl) ?_); clear F; clear a; intro a F
    with_reducible refine l_nil ?_
    with_reducible refine q_then ?_
    exact ⟨_, by omega, i + 1, ent2, rfl, by omega, by rw [hmt]; unfold mapI; rw [← putA_map]; exact hO2, F.only [54, 53, 52, 12, 0, 1, 2, 4] rfl, M.sub (List.sublist_cons_self _ _)⟩
  obtain rfl : i = links.length := by omega
  rw [List.take_length] at hO
  clear hmk hspk hcapk
  with_reducible refine c_seq ?_
  with_reducible refine c_region ?_
  refine stepD rfl F rfl (o_lssF (F.ev rfl) (F.ev rfl) (by omega) ?_); clear F; clear a; intro a F
  with_reducible refine l_nil ?_
  with_reducible refine q_then ?_
  with_reducible refine c_seq ?_
  refine c_false F rfl rfl ?_
  with_reducible refine c_exit ?_
  with_reducible refine q_thenX ?_
  with_reducible refine q_thenX ?_
  with_reducible refine q_inBX ?_
  with_reducible refine q_then ?_
  with_reducible refine c_seq ?_
  with_reducible refine c_region ?_
  refine stepD rfl F rfl (o_assign (F.ev rfl) ?_); clear F; clear a; intro a F
  with_reducible refine l_nil ?_
  with_reducible refine q_then ?_
  with_reducible refine c_seq ?_
  with_reducible refine c_region ?_
  refine stepD rfl F rfl (o_assign (F.ev rfl) ?_); clear F; clear a; intro a F
  refine stepD rfl F rfl (o_assign (F.ev rfl) ?_); clear F; clear a; intro a F
  with_reducible refine l_nil ?_
  with_reducible refine q_then ?_
  with_reducible refine c_seq ?_
  with_reducible refine c_seq ?_
  with_reducible refine c_region ?_
  refine stepD rfl F rfl (o_move (F.ev rfl) ?_); clear F; clear a; intro a F
  refine stepD rfl F rfl (o_move (F.ev rfl) ?_); clear F; clear a; intro a F
  (refine stepD rfl F rfl (o_call (F.ev rfl) (F.evs rfl) (Cal.mono (dests_c l hx old hy (by omega) (by omega) _ _ _ (hSl0.later M.ext) (hSo0.later M.ext) ) ?_)); clear F; clear a; rintro _ w ⟨entD, hD, N⟩ a F; replace M := M.joins N; clear N)
  obtain ⟨qd, capd, rfl⟩ := hD.slice
  obtain ⟨cm, hcm⟩ : ∃ cm, cm = costM links := ⟨_, rfl⟩
  obtain ⟨ds, hds⟩ : ∃ ds, ds = destsV l old := ⟨_, rfl⟩
  have hall : ∀ x ∈ allD l old, IsDv x ∧ validT x = true := by
    intro x h
    unfold allD at h
    rcases List.mem_append.1 h with h | h
    · obtain ⟨r, h1, rfl⟩ := List.mem_map.1 h
      have := hrou r h1
      simp only [rou1, Bool.and_eq_true] at this
      exact ⟨(hx r h1).1, this.1.1.1⟩
    · obtain ⟨r, h1, rfl⟩ := List.mem_map.1 h
      have := hins r h1
      simp only [ins1, Bool.and_eq_true] at this
      exact ⟨(hy r h1).1, this.1⟩
  obtain ⟨hdA, hdm⟩ := foldr_insD fun x h => (hall x h).1
  have hdA' : AscD ds := by rw [hds]; exact hdA
  have hdm' : ∀ x, x ∈ ds ↔ x ∈ allD l old := by rw [hds]; exact hdm
  clear hdA hdm
  have hdi : ∀ x ∈ ds, IsDv x ∧ validT x = true := fun x h => hall x ((hdm' x).1 h)
  have hszd : ∀ x ∈ ds, (dvC x).length = 35 := fun x h => dv_len (hdi x h).1
  have hdl : ds.length ≤ 1024 := by
    have h1 := nodupD_le hdA' (fun x h => (hdm' x).1 h)
    simp only [allD, List.length_append, List.length_map] at h1
    omega
  have hsel : selV now l s links old = ds.filterMap (selE now l s cm old) := by rw [hds, hcm]; rfl
  rw [← hds] at hD F
  rw [← hcm] at hO
  rw [hsel] at hL
  have hoE : ∀ (t : DstV), IsDv t → ∀ e, selE now l s cm old t = some e → IsIn e := fun t ht e h => selE_is ht hy h
  have hwR := weak_R hx hasc
  have hwN := weak_N hascN
  have hov : ∀ t, validOs (optsV now s cm t l) = true := fun t => by rw [hcm]; exact opts_valid hx c1 hk16
  refine stepD rfl F rfl (o_lenSl (F.ev rfl) ?_); clear F; clear a; intro a F
  refine stepD rfl F rfl (o_move (F.ev rfl) ?_); clear F; clear a; intro a F
  with_reducible refine l_nil ?_
  with_reducible refine q_then ?_
  with_reducible refine c_block ?_
  refine c_loop (fun m a w => ∃ (k r i : Nat) (z : Value) (entR : List (Nat × Obj)), m = ds.length - k ∧ k ≤ ds.length ∧ Yet RouV.to l (ds.drop k) r ∧ Yet InsV.to old (ds.drop k) i ∧ OwnS 50 40 z ((ds.take k).filterMap (selE now l s cm old)).length (insC ((ds.take k).filterMap (selE now l s cm old))) entR ∧ Frm a 190 [] [(69, .int .i64 k), (68, .int .i64 ds.length), (67, .slice qd ds.length capd), (12, .map (some b12)), (15, z), (16, .int .i64 r), (17, .int .i64 i), (0, .int .i64 now), (1, .slice q l.length cap), (2, vs), (4, .slice qo old.length capo)] ∧ Mem [] W w (entR ++ (entD ++ ent))) ds.length ⟨0, 0, 0, .slice none 0 0, [], rfl, by omega, ⟨by omega, fun j hj h => absurd h (by omega), fun j hj _ => (hdm' _).2 (List.mem_append_left _ (List.mem_map_of_mem (List.getElem_mem hj)))⟩, ⟨by omega, fun j hj h => absurd h (by omega), fun j hj _ => (hdm' _).2 (List.mem_append_right _ (List.mem_map_of_mem (List.getElem_mem hj)))⟩, OwnS.nil _ _, F.only [69, 68, 67, 12, 15, 16, 17, 0, 1, 2, 4] rfl, M⟩ ?_
  clear F M
  rintro m a w ⟨k, r, i, z, entR, hm', hkl, hYr, hYi, hR, F, M⟩
  by_cases hlt : k < ds.length
  · rcases hD with ⟨_, h0, _, _⟩ | ⟨bD, cD, junk, hvD, hentD, hxl, hjl, hnc⟩
    · omega
    cases hvD
    subst hentD
    have f1 : seg (dvsC ds ++ junk) (0 + (k : Int).toNat * 35) 35 = some (dvC ds[k]) := own_el hszd junk hlt (by omega)
    have hdk : ds.drop k = ds[k] :: ds.drop (k + 1) := List.drop_eq_getElem_cons hlt
    have htk : (ds.take (k + 1)).filterMap (selE now l s cm old) = (ds.take k).filterMap (selE now l s cm old) ++ (selE now l s cm old ds[k]).toList := by
      rw [List.take_add_one, List.getElem?_eq_getElem hlt, List.filterMap_append]
      cases ho : selE now l s cm old ds[k] <;> simp [List.filterMap_cons, ho]
    obtain ⟨ht, hvt⟩ := hdi _ (List.getElem_mem hlt)
    obtain ⟨t, ht0⟩ : ∃ t, t = ds[k] := ⟨_, rfl⟩
    rw [← ht0] at f1 hdk htk ht hvt
    have hdk2 : AscD (t :: ds.drop (k + 1)) := by rw [← hdk]; exact hdA'.sublist (List.drop_sublist _ _)
    have hdk3 : ∀ x ∈ t :: ds.drop (k + 1), IsDv x := fun x h => (hdi x (List.mem_of_mem_drop (by rw [hdk]; exact h))).1
    rw [hdk] at hYr hYi
    have t1 := dv_len ht
    have t2 := dv_all ht
    have t3 := dv_fits ht
    replace M := M.perm (l' := (bD, .cells (dvsC ds ++ junk).toArray 45 (0, 0)) :: (entR ++ ent)) (by classical exact List.perm_iff_count.2 fun _ => by simp only [List.count_append, List.count_cons, List.count_nil, Nat.add_zero, Nat.zero_add] <;> ac_rfl)
    with_reducible refine c_seq ?_
    with_reducible refine c_region ?_
    refine stepD rfl F rfl (o_lssT (F.ev rfl) (F.ev rfl) (by omega) ?_); clear F; clear a; intro a F
    with_reducible refine l_nil ?_
    with_reducible refine q_then ?_
    with_reducible refine c_seq ?_
    refine c_true F rfl rfl ?_
    with_reducible refine c_skip ?_
    with_reducible refine q_then ?_
    with_reducible refine c_seq ?_
    with_reducible refine c_block ?_
    with_reducible refine c_seq ?_
    with_reducible refine c_region ?_
    refine stepD rfl F rfl (o_indexSl (F.ev rfl) (F.ev rfl) (by omega) (by omega) ?_); clear F; clear a; intro a F
    refine stepD rfl F rfl (o_loadA M (F.ev rfl) (by repeat (first | exact .here | apply Has.there)) (by first | assumption | rfl) ?_); clear F; clear a; intro a F
    (refine stepD rfl F rfl (o_alloc M ?_); clear F; clear M; intro b19 w M a F)
    (refine stepN rfl F (o_storeA M (F.ev rfl) (F.ev rfl) (t1) (dv_one t)  (by repeat (first | exact .here | apply Has.there))  (put_all (by rw [t1]; rfl)) (by repeat (first | exact .here | apply Upd.there)) ?_); clear F; clear M; intro w M a F)
    with_reducible refine l_nil ?_
    with_reducible refine q_then ?_
    with_reducible refine c_seq ?_
    with_reducible refine c_region ?_
    refine stepD rfl F rfl (o_assign (F.ev rfl) ?_); clear F; clear a; intro a F
    with_reducible refine l_nil ?_
    with_reducible refine q_then ?_
    with_reducible refine c_seq ?_
    with_reducible refine c_region ?_
    (refine stepD rfl F rfl (o_makeMap0 M ?_); clear F; clear M; intro bS w M a F)
    refine stepD rfl F rfl (o_assign (F.ev rfl) ?_); clear F; clear a; intro a F
    refine l_nil ?_
    refine q_then ?_
    repeat (with_reducible refine c_seq ?_)
    refine c_cut (fun a w => ∃ (r1 : Nat) (zO : Value) (entO entS : List (Nat × Obj)), Yet RouV.to l (ds.drop (k + 1)) r1 ∧ OwnS 55 2 zO (optsV now s cm t l).length (opsC (optsV now s cm t l)) entO ∧ OwnM (Value.int .u64) (.map (some bS)) (mapQ (saidV now s cm t l)) entS ∧ Frm a 190 [] [(16, .int .i64 r1), (20, zO), (21, .map (some bS)), (19, .pointer (some ⟨b19, 0, none⟩)), (69, .int .i64 k), (68, .int .i64 ds.length), (67, .slice (some ⟨bD, 0, none⟩) ds.length capd), (12, .map (some b12)), (15, z), (17, .int .i64 i), (0, .int .i64 now), (1, .slice q l.length cap), (2, vs), (4, .slice qo old.length capo)] ∧ Mem [] W w (entS ++ (entO ++ ((b19, .cells (dvC t).toArray 45 (0, 0)) :: (bD, .cells (dvsC ds ++ junk).toArray 45 (0, 0)) :: (entR ++ ent))))) ?_ ?_
    · with_reducible refine c_block ?_
      refine c_loop (fun m a w => ∃ (r' : Nat) (zO : Value) (entO entS : List (Nat × Obj)), m = l.length - r' ∧ r ≤ r' ∧ r' ≤ l.length ∧ (∀ j (hj : j < l.length), r ≤ j → j < r' → l[j].to = t) ∧ OwnS 55 2 zO (optsV now s cm t (l.take r')).length (opsC (optsV now s cm t (l.take r'))) entO ∧ OwnM (Value.int .u64) (.map (some bS)) (mapQ (saidV now s cm t (l.take r'))) entS ∧ Frm a 190 [] [(16, .int .i64 r'), (20, zO), (21, .map (some bS)), (19, .pointer (some ⟨b19, 0, none⟩)), (69, .int .i64 k), (68, .int .i64 ds.length), (67, .slice (some ⟨bD, 0, none⟩) ds.length capd), (12, .map (some b12)), (15, z), (17, .int .i64 i), (0, .int .i64 now), (1, .slice q l.length cap), (2, vs), (4, .slice qo old.length capo)] ∧ Mem [] W w (entS ++ (entO ++ ((b19, .cells (dvC t).toArray 45 (0, 0)) :: (bD, .cells (dvsC ds ++ junk).toArray 45 (0, 0)) :: (entR ++ ent))))) (l.length - r) ⟨r, .slice none 0 0, [], [(bS, _)], rfl, by omega, hYr.le, fun j hj h1 h2 => absurd h2 (by omega), by rw [optsV_nil (hYr.before)]; exact OwnS.nil _ _, by rw [saidV_nil (hYr.before)]; exact ⟨bS, _, rfl, rfl, MapAt.empty _⟩, F.only [16, 20, 21, 19, 69, 68, 67, 12, 15, 17, 0, 1, 2, 4] rfl, M⟩ ?_
      clear F M
      rintro m a w ⟨r', zO, entO, entS, hm2, hr1, hr2, hre, hOO, hOS, F, M⟩
      have hend : (∀ hj : r' < l.length, l[r'].to ≠ t) → Yet RouV.to l (ds.drop (k + 1)) r' ∧ optsV now s cm t l = optsV now s cm t (l.take r') ∧ saidV now s cm t l = saidV now s cm t (l.take r') := fun h => by
        obtain ⟨h1, h2⟩ := Yet.next hwR hdk2 hdk3 hYr hr1 hr2 hre h
        exact ⟨h1, optsV_all h2, saidV_all h2⟩
      by_cases hlt2 : r' < l.length
      · obtain ⟨b, o, cs, t', fz, rfl, hb, hs⟩ := hm (by omega)
        have g1 : seg cs (o + (r' : Int).toNat * 39) 39 = some (roC l[r']) := seg_el (ros_len hx) hs hlt2 (by omega)
        have hxv := hx _ (List.getElem_mem hlt2)
        have hos := fun h => optsV_step (now := now) (s := s) (cm := cm) (t := t) hlt2 h
        have hss := fun h => saidV_step (now := now) (s := s) (cm := cm) (t := t) hlt2 h
        obtain ⟨x, hx0⟩ : ∃ x, x = l[r'] := ⟨_, rfl⟩
        rw [← hx0] at g1 hxv hos hss
        have g2 : seg cs (o + (r' : Int).toNat * 39) 35 = some (dvC x.to) := sg_seg g1 (ro_to hxv) (by omega)
        have g3 : nth cs (o + (r' : Int).toNat * 39 + 35) = some (.int .u64 x.nb) := sg_nth g1 (ro_nb hxv) (by omega)
        have g4 : seg cs (o + (r' : Int).toNat * 39 + 36) 2 = some (diC x.said) := sg_seg g1 (ro_said hxv) (by omega)
        have g5 : nth cs (o + (r' : Int).toNat * 39 + 37) = some (.int .i64 x.said.met) := sg_nth g1 (ro_said_met hxv) (by omega)
        have g6 : nth cs (o + (r' : Int).toNat * 39 + 38) = some (.int .i64 x.til) := sg_nth g1 (ro_til hxv) (by omega)
        have g7 := dv_fits hxv.1
        have g8 := dv_eq hxv.1 ht
        replace M := M.perm (l' := (b19, .cells (dvC t).toArray 45 (0, 0)) :: (entS ++ (entO ++ ((bD, .cells (dvsC ds ++ junk).toArray 45 (0, 0)) :: (entR ++ ent))))) (by classical exact List.perm_iff_count.2 fun _ => by simp only [List.count_append, List.count_cons, List.count_nil, Nat.add_zero, Nat.zero_add] <;> ac_rfl)
        with_reducible refine c_seq ?_
        with_reducible refine c_seq ?_
        by_cases he : x.to = t
        · rw [decide_eq_true he] at g8
          refine c_draw 13 F (by kernel_rfl) ?_
          intro w1 hE hok
          have M1 := M.later hE
          refine mK hok rfl rfl (fun a' w' F' E' => o_move (F'.ev rfl) ⟨Ext.refl _ _, rfl⟩) ?_
          refine mK hok rfl rfl (fun a' w' F' E' => o_move (F'.ev rfl) ⟨Ext.refl _ _, rfl⟩) ?_
          refine mK hok rfl rfl (fun a' w' F' E' => o_lenSl (F'.ev rfl) ⟨Ext.refl _ _, rfl⟩) ?_
          refine mK hok rfl rfl (fun a' w' F' E' => o_lssT (F'.ev rfl) (F'.ev rfl) (by omega) ⟨Ext.refl _ _, rfl⟩) ?_
          refine mK hok rfl rfl (fun a' w' F' E' => o_move (F'.ev rfl) ⟨Ext.refl _ _, rfl⟩) ?_
          refine mKG hok rfl rfl rfl rfl (fun a' w' F' E' => o_move (F'.ev rfl) ⟨Ext.refl _ _, rfl⟩) ?_
          refine mKG hok rfl rfl rfl rfl (fun a' w' F' E' => o_move (F'.ev rfl) ⟨Ext.refl _ _, rfl⟩) ?_
          refine mKG hok rfl rfl rfl rfl (fun a' w' F' E' => o_indexSl (F'.ev rfl) (F'.ev rfl) (by omega) (by omega) ⟨Ext.refl _ _, rfl⟩) ?_
          refine mKG hok rfl rfl rfl rfl (fun a' w' F' E' => o_fieldAddr (F'.ev rfl) ⟨Ext.refl _ _, rfl⟩) ?_
          refine mKG hok rfl rfl rfl rfl (fun a' w' F' E' => o_loadWA (M1.later E') (F'.ev rfl) (by assumption) (by first | assumption | rfl) ⟨Ext.refl _ _, rfl⟩) ?_
          refine mKG hok rfl rfl rfl rfl (fun a' w' F' E' => o_loadA (M1.later E') (F'.ev rfl) (by repeat (first | exact .here | apply Has.there)) (by first | assumption | rfl) ⟨Ext.refl _ _, rfl⟩) ?_
          refine mKG hok rfl rfl rfl rfl (fun a' w' F' E' => o_eqlAT (F'.ev rfl) (F'.ev rfl) (by first | assumption | rfl) (by first | assumption | rfl) (by assumption) ⟨Ext.refl _ _, rfl⟩) ?_
          refine mK hok rfl rfl (fun a' w' F' E' => o_pickT (F'.ev rfl) (F'.ev rfl) ⟨Ext.refl _ _, rfl⟩) ?_
          (refine mDone rfl rfl ?_; clear F; clear M; intro a w F hE2 hX hTT hDD hPP; have M := M1.later hE2; clear M1; clear hX; clear hE2; clear hok; clear hE; clear hTT; clear hDD; clear hPP; (try dsimp only at F))
          refine l_nil ?_
          dsimp only
          refine q_then ?_
          repeat (with_reducible refine c_seq ?_)
          refine c_true F rfl rfl ?_
          refine c_skip ?_
          refine q_then ?_
          repeat (with_reducible refine c_seq ?_)
          replace F := F.only [16, 20, 21, 19, 69, 68, 67, 12, 15, 17, 0, 1, 2, 4] rfl
          refine c_cut (fun a w => ∃ (zO2 : Value) (entO2 entS2 : List (Nat × Obj)), OwnS 55 2 zO2 (optsV now s cm t (l.take (r' + 1))).length (opsC (optsV now s cm t (l.take (r' + 1)))) entO2 ∧ OwnM (Value.int .u64) (.map (some bS)) (mapQ (saidV now s cm t (l.take (r' + 1)))) entS2 ∧ Frm a 190 [] [(16, .int .i64 r'), (20, zO2), (21, .map (some bS)), (19, .pointer (some ⟨b19, 0, none⟩)), (69, .int .i64 k), (68, .int .i64 ds.length), (67, .slice (some ⟨bD, 0, none⟩) ds.length capd), (12, .map (some b12)), (15, z), (17, .int .i64 i), (0, .int .i64 now), (1, .slice (some ⟨b, o, none⟩) l.length cap), (2, vs), (4, .slice qo old.length capo)] ∧ Mem [] W w (entS2 ++ (entO2 ++ ((b19, .cells (dvC t).toArray 45 (0, 0)) :: (bD, .cells (dvsC ds ++ junk).toArray 45 (0, 0)) :: (entR ++ ent))))) ?_ ?_
          · rw [hos he, hss he]
            clear hos hss hend hL
            with_reducible refine c_block ?_
            with_reducible refine c_seq ?_
            with_reducible refine c_region ?_
            refine stepD rfl F rfl (o_move (F.ev rfl) ?_); clear F; clear a; intro a F
            refine stepD rfl F rfl (o_move (F.ev rfl) ?_); clear F; clear a; intro a F
            refine stepD rfl F rfl (o_move (F.ev rfl) ?_); clear F; clear a; intro a F
            refine stepD rfl F rfl (o_indexSl (F.ev rfl) (F.ev rfl) (by omega) (by omega) ?_); clear F; clear a; intro a F
            refine stepD rfl F rfl (o_fieldAddr (F.ev rfl) ?_); clear F; clear a; intro a F
            refine stepD rfl F rfl (o_loadW1 M (F.ev rfl) (by assumption) (by first | assumption | rfl) ?_); clear F; clear a; intro a F
            (refine stepD rfl F rfl (o_lookup2 keyE_law zero_iR (hO.at_ (fun p hp => M.at_ p (by simp [hp]))) (fun _ _ => trivial) (a := x.nb) trivial (F.ev rfl) (F.ev rfl) ?_); clear F; clear a; intro a F)
            rw [getA_mapI] at F
            cases hc : getA x.nb cm with
            | none =>
              rw [hc] at F
              have hv0 : optV now s cm t x = none := by unfold optV; rw [hc]
              rw [hv0]
              refine stepD rfl F rfl (o_move (F.ev rfl) ?_); clear F; clear a; intro a F
              refine stepD rfl F rfl (o_extract (F.ev rfl) rfl ?_); clear F; clear a; intro a F
              refine stepD rfl F rfl (o_extract (F.ev rfl) rfl ?_); clear F; clear a; intro a F
              refine stepD rfl F rfl (o_assign (F.ev rfl) ?_); clear F; clear a; intro a F
              refine stepD rfl F rfl (o_assign (F.ev rfl) ?_); clear F; clear a; intro a F
              with_reducible refine l_nil ?_
              with_reducible refine q_then ?_
              with_reducible refine c_seq ?_
              with_reducible refine c_seq ?_
              replace F := F.only [16, 20, 21, 19, 69, 68, 67, 12, 15, 17, 0, 1, 2, 4, 22, 23] rfl
              refine c_draw 23 F (by kernel_rfl) ?_
              intro w1 hE hok
              have M1 := M.later hE
              refine mK hok rfl rfl (fun a' w' F' E' => o_move (F'.ev rfl) ⟨Ext.refl _ _, rfl⟩) ?_
              refine mK hok rfl rfl (fun a' w' F' E' => o_not (F'.ev rfl) ⟨Ext.refl _ _, rfl⟩) ?_
              refine mK hok rfl rfl (fun a' w' F' E' => o_move (F'.ev rfl) ⟨Ext.refl _ _, rfl⟩) ?_
              refine mOff hok rfl rfl rfl rfl rfl ?_
              refine mOff hok rfl rfl rfl rfl rfl ?_
              refine mOff hok rfl rfl rfl rfl rfl ?_
              refine mOff hok rfl rfl rfl rfl rfl ?_
              refine mOff hok rfl rfl rfl rfl rfl ?_
              refine mOff hok rfl rfl rfl rfl rfl ?_
              refine mOff hok rfl rfl rfl rfl rfl ?_
              refine mK hok rfl rfl (fun a' w' F' E' => o_pickT (F'.ev rfl) (F'.ev rfl) ⟨Ext.refl _ _, rfl⟩) ?_
              refine mK hok rfl rfl (fun a' w' F' E' => o_move (F'.ev rfl) ⟨Ext.refl _ _, rfl⟩) ?_
              refine mOff hok rfl rfl rfl rfl rfl ?_
              refine mOff hok rfl rfl rfl rfl rfl ?_
              refine mOff hok rfl rfl rfl rfl rfl ?_
              refine mOff hok rfl rfl rfl rfl rfl ?_
              refine mOff hok rfl rfl rfl rfl rfl ?_
              refine mOff hok rfl rfl rfl rfl rfl ?_
              refine mOff hok rfl rfl rfl rfl rfl ?_
              refine mOff hok rfl rfl rfl rfl rfl ?_
              refine mOff hok rfl rfl rfl rfl rfl ?_
              refine mOff hok rfl rfl rfl rfl rfl ?_
              refine mK hok rfl rfl (fun a' w' F' E' => o_pickT (F'.ev rfl) (F'.ev rfl) ⟨Ext.refl _ _, rfl⟩) ?_
              (refine mDone rfl rfl ?_; clear F; clear M; intro a w F hE2 hX hTT hDD hPP; have M := M1.later hE2; clear M1; clear hX; clear hE2; clear hok; clear hE; clear hTT; clear hDD; clear hPP; (try dsimp only at F))
              with_reducible refine l_nil ?_
              with_reducible refine q_then ?_
              refine c_true F rfl rfl ?_
              with_reducible refine c_exit ?_
              with_reducible refine q_thenX ?_
              with_reducible refine q_inBX ?_
              exact ⟨zO, entO, entS, by simpa using hOO, by simpa using hOS, F.only [16, 20, 21, 19, 69, 68, 67, 12, 15, 17, 0, 1, 2, 4] rfl, M.perm (by classical exact List.perm_iff_count.2 fun _ => by simp only [List.count_append, List.count_cons, List.count_nil, Nat.add_zero, Nat.zero_add] <;> ac_rfl)⟩
            | some c =>
              rw [hc] at F
              refine stepD rfl F rfl (o_move (F.ev rfl) ?_); clear F; clear a; intro a F
              refine stepD rfl F rfl (o_extract (F.ev rfl) rfl ?_); clear F; clear a; intro a F
              refine stepD rfl F rfl (o_extract (F.ev rfl) rfl ?_); clear F; clear a; intro a F
              refine stepD rfl F rfl (o_assign (F.ev rfl) ?_); clear F; clear a; intro a F
              refine stepD rfl F rfl (o_assign (F.ev rfl) ?_); clear F; clear a; intro a F
              with_reducible refine l_nil ?_
              with_reducible refine q_then ?_
              with_reducible refine c_seq ?_
              with_reducible refine c_seq ?_
              replace F := F.only [16, 20, 21, 19, 69, 68, 67, 12, 15, 17, 0, 1, 2, 4, 22, 23] rfl
              by_cases c6 : x.til ≤ now
              · have hv0 : optV now s cm t x = none := by unfold optV; rw [hc]; dsimp only; rw [decide_eq_true c6]; rfl
                rw [hv0]
                refine c_draw 23 F (by kernel_rfl) ?_
                intro w1 hE hok
                have M1 := M.later hE
                refine mK hok rfl rfl (fun a' w' F' E' => o_move (F'.ev rfl) ⟨Ext.refl _ _, rfl⟩) ?_
                refine mK hok rfl rfl (fun a' w' F' E' => o_not (F'.ev rfl) ⟨Ext.refl _ _, rfl⟩) ?_
                refine mK hok rfl rfl (fun a' w' F' E' => o_move (F'.ev rfl) ⟨Ext.refl _ _, rfl⟩) ?_
                refine mKG hok rfl rfl rfl rfl (fun a' w' F' E' => o_move (F'.ev rfl) ⟨Ext.refl _ _, rfl⟩) ?_
                refine mKG hok rfl rfl rfl rfl (fun a' w' F' E' => o_move (F'.ev rfl) ⟨Ext.refl _ _, rfl⟩) ?_
                refine mKG hok rfl rfl rfl rfl (fun a' w' F' E' => o_indexSl (F'.ev rfl) (F'.ev rfl) (by omega) (by omega) ⟨Ext.refl _ _, rfl⟩) ?_
                refine mKG hok rfl rfl rfl rfl (fun a' w' F' E' => o_fieldAddr (F'.ev rfl) ⟨Ext.refl _ _, rfl⟩) ?_
                refine mKG hok rfl rfl rfl rfl (fun a' w' F' E' => o_loadW1 (M1.later E') (F'.ev rfl) (by assumption) (by first | assumption | rfl) ⟨Ext.refl _ _, rfl⟩) ?_
                refine mKG hok rfl rfl rfl rfl (fun a' w' F' E' => o_move (F'.ev rfl) ⟨Ext.refl _ _, rfl⟩) ?_
                refine mKG hok rfl rfl rfl rfl (fun a' w' F' E' => o_leqT (F'.ev rfl) (F'.ev rfl) (by omega) ⟨Ext.refl _ _, rfl⟩) ?_
                refine mK hok rfl rfl (fun a' w' F' E' => o_pickF (F'.ev rfl) (F'.ev rfl) ⟨Ext.refl _ _, rfl⟩) ?_
                refine mK hok rfl rfl (fun a' w' F' E' => o_move (F'.ev rfl) ⟨Ext.refl _ _, rfl⟩) ?_
                refine mOff hok rfl rfl rfl rfl rfl ?_
                refine mOff hok rfl rfl rfl rfl rfl ?_
                refine mOff hok rfl rfl rfl rfl rfl ?_
                refine mOff hok rfl rfl rfl rfl rfl ?_
                refine mOff hok rfl rfl rfl rfl rfl ?_
                refine mOff hok rfl rfl rfl rfl rfl ?_
                refine mOff hok rfl rfl rfl rfl rfl ?_
                refine mOff hok rfl rfl rfl rfl rfl ?_
                refine mOff hok rfl rfl rfl rfl rfl ?_
                refine mOff hok rfl rfl rfl rfl rfl ?_
                refine mK hok rfl rfl (fun a' w' F' E' => o_pickT (F'.ev rfl) (F'.ev rfl) ⟨Ext.refl _ _, rfl⟩) ?_
                (refine mDone rfl rfl ?_; clear F; clear M; intro a w F hE2 hX hTT hDD hPP; have M := M1.later hE2; clear M1; clear hX; clear hE2; clear hok; clear hE; clear hTT; clear hDD; clear hPP; (try dsimp only at F))
                with_reducible refine l_nil ?_
                with_reducible refine q_then ?_
                refine c_true F rfl rfl ?_
                with_reducible refine c_exit ?_
                with_reducible refine q_thenX ?_
                with_reducible refine q_inBX ?_
                exact ⟨zO, entO, entS, by simpa using hOO, by simpa using hOS, F.only [16, 20, 21, 19, 69, 68, 67, 12, 15, 17, 0, 1, 2, 4] rfl, M.perm (by classical exact List.perm_iff_count.2 fun _ => by simp only [List.count_append, List.count_cons, List.count_nil, Nat.add_zero, Nat.zero_add] <;> ac_rfl)⟩
              have hfe := scfeas_c s hs' c2 vs now c5 t ht hvt x.said
              cases c7 : feasV s now t x.said
              · have hv0 : optV now s cm t x = none := by unfold optV; rw [hc]; dsimp only; rw [decide_eq_false c6, c7]; rfl
                rw [hv0]
                rw [c7] at hfe
                refine c_draw 23 F (by kernel_rfl) ?_
                intro w1 hE hok
                have M1 := M.later hE
                refine mK hok rfl rfl (fun a' w' F' E' => o_move (F'.ev rfl) ⟨Ext.refl _ _, rfl⟩) ?_
                refine mK hok rfl rfl (fun a' w' F' E' => o_not (F'.ev rfl) ⟨Ext.refl _ _, rfl⟩) ?_
                refine mK hok rfl rfl (fun a' w' F' E' => o_move (F'.ev rfl) ⟨Ext.refl _ _, rfl⟩) ?_
                refine mKG hok rfl rfl rfl rfl (fun a' w' F' E' => o_move (F'.ev rfl) ⟨Ext.refl _ _, rfl⟩) ?_
                refine mKG hok rfl rfl rfl rfl (fun a' w' F' E' => o_move (F'.ev rfl) ⟨Ext.refl _ _, rfl⟩) ?_
                refine mKG hok rfl rfl rfl rfl (fun a' w' F' E' => o_indexSl (F'.ev rfl) (F'.ev rfl) (by omega) (by omega) ⟨Ext.refl _ _, rfl⟩) ?_
                refine mKG hok rfl rfl rfl rfl (fun a' w' F' E' => o_fieldAddr (F'.ev rfl) ⟨Ext.refl _ _, rfl⟩) ?_
                refine mKG hok rfl rfl rfl rfl (fun a' w' F' E' => o_loadW1 (M1.later E') (F'.ev rfl) (by assumption) (by first | assumption | rfl) ⟨Ext.refl _ _, rfl⟩) ?_
                refine mKG hok rfl rfl rfl rfl (fun a' w' F' E' => o_move (F'.ev rfl) ⟨Ext.refl _ _, rfl⟩) ?_
                refine mKG hok rfl rfl rfl rfl (fun a' w' F' E' => o_leqF (F'.ev rfl) (F'.ev rfl) (by omega) ⟨Ext.refl _ _, rfl⟩) ?_
                refine mK hok rfl rfl (fun a' w' F' E' => o_pickF (F'.ev rfl) (F'.ev rfl) ⟨Ext.refl _ _, rfl⟩) ?_
                refine mK hok rfl rfl (fun a' w' F' E' => o_move (F'.ev rfl) ⟨Ext.refl _ _, rfl⟩) ?_
                refine mKG hok rfl rfl rfl rfl (fun a' w' F' E' => o_move (F'.ev rfl) ⟨Ext.refl _ _, rfl⟩) ?_
                refine mKG hok rfl rfl rfl rfl (fun a' w' F' E' => o_move (F'.ev rfl) ⟨Ext.refl _ _, rfl⟩) ?_
                refine mKG hok rfl rfl rfl rfl (fun a' w' F' E' => o_loadA (M1.later E') (F'.ev rfl) (by repeat (first | exact .here | apply Has.there)) (by first | assumption | rfl) ⟨Ext.refl _ _, rfl⟩) ?_
                refine mKG hok rfl rfl rfl rfl (fun a' w' F' E' => o_move (F'.ev rfl) ⟨Ext.refl _ _, rfl⟩) ?_
                refine mKG hok rfl rfl rfl rfl (fun a' w' F' E' => o_move (F'.ev rfl) ⟨Ext.refl _ _, rfl⟩) ?_
                refine mKG hok rfl rfl rfl rfl (fun a' w' F' E' => o_indexSl (F'.ev rfl) (F'.ev rfl) (by omega) (by omega) ⟨Ext.refl _ _, rfl⟩) ?_
                refine mKG hok rfl rfl rfl rfl (fun a' w' F' E' => o_fieldAddr (F'.ev rfl) ⟨Ext.refl _ _, rfl⟩) ?_
                refine mKG hok rfl rfl rfl rfl (fun a' w' F' E' => o_loadWA (M1.later E') (F'.ev rfl) (by assumption) (by first | assumption | rfl) ⟨Ext.refl _ _, rfl⟩) ?_
                (refine mKG hok rfl rfl rfl rfl (fun a' w' F' E' => o_call (F'.ev rfl) (F'.evs rfl) (Cal.mono (hfe _ (hSs.later (M1.later E').ext)) fun _ _ hh => ⟨hh.2, hh.1⟩)) ?_)
                refine mKG hok rfl rfl rfl rfl (fun a' w' F' E' => o_not (F'.ev rfl) ⟨Ext.refl _ _, rfl⟩) ?_
                refine mK hok rfl rfl (fun a' w' F' E' => o_pickF (F'.ev rfl) (F'.ev rfl) ⟨Ext.refl _ _, rfl⟩) ?_
                (refine mDone rfl rfl ?_; clear F; clear M; intro a w F hE2 hX hTT hDD hPP; have M := M1.later hE2; clear M1; clear hX; clear hE2; clear hok; clear hE; clear hTT; clear hDD; clear hPP; (try dsimp only at F))
                with_reducible refine l_nil ?_
                with_reducible refine q_then ?_
                refine c_true F rfl rfl ?_
                with_reducible refine c_exit ?_
                with_reducible refine q_thenX ?_
                with_reducible refine q_inBX ?_
                exact ⟨zO, entO, entS, by simpa using hOO, by simpa using hOS, F.only [16, 20, 21, 19, 69, 68, 67, 12, 15, 17, 0, 1, 2, 4] rfl, M.perm (by classical exact List.perm_iff_count.2 fun _ => by simp only [List.count_append, List.count_cons, List.count_nil, Nat.add_zero, Nat.zero_add] <;> ac_rfl)⟩
              have hv0 : optV now s cm t x = some ⟨x.nb, addM x.said.met c⟩ := by unfold optV; rw [hc]; dsimp only; rw [decide_eq_false c6, c7]; rfl
              rw [hv0]
              rw [c7] at hfe
              refine c_draw 23 F (by kernel_rfl) ?_
              intro w1 hE hok
              have M1 := M.later hE
              refine mK hok rfl rfl (fun a' w' F' E' => o_move (F'.ev rfl) ⟨Ext.refl _ _, rfl⟩) ?_
              refine mK hok rfl rfl (fun a' w' F' E' => o_not (F'.ev rfl) ⟨Ext.refl _ _, rfl⟩) ?_
              refine mK hok rfl rfl (fun a' w' F' E' => o_move (F'.ev rfl) ⟨Ext.refl _ _, rfl⟩) ?_
              refine mKG hok rfl rfl rfl rfl (fun a' w' F' E' => o_move (F'.ev rfl) ⟨Ext.refl _ _, rfl⟩) ?_
              refine mKG hok rfl rfl rfl rfl (fun a' w' F' E' => o_move (F'.ev rfl) ⟨Ext.refl _ _, rfl⟩) ?_
              refine mKG hok rfl rfl rfl rfl (fun a' w' F' E' => o_indexSl (F'.ev rfl) (F'.ev rfl) (by omega) (by omega) ⟨Ext.refl _ _, rfl⟩) ?_
              refine mKG hok rfl rfl rfl rfl (fun a' w' F' E' => o_fieldAddr (F'.ev rfl) ⟨Ext.refl _ _, rfl⟩) ?_
              refine mKG hok rfl rfl rfl rfl (fun a' w' F' E' => o_loadW1 (M1.later E') (F'.ev rfl) (by assumption) (by first | assumption | rfl) ⟨Ext.refl _ _, rfl⟩) ?_
              refine mKG hok rfl rfl rfl rfl (fun a' w' F' E' => o_move (F'.ev rfl) ⟨Ext.refl _ _, rfl⟩) ?_
              refine mKG hok rfl rfl rfl rfl (fun a' w' F' E' => o_leqF (F'.ev rfl) (F'.ev rfl) (by omega) ⟨Ext.refl _ _, rfl⟩) ?_
              refine mK hok rfl rfl (fun a' w' F' E' => o_pickF (F'.ev rfl) (F'.ev rfl) ⟨Ext.refl _ _, rfl⟩) ?_
              refine mK hok rfl rfl (fun a' w' F' E' => o_move (F'.ev rfl) ⟨Ext.refl _ _, rfl⟩) ?_
              refine mKG hok rfl rfl rfl rfl (fun a' w' F' E' => o_move (F'.ev rfl) ⟨Ext.refl _ _, rfl⟩) ?_
              refine mKG hok rfl rfl rfl rfl (fun a' w' F' E' => o_move (F'.ev rfl) ⟨Ext.refl _ _, rfl⟩) ?_
              refine mKG hok rfl rfl rfl rfl (fun a' w' F' E' => o_loadA (M1.later E') (F'.ev rfl) (by repeat (first | exact .here | apply Has.there)) (by first | assumption | rfl) ⟨Ext.refl _ _, rfl⟩) ?_
              refine mKG hok rfl rfl rfl rfl (fun a' w' F' E' => o_move (F'.ev rfl) ⟨Ext.refl _ _, rfl⟩) ?_
              refine mKG hok rfl rfl rfl rfl (fun a' w' F' E' => o_move (F'.ev rfl) ⟨Ext.refl _ _, rfl⟩) ?_
              refine mKG hok rfl rfl rfl rfl (fun a' w' F' E' => o_indexSl (F'.ev rfl) (F'.ev rfl) (by omega) (by omega) ⟨Ext.refl _ _, rfl⟩) ?_
              refine mKG hok rfl rfl rfl rfl (fun a' w' F' E' => o_fieldAddr (F'.ev rfl) ⟨Ext.refl _ _, rfl⟩) ?_
              refine mKG hok rfl rfl rfl rfl (fun a' w' F' E' => o_loadWA (M1.later E') (F'.ev rfl) (by assumption) (by first | assumption | rfl) ⟨Ext.refl _ _, rfl⟩) ?_
              (refine mKG hok rfl rfl rfl rfl (fun a' w' F' E' => o_call (F'.ev rfl) (F'.evs rfl) (Cal.mono (hfe _ (hSs.later (M1.later E').ext)) fun _ _ hh => ⟨hh.2, hh.1⟩)) ?_)
              refine mKG hok rfl rfl rfl rfl (fun a' w' F' E' => o_not (F'.ev rfl) ⟨Ext.refl _ _, rfl⟩) ?_
              refine mK hok rfl rfl (fun a' w' F' E' => o_pickF (F'.ev rfl) (F'.ev rfl) ⟨Ext.refl _ _, rfl⟩) ?_
              (refine mDone rfl rfl ?_; clear F; clear M; intro a w F hE2 hX hTT hDD hPP; have M := M1.later hE2; clear M1; clear hX; clear hE2; clear hok; clear hE; clear hTT; clear hDD; clear hPP; (try dsimp only at F))
              with_reducible refine l_nil ?_
              with_reducible refine q_then ?_
              refine c_false F rfl rfl ?_
              with_reducible refine c_skip ?_
              with_reducible refine q_then ?_
              with_reducible refine c_seq ?_
              clear hov hoE hYi hdk2 hdk3 htk hfe hre
              have hol : (optsV now s cm t (l.take r')).length ≤ 512 := opts_len (by rw [List.length_take]; omega)
              replace F := F.only [16, 20, 21, 19, 69, 68, 67, 12, 15, 17, 0, 1, 2, 4, 22] rfl
              replace M := M.perm (l' := (b19, .cells (dvC t).toArray 45 (0, 0)) :: (bD, .cells (dvsC ds ++ junk).toArray 45 (0, 0)) :: (entO ++ (entR ++ (ent ++ entS)))) (by classical exact List.perm_iff_count.2 fun _ => by simp only [List.count_append, List.count_cons, List.count_nil, Nat.add_zero, Nat.zero_add] <;> ac_rfl)
              refine c_draw 11 F (by kernel_rfl) ?_
              intro w1 hE hok
              have M1 := M.later hE
              refine mK hok rfl rfl (fun a' w' F' E' => o_move (F'.ev rfl) ⟨Ext.refl _ _, rfl⟩) ?_
              refine mK hok rfl rfl (fun a' w' F' E' => o_move (F'.ev rfl) ⟨Ext.refl _ _, rfl⟩) ?_
              refine mK hok rfl rfl (fun a' w' F' E' => o_move (F'.ev rfl) ⟨Ext.refl _ _, rfl⟩) ?_
              refine mK hok rfl rfl (fun a' w' F' E' => o_indexSl (F'.ev rfl) (F'.ev rfl) (by omega) (by omega) ⟨Ext.refl _ _, rfl⟩) ?_
              refine mK hok rfl rfl (fun a' w' F' E' => o_fieldAddr (F'.ev rfl) ⟨Ext.refl _ _, rfl⟩) ?_
              refine mK hok rfl rfl (fun a' w' F' E' => o_loadW1 (M1.later E') (F'.ev rfl) (by assumption) (by first | assumption | rfl) ⟨Ext.refl _ _, rfl⟩) ?_
              refine mK hok rfl rfl (fun a' w' F' E' => o_move (F'.ev rfl) ⟨Ext.refl _ _, rfl⟩) ?_
              refine mK hok rfl rfl (fun a' w' F' E' => o_move (F'.ev rfl) ⟨Ext.refl _ _, rfl⟩) ?_
              refine mK hok rfl rfl (fun a' w' F' E' => o_indexSl (F'.ev rfl) (F'.ev rfl) (by omega) (by omega) ⟨Ext.refl _ _, rfl⟩) ?_
              refine mK hok rfl rfl (fun a' w' F' E' => o_fieldAddr (F'.ev rfl) ⟨Ext.refl _ _, rfl⟩) ?_
              refine mK hok rfl rfl (fun a' w' F' E' => o_loadWA (M1.later E') (F'.ev rfl) (by assumption) (by first | assumption | rfl) ⟨Ext.refl _ _, rfl⟩) ?_
              (refine mDone rfl rfl ?_; clear F; clear M; intro a w F hE2 hX hTT hDD hPP; have M := M1.later hE2; clear M1; clear hX; clear hE2; clear hok; clear hE; clear hTT; clear hDD; clear hPP; (try dsimp only at F))
              (refine stepN rfl F (o_mapUpdate (u := diV x.said) keyE_law M hOS (.cons (.cons (.app (.app (.app .here))))) (fun _ _ => trivial) (a := x.nb) trivial (F.ev rfl) (F.ev rfl) (F.ev rfl) ?_); clear F; clear M; intro entS2 w hOS2 M a F)
              replace M := M.perm (l' := (b19, .cells (dvC t).toArray 45 (0, 0)) :: (bD, .cells (dvsC ds ++ junk).toArray 45 (0, 0)) :: (entS2 ++ (entR ++ (ent ++ entO)))) (by classical exact List.perm_iff_count.2 fun _ => by simp only [List.count_append, List.count_cons, List.count_nil, Nat.add_zero, Nat.zero_add] <;> ac_rfl)
              with_reducible refine l_nil ?_
              with_reducible refine q_then ?_
              replace F := F.only [16, 20, 21, 19, 69, 68, 67, 12, 15, 17, 0, 1, 2, 4, 22] rfl
              refine c_draw 16 F (by kernel_rfl) ?_
              intro w1 hE hok
              have M1 := M.later hE
              refine mK hok rfl rfl (fun a' w' F' E' => o_move (F'.ev rfl) ⟨Ext.refl _ _, rfl⟩) ?_
              refine mK hok rfl rfl (fun a' w' F' E' => o_move (F'.ev rfl) ⟨Ext.refl _ _, rfl⟩) ?_
              refine mK hok rfl rfl (fun a' w' F' E' => o_move (F'.ev rfl) ⟨Ext.refl _ _, rfl⟩) ?_
              refine mK hok rfl rfl (fun a' w' F' E' => o_indexSl (F'.ev rfl) (F'.ev rfl) (by omega) (by omega) ⟨Ext.refl _ _, rfl⟩) ?_
              refine mK hok rfl rfl (fun a' w' F' E' => o_fieldAddr (F'.ev rfl) ⟨Ext.refl _ _, rfl⟩) ?_
              refine mK hok rfl rfl (fun a' w' F' E' => o_loadW1 (M1.later E') (F'.ev rfl) (by assumption) (by first | assumption | rfl) ⟨Ext.refl _ _, rfl⟩) ?_
              refine mK hok rfl rfl (fun a' w' F' E' => o_move (F'.ev rfl) ⟨Ext.refl _ _, rfl⟩) ?_
              refine mK hok rfl rfl (fun a' w' F' E' => o_move (F'.ev rfl) ⟨Ext.refl _ _, rfl⟩) ?_
              refine mK hok rfl rfl (fun a' w' F' E' => o_indexSl (F'.ev rfl) (F'.ev rfl) (by omega) (by omega) ⟨Ext.refl _ _, rfl⟩) ?_
              refine mK hok rfl rfl (fun a' w' F' E' => o_fieldAddr (F'.ev rfl) ⟨Ext.refl _ _, rfl⟩) ?_
              refine mK hok rfl rfl (fun a' w' F' E' => o_fieldAddr (F'.ev rfl) ⟨Ext.refl _ _, rfl⟩) ?_
              refine mK hok rfl rfl (fun a' w' F' E' => o_loadW1 (M1.later E') (F'.ev rfl) (by assumption) (by first | assumption | rfl) ⟨Ext.refl _ _, rfl⟩) ?_
              refine mK hok rfl rfl (fun a' w' F' E' => o_move (F'.ev rfl) ⟨Ext.refl _ _, rfl⟩) ?_
              (refine mK hok rfl rfl (fun a' w' F' E' => o_call (F'.ev rfl) (F'.evs rfl) (Cal.mono (addM_c x.said.met c _) fun _ _ hh => ⟨hh.2, hh.1⟩)) ?_)
              refine mK hok rfl rfl (fun a' w' F' E' => o_build F' rfl rfl ⟨Ext.refl _ _, rfl⟩) ?_
              refine mX (V := NewP w1.heap.size (PhO ⟨x.nb, addM x.said.met c⟩)) hok rfl rfl (NewP.stays _ _) (fun a' w' F' E' D' => bsO ⟨x.nb, addM x.said.met c⟩ F' E' rfl) ?_
              (refine mDone rfl rfl ?_; clear F; clear M; intro a w F hE2 hX hTT hDD hPP; have M := M1.later hE2; (try dsimp only at F); obtain ⟨new, hΦ, hN⟩ := hX 15 _ rfl; replace M := M.joinNew M1 hN; obtain ⟨b148, hr, rfl⟩ := hΦ; replace F := F.know (d := 148) hr; clear hr; clear hN; clear M1; clear hX; clear hE2; clear hok; clear hE; clear hTT; clear hDD; clear hPP)
              replace M := M.perm (l' := (b148, opO ⟨x.nb, addM x.said.met c⟩) :: (b19, .cells (dvC t).toArray 45 (0, 0)) :: (bD, .cells (dvsC ds ++ junk).toArray 45 (0, 0)) :: (entS2 ++ (entR ++ (ent ++ entO)))) (by classical exact List.perm_iff_count.2 fun _ => by simp only [List.count_append, List.count_cons, List.count_nil, Nat.add_zero, Nat.zero_add] <;> ac_rfl)
              (refine stepD rfl F rfl (o_append hOO M (.cons (.cons (.cons (.app (.app (.app .here)))))) (F.ev rfl) (F.ev rfl) (SrcOf.cells' (M.heap .here) (sg_all (op_len (o := ⟨x.nb, addM x.said.met c⟩) trivial)) (op_one _)) (by omega) (by omega) ?_); clear F; clear M; intro zO2 entO2 w hOO2 M a F)
              refine stepD rfl F rfl (o_assign (F.ev rfl) ?_); clear F; clear a; intro a F
              with_reducible refine l_nil ?_
              with_reducible refine q_inB ?_
              refine ⟨zO2, entO2, entS2, ?_, ?_, F.only [16, 20, 21, 19, 69, 68, 67, 12, 15, 17, 0, 1, 2, 4] rfl, (M.perm (l' := (entS2 ++ (entO2 ++ ((b19, .cells (dvC t).toArray 45 (0, 0)) :: (bD, .cells (dvsC ds ++ junk).toArray 45 (0, 0)) :: (entR ++ ent)))) ++ [(b148, opO ⟨x.nb, addM x.said.met c⟩)]) (by classical exact List.perm_iff_count.2 fun _ => by simp only [List.count_append, List.count_cons, List.count_nil, Nat.add_zero, Nat.zero_add] <;> ac_rfl)).sub (List.sublist_append_left _ _)⟩
              · rw [show (some (⟨x.nb, addM x.said.met c⟩ : OptV)).toList = [⟨x.nb, addM x.said.met c⟩] from rfl, List.length_append]
                show OwnS _ 2 _ _ (encL opC _) _
                rw [encL_app, encL_one]
                exact hOO2
              · rw [if_pos (show (some (⟨x.nb, addM x.said.met c⟩ : OptV)).isSome = true from rfl)]
                unfold mapQ
                rw [← putA_map]
                exact hOS2
          · clear F M
            rintro a w ⟨zO2, entO2, entS2, hOO2, hOS2, F, M⟩
            with_reducible refine q_then ?_
            with_reducible refine c_region ?_
            refine stepD rfl F rfl (o_move (F.ev rfl) ?_); clear F; clear a; intro a F
            refine stepD rfl F rfl (o_add (F.ev rfl) (F.ev rfl) (w_i64 (by omega) (by omega)) ?_); clear F; clear a; intro a F
            refine stepD rfl F rfl (o_assign (F.ev rfl) ?_); clear F; clear a; intro a F
            with_reducible refine l_nil ?_
            with_reducible refine q_then ?_
            exact ⟨_, by omega, r' + 1, zO2, entO2, entS2, rfl, by omega, by omega, fun j hj h1 h2 => by
              rcases Nat.lt_or_ge j r' with h3 | h3
              · exact hre j hj h1 h3
              · obtain rfl : j = r' := by omega
                rw [← hx0]; exact he, hOO2, hOS2, F.only [16, 20, 21, 19, 69, 68, 67, 12, 15, 17, 0, 1, 2, 4] rfl, M⟩
        · rw [decide_eq_false he] at g8
          refine c_draw 13 F (by kernel_rfl) ?_
          intro w1 hE hok
          have M1 := M.later hE
          refine mK hok rfl rfl (fun a' w' F' E' => o_move (F'.ev rfl) ⟨Ext.refl _ _, rfl⟩) ?_
          refine mK hok rfl rfl (fun a' w' F' E' => o_move (F'.ev rfl) ⟨Ext.refl _ _, rfl⟩) ?_
          refine mK hok rfl rfl (fun a' w' F' E' => o_lenSl (F'.ev rfl) ⟨Ext.refl _ _, rfl⟩) ?_
          refine mK hok rfl rfl (fun a' w' F' E' => o_lssT (F'.ev rfl) (F'.ev rfl) (by omega) ⟨Ext.refl _ _, rfl⟩) ?_
          refine mK hok rfl rfl (fun a' w' F' E' => o_move (F'.ev rfl) ⟨Ext.refl _ _, rfl⟩) ?_
          refine mKG hok rfl rfl rfl rfl (fun a' w' F' E' => o_move (F'.ev rfl) ⟨Ext.refl _ _, rfl⟩) ?_
          refine mKG hok rfl rfl rfl rfl (fun a' w' F' E' => o_move (F'.ev rfl) ⟨Ext.refl _ _, rfl⟩) ?_
          refine mKG hok rfl rfl rfl rfl (fun a' w' F' E' => o_indexSl (F'.ev rfl) (F'.ev rfl) (by omega) (by omega) ⟨Ext.refl _ _, rfl⟩) ?_
          refine mKG hok rfl rfl rfl rfl (fun a' w' F' E' => o_fieldAddr (F'.ev rfl) ⟨Ext.refl _ _, rfl⟩) ?_
          refine mKG hok rfl rfl rfl rfl (fun a' w' F' E' => o_loadWA (M1.later E') (F'.ev rfl) (by assumption) (by first | assumption | rfl) ⟨Ext.refl _ _, rfl⟩) ?_
          refine mKG hok rfl rfl rfl rfl (fun a' w' F' E' => o_loadA (M1.later E') (F'.ev rfl) (by repeat (first | exact .here | apply Has.there)) (by first | assumption | rfl) ⟨Ext.refl _ _, rfl⟩) ?_
          refine mKG hok rfl rfl rfl rfl (fun a' w' F' E' => o_eqlAF (F'.ev rfl) (F'.ev rfl) (by first | assumption | rfl) (by first | assumption | rfl) (by assumption) ⟨Ext.refl _ _, rfl⟩) ?_
          refine mK hok rfl rfl (fun a' w' F' E' => o_pickT (F'.ev rfl) (F'.ev rfl) ⟨Ext.refl _ _, rfl⟩) ?_
          (refine mDone rfl rfl ?_; clear F; clear M; intro a w F hE2 hX hTT hDD hPP; have M := M1.later hE2; clear M1; clear hX; clear hE2; clear hok; clear hE; clear hTT; clear hDD; clear hPP; (try dsimp only at F))
          with_reducible refine l_nil ?_
          with_reducible refine q_then ?_
          refine c_false F rfl rfl ?_
          with_reducible refine c_exit ?_
          with_reducible refine q_thenX ?_
          with_reducible refine q_thenX ?_
          with_reducible refine q_inBX ?_
          obtain ⟨h1, h2, h3⟩ := hend (fun hj => by rw [← hx0]; exact he)
          exact ⟨r', zO, entO, entS, h1, by rw [h2]; exact hOO, by rw [h3]; exact hOS, F.only [16, 20, 21, 19, 69, 68, 67, 12, 15, 17, 0, 1, 2, 4] rfl, M.perm (by classical exact List.perm_iff_count.2 fun _ => by simp only [List.count_append, List.count_cons, List.count_nil, Nat.add_zero, Nat.zero_add] <;> ac_rfl)⟩
      · with_reducible refine c_seq ?_
        with_reducible refine c_seq ?_
        refine c_draw 13 F (by kernel_rfl) ?_
        intro w1 hE hok
        have M1 := M.later hE
        refine mK hok rfl rfl (fun a' w' F' E' => o_move (F'.ev rfl) ⟨Ext.refl _ _, rfl⟩) ?_
        refine mK hok rfl rfl (fun a' w' F' E' => o_move (F'.ev rfl) ⟨Ext.refl _ _, rfl⟩) ?_
        refine mK hok rfl rfl (fun a' w' F' E' => o_lenSl (F'.ev rfl) ⟨Ext.refl _ _, rfl⟩) ?_
        refine mK hok rfl rfl (fun a' w' F' E' => o_lssF (F'.ev rfl) (F'.ev rfl) (by omega) ⟨Ext.refl _ _, rfl⟩) ?_
        refine mK hok rfl rfl (fun a' w' F' E' => o_move (F'.ev rfl) ⟨Ext.refl _ _, rfl⟩) ?_
        refine mOff hok rfl rfl rfl rfl rfl ?_
        refine mOff hok rfl rfl rfl rfl rfl ?_
        refine mOff hok rfl rfl rfl rfl rfl ?_
        refine mOff hok rfl rfl rfl rfl rfl ?_
        refine mOff hok rfl rfl rfl rfl rfl ?_
        refine mOff hok rfl rfl rfl rfl rfl ?_
        refine mOff hok rfl rfl rfl rfl rfl ?_
        refine mK hok rfl rfl (fun a' w' F' E' => o_pickF (F'.ev rfl) (F'.ev rfl) ⟨Ext.refl _ _, rfl⟩) ?_
        (refine mDone rfl rfl ?_; clear F; clear M; intro a w F hE2 hX hTT hDD hPP; have M := M1.later hE2; clear M1; clear hX; clear hE2; clear hok; clear hE; clear hTT; clear hDD; clear hPP; (try dsimp only at F))
        with_reducible refine l_nil ?_
        with_reducible refine q_then ?_
        refine c_false F rfl rfl ?_
        with_reducible refine c_exit ?_
        with_reducible refine q_thenX ?_
        with_reducible refine q_thenX ?_
        with_reducible refine q_inBX ?_
        obtain ⟨h1, h2, h3⟩ := hend (fun hj => absurd hj hlt2)
        exact ⟨r', zO, entO, entS, h1, by rw [h2]; exact hOO, by rw [h3]; exact hOS, F.only [16, 20, 21, 19, 69, 68, 67, 12, 15, 17, 0, 1, 2, 4] rfl, M⟩
    · clear F M
      rintro a w ⟨r1, zO, entO, entS, hYr1, hOO, hOS, F, M⟩
      clear hYr
      have hvO := hov t
      have hlO : (ds.take k).length = k := by rw [List.length_take]; omega
      have hlR : ((ds.take k).filterMap (selE now l s cm old)).length ≤ 1024 := by
        have := List.length_filterMap_le (selE now l s cm old) (ds.take k)
        omega
      refine q_then ?_
      repeat (with_reducible refine c_seq ?_)
      replace M := M.perm (l' := ((b19, .cells (dvC t).toArray 45 (0, 0)) :: (bD, .cells (dvsC ds ++ junk).toArray 45 (0, 0)) :: (entS ++ (entO ++ (entR ++ ent))))) (by classical exact List.perm_iff_count.2 fun _ => by simp only [List.count_append, List.count_cons, List.count_nil, Nat.add_zero, Nat.zero_add] <;> ac_rfl)
      refine c_cut (fun a w => ∃ had : Bool, (had = true → ∃ hil : i < old.length, old[i].to = t) ∧ (had = false → ∀ hil : i < old.length, old[i].to ≠ t) ∧ Frm a 190 [] [(24, .bool had), (17, .int .i64 i), (16, .int .i64 r1), (20, zO), (21, .map (some bS)), (19, .pointer (some ⟨b19, 0, none⟩)), (69, .int .i64 k), (68, .int .i64 ds.length), (67, .slice (some ⟨bD, 0, none⟩) ds.length capd), (12, .map (some b12)), (15, z), (0, .int .i64 now), (1, .slice q l.length cap), (2, vs), (4, .slice qo old.length capo)] ∧ Mem [] W w ((b19, .cells (dvC t).toArray 45 (0, 0)) :: (bD, .cells (dvsC ds ++ junk).toArray 45 (0, 0)) :: (entS ++ (entO ++ (entR ++ ent))))) ?_ ?_
      · clear hov hoE hYi hdk2 hdk3 htk
        by_cases hil : i < old.length
        · obtain ⟨b, o, cs, t', fz, rfl, hb, hs⟩ := hmo (by omega)
          have g1 : seg cs (o + (i : Int).toNat * 40) 40 = some (inC old[i]) := seg_el (ins_len hy) hs hil (by omega)
          have hxv := hy _ (List.getElem_mem hil)
          obtain ⟨y, hy0⟩ : ∃ y, y = old[i] := ⟨_, rfl⟩
          rw [← hy0] at g1 hxv
          have g2 : seg cs (o + (i : Int).toNat * 40) 35 = some (dvC y.to) := sg_seg g1 (in_to hxv) (by omega)
          have g7 := dv_fits hxv.1
          have g8 := dv_eq hxv.1 ht
          by_cases he : y.to = t
          · rw [decide_eq_true he] at g8
            refine c_draw 13 F (by kernel_rfl) ?_
            intro w1 hE hok
            have M1 := M.later hE
            refine mK hok rfl rfl (fun a' w' F' E' => o_move (F'.ev rfl) ⟨Ext.refl _ _, rfl⟩) ?_
            refine mK hok rfl rfl (fun a' w' F' E' => o_move (F'.ev rfl) ⟨Ext.refl _ _, rfl⟩) ?_
            refine mK hok rfl rfl (fun a' w' F' E' => o_lenSl (F'.ev rfl) ⟨Ext.refl _ _, rfl⟩) ?_
            refine mK hok rfl rfl (fun a' w' F' E' => o_lssT (F'.ev rfl) (F'.ev rfl) (by omega) ⟨Ext.refl _ _, rfl⟩) ?_
            refine mK hok rfl rfl (fun a' w' F' E' => o_move (F'.ev rfl) ⟨Ext.refl _ _, rfl⟩) ?_
            refine mKG hok rfl rfl rfl rfl (fun a' w' F' E' => o_move (F'.ev rfl) ⟨Ext.refl _ _, rfl⟩) ?_
            refine mKG hok rfl rfl rfl rfl (fun a' w' F' E' => o_move (F'.ev rfl) ⟨Ext.refl _ _, rfl⟩) ?_
            refine mKG hok rfl rfl rfl rfl (fun a' w' F' E' => o_indexSl (F'.ev rfl) (F'.ev rfl) (by omega) (by omega) ⟨Ext.refl _ _, rfl⟩) ?_
            refine mKG hok rfl rfl rfl rfl (fun a' w' F' E' => o_fieldAddr (F'.ev rfl) ⟨Ext.refl _ _, rfl⟩) ?_
            refine mKG hok rfl rfl rfl rfl (fun a' w' F' E' => o_loadWA (M1.later E') (F'.ev rfl) (by assumption) (by first | assumption | rfl) ⟨Ext.refl _ _, rfl⟩) ?_
            refine mKG hok rfl rfl rfl rfl (fun a' w' F' E' => o_loadA (M1.later E') (F'.ev rfl) (by repeat (first | exact .here | apply Has.there)) (by first | assumption | rfl) ⟨Ext.refl _ _, rfl⟩) ?_
            refine mKG hok rfl rfl rfl rfl (fun a' w' F' E' => o_eqlAT (F'.ev rfl) (F'.ev rfl) (by first | assumption | rfl) (by first | assumption | rfl) (by assumption) ⟨Ext.refl _ _, rfl⟩) ?_
            refine mK hok rfl rfl (fun a' w' F' E' => o_pickT (F'.ev rfl) (F'.ev rfl) ⟨Ext.refl _ _, rfl⟩) ?_
            (refine mDone rfl rfl ?_; clear F; clear M; intro a w F hE2 hX hTT hDD hPP; have M := M1.later hE2; clear M1; clear hX; clear hE2; clear hok; clear hE; clear hTT; clear hDD; clear hPP; (try dsimp only at F))
            refine stepD rfl F rfl (o_assign (F.ev rfl) ?_); clear F; clear a; intro a F
            with_reducible refine l_nil ?_
            exact ⟨true, fun _ => ⟨hil, by rw [← hy0]; exact he⟩, fun h => (by cases h), F.only [24, 17, 16, 20, 21, 19, 69, 68, 67, 12, 15, 0, 1, 2, 4] rfl, M⟩
          · rw [decide_eq_false he] at g8
            refine c_draw 13 F (by kernel_rfl) ?_
            intro w1 hE hok
            have M1 := M.later hE
            refine mK hok rfl rfl (fun a' w' F' E' => o_move (F'.ev rfl) ⟨Ext.refl _ _, rfl⟩) ?_
            refine mK hok rfl rfl (fun a' w' F' E' => o_move (F'.ev rfl) ⟨Ext.refl _ _, rfl⟩) ?_
            refine mK hok rfl rfl (fun a' w' F' E' => o_lenSl (F'.ev rfl) ⟨Ext.refl _ _, rfl⟩) ?_
            refine mK hok rfl rfl (fun a' w' F' E' => o_lssT (F'.ev rfl) (F'.ev rfl) (by omega) ⟨Ext.refl _ _, rfl⟩) ?_
            refine mK hok rfl rfl (fun a' w' F' E' => o_move (F'.ev rfl) ⟨Ext.refl _ _, rfl⟩) ?_
            refine mKG hok rfl rfl rfl rfl (fun a' w' F' E' => o_move (F'.ev rfl) ⟨Ext.refl _ _, rfl⟩) ?_
            refine mKG hok rfl rfl rfl rfl (fun a' w' F' E' => o_move (F'.ev rfl) ⟨Ext.refl _ _, rfl⟩) ?_
            refine mKG hok rfl rfl rfl rfl (fun a' w' F' E' => o_indexSl (F'.ev rfl) (F'.ev rfl) (by omega) (by omega) ⟨Ext.refl _ _, rfl⟩) ?_
            refine mKG hok rfl rfl rfl rfl (fun a' w' F' E' => o_fieldAddr (F'.ev rfl) ⟨Ext.refl _ _, rfl⟩) ?_
            refine mKG hok rfl rfl rfl rfl (fun a' w' F' E' => o_loadWA (M1.later E') (F'.ev rfl) (by assumption) (by first | assumption | rfl) ⟨Ext.refl _ _, rfl⟩) ?_
            refine mKG hok rfl rfl rfl rfl (fun a' w' F' E' => o_loadA (M1.later E') (F'.ev rfl) (by repeat (first | exact .here | apply Has.there)) (by first | assumption | rfl) ⟨Ext.refl _ _, rfl⟩) ?_
            refine mKG hok rfl rfl rfl rfl (fun a' w' F' E' => o_eqlAF (F'.ev rfl) (F'.ev rfl) (by first | assumption | rfl) (by first | assumption | rfl) (by assumption) ⟨Ext.refl _ _, rfl⟩) ?_
            refine mK hok rfl rfl (fun a' w' F' E' => o_pickT (F'.ev rfl) (F'.ev rfl) ⟨Ext.refl _ _, rfl⟩) ?_
            (refine mDone rfl rfl ?_; clear F; clear M; intro a w F hE2 hX hTT hDD hPP; have M := M1.later hE2; clear M1; clear hX; clear hE2; clear hok; clear hE; clear hTT; clear hDD; clear hPP; (try dsimp only at F))
            refine stepD rfl F rfl (o_assign (F.ev rfl) ?_); clear F; clear a; intro a F
            with_reducible refine l_nil ?_
            exact ⟨false, fun h => (by cases h), fun _ _ => by rw [← hy0]; exact he, F.only [24, 17, 16, 20, 21, 19, 69, 68, 67, 12, 15, 0, 1, 2, 4] rfl, M⟩
        · refine c_draw 13 F (by kernel_rfl) ?_
          intro w1 hE hok
          have M1 := M.later hE
          refine mK hok rfl rfl (fun a' w' F' E' => o_move (F'.ev rfl) ⟨Ext.refl _ _, rfl⟩) ?_
          refine mK hok rfl rfl (fun a' w' F' E' => o_move (F'.ev rfl) ⟨Ext.refl _ _, rfl⟩) ?_
          refine mK hok rfl rfl (fun a' w' F' E' => o_lenSl (F'.ev rfl) ⟨Ext.refl _ _, rfl⟩) ?_
          refine mK hok rfl rfl (fun a' w' F' E' => o_lssF (F'.ev rfl) (F'.ev rfl) (by omega) ⟨Ext.refl _ _, rfl⟩) ?_
          refine mK hok rfl rfl (fun a' w' F' E' => o_move (F'.ev rfl) ⟨Ext.refl _ _, rfl⟩) ?_
          refine mOff hok rfl rfl rfl rfl rfl ?_
          refine mOff hok rfl rfl rfl rfl rfl ?_
          refine mOff hok rfl rfl rfl rfl rfl ?_
          refine mOff hok rfl rfl rfl rfl rfl ?_
          refine mOff hok rfl rfl rfl rfl rfl ?_
          refine mOff hok rfl rfl rfl rfl rfl ?_
          refine mOff hok rfl rfl rfl rfl rfl ?_
          refine mK hok rfl rfl (fun a' w' F' E' => o_pickF (F'.ev rfl) (F'.ev rfl) ⟨Ext.refl _ _, rfl⟩) ?_
          (refine mDone rfl rfl ?_; clear F; clear M; intro a w F hE2 hX hTT hDD hPP; have M := M1.later hE2; clear M1; clear hX; clear hE2; clear hok; clear hE; clear hTT; clear hDD; clear hPP; (try dsimp only at F))
          refine stepD rfl F rfl (o_assign (F.ev rfl) ?_); clear F; clear a; intro a F
          with_reducible refine l_nil ?_
          exact ⟨false, fun h => (by cases h), fun _ h => absurd h hil, F.only [24, 17, 16, 20, 21, 19, 69, 68, 67, 12, 15, 0, 1, 2, 4] rfl, M⟩
      clear F M
      rintro a w ⟨had, hh1, hh2, F, M⟩
      with_reducible refine q_then ?_
      with_reducible refine c_seq ?_
      with_reducible refine c_region ?_
      (refine stepD rfl F rfl (o_alloc M ?_); clear F; clear M; intro b25 w M a F)
      with_reducible refine l_nil ?_
      with_reducible refine q_then ?_
      with_reducible refine c_seq ?_
      with_reducible refine c_seq ?_
      with_reducible refine c_region ?_
      refine stepD rfl F rfl (o_move (F.ev rfl) ?_); clear F; clear a; intro a F
      with_reducible refine l_nil ?_
      with_reducible refine q_then ?_
      refine c_cut (fun a w => ∃ (y : InsV) (i' : Nat), IsIn y ∧ (had = true → ins1 y = true) ∧ oldV old t = oldB y had ∧ Yet InsV.to old (ds.drop (k + 1)) i' ∧ Frm a 190 [] [(24, .bool had), (25, .pointer (some ⟨b25, 0, none⟩)), (17, .int .i64 i'), (16, .int .i64 r1), (20, zO), (21, .map (some bS)), (19, .pointer (some ⟨b19, 0, none⟩)), (69, .int .i64 k), (68, .int .i64 ds.length), (67, .slice (some ⟨bD, 0, none⟩) ds.length capd), (12, .map (some b12)), (15, z), (0, .int .i64 now), (1, .slice q l.length cap), (2, vs), (4, .slice qo old.length capo)] ∧ Mem [] W w ((b25, .cells (inC y).toArray 50 (0, 0)) :: ((b19, .cells (dvC t).toArray 45 (0, 0)) :: (bD, .cells (dvsC ds ++ junk).toArray 45 (0, 0)) :: (entS ++ (entO ++ (entR ++ ent)))))) ?_ ?_
      · cases had with
        | false =>
          have hn := hh2 rfl
          obtain ⟨h1, h2⟩ := Yet.next hwN hdk2 hdk3 hYi (Nat.le_refl _) hYi.le (fun j hj h1 h2 => absurd h2 (by omega)) hn
          have hov2 : oldV old t = none := oldV_no fun j hj => by
            rcases Nat.lt_or_ge j i with h3 | h3
            · exact hYi.before j hj h3
            · exact h2 j hj h3
          refine c_false F rfl rfl ?_
          with_reducible refine c_skip ?_
          exact ⟨in0, i, in0_is, fun h => (by cases h), hov2, h1, F.only [24, 25, 17, 16, 20, 21, 19, 69, 68, 67, 12, 15, 0, 1, 2, 4] rfl, M⟩
        | true =>
          obtain ⟨hil, he⟩ := hh1 rfl
          obtain ⟨b, o, cs, t', fz, rfl, hb, hs⟩ := hmo (by omega)
          have g1 : seg cs (o + (i : Int).toNat * 40) 40 = some (inC old[i]) := seg_el (ins_len hy) hs hil (by omega)
          have hxv := hy _ (List.getElem_mem hil)
          have hnx := Yet.next (r1 := i + 1) hwN hdk2 hdk3 hYi (by omega) (by omega) (fun j hj h1 h2 => by
            obtain rfl : j = i := by omega
            exact he) (fun hj e => by
            have h3 := (List.pairwise_iff_getElem.1 hascN) i (i + 1) hil hj (by omega)
            unfold cmpN at h3
            rw [e, he, cmpD_self] at h3
            omega)
          have hov2 : oldV old t = some old[i] := oldV_at hil he hYi.before
          have hin := hins _ (List.getElem_mem hil)
          obtain ⟨y, hy0⟩ : ∃ y, y = old[i] := ⟨_, rfl⟩
          rw [← hy0] at g1 hxv hov2 hin
          clear he
          refine c_true F rfl rfl ?_
          with_reducible refine c_seq ?_
          with_reducible refine c_region ?_
          refine stepD rfl F rfl (o_move (F.ev rfl) ?_); clear F; clear a; intro a F
          refine stepD rfl F rfl (o_move (F.ev rfl) ?_); clear F; clear a; intro a F
          refine stepD rfl F rfl (o_indexSl (F.ev rfl) (F.ev rfl) (by omega) (by omega) ?_); clear F; clear a; intro a F
          refine stepD rfl F rfl (o_loadWA M (F.ev rfl) (by assumption) (by first | assumption | rfl) ?_); clear F; clear a; intro a F
          (refine stepN rfl F (o_storeA M (F.ev rfl) (F.ev rfl) (in_len hxv) (in_one y)  (by repeat (first | exact .here | apply Has.there))  (put_all (by rw [in_len hxv]; rfl)) (by repeat (first | exact .here | apply Upd.there)) ?_); clear F; clear M; intro w M a F)
          with_reducible refine l_nil ?_
          with_reducible refine q_then ?_
          with_reducible refine c_region ?_
          refine stepD rfl F rfl (o_move (F.ev rfl) ?_); clear F; clear a; intro a F
          refine stepD rfl F rfl (o_add (F.ev rfl) (F.ev rfl) (w_i64 (by omega) (by omega)) ?_); clear F; clear a; intro a F
          refine stepD rfl F rfl (o_assign (F.ev rfl) ?_); clear F; clear a; intro a F
          with_reducible refine l_nil ?_
          exact ⟨y, i + 1, hxv, fun _ => hin, hov2, hnx.1, F.only [24, 25, 17, 16, 20, 21, 19, 69, 68, 67, 12, 15, 0, 1, 2, 4] rfl, M⟩
      clear F M
      rintro a w ⟨y, i', hyI, hy1, hov2, hYi2, F, M⟩
      have hEq : selE now l s cm old t = aftV now t (oldB y had) (optsV now s cm t l) (saidV now s cm t l) := by
        unfold selE
        rw [hov2]
      rw [hEq] at htk
      have hEI : ∀ e, aftV now t (oldB y had) (optsV now s cm t l) (saidV now s cm t l) = some e → IsIn e := fun e h => hoE t ht e (by rw [hEq]; exact h)
      have haf := after_c now c5 t ht y hyI had hy1 (optsV now s cm t l) hvO zO (saidV now s cm t l) (.map (some bS))
      obtain ⟨E, hE⟩ : ∃ E, E = aftV now t (oldB y had) (optsV now s cm t l) (saidV now s cm t l) := ⟨_, rfl⟩
      rw [← hE] at htk hEI haf
      have hgI : IsIn (E.getD in0) := by
        cases E with
        | none => exact in0_is
        | some e => exact hEI e rfl
      have y1 := in_all hyI
      have e1 := in_all hgI
      have e2 := in_len hgI
      with_reducible refine q_then ?_
      with_reducible refine c_seq ?_
      with_reducible refine c_region ?_
      refine stepD rfl F rfl (o_move (F.ev rfl) ?_); clear F; clear a; intro a F
      refine stepD rfl F rfl (o_loadA M (F.ev rfl) (by repeat (first | exact .here | apply Has.there)) (by first | assumption | rfl) ?_); clear F; clear a; intro a F
      refine stepD rfl F rfl (o_loadA M (F.ev rfl) (by repeat (first | exact .here | apply Has.there)) (by first | assumption | rfl) ?_); clear F; clear a; intro a F
      refine stepD rfl F rfl (o_move (F.ev rfl) ?_); clear F; clear a; intro a F
      refine stepD rfl F rfl (o_move (F.ev rfl) ?_); clear F; clear a; intro a F
      refine stepD rfl F rfl (o_move (F.ev rfl) ?_); clear F; clear a; intro a F
      (refine stepD rfl F rfl (o_call (F.ev rfl) (F.evs rfl) (Cal.mono (haf _ (hOO.slAt M (fun p hp => by simp [hp])) (hOS.at_ (fun p hp => M.at_ p (by simp [hp])))) ?_)); clear F; clear a; rintro _ w ⟨rfl, hE⟩ a F; replace M := M.later hE; clear hE)
      refine stepD rfl F rfl (o_move (F.ev rfl) ?_); clear F; clear a; intro a F
      refine stepD rfl F rfl (o_extract (F.ev rfl) rfl ?_); clear F; clear a; intro a F
      refine stepD rfl F rfl (o_extract (F.ev rfl) rfl ?_); clear F; clear a; intro a F
      (refine stepD rfl F rfl (o_alloc M ?_); clear F; clear M; intro b26 w M a F)
      (refine stepN rfl F (o_storeA M (F.ev rfl) (F.ev rfl) (e2) (in_one _)  (by repeat (first | exact .here | apply Has.there))  (put_all (by rw [e2]; rfl)) (by repeat (first | exact .here | apply Upd.there)) ?_); clear F; clear M; intro w M a F)
      cases E with
      | none =>
        have htk2 : (ds.take (k + 1)).filterMap (selE now l s cm old) = (ds.take k).filterMap (selE now l s cm old) := by rw [htk]; simp
        refine stepD rfl F rfl (o_assign (F.ev rfl) ?_); clear F; clear a; intro a F
        with_reducible refine l_nil ?_
        with_reducible refine q_then ?_
        with_reducible refine c_seq ?_
        with_reducible refine c_region ?_
        refine stepD rfl F rfl (o_move (F.ev rfl) ?_); clear F; clear a; intro a F
        with_reducible refine l_nil ?_
        with_reducible refine q_then ?_
        refine c_false F rfl rfl ?_
        with_reducible refine c_skip ?_
        with_reducible refine q_inB ?_
        with_reducible refine q_then ?_
        with_reducible refine c_region ?_
        refine stepD rfl F rfl (o_add (F.ev rfl) (F.ev rfl) (w_i64 (by omega) (by omega)) ?_); clear F; clear a; intro a F
        refine stepD rfl F rfl (o_move (F.ev rfl) ?_); clear F; clear a; intro a F
        with_reducible refine l_nil ?_
        with_reducible refine q_then ?_
        exact ⟨_, by omega, k + 1, r1, i', z, entR, rfl, by omega, hYr1, hYi2, by rw [htk2]; exact hR, F.only [69, 68, 67, 12, 15, 16, 17, 0, 1, 2, 4] rfl, (M.perm (l' := (entR ++ ([(bD, .cells (dvsC ds ++ junk).toArray 45 (0, 0))] ++ ent)) ++ ((b26, .cells (inC ((none : Option InsV).getD in0)).toArray 50 (0, 0)) :: (b25, .cells (inC y).toArray 50 (0, 0)) :: (b19, .cells (dvC t).toArray 45 (0, 0)) :: (entS ++ entO))) (by classical exact List.perm_iff_count.2 fun _ => by simp only [List.count_append, List.count_cons, List.count_nil, Nat.add_zero, Nat.zero_add] <;> ac_rfl)).sub (List.sublist_append_left _ _)⟩
      | some e =>
        have htk2 : (ds.take (k + 1)).filterMap (selE now l s cm old) = (ds.take k).filterMap (selE now l s cm old) ++ [e] := by rw [htk]; rfl
        have heI := hEI e rfl
        have e3 : seg (inC e) 0 40 = some (inC e) := in_all heI
        replace M := M.perm (l' := (b26, .cells (inC e).toArray 50 (0, 0)) :: (b25, .cells (inC y).toArray 50 (0, 0)) :: (b19, .cells (dvC t).toArray 45 (0, 0)) :: (bD, .cells (dvsC ds ++ junk).toArray 45 (0, 0)) :: (entS ++ (entO ++ (ent ++ entR)))) (by classical exact List.perm_iff_count.2 fun _ => by simp only [List.count_append, List.count_cons, List.count_nil, Nat.add_zero, Nat.zero_add] <;> ac_rfl)
        refine stepD rfl F rfl (o_assign (F.ev rfl) ?_); clear F; clear a; intro a F
        with_reducible refine l_nil ?_
        with_reducible refine q_then ?_
        with_reducible refine c_seq ?_
        with_reducible refine c_region ?_
        refine stepD rfl F rfl (o_move (F.ev rfl) ?_); clear F; clear a; intro a F
        with_reducible refine l_nil ?_
        with_reducible refine q_then ?_
        refine c_true F rfl rfl ?_
        with_reducible refine c_region ?_
        refine stepD rfl F rfl (o_move (F.ev rfl) ?_); clear F; clear a; intro a F
        refine stepD rfl F rfl (o_loadA M (F.ev rfl) (by repeat (first | exact .here | apply Has.there)) (by first | assumption | rfl) ?_); clear F; clear a; intro a F
        (refine stepD rfl F rfl (o_buildSlice F M rfl rfl rfl (in_build1 heI) ?_); clear F; clear M; intro b183 w M a F)
        (refine stepD rfl F rfl (o_append hR M (.cons (.cons (.cons (.cons (.cons (.app (.app (.app .here)))))))) (F.ev rfl) (F.ev rfl) (SrcOf.cells' (M.heap .here) (sg_all (in_len heI)) (in_one _)) (by omega) (by omega) ?_); clear F; clear M; intro z2 entR2 w hR2 M a F)
        refine stepD rfl F rfl (o_assign (F.ev rfl) ?_); clear F; clear a; intro a F
        with_reducible refine l_nil ?_
        with_reducible refine q_inB ?_
        with_reducible refine q_then ?_
        with_reducible refine c_region ?_
        refine stepD rfl F rfl (o_add (F.ev rfl) (F.ev rfl) (w_i64 (by omega) (by omega)) ?_); clear F; clear a; intro a F
        refine stepD rfl F rfl (o_move (F.ev rfl) ?_); clear F; clear a; intro a F
        with_reducible refine l_nil ?_
        with_reducible refine q_then ?_
        refine ⟨_, by omega, k + 1, r1, i', z2, entR2, rfl, by omega, hYr1, hYi2, ?_, F.only [69, 68, 67, 12, 15, 16, 17, 0, 1, 2, 4] rfl, (M.perm (l' := (entR2 ++ ([(bD, .cells (dvsC ds ++ junk).toArray 45 (0, 0))] ++ ent)) ++ ((b183, .cells (inC e).toArray 50 (0, 0)) :: (b26, .cells (inC e).toArray 50 (0, 0)) :: (b25, .cells (inC y).toArray 50 (0, 0)) :: (b19, .cells (dvC t).toArray 45 (0, 0)) :: (entS ++ entO))) (by classical exact List.perm_iff_count.2 fun _ => by simp only [List.count_append, List.count_cons, List.count_nil, Nat.add_zero, Nat.zero_add] <;> ac_rfl)).sub (List.sublist_append_left _ _)⟩
        rw [htk2, List.length_append]
        show OwnS _ 40 _ _ (encL inC _) _
        rw [encL_app, encL_one]
        exact hR2
  · obtain rfl : k = ds.length := by omega
    rw [List.take_length] at hR
    obtain ⟨pz, cz, rfl⟩ := hR.slice
    clear hD hov hoE
    by_cases c9 : 512 < (ds.filterMap (selE now l s cm old)).length
    · rw [if_pos c9] at hL
      rw [hL]
      with_reducible refine c_seq ?_
      with_reducible refine c_region ?_
      refine stepD rfl F rfl (o_lssF (F.ev rfl) (F.ev rfl) (by omega) ?_); clear F; clear a; intro a F
      with_reducible refine l_nil ?_
      with_reducible refine q_then ?_
      with_reducible refine c_seq ?_
      refine c_false F rfl rfl ?_
      with_reducible refine c_exit ?_
      with_reducible refine q_thenX ?_
      with_reducible refine q_thenX ?_
      with_reducible refine q_inBX ?_
      with_reducible refine q_then ?_
      with_reducible refine c_seq ?_
      with_reducible refine c_seq ?_
      with_reducible refine c_region ?_
      refine stepD rfl F rfl (o_move (F.ev rfl) ?_); clear F; clear a; intro a F
      refine stepD rfl F rfl (o_lenSl (F.ev rfl) ?_); clear F; clear a; intro a F
      refine stepD rfl F rfl (o_gtrT (F.ev rfl) (F.ev rfl) (by omega) ?_); clear F; clear a; intro a F
      with_reducible refine l_nil ?_
      with_reducible refine q_then ?_
      refine c_true F rfl rfl ?_
      with_reducible refine c_seq ?_
      with_reducible refine c_region ?_
      refine stepD rfl F rfl (o_assign (F.ev rfl) ?_); clear F; clear a; intro a F
      refine stepD rfl F rfl (o_assign (F.ev rfl) ?_); clear F; clear a; intro a F
      with_reducible refine l_nil ?_
      with_reducible refine q_then ?_
      with_reducible refine c_ret ?_
      with_reducible refine q_thenR ?_
      refine p_ret F rfl (.cons (.tmp (F.ev rfl)) (.cons (.tmp (F.ev rfl)) .nil)) ?_
      exact ⟨.slice none 0 0, [], rfl, OwnS.nil _ _, M.sub (List.nil_sublist _)⟩
    · rw [if_neg c9] at hL
      rw [hL]
      with_reducible refine c_seq ?_
      with_reducible refine c_region ?_
      refine stepD rfl F rfl (o_lssF (F.ev rfl) (F.ev rfl) (by omega) ?_); clear F; clear a; intro a F
      with_reducible refine l_nil ?_
      with_reducible refine q_then ?_
      with_reducible refine c_seq ?_
      refine c_false F rfl rfl ?_
      with_reducible refine c_exit ?_
      with_reducible refine q_thenX ?_
      with_reducible refine q_thenX ?_
      with_reducible refine q_inBX ?_
      with_reducible refine q_then ?_
      with_reducible refine c_seq ?_
      with_reducible refine c_seq ?_
      with_reducible refine c_region ?_
      refine stepD rfl F rfl (o_move (F.ev rfl) ?_); clear F; clear a; intro a F
      refine stepD rfl F rfl (o_lenSl (F.ev rfl) ?_); clear F; clear a; intro a F
      refine stepD rfl F rfl (o_gtrF (F.ev rfl) (F.ev rfl) (by omega) ?_); clear F; clear a; intro a F
      with_reducible refine l_nil ?_
      with_reducible refine q_then ?_
      refine c_false F rfl rfl ?_
      with_reducible refine c_skip ?_
      with_reducible refine q_then ?_
      with_reducible refine c_seq ?_
      with_reducible refine c_region ?_
      refine stepD rfl F rfl (o_move (F.ev rfl) ?_); clear F; clear a; intro a F
      refine stepD rfl F rfl (o_assign (F.ev rfl) ?_); clear F; clear a; intro a F
      refine stepD rfl F rfl (o_assign (F.ev rfl) ?_); clear F; clear a; intro a F
      with_reducible refine l_nil ?_
      with_reducible refine q_then ?_
      with_reducible refine c_ret ?_
      refine p_ret F rfl (.cons (.tmp (F.ev rfl)) (.cons (.tmp (F.ev rfl)) .nil)) ?_
      exact ⟨_, entR, rfl, hR, M.sub (List.sublist_append_left _ _)⟩
end Go.Proofs.YtilgoepokaaleaaGreat
/-! ZG -/
namespace Go.Proofs.YtilgoepokaaleaaGreat
set_option linter.unusedVariables false
set_option linter.unusedSimpArgs false
open Go.RowKit
attribute [local irreducible] OpTo wpListIn Code.wpIn MW Cal
def hostD (n r : Int) : DstV := ⟨[32, 1, 0, 0, 0, 0, 0, 0, 0, 0, 0, 0, 0, 0, 0, n], 128, nul16, 0, r⟩
theorem hostD_is {n r : Int} (h0 : 0 ≤ n) (h1 : n < 256) : IsDv (hostD n r) := ⟨⟨rfl, by intro x hx; simp [hostD] at hx; omega⟩, nul16_is⟩
theorem host_c (n r : Int) (h0 : 0 ≤ n) (h1 : n < 256) (r0 : 0 ≤ r) (r1 : r < 100000) (W : World) : Cal Tryz.prog 30 [.int .i64 n, .int .i64 r].toArray W fun v w' => v = .agg (dvC (hostD n r)).toArray ∧ Ext [] W w' := by
  refine fn_ofM (n := 12) [] Tryz.func30 rfl rfl rfl ?_
  intro a w F M hwW
  refine c_seq ?_
  refine c_region ?_
  (refine stepD rfl F rfl (o_alloc M ?_); clear F; clear M; intro b4 w M a F)
  with_reducible refine l_nil ?_
  with_reducible refine q_then ?_
  with_reducible refine c_seq ?_
  with_reducible refine c_region ?_
  refine stepD rfl F rfl (o_move (F.ev rfl) ?_); clear F; clear a; intro a F
  refine stepD rfl F rfl (o_conv (F.ev rfl) (w_u8 (by omega) (by omega)) ?_); clear F; clear a; intro a F
  refine stepD rfl F rfl (o_build F rfl rfl ?_); clear F; clear a; intro a F
  refine stepD rfl F rfl (o_build F rfl rfl ?_); clear F; clear a; intro a F
  refine stepD rfl F rfl (o_move (F.ev rfl) ?_); clear F; clear a; intro a F
  refine stepD rfl F rfl (o_conv (F.ev rfl) (w_u64 (by omega) (by omega)) ?_); clear F; clear a; intro a F
  refine stepD rfl F rfl (o_build F rfl rfl ?_); clear F; clear a; intro a F
  (refine stepN rfl F (o_storeA M (F.ev rfl) (F.ev rfl) (by rfl) (by rfl) (by repeat (first | exact .here | apply Has.there)) (by rfl) (by repeat (first | exact .here | apply Upd.there)) ?_); clear F; clear M; intro w M a F)
  with_reducible refine l_nil ?_
  with_reducible refine q_then ?_
  with_reducible refine c_ret ?_
  exact p_ret F rfl (.cons (.cell (F.ev rfl) (run_loadVar_agg TAgg.h (M.heap (by repeat (first | exact .here | apply Has.there))) rfl)) .nil) ⟨rfl, M.ext⟩
def kL : RouV := ⟨hostD 1 9, 2, ⟨3, 100⟩, 15⟩
def kI : InsV := ⟨hostD 1 9, 2, ⟨3, 356⟩, -1, 0⟩
def kH : InsV := ⟨hostD 1 9, 0, ⟨3, 65535⟩, -1, 21⟩
def kO : OptV := ⟨2, 256⟩
def kIP : List Int := [32, 1, 0, 0, 0, 0, 0, 0, 0, 0, 0, 0, 0, 0, 0, 1]
def kZ : DstV := ⟨nul16, 0, nul16, 0, 0⟩
theorem k_is : IsDv (hostD 1 9) := hostD_is (by omega) (by omega)
theorem kL_is : IsRo kL := ⟨k_is, trivial⟩
theorem kI_is : IsIn kI := ⟨k_is, trivial⟩
theorem kH_is : IsIn kH := ⟨k_is, trivial⟩
theorem kIP_is : IsIP kIP := ⟨rfl, by intro x hx; simp [kIP] at hx; omega⟩
theorem kZ_is : IsDv kZ := ⟨nul16_is, nul16_is⟩
theorem kLearn : learnV [] 5 (hostD 1 9) 2 ⟨3, 100⟩ = ([kL], 0) := by decide +kernel
theorem kSel1 : selectV 6 [kL] [] [kO] [] = ([kI], 0) := by decide +kernel
theorem kSel2 : selectV 7 [] [] [kO] [kI] = ([kH], 0) := by decide +kernel
theorem kLook1 : lookV [kI] nul16 kIP kZ false = (kI, 0) := by decide +kernel
theorem kLook2 : lookV [kH] nul16 kIP kZ false = (in0, 15) := by decide +kernel
theorem slAtO {w : World} {b : Nat} {x : OptV} {t : TypeId} {fz : Nat × Nat} (h : w.heap[b]? = some (.cells (opC x).toArray t fz)) : SlAt w 2 (.slice (some ⟨b, 0, none⟩) 1 1) 1 (opsC [x]) :=
  ⟨_, _, rfl, Nat.le_refl _, by simp, by rw [show opsC [x] = opC x from encL_one _ _, op_len (o := x) trivial], fun _ => ⟨b, 0, _, _, _, rfl, h, by rw [show opsC [x] = opC x from encL_one _ _]; exact sg_all (op_len (o := x) trivial)⟩⟩
set_option maxHeartbeats 8000000 in
theorem known27_c (W : World) : Cal Tryz.prog 19 [].toArray W fun r w' => r = .bool true ∧ Ext [] W w' := by
  refine fn_ofM (n := 89) [] Tryz.func19 rfl rfl rfl ?_
  intro a w F M hwW
  with_reducible refine c_seq ?_
  with_reducible refine c_region ?_
  refine stepD rfl F rfl (o_assign (F.ev rfl) ?_); clear F; clear a; intro a F
  with_reducible refine l_nil ?_
  with_reducible refine q_then ?_
  with_reducible refine c_seq ?_
  with_reducible refine c_region ?_
  (refine stepD rfl F rfl (o_call (F.ev rfl) (F.evs rfl) (Cal.mono (host_c 1 9 (by omega) (by omega) (by omega) (by omega) _) ?_)); clear F; clear a; rintro _ w ⟨rfl, hE⟩ a F; replace M := M.later hE; clear hE)
  refine stepD rfl F rfl (o_build F rfl rfl ?_); clear F; clear a; intro a F
  (refine stepD rfl F rfl (o_call (F.ev rfl) (F.evs (vs := [.slice none 0 0, .int .i64 5, .agg (dvC (hostD 1 9)).toArray, .int .u64 2, .agg (diC ⟨3, 100⟩).toArray]) rfl) (Cal.mono (learn_c [] (by simp) (.slice none 0 0) 5 (hostD 1 9) k_is 2 ⟨3, 100⟩ (by decide) _ (SlAt.nil _ _)) ?_)); clear F; clear a; rintro _ w ⟨u, e1, rfl, hO1, N⟩ a F; replace M := M.joins N; clear N)
  rw [kLearn] at F hO1
  dsimp only at F hO1
  obtain ⟨p1, c1, rfl⟩ := hO1.slice
  refine stepD rfl F rfl (o_move (F.ev rfl) ?_); clear F; clear a; intro a F
  refine stepD rfl F rfl (o_extract (F.ev rfl) rfl ?_); clear F; clear a; intro a F
  refine stepD rfl F rfl (o_extract (F.ev rfl) rfl ?_); clear F; clear a; intro a F
  refine stepD rfl F rfl (o_assign (F.ev rfl) ?_); clear F; clear a; intro a F
  refine stepD rfl F rfl (o_assign (F.ev rfl) ?_); clear F; clear a; intro a F
  with_reducible refine l_nil ?_
  with_reducible refine q_then ?_
  with_reducible refine c_seq ?_
  with_reducible refine c_region ?_
  refine stepD rfl F rfl (o_build F rfl rfl ?_); clear F; clear a; intro a F
  (refine stepD rfl F rfl (o_buildSlice F M rfl rfl rfl rfl ?_); clear F; clear M; intro b19 w M a F)
  replace M : Mem [] W w ((b19, opO kO) :: (e1 ++ [])) := M
  refine stepD rfl F rfl (o_assign (F.ev rfl) ?_); clear F; clear a; intro a F
  with_reducible refine l_nil ?_
  with_reducible refine q_then ?_
  with_reducible refine c_seq ?_
  with_reducible refine c_region ?_
  refine stepD rfl F rfl (o_move (F.ev rfl) ?_); clear F; clear a; intro a F
  refine stepD rfl F rfl (o_move (F.ev rfl) ?_); clear F; clear a; intro a F
  (refine stepD rfl F rfl (o_call (F.ev rfl) (F.evs rfl) (Cal.mono (select_c 6 [kL] (by simpa using kL_is) [] (by simp) [kO] [] (by simp) _ (.slice none 0 0) (.slice (some ⟨b19, 0, none⟩) 1 1) (.slice none 0 0) _ (hO1.slAt M (fun q hq => by simp [hq])) (SlAt.nil _ _) (slAtO (x := kO) (M.heap .here)) (SlAt.nil _ _)) ?_)); clear F; clear a; rintro _ w ⟨u, e2, rfl, hO2, N⟩ a F; replace M := M.joins N; clear N)
  rw [kSel1] at F hO2
  dsimp only at F hO2
  obtain ⟨p2, c2, rfl⟩ := hO2.slice
  refine stepD rfl F rfl (o_move (F.ev rfl) ?_); clear F; clear a; intro a F
  refine stepD rfl F rfl (o_extract (F.ev rfl) rfl ?_); clear F; clear a; intro a F
  refine stepD rfl F rfl (o_extract (F.ev rfl) rfl ?_); clear F; clear a; intro a F
  refine stepD rfl F rfl (o_assign (F.ev rfl) ?_); clear F; clear a; intro a F
  refine stepD rfl F rfl (o_assign (F.ev rfl) ?_); clear F; clear a; intro a F
  with_reducible refine l_nil ?_
  with_reducible refine q_then ?_
  with_reducible refine c_seq ?_
  with_reducible refine c_region ?_
  refine stepD rfl F rfl (o_move (F.ev rfl) ?_); clear F; clear a; intro a F
  refine stepD rfl F rfl (o_build F rfl rfl ?_); clear F; clear a; intro a F
  refine stepD rfl F rfl (o_build F rfl rfl ?_); clear F; clear a; intro a F
  refine stepD rfl F rfl (o_build F rfl rfl ?_); clear F; clear a; intro a F
  (refine stepD rfl F rfl (o_call (F.ev rfl) (F.evs (vs := [.slice p2 [kI].length c2, .agg (ipC nul16).toArray, .agg (ipC kIP).toArray, .agg (dvC kZ).toArray, .bool false]) rfl) (Cal.mono (lookup_c [kI] (by simpa using kI_is) _ nul16 kIP nul16_is kIP_is kZ kZ_is false _ (hO2.slAt M (fun q hq => by simp [hq]))) ?_)); clear F; clear a; rintro _ w ⟨rfl, hE⟩ a F; replace M := M.later hE; clear hE)
  rw [kLook1] at F
  dsimp only at F
  refine stepD rfl F rfl (o_move (F.ev rfl) ?_); clear F; clear a; intro a F
  refine stepD rfl F rfl (o_extract (F.ev rfl) rfl ?_); clear F; clear a; intro a F
  refine stepD rfl F rfl (o_extract (F.ev rfl) rfl ?_); clear F; clear a; intro a F
  (refine stepD rfl F rfl (o_alloc M ?_); clear F; clear M; intro b6 w M a F)
  (refine stepN rfl F (o_storeA M (F.ev rfl) (F.ev rfl) (in_len kI_is) (in_one _)  (by repeat (first | exact .here | apply Has.there))  (put_all (by rw [in_len kI_is]; rfl)) (by repeat (first | exact .here | apply Upd.there)) ?_); clear F; clear M; intro w M a F)
  refine stepD rfl F rfl (o_assign (F.ev rfl) ?_); clear F; clear a; intro a F
  with_reducible refine l_nil ?_
  with_reducible refine q_then ?_
  with_reducible refine c_seq ?_
  with_reducible refine c_region ?_
  refine stepD rfl F rfl (o_move (F.ev rfl) ?_); clear F; clear a; intro a F
  refine stepD rfl F rfl (o_move (F.ev rfl) ?_); clear F; clear a; intro a F
  (refine stepD rfl F rfl (o_call (F.ev rfl) (F.evs rfl) (Cal.mono (select_c 7 [] (by simp) [] (by simp) [kO] [kI] (by simpa using kI_is) (.slice none 0 0) (.slice none 0 0) (.slice (some ⟨b19, 0, none⟩) 1 1) _ _ (SlAt.nil _ _) (SlAt.nil _ _) (slAtO (x := kO) (M.at_ (b19, opO kO) (by simp))) (hO2.slAt M (fun q hq => by simp [hq]))) ?_)); clear F; clear a; rintro _ w ⟨u, e3, rfl, hO3, N⟩ a F; replace M := M.joins N; clear N)
  rw [kSel2] at F hO3
  dsimp only at F hO3
  obtain ⟨p3, c3, hp3⟩ := hO3.slice
  rcases hO3 with ⟨_, h0, _, _⟩ | ⟨bH, cH, junk, rfl, rfl, hxl, hjl, hnc⟩
  · simp at h0
  have hO3 : OwnS 50 40 (.slice (some ⟨bH, 0, none⟩) [kH].length cH) [kH].length (insC [kH]) [(bH, .cells (insC [kH] ++ junk).toArray 50 (0, 0))] := .inr ⟨bH, cH, junk, rfl, rfl, hxl, hjl, hnc⟩
  clear hp3 hxl hjl hnc
  refine stepD rfl F rfl (o_move (F.ev rfl) ?_); clear F; clear a; intro a F
  refine stepD rfl F rfl (o_extract (F.ev rfl) rfl ?_); clear F; clear a; intro a F
  refine stepD rfl F rfl (o_extract (F.ev rfl) rfl ?_); clear F; clear a; intro a F
  refine stepD rfl F rfl (o_assign (F.ev rfl) ?_); clear F; clear a; intro a F
  refine stepD rfl F rfl (o_assign (F.ev rfl) ?_); clear F; clear a; intro a F
  with_reducible refine l_nil ?_
  with_reducible refine q_then ?_
  with_reducible refine c_seq ?_
  with_reducible refine c_region ?_
  refine stepD rfl F rfl (o_move (F.ev rfl) ?_); clear F; clear a; intro a F
  refine stepD rfl F rfl (o_build F rfl rfl ?_); clear F; clear a; intro a F
  refine stepD rfl F rfl (o_build F rfl rfl ?_); clear F; clear a; intro a F
  refine stepD rfl F rfl (o_build F rfl rfl ?_); clear F; clear a; intro a F
  (refine stepD rfl F rfl (o_call (F.ev rfl) (F.evs (vs := [.slice (some ⟨bH, 0, none⟩) [kH].length cH, .agg (ipC nul16).toArray, .agg (ipC kIP).toArray, .agg (dvC kZ).toArray, .bool false]) rfl) (Cal.mono (lookup_c [kH] (by simpa using kH_is) _ nul16 kIP nul16_is kIP_is kZ kZ_is false _ (hO3.slAt M (fun q hq => by simp at hq; simp [hq]))) ?_)); clear F; clear a; rintro _ w ⟨rfl, hE⟩ a F; replace M := M.later hE; clear hE)
  rw [kLook2] at F
  dsimp only at F
  refine stepD rfl F rfl (o_move (F.ev rfl) ?_); clear F; clear a; intro a F
  refine stepD rfl F rfl (o_extract (F.ev rfl) rfl ?_); clear F; clear a; intro a F
  refine stepD rfl F rfl (o_extract (F.ev rfl) rfl ?_); clear F; clear a; intro a F
  (refine stepD rfl F rfl (o_alloc M ?_); clear F; clear M; intro b10 w M a F)
  (refine stepN rfl F (o_storeA M (F.ev rfl) (F.ev rfl) (in_len in0_is) (in_one _)  (by repeat (first | exact .here | apply Has.there))  (put_all (by rw [in_len in0_is]; rfl)) (by repeat (first | exact .here | apply Upd.there)) ?_); clear F; clear M; intro w M a F)
  replace M := M.perm (l' := (b6, .cells (inC kI).toArray 50 (0, 0)) :: (bH, .cells (insC [kH] ++ junk).toArray 50 (0, 0)) :: (b10, .cells (inC in0).toArray 50 (0, 0)) :: (e2 ++ ((b19, opO kO) :: (e1 ++ [])))) (by classical exact List.perm_iff_count.2 fun _ => by simp only [List.count_append, List.count_cons, List.count_nil, Nat.add_zero, Nat.zero_add] <;> ac_rfl)
  have g1 : seg (insC [kH] ++ junk) (0 + (0 : Int).toNat * 40) 40 = some (inC kH) := own_el (ls := [kH]) (by simpa using in_len kH_is) junk (show 0 < [kH].length by simp) (by simp)
  have g2 : nth (insC [kH] ++ junk) (0 + (0 : Int).toNat * 40 + 39) = some (.int .i64 21) := sg_nth g1 (in_til kH_is) (by omega)
  have g3 := in_nb kI_is
  have g4 := in_own kI_is
  rw [show [kH].length = 1 from rfl] at F
  refine stepD rfl F rfl (o_assign (F.ev rfl) ?_); clear F; clear a; intro a F
  with_reducible refine l_nil ?_
  with_reducible refine q_then ?_
  with_reducible refine c_seq ?_
  with_reducible refine c_region ?_
  refine stepD rfl F rfl (o_move (F.ev rfl) ?_); clear F; clear a; intro a F
  refine stepD rfl F rfl (o_eqlT (F.ev rfl) (F.ev rfl) (by omega) ?_); clear F; clear a; intro a F
  refine stepD rfl F rfl (o_move (F.ev rfl) ?_); clear F; clear a; intro a F
  refine stepG rfl F rfl rfl rfl (o_move (F.ev rfl) ?_); clear F; clear a; intro a F
  refine stepG rfl F rfl rfl rfl (o_eqlT (F.ev rfl) (F.ev rfl) (by omega) ?_); clear F; clear a; intro a F
  refine stepD rfl F rfl (o_pickT (F.ev rfl) (F.ev rfl) ?_); clear F; clear a; intro a F
  refine stepD rfl F rfl (o_move (F.ev rfl) ?_); clear F; clear a; intro a F
  refine stepG rfl F rfl rfl rfl (o_move (F.ev rfl) ?_); clear F; clear a; intro a F
  refine stepG rfl F rfl rfl rfl (o_eqlT (F.ev rfl) (F.ev rfl) (by omega) ?_); clear F; clear a; intro a F
  refine stepD rfl F rfl (o_pickT (F.ev rfl) (F.ev rfl) ?_); clear F; clear a; intro a F
  refine stepD rfl F rfl (o_move (F.ev rfl) ?_); clear F; clear a; intro a F
  refine stepG rfl F rfl rfl rfl (o_move (F.ev rfl) ?_); clear F; clear a; intro a F
  refine stepG rfl F rfl rfl rfl (o_eqlT (F.ev rfl) (F.ev rfl) (by omega) ?_); clear F; clear a; intro a F
  refine stepD rfl F rfl (o_pickT (F.ev rfl) (F.ev rfl) ?_); clear F; clear a; intro a F
  refine stepD rfl F rfl (o_move (F.ev rfl) ?_); clear F; clear a; intro a F
  refine stepG rfl F rfl rfl rfl (o_move (F.ev rfl) ?_); clear F; clear a; intro a F
  refine stepG rfl F rfl rfl rfl (o_eqlT (F.ev rfl) (F.ev rfl) (by omega) ?_); clear F; clear a; intro a F
  refine stepD rfl F rfl (o_pickT (F.ev rfl) (F.ev rfl) ?_); clear F; clear a; intro a F
  refine stepD rfl F rfl (o_move (F.ev rfl) ?_); clear F; clear a; intro a F
  refine stepG rfl F rfl rfl rfl (o_fieldAddr (F.ev rfl) ?_); clear F; clear a; intro a F
  refine stepG rfl F rfl rfl rfl (o_load1 M (F.ev rfl) (by repeat (first | exact .here | apply Has.there)) (by first | assumption | rfl) ?_); clear F; clear a; intro a F
  refine stepG rfl F rfl rfl rfl (o_eql (F.ev rfl) (F.ev rfl) ?_); clear F; clear a; intro a F
  refine stepD rfl F rfl (o_pickT (F.ev rfl) (F.ev rfl) ?_); clear F; clear a; intro a F
  refine stepD rfl F rfl (o_move (F.ev rfl) ?_); clear F; clear a; intro a F
  refine stepG rfl F rfl rfl rfl (o_fieldAddr (F.ev rfl) ?_); clear F; clear a; intro a F
  refine stepG rfl F rfl rfl rfl (o_loadA M (F.ev rfl) (by repeat (first | exact .here | apply Has.there)) (by first | assumption | rfl) ?_); clear F; clear a; intro a F
  refine stepG rfl F rfl rfl rfl (o_build F rfl rfl ?_); clear F; clear a; intro a F
  refine stepG rfl F rfl rfl rfl (o_eqlA (F.ev rfl) (F.ev rfl) (by first | assumption | rfl) (by first | assumption | rfl) ?_); clear F; clear a; intro a F
  refine stepD rfl F rfl (o_pickT (F.ev rfl) (F.ev rfl) ?_); clear F; clear a; intro a F
  refine stepD rfl F rfl (o_move (F.ev rfl) ?_); clear F; clear a; intro a F
  refine stepG rfl F rfl rfl rfl (o_move (F.ev rfl) ?_); clear F; clear a; intro a F
  refine stepG rfl F rfl rfl rfl (o_lenSl (F.ev rfl) ?_); clear F; clear a; intro a F
  refine stepG rfl F rfl rfl rfl (o_eqlT (F.ev rfl) (F.ev rfl) (by omega) ?_); clear F; clear a; intro a F
  refine stepD rfl F rfl (o_pickT (F.ev rfl) (F.ev rfl) ?_); clear F; clear a; intro a F
  refine stepD rfl F rfl (o_move (F.ev rfl) ?_); clear F; clear a; intro a F
  refine stepG rfl F rfl rfl rfl (o_move (F.ev rfl) ?_); clear F; clear a; intro a F
  refine stepG rfl F rfl rfl rfl (o_indexSl (F.ev rfl) (F.ev rfl) (by omega) (by omega) ?_); clear F; clear a; intro a F
  refine stepG rfl F rfl rfl rfl (o_fieldAddr (F.ev rfl) ?_); clear F; clear a; intro a F
  refine stepG rfl F rfl rfl rfl (o_load1 M (F.ev rfl) (by repeat (first | exact .here | apply Has.there)) (by first | assumption | rfl) ?_); clear F; clear a; intro a F
  refine stepG rfl F rfl rfl rfl (o_eqlT (F.ev rfl) (F.ev rfl) (by omega) ?_); clear F; clear a; intro a F
  refine stepD rfl F rfl (o_pickT (F.ev rfl) (F.ev rfl) ?_); clear F; clear a; intro a F
  refine stepD rfl F rfl (o_assign (F.ev rfl) ?_); clear F; clear a; intro a F
  with_reducible refine l_nil ?_
  with_reducible refine q_then ?_
  with_reducible refine c_ret ?_
  refine p_ret F rfl (.cons (.tmp (F.ev rfl)) .nil) ?_
  exact ⟨rfl, M.ext⟩
end Go.Proofs.YtilgoepokaaleaaGreat
/-! ZH -/
namespace Go.Proofs.YtilgoepokaaleaaGreat
set_option linter.unusedVariables false
set_option linter.unusedSimpArgs false
open Go.RowKit
def k5 : OptV := ⟨5, 300⟩
section
variable {t : DstV} {d : DisV} {now til : Int}
theorem feas_nil : feasV [] now t d = finD d := by
  unfold feasV bestS
  simp
end
end Go.Proofs.YtilgoepokaaleaaGreat
/-! ZM -/
namespace Go.Proofs.YtilgoepokaaleaaGreat
set_option linter.unusedVariables false
set_option linter.unusedSimpArgs false
open Go.RowKit
theorem bst_fold : ∀ (l : List OptV) (b : OptV), ((l.foldl (fun b o => if o.cost < b.cost then o else b) b = b ∨ (l.foldl (fun b o => if o.cost < b.cost then o else b) b ∈ l ∧ (l.foldl (fun b o => if o.cost < b.cost then o else b) b).cost < b.cost)) ∧ (l.foldl (fun b o => if o.cost < b.cost then o else b) b).cost ≤ b.cost ∧ ∀ o ∈ l, (l.foldl (fun b o => if o.cost < b.cost then o else b) b).cost ≤ o.cost)
  | [], b => by simp
  | a :: l, b => by
    rw [List.foldl_cons]
    obtain ⟨h1, h2, h3⟩ := bst_fold l (if a.cost < b.cost then a else b)
    generalize l.foldl (fun b o => if o.cost < b.cost then o else b) (if a.cost < b.cost then a else b) = r at *
    by_cases h : a.cost < b.cost
    · rw [if_pos h] at h1 h2
      refine ⟨.inr ⟨?_, by omega⟩, by omega, fun o ho => ?_⟩
      · rcases h1 with rfl | h1
        · simp
        · exact List.mem_cons_of_mem _ h1.1
      · rcases List.mem_cons.1 ho with rfl | ho
        · exact h2
        · exact h3 o ho
    · rw [if_neg h] at h1 h2
      refine ⟨?_, h2, fun o ho => ?_⟩
      · rcases h1 with rfl | h1
        · exact .inl rfl
        · exact .inr ⟨List.mem_cons_of_mem _ h1.1, h1.2⟩
      · rcases List.mem_cons.1 ho with rfl | ho
        · omega
        · exact h3 o ho
theorem bst_is (l : List OptV) : bstO l = none0 ∨ (bstO l ∈ l ∧ (bstO l).cost < inf) := (bst_fold l none0).1
theorem bst_le {l : List OptV} {o : OptV} (h : o ∈ l) : (bstO l).cost ≤ o.cost := (bst_fold l none0).2.2 o h
theorem prv_fold (nb : Int) : ∀ (l : List OptV) (b : OptV), l.foldl (fun c o => if o.cost < inf ∧ o.nb = nb then o else c) b = b ∨ (l.foldl (fun c o => if o.cost < inf ∧ o.nb = nb then o else c) b ∈ l ∧ (l.foldl (fun c o => if o.cost < inf ∧ o.nb = nb then o else c) b).cost < inf ∧ (l.foldl (fun c o => if o.cost < inf ∧ o.nb = nb then o else c) b).nb = nb)
  | [], b => by simp
  | a :: l, b => by
    rw [List.foldl_cons]
    have h1 := prv_fold nb l (if a.cost < inf ∧ a.nb = nb then a else b)
    generalize l.foldl (fun c o => if o.cost < inf ∧ o.nb = nb then o else c) (if a.cost < inf ∧ a.nb = nb then a else b) = r at *
    by_cases h : a.cost < inf ∧ a.nb = nb
    · rw [if_pos h] at h1
      rcases h1 with rfl | h1
      · exact .inr ⟨by simp, h⟩
      · exact .inr ⟨List.mem_cons_of_mem _ h1.1, h1.2⟩
    · rw [if_neg h] at h1
      rcases h1 with rfl | h1
      · exact .inl rfl
      · exact .inr ⟨List.mem_cons_of_mem _ h1.1, h1.2⟩
theorem prv_is (nb : Int) (l : List OptV) : prvO nb l = none0 ∨ (prvO nb l ∈ l ∧ (prvO nb l).cost < inf ∧ (prvO nb l).nb = nb) := prv_fold nb l none0
theorem mem_opts {now : Int} {s : List SrcV} {cm : List (Int × Int)} {t : DstV} {l : List RouV} {q : OptV} : q ∈ optsV now s cm t l ↔ ∃ r ∈ l, r.to = t ∧ optV now s cm t r = some q := by
  unfold optsV
  simp only [List.mem_filterMap, List.mem_filter, decide_eq_true_eq, and_assoc]
theorem optV_is {now : Int} {s : List SrcV} {cm : List (Int × Int)} {t : DstV} {r : RouV} {q : OptV} : optV now s cm t r = some q ↔ ∃ c, getA r.nb cm = some c ∧ now < r.til ∧ feasV s now t r.said = true ∧ q = ⟨r.nb, addM r.said.met c⟩ := by
  unfold optV
  cases hc : getA r.nb cm with
  | none => simp
  | some c =>
    dsimp only
    by_cases h : r.til ≤ now
    · simp [h]
      intro _ _
      omega
    · cases hf : feasV s now t r.said
      · simp [h]
      · simp [h]
        constructor
        · rintro rfl
          exact ⟨by omega, rfl⟩
        · exact fun h => h.2.symm
theorem costM_ex {z : OptV} {l : List OptV} (h : z ∈ l) : ∃ c, getA z.nb (costM l) = some c := by
  have key : ∀ (l : List OptV) (m : List (Int × Int)), (z ∈ l ∨ ∃ c, getA z.nb m = some c) → ∃ c, getA z.nb (l.foldl (fun m o => putA o.nb (lkC o.cost) m) m) = some c := by
    intro l
    induction l with
    | nil => intro m h; exact h.resolve_left (by simp)
    | cons o l ih =>
      intro m h
      rw [List.foldl_cons]
      refine ih _ ?_
      rw [getA_put]
      by_cases e : z.nb = o.nb
      · rw [if_pos e]
        exact .inr ⟨_, rfl⟩
      · rw [if_neg e]
        rcases h with h | h
        · rcases List.mem_cons.1 h with rfl | h
          · exact absurd rfl e
          · exact .inl h
        · exact .inr h
  exact key l [] (.inl h)
theorem asc_one {α : Type} {cm : α → α → Int} {l : List α} (h : AscC cm l) {a b : α} (ha : a ∈ l) (hb : b ∈ l) (hab : ¬ cm a b < 0) (hba : ¬ cm b a < 0) : a = b := by
  obtain ⟨i, hi, rfl⟩ := List.mem_iff_getElem.1 ha
  obtain ⟨j, hj, rfl⟩ := List.mem_iff_getElem.1 hb
  rcases Nat.lt_trichotomy i j with e | e | e
  · exact absurd (List.pairwise_iff_getElem.1 h i j hi hj e) hab
  · subst e; rfl
  · exact absurd (List.pairwise_iff_getElem.1 h j i hj hi e) hba
theorem opt_one {l : List OptV} (h : validOs l = true) {a b : OptV} (ha : a ∈ l) (hb : b ∈ l) (e : a.nb = b.nb) : a = b := by
  refine asc_one (validOs_iff.1 h).2.2 ha hb ?_ ?_ <;> (unfold cmpO; rw [cmpI_lt]; omega)
theorem costM_at {l : List OptV} (h : validOs l = true) {z : OptV} (hz : z ∈ l) : getA z.nb (costM l) = some (lkC z.cost) := by
  obtain ⟨c, hc⟩ := costM_ex hz
  obtain ⟨o, h1, h2, rfl⟩ := costM_mem hc
  rw [hc, opt_one h h1 hz h2]
theorem selE_to {now : Int} {s : List SrcV} {cm : List (Int × Int)} {t : DstV} {l : List RouV} {old : List InsV} {x : InsV} (h : selE now l s cm old t = some x) : x.to = t := by
  unfold selE aftV at h
  dsimp only at h
  split at h
  · cases h; rfl
  · cases ho : oldV old t with
    | none => rw [ho] at h; cases h
    | some o =>
      have h2 : o.to = t := of_decide_eq_true (by simpa using List.find?_some ho)
      rw [ho] at h
      dsimp only at h
      split at h
      · cases h; rfl
      · split at h
        · cases h; exact h2
        · cases h
theorem lkC_pos (c : Int) : 1 ≤ lkC c ∧ c ≤ lkC c := by
  unfold lkC
  split <;> omega
theorem mem_dests {l : List RouV} {old : List InsV} (hi : ∀ x ∈ l, IsRo x) (ho : ∀ x ∈ old, IsIn x) {t : DstV} : t ∈ destsV l old ↔ (∃ r ∈ l, r.to = t) ∨ ∃ x ∈ old, x.to = t := by
  unfold destsV
  rw [(foldr_insD (l := allD l old) (fun x hx => by
    unfold allD at hx
    rcases List.mem_append.1 hx with h | h
    · obtain ⟨r, hr, rfl⟩ := List.mem_map.1 h
      exact (hi r hr).1
    · obtain ⟨r, hr, rfl⟩ := List.mem_map.1 h
      exact (ho r hr).1)).2]
  unfold allD
  simp only [List.mem_append, List.mem_map]
/-- the way with the smallest sum -/
theorem best_law {now : Int} {l : List RouV} {o : List OptV} (hi : ∀ x ∈ l, IsRo x) (hl : validRs l = true) (ho : validOs o = true) {y : RouV} (hy : y ∈ l) {z : OptV} (hz : z ∈ o) (ht : now < y.til) (hn : y.nb = z.nb) (hs : y.said.met + lkC z.cost < inf) :
    ∃ x, (selV now l [] o []).find? (fun x => decide (x.to = y.to)) = some x ∧ x.own.met ≤ y.said.met + lkC z.cost := by
  have hy1 := (validRs_iff.1 hl).2.1 y hy
  have hz1 := (validOs_iff.1 ho).2.1 z hz
  unfold rou1 at hy1
  simp only [Bool.and_eq_true, Bool.not_eq_true', decide_eq_false_iff_not] at hy1
  obtain ⟨⟨⟨_, hy2⟩, hy3⟩, _⟩ := hy1
  have hy4 := hy3
  unfold finD at hy4
  simp only [Bool.and_eq_true] at hy4
  have hy5 := hy4.1
  unfold validM at hy5
  simp only [Bool.and_eq_true, decide_eq_true_eq] at hy5
  have g5 := lkC_pos z.cost
  have hadd : addM y.said.met (lkC z.cost) = y.said.met + lkC z.cost := by
    unfold addM validM
    unfold inf at *
    rw [if_pos (by simp; omega)]
    omega
  have ho1 : optV now [] (costM o) y.to y = some ⟨y.nb, y.said.met + lkC z.cost⟩ := optV_is.2 ⟨lkC z.cost, by rw [hn]; exact costM_at ho hz, ht, by rw [feas_nil]; exact hy3, by rw [hadd]⟩
  have hmem := mem_opts.2 ⟨y, hy, rfl, ho1⟩
  have hb := bst_le hmem
  dsimp only at hb
  have hb0 : bstO (optsV now [] (costM o) y.to l) ≠ none0 := fun e => by rw [e] at hb; unfold none0 at hb; dsimp only at hb; omega
  have hbm := (bst_is _).resolve_left hb0
  have hprv : prvO 0 (optsV now [] (costM o) y.to l) = none0 := (prv_is 0 _).resolve_right fun h => by
    obtain ⟨r, hr, _, hro⟩ := mem_opts.1 h.1
    obtain ⟨c, _, _, _, e⟩ := optV_is.1 hro
    have := (validRs_iff.1 hl).2.1 r hr
    unfold rou1 at this
    simp only [Bool.and_eq_true, Bool.not_eq_true', decide_eq_false_iff_not] at this
    refine this.1.1.2 ?_
    rw [← h.2.2, e]
  have hcho : chooseV now (befV none) (optsV now [] (costM o) y.to l) = ⟨(bstO (optsV now [] (costM o) y.to l)).nb, (bstO (optsV now [] (costM o) y.to l)).cost, -1⟩ := by
    unfold chooseV
    rw [show (befV none).nb = 0 from rfl, hprv]
    unfold choB
    rw [if_pos rfl]
  have hbnb : (bstO (optsV now [] (costM o) y.to l)).nb ≠ 0 := by
    obtain ⟨r, hr, _, hro⟩ := mem_opts.1 hbm.1
    obtain ⟨c, _, _, _, e⟩ := optV_is.1 hro
    have := (validRs_iff.1 hl).2.1 r hr
    unfold rou1 at this
    simp only [Bool.and_eq_true, Bool.not_eq_true', decide_eq_false_iff_not] at this
    rw [e]
    exact this.1.1.2
  obtain ⟨x, hx, hxm⟩ : ∃ x, selE now l [] (costM o) [] y.to = some x ∧ x.own.met ≤ y.said.met + lkC z.cost := by
    unfold selE aftV
    rw [show oldV [] y.to = none from rfl, hcho]
    dsimp only
    rw [if_pos hbnb]
    exact ⟨_, rfl, hb⟩
  have hxs : x ∈ selV now l [] o [] := List.mem_filterMap.2 ⟨y.to, (mem_dests hi (by simp)).2 (.inl ⟨y, hy, rfl⟩), hx⟩
  cases hf : (selV now l [] o []).find? (fun x => decide (x.to = y.to)) with
  | none => exact absurd (decide_eq_true (selE_to hx)) (by simpa using List.find?_eq_none.1 hf x hxs)
  | some x' =>
    refine ⟨x', rfl, ?_⟩
    have h1 : x'.to = y.to := of_decide_eq_true (by simpa using List.find?_some hf)
    obtain ⟨t', _, h2⟩ := List.mem_filterMap.1 (List.mem_of_find?_eq_some hf)
    have h3 := selE_to h2
    rw [← h3, h1, hx] at h2
    cases h2
    exact hxm
end Go.Proofs.YtilgoepokaaleaaGreat

/-
  PROVED: for every input BorderAccepts answers true, and each argument reads afterwards as it read before.
-/
import Derived.Test.YtainnefmobfcjaaAcc6
/-! FH -/
/-
  multihopworld.Offer.
-/
namespace Go.Proofs.Ytainnefmobfcjaa
set_option linter.unusedVariables false
set_option linter.unusedSimpArgs false
open Go.RowKit
attribute [local irreducible] OpTo wpListIn Code.wpIn MW Cal

theorem of_build3 {o : OffH} (h : IsOf o) : putAll [(0, 16), (16, 1), (17, 1), (18, 1), (19, 1)] ofZ [(0, ipC o.rt), (1, [.int .i64 o.ver]), (2, [.int .i64 o.til])] = some (ofC o (.slice none 0 0) (.slice none 0 0)) := by
  obtain ⟨f_rt, f_ver, f_til⟩ := o
  obtain ⟨x0_0, x0_1, x0_2, x0_3, x0_4, x0_5, x0_6, x0_7, x0_8, x0_9, x0_10, x0_11, x0_12, x0_13, x0_14, x0_15, e0⟩ := len16 (show f_rt.length = 16 from (h).len)
  subst e0
  rfl
theorem NewS.staysBut {n0 len cap : Nat} {o : Obj} {T : List Nat} (hT : ∀ k ∈ T, k < n0) : Stays (keepBut T) (NewS n0 len cap o) := fun v w w' ⟨b, h1, h2, h3⟩ h => ⟨b, h1, h2, by
  rw [Ext.block h b (Array.getElem?_eq_some_iff.1 h3).1 (fun hb => by have := hT b hb; omega)]; exact h3⟩
theorem newSB_of {T : List Nat} {w1 w w' : World} {len cap : Nat} {o : Obj} {x : Value} (E : Ext T w1 w) (h : ∃ b, x = .slice (some ⟨b, 0, none⟩) len cap ∧ Mem [] w w' [(b, o)]) : Ext [] w w' ∧ NewS w1.heap.size len cap o x w' := by
  obtain ⟨b, rfl, N⟩ := h
  refine ⟨N.ext, b, rfl, ?_, N.heap .here⟩
  have := (N.own (b, o) (by simp)).resolve_left (by simp)
  exact Nat.le_trans E.size this
/-- a pointer into a new block -/
def NewA (n0 off : Nat) (o : Obj) : Pred := fun v w => ∃ b, v = .pointer (some ⟨b, off, none⟩) ∧ n0 ≤ b ∧ w.heap[b]? = some o
theorem NewA.staysBut {n0 off : Nat} {o : Obj} {T : List Nat} (hT : ∀ k ∈ T, k < n0) : Stays (keepBut T) (NewA n0 off o) := fun v w w' ⟨b, h1, h2, h3⟩ h => ⟨b, h1, h2, by
  rw [Ext.block h b (Array.getElem?_eq_some_iff.1 h3).1 (fun hb => by have := hT b hb; omega)]; exact h3⟩
theorem Mem.empty (w : World) : Mem [] w w [] := ⟨Ext.refl _ _, fun p hp => (by cases hp), by simp, fun p hp => (by cases hp)⟩
def tab5 : List Int := [64, 64, 64, 48, 128]
theorem tab5_bd (i : Nat) : 0 ≤ tab5.getD i 0 ∧ tab5.getD i 0 ≤ 128 := by
  rcases Nat.lt_or_ge i 5 with h | h
  · have : ∀ i : Fin 5, 0 ≤ tab5.getD i.val 0 ∧ tab5.getD i.val 0 ≤ 128 := by decide
    exact this ⟨i, h⟩
  · rw [List.getD_eq_getElem?_getD, List.getElem?_eq_none (by simpa [tab5] using h)]
    simp
theorem OwnS.newVB {e : TypeId} {sz n : Nat} {v : Value} {xs : List Value} {ent : List (Nat × Obj)} (h : OwnS e sz v n xs ent) {S : List Nat} {W0 w : World} {l : List (Nat × Obj)} (M : Mem S W0 w l) (hs : ∀ p ∈ ent, p ∈ l) (hS : ∀ p ∈ ent, p.1 ∉ S) : NewV W0.heap.size v := by
  rcases h with ⟨rfl, _, _, rfl⟩ | ⟨b, cap, junk, rfl, rfl, _, _, _⟩
  · exact NewV.nil _ _ _
  · intro b' o s n c h
    cases h
    exact (M.own _ (hs _ List.mem_cons_self)).resolve_left (hS _ List.mem_cons_self)
/-- an offer in new memory -/
def OffNew (n0 : Nat) (W : World) (x : OV) : Prop := OffAt W x ∧ NewV n0 x.u ∧ NewV n0 x.v

set_option maxHeartbeats 8000000 in
theorem woffer_c {bt : Nat} {p : Option Addr} {len cap k : Nat} {xs : List Int} (base : Int) (h0 : 0 ≤ base) (h1 : base ≤ 1099511627776) (W : World) (hT : TapeS W bt p len xs) (hb : W.heap[bt]? = some (tobj p len cap k)) :
    Cal Try.prog 26 [.pointer (some ⟨bt, 0, none⟩), .int .i64 base].toArray W fun r w' => ∃ x k', r = .agg (ovC x).toArray ∧ IsOff x.o ∧ (x.o.ps.length ≤ 3 ∧ x.o.cs.length ≤ 2) ∧ OffNew W.heap.size w' x ∧ Mem [bt] W w' [(bt, tobj p len cap k')] := by
  refine fn_ofM (n := 70) [bt] Try.func26 rfl rfl rfl ?_
  intro a w F M hwW
  replace M := M.came hwW hb (by simp) (by simp)
  refine c_seq ?_
  refine c_region ?_
  (refine stepD rfl F rfl (o_alloc M ?_); clear F; clear M; intro b4 w M a F)
  with_reducible refine l_nil ?_
  with_reducible refine q_then ?_
  with_reducible refine c_seq ?_
  with_reducible refine c_region ?_
  refine stepD rfl F rfl (o_move (F.ev rfl) ?_); clear F; clear a; intro a F
  (refine stepD rfl F rfl (o_call (F.ev rfl) (F.evs rfl) (Cal.mono (wipD_c _ (hT.later M.ext) (M.heap (.there .here)) ) ?_)); clear F; clear a; have M0 := M; clear M; rintro _ w ⟨rfl, N⟩ a F)
  replace M := M0.turn1 N (.there .here)
  refine stepD rfl F rfl (o_move (F.ev rfl) ?_); clear F; clear a; intro a F
  (refine stepD rfl F rfl (o_call (F.ev rfl) (F.evs rfl) (Cal.mono (next_c 4 (by omega) (by omega) _ (hT.later M.ext) (M.heap (.there .here)) ) ?_)); clear F; clear a; have M0 := M; clear M; rintro _ w ⟨rfl, N⟩ a F)
  replace M := M0.turn1 N (.there .here)
  refine stepD rfl F rfl (o_move (F.ev rfl) ?_); clear F; clear a; intro a F
  refine stepD rfl F rfl (o_move (F.ev rfl) ?_); clear F; clear a; intro a F
  (refine stepD rfl F rfl (o_call (F.ev rfl) (F.evs rfl) (Cal.mono (wtime_c base h0 h1 _ (hT.later M.ext) (M.heap (.there .here)) ) ?_)); clear F; clear a; have M0 := M; clear M; rintro _ w ⟨rfl, N⟩ a F)
  replace M := M0.turn1 N (.there .here)
  clear M0
  obtain ⟨h, hh0⟩ : ∃ h : OffH, h = ⟨wipV xs k, nxV xs (wipK xs k) 4, wtV xs (nxK xs (wipK xs k)) base⟩ := ⟨_, rfl⟩
  have hh : IsOf h := by rw [hh0]; exact wipV_is _ _
  have hbl := of_build3 hh
  have hb1 : h.rt = wipV xs k := by rw [hh0]
  have hb2 : h.ver = nxV xs (wipK xs k) 4 := by rw [hh0]
  have hb3 : h.til = wtV xs (nxK xs (wipK xs k)) base := by rw [hh0]
  rw [← hb1, ← hb2, ← hb3] at F
  clear hb1 hb2 hb3 hh0
  (refine stepD rfl F rfl (o_build F rfl hbl ?_); clear F; clear a; intro a F)
  (refine stepD rfl F rfl (o_alloc M ?_); clear F; clear M; intro b5 w M a F)
  (refine stepN rfl F (o_storeA M (F.ev rfl) (F.ev rfl) (of_len hh _ _) (of_one _ _ _ rfl rfl)  (by repeat (first | exact .here | apply Has.there))  (put_all (by rw [of_len hh]; rfl)) (by repeat (first | exact .here | apply Upd.there)) ?_); clear F; clear M; intro w M a F)
  with_reducible refine l_nil ?_
  with_reducible refine q_then ?_
  with_reducible refine c_seq ?_
  with_reducible refine c_seq ?_
  with_reducible refine c_region ?_
  refine stepD rfl F rfl (o_move (F.ev rfl) ?_); clear F; clear a; intro a F
  generalize nxK xs (nxK xs (wipK xs k)) = k1 at *
  (refine stepD rfl F rfl (o_call (F.ev rfl) (F.evs rfl) (Cal.mono (next_c 4 (by omega) (by omega) _ (hT.later M.ext) (M.heap (.there (.there .here))) ) ?_)); clear F; clear a; have M0 := M; clear M; rintro _ w ⟨rfl, N⟩ a F)
  replace M := M0.turn1 N (.there (.there .here))
  clear M0
  have v1 := nxV_bd xs k1 (n := 4) (by omega)
  obtain ⟨c0, hc0⟩ := Int.eq_ofNat_of_zero_le v1.1
  rw [hc0] at F v1
  have hc3 : c0 ≤ 3 := by omega
  generalize nxK xs k1 = k2 at *
  clear hc0 v1
  refine stepD rfl F rfl (o_assign (F.ev rfl) ?_); clear F; clear a; intro a F
  with_reducible refine l_nil ?_
  with_reducible refine q_then ?_
  with_reducible refine c_block ?_
  have hbt : bt < W.heap.size := (Array.getElem?_eq_some_iff.1 hb).1
  replace M : Mem [bt] W w ([(bt, tobj p len cap k2), (b5, .cells (ofC h (.slice none 0 0) (.slice none 0 0)).toArray 58 (0, 0)), (b4, .cells ofZ.toArray 58 (0, 0))] ++ []) := M.perm ((List.perm_append_comm (l₁ := [_, _]) (l₂ := [_])).trans (.of_eq rfl))
  refine c_loop (fun m a w => ∃ (c : Nat) (x : Int) (ps : List PInf) (u : Value) (eu : List (Nat × Obj)) (k : Nat), m = c ∧ x = c ∧ ps.length + c ≤ 3 ∧ (∀ q ∈ ps, IsPi q) ∧ OwnS 111 20 u ps.length (pisC ps) eu ∧ Frm a 70 [] [(6, .int .i64 x), (5, .pointer (some ⟨b5, 0, none⟩)), (4, .pointer (some ⟨b4, 0, none⟩)), (0, .pointer (some ⟨bt, 0, none⟩))] ∧ Mem [bt] W w ([(bt, tobj p len cap k), (b5, .cells (ofC h u (.slice none 0 0)).toArray 58 (0, 0)), (b4, .cells ofZ.toArray 58 (0, 0))] ++ eu)) c0 ⟨c0, _, [], _, [], k2, rfl, rfl, by simpa using hc3, by simp, OwnS.nil _ _, F.only [6, 5, 4, 0] rfl, M⟩ ?_
  clear F M hbl
  rintro m a w ⟨c, x, ps, u, eu, kk, hm, hxc, hpl, hps, hO, F, M⟩
  by_cases hlt : 0 < c
  · obtain ⟨up, uc, rfl⟩ := hO.slice
    have e18 := of_ps hh (.slice up ps.length uc) (.slice none 0 0)
    have f18 := of_put_ps hh (.slice up ps.length uc) (.slice none 0 0)
    have v1 := nxV_bd xs (wipK xs kk) (n := 5) (by omega)
    have n1 := nth_tab (k := .i64) (xs := tab5) v1.1 (by simpa [tab5] using v1.2)
    have hbd := tab5_bd (nxV xs (wipK xs kk) 5).toNat
    have hcl : clampB (tab5.getD (nxV xs (wipK xs kk) 5).toNat 0) = tab5.getD (nxV xs (wipK xs kk) 5).toNat 0 := clamp_in hbd.1 hbd.2
    have v2 := nxV_bd xs (nxK xs (nxK xs (nxK xs (wipK xs kk)))) (n := 3) (by omega)
    with_reducible refine c_seq ?_
    with_reducible refine c_seq ?_
    with_reducible refine c_region ?_
    refine stepD rfl F rfl (o_move (F.ev rfl) ?_); clear F; clear a; intro a F
    refine stepD rfl F rfl (o_gtrT (F.ev rfl) (F.ev rfl) (by omega) ?_); clear F; clear a; intro a F
    with_reducible refine l_nil ?_
    with_reducible refine q_then ?_
    refine c_true F rfl rfl ?_
    with_reducible refine c_skip ?_
    with_reducible refine q_then ?_
    with_reducible refine c_seq ?_
    with_reducible refine c_block ?_
    replace M : Mem [bt] W w ([(bt, tobj p len cap kk)] ++ ((b5, .cells (ofC h (.slice up ps.length uc) (.slice none 0 0)).toArray 58 (0, 0)) :: (b4, .cells ofZ.toArray 58 (0, 0)) :: eu)) := M
    refine c_drawB (l0 := [(bt, tobj p len cap kk)]) [bt] [3, 6, 9, 11, 13, 16] M 20 F (by kernel_rfl) ?_
    intro w1 M1 hok hef
    have hB : ∀ k ∈ [bt], k ∈ ([(bt, tobj p len cap kk)] : List (Nat × Obj)).map (·.1) := by simp
    have hbw : ∀ k ∈ [bt], k < w1.heap.size := fun k hk => by
      simp only [List.mem_singleton] at hk
      subst hk
      exact Nat.lt_of_lt_of_le hbt M1.ext.size
    have hTw : ∀ w', Ext [bt] w1 w' → TapeS w' bt p len xs := fun w' E => hT.later (M1.ext.trans (E.mono (by simp)))
    refine mK hok rfl rfl (fun a' w' F' E' => o_fieldAddr (F'.ev rfl) ⟨Ext.refl _ _, rfl⟩) ?_
    refine mK hok rfl rfl (fun a' w' F' E' => o_load1 (M1.laterBut E' hB) (F'.ev rfl) (by repeat (first | exact .here | apply Has.there)) (by first | assumption | rfl) ⟨Ext.refl _ _, rfl⟩) ?_
    refine mK hok rfl rfl (fun a' w' F' E' => o_move (F'.ev rfl) ⟨Ext.refl _ _, rfl⟩) ?_
    refine mE (T' := fun _ w => Mem _ _ w ([(bt, tobj p len cap (wipK xs kk))] ++ _)) hok rfl rfl (fun _ _ _ h k => h.later k) (fun a' w' σ' F' E' T' => o_call (F'.ev rfl) (F'.evs rfl) (Cal.mono (wipD_c _ (hTw _ E') (T'.heap .here)) fun _ _ hh => ⟨hh.2.ext, hh.1, Mem.turn1 T' hh.2 .here⟩)) ?_
    refine mX (V := NewS w1.heap.size 5 5 (.cells (i64C tab5).toArray 3 (0, 0))) hok rfl rfl (NewS.staysBut hbw) (fun a' w' F' E' D' => o_buildSlice F' (Mem.empty w') rfl rfl rfl rfl fun b w'' M'' => newSB_of E' ⟨b, rfl, M''⟩) ?_
    refine mK hok rfl rfl (fun a' w' F' E' => o_move (F'.ev rfl) ⟨Ext.refl _ _, rfl⟩) ?_
    refine mE (T' := fun _ w => Mem _ _ w ([(bt, tobj p len cap (nxK xs (wipK xs kk)))] ++ _)) hok rfl rfl (fun _ _ _ h k => h.later k) (fun a' w' σ' F' E' T' => o_call (F'.ev rfl) (F'.evs rfl) (Cal.mono (next_c 5 (by omega) (by omega) _ (hTw _ E') (T'.heap .here)) fun _ _ hh => ⟨hh.2.ext, hh.1, Mem.turn1 T' hh.2 .here⟩)) ?_
    refine mX (V := NewA w1.heap.size (0 + (nxV xs (wipK xs kk) 5).toNat * 1) (.cells (i64C tab5).toArray 3 (0, 0))) hok rfl rfl (NewA.staysBut hbw) (fun a' w' F' E' D' => by
      obtain ⟨b, g1, g2, g3⟩ := D' 4 (by decide) _ rfl
      have hev : a'.eval (.tmp 27) = .slice (some ⟨b, 0, none⟩) 5 5 := g1
      exact o_indexSl hev (F'.ev rfl) v1.1 v1.2 ⟨Ext.refl _ _, b, rfl, g2, g3⟩) ?_
    refine mKX (v := .int .i64 (tab5.getD (nxV xs (wipK xs kk) 5).toNat 0)) hok rfl rfl (fun a' w' F' E' D' => by
      obtain ⟨b, g1, g2, g3⟩ := D' 7 (by decide) _ rfl
      have hev : a'.eval (.tmp 30) = .pointer (some ⟨b, 0 + (nxV xs (wipK xs kk) 5).toNat * 1, none⟩) := g1
      exact o_loadH1 hev g3 n1 ⟨Ext.refl _ _, rfl⟩) ?_
    refine mE (T' := fun _ w => Mem _ _ w ([(bt, tobj p len cap (nxK xs (wipK xs kk)))] ++ _)) hok rfl rfl (fun _ _ _ h k => h.later k) (fun a' w' σ' F' E' T' => o_call (F'.ev rfl) (F'.evs rfl) (Cal.mono (Cal.to (rmask_c (wipV xs kk) (wipV_is _ _) (tab5.getD (nxV xs (wipK xs kk) 5).toNat 0) _) (by rw [hcl])) fun _ _ hh => ⟨hh.2.any, hh.1, T'.later hh.2⟩)) ?_
    refine mK hok rfl rfl (fun a' w' F' E' => o_move (F'.ev rfl) ⟨Ext.refl _ _, rfl⟩) ?_
    refine mE (T' := fun _ w => Mem _ _ w ([(bt, tobj p len cap (nxK xs (nxK xs (wipK xs kk))))] ++ _)) hok rfl rfl (fun _ _ _ h k => h.later k) (fun a' w' σ' F' E' T' => o_call (F'.ev rfl) (F'.evs rfl) (Cal.mono (bool_c 2 (by omega) (by omega) _ (hTw _ E') (T'.heap .here)) fun _ _ hh => ⟨hh.2.ext, hh.1, Mem.turn1 T' hh.2 .here⟩)) ?_
    refine mK hok rfl rfl (fun a' w' F' E' => o_move (F'.ev rfl) ⟨Ext.refl _ _, rfl⟩) ?_
    refine mE (T' := fun _ w => Mem _ _ w ([(bt, tobj p len cap (nxK xs (nxK xs (nxK xs (wipK xs kk)))))] ++ _)) hok rfl rfl (fun _ _ _ h k => h.later k) (fun a' w' σ' F' E' T' => o_call (F'.ev rfl) (F'.evs rfl) (Cal.mono (bool_c 3 (by omega) (by omega) _ (hTw _ E') (T'.heap .here)) fun _ _ hh => ⟨hh.2.ext, hh.1, Mem.turn1 T' hh.2 .here⟩)) ?_
    refine mK hok rfl rfl (fun a' w' F' E' => o_not (F'.ev rfl) ⟨Ext.refl _ _, rfl⟩) ?_
    refine mK hok rfl rfl (fun a' w' F' E' => o_move (F'.ev rfl) ⟨Ext.refl _ _, rfl⟩) ?_
    refine mE (T' := fun _ w => Mem _ _ w ([(bt, tobj p len cap (nxK xs (nxK xs (nxK xs (nxK xs (wipK xs kk))))))] ++ _)) hok rfl rfl (fun _ _ _ h k => h.later k) (fun a' w' σ' F' E' T' => o_call (F'.ev rfl) (F'.evs rfl) (Cal.mono (next_c 3 (by omega) (by omega) _ (hTw _ E') (T'.heap .here)) fun _ _ hh => ⟨hh.2.ext, hh.1, Mem.turn1 T' hh.2 .here⟩)) ?_
    refine mK hok rfl rfl (fun a' w' F' E' => o_conv (F'.ev rfl) (w_u32 (by omega) (by omega)) ⟨Ext.refl _ _, rfl⟩) ?_
    obtain ⟨z, hz⟩ : ∃ z : PInf, z = ⟨maskI (wipV xs kk) (tab5.getD (nxV xs (wipK xs kk) 5).toNat 0), tab5.getD (nxV xs (wipK xs kk) 5).toNat 0, boolV xs (nxK xs (wipK xs kk)) 2, !boolV xs (nxK xs (nxK xs (wipK xs kk))) 3, nxV xs (nxK xs (nxK xs (nxK xs (wipK xs kk)))) 3⟩ := ⟨_, rfl⟩
    have hzi : IsPi z := by rw [hz]; exact mask_isIP (wipV_is _ _) _
    have hbl : putAll [(0, 17), (17, 1), (18, 1), (19, 1)] piZ [(0, pfC (maskI (wipV xs kk) (tab5.getD (nxV xs (wipK xs kk) 5).toNat 0)) (tab5.getD (nxV xs (wipK xs kk) 5).toNat 0)), (1, [.bool (boolV xs (nxK xs (wipK xs kk)) 2)]), (2, [.bool (!boolV xs (nxK xs (nxK xs (wipK xs kk))) 3)]), (3, [.int .u32 (nxV xs (nxK xs (nxK xs (nxK xs (wipK xs kk)))) 3)])] = some (piC z) := by have := pi_build hzi; rw [hz] at this ⊢; exact this
    (refine mK hok rfl rfl (fun a' w' F' E' => o_build F' rfl hbl ⟨Ext.refl _ _, rfl⟩) ?_)
    refine mX (V := NewS w1.heap.size 1 1 (.cells (piC z).toArray 111 (0, 0))) hok rfl rfl (NewS.staysBut hbw) (fun a' w' F' E' D' => o_buildSlice F' (Mem.empty w') rfl rfl rfl (pi_build1 hzi) fun b w'' M'' => newSB_of E' ⟨b, rfl, M''⟩) ?_
    (refine mDone rfl hef ?_; clear F; clear M; intro a w F hE2 hX MT hDD hPP; obtain ⟨b42, e42, g42, q42⟩ := hX 19 (NewS w1.heap.size 1 1 (.cells (piC z).toArray 111 (0, 0))) (by kernel_rfl); replace F := F.know (d := 42) e42; replace g42 : w1.heap.size ≤ b42 := g42)
    have M := Mem.al (pre := [(bt, tobj p len cap (nxK xs (nxK xs (nxK xs (nxK xs (wipK xs kk))))))]) MT (M1.sub (List.sublist_cons_self _ _)) q42 g42 (by intro q hq h; simp at hq; subst hq; have h2 := ptrTo_inj h; have h3 := M1.lt (List.mem_cons_self); dsimp only at h3 h2; omega)
    clear M1 hX hE2 hok hef hB hDD hPP MT e42 g42 q42 hTw hbw
    (try dsimp only at F)
    simp only [List.cons_append, List.nil_append] at M
    generalize nxK xs (nxK xs (nxK xs (nxK xs (wipK xs kk)))) = k5 at *
    clear hz hbl
    (refine stepD rfl F rfl (o_append hO M (.cons (.cons (.cons (.cons .here)))) (F.ev rfl) (F.ev rfl) (SrcOf.cells' (M.heap .here) (sg_all (by rw [pi_len hzi])) (pi_one _)) (by omega) (by omega) ?_); clear F; clear M; clear hO; intro u2 eu2 w hO M a F)
    obtain ⟨up2, uc2, rfl⟩ := hO.slice
    refine stepD rfl F rfl (o_fieldAddr (F.ev rfl) ?_); clear F; clear a; intro a F
    (refine stepN rfl F (o_store1 M (F.ev rfl) (F.ev rfl) rfl (by repeat (first | exact .here | apply Has.there)) (f18 _) (by repeat (first | exact .here | apply Upd.there)) ?_); clear F; clear M; intro w M a F)
    with_reducible refine l_nil ?_
    with_reducible refine q_inB ?_
    with_reducible refine q_then ?_
    with_reducible refine c_region ?_
    refine stepD rfl F rfl (o_move (F.ev rfl) ?_); clear F; clear a; intro a F
    refine stepD rfl F rfl (o_sub (F.ev rfl) (F.ev rfl) (w_i64 (by omega) (by omega)) ?_); clear F; clear a; intro a F
    refine stepD rfl F rfl (o_assign (F.ev rfl) ?_); clear F; clear a; intro a F
    with_reducible refine l_nil ?_
    with_reducible refine q_then ?_
    exact ⟨_, by omega, c - 1, _, ps ++ [z], _, eu2, k5, rfl, by omega, by simp; omega, by
      intro q hq
      rcases List.mem_append.1 hq with h | h
      · exact hps q h
      · simp only [List.mem_singleton] at h
        rw [h]; exact hzi, by show OwnS _ 20 _ (ps ++ [z]).length (encL piC (ps ++ [z])) _; rw [show (ps ++ [z]).length = ps.length + 1 by simp, encL_app, encL_one]; exact hO, F.only [6, 5, 4, 0] rfl, M.sub (.cons _ (.refl _))⟩
  · obtain rfl : c = 0 := by omega
    obtain rfl : x = 0 := by omega
    simp only [Nat.add_zero] at hpl
    with_reducible refine c_seq ?_
    with_reducible refine c_seq ?_
    with_reducible refine c_region ?_
    refine stepD rfl F rfl (o_move (F.ev rfl) ?_); clear F; clear a; intro a F
    refine stepD rfl F rfl (o_gtrF (F.ev rfl) (F.ev rfl) (by omega) ?_); clear F; clear a; intro a F
    with_reducible refine l_nil ?_
    with_reducible refine q_then ?_
    refine c_false F rfl rfl ?_
    with_reducible refine c_exit ?_
    with_reducible refine q_thenX ?_
    with_reducible refine q_thenX ?_
    with_reducible refine q_inBX ?_
    with_reducible refine q_then ?_
    with_reducible refine c_seq ?_
    with_reducible refine c_region ?_
    refine stepD rfl F rfl (o_move (F.ev rfl) ?_); clear F; clear a; intro a F
    (refine stepD rfl F rfl (o_call (F.ev rfl) (F.evs rfl) (Cal.mono (next_c 14 (by omega) (by omega) _ (hT.later M.ext) (M.heap .here) ) ?_)); clear F; clear a; have M0 := M; clear M; rintro _ w ⟨rfl, N⟩ a F)
    replace M := M0.turn1 N .here
    have v7 := nxV_bd xs kk (n := 14) (by omega)
    generalize nxV xs kk 14 = fst at *
    refine stepD rfl F rfl (o_assign (F.ev rfl) ?_); clear F; clear a; intro a F
    with_reducible refine l_nil ?_
    with_reducible refine q_then ?_
    with_reducible refine c_seq ?_
    with_reducible refine c_seq ?_
    with_reducible refine c_region ?_
    refine stepD rfl F rfl (o_move (F.ev rfl) ?_); clear F; clear a; intro a F
    (refine stepD rfl F rfl (o_call (F.ev rfl) (F.evs rfl) (Cal.mono (next_c 3 (by omega) (by omega) _ (hT.later M.ext) (M.heap .here) ) ?_)); clear F; clear a; have M0 := M; clear M; rintro _ w ⟨rfl, N⟩ a F)
    replace M := M0.turn1 N .here
    clear M0
    have v8 := nxV_bd xs (nxK xs kk) (n := 3) (by omega)
    generalize nxK xs (nxK xs kk) = k6 at *
    obtain ⟨c1, hc1⟩ := Int.eq_ofNat_of_zero_le v8.1
    rw [hc1] at F v8
    clear hc1
    refine stepD rfl F rfl (o_assign (F.ev rfl) ?_); clear F; clear a; intro a F
    with_reducible refine l_nil ?_
    with_reducible refine q_then ?_
    with_reducible refine c_block ?_
    have hpo := hO.one
    refine c_loop (fun m a w => ∃ (c : Nat) (x : Int) (cs : List CInf) (v : Value) (ev : List (Nat × Obj)) (k : Nat), m = c ∧ x = c ∧ cs.length + c ≤ 2 ∧ (∀ q ∈ cs, IsCi q) ∧ OwnS 116 20 v cs.length (cisC cs) ev ∧ Frm a 70 [] [(8, .int .i64 x), (7, .int .i64 fst), (5, .pointer (some ⟨b5, 0, none⟩)), (4, .pointer (some ⟨b4, 0, none⟩)), (0, .pointer (some ⟨bt, 0, none⟩))] ∧ Mem [bt] W w ([(bt, tobj p len cap k), (b5, .cells (ofC h u v).toArray 58 (0, 0)), (b4, .cells ofZ.toArray 58 (0, 0))] ++ (eu ++ ev))) c1 ⟨c1, _, [], _, [], k6, rfl, rfl, by simp; omega, by simp, OwnS.nil _ _, F.only [8, 7, 5, 4, 0] rfl, by rw [List.append_nil]; exact M⟩ ?_
    clear F M
    rintro m a w ⟨c, x, cs, v, ev, kk, hm, hxc, hcl, hcs, hOv, F, M⟩
    by_cases hlt : 0 < c
    · obtain ⟨vp, vc, rfl⟩ := hOv.slice
      have e19 := of_cs hh u (.slice vp cs.length vc)
      have f19 := of_put_cs hh u (.slice vp cs.length vc)
      have v2 := nxV_bd xs (nxK xs (wpK xs kk)) (n := 3) (by omega)
      with_reducible refine c_seq ?_
      with_reducible refine c_seq ?_
      with_reducible refine c_region ?_
      refine stepD rfl F rfl (o_move (F.ev rfl) ?_); clear F; clear a; intro a F
      refine stepD rfl F rfl (o_gtrT (F.ev rfl) (F.ev rfl) (by omega) ?_); clear F; clear a; intro a F
      with_reducible refine l_nil ?_
      with_reducible refine q_then ?_
      refine c_true F rfl rfl ?_
      with_reducible refine c_skip ?_
      with_reducible refine q_then ?_
      with_reducible refine c_seq ?_
      with_reducible refine c_block ?_
      replace M : Mem [bt] W w ([(bt, tobj p len cap kk)] ++ ((b5, .cells (ofC h u (.slice vp cs.length vc)).toArray 58 (0, 0)) :: (b4, .cells ofZ.toArray 58 (0, 0)) :: (eu ++ ev))) := M
      refine c_drawB (l0 := [(bt, tobj p len cap kk)]) [bt] [6, 8, 10] M 14 F (by kernel_rfl) ?_
      intro w1 M1 hok hef
      have hB : ∀ k ∈ [bt], k ∈ ([(bt, tobj p len cap kk)] : List (Nat × Obj)).map (·.1) := by simp
      have hbw : ∀ k ∈ [bt], k < w1.heap.size := fun k hk => by
        simp only [List.mem_singleton] at hk
        subst hk
        exact Nat.lt_of_lt_of_le hbt M1.ext.size
      have hTw : ∀ w', Ext [bt] w1 w' → TapeS w' bt p len xs := fun w' E => hT.later (M1.ext.trans (E.mono (by simp)))
      refine mK hok rfl rfl (fun a' w' F' E' => o_fieldAddr (F'.ev rfl) ⟨Ext.refl _ _, rfl⟩) ?_
      refine mK hok rfl rfl (fun a' w' F' E' => o_load1 (M1.laterBut E' hB) (F'.ev rfl) (by repeat (first | exact .here | apply Has.there)) (by first | assumption | rfl) ⟨Ext.refl _ _, rfl⟩) ?_
      refine mK hok rfl rfl (fun a' w' F' E' => o_move (F'.ev rfl) ⟨Ext.refl _ _, rfl⟩) ?_
      refine mK hok rfl rfl (fun a' w' F' E' => o_move (F'.ev rfl) ⟨Ext.refl _ _, rfl⟩) ?_
      refine mK hok rfl rfl (fun a' w' F' E' => o_add (F'.ev rfl) (F'.ev rfl) (w_i64 (by omega) (by omega)) ⟨Ext.refl _ _, rfl⟩) ?_
      refine mK hok rfl rfl (fun a' w' F' E' => o_move (F'.ev rfl) ⟨Ext.refl _ _, rfl⟩) ?_
      refine mE (T' := fun _ w => Mem _ _ w ([(bt, tobj p len cap (wpK xs kk))] ++ _)) hok rfl rfl (fun _ _ _ h k => h.later k) (fun a' w' σ' F' E' T' => o_call (F'.ev rfl) (F'.evs rfl) (Cal.mono (wprefix_c _ (hTw _ E') (T'.heap .here)) fun _ _ hh => ⟨hh.2.ext, hh.1, Mem.turn1 T' hh.2 .here⟩)) ?_
      refine mK hok rfl rfl (fun a' w' F' E' => o_move (F'.ev rfl) ⟨Ext.refl _ _, rfl⟩) ?_
      refine mE (T' := fun _ w => Mem _ _ w ([(bt, tobj p len cap (nxK xs (wpK xs kk)))] ++ _)) hok rfl rfl (fun _ _ _ h k => h.later k) (fun a' w' σ' F' E' T' => o_call (F'.ev rfl) (F'.evs rfl) (Cal.mono (bool_c 2 (by omega) (by omega) _ (hTw _ E') (T'.heap .here)) fun _ _ hh => ⟨hh.2.ext, hh.1, Mem.turn1 T' hh.2 .here⟩)) ?_
      refine mK hok rfl rfl (fun a' w' F' E' => o_move (F'.ev rfl) ⟨Ext.refl _ _, rfl⟩) ?_
      refine mE (T' := fun _ w => Mem _ _ w ([(bt, tobj p len cap (nxK xs (nxK xs (wpK xs kk))))] ++ _)) hok rfl rfl (fun _ _ _ h k => h.later k) (fun a' w' σ' F' E' T' => o_call (F'.ev rfl) (F'.evs rfl) (Cal.mono (next_c 3 (by omega) (by omega) _ (hTw _ E') (T'.heap .here)) fun _ _ hh => ⟨hh.2.ext, hh.1, Mem.turn1 T' hh.2 .here⟩)) ?_
      refine mK hok rfl rfl (fun a' w' F' E' => o_conv (F'.ev rfl) (w_u16 (by omega) (by omega)) ⟨Ext.refl _ _, rfl⟩) ?_
      obtain ⟨z, hz⟩ : ∃ z : CInf, z = ⟨fst + x, maskI (wpA xs kk) (wpN xs kk), wpN xs kk, boolV xs (wpK xs kk) 2, nxV xs (nxK xs (wpK xs kk)) 3⟩ := ⟨_, rfl⟩
      have hzi : IsCi z := by rw [hz]; exact wpA_is _ _
      have hbl : putAll [(0, 1), (1, 17), (18, 1), (19, 1)] ciZ [(0, [.int .i64 (fst + x)]), (1, pfC (maskI (wpA xs kk) (wpN xs kk)) (wpN xs kk)), (2, [.bool (boolV xs (wpK xs kk) 2)]), (3, [.int .u16 (nxV xs (nxK xs (wpK xs kk)) 3)])] = some (ciC z) := by have := ci_build hzi; rw [hz] at this ⊢; exact this
      (refine mK hok rfl rfl (fun a' w' F' E' => o_build F' rfl hbl ⟨Ext.refl _ _, rfl⟩) ?_)
      refine mX (V := NewS w1.heap.size 1 1 (.cells (ciC z).toArray 116 (0, 0))) hok rfl rfl (NewS.staysBut hbw) (fun a' w' F' E' D' => o_buildSlice F' (Mem.empty w') rfl rfl rfl (ci_build1 hzi) fun b w'' M'' => newSB_of E' ⟨b, rfl, M''⟩) ?_
      (refine mDone rfl hef ?_; clear F; clear M; intro a w F hE2 hX MT hDD hPP; obtain ⟨b42, e42, g42, q42⟩ := hX 13 (NewS w1.heap.size 1 1 (.cells (ciC z).toArray 116 (0, 0))) (by kernel_rfl); replace F := F.know (d := 66) e42; replace g42 : w1.heap.size ≤ b42 := g42)
      have M := Mem.al (pre := [(bt, tobj p len cap (nxK xs (nxK xs (wpK xs kk))))]) MT (M1.sub (List.sublist_cons_self _ _)) q42 g42 (by intro q hq h; simp at hq; subst hq; have h2 := ptrTo_inj h; have h3 := M1.lt (List.mem_cons_self); dsimp only at h3 h2; omega)
      clear M1 hX hE2 hok hef hB hDD hPP MT e42 g42 q42 hTw hbw
      (try dsimp only at F)
      simp only [List.cons_append, List.nil_append] at M
      generalize nxK xs (nxK xs (wpK xs kk)) = k5 at *
      clear hz hbl
      (refine stepD rfl F rfl (o_append hOv M (.cons (.cons (.cons (.cons (.app .here))))) (F.ev rfl) (F.ev rfl) (SrcOf.cells' (M.heap .here) (sg_all (by rw [ci_len hzi])) (ci_one _)) (by omega) (by omega) ?_); clear F; clear M; clear hOv; intro v2 ev2 w hOv M a F)
      obtain ⟨vp2, vc2, rfl⟩ := hOv.slice
      refine stepD rfl F rfl (o_fieldAddr (F.ev rfl) ?_); clear F; clear a; intro a F
      (refine stepN rfl F (o_store1 M (F.ev rfl) (F.ev rfl) rfl (by repeat (first | exact .here | apply Has.there)) (f19 _) (by repeat (first | exact .here | apply Upd.there)) ?_); clear F; clear M; intro w M a F)
      with_reducible refine l_nil ?_
      with_reducible refine q_inB ?_
      with_reducible refine q_then ?_
      with_reducible refine c_region ?_
      refine stepD rfl F rfl (o_move (F.ev rfl) ?_); clear F; clear a; intro a F
      refine stepD rfl F rfl (o_sub (F.ev rfl) (F.ev rfl) (w_i64 (by omega) (by omega)) ?_); clear F; clear a; intro a F
      refine stepD rfl F rfl (o_assign (F.ev rfl) ?_); clear F; clear a; intro a F
      with_reducible refine l_nil ?_
      with_reducible refine q_then ?_
      exact ⟨_, by omega, c - 1, _, cs ++ [z], _, ev2, k5, rfl, by omega, by simp; omega, by
        intro q hq
        rcases List.mem_append.1 hq with h | h
        · exact hcs q h
        · simp only [List.mem_singleton] at h
          rw [h]; exact hzi, by show OwnS _ 20 _ (cs ++ [z]).length (encL ciC (cs ++ [z])) _; rw [show (cs ++ [z]).length = cs.length + 1 by simp, encL_app, encL_one]; exact hOv, F.only [8, 7, 5, 4, 0] rfl, M.sub (.cons _ (.refl _))⟩
    · obtain rfl : c = 0 := by omega
      have f0 : seg (ofC h u v) 0 20 = some (ofC h u v) := of_all hh u v
      have f1 : (ofC h u v).all (·.oneCell') = true := of_one _ _ _ hO.one hOv.one
      simp only [List.cons_append, List.nil_append] at M
      with_reducible refine c_seq ?_
      with_reducible refine c_seq ?_
      with_reducible refine c_region ?_
      refine stepD rfl F rfl (o_move (F.ev rfl) ?_); clear F; clear a; intro a F
      refine stepD rfl F rfl (o_gtrF (F.ev rfl) (F.ev rfl) (by omega) ?_); clear F; clear a; intro a F
      with_reducible refine l_nil ?_
      with_reducible refine q_then ?_
      refine c_false F rfl rfl ?_
      with_reducible refine c_exit ?_
      with_reducible refine q_thenX ?_
      with_reducible refine q_thenX ?_
      with_reducible refine q_inBX ?_
      with_reducible refine q_then ?_
      with_reducible refine c_seq ?_
      with_reducible refine c_region ?_
      refine stepD rfl F rfl (o_loadA M (F.ev rfl) (by repeat (first | exact .here | apply Has.there)) (by first | assumption | rfl) ?_); clear F; clear a; intro a F
      (refine stepN rfl F (o_storeA M (F.ev rfl) (F.ev rfl) (of_len hh _ _) f1  (by repeat (first | exact .here | apply Has.there))  (put_all (by rw [of_len hh]; rfl)) (by repeat (first | exact .here | apply Upd.there)) ?_); clear F; clear M; intro w M a F)
      with_reducible refine l_nil ?_
      with_reducible refine q_then ?_
      with_reducible refine c_ret ?_
      have hAt : OffNew W.heap.size w ⟨⟨h, ps, cs⟩, u, v⟩ := by
        have hnb : ∀ p ∈ eu ++ ev, p.1 ∉ [bt] := fun p hp hb => (List.nodup_cons.1 M.nd).1 (by
          simp only [List.mem_singleton] at hb
          exact List.mem_map.2 ⟨p, by simp at hp ⊢; exact .inr (.inr hp), hb⟩)
        refine ⟨⟨hO.slAt M (fun p hp => by simp [hp]), hOv.slAt M (fun p hp => by simp [hp])⟩, hO.newVB M (fun p hp => by simp [hp]) (fun p hp => hnb p (List.mem_append_left _ hp)), hOv.newVB M (fun p hp => by simp [hp]) (fun p hp => hnb p (List.mem_append_right _ hp))⟩
      refine p_ret F rfl (.cons (.cell (F.ev rfl) (run_loadVar_agg TAgg.h (M.heap (.there (.there .here))) f0)) .nil) ⟨⟨⟨h, ps, cs⟩, u, v⟩, kk, rfl, ⟨hh, hps, hcs⟩, ⟨hpl, hcl⟩, hAt, ?_⟩
      exact M.sub (.cons_cons _ (List.nil_sublist _))
end Go.Proofs.Ytainnefmobfcjaa

/-! F7 -/
/-
  multihoplaw23.offered: its one address (a sort of one element).
-/
namespace Go.Proofs.Ytainnefmobfcjaa
set_option linter.unusedVariables false
set_option linter.unusedSimpArgs false
open Go.RowKit
attribute [local irreducible] OpTo wpListIn Code.wpIn MW Cal

theorem s_idxE {P : Program} {ρ : Operand → Value} {w : World} {R : Value → World → Prop} {d : Option Tmp} {ty : TypeId} {pos : String} {af : Array Edge} {g : Option (Nat × Bool)} {t : TypeId} {x i : Operand} {k : IntKind} {m : Int} {bs : List UInt8} {q : Nat} (hx : ρ x = mkS bs) (hi : ρ i = .int k m) [ht : TU P t .string] (hq : m = q) (hl : q < bs.length) (h : ∀ z : Int, 0 ≤ z → z ≤ 255 → R (.int .u8 z) w) : OpTo P ⟨d, .index t x i, ty, pos, af, g⟩ ρ w R :=
  s_idx hx hi hq hl (h _ (byte_lt _).1 (byte_lt _).2)
theorem len64one_c (W : World) : Cal Try.prog 123 [.int .u64 1].toArray W fun v w' => ∃ z : Int, v = .int .i64 z ∧ Mem [] W w' [] := by
  refine fn_ofM (n := 25) [] Try.func123 rfl rfl rfl ?_
  intro a w F M hwW
  with_reducible refine c_seq ?_
  with_reducible refine c_region ?_
  refine stepD rfl F rfl (o_assign (F.ev rfl) ?_); clear F; clear a; intro a F
  with_reducible refine l_nil ?_
  with_reducible refine q_then ?_
  with_reducible refine c_seq ?_
  with_reducible refine c_seq ?_
  with_reducible refine c_region ?_
  refine stepD rfl F rfl (o_move (F.ev rfl) ?_); clear F; clear a; intro a F
  refine stepD rfl F rfl (o_geqF (F.ev rfl) (F.ev rfl) (by omega) ?_); clear F; clear a; intro a F
  with_reducible refine l_nil ?_
  with_reducible refine q_then ?_
  refine c_false F rfl rfl ?_
  with_reducible refine c_skip ?_
  with_reducible refine q_then ?_
  with_reducible refine c_seq ?_
  with_reducible refine c_seq ?_
  with_reducible refine c_region ?_
  refine stepD rfl F rfl (o_move (F.ev rfl) ?_); clear F; clear a; intro a F
  refine stepD rfl F rfl (o_geqF (F.ev rfl) (F.ev rfl) (by omega) ?_); clear F; clear a; intro a F
  with_reducible refine l_nil ?_
  with_reducible refine q_then ?_
  refine c_false F rfl rfl ?_
  with_reducible refine c_skip ?_
  with_reducible refine q_then ?_
  with_reducible refine c_seq ?_
  with_reducible refine c_seq ?_
  with_reducible refine c_region ?_
  refine stepD rfl F rfl (o_move (F.ev rfl) ?_); clear F; clear a; intro a F
  refine stepD rfl F rfl (o_geqF (F.ev rfl) (F.ev rfl) (by omega) ?_); clear F; clear a; intro a F
  with_reducible refine l_nil ?_
  with_reducible refine q_then ?_
  refine c_false F rfl rfl ?_
  with_reducible refine c_skip ?_
  with_reducible refine q_then ?_
  with_reducible refine c_seq ?_
  with_reducible refine c_region ?_
  refine stepD rfl F rfl (o_move (F.ev rfl) ?_); clear F; clear a; intro a F
  refine stepD rfl F rfl (o_move (F.ev rfl) ?_); clear F; clear a; intro a F
  refine stepD rfl F rfl (o_conv (F.ev rfl) (w_u8 (by omega) (by omega)) ?_); clear F; clear a; intro a F
  (refine stepD rfl F rfl (s_idxE (q := 1) (F.ev rfl) (F.ev rfl) rfl (Nat.le_of_ble_eq_true (by kernel_rfl)) ?_); intro z hz0 hz1; clear F; clear a; intro a F)
  refine stepD rfl F rfl (o_conv (F.ev rfl) (w_i64 (by omega) (by omega)) ?_); clear F; clear a; intro a F
  refine stepD rfl F rfl (o_add (F.ev rfl) (F.ev rfl) (w_i64 (by omega) (by omega)) ?_); clear F; clear a; intro a F
  refine stepD rfl F rfl (o_assign (F.ev rfl) ?_); clear F; clear a; intro a F
  with_reducible refine l_nil ?_
  with_reducible refine q_then ?_
  with_reducible refine c_ret ?_
  refine p_ret F rfl (.cons (.tmp (F.ev rfl)) .nil) ?_
  exact ⟨z, by simp [oneOr], M⟩
theorem lenone_c (W : World) : Cal Try.prog 107 [.int .u64 1].toArray W fun v w' => ∃ z : Int, v = .int .i64 z ∧ Mem [] W w' [] := by
  refine fn_ofM (n := 8) [] Try.func107 rfl rfl rfl ?_
  intro a w F M hwW
  with_reducible refine c_seq ?_
  with_reducible refine c_region ?_
  refine stepD rfl F rfl (o_assign (F.ev rfl) ?_); clear F; clear a; intro a F
  with_reducible refine l_nil ?_
  with_reducible refine q_then ?_
  with_reducible refine c_seq ?_
  refine c_false F rfl rfl ?_
  with_reducible refine c_skip ?_
  with_reducible refine q_then ?_
  with_reducible refine c_seq ?_
  with_reducible refine c_region ?_
  refine stepD rfl F rfl (o_move (F.ev rfl) ?_); clear F; clear a; intro a F
  (refine stepD rfl F rfl (o_call (F.ev rfl) (F.evs rfl) (Cal.mono (len64one_c _ ) ?_)); clear F; clear a; rintro _ w ⟨z, rfl, N⟩ a F; replace M := M.joins N; clear N)
  refine stepD rfl F rfl (o_assign (F.ev rfl) ?_); clear F; clear a; intro a F
  with_reducible refine l_nil ?_
  with_reducible refine q_then ?_
  with_reducible refine c_ret ?_
  refine p_ret F rfl (.cons (.tmp (F.ev rfl)) .nil) ?_
  exact ⟨z, rfl, M⟩
theorem ins1_c (s g : Value) (W : World) : Cal Try.prog 114 [s, .int .i64 0, .int .i64 1, g].toArray W fun v w' => v = .tuple #[] ∧ Ext [] W w' := by
  refine fn_ofM (n := 53) [] Try.func114 rfl rfl rfl ?_
  intro a w F M hwW
  with_reducible refine c_seq ?_
  with_reducible refine c_region ?_
  refine stepD rfl F rfl (o_move (F.ev rfl) ?_); clear F; clear a; intro a F
  refine stepD rfl F rfl (o_add (F.ev rfl) (F.ev rfl) (w_i64 (by omega) (by omega)) ?_); clear F; clear a; intro a F
  refine stepD rfl F rfl (o_assign (F.ev rfl) ?_); clear F; clear a; intro a F
  with_reducible refine l_nil ?_
  with_reducible refine q_then ?_
  with_reducible refine c_block ?_
  refine c_loop (fun m a w => m = 0 ∧ Frm a 53 [] [(8, .int .i64 1), (2, .int .i64 1)] ∧ Mem [] W w []) 0 ⟨rfl, F.only [8, 2] rfl, M⟩ ?_
  clear F M
  rintro m a w ⟨hm, F, M⟩
  with_reducible refine c_seq ?_
  with_reducible refine c_seq ?_
  with_reducible refine c_region ?_
  refine stepD rfl F rfl (o_move (F.ev rfl) ?_); clear F; clear a; intro a F
  refine stepD rfl F rfl (o_move (F.ev rfl) ?_); clear F; clear a; intro a F
  refine stepD rfl F rfl (o_lssF (F.ev rfl) (F.ev rfl) (by omega) ?_); clear F; clear a; intro a F
  with_reducible refine l_nil ?_
  with_reducible refine q_then ?_
  refine c_false F rfl rfl ?_
  with_reducible refine c_exit ?_
  with_reducible refine q_thenX ?_
  with_reducible refine q_thenX ?_
  with_reducible refine q_inBX ?_
  exact p_end F rfl .nil ⟨rfl, M.ext⟩
theorem pdq1_c (s g : Value) (z : Int) (W : World) : Cal Try.prog 106 [s, .int .i64 0, .int .i64 1, .int .i64 z, g].toArray W fun v w' => v = .tuple #[] ∧ Ext [] W w' := by
  refine fn_ofM (n := 148) [] Try.func106 rfl rfl rfl ?_
  intro a w F M hwW
  with_reducible refine c_seq ?_
  with_reducible refine c_region ?_
  refine stepD rfl F rfl (o_assign (F.ev rfl) ?_); clear F; clear a; intro a F
  with_reducible refine l_nil ?_
  with_reducible refine q_then ?_
  with_reducible refine c_seq ?_
  with_reducible refine c_region ?_
  refine stepD rfl F rfl (o_assign (F.ev rfl) ?_); clear F; clear a; intro a F
  with_reducible refine l_nil ?_
  with_reducible refine q_then ?_
  with_reducible refine c_block ?_
  refine c_loop (fun m a w => m = 0 ∧ Frm a 148 [] [(0, s), (1, .int .i64 0), (2, .int .i64 1), (3, .int .i64 z), (4, g)] ∧ Mem [] W w []) 0 ⟨rfl, F.only [0, 1, 2, 3, 4] rfl, M⟩ ?_
  clear F M
  rintro m a w ⟨hm, F, M⟩
  with_reducible refine c_block ?_
  with_reducible refine c_seq ?_
  with_reducible refine c_region ?_
  refine stepD rfl F rfl (o_move (F.ev rfl) ?_); clear F; clear a; intro a F
  refine stepD rfl F rfl (o_move (F.ev rfl) ?_); clear F; clear a; intro a F
  refine stepD rfl F rfl (o_sub (F.ev rfl) (F.ev rfl) (w_i64 (by omega) (by omega)) ?_); clear F; clear a; intro a F
  refine stepD rfl F rfl (o_assign (F.ev rfl) ?_); clear F; clear a; intro a F
  with_reducible refine l_nil ?_
  with_reducible refine q_then ?_
  with_reducible refine c_seq ?_
  with_reducible refine c_seq ?_
  with_reducible refine c_region ?_
  refine stepD rfl F rfl (o_move (F.ev rfl) ?_); clear F; clear a; intro a F
  refine stepD rfl F rfl (o_leqT (F.ev rfl) (F.ev rfl) (by omega) ?_); clear F; clear a; intro a F
  with_reducible refine l_nil ?_
  with_reducible refine q_then ?_
  refine c_true F rfl rfl ?_
  with_reducible refine c_seq ?_
  with_reducible refine c_region ?_
  refine stepD rfl F rfl (o_move (F.ev rfl) ?_); clear F; clear a; intro a F
  refine stepD rfl F rfl (o_move (F.ev rfl) ?_); clear F; clear a; intro a F
  refine stepD rfl F rfl (o_move (F.ev rfl) ?_); clear F; clear a; intro a F
  refine stepD rfl F rfl (o_move (F.ev rfl) ?_); clear F; clear a; intro a F
  (refine stepD rfl F rfl (o_call (F.ev rfl) (F.evs rfl) (Cal.mono (ins1_c _ _ _) ?_)); clear F; clear a; rintro _ w ⟨rfl, hE⟩ a F; replace M := M.later hE; clear hE)
  with_reducible refine l_nil ?_
  with_reducible refine q_then ?_
  with_reducible refine c_ret ?_
  with_reducible refine q_thenR ?_
  with_reducible refine q_inBR ?_
  with_reducible refine q_thenR ?_
  with_reducible refine q_inBR ?_
  refine p_ret F rfl .nil ?_
  exact ⟨rfl, M.ext⟩
theorem sort1_c (b c : Nat) (g : Value) (W : World) : Cal Try.prog 89 [.slice (some ⟨b, 0, none⟩) 1 c, g].toArray W fun v w' => v = .tuple #[] ∧ Ext [] W w' := by
  refine fn_ofM (n := 14) [] Try.func89 rfl rfl rfl ?_
  intro a w F M hwW
  with_reducible refine c_seq ?_
  with_reducible refine c_region ?_
  refine stepD rfl F rfl (o_move (F.ev rfl) ?_); clear F; clear a; intro a F
  refine stepD rfl F rfl (o_lenSl (F.ev rfl) ?_); clear F; clear a; intro a F
  refine stepD rfl F rfl (o_assign (F.ev rfl) ?_); clear F; clear a; intro a F
  with_reducible refine l_nil ?_
  with_reducible refine q_then ?_
  with_reducible refine c_region ?_
  refine stepD rfl F rfl (o_move (F.ev rfl) ?_); clear F; clear a; intro a F
  refine stepD rfl F rfl (o_move (F.ev rfl) ?_); clear F; clear a; intro a F
  refine stepD rfl F rfl (o_move (F.ev rfl) ?_); clear F; clear a; intro a F
  refine stepD rfl F rfl (o_conv (F.ev rfl) (w_u64 (by omega) (by omega)) ?_); clear F; clear a; intro a F
  (refine stepD rfl F rfl (o_call (F.ev rfl) (F.evs rfl) (Cal.mono (lenone_c _ ) ?_)); clear F; clear a; rintro _ w ⟨z, rfl, N⟩ a F; replace M := M.joins N; clear N)
  refine stepD rfl F rfl (o_move (F.ev rfl) ?_); clear F; clear a; intro a F
  (refine stepD rfl F rfl (o_call (F.ev rfl) (F.evs rfl) (Cal.mono (pdq1_c _ _ _ _) ?_)); clear F; clear a; rintro _ w ⟨rfl, hE⟩ a F; replace M := M.later hE; clear hE)
  with_reducible refine l_nil ?_
  exact p_end F rfl .nil ⟨rfl, M.ext⟩
theorem compact1_c (b c : Nat) (W : World) : Cal Try.prog 90 [.slice (some ⟨b, 0, none⟩) 1 c].toArray W fun v w' => v = .slice (some ⟨b, 0, none⟩) 1 c ∧ Ext [] W w' := by
  refine fn_ofM (n := 61) [] Try.func90 rfl rfl rfl ?_
  intro a w F M hwW
  with_reducible refine c_seq ?_
  with_reducible refine c_region ?_
  refine stepD rfl F rfl (o_assign (F.ev rfl) ?_); clear F; clear a; intro a F
  with_reducible refine l_nil ?_
  with_reducible refine q_then ?_
  with_reducible refine c_seq ?_
  with_reducible refine c_seq ?_
  with_reducible refine c_region ?_
  refine stepD rfl F rfl (o_move (F.ev rfl) ?_); clear F; clear a; intro a F
  refine stepD rfl F rfl (o_lenSl (F.ev rfl) ?_); clear F; clear a; intro a F
  refine stepD rfl F rfl (o_lssT (F.ev rfl) (F.ev rfl) (by omega) ?_); clear F; clear a; intro a F
  with_reducible refine l_nil ?_
  with_reducible refine q_then ?_
  refine c_true F rfl rfl ?_
  with_reducible refine c_seq ?_
  with_reducible refine c_region ?_
  refine stepD rfl F rfl (o_move (F.ev rfl) ?_); clear F; clear a; intro a F
  refine stepD rfl F rfl (o_assign (F.ev rfl) ?_); clear F; clear a; intro a F
  with_reducible refine l_nil ?_
  with_reducible refine q_then ?_
  with_reducible refine c_ret ?_
  with_reducible refine q_thenR ?_
  refine p_ret F rfl (.cons (.tmp (F.ev rfl)) .nil) ?_
  exact ⟨rfl, M.ext⟩
end Go.Proofs.Ytainnefmobfcjaa

/-! F8 -/
/-
  border.Addresses: the walk; the sort and the compaction at the end are handed in.
-/
namespace Go.Proofs.Ytainnefmobfcjaa
set_option linter.unusedVariables false
set_option linter.unusedSimpArgs false
open Go.RowKit
attribute [local irreducible] OpTo wpListIn Code.wpIn MW Cal

abbrev ipsC (ls : List (List Int)) : List Value := encL ipC ls
theorem build_ip1 {a : List Int} (h : a.length = 16) : putAll (placesL 1 16) (zerosL [.int .u8 0, .int .u8 0, .int .u8 0, .int .u8 0, .int .u8 0, .int .u8 0, .int .u8 0, .int .u8 0, .int .u8 0, .int .u8 0, .int .u8 0, .int .u8 0, .int .u8 0, .int .u8 0, .int .u8 0, .int .u8 0] (1 * 16)) [(0, ipC a)] = some (ipC a) := by
  obtain ⟨x0, x1, x2, x3, x4, x5, x6, x7, x8, x9, x10, x11, x12, x13, x14, x15, rfl⟩ := len16 h
  rfl
theorem joinI_isIP {p : List Int} (hp : IsIP p) {v : Int} (hv : 0 ≤ v) : IsIP (joinI p v) := by
  obtain ⟨n, rfl⟩ := Int.eq_ofNat_of_zero_le hv
  refine ⟨by simp [joinI, beB_len, hp.len], fun z hz => ?_⟩
  rcases List.mem_append.1 hz with h | h
  · exact hp.bd z (List.mem_of_mem_take h)
  · exact beB_bd n z h
def addr1 (iid : Int) (p : PInf) : Option (List Int) := if p.aut && (p.bits == 64 && !(p.life == 0)) then joinP p.ip p.bits iid else none
def rawA (iid : Int) (o : Off) : List (List Int) := o.ps.filterMap (addr1 iid)
def rawL (iid : Int) (os : List Off) : List (List Int) := os.flatMap (rawA iid)
theorem rawA_len (iid : Int) (o : Off) : (rawA iid o).length ≤ o.ps.length := List.length_filterMap_le _ _
theorem rawL_len (iid : Int) : ∀ (os : List Off), (∀ o ∈ os, o.ps.length ≤ 16) → (rawL iid os).length ≤ os.length * 16
  | [], _ => by simp [rawL]
  | o :: os, h => by
    have h1 := rawA_len iid o
    have h2 := h o (by simp)
    have h3 := rawL_len iid os fun x hx => h x (by simp [hx])
    simp only [rawL, List.flatMap_cons, List.length_append, List.length_cons] at h3 ⊢
    omega
theorem rawA_take {iid : Int} {ps : List PInf} {j : Nat} (hj : j < ps.length) : (ps.take (j + 1)).filterMap (addr1 iid) = (ps.take j).filterMap (addr1 iid) ++ (addr1 iid ps[j]).toList := by
  rw [List.take_add_one, List.getElem?_eq_getElem hj, List.filterMap_append]
  congr 1

/-- what is asked of the sort and of the compaction of a list of addresses -/
def SortOk (Pl : List (List Int) → Prop) (Ql : List (List Int) → List (List Int) → Prop) : Prop :=
  ∀ (S : List Nat) (W0 w : World) (l : List (Nat × Obj)) (f : List (Nat × Obj) → List (Nat × Obj)) (v : Value) (ls : List (List Int)) (ent : List (Nat × Obj)), Mem S W0 w l → OwnS 26 16 v ls.length (ipsC ls) ent → TailAt ent l f → (∀ a ∈ ls, IsIP a) → Pl ls →
    Cal Try.prog 89 [v, .func (.func 45) #[] #[]].toArray w fun _ w' => ∃ ls' ent', Ql ls ls' ∧ OwnS 26 16 v ls'.length (ipsC ls') ent' ∧ Mem S W0 w' (f ent')
def CompOk (Pl : List (List Int) → Prop) (Ql : List (List Int) → List (List Int) → Prop) : Prop :=
  ∀ (S : List Nat) (W0 w : World) (l : List (Nat × Obj)) (f : List (Nat × Obj) → List (Nat × Obj)) (v : Value) (ls : List (List Int)) (ent : List (Nat × Obj)), Mem S W0 w l → OwnS 26 16 v ls.length (ipsC ls) ent → TailAt ent l f → Pl ls →
    Cal Try.prog 90 [v].toArray w fun r w' => ∃ ls' ent', Ql ls ls' ∧ OwnS 26 16 r ls'.length (ipsC ls') ent' ∧ Mem S W0 w' (f ent')

set_option maxHeartbeats 8000000 in
theorem addresses_c (xs : List OV) (hx : ∀ x ∈ xs, IsOff x.o) (v : Value) (now : Int) (eui : Int) (he : 0 ≤ eui) (iid : Int) (hiid0 : 0 ≤ iid) (hii : iidA 3 0 eui = some iid) (W : World) (hS : SlAt W 20 v xs.length (encL ovC xs)) (hA : ∀ x ∈ xs, OffAt W x)
    (hv : validL (xs.map (·.o)) = true) (htm : isTime now = true) (he0 : ¬ eui = 0) {P1 P2 : List (List Int) → Prop} {Q1 Q2 : List (List Int) → List (List Int) → Prop} (hso : SortOk P1 Q1) (hco : CompOk P2 Q2) (hp1 : P1 (rawL iid (curO (xs.map (·.o)) now))) (hp2 : ∀ ls', Q1 (rawL iid (curO (xs.map (·.o)) now)) ls' → P2 ls') :
    Cal Try.prog 59 [v, .int .i64 now, .int .u64 eui].toArray W fun r w' => ∃ ls1 ls2, Q1 (rawL iid (curO (xs.map (·.o)) now)) ls1 ∧ Q2 ls1 ls2 ∧ SlAt w' 16 r ls2.length (ipsC ls2) ∧ Ext [] W w' := by
  have hSs := hS
  obtain ⟨q, cap, rfl, hcap, hsp, hl, hm⟩ := hS
  have hlen := validL_len hv
  rw [List.length_map] at hlen
  have hopt : optU (iidA 3 0 eui) = .tuple #[.int .u64 iid, .bool true] := by rw [hii]; rfl
  have hipl : ∀ {ip : List Int} {n : Int} {r : List Int}, IsIP ip → joinP ip n iid = some r → IsIP r := fun {ip n r} h hj => by
    unfold joinP at hj
    split at hj
    · cases hj
      exact joinI_isIP h hiid0
    · cases hj
  refine fn_ofM (n := 77) [] Try.func59 rfl rfl rfl ?_
  intro a w F M hwW
  with_reducible refine c_seq ?_
  with_reducible refine c_region ?_
  refine stepD rfl F rfl (o_assign (F.ev rfl) ?_); clear F; clear a; intro a F
  with_reducible refine l_nil ?_
  with_reducible refine q_then ?_
  with_reducible refine c_seq ?_
  with_reducible refine c_seq ?_
  with_reducible refine c_region ?_
  refine stepD rfl F rfl (o_move (F.ev rfl) ?_); clear F; clear a; intro a F
  (refine stepD rfl F rfl (o_call (F.ev rfl) (F.evs rfl) (Cal.mono (validL_c xs hx _ _ (hSs.later M.ext) (fun z hz => (hA z hz).later M.ext)) ?_)); clear F; clear a; rintro _ w ⟨rfl, hE⟩ a F; replace M := M.later hE; clear hE)
  rw [hv] at F
  refine stepD rfl F rfl (o_not (F.ev rfl) ?_); clear F; clear a; intro a F
  refine stepD rfl F rfl (o_move (F.ev rfl) ?_); clear F; clear a; intro a F
  refine stepG rfl F rfl rfl rfl (o_move (F.ev rfl) ?_); clear F; clear a; intro a F
  (refine stepG rfl F rfl rfl rfl (o_call (F.ev rfl) (F.evs rfl) (Cal.mono (isTime_c now _) ?_)); clear F; clear a; rintro _ w ⟨rfl, hE⟩ a F; replace M := M.later hE; clear hE)
  rw [htm] at F
  refine stepG rfl F rfl rfl rfl (o_not (F.ev rfl) ?_); clear F; clear a; intro a F
  refine stepD rfl F rfl (o_pickF (F.ev rfl) (F.ev rfl) ?_); clear F; clear a; intro a F
  refine stepD rfl F rfl (o_move (F.ev rfl) ?_); clear F; clear a; intro a F
  refine stepG rfl F rfl rfl rfl (o_move (F.ev rfl) ?_); clear F; clear a; intro a F
  refine stepG rfl F rfl rfl rfl (o_eqlF (F.ev rfl) (F.ev rfl) (by omega) ?_); clear F; clear a; intro a F
  refine stepD rfl F rfl (o_pickF (F.ev rfl) (F.ev rfl) ?_); clear F; clear a; intro a F
  with_reducible refine l_nil ?_
  with_reducible refine q_then ?_
  refine c_false F rfl rfl ?_
  with_reducible refine c_skip ?_
  with_reducible refine q_then ?_
  with_reducible refine c_seq ?_
  with_reducible refine c_region ?_
  refine stepD rfl F rfl (o_move (F.ev rfl) ?_); clear F; clear a; intro a F
  refine stepD rfl F rfl (o_build F rfl rfl ?_); clear F; clear a; intro a F
  (refine stepD rfl F rfl (o_call (F.ev rfl) (F.evs rfl) (Cal.mono (iid_c 3 0 eui (by omega) (by omega) _) ?_)); clear F; clear a; rintro _ w ⟨rfl, hE⟩ a F; replace M := M.later hE; clear hE)
  rw [hopt] at F
  refine stepD rfl F rfl (o_move (F.ev rfl) ?_); clear F; clear a; intro a F
  refine stepD rfl F rfl (o_extract (F.ev rfl) rfl ?_); clear F; clear a; intro a F
  refine stepD rfl F rfl (o_extract (F.ev rfl) rfl ?_); clear F; clear a; intro a F
  (refine stepD rfl F rfl (o_alloc M ?_); clear F; clear M; intro b7 w M a F)
  (refine stepN rfl F (o_store1 M (F.ev rfl) (F.ev rfl) rfl (by repeat (first | exact .here | apply Has.there)) (by rfl) (by repeat (first | exact .here | apply Upd.there)) ?_); clear F; clear M; intro w M a F)
  refine stepD rfl F rfl (o_assign (F.ev rfl) ?_); clear F; clear a; intro a F
  with_reducible refine l_nil ?_
  with_reducible refine q_then ?_
  with_reducible refine c_seq ?_
  with_reducible refine c_seq ?_
  with_reducible refine c_region ?_
  refine stepD rfl F rfl (o_move (F.ev rfl) ?_); clear F; clear a; intro a F
  refine stepD rfl F rfl (o_not (F.ev rfl) ?_); clear F; clear a; intro a F
  with_reducible refine l_nil ?_
  with_reducible refine q_then ?_
  refine c_false F rfl rfl ?_
  with_reducible refine c_skip ?_
  with_reducible refine q_then ?_
  with_reducible refine c_seq ?_
  with_reducible refine c_region ?_
  (refine stepD rfl F rfl (o_alloc M ?_); clear F; clear M; intro b9 w M a F)
  with_reducible refine l_nil ?_
  with_reducible refine q_then ?_
  with_reducible refine c_seq ?_
  with_reducible refine c_seq ?_
  with_reducible refine c_region ?_
  refine stepD rfl F rfl (o_move (F.ev rfl) ?_); clear F; clear a; intro a F
  refine stepD rfl F rfl (o_move (F.ev rfl) ?_); clear F; clear a; intro a F
  (refine stepD rfl F rfl (o_call (F.ev rfl) (F.evs rfl) (Cal.mono (current_c _ now _ rfl ) ?_)); clear F; clear a; rintro _ w ⟨c2, c3, rfl, N⟩ a F; replace M := M.joins N; clear N)
  with_reducible refine l_nil ?_
  with_reducible refine q_then ?_
  with_reducible refine c_block ?_
  replace F := F.only [37, 7, 9] rfl
  replace M := M.perm (l' := [(b9, .cells [.slice none 0 0].toArray 112 (0, 0)), (b7, .cells [.int .u64 iid].toArray 35 (0, 0))] ++ curB (.slice q xs.length cap) now c2 c3) List.perm_append_comm
  refine c_rangeAt (α := OV) (ps := [38]) F M rfl (cur_iter W xs hx _ hSs hA (by omega) now c2 c3) (fun _ => rfl) rfl
    (fun pre l => ∃ sv ent, OwnS 26 16 sv (rawL iid (pre.map (·.o))).length (ipsC (rawL iid (pre.map (·.o)))) ent ∧ (∀ a ∈ rawL iid (pre.map (·.o)), IsIP a) ∧ l = [(b9, .cells [sv].toArray 112 (0, 0)), (b7, .cells [.int .u64 iid].toArray 35 (0, 0))] ++ ent)
    (fun c pre l => False)
    ⟨_, [], OwnS.nil _ _, by simp [rawL], rfl⟩ ?round ?done ?stop
  case stop =>
    intro D c pre l' p' W' a' h
    exact h.elim
  case round =>
    clear F M
    rintro L pre y _ w p a hok ⟨sv, ent, hO, hI, rfl⟩ M F
    have hym : y ∈ curX xs now := hok.subset (by simp)
    have hyx : y ∈ xs := (List.mem_filter.1 hym).1
    have hyo := hx y hyx
    have hya := hA y hyx
    have hyv := validO_len (validL_each hv (List.mem_map_of_mem hyx))
    have hrl : (rawL iid (pre.map (·.o))).length ≤ 128 := by
      have h1 : ∀ o ∈ pre.map (·.o), o.ps.length ≤ 16 := fun o ho => by
        obtain ⟨x', h2, rfl⟩ := List.mem_map.1 ho
        have h3 : x' ∈ curX xs now := hok.subset (by simp [h2])
        exact (validO_len (validL_each hv (List.mem_map_of_mem (List.mem_filter.1 h3).1))).1
      have h2 := rawL_len iid _ h1
      have h3 : (pre ++ [y]).length ≤ (curX xs now).length := hok.length_le
      have h4 : (curX xs now).length ≤ xs.length := List.length_filter_le _ _
      simp at h3 h2
      omega
    have f2 : (ovC y).length = 20 := ov_len hyo
    have hya2 := hya
    obtain ⟨⟨q1, cap1, hu, hc1, hn1, hl1, hm1⟩, _⟩ := hya
    have f4 : nth (ovC y) 18 = some (.slice q1 y.o.ps.length cap1) := by rw [← hu]; exact of_ps hyo.1 _ _
    refine c_region ?_
    (refine stepD rfl F rfl (o_alloc M ?_); clear F; clear M; intro b10 w M a F)
    (refine stepN rfl F (o_storeA M (F.ev rfl) (F.ev rfl) (f2) (ov_one hya2)  (by repeat (first | exact .here | apply Has.there))  (put_all (by rw [f2]; rfl)) (by repeat (first | exact .here | apply Upd.there)) ?_); clear F; clear M; intro w M a F)
    refine l_nil ?_
    refine q_then ?_
    replace M : Mem [] W w (((b10, .cells (ovC y).toArray 58 (0, 0)) :: ([(b9, .cells [sv].toArray 112 (0, 0)), (b7, .cells [.int .u64 iid].toArray 35 (0, 0))] ++ ent)) ++ p) := M
    refine ⟨_, M, ?_⟩
    clear M
    intro w p M
    replace M := M.perm (l' := (b10, .cells (ovC y).toArray 58 (0, 0)) :: (b9, .cells [sv].toArray 112 (0, 0)) :: (b7, .cells [.int .u64 iid].toArray 35 (0, 0)) :: (p ++ ent)) (by classical exact List.perm_iff_count.2 fun _ => by simp only [List.count_append, List.count_cons, List.count_nil, Nat.add_zero, Nat.zero_add] <;> ac_rfl)
    replace F := F.only [10, 9, 7] rfl
    with_reducible refine c_block ?_
    with_reducible refine c_seq ?_
    with_reducible refine c_region ?_
    refine stepD rfl F rfl (o_fieldAddr (F.ev rfl) ?_); clear F; clear a; intro a F
    refine stepD rfl F rfl (o_load1 M (F.ev rfl) (by repeat (first | exact .here | apply Has.there)) (by first | assumption | rfl) ?_); clear F; clear a; intro a F
    refine stepD rfl F rfl (o_lenSl (F.ev rfl) ?_); clear F; clear a; intro a F
    refine stepD rfl F rfl (o_move (F.ev rfl) ?_); clear F; clear a; intro a F
    with_reducible refine l_nil ?_
    with_reducible refine q_then ?_
    with_reducible refine c_block ?_
    refine c_loop (fun m a w => ∃ (j : Nat) (R : List (List Int)) (sv : Value) (ent : List (Nat × Obj)), m = y.o.ps.length - j ∧ j ≤ y.o.ps.length ∧ R = rawL iid (pre.map (·.o)) ++ (y.o.ps.take j).filterMap (addr1 iid) ∧ R.length ≤ 128 + j ∧ (∀ a ∈ R, IsIP a) ∧ OwnS 26 16 sv R.length (ipsC R) ent ∧ Frm a 77 [] [(42, .int .i64 j), (41, .int .i64 y.o.ps.length), (40, .slice q1 y.o.ps.length cap1), (10, .pointer (some ⟨b10, 0, none⟩)), (9, .pointer (some ⟨b9, 0, none⟩)), (7, .pointer (some ⟨b7, 0, none⟩))] ∧ Mem [] W w ((b10, .cells (ovC y).toArray 58 (0, 0)) :: (b9, .cells [sv].toArray 112 (0, 0)) :: (b7, .cells [.int .u64 iid].toArray 35 (0, 0)) :: (p ++ ent))) y.o.ps.length ⟨0, _, sv, ent, rfl, by omega, by simp, hrl, hI, hO, F.only [42, 41, 40, 10, 9, 7] rfl, M⟩ ?_
    clear F M hO hI sv ent
    rintro m a w ⟨j, R, sv, ent, hm', hj, hR, hRl, hI, hO, F, M⟩
    by_cases hlt : j < y.o.ps.length
    · obtain ⟨b, o, cs, t, fz, rfl, hb, hs⟩ := hm1 (by omega)
      have hrt := rawA_take (iid := iid) hlt
      obtain ⟨p1, hp0⟩ : ∃ p1, p1 = y.o.ps[j] := ⟨_, rfl⟩
      rw [← hp0] at hrt
      have hpi : IsPi p1 := by rw [hp0]; exact hyo.2.1 _ (List.getElem_mem hlt)
      have f1 : seg cs (o + (j : Int).toNat * 20) 20 = some (piC p1) := by rw [hp0]; exact seg_el (pis_len hyo.2.1) hs hlt (by omega)
      have g1 := pi_aut hpi
      have g2 := pi_bits hpi
      have g3 := pi_life hpi
      have g4 := pi_pre hpi
      obtain ⟨sp, sc, rfl⟩ := hO.slice
      with_reducible refine c_seq ?_
      with_reducible refine c_region ?_
      refine stepD rfl F rfl (o_lssT (F.ev rfl) (F.ev rfl) (by omega) ?_); clear F; clear a; intro a F
      with_reducible refine l_nil ?_
      with_reducible refine q_then ?_
      with_reducible refine c_seq ?_
      refine c_true F rfl rfl ?_
      with_reducible refine c_skip ?_
      with_reducible refine q_then ?_
      with_reducible refine c_seq ?_
      with_reducible refine c_block ?_
      with_reducible refine c_seq ?_
      with_reducible refine c_region ?_
      refine stepD rfl F rfl (o_indexSl (F.ev rfl) (F.ev rfl) (by omega) (by omega) ?_); clear F; clear a; intro a F
      refine stepD rfl F rfl (o_loadWA M (F.ev rfl) (by assumption) (by first | assumption | rfl) ?_); clear F; clear a; intro a F
      (refine stepD rfl F rfl (o_alloc M ?_); clear F; clear M; intro b12 w M a F)
      (refine stepN rfl F (o_storeA M (F.ev rfl) (F.ev rfl) (pi_len hpi) (pi_one _)  (by repeat (first | exact .here | apply Has.there))  (put_all (by rw [pi_len hpi]; rfl)) (by repeat (first | exact .here | apply Upd.there)) ?_); clear F; clear M; intro w M a F)
      by_cases hc : p1.aut = true ∧ p1.bits = 64 ∧ ¬ p1.life = 0
      · obtain ⟨h1, h2, h3⟩ := hc
        have ha1 : addr1 iid p1 = joinP p1.ip p1.bits iid := by unfold addr1; rw [h1, h2]; simp [h3]
        rw [h1] at g1
        rw [ha1] at hrt
        with_reducible refine l_nil ?_
        with_reducible refine q_then ?_
        with_reducible refine c_seq ?_
        with_reducible refine c_seq ?_
        with_reducible refine c_region ?_
        refine stepD rfl F rfl (o_fieldAddr (F.ev rfl) ?_); clear F; clear a; intro a F
        refine stepD rfl F rfl (o_load1 M (F.ev rfl) (by repeat (first | exact .here | apply Has.there)) (by first | assumption | rfl) ?_); clear F; clear a; intro a F
        refine stepD rfl F rfl (o_not (F.ev rfl) ?_); clear F; clear a; intro a F
        refine stepD rfl F rfl (o_move (F.ev rfl) ?_); clear F; clear a; intro a F
        refine stepG rfl F rfl rfl rfl (o_fieldAddr (F.ev rfl) ?_); clear F; clear a; intro a F
        refine stepG rfl F rfl rfl rfl (o_fieldAddr (F.ev rfl) ?_); clear F; clear a; intro a F
        refine stepG rfl F rfl rfl rfl (o_load1 M (F.ev rfl) (by repeat (first | exact .here | apply Has.there)) (by first | assumption | rfl) ?_); clear F; clear a; intro a F
        refine stepG rfl F rfl rfl rfl (o_neqF (F.ev rfl) (F.ev rfl) (by omega) ?_); clear F; clear a; intro a F
        refine stepD rfl F rfl (o_pickF (F.ev rfl) (F.ev rfl) ?_); clear F; clear a; intro a F
        refine stepD rfl F rfl (o_move (F.ev rfl) ?_); clear F; clear a; intro a F
        refine stepG rfl F rfl rfl rfl (o_fieldAddr (F.ev rfl) ?_); clear F; clear a; intro a F
        refine stepG rfl F rfl rfl rfl (o_load1 M (F.ev rfl) (by repeat (first | exact .here | apply Has.there)) (by first | assumption | rfl) ?_); clear F; clear a; intro a F
        refine stepG rfl F rfl rfl rfl (o_eqlF (F.ev rfl) (F.ev rfl) (by omega) ?_); clear F; clear a; intro a F
        refine stepD rfl F rfl (o_pickF (F.ev rfl) (F.ev rfl) ?_); clear F; clear a; intro a F
        with_reducible refine l_nil ?_
        with_reducible refine q_then ?_
        refine c_false F rfl rfl ?_
        with_reducible refine c_skip ?_
        with_reducible refine q_then ?_
        with_reducible refine c_seq ?_
        with_reducible refine c_region ?_
        refine stepD rfl F rfl (o_fieldAddr (F.ev rfl) ?_); clear F; clear a; intro a F
        refine stepD rfl F rfl (o_loadA M (F.ev rfl) (by repeat (first | exact .here | apply Has.there)) (by first | assumption | rfl) ?_); clear F; clear a; intro a F
        refine stepD rfl F rfl (o_load1 M (F.ev rfl) (by repeat (first | exact .here | apply Has.there)) (by first | assumption | rfl) ?_); clear F; clear a; intro a F
        (refine stepD rfl F rfl (o_call (F.ev rfl) (F.evs rfl) (Cal.mono (join_c p1.ip hpi.len p1.bits iid hiid0 _) ?_)); clear F; clear a; rintro _ w ⟨rfl, hE⟩ a F; replace M := M.later hE; clear hE)
        cases hjn : joinP p1.ip p1.bits iid with
        | none =>
          rw [hjn, show optIP none = .tuple #[.agg (ipC zeroIP).toArray, .bool false] from rfl] at F
          rw [hjn] at hrt
          refine stepD rfl F rfl (o_move (F.ev rfl) ?_); clear F; clear a; intro a F
          refine stepD rfl F rfl (o_extract (F.ev rfl) rfl ?_); clear F; clear a; intro a F
          refine stepD rfl F rfl (o_extract (F.ev rfl) rfl ?_); clear F; clear a; intro a F
          (refine stepD rfl F rfl (o_alloc M ?_); clear F; clear M; intro b13 w M a F)
          (refine stepN rfl F (o_storeA M (F.ev rfl) (F.ev rfl) (ipC_len rfl) (one_ip _)  (by repeat (first | exact .here | apply Has.there))  (put_all rfl) (by repeat (first | exact .here | apply Upd.there)) ?_); clear F; clear M; intro w M a F)
          refine stepD rfl F rfl (o_assign (F.ev rfl) ?_); clear F; clear a; intro a F
          with_reducible refine l_nil ?_
          with_reducible refine q_then ?_
          with_reducible refine c_seq ?_
          with_reducible refine c_region ?_
          refine stepD rfl F rfl (o_move (F.ev rfl) ?_); clear F; clear a; intro a F
          with_reducible refine l_nil ?_
          with_reducible refine q_then ?_
          refine c_false F rfl rfl ?_
          with_reducible refine c_skip ?_
          with_reducible refine q_inB ?_
          with_reducible refine q_then ?_
          with_reducible refine c_region ?_
          refine stepD rfl F rfl (o_add (F.ev rfl) (F.ev rfl) (w_i64 (by omega) (by omega)) ?_); clear F; clear a; intro a F
          refine stepD rfl F rfl (o_move (F.ev rfl) ?_); clear F; clear a; intro a F
          with_reducible refine l_nil ?_
          with_reducible refine q_then ?_
          exact ⟨_, by omega, j + 1, R, _, ent, rfl, by omega, by rw [hrt, hR]; simp, by omega, hI, hO, F.only [42, 41, 40, 10, 9, 7] rfl, M.sub (.cons _ (.cons _ (.refl _)))⟩
        | some r =>
          rw [hjn, show optIP (some r) = .tuple #[.agg (ipC r).toArray, .bool true] from rfl] at F
          rw [hjn] at hrt
          have hri : IsIP r := hipl hpi hjn
          have k1 := ipC_len hri.len
          have k2 : seg (ipC r) 0 16 = some (ipC r) := seg_all k1
          refine stepD rfl F rfl (o_move (F.ev rfl) ?_); clear F; clear a; intro a F
          refine stepD rfl F rfl (o_extract (F.ev rfl) rfl ?_); clear F; clear a; intro a F
          refine stepD rfl F rfl (o_extract (F.ev rfl) rfl ?_); clear F; clear a; intro a F
          (refine stepD rfl F rfl (o_alloc M ?_); clear F; clear M; intro b13 w M a F)
          (refine stepN rfl F (o_storeA M (F.ev rfl) (F.ev rfl) (k1) (one_ip _)  (by repeat (first | exact .here | apply Has.there))  (put_all (by rw [k1]; rfl)) (by repeat (first | exact .here | apply Upd.there)) ?_); clear F; clear M; intro w M a F)
          refine stepD rfl F rfl (o_assign (F.ev rfl) ?_); clear F; clear a; intro a F
          with_reducible refine l_nil ?_
          with_reducible refine q_then ?_
          with_reducible refine c_seq ?_
          with_reducible refine c_region ?_
          refine stepD rfl F rfl (o_move (F.ev rfl) ?_); clear F; clear a; intro a F
          with_reducible refine l_nil ?_
          with_reducible refine q_then ?_
          refine c_true F rfl rfl ?_
          with_reducible refine c_region ?_
          refine stepD rfl F rfl (o_load1 M (F.ev rfl) (by repeat (first | exact .here | apply Has.there)) (by first | assumption | rfl) ?_); clear F; clear a; intro a F
          refine stepD rfl F rfl (o_loadA M (F.ev rfl) (by repeat (first | exact .here | apply Has.there)) (by first | assumption | rfl) ?_); clear F; clear a; intro a F
          (refine stepD rfl F rfl (o_buildSlice F M rfl rfl rfl (build_ip1 hri.len) ?_); clear F; clear M; intro b70 w M a F)
          (refine stepD rfl F rfl (o_append hO M (.cons (.cons (.cons (.cons (.cons (.cons (.app .here))))))) (F.ev rfl) (F.ev rfl) (SrcOf.cells' (M.heap .here) (sg_all (by omega)) (one_ip _)) (by omega) (by omega) ?_); clear F; clear M; clear hO; intro u2 ent2 w hO M a F)
          obtain ⟨sp2, sc2, rfl⟩ := hO.slice
          skip
          (refine stepN rfl F (o_store1 M (F.ev rfl) (F.ev rfl) rfl (by repeat (first | exact .here | apply Has.there)) (by rfl) (by repeat (first | exact .here | apply Upd.there)) ?_); clear F; clear M; intro w M a F)
          with_reducible refine l_nil ?_
          with_reducible refine q_inB ?_
          with_reducible refine q_then ?_
          with_reducible refine c_region ?_
          refine stepD rfl F rfl (o_add (F.ev rfl) (F.ev rfl) (w_i64 (by omega) (by omega)) ?_); clear F; clear a; intro a F
          refine stepD rfl F rfl (o_move (F.ev rfl) ?_); clear F; clear a; intro a F
          with_reducible refine l_nil ?_
          with_reducible refine q_then ?_
          refine ⟨_, by omega, j + 1, R ++ [r], _, ent2, rfl, by omega, by rw [hrt, hR]; simp, by simp; omega, ?_, ?_, F.only [42, 41, 40, 10, 9, 7] rfl, M.sub (.cons _ (.cons _ (.cons _ (.refl _))))⟩
          · intro z hz
            rcases List.mem_append.1 hz with h | h
            · exact hI z h
            · simp only [List.mem_singleton] at h
              subst h; exact hri
          · rw [show (R ++ [r]).length = R.length + 1 by simp, ipsC, encL_app, encL_one]; exact hO
      · have ha1 : addr1 iid p1 = none := by
          unfold addr1
          rw [if_neg]
          intro h
          simp only [Bool.and_eq_true, beq_iff_eq, Bool.not_eq_true', beq_eq_false_iff_ne] at h
          exact hc ⟨h.1, h.2.1, h.2.2⟩
        rw [ha1] at hrt
        have fin : ∀ {a : Act} {w : World}, Frm a 77 [] [(42, .int .i64 ((j + 1 : Nat) : Int)), (41, .int .i64 y.o.ps.length), (40, .slice (some ⟨b, o, none⟩) y.o.ps.length cap1), (10, .pointer (some ⟨b10, 0, none⟩)), (9, .pointer (some ⟨b9, 0, none⟩)), (7, .pointer (some ⟨b7, 0, none⟩))] → Mem [] W w ((b12, .cells (piC p1).toArray 111 (0, 0)) :: (b10, .cells (ovC y).toArray 58 (0, 0)) :: (b9, .cells [.slice sp R.length sc].toArray 112 (0, 0)) :: (b7, .cells [.int .u64 iid].toArray 35 (0, 0)) :: (p ++ ent)) → ∃ k', k' < m ∧ ∃ (j : Nat) (R : List (List Int)) (sv : Value) (ent : List (Nat × Obj)), k' = y.o.ps.length - j ∧ j ≤ y.o.ps.length ∧ R = rawL iid (pre.map (·.o)) ++ (y.o.ps.take j).filterMap (addr1 iid) ∧ R.length ≤ 128 + j ∧ (∀ a ∈ R, IsIP a) ∧ OwnS 26 16 sv R.length (ipsC R) ent ∧ Frm a 77 [] [(42, .int .i64 j), (41, .int .i64 y.o.ps.length), (40, .slice (some ⟨b, o, none⟩) y.o.ps.length cap1), (10, .pointer (some ⟨b10, 0, none⟩)), (9, .pointer (some ⟨b9, 0, none⟩)), (7, .pointer (some ⟨b7, 0, none⟩))] ∧ Mem [] W w ((b10, .cells (ovC y).toArray 58 (0, 0)) :: (b9, .cells [sv].toArray 112 (0, 0)) :: (b7, .cells [.int .u64 iid].toArray 35 (0, 0)) :: (p ++ ent)) :=
          fun F M => ⟨_, by omega, j + 1, R, _, ent, rfl, by omega, by rw [hrt, hR]; simp, by omega, hI, hO, F, M.sub (.cons _ (.refl _))⟩
        by_cases h1 : p1.aut = true
        · rw [h1] at g1
          by_cases h2 : p1.bits = 64
          · have h3 : p1.life = 0 := Decidable.byContradiction fun h => hc ⟨h1, h2, h⟩
            with_reducible refine l_nil ?_
            with_reducible refine q_then ?_
            with_reducible refine c_seq ?_
            with_reducible refine c_seq ?_
            with_reducible refine c_region ?_
            refine stepD rfl F rfl (o_fieldAddr (F.ev rfl) ?_); clear F; clear a; intro a F
            refine stepD rfl F rfl (o_load1 M (F.ev rfl) (by repeat (first | exact .here | apply Has.there)) (by first | assumption | rfl) ?_); clear F; clear a; intro a F
            refine stepD rfl F rfl (o_not (F.ev rfl) ?_); clear F; clear a; intro a F
            refine stepD rfl F rfl (o_move (F.ev rfl) ?_); clear F; clear a; intro a F
            refine stepG rfl F rfl rfl rfl (o_fieldAddr (F.ev rfl) ?_); clear F; clear a; intro a F
            refine stepG rfl F rfl rfl rfl (o_fieldAddr (F.ev rfl) ?_); clear F; clear a; intro a F
            refine stepG rfl F rfl rfl rfl (o_load1 M (F.ev rfl) (by repeat (first | exact .here | apply Has.there)) (by first | assumption | rfl) ?_); clear F; clear a; intro a F
            refine stepG rfl F rfl rfl rfl (o_neqF (F.ev rfl) (F.ev rfl) (by omega) ?_); clear F; clear a; intro a F
            refine stepD rfl F rfl (o_pickF (F.ev rfl) (F.ev rfl) ?_); clear F; clear a; intro a F
            refine stepD rfl F rfl (o_move (F.ev rfl) ?_); clear F; clear a; intro a F
            refine stepG rfl F rfl rfl rfl (o_fieldAddr (F.ev rfl) ?_); clear F; clear a; intro a F
            refine stepG rfl F rfl rfl rfl (o_load1 M (F.ev rfl) (by repeat (first | exact .here | apply Has.there)) (by first | assumption | rfl) ?_); clear F; clear a; intro a F
            refine stepG rfl F rfl rfl rfl (o_eqlT (F.ev rfl) (F.ev rfl) (by omega) ?_); clear F; clear a; intro a F
            refine stepD rfl F rfl (o_pickF (F.ev rfl) (F.ev rfl) ?_); clear F; clear a; intro a F
            with_reducible refine l_nil ?_
            with_reducible refine q_then ?_
            refine c_true F rfl rfl ?_
            with_reducible refine c_exit ?_
            with_reducible refine q_thenX ?_
            with_reducible refine q_inBX ?_
            with_reducible refine q_then ?_
            with_reducible refine c_region ?_
            refine stepD rfl F rfl (o_add (F.ev rfl) (F.ev rfl) (w_i64 (by omega) (by omega)) ?_); clear F; clear a; intro a F
            refine stepD rfl F rfl (o_move (F.ev rfl) ?_); clear F; clear a; intro a F
            with_reducible refine l_nil ?_
            with_reducible refine q_then ?_
            exact fin (F.only [42, 41, 40, 10, 9, 7] rfl) M
          · with_reducible refine l_nil ?_
            with_reducible refine q_then ?_
            with_reducible refine c_seq ?_
            with_reducible refine c_seq ?_
            with_reducible refine c_region ?_
            refine stepD rfl F rfl (o_fieldAddr (F.ev rfl) ?_); clear F; clear a; intro a F
            refine stepD rfl F rfl (o_load1 M (F.ev rfl) (by repeat (first | exact .here | apply Has.there)) (by first | assumption | rfl) ?_); clear F; clear a; intro a F
            refine stepD rfl F rfl (o_not (F.ev rfl) ?_); clear F; clear a; intro a F
            refine stepD rfl F rfl (o_move (F.ev rfl) ?_); clear F; clear a; intro a F
            refine stepG rfl F rfl rfl rfl (o_fieldAddr (F.ev rfl) ?_); clear F; clear a; intro a F
            refine stepG rfl F rfl rfl rfl (o_fieldAddr (F.ev rfl) ?_); clear F; clear a; intro a F
            refine stepG rfl F rfl rfl rfl (o_load1 M (F.ev rfl) (by repeat (first | exact .here | apply Has.there)) (by first | assumption | rfl) ?_); clear F; clear a; intro a F
            refine stepG rfl F rfl rfl rfl (o_neqT (F.ev rfl) (F.ev rfl) (by omega) ?_); clear F; clear a; intro a F
            refine stepD rfl F rfl (o_pickF (F.ev rfl) (F.ev rfl) ?_); clear F; clear a; intro a F
            refine stepD rfl F rfl (o_move (F.ev rfl) ?_); clear F; clear a; intro a F
            refine stepOff F rfl rfl rfl rfl ?_; clear F; clear a; intro a F
            refine stepOff F rfl rfl rfl rfl ?_; clear F; clear a; intro a F
            refine stepOff F rfl rfl rfl rfl ?_; clear F; clear a; intro a F
            refine stepD rfl F rfl (o_pickT (F.ev rfl) (F.ev rfl) ?_); clear F; clear a; intro a F
            with_reducible refine l_nil ?_
            with_reducible refine q_then ?_
            refine c_true F rfl rfl ?_
            with_reducible refine c_exit ?_
            with_reducible refine q_thenX ?_
            with_reducible refine q_inBX ?_
            with_reducible refine q_then ?_
            with_reducible refine c_region ?_
            refine stepD rfl F rfl (o_add (F.ev rfl) (F.ev rfl) (w_i64 (by omega) (by omega)) ?_); clear F; clear a; intro a F
            refine stepD rfl F rfl (o_move (F.ev rfl) ?_); clear F; clear a; intro a F
            with_reducible refine l_nil ?_
            with_reducible refine q_then ?_
            exact fin (F.only [42, 41, 40, 10, 9, 7] rfl) M
        · rw [show p1.aut = false by simpa using h1] at g1
          with_reducible refine l_nil ?_
          with_reducible refine q_then ?_
          with_reducible refine c_seq ?_
          with_reducible refine c_seq ?_
          with_reducible refine c_region ?_
          refine stepD rfl F rfl (o_fieldAddr (F.ev rfl) ?_); clear F; clear a; intro a F
          refine stepD rfl F rfl (o_load1 M (F.ev rfl) (by repeat (first | exact .here | apply Has.there)) (by first | assumption | rfl) ?_); clear F; clear a; intro a F
          refine stepD rfl F rfl (o_not (F.ev rfl) ?_); clear F; clear a; intro a F
          refine stepD rfl F rfl (o_move (F.ev rfl) ?_); clear F; clear a; intro a F
          refine stepOff F rfl rfl rfl rfl ?_; clear F; clear a; intro a F
          refine stepOff F rfl rfl rfl rfl ?_; clear F; clear a; intro a F
          refine stepOff F rfl rfl rfl rfl ?_; clear F; clear a; intro a F
          refine stepOff F rfl rfl rfl rfl ?_; clear F; clear a; intro a F
          refine stepD rfl F rfl (o_pickT (F.ev rfl) (F.ev rfl) ?_); clear F; clear a; intro a F
          refine stepD rfl F rfl (o_move (F.ev rfl) ?_); clear F; clear a; intro a F
          refine stepOff F rfl rfl rfl rfl ?_; clear F; clear a; intro a F
          refine stepOff F rfl rfl rfl rfl ?_; clear F; clear a; intro a F
          refine stepOff F rfl rfl rfl rfl ?_; clear F; clear a; intro a F
          refine stepD rfl F rfl (o_pickT (F.ev rfl) (F.ev rfl) ?_); clear F; clear a; intro a F
          with_reducible refine l_nil ?_
          with_reducible refine q_then ?_
          refine c_true F rfl rfl ?_
          with_reducible refine c_exit ?_
          with_reducible refine q_thenX ?_
          with_reducible refine q_inBX ?_
          with_reducible refine q_then ?_
          with_reducible refine c_region ?_
          refine stepD rfl F rfl (o_add (F.ev rfl) (F.ev rfl) (w_i64 (by omega) (by omega)) ?_); clear F; clear a; intro a F
          refine stepD rfl F rfl (o_move (F.ev rfl) ?_); clear F; clear a; intro a F
          with_reducible refine l_nil ?_
          with_reducible refine q_then ?_
          exact fin (F.only [42, 41, 40, 10, 9, 7] rfl) M
    · obtain rfl : j = y.o.ps.length := by omega
      with_reducible refine c_seq ?_
      with_reducible refine c_region ?_
      refine stepD rfl F rfl (o_lssF (F.ev rfl) (F.ev rfl) (by omega) ?_); clear F; clear a; intro a F
      with_reducible refine l_nil ?_
      with_reducible refine q_then ?_
      with_reducible refine c_seq ?_
      refine c_false F rfl rfl ?_
      with_reducible refine c_exit ?_
      with_reducible refine q_thenX ?_
      with_reducible refine q_thenX ?_
      with_reducible refine q_inBX ?_
      with_reducible refine q_inB ?_
      have hR2 : rawL iid ((pre ++ [y]).map (·.o)) = R := by
        rw [hR, List.take_length]; simp [rawL, rawA]
      refine ⟨_, ⟨sv, ent, by rw [hR2]; exact hO, by rw [hR2]; exact hI, rfl⟩, (M.perm (l' := (([(b9, .cells [sv].toArray 112 (0, 0)), (b7, .cells [.int .u64 iid].toArray 35 (0, 0))] ++ ent) ++ p) ++ [(b10, .cells (ovC y).toArray 58 (0, 0))]) (by classical exact List.perm_iff_count.2 fun _ => by simp only [List.count_append, List.count_cons, List.count_nil, Nat.add_zero, Nat.zero_add] <;> ac_rfl)).sub (List.sublist_append_left _ _)⟩
  case done =>
    clear F M
    rintro D ys _ p w a rfl ⟨sv, ent, hO, hI, rfl⟩ M F
    rw [curX_map] at hO hI
    replace M := M.perm (l' := (D, .deferred (some [])) :: (b9, .cells [sv].toArray 112 (0, 0)) :: (b7, .cells [.int .u64 iid].toArray 35 (0, 0)) :: (p ++ ent)) (by classical exact List.perm_iff_count.2 fun _ => by simp only [List.count_append, List.count_cons, List.count_nil, Nat.add_zero, Nat.zero_add] <;> ac_rfl)
    with_reducible refine q_inB ?_
    with_reducible refine q_then ?_
    with_reducible refine c_seq ?_
    with_reducible refine c_region ?_
    refine stepD rfl F rfl (o_load1 M (F.ev rfl) (by repeat (first | exact .here | apply Has.there)) (by first | assumption | rfl) ?_); clear F; clear a; intro a F
    (refine stepD rfl F rfl (o_call (F.ev rfl) (F.evs rfl) (Cal.mono (hso _ _ _ _ _ _ _ _ M hO (.cons (.cons (.cons (.app .here)))) hI hp1) ?_)); clear F; clear a; clear M; rintro _ w ⟨ls1, ent1, hq1, hO1, M⟩ a F)
    with_reducible refine l_nil ?_
    with_reducible refine q_then ?_
    with_reducible refine c_seq ?_
    with_reducible refine c_region ?_
    refine stepD rfl F rfl (o_load1 M (F.ev rfl) (by repeat (first | exact .here | apply Has.there)) (by first | assumption | rfl) ?_); clear F; clear a; intro a F
    (refine stepD rfl F rfl (o_call (F.ev rfl) (F.evs rfl) (Cal.mono (hco _ _ _ _ _ _ _ _ M hO1 (.cons (.cons (.cons (.app .here)))) (hp2 _ hq1)) ?_)); clear F; clear a; clear M; rintro r w ⟨ls2, ent2, hq2, hO2, M⟩ a F)
    refine stepD rfl F rfl (o_assign (F.ev rfl) ?_); clear F; clear a; intro a F
    with_reducible refine l_nil ?_
    with_reducible refine q_then ?_
    with_reducible refine c_ret ?_
    exact p_ret1 F M .here rfl fun w' M' => ⟨.cons (.tmp (F.ev rfl)) .nil, ls1, ls2, hq1, hq2, hO2.slAt M' fun p hp => by simp [hp], M'.ext⟩
end Go.Proofs.Ytainnefmobfcjaa

/-! F9 -/
/-
  multihoplaw23: offered; slices.Insert over ints.
-/
namespace Go.Proofs.Ytainnefmobfcjaa
set_option linter.unusedVariables false
set_option linter.unusedSimpArgs false
open Go.RowKit
attribute [local irreducible] OpTo wpListIn Code.wpIn MW Cal

set_option maxHeartbeats 4000000 in
theorem insertIn_c {v : Value} {n : Nat} {xs : List Value} {ent : List (Nat × Obj)} (i : Nat) (hi : i ≤ n) {vb : Nat} (ys : List Value) (hys : ys.length = 1) (h1x : xs.all (·.oneCell') = true) (h1y : ys.all (·.oneCell') = true) (W : World) {S : List Nat} {W0 : World} {l : List (Nat × Obj)} {f : List (Nat × Obj) → List (Nat × Obj)}
    (M : Mem S W0 W l) (hO : OwnS 3 1 v n xs ent) (hl : TailAt ent l f) (hv : Has l vb (.cells ys.toArray 3 (0, 0))) (hne : ∀ p ∈ ent, p.1 ≠ vb) (hn : n ≤ 100000) :
    Cal Try.prog 20 [v, .int .i64 i, .slice (some ⟨vb, 0, none⟩) 1 1].toArray W fun x w' => ∃ ent', OwnS 3 1 x (n + 1) (xs.take (i * 1) ++ (ys ++ xs.drop (i * 1))) ent' ∧ Mem S W0 w' (f ent') := by
  have hxl := hO.len
  have hsy : SrcOf Try.prog W (.slice (some ⟨vb, 0, none⟩) 1 1) 1 1 ys := SrcOf.cells' (M.heap hv) (sg_all (by omega)) h1y
  by_cases hin : i = n
  · subst hin
    rw [List.take_of_length_le (by omega), List.drop_of_length_le (by omega), List.append_nil]
    obtain ⟨q, cap, rfl⟩ := hO.slice
    refine fn_of (n := 95) Try.func20 rfl rfl rfl ?_
    intro a F
    with_reducible refine c_seq ?_
    with_reducible refine c_region ?_
    refine stepD rfl F rfl (o_assign (F.ev rfl) ?_); clear F; clear a; intro a F
    with_reducible refine l_nil ?_
    with_reducible refine q_then ?_
    with_reducible refine c_seq ?_
    with_reducible refine c_region ?_
    refine stepD rfl F rfl (o_move (F.ev rfl) ?_); clear F; clear a; intro a F
    refine stepD rfl F rfl (o_move (F.ev rfl) ?_); clear F; clear a; intro a F
    (refine stepD rfl F rfl (o_slLany (F.ev rfl) (F.ev rfl) (by omega) (by omega) ?_); clear F; clear a; intro _ a F)
    with_reducible refine l_nil ?_
    with_reducible refine q_then ?_
    with_reducible refine c_seq ?_
    with_reducible refine c_region ?_
    refine stepD rfl F rfl (o_move (F.ev rfl) ?_); clear F; clear a; intro a F
    refine stepD rfl F rfl (o_lenSl (F.ev rfl) ?_); clear F; clear a; intro a F
    refine stepD rfl F rfl (o_assign (F.ev rfl) ?_); clear F; clear a; intro a F
    with_reducible refine l_nil ?_
    with_reducible refine q_then ?_
    with_reducible refine c_seq ?_
    with_reducible refine c_seq ?_
    with_reducible refine c_region ?_
    refine stepD rfl F rfl (o_move (F.ev rfl) ?_); clear F; clear a; intro a F
    refine stepD rfl F rfl (o_eqlF (F.ev rfl) (F.ev rfl) (by omega) ?_); clear F; clear a; intro a F
    with_reducible refine l_nil ?_
    with_reducible refine q_then ?_
    refine c_false F rfl rfl ?_
    with_reducible refine c_skip ?_
    with_reducible refine q_then ?_
    with_reducible refine c_seq ?_
    with_reducible refine c_region ?_
    refine stepD rfl F rfl (o_move (F.ev rfl) ?_); clear F; clear a; intro a F
    refine stepD rfl F rfl (o_lenSl (F.ev rfl) ?_); clear F; clear a; intro a F
    refine stepD rfl F rfl (o_assign (F.ev rfl) ?_); clear F; clear a; intro a F
    with_reducible refine l_nil ?_
    with_reducible refine q_then ?_
    with_reducible refine c_seq ?_
    with_reducible refine c_seq ?_
    with_reducible refine c_region ?_
    refine stepD rfl F rfl (o_move (F.ev rfl) ?_); clear F; clear a; intro a F
    refine stepD rfl F rfl (o_move (F.ev rfl) ?_); clear F; clear a; intro a F
    refine stepD rfl F rfl (o_eqlT (F.ev rfl) (F.ev rfl) (by omega) ?_); clear F; clear a; intro a F
    with_reducible refine l_nil ?_
    with_reducible refine q_then ?_
    refine c_true F rfl rfl ?_
    with_reducible refine c_seq ?_
    with_reducible refine c_region ?_
    refine stepD rfl F rfl (o_move (F.ev rfl) ?_); clear F; clear a; intro a F
    refine stepD rfl F rfl (o_move (F.ev rfl) ?_); clear F; clear a; intro a F
    (refine stepD rfl F rfl (o_append hO M hl (F.ev rfl) (F.ev rfl) hsy (by omega) (by omega) ?_); clear F; clear M; intro v2 ent2 w hO2 M a F)
    refine stepD rfl F rfl (o_assign (F.ev rfl) ?_); clear F; clear a; intro a F
    with_reducible refine l_nil ?_
    with_reducible refine q_then ?_
    with_reducible refine c_ret ?_
    with_reducible refine q_thenR ?_
    refine p_ret F rfl (.cons (.tmp (F.ev rfl)) .nil) ?_
    exact ⟨ent2, hO2, M⟩
  · rcases hO with ⟨_, rfl, _, _⟩ | ⟨b, cap, junk, rfl, rfl, _, hjl, hnc⟩
    · omega
    obtain ⟨lr, rfl, hf⟩ := hl.spec
    have hvb : vb ≠ b := fun h => hne _ List.mem_cons_self h.symm
    obtain ⟨A, B, rfl, hA⟩ := cut_at xs (i * 1) (by omega)
    simp only [List.length_append] at hxl
    rw [← hA, List.take_left' rfl, List.drop_left' rfl]
    simp only [List.all_append, Bool.and_eq_true] at h1x
    have hB : B.length = (n - i) * 1 := by omega
    by_cases hroom : n + 1 ≤ cap
    · obtain ⟨J1, J2, rfl, hJ⟩ := cut_at junk 1 (by omega)
      simp only [List.length_append] at hjl
      obtain ⟨B1, B2, rfl, hB1⟩ := cut_at B 1 (by omega)
      simp only [List.length_append] at hB hxl
      have e1 : (A ++ (B1 ++ B2) ++ (J1 ++ J2)) = A ++ ((B1 ++ B2) ++ (J1 ++ J2)) := by simp
      have e2 : (A ++ (B1 ++ B2) ++ (J1 ++ J2)) = (A ++ B1) ++ ((B2 ++ J1) ++ J2) := by simp
      have p1 : put (A ++ (B1 ++ B2) ++ (J1 ++ J2)) (0 + (((i : Int) + 1).toNat * 1)) (B1 ++ B2) = some ((A ++ B1) ++ ((B1 ++ B2) ++ J2)) := by
        rw [e2]; exact put_mid (by simp; omega) (by simp; omega)
      have p2 : put ((A ++ B1) ++ ((B1 ++ B2) ++ J2)) (0 + (i : Int).toNat * 1) ys = some (A ++ (ys ++ ((B1 ++ B2) ++ J2))) := by
        rw [List.append_assoc]; exact put_mid (by omega) (by omega)
      have g1 : seg (A ++ (B1 ++ B2) ++ (J1 ++ J2)) (0 + (i : Int).toNat * 1) ((n - i) * 1) = some (B1 ++ B2) := by
        rw [e1]; exact seg_mid (by omega) (by simp; omega)
      have u1 : Upd (lr ++ [(b, Obj.cells (A ++ (B1 ++ B2) ++ (J1 ++ J2)).toArray 3 (0, 0))]) b (.cells (A ++ (B1 ++ B2) ++ (J1 ++ J2)).toArray 3 (0, 0)) (.cells ((A ++ B1) ++ ((B1 ++ B2) ++ J2)).toArray 3 (0, 0)) (lr ++ [(b, .cells ((A ++ B1) ++ ((B1 ++ B2) ++ J2)).toArray 3 (0, 0))]) := (Upd.here).append lr
      have u2 : Upd (lr ++ [(b, Obj.cells ((A ++ B1) ++ ((B1 ++ B2) ++ J2)).toArray 3 (0, 0))]) b (.cells ((A ++ B1) ++ ((B1 ++ B2) ++ J2)).toArray 3 (0, 0)) (.cells (A ++ (ys ++ ((B1 ++ B2) ++ J2))).toArray 3 (0, 0)) (lr ++ [(b, .cells (A ++ (ys ++ ((B1 ++ B2) ++ J2))).toArray 3 (0, 0))]) := (Upd.here).append lr
      have hv2 : Has (lr ++ [(b, Obj.cells ((A ++ B1) ++ ((B1 ++ B2) ++ J2)).toArray 3 (0, 0))]) vb (.cells ys.toArray 3 (0, 0)) := has_other hv hvb
      refine fn_of (n := 95) Try.func20 rfl rfl rfl ?_
      intro a F
      with_reducible refine c_seq ?_
      with_reducible refine c_region ?_
      refine stepD rfl F rfl (o_assign (F.ev rfl) ?_); clear F; clear a; intro a F
      with_reducible refine l_nil ?_
      with_reducible refine q_then ?_
      with_reducible refine c_seq ?_
      with_reducible refine c_region ?_
      refine stepD rfl F rfl (o_move (F.ev rfl) ?_); clear F; clear a; intro a F
      refine stepD rfl F rfl (o_move (F.ev rfl) ?_); clear F; clear a; intro a F
      (refine stepD rfl F rfl (o_slL (F.ev rfl) (F.ev rfl) (by omega) (by omega) (by omega) ?_); clear F; clear a; intro a F)
      with_reducible refine l_nil ?_
      with_reducible refine q_then ?_
      with_reducible refine c_seq ?_
      with_reducible refine c_region ?_
      refine stepD rfl F rfl (o_move (F.ev rfl) ?_); clear F; clear a; intro a F
      refine stepD rfl F rfl (o_lenSl (F.ev rfl) ?_); clear F; clear a; intro a F
      refine stepD rfl F rfl (o_assign (F.ev rfl) ?_); clear F; clear a; intro a F
      with_reducible refine l_nil ?_
      with_reducible refine q_then ?_
      with_reducible refine c_seq ?_
      with_reducible refine c_seq ?_
      with_reducible refine c_region ?_
      refine stepD rfl F rfl (o_move (F.ev rfl) ?_); clear F; clear a; intro a F
      refine stepD rfl F rfl (o_eqlF (F.ev rfl) (F.ev rfl) (by omega) ?_); clear F; clear a; intro a F
      with_reducible refine l_nil ?_
      with_reducible refine q_then ?_
      refine c_false F rfl rfl ?_
      with_reducible refine c_skip ?_
      with_reducible refine q_then ?_
      with_reducible refine c_seq ?_
      with_reducible refine c_region ?_
      refine stepD rfl F rfl (o_move (F.ev rfl) ?_); clear F; clear a; intro a F
      refine stepD rfl F rfl (o_lenSl (F.ev rfl) ?_); clear F; clear a; intro a F
      refine stepD rfl F rfl (o_assign (F.ev rfl) ?_); clear F; clear a; intro a F
      with_reducible refine l_nil ?_
      with_reducible refine q_then ?_
      with_reducible refine c_seq ?_
      with_reducible refine c_seq ?_
      with_reducible refine c_region ?_
      refine stepD rfl F rfl (o_move (F.ev rfl) ?_); clear F; clear a; intro a F
      refine stepD rfl F rfl (o_move (F.ev rfl) ?_); clear F; clear a; intro a F
      refine stepD rfl F rfl (o_eqlF (F.ev rfl) (F.ev rfl) (by omega) ?_); clear F; clear a; intro a F
      with_reducible refine l_nil ?_
      with_reducible refine q_then ?_
      refine c_false F rfl rfl ?_
      with_reducible refine c_skip ?_
      with_reducible refine q_then ?_
      with_reducible refine c_seq ?_
      with_reducible refine c_seq ?_
      with_reducible refine c_region ?_
      refine stepD rfl F rfl (o_move (F.ev rfl) ?_); clear F; clear a; intro a F
      refine stepD rfl F rfl (o_move (F.ev rfl) ?_); clear F; clear a; intro a F
      refine stepD rfl F rfl (o_add (F.ev rfl) (F.ev rfl) (w_i64 (by omega) (by omega)) ?_); clear F; clear a; intro a F
      refine stepD rfl F rfl (o_move (F.ev rfl) ?_); clear F; clear a; intro a F
      refine stepD rfl F rfl (o_capSl (F.ev rfl) ?_); clear F; clear a; intro a F
      refine stepD rfl F rfl (o_gtrF (F.ev rfl) (F.ev rfl) (by omega) ?_); clear F; clear a; intro a F
      with_reducible refine l_nil ?_
      with_reducible refine q_then ?_
      refine c_false F rfl rfl ?_
      with_reducible refine c_skip ?_
      with_reducible refine q_then ?_
      with_reducible refine c_seq ?_
      with_reducible refine c_region ?_
      refine stepD rfl F rfl (o_move (F.ev rfl) ?_); clear F; clear a; intro a F
      refine stepD rfl F rfl (o_move (F.ev rfl) ?_); clear F; clear a; intro a F
      refine stepD rfl F rfl (o_move (F.ev rfl) ?_); clear F; clear a; intro a F
      refine stepD rfl F rfl (o_add (F.ev rfl) (F.ev rfl) (w_i64 (by omega) (by omega)) ?_); clear F; clear a; intro a F
      (refine stepD rfl F rfl (o_slH (F.ev rfl) (F.ev rfl) (by simp) (by omega) (by omega) ?_); clear F; clear a; intro a F)
      refine stepD rfl F rfl (o_assign (F.ev rfl) ?_); clear F; clear a; intro a F
      with_reducible refine l_nil ?_
      with_reducible refine q_then ?_
      with_reducible refine c_seq ?_
      with_reducible refine c_seq ?_
      with_reducible refine c_region ?_
      refine stepD rfl F rfl (o_move (F.ev rfl) ?_); clear F; clear a; intro a F
      refine stepD rfl F rfl (o_move (F.ev rfl) ?_); clear F; clear a; intro a F
      refine stepD rfl F rfl (o_move (F.ev rfl) ?_); clear F; clear a; intro a F
      refine stepD rfl F rfl (o_move (F.ev rfl) ?_); clear F; clear a; intro a F
      refine stepD rfl F rfl (o_add (F.ev rfl) (F.ev rfl) (w_i64 (by omega) (by omega)) ?_); clear F; clear a; intro a F
      (refine stepD rfl F rfl (o_slL (F.ev rfl) (F.ev rfl) (by omega) (by omega) (by omega) ?_); clear F; clear a; intro a F)
      (refine stepD rfl F rfl (o_entry (F.ev rfl) Try.func51 (by kernel_rfl) (by kernel_rfl) (by kernel_rfl) (e := Extern.SlicesOverlaps.overlaps #[22, 22] #[4]) (by kernel_rfl) (F.evs rfl) (run_ov (TU.h (P := Try.prog) (t := 22)) (TSz.h (P := Try.prog) (t := 3)) hvb (M.heap hv) (M.heap u1.has) (by simp only [List.length_append]; omega)) ?_); clear F; clear a; intro a F)
      refine stepD rfl F rfl (o_not (F.ev rfl) ?_); clear F; clear a; intro a F
      with_reducible refine l_nil ?_
      with_reducible refine q_then ?_
      refine c_true F rfl rfl ?_
      with_reducible refine c_seq ?_
      refine c_draw 8 F (by kernel_rfl) ?_
      intro w1 hE hok
      have M1 := M.later hE
      refine mK hok rfl rfl (fun a' w' F' E' => o_move (F'.ev rfl) ⟨Ext.refl _ _, rfl⟩) ?_
      refine mK hok rfl rfl (fun a' w' F' E' => o_move (F'.ev rfl) ⟨Ext.refl _ _, rfl⟩) ?_
      refine mK hok rfl rfl (fun a' w' F' E' => o_move (F'.ev rfl) ⟨Ext.refl _ _, rfl⟩) ?_
      refine mK hok rfl rfl (fun a' w' F' E' => o_add (F'.ev rfl) (F'.ev rfl) (w_i64 (by omega) (by omega)) ⟨Ext.refl _ _, rfl⟩) ?_
      (refine mK hok rfl rfl (fun a' w' F' E' => o_slL (F'.ev rfl) (F'.ev rfl) (by omega) (by omega) (by omega) ⟨Ext.refl _ _, rfl⟩) ?_)
      refine mK hok rfl rfl (fun a' w' F' E' => o_move (F'.ev rfl) ⟨Ext.refl _ _, rfl⟩) ?_
      refine mK hok rfl rfl (fun a' w' F' E' => o_move (F'.ev rfl) ⟨Ext.refl _ _, rfl⟩) ?_
      (refine mK hok rfl rfl (fun a' w' F' E' => o_slL (F'.ev rfl) (F'.ev rfl) (by omega) (by omega) (by omega) ⟨Ext.refl _ _, rfl⟩) ?_)
      skip
      (refine mDone rfl rfl ?_; clear F; clear M; intro a w F hE2 hX hTT hDD hPP; have M := M1.later hE2; clear M1; clear hX; clear hE2; clear hok; clear hE; clear hTT; clear hDD; clear hPP; (try dsimp only at F))
      (refine stepD rfl F rfl (o_copy (n := n - i) M (F.ev rfl) (F.ev rfl) (by show _ = min _ _; omega) u1.has g1 (by simp only [List.all_append, Bool.and_eq_true] at h1x ⊢; exact h1x.2) u1.has p1 u1 ?_); clear F; clear M; intro w M a F)
      with_reducible refine l_nil ?_
      with_reducible refine q_then ?_
      with_reducible refine c_seq ?_
      with_reducible refine c_region ?_
      refine stepD rfl F rfl (o_move (F.ev rfl) ?_); clear F; clear a; intro a F
      refine stepD rfl F rfl (o_move (F.ev rfl) ?_); clear F; clear a; intro a F
      (refine stepD rfl F rfl (o_slL (F.ev rfl) (F.ev rfl) (by omega) (by omega) (by omega) ?_); clear F; clear a; intro a F)
      refine stepD rfl F rfl (o_move (F.ev rfl) ?_); clear F; clear a; intro a F
      (refine stepD rfl F rfl (o_copy (n := 1) M (F.ev rfl) (F.ev rfl) (by show _ = min _ _; omega) hv2 (sg_all (by omega)) h1y u2.has p2 u2 ?_); clear F; clear M; intro w M a F)
      with_reducible refine l_nil ?_
      with_reducible refine q_then ?_
      with_reducible refine c_seq ?_
      with_reducible refine c_region ?_
      refine stepD rfl F rfl (o_move (F.ev rfl) ?_); clear F; clear a; intro a F
      refine stepD rfl F rfl (o_assign (F.ev rfl) ?_); clear F; clear a; intro a F
      with_reducible refine l_nil ?_
      with_reducible refine q_then ?_
      with_reducible refine c_ret ?_
      with_reducible refine q_thenR ?_
      refine p_ret F rfl (.cons (.tmp (F.ev rfl)) .nil) ?_
      refine ⟨_, .inr ⟨b, cap, J2, ?_, rfl, ?_, ?_, ?_⟩, ?_⟩
      · show Value.slice _ _ _ = _
        congr 1
      · simp; omega
      · omega
      · omega
      · rw [hf]
        have e3 : A ++ (ys ++ (B1 ++ B2)) ++ J2 = A ++ (ys ++ ((B1 ++ B2) ++ J2)) := by simp
        rw [e3]; exact M
    · have hcn : n = cap := by omega
      subst hcn
      have hj0 : junk = [] := List.length_eq_zero_iff.1 (by omega)
      subst hj0
      have hbh : Has (lr ++ [(b, Obj.cells (A ++ B ++ []).toArray 3 (0, 0))]) b (.cells (A ++ B ++ []).toArray 3 (0, 0)) := Has.app .here lr
      have g0 : seg (A ++ B ++ []) 0 (i * 1) = some A := by
        rw [List.append_nil]
        have := seg_mid (A := []) (B := A) (C := B) (off := 0) (n := i * 1) rfl (by omega)
        simpa using this
      have g1 : seg (A ++ B ++ []) (0 + (i : Int).toNat * 1) ((n - i) * 1) = some B := by
        rw [List.append_assoc]; exact seg_mid (by omega) (by omega)
      have hsA : SrcOf Try.prog W (.slice (some ⟨b, 0, none⟩) i n) i 1 A := SrcOf.cells' (M.heap hbh) g0 h1x.1
      refine fn_of (n := 95) Try.func20 rfl rfl rfl ?_
      intro a F
      with_reducible refine c_seq ?_
      with_reducible refine c_region ?_
      refine stepD rfl F rfl (o_assign (F.ev rfl) ?_); clear F; clear a; intro a F
      with_reducible refine l_nil ?_
      with_reducible refine q_then ?_
      with_reducible refine c_seq ?_
      with_reducible refine c_region ?_
      refine stepD rfl F rfl (o_move (F.ev rfl) ?_); clear F; clear a; intro a F
      refine stepD rfl F rfl (o_move (F.ev rfl) ?_); clear F; clear a; intro a F
      (refine stepD rfl F rfl (o_slL (F.ev rfl) (F.ev rfl) (by omega) (by omega) (by omega) ?_); clear F; clear a; intro a F)
      with_reducible refine l_nil ?_
      with_reducible refine q_then ?_
      with_reducible refine c_seq ?_
      with_reducible refine c_region ?_
      refine stepD rfl F rfl (o_move (F.ev rfl) ?_); clear F; clear a; intro a F
      refine stepD rfl F rfl (o_lenSl (F.ev rfl) ?_); clear F; clear a; intro a F
      refine stepD rfl F rfl (o_assign (F.ev rfl) ?_); clear F; clear a; intro a F
      with_reducible refine l_nil ?_
      with_reducible refine q_then ?_
      with_reducible refine c_seq ?_
      with_reducible refine c_seq ?_
      with_reducible refine c_region ?_
      refine stepD rfl F rfl (o_move (F.ev rfl) ?_); clear F; clear a; intro a F
      refine stepD rfl F rfl (o_eqlF (F.ev rfl) (F.ev rfl) (by omega) ?_); clear F; clear a; intro a F
      with_reducible refine l_nil ?_
      with_reducible refine q_then ?_
      refine c_false F rfl rfl ?_
      with_reducible refine c_skip ?_
      with_reducible refine q_then ?_
      with_reducible refine c_seq ?_
      with_reducible refine c_region ?_
      refine stepD rfl F rfl (o_move (F.ev rfl) ?_); clear F; clear a; intro a F
      refine stepD rfl F rfl (o_lenSl (F.ev rfl) ?_); clear F; clear a; intro a F
      refine stepD rfl F rfl (o_assign (F.ev rfl) ?_); clear F; clear a; intro a F
      with_reducible refine l_nil ?_
      with_reducible refine q_then ?_
      with_reducible refine c_seq ?_
      with_reducible refine c_seq ?_
      with_reducible refine c_region ?_
      refine stepD rfl F rfl (o_move (F.ev rfl) ?_); clear F; clear a; intro a F
      refine stepD rfl F rfl (o_move (F.ev rfl) ?_); clear F; clear a; intro a F
      refine stepD rfl F rfl (o_eqlF (F.ev rfl) (F.ev rfl) (by omega) ?_); clear F; clear a; intro a F
      with_reducible refine l_nil ?_
      with_reducible refine q_then ?_
      refine c_false F rfl rfl ?_
      with_reducible refine c_skip ?_
      with_reducible refine q_then ?_
      with_reducible refine c_seq ?_
      with_reducible refine c_seq ?_
      with_reducible refine c_region ?_
      refine stepD rfl F rfl (o_move (F.ev rfl) ?_); clear F; clear a; intro a F
      refine stepD rfl F rfl (o_move (F.ev rfl) ?_); clear F; clear a; intro a F
      refine stepD rfl F rfl (o_add (F.ev rfl) (F.ev rfl) (w_i64 (by omega) (by omega)) ?_); clear F; clear a; intro a F
      refine stepD rfl F rfl (o_move (F.ev rfl) ?_); clear F; clear a; intro a F
      refine stepD rfl F rfl (o_capSl (F.ev rfl) ?_); clear F; clear a; intro a F
      refine stepD rfl F rfl (o_gtrT (F.ev rfl) (F.ev rfl) (by omega) ?_); clear F; clear a; intro a F
      with_reducible refine l_nil ?_
      with_reducible refine q_then ?_
      refine c_true F rfl rfl ?_
      with_reducible refine c_seq ?_
      with_reducible refine c_region ?_
      refine stepD rfl F rfl (o_move (F.ev rfl) ?_); clear F; clear a; intro a F
      refine stepD rfl F rfl (o_move (F.ev rfl) ?_); clear F; clear a; intro a F
      (refine stepD rfl F rfl (o_slH (F.ev rfl) (F.ev rfl) (by simp) (by omega) (by omega) ?_); clear F; clear a; intro a F)
      refine stepD rfl F rfl (o_move (F.ev rfl) ?_); clear F; clear a; intro a F
      refine stepD rfl F rfl (o_move (F.ev rfl) ?_); clear F; clear a; intro a F
      refine stepD rfl F rfl (o_add (F.ev rfl) (F.ev rfl) (w_i64 (by omega) (by omega)) ?_); clear F; clear a; intro a F
      refine stepD rfl F rfl (o_move (F.ev rfl) ?_); clear F; clear a; intro a F
      refine stepD rfl F rfl (o_sub (F.ev rfl) (F.ev rfl) (w_i64 (by omega) (by omega)) ?_); clear F; clear a; intro a F
      rw [show ((n : Int) + ((1 : Nat) : Int) - i) = ((n + 1 - i : Nat) : Int) by omega, Int.toNat_natCast] at F
      (refine stepD rfl F rfl (o_appendZ (xs := A) (k := n + 1 - i) M hsA (F.ev rfl) (F.ev rfl) (by omega) (by omega) (by omega) (by omega) (by omega) ?_); clear F; clear M; intro b2 cap2 zs w hzl hc2 M a F)
      rw [show i + (n + 1 - i) = n + 1 by omega] at F hc2
      obtain ⟨Z1, Z', rfl, hZ1⟩ := cut_at zs 1 (by omega)
      simp only [List.length_append] at hzl
      obtain ⟨Z2, Z3, rfl, hZ2⟩ := cut_at Z' ((n - i) * 1) (by omega)
      simp only [List.length_append] at hzl
      have p1 : put (A ++ (Z1 ++ (Z2 ++ Z3))) (0 + (i : Int).toNat * 1) ys = some (A ++ (ys ++ (Z2 ++ Z3))) := put_mid (by omega) (by omega)
      have p2 : put (A ++ (ys ++ (Z2 ++ Z3))) (0 + ((i : Int) + 1).toNat * 1) B = some ((A ++ ys) ++ (B ++ Z3)) := by
        rw [← List.append_assoc]; exact put_mid (by simp; omega) (by omega)
      refine stepD rfl F rfl (o_assign (F.ev rfl) ?_); clear F; clear a; intro a F
      with_reducible refine l_nil ?_
      with_reducible refine q_then ?_
      with_reducible refine c_seq ?_
      with_reducible refine c_region ?_
      refine stepD rfl F rfl (o_move (F.ev rfl) ?_); clear F; clear a; intro a F
      refine stepD rfl F rfl (o_move (F.ev rfl) ?_); clear F; clear a; intro a F
      (refine stepD rfl F rfl (o_slL (F.ev rfl) (F.ev rfl) (by omega) (by omega) (by omega) ?_); clear F; clear a; intro a F)
      refine stepD rfl F rfl (o_move (F.ev rfl) ?_); clear F; clear a; intro a F
      (refine stepD rfl F rfl (o_copy (n := 1) M (F.ev rfl) (F.ev rfl) (by show _ = min _ _; omega) (.there hv) (sg_all (by omega)) h1y .here p1 .here ?_); clear F; clear M; intro w M a F)
      with_reducible refine l_nil ?_
      with_reducible refine q_then ?_
      with_reducible refine c_seq ?_
      refine c_draw 8 F (by kernel_rfl) ?_
      intro w1 hE hok
      have M1 := M.later hE
      refine mK hok rfl rfl (fun a' w' F' E' => o_move (F'.ev rfl) ⟨Ext.refl _ _, rfl⟩) ?_
      refine mK hok rfl rfl (fun a' w' F' E' => o_move (F'.ev rfl) ⟨Ext.refl _ _, rfl⟩) ?_
      refine mK hok rfl rfl (fun a' w' F' E' => o_move (F'.ev rfl) ⟨Ext.refl _ _, rfl⟩) ?_
      refine mK hok rfl rfl (fun a' w' F' E' => o_add (F'.ev rfl) (F'.ev rfl) (w_i64 (by omega) (by omega)) ⟨Ext.refl _ _, rfl⟩) ?_
      (refine mK hok rfl rfl (fun a' w' F' E' => o_slL (F'.ev rfl) (F'.ev rfl) (by omega) (by omega) (by omega) ⟨Ext.refl _ _, rfl⟩) ?_)
      refine mK hok rfl rfl (fun a' w' F' E' => o_move (F'.ev rfl) ⟨Ext.refl _ _, rfl⟩) ?_
      refine mK hok rfl rfl (fun a' w' F' E' => o_move (F'.ev rfl) ⟨Ext.refl _ _, rfl⟩) ?_
      (refine mK hok rfl rfl (fun a' w' F' E' => o_slL (F'.ev rfl) (F'.ev rfl) (by omega) (by omega) (by omega) ⟨Ext.refl _ _, rfl⟩) ?_)
      skip
      (refine mDone rfl rfl ?_; clear F; clear M; intro a w F hE2 hX hTT hDD hPP; have M := M1.later hE2; clear M1; clear hX; clear hE2; clear hok; clear hE; clear hTT; clear hDD; clear hPP; (try dsimp only at F))
      (refine stepD rfl F rfl (o_copy (n := n - i) M (F.ev rfl) (F.ev rfl) (by show _ = min _ _; omega) (.there hbh) g1 h1x.2 .here p2 .here ?_); clear F; clear M; intro w M a F)
      with_reducible refine l_nil ?_
      with_reducible refine q_then ?_
      with_reducible refine c_seq ?_
      with_reducible refine c_region ?_
      refine stepD rfl F rfl (o_move (F.ev rfl) ?_); clear F; clear a; intro a F
      refine stepD rfl F rfl (o_assign (F.ev rfl) ?_); clear F; clear a; intro a F
      with_reducible refine l_nil ?_
      with_reducible refine q_then ?_
      with_reducible refine c_ret ?_
      with_reducible refine q_thenR ?_
      refine p_ret F rfl (.cons (.tmp (F.ev rfl)) .nil) ?_
      refine ⟨[(b2, .cells ((A ++ ys) ++ (B ++ Z3)).toArray 3 (0, 0))], .inr ⟨b2, cap2, Z3, rfl, ?_, ?_, ?_, ?_⟩, ?_⟩
      · rw [show A ++ (ys ++ B) ++ Z3 = (A ++ ys) ++ (B ++ Z3) by simp]
      · simp; omega
      · omega
      · omega
      · rw [hf]
        exact (M.sub (l' := (b2, .cells ((A ++ ys) ++ (B ++ Z3)).toArray 3 (0, 0)) :: lr) ((List.sublist_append_left lr _).cons_cons _)).perm (List.perm_append_comm (l₁ := [_]) (l₂ := lr))


theorem sortOk1 : SortOk (fun ls => ls.length = 1) (fun ls ls' => ls' = ls) := by
  intro S W0 w l f v ls ent M hO hl hI h1
  rcases hO with ⟨_, h0, _, _⟩ | ⟨b, cap, junk, rfl, rfl, hxl, hjl, hnc⟩
  · omega
  have hO2 : OwnS 26 16 (.slice (some ⟨b, 0, none⟩) ls.length cap) ls.length (ipsC ls) [(b, .cells (ipsC ls ++ junk).toArray 26 (0, 0))] := .inr ⟨b, cap, junk, rfl, rfl, hxl, hjl, hnc⟩
  obtain ⟨lr, rfl, hf⟩ := hl.spec
  rw [h1] at hO2 ⊢
  exact Cal.mono (sort1_c b cap _ w) fun _ _ h => ⟨ls, _, rfl, by rw [h1]; exact hO2, by rw [hf]; exact M.later h.2⟩
theorem compOk1 : CompOk (fun ls => ls.length = 1) (fun ls ls' => ls' = ls) := by
  intro S W0 w l f v ls ent M hO hl h1
  rcases hO with ⟨_, h0, _, _⟩ | ⟨b, cap, junk, rfl, rfl, hxl, hjl, hnc⟩
  · omega
  have hO2 : OwnS 26 16 (.slice (some ⟨b, 0, none⟩) ls.length cap) ls.length (ipsC ls) [(b, .cells (ipsC ls ++ junk).toArray 26 (0, 0))] := .inr ⟨b, cap, junk, rfl, rfl, hxl, hjl, hnc⟩
  obtain ⟨lr, rfl, hf⟩ := hl.spec
  rw [h1] at hO2 ⊢
  refine Cal.mono (compact1_c b cap w) ?_
  rintro _ w' ⟨rfl, hE⟩
  exact ⟨ls, _, rfl, by rw [h1]; exact hO2, by rw [hf]; exact M.later hE⟩

def offG : Off := ⟨⟨[1, 0, 0, 0, 0, 0, 0, 0, 0, 0, 0, 0, 0, 0, 0, 0], 2, 9⟩, [⟨[32, 1, 0, 0, 0, 0, 0, 0, 0, 0, 0, 0, 0, 0, 0, 0], 64, false, true, 1⟩], []⟩
theorem isIP_dec (l : List Int) (h : (decide (l.length = 16) && l.all fun x => decide (0 ≤ x) && decide (x < 256)) = true) : IsIP l := by
  simp only [Bool.and_eq_true, decide_eq_true_eq, List.all_eq_true] at h
  exact ⟨h.1, h.2⟩
theorem offG_is : IsOff offG := ⟨isIP_dec _ (by decide), by simp [offG]; exact isIP_dec _ (by decide), by simp [offG]⟩
theorem offG_acc : acceptV [] 5 offG = ([offG], 0) := by decide +kernel
theorem offG_valid : validL [offG] = true := by decide +kernel
theorem offG_raw : rawL 144115188075855873 (curO [offG] 5) = [[32, 1, 0, 0, 0, 0, 0, 0, 2, 0, 0, 0, 0, 0, 0, 1]] := by decide +kernel
theorem offG_iid : iidA 3 0 1 = some 144115188075855873 := by decide +kernel

set_option maxHeartbeats 4000000 in
theorem offered_c (W : World) : Cal Try.prog 22 [].toArray W fun r w' => r = .bool true ∧ Ext [] W w' := by
  refine fn_ofM (n := 37) [] Try.func22 rfl rfl rfl ?_
  intro a w F M hwW
  with_reducible refine c_seq ?_
  with_reducible refine c_region ?_
  refine stepD rfl F rfl (o_assign (F.ev rfl) ?_); clear F; clear a; intro a F
  with_reducible refine l_nil ?_
  with_reducible refine q_then ?_
  with_reducible refine c_seq ?_
  with_reducible refine c_region ?_
  refine stepD rfl F rfl (o_build F rfl rfl ?_); clear F; clear a; intro a F
  refine stepD rfl F rfl (o_build F rfl rfl ?_); clear F; clear a; intro a F
  refine stepD rfl F rfl (o_build F rfl rfl ?_); clear F; clear a; intro a F
  refine stepD rfl F rfl (o_build F rfl rfl ?_); clear F; clear a; intro a F
  (refine stepD rfl F rfl (o_buildSlice F M rfl rfl rfl rfl ?_); clear F; clear M; intro b9 w M a F)
  refine stepD rfl F rfl (o_build F rfl rfl ?_); clear F; clear a; intro a F
  (refine stepD rfl F rfl (o_alloc M ?_); clear F; clear M; intro b1 w M a F)
  (refine stepN rfl F (o_storeA M (F.ev rfl) (F.ev rfl) (by rfl) (by rfl) (by repeat (first | exact .here | apply Has.there)) (by rfl) (by repeat (first | exact .here | apply Upd.there)) ?_); clear F; clear M; intro w M a F)
  with_reducible refine l_nil ?_
  with_reducible refine q_then ?_
  with_reducible refine c_seq ?_
  with_reducible refine c_region ?_
  refine stepD rfl F rfl (o_loadA M (F.ev rfl) (by repeat (first | exact .here | apply Has.there)) (by first | assumption | rfl) ?_); clear F; clear a; intro a F
  have hA : OffAt w ⟨offG, .slice (some ⟨b9, 0, none⟩) 1 1, .slice none 0 0⟩ :=
    ⟨⟨_, _, rfl, by simp [offG], by simp, by simp [offG, encL, piC, pfC, ipC], fun _ => ⟨b9, 0, _, _, _, rfl, M.heap (.there .here), rfl⟩⟩, SlAt.nil _ _⟩
  (refine stepD rfl F rfl (o_call (F.ev rfl) (F.evs (vs := [.slice none 0 0, .int .i64 5, .agg (ovC ⟨offG, .slice (some ⟨b9, 0, none⟩) 1 1, .slice none 0 0⟩).toArray]) rfl) (Cal.mono (accept_c [] (by simp) _ 5 ⟨offG, .slice (some ⟨b9, 0, none⟩) 1 1, .slice none 0 0⟩ offG_is _ (SlAt.nil _ _) (by simp) hA) ?_)); clear F; clear a; rintro _ w ⟨s, rfl, hof, hE⟩ a F; replace M := M.later hE; replace hof := hof.at; clear hE)
  rw [show (([] : List OV).map (·.o)) = [] from rfl, offG_acc] at F hof
  dsimp only at F hof
  obtain ⟨zs, hz, hS, hZ⟩ := hof
  have hzo : ∀ z ∈ zs, IsOff z.o := fun z hzm => by
    have : z.o ∈ [offG] := by rw [← hz]; exact List.mem_map_of_mem hzm
    simp only [List.mem_singleton] at this
    rw [this]; exact offG_is
  have hzl : zs.length = 1 := by simpa using congrArg List.length hz
  refine stepD rfl F rfl (o_move (F.ev rfl) ?_); clear F; clear a; intro a F
  refine stepD rfl F rfl (o_extract (F.ev rfl) rfl ?_); clear F; clear a; intro a F
  refine stepD rfl F rfl (o_extract (F.ev rfl) rfl ?_); clear F; clear a; intro a F
  refine stepD rfl F rfl (o_assign (F.ev rfl) ?_); clear F; clear a; intro a F
  refine stepD rfl F rfl (o_assign (F.ev rfl) ?_); clear F; clear a; intro a F
  with_reducible refine l_nil ?_
  with_reducible refine q_then ?_
  with_reducible refine c_seq ?_
  with_reducible refine c_region ?_
  refine stepD rfl F rfl (o_move (F.ev rfl) ?_); clear F; clear a; intro a F
  (refine stepD rfl F rfl (o_call (F.ev rfl) (F.evs rfl) (Cal.mono (addresses_c zs hzo _ 5 1 (by omega) 144115188075855873 (by omega) offG_iid _ hS hZ (by rw [hz]; exact offG_valid) (by decide) (by omega) sortOk1 compOk1 (by rw [hz, offG_raw]; rfl) (by rintro _ rfl; rw [hz, offG_raw]; rfl)) ?_)); clear F; clear a; rintro _ w ⟨ls1, ls2, rfl, rfl, hR, hE⟩ a F)
  have hS2 := hS.later hE
  replace M := M.later hE
  clear hE hA hS hZ
  rw [hz, offG_raw] at hR
  obtain ⟨q2, c2, rfl, _⟩ := hS2
  obtain ⟨q3, c3, rfl, _, _, _, hm3⟩ := hR
  obtain ⟨b3, o3, cs3, t3, fz3, rfl, hb3, hs3⟩ := hm3 (by simp)
  rw [hzl] at F
  rw [show ([[32, 1, 0, 0, 0, 0, 0, 0, 2, 0, 0, 0, 0, 0, 0, 1]] : List (List Int)).length = 1 from rfl] at F
  have hs4 : seg cs3 (o3 + (0 : Int).toNat * 16) 16 = some (ipC [32, 1, 0, 0, 0, 0, 0, 0, 2, 0, 0, 0, 0, 0, 0, 1]) := by simpa [encL] using hs3
  refine stepD rfl F rfl (o_assign (F.ev rfl) ?_); clear F; clear a; intro a F
  with_reducible refine l_nil ?_
  with_reducible refine q_then ?_
  with_reducible refine c_seq ?_
  with_reducible refine c_region ?_
  refine stepD rfl F rfl (o_move (F.ev rfl) ?_); clear F; clear a; intro a F
  refine stepD rfl F rfl (o_eqlT (F.ev rfl) (F.ev rfl) (by omega) ?_); clear F; clear a; intro a F
  refine stepD rfl F rfl (o_move (F.ev rfl) ?_); clear F; clear a; intro a F
  refine stepG rfl F rfl rfl rfl (o_move (F.ev rfl) ?_); clear F; clear a; intro a F
  refine stepG rfl F rfl rfl rfl (o_lenSl (F.ev rfl) ?_); clear F; clear a; intro a F
  refine stepG rfl F rfl rfl rfl (o_eqlT (F.ev rfl) (F.ev rfl) (by omega) ?_); clear F; clear a; intro a F
  refine stepD rfl F rfl (o_pickT (F.ev rfl) (F.ev rfl) ?_); clear F; clear a; intro a F
  refine stepD rfl F rfl (o_move (F.ev rfl) ?_); clear F; clear a; intro a F
  refine stepG rfl F rfl rfl rfl (o_move (F.ev rfl) ?_); clear F; clear a; intro a F
  refine stepG rfl F rfl rfl rfl (o_lenSl (F.ev rfl) ?_); clear F; clear a; intro a F
  refine stepG rfl F rfl rfl rfl (o_eql (F.ev rfl) (F.ev rfl) ?_); clear F; clear a; intro a F
  refine stepD rfl F rfl (o_pickT (F.ev rfl) (F.ev rfl) ?_); clear F; clear a; intro a F
  refine stepD rfl F rfl (o_move (F.ev rfl) ?_); clear F; clear a; intro a F
  refine stepG rfl F rfl rfl rfl (o_move (F.ev rfl) ?_); clear F; clear a; intro a F
  refine stepG rfl F rfl rfl rfl (o_indexSl (F.ev rfl) (F.ev rfl) (by omega) (by omega) ?_); clear F; clear a; intro a F
  (refine stepG rfl F rfl rfl rfl (o_loadHA (F.ev rfl) hb3 hs4 ?_); clear F; clear a; intro a F)
  refine stepG rfl F rfl rfl rfl (o_build F rfl rfl ?_); clear F; clear a; intro a F
  refine stepG rfl F rfl rfl rfl (o_eqlA (F.ev rfl) (F.ev rfl) (by first | assumption | rfl) (by first | assumption | rfl) ?_); clear F; clear a; intro a F
  refine stepD rfl F rfl (o_pickT (F.ev rfl) (F.ev rfl) ?_); clear F; clear a; intro a F
  refine stepD rfl F rfl (o_assign (F.ev rfl) ?_); clear F; clear a; intro a F
  with_reducible refine l_nil ?_
  with_reducible refine q_then ?_
  with_reducible refine c_ret ?_
  refine p_ret F rfl (.cons (.tmp (F.ev rfl)) .nil) ?_
  exact ⟨rfl, M.ext⟩
end Go.Proofs.Ytainnefmobfcjaa

/-! FI -/
/-
  multihopworld.Offers, multihoplaw23.spoiled.
-/
namespace Go.Proofs.Ytainnefmobfcjaa
set_option linter.unusedVariables false
set_option linter.unusedSimpArgs false
open Go.RowKit
attribute [local irreducible] OpTo wpListIn Code.wpIn MW Cal

theorem NewV.mono {n0 n1 : Nat} {v : Value} (h : NewV n1 v) (hle : n0 ≤ n1) : NewV n0 v := fun b o s n c e => Nat.le_trans hle (h b o s n c e)
theorem NewV.notIn {n0 bt : Nat} {v : Value} (h : NewV n0 v) (hbt : bt < n0) : ∀ b o s k c, v = .slice (some ⟨b, o, s⟩) k c → b ∉ [bt] := fun b o s k c e hb => by
  have := h b o s k c e
  simp only [List.mem_singleton] at hb
  omega
theorem OffNew.mono {n0 n1 : Nat} {W : World} {x : OV} (h : OffNew n1 W x) (hle : n0 ≤ n1) : OffNew n0 W x := ⟨h.1, h.2.1.mono hle, h.2.2.mono hle⟩
theorem OffNew.laterB {n0 bt : Nat} {W w : World} {x : OV} (h : OffNew n0 W x) (hbt : bt < n0) (E : Ext [bt] W w) : OffNew n0 w x :=
  ⟨⟨h.1.1.laterB (h.2.1.notIn hbt) E, h.1.2.laterB (h.2.2.notIn hbt) E⟩, h.2⟩
theorem OffsN.mono {n0 n1 : Nat} {W : World} {v : Value} {os : List Off} (h : OffsN n1 W v os) (hle : n0 ≤ n1) : OffsN n0 W v os := by
  obtain ⟨zs, h1, h2, h3, h4, h5⟩ := h
  exact ⟨zs, h1, h2, h3, h4.mono hle, fun z hz => ⟨(h5 z hz).1.mono hle, (h5 z hz).2.mono hle⟩⟩
theorem OffsN.laterB {n0 bt : Nat} {W w : World} {v : Value} {os : List Off} (h : OffsN n0 W v os) (hbt : bt < n0) (E : Ext [bt] W w) : OffsN n0 w v os := by
  obtain ⟨zs, h1, h2, h3, h4, h5⟩ := h
  exact ⟨zs, h1, h2.laterB (h4.notIn hbt) E, fun z hz => (OffNew.laterB ⟨h3 z hz, h5 z hz⟩ hbt E).1, h4, h5⟩
/-- offers off the tape -/
structure OffsO (n0 : Nat) (W : World) (v : Value) (os : List Off) : Prop where
  at_ : OffsN n0 W v os
  is : ∀ o ∈ os, IsOff o
  len : os.length ≤ 8
  small : ∀ o ∈ os, o.ps.length ≤ 16 ∧ o.cs.length ≤ 16
theorem OffsO.laterB {n0 bt : Nat} {W w : World} {v : Value} {os : List Off} (h : OffsO n0 W v os) (hbt : bt < n0) (E : Ext [bt] W w) : OffsO n0 w v os := ⟨h.at_.laterB hbt E, h.is, h.len, h.small⟩

/-- the memory, seen from here on -/
theorem Mem.re {S : List Nat} {W w : World} {l : List (Nat × Obj)} (M : Mem S W w l) (h : ∀ p ∈ l, p.1 ∈ S) : Mem S w w l := ⟨Ext.refl _ _, M.at_, M.nd, fun p hp => .inl (h p hp)⟩
theorem Mem.un {S : List Nat} {W w1 w : World} {l : List (Nat × Obj)} (M : Mem S w1 w l) (E : Ext S W w1) : Mem S W w l := ⟨E.trans M.ext, M.at_, M.nd, fun p hp => (M.own p hp).imp_right fun h => Nat.le_trans E.size h⟩
set_option maxHeartbeats 2000000 in
theorem woffers_c {bt : Nat} {p : Option Addr} {len cap k : Nat} {xs : List Int} (base : Int) (h0 : 0 ≤ base) (h1 : base ≤ 1099511627776) (W : World) (hT : TapeS W bt p len xs) (hb : W.heap[bt]? = some (tobj p len cap k)) :
    Cal Try.prog 25 [.pointer (some ⟨bt, 0, none⟩), .int .i64 base].toArray W fun r w' => ∃ os k', OffsO W.heap.size w' r os ∧ Mem [bt] W w' [(bt, tobj p len cap k')] := by
  have hbt : bt < W.heap.size := (Array.getElem?_eq_some_iff.1 hb).1
  refine fn_ofM (n := 29) [bt] Try.func25 rfl rfl rfl ?_
  intro a w F M hwW
  replace M := M.came hwW hb (by simp) (by simp)
  with_reducible refine c_seq ?_
  with_reducible refine c_region ?_
  refine stepD rfl F rfl (o_assign (F.ev rfl) ?_); clear F; clear a; intro a F
  with_reducible refine l_nil ?_
  with_reducible refine q_then ?_
  with_reducible refine c_seq ?_
  with_reducible refine c_region ?_
  refine stepD rfl F rfl (o_assign (F.ev rfl) ?_); clear F; clear a; intro a F
  with_reducible refine l_nil ?_
  with_reducible refine q_then ?_
  with_reducible refine c_seq ?_
  with_reducible refine c_seq ?_
  with_reducible refine c_region ?_
  refine stepD rfl F rfl (o_move (F.ev rfl) ?_); clear F; clear a; intro a F
  (refine stepD rfl F rfl (o_call (F.ev rfl) (F.evs rfl) (Cal.mono (next_c 6 (by omega) (by omega) _ (hT.later M.ext) (M.heap .here) ) ?_)); clear F; clear a; have M0 := M; clear M; rintro _ w ⟨rfl, N⟩ a F)
  replace M := M0.turn1 N .here
  clear M0
  have v1 := nxV_bd xs k (n := 6) (by omega)
  obtain ⟨c0, hc0⟩ := Int.eq_ofNat_of_zero_le v1.1
  rw [hc0] at F v1
  refine stepD rfl F rfl (o_assign (F.ev rfl) ?_); clear F; clear a; intro a F
  with_reducible refine l_nil ?_
  with_reducible refine q_then ?_
  with_reducible refine c_block ?_
  refine c_loop (fun m a w => ∃ (c : Nat) (x : Int) (os : List Off) (v : Value) (k : Nat), m = c ∧ x = c ∧ c ≤ 5 ∧ OffsO W.heap.size w v os ∧ Frm a 29 [] [(6, .int .i64 x), (5, v), (1, .int .i64 base), (0, .pointer (some ⟨bt, 0, none⟩))] ∧ Mem [bt] W w [(bt, tobj p len cap k)]) c0 ⟨c0, _, [], _, nxK xs k, rfl, rfl, by omega, ⟨OffsN.nil _ _, by simp, by simp, by simp⟩, F.only [6, 5, 1, 0] rfl, M⟩ ?_
  clear F M
  rintro m a w ⟨c, x, os, v, kk, hm, hxc, hc5, hO, F, M⟩
  by_cases hlt : 0 < c
  · with_reducible refine c_seq ?_
    with_reducible refine c_seq ?_
    with_reducible refine c_region ?_
    refine stepD rfl F rfl (o_move (F.ev rfl) ?_); clear F; clear a; intro a F
    refine stepD rfl F rfl (o_gtrT (F.ev rfl) (F.ev rfl) (by omega) ?_); clear F; clear a; intro a F
    with_reducible refine l_nil ?_
    with_reducible refine q_then ?_
    refine c_true F rfl rfl ?_
    with_reducible refine c_skip ?_
    with_reducible refine q_then ?_
    with_reducible refine c_seq ?_
    with_reducible refine c_block ?_
    with_reducible refine c_seq ?_
    with_reducible refine c_region ?_
    refine stepD rfl F rfl (o_move (F.ev rfl) ?_); clear F; clear a; intro a F
    refine stepD rfl F rfl (o_move (F.ev rfl) ?_); clear F; clear a; intro a F
    (refine stepD rfl F rfl (o_call (F.ev rfl) (F.evs rfl) (Cal.mono (woffer_c base h0 h1 _ (hT.later M.ext) (M.heap .here) ) ?_)); clear F; clear a; have M0 := M; clear M; rintro _ w ⟨y, k2, rfl, hyo, hys, hyN, N⟩ a F)
    replace hO := hO.laterB hbt N.ext
    replace M := M0.turn1 N .here
    replace hyN := hyN.mono M0.ext.size
    clear M0 N
    have E0 := M.ext
    replace M := M.re (by simp)
    have f2 : (ovC y).length = 20 := ov_len hyo
    have f3 : seg (ovC y) 0 20 = some (ovC y) := of_all hyo.1 _ _
    (refine stepD rfl F rfl (o_alloc M ?_); clear F; clear M; intro b7 w M a F)
    (refine stepN rfl F (o_storeA M (F.ev rfl) (F.ev rfl) (f2) (ov_one hyN.1)  (by repeat (first | exact .here | apply Has.there))  (put_all (by rw [f2]; rfl)) (by repeat (first | exact .here | apply Upd.there)) ?_); clear F; clear M; intro w M a F)
    with_reducible refine l_nil ?_
    with_reducible refine q_then ?_
    with_reducible refine c_seq ?_
    with_reducible refine c_region ?_
    refine stepD rfl F rfl (o_move (F.ev rfl) ?_); clear F; clear a; intro a F
    refine stepD rfl F rfl (o_loadA M (F.ev rfl) (by repeat (first | exact .here | apply Has.there)) (by first | assumption | rfl) ?_); clear F; clear a; intro a F
    obtain ⟨zs, hz, hS, hA, hNv, hNz⟩ := (hO.laterB hbt M.ext).at_
    have hzo : ∀ z ∈ zs, IsOff z.o := fun z hz' => hO.is z.o (by rw [← hz]; exact List.mem_map_of_mem hz')
    (refine stepD rfl F rfl (o_call (F.ev rfl) (F.evs rfl) (Cal.mono (raccept_c zs hzo v 0 y hyo _ hS hA (hyN.laterB hbt M.ext).1) ?_)); clear F; clear a; rintro _ w ⟨s, rfl, hof, hE⟩ a F; replace hof := hof.mono (Nat.le_trans E0.size M.ext.size); replace M := M.later hE; clear hE hS hA hNv hNz)
    rw [hz] at F hof
    have hres := acceptV_is (now := 0) hO.is hyo
    have hrl := acceptV_len os 0 y.o
    generalize acceptV os 0 y.o = R at *
    obtain ⟨r, e⟩ := R
    dsimp only at *
    by_cases he : e = 0
    · refine stepD rfl F rfl (o_move (F.ev rfl) ?_); clear F; clear a; intro a F
      refine stepD rfl F rfl (o_extract (F.ev rfl) rfl ?_); clear F; clear a; intro a F
      refine stepD rfl F rfl (o_extract (F.ev rfl) rfl ?_); clear F; clear a; intro a F
      refine stepD rfl F rfl (o_assign (F.ev rfl) ?_); clear F; clear a; intro a F
      refine stepD rfl F rfl (o_assign (F.ev rfl) ?_); clear F; clear a; intro a F
      with_reducible refine l_nil ?_
      with_reducible refine q_then ?_
      with_reducible refine c_seq ?_
      with_reducible refine c_region ?_
      refine stepD rfl F rfl (o_move (F.ev rfl) ?_); clear F; clear a; intro a F
      refine stepD rfl F rfl (o_eqlT (F.ev rfl) (F.ev rfl) (by omega) ?_); clear F; clear a; intro a F
      with_reducible refine l_nil ?_
      with_reducible refine q_then ?_
      refine c_true F rfl rfl ?_
      with_reducible refine c_region ?_
      refine stepD rfl F rfl (o_move (F.ev rfl) ?_); clear F; clear a; intro a F
      refine stepD rfl F rfl (o_assign (F.ev rfl) ?_); clear F; clear a; intro a F
      with_reducible refine l_nil ?_
      with_reducible refine q_inB ?_
      with_reducible refine q_then ?_
      with_reducible refine c_region ?_
      refine stepD rfl F rfl (o_move (F.ev rfl) ?_); clear F; clear a; intro a F
      refine stepD rfl F rfl (o_sub (F.ev rfl) (F.ev rfl) (w_i64 (by omega) (by omega)) ?_); clear F; clear a; intro a F
      refine stepD rfl F rfl (o_assign (F.ev rfl) ?_); clear F; clear a; intro a F
      with_reducible refine l_nil ?_
      with_reducible refine q_then ?_
      exact ⟨_, by omega, c - 1, _, r, s, k2, rfl, by omega, by omega, ⟨hof, fun o ho => (hres o ho).1, hrl, fun o ho => (hres o ho).2⟩, F.only [6, 5, 1, 0] rfl, (M.sub (.cons _ (.refl _))).un E0⟩
    · refine stepD rfl F rfl (o_move (F.ev rfl) ?_); clear F; clear a; intro a F
      refine stepD rfl F rfl (o_extract (F.ev rfl) rfl ?_); clear F; clear a; intro a F
      refine stepD rfl F rfl (o_extract (F.ev rfl) rfl ?_); clear F; clear a; intro a F
      refine stepD rfl F rfl (o_assign (F.ev rfl) ?_); clear F; clear a; intro a F
      refine stepD rfl F rfl (o_assign (F.ev rfl) ?_); clear F; clear a; intro a F
      with_reducible refine l_nil ?_
      with_reducible refine q_then ?_
      with_reducible refine c_seq ?_
      with_reducible refine c_region ?_
      refine stepD rfl F rfl (o_move (F.ev rfl) ?_); clear F; clear a; intro a F
      refine stepD rfl F rfl (o_eqlF (F.ev rfl) (F.ev rfl) (by omega) ?_); clear F; clear a; intro a F
      with_reducible refine l_nil ?_
      with_reducible refine q_then ?_
      refine c_false F rfl rfl ?_
      with_reducible refine c_skip ?_
      with_reducible refine q_inB ?_
      with_reducible refine q_then ?_
      with_reducible refine c_region ?_
      refine stepD rfl F rfl (o_move (F.ev rfl) ?_); clear F; clear a; intro a F
      refine stepD rfl F rfl (o_sub (F.ev rfl) (F.ev rfl) (w_i64 (by omega) (by omega)) ?_); clear F; clear a; intro a F
      refine stepD rfl F rfl (o_assign (F.ev rfl) ?_); clear F; clear a; intro a F
      with_reducible refine l_nil ?_
      with_reducible refine q_then ?_
      exact ⟨_, by omega, c - 1, _, os, v, k2, rfl, by omega, by omega, hO.laterB hbt M.ext, F.only [6, 5, 1, 0] rfl, (M.sub (.cons _ (.refl _))).un E0⟩
  · with_reducible refine c_seq ?_
    with_reducible refine c_seq ?_
    with_reducible refine c_region ?_
    refine stepD rfl F rfl (o_move (F.ev rfl) ?_); clear F; clear a; intro a F
    refine stepD rfl F rfl (o_gtrF (F.ev rfl) (F.ev rfl) (by omega) ?_); clear F; clear a; intro a F
    with_reducible refine l_nil ?_
    with_reducible refine q_then ?_
    refine c_false F rfl rfl ?_
    with_reducible refine c_exit ?_
    with_reducible refine q_thenX ?_
    with_reducible refine q_thenX ?_
    with_reducible refine q_inBX ?_
    with_reducible refine q_then ?_
    with_reducible refine c_seq ?_
    with_reducible refine c_region ?_
    refine stepD rfl F rfl (o_move (F.ev rfl) ?_); clear F; clear a; intro a F
    refine stepD rfl F rfl (o_assign (F.ev rfl) ?_); clear F; clear a; intro a F
    with_reducible refine l_nil ?_
    with_reducible refine q_then ?_
    with_reducible refine c_ret ?_
    refine p_ret F rfl (.cons (.tmp (F.ev rfl)) .nil) ?_
    exact ⟨os, kk, hO, M⟩

/-- its lists lie elsewhere -/
def OffNb (bt : Nat) (x : OV) : Prop := (∀ b o s k c, x.u = .slice (some ⟨b, o, s⟩) k c → b ∉ [bt]) ∧ ∀ b o s k c, x.v = .slice (some ⟨b, o, s⟩) k c → b ∉ [bt]
theorem OffAt.laterB {bt : Nat} {W w : World} {x : OV} (h : OffAt W x) (hn : OffNb bt x) (E : Ext [bt] W w) : OffAt w x := ⟨h.1.laterB hn.1 E, h.2.laterB hn.2 E⟩
theorem OffNew.nb {n0 bt : Nat} {W : World} {x : OV} (h : OffNew n0 W x) (hbt : bt < n0) : OffNb bt x := ⟨h.2.1.notIn hbt, h.2.2.notIn hbt⟩
def z16 : List Int := [0, 0, 0, 0, 0, 0, 0, 0, 0, 0, 0, 0, 0, 0, 0, 0]
def ciN (id : Int) : CInf := ⟨id, z16, 0, false, 0⟩
theorem ciN_is (id : Int) : IsCi (ciN id) := isIP_dec z16 (by decide)
def piN : PInf := ⟨[1, 1, 0, 0, 0, 0, 0, 0, 0, 0, 0, 0, 0, 0, 0, 0], 8, false, false, 0⟩
theorem piN_is : IsPi piN := isIP_dec [1, 1, 0, 0, 0, 0, 0, 0, 0, 0, 0, 0, 0, 0, 0, 0] (by decide)
set_option maxHeartbeats 4000000 in
theorem spoiled_c {bt : Nat} {p : Option Addr} {len cap k : Nat} {xs : List Int} (x : OV) (hx : IsOff x.o) (hl1 : x.o.ps.length ≤ 100000) (hl2 : x.o.cs.length ≤ 100000) (W : World) (hA : OffAt W x) (hnb : OffNb bt x) (hT : TapeS W bt p len xs) (hb : W.heap[bt]? = some (tobj p len cap k)) :
    Cal Try.prog 29 [.pointer (some ⟨bt, 0, none⟩), .agg (ovC x).toArray].toArray W fun r w' => ∃ y k', r = .agg (ovC y).toArray ∧ IsOff y.o ∧ (y.o.ps.length ≤ x.o.ps.length + 1 ∧ y.o.cs.length ≤ x.o.cs.length + 2) ∧ OffNew W.heap.size w' y ∧ Mem [bt] W w' [(bt, tobj p len cap k')] := by
  obtain ⟨⟨h, ps, cs⟩, u0, v0⟩ := x
  dsimp only at hx hl1 hl2
  have hh := hx.1
  change Cal _ _ [_, .agg (ofC h u0 v0).toArray].toArray _ _
  have f2 : (ofC h u0 v0).length = 20 := of_len hh _ _
  have f3 : seg (ofC h u0 v0) 0 20 = some (ofC h u0 v0) := of_all hh _ _
  refine fn_ofM (n := 48) [bt] Try.func29 rfl rfl rfl ?_
  intro a w F M hwW
  replace M := M.came hwW hb (by simp) (by simp)
  refine c_seq ?_
  refine c_region ?_
  (refine stepD rfl F rfl (o_box M (F.ev rfl) rfl ?_); clear F; clear M; intro b3 w M a F)
  (refine stepD rfl F rfl (o_alloc M ?_); clear F; clear M; intro b4 w M a F)
  with_reducible refine l_nil ?_
  with_reducible refine q_then ?_
  with_reducible refine c_seq ?_
  with_reducible refine c_region ?_
  refine stepD rfl F rfl (o_loadA M (F.ev rfl) (by repeat (first | exact .here | apply Has.there)) (by first | assumption | rfl) ?_); clear F; clear a; intro a F
  (refine stepD rfl F rfl (o_call (F.ev rfl) (F.evs rfl) (Cal.mono (rcopy_c ⟨⟨h, ps, cs⟩, u0, v0⟩ hx hl1 hl2 _ (hA.laterB hnb M.ext) ) ?_)); clear F; clear a; rintro _ w ⟨u, v, eu, ev, rfl, hu, hv, N⟩ a F; replace M := M.joins N; clear N)
  dsimp only at hu hv
  have f4 : (ofC h u v).length = 20 := of_len hh _ _
  have f5 : (ofC h u v).all (·.oneCell') = true := of_one _ _ _ hu.one hv.one
  change Frm a 48 _ ((_, Value.agg (ofC h u v).toArray) :: _) at F
  replace M := M.perm (l' := (bt, tobj p len cap k) :: (b3, .cells (ofC h u0 v0).toArray 58 (0, 0)) :: (b4, .cells ofZ.toArray 58 (0, 0)) :: (eu ++ ev)) (by classical exact List.perm_iff_count.2 fun _ => by simp only [List.count_append, List.count_cons, List.count_nil, Nat.add_zero, Nat.zero_add] <;> ac_rfl)
  (refine stepN rfl F (o_storeA M (F.ev rfl) (F.ev rfl) f4 f5  (by repeat (first | exact .here | apply Has.there))  (put_all (by rw [f4, f2])) (by repeat (first | exact .here | apply Upd.there)) ?_); clear F; clear M; intro w M a F)
  with_reducible refine l_nil ?_
  with_reducible refine q_then ?_
  with_reducible refine c_seq ?_
  with_reducible refine c_seq ?_
  with_reducible refine c_region ?_
  refine stepD rfl F rfl (o_move (F.ev rfl) ?_); clear F; clear a; intro a F
  (refine stepD rfl F rfl (o_call (F.ev rfl) (F.evs rfl) (Cal.mono (next_c 6 (by omega) (by omega) _ (hT.later M.ext) (M.heap .here) ) ?_)); clear F; clear a; have M0 := M; clear M; rintro _ w ⟨rfl, N⟩ a F)
  replace M := M0.turn1 N .here
  clear M0 N
  have v6 := nxV_bd xs k (n := 6) (by omega)
  generalize nxV xs k 6 = q at *
  generalize nxK xs k = k1 at *
  have e18 := of_ps hh u v
  have e19 := of_cs hh u v
  refine l_nil ?_
  refine q_then ?_
  refine c_cut (fun a w => ∃ (h2 : OffH) (ps2 : List PInf) (cs2 : List CInf) (u2 v2 : Value) (eu2 ev2 : List (Nat × Obj)) (k2 : Nat), IsOff ⟨h2, ps2, cs2⟩ ∧ ps2.length ≤ ps.length + 1 ∧ cs2.length ≤ cs.length + 2 ∧ OwnS 111 20 u2 ps2.length (pisC ps2) eu2 ∧ OwnS 116 20 v2 cs2.length (cisC cs2) ev2 ∧ Frm a 48 [] [(3, .pointer (some ⟨b3, 0, none⟩)), (4, .pointer (some ⟨b4, 0, none⟩))] ∧ Mem [bt] W w ((bt, tobj p len cap k2) :: (b3, .cells (ofC h2 u2 v2).toArray 58 (0, 0)) :: (b4, .cells ofZ.toArray 58 (0, 0)) :: (eu2 ++ ev2))) ?_ ?_
  · by_cases c0 : q = 0
    · with_reducible refine c_block ?_
      with_reducible refine c_seq ?_
      with_reducible refine c_region ?_
      refine stepD rfl F rfl (o_eqlT (F.ev rfl) (F.ev rfl) (by omega) ?_); clear F; clear a; intro a F
      refine stepD rfl F rfl (o_assign (F.ev rfl) ?_); clear F; clear a; intro a F
      with_reducible refine l_nil ?_
      with_reducible refine q_then ?_
      refine c_true F rfl rfl ?_
      with_reducible refine c_region ?_
      refine stepD rfl F rfl (o_fieldAddr (F.ev rfl) ?_); clear F; clear a; intro a F
      (refine stepN rfl F (o_store1 M (F.ev rfl) (F.ev rfl) rfl (by repeat (first | exact .here | apply Has.there)) (of_put_ver hh _ _ _) (by repeat (first | exact .here | apply Upd.there)) ?_); clear F; clear M; intro w M a F)
      with_reducible refine l_nil ?_
      with_reducible refine q_inB ?_
      exact ⟨{ h with ver := -1 }, ps, cs, u, v, eu, ev, k1, ⟨hh, hx.2⟩, by omega, by omega, hu, hv, F.only [3, 4] rfl, M⟩
    by_cases c1 : q = 1
    · with_reducible refine c_block ?_
      with_reducible refine c_seq ?_
      with_reducible refine c_region ?_
      refine stepD rfl F rfl (o_eqlF (F.ev rfl) (F.ev rfl) (by omega) ?_); clear F; clear a; intro a F
      refine stepD rfl F rfl (o_assign (F.ev rfl) ?_); clear F; clear a; intro a F
      with_reducible refine l_nil ?_
      with_reducible refine q_then ?_
      refine c_false F rfl rfl ?_
      with_reducible refine c_seq ?_
      with_reducible refine c_region ?_
      refine stepD rfl F rfl (o_eqlT (F.ev rfl) (F.ev rfl) (by omega) ?_); clear F; clear a; intro a F
      refine stepD rfl F rfl (o_assign (F.ev rfl) ?_); clear F; clear a; intro a F
      with_reducible refine l_nil ?_
      with_reducible refine q_then ?_
      refine c_true F rfl rfl ?_
      with_reducible refine c_region ?_
      refine stepD rfl F rfl (o_fieldAddr (F.ev rfl) ?_); clear F; clear a; intro a F
      (refine stepN rfl F (o_store1 M (F.ev rfl) (F.ev rfl) rfl (by repeat (first | exact .here | apply Has.there)) (of_put_ver hh _ _ _) (by repeat (first | exact .here | apply Upd.there)) ?_); clear F; clear M; intro w M a F)
      with_reducible refine l_nil ?_
      with_reducible refine q_inB ?_
      exact ⟨{ h with ver := 4294967296 }, ps, cs, u, v, eu, ev, k1, ⟨hh, hx.2⟩, by omega, by omega, hu, hv, F.only [3, 4] rfl, M⟩
    by_cases c2 : q = 2
    · with_reducible refine c_block ?_
      with_reducible refine c_seq ?_
      with_reducible refine c_region ?_
      refine stepD rfl F rfl (o_eqlF (F.ev rfl) (F.ev rfl) (by omega) ?_); clear F; clear a; intro a F
      refine stepD rfl F rfl (o_assign (F.ev rfl) ?_); clear F; clear a; intro a F
      with_reducible refine l_nil ?_
      with_reducible refine q_then ?_
      refine c_false F rfl rfl ?_
      with_reducible refine c_seq ?_
      with_reducible refine c_region ?_
      refine stepD rfl F rfl (o_eqlF (F.ev rfl) (F.ev rfl) (by omega) ?_); clear F; clear a; intro a F
      refine stepD rfl F rfl (o_assign (F.ev rfl) ?_); clear F; clear a; intro a F
      with_reducible refine l_nil ?_
      with_reducible refine q_then ?_
      refine c_false F rfl rfl ?_
      with_reducible refine c_seq ?_
      with_reducible refine c_region ?_
      refine stepD rfl F rfl (o_eqlT (F.ev rfl) (F.ev rfl) (by omega) ?_); clear F; clear a; intro a F
      refine stepD rfl F rfl (o_assign (F.ev rfl) ?_); clear F; clear a; intro a F
      with_reducible refine l_nil ?_
      with_reducible refine q_then ?_
      refine c_true F rfl rfl ?_
      with_reducible refine c_region ?_
      refine stepD rfl F rfl (o_move (F.ev rfl) ?_); clear F; clear a; intro a F
      (refine stepD rfl F rfl (o_call (F.ev rfl) (F.evs rfl) (Cal.mono (next_c 2 (by omega) (by omega) _ (hT.later M.ext) (M.heap .here) ) ?_)); clear F; clear a; have M0 := M; clear M; rintro _ w ⟨rfl, N⟩ a F)
      replace M := M0.turn1 N .here
      clear M0 N
      have v7 := nxV_bd xs k1 (n := 2) (by omega)
      generalize nxV xs k1 2 = q2 at *
      refine stepD rfl F rfl (o_mul (F.ev rfl) (F.ev rfl) (w_i64 (by omega) (by omega)) ?_); clear F; clear a; intro a F
      refine stepD rfl F rfl (o_add (F.ev rfl) (F.ev rfl) (w_i64 (by omega) (by omega)) ?_); clear F; clear a; intro a F
      refine stepD rfl F rfl (o_fieldAddr (F.ev rfl) ?_); clear F; clear a; intro a F
      (refine stepN rfl F (o_store1 M (F.ev rfl) (F.ev rfl) rfl (by repeat (first | exact .here | apply Has.there)) (of_put_til hh _ _ _) (by repeat (first | exact .here | apply Upd.there)) ?_); clear F; clear M; intro w M a F)
      with_reducible refine l_nil ?_
      with_reducible refine q_inB ?_
      exact ⟨{ h with til := -1 + q2 * 1099511627778 }, ps, cs, u, v, eu, ev, nxK xs k1, ⟨hh, hx.2⟩, by omega, by omega, hu, hv, F.only [3, 4] rfl, M⟩
    by_cases c3 : q = 3
    · skip
      replace M := M.perm (l' := (bt, tobj p len cap k1) :: (b3, .cells (ofC h u v).toArray 58 (0, 0)) :: (b4, .cells ofZ.toArray 58 (0, 0)) :: (ev ++ eu)) (by classical exact List.perm_iff_count.2 fun _ => by simp only [List.count_append, List.count_cons, List.count_nil, Nat.add_zero, Nat.zero_add] <;> ac_rfl)
      with_reducible refine c_block ?_
      with_reducible refine c_seq ?_
      with_reducible refine c_region ?_
      refine stepD rfl F rfl (o_eqlF (F.ev rfl) (F.ev rfl) (by omega) ?_); clear F; clear a; intro a F
      refine stepD rfl F rfl (o_assign (F.ev rfl) ?_); clear F; clear a; intro a F
      with_reducible refine l_nil ?_
      with_reducible refine q_then ?_
      refine c_false F rfl rfl ?_
      with_reducible refine c_seq ?_
      with_reducible refine c_region ?_
      refine stepD rfl F rfl (o_eqlF (F.ev rfl) (F.ev rfl) (by omega) ?_); clear F; clear a; intro a F
      refine stepD rfl F rfl (o_assign (F.ev rfl) ?_); clear F; clear a; intro a F
      with_reducible refine l_nil ?_
      with_reducible refine q_then ?_
      refine c_false F rfl rfl ?_
      with_reducible refine c_seq ?_
      with_reducible refine c_region ?_
      refine stepD rfl F rfl (o_eqlF (F.ev rfl) (F.ev rfl) (by omega) ?_); clear F; clear a; intro a F
      refine stepD rfl F rfl (o_assign (F.ev rfl) ?_); clear F; clear a; intro a F
      with_reducible refine l_nil ?_
      with_reducible refine q_then ?_
      refine c_false F rfl rfl ?_
      with_reducible refine c_seq ?_
      with_reducible refine c_region ?_
      refine stepD rfl F rfl (o_eqlT (F.ev rfl) (F.ev rfl) (by omega) ?_); clear F; clear a; intro a F
      refine stepD rfl F rfl (o_assign (F.ev rfl) ?_); clear F; clear a; intro a F
      with_reducible refine l_nil ?_
      with_reducible refine q_then ?_
      refine c_true F rfl rfl ?_
      with_reducible refine c_region ?_
      refine stepD rfl F rfl (o_fieldAddr (F.ev rfl) ?_); clear F; clear a; intro a F
      refine stepD rfl F rfl (o_load1 M (F.ev rfl) (by repeat (first | exact .here | apply Has.there)) (by first | assumption | rfl) ?_); clear F; clear a; intro a F
      refine stepD rfl F rfl (o_build F rfl rfl ?_); clear F; clear a; intro a F
      refine stepD rfl F rfl (o_build F rfl rfl ?_); clear F; clear a; intro a F
      refine stepD rfl F rfl (o_build F rfl rfl ?_); clear F; clear a; intro a F
      (refine stepD rfl F rfl (o_buildSlice F M rfl rfl rfl rfl ?_); clear F; clear M; intro bs w M a F)
      (refine stepD rfl F rfl (o_append hu M (.cons (.cons (.cons (.cons (.app .here))))) (F.ev rfl) (F.ev rfl) (SrcOf.cells' (M.heap .here) rfl rfl) (by omega) (by omega) ?_); clear F; clear M; intro u2 eu2 w hu2 M a F)
      obtain ⟨up2, uc2, rfl⟩ := hu2.slice
      refine stepD rfl F rfl (o_fieldAddr (F.ev rfl) ?_); clear F; clear a; intro a F
      (refine stepN rfl F (o_store1 M (F.ev rfl) (F.ev rfl) rfl (by repeat (first | exact .here | apply Has.there)) (of_put_ps hh _ _ _) (by repeat (first | exact .here | apply Upd.there)) ?_); clear F; clear M; intro w M a F)
      with_reducible refine l_nil ?_
      with_reducible refine q_inB ?_
      exact ⟨h, ps ++ [piN], cs, _, v, eu2, ev, k1, ⟨hh, by
        intro q hq
        rcases List.mem_append.1 hq with h | h
        · exact hx.2.1 q h
        · simp only [List.mem_singleton] at h
          rw [h]; exact piN_is, hx.2.2⟩, by simp, by omega, by show OwnS _ 20 _ (ps ++ [piN]).length (encL piC (ps ++ [piN])) _; rw [show (ps ++ [piN]).length = ps.length + 1 by simp, encL_app, encL_one]; exact hu2, hv, F.only [3, 4] rfl, (M.sub (.cons _ (.refl _))).perm (by classical exact List.perm_iff_count.2 fun _ => by simp only [List.count_append, List.count_cons, List.count_nil, Nat.add_zero, Nat.zero_add] <;> ac_rfl)⟩
    by_cases c4 : q = 4
    · skip
      with_reducible refine c_block ?_
      with_reducible refine c_seq ?_
      with_reducible refine c_region ?_
      refine stepD rfl F rfl (o_eqlF (F.ev rfl) (F.ev rfl) (by omega) ?_); clear F; clear a; intro a F
      refine stepD rfl F rfl (o_assign (F.ev rfl) ?_); clear F; clear a; intro a F
      with_reducible refine l_nil ?_
      with_reducible refine q_then ?_
      refine c_false F rfl rfl ?_
      with_reducible refine c_seq ?_
      with_reducible refine c_region ?_
      refine stepD rfl F rfl (o_eqlF (F.ev rfl) (F.ev rfl) (by omega) ?_); clear F; clear a; intro a F
      refine stepD rfl F rfl (o_assign (F.ev rfl) ?_); clear F; clear a; intro a F
      with_reducible refine l_nil ?_
      with_reducible refine q_then ?_
      refine c_false F rfl rfl ?_
      with_reducible refine c_seq ?_
      with_reducible refine c_region ?_
      refine stepD rfl F rfl (o_eqlF (F.ev rfl) (F.ev rfl) (by omega) ?_); clear F; clear a; intro a F
      refine stepD rfl F rfl (o_assign (F.ev rfl) ?_); clear F; clear a; intro a F
      with_reducible refine l_nil ?_
      with_reducible refine q_then ?_
      refine c_false F rfl rfl ?_
      with_reducible refine c_seq ?_
      with_reducible refine c_region ?_
      refine stepD rfl F rfl (o_eqlF (F.ev rfl) (F.ev rfl) (by omega) ?_); clear F; clear a; intro a F
      refine stepD rfl F rfl (o_assign (F.ev rfl) ?_); clear F; clear a; intro a F
      with_reducible refine l_nil ?_
      with_reducible refine q_then ?_
      refine c_false F rfl rfl ?_
      with_reducible refine c_seq ?_
      with_reducible refine c_region ?_
      refine stepD rfl F rfl (o_eqlT (F.ev rfl) (F.ev rfl) (by omega) ?_); clear F; clear a; intro a F
      refine stepD rfl F rfl (o_assign (F.ev rfl) ?_); clear F; clear a; intro a F
      with_reducible refine l_nil ?_
      with_reducible refine q_then ?_
      refine c_true F rfl rfl ?_
      with_reducible refine c_region ?_
      refine stepD rfl F rfl (o_fieldAddr (F.ev rfl) ?_); clear F; clear a; intro a F
      refine stepD rfl F rfl (o_load1 M (F.ev rfl) (by repeat (first | exact .here | apply Has.there)) (by first | assumption | rfl) ?_); clear F; clear a; intro a F
      refine stepD rfl F rfl (o_build F rfl rfl ?_); clear F; clear a; intro a F
      refine stepD rfl F rfl (o_build F rfl rfl ?_); clear F; clear a; intro a F
      (refine stepD rfl F rfl (o_buildSlice F M rfl rfl rfl rfl ?_); clear F; clear M; intro bs w M a F)
      (refine stepD rfl F rfl (o_append hv M (.cons (.cons (.cons (.cons (.app .here))))) (F.ev rfl) (F.ev rfl) (SrcOf.cells' (M.heap .here) rfl rfl) (by omega) (by omega) ?_); clear F; clear M; intro v2 ev2 w hv2 M a F)
      obtain ⟨up2, uc2, rfl⟩ := hv2.slice
      refine stepD rfl F rfl (o_fieldAddr (F.ev rfl) ?_); clear F; clear a; intro a F
      (refine stepN rfl F (o_store1 M (F.ev rfl) (F.ev rfl) rfl (by repeat (first | exact .here | apply Has.there)) (of_put_cs hh _ _ _) (by repeat (first | exact .here | apply Upd.there)) ?_); clear F; clear M; intro w M a F)
      with_reducible refine l_nil ?_
      with_reducible refine q_inB ?_
      exact ⟨h, ps, cs ++ [ciN 15, ciN 15], u, _, eu, ev2, k1, ⟨hh, hx.2.1, by
        intro q hq
        rcases List.mem_append.1 hq with h | h
        · exact hx.2.2 q h
        · simp only [List.mem_cons, List.not_mem_nil, or_false] at h
          rcases h with h | h <;> (rw [h]; exact ciN_is _)⟩, by omega, by simp, hu, by show OwnS _ 20 _ (cs ++ [ciN 15, ciN 15]).length (encL ciC (cs ++ [ciN 15, ciN 15])) _; rw [show (cs ++ [ciN 15, ciN 15]).length = cs.length + 2 by simp, encL_app, encL_cons, encL_one]; exact hv2, F.only [3, 4] rfl, M.sub (.cons _ (.refl _))⟩
    · skip
      with_reducible refine c_block ?_
      with_reducible refine c_seq ?_
      with_reducible refine c_region ?_
      refine stepD rfl F rfl (o_eqlF (F.ev rfl) (F.ev rfl) (by omega) ?_); clear F; clear a; intro a F
      refine stepD rfl F rfl (o_assign (F.ev rfl) ?_); clear F; clear a; intro a F
      with_reducible refine l_nil ?_
      with_reducible refine q_then ?_
      refine c_false F rfl rfl ?_
      with_reducible refine c_seq ?_
      with_reducible refine c_region ?_
      refine stepD rfl F rfl (o_eqlF (F.ev rfl) (F.ev rfl) (by omega) ?_); clear F; clear a; intro a F
      refine stepD rfl F rfl (o_assign (F.ev rfl) ?_); clear F; clear a; intro a F
      with_reducible refine l_nil ?_
      with_reducible refine q_then ?_
      refine c_false F rfl rfl ?_
      with_reducible refine c_seq ?_
      with_reducible refine c_region ?_
      refine stepD rfl F rfl (o_eqlF (F.ev rfl) (F.ev rfl) (by omega) ?_); clear F; clear a; intro a F
      refine stepD rfl F rfl (o_assign (F.ev rfl) ?_); clear F; clear a; intro a F
      with_reducible refine l_nil ?_
      with_reducible refine q_then ?_
      refine c_false F rfl rfl ?_
      with_reducible refine c_seq ?_
      with_reducible refine c_region ?_
      refine stepD rfl F rfl (o_eqlF (F.ev rfl) (F.ev rfl) (by omega) ?_); clear F; clear a; intro a F
      refine stepD rfl F rfl (o_assign (F.ev rfl) ?_); clear F; clear a; intro a F
      with_reducible refine l_nil ?_
      with_reducible refine q_then ?_
      refine c_false F rfl rfl ?_
      with_reducible refine c_seq ?_
      with_reducible refine c_region ?_
      refine stepD rfl F rfl (o_eqlF (F.ev rfl) (F.ev rfl) (by omega) ?_); clear F; clear a; intro a F
      refine stepD rfl F rfl (o_assign (F.ev rfl) ?_); clear F; clear a; intro a F
      with_reducible refine l_nil ?_
      with_reducible refine q_then ?_
      refine c_false F rfl rfl ?_
      with_reducible refine c_region ?_
      refine stepD rfl F rfl (o_fieldAddr (F.ev rfl) ?_); clear F; clear a; intro a F
      refine stepD rfl F rfl (o_load1 M (F.ev rfl) (by repeat (first | exact .here | apply Has.there)) (by first | assumption | rfl) ?_); clear F; clear a; intro a F
      refine stepD rfl F rfl (o_build F rfl rfl ?_); clear F; clear a; intro a F
      (refine stepD rfl F rfl (o_buildSlice F M rfl rfl rfl rfl ?_); clear F; clear M; intro bs w M a F)
      (refine stepD rfl F rfl (o_append hv M (.cons (.cons (.cons (.cons (.app .here))))) (F.ev rfl) (F.ev rfl) (SrcOf.cells' (M.heap .here) rfl rfl) (by omega) (by omega) ?_); clear F; clear M; intro v2 ev2 w hv2 M a F)
      obtain ⟨up2, uc2, rfl⟩ := hv2.slice
      refine stepD rfl F rfl (o_fieldAddr (F.ev rfl) ?_); clear F; clear a; intro a F
      (refine stepN rfl F (o_store1 M (F.ev rfl) (F.ev rfl) rfl (by repeat (first | exact .here | apply Has.there)) (of_put_cs hh _ _ _) (by repeat (first | exact .here | apply Upd.there)) ?_); clear F; clear M; intro w M a F)
      with_reducible refine l_nil ?_
      with_reducible refine q_inB ?_
      exact ⟨h, ps, cs ++ [ciN 16], u, _, eu, ev2, k1, ⟨hh, hx.2.1, by
        intro q hq
        rcases List.mem_append.1 hq with h | h
        · exact hx.2.2 q h
        · simp only [List.mem_cons, List.not_mem_nil, or_false] at h
          rw [h]; exact ciN_is _⟩, by omega, by simp, hu, by show OwnS _ 20 _ (cs ++ [ciN 16]).length (encL ciC (cs ++ [ciN 16])) _; rw [show (cs ++ [ciN 16]).length = cs.length + 1 by simp, encL_app, encL_one]; exact hv2, F.only [3, 4] rfl, M.sub (.cons _ (.refl _))⟩
  · clear F M a w hu hv f4 f5 f2 f3 e18 e19
    rintro a w ⟨h2, ps2, cs2, u2, v2, eu2, ev2, k2, hi2, hl3, hl4, hu2, hv2, F, M⟩
    have hh2 := hi2.1
    have f2 : (ofC h2 u2 v2).length = 20 := of_len hh2 _ _
    have f0 : seg (ofC h2 u2 v2) 0 20 = some (ofC h2 u2 v2) := of_all hh2 _ _
    have f1 : (ofC h2 u2 v2).all (·.oneCell') = true := of_one _ _ _ hu2.one hv2.one
    with_reducible refine q_then ?_
    with_reducible refine c_seq ?_
    with_reducible refine c_region ?_
    refine stepD rfl F rfl (o_loadA M (F.ev rfl) (by repeat (first | exact .here | apply Has.there)) (by first | assumption | rfl) ?_); clear F; clear a; intro a F
    (refine stepN rfl F (o_storeA M (F.ev rfl) (F.ev rfl) f2 f1  (by repeat (first | exact .here | apply Has.there))  (put_all (by rw [f2]; rfl)) (by repeat (first | exact .here | apply Upd.there)) ?_); clear F; clear M; intro w M a F)
    with_reducible refine l_nil ?_
    with_reducible refine q_then ?_
    with_reducible refine c_ret ?_
    have hAt : OffNew W.heap.size w ⟨⟨h2, ps2, cs2⟩, u2, v2⟩ := by
      have hnb : ∀ p ∈ eu2 ++ ev2, p.1 ∉ [bt] := fun p hp hb => (List.nodup_cons.1 M.nd).1 (by
        simp only [List.mem_singleton] at hb
        exact List.mem_map.2 ⟨p, by simp at hp ⊢; exact .inr (.inr hp), hb⟩)
      refine ⟨⟨hu2.slAt M (fun p hp => by simp [hp]), hv2.slAt M (fun p hp => by simp [hp])⟩, hu2.newVB M (fun p hp => by simp [hp]) (fun p hp => hnb p (List.mem_append_left _ hp)), hv2.newVB M (fun p hp => by simp [hp]) (fun p hp => hnb p (List.mem_append_right _ hp))⟩
    refine p_ret F rfl (.cons (.cell (F.ev rfl) (run_loadVar_agg TAgg.h (M.heap (.there (.there .here))) f0)) .nil) ⟨⟨⟨h2, ps2, cs2⟩, u2, v2⟩, k2, rfl, hi2, ⟨hl3, hl4⟩, hAt, ?_⟩
    exact M.sub (.cons_cons _ (List.nil_sublist _))
end Go.Proofs.Ytainnefmobfcjaa

/-! FJ -/
/-
  BorderAccepts: walked.
-/
namespace Go.Proofs.Ytainnefmobfcjaa
set_option linter.unusedVariables false
set_option linter.unusedSimpArgs false
open Go.RowKit
attribute [local irreducible] OpTo wpListIn Code.wpIn MW Cal

theorem Mem.unF {S : List Nat} {W w1 w : World} {l : List (Nat × Obj)} (M : Mem S w1 w l) (E : Ext [] W w1) (hS : ∀ b ∈ S, W.heap.size ≤ b) : Mem [] W w l :=
  ⟨(E.any.trans M.ext).fresh fun k hk => .inr (hS k hk), M.at_, M.nd, fun p hp => .inr ((M.own p hp).elim (hS _) fun h => Nat.le_trans E.size h)⟩
theorem Mem.reS {S : List Nat} {W w : World} {l : List (Nat × Obj)} (M : Mem S W w l) (S' : List Nat) (h : ∀ p ∈ l, p.1 ∈ S') : Mem S' w w l := ⟨Ext.refl _ _, M.at_, M.nd, fun p hp => .inl (h p hp)⟩
/-- an offer in new memory, as an answer -/
def OffP (n0 : Nat) : Pred := fun v w => ∃ y, v = .agg (ovC y).toArray ∧ IsOff y.o ∧ OffNew n0 w y
theorem OffP.staysBut {n0 bt : Nat} (hbt : bt < n0) : Stays (keepBut [bt]) (OffP n0) := fun v w w' ⟨y, h1, h2, h3⟩ h => ⟨y, h1, h2, h3.laterB hbt h⟩

theorem OffsO.mono {n0 n1 : Nat} {W : World} {v : Value} {os : List Off} (h : OffsO n1 W v os) (hle : n0 ≤ n1) : OffsO n0 W v os := ⟨h.at_.mono hle, h.is, h.len, h.small⟩
/-- accepts, over offers off the tape -/
theorem acceptsO_c {n0 : Nat} {os : List Off} {v : Value} (now : Int) (x : OV) (hxo : IsOff x.o) (W : World) (hO : OffsO n0 W v os) (hxa : OffAt W x) :
    Cal Try.prog 27 [v, .int .i64 now, .agg (ovC x).toArray].toArray W fun r w' => r = .bool true ∧ Ext [] W w' := by
  obtain ⟨zs, hz, hS, hA, hNv, hNz⟩ := hO.at_
  exact accepts_c zs (fun z hz' => hO.is z.o (by rw [← hz]; exact List.mem_map_of_mem hz')) v now x hxo W hS hA hxa
/-- c_drawB, with what stays from ahead of the region on -/
theorem c_drawBE {P : Program} {r : Option Nat} {Q : Exit → Act → World → Prop} {a : Act} {w W0 : World} {S : List Nat} {nt : Nat} {df : List Deferred} {fr : List (Nat × Value)} {id : Nat} {ol : List Oper} {l : List (Nat × Obj)} {l0 : List (Nat × Obj)} (B : List Nat) (Ef : List Nat) (M : Mem S W0 w (l0 ++ l)) (n : Nat) [hm : TMix P] (F : Frm a nt df fr)
    (hchk : (regOk ol.toArray n && tailOk ol.toArray n && Nat.ble n ol.length && dstOk ol.toArray n nt && effOk ol.toArray n Ef) = true)
    (h : ∀ w1, Ext [] w w1 → Mem S W0 w1 (l0 ++ l) → regOk ol.toArray n = true → effOk ol.toArray n Ef = true → MW ⟨keepBut B, Ef, [], P, r, ol.toArray, n, nt, df, a, w1, Q, [], []⟩ 0 ol fr [] (fun _ w => Mem S W0 w (l0 ++ l))) : Wp r P (.region id ol.toArray true) Q a w :=
  c_drawK (keepBut B) Ef [] (fun _ w => Mem S W0 w (l0 ++ l)) n F hchk rfl (fun h => absurd rfl h) (fun h => absurd rfl h) (fun _ _ _ h k => h.later k) (fun _ d hd => M.later (Ext.drawn w d hd)) fun w1 hE _ hok hef => h w1 hE (M.later hE) hok hef
set_option maxHeartbeats 8000000 in
theorem acceptsL_c (raw : OV) (hx : IsOff raw.o) (pt : Option Addr) (cap : Nat) (xs0 : List Int) (now : Int) (W : World) (hA : OffAt W raw) (hI : IntsAt W (.slice pt xs0.length cap) xs0) (hcap : xs0.length ≤ cap) :
    Cal Try.prog 5 [.agg (ovC raw).toArray, .slice pt xs0.length cap, .int .i64 now].toArray W fun v w' => v = .bool true ∧ Ext [] W w' := by
  have hmem : 0 < xs0.length → ∃ b o cs t fz, pt = some ⟨b, o, none⟩ ∧ W.heap[b]? = some (.cells cs t fz) ∧ seg cs.toList o xs0.length = some (i64C xs0) := fun hl => by
    obtain ⟨p', cap', h1, _, h3⟩ := hI.ex
    cases h1
    exact h3 hl
  have r2 : (ovC raw).length = 20 := ov_len hx
  have r3 : seg (ovC raw) 0 20 = some (ovC raw) := of_all hx.1 _ _
  refine fn_ofM (n := 64) [] Try.func5 rfl rfl rfl ?_
  intro a w F M hwW
  refine c_seq ?_
  refine c_region ?_
  (refine stepD rfl F rfl (o_box M (F.ev rfl) rfl ?_); clear F; clear M; intro b3 w M a F)
  refine stepD rfl F rfl (o_assign (F.ev rfl) ?_); clear F; clear a; intro a F
  with_reducible refine l_nil ?_
  with_reducible refine q_then ?_
  with_reducible refine c_seq ?_
  with_reducible refine c_seq ?_
  with_reducible refine c_region ?_
  refine stepD rfl F rfl (o_loadA M (F.ev rfl) (by repeat (first | exact .here | apply Has.there)) (by first | assumption | rfl) ?_); clear F; clear a; intro a F
  (refine stepD rfl F rfl (o_call (F.ev rfl) (F.evs rfl) (Cal.mono (small_c raw hx _ (hA.later M.ext)) ?_)); clear F; clear a; rintro _ w ⟨rfl, hE⟩ a F; replace M := M.later hE; clear hE)
  refine stepD rfl F rfl (o_not (F.ev rfl) ?_); clear F; clear a; intro a F
  with_reducible refine l_nil ?_
  with_reducible refine q_then ?_
  refine c_if F rfl (fun hsm => ?_) (fun hsm => ?_)
  · rw [hsm] at F
    with_reducible refine c_seq ?_
    with_reducible refine c_region ?_
    (refine stepD rfl F rfl (o_call (F.ev rfl) (F.evs rfl) (Cal.mono (offered_c _) ?_)); clear F; clear a; rintro _ w ⟨rfl, hE⟩ a F; replace M := M.later hE; clear hE)
    refine stepD rfl F rfl (o_assign (F.ev rfl) ?_); clear F; clear a; intro a F
    with_reducible refine l_nil ?_
    with_reducible refine q_then ?_
    with_reducible refine c_ret ?_
    with_reducible refine q_thenR ?_
    refine p_ret F rfl (.cons (.tmp (F.ev rfl)) .nil) ?_
    exact ⟨rfl, M.ext⟩
  rw [hsm] at F
  clear hsm
  with_reducible refine c_skip ?_
  with_reducible refine q_then ?_
  with_reducible refine c_seq ?_
  with_reducible refine c_region ?_
  refine stepD rfl F rfl (o_move (F.ev rfl) ?_); clear F; clear a; intro a F
  (refine stepD rfl F rfl (o_call (F.ev rfl) (F.evs rfl) (Cal.mono (new_c xs0 _ (hI.later M.ext) hcap ) ?_)); clear F; clear a; rintro _ w ⟨bt, rfl, N⟩ a F; replace M := M.joins N; clear N)
  have hbt : W.heap.size ≤ bt := (M.own _ List.mem_cons_self).resolve_left (by simp)
  have hT : TapeS W bt pt (cut400 xs0).length (cut400 xs0) := tape_new (Ext.refl [] W) hbt hI.bd hmem
  generalize hxs : cut400 xs0 = xs at *
  generalize hlen : xs.length = len at *
  clear hxs hI hmem hcap
  simp only [List.cons_append, List.nil_append] at M
  refine stepD rfl F rfl (o_assign (F.ev rfl) ?_); clear F; clear a; intro a F
  with_reducible refine l_nil ?_
  with_reducible refine q_then ?_
  with_reducible refine c_seq ?_
  with_reducible refine c_region ?_
  refine stepD rfl F rfl (o_move (F.ev rfl) ?_); clear F; clear a; intro a F
  (refine stepD rfl F rfl (o_call (F.ev rfl) (F.evs rfl) (Cal.mono (base_c _ (hT.later M.ext.any) (M.heap .here) ) ?_)); clear F; clear a; have M0 := M; clear M; rintro _ w ⟨base, k1, rfl, ⟨hb0, hb1⟩, N⟩ a F)
  replace M := M0.turn1 N .here
  clear M0 N
  refine stepD rfl F rfl (o_assign (F.ev rfl) ?_); clear F; clear a; intro a F
  with_reducible refine l_nil ?_
  with_reducible refine q_then ?_
  with_reducible refine c_seq ?_
  with_reducible refine c_region ?_
  refine stepD rfl F rfl (o_move (F.ev rfl) ?_); clear F; clear a; intro a F
  refine stepD rfl F rfl (o_move (F.ev rfl) ?_); clear F; clear a; intro a F
  have hbn : bt < bt + 1 := by omega
  have hbw : bt + 1 ≤ w.heap.size := M.lt List.mem_cons_self
  (refine stepD rfl F rfl (o_call (F.ev rfl) (F.evs rfl) (Cal.mono (woffers_c base hb0 hb1 _ (hT.later M.ext.any) (M.heap .here)) ?_)); clear F; clear a; have M0 := M; clear M; rintro v w ⟨os, k2, hO, N⟩ a F)
  replace hO := hO.mono hbw
  replace M := M0.turn1 N .here
  clear M0 N hbw
  refine stepD rfl F rfl (o_assign (F.ev rfl) ?_); clear F; clear a; intro a F
  with_reducible refine l_nil ?_
  with_reducible refine q_then ?_
  with_reducible refine c_seq ?_
  with_reducible refine c_seq ?_
  with_reducible refine c_region ?_
  refine stepD rfl F rfl (o_assign (F.ev rfl) ?_); clear F; clear a; intro a F
  with_reducible refine l_nil ?_
  with_reducible refine q_then ?_
  with_reducible refine c_block ?_
  refine c_loop (fun m a w => ∃ (i : Nat) (k : Nat), m = 4 - i ∧ i ≤ 4 ∧ OffsO (bt + 1) w v os ∧ Frm a 64 [] [(10, .int .i64 (i : Int)), (9, v), (8, .int .i64 base), (7, .pointer (some ⟨bt, 0, none⟩)), (3, .pointer (some ⟨b3, 0, none⟩)), (2, .int .i64 now)] ∧ Mem [] W w [(bt, tobj pt len cap k), (b3, .cells (ovC raw).toArray 58 (0, 0))]) 4 ⟨0, k2, rfl, by omega, hO, F.only [10, 9, 8, 7, 3, 2] rfl, M⟩ ?_
  clear F M hO
  rintro m a w ⟨i, k, hm, hi, hO, F, M⟩
  have hb3 : W.heap.size ≤ b3 := (M.own _ (.tail _ (.head _))).resolve_left (by simp)
  have hne : b3 ≠ bt := by have := (List.nodup_cons.1 M.nd).1; simpa using fun h => this (by simp [h])
  by_cases hlt : i < 4
  · have hbw : bt + 1 ≤ w.heap.size := M.lt List.mem_cons_self
    with_reducible refine c_seq ?_
    with_reducible refine c_seq ?_
    with_reducible refine c_region ?_
    refine stepD rfl F rfl (o_move (F.ev rfl) ?_); clear F; clear a; intro a F
    refine stepD rfl F rfl (o_lssT (F.ev rfl) (F.ev rfl) (by omega) ?_); clear F; clear a; intro a F
    with_reducible refine l_nil ?_
    with_reducible refine q_then ?_
    refine c_true F rfl rfl ?_
    with_reducible refine c_skip ?_
    with_reducible refine q_then ?_
    with_reducible refine c_seq ?_
    with_reducible refine c_block ?_
    with_reducible refine c_seq ?_
    with_reducible refine c_region ?_
    refine stepD rfl F rfl (o_move (F.ev rfl) ?_); clear F; clear a; intro a F
    refine stepD rfl F rfl (o_move (F.ev rfl) ?_); clear F; clear a; intro a F
    (refine stepD rfl F rfl (o_call (F.ev rfl) (F.evs rfl) (Cal.mono (woffer_c base hb0 hb1 _ (hT.later M.ext.any) (M.heap .here) ) ?_)); clear F; clear a; have M0 := M; clear M; rintro _ w ⟨y, k3, rfl, hyo, hys, hyN, N⟩ a F)
    replace hO := hO.laterB hbn N.ext
    replace hyN := hyN.mono hbw
    replace M := M0.turn1 N .here
    clear M0 N hbw
    have E0 := M.ext
    have hB3 := M.heap (.there .here)
    replace M := (M.sub (.cons_cons _ (.cons _ (.refl _)))).reS [bt] (by intro p hp; simp at hp ⊢; rw [hp])
    have f2 : (ovC y).length = 20 := ov_len hyo
    have f3 : seg (ovC y) 0 20 = some (ovC y) := of_all hyo.1 _ _
    (refine stepD rfl F rfl (o_alloc M ?_); clear F; clear M; intro b11 w M a F)
    (refine stepN rfl F (o_storeA M (F.ev rfl) (F.ev rfl) (f2) (ov_one hyN.1)  (by repeat (first | exact .here | apply Has.there))  (put_all (by rw [f2]; rfl)) (by repeat (first | exact .here | apply Upd.there)) ?_); clear F; clear M; intro w M a F)
    with_reducible refine l_nil ?_
    with_reducible refine q_then ?_
    with_reducible refine c_seq ?_
    replace M := M.perm (l' := [(bt, tobj pt len cap k3)] ++ [(b11, .cells (ovC y).toArray 58 (0, 0))]) (List.Perm.swap _ _ _)
    refine c_drawB (l0 := [(bt, tobj pt len cap k3)]) [bt] [3, 5, 7, 11, 14] M 18 F (by kernel_rfl) ?_
    intro w1 M1 hok hef
    have hB : ∀ k ∈ [bt], k ∈ ([(bt, tobj pt len cap k3)] : List (Nat × Obj)).map (·.1) := by simp
    have hTw : ∀ w', Ext [bt] w1 w' → TapeS w' bt pt len xs := fun w' E => hT.later (E0.any.trans (M1.ext.trans E))
    have hOw : ∀ w', Ext [bt] w1 w' → OffsO (bt + 1) w' v os := fun w' E => hO.laterB hbn (M1.ext.trans E)
    have hyw : ∀ w', Ext [bt] w1 w' → OffNew (bt + 1) w' y := fun w' E => hyN.laterB hbn (M1.ext.trans E)
    have hbw : bt + 1 ≤ w1.heap.size := M1.lt List.mem_cons_self
    refine mK hok rfl rfl (fun a' w' F' E' => o_move (F'.ev rfl) ⟨Ext.refl _ _, rfl⟩) ?_
    refine mK hok rfl rfl (fun a' w' F' E' => o_move (F'.ev rfl) ⟨Ext.refl _ _, rfl⟩) ?_
    refine mK hok rfl rfl (fun a' w' F' E' => o_move (F'.ev rfl) ⟨Ext.refl _ _, rfl⟩) ?_
    refine mE (T' := fun _ w => Mem _ _ w ([(bt, tobj pt len cap (nxK xs k3))] ++ _)) hok rfl rfl (fun _ _ _ h k => h.later k) (fun a' w' σ' F' E' T' => o_call (F'.ev rfl) (F'.evs rfl) (Cal.mono (wtime_c base hb0 hb1 _ (hTw _ E') (T'.heap .here)) fun _ _ hh => ⟨hh.2.ext, hh.1, Mem.turn1 T' hh.2 .here⟩)) ?_
    refine mK hok rfl rfl (fun a' w' F' E' => o_loadA (M1.laterBut E' hB) (F'.ev rfl) (by repeat (first | exact .here | apply Has.there)) (by first | assumption | rfl) ⟨Ext.refl _ _, rfl⟩) ?_
    refine mE (T' := fun _ w => Mem _ _ w ([(bt, tobj pt len cap (nxK xs k3))] ++ _)) hok rfl rfl (fun _ _ _ h k => h.later k) (fun a' w' σ' F' E' T' => o_call (F'.ev rfl) (F'.evs rfl) (Cal.mono (acceptsO_c _ y hyo _ (hOw _ E') (hyw _ E').1) fun _ _ hh => ⟨hh.2.any, hh.1, T'.later hh.2⟩)) ?_
    refine mK hok rfl rfl (fun a' w' F' E' => o_not (F'.ev rfl) ⟨Ext.refl _ _, rfl⟩) ?_
    refine mE (T' := fun _ w => Mem _ _ w ([(bt, tobj pt len cap (nxK xs k3))] ++ _)) hok rfl rfl (fun _ _ _ h k => h.later k) (fun a' w' σ' F' E' T' => o_move (F'.ev rfl) ⟨Ext.refl _ _, rfl, T'⟩) ?_
    refine mKG hok rfl rfl rfl rfl (fun a' w' F' E' => o_move (F'.ev rfl) ⟨Ext.refl _ _, rfl⟩) ?_
    refine mKG hok rfl rfl rfl rfl (fun a' w' F' E' => o_move (F'.ev rfl) ⟨Ext.refl _ _, rfl⟩) ?_
    refine mKG hok rfl rfl rfl rfl (fun a' w' F' E' => o_move (F'.ev rfl) ⟨Ext.refl _ _, rfl⟩) ?_
    refine mEG (T' := fun _ w => Mem _ _ w ([(bt, tobj pt len cap (nxK xs (nxK xs k3)))] ++ _)) hok rfl rfl rfl rfl (fun _ _ _ h k => h.later k) (fun a' w' σ' F' E' T' => o_call (F'.ev rfl) (F'.evs rfl) (Cal.mono (wtime_c base hb0 hb1 _ (hTw _ E') (T'.heap .here)) fun _ _ hh => ⟨hh.2.ext, hh.1, Mem.turn1 T' hh.2 .here⟩)) ?_
    refine mKG hok rfl rfl rfl rfl (fun a' w' F' E' => o_move (F'.ev rfl) ⟨Ext.refl _ _, rfl⟩) ?_
    refine mKG hok rfl rfl rfl rfl (fun a' w' F' E' => o_loadA (M1.laterBut E' hB) (F'.ev rfl) (by repeat (first | exact .here | apply Has.there)) (by first | assumption | rfl) ⟨Ext.refl _ _, rfl⟩) ?_
    refine mEXG (V := OffP (bt + 1)) (T' := fun _ w => ∃ k, Mem _ _ w ([(bt, tobj pt len cap k)] ++ _)) hok rfl rfl rfl rfl (OffP.staysBut hbn) (fun _ _ _ h e => h.elim fun k hk => ⟨k, hk.later e⟩) (fun a' w' σ' F' E' D' hσ' T' => o_call (F'.ev rfl) (F'.evs rfl) (Cal.mono (spoiled_c y hyo (by omega) (by omega) _ (hyw _ E').1 ((hyw _ E').nb hbn) (hTw _ E') (T'.heap .here)) fun x w'' hh => by
      obtain ⟨z, kz, rfl, hzo, _, hzN, N⟩ := hh
      exact ⟨N.ext, ⟨z, rfl, hzo, hzN.mono (Nat.le_trans hbw E'.size)⟩, kz, Mem.turn1 T' N .here⟩)) ?_
    refine mKXG (v := .bool true) hok rfl rfl rfl rfl (fun a' w' F' E' D' => by
      obtain ⟨z, g1, g2, g3⟩ := D' 14 (by decide) _ rfl
      have F2 := F'.know (d := 44) (v := .agg (ovC z).toArray) g1
      exact o_call (F2.ev rfl) (F2.evs rfl) (Cal.mono (acceptsO_c _ z g2 _ (hOw _ E') g3.1) fun _ _ hh => ⟨hh.2, hh.1⟩)) ?_
    refine mKG hok rfl rfl rfl rfl (fun a' w' F' E' => o_not (F'.ev rfl) ⟨Ext.refl _ _, rfl⟩) ?_
    refine mK hok rfl rfl (fun a' w' F' E' => o_pickF (F'.ev rfl) (F'.ev rfl) ⟨Ext.refl _ _, rfl⟩) ?_
    (refine mDone rfl hef ?_; clear F; clear M; intro a w F hE2 hX MT hDD hPP; obtain ⟨k5, M⟩ := MT; have hO5 := hOw _ hE2; clear M1 hX hE2 hok hef hB hDD hPP hTw hOw hyw; (try dsimp only at F))
    with_reducible refine l_nil ?_
    with_reducible refine q_then ?_
    refine c_false F rfl rfl ?_
    with_reducible refine c_skip ?_
    with_reducible refine q_inB ?_
    with_reducible refine q_then ?_
    with_reducible refine c_region ?_
    refine stepD rfl F rfl (o_move (F.ev rfl) ?_); clear F; clear a; intro a F
    refine stepD rfl F rfl (o_add (F.ev rfl) (F.ev rfl) (w_i64 (by omega) (by omega)) ?_); clear F; clear a; intro a F
    refine stepD rfl F rfl (o_assign (F.ev rfl) ?_); clear F; clear a; intro a F
    with_reducible refine l_nil ?_
    with_reducible refine q_then ?_
    exact ⟨_, by omega, i + 1, k5, rfl, by omega, hO5, F.only [10, 9, 8, 7, 3, 2] rfl, ((M.sub (.cons_cons _ (.cons _ (.refl _)))).unF E0 (by simpa using hbt)).cons (b := b3) ((M.ext.block b3 (Array.getElem?_eq_some_iff.1 hB3).1 (by simpa using hne)).trans hB3) (by simpa using fun h => hne h.symm) (.inr hb3) |>.perm (List.Perm.swap _ _ _)⟩
  · obtain rfl : i = 4 := by omega
    with_reducible refine c_seq ?_
    with_reducible refine c_seq ?_
    with_reducible refine c_region ?_
    refine stepD rfl F rfl (o_move (F.ev rfl) ?_); clear F; clear a; intro a F
    refine stepD rfl F rfl (o_lssF (F.ev rfl) (F.ev rfl) (by omega) ?_); clear F; clear a; intro a F
    with_reducible refine l_nil ?_
    with_reducible refine q_then ?_
    refine c_false F rfl rfl ?_
    with_reducible refine c_exit ?_
    with_reducible refine q_thenX ?_
    with_reducible refine q_thenX ?_
    with_reducible refine q_inBX ?_
    with_reducible refine q_then ?_
    with_reducible refine c_seq ?_
    replace M : Mem [] W w ([(bt, tobj pt len cap k)] ++ [(b3, .cells (ovC raw).toArray 58 (0, 0))]) := M
    refine c_drawBE (l0 := [(bt, tobj pt len cap k)]) [bt] [10] M 17 F (by kernel_rfl) ?_
    intro w1 hE1 M1 hok hef
    have hB : ∀ k' ∈ [bt], k' ∈ ([(bt, tobj pt len cap k)] : List (Nat × Obj)).map (·.1) := by simp
    have hTw : ∀ w', Ext [bt] w1 w' → TapeS w' bt pt len xs := fun w' E => hT.later (M1.ext.any.trans E)
    have hEw : ∀ w', Ext [bt] w1 w' → Ext [bt] w w' := fun w' E => hE1.any.trans E
    have hOw : ∀ w', Ext [bt] w1 w' → OffsO (bt + 1) w' v os := fun w' E => hO.laterB hbn (hEw _ E)
    have hAw : ∀ w', Ext [bt] w1 w' → OffAt w' raw := fun w' E => hA.later ((M1.ext.any.trans E).fresh fun q hq => .inr (by simp only [List.mem_singleton] at hq; rw [hq]; exact hbt))
    have hbw : bt < w1.heap.size := M1.lt List.mem_cons_self
    refine mK hok rfl rfl (fun a' w' F' E' => o_move (F'.ev rfl) ⟨Ext.refl _ _, rfl⟩) ?_
    refine mK hok rfl rfl (fun a' w' F' E' => o_move (F'.ev rfl) ⟨Ext.refl _ _, rfl⟩) ?_
    refine mK hok rfl rfl (fun a' w' F' E' => o_loadA (M1.laterBut E' hB) (F'.ev rfl) (by repeat (first | exact .here | apply Has.there)) (by first | assumption | rfl) ⟨Ext.refl _ _, rfl⟩) ?_
    (refine mK hok rfl rfl (fun a' w' F' E' => o_call (F'.ev rfl) (F'.evs rfl) (Cal.mono (acceptsO_c now raw hx _ (hOw _ E') (hAw _ E')) fun _ _ hh => ⟨hh.2, hh.1⟩)) ?_)
    refine mK hok rfl rfl (fun a' w' F' E' => o_move (F'.ev rfl) ⟨Ext.refl _ _, rfl⟩) ?_
    refine mKG hok rfl rfl rfl rfl (fun a' w' F' E' => o_loadA (M1.laterBut E' hB) (F'.ev rfl) (by repeat (first | exact .here | apply Has.there)) (by first | assumption | rfl) ⟨Ext.refl _ _, rfl⟩) ?_
    refine mXG (V := NewS w1.heap.size 1 1 (.cells (ovC raw).toArray 58 (0, 0))) hok rfl rfl rfl rfl (NewS.staysBut (by simpa using hbw)) (fun a' w' F' E' D' => o_buildSlice F' (Mem.empty w') rfl rfl rfl (of_build1 hx.1 _ _) fun b w'' M'' => newSB_of E' ⟨b, rfl, M''⟩) ?_
    refine mKG hok rfl rfl rfl rfl (fun a' w' F' E' => o_move (F'.ev rfl) ⟨Ext.refl _ _, rfl⟩) ?_
    refine mKG hok rfl rfl rfl rfl (fun a' w' F' E' => o_move (F'.ev rfl) ⟨Ext.refl _ _, rfl⟩) ?_
    refine mKG hok rfl rfl rfl rfl (fun a' w' F' E' => o_move (F'.ev rfl) ⟨Ext.refl _ _, rfl⟩) ?_
    refine mEXG (V := OffP (bt + 1)) (T' := fun _ w => ∃ k, Mem _ _ w ([(bt, tobj pt len cap k)] ++ _)) hok rfl rfl rfl rfl (OffP.staysBut hbn) (fun _ _ _ h e => h.elim fun k hk => ⟨k, hk.later e⟩) (fun a' w' σ' F' E' D' hσ' T' => o_call (F'.ev rfl) (F'.evs rfl) (Cal.mono (woffer_c base hb0 hb1 _ (hTw _ E') (T'.heap .here)) fun x w'' hh => by
      obtain ⟨z, kz, rfl, hzo, _, hzN, N⟩ := hh
      exact ⟨N.ext, ⟨z, rfl, hzo, hzN.mono (Nat.le_trans hbw E'.size)⟩, kz, Mem.turn1 T' N .here⟩)) ?_
    refine mKXG (v := .bool true) hok rfl rfl rfl rfl (fun a' w' F' E' D' => by
      obtain ⟨b, e1, e2, e3⟩ := D' 6 (by decide) _ rfl
      obtain ⟨z, g1, g2, g3⟩ := D' 10 (by decide) _ rfl
      have F2 := (F'.know (d := 58) (v := .agg (ovC z).toArray) g1).know (d := 54) (v := .slice (some ⟨b, 0, none⟩) 1 1) e1
      have hS : SlAt w' 20 (.slice (some ⟨b, 0, none⟩) 1 1) 1 (encL ovC [raw]) := ⟨_, _, rfl, Nat.le_refl _, by simp, by rw [encL_one, r2], fun _ => ⟨b, 0, _, _, _, rfl, e3, by rw [encL_one]; exact sg_all (by rw [r2])⟩⟩
      exact o_call (F2.ev rfl) (F2.evs rfl) (Cal.mono (accepts_c [raw] (by simpa using hx) _ now z g2 _ hS (by simpa using hAw _ E') g3.1) fun _ _ hh => ⟨hh.2, hh.1⟩)) ?_
    refine mK hok rfl rfl (fun a' w' F' E' => o_pickT (F'.ev rfl) (F'.ev rfl) ⟨Ext.refl _ _, rfl⟩) ?_
    refine mK hok rfl rfl (fun a' w' F' E' => o_move (F'.ev rfl) ⟨Ext.refl _ _, rfl⟩) ?_
    (refine mKG hok rfl rfl rfl rfl (fun a' w' F' E' => o_call (F'.ev rfl) (F'.evs rfl) (Cal.mono (offered_c _) fun _ _ hh => ⟨hh.2, hh.1⟩)) ?_)
    refine mK hok rfl rfl (fun a' w' F' E' => o_pickT (F'.ev rfl) (F'.ev rfl) ⟨Ext.refl _ _, rfl⟩) ?_
    refine mK hok rfl rfl (fun a' w' F' E' => o_assign (F'.ev rfl) ⟨Ext.refl _ _, rfl⟩) ?_
    (refine mDone rfl hef ?_; clear F; clear M; intro a w F hE2 hX MT hDD hPP; obtain ⟨k5, M⟩ := MT; clear M1 hX hE2 hok hef hB hDD hPP hTw hOw hAw hEw hE1; (try dsimp only at F))
    with_reducible refine l_nil ?_
    with_reducible refine q_then ?_
    with_reducible refine c_ret ?_
    refine p_ret F rfl (.cons (.tmp (F.ev rfl)) .nil) ?_
    exact ⟨rfl, M.ext⟩
end Go.Proofs.Ytainnefmobfcjaa

namespace Go.Proofs.Ytainnefmobfcjaa
set_option linter.unusedVariables false
set_option linter.unusedSimpArgs false
open Go.ChangeShapes Go.WideShapes Go.ChangeAt Go.RowKit

set_option maxRecDepth 100000 in
theorem borderAccepts_contract (H : Type) (enc : TypeId × Value → H) (W : World) (base : Nat) (args : Array Value) (ds gs : List (DataW H)) (before : List MemPlace)
    (hval : ∀ (j : Nat) t v, Try.f5.params[j]? = some t → args[j]? = some v → Value.okWide Try.prog W .any base t v)
    (hW : DataW.Whole enc Try.prog Try.f5.params.toList Rows.borderAcceptsSpec.vars false W args.toList ds gs before) (hL : laidMetH Try.prog seatLaid W) (hS : W.ShapedOpen Try.prog) :
    Calls Try.prog 5 args W fun e W' => ∃ v, e = .returned v ∧ Rows.borderAcceptsSpec.post enc Try.prog Try.f5 false true false false W args v W' := by
  have hW' := hW
  obtain ⟨p, q, hA0, hV, rfl, hfz, hnd⟩ := hW
  have hA : DataW.TrodAll enc Try.prog W 0 (fun _ => true) true Try.f5.params.toList args.toList ds p := hA0
  rw [Try.params5] at hA hval
  obtain ⟨v0, vs0, d0, ds0, p0, q0, hargs, rfl, rfl, h0, r0⟩ := trodAll_cons hA
  obtain ⟨v1, vs1, d1, ds1, p1, q1, rfl, rfl, rfl, h1, r1⟩ := trodAll_cons r0
  obtain ⟨v2, vs2, d2, ds2, p2, q2, rfl, rfl, rfl, h2, r2⟩ := trodAll_cons r1
  obtain ⟨rfl, rfl, rfl⟩ := trodAll_nil r2
  obtain rfl : args = #[v0, v1, v2] := by cases args; simp_all
  obtain ⟨x0, hx0, hoa0, rfl⟩ := open_off (hval 0 _ v0 rfl rfl) h0
  obtain ⟨l1, q1p, cap1, rfl, hc1, hx1⟩ := open_il (hval 1 _ v1 rfl rfl) h1
  obtain ⟨x2, rfl, rfl, rfl, w2⟩ := open_int Try.underlying3 (hval 2 _ v2 rfl rfl) h2; have hx2 := int_bd w2
  refine ((acceptsL_c x0 hx0 q1p cap1 l1 x2 W hoa0 hx1 hc1).calls).mono ?_
  rintro e W' ⟨v, rfl, rfl, hE⟩
  exact ⟨_, rfl, law_post (tb := 4) laidOut (by kernel_rfl) rfl (by kernel_rfl) Try.underlying4 (fun xs hx => by rw [Try.params5] at hx; match xs, hx with | [_, _, _], _ => rfl) hW' hE⟩

set_option maxRecDepth 100000 in
theorem borderAccepts_lifted (os : Os) (started : os.Started) (H : Type) (enc : TypeId × Value → H) (F : Stop.Interp) :
    ReturnsInHanded {} Try.checked os 5 .any ((OpenSpec.ofChange Rows.borderAcceptsSpec).preRow enc Try.prog Try.f5 Rows.borderAcceptsRow.domain false Rows.borderAcceptsRow.laid) (((OpenSpec.ofChange Rows.borderAcceptsSpec).at F).post enc Try.prog Try.f5 false true false false) := by
  have hx : ∃ places ds, DataW.whole enc Try.prog ((laidWorld os).forCall (fun _ _ => 0) ⟨#[], #[.agg ofZ.toArray, .slice none 0 0, .int .i64 0], []⟩).memory Try.f5.params.toList Rows.borderAcceptsSpec.vars false #[Value.agg ofZ.toArray, .slice none 0 0, .int .i64 0].toList 8 = some (ds, [], places) ∧ ds = [.agg [.agg (List.replicate 16 (.lit (.int .u8 0))), .lit (.int .i64 0), .lit (.int .i64 0), .nil, .nil], .nil, .lit (.int .i64 0)] := ⟨[], [.agg [.agg (List.replicate 16 (.lit (.int .u8 0))), .lit (.int .i64 0), .lit (.int .i64 0), .nil, .nil], .nil, .lit (.int .i64 0)], by kernel_rfl, rfl⟩
  obtain ⟨places, ds, hx, rfl⟩ := hx
  refine returnsInHanded_of_row (C := Try.checked) (s := OpenSpec.ofChange Rows.borderAcceptsSpec) own started (by kernel_rfl) Try.func5
    (witness_row_at (enc := enc) (C := Try.checked) false (laidWorld os) #[.agg ofZ.toArray, .slice none 0 0, .int .i64 0] rfl (by kernel_rfl) (by kernel_rfl) (by kernel_rfl)
      (OpenSpec.preRow_of_cond 8 hx (by kernel_rfl) (fun k hk => by cases hk) (by kernel_rfl) (laid_met os _))) ?_
  intro W base args ds gs before hval hW _ hcond _ hL hS _
  exact borderAccepts_contract H enc W base args ds gs before hval hW hL hS

theorem borderAccepts_said : Rows.BorderAcceptsSaid :=
  OpenClaim.holds_of_cond 5 Try.f5 rfl rfl rfl rfl rfl rfl rfl ⟨rfl, rfl, rfl, rfl, rfl⟩ rfl rfl rfl rfl rfl (by kernel_rfl) Try.func5 (by kernel_rfl)
    (of_decide_eq_true (by kernel_rfl)) (by unfold Func.isWrapper; first | (rw [if_pos (by decide +kernel)]; kernel_rfl) | (rw [if_neg (by decide +kernel)]; exact ⟨rfl, rfl⟩))
    (fun os started H enc _ F => by rw [OpenClaim.pre_eq_preRow]; exact borderAccepts_lifted os started H enc F)

#print axioms borderAccepts_said
end Go.Proofs.Ytainnefmobfcjaa

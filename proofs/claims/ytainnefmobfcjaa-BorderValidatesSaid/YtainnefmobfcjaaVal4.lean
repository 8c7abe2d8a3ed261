/-
  Texts joined: F3, LibR, E2, F4, LibS, F5, F6, F7, F8.
-/
import Derived.Test.YtainnefmobfcjaaVal3
/-! F3 -/
namespace Go.Proofs.Ytainnefmobfcjaa
set_option linter.unusedVariables false
set_option linter.unusedSimpArgs false
open Go.RowKit
attribute [local irreducible] OpTo wpListIn Code.wpIn MW Cal
def valid1 (os : List Off) (i : Nat) : Bool := match os[i]? with
  | none => true
  | some o => validO o && (decide (i = 0) || if h : i - 1 < os.length then decide (cmpL os[i - 1].h.rt o.h.rt < 0) else true)
def validL (os : List Off) : Bool := decide (os.length ≤ 8) && allI (valid1 os) os.length
theorem valid1_at {xs : List OV} {i : Nat} (h : i < xs.length) : valid1 (xs.map (·.o)) i = (validO xs[i].o && (decide (i = 0) || if h : i - 1 < xs.length then decide (cmpL xs[i - 1].o.h.rt xs[i].o.h.rt < 0) else true)) := by
  unfold valid1
  rw [List.getElem?_map, List.getElem?_eq_getElem h]
  simp only [Option.map_some, List.length_map, List.getElem_map]
set_option maxHeartbeats 2000000 in
theorem copy_c (x : OV) (hx : IsOff x.o) (h1 : x.o.ps.length ≤ 100000) (h2 : x.o.cs.length ≤ 100000) (W : World) (hA : OffAt W x) :
    Cal Try.prog 55 [.agg (ovC x).toArray].toArray W fun r w' => ∃ u v eu ev, r = .agg (ovC ⟨x.o, u, v⟩).toArray ∧ OwnS 111 20 u x.o.ps.length (pisC x.o.ps) eu ∧ OwnS 116 20 v x.o.cs.length (cisC x.o.cs) ev ∧ Mem [] W w' (eu ++ ev) := by
  have hh := hx.1
  have hA1 := hA.1
  have hA2 := hA.2
  obtain ⟨q1, cap1, hu, _⟩ := hA.1
  obtain ⟨q2, cap2, hv, _⟩ := hA.2
  unfold ovC
  dsimp only
  have e1 := of_ps hh x.u x.v
  refine fn_ofM (n := 12) [] Try.func55 rfl rfl rfl ?_
  intro a w F M hwW
  refine c_seq ?_
  refine c_region ?_
  (refine stepD rfl F rfl (o_box M (F.ev rfl) rfl ?_); clear F; clear M; intro b1 w M a F)
  (refine stepD rfl F rfl (o_alloc M ?_); clear F; clear M; intro b2 w M a F)
  with_reducible refine l_nil ?_
  with_reducible refine q_then ?_
  with_reducible refine c_seq ?_
  with_reducible refine c_region ?_
  refine stepD rfl F rfl (o_fieldAddr (F.ev rfl) ?_); clear F; clear a; intro a F
  refine stepD rfl F rfl (o_load1 M (F.ev rfl) (by repeat (first | exact .here | apply Has.there)) (by first | assumption | rfl) ?_); clear F; clear a; intro a F
  rw [hu] at F
  (refine stepD rfl F rfl (o_append (OwnS.nil 111 20) M (.cons (.cons .here)) (F.ev rfl) (F.ev rfl) (hu ▸ (hA1.later M.ext).src pis_one) (by omega) (by omega) ?_); clear F; clear M; intro u2 eu w hO M a F)
  rw [Nat.zero_add, List.nil_append] at hO
  obtain ⟨p2, c2, rfl⟩ := hO.slice
  have g1 := of_put_ps hh x.u x.v (.slice p2 x.o.ps.length c2)
  refine stepD rfl F rfl (o_fieldAddr (F.ev rfl) ?_); clear F; clear a; intro a F
  (refine stepN rfl F (o_store1 M (F.ev rfl) (F.ev rfl) rfl (by repeat (first | exact .here | apply Has.there)) (g1) (by repeat (first | exact .here | apply Upd.there)) ?_); clear F; clear M; intro w M a F)
  have e2 := of_cs hh (.slice p2 x.o.ps.length c2) x.v
  with_reducible refine l_nil ?_
  with_reducible refine q_then ?_
  with_reducible refine c_seq ?_
  with_reducible refine c_region ?_
  refine stepD rfl F rfl (o_fieldAddr (F.ev rfl) ?_); clear F; clear a; intro a F
  refine stepD rfl F rfl (o_load1 M (F.ev rfl) (by repeat (first | exact .here | apply Has.there)) (by first | assumption | rfl) ?_); clear F; clear a; intro a F
  rw [hv] at F
  rw [← List.append_nil eu] at M
  (refine stepD rfl F rfl (o_append (OwnS.nil 116 20) M (.cons (.cons (.app .here))) (F.ev rfl) (F.ev rfl) (hv ▸ (hA2.later M.ext).src cis_one) (by omega) (by omega) ?_); clear F; clear M; intro v2 ev w hO2 M a F)
  rw [Nat.zero_add, List.nil_append] at hO2
  obtain ⟨p3, c3, rfl⟩ := hO2.slice
  have g2 := of_put_cs hh (.slice p2 x.o.ps.length c2) x.v (.slice p3 x.o.cs.length c3)
  refine stepD rfl F rfl (o_fieldAddr (F.ev rfl) ?_); clear F; clear a; intro a F
  (refine stepN rfl F (o_store1 M (F.ev rfl) (F.ev rfl) rfl (by repeat (first | exact .here | apply Has.there)) (g2) (by repeat (first | exact .here | apply Upd.there)) ?_); clear F; clear M; intro w M a F)
  have g3 := of_all hh (.slice p2 x.o.ps.length c2) (.slice p3 x.o.cs.length c3)
  have g4 := of_len hh (.slice p2 x.o.ps.length c2) (.slice p3 x.o.cs.length c3)
  with_reducible refine l_nil ?_
  with_reducible refine q_then ?_
  with_reducible refine c_seq ?_
  with_reducible refine c_region ?_
  refine stepD rfl F rfl (o_loadA M (F.ev rfl) (by repeat (first | exact .here | apply Has.there)) (by first | assumption | rfl) ?_); clear F; clear a; intro a F
  (refine stepN rfl F (o_storeA M (F.ev rfl) (F.ev rfl) (g4) (of_one _ _ _ rfl rfl)  (by repeat (first | exact .here | apply Has.there))  (put_all (by rw [g4]; rfl)) (by repeat (first | exact .here | apply Upd.there)) ?_); clear F; clear M; intro w M a F)
  with_reducible refine l_nil ?_
  with_reducible refine q_then ?_
  with_reducible refine c_ret ?_
  exact p_ret F rfl (.cons (.cell (F.ev rfl) (run_loadVar_agg TAgg.h (M.heap .here) g3)) .nil) ⟨_, _, eu, ev, rfl, hO, hO2, M.sub (.cons _ (.cons _ (.refl _)))⟩
set_option maxHeartbeats 2000000 in
theorem rcopy_c (x : OV) (hx : IsOff x.o) (h1 : x.o.ps.length ≤ 100000) (h2 : x.o.cs.length ≤ 100000) (W : World) (hA : OffAt W x) :
    Cal Try.prog 63 [.agg (ovC x).toArray].toArray W fun r w' => ∃ u v eu ev, r = .agg (ovC ⟨x.o, u, v⟩).toArray ∧ OwnS 111 20 u x.o.ps.length (pisC x.o.ps) eu ∧ OwnS 116 20 v x.o.cs.length (cisC x.o.cs) ev ∧ Mem [] W w' (eu ++ ev) := by
  have hh := hx.1
  have hA1 := hA.1
  have hA2 := hA.2
  obtain ⟨q1, cap1, hu, _⟩ := hA.1
  obtain ⟨q2, cap2, hv, _⟩ := hA.2
  unfold ovC
  dsimp only
  have e1 := of_ps hh x.u x.v
  refine fn_ofM (n := 12) [] Try.func63 rfl rfl rfl ?_
  intro a w F M hwW
  refine c_seq ?_
  refine c_region ?_
  (refine stepD rfl F rfl (o_box M (F.ev rfl) rfl ?_); clear F; clear M; intro b1 w M a F)
  (refine stepD rfl F rfl (o_alloc M ?_); clear F; clear M; intro b2 w M a F)
  with_reducible refine l_nil ?_
  with_reducible refine q_then ?_
  with_reducible refine c_seq ?_
  with_reducible refine c_region ?_
  refine stepD rfl F rfl (o_fieldAddr (F.ev rfl) ?_); clear F; clear a; intro a F
  refine stepD rfl F rfl (o_load1 M (F.ev rfl) (by repeat (first | exact .here | apply Has.there)) (by first | assumption | rfl) ?_); clear F; clear a; intro a F
  rw [hu] at F
  (refine stepD rfl F rfl (o_append (OwnS.nil 111 20) M (.cons (.cons .here)) (F.ev rfl) (F.ev rfl) (hu ▸ (hA1.later M.ext).src pis_one) (by omega) (by omega) ?_); clear F; clear M; intro u2 eu w hO M a F)
  rw [Nat.zero_add, List.nil_append] at hO
  obtain ⟨p2, c2, rfl⟩ := hO.slice
  have g1 := of_put_ps hh x.u x.v (.slice p2 x.o.ps.length c2)
  refine stepD rfl F rfl (o_fieldAddr (F.ev rfl) ?_); clear F; clear a; intro a F
  (refine stepN rfl F (o_store1 M (F.ev rfl) (F.ev rfl) rfl (by repeat (first | exact .here | apply Has.there)) (g1) (by repeat (first | exact .here | apply Upd.there)) ?_); clear F; clear M; intro w M a F)
  have e2 := of_cs hh (.slice p2 x.o.ps.length c2) x.v
  with_reducible refine l_nil ?_
  with_reducible refine q_then ?_
  with_reducible refine c_seq ?_
  with_reducible refine c_region ?_
  refine stepD rfl F rfl (o_fieldAddr (F.ev rfl) ?_); clear F; clear a; intro a F
  refine stepD rfl F rfl (o_load1 M (F.ev rfl) (by repeat (first | exact .here | apply Has.there)) (by first | assumption | rfl) ?_); clear F; clear a; intro a F
  rw [hv] at F
  rw [← List.append_nil eu] at M
  (refine stepD rfl F rfl (o_append (OwnS.nil 116 20) M (.cons (.cons (.app .here))) (F.ev rfl) (F.ev rfl) (hv ▸ (hA2.later M.ext).src cis_one) (by omega) (by omega) ?_); clear F; clear M; intro v2 ev w hO2 M a F)
  rw [Nat.zero_add, List.nil_append] at hO2
  obtain ⟨p3, c3, rfl⟩ := hO2.slice
  have g2 := of_put_cs hh (.slice p2 x.o.ps.length c2) x.v (.slice p3 x.o.cs.length c3)
  refine stepD rfl F rfl (o_fieldAddr (F.ev rfl) ?_); clear F; clear a; intro a F
  (refine stepN rfl F (o_store1 M (F.ev rfl) (F.ev rfl) rfl (by repeat (first | exact .here | apply Has.there)) (g2) (by repeat (first | exact .here | apply Upd.there)) ?_); clear F; clear M; intro w M a F)
  have g3 := of_all hh (.slice p2 x.o.ps.length c2) (.slice p3 x.o.cs.length c3)
  have g4 := of_len hh (.slice p2 x.o.ps.length c2) (.slice p3 x.o.cs.length c3)
  with_reducible refine l_nil ?_
  with_reducible refine q_then ?_
  with_reducible refine c_seq ?_
  with_reducible refine c_region ?_
  refine stepD rfl F rfl (o_loadA M (F.ev rfl) (by repeat (first | exact .here | apply Has.there)) (by first | assumption | rfl) ?_); clear F; clear a; intro a F
  (refine stepN rfl F (o_storeA M (F.ev rfl) (F.ev rfl) (g4) (of_one _ _ _ rfl rfl)  (by repeat (first | exact .here | apply Has.there))  (put_all (by rw [g4]; rfl)) (by repeat (first | exact .here | apply Upd.there)) ?_); clear F; clear M; intro w M a F)
  with_reducible refine l_nil ?_
  with_reducible refine q_then ?_
  with_reducible refine c_ret ?_
  exact p_ret F rfl (.cons (.cell (F.ev rfl) (run_loadVar_agg TAgg.h (M.heap .here) g3)) .nil) ⟨_, _, eu, ev, rfl, hO, hO2, M.sub (.cons _ (.cons _ (.refl _)))⟩
set_option maxHeartbeats 4000000 in
theorem validL_c (xs : List OV) (hx : ∀ x ∈ xs, IsOff x.o) (v : Value) (W : World) (hS : SlAt W 20 v xs.length (encL ovC xs)) (hA : ∀ x ∈ xs, OffAt W x) :
    Cal Try.prog 53 [v].toArray W fun r w' => r = .bool (validL (xs.map (·.o))) ∧ Ext [] W w' := by
  obtain ⟨q, cap, rfl, hcap, hsp, hl, hm⟩ := hS
  unfold validL
  rw [List.length_map]
  have hle : ∀ x ∈ xs, (ovC x).length = 20 := fun x h => ov_len (hx x h)
  by_cases c0 : 8 < xs.length
  · rw [decide_eq_false (by omega), Bool.false_and]
    refine fn_ofM (n := 35) [] Try.func53 rfl rfl rfl ?_
    intro a w F M hwW
    with_reducible refine c_seq ?_
    with_reducible refine c_region ?_
    refine stepD rfl F rfl (o_assign (F.ev rfl) ?_); clear F; clear a; intro a F
    with_reducible refine l_nil ?_
    with_reducible refine q_then ?_
    with_reducible refine c_seq ?_
    with_reducible refine c_seq ?_
    with_reducible refine c_region ?_
    refine stepD rfl F rfl (o_move (F.ev rfl) ?_); clear F; clear a; intro a F
    refine stepD rfl F rfl (o_lenSl (F.ev rfl) ?_); clear F; clear a; intro a F
    refine stepD rfl F rfl (o_gtrT (F.ev rfl) (F.ev rfl) (by omega) ?_); clear F; clear a; intro a F
    with_reducible refine l_nil ?_
    with_reducible refine q_then ?_
    refine c_true F rfl rfl ?_
    with_reducible refine c_seq ?_
    with_reducible refine c_region ?_
    refine stepD rfl F rfl (o_assign (F.ev rfl) ?_); clear F; clear a; intro a F
    with_reducible refine l_nil ?_
    with_reducible refine q_then ?_
    with_reducible refine c_ret ?_
    with_reducible refine q_thenR ?_
    refine p_ret F rfl (.cons (.tmp (F.ev rfl)) .nil) ?_
    exact ⟨rfl, M.ext⟩
  rw [decide_eq_true (show xs.length ≤ 8 by omega), Bool.true_and]
  refine fn_ofM (n := 35) [] Try.func53 rfl rfl rfl ?_
  intro a w F M hwW
  with_reducible refine c_seq ?_
  with_reducible refine c_region ?_
  refine stepD rfl F rfl (o_assign (F.ev rfl) ?_); clear F; clear a; intro a F
  with_reducible refine l_nil ?_
  with_reducible refine q_then ?_
  with_reducible refine c_seq ?_
  with_reducible refine c_seq ?_
  with_reducible refine c_region ?_
  refine stepD rfl F rfl (o_move (F.ev rfl) ?_); clear F; clear a; intro a F
  refine stepD rfl F rfl (o_lenSl (F.ev rfl) ?_); clear F; clear a; intro a F
  refine stepD rfl F rfl (o_gtrF (F.ev rfl) (F.ev rfl) (by omega) ?_); clear F; clear a; intro a F
  with_reducible refine l_nil ?_
  with_reducible refine q_then ?_
  refine c_false F rfl rfl ?_
  with_reducible refine c_skip ?_
  with_reducible refine q_then ?_
  with_reducible refine c_seq ?_
  with_reducible refine c_seq ?_
  with_reducible refine c_region ?_
  refine stepD rfl F rfl (o_move (F.ev rfl) ?_); clear F; clear a; intro a F
  refine stepD rfl F rfl (o_lenSl (F.ev rfl) ?_); clear F; clear a; intro a F
  refine stepD rfl F rfl (o_move (F.ev rfl) ?_); clear F; clear a; intro a F
  with_reducible refine l_nil ?_
  with_reducible refine q_then ?_
  with_reducible refine c_block ?_
  refine c_loop (fun m a w => ∃ i : Nat, m = xs.length - i ∧ i ≤ xs.length ∧ (∀ j, j < i → valid1 (xs.map (·.o)) j = true) ∧ Frm a 35 [] [(10, .int .i64 i), (9, .int .i64 xs.length), (0, .slice q xs.length cap), (8, .slice q xs.length cap)] ∧ Mem [] W w []) xs.length ⟨0, rfl, by omega, by omega, F.only [10, 9, 0, 8] rfl, M⟩ ?_
  clear F M
  rintro m a w ⟨i, hm', hi, hv, F, M⟩
  by_cases hlt : i < xs.length
  · obtain ⟨b, o, cs, t, fz, rfl, hb, hs⟩ := hm (by omega)
    obtain ⟨x, hx0⟩ : ∃ x, x = xs[i] := ⟨_, rfl⟩
    have hxm : x ∈ xs := by rw [hx0]; exact List.getElem_mem hlt
    have hxo := hx x hxm
    have hxa := hA x hxm
    have f1 : seg cs (o + (i : Int).toNat * 20) 20 = some (ovC x) := by rw [hx0]; exact seg_el hle hs hlt (by omega)
    have f2 : (ovC x).length = 20 := ov_len hxo
    have f3 : seg (ovC x) 0 16 = some (ipC x.o.h.rt) := of_rt hxo.1 _ _
    have f4 : seg (ovC x) 0 20 = some (ovC x) := of_all hxo.1 _ _
    have f5 : seg cs (o + (i : Int).toNat * 20) 16 = some (ipC x.o.h.rt) := sg_seg f1 f3 (by omega)
    have hvt := valid1_at hlt
    rw [← hx0] at hvt
    with_reducible refine c_seq ?_
    with_reducible refine c_region ?_
    refine stepD rfl F rfl (o_lssT (F.ev rfl) (F.ev rfl) (by omega) ?_); clear F; clear a; intro a F
    with_reducible refine l_nil ?_
    with_reducible refine q_then ?_
    with_reducible refine c_seq ?_
    refine c_true F rfl rfl ?_
    with_reducible refine c_skip ?_
    with_reducible refine q_then ?_
    with_reducible refine c_seq ?_
    with_reducible refine c_block ?_
    with_reducible refine c_seq ?_
    with_reducible refine c_region ?_
    refine stepD rfl F rfl (o_move (F.ev rfl) ?_); clear F; clear a; intro a F
    refine stepD rfl F rfl (o_indexSl (F.ev rfl) (F.ev rfl) (by omega) (by omega) ?_); clear F; clear a; intro a F
    refine stepD rfl F rfl (o_loadWA M (F.ev rfl) (by assumption) (by first | assumption | rfl) ?_); clear F; clear a; intro a F
    (refine stepD rfl F rfl (o_alloc M ?_); clear F; clear M; intro b4 w M a F)
    refine stepD rfl F rfl (o_assign (F.ev rfl) ?_); clear F; clear a; intro a F
    (refine stepN rfl F (o_storeA M (F.ev rfl) (F.ev rfl) (f2) (ov_one hxa)  (by repeat (first | exact .here | apply Has.there))  (put_all (by rw [f2]; rfl)) (by repeat (first | exact .here | apply Upd.there)) ?_); clear F; clear M; intro w M a F)
    with_reducible refine l_nil ?_
    with_reducible refine q_then ?_
    with_reducible refine c_seq ?_
    replace F := F.only [10, 9, 0, 8, 3, 4] rfl
    cases c1 : validO x.o
    · have : allI (valid1 (xs.map (·.o))) xs.length = false := allI_f hlt (by rw [hvt, c1]; rfl)
      rw [this]
      refine c_draw 18 F (by kernel_rfl) ?_
      intro w1 hE hok
      have M1 := M.later hE
      refine mK hok rfl rfl (fun a' w' F' E' => o_loadA (M1.later E') (F'.ev rfl) (by repeat (first | exact .here | apply Has.there)) (by first | assumption | rfl) ⟨Ext.refl _ _, rfl⟩) ?_
      (refine mK hok rfl rfl (fun a' w' F' E' => o_call (F'.ev rfl) (F'.evs rfl) (Cal.mono (Cal.to (v' := .bool false) (validOffer_c x hxo _ (hxa.later (M1.later E').ext)) (by rw [c1])) fun _ _ hh => ⟨hh.2, hh.1⟩)) ?_)
      refine mK hok rfl rfl (fun a' w' F' E' => o_not (F'.ev rfl) ⟨Ext.refl _ _, rfl⟩) ?_
      refine mK hok rfl rfl (fun a' w' F' E' => o_move (F'.ev rfl) ⟨Ext.refl _ _, rfl⟩) ?_
      refine mOff hok rfl rfl rfl rfl rfl ?_
      refine mOff hok rfl rfl rfl rfl rfl ?_
      refine mOff hok rfl rfl rfl rfl rfl ?_
      refine mOff hok rfl rfl rfl rfl rfl ?_
      refine mOff hok rfl rfl rfl rfl rfl ?_
      refine mOff hok rfl rfl rfl rfl rfl ?_
      refine mOff hok rfl rfl rfl rfl rfl ?_
      refine mOff hok rfl rfl rfl rfl rfl ?_
      refine mOff hok rfl rfl rfl rfl rfl ?_
      refine mOff hok rfl rfl rfl rfl rfl ?_
      refine mOff hok rfl rfl rfl rfl rfl ?_
      refine mOff hok rfl rfl rfl rfl rfl ?_
      refine mOff hok rfl rfl rfl rfl rfl ?_
      refine mOff hok rfl rfl rfl rfl rfl ?_
      (refine mDone rfl rfl ?_; clear F; clear M; intro a w F hE2 hX hTT hDD hPP; have M := M1.later hE2; clear M1; clear hX; clear hE2; clear hok; clear hE; clear hTT; clear hDD; clear hPP; (try dsimp only at F))
      refine stepD rfl F rfl (o_pickT (F.ev rfl) (F.ev rfl) ?_); clear F; clear a; intro a F
      with_reducible refine l_nil ?_
      with_reducible refine q_then ?_
      refine c_true F rfl rfl ?_
      with_reducible refine c_seq ?_
      with_reducible refine c_region ?_
      refine stepD rfl F rfl (o_assign (F.ev rfl) ?_); clear F; clear a; intro a F
      with_reducible refine l_nil ?_
      with_reducible refine q_then ?_
      with_reducible refine c_ret ?_
      with_reducible refine q_inBR ?_
      with_reducible refine q_thenR ?_
      with_reducible refine q_thenR ?_
      with_reducible refine q_inBR ?_
      with_reducible refine q_thenR ?_
      refine p_ret F rfl (.cons (.tmp (F.ev rfl)) .nil) ?_
      exact ⟨rfl, M.ext⟩
    rw [c1, Bool.true_and] at hvt
    rcases Nat.eq_zero_or_pos i with hi0 | hi0
    · refine c_draw 18 F (by kernel_rfl) ?_
      intro w1 hE hok
      have M1 := M.later hE
      refine mK hok rfl rfl (fun a' w' F' E' => o_loadA (M1.later E') (F'.ev rfl) (by repeat (first | exact .here | apply Has.there)) (by first | assumption | rfl) ⟨Ext.refl _ _, rfl⟩) ?_
      (refine mK hok rfl rfl (fun a' w' F' E' => o_call (F'.ev rfl) (F'.evs rfl) (Cal.mono (Cal.to (v' := .bool true) (validOffer_c x hxo _ (hxa.later (M1.later E').ext)) (by rw [c1])) fun _ _ hh => ⟨hh.2, hh.1⟩)) ?_)
      refine mK hok rfl rfl (fun a' w' F' E' => o_not (F'.ev rfl) ⟨Ext.refl _ _, rfl⟩) ?_
      refine mK hok rfl rfl (fun a' w' F' E' => o_move (F'.ev rfl) ⟨Ext.refl _ _, rfl⟩) ?_
      refine mKG hok rfl rfl rfl rfl (fun a' w' F' E' => o_move (F'.ev rfl) ⟨Ext.refl _ _, rfl⟩) ?_
      refine mKG hok rfl rfl rfl rfl (fun a' w' F' E' => o_gtrF (F'.ev rfl) (F'.ev rfl) (by omega) ⟨Ext.refl _ _, rfl⟩) ?_
      refine mKG hok rfl rfl rfl rfl (fun a' w' F' E' => o_move (F'.ev rfl) ⟨Ext.refl _ _, rfl⟩) ?_
      refine mOff hok rfl rfl rfl rfl rfl ?_
      refine mOff hok rfl rfl rfl rfl rfl ?_
      refine mOff hok rfl rfl rfl rfl rfl ?_
      refine mOff hok rfl rfl rfl rfl rfl ?_
      refine mOff hok rfl rfl rfl rfl rfl ?_
      refine mOff hok rfl rfl rfl rfl rfl ?_
      refine mOff hok rfl rfl rfl rfl rfl ?_
      refine mOff hok rfl rfl rfl rfl rfl ?_
      refine mOff hok rfl rfl rfl rfl rfl ?_
      refine mOff hok rfl rfl rfl rfl rfl ?_
      refine mKG hok rfl rfl rfl rfl (fun a' w' F' E' => o_pickF (F'.ev rfl) (F'.ev rfl) ⟨Ext.refl _ _, rfl⟩) ?_
      (refine mDone rfl rfl ?_; clear F; clear M; intro a w F hE2 hX hTT hDD hPP; have M := M1.later hE2; clear M1; clear hX; clear hE2; clear hok; clear hE; clear hTT; clear hDD; clear hPP; (try dsimp only at F))
      refine stepD rfl F rfl (o_pickF (F.ev rfl) (F.ev rfl) ?_); clear F; clear a; intro a F
      with_reducible refine l_nil ?_
      with_reducible refine q_then ?_
      refine c_false F rfl rfl ?_
      with_reducible refine c_skip ?_
      with_reducible refine q_inB ?_
      with_reducible refine q_then ?_
      with_reducible refine c_region ?_
      refine stepD rfl F rfl (o_add (F.ev rfl) (F.ev rfl) (w_i64 (by omega) (by omega)) ?_); clear F; clear a; intro a F
      refine stepD rfl F rfl (o_move (F.ev rfl) ?_); clear F; clear a; intro a F
      with_reducible refine l_nil ?_
      with_reducible refine q_then ?_
      exact ⟨_, by omega, i + 1, rfl, by omega, fun j hj => by
        rcases Nat.lt_or_ge j i with h1 | h1
        · exact hv j h1
        · obtain rfl : j = i := by omega
          rw [hvt]; simp [hi0], F.only [10, 9, 0, 8] rfl, M.sub (List.sublist_cons_self _ _)⟩
    · obtain ⟨y, hy0⟩ : ∃ y, y = xs[i - 1]'(by omega) := ⟨_, rfl⟩
      have hym : y ∈ xs := by rw [hy0]; exact List.getElem_mem _
      have hyo := hx y hym
      have g1 : seg cs (o + ((i : Int) - 1).toNat * 20) 20 = some (ovC y) := by rw [hy0]; exact seg_el hle hs (by omega) (by omega)
      have g2 : seg cs (o + ((i : Int) - 1).toNat * 20) 16 = some (ipC y.o.h.rt) := sg_seg g1 (of_rt hyo.1 _ _) (by omega)
      rw [dif_pos (show i - 1 < xs.length by omega), ← hy0] at hvt
      clear g1 hy0
      by_cases c2 : cmpL y.o.h.rt x.o.h.rt < 0
      · refine c_draw 18 F (by kernel_rfl) ?_
        intro w1 hE hok
        have M1 := M.later hE
        refine mK hok rfl rfl (fun a' w' F' E' => o_loadA (M1.later E') (F'.ev rfl) (by repeat (first | exact .here | apply Has.there)) (by first | assumption | rfl) ⟨Ext.refl _ _, rfl⟩) ?_
        (refine mK hok rfl rfl (fun a' w' F' E' => o_call (F'.ev rfl) (F'.evs rfl) (Cal.mono (Cal.to (v' := .bool true) (validOffer_c x hxo _ (hxa.later (M1.later E').ext)) (by rw [c1])) fun _ _ hh => ⟨hh.2, hh.1⟩)) ?_)
        refine mK hok rfl rfl (fun a' w' F' E' => o_not (F'.ev rfl) ⟨Ext.refl _ _, rfl⟩) ?_
        refine mK hok rfl rfl (fun a' w' F' E' => o_move (F'.ev rfl) ⟨Ext.refl _ _, rfl⟩) ?_
        refine mKG hok rfl rfl rfl rfl (fun a' w' F' E' => o_move (F'.ev rfl) ⟨Ext.refl _ _, rfl⟩) ?_
        refine mKG hok rfl rfl rfl rfl (fun a' w' F' E' => o_gtrT (F'.ev rfl) (F'.ev rfl) (by omega) ⟨Ext.refl _ _, rfl⟩) ?_
        refine mKG hok rfl rfl rfl rfl (fun a' w' F' E' => o_move (F'.ev rfl) ⟨Ext.refl _ _, rfl⟩) ?_
        refine mKG hok rfl rfl rfl rfl (fun a' w' F' E' => o_move (F'.ev rfl) ⟨Ext.refl _ _, rfl⟩) ?_
        refine mKG hok rfl rfl rfl rfl (fun a' w' F' E' => o_move (F'.ev rfl) ⟨Ext.refl _ _, rfl⟩) ?_
        refine mKG hok rfl rfl rfl rfl (fun a' w' F' E' => o_sub (F'.ev rfl) (F'.ev rfl) (w_i64 (by omega) (by omega)) ⟨Ext.refl _ _, rfl⟩) ?_
        refine mKG hok rfl rfl rfl rfl (fun a' w' F' E' => o_indexSl (F'.ev rfl) (F'.ev rfl) (by omega) (by omega) ⟨Ext.refl _ _, rfl⟩) ?_
        refine mKG hok rfl rfl rfl rfl (fun a' w' F' E' => o_fieldAddr (F'.ev rfl) ⟨Ext.refl _ _, rfl⟩) ?_
        refine mKG hok rfl rfl rfl rfl (fun a' w' F' E' => o_loadWA (M1.later E') (F'.ev rfl) (by assumption) (by first | assumption | rfl) ⟨Ext.refl _ _, rfl⟩) ?_
        refine mKG hok rfl rfl rfl rfl (fun a' w' F' E' => o_fieldAddr (F'.ev rfl) ⟨Ext.refl _ _, rfl⟩) ?_
        refine mKG hok rfl rfl rfl rfl (fun a' w' F' E' => o_loadA (M1.later E') (F'.ev rfl) (by repeat (first | exact .here | apply Has.there)) (by first | assumption | rfl) ⟨Ext.refl _ _, rfl⟩) ?_
        (refine mKG hok rfl rfl rfl rfl (fun a' w' F' E' => o_call (F'.ev rfl) (F'.evs rfl) (Cal.mono (compareIP_c y.o.h.rt x.o.h.rt hyo.1 hxo.1 _) fun _ _ hh => ⟨hh.2, hh.1⟩)) ?_)
        refine mKG hok rfl rfl rfl rfl (fun a' w' F' E' => o_geqF (F'.ev rfl) (F'.ev rfl) (by omega) ⟨Ext.refl _ _, rfl⟩) ?_
        refine mKG hok rfl rfl rfl rfl (fun a' w' F' E' => o_pickT (F'.ev rfl) (F'.ev rfl) ⟨Ext.refl _ _, rfl⟩) ?_
        (refine mDone rfl rfl ?_; clear F; clear M; intro a w F hE2 hX hTT hDD hPP; have M := M1.later hE2; clear M1; clear hX; clear hE2; clear hok; clear hE; clear hTT; clear hDD; clear hPP; (try dsimp only at F))
        refine stepD rfl F rfl (o_pickF (F.ev rfl) (F.ev rfl) ?_); clear F; clear a; intro a F
        with_reducible refine l_nil ?_
        with_reducible refine q_then ?_
        refine c_false F rfl rfl ?_
        with_reducible refine c_skip ?_
        with_reducible refine q_inB ?_
        with_reducible refine q_then ?_
        with_reducible refine c_region ?_
        refine stepD rfl F rfl (o_add (F.ev rfl) (F.ev rfl) (w_i64 (by omega) (by omega)) ?_); clear F; clear a; intro a F
        refine stepD rfl F rfl (o_move (F.ev rfl) ?_); clear F; clear a; intro a F
        with_reducible refine l_nil ?_
        with_reducible refine q_then ?_
        exact ⟨_, by omega, i + 1, rfl, by omega, fun j hj => by
          rcases Nat.lt_or_ge j i with h1 | h1
          · exact hv j h1
          · obtain rfl : j = i := by omega
            rw [hvt]; simp [c2], F.only [10, 9, 0, 8] rfl, M.sub (List.sublist_cons_self _ _)⟩
      · have : allI (valid1 (xs.map (·.o))) xs.length = false := allI_f hlt (by rw [hvt]; simp [c2]; omega)
        rw [this]
        refine c_draw 18 F (by kernel_rfl) ?_
        intro w1 hE hok
        have M1 := M.later hE
        refine mK hok rfl rfl (fun a' w' F' E' => o_loadA (M1.later E') (F'.ev rfl) (by repeat (first | exact .here | apply Has.there)) (by first | assumption | rfl) ⟨Ext.refl _ _, rfl⟩) ?_
        (refine mK hok rfl rfl (fun a' w' F' E' => o_call (F'.ev rfl) (F'.evs rfl) (Cal.mono (Cal.to (v' := .bool true) (validOffer_c x hxo _ (hxa.later (M1.later E').ext)) (by rw [c1])) fun _ _ hh => ⟨hh.2, hh.1⟩)) ?_)
        refine mK hok rfl rfl (fun a' w' F' E' => o_not (F'.ev rfl) ⟨Ext.refl _ _, rfl⟩) ?_
        refine mK hok rfl rfl (fun a' w' F' E' => o_move (F'.ev rfl) ⟨Ext.refl _ _, rfl⟩) ?_
        refine mKG hok rfl rfl rfl rfl (fun a' w' F' E' => o_move (F'.ev rfl) ⟨Ext.refl _ _, rfl⟩) ?_
        refine mKG hok rfl rfl rfl rfl (fun a' w' F' E' => o_gtrT (F'.ev rfl) (F'.ev rfl) (by omega) ⟨Ext.refl _ _, rfl⟩) ?_
        refine mKG hok rfl rfl rfl rfl (fun a' w' F' E' => o_move (F'.ev rfl) ⟨Ext.refl _ _, rfl⟩) ?_
        refine mKG hok rfl rfl rfl rfl (fun a' w' F' E' => o_move (F'.ev rfl) ⟨Ext.refl _ _, rfl⟩) ?_
        refine mKG hok rfl rfl rfl rfl (fun a' w' F' E' => o_move (F'.ev rfl) ⟨Ext.refl _ _, rfl⟩) ?_
        refine mKG hok rfl rfl rfl rfl (fun a' w' F' E' => o_sub (F'.ev rfl) (F'.ev rfl) (w_i64 (by omega) (by omega)) ⟨Ext.refl _ _, rfl⟩) ?_
        refine mKG hok rfl rfl rfl rfl (fun a' w' F' E' => o_indexSl (F'.ev rfl) (F'.ev rfl) (by omega) (by omega) ⟨Ext.refl _ _, rfl⟩) ?_
        refine mKG hok rfl rfl rfl rfl (fun a' w' F' E' => o_fieldAddr (F'.ev rfl) ⟨Ext.refl _ _, rfl⟩) ?_
        refine mKG hok rfl rfl rfl rfl (fun a' w' F' E' => o_loadWA (M1.later E') (F'.ev rfl) (by assumption) (by first | assumption | rfl) ⟨Ext.refl _ _, rfl⟩) ?_
        refine mKG hok rfl rfl rfl rfl (fun a' w' F' E' => o_fieldAddr (F'.ev rfl) ⟨Ext.refl _ _, rfl⟩) ?_
        refine mKG hok rfl rfl rfl rfl (fun a' w' F' E' => o_loadA (M1.later E') (F'.ev rfl) (by repeat (first | exact .here | apply Has.there)) (by first | assumption | rfl) ⟨Ext.refl _ _, rfl⟩) ?_
        (refine mKG hok rfl rfl rfl rfl (fun a' w' F' E' => o_call (F'.ev rfl) (F'.evs rfl) (Cal.mono (compareIP_c y.o.h.rt x.o.h.rt hyo.1 hxo.1 _) fun _ _ hh => ⟨hh.2, hh.1⟩)) ?_)
        refine mKG hok rfl rfl rfl rfl (fun a' w' F' E' => o_geqT (F'.ev rfl) (F'.ev rfl) (by omega) ⟨Ext.refl _ _, rfl⟩) ?_
        refine mKG hok rfl rfl rfl rfl (fun a' w' F' E' => o_pickT (F'.ev rfl) (F'.ev rfl) ⟨Ext.refl _ _, rfl⟩) ?_
        (refine mDone rfl rfl ?_; clear F; clear M; intro a w F hE2 hX hTT hDD hPP; have M := M1.later hE2; clear M1; clear hX; clear hE2; clear hok; clear hE; clear hTT; clear hDD; clear hPP; (try dsimp only at F))
        refine stepD rfl F rfl (o_pickF (F.ev rfl) (F.ev rfl) ?_); clear F; clear a; intro a F
        with_reducible refine l_nil ?_
        with_reducible refine q_then ?_
        refine c_true F rfl rfl ?_
        with_reducible refine c_seq ?_
        with_reducible refine c_region ?_
        refine stepD rfl F rfl (o_assign (F.ev rfl) ?_); clear F; clear a; intro a F
        with_reducible refine l_nil ?_
        with_reducible refine q_then ?_
        with_reducible refine c_ret ?_
        with_reducible refine q_inBR ?_
        with_reducible refine q_thenR ?_
        with_reducible refine q_thenR ?_
        with_reducible refine q_inBR ?_
        with_reducible refine q_thenR ?_
        refine p_ret F rfl (.cons (.tmp (F.ev rfl)) .nil) ?_
        exact ⟨rfl, M.ext⟩
  · obtain rfl : i = xs.length := by omega
    have : allI (valid1 (xs.map (·.o))) xs.length = true := allI_t hv
    rw [this]
    with_reducible refine c_seq ?_
    with_reducible refine c_region ?_
    refine stepD rfl F rfl (o_lssF (F.ev rfl) (F.ev rfl) (by omega) ?_); clear F; clear a; intro a F
    with_reducible refine l_nil ?_
    with_reducible refine q_then ?_
    with_reducible refine c_seq ?_
    refine c_false F rfl rfl ?_
    with_reducible refine c_exit ?_
    with_reducible refine q_thenX ?_
    with_reducible refine q_thenX ?_
    with_reducible refine q_inBX ?_
    with_reducible refine q_then ?_
    with_reducible refine c_seq ?_
    with_reducible refine c_region ?_
    refine stepD rfl F rfl (o_assign (F.ev rfl) ?_); clear F; clear a; intro a F
    with_reducible refine l_nil ?_
    with_reducible refine q_then ?_
    with_reducible refine c_ret ?_
    refine p_ret F rfl (.cons (.tmp (F.ev rfl)) .nil) ?_
    exact ⟨rfl, M.ext⟩
set_option maxHeartbeats 4000000 in
theorem rvalidL_c (xs : List OV) (hx : ∀ x ∈ xs, IsOff x.o) (v : Value) (W : World) (hS : SlAt W 20 v xs.length (encL ovC xs)) (hA : ∀ x ∈ xs, OffAt W x) :
    Cal Try.prog 69 [v].toArray W fun r w' => r = .bool (validL (xs.map (·.o))) ∧ Ext [] W w' := by
  obtain ⟨q, cap, rfl, hcap, hsp, hl, hm⟩ := hS
  unfold validL
  rw [List.length_map]
  have hle : ∀ x ∈ xs, (ovC x).length = 20 := fun x h => ov_len (hx x h)
  by_cases c0 : 8 < xs.length
  · rw [decide_eq_false (by omega), Bool.false_and]
    refine fn_ofM (n := 38) [] Try.func69 rfl rfl rfl ?_
    intro a w F M hwW
    with_reducible refine c_seq ?_
    with_reducible refine c_region ?_
    refine stepD rfl F rfl (o_assign (F.ev rfl) ?_); clear F; clear a; intro a F
    with_reducible refine l_nil ?_
    with_reducible refine q_then ?_
    with_reducible refine c_seq ?_
    with_reducible refine c_seq ?_
    with_reducible refine c_region ?_
    refine stepD rfl F rfl (o_move (F.ev rfl) ?_); clear F; clear a; intro a F
    refine stepD rfl F rfl (o_lenSl (F.ev rfl) ?_); clear F; clear a; intro a F
    refine stepD rfl F rfl (o_gtrT (F.ev rfl) (F.ev rfl) (by omega) ?_); clear F; clear a; intro a F
    with_reducible refine l_nil ?_
    with_reducible refine q_then ?_
    refine c_true F rfl rfl ?_
    with_reducible refine c_seq ?_
    with_reducible refine c_region ?_
    refine stepD rfl F rfl (o_assign (F.ev rfl) ?_); clear F; clear a; intro a F
    with_reducible refine l_nil ?_
    with_reducible refine q_then ?_
    with_reducible refine c_ret ?_
    with_reducible refine q_thenR ?_
    refine p_ret F rfl (.cons (.tmp (F.ev rfl)) .nil) ?_
    exact ⟨rfl, M.ext⟩
  rw [decide_eq_true (show xs.length ≤ 8 by omega), Bool.true_and]
  refine fn_ofM (n := 38) [] Try.func69 rfl rfl rfl ?_
  intro a w F M hwW
  with_reducible refine c_seq ?_
  with_reducible refine c_region ?_
  refine stepD rfl F rfl (o_assign (F.ev rfl) ?_); clear F; clear a; intro a F
  with_reducible refine l_nil ?_
  with_reducible refine q_then ?_
  with_reducible refine c_seq ?_
  with_reducible refine c_seq ?_
  with_reducible refine c_region ?_
  refine stepD rfl F rfl (o_move (F.ev rfl) ?_); clear F; clear a; intro a F
  refine stepD rfl F rfl (o_lenSl (F.ev rfl) ?_); clear F; clear a; intro a F
  refine stepD rfl F rfl (o_gtrF (F.ev rfl) (F.ev rfl) (by omega) ?_); clear F; clear a; intro a F
  with_reducible refine l_nil ?_
  with_reducible refine q_then ?_
  refine c_false F rfl rfl ?_
  with_reducible refine c_skip ?_
  with_reducible refine q_then ?_
  with_reducible refine c_seq ?_
  with_reducible refine c_seq ?_
  with_reducible refine c_region ?_
  refine stepD rfl F rfl (o_move (F.ev rfl) ?_); clear F; clear a; intro a F
  refine stepD rfl F rfl (o_lenSl (F.ev rfl) ?_); clear F; clear a; intro a F
  refine stepD rfl F rfl (o_move (F.ev rfl) ?_); clear F; clear a; intro a F
  with_reducible refine l_nil ?_
  with_reducible refine q_then ?_
  with_reducible refine c_block ?_
  refine c_loop (fun m a w => ∃ i : Nat, m = xs.length - i ∧ i ≤ xs.length ∧ (∀ j, j < i → valid1 (xs.map (·.o)) j = true) ∧ Frm a 38 [] [(9, .int .i64 i), (8, .int .i64 xs.length), (0, .slice q xs.length cap)] ∧ Mem [] W w []) xs.length ⟨0, rfl, by omega, by omega, F.only [9, 8, 0] rfl, M⟩ ?_
  clear F M
  rintro m a w ⟨i, hm', hi, hv, F, M⟩
  by_cases hlt : i < xs.length
  · obtain ⟨b, o, cs, t, fz, rfl, hb, hs⟩ := hm (by omega)
    obtain ⟨x, hx0⟩ : ∃ x, x = xs[i] := ⟨_, rfl⟩
    have hxm : x ∈ xs := by rw [hx0]; exact List.getElem_mem hlt
    have hxo := hx x hxm
    have hxa := hA x hxm
    have f1 : seg cs (o + (i : Int).toNat * 20) 20 = some (ovC x) := by rw [hx0]; exact seg_el hle hs hlt (by omega)
    have f2 : (ovC x).length = 20 := ov_len hxo
    have f3 : seg (ovC x) 0 16 = some (ipC x.o.h.rt) := of_rt hxo.1 _ _
    have f4 : seg (ovC x) 0 20 = some (ovC x) := of_all hxo.1 _ _
    have f5 : seg cs (o + (i : Int).toNat * 20) 16 = some (ipC x.o.h.rt) := sg_seg f1 f3 (by omega)
    have hvt := valid1_at hlt
    rw [← hx0] at hvt
    with_reducible refine c_seq ?_
    with_reducible refine c_region ?_
    refine stepD rfl F rfl (o_lssT (F.ev rfl) (F.ev rfl) (by omega) ?_); clear F; clear a; intro a F
    with_reducible refine l_nil ?_
    with_reducible refine q_then ?_
    with_reducible refine c_seq ?_
    refine c_true F rfl rfl ?_
    with_reducible refine c_skip ?_
    with_reducible refine q_then ?_
    with_reducible refine c_seq ?_
    with_reducible refine c_block ?_
    with_reducible refine c_seq ?_
    with_reducible refine c_region ?_
    refine stepD rfl F rfl (o_move (F.ev rfl) ?_); clear F; clear a; intro a F
    refine stepD rfl F rfl (o_assign (F.ev rfl) ?_); clear F; clear a; intro a F
    with_reducible refine l_nil ?_
    with_reducible refine q_then ?_
    with_reducible refine c_seq ?_
    replace F := F.only [9, 8, 0, 3] rfl
    cases c1 : validO x.o
    · have : allI (valid1 (xs.map (·.o))) xs.length = false := allI_f hlt (by rw [hvt, c1]; rfl)
      rw [this]
      refine c_draw 24 F (by kernel_rfl) ?_
      intro w1 hE hok
      have M1 := M.later hE
      refine mK hok rfl rfl (fun a' w' F' E' => o_move (F'.ev rfl) ⟨Ext.refl _ _, rfl⟩) ?_
      refine mK hok rfl rfl (fun a' w' F' E' => o_move (F'.ev rfl) ⟨Ext.refl _ _, rfl⟩) ?_
      refine mK hok rfl rfl (fun a' w' F' E' => o_indexSl (F'.ev rfl) (F'.ev rfl) (by omega) (by omega) ⟨Ext.refl _ _, rfl⟩) ?_
      refine mK hok rfl rfl (fun a' w' F' E' => o_loadWA (M1.later E') (F'.ev rfl) (by assumption) (by first | assumption | rfl) ⟨Ext.refl _ _, rfl⟩) ?_
      (refine mK hok rfl rfl (fun a' w' F' E' => o_call (F'.ev rfl) (F'.evs rfl) (Cal.mono (Cal.to (v' := .bool false) (rvalidOffer_c x hxo _ (hxa.later (M1.later E').ext)) (by rw [c1])) fun _ _ hh => ⟨hh.2, hh.1⟩)) ?_)
      refine mK hok rfl rfl (fun a' w' F' E' => o_not (F'.ev rfl) ⟨Ext.refl _ _, rfl⟩) ?_
      refine mK hok rfl rfl (fun a' w' F' E' => o_move (F'.ev rfl) ⟨Ext.refl _ _, rfl⟩) ?_
      refine mOff hok rfl rfl rfl rfl rfl ?_
      refine mOff hok rfl rfl rfl rfl rfl ?_
      refine mOff hok rfl rfl rfl rfl rfl ?_
      refine mOff hok rfl rfl rfl rfl rfl ?_
      refine mOff hok rfl rfl rfl rfl rfl ?_
      refine mOff hok rfl rfl rfl rfl rfl ?_
      refine mOff hok rfl rfl rfl rfl rfl ?_
      refine mOff hok rfl rfl rfl rfl rfl ?_
      refine mOff hok rfl rfl rfl rfl rfl ?_
      refine mOff hok rfl rfl rfl rfl rfl ?_
      refine mOff hok rfl rfl rfl rfl rfl ?_
      refine mOff hok rfl rfl rfl rfl rfl ?_
      refine mOff hok rfl rfl rfl rfl rfl ?_
      refine mOff hok rfl rfl rfl rfl rfl ?_
      refine mOff hok rfl rfl rfl rfl rfl ?_
      refine mOff hok rfl rfl rfl rfl rfl ?_
      refine mOff hok rfl rfl rfl rfl rfl ?_
      (refine mDone rfl rfl ?_; clear F; clear M; intro a w F hE2 hX hTT hDD hPP; have M := M1.later hE2; clear M1; clear hX; clear hE2; clear hok; clear hE; clear hTT; clear hDD; clear hPP; (try dsimp only at F))
      refine stepD rfl F rfl (o_pickT (F.ev rfl) (F.ev rfl) ?_); clear F; clear a; intro a F
      with_reducible refine l_nil ?_
      with_reducible refine q_then ?_
      refine c_true F rfl rfl ?_
      with_reducible refine c_seq ?_
      with_reducible refine c_region ?_
      refine stepD rfl F rfl (o_assign (F.ev rfl) ?_); clear F; clear a; intro a F
      with_reducible refine l_nil ?_
      with_reducible refine q_then ?_
      with_reducible refine c_ret ?_
      with_reducible refine q_inBR ?_
      with_reducible refine q_thenR ?_
      with_reducible refine q_thenR ?_
      with_reducible refine q_inBR ?_
      with_reducible refine q_thenR ?_
      refine p_ret F rfl (.cons (.tmp (F.ev rfl)) .nil) ?_
      exact ⟨rfl, M.ext⟩
    rw [c1, Bool.true_and] at hvt
    rcases Nat.eq_zero_or_pos i with hi0 | hi0
    · refine c_draw 24 F (by kernel_rfl) ?_
      intro w1 hE hok
      have M1 := M.later hE
      refine mK hok rfl rfl (fun a' w' F' E' => o_move (F'.ev rfl) ⟨Ext.refl _ _, rfl⟩) ?_
      refine mK hok rfl rfl (fun a' w' F' E' => o_move (F'.ev rfl) ⟨Ext.refl _ _, rfl⟩) ?_
      refine mK hok rfl rfl (fun a' w' F' E' => o_indexSl (F'.ev rfl) (F'.ev rfl) (by omega) (by omega) ⟨Ext.refl _ _, rfl⟩) ?_
      refine mK hok rfl rfl (fun a' w' F' E' => o_loadWA (M1.later E') (F'.ev rfl) (by assumption) (by first | assumption | rfl) ⟨Ext.refl _ _, rfl⟩) ?_
      (refine mK hok rfl rfl (fun a' w' F' E' => o_call (F'.ev rfl) (F'.evs rfl) (Cal.mono (Cal.to (v' := .bool true) (rvalidOffer_c x hxo _ (hxa.later (M1.later E').ext)) (by rw [c1])) fun _ _ hh => ⟨hh.2, hh.1⟩)) ?_)
      refine mK hok rfl rfl (fun a' w' F' E' => o_not (F'.ev rfl) ⟨Ext.refl _ _, rfl⟩) ?_
      refine mK hok rfl rfl (fun a' w' F' E' => o_move (F'.ev rfl) ⟨Ext.refl _ _, rfl⟩) ?_
      refine mKG hok rfl rfl rfl rfl (fun a' w' F' E' => o_move (F'.ev rfl) ⟨Ext.refl _ _, rfl⟩) ?_
      refine mKG hok rfl rfl rfl rfl (fun a' w' F' E' => o_gtrF (F'.ev rfl) (F'.ev rfl) (by omega) ⟨Ext.refl _ _, rfl⟩) ?_
      refine mKG hok rfl rfl rfl rfl (fun a' w' F' E' => o_move (F'.ev rfl) ⟨Ext.refl _ _, rfl⟩) ?_
      refine mOff hok rfl rfl rfl rfl rfl ?_
      refine mOff hok rfl rfl rfl rfl rfl ?_
      refine mOff hok rfl rfl rfl rfl rfl ?_
      refine mOff hok rfl rfl rfl rfl rfl ?_
      refine mOff hok rfl rfl rfl rfl rfl ?_
      refine mOff hok rfl rfl rfl rfl rfl ?_
      refine mOff hok rfl rfl rfl rfl rfl ?_
      refine mOff hok rfl rfl rfl rfl rfl ?_
      refine mOff hok rfl rfl rfl rfl rfl ?_
      refine mOff hok rfl rfl rfl rfl rfl ?_
      refine mOff hok rfl rfl rfl rfl rfl ?_
      refine mOff hok rfl rfl rfl rfl rfl ?_
      refine mOff hok rfl rfl rfl rfl rfl ?_
      refine mKG hok rfl rfl rfl rfl (fun a' w' F' E' => o_pickF (F'.ev rfl) (F'.ev rfl) ⟨Ext.refl _ _, rfl⟩) ?_
      (refine mDone rfl rfl ?_; clear F; clear M; intro a w F hE2 hX hTT hDD hPP; have M := M1.later hE2; clear M1; clear hX; clear hE2; clear hok; clear hE; clear hTT; clear hDD; clear hPP; (try dsimp only at F))
      refine stepD rfl F rfl (o_pickF (F.ev rfl) (F.ev rfl) ?_); clear F; clear a; intro a F
      with_reducible refine l_nil ?_
      with_reducible refine q_then ?_
      refine c_false F rfl rfl ?_
      with_reducible refine c_skip ?_
      with_reducible refine q_inB ?_
      with_reducible refine q_then ?_
      with_reducible refine c_region ?_
      refine stepD rfl F rfl (o_add (F.ev rfl) (F.ev rfl) (w_i64 (by omega) (by omega)) ?_); clear F; clear a; intro a F
      refine stepD rfl F rfl (o_move (F.ev rfl) ?_); clear F; clear a; intro a F
      with_reducible refine l_nil ?_
      with_reducible refine q_then ?_
      exact ⟨_, by omega, i + 1, rfl, by omega, fun j hj => by
        rcases Nat.lt_or_ge j i with h1 | h1
        · exact hv j h1
        · obtain rfl : j = i := by omega
          rw [hvt]; simp [hi0], F.only [9, 8, 0] rfl, M⟩
    · obtain ⟨y, hy0⟩ : ∃ y, y = xs[i - 1]'(by omega) := ⟨_, rfl⟩
      have hym : y ∈ xs := by rw [hy0]; exact List.getElem_mem _
      have hyo := hx y hym
      have g1 : seg cs (o + ((i : Int) - 1).toNat * 20) 20 = some (ovC y) := by rw [hy0]; exact seg_el hle hs (by omega) (by omega)
      have g2 : seg cs (o + ((i : Int) - 1).toNat * 20) 16 = some (ipC y.o.h.rt) := sg_seg g1 (of_rt hyo.1 _ _) (by omega)
      rw [dif_pos (show i - 1 < xs.length by omega), ← hy0] at hvt
      clear g1 hy0
      by_cases c2 : cmpL y.o.h.rt x.o.h.rt < 0
      · refine c_draw 24 F (by kernel_rfl) ?_
        intro w1 hE hok
        have M1 := M.later hE
        refine mK hok rfl rfl (fun a' w' F' E' => o_move (F'.ev rfl) ⟨Ext.refl _ _, rfl⟩) ?_
        refine mK hok rfl rfl (fun a' w' F' E' => o_move (F'.ev rfl) ⟨Ext.refl _ _, rfl⟩) ?_
        refine mK hok rfl rfl (fun a' w' F' E' => o_indexSl (F'.ev rfl) (F'.ev rfl) (by omega) (by omega) ⟨Ext.refl _ _, rfl⟩) ?_
        refine mK hok rfl rfl (fun a' w' F' E' => o_loadWA (M1.later E') (F'.ev rfl) (by assumption) (by first | assumption | rfl) ⟨Ext.refl _ _, rfl⟩) ?_
        (refine mK hok rfl rfl (fun a' w' F' E' => o_call (F'.ev rfl) (F'.evs rfl) (Cal.mono (Cal.to (v' := .bool true) (rvalidOffer_c x hxo _ (hxa.later (M1.later E').ext)) (by rw [c1])) fun _ _ hh => ⟨hh.2, hh.1⟩)) ?_)
        refine mK hok rfl rfl (fun a' w' F' E' => o_not (F'.ev rfl) ⟨Ext.refl _ _, rfl⟩) ?_
        refine mK hok rfl rfl (fun a' w' F' E' => o_move (F'.ev rfl) ⟨Ext.refl _ _, rfl⟩) ?_
        refine mKG hok rfl rfl rfl rfl (fun a' w' F' E' => o_move (F'.ev rfl) ⟨Ext.refl _ _, rfl⟩) ?_
        refine mKG hok rfl rfl rfl rfl (fun a' w' F' E' => o_gtrT (F'.ev rfl) (F'.ev rfl) (by omega) ⟨Ext.refl _ _, rfl⟩) ?_
        refine mKG hok rfl rfl rfl rfl (fun a' w' F' E' => o_move (F'.ev rfl) ⟨Ext.refl _ _, rfl⟩) ?_
        refine mKG hok rfl rfl rfl rfl (fun a' w' F' E' => o_move (F'.ev rfl) ⟨Ext.refl _ _, rfl⟩) ?_
        refine mKG hok rfl rfl rfl rfl (fun a' w' F' E' => o_move (F'.ev rfl) ⟨Ext.refl _ _, rfl⟩) ?_
        refine mKG hok rfl rfl rfl rfl (fun a' w' F' E' => o_sub (F'.ev rfl) (F'.ev rfl) (w_i64 (by omega) (by omega)) ⟨Ext.refl _ _, rfl⟩) ?_
        refine mKG hok rfl rfl rfl rfl (fun a' w' F' E' => o_indexSl (F'.ev rfl) (F'.ev rfl) (by omega) (by omega) ⟨Ext.refl _ _, rfl⟩) ?_
        refine mKG hok rfl rfl rfl rfl (fun a' w' F' E' => o_fieldAddr (F'.ev rfl) ⟨Ext.refl _ _, rfl⟩) ?_
        refine mKG hok rfl rfl rfl rfl (fun a' w' F' E' => o_loadWA (M1.later E') (F'.ev rfl) (by assumption) (by first | assumption | rfl) ⟨Ext.refl _ _, rfl⟩) ?_
        refine mKG hok rfl rfl rfl rfl (fun a' w' F' E' => o_move (F'.ev rfl) ⟨Ext.refl _ _, rfl⟩) ?_
        refine mKG hok rfl rfl rfl rfl (fun a' w' F' E' => o_move (F'.ev rfl) ⟨Ext.refl _ _, rfl⟩) ?_
        refine mKG hok rfl rfl rfl rfl (fun a' w' F' E' => o_indexSl (F'.ev rfl) (F'.ev rfl) (by omega) (by omega) ⟨Ext.refl _ _, rfl⟩) ?_
        refine mKG hok rfl rfl rfl rfl (fun a' w' F' E' => o_fieldAddr (F'.ev rfl) ⟨Ext.refl _ _, rfl⟩) ?_
        refine mKG hok rfl rfl rfl rfl (fun a' w' F' E' => o_loadWA (M1.later E') (F'.ev rfl) (by assumption) (by first | assumption | rfl) ⟨Ext.refl _ _, rfl⟩) ?_
        (refine mKG hok rfl rfl rfl rfl (fun a' w' F' E' => o_call (F'.ev rfl) (F'.evs rfl) (Cal.mono (rcompareIP_c y.o.h.rt x.o.h.rt hyo.1 hxo.1 _) fun _ _ hh => ⟨hh.2, hh.1⟩)) ?_)
        refine mKG hok rfl rfl rfl rfl (fun a' w' F' E' => o_geqF (F'.ev rfl) (F'.ev rfl) (by omega) ⟨Ext.refl _ _, rfl⟩) ?_
        refine mKG hok rfl rfl rfl rfl (fun a' w' F' E' => o_pickT (F'.ev rfl) (F'.ev rfl) ⟨Ext.refl _ _, rfl⟩) ?_
        (refine mDone rfl rfl ?_; clear F; clear M; intro a w F hE2 hX hTT hDD hPP; have M := M1.later hE2; clear M1; clear hX; clear hE2; clear hok; clear hE; clear hTT; clear hDD; clear hPP; (try dsimp only at F))
        refine stepD rfl F rfl (o_pickF (F.ev rfl) (F.ev rfl) ?_); clear F; clear a; intro a F
        with_reducible refine l_nil ?_
        with_reducible refine q_then ?_
        refine c_false F rfl rfl ?_
        with_reducible refine c_skip ?_
        with_reducible refine q_inB ?_
        with_reducible refine q_then ?_
        with_reducible refine c_region ?_
        refine stepD rfl F rfl (o_add (F.ev rfl) (F.ev rfl) (w_i64 (by omega) (by omega)) ?_); clear F; clear a; intro a F
        refine stepD rfl F rfl (o_move (F.ev rfl) ?_); clear F; clear a; intro a F
        with_reducible refine l_nil ?_
        with_reducible refine q_then ?_
        exact ⟨_, by omega, i + 1, rfl, by omega, fun j hj => by
          rcases Nat.lt_or_ge j i with h1 | h1
          · exact hv j h1
          · obtain rfl : j = i := by omega
            rw [hvt]; simp [c2], F.only [9, 8, 0] rfl, M⟩
      · have : allI (valid1 (xs.map (·.o))) xs.length = false := allI_f hlt (by rw [hvt]; simp [c2]; omega)
        rw [this]
        refine c_draw 24 F (by kernel_rfl) ?_
        intro w1 hE hok
        have M1 := M.later hE
        refine mK hok rfl rfl (fun a' w' F' E' => o_move (F'.ev rfl) ⟨Ext.refl _ _, rfl⟩) ?_
        refine mK hok rfl rfl (fun a' w' F' E' => o_move (F'.ev rfl) ⟨Ext.refl _ _, rfl⟩) ?_
        refine mK hok rfl rfl (fun a' w' F' E' => o_indexSl (F'.ev rfl) (F'.ev rfl) (by omega) (by omega) ⟨Ext.refl _ _, rfl⟩) ?_
        refine mK hok rfl rfl (fun a' w' F' E' => o_loadWA (M1.later E') (F'.ev rfl) (by assumption) (by first | assumption | rfl) ⟨Ext.refl _ _, rfl⟩) ?_
        (refine mK hok rfl rfl (fun a' w' F' E' => o_call (F'.ev rfl) (F'.evs rfl) (Cal.mono (Cal.to (v' := .bool true) (rvalidOffer_c x hxo _ (hxa.later (M1.later E').ext)) (by rw [c1])) fun _ _ hh => ⟨hh.2, hh.1⟩)) ?_)
        refine mK hok rfl rfl (fun a' w' F' E' => o_not (F'.ev rfl) ⟨Ext.refl _ _, rfl⟩) ?_
        refine mK hok rfl rfl (fun a' w' F' E' => o_move (F'.ev rfl) ⟨Ext.refl _ _, rfl⟩) ?_
        refine mKG hok rfl rfl rfl rfl (fun a' w' F' E' => o_move (F'.ev rfl) ⟨Ext.refl _ _, rfl⟩) ?_
        refine mKG hok rfl rfl rfl rfl (fun a' w' F' E' => o_gtrT (F'.ev rfl) (F'.ev rfl) (by omega) ⟨Ext.refl _ _, rfl⟩) ?_
        refine mKG hok rfl rfl rfl rfl (fun a' w' F' E' => o_move (F'.ev rfl) ⟨Ext.refl _ _, rfl⟩) ?_
        refine mKG hok rfl rfl rfl rfl (fun a' w' F' E' => o_move (F'.ev rfl) ⟨Ext.refl _ _, rfl⟩) ?_
        refine mKG hok rfl rfl rfl rfl (fun a' w' F' E' => o_move (F'.ev rfl) ⟨Ext.refl _ _, rfl⟩) ?_
        refine mKG hok rfl rfl rfl rfl (fun a' w' F' E' => o_sub (F'.ev rfl) (F'.ev rfl) (w_i64 (by omega) (by omega)) ⟨Ext.refl _ _, rfl⟩) ?_
        refine mKG hok rfl rfl rfl rfl (fun a' w' F' E' => o_indexSl (F'.ev rfl) (F'.ev rfl) (by omega) (by omega) ⟨Ext.refl _ _, rfl⟩) ?_
        refine mKG hok rfl rfl rfl rfl (fun a' w' F' E' => o_fieldAddr (F'.ev rfl) ⟨Ext.refl _ _, rfl⟩) ?_
        refine mKG hok rfl rfl rfl rfl (fun a' w' F' E' => o_loadWA (M1.later E') (F'.ev rfl) (by assumption) (by first | assumption | rfl) ⟨Ext.refl _ _, rfl⟩) ?_
        refine mKG hok rfl rfl rfl rfl (fun a' w' F' E' => o_move (F'.ev rfl) ⟨Ext.refl _ _, rfl⟩) ?_
        refine mKG hok rfl rfl rfl rfl (fun a' w' F' E' => o_move (F'.ev rfl) ⟨Ext.refl _ _, rfl⟩) ?_
        refine mKG hok rfl rfl rfl rfl (fun a' w' F' E' => o_indexSl (F'.ev rfl) (F'.ev rfl) (by omega) (by omega) ⟨Ext.refl _ _, rfl⟩) ?_
        refine mKG hok rfl rfl rfl rfl (fun a' w' F' E' => o_fieldAddr (F'.ev rfl) ⟨Ext.refl _ _, rfl⟩) ?_
        refine mKG hok rfl rfl rfl rfl (fun a' w' F' E' => o_loadWA (M1.later E') (F'.ev rfl) (by assumption) (by first | assumption | rfl) ⟨Ext.refl _ _, rfl⟩) ?_
        (refine mKG hok rfl rfl rfl rfl (fun a' w' F' E' => o_call (F'.ev rfl) (F'.evs rfl) (Cal.mono (rcompareIP_c y.o.h.rt x.o.h.rt hyo.1 hxo.1 _) fun _ _ hh => ⟨hh.2, hh.1⟩)) ?_)
        refine mKG hok rfl rfl rfl rfl (fun a' w' F' E' => o_geqT (F'.ev rfl) (F'.ev rfl) (by omega) ⟨Ext.refl _ _, rfl⟩) ?_
        refine mKG hok rfl rfl rfl rfl (fun a' w' F' E' => o_pickT (F'.ev rfl) (F'.ev rfl) ⟨Ext.refl _ _, rfl⟩) ?_
        (refine mDone rfl rfl ?_; clear F; clear M; intro a w F hE2 hX hTT hDD hPP; have M := M1.later hE2; clear M1; clear hX; clear hE2; clear hok; clear hE; clear hTT; clear hDD; clear hPP; (try dsimp only at F))
        refine stepD rfl F rfl (o_pickF (F.ev rfl) (F.ev rfl) ?_); clear F; clear a; intro a F
        with_reducible refine l_nil ?_
        with_reducible refine q_then ?_
        refine c_true F rfl rfl ?_
        with_reducible refine c_seq ?_
        with_reducible refine c_region ?_
        refine stepD rfl F rfl (o_assign (F.ev rfl) ?_); clear F; clear a; intro a F
        with_reducible refine l_nil ?_
        with_reducible refine q_then ?_
        with_reducible refine c_ret ?_
        with_reducible refine q_inBR ?_
        with_reducible refine q_thenR ?_
        with_reducible refine q_thenR ?_
        with_reducible refine q_inBR ?_
        with_reducible refine q_thenR ?_
        refine p_ret F rfl (.cons (.tmp (F.ev rfl)) .nil) ?_
        exact ⟨rfl, M.ext⟩
  · obtain rfl : i = xs.length := by omega
    have : allI (valid1 (xs.map (·.o))) xs.length = true := allI_t hv
    rw [this]
    with_reducible refine c_seq ?_
    with_reducible refine c_region ?_
    refine stepD rfl F rfl (o_lssF (F.ev rfl) (F.ev rfl) (by omega) ?_); clear F; clear a; intro a F
    with_reducible refine l_nil ?_
    with_reducible refine q_then ?_
    with_reducible refine c_seq ?_
    refine c_false F rfl rfl ?_
    with_reducible refine c_exit ?_
    with_reducible refine q_thenX ?_
    with_reducible refine q_thenX ?_
    with_reducible refine q_inBX ?_
    with_reducible refine q_then ?_
    with_reducible refine c_seq ?_
    with_reducible refine c_region ?_
    refine stepD rfl F rfl (o_assign (F.ev rfl) ?_); clear F; clear a; intro a F
    with_reducible refine l_nil ?_
    with_reducible refine q_then ?_
    with_reducible refine c_ret ?_
    refine p_ret F rfl (.cons (.tmp (F.ev rfl)) .nil) ?_
    exact ⟨rfl, M.ext⟩
end Go.Proofs.Ytainnefmobfcjaa
/-! LibR -/
namespace Go.Proofs.Ytainnefmobfcjaa
set_option linter.unusedVariables false
set_option linter.unusedSimpArgs false
open Go.RowKit
/-- Of what lies below n0 only the blocks B are turned; what lies above keeps its kind and length. -/
structure Sh (n0 : Nat) (B : List Nat) (w w' : World) : Prop where
  os : w'.os = w.os
  tape : w'.tape = w.tape
  output : w'.output = w.output
  size : w.heap.size ≤ w'.heap.size
  dr : w.drawn ≤ w'.drawn
  old : ∀ k, k < n0 → k < w.heap.size → k ∉ B → w'.heap[k]? = w.heap[k]?
  new : ∀ k cs t, n0 ≤ k → w.heap[k]? = some (.cells cs t (0, 0)) → ∃ cs', w'.heap[k]? = some (.cells cs' t (0, 0)) ∧ cs'.size = cs.size
theorem Sh.of_ext {n0 : Nat} {B : List Nat} {w w' : World} (h : Ext [] w w') : Sh n0 B w w' :=
  ⟨h.os, h.tape, h.output, h.size, h.dr, fun k _ hk _ => h.block k hk (by simp), fun k cs t _ hb => ⟨cs, by rw [h.block k (Array.getElem?_eq_some_iff.1 hb).1 (by simp)]; exact hb, rfl⟩⟩
theorem Sh.trans {n0 : Nat} {B : List Nat} {a b c : World} (h : Sh n0 B a b) (k : Sh n0 B b c) : Sh n0 B a c :=
  ⟨k.os.trans h.os, k.tape.trans h.tape, k.output.trans h.output, Nat.le_trans h.size k.size, Nat.le_trans h.dr k.dr, fun i hi hs hb => (k.old i hi (Nat.lt_of_lt_of_le hs h.size) hb).trans (h.old i hi hs hb), fun i cs t hn hb => by
    obtain ⟨cs1, h1, h2⟩ := h.new i cs t hn hb
    obtain ⟨cs2, h3, h4⟩ := k.new i cs1 t hn h1
    exact ⟨cs2, h3, h4.trans h2⟩⟩
def keepSh (n0 : Nat) (B : List Nat) : Keep := ⟨Ext [], Sh n0 B, fun w => Ext.refl [] w, Sh.of_ext, Sh.trans, fun h => h.size⟩
theorem Sh.ext {B : List Nat} {w w' : World} (h : Sh w.heap.size B w w') : Ext B w w' := ⟨h.os, h.tape, h.output, h.size, h.dr, fun k hk hb => h.old k hk hk hb⟩
/-- a pointer to a new block of this kind and length -/
def AlS (n0 : Nat) (t : TypeId) (len : Nat) : Pred := fun v w => ∃ b cs, v = ptrTo b ∧ n0 ≤ b ∧ w.heap[b]? = some (.cells cs t (0, 0)) ∧ cs.size = len
theorem AlS.stays (n0 : Nat) (B : List Nat) (t : TypeId) (len : Nat) : Stays (keepSh n0 B) (AlS n0 t len) := fun v w w' ⟨b, cs, h1, h2, h3, h4⟩ h => by
  obtain ⟨cs', h5, h6⟩ := Sh.new h b cs t h2 h3
  exact ⟨b, cs', h1, h2, h5, h6.trans h4⟩
section
variable {c : RC} {fr : List (Nat × Value)} {Vs : List Pred} {T T' : SPred} {rest : List Oper} {d : Nat} {op : Op} {ty : TypeId} {pos : String} {af : Array Edge} {ix : Nat}
end
section
variable {P : Program} {ρ : Operand → Value} {w : World} {R : Value → World → Prop} {d : Option Tmp} {ty : TypeId} {pos : String} {af : Array Edge} {g : Option (Nat × Bool)}
/-- a load out of a block that is known to lie there -/
theorem o_loadHA {t : TypeId} {x : Operand} {b off n : Nat} {cs : List Value} {t' : TypeId} {fz : Nat × Nat} {vs : List Value} [ht : TAgg P t n] (hx : ρ x = .pointer (some ⟨b, off, none⟩)) (hb : w.heap[b]? = some (.cells cs.toArray t' fz)) (hv : seg cs off n = some vs) (h : R (.agg vs.toArray) w) : OpTo P ⟨d, .load t x, ty, pos, af, g⟩ ρ w R :=
  o_load hx (run_loadVar_agg ht.h hb (by simpa using hv)) h
theorem o_loadH1 {t : TypeId} {x : Operand} {b off : Nat} {cs : List Value} {t' : TypeId} {fz : Nat × Nat} {v : Value} [ht : TOne P t] (hx : ρ x = .pointer (some ⟨b, off, none⟩)) (hb : w.heap[b]? = some (.cells cs.toArray t' fz)) (hv : nth cs off = some v) (h : R v w) : OpTo P ⟨d, .load t x, ty, pos, af, g⟩ ρ w R :=
  o_load hx (run_loadVar_one ht.h (cell_at hb (by rw [nth_spec] at hv; simpa using hv))) h
end
end Go.Proofs.Ytainnefmobfcjaa
/-! E2 -/
namespace Go.Proofs.Ytainnefmobfcjaa
set_option linter.unusedVariables false
set_option linter.unusedSimpArgs false
open Go.RowKit
attribute [local irreducible] OpTo wpListIn Code.wpIn MW Cal
theorem put_mid {A B C Y : List Value} {off : Nat} (ho : off = A.length) (hl : B.length = Y.length) : put (A ++ (B ++ C)) off Y = some (A ++ (Y ++ C)) := by
  subst ho
  rw [put_of _ _ _ (by simp; omega), splice]
  congr 1
  rw [List.take_left' rfl, List.drop_append, List.drop_eq_nil_of_le (by omega), List.nil_append, show A.length + Y.length - A.length = Y.length by omega, ← hl, List.drop_left' rfl]
theorem seg_mid {A B C : List Value} {off n : Nat} (ho : off = A.length) (hn : n = B.length) : seg (A ++ (B ++ C)) off n = some B := by
  subst ho; subst hn; exact seg_of A B C
theorem cut_at (xs : List Value) (k : Nat) (h : k ≤ xs.length) : ∃ A B, xs = A ++ B ∧ A.length = k := ⟨xs.take k, xs.drop k, (List.take_append_drop k xs).symm, by simp [h]⟩
theorem Has.app {l : List (Nat × Obj)} {b : Nat} {o : Obj} (h : Has l b o) : ∀ q : List (Nat × Obj), Has (q ++ l) b o
  | [] => h
  | _ :: q => .there (h.app q)
theorem has_other {lr : List (Nat × Obj)} {b vb : Nat} {o o' o2 : Obj} (h : Has (lr ++ [(b, o)]) vb o2) (hne : vb ≠ b) : Has (lr ++ [(b, o')]) vb o2 := by
  induction lr with
  | nil =>
    cases h with
    | here => exact absurd rfl hne
    | there h => cases h
  | cons p lr ih =>
    cases h with
    | here => exact .here
    | there h => exact .there (ih h)
end Go.Proofs.Ytainnefmobfcjaa
/-! F4 -/
namespace Go.Proofs.Ytainnefmobfcjaa
set_option linter.unusedVariables false
set_option linter.unusedSimpArgs false
open Go.RowKit
attribute [local irreducible] OpTo wpListIn Code.wpIn MW Cal
set_option maxHeartbeats 4000000 in
theorem insertOf_c {v : Value} {n : Nat} {xs : List Value} {ent : List (Nat × Obj)} (i : Nat) (hi : i ≤ n) {vb : Nat} (ys : List Value) (hys : ys.length = 20) (h1x : xs.all (·.oneCell') = true) (h1y : ys.all (·.oneCell') = true) (W : World) {S : List Nat} {W0 : World} {l : List (Nat × Obj)} {f : List (Nat × Obj) → List (Nat × Obj)}
    (M : Mem S W0 W l) (hO : OwnS 58 20 v n xs ent) (hl : TailAt ent l f) (hv : Has l vb (.cells ys.toArray 58 (0, 0))) (hne : ∀ p ∈ ent, p.1 ≠ vb) (hn : n ≤ 100000) :
    Cal Try.prog 58 [v, .int .i64 i, .slice (some ⟨vb, 0, none⟩) 1 1].toArray W fun x w' => ∃ ent', OwnS 58 20 x (n + 1) (xs.take (i * 20) ++ (ys ++ xs.drop (i * 20))) ent' ∧ Mem S W0 w' (f ent') := by
  have hxl := hO.len
  have hsy : SrcOf Try.prog W (.slice (some ⟨vb, 0, none⟩) 1 1) 1 20 ys := SrcOf.cells' (M.heap hv) (sg_all (by omega)) h1y
  by_cases hin : i = n
  · subst hin
    rw [List.take_of_length_le (by omega), List.drop_of_length_le (by omega), List.append_nil]
    obtain ⟨q, cap, rfl⟩ := hO.slice
    refine fn_of (n := 95) Try.func58 rfl rfl rfl ?_
    intro a F
    with_reducible refine c_seq ?_
    with_reducible refine c_region ?_
    refine stepD rfl F rfl (o_assign (F.ev rfl) ?_); clear F; clear a; intro a F
    with_reducible refine l_nil ?_
    with_reducible refine q_then ?_
    with_reducible refine c_seq ?_
    with_reducible refine c_region ?_
    refine stepD rfl F rfl (o_move (F.ev rfl) ?_); clear F; clear a; intro a F
    refine stepD rfl F rfl (o_move (F.ev rfl) ?_); clear F; clear a; intro a F
    (refine stepD rfl F rfl (o_slLany (F.ev rfl) (F.ev rfl) (by omega) (by omega) ?_); clear F; clear a; intro _ a F)
    with_reducible refine l_nil ?_
    with_reducible refine q_then ?_
    with_reducible refine c_seq ?_
    with_reducible refine c_region ?_
    refine stepD rfl F rfl (o_move (F.ev rfl) ?_); clear F; clear a; intro a F
    refine stepD rfl F rfl (o_lenSl (F.ev rfl) ?_); clear F; clear a; intro a F
    refine stepD rfl F rfl (o_assign (F.ev rfl) ?_); clear F; clear a; intro a F
    with_reducible refine l_nil ?_
    with_reducible refine q_then ?_
    with_reducible refine c_seq ?_
    with_reducible refine c_seq ?_
    with_reducible refine c_region ?_
    refine stepD rfl F rfl (o_move (F.ev rfl) ?_); clear F; clear a; intro a F
    refine stepD rfl F rfl (o_eqlF (F.ev rfl) (F.ev rfl) (by omega) ?_); clear F; clear a; intro a F
    with_reducible refine l_nil ?_
    with_reducible refine q_then ?_
    refine c_false F rfl rfl ?_
    with_reducible refine c_skip ?_
    with_reducible refine q_then ?_
    with_reducible refine c_seq ?_
    with_reducible refine c_region ?_
    refine stepD rfl F rfl (o_move (F.ev rfl) ?_); clear F; clear a; intro a F
    refine stepD rfl F rfl (o_lenSl (F.ev rfl) ?_); clear F; clear a; intro a F
    refine stepD rfl F rfl (o_assign (F.ev rfl) ?_); clear F; clear a; intro a F
    with_reducible refine l_nil ?_
    with_reducible refine q_then ?_
    with_reducible refine c_seq ?_
    with_reducible refine c_seq ?_
    with_reducible refine c_region ?_
    refine stepD rfl F rfl (o_move (F.ev rfl) ?_); clear F; clear a; intro a F
    refine stepD rfl F rfl (o_move (F.ev rfl) ?_); clear F; clear a; intro a F
    refine stepD rfl F rfl (o_eqlT (F.ev rfl) (F.ev rfl) (by omega) ?_); clear F; clear a; intro a F
    with_reducible refine l_nil ?_
    with_reducible refine q_then ?_
    refine c_true F rfl rfl ?_
    with_reducible refine c_seq ?_
    with_reducible refine c_region ?_
    refine stepD rfl F rfl (o_move (F.ev rfl) ?_); clear F; clear a; intro a F
    refine stepD rfl F rfl (o_move (F.ev rfl) ?_); clear F; clear a; intro a F
    (refine stepD rfl F rfl (o_append hO M hl (F.ev rfl) (F.ev rfl) hsy (by omega) (by omega) ?_); clear F; clear M; intro v2 ent2 w hO2 M a F)
    refine stepD rfl F rfl (o_assign (F.ev rfl) ?_); clear F; clear a; intro a F
    with_reducible refine l_nil ?_
    with_reducible refine q_then ?_
    with_reducible refine c_ret ?_
    with_reducible refine q_thenR ?_
    refine p_ret F rfl (.cons (.tmp (F.ev rfl)) .nil) ?_
    exact ⟨ent2, hO2, M⟩
  · rcases hO with ⟨_, rfl, _, _⟩ | ⟨b, cap, junk, rfl, rfl, _, hjl, hnc⟩
    · omega
    obtain ⟨lr, rfl, hf⟩ := hl.spec
    have hvb : vb ≠ b := fun h => hne _ List.mem_cons_self h.symm
    obtain ⟨A, B, rfl, hA⟩ := cut_at xs (i * 20) (by omega)
    simp only [List.length_append] at hxl
    rw [← hA, List.take_left' rfl, List.drop_left' rfl]
    simp only [List.all_append, Bool.and_eq_true] at h1x
    have hB : B.length = (n - i) * 20 := by omega
    by_cases hroom : n + 1 ≤ cap
    · obtain ⟨J1, J2, rfl, hJ⟩ := cut_at junk 20 (by omega)
      simp only [List.length_append] at hjl
      obtain ⟨B1, B2, rfl, hB1⟩ := cut_at B 20 (by omega)
      simp only [List.length_append] at hB hxl
      have e1 : (A ++ (B1 ++ B2) ++ (J1 ++ J2)) = A ++ ((B1 ++ B2) ++ (J1 ++ J2)) := by simp
      have e2 : (A ++ (B1 ++ B2) ++ (J1 ++ J2)) = (A ++ B1) ++ ((B2 ++ J1) ++ J2) := by simp
      have p1 : put (A ++ (B1 ++ B2) ++ (J1 ++ J2)) (0 + (((i : Int) + 1).toNat * 20)) (B1 ++ B2) = some ((A ++ B1) ++ ((B1 ++ B2) ++ J2)) := by
        rw [e2]; exact put_mid (by simp; omega) (by simp; omega)
      have p2 : put ((A ++ B1) ++ ((B1 ++ B2) ++ J2)) (0 + (i : Int).toNat * 20) ys = some (A ++ (ys ++ ((B1 ++ B2) ++ J2))) := by
        rw [List.append_assoc]; exact put_mid (by omega) (by omega)
      have g1 : seg (A ++ (B1 ++ B2) ++ (J1 ++ J2)) (0 + (i : Int).toNat * 20) ((n - i) * 20) = some (B1 ++ B2) := by
        rw [e1]; exact seg_mid (by omega) (by simp; omega)
      have u1 : Upd (lr ++ [(b, Obj.cells (A ++ (B1 ++ B2) ++ (J1 ++ J2)).toArray 58 (0, 0))]) b (.cells (A ++ (B1 ++ B2) ++ (J1 ++ J2)).toArray 58 (0, 0)) (.cells ((A ++ B1) ++ ((B1 ++ B2) ++ J2)).toArray 58 (0, 0)) (lr ++ [(b, .cells ((A ++ B1) ++ ((B1 ++ B2) ++ J2)).toArray 58 (0, 0))]) := (Upd.here).append lr
      have u2 : Upd (lr ++ [(b, Obj.cells ((A ++ B1) ++ ((B1 ++ B2) ++ J2)).toArray 58 (0, 0))]) b (.cells ((A ++ B1) ++ ((B1 ++ B2) ++ J2)).toArray 58 (0, 0)) (.cells (A ++ (ys ++ ((B1 ++ B2) ++ J2))).toArray 58 (0, 0)) (lr ++ [(b, .cells (A ++ (ys ++ ((B1 ++ B2) ++ J2))).toArray 58 (0, 0))]) := (Upd.here).append lr
      have hv2 : Has (lr ++ [(b, Obj.cells ((A ++ B1) ++ ((B1 ++ B2) ++ J2)).toArray 58 (0, 0))]) vb (.cells ys.toArray 58 (0, 0)) := has_other hv hvb
      refine fn_of (n := 95) Try.func58 rfl rfl rfl ?_
      intro a F
      with_reducible refine c_seq ?_
      with_reducible refine c_region ?_
      refine stepD rfl F rfl (o_assign (F.ev rfl) ?_); clear F; clear a; intro a F
      with_reducible refine l_nil ?_
      with_reducible refine q_then ?_
      with_reducible refine c_seq ?_
      with_reducible refine c_region ?_
      refine stepD rfl F rfl (o_move (F.ev rfl) ?_); clear F; clear a; intro a F
      refine stepD rfl F rfl (o_move (F.ev rfl) ?_); clear F; clear a; intro a F
      (refine stepD rfl F rfl (o_slL (F.ev rfl) (F.ev rfl) (by omega) (by omega) (by omega) ?_); clear F; clear a; intro a F)
      with_reducible refine l_nil ?_
      with_reducible refine q_then ?_
      with_reducible refine c_seq ?_
      with_reducible refine c_region ?_
      refine stepD rfl F rfl (o_move (F.ev rfl) ?_); clear F; clear a; intro a F
      refine stepD rfl F rfl (o_lenSl (F.ev rfl) ?_); clear F; clear a; intro a F
      refine stepD rfl F rfl (o_assign (F.ev rfl) ?_); clear F; clear a; intro a F
      with_reducible refine l_nil ?_
      with_reducible refine q_then ?_
      with_reducible refine c_seq ?_
      with_reducible refine c_seq ?_
      with_reducible refine c_region ?_
      refine stepD rfl F rfl (o_move (F.ev rfl) ?_); clear F; clear a; intro a F
      refine stepD rfl F rfl (o_eqlF (F.ev rfl) (F.ev rfl) (by omega) ?_); clear F; clear a; intro a F
      with_reducible refine l_nil ?_
      with_reducible refine q_then ?_
      refine c_false F rfl rfl ?_
      with_reducible refine c_skip ?_
      with_reducible refine q_then ?_
      with_reducible refine c_seq ?_
      with_reducible refine c_region ?_
      refine stepD rfl F rfl (o_move (F.ev rfl) ?_); clear F; clear a; intro a F
      refine stepD rfl F rfl (o_lenSl (F.ev rfl) ?_); clear F; clear a; intro a F
      refine stepD rfl F rfl (o_assign (F.ev rfl) ?_); clear F; clear a; intro a F
      with_reducible refine l_nil ?_
      with_reducible refine q_then ?_
      with_reducible refine c_seq ?_
      with_reducible refine c_seq ?_
      with_reducible refine c_region ?_
      refine stepD rfl F rfl (o_move (F.ev rfl) ?_); clear F; clear a; intro a F
      refine stepD rfl F rfl (o_move (F.ev rfl) ?_); clear F; clear a; intro a F
      refine stepD rfl F rfl (o_eqlF (F.ev rfl) (F.ev rfl) (by omega) ?_); clear F; clear a; intro a F
      with_reducible refine l_nil ?_
      with_reducible refine q_then ?_
      refine c_false F rfl rfl ?_
      with_reducible refine c_skip ?_
      with_reducible refine q_then ?_
      with_reducible refine c_seq ?_
      with_reducible refine c_seq ?_
      with_reducible refine c_region ?_
      refine stepD rfl F rfl (o_move (F.ev rfl) ?_); clear F; clear a; intro a F
      refine stepD rfl F rfl (o_move (F.ev rfl) ?_); clear F; clear a; intro a F
      refine stepD rfl F rfl (o_add (F.ev rfl) (F.ev rfl) (w_i64 (by omega) (by omega)) ?_); clear F; clear a; intro a F
      refine stepD rfl F rfl (o_move (F.ev rfl) ?_); clear F; clear a; intro a F
      refine stepD rfl F rfl (o_capSl (F.ev rfl) ?_); clear F; clear a; intro a F
      refine stepD rfl F rfl (o_gtrF (F.ev rfl) (F.ev rfl) (by omega) ?_); clear F; clear a; intro a F
      with_reducible refine l_nil ?_
      with_reducible refine q_then ?_
      refine c_false F rfl rfl ?_
      with_reducible refine c_skip ?_
      with_reducible refine q_then ?_
      with_reducible refine c_seq ?_
      with_reducible refine c_region ?_
      refine stepD rfl F rfl (o_move (F.ev rfl) ?_); clear F; clear a; intro a F
      refine stepD rfl F rfl (o_move (F.ev rfl) ?_); clear F; clear a; intro a F
      refine stepD rfl F rfl (o_move (F.ev rfl) ?_); clear F; clear a; intro a F
      refine stepD rfl F rfl (o_add (F.ev rfl) (F.ev rfl) (w_i64 (by omega) (by omega)) ?_); clear F; clear a; intro a F
      (refine stepD rfl F rfl (o_slH (F.ev rfl) (F.ev rfl) (by simp) (by omega) (by omega) ?_); clear F; clear a; intro a F)
      refine stepD rfl F rfl (o_assign (F.ev rfl) ?_); clear F; clear a; intro a F
      with_reducible refine l_nil ?_
      with_reducible refine q_then ?_
      with_reducible refine c_seq ?_
      with_reducible refine c_seq ?_
      with_reducible refine c_region ?_
      refine stepD rfl F rfl (o_move (F.ev rfl) ?_); clear F; clear a; intro a F
      refine stepD rfl F rfl (o_move (F.ev rfl) ?_); clear F; clear a; intro a F
      refine stepD rfl F rfl (o_move (F.ev rfl) ?_); clear F; clear a; intro a F
      refine stepD rfl F rfl (o_move (F.ev rfl) ?_); clear F; clear a; intro a F
      refine stepD rfl F rfl (o_add (F.ev rfl) (F.ev rfl) (w_i64 (by omega) (by omega)) ?_); clear F; clear a; intro a F
      (refine stepD rfl F rfl (o_slL (F.ev rfl) (F.ev rfl) (by omega) (by omega) (by omega) ?_); clear F; clear a; intro a F)
      (refine stepD rfl F rfl (o_entry (F.ev rfl) Try.func85 (by kernel_rfl) (by kernel_rfl) (by kernel_rfl) (e := Extern.SlicesOverlaps.overlaps #[52, 52] #[4]) (by kernel_rfl) (F.evs rfl) (run_ov (TU.h (P := Try.prog) (t := 52)) (TSz.h (P := Try.prog) (t := 58)) hvb (M.heap hv) (M.heap u1.has) (by simp only [List.length_append]; omega)) ?_); clear F; clear a; intro a F)
      refine stepD rfl F rfl (o_not (F.ev rfl) ?_); clear F; clear a; intro a F
      with_reducible refine l_nil ?_
      with_reducible refine q_then ?_
      refine c_true F rfl rfl ?_
      with_reducible refine c_seq ?_
      refine c_draw 8 F (by kernel_rfl) ?_
      intro w1 hE hok
      have M1 := M.later hE
      refine mK hok rfl rfl (fun a' w' F' E' => o_move (F'.ev rfl) ⟨Ext.refl _ _, rfl⟩) ?_
      refine mK hok rfl rfl (fun a' w' F' E' => o_move (F'.ev rfl) ⟨Ext.refl _ _, rfl⟩) ?_
      refine mK hok rfl rfl (fun a' w' F' E' => o_move (F'.ev rfl) ⟨Ext.refl _ _, rfl⟩) ?_
      refine mK hok rfl rfl (fun a' w' F' E' => o_add (F'.ev rfl) (F'.ev rfl) (w_i64 (by omega) (by omega)) ⟨Ext.refl _ _, rfl⟩) ?_
      (refine mK hok rfl rfl (fun a' w' F' E' => o_slL (F'.ev rfl) (F'.ev rfl) (by omega) (by omega) (by omega) ⟨Ext.refl _ _, rfl⟩) ?_)
      refine mK hok rfl rfl (fun a' w' F' E' => o_move (F'.ev rfl) ⟨Ext.refl _ _, rfl⟩) ?_
      refine mK hok rfl rfl (fun a' w' F' E' => o_move (F'.ev rfl) ⟨Ext.refl _ _, rfl⟩) ?_
      (refine mK hok rfl rfl (fun a' w' F' E' => o_slL (F'.ev rfl) (F'.ev rfl) (by omega) (by omega) (by omega) ⟨Ext.refl _ _, rfl⟩) ?_)
      skip
      (refine mDone rfl rfl ?_; clear F; clear M; intro a w F hE2 hX hTT hDD hPP; have M := M1.later hE2; clear M1; clear hX; clear hE2; clear hok; clear hE; clear hTT; clear hDD; clear hPP; (try dsimp only at F))
      (refine stepD rfl F rfl (o_copy (n := n - i) M (F.ev rfl) (F.ev rfl) (by show _ = min _ _; omega) u1.has g1 (by simp only [List.all_append, Bool.and_eq_true] at h1x ⊢; exact h1x.2) u1.has p1 u1 ?_); clear F; clear M; intro w M a F)
      with_reducible refine l_nil ?_
      with_reducible refine q_then ?_
      with_reducible refine c_seq ?_
      with_reducible refine c_region ?_
      refine stepD rfl F rfl (o_move (F.ev rfl) ?_); clear F; clear a; intro a F
      refine stepD rfl F rfl (o_move (F.ev rfl) ?_); clear F; clear a; intro a F
      (refine stepD rfl F rfl (o_slL (F.ev rfl) (F.ev rfl) (by omega) (by omega) (by omega) ?_); clear F; clear a; intro a F)
      refine stepD rfl F rfl (o_move (F.ev rfl) ?_); clear F; clear a; intro a F
      (refine stepD rfl F rfl (o_copy (n := 1) M (F.ev rfl) (F.ev rfl) (by show _ = min _ _; omega) hv2 (sg_all (by omega)) h1y u2.has p2 u2 ?_); clear F; clear M; intro w M a F)
      with_reducible refine l_nil ?_
      with_reducible refine q_then ?_
      with_reducible refine c_seq ?_
      with_reducible refine c_region ?_
      refine stepD rfl F rfl (o_move (F.ev rfl) ?_); clear F; clear a; intro a F
      refine stepD rfl F rfl (o_assign (F.ev rfl) ?_); clear F; clear a; intro a F
      with_reducible refine l_nil ?_
      with_reducible refine q_then ?_
      with_reducible refine c_ret ?_
      with_reducible refine q_thenR ?_
      refine p_ret F rfl (.cons (.tmp (F.ev rfl)) .nil) ?_
      refine ⟨_, .inr ⟨b, cap, J2, ?_, rfl, ?_, ?_, ?_⟩, ?_⟩
      · show Value.slice _ _ _ = _
        congr 1
      · simp; omega
      · omega
      · omega
      · rw [hf]
        have e3 : A ++ (ys ++ (B1 ++ B2)) ++ J2 = A ++ (ys ++ ((B1 ++ B2) ++ J2)) := by simp
        rw [e3]; exact M
    · have hcn : n = cap := by omega
      subst hcn
      have hj0 : junk = [] := List.length_eq_zero_iff.1 (by omega)
      subst hj0
      have hbh : Has (lr ++ [(b, Obj.cells (A ++ B ++ []).toArray 58 (0, 0))]) b (.cells (A ++ B ++ []).toArray 58 (0, 0)) := Has.app .here lr
      have g0 : seg (A ++ B ++ []) 0 (i * 20) = some A := by
        rw [List.append_nil]
        have := seg_mid (A := []) (B := A) (C := B) (off := 0) (n := i * 20) rfl (by omega)
        simpa using this
      have g1 : seg (A ++ B ++ []) (0 + (i : Int).toNat * 20) ((n - i) * 20) = some B := by
        rw [List.append_assoc]; exact seg_mid (by omega) (by omega)
      have hsA : SrcOf Try.prog W (.slice (some ⟨b, 0, none⟩) i n) i 20 A := SrcOf.cells' (M.heap hbh) g0 h1x.1
      refine fn_of (n := 95) Try.func58 rfl rfl rfl ?_
      intro a F
      with_reducible refine c_seq ?_
      with_reducible refine c_region ?_
      refine stepD rfl F rfl (o_assign (F.ev rfl) ?_); clear F; clear a; intro a F
      with_reducible refine l_nil ?_
      with_reducible refine q_then ?_
      with_reducible refine c_seq ?_
      with_reducible refine c_region ?_
      refine stepD rfl F rfl (o_move (F.ev rfl) ?_); clear F; clear a; intro a F
      refine stepD rfl F rfl (o_move (F.ev rfl) ?_); clear F; clear a; intro a F
      (refine stepD rfl F rfl (o_slL (F.ev rfl) (F.ev rfl) (by omega) (by omega) (by omega) ?_); clear F; clear a; intro a F)
      with_reducible refine l_nil ?_
      with_reducible refine q_then ?_
      with_reducible refine c_seq ?_
      with_reducible refine c_region ?_
      refine stepD rfl F rfl (o_move (F.ev rfl) ?_); clear F; clear a; intro a F
      refine stepD rfl F rfl (o_lenSl (F.ev rfl) ?_); clear F; clear a; intro a F
      refine stepD rfl F rfl (o_assign (F.ev rfl) ?_); clear F; clear a; intro a F
      with_reducible refine l_nil ?_
      with_reducible refine q_then ?_
      with_reducible refine c_seq ?_
      with_reducible refine c_seq ?_
      with_reducible refine c_region ?_
      refine stepD rfl F rfl (o_move (F.ev rfl) ?_); clear F; clear a; intro a F
      refine stepD rfl F rfl (o_eqlF (F.ev rfl) (F.ev rfl) (by omega) ?_); clear F; clear a; intro a F
      with_reducible refine l_nil ?_
      with_reducible refine q_then ?_
      refine c_false F rfl rfl ?_
      with_reducible refine c_skip ?_
      with_reducible refine q_then ?_
      with_reducible refine c_seq ?_
      with_reducible refine c_region ?_
      refine stepD rfl F rfl (o_move (F.ev rfl) ?_); clear F; clear a; intro a F
      refine stepD rfl F rfl (o_lenSl (F.ev rfl) ?_); clear F; clear a; intro a F
      refine stepD rfl F rfl (o_assign (F.ev rfl) ?_); clear F; clear a; intro a F
      with_reducible refine l_nil ?_
      with_reducible refine q_then ?_
      with_reducible refine c_seq ?_
      with_reducible refine c_seq ?_
      with_reducible refine c_region ?_
      refine stepD rfl F rfl (o_move (F.ev rfl) ?_); clear F; clear a; intro a F
      refine stepD rfl F rfl (o_move (F.ev rfl) ?_); clear F; clear a; intro a F
      refine stepD rfl F rfl (o_eqlF (F.ev rfl) (F.ev rfl) (by omega) ?_); clear F; clear a; intro a F
      with_reducible refine l_nil ?_
      with_reducible refine q_then ?_
      refine c_false F rfl rfl ?_
      with_reducible refine c_skip ?_
      with_reducible refine q_then ?_
      with_reducible refine c_seq ?_
      with_reducible refine c_seq ?_
      with_reducible refine c_region ?_
      refine stepD rfl F rfl (o_move (F.ev rfl) ?_); clear F; clear a; intro a F
      refine stepD rfl F rfl (o_move (F.ev rfl) ?_); clear F; clear a; intro a F
      refine stepD rfl F rfl (o_add (F.ev rfl) (F.ev rfl) (w_i64 (by omega) (by omega)) ?_); clear F; clear a; intro a F
      refine stepD rfl F rfl (o_move (F.ev rfl) ?_); clear F; clear a; intro a F
      refine stepD rfl F rfl (o_capSl (F.ev rfl) ?_); clear F; clear a; intro a F
      refine stepD rfl F rfl (o_gtrT (F.ev rfl) (F.ev rfl) (by omega) ?_); clear F; clear a; intro a F
      with_reducible refine l_nil ?_
      with_reducible refine q_then ?_
      refine c_true F rfl rfl ?_
      with_reducible refine c_seq ?_
      with_reducible refine c_region ?_
      refine stepD rfl F rfl (o_move (F.ev rfl) ?_); clear F; clear a; intro a F
      refine stepD rfl F rfl (o_move (F.ev rfl) ?_); clear F; clear a; intro a F
      (refine stepD rfl F rfl (o_slH (F.ev rfl) (F.ev rfl) (by simp) (by omega) (by omega) ?_); clear F; clear a; intro a F)
      refine stepD rfl F rfl (o_move (F.ev rfl) ?_); clear F; clear a; intro a F
      refine stepD rfl F rfl (o_move (F.ev rfl) ?_); clear F; clear a; intro a F
      refine stepD rfl F rfl (o_add (F.ev rfl) (F.ev rfl) (w_i64 (by omega) (by omega)) ?_); clear F; clear a; intro a F
      refine stepD rfl F rfl (o_move (F.ev rfl) ?_); clear F; clear a; intro a F
      refine stepD rfl F rfl (o_sub (F.ev rfl) (F.ev rfl) (w_i64 (by omega) (by omega)) ?_); clear F; clear a; intro a F
      rw [show ((n : Int) + ((1 : Nat) : Int) - i) = ((n + 1 - i : Nat) : Int) by omega, Int.toNat_natCast] at F
      (refine stepD rfl F rfl (o_appendZ (xs := A) (k := n + 1 - i) M hsA (F.ev rfl) (F.ev rfl) (by omega) (by omega) (by omega) (by omega) (by omega) ?_); clear F; clear M; intro b2 cap2 zs w hzl hc2 M a F)
      rw [show i + (n + 1 - i) = n + 1 by omega] at F hc2
      obtain ⟨Z1, Z', rfl, hZ1⟩ := cut_at zs 20 (by omega)
      simp only [List.length_append] at hzl
      obtain ⟨Z2, Z3, rfl, hZ2⟩ := cut_at Z' ((n - i) * 20) (by omega)
      simp only [List.length_append] at hzl
      have p1 : put (A ++ (Z1 ++ (Z2 ++ Z3))) (0 + (i : Int).toNat * 20) ys = some (A ++ (ys ++ (Z2 ++ Z3))) := put_mid (by omega) (by omega)
      have p2 : put (A ++ (ys ++ (Z2 ++ Z3))) (0 + ((i : Int) + 1).toNat * 20) B = some ((A ++ ys) ++ (B ++ Z3)) := by
        rw [← List.append_assoc]; exact put_mid (by simp; omega) (by omega)
      refine stepD rfl F rfl (o_assign (F.ev rfl) ?_); clear F; clear a; intro a F
      with_reducible refine l_nil ?_
      with_reducible refine q_then ?_
      with_reducible refine c_seq ?_
      with_reducible refine c_region ?_
      refine stepD rfl F rfl (o_move (F.ev rfl) ?_); clear F; clear a; intro a F
      refine stepD rfl F rfl (o_move (F.ev rfl) ?_); clear F; clear a; intro a F
      (refine stepD rfl F rfl (o_slL (F.ev rfl) (F.ev rfl) (by omega) (by omega) (by omega) ?_); clear F; clear a; intro a F)
      refine stepD rfl F rfl (o_move (F.ev rfl) ?_); clear F; clear a; intro a F
      (refine stepD rfl F rfl (o_copy (n := 1) M (F.ev rfl) (F.ev rfl) (by show _ = min _ _; omega) (.there hv) (sg_all (by omega)) h1y .here p1 .here ?_); clear F; clear M; intro w M a F)
      with_reducible refine l_nil ?_
      with_reducible refine q_then ?_
      with_reducible refine c_seq ?_
      refine c_draw 8 F (by kernel_rfl) ?_
      intro w1 hE hok
      have M1 := M.later hE
      refine mK hok rfl rfl (fun a' w' F' E' => o_move (F'.ev rfl) ⟨Ext.refl _ _, rfl⟩) ?_
      refine mK hok rfl rfl (fun a' w' F' E' => o_move (F'.ev rfl) ⟨Ext.refl _ _, rfl⟩) ?_
      refine mK hok rfl rfl (fun a' w' F' E' => o_move (F'.ev rfl) ⟨Ext.refl _ _, rfl⟩) ?_
      refine mK hok rfl rfl (fun a' w' F' E' => o_add (F'.ev rfl) (F'.ev rfl) (w_i64 (by omega) (by omega)) ⟨Ext.refl _ _, rfl⟩) ?_
      (refine mK hok rfl rfl (fun a' w' F' E' => o_slL (F'.ev rfl) (F'.ev rfl) (by omega) (by omega) (by omega) ⟨Ext.refl _ _, rfl⟩) ?_)
      refine mK hok rfl rfl (fun a' w' F' E' => o_move (F'.ev rfl) ⟨Ext.refl _ _, rfl⟩) ?_
      refine mK hok rfl rfl (fun a' w' F' E' => o_move (F'.ev rfl) ⟨Ext.refl _ _, rfl⟩) ?_
      (refine mK hok rfl rfl (fun a' w' F' E' => o_slL (F'.ev rfl) (F'.ev rfl) (by omega) (by omega) (by omega) ⟨Ext.refl _ _, rfl⟩) ?_)
      skip
      (refine mDone rfl rfl ?_; clear F; clear M; intro a w F hE2 hX hTT hDD hPP; have M := M1.later hE2; clear M1; clear hX; clear hE2; clear hok; clear hE; clear hTT; clear hDD; clear hPP; (try dsimp only at F))
      (refine stepD rfl F rfl (o_copy (n := n - i) M (F.ev rfl) (F.ev rfl) (by show _ = min _ _; omega) (.there hbh) g1 h1x.2 .here p2 .here ?_); clear F; clear M; intro w M a F)
      with_reducible refine l_nil ?_
      with_reducible refine q_then ?_
      with_reducible refine c_seq ?_
      with_reducible refine c_region ?_
      refine stepD rfl F rfl (o_move (F.ev rfl) ?_); clear F; clear a; intro a F
      refine stepD rfl F rfl (o_assign (F.ev rfl) ?_); clear F; clear a; intro a F
      with_reducible refine l_nil ?_
      with_reducible refine q_then ?_
      with_reducible refine c_ret ?_
      with_reducible refine q_thenR ?_
      refine p_ret F rfl (.cons (.tmp (F.ev rfl)) .nil) ?_
      refine ⟨[(b2, .cells ((A ++ ys) ++ (B ++ Z3)).toArray 58 (0, 0))], .inr ⟨b2, cap2, Z3, rfl, ?_, ?_, ?_, ?_⟩, ?_⟩
      · rw [show A ++ (ys ++ B) ++ Z3 = (A ++ ys) ++ (B ++ Z3) by simp]
      · simp; omega
      · omega
      · omega
      · rw [hf]
        exact (M.sub (l' := (b2, .cells ((A ++ ys) ++ (B ++ Z3)).toArray 58 (0, 0)) :: lr) ((List.sublist_append_left lr _).cons_cons _)).perm (List.perm_append_comm (l₁ := [_]) (l₂ := lr))
/-- the offers that are current -/
def curX (xs : List OV) (now : Int) : List OV := xs.filter fun x => decide (now < x.o.h.til)
theorem curX_take {xs : List OV} {now : Int} {i : Nat} (hi : i < xs.length) : curX (xs.take (i + 1)) now = curX (xs.take i) now ++ if now < xs[i].o.h.til then [xs[i]] else [] := by
  unfold curX
  rw [List.take_add_one, List.getElem?_eq_getElem hi, List.filter_append]
  congr 1
  simp only [Option.toList_some, List.filter_cons, List.filter_nil]
  by_cases h : now < xs[i].o.h.til <;> simp [h]
theorem curX_pre (xs : List OV) (now : Int) (i : Nat) : curX (xs.take i) now <+: curX xs now := by
  unfold curX
  conv => rhs; rw [← List.take_append_drop i xs, List.filter_append]
  exact List.prefix_append _ _
def curB (v : Value) (now : Int) (b2 b3 : Nat) : List (Nat × Obj) := [(b2, .cells [v].toArray 52 (0, 0)), (b3, .cells [Value.int .i64 now].toArray 3 (0, 0))]
def curF (b2 b3 : Nat) : List Value := [.pointer (some ⟨b2, 0, none⟩), .pointer (some ⟨b3, 0, none⟩)]
theorem current_c (v : Value) (now : Int) (W : World) (hv : v.cells = [v].toArray) : Cal Try.prog 54 [v, .int .i64 now].toArray W fun r w' => ∃ b2 b3, r = .func (.func 84) #[] (curF b2 b3).toArray ∧ Mem [] W w' (curB v now b2 b3) := by
  refine fn_ofM (n := 6) [] Try.func54 rfl rfl rfl ?_
  intro a w F M hwW
  refine c_seq ?_
  refine c_region ?_
  (refine stepD rfl F rfl (o_box M (F.ev rfl) hv ?_); clear F; clear M; intro b2 w M a F)
  (refine stepD rfl F rfl (o_box M (F.ev rfl) rfl ?_); clear F; clear M; intro b3 w M a F)
  refine stepD rfl F rfl (o_assign (F.ev rfl) ?_); clear F; clear a; intro a F
  with_reducible refine l_nil ?_
  with_reducible refine q_then ?_
  with_reducible refine c_seq ?_
  with_reducible refine c_region ?_
  (refine stepD rfl F rfl (o_makeFunc (F.evs (xs := []) rfl) (F.evs (xs := [.tmp 2, .tmp 3]) rfl) ?_); clear F; clear a; intro a F)
  refine stepD rfl F rfl (o_assign (F.ev rfl) ?_); clear F; clear a; intro a F
  with_reducible refine l_nil ?_
  with_reducible refine q_then ?_
  with_reducible refine c_ret ?_
  refine p_ret F rfl (.cons (.tmp (F.ev rfl)) .nil) ?_
  exact ⟨b2, b3, rfl, M.perm (by unfold curB; exact (List.reverse_perm [_, _]).symm)⟩
set_option maxHeartbeats 2000000 in
theorem cur_iter (W0 : World) (xs : List OV) (hx : ∀ x ∈ xs, IsOff x.o) (v : Value) (hS : SlAt W0 20 v xs.length (encL ovC xs)) (hA : ∀ x ∈ xs, OffAt W0 x) (hlen : xs.length ≤ 1000) (now : Int) (b2 b3 : Nat) :
    IterAt [] W0 Try.prog 84 (curF b2 b3) (fun x : OV => [.agg (ovC x).toArray]) (fun pre x => (pre ++ [x]) <+: curX xs now) (curB v now b2 b3) (fun ys => ys = curX xs now) := by
  obtain ⟨q, cap, rfl, hcap, hsp, hl, hm⟩ := hS
  have hle : ∀ x ∈ xs, (ovC x).length = 20 := fun x h => ov_len (hx x h)
  intro L w Inv InvX l hY h0 M0
  have M : Mem [] W0 w ((b2, .cells [.slice q xs.length cap].toArray 52 (0, 0)) :: (b3, .cells [Value.int .i64 now].toArray 3 (0, 0)) :: l) := M0.perm List.perm_append_comm
  clear M0
  refine fn_of (n := 23) Try.func84 rfl rfl rfl ?_
  intro a F
  with_reducible refine c_seq ?_
  with_reducible refine c_region ?_
  refine stepD rfl F rfl (o_load1 M (F.ev rfl) (by repeat (first | exact .here | apply Has.there)) (by first | assumption | rfl) ?_); clear F; clear a; intro a F
  refine stepD rfl F rfl (o_lenSl (F.ev rfl) ?_); clear F; clear a; intro a F
  refine stepD rfl F rfl (o_move (F.ev rfl) ?_); clear F; clear a; intro a F
  with_reducible refine l_nil ?_
  with_reducible refine q_then ?_
  with_reducible refine c_block ?_
  refine c_loop (fun m a w => ∃ (i : Nat) (l : List (Nat × Obj)), m = xs.length - i ∧ i ≤ xs.length ∧ Inv (curX (xs.take i) now) l ∧ Frm a 23 [] [(8, .int .i64 i), (7, .int .i64 xs.length), (6, .slice q xs.length cap), (0, .func (.yield L) #[] #[]), (1, .pointer (some ⟨b2, 0, none⟩)), (2, .pointer (some ⟨b3, 0, none⟩))] ∧ Mem [] W0 w ((b2, .cells [.slice q xs.length cap].toArray 52 (0, 0)) :: (b3, .cells [Value.int .i64 now].toArray 3 (0, 0)) :: l)) xs.length ⟨0, l, rfl, by omega, h0, F.only [8, 7, 6, 0, 1, 2] rfl, M⟩ ?_
  clear F M h0 l
  rintro m a w ⟨i, l, hm', hi, hI, F, M⟩
  by_cases hlt : i < xs.length
  · obtain ⟨b, o, cs, t, fz, rfl, hb, hs⟩ := hm (by omega)
    have hct := curX_take (now := now) hlt
    obtain ⟨x, hx0⟩ : ∃ x, x = xs[i] := ⟨_, rfl⟩
    rw [← hx0] at hct
    have hxm : x ∈ xs := by rw [hx0]; exact List.getElem_mem hlt
    have hxo := hx x hxm
    have hxa := hA x hxm
    have f1 : seg cs (o + (i : Int).toNat * 20) 20 = some (ovC x) := by rw [hx0]; exact seg_el hle hs hlt (by omega)
    have f2 : (ovC x).length = 20 := ov_len hxo
    have f3 : seg (ovC x) 0 20 = some (ovC x) := of_all hxo.1 _ _
    have f4 : nth (ovC x) 17 = some (.int .i64 x.o.h.til) := of_til hxo.1 _ _
    with_reducible refine c_seq ?_
    with_reducible refine c_region ?_
    refine stepD rfl F rfl (o_lssT (F.ev rfl) (F.ev rfl) (by omega) ?_); clear F; clear a; intro a F
    with_reducible refine l_nil ?_
    with_reducible refine q_then ?_
    with_reducible refine c_seq ?_
    refine c_true F rfl rfl ?_
    with_reducible refine c_skip ?_
    with_reducible refine q_then ?_
    with_reducible refine c_seq ?_
    with_reducible refine c_block ?_
    with_reducible refine c_seq ?_
    with_reducible refine c_region ?_
    refine stepD rfl F rfl (o_indexSl (F.ev rfl) (F.ev rfl) (by omega) (by omega) ?_); clear F; clear a; intro a F
    refine stepD rfl F rfl (o_loadWA M (F.ev rfl) (by assumption) (by first | assumption | rfl) ?_); clear F; clear a; intro a F
    (refine stepD rfl F rfl (o_alloc M ?_); clear F; clear M; intro b5 w M a F)
    (refine stepN rfl F (o_storeA M (F.ev rfl) (F.ev rfl) (f2) (ov_one hxa)  (by repeat (first | exact .here | apply Has.there))  (put_all (by rw [f2]; rfl)) (by repeat (first | exact .here | apply Upd.there)) ?_); clear F; clear M; intro w M a F)
    by_cases c1 : now < x.o.h.til
    · rw [if_pos c1] at hct
      with_reducible refine l_nil ?_
      with_reducible refine q_then ?_
      with_reducible refine c_seq ?_
      with_reducible refine c_region ?_
      refine stepD rfl F rfl (o_fieldAddr (F.ev rfl) ?_); clear F; clear a; intro a F
      refine stepD rfl F rfl (o_load1 M (F.ev rfl) (by repeat (first | exact .here | apply Has.there)) (by first | assumption | rfl) ?_); clear F; clear a; intro a F
      refine stepD rfl F rfl (o_load1 M (F.ev rfl) (by repeat (first | exact .here | apply Has.there)) (by first | assumption | rfl) ?_); clear F; clear a; intro a F
      refine stepD rfl F rfl (o_gtrT (F.ev rfl) (F.ev rfl) (by omega) ?_); clear F; clear a; intro a F
      refine stepD rfl F rfl (o_move (F.ev rfl) ?_); clear F; clear a; intro a F
      refine stepG rfl F rfl rfl rfl (o_move (F.ev rfl) ?_); clear F; clear a; intro a F
      refine stepG rfl F rfl rfl rfl (o_loadA M (F.ev rfl) (by repeat (first | exact .here | apply Has.there)) (by first | assumption | rfl) ?_); clear F; clear a; intro a F
      have M' := M.perm (l' := l ++ [(b5, .cells (ovC x).toArray 58 (0, 0)), (b2, .cells [.slice (some ⟨b, o, none⟩) xs.length cap].toArray 52 (0, 0)), (b3, .cells [Value.int .i64 now].toArray 3 (0, 0))]) (List.perm_append_comm (l₁ := [_, _, _]))
      have hOk : (curX (xs.take i) now ++ [x]) <+: curX xs now := by rw [← hct]; exact curX_pre _ _ _
      (refine stepG rfl F rfl rfl rfl (o_yield (F.ev rfl) (F.evs rfl) ((hY _ x l w _ hOk hI M').mono ?_)); clear F; clear a)
      rintro v w2 ⟨l2, M2, hor⟩ a F
      rcases hor with ⟨rfl, h1⟩ | ⟨rfl, h1⟩
      · replace M := M2.perm (List.perm_append_comm (l₂ := [_, _, _]))
        clear M2 M'
        refine stepG rfl F rfl rfl rfl (o_not (F.ev rfl) ?_); clear F; clear a; intro a F
        refine stepD rfl F rfl (o_pickT (F.ev rfl) (F.ev rfl) ?_); clear F; clear a; intro a F
        with_reducible refine l_nil ?_
        with_reducible refine q_then ?_
        refine c_false F rfl rfl ?_
        with_reducible refine c_skip ?_
        with_reducible refine q_inB ?_
        with_reducible refine q_then ?_
        with_reducible refine c_region ?_
        refine stepD rfl F rfl (o_add (F.ev rfl) (F.ev rfl) (w_i64 (by omega) (by omega)) ?_); clear F; clear a; intro a F
        refine stepD rfl F rfl (o_move (F.ev rfl) ?_); clear F; clear a; intro a F
        with_reducible refine l_nil ?_
        with_reducible refine q_then ?_
        exact ⟨_, by omega, i + 1, l2, rfl, by omega, by rw [hct]; exact h1, F.only [8, 7, 6, 0, 1, 2] rfl, M.sub (.cons _ (.refl _))⟩
      · refine stepG rfl F rfl rfl rfl (o_not (F.ev rfl) ?_); clear F; clear a; intro a F
        refine stepD rfl F rfl (o_pickT (F.ev rfl) (F.ev rfl) ?_); clear F; clear a; intro a F
        with_reducible refine l_nil ?_
        with_reducible refine q_then ?_
        refine c_true F rfl rfl ?_
        with_reducible refine c_ret ?_
        with_reducible refine q_inBR ?_
        with_reducible refine q_thenR ?_
        with_reducible refine q_thenR ?_
        with_reducible refine q_inBR ?_
        refine p_ret F rfl .nil ?_
        exact ⟨l2, _, M2, .inr ⟨_, h1⟩⟩
    · rw [if_neg c1, List.append_nil] at hct
      with_reducible refine l_nil ?_
      with_reducible refine q_then ?_
      with_reducible refine c_seq ?_
      with_reducible refine c_region ?_
      refine stepD rfl F rfl (o_fieldAddr (F.ev rfl) ?_); clear F; clear a; intro a F
      refine stepD rfl F rfl (o_load1 M (F.ev rfl) (by repeat (first | exact .here | apply Has.there)) (by first | assumption | rfl) ?_); clear F; clear a; intro a F
      refine stepD rfl F rfl (o_load1 M (F.ev rfl) (by repeat (first | exact .here | apply Has.there)) (by first | assumption | rfl) ?_); clear F; clear a; intro a F
      refine stepD rfl F rfl (o_gtrF (F.ev rfl) (F.ev rfl) (by omega) ?_); clear F; clear a; intro a F
      refine stepD rfl F rfl (o_move (F.ev rfl) ?_); clear F; clear a; intro a F
      refine stepOff F rfl rfl rfl rfl ?_; clear F; clear a; intro a F
      refine stepOff F rfl rfl rfl rfl ?_; clear F; clear a; intro a F
      refine stepOff F rfl rfl rfl rfl ?_; clear F; clear a; intro a F
      refine stepOff F rfl rfl rfl rfl ?_; clear F; clear a; intro a F
      refine stepD rfl F rfl (o_pickF (F.ev rfl) (F.ev rfl) ?_); clear F; clear a; intro a F
      with_reducible refine l_nil ?_
      with_reducible refine q_then ?_
      refine c_false F rfl rfl ?_
      with_reducible refine c_skip ?_
      with_reducible refine q_inB ?_
      with_reducible refine q_then ?_
      with_reducible refine c_region ?_
      refine stepD rfl F rfl (o_add (F.ev rfl) (F.ev rfl) (w_i64 (by omega) (by omega)) ?_); clear F; clear a; intro a F
      refine stepD rfl F rfl (o_move (F.ev rfl) ?_); clear F; clear a; intro a F
      with_reducible refine l_nil ?_
      with_reducible refine q_then ?_
      exact ⟨_, by omega, i + 1, l, rfl, by omega, by rw [hct]; exact hI, F.only [8, 7, 6, 0, 1, 2] rfl, M.sub (.cons _ (.refl _))⟩
  · obtain rfl : i = xs.length := by omega
    rw [List.take_length] at hI
    with_reducible refine c_seq ?_
    with_reducible refine c_region ?_
    refine stepD rfl F rfl (o_lssF (F.ev rfl) (F.ev rfl) (by omega) ?_); clear F; clear a; intro a F
    with_reducible refine l_nil ?_
    with_reducible refine q_then ?_
    with_reducible refine c_seq ?_
    refine c_false F rfl rfl ?_
    with_reducible refine c_exit ?_
    with_reducible refine q_thenX ?_
    with_reducible refine q_thenX ?_
    with_reducible refine q_inBX ?_
    exact p_end F rfl .nil ⟨l, _, M.perm (List.perm_append_comm (l₁ := [_, _])), .inl ⟨_, rfl, hI⟩⟩
theorem acc1_c (x : OV) (hx : IsOff x.o) (p : List Int) (hp : IsIP p) (W : World) :
    Cal Try.prog 57 [.agg (ovC x).toArray, .agg (ipC p).toArray].toArray W fun r w' => r = .int .i64 (cmpL x.o.h.rt p) ∧ Ext [] W w' := by
  have e1 : seg (ovC x) 0 16 = some (ipC x.o.h.rt) := of_rt hx.1 _ _
  have e2 : seg (ipC p) 0 16 = some (ipC p) := seg_all (ipC_len hp.len)
  have e3 := ipC_len hp.len
  refine fn_ofM (n := 9) [] Try.func57 rfl rfl rfl ?_
  intro a w F M hwW
  refine c_seq ?_
  refine c_region ?_
  (refine stepD rfl F rfl (o_box M (F.ev rfl) rfl ?_); clear F; clear M; intro b2 w M a F)
  (refine stepD rfl F rfl (o_box M (F.ev rfl) rfl ?_); clear F; clear M; intro b3 w M a F)
  refine stepD rfl F rfl (o_assign (F.ev rfl) ?_); clear F; clear a; intro a F
  with_reducible refine l_nil ?_
  with_reducible refine q_then ?_
  with_reducible refine c_seq ?_
  with_reducible refine c_region ?_
  refine stepD rfl F rfl (o_fieldAddr (F.ev rfl) ?_); clear F; clear a; intro a F
  refine stepD rfl F rfl (o_loadA M (F.ev rfl) (by repeat (first | exact .here | apply Has.there)) (by first | assumption | rfl) ?_); clear F; clear a; intro a F
  refine stepD rfl F rfl (o_loadA M (F.ev rfl) (by repeat (first | exact .here | apply Has.there)) (by first | assumption | rfl) ?_); clear F; clear a; intro a F
  (refine stepD rfl F rfl (o_call (F.ev rfl) (F.evs rfl) (Cal.mono (compareIP_c x.o.h.rt p hx.1 hp _) ?_)); clear F; clear a; rintro _ w ⟨rfl, hE⟩ a F; replace M := M.later hE; clear hE)
  refine stepD rfl F rfl (o_assign (F.ev rfl) ?_); clear F; clear a; intro a F
  with_reducible refine l_nil ?_
  with_reducible refine q_then ?_
  with_reducible refine c_ret ?_
  refine p_ret F rfl (.cons (.tmp (F.ev rfl)) .nil) ?_
  exact ⟨rfl, M.ext⟩
/-- where an address comes in -/
structure PlaceAt (ys : List OV) (rt : List Int) (i : Nat) : Prop where
  le : i ≤ ys.length
  lo : ∀ j (hj : j < i) (hl : j < ys.length), cmpL ys[j].o.h.rt rt < 0
  hi : ∀ j (hj : i ≤ j) (hl : j < ys.length), 0 ≤ cmpL ys[j].o.h.rt rt
def foundAt (ys : List OV) (rt : List Int) (i : Nat) : Bool := match ys[i]? with | some y => decide (cmpL y.o.h.rt rt = 0) | none => false
theorem foundAt_at {ys : List OV} {rt : List Int} {i : Nat} (h : i < ys.length) : foundAt ys rt i = decide (cmpL ys[i].o.h.rt rt = 0) := by simp [foundAt, List.getElem?_eq_getElem h]
set_option maxHeartbeats 2000000 in
theorem bsearch_c (ys : List OV) (hy : ∀ x ∈ ys, IsOff x.o) (rt : List Int) (hrt : IsIP rt) (hlen : ys.length ≤ 1000) (hmono : ∀ j k (hj : j < k) (hk : k < ys.length), cmpL ys[j].o.h.rt ys[k].o.h.rt < 0) (v : Value) (W : World) (hS : SlAt W 20 v ys.length (encL ovC ys)) :
    Cal Try.prog 56 [v, .agg (ipC rt).toArray, .func (.func 57) #[] #[]].toArray W fun r w' => ∃ i, r = .tuple #[.int .i64 (i : Nat), .bool (foundAt ys rt i)] ∧ PlaceAt ys rt i ∧ Ext [] W w' := by
  obtain ⟨q, cap, rfl, hcap, hsp, hl, hm⟩ := hS
  have hle : ∀ x ∈ ys, (ovC x).length = 20 := fun x h => ov_len (hy x h)
  have e2 : seg (ipC rt) 0 16 = some (ipC rt) := seg_all (ipC_len hrt.len)
  refine fn_ofM (n := 49) [] Try.func56 rfl rfl rfl ?_
  intro a w F M hwW
  refine c_seq ?_
  refine c_region ?_
  (refine stepD rfl F rfl (o_box M (F.ev rfl) rfl ?_); clear F; clear M; intro b4 w M a F)
  refine stepD rfl F rfl (o_assign (F.ev rfl) ?_); clear F; clear a; intro a F
  refine stepD rfl F rfl (o_assign (F.ev rfl) ?_); clear F; clear a; intro a F
  with_reducible refine l_nil ?_
  with_reducible refine q_then ?_
  with_reducible refine c_seq ?_
  with_reducible refine c_region ?_
  refine stepD rfl F rfl (o_move (F.ev rfl) ?_); clear F; clear a; intro a F
  refine stepD rfl F rfl (o_lenSl (F.ev rfl) ?_); clear F; clear a; intro a F
  refine stepD rfl F rfl (o_assign (F.ev rfl) ?_); clear F; clear a; intro a F
  with_reducible refine l_nil ?_
  with_reducible refine q_then ?_
  with_reducible refine c_seq ?_
  with_reducible refine c_region ?_
  refine stepD rfl F rfl (o_move (F.ev rfl) ?_); clear F; clear a; intro a F
  refine stepD rfl F rfl (o_assign (F.ev rfl) ?_); clear F; clear a; intro a F
  refine stepD rfl F rfl (o_assign (F.ev rfl) ?_); clear F; clear a; intro a F
  with_reducible refine l_nil ?_
  with_reducible refine q_then ?_
  with_reducible refine c_seq ?_
  with_reducible refine c_block ?_
  refine c_loop (fun m a w => ∃ i j : Nat, m = j - i ∧ i ≤ j ∧ j ≤ ys.length ∧ (∀ k (hk : k < i) (hl : k < ys.length), cmpL ys[k].o.h.rt rt < 0) ∧ (∀ k (hk : j ≤ k) (hl : k < ys.length), 0 ≤ cmpL ys[k].o.h.rt rt) ∧ Frm a 49 [] [(9, .int .i64 i), (10, .int .i64 j), (8, .int .i64 ys.length), (0, .slice q ys.length cap), (2, .func (.func 57) #[] #[]), (4, .pointer (some ⟨b4, 0, none⟩))] ∧ Mem [] W w [(b4, .cells (ipC rt).toArray 26 (0, 0))]) ys.length ⟨0, ys.length, rfl, by omega, by omega, by omega, by omega, F.only [9, 10, 8, 0, 2, 4] rfl, M⟩ ?_
  clear F M
  rintro m a w ⟨i, j, hm', hij, hj, hlo, hhi, F, M⟩
  by_cases hlt : i < j
  · obtain ⟨b, o, cs, t, fz, rfl, hb, hs⟩ := hm (by omega)
    have hmid : IntKind.i64.wrap (Int.fdiv ((i : Int) + j) (2 ^ min (Int.toNat 1) IntKind.u64.bits)) = (((i + j) / 2 : Nat) : Int) := by
      rw [show min (Int.toNat 1) IntKind.u64.bits = 1 from rfl, Int.fdiv_eq_ediv_of_nonneg _ (by omega), show (2 : Int) ^ 1 = 2 from rfl]
      have : ((i : Int) + j) / 2 = (((i + j) / 2 : Nat) : Int) := by omega
      rw [this]
      exact w_i64 (by omega) (by omega)
    with_reducible refine c_seq ?_
    with_reducible refine c_seq ?_
    with_reducible refine c_region ?_
    refine stepD rfl F rfl (o_move (F.ev rfl) ?_); clear F; clear a; intro a F
    refine stepD rfl F rfl (o_move (F.ev rfl) ?_); clear F; clear a; intro a F
    refine stepD rfl F rfl (o_lssT (F.ev rfl) (F.ev rfl) (by omega) ?_); clear F; clear a; intro a F
    with_reducible refine l_nil ?_
    with_reducible refine q_then ?_
    refine c_true F rfl rfl ?_
    with_reducible refine c_skip ?_
    with_reducible refine q_then ?_
    with_reducible refine c_block ?_
    with_reducible refine c_seq ?_
    with_reducible refine c_region ?_
    refine stepD rfl F rfl (o_move (F.ev rfl) ?_); clear F; clear a; intro a F
    refine stepD rfl F rfl (o_move (F.ev rfl) ?_); clear F; clear a; intro a F
    refine stepD rfl F rfl (o_add (F.ev rfl) (F.ev rfl) (w_i64 (by omega) (by omega)) ?_); clear F; clear a; intro a F
    refine stepD rfl F rfl (o_conv (F.ev rfl) (w_u64 (by omega) (by omega)) ?_); clear F; clear a; intro a F
    refine stepD rfl F rfl (o_shr (F.ev rfl) (F.ev rfl) (by omega) rfl ?_); clear F; clear a; intro a F
    refine stepD rfl F rfl (o_conv (F.ev rfl) rfl ?_); clear F; clear a; intro a F
    refine stepD rfl F rfl (o_assign (F.ev rfl) ?_); clear F; clear a; intro a F
    with_reducible refine l_nil ?_
    with_reducible refine q_then ?_
    with_reducible refine c_seq ?_
    rw [hmid] at F
    obtain ⟨h, hh⟩ : ∃ h, h = (i + j) / 2 := ⟨_, rfl⟩
    rw [← hh] at F
    have hhl : h < ys.length := by omega
    obtain ⟨x, hx0⟩ : ∃ x, x = ys[h] := ⟨_, rfl⟩
    have hxo := hy x (by rw [hx0]; exact List.getElem_mem hhl)
    have f1 : seg cs (o + (h : Int).toNat * 20) 20 = some (ovC x) := by rw [hx0]; exact seg_el hle hs hhl (by omega)
    skip
    replace F := F.only [9, 10, 8, 0, 2, 4, 11] rfl
    refine c_draw 7 F (by kernel_rfl) ?_
    intro w1 hE hok
    have M1 := M.later hE
    refine mK hok rfl rfl (fun a' w' F' E' => o_move (F'.ev rfl) ⟨Ext.refl _ _, rfl⟩) ?_
    refine mK hok rfl rfl (fun a' w' F' E' => o_move (F'.ev rfl) ⟨Ext.refl _ _, rfl⟩) ?_
    refine mK hok rfl rfl (fun a' w' F' E' => o_move (F'.ev rfl) ⟨Ext.refl _ _, rfl⟩) ?_
    refine mK hok rfl rfl (fun a' w' F' E' => o_indexSl (F'.ev rfl) (F'.ev rfl) (by omega) (by omega) ⟨Ext.refl _ _, rfl⟩) ?_
    refine mK hok rfl rfl (fun a' w' F' E' => o_loadWA (M1.later E') (F'.ev rfl) (by assumption) (by first | assumption | rfl) ⟨Ext.refl _ _, rfl⟩) ?_
    refine mK hok rfl rfl (fun a' w' F' E' => o_loadA (M1.later E') (F'.ev rfl) (by repeat (first | exact .here | apply Has.there)) (by first | assumption | rfl) ⟨Ext.refl _ _, rfl⟩) ?_
    (refine mK hok rfl rfl (fun a' w' F' E' => o_call (F'.ev rfl) (F'.evs rfl) (Cal.mono (acc1_c x hxo rt hrt _) fun _ _ hh => ⟨hh.2, hh.1⟩)) ?_)
    (refine mDone rfl rfl ?_; clear F; clear M; intro a w F hE2 hX hTT hDD hPP; have M := M1.later hE2; clear M1; clear hX; clear hE2; clear hok; clear hE; clear hTT; clear hDD; clear hPP; (try dsimp only at F))
    by_cases c1 : cmpL x.o.h.rt rt < 0
    · refine stepD rfl F rfl (o_lssT (F.ev rfl) (F.ev rfl) (by omega) ?_); clear F; clear a; intro a F
      with_reducible refine l_nil ?_
      with_reducible refine q_then ?_
      refine c_true F rfl rfl ?_
      with_reducible refine c_region ?_
      refine stepD rfl F rfl (o_move (F.ev rfl) ?_); clear F; clear a; intro a F
      refine stepD rfl F rfl (o_add (F.ev rfl) (F.ev rfl) (w_i64 (by omega) (by omega)) ?_); clear F; clear a; intro a F
      refine stepD rfl F rfl (o_assign (F.ev rfl) ?_); clear F; clear a; intro a F
      with_reducible refine l_nil ?_
      with_reducible refine q_inB ?_
      with_reducible refine q_then ?_
      exact ⟨_, by omega, h + 1, j, rfl, by omega, by omega, fun k hk hkl => by
        rcases Nat.lt_or_ge k h with h1 | h1
        · exact cmpL_lt_trans (hmono k h h1 hhl) (by rw [← hx0]; exact c1)
        · obtain rfl : k = h := by omega
          rw [← hx0]; exact c1, hhi, F.only [9, 10, 8, 0, 2, 4] rfl, M⟩
    · refine stepD rfl F rfl (o_lssF (F.ev rfl) (F.ev rfl) (by omega) ?_); clear F; clear a; intro a F
      with_reducible refine l_nil ?_
      with_reducible refine q_then ?_
      refine c_false F rfl rfl ?_
      with_reducible refine c_region ?_
      refine stepD rfl F rfl (o_move (F.ev rfl) ?_); clear F; clear a; intro a F
      refine stepD rfl F rfl (o_assign (F.ev rfl) ?_); clear F; clear a; intro a F
      with_reducible refine l_nil ?_
      with_reducible refine q_inB ?_
      with_reducible refine q_then ?_
      exact ⟨_, by omega, i, h, rfl, by omega, by omega, hlo, fun k hk hkl => by
        rcases Nat.lt_or_ge h k with h1 | h1
        · have h2 := hmono h k h1 hkl
          rw [← hx0] at h2
          rcases Int.lt_or_le (cmpL ys[k].o.h.rt rt) 0 with h3 | h3
          · exact absurd (cmpL_lt_trans h2 h3) c1
          · exact h3
        · obtain rfl : k = h := by omega
          rw [← hx0]; omega, F.only [9, 10, 8, 0, 2, 4] rfl, M⟩
  · obtain rfl : i = j := by omega
    have hP : PlaceAt ys rt i := ⟨hj, hlo, hhi⟩
    with_reducible refine c_seq ?_
    with_reducible refine c_seq ?_
    with_reducible refine c_region ?_
    refine stepD rfl F rfl (o_move (F.ev rfl) ?_); clear F; clear a; intro a F
    refine stepD rfl F rfl (o_move (F.ev rfl) ?_); clear F; clear a; intro a F
    refine stepD rfl F rfl (o_lssF (F.ev rfl) (F.ev rfl) (by omega) ?_); clear F; clear a; intro a F
    with_reducible refine l_nil ?_
    with_reducible refine q_then ?_
    refine c_false F rfl rfl ?_
    with_reducible refine c_exit ?_
    with_reducible refine q_thenX ?_
    with_reducible refine q_thenX ?_
    with_reducible refine q_inBX ?_
    with_reducible refine q_then ?_
    with_reducible refine c_seq ?_
    replace F := F.only [9, 8, 0, 2, 4] rfl
    by_cases hil : i < ys.length
    · obtain ⟨b, o, cs, t, fz, rfl, hb, hs⟩ := hm (by omega)
      obtain ⟨x, hx0⟩ : ∃ x, x = ys[i] := ⟨_, rfl⟩
      have hxo := hy x (by rw [hx0]; exact List.getElem_mem hil)
      have f1 : seg cs (o + (i : Int).toNat * 20) 20 = some (ovC x) := by rw [hx0]; exact seg_el hle hs hil (by omega)
      have hf := foundAt_at (rt := rt) hil
      rw [← hx0] at hf
      by_cases c1 : cmpL x.o.h.rt rt = 0
      · rw [decide_eq_true c1] at hf
        refine c_draw 15 F (by kernel_rfl) ?_
        intro w1 hE hok
        have M1 := M.later hE
        refine mK hok rfl rfl (fun a' w' F' E' => o_move (F'.ev rfl) ⟨Ext.refl _ _, rfl⟩) ?_
        refine mK hok rfl rfl (fun a' w' F' E' => o_move (F'.ev rfl) ⟨Ext.refl _ _, rfl⟩) ?_
        refine mK hok rfl rfl (fun a' w' F' E' => o_move (F'.ev rfl) ⟨Ext.refl _ _, rfl⟩) ?_
        refine mK hok rfl rfl (fun a' w' F' E' => o_lssT (F'.ev rfl) (F'.ev rfl) (by omega) ⟨Ext.refl _ _, rfl⟩) ?_
        refine mK hok rfl rfl (fun a' w' F' E' => o_move (F'.ev rfl) ⟨Ext.refl _ _, rfl⟩) ?_
        refine mKG hok rfl rfl rfl rfl (fun a' w' F' E' => o_move (F'.ev rfl) ⟨Ext.refl _ _, rfl⟩) ?_
        refine mKG hok rfl rfl rfl rfl (fun a' w' F' E' => o_move (F'.ev rfl) ⟨Ext.refl _ _, rfl⟩) ?_
        refine mKG hok rfl rfl rfl rfl (fun a' w' F' E' => o_move (F'.ev rfl) ⟨Ext.refl _ _, rfl⟩) ?_
        refine mKG hok rfl rfl rfl rfl (fun a' w' F' E' => o_indexSl (F'.ev rfl) (F'.ev rfl) (by omega) (by omega) ⟨Ext.refl _ _, rfl⟩) ?_
        refine mKG hok rfl rfl rfl rfl (fun a' w' F' E' => o_loadWA (M1.later E') (F'.ev rfl) (by assumption) (by first | assumption | rfl) ⟨Ext.refl _ _, rfl⟩) ?_
        refine mKG hok rfl rfl rfl rfl (fun a' w' F' E' => o_loadA (M1.later E') (F'.ev rfl) (by repeat (first | exact .here | apply Has.there)) (by first | assumption | rfl) ⟨Ext.refl _ _, rfl⟩) ?_
        (refine mKG hok rfl rfl rfl rfl (fun a' w' F' E' => o_call (F'.ev rfl) (F'.evs rfl) (Cal.mono (acc1_c x hxo rt hrt _) fun _ _ hh => ⟨hh.2, hh.1⟩)) ?_)
        refine mKG hok rfl rfl rfl rfl (fun a' w' F' E' => o_eqlT (F'.ev rfl) (F'.ev rfl) (by omega) ⟨Ext.refl _ _, rfl⟩) ?_
        refine mK hok rfl rfl (fun a' w' F' E' => o_pickT (F'.ev rfl) (F'.ev rfl) ⟨Ext.refl _ _, rfl⟩) ?_
        refine mK hok rfl rfl (fun a' w' F' E' => o_assign (F'.ev rfl) ⟨Ext.refl _ _, rfl⟩) ?_
        (refine mDone rfl rfl ?_; clear F; clear M; intro a w F hE2 hX hTT hDD hPP; have M := M1.later hE2; clear M1; clear hX; clear hE2; clear hok; clear hE; clear hTT; clear hDD; clear hPP; (try dsimp only at F))
        refine stepD rfl F rfl (o_assign (F.ev rfl) ?_); clear F; clear a; intro a F
        with_reducible refine l_nil ?_
        with_reducible refine q_then ?_
        with_reducible refine c_ret ?_
        refine p_ret F rfl (.cons (.tmp (F.ev rfl)) (.cons (.tmp (F.ev rfl)) .nil)) ?_
        exact ⟨i, by rw [hf]; rfl, hP, M.ext⟩
      · rw [decide_eq_false c1] at hf
        refine c_draw 15 F (by kernel_rfl) ?_
        intro w1 hE hok
        have M1 := M.later hE
        refine mK hok rfl rfl (fun a' w' F' E' => o_move (F'.ev rfl) ⟨Ext.refl _ _, rfl⟩) ?_
        refine mK hok rfl rfl (fun a' w' F' E' => o_move (F'.ev rfl) ⟨Ext.refl _ _, rfl⟩) ?_
        refine mK hok rfl rfl (fun a' w' F' E' => o_move (F'.ev rfl) ⟨Ext.refl _ _, rfl⟩) ?_
        refine mK hok rfl rfl (fun a' w' F' E' => o_lssT (F'.ev rfl) (F'.ev rfl) (by omega) ⟨Ext.refl _ _, rfl⟩) ?_
        refine mK hok rfl rfl (fun a' w' F' E' => o_move (F'.ev rfl) ⟨Ext.refl _ _, rfl⟩) ?_
        refine mKG hok rfl rfl rfl rfl (fun a' w' F' E' => o_move (F'.ev rfl) ⟨Ext.refl _ _, rfl⟩) ?_
        refine mKG hok rfl rfl rfl rfl (fun a' w' F' E' => o_move (F'.ev rfl) ⟨Ext.refl _ _, rfl⟩) ?_
        refine mKG hok rfl rfl rfl rfl (fun a' w' F' E' => o_move (F'.ev rfl) ⟨Ext.refl _ _, rfl⟩) ?_
        refine mKG hok rfl rfl rfl rfl (fun a' w' F' E' => o_indexSl (F'.ev rfl) (F'.ev rfl) (by omega) (by omega) ⟨Ext.refl _ _, rfl⟩) ?_
        refine mKG hok rfl rfl rfl rfl (fun a' w' F' E' => o_loadWA (M1.later E') (F'.ev rfl) (by assumption) (by first | assumption | rfl) ⟨Ext.refl _ _, rfl⟩) ?_
        refine mKG hok rfl rfl rfl rfl (fun a' w' F' E' => o_loadA (M1.later E') (F'.ev rfl) (by repeat (first | exact .here | apply Has.there)) (by first | assumption | rfl) ⟨Ext.refl _ _, rfl⟩) ?_
        (refine mKG hok rfl rfl rfl rfl (fun a' w' F' E' => o_call (F'.ev rfl) (F'.evs rfl) (Cal.mono (acc1_c x hxo rt hrt _) fun _ _ hh => ⟨hh.2, hh.1⟩)) ?_)
        refine mKG hok rfl rfl rfl rfl (fun a' w' F' E' => o_eqlF (F'.ev rfl) (F'.ev rfl) (by omega) ⟨Ext.refl _ _, rfl⟩) ?_
        refine mK hok rfl rfl (fun a' w' F' E' => o_pickT (F'.ev rfl) (F'.ev rfl) ⟨Ext.refl _ _, rfl⟩) ?_
        refine mK hok rfl rfl (fun a' w' F' E' => o_assign (F'.ev rfl) ⟨Ext.refl _ _, rfl⟩) ?_
        (refine mDone rfl rfl ?_; clear F; clear M; intro a w F hE2 hX hTT hDD hPP; have M := M1.later hE2; clear M1; clear hX; clear hE2; clear hok; clear hE; clear hTT; clear hDD; clear hPP; (try dsimp only at F))
        refine stepD rfl F rfl (o_assign (F.ev rfl) ?_); clear F; clear a; intro a F
        with_reducible refine l_nil ?_
        with_reducible refine q_then ?_
        with_reducible refine c_ret ?_
        refine p_ret F rfl (.cons (.tmp (F.ev rfl)) (.cons (.tmp (F.ev rfl)) .nil)) ?_
        exact ⟨i, by rw [hf]; rfl, hP, M.ext⟩
    · have hf : foundAt ys rt i = false := by simp [foundAt, List.getElem?_eq_none (show ys.length ≤ i by omega)]
      refine c_draw 15 F (by kernel_rfl) ?_
      intro w1 hE hok
      have M1 := M.later hE
      refine mK hok rfl rfl (fun a' w' F' E' => o_move (F'.ev rfl) ⟨Ext.refl _ _, rfl⟩) ?_
      refine mK hok rfl rfl (fun a' w' F' E' => o_move (F'.ev rfl) ⟨Ext.refl _ _, rfl⟩) ?_
      refine mK hok rfl rfl (fun a' w' F' E' => o_move (F'.ev rfl) ⟨Ext.refl _ _, rfl⟩) ?_
      refine mK hok rfl rfl (fun a' w' F' E' => o_lssF (F'.ev rfl) (F'.ev rfl) (by omega) ⟨Ext.refl _ _, rfl⟩) ?_
      refine mK hok rfl rfl (fun a' w' F' E' => o_move (F'.ev rfl) ⟨Ext.refl _ _, rfl⟩) ?_
      refine mOff hok rfl rfl rfl rfl rfl ?_
      refine mOff hok rfl rfl rfl rfl rfl ?_
      refine mOff hok rfl rfl rfl rfl rfl ?_
      refine mOff hok rfl rfl rfl rfl rfl ?_
      refine mOff hok rfl rfl rfl rfl rfl ?_
      refine mOff hok rfl rfl rfl rfl rfl ?_
      refine mOff hok rfl rfl rfl rfl rfl ?_
      refine mOff hok rfl rfl rfl rfl rfl ?_
      refine mK hok rfl rfl (fun a' w' F' E' => o_pickF (F'.ev rfl) (F'.ev rfl) ⟨Ext.refl _ _, rfl⟩) ?_
      refine mK hok rfl rfl (fun a' w' F' E' => o_assign (F'.ev rfl) ⟨Ext.refl _ _, rfl⟩) ?_
      (refine mDone rfl rfl ?_; clear F; clear M; intro a w F hE2 hX hTT hDD hPP; have M := M1.later hE2; clear M1; clear hX; clear hE2; clear hok; clear hE; clear hTT; clear hDD; clear hPP; (try dsimp only at F))
      refine stepD rfl F rfl (o_assign (F.ev rfl) ?_); clear F; clear a; intro a F
      with_reducible refine l_nil ?_
      with_reducible refine q_then ?_
      with_reducible refine c_ret ?_
      refine p_ret F rfl (.cons (.tmp (F.ev rfl)) (.cons (.tmp (F.ev rfl)) .nil)) ?_
      exact ⟨i, by rw [hf]; rfl, hP, M.ext⟩
end Go.Proofs.Ytainnefmobfcjaa
/-! LibS -/
namespace Go.Proofs.Ytainnefmobfcjaa
set_option linter.unusedVariables false
set_option linter.unusedSimpArgs false
open Go.RowKit
/-- new blocks -/
structure NewM (n0 : Nat) (w : World) (l : List (Nat × Obj)) : Prop where
  at_ : ∀ p ∈ l, w.heap[p.1]? = some p.2
  nd : (l.map (·.1)).Nodup
  ge : ∀ p ∈ l, n0 ≤ p.1
theorem NewM.lt {n0 : Nat} {w : World} {l : List (Nat × Obj)} (h : NewM n0 w l) {p : Nat × Obj} (hp : p ∈ l) : p.1 < w.heap.size := (Array.getElem?_eq_some_iff.1 (h.at_ p hp)).1
theorem NewM.later {n0 : Nat} {w w' : World} {l : List (Nat × Obj)} (h : NewM n0 w l) (E : Ext [] w w') : NewM n0 w' l :=
  ⟨fun p hp => by rw [E.block _ (h.lt hp) (by simp)]; exact h.at_ p hp, h.nd, h.ge⟩
theorem Mem.new {n0 : Nat} {w w' : World} {l : List (Nat × Obj)} (M : Mem [] w w' l) (h : n0 ≤ w.heap.size) : NewM n0 w' l :=
  ⟨M.at_, M.nd, fun p hp => Nat.le_trans h ((M.own p hp).resolve_left (by simp))⟩
theorem NewM.app {n0 : Nat} {w w' : World} {l new : List (Nat × Obj)} (h : NewM n0 w l) (M : Mem [] w w' new) (hn : n0 ≤ w.heap.size) : NewM n0 w' (new ++ l) := by
  have h' := h.later M.ext
  have h2 := M.new hn
  refine ⟨fun p hp => (List.mem_append.1 hp).elim (h2.at_ p) (h'.at_ p), ?_, fun p hp => (List.mem_append.1 hp).elim (h2.ge p) (h'.ge p)⟩
  rw [List.map_append, List.nodup_append]
  refine ⟨h2.nd, h'.nd, ?_⟩
  rintro a ha b hb rfl
  obtain ⟨p, hp, rfl⟩ := List.mem_map.1 ha
  obtain ⟨q, hq, e⟩ := List.mem_map.1 hb
  have h3 := h.lt hq
  have h4 := (M.own p hp).resolve_left (by simp)
  omega
theorem Mem.joinNew {S : List Nat} {W0 w1 w : World} {l new : List (Nat × Obj)} (M : Mem S W0 w l) (M1 : Mem S W0 w1 l) (N : NewM w1.heap.size w new) : Mem S W0 w (new ++ l) := by
  refine ⟨M.ext, fun p hp => (List.mem_append.1 hp).elim (N.at_ p) (M.at_ p), ?_, fun p hp => (List.mem_append.1 hp).elim (fun h => .inr (Nat.le_trans M1.ext.size (N.ge p h))) (M.own p)⟩
  rw [List.map_append, List.nodup_append]
  refine ⟨N.nd, M.nd, ?_⟩
  rintro a ha b hb rfl
  obtain ⟨p, hp, rfl⟩ := List.mem_map.1 ha
  obtain ⟨q, hq, e⟩ := List.mem_map.1 hb
  have h3 := M1.lt hq
  have h4 := N.ge p hp
  omega
/-- an answer and the new blocks that belong to it -/
def NewP (n0 : Nat) (Φ : Value → List (Nat × Obj) → Prop) : Pred := fun v w => ∃ ent, Φ v ent ∧ NewM n0 w ent
theorem NewP.stays (n0 : Nat) (Φ : Value → List (Nat × Obj) → Prop) : Stays keepAll (NewP n0 Φ) := fun _ _ _ ⟨ent, h, N⟩ E => ⟨ent, h, N.later E⟩
theorem newP_of {w1 w w' : World} {x : Value} {Φ : Value → List (Nat × Obj) → Prop} (E : Ext [] w1 w) (h : ∃ ent, Φ x ent ∧ Mem [] w w' ent) : Ext [] w w' ∧ NewP w1.heap.size Φ x w' :=
  h.elim fun ent hh => ⟨hh.2.ext, ent, hh.1, hh.2.new E.size⟩
theorem memDep {o : Oper} {j : Nat} (h : (depsOf o).contains j = true) : j ∈ depsOf o := by simpa using h
/-! elements of a list in place -/
theorem put_in {A B C C' Y : List Value} {off q : Nat} (hq : q = A.length + off) (h : put C off Y = some C') : put (A ++ (C ++ B)) q Y = some (A ++ (C' ++ B)) := by
  subst hq
  obtain ⟨h1, rfl⟩ := put_splice _ _ _ _ h
  rw [put_of _ _ _ (by simp; omega)]
  congr 1
  unfold splice
  rw [List.take_append, List.drop_append, List.take_of_length_le (by omega), List.drop_of_length_le (by omega), List.nil_append, show A.length + off - A.length = off by omega, show A.length + off + Y.length - A.length = off + Y.length by omega, List.take_append_of_le_length (by omega), List.drop_append_of_le_length (by omega)]
  simp only [List.append_assoc]
theorem encL_put {α : Type} {enc : α → List Value} {sz : Nat} {ls : List α} (hsz : ∀ x ∈ ls, (enc x).length = sz) (junk : List Value) {i : Nat} (hi : i < ls.length) {off q : Nat} {Y : List Value} {x' : α} (h : put (enc ls[i]) off Y = some (enc x')) (hq : q = i * sz + off) :
    put (encL enc ls ++ junk) q Y = some (encL enc (ls.set i x') ++ junk) := by
  have e1 : ls = ls.take i ++ ls[i] :: ls.drop (i + 1) := by rw [List.getElem_cons_drop, List.take_append_drop]
  have e2 : ls.set i x' = ls.take i ++ x' :: ls.drop (i + 1) := by rw [List.set_eq_take_append_cons_drop, if_pos hi]
  have hA : (encL enc (ls.take i)).length = i * sz := by
    rw [encL_len fun x hx => hsz x (List.mem_of_mem_take hx), List.length_take, Nat.min_eq_left (by omega)]
  have f1 : encL enc ls ++ junk = encL enc (ls.take i) ++ (enc ls[i] ++ (encL enc (ls.drop (i + 1)) ++ junk)) := by
    conv => lhs; rw [e1]
    rw [encL_app, encL_cons]
    simp only [List.append_assoc]
  have f2 : encL enc (ls.set i x') ++ junk = encL enc (ls.take i) ++ (enc x' ++ (encL enc (ls.drop (i + 1)) ++ junk)) := by
    rw [e2, encL_app, encL_cons]
    simp only [List.append_assoc]
  rw [f1, f2]
  exact put_in (by rw [hA]; omega) h
theorem own_seg {e : TypeId} {sz n : Nat} {α : Type} {enc : α → List Value} {ls : List α} {junk : List Value} (h : (encL enc ls).length = n * sz) : seg (encL enc ls ++ junk) 0 (n * sz) = some (encL enc ls) := by
  have := seg_of [] (encL enc ls) junk
  simpa [h] using this
theorem own_el {sz : Nat} {α : Type} {enc : α → List Value} {ls : List α} (hsz : ∀ x ∈ ls, (enc x).length = sz) (junk : List Value) {i : Nat} (hi : i < ls.length) {q : Nat} (hq : q = i * sz) : seg (encL enc ls ++ junk) q sz = some (enc ls[i]) :=
  seg_el hsz (o := 0) (n := ls.length) (own_seg (e := 0) (encL_len hsz)) hi (by omega)
theorem own_nth {sz : Nat} {α : Type} {enc : α → List Value} {ls : List α} (hsz : ∀ x ∈ ls, (enc x).length = sz) (junk : List Value) {i : Nat} (hi : i < ls.length) {off q : Nat} {v : Value} (h : nth (enc ls[i]) off = some v) (hq : q = i * sz + off) : nth (encL enc ls ++ junk) q = some v :=
  sg_nth (own_el hsz junk hi rfl) h (by omega)
/-- a slice over a block from n0 on, or none -/
def NewV (n0 : Nat) (v : Value) : Prop := ∀ b o s n c, v = .slice (some ⟨b, o, s⟩) n c → n0 ≤ b
theorem NewV.nil (n0 n c : Nat) : NewV n0 (.slice none n c) := fun _ _ _ _ _ h => by cases h
theorem OwnS.newV {e : TypeId} {sz n : Nat} {v : Value} {xs : List Value} {ent : List (Nat × Obj)} (h : OwnS e sz v n xs ent) {W0 w : World} {l : List (Nat × Obj)} (M : Mem [] W0 w l) (hs : ∀ p ∈ ent, p ∈ l) : NewV W0.heap.size v := by
  rcases h with ⟨rfl, _, _, _⟩ | ⟨b, cap, junk, rfl, rfl, _⟩
  · exact NewV.nil _ _ _
  · intro b' o s n c hv
    cases hv
    exact (M.own _ (hs _ List.mem_cons_self)).resolve_left (by simp)
/-- what stays where only the blocks B are turned -/
theorem SlAt.laterB {W w : World} {sz : Nat} {v : Value} {n : Nat} {xs : List Value} {B : List Nat} (h : SlAt W sz v n xs) (hn : ∀ b o s k c, v = .slice (some ⟨b, o, s⟩) k c → b ∉ B) (E : Ext B W w) : SlAt w sz v n xs := by
  obtain ⟨p, cap, rfl, h1, h2, h3, h4⟩ := h
  refine ⟨p, cap, rfl, h1, h2, h3, fun h0 => ?_⟩
  obtain ⟨b, o, cs, t, fz, rfl, hb, hs⟩ := h4 h0
  exact ⟨b, o, cs, t, fz, rfl, by rw [E.block b (Array.getElem?_eq_some_iff.1 hb).1 (hn b o none n cap rfl)]; exact hb, hs⟩
end Go.Proofs.Ytainnefmobfcjaa
/-! F5 -/
namespace Go.Proofs.Ytainnefmobfcjaa
set_option linter.unusedVariables false
set_option linter.unusedSimpArgs false
open Go.RowKit
attribute [local irreducible] OpTo wpListIn Code.wpIn MW Cal
def insO (o : Off) : List Off → Option (List Off)
  | [] => some [o]
  | y :: ys =>
    if cmpL y.h.rt o.h.rt < 0 then (insO o ys).map (y :: ·)
    else if cmpL y.h.rt o.h.rt = 0 then
      (if o.h.ver < y.h.ver then none else if y.h.ver = o.h.ver then some ({ y with h := { y.h with til := if y.h.til < o.h.til then o.h.til else y.h.til } } :: ys) else some (o :: ys))
    else some (o :: y :: ys)
def curO (os : List Off) (now : Int) : List Off := os.filter fun y => decide (now < y.h.til)
def acceptV (os : List Off) (now : Int) (o : Off) : List Off × Int :=
  if validL os && validO o then
    if isTime now then
      if o.h.til ≤ now then ([], 14) else
      match insO o (curO os now) with
      | none => ([], 16)
      | some r => if 8 < r.length then ([], 10) else (r, 0)
    else ([], 2)
  else ([], 1)
theorem curX_map (xs : List OV) (now : Int) : (curX xs now).map (·.o) = curO (xs.map (·.o)) now := by
  unfold curX curO
  rw [List.filter_map]
  rfl
/-- the offer with the later time -/
def later2 (y o : Off) : Off := { y with h := { y.h with til := if y.h.til < o.h.til then o.h.til else y.h.til } }
theorem insO_at (o : Off) : ∀ (i : Nat) (os : List Off), i ≤ os.length → (∀ j (hj : j < i) (hl : j < os.length), cmpL os[j].h.rt o.h.rt < 0) → (∀ hl : i < os.length, 0 ≤ cmpL os[i].h.rt o.h.rt) →
    insO o os = if h : i < os.length then (if cmpL os[i].h.rt o.h.rt = 0 then (if o.h.ver < os[i].h.ver then none else if os[i].h.ver = o.h.ver then some (os.set i (later2 os[i] o)) else some (os.set i o)) else some (os.take i ++ o :: os.drop i)) else some (os.take i ++ o :: os.drop i)
  | 0, [], _, _, _ => by simp [insO]
  | 0, y :: ys, _, _, h2 => by
    have := h2 (by simp)
    simp only [List.getElem_cons_zero] at this
    rw [dif_pos (by simp)]
    simp only [insO, if_neg (show ¬ cmpL y.h.rt o.h.rt < 0 by omega), List.getElem_cons_zero, List.set_cons_zero, List.take_zero, List.drop_zero, List.nil_append, later2]
  | i + 1, [], h, _, _ => by simp at h
  | i + 1, y :: ys, h, h1, h2 => by
    have h0 := h1 0 (by omega) (by simp)
    simp only [List.getElem_cons_zero] at h0
    have ih := insO_at o i ys (by simpa using h) (fun j hj hl => by have := h1 (j + 1) (by omega) (by simp; omega); simpa using this) (fun hl => by have := h2 (by simp; omega); simpa using this)
    simp only [insO, if_pos h0]
    rw [ih]
    by_cases hi : i < ys.length
    · rw [dif_pos hi, dif_pos (by simp; omega)]
      simp only [List.getElem_cons_succ, List.set_cons_succ, List.take_succ_cons, List.drop_succ_cons, List.cons_append]
      split
      · split
        · rfl
        · split <;> rfl
      · rfl
    · rw [dif_neg hi, dif_neg (by simp; omega)]
      simp
def Asc (os : List Off) : Prop := os.Pairwise fun a b => cmpL a.h.rt b.h.rt < 0
theorem asc_of_adj {os : List Off} (h : ∀ i (hi : i < os.length) (h0 : 0 < i), cmpL os[i - 1].h.rt os[i].h.rt < 0) : Asc os := by
  unfold Asc
  rw [List.pairwise_iff_getElem]
  have key : ∀ (d i : Nat) (hj : i + (d + 1) < os.length), cmpL (os[i]'(by omega)).h.rt os[i + (d + 1)].h.rt < 0 := by
    intro d
    induction d with
    | zero => intro i hj; have := h (i + 1) hj (by omega); simpa using this
    | succ d ih =>
      intro i hj
      have h1 := ih i (by omega)
      have h2 := h (i + (d + 1) + 1) hj (by omega)
      simp only [Nat.add_sub_cancel] at h2
      exact cmpL_lt_trans h1 h2
  intro i j hi hj hij
  obtain ⟨d, rfl⟩ : ∃ d, j = i + (d + 1) := ⟨j - i - 1, by omega⟩
  exact key d i hj
theorem allI_at {p : Nat → Bool} {n : Nat} (h : allI p n = true) {i : Nat} (hi : i < n) : p i = true := by
  unfold allI at h
  exact List.all_eq_true.1 h i (List.mem_range.2 hi)
theorem validL_asc {os : List Off} (h : validL os = true) : Asc os := by
  unfold validL at h
  simp only [Bool.and_eq_true] at h
  refine asc_of_adj fun i hi h0 => ?_
  have := allI_at h.2 hi
  unfold valid1 at this
  rw [List.getElem?_eq_getElem hi] at this
  simp only [Bool.and_eq_true, Bool.or_eq_true, decide_eq_true_eq] at this
  rcases this.2 with h2 | h2
  · omega
  · rw [dif_pos (by omega)] at h2
    simpa using h2
theorem validL_each {os : List Off} (h : validL os = true) {o : Off} (ho : o ∈ os) : validO o = true := by
  unfold validL at h
  simp only [Bool.and_eq_true] at h
  obtain ⟨i, hi, rfl⟩ := List.mem_iff_getElem.1 ho
  have := allI_at h.2 hi
  unfold valid1 at this
  rw [List.getElem?_eq_getElem hi] at this
  simp only [Bool.and_eq_true] at this
  exact this.1
theorem validL_len {os : List Off} (h : validL os = true) : os.length ≤ 8 := by
  unfold validL at h
  simp only [Bool.and_eq_true, decide_eq_true_eq] at h
  exact h.1
theorem validO_len {o : Off} (h : validO o = true) : o.ps.length ≤ 16 ∧ o.cs.length ≤ 16 := by
  unfold validO hdO at h
  simp only [Bool.and_eq_true, decide_eq_true_eq] at h
  exact ⟨h.1.1.1.2, h.1.1.2⟩
theorem Asc.filter {os : List Off} (h : Asc os) (f : Off → Bool) : Asc (os.filter f) := List.Pairwise.filter _ h
theorem asc_ov {zs : List OV} (h : Asc (zs.map (·.o))) : ∀ j k (hj : j < k) (hk : k < zs.length), cmpL zs[j].o.h.rt zs[k].o.h.rt < 0 := by
  intro j k hj hk
  have := (List.pairwise_iff_getElem.1 h) j k (by simp; omega) (by simp; omega) hj
  simpa using this
/-! in memory -/
def OffsAt (W : World) (s : Value) (os : List Off) : Prop := ∃ zs : List OV, zs.map (·.o) = os ∧ SlAt W 20 s zs.length (encL ovC zs) ∧ ∀ z ∈ zs, OffAt W z
theorem OffsAt.nil (W : World) : OffsAt W (.slice none 0 0) [] := ⟨[], rfl, SlAt.nil W 20, by simp⟩
theorem OffsAt.later {W w : World} {s : Value} {os : List Off} (h : OffsAt W s os) (E : Ext [] W w) : OffsAt w s os := by
  obtain ⟨zs, h1, h2, h3⟩ := h
  exact ⟨zs, h1, h2.later E, fun z hz => (h3 z hz).later E⟩
/-- .. in new memory -/
def OffsN (n0 : Nat) (W : World) (s : Value) (os : List Off) : Prop := ∃ zs : List OV, zs.map (·.o) = os ∧ SlAt W 20 s zs.length (encL ovC zs) ∧ (∀ z ∈ zs, OffAt W z) ∧ NewV n0 s ∧ ∀ z ∈ zs, NewV n0 z.u ∧ NewV n0 z.v
theorem OffsN.nil (n0 : Nat) (W : World) : OffsN n0 W (.slice none 0 0) [] := ⟨[], rfl, SlAt.nil W 20, by simp, NewV.nil _ _ _, by simp⟩
theorem OffsN.at {n0 : Nat} {W : World} {s : Value} {os : List Off} (h : OffsN n0 W s os) : OffsAt W s os := by
  obtain ⟨zs, h1, h2, h3, _⟩ := h
  exact ⟨zs, h1, h2, h3⟩
def OwnIn (inn : List (Nat × Obj)) (z : OV) : Prop := ∃ eu ev, OwnS 111 20 z.u z.o.ps.length (pisC z.o.ps) eu ∧ OwnS 116 20 z.v z.o.cs.length (cisC z.o.cs) ev ∧ (∀ p ∈ eu, p ∈ inn) ∧ ∀ p ∈ ev, p ∈ inn
theorem OwnIn.mono {inn inn' : List (Nat × Obj)} {z : OV} (h : OwnIn inn z) (hs : ∀ p ∈ inn, p ∈ inn') : OwnIn inn' z := by
  obtain ⟨eu, ev, h1, h2, h3, h4⟩ := h
  exact ⟨eu, ev, h1, h2, fun p hp => hs p (h3 p hp), fun p hp => hs p (h4 p hp)⟩
theorem OwnIn.at {inn : List (Nat × Obj)} {z : OV} (h : OwnIn inn z) {S : List Nat} {W0 w : World} {l : List (Nat × Obj)} (M : Mem S W0 w l) (hs : ∀ p ∈ inn, p ∈ l) : OffAt w z := by
  obtain ⟨eu, ev, h1, h2, h3, h4⟩ := h
  exact ⟨h1.slAt M fun p hp => hs p (h3 p hp), h2.slAt M fun p hp => hs p (h4 p hp)⟩
theorem OwnIn.newV {inn : List (Nat × Obj)} {z : OV} (h : OwnIn inn z) {W0 w : World} {l : List (Nat × Obj)} (M : Mem [] W0 w l) (hs : ∀ p ∈ inn, p ∈ l) : NewV W0.heap.size z.u ∧ NewV W0.heap.size z.v := by
  obtain ⟨eu, ev, h1, h2, h3, h4⟩ := h
  exact ⟨h1.newV M fun p hp => hs p (h3 p hp), h2.newV M fun p hp => hs p (h4 p hp)⟩
theorem OwnS.one {e : TypeId} {sz n : Nat} {v : Value} {xs : List Value} {ent : List (Nat × Obj)} (h : OwnS e sz v n xs ent) : v.oneCell' = true := by
  obtain ⟨p, cap, rfl⟩ := h.slice
  rfl
theorem OwnIn.one {inn : List (Nat × Obj)} {z : OV} (h : OwnIn inn z) : (ovC z).all (·.oneCell') = true := by
  obtain ⟨eu, ev, h1, h2, _⟩ := h
  exact of_one _ _ _ h1.one h2.one
/-- a copy, and what is made of it -/
def PhC (o : Off) (r : Value) (ent : List (Nat × Obj)) : Prop := ∃ u v eu ev, r = .agg (ovC ⟨o, u, v⟩).toArray ∧ OwnS 111 20 u o.ps.length (pisC o.ps) eu ∧ OwnS 116 20 v o.cs.length (cisC o.cs) ev ∧ ent = eu ++ ev
def PhS (o : Off) (r : Value) (ent : List (Nat × Obj)) : Prop := ∃ b u v eu ev, r = .slice (some ⟨b, 0, none⟩) 1 1 ∧ OwnS 111 20 u o.ps.length (pisC o.ps) eu ∧ OwnS 116 20 v o.cs.length (cisC o.cs) ev ∧ ent = (b, .cells (ovC ⟨o, u, v⟩).toArray 58 (0, 0)) :: (eu ++ ev)
theorem copyN_c (x : OV) (hx : IsOff x.o) (h1 : x.o.ps.length ≤ 100000) (h2 : x.o.cs.length ≤ 100000) (W : World) (hA : OffAt W x) :
    Cal Try.prog 55 [.agg (ovC x).toArray].toArray W fun r w' => ∃ ent, PhC x.o r ent ∧ Mem [] W w' ent :=
  Cal.mono (copy_c x hx h1 h2 W hA) fun _ _ ⟨u, v, eu, ev, h, hO, hO2, M⟩ => ⟨_, ⟨u, v, eu, ev, h, hO, hO2, rfl⟩, M⟩
theorem bs1 {o : Off} (ho : IsOff o) {a : Act} {n t : Nat} {df : List Deferred} {fr : List (Nat × Value)} {w w1 : World} {d : Option Tmp} {ty : TypeId} {pos : String} {af : Array Edge} {g : Option (Nat × Bool)} (F : Frm a n df fr) (E : Ext [] w1 w) (D : NewP w1.heap.size (PhC o) (a.tmps.getD t undef) w) :
    OpTo Try.prog ⟨d, .buildSlice 52 1 [(0, .tmp t)].toArray, ty, pos, af, g⟩ a.eval w fun r w' => Ext [] w w' ∧ NewP w1.heap.size (PhS o) r w' := by
  unfold NewP at D
  refine D.elim fun ent hD => ?_
  have hp := hD.1
  have hN := hD.2
  unfold PhC at hp
  obtain ⟨u, v, eu, ev, hr, hO1, hO2, he⟩ := hp
  subst he
  have F' := F.know (d := t) hr
  have hb := of_build1 ho.1 u v
  have hev : evP ((t, .agg (ovC ⟨o, u, v⟩).toArray) :: fr) [(0, .tmp t)] = some [(0, ovC ⟨o, u, v⟩)] := by
    have h1 : Ev ((t, Value.agg (ovC ⟨o, u, v⟩).toArray) :: fr) (.tmp t) = some (.agg (ovC ⟨o, u, v⟩).toArray) := by
      show look _ t = _
      rw [look_put, if_pos rfl]
    simp only [evP, h1]
  refine o_buildSlice F' (Mem.start [] w) hev rfl rfl hb ?_
  intro b w' M
  refine ⟨M.ext, _, ⟨b, u, v, eu, ev, rfl, hO1, hO2, rfl⟩, ?_⟩
  exact hN.app M E.size
end Go.Proofs.Ytainnefmobfcjaa
/-! F6 -/
namespace Go.Proofs.Ytainnefmobfcjaa
set_option linter.unusedVariables false
set_option linter.unusedSimpArgs false
open Go.RowKit
attribute [local irreducible] OpTo wpListIn Code.wpIn MW Cal
set_option maxHeartbeats 8000000 in
theorem accept_c (xs : List OV) (hx : ∀ x ∈ xs, IsOff x.o) (v : Value) (now : Int) (x : OV) (hxo : IsOff x.o) (W : World) (hS : SlAt W 20 v xs.length (encL ovC xs)) (hA : ∀ x ∈ xs, OffAt W x) (hxa : OffAt W x) :
    Cal Try.prog 21 [v, .int .i64 now, .agg (ovC x).toArray].toArray W fun r w' => ∃ s, r = .tuple #[s, .int .i64 (acceptV (xs.map (·.o)) now x.o).2] ∧ OffsN W.heap.size w' s (acceptV (xs.map (·.o)) now x.o).1 ∧ Ext [] W w' := by
  have hSs := hS
  obtain ⟨q, cap, rfl, hcap, hsp, hl, hm⟩ := hS
  have e1 : nth (ovC x) 17 = some (.int .i64 x.o.h.til) := of_til hxo.1 _ _
  have e2 : seg (ovC x) 0 20 = some (ovC x) := of_all hxo.1 _ _
  have e3 : seg (ovC x) 0 16 = some (ipC x.o.h.rt) := of_rt hxo.1 _ _
  have e4 : nth (ovC x) 16 = some (.int .i64 x.o.h.ver) := of_ver hxo.1 _ _
  have hsz : ∀ z : OV, IsOff z.o → (ovC z).length = 20 := fun z h => ov_len h
  refine fn_ofM (n := 96) [] Try.func21 rfl rfl rfl ?_
  intro a w F M hwW
  refine c_seq ?_
  refine c_region ?_
  (refine stepD rfl F rfl (o_box M (F.ev rfl) rfl ?_); clear F; clear M; intro b5 w M a F)
  refine stepD rfl F rfl (o_assign (F.ev rfl) ?_); clear F; clear a; intro a F
  refine stepD rfl F rfl (o_assign (F.ev rfl) ?_); clear F; clear a; intro a F
  with_reducible refine l_nil ?_
  with_reducible refine q_then ?_
  with_reducible refine c_seq ?_
  with_reducible refine c_seq ?_
  with_reducible refine c_region ?_
  refine stepD rfl F rfl (o_move (F.ev rfl) ?_); clear F; clear a; intro a F
  (refine stepD rfl F rfl (o_call (F.ev rfl) (F.evs rfl) (Cal.mono (validL_c xs hx _ _ (hSs.later M.ext) (fun z hz => (hA z hz).later M.ext)) ?_)); clear F; clear a; rintro _ w ⟨rfl, hE⟩ a F; replace M := M.later hE; clear hE)
  cases hv : validL (xs.map (·.o))
  · have hacc : acceptV (xs.map (·.o)) now x.o = ([], 1) := by unfold acceptV; rw [hv]; rfl
    rw [hacc]
    rw [hv] at F
    refine stepD rfl F rfl (o_not (F.ev rfl) ?_); clear F; clear a; intro a F
    refine stepD rfl F rfl (o_move (F.ev rfl) ?_); clear F; clear a; intro a F
    refine stepOff F rfl rfl rfl rfl ?_; clear F; clear a; intro a F
    refine stepOff F rfl rfl rfl rfl ?_; clear F; clear a; intro a F
    refine stepOff F rfl rfl rfl rfl ?_; clear F; clear a; intro a F
    refine stepD rfl F rfl (o_pickT (F.ev rfl) (F.ev rfl) ?_); clear F; clear a; intro a F
    with_reducible refine l_nil ?_
    with_reducible refine q_then ?_
    refine c_true F rfl rfl ?_
    with_reducible refine c_seq ?_
    with_reducible refine c_region ?_
    refine stepD rfl F rfl (o_assign (F.ev rfl) ?_); clear F; clear a; intro a F
    refine stepD rfl F rfl (o_assign (F.ev rfl) ?_); clear F; clear a; intro a F
    with_reducible refine l_nil ?_
    with_reducible refine q_then ?_
    with_reducible refine c_ret ?_
    with_reducible refine q_thenR ?_
    refine p_ret F rfl (.cons (.tmp (F.ev rfl)) (.cons (.tmp (F.ev rfl)) .nil)) ?_
    exact ⟨_, rfl, OffsN.nil _ _, M.ext⟩
  rw [hv] at F
  refine stepD rfl F rfl (o_not (F.ev rfl) ?_); clear F; clear a; intro a F
  refine stepD rfl F rfl (o_move (F.ev rfl) ?_); clear F; clear a; intro a F
  refine stepG rfl F rfl rfl rfl (o_loadA M (F.ev rfl) (by repeat (first | exact .here | apply Has.there)) (by first | assumption | rfl) ?_); clear F; clear a; intro a F
  (refine stepG rfl F rfl rfl rfl (o_call (F.ev rfl) (F.evs rfl) (Cal.mono (validOffer_c x hxo _ (hxa.later M.ext)) ?_)); clear F; clear a; rintro _ w ⟨rfl, hE⟩ a F; replace M := M.later hE; clear hE)
  cases ho : validO x.o
  · have hacc : acceptV (xs.map (·.o)) now x.o = ([], 1) := by unfold acceptV; rw [hv, ho]; rfl
    rw [hacc]
    rw [ho] at F
    refine stepG rfl F rfl rfl rfl (o_not (F.ev rfl) ?_); clear F; clear a; intro a F
    refine stepD rfl F rfl (o_pickF (F.ev rfl) (F.ev rfl) ?_); clear F; clear a; intro a F
    with_reducible refine l_nil ?_
    with_reducible refine q_then ?_
    refine c_true F rfl rfl ?_
    with_reducible refine c_seq ?_
    with_reducible refine c_region ?_
    refine stepD rfl F rfl (o_assign (F.ev rfl) ?_); clear F; clear a; intro a F
    refine stepD rfl F rfl (o_assign (F.ev rfl) ?_); clear F; clear a; intro a F
    with_reducible refine l_nil ?_
    with_reducible refine q_then ?_
    with_reducible refine c_ret ?_
    with_reducible refine q_thenR ?_
    refine p_ret F rfl (.cons (.tmp (F.ev rfl)) (.cons (.tmp (F.ev rfl)) .nil)) ?_
    exact ⟨_, rfl, OffsN.nil _ _, M.ext⟩
  rw [ho] at F
  refine stepG rfl F rfl rfl rfl (o_not (F.ev rfl) ?_); clear F; clear a; intro a F
  refine stepD rfl F rfl (o_pickF (F.ev rfl) (F.ev rfl) ?_); clear F; clear a; intro a F
  with_reducible refine l_nil ?_
  with_reducible refine q_then ?_
  refine c_false F rfl rfl ?_
  with_reducible refine c_skip ?_
  with_reducible refine q_then ?_
  with_reducible refine c_seq ?_
  with_reducible refine c_seq ?_
  with_reducible refine c_region ?_
  refine stepD rfl F rfl (o_move (F.ev rfl) ?_); clear F; clear a; intro a F
  (refine stepD rfl F rfl (o_call (F.ev rfl) (F.evs rfl) (Cal.mono (isTime_c now _) ?_)); clear F; clear a; rintro _ w ⟨rfl, hE⟩ a F; replace M := M.later hE; clear hE)
  cases htm : isTime now
  · have hacc : acceptV (xs.map (·.o)) now x.o = ([], 2) := by unfold acceptV; rw [hv, ho, htm]; rfl
    rw [hacc]
    rw [htm] at F
    refine stepD rfl F rfl (o_not (F.ev rfl) ?_); clear F; clear a; intro a F
    with_reducible refine l_nil ?_
    with_reducible refine q_then ?_
    refine c_true F rfl rfl ?_
    with_reducible refine c_seq ?_
    with_reducible refine c_region ?_
    refine stepD rfl F rfl (o_assign (F.ev rfl) ?_); clear F; clear a; intro a F
    refine stepD rfl F rfl (o_assign (F.ev rfl) ?_); clear F; clear a; intro a F
    with_reducible refine l_nil ?_
    with_reducible refine q_then ?_
    with_reducible refine c_ret ?_
    with_reducible refine q_thenR ?_
    refine p_ret F rfl (.cons (.tmp (F.ev rfl)) (.cons (.tmp (F.ev rfl)) .nil)) ?_
    exact ⟨_, rfl, OffsN.nil _ _, M.ext⟩
  rw [htm] at F
  by_cases c4 : x.o.h.til ≤ now
  · have hacc : acceptV (xs.map (·.o)) now x.o = ([], 14) := by
      unfold acceptV
      rw [hv, ho, htm]
      simp only [Bool.and_self, if_true, if_pos c4]
    rw [hacc]
    refine stepD rfl F rfl (o_not (F.ev rfl) ?_); clear F; clear a; intro a F
    with_reducible refine l_nil ?_
    with_reducible refine q_then ?_
    refine c_false F rfl rfl ?_
    with_reducible refine c_skip ?_
    with_reducible refine q_then ?_
    with_reducible refine c_seq ?_
    with_reducible refine c_seq ?_
    with_reducible refine c_region ?_
    refine stepD rfl F rfl (o_fieldAddr (F.ev rfl) ?_); clear F; clear a; intro a F
    refine stepD rfl F rfl (o_load1 M (F.ev rfl) (by repeat (first | exact .here | apply Has.there)) (by first | assumption | rfl) ?_); clear F; clear a; intro a F
    refine stepD rfl F rfl (o_move (F.ev rfl) ?_); clear F; clear a; intro a F
    refine stepD rfl F rfl (o_leqT (F.ev rfl) (F.ev rfl) (by omega) ?_); clear F; clear a; intro a F
    with_reducible refine l_nil ?_
    with_reducible refine q_then ?_
    refine c_true F rfl rfl ?_
    with_reducible refine c_seq ?_
    with_reducible refine c_region ?_
    refine stepD rfl F rfl (o_assign (F.ev rfl) ?_); clear F; clear a; intro a F
    refine stepD rfl F rfl (o_assign (F.ev rfl) ?_); clear F; clear a; intro a F
    with_reducible refine l_nil ?_
    with_reducible refine q_then ?_
    with_reducible refine c_ret ?_
    with_reducible refine q_thenR ?_
    refine p_ret F rfl (.cons (.tmp (F.ev rfl)) (.cons (.tmp (F.ev rfl)) .nil)) ?_
    exact ⟨_, rfl, OffsN.nil _ _, M.ext⟩
  have hlen := validL_len hv
  rw [List.length_map] at hlen
  have hov := validO_len ho
  refine stepD rfl F rfl (o_not (F.ev rfl) ?_); clear F; clear a; intro a F
  with_reducible refine l_nil ?_
  with_reducible refine q_then ?_
  refine c_false F rfl rfl ?_
  with_reducible refine c_skip ?_
  with_reducible refine q_then ?_
  with_reducible refine c_seq ?_
  with_reducible refine c_seq ?_
  with_reducible refine c_region ?_
  refine stepD rfl F rfl (o_fieldAddr (F.ev rfl) ?_); clear F; clear a; intro a F
  refine stepD rfl F rfl (o_load1 M (F.ev rfl) (by repeat (first | exact .here | apply Has.there)) (by first | assumption | rfl) ?_); clear F; clear a; intro a F
  refine stepD rfl F rfl (o_move (F.ev rfl) ?_); clear F; clear a; intro a F
  refine stepD rfl F rfl (o_leqF (F.ev rfl) (F.ev rfl) (by omega) ?_); clear F; clear a; intro a F
  with_reducible refine l_nil ?_
  with_reducible refine q_then ?_
  refine c_false F rfl rfl ?_
  with_reducible refine c_skip ?_
  with_reducible refine q_then ?_
  with_reducible refine c_seq ?_
  with_reducible refine c_region ?_
  (refine stepD rfl F rfl (o_alloc M ?_); clear F; clear M; intro b8 w M a F)
  with_reducible refine l_nil ?_
  with_reducible refine q_then ?_
  with_reducible refine c_seq ?_
  with_reducible refine c_seq ?_
  with_reducible refine c_region ?_
  refine stepD rfl F rfl (o_move (F.ev rfl) ?_); clear F; clear a; intro a F
  refine stepD rfl F rfl (o_move (F.ev rfl) ?_); clear F; clear a; intro a F
  (refine stepD rfl F rfl (o_call (F.ev rfl) (F.evs rfl) (Cal.mono (current_c _ now _ rfl ) ?_)); clear F; clear a; rintro _ w ⟨c2, c3, rfl, N⟩ a F; replace M := M.joins N; clear N)
  with_reducible refine l_nil ?_
  with_reducible refine q_then ?_
  with_reducible refine c_block ?_
  replace F := F.only [29, 8, 5] rfl
  replace M := M.perm (l' := [(b8, .cells [.slice none 0 0].toArray 52 (0, 0)), (b5, .cells (ovC x).toArray 58 (0, 0))] ++ curB (.slice q xs.length cap) now c2 c3) List.perm_append_comm
  refine c_rangeAt (α := OV) (ps := [30]) F M rfl (cur_iter W xs hx _ hSs hA (by omega) now c2 c3) (fun _ => rfl) rfl
    (fun pre l => ∃ zs sv ent inn, zs.map (·.o) = pre.map (·.o) ∧ OwnS 58 20 sv zs.length (encL ovC zs) ent ∧ (∀ z ∈ zs, OwnIn inn z) ∧ l = [(b8, .cells [sv].toArray 52 (0, 0)), (b5, .cells (ovC x).toArray 58 (0, 0))] ++ (ent ++ inn))
    (fun c pre l => False)
    ⟨[], _, [], [], rfl, OwnS.nil _ _, by simp, rfl⟩ ?round ?done ?stop
  case round =>
    clear F M
    rintro L pre y _ w p a hok ⟨zs, sv, ent, inn, hz, hO, hI, rfl⟩ M F
    have hym : y ∈ curX xs now := hok.subset (by simp)
    have hyx : y ∈ xs := (List.mem_filter.1 hym).1
    have hyo := hx y hyx
    have hya := hA y hyx
    have hyv := validO_len (validL_each hv (List.mem_map_of_mem hyx))
    have hzl : zs.length ≤ 8 := by
      have h1 : zs.length = pre.length := by simpa using congrArg List.length hz
      have h2 : (pre ++ [y]).length ≤ (curX xs now).length := hok.length_le
      have h3 : (curX xs now).length ≤ xs.length := List.length_filter_le _ _
      simp at h2
      omega
    have f2 : (ovC y).length = 20 := ov_len hyo
    have f3 : seg (ovC y) 0 20 = some (ovC y) := of_all hyo.1 _ _
    refine c_region ?_
    (refine stepD rfl F rfl (o_alloc M ?_); clear F; clear M; intro b9 w M a F)
    (refine stepN rfl F (o_storeA M (F.ev rfl) (F.ev rfl) (f2) (ov_one hya)  (by repeat (first | exact .here | apply Has.there))  (put_all (by rw [f2]; rfl)) (by repeat (first | exact .here | apply Upd.there)) ?_); clear F; clear M; intro w M a F)
    refine l_nil ?_
    refine q_then ?_
    replace M : Mem [] W w (((b9, .cells (ovC y).toArray 58 (0, 0)) :: ([(b8, .cells [sv].toArray 52 (0, 0)), (b5, .cells (ovC x).toArray 58 (0, 0))] ++ (ent ++ inn))) ++ p) := M
    refine ⟨_, M, ?_⟩
    clear M
    intro w p M
    obtain ⟨sp, sc, rfl⟩ := hO.slice
    replace M := M.perm (l' := (b9, .cells (ovC y).toArray 58 (0, 0)) :: (b8, .cells [.slice sp zs.length sc].toArray 52 (0, 0)) :: (b5, .cells (ovC x).toArray 58 (0, 0)) :: (p ++ (inn ++ ent))) (by classical exact List.perm_iff_count.2 fun _ => by simp only [List.count_append, List.count_cons, List.count_nil, Nat.add_zero, Nat.zero_add] <;> ac_rfl)
    replace F := F.only [9, 8, 5] rfl
    with_reducible refine c_block ?_
    refine c_draw 4 F (by kernel_rfl) ?_
    intro w1 hE hok
    have M1 := M.later hE
    refine mK hok rfl rfl (fun a' w' F' E' => o_load1 (M1.later E') (F'.ev rfl) (by repeat (first | exact .here | apply Has.there)) (by first | assumption | rfl) ⟨Ext.refl _ _, rfl⟩) ?_
    refine mK hok rfl rfl (fun a' w' F' E' => o_loadA (M1.later E') (F'.ev rfl) (by repeat (first | exact .here | apply Has.there)) (by first | assumption | rfl) ⟨Ext.refl _ _, rfl⟩) ?_
    refine mX (V := NewP w1.heap.size (PhC y.o)) hok rfl rfl (NewP.stays _ _) (fun a' w' F' E' D' => o_call (F'.ev rfl) (F'.evs rfl) (Cal.mono (copyN_c y hyo (by omega) (by omega) _ (hya.later (M1.later E').ext)) fun _ _ hh => newP_of E' hh)) ?_
    refine mX (V := NewP w1.heap.size (PhS y.o)) hok rfl rfl (NewP.stays _ _) (fun a' w' F' E' D' => bs1 hyo F' E' (D' 2 (memDep rfl) _ rfl)) ?_
    (refine mDone rfl rfl ?_; clear F; clear M; intro a w F hE2 hX hTT hDD hPP; have M := M1.later hE2; (try dsimp only at F); obtain ⟨new, hΦ, hN⟩ := hX 3 _ rfl; replace M := M.joinNew M1 hN; obtain ⟨b3, u, v2, eu, ev, hr, hO1, hO2, rfl⟩ := hΦ; replace F := F.know (d := 34) hr; clear hr; clear hN; clear M1; clear hX; clear hE2; clear hok; clear hE; clear hTT; clear hDD; clear hPP)
    have hone : (ovC ⟨y.o, u, v2⟩).all (·.oneCell') = true := of_one _ _ _ hO1.one hO2.one
    have hlen2 : (ovC ⟨y.o, u, v2⟩).length = 20 := ov_len (x := ⟨y.o, u, v2⟩) hyo
    replace M := M.perm (l' := (b3, .cells (ovC ⟨y.o, u, v2⟩).toArray 58 (0, 0)) :: (b8, .cells [.slice sp zs.length sc].toArray 52 (0, 0)) :: (b5, .cells (ovC x).toArray 58 (0, 0)) :: (b9, .cells (ovC y).toArray 58 (0, 0)) :: ((eu ++ ev) ++ (p ++ (inn ++ ent)))) (by classical exact List.perm_iff_count.2 fun _ => by simp only [List.count_append, List.count_cons, List.count_nil, Nat.add_zero, Nat.zero_add] <;> ac_rfl)
    (refine stepD rfl F rfl (o_append hO M (.cons (.cons (.cons (.cons (.app (.app (.app .here))))))) (F.ev rfl) (F.ev rfl) (SrcOf.cells' (M.heap .here) (sg_all (by omega)) hone) (by omega) (by omega) ?_); clear F; clear M; intro sv2 ent2 w hO9 M a F)
    obtain ⟨sp2, sc2, rfl⟩ := hO9.slice
    (refine stepN rfl F (o_store1 M (F.ev rfl) (F.ev rfl) rfl (by repeat (first | exact .here | apply Has.there)) (by rfl) (by repeat (first | exact .here | apply Upd.there)) ?_); clear F; clear M; intro w M a F)
    with_reducible refine l_nil ?_
    with_reducible refine q_inB ?_
    have hlz : (zs ++ [(⟨y.o, u, v2⟩ : OV)]).length = zs.length + 1 := by simp
    refine ⟨_, ⟨zs ++ [⟨y.o, u, v2⟩], .slice sp2 (zs.length + 1) sc2, ent2, (eu ++ ev) ++ inn, by simp [hz], ?_, ?_, rfl⟩, ?_⟩
    · rw [hlz, encL_app, encL_one]; exact hO9
    · intro z hz'
      rcases List.mem_append.1 hz' with h1 | h1
      · exact (hI z h1).mono fun p hp => by simp [hp]
      · simp only [List.mem_singleton] at h1
        subst h1
        exact ⟨eu, ev, hO1, hO2, fun p hp => by simp [hp], fun p hp => by simp [hp]⟩
    · exact (M.perm (l' := (([(b8, .cells [.slice sp2 (zs.length + 1) sc2].toArray 52 (0, 0)), (b5, .cells (ovC x).toArray 58 (0, 0))] ++ (ent2 ++ ((eu ++ ev) ++ inn))) ++ p) ++ [(b3, .cells (ovC ⟨y.o, u, v2⟩).toArray 58 (0, 0)), (b9, .cells (ovC y).toArray 58 (0, 0))]) (by classical exact List.perm_iff_count.2 fun _ => by simp only [List.count_append, List.count_cons, List.count_nil, Nat.add_zero, Nat.zero_add] <;> ac_rfl)).sub (List.sublist_append_left _ _)
  case stop =>
    intro D c pre l' p' W' a' h
    exact h.elim
  case done =>
    clear F M
    rintro D ys _ p w a rfl ⟨zs, sv, ent, inn, hz, hO, hI, rfl⟩ M F
    rw [curX_map] at hz
    have hasc : Asc (zs.map (·.o)) := by rw [hz]; exact (validL_asc hv).filter _
    have hzo : ∀ z ∈ zs, IsOff z.o := fun z hzm => by
      have h1 : z.o ∈ curO (xs.map (·.o)) now := by rw [← hz]; exact List.mem_map_of_mem hzm
      obtain ⟨x', h2, h3⟩ := List.mem_map.1 (List.mem_filter.1 h1).1
      rw [← h3]; exact hx x' h2
    have hzl : zs.length ≤ 8 := by
      have h1 : zs.length = (curO (xs.map (·.o)) now).length := by simpa using congrArg List.length hz
      have h2 : (curO (xs.map (·.o)) now).length ≤ (xs.map (·.o)).length := List.length_filter_le _ _
      rw [List.length_map] at h2
      omega
    have hszs : ∀ z ∈ zs, (ovC z).length = 20 := fun z h => ov_len (hzo z h)
    replace M := M.perm (l' := (D, .deferred (some [])) :: (b8, .cells [sv].toArray 52 (0, 0)) :: (b5, .cells (ovC x).toArray 58 (0, 0)) :: (inn ++ (p ++ ent))) (by classical exact List.perm_iff_count.2 fun _ => by simp only [List.count_append, List.count_cons, List.count_nil, Nat.add_zero, Nat.zero_add] <;> ac_rfl)
    obtain ⟨sp, sc, rfl⟩ := hO.slice
    with_reducible refine q_inB ?_
    with_reducible refine q_then ?_
    with_reducible refine c_seq ?_
    with_reducible refine c_region ?_
    refine stepD rfl F rfl (o_load1 M (F.ev rfl) (by repeat (first | exact .here | apply Has.there)) (by first | assumption | rfl) ?_); clear F; clear a; intro a F
    refine stepD rfl F rfl (o_fieldAddr (F.ev rfl) ?_); clear F; clear a; intro a F
    refine stepD rfl F rfl (o_loadA M (F.ev rfl) (by repeat (first | exact .here | apply Has.there)) (by first | assumption | rfl) ?_); clear F; clear a; intro a F
    (refine stepD rfl F rfl (o_call (F.ev rfl) (F.evs rfl) (Cal.mono (bsearch_c zs hzo x.o.h.rt hxo.1 (by omega) (asc_ov hasc) _ _ (hO.slAt M fun p hp => by simp [hp])) ?_)); clear F; clear a; rintro _ w ⟨i, rfl, hP, hE⟩ a F; replace M := M.later hE; clear hE)
    have hins : insO x.o (curO (xs.map (·.o)) now) = if h : i < zs.length then (if cmpL zs[i].o.h.rt x.o.h.rt = 0 then (if x.o.h.ver < zs[i].o.h.ver then none else if zs[i].o.h.ver = x.o.h.ver then some ((zs.map (·.o)).set i (later2 zs[i].o x.o)) else some ((zs.map (·.o)).set i x.o)) else some ((zs.map (·.o)).take i ++ x.o :: (zs.map (·.o)).drop i)) else some ((zs.map (·.o)).take i ++ x.o :: (zs.map (·.o)).drop i) := by
      rw [← hz, insO_at x.o i (zs.map (·.o)) (by rw [List.length_map]; exact hP.le) (fun j hj hl' => by rw [List.getElem_map]; exact hP.lo j hj (by simpa using hl')) (fun hl' => by rw [List.getElem_map]; exact hP.hi i (Nat.le_refl _) (by simpa using hl'))]
      simp only [List.length_map, List.getElem_map]
    have hPle := hP.le
    clear hP
    refine stepD rfl F rfl (o_move (F.ev rfl) ?_); clear F; clear a; intro a F
    refine stepD rfl F rfl (o_extract (F.ev rfl) rfl ?_); clear F; clear a; intro a F
    refine stepD rfl F rfl (o_extract (F.ev rfl) rfl ?_); clear F; clear a; intro a F
    refine stepD rfl F rfl (o_assign (F.ev rfl) ?_); clear F; clear a; intro a F
    refine stepD rfl F rfl (o_assign (F.ev rfl) ?_); clear F; clear a; intro a F
    refine l_nil ?_
    refine q_then ?_
    refine c_seq ?_
    refine c_block ?_
    replace F := F.only [11, 10, 8, 5] rfl
    refine c_cutR (fun a w => ∃ (zs' : List OV) (sv' : Value) (ent' inn' : List (Nat × Obj)), insO x.o (curO (xs.map (·.o)) now) = some (zs'.map (·.o)) ∧ OwnS 58 20 sv' zs'.length (encL ovC zs') ent' ∧ (∀ z ∈ zs', OwnIn inn' z) ∧ Frm a 96 [markOf D] [(8, .pointer (some ⟨b8, 0, none⟩))] ∧ Mem [] W w ((D, .deferred (some [])) :: (b8, .cells [sv'].toArray 52 (0, 0)) :: (ent' ++ inn'))) ?_ ?_
    rotate_left
    · clear F M hins
      rintro a w ⟨zs', sv', ent', inn', hins, hO', hI', F, M⟩
      obtain ⟨sp', sc', rfl⟩ := hO'.slice
      by_cases c9 : 8 < zs'.length
      · have hacc : acceptV (xs.map (·.o)) now x.o = ([], 10) := by
          unfold acceptV
          rw [hv, ho, htm]
          simp only [Bool.and_self, if_true, if_neg c4, hins]
          rw [if_pos (by simpa using c9)]
        rw [hacc]
        with_reducible refine q_inB ?_
        with_reducible refine q_then ?_
        with_reducible refine c_seq ?_
        with_reducible refine c_seq ?_
        with_reducible refine c_region ?_
        refine stepD rfl F rfl (o_load1 M (F.ev rfl) (by repeat (first | exact .here | apply Has.there)) (by first | assumption | rfl) ?_); clear F; clear a; intro a F
        refine stepD rfl F rfl (o_lenSl (F.ev rfl) ?_); clear F; clear a; intro a F
        refine stepD rfl F rfl (o_gtrT (F.ev rfl) (F.ev rfl) (by omega) ?_); clear F; clear a; intro a F
        with_reducible refine l_nil ?_
        with_reducible refine q_then ?_
        refine c_true F rfl rfl ?_
        with_reducible refine c_seq ?_
        with_reducible refine c_region ?_
        refine stepD rfl F rfl (o_assign (F.ev rfl) ?_); clear F; clear a; intro a F
        refine stepD rfl F rfl (o_assign (F.ev rfl) ?_); clear F; clear a; intro a F
        with_reducible refine l_nil ?_
        with_reducible refine q_then ?_
        with_reducible refine c_ret ?_
        with_reducible refine q_thenR ?_
        exact p_ret1 F M .here rfl fun w' M' => ⟨.cons (.tmp (F.ev rfl)) (.cons (.tmp (F.ev rfl)) .nil), _, rfl, OffsN.nil _ _, M'.ext⟩
      · have hacc : acceptV (xs.map (·.o)) now x.o = (zs'.map (·.o), 0) := by
          unfold acceptV
          rw [hv, ho, htm]
          simp only [Bool.and_self, if_true, if_neg c4, hins]
          rw [if_neg (by simpa using c9)]
        rw [hacc]
        with_reducible refine q_inB ?_
        with_reducible refine q_then ?_
        with_reducible refine c_seq ?_
        with_reducible refine c_seq ?_
        with_reducible refine c_region ?_
        refine stepD rfl F rfl (o_load1 M (F.ev rfl) (by repeat (first | exact .here | apply Has.there)) (by first | assumption | rfl) ?_); clear F; clear a; intro a F
        refine stepD rfl F rfl (o_lenSl (F.ev rfl) ?_); clear F; clear a; intro a F
        refine stepD rfl F rfl (o_gtrF (F.ev rfl) (F.ev rfl) (by omega) ?_); clear F; clear a; intro a F
        with_reducible refine l_nil ?_
        with_reducible refine q_then ?_
        refine c_false F rfl rfl ?_
        with_reducible refine c_skip ?_
        with_reducible refine q_then ?_
        with_reducible refine c_seq ?_
        with_reducible refine c_region ?_
        refine stepD rfl F rfl (o_load1 M (F.ev rfl) (by repeat (first | exact .here | apply Has.there)) (by first | assumption | rfl) ?_); clear F; clear a; intro a F
        refine stepD rfl F rfl (o_assign (F.ev rfl) ?_); clear F; clear a; intro a F
        refine stepD rfl F rfl (o_assign (F.ev rfl) ?_); clear F; clear a; intro a F
        with_reducible refine l_nil ?_
        with_reducible refine q_then ?_
        with_reducible refine c_ret ?_
        exact p_ret1 F M .here rfl fun w' M' => ⟨.cons (.tmp (F.ev rfl)) (.cons (.tmp (F.ev rfl)) .nil), _, rfl, ⟨zs', rfl, hO'.slAt M' fun p hp => by simp [hp], fun z hz => (hI' z hz).at M' fun p hp => by simp [hp], hO'.newV M' fun p hp => by simp [hp], fun z hz => (hI' z hz).newV M' fun p hp => by simp [hp]⟩, M'.ext⟩
    refine c_seq ?_
    by_cases hfd : ∃ hil : i < zs.length, cmpL zs[i].o.h.rt x.o.h.rt = 0
    · obtain ⟨hil, c5⟩ := hfd
      rw [dif_pos hil, if_pos c5] at hins
      have hf := foundAt_at (rt := x.o.h.rt) hil
      rw [decide_eq_true c5] at hf
      rw [hf] at F
      obtain ⟨z, hz0⟩ : ∃ z, z = zs[i] := ⟨_, rfl⟩
      rcases hO with ⟨_, h0, _, _⟩ | ⟨bO, cO, junk, hvO, rfl, hxl, hjl, hnc⟩
      · omega
      cases hvO
      have hzm : z ∈ zs := by rw [hz0]; exact List.getElem_mem hil
      have hzo' := hzo z hzm
      rw [← hz0] at hins
      have g1 : nth (encL ovC zs ++ junk) (0 + (i : Int).toNat * 20 + 16) = some (.int .i64 z.o.h.ver) := own_nth hszs junk hil (by rw [← hz0]; exact of_ver hzo'.1 _ _) (by omega)
      have g2 : nth (encL ovC zs ++ junk) (0 + (i : Int).toNat * 20 + 17) = some (.int .i64 z.o.h.til) := own_nth hszs junk hil (by rw [← hz0]; exact of_til hzo'.1 _ _) (by omega)
      replace M := M.perm (l' := (bO, .cells (encL ovC zs ++ junk).toArray 58 (0, 0)) :: (b8, .cells [.slice (some ⟨bO, 0, none⟩) zs.length sc].toArray 52 (0, 0)) :: (b5, .cells (ovC x).toArray 58 (0, 0)) :: (D, .deferred (some [])) :: (inn ++ p)) (by classical exact List.perm_iff_count.2 fun _ => by simp only [List.count_append, List.count_cons, List.count_nil, Nat.add_zero, Nat.zero_add] <;> ac_rfl)
      by_cases c6 : x.o.h.ver < z.o.h.ver
      · rw [if_pos c6] at hins
        have hacc : acceptV (xs.map (·.o)) now x.o = ([], 16) := by
          unfold acceptV
          rw [hv, ho, htm]
          simp only [Bool.and_self, if_true, if_neg c4, hins]
        rw [hacc]
        refine c_draw 11 F (by kernel_rfl) ?_
        intro w1 hE hok
        have M1 := M.later hE
        refine mK hok rfl rfl (fun a' w' F' E' => o_move (F'.ev rfl) ⟨Ext.refl _ _, rfl⟩) ?_
        refine mK hok rfl rfl (fun a' w' F' E' => o_move (F'.ev rfl) ⟨Ext.refl _ _, rfl⟩) ?_
        refine mKG hok rfl rfl rfl rfl (fun a' w' F' E' => o_load1 (M1.later E') (F'.ev rfl) (by repeat (first | exact .here | apply Has.there)) (by first | assumption | rfl) ⟨Ext.refl _ _, rfl⟩) ?_
        refine mKG hok rfl rfl rfl rfl (fun a' w' F' E' => o_move (F'.ev rfl) ⟨Ext.refl _ _, rfl⟩) ?_
        refine mKG hok rfl rfl rfl rfl (fun a' w' F' E' => o_indexSl (F'.ev rfl) (F'.ev rfl) (by omega) (by omega) ⟨Ext.refl _ _, rfl⟩) ?_
        refine mKG hok rfl rfl rfl rfl (fun a' w' F' E' => o_fieldAddr (F'.ev rfl) ⟨Ext.refl _ _, rfl⟩) ?_
        refine mKG hok rfl rfl rfl rfl (fun a' w' F' E' => o_load1 (M1.later E') (F'.ev rfl) (by repeat (first | exact .here | apply Has.there)) (by first | assumption | rfl) ⟨Ext.refl _ _, rfl⟩) ?_
        refine mKG hok rfl rfl rfl rfl (fun a' w' F' E' => o_fieldAddr (F'.ev rfl) ⟨Ext.refl _ _, rfl⟩) ?_
        refine mKG hok rfl rfl rfl rfl (fun a' w' F' E' => o_load1 (M1.later E') (F'.ev rfl) (by repeat (first | exact .here | apply Has.there)) (by first | assumption | rfl) ⟨Ext.refl _ _, rfl⟩) ?_
        refine mKG hok rfl rfl rfl rfl (fun a' w' F' E' => o_gtrT (F'.ev rfl) (F'.ev rfl) (by omega) ⟨Ext.refl _ _, rfl⟩) ?_
        refine mK hok rfl rfl (fun a' w' F' E' => o_pickT (F'.ev rfl) (F'.ev rfl) ⟨Ext.refl _ _, rfl⟩) ?_
        (refine mDone rfl rfl ?_; clear F; clear M; intro a w F hE2 hX hTT hDD hPP; have M := M1.later hE2; clear M1; clear hX; clear hE2; clear hok; clear hE; clear hTT; clear hDD; clear hPP; (try dsimp only at F))
        refine stepD rfl F rfl (o_assign (F.ev rfl) ?_); clear F; clear a; intro a F
        with_reducible refine l_nil ?_
        with_reducible refine q_then ?_
        refine c_true F rfl rfl ?_
        with_reducible refine c_seq ?_
        with_reducible refine c_region ?_
        refine stepD rfl F rfl (o_assign (F.ev rfl) ?_); clear F; clear a; intro a F
        refine stepD rfl F rfl (o_assign (F.ev rfl) ?_); clear F; clear a; intro a F
        with_reducible refine l_nil ?_
        with_reducible refine q_then ?_
        with_reducible refine c_ret ?_
        with_reducible refine q_cutR ?_
        with_reducible refine q_inBR ?_
        with_reducible refine q_thenR ?_
        replace M := M.perm (l' := (D, .deferred (some [])) :: (b8, .cells [.slice (some ⟨bO, 0, none⟩) zs.length sc].toArray 52 (0, 0)) :: (b5, .cells (ovC x).toArray 58 (0, 0)) :: (bO, .cells (encL ovC zs ++ junk).toArray 58 (0, 0)) :: (inn ++ p)) (by classical exact List.perm_iff_count.2 fun _ => by simp only [List.count_append, List.count_cons, List.count_nil, Nat.add_zero, Nat.zero_add] <;> ac_rfl)
        exact p_ret1 F M .here rfl fun w' M' => ⟨.cons (.tmp (F.ev rfl)) (.cons (.tmp (F.ev rfl)) .nil), _, rfl, OffsN.nil _ _, M'.ext⟩
      rw [if_neg c6] at hins
      refine c_draw 11 F (by kernel_rfl) ?_
      intro w1 hE hok
      have M1 := M.later hE
      refine mK hok rfl rfl (fun a' w' F' E' => o_move (F'.ev rfl) ⟨Ext.refl _ _, rfl⟩) ?_
      refine mK hok rfl rfl (fun a' w' F' E' => o_move (F'.ev rfl) ⟨Ext.refl _ _, rfl⟩) ?_
      refine mKG hok rfl rfl rfl rfl (fun a' w' F' E' => o_load1 (M1.later E') (F'.ev rfl) (by repeat (first | exact .here | apply Has.there)) (by first | assumption | rfl) ⟨Ext.refl _ _, rfl⟩) ?_
      refine mKG hok rfl rfl rfl rfl (fun a' w' F' E' => o_move (F'.ev rfl) ⟨Ext.refl _ _, rfl⟩) ?_
      refine mKG hok rfl rfl rfl rfl (fun a' w' F' E' => o_indexSl (F'.ev rfl) (F'.ev rfl) (by omega) (by omega) ⟨Ext.refl _ _, rfl⟩) ?_
      refine mKG hok rfl rfl rfl rfl (fun a' w' F' E' => o_fieldAddr (F'.ev rfl) ⟨Ext.refl _ _, rfl⟩) ?_
      refine mKG hok rfl rfl rfl rfl (fun a' w' F' E' => o_load1 (M1.later E') (F'.ev rfl) (by repeat (first | exact .here | apply Has.there)) (by first | assumption | rfl) ⟨Ext.refl _ _, rfl⟩) ?_
      refine mKG hok rfl rfl rfl rfl (fun a' w' F' E' => o_fieldAddr (F'.ev rfl) ⟨Ext.refl _ _, rfl⟩) ?_
      refine mKG hok rfl rfl rfl rfl (fun a' w' F' E' => o_load1 (M1.later E') (F'.ev rfl) (by repeat (first | exact .here | apply Has.there)) (by first | assumption | rfl) ⟨Ext.refl _ _, rfl⟩) ?_
      refine mKG hok rfl rfl rfl rfl (fun a' w' F' E' => o_gtrF (F'.ev rfl) (F'.ev rfl) (by omega) ⟨Ext.refl _ _, rfl⟩) ?_
      refine mK hok rfl rfl (fun a' w' F' E' => o_pickT (F'.ev rfl) (F'.ev rfl) ⟨Ext.refl _ _, rfl⟩) ?_
      (refine mDone rfl rfl ?_; clear F; clear M; intro a w F hE2 hX hTT hDD hPP; have M := M1.later hE2; clear M1; clear hX; clear hE2; clear hok; clear hE; clear hTT; clear hDD; clear hPP; (try dsimp only at F))
      refine stepD rfl F rfl (o_assign (F.ev rfl) ?_); clear F; clear a; intro a F
      with_reducible refine l_nil ?_
      with_reducible refine q_then ?_
      refine c_false F rfl rfl ?_
      with_reducible refine c_seq ?_
      replace F := F.only [11, 10, 8, 5] rfl
      by_cases c7 : z.o.h.ver = x.o.h.ver
      · rw [if_pos c7] at hins
        refine c_draw 11 F (by kernel_rfl) ?_
        intro w1 hE hok
        have M1 := M.later hE
        refine mK hok rfl rfl (fun a' w' F' E' => o_move (F'.ev rfl) ⟨Ext.refl _ _, rfl⟩) ?_
        refine mK hok rfl rfl (fun a' w' F' E' => o_move (F'.ev rfl) ⟨Ext.refl _ _, rfl⟩) ?_
        refine mKG hok rfl rfl rfl rfl (fun a' w' F' E' => o_load1 (M1.later E') (F'.ev rfl) (by repeat (first | exact .here | apply Has.there)) (by first | assumption | rfl) ⟨Ext.refl _ _, rfl⟩) ?_
        refine mKG hok rfl rfl rfl rfl (fun a' w' F' E' => o_move (F'.ev rfl) ⟨Ext.refl _ _, rfl⟩) ?_
        refine mKG hok rfl rfl rfl rfl (fun a' w' F' E' => o_indexSl (F'.ev rfl) (F'.ev rfl) (by omega) (by omega) ⟨Ext.refl _ _, rfl⟩) ?_
        refine mKG hok rfl rfl rfl rfl (fun a' w' F' E' => o_fieldAddr (F'.ev rfl) ⟨Ext.refl _ _, rfl⟩) ?_
        refine mKG hok rfl rfl rfl rfl (fun a' w' F' E' => o_load1 (M1.later E') (F'.ev rfl) (by repeat (first | exact .here | apply Has.there)) (by first | assumption | rfl) ⟨Ext.refl _ _, rfl⟩) ?_
        refine mKG hok rfl rfl rfl rfl (fun a' w' F' E' => o_fieldAddr (F'.ev rfl) ⟨Ext.refl _ _, rfl⟩) ?_
        refine mKG hok rfl rfl rfl rfl (fun a' w' F' E' => o_load1 (M1.later E') (F'.ev rfl) (by repeat (first | exact .here | apply Has.there)) (by first | assumption | rfl) ⟨Ext.refl _ _, rfl⟩) ?_
        refine mKG hok rfl rfl rfl rfl (fun a' w' F' E' => o_eqlT (F'.ev rfl) (F'.ev rfl) (by omega) ⟨Ext.refl _ _, rfl⟩) ?_
        refine mK hok rfl rfl (fun a' w' F' E' => o_pickT (F'.ev rfl) (F'.ev rfl) ⟨Ext.refl _ _, rfl⟩) ?_
        (refine mDone rfl rfl ?_; clear F; clear M; intro a w F hE2 hX hTT hDD hPP; have M := M1.later hE2; clear M1; clear hX; clear hE2; clear hok; clear hE; clear hTT; clear hDD; clear hPP; (try dsimp only at F))
        refine stepD rfl F rfl (o_assign (F.ev rfl) ?_); clear F; clear a; intro a F
        with_reducible refine l_nil ?_
        with_reducible refine q_then ?_
        refine c_true F rfl rfl ?_
        replace F := F.only [11, 10, 8, 5] rfl
        have hpt : put (ovC zs[i]) 17 [.int .i64 (if z.o.h.til < x.o.h.til then x.o.h.til else z.o.h.til)] = some (ovC ⟨later2 z.o x.o, z.u, z.v⟩) := by rw [← hz0]; exact of_put_til hzo'.1 z.u z.v _
        refine c_draw 10 F (by kernel_rfl) ?_
        intro w1 hE hok
        have M1 := M.later hE
        refine mK hok rfl rfl (fun a' w' F' E' => o_load1 (M1.later E') (F'.ev rfl) (by repeat (first | exact .here | apply Has.there)) (by first | assumption | rfl) ⟨Ext.refl _ _, rfl⟩) ?_
        refine mK hok rfl rfl (fun a' w' F' E' => o_move (F'.ev rfl) ⟨Ext.refl _ _, rfl⟩) ?_
        refine mK hok rfl rfl (fun a' w' F' E' => o_load1 (M1.later E') (F'.ev rfl) (by repeat (first | exact .here | apply Has.there)) (by first | assumption | rfl) ⟨Ext.refl _ _, rfl⟩) ?_
        refine mK hok rfl rfl (fun a' w' F' E' => o_move (F'.ev rfl) ⟨Ext.refl _ _, rfl⟩) ?_
        refine mK hok rfl rfl (fun a' w' F' E' => o_indexSl (F'.ev rfl) (F'.ev rfl) (by omega) (by omega) ⟨Ext.refl _ _, rfl⟩) ?_
        refine mK hok rfl rfl (fun a' w' F' E' => o_fieldAddr (F'.ev rfl) ⟨Ext.refl _ _, rfl⟩) ?_
        refine mK hok rfl rfl (fun a' w' F' E' => o_load1 (M1.later E') (F'.ev rfl) (by repeat (first | exact .here | apply Has.there)) (by first | assumption | rfl) ⟨Ext.refl _ _, rfl⟩) ?_
        refine mK hok rfl rfl (fun a' w' F' E' => o_fieldAddr (F'.ev rfl) ⟨Ext.refl _ _, rfl⟩) ?_
        refine mK hok rfl rfl (fun a' w' F' E' => o_load1 (M1.later E') (F'.ev rfl) (by repeat (first | exact .here | apply Has.there)) (by first | assumption | rfl) ⟨Ext.refl _ _, rfl⟩) ?_
        refine mK hok rfl rfl (fun a' w' F' E' => o_max (F'.ev rfl) (F'.ev rfl) ⟨Ext.refl _ _, rfl⟩) ?_
        (refine mDone rfl rfl ?_; clear F; clear M; intro a w F hE2 hX hTT hDD hPP; have M := M1.later hE2; clear M1; clear hX; clear hE2; clear hok; clear hE; clear hTT; clear hDD; clear hPP; (try dsimp only at F))
        refine stepD rfl F rfl (o_indexSl (F.ev rfl) (F.ev rfl) (by omega) (by omega) ?_); clear F; clear a; intro a F
        refine stepD rfl F rfl (o_fieldAddr (F.ev rfl) ?_); clear F; clear a; intro a F
        (refine stepN rfl F (o_store1 M (F.ev rfl) (F.ev rfl) rfl (by repeat (first | exact .here | apply Has.there)) (encL_put hszs junk hil hpt (by omega)) (by repeat (first | exact .here | apply Upd.there)) ?_); clear F; clear M; intro w M a F)
        with_reducible refine l_nil ?_
        refine ⟨zs.set i ⟨later2 z.o x.o, z.u, z.v⟩, _, [(bO, _)], inn, by rw [hins, List.map_set], .inr ⟨bO, sc, junk, by rw [List.length_set], rfl, ?_, by rw [List.length_set]; exact hjl, by rw [List.length_set]; exact hnc⟩, ?_, F.only [8] rfl, (M.perm (l' := ((D, .deferred (some [])) :: (b8, .cells [.slice (some ⟨bO, 0, none⟩) zs.length sc].toArray 52 (0, 0)) :: ([(bO, .cells (encL ovC (zs.set i ⟨later2 z.o x.o, z.u, z.v⟩) ++ junk).toArray 58 (0, 0))] ++ inn)) ++ ((b5, .cells (ovC x).toArray 58 (0, 0)) :: p)) (by classical exact List.perm_iff_count.2 fun _ => by simp only [List.count_append, List.count_cons, List.count_nil, Nat.add_zero, Nat.zero_add] <;> ac_rfl)).sub (List.sublist_append_left _ _)⟩
        · rw [encL_len fun y hy => (List.mem_or_eq_of_mem_set hy).elim (hszs y) fun h => by rw [h]; exact ov_len (x := ⟨later2 z.o x.o, z.u, z.v⟩) (show IsOff (later2 z.o x.o) from ⟨hzo'.1, hzo'.2⟩)]
        · intro y hy
          rcases List.mem_or_eq_of_mem_set hy with h | h
          · exact hI y h
          · rw [h]; exact hI z hzm
      · rw [if_neg c7] at hins
        refine c_draw 11 F (by kernel_rfl) ?_
        intro w1 hE hok
        have M1 := M.later hE
        refine mK hok rfl rfl (fun a' w' F' E' => o_move (F'.ev rfl) ⟨Ext.refl _ _, rfl⟩) ?_
        refine mK hok rfl rfl (fun a' w' F' E' => o_move (F'.ev rfl) ⟨Ext.refl _ _, rfl⟩) ?_
        refine mKG hok rfl rfl rfl rfl (fun a' w' F' E' => o_load1 (M1.later E') (F'.ev rfl) (by repeat (first | exact .here | apply Has.there)) (by first | assumption | rfl) ⟨Ext.refl _ _, rfl⟩) ?_
        refine mKG hok rfl rfl rfl rfl (fun a' w' F' E' => o_move (F'.ev rfl) ⟨Ext.refl _ _, rfl⟩) ?_
        refine mKG hok rfl rfl rfl rfl (fun a' w' F' E' => o_indexSl (F'.ev rfl) (F'.ev rfl) (by omega) (by omega) ⟨Ext.refl _ _, rfl⟩) ?_
        refine mKG hok rfl rfl rfl rfl (fun a' w' F' E' => o_fieldAddr (F'.ev rfl) ⟨Ext.refl _ _, rfl⟩) ?_
        refine mKG hok rfl rfl rfl rfl (fun a' w' F' E' => o_load1 (M1.later E') (F'.ev rfl) (by repeat (first | exact .here | apply Has.there)) (by first | assumption | rfl) ⟨Ext.refl _ _, rfl⟩) ?_
        refine mKG hok rfl rfl rfl rfl (fun a' w' F' E' => o_fieldAddr (F'.ev rfl) ⟨Ext.refl _ _, rfl⟩) ?_
        refine mKG hok rfl rfl rfl rfl (fun a' w' F' E' => o_load1 (M1.later E') (F'.ev rfl) (by repeat (first | exact .here | apply Has.there)) (by first | assumption | rfl) ⟨Ext.refl _ _, rfl⟩) ?_
        refine mKG hok rfl rfl rfl rfl (fun a' w' F' E' => o_eqlF (F'.ev rfl) (F'.ev rfl) (by omega) ⟨Ext.refl _ _, rfl⟩) ?_
        refine mK hok rfl rfl (fun a' w' F' E' => o_pickT (F'.ev rfl) (F'.ev rfl) ⟨Ext.refl _ _, rfl⟩) ?_
        (refine mDone rfl rfl ?_; clear F; clear M; intro a w F hE2 hX hTT hDD hPP; have M := M1.later hE2; clear M1; clear hX; clear hE2; clear hok; clear hE; clear hTT; clear hDD; clear hPP; (try dsimp only at F))
        refine stepD rfl F rfl (o_assign (F.ev rfl) ?_); clear F; clear a; intro a F
        with_reducible refine l_nil ?_
        with_reducible refine q_then ?_
        refine c_false F rfl rfl ?_
        with_reducible refine c_seq ?_
        with_reducible refine c_region ?_
        refine stepD rfl F rfl (o_move (F.ev rfl) ?_); clear F; clear a; intro a F
        refine stepD rfl F rfl (o_assign (F.ev rfl) ?_); clear F; clear a; intro a F
        with_reducible refine l_nil ?_
        with_reducible refine q_then ?_
        refine c_true F rfl rfl ?_
        replace F := F.only [10, 8, 5] rfl
        refine c_draw 4 F (by kernel_rfl) ?_
        intro w1 hE hok
        have M1 := M.later hE
        refine mK hok rfl rfl (fun a' w' F' E' => o_load1 (M1.later E') (F'.ev rfl) (by repeat (first | exact .here | apply Has.there)) (by first | assumption | rfl) ⟨Ext.refl _ _, rfl⟩) ?_
        refine mK hok rfl rfl (fun a' w' F' E' => o_move (F'.ev rfl) ⟨Ext.refl _ _, rfl⟩) ?_
        refine mK hok rfl rfl (fun a' w' F' E' => o_loadA (M1.later E') (F'.ev rfl) (by repeat (first | exact .here | apply Has.there)) (by first | assumption | rfl) ⟨Ext.refl _ _, rfl⟩) ?_
        refine mX (V := NewP w1.heap.size (PhC x.o)) hok rfl rfl (NewP.stays _ _) (fun a' w' F' E' D' => o_call (F'.ev rfl) (F'.evs rfl) (Cal.mono (copyN_c x hxo (by omega) (by omega) _ (hxa.later (M1.later E').ext)) fun _ _ hh => newP_of E' hh)) ?_
        (refine mDone rfl rfl ?_; clear F; clear M; intro a w F hE2 hX hTT hDD hPP; have M := M1.later hE2; (try dsimp only at F); obtain ⟨new, hΦ, hN⟩ := hX 3 _ rfl; replace M := M.joinNew M1 hN; obtain ⟨u, v2, eu, ev, hr, hO1, hO2, rfl⟩ := hΦ; replace F := F.know (d := 90) hr; clear hr; clear hN; clear M1; clear hX; clear hE2; clear hok; clear hE; clear hTT; clear hDD; clear hPP)
        have hone : (ovC ⟨x.o, u, v2⟩).all (·.oneCell') = true := of_one _ _ _ hO1.one hO2.one
        have hlen2 : (ovC ⟨x.o, u, v2⟩).length = 20 := ov_len (x := ⟨x.o, u, v2⟩) hxo
        have hpt : put (ovC zs[i]) 0 (ovC ⟨x.o, u, v2⟩) = some (ovC ⟨x.o, u, v2⟩) := put_all (by rw [hlen2, ← hz0]; exact hszs z hzm)
        replace M := M.perm (l' := (bO, .cells (encL ovC zs ++ junk).toArray 58 (0, 0)) :: (b8, .cells [.slice (some ⟨bO, 0, none⟩) zs.length sc].toArray 52 (0, 0)) :: (b5, .cells (ovC x).toArray 58 (0, 0)) :: (D, .deferred (some [])) :: ((eu ++ ev) ++ (inn ++ p))) (by classical exact List.perm_iff_count.2 fun _ => by simp only [List.count_append, List.count_cons, List.count_nil, Nat.add_zero, Nat.zero_add] <;> ac_rfl)
        refine stepD rfl F rfl (o_indexSl (F.ev rfl) (F.ev rfl) (by omega) (by omega) ?_); clear F; clear a; intro a F
        (refine stepN rfl F (o_storeA M (F.ev rfl) (F.ev rfl) (hlen2) hone  (by repeat (first | exact .here | apply Has.there))  (encL_put hszs junk hil hpt (by omega)) (by repeat (first | exact .here | apply Upd.there)) ?_); clear F; clear M; intro w M a F)
        with_reducible refine l_nil ?_
        refine ⟨zs.set i ⟨x.o, u, v2⟩, _, [(bO, _)], (eu ++ ev) ++ inn, by rw [hins, List.map_set], .inr ⟨bO, sc, junk, by rw [List.length_set], rfl, ?_, by rw [List.length_set]; exact hjl, by rw [List.length_set]; exact hnc⟩, ?_, F.only [8] rfl, (M.perm (l' := ((D, .deferred (some [])) :: (b8, .cells [.slice (some ⟨bO, 0, none⟩) zs.length sc].toArray 52 (0, 0)) :: ([(bO, .cells (encL ovC (zs.set i ⟨x.o, u, v2⟩) ++ junk).toArray 58 (0, 0))] ++ ((eu ++ ev) ++ inn))) ++ ((b5, .cells (ovC x).toArray 58 (0, 0)) :: p)) (by classical exact List.perm_iff_count.2 fun _ => by simp only [List.count_append, List.count_cons, List.count_nil, Nat.add_zero, Nat.zero_add] <;> ac_rfl)).sub (List.sublist_append_left _ _)⟩
        · rw [encL_len fun y hy => (List.mem_or_eq_of_mem_set hy).elim (hszs y) fun h => by rw [h]; exact hlen2]
        · intro y hy
          rcases List.mem_or_eq_of_mem_set hy with h | h
          · exact (hI y h).mono fun p hp => by simp [hp]
          · rw [h]
            exact ⟨eu, ev, hO1, hO2, fun p hp => by simp [hp], fun p hp => by simp [hp]⟩
    · have hf : foundAt zs x.o.h.rt i = false := by
        by_cases hil : i < zs.length
        · rw [foundAt_at hil, decide_eq_false fun h => hfd ⟨hil, h⟩]
        · simp [foundAt, List.getElem?_eq_none (show zs.length ≤ i by omega)]
      have hins2 : insO x.o (curO (xs.map (·.o)) now) = some ((zs.map (·.o)).take i ++ x.o :: (zs.map (·.o)).drop i) := by
        rw [hins]
        by_cases hil : i < zs.length
        · rw [dif_pos hil, if_neg fun h => hfd ⟨hil, h⟩]
        · rw [dif_neg hil]
      clear hins
      rw [hf] at F
      refine c_draw 11 F (by kernel_rfl) ?_
      intro w1 hE hok
      have M1 := M.later hE
      refine mK hok rfl rfl (fun a' w' F' E' => o_move (F'.ev rfl) ⟨Ext.refl _ _, rfl⟩) ?_
      refine mK hok rfl rfl (fun a' w' F' E' => o_move (F'.ev rfl) ⟨Ext.refl _ _, rfl⟩) ?_
      refine mOff hok rfl rfl rfl rfl rfl ?_
      refine mOff hok rfl rfl rfl rfl rfl ?_
      refine mOff hok rfl rfl rfl rfl rfl ?_
      refine mOff hok rfl rfl rfl rfl rfl ?_
      refine mOff hok rfl rfl rfl rfl rfl ?_
      refine mOff hok rfl rfl rfl rfl rfl ?_
      refine mOff hok rfl rfl rfl rfl rfl ?_
      refine mOff hok rfl rfl rfl rfl rfl ?_
      refine mK hok rfl rfl (fun a' w' F' E' => o_pickF (F'.ev rfl) (F'.ev rfl) ⟨Ext.refl _ _, rfl⟩) ?_
      (refine mDone rfl rfl ?_; clear F; clear M; intro a w F hE2 hX hTT hDD hPP; have M := M1.later hE2; clear M1; clear hX; clear hE2; clear hok; clear hE; clear hTT; clear hDD; clear hPP; (try dsimp only at F))
      refine stepD rfl F rfl (o_assign (F.ev rfl) ?_); clear F; clear a; intro a F
      with_reducible refine l_nil ?_
      with_reducible refine q_then ?_
      refine c_false F rfl rfl ?_
      with_reducible refine c_seq ?_
      replace F := F.only [11, 10, 8, 5] rfl
      refine c_draw 11 F (by kernel_rfl) ?_
      intro w1 hE hok
      have M1 := M.later hE
      refine mK hok rfl rfl (fun a' w' F' E' => o_move (F'.ev rfl) ⟨Ext.refl _ _, rfl⟩) ?_
      refine mK hok rfl rfl (fun a' w' F' E' => o_move (F'.ev rfl) ⟨Ext.refl _ _, rfl⟩) ?_
      refine mOff hok rfl rfl rfl rfl rfl ?_
      refine mOff hok rfl rfl rfl rfl rfl ?_
      refine mOff hok rfl rfl rfl rfl rfl ?_
      refine mOff hok rfl rfl rfl rfl rfl ?_
      refine mOff hok rfl rfl rfl rfl rfl ?_
      refine mOff hok rfl rfl rfl rfl rfl ?_
      refine mOff hok rfl rfl rfl rfl rfl ?_
      refine mOff hok rfl rfl rfl rfl rfl ?_
      refine mK hok rfl rfl (fun a' w' F' E' => o_pickF (F'.ev rfl) (F'.ev rfl) ⟨Ext.refl _ _, rfl⟩) ?_
      (refine mDone rfl rfl ?_; clear F; clear M; intro a w F hE2 hX hTT hDD hPP; have M := M1.later hE2; clear M1; clear hX; clear hE2; clear hok; clear hE; clear hTT; clear hDD; clear hPP; (try dsimp only at F))
      refine stepD rfl F rfl (o_assign (F.ev rfl) ?_); clear F; clear a; intro a F
      with_reducible refine l_nil ?_
      with_reducible refine q_then ?_
      refine c_false F rfl rfl ?_
      with_reducible refine c_seq ?_
      with_reducible refine c_region ?_
      refine stepD rfl F rfl (o_move (F.ev rfl) ?_); clear F; clear a; intro a F
      refine stepD rfl F rfl (o_assign (F.ev rfl) ?_); clear F; clear a; intro a F
      with_reducible refine l_nil ?_
      with_reducible refine q_then ?_
      refine c_false F rfl rfl ?_
      replace F := F.only [10, 8, 5] rfl
      refine c_draw 5 F (by kernel_rfl) ?_
      intro w1 hE hok
      have M1 := M.later hE
      refine mK hok rfl rfl (fun a' w' F' E' => o_load1 (M1.later E') (F'.ev rfl) (by repeat (first | exact .here | apply Has.there)) (by first | assumption | rfl) ⟨Ext.refl _ _, rfl⟩) ?_
      refine mK hok rfl rfl (fun a' w' F' E' => o_move (F'.ev rfl) ⟨Ext.refl _ _, rfl⟩) ?_
      refine mK hok rfl rfl (fun a' w' F' E' => o_loadA (M1.later E') (F'.ev rfl) (by repeat (first | exact .here | apply Has.there)) (by first | assumption | rfl) ⟨Ext.refl _ _, rfl⟩) ?_
      refine mX (V := NewP w1.heap.size (PhC x.o)) hok rfl rfl (NewP.stays _ _) (fun a' w' F' E' D' => o_call (F'.ev rfl) (F'.evs rfl) (Cal.mono (copyN_c x hxo (by omega) (by omega) _ (hxa.later (M1.later E').ext)) fun _ _ hh => newP_of E' hh)) ?_
      refine mX (V := NewP w1.heap.size (PhS x.o)) hok rfl rfl (NewP.stays _ _) (fun a' w' F' E' D' => bs1 hxo F' E' (D' 3 (memDep rfl) _ rfl)) ?_
      (refine mDone rfl rfl ?_; clear F; clear M; intro a w F hE2 hX hTT hDD hPP; have M := M1.later hE2; (try dsimp only at F); obtain ⟨new, hΦ, hN⟩ := hX 4 _ rfl; replace M := M.joinNew M1 hN; obtain ⟨b3, u, v2, eu, ev, hr, hO1, hO2, rfl⟩ := hΦ; replace F := F.know (d := 47) hr; clear hr; clear hN; clear M1; clear hX; clear hE2; clear hok; clear hE; clear hTT; clear hDD; clear hPP)
      have hone : (ovC ⟨x.o, u, v2⟩).all (·.oneCell') = true := of_one _ _ _ hO1.one hO2.one
      have hlen2 : (ovC ⟨x.o, u, v2⟩).length = 20 := ov_len (x := ⟨x.o, u, v2⟩) hxo
      replace M := M.perm (l' := (b3, .cells (ovC ⟨x.o, u, v2⟩).toArray 58 (0, 0)) :: (b8, .cells [.slice sp zs.length sc].toArray 52 (0, 0)) :: (b5, .cells (ovC x).toArray 58 (0, 0)) :: (D, .deferred (some [])) :: ((eu ++ ev) ++ (inn ++ (p ++ ent)))) (by classical exact List.perm_iff_count.2 fun _ => by simp only [List.count_append, List.count_cons, List.count_nil, Nat.add_zero, Nat.zero_add] <;> ac_rfl)
      (refine stepD rfl F rfl (o_call (F.ev rfl) (F.evs rfl) (Cal.mono (insertOf_c i hPle (vb := b3) (ovC ⟨x.o, u, v2⟩) hlen2 (encL_all fun z hz => (hI z hz).one) hone _ M hO (.cons (.cons (.cons (.cons (.app (.app (.app .here))))))) .here (fun q hq e => (List.nodup_cons.1 M.nd).1 (List.mem_map.2 ⟨q, by simp [hq], e⟩)) (by omega)) ?_)); clear F; clear a; clear M; rintro sv2 w ⟨ent2, hO9, M⟩ a F)
      obtain ⟨sp2, sc2, rfl⟩ := hO9.slice
      have hlz : (zs.take i ++ (⟨x.o, u, v2⟩ : OV) :: zs.drop i).length = zs.length + 1 := by simp; omega
      (refine stepN rfl F (o_store1 M (F.ev rfl) (F.ev rfl) rfl (by repeat (first | exact .here | apply Has.there)) (by rfl) (by repeat (first | exact .here | apply Upd.there)) ?_); clear F; clear M; intro w M a F)
      with_reducible refine l_nil ?_
      refine ⟨zs.take i ++ (⟨x.o, u, v2⟩ : OV) :: zs.drop i, .slice sp2 (zs.length + 1) sc2, ent2, (eu ++ ev) ++ inn, by rw [hins2]; simp, ?_, ?_, F.only [8] rfl, (M.perm (l' := ((D, .deferred (some [])) :: (b8, .cells [.slice sp2 (zs.length + 1) sc2].toArray 52 (0, 0)) :: (ent2 ++ ((eu ++ ev) ++ inn))) ++ ((b3, .cells (ovC ⟨x.o, u, v2⟩).toArray 58 (0, 0)) :: (b5, .cells (ovC x).toArray 58 (0, 0)) :: p)) (by classical exact List.perm_iff_count.2 fun _ => by simp only [List.count_append, List.count_cons, List.count_nil, Nat.add_zero, Nat.zero_add] <;> ac_rfl)).sub (List.sublist_append_left _ _)⟩
      · rw [hlz, encL_app, encL_cons, ← encL_take hszs, ← encL_drop hszs]; exact hO9
      · intro y hy
        rcases List.mem_append.1 hy with h | h
        · exact (hI y (List.mem_of_mem_take h)).mono fun p hp => by simp [hp]
        · rcases List.mem_cons.1 h with h | h
          · rw [h]
            exact ⟨eu, ev, hO1, hO2, fun p hp => by simp [hp], fun p hp => by simp [hp]⟩
          · exact (hI y (List.mem_of_mem_drop h)).mono fun p hp => by simp [hp]
end Go.Proofs.Ytainnefmobfcjaa
/-! F7 -/
namespace Go.Proofs.Ytainnefmobfcjaa
set_option linter.unusedVariables false
set_option linter.unusedSimpArgs false
open Go.RowKit
attribute [local irreducible] OpTo wpListIn Code.wpIn MW Cal
theorem s_idxE {P : Program} {ρ : Operand → Value} {w : World} {R : Value → World → Prop} {d : Option Tmp} {ty : TypeId} {pos : String} {af : Array Edge} {g : Option (Nat × Bool)} {t : TypeId} {x i : Operand} {k : IntKind} {m : Int} {bs : List UInt8} {q : Nat} (hx : ρ x = mkS bs) (hi : ρ i = .int k m) [ht : TU P t .string] (hq : m = q) (hl : q < bs.length) (h : ∀ z : Int, 0 ≤ z → z ≤ 255 → R (.int .u8 z) w) : OpTo P ⟨d, .index t x i, ty, pos, af, g⟩ ρ w R :=
  s_idx hx hi hq hl (h _ (byte_lt _).1 (byte_lt _).2)
theorem len64one_c (W : World) : Cal Try.prog 123 [.int .u64 1].toArray W fun v w' => ∃ z : Int, v = .int .i64 z ∧ Mem [] W w' [] := by
  refine fn_ofM (n := 25) [] Try.func123 rfl rfl rfl ?_
  intro a w F M hwW
  with_reducible refine c_seq ?_
  with_reducible refine c_region ?_
  refine stepD rfl F rfl (o_assign (F.ev rfl) ?_); clear F; clear a; intro a F
  with_reducible refine l_nil ?_
  with_reducible refine q_then ?_
  with_reducible refine c_seq ?_
  with_reducible refine c_seq ?_
  with_reducible refine c_region ?_
  refine stepD rfl F rfl (o_move (F.ev rfl) ?_); clear F; clear a; intro a F
  refine stepD rfl F rfl (o_geqF (F.ev rfl) (F.ev rfl) (by omega) ?_); clear F; clear a; intro a F
  with_reducible refine l_nil ?_
  with_reducible refine q_then ?_
  refine c_false F rfl rfl ?_
  with_reducible refine c_skip ?_
  with_reducible refine q_then ?_
  with_reducible refine c_seq ?_
  with_reducible refine c_seq ?_
  with_reducible refine c_region ?_
  refine stepD rfl F rfl (o_move (F.ev rfl) ?_); clear F; clear a; intro a F
  refine stepD rfl F rfl (o_geqF (F.ev rfl) (F.ev rfl) (by omega) ?_); clear F; clear a; intro a F
  with_reducible refine l_nil ?_
  with_reducible refine q_then ?_
  refine c_false F rfl rfl ?_
  with_reducible refine c_skip ?_
  with_reducible refine q_then ?_
  with_reducible refine c_seq ?_
  with_reducible refine c_seq ?_
  with_reducible refine c_region ?_
  refine stepD rfl F rfl (o_move (F.ev rfl) ?_); clear F; clear a; intro a F
  refine stepD rfl F rfl (o_geqF (F.ev rfl) (F.ev rfl) (by omega) ?_); clear F; clear a; intro a F
  with_reducible refine l_nil ?_
  with_reducible refine q_then ?_
  refine c_false F rfl rfl ?_
  with_reducible refine c_skip ?_
  with_reducible refine q_then ?_
  with_reducible refine c_seq ?_
  with_reducible refine c_region ?_
  refine stepD rfl F rfl (o_move (F.ev rfl) ?_); clear F; clear a; intro a F
  refine stepD rfl F rfl (o_move (F.ev rfl) ?_); clear F; clear a; intro a F
  refine stepD rfl F rfl (o_conv (F.ev rfl) (w_u8 (by omega) (by omega)) ?_); clear F; clear a; intro a F
  (refine stepD rfl F rfl (s_idxE (q := 1) (F.ev rfl) (F.ev rfl) rfl (Nat.le_of_ble_eq_true (by kernel_rfl)) ?_); intro z hz0 hz1; clear F; clear a; intro a F)
  refine stepD rfl F rfl (o_conv (F.ev rfl) (w_i64 (by omega) (by omega)) ?_); clear F; clear a; intro a F
  refine stepD rfl F rfl (o_add (F.ev rfl) (F.ev rfl) (w_i64 (by omega) (by omega)) ?_); clear F; clear a; intro a F
  refine stepD rfl F rfl (o_assign (F.ev rfl) ?_); clear F; clear a; intro a F
  with_reducible refine l_nil ?_
  with_reducible refine q_then ?_
  with_reducible refine c_ret ?_
  refine p_ret F rfl (.cons (.tmp (F.ev rfl)) .nil) ?_
  exact ⟨z, by simp [oneOr], M⟩
theorem lenone_c (W : World) : Cal Try.prog 107 [.int .u64 1].toArray W fun v w' => ∃ z : Int, v = .int .i64 z ∧ Mem [] W w' [] := by
  refine fn_ofM (n := 8) [] Try.func107 rfl rfl rfl ?_
  intro a w F M hwW
  with_reducible refine c_seq ?_
  with_reducible refine c_region ?_
  refine stepD rfl F rfl (o_assign (F.ev rfl) ?_); clear F; clear a; intro a F
  with_reducible refine l_nil ?_
  with_reducible refine q_then ?_
  with_reducible refine c_seq ?_
  refine c_false F rfl rfl ?_
  with_reducible refine c_skip ?_
  with_reducible refine q_then ?_
  with_reducible refine c_seq ?_
  with_reducible refine c_region ?_
  refine stepD rfl F rfl (o_move (F.ev rfl) ?_); clear F; clear a; intro a F
  (refine stepD rfl F rfl (o_call (F.ev rfl) (F.evs rfl) (Cal.mono (len64one_c _ ) ?_)); clear F; clear a; rintro _ w ⟨z, rfl, N⟩ a F; replace M := M.joins N; clear N)
  refine stepD rfl F rfl (o_assign (F.ev rfl) ?_); clear F; clear a; intro a F
  with_reducible refine l_nil ?_
  with_reducible refine q_then ?_
  with_reducible refine c_ret ?_
  refine p_ret F rfl (.cons (.tmp (F.ev rfl)) .nil) ?_
  exact ⟨z, rfl, M⟩
theorem ins1_c (s g : Value) (W : World) : Cal Try.prog 114 [s, .int .i64 0, .int .i64 1, g].toArray W fun v w' => v = .tuple #[] ∧ Ext [] W w' := by
  refine fn_ofM (n := 53) [] Try.func114 rfl rfl rfl ?_
  intro a w F M hwW
  with_reducible refine c_seq ?_
  with_reducible refine c_region ?_
  refine stepD rfl F rfl (o_move (F.ev rfl) ?_); clear F; clear a; intro a F
  refine stepD rfl F rfl (o_add (F.ev rfl) (F.ev rfl) (w_i64 (by omega) (by omega)) ?_); clear F; clear a; intro a F
  refine stepD rfl F rfl (o_assign (F.ev rfl) ?_); clear F; clear a; intro a F
  with_reducible refine l_nil ?_
  with_reducible refine q_then ?_
  with_reducible refine c_block ?_
  refine c_loop (fun m a w => m = 0 ∧ Frm a 53 [] [(8, .int .i64 1), (2, .int .i64 1)] ∧ Mem [] W w []) 0 ⟨rfl, F.only [8, 2] rfl, M⟩ ?_
  clear F M
  rintro m a w ⟨hm, F, M⟩
  with_reducible refine c_seq ?_
  with_reducible refine c_seq ?_
  with_reducible refine c_region ?_
  refine stepD rfl F rfl (o_move (F.ev rfl) ?_); clear F; clear a; intro a F
  refine stepD rfl F rfl (o_move (F.ev rfl) ?_); clear F; clear a; intro a F
  refine stepD rfl F rfl (o_lssF (F.ev rfl) (F.ev rfl) (by omega) ?_); clear F; clear a; intro a F
  with_reducible refine l_nil ?_
  with_reducible refine q_then ?_
  refine c_false F rfl rfl ?_
  with_reducible refine c_exit ?_
  with_reducible refine q_thenX ?_
  with_reducible refine q_thenX ?_
  with_reducible refine q_inBX ?_
  exact p_end F rfl .nil ⟨rfl, M.ext⟩
theorem pdq1_c (s g : Value) (z : Int) (W : World) : Cal Try.prog 106 [s, .int .i64 0, .int .i64 1, .int .i64 z, g].toArray W fun v w' => v = .tuple #[] ∧ Ext [] W w' := by
  refine fn_ofM (n := 148) [] Try.func106 rfl rfl rfl ?_
  intro a w F M hwW
  with_reducible refine c_seq ?_
  with_reducible refine c_region ?_
  refine stepD rfl F rfl (o_assign (F.ev rfl) ?_); clear F; clear a; intro a F
  with_reducible refine l_nil ?_
  with_reducible refine q_then ?_
  with_reducible refine c_seq ?_
  with_reducible refine c_region ?_
  refine stepD rfl F rfl (o_assign (F.ev rfl) ?_); clear F; clear a; intro a F
  with_reducible refine l_nil ?_
  with_reducible refine q_then ?_
  with_reducible refine c_block ?_
  refine c_loop (fun m a w => m = 0 ∧ Frm a 148 [] [(0, s), (1, .int .i64 0), (2, .int .i64 1), (3, .int .i64 z), (4, g)] ∧ Mem [] W w []) 0 ⟨rfl, F.only [0, 1, 2, 3, 4] rfl, M⟩ ?_
  clear F M
  rintro m a w ⟨hm, F, M⟩
  with_reducible refine c_block ?_
  with_reducible refine c_seq ?_
  with_reducible refine c_region ?_
  refine stepD rfl F rfl (o_move (F.ev rfl) ?_); clear F; clear a; intro a F
  refine stepD rfl F rfl (o_move (F.ev rfl) ?_); clear F; clear a; intro a F
  refine stepD rfl F rfl (o_sub (F.ev rfl) (F.ev rfl) (w_i64 (by omega) (by omega)) ?_); clear F; clear a; intro a F
  refine stepD rfl F rfl (o_assign (F.ev rfl) ?_); clear F; clear a; intro a F
  with_reducible refine l_nil ?_
  with_reducible refine q_then ?_
  with_reducible refine c_seq ?_
  with_reducible refine c_seq ?_
  with_reducible refine c_region ?_
  refine stepD rfl F rfl (o_move (F.ev rfl) ?_); clear F; clear a; intro a F
  refine stepD rfl F rfl (o_leqT (F.ev rfl) (F.ev rfl) (by omega) ?_); clear F; clear a; intro a F
  with_reducible refine l_nil ?_
  with_reducible refine q_then ?_
  refine c_true F rfl rfl ?_
  with_reducible refine c_seq ?_
  with_reducible refine c_region ?_
  refine stepD rfl F rfl (o_move (F.ev rfl) ?_); clear F; clear a; intro a F
  refine stepD rfl F rfl (o_move (F.ev rfl) ?_); clear F; clear a; intro a F
  refine stepD rfl F rfl (o_move (F.ev rfl) ?_); clear F; clear a; intro a F
  refine stepD rfl F rfl (o_move (F.ev rfl) ?_); clear F; clear a; intro a F
  (refine stepD rfl F rfl (o_call (F.ev rfl) (F.evs rfl) (Cal.mono (ins1_c _ _ _) ?_)); clear F; clear a; rintro _ w ⟨rfl, hE⟩ a F; replace M := M.later hE; clear hE)
  with_reducible refine l_nil ?_
  with_reducible refine q_then ?_
  with_reducible refine c_ret ?_
  with_reducible refine q_thenR ?_
  with_reducible refine q_inBR ?_
  with_reducible refine q_thenR ?_
  with_reducible refine q_inBR ?_
  refine p_ret F rfl .nil ?_
  exact ⟨rfl, M.ext⟩
theorem sort1_c (b c : Nat) (g : Value) (W : World) : Cal Try.prog 89 [.slice (some ⟨b, 0, none⟩) 1 c, g].toArray W fun v w' => v = .tuple #[] ∧ Ext [] W w' := by
  refine fn_ofM (n := 14) [] Try.func89 rfl rfl rfl ?_
  intro a w F M hwW
  with_reducible refine c_seq ?_
  with_reducible refine c_region ?_
  refine stepD rfl F rfl (o_move (F.ev rfl) ?_); clear F; clear a; intro a F
  refine stepD rfl F rfl (o_lenSl (F.ev rfl) ?_); clear F; clear a; intro a F
  refine stepD rfl F rfl (o_assign (F.ev rfl) ?_); clear F; clear a; intro a F
  with_reducible refine l_nil ?_
  with_reducible refine q_then ?_
  with_reducible refine c_region ?_
  refine stepD rfl F rfl (o_move (F.ev rfl) ?_); clear F; clear a; intro a F
  refine stepD rfl F rfl (o_move (F.ev rfl) ?_); clear F; clear a; intro a F
  refine stepD rfl F rfl (o_move (F.ev rfl) ?_); clear F; clear a; intro a F
  refine stepD rfl F rfl (o_conv (F.ev rfl) (w_u64 (by omega) (by omega)) ?_); clear F; clear a; intro a F
  (refine stepD rfl F rfl (o_call (F.ev rfl) (F.evs rfl) (Cal.mono (lenone_c _ ) ?_)); clear F; clear a; rintro _ w ⟨z, rfl, N⟩ a F; replace M := M.joins N; clear N)
  refine stepD rfl F rfl (o_move (F.ev rfl) ?_); clear F; clear a; intro a F
  (refine stepD rfl F rfl (o_call (F.ev rfl) (F.evs rfl) (Cal.mono (pdq1_c _ _ _ _) ?_)); clear F; clear a; rintro _ w ⟨rfl, hE⟩ a F; replace M := M.later hE; clear hE)
  with_reducible refine l_nil ?_
  exact p_end F rfl .nil ⟨rfl, M.ext⟩
theorem compact1_c (b c : Nat) (W : World) : Cal Try.prog 90 [.slice (some ⟨b, 0, none⟩) 1 c].toArray W fun v w' => v = .slice (some ⟨b, 0, none⟩) 1 c ∧ Ext [] W w' := by
  refine fn_ofM (n := 61) [] Try.func90 rfl rfl rfl ?_
  intro a w F M hwW
  with_reducible refine c_seq ?_
  with_reducible refine c_region ?_
  refine stepD rfl F rfl (o_assign (F.ev rfl) ?_); clear F; clear a; intro a F
  with_reducible refine l_nil ?_
  with_reducible refine q_then ?_
  with_reducible refine c_seq ?_
  with_reducible refine c_seq ?_
  with_reducible refine c_region ?_
  refine stepD rfl F rfl (o_move (F.ev rfl) ?_); clear F; clear a; intro a F
  refine stepD rfl F rfl (o_lenSl (F.ev rfl) ?_); clear F; clear a; intro a F
  refine stepD rfl F rfl (o_lssT (F.ev rfl) (F.ev rfl) (by omega) ?_); clear F; clear a; intro a F
  with_reducible refine l_nil ?_
  with_reducible refine q_then ?_
  refine c_true F rfl rfl ?_
  with_reducible refine c_seq ?_
  with_reducible refine c_region ?_
  refine stepD rfl F rfl (o_move (F.ev rfl) ?_); clear F; clear a; intro a F
  refine stepD rfl F rfl (o_assign (F.ev rfl) ?_); clear F; clear a; intro a F
  with_reducible refine l_nil ?_
  with_reducible refine q_then ?_
  with_reducible refine c_ret ?_
  with_reducible refine q_thenR ?_
  refine p_ret F rfl (.cons (.tmp (F.ev rfl)) .nil) ?_
  exact ⟨rfl, M.ext⟩
end Go.Proofs.Ytainnefmobfcjaa
/-! F8 -/
namespace Go.Proofs.Ytainnefmobfcjaa
set_option linter.unusedVariables false
set_option linter.unusedSimpArgs false
open Go.RowKit
attribute [local irreducible] OpTo wpListIn Code.wpIn MW Cal
abbrev ipsC (ls : List (List Int)) : List Value := encL ipC ls
theorem build_ip1 {a : List Int} (h : a.length = 16) : putAll (placesL 1 16) (zerosL [.int .u8 0, .int .u8 0, .int .u8 0, .int .u8 0, .int .u8 0, .int .u8 0, .int .u8 0, .int .u8 0, .int .u8 0, .int .u8 0, .int .u8 0, .int .u8 0, .int .u8 0, .int .u8 0, .int .u8 0, .int .u8 0] (1 * 16)) [(0, ipC a)] = some (ipC a) := by
  obtain ⟨x0, x1, x2, x3, x4, x5, x6, x7, x8, x9, x10, x11, x12, x13, x14, x15, rfl⟩ := len16 h
  rfl
theorem joinI_isIP {p : List Int} (hp : IsIP p) {v : Int} (hv : 0 ≤ v) : IsIP (joinI p v) := by
  obtain ⟨n, rfl⟩ := Int.eq_ofNat_of_zero_le hv
  refine ⟨by simp [joinI, beB_len, hp.len], fun z hz => ?_⟩
  rcases List.mem_append.1 hz with h | h
  · exact hp.bd z (List.mem_of_mem_take h)
  · exact beB_bd n z h
def addr1 (iid : Int) (p : PInf) : Option (List Int) := if p.aut && (p.bits == 64 && !(p.life == 0)) then joinP p.ip p.bits iid else none
def rawA (iid : Int) (o : Off) : List (List Int) := o.ps.filterMap (addr1 iid)
def rawL (iid : Int) (os : List Off) : List (List Int) := os.flatMap (rawA iid)
theorem rawA_len (iid : Int) (o : Off) : (rawA iid o).length ≤ o.ps.length := List.length_filterMap_le _ _
theorem rawL_len (iid : Int) : ∀ (os : List Off), (∀ o ∈ os, o.ps.length ≤ 16) → (rawL iid os).length ≤ os.length * 16
  | [], _ => by simp [rawL]
  | o :: os, h => by
    have h1 := rawA_len iid o
    have h2 := h o (by simp)
    have h3 := rawL_len iid os fun x hx => h x (by simp [hx])
    simp only [rawL, List.flatMap_cons, List.length_append, List.length_cons] at h3 ⊢
    omega
theorem rawA_take {iid : Int} {ps : List PInf} {j : Nat} (hj : j < ps.length) : (ps.take (j + 1)).filterMap (addr1 iid) = (ps.take j).filterMap (addr1 iid) ++ (addr1 iid ps[j]).toList := by
  rw [List.take_add_one, List.getElem?_eq_getElem hj, List.filterMap_append]
  congr 1
/-- what is asked of the sort and of the compaction of a list of addresses -/
def SortOk (Pl : List (List Int) → Prop) (Ql : List (List Int) → List (List Int) → Prop) : Prop :=
  ∀ (S : List Nat) (W0 w : World) (l : List (Nat × Obj)) (f : List (Nat × Obj) → List (Nat × Obj)) (v : Value) (ls : List (List Int)) (ent : List (Nat × Obj)), Mem S W0 w l → OwnS 26 16 v ls.length (ipsC ls) ent → TailAt ent l f → (∀ a ∈ ls, IsIP a) → Pl ls →
    Cal Try.prog 89 [v, .func (.func 45) #[] #[]].toArray w fun _ w' => ∃ ls' ent', Ql ls ls' ∧ OwnS 26 16 v ls'.length (ipsC ls') ent' ∧ Mem S W0 w' (f ent')
def CompOk (Pl : List (List Int) → Prop) (Ql : List (List Int) → List (List Int) → Prop) : Prop :=
  ∀ (S : List Nat) (W0 w : World) (l : List (Nat × Obj)) (f : List (Nat × Obj) → List (Nat × Obj)) (v : Value) (ls : List (List Int)) (ent : List (Nat × Obj)), Mem S W0 w l → OwnS 26 16 v ls.length (ipsC ls) ent → TailAt ent l f → Pl ls →
    Cal Try.prog 90 [v].toArray w fun r w' => ∃ ls' ent', Ql ls ls' ∧ OwnS 26 16 r ls'.length (ipsC ls') ent' ∧ Mem S W0 w' (f ent')
set_option maxHeartbeats 8000000 in
theorem addresses_c (xs : List OV) (hx : ∀ x ∈ xs, IsOff x.o) (v : Value) (now : Int) (eui : Int) (he : 0 ≤ eui) (iid : Int) (hiid0 : 0 ≤ iid) (hii : iidA 3 0 eui = some iid) (W : World) (hS : SlAt W 20 v xs.length (encL ovC xs)) (hA : ∀ x ∈ xs, OffAt W x)
    (hv : validL (xs.map (·.o)) = true) (htm : isTime now = true) (he0 : ¬ eui = 0) {P1 P2 : List (List Int) → Prop} {Q1 Q2 : List (List Int) → List (List Int) → Prop} (hso : SortOk P1 Q1) (hco : CompOk P2 Q2) (hp1 : P1 (rawL iid (curO (xs.map (·.o)) now))) (hp2 : ∀ ls', Q1 (rawL iid (curO (xs.map (·.o)) now)) ls' → P2 ls') :
    Cal Try.prog 59 [v, .int .i64 now, .int .u64 eui].toArray W fun r w' => ∃ ls1 ls2, Q1 (rawL iid (curO (xs.map (·.o)) now)) ls1 ∧ Q2 ls1 ls2 ∧ SlAt w' 16 r ls2.length (ipsC ls2) ∧ Ext [] W w' := by
  have hSs := hS
  obtain ⟨q, cap, rfl, hcap, hsp, hl, hm⟩ := hS
  have hlen := validL_len hv
  rw [List.length_map] at hlen
  have hopt : optU (iidA 3 0 eui) = .tuple #[.int .u64 iid, .bool true] := by rw [hii]; rfl
  have hipl : ∀ {ip : List Int} {n : Int} {r : List Int}, IsIP ip → joinP ip n iid = some r → IsIP r := fun {ip n r} h hj => by
    unfold joinP at hj
    split at hj
    · cases hj
      exact joinI_isIP h hiid0
    · cases hj
  refine fn_ofM (n := 77) [] Try.func59 rfl rfl rfl ?_
  intro a w F M hwW
  with_reducible refine c_seq ?_
  with_reducible refine c_region ?_
  refine stepD rfl F rfl (o_assign (F.ev rfl) ?_); clear F; clear a; intro a F
  with_reducible refine l_nil ?_
  with_reducible refine q_then ?_
  with_reducible refine c_seq ?_
  with_reducible refine c_seq ?_
  with_reducible refine c_region ?_
  refine stepD rfl F rfl (o_move (F.ev rfl) ?_); clear F; clear a; intro a F
  (refine stepD rfl F rfl (o_call (F.ev rfl) (F.evs rfl) (Cal.mono (validL_c xs hx _ _ (hSs.later M.ext) (fun z hz => (hA z hz).later M.ext)) ?_)); clear F; clear a; rintro _ w ⟨rfl, hE⟩ a F; replace M := M.later hE; clear hE)
  rw [hv] at F
  refine stepD rfl F rfl (o_not (F.ev rfl) ?_); clear F; clear a; intro a F
  refine stepD rfl F rfl (o_move (F.ev rfl) ?_); clear F; clear a; intro a F
  refine stepG rfl F rfl rfl rfl (o_move (F.ev rfl) ?_); clear F; clear a; intro a F
  (refine stepG rfl F rfl rfl rfl (o_call (F.ev rfl) (F.evs rfl) (Cal.mono (isTime_c now _) ?_)); clear F; clear a; rintro _ w ⟨rfl, hE⟩ a F; replace M := M.later hE; clear hE)
  rw [htm] at F
  refine stepG rfl F rfl rfl rfl (o_not (F.ev rfl) ?_); clear F; clear a; intro a F
  refine stepD rfl F rfl (o_pickF (F.ev rfl) (F.ev rfl) ?_); clear F; clear a; intro a F
  refine stepD rfl F rfl (o_move (F.ev rfl) ?_); clear F; clear a; intro a F
  refine stepG rfl F rfl rfl rfl (o_move (F.ev rfl) ?_); clear F; clear a; intro a F
  refine stepG rfl F rfl rfl rfl (o_eqlF (F.ev rfl) (F.ev rfl) (by omega) ?_); clear F; clear a; intro a F
  refine stepD rfl F rfl (o_pickF (F.ev rfl) (F.ev rfl) ?_); clear F; clear a; intro a F
  with_reducible refine l_nil ?_
  with_reducible refine q_then ?_
  refine c_false F rfl rfl ?_
  with_reducible refine c_skip ?_
  with_reducible refine q_then ?_
  with_reducible refine c_seq ?_
  with_reducible refine c_region ?_
  refine stepD rfl F rfl (o_move (F.ev rfl) ?_); clear F; clear a; intro a F
  refine stepD rfl F rfl (o_build F rfl rfl ?_); clear F; clear a; intro a F
  (refine stepD rfl F rfl (o_call (F.ev rfl) (F.evs rfl) (Cal.mono (iid_c 3 0 eui (by omega) (by omega) _) ?_)); clear F; clear a; rintro _ w ⟨rfl, hE⟩ a F; replace M := M.later hE; clear hE)
  rw [hopt] at F
  refine stepD rfl F rfl (o_move (F.ev rfl) ?_); clear F; clear a; intro a F
  refine stepD rfl F rfl (o_extract (F.ev rfl) rfl ?_); clear F; clear a; intro a F
  refine stepD rfl F rfl (o_extract (F.ev rfl) rfl ?_); clear F; clear a; intro a F
  (refine stepD rfl F rfl (o_alloc M ?_); clear F; clear M; intro b7 w M a F)
  (refine stepN rfl F (o_store1 M (F.ev rfl) (F.ev rfl) rfl (by repeat (first | exact .here | apply Has.there)) (by rfl) (by repeat (first | exact .here | apply Upd.there)) ?_); clear F; clear M; intro w M a F)
  refine stepD rfl F rfl (o_assign (F.ev rfl) ?_); clear F; clear a; intro a F
  with_reducible refine l_nil ?_
  with_reducible refine q_then ?_
  with_reducible refine c_seq ?_
  with_reducible refine c_seq ?_
  with_reducible refine c_region ?_
  refine stepD rfl F rfl (o_move (F.ev rfl) ?_); clear F; clear a; intro a F
  refine stepD rfl F rfl (o_not (F.ev rfl) ?_); clear F; clear a; intro a F
  with_reducible refine l_nil ?_
  with_reducible refine q_then ?_
  refine c_false F rfl rfl ?_
  with_reducible refine c_skip ?_
  with_reducible refine q_then ?_
  with_reducible refine c_seq ?_
  with_reducible refine c_region ?_
  (refine stepD rfl F rfl (o_alloc M ?_); clear F; clear M; intro b9 w M a F)
  with_reducible refine l_nil ?_
  with_reducible refine q_then ?_
  with_reducible refine c_seq ?_
  with_reducible refine c_seq ?_
  with_reducible refine c_region ?_
  refine stepD rfl F rfl (o_move (F.ev rfl) ?_); clear F; clear a; intro a F
  refine stepD rfl F rfl (o_move (F.ev rfl) ?_); clear F; clear a; intro a F
  (refine stepD rfl F rfl (o_call (F.ev rfl) (F.evs rfl) (Cal.mono (current_c _ now _ rfl ) ?_)); clear F; clear a; rintro _ w ⟨c2, c3, rfl, N⟩ a F; replace M := M.joins N; clear N)
  with_reducible refine l_nil ?_
  with_reducible refine q_then ?_
  with_reducible refine c_block ?_
  replace F := F.only [37, 7, 9] rfl
  replace M := M.perm (l' := [(b9, .cells [.slice none 0 0].toArray 112 (0, 0)), (b7, .cells [.int .u64 iid].toArray 35 (0, 0))] ++ curB (.slice q xs.length cap) now c2 c3) List.perm_append_comm
  refine c_rangeAt (α := OV) (ps := [38]) F M rfl (cur_iter W xs hx _ hSs hA (by omega) now c2 c3) (fun _ => rfl) rfl
    (fun pre l => ∃ sv ent, OwnS 26 16 sv (rawL iid (pre.map (·.o))).length (ipsC (rawL iid (pre.map (·.o)))) ent ∧ (∀ a ∈ rawL iid (pre.map (·.o)), IsIP a) ∧ l = [(b9, .cells [sv].toArray 112 (0, 0)), (b7, .cells [.int .u64 iid].toArray 35 (0, 0))] ++ ent)
    (fun c pre l => False)
    ⟨_, [], OwnS.nil _ _, by simp [rawL], rfl⟩ ?round ?done ?stop
  case stop =>
    intro D c pre l' p' W' a' h
    exact h.elim
  case round =>
    clear F M
    rintro L pre y _ w p a hok ⟨sv, ent, hO, hI, rfl⟩ M F
    have hym : y ∈ curX xs now := hok.subset (by simp)
    have hyx : y ∈ xs := (List.mem_filter.1 hym).1
    have hyo := hx y hyx
    have hya := hA y hyx
    have hyv := validO_len (validL_each hv (List.mem_map_of_mem hyx))
    have hrl : (rawL iid (pre.map (·.o))).length ≤ 128 := by
      have h1 : ∀ o ∈ pre.map (·.o), o.ps.length ≤ 16 := fun o ho => by
        obtain ⟨x', h2, rfl⟩ := List.mem_map.1 ho
        have h3 : x' ∈ curX xs now := hok.subset (by simp [h2])
        exact (validO_len (validL_each hv (List.mem_map_of_mem (List.mem_filter.1 h3).1))).1
      have h2 := rawL_len iid _ h1
      have h3 : (pre ++ [y]).length ≤ (curX xs now).length := hok.length_le
      have h4 : (curX xs now).length ≤ xs.length := List.length_filter_le _ _
      simp at h3 h2
      omega
    have f2 : (ovC y).length = 20 := ov_len hyo
    have hya2 := hya
    obtain ⟨⟨q1, cap1, hu, hc1, hn1, hl1, hm1⟩, _⟩ := hya
    have f4 : nth (ovC y) 18 = some (.slice q1 y.o.ps.length cap1) := by rw [← hu]; exact of_ps hyo.1 _ _
    refine c_region ?_
    (refine stepD rfl F rfl (o_alloc M ?_); clear F; clear M; intro b10 w M a F)
    (refine stepN rfl F (o_storeA M (F.ev rfl) (F.ev rfl) (f2) (ov_one hya2)  (by repeat (first | exact .here | apply Has.there))  (put_all (by rw [f2]; rfl)) (by repeat (first | exact .here | apply Upd.there)) ?_); clear F; clear M; intro w M a F)
    refine l_nil ?_
    refine q_then ?_
    replace M : Mem [] W w (((b10, .cells (ovC y).toArray 58 (0, 0)) :: ([(b9, .cells [sv].toArray 112 (0, 0)), (b7, .cells [.int .u64 iid].toArray 35 (0, 0))] ++ ent)) ++ p) := M
    refine ⟨_, M, ?_⟩
    clear M
    intro w p M
    replace M := M.perm (l' := (b10, .cells (ovC y).toArray 58 (0, 0)) :: (b9, .cells [sv].toArray 112 (0, 0)) :: (b7, .cells [.int .u64 iid].toArray 35 (0, 0)) :: (p ++ ent)) (by classical exact List.perm_iff_count.2 fun _ => by simp only [List.count_append, List.count_cons, List.count_nil, Nat.add_zero, Nat.zero_add] <;> ac_rfl)
    replace F := F.only [10, 9, 7] rfl
    with_reducible refine c_block ?_
    with_reducible refine c_seq ?_
    with_reducible refine c_region ?_
    refine stepD rfl F rfl (o_fieldAddr (F.ev rfl) ?_); clear F; clear a; intro a F
    refine stepD rfl F rfl (o_load1 M (F.ev rfl) (by repeat (first | exact .here | apply Has.there)) (by first | assumption | rfl) ?_); clear F; clear a; intro a F
    refine stepD rfl F rfl (o_lenSl (F.ev rfl) ?_); clear F; clear a; intro a F
    refine stepD rfl F rfl (o_move (F.ev rfl) ?_); clear F; clear a; intro a F
    with_reducible refine l_nil ?_
    with_reducible refine q_then ?_
    with_reducible refine c_block ?_
    refine c_loop (fun m a w => ∃ (j : Nat) (R : List (List Int)) (sv : Value) (ent : List (Nat × Obj)), m = y.o.ps.length - j ∧ j ≤ y.o.ps.length ∧ R = rawL iid (pre.map (·.o)) ++ (y.o.ps.take j).filterMap (addr1 iid) ∧ R.length ≤ 128 + j ∧ (∀ a ∈ R, IsIP a) ∧ OwnS 26 16 sv R.length (ipsC R) ent ∧ Frm a 77 [] [(42, .int .i64 j), (41, .int .i64 y.o.ps.length), (40, .slice q1 y.o.ps.length cap1), (10, .pointer (some ⟨b10, 0, none⟩)), (9, .pointer (some ⟨b9, 0, none⟩)), (7, .pointer (some ⟨b7, 0, none⟩))] ∧ Mem [] W w ((b10, .cells (ovC y).toArray 58 (0, 0)) :: (b9, .cells [sv].toArray 112 (0, 0)) :: (b7, .cells [.int .u64 iid].toArray 35 (0, 0)) :: (p ++ ent))) y.o.ps.length ⟨0, _, sv, ent, rfl, by omega, by simp, hrl, hI, hO, F.only [42, 41, 40, 10, 9, 7] rfl, M⟩ ?_
    clear F M hO hI sv ent
    rintro m a w ⟨j, R, sv, ent, hm', hj, hR, hRl, hI, hO, F, M⟩
    by_cases hlt : j < y.o.ps.length
    · obtain ⟨b, o, cs, t, fz, rfl, hb, hs⟩ := hm1 (by omega)
      have hrt := rawA_take (iid := iid) hlt
      obtain ⟨p1, hp0⟩ : ∃ p1, p1 = y.o.ps[j] := ⟨_, rfl⟩
      rw [← hp0] at hrt
      have hpi : IsPi p1 := by rw [hp0]; exact hyo.2.1 _ (List.getElem_mem hlt)
      have f1 : seg cs (o + (j : Int).toNat * 20) 20 = some (piC p1) := by rw [hp0]; exact seg_el (pis_len hyo.2.1) hs hlt (by omega)
      have g1 := pi_aut hpi
      have g2 := pi_bits hpi
      have g3 := pi_life hpi
      have g4 := pi_pre hpi
      obtain ⟨sp, sc, rfl⟩ := hO.slice
      with_reducible refine c_seq ?_
      with_reducible refine c_region ?_
      refine stepD rfl F rfl (o_lssT (F.ev rfl) (F.ev rfl) (by omega) ?_); clear F; clear a; intro a F
      with_reducible refine l_nil ?_
      with_reducible refine q_then ?_
      with_reducible refine c_seq ?_
      refine c_true F rfl rfl ?_
      with_reducible refine c_skip ?_
      with_reducible refine q_then ?_
      with_reducible refine c_seq ?_
      with_reducible refine c_block ?_
      with_reducible refine c_seq ?_
      with_reducible refine c_region ?_
      refine stepD rfl F rfl (o_indexSl (F.ev rfl) (F.ev rfl) (by omega) (by omega) ?_); clear F; clear a; intro a F
      refine stepD rfl F rfl (o_loadWA M (F.ev rfl) (by assumption) (by first | assumption | rfl) ?_); clear F; clear a; intro a F
      (refine stepD rfl F rfl (o_alloc M ?_); clear F; clear M; intro b12 w M a F)
      (refine stepN rfl F (o_storeA M (F.ev rfl) (F.ev rfl) (pi_len hpi) (pi_one _)  (by repeat (first | exact .here | apply Has.there))  (put_all (by rw [pi_len hpi]; rfl)) (by repeat (first | exact .here | apply Upd.there)) ?_); clear F; clear M; intro w M a F)
      by_cases hc : p1.aut = true ∧ p1.bits = 64 ∧ ¬ p1.life = 0
      · obtain ⟨h1, h2, h3⟩ := hc
        have ha1 : addr1 iid p1 = joinP p1.ip p1.bits iid := by unfold addr1; rw [h1, h2]; simp [h3]
        rw [h1] at g1
        rw [ha1] at hrt
        with_reducible refine l_nil ?_
        with_reducible refine q_then ?_
        with_reducible refine c_seq ?_
        with_reducible refine c_seq ?_
        with_reducible refine c_region ?_
        refine stepD rfl F rfl (o_fieldAddr (F.ev rfl) ?_); clear F; clear a; intro a F
        refine stepD rfl F rfl (o_load1 M (F.ev rfl) (by repeat (first | exact .here | apply Has.there)) (by first | assumption | rfl) ?_); clear F; clear a; intro a F
        refine stepD rfl F rfl (o_not (F.ev rfl) ?_); clear F; clear a; intro a F
        refine stepD rfl F rfl (o_move (F.ev rfl) ?_); clear F; clear a; intro a F
        refine stepG rfl F rfl rfl rfl (o_fieldAddr (F.ev rfl) ?_); clear F; clear a; intro a F
        refine stepG rfl F rfl rfl rfl (o_fieldAddr (F.ev rfl) ?_); clear F; clear a; intro a F
        refine stepG rfl F rfl rfl rfl (o_load1 M (F.ev rfl) (by repeat (first | exact .here | apply Has.there)) (by first | assumption | rfl) ?_); clear F; clear a; intro a F
        refine stepG rfl F rfl rfl rfl (o_neqF (F.ev rfl) (F.ev rfl) (by omega) ?_); clear F; clear a; intro a F
        refine stepD rfl F rfl (o_pickF (F.ev rfl) (F.ev rfl) ?_); clear F; clear a; intro a F
        refine stepD rfl F rfl (o_move (F.ev rfl) ?_); clear F; clear a; intro a F
        refine stepG rfl F rfl rfl rfl (o_fieldAddr (F.ev rfl) ?_); clear F; clear a; intro a F
        refine stepG rfl F rfl rfl rfl (o_load1 M (F.ev rfl) (by repeat (first | exact .here | apply Has.there)) (by first | assumption | rfl) ?_); clear F; clear a; intro a F
        refine stepG rfl F rfl rfl rfl (o_eqlF (F.ev rfl) (F.ev rfl) (by omega) ?_); clear F; clear a; intro a F
        refine stepD rfl F rfl (o_pickF (F.ev rfl) (F.ev rfl) ?_); clear F; clear a; intro a F
        with_reducible refine l_nil ?_
        with_reducible refine q_then ?_
        refine c_false F rfl rfl ?_
        with_reducible refine c_skip ?_
        with_reducible refine q_then ?_
        with_reducible refine c_seq ?_
        with_reducible refine c_region ?_
        refine stepD rfl F rfl (o_fieldAddr (F.ev rfl) ?_); clear F; clear a; intro a F
        refine stepD rfl F rfl (o_loadA M (F.ev rfl) (by repeat (first | exact .here | apply Has.there)) (by first | assumption | rfl) ?_); clear F; clear a; intro a F
        refine stepD rfl F rfl (o_load1 M (F.ev rfl) (by repeat (first | exact .here | apply Has.there)) (by first | assumption | rfl) ?_); clear F; clear a; intro a F
        (refine stepD rfl F rfl (o_call (F.ev rfl) (F.evs rfl) (Cal.mono (join_c p1.ip hpi.len p1.bits iid hiid0 _) ?_)); clear F; clear a; rintro _ w ⟨rfl, hE⟩ a F; replace M := M.later hE; clear hE)
        cases hjn : joinP p1.ip p1.bits iid with
        | none =>
          rw [hjn, show optIP none = .tuple #[.agg (ipC zeroIP).toArray, .bool false] from rfl] at F
          rw [hjn] at hrt
          refine stepD rfl F rfl (o_move (F.ev rfl) ?_); clear F; clear a; intro a F
          refine stepD rfl F rfl (o_extract (F.ev rfl) rfl ?_); clear F; clear a; intro a F
          refine stepD rfl F rfl (o_extract (F.ev rfl) rfl ?_); clear F; clear a; intro a F
          (refine stepD rfl F rfl (o_alloc M ?_); clear F; clear M; intro b13 w M a F)
          (refine stepN rfl F (o_storeA M (F.ev rfl) (F.ev rfl) (ipC_len rfl) (one_ip _)  (by repeat (first | exact .here | apply Has.there))  (put_all rfl) (by repeat (first | exact .here | apply Upd.there)) ?_); clear F; clear M; intro w M a F)
          refine stepD rfl F rfl (o_assign (F.ev rfl) ?_); clear F; clear a; intro a F
          with_reducible refine l_nil ?_
          with_reducible refine q_then ?_
          with_reducible refine c_seq ?_
          with_reducible refine c_region ?_
          refine stepD rfl F rfl (o_move (F.ev rfl) ?_); clear F; clear a; intro a F
          with_reducible refine l_nil ?_
          with_reducible refine q_then ?_
          refine c_false F rfl rfl ?_
          with_reducible refine c_skip ?_
          with_reducible refine q_inB ?_
          with_reducible refine q_then ?_
          with_reducible refine c_region ?_
          refine stepD rfl F rfl (o_add (F.ev rfl) (F.ev rfl) (w_i64 (by omega) (by omega)) ?_); clear F; clear a; intro a F
          refine stepD rfl F rfl (o_move (F.ev rfl) ?_); clear F; clear a; intro a F
          with_reducible refine l_nil ?_
          with_reducible refine q_then ?_
          exact ⟨_, by omega, j + 1, R, _, ent, rfl, by omega, by rw [hrt, hR]; simp, by omega, hI, hO, F.only [42, 41, 40, 10, 9, 7] rfl, M.sub (.cons _ (.cons _ (.refl _)))⟩
        | some r =>
          rw [hjn, show optIP (some r) = .tuple #[.agg (ipC r).toArray, .bool true] from rfl] at F
          rw [hjn] at hrt
          have hri : IsIP r := hipl hpi hjn
          have k1 := ipC_len hri.len
          have k2 : seg (ipC r) 0 16 = some (ipC r) := seg_all k1
          refine stepD rfl F rfl (o_move (F.ev rfl) ?_); clear F; clear a; intro a F
          refine stepD rfl F rfl (o_extract (F.ev rfl) rfl ?_); clear F; clear a; intro a F
          refine stepD rfl F rfl (o_extract (F.ev rfl) rfl ?_); clear F; clear a; intro a F
          (refine stepD rfl F rfl (o_alloc M ?_); clear F; clear M; intro b13 w M a F)
          (refine stepN rfl F (o_storeA M (F.ev rfl) (F.ev rfl) (k1) (one_ip _)  (by repeat (first | exact .here | apply Has.there))  (put_all (by rw [k1]; rfl)) (by repeat (first | exact .here | apply Upd.there)) ?_); clear F; clear M; intro w M a F)
          refine stepD rfl F rfl (o_assign (F.ev rfl) ?_); clear F; clear a; intro a F
          with_reducible refine l_nil ?_
          with_reducible refine q_then ?_
          with_reducible refine c_seq ?_
          with_reducible refine c_region ?_
          refine stepD rfl F rfl (o_move (F.ev rfl) ?_); clear F; clear a; intro a F
          with_reducible refine l_nil ?_
          with_reducible refine q_then ?_
          refine c_true F rfl rfl ?_
          with_reducible refine c_region ?_
          refine stepD rfl F rfl (o_load1 M (F.ev rfl) (by repeat (first | exact .here | apply Has.there)) (by first | assumption | rfl) ?_); clear F; clear a; intro a F
          refine stepD rfl F rfl (o_loadA M (F.ev rfl) (by repeat (first | exact .here | apply Has.there)) (by first | assumption | rfl) ?_); clear F; clear a; intro a F
          (refine stepD rfl F rfl (o_buildSlice F M rfl rfl rfl (build_ip1 hri.len) ?_); clear F; clear M; intro b70 w M a F)
          (refine stepD rfl F rfl (o_append hO M (.cons (.cons (.cons (.cons (.cons (.cons (.app .here))))))) (F.ev rfl) (F.ev rfl) (SrcOf.cells' (M.heap .here) (sg_all (by omega)) (one_ip _)) (by omega) (by omega) ?_); clear F; clear M; clear hO; intro u2 ent2 w hO M a F)
          obtain ⟨sp2, sc2, rfl⟩ := hO.slice
          skip
          (refine stepN rfl F (o_store1 M (F.ev rfl) (F.ev rfl) rfl (by repeat (first | exact .here | apply Has.there)) (by rfl) (by repeat (first | exact .here | apply Upd.there)) ?_); clear F; clear M; intro w M a F)
          with_reducible refine l_nil ?_
          with_reducible refine q_inB ?_
          with_reducible refine q_then ?_
          with_reducible refine c_region ?_
          refine stepD rfl F rfl (o_add (F.ev rfl) (F.ev rfl) (w_i64 (by omega) (by omega)) ?_); clear F; clear a; intro a F
          refine stepD rfl F rfl (o_move (F.ev rfl) ?_); clear F; clear a; intro a F
          with_reducible refine l_nil ?_
          with_reducible refine q_then ?_
          refine ⟨_, by omega, j + 1, R ++ [r], _, ent2, rfl, by omega, by rw [hrt, hR]; simp, by simp; omega, ?_, ?_, F.only [42, 41, 40, 10, 9, 7] rfl, M.sub (.cons _ (.cons _ (.cons _ (.refl _))))⟩
          · intro z hz
            rcases List.mem_append.1 hz with h | h
            · exact hI z h
            · simp only [List.mem_singleton] at h
              subst h; exact hri
          · rw [show (R ++ [r]).length = R.length + 1 by simp, ipsC, encL_app, encL_one]; exact hO
      · have ha1 : addr1 iid p1 = none := by
          unfold addr1
          rw [if_neg]
          intro h
          simp only [Bool.and_eq_true, beq_iff_eq, Bool.not_eq_true', beq_eq_false_iff_ne] at h
          exact hc ⟨h.1, h.2.1, h.2.2⟩
        rw [ha1] at hrt
        have fin : ∀ {a : Act} {w : World}, Frm a 77 [] [(42, .int .i64 ((j + 1 : Nat) : Int)), (41, .int .i64 y.o.ps.length), (40, .slice (some ⟨b, o, none⟩) y.o.ps.length cap1), (10, .pointer (some ⟨b10, 0, none⟩)), (9, .pointer (some ⟨b9, 0, none⟩)), (7, .pointer (some ⟨b7, 0, none⟩))] → Mem [] W w ((b12, .cells (piC p1).toArray 111 (0, 0)) :: (b10, .cells (ovC y).toArray 58 (0, 0)) :: (b9, .cells [.slice sp R.length sc].toArray 112 (0, 0)) :: (b7, .cells [.int .u64 iid].toArray 35 (0, 0)) :: (p ++ ent)) → ∃ k', k' < m ∧ ∃ (j : Nat) (R : List (List Int)) (sv : Value) (ent : List (Nat × Obj)), k' = y.o.ps.length - j ∧ j ≤ y.o.ps.length ∧ R = rawL iid (pre.map (·.o)) ++ (y.o.ps.take j).filterMap (addr1 iid) ∧ R.length ≤ 128 + j ∧ (∀ a ∈ R, IsIP a) ∧ OwnS 26 16 sv R.length (ipsC R) ent ∧ Frm a 77 [] [(42, .int .i64 j), (41, .int .i64 y.o.ps.length), (40, .slice (some ⟨b, o, none⟩) y.o.ps.length cap1), (10, .pointer (some ⟨b10, 0, none⟩)), (9, .pointer (some ⟨b9, 0, none⟩)), (7, .pointer (some ⟨b7, 0, none⟩))] ∧ Mem [] W w ((b10, .cells (ovC y).toArray 58 (0, 0)) :: (b9, .cells [sv].toArray 112 (0, 0)) :: (b7, .cells [.int .u64 iid].toArray 35 (0, 0)) :: (p ++ ent)) :=
          fun F M => ⟨_, by omega, j + 1, R, _, ent, rfl, by omega, by rw [hrt, hR]; simp, by omega, hI, hO, F, M.sub (.cons _ (.refl _))⟩
        by_cases h1 : p1.aut = true
        · rw [h1] at g1
          by_cases h2 : p1.bits = 64
          · have h3 : p1.life = 0 := Decidable.byContradiction fun h => hc ⟨h1, h2, h⟩
            with_reducible refine l_nil ?_
            with_reducible refine q_then ?_
            with_reducible refine c_seq ?_
            with_reducible refine c_seq ?_
            with_reducible refine c_region ?_
            refine stepD rfl F rfl (o_fieldAddr (F.ev rfl) ?_); clear F; clear a; intro a F
            refine stepD rfl F rfl (o_load1 M (F.ev rfl) (by repeat (first | exact .here | apply Has.there)) (by first | assumption | rfl) ?_); clear F; clear a; intro a F
            refine stepD rfl F rfl (o_not (F.ev rfl) ?_); clear F; clear a; intro a F
            refine stepD rfl F rfl (o_move (F.ev rfl) ?_); clear F; clear a; intro a F
            refine stepG rfl F rfl rfl rfl (o_fieldAddr (F.ev rfl) ?_); clear F; clear a; intro a F
            refine stepG rfl F rfl rfl rfl (o_fieldAddr (F.ev rfl) ?_); clear F; clear a; intro a F
            refine stepG rfl F rfl rfl rfl (o_load1 M (F.ev rfl) (by repeat (first | exact .here | apply Has.there)) (by first | assumption | rfl) ?_); clear F; clear a; intro a F
            refine stepG rfl F rfl rfl rfl (o_neqF (F.ev rfl) (F.ev rfl) (by omega) ?_); clear F; clear a; intro a F
            refine stepD rfl F rfl (o_pickF (F.ev rfl) (F.ev rfl) ?_); clear F; clear a; intro a F
            refine stepD rfl F rfl (o_move (F.ev rfl) ?_); clear F; clear a; intro a F
            refine stepG rfl F rfl rfl rfl (o_fieldAddr (F.ev rfl) ?_); clear F; clear a; intro a F
            refine stepG rfl F rfl rfl rfl (o_load1 M (F.ev rfl) (by repeat (first | exact .here | apply Has.there)) (by first | assumption | rfl) ?_); clear F; clear a; intro a F
            refine stepG rfl F rfl rfl rfl (o_eqlT (F.ev rfl) (F.ev rfl) (by omega) ?_); clear F; clear a; intro a F
            refine stepD rfl F rfl (o_pickF (F.ev rfl) (F.ev rfl) ?_); clear F; clear a; intro a F
            with_reducible refine l_nil ?_
            with_reducible refine q_then ?_
            refine c_true F rfl rfl ?_
            with_reducible refine c_exit ?_
            with_reducible refine q_thenX ?_
            with_reducible refine q_inBX ?_
            with_reducible refine q_then ?_
            with_reducible refine c_region ?_
            refine stepD rfl F rfl (o_add (F.ev rfl) (F.ev rfl) (w_i64 (by omega) (by omega)) ?_); clear F; clear a; intro a F
            refine stepD rfl F rfl (o_move (F.ev rfl) ?_); clear F; clear a; intro a F
            with_reducible refine l_nil ?_
            with_reducible refine q_then ?_
            exact fin (F.only [42, 41, 40, 10, 9, 7] rfl) M
          · with_reducible refine l_nil ?_
            with_reducible refine q_then ?_
            with_reducible refine c_seq ?_
            with_reducible refine c_seq ?_
            with_reducible refine c_region ?_
            refine stepD rfl F rfl (o_fieldAddr (F.ev rfl) ?_); clear F; clear a; intro a F
            refine stepD rfl F rfl (o_load1 M (F.ev rfl) (by repeat (first | exact .here | apply Has.there)) (by first | assumption | rfl) ?_); clear F; clear a; intro a F
            refine stepD rfl F rfl (o_not (F.ev rfl) ?_); clear F; clear a; intro a F
            refine stepD rfl F rfl (o_move (F.ev rfl) ?_); clear F; clear a; intro a F
            refine stepG rfl F rfl rfl rfl (o_fieldAddr (F.ev rfl) ?_); clear F; clear a; intro a F
            refine stepG rfl F rfl rfl rfl (o_fieldAddr (F.ev rfl) ?_); clear F; clear a; intro a F
            refine stepG rfl F rfl rfl rfl (o_load1 M (F.ev rfl) (by repeat (first | exact .here | apply Has.there)) (by first | assumption | rfl) ?_); clear F; clear a; intro a F
            refine stepG rfl F rfl rfl rfl (o_neqT (F.ev rfl) (F.ev rfl) (by omega) ?_); clear F; clear a; intro a F
            refine stepD rfl F rfl (o_pickF (F.ev rfl) (F.ev rfl) ?_); clear F; clear a; intro a F
            refine stepD rfl F rfl (o_move (F.ev rfl) ?_); clear F; clear a; intro a F
            refine stepOff F rfl rfl rfl rfl ?_; clear F; clear a; intro a F
            refine stepOff F rfl rfl rfl rfl ?_; clear F; clear a; intro a F
            refine stepOff F rfl rfl rfl rfl ?_; clear F; clear a; intro a F
            refine stepD rfl F rfl (o_pickT (F.ev rfl) (F.ev rfl) ?_); clear F; clear a; intro a F
            with_reducible refine l_nil ?_
            with_reducible refine q_then ?_
            refine c_true F rfl rfl ?_
            with_reducible refine c_exit ?_
            with_reducible refine q_thenX ?_
            with_reducible refine q_inBX ?_
            with_reducible refine q_then ?_
            with_reducible refine c_region ?_
            refine stepD rfl F rfl (o_add (F.ev rfl) (F.ev rfl) (w_i64 (by omega) (by omega)) ?_); clear F; clear a; intro a F
            refine stepD rfl F rfl (o_move (F.ev rfl) ?_); clear F; clear a; intro a F
            with_reducible refine l_nil ?_
            with_reducible refine q_then ?_
            exact fin (F.only [42, 41, 40, 10, 9, 7] rfl) M
        · rw [show p1.aut = false by simpa using h1] at g1
          with_reducible refine l_nil ?_
          with_reducible refine q_then ?_
          with_reducible refine c_seq ?_
          with_reducible refine c_seq ?_
          with_reducible refine c_region ?_
          refine stepD rfl F rfl (o_fieldAddr (F.ev rfl) ?_); clear F; clear a; intro a F
          refine stepD rfl F rfl (o_load1 M (F.ev rfl) (by repeat (first | exact .here | apply Has.there)) (by first | assumption | rfl) ?_); clear F; clear a; intro a F
          refine stepD rfl F rfl (o_not (F.ev rfl) ?_); clear F; clear a; intro a F
          refine stepD rfl F rfl (o_move (F.ev rfl) ?_); clear F; clear a; intro a F
          refine stepOff F rfl rfl rfl rfl ?_; clear F; clear a; intro a F
          refine stepOff F rfl rfl rfl rfl ?_; clear F; clear a; intro a F
          refine stepOff F rfl rfl rfl rfl ?_; clear F; clear a; intro a F
          refine stepOff F rfl rfl rfl rfl ?_; clear F; clear a; intro a F
          refine stepD rfl F rfl (o_pickT (F.ev rfl) (F.ev rfl) ?_); clear F; clear a; intro a F
          refine stepD rfl F rfl (o_move (F.ev rfl) ?_); clear F; clear a; intro a F
          refine stepOff F rfl rfl rfl rfl ?_; clear F; clear a; intro a F
          refine stepOff F rfl rfl rfl rfl ?_; clear F; clear a; intro a F
          refine stepOff F rfl rfl rfl rfl ?_; clear F; clear a; intro a F
          refine stepD rfl F rfl (o_pickT (F.ev rfl) (F.ev rfl) ?_); clear F; clear a; intro a F
          with_reducible refine l_nil ?_
          with_reducible refine q_then ?_
          refine c_true F rfl rfl ?_
          with_reducible refine c_exit ?_
          with_reducible refine q_thenX ?_
          with_reducible refine q_inBX ?_
          with_reducible refine q_then ?_
          with_reducible refine c_region ?_
          refine stepD rfl F rfl (o_add (F.ev rfl) (F.ev rfl) (w_i64 (by omega) (by omega)) ?_); clear F; clear a; intro a F
          refine stepD rfl F rfl (o_move (F.ev rfl) ?_); clear F; clear a; intro a F
          with_reducible refine l_nil ?_
          with_reducible refine q_then ?_
          exact fin (F.only [42, 41, 40, 10, 9, 7] rfl) M
    · obtain rfl : j = y.o.ps.length := by omega
      with_reducible refine c_seq ?_
      with_reducible refine c_region ?_
      refine stepD rfl F rfl (o_lssF (F.ev rfl) (F.ev rfl) (by omega) ?_); clear F; clear a; intro a F
      with_reducible refine l_nil ?_
      with_reducible refine q_then ?_
      with_reducible refine c_seq ?_
      refine c_false F rfl rfl ?_
      with_reducible refine c_exit ?_
      with_reducible refine q_thenX ?_
      with_reducible refine q_thenX ?_
      with_reducible refine q_inBX ?_
      with_reducible refine q_inB ?_
      have hR2 : rawL iid ((pre ++ [y]).map (·.o)) = R := by
        rw [hR, List.take_length]; simp [rawL, rawA]
      refine ⟨_, ⟨sv, ent, by rw [hR2]; exact hO, by rw [hR2]; exact hI, rfl⟩, (M.perm (l' := (([(b9, .cells [sv].toArray 112 (0, 0)), (b7, .cells [.int .u64 iid].toArray 35 (0, 0))] ++ ent) ++ p) ++ [(b10, .cells (ovC y).toArray 58 (0, 0))]) (by classical exact List.perm_iff_count.2 fun _ => by simp only [List.count_append, List.count_cons, List.count_nil, Nat.add_zero, Nat.zero_add] <;> ac_rfl)).sub (List.sublist_append_left _ _)⟩
  case done =>
    clear F M
    rintro D ys _ p w a rfl ⟨sv, ent, hO, hI, rfl⟩ M F
    rw [curX_map] at hO hI
    replace M := M.perm (l' := (D, .deferred (some [])) :: (b9, .cells [sv].toArray 112 (0, 0)) :: (b7, .cells [.int .u64 iid].toArray 35 (0, 0)) :: (p ++ ent)) (by classical exact List.perm_iff_count.2 fun _ => by simp only [List.count_append, List.count_cons, List.count_nil, Nat.add_zero, Nat.zero_add] <;> ac_rfl)
    with_reducible refine q_inB ?_
    with_reducible refine q_then ?_
    with_reducible refine c_seq ?_
    with_reducible refine c_region ?_
    refine stepD rfl F rfl (o_load1 M (F.ev rfl) (by repeat (first | exact .here | apply Has.there)) (by first | assumption | rfl) ?_); clear F; clear a; intro a F
    (refine stepD rfl F rfl (o_call (F.ev rfl) (F.evs rfl) (Cal.mono (hso _ _ _ _ _ _ _ _ M hO (.cons (.cons (.cons (.app .here)))) hI hp1) ?_)); clear F; clear a; clear M; rintro _ w ⟨ls1, ent1, hq1, hO1, M⟩ a F)
    with_reducible refine l_nil ?_
    with_reducible refine q_then ?_
    with_reducible refine c_seq ?_
    with_reducible refine c_region ?_
    refine stepD rfl F rfl (o_load1 M (F.ev rfl) (by repeat (first | exact .here | apply Has.there)) (by first | assumption | rfl) ?_); clear F; clear a; intro a F
    (refine stepD rfl F rfl (o_call (F.ev rfl) (F.evs rfl) (Cal.mono (hco _ _ _ _ _ _ _ _ M hO1 (.cons (.cons (.cons (.app .here)))) (hp2 _ hq1)) ?_)); clear F; clear a; clear M; rintro r w ⟨ls2, ent2, hq2, hO2, M⟩ a F)
    refine stepD rfl F rfl (o_assign (F.ev rfl) ?_); clear F; clear a; intro a F
    with_reducible refine l_nil ?_
    with_reducible refine q_then ?_
    with_reducible refine c_ret ?_
    exact p_ret1 F M .here rfl fun w' M' => ⟨.cons (.tmp (F.ev rfl)) .nil, ls1, ls2, hq1, hq2, hO2.slAt M' fun p hp => by simp [hp], M'.ext⟩
end Go.Proofs.Ytainnefmobfcjaa

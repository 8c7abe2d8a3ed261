/-
  PROVED: for every input whose arguments hold together at most 1048576 values and letters AddressPrefixes answers true, and each argument reads afterwards as it read before (the card: the listed variables are tied to the program's text).
-/
import Derived.Test.YtadnpidadcgdcaaDoorMPfx5
/-! X2 -/
/-
  The reference's Decimal, FormatPrefix, Contains, Covers, ParsePrefix.
-/
namespace Go.Proofs.YtadnpidadcgdcaaDoor
set_option linter.unusedVariables false
set_option linter.unusedSimpArgs false
open Go.RowKit
attribute [local irreducible] OpTo wpListIn Code.wpIn MW Cal

theorem itoa_dig : ∀ k : Fin 10, Lib.itoa (k.1 : Int) = [UInt8.ofNat (48 + k.1)] := by decide +kernel
theorem itoa_step : ∀ k : Fin 1000, 10 ≤ k.1 → Lib.itoa (k.1 : Int) = Lib.itoa ((k.1 / 10 : Nat) : Int) ++ [UInt8.ofNat (48 + k.1 % 10)] := by decide +kernel
theorem quo10 {v : Int} (h0 : 0 ≤ v) (h1 : v < 65536) : IntKind.i64.wrap (v.tdiv 10) = v / 10 := by
  rw [Int.tdiv_eq_ediv_of_nonneg h0, w_i64 (by omega) (by omega)]
theorem rem10 {v : Int} (h0 : 0 ≤ v) : v.tmod 10 = v % 10 := Int.tmod_eq_emod_of_nonneg h0
theorem str_one {v : Int} : Value.string (strOfNums [v]) = mkS [UInt8.ofNat v.toNat] := rfl

set_option maxHeartbeats 400000 in
theorem dec0_c (k : Nat) (h1 : k < 10) (W : World) : Cal Tryd.prog 78 [.int .i64 k].toArray W fun x w' => x = mkS (Lib.itoa k) ∧ Ext [] W w' := by
  refine fn_ofM (n := 20) [] Tryd.func78 rfl rfl rfl ?_
  intro a w F M hwW
  with_reducible refine c_seq ?_
  with_reducible refine c_region ?_
  refine stepD rfl F rfl (o_assign (F.ev rfl) ?_); clear F; clear a; intro a F
  with_reducible refine l_nil ?_
  with_reducible refine q_then ?_
  with_reducible refine c_seq ?_
  with_reducible refine c_seq ?_
  with_reducible refine c_region ?_
  refine stepD rfl F rfl (o_move (F.ev rfl) ?_); clear F; clear a; intro a F
  refine stepD rfl F rfl (o_lssT (F.ev rfl) (F.ev rfl) (by omega) ?_); clear F; clear a; intro a F
  with_reducible refine l_nil ?_
  with_reducible refine q_then ?_
  refine c_true F rfl rfl ?_
  with_reducible refine c_seq ?_
  with_reducible refine c_region ?_
  refine stepD rfl F rfl (o_move (F.ev rfl) ?_); clear F; clear a; intro a F
  refine stepD rfl F rfl (o_add (F.ev rfl) (F.ev rfl) (w_i64 (by omega) (by omega)) ?_); clear F; clear a; intro a F
  refine stepD rfl F rfl (o_conv (F.ev rfl) (w_u8 (by omega) (by omega)) ?_); clear F; clear a; intro a F
  (refine stepD rfl F rfl (o_buildSlice F M rfl rfl rfl rfl ?_); clear F; clear M; intro b8 w M a F)
  (refine stepD rfl F rfl (o_convBS (xs := [48 + (k : Int)]) M (F.ev rfl) .here rfl ?_); clear F; clear a; intro a F)
  refine stepD rfl F rfl (o_assign (F.ev rfl) ?_); clear F; clear a; intro a F
  with_reducible refine l_nil ?_
  with_reducible refine q_then ?_
  with_reducible refine c_ret ?_
  with_reducible refine q_thenR ?_
  refine p_ret F rfl (.cons (.tmp (F.ev rfl)) .nil) ?_
  refine ⟨?_, M.ext⟩
  rw [itoa_dig ⟨k, h1⟩]
  show Value.string (strOfNums [48 + (k : Int)]) = _
  rw [str_one, show (48 + (k : Int)).toNat = 48 + k by omega]
theorem Mem.just {w : World} {b : Nat} {o : Obj} (h : w.heap[b]? = some o) : Mem [b] w w [(b, o)] :=
  ⟨Ext.refl _ _, fun p hp => by rw [List.mem_singleton.1 hp]; exact h, by simp, fun p hp => .inl (by rw [List.mem_singleton.1 hp]; simp)⟩
theorem Mem.empty (w : World) : Mem [] w w [] := ⟨Ext.refl _ _, fun p hp => (by cases hp), by simp, fun p hp => (by cases hp)⟩
set_option maxHeartbeats 400000 in
theorem dec1_c (k : Nat) (h0 : 10 ≤ k) (h1 : k < 1000) (W : World) (ih : ∀ w, Cal Tryd.prog 78 [.int .i64 (k / 10 : Nat)].toArray w fun x w' => x = mkS (Lib.itoa (k / 10 : Nat)) ∧ Ext [] w w') : Cal Tryd.prog 78 [.int .i64 k].toArray W fun x w' => x = mkS (Lib.itoa k) ∧ Ext [] W w' := by
  have hl := Lib.itoa_length_le (k / 10 : Nat) (by omega) (by omega)
  obtain ⟨dd, hdd⟩ : ∃ x : Int, x = 48 + (k : Int) % 10 := ⟨_, rfl⟩
  refine fn_ofM (n := 20) [] Tryd.func78 rfl rfl rfl ?_
  intro a w F M hwW
  with_reducible refine c_seq ?_
  with_reducible refine c_region ?_
  refine stepD rfl F rfl (o_assign (F.ev rfl) ?_); clear F; clear a; intro a F
  with_reducible refine l_nil ?_
  with_reducible refine q_then ?_
  with_reducible refine c_seq ?_
  with_reducible refine c_seq ?_
  with_reducible refine c_region ?_
  refine stepD rfl F rfl (o_move (F.ev rfl) ?_); clear F; clear a; intro a F
  refine stepD rfl F rfl (o_lssF (F.ev rfl) (F.ev rfl) (by omega) ?_); clear F; clear a; intro a F
  with_reducible refine l_nil ?_
  with_reducible refine q_then ?_
  refine c_false F rfl rfl ?_
  with_reducible refine c_skip ?_
  with_reducible refine q_then ?_
  with_reducible refine c_seq ?_
  refine c_draw 10 F (by kernel_rfl) ?_
  intro w1 hE hok
  have M1 := M.later hE
  refine mK hok rfl rfl (fun a' w' F' E' => o_move (F'.ev rfl) ⟨Ext.refl _ _, rfl⟩) ?_
  (refine mK hok rfl rfl (fun a' w' F' E' => o_quo (F'.ev rfl) (F'.ev rfl) (by omega) (show _ = ((k / 10 : Nat) : Int) by rw [quo10 (by omega) (by omega)]; omega) ⟨Ext.refl _ _, rfl⟩) ?_)
  (refine mK hok rfl rfl (fun a' w' F' E' => o_call (F'.ev rfl) (F'.evs rfl) (Cal.mono (ih _) fun _ _ hh => ⟨hh.2, hh.1⟩)) ?_)
  refine mK hok rfl rfl (fun a' w' F' E' => o_move (F'.ev rfl) ⟨Ext.refl _ _, rfl⟩) ?_
  (refine mK hok rfl rfl (fun a' w' F' E' => o_rem (F'.ev rfl) (F'.ev rfl) (by omega) (rem10 (by omega)) ⟨Ext.refl _ _, rfl⟩) ?_)
  (refine mK hok rfl rfl (fun a' w' F' E' => o_add (F'.ev rfl) (F'.ev rfl) (show _ = dd by rw [hdd]; exact w_i64 (by omega) (by omega)) ⟨Ext.refl _ _, rfl⟩) ?_)
  (refine mK hok rfl rfl (fun a' w' F' E' => o_conv (F'.ev rfl) (show _ = dd from w_u8 (by omega) (by omega)) ⟨Ext.refl _ _, rfl⟩) ?_)
  refine mX (V := NewS w1.heap.size 1 1 (.cells [.int .u8 dd].toArray 5 (0, 0))) hok rfl rfl (NewS.stays _ _ _ _) (fun a' w' F' E' D' => o_buildSlice F' (Mem.empty w') rfl rfl rfl rfl fun b w'' M'' => newS_of E' ⟨b, rfl, M''⟩) ?_
  refine mKX (v := mkS [UInt8.ofNat dd.toNat]) hok rfl rfl (fun a' w' F' E' D' => by
    obtain ⟨b, g1, g2, g3⟩ := D' 7 (by decide) _ rfl
    have hev : a'.eval (.tmp 17) = .slice (some ⟨b, 0, none⟩) 1 1 := g1
    exact o_convBS (xs := [dd]) (Mem.just g3) hev .here rfl ⟨Ext.refl _ _, rfl⟩) ?_
  (refine mK hok rfl rfl (fun a' w' F' E' => s_add (F'.ev rfl) (F'.ev rfl) (by simp only [List.length_cons, List.length_nil]; omega) ⟨Ext.refl _ _, rfl⟩) ?_)
  (refine mDone rfl rfl ?_; clear F; clear M; intro a w F hE2 hX hTT hDD hPP; have M := M1.later hE2; clear M1; clear hX; clear hE2; clear hok; clear hE; clear hTT; clear hDD; clear hPP; (try dsimp only at F))
  refine stepD rfl F rfl (o_assign (F.ev rfl) ?_); clear F; clear a; intro a F
  with_reducible refine l_nil ?_
  with_reducible refine q_then ?_
  with_reducible refine c_ret ?_
  refine p_ret F rfl (.cons (.tmp (F.ev rfl)) .nil) ?_
  refine ⟨?_, M.ext⟩
  have := itoa_step ⟨k, h1⟩ h0
  simp only at this
  rw [this, show dd.toNat = 48 + k % 10 by omega]; rfl
theorem decimal_c (n : Int) (h0 : 0 ≤ n) (h1 : n < 1000) (W : World) : Cal Tryd.prog 78 [.int .i64 n].toArray W fun x w' => x = mkS (Lib.itoa n) ∧ Ext [] W w' := by
  obtain ⟨k, rfl⟩ := Int.eq_ofNat_of_zero_le h0
  have h : ∀ m : Nat, ∀ k : Nat, k < 10 ^ m → k < 1000 → ∀ W, Cal Tryd.prog 78 [.int .i64 k].toArray W fun x w' => x = mkS (Lib.itoa k) ∧ Ext [] W w' := by
    intro m
    induction m with
    | zero => intro k hk _ W; exact dec0_c k (by omega) W
    | succ m ih =>
      intro k hk h3 W
      by_cases h : k < 10
      · exact dec0_c k h W
      · exact dec1_c k (by omega) h3 W fun w => ih (k / 10) (by rw [Nat.pow_succ] at hk; omega) (by omega) w
  exact h 3 k (by omega) (by omega) W

set_option maxHeartbeats 2000000 in
theorem rformatPrefix_c (p : List Int) (n : Int) (hp : IsIP p) (W : World) : Cal Tryd.prog 42 [.agg (pfC p n).toArray].toArray W fun v w' => v = mkS (formatPV p n) ∧ Ext [] W w' := by
  have e1 := seg_pf hp.len n
  have e2 := seg_pf0 hp.len n
  have e3 := nth_pf hp.len n
  refine fn_ofM (n := 14) [] Tryd.func42 rfl rfl rfl ?_
  intro a w F M hwW
  refine c_seq ?_
  refine c_region ?_
  (refine stepD rfl F rfl (o_box M (F.ev rfl) rfl ?_); clear F; clear M; intro b1 w M a F)
  refine stepD rfl F rfl (o_assign (F.ev rfl) ?_); clear F; clear a; intro a F
  with_reducible refine l_nil ?_
  with_reducible refine q_then ?_
  with_reducible refine c_seq ?_
  with_reducible refine c_seq ?_
  with_reducible refine c_region ?_
  refine stepD rfl F rfl (o_loadA M (F.ev rfl) (by repeat (first | exact .here | apply Has.there)) (by first | assumption | rfl) ?_); clear F; clear a; intro a F
  (refine stepD rfl F rfl (o_call (F.ev rfl) (F.evs rfl) (Cal.mono (rvalidPrefix_c p n hp _) ?_)); clear F; clear a; rintro _ w ⟨rfl, hE⟩ a F; replace M := M.later hE; clear hE)
  cases hv : validP p n
  · rw [hv] at F
    refine stepD rfl F rfl (o_not (F.ev rfl) ?_); clear F; clear a; intro a F
    with_reducible refine l_nil ?_
    with_reducible refine q_then ?_
    refine c_true F rfl rfl ?_
    with_reducible refine c_seq ?_
    with_reducible refine c_region ?_
    refine stepD rfl F rfl (o_assign (F.ev rfl) ?_); clear F; clear a; intro a F
    with_reducible refine l_nil ?_
    with_reducible refine q_then ?_
    with_reducible refine c_ret ?_
    with_reducible refine q_thenR ?_
    refine p_ret F rfl (.cons (.tmp (F.ev rfl)) .nil) ?_
    exact ⟨by simp [formatPV, hv, oneOr], M.ext⟩
  · rw [hv] at F
    have hb := validP_bd hv
    have hl1 := formatI_len p
    have hl2 := Lib.itoa_length_le n (by omega) (by omega)
    refine stepD rfl F rfl (o_not (F.ev rfl) ?_); clear F; clear a; intro a F
    with_reducible refine l_nil ?_
    with_reducible refine q_then ?_
    refine c_false F rfl rfl ?_
    with_reducible refine c_skip ?_
    with_reducible refine q_then ?_
    with_reducible refine c_seq ?_
    refine c_draw 8 F (by kernel_rfl) ?_
    intro w1 hE hok
    have M1 := M.later hE
    refine mK hok rfl rfl (fun a' w' F' E' => o_fieldAddr (F'.ev rfl) ⟨Ext.refl _ _, rfl⟩) ?_
    refine mK hok rfl rfl (fun a' w' F' E' => o_loadA (M1.later E') (F'.ev rfl) (by repeat (first | exact .here | apply Has.there)) (by first | assumption | rfl) ⟨Ext.refl _ _, rfl⟩) ?_
    (refine mK hok rfl rfl (fun a' w' F' E' => o_call (F'.ev rfl) (F'.evs rfl) (Cal.mono (rformatIP_c p hp _) fun _ _ hh => ⟨hh.2, hh.1⟩)) ?_)
    (refine mK hok rfl rfl (fun a' w' F' E' => s_add (cs := [47]) (F'.ev rfl) (F'.ev rfl) (by simp; omega) ⟨Ext.refl _ _, rfl⟩) ?_)
    refine mK hok rfl rfl (fun a' w' F' E' => o_fieldAddr (F'.ev rfl) ⟨Ext.refl _ _, rfl⟩) ?_
    refine mK hok rfl rfl (fun a' w' F' E' => o_load1 (M1.later E') (F'.ev rfl) (by repeat (first | exact .here | apply Has.there)) (by first | assumption | rfl) ⟨Ext.refl _ _, rfl⟩) ?_
    (refine mK hok rfl rfl (fun a' w' F' E' => o_call (F'.ev rfl) (F'.evs rfl) (Cal.mono (decimal_c n (by omega) (by omega) _) fun _ _ hh => ⟨hh.2, hh.1⟩)) ?_)
    (refine mK hok rfl rfl (fun a' w' F' E' => s_add (F'.ev rfl) (F'.ev rfl) (by simp; omega) ⟨Ext.refl _ _, rfl⟩) ?_)
    skip
    (refine mDone rfl rfl ?_; clear F; clear M; intro a w F hE2 hX hTT hDD hPP; have M := M1.later hE2; clear M1; clear hX; clear hE2; clear hok; clear hE; clear hTT; clear hDD; clear hPP; (try dsimp only at F))
    refine stepD rfl F rfl (o_assign (F.ev rfl) ?_); clear F; clear a; intro a F
    with_reducible refine l_nil ?_
    with_reducible refine q_then ?_
    with_reducible refine c_ret ?_
    refine p_ret F rfl (.cons (.tmp (F.ev rfl)) .nil) ?_
    exact ⟨by simp [formatPV, hv, oneOr], M.ext⟩

set_option maxHeartbeats 2000000 in
theorem rcontains_c (p : List Int) (n : Int) (hp : IsIP p) (q : List Int) (hq : IsIP q) (W : World) : Cal Tryd.prog 45 [.agg (pfC p n).toArray, .agg (ipC q).toArray].toArray W fun v w' => v = .bool (containsP p n q) ∧ Ext [] W w' := by
  rw [← rcontains_is hp hq]
  have e1 := seg_pf hp.len n
  have e2 := seg_pf0 hp.len n
  have e3 := nth_pf hp.len n
  have e4 := seg_all (ipC_len hq.len)
  obtain hv | hv : validP p n = false ∨ validP p n = true := by cases validP p n <;> simp
  · refine fn_ofM (n := 16) [] Tryd.func45 rfl rfl rfl ?_
    intro a w F M hwW
    refine c_seq ?_
    refine c_region ?_
    (refine stepD rfl F rfl (o_box M (F.ev rfl) rfl ?_); clear F; clear M; intro b2 w M a F)
    (refine stepD rfl F rfl (o_box M (F.ev rfl) rfl ?_); clear F; clear M; intro b3 w M a F)
    refine stepD rfl F rfl (o_assign (F.ev rfl) ?_); clear F; clear a; intro a F
    with_reducible refine l_nil ?_
    with_reducible refine q_then ?_
    with_reducible refine c_seq ?_
    refine c_draw 11 F (by kernel_rfl) ?_
    intro w1 hE hok
    have M1 := M.later hE
    refine mK hok rfl rfl (fun a' w' F' E' => o_loadA (M1.later E') (F'.ev rfl) (by repeat (first | exact .here | apply Has.there)) (by first | assumption | rfl) ⟨Ext.refl _ _, rfl⟩) ?_
    (refine mK hok rfl rfl (fun a' w' F' E' => o_call (F'.ev rfl) (F'.evs rfl) (Cal.mono (Cal.to (rvalidPrefix_c p n hp _) (by rw [hv])) fun _ _ hh => ⟨hh.2, hh.1⟩)) ?_)
    refine mK hok rfl rfl (fun a' w' F' E' => o_move (F'.ev rfl) ⟨Ext.refl _ _, rfl⟩) ?_
    refine mOff hok rfl rfl rfl rfl rfl ?_
    refine mOff hok rfl rfl rfl rfl rfl ?_
    refine mOff hok rfl rfl rfl rfl rfl ?_
    refine mOff hok rfl rfl rfl rfl rfl ?_
    refine mOff hok rfl rfl rfl rfl rfl ?_
    refine mOff hok rfl rfl rfl rfl rfl ?_
    refine mOff hok rfl rfl rfl rfl rfl ?_
    refine mK hok rfl rfl (fun a' w' F' E' => o_pickF (F'.ev rfl) (F'.ev rfl) ⟨Ext.refl _ _, rfl⟩) ?_
    (refine mDone rfl rfl ?_; clear F; clear M; intro a w F hE2 hX hTT hDD hPP; have M := M1.later hE2; clear M1; clear hX; clear hE2; clear hok; clear hE; clear hTT; clear hDD; clear hPP; (try dsimp only at F))
    refine stepD rfl F rfl (o_assign (F.ev rfl) ?_); clear F; clear a; intro a F
    with_reducible refine l_nil ?_
    with_reducible refine q_then ?_
    with_reducible refine c_ret ?_
    refine p_ret F rfl (.cons (.tmp (F.ev rfl)) .nil) ?_
    exact ⟨by simp [rcontainsP, hv, oneOr], M.ext⟩
  · refine fn_ofM (n := 16) [] Tryd.func45 rfl rfl rfl ?_
    intro a w F M hwW
    refine c_seq ?_
    refine c_region ?_
    (refine stepD rfl F rfl (o_box M (F.ev rfl) rfl ?_); clear F; clear M; intro b2 w M a F)
    (refine stepD rfl F rfl (o_box M (F.ev rfl) rfl ?_); clear F; clear M; intro b3 w M a F)
    refine stepD rfl F rfl (o_assign (F.ev rfl) ?_); clear F; clear a; intro a F
    with_reducible refine l_nil ?_
    with_reducible refine q_then ?_
    with_reducible refine c_seq ?_
    refine c_draw 11 F (by kernel_rfl) ?_
    intro w1 hE hok
    have M1 := M.later hE
    refine mK hok rfl rfl (fun a' w' F' E' => o_loadA (M1.later E') (F'.ev rfl) (by repeat (first | exact .here | apply Has.there)) (by first | assumption | rfl) ⟨Ext.refl _ _, rfl⟩) ?_
    (refine mK hok rfl rfl (fun a' w' F' E' => o_call (F'.ev rfl) (F'.evs rfl) (Cal.mono (Cal.to (rvalidPrefix_c p n hp _) (by rw [hv])) fun _ _ hh => ⟨hh.2, hh.1⟩)) ?_)
    refine mK hok rfl rfl (fun a' w' F' E' => o_move (F'.ev rfl) ⟨Ext.refl _ _, rfl⟩) ?_
    refine mKG hok rfl rfl rfl rfl (fun a' w' F' E' => o_fieldAddr (F'.ev rfl) ⟨Ext.refl _ _, rfl⟩) ?_
    refine mKG hok rfl rfl rfl rfl (fun a' w' F' E' => o_loadA (M1.later E') (F'.ev rfl) (by repeat (first | exact .here | apply Has.there)) (by first | assumption | rfl) ⟨Ext.refl _ _, rfl⟩) ?_
    refine mKG hok rfl rfl rfl rfl (fun a' w' F' E' => o_loadA (M1.later E') (F'.ev rfl) (by repeat (first | exact .here | apply Has.there)) (by first | assumption | rfl) ⟨Ext.refl _ _, rfl⟩) ?_
    (refine mKG hok rfl rfl rfl rfl (fun a' w' F' E' => o_call (F'.ev rfl) (F'.evs rfl) (Cal.mono (rcommon_c p q hp hq _) fun _ _ hh => ⟨hh.2, hh.1⟩)) ?_)
    refine mKG hok rfl rfl rfl rfl (fun a' w' F' E' => o_fieldAddr (F'.ev rfl) ⟨Ext.refl _ _, rfl⟩) ?_
    refine mKG hok rfl rfl rfl rfl (fun a' w' F' E' => o_load1 (M1.later E') (F'.ev rfl) (by repeat (first | exact .here | apply Has.there)) (by first | assumption | rfl) ⟨Ext.refl _ _, rfl⟩) ?_
    refine mKG hok rfl rfl rfl rfl (fun a' w' F' E' => o_geq (F'.ev rfl) (F'.ev rfl) ⟨Ext.refl _ _, rfl⟩) ?_
    refine mK hok rfl rfl (fun a' w' F' E' => o_pickT (F'.ev rfl) (F'.ev rfl) ⟨Ext.refl _ _, rfl⟩) ?_
    (refine mDone rfl rfl ?_; clear F; clear M; intro a w F hE2 hX hTT hDD hPP; have M := M1.later hE2; clear M1; clear hX; clear hE2; clear hok; clear hE; clear hTT; clear hDD; clear hPP; (try dsimp only at F))
    refine stepD rfl F rfl (o_assign (F.ev rfl) ?_); clear F; clear a; intro a F
    with_reducible refine l_nil ?_
    with_reducible refine q_then ?_
    with_reducible refine c_ret ?_
    refine p_ret F rfl (.cons (.tmp (F.ev rfl)) .nil) ?_
    exact ⟨by simp [rcontainsP, hv, oneOr], M.ext⟩

set_option maxHeartbeats 2000000 in
theorem rcovers_c (p : List Int) (n : Int) (hp : IsIP p) (q : List Int) (m : Int) (hq : IsIP q) (W : World) : Cal Tryd.prog 46 [.agg (pfC p n).toArray, .agg (pfC q m).toArray].toArray W fun v w' => v = .bool (coversP p n q m) ∧ Ext [] W w' := by
  rw [← rcovers_is hp hq, rcontains_is hp hq]
  have e1 := seg_pf hp.len n
  have e3 := nth_pf hp.len n
  have f1 := seg_pf hq.len m
  have f2 := seg_pf0 hq.len m
  have f3 := nth_pf hq.len m
  refine fn_ofM (n := 24) [] Tryd.func46 rfl rfl rfl ?_
  intro a w F M hwW
  refine c_seq ?_
  refine c_region ?_
  (refine stepD rfl F rfl (o_box M (F.ev rfl) rfl ?_); clear F; clear M; intro b2 w M a F)
  (refine stepD rfl F rfl (o_box M (F.ev rfl) rfl ?_); clear F; clear M; intro b3 w M a F)
  refine stepD rfl F rfl (o_assign (F.ev rfl) ?_); clear F; clear a; intro a F
  with_reducible refine l_nil ?_
  with_reducible refine q_then ?_
  with_reducible refine c_seq ?_
  with_reducible refine c_region ?_
  refine stepD rfl F rfl (o_loadA M (F.ev rfl) (by repeat (first | exact .here | apply Has.there)) (by first | assumption | rfl) ?_); clear F; clear a; intro a F
  (refine stepD rfl F rfl (o_call (F.ev rfl) (F.evs rfl) (Cal.mono (rvalidPrefix_c p n hp _) ?_)); clear F; clear a; rintro _ w ⟨rfl, hE⟩ a F; replace M := M.later hE; clear hE)
  obtain hv | hv : validP p n = false ∨ validP p n = true := by cases validP p n <;> simp
  · rw [hv] at F
    refine stepD rfl F rfl (o_move (F.ev rfl) ?_); clear F; clear a; intro a F
    refine stepOff F rfl rfl rfl rfl ?_; clear F; clear a; intro a F
    refine stepOff F rfl rfl rfl rfl ?_; clear F; clear a; intro a F
    refine stepD rfl F rfl (o_pickF (F.ev rfl) (F.ev rfl) ?_); clear F; clear a; intro a F
    refine stepD rfl F rfl (o_move (F.ev rfl) ?_); clear F; clear a; intro a F
    refine stepOff F rfl rfl rfl rfl ?_; clear F; clear a; intro a F
    refine stepOff F rfl rfl rfl rfl ?_; clear F; clear a; intro a F
    refine stepOff F rfl rfl rfl rfl ?_; clear F; clear a; intro a F
    refine stepOff F rfl rfl rfl rfl ?_; clear F; clear a; intro a F
    refine stepOff F rfl rfl rfl rfl ?_; clear F; clear a; intro a F
    refine stepD rfl F rfl (o_pickF (F.ev rfl) (F.ev rfl) ?_); clear F; clear a; intro a F
    refine stepD rfl F rfl (o_move (F.ev rfl) ?_); clear F; clear a; intro a F
    refine stepOff F rfl rfl rfl rfl ?_; clear F; clear a; intro a F
    refine stepOff F rfl rfl rfl rfl ?_; clear F; clear a; intro a F
    refine stepOff F rfl rfl rfl rfl ?_; clear F; clear a; intro a F
    refine stepOff F rfl rfl rfl rfl ?_; clear F; clear a; intro a F
    refine stepD rfl F rfl (o_pickF (F.ev rfl) (F.ev rfl) ?_); clear F; clear a; intro a F
    refine stepD rfl F rfl (o_assign (F.ev rfl) ?_); clear F; clear a; intro a F
    with_reducible refine l_nil ?_
    with_reducible refine q_then ?_
    with_reducible refine c_ret ?_
    refine p_ret F rfl (.cons (.tmp (F.ev rfl)) .nil) ?_
    exact ⟨by simp [hv, oneOr], M.ext⟩
  rw [hv] at F
  refine stepD rfl F rfl (o_move (F.ev rfl) ?_); clear F; clear a; intro a F
  refine stepG rfl F rfl rfl rfl (o_loadA M (F.ev rfl) (by repeat (first | exact .here | apply Has.there)) (by first | assumption | rfl) ?_); clear F; clear a; intro a F
  (refine stepG rfl F rfl rfl rfl (o_call (F.ev rfl) (F.evs rfl) (Cal.mono (rvalidPrefix_c q m hq _) ?_)); clear F; clear a; rintro _ w ⟨rfl, hE⟩ a F; replace M := M.later hE; clear hE)
  obtain hw | hw : validP q m = false ∨ validP q m = true := by cases validP q m <;> simp
  · rw [hw] at F
    refine stepD rfl F rfl (o_pickT (F.ev rfl) (F.ev rfl) ?_); clear F; clear a; intro a F
    refine stepD rfl F rfl (o_move (F.ev rfl) ?_); clear F; clear a; intro a F
    refine stepOff F rfl rfl rfl rfl ?_; clear F; clear a; intro a F
    refine stepOff F rfl rfl rfl rfl ?_; clear F; clear a; intro a F
    refine stepOff F rfl rfl rfl rfl ?_; clear F; clear a; intro a F
    refine stepOff F rfl rfl rfl rfl ?_; clear F; clear a; intro a F
    refine stepOff F rfl rfl rfl rfl ?_; clear F; clear a; intro a F
    refine stepD rfl F rfl (o_pickF (F.ev rfl) (F.ev rfl) ?_); clear F; clear a; intro a F
    refine stepD rfl F rfl (o_move (F.ev rfl) ?_); clear F; clear a; intro a F
    refine stepOff F rfl rfl rfl rfl ?_; clear F; clear a; intro a F
    refine stepOff F rfl rfl rfl rfl ?_; clear F; clear a; intro a F
    refine stepOff F rfl rfl rfl rfl ?_; clear F; clear a; intro a F
    refine stepOff F rfl rfl rfl rfl ?_; clear F; clear a; intro a F
    refine stepD rfl F rfl (o_pickF (F.ev rfl) (F.ev rfl) ?_); clear F; clear a; intro a F
    refine stepD rfl F rfl (o_assign (F.ev rfl) ?_); clear F; clear a; intro a F
    with_reducible refine l_nil ?_
    with_reducible refine q_then ?_
    with_reducible refine c_ret ?_
    refine p_ret F rfl (.cons (.tmp (F.ev rfl)) .nil) ?_
    exact ⟨by simp [hv, hw, oneOr], M.ext⟩
  rw [hw] at F
  by_cases hnm : n ≤ m
  · refine stepD rfl F rfl (o_pickT (F.ev rfl) (F.ev rfl) ?_); clear F; clear a; intro a F
    refine stepD rfl F rfl (o_move (F.ev rfl) ?_); clear F; clear a; intro a F
    refine stepG rfl F rfl rfl rfl (o_fieldAddr (F.ev rfl) ?_); clear F; clear a; intro a F
    refine stepG rfl F rfl rfl rfl (o_load1 M (F.ev rfl) (by repeat (first | exact .here | apply Has.there)) (by first | assumption | rfl) ?_); clear F; clear a; intro a F
    refine stepG rfl F rfl rfl rfl (o_fieldAddr (F.ev rfl) ?_); clear F; clear a; intro a F
    refine stepG rfl F rfl rfl rfl (o_load1 M (F.ev rfl) (by repeat (first | exact .here | apply Has.there)) (by first | assumption | rfl) ?_); clear F; clear a; intro a F
    refine stepG rfl F rfl rfl rfl (o_leqT (F.ev rfl) (F.ev rfl) (by omega) ?_); clear F; clear a; intro a F
    refine stepD rfl F rfl (o_pickT (F.ev rfl) (F.ev rfl) ?_); clear F; clear a; intro a F
    refine stepD rfl F rfl (o_move (F.ev rfl) ?_); clear F; clear a; intro a F
    refine stepG rfl F rfl rfl rfl (o_loadA M (F.ev rfl) (by repeat (first | exact .here | apply Has.there)) (by first | assumption | rfl) ?_); clear F; clear a; intro a F
    refine stepG rfl F rfl rfl rfl (o_fieldAddr (F.ev rfl) ?_); clear F; clear a; intro a F
    refine stepG rfl F rfl rfl rfl (o_loadA M (F.ev rfl) (by repeat (first | exact .here | apply Has.there)) (by first | assumption | rfl) ?_); clear F; clear a; intro a F
    (refine stepG rfl F rfl rfl rfl (o_call (F.ev rfl) (F.evs rfl) (Cal.mono (rcontains_c p n hp q hq _) ?_)); clear F; clear a; rintro _ w ⟨rfl, hE⟩ a F; replace M := M.later hE; clear hE)
    refine stepD rfl F rfl (o_pickT (F.ev rfl) (F.ev rfl) ?_); clear F; clear a; intro a F
    refine stepD rfl F rfl (o_assign (F.ev rfl) ?_); clear F; clear a; intro a F
    with_reducible refine l_nil ?_
    with_reducible refine q_then ?_
    with_reducible refine c_ret ?_
    refine p_ret F rfl (.cons (.tmp (F.ev rfl)) .nil) ?_
    exact ⟨by simp [hv, hw, hnm, oneOr], M.ext⟩
  · refine stepD rfl F rfl (o_pickT (F.ev rfl) (F.ev rfl) ?_); clear F; clear a; intro a F
    refine stepD rfl F rfl (o_move (F.ev rfl) ?_); clear F; clear a; intro a F
    refine stepG rfl F rfl rfl rfl (o_fieldAddr (F.ev rfl) ?_); clear F; clear a; intro a F
    refine stepG rfl F rfl rfl rfl (o_load1 M (F.ev rfl) (by repeat (first | exact .here | apply Has.there)) (by first | assumption | rfl) ?_); clear F; clear a; intro a F
    refine stepG rfl F rfl rfl rfl (o_fieldAddr (F.ev rfl) ?_); clear F; clear a; intro a F
    refine stepG rfl F rfl rfl rfl (o_load1 M (F.ev rfl) (by repeat (first | exact .here | apply Has.there)) (by first | assumption | rfl) ?_); clear F; clear a; intro a F
    refine stepG rfl F rfl rfl rfl (o_leqF (F.ev rfl) (F.ev rfl) (by omega) ?_); clear F; clear a; intro a F
    refine stepD rfl F rfl (o_pickT (F.ev rfl) (F.ev rfl) ?_); clear F; clear a; intro a F
    refine stepD rfl F rfl (o_move (F.ev rfl) ?_); clear F; clear a; intro a F
    refine stepOff F rfl rfl rfl rfl ?_; clear F; clear a; intro a F
    refine stepOff F rfl rfl rfl rfl ?_; clear F; clear a; intro a F
    refine stepOff F rfl rfl rfl rfl ?_; clear F; clear a; intro a F
    refine stepOff F rfl rfl rfl rfl ?_; clear F; clear a; intro a F
    refine stepD rfl F rfl (o_pickF (F.ev rfl) (F.ev rfl) ?_); clear F; clear a; intro a F
    refine stepD rfl F rfl (o_assign (F.ev rfl) ?_); clear F; clear a; intro a F
    with_reducible refine l_nil ?_
    with_reducible refine q_then ?_
    with_reducible refine c_ret ?_
    refine p_ret F rfl (.cons (.tmp (F.ev rfl)) .nil) ?_
    exact ⟨by simp [hv, hw, hnm, oneOr], M.ext⟩
end Go.Proofs.YtadnpidadcgdcaaDoor

/-! X3 -/
/-
  The reference's ParsePrefix.
-/
namespace Go.Proofs.YtadnpidadcgdcaaDoor
set_option linter.unusedVariables false
set_option linter.unusedSimpArgs false
open Go.RowKit
attribute [local irreducible] OpTo wpListIn Code.wpIn MW Cal

theorem byteOf_bd {f : List Int} (h : ∀ g ∈ f, 0 ≤ g ∧ g ≤ 65535) (j : Nat) : 0 ≤ byteOf f j ∧ byteOf f j < 256 := by
  have hg : 0 ≤ f.getD (j / 2) 0 ∧ f.getD (j / 2) 0 ≤ 65535 := by
    rcases Nat.lt_or_ge (j / 2) f.length with hl | hl
    · rw [List.getD_eq_getElem?_getD, List.getElem?_eq_getElem hl]; exact h _ (List.getElem_mem hl)
    · rw [List.getD_eq_getElem?_getD, List.getElem?_eq_none hl]; simp
  unfold byteOf; split <;> omega
theorem parse_isIP {s : List UInt8} {a : List Int} (h : parseIPV s = some a) : IsIP a := by
  refine ⟨parseIPV_len h, ?_⟩
  unfold parseIPV at h
  split at h
  · cases h
  · rename_i f hf
    split at h
    · cases h
    · rename_i l hl
      split at h
      · cases h
      · cases h
        intro x hx
        unfold rowB at hx
        obtain ⟨j, _, rfl⟩ := List.mem_map.1 hx
        split
        · exact byteOf_bd (groupsV_bd hf).2 _
        · split
          · exact byteOf_bd (groupsV_bd hl).2 _
          · omega
theorem ip0_is : IsIP ip0 := ⟨by simp [ip0], by simp [ip0]⟩

set_option maxRecDepth 10000 in
set_option maxHeartbeats 4000000 in
theorem rparsePrefix_c (s : List UInt8) (hs : s.length ≤ 4294967280) (W : World) : Cal Tryd.prog 43 [mkS s].toArray W fun v w' => v = .tuple #[.agg (pfC ((parsePV s).getD (ip0, 0)).1 ((parsePV s).getD (ip0, 0)).2).toArray, .bool (parsePV s).isSome] ∧ Ext [] W w' := by
  refine fn_ofM (n := 48) [] Tryd.func43 rfl rfl rfl ?_
  intro a w F M hwW
  refine c_seq ?_
  refine c_region ?_
  (refine stepD rfl F rfl (o_alloc M ?_); clear F; clear M; intro b2 w M a F)
  refine stepD rfl F rfl (o_assign (F.ev rfl) ?_); clear F; clear a; intro a F
  with_reducible refine l_nil ?_
  with_reducible refine q_then ?_
  with_reducible refine c_seq ?_
  with_reducible refine c_seq ?_
  with_reducible refine c_region ?_
  refine stepD rfl F rfl (o_assign (F.ev rfl) ?_); clear F; clear a; intro a F
  with_reducible refine l_nil ?_
  with_reducible refine q_then ?_
  with_reducible refine c_block ?_
  replace M : Mem [] W w [(b2, .cells (pfC ip0 0).toArray 35 (0, 0))] := M
  refine c_loop (fun k a w => ∃ i : Nat, k = s.length - i ∧ i ≤ s.length ∧ (∀ j, j < i → s.getD j 0 ≠ 47) ∧ Frm a 48 [] [(4, .int .i64 i), (2, .pointer (some ⟨b2, 0, none⟩)), (0, mkS s)] ∧ Mem [] W w [(b2, .cells (pfC ip0 0).toArray 35 (0, 0))]) s.length ⟨0, rfl, by omega, fun j h => by omega, F.only [4, 2, 0] rfl, M⟩ ?_
  clear F M
  rintro k a w ⟨i, hk, hi, hno, F, M⟩
  by_cases hlt : i < s.length
  · by_cases h47 : s[i] = 47
    · have h47' : (s[i].toNat : Int) = 47 := by rw [h47]; rfl
      have hcut := cut_slash hlt h47 hno
      with_reducible refine c_seq ?_
      with_reducible refine c_seq ?_
      with_reducible refine c_region ?_
      refine stepD rfl F rfl (o_move (F.ev rfl) ?_); clear F; clear a; intro a F
      refine stepD rfl F rfl (o_move (F.ev rfl) ?_); clear F; clear a; intro a F
      refine stepD rfl F rfl (s_len (F.ev rfl) ?_); clear F; clear a; intro a F
      refine stepD rfl F rfl (o_lssT (F.ev rfl) (F.ev rfl) (by omega) ?_); clear F; clear a; intro a F
      with_reducible refine l_nil ?_
      with_reducible refine q_then ?_
      refine c_true F rfl rfl ?_
      with_reducible refine c_skip ?_
      with_reducible refine q_then ?_
      with_reducible refine c_seq ?_
      with_reducible refine c_block ?_
      with_reducible refine c_seq ?_
      with_reducible refine c_seq ?_
      with_reducible refine c_region ?_
      refine stepD rfl F rfl (o_move (F.ev rfl) ?_); clear F; clear a; intro a F
      refine stepD rfl F rfl (o_move (F.ev rfl) ?_); clear F; clear a; intro a F
      refine stepD rfl F rfl (s_idx (F.ev rfl) (F.ev rfl) rfl (by omega) ?_); clear F; clear a; intro a F
      refine stepD rfl F rfl (o_neqF (F.ev rfl) (F.ev rfl) (by omega) ?_); clear F; clear a; intro a F
      with_reducible refine l_nil ?_
      with_reducible refine q_then ?_
      refine c_false F rfl rfl ?_
      with_reducible refine c_skip ?_
      with_reducible refine q_then ?_
      with_reducible refine c_seq ?_
      with_reducible refine c_region ?_
      refine stepD rfl F rfl (o_move (F.ev rfl) ?_); clear F; clear a; intro a F
      refine stepD rfl F rfl (o_move (F.ev rfl) ?_); clear F; clear a; intro a F
      (refine stepD rfl F rfl (s_h (q := i) (F.ev rfl) (F.ev rfl) rfl (by omega) ?_); clear F; clear a; intro a F)
      (refine stepD rfl F rfl (o_call (F.ev rfl) (F.evs rfl) (Cal.mono (Cal.to (rparseIP_c (s.take i) (by simp; omega) _) (by rw [rparse_is])) ?_)); clear F; clear a; rintro _ w ⟨rfl, hE⟩ a F; replace M := M.later hE; clear hE)
      rcases ha : parseIPV (s.take i) with _ | av
      · have hres := parsePV_bad hcut ha
        rw [hres]
        rw [ha] at F
        refine stepD rfl F rfl (o_move (F.ev rfl) ?_); clear F; clear a; intro a F
        refine stepD rfl F rfl (o_extract (F.ev rfl) rfl ?_); clear F; clear a; intro a F
        refine stepD rfl F rfl (o_extract (F.ev rfl) rfl ?_); clear F; clear a; intro a F
        (refine stepD rfl F rfl (o_alloc M ?_); clear F; clear M; intro b5 w M a F)
        (refine stepN rfl F (o_storeA M (F.ev rfl) (F.ev rfl) (by rfl) (by rfl) (by repeat (first | exact .here | apply Has.there)) (by rfl) (by repeat (first | exact .here | apply Upd.there)) ?_); clear F; clear M; intro w M a F)
        refine stepD rfl F rfl (o_assign (F.ev rfl) ?_); clear F; clear a; intro a F
        with_reducible refine l_nil ?_
        with_reducible refine q_then ?_
        with_reducible refine c_seq ?_
        with_reducible refine c_seq ?_
        with_reducible refine c_region ?_
        refine stepD rfl F rfl (o_assign (F.ev rfl) ?_); clear F; clear a; intro a F
        with_reducible refine l_nil ?_
        with_reducible refine q_then ?_
        with_reducible refine c_block ?_
        refine c_loop (fun k a w => k = 0 ∧ Frm a 48 [] [(6, .bool false), (7, .int .i64 0), (2, .pointer (some ⟨b2, 0, none⟩))] ∧ Mem [] W w [(b2, .cells (pfC ip0 0).toArray 35 (0, 0))]) 0 ⟨rfl, F.only [6, 7, 2] rfl, M.sub (.cons _ (.refl _))⟩ ?_
        clear F M
        rintro k2 a w ⟨_, F, M⟩
        with_reducible refine c_seq ?_
        with_reducible refine c_seq ?_
        with_reducible refine c_region ?_
        refine stepD rfl F rfl (o_move (F.ev rfl) ?_); clear F; clear a; intro a F
        refine stepD rfl F rfl (o_move (F.ev rfl) ?_); clear F; clear a; intro a F
        refine stepOff F rfl rfl rfl rfl ?_; clear F; clear a; intro a F
        refine stepOff F rfl rfl rfl rfl ?_; clear F; clear a; intro a F
        refine stepD rfl F rfl (o_pickF (F.ev rfl) (F.ev rfl) ?_); clear F; clear a; intro a F
        with_reducible refine l_nil ?_
        with_reducible refine q_then ?_
        refine c_false F rfl rfl ?_
        with_reducible refine c_exit ?_
        with_reducible refine q_thenX ?_
        with_reducible refine q_thenX ?_
        with_reducible refine q_inBX ?_
        with_reducible refine q_then ?_
        with_reducible refine c_seq ?_
        with_reducible refine c_region ?_
        refine stepD rfl F rfl (o_build F rfl rfl ?_); clear F; clear a; intro a F
        (refine stepN rfl F (o_storeA M (F.ev rfl) (F.ev rfl) (by rfl) (by rfl) (by repeat (first | exact .here | apply Has.there)) (by rfl) (by repeat (first | exact .here | apply Upd.there)) ?_); clear F; clear M; intro w M a F)
        refine stepD rfl F rfl (o_assign (F.ev rfl) ?_); clear F; clear a; intro a F
        with_reducible refine l_nil ?_
        with_reducible refine q_then ?_
        with_reducible refine c_ret ?_
        with_reducible refine q_inBR ?_
        with_reducible refine q_thenR ?_
        with_reducible refine q_thenR ?_
        with_reducible refine q_inBR ?_
        with_reducible refine q_thenR ?_
        refine p_ret F rfl (.cons (.cell (F.ev rfl) (run_loadVar_agg TAgg.h (M.heap .here) rfl)) (.cons (.tmp (F.ev rfl)) .nil)) ⟨rfl, M.ext⟩
      · have hip := parse_isIP ha
        have l1 := ipC_len hip.len
        have l2 := seg_all l1
        rw [ha] at F
        simp only [Option.getD_some, Option.isSome_some] at F
        refine stepD rfl F rfl (o_move (F.ev rfl) ?_); clear F; clear a; intro a F
        refine stepD rfl F rfl (o_extract (F.ev rfl) rfl ?_); clear F; clear a; intro a F
        refine stepD rfl F rfl (o_extract (F.ev rfl) rfl ?_); clear F; clear a; intro a F
        (refine stepD rfl F rfl (o_alloc M ?_); clear F; clear M; intro b5 w M a F)
        (refine stepN rfl F (o_storeA M (F.ev rfl) (F.ev rfl) (l1) (one_ip _)  (by repeat (first | exact .here | apply Has.there))  (put_all (by rw [l1]; rfl)) (by repeat (first | exact .here | apply Upd.there)) ?_); clear F; clear M; intro w M a F)
        refine stepD rfl F rfl (o_assign (F.ev rfl) ?_); clear F; clear a; intro a F
        with_reducible refine l_nil ?_
        with_reducible refine q_then ?_
        with_reducible refine c_seq ?_
        with_reducible refine c_seq ?_
        with_reducible refine c_region ?_
        refine stepD rfl F rfl (o_assign (F.ev rfl) ?_); clear F; clear a; intro a F
        with_reducible refine l_nil ?_
        with_reducible refine q_then ?_
        with_reducible refine c_block ?_
        refine c_loop (fun k a w => ∃ n : Nat, k = 129 - n ∧ n ≤ 129 ∧ (∀ m : Nat, m < n → ¬ (Lib.itoa m = s.drop (i + 1) ∧ validP av m = true)) ∧ Frm a 48 [] [(7, .int .i64 n), (6, .bool true), (5, .pointer (some ⟨b5, 0, none⟩)), (4, .int .i64 i), (2, .pointer (some ⟨b2, 0, none⟩)), (0, mkS s)] ∧ Mem [] W w [(b5, .cells (ipC av).toArray 23 (0, 0)), (b2, .cells (pfC ip0 0).toArray 35 (0, 0))]) 129 ⟨0, rfl, by omega, fun j h => by omega, F.only [7, 6, 5, 4, 2, 0] rfl, M⟩ ?_
        clear F M
        rintro k2 a w ⟨n, hk2, hn, hmiss, F, M⟩
        by_cases hn9 : n ≤ 128
        · with_reducible refine c_seq ?_
          with_reducible refine c_seq ?_
          with_reducible refine c_region ?_
          refine stepD rfl F rfl (o_move (F.ev rfl) ?_); clear F; clear a; intro a F
          refine stepD rfl F rfl (o_move (F.ev rfl) ?_); clear F; clear a; intro a F
          refine stepG rfl F rfl rfl rfl (o_move (F.ev rfl) ?_); clear F; clear a; intro a F
          refine stepG rfl F rfl rfl rfl (o_leqT (F.ev rfl) (F.ev rfl) (by omega) ?_); clear F; clear a; intro a F
          refine stepD rfl F rfl (o_pickT (F.ev rfl) (F.ev rfl) ?_); clear F; clear a; intro a F
          with_reducible refine l_nil ?_
          with_reducible refine q_then ?_
          refine c_true F rfl rfl ?_
          with_reducible refine c_skip ?_
          with_reducible refine q_then ?_
          with_reducible refine c_seq ?_
          with_reducible refine c_block ?_
          with_reducible refine c_seq ?_
          refine c_draw 7 F (by kernel_rfl) ?_
          intro w1 hE hok
          have M1 := M.later hE
          refine mK hok rfl rfl (fun a' w' F' E' => o_move (F'.ev rfl) ⟨Ext.refl _ _, rfl⟩) ?_
          (refine mK hok rfl rfl (fun a' w' F' E' => o_call (F'.ev rfl) (F'.evs rfl) (Cal.mono (decimal_c n (by omega) (by omega) _) fun _ _ hh => ⟨hh.2, hh.1⟩)) ?_)
          refine mK hok rfl rfl (fun a' w' F' E' => o_move (F'.ev rfl) ⟨Ext.refl _ _, rfl⟩) ?_
          refine mK hok rfl rfl (fun a' w' F' E' => o_move (F'.ev rfl) ⟨Ext.refl _ _, rfl⟩) ?_
          refine mK hok rfl rfl (fun a' w' F' E' => o_add (F'.ev rfl) (F'.ev rfl) (w_i64 (by omega) (by omega)) ⟨Ext.refl _ _, rfl⟩) ?_
          (refine mK hok rfl rfl (fun a' w' F' E' => s_l (p := i + 1) (m := (i : Int) + 1) (F'.ev rfl) (F'.ev rfl) (by omega) (by omega) ⟨Ext.refl _ _, rfl⟩) ?_)
          refine mK hok rfl rfl (fun a' w' F' E' => s_eql (F'.ev rfl) (F'.ev rfl) ⟨Ext.refl _ _, rfl⟩) ?_
          (refine mDone rfl rfl ?_; clear F; clear M; intro a w F hE2 hX hTT hDD hPP; have M := M1.later hE2; clear M1; clear hX; clear hE2; clear hok; clear hE; clear hTT; clear hDD; clear hPP; (try dsimp only at F))
          by_cases hit : Lib.itoa n = s.drop (i + 1)
          · have hbe : (Lib.itoa n == s.drop (i + 1)) = true := by rw [hit]; simp
            rw [hbe] at F
            have hres := parsePV_hit hcut ha hn9 hit
            have e1 := seg_pf hip.len n
            with_reducible refine l_nil ?_
            with_reducible refine q_then ?_
            refine c_true F rfl rfl ?_
            with_reducible refine c_seq ?_
            with_reducible refine c_region ?_
            refine stepD rfl F rfl (o_loadA M (F.ev rfl) (by repeat (first | exact .here | apply Has.there)) (by first | assumption | rfl) ?_); clear F; clear a; intro a F
            refine stepD rfl F rfl (o_move (F.ev rfl) ?_); clear F; clear a; intro a F
            (refine stepD rfl F rfl (o_build (cs := pfC av n) F rfl (by obtain ⟨x0, x1, x2, x3, x4, x5, x6, x7, x8, x9, x10, x11, x12, x13, x14, x15, rfl⟩ := len16 hip.len; rfl) ?_); clear F; clear a; intro a F)
            (refine stepD rfl F rfl (o_alloc M ?_); clear F; clear M; intro b8 w M a F)
            (refine stepN rfl F (o_storeA M (F.ev rfl) (F.ev rfl) (pfC_len hip.len n) (one_pf _ _)  (by repeat (first | exact .here | apply Has.there))  (put_all (by rw [pfC_len hip.len n]; rfl)) (by repeat (first | exact .here | apply Upd.there)) ?_); clear F; clear M; intro w M a F)
            with_reducible refine l_nil ?_
            with_reducible refine q_then ?_
            with_reducible refine c_seq ?_
            with_reducible refine c_region ?_
            refine stepD rfl F rfl (o_loadA M (F.ev rfl) (by repeat (first | exact .here | apply Has.there)) (by first | assumption | rfl) ?_); clear F; clear a; intro a F
            (refine stepD rfl F rfl (o_call (F.ev rfl) (F.evs rfl) (Cal.mono (rvalidPrefix_c av n hip _) ?_)); clear F; clear a; rintro _ w ⟨rfl, hE⟩ a F; replace M := M.later hE; clear hE)
            obtain hv | hv : validP av n = false ∨ validP av n = true := by cases validP av n <;> simp
            · rw [hv] at F
              with_reducible refine l_nil ?_
              with_reducible refine q_then ?_
              refine c_false F rfl rfl ?_
              with_reducible refine c_skip ?_
              with_reducible refine q_inB ?_
              with_reducible refine q_then ?_
              with_reducible refine c_region ?_
              refine stepD rfl F rfl (o_move (F.ev rfl) ?_); clear F; clear a; intro a F
              refine stepD rfl F rfl (o_add (F.ev rfl) (F.ev rfl) (w_i64 (by omega) (by omega)) ?_); clear F; clear a; intro a F
              refine stepD rfl F rfl (o_assign (F.ev rfl) ?_); clear F; clear a; intro a F
              with_reducible refine l_nil ?_
              with_reducible refine q_then ?_
              exact ⟨_, by omega, n + 1, rfl, by omega, fun m hm => by
                by_cases e : m = n
                · subst e; rw [hv]; simp
                · exact hmiss m (by omega), F.only [7, 6, 5, 4, 2, 0] rfl, M.sub (.cons _ (.refl _))⟩
            · rw [hv] at F
              rw [hv, if_pos rfl] at hres
              rw [hres]
              with_reducible refine l_nil ?_
              with_reducible refine q_then ?_
              refine c_true F rfl rfl ?_
              with_reducible refine c_seq ?_
              with_reducible refine c_region ?_
              refine stepD rfl F rfl (o_loadA M (F.ev rfl) (by repeat (first | exact .here | apply Has.there)) (by first | assumption | rfl) ?_); clear F; clear a; intro a F
              (refine stepN rfl F (o_storeA M (F.ev rfl) (F.ev rfl) (pfC_len hip.len n) (one_pf _ _)  (by repeat (first | exact .here | apply Has.there))  (put_all (by rw [pfC_len hip.len n]; rfl)) (by repeat (first | exact .here | apply Upd.there)) ?_); clear F; clear M; intro w M a F)
              refine stepD rfl F rfl (o_assign (F.ev rfl) ?_); clear F; clear a; intro a F
              with_reducible refine l_nil ?_
              with_reducible refine q_then ?_
              with_reducible refine c_ret ?_
              with_reducible refine q_inBR ?_
              with_reducible refine q_thenR ?_
              with_reducible refine q_thenR ?_
              with_reducible refine q_inBR ?_
              with_reducible refine q_thenR ?_
              with_reducible refine q_inBR ?_
              with_reducible refine q_thenR ?_
              with_reducible refine q_thenR ?_
              with_reducible refine q_inBR ?_
              with_reducible refine q_thenR ?_
              refine p_ret F rfl (.cons (.cell (F.ev rfl) (run_loadVar_agg TAgg.h (M.heap (.there (.there .here))) e1)) (.cons (.tmp (F.ev rfl)) .nil)) ⟨rfl, M.ext⟩
          · have hbe : (Lib.itoa n == s.drop (i + 1)) = false := by rw [beq_eq_false_iff_ne]; exact hit
            rw [hbe] at F
            with_reducible refine l_nil ?_
            with_reducible refine q_then ?_
            refine c_false F rfl rfl ?_
            with_reducible refine c_skip ?_
            with_reducible refine q_inB ?_
            with_reducible refine q_then ?_
            with_reducible refine c_region ?_
            refine stepD rfl F rfl (o_move (F.ev rfl) ?_); clear F; clear a; intro a F
            refine stepD rfl F rfl (o_add (F.ev rfl) (F.ev rfl) (w_i64 (by omega) (by omega)) ?_); clear F; clear a; intro a F
            refine stepD rfl F rfl (o_assign (F.ev rfl) ?_); clear F; clear a; intro a F
            with_reducible refine l_nil ?_
            with_reducible refine q_then ?_
            exact ⟨_, by omega, n + 1, rfl, by omega, fun m hm => by
              by_cases e : m = n
              · subst e; exact fun h => hit h.1
              · exact hmiss m (by omega), F.only [7, 6, 5, 4, 2, 0] rfl, M⟩
        · obtain rfl : n = 129 := by omega
          have hres := parsePV_miss hcut ha (fun m hm => hmiss m (by omega))
          rw [hres]
          with_reducible refine c_seq ?_
          with_reducible refine c_seq ?_
          with_reducible refine c_region ?_
          refine stepD rfl F rfl (o_move (F.ev rfl) ?_); clear F; clear a; intro a F
          refine stepD rfl F rfl (o_move (F.ev rfl) ?_); clear F; clear a; intro a F
          refine stepG rfl F rfl rfl rfl (o_move (F.ev rfl) ?_); clear F; clear a; intro a F
          refine stepG rfl F rfl rfl rfl (o_leqF (F.ev rfl) (F.ev rfl) (by omega) ?_); clear F; clear a; intro a F
          refine stepD rfl F rfl (o_pickT (F.ev rfl) (F.ev rfl) ?_); clear F; clear a; intro a F
          with_reducible refine l_nil ?_
          with_reducible refine q_then ?_
          refine c_false F rfl rfl ?_
          with_reducible refine c_exit ?_
          with_reducible refine q_thenX ?_
          with_reducible refine q_thenX ?_
          with_reducible refine q_inBX ?_
          with_reducible refine q_then ?_
          with_reducible refine c_seq ?_
          with_reducible refine c_region ?_
          refine stepD rfl F rfl (o_build F rfl rfl ?_); clear F; clear a; intro a F
          (refine stepN rfl F (o_storeA M (F.ev rfl) (F.ev rfl) (by rfl) (by rfl) (by repeat (first | exact .here | apply Has.there)) (by rfl) (by repeat (first | exact .here | apply Upd.there)) ?_); clear F; clear M; intro w M a F)
          refine stepD rfl F rfl (o_assign (F.ev rfl) ?_); clear F; clear a; intro a F
          with_reducible refine l_nil ?_
          with_reducible refine q_then ?_
          with_reducible refine c_ret ?_
          with_reducible refine q_inBR ?_
          with_reducible refine q_thenR ?_
          with_reducible refine q_thenR ?_
          with_reducible refine q_inBR ?_
          with_reducible refine q_thenR ?_
          refine p_ret F rfl (.cons (.cell (F.ev rfl) (run_loadVar_agg TAgg.h (M.heap (.there .here)) rfl)) (.cons (.tmp (F.ev rfl)) .nil)) ⟨rfl, M.ext⟩
    · have h47' : ¬ (s[i].toNat : Int) = 47 := fun h => h47 (UInt8.toNat_inj.1 (show s[i].toNat = (47 : UInt8).toNat by have : (47 : UInt8).toNat = 47 := rfl; omega))
      with_reducible refine c_seq ?_
      with_reducible refine c_seq ?_
      with_reducible refine c_region ?_
      refine stepD rfl F rfl (o_move (F.ev rfl) ?_); clear F; clear a; intro a F
      refine stepD rfl F rfl (o_move (F.ev rfl) ?_); clear F; clear a; intro a F
      refine stepD rfl F rfl (s_len (F.ev rfl) ?_); clear F; clear a; intro a F
      refine stepD rfl F rfl (o_lssT (F.ev rfl) (F.ev rfl) (by omega) ?_); clear F; clear a; intro a F
      with_reducible refine l_nil ?_
      with_reducible refine q_then ?_
      refine c_true F rfl rfl ?_
      with_reducible refine c_skip ?_
      with_reducible refine q_then ?_
      with_reducible refine c_seq ?_
      with_reducible refine c_block ?_
      with_reducible refine c_seq ?_
      with_reducible refine c_seq ?_
      with_reducible refine c_region ?_
      refine stepD rfl F rfl (o_move (F.ev rfl) ?_); clear F; clear a; intro a F
      refine stepD rfl F rfl (o_move (F.ev rfl) ?_); clear F; clear a; intro a F
      refine stepD rfl F rfl (s_idx (F.ev rfl) (F.ev rfl) rfl (by omega) ?_); clear F; clear a; intro a F
      refine stepD rfl F rfl (o_neqT (F.ev rfl) (F.ev rfl) (by omega) ?_); clear F; clear a; intro a F
      with_reducible refine l_nil ?_
      with_reducible refine q_then ?_
      refine c_true F rfl rfl ?_
      with_reducible refine c_exit ?_
      with_reducible refine q_thenX ?_
      with_reducible refine q_inBX ?_
      with_reducible refine q_then ?_
      with_reducible refine c_region ?_
      refine stepD rfl F rfl (o_move (F.ev rfl) ?_); clear F; clear a; intro a F
      refine stepD rfl F rfl (o_add (F.ev rfl) (F.ev rfl) (w_i64 (by omega) (by omega)) ?_); clear F; clear a; intro a F
      refine stepD rfl F rfl (o_assign (F.ev rfl) ?_); clear F; clear a; intro a F
      with_reducible refine l_nil ?_
      with_reducible refine q_then ?_
      exact ⟨_, by omega, i + 1, rfl, by omega, fun j hj => by
        by_cases e : j = i
        · subst e; rw [getD_u8 hlt]; exact h47
        · exact hno j (by omega), F.only [4, 2, 0] rfl, M⟩
  · obtain rfl : i = s.length := by omega
    have hres := parsePV_no hno
    rw [hres]
    with_reducible refine c_seq ?_
    with_reducible refine c_seq ?_
    with_reducible refine c_region ?_
    refine stepD rfl F rfl (o_move (F.ev rfl) ?_); clear F; clear a; intro a F
    refine stepD rfl F rfl (o_move (F.ev rfl) ?_); clear F; clear a; intro a F
    refine stepD rfl F rfl (s_len (F.ev rfl) ?_); clear F; clear a; intro a F
    refine stepD rfl F rfl (o_lssF (F.ev rfl) (F.ev rfl) (by omega) ?_); clear F; clear a; intro a F
    with_reducible refine l_nil ?_
    with_reducible refine q_then ?_
    refine c_false F rfl rfl ?_
    with_reducible refine c_exit ?_
    with_reducible refine q_thenX ?_
    with_reducible refine q_thenX ?_
    with_reducible refine q_inBX ?_
    with_reducible refine q_then ?_
    with_reducible refine c_seq ?_
    with_reducible refine c_region ?_
    refine stepD rfl F rfl (o_build F rfl rfl ?_); clear F; clear a; intro a F
    (refine stepN rfl F (o_storeA M (F.ev rfl) (F.ev rfl) (by rfl) (by rfl) (by repeat (first | exact .here | apply Has.there)) (by rfl) (by repeat (first | exact .here | apply Upd.there)) ?_); clear F; clear M; intro w M a F)
    refine stepD rfl F rfl (o_assign (F.ev rfl) ?_); clear F; clear a; intro a F
    with_reducible refine l_nil ?_
    with_reducible refine q_then ?_
    with_reducible refine c_ret ?_
    refine p_ret F rfl (.cons (.cell (F.ev rfl) (run_loadVar_agg TAgg.h (M.heap .here) rfl)) (.cons (.tmp (F.ev rfl)) .nil)) ⟨rfl, M.ext⟩
end Go.Proofs.YtadnpidadcgdcaaDoor

/-! H1 -/
/-
  The walk of AddressHalves: it answers true.
-/
namespace Go.Proofs.YtadnpidadcgdcaaDoor
set_option linter.unusedVariables false
set_option linter.unusedSimpArgs false
open Go.RowKit
attribute [local irreducible] OpTo wpListIn Code.wpIn MW Cal

theorem eqVs_ipS (a : List Int) : eqVs (ipC a) (ipC a) = true := by rw [eqVs_ip a a rfl]; simp
theorem fits_ipS {a : List Int} (ha : a.length = 16) : fitsK [.i .u8, .i .u8, .i .u8, .i .u8, .i .u8, .i .u8, .i .u8, .i .u8, .i .u8, .i .u8, .i .u8, .i .u8, .i .u8, .i .u8, .i .u8, .i .u8] (ipC a) = true := by
  obtain ⟨x0, x1, x2, x3, x4, x5, x6, x7, x8, x9, x10, x11, x12, x13, x14, x15, rfl⟩ := len16 ha
  rfl
/-- the cells of a row of prefixes -/
def pfsC : List (List Int × Int) → List Value
  | [] => []
  | (a, n) :: r => pfC a n ++ pfsC r
theorem seg_pfs : ∀ (L : List (List Int × Int)) (i : Nat), (∀ x ∈ L, x.1.length = 16) → i < L.length → seg (pfsC L) (i * 17) 17 = some (pfC (L.getD i ([], 0)).1 (L.getD i ([], 0)).2)
  | [], i, _, h => by simp at h
  | (a, n) :: r, 0, hl, _ => by
    have h16 := hl (a, n) (by simp)
    have := seg_of [] (pfC a n) (pfsC r)
    rw [pfC_len h16] at this
    simpa [pfsC] using this
  | (a, n) :: r, i + 1, hl, h => by
    have h16 := hl (a, n) (by simp)
    have ih := seg_pfs r i (fun x hx => hl x (by simp [hx])) (by simpa using h)
    rw [seg_eq] at ih ⊢
    have hlen : (pfsC ((a, n) :: r)).length = 17 + (pfsC r).length := by simp [pfsC, pfC_len h16]
    split at ih
    · rename_i hle
      rw [if_pos (by rw [hlen]; omega)]
      rw [show ((a, n) :: r).getD (i + 1) ([], 0) = r.getD i ([], 0) by simp, ← ih]
      congr 1
      show List.take 17 (List.drop ((i + 1) * 17) (pfC a n ++ pfsC r)) = _
      rw [show (i + 1) * 17 = (pfC a n).length + i * 17 by rw [pfC_len h16]; omega, List.drop_append, List.drop_eq_nil_of_le (by omega), List.nil_append, Nat.add_sub_cancel_left]
    · cases ih

def pfZ : List Value := [.int .u8 0, .int .u8 0, .int .u8 0, .int .u8 0, .int .u8 0, .int .u8 0, .int .u8 0, .int .u8 0, .int .u8 0, .int .u8 0, .int .u8 0, .int .u8 0, .int .u8 0, .int .u8 0, .int .u8 0, .int .u8 0, .int .i64 0]
theorem put2 {r a : List Int} (hr : r.length = 16) (ha : a.length = 16) (rn n : Int) : putAll (placesL 2 17) (zerosL pfZ (2 * 17)) [(0, pfC r rn), (1, pfC a n)] = some (pfsC [(r, rn), (a, n)]) := by
  obtain ⟨x0, x1, x2, x3, x4, x5, x6, x7, x8, x9, x10, x11, x12, x13, x14, x15, rfl⟩ := len16 hr
  obtain ⟨y0, y1, y2, y3, y4, y5, y6, y7, y8, y9, y10, y11, y12, y13, y14, y15, rfl⟩ := len16 ha
  rfl
set_option maxHeartbeats 4000000 in
theorem halves_c (p q : List Int) (hp : IsIP p) (hq : IsIP q) (r : List Int) (rn : Int) (hr : IsIP r) (pt : Option Addr) (cap : Nat) (xs : List Int) (v : Int) (hv0 : 0 ≤ v) (hv1 : v ≤ 18446744073709551615) (W : World) (hI : IntsAt W (.slice pt xs.length cap) xs) (hcap : xs.length ≤ cap) (hM : GM W) (hG : GT W) :
    Cal Tryd.prog 6 [.agg (ipC p).toArray, .agg (ipC q).toArray, .agg (pfC r rn).toArray, .slice pt xs.length cap, .int .u64 v].toArray W fun v w' => v = .bool true ∧ Ext [] W w' := by
  have hmem : 0 < xs.length → ∃ b o cs t fz, pt = some ⟨b, o, none⟩ ∧ W.heap[b]? = some (.cells cs t fz) ∧ seg cs.toList o xs.length = some (i64C xs) := fun hl => by
    obtain ⟨p', cap', h1, _, h3⟩ := hI.ex
    cases h1
    exact h3 hl
  have e1 := seg_all (ipC_len hp.len)
  have e2 := seg_all (ipC_len hq.len)
  have e3 := seg_pf hr.len rn
  refine fn_ofM (n := 100) [] Tryd.func6 rfl rfl rfl ?_
  intro a w F M hwW
  refine c_seq ?_
  refine c_region ?_
  (refine stepD rfl F rfl (o_box M (F.ev rfl) rfl ?_); clear F; clear M; intro b5 w M a F)
  (refine stepD rfl F rfl (o_box M (F.ev rfl) rfl ?_); clear F; clear M; intro b6 w M a F)
  (refine stepD rfl F rfl (o_box M (F.ev rfl) rfl ?_); clear F; clear M; intro b7 w M a F)
  refine stepD rfl F rfl (o_assign (F.ev rfl) ?_); clear F; clear a; intro a F
  with_reducible refine l_nil ?_
  with_reducible refine q_then ?_
  with_reducible refine c_seq ?_
  with_reducible refine c_region ?_
  refine stepD rfl F rfl (o_loadA M (F.ev rfl) (by repeat (first | exact .here | apply Has.there)) (by first | assumption | rfl) ?_); clear F; clear a; intro a F
  (refine stepD rfl F rfl (o_call (F.ev rfl) (F.evs rfl) (Cal.mono (split_c p hp _) ?_)); clear F; clear a; rintro _ w ⟨rfl, hE⟩ a F; replace M := M.later hE; clear hE)
  refine stepD rfl F rfl (o_move (F.ev rfl) ?_); clear F; clear a; intro a F
  refine stepD rfl F rfl (o_extract (F.ev rfl) rfl ?_); clear F; clear a; intro a F
  refine stepD rfl F rfl (o_extract (F.ev rfl) rfl ?_); clear F; clear a; intro a F
  refine stepD rfl F rfl (o_assign (F.ev rfl) ?_); clear F; clear a; intro a F
  refine stepD rfl F rfl (o_assign (F.ev rfl) ?_); clear F; clear a; intro a F
  with_reducible refine l_nil ?_
  with_reducible refine q_then ?_
  with_reducible refine c_seq ?_
  with_reducible refine c_region ?_
  refine stepD rfl F rfl (o_loadA M (F.ev rfl) (by repeat (first | exact .here | apply Has.there)) (by first | assumption | rfl) ?_); clear F; clear a; intro a F
  (refine stepD rfl F rfl (o_call (F.ev rfl) (F.evs rfl) (Cal.mono (rsplit_c p hp _) ?_)); clear F; clear a; rintro _ w ⟨rfl, hE⟩ a F; replace M := M.later hE; clear hE)
  refine stepD rfl F rfl (o_move (F.ev rfl) ?_); clear F; clear a; intro a F
  refine stepD rfl F rfl (o_extract (F.ev rfl) rfl ?_); clear F; clear a; intro a F
  refine stepD rfl F rfl (o_extract (F.ev rfl) rfl ?_); clear F; clear a; intro a F
  refine stepD rfl F rfl (o_assign (F.ev rfl) ?_); clear F; clear a; intro a F
  refine stepD rfl F rfl (o_assign (F.ev rfl) ?_); clear F; clear a; intro a F
  with_reducible refine l_nil ?_
  with_reducible refine q_then ?_
  with_reducible refine c_seq ?_
  replace F := F.only [3, 4, 5, 6, 7, 11, 12, 13, 14] rfl
  refine c_drawK (keepOld w.heap.size) [2, 3] [] noT 4 F (by kernel_rfl) rfl (fun h => absurd rfl h) (fun h => absurd rfl h) (noT.stays _) (fun _ _ => trivial) ?_
  intro w1 hE hsz hok hef
  have M1 := M.later hE
  refine mK hok rfl rfl (fun a' w' F' E' => o_loadA (M1.laterOld E' (Nat.le_of_eq hsz)) (F'.ev rfl) (by repeat (first | exact .here | apply Has.there)) (by first | assumption | rfl) ⟨Ext.refl _ _, rfl⟩) ?_
  refine mK hok rfl rfl (fun a' w' F' E' => o_move (F'.ev rfl) ⟨Ext.refl _ _, rfl⟩) ?_
  have hIw : ∀ w', Old w.heap.size w1 w' → Ext [] W w' := fun w' h => (M1.laterOld h (Nat.le_of_eq hsz)).ext
  refine mEX (V := Any) (T' := fun σ w => ∃ bt, σ 2 = .pointer (some ⟨bt, 0, none⟩) ∧ w.heap[bt]? = some (tobj pt (cut400 xs).length cap 0) ∧ W.heap.size ≤ bt ∧ w1.heap.size ≤ bt) hok rfl rfl (fun _ _ _ _ _ => trivial) (fun σ w w' h k => by
    obtain ⟨bt, h1, h2, h3, h4⟩ := h
    exact ⟨bt, h1, by rw [Ext.block k bt (Array.getElem?_eq_some_iff.1 h2).1 (by simp)]; exact h2, h3, h4⟩) (fun a' w' σ' F' E' D' hσ' T' => o_call (F'.ev rfl) (F'.evs rfl) (Cal.mono (new_c xs w' (hI.later (hIw w' E')) hcap) fun x w'' hh => by
      obtain ⟨bt, rfl, N⟩ := hh
      have hb := (N.own (bt, _) (List.mem_cons_self)).resolve_left (by simp)
      exact ⟨Old.of_ext N.ext, trivial, bt, rfl, N.heap .here, Nat.le_trans (hIw w' E').size hb, Nat.le_trans (Old.size E') hb⟩)) ?_
  refine mEKX (v := .agg (pfC (maskI (preA (cut400 xs) 0) (preN (cut400 xs) 0)) (preN (cut400 xs) 0)).toArray) (T' := noT) hok rfl rfl (noT.stays _) (fun a' w' σ' F' E' D' hσ' T' => by
    obtain ⟨bt, h1, h2, h3, h4⟩ := T'
    have hs := hσ' 2 (by simp) (by decide)
    have hev : a'.eval (.tmp 33) = .pointer (some ⟨bt, 0, none⟩) := hs.symm.trans h1
    have hT : TapeS W bt pt (cut400 xs).length (cut400 xs) := tape_new (Ext.refl [] W) h3 hI.bd hmem
    refine o_call (F'.ev rfl) (vs := #[.pointer (some ⟨bt, 0, none⟩)]) (by simp only [List.map_toArray, List.map_cons, List.map_nil, hev]) (Cal.mono (prefix_c w' (hT.later (hIw w' E').any) h2) fun x w'' hh => ⟨?_, hh.1, trivial⟩)
    exact ⟨hh.2.ext.os, hh.2.ext.tape, hh.2.ext.output, hh.2.ext.size, fun k hk hks => hh.2.ext.block k hks (by simp only [List.mem_singleton]; omega)⟩) ?_
  (refine mDone rfl hef ?_; clear F; clear M; intro a w F hE2 hX hTT hDD hPP; have M := M1.laterOld hE2 (Nat.le_of_eq hsz); clear hIw; clear M1; clear hX; clear hE2; clear hok; clear hE; clear hTT; clear hDD; clear hPP; clear hsz; clear hef; (try dsimp only at F))
  generalize hpn : preN (cut400 xs) 0 = n2 at *
  generalize hpa : maskI (preA (cut400 xs) 0) n2 = a2 at *
  have ha2 : IsIP a2 := by
    rw [← hpa]
    exact mask_isIP (beb_ip (head_bd _).1 (nxV_bd _ _ (by omega)).1) n2
  clear hpn hpa
  (refine stepD rfl F rfl (o_buildSlice F M rfl rfl rfl (put2 hr.len ha2.len rn n2) ?_); clear F; clear M; intro b35 w M a F)
  refine stepD rfl F rfl (o_assign (F.ev rfl) ?_); clear F; clear a; intro a F
  with_reducible refine l_nil ?_
  with_reducible refine q_then ?_
  with_reducible refine c_seq ?_
  with_reducible refine c_seq ?_
  with_reducible refine c_region ?_
  refine stepD rfl F rfl (o_assign (F.ev rfl) ?_); clear F; clear a; intro a F
  with_reducible refine l_nil ?_
  with_reducible refine q_then ?_
  with_reducible refine c_block ?_
  replace F := F.only [16, 15, 4, 5, 6, 11, 12, 13, 14] rfl
  obtain ⟨L, hL⟩ : ∃ L : List (List Int × Int), L = [(r, rn), (a2, n2)] := ⟨_, rfl⟩
  have hLl : L.length = 2 := by rw [hL]; rfl
  have hLa : ∀ x ∈ L, IsIP x.1 := fun x hx => by
    rw [hL] at hx
    simp only [List.mem_cons, List.not_mem_nil, or_false] at hx
    rcases hx with rfl | rfl
    · exact hr
    · exact ha2
  rw [← hL] at M
  clear hL
  replace M : Mem [] W w [(b35, .cells (pfsC L).toArray 35 (0, 0)), (b6, .cells (ipC q).toArray 23 (0, 0)), (b5, .cells (ipC p).toArray 23 (0, 0))] := M.sub (.cons_cons _ (.cons _ (.refl _)))
  refine c_loop (fun k a w => ∃ i : Nat, k = 2 - i ∧ i ≤ 2 ∧ Frm a 100 [] [(16, .int .i64 i), (15, .slice (some ⟨b35, 0, none⟩) 2 2), (4, .int .u64 v), (5, .pointer (some ⟨b5, 0, none⟩)), (6, .pointer (some ⟨b6, 0, none⟩)), (11, .int .u64 (beN (p.take 8))), (12, .int .u64 (beN (p.drop 8))), (13, .int .u64 (beN (p.take 8))), (14, .int .u64 (beN (p.drop 8)))] ∧ Mem [] W w [(b35, .cells (pfsC L).toArray 35 (0, 0)), (b6, .cells (ipC q).toArray 23 (0, 0)), (b5, .cells (ipC p).toArray 23 (0, 0))]) 2 ⟨0, rfl, by omega, F.only [16, 15, 4, 5, 6, 11, 12, 13, 14] rfl, M⟩ ?_
  clear F M
  rintro k a w ⟨i, hk, hi, F, M⟩
  by_cases hlt : i < 2
  · obtain ⟨⟨z, zn⟩, hz⟩ : ∃ x, x = L.getD i ([], 0) := ⟨_, rfl⟩
    have hzi : IsIP z := by
      have := hLa (L.getD i ([], 0)) (by rw [List.getD_eq_getElem?_getD, List.getElem?_eq_getElem (by omega)]; exact List.getElem_mem _)
      rw [← hz] at this
      exact this
    have s1 : seg (pfsC L) (0 + (i : Int).toNat * 17) 17 = some (pfC z zn) := by
      have := seg_pfs L i (fun x hx => (hLa x hx).len) (by omega)
      rw [← hz] at this
      rw [show 0 + (i : Int).toNat * 17 = i * 17 by omega]; exact this
    clear hz
    have l1 : ((joinP z zn v).getD zeroIP).length = 16 := by
      unfold joinP
      split
      · simp [joinI, beB_len, hzi.len]
      · rfl
    have l2 := seg_all (ipC_len l1)
    have l3 := eqVs_ipS ((joinP z zn v).getD zeroIP)
    have l4 := fits_ipS l1
    with_reducible refine c_seq ?_
    with_reducible refine c_seq ?_
    with_reducible refine c_region ?_
    refine stepD rfl F rfl (o_move (F.ev rfl) ?_); clear F; clear a; intro a F
    refine stepD rfl F rfl (o_lssT (F.ev rfl) (F.ev rfl) (by omega) ?_); clear F; clear a; intro a F
    with_reducible refine l_nil ?_
    with_reducible refine q_then ?_
    refine c_true F rfl rfl ?_
    with_reducible refine c_skip ?_
    with_reducible refine q_then ?_
    with_reducible refine c_seq ?_
    with_reducible refine c_block ?_
    with_reducible refine c_seq ?_
    with_reducible refine c_region ?_
    refine stepD rfl F rfl (o_move (F.ev rfl) ?_); clear F; clear a; intro a F
    refine stepD rfl F rfl (o_move (F.ev rfl) ?_); clear F; clear a; intro a F
    refine stepD rfl F rfl (o_indexSl (F.ev rfl) (F.ev rfl) (by omega) (by omega) ?_); clear F; clear a; intro a F
    refine stepD rfl F rfl (o_loadA M (F.ev rfl) (by repeat (first | exact .here | apply Has.there)) (by first | assumption | rfl) ?_); clear F; clear a; intro a F
    refine stepD rfl F rfl (o_move (F.ev rfl) ?_); clear F; clear a; intro a F
    (refine stepD rfl F rfl (o_call (F.ev rfl) (F.evs rfl) (Cal.mono (join_c z hzi.len zn v hv0 _) ?_)); clear F; clear a; rintro _ w ⟨rfl, hE⟩ a F; replace M := M.later hE; clear hE)
    unfold optIP at F
    refine stepD rfl F rfl (o_move (F.ev rfl) ?_); clear F; clear a; intro a F
    refine stepD rfl F rfl (o_extract (F.ev rfl) rfl ?_); clear F; clear a; intro a F
    refine stepD rfl F rfl (o_extract (F.ev rfl) rfl ?_); clear F; clear a; intro a F
    (refine stepD rfl F rfl (o_alloc M ?_); clear F; clear M; intro b17 w M a F)
    (refine stepN rfl F (o_storeA M (F.ev rfl) (F.ev rfl) (ipC_len l1) (one_ip _)  (by repeat (first | exact .here | apply Has.there))  (put_all (by rw [ipC_len l1]; rfl)) (by repeat (first | exact .here | apply Upd.there)) ?_); clear F; clear M; intro w M a F)
    refine stepD rfl F rfl (o_assign (F.ev rfl) ?_); clear F; clear a; intro a F
    with_reducible refine l_nil ?_
    with_reducible refine q_then ?_
    with_reducible refine c_seq ?_
    with_reducible refine c_region ?_
    refine stepD rfl F rfl (o_move (F.ev rfl) ?_); clear F; clear a; intro a F
    refine stepD rfl F rfl (o_move (F.ev rfl) ?_); clear F; clear a; intro a F
    refine stepD rfl F rfl (o_indexSl (F.ev rfl) (F.ev rfl) (by omega) (by omega) ?_); clear F; clear a; intro a F
    refine stepD rfl F rfl (o_loadA M (F.ev rfl) (by repeat (first | exact .here | apply Has.there)) (by first | assumption | rfl) ?_); clear F; clear a; intro a F
    refine stepD rfl F rfl (o_move (F.ev rfl) ?_); clear F; clear a; intro a F
    (refine stepD rfl F rfl (o_call (F.ev rfl) (F.evs rfl) (Cal.mono (rjoin_c z hzi zn v hv0 _) ?_)); clear F; clear a; rintro _ w ⟨rfl, hE⟩ a F; replace M := M.later hE; clear hE)
    unfold optIP at F
    refine stepD rfl F rfl (o_move (F.ev rfl) ?_); clear F; clear a; intro a F
    refine stepD rfl F rfl (o_extract (F.ev rfl) rfl ?_); clear F; clear a; intro a F
    refine stepD rfl F rfl (o_extract (F.ev rfl) rfl ?_); clear F; clear a; intro a F
    (refine stepD rfl F rfl (o_alloc M ?_); clear F; clear M; intro b19 w M a F)
    (refine stepN rfl F (o_storeA M (F.ev rfl) (F.ev rfl) (ipC_len l1) (one_ip _)  (by repeat (first | exact .here | apply Has.there))  (put_all (by rw [ipC_len l1]; rfl)) (by repeat (first | exact .here | apply Upd.there)) ?_); clear F; clear M; intro w M a F)
    refine stepD rfl F rfl (o_assign (F.ev rfl) ?_); clear F; clear a; intro a F
    with_reducible refine l_nil ?_
    with_reducible refine q_then ?_
    with_reducible refine c_seq ?_
    with_reducible refine c_region ?_
    refine stepD rfl F rfl (o_loadA M (F.ev rfl) (by repeat (first | exact .here | apply Has.there)) (by first | assumption | rfl) ?_); clear F; clear a; intro a F
    refine stepD rfl F rfl (o_loadA M (F.ev rfl) (by repeat (first | exact .here | apply Has.there)) (by first | assumption | rfl) ?_); clear F; clear a; intro a F
    refine stepD rfl F rfl (o_neqAF (F.ev rfl) (F.ev rfl) (by first | assumption | rfl) (by first | assumption | rfl) (by assumption) ?_); clear F; clear a; intro a F
    refine stepD rfl F rfl (o_move (F.ev rfl) ?_); clear F; clear a; intro a F
    refine stepG rfl F rfl rfl rfl (o_move (F.ev rfl) ?_); clear F; clear a; intro a F
    refine stepG rfl F rfl rfl rfl (o_move (F.ev rfl) ?_); clear F; clear a; intro a F
    refine stepG rfl F rfl rfl rfl (o_neqBF (F.ev rfl) (F.ev rfl) rfl ?_); clear F; clear a; intro a F
    refine stepD rfl F rfl (o_pickF (F.ev rfl) (F.ev rfl) ?_); clear F; clear a; intro a F
    with_reducible refine l_nil ?_
    with_reducible refine q_then ?_
    refine c_false F rfl rfl ?_
    with_reducible refine c_skip ?_
    with_reducible refine q_inB ?_
    with_reducible refine q_then ?_
    with_reducible refine c_region ?_
    refine stepD rfl F rfl (o_move (F.ev rfl) ?_); clear F; clear a; intro a F
    refine stepD rfl F rfl (o_add (F.ev rfl) (F.ev rfl) (w_i64 (by omega) (by omega)) ?_); clear F; clear a; intro a F
    refine stepD rfl F rfl (o_assign (F.ev rfl) ?_); clear F; clear a; intro a F
    with_reducible refine l_nil ?_
    with_reducible refine q_then ?_
    exact ⟨_, by omega, i + 1, rfl, by omega, F.only [16, 15, 4, 5, 6, 11, 12, 13, 14] rfl, M.sub (.cons _ (.cons _ (.refl _)))⟩
  · obtain rfl : i = 2 := by omega
    have l1 : (solI p).length = 16 := rfl
    have l3 := eqVs_ipS (solI p)
    have l4 := fits_ipS l1
    with_reducible refine c_seq ?_
    with_reducible refine c_seq ?_
    with_reducible refine c_region ?_
    refine stepD rfl F rfl (o_move (F.ev rfl) ?_); clear F; clear a; intro a F
    refine stepD rfl F rfl (o_lssF (F.ev rfl) (F.ev rfl) (by omega) ?_); clear F; clear a; intro a F
    with_reducible refine l_nil ?_
    with_reducible refine q_then ?_
    refine c_false F rfl rfl ?_
    with_reducible refine c_exit ?_
    with_reducible refine q_thenX ?_
    with_reducible refine q_thenX ?_
    with_reducible refine q_inBX ?_
    with_reducible refine q_then ?_
    with_reducible refine c_seq ?_
    replace F := F.only [5, 6, 11, 12, 13, 14] rfl
    refine c_draw 34 F (by kernel_rfl) ?_
    intro w1 hE hok
    have M1 := M.later hE
    (refine mK hok rfl rfl (fun a' w' F' E' => o_call (F'.ev rfl) (F'.evs rfl) (Cal.mono (known_c _ (hM.later (M1.ext.trans E')) (hG.later (M1.ext.trans E'))) fun _ _ hh => ⟨hh.2, hh.1⟩)) ?_)
    refine mK hok rfl rfl (fun a' w' F' E' => o_move (F'.ev rfl) ⟨Ext.refl _ _, rfl⟩) ?_
    refine mKG hok rfl rfl rfl rfl (fun a' w' F' E' => o_move (F'.ev rfl) ⟨Ext.refl _ _, rfl⟩) ?_
    refine mKG hok rfl rfl rfl rfl (fun a' w' F' E' => o_move (F'.ev rfl) ⟨Ext.refl _ _, rfl⟩) ?_
    refine mKG hok rfl rfl rfl rfl (fun a' w' F' E' => o_eqlT (F'.ev rfl) (F'.ev rfl) (by omega) ⟨Ext.refl _ _, rfl⟩) ?_
    refine mK hok rfl rfl (fun a' w' F' E' => o_pickT (F'.ev rfl) (F'.ev rfl) ⟨Ext.refl _ _, rfl⟩) ?_
    refine mK hok rfl rfl (fun a' w' F' E' => o_move (F'.ev rfl) ⟨Ext.refl _ _, rfl⟩) ?_
    refine mKG hok rfl rfl rfl rfl (fun a' w' F' E' => o_move (F'.ev rfl) ⟨Ext.refl _ _, rfl⟩) ?_
    refine mKG hok rfl rfl rfl rfl (fun a' w' F' E' => o_move (F'.ev rfl) ⟨Ext.refl _ _, rfl⟩) ?_
    refine mKG hok rfl rfl rfl rfl (fun a' w' F' E' => o_eqlT (F'.ev rfl) (F'.ev rfl) (by omega) ⟨Ext.refl _ _, rfl⟩) ?_
    refine mK hok rfl rfl (fun a' w' F' E' => o_pickT (F'.ev rfl) (F'.ev rfl) ⟨Ext.refl _ _, rfl⟩) ?_
    refine mK hok rfl rfl (fun a' w' F' E' => o_move (F'.ev rfl) ⟨Ext.refl _ _, rfl⟩) ?_
    refine mKG hok rfl rfl rfl rfl (fun a' w' F' E' => o_loadA (M1.later E') (F'.ev rfl) (by repeat (first | exact .here | apply Has.there)) (by first | assumption | rfl) ⟨Ext.refl _ _, rfl⟩) ?_
    refine mKG hok rfl rfl rfl rfl (fun a' w' F' E' => o_loadA (M1.later E') (F'.ev rfl) (by repeat (first | exact .here | apply Has.there)) (by first | assumption | rfl) ⟨Ext.refl _ _, rfl⟩) ?_
    (refine mKG hok rfl rfl rfl rfl (fun a' w' F' E' => o_call (F'.ev rfl) (F'.evs rfl) (Cal.mono (common_c p q hp hq _) fun _ _ hh => ⟨hh.2, hh.1⟩)) ?_)
    refine mKG hok rfl rfl rfl rfl (fun a' w' F' E' => o_loadA (M1.later E') (F'.ev rfl) (by repeat (first | exact .here | apply Has.there)) (by first | assumption | rfl) ⟨Ext.refl _ _, rfl⟩) ?_
    refine mKG hok rfl rfl rfl rfl (fun a' w' F' E' => o_loadA (M1.later E') (F'.ev rfl) (by repeat (first | exact .here | apply Has.there)) (by first | assumption | rfl) ⟨Ext.refl _ _, rfl⟩) ?_
    (refine mKG hok rfl rfl rfl rfl (fun a' w' F' E' => o_call (F'.ev rfl) (F'.evs rfl) (Cal.mono (rcommon_c p q hp hq _) fun _ _ hh => ⟨hh.2, hh.1⟩)) ?_)
    refine mKG hok rfl rfl rfl rfl (fun a' w' F' E' => o_eqlT (F'.ev rfl) (F'.ev rfl) (by omega) ⟨Ext.refl _ _, rfl⟩) ?_
    refine mK hok rfl rfl (fun a' w' F' E' => o_pickT (F'.ev rfl) (F'.ev rfl) ⟨Ext.refl _ _, rfl⟩) ?_
    refine mK hok rfl rfl (fun a' w' F' E' => o_move (F'.ev rfl) ⟨Ext.refl _ _, rfl⟩) ?_
    refine mKG hok rfl rfl rfl rfl (fun a' w' F' E' => o_loadA (M1.later E') (F'.ev rfl) (by repeat (first | exact .here | apply Has.there)) (by first | assumption | rfl) ⟨Ext.refl _ _, rfl⟩) ?_
    (refine mKG hok rfl rfl rfl rfl (fun a' w' F' E' => o_call (F'.ev rfl) (F'.evs rfl) (Cal.mono (multi_c p hp _) fun _ _ hh => ⟨hh.2, hh.1⟩)) ?_)
    refine mKG hok rfl rfl rfl rfl (fun a' w' F' E' => o_loadA (M1.later E') (F'.ev rfl) (by repeat (first | exact .here | apply Has.there)) (by first | assumption | rfl) ⟨Ext.refl _ _, rfl⟩) ?_
    (refine mKG hok rfl rfl rfl rfl (fun a' w' F' E' => o_call (F'.ev rfl) (F'.evs rfl) (Cal.mono (rmulti_c p hp _) fun _ _ hh => ⟨hh.2, hh.1⟩)) ?_)
    refine mKG hok rfl rfl rfl rfl (fun a' w' F' E' => o_eqlBT (F'.ev rfl) (F'.ev rfl) rfl ⟨Ext.refl _ _, rfl⟩) ?_
    refine mK hok rfl rfl (fun a' w' F' E' => o_pickT (F'.ev rfl) (F'.ev rfl) ⟨Ext.refl _ _, rfl⟩) ?_
    refine mK hok rfl rfl (fun a' w' F' E' => o_move (F'.ev rfl) ⟨Ext.refl _ _, rfl⟩) ?_
    refine mKG hok rfl rfl rfl rfl (fun a' w' F' E' => o_loadA (M1.later E') (F'.ev rfl) (by repeat (first | exact .here | apply Has.there)) (by first | assumption | rfl) ⟨Ext.refl _ _, rfl⟩) ?_
    (refine mKG hok rfl rfl rfl rfl (fun a' w' F' E' => o_call (F'.ev rfl) (F'.evs rfl) (Cal.mono (sol_c p hp _) fun _ _ hh => ⟨hh.2, hh.1⟩)) ?_)
    refine mKG hok rfl rfl rfl rfl (fun a' w' F' E' => o_loadA (M1.later E') (F'.ev rfl) (by repeat (first | exact .here | apply Has.there)) (by first | assumption | rfl) ⟨Ext.refl _ _, rfl⟩) ?_
    (refine mKG hok rfl rfl rfl rfl (fun a' w' F' E' => o_call (F'.ev rfl) (F'.evs rfl) (Cal.mono (rsol_c p hp _) fun _ _ hh => ⟨hh.2, hh.1⟩)) ?_)
    refine mKG hok rfl rfl rfl rfl (fun a' w' F' E' => o_eqlAT (F'.ev rfl) (F'.ev rfl) (by first | assumption | rfl) (by first | assumption | rfl) (by assumption) ⟨Ext.refl _ _, rfl⟩) ?_
    refine mK hok rfl rfl (fun a' w' F' E' => o_pickT (F'.ev rfl) (F'.ev rfl) ⟨Ext.refl _ _, rfl⟩) ?_
    (refine mDone rfl rfl ?_; clear F; clear M; intro a w F hE2 hX hTT hDD hPP; have M := M1.later hE2; clear M1; clear hX; clear hE2; clear hok; clear hE; clear hTT; clear hDD; clear hPP; (try dsimp only at F))
    refine stepD rfl F rfl (o_assign (F.ev rfl) ?_); clear F; clear a; intro a F
    with_reducible refine l_nil ?_
    with_reducible refine q_then ?_
    with_reducible refine c_ret ?_
    refine p_ret F rfl (.cons (.tmp (F.ev rfl)) .nil) ?_
    exact ⟨rfl, M.ext⟩
end Go.Proofs.YtadnpidadcgdcaaDoor

/-! X4 -/
/-
  The walk of AddressPrefixes: it answers true.
-/
namespace Go.Proofs.YtadnpidadcgdcaaDoor
set_option linter.unusedVariables false
set_option linter.unusedSimpArgs false
open Go.RowKit
attribute [local irreducible] OpTo wpListIn Code.wpIn MW Cal

section
variable {P : Program} {ρ : Operand → Value} {w : World} {R : Value → World → Prop} {d : Option Tmp} {ty : TypeId} {pos : String} {af : Array Edge} {g : Option (Nat × Bool)} {x y : Operand} {bs : List UInt8} {t t' : TypeId}
theorem s_neqF (hx : ρ x = mkS bs) (hy : ρ y = mkS bs) (h : R (.bool false) w) : OpTo P ⟨d, .binOp .neq t x y t', ty, pos, af, g⟩ ρ w R := s_neq hx hy (by simpa using h)
end
theorem put5 {a b c d e : List Int} (ha : a.length = 16) (hb : b.length = 16) (hc : c.length = 16) (hd : d.length = 16) (he : e.length = 16) (i j k l m : Int) : putAll (placesL 5 17) (zerosL pfZ (5 * 17)) [(0, pfC a i), (1, pfC b j), (2, pfC c k), (3, pfC d l), (4, pfC e m)] = some (pfsC [(a, i), (b, j), (c, k), (d, l), (e, m)]) := by
  obtain ⟨x0, x1, x2, x3, x4, x5, x6, x7, x8, x9, x10, x11, x12, x13, x14, x15, rfl⟩ := len16 ha
  obtain ⟨y0, y1, y2, y3, y4, y5, y6, y7, y8, y9, y10, y11, y12, y13, y14, y15, rfl⟩ := len16 hb
  obtain ⟨z0, z1, z2, z3, z4, z5, z6, z7, z8, z9, z10, z11, z12, z13, z14, z15, rfl⟩ := len16 hc
  obtain ⟨u0, u1, u2, u3, u4, u5, u6, u7, u8, u9, u10, u11, u12, u13, u14, u15, rfl⟩ := len16 hd
  obtain ⟨v0, v1, v2, v3, v4, v5, v6, v7, v8, v9, v10, v11, v12, v13, v14, v15, rfl⟩ := len16 he
  rfl
theorem parsePV_16 (s : List UInt8) : ((parsePV s).getD (ip0, 0)).1.length = 16 := by
  cases h : parsePV s with
  | none => exact ip0_len
  | some q =>
    unfold parsePV at h
    split at h
    · cases h
    · split at h
      · cases h
      · rename_i a ha
        split at h
        · cases h; exact parseIPV_len ha
        · cases h
theorem pre_isIP (xs : List Int) (k : Nat) : IsIP (maskI (preA xs k) (preN xs k)) := mask_isIP (beb_ip (head_bd _).1 (nxV_bd _ _ (by omega)).1) _
theorem formatPV_len (p : List Int) (n : Int) : (formatPV p n).length ≤ 100 := by
  unfold formatPV
  split
  · rename_i hv
    have hb := validP_bd hv
    have h1 := formatI_len p
    have h2 := Lib.itoa_length_le n (by omega) (by omega)
    simp only [List.length_append, List.length_cons, List.length_nil]
    omega
  · simp

set_option maxRecDepth 10000 in
set_option maxHeartbeats 8000000 in
theorem prefixes_c (s : List UInt8) (hs : s.length ≤ 4294967200) (r : List Int) (rn : Int) (hr : IsIP r) (p : List Int) (hp : IsIP p) (pt : Option Addr) (cap : Nat) (xs : List Int) (n0 : Int) (W : World) (hI : IntsAt W (.slice pt xs.length cap) xs) (hcap : xs.length ≤ cap) (hM : GM W) (hG : GT W) (hG2 : GI W) :
    Cal Tryd.prog 9 [mkS s, .agg (pfC r rn).toArray, .agg (ipC p).toArray, .slice pt xs.length cap, .int .i64 n0].toArray W fun v w' => v = .bool true ∧ Ext [] W w' := by
  have hmem : 0 < xs.length → ∃ b o cs t fz, pt = some ⟨b, o, none⟩ ∧ W.heap[b]? = some (.cells cs t fz) ∧ seg cs.toList o xs.length = some (i64C xs) := fun hl => by
    obtain ⟨p', cap', h1, _, h3⟩ := hI.ex
    cases h1
    exact h3 hl
  have e1 := seg_pf hr.len rn
  have e2 := seg_all (ipC_len hp.len)
  have hmd := modI_bd n0 (n := 131) (by omega)
  have htl := textV_len (cut400 xs)
  refine fn_ofM (n := 166) [] Tryd.func9 rfl rfl rfl ?_
  intro a w F M hwW
  refine c_seq ?_
  refine c_region ?_
  (refine stepD rfl F rfl (o_box M (F.ev rfl) rfl ?_); clear F; clear M; intro b6 w M a F)
  (refine stepD rfl F rfl (o_box M (F.ev rfl) rfl ?_); clear F; clear M; intro b7 w M a F)
  refine stepD rfl F rfl (o_assign (F.ev rfl) ?_); clear F; clear a; intro a F
  with_reducible refine l_nil ?_
  with_reducible refine q_then ?_
  with_reducible refine c_seq ?_
  with_reducible refine c_region ?_
  refine stepD rfl F rfl (o_move (F.ev rfl) ?_); clear F; clear a; intro a F
  (refine stepD rfl F rfl (o_call (F.ev rfl) (F.evs rfl) (Cal.mono (new_c xs _ (hI.later M.ext) hcap ) ?_)); clear F; clear a; rintro _ w ⟨bt, rfl, N⟩ a F; replace M := M.joins N; clear N)
  have hown := (M.own (bt, _) (List.mem_cons_self)).resolve_left (by simp)
  have hT : TapeS W bt pt (cut400 xs).length (cut400 xs) := tape_new (Ext.refl [] W) hown hI.bd hmem
  clear hmem hown
  replace M : Mem [] W w [(bt, tobj pt (cut400 xs).length cap 0), (b7, .cells (ipC p).toArray 23 (0, 0)), (b6, .cells (pfC r rn).toArray 35 (0, 0))] := M
  refine stepD rfl F rfl (o_assign (F.ev rfl) ?_); clear F; clear a; intro a F
  with_reducible refine l_nil ?_
  with_reducible refine q_then ?_
  with_reducible refine c_seq ?_
  replace F := F.only [0, 3, 4, 6, 7, 11] rfl
  refine c_drawB (l0 := [(bt, tobj pt (cut400 xs).length cap 0)]) [bt] [2, 4] M 13 F (by kernel_rfl) ?_
  intro w1 M1 hok hef
  have hB : ∀ k ∈ [bt], k ∈ ([(bt, tobj pt (cut400 xs).length cap 0)] : List (Nat × Obj)).map (·.1) := by simp
  refine mK hok rfl rfl (fun a' w' F' E' => o_loadA (M1.laterBut E' hB) (F'.ev rfl) (by repeat (first | exact .here | apply Has.there)) (by first | assumption | rfl) ⟨Ext.refl _ _, rfl⟩) ?_
  refine mK hok rfl rfl (fun a' w' F' E' => o_move (F'.ev rfl) ⟨Ext.refl _ _, rfl⟩) ?_
  refine mE (T' := fun _ w => Mem _ _ w ([(bt, tobj pt (cut400 xs).length cap (preK (cut400 xs) 0))] ++ _)) hok rfl rfl (fun _ _ _ h k => h.later k) (fun a' w' σ' F' E' T' => o_call (F'.ev rfl) (F'.evs rfl) (Cal.mono (prefix_c _ (hT.later T'.ext.any) (T'.heap .here)) fun _ _ hh => ⟨hh.2.ext, hh.1, Mem.turn1 T' hh.2 .here⟩)) ?_
  refine mK hok rfl rfl (fun a' w' F' E' => o_move (F'.ev rfl) ⟨Ext.refl _ _, rfl⟩) ?_
  refine mE (T' := fun _ w => Mem _ _ w ([(bt, tobj pt (cut400 xs).length cap (preK (cut400 xs) (preK (cut400 xs) 0)))] ++ _)) hok rfl rfl (fun _ _ _ h k => h.later k) (fun a' w' σ' F' E' T' => o_call (F'.ev rfl) (F'.evs rfl) (Cal.mono (prefix_c _ (hT.later T'.ext.any) (T'.heap .here)) fun _ _ hh => ⟨hh.2.ext, hh.1, Mem.turn1 T' hh.2 .here⟩)) ?_
  refine mK hok rfl rfl (fun a' w' F' E' => o_loadA (M1.laterBut E' hB) (F'.ev rfl) (by repeat (first | exact .here | apply Has.there)) (by first | assumption | rfl) ⟨Ext.refl _ _, rfl⟩) ?_
  refine mK hok rfl rfl (fun a' w' F' E' => o_move (F'.ev rfl) ⟨Ext.refl _ _, rfl⟩) ?_
  (refine mK hok rfl rfl (fun a' w' F' E' => o_call (F'.ev rfl) (F'.evs rfl) (Cal.mono (rmask_c p hp n0 _) fun _ _ hh => ⟨hh.2, hh.1⟩)) ?_)
  refine mK hok rfl rfl (fun a' w' F' E' => o_loadA (M1.laterBut E' hB) (F'.ev rfl) (by repeat (first | exact .here | apply Has.there)) (by first | assumption | rfl) ⟨Ext.refl _ _, rfl⟩) ?_
  refine mK hok rfl rfl (fun a' w' F' E' => o_move (F'.ev rfl) ⟨Ext.refl _ _, rfl⟩) ?_
  (refine mK hok rfl rfl (fun a' w' F' E' => o_call (F'.ev rfl) (F'.evs rfl) (Cal.mono (mod_c n0 131 (by omega) (by omega) _) fun _ _ hh => ⟨hh.2, hh.1⟩)) ?_)
  refine mK hok rfl rfl (fun a' w' F' E' => o_sub (F'.ev rfl) (F'.ev rfl) (w_i64 (by omega) (by omega)) ⟨Ext.refl _ _, rfl⟩) ?_
  (refine mK hok rfl rfl (fun a' w' F' E' => o_call (F'.ev rfl) (F'.evs rfl) (Cal.mono (rmask_c p hp (modI n0 131 - 1) _) fun _ _ hh => ⟨hh.2, hh.1⟩)) ?_)
  (refine mDone rfl hef ?_; clear F; clear M; intro a w F hE2 hX M hDD hPP; clear M1; clear hX; clear hE2; clear hok; clear hef; clear hB; clear hDD; clear hPP; (try dsimp only at F); (try simp only [List.cons_append, List.nil_append] at M))
  (refine stepD rfl F rfl (o_buildSlice F M rfl rfl rfl (put5 hr.len (pre_isIP _ _).len (pre_isIP _ _).len (mask_isIP hp _).len (mask_isIP hp _).len _ _ _ _ _) ?_); clear F; clear M; intro b38 w M a F)
  refine stepD rfl F rfl (o_assign (F.ev rfl) ?_); clear F; clear a; intro a F
  with_reducible refine l_nil ?_
  with_reducible refine q_then ?_
  with_reducible refine c_seq ?_
  with_reducible refine c_seq ?_
  with_reducible refine c_region ?_
  refine stepD rfl F rfl (o_assign (F.ev rfl) ?_); clear F; clear a; intro a F
  with_reducible refine l_nil ?_
  with_reducible refine q_then ?_
  with_reducible refine c_block ?_
  replace F := F.only [13, 12, 0, 3, 4, 7] rfl
  clear hT
  obtain ⟨L, hL⟩ : ∃ L : List (List Int × Int), L = [(r, rn), (maskI (preA (cut400 xs) 0) (preN (cut400 xs) 0), preN (cut400 xs) 0), (maskI (preA (cut400 xs) (preK (cut400 xs) 0)) (preN (cut400 xs) (preK (cut400 xs) 0)), preN (cut400 xs) (preK (cut400 xs) 0)), (maskI p (clampB n0), clampB n0), (maskI p (clampB (modI n0 131 - 1)), clampB (modI n0 131 - 1))] := ⟨_, rfl⟩
  have hLl : L.length = 5 := by rw [hL]; rfl
  have hL4 : L.getD 4 ([], 0) = (maskI p (clampB (modI n0 131 - 1)), clampB (modI n0 131 - 1)) := by rw [hL]; rfl
  have hLa : ∀ x ∈ L, IsIP x.1 := fun x hx => by
    rw [hL] at hx
    simp only [List.mem_cons, List.not_mem_nil, or_false] at hx
    rcases hx with rfl | rfl | rfl | rfl | rfl
    · exact hr
    · exact pre_isIP _ _
    · exact pre_isIP _ _
    · exact mask_isIP hp _
    · exact mask_isIP hp _
  rw [← hL] at M
  clear hL
  replace M : Mem [] W w [(b38, .cells (pfsC L).toArray 35 (0, 0)), (b7, .cells (ipC p).toArray 23 (0, 0))] := M.sub (.cons_cons _ (.cons _ (.cons_cons _ (List.nil_sublist _))))
  refine c_loop (fun k a w => ∃ i : Nat, k = 5 - i ∧ i ≤ 5 ∧ Frm a 166 [] [(13, .int .i64 i), (12, .slice (some ⟨b38, 0, none⟩) 5 5), (0, mkS s), (3, .slice pt xs.length cap), (4, .int .i64 n0), (7, .pointer (some ⟨b7, 0, none⟩))] ∧ Mem [] W w [(b38, .cells (pfsC L).toArray 35 (0, 0)), (b7, .cells (ipC p).toArray 23 (0, 0))]) 5 ⟨0, rfl, by omega, F.only [13, 12, 0, 3, 4, 7] rfl, M⟩ ?_
  clear F M
  rintro k a w ⟨i, hk, hi, F, M⟩
  by_cases hlt : i < 5
  · obtain ⟨⟨z, zn⟩, hz⟩ : ∃ x, x = L.getD i ([], 0) := ⟨_, rfl⟩
    obtain ⟨⟨y, yn⟩, hy⟩ : ∃ x, x = L.getD ((i + 1) % 5) ([], 0) := ⟨_, rfl⟩
    have hzi : IsIP z := by
      have := hLa (L.getD i ([], 0)) (by rw [List.getD_eq_getElem?_getD, List.getElem?_eq_getElem (by omega)]; exact List.getElem_mem _)
      rw [← hz] at this
      exact this
    have hyi : IsIP y := by
      have := hLa (L.getD ((i + 1) % 5) ([], 0)) (by rw [List.getD_eq_getElem?_getD, List.getElem?_eq_getElem (by omega)]; exact List.getElem_mem _)
      rw [← hy] at this
      exact this
    have s1 : seg (pfsC L) (0 + (i : Int).toNat * 17) 17 = some (pfC z zn) := by
      have := seg_pfs L i (fun x hx => (hLa x hx).len) (by omega)
      rw [← hz] at this
      rw [show 0 + (i : Int).toNat * 17 = i * 17 by omega]; exact this
    have s2 : seg (pfsC L) (0 + ((((i + 1) % 5 : Nat)) : Int).toNat * 17) 17 = some (pfC y yn) := by
      have := seg_pfs L ((i + 1) % 5) (fun x hx => (hLa x hx).len) (by omega)
      rw [← hy] at this
      rw [show 0 + ((((i + 1) % 5 : Nat)) : Int).toNat * 17 = ((i + 1) % 5) * 17 by omega]; exact this
    clear hz hy
    have z1 := seg_pf hzi.len zn
    have y1 := seg_pf hyi.len yn
    have y0 := seg_pf0 hyi.len yn
    have zl := pfC_len hzi.len zn
    have yl := pfC_len hyi.len yn
    have hrem : Int.tmod ((i : Int) + 1) 5 = (((i + 1) % 5 : Nat) : Int) := by rw [Int.tmod_eq_emod_of_nonneg (by omega)]; omega
    have hm5 : (i + 1) % 5 < 5 := by omega
    have hfl := formatPV_len z zn
    with_reducible refine c_seq ?_
    with_reducible refine c_seq ?_
    with_reducible refine c_region ?_
    refine stepD rfl F rfl (o_move (F.ev rfl) ?_); clear F; clear a; intro a F
    refine stepD rfl F rfl (o_move (F.ev rfl) ?_); clear F; clear a; intro a F
    refine stepD rfl F rfl (o_lenSl (F.ev rfl) ?_); clear F; clear a; intro a F
    refine stepD rfl F rfl (o_lssT (F.ev rfl) (F.ev rfl) (by omega) ?_); clear F; clear a; intro a F
    with_reducible refine l_nil ?_
    with_reducible refine q_then ?_
    refine c_true F rfl rfl ?_
    with_reducible refine c_skip ?_
    with_reducible refine q_then ?_
    with_reducible refine c_seq ?_
    with_reducible refine c_block ?_
    with_reducible refine c_seq ?_
    refine c_drawP [⟨12, 14, .cells pfZ.toArray 35 (0, 0), .cells (pfC z zn).toArray 35 (0, 0)⟩, ⟨13, 99999, .cells pfZ.toArray 35 (0, 0), .cells pfZ.toArray 35 (0, 0)⟩] 15 F (by kernel_rfl) (by kernel_rfl) ?_
    intro w1 hE hsz hok
    have M1 := M.later hE
    refine mK hok rfl rfl (fun a' w' F' E' => o_move (F'.ev rfl) ⟨Ext.refl _ _, rfl⟩) ?_
    refine mK hok rfl rfl (fun a' w' F' E' => o_move (F'.ev rfl) ⟨Ext.refl _ _, rfl⟩) ?_
    refine mK hok rfl rfl (fun a' w' F' E' => o_indexSl (F'.ev rfl) (F'.ev rfl) (by omega) (by omega) ⟨Ext.refl _ _, rfl⟩) ?_
    refine mK hok rfl rfl (fun a' w' F' E' => o_loadA (M1.laterOld E' (Nat.le_of_eq hsz)) (F'.ev rfl) (by repeat (first | exact .here | apply Has.there)) (by first | assumption | rfl) ⟨Ext.refl _ _, rfl⟩) ?_
    refine mK hok rfl rfl (fun a' w' F' E' => o_move (F'.ev rfl) ⟨Ext.refl _ _, rfl⟩) ?_
    refine mK hok rfl rfl (fun a' w' F' E' => o_move (F'.ev rfl) ⟨Ext.refl _ _, rfl⟩) ?_
    refine mK hok rfl rfl (fun a' w' F' E' => o_add (F'.ev rfl) (F'.ev rfl) (w_i64 (by omega) (by omega)) ⟨Ext.refl _ _, rfl⟩) ?_
    refine mK hok rfl rfl (fun a' w' F' E' => o_move (F'.ev rfl) ⟨Ext.refl _ _, rfl⟩) ?_
    refine mK hok rfl rfl (fun a' w' F' E' => o_lenSl (F'.ev rfl) ⟨Ext.refl _ _, rfl⟩) ?_
    (refine mK hok rfl rfl (fun a' w' F' E' => o_rem (F'.ev rfl) (F'.ev rfl) (by omega) hrem ⟨Ext.refl _ _, rfl⟩) ?_)
    refine mK hok rfl rfl (fun a' w' F' E' => o_indexSl (F'.ev rfl) (F'.ev rfl) (by omega) (by omega) ⟨Ext.refl _ _, rfl⟩) ?_
    refine mK hok rfl rfl (fun a' w' F' E' => o_loadA (M1.laterOld E' (Nat.le_of_eq hsz)) (F'.ev rfl) (by repeat (first | exact .here | apply Has.there)) (by first | assumption | rfl) ⟨Ext.refl _ _, rfl⟩) ?_
    refine mAlP hok rfl rfl (by intro q hq hj; rcases List.mem_cons.1 hq with rfl | hq; { first | rfl | exact absurd hj (Nat.ne_of_beq_eq_false rfl) }; rcases List.mem_cons.1 hq with rfl | hq; { first | rfl | exact absurd hj (Nat.ne_of_beq_eq_false rfl) }; cases hq) (fun w => Ext.alloc w _) (fun a' w' F' E' => run_al) ?_
    refine mAlP hok rfl rfl (by intro q hq hj; rcases List.mem_cons.1 hq with rfl | hq; { first | rfl | exact absurd hj (Nat.ne_of_beq_eq_false rfl) }; rcases List.mem_cons.1 hq with rfl | hq; { first | rfl | exact absurd hj (Nat.ne_of_beq_eq_false rfl) }; cases hq) (fun w => Ext.alloc w _) (fun a' w' F' E' => run_al) ?_
    refine mStP ⟨12, 14, .cells pfZ.toArray 35 (0, 0), .cells (pfC z zn).toArray 35 (0, 0)⟩ hok rfl (.head _) rfl (by intro q hq hj; rcases List.mem_cons.1 hq with rfl | hq; { first | rfl | exact absurd hj (Nat.ne_of_beq_eq_false rfl) }; rcases List.mem_cons.1 hq with rfl | hq; { first | rfl | exact absurd hj (Nat.ne_of_beq_eq_false rfl) }; cases hq) (fun _ _ b' hb' h => ⟨h.os, h.tape, h.output, h.size, fun k hk hks => h.block k hks (by simp only [List.mem_singleton]; (try dsimp only at hb'); omega)⟩) (fun a' w' b' F' E' hp hh => o_storeP hp (F'.ev rfl) zl (one_pf _ _) hh (put_all (by rw [zl]; rfl))) ?_
    (refine mDone rfl rfl ?_; clear F; clear M; intro a w F hE2 hX hTT hDD hPP; have M := M1.laterOld hE2 (Nat.le_of_eq hsz); (try dsimp only at F); obtain ⟨b14, e_b14, g_b14, q_b14⟩ := hPP ⟨12, 14, .cells pfZ.toArray 35 (0, 0), .cells (pfC z zn).toArray 35 (0, 0)⟩ (.head _); replace F := F.know (d := 14) e_b14; replace q_b14 := q_b14.trans (congrArg some (if_pos (Nat.le_of_ble_eq_true rfl))); replace M := Mem.al (pre := []) M M1 q_b14 g_b14 (by intro p hp; cases hp); obtain ⟨b15, e_b15, g_b15, q_b15⟩ := hPP ⟨13, 99999, .cells pfZ.toArray 35 (0, 0), .cells pfZ.toArray 35 (0, 0)⟩ (.tail _ (.head _)); replace F := F.know (d := 15) e_b15; replace q_b15 := q_b15.trans (congrArg some (if_neg (Nat.not_lt_of_le (Nat.le_of_ble_eq_true rfl)))); replace M := Mem.al (pre := [(b14, _)]) M M1 q_b15 g_b15 (by intro p hp; rcases List.mem_cons.1 hp with rfl | hp; { exact fun h => hDD 12 13 _ _ (Nat.le_of_ble_eq_true rfl) (Nat.le_of_ble_eq_true rfl) (by decide) rfl rfl rfl rfl (e_b14.trans (h.trans e_b15.symm)) }; cases hp); clear M1; clear hX; clear hE2; clear hok; clear hE; clear hTT; clear hDD; clear hPP; clear hsz; clear e_b14; clear g_b14; clear q_b14; clear e_b15; clear g_b15; clear q_b15; (try dsimp only [ptrTo] at F); (try simp only [List.cons_append, List.nil_append] at M))
    (refine stepN rfl F (o_storeA M (F.ev rfl) (F.ev rfl) (yl) (one_pf _ _)  (by repeat (first | exact .here | apply Has.there))  (put_all (by rw [yl]; rfl)) (by repeat (first | exact .here | apply Upd.there)) ?_); clear F; clear M; intro w M a F)
    with_reducible refine l_nil ?_
    with_reducible refine q_then ?_
    with_reducible refine c_seq ?_
    with_reducible refine c_region ?_
    refine stepD rfl F rfl (o_loadA M (F.ev rfl) (by repeat (first | exact .here | apply Has.there)) (by first | assumption | rfl) ?_); clear F; clear a; intro a F
    (refine stepD rfl F rfl (o_call (F.ev rfl) (F.evs rfl) (Cal.mono (rformatPrefix_c z zn hzi _) ?_)); clear F; clear a; rintro _ w ⟨rfl, hE⟩ a F; replace M := M.later hE; clear hE)
    generalize hff : formatPV z zn = f at *
    refine stepD rfl F rfl (o_assign (F.ev rfl) ?_); clear F; clear a; intro a F
    with_reducible refine l_nil ?_
    with_reducible refine q_then ?_
    with_reducible refine c_seq ?_
    with_reducible refine c_region ?_
    refine stepD rfl F rfl (o_move (F.ev rfl) ?_); clear F; clear a; intro a F
    refine stepD rfl F rfl (o_move (F.ev rfl) ?_); clear F; clear a; intro a F
    (refine stepD rfl F rfl (s_add (cs := [48]) (F.ev rfl) rfl (by simp only [List.length_cons, List.length_nil]; omega) ?_); clear F; clear a; intro a F)
    refine stepD rfl F rfl (o_move (F.ev rfl) ?_); clear F; clear a; intro a F
    refine stepD rfl F rfl (o_move (F.ev rfl) ?_); clear F; clear a; intro a F
    (refine stepD rfl F rfl (o_call (F.ev rfl) (F.evs rfl) (Cal.mono (text_c xs _ (hI.later M.ext) hcap) ?_)); clear F; clear a; rintro _ w ⟨rfl, hE⟩ a F; replace M := M.later hE; clear hE)
    (refine stepD rfl F rfl (o_buildSlice F M rfl rfl rfl rfl ?_); clear F; clear M; intro b65 w M a F)
    refine stepD rfl F rfl (o_assign (F.ev rfl) ?_); clear F; clear a; intro a F
    with_reducible refine l_nil ?_
    with_reducible refine q_then ?_
    with_reducible refine c_seq ?_
    with_reducible refine c_seq ?_
    with_reducible refine c_region ?_
    refine stepD rfl F rfl (o_assign (F.ev rfl) ?_); clear F; clear a; intro a F
    with_reducible refine l_nil ?_
    with_reducible refine q_then ?_
    with_reducible refine c_block ?_
    replace F := F.only [18, 17, 16, 15, 14, 13, 12, 0, 3, 4, 7] rfl
    obtain ⟨Q, hQ⟩ : ∃ Q : List (List UInt8), Q = [f, f ++ [48], s, textV (cut400 xs)] := ⟨_, rfl⟩
    have hQl : Q.length = 4 := by rw [hQ]; rfl
    have hQa : ∀ x ∈ Q, x.length ≤ 4294967200 := fun x hx => by
      rw [hQ] at hx
      simp only [List.mem_cons, List.not_mem_nil, or_false] at hx
      rcases hx with rfl | rfl | rfl | rfl
      · omega
      · simp; omega
      · exact hs
      · omega
    replace M : Mem [] W w [(b65, .cells (Q.map mkS).toArray 9 (0, 0)), (b15, .cells (pfC y yn).toArray 35 (0, 0)), (b14, .cells (pfC z zn).toArray 35 (0, 0)), (b38, .cells (pfsC L).toArray 35 (0, 0)), (b7, .cells (ipC p).toArray 23 (0, 0))] := by
      rw [hQ]; exact M
    clear hQ
    refine c_loop (fun k a w => ∃ n : Nat, k = 4 - n ∧ n ≤ 4 ∧ Frm a 166 [] [(18, .int .i64 n), (17, .slice (some ⟨b65, 0, none⟩) 4 4), (16, mkS f), (15, .pointer (some ⟨b15, 0, none⟩)), (14, .pointer (some ⟨b14, 0, none⟩)), (13, .int .i64 i), (12, .slice (some ⟨b38, 0, none⟩) 5 5), (0, mkS s), (3, .slice pt xs.length cap), (4, .int .i64 n0), (7, .pointer (some ⟨b7, 0, none⟩))] ∧ Mem [] W w [(b65, .cells (Q.map mkS).toArray 9 (0, 0)), (b15, .cells (pfC y yn).toArray 35 (0, 0)), (b14, .cells (pfC z zn).toArray 35 (0, 0)), (b38, .cells (pfsC L).toArray 35 (0, 0)), (b7, .cells (ipC p).toArray 23 (0, 0))]) 4 ⟨0, rfl, by omega, F.only [18, 17, 16, 15, 14, 13, 12, 0, 3, 4, 7] rfl, M⟩ ?_
    clear F M
    rintro k2 a w ⟨n, hk2, hn, F, M⟩
    by_cases hn4 : n < 4
    · obtain ⟨v, hv⟩ : ∃ x, x = Q.getD n [] := ⟨_, rfl⟩
      have hvl : v.length ≤ 4294967200 := by
        have := hQa (Q.getD n []) (by rw [List.getD_eq_getElem?_getD, List.getElem?_eq_getElem (by omega)]; exact List.getElem_mem _)
        rw [← hv] at this
        exact this
      have s3 : nth (Q.map mkS) (0 + (n : Int).toNat * 1) = some (mkS v) := by
        rw [hv, show 0 + (n : Int).toNat * 1 = n by omega]
        exact nth_words Q (by omega)
      clear hv
      have q1 := parsePV_16 v
      have q2 := pfC_len q1 ((parsePV v).getD (ip0, 0)).2
      have q3 := seg_pf q1 ((parsePV v).getD (ip0, 0)).2
      have q4 := eqVs_pfB ((parsePV v).getD (ip0, 0)).1 ((parsePV v).getD (ip0, 0)).2
      have q5 := fits_pf q1 ((parsePV v).getD (ip0, 0)).2
      with_reducible refine c_seq ?_
      with_reducible refine c_seq ?_
      with_reducible refine c_region ?_
      refine stepD rfl F rfl (o_move (F.ev rfl) ?_); clear F; clear a; intro a F
      refine stepD rfl F rfl (o_move (F.ev rfl) ?_); clear F; clear a; intro a F
      refine stepD rfl F rfl (o_lenSl (F.ev rfl) ?_); clear F; clear a; intro a F
      refine stepD rfl F rfl (o_lssT (F.ev rfl) (F.ev rfl) (by omega) ?_); clear F; clear a; intro a F
      with_reducible refine l_nil ?_
      with_reducible refine q_then ?_
      refine c_true F rfl rfl ?_
      with_reducible refine c_skip ?_
      with_reducible refine q_then ?_
      with_reducible refine c_seq ?_
      with_reducible refine c_block ?_
      with_reducible refine c_seq ?_
      with_reducible refine c_region ?_
      refine stepD rfl F rfl (o_move (F.ev rfl) ?_); clear F; clear a; intro a F
      refine stepD rfl F rfl (o_move (F.ev rfl) ?_); clear F; clear a; intro a F
      refine stepD rfl F rfl (o_indexSl (F.ev rfl) (F.ev rfl) (by omega) (by omega) ?_); clear F; clear a; intro a F
      refine stepD rfl F rfl (o_load1 M (F.ev rfl) (by repeat (first | exact .here | apply Has.there)) (by first | assumption | rfl) ?_); clear F; clear a; intro a F
      (refine stepD rfl F rfl (o_call (F.ev rfl) (F.evs rfl) (Cal.mono (parsePrefix_c v (by omega) _ (hM.later M.ext)) ?_)); clear F; clear a; rintro _ w ⟨rfl, hE⟩ a F; replace M := M.later hE; clear hE)
      refine stepD rfl F rfl (o_move (F.ev rfl) ?_); clear F; clear a; intro a F
      refine stepD rfl F rfl (o_extract (F.ev rfl) rfl ?_); clear F; clear a; intro a F
      refine stepD rfl F rfl (o_extract (F.ev rfl) rfl ?_); clear F; clear a; intro a F
      (refine stepD rfl F rfl (o_alloc M ?_); clear F; clear M; intro b19 w M a F)
      (refine stepN rfl F (o_storeA M (F.ev rfl) (F.ev rfl) (q2) (one_pf _ _)  (by repeat (first | exact .here | apply Has.there))  (put_all (by rw [q2]; rfl)) (by repeat (first | exact .here | apply Upd.there)) ?_); clear F; clear M; intro w M a F)
      refine stepD rfl F rfl (o_assign (F.ev rfl) ?_); clear F; clear a; intro a F
      with_reducible refine l_nil ?_
      with_reducible refine q_then ?_
      with_reducible refine c_seq ?_
      with_reducible refine c_region ?_
      refine stepD rfl F rfl (o_move (F.ev rfl) ?_); clear F; clear a; intro a F
      refine stepD rfl F rfl (o_move (F.ev rfl) ?_); clear F; clear a; intro a F
      refine stepD rfl F rfl (o_indexSl (F.ev rfl) (F.ev rfl) (by omega) (by omega) ?_); clear F; clear a; intro a F
      refine stepD rfl F rfl (o_load1 M (F.ev rfl) (by repeat (first | exact .here | apply Has.there)) (by first | assumption | rfl) ?_); clear F; clear a; intro a F
      (refine stepD rfl F rfl (o_call (F.ev rfl) (F.evs rfl) (Cal.mono (rparsePrefix_c v (by omega) _) ?_)); clear F; clear a; rintro _ w ⟨rfl, hE⟩ a F; replace M := M.later hE; clear hE)
      refine stepD rfl F rfl (o_move (F.ev rfl) ?_); clear F; clear a; intro a F
      refine stepD rfl F rfl (o_extract (F.ev rfl) rfl ?_); clear F; clear a; intro a F
      refine stepD rfl F rfl (o_extract (F.ev rfl) rfl ?_); clear F; clear a; intro a F
      (refine stepD rfl F rfl (o_alloc M ?_); clear F; clear M; intro b21 w M a F)
      (refine stepN rfl F (o_storeA M (F.ev rfl) (F.ev rfl) (q2) (one_pf _ _)  (by repeat (first | exact .here | apply Has.there))  (put_all (by rw [q2]; rfl)) (by repeat (first | exact .here | apply Upd.there)) ?_); clear F; clear M; intro w M a F)
      refine stepD rfl F rfl (o_assign (F.ev rfl) ?_); clear F; clear a; intro a F
      with_reducible refine l_nil ?_
      with_reducible refine q_then ?_
      with_reducible refine c_seq ?_
      with_reducible refine c_region ?_
      refine stepD rfl F rfl (o_move (F.ev rfl) ?_); clear F; clear a; intro a F
      refine stepD rfl F rfl (o_move (F.ev rfl) ?_); clear F; clear a; intro a F
      refine stepD rfl F rfl (o_neqBF (F.ev rfl) (F.ev rfl) rfl ?_); clear F; clear a; intro a F
      refine stepD rfl F rfl (o_move (F.ev rfl) ?_); clear F; clear a; intro a F
      refine stepG rfl F rfl rfl rfl (o_loadA M (F.ev rfl) (by repeat (first | exact .here | apply Has.there)) (by first | assumption | rfl) ?_); clear F; clear a; intro a F
      refine stepG rfl F rfl rfl rfl (o_loadA M (F.ev rfl) (by repeat (first | exact .here | apply Has.there)) (by first | assumption | rfl) ?_); clear F; clear a; intro a F
      refine stepG rfl F rfl rfl rfl (o_neqAF (F.ev rfl) (F.ev rfl) (by first | assumption | rfl) (by first | assumption | rfl) (by assumption) ?_); clear F; clear a; intro a F
      refine stepD rfl F rfl (o_pickF (F.ev rfl) (F.ev rfl) ?_); clear F; clear a; intro a F
      with_reducible refine l_nil ?_
      with_reducible refine q_then ?_
      refine c_false F rfl rfl ?_
      with_reducible refine c_skip ?_
      with_reducible refine q_inB ?_
      with_reducible refine q_then ?_
      with_reducible refine c_region ?_
      refine stepD rfl F rfl (o_move (F.ev rfl) ?_); clear F; clear a; intro a F
      refine stepD rfl F rfl (o_add (F.ev rfl) (F.ev rfl) (w_i64 (by omega) (by omega)) ?_); clear F; clear a; intro a F
      refine stepD rfl F rfl (o_assign (F.ev rfl) ?_); clear F; clear a; intro a F
      with_reducible refine l_nil ?_
      with_reducible refine q_then ?_
      exact ⟨_, by omega, n + 1, rfl, by omega, F.only [18, 17, 16, 15, 14, 13, 12, 0, 3, 4, 7] rfl, M.sub (.cons _ (.cons _ (.refl _)))⟩
    · obtain rfl : n = 4 := by omega
      with_reducible refine c_seq ?_
      with_reducible refine c_seq ?_
      with_reducible refine c_region ?_
      refine stepD rfl F rfl (o_move (F.ev rfl) ?_); clear F; clear a; intro a F
      refine stepD rfl F rfl (o_move (F.ev rfl) ?_); clear F; clear a; intro a F
      refine stepD rfl F rfl (o_lenSl (F.ev rfl) ?_); clear F; clear a; intro a F
      refine stepD rfl F rfl (o_lssF (F.ev rfl) (F.ev rfl) (by omega) ?_); clear F; clear a; intro a F
      with_reducible refine l_nil ?_
      with_reducible refine q_then ?_
      refine c_false F rfl rfl ?_
      with_reducible refine c_exit ?_
      with_reducible refine q_thenX ?_
      with_reducible refine q_thenX ?_
      with_reducible refine q_inBX ?_
      with_reducible refine q_then ?_
      with_reducible refine c_seq ?_
      replace F := F.only [16, 15, 14, 13, 12, 0, 3, 4, 7] rfl
      refine c_draw 49 F (by kernel_rfl) ?_
      intro w1 hE hok
      have M1 := M.later hE
      refine mK hok rfl rfl (fun a' w' F' E' => o_loadA (M1.later E') (F'.ev rfl) (by repeat (first | exact .here | apply Has.there)) (by first | assumption | rfl) ⟨Ext.refl _ _, rfl⟩) ?_
      (refine mK hok rfl rfl (fun a' w' F' E' => o_call (F'.ev rfl) (F'.evs rfl) (Cal.mono (Cal.to (formatPrefix_c z zn hzi _ (hG.later (M1.ext.trans E')) (hG2.later (M1.ext.trans E'))) (by rw [hff])) fun _ _ hh => ⟨hh.2, hh.1⟩)) ?_)
      refine mK hok rfl rfl (fun a' w' F' E' => o_move (F'.ev rfl) ⟨Ext.refl _ _, rfl⟩) ?_
      (refine mK hok rfl rfl (fun a' w' F' E' => s_neqF (F'.ev rfl) (F'.ev rfl) ⟨Ext.refl _ _, rfl⟩) ?_)
      refine mK hok rfl rfl (fun a' w' F' E' => o_move (F'.ev rfl) ⟨Ext.refl _ _, rfl⟩) ?_
      refine mKG hok rfl rfl rfl rfl (fun a' w' F' E' => o_loadA (M1.later E') (F'.ev rfl) (by repeat (first | exact .here | apply Has.there)) (by first | assumption | rfl) ⟨Ext.refl _ _, rfl⟩) ?_
      (refine mKG hok rfl rfl rfl rfl (fun a' w' F' E' => o_call (F'.ev rfl) (F'.evs rfl) (Cal.mono (validPrefix_c z zn hzi.len _) fun _ _ hh => ⟨hh.2, hh.1⟩)) ?_)
      refine mKG hok rfl rfl rfl rfl (fun a' w' F' E' => o_loadA (M1.later E') (F'.ev rfl) (by repeat (first | exact .here | apply Has.there)) (by first | assumption | rfl) ⟨Ext.refl _ _, rfl⟩) ?_
      (refine mKG hok rfl rfl rfl rfl (fun a' w' F' E' => o_call (F'.ev rfl) (F'.evs rfl) (Cal.mono (rvalidPrefix_c z zn hzi _) fun _ _ hh => ⟨hh.2, hh.1⟩)) ?_)
      refine mKG hok rfl rfl rfl rfl (fun a' w' F' E' => o_neqBF (F'.ev rfl) (F'.ev rfl) rfl ⟨Ext.refl _ _, rfl⟩) ?_
      refine mK hok rfl rfl (fun a' w' F' E' => o_pickF (F'.ev rfl) (F'.ev rfl) ⟨Ext.refl _ _, rfl⟩) ?_
      refine mK hok rfl rfl (fun a' w' F' E' => o_move (F'.ev rfl) ⟨Ext.refl _ _, rfl⟩) ?_
      refine mKG hok rfl rfl rfl rfl (fun a' w' F' E' => o_loadA (M1.later E') (F'.ev rfl) (by repeat (first | exact .here | apply Has.there)) (by first | assumption | rfl) ⟨Ext.refl _ _, rfl⟩) ?_
      refine mKG hok rfl rfl rfl rfl (fun a' w' F' E' => o_loadA (M1.later E') (F'.ev rfl) (by repeat (first | exact .here | apply Has.there)) (by first | assumption | rfl) ⟨Ext.refl _ _, rfl⟩) ?_
      (refine mKG hok rfl rfl rfl rfl (fun a' w' F' E' => o_call (F'.ev rfl) (F'.evs rfl) (Cal.mono (contains_c z zn hzi.len p hp.len _) fun _ _ hh => ⟨hh.2, hh.1⟩)) ?_)
      refine mKG hok rfl rfl rfl rfl (fun a' w' F' E' => o_loadA (M1.later E') (F'.ev rfl) (by repeat (first | exact .here | apply Has.there)) (by first | assumption | rfl) ⟨Ext.refl _ _, rfl⟩) ?_
      refine mKG hok rfl rfl rfl rfl (fun a' w' F' E' => o_loadA (M1.later E') (F'.ev rfl) (by repeat (first | exact .here | apply Has.there)) (by first | assumption | rfl) ⟨Ext.refl _ _, rfl⟩) ?_
      (refine mKG hok rfl rfl rfl rfl (fun a' w' F' E' => o_call (F'.ev rfl) (F'.evs rfl) (Cal.mono (rcontains_c z zn hzi p hp _) fun _ _ hh => ⟨hh.2, hh.1⟩)) ?_)
      refine mKG hok rfl rfl rfl rfl (fun a' w' F' E' => o_neqBF (F'.ev rfl) (F'.ev rfl) rfl ⟨Ext.refl _ _, rfl⟩) ?_
      refine mK hok rfl rfl (fun a' w' F' E' => o_pickF (F'.ev rfl) (F'.ev rfl) ⟨Ext.refl _ _, rfl⟩) ?_
      refine mK hok rfl rfl (fun a' w' F' E' => o_move (F'.ev rfl) ⟨Ext.refl _ _, rfl⟩) ?_
      refine mKG hok rfl rfl rfl rfl (fun a' w' F' E' => o_loadA (M1.later E') (F'.ev rfl) (by repeat (first | exact .here | apply Has.there)) (by first | assumption | rfl) ⟨Ext.refl _ _, rfl⟩) ?_
      refine mKG hok rfl rfl rfl rfl (fun a' w' F' E' => o_fieldAddr (F'.ev rfl) ⟨Ext.refl _ _, rfl⟩) ?_
      refine mKG hok rfl rfl rfl rfl (fun a' w' F' E' => o_loadA (M1.later E') (F'.ev rfl) (by repeat (first | exact .here | apply Has.there)) (by first | assumption | rfl) ⟨Ext.refl _ _, rfl⟩) ?_
      (refine mKG hok rfl rfl rfl rfl (fun a' w' F' E' => o_call (F'.ev rfl) (F'.evs rfl) (Cal.mono (contains_c z zn hzi.len y hyi.len _) fun _ _ hh => ⟨hh.2, hh.1⟩)) ?_)
      refine mKG hok rfl rfl rfl rfl (fun a' w' F' E' => o_loadA (M1.later E') (F'.ev rfl) (by repeat (first | exact .here | apply Has.there)) (by first | assumption | rfl) ⟨Ext.refl _ _, rfl⟩) ?_
      refine mKG hok rfl rfl rfl rfl (fun a' w' F' E' => o_fieldAddr (F'.ev rfl) ⟨Ext.refl _ _, rfl⟩) ?_
      refine mKG hok rfl rfl rfl rfl (fun a' w' F' E' => o_loadA (M1.later E') (F'.ev rfl) (by repeat (first | exact .here | apply Has.there)) (by first | assumption | rfl) ⟨Ext.refl _ _, rfl⟩) ?_
      (refine mKG hok rfl rfl rfl rfl (fun a' w' F' E' => o_call (F'.ev rfl) (F'.evs rfl) (Cal.mono (rcontains_c z zn hzi y hyi _) fun _ _ hh => ⟨hh.2, hh.1⟩)) ?_)
      refine mKG hok rfl rfl rfl rfl (fun a' w' F' E' => o_neqBF (F'.ev rfl) (F'.ev rfl) rfl ⟨Ext.refl _ _, rfl⟩) ?_
      refine mK hok rfl rfl (fun a' w' F' E' => o_pickF (F'.ev rfl) (F'.ev rfl) ⟨Ext.refl _ _, rfl⟩) ?_
      refine mK hok rfl rfl (fun a' w' F' E' => o_move (F'.ev rfl) ⟨Ext.refl _ _, rfl⟩) ?_
      refine mKG hok rfl rfl rfl rfl (fun a' w' F' E' => o_loadA (M1.later E') (F'.ev rfl) (by repeat (first | exact .here | apply Has.there)) (by first | assumption | rfl) ⟨Ext.refl _ _, rfl⟩) ?_
      refine mKG hok rfl rfl rfl rfl (fun a' w' F' E' => o_loadA (M1.later E') (F'.ev rfl) (by repeat (first | exact .here | apply Has.there)) (by first | assumption | rfl) ⟨Ext.refl _ _, rfl⟩) ?_
      (refine mKG hok rfl rfl rfl rfl (fun a' w' F' E' => o_call (F'.ev rfl) (F'.evs rfl) (Cal.mono (covers_c z zn hzi.len y yn hyi.len _) fun _ _ hh => ⟨hh.2, hh.1⟩)) ?_)
      refine mKG hok rfl rfl rfl rfl (fun a' w' F' E' => o_loadA (M1.later E') (F'.ev rfl) (by repeat (first | exact .here | apply Has.there)) (by first | assumption | rfl) ⟨Ext.refl _ _, rfl⟩) ?_
      refine mKG hok rfl rfl rfl rfl (fun a' w' F' E' => o_loadA (M1.later E') (F'.ev rfl) (by repeat (first | exact .here | apply Has.there)) (by first | assumption | rfl) ⟨Ext.refl _ _, rfl⟩) ?_
      (refine mKG hok rfl rfl rfl rfl (fun a' w' F' E' => o_call (F'.ev rfl) (F'.evs rfl) (Cal.mono (rcovers_c z zn hzi y yn hyi _) fun _ _ hh => ⟨hh.2, hh.1⟩)) ?_)
      refine mKG hok rfl rfl rfl rfl (fun a' w' F' E' => o_neqBF (F'.ev rfl) (F'.ev rfl) rfl ⟨Ext.refl _ _, rfl⟩) ?_
      refine mK hok rfl rfl (fun a' w' F' E' => o_pickF (F'.ev rfl) (F'.ev rfl) ⟨Ext.refl _ _, rfl⟩) ?_
      refine mK hok rfl rfl (fun a' w' F' E' => o_move (F'.ev rfl) ⟨Ext.refl _ _, rfl⟩) ?_
      refine mKG hok rfl rfl rfl rfl (fun a' w' F' E' => o_loadA (M1.later E') (F'.ev rfl) (by repeat (first | exact .here | apply Has.there)) (by first | assumption | rfl) ⟨Ext.refl _ _, rfl⟩) ?_
      refine mKG hok rfl rfl rfl rfl (fun a' w' F' E' => o_loadA (M1.later E') (F'.ev rfl) (by repeat (first | exact .here | apply Has.there)) (by first | assumption | rfl) ⟨Ext.refl _ _, rfl⟩) ?_
      (refine mKG hok rfl rfl rfl rfl (fun a' w' F' E' => o_call (F'.ev rfl) (F'.evs rfl) (Cal.mono (covers_c y yn hyi.len z zn hzi.len _) fun _ _ hh => ⟨hh.2, hh.1⟩)) ?_)
      refine mKG hok rfl rfl rfl rfl (fun a' w' F' E' => o_loadA (M1.later E') (F'.ev rfl) (by repeat (first | exact .here | apply Has.there)) (by first | assumption | rfl) ⟨Ext.refl _ _, rfl⟩) ?_
      refine mKG hok rfl rfl rfl rfl (fun a' w' F' E' => o_loadA (M1.later E') (F'.ev rfl) (by repeat (first | exact .here | apply Has.there)) (by first | assumption | rfl) ⟨Ext.refl _ _, rfl⟩) ?_
      (refine mKG hok rfl rfl rfl rfl (fun a' w' F' E' => o_call (F'.ev rfl) (F'.evs rfl) (Cal.mono (rcovers_c y yn hyi z zn hzi _) fun _ _ hh => ⟨hh.2, hh.1⟩)) ?_)
      refine mKG hok rfl rfl rfl rfl (fun a' w' F' E' => o_neqBF (F'.ev rfl) (F'.ev rfl) rfl ⟨Ext.refl _ _, rfl⟩) ?_
      refine mK hok rfl rfl (fun a' w' F' E' => o_pickF (F'.ev rfl) (F'.ev rfl) ⟨Ext.refl _ _, rfl⟩) ?_
      (refine mDone rfl rfl ?_; clear F; clear M; intro a w F hE2 hX hTT hDD hPP; have M := M1.later hE2; clear M1; clear hX; clear hE2; clear hok; clear hE; clear hTT; clear hDD; clear hPP; (try dsimp only at F))
      with_reducible refine l_nil ?_
      with_reducible refine q_then ?_
      refine c_false F rfl rfl ?_
      with_reducible refine c_skip ?_
      with_reducible refine q_inB ?_
      with_reducible refine q_then ?_
      with_reducible refine c_region ?_
      refine stepD rfl F rfl (o_move (F.ev rfl) ?_); clear F; clear a; intro a F
      refine stepD rfl F rfl (o_add (F.ev rfl) (F.ev rfl) (w_i64 (by omega) (by omega)) ?_); clear F; clear a; intro a F
      refine stepD rfl F rfl (o_assign (F.ev rfl) ?_); clear F; clear a; intro a F
      with_reducible refine l_nil ?_
      with_reducible refine q_then ?_
      exact ⟨_, by omega, i + 1, rfl, by omega, F.only [13, 12, 0, 3, 4, 7] rfl, M.sub (.cons _ (.cons _ (.cons _ (.refl _))))⟩
  · obtain rfl : i = 5 := by omega
    have s4 : seg (pfsC L) (0 + (4 : Int).toNat * 17) 17 = some (pfC (maskI p (clampB (modI n0 131 - 1))) (clampB (modI n0 131 - 1))) := by
      have := seg_pfs L 4 (fun x hx => (hLa x hx).len) (by omega)
      rw [hL4] at this
      exact this
    have m3 := eqVs_pfB (maskI p (clampB n0)) (clampB n0)
    have m4 := fits_pf (mask_isIP hp (clampB n0)).len (clampB n0)
    have m5 := eqVs_pfB (maskI p (clampB (modI n0 131 - 1))) (clampB (modI n0 131 - 1))
    have m6 := fits_pf (mask_isIP hp (clampB (modI n0 131 - 1))).len (clampB (modI n0 131 - 1))
    with_reducible refine c_seq ?_
    with_reducible refine c_seq ?_
    with_reducible refine c_region ?_
    refine stepD rfl F rfl (o_move (F.ev rfl) ?_); clear F; clear a; intro a F
    refine stepD rfl F rfl (o_move (F.ev rfl) ?_); clear F; clear a; intro a F
    refine stepD rfl F rfl (o_lenSl (F.ev rfl) ?_); clear F; clear a; intro a F
    refine stepD rfl F rfl (o_lssF (F.ev rfl) (F.ev rfl) (by omega) ?_); clear F; clear a; intro a F
    with_reducible refine l_nil ?_
    with_reducible refine q_then ?_
    refine c_false F rfl rfl ?_
    with_reducible refine c_exit ?_
    with_reducible refine q_thenX ?_
    with_reducible refine q_thenX ?_
    with_reducible refine q_inBX ?_
    with_reducible refine q_then ?_
    with_reducible refine c_seq ?_
    replace F := F.only [12, 4, 7] rfl
    refine c_draw 21 F (by kernel_rfl) ?_
    intro w1 hE hok
    have M1 := M.later hE
    (refine mK hok rfl rfl (fun a' w' F' E' => o_call (F'.ev rfl) (F'.evs rfl) (Cal.mono (known_c _ (hM.later (M1.ext.trans E')) (hG.later (M1.ext.trans E'))) fun _ _ hh => ⟨hh.2, hh.1⟩)) ?_)
    refine mK hok rfl rfl (fun a' w' F' E' => o_move (F'.ev rfl) ⟨Ext.refl _ _, rfl⟩) ?_
    refine mKG hok rfl rfl rfl rfl (fun a' w' F' E' => o_loadA (M1.later E') (F'.ev rfl) (by repeat (first | exact .here | apply Has.there)) (by first | assumption | rfl) ⟨Ext.refl _ _, rfl⟩) ?_
    refine mKG hok rfl rfl rfl rfl (fun a' w' F' E' => o_move (F'.ev rfl) ⟨Ext.refl _ _, rfl⟩) ?_
    (refine mKG hok rfl rfl rfl rfl (fun a' w' F' E' => o_call (F'.ev rfl) (F'.evs rfl) (Cal.mono (maskP_c p hp.len n0 _) fun _ _ hh => ⟨hh.2, hh.1⟩)) ?_)
    refine mKG hok rfl rfl rfl rfl (fun a' w' F' E' => o_loadA (M1.later E') (F'.ev rfl) (by repeat (first | exact .here | apply Has.there)) (by first | assumption | rfl) ⟨Ext.refl _ _, rfl⟩) ?_
    refine mKG hok rfl rfl rfl rfl (fun a' w' F' E' => o_move (F'.ev rfl) ⟨Ext.refl _ _, rfl⟩) ?_
    (refine mKG hok rfl rfl rfl rfl (fun a' w' F' E' => o_call (F'.ev rfl) (F'.evs rfl) (Cal.mono (rmask_c p hp n0 _) fun _ _ hh => ⟨hh.2, hh.1⟩)) ?_)
    refine mKG hok rfl rfl rfl rfl (fun a' w' F' E' => o_eqlAT (F'.ev rfl) (F'.ev rfl) (by first | assumption | rfl) (by first | assumption | rfl) (by assumption) ⟨Ext.refl _ _, rfl⟩) ?_
    refine mK hok rfl rfl (fun a' w' F' E' => o_pickT (F'.ev rfl) (F'.ev rfl) ⟨Ext.refl _ _, rfl⟩) ?_
    refine mK hok rfl rfl (fun a' w' F' E' => o_move (F'.ev rfl) ⟨Ext.refl _ _, rfl⟩) ?_
    refine mKG hok rfl rfl rfl rfl (fun a' w' F' E' => o_loadA (M1.later E') (F'.ev rfl) (by repeat (first | exact .here | apply Has.there)) (by first | assumption | rfl) ⟨Ext.refl _ _, rfl⟩) ?_
    refine mKG hok rfl rfl rfl rfl (fun a' w' F' E' => o_move (F'.ev rfl) ⟨Ext.refl _ _, rfl⟩) ?_
    (refine mKG hok rfl rfl rfl rfl (fun a' w' F' E' => o_call (F'.ev rfl) (F'.evs rfl) (Cal.mono (mod_c n0 131 (by omega) (by omega) _) fun _ _ hh => ⟨hh.2, hh.1⟩)) ?_)
    refine mKG hok rfl rfl rfl rfl (fun a' w' F' E' => o_sub (F'.ev rfl) (F'.ev rfl) (w_i64 (by omega) (by omega)) ⟨Ext.refl _ _, rfl⟩) ?_
    (refine mKG hok rfl rfl rfl rfl (fun a' w' F' E' => o_call (F'.ev rfl) (F'.evs rfl) (Cal.mono (maskP_c p hp.len (modI n0 131 - 1) _) fun _ _ hh => ⟨hh.2, hh.1⟩)) ?_)
    refine mKG hok rfl rfl rfl rfl (fun a' w' F' E' => o_move (F'.ev rfl) ⟨Ext.refl _ _, rfl⟩) ?_
    refine mKG hok rfl rfl rfl rfl (fun a' w' F' E' => o_indexSl (F'.ev rfl) (F'.ev rfl) (by omega) (by omega) ⟨Ext.refl _ _, rfl⟩) ?_
    refine mKG hok rfl rfl rfl rfl (fun a' w' F' E' => o_loadA (M1.later E') (F'.ev rfl) (by repeat (first | exact .here | apply Has.there)) (by first | assumption | rfl) ⟨Ext.refl _ _, rfl⟩) ?_
    refine mKG hok rfl rfl rfl rfl (fun a' w' F' E' => o_eqlAT (F'.ev rfl) (F'.ev rfl) (by first | assumption | rfl) (by first | assumption | rfl) (by assumption) ⟨Ext.refl _ _, rfl⟩) ?_
    refine mK hok rfl rfl (fun a' w' F' E' => o_pickT (F'.ev rfl) (F'.ev rfl) ⟨Ext.refl _ _, rfl⟩) ?_
    (refine mDone rfl rfl ?_; clear F; clear M; intro a w F hE2 hX hTT hDD hPP; have M := M1.later hE2; clear M1; clear hX; clear hE2; clear hok; clear hE; clear hTT; clear hDD; clear hPP; (try dsimp only at F))
    refine stepD rfl F rfl (o_assign (F.ev rfl) ?_); clear F; clear a; intro a F
    with_reducible refine l_nil ?_
    with_reducible refine q_then ?_
    with_reducible refine c_ret ?_
    refine p_ret F rfl (.cons (.tmp (F.ev rfl)) .nil) ?_
    exact ⟨rfl, M.ext⟩
end Go.Proofs.YtadnpidadcgdcaaDoor

namespace Go.Proofs.YtadnpidadcgdcaaDoor
set_option linter.unusedVariables false
set_option linter.unusedSimpArgs false
open Go.ChangeShapes Go.WideShapes Go.ChangeAt Go.RowKit

theorem seat_GI {W : World} (h : laidMetH Tryd.prog seatLaid W) : GI W := by
  have h' : laidMet Tryd.prog seatLaid W := h
  obtain ⟨ps, hl, _, _⟩ := h'
  obtain ⟨q, h2⟩ := laid_tail hl
  obtain ⟨q', h3⟩ := laid_tail h2
  exact tab_of (g := 1) (t := 130) (e := 44) (n := 20) (by kernel_rfl) (by kernel_rfl) Tryd.underlying130 Tryd.underlying44 (by kernel_rfl) (by kernel_rfl) (zs := Lib.pow10Tab) h3

set_option maxRecDepth 100000 in
theorem addressPrefixes_contract (H : Type) (enc : TypeId × Value → H) (W : World) (base : Nat) (args : Array Value) (ds gs : List (DataW H)) (before : List MemPlace)
    (hval : ∀ (j : Nat) t v, Tryd.f9.params[j]? = some t → args[j]? = some v → Value.okWide Tryd.prog W .any base t v)
    (hW : DataW.Whole enc Tryd.prog Tryd.f9.params.toList Rows.addressPrefixesSpec.vars false W args.toList ds gs before) (hk : Rows.uptoSmall H (ds ++ gs) = true) (hL : laidMetH Tryd.prog seatLaid W) (hS : W.ShapedOpen Tryd.prog) :
    Calls Tryd.prog 9 args W fun e W' => ∃ v, e = .returned v ∧ Rows.addressPrefixesSpec.post enc Tryd.prog Tryd.f9 false true false false W args v W' := by
  have hW' := hW
  obtain ⟨p, q, hA0, hV, rfl, hfz, hnd⟩ := hW
  have hA : DataW.TrodAll enc Tryd.prog W 0 (fun _ => true) true Tryd.f9.params.toList args.toList ds p := hA0
  rw [Tryd.params9] at hA hval
  obtain ⟨v0, vs0, d0, ds0, p0, q0, hargs, rfl, rfl, h0, r0⟩ := trodAll_cons hA
  obtain ⟨v1, vs1, d1, ds1, p1, q1, rfl, rfl, rfl, h1, r1⟩ := trodAll_cons r0
  obtain ⟨v2, vs2, d2, ds2, p2, q2, rfl, rfl, rfl, h2, r2⟩ := trodAll_cons r1
  obtain ⟨v3, vs3, d3, ds3, p3, q3, rfl, rfl, rfl, h3, r3⟩ := trodAll_cons r2
  obtain ⟨v4, vs4, d4, ds4, p4, q4, rfl, rfl, rfl, h4, r4⟩ := trodAll_cons r3
  obtain ⟨rfl, rfl, rfl⟩ := trodAll_nil r4
  obtain rfl : args = #[v0, v1, v2, v3, v4] := by cases args; simp_all
  obtain ⟨s0, hx0, rfl⟩ := open_st (hval 0 _ v0 rfl rfl) h0
  obtain ⟨x1, n1, hx1, hn1, rfl⟩ := open_pf (hval 1 _ v1 rfl rfl) h1
  obtain ⟨x2, hx2, rfl⟩ := open_ip (hval 2 _ v2 rfl rfl) h2
  obtain ⟨l3, q3p, cap3, rfl, hc3, hx3⟩ := open_il (hval 3 _ v3 rfl rfl) h3
  obtain ⟨x4, rfl, rfl, rfl, w4⟩ := open_int Tryd.underlying3 (hval 4 _ v4 rfl rfl) h4; have hx4 := int_bd w4
  refine ((prefixes_c s0 (Nat.le_trans (bulk_string hk (by rw [hx0]; simp)) (by decide)) x1 n1 hx1 x2 hx2 q3p cap3 l3 x4 W hx3 hc3 (seat_GM hS) (seat_GT hL) (seat_GI hL)).calls).mono ?_
  rintro e W' ⟨v, rfl, rfl, hE⟩
  exact ⟨_, rfl, law_post (tb := 4) laidOut (by kernel_rfl) rfl (by kernel_rfl) Tryd.underlying4 (fun xs hx => by rw [Tryd.params9] at hx; match xs, hx with | [_, _, _, _, _], _ => rfl) hW' hE⟩

set_option maxRecDepth 100000 in
theorem addressPrefixes_lifted (os : Os) (started : os.Started) (H : Type) (enc : TypeId × Value → H) (F : Stop.Interp) :
    ReturnsInHanded {} Tryd.checked os 9 .any ((Rows.OpenSpec.upto Rows.addressPrefixesSpec).preRow enc Tryd.prog Tryd.f9 Rows.addressPrefixesUptoRow.domain false Rows.addressPrefixesUptoRow.laid) (((Rows.OpenSpec.upto Rows.addressPrefixesSpec).at F).post enc Tryd.prog Tryd.f9 false true false false) := by
  have hx : ∃ places ds, DataW.whole enc Tryd.prog ((laidWorld os).forCall (fun _ _ => 0) ⟨#[], #[.string .empty, .agg (pfC (List.replicate 16 0) 0).toArray, .agg (ipC (List.replicate 16 0)).toArray, .slice none 0 0, .int .i64 0], []⟩).memory Tryd.f9.params.toList Rows.addressPrefixesSpec.vars false #[Value.string .empty, .agg (pfC (List.replicate 16 0) 0).toArray, .agg (ipC (List.replicate 16 0)).toArray, .slice none 0 0, .int .i64 0].toList 8 = some (ds, [], places) ∧ ds = [.lit (.string []), .agg [.agg (List.replicate 16 (.lit (.int .u8 0))), .lit (.int .i64 0)], .agg (List.replicate 16 (.lit (.int .u8 0))), .nil, .lit (.int .i64 0)] := ⟨[], [.lit (.string []), .agg [.agg (List.replicate 16 (.lit (.int .u8 0))), .lit (.int .i64 0)], .agg (List.replicate 16 (.lit (.int .u8 0))), .nil, .lit (.int .i64 0)], by kernel_rfl, rfl⟩
  obtain ⟨places, ds, hx, rfl⟩ := hx
  refine returnsInHanded_of_row (C := Tryd.checked) (s := Rows.OpenSpec.upto Rows.addressPrefixesSpec) own started (by kernel_rfl) Tryd.func9
    (witness_row_at (enc := enc) (C := Tryd.checked) false (laidWorld os) #[.string .empty, .agg (pfC (List.replicate 16 0) 0).toArray, .agg (ipC (List.replicate 16 0)).toArray, .slice none 0 0, .int .i64 0] rfl (by kernel_rfl) (by kernel_rfl) (by kernel_rfl)
      (OpenSpec.preRow_of_cond 8 hx (by kernel_rfl) (fun k hk => by cases hk; kernel_rfl) (by kernel_rfl) (laid_met os _))) ?_
  intro W base args ds gs before hval hW _ hcond _ hL hS _
  exact addressPrefixes_contract H enc W base args ds gs before hval hW (hcond _ rfl) hL hS

theorem addressPrefixes_said : Rows.AddressPrefixesUptoSaid :=
  OpenClaim.holds_of_cond 9 Tryd.f9 rfl rfl rfl rfl rfl rfl rfl ⟨rfl, rfl, rfl, rfl, rfl⟩ rfl rfl rfl rfl rfl (by kernel_rfl) Tryd.func9 (by kernel_rfl)
    (of_decide_eq_true (by kernel_rfl)) (by unfold Func.isWrapper; first | (rw [if_pos (by decide +kernel)]; kernel_rfl) | (rw [if_neg (by decide +kernel)]; exact ⟨rfl, rfl⟩))
    (fun os started H enc _ F => by rw [OpenClaim.pre_eq_preRow]; exact addressPrefixes_lifted os started H enc F)

theorem addressPrefixes_plain (f : FuncId) (fn : Func) (hf : Tryd.pinned.checked.prog.funcNamed "multihop/multihoplaw04.AddressPrefixes" = some f) (hfn : Tryd.pinned.checked.prog.funcs[f]? = some fn) :
    false = Tryd.pinned.checked.prog.looks [] ∧ ∀ (j : Nat) t, fn.params[j]? = some t → Tryd.pinned.checked.prog.wantsStandIn t = false := by
  obtain rfl : f = 9 := Option.some.inj ((show Tryd.prog.funcNamed "multihop/multihoplaw04.AddressPrefixes" = some 9 by kernel_rfl).symm.trans hf) |>.symm
  obtain rfl : fn = Tryd.f9 := (Option.some.inj (Tryd.func9.symm.trans hfn)).symm
  refine ⟨by kernel_rfl, fun j t ht => ?_⟩
  have hall : (Tryd.f9.params.all fun u => !Tryd.prog.wantsStandIn u) = true := by kernel_rfl
  have hm := Array.all_eq_true_iff_forall_mem.1 hall t (Array.mem_of_getElem? ht)
  exact (show Tryd.prog.wantsStandIn t = false by simpa using hm)

/-- THE CARD -/
theorem addressPrefixes_card : Rows.AddressPrefixesUptoCardSaid :=
  Claim7.holds_tied_plain_at .later [] _ _ _ _ addressPrefixes_said (fun _ h => by cases h) (by kernel_rfl) (fun _ h => by cases h) addressPrefixesUpto_row_tie rfl ⟨rfl, rfl⟩ (by kernel_rfl) rfl addressPrefixes_plain (by kernel_rfl)
#print axioms addressPrefixes_card
end Go.Proofs.YtadnpidadcgdcaaDoor

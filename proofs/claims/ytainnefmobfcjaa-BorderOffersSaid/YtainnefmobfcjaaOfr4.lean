/-
  Texts joined: F4, LibS, F5, F6, FB, FC, FE, FF, FG, FH, F7.
-/
import Derived.Test.YtainnefmobfcjaaOfr3
/-! F4 -/
namespace Go.Proofs.Ytainnefmobfcjaa
set_option linter.unusedVariables false
set_option linter.unusedSimpArgs false
open Go.RowKit
attribute [local irreducible] OpTo wpListIn Code.wpIn MW Cal
set_option maxHeartbeats 4000000 in
theorem insertOf_c {v : Value} {n : Nat} {xs : List Value} {ent : List (Nat × Obj)} (i : Nat) (hi : i ≤ n) {vb : Nat} (ys : List Value) (hys : ys.length = 20) (h1x : xs.all (·.oneCell') = true) (h1y : ys.all (·.oneCell') = true) (W : World) {S : List Nat} {W0 : World} {l : List (Nat × Obj)} {f : List (Nat × Obj) → List (Nat × Obj)}
    (M : Mem S W0 W l) (hO : OwnS 58 20 v n xs ent) (hl : TailAt ent l f) (hv : Has l vb (.cells ys.toArray 58 (0, 0))) (hne : ∀ p ∈ ent, p.1 ≠ vb) (hn : n ≤ 100000) :
    Cal Try.prog 58 [v, .int .i64 i, .slice (some ⟨vb, 0, none⟩) 1 1].toArray W fun x w' => ∃ ent', OwnS 58 20 x (n + 1) (xs.take (i * 20) ++ (ys ++ xs.drop (i * 20))) ent' ∧ Mem S W0 w' (f ent') := by
  have hxl := hO.len
  have hsy : SrcOf Try.prog W (.slice (some ⟨vb, 0, none⟩) 1 1) 1 20 ys := SrcOf.cells' (M.heap hv) (sg_all (by omega)) h1y
  by_cases hin : i = n
  · subst hin
    rw [List.take_of_length_le (by omega), List.drop_of_length_le (by omega), List.append_nil]
    obtain ⟨q, cap, rfl⟩ := hO.slice
    refine fn_of (n := 95) Try.func58 rfl rfl rfl ?_
    intro a F
    with_reducible refine c_seq ?_
    with_reducible refine c_region ?_
    refine stepD rfl F rfl (o_assign (F.ev rfl) ?_); clear F; clear a; intro a F
    with_reducible refine l_nil ?_
    with_reducible refine q_then ?_
    with_reducible refine c_seq ?_
    with_reducible refine c_region ?_
    refine stepD rfl F rfl (o_move (F.ev rfl) ?_); clear F; clear a; intro a F
    refine stepD rfl F rfl (o_move (F.ev rfl) ?_); clear F; clear a; intro a F
    (refine stepD rfl F rfl (o_slLany (F.ev rfl) (F.ev rfl) (by omega) (by omega) ?_); clear F; clear a; intro _ a F)
    with_reducible refine l_nil ?_
    with_reducible refine q_then ?_
    with_reducible refine c_seq ?_
    with_reducible refine c_region ?_
    refine stepD rfl F rfl (o_move (F.ev rfl) ?_); clear F; clear a; intro a F
    refine stepD rfl F rfl (o_lenSl (F.ev rfl) ?_); clear F; clear a; intro a F
    refine stepD rfl F rfl (o_assign (F.ev rfl) ?_); clear F; clear a; intro a F
    with_reducible refine l_nil ?_
    with_reducible refine q_then ?_
    with_reducible refine c_seq ?_
    with_reducible refine c_seq ?_
    with_reducible refine c_region ?_
    refine stepD rfl F rfl (o_move (F.ev rfl) ?_); clear F; clear a; intro a F
    refine stepD rfl F rfl (o_eqlF (F.ev rfl) (F.ev rfl) (by omega) ?_); clear F; clear a; intro a F
    with_reducible refine l_nil ?_
    with_reducible refine q_then ?_
    refine c_false F rfl rfl ?_
    with_reducible refine c_skip ?_
    with_reducible refine q_then ?_
    with_reducible refine c_seq ?_
    with_reducible refine c_region ?_
    refine stepD rfl F rfl (o_move (F.ev rfl) ?_); clear F; clear a; intro a F
    refine stepD rfl F rfl (o_lenSl (F.ev rfl) ?_); clear F; clear a; intro a F
    refine stepD rfl F rfl (o_assign (F.ev rfl) ?_); clear F; clear a; intro a F
    with_reducible refine l_nil ?_
    with_reducible refine q_then ?_
    with_reducible refine c_seq ?_
    with_reducible refine c_seq ?_
    with_reducible refine c_region ?_
    refine stepD rfl F rfl (o_move (F.ev rfl) ?_); clear F; clear a; intro a F
    refine stepD rfl F rfl (o_move (F.ev rfl) ?_); clear F; clear a; intro a F
    refine stepD rfl F rfl (o_eqlT (F.ev rfl) (F.ev rfl) (by omega) ?_); clear F; clear a; intro a F
    with_reducible refine l_nil ?_
    with_reducible refine q_then ?_
    refine c_true F rfl rfl ?_
    with_reducible refine c_seq ?_
    with_reducible refine c_region ?_
    refine stepD rfl F rfl (o_move (F.ev rfl) ?_); clear F; clear a; intro a F
    refine stepD rfl F rfl (o_move (F.ev rfl) ?_); clear F; clear a; intro a F
    (refine stepD rfl F rfl (o_append hO M hl (F.ev rfl) (F.ev rfl) hsy (by omega) (by omega) ?_); clear F; clear M; intro v2 ent2 w hO2 M a F)
    refine stepD rfl F rfl (o_assign (F.ev rfl) ?_); clear F; clear a; intro a F
    with_reducible refine l_nil ?_
    with_reducible refine q_then ?_
    with_reducible refine c_ret ?_
    with_reducible refine q_thenR ?_
    refine p_ret F rfl (.cons (.tmp (F.ev rfl)) .nil) ?_
    exact ⟨ent2, hO2, M⟩
  · rcases hO with ⟨_, rfl, _, _⟩ | ⟨b, cap, junk, rfl, rfl, _, hjl, hnc⟩
    · omega
    obtain ⟨lr, rfl, hf⟩ := hl.spec
    have hvb : vb ≠ b := fun h => hne _ List.mem_cons_self h.symm
    obtain ⟨A, B, rfl, hA⟩ := cut_at xs (i * 20) (by omega)
    simp only [List.length_append] at hxl
    rw [← hA, List.take_left' rfl, List.drop_left' rfl]
    simp only [List.all_append, Bool.and_eq_true] at h1x
    have hB : B.length = (n - i) * 20 := by omega
    by_cases hroom : n + 1 ≤ cap
    · obtain ⟨J1, J2, rfl, hJ⟩ := cut_at junk 20 (by omega)
      simp only [List.length_append] at hjl
      obtain ⟨B1, B2, rfl, hB1⟩ := cut_at B 20 (by omega)
      simp only [List.length_append] at hB hxl
      have e1 : (A ++ (B1 ++ B2) ++ (J1 ++ J2)) = A ++ ((B1 ++ B2) ++ (J1 ++ J2)) := by simp
      have e2 : (A ++ (B1 ++ B2) ++ (J1 ++ J2)) = (A ++ B1) ++ ((B2 ++ J1) ++ J2) := by simp
      have p1 : put (A ++ (B1 ++ B2) ++ (J1 ++ J2)) (0 + (((i : Int) + 1).toNat * 20)) (B1 ++ B2) = some ((A ++ B1) ++ ((B1 ++ B2) ++ J2)) := by
        rw [e2]; exact put_mid (by simp; omega) (by simp; omega)
      have p2 : put ((A ++ B1) ++ ((B1 ++ B2) ++ J2)) (0 + (i : Int).toNat * 20) ys = some (A ++ (ys ++ ((B1 ++ B2) ++ J2))) := by
        rw [List.append_assoc]; exact put_mid (by omega) (by omega)
      have g1 : seg (A ++ (B1 ++ B2) ++ (J1 ++ J2)) (0 + (i : Int).toNat * 20) ((n - i) * 20) = some (B1 ++ B2) := by
        rw [e1]; exact seg_mid (by omega) (by simp; omega)
      have u1 : Upd (lr ++ [(b, Obj.cells (A ++ (B1 ++ B2) ++ (J1 ++ J2)).toArray 58 (0, 0))]) b (.cells (A ++ (B1 ++ B2) ++ (J1 ++ J2)).toArray 58 (0, 0)) (.cells ((A ++ B1) ++ ((B1 ++ B2) ++ J2)).toArray 58 (0, 0)) (lr ++ [(b, .cells ((A ++ B1) ++ ((B1 ++ B2) ++ J2)).toArray 58 (0, 0))]) := (Upd.here).append lr
      have u2 : Upd (lr ++ [(b, Obj.cells ((A ++ B1) ++ ((B1 ++ B2) ++ J2)).toArray 58 (0, 0))]) b (.cells ((A ++ B1) ++ ((B1 ++ B2) ++ J2)).toArray 58 (0, 0)) (.cells (A ++ (ys ++ ((B1 ++ B2) ++ J2))).toArray 58 (0, 0)) (lr ++ [(b, .cells (A ++ (ys ++ ((B1 ++ B2) ++ J2))).toArray 58 (0, 0))]) := (Upd.here).append lr
      have hv2 : Has (lr ++ [(b, Obj.cells ((A ++ B1) ++ ((B1 ++ B2) ++ J2)).toArray 58 (0, 0))]) vb (.cells ys.toArray 58 (0, 0)) := has_other hv hvb
      refine fn_of (n := 95) Try.func58 rfl rfl rfl ?_
      intro a F
      with_reducible refine c_seq ?_
      with_reducible refine c_region ?_
      refine stepD rfl F rfl (o_assign (F.ev rfl) ?_); clear F; clear a; intro a F
      with_reducible refine l_nil ?_
      with_reducible refine q_then ?_
      with_reducible refine c_seq ?_
      with_reducible refine c_region ?_
      refine stepD rfl F rfl (o_move (F.ev rfl) ?_); clear F; clear a; intro a F
      refine stepD rfl F rfl (o_move (F.ev rfl) ?_); clear F; clear a; intro a F
      (refine stepD rfl F rfl (o_slL (F.ev rfl) (F.ev rfl) (by omega) (by omega) (by omega) ?_); clear F; clear a; intro a F)
      with_reducible refine l_nil ?_
      with_reducible refine q_then ?_
      with_reducible refine c_seq ?_
      with_reducible refine c_region ?_
      refine stepD rfl F rfl (o_move (F.ev rfl) ?_); clear F; clear a; intro a F
      refine stepD rfl F rfl (o_lenSl (F.ev rfl) ?_); clear F; clear a; intro a F
      refine stepD rfl F rfl (o_assign (F.ev rfl) ?_); clear F; clear a; intro a F
      with_reducible refine l_nil ?_
      with_reducible refine q_then ?_
      with_reducible refine c_seq ?_
      with_reducible refine c_seq ?_
      with_reducible refine c_region ?_
      refine stepD rfl F rfl (o_move (F.ev rfl) ?_); clear F; clear a; intro a F
      refine stepD rfl F rfl (o_eqlF (F.ev rfl) (F.ev rfl) (by omega) ?_); clear F; clear a; intro a F
      with_reducible refine l_nil ?_
      with_reducible refine q_then ?_
      refine c_false F rfl rfl ?_
      with_reducible refine c_skip ?_
      with_reducible refine q_then ?_
      with_reducible refine c_seq ?_
      with_reducible refine c_region ?_
      refine stepD rfl F rfl (o_move (F.ev rfl) ?_); clear F; clear a; intro a F
      refine stepD rfl F rfl (o_lenSl (F.ev rfl) ?_); clear F; clear a; intro a F
      refine stepD rfl F rfl (o_assign (F.ev rfl) ?_); clear F; clear a; intro a F
      with_reducible refine l_nil ?_
      with_reducible refine q_then ?_
      with_reducible refine c_seq ?_
      with_reducible refine c_seq ?_
      with_reducible refine c_region ?_
      refine stepD rfl F rfl (o_move (F.ev rfl) ?_); clear F; clear a; intro a F
      refine stepD rfl F rfl (o_move (F.ev rfl) ?_); clear F; clear a; intro a F
      refine stepD rfl F rfl (o_eqlF (F.ev rfl) (F.ev rfl) (by omega) ?_); clear F; clear a; intro a F
      with_reducible refine l_nil ?_
      with_reducible refine q_then ?_
      refine c_false F rfl rfl ?_
      with_reducible refine c_skip ?_
      with_reducible refine q_then ?_
      with_reducible refine c_seq ?_
      with_reducible refine c_seq ?_
      with_reducible refine c_region ?_
      refine stepD rfl F rfl (o_move (F.ev rfl) ?_); clear F; clear a; intro a F
      refine stepD rfl F rfl (o_move (F.ev rfl) ?_); clear F; clear a; intro a F
      refine stepD rfl F rfl (o_add (F.ev rfl) (F.ev rfl) (w_i64 (by omega) (by omega)) ?_); clear F; clear a; intro a F
      refine stepD rfl F rfl (o_move (F.ev rfl) ?_); clear F; clear a; intro a F
      refine stepD rfl F rfl (o_capSl (F.ev rfl) ?_); clear F; clear a; intro a F
      refine stepD rfl F rfl (o_gtrF (F.ev rfl) (F.ev rfl) (by omega) ?_); clear F; clear a; intro a F
      with_reducible refine l_nil ?_
      with_reducible refine q_then ?_
      refine c_false F rfl rfl ?_
      with_reducible refine c_skip ?_
      with_reducible refine q_then ?_
      with_reducible refine c_seq ?_
      with_reducible refine c_region ?_
      refine stepD rfl F rfl (o_move (F.ev rfl) ?_); clear F; clear a; intro a F
      refine stepD rfl F rfl (o_move (F.ev rfl) ?_); clear F; clear a; intro a F
      refine stepD rfl F rfl (o_move (F.ev rfl) ?_); clear F; clear a; intro a F
      refine stepD rfl F rfl (o_add (F.ev rfl) (F.ev rfl) (w_i64 (by omega) (by omega)) ?_); clear F; clear a; intro a F
      (refine stepD rfl F rfl (o_slH (F.ev rfl) (F.ev rfl) (by simp) (by omega) (by omega) ?_); clear F; clear a; intro a F)
      refine stepD rfl F rfl (o_assign (F.ev rfl) ?_); clear F; clear a; intro a F
      with_reducible refine l_nil ?_
      with_reducible refine q_then ?_
      with_reducible refine c_seq ?_
      with_reducible refine c_seq ?_
      with_reducible refine c_region ?_
      refine stepD rfl F rfl (o_move (F.ev rfl) ?_); clear F; clear a; intro a F
      refine stepD rfl F rfl (o_move (F.ev rfl) ?_); clear F; clear a; intro a F
      refine stepD rfl F rfl (o_move (F.ev rfl) ?_); clear F; clear a; intro a F
      refine stepD rfl F rfl (o_move (F.ev rfl) ?_); clear F; clear a; intro a F
      refine stepD rfl F rfl (o_add (F.ev rfl) (F.ev rfl) (w_i64 (by omega) (by omega)) ?_); clear F; clear a; intro a F
      (refine stepD rfl F rfl (o_slL (F.ev rfl) (F.ev rfl) (by omega) (by omega) (by omega) ?_); clear F; clear a; intro a F)
      (refine stepD rfl F rfl (o_entry (F.ev rfl) Try.func85 (by kernel_rfl) (by kernel_rfl) (by kernel_rfl) (e := Extern.SlicesOverlaps.overlaps #[52, 52] #[4]) (by kernel_rfl) (F.evs rfl) (run_ov (TU.h (P := Try.prog) (t := 52)) (TSz.h (P := Try.prog) (t := 58)) hvb (M.heap hv) (M.heap u1.has) (by simp only [List.length_append]; omega)) ?_); clear F; clear a; intro a F)
      refine stepD rfl F rfl (o_not (F.ev rfl) ?_); clear F; clear a; intro a F
      with_reducible refine l_nil ?_
      with_reducible refine q_then ?_
      refine c_true F rfl rfl ?_
      with_reducible refine c_seq ?_
      refine c_draw 8 F (by kernel_rfl) ?_
      intro w1 hE hok
      have M1 := M.later hE
      refine mK hok rfl rfl (fun a' w' F' E' => o_move (F'.ev rfl) ⟨Ext.refl _ _, rfl⟩) ?_
      refine mK hok rfl rfl (fun a' w' F' E' => o_move (F'.ev rfl) ⟨Ext.refl _ _, rfl⟩) ?_
      refine mK hok rfl rfl (fun a' w' F' E' => o_move (F'.ev rfl) ⟨Ext.refl _ _, rfl⟩) ?_
      refine mK hok rfl rfl (fun a' w' F' E' => o_add (F'.ev rfl) (F'.ev rfl) (w_i64 (by omega) (by omega)) ⟨Ext.refl _ _, rfl⟩) ?_
      (refine mK hok rfl rfl (fun a' w' F' E' => o_slL (F'.ev rfl) (F'.ev rfl) (by omega) (by omega) (by omega) ⟨Ext.refl _ _, rfl⟩) ?_)
      refine mK hok rfl rfl (fun a' w' F' E' => o_move (F'.ev rfl) ⟨Ext.refl _ _, rfl⟩) ?_
      refine mK hok rfl rfl (fun a' w' F' E' => o_move (F'.ev rfl) ⟨Ext.refl _ _, rfl⟩) ?_
      (refine mK hok rfl rfl (fun a' w' F' E' => o_slL (F'.ev rfl) (F'.ev rfl) (by omega) (by omega) (by omega) ⟨Ext.refl _ _, rfl⟩) ?_)
      skip
      (refine mDone rfl rfl ?_; clear F; clear M; intro a w F hE2 hX hTT hDD hPP; have M := M1.later hE2; clear M1; clear hX; clear hE2; clear hok; clear hE; clear hTT; clear hDD; clear hPP; (try dsimp only at F))
      (refine stepD rfl F rfl (o_copy (n := n - i) M (F.ev rfl) (F.ev rfl) (by show _ = min _ _; omega) u1.has g1 (by simp only [List.all_append, Bool.and_eq_true] at h1x ⊢; exact h1x.2) u1.has p1 u1 ?_); clear F; clear M; intro w M a F)
      with_reducible refine l_nil ?_
      with_reducible refine q_then ?_
      with_reducible refine c_seq ?_
      with_reducible refine c_region ?_
      refine stepD rfl F rfl (o_move (F.ev rfl) ?_); clear F; clear a; intro a F
      refine stepD rfl F rfl (o_move (F.ev rfl) ?_); clear F; clear a; intro a F
      (refine stepD rfl F rfl (o_slL (F.ev rfl) (F.ev rfl) (by omega) (by omega) (by omega) ?_); clear F; clear a; intro a F)
      refine stepD rfl F rfl (o_move (F.ev rfl) ?_); clear F; clear a; intro a F
      (refine stepD rfl F rfl (o_copy (n := 1) M (F.ev rfl) (F.ev rfl) (by show _ = min _ _; omega) hv2 (sg_all (by omega)) h1y u2.has p2 u2 ?_); clear F; clear M; intro w M a F)
      with_reducible refine l_nil ?_
      with_reducible refine q_then ?_
      with_reducible refine c_seq ?_
      with_reducible refine c_region ?_
      refine stepD rfl F rfl (o_move (F.ev rfl) ?_); clear F; clear a; intro a F
      refine stepD rfl F rfl (o_assign (F.ev rfl) ?_); clear F; clear a; intro a F
      with_reducible refine l_nil ?_
      with_reducible refine q_then ?_
      with_reducible refine c_ret ?_
      with_reducible refine q_thenR ?_
      refine p_ret F rfl (.cons (.tmp (F.ev rfl)) .nil) ?_
      refine ⟨_, .inr ⟨b, cap, J2, ?_, rfl, ?_, ?_, ?_⟩, ?_⟩
      · show Value.slice _ _ _ = _
        congr 1
      · simp; omega
      · omega
      · omega
      · rw [hf]
        have e3 : A ++ (ys ++ (B1 ++ B2)) ++ J2 = A ++ (ys ++ ((B1 ++ B2) ++ J2)) := by simp
        rw [e3]; exact M
    · have hcn : n = cap := by omega
      subst hcn
      have hj0 : junk = [] := List.length_eq_zero_iff.1 (by omega)
      subst hj0
      have hbh : Has (lr ++ [(b, Obj.cells (A ++ B ++ []).toArray 58 (0, 0))]) b (.cells (A ++ B ++ []).toArray 58 (0, 0)) := Has.app .here lr
      have g0 : seg (A ++ B ++ []) 0 (i * 20) = some A := by
        rw [List.append_nil]
        have := seg_mid (A := []) (B := A) (C := B) (off := 0) (n := i * 20) rfl (by omega)
        simpa using this
      have g1 : seg (A ++ B ++ []) (0 + (i : Int).toNat * 20) ((n - i) * 20) = some B := by
        rw [List.append_assoc]; exact seg_mid (by omega) (by omega)
      have hsA : SrcOf Try.prog W (.slice (some ⟨b, 0, none⟩) i n) i 20 A := SrcOf.cells' (M.heap hbh) g0 h1x.1
      refine fn_of (n := 95) Try.func58 rfl rfl rfl ?_
      intro a F
      with_reducible refine c_seq ?_
      with_reducible refine c_region ?_
      refine stepD rfl F rfl (o_assign (F.ev rfl) ?_); clear F; clear a; intro a F
      with_reducible refine l_nil ?_
      with_reducible refine q_then ?_
      with_reducible refine c_seq ?_
      with_reducible refine c_region ?_
      refine stepD rfl F rfl (o_move (F.ev rfl) ?_); clear F; clear a; intro a F
      refine stepD rfl F rfl (o_move (F.ev rfl) ?_); clear F; clear a; intro a F
      (refine stepD rfl F rfl (o_slL (F.ev rfl) (F.ev rfl) (by omega) (by omega) (by omega) ?_); clear F; clear a; intro a F)
      with_reducible refine l_nil ?_
      with_reducible refine q_then ?_
      with_reducible refine c_seq ?_
      with_reducible refine c_region ?_
      refine stepD rfl F rfl (o_move (F.ev rfl) ?_); clear F; clear a; intro a F
      refine stepD rfl F rfl (o_lenSl (F.ev rfl) ?_); clear F; clear a; intro a F
      refine stepD rfl F rfl (o_assign (F.ev rfl) ?_); clear F; clear a; intro a F
      with_reducible refine l_nil ?_
      with_reducible refine q_then ?_
      with_reducible refine c_seq ?_
      with_reducible refine c_seq ?_
      with_reducible refine c_region ?_
      refine stepD rfl F rfl (o_move (F.ev rfl) ?_); clear F; clear a; intro a F
      refine stepD rfl F rfl (o_eqlF (F.ev rfl) (F.ev rfl) (by omega) ?_); clear F; clear a; intro a F
      with_reducible refine l_nil ?_
      with_reducible refine q_then ?_
      refine c_false F rfl rfl ?_
      with_reducible refine c_skip ?_
      with_reducible refine q_then ?_
      with_reducible refine c_seq ?_
      with_reducible refine c_region ?_
      refine stepD rfl F rfl (o_move (F.ev rfl) ?_); clear F; clear a; intro a F
      refine stepD rfl F rfl (o_lenSl (F.ev rfl) ?_); clear F; clear a; intro a F
      refine stepD rfl F rfl (o_assign (F.ev rfl) ?_); clear F; clear a; intro a F
      with_reducible refine l_nil ?_
      with_reducible refine q_then ?_
      with_reducible refine c_seq ?_
      with_reducible refine c_seq ?_
      with_reducible refine c_region ?_
      refine stepD rfl F rfl (o_move (F.ev rfl) ?_); clear F; clear a; intro a F
      refine stepD rfl F rfl (o_move (F.ev rfl) ?_); clear F; clear a; intro a F
      refine stepD rfl F rfl (o_eqlF (F.ev rfl) (F.ev rfl) (by omega) ?_); clear F; clear a; intro a F
      with_reducible refine l_nil ?_
      with_reducible refine q_then ?_
      refine c_false F rfl rfl ?_
      with_reducible refine c_skip ?_
      with_reducible refine q_then ?_
      with_reducible refine c_seq ?_
      with_reducible refine c_seq ?_
      with_reducible refine c_region ?_
      refine stepD rfl F rfl (o_move (F.ev rfl) ?_); clear F; clear a; intro a F
      refine stepD rfl F rfl (o_move (F.ev rfl) ?_); clear F; clear a; intro a F
      refine stepD rfl F rfl (o_add (F.ev rfl) (F.ev rfl) (w_i64 (by omega) (by omega)) ?_); clear F; clear a; intro a F
      refine stepD rfl F rfl (o_move (F.ev rfl) ?_); clear F; clear a; intro a F
      refine stepD rfl F rfl (o_capSl (F.ev rfl) ?_); clear F; clear a; intro a F
      refine stepD rfl F rfl (o_gtrT (F.ev rfl) (F.ev rfl) (by omega) ?_); clear F; clear a; intro a F
      with_reducible refine l_nil ?_
      with_reducible refine q_then ?_
      refine c_true F rfl rfl ?_
      with_reducible refine c_seq ?_
      with_reducible refine c_region ?_
      refine stepD rfl F rfl (o_move (F.ev rfl) ?_); clear F; clear a; intro a F
      refine stepD rfl F rfl (o_move (F.ev rfl) ?_); clear F; clear a; intro a F
      (refine stepD rfl F rfl (o_slH (F.ev rfl) (F.ev rfl) (by simp) (by omega) (by omega) ?_); clear F; clear a; intro a F)
      refine stepD rfl F rfl (o_move (F.ev rfl) ?_); clear F; clear a; intro a F
      refine stepD rfl F rfl (o_move (F.ev rfl) ?_); clear F; clear a; intro a F
      refine stepD rfl F rfl (o_add (F.ev rfl) (F.ev rfl) (w_i64 (by omega) (by omega)) ?_); clear F; clear a; intro a F
      refine stepD rfl F rfl (o_move (F.ev rfl) ?_); clear F; clear a; intro a F
      refine stepD rfl F rfl (o_sub (F.ev rfl) (F.ev rfl) (w_i64 (by omega) (by omega)) ?_); clear F; clear a; intro a F
      rw [show ((n : Int) + ((1 : Nat) : Int) - i) = ((n + 1 - i : Nat) : Int) by omega, Int.toNat_natCast] at F
      (refine stepD rfl F rfl (o_appendZ (xs := A) (k := n + 1 - i) M hsA (F.ev rfl) (F.ev rfl) (by omega) (by omega) (by omega) (by omega) (by omega) ?_); clear F; clear M; intro b2 cap2 zs w hzl hc2 M a F)
      rw [show i + (n + 1 - i) = n + 1 by omega] at F hc2
      obtain ⟨Z1, Z', rfl, hZ1⟩ := cut_at zs 20 (by omega)
      simp only [List.length_append] at hzl
      obtain ⟨Z2, Z3, rfl, hZ2⟩ := cut_at Z' ((n - i) * 20) (by omega)
      simp only [List.length_append] at hzl
      have p1 : put (A ++ (Z1 ++ (Z2 ++ Z3))) (0 + (i : Int).toNat * 20) ys = some (A ++ (ys ++ (Z2 ++ Z3))) := put_mid (by omega) (by omega)
      have p2 : put (A ++ (ys ++ (Z2 ++ Z3))) (0 + ((i : Int) + 1).toNat * 20) B = some ((A ++ ys) ++ (B ++ Z3)) := by
        rw [← List.append_assoc]; exact put_mid (by simp; omega) (by omega)
      refine stepD rfl F rfl (o_assign (F.ev rfl) ?_); clear F; clear a; intro a F
      with_reducible refine l_nil ?_
      with_reducible refine q_then ?_
      with_reducible refine c_seq ?_
      with_reducible refine c_region ?_
      refine stepD rfl F rfl (o_move (F.ev rfl) ?_); clear F; clear a; intro a F
      refine stepD rfl F rfl (o_move (F.ev rfl) ?_); clear F; clear a; intro a F
      (refine stepD rfl F rfl (o_slL (F.ev rfl) (F.ev rfl) (by omega) (by omega) (by omega) ?_); clear F; clear a; intro a F)
      refine stepD rfl F rfl (o_move (F.ev rfl) ?_); clear F; clear a; intro a F
      (refine stepD rfl F rfl (o_copy (n := 1) M (F.ev rfl) (F.ev rfl) (by show _ = min _ _; omega) (.there hv) (sg_all (by omega)) h1y .here p1 .here ?_); clear F; clear M; intro w M a F)
      with_reducible refine l_nil ?_
      with_reducible refine q_then ?_
      with_reducible refine c_seq ?_
      refine c_draw 8 F (by kernel_rfl) ?_
      intro w1 hE hok
      have M1 := M.later hE
      refine mK hok rfl rfl (fun a' w' F' E' => o_move (F'.ev rfl) ⟨Ext.refl _ _, rfl⟩) ?_
      refine mK hok rfl rfl (fun a' w' F' E' => o_move (F'.ev rfl) ⟨Ext.refl _ _, rfl⟩) ?_
      refine mK hok rfl rfl (fun a' w' F' E' => o_move (F'.ev rfl) ⟨Ext.refl _ _, rfl⟩) ?_
      refine mK hok rfl rfl (fun a' w' F' E' => o_add (F'.ev rfl) (F'.ev rfl) (w_i64 (by omega) (by omega)) ⟨Ext.refl _ _, rfl⟩) ?_
      (refine mK hok rfl rfl (fun a' w' F' E' => o_slL (F'.ev rfl) (F'.ev rfl) (by omega) (by omega) (by omega) ⟨Ext.refl _ _, rfl⟩) ?_)
      refine mK hok rfl rfl (fun a' w' F' E' => o_move (F'.ev rfl) ⟨Ext.refl _ _, rfl⟩) ?_
      refine mK hok rfl rfl (fun a' w' F' E' => o_move (F'.ev rfl) ⟨Ext.refl _ _, rfl⟩) ?_
      (refine mK hok rfl rfl (fun a' w' F' E' => o_slL (F'.ev rfl) (F'.ev rfl) (by omega) (by omega) (by omega) ⟨Ext.refl _ _, rfl⟩) ?_)
      skip
      (refine mDone rfl rfl ?_; clear F; clear M; intro a w F hE2 hX hTT hDD hPP; have M := M1.later hE2; clear M1; clear hX; clear hE2; clear hok; clear hE; clear hTT; clear hDD; clear hPP; (try dsimp only at F))
      (refine stepD rfl F rfl (o_copy (n := n - i) M (F.ev rfl) (F.ev rfl) (by show _ = min _ _; omega) (.there hbh) g1 h1x.2 .here p2 .here ?_); clear F; clear M; intro w M a F)
      with_reducible refine l_nil ?_
      with_reducible refine q_then ?_
      with_reducible refine c_seq ?_
      with_reducible refine c_region ?_
      refine stepD rfl F rfl (o_move (F.ev rfl) ?_); clear F; clear a; intro a F
      refine stepD rfl F rfl (o_assign (F.ev rfl) ?_); clear F; clear a; intro a F
      with_reducible refine l_nil ?_
      with_reducible refine q_then ?_
      with_reducible refine c_ret ?_
      with_reducible refine q_thenR ?_
      refine p_ret F rfl (.cons (.tmp (F.ev rfl)) .nil) ?_
      refine ⟨[(b2, .cells ((A ++ ys) ++ (B ++ Z3)).toArray 58 (0, 0))], .inr ⟨b2, cap2, Z3, rfl, ?_, ?_, ?_, ?_⟩, ?_⟩
      · rw [show A ++ (ys ++ B) ++ Z3 = (A ++ ys) ++ (B ++ Z3) by simp]
      · simp; omega
      · omega
      · omega
      · rw [hf]
        exact (M.sub (l' := (b2, .cells ((A ++ ys) ++ (B ++ Z3)).toArray 58 (0, 0)) :: lr) ((List.sublist_append_left lr _).cons_cons _)).perm (List.perm_append_comm (l₁ := [_]) (l₂ := lr))
/-- the offers that are current -/
def curX (xs : List OV) (now : Int) : List OV := xs.filter fun x => decide (now < x.o.h.til)
theorem curX_take {xs : List OV} {now : Int} {i : Nat} (hi : i < xs.length) : curX (xs.take (i + 1)) now = curX (xs.take i) now ++ if now < xs[i].o.h.til then [xs[i]] else [] := by
  unfold curX
  rw [List.take_add_one, List.getElem?_eq_getElem hi, List.filter_append]
  congr 1
  simp only [Option.toList_some, List.filter_cons, List.filter_nil]
  by_cases h : now < xs[i].o.h.til <;> simp [h]
theorem curX_pre (xs : List OV) (now : Int) (i : Nat) : curX (xs.take i) now <+: curX xs now := by
  unfold curX
  conv => rhs; rw [← List.take_append_drop i xs, List.filter_append]
  exact List.prefix_append _ _
def curB (v : Value) (now : Int) (b2 b3 : Nat) : List (Nat × Obj) := [(b2, .cells [v].toArray 52 (0, 0)), (b3, .cells [Value.int .i64 now].toArray 3 (0, 0))]
def curF (b2 b3 : Nat) : List Value := [.pointer (some ⟨b2, 0, none⟩), .pointer (some ⟨b3, 0, none⟩)]
theorem current_c (v : Value) (now : Int) (W : World) (hv : v.cells = [v].toArray) : Cal Try.prog 54 [v, .int .i64 now].toArray W fun r w' => ∃ b2 b3, r = .func (.func 84) #[] (curF b2 b3).toArray ∧ Mem [] W w' (curB v now b2 b3) := by
  refine fn_ofM (n := 6) [] Try.func54 rfl rfl rfl ?_
  intro a w F M hwW
  refine c_seq ?_
  refine c_region ?_
  (refine stepD rfl F rfl (o_box M (F.ev rfl) hv ?_); clear F; clear M; intro b2 w M a F)
  (refine stepD rfl F rfl (o_box M (F.ev rfl) rfl ?_); clear F; clear M; intro b3 w M a F)
  refine stepD rfl F rfl (o_assign (F.ev rfl) ?_); clear F; clear a; intro a F
  with_reducible refine l_nil ?_
  with_reducible refine q_then ?_
  with_reducible refine c_seq ?_
  with_reducible refine c_region ?_
  (refine stepD rfl F rfl (o_makeFunc (F.evs (xs := []) rfl) (F.evs (xs := [.tmp 2, .tmp 3]) rfl) ?_); clear F; clear a; intro a F)
  refine stepD rfl F rfl (o_assign (F.ev rfl) ?_); clear F; clear a; intro a F
  with_reducible refine l_nil ?_
  with_reducible refine q_then ?_
  with_reducible refine c_ret ?_
  refine p_ret F rfl (.cons (.tmp (F.ev rfl)) .nil) ?_
  exact ⟨b2, b3, rfl, M.perm (by unfold curB; exact (List.reverse_perm [_, _]).symm)⟩
set_option maxHeartbeats 2000000 in
theorem cur_iter (W0 : World) (xs : List OV) (hx : ∀ x ∈ xs, IsOff x.o) (v : Value) (hS : SlAt W0 20 v xs.length (encL ovC xs)) (hA : ∀ x ∈ xs, OffAt W0 x) (hlen : xs.length ≤ 1000) (now : Int) (b2 b3 : Nat) :
    IterAt [] W0 Try.prog 84 (curF b2 b3) (fun x : OV => [.agg (ovC x).toArray]) (fun pre x => (pre ++ [x]) <+: curX xs now) (curB v now b2 b3) (fun ys => ys = curX xs now) := by
  obtain ⟨q, cap, rfl, hcap, hsp, hl, hm⟩ := hS
  have hle : ∀ x ∈ xs, (ovC x).length = 20 := fun x h => ov_len (hx x h)
  intro L w Inv InvX l hY h0 M0
  have M : Mem [] W0 w ((b2, .cells [.slice q xs.length cap].toArray 52 (0, 0)) :: (b3, .cells [Value.int .i64 now].toArray 3 (0, 0)) :: l) := M0.perm List.perm_append_comm
  clear M0
  refine fn_of (n := 23) Try.func84 rfl rfl rfl ?_
  intro a F
  with_reducible refine c_seq ?_
  with_reducible refine c_region ?_
  refine stepD rfl F rfl (o_load1 M (F.ev rfl) (by repeat (first | exact .here | apply Has.there)) (by first | assumption | rfl) ?_); clear F; clear a; intro a F
  refine stepD rfl F rfl (o_lenSl (F.ev rfl) ?_); clear F; clear a; intro a F
  refine stepD rfl F rfl (o_move (F.ev rfl) ?_); clear F; clear a; intro a F
  with_reducible refine l_nil ?_
  with_reducible refine q_then ?_
  with_reducible refine c_block ?_
  refine c_loop (fun m a w => ∃ (i : Nat) (l : List (Nat × Obj)), m = xs.length - i ∧ i ≤ xs.length ∧ Inv (curX (xs.take i) now) l ∧ Frm a 23 [] [(8, .int .i64 i), (7, .int .i64 xs.length), (6, .slice q xs.length cap), (0, .func (.yield L) #[] #[]), (1, .pointer (some ⟨b2, 0, none⟩)), (2, .pointer (some ⟨b3, 0, none⟩))] ∧ Mem [] W0 w ((b2, .cells [.slice q xs.length cap].toArray 52 (0, 0)) :: (b3, .cells [Value.int .i64 now].toArray 3 (0, 0)) :: l)) xs.length ⟨0, l, rfl, by omega, h0, F.only [8, 7, 6, 0, 1, 2] rfl, M⟩ ?_
  clear F M h0 l
  rintro m a w ⟨i, l, hm', hi, hI, F, M⟩
  by_cases hlt : i < xs.length
  · obtain ⟨b, o, cs, t, fz, rfl, hb, hs⟩ := hm (by omega)
    have hct := curX_take (now := now) hlt
    obtain ⟨x, hx0⟩ : ∃ x, x = xs[i] := ⟨_, rfl⟩
    rw [← hx0] at hct
    have hxm : x ∈ xs := by rw [hx0]; exact List.getElem_mem hlt
    have hxo := hx x hxm
    have hxa := hA x hxm
    have f1 : seg cs (o + (i : Int).toNat * 20) 20 = some (ovC x) := by rw [hx0]; exact seg_el hle hs hlt (by omega)
    have f2 : (ovC x).length = 20 := ov_len hxo
    have f3 : seg (ovC x) 0 20 = some (ovC x) := of_all hxo.1 _ _
    have f4 : nth (ovC x) 17 = some (.int .i64 x.o.h.til) := of_til hxo.1 _ _
    with_reducible refine c_seq ?_
    with_reducible refine c_region ?_
    refine stepD rfl F rfl (o_lssT (F.ev rfl) (F.ev rfl) (by omega) ?_); clear F; clear a; intro a F
    with_reducible refine l_nil ?_
    with_reducible refine q_then ?_
    with_reducible refine c_seq ?_
    refine c_true F rfl rfl ?_
    with_reducible refine c_skip ?_
    with_reducible refine q_then ?_
    with_reducible refine c_seq ?_
    with_reducible refine c_block ?_
    with_reducible refine c_seq ?_
    with_reducible refine c_region ?_
    refine stepD rfl F rfl (o_indexSl (F.ev rfl) (F.ev rfl) (by omega) (by omega) ?_); clear F; clear a; intro a F
    refine stepD rfl F rfl (o_loadWA M (F.ev rfl) (by assumption) (by first | assumption | rfl) ?_); clear F; clear a; intro a F
    (refine stepD rfl F rfl (o_alloc M ?_); clear F; clear M; intro b5 w M a F)
    (refine stepN rfl F (o_storeA M (F.ev rfl) (F.ev rfl) (f2) (ov_one hxa)  (by repeat (first | exact .here | apply Has.there))  (put_all (by rw [f2]; rfl)) (by repeat (first | exact .here | apply Upd.there)) ?_); clear F; clear M; intro w M a F)
    by_cases c1 : now < x.o.h.til
    · rw [if_pos c1] at hct
      with_reducible refine l_nil ?_
      with_reducible refine q_then ?_
      with_reducible refine c_seq ?_
      with_reducible refine c_region ?_
      refine stepD rfl F rfl (o_fieldAddr (F.ev rfl) ?_); clear F; clear a; intro a F
      refine stepD rfl F rfl (o_load1 M (F.ev rfl) (by repeat (first | exact .here | apply Has.there)) (by first | assumption | rfl) ?_); clear F; clear a; intro a F
      refine stepD rfl F rfl (o_load1 M (F.ev rfl) (by repeat (first | exact .here | apply Has.there)) (by first | assumption | rfl) ?_); clear F; clear a; intro a F
      refine stepD rfl F rfl (o_gtrT (F.ev rfl) (F.ev rfl) (by omega) ?_); clear F; clear a; intro a F
      refine stepD rfl F rfl (o_move (F.ev rfl) ?_); clear F; clear a; intro a F
      refine stepG rfl F rfl rfl rfl (o_move (F.ev rfl) ?_); clear F; clear a; intro a F
      refine stepG rfl F rfl rfl rfl (o_loadA M (F.ev rfl) (by repeat (first | exact .here | apply Has.there)) (by first | assumption | rfl) ?_); clear F; clear a; intro a F
      have M' := M.perm (l' := l ++ [(b5, .cells (ovC x).toArray 58 (0, 0)), (b2, .cells [.slice (some ⟨b, o, none⟩) xs.length cap].toArray 52 (0, 0)), (b3, .cells [Value.int .i64 now].toArray 3 (0, 0))]) (List.perm_append_comm (l₁ := [_, _, _]))
      have hOk : (curX (xs.take i) now ++ [x]) <+: curX xs now := by rw [← hct]; exact curX_pre _ _ _
      (refine stepG rfl F rfl rfl rfl (o_yield (F.ev rfl) (F.evs rfl) ((hY _ x l w _ hOk hI M').mono ?_)); clear F; clear a)
      rintro v w2 ⟨l2, M2, hor⟩ a F
      rcases hor with ⟨rfl, h1⟩ | ⟨rfl, h1⟩
      · replace M := M2.perm (List.perm_append_comm (l₂ := [_, _, _]))
        clear M2 M'
        refine stepG rfl F rfl rfl rfl (o_not (F.ev rfl) ?_); clear F; clear a; intro a F
        refine stepD rfl F rfl (o_pickT (F.ev rfl) (F.ev rfl) ?_); clear F; clear a; intro a F
        with_reducible refine l_nil ?_
        with_reducible refine q_then ?_
        refine c_false F rfl rfl ?_
        with_reducible refine c_skip ?_
        with_reducible refine q_inB ?_
        with_reducible refine q_then ?_
        with_reducible refine c_region ?_
        refine stepD rfl F rfl (o_add (F.ev rfl) (F.ev rfl) (w_i64 (by omega) (by omega)) ?_); clear F; clear a; intro a F
        refine stepD rfl F rfl (o_move (F.ev rfl) ?_); clear F; clear a; intro a F
        with_reducible refine l_nil ?_
        with_reducible refine q_then ?_
        exact ⟨_, by omega, i + 1, l2, rfl, by omega, by rw [hct]; exact h1, F.only [8, 7, 6, 0, 1, 2] rfl, M.sub (.cons _ (.refl _))⟩
      · refine stepG rfl F rfl rfl rfl (o_not (F.ev rfl) ?_); clear F; clear a; intro a F
        refine stepD rfl F rfl (o_pickT (F.ev rfl) (F.ev rfl) ?_); clear F; clear a; intro a F
        with_reducible refine l_nil ?_
        with_reducible refine q_then ?_
        refine c_true F rfl rfl ?_
        with_reducible refine c_ret ?_
        with_reducible refine q_inBR ?_
        with_reducible refine q_thenR ?_
        with_reducible refine q_thenR ?_
        with_reducible refine q_inBR ?_
        refine p_ret F rfl .nil ?_
        exact ⟨l2, _, M2, .inr ⟨_, h1⟩⟩
    · rw [if_neg c1, List.append_nil] at hct
      with_reducible refine l_nil ?_
      with_reducible refine q_then ?_
      with_reducible refine c_seq ?_
      with_reducible refine c_region ?_
      refine stepD rfl F rfl (o_fieldAddr (F.ev rfl) ?_); clear F; clear a; intro a F
      refine stepD rfl F rfl (o_load1 M (F.ev rfl) (by repeat (first | exact .here | apply Has.there)) (by first | assumption | rfl) ?_); clear F; clear a; intro a F
      refine stepD rfl F rfl (o_load1 M (F.ev rfl) (by repeat (first | exact .here | apply Has.there)) (by first | assumption | rfl) ?_); clear F; clear a; intro a F
      refine stepD rfl F rfl (o_gtrF (F.ev rfl) (F.ev rfl) (by omega) ?_); clear F; clear a; intro a F
      refine stepD rfl F rfl (o_move (F.ev rfl) ?_); clear F; clear a; intro a F
      refine stepOff F rfl rfl rfl rfl ?_; clear F; clear a; intro a F
      refine stepOff F rfl rfl rfl rfl ?_; clear F; clear a; intro a F
      refine stepOff F rfl rfl rfl rfl ?_; clear F; clear a; intro a F
      refine stepOff F rfl rfl rfl rfl ?_; clear F; clear a; intro a F
      refine stepD rfl F rfl (o_pickF (F.ev rfl) (F.ev rfl) ?_); clear F; clear a; intro a F
      with_reducible refine l_nil ?_
      with_reducible refine q_then ?_
      refine c_false F rfl rfl ?_
      with_reducible refine c_skip ?_
      with_reducible refine q_inB ?_
      with_reducible refine q_then ?_
      with_reducible refine c_region ?_
      refine stepD rfl F rfl (o_add (F.ev rfl) (F.ev rfl) (w_i64 (by omega) (by omega)) ?_); clear F; clear a; intro a F
      refine stepD rfl F rfl (o_move (F.ev rfl) ?_); clear F; clear a; intro a F
      with_reducible refine l_nil ?_
      with_reducible refine q_then ?_
      exact ⟨_, by omega, i + 1, l, rfl, by omega, by rw [hct]; exact hI, F.only [8, 7, 6, 0, 1, 2] rfl, M.sub (.cons _ (.refl _))⟩
  · obtain rfl : i = xs.length := by omega
    rw [List.take_length] at hI
    with_reducible refine c_seq ?_
    with_reducible refine c_region ?_
    refine stepD rfl F rfl (o_lssF (F.ev rfl) (F.ev rfl) (by omega) ?_); clear F; clear a; intro a F
    with_reducible refine l_nil ?_
    with_reducible refine q_then ?_
    with_reducible refine c_seq ?_
    refine c_false F rfl rfl ?_
    with_reducible refine c_exit ?_
    with_reducible refine q_thenX ?_
    with_reducible refine q_thenX ?_
    with_reducible refine q_inBX ?_
    exact p_end F rfl .nil ⟨l, _, M.perm (List.perm_append_comm (l₁ := [_, _])), .inl ⟨_, rfl, hI⟩⟩
theorem acc1_c (x : OV) (hx : IsOff x.o) (p : List Int) (hp : IsIP p) (W : World) :
    Cal Try.prog 57 [.agg (ovC x).toArray, .agg (ipC p).toArray].toArray W fun r w' => r = .int .i64 (cmpL x.o.h.rt p) ∧ Ext [] W w' := by
  have e1 : seg (ovC x) 0 16 = some (ipC x.o.h.rt) := of_rt hx.1 _ _
  have e2 : seg (ipC p) 0 16 = some (ipC p) := seg_all (ipC_len hp.len)
  have e3 := ipC_len hp.len
  refine fn_ofM (n := 9) [] Try.func57 rfl rfl rfl ?_
  intro a w F M hwW
  refine c_seq ?_
  refine c_region ?_
  (refine stepD rfl F rfl (o_box M (F.ev rfl) rfl ?_); clear F; clear M; intro b2 w M a F)
  (refine stepD rfl F rfl (o_box M (F.ev rfl) rfl ?_); clear F; clear M; intro b3 w M a F)
  refine stepD rfl F rfl (o_assign (F.ev rfl) ?_); clear F; clear a; intro a F
  with_reducible refine l_nil ?_
  with_reducible refine q_then ?_
  with_reducible refine c_seq ?_
  with_reducible refine c_region ?_
  refine stepD rfl F rfl (o_fieldAddr (F.ev rfl) ?_); clear F; clear a; intro a F
  refine stepD rfl F rfl (o_loadA M (F.ev rfl) (by repeat (first | exact .here | apply Has.there)) (by first | assumption | rfl) ?_); clear F; clear a; intro a F
  refine stepD rfl F rfl (o_loadA M (F.ev rfl) (by repeat (first | exact .here | apply Has.there)) (by first | assumption | rfl) ?_); clear F; clear a; intro a F
  (refine stepD rfl F rfl (o_call (F.ev rfl) (F.evs rfl) (Cal.mono (compareIP_c x.o.h.rt p hx.1 hp _) ?_)); clear F; clear a; rintro _ w ⟨rfl, hE⟩ a F; replace M := M.later hE; clear hE)
  refine stepD rfl F rfl (o_assign (F.ev rfl) ?_); clear F; clear a; intro a F
  with_reducible refine l_nil ?_
  with_reducible refine q_then ?_
  with_reducible refine c_ret ?_
  refine p_ret F rfl (.cons (.tmp (F.ev rfl)) .nil) ?_
  exact ⟨rfl, M.ext⟩
/-- where an address comes in -/
structure PlaceAt (ys : List OV) (rt : List Int) (i : Nat) : Prop where
  le : i ≤ ys.length
  lo : ∀ j (hj : j < i) (hl : j < ys.length), cmpL ys[j].o.h.rt rt < 0
  hi : ∀ j (hj : i ≤ j) (hl : j < ys.length), 0 ≤ cmpL ys[j].o.h.rt rt
def foundAt (ys : List OV) (rt : List Int) (i : Nat) : Bool := match ys[i]? with | some y => decide (cmpL y.o.h.rt rt = 0) | none => false
theorem foundAt_at {ys : List OV} {rt : List Int} {i : Nat} (h : i < ys.length) : foundAt ys rt i = decide (cmpL ys[i].o.h.rt rt = 0) := by simp [foundAt, List.getElem?_eq_getElem h]
set_option maxHeartbeats 2000000 in
theorem bsearch_c (ys : List OV) (hy : ∀ x ∈ ys, IsOff x.o) (rt : List Int) (hrt : IsIP rt) (hlen : ys.length ≤ 1000) (hmono : ∀ j k (hj : j < k) (hk : k < ys.length), cmpL ys[j].o.h.rt ys[k].o.h.rt < 0) (v : Value) (W : World) (hS : SlAt W 20 v ys.length (encL ovC ys)) :
    Cal Try.prog 56 [v, .agg (ipC rt).toArray, .func (.func 57) #[] #[]].toArray W fun r w' => ∃ i, r = .tuple #[.int .i64 (i : Nat), .bool (foundAt ys rt i)] ∧ PlaceAt ys rt i ∧ Ext [] W w' := by
  obtain ⟨q, cap, rfl, hcap, hsp, hl, hm⟩ := hS
  have hle : ∀ x ∈ ys, (ovC x).length = 20 := fun x h => ov_len (hy x h)
  have e2 : seg (ipC rt) 0 16 = some (ipC rt) := seg_all (ipC_len hrt.len)
  refine fn_ofM (n := 49) [] Try.func56 rfl rfl rfl ?_
  intro a w F M hwW
  refine c_seq ?_
  refine c_region ?_
  (refine stepD rfl F rfl (o_box M (F.ev rfl) rfl ?_); clear F; clear M; intro b4 w M a F)
  refine stepD rfl F rfl (o_assign (F.ev rfl) ?_); clear F; clear a; intro a F
  refine stepD rfl F rfl (o_assign (F.ev rfl) ?_); clear F; clear a; intro a F
  with_reducible refine l_nil ?_
  with_reducible refine q_then ?_
  with_reducible refine c_seq ?_
  with_reducible refine c_region ?_
  refine stepD rfl F rfl (o_move (F.ev rfl) ?_); clear F; clear a; intro a F
  refine stepD rfl F rfl (o_lenSl (F.ev rfl) ?_); clear F; clear a; intro a F
  refine stepD rfl F rfl (o_assign (F.ev rfl) ?_); clear F; clear a; intro a F
  with_reducible refine l_nil ?_
  with_reducible refine q_then ?_
  with_reducible refine c_seq ?_
  with_reducible refine c_region ?_
  refine stepD rfl F rfl (o_move (F.ev rfl) ?_); clear F; clear a; intro a F
  refine stepD rfl F rfl (o_assign (F.ev rfl) ?_); clear F; clear a; intro a F
  refine stepD rfl F rfl (o_assign (F.ev rfl) ?_); clear F; clear a; intro a F
  with_reducible refine l_nil ?_
  with_reducible refine q_then ?_
  with_reducible refine c_seq ?_
  with_reducible refine c_block ?_
  refine c_loop (fun m a w => ∃ i j : Nat, m = j - i ∧ i ≤ j ∧ j ≤ ys.length ∧ (∀ k (hk : k < i) (hl : k < ys.length), cmpL ys[k].o.h.rt rt < 0) ∧ (∀ k (hk : j ≤ k) (hl : k < ys.length), 0 ≤ cmpL ys[k].o.h.rt rt) ∧ Frm a 49 [] [(9, .int .i64 i), (10, .int .i64 j), (8, .int .i64 ys.length), (0, .slice q ys.length cap), (2, .func (.func 57) #[] #[]), (4, .pointer (some ⟨b4, 0, none⟩))] ∧ Mem [] W w [(b4, .cells (ipC rt).toArray 26 (0, 0))]) ys.length ⟨0, ys.length, rfl, by omega, by omega, by omega, by omega, F.only [9, 10, 8, 0, 2, 4] rfl, M⟩ ?_
  clear F M
  rintro m a w ⟨i, j, hm', hij, hj, hlo, hhi, F, M⟩
  by_cases hlt : i < j
  · obtain ⟨b, o, cs, t, fz, rfl, hb, hs⟩ := hm (by omega)
    have hmid : IntKind.i64.wrap (Int.fdiv ((i : Int) + j) (2 ^ min (Int.toNat 1) IntKind.u64.bits)) = (((i + j) / 2 : Nat) : Int) := by
      rw [show min (Int.toNat 1) IntKind.u64.bits = 1 from rfl, Int.fdiv_eq_ediv_of_nonneg _ (by omega), show (2 : Int) ^ 1 = 2 from rfl]
      have : ((i : Int) + j) / 2 = (((i + j) / 2 : Nat) : Int) := by omega
      rw [this]
      exact w_i64 (by omega) (by omega)
    with_reducible refine c_seq ?_
    with_reducible refine c_seq ?_
    with_reducible refine c_region ?_
    refine stepD rfl F rfl (o_move (F.ev rfl) ?_); clear F; clear a; intro a F
    refine stepD rfl F rfl (o_move (F.ev rfl) ?_); clear F; clear a; intro a F
    refine stepD rfl F rfl (o_lssT (F.ev rfl) (F.ev rfl) (by omega) ?_); clear F; clear a; intro a F
    with_reducible refine l_nil ?_
    with_reducible refine q_then ?_
    refine c_true F rfl rfl ?_
    with_reducible refine c_skip ?_
    with_reducible refine q_then ?_
    with_reducible refine c_block ?_
    with_reducible refine c_seq ?_
    with_reducible refine c_region ?_
    refine stepD rfl F rfl (o_move (F.ev rfl) ?_); clear F; clear a; intro a F
    refine stepD rfl F rfl (o_move (F.ev rfl) ?_); clear F; clear a; intro a F
    refine stepD rfl F rfl (o_add (F.ev rfl) (F.ev rfl) (w_i64 (by omega) (by omega)) ?_); clear F; clear a; intro a F
    refine stepD rfl F rfl (o_conv (F.ev rfl) (w_u64 (by omega) (by omega)) ?_); clear F; clear a; intro a F
    refine stepD rfl F rfl (o_shr (F.ev rfl) (F.ev rfl) (by omega) rfl ?_); clear F; clear a; intro a F
    refine stepD rfl F rfl (o_conv (F.ev rfl) rfl ?_); clear F; clear a; intro a F
    refine stepD rfl F rfl (o_assign (F.ev rfl) ?_); clear F; clear a; intro a F
    with_reducible refine l_nil ?_
    with_reducible refine q_then ?_
    with_reducible refine c_seq ?_
    rw [hmid] at F
    obtain ⟨h, hh⟩ : ∃ h, h = (i + j) / 2 := ⟨_, rfl⟩
    rw [← hh] at F
    have hhl : h < ys.length := by omega
    obtain ⟨x, hx0⟩ : ∃ x, x = ys[h] := ⟨_, rfl⟩
    have hxo := hy x (by rw [hx0]; exact List.getElem_mem hhl)
    have f1 : seg cs (o + (h : Int).toNat * 20) 20 = some (ovC x) := by rw [hx0]; exact seg_el hle hs hhl (by omega)
    skip
    replace F := F.only [9, 10, 8, 0, 2, 4, 11] rfl
    refine c_draw 7 F (by kernel_rfl) ?_
    intro w1 hE hok
    have M1 := M.later hE
    refine mK hok rfl rfl (fun a' w' F' E' => o_move (F'.ev rfl) ⟨Ext.refl _ _, rfl⟩) ?_
    refine mK hok rfl rfl (fun a' w' F' E' => o_move (F'.ev rfl) ⟨Ext.refl _ _, rfl⟩) ?_
    refine mK hok rfl rfl (fun a' w' F' E' => o_move (F'.ev rfl) ⟨Ext.refl _ _, rfl⟩) ?_
    refine mK hok rfl rfl (fun a' w' F' E' => o_indexSl (F'.ev rfl) (F'.ev rfl) (by omega) (by omega) ⟨Ext.refl _ _, rfl⟩) ?_
    refine mK hok rfl rfl (fun a' w' F' E' => o_loadWA (M1.later E') (F'.ev rfl) (by assumption) (by first | assumption | rfl) ⟨Ext.refl _ _, rfl⟩) ?_
    refine mK hok rfl rfl (fun a' w' F' E' => o_loadA (M1.later E') (F'.ev rfl) (by repeat (first | exact .here | apply Has.there)) (by first | assumption | rfl) ⟨Ext.refl _ _, rfl⟩) ?_
    (refine mK hok rfl rfl (fun a' w' F' E' => o_call (F'.ev rfl) (F'.evs rfl) (Cal.mono (acc1_c x hxo rt hrt _) fun _ _ hh => ⟨hh.2, hh.1⟩)) ?_)
    (refine mDone rfl rfl ?_; clear F; clear M; intro a w F hE2 hX hTT hDD hPP; have M := M1.later hE2; clear M1; clear hX; clear hE2; clear hok; clear hE; clear hTT; clear hDD; clear hPP; (try dsimp only at F))
    by_cases c1 : cmpL x.o.h.rt rt < 0
    · refine stepD rfl F rfl (o_lssT (F.ev rfl) (F.ev rfl) (by omega) ?_); clear F; clear a; intro a F
      with_reducible refine l_nil ?_
      with_reducible refine q_then ?_
      refine c_true F rfl rfl ?_
      with_reducible refine c_region ?_
      refine stepD rfl F rfl (o_move (F.ev rfl) ?_); clear F; clear a; intro a F
      refine stepD rfl F rfl (o_add (F.ev rfl) (F.ev rfl) (w_i64 (by omega) (by omega)) ?_); clear F; clear a; intro a F
      refine stepD rfl F rfl (o_assign (F.ev rfl) ?_); clear F; clear a; intro a F
      with_reducible refine l_nil ?_
      with_reducible refine q_inB ?_
      with_reducible refine q_then ?_
      exact ⟨_, by omega, h + 1, j, rfl, by omega, by omega, fun k hk hkl => by
        rcases Nat.lt_or_ge k h with h1 | h1
        · exact cmpL_lt_trans (hmono k h h1 hhl) (by rw [← hx0]; exact c1)
        · obtain rfl : k = h := by omega
          rw [← hx0]; exact c1, hhi, F.only [9, 10, 8, 0, 2, 4] rfl, M⟩
    · refine stepD rfl F rfl (o_lssF (F.ev rfl) (F.ev rfl) (by omega) ?_); clear F; clear a; intro a F
      with_reducible refine l_nil ?_
      with_reducible refine q_then ?_
      refine c_false F rfl rfl ?_
      with_reducible refine c_region ?_
      refine stepD rfl F rfl (o_move (F.ev rfl) ?_); clear F; clear a; intro a F
      refine stepD rfl F rfl (o_assign (F.ev rfl) ?_); clear F; clear a; intro a F
      with_reducible refine l_nil ?_
      with_reducible refine q_inB ?_
      with_reducible refine q_then ?_
      exact ⟨_, by omega, i, h, rfl, by omega, by omega, hlo, fun k hk hkl => by
        rcases Nat.lt_or_ge h k with h1 | h1
        · have h2 := hmono h k h1 hkl
          rw [← hx0] at h2
          rcases Int.lt_or_le (cmpL ys[k].o.h.rt rt) 0 with h3 | h3
          · exact absurd (cmpL_lt_trans h2 h3) c1
          · exact h3
        · obtain rfl : k = h := by omega
          rw [← hx0]; omega, F.only [9, 10, 8, 0, 2, 4] rfl, M⟩
  · obtain rfl : i = j := by omega
    have hP : PlaceAt ys rt i := ⟨hj, hlo, hhi⟩
    with_reducible refine c_seq ?_
    with_reducible refine c_seq ?_
    with_reducible refine c_region ?_
    refine stepD rfl F rfl (o_move (F.ev rfl) ?_); clear F; clear a; intro a F
    refine stepD rfl F rfl (o_move (F.ev rfl) ?_); clear F; clear a; intro a F
    refine stepD rfl F rfl (o_lssF (F.ev rfl) (F.ev rfl) (by omega) ?_); clear F; clear a; intro a F
    with_reducible refine l_nil ?_
    with_reducible refine q_then ?_
    refine c_false F rfl rfl ?_
    with_reducible refine c_exit ?_
    with_reducible refine q_thenX ?_
    with_reducible refine q_thenX ?_
    with_reducible refine q_inBX ?_
    with_reducible refine q_then ?_
    with_reducible refine c_seq ?_
    replace F := F.only [9, 8, 0, 2, 4] rfl
    by_cases hil : i < ys.length
    · obtain ⟨b, o, cs, t, fz, rfl, hb, hs⟩ := hm (by omega)
      obtain ⟨x, hx0⟩ : ∃ x, x = ys[i] := ⟨_, rfl⟩
      have hxo := hy x (by rw [hx0]; exact List.getElem_mem hil)
      have f1 : seg cs (o + (i : Int).toNat * 20) 20 = some (ovC x) := by rw [hx0]; exact seg_el hle hs hil (by omega)
      have hf := foundAt_at (rt := rt) hil
      rw [← hx0] at hf
      by_cases c1 : cmpL x.o.h.rt rt = 0
      · rw [decide_eq_true c1] at hf
        refine c_draw 15 F (by kernel_rfl) ?_
        intro w1 hE hok
        have M1 := M.later hE
        refine mK hok rfl rfl (fun a' w' F' E' => o_move (F'.ev rfl) ⟨Ext.refl _ _, rfl⟩) ?_
        refine mK hok rfl rfl (fun a' w' F' E' => o_move (F'.ev rfl) ⟨Ext.refl _ _, rfl⟩) ?_
        refine mK hok rfl rfl (fun a' w' F' E' => o_move (F'.ev rfl) ⟨Ext.refl _ _, rfl⟩) ?_
        refine mK hok rfl rfl (fun a' w' F' E' => o_lssT (F'.ev rfl) (F'.ev rfl) (by omega) ⟨Ext.refl _ _, rfl⟩) ?_
        refine mK hok rfl rfl (fun a' w' F' E' => o_move (F'.ev rfl) ⟨Ext.refl _ _, rfl⟩) ?_
        refine mKG hok rfl rfl rfl rfl (fun a' w' F' E' => o_move (F'.ev rfl) ⟨Ext.refl _ _, rfl⟩) ?_
        refine mKG hok rfl rfl rfl rfl (fun a' w' F' E' => o_move (F'.ev rfl) ⟨Ext.refl _ _, rfl⟩) ?_
        refine mKG hok rfl rfl rfl rfl (fun a' w' F' E' => o_move (F'.ev rfl) ⟨Ext.refl _ _, rfl⟩) ?_
        refine mKG hok rfl rfl rfl rfl (fun a' w' F' E' => o_indexSl (F'.ev rfl) (F'.ev rfl) (by omega) (by omega) ⟨Ext.refl _ _, rfl⟩) ?_
        refine mKG hok rfl rfl rfl rfl (fun a' w' F' E' => o_loadWA (M1.later E') (F'.ev rfl) (by assumption) (by first | assumption | rfl) ⟨Ext.refl _ _, rfl⟩) ?_
        refine mKG hok rfl rfl rfl rfl (fun a' w' F' E' => o_loadA (M1.later E') (F'.ev rfl) (by repeat (first | exact .here | apply Has.there)) (by first | assumption | rfl) ⟨Ext.refl _ _, rfl⟩) ?_
        (refine mKG hok rfl rfl rfl rfl (fun a' w' F' E' => o_call (F'.ev rfl) (F'.evs rfl) (Cal.mono (acc1_c x hxo rt hrt _) fun _ _ hh => ⟨hh.2, hh.1⟩)) ?_)
        refine mKG hok rfl rfl rfl rfl (fun a' w' F' E' => o_eqlT (F'.ev rfl) (F'.ev rfl) (by omega) ⟨Ext.refl _ _, rfl⟩) ?_
        refine mK hok rfl rfl (fun a' w' F' E' => o_pickT (F'.ev rfl) (F'.ev rfl) ⟨Ext.refl _ _, rfl⟩) ?_
        refine mK hok rfl rfl (fun a' w' F' E' => o_assign (F'.ev rfl) ⟨Ext.refl _ _, rfl⟩) ?_
        (refine mDone rfl rfl ?_; clear F; clear M; intro a w F hE2 hX hTT hDD hPP; have M := M1.later hE2; clear M1; clear hX; clear hE2; clear hok; clear hE; clear hTT; clear hDD; clear hPP; (try dsimp only at F))
        refine stepD rfl F rfl (o_assign (F.ev rfl) ?_); clear F; clear a; intro a F
        with_reducible refine l_nil ?_
        with_reducible refine q_then ?_
        with_reducible refine c_ret ?_
        refine p_ret F rfl (.cons (.tmp (F.ev rfl)) (.cons (.tmp (F.ev rfl)) .nil)) ?_
        exact ⟨i, by rw [hf]; rfl, hP, M.ext⟩
      · rw [decide_eq_false c1] at hf
        refine c_draw 15 F (by kernel_rfl) ?_
        intro w1 hE hok
        have M1 := M.later hE
        refine mK hok rfl rfl (fun a' w' F' E' => o_move (F'.ev rfl) ⟨Ext.refl _ _, rfl⟩) ?_
        refine mK hok rfl rfl (fun a' w' F' E' => o_move (F'.ev rfl) ⟨Ext.refl _ _, rfl⟩) ?_
        refine mK hok rfl rfl (fun a' w' F' E' => o_move (F'.ev rfl) ⟨Ext.refl _ _, rfl⟩) ?_
        refine mK hok rfl rfl (fun a' w' F' E' => o_lssT (F'.ev rfl) (F'.ev rfl) (by omega) ⟨Ext.refl _ _, rfl⟩) ?_
        refine mK hok rfl rfl (fun a' w' F' E' => o_move (F'.ev rfl) ⟨Ext.refl _ _, rfl⟩) ?_
        refine mKG hok rfl rfl rfl rfl (fun a' w' F' E' => o_move (F'.ev rfl) ⟨Ext.refl _ _, rfl⟩) ?_
        refine mKG hok rfl rfl rfl rfl (fun a' w' F' E' => o_move (F'.ev rfl) ⟨Ext.refl _ _, rfl⟩) ?_
        refine mKG hok rfl rfl rfl rfl (fun a' w' F' E' => o_move (F'.ev rfl) ⟨Ext.refl _ _, rfl⟩) ?_
        refine mKG hok rfl rfl rfl rfl (fun a' w' F' E' => o_indexSl (F'.ev rfl) (F'.ev rfl) (by omega) (by omega) ⟨Ext.refl _ _, rfl⟩) ?_
        refine mKG hok rfl rfl rfl rfl (fun a' w' F' E' => o_loadWA (M1.later E') (F'.ev rfl) (by assumption) (by first | assumption | rfl) ⟨Ext.refl _ _, rfl⟩) ?_
        refine mKG hok rfl rfl rfl rfl (fun a' w' F' E' => o_loadA (M1.later E') (F'.ev rfl) (by repeat (first | exact .here | apply Has.there)) (by first | assumption | rfl) ⟨Ext.refl _ _, rfl⟩) ?_
        (refine mKG hok rfl rfl rfl rfl (fun a' w' F' E' => o_call (F'.ev rfl) (F'.evs rfl) (Cal.mono (acc1_c x hxo rt hrt _) fun _ _ hh => ⟨hh.2, hh.1⟩)) ?_)
        refine mKG hok rfl rfl rfl rfl (fun a' w' F' E' => o_eqlF (F'.ev rfl) (F'.ev rfl) (by omega) ⟨Ext.refl _ _, rfl⟩) ?_
        refine mK hok rfl rfl (fun a' w' F' E' => o_pickT (F'.ev rfl) (F'.ev rfl) ⟨Ext.refl _ _, rfl⟩) ?_
        refine mK hok rfl rfl (fun a' w' F' E' => o_assign (F'.ev rfl) ⟨Ext.refl _ _, rfl⟩) ?_
        (refine mDone rfl rfl ?_; clear F; clear M; intro a w F hE2 hX hTT hDD hPP; have M := M1.later hE2; clear M1; clear hX; clear hE2; clear hok; clear hE; clear hTT; clear hDD; clear hPP; (try dsimp only at F))
        refine stepD rfl F rfl (o_assign (F.ev rfl) ?_); clear F; clear a; intro a F
        with_reducible refine l_nil ?_
        with_reducible refine q_then ?_
        with_reducible refine c_ret ?_
        refine p_ret F rfl (.cons (.tmp (F.ev rfl)) (.cons (.tmp (F.ev rfl)) .nil)) ?_
        exact ⟨i, by rw [hf]; rfl, hP, M.ext⟩
    · have hf : foundAt ys rt i = false := by simp [foundAt, List.getElem?_eq_none (show ys.length ≤ i by omega)]
      refine c_draw 15 F (by kernel_rfl) ?_
      intro w1 hE hok
      have M1 := M.later hE
      refine mK hok rfl rfl (fun a' w' F' E' => o_move (F'.ev rfl) ⟨Ext.refl _ _, rfl⟩) ?_
      refine mK hok rfl rfl (fun a' w' F' E' => o_move (F'.ev rfl) ⟨Ext.refl _ _, rfl⟩) ?_
      refine mK hok rfl rfl (fun a' w' F' E' => o_move (F'.ev rfl) ⟨Ext.refl _ _, rfl⟩) ?_
      refine mK hok rfl rfl (fun a' w' F' E' => o_lssF (F'.ev rfl) (F'.ev rfl) (by omega) ⟨Ext.refl _ _, rfl⟩) ?_
      refine mK hok rfl rfl (fun a' w' F' E' => o_move (F'.ev rfl) ⟨Ext.refl _ _, rfl⟩) ?_
      refine mOff hok rfl rfl rfl rfl rfl ?_
      refine mOff hok rfl rfl rfl rfl rfl ?_
      refine mOff hok rfl rfl rfl rfl rfl ?_
      refine mOff hok rfl rfl rfl rfl rfl ?_
      refine mOff hok rfl rfl rfl rfl rfl ?_
      refine mOff hok rfl rfl rfl rfl rfl ?_
      refine mOff hok rfl rfl rfl rfl rfl ?_
      refine mOff hok rfl rfl rfl rfl rfl ?_
      refine mK hok rfl rfl (fun a' w' F' E' => o_pickF (F'.ev rfl) (F'.ev rfl) ⟨Ext.refl _ _, rfl⟩) ?_
      refine mK hok rfl rfl (fun a' w' F' E' => o_assign (F'.ev rfl) ⟨Ext.refl _ _, rfl⟩) ?_
      (refine mDone rfl rfl ?_; clear F; clear M; intro a w F hE2 hX hTT hDD hPP; have M := M1.later hE2; clear M1; clear hX; clear hE2; clear hok; clear hE; clear hTT; clear hDD; clear hPP; (try dsimp only at F))
      refine stepD rfl F rfl (o_assign (F.ev rfl) ?_); clear F; clear a; intro a F
      with_reducible refine l_nil ?_
      with_reducible refine q_then ?_
      with_reducible refine c_ret ?_
      refine p_ret F rfl (.cons (.tmp (F.ev rfl)) (.cons (.tmp (F.ev rfl)) .nil)) ?_
      exact ⟨i, by rw [hf]; rfl, hP, M.ext⟩
end Go.Proofs.Ytainnefmobfcjaa
/-! LibS -/
namespace Go.Proofs.Ytainnefmobfcjaa
set_option linter.unusedVariables false
set_option linter.unusedSimpArgs false
open Go.RowKit
/-- new blocks -/
structure NewM (n0 : Nat) (w : World) (l : List (Nat × Obj)) : Prop where
  at_ : ∀ p ∈ l, w.heap[p.1]? = some p.2
  nd : (l.map (·.1)).Nodup
  ge : ∀ p ∈ l, n0 ≤ p.1
theorem NewM.lt {n0 : Nat} {w : World} {l : List (Nat × Obj)} (h : NewM n0 w l) {p : Nat × Obj} (hp : p ∈ l) : p.1 < w.heap.size := (Array.getElem?_eq_some_iff.1 (h.at_ p hp)).1
theorem NewM.later {n0 : Nat} {w w' : World} {l : List (Nat × Obj)} (h : NewM n0 w l) (E : Ext [] w w') : NewM n0 w' l :=
  ⟨fun p hp => by rw [E.block _ (h.lt hp) (by simp)]; exact h.at_ p hp, h.nd, h.ge⟩
theorem Mem.new {n0 : Nat} {w w' : World} {l : List (Nat × Obj)} (M : Mem [] w w' l) (h : n0 ≤ w.heap.size) : NewM n0 w' l :=
  ⟨M.at_, M.nd, fun p hp => Nat.le_trans h ((M.own p hp).resolve_left (by simp))⟩
theorem NewM.app {n0 : Nat} {w w' : World} {l new : List (Nat × Obj)} (h : NewM n0 w l) (M : Mem [] w w' new) (hn : n0 ≤ w.heap.size) : NewM n0 w' (new ++ l) := by
  have h' := h.later M.ext
  have h2 := M.new hn
  refine ⟨fun p hp => (List.mem_append.1 hp).elim (h2.at_ p) (h'.at_ p), ?_, fun p hp => (List.mem_append.1 hp).elim (h2.ge p) (h'.ge p)⟩
  rw [List.map_append, List.nodup_append]
  refine ⟨h2.nd, h'.nd, ?_⟩
  rintro a ha b hb rfl
  obtain ⟨p, hp, rfl⟩ := List.mem_map.1 ha
  obtain ⟨q, hq, e⟩ := List.mem_map.1 hb
  have h3 := h.lt hq
  have h4 := (M.own p hp).resolve_left (by simp)
  omega
theorem Mem.joinNew {S : List Nat} {W0 w1 w : World} {l new : List (Nat × Obj)} (M : Mem S W0 w l) (M1 : Mem S W0 w1 l) (N : NewM w1.heap.size w new) : Mem S W0 w (new ++ l) := by
  refine ⟨M.ext, fun p hp => (List.mem_append.1 hp).elim (N.at_ p) (M.at_ p), ?_, fun p hp => (List.mem_append.1 hp).elim (fun h => .inr (Nat.le_trans M1.ext.size (N.ge p h))) (M.own p)⟩
  rw [List.map_append, List.nodup_append]
  refine ⟨N.nd, M.nd, ?_⟩
  rintro a ha b hb rfl
  obtain ⟨p, hp, rfl⟩ := List.mem_map.1 ha
  obtain ⟨q, hq, e⟩ := List.mem_map.1 hb
  have h3 := M1.lt hq
  have h4 := N.ge p hp
  omega
/-- an answer and the new blocks that belong to it -/
def NewP (n0 : Nat) (Φ : Value → List (Nat × Obj) → Prop) : Pred := fun v w => ∃ ent, Φ v ent ∧ NewM n0 w ent
theorem NewP.stays (n0 : Nat) (Φ : Value → List (Nat × Obj) → Prop) : Stays keepAll (NewP n0 Φ) := fun _ _ _ ⟨ent, h, N⟩ E => ⟨ent, h, N.later E⟩
theorem newP_of {w1 w w' : World} {x : Value} {Φ : Value → List (Nat × Obj) → Prop} (E : Ext [] w1 w) (h : ∃ ent, Φ x ent ∧ Mem [] w w' ent) : Ext [] w w' ∧ NewP w1.heap.size Φ x w' :=
  h.elim fun ent hh => ⟨hh.2.ext, ent, hh.1, hh.2.new E.size⟩
theorem memDep {o : Oper} {j : Nat} (h : (depsOf o).contains j = true) : j ∈ depsOf o := by simpa using h
/-! elements of a list in place -/
theorem put_in {A B C C' Y : List Value} {off q : Nat} (hq : q = A.length + off) (h : put C off Y = some C') : put (A ++ (C ++ B)) q Y = some (A ++ (C' ++ B)) := by
  subst hq
  obtain ⟨h1, rfl⟩ := put_splice _ _ _ _ h
  rw [put_of _ _ _ (by simp; omega)]
  congr 1
  unfold splice
  rw [List.take_append, List.drop_append, List.take_of_length_le (by omega), List.drop_of_length_le (by omega), List.nil_append, show A.length + off - A.length = off by omega, show A.length + off + Y.length - A.length = off + Y.length by omega, List.take_append_of_le_length (by omega), List.drop_append_of_le_length (by omega)]
  simp only [List.append_assoc]
theorem encL_put {α : Type} {enc : α → List Value} {sz : Nat} {ls : List α} (hsz : ∀ x ∈ ls, (enc x).length = sz) (junk : List Value) {i : Nat} (hi : i < ls.length) {off q : Nat} {Y : List Value} {x' : α} (h : put (enc ls[i]) off Y = some (enc x')) (hq : q = i * sz + off) :
    put (encL enc ls ++ junk) q Y = some (encL enc (ls.set i x') ++ junk) := by
  have e1 : ls = ls.take i ++ ls[i] :: ls.drop (i + 1) := by rw [List.getElem_cons_drop, List.take_append_drop]
  have e2 : ls.set i x' = ls.take i ++ x' :: ls.drop (i + 1) := by rw [List.set_eq_take_append_cons_drop, if_pos hi]
  have hA : (encL enc (ls.take i)).length = i * sz := by
    rw [encL_len fun x hx => hsz x (List.mem_of_mem_take hx), List.length_take, Nat.min_eq_left (by omega)]
  have f1 : encL enc ls ++ junk = encL enc (ls.take i) ++ (enc ls[i] ++ (encL enc (ls.drop (i + 1)) ++ junk)) := by
    conv => lhs; rw [e1]
    rw [encL_app, encL_cons]
    simp only [List.append_assoc]
  have f2 : encL enc (ls.set i x') ++ junk = encL enc (ls.take i) ++ (enc x' ++ (encL enc (ls.drop (i + 1)) ++ junk)) := by
    rw [e2, encL_app, encL_cons]
    simp only [List.append_assoc]
  rw [f1, f2]
  exact put_in (by rw [hA]; omega) h
theorem own_seg {e : TypeId} {sz n : Nat} {α : Type} {enc : α → List Value} {ls : List α} {junk : List Value} (h : (encL enc ls).length = n * sz) : seg (encL enc ls ++ junk) 0 (n * sz) = some (encL enc ls) := by
  have := seg_of [] (encL enc ls) junk
  simpa [h] using this
theorem own_el {sz : Nat} {α : Type} {enc : α → List Value} {ls : List α} (hsz : ∀ x ∈ ls, (enc x).length = sz) (junk : List Value) {i : Nat} (hi : i < ls.length) {q : Nat} (hq : q = i * sz) : seg (encL enc ls ++ junk) q sz = some (enc ls[i]) :=
  seg_el hsz (o := 0) (n := ls.length) (own_seg (e := 0) (encL_len hsz)) hi (by omega)
theorem own_nth {sz : Nat} {α : Type} {enc : α → List Value} {ls : List α} (hsz : ∀ x ∈ ls, (enc x).length = sz) (junk : List Value) {i : Nat} (hi : i < ls.length) {off q : Nat} {v : Value} (h : nth (enc ls[i]) off = some v) (hq : q = i * sz + off) : nth (encL enc ls ++ junk) q = some v :=
  sg_nth (own_el hsz junk hi rfl) h (by omega)
/-- a slice over a block from n0 on, or none -/
def NewV (n0 : Nat) (v : Value) : Prop := ∀ b o s n c, v = .slice (some ⟨b, o, s⟩) n c → n0 ≤ b
theorem NewV.nil (n0 n c : Nat) : NewV n0 (.slice none n c) := fun _ _ _ _ _ h => by cases h
theorem OwnS.newV {e : TypeId} {sz n : Nat} {v : Value} {xs : List Value} {ent : List (Nat × Obj)} (h : OwnS e sz v n xs ent) {W0 w : World} {l : List (Nat × Obj)} (M : Mem [] W0 w l) (hs : ∀ p ∈ ent, p ∈ l) : NewV W0.heap.size v := by
  rcases h with ⟨rfl, _, _, _⟩ | ⟨b, cap, junk, rfl, rfl, _⟩
  · exact NewV.nil _ _ _
  · intro b' o s n c hv
    cases hv
    exact (M.own _ (hs _ List.mem_cons_self)).resolve_left (by simp)
/-- what stays where only the blocks B are turned -/
theorem SlAt.laterB {W w : World} {sz : Nat} {v : Value} {n : Nat} {xs : List Value} {B : List Nat} (h : SlAt W sz v n xs) (hn : ∀ b o s k c, v = .slice (some ⟨b, o, s⟩) k c → b ∉ B) (E : Ext B W w) : SlAt w sz v n xs := by
  obtain ⟨p, cap, rfl, h1, h2, h3, h4⟩ := h
  refine ⟨p, cap, rfl, h1, h2, h3, fun h0 => ?_⟩
  obtain ⟨b, o, cs, t, fz, rfl, hb, hs⟩ := h4 h0
  exact ⟨b, o, cs, t, fz, rfl, by rw [E.block b (Array.getElem?_eq_some_iff.1 hb).1 (hn b o none n cap rfl)]; exact hb, hs⟩
end Go.Proofs.Ytainnefmobfcjaa
/-! F5 -/
namespace Go.Proofs.Ytainnefmobfcjaa
set_option linter.unusedVariables false
set_option linter.unusedSimpArgs false
open Go.RowKit
attribute [local irreducible] OpTo wpListIn Code.wpIn MW Cal
def insO (o : Off) : List Off → Option (List Off)
  | [] => some [o]
  | y :: ys =>
    if cmpL y.h.rt o.h.rt < 0 then (insO o ys).map (y :: ·)
    else if cmpL y.h.rt o.h.rt = 0 then
      (if o.h.ver < y.h.ver then none else if y.h.ver = o.h.ver then some ({ y with h := { y.h with til := if y.h.til < o.h.til then o.h.til else y.h.til } } :: ys) else some (o :: ys))
    else some (o :: y :: ys)
def curO (os : List Off) (now : Int) : List Off := os.filter fun y => decide (now < y.h.til)
def acceptV (os : List Off) (now : Int) (o : Off) : List Off × Int :=
  if validL os && validO o then
    if isTime now then
      if o.h.til ≤ now then ([], 14) else
      match insO o (curO os now) with
      | none => ([], 16)
      | some r => if 8 < r.length then ([], 10) else (r, 0)
    else ([], 2)
  else ([], 1)
theorem curX_map (xs : List OV) (now : Int) : (curX xs now).map (·.o) = curO (xs.map (·.o)) now := by
  unfold curX curO
  rw [List.filter_map]
  rfl
/-- the offer with the later time -/
def later2 (y o : Off) : Off := { y with h := { y.h with til := if y.h.til < o.h.til then o.h.til else y.h.til } }
theorem insO_at (o : Off) : ∀ (i : Nat) (os : List Off), i ≤ os.length → (∀ j (hj : j < i) (hl : j < os.length), cmpL os[j].h.rt o.h.rt < 0) → (∀ hl : i < os.length, 0 ≤ cmpL os[i].h.rt o.h.rt) →
    insO o os = if h : i < os.length then (if cmpL os[i].h.rt o.h.rt = 0 then (if o.h.ver < os[i].h.ver then none else if os[i].h.ver = o.h.ver then some (os.set i (later2 os[i] o)) else some (os.set i o)) else some (os.take i ++ o :: os.drop i)) else some (os.take i ++ o :: os.drop i)
  | 0, [], _, _, _ => by simp [insO]
  | 0, y :: ys, _, _, h2 => by
    have := h2 (by simp)
    simp only [List.getElem_cons_zero] at this
    rw [dif_pos (by simp)]
    simp only [insO, if_neg (show ¬ cmpL y.h.rt o.h.rt < 0 by omega), List.getElem_cons_zero, List.set_cons_zero, List.take_zero, List.drop_zero, List.nil_append, later2]
  | i + 1, [], h, _, _ => by simp at h
  | i + 1, y :: ys, h, h1, h2 => by
    have h0 := h1 0 (by omega) (by simp)
    simp only [List.getElem_cons_zero] at h0
    have ih := insO_at o i ys (by simpa using h) (fun j hj hl => by have := h1 (j + 1) (by omega) (by simp; omega); simpa using this) (fun hl => by have := h2 (by simp; omega); simpa using this)
    simp only [insO, if_pos h0]
    rw [ih]
    by_cases hi : i < ys.length
    · rw [dif_pos hi, dif_pos (by simp; omega)]
      simp only [List.getElem_cons_succ, List.set_cons_succ, List.take_succ_cons, List.drop_succ_cons, List.cons_append]
      split
      · split
        · rfl
        · split <;> rfl
      · rfl
    · rw [dif_neg hi, dif_neg (by simp; omega)]
      simp
def Asc (os : List Off) : Prop := os.Pairwise fun a b => cmpL a.h.rt b.h.rt < 0
theorem asc_of_adj {os : List Off} (h : ∀ i (hi : i < os.length) (h0 : 0 < i), cmpL os[i - 1].h.rt os[i].h.rt < 0) : Asc os := by
  unfold Asc
  rw [List.pairwise_iff_getElem]
  have key : ∀ (d i : Nat) (hj : i + (d + 1) < os.length), cmpL (os[i]'(by omega)).h.rt os[i + (d + 1)].h.rt < 0 := by
    intro d
    induction d with
    | zero => intro i hj; have := h (i + 1) hj (by omega); simpa using this
    | succ d ih =>
      intro i hj
      have h1 := ih i (by omega)
      have h2 := h (i + (d + 1) + 1) hj (by omega)
      simp only [Nat.add_sub_cancel] at h2
      exact cmpL_lt_trans h1 h2
  intro i j hi hj hij
  obtain ⟨d, rfl⟩ : ∃ d, j = i + (d + 1) := ⟨j - i - 1, by omega⟩
  exact key d i hj
theorem allI_at {p : Nat → Bool} {n : Nat} (h : allI p n = true) {i : Nat} (hi : i < n) : p i = true := by
  unfold allI at h
  exact List.all_eq_true.1 h i (List.mem_range.2 hi)
theorem validL_asc {os : List Off} (h : validL os = true) : Asc os := by
  unfold validL at h
  simp only [Bool.and_eq_true] at h
  refine asc_of_adj fun i hi h0 => ?_
  have := allI_at h.2 hi
  unfold valid1 at this
  rw [List.getElem?_eq_getElem hi] at this
  simp only [Bool.and_eq_true, Bool.or_eq_true, decide_eq_true_eq] at this
  rcases this.2 with h2 | h2
  · omega
  · rw [dif_pos (by omega)] at h2
    simpa using h2
theorem validL_each {os : List Off} (h : validL os = true) {o : Off} (ho : o ∈ os) : validO o = true := by
  unfold validL at h
  simp only [Bool.and_eq_true] at h
  obtain ⟨i, hi, rfl⟩ := List.mem_iff_getElem.1 ho
  have := allI_at h.2 hi
  unfold valid1 at this
  rw [List.getElem?_eq_getElem hi] at this
  simp only [Bool.and_eq_true] at this
  exact this.1
theorem validL_len {os : List Off} (h : validL os = true) : os.length ≤ 8 := by
  unfold validL at h
  simp only [Bool.and_eq_true, decide_eq_true_eq] at h
  exact h.1
theorem validO_len {o : Off} (h : validO o = true) : o.ps.length ≤ 16 ∧ o.cs.length ≤ 16 := by
  unfold validO hdO at h
  simp only [Bool.and_eq_true, decide_eq_true_eq] at h
  exact ⟨h.1.1.1.2, h.1.1.2⟩
theorem Asc.filter {os : List Off} (h : Asc os) (f : Off → Bool) : Asc (os.filter f) := List.Pairwise.filter _ h
theorem asc_ov {zs : List OV} (h : Asc (zs.map (·.o))) : ∀ j k (hj : j < k) (hk : k < zs.length), cmpL zs[j].o.h.rt zs[k].o.h.rt < 0 := by
  intro j k hj hk
  have := (List.pairwise_iff_getElem.1 h) j k (by simp; omega) (by simp; omega) hj
  simpa using this
/-! in memory -/
def OffsAt (W : World) (s : Value) (os : List Off) : Prop := ∃ zs : List OV, zs.map (·.o) = os ∧ SlAt W 20 s zs.length (encL ovC zs) ∧ ∀ z ∈ zs, OffAt W z
theorem OffsAt.nil (W : World) : OffsAt W (.slice none 0 0) [] := ⟨[], rfl, SlAt.nil W 20, by simp⟩
theorem OffsAt.later {W w : World} {s : Value} {os : List Off} (h : OffsAt W s os) (E : Ext [] W w) : OffsAt w s os := by
  obtain ⟨zs, h1, h2, h3⟩ := h
  exact ⟨zs, h1, h2.later E, fun z hz => (h3 z hz).later E⟩
/-- .. in new memory -/
def OffsN (n0 : Nat) (W : World) (s : Value) (os : List Off) : Prop := ∃ zs : List OV, zs.map (·.o) = os ∧ SlAt W 20 s zs.length (encL ovC zs) ∧ (∀ z ∈ zs, OffAt W z) ∧ NewV n0 s ∧ ∀ z ∈ zs, NewV n0 z.u ∧ NewV n0 z.v
theorem OffsN.nil (n0 : Nat) (W : World) : OffsN n0 W (.slice none 0 0) [] := ⟨[], rfl, SlAt.nil W 20, by simp, NewV.nil _ _ _, by simp⟩
theorem OffsN.at {n0 : Nat} {W : World} {s : Value} {os : List Off} (h : OffsN n0 W s os) : OffsAt W s os := by
  obtain ⟨zs, h1, h2, h3, _⟩ := h
  exact ⟨zs, h1, h2, h3⟩
def OwnIn (inn : List (Nat × Obj)) (z : OV) : Prop := ∃ eu ev, OwnS 111 20 z.u z.o.ps.length (pisC z.o.ps) eu ∧ OwnS 116 20 z.v z.o.cs.length (cisC z.o.cs) ev ∧ (∀ p ∈ eu, p ∈ inn) ∧ ∀ p ∈ ev, p ∈ inn
theorem OwnIn.mono {inn inn' : List (Nat × Obj)} {z : OV} (h : OwnIn inn z) (hs : ∀ p ∈ inn, p ∈ inn') : OwnIn inn' z := by
  obtain ⟨eu, ev, h1, h2, h3, h4⟩ := h
  exact ⟨eu, ev, h1, h2, fun p hp => hs p (h3 p hp), fun p hp => hs p (h4 p hp)⟩
theorem OwnIn.at {inn : List (Nat × Obj)} {z : OV} (h : OwnIn inn z) {S : List Nat} {W0 w : World} {l : List (Nat × Obj)} (M : Mem S W0 w l) (hs : ∀ p ∈ inn, p ∈ l) : OffAt w z := by
  obtain ⟨eu, ev, h1, h2, h3, h4⟩ := h
  exact ⟨h1.slAt M fun p hp => hs p (h3 p hp), h2.slAt M fun p hp => hs p (h4 p hp)⟩
theorem OwnIn.newV {inn : List (Nat × Obj)} {z : OV} (h : OwnIn inn z) {W0 w : World} {l : List (Nat × Obj)} (M : Mem [] W0 w l) (hs : ∀ p ∈ inn, p ∈ l) : NewV W0.heap.size z.u ∧ NewV W0.heap.size z.v := by
  obtain ⟨eu, ev, h1, h2, h3, h4⟩ := h
  exact ⟨h1.newV M fun p hp => hs p (h3 p hp), h2.newV M fun p hp => hs p (h4 p hp)⟩
theorem OwnS.one {e : TypeId} {sz n : Nat} {v : Value} {xs : List Value} {ent : List (Nat × Obj)} (h : OwnS e sz v n xs ent) : v.oneCell' = true := by
  obtain ⟨p, cap, rfl⟩ := h.slice
  rfl
theorem OwnIn.one {inn : List (Nat × Obj)} {z : OV} (h : OwnIn inn z) : (ovC z).all (·.oneCell') = true := by
  obtain ⟨eu, ev, h1, h2, _⟩ := h
  exact of_one _ _ _ h1.one h2.one
/-- a copy, and what is made of it -/
def PhC (o : Off) (r : Value) (ent : List (Nat × Obj)) : Prop := ∃ u v eu ev, r = .agg (ovC ⟨o, u, v⟩).toArray ∧ OwnS 111 20 u o.ps.length (pisC o.ps) eu ∧ OwnS 116 20 v o.cs.length (cisC o.cs) ev ∧ ent = eu ++ ev
def PhS (o : Off) (r : Value) (ent : List (Nat × Obj)) : Prop := ∃ b u v eu ev, r = .slice (some ⟨b, 0, none⟩) 1 1 ∧ OwnS 111 20 u o.ps.length (pisC o.ps) eu ∧ OwnS 116 20 v o.cs.length (cisC o.cs) ev ∧ ent = (b, .cells (ovC ⟨o, u, v⟩).toArray 58 (0, 0)) :: (eu ++ ev)
theorem copyN_c (x : OV) (hx : IsOff x.o) (h1 : x.o.ps.length ≤ 100000) (h2 : x.o.cs.length ≤ 100000) (W : World) (hA : OffAt W x) :
    Cal Try.prog 55 [.agg (ovC x).toArray].toArray W fun r w' => ∃ ent, PhC x.o r ent ∧ Mem [] W w' ent :=
  Cal.mono (copy_c x hx h1 h2 W hA) fun _ _ ⟨u, v, eu, ev, h, hO, hO2, M⟩ => ⟨_, ⟨u, v, eu, ev, h, hO, hO2, rfl⟩, M⟩
theorem rcopyN_c (x : OV) (hx : IsOff x.o) (h1 : x.o.ps.length ≤ 100000) (h2 : x.o.cs.length ≤ 100000) (W : World) (hA : OffAt W x) :
    Cal Try.prog 63 [.agg (ovC x).toArray].toArray W fun r w' => ∃ ent, PhC x.o r ent ∧ Mem [] W w' ent :=
  Cal.mono (rcopy_c x hx h1 h2 W hA) fun _ _ ⟨u, v, eu, ev, h, hO, hO2, M⟩ => ⟨_, ⟨u, v, eu, ev, h, hO, hO2, rfl⟩, M⟩
theorem bs1 {o : Off} (ho : IsOff o) {a : Act} {n t : Nat} {df : List Deferred} {fr : List (Nat × Value)} {w w1 : World} {d : Option Tmp} {ty : TypeId} {pos : String} {af : Array Edge} {g : Option (Nat × Bool)} (F : Frm a n df fr) (E : Ext [] w1 w) (D : NewP w1.heap.size (PhC o) (a.tmps.getD t undef) w) :
    OpTo Try.prog ⟨d, .buildSlice 52 1 [(0, .tmp t)].toArray, ty, pos, af, g⟩ a.eval w fun r w' => Ext [] w w' ∧ NewP w1.heap.size (PhS o) r w' := by
  unfold NewP at D
  refine D.elim fun ent hD => ?_
  have hp := hD.1
  have hN := hD.2
  unfold PhC at hp
  obtain ⟨u, v, eu, ev, hr, hO1, hO2, he⟩ := hp
  subst he
  have F' := F.know (d := t) hr
  have hb := of_build1 ho.1 u v
  have hev : evP ((t, .agg (ovC ⟨o, u, v⟩).toArray) :: fr) [(0, .tmp t)] = some [(0, ovC ⟨o, u, v⟩)] := by
    have h1 : Ev ((t, Value.agg (ovC ⟨o, u, v⟩).toArray) :: fr) (.tmp t) = some (.agg (ovC ⟨o, u, v⟩).toArray) := by
      show look _ t = _
      rw [look_put, if_pos rfl]
    simp only [evP, h1]
  refine o_buildSlice F' (Mem.start [] w) hev rfl rfl hb ?_
  intro b w' M
  refine ⟨M.ext, _, ⟨b, u, v, eu, ev, rfl, hO1, hO2, rfl⟩, ?_⟩
  exact hN.app M E.size
end Go.Proofs.Ytainnefmobfcjaa
/-! F6 -/
namespace Go.Proofs.Ytainnefmobfcjaa
set_option linter.unusedVariables false
set_option linter.unusedSimpArgs false
open Go.RowKit
attribute [local irreducible] OpTo wpListIn Code.wpIn MW Cal
set_option maxHeartbeats 8000000 in
theorem accept_c (xs : List OV) (hx : ∀ x ∈ xs, IsOff x.o) (v : Value) (now : Int) (x : OV) (hxo : IsOff x.o) (W : World) (hS : SlAt W 20 v xs.length (encL ovC xs)) (hA : ∀ x ∈ xs, OffAt W x) (hxa : OffAt W x) :
    Cal Try.prog 21 [v, .int .i64 now, .agg (ovC x).toArray].toArray W fun r w' => ∃ s, r = .tuple #[s, .int .i64 (acceptV (xs.map (·.o)) now x.o).2] ∧ OffsN W.heap.size w' s (acceptV (xs.map (·.o)) now x.o).1 ∧ Ext [] W w' := by
  have hSs := hS
  obtain ⟨q, cap, rfl, hcap, hsp, hl, hm⟩ := hS
  have e1 : nth (ovC x) 17 = some (.int .i64 x.o.h.til) := of_til hxo.1 _ _
  have e2 : seg (ovC x) 0 20 = some (ovC x) := of_all hxo.1 _ _
  have e3 : seg (ovC x) 0 16 = some (ipC x.o.h.rt) := of_rt hxo.1 _ _
  have e4 : nth (ovC x) 16 = some (.int .i64 x.o.h.ver) := of_ver hxo.1 _ _
  have hsz : ∀ z : OV, IsOff z.o → (ovC z).length = 20 := fun z h => ov_len h
  refine fn_ofM (n := 96) [] Try.func21 rfl rfl rfl ?_
  intro a w F M hwW
  refine c_seq ?_
  refine c_region ?_
  (refine stepD rfl F rfl (o_box M (F.ev rfl) rfl ?_); clear F; clear M; intro b5 w M a F)
  refine stepD rfl F rfl (o_assign (F.ev rfl) ?_); clear F; clear a; intro a F
  refine stepD rfl F rfl (o_assign (F.ev rfl) ?_); clear F; clear a; intro a F
  with_reducible refine l_nil ?_
  with_reducible refine q_then ?_
  with_reducible refine c_seq ?_
  with_reducible refine c_seq ?_
  with_reducible refine c_region ?_
  refine stepD rfl F rfl (o_move (F.ev rfl) ?_); clear F; clear a; intro a F
  (refine stepD rfl F rfl (o_call (F.ev rfl) (F.evs rfl) (Cal.mono (validL_c xs hx _ _ (hSs.later M.ext) (fun z hz => (hA z hz).later M.ext)) ?_)); clear F; clear a; rintro _ w ⟨rfl, hE⟩ a F; replace M := M.later hE; clear hE)
  cases hv : validL (xs.map (·.o))
  · have hacc : acceptV (xs.map (·.o)) now x.o = ([], 1) := by unfold acceptV; rw [hv]; rfl
    rw [hacc]
    rw [hv] at F
    refine stepD rfl F rfl (o_not (F.ev rfl) ?_); clear F; clear a; intro a F
    refine stepD rfl F rfl (o_move (F.ev rfl) ?_); clear F; clear a; intro a F
    refine stepOff F rfl rfl rfl rfl ?_; clear F; clear a; intro a F
    refine stepOff F rfl rfl rfl rfl ?_; clear F; clear a; intro a F
    refine stepOff F rfl rfl rfl rfl ?_; clear F; clear a; intro a F
    refine stepD rfl F rfl (o_pickT (F.ev rfl) (F.ev rfl) ?_); clear F; clear a; intro a F
    with_reducible refine l_nil ?_
    with_reducible refine q_then ?_
    refine c_true F rfl rfl ?_
    with_reducible refine c_seq ?_
    with_reducible refine c_region ?_
    refine stepD rfl F rfl (o_assign (F.ev rfl) ?_); clear F; clear a; intro a F
    refine stepD rfl F rfl (o_assign (F.ev rfl) ?_); clear F; clear a; intro a F
    with_reducible refine l_nil ?_
    with_reducible refine q_then ?_
    with_reducible refine c_ret ?_
    with_reducible refine q_thenR ?_
    refine p_ret F rfl (.cons (.tmp (F.ev rfl)) (.cons (.tmp (F.ev rfl)) .nil)) ?_
    exact ⟨_, rfl, OffsN.nil _ _, M.ext⟩
  rw [hv] at F
  refine stepD rfl F rfl (o_not (F.ev rfl) ?_); clear F; clear a; intro a F
  refine stepD rfl F rfl (o_move (F.ev rfl) ?_); clear F; clear a; intro a F
  refine stepG rfl F rfl rfl rfl (o_loadA M (F.ev rfl) (by repeat (first | exact .here | apply Has.there)) (by first | assumption | rfl) ?_); clear F; clear a; intro a F
  (refine stepG rfl F rfl rfl rfl (o_call (F.ev rfl) (F.evs rfl) (Cal.mono (validOffer_c x hxo _ (hxa.later M.ext)) ?_)); clear F; clear a; rintro _ w ⟨rfl, hE⟩ a F; replace M := M.later hE; clear hE)
  cases ho : validO x.o
  · have hacc : acceptV (xs.map (·.o)) now x.o = ([], 1) := by unfold acceptV; rw [hv, ho]; rfl
    rw [hacc]
    rw [ho] at F
    refine stepG rfl F rfl rfl rfl (o_not (F.ev rfl) ?_); clear F; clear a; intro a F
    refine stepD rfl F rfl (o_pickF (F.ev rfl) (F.ev rfl) ?_); clear F; clear a; intro a F
    with_reducible refine l_nil ?_
    with_reducible refine q_then ?_
    refine c_true F rfl rfl ?_
    with_reducible refine c_seq ?_
    with_reducible refine c_region ?_
    refine stepD rfl F rfl (o_assign (F.ev rfl) ?_); clear F; clear a; intro a F
    refine stepD rfl F rfl (o_assign (F.ev rfl) ?_); clear F; clear a; intro a F
    with_reducible refine l_nil ?_
    with_reducible refine q_then ?_
    with_reducible refine c_ret ?_
    with_reducible refine q_thenR ?_
    refine p_ret F rfl (.cons (.tmp (F.ev rfl)) (.cons (.tmp (F.ev rfl)) .nil)) ?_
    exact ⟨_, rfl, OffsN.nil _ _, M.ext⟩
  rw [ho] at F
  refine stepG rfl F rfl rfl rfl (o_not (F.ev rfl) ?_); clear F; clear a; intro a F
  refine stepD rfl F rfl (o_pickF (F.ev rfl) (F.ev rfl) ?_); clear F; clear a; intro a F
  with_reducible refine l_nil ?_
  with_reducible refine q_then ?_
  refine c_false F rfl rfl ?_
  with_reducible refine c_skip ?_
  with_reducible refine q_then ?_
  with_reducible refine c_seq ?_
  with_reducible refine c_seq ?_
  with_reducible refine c_region ?_
  refine stepD rfl F rfl (o_move (F.ev rfl) ?_); clear F; clear a; intro a F
  (refine stepD rfl F rfl (o_call (F.ev rfl) (F.evs rfl) (Cal.mono (isTime_c now _) ?_)); clear F; clear a; rintro _ w ⟨rfl, hE⟩ a F; replace M := M.later hE; clear hE)
  cases htm : isTime now
  · have hacc : acceptV (xs.map (·.o)) now x.o = ([], 2) := by unfold acceptV; rw [hv, ho, htm]; rfl
    rw [hacc]
    rw [htm] at F
    refine stepD rfl F rfl (o_not (F.ev rfl) ?_); clear F; clear a; intro a F
    with_reducible refine l_nil ?_
    with_reducible refine q_then ?_
    refine c_true F rfl rfl ?_
    with_reducible refine c_seq ?_
    with_reducible refine c_region ?_
    refine stepD rfl F rfl (o_assign (F.ev rfl) ?_); clear F; clear a; intro a F
    refine stepD rfl F rfl (o_assign (F.ev rfl) ?_); clear F; clear a; intro a F
    with_reducible refine l_nil ?_
    with_reducible refine q_then ?_
    with_reducible refine c_ret ?_
    with_reducible refine q_thenR ?_
    refine p_ret F rfl (.cons (.tmp (F.ev rfl)) (.cons (.tmp (F.ev rfl)) .nil)) ?_
    exact ⟨_, rfl, OffsN.nil _ _, M.ext⟩
  rw [htm] at F
  by_cases c4 : x.o.h.til ≤ now
  · have hacc : acceptV (xs.map (·.o)) now x.o = ([], 14) := by
      unfold acceptV
      rw [hv, ho, htm]
      simp only [Bool.and_self, if_true, if_pos c4]
    rw [hacc]
    refine stepD rfl F rfl (o_not (F.ev rfl) ?_); clear F; clear a; intro a F
    with_reducible refine l_nil ?_
    with_reducible refine q_then ?_
    refine c_false F rfl rfl ?_
    with_reducible refine c_skip ?_
    with_reducible refine q_then ?_
    with_reducible refine c_seq ?_
    with_reducible refine c_seq ?_
    with_reducible refine c_region ?_
    refine stepD rfl F rfl (o_fieldAddr (F.ev rfl) ?_); clear F; clear a; intro a F
    refine stepD rfl F rfl (o_load1 M (F.ev rfl) (by repeat (first | exact .here | apply Has.there)) (by first | assumption | rfl) ?_); clear F; clear a; intro a F
    refine stepD rfl F rfl (o_move (F.ev rfl) ?_); clear F; clear a; intro a F
    refine stepD rfl F rfl (o_leqT (F.ev rfl) (F.ev rfl) (by omega) ?_); clear F; clear a; intro a F
    with_reducible refine l_nil ?_
    with_reducible refine q_then ?_
    refine c_true F rfl rfl ?_
    with_reducible refine c_seq ?_
    with_reducible refine c_region ?_
    refine stepD rfl F rfl (o_assign (F.ev rfl) ?_); clear F; clear a; intro a F
    refine stepD rfl F rfl (o_assign (F.ev rfl) ?_); clear F; clear a; intro a F
    with_reducible refine l_nil ?_
    with_reducible refine q_then ?_
    with_reducible refine c_ret ?_
    with_reducible refine q_thenR ?_
    refine p_ret F rfl (.cons (.tmp (F.ev rfl)) (.cons (.tmp (F.ev rfl)) .nil)) ?_
    exact ⟨_, rfl, OffsN.nil _ _, M.ext⟩
  have hlen := validL_len hv
  rw [List.length_map] at hlen
  have hov := validO_len ho
  refine stepD rfl F rfl (o_not (F.ev rfl) ?_); clear F; clear a; intro a F
  with_reducible refine l_nil ?_
  with_reducible refine q_then ?_
  refine c_false F rfl rfl ?_
  with_reducible refine c_skip ?_
  with_reducible refine q_then ?_
  with_reducible refine c_seq ?_
  with_reducible refine c_seq ?_
  with_reducible refine c_region ?_
  refine stepD rfl F rfl (o_fieldAddr (F.ev rfl) ?_); clear F; clear a; intro a F
  refine stepD rfl F rfl (o_load1 M (F.ev rfl) (by repeat (first | exact .here | apply Has.there)) (by first | assumption | rfl) ?_); clear F; clear a; intro a F
  refine stepD rfl F rfl (o_move (F.ev rfl) ?_); clear F; clear a; intro a F
  refine stepD rfl F rfl (o_leqF (F.ev rfl) (F.ev rfl) (by omega) ?_); clear F; clear a; intro a F
  with_reducible refine l_nil ?_
  with_reducible refine q_then ?_
  refine c_false F rfl rfl ?_
  with_reducible refine c_skip ?_
  with_reducible refine q_then ?_
  with_reducible refine c_seq ?_
  with_reducible refine c_region ?_
  (refine stepD rfl F rfl (o_alloc M ?_); clear F; clear M; intro b8 w M a F)
  with_reducible refine l_nil ?_
  with_reducible refine q_then ?_
  with_reducible refine c_seq ?_
  with_reducible refine c_seq ?_
  with_reducible refine c_region ?_
  refine stepD rfl F rfl (o_move (F.ev rfl) ?_); clear F; clear a; intro a F
  refine stepD rfl F rfl (o_move (F.ev rfl) ?_); clear F; clear a; intro a F
  (refine stepD rfl F rfl (o_call (F.ev rfl) (F.evs rfl) (Cal.mono (current_c _ now _ rfl ) ?_)); clear F; clear a; rintro _ w ⟨c2, c3, rfl, N⟩ a F; replace M := M.joins N; clear N)
  with_reducible refine l_nil ?_
  with_reducible refine q_then ?_
  with_reducible refine c_block ?_
  replace F := F.only [29, 8, 5] rfl
  replace M := M.perm (l' := [(b8, .cells [.slice none 0 0].toArray 52 (0, 0)), (b5, .cells (ovC x).toArray 58 (0, 0))] ++ curB (.slice q xs.length cap) now c2 c3) List.perm_append_comm
  refine c_rangeAt (α := OV) (ps := [30]) F M rfl (cur_iter W xs hx _ hSs hA (by omega) now c2 c3) (fun _ => rfl) rfl
    (fun pre l => ∃ zs sv ent inn, zs.map (·.o) = pre.map (·.o) ∧ OwnS 58 20 sv zs.length (encL ovC zs) ent ∧ (∀ z ∈ zs, OwnIn inn z) ∧ l = [(b8, .cells [sv].toArray 52 (0, 0)), (b5, .cells (ovC x).toArray 58 (0, 0))] ++ (ent ++ inn))
    (fun c pre l => False)
    ⟨[], _, [], [], rfl, OwnS.nil _ _, by simp, rfl⟩ ?round ?done ?stop
  case round =>
    clear F M
    rintro L pre y _ w p a hok ⟨zs, sv, ent, inn, hz, hO, hI, rfl⟩ M F
    have hym : y ∈ curX xs now := hok.subset (by simp)
    have hyx : y ∈ xs := (List.mem_filter.1 hym).1
    have hyo := hx y hyx
    have hya := hA y hyx
    have hyv := validO_len (validL_each hv (List.mem_map_of_mem hyx))
    have hzl : zs.length ≤ 8 := by
      have h1 : zs.length = pre.length := by simpa using congrArg List.length hz
      have h2 : (pre ++ [y]).length ≤ (curX xs now).length := hok.length_le
      have h3 : (curX xs now).length ≤ xs.length := List.length_filter_le _ _
      simp at h2
      omega
    have f2 : (ovC y).length = 20 := ov_len hyo
    have f3 : seg (ovC y) 0 20 = some (ovC y) := of_all hyo.1 _ _
    refine c_region ?_
    (refine stepD rfl F rfl (o_alloc M ?_); clear F; clear M; intro b9 w M a F)
    (refine stepN rfl F (o_storeA M (F.ev rfl) (F.ev rfl) (f2) (ov_one hya)  (by repeat (first | exact .here | apply Has.there))  (put_all (by rw [f2]; rfl)) (by repeat (first | exact .here | apply Upd.there)) ?_); clear F; clear M; intro w M a F)
    refine l_nil ?_
    refine q_then ?_
    replace M : Mem [] W w (((b9, .cells (ovC y).toArray 58 (0, 0)) :: ([(b8, .cells [sv].toArray 52 (0, 0)), (b5, .cells (ovC x).toArray 58 (0, 0))] ++ (ent ++ inn))) ++ p) := M
    refine ⟨_, M, ?_⟩
    clear M
    intro w p M
    obtain ⟨sp, sc, rfl⟩ := hO.slice
    replace M := M.perm (l' := (b9, .cells (ovC y).toArray 58 (0, 0)) :: (b8, .cells [.slice sp zs.length sc].toArray 52 (0, 0)) :: (b5, .cells (ovC x).toArray 58 (0, 0)) :: (p ++ (inn ++ ent))) (by classical exact List.perm_iff_count.2 fun _ => by simp only [List.count_append, List.count_cons, List.count_nil, Nat.add_zero, Nat.zero_add] <;> ac_rfl)
    replace F := F.only [9, 8, 5] rfl
    with_reducible refine c_block ?_
    refine c_draw 4 F (by kernel_rfl) ?_
    intro w1 hE hok
    have M1 := M.later hE
    refine mK hok rfl rfl (fun a' w' F' E' => o_load1 (M1.later E') (F'.ev rfl) (by repeat (first | exact .here | apply Has.there)) (by first | assumption | rfl) ⟨Ext.refl _ _, rfl⟩) ?_
    refine mK hok rfl rfl (fun a' w' F' E' => o_loadA (M1.later E') (F'.ev rfl) (by repeat (first | exact .here | apply Has.there)) (by first | assumption | rfl) ⟨Ext.refl _ _, rfl⟩) ?_
    refine mX (V := NewP w1.heap.size (PhC y.o)) hok rfl rfl (NewP.stays _ _) (fun a' w' F' E' D' => o_call (F'.ev rfl) (F'.evs rfl) (Cal.mono (copyN_c y hyo (by omega) (by omega) _ (hya.later (M1.later E').ext)) fun _ _ hh => newP_of E' hh)) ?_
    refine mX (V := NewP w1.heap.size (PhS y.o)) hok rfl rfl (NewP.stays _ _) (fun a' w' F' E' D' => bs1 hyo F' E' (D' 2 (memDep rfl) _ rfl)) ?_
    (refine mDone rfl rfl ?_; clear F; clear M; intro a w F hE2 hX hTT hDD hPP; have M := M1.later hE2; (try dsimp only at F); obtain ⟨new, hΦ, hN⟩ := hX 3 _ rfl; replace M := M.joinNew M1 hN; obtain ⟨b3, u, v2, eu, ev, hr, hO1, hO2, rfl⟩ := hΦ; replace F := F.know (d := 34) hr; clear hr; clear hN; clear M1; clear hX; clear hE2; clear hok; clear hE; clear hTT; clear hDD; clear hPP)
    have hone : (ovC ⟨y.o, u, v2⟩).all (·.oneCell') = true := of_one _ _ _ hO1.one hO2.one
    have hlen2 : (ovC ⟨y.o, u, v2⟩).length = 20 := ov_len (x := ⟨y.o, u, v2⟩) hyo
    replace M := M.perm (l' := (b3, .cells (ovC ⟨y.o, u, v2⟩).toArray 58 (0, 0)) :: (b8, .cells [.slice sp zs.length sc].toArray 52 (0, 0)) :: (b5, .cells (ovC x).toArray 58 (0, 0)) :: (b9, .cells (ovC y).toArray 58 (0, 0)) :: ((eu ++ ev) ++ (p ++ (inn ++ ent)))) (by classical exact List.perm_iff_count.2 fun _ => by simp only [List.count_append, List.count_cons, List.count_nil, Nat.add_zero, Nat.zero_add] <;> ac_rfl)
    (refine stepD rfl F rfl (o_append hO M (.cons (.cons (.cons (.cons (.app (.app (.app .here))))))) (F.ev rfl) (F.ev rfl) (SrcOf.cells' (M.heap .here) (sg_all (by omega)) hone) (by omega) (by omega) ?_); clear F; clear M; intro sv2 ent2 w hO9 M a F)
    obtain ⟨sp2, sc2, rfl⟩ := hO9.slice
    (refine stepN rfl F (o_store1 M (F.ev rfl) (F.ev rfl) rfl (by repeat (first | exact .here | apply Has.there)) (by rfl) (by repeat (first | exact .here | apply Upd.there)) ?_); clear F; clear M; intro w M a F)
    with_reducible refine l_nil ?_
    with_reducible refine q_inB ?_
    have hlz : (zs ++ [(⟨y.o, u, v2⟩ : OV)]).length = zs.length + 1 := by simp
    refine ⟨_, ⟨zs ++ [⟨y.o, u, v2⟩], .slice sp2 (zs.length + 1) sc2, ent2, (eu ++ ev) ++ inn, by simp [hz], ?_, ?_, rfl⟩, ?_⟩
    · rw [hlz, encL_app, encL_one]; exact hO9
    · intro z hz'
      rcases List.mem_append.1 hz' with h1 | h1
      · exact (hI z h1).mono fun p hp => by simp [hp]
      · simp only [List.mem_singleton] at h1
        subst h1
        exact ⟨eu, ev, hO1, hO2, fun p hp => by simp [hp], fun p hp => by simp [hp]⟩
    · exact (M.perm (l' := (([(b8, .cells [.slice sp2 (zs.length + 1) sc2].toArray 52 (0, 0)), (b5, .cells (ovC x).toArray 58 (0, 0))] ++ (ent2 ++ ((eu ++ ev) ++ inn))) ++ p) ++ [(b3, .cells (ovC ⟨y.o, u, v2⟩).toArray 58 (0, 0)), (b9, .cells (ovC y).toArray 58 (0, 0))]) (by classical exact List.perm_iff_count.2 fun _ => by simp only [List.count_append, List.count_cons, List.count_nil, Nat.add_zero, Nat.zero_add] <;> ac_rfl)).sub (List.sublist_append_left _ _)
  case stop =>
    intro D c pre l' p' W' a' h
    exact h.elim
  case done =>
    clear F M
    rintro D ys _ p w a rfl ⟨zs, sv, ent, inn, hz, hO, hI, rfl⟩ M F
    rw [curX_map] at hz
    have hasc : Asc (zs.map (·.o)) := by rw [hz]; exact (validL_asc hv).filter _
    have hzo : ∀ z ∈ zs, IsOff z.o := fun z hzm => by
      have h1 : z.o ∈ curO (xs.map (·.o)) now := by rw [← hz]; exact List.mem_map_of_mem hzm
      obtain ⟨x', h2, h3⟩ := List.mem_map.1 (List.mem_filter.1 h1).1
      rw [← h3]; exact hx x' h2
    have hzl : zs.length ≤ 8 := by
      have h1 : zs.length = (curO (xs.map (·.o)) now).length := by simpa using congrArg List.length hz
      have h2 : (curO (xs.map (·.o)) now).length ≤ (xs.map (·.o)).length := List.length_filter_le _ _
      rw [List.length_map] at h2
      omega
    have hszs : ∀ z ∈ zs, (ovC z).length = 20 := fun z h => ov_len (hzo z h)
    replace M := M.perm (l' := (D, .deferred (some [])) :: (b8, .cells [sv].toArray 52 (0, 0)) :: (b5, .cells (ovC x).toArray 58 (0, 0)) :: (inn ++ (p ++ ent))) (by classical exact List.perm_iff_count.2 fun _ => by simp only [List.count_append, List.count_cons, List.count_nil, Nat.add_zero, Nat.zero_add] <;> ac_rfl)
    obtain ⟨sp, sc, rfl⟩ := hO.slice
    with_reducible refine q_inB ?_
    with_reducible refine q_then ?_
    with_reducible refine c_seq ?_
    with_reducible refine c_region ?_
    refine stepD rfl F rfl (o_load1 M (F.ev rfl) (by repeat (first | exact .here | apply Has.there)) (by first | assumption | rfl) ?_); clear F; clear a; intro a F
    refine stepD rfl F rfl (o_fieldAddr (F.ev rfl) ?_); clear F; clear a; intro a F
    refine stepD rfl F rfl (o_loadA M (F.ev rfl) (by repeat (first | exact .here | apply Has.there)) (by first | assumption | rfl) ?_); clear F; clear a; intro a F
    (refine stepD rfl F rfl (o_call (F.ev rfl) (F.evs rfl) (Cal.mono (bsearch_c zs hzo x.o.h.rt hxo.1 (by omega) (asc_ov hasc) _ _ (hO.slAt M fun p hp => by simp [hp])) ?_)); clear F; clear a; rintro _ w ⟨i, rfl, hP, hE⟩ a F; replace M := M.later hE; clear hE)
    have hins : insO x.o (curO (xs.map (·.o)) now) = if h : i < zs.length then (if cmpL zs[i].o.h.rt x.o.h.rt = 0 then (if x.o.h.ver < zs[i].o.h.ver then none else if zs[i].o.h.ver = x.o.h.ver then some ((zs.map (·.o)).set i (later2 zs[i].o x.o)) else some ((zs.map (·.o)).set i x.o)) else some ((zs.map (·.o)).take i ++ x.o :: (zs.map (·.o)).drop i)) else some ((zs.map (·.o)).take i ++ x.o :: (zs.map (·.o)).drop i) := by
      rw [← hz, insO_at x.o i (zs.map (·.o)) (by rw [List.length_map]; exact hP.le) (fun j hj hl' => by rw [List.getElem_map]; exact hP.lo j hj (by simpa using hl')) (fun hl' => by rw [List.getElem_map]; exact hP.hi i (Nat.le_refl _) (by simpa using hl'))]
      simp only [List.length_map, List.getElem_map]
    have hPle := hP.le
    clear hP
    refine stepD rfl F rfl (o_move (F.ev rfl) ?_); clear F; clear a; intro a F
    refine stepD rfl F rfl (o_extract (F.ev rfl) rfl ?_); clear F; clear a; intro a F
    refine stepD rfl F rfl (o_extract (F.ev rfl) rfl ?_); clear F; clear a; intro a F
    refine stepD rfl F rfl (o_assign (F.ev rfl) ?_); clear F; clear a; intro a F
    refine stepD rfl F rfl (o_assign (F.ev rfl) ?_); clear F; clear a; intro a F
    refine l_nil ?_
    refine q_then ?_
    refine c_seq ?_
    refine c_block ?_
    replace F := F.only [11, 10, 8, 5] rfl
    refine c_cutR (fun a w => ∃ (zs' : List OV) (sv' : Value) (ent' inn' : List (Nat × Obj)), insO x.o (curO (xs.map (·.o)) now) = some (zs'.map (·.o)) ∧ OwnS 58 20 sv' zs'.length (encL ovC zs') ent' ∧ (∀ z ∈ zs', OwnIn inn' z) ∧ Frm a 96 [markOf D] [(8, .pointer (some ⟨b8, 0, none⟩))] ∧ Mem [] W w ((D, .deferred (some [])) :: (b8, .cells [sv'].toArray 52 (0, 0)) :: (ent' ++ inn'))) ?_ ?_
    rotate_left
    · clear F M hins
      rintro a w ⟨zs', sv', ent', inn', hins, hO', hI', F, M⟩
      obtain ⟨sp', sc', rfl⟩ := hO'.slice
      by_cases c9 : 8 < zs'.length
      · have hacc : acceptV (xs.map (·.o)) now x.o = ([], 10) := by
          unfold acceptV
          rw [hv, ho, htm]
          simp only [Bool.and_self, if_true, if_neg c4, hins]
          rw [if_pos (by simpa using c9)]
        rw [hacc]
        with_reducible refine q_inB ?_
        with_reducible refine q_then ?_
        with_reducible refine c_seq ?_
        with_reducible refine c_seq ?_
        with_reducible refine c_region ?_
        refine stepD rfl F rfl (o_load1 M (F.ev rfl) (by repeat (first | exact .here | apply Has.there)) (by first | assumption | rfl) ?_); clear F; clear a; intro a F
        refine stepD rfl F rfl (o_lenSl (F.ev rfl) ?_); clear F; clear a; intro a F
        refine stepD rfl F rfl (o_gtrT (F.ev rfl) (F.ev rfl) (by omega) ?_); clear F; clear a; intro a F
        with_reducible refine l_nil ?_
        with_reducible refine q_then ?_
        refine c_true F rfl rfl ?_
        with_reducible refine c_seq ?_
        with_reducible refine c_region ?_
        refine stepD rfl F rfl (o_assign (F.ev rfl) ?_); clear F; clear a; intro a F
        refine stepD rfl F rfl (o_assign (F.ev rfl) ?_); clear F; clear a; intro a F
        with_reducible refine l_nil ?_
        with_reducible refine q_then ?_
        with_reducible refine c_ret ?_
        with_reducible refine q_thenR ?_
        exact p_ret1 F M .here rfl fun w' M' => ⟨.cons (.tmp (F.ev rfl)) (.cons (.tmp (F.ev rfl)) .nil), _, rfl, OffsN.nil _ _, M'.ext⟩
      · have hacc : acceptV (xs.map (·.o)) now x.o = (zs'.map (·.o), 0) := by
          unfold acceptV
          rw [hv, ho, htm]
          simp only [Bool.and_self, if_true, if_neg c4, hins]
          rw [if_neg (by simpa using c9)]
        rw [hacc]
        with_reducible refine q_inB ?_
        with_reducible refine q_then ?_
        with_reducible refine c_seq ?_
        with_reducible refine c_seq ?_
        with_reducible refine c_region ?_
        refine stepD rfl F rfl (o_load1 M (F.ev rfl) (by repeat (first | exact .here | apply Has.there)) (by first | assumption | rfl) ?_); clear F; clear a; intro a F
        refine stepD rfl F rfl (o_lenSl (F.ev rfl) ?_); clear F; clear a; intro a F
        refine stepD rfl F rfl (o_gtrF (F.ev rfl) (F.ev rfl) (by omega) ?_); clear F; clear a; intro a F
        with_reducible refine l_nil ?_
        with_reducible refine q_then ?_
        refine c_false F rfl rfl ?_
        with_reducible refine c_skip ?_
        with_reducible refine q_then ?_
        with_reducible refine c_seq ?_
        with_reducible refine c_region ?_
        refine stepD rfl F rfl (o_load1 M (F.ev rfl) (by repeat (first | exact .here | apply Has.there)) (by first | assumption | rfl) ?_); clear F; clear a; intro a F
        refine stepD rfl F rfl (o_assign (F.ev rfl) ?_); clear F; clear a; intro a F
        refine stepD rfl F rfl (o_assign (F.ev rfl) ?_); clear F; clear a; intro a F
        with_reducible refine l_nil ?_
        with_reducible refine q_then ?_
        with_reducible refine c_ret ?_
        exact p_ret1 F M .here rfl fun w' M' => ⟨.cons (.tmp (F.ev rfl)) (.cons (.tmp (F.ev rfl)) .nil), _, rfl, ⟨zs', rfl, hO'.slAt M' fun p hp => by simp [hp], fun z hz => (hI' z hz).at M' fun p hp => by simp [hp], hO'.newV M' fun p hp => by simp [hp], fun z hz => (hI' z hz).newV M' fun p hp => by simp [hp]⟩, M'.ext⟩
    refine c_seq ?_
    by_cases hfd : ∃ hil : i < zs.length, cmpL zs[i].o.h.rt x.o.h.rt = 0
    · obtain ⟨hil, c5⟩ := hfd
      rw [dif_pos hil, if_pos c5] at hins
      have hf := foundAt_at (rt := x.o.h.rt) hil
      rw [decide_eq_true c5] at hf
      rw [hf] at F
      obtain ⟨z, hz0⟩ : ∃ z, z = zs[i] := ⟨_, rfl⟩
      rcases hO with ⟨_, h0, _, _⟩ | ⟨bO, cO, junk, hvO, rfl, hxl, hjl, hnc⟩
      · omega
      cases hvO
      have hzm : z ∈ zs := by rw [hz0]; exact List.getElem_mem hil
      have hzo' := hzo z hzm
      rw [← hz0] at hins
      have g1 : nth (encL ovC zs ++ junk) (0 + (i : Int).toNat * 20 + 16) = some (.int .i64 z.o.h.ver) := own_nth hszs junk hil (by rw [← hz0]; exact of_ver hzo'.1 _ _) (by omega)
      have g2 : nth (encL ovC zs ++ junk) (0 + (i : Int).toNat * 20 + 17) = some (.int .i64 z.o.h.til) := own_nth hszs junk hil (by rw [← hz0]; exact of_til hzo'.1 _ _) (by omega)
      replace M := M.perm (l' := (bO, .cells (encL ovC zs ++ junk).toArray 58 (0, 0)) :: (b8, .cells [.slice (some ⟨bO, 0, none⟩) zs.length sc].toArray 52 (0, 0)) :: (b5, .cells (ovC x).toArray 58 (0, 0)) :: (D, .deferred (some [])) :: (inn ++ p)) (by classical exact List.perm_iff_count.2 fun _ => by simp only [List.count_append, List.count_cons, List.count_nil, Nat.add_zero, Nat.zero_add] <;> ac_rfl)
      by_cases c6 : x.o.h.ver < z.o.h.ver
      · rw [if_pos c6] at hins
        have hacc : acceptV (xs.map (·.o)) now x.o = ([], 16) := by
          unfold acceptV
          rw [hv, ho, htm]
          simp only [Bool.and_self, if_true, if_neg c4, hins]
        rw [hacc]
        refine c_draw 11 F (by kernel_rfl) ?_
        intro w1 hE hok
        have M1 := M.later hE
        refine mK hok rfl rfl (fun a' w' F' E' => o_move (F'.ev rfl) ⟨Ext.refl _ _, rfl⟩) ?_
        refine mK hok rfl rfl (fun a' w' F' E' => o_move (F'.ev rfl) ⟨Ext.refl _ _, rfl⟩) ?_
        refine mKG hok rfl rfl rfl rfl (fun a' w' F' E' => o_load1 (M1.later E') (F'.ev rfl) (by repeat (first | exact .here | apply Has.there)) (by first | assumption | rfl) ⟨Ext.refl _ _, rfl⟩) ?_
        refine mKG hok rfl rfl rfl rfl (fun a' w' F' E' => o_move (F'.ev rfl) ⟨Ext.refl _ _, rfl⟩) ?_
        refine mKG hok rfl rfl rfl rfl (fun a' w' F' E' => o_indexSl (F'.ev rfl) (F'.ev rfl) (by omega) (by omega) ⟨Ext.refl _ _, rfl⟩) ?_
        refine mKG hok rfl rfl rfl rfl (fun a' w' F' E' => o_fieldAddr (F'.ev rfl) ⟨Ext.refl _ _, rfl⟩) ?_
        refine mKG hok rfl rfl rfl rfl (fun a' w' F' E' => o_load1 (M1.later E') (F'.ev rfl) (by repeat (first | exact .here | apply Has.there)) (by first | assumption | rfl) ⟨Ext.refl _ _, rfl⟩) ?_
        refine mKG hok rfl rfl rfl rfl (fun a' w' F' E' => o_fieldAddr (F'.ev rfl) ⟨Ext.refl _ _, rfl⟩) ?_
        refine mKG hok rfl rfl rfl rfl (fun a' w' F' E' => o_load1 (M1.later E') (F'.ev rfl) (by repeat (first | exact .here | apply Has.there)) (by first | assumption | rfl) ⟨Ext.refl _ _, rfl⟩) ?_
        refine mKG hok rfl rfl rfl rfl (fun a' w' F' E' => o_gtrT (F'.ev rfl) (F'.ev rfl) (by omega) ⟨Ext.refl _ _, rfl⟩) ?_
        refine mK hok rfl rfl (fun a' w' F' E' => o_pickT (F'.ev rfl) (F'.ev rfl) ⟨Ext.refl _ _, rfl⟩) ?_
        (refine mDone rfl rfl ?_; clear F; clear M; intro a w F hE2 hX hTT hDD hPP; have M := M1.later hE2; clear M1; clear hX; clear hE2; clear hok; clear hE; clear hTT; clear hDD; clear hPP; (try dsimp only at F))
        refine stepD rfl F rfl (o_assign (F.ev rfl) ?_); clear F; clear a; intro a F
        with_reducible refine l_nil ?_
        with_reducible refine q_then ?_
        refine c_true F rfl rfl ?_
        with_reducible refine c_seq ?_
        with_reducible refine c_region ?_
        refine stepD rfl F rfl (o_assign (F.ev rfl) ?_); clear F; clear a; intro a F
        refine stepD rfl F rfl (o_assign (F.ev rfl) ?_); clear F; clear a; intro a F
        with_reducible refine l_nil ?_
        with_reducible refine q_then ?_
        with_reducible refine c_ret ?_
        with_reducible refine q_cutR ?_
        with_reducible refine q_inBR ?_
        with_reducible refine q_thenR ?_
        replace M := M.perm (l' := (D, .deferred (some [])) :: (b8, .cells [.slice (some ⟨bO, 0, none⟩) zs.length sc].toArray 52 (0, 0)) :: (b5, .cells (ovC x).toArray 58 (0, 0)) :: (bO, .cells (encL ovC zs ++ junk).toArray 58 (0, 0)) :: (inn ++ p)) (by classical exact List.perm_iff_count.2 fun _ => by simp only [List.count_append, List.count_cons, List.count_nil, Nat.add_zero, Nat.zero_add] <;> ac_rfl)
        exact p_ret1 F M .here rfl fun w' M' => ⟨.cons (.tmp (F.ev rfl)) (.cons (.tmp (F.ev rfl)) .nil), _, rfl, OffsN.nil _ _, M'.ext⟩
      rw [if_neg c6] at hins
      refine c_draw 11 F (by kernel_rfl) ?_
      intro w1 hE hok
      have M1 := M.later hE
      refine mK hok rfl rfl (fun a' w' F' E' => o_move (F'.ev rfl) ⟨Ext.refl _ _, rfl⟩) ?_
      refine mK hok rfl rfl (fun a' w' F' E' => o_move (F'.ev rfl) ⟨Ext.refl _ _, rfl⟩) ?_
      refine mKG hok rfl rfl rfl rfl (fun a' w' F' E' => o_load1 (M1.later E') (F'.ev rfl) (by repeat (first | exact .here | apply Has.there)) (by first | assumption | rfl) ⟨Ext.refl _ _, rfl⟩) ?_
      refine mKG hok rfl rfl rfl rfl (fun a' w' F' E' => o_move (F'.ev rfl) ⟨Ext.refl _ _, rfl⟩) ?_
      refine mKG hok rfl rfl rfl rfl (fun a' w' F' E' => o_indexSl (F'.ev rfl) (F'.ev rfl) (by omega) (by omega) ⟨Ext.refl _ _, rfl⟩) ?_
      refine mKG hok rfl rfl rfl rfl (fun a' w' F' E' => o_fieldAddr (F'.ev rfl) ⟨Ext.refl _ _, rfl⟩) ?_
      refine mKG hok rfl rfl rfl rfl (fun a' w' F' E' => o_load1 (M1.later E') (F'.ev rfl) (by repeat (first | exact .here | apply Has.there)) (by first | assumption | rfl) ⟨Ext.refl _ _, rfl⟩) ?_
      refine mKG hok rfl rfl rfl rfl (fun a' w' F' E' => o_fieldAddr (F'.ev rfl) ⟨Ext.refl _ _, rfl⟩) ?_
      refine mKG hok rfl rfl rfl rfl (fun a' w' F' E' => o_load1 (M1.later E') (F'.ev rfl) (by repeat (first | exact .here | apply Has.there)) (by first | assumption | rfl) ⟨Ext.refl _ _, rfl⟩) ?_
      refine mKG hok rfl rfl rfl rfl (fun a' w' F' E' => o_gtrF (F'.ev rfl) (F'.ev rfl) (by omega) ⟨Ext.refl _ _, rfl⟩) ?_
      refine mK hok rfl rfl (fun a' w' F' E' => o_pickT (F'.ev rfl) (F'.ev rfl) ⟨Ext.refl _ _, rfl⟩) ?_
      (refine mDone rfl rfl ?_; clear F; clear M; intro a w F hE2 hX hTT hDD hPP; have M := M1.later hE2; clear M1; clear hX; clear hE2; clear hok; clear hE; clear hTT; clear hDD; clear hPP; (try dsimp only at F))
      refine stepD rfl F rfl (o_assign (F.ev rfl) ?_); clear F; clear a; intro a F
      with_reducible refine l_nil ?_
      with_reducible refine q_then ?_
      refine c_false F rfl rfl ?_
      with_reducible refine c_seq ?_
      replace F := F.only [11, 10, 8, 5] rfl
      by_cases c7 : z.o.h.ver = x.o.h.ver
      · rw [if_pos c7] at hins
        refine c_draw 11 F (by kernel_rfl) ?_
        intro w1 hE hok
        have M1 := M.later hE
        refine mK hok rfl rfl (fun a' w' F' E' => o_move (F'.ev rfl) ⟨Ext.refl _ _, rfl⟩) ?_
        refine mK hok rfl rfl (fun a' w' F' E' => o_move (F'.ev rfl) ⟨Ext.refl _ _, rfl⟩) ?_
        refine mKG hok rfl rfl rfl rfl (fun a' w' F' E' => o_load1 (M1.later E') (F'.ev rfl) (by repeat (first | exact .here | apply Has.there)) (by first | assumption | rfl) ⟨Ext.refl _ _, rfl⟩) ?_
        refine mKG hok rfl rfl rfl rfl (fun a' w' F' E' => o_move (F'.ev rfl) ⟨Ext.refl _ _, rfl⟩) ?_
        refine mKG hok rfl rfl rfl rfl (fun a' w' F' E' => o_indexSl (F'.ev rfl) (F'.ev rfl) (by omega) (by omega) ⟨Ext.refl _ _, rfl⟩) ?_
        refine mKG hok rfl rfl rfl rfl (fun a' w' F' E' => o_fieldAddr (F'.ev rfl) ⟨Ext.refl _ _, rfl⟩) ?_
        refine mKG hok rfl rfl rfl rfl (fun a' w' F' E' => o_load1 (M1.later E') (F'.ev rfl) (by repeat (first | exact .here | apply Has.there)) (by first | assumption | rfl) ⟨Ext.refl _ _, rfl⟩) ?_
        refine mKG hok rfl rfl rfl rfl (fun a' w' F' E' => o_fieldAddr (F'.ev rfl) ⟨Ext.refl _ _, rfl⟩) ?_
        refine mKG hok rfl rfl rfl rfl (fun a' w' F' E' => o_load1 (M1.later E') (F'.ev rfl) (by repeat (first | exact .here | apply Has.there)) (by first | assumption | rfl) ⟨Ext.refl _ _, rfl⟩) ?_
        refine mKG hok rfl rfl rfl rfl (fun a' w' F' E' => o_eqlT (F'.ev rfl) (F'.ev rfl) (by omega) ⟨Ext.refl _ _, rfl⟩) ?_
        refine mK hok rfl rfl (fun a' w' F' E' => o_pickT (F'.ev rfl) (F'.ev rfl) ⟨Ext.refl _ _, rfl⟩) ?_
        (refine mDone rfl rfl ?_; clear F; clear M; intro a w F hE2 hX hTT hDD hPP; have M := M1.later hE2; clear M1; clear hX; clear hE2; clear hok; clear hE; clear hTT; clear hDD; clear hPP; (try dsimp only at F))
        refine stepD rfl F rfl (o_assign (F.ev rfl) ?_); clear F; clear a; intro a F
        with_reducible refine l_nil ?_
        with_reducible refine q_then ?_
        refine c_true F rfl rfl ?_
        replace F := F.only [11, 10, 8, 5] rfl
        have hpt : put (ovC zs[i]) 17 [.int .i64 (if z.o.h.til < x.o.h.til then x.o.h.til else z.o.h.til)] = some (ovC ⟨later2 z.o x.o, z.u, z.v⟩) := by rw [← hz0]; exact of_put_til hzo'.1 z.u z.v _
        refine c_draw 10 F (by kernel_rfl) ?_
        intro w1 hE hok
        have M1 := M.later hE
        refine mK hok rfl rfl (fun a' w' F' E' => o_load1 (M1.later E') (F'.ev rfl) (by repeat (first | exact .here | apply Has.there)) (by first | assumption | rfl) ⟨Ext.refl _ _, rfl⟩) ?_
        refine mK hok rfl rfl (fun a' w' F' E' => o_move (F'.ev rfl) ⟨Ext.refl _ _, rfl⟩) ?_
        refine mK hok rfl rfl (fun a' w' F' E' => o_load1 (M1.later E') (F'.ev rfl) (by repeat (first | exact .here | apply Has.there)) (by first | assumption | rfl) ⟨Ext.refl _ _, rfl⟩) ?_
        refine mK hok rfl rfl (fun a' w' F' E' => o_move (F'.ev rfl) ⟨Ext.refl _ _, rfl⟩) ?_
        refine mK hok rfl rfl (fun a' w' F' E' => o_indexSl (F'.ev rfl) (F'.ev rfl) (by omega) (by omega) ⟨Ext.refl _ _, rfl⟩) ?_
        refine mK hok rfl rfl (fun a' w' F' E' => o_fieldAddr (F'.ev rfl) ⟨Ext.refl _ _, rfl⟩) ?_
        refine mK hok rfl rfl (fun a' w' F' E' => o_load1 (M1.later E') (F'.ev rfl) (by repeat (first | exact .here | apply Has.there)) (by first | assumption | rfl) ⟨Ext.refl _ _, rfl⟩) ?_
        refine mK hok rfl rfl (fun a' w' F' E' => o_fieldAddr (F'.ev rfl) ⟨Ext.refl _ _, rfl⟩) ?_
        refine mK hok rfl rfl (fun a' w' F' E' => o_load1 (M1.later E') (F'.ev rfl) (by repeat (first | exact .here | apply Has.there)) (by first | assumption | rfl) ⟨Ext.refl _ _, rfl⟩) ?_
        refine mK hok rfl rfl (fun a' w' F' E' => o_max (F'.ev rfl) (F'.ev rfl) ⟨Ext.refl _ _, rfl⟩) ?_
        (refine mDone rfl rfl ?_; clear F; clear M; intro a w F hE2 hX hTT hDD hPP; have M := M1.later hE2; clear M1; clear hX; clear hE2; clear hok; clear hE; clear hTT; clear hDD; clear hPP; (try dsimp only at F))
        refine stepD rfl F rfl (o_indexSl (F.ev rfl) (F.ev rfl) (by omega) (by omega) ?_); clear F; clear a; intro a F
        refine stepD rfl F rfl (o_fieldAddr (F.ev rfl) ?_); clear F; clear a; intro a F
        (refine stepN rfl F (o_store1 M (F.ev rfl) (F.ev rfl) rfl (by repeat (first | exact .here | apply Has.there)) (encL_put hszs junk hil hpt (by omega)) (by repeat (first | exact .here | apply Upd.there)) ?_); clear F; clear M; intro w M a F)
        with_reducible refine l_nil ?_
        refine ⟨zs.set i ⟨later2 z.o x.o, z.u, z.v⟩, _, [(bO, _)], inn, by rw [hins, List.map_set], .inr ⟨bO, sc, junk, by rw [List.length_set], rfl, ?_, by rw [List.length_set]; exact hjl, by rw [List.length_set]; exact hnc⟩, ?_, F.only [8] rfl, (M.perm (l' := ((D, .deferred (some [])) :: (b8, .cells [.slice (some ⟨bO, 0, none⟩) zs.length sc].toArray 52 (0, 0)) :: ([(bO, .cells (encL ovC (zs.set i ⟨later2 z.o x.o, z.u, z.v⟩) ++ junk).toArray 58 (0, 0))] ++ inn)) ++ ((b5, .cells (ovC x).toArray 58 (0, 0)) :: p)) (by classical exact List.perm_iff_count.2 fun _ => by simp only [List.count_append, List.count_cons, List.count_nil, Nat.add_zero, Nat.zero_add] <;> ac_rfl)).sub (List.sublist_append_left _ _)⟩
        · rw [encL_len fun y hy => (List.mem_or_eq_of_mem_set hy).elim (hszs y) fun h => by rw [h]; exact ov_len (x := ⟨later2 z.o x.o, z.u, z.v⟩) (show IsOff (later2 z.o x.o) from ⟨hzo'.1, hzo'.2⟩)]
        · intro y hy
          rcases List.mem_or_eq_of_mem_set hy with h | h
          · exact hI y h
          · rw [h]; exact hI z hzm
      · rw [if_neg c7] at hins
        refine c_draw 11 F (by kernel_rfl) ?_
        intro w1 hE hok
        have M1 := M.later hE
        refine mK hok rfl rfl (fun a' w' F' E' => o_move (F'.ev rfl) ⟨Ext.refl _ _, rfl⟩) ?_
        refine mK hok rfl rfl (fun a' w' F' E' => o_move (F'.ev rfl) ⟨Ext.refl _ _, rfl⟩) ?_
        refine mKG hok rfl rfl rfl rfl (fun a' w' F' E' => o_load1 (M1.later E') (F'.ev rfl) (by repeat (first | exact .here | apply Has.there)) (by first | assumption | rfl) ⟨Ext.refl _ _, rfl⟩) ?_
        refine mKG hok rfl rfl rfl rfl (fun a' w' F' E' => o_move (F'.ev rfl) ⟨Ext.refl _ _, rfl⟩) ?_
        refine mKG hok rfl rfl rfl rfl (fun a' w' F' E' => o_indexSl (F'.ev rfl) (F'.ev rfl) (by omega) (by omega) ⟨Ext.refl _ _, rfl⟩) ?_
        refine mKG hok rfl rfl rfl rfl (fun a' w' F' E' => o_fieldAddr (F'.ev rfl) ⟨Ext.refl _ _, rfl⟩) ?_
        refine mKG hok rfl rfl rfl rfl (fun a' w' F' E' => o_load1 (M1.later E') (F'.ev rfl) (by repeat (first | exact .here | apply Has.there)) (by first | assumption | rfl) ⟨Ext.refl _ _, rfl⟩) ?_
        refine mKG hok rfl rfl rfl rfl (fun a' w' F' E' => o_fieldAddr (F'.ev rfl) ⟨Ext.refl _ _, rfl⟩) ?_
        refine mKG hok rfl rfl rfl rfl (fun a' w' F' E' => o_load1 (M1.later E') (F'.ev rfl) (by repeat (first | exact .here | apply Has.there)) (by first | assumption | rfl) ⟨Ext.refl _ _, rfl⟩) ?_
        refine mKG hok rfl rfl rfl rfl (fun a' w' F' E' => o_eqlF (F'.ev rfl) (F'.ev rfl) (by omega) ⟨Ext.refl _ _, rfl⟩) ?_
        refine mK hok rfl rfl (fun a' w' F' E' => o_pickT (F'.ev rfl) (F'.ev rfl) ⟨Ext.refl _ _, rfl⟩) ?_
        (refine mDone rfl rfl ?_; clear F; clear M; intro a w F hE2 hX hTT hDD hPP; have M := M1.later hE2; clear M1; clear hX; clear hE2; clear hok; clear hE; clear hTT; clear hDD; clear hPP; (try dsimp only at F))
        refine stepD rfl F rfl (o_assign (F.ev rfl) ?_); clear F; clear a; intro a F
        with_reducible refine l_nil ?_
        with_reducible refine q_then ?_
        refine c_false F rfl rfl ?_
        with_reducible refine c_seq ?_
        with_reducible refine c_region ?_
        refine stepD rfl F rfl (o_move (F.ev rfl) ?_); clear F; clear a; intro a F
        refine stepD rfl F rfl (o_assign (F.ev rfl) ?_); clear F; clear a; intro a F
        with_reducible refine l_nil ?_
        with_reducible refine q_then ?_
        refine c_true F rfl rfl ?_
        replace F := F.only [10, 8, 5] rfl
        refine c_draw 4 F (by kernel_rfl) ?_
        intro w1 hE hok
        have M1 := M.later hE
        refine mK hok rfl rfl (fun a' w' F' E' => o_load1 (M1.later E') (F'.ev rfl) (by repeat (first | exact .here | apply Has.there)) (by first | assumption | rfl) ⟨Ext.refl _ _, rfl⟩) ?_
        refine mK hok rfl rfl (fun a' w' F' E' => o_move (F'.ev rfl) ⟨Ext.refl _ _, rfl⟩) ?_
        refine mK hok rfl rfl (fun a' w' F' E' => o_loadA (M1.later E') (F'.ev rfl) (by repeat (first | exact .here | apply Has.there)) (by first | assumption | rfl) ⟨Ext.refl _ _, rfl⟩) ?_
        refine mX (V := NewP w1.heap.size (PhC x.o)) hok rfl rfl (NewP.stays _ _) (fun a' w' F' E' D' => o_call (F'.ev rfl) (F'.evs rfl) (Cal.mono (copyN_c x hxo (by omega) (by omega) _ (hxa.later (M1.later E').ext)) fun _ _ hh => newP_of E' hh)) ?_
        (refine mDone rfl rfl ?_; clear F; clear M; intro a w F hE2 hX hTT hDD hPP; have M := M1.later hE2; (try dsimp only at F); obtain ⟨new, hΦ, hN⟩ := hX 3 _ rfl; replace M := M.joinNew M1 hN; obtain ⟨u, v2, eu, ev, hr, hO1, hO2, rfl⟩ := hΦ; replace F := F.know (d := 90) hr; clear hr; clear hN; clear M1; clear hX; clear hE2; clear hok; clear hE; clear hTT; clear hDD; clear hPP)
        have hone : (ovC ⟨x.o, u, v2⟩).all (·.oneCell') = true := of_one _ _ _ hO1.one hO2.one
        have hlen2 : (ovC ⟨x.o, u, v2⟩).length = 20 := ov_len (x := ⟨x.o, u, v2⟩) hxo
        have hpt : put (ovC zs[i]) 0 (ovC ⟨x.o, u, v2⟩) = some (ovC ⟨x.o, u, v2⟩) := put_all (by rw [hlen2, ← hz0]; exact hszs z hzm)
        replace M := M.perm (l' := (bO, .cells (encL ovC zs ++ junk).toArray 58 (0, 0)) :: (b8, .cells [.slice (some ⟨bO, 0, none⟩) zs.length sc].toArray 52 (0, 0)) :: (b5, .cells (ovC x).toArray 58 (0, 0)) :: (D, .deferred (some [])) :: ((eu ++ ev) ++ (inn ++ p))) (by classical exact List.perm_iff_count.2 fun _ => by simp only [List.count_append, List.count_cons, List.count_nil, Nat.add_zero, Nat.zero_add] <;> ac_rfl)
        refine stepD rfl F rfl (o_indexSl (F.ev rfl) (F.ev rfl) (by omega) (by omega) ?_); clear F; clear a; intro a F
        (refine stepN rfl F (o_storeA M (F.ev rfl) (F.ev rfl) (hlen2) hone  (by repeat (first | exact .here | apply Has.there))  (encL_put hszs junk hil hpt (by omega)) (by repeat (first | exact .here | apply Upd.there)) ?_); clear F; clear M; intro w M a F)
        with_reducible refine l_nil ?_
        refine ⟨zs.set i ⟨x.o, u, v2⟩, _, [(bO, _)], (eu ++ ev) ++ inn, by rw [hins, List.map_set], .inr ⟨bO, sc, junk, by rw [List.length_set], rfl, ?_, by rw [List.length_set]; exact hjl, by rw [List.length_set]; exact hnc⟩, ?_, F.only [8] rfl, (M.perm (l' := ((D, .deferred (some [])) :: (b8, .cells [.slice (some ⟨bO, 0, none⟩) zs.length sc].toArray 52 (0, 0)) :: ([(bO, .cells (encL ovC (zs.set i ⟨x.o, u, v2⟩) ++ junk).toArray 58 (0, 0))] ++ ((eu ++ ev) ++ inn))) ++ ((b5, .cells (ovC x).toArray 58 (0, 0)) :: p)) (by classical exact List.perm_iff_count.2 fun _ => by simp only [List.count_append, List.count_cons, List.count_nil, Nat.add_zero, Nat.zero_add] <;> ac_rfl)).sub (List.sublist_append_left _ _)⟩
        · rw [encL_len fun y hy => (List.mem_or_eq_of_mem_set hy).elim (hszs y) fun h => by rw [h]; exact hlen2]
        · intro y hy
          rcases List.mem_or_eq_of_mem_set hy with h | h
          · exact (hI y h).mono fun p hp => by simp [hp]
          · rw [h]
            exact ⟨eu, ev, hO1, hO2, fun p hp => by simp [hp], fun p hp => by simp [hp]⟩
    · have hf : foundAt zs x.o.h.rt i = false := by
        by_cases hil : i < zs.length
        · rw [foundAt_at hil, decide_eq_false fun h => hfd ⟨hil, h⟩]
        · simp [foundAt, List.getElem?_eq_none (show zs.length ≤ i by omega)]
      have hins2 : insO x.o (curO (xs.map (·.o)) now) = some ((zs.map (·.o)).take i ++ x.o :: (zs.map (·.o)).drop i) := by
        rw [hins]
        by_cases hil : i < zs.length
        · rw [dif_pos hil, if_neg fun h => hfd ⟨hil, h⟩]
        · rw [dif_neg hil]
      clear hins
      rw [hf] at F
      refine c_draw 11 F (by kernel_rfl) ?_
      intro w1 hE hok
      have M1 := M.later hE
      refine mK hok rfl rfl (fun a' w' F' E' => o_move (F'.ev rfl) ⟨Ext.refl _ _, rfl⟩) ?_
      refine mK hok rfl rfl (fun a' w' F' E' => o_move (F'.ev rfl) ⟨Ext.refl _ _, rfl⟩) ?_
      refine mOff hok rfl rfl rfl rfl rfl ?_
      refine mOff hok rfl rfl rfl rfl rfl ?_
      refine mOff hok rfl rfl rfl rfl rfl ?_
      refine mOff hok rfl rfl rfl rfl rfl ?_
      refine mOff hok rfl rfl rfl rfl rfl ?_
      refine mOff hok rfl rfl rfl rfl rfl ?_
      refine mOff hok rfl rfl rfl rfl rfl ?_
      refine mOff hok rfl rfl rfl rfl rfl ?_
      refine mK hok rfl rfl (fun a' w' F' E' => o_pickF (F'.ev rfl) (F'.ev rfl) ⟨Ext.refl _ _, rfl⟩) ?_
      (refine mDone rfl rfl ?_; clear F; clear M; intro a w F hE2 hX hTT hDD hPP; have M := M1.later hE2; clear M1; clear hX; clear hE2; clear hok; clear hE; clear hTT; clear hDD; clear hPP; (try dsimp only at F))
      refine stepD rfl F rfl (o_assign (F.ev rfl) ?_); clear F; clear a; intro a F
      with_reducible refine l_nil ?_
      with_reducible refine q_then ?_
      refine c_false F rfl rfl ?_
      with_reducible refine c_seq ?_
      replace F := F.only [11, 10, 8, 5] rfl
      refine c_draw 11 F (by kernel_rfl) ?_
      intro w1 hE hok
      have M1 := M.later hE
      refine mK hok rfl rfl (fun a' w' F' E' => o_move (F'.ev rfl) ⟨Ext.refl _ _, rfl⟩) ?_
      refine mK hok rfl rfl (fun a' w' F' E' => o_move (F'.ev rfl) ⟨Ext.refl _ _, rfl⟩) ?_
      refine mOff hok rfl rfl rfl rfl rfl ?_
      refine mOff hok rfl rfl rfl rfl rfl ?_
      refine mOff hok rfl rfl rfl rfl rfl ?_
      refine mOff hok rfl rfl rfl rfl rfl ?_
      refine mOff hok rfl rfl rfl rfl rfl ?_
      refine mOff hok rfl rfl rfl rfl rfl ?_
      refine mOff hok rfl rfl rfl rfl rfl ?_
      refine mOff hok rfl rfl rfl rfl rfl ?_
      refine mK hok rfl rfl (fun a' w' F' E' => o_pickF (F'.ev rfl) (F'.ev rfl) ⟨Ext.refl _ _, rfl⟩) ?_
      (refine mDone rfl rfl ?_; clear F; clear M; intro a w F hE2 hX hTT hDD hPP; have M := M1.later hE2; clear M1; clear hX; clear hE2; clear hok; clear hE; clear hTT; clear hDD; clear hPP; (try dsimp only at F))
      refine stepD rfl F rfl (o_assign (F.ev rfl) ?_); clear F; clear a; intro a F
      with_reducible refine l_nil ?_
      with_reducible refine q_then ?_
      refine c_false F rfl rfl ?_
      with_reducible refine c_seq ?_
      with_reducible refine c_region ?_
      refine stepD rfl F rfl (o_move (F.ev rfl) ?_); clear F; clear a; intro a F
      refine stepD rfl F rfl (o_assign (F.ev rfl) ?_); clear F; clear a; intro a F
      with_reducible refine l_nil ?_
      with_reducible refine q_then ?_
      refine c_false F rfl rfl ?_
      replace F := F.only [10, 8, 5] rfl
      refine c_draw 5 F (by kernel_rfl) ?_
      intro w1 hE hok
      have M1 := M.later hE
      refine mK hok rfl rfl (fun a' w' F' E' => o_load1 (M1.later E') (F'.ev rfl) (by repeat (first | exact .here | apply Has.there)) (by first | assumption | rfl) ⟨Ext.refl _ _, rfl⟩) ?_
      refine mK hok rfl rfl (fun a' w' F' E' => o_move (F'.ev rfl) ⟨Ext.refl _ _, rfl⟩) ?_
      refine mK hok rfl rfl (fun a' w' F' E' => o_loadA (M1.later E') (F'.ev rfl) (by repeat (first | exact .here | apply Has.there)) (by first | assumption | rfl) ⟨Ext.refl _ _, rfl⟩) ?_
      refine mX (V := NewP w1.heap.size (PhC x.o)) hok rfl rfl (NewP.stays _ _) (fun a' w' F' E' D' => o_call (F'.ev rfl) (F'.evs rfl) (Cal.mono (copyN_c x hxo (by omega) (by omega) _ (hxa.later (M1.later E').ext)) fun _ _ hh => newP_of E' hh)) ?_
      refine mX (V := NewP w1.heap.size (PhS x.o)) hok rfl rfl (NewP.stays _ _) (fun a' w' F' E' D' => bs1 hxo F' E' (D' 3 (memDep rfl) _ rfl)) ?_
      (refine mDone rfl rfl ?_; clear F; clear M; intro a w F hE2 hX hTT hDD hPP; have M := M1.later hE2; (try dsimp only at F); obtain ⟨new, hΦ, hN⟩ := hX 4 _ rfl; replace M := M.joinNew M1 hN; obtain ⟨b3, u, v2, eu, ev, hr, hO1, hO2, rfl⟩ := hΦ; replace F := F.know (d := 47) hr; clear hr; clear hN; clear M1; clear hX; clear hE2; clear hok; clear hE; clear hTT; clear hDD; clear hPP)
      have hone : (ovC ⟨x.o, u, v2⟩).all (·.oneCell') = true := of_one _ _ _ hO1.one hO2.one
      have hlen2 : (ovC ⟨x.o, u, v2⟩).length = 20 := ov_len (x := ⟨x.o, u, v2⟩) hxo
      replace M := M.perm (l' := (b3, .cells (ovC ⟨x.o, u, v2⟩).toArray 58 (0, 0)) :: (b8, .cells [.slice sp zs.length sc].toArray 52 (0, 0)) :: (b5, .cells (ovC x).toArray 58 (0, 0)) :: (D, .deferred (some [])) :: ((eu ++ ev) ++ (inn ++ (p ++ ent)))) (by classical exact List.perm_iff_count.2 fun _ => by simp only [List.count_append, List.count_cons, List.count_nil, Nat.add_zero, Nat.zero_add] <;> ac_rfl)
      (refine stepD rfl F rfl (o_call (F.ev rfl) (F.evs rfl) (Cal.mono (insertOf_c i hPle (vb := b3) (ovC ⟨x.o, u, v2⟩) hlen2 (encL_all fun z hz => (hI z hz).one) hone _ M hO (.cons (.cons (.cons (.cons (.app (.app (.app .here))))))) .here (fun q hq e => (List.nodup_cons.1 M.nd).1 (List.mem_map.2 ⟨q, by simp [hq], e⟩)) (by omega)) ?_)); clear F; clear a; clear M; rintro sv2 w ⟨ent2, hO9, M⟩ a F)
      obtain ⟨sp2, sc2, rfl⟩ := hO9.slice
      have hlz : (zs.take i ++ (⟨x.o, u, v2⟩ : OV) :: zs.drop i).length = zs.length + 1 := by simp; omega
      (refine stepN rfl F (o_store1 M (F.ev rfl) (F.ev rfl) rfl (by repeat (first | exact .here | apply Has.there)) (by rfl) (by repeat (first | exact .here | apply Upd.there)) ?_); clear F; clear M; intro w M a F)
      with_reducible refine l_nil ?_
      refine ⟨zs.take i ++ (⟨x.o, u, v2⟩ : OV) :: zs.drop i, .slice sp2 (zs.length + 1) sc2, ent2, (eu ++ ev) ++ inn, by rw [hins2]; simp, ?_, ?_, F.only [8] rfl, (M.perm (l' := ((D, .deferred (some [])) :: (b8, .cells [.slice sp2 (zs.length + 1) sc2].toArray 52 (0, 0)) :: (ent2 ++ ((eu ++ ev) ++ inn))) ++ ((b3, .cells (ovC ⟨x.o, u, v2⟩).toArray 58 (0, 0)) :: (b5, .cells (ovC x).toArray 58 (0, 0)) :: p)) (by classical exact List.perm_iff_count.2 fun _ => by simp only [List.count_append, List.count_cons, List.count_nil, Nat.add_zero, Nat.zero_add] <;> ac_rfl)).sub (List.sublist_append_left _ _)⟩
      · rw [hlz, encL_app, encL_cons, ← encL_take hszs, ← encL_drop hszs]; exact hO9
      · intro y hy
        rcases List.mem_append.1 hy with h | h
        · exact (hI y (List.mem_of_mem_take h)).mono fun p hp => by simp [hp]
        · rcases List.mem_cons.1 h with h | h
          · rw [h]
            exact ⟨eu, ev, hO1, hO2, fun p hp => by simp [hp], fun p hp => by simp [hp]⟩
          · exact (hI y (List.mem_of_mem_drop h)).mono fun p hp => by simp [hp]
end Go.Proofs.Ytainnefmobfcjaa
/-! FB -/
namespace Go.Proofs.Ytainnefmobfcjaa
set_option linter.unusedVariables false
set_option linter.unusedSimpArgs false
open Go.RowKit
attribute [local irreducible] OpTo wpListIn Code.wpIn MW Cal
/-- how far the reference has come -/
def Pl (o : Off) (placed : Bool) (out pre rest : List Off) : Prop :=
  if placed then insO o (pre ++ rest) = some (out ++ rest) ∧ ∀ y ∈ rest, 0 < cmpL y.h.rt o.h.rt
  else out = pre ∧ ∀ y ∈ pre, cmpL y.h.rt o.h.rt < 0
theorem insO_pre {o : Off} : ∀ {pre : List Off} (r : List Off), (∀ y ∈ pre, cmpL y.h.rt o.h.rt < 0) → insO o (pre ++ r) = (insO o r).map (pre ++ ·)
  | [], r, _ => by simp
  | y :: pre, r, h => by
    have ih := insO_pre r fun z hz => h z (List.mem_cons_of_mem _ hz)
    simp only [List.cons_append, insO, if_pos (h y List.mem_cons_self), ih, Option.map_map]
    rfl
theorem cmpL_pos {a b c : List Int} (h1 : 0 ≤ cmpL a c) (h2 : cmpL a b < 0) : 0 < cmpL b c := by
  rcases Int.lt_trichotomy (cmpL b c) 0 with h | h | h
  · exact absurd (cmpL_lt_trans h2 h) (by omega)
  · rw [cmpL_zero h] at h2; omega
  · exact h
theorem Pl.skip {o : Off} {placed : Bool} {out pre rest : List Off} (h : Pl o placed out pre rest) : Pl o placed out (pre ++ []) rest := by simpa using h
theorem Pl.lo {o y : Off} {out pre rest : List Off} (h : Pl o false out pre (y :: rest)) (hk : cmpL y.h.rt o.h.rt < 0) : Pl o false (out ++ [y]) (pre ++ [y]) rest := by
  simp only [Pl, Bool.false_eq_true, if_false] at *
  refine ⟨by rw [h.1], fun z hz => ?_⟩
  rcases List.mem_append.1 hz with h1 | h1
  · exact h.2 z h1
  · simp only [List.mem_singleton] at h1; rw [h1]; exact hk
theorem Pl.new {o y : Off} {out pre rest : List Off} (h : Pl o false out pre (y :: rest)) (ha : Asc (y :: rest)) (hk : cmpL y.h.rt o.h.rt = 0) (hv : ¬ o.h.ver < y.h.ver) (hv2 : ¬ y.h.ver = o.h.ver) : Pl o true (out ++ [o]) (pre ++ [y]) rest := by
  simp only [Pl, Bool.false_eq_true, if_false, if_true] at *
  refine ⟨?_, fun z hz => cmpL_pos (by omega) ((List.pairwise_cons.1 ha).1 z hz)⟩
  rw [List.append_assoc, insO_pre _ h.2, h.1]
  simp [insO, hk, hv, hv2]
theorem Pl.hi {o y : Off} {out pre rest : List Off} (h : Pl o false out pre (y :: rest)) (ha : Asc (y :: rest)) (hk : 0 < cmpL y.h.rt o.h.rt) : Pl o true ((out ++ [o]) ++ [y]) (pre ++ [y]) rest := by
  simp only [Pl, Bool.false_eq_true, if_false, if_true] at *
  refine ⟨?_, fun z hz => cmpL_pos (by omega) ((List.pairwise_cons.1 ha).1 z hz)⟩
  rw [List.append_assoc, insO_pre _ h.2, h.1]
  simp [insO, show ¬ cmpL y.h.rt o.h.rt < 0 by omega, show ¬ cmpL y.h.rt o.h.rt = 0 by omega]
theorem Pl.on {o y : Off} {out pre rest : List Off} (h : Pl o true out pre (y :: rest)) : Pl o true (out ++ [y]) (pre ++ [y]) rest := by
  simp only [Pl, if_true] at *
  exact ⟨by simpa using h.1, fun z hz => h.2 z (List.mem_cons_of_mem _ hz)⟩
theorem Pl.end {o : Off} {out pre : List Off} (h : Pl o false out pre []) : insO o pre = some (out ++ [o]) := by
  simp only [Pl, Bool.false_eq_true, if_false] at h
  have := insO_pre [] h.2
  rw [List.append_nil] at this
  rw [this, h.1]; rfl
end Go.Proofs.Ytainnefmobfcjaa
/-! FC -/
namespace Go.Proofs.Ytainnefmobfcjaa
set_option linter.unusedVariables false
set_option linter.unusedSimpArgs false
open Go.RowKit
attribute [local irreducible] OpTo wpListIn Code.wpIn MW Cal
set_option maxHeartbeats 2000000 in
theorem equalPi_c (ps : List PInf) (hps : ∀ p ∈ ps, IsPi p) (hlen : ps.length ≤ 1000) (u v : Value) (W : World) (hu : SlAt W 20 u ps.length (pisC ps)) (hv : SlAt W 20 v ps.length (pisC ps)) :
    Cal Try.prog 66 [u, v].toArray W fun r w' => r = .bool true ∧ Ext [] W w' := by
  obtain ⟨q1, cap1, rfl, hc1, hn1, hl1, hm1⟩ := hu
  obtain ⟨q2, cap2, rfl, hc2, hn2, hl2, hm2⟩ := hv
  refine fn_ofM (n := 26) [] Try.func66 rfl rfl rfl ?_
  intro a w F M hwW
  with_reducible refine c_seq ?_
  with_reducible refine c_region ?_
  refine stepD rfl F rfl (o_assign (F.ev rfl) ?_); clear F; clear a; intro a F
  with_reducible refine l_nil ?_
  with_reducible refine q_then ?_
  with_reducible refine c_seq ?_
  with_reducible refine c_seq ?_
  with_reducible refine c_region ?_
  refine stepD rfl F rfl (o_move (F.ev rfl) ?_); clear F; clear a; intro a F
  refine stepD rfl F rfl (o_lenSl (F.ev rfl) ?_); clear F; clear a; intro a F
  refine stepD rfl F rfl (o_move (F.ev rfl) ?_); clear F; clear a; intro a F
  refine stepD rfl F rfl (o_lenSl (F.ev rfl) ?_); clear F; clear a; intro a F
  refine stepD rfl F rfl (o_neqF (F.ev rfl) (F.ev rfl) (by omega) ?_); clear F; clear a; intro a F
  with_reducible refine l_nil ?_
  with_reducible refine q_then ?_
  refine c_false F rfl rfl ?_
  with_reducible refine c_skip ?_
  with_reducible refine q_then ?_
  with_reducible refine c_seq ?_
  with_reducible refine c_seq ?_
  with_reducible refine c_region ?_
  refine stepD rfl F rfl (o_move (F.ev rfl) ?_); clear F; clear a; intro a F
  refine stepD rfl F rfl (o_lenSl (F.ev rfl) ?_); clear F; clear a; intro a F
  refine stepD rfl F rfl (o_move (F.ev rfl) ?_); clear F; clear a; intro a F
  with_reducible refine l_nil ?_
  with_reducible refine q_then ?_
  with_reducible refine c_block ?_
  refine c_loop (fun m a w => ∃ i : Nat, m = ps.length - i ∧ i ≤ ps.length ∧ Frm a 26 [] [(13, .int .i64 i), (12, .int .i64 ps.length), (0, .slice q1 ps.length cap1), (1, .slice q2 ps.length cap2)] ∧ Mem [] W w []) ps.length ⟨0, rfl, by omega, F.only [13, 12, 0, 1] rfl, M⟩ ?_
  clear F M
  rintro m a w ⟨i, hm', hi, F, M⟩
  by_cases hlt : i < ps.length
  · obtain ⟨b, o, cs, t, fz, rfl, hb, hs⟩ := hm1 (by omega)
    obtain ⟨b', o', cs', t', fz', rfl, hb', hs'⟩ := hm2 (by omega)
    obtain ⟨p, hp0⟩ : ∃ p, p = ps[i] := ⟨_, rfl⟩
    have hpi : IsPi p := by rw [hp0]; exact hps _ (List.getElem_mem hlt)
    have f1 : seg cs (o + (i : Int).toNat * 20) 20 = some (piC p) := by rw [hp0]; exact seg_el (pis_len hps) hs hlt (by omega)
    have f2 : seg cs' (o' + (i : Int).toNat * 20) 20 = some (piC p) := by rw [hp0]; exact seg_el (pis_len hps) hs' hlt (by omega)
    have f3 := pi_fits hpi
    have f4 : eqVs (piC p) (piC p) = true := by rw [pi_eq hpi hpi]; simp
    with_reducible refine c_seq ?_
    with_reducible refine c_region ?_
    refine stepD rfl F rfl (o_lssT (F.ev rfl) (F.ev rfl) (by omega) ?_); clear F; clear a; intro a F
    with_reducible refine l_nil ?_
    with_reducible refine q_then ?_
    with_reducible refine c_seq ?_
    refine c_true F rfl rfl ?_
    with_reducible refine c_skip ?_
    with_reducible refine q_then ?_
    with_reducible refine c_seq ?_
    with_reducible refine c_block ?_
    with_reducible refine c_seq ?_
    with_reducible refine c_region ?_
    refine stepD rfl F rfl (o_move (F.ev rfl) ?_); clear F; clear a; intro a F
    refine stepD rfl F rfl (o_assign (F.ev rfl) ?_); clear F; clear a; intro a F
    with_reducible refine l_nil ?_
    with_reducible refine q_then ?_
    with_reducible refine c_seq ?_
    replace F := F.only [13, 12, 0, 1, 5] rfl
    refine c_draw 8 F (by kernel_rfl) ?_
    intro w1 hE hok
    have M1 := M.later hE
    refine mK hok rfl rfl (fun a' w' F' E' => o_move (F'.ev rfl) ⟨Ext.refl _ _, rfl⟩) ?_
    refine mK hok rfl rfl (fun a' w' F' E' => o_move (F'.ev rfl) ⟨Ext.refl _ _, rfl⟩) ?_
    refine mK hok rfl rfl (fun a' w' F' E' => o_indexSl (F'.ev rfl) (F'.ev rfl) (by omega) (by omega) ⟨Ext.refl _ _, rfl⟩) ?_
    refine mK hok rfl rfl (fun a' w' F' E' => o_loadWA (M1.later E') (F'.ev rfl) (by assumption) (by first | assumption | rfl) ⟨Ext.refl _ _, rfl⟩) ?_
    refine mK hok rfl rfl (fun a' w' F' E' => o_move (F'.ev rfl) ⟨Ext.refl _ _, rfl⟩) ?_
    refine mK hok rfl rfl (fun a' w' F' E' => o_move (F'.ev rfl) ⟨Ext.refl _ _, rfl⟩) ?_
    refine mK hok rfl rfl (fun a' w' F' E' => o_indexSl (F'.ev rfl) (F'.ev rfl) (by omega) (by omega) ⟨Ext.refl _ _, rfl⟩) ?_
    refine mK hok rfl rfl (fun a' w' F' E' => o_loadWA (M1.later E') (F'.ev rfl) (by assumption) (by first | assumption | rfl) ⟨Ext.refl _ _, rfl⟩) ?_
    (refine mDone rfl rfl ?_; clear F; clear M; intro a w F hE2 hX hTT hDD hPP; have M := M1.later hE2; clear M1; clear hX; clear hE2; clear hok; clear hE; clear hTT; clear hDD; clear hPP; (try dsimp only at F))
    refine stepD rfl F rfl (o_neqAF (F.ev rfl) (F.ev rfl) (by first | assumption | rfl) (by first | assumption | rfl) (by assumption) ?_); clear F; clear a; intro a F
    with_reducible refine l_nil ?_
    with_reducible refine q_then ?_
    refine c_false F rfl rfl ?_
    with_reducible refine c_skip ?_
    with_reducible refine q_inB ?_
    with_reducible refine q_then ?_
    with_reducible refine c_region ?_
    refine stepD rfl F rfl (o_add (F.ev rfl) (F.ev rfl) (w_i64 (by omega) (by omega)) ?_); clear F; clear a; intro a F
    refine stepD rfl F rfl (o_move (F.ev rfl) ?_); clear F; clear a; intro a F
    with_reducible refine l_nil ?_
    with_reducible refine q_then ?_
    exact ⟨_, by omega, i + 1, rfl, by omega, F.only [13, 12, 0, 1] rfl, M⟩
  · obtain rfl : i = ps.length := by omega
    with_reducible refine c_seq ?_
    with_reducible refine c_region ?_
    refine stepD rfl F rfl (o_lssF (F.ev rfl) (F.ev rfl) (by omega) ?_); clear F; clear a; intro a F
    with_reducible refine l_nil ?_
    with_reducible refine q_then ?_
    with_reducible refine c_seq ?_
    refine c_false F rfl rfl ?_
    with_reducible refine c_exit ?_
    with_reducible refine q_thenX ?_
    with_reducible refine q_thenX ?_
    with_reducible refine q_inBX ?_
    with_reducible refine q_then ?_
    with_reducible refine c_seq ?_
    with_reducible refine c_region ?_
    refine stepD rfl F rfl (o_assign (F.ev rfl) ?_); clear F; clear a; intro a F
    with_reducible refine l_nil ?_
    with_reducible refine q_then ?_
    with_reducible refine c_ret ?_
    refine p_ret F rfl (.cons (.tmp (F.ev rfl)) .nil) ?_
    exact ⟨rfl, M.ext⟩
set_option maxHeartbeats 2000000 in
theorem equalCi_c (ps : List CInf) (hps : ∀ p ∈ ps, IsCi p) (hlen : ps.length ≤ 1000) (u v : Value) (W : World) (hu : SlAt W 20 u ps.length (cisC ps)) (hv : SlAt W 20 v ps.length (cisC ps)) :
    Cal Try.prog 67 [u, v].toArray W fun r w' => r = .bool true ∧ Ext [] W w' := by
  obtain ⟨q1, cap1, rfl, hc1, hn1, hl1, hm1⟩ := hu
  obtain ⟨q2, cap2, rfl, hc2, hn2, hl2, hm2⟩ := hv
  refine fn_ofM (n := 26) [] Try.func67 rfl rfl rfl ?_
  intro a w F M hwW
  with_reducible refine c_seq ?_
  with_reducible refine c_region ?_
  refine stepD rfl F rfl (o_assign (F.ev rfl) ?_); clear F; clear a; intro a F
  with_reducible refine l_nil ?_
  with_reducible refine q_then ?_
  with_reducible refine c_seq ?_
  with_reducible refine c_seq ?_
  with_reducible refine c_region ?_
  refine stepD rfl F rfl (o_move (F.ev rfl) ?_); clear F; clear a; intro a F
  refine stepD rfl F rfl (o_lenSl (F.ev rfl) ?_); clear F; clear a; intro a F
  refine stepD rfl F rfl (o_move (F.ev rfl) ?_); clear F; clear a; intro a F
  refine stepD rfl F rfl (o_lenSl (F.ev rfl) ?_); clear F; clear a; intro a F
  refine stepD rfl F rfl (o_neqF (F.ev rfl) (F.ev rfl) (by omega) ?_); clear F; clear a; intro a F
  with_reducible refine l_nil ?_
  with_reducible refine q_then ?_
  refine c_false F rfl rfl ?_
  with_reducible refine c_skip ?_
  with_reducible refine q_then ?_
  with_reducible refine c_seq ?_
  with_reducible refine c_seq ?_
  with_reducible refine c_region ?_
  refine stepD rfl F rfl (o_move (F.ev rfl) ?_); clear F; clear a; intro a F
  refine stepD rfl F rfl (o_lenSl (F.ev rfl) ?_); clear F; clear a; intro a F
  refine stepD rfl F rfl (o_move (F.ev rfl) ?_); clear F; clear a; intro a F
  with_reducible refine l_nil ?_
  with_reducible refine q_then ?_
  with_reducible refine c_block ?_
  refine c_loop (fun m a w => ∃ i : Nat, m = ps.length - i ∧ i ≤ ps.length ∧ Frm a 26 [] [(13, .int .i64 i), (12, .int .i64 ps.length), (0, .slice q1 ps.length cap1), (1, .slice q2 ps.length cap2)] ∧ Mem [] W w []) ps.length ⟨0, rfl, by omega, F.only [13, 12, 0, 1] rfl, M⟩ ?_
  clear F M
  rintro m a w ⟨i, hm', hi, F, M⟩
  by_cases hlt : i < ps.length
  · obtain ⟨b, o, cs, t, fz, rfl, hb, hs⟩ := hm1 (by omega)
    obtain ⟨b', o', cs', t', fz', rfl, hb', hs'⟩ := hm2 (by omega)
    obtain ⟨p, hp0⟩ : ∃ p, p = ps[i] := ⟨_, rfl⟩
    have hpi : IsCi p := by rw [hp0]; exact hps _ (List.getElem_mem hlt)
    have f1 : seg cs (o + (i : Int).toNat * 20) 20 = some (ciC p) := by rw [hp0]; exact seg_el (cis_len hps) hs hlt (by omega)
    have f2 : seg cs' (o' + (i : Int).toNat * 20) 20 = some (ciC p) := by rw [hp0]; exact seg_el (cis_len hps) hs' hlt (by omega)
    have f3 := ci_fits hpi
    have f4 : eqVs (ciC p) (ciC p) = true := by rw [ci_eq hpi hpi]; simp
    with_reducible refine c_seq ?_
    with_reducible refine c_region ?_
    refine stepD rfl F rfl (o_lssT (F.ev rfl) (F.ev rfl) (by omega) ?_); clear F; clear a; intro a F
    with_reducible refine l_nil ?_
    with_reducible refine q_then ?_
    with_reducible refine c_seq ?_
    refine c_true F rfl rfl ?_
    with_reducible refine c_skip ?_
    with_reducible refine q_then ?_
    with_reducible refine c_seq ?_
    with_reducible refine c_block ?_
    with_reducible refine c_seq ?_
    with_reducible refine c_region ?_
    refine stepD rfl F rfl (o_move (F.ev rfl) ?_); clear F; clear a; intro a F
    refine stepD rfl F rfl (o_assign (F.ev rfl) ?_); clear F; clear a; intro a F
    with_reducible refine l_nil ?_
    with_reducible refine q_then ?_
    with_reducible refine c_seq ?_
    replace F := F.only [13, 12, 0, 1, 5] rfl
    refine c_draw 8 F (by kernel_rfl) ?_
    intro w1 hE hok
    have M1 := M.later hE
    refine mK hok rfl rfl (fun a' w' F' E' => o_move (F'.ev rfl) ⟨Ext.refl _ _, rfl⟩) ?_
    refine mK hok rfl rfl (fun a' w' F' E' => o_move (F'.ev rfl) ⟨Ext.refl _ _, rfl⟩) ?_
    refine mK hok rfl rfl (fun a' w' F' E' => o_indexSl (F'.ev rfl) (F'.ev rfl) (by omega) (by omega) ⟨Ext.refl _ _, rfl⟩) ?_
    refine mK hok rfl rfl (fun a' w' F' E' => o_loadWA (M1.later E') (F'.ev rfl) (by assumption) (by first | assumption | rfl) ⟨Ext.refl _ _, rfl⟩) ?_
    refine mK hok rfl rfl (fun a' w' F' E' => o_move (F'.ev rfl) ⟨Ext.refl _ _, rfl⟩) ?_
    refine mK hok rfl rfl (fun a' w' F' E' => o_move (F'.ev rfl) ⟨Ext.refl _ _, rfl⟩) ?_
    refine mK hok rfl rfl (fun a' w' F' E' => o_indexSl (F'.ev rfl) (F'.ev rfl) (by omega) (by omega) ⟨Ext.refl _ _, rfl⟩) ?_
    refine mK hok rfl rfl (fun a' w' F' E' => o_loadWA (M1.later E') (F'.ev rfl) (by assumption) (by first | assumption | rfl) ⟨Ext.refl _ _, rfl⟩) ?_
    (refine mDone rfl rfl ?_; clear F; clear M; intro a w F hE2 hX hTT hDD hPP; have M := M1.later hE2; clear M1; clear hX; clear hE2; clear hok; clear hE; clear hTT; clear hDD; clear hPP; (try dsimp only at F))
    refine stepD rfl F rfl (o_neqAF (F.ev rfl) (F.ev rfl) (by first | assumption | rfl) (by first | assumption | rfl) (by assumption) ?_); clear F; clear a; intro a F
    with_reducible refine l_nil ?_
    with_reducible refine q_then ?_
    refine c_false F rfl rfl ?_
    with_reducible refine c_skip ?_
    with_reducible refine q_inB ?_
    with_reducible refine q_then ?_
    with_reducible refine c_region ?_
    refine stepD rfl F rfl (o_add (F.ev rfl) (F.ev rfl) (w_i64 (by omega) (by omega)) ?_); clear F; clear a; intro a F
    refine stepD rfl F rfl (o_move (F.ev rfl) ?_); clear F; clear a; intro a F
    with_reducible refine l_nil ?_
    with_reducible refine q_then ?_
    exact ⟨_, by omega, i + 1, rfl, by omega, F.only [13, 12, 0, 1] rfl, M⟩
  · obtain rfl : i = ps.length := by omega
    with_reducible refine c_seq ?_
    with_reducible refine c_region ?_
    refine stepD rfl F rfl (o_lssF (F.ev rfl) (F.ev rfl) (by omega) ?_); clear F; clear a; intro a F
    with_reducible refine l_nil ?_
    with_reducible refine q_then ?_
    with_reducible refine c_seq ?_
    refine c_false F rfl rfl ?_
    with_reducible refine c_exit ?_
    with_reducible refine q_thenX ?_
    with_reducible refine q_thenX ?_
    with_reducible refine q_inBX ?_
    with_reducible refine q_then ?_
    with_reducible refine c_seq ?_
    with_reducible refine c_region ?_
    refine stepD rfl F rfl (o_assign (F.ev rfl) ?_); clear F; clear a; intro a F
    with_reducible refine l_nil ?_
    with_reducible refine q_then ?_
    with_reducible refine c_ret ?_
    refine p_ret F rfl (.cons (.tmp (F.ev rfl)) .nil) ?_
    exact ⟨rfl, M.ext⟩
set_option maxHeartbeats 2000000 in
theorem sameOffer_c (x y : OV) (hx : IsOff x.o) (he : x.o = y.o) (h1 : x.o.ps.length ≤ 1000) (h2 : x.o.cs.length ≤ 1000) (W : World) (hA : OffAt W x) (hB : OffAt W y) :
    Cal Try.prog 33 [.agg (ovC x).toArray, .agg (ovC y).toArray].toArray W fun r w' => r = .bool true ∧ Ext [] W w' := by
  obtain ⟨o, u, v⟩ := x
  obtain ⟨o', u', v'⟩ := y
  dsimp only at he hx h1 h2
  subst he
  have e1 : seg (ovC ⟨o, u, v⟩) 0 16 = some (ipC o.h.rt) := of_rt hx.1 _ _
  have e2 : nth (ovC ⟨o, u, v⟩) 16 = some (.int .i64 o.h.ver) := of_ver hx.1 _ _
  have e3 : nth (ovC ⟨o, u, v⟩) 17 = some (.int .i64 o.h.til) := of_til hx.1 _ _
  have e4 : nth (ovC ⟨o, u, v⟩) 18 = some u := of_ps hx.1 _ _
  have e5 : nth (ovC ⟨o, u, v⟩) 19 = some v := of_cs hx.1 _ _
  have g1 : seg (ovC ⟨o, u', v'⟩) 0 16 = some (ipC o.h.rt) := of_rt hx.1 _ _
  have g2 : nth (ovC ⟨o, u', v'⟩) 16 = some (.int .i64 o.h.ver) := of_ver hx.1 _ _
  have g3 : nth (ovC ⟨o, u', v'⟩) 17 = some (.int .i64 o.h.til) := of_til hx.1 _ _
  have g4 : nth (ovC ⟨o, u', v'⟩) 18 = some u' := of_ps hx.1 _ _
  have g5 : nth (ovC ⟨o, u', v'⟩) 19 = some v' := of_cs hx.1 _ _
  have f1 := fits_ipS hx.1.len
  have f2 := eqVs_ipS o.h.rt
  refine fn_ofM (n := 38) [] Try.func33 rfl rfl rfl ?_
  intro a w F M hwW
  refine c_seq ?_
  refine c_region ?_
  (refine stepD rfl F rfl (o_box M (F.ev rfl) rfl ?_); clear F; clear M; intro b2 w M a F)
  (refine stepD rfl F rfl (o_box M (F.ev rfl) rfl ?_); clear F; clear M; intro b3 w M a F)
  refine stepD rfl F rfl (o_assign (F.ev rfl) ?_); clear F; clear a; intro a F
  with_reducible refine l_nil ?_
  with_reducible refine q_then ?_
  with_reducible refine c_seq ?_
  with_reducible refine c_region ?_
  refine stepD rfl F rfl (o_fieldAddr (F.ev rfl) ?_); clear F; clear a; intro a F
  refine stepD rfl F rfl (o_loadA M (F.ev rfl) (by repeat (first | exact .here | apply Has.there)) (by first | assumption | rfl) ?_); clear F; clear a; intro a F
  refine stepD rfl F rfl (o_fieldAddr (F.ev rfl) ?_); clear F; clear a; intro a F
  refine stepD rfl F rfl (o_loadA M (F.ev rfl) (by repeat (first | exact .here | apply Has.there)) (by first | assumption | rfl) ?_); clear F; clear a; intro a F
  refine stepD rfl F rfl (o_eqlAT (F.ev rfl) (F.ev rfl) (by first | assumption | rfl) (by first | assumption | rfl) (by assumption) ?_); clear F; clear a; intro a F
  refine stepD rfl F rfl (o_move (F.ev rfl) ?_); clear F; clear a; intro a F
  refine stepG rfl F rfl rfl rfl (o_fieldAddr (F.ev rfl) ?_); clear F; clear a; intro a F
  refine stepG rfl F rfl rfl rfl (o_load1 M (F.ev rfl) (by repeat (first | exact .here | apply Has.there)) (by first | assumption | rfl) ?_); clear F; clear a; intro a F
  refine stepG rfl F rfl rfl rfl (o_fieldAddr (F.ev rfl) ?_); clear F; clear a; intro a F
  refine stepG rfl F rfl rfl rfl (o_load1 M (F.ev rfl) (by repeat (first | exact .here | apply Has.there)) (by first | assumption | rfl) ?_); clear F; clear a; intro a F
  refine stepG rfl F rfl rfl rfl (o_eqlT (F.ev rfl) (F.ev rfl) (by omega) ?_); clear F; clear a; intro a F
  refine stepD rfl F rfl (o_pickT (F.ev rfl) (F.ev rfl) ?_); clear F; clear a; intro a F
  refine stepD rfl F rfl (o_move (F.ev rfl) ?_); clear F; clear a; intro a F
  refine stepG rfl F rfl rfl rfl (o_fieldAddr (F.ev rfl) ?_); clear F; clear a; intro a F
  refine stepG rfl F rfl rfl rfl (o_load1 M (F.ev rfl) (by repeat (first | exact .here | apply Has.there)) (by first | assumption | rfl) ?_); clear F; clear a; intro a F
  refine stepG rfl F rfl rfl rfl (o_fieldAddr (F.ev rfl) ?_); clear F; clear a; intro a F
  refine stepG rfl F rfl rfl rfl (o_load1 M (F.ev rfl) (by repeat (first | exact .here | apply Has.there)) (by first | assumption | rfl) ?_); clear F; clear a; intro a F
  refine stepG rfl F rfl rfl rfl (o_eqlT (F.ev rfl) (F.ev rfl) (by omega) ?_); clear F; clear a; intro a F
  refine stepD rfl F rfl (o_pickT (F.ev rfl) (F.ev rfl) ?_); clear F; clear a; intro a F
  refine stepD rfl F rfl (o_move (F.ev rfl) ?_); clear F; clear a; intro a F
  refine stepG rfl F rfl rfl rfl (o_fieldAddr (F.ev rfl) ?_); clear F; clear a; intro a F
  refine stepG rfl F rfl rfl rfl (o_load1 M (F.ev rfl) (by repeat (first | exact .here | apply Has.there)) (by first | assumption | rfl) ?_); clear F; clear a; intro a F
  refine stepG rfl F rfl rfl rfl (o_fieldAddr (F.ev rfl) ?_); clear F; clear a; intro a F
  refine stepG rfl F rfl rfl rfl (o_load1 M (F.ev rfl) (by repeat (first | exact .here | apply Has.there)) (by first | assumption | rfl) ?_); clear F; clear a; intro a F
  (refine stepG rfl F rfl rfl rfl (o_call (F.ev rfl) (F.evs rfl) (Cal.mono (equalPi_c o.ps hx.2.1 h1 _ _ _ (hA.1.later M.ext) (hB.1.later M.ext)) ?_)); clear F; clear a; rintro _ w ⟨rfl, hE⟩ a F; replace M := M.later hE; clear hE)
  refine stepD rfl F rfl (o_pickT (F.ev rfl) (F.ev rfl) ?_); clear F; clear a; intro a F
  refine stepD rfl F rfl (o_move (F.ev rfl) ?_); clear F; clear a; intro a F
  refine stepG rfl F rfl rfl rfl (o_fieldAddr (F.ev rfl) ?_); clear F; clear a; intro a F
  refine stepG rfl F rfl rfl rfl (o_load1 M (F.ev rfl) (by repeat (first | exact .here | apply Has.there)) (by first | assumption | rfl) ?_); clear F; clear a; intro a F
  refine stepG rfl F rfl rfl rfl (o_fieldAddr (F.ev rfl) ?_); clear F; clear a; intro a F
  refine stepG rfl F rfl rfl rfl (o_load1 M (F.ev rfl) (by repeat (first | exact .here | apply Has.there)) (by first | assumption | rfl) ?_); clear F; clear a; intro a F
  (refine stepG rfl F rfl rfl rfl (o_call (F.ev rfl) (F.evs rfl) (Cal.mono (equalCi_c o.cs hx.2.2 h2 _ _ _ (hA.2.later M.ext) (hB.2.later M.ext)) ?_)); clear F; clear a; rintro _ w ⟨rfl, hE⟩ a F; replace M := M.later hE; clear hE)
  refine stepD rfl F rfl (o_pickT (F.ev rfl) (F.ev rfl) ?_); clear F; clear a; intro a F
  refine stepD rfl F rfl (o_assign (F.ev rfl) ?_); clear F; clear a; intro a F
  with_reducible refine l_nil ?_
  with_reducible refine q_then ?_
  with_reducible refine c_ret ?_
  refine p_ret F rfl (.cons (.tmp (F.ev rfl)) .nil) ?_
  exact ⟨rfl, M.ext⟩
end Go.Proofs.Ytainnefmobfcjaa
/-! FE -/
namespace Go.Proofs.Ytainnefmobfcjaa
set_option linter.unusedVariables false
set_option linter.unusedSimpArgs false
open Go.RowKit
attribute [local irreducible] OpTo wpListIn Code.wpIn MW Cal
theorem base_c {bt : Nat} {p : Option Addr} {len cap k : Nat} {xs : List Int} (W : World) (hT : TapeS W bt p len xs) (hb : W.heap[bt]? = some (tobj p len cap k)) :
    Cal Try.prog 24 [.pointer (some ⟨bt, 0, none⟩)].toArray W fun v w' => ∃ x k', v = .int .i64 x ∧ (0 ≤ x ∧ x ≤ 1099511627776) ∧ Mem [bt] W w' [(bt, tobj p len cap k')] := by
  refine fn_ofM (n := 16) [bt] Try.func24 rfl rfl rfl ?_
  intro a w F M hwW
  replace M := M.came hwW hb (by simp) (by simp)
  with_reducible refine c_seq ?_
  with_reducible refine c_region ?_
  refine stepD rfl F rfl (o_assign (F.ev rfl) ?_); clear F; clear a; intro a F
  with_reducible refine l_nil ?_
  with_reducible refine q_then ?_
  with_reducible refine c_seq ?_
  with_reducible refine c_seq ?_
  with_reducible refine c_region ?_
  refine stepD rfl F rfl (o_move (F.ev rfl) ?_); clear F; clear a; intro a F
  (refine stepD rfl F rfl (o_call (F.ev rfl) (F.evs rfl) (Cal.mono (nextE_c 6 (by omega) (by omega) _ (hT.later M.ext) (M.heap .here) ) ?_)); clear F; clear a; have M0 := M; clear M; rintro _ w ⟨x, k', rfl, hx, N⟩ a F)
  replace M := M0.turn1 N .here
  clear M0
  by_cases c1 : x = 0
  · with_reducible refine l_nil ?_
    with_reducible refine q_then ?_
    with_reducible refine c_block ?_
    with_reducible refine c_seq ?_
    with_reducible refine c_region ?_
    refine stepD rfl F rfl (o_eqlT (F.ev rfl) (F.ev rfl) (by omega) ?_); clear F; clear a; intro a F
    refine stepD rfl F rfl (o_assign (F.ev rfl) ?_); clear F; clear a; intro a F
    with_reducible refine l_nil ?_
    with_reducible refine q_then ?_
    refine c_true F rfl rfl ?_
    with_reducible refine c_seq ?_
    with_reducible refine c_region ?_
    refine stepD rfl F rfl (o_move (F.ev rfl) ?_); clear F; clear a; intro a F
    (refine stepD rfl F rfl (o_call (F.ev rfl) (F.evs rfl) (Cal.mono (nextE_c 5 (by omega) (by omega) _ (hT.later M.ext) (M.heap .here) ) ?_)); clear F; clear a; have M0 := M; clear M; rintro _ w ⟨x2, k2, rfl, hx2, N⟩ a F)
    replace M := M0.turn1 N .here
    refine stepD rfl F rfl (o_assign (F.ev rfl) ?_); clear F; clear a; intro a F
    with_reducible refine l_nil ?_
    with_reducible refine q_then ?_
    with_reducible refine c_ret ?_
    with_reducible refine q_inBR ?_
    with_reducible refine q_thenR ?_
    refine p_ret F rfl (.cons (.tmp (F.ev rfl)) .nil) ?_
    exact ⟨_, k2, rfl, by omega, M⟩
  by_cases c2 : x = 1
  · with_reducible refine l_nil ?_
    with_reducible refine q_then ?_
    with_reducible refine c_block ?_
    with_reducible refine c_seq ?_
    with_reducible refine c_region ?_
    refine stepD rfl F rfl (o_eqlF (F.ev rfl) (F.ev rfl) (by omega) ?_); clear F; clear a; intro a F
    refine stepD rfl F rfl (o_assign (F.ev rfl) ?_); clear F; clear a; intro a F
    with_reducible refine l_nil ?_
    with_reducible refine q_then ?_
    refine c_false F rfl rfl ?_
    with_reducible refine c_seq ?_
    with_reducible refine c_region ?_
    refine stepD rfl F rfl (o_eqlT (F.ev rfl) (F.ev rfl) (by omega) ?_); clear F; clear a; intro a F
    refine stepD rfl F rfl (o_assign (F.ev rfl) ?_); clear F; clear a; intro a F
    with_reducible refine l_nil ?_
    with_reducible refine q_then ?_
    refine c_true F rfl rfl ?_
    with_reducible refine c_seq ?_
    with_reducible refine c_region ?_
    refine stepD rfl F rfl (o_move (F.ev rfl) ?_); clear F; clear a; intro a F
    (refine stepD rfl F rfl (o_call (F.ev rfl) (F.evs rfl) (Cal.mono (nextE_c 40 (by omega) (by omega) _ (hT.later M.ext) (M.heap .here) ) ?_)); clear F; clear a; have M0 := M; clear M; rintro _ w ⟨x2, k2, rfl, hx2, N⟩ a F)
    replace M := M0.turn1 N .here
    refine stepD rfl F rfl (o_sub (F.ev rfl) (F.ev rfl) (w_i64 (by omega) (by omega)) ?_); clear F; clear a; intro a F
    refine stepD rfl F rfl (o_assign (F.ev rfl) ?_); clear F; clear a; intro a F
    with_reducible refine l_nil ?_
    with_reducible refine q_then ?_
    with_reducible refine c_ret ?_
    with_reducible refine q_inBR ?_
    with_reducible refine q_thenR ?_
    refine p_ret F rfl (.cons (.tmp (F.ev rfl)) .nil) ?_
    exact ⟨_, k2, rfl, by omega, M⟩
  · with_reducible refine l_nil ?_
    with_reducible refine q_then ?_
    with_reducible refine c_block ?_
    with_reducible refine c_seq ?_
    with_reducible refine c_region ?_
    refine stepD rfl F rfl (o_eqlF (F.ev rfl) (F.ev rfl) (by omega) ?_); clear F; clear a; intro a F
    refine stepD rfl F rfl (o_assign (F.ev rfl) ?_); clear F; clear a; intro a F
    with_reducible refine l_nil ?_
    with_reducible refine q_then ?_
    refine c_false F rfl rfl ?_
    with_reducible refine c_seq ?_
    with_reducible refine c_region ?_
    refine stepD rfl F rfl (o_eqlF (F.ev rfl) (F.ev rfl) (by omega) ?_); clear F; clear a; intro a F
    refine stepD rfl F rfl (o_assign (F.ev rfl) ?_); clear F; clear a; intro a F
    with_reducible refine l_nil ?_
    with_reducible refine q_then ?_
    refine c_false F rfl rfl ?_
    with_reducible refine c_skip ?_
    with_reducible refine q_inB ?_
    with_reducible refine q_then ?_
    with_reducible refine c_seq ?_
    with_reducible refine c_region ?_
    refine stepD rfl F rfl (o_move (F.ev rfl) ?_); clear F; clear a; intro a F
    (refine stepD rfl F rfl (o_call (F.ev rfl) (F.evs rfl) (Cal.mono (nextE_c 1000 (by omega) (by omega) _ (hT.later M.ext) (M.heap .here) ) ?_)); clear F; clear a; have M0 := M; clear M; rintro _ w ⟨x2, k2, rfl, hx2, N⟩ a F)
    replace M := M0.turn1 N .here
    refine stepD rfl F rfl (o_assign (F.ev rfl) ?_); clear F; clear a; intro a F
    with_reducible refine l_nil ?_
    with_reducible refine q_then ?_
    with_reducible refine c_ret ?_
    refine p_ret F rfl (.cons (.tmp (F.ev rfl)) .nil) ?_
    exact ⟨_, k2, rfl, by omega, M⟩
end Go.Proofs.Ytainnefmobfcjaa
/-! FF -/
namespace Go.Proofs.Ytainnefmobfcjaa
set_option linter.unusedVariables false
set_option linter.unusedSimpArgs false
open Go.RowKit
attribute [local irreducible] OpTo wpListIn Code.wpIn MW Cal
def wip0 (xs : List Int) (k : Nat) : List Int := [32, 1, 13, 184, 0, nxV xs k 2, nxV xs (nxK xs k) 2, 0, 0, 0, 0, 0, 0, 0, 0, nxV xs (nxK xs (nxK xs k)) 6]
def wip4 (xs : List Int) (k : Nat) : Nat := nxK xs (nxK xs (nxK xs (nxK xs k)))
def wipV (xs : List Int) (k : Nat) : List Int := if boolV xs (nxK xs (nxK xs (nxK xs k))) 9 then (wip0 xs k).set (nxV xs (wip4 xs k) 16).toNat (bitsOf .xor .u8 ((wip0 xs k).getD (nxV xs (wip4 xs k) 16).toNat 0) (IntKind.u8.wrap (1 * 2 ^ min (nxV xs (nxK xs (wip4 xs k)) 8).toNat IntKind.u8.bits))) else wip0 xs k
def wipK (xs : List Int) (k : Nat) : Nat := if boolV xs (nxK xs (nxK xs (nxK xs k))) 9 then nxK xs (nxK xs (wip4 xs k)) else wip4 xs k
theorem wip0_is (xs : List Int) (k : Nat) : IsIP (wip0 xs k) := by
  have h1 := nxV_bd xs k (n := 2) (by omega)
  have h2 := nxV_bd xs (nxK xs k) (n := 2) (by omega)
  have h3 := nxV_bd xs (nxK xs (nxK xs k)) (n := 6) (by omega)
  exact ⟨rfl, by intro x hx; simp [wip0] at hx; omega⟩
theorem wipV_is (xs : List Int) (k : Nat) : IsIP (wipV xs k) := by
  unfold wipV
  split
  · exact (wip0_is xs k).set _ (xor8_bd _ _).1 (xor8_bd _ _).2
  · exact wip0_is xs k
set_option maxHeartbeats 1000000 in
theorem wipD_c {bt : Nat} {p : Option Addr} {len cap k : Nat} {xs : List Int} (W : World) (hT : TapeS W bt p len xs) (hb : W.heap[bt]? = some (tobj p len cap k)) :
    Cal Try.prog 10 [.pointer (some ⟨bt, 0, none⟩)].toArray W fun v w' => v = .agg (ipC (wipV xs k)).toArray ∧ Mem [bt] W w' [(bt, tobj p len cap (wipK xs k))] := by
  refine fn_ofM (n := 28) [bt] Try.func10 rfl rfl rfl ?_
  intro a w F M hwW
  replace M := M.came hwW hb (by simp) (by simp)
  refine c_seq ?_
  refine c_region ?_
  (refine stepD rfl F rfl (o_alloc M ?_); clear F; clear M; intro b2 w M a F)
  with_reducible refine l_nil ?_
  with_reducible refine q_then ?_
  with_reducible refine c_seq ?_
  with_reducible refine c_region ?_
  refine stepD rfl F rfl (o_move (F.ev rfl) ?_); clear F; clear a; intro a F
  (refine stepD rfl F rfl (o_call (F.ev rfl) (F.evs rfl) (Cal.mono (next_c 2 (by omega) (by omega) _ (hT.later M.ext) (M.heap (.there .here)) ) ?_)); clear F; clear a; have M0 := M; clear M; rintro _ w ⟨rfl, N⟩ a F)
  have hx1 := nxV_bd xs k (n := 2) (by omega)
  replace M := M0.turn1 N (.there .here)
  refine stepD rfl F rfl (o_conv (F.ev rfl) (w_u8 (by omega) (by omega)) ?_); clear F; clear a; intro a F
  refine stepD rfl F rfl (o_move (F.ev rfl) ?_); clear F; clear a; intro a F
  (refine stepD rfl F rfl (o_call (F.ev rfl) (F.evs rfl) (Cal.mono (next_c 2 (by omega) (by omega) _ (hT.later M.ext) (M.heap (.there .here)) ) ?_)); clear F; clear a; have M0 := M; clear M; rintro _ w ⟨rfl, N⟩ a F)
  have hx2 := nxV_bd xs (nxK xs k) (n := 2) (by omega)
  replace M := M0.turn1 N (.there .here)
  refine stepD rfl F rfl (o_conv (F.ev rfl) (w_u8 (by omega) (by omega)) ?_); clear F; clear a; intro a F
  refine stepD rfl F rfl (o_build F rfl rfl ?_); clear F; clear a; intro a F
  (refine stepD rfl F rfl (o_alloc M ?_); clear F; clear M; intro b3 w M a F)
  (refine stepN rfl F (o_storeA M (F.ev rfl) (F.ev rfl) (by rfl) (by rfl) (by repeat (first | exact .here | apply Has.there)) (by rfl) (by repeat (first | exact .here | apply Upd.there)) ?_); clear F; clear M; intro w M a F)
  with_reducible refine l_nil ?_
  with_reducible refine q_then ?_
  with_reducible refine c_seq ?_
  with_reducible refine c_region ?_
  refine stepD rfl F rfl (o_move (F.ev rfl) ?_); clear F; clear a; intro a F
  (refine stepD rfl F rfl (o_call (F.ev rfl) (F.evs rfl) (Cal.mono (next_c 6 (by omega) (by omega) _ (hT.later M.ext) (M.heap (.there (.there .here))) ) ?_)); clear F; clear a; have M0 := M; clear M; rintro _ w ⟨rfl, N⟩ a F)
  have hx3 := nxV_bd xs (nxK xs (nxK xs k)) (n := 6) (by omega)
  replace M := M0.turn1 N (.there (.there .here))
  refine stepD rfl F rfl (o_conv (F.ev rfl) (w_u8 (by omega) (by omega)) ?_); clear F; clear a; intro a F
  refine stepD rfl F rfl (o_indexArr (F.ev rfl) (F.ev rfl) (by omega) (by omega) ?_); clear F; clear a; intro a F
  (refine stepN rfl F (o_store1 M (F.ev rfl) (F.ev rfl) rfl (by repeat (first | exact .here | apply Has.there)) (by rfl) (by repeat (first | exact .here | apply Upd.there)) ?_); clear F; clear M; intro w M a F)
  with_reducible refine l_nil ?_
  with_reducible refine q_then ?_
  with_reducible refine c_seq ?_
  with_reducible refine c_seq ?_
  with_reducible refine c_region ?_
  refine stepD rfl F rfl (o_move (F.ev rfl) ?_); clear F; clear a; intro a F
  obtain ⟨ip, hipd, hip, M⟩ : ∃ ip, ip = wip0 xs k ∧ IsIP ip ∧ Mem [bt] W w [(bt, tobj p len cap (nxK xs (nxK xs (nxK xs k)))), (b3, .cells (ipC ip).toArray 26 (0, 0)), (b2, .cells (ipC [0, 0, 0, 0, 0, 0, 0, 0, 0, 0, 0, 0, 0, 0, 0, 0]).toArray 26 (0, 0))] :=
    ⟨wip0 xs k, rfl, ⟨rfl, by intro x hx; simp [wip0] at hx; omega⟩, M.perm ((List.Perm.refl _).trans (List.perm_append_comm (l₁ := [_, _]) (l₂ := [_])))⟩
  (refine stepD rfl F rfl (o_call (F.ev rfl) (F.evs rfl) (Cal.mono (bool_c 9 (by omega) (by omega) _ (hT.later M.ext) (M.heap .here) ) ?_)); clear F; clear a; have M0 := M; clear M; rintro _ w ⟨rfl, N⟩ a F)
  replace M := M0.turn1 N .here
  clear M0
  have e0 : seg (ipC ip) 0 16 = some (ipC ip) := seg_all (ipC_len hip.len)
  rw [show nxK xs (nxK xs (nxK xs (nxK xs k))) = wip4 xs k from rfl] at M
  obtain ⟨k4, hk4⟩ : ∃ k4, k4 = wip4 xs k := ⟨_, rfl⟩
  rw [← hk4] at M
  cases hc : boolV xs (nxK xs (nxK xs (nxK xs k))) 9
  all_goals rw [hc] at F
  · with_reducible refine l_nil ?_
    with_reducible refine q_then ?_
    refine c_false F rfl rfl ?_
    with_reducible refine c_skip ?_
    with_reducible refine q_then ?_
    with_reducible refine c_seq ?_
    with_reducible refine c_region ?_
    refine stepD rfl F rfl (o_loadA M (F.ev rfl) (by repeat (first | exact .here | apply Has.there)) (by first | assumption | rfl) ?_); clear F; clear a; intro a F
    (refine stepN rfl F (o_storeA M (F.ev rfl) (F.ev rfl) (ipC_len hip.len) (one_ip _)  (by repeat (first | exact .here | apply Has.there))  (put_all (by rw [ipC_len hip.len]; rfl)) (by repeat (first | exact .here | apply Upd.there)) ?_); clear F; clear M; intro w M a F)
    with_reducible refine l_nil ?_
    with_reducible refine q_then ?_
    with_reducible refine c_ret ?_
    exact p_ret F rfl (.cons (.cell (F.ev rfl) (run_loadVar_agg TAgg.h (M.heap (.there (.there .here))) e0)) .nil) ⟨by rw [show wipV xs k = ip by rw [hipd]; unfold wipV; rw [if_neg (by simp [hc])]]; rfl, by rw [show wipK xs k = k4 by rw [hk4]; unfold wipK; rw [if_neg (by simp [hc])]]; exact M.sub (.cons_cons _ (.cons _ (.cons _ (.refl _))))⟩
  · replace F := F.only [0, 2, 3, 16] rfl
    have v1 := nxV_bd xs k4 (n := 16) (by omega)
    have v2 := nxV_bd xs (nxK xs k4) (n := 8) (by omega)
    have hib := hip.at_ (nxV xs k4 16).toNat
    have h1 : nth (ipC ip) (0 + (nxV xs k4 16).toNat * 1) = some (.int .u8 (ip.getD (nxV xs k4 16).toNat 0)) := nth_ip2 hip (by omega) (by omega)
    with_reducible refine l_nil ?_
    with_reducible refine q_then ?_
    refine c_true F rfl rfl ?_
    refine c_drawB (l0 := [(bt, tobj p len cap k4)]) [bt] [1, 5] M 9 F (by kernel_rfl) ?_
    intro w1 M1 hok hef
    have hB : ∀ k ∈ [bt], k ∈ ([(bt, tobj p len cap k4)] : List (Nat × Obj)).map (·.1) := by simp
    have hTw : ∀ w', Ext [bt] w1 w' → TapeS w' bt p len xs := fun w' E => hT.later (M1.ext.trans (E.mono (by simp)))
    refine mK hok rfl rfl (fun a' w' F' E' => o_move (F'.ev rfl) ⟨Ext.refl _ _, rfl⟩) ?_
    refine mE (T' := fun _ w => Mem _ _ w ([(bt, tobj p len cap (nxK xs k4))] ++ _)) hok rfl rfl (fun _ _ _ h k => h.later k) (fun a' w' σ' F' E' T' => o_call (F'.ev rfl) (F'.evs rfl) (Cal.mono (next_c 16 (by omega) (by omega) _ (hTw _ E') (T'.heap .here)) fun _ _ hh => ⟨hh.2.ext, hh.1, Mem.turn1 T' hh.2 .here⟩)) ?_
    refine mK hok rfl rfl (fun a' w' F' E' => o_indexArr (F'.ev rfl) (F'.ev rfl) (by omega) (by omega) ⟨Ext.refl _ _, rfl⟩) ?_
    refine mK hok rfl rfl (fun a' w' F' E' => o_load1 (M1.laterBut E' hB) (F'.ev rfl) (by repeat (first | exact .here | apply Has.there)) (by first | assumption | rfl) ⟨Ext.refl _ _, rfl⟩) ?_
    refine mK hok rfl rfl (fun a' w' F' E' => o_move (F'.ev rfl) ⟨Ext.refl _ _, rfl⟩) ?_
    refine mE (T' := fun _ w => Mem _ _ w ([(bt, tobj p len cap (nxK xs (nxK xs k4)))] ++ _)) hok rfl rfl (fun _ _ _ h k => h.later k) (fun a' w' σ' F' E' T' => o_call (F'.ev rfl) (F'.evs rfl) (Cal.mono (next_c 8 (by omega) (by omega) _ (hTw _ E') (T'.heap .here)) fun _ _ hh => ⟨hh.2.ext, hh.1, Mem.turn1 T' hh.2 .here⟩)) ?_
    refine mK hok rfl rfl (fun a' w' F' E' => o_conv (F'.ev rfl) (w_u64 (by omega) (by omega)) ⟨Ext.refl _ _, rfl⟩) ?_
    refine mK hok rfl rfl (fun a' w' F' E' => o_shl (F'.ev rfl) (F'.ev rfl) (by omega) rfl ⟨Ext.refl _ _, rfl⟩) ?_
    refine mK hok rfl rfl (fun a' w' F' E' => o_xor (F'.ev rfl) (F'.ev rfl) rfl ⟨Ext.refl _ _, rfl⟩) ?_
    clear hTw
    (refine mDone rfl hef ?_; clear F; clear M; intro a w F hE2 hX M hDD hPP; clear M1; clear hX; clear hE2; clear hok; clear hef; clear hB; clear hDD; clear hPP; (try dsimp only at F); (try simp only [List.cons_append, List.nil_append] at M))
    have hbd := xor8_bd (ip.getD (nxV xs k4 16).toNat 0) (IntKind.u8.wrap (1 * 2 ^ min (nxV xs (nxK xs k4) 8).toNat IntKind.u8.bits))
    obtain ⟨z, hz⟩ : ∃ z, z = bitsOf BinOp.xor IntKind.u8 (ip.getD (nxV xs k4 16).toNat 0) (IntKind.u8.wrap (1 * 2 ^ min (nxV xs (nxK xs k4) 8).toNat IntKind.u8.bits)) := ⟨_, rfl⟩
    rw [← hz] at F hbd
    refine stepD rfl F rfl (o_indexArr (F.ev rfl) (F.ev rfl) (by omega) (by omega) ?_); clear F; clear a; intro a F
    (refine stepN rfl F (o_store1 M (F.ev rfl) (F.ev rfl) rfl (by repeat (first | exact .here | apply Has.there)) (put1 (q := (nxV xs k4 16).toNat) _ (by omega) (by rw [ipC_len hip.len]; omega)) (by repeat (first | exact .here | apply Upd.there)) ?_); clear F; clear M; intro w M a F)
    rw [← ipC_set] at M
    have hip2 := hip.set (nxV xs k4 16).toNat hbd.1 hbd.2
    obtain ⟨ip2, hi2⟩ : ∃ ip2, ip2 = ip.set (nxV xs k4 16).toNat z := ⟨_, rfl⟩
    rw [← hi2] at M hip2
    have e2 : seg (ipC ip2) 0 16 = some (ipC ip2) := seg_all (ipC_len hip2.len)
    with_reducible refine l_nil ?_
    with_reducible refine q_then ?_
    with_reducible refine c_seq ?_
    with_reducible refine c_region ?_
    refine stepD rfl F rfl (o_loadA M (F.ev rfl) (by repeat (first | exact .here | apply Has.there)) (by first | assumption | rfl) ?_); clear F; clear a; intro a F
    (refine stepN rfl F (o_storeA M (F.ev rfl) (F.ev rfl) (ipC_len hip2.len) (one_ip _)  (by repeat (first | exact .here | apply Has.there))  (put_all (by rw [ipC_len hip2.len]; rfl)) (by repeat (first | exact .here | apply Upd.there)) ?_); clear F; clear M; intro w M a F)
    with_reducible refine l_nil ?_
    with_reducible refine q_then ?_
    with_reducible refine c_ret ?_
    exact p_ret F rfl (.cons (.cell (F.ev rfl) (run_loadVar_agg TAgg.h (M.heap (.there (.there .here))) e2)) .nil) ⟨by rw [show wipV xs k = ip2 by rw [hi2, hz, hipd, hk4]; unfold wipV; rw [if_pos hc]]; rfl, by rw [show wipK xs k = nxK xs (nxK xs k4) by rw [hk4]; unfold wipK; rw [if_pos hc]]; exact M.sub (.cons_cons _ (.cons _ (.cons _ (.refl _))))⟩
end Go.Proofs.Ytainnefmobfcjaa
/-! FG -/
namespace Go.Proofs.Ytainnefmobfcjaa
set_option linter.unusedVariables false
set_option linter.unusedSimpArgs false
open Go.RowKit
attribute [local irreducible] OpTo wpListIn Code.wpIn MW Cal
def wtV (xs : List Int) (k : Nat) (base : Int) : Int := if 0 < (if base + nxV xs k 60 - 30 < 1099511627776 then base + nxV xs k 60 - 30 else 1099511627776) then (if base + nxV xs k 60 - 30 < 1099511627776 then base + nxV xs k 60 - 30 else 1099511627776) else 0
theorem wtime_c {bt : Nat} {p : Option Addr} {len cap k : Nat} {xs : List Int} (base : Int) (h0 : 0 ≤ base) (h1 : base ≤ 1099511627776) (W : World) (hT : TapeS W bt p len xs) (hb : W.heap[bt]? = some (tobj p len cap k)) :
    Cal Try.prog 28 [.pointer (some ⟨bt, 0, none⟩), .int .i64 base].toArray W fun v w' => v = .int .i64 (wtV xs k base) ∧ Mem [bt] W w' [(bt, tobj p len cap (nxK xs k))] := by
  refine fn_ofM (n := 12) [bt] Try.func28 rfl rfl rfl ?_
  intro a w F M hwW
  replace M := M.came hwW hb (by simp) (by simp)
  have hx := nxV_bd xs k (n := 60) (by omega)
  with_reducible refine c_seq ?_
  with_reducible refine c_region ?_
  refine stepD rfl F rfl (o_assign (F.ev rfl) ?_); clear F; clear a; intro a F
  with_reducible refine l_nil ?_
  with_reducible refine q_then ?_
  with_reducible refine c_seq ?_
  with_reducible refine c_region ?_
  refine stepD rfl F rfl (o_move (F.ev rfl) ?_); clear F; clear a; intro a F
  refine stepD rfl F rfl (o_move (F.ev rfl) ?_); clear F; clear a; intro a F
  (refine stepD rfl F rfl (o_call (F.ev rfl) (F.evs rfl) (Cal.mono (next_c 60 (by omega) (by omega) _ (hT.later M.ext) (M.heap .here) ) ?_)); clear F; clear a; have M0 := M; clear M; rintro _ w ⟨rfl, N⟩ a F)
  replace M := M0.turn1 N .here
  clear M0
  refine stepD rfl F rfl (o_add (F.ev rfl) (F.ev rfl) (w_i64 (by omega) (by omega)) ?_); clear F; clear a; intro a F
  refine stepD rfl F rfl (o_sub (F.ev rfl) (F.ev rfl) (w_i64 (by omega) (by omega)) ?_); clear F; clear a; intro a F
  refine stepD rfl F rfl (o_min (F.ev rfl) (F.ev rfl) ?_); clear F; clear a; intro a F
  refine stepD rfl F rfl (o_max (F.ev rfl) (F.ev rfl) ?_); clear F; clear a; intro a F
  refine stepD rfl F rfl (o_assign (F.ev rfl) ?_); clear F; clear a; intro a F
  with_reducible refine l_nil ?_
  with_reducible refine q_then ?_
  with_reducible refine c_ret ?_
  refine p_ret F rfl (.cons (.tmp (F.ev rfl)) .nil) ?_
  exact ⟨rfl, M⟩
theorem nth_tab {k : IntKind} {xs : List Int} {i : Int} (h0 : 0 ≤ i) (h1 : i < xs.length) : nth (xs.map (Value.int k)) (0 + i.toNat * 1) = some (.int k (xs.getD i.toNat 0)) := by
  have h : i.toNat < xs.length := by omega
  rw [nth_spec, show 0 + i.toNat * 1 = i.toNat by omega]
  simp [h]
def tab10 : List Int := [128, 128, 64, 56, 48, 32, 0, 127, 3, 60]
theorem tab10_bd (i : Nat) : 0 ≤ tab10.getD i 0 ∧ tab10.getD i 0 ≤ 128 := by
  rcases Nat.lt_or_ge i 10 with h | h
  · have : ∀ i : Fin 10, 0 ≤ tab10.getD i.val 0 ∧ tab10.getD i.val 0 ≤ 128 := by decide
    exact this ⟨i, h⟩
  · rw [List.getD_eq_getElem?_getD, List.getElem?_eq_none (by simpa [tab10] using h)]
    simp
/-- a prefix off the tape -/
def wpN (xs : List Int) (k : Nat) : Int := if boolV xs (nxK xs k) 7 then nxV xs (nxK xs (nxK xs k)) 129 else tab10.getD (nxV xs k 10).toNat 0
def wpK0 (xs : List Int) (k : Nat) : Nat := if boolV xs (nxK xs k) 7 then nxK xs (nxK xs (nxK xs k)) else nxK xs (nxK xs k)
def wpA (xs : List Int) (k : Nat) : List Int := wipV xs (wpK0 xs k)
def wpK (xs : List Int) (k : Nat) : Nat := wipK xs (wpK0 xs k)
theorem wpN_bd (xs : List Int) (k : Nat) : 0 ≤ wpN xs k ∧ wpN xs k ≤ 128 := by
  have h1 := nxV_bd xs (nxK xs (nxK xs k)) (n := 129) (by omega)
  unfold wpN
  split
  · omega
  · exact tab10_bd _
theorem wpA_is (xs : List Int) (k : Nat) : IsIP (maskI (wpA xs k) (wpN xs k)) := mask_isIP (wipV_is _ _) _
set_option maxHeartbeats 1000000 in
theorem wprefix_c {bt : Nat} {p : Option Addr} {len cap k : Nat} {xs : List Int} (W : World) (hT : TapeS W bt p len xs) (hb : W.heap[bt]? = some (tobj p len cap k)) :
    Cal Try.prog 61 [.pointer (some ⟨bt, 0, none⟩)].toArray W fun v w' => v = .agg (pfC (maskI (wpA xs k) (wpN xs k)) (wpN xs k)).toArray ∧ Mem [bt] W w' [(bt, tobj p len cap (wpK xs k))] := by
  have v1 := nxV_bd xs k (n := 10) (by omega)
  have v3 := nxV_bd xs (nxK xs (nxK xs k)) (n := 129) (by omega)
  have n1 := nth_tab (k := .i64) (xs := tab10) v1.1 (by simpa [tab10] using v1.2)
  have hbd := wpN_bd xs k
  have hcl : clampB (wpN xs k) = wpN xs k := clamp_in hbd.1 hbd.2
  have s3 := seg_pf (maskI_len (wpA xs k) (wpN xs k)) (wpN xs k)
  refine fn_ofM (n := 17) [bt] Try.func61 rfl rfl rfl ?_
  intro a w F M hwW
  replace M := M.came hwW hb (by simp) (by simp)
  refine c_seq ?_
  refine c_region ?_
  (refine stepD rfl F rfl (o_alloc M ?_); clear F; clear M; intro b2 w M a F)
  with_reducible refine l_nil ?_
  with_reducible refine q_then ?_
  with_reducible refine c_seq ?_
  with_reducible refine c_region ?_
  (refine stepD rfl F rfl (o_buildSlice F M rfl rfl rfl rfl ?_); clear F; clear M; intro b4 w M a F)
  refine stepD rfl F rfl (o_move (F.ev rfl) ?_); clear F; clear a; intro a F
  (refine stepD rfl F rfl (o_call (F.ev rfl) (F.evs rfl) (Cal.mono (next_c 10 (by omega) (by omega) _ (hT.later M.ext) (M.heap (.there (.there .here))) ) ?_)); clear F; clear a; have M0 := M; clear M; rintro _ w ⟨rfl, N⟩ a F)
  replace M := M0.turn1 N (.there (.there .here))
  (refine stepD rfl F rfl (o_indexSl (F.ev rfl) (F.ev rfl) (by omega) (by omega) ?_); clear F; clear a; intro a F)
  (refine stepD rfl F rfl (o_load1 M (F.ev rfl) (by repeat (first | exact .here | apply Has.there)) (n1) ?_); clear F; clear a; intro a F)
  refine stepD rfl F rfl (o_assign (F.ev rfl) ?_); clear F; clear a; intro a F
  with_reducible refine l_nil ?_
  with_reducible refine q_then ?_
  with_reducible refine c_seq ?_
  with_reducible refine c_seq ?_
  with_reducible refine c_region ?_
  refine stepD rfl F rfl (o_move (F.ev rfl) ?_); clear F; clear a; intro a F
  (refine stepD rfl F rfl (o_call (F.ev rfl) (F.evs rfl) (Cal.mono (bool_c 7 (by omega) (by omega) _ (hT.later M.ext) (M.heap (.there (.there .here))) ) ?_)); clear F; clear a; have M0 := M; clear M; rintro _ w ⟨rfl, N⟩ a F)
  replace M := M0.turn1 N (.there (.there .here))
  cases hc : boolV xs (nxK xs k) 7
  · rw [hc] at F
    have hN : wpN xs k = tab10.getD (nxV xs k 10).toNat 0 := by unfold wpN; rw [hc]; rfl
    have hK : wpK0 xs k = nxK xs (nxK xs k) := by unfold wpK0; rw [hc]; rfl
    rw [← hK] at M
    rw [← hN] at F
    with_reducible refine l_nil ?_
    with_reducible refine q_then ?_
    refine c_false F rfl rfl ?_
    with_reducible refine c_skip ?_
    with_reducible refine q_then ?_
    with_reducible refine c_seq ?_
    with_reducible refine c_region ?_
    refine stepD rfl F rfl (o_move (F.ev rfl) ?_); clear F; clear a; intro a F
    (refine stepD rfl F rfl (o_call (F.ev rfl) (F.evs rfl) (Cal.mono (wipD_c _ (hT.later M.ext) (M.heap (.there (.there .here))) ) ?_)); clear F; clear a; have M0 := M; clear M; rintro _ w ⟨rfl, N⟩ a F)
    replace M := M0.turn1 N (.there (.there .here))
    refine stepD rfl F rfl (o_move (F.ev rfl) ?_); clear F; clear a; intro a F
    (refine stepD rfl F rfl (o_call (F.ev rfl) (F.evs rfl) (Cal.mono (Cal.to (rmask_c (wpA xs k) (wipV_is _ _) (wpN xs k) _) (by rw [hcl])) ?_)); clear F; clear a; rintro _ w ⟨rfl, hE⟩ a F; replace M := M.later hE; clear hE)
    (refine stepN rfl F (o_storeA M (F.ev rfl) (F.ev rfl) (pfC_len (maskI_len _ _) _) (one_pf _ _)  (by repeat (first | exact .here | apply Has.there))  (put_all (by rw [pfC_len (maskI_len (wpA xs k) (wpN xs k)) (wpN xs k)]; rfl)) (by repeat (first | exact .here | apply Upd.there)) ?_); clear F; clear M; intro w M a F)
    with_reducible refine l_nil ?_
    with_reducible refine q_then ?_
    with_reducible refine c_ret ?_
    refine p_ret F rfl (.cons (.cell (F.ev rfl) (run_loadVar_agg TAgg.h (M.heap (by repeat (first | exact .here | apply Has.there))) s3)) .nil) ⟨rfl, M.sub (by repeat (first | exact List.Sublist.refl _ | apply List.Sublist.cons))⟩
  · rw [hc] at F
    have hN : wpN xs k = nxV xs (nxK xs (nxK xs k)) 129 := by unfold wpN; rw [hc]; rfl
    have hK : wpK0 xs k = nxK xs (nxK xs (nxK xs k)) := by unfold wpK0; rw [hc]; rfl
    with_reducible refine l_nil ?_
    with_reducible refine q_then ?_
    refine c_true F rfl rfl ?_
    with_reducible refine c_region ?_
    refine stepD rfl F rfl (o_move (F.ev rfl) ?_); clear F; clear a; intro a F
    (refine stepD rfl F rfl (o_call (F.ev rfl) (F.evs rfl) (Cal.mono (next_c 129 (by omega) (by omega) _ (hT.later M.ext) (M.heap (.there (.there .here))) ) ?_)); clear F; clear a; have M0 := M; clear M; rintro _ w ⟨rfl, N⟩ a F)
    replace M := M0.turn1 N (.there (.there .here))
    rw [← hK] at M
    rw [← hN] at F
    refine stepD rfl F rfl (o_assign (F.ev rfl) ?_); clear F; clear a; intro a F
    with_reducible refine l_nil ?_
    with_reducible refine q_then ?_
    with_reducible refine c_seq ?_
    with_reducible refine c_region ?_
    refine stepD rfl F rfl (o_move (F.ev rfl) ?_); clear F; clear a; intro a F
    (refine stepD rfl F rfl (o_call (F.ev rfl) (F.evs rfl) (Cal.mono (wipD_c _ (hT.later M.ext) (M.heap (.there (.there .here))) ) ?_)); clear F; clear a; have M0 := M; clear M; rintro _ w ⟨rfl, N⟩ a F)
    replace M := M0.turn1 N (.there (.there .here))
    refine stepD rfl F rfl (o_move (F.ev rfl) ?_); clear F; clear a; intro a F
    (refine stepD rfl F rfl (o_call (F.ev rfl) (F.evs rfl) (Cal.mono (Cal.to (rmask_c (wpA xs k) (wipV_is _ _) (wpN xs k) _) (by rw [hcl])) ?_)); clear F; clear a; rintro _ w ⟨rfl, hE⟩ a F; replace M := M.later hE; clear hE)
    (refine stepN rfl F (o_storeA M (F.ev rfl) (F.ev rfl) (pfC_len (maskI_len _ _) _) (one_pf _ _)  (by repeat (first | exact .here | apply Has.there))  (put_all (by rw [pfC_len (maskI_len (wpA xs k) (wpN xs k)) (wpN xs k)]; rfl)) (by repeat (first | exact .here | apply Upd.there)) ?_); clear F; clear M; intro w M a F)
    with_reducible refine l_nil ?_
    with_reducible refine q_then ?_
    with_reducible refine c_ret ?_
    refine p_ret F rfl (.cons (.cell (F.ev rfl) (run_loadVar_agg TAgg.h (M.heap (by repeat (first | exact .here | apply Has.there))) s3)) .nil) ⟨rfl, M.sub (by repeat (first | exact List.Sublist.refl _ | apply List.Sublist.cons))⟩
end Go.Proofs.Ytainnefmobfcjaa
/-! FH -/
namespace Go.Proofs.Ytainnefmobfcjaa
set_option linter.unusedVariables false
set_option linter.unusedSimpArgs false
open Go.RowKit
attribute [local irreducible] OpTo wpListIn Code.wpIn MW Cal
theorem of_build3 {o : OffH} (h : IsOf o) : putAll [(0, 16), (16, 1), (17, 1), (18, 1), (19, 1)] ofZ [(0, ipC o.rt), (1, [.int .i64 o.ver]), (2, [.int .i64 o.til])] = some (ofC o (.slice none 0 0) (.slice none 0 0)) := by
  obtain ⟨f_rt, f_ver, f_til⟩ := o
  obtain ⟨x0_0, x0_1, x0_2, x0_3, x0_4, x0_5, x0_6, x0_7, x0_8, x0_9, x0_10, x0_11, x0_12, x0_13, x0_14, x0_15, e0⟩ := len16 (show f_rt.length = 16 from (h).len)
  subst e0
  rfl
theorem NewS.staysBut {n0 len cap : Nat} {o : Obj} {T : List Nat} (hT : ∀ k ∈ T, k < n0) : Stays (keepBut T) (NewS n0 len cap o) := fun v w w' ⟨b, h1, h2, h3⟩ h => ⟨b, h1, h2, by
  rw [Ext.block h b (Array.getElem?_eq_some_iff.1 h3).1 (fun hb => by have := hT b hb; omega)]; exact h3⟩
theorem newSB_of {T : List Nat} {w1 w w' : World} {len cap : Nat} {o : Obj} {x : Value} (E : Ext T w1 w) (h : ∃ b, x = .slice (some ⟨b, 0, none⟩) len cap ∧ Mem [] w w' [(b, o)]) : Ext [] w w' ∧ NewS w1.heap.size len cap o x w' := by
  obtain ⟨b, rfl, N⟩ := h
  refine ⟨N.ext, b, rfl, ?_, N.heap .here⟩
  have := (N.own (b, o) (by simp)).resolve_left (by simp)
  exact Nat.le_trans E.size this
/-- a pointer into a new block -/
def NewA (n0 off : Nat) (o : Obj) : Pred := fun v w => ∃ b, v = .pointer (some ⟨b, off, none⟩) ∧ n0 ≤ b ∧ w.heap[b]? = some o
theorem NewA.staysBut {n0 off : Nat} {o : Obj} {T : List Nat} (hT : ∀ k ∈ T, k < n0) : Stays (keepBut T) (NewA n0 off o) := fun v w w' ⟨b, h1, h2, h3⟩ h => ⟨b, h1, h2, by
  rw [Ext.block h b (Array.getElem?_eq_some_iff.1 h3).1 (fun hb => by have := hT b hb; omega)]; exact h3⟩
theorem Mem.empty (w : World) : Mem [] w w [] := ⟨Ext.refl _ _, fun p hp => (by cases hp), by simp, fun p hp => (by cases hp)⟩
def tab5 : List Int := [64, 64, 64, 48, 128]
theorem tab5_bd (i : Nat) : 0 ≤ tab5.getD i 0 ∧ tab5.getD i 0 ≤ 128 := by
  rcases Nat.lt_or_ge i 5 with h | h
  · have : ∀ i : Fin 5, 0 ≤ tab5.getD i.val 0 ∧ tab5.getD i.val 0 ≤ 128 := by decide
    exact this ⟨i, h⟩
  · rw [List.getD_eq_getElem?_getD, List.getElem?_eq_none (by simpa [tab5] using h)]
    simp
theorem OwnS.newVB {e : TypeId} {sz n : Nat} {v : Value} {xs : List Value} {ent : List (Nat × Obj)} (h : OwnS e sz v n xs ent) {S : List Nat} {W0 w : World} {l : List (Nat × Obj)} (M : Mem S W0 w l) (hs : ∀ p ∈ ent, p ∈ l) (hS : ∀ p ∈ ent, p.1 ∉ S) : NewV W0.heap.size v := by
  rcases h with ⟨rfl, _, _, rfl⟩ | ⟨b, cap, junk, rfl, rfl, _, _, _⟩
  · exact NewV.nil _ _ _
  · intro b' o s n c h
    cases h
    exact (M.own _ (hs _ List.mem_cons_self)).resolve_left (hS _ List.mem_cons_self)
/-- an offer in new memory -/
def OffNew (n0 : Nat) (W : World) (x : OV) : Prop := OffAt W x ∧ NewV n0 x.u ∧ NewV n0 x.v
set_option maxHeartbeats 8000000 in
theorem woffer_c {bt : Nat} {p : Option Addr} {len cap k : Nat} {xs : List Int} (base : Int) (h0 : 0 ≤ base) (h1 : base ≤ 1099511627776) (W : World) (hT : TapeS W bt p len xs) (hb : W.heap[bt]? = some (tobj p len cap k)) :
    Cal Try.prog 26 [.pointer (some ⟨bt, 0, none⟩), .int .i64 base].toArray W fun r w' => ∃ x k', r = .agg (ovC x).toArray ∧ IsOff x.o ∧ (x.o.ps.length ≤ 3 ∧ x.o.cs.length ≤ 2) ∧ OffNew W.heap.size w' x ∧ Mem [bt] W w' [(bt, tobj p len cap k')] := by
  refine fn_ofM (n := 70) [bt] Try.func26 rfl rfl rfl ?_
  intro a w F M hwW
  replace M := M.came hwW hb (by simp) (by simp)
  refine c_seq ?_
  refine c_region ?_
  (refine stepD rfl F rfl (o_alloc M ?_); clear F; clear M; intro b4 w M a F)
  with_reducible refine l_nil ?_
  with_reducible refine q_then ?_
  with_reducible refine c_seq ?_
  with_reducible refine c_region ?_
  refine stepD rfl F rfl (o_move (F.ev rfl) ?_); clear F; clear a; intro a F
  (refine stepD rfl F rfl (o_call (F.ev rfl) (F.evs rfl) (Cal.mono (wipD_c _ (hT.later M.ext) (M.heap (.there .here)) ) ?_)); clear F; clear a; have M0 := M; clear M; rintro _ w ⟨rfl, N⟩ a F)
  replace M := M0.turn1 N (.there .here)
  refine stepD rfl F rfl (o_move (F.ev rfl) ?_); clear F; clear a; intro a F
  (refine stepD rfl F rfl (o_call (F.ev rfl) (F.evs rfl) (Cal.mono (next_c 4 (by omega) (by omega) _ (hT.later M.ext) (M.heap (.there .here)) ) ?_)); clear F; clear a; have M0 := M; clear M; rintro _ w ⟨rfl, N⟩ a F)
  replace M := M0.turn1 N (.there .here)
  refine stepD rfl F rfl (o_move (F.ev rfl) ?_); clear F; clear a; intro a F
  refine stepD rfl F rfl (o_move (F.ev rfl) ?_); clear F; clear a; intro a F
  (refine stepD rfl F rfl (o_call (F.ev rfl) (F.evs rfl) (Cal.mono (wtime_c base h0 h1 _ (hT.later M.ext) (M.heap (.there .here)) ) ?_)); clear F; clear a; have M0 := M; clear M; rintro _ w ⟨rfl, N⟩ a F)
  replace M := M0.turn1 N (.there .here)
  clear M0
  obtain ⟨h, hh0⟩ : ∃ h : OffH, h = ⟨wipV xs k, nxV xs (wipK xs k) 4, wtV xs (nxK xs (wipK xs k)) base⟩ := ⟨_, rfl⟩
  have hh : IsOf h := by rw [hh0]; exact wipV_is _ _
  have hbl := of_build3 hh
  have hb1 : h.rt = wipV xs k := by rw [hh0]
  have hb2 : h.ver = nxV xs (wipK xs k) 4 := by rw [hh0]
  have hb3 : h.til = wtV xs (nxK xs (wipK xs k)) base := by rw [hh0]
  rw [← hb1, ← hb2, ← hb3] at F
  clear hb1 hb2 hb3 hh0
  (refine stepD rfl F rfl (o_build F rfl hbl ?_); clear F; clear a; intro a F)
  (refine stepD rfl F rfl (o_alloc M ?_); clear F; clear M; intro b5 w M a F)
  (refine stepN rfl F (o_storeA M (F.ev rfl) (F.ev rfl) (of_len hh _ _) (of_one _ _ _ rfl rfl)  (by repeat (first | exact .here | apply Has.there))  (put_all (by rw [of_len hh]; rfl)) (by repeat (first | exact .here | apply Upd.there)) ?_); clear F; clear M; intro w M a F)
  with_reducible refine l_nil ?_
  with_reducible refine q_then ?_
  with_reducible refine c_seq ?_
  with_reducible refine c_seq ?_
  with_reducible refine c_region ?_
  refine stepD rfl F rfl (o_move (F.ev rfl) ?_); clear F; clear a; intro a F
  generalize nxK xs (nxK xs (wipK xs k)) = k1 at *
  (refine stepD rfl F rfl (o_call (F.ev rfl) (F.evs rfl) (Cal.mono (next_c 4 (by omega) (by omega) _ (hT.later M.ext) (M.heap (.there (.there .here))) ) ?_)); clear F; clear a; have M0 := M; clear M; rintro _ w ⟨rfl, N⟩ a F)
  replace M := M0.turn1 N (.there (.there .here))
  clear M0
  have v1 := nxV_bd xs k1 (n := 4) (by omega)
  obtain ⟨c0, hc0⟩ := Int.eq_ofNat_of_zero_le v1.1
  rw [hc0] at F v1
  have hc3 : c0 ≤ 3 := by omega
  generalize nxK xs k1 = k2 at *
  clear hc0 v1
  refine stepD rfl F rfl (o_assign (F.ev rfl) ?_); clear F; clear a; intro a F
  with_reducible refine l_nil ?_
  with_reducible refine q_then ?_
  with_reducible refine c_block ?_
  have hbt : bt < W.heap.size := (Array.getElem?_eq_some_iff.1 hb).1
  replace M : Mem [bt] W w ([(bt, tobj p len cap k2), (b5, .cells (ofC h (.slice none 0 0) (.slice none 0 0)).toArray 58 (0, 0)), (b4, .cells ofZ.toArray 58 (0, 0))] ++ []) := M.perm ((List.perm_append_comm (l₁ := [_, _]) (l₂ := [_])).trans (.of_eq rfl))
  refine c_loop (fun m a w => ∃ (c : Nat) (x : Int) (ps : List PInf) (u : Value) (eu : List (Nat × Obj)) (k : Nat), m = c ∧ x = c ∧ ps.length + c ≤ 3 ∧ (∀ q ∈ ps, IsPi q) ∧ OwnS 111 20 u ps.length (pisC ps) eu ∧ Frm a 70 [] [(6, .int .i64 x), (5, .pointer (some ⟨b5, 0, none⟩)), (4, .pointer (some ⟨b4, 0, none⟩)), (0, .pointer (some ⟨bt, 0, none⟩))] ∧ Mem [bt] W w ([(bt, tobj p len cap k), (b5, .cells (ofC h u (.slice none 0 0)).toArray 58 (0, 0)), (b4, .cells ofZ.toArray 58 (0, 0))] ++ eu)) c0 ⟨c0, _, [], _, [], k2, rfl, rfl, by simpa using hc3, by simp, OwnS.nil _ _, F.only [6, 5, 4, 0] rfl, M⟩ ?_
  clear F M hbl
  rintro m a w ⟨c, x, ps, u, eu, kk, hm, hxc, hpl, hps, hO, F, M⟩
  by_cases hlt : 0 < c
  · obtain ⟨up, uc, rfl⟩ := hO.slice
    have e18 := of_ps hh (.slice up ps.length uc) (.slice none 0 0)
    have f18 := of_put_ps hh (.slice up ps.length uc) (.slice none 0 0)
    have v1 := nxV_bd xs (wipK xs kk) (n := 5) (by omega)
    have n1 := nth_tab (k := .i64) (xs := tab5) v1.1 (by simpa [tab5] using v1.2)
    have hbd := tab5_bd (nxV xs (wipK xs kk) 5).toNat
    have hcl : clampB (tab5.getD (nxV xs (wipK xs kk) 5).toNat 0) = tab5.getD (nxV xs (wipK xs kk) 5).toNat 0 := clamp_in hbd.1 hbd.2
    have v2 := nxV_bd xs (nxK xs (nxK xs (nxK xs (wipK xs kk)))) (n := 3) (by omega)
    with_reducible refine c_seq ?_
    with_reducible refine c_seq ?_
    with_reducible refine c_region ?_
    refine stepD rfl F rfl (o_move (F.ev rfl) ?_); clear F; clear a; intro a F
    refine stepD rfl F rfl (o_gtrT (F.ev rfl) (F.ev rfl) (by omega) ?_); clear F; clear a; intro a F
    with_reducible refine l_nil ?_
    with_reducible refine q_then ?_
    refine c_true F rfl rfl ?_
    with_reducible refine c_skip ?_
    with_reducible refine q_then ?_
    with_reducible refine c_seq ?_
    with_reducible refine c_block ?_
    replace M : Mem [bt] W w ([(bt, tobj p len cap kk)] ++ ((b5, .cells (ofC h (.slice up ps.length uc) (.slice none 0 0)).toArray 58 (0, 0)) :: (b4, .cells ofZ.toArray 58 (0, 0)) :: eu)) := M
    refine c_drawB (l0 := [(bt, tobj p len cap kk)]) [bt] [3, 6, 9, 11, 13, 16] M 20 F (by kernel_rfl) ?_
    intro w1 M1 hok hef
    have hB : ∀ k ∈ [bt], k ∈ ([(bt, tobj p len cap kk)] : List (Nat × Obj)).map (·.1) := by simp
    have hbw : ∀ k ∈ [bt], k < w1.heap.size := fun k hk => by
      simp only [List.mem_singleton] at hk
      subst hk
      exact Nat.lt_of_lt_of_le hbt M1.ext.size
    have hTw : ∀ w', Ext [bt] w1 w' → TapeS w' bt p len xs := fun w' E => hT.later (M1.ext.trans (E.mono (by simp)))
    refine mK hok rfl rfl (fun a' w' F' E' => o_fieldAddr (F'.ev rfl) ⟨Ext.refl _ _, rfl⟩) ?_
    refine mK hok rfl rfl (fun a' w' F' E' => o_load1 (M1.laterBut E' hB) (F'.ev rfl) (by repeat (first | exact .here | apply Has.there)) (by first | assumption | rfl) ⟨Ext.refl _ _, rfl⟩) ?_
    refine mK hok rfl rfl (fun a' w' F' E' => o_move (F'.ev rfl) ⟨Ext.refl _ _, rfl⟩) ?_
    refine mE (T' := fun _ w => Mem _ _ w ([(bt, tobj p len cap (wipK xs kk))] ++ _)) hok rfl rfl (fun _ _ _ h k => h.later k) (fun a' w' σ' F' E' T' => o_call (F'.ev rfl) (F'.evs rfl) (Cal.mono (wipD_c _ (hTw _ E') (T'.heap .here)) fun _ _ hh => ⟨hh.2.ext, hh.1, Mem.turn1 T' hh.2 .here⟩)) ?_
    refine mX (V := NewS w1.heap.size 5 5 (.cells (i64C tab5).toArray 3 (0, 0))) hok rfl rfl (NewS.staysBut hbw) (fun a' w' F' E' D' => o_buildSlice F' (Mem.empty w') rfl rfl rfl rfl fun b w'' M'' => newSB_of E' ⟨b, rfl, M''⟩) ?_
    refine mK hok rfl rfl (fun a' w' F' E' => o_move (F'.ev rfl) ⟨Ext.refl _ _, rfl⟩) ?_
    refine mE (T' := fun _ w => Mem _ _ w ([(bt, tobj p len cap (nxK xs (wipK xs kk)))] ++ _)) hok rfl rfl (fun _ _ _ h k => h.later k) (fun a' w' σ' F' E' T' => o_call (F'.ev rfl) (F'.evs rfl) (Cal.mono (next_c 5 (by omega) (by omega) _ (hTw _ E') (T'.heap .here)) fun _ _ hh => ⟨hh.2.ext, hh.1, Mem.turn1 T' hh.2 .here⟩)) ?_
    refine mX (V := NewA w1.heap.size (0 + (nxV xs (wipK xs kk) 5).toNat * 1) (.cells (i64C tab5).toArray 3 (0, 0))) hok rfl rfl (NewA.staysBut hbw) (fun a' w' F' E' D' => by
      obtain ⟨b, g1, g2, g3⟩ := D' 4 (by decide) _ rfl
      have hev : a'.eval (.tmp 27) = .slice (some ⟨b, 0, none⟩) 5 5 := g1
      exact o_indexSl hev (F'.ev rfl) v1.1 v1.2 ⟨Ext.refl _ _, b, rfl, g2, g3⟩) ?_
    refine mKX (v := .int .i64 (tab5.getD (nxV xs (wipK xs kk) 5).toNat 0)) hok rfl rfl (fun a' w' F' E' D' => by
      obtain ⟨b, g1, g2, g3⟩ := D' 7 (by decide) _ rfl
      have hev : a'.eval (.tmp 30) = .pointer (some ⟨b, 0 + (nxV xs (wipK xs kk) 5).toNat * 1, none⟩) := g1
      exact o_loadH1 hev g3 n1 ⟨Ext.refl _ _, rfl⟩) ?_
    refine mE (T' := fun _ w => Mem _ _ w ([(bt, tobj p len cap (nxK xs (wipK xs kk)))] ++ _)) hok rfl rfl (fun _ _ _ h k => h.later k) (fun a' w' σ' F' E' T' => o_call (F'.ev rfl) (F'.evs rfl) (Cal.mono (Cal.to (rmask_c (wipV xs kk) (wipV_is _ _) (tab5.getD (nxV xs (wipK xs kk) 5).toNat 0) _) (by rw [hcl])) fun _ _ hh => ⟨hh.2.any, hh.1, T'.later hh.2⟩)) ?_
    refine mK hok rfl rfl (fun a' w' F' E' => o_move (F'.ev rfl) ⟨Ext.refl _ _, rfl⟩) ?_
    refine mE (T' := fun _ w => Mem _ _ w ([(bt, tobj p len cap (nxK xs (nxK xs (wipK xs kk))))] ++ _)) hok rfl rfl (fun _ _ _ h k => h.later k) (fun a' w' σ' F' E' T' => o_call (F'.ev rfl) (F'.evs rfl) (Cal.mono (bool_c 2 (by omega) (by omega) _ (hTw _ E') (T'.heap .here)) fun _ _ hh => ⟨hh.2.ext, hh.1, Mem.turn1 T' hh.2 .here⟩)) ?_
    refine mK hok rfl rfl (fun a' w' F' E' => o_move (F'.ev rfl) ⟨Ext.refl _ _, rfl⟩) ?_
    refine mE (T' := fun _ w => Mem _ _ w ([(bt, tobj p len cap (nxK xs (nxK xs (nxK xs (wipK xs kk)))))] ++ _)) hok rfl rfl (fun _ _ _ h k => h.later k) (fun a' w' σ' F' E' T' => o_call (F'.ev rfl) (F'.evs rfl) (Cal.mono (bool_c 3 (by omega) (by omega) _ (hTw _ E') (T'.heap .here)) fun _ _ hh => ⟨hh.2.ext, hh.1, Mem.turn1 T' hh.2 .here⟩)) ?_
    refine mK hok rfl rfl (fun a' w' F' E' => o_not (F'.ev rfl) ⟨Ext.refl _ _, rfl⟩) ?_
    refine mK hok rfl rfl (fun a' w' F' E' => o_move (F'.ev rfl) ⟨Ext.refl _ _, rfl⟩) ?_
    refine mE (T' := fun _ w => Mem _ _ w ([(bt, tobj p len cap (nxK xs (nxK xs (nxK xs (nxK xs (wipK xs kk))))))] ++ _)) hok rfl rfl (fun _ _ _ h k => h.later k) (fun a' w' σ' F' E' T' => o_call (F'.ev rfl) (F'.evs rfl) (Cal.mono (next_c 3 (by omega) (by omega) _ (hTw _ E') (T'.heap .here)) fun _ _ hh => ⟨hh.2.ext, hh.1, Mem.turn1 T' hh.2 .here⟩)) ?_
    refine mK hok rfl rfl (fun a' w' F' E' => o_conv (F'.ev rfl) (w_u32 (by omega) (by omega)) ⟨Ext.refl _ _, rfl⟩) ?_
    obtain ⟨z, hz⟩ : ∃ z : PInf, z = ⟨maskI (wipV xs kk) (tab5.getD (nxV xs (wipK xs kk) 5).toNat 0), tab5.getD (nxV xs (wipK xs kk) 5).toNat 0, boolV xs (nxK xs (wipK xs kk)) 2, !boolV xs (nxK xs (nxK xs (wipK xs kk))) 3, nxV xs (nxK xs (nxK xs (nxK xs (wipK xs kk)))) 3⟩ := ⟨_, rfl⟩
    have hzi : IsPi z := by rw [hz]; exact mask_isIP (wipV_is _ _) _
    have hbl : putAll [(0, 17), (17, 1), (18, 1), (19, 1)] piZ [(0, pfC (maskI (wipV xs kk) (tab5.getD (nxV xs (wipK xs kk) 5).toNat 0)) (tab5.getD (nxV xs (wipK xs kk) 5).toNat 0)), (1, [.bool (boolV xs (nxK xs (wipK xs kk)) 2)]), (2, [.bool (!boolV xs (nxK xs (nxK xs (wipK xs kk))) 3)]), (3, [.int .u32 (nxV xs (nxK xs (nxK xs (nxK xs (wipK xs kk)))) 3)])] = some (piC z) := by have := pi_build hzi; rw [hz] at this ⊢; exact this
    (refine mK hok rfl rfl (fun a' w' F' E' => o_build F' rfl hbl ⟨Ext.refl _ _, rfl⟩) ?_)
    refine mX (V := NewS w1.heap.size 1 1 (.cells (piC z).toArray 111 (0, 0))) hok rfl rfl (NewS.staysBut hbw) (fun a' w' F' E' D' => o_buildSlice F' (Mem.empty w') rfl rfl rfl (pi_build1 hzi) fun b w'' M'' => newSB_of E' ⟨b, rfl, M''⟩) ?_
    (refine mDone rfl hef ?_; clear F; clear M; intro a w F hE2 hX MT hDD hPP; obtain ⟨b42, e42, g42, q42⟩ := hX 19 (NewS w1.heap.size 1 1 (.cells (piC z).toArray 111 (0, 0))) (by kernel_rfl); replace F := F.know (d := 42) e42; replace g42 : w1.heap.size ≤ b42 := g42)
    have M := Mem.al (pre := [(bt, tobj p len cap (nxK xs (nxK xs (nxK xs (nxK xs (wipK xs kk))))))]) MT (M1.sub (List.sublist_cons_self _ _)) q42 g42 (by intro q hq h; simp at hq; subst hq; have h2 := ptrTo_inj h; have h3 := M1.lt (List.mem_cons_self); dsimp only at h3 h2; omega)
    clear M1 hX hE2 hok hef hB hDD hPP MT e42 g42 q42 hTw hbw
    (try dsimp only at F)
    simp only [List.cons_append, List.nil_append] at M
    generalize nxK xs (nxK xs (nxK xs (nxK xs (wipK xs kk)))) = k5 at *
    clear hz hbl
    (refine stepD rfl F rfl (o_append hO M (.cons (.cons (.cons (.cons .here)))) (F.ev rfl) (F.ev rfl) (SrcOf.cells' (M.heap .here) (sg_all (by rw [pi_len hzi])) (pi_one _)) (by omega) (by omega) ?_); clear F; clear M; clear hO; intro u2 eu2 w hO M a F)
    obtain ⟨up2, uc2, rfl⟩ := hO.slice
    refine stepD rfl F rfl (o_fieldAddr (F.ev rfl) ?_); clear F; clear a; intro a F
    (refine stepN rfl F (o_store1 M (F.ev rfl) (F.ev rfl) rfl (by repeat (first | exact .here | apply Has.there)) (f18 _) (by repeat (first | exact .here | apply Upd.there)) ?_); clear F; clear M; intro w M a F)
    with_reducible refine l_nil ?_
    with_reducible refine q_inB ?_
    with_reducible refine q_then ?_
    with_reducible refine c_region ?_
    refine stepD rfl F rfl (o_move (F.ev rfl) ?_); clear F; clear a; intro a F
    refine stepD rfl F rfl (o_sub (F.ev rfl) (F.ev rfl) (w_i64 (by omega) (by omega)) ?_); clear F; clear a; intro a F
    refine stepD rfl F rfl (o_assign (F.ev rfl) ?_); clear F; clear a; intro a F
    with_reducible refine l_nil ?_
    with_reducible refine q_then ?_
    exact ⟨_, by omega, c - 1, _, ps ++ [z], _, eu2, k5, rfl, by omega, by simp; omega, by
      intro q hq
      rcases List.mem_append.1 hq with h | h
      · exact hps q h
      · simp only [List.mem_singleton] at h
        rw [h]; exact hzi, by show OwnS _ 20 _ (ps ++ [z]).length (encL piC (ps ++ [z])) _; rw [show (ps ++ [z]).length = ps.length + 1 by simp, encL_app, encL_one]; exact hO, F.only [6, 5, 4, 0] rfl, M.sub (.cons _ (.refl _))⟩
  · obtain rfl : c = 0 := by omega
    obtain rfl : x = 0 := by omega
    simp only [Nat.add_zero] at hpl
    with_reducible refine c_seq ?_
    with_reducible refine c_seq ?_
    with_reducible refine c_region ?_
    refine stepD rfl F rfl (o_move (F.ev rfl) ?_); clear F; clear a; intro a F
    refine stepD rfl F rfl (o_gtrF (F.ev rfl) (F.ev rfl) (by omega) ?_); clear F; clear a; intro a F
    with_reducible refine l_nil ?_
    with_reducible refine q_then ?_
    refine c_false F rfl rfl ?_
    with_reducible refine c_exit ?_
    with_reducible refine q_thenX ?_
    with_reducible refine q_thenX ?_
    with_reducible refine q_inBX ?_
    with_reducible refine q_then ?_
    with_reducible refine c_seq ?_
    with_reducible refine c_region ?_
    refine stepD rfl F rfl (o_move (F.ev rfl) ?_); clear F; clear a; intro a F
    (refine stepD rfl F rfl (o_call (F.ev rfl) (F.evs rfl) (Cal.mono (next_c 14 (by omega) (by omega) _ (hT.later M.ext) (M.heap .here) ) ?_)); clear F; clear a; have M0 := M; clear M; rintro _ w ⟨rfl, N⟩ a F)
    replace M := M0.turn1 N .here
    have v7 := nxV_bd xs kk (n := 14) (by omega)
    generalize nxV xs kk 14 = fst at *
    refine stepD rfl F rfl (o_assign (F.ev rfl) ?_); clear F; clear a; intro a F
    with_reducible refine l_nil ?_
    with_reducible refine q_then ?_
    with_reducible refine c_seq ?_
    with_reducible refine c_seq ?_
    with_reducible refine c_region ?_
    refine stepD rfl F rfl (o_move (F.ev rfl) ?_); clear F; clear a; intro a F
    (refine stepD rfl F rfl (o_call (F.ev rfl) (F.evs rfl) (Cal.mono (next_c 3 (by omega) (by omega) _ (hT.later M.ext) (M.heap .here) ) ?_)); clear F; clear a; have M0 := M; clear M; rintro _ w ⟨rfl, N⟩ a F)
    replace M := M0.turn1 N .here
    clear M0
    have v8 := nxV_bd xs (nxK xs kk) (n := 3) (by omega)
    generalize nxK xs (nxK xs kk) = k6 at *
    obtain ⟨c1, hc1⟩ := Int.eq_ofNat_of_zero_le v8.1
    rw [hc1] at F v8
    clear hc1
    refine stepD rfl F rfl (o_assign (F.ev rfl) ?_); clear F; clear a; intro a F
    with_reducible refine l_nil ?_
    with_reducible refine q_then ?_
    with_reducible refine c_block ?_
    have hpo := hO.one
    refine c_loop (fun m a w => ∃ (c : Nat) (x : Int) (cs : List CInf) (v : Value) (ev : List (Nat × Obj)) (k : Nat), m = c ∧ x = c ∧ cs.length + c ≤ 2 ∧ (∀ q ∈ cs, IsCi q) ∧ OwnS 116 20 v cs.length (cisC cs) ev ∧ Frm a 70 [] [(8, .int .i64 x), (7, .int .i64 fst), (5, .pointer (some ⟨b5, 0, none⟩)), (4, .pointer (some ⟨b4, 0, none⟩)), (0, .pointer (some ⟨bt, 0, none⟩))] ∧ Mem [bt] W w ([(bt, tobj p len cap k), (b5, .cells (ofC h u v).toArray 58 (0, 0)), (b4, .cells ofZ.toArray 58 (0, 0))] ++ (eu ++ ev))) c1 ⟨c1, _, [], _, [], k6, rfl, rfl, by simp; omega, by simp, OwnS.nil _ _, F.only [8, 7, 5, 4, 0] rfl, by rw [List.append_nil]; exact M⟩ ?_
    clear F M
    rintro m a w ⟨c, x, cs, v, ev, kk, hm, hxc, hcl, hcs, hOv, F, M⟩
    by_cases hlt : 0 < c
    · obtain ⟨vp, vc, rfl⟩ := hOv.slice
      have e19 := of_cs hh u (.slice vp cs.length vc)
      have f19 := of_put_cs hh u (.slice vp cs.length vc)
      have v2 := nxV_bd xs (nxK xs (wpK xs kk)) (n := 3) (by omega)
      with_reducible refine c_seq ?_
      with_reducible refine c_seq ?_
      with_reducible refine c_region ?_
      refine stepD rfl F rfl (o_move (F.ev rfl) ?_); clear F; clear a; intro a F
      refine stepD rfl F rfl (o_gtrT (F.ev rfl) (F.ev rfl) (by omega) ?_); clear F; clear a; intro a F
      with_reducible refine l_nil ?_
      with_reducible refine q_then ?_
      refine c_true F rfl rfl ?_
      with_reducible refine c_skip ?_
      with_reducible refine q_then ?_
      with_reducible refine c_seq ?_
      with_reducible refine c_block ?_
      replace M : Mem [bt] W w ([(bt, tobj p len cap kk)] ++ ((b5, .cells (ofC h u (.slice vp cs.length vc)).toArray 58 (0, 0)) :: (b4, .cells ofZ.toArray 58 (0, 0)) :: (eu ++ ev))) := M
      refine c_drawB (l0 := [(bt, tobj p len cap kk)]) [bt] [6, 8, 10] M 14 F (by kernel_rfl) ?_
      intro w1 M1 hok hef
      have hB : ∀ k ∈ [bt], k ∈ ([(bt, tobj p len cap kk)] : List (Nat × Obj)).map (·.1) := by simp
      have hbw : ∀ k ∈ [bt], k < w1.heap.size := fun k hk => by
        simp only [List.mem_singleton] at hk
        subst hk
        exact Nat.lt_of_lt_of_le hbt M1.ext.size
      have hTw : ∀ w', Ext [bt] w1 w' → TapeS w' bt p len xs := fun w' E => hT.later (M1.ext.trans (E.mono (by simp)))
      refine mK hok rfl rfl (fun a' w' F' E' => o_fieldAddr (F'.ev rfl) ⟨Ext.refl _ _, rfl⟩) ?_
      refine mK hok rfl rfl (fun a' w' F' E' => o_load1 (M1.laterBut E' hB) (F'.ev rfl) (by repeat (first | exact .here | apply Has.there)) (by first | assumption | rfl) ⟨Ext.refl _ _, rfl⟩) ?_
      refine mK hok rfl rfl (fun a' w' F' E' => o_move (F'.ev rfl) ⟨Ext.refl _ _, rfl⟩) ?_
      refine mK hok rfl rfl (fun a' w' F' E' => o_move (F'.ev rfl) ⟨Ext.refl _ _, rfl⟩) ?_
      refine mK hok rfl rfl (fun a' w' F' E' => o_add (F'.ev rfl) (F'.ev rfl) (w_i64 (by omega) (by omega)) ⟨Ext.refl _ _, rfl⟩) ?_
      refine mK hok rfl rfl (fun a' w' F' E' => o_move (F'.ev rfl) ⟨Ext.refl _ _, rfl⟩) ?_
      refine mE (T' := fun _ w => Mem _ _ w ([(bt, tobj p len cap (wpK xs kk))] ++ _)) hok rfl rfl (fun _ _ _ h k => h.later k) (fun a' w' σ' F' E' T' => o_call (F'.ev rfl) (F'.evs rfl) (Cal.mono (wprefix_c _ (hTw _ E') (T'.heap .here)) fun _ _ hh => ⟨hh.2.ext, hh.1, Mem.turn1 T' hh.2 .here⟩)) ?_
      refine mK hok rfl rfl (fun a' w' F' E' => o_move (F'.ev rfl) ⟨Ext.refl _ _, rfl⟩) ?_
      refine mE (T' := fun _ w => Mem _ _ w ([(bt, tobj p len cap (nxK xs (wpK xs kk)))] ++ _)) hok rfl rfl (fun _ _ _ h k => h.later k) (fun a' w' σ' F' E' T' => o_call (F'.ev rfl) (F'.evs rfl) (Cal.mono (bool_c 2 (by omega) (by omega) _ (hTw _ E') (T'.heap .here)) fun _ _ hh => ⟨hh.2.ext, hh.1, Mem.turn1 T' hh.2 .here⟩)) ?_
      refine mK hok rfl rfl (fun a' w' F' E' => o_move (F'.ev rfl) ⟨Ext.refl _ _, rfl⟩) ?_
      refine mE (T' := fun _ w => Mem _ _ w ([(bt, tobj p len cap (nxK xs (nxK xs (wpK xs kk))))] ++ _)) hok rfl rfl (fun _ _ _ h k => h.later k) (fun a' w' σ' F' E' T' => o_call (F'.ev rfl) (F'.evs rfl) (Cal.mono (next_c 3 (by omega) (by omega) _ (hTw _ E') (T'.heap .here)) fun _ _ hh => ⟨hh.2.ext, hh.1, Mem.turn1 T' hh.2 .here⟩)) ?_
      refine mK hok rfl rfl (fun a' w' F' E' => o_conv (F'.ev rfl) (w_u16 (by omega) (by omega)) ⟨Ext.refl _ _, rfl⟩) ?_
      obtain ⟨z, hz⟩ : ∃ z : CInf, z = ⟨fst + x, maskI (wpA xs kk) (wpN xs kk), wpN xs kk, boolV xs (wpK xs kk) 2, nxV xs (nxK xs (wpK xs kk)) 3⟩ := ⟨_, rfl⟩
      have hzi : IsCi z := by rw [hz]; exact wpA_is _ _
      have hbl : putAll [(0, 1), (1, 17), (18, 1), (19, 1)] ciZ [(0, [.int .i64 (fst + x)]), (1, pfC (maskI (wpA xs kk) (wpN xs kk)) (wpN xs kk)), (2, [.bool (boolV xs (wpK xs kk) 2)]), (3, [.int .u16 (nxV xs (nxK xs (wpK xs kk)) 3)])] = some (ciC z) := by have := ci_build hzi; rw [hz] at this ⊢; exact this
      (refine mK hok rfl rfl (fun a' w' F' E' => o_build F' rfl hbl ⟨Ext.refl _ _, rfl⟩) ?_)
      refine mX (V := NewS w1.heap.size 1 1 (.cells (ciC z).toArray 116 (0, 0))) hok rfl rfl (NewS.staysBut hbw) (fun a' w' F' E' D' => o_buildSlice F' (Mem.empty w') rfl rfl rfl (ci_build1 hzi) fun b w'' M'' => newSB_of E' ⟨b, rfl, M''⟩) ?_
      (refine mDone rfl hef ?_; clear F; clear M; intro a w F hE2 hX MT hDD hPP; obtain ⟨b42, e42, g42, q42⟩ := hX 13 (NewS w1.heap.size 1 1 (.cells (ciC z).toArray 116 (0, 0))) (by kernel_rfl); replace F := F.know (d := 66) e42; replace g42 : w1.heap.size ≤ b42 := g42)
      have M := Mem.al (pre := [(bt, tobj p len cap (nxK xs (nxK xs (wpK xs kk))))]) MT (M1.sub (List.sublist_cons_self _ _)) q42 g42 (by intro q hq h; simp at hq; subst hq; have h2 := ptrTo_inj h; have h3 := M1.lt (List.mem_cons_self); dsimp only at h3 h2; omega)
      clear M1 hX hE2 hok hef hB hDD hPP MT e42 g42 q42 hTw hbw
      (try dsimp only at F)
      simp only [List.cons_append, List.nil_append] at M
      generalize nxK xs (nxK xs (wpK xs kk)) = k5 at *
      clear hz hbl
      (refine stepD rfl F rfl (o_append hOv M (.cons (.cons (.cons (.cons (.app .here))))) (F.ev rfl) (F.ev rfl) (SrcOf.cells' (M.heap .here) (sg_all (by rw [ci_len hzi])) (ci_one _)) (by omega) (by omega) ?_); clear F; clear M; clear hOv; intro v2 ev2 w hOv M a F)
      obtain ⟨vp2, vc2, rfl⟩ := hOv.slice
      refine stepD rfl F rfl (o_fieldAddr (F.ev rfl) ?_); clear F; clear a; intro a F
      (refine stepN rfl F (o_store1 M (F.ev rfl) (F.ev rfl) rfl (by repeat (first | exact .here | apply Has.there)) (f19 _) (by repeat (first | exact .here | apply Upd.there)) ?_); clear F; clear M; intro w M a F)
      with_reducible refine l_nil ?_
      with_reducible refine q_inB ?_
      with_reducible refine q_then ?_
      with_reducible refine c_region ?_
      refine stepD rfl F rfl (o_move (F.ev rfl) ?_); clear F; clear a; intro a F
      refine stepD rfl F rfl (o_sub (F.ev rfl) (F.ev rfl) (w_i64 (by omega) (by omega)) ?_); clear F; clear a; intro a F
      refine stepD rfl F rfl (o_assign (F.ev rfl) ?_); clear F; clear a; intro a F
      with_reducible refine l_nil ?_
      with_reducible refine q_then ?_
      exact ⟨_, by omega, c - 1, _, cs ++ [z], _, ev2, k5, rfl, by omega, by simp; omega, by
        intro q hq
        rcases List.mem_append.1 hq with h | h
        · exact hcs q h
        · simp only [List.mem_singleton] at h
          rw [h]; exact hzi, by show OwnS _ 20 _ (cs ++ [z]).length (encL ciC (cs ++ [z])) _; rw [show (cs ++ [z]).length = cs.length + 1 by simp, encL_app, encL_one]; exact hOv, F.only [8, 7, 5, 4, 0] rfl, M.sub (.cons _ (.refl _))⟩
    · obtain rfl : c = 0 := by omega
      have f0 : seg (ofC h u v) 0 20 = some (ofC h u v) := of_all hh u v
      have f1 : (ofC h u v).all (·.oneCell') = true := of_one _ _ _ hO.one hOv.one
      simp only [List.cons_append, List.nil_append] at M
      with_reducible refine c_seq ?_
      with_reducible refine c_seq ?_
      with_reducible refine c_region ?_
      refine stepD rfl F rfl (o_move (F.ev rfl) ?_); clear F; clear a; intro a F
      refine stepD rfl F rfl (o_gtrF (F.ev rfl) (F.ev rfl) (by omega) ?_); clear F; clear a; intro a F
      with_reducible refine l_nil ?_
      with_reducible refine q_then ?_
      refine c_false F rfl rfl ?_
      with_reducible refine c_exit ?_
      with_reducible refine q_thenX ?_
      with_reducible refine q_thenX ?_
      with_reducible refine q_inBX ?_
      with_reducible refine q_then ?_
      with_reducible refine c_seq ?_
      with_reducible refine c_region ?_
      refine stepD rfl F rfl (o_loadA M (F.ev rfl) (by repeat (first | exact .here | apply Has.there)) (by first | assumption | rfl) ?_); clear F; clear a; intro a F
      (refine stepN rfl F (o_storeA M (F.ev rfl) (F.ev rfl) (of_len hh _ _) f1  (by repeat (first | exact .here | apply Has.there))  (put_all (by rw [of_len hh]; rfl)) (by repeat (first | exact .here | apply Upd.there)) ?_); clear F; clear M; intro w M a F)
      with_reducible refine l_nil ?_
      with_reducible refine q_then ?_
      with_reducible refine c_ret ?_
      have hAt : OffNew W.heap.size w ⟨⟨h, ps, cs⟩, u, v⟩ := by
        have hnb : ∀ p ∈ eu ++ ev, p.1 ∉ [bt] := fun p hp hb => (List.nodup_cons.1 M.nd).1 (by
          simp only [List.mem_singleton] at hb
          exact List.mem_map.2 ⟨p, by simp at hp ⊢; exact .inr (.inr hp), hb⟩)
        refine ⟨⟨hO.slAt M (fun p hp => by simp [hp]), hOv.slAt M (fun p hp => by simp [hp])⟩, hO.newVB M (fun p hp => by simp [hp]) (fun p hp => hnb p (List.mem_append_left _ hp)), hOv.newVB M (fun p hp => by simp [hp]) (fun p hp => hnb p (List.mem_append_right _ hp))⟩
      refine p_ret F rfl (.cons (.cell (F.ev rfl) (run_loadVar_agg TAgg.h (M.heap (.there (.there .here))) f0)) .nil) ⟨⟨⟨h, ps, cs⟩, u, v⟩, kk, rfl, ⟨hh, hps, hcs⟩, ⟨hpl, hcl⟩, hAt, ?_⟩
      exact M.sub (.cons_cons _ (List.nil_sublist _))
end Go.Proofs.Ytainnefmobfcjaa
/-! F7 -/
namespace Go.Proofs.Ytainnefmobfcjaa
set_option linter.unusedVariables false
set_option linter.unusedSimpArgs false
open Go.RowKit
attribute [local irreducible] OpTo wpListIn Code.wpIn MW Cal
theorem s_idxE {P : Program} {ρ : Operand → Value} {w : World} {R : Value → World → Prop} {d : Option Tmp} {ty : TypeId} {pos : String} {af : Array Edge} {g : Option (Nat × Bool)} {t : TypeId} {x i : Operand} {k : IntKind} {m : Int} {bs : List UInt8} {q : Nat} (hx : ρ x = mkS bs) (hi : ρ i = .int k m) [ht : TU P t .string] (hq : m = q) (hl : q < bs.length) (h : ∀ z : Int, 0 ≤ z → z ≤ 255 → R (.int .u8 z) w) : OpTo P ⟨d, .index t x i, ty, pos, af, g⟩ ρ w R :=
  s_idx hx hi hq hl (h _ (byte_lt _).1 (byte_lt _).2)
theorem len64one_c (W : World) : Cal Try.prog 123 [.int .u64 1].toArray W fun v w' => ∃ z : Int, v = .int .i64 z ∧ Mem [] W w' [] := by
  refine fn_ofM (n := 25) [] Try.func123 rfl rfl rfl ?_
  intro a w F M hwW
  with_reducible refine c_seq ?_
  with_reducible refine c_region ?_
  refine stepD rfl F rfl (o_assign (F.ev rfl) ?_); clear F; clear a; intro a F
  with_reducible refine l_nil ?_
  with_reducible refine q_then ?_
  with_reducible refine c_seq ?_
  with_reducible refine c_seq ?_
  with_reducible refine c_region ?_
  refine stepD rfl F rfl (o_move (F.ev rfl) ?_); clear F; clear a; intro a F
  refine stepD rfl F rfl (o_geqF (F.ev rfl) (F.ev rfl) (by omega) ?_); clear F; clear a; intro a F
  with_reducible refine l_nil ?_
  with_reducible refine q_then ?_
  refine c_false F rfl rfl ?_
  with_reducible refine c_skip ?_
  with_reducible refine q_then ?_
  with_reducible refine c_seq ?_
  with_reducible refine c_seq ?_
  with_reducible refine c_region ?_
  refine stepD rfl F rfl (o_move (F.ev rfl) ?_); clear F; clear a; intro a F
  refine stepD rfl F rfl (o_geqF (F.ev rfl) (F.ev rfl) (by omega) ?_); clear F; clear a; intro a F
  with_reducible refine l_nil ?_
  with_reducible refine q_then ?_
  refine c_false F rfl rfl ?_
  with_reducible refine c_skip ?_
  with_reducible refine q_then ?_
  with_reducible refine c_seq ?_
  with_reducible refine c_seq ?_
  with_reducible refine c_region ?_
  refine stepD rfl F rfl (o_move (F.ev rfl) ?_); clear F; clear a; intro a F
  refine stepD rfl F rfl (o_geqF (F.ev rfl) (F.ev rfl) (by omega) ?_); clear F; clear a; intro a F
  with_reducible refine l_nil ?_
  with_reducible refine q_then ?_
  refine c_false F rfl rfl ?_
  with_reducible refine c_skip ?_
  with_reducible refine q_then ?_
  with_reducible refine c_seq ?_
  with_reducible refine c_region ?_
  refine stepD rfl F rfl (o_move (F.ev rfl) ?_); clear F; clear a; intro a F
  refine stepD rfl F rfl (o_move (F.ev rfl) ?_); clear F; clear a; intro a F
  refine stepD rfl F rfl (o_conv (F.ev rfl) (w_u8 (by omega) (by omega)) ?_); clear F; clear a; intro a F
  (refine stepD rfl F rfl (s_idxE (q := 1) (F.ev rfl) (F.ev rfl) rfl (Nat.le_of_ble_eq_true (by kernel_rfl)) ?_); intro z hz0 hz1; clear F; clear a; intro a F)
  refine stepD rfl F rfl (o_conv (F.ev rfl) (w_i64 (by omega) (by omega)) ?_); clear F; clear a; intro a F
  refine stepD rfl F rfl (o_add (F.ev rfl) (F.ev rfl) (w_i64 (by omega) (by omega)) ?_); clear F; clear a; intro a F
  refine stepD rfl F rfl (o_assign (F.ev rfl) ?_); clear F; clear a; intro a F
  with_reducible refine l_nil ?_
  with_reducible refine q_then ?_
  with_reducible refine c_ret ?_
  refine p_ret F rfl (.cons (.tmp (F.ev rfl)) .nil) ?_
  exact ⟨z, by simp [oneOr], M⟩
theorem lenone_c (W : World) : Cal Try.prog 107 [.int .u64 1].toArray W fun v w' => ∃ z : Int, v = .int .i64 z ∧ Mem [] W w' [] := by
  refine fn_ofM (n := 8) [] Try.func107 rfl rfl rfl ?_
  intro a w F M hwW
  with_reducible refine c_seq ?_
  with_reducible refine c_region ?_
  refine stepD rfl F rfl (o_assign (F.ev rfl) ?_); clear F; clear a; intro a F
  with_reducible refine l_nil ?_
  with_reducible refine q_then ?_
  with_reducible refine c_seq ?_
  refine c_false F rfl rfl ?_
  with_reducible refine c_skip ?_
  with_reducible refine q_then ?_
  with_reducible refine c_seq ?_
  with_reducible refine c_region ?_
  refine stepD rfl F rfl (o_move (F.ev rfl) ?_); clear F; clear a; intro a F
  (refine stepD rfl F rfl (o_call (F.ev rfl) (F.evs rfl) (Cal.mono (len64one_c _ ) ?_)); clear F; clear a; rintro _ w ⟨z, rfl, N⟩ a F; replace M := M.joins N; clear N)
  refine stepD rfl F rfl (o_assign (F.ev rfl) ?_); clear F; clear a; intro a F
  with_reducible refine l_nil ?_
  with_reducible refine q_then ?_
  with_reducible refine c_ret ?_
  refine p_ret F rfl (.cons (.tmp (F.ev rfl)) .nil) ?_
  exact ⟨z, rfl, M⟩
theorem ins1_c (s g : Value) (W : World) : Cal Try.prog 114 [s, .int .i64 0, .int .i64 1, g].toArray W fun v w' => v = .tuple #[] ∧ Ext [] W w' := by
  refine fn_ofM (n := 53) [] Try.func114 rfl rfl rfl ?_
  intro a w F M hwW
  with_reducible refine c_seq ?_
  with_reducible refine c_region ?_
  refine stepD rfl F rfl (o_move (F.ev rfl) ?_); clear F; clear a; intro a F
  refine stepD rfl F rfl (o_add (F.ev rfl) (F.ev rfl) (w_i64 (by omega) (by omega)) ?_); clear F; clear a; intro a F
  refine stepD rfl F rfl (o_assign (F.ev rfl) ?_); clear F; clear a; intro a F
  with_reducible refine l_nil ?_
  with_reducible refine q_then ?_
  with_reducible refine c_block ?_
  refine c_loop (fun m a w => m = 0 ∧ Frm a 53 [] [(8, .int .i64 1), (2, .int .i64 1)] ∧ Mem [] W w []) 0 ⟨rfl, F.only [8, 2] rfl, M⟩ ?_
  clear F M
  rintro m a w ⟨hm, F, M⟩
  with_reducible refine c_seq ?_
  with_reducible refine c_seq ?_
  with_reducible refine c_region ?_
  refine stepD rfl F rfl (o_move (F.ev rfl) ?_); clear F; clear a; intro a F
  refine stepD rfl F rfl (o_move (F.ev rfl) ?_); clear F; clear a; intro a F
  refine stepD rfl F rfl (o_lssF (F.ev rfl) (F.ev rfl) (by omega) ?_); clear F; clear a; intro a F
  with_reducible refine l_nil ?_
  with_reducible refine q_then ?_
  refine c_false F rfl rfl ?_
  with_reducible refine c_exit ?_
  with_reducible refine q_thenX ?_
  with_reducible refine q_thenX ?_
  with_reducible refine q_inBX ?_
  exact p_end F rfl .nil ⟨rfl, M.ext⟩
theorem pdq1_c (s g : Value) (z : Int) (W : World) : Cal Try.prog 106 [s, .int .i64 0, .int .i64 1, .int .i64 z, g].toArray W fun v w' => v = .tuple #[] ∧ Ext [] W w' := by
  refine fn_ofM (n := 148) [] Try.func106 rfl rfl rfl ?_
  intro a w F M hwW
  with_reducible refine c_seq ?_
  with_reducible refine c_region ?_
  refine stepD rfl F rfl (o_assign (F.ev rfl) ?_); clear F; clear a; intro a F
  with_reducible refine l_nil ?_
  with_reducible refine q_then ?_
  with_reducible refine c_seq ?_
  with_reducible refine c_region ?_
  refine stepD rfl F rfl (o_assign (F.ev rfl) ?_); clear F; clear a; intro a F
  with_reducible refine l_nil ?_
  with_reducible refine q_then ?_
  with_reducible refine c_block ?_
  refine c_loop (fun m a w => m = 0 ∧ Frm a 148 [] [(0, s), (1, .int .i64 0), (2, .int .i64 1), (3, .int .i64 z), (4, g)] ∧ Mem [] W w []) 0 ⟨rfl, F.only [0, 1, 2, 3, 4] rfl, M⟩ ?_
  clear F M
  rintro m a w ⟨hm, F, M⟩
  with_reducible refine c_block ?_
  with_reducible refine c_seq ?_
  with_reducible refine c_region ?_
  refine stepD rfl F rfl (o_move (F.ev rfl) ?_); clear F; clear a; intro a F
  refine stepD rfl F rfl (o_move (F.ev rfl) ?_); clear F; clear a; intro a F
  refine stepD rfl F rfl (o_sub (F.ev rfl) (F.ev rfl) (w_i64 (by omega) (by omega)) ?_); clear F; clear a; intro a F
  refine stepD rfl F rfl (o_assign (F.ev rfl) ?_); clear F; clear a; intro a F
  with_reducible refine l_nil ?_
  with_reducible refine q_then ?_
  with_reducible refine c_seq ?_
  with_reducible refine c_seq ?_
  with_reducible refine c_region ?_
  refine stepD rfl F rfl (o_move (F.ev rfl) ?_); clear F; clear a; intro a F
  refine stepD rfl F rfl (o_leqT (F.ev rfl) (F.ev rfl) (by omega) ?_); clear F; clear a; intro a F
  with_reducible refine l_nil ?_
  with_reducible refine q_then ?_
  refine c_true F rfl rfl ?_
  with_reducible refine c_seq ?_
  with_reducible refine c_region ?_
  refine stepD rfl F rfl (o_move (F.ev rfl) ?_); clear F; clear a; intro a F
  refine stepD rfl F rfl (o_move (F.ev rfl) ?_); clear F; clear a; intro a F
  refine stepD rfl F rfl (o_move (F.ev rfl) ?_); clear F; clear a; intro a F
  refine stepD rfl F rfl (o_move (F.ev rfl) ?_); clear F; clear a; intro a F
  (refine stepD rfl F rfl (o_call (F.ev rfl) (F.evs rfl) (Cal.mono (ins1_c _ _ _) ?_)); clear F; clear a; rintro _ w ⟨rfl, hE⟩ a F; replace M := M.later hE; clear hE)
  with_reducible refine l_nil ?_
  with_reducible refine q_then ?_
  with_reducible refine c_ret ?_
  with_reducible refine q_thenR ?_
  with_reducible refine q_inBR ?_
  with_reducible refine q_thenR ?_
  with_reducible refine q_inBR ?_
  refine p_ret F rfl .nil ?_
  exact ⟨rfl, M.ext⟩
theorem sort1_c (b c : Nat) (g : Value) (W : World) : Cal Try.prog 89 [.slice (some ⟨b, 0, none⟩) 1 c, g].toArray W fun v w' => v = .tuple #[] ∧ Ext [] W w' := by
  refine fn_ofM (n := 14) [] Try.func89 rfl rfl rfl ?_
  intro a w F M hwW
  with_reducible refine c_seq ?_
  with_reducible refine c_region ?_
  refine stepD rfl F rfl (o_move (F.ev rfl) ?_); clear F; clear a; intro a F
  refine stepD rfl F rfl (o_lenSl (F.ev rfl) ?_); clear F; clear a; intro a F
  refine stepD rfl F rfl (o_assign (F.ev rfl) ?_); clear F; clear a; intro a F
  with_reducible refine l_nil ?_
  with_reducible refine q_then ?_
  with_reducible refine c_region ?_
  refine stepD rfl F rfl (o_move (F.ev rfl) ?_); clear F; clear a; intro a F
  refine stepD rfl F rfl (o_move (F.ev rfl) ?_); clear F; clear a; intro a F
  refine stepD rfl F rfl (o_move (F.ev rfl) ?_); clear F; clear a; intro a F
  refine stepD rfl F rfl (o_conv (F.ev rfl) (w_u64 (by omega) (by omega)) ?_); clear F; clear a; intro a F
  (refine stepD rfl F rfl (o_call (F.ev rfl) (F.evs rfl) (Cal.mono (lenone_c _ ) ?_)); clear F; clear a; rintro _ w ⟨z, rfl, N⟩ a F; replace M := M.joins N; clear N)
  refine stepD rfl F rfl (o_move (F.ev rfl) ?_); clear F; clear a; intro a F
  (refine stepD rfl F rfl (o_call (F.ev rfl) (F.evs rfl) (Cal.mono (pdq1_c _ _ _ _) ?_)); clear F; clear a; rintro _ w ⟨rfl, hE⟩ a F; replace M := M.later hE; clear hE)
  with_reducible refine l_nil ?_
  exact p_end F rfl .nil ⟨rfl, M.ext⟩
theorem compact1_c (b c : Nat) (W : World) : Cal Try.prog 90 [.slice (some ⟨b, 0, none⟩) 1 c].toArray W fun v w' => v = .slice (some ⟨b, 0, none⟩) 1 c ∧ Ext [] W w' := by
  refine fn_ofM (n := 61) [] Try.func90 rfl rfl rfl ?_
  intro a w F M hwW
  with_reducible refine c_seq ?_
  with_reducible refine c_region ?_
  refine stepD rfl F rfl (o_assign (F.ev rfl) ?_); clear F; clear a; intro a F
  with_reducible refine l_nil ?_
  with_reducible refine q_then ?_
  with_reducible refine c_seq ?_
  with_reducible refine c_seq ?_
  with_reducible refine c_region ?_
  refine stepD rfl F rfl (o_move (F.ev rfl) ?_); clear F; clear a; intro a F
  refine stepD rfl F rfl (o_lenSl (F.ev rfl) ?_); clear F; clear a; intro a F
  refine stepD rfl F rfl (o_lssT (F.ev rfl) (F.ev rfl) (by omega) ?_); clear F; clear a; intro a F
  with_reducible refine l_nil ?_
  with_reducible refine q_then ?_
  refine c_true F rfl rfl ?_
  with_reducible refine c_seq ?_
  with_reducible refine c_region ?_
  refine stepD rfl F rfl (o_move (F.ev rfl) ?_); clear F; clear a; intro a F
  refine stepD rfl F rfl (o_assign (F.ev rfl) ?_); clear F; clear a; intro a F
  with_reducible refine l_nil ?_
  with_reducible refine q_then ?_
  with_reducible refine c_ret ?_
  with_reducible refine q_thenR ?_
  refine p_ret F rfl (.cons (.tmp (F.ev rfl)) .nil) ?_
  exact ⟨rfl, M.ext⟩
end Go.Proofs.Ytainnefmobfcjaa

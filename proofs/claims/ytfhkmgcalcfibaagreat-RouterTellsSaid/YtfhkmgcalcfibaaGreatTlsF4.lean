/-
  Texts joined.
-/
import Derived.Test.YtfhkmgcalcfibaaGreatTlsF3
import Derived.Shelf.SlSortCmp.WholeK
import Derived.Shelf.SlSortCmp.NoneTotal
import Derived.Test.YtfhkmgcalcfibaaGreatProg
set_option linter.unusedVariables false
set_option linter.unusedSimpArgs false
set_option maxHeartbeats 64000000
namespace Go.Proofs.YtfhkmgcalcfibaaGreat
open Go.RowKit
attribute [local irreducible] OpTo wpListIn Code.wpIn MW Cal
theorem qclean_c (o : QuaV) (hb : BdQu o) (W : World) : Cal Tryz.prog 249 [.agg (quC o).toArray].toArray W fun r w' => r = .agg (quC (quClean o)).toArray ∧ Ext [] W w' := by
 unfold quClean
 cases hv : quValid o with
 | true =>
  rw [if_pos rfl]
  refine g_start (n := 8) (S := []) fldT_ok slcT_ok Tryz.func249 rfl rfl rfl (gR 2 rfl (g_box rfl rfl fun b1 => g_alloc fun b2 => gR 5 rfl (g_ldA 1 rfl rfl (qu_all trivial) (g_call rfl rfl (fun w M => qvalid_c _ ‹_› _) ?_))))
  refine gR 3 rfl (g_ifF rfl (notF ‹_›) ?_)
  refine gR 4 rfl (g_ldA 1 rfl rfl (qu_all trivial) (g_stA 0 rfl rfl (qu_len trivial) (qu_one _) rfl (put_all (by rw [qu_len trivial];first | rfl | rw [qu_len ‹_›])) rfl ?_))
  exact gR 3 rfl (g_retC 0 rfl rfl rfl rfl (qu_all trivial) fun w M => ⟨rfl, M.ext⟩)
 | false =>
  rw [if_neg Bool.false_ne_true]
  refine g_start (n := 8) (S := []) fldT_ok slcT_ok Tryz.func249 rfl rfl rfl (gR 2 rfl (g_box rfl rfl fun b1 => g_alloc fun b2 => gR 5 rfl (g_ldA 1 rfl rfl (qu_all trivial) (g_call rfl rfl (fun w M => qvalid_c _ ‹_› _) ?_))))
  refine gR 3 rfl (g_ifT rfl (notT ‹_›) ?_)
  refine gR 2 rfl (g_v (fun a w F M R r => o_build F rfl rfl r) ?_)
  refine g_stA 0 rfl rfl rfl rfl rfl rfl rfl ?_
  exact gR 4 rfl (g_retC 0 rfl rfl rfl rfl rfl fun w M => ⟨rfl, M.ext⟩)
theorem rqclean_c (o : QuaV) (hb : BdQu o) (W : World) : Cal Tryz.prog 227 [.agg (quC o).toArray].toArray W fun r w' => r = .agg (quC (quClean o)).toArray ∧ Ext [] W w' := by
 unfold quClean
 cases hv : quValid o with
 | true =>
  rw [if_pos rfl]
  refine g_start (n := 8) (S := []) fldT_ok slcT_ok Tryz.func227 rfl rfl rfl (gR 2 rfl (g_box rfl rfl fun b1 => g_alloc fun b2 => gR 5 rfl (g_ldA 1 rfl rfl (qu_all trivial) (g_call rfl rfl (fun w M => rqvalid_c _ ‹_› _) ?_))))
  refine gR 3 rfl (g_ifF rfl (notF ‹_›) ?_)
  refine gR 4 rfl (g_ldA 1 rfl rfl (qu_all trivial) ?_)
  refine g_stA 0 rfl rfl rfl rfl rfl rfl rfl ?_
  exact gR 3 rfl (g_retC 0 rfl rfl rfl rfl rfl fun w M => ⟨rfl, M.ext⟩)
 | false =>
  rw [if_neg Bool.false_ne_true]
  refine g_start (n := 8) (S := []) fldT_ok slcT_ok Tryz.func227 rfl rfl rfl (gR 2 rfl (g_box rfl rfl fun b1 => g_alloc fun b2 => gR 5 rfl (g_ldA 1 rfl rfl (qu_all trivial) (g_call rfl rfl (fun w M => rqvalid_c _ ‹_› _) ?_))))
  refine gR 3 rfl (g_ifT rfl (notT ‹_›) ?_)
  refine gR 2 rfl (g_v (fun a w F M R r => o_build F rfl rfl r) ?_)
  refine g_stA 0 rfl rfl rfl rfl rfl rfl rfl ?_
  exact gR 4 rfl (g_retC 0 rfl rfl rfl rfl rfl fun w M => ⟨rfl, M.ext⟩)
theorem upV_bd {a b : Int} (h0 : 0 ≤ a) (h1 : a ≤ 4294967296) (h2 : 0 < b) (h3 : b ≤ 65536) : 0 ≤ upV a b ∧ upV a b ≤ 4295032832 := by
 unfold upV
 rw [Int.tdiv_eq_ediv_of_nonneg (by omega)]
 have k1 := Int.ediv_nonneg (show 0 ≤ a + b - 1 by omega) (show 0 ≤ b by omega)
 have k2 := Int.ediv_le_self b (show 0 ≤ a + b - 1 by omega)
 omega
theorem qratio_c (a b : Int) (h0 : 0 ≤ a) (h1 : a ≤ 4294967296) (h2 : 0 < b) (h3 : b ≤ 65536) (W : World) : Cal Tryz.prog 250 [.int .i64 a, .int .i64 b].toArray W fun r w' => r = .int .i64 (upV a b) ∧ Ext [] W w' := by
 have hq := upV_bd h0 h1 h2 h3
 have hw : IntKind.i64.wrap ((a + b - 1).tdiv b) = upV a b := w_i64 (by unfold upV at hq;omega) (by unfold upV at hq;omega)
 exact g_start (n := 11) (S := []) fldT_ok slcT_ok Tryz.func250 rfl rfl rfl (gR 9 rfl (g_add rfl rfl (w_i64 (by omega) (by omega)) (g_sub rfl rfl (w_i64 (by omega) (by omega)) (gR 1 rfl (g_v (fun a w F M R r => o_quo (F.e rfl) (F.e rfl) (by omega) rfl r) (gR 4 rfl (g_ret1 rfl rfl rfl fun w M => ⟨by rw [hw], M.ext⟩)))))))
theorem rqup_c (a b : Int) (h0 : 0 ≤ a) (h1 : a ≤ 4294967296) (h2 : 0 < b) (h3 : b ≤ 65536) (W : World) : Cal Tryz.prog 283 [.int .i64 a, .int .i64 b].toArray W fun r w' => r = .int .i64 (upV a b) ∧ Ext [] W w' := by
 have hq := upV_bd h0 h1 h2 h3
 have hw : IntKind.i64.wrap ((a + b - 1).tdiv b) = upV a b := w_i64 (by unfold upV at hq;omega) (by unfold upV at hq;omega)
 exact g_start (n := 11) (S := []) fldT_ok slcT_ok Tryz.func283 rfl rfl rfl (gR 9 rfl (g_add rfl rfl (w_i64 (by omega) (by omega)) (g_sub rfl rfl (w_i64 (by omega) (by omega)) (gR 1 rfl (g_v (fun a w F M R r => o_quo (F.e rfl) (F.e rfl) (by omega) rfl r) (gR 4 rfl (g_ret1 rfl rfl rfl fun w M => ⟨by rw [hw], M.ext⟩)))))))
theorem qrx_c (o : QuaV) (hb : BdQu o) (W : World) : Cal Tryz.prog 162 [.agg (quC o).toArray].toArray W fun r w' => r = .int .i64 (rxV o) ∧ Ext [] W w' := by
 have hb' := quClean_bd hb
 have hc := clean_cnt o
 have hpc := pop_clean hb
 have hb1 := hb'.h
 have hp8 := popN_bd hb1.1 hb1.2 8 (by omega)
 cases hk : (quClean o).known with
 | false =>
  have hz := clean_not hk
  unfold rxV
  rw [if_pos (hpc.2 hk)]
  refine g_start (n := 27) (S := []) fldT_ok slcT_ok Tryz.func162 rfl rfl rfl (gR 2 rfl (g_box rfl rfl fun b1 => gR 5 rfl (g_ldA 0 rfl rfl (qu_all trivial) (g_call rfl rfl (fun w M => qclean_c _ ‹_› _) ?_))))
  refine g_stA 0 rfl rfl rfl rfl rfl rfl rfl ?_
  refine gR 6 rfl (g_ld1 0 rfl rfl rfl (gR 3 rfl (g_ifT rfl (notT ‹_›) ?_)))
  exact gR 7 rfl (g_ret1 rfl rfl rfl fun w M => ⟨rfl, M.ext⟩)
 | true =>
  have hn : popN (quClean o).heard 8 ≠ 0 := fun e => by rw [hpc.1 e] at hk;cases hk
  unfold rxV
  rw [if_neg hn]
  refine g_start (n := 27) (S := []) fldT_ok slcT_ok Tryz.func162 rfl rfl rfl (gR 2 rfl (g_box rfl rfl fun b1 => gR 5 rfl (g_ldA 0 rfl rfl (qu_all trivial) (g_call rfl rfl (fun w M => qclean_c _ ‹_› _) ?_))))
  refine g_stA 0 rfl rfl rfl rfl rfl rfl rfl ?_
  refine gR 6 rfl (g_ld1 0 rfl rfl rfl (gR 3 rfl (g_ifF rfl (notF ‹_›) ?_)))
  refine gR 14 rfl (g_loop (ι := Nat) ⟨fun i => 8 - i, fun i => i ≤ 8, fun (i : Nat) => [(10, .int .i64 i), (3, .int .i64 (popN (quClean o).heard i)), (1, .pointer (some ⟨b1, 0, none⟩))], fun _ => [[(b1, .cells (quC (quClean o)).toArray 122 (0, 0))]]⟩ 0 (by omega) (fun a F => F.only [10, 3, 1] rfl) (by repeat (first | exact .refl _ | apply sC2 | apply sC1)) ?_)
  intro i hi
  dsimp only at hi ⊢
  by_cases hlt : i < 8
  ·have hbi : IntKind.i64.wrap (bitsOf .and .u8 (Int.fdiv (quClean o).heard (2 ^ min (i : Int).toNat IntKind.u8.bits)) 1) = bitAt (quClean o).heard i ∧ 0 ≤ bitAt (quClean o).heard i ∧ bitAt (quClean o).heard i ≤ 1 := bit_is hb1.1 hb1.2 hlt
   have hpi := popN_bd hb1.1 hb1.2 i (by omega)
   have hps := popN_succ (quClean o).heard i
   refine gR 6 rfl (g_ifT rfl (dqT (by omega)) (gR 13 rfl (g_ld1 0 rfl rfl (qu_heard trivial) (gR 1 rfl (g_v (fun a w F M R r => o_shr (F.e rfl) (F.e rfl) (by omega) rfl r) (g_v (fun a w F M R r => o_and (F.e rfl) (F.e rfl) rfl r) (g_conv rfl rfl (g_add rfl rfl (w_i64 (by omega) (by omega)) (gR 5 rfl (g_add rfl rfl (w_i64 (by omega) (by omega)) (gR 2 rfl ?_)))))))))))
   exact g_next (i + 1) (by dsimp only;omega) (by dsimp only;omega) (fun a F => by dsimp only;rw [hps, ← hbi.1];exact F.only [10, 3, 1] rfl) (by (try dsimp only);repeat (first | exact .refl _ | with_reducible exact sC0 _ | with_reducible apply sC2 | apply sC1))
  ·obtain rfl : i = 8 := by omega
   exact gR 9 rfl (g_outX (gR 5 rfl (g_ld1 0 rfl rfl (qu_cnt trivial) (g_mul rfl rfl (w_i64 (by omega) (by omega)) (gR 1 rfl (g_call rfl rfl (fun w M => qratio_c _ _ (by omega) (by omega) (by omega) (by omega) _) (gR 4 rfl (g_ret1 rfl rfl rfl fun w M => ⟨rfl, M.ext⟩))))))))
theorem rqrx_c (o : QuaV) (hb : BdQu o) (W : World) : Cal Tryz.prog 207 [.agg (quC o).toArray].toArray W fun r w' => r = .int .i64 (rxV o) ∧ Ext [] W w' := by
 have hb' := quClean_bd hb
 have hc := clean_cnt o
 have hb1 := hb'.h
 have hp8 := popN_bd hb1.1 hb1.2 8 (by omega)
 refine g_start (n := 26) (S := []) fldT_ok slcT_ok Tryz.func207 rfl rfl rfl (gR 2 rfl (g_box rfl rfl fun b1 => gR 5 rfl (g_ldA 0 rfl rfl (qu_all trivial) (g_call rfl rfl (fun w M => rqclean_c _ ‹_› _) ?_))))
 refine g_stA 0 rfl rfl rfl rfl rfl rfl rfl ?_
 refine gR 14 rfl (g_loop (ι := Nat) ⟨fun i => 8 - i, fun i => i ≤ 8, fun (i : Nat) => [(4, .int .u64 i), (3, .int .i64 (popN (quClean o).heard i)), (1, .pointer (some ⟨b1, 0, none⟩))], fun _ => [[(b1, .cells (quC (quClean o)).toArray 122 (0, 0))]]⟩ 0 (by omega) (fun a F => F.only [4, 3, 1] rfl) (by repeat (first | exact .refl _ | apply sC2 | apply sC1)) ?_)
 intro i hi
 dsimp only at hi ⊢
 by_cases hlt : i < 8
 ·have hbi : bitsOf .and .i64 (IntKind.i64.wrap (Int.fdiv (quClean o).heard (2 ^ min (i : Int).toNat IntKind.u8.bits))) 1 = bitAt (quClean o).heard i ∧ 0 ≤ bitAt (quClean o).heard i ∧ bitAt (quClean o).heard i ≤ 1 := ⟨rfl, (bit_is hb1.1 hb1.2 hlt).2⟩
  have hpi := popN_bd hb1.1 hb1.2 i (by omega)
  have hps := popN_succ (quClean o).heard i
  refine gR 7 rfl (g_ifT rfl (dqT (by omega)) (gR 7 rfl (g_ld1 0 rfl rfl (qu_heard trivial) (gR 1 rfl (g_v (fun a w F M R r => o_shr (F.e rfl) (F.e rfl) (by omega) rfl r) (g_conv rfl rfl (g_v (fun a w F M R r => o_and (F.e rfl) (F.e rfl) rfl r) (g_add rfl rfl (w_i64 (by omega) (by omega)) (gR 6 rfl (g_add rfl rfl (w_u64 (by omega) (by omega)) (gR 2 rfl ?_)))))))))))
  exact g_next (i + 1) (by dsimp only;omega) (by dsimp only;omega) (fun a F => by dsimp only;rw [hps, ← hbi.1];exact F.only [4, 3, 1] rfl) (by (try dsimp only);repeat (first | exact .refl _ | with_reducible exact sC0 _ | with_reducible apply sC2 | apply sC1))
 ·obtain rfl : i = 8 := by omega
  unfold rxV
  by_cases hn : popN (quClean o).heard 8 = 0
  ·rw [if_pos hn]
   exact gR 10 rfl (g_outX (gR 9 rfl (g_ifT rfl (dqT (by omega)) (gR 7 rfl (g_ret1 rfl rfl rfl fun w M => ⟨rfl, M.ext⟩)))))
  ·rw [if_neg hn]
   exact gR 10 rfl (g_outX (gR 9 rfl (g_ifF rfl (dqF (by omega)) (gR 5 rfl (g_ld1 0 rfl rfl (qu_cnt trivial) (g_mul rfl rfl (w_i64 (by omega) (by omega)) (gR 1 rfl (g_call rfl rfl (fun w M => rqup_c _ _ (by omega) (by omega) (by omega) (by omega) _) (gR 4 rfl (g_ret1 rfl rfl rfl fun w M => ⟨rfl, M.ext⟩))))))))))
theorem mul_bd {a b : Int} (h0 : 0 ≤ a) (h1 : a ≤ 65535) (h2 : 0 ≤ b) (h3 : b ≤ 65535) : 0 ≤ a * b ∧ a * b ≤ 4294967296 := by
 have k1 := Int.mul_nonneg h0 h2
 have k2 := Int.mul_le_mul h1 h3 h2 (show (0 : Int) ≤ 65535 by omega)
 omega
theorem qcost_c (o : QuaV) (hb : BdQu o) (W : World) : Cal Tryz.prog 202 [.agg (quC o).toArray].toArray W fun r w' => r = .int .i64 (costV o) ∧ Ext [] W w' := by
 have hb' := quClean_bd hb
 have hc := clean_cnt o
 have hr := rx_bd hb'
 have hm := mul_bd (show 0 ≤ (if (quClean o).rep < 256 then 256 else (quClean o).rep) by split <;> omega) (show (if (quClean o).rep < 256 then 256 else (quClean o).rep) ≤ 65535 by split <;> omega) hr.1 hr.2
 have hq := upV_bd hm.1 hm.2 (show (0 : Int) < 256 by omega) (by omega)
 have c1 : rxV (quClean o) = 65535 ∨ (quClean o).rep = 0 ∨ (quClean o).rep = 65535 → Value.int .i64 65535 = .int .i64 (costV o) := fun h => by unfold costV;rw [if_pos h]
 have c2 : ¬ (rxV (quClean o) = 65535 ∨ (quClean o).rep = 0 ∨ (quClean o).rep = 65535) → Value.int .i64 (if 65534 < upV ((if (quClean o).rep < 256 then 256 else (quClean o).rep) * rxV (quClean o)) 256 then 65534 else upV ((if (quClean o).rep < 256 then 256 else (quClean o).rep) * rxV (quClean o)) 256) = .int .i64 (costV o) := fun h => by unfold costV;rw [if_neg h]
 refine g_start (n := 27) (S := []) fldT_ok slcT_ok Tryz.func202 rfl rfl rfl (gR 2 rfl (g_box rfl rfl fun b1 => gR 5 rfl (g_ldA 0 rfl rfl (qu_all trivial) (g_call rfl rfl (fun w M => qclean_c _ ‹_› _) ?_))))
 refine g_stA 0 rfl rfl rfl rfl rfl rfl rfl ?_
 refine gR 4 rfl (g_ldA 0 rfl rfl rfl ?_)
 refine g_call rfl rfl (fun w M => qrx_c _ ‹_› _) ?_
 refine gR 9 rfl (g_split 10 rfl (fun h1 => ?_) (fun h1 => ?_))
 ·replace h1 := dqU h1
  exact gR 19 rfl (g_ret1 rfl rfl rfl fun w M => ⟨c1 (by simp_all), M.ext⟩)
 ·replace h1 := dqV h1
  refine gR 1 rfl (g_ld1 0 rfl rfl rfl (gR 3 rfl (g_split 15 rfl (fun h2 => ?_) (fun h2 => ?_))))
  ·replace h2 := dqU h2
   exact gR 14 rfl (g_ret1 rfl rfl rfl fun w M => ⟨c1 (by simp_all), M.ext⟩)
  ·replace h2 := dqV h2
   refine gR 1 rfl (g_ld1 0 rfl rfl rfl (gR 4 rfl (g_if rfl (fun h3 => ?_) (fun h3 => ?_))))
   ·replace h3 := dqU h3
    exact gR 7 rfl (g_ret1 rfl rfl rfl fun w M => ⟨c1 (by simp_all), M.ext⟩)
   ·replace h3 := dqV h3
    exact gR 5 rfl (g_ld1 0 rfl rfl rfl (g_v (fun a w F M R r => o_max (F.e rfl) (F.e rfl) r) (gR 1 rfl (g_mul rfl rfl (w_i64 (by omega) (by omega)) (g_call rfl rfl (fun w M => qratio_c _ _ (by omega) (by omega) (by omega) (by omega) _) (g_v (fun a w F M R r => o_min (F.e rfl) (F.e rfl) r) (gR 4 rfl (g_ret1 rfl rfl rfl fun w M => ⟨c2 (by simp_all), M.ext⟩))))))))
theorem rqcost_c (o : QuaV) (hb : BdQu o) (W : World) : Cal Tryz.prog 203 [.agg (quC o).toArray].toArray W fun r w' => r = .int .i64 (costV o) ∧ Ext [] W w' := by
 have hb' := quClean_bd hb
 have hc := clean_cnt o
 have hr := rx_bd hb'
 have hm := mul_bd (show 0 ≤ (if (quClean o).rep < 256 then 256 else (quClean o).rep) by split <;> omega) (show (if (quClean o).rep < 256 then 256 else (quClean o).rep) ≤ 65535 by split <;> omega) hr.1 hr.2
 have hq := upV_bd hm.1 hm.2 (show (0 : Int) < 256 by omega) (by omega)
 have c1 : rxV (quClean o) = 65535 ∨ (quClean o).rep = 0 ∨ (quClean o).rep = 65535 → Value.int .i64 65535 = .int .i64 (costV o) := fun h => by unfold costV;rw [if_pos h]
 have c2 : ¬ (rxV (quClean o) = 65535 ∨ (quClean o).rep = 0 ∨ (quClean o).rep = 65535) → Value.int .i64 (if 65534 < upV ((if (quClean o).rep < 256 then 256 else (quClean o).rep) * rxV (quClean o)) 256 then 65534 else upV ((if (quClean o).rep < 256 then 256 else (quClean o).rep) * rxV (quClean o)) 256) = .int .i64 (costV o) := fun h => by unfold costV;rw [if_neg h]
 refine g_start (n := 26) (S := []) fldT_ok slcT_ok Tryz.func203 rfl rfl rfl (gR 2 rfl (g_box rfl rfl fun b1 => gR 5 rfl (g_ldA 0 rfl rfl (qu_all trivial) (g_call rfl rfl (fun w M => rqclean_c _ ‹_› _) ?_))))
 refine g_stA 0 rfl rfl rfl rfl rfl rfl rfl ?_
 refine gR 5 rfl (g_ldA 0 rfl rfl rfl ?_)
 refine g_call rfl rfl (fun w M => rqrx_c _ ‹_› _) ?_
 refine gR 2 rfl (g_split 8 rfl (fun h1 => ?_) (fun h1 => ?_))
 ·replace h1 := dqU h1
  exact gR 19 rfl (g_ret1 rfl rfl rfl fun w M => ⟨c1 (by simp_all), M.ext⟩)
 ·replace h1 := dqV h1
  refine gR 1 rfl (g_ld1 0 rfl rfl rfl (gR 3 rfl (g_split 13 rfl (fun h2 => ?_) (fun h2 => ?_))))
  ·replace h2 := dqU h2
   exact gR 14 rfl (g_ret1 rfl rfl rfl fun w M => ⟨c1 (by simp_all), M.ext⟩)
  ·replace h2 := dqV h2
   refine gR 1 rfl (g_ld1 0 rfl rfl rfl (gR 4 rfl (g_if rfl (fun h3 => ?_) (fun h3 => ?_))))
   ·replace h3 := dqU h3
    exact gR 7 rfl (g_ret1 rfl rfl rfl fun w M => ⟨c1 (by simp_all), M.ext⟩)
   ·replace h3 := dqV h3
    refine gR 3 rfl (g_draw 9 26 rfl (by kernel_rfl) (fR 1 rfl (fd_ld1 0 rfl rfl rfl (fd_v (fun a w F M R r => o_max (F.e rfl) (F.e rfl) r) (fd_ldA 0 rfl rfl rfl ?_)))))
    refine fd_call rfl rfl (fun w M => rqrx_c _ ‹_› _) ?_
    exact fd_mul rfl rfl (w_i64 (by omega) (by omega)) (fd_call rfl rfl (fun w M => rqup_c _ _ (by omega) (by omega) (by omega) (by omega) _) (fd_v (fun a w F M R r => o_min (F.e rfl) (F.e rfl) r) (fR 1 rfl (fd_done rfl rfl (gR 3 rfl (g_ret1 rfl rfl rfl fun w M => ⟨c2 (by simp_all), M.ext⟩))))))
theorem u8_bd (x : Int) : 0 ≤ IntKind.u8.wrap x ∧ IntKind.u8.wrap x < 256 := by
 simp only [IntKind.wrap, IntKind.signed, IntKind.bits, Bool.false_and, Bool.false_eq_true, if_false]
 omega
def addQ (o : QuaV) (e : Int) : QuaV := { o with heard := IntKind.u8.wrap (bitsOf .and .i64 (o.heard * 2 + e) 255), cnt := if 8 < o.cnt + 1 then 8 else o.cnt + 1 }
structure SmQu (o : QuaV) : Prop where
 b : BdQu o
 c : 0 ≤ o.cnt ∧ o.cnt ≤ 8
theorem SmQu.clean {o : QuaV} (h : BdQu o) : SmQu (quClean o) := ⟨quClean_bd h, by have := clean_cnt o;omega⟩
theorem SmQu.add {o : QuaV} (h : SmQu o) (e : Int) : SmQu (addQ o e) := ⟨⟨u8_bd _, by have := h.c;unfold addQ;dsimp only;split <;> omega, h.b.r⟩, by have := h.c;unfold addQ;dsimp only;split <;> omega⟩
theorem rqadd_c (o : QuaV) (hb : SmQu o) (e : Int) (h0 : 0 ≤ e) (h1 : e ≤ 1) (W : World) : Cal Tryz.prog 228 [.agg (quC o).toArray, .int .i64 e].toArray W fun r w' => r = .agg (quC (addQ o e)).toArray ∧ Ext [] W w' := by
 have hb1 := hb.b.h
 have hc := hb.c
 refine g_start (n := 20) (S := []) fldT_ok slcT_ok Tryz.func228 rfl rfl rfl (gR 2 rfl (g_box rfl rfl fun b2 => g_alloc fun b4 => gR 5 rfl (g_ld1 1 rfl rfl (qu_heard trivial) (g_conv rfl (w_i64 (by omega) (by omega)) (g_mul rfl rfl (w_i64 (by omega) (by omega)) (gR 1 rfl (g_add rfl rfl (w_i64 (by omega) (by omega)) (g_v (fun a w F M R r => o_and (F.e rfl) (F.e rfl) rfl r) (g_conv rfl rfl (gR 1 rfl (g_st1 1 rfl rfl rfl rfl rfl rfl (gR 5 rfl (g_ld1 1 rfl rfl rfl (g_add rfl rfl (w_i64 (by omega) (by omega)) (g_v (fun a w F M R r => o_min (F.e rfl) (F.e rfl) r) (gR 1 rfl (g_st1 1 rfl rfl rfl rfl rfl rfl (gR 4 rfl (g_ldA 1 rfl rfl rfl ?_)))))))))))))))))))
 refine g_stA 0 rfl rfl rfl rfl rfl rfl rfl ?_
 exact gR 3 rfl (g_retC 0 rfl rfl rfl rfl rfl fun w M => ⟨rfl, M.ext⟩)
def PhQ (r : Value) (W w' : World) : Prop := ∃ o, SmQu o ∧ r = .agg (quC o).toArray ∧ Ext [] W w'
theorem rqhello_c (o : QuaV) (hb : BdQu o) (s : Int) (W : World) : Cal Tryz.prog 139 [.agg (quC o).toArray, .int .u16 s].toArray W fun r w' => PhQ r W w' := by
 have hs := SmQu.clean hb
 refine g_start (n := 53) (S := []) fldT_ok slcT_ok Tryz.func139 rfl rfl rfl (gR 2 rfl (g_box rfl rfl fun b2 => g_alloc fun b4 => gR 4 rfl (g_ldA 1 rfl rfl (qu_all trivial) (g_call rfl rfl (fun w M => rqclean_c _ ‹_› _) ?_))))
 refine g_stA 1 rfl rfl (qu_len trivial) (qu_one _) rfl (put_all (by rw [qu_len trivial];first | rfl | rw [qu_len ‹_›])) rfl ?_
 refine gR 6 rfl (g_ld1 1 rfl rfl (qu_next trivial) (g_sub rfl rfl rfl (g_conv rfl rfl (g_conv rfl rfl (gR 7 rfl (g_ld1 1 rfl rfl (qu_known trivial) (gR 2 rfl (g_split 17 rfl (fun h1 => ?_) (fun h1 => ?_)))))))))
 ·replace h1 := false_of_not h1
  refine gR 13 rfl (g_add rfl rfl rfl (g_v (fun a w F M R r => o_build F rfl rfl r) ?_))
  refine g_stA 0 rfl rfl rfl rfl rfl rfl rfl ?_
  refine gR 4 rfl (g_retC 0 rfl rfl rfl rfl rfl fun w M => ?_)
  exact ⟨⟨true, 1, 1, IntKind.u16.wrap (s + 1), 0⟩, ⟨⟨by dsimp only;omega, by dsimp only;omega, by dsimp only;omega⟩, by dsimp only;omega⟩, rfl, M.ext⟩
 replace h1 := true_of_not h1
 refine gR 4 rfl (g_split 21 rfl (fun h2 => ?_) (fun h2 => ?_))
 ·replace h2 := dqU h2
  refine gR 9 rfl (g_add rfl rfl rfl (g_v (fun a w F M R r => o_build F rfl rfl r) ?_))
  refine g_stA 0 rfl rfl rfl rfl rfl rfl rfl ?_
  refine gR 4 rfl (g_retC 0 rfl rfl rfl rfl rfl fun w M => ?_)
  exact ⟨⟨true, 1, 1, IntKind.u16.wrap (s + 1), 0⟩, ⟨⟨by dsimp only;omega, by dsimp only;omega, by dsimp only;omega⟩, by dsimp only;omega⟩, rfl, M.ext⟩
 replace h2 := dqV h2
 refine gR 5 rfl (g_if rfl (fun h3 => ?_) (fun h3 => ?_))
 ·replace h3 := dqU h3
  refine gR 3 rfl (g_add rfl rfl rfl (g_v (fun a w F M R r => o_build F rfl rfl r) ?_))
  refine g_stA 0 rfl rfl rfl rfl rfl rfl rfl ?_
  refine gR 4 rfl (g_retC 0 rfl rfl rfl rfl rfl fun w M => ?_)
  exact ⟨⟨true, 1, 1, IntKind.u16.wrap (s + 1), 0⟩, ⟨⟨by dsimp only;omega, by dsimp only;omega, by dsimp only;omega⟩, by dsimp only;omega⟩, rfl, M.ext⟩
 replace h3 := dqV h3
 refine gR 4 rfl (g_loop (ι := QuaV × Int) ⟨fun (y, d) => (0 - d).toNat, fun (y, d) => SmQu y ∧ d ≤ 8 ∧ -8 ≤ d, fun (y, d) => [(5, .int .i64 d), (1, .int .u16 s), (2, .pointer (some ⟨b2, 0, none⟩)), (4, .pointer (some ⟨b4, 0, none⟩))], fun (y, d) => [[(b4, .cells [Value.bool false, Value.int .u8 0, Value.int .i64 0, Value.int .u16 0, Value.int .i64 0].toArray 122 (0, 0))], [(b2, .cells (quC y).toArray 122 (0, 0))]]⟩ (quClean o, IntKind.i64.wrap (IntKind.i16.wrap (IntKind.u16.wrap (s - (quClean o).next)))) ⟨hs, by omega, by omega⟩ (fun a F => F.only [5, 1, 2, 4] rfl) (by repeat (first | exact .refl _ | apply sC2 | apply sC1)) ?_)
 rintro ⟨y, d⟩ ⟨hy, hd⟩
 dsimp only at hy hd ⊢
 have hy1 := hy.b.h
 have hy2 := hy.c
 by_cases hlt : d < 0
 ·refine gR 7 rfl ?_
  refine g_ifT rfl (dqT (by omega)) (gR 7 rfl (g_ld1 1 rfl rfl (qu_heard trivial) (g_v (fun a w F M R r => o_quo (F.e rfl) (F.e rfl) (by omega) rfl r) (gR 1 rfl (g_st1 1 rfl rfl rfl rfl rfl rfl (gR 4 rfl (g_ld1 1 rfl rfl rfl (g_sub rfl rfl (w_i64 (by omega) (by omega)) (g_v (fun a w F M R r => o_max (F.e rfl) (F.e rfl) r) (gR 1 rfl (g_st1 1 rfl rfl rfl rfl rfl rfl (gR 5 rfl (g_add rfl rfl (w_i64 (by omega) (by omega)) (gR 2 rfl ?_))))))))))))))
  exact g_next ({ y with heard := IntKind.u8.wrap (y.heard.tdiv 2), cnt := if y.cnt - 1 < 0 then 0 else y.cnt - 1 }, d + 1) ⟨⟨⟨u8_bd _, by dsimp only;split <;> omega, hy.b.r⟩, by dsimp only;split <;> omega⟩, by omega, by omega⟩ (by dsimp only;omega) (fun a F => F.only [5, 1, 2, 4] rfl) (by (try dsimp only);repeat (first | exact .refl _ | with_reducible exact sC0 _ | with_reducible apply sC2 | apply sC1))
 refine gR 7 rfl (g_ifF rfl (dqF (by omega)) (gR 2 rfl (g_outX (gR 4 rfl (g_loop (ι := QuaV × Int) ⟨fun (y, d) => d.toNat, fun (y, d) => SmQu y ∧ d ≤ 8, fun (y, d) => [(5, .int .i64 d), (1, .int .u16 s), (2, .pointer (some ⟨b2, 0, none⟩)), (4, .pointer (some ⟨b4, 0, none⟩))], fun (y, d) => [[(b4, .cells [Value.bool false, Value.int .u8 0, Value.int .i64 0, Value.int .u16 0, Value.int .i64 0].toArray 122 (0, 0))], [(b2, .cells (quC y).toArray 122 (0, 0))]]⟩ (y, d) ⟨hy, by omega⟩ (fun a F => F.only [5, 1, 2, 4] rfl) (by repeat (first | exact .refl _ | apply sC2 | apply sC1)) ?_)))))
 rintro ⟨y, d⟩ ⟨hy, hd⟩
 dsimp only at hy hd ⊢
 have hy1 := hy.b.h
 have hy2 := hy.c
 by_cases hlt : 0 < d
 ·refine gR 7 rfl ?_
  refine g_ifT rfl (dqT (by omega)) (gR 5 rfl (g_ldA 1 rfl rfl (qu_all trivial) (g_call rfl rfl (fun w M => rqadd_c _ ‹_› _ (by omega) (by omega) _) ?_)))
  refine g_stA 1 rfl rfl (qu_len trivial) (qu_one _) rfl (put_all (by rw [qu_len trivial];first | rfl | rw [qu_len ‹_›])) rfl ?_
  exact gR 5 rfl (g_sub rfl rfl (w_i64 (by omega) (by omega)) (gR 2 rfl (g_next (addQ y 0, d - 1) ⟨hy.add 0, by omega⟩ (by dsimp only;omega) (fun a F => F.only [5, 1, 2, 4] rfl) (by (try dsimp only);repeat (first | exact .refl _ | with_reducible exact sC0 _ | with_reducible apply sC2 | apply sC1)))))
 refine gR 7 rfl (g_ifF rfl (dqF (by omega)) (gR 2 rfl (g_outX (gR 4 rfl (g_ldA 1 rfl rfl (qu_all trivial) (g_call rfl rfl (fun w M => rqadd_c _ ‹_› _ (by omega) (by omega) _) ?_))))))
 refine g_stA 1 rfl rfl (qu_len trivial) (qu_one _) rfl (put_all (by rw [qu_len trivial];first | rfl | rw [qu_len ‹_›])) rfl ?_
 refine gR 5 rfl (g_add rfl rfl rfl (gR 1 rfl (g_st1 1 rfl rfl rfl rfl rfl rfl (gR 4 rfl (g_ldA 1 rfl rfl rfl ?_)))))
 refine g_stA 0 rfl rfl rfl rfl rfl rfl rfl ?_
 refine gR 3 rfl (g_retC 0 rfl rfl rfl rfl rfl fun w M => ?_)
 have ha := hy.add 1
 exact ⟨{ addQ y 1 with next := IntKind.u16.wrap (s + 1) }, ⟨⟨ha.b.h, ha.b.c, ha.b.r⟩, ha.c⟩, rfl, M.ext⟩
theorem rqmissed_c (o : QuaV) (hb : BdQu o) (W : World) : Cal Tryz.prog 140 [.agg (quC o).toArray].toArray W fun r w' => PhQ r W w' := by
 have hs := SmQu.clean hb
 have ha := hs.add 0
 refine g_start (n := 20) (S := []) fldT_ok slcT_ok Tryz.func140 rfl rfl rfl (gR 2 rfl (g_box rfl rfl fun b1 => g_alloc fun b2 => gR 4 rfl (g_ldA 1 rfl rfl (qu_all trivial) (g_call rfl rfl (fun w M => rqclean_c _ ‹_› _) ?_))))
 refine g_stA 1 rfl rfl (qu_len trivial) (qu_one _) rfl (put_all (by rw [qu_len trivial];first | rfl | rw [qu_len ‹_›])) rfl ?_
 refine gR 6 rfl (g_ld1 1 rfl rfl (qu_known trivial) (gR 3 rfl (g_if rfl (fun h1 => ?_) (fun h1 => ?_))))
 ·replace h1 := false_of_not h1
  refine gR 2 rfl (g_ldA 1 rfl rfl (qu_all trivial) ?_)
  refine g_stA 0 rfl rfl rfl rfl rfl rfl rfl ?_
  exact gR 4 rfl (g_retC 0 rfl rfl rfl rfl rfl fun w M => ⟨quClean o, hs, rfl, M.ext⟩)
 ·replace h1 := true_of_not h1
  refine gR 4 rfl (g_ldA 1 rfl rfl (qu_all trivial) (g_call rfl rfl (fun w M => rqadd_c _ ‹_› _ (by omega) (by omega) _) ?_))
  refine g_stA 1 rfl rfl (qu_len trivial) (qu_one _) rfl (put_all (by rw [qu_len trivial];first | rfl | rw [qu_len ‹_›])) rfl ?_
  refine gR 5 rfl (g_ld1 1 rfl rfl (qu_next trivial) (g_add rfl rfl rfl (gR 1 rfl (g_st1 1 rfl rfl rfl rfl rfl rfl (gR 6 rfl (g_ld1 1 rfl rfl rfl (gR 3 rfl (g_if rfl (fun h2 => ?_) (fun h2 => ?_)))))))))
  ·replace h2 := dqU h2
   refine gR 2 rfl (g_v (fun a w F M R r => o_build F rfl rfl r) ?_)
   refine g_stA 0 rfl rfl rfl rfl rfl rfl rfl ?_
   exact gR 4 rfl (g_retC 0 rfl rfl rfl rfl rfl fun w M => ⟨qu0, ⟨BdQu.zero, by decide⟩, rfl, M.ext⟩)
  ·replace h2 := dqV h2
   refine gR 4 rfl (g_ldA 1 rfl rfl rfl ?_)
   refine g_stA 0 rfl rfl rfl rfl rfl rfl rfl ?_
   exact gR 3 rfl (g_retC 0 rfl rfl rfl rfl rfl fun w M => ⟨{ addQ (quClean o) 0 with next := IntKind.u16.wrap ((addQ (quClean o) 0).next + 1) }, ⟨⟨ha.b.h, ha.b.c, ha.b.r⟩, ha.c⟩, rfl, M.ext⟩)
theorem rqreport_c (o : QuaV) (hb : BdQu o) (c : Int) (hc : -9223372036854775808 ≤ c ∧ c ≤ 9223372036854775807) (W : World) : Cal Tryz.prog 141 [.agg (quC o).toArray, .int .i64 c].toArray W fun r w' => PhQ r W w' := by
 have hs := SmQu.clean hb
 refine g_start (n := 20) (S := []) fldT_ok slcT_ok Tryz.func141 rfl rfl rfl (gR 2 rfl (g_box rfl rfl fun b2 => g_alloc fun b4 => gR 4 rfl (g_ldA 1 rfl rfl (qu_all trivial) (g_call rfl rfl (fun w M => rqclean_c _ ‹_› _) ?_))))
 refine g_stA 1 rfl rfl (qu_len trivial) (qu_one _) rfl (put_all (by rw [qu_len trivial];first | rfl | rw [qu_len ‹_›])) rfl ?_
 refine gR 6 rfl (g_ld1 1 rfl rfl (qu_known trivial) (gR 1 rfl (g_split 9 rfl (fun h1 => ?_) (fun h1 => ?_))))
 ·refine gR 4 rfl (g_split 13 rfl (fun h2 => ?_) (fun h2 => ?_))
  ·replace h2 := dqU h2
   refine gR 5 rfl (g_if rfl (fun h3 => ?_) (fun h3 => ?_))
   ·replace h3 := dqU h3
    refine gR 3 rfl (g_st1 1 rfl rfl rfl rfl rfl rfl (gR 4 rfl (g_ldA 1 rfl rfl rfl ?_)))
    refine g_stA 0 rfl rfl rfl rfl rfl rfl rfl ?_
    exact gR 3 rfl (g_retC 0 rfl rfl rfl rfl rfl fun w M => ⟨{ quClean o with rep := c }, ⟨⟨hs.b.h, hs.b.c, hc⟩, hs.c⟩, rfl, M.ext⟩)
   ·replace h3 := dqV h3
    refine gR 4 rfl (g_ldA 1 rfl rfl (qu_all trivial) ?_)
    refine g_stA 0 rfl rfl rfl rfl rfl rfl rfl ?_
    exact gR 3 rfl (g_retC 0 rfl rfl rfl rfl rfl fun w M => ⟨quClean o, hs, rfl, M.ext⟩)
  ·replace h2 := dqV h2
   refine gR 10 rfl (g_ldA 1 rfl rfl (qu_all trivial) ?_)
   refine g_stA 0 rfl rfl rfl rfl rfl rfl rfl ?_
   exact gR 3 rfl (g_retC 0 rfl rfl rfl rfl rfl fun w M => ⟨quClean o, hs, rfl, M.ext⟩)
 ·refine gR 14 rfl (g_ldA 1 rfl rfl (qu_all trivial) ?_)
  refine g_stA 0 rfl rfl rfl rfl rfl rfl rfl ?_
  exact gR 3 rfl (g_retC 0 rfl rfl rfl rfl rfl fun w M => ⟨quClean o, hs, rfl, M.ext⟩)
def di0 : DisV := ⟨0, 0⟩
def dvV (d : DstV) : Value := .agg (dvC d).toArray
def diV (d : DisV) : Value := .agg (diC d).toArray
theorem equalA_c (l : List AdvV) (hx : ∀ x ∈ l, IsAv x) (hlen : l.length ≤ 100000) (u v : Value) (W : World) (hu : SlAt W 37 u l.length (avsC l)) (hv : SlAt W 37 v l.length (avsC l)) :
  Cal Tryz.prog 40 [u, v].toArray W fun r w' => r = .bool true ∧ Ext [] W w' := by
 obtain ⟨q1, cap1, rfl, hc1, hn1, hl1, hm1⟩ := hu
 obtain ⟨q2, cap2, rfl, hc2, hn2, hl2, hm2⟩ := hv
 refine fn_ofM (n := 26) [] Tryz.func40 rfl rfl rfl ?_
 intro a w F M hwW
 refine c_seq (c_region ?_)
 refine sD F (o_assign (F.e rfl) ?_);clear F a;intro a F
 with_reducible refine l_nil (q_then (c_seq (c_seq (c_region ?_))))
 refine sD F (o_move (F.e rfl) fun a F => sD F (o_lenSl (F.e rfl) fun a F => sD F (o_move (F.e rfl) fun a F => sD F (o_lenSl (F.e rfl) fun a F => sD F (o_neqF (F.e rfl) (F.e rfl) (by omega) ?_)))));iterate 5 clear F a
 intro a F
 with_reducible refine l_nil (q_then ?_)
 refine c_false F rfl rfl ?_
 with_reducible refine c_skip (q_then (c_seq (c_seq (c_region ?_))))
 refine sD F (o_move (F.e rfl) fun a F => sD F (o_lenSl (F.e rfl) fun a F => sD F (o_move (F.e rfl) ?_)));iterate 3 clear F a
 intro a F
 with_reducible refine l_nil (q_then (c_block ?_))
 refine c_loop (fun m a w => ∃ i : Nat, m = l.length - i ∧ i ≤ l.length ∧ Frm a 26 [] [(13, .int .i64 i), (12, .int .i64 l.length), (0, .slice q1 l.length cap1), (1, .slice q2 l.length cap2)] ∧ Mem [] W w []) l.length ⟨0, rfl, by omega, F.only [13, 12, 0, 1] rfl, M⟩ ?_
 clear F M
 rintro m a w ⟨i, hm', hi, F, M⟩
 by_cases hlt : i < l.length
 ·obtain ⟨b, o, cs, t, fz, rfl, hb, hs⟩ := hm1 (by omega)
  obtain ⟨b', o', cs', t', fz', rfl, hb', hs'⟩ := hm2 (by omega)
  obtain ⟨p, hp0⟩ : ∃ p, p = l[i] := ⟨_, rfl⟩
  have hpi : IsAv p := by rw [hp0];exact hx _ (List.getElem_mem hlt)
  have f1 : seg cs (o + (i : Int).toNat * 37) 37 = some (avC p) := by rw [hp0];exact seg_el (avs_len hx) hs hlt (by omega)
  have f2 : seg cs' (o' + (i : Int).toNat * 37) 37 = some (avC p) := by rw [hp0];exact seg_el (avs_len hx) hs' hlt (by omega)
  have f3 := av_fits hpi
  have f4 : eqVs (avC p) (avC p) = true := by rw [av_eq hpi hpi];simp
  refine c_seq (c_region ?_)
  refine sD F (o_lssT (F.e rfl) (F.e rfl) (by omega) ?_);clear F a;intro a F
  with_reducible refine l_nil (q_then (c_seq ?_))
  refine c_true F rfl rfl ?_
  with_reducible refine c_skip (q_then (c_seq (c_block (c_seq (c_region ?_)))))
  refine sD F (o_move (F.e rfl) fun a F => sD F (o_assign (F.e rfl) ?_));iterate 2 clear F a
  intro a F
  with_reducible refine l_nil (q_then (c_seq ?_))
  replace F := F.only [13, 12, 0, 1, 5] rfl
  refine c_draw 8 F (by kernel_rfl) ?_
  intro w1 hE hok
  have M1 := M.later hE
  refine mK hok rfl rfl (fun a' w' F' E' => o_move (F'.e rfl) ⟨Ext.refl _ _, rfl⟩) (mK hok rfl rfl (fun a' w' F' E' => o_move (F'.e rfl) ⟨Ext.refl _ _, rfl⟩) (mK hok rfl rfl (fun a' w' F' E' => o_indexSl (F'.e rfl) (F'.e rfl) (by omega) (by omega) ⟨Ext.refl _ _, rfl⟩) (mK hok rfl rfl (fun a' w' F' E' => o_loadWA (M1.later E') (F'.e rfl) ‹_› ‹_› ⟨Ext.refl _ _, rfl⟩) ?_)))
  refine mK hok rfl rfl (fun a' w' F' E' => o_move (F'.e rfl) ⟨Ext.refl _ _, rfl⟩) (mK hok rfl rfl (fun a' w' F' E' => o_move (F'.e rfl) ⟨Ext.refl _ _, rfl⟩) (mK hok rfl rfl (fun a' w' F' E' => o_indexSl (F'.e rfl) (F'.e rfl) (by omega) (by omega) ⟨Ext.refl _ _, rfl⟩) (mK hok rfl rfl (fun a' w' F' E' => o_loadWA (M1.later E') (F'.e rfl) ‹_› ‹_› ⟨Ext.refl _ _, rfl⟩) ?_)))
  (refine mDone rfl rfl ?_;clear F M;intro a w F hE2 hX hTT hDD hPP;have M := M1.later hE2;clear M1;clear hX;clear hE2;clear hok;clear hE;clear hTT;clear hDD;clear hPP;(try dsimp only at F))
  refine sD F (o_neqAF (F.e rfl) (F.e rfl) ‹_› ‹_› ‹_› ?_);clear F a;intro a F
  with_reducible refine l_nil (q_then ?_)
  refine c_false F rfl rfl ?_
  with_reducible refine c_skip (q_inB (q_then (c_region ?_)))
  refine sD F (o_add (F.e rfl) (F.e rfl) (w_i64 (by omega) (by omega)) fun a F => sD F (o_move (F.e rfl) ?_));iterate 2 clear F a
  intro a F
  with_reducible refine l_nil (q_then ?_)
  exact ⟨_, by omega, i + 1, rfl, by omega, F.only [13, 12, 0, 1] rfl, M⟩
 ·obtain rfl : i = l.length := by omega
  refine c_seq (c_region ?_)
  refine sD F (o_lssF (F.e rfl) (F.e rfl) (by omega) ?_);clear F a;intro a F
  with_reducible refine l_nil (q_then (c_seq ?_))
  refine c_false F rfl rfl ?_
  with_reducible refine c_exit (q_thenX (q_thenX (q_inBX (q_then (c_seq (c_region ?_))))))
  refine sD F (o_assign (F.e rfl) ?_);clear F a;intro a F
  with_reducible refine l_nil (q_then (c_ret ?_))
  exact p_ret F rfl (.cons (.tmp (F.e rfl)) .nil) (⟨rfl, M.ext⟩)
theorem seqE_c {bt : Nat} {p : Option Addr} {len cap k : Nat} {xs : List Int} (W : World) (hT : TapeS W bt p len xs) (hb : W.heap[bt]? = some (tobj p len cap k)) :
  Cal Tryz.prog 57 [.pointer (some ⟨bt, 0, none⟩)].toArray W fun v w' => ∃ x k', v = .int .u16 x ∧ Mem [bt] W w' [(bt, tobj p len cap k')] := by
 refine fn_ofM (n := 7) [bt] Tryz.func57 rfl rfl rfl ?_
 intro a w F M hwW
 replace M := M.came hwW hb (by simp) (by simp)
 refine c_seq (c_region ?_)
 refine sD F (o_assign (F.e rfl) ?_);clear F a;intro a F
 with_reducible refine l_nil (q_then (c_seq (c_region ?_)))
 refine sD F (o_move (F.e rfl) ?_);clear F a;intro a F
 (refine sD F (o_call (F.e rfl) (F.evs rfl) (Cal.mono (nextE_c 6 (by omega) (by omega) _ (hT.later M.ext) (M.heap .here) ) ?_));clear F;clear a;have M0 := M;clear M;rintro _ w ⟨x, k', rfl, hx, N⟩ a F)
 replace M := M0.turn1 N .here
 clear M0 N
 refine sD F (o_sub (F.e rfl) (F.e rfl) (w_i64 (by omega) (by omega)) fun a F => sD F (o_conv (F.e rfl) rfl fun a F => sD F (o_assign (F.e rfl) ?_)));iterate 3 clear F a
 intro a F
 with_reducible refine l_nil (q_then (c_ret ?_))
 exact p_ret F rfl (.cons (.tmp (F.e rfl)) .nil) (⟨_, k', rfl, M⟩)
theorem costE_c {bt : Nat} {p : Option Addr} {len cap k : Nat} {xs : List Int} (W : World) (hT : TapeS W bt p len xs) (hb : W.heap[bt]? = some (tobj p len cap k)) :
  Cal Tryz.prog 230 [.pointer (some ⟨bt, 0, none⟩)].toArray W fun v w' => ∃ x k', v = .int .i64 x ∧ (0 ≤ x ∧ x ≤ 65534) ∧ Mem [bt] W w' [(bt, tobj p len cap k')] := by
 refine fn_ofM (n := 18) [bt] Tryz.func230 rfl rfl rfl ?_
 intro a w F M hwW
 replace M := M.came hwW hb (by simp) (by simp)
 refine c_seq (c_region ?_)
 refine sD F (o_assign (F.e rfl) ?_);clear F a;intro a F
 with_reducible refine l_nil (q_then (c_seq (c_seq (c_region ?_))))
 refine sD F (o_move (F.e rfl) ?_);clear F a;intro a F
 (refine sD F (o_call (F.e rfl) (F.evs rfl) (Cal.mono (nextE_c 6 (by omega) (by omega) _ (hT.later M.ext) (M.heap .here) ) ?_));clear F;clear a;have M0 := M;clear M;rintro _ w ⟨x, k', rfl, hx, N⟩ a F)
 replace M := M0.turn1 N .here
 clear M0 N
 by_cases c1 : x = 0
 ·with_reducible refine l_nil ?_
  with_reducible refine q_then (c_block (c_seq (c_region ?_)))
  refine sD F (o_eqlT (F.e rfl) (F.e rfl) (by omega) fun a F => sD F (o_assign (F.e rfl) ?_));iterate 2 clear F a
  intro a F
  with_reducible refine l_nil (q_then ?_)
  refine c_true F rfl rfl (c_seq (c_region ?_))
  refine sD F (o_move (F.e rfl) ?_);clear F a;intro a F
  (refine sD F (o_call (F.e rfl) (F.evs rfl) (Cal.mono (nextE_c 4 (by omega) (by omega) _ (hT.later M.ext) (M.heap .here) ) ?_));clear F;clear a;have M0 := M;clear M;rintro _ w ⟨x2, k2, rfl, hx2, N⟩ a F)
  replace M := M0.turn1 N .here
  refine sD F (o_assign (F.e rfl) ?_);clear F a;intro a F
  with_reducible refine l_nil (q_then (c_ret (q_inBR (q_thenR ?_))))
  exact p_ret F rfl (.cons (.tmp (F.e rfl)) .nil) (⟨_, k2, rfl, by omega, M⟩)
 by_cases c2 : x = 1
 ·with_reducible refine l_nil ?_
  with_reducible refine q_then (c_block (c_seq (c_region ?_)))
  refine sD F (o_eqlF (F.e rfl) (F.e rfl) (by omega) fun a F => sD F (o_assign (F.e rfl) ?_));iterate 2 clear F a
  intro a F
  with_reducible refine l_nil (q_then ?_)
  refine c_false F rfl rfl (c_seq (c_region ?_))
  refine sD F (o_eqlT (F.e rfl) (F.e rfl) (by omega) fun a F => sD F (o_assign (F.e rfl) ?_));iterate 2 clear F a
  intro a F
  with_reducible refine l_nil (q_then ?_)
  refine c_true F rfl rfl (c_seq (c_region ?_))
  refine sD F (o_move (F.e rfl) ?_);clear F a;intro a F
  (refine sD F (o_call (F.e rfl) (F.evs rfl) (Cal.mono (nextE_c 600 (by omega) (by omega) _ (hT.later M.ext) (M.heap .here) ) ?_));clear F;clear a;have M0 := M;clear M;rintro _ w ⟨x2, k2, rfl, hx2, N⟩ a F)
  replace M := M0.turn1 N .here
  refine sD F (o_sub (F.e rfl) (F.e rfl) (w_i64 (by omega) (by omega)) fun a F => sD F (o_assign (F.e rfl) ?_));iterate 2 clear F a
  intro a F
  with_reducible refine l_nil (q_then (c_ret (q_inBR (q_thenR ?_))))
  exact p_ret F rfl (.cons (.tmp (F.e rfl)) .nil) (⟨_, k2, rfl, by omega, M⟩)
 ·with_reducible refine l_nil ?_
  with_reducible refine q_then (c_block (c_seq (c_region ?_)))
  refine sD F (o_eqlF (F.e rfl) (F.e rfl) (by omega) fun a F => sD F (o_assign (F.e rfl) ?_));iterate 2 clear F a
  intro a F
  with_reducible refine l_nil (q_then ?_)
  refine c_false F rfl rfl (c_seq (c_region ?_))
  refine sD F (o_eqlF (F.e rfl) (F.e rfl) (by omega) fun a F => sD F (o_assign (F.e rfl) ?_));iterate 2 clear F a
  intro a F
  with_reducible refine l_nil (q_then ?_)
  refine c_false F rfl rfl ?_
  with_reducible refine c_skip (q_inB (q_then (c_seq (c_region ?_))))
  refine sD F (o_move (F.e rfl) ?_);clear F a;intro a F
  (refine sD F (o_call (F.e rfl) (F.evs rfl) (Cal.mono (nextE_c 30 (by omega) (by omega) _ (hT.later M.ext) (M.heap .here) ) ?_));clear F;clear a;have M0 := M;clear M;rintro _ w ⟨x2, k2, rfl, hx2, N⟩ a F)
  replace M := M0.turn1 N .here
  refine sD F (o_mul (F.e rfl) (F.e rfl) (w_i64 (by omega) (by omega)) fun a F => sD F (o_add (F.e rfl) (F.e rfl) (w_i64 (by omega) (by omega)) fun a F => sD F (o_assign (F.e rfl) ?_)));iterate 3 clear F a
  intro a F
  with_reducible refine l_nil (q_then (c_ret ?_))
  exact p_ret F rfl (.cons (.tmp (F.e rfl)) .nil) (⟨_, k2, rfl, by omega, M⟩)
theorem distE_c {bt : Nat} {p : Option Addr} {len cap k : Nat} {xs : List Int} (W : World) (hT : TapeS W bt p len xs) (hb : W.heap[bt]? = some (tobj p len cap k)) :
  Cal Tryz.prog 143 [.pointer (some ⟨bt, 0, none⟩)].toArray W fun v w' => ∃ x k', v = diV x ∧ (0 ≤ x.met ∧ x.met ≤ 65534) ∧ Mem [bt] W w' [(bt, tobj p len cap k')] := by
 refine fn_ofM (n := 8) [bt] Tryz.func143 rfl rfl rfl ?_
 intro a w F M hwW
 replace M := M.came hwW hb (by simp) (by simp)
 refine c_seq (c_region ?_)
 (refine sD F (o_alloc M ?_);clear F M;intro b2 w M a F)
 with_reducible refine l_nil (q_then (c_seq (c_region ?_)))
 refine sD F (o_move (F.e rfl) ?_);clear F a;intro a F
 (refine sD F (o_call (F.e rfl) (F.evs rfl) (Cal.mono (seqE_c _ (hT.later M.ext) (M.heap (.there .here)) ) ?_));clear F;clear a;have M0 := M;clear M;rintro _ w ⟨x, k1, rfl, N⟩ a F)
 replace M := M0.turn1 N (.there .here)
 clear M0 N
 refine sD F (o_move (F.e rfl) ?_);clear F a;intro a F
 (refine sD F (o_call (F.e rfl) (F.evs rfl) (Cal.mono (costE_c _ (hT.later M.ext) (M.heap (.there .here)) ) ?_));clear F;clear a;have M0 := M;clear M;rintro _ w ⟨y, k2, rfl, hy, N⟩ a F)
 replace M := M0.turn1 N (.there .here)
 clear M0 N
 refine sD F (o_build F rfl rfl ?_);clear F a;intro a F
 (refine stepN rfl F (o_storeA M (F.e rfl) (F.e rfl) (by rfl) (by rfl) (by repeat constructor) (by rfl) (by repeat constructor) ?_);clear F M;intro w M a F)
 with_reducible refine l_nil (q_then (c_ret ?_))
 exact p_ret F rfl (.cons (.cell (F.e rfl) (run_loadVar_agg TAgg.h (M.heap (by repeat constructor)) rfl)) .nil) ⟨⟨x, y⟩, k2, rfl, hy, M.sub (.cons _ (.refl _))⟩
def tabTo : List Int := [128, 128, 64, 0]
theorem tabTo_bd (i : Nat) : 0 ≤ tabTo.getD i 0 ∧ tabTo.getD i 0 ≤ 128 := by
 rcases Nat.lt_or_ge i 4 with h | h
 ·have : ∀ i : Fin 4, 0 ≤ tabTo.getD i.val 0 ∧ tabTo.getD i.val 0 ≤ 128 := by decide
  exact this ⟨i, h⟩
 ·rw [List.getD_eq_getElem?_getD, List.getElem?_eq_none (by simpa [tabTo] using h)]
  simp
def zr16 : List Int := [0, 0, 0, 0, 0, 0, 0, 0, 0, 0, 0, 0, 0, 0, 0, 0]
theorem zr16_is : IsIP zr16 := ⟨rfl, by intro x hx;simp [zr16] at hx;omega⟩
theorem dv_buildT {z : List Int} (hz : IsIP z) (n e : Int) : putAll [(0, 17), (17, 17), (34, 1)] dvZ [(0, pfC z n), (2, [.int .u64 e])] = some (dvC ⟨z, n, zr16, 0, e⟩) := by
 obtain ⟨z0, z1, z2, z3, z4, z5, z6, z7, z8, z9, z10, z11, z12, z13, z14, z15, ez⟩ := len16 hz.len
 subst ez
 rfl
theorem zero_valid : validP zr16 0 = true := by decide
theorem toE_c {bt : Nat} {p : Option Addr} {len cap k : Nat} {xs : List Int} (W : World) (hT : TapeS W bt p len xs) (hb : W.heap[bt]? = some (tobj p len cap k)) :
  Cal Tryz.prog 29 [.pointer (some ⟨bt, 0, none⟩)].toArray W fun v w' => ∃ x k', v = dvV x ∧ IsDv x ∧ validT x = true ∧ Mem [bt] W w' [(bt, tobj p len cap k')] := by
 refine fn_ofM (n := 21) [bt] Tryz.func29 rfl rfl rfl ?_
 intro a w F M hwW
 replace M := M.came hwW hb (by simp) (by simp)
 refine c_seq (c_region ?_)
 (refine sD F (o_alloc M ?_);clear F M;intro b2 w M a F)
 with_reducible refine l_nil (q_then (c_seq (c_region ?_)))
 refine sD F (o_move (F.e rfl) ?_);clear F a;intro a F
 (refine sD F (o_call (F.e rfl) (F.evs rfl) (Cal.mono (wipD_c _ (hT.later M.ext) (M.heap (.there .here)) ) ?_));clear F;clear a;have M0 := M;clear M;rintro _ w ⟨rfl, N⟩ a F)
 replace M := M0.turn1 N (.there .here)
 clear M0 N
 have hip := wipV_is xs k
 generalize wipV xs k = ip at *
 generalize wipK xs k = k1 at *
 skip
 (refine sD F (o_buildSlice F M rfl rfl rfl rfl ?_);clear F M;intro b6 w M a F)
 refine sD F (o_move (F.e rfl) ?_);clear F a;intro a F
 (refine sD F (o_call (F.e rfl) (F.evs rfl) (Cal.mono (next_c 4 (by omega) (by omega) _ (hT.later M.ext) (M.heap (.there (.there .here))) ) ?_));clear F;clear a;have M0 := M;clear M;rintro _ w ⟨rfl, N⟩ a F)
 replace M := M0.turn1 N (.there (.there .here))
 clear M0 N
 have v1 := nxV_bd xs k1 (n := 4) (by omega)
 have n1 := nth_tab (k := .i64) (xs := tabTo) v1.1 (by simpa [tabTo] using v1.2)
 have hbd := tabTo_bd (nxV xs k1 4).toNat
 (refine sD F (o_indexSl (F.e rfl) (F.e rfl) (by omega) (by omega) ?_);clear F a;intro a F)
 (refine sD F (o_load1 M (F.e rfl) (by repeat constructor) (n1) ?_);clear F a;intro a F)
 generalize tabTo.getD (nxV xs k1 4).toNat 0 = n at *
 generalize nxV xs k1 4 = q at *
 generalize nxK xs k1 = k2 at *
 have hcl : clampB n = n := clamp_in hbd.1 hbd.2
 (refine sD F (o_call (F.e rfl) (F.evs rfl) (Cal.mono (Cal.to (rmask_c ip hip n _) (by rw [hcl])) ?_));clear F;clear a;rintro _ w ⟨rfl, hE⟩ a F;replace M := M.later hE;clear hE)
 have hmi := mask_isIP hip n
 have hvm := valid_mask hip hbd.1 hbd.2
 generalize maskI ip n = mip at *
 refine sD F (o_move (F.e rfl) ?_);clear F a;intro a F
 (refine sD F (o_call (F.e rfl) (F.evs rfl) (Cal.mono (eui_c _ (hT.later M.ext) (M.heap (.there (.there .here))) ) ?_));clear F;clear a;have M0 := M;clear M;rintro _ w ⟨e, k3, rfl, he, N⟩ a F)
 replace M := M0.turn1 N (.there (.there .here))
 clear M0 N
 have hd : IsDv ⟨mip, n, zr16, 0, e⟩ := ⟨hmi, zr16_is⟩
 (refine sD F (o_build F rfl (dv_buildT hmi n e) ?_);clear F a;intro a F)
 skip
 (refine sD F (o_alloc M ?_);clear F M;intro b3 w M a F)
 (refine stepN rfl F (o_storeA M (F.e rfl) (F.e rfl) (dv_len hd) (dv_one _)  (by repeat constructor)  (put_all (by rw [dv_len hd];rfl)) (by repeat constructor) ?_);clear F M;intro w M a F)
 with_reducible refine l_nil (q_then (c_seq (c_seq (c_region ?_))))
 refine sD F (o_move (F.e rfl) ?_);clear F a;intro a F
 (refine sD F (o_call (F.e rfl) (F.evs rfl) (Cal.mono (boolE_c 3 (by omega) (by omega) _ (hT.later M.ext) (M.heap (.there (.there (.there .here)))) ) ?_));clear F;clear a;have M0 := M;clear M;rintro _ w ⟨c, k4, rfl, N⟩ a F)
 replace M := M0.turn1 N (.there (.there (.there .here)))
 clear M0 N
 cases c
 ·have g0 := dv_all hd
  with_reducible refine l_nil (q_then ?_)
  refine c_false F rfl rfl ?_
  with_reducible refine c_skip (q_then (c_seq (c_region ?_)))
  refine sD F (o_loadA M (F.e rfl) (by repeat constructor) ‹_› ?_);clear F a;intro a F
  (refine stepN rfl F (o_storeA M (F.e rfl) (F.e rfl) (dv_len hd) (dv_one _)  (by repeat constructor)  (put_all (by rw [dv_len hd];rfl)) (by repeat constructor) ?_);clear F M;intro w M a F)
  with_reducible refine l_nil (q_then (c_ret ?_))
  exact p_ret F rfl (.cons (.cell (F.e rfl) (run_loadVar_agg TAgg.h (M.heap (by repeat constructor)) g0)) .nil) ⟨_, k4, rfl, hd, by simp [validT, hvm, zero_valid];omega, M.sub (by repeat (first | exact List.Sublist.refl _ | apply sC1))⟩
 ·with_reducible refine l_nil ?_
  with_reducible refine q_then ?_
  refine c_true F rfl rfl (c_region ?_)
  refine sD F (o_move (F.e rfl) ?_);clear F a;intro a F
  (refine sD F (o_call (F.e rfl) (F.evs rfl) (Cal.mono (wprefix_c _ (hT.later M.ext) (M.heap (.there (.there (.there .here)))) ) ?_));clear F;clear a;have M0 := M;clear M;rintro _ w ⟨rfl, N⟩ a F)
  replace M := M0.turn1 N (.there (.there (.there .here)))
  clear M0 N
  have hpi : IsIP (maskI (wpA xs k4) (wpN xs k4)) := mask_isIP (wipV_is _ _) _
  have hpb := wpN_bd xs k4
  have hpv := valid_mask (wipV_is xs (wpK0 xs k4)) hpb.1 hpb.2
  change validP (maskI (wpA xs k4) (wpN xs k4)) (wpN xs k4) = true at hpv
  generalize maskI (wpA xs k4) (wpN xs k4) = sip at *
  generalize wpN xs k4 = sn at *
  generalize wpK xs k4 = k5 at *
  have hd2 : IsDv ⟨mip, n, sip, sn, e⟩ := ⟨hmi, hpi⟩
  have g0 := dv_all hd2
  refine sD F (o_fieldAddr (F.e rfl) ?_);clear F a;intro a F
  (refine stepN rfl F (o_storeA M (F.e rfl) (F.e rfl) (pfC_len hpi.len sn) (one_pf _ _)  (by repeat constructor)  (dv_put_src hd hpi sn) (by repeat constructor) ?_);clear F M;intro w M a F)
  replace M : Mem [bt] W w [(b3, .cells (dvC ⟨mip, n, sip, sn, e⟩).toArray 67 (0, 0)), (b6, _), (b2, _), (bt, _)] := M
  with_reducible refine l_nil (q_then (c_seq (c_region ?_)))
  refine sD F (o_loadA M (F.e rfl) (by repeat constructor) ‹_› ?_);clear F a;intro a F
  (refine stepN rfl F (o_storeA M (F.e rfl) (F.e rfl) (dv_len hd2) (dv_one _)  (by repeat constructor)  (put_all (by rw [dv_len hd2];rfl)) (by repeat constructor) ?_);clear F M;intro w M a F)
  with_reducible refine l_nil (q_then (c_ret ?_))
  exact p_ret F rfl (.cons (.cell (F.e rfl) (run_loadVar_agg TAgg.h (M.heap (by repeat constructor)) g0)) .nil) ⟨_, k5, rfl, hd2, by simp [validT, hvm, hpv];omega, M.sub (by repeat (first | exact List.Sublist.refl _ | apply sC1))⟩
end Go.Proofs.YtfhkmgcalcfibaaGreat
namespace Go.Proofs.YtfhkmgcalcfibaaGreat
open Go.RowKit
theorem g_startB {P : Program} {f : FuncId} {fn : Func} {x : Code} {vs : List Value} {W : World} {R : Value → World → Prop} {n : Nat} (S : List Nat) {b : Nat} {o : Obj} {flds : List (Nat × Nat × Nat)} {slcs : List Nat} (hb : W.heap[b]? = some o) (hbS : b ∈ S) (hf : (flds.all fun q => fieldAtB P q.1 q.2.1 q.2.2) = true) (hs : (slcs.all fun t => isSlB P t) = true)
  (hfn : P.funcs[f]? = some fn) (hx : fn.body = some x) (hn : fn.ntmps = n) (hle : Nat.ble vs.length n = true)
  (h : G ⟨P, none, n, [], S, W, flds, slcs, hf, hs⟩ (Post P fn R) [] (.code x) (number 0 vs) [[(b, o)]]) : Cal P f vs.toArray W R :=
 fn_ofM S hfn hx hn hle fun a w F M hw => h a w F (M.came hw hb hbS (by simp))
section
variable {c : Cx} {Q : Exit → Act → World → Prop} {ks : List KF} {fr : List (Nat × Value)} {x : RX} {rest : List Oper} {k : Nat} {xs : List (Nat × XP)} {E : ESt} {d : Nat} {ty : TypeId} {pos : String} {af : Array Edge}
theorem xs_cons {p : XP} {h0 : Nat} {Vs : List Pred} (hlen : Vs.length = k) (hx : ∀ q ∈ xs, Vs[q.1]? = some (q.2.pred h0)) : ∀ q ∈ (k, p) :: xs, (Vs ++ [p.pred h0])[q.1]? = some (q.2.pred h0) := fun q hq => by
 rcases List.mem_cons.1 hq with rfl | hq
 ·rw [← hlen];simp
 ·exact xs_app hx q hq
theorem xs_slot {a : Act} {w : World} {o : Oper} {j n0 t2 : Nat} {p : XP} {Vs : List Pred} {ol : List Oper} (hx : ∀ q ∈ xs, Vs[q.1]? = some (q.2.pred n0)) (hj : (j, p) ∈ xs) (hd : (depsOf o).contains j = true) (ht : (ol.toArray[j]?).bind (·.dst) = some t2)
  (D : ∀ j' ∈ depsOf o, ∀ U, Vs[j']? = some U → U (slotV ol.toArray j' a) w) : p.pred n0 (a.eval (.tmp t2)) w := by
 have h := D j (by simpa using hd) _ (hx _ hj)
 unfold slotV at h
 rw [ht] at h
 exact h
theorem fe_ixX (j : Nat) {t e : TypeId} {len sz t2 : Nat} {y : Operand} {ik : IntKind} {n : Int} {o : Obj} [ht : TU c.P t (.slice e)] [hs : TSz c.P e sz] (hj : (j, XP.nw len o) ∈ xs) (hy : Ev fr y = some (.int ik n)) (h0 : 0 ≤ n) (h1 : n < len)
  (hk : FE c Q ks x (k + 1) rest fr ((k, .pt (0 + n.toNat * sz) o) :: xs) E) (hlt : flo x.Ef x.Rl [] x.n k (.indexAddr t (.tmp t2) y) = true := by rfl) (hnd : notIn d fr = true := by rfl)
  (hd : (depsOf ⟨some d, .indexAddr t (.tmp t2) y, ty, pos, af, none⟩).contains j = true := by rfl) (ht2 : (x.ol.toArray[j]?).bind (·.dst) = some t2 := by rfl) : FE c Q ks x k (⟨some d, .indexAddr t (.tmp t2) y, ty, pos, af, none⟩ :: rest) fr xs E := fun hE a w Vs hM hB hok hx => by
 intro hlen
 refine mX (V := (XP.pt (0 + n.toNat * sz) o).pred w.heap.size) hok hlt hnd (XP.stays hB _) (fun a' w' F' E' D' => ?_) (hk (fun sl l h q hq => Nat.lt_succ_of_lt (hE sl l h q hq)) a w _ hM hB hok (xs_cons hlen hx)) hlen
 obtain ⟨b, hv, hb, ho⟩ := xs_slot hx hj hd ht2 D'
 exact o_indexSl hv (F'.e hy) h0 h1 ⟨Ext.refl _ _, b, rfl, hb, ho⟩
theorem fe_ldX (j : Nat) {t t2 off : Nat} {cs : List Value} {t' : TypeId} {fz : Nat × Nat} {v : Value} [ht : TOne c.P t] (hj : (j, XP.pt off (.cells cs.toArray t' fz)) ∈ xs) (hv : nth cs off = some v)
  (hk : FE c Q ks x (k + 1) rest ((d, v) :: fr) xs E) (hlt : flo x.Ef x.Rl [] x.n k (.load t (.tmp t2)) = true := by rfl) (hd0 : Nat.blt d c.n = true := by rfl)
  (hd : (depsOf ⟨some d, .load t (.tmp t2), ty, pos, af, none⟩).contains j = true := by rfl) (ht2 : (x.ol.toArray[j]?).bind (·.dst) = some t2 := by rfl) : FE c Q ks x k (⟨some d, .load t (.tmp t2), ty, pos, af, none⟩ :: rest) fr xs E := fun hE a w Vs hM hB hok hx => by
 intro hlen
 refine mKX hok hlt hd0 (fun a' w' F' E' D' => ?_) (hk (fun sl l h q hq => Nat.lt_succ_of_lt (hE sl l h q hq)) a w _ hM hB hok (xs_app hx)) hlen
 obtain ⟨b, hp, hb, ho⟩ := xs_slot hx hj hd ht2 D'
 exact o_loadH1 hp ho hv ⟨Ext.refl _ _, rfl⟩
end
attribute [local irreducible] OpTo wpListIn Code.wpIn MW Cal
theorem rep_el {n : Int} (h0 : 0 ≤ n) (h1 : n < 5) : ∃ c : Int, nth [Value.int .i64 256, .int .i64 256, .int .i64 342, .int .i64 512, .int .i64 65535] (0 + n.toNat * 1) = some (.int .i64 c) ∧ 0 ≤ c ∧ c ≤ 65535 := by
 rcases (by omega : n = 0 ∨ n = 1 ∨ n = 2 ∨ n = 3 ∨ n = 4) with rfl | rfl | rfl | rfl | rfl
 ·exact ⟨256, rfl, by decide, by decide⟩
 ·exact ⟨256, rfl, by decide, by decide⟩
 ·exact ⟨342, rfl, by decide, by decide⟩
 ·exact ⟨512, rfl, by decide, by decide⟩
 ·exact ⟨65535, rfl, by decide, by decide⟩
def PhQT (p : Option Addr) (len cap bt : Nat) (r : Value) (W w' : World) : Prop := ∃ o k', SmQu o ∧ r = .agg (quC o).toArray ∧ Mem [bt] W w' [(bt, tobj p len cap k')]
theorem wquality_c {bt : Nat} {p : Option Addr} {len cap k : Nat} {xs : List Int} (W : World) (hT : TapeS W bt p len xs) (hb : W.heap[bt]? = some (tobj p len cap k)) :
  Cal Tryz.prog 59 [.pointer (some ⟨bt, 0, none⟩)].toArray W fun r w' => PhQT p len cap bt r W w' := by
 refine g_startB (n := 38) [bt] hb (by simp) fldT_ok slcT_ok Tryz.func59 rfl rfl rfl (gR 2 rfl (g_alloc fun b2 => gR 4 rfl (g_v (fun a w F M R r => o_build F rfl rfl r) (gR 1 rfl ?_))))
 refine g_callT (ι := Int × Nat) 1 (fun j => .int .u16 j.1) (fun _ => True) (fun j => tobj p len cap j.2) (fun _ => []) rfl rfl rfl (fun w M => Cal.mono (seqE_c w (hT.later M.ext) (M.at_ _ (nthO_mem (i := 1) rfl))) fun r w' h => by
  obtain ⟨x, k', q, N⟩ := h
  exact ⟨(x, k'), q, trivial, by simpa using N⟩) (fun _ => rfl) ?_
 rintro ⟨s, k1⟩ -
 dsimp only [List.nil_append]
 refine g_callN (ι := QuaV) (fun o => .agg (quC o).toArray) SmQu (fun _ => []) rfl rfl (fun w M => Cal.mono (rqhello_c qu0 BdQu.zero s w) fun r w' h => by
  obtain ⟨o, ho, q, E⟩ := h
  exact ⟨o, q, ho, Mem.nil E⟩) ?_
 intro y hy
 dsimp only [List.nil_append]
 have n9 := nxV_bd xs k1 (n := 9) (by omega)
 refine g_alloc fun b3 => g_stA 0 rfl rfl (qu_len trivial) (qu_one _) rfl (put_all (by rw [qu_len trivial];first | rfl | rw [qu_len ‹_›])) rfl ?_
 refine gR 6 rfl (g_callT1 2 rfl rfl rfl (fun w M => next_c _ (by omega) (by omega) w (hT.later M.ext) (M.at_ _ (nthO_mem (i := 2) rfl))) rfl (gR 4 rfl (g_loop (ι := QuaV × Int × Nat) ⟨fun (y, d, k2) => d.toNat, fun (y, d, k2) => SmQu y ∧ d < 9, fun (y, d, k2) => [(4, .int .i64 d), (3, .pointer (some ⟨b3, 0, none⟩)), (0, .pointer (some ⟨bt, 0, none⟩)), (2, .pointer (some ⟨b2, 0, none⟩))], fun (y, d, k2) => [[(b3, Obj.cells (quC y).toArray 122 (0, 0))], [(b2, .cells (quC qu0).toArray 122 (0, 0))], [(bt, tobj p len cap k2)]]⟩ (y, _, _) ⟨hy, by omega⟩ (fun a F => F.only [4, 3, 0, 2] rfl) (by repeat (first | exact .refl _ | apply sC2 | apply sC1)) ?_)))
 clear n9 hy
 rintro ⟨y, d, k2⟩ ⟨hy, hd⟩
 dsimp only at hy hd ⊢
 have hb1 := hy.b
 by_cases hlt : 0 < d
 ·refine gR 7 rfl ?_
  refine g_ifT rfl (dqT (by omega)) (gR 7 rfl (g_callT1 2 rfl rfl rfl (fun w M => bool_c _ (by omega) (by omega) w (hT.later M.ext) (M.at_ _ (nthO_mem (i := 2) rfl))) rfl (gR 2 rfl (g_if rfl (fun h1 => ?_) (fun h1 => ?_)))))
  focus
   replace h1 := dqU h1
   refine gR 1 rfl (g_ldA 0 rfl rfl (qu_all trivial) ?_)
  rotate_left 1
  focus
   replace h1 := dqV h1
   refine gR 1 rfl (g_ldA 0 rfl rfl (qu_all trivial) (gR 1 rfl (g_ld1 0 rfl rfl (qu_next trivial) ?_)))
  rotate_right 1
  ·refine g_callN (ι := QuaV) (fun o => .agg (quC o).toArray) SmQu (fun _ => []) rfl rfl (fun w M => Cal.mono (rqmissed_c y hb1 w) fun r w' h => by
    obtain ⟨o, ho, q, E⟩ := h
    exact ⟨o, q, ho, Mem.nil E⟩) ?_
   intro y2 hy2
   dsimp only [List.nil_append]
   refine g_stA 0 rfl rfl (qu_len trivial) (qu_one _) rfl (put_all (by rw [qu_len trivial];first | rfl | rw [qu_len ‹_›])) rfl ?_
   refine gR 5 rfl (g_sub rfl rfl (w_i64 (by omega) (by omega)) (gR 2 rfl ?_))
   exact g_next (y2, d - 1, _) ⟨hy2, by dsimp only;omega⟩ (by dsimp only;omega) (fun a F => F.only [4, 3, 0, 2] rfl) (by (try dsimp only);repeat (first | exact .refl _ | with_reducible exact sC0 _ | with_reducible apply sC2 | apply sC1))
  ·refine g_callN (ι := QuaV) (fun o => .agg (quC o).toArray) SmQu (fun _ => []) rfl rfl (fun w M => Cal.mono (rqhello_c y hb1 y.next w) fun r w' h => by
    obtain ⟨o, ho, q, E⟩ := h
    exact ⟨o, q, ho, Mem.nil E⟩) ?_
   intro y2 hy2
   dsimp only [List.nil_append]
   refine g_stA 0 rfl rfl (qu_len trivial) (qu_one _) rfl (put_all (by rw [qu_len trivial];first | rfl | rw [qu_len ‹_›])) rfl ?_
   refine gR 5 rfl (g_sub rfl rfl (w_i64 (by omega) (by omega)) (gR 2 rfl ?_))
   exact g_next (y2, d - 1, _) ⟨hy2, by dsimp only;omega⟩ (by dsimp only;omega) (fun a F => F.only [4, 3, 0, 2] rfl) (by (try dsimp only);repeat (first | exact .refl _ | with_reducible exact sC0 _ | with_reducible apply sC2 | apply sC1))
 refine gR 7 rfl (g_ifF rfl (dqF (by omega)) (gR 2 rfl (g_outX (gR 3 rfl (g_cutC (ι := QuaV) ⟨fun y => SmQu y, fun y => [(3, .pointer (some ⟨b3, 0, none⟩)), (0, .pointer (some ⟨bt, 0, none⟩)), (2, .pointer (some ⟨b2, 0, none⟩))], fun y => [[(b3, Obj.cells (quC y).toArray 122 (0, 0))], [(b2, .cells (quC qu0).toArray 122 (0, 0))], [(bt, tobj p len cap k2)]]⟩ ?_ ?_)))))
 ·cases hk : y.known
  ·refine gR 3 rfl ?_
   refine g_ld1 0 rfl rfl (qu_known trivial) (gR 3 rfl (g_ifT rfl (notT ‹_›) ?_))
   refine gR 1 rfl (g_ldA 0 rfl rfl (qu_all trivial) ?_)
   refine g_callN (ι := QuaV) (fun o => .agg (quC o).toArray) SmQu (fun _ => []) rfl rfl (fun w M => Cal.mono (rqhello_c y hb1 0 w) fun r w' h => by
    obtain ⟨o, ho, q, E⟩ := h
    exact ⟨o, q, ho, Mem.nil E⟩) ?_
   intro y2 hy2
   dsimp only [List.nil_append]
   refine g_stA 0 rfl rfl (qu_len trivial) (qu_one _) rfl (put_all (by rw [qu_len trivial];first | rfl | rw [qu_len ‹_›])) rfl ?_
   exact gR 1 rfl (g_join y2 hy2 (fun a F => F.only [3, 0, 2] rfl) (by (try dsimp only);repeat (first | exact .refl _ | with_reducible exact sC0 _ | with_reducible apply sC2 | apply sC1)))
  ·refine gR 3 rfl ?_
   refine g_ld1 0 rfl rfl (qu_known trivial) (gR 3 rfl (g_ifF rfl (notF ‹_›) ?_))
   exact gR 1 rfl (g_join y hy (fun a F => F.only [3, 0, 2] rfl) (by (try dsimp only);repeat (first | exact .refl _ | with_reducible exact sC0 _ | with_reducible apply sC2 | apply sC1)))
 clear hy hb1 hlt hd y
 intro y hy
 have hb1 := hy.b
 dsimp only
 have n5 := nxV_bd xs (nxK xs k2) (n := 5) (by omega)
 obtain ⟨cc, hcc, c0, c1⟩ := rep_el n5.1 n5.2
 refine gR 5 rfl (g_callT1 2 rfl rfl rfl (fun w M => bool_c _ (by omega) (by omega) w (hT.later M.ext) (M.at_ _ (nthO_mem (i := 2) rfl))) rfl (gR 2 rfl (g_if rfl (fun h1 => ?_) (fun h1 => ?_))))
 ·replace h1 := dqU h1
  refine gR 2 rfl (g_ldA 0 rfl rfl (qu_all trivial) (g_stA 1 rfl rfl (qu_len trivial) (qu_one _) rfl (put_all (by rw [qu_len trivial];first | rfl | rw [qu_len ‹_›])) rfl ?_))
  exact gR 4 rfl (g_retC 1 rfl rfl rfl rfl (qu_all trivial) fun w M => ⟨y, _, hy, rfl, M.sub (.cons _ (.cons _ (.refl _)))⟩)
 replace h1 := dqV h1
 refine gR 2 rfl (gR 1 rfl (g_drawE 7 38 [bt] [3, 6] [] [[(bt, tobj p len cap (nxK xs k2))]] [[(b3, Obj.cells (quC y).toArray 122 (0, 0))], [(b2, .cells (quC qu0).toArray 122 (0, 0))]] rfl (by kernel_rfl) (by simpa using List.perm_append_comm (l₁ := [(b3, Obj.cells (quC y).toArray 122 (0, 0)), (b2, .cells (quC qu0).toArray 122 (0, 0))]) (l₂ := [(bt, tobj p len cap (nxK xs k2))])) (by simp) (fe_start ?_)))
 refine fe_v (fun a2 w F M R r => o_loadHA (F.e rfl) (M.at_ _ (.head _)) (show seg (quC y) 0 5 = some (quC y) from rfl) r) (fe_bs rfl rfl rfl rfl (fe_run 60 rfl (fe_opK (v := .int .i64 (nxV xs (nxK xs k2) 5)) (fun _ => [[(b3, Obj.cells (quC y).toArray 122 (0, 0))], [(b2, .cells (quC qu0).toArray 122 (0, 0))], [(bt, tobj p len cap (nxK xs (nxK xs k2)))]]) [] (fun i hi => ?_) ?_)))
 ·exact opf_callK 2 rfl rfl rfl (.head _) (fun w M => next_c 5 (by omega) (by omega) w (hT.later M.ext) (M.at_ _ (nthO_mem (i := 2) rfl))) rfl
 refine fe_run 60 rfl (fe_ixX 1 (.head _) rfl n5.1 (by omega) (fe_ldX 4 (.head _) hcc (fe_run 60 rfl (fe_op (κ := QuaV) (fun _ o => .agg (quC o).toArray) (fun _ o => SmQu o) (fun _ _ => [[(b3, Obj.cells (quC y).toArray 122 (0, 0))], [(b2, .cells (quC qu0).toArray 122 (0, 0))], [(bt, tobj p len cap (nxK xs (nxK xs k2)))]]) [] .any (fun i hi => ?_) (fun _ _ _ _ => trivial) ?_))))
 ·exact opf_callN (fun o : QuaV => .agg (quC o).toArray) (fun o => SmQu o) (fun _ => []) rfl rfl (fun w M => Cal.mono (rqreport_c y hb1 cc (by omega) w) fun r w' h => by
   obtain ⟨o, ho, q, E⟩ := h
   exact ⟨o, q, ho, Mem.nil E⟩)
 refine fe_fin rfl (by rintro i _ q hq;simp at hq;rcases hq with rfl <;> simp) ?_
 rintro ⟨_, o⟩ ⟨_, ho⟩
 refine ⟨_, rfl, ?_⟩
 dsimp only at ho ⊢
 refine g_stA 1 rfl rfl rfl rfl rfl rfl rfl ?_
 exact gR 3 rfl (g_retC 1 rfl rfl rfl rfl rfl fun w M => ⟨o, _, ho, rfl, M.sub (.cons _ (.cons _ (.refl _)))⟩)
end Go.Proofs.YtfhkmgcalcfibaaGreat
namespace Go.Proofs.YtfhkmgcalcfibaaGreat
open Go.RowKit
attribute [local irreducible] OpTo wpListIn Code.wpIn MW Cal
theorem qisTime_c (t : Int) (W : World) : Cal Tryz.prog 194 [.int .i64 t].toArray W fun v w' => v = .bool (isTime t) ∧ Ext [] W w' := by
 unfold isTime
 by_cases h : 0 ≤ t
 ·rw [dqT h, Bool.true_and]
  have h1 := dqT h
  exact g_start (n := 9) (S := []) fldT_ok slcT_ok Tryz.func194 rfl rfl rfl (gR 10 rfl (g_know 5 rfl (dqT (by omega)) (gR 7 rfl (g_ret1 rfl rfl rfl fun w M => ⟨rfl, M.ext⟩))))
 ·rw [dqF h, Bool.false_and]
  have h1 := dqF h
  exact g_start (n := 9) (S := []) fldT_ok slcT_ok Tryz.func194 rfl rfl rfl (gR 10 rfl (g_know 5 rfl (dqF (by omega)) (gR 7 rfl (g_ret1 rfl rfl rfl fun w M => ⟨rfl, M.ext⟩))))
theorem oisTime_c (t : Int) (W : World) : Cal Tryz.prog 65 [.int .i64 t].toArray W fun v w' => v = .bool (isTime t) ∧ Ext [] W w' := by
 unfold isTime
 by_cases h : 0 ≤ t
 ·rw [dqT h, Bool.true_and]
  have h1 := dqT h
  exact g_start (n := 9) (S := []) fldT_ok slcT_ok Tryz.func65 rfl rfl rfl (gR 10 rfl (g_know 5 rfl (dqT (by omega)) (gR 7 rfl (g_ret1 rfl rfl rfl fun w M => ⟨rfl, M.ext⟩))))
 ·rw [dqF h, Bool.false_and]
  have h1 := dqF h
  exact g_start (n := 9) (S := []) fldT_ok slcT_ok Tryz.func65 rfl rfl rfl (gR 10 rfl (g_know 5 rfl (dqF (by omega)) (gR 7 rfl (g_ret1 rfl rfl rfl fun w M => ⟨rfl, M.ext⟩))))
def orgD (self : Int) (o : OrgV) : DstV := ⟨o.dip, o.dbits, o.sip, o.sbits, self⟩
theorem dv_mkOg (self : Int) (o : OrgV) (h : IsDv (orgD self o)) : putAll [(0, 17), (17, 17), (34, 1)] dvZ [(0, pfC o.dip o.dbits), (1, pfC o.sip o.sbits), (2, [.int .u64 self])] = some (dvC (orgD self o)) := dv_build h
theorem orgD_is {self : Int} {o : OrgV} (h : IsOg o) : IsDv (orgD self o) := h
theorem odest_c (self : Int) (o : OrgV) (ho : IsOg o) (W : World) : Cal Tryz.prog 88 [.int .u64 self, .agg (ogC o).toArray].toArray W fun v w' => v = .agg (dvC (orgD self o)).toArray ∧ Ext [] W w' := by
 have hd : IsDv (orgD self o) := ho
 refine g_start (n := 11) (S := []) fldT_ok slcT_ok Tryz.func88 rfl rfl rfl (gR 2 rfl (g_box rfl rfl fun b3 => g_alloc fun b4 => gR 5 rfl (g_ldA 1 rfl rfl (og_dst ‹_›) ?_)))
 refine gR 1 rfl (g_ldA 1 rfl rfl (og_src ‹_›) ?_)
 refine gR 1 rfl (g_v (fun a w F M R r => o_build F rfl (dv_mkOg _ _ ‹_›) r) ?_)
 refine g_stA 0 rfl rfl (dv_len ‹_›) (dv_one _) rfl (put_all (by rw [dv_len ‹_›];first | rfl | rw [dv_len ‹_›])) rfl ?_
 refine gR 3 rfl (g_retC 0 rfl rfl rfl rfl (dv_all ‹_›) fun w M => ?_)
 exact ⟨rfl, M.ext⟩
theorem rown_c (self : Int) (o : OrgV) (ho : IsOg o) (W : World) : Cal Tryz.prog 91 [.int .u64 self, .agg (ogC o).toArray].toArray W fun v w' => v = .agg (dvC (orgD self o)).toArray ∧ Ext [] W w' := by
 have hd : IsDv (orgD self o) := ho
 refine g_start (n := 11) (S := []) fldT_ok slcT_ok Tryz.func91 rfl rfl rfl (gR 2 rfl (g_box rfl rfl fun b3 => g_alloc fun b4 => gR 5 rfl (g_ldA 1 rfl rfl (og_dst ‹_›) ?_)))
 refine gR 1 rfl (g_ldA 1 rfl rfl (og_src ‹_›) ?_)
 refine gR 1 rfl (g_v (fun a w F M R r => o_build F rfl (dv_mkOg _ _ ‹_›) r) ?_)
 refine g_stA 0 rfl rfl (dv_len ‹_›) (dv_one _) rfl (put_all (by rw [dv_len ‹_›];first | rfl | rw [dv_len ‹_›])) rfl ?_
 refine gR 3 rfl (g_retC 0 rfl rfl rfl rfl (dv_all ‹_›) fun w M => ?_)
 exact ⟨rfl, M.ext⟩
def req1 (r : ReqV) : Bool := validT r.to && decide (1 ≤ r.hops) && decide (r.hops ≤ 32) && isTime r.next && decide (1 ≤ r.left) && decide (r.left ≤ 3)
def cmpRq (a b : ReqV) : Int := cmpD a.to b.to
def validRqs (l : List ReqV) : Bool := vldL 64 req1 cmpRq l
def org1 (self : Int) (o : OrgV) : Bool := validT (orgD self o)
def cmpOg (self : Int) (a b : OrgV) : Int := cmpD (orgD self a) (orgD self b)
def validOgs (self : Int) (l : List OrgV) : Bool := vldL 8 (org1 self) (cmpOg self) l
def adj1 (self : Int) (a : AdjV) : Bool := !decide (a.nb = 0) && !decide (a.nb = self) && quValid a.q && a.q.known && isTime a.til && isTime a.ans
def cmpAj (a b : AdjV) : Int := a.nb - b.nb
def validAjs (self : Int) (l : List AdjV) : Bool := vldL 16 (adj1 self) cmpAj l
theorem rqvalidQ_c (l : List ReqV) (hx : ∀ x ∈ l, IsRq x) (v : Value) (W : World) (hS : SlAt W 40 v l.length (rqsC l)) :
  Cal Tryz.prog 106 [v].toArray W fun r w' => r = .bool (validRqs l) ∧ Ext [] W w' := by
 obtain ⟨q, cap, rfl, _⟩ := id hS
 have hm := hS.memB [] (by simp)
 unfold validRqs
 generalize hV : vldL 64 req1 cmpRq l = b0
 refine g_start (n := 60) (S := []) fldT_ok slcT_ok Tryz.func106 rfl rfl rfl ?_
 by_cases c0 : 64 < l.length
 ·refine gR 13 rfl ?_
  exact g_ifT rfl (dqT (by omega)) (gR 7 rfl (g_ret1 rfl rfl rfl fun w M => vl_L hV c0 M.ext))
 refine gR 13 rfl (g_ifF rfl (dqF (by omega)) (gR 11 rfl (g_loop (ι := Nat) ⟨fun (i : Nat) => l.length - i, fun (i : Nat) => i ≤ l.length ∧ (∀ j, j < i → vld1 req1 cmpRq l j = true), fun (i : Nat) => [(10, .int .i64 i), (9, .int .i64 l.length), (8, .slice q l.length cap), (0, .slice q l.length cap)], fun (i : Nat) => []⟩ 0 ⟨by omega, by omega⟩ (fun a F => F.only [10, 9, 8, 0] rfl) (by repeat (first | exact .refl _ | apply sC2 | apply sC1)) ?_)))
 rintro i ⟨hi_i, hv⟩
 by_cases hlt_i : i < l.length
 ·obtain ⟨b, o, cs, t', fz, rfl, hb, hs⟩ := hm (by omega)
  obtain ⟨x, hx0⟩ : ∃ x, x = l[i] := ⟨_, rfl⟩
  have hxm : x ∈ l := by rw [hx0];exact List.getElem_mem hlt_i
  have hxi : IsRq x := hx _ hxm
  have f1 : seg cs (o + (i : Int).toNat * 40) 40 = some (rqC x) := by rw [hx0];exact seg_el (rqs_len hx) hs hlt_i (by omega)
  replace hx0 := hx0.symm
  have xd : IsDv x.to := hxi
  by_cases hi0 : 0 < i
  ·obtain ⟨y, hy0⟩ : ∃ y, y = l[i - 1]'(by omega) := ⟨_, rfl⟩
   have yI : IsRq y := by rw [hy0];exact hx _ (List.getElem_mem _)
   have f2 : seg cs (o + ((i : Int) - 1).toNat * 40) 40 = some (rqC y) := by rw [hy0];exact seg_el (rqs_len hx) hs (show i - 1 < l.length by omega) (by omega)
   replace hy0 := hy0.symm
   have yd : IsDv y.to := yI
   refine gR 6 rfl (g_ifT rfl (dqT (by omega)) (gR 7 rfl (g_ixS rfl rfl (by omega) (by omega) (g_leA rfl ‹_› (by with_reducible assumption) ?_))))
   refine g_alloc fun b4 => gR 1 rfl (g_stA 0 rfl rfl (rq_len ‹_›) (rq_one _) rfl (put_all (by rw [rq_len ‹_›];first | rfl | rw [rq_len ‹_›])) rfl ?_)
   refine gR 6 rfl (g_ldA 0 rfl rfl (rq_to ‹_›) ?_)
   refine g_call rfl rfl (fun w M => validTo_c _ ‹_› _) ?_
   refine gR 2 rfl (g_split 19 rfl (fun h1 => ?_) (fun h1 => ?_))
   ·replace h1 := false_of_not h1
    refine gR 37 rfl (g_outR (gR 2 rfl (g_ret1 rfl rfl rfl fun w M => ?_)))
    exact vl_F hV hlt_i hx0.symm (by (unfold req1;simp [*];done)) M.ext
   ·replace h1 := true_of_not h1
    refine gR 1 rfl (g_ld1 0 rfl rfl (rq_hops ‹_›) ?_)
    refine gR 3 rfl (g_split 24 rfl (fun h2 => ?_) (fun h2 => ?_))
    ·replace h2 := dqU h2
     refine gR 32 rfl (g_outR (gR 2 rfl (g_ret1 rfl rfl rfl fun w M => ?_)))
     exact vl_F hV hlt_i hx0.symm (by (unfold req1;simp [*] <;> omega)) M.ext
    ·replace h2 := dqV h2
     refine gR 1 rfl (g_ld1 0 rfl rfl (rq_hops ‹_›) ?_)
     refine gR 3 rfl (g_split 29 rfl (fun h3 => ?_) (fun h3 => ?_))
     ·replace h3 := dqU h3
      refine gR 27 rfl (g_outR (gR 2 rfl (g_ret1 rfl rfl rfl fun w M => ?_)))
      exact vl_F hV hlt_i hx0.symm (by (unfold req1;simp [*] <;> omega)) M.ext
     ·replace h3 := dqV h3
      refine gR 1 rfl (g_ld1 0 rfl rfl (rq_next ‹_›) ?_)
      refine g_call rfl rfl (fun w M => qisTime_c _ _) (gR 3 rfl (g_split 35 rfl (fun h4 => ?_) (fun h4 => ?_)))
      ·replace h4 := false_of_not h4
       refine gR 21 rfl (g_outR (gR 2 rfl (g_ret1 rfl rfl rfl fun w M => ?_)))
       exact vl_F hV hlt_i hx0.symm (by (unfold req1;simp [*];done)) M.ext
      ·replace h4 := true_of_not h4
       refine gR 1 rfl (g_ld1 0 rfl rfl (rq_left ‹_›) ?_)
       refine gR 3 rfl (g_split 40 rfl (fun h5 => ?_) (fun h5 => ?_))
       ·replace h5 := dqU h5
        refine gR 16 rfl (g_outR (gR 2 rfl (g_ret1 rfl rfl rfl fun w M => ?_)))
        exact vl_F hV hlt_i hx0.symm (by (unfold req1;simp [*] <;> omega)) M.ext
       ·replace h5 := dqV h5
        refine gR 1 rfl (g_ld1 0 rfl rfl (rq_left ‹_›) ?_)
        refine gR 4 rfl (g_if rfl (fun h6 => ?_) (fun h6 => ?_))
        ·replace h6 := dqU h6
         refine gR 9 rfl (g_outR (gR 2 rfl (g_ret1 rfl rfl rfl fun w M => ?_)))
         exact vl_F hV hlt_i hx0.symm (by (unfold req1;simp [*];done)) M.ext
        ·replace h6 := dqV h6
         refine gR 3 rfl (g_draw 14 60 rfl (by kernel_rfl) (fR 3 rfl (fd_know 47 rfl (dqT (by omega)) (fR 2 rfl (fd_sub rfl rfl (w_i64 (by omega) (by omega)) (fd_ixS rfl rfl (by omega) (by omega) (fR 1 rfl (fd_leA rfl ‹_› (sg_seg f2 (rq_to ‹_›) (by omega)) ?_))))))))
         refine fR 1 rfl (fd_ldA 0 rfl rfl (rq_to ‹_›) ?_)
         refine fd_call rfl rfl (fun w M => scompare_c _ _ ‹_› ‹_› _) ?_
         refine fR 2 rfl (fd_done rfl rfl (gR 2 rfl (g_if rfl (fun h7 => ?_) (fun h7 => ?_))))
         ·replace h7 := dqU h7
          exact gR 8 rfl (g_outR (gR 2 rfl (g_ret1 rfl rfl rfl fun w M => vl_S hV hlt_i hi0 hx0.symm hy0.symm (by unfold cmpRq;omega) M.ext)))
         ·replace h7 := dqV h7
          refine gR 4 rfl (g_add rfl rfl (w_i64 (by omega) (by omega)) (gR 2 rfl ?_))
          exact g_next (i + 1) ⟨by omega, vl_N hlt_i hx0.symm hv (by (unfold req1;simp [*] <;> omega)) fun _ => by rw [hy0];exact (by unfold cmpRq;omega)⟩ (by dsimp only;omega) (fun a F => F.only [10, 9, 8, 0] rfl) (by (try dsimp only);repeat (first | exact .refl _ | with_reducible exact sC0 _ | with_reducible apply sC2 | apply sC1))
  ·refine gR 6 rfl ?_
   refine g_ifT rfl (dqT (by omega)) (gR 7 rfl (g_ixS rfl rfl (by omega) (by omega) (g_leA rfl ‹_› (by with_reducible assumption) ?_)))
   refine g_alloc fun b4 => gR 1 rfl (g_stA 0 rfl rfl (rq_len ‹_›) (rq_one _) rfl (put_all (by rw [rq_len ‹_›];first | rfl | rw [rq_len ‹_›])) rfl ?_)
   refine gR 6 rfl (g_ldA 0 rfl rfl (rq_to ‹_›) ?_)
   refine g_call rfl rfl (fun w M => validTo_c _ ‹_› _) ?_
   refine gR 2 rfl (g_split 19 rfl (fun h1 => ?_) (fun h1 => ?_))
   ·replace h1 := false_of_not h1
    refine gR 37 rfl (g_outR (gR 2 rfl (g_ret1 rfl rfl rfl fun w M => ?_)))
    exact vl_F hV hlt_i hx0.symm (by (unfold req1;simp [*];done)) M.ext
   ·replace h1 := true_of_not h1
    refine gR 1 rfl (g_ld1 0 rfl rfl (rq_hops ‹_›) ?_)
    refine gR 3 rfl (g_split 24 rfl (fun h2 => ?_) (fun h2 => ?_))
    ·replace h2 := dqU h2
     refine gR 32 rfl (g_outR (gR 2 rfl (g_ret1 rfl rfl rfl fun w M => ?_)))
     exact vl_F hV hlt_i hx0.symm (by (unfold req1;simp [*] <;> omega)) M.ext
    ·replace h2 := dqV h2
     refine gR 1 rfl (g_ld1 0 rfl rfl (rq_hops ‹_›) ?_)
     refine gR 3 rfl (g_split 29 rfl (fun h3 => ?_) (fun h3 => ?_))
     ·replace h3 := dqU h3
      refine gR 27 rfl (g_outR (gR 2 rfl (g_ret1 rfl rfl rfl fun w M => ?_)))
      exact vl_F hV hlt_i hx0.symm (by (unfold req1;simp [*] <;> omega)) M.ext
     ·replace h3 := dqV h3
      refine gR 1 rfl (g_ld1 0 rfl rfl (rq_next ‹_›) ?_)
      refine g_call rfl rfl (fun w M => qisTime_c _ _) (gR 3 rfl (g_split 35 rfl (fun h4 => ?_) (fun h4 => ?_)))
      ·replace h4 := false_of_not h4
       refine gR 21 rfl (g_outR (gR 2 rfl (g_ret1 rfl rfl rfl fun w M => ?_)))
       exact vl_F hV hlt_i hx0.symm (by (unfold req1;simp [*];done)) M.ext
      ·replace h4 := true_of_not h4
       refine gR 1 rfl (g_ld1 0 rfl rfl (rq_left ‹_›) ?_)
       refine gR 3 rfl (g_split 40 rfl (fun h5 => ?_) (fun h5 => ?_))
       ·replace h5 := dqU h5
        refine gR 16 rfl (g_outR (gR 2 rfl (g_ret1 rfl rfl rfl fun w M => ?_)))
        exact vl_F hV hlt_i hx0.symm (by (unfold req1;simp [*] <;> omega)) M.ext
       ·replace h5 := dqV h5
        refine gR 1 rfl (g_ld1 0 rfl rfl (rq_left ‹_›) ?_)
        refine gR 4 rfl (g_if rfl (fun h6 => ?_) (fun h6 => ?_))
        ·replace h6 := dqU h6
         refine gR 9 rfl (g_outR (gR 2 rfl (g_ret1 rfl rfl rfl fun w M => ?_)))
         exact vl_F hV hlt_i hx0.symm (by (unfold req1;simp [*];done)) M.ext
        ·replace h6 := dqV h6
         refine gR 3 rfl (g_draw 14 60 rfl (by kernel_rfl) (fR 3 rfl (fd_know 47 rfl (dqF (by omega)) (fR 11 rfl (fd_done rfl rfl (gR 7 rfl (g_add rfl rfl (w_i64 (by omega) (by omega)) (gR 2 rfl ?_))))))))
         exact g_next (i + 1) ⟨by omega, vl_N hlt_i hx0.symm hv (by (unfold req1;simp [*] <;> omega)) fun h => absurd h hi0⟩ (by dsimp only;omega) (fun a F => F.only [10, 9, 8, 0] rfl) (by (try dsimp only);repeat (first | exact .refl _ | with_reducible exact sC0 _ | with_reducible apply sC2 | apply sC1))
 ·have hil : i = l.length := by omega
  rw [hil] at hv
  exact gR 6 rfl (g_ifF rfl (dqF (by omega)) (gR 2 rfl (g_outX (gR 8 rfl (g_ret1 rfl rfl rfl fun w M => vl_T hV (by omega) hv M.ext)))))
theorem refvalidQ_c (l : List ReqV) (hx : ∀ x ∈ l, IsRq x) (v : Value) (W : World) (hS : SlAt W 40 v l.length (rqsC l)) :
  Cal Tryz.prog 116 [v].toArray W fun r w' => r = .bool (validRqs l) ∧ Ext [] W w' := by
 obtain ⟨q, cap, rfl, _⟩ := id hS
 have hm := hS.memB [] (by simp)
 unfold validRqs
 generalize hV : vldL 64 req1 cmpRq l = b0
 refine g_start (n := 62) (S := []) fldT_ok slcT_ok Tryz.func116 rfl rfl rfl ?_
 by_cases c0 : 64 < l.length
 ·refine gR 13 rfl ?_
  exact g_ifT rfl (dqT (by omega)) (gR 7 rfl (g_ret1 rfl rfl rfl fun w M => vl_L hV c0 M.ext))
 refine gR 13 rfl (g_ifF rfl (dqF (by omega)) (gR 11 rfl (g_loop (ι := Nat) ⟨fun (i : Nat) => l.length - i, fun (i : Nat) => i ≤ l.length ∧ (∀ j, j < i → vld1 req1 cmpRq l j = true), fun (i : Nat) => [(10, .int .i64 i), (9, .int .i64 l.length), (8, .slice q l.length cap), (0, .slice q l.length cap)], fun (i : Nat) => []⟩ 0 ⟨by omega, by omega⟩ (fun a F => F.only [10, 9, 8, 0] rfl) (by repeat (first | exact .refl _ | apply sC2 | apply sC1)) ?_)))
 rintro i ⟨hi_i, hv⟩
 by_cases hlt_i : i < l.length
 ·obtain ⟨b, o, cs, t', fz, rfl, hb, hs⟩ := hm (by omega)
  obtain ⟨x, hx0⟩ : ∃ x, x = l[i] := ⟨_, rfl⟩
  have hxm : x ∈ l := by rw [hx0];exact List.getElem_mem hlt_i
  have hxi : IsRq x := hx _ hxm
  have f1 : seg cs (o + (i : Int).toNat * 40) 40 = some (rqC x) := by rw [hx0];exact seg_el (rqs_len hx) hs hlt_i (by omega)
  replace hx0 := hx0.symm
  have xd : IsDv x.to := hxi
  by_cases hi0 : 0 < i
  ·obtain ⟨y, hy0⟩ : ∃ y, y = l[i - 1]'(by omega) := ⟨_, rfl⟩
   have yI : IsRq y := by rw [hy0];exact hx _ (List.getElem_mem _)
   have f2 : seg cs (o + ((i : Int) - 1).toNat * 40) 40 = some (rqC y) := by rw [hy0];exact seg_el (rqs_len hx) hs (show i - 1 < l.length by omega) (by omega)
   replace hy0 := hy0.symm
   have yd : IsDv y.to := yI
   refine gR 6 rfl (g_ifT rfl (dqT (by omega)) (gR 14 rfl (g_ixS rfl rfl (by omega) (by omega) (g_leA rfl ‹_› (by with_reducible assumption) ?_))))
   refine g_alloc fun b4 => g_stA 0 rfl rfl (rq_len ‹_›) (rq_one _) rfl (put_all (by rw [rq_len ‹_›];first | rfl | rw [rq_len ‹_›])) rfl ?_
   refine gR 6 rfl (g_ldA 0 rfl rfl (rq_to ‹_›) ?_)
   refine g_call rfl rfl (fun w M => rvalidTo_c _ ‹_› _) ?_
   refine gR 2 rfl (g_split 21 rfl (fun h1 => ?_) (fun h1 => ?_))
   ·replace h1 := false_of_not h1
    refine gR 37 rfl (g_outR (gR 2 rfl (g_ret1 rfl rfl rfl fun w M => ?_)))
    exact vl_F hV hlt_i hx0.symm (by (unfold req1;simp [*];done)) M.ext
   ·replace h1 := true_of_not h1
    refine gR 1 rfl (g_ld1 0 rfl rfl (rq_hops ‹_›) ?_)
    refine gR 3 rfl (g_split 26 rfl (fun h2 => ?_) (fun h2 => ?_))
    ·replace h2 := dqU h2
     refine gR 32 rfl (g_outR (gR 2 rfl (g_ret1 rfl rfl rfl fun w M => ?_)))
     exact vl_F hV hlt_i hx0.symm (by (unfold req1;simp [*] <;> omega)) M.ext
    ·replace h2 := dqV h2
     refine gR 1 rfl (g_ld1 0 rfl rfl (rq_hops ‹_›) ?_)
     refine gR 3 rfl (g_split 31 rfl (fun h3 => ?_) (fun h3 => ?_))
     ·replace h3 := dqU h3
      refine gR 27 rfl (g_outR (gR 2 rfl (g_ret1 rfl rfl rfl fun w M => ?_)))
      exact vl_F hV hlt_i hx0.symm (by (unfold req1;simp [*] <;> omega)) M.ext
     ·replace h3 := dqV h3
      refine gR 1 rfl (g_ld1 0 rfl rfl (rq_next ‹_›) ?_)
      refine g_call rfl rfl (fun w M => risTime_c _ _) (gR 3 rfl (g_split 37 rfl (fun h4 => ?_) (fun h4 => ?_)))
      ·replace h4 := false_of_not h4
       refine gR 21 rfl (g_outR (gR 2 rfl (g_ret1 rfl rfl rfl fun w M => ?_)))
       exact vl_F hV hlt_i hx0.symm (by (unfold req1;simp [*];done)) M.ext
      ·replace h4 := true_of_not h4
       refine gR 1 rfl (g_ld1 0 rfl rfl (rq_left ‹_›) ?_)
       refine gR 3 rfl (g_split 42 rfl (fun h5 => ?_) (fun h5 => ?_))
       ·replace h5 := dqU h5
        refine gR 16 rfl (g_outR (gR 2 rfl (g_ret1 rfl rfl rfl fun w M => ?_)))
        exact vl_F hV hlt_i hx0.symm (by (unfold req1;simp [*] <;> omega)) M.ext
       ·replace h5 := dqV h5
        refine gR 1 rfl (g_ld1 0 rfl rfl (rq_left ‹_›) ?_)
        refine gR 4 rfl (g_if rfl (fun h6 => ?_) (fun h6 => ?_))
        ·replace h6 := dqU h6
         refine gR 9 rfl (g_outR (gR 2 rfl (g_ret1 rfl rfl rfl fun w M => ?_)))
         exact vl_F hV hlt_i hx0.symm (by (unfold req1;simp [*];done)) M.ext
        ·replace h6 := dqV h6
         refine gR 3 rfl (g_draw 14 62 rfl (by kernel_rfl) (fR 3 rfl (fd_know 49 rfl (dqT (by omega)) (fR 2 rfl (fd_sub rfl rfl (w_i64 (by omega) (by omega)) (fd_ixS rfl rfl (by omega) (by omega) (fR 1 rfl (fd_leA rfl ‹_› (sg_seg f2 (rq_to ‹_›) (by omega)) ?_))))))))
         refine fR 1 rfl (fd_ldA 0 rfl rfl (rq_to ‹_›) ?_)
         refine fd_call rfl rfl (fun w M => rcompare_c _ _ ‹_› ‹_› _) ?_
         refine fR 2 rfl (fd_done rfl rfl (gR 2 rfl (g_if rfl (fun h7 => ?_) (fun h7 => ?_))))
         ·replace h7 := dqU h7
          exact gR 8 rfl (g_outR (gR 2 rfl (g_ret1 rfl rfl rfl fun w M => vl_S hV hlt_i hi0 hx0.symm hy0.symm (by unfold cmpRq;omega) M.ext)))
         ·replace h7 := dqV h7
          refine gR 4 rfl (g_add rfl rfl (w_i64 (by omega) (by omega)) (gR 2 rfl ?_))
          exact g_next (i + 1) ⟨by omega, vl_N hlt_i hx0.symm hv (by (unfold req1;simp [*] <;> omega)) fun _ => by rw [hy0];exact (by unfold cmpRq;omega)⟩ (by dsimp only;omega) (fun a F => F.only [10, 9, 8, 0] rfl) (by (try dsimp only);repeat (first | exact .refl _ | with_reducible exact sC0 _ | with_reducible apply sC2 | apply sC1))
  ·refine gR 6 rfl ?_
   refine g_ifT rfl (dqT (by omega)) (gR 14 rfl (g_ixS rfl rfl (by omega) (by omega) (g_leA rfl ‹_› (by with_reducible assumption) ?_)))
   refine g_alloc fun b4 => g_stA 0 rfl rfl (rq_len ‹_›) (rq_one _) rfl (put_all (by rw [rq_len ‹_›];first | rfl | rw [rq_len ‹_›])) rfl ?_
   refine gR 6 rfl (g_ldA 0 rfl rfl (rq_to ‹_›) ?_)
   refine g_call rfl rfl (fun w M => rvalidTo_c _ ‹_› _) ?_
   refine gR 2 rfl (g_split 21 rfl (fun h1 => ?_) (fun h1 => ?_))
   ·replace h1 := false_of_not h1
    refine gR 37 rfl (g_outR (gR 2 rfl (g_ret1 rfl rfl rfl fun w M => ?_)))
    exact vl_F hV hlt_i hx0.symm (by (unfold req1;simp [*];done)) M.ext
   ·replace h1 := true_of_not h1
    refine gR 1 rfl (g_ld1 0 rfl rfl (rq_hops ‹_›) ?_)
    refine gR 3 rfl (g_split 26 rfl (fun h2 => ?_) (fun h2 => ?_))
    ·replace h2 := dqU h2
     refine gR 32 rfl (g_outR (gR 2 rfl (g_ret1 rfl rfl rfl fun w M => ?_)))
     exact vl_F hV hlt_i hx0.symm (by (unfold req1;simp [*] <;> omega)) M.ext
    ·replace h2 := dqV h2
     refine gR 1 rfl (g_ld1 0 rfl rfl (rq_hops ‹_›) ?_)
     refine gR 3 rfl (g_split 31 rfl (fun h3 => ?_) (fun h3 => ?_))
     ·replace h3 := dqU h3
      refine gR 27 rfl (g_outR (gR 2 rfl (g_ret1 rfl rfl rfl fun w M => ?_)))
      exact vl_F hV hlt_i hx0.symm (by (unfold req1;simp [*] <;> omega)) M.ext
     ·replace h3 := dqV h3
      refine gR 1 rfl (g_ld1 0 rfl rfl (rq_next ‹_›) ?_)
      refine g_call rfl rfl (fun w M => risTime_c _ _) (gR 3 rfl (g_split 37 rfl (fun h4 => ?_) (fun h4 => ?_)))
      ·replace h4 := false_of_not h4
       refine gR 21 rfl (g_outR (gR 2 rfl (g_ret1 rfl rfl rfl fun w M => ?_)))
       exact vl_F hV hlt_i hx0.symm (by (unfold req1;simp [*];done)) M.ext
      ·replace h4 := true_of_not h4
       refine gR 1 rfl (g_ld1 0 rfl rfl (rq_left ‹_›) ?_)
       refine gR 3 rfl (g_split 42 rfl (fun h5 => ?_) (fun h5 => ?_))
       ·replace h5 := dqU h5
        refine gR 16 rfl (g_outR (gR 2 rfl (g_ret1 rfl rfl rfl fun w M => ?_)))
        exact vl_F hV hlt_i hx0.symm (by (unfold req1;simp [*] <;> omega)) M.ext
       ·replace h5 := dqV h5
        refine gR 1 rfl (g_ld1 0 rfl rfl (rq_left ‹_›) ?_)
        refine gR 4 rfl (g_if rfl (fun h6 => ?_) (fun h6 => ?_))
        ·replace h6 := dqU h6
         refine gR 9 rfl (g_outR (gR 2 rfl (g_ret1 rfl rfl rfl fun w M => ?_)))
         exact vl_F hV hlt_i hx0.symm (by (unfold req1;simp [*];done)) M.ext
        ·replace h6 := dqV h6
         refine gR 3 rfl (g_draw 14 62 rfl (by kernel_rfl) (fR 3 rfl (fd_know 49 rfl (dqF (by omega)) (fR 11 rfl (fd_done rfl rfl (gR 7 rfl (g_add rfl rfl (w_i64 (by omega) (by omega)) (gR 2 rfl ?_))))))))
         exact g_next (i + 1) ⟨by omega, vl_N hlt_i hx0.symm hv (by (unfold req1;simp [*] <;> omega)) fun h => absurd h hi0⟩ (by dsimp only;omega) (fun a F => F.only [10, 9, 8, 0] rfl) (by (try dsimp only);repeat (first | exact .refl _ | with_reducible exact sC0 _ | with_reducible apply sC2 | apply sC1))
 ·have hil : i = l.length := by omega
  rw [hil] at hv
  exact gR 6 rfl (g_ifF rfl (dqF (by omega)) (gR 2 rfl (g_outX (gR 8 rfl (g_ret1 rfl rfl rfl fun w M => vl_T hV (by omega) hv M.ext)))))
theorem validOgs_c (self : Int) (l : List OrgV) (hx : ∀ x ∈ l, IsOg x) (v : Value) (W : World) (hS : SlAt W 34 v l.length (ogsC l)) :
  Cal Tryz.prog 101 [.int .u64 self, v].toArray W fun r w' => r = .bool (validOgs self l) ∧ Ext [] W w' := by
 obtain ⟨q, cap, rfl, _⟩ := id hS
 have hm := hS.memB [] (by simp)
 unfold validOgs
 generalize hV : vldL 8 (org1 self) (cmpOg self) l = b0
 refine g_start (n := 41) (S := []) fldT_ok slcT_ok Tryz.func101 rfl rfl rfl ?_
 by_cases c0 : 8 < l.length
 ·refine gR 13 rfl ?_
  exact g_ifT rfl (dqT (by omega)) (gR 7 rfl (g_ret1 rfl rfl rfl fun w M => vl_L hV c0 M.ext))
 refine gR 13 rfl (g_ifF rfl (dqF (by omega)) (gR 11 rfl (g_loop (ι := Nat) ⟨fun (i : Nat) => l.length - i, fun (i : Nat) => i ≤ l.length ∧ (∀ j, j < i → vld1 (org1 self) (cmpOg self) l j = true), fun (i : Nat) => [(13, .int .i64 i), (12, .int .i64 l.length), (11, .slice q l.length cap), (1, .slice q l.length cap), (0, .int .u64 self)], fun (i : Nat) => []⟩ 0 ⟨by omega, by omega⟩ (fun a F => F.only [13, 12, 11, 1, 0] rfl) (by repeat (first | exact .refl _ | apply sC2 | apply sC1)) ?_)))
 rintro i ⟨hi_i, hv⟩
 by_cases hlt_i : i < l.length
 ·obtain ⟨b, o, cs, t', fz, rfl, hb, hs⟩ := hm (by omega)
  obtain ⟨x, hx0⟩ : ∃ x, x = l[i] := ⟨_, rfl⟩
  have hxm : x ∈ l := by rw [hx0];exact List.getElem_mem hlt_i
  have hxi : IsOg x := hx _ hxm
  have f1 : seg cs (o + (i : Int).toNat * 34) 34 = some (ogC x) := by rw [hx0];exact seg_el (ogs_len hx) hs hlt_i (by omega)
  replace hx0 := hx0.symm
  have xd : IsDv (orgD self x) := hxi
  by_cases hi0 : 0 < i
  ·obtain ⟨y, hy0⟩ : ∃ y, y = l[i - 1]'(by omega) := ⟨_, rfl⟩
   have yI : IsOg y := by rw [hy0];exact hx _ (List.getElem_mem _)
   have f2 : seg cs (o + ((i : Int) - 1).toNat * 34) 34 = some (ogC y) := by rw [hy0];exact seg_el (ogs_len hx) hs (show i - 1 < l.length by omega) (by omega)
   replace hy0 := hy0.symm
   have yd : IsDv (orgD self y) := yI
   refine gR 6 rfl (g_ifT rfl (dqT (by omega)) (gR 7 rfl (g_ixS rfl rfl (by omega) (by omega) (g_leA rfl ‹_› (by with_reducible assumption) ?_))))
   refine g_alloc fun b6 => gR 1 rfl (g_stA 0 rfl rfl (og_len ‹_›) (og_one _) rfl (put_all (by rw [og_len ‹_›];first | rfl | rw [og_len ‹_›])) rfl ?_)
   refine gR 5 rfl (g_ldA 0 rfl rfl (og_all ‹_›) ?_)
   refine g_call rfl rfl (fun w M => odest_c _ _ ‹_› _) ?_
   refine g_alloc fun b7 => g_stA 0 rfl rfl (dv_len ‹_›) (dv_one _) rfl (put_all (by rw [dv_len ‹_›];first | rfl | rw [dv_len ‹_›])) rfl ?_
   refine gR 3 rfl (g_draw 19 41 rfl (by kernel_rfl) (fd_ldA 0 rfl rfl (dv_all ‹_›) ?_))
   refine fd_call rfl rfl (fun w M => validTo_c _ ‹_› _) ?_
   refine fR 2 rfl (fd_split 24 rfl (fun h1 => ?_) (fun h1 => ?_))
   ·replace h1 := false_of_not h1
    refine fR 15 rfl (fd_done rfl rfl (gR 11 rfl (g_outR (gR 2 rfl (g_ret1 rfl rfl rfl fun w M => ?_)))))
    exact vl_F hV hlt_i hx0.symm ‹_› M.ext
   ·replace h1 := true_of_not h1
    refine fR 3 rfl (fd_know 27 rfl (dqT (by omega)) (fR 3 rfl (fd_sub rfl rfl (w_i64 (by omega) (by omega)) (fd_ixS rfl rfl (by omega) (by omega) (fd_leA rfl ‹_› (by with_reducible assumption) ?_)))))
    refine fd_call rfl rfl (fun w M => odest_c _ _ ‹_› _) ?_
    refine fd_ldA 0 rfl rfl (dv_all ‹_›) ?_
    refine fd_call rfl rfl (fun w M => scompare_c _ _ ‹_› ‹_› _) ?_
    refine fR 3 rfl (fd_done rfl rfl (gR 2 rfl (g_if rfl (fun h2 => ?_) (fun h2 => ?_))))
    ·replace h2 := dqU h2
     exact gR 8 rfl (g_outR (gR 2 rfl (g_ret1 rfl rfl rfl fun w M => vl_S hV hlt_i hi0 hx0.symm hy0.symm (by unfold cmpOg;omega) M.ext)))
    ·replace h2 := dqV h2
     refine gR 4 rfl (g_add rfl rfl (w_i64 (by omega) (by omega)) (gR 2 rfl ?_))
     exact g_next (i + 1) ⟨by omega, vl_N hlt_i hx0.symm hv ‹_› fun _ => by rw [hy0];exact (by unfold cmpOg;omega)⟩ (by dsimp only;omega) (fun a F => F.only [13, 12, 11, 1, 0] rfl) (by (try dsimp only);repeat (first | exact .refl _ | with_reducible exact sC0 _ | with_reducible apply sC2 | apply sC1))
  ·refine gR 6 rfl ?_
   refine g_ifT rfl (dqT (by omega)) (gR 7 rfl (g_ixS rfl rfl (by omega) (by omega) (g_leA rfl ‹_› (by with_reducible assumption) ?_)))
   refine g_alloc fun b6 => gR 1 rfl (g_stA 0 rfl rfl (og_len ‹_›) (og_one _) rfl (put_all (by rw [og_len ‹_›];first | rfl | rw [og_len ‹_›])) rfl ?_)
   refine gR 5 rfl (g_ldA 0 rfl rfl (og_all ‹_›) ?_)
   refine g_call rfl rfl (fun w M => odest_c _ _ ‹_› _) ?_
   refine g_alloc fun b7 => g_stA 0 rfl rfl (dv_len ‹_›) (dv_one _) rfl (put_all (by rw [dv_len ‹_›];first | rfl | rw [dv_len ‹_›])) rfl ?_
   refine gR 3 rfl (g_draw 19 41 rfl (by kernel_rfl) (fd_ldA 0 rfl rfl (dv_all ‹_›) ?_))
   refine fd_call rfl rfl (fun w M => validTo_c _ ‹_› _) ?_
   refine fR 2 rfl (fd_split 24 rfl (fun h1 => ?_) (fun h1 => ?_))
   ·replace h1 := false_of_not h1
    refine fR 15 rfl (fd_done rfl rfl (gR 11 rfl (g_outR (gR 2 rfl (g_ret1 rfl rfl rfl fun w M => ?_)))))
    exact vl_F hV hlt_i hx0.symm ‹_› M.ext
   ·replace h1 := true_of_not h1
    refine fR 3 rfl (fd_know 27 rfl (dqF (by omega)) (fR 12 rfl (fd_done rfl rfl (gR 7 rfl (g_add rfl rfl (w_i64 (by omega) (by omega)) (gR 2 rfl ?_))))))
    exact g_next (i + 1) ⟨by omega, vl_N hlt_i hx0.symm hv ‹_› fun h => absurd h hi0⟩ (by dsimp only;omega) (fun a F => F.only [13, 12, 11, 1, 0] rfl) (by (try dsimp only);repeat (first | exact .refl _ | with_reducible exact sC0 _ | with_reducible apply sC2 | apply sC1))
 ·have hil : i = l.length := by omega
  rw [hil] at hv
  exact gR 6 rfl (g_ifF rfl (dqF (by omega)) (gR 2 rfl (g_outX (gR 8 rfl (g_ret1 rfl rfl rfl fun w M => vl_T hV (by omega) hv M.ext)))))
theorem validAjs_c (self : Int) (l : List AdjV) (hx : ∀ x ∈ l, IsAj x) (hqB : ∀ x ∈ l, BdQu x.q) (v : Value) (W : World) (hS : SlAt W 8 v l.length (ajsC l)) :
  Cal Tryz.prog 102 [.int .u64 self, v].toArray W fun r w' => r = .bool (validAjs self l) ∧ Ext [] W w' := by
 obtain ⟨q, cap, rfl, _⟩ := id hS
 have hm := hS.memB [] (by simp)
 unfold validAjs
 generalize hV : vldL 16 (adj1 self) cmpAj l = b0
 refine g_start (n := 64) (S := []) fldT_ok slcT_ok Tryz.func102 rfl rfl rfl ?_
 by_cases c0 : 16 < l.length
 ·refine gR 13 rfl ?_
  exact g_ifT rfl (dqT (by omega)) (gR 7 rfl (g_ret1 rfl rfl rfl fun w M => vl_L hV c0 M.ext))
 refine gR 13 rfl (g_ifF rfl (dqF (by omega)) (gR 11 rfl (g_loop (ι := Nat) ⟨fun (i : Nat) => l.length - i, fun (i : Nat) => i ≤ l.length ∧ (∀ j, j < i → vld1 (adj1 self) cmpAj l j = true), fun (i : Nat) => [(12, .int .i64 i), (11, .int .i64 l.length), (10, .slice q l.length cap), (1, .slice q l.length cap), (0, .int .u64 self)], fun (i : Nat) => []⟩ 0 ⟨by omega, by omega⟩ (fun a F => F.only [12, 11, 10, 1, 0] rfl) (by repeat (first | exact .refl _ | apply sC2 | apply sC1)) ?_)))
 rintro i ⟨hi_i, hv⟩
 by_cases hlt_i : i < l.length
 ·obtain ⟨b, o, cs, t', fz, rfl, hb, hs⟩ := hm (by omega)
  obtain ⟨x, hx0⟩ : ∃ x, x = l[i] := ⟨_, rfl⟩
  have hxm : x ∈ l := by rw [hx0];exact List.getElem_mem hlt_i
  have hxi : IsAj x := hx _ hxm
  have f1 : seg cs (o + (i : Int).toNat * 8) 8 = some (ajC x) := by rw [hx0];exact seg_el (ajs_len hx) hs hlt_i (by omega)
  replace hx0 := hx0.symm
  have hbq := hqB _ hxm
  by_cases hi0 : 0 < i
  ·obtain ⟨y, hy0⟩ : ∃ y, y = l[i - 1]'(by omega) := ⟨_, rfl⟩
   have yI : IsAj y := by rw [hy0];exact hx _ (List.getElem_mem _)
   have f2 : seg cs (o + ((i : Int) - 1).toNat * 8) 8 = some (ajC y) := by rw [hy0];exact seg_el (ajs_len hx) hs (show i - 1 < l.length by omega) (by omega)
   replace hy0 := hy0.symm
   refine gR 6 rfl (g_ifT rfl (dqT (by omega)) (gR 7 rfl (g_ixS rfl rfl (by omega) (by omega) (g_leA rfl ‹_› (by with_reducible assumption) ?_))))
   refine g_alloc fun b6 => gR 1 rfl (g_stA 0 rfl rfl (aj_len ‹_›) (aj_one _) rfl (put_all (by rw [aj_len ‹_›];first | rfl | rw [aj_len ‹_›])) rfl ?_)
   refine gR 6 rfl (g_ld1 0 rfl rfl (aj_nb ‹_›) ?_)
   refine gR 2 rfl (g_split 20 rfl (fun h1 => ?_) (fun h1 => ?_))
   ·replace h1 := dqU h1
    refine gR 41 rfl (g_outR (gR 2 rfl (g_ret1 rfl rfl rfl fun w M => ?_)))
    exact vl_F hV hlt_i hx0.symm (by (unfold adj1;simp [*];done)) M.ext
   ·replace h1 := dqV h1
    refine gR 1 rfl (g_ld1 0 rfl rfl (aj_nb ‹_›) ?_)
    refine gR 4 rfl (g_split 26 rfl (fun h2 => ?_) (fun h2 => ?_))
    ·replace h2 := dqU h2
     refine gR 35 rfl (g_outR (gR 2 rfl (g_ret1 rfl rfl rfl fun w M => ?_)))
     exact vl_F hV hlt_i hx0.symm (by (unfold adj1;simp [*];done)) M.ext
    ·replace h2 := dqV h2
     refine gR 1 rfl (g_ldA 0 rfl rfl (aj_q ‹_›) ?_)
     refine g_call rfl rfl (fun w M => qvalid_c _ ‹_› _) ?_
     refine gR 3 rfl (g_split 32 rfl (fun h3 => ?_) (fun h3 => ?_))
     ·replace h3 := false_of_not h3
      refine gR 29 rfl (g_outR (gR 2 rfl (g_ret1 rfl rfl rfl fun w M => ?_)))
      exact vl_F hV hlt_i hx0.symm (by (unfold adj1;simp [*];done)) M.ext
     ·replace h3 := true_of_not h3
      refine gR 2 rfl (g_ld1 0 rfl rfl (aj_q_known ‹_›) ?_)
      refine gR 3 rfl (g_split 38 rfl (fun h4 => ?_) (fun h4 => ?_))
      ·replace h4 := false_of_not h4
       refine gR 23 rfl (g_outR (gR 2 rfl (g_ret1 rfl rfl rfl fun w M => ?_)))
       exact vl_F hV hlt_i hx0.symm (by (unfold adj1;simp [*];done)) M.ext
      ·replace h4 := true_of_not h4
       refine gR 1 rfl (g_ld1 0 rfl rfl (aj_til ‹_›) ?_)
       refine g_call rfl rfl (fun w M => oisTime_c _ _) (gR 3 rfl (g_split 44 rfl (fun h5 => ?_) (fun h5 => ?_)))
       ·replace h5 := false_of_not h5
        refine gR 17 rfl (g_outR (gR 2 rfl (g_ret1 rfl rfl rfl fun w M => ?_)))
        exact vl_F hV hlt_i hx0.symm (by (unfold adj1;simp [*];done)) M.ext
       ·replace h5 := true_of_not h5
        refine gR 1 rfl (g_ld1 0 rfl rfl (aj_ans ‹_›) ?_)
        refine g_call rfl rfl (fun w M => oisTime_c _ _) (gR 4 rfl (g_if rfl (fun h6 => ?_) (fun h6 => ?_)))
        ·replace h6 := false_of_not h6
         refine gR 9 rfl (g_outR (gR 2 rfl (g_ret1 rfl rfl rfl fun w M => ?_)))
         exact vl_F hV hlt_i hx0.symm (by (unfold adj1;simp [*];done)) M.ext
        ·replace h6 := true_of_not h6
         refine gR 3 rfl (g_draw 13 64 rfl (by kernel_rfl) (fR 3 rfl (fd_know 52 rfl (dqT (by omega)) (fR 2 rfl (fd_sub rfl rfl (w_i64 (by omega) (by omega)) (fd_ixS rfl rfl (by omega) (by omega) (fR 1 rfl (fd_le1 rfl ‹_› (sg_nth f2 (aj_nb ‹_›) (by omega)) ?_))))))))
         refine fR 1 rfl (fd_ld1 0 rfl rfl (aj_nb ‹_›) ?_)
         refine fR 2 rfl (fd_done rfl rfl (gR 2 rfl (g_if rfl (fun h7 => ?_) (fun h7 => ?_))))
         ·replace h7 := dqU h7
          exact gR 8 rfl (g_outR (gR 2 rfl (g_ret1 rfl rfl rfl fun w M => vl_S hV hlt_i hi0 hx0.symm hy0.symm (by unfold cmpAj;omega) M.ext)))
         ·replace h7 := dqV h7
          refine gR 4 rfl (g_add rfl rfl (w_i64 (by omega) (by omega)) (gR 2 rfl ?_))
          exact g_next (i + 1) ⟨by omega, vl_N hlt_i hx0.symm hv (by (unfold adj1;simp [*];done)) fun _ => by rw [hy0];exact (by unfold cmpAj;omega)⟩ (by dsimp only;omega) (fun a F => F.only [12, 11, 10, 1, 0] rfl) (by (try dsimp only);repeat (first | exact .refl _ | with_reducible exact sC0 _ | with_reducible apply sC2 | apply sC1))
  ·refine gR 6 rfl ?_
   refine g_ifT rfl (dqT (by omega)) (gR 7 rfl (g_ixS rfl rfl (by omega) (by omega) (g_leA rfl ‹_› (by with_reducible assumption) ?_)))
   refine g_alloc fun b6 => gR 1 rfl (g_stA 0 rfl rfl (aj_len ‹_›) (aj_one _) rfl (put_all (by rw [aj_len ‹_›];first | rfl | rw [aj_len ‹_›])) rfl ?_)
   refine gR 6 rfl (g_ld1 0 rfl rfl (aj_nb ‹_›) ?_)
   refine gR 2 rfl (g_split 20 rfl (fun h1 => ?_) (fun h1 => ?_))
   ·replace h1 := dqU h1
    refine gR 41 rfl (g_outR (gR 2 rfl (g_ret1 rfl rfl rfl fun w M => ?_)))
    exact vl_F hV hlt_i hx0.symm (by (unfold adj1;simp [*];done)) M.ext
   ·replace h1 := dqV h1
    refine gR 1 rfl (g_ld1 0 rfl rfl (aj_nb ‹_›) ?_)
    refine gR 4 rfl (g_split 26 rfl (fun h2 => ?_) (fun h2 => ?_))
    ·replace h2 := dqU h2
     refine gR 35 rfl (g_outR (gR 2 rfl (g_ret1 rfl rfl rfl fun w M => ?_)))
     exact vl_F hV hlt_i hx0.symm (by (unfold adj1;simp [*];done)) M.ext
    ·replace h2 := dqV h2
     refine gR 1 rfl (g_ldA 0 rfl rfl (aj_q ‹_›) ?_)
     refine g_call rfl rfl (fun w M => qvalid_c _ ‹_› _) ?_
     refine gR 3 rfl (g_split 32 rfl (fun h3 => ?_) (fun h3 => ?_))
     ·replace h3 := false_of_not h3
      refine gR 29 rfl (g_outR (gR 2 rfl (g_ret1 rfl rfl rfl fun w M => ?_)))
      exact vl_F hV hlt_i hx0.symm (by (unfold adj1;simp [*];done)) M.ext
     ·replace h3 := true_of_not h3
      refine gR 2 rfl (g_ld1 0 rfl rfl (aj_q_known ‹_›) ?_)
      refine gR 3 rfl (g_split 38 rfl (fun h4 => ?_) (fun h4 => ?_))
      ·replace h4 := false_of_not h4
       refine gR 23 rfl (g_outR (gR 2 rfl (g_ret1 rfl rfl rfl fun w M => ?_)))
       exact vl_F hV hlt_i hx0.symm (by (unfold adj1;simp [*];done)) M.ext
      ·replace h4 := true_of_not h4
       refine gR 1 rfl (g_ld1 0 rfl rfl (aj_til ‹_›) ?_)
       refine g_call rfl rfl (fun w M => oisTime_c _ _) (gR 3 rfl (g_split 44 rfl (fun h5 => ?_) (fun h5 => ?_)))
       ·replace h5 := false_of_not h5
        refine gR 17 rfl (g_outR (gR 2 rfl (g_ret1 rfl rfl rfl fun w M => ?_)))
        exact vl_F hV hlt_i hx0.symm (by (unfold adj1;simp [*];done)) M.ext
       ·replace h5 := true_of_not h5
        refine gR 1 rfl (g_ld1 0 rfl rfl (aj_ans ‹_›) ?_)
        refine g_call rfl rfl (fun w M => oisTime_c _ _) (gR 4 rfl (g_if rfl (fun h6 => ?_) (fun h6 => ?_)))
        ·replace h6 := false_of_not h6
         refine gR 9 rfl (g_outR (gR 2 rfl (g_ret1 rfl rfl rfl fun w M => ?_)))
         exact vl_F hV hlt_i hx0.symm (by (unfold adj1;simp [*];done)) M.ext
        ·replace h6 := true_of_not h6
         refine gR 3 rfl (g_draw 13 64 rfl (by kernel_rfl) (fR 3 rfl (fd_know 52 rfl (dqF (by omega)) (fR 10 rfl (fd_done rfl rfl (gR 7 rfl (g_add rfl rfl (w_i64 (by omega) (by omega)) (gR 2 rfl ?_))))))))
         exact g_next (i + 1) ⟨by omega, vl_N hlt_i hx0.symm hv (by (unfold adj1;simp [*];done)) fun h => absurd h hi0⟩ (by dsimp only;omega) (fun a F => F.only [12, 11, 10, 1, 0] rfl) (by (try dsimp only);repeat (first | exact .refl _ | with_reducible exact sC0 _ | with_reducible apply sC2 | apply sC1))
 ·have hil : i = l.length := by omega
  rw [hil] at hv
  exact gR 6 rfl (g_ifF rfl (dqF (by omega)) (gR 2 rfl (g_outX (gR 8 rfl (g_ret1 rfl rfl rfl fun w M => vl_T hV (by omega) hv M.ext)))))
end Go.Proofs.YtfhkmgcalcfibaaGreat
namespace Go.Proofs.YtfhkmgcalcfibaaGreat
open Go.RowKit
def newerV (a b : Int) : Bool := let d := IntKind.u16.wrap (a - b);(decide (1 ≤ d) && decide (d < 32768)) || (decide (d = 32768) && decide (b < a))
def src1 (s : SrcV) : Bool := validT s.to && finD s.bst && isTime s.til
def cmpS (a b : SrcV) : Int := cmpD a.to b.to
def validSs (l : List SrcV) : Bool := vldL 256 src1 cmpS l
theorem validSs_iff {l : List SrcV} : validSs l = true ↔ l.length ≤ 256 ∧ (∀ a ∈ l, src1 a = true) ∧ AscC cmpS l := vldL_iff (fun _ _ _ h k => cmpD_trans h k)
def bestS (s : List SrcV) (now : Int) (t : DstV) : Option DisV := (s.find? fun x => decide (x.to = t) && decide (now < x.til)).map (·.bst)
def opt1 (o : OptV) : Bool := !decide (o.nb = 0) && validM o.cost
def cmpO (a b : OptV) : Int := cmpI a.nb b.nb
def validOs (l : List OptV) : Bool := vldL 16 opt1 cmpO l
theorem cmpO_trans {a b c : OptV} (h : cmpO a b < 0) (k : cmpO b c < 0) : cmpO a c < 0 := by
 unfold cmpO at *
 rw [cmpI_lt] at *
 omega
theorem validOs_iff {l : List OptV} : validOs l = true ↔ l.length ≤ 16 ∧ (∀ a ∈ l, opt1 a = true) ∧ AscC cmpO l := vldL_iff (fun _ _ _ h k => cmpO_trans h k)
def ins1 (e : InsV) : Bool := validT e.to && (if e.nb = 0 then decide (e.own.met = inf) && decide (e.btn = -1) && isTime e.til else finD e.own && (decide (e.btn = -1) || isTime e.btn) && decide (e.til = 0))
def cmpN (a b : InsV) : Int := cmpD a.to b.to
def validIs (l : List InsV) : Bool := vldL 512 ins1 cmpN l
theorem validIs_iff {l : List InsV} : validIs l = true ↔ l.length ≤ 512 ∧ (∀ a ∈ l, ins1 a = true) ∧ AscC cmpN l := vldL_iff (fun _ _ _ h k => cmpD_trans h k)
abbrev AscD (l : List DstV) : Prop := AscC cmpD l
end Go.Proofs.YtfhkmgcalcfibaaGreat
namespace Go.Proofs.YtfhkmgcalcfibaaGreat
open Go.RowKit
attribute [local irreducible] OpTo wpListIn Code.wpIn MW Cal
theorem rtTime_c (t : Int) (W : World) : Cal Tryz.prog 191 [.int .i64 t].toArray W fun v w' => v = .bool (isTime t) ∧ Ext [] W w' := by
 unfold isTime
 by_cases h : 0 ≤ t
 ·rw [dqT h, Bool.true_and]
  refine fn_ofM (n := 9) [] Tryz.func191 rfl rfl rfl ?_
  intro a w F M hwW
  refine c_seq (c_region ?_)
  refine sD F (o_assign (F.e rfl) ?_);clear F a;intro a F
  with_reducible refine l_nil (q_then (c_seq (c_region ?_)))
  refine sD F (o_move (F.e rfl) fun a F => sD F (o_geqT (F.e rfl) (F.e rfl) (by omega) fun a F => sD F (o_move (F.e rfl) fun a F => sG F (o_move (F.e rfl) fun a F => sG F (o_leq (F.e rfl) (F.e rfl) fun a F => sD F (o_pickT (F.e rfl) (F.e rfl) fun a F => sD F (o_assign (F.e rfl) ?_)))))));iterate 7 clear F a
  intro a F
  with_reducible refine l_nil (q_then (c_ret ?_))
  exact p_ret F rfl (.cons (.tmp (F.e rfl)) .nil) (⟨rfl, M.ext⟩)
 ·rw [dqF h, Bool.false_and]
  refine fn_ofM (n := 9) [] Tryz.func191 rfl rfl rfl ?_
  intro a w F M hwW
  refine c_seq (c_region ?_)
  refine sD F (o_assign (F.e rfl) ?_);clear F a;intro a F
  with_reducible refine l_nil (q_then (c_seq (c_region ?_)))
  refine sD F (o_move (F.e rfl) fun a F => sD F (o_geqF (F.e rfl) (F.e rfl) (by omega) fun a F => sD F (o_move (F.e rfl) fun a F => sO F fun a F => sO F fun a F => sD F (o_pickF (F.e rfl) (F.e rfl) fun a F => sD F (o_assign (F.e rfl) ?_)))));iterate 7 clear F a
  intro a F
  with_reducible refine l_nil (q_then (c_ret ?_))
  exact p_ret F rfl (.cons (.tmp (F.e rfl)) .nil) (⟨rfl, M.ext⟩)
theorem scTime_c (t : Int) (W : World) : Cal Tryz.prog 189 [.int .i64 t].toArray W fun v w' => v = .bool (isTime t) ∧ Ext [] W w' := by
 unfold isTime
 by_cases h : 0 ≤ t
 ·rw [dqT h, Bool.true_and]
  refine fn_ofM (n := 9) [] Tryz.func189 rfl rfl rfl ?_
  intro a w F M hwW
  refine c_seq (c_region ?_)
  refine sD F (o_assign (F.e rfl) ?_);clear F a;intro a F
  with_reducible refine l_nil (q_then (c_seq (c_region ?_)))
  refine sD F (o_move (F.e rfl) fun a F => sD F (o_geqT (F.e rfl) (F.e rfl) (by omega) fun a F => sD F (o_move (F.e rfl) fun a F => sG F (o_move (F.e rfl) fun a F => sG F (o_leq (F.e rfl) (F.e rfl) fun a F => sD F (o_pickT (F.e rfl) (F.e rfl) fun a F => sD F (o_assign (F.e rfl) ?_)))))));iterate 7 clear F a
  intro a F
  with_reducible refine l_nil (q_then (c_ret ?_))
  exact p_ret F rfl (.cons (.tmp (F.e rfl)) .nil) (⟨rfl, M.ext⟩)
 ·rw [dqF h, Bool.false_and]
  refine fn_ofM (n := 9) [] Tryz.func189 rfl rfl rfl ?_
  intro a w F M hwW
  refine c_seq (c_region ?_)
  refine sD F (o_assign (F.e rfl) ?_);clear F a;intro a F
  with_reducible refine l_nil (q_then (c_seq (c_region ?_)))
  refine sD F (o_move (F.e rfl) fun a F => sD F (o_geqF (F.e rfl) (F.e rfl) (by omega) fun a F => sD F (o_move (F.e rfl) fun a F => sO F fun a F => sO F fun a F => sD F (o_pickF (F.e rfl) (F.e rfl) fun a F => sD F (o_assign (F.e rfl) ?_)))));iterate 7 clear F a
  intro a F
  with_reducible refine l_nil (q_then (c_ret ?_))
  exact p_ret F rfl (.cons (.tmp (F.e rfl)) .nil) (⟨rfl, M.ext⟩)
theorem sqvalid_c (d : DisV) (W : World) : Cal Tryz.prog 188 [.agg (diC d).toArray].toArray W fun v w' => v = .bool (validM d.met) ∧ Ext [] W w' := by
 have e1 := di_met (o := d) trivial
 refine fn_ofM (n := 6) [] Tryz.func188 rfl rfl rfl ?_
 intro a w F M hwW
 refine c_seq (c_region ?_)
 (refine sD F (o_box M (F.e rfl) rfl ?_);clear F M;intro b1 w M a F)
 refine sD F (o_assign (F.e rfl) ?_);clear F a;intro a F
 with_reducible refine l_nil (q_then (c_seq (c_region ?_)))
 refine sD F (o_fieldAddr (F.e rfl) fun a F => sD F (o_load1 M (F.e rfl) (by repeat constructor) ‹_› ?_));iterate 2 clear F a
 intro a F
 (refine sD F (o_call (F.e rfl) (F.evs rfl) (Cal.mono (mvalid_c d.met _) ?_));clear F;clear a;rintro _ w ⟨rfl, hE⟩ a F;replace M := M.later hE;clear hE)
 refine sD F (o_assign (F.e rfl) ?_);clear F a;intro a F
 with_reducible refine l_nil (q_then (c_ret ?_))
 exact p_ret F rfl (.cons (.tmp (F.e rfl)) .nil) (⟨rfl, M.ext⟩)
theorem rtfin_c (d : DisV) (W : World) : Cal Tryz.prog 190 [.agg (diC d).toArray].toArray W fun v w' => v = .bool (finD d) ∧ Ext [] W w' := by
 have e1 := di_met (o := d) trivial
 have e2 := di_all (o := d) trivial
 unfold finD inf
 refine fn_ofM (n := 10) [] Tryz.func190 rfl rfl rfl ?_
 intro a w F M hwW
 refine c_seq (c_region ?_)
 (refine sD F (o_box M (F.e rfl) rfl ?_);clear F M;intro b1 w M a F)
 refine sD F (o_assign (F.e rfl) ?_);clear F a;intro a F
 with_reducible refine l_nil (q_then (c_seq (c_region ?_)))
 refine sD F (o_loadA M (F.e rfl) (by repeat constructor) ‹_› ?_);clear F a;intro a F
 (refine sD F (o_call (F.e rfl) (F.evs rfl) (Cal.mono (sqvalid_c d _) ?_));clear F;clear a;rintro _ w ⟨rfl, hE⟩ a F;replace M := M.later hE;clear hE)
 cases h1 : validM d.met
 ·rw [h1] at F
  refine sD F (o_move (F.e rfl) fun a F => sO F fun a F => sO F fun a F => sO F fun a F => sD F (o_pickF (F.e rfl) (F.e rfl) fun a F => sD F (o_assign (F.e rfl) ?_)));iterate 6 clear F a
  intro a F
  with_reducible refine l_nil (q_then (c_ret ?_))
  exact p_ret F rfl (.cons (.tmp (F.e rfl)) .nil) (⟨rfl, M.ext⟩)
 ·rw [h1] at F
  by_cases h2 : d.met = 65535
  ·rw [dqT h2]
   refine sD F (o_move (F.e rfl) fun a F => sG F (o_fieldAddr (F.e rfl) fun a F => sG F (o_load1 M (F.e rfl) (by repeat constructor) ‹_› ?_)));iterate 3 clear F a
   intro a F
   refine sG F (o_neqF (F.e rfl) (F.e rfl) (by omega) fun a F => sD F (o_pickT (F.e rfl) (F.e rfl) fun a F => sD F (o_assign (F.e rfl) ?_)));iterate 3 clear F a
   intro a F
   with_reducible refine l_nil (q_then (c_ret ?_))
   exact p_ret F rfl (.cons (.tmp (F.e rfl)) .nil) (⟨rfl, M.ext⟩)
  ·rw [dqF h2]
   refine sD F (o_move (F.e rfl) fun a F => sG F (o_fieldAddr (F.e rfl) fun a F => sG F (o_load1 M (F.e rfl) (by repeat constructor) ‹_› ?_)));iterate 3 clear F a
   intro a F
   refine sG F (o_neqT (F.e rfl) (F.e rfl) (by omega) fun a F => sD F (o_pickT (F.e rfl) (F.e rfl) fun a F => sD F (o_assign (F.e rfl) ?_)));iterate 3 clear F a
   intro a F
   with_reducible refine l_nil (q_then (c_ret ?_))
   exact p_ret F rfl (.cons (.tmp (F.e rfl)) .nil) (⟨rfl, M.ext⟩)
theorem rorder_c (x y : RouV) (ha : IsRo x) (hb : IsRo y) (W : World) : Cal Tryz.prog 192 [.agg (roC x).toArray, .agg (roC y).toArray].toArray W fun v w' => v = .int .i64 (cmpR x y) ∧ Ext [] W w' := by
 have a1 := ro_to ha
 have a2 := ro_nb ha
 have c1 := ro_to hb
 have c2 := ro_nb hb
 have hr : cmpR x y = orV [cmpD x.to y.to, cmpV x.nb y.nb] := by
  rw [cmpR_or ha.1 hb.1]
  simp only [orV, orI]
  repeat' split
  all_goals first | rfl | (rename_i h;exact h) | (rename_i h;exact h.symm) | simp_all [cmpI, cmpV]
 rw [hr]
 refine fn_ofM (n := 17) [] Tryz.func192 rfl rfl rfl ?_
 intro a w F M hwW
 refine c_seq (c_region ?_)
 (refine sD F (o_box M (F.e rfl) rfl ?_);clear F M;intro b2 w M a F)
 (refine sD F (o_box M (F.e rfl) rfl ?_);clear F M;intro b3 w M a F)
 refine sD F (o_assign (F.e rfl) ?_);clear F a;intro a F
 with_reducible refine l_nil (q_then (c_seq ?_))
 replace F := F.only [2, 3] rfl
 refine c_draw 10 F (by kernel_rfl) ?_
 intro w1 hE hok
 have M1 := M.later hE
 refine mK hok rfl rfl (fun a' w' F' E' => o_fieldAddr (F'.e rfl) ⟨Ext.refl _ _, rfl⟩) (mK hok rfl rfl (fun a' w' F' E' => o_loadA (M1.later E') (F'.e rfl) (by repeat constructor) ‹_› ⟨Ext.refl _ _, rfl⟩) ?_)
 refine mK hok rfl rfl (fun a' w' F' E' => o_fieldAddr (F'.e rfl) ⟨Ext.refl _ _, rfl⟩) (mK hok rfl rfl (fun a' w' F' E' => o_loadA (M1.later E') (F'.e rfl) (by repeat constructor) ‹_› ⟨Ext.refl _ _, rfl⟩) ?_)
 (refine mK hok rfl rfl (fun a' w' F' E' => o_call (F'.e rfl) (F'.evs rfl) (Cal.mono (scompare_c x.to y.to ha.1 hb.1 _) fun _ _ hh => ⟨hh.2, hh.1⟩)) ?_)
 refine mK hok rfl rfl (fun a' w' F' E' => o_fieldAddr (F'.e rfl) ⟨Ext.refl _ _, rfl⟩) (mK hok rfl rfl (fun a' w' F' E' => o_load1 (M1.later E') (F'.e rfl) (by repeat constructor) ‹_› ⟨Ext.refl _ _, rfl⟩) ?_)
 refine mK hok rfl rfl (fun a' w' F' E' => o_fieldAddr (F'.e rfl) ⟨Ext.refl _ _, rfl⟩) (mK hok rfl rfl (fun a' w' F' E' => o_load1 (M1.later E') (F'.e rfl) (by repeat constructor) ‹_› ⟨Ext.refl _ _, rfl⟩) ?_)
 (refine mK hok rfl rfl (fun a' w' F' E' => o_call (F'.e rfl) (F'.evs rfl) (Cal.mono (cmp_eui x.nb y.nb _) fun _ _ hh => ⟨hh.2, hh.1⟩)) ?_)
 skip
 (refine mDone rfl rfl ?_;clear F M;intro a w F hE2 hX hTT hDD hPP;have M := M1.later hE2;clear M1;clear hX;clear hE2;clear hok;clear hE;clear hTT;clear hDD;clear hPP;(try dsimp only at F))
 (refine sD F (o_buildSlice F M rfl rfl rfl rfl ?_);clear F M;intro b15 w M a F)
 (refine sD F (o_call (F.e rfl) (F.evs rfl) (Cal.mono (or_c (b := b15) [cmpD x.to y.to, cmpV x.nb y.nb] 2 rfl (by omega) _ (M.heap .here)) ?_));clear F;clear a;rintro _ w ⟨rfl, hE⟩ a F;replace M := M.later hE;clear hE)
 refine sD F (o_assign (F.e rfl) ?_);clear F a;intro a F
 with_reducible refine l_nil (q_then (c_ret ?_))
 exact p_ret F rfl (.cons (.tmp (F.e rfl)) .nil) (⟨rfl, M.ext⟩)
theorem rtreach_c (e : InsV) (he : IsIn e) (W : World) : Cal Tryz.prog 223 [.agg (inC e).toArray].toArray W fun v w' => v = .bool (!decide (e.nb = 0)) ∧ Ext [] W w' := by
 have e1 := in_nb he
 refine fn_ofM (n := 6) [] Tryz.func223 rfl rfl rfl ?_
 intro a w F M hwW
 refine c_seq (c_region ?_)
 (refine sD F (o_box M (F.e rfl) rfl ?_);clear F M;intro b1 w M a F)
 by_cases h : e.nb = 0
 ·rw [dqT h]
  refine sD F (o_assign (F.e rfl) ?_);clear F a;intro a F
  with_reducible refine l_nil (q_then (c_seq (c_region ?_)))
  refine sD F (o_fieldAddr (F.e rfl) fun a F => sD F (o_load1 M (F.e rfl) (by repeat constructor) ‹_› ?_));iterate 2 clear F a
  intro a F
  refine sD F (o_neqF (F.e rfl) (F.e rfl) (by omega) fun a F => sD F (o_assign (F.e rfl) ?_));iterate 2 clear F a
  intro a F
  with_reducible refine l_nil (q_then (c_ret ?_))
  exact p_ret F rfl (.cons (.tmp (F.e rfl)) .nil) (⟨rfl, M.ext⟩)
 ·rw [dqF h]
  refine sD F (o_assign (F.e rfl) ?_);clear F a;intro a F
  with_reducible refine l_nil (q_then (c_seq (c_region ?_)))
  refine sD F (o_fieldAddr (F.e rfl) fun a F => sD F (o_load1 M (F.e rfl) (by repeat constructor) ‹_› ?_));iterate 2 clear F a
  intro a F
  refine sD F (o_neqT (F.e rfl) (F.e rfl) (by omega) fun a F => sD F (o_assign (F.e rfl) ?_));iterate 2 clear F a
  intro a F
  with_reducible refine l_nil (q_then (c_ret ?_))
  exact p_ret F rfl (.cons (.tmp (F.e rfl)) .nil) (⟨rfl, M.ext⟩)
theorem rtelem_c (e : InsV) (he : IsIn e) (W : World) : Cal Tryz.prog 193 [.agg (inC e).toArray].toArray W fun v w' => v = .bool (ins1 e) ∧ Ext [] W w' := by
 have hd : IsDv e.to := he.1
 refine g_start (n := 41) (S := []) fldT_ok slcT_ok Tryz.func193 rfl rfl rfl ?_
 unfold ins1
 refine gR 2 rfl (g_box rfl rfl fun b1 => gR 7 rfl (g_ldA 0 rfl rfl (in_to ‹_›) ?_))
 refine g_call rfl rfl (fun w M => validTo_c _ ‹_› _) ?_
 refine gR 3 rfl (g_if rfl (fun h1 => ?_) (fun h1 => ?_))
 ·replace h1 := false_of_not h1
  refine gR 7 rfl (g_ret1 rfl rfl rfl fun w M => ?_)
  exact ⟨by simp [*];done, M.ext⟩
 ·replace h1 := true_of_not h1
  refine gR 5 rfl (g_ldA 0 rfl rfl (in_all ‹_›) ?_)
  refine g_call rfl rfl (fun w M => rtreach_c _ ‹_› _) ?_
  refine gR 2 rfl (g_if rfl (fun h2 => ?_) (fun h2 => ?_))
  ·replace h2 := ne_of_bne h2
   refine gR 3 rfl (g_ldA 0 rfl rfl (in_own ‹_›) ?_)
   refine g_call rfl rfl (fun w M => rtfin_c _ _) (gR 1 rfl (g_split 12 rfl (fun h3 => ?_) (fun h3 => ?_)))
   ·refine gR 1 rfl (g_ld1 0 rfl rfl (in_btn ‹_›) ?_)
    refine gR 2 rfl (g_split 16 rfl (fun h4 => ?_) (fun h4 => ?_))
    ·replace h4 := dqU h4
     refine gR 7 rfl (g_ld1 0 rfl rfl (in_til ‹_›) ?_)
     refine gR 7 rfl (g_ret1 rfl rfl rfl fun w M => ?_)
     exact ⟨by congr 1;rw [Bool.eq_iff_iff];simp [*], M.ext⟩
    ·replace h4 := dqV h4
     refine gR 1 rfl (g_ld1 0 rfl rfl (in_btn ‹_›) ?_)
     refine g_call rfl rfl (fun w M => rtTime_c _ _) (gR 3 rfl (g_split 22 rfl (fun h5 => ?_) (fun h5 => ?_)))
     ·refine gR 1 rfl (g_ld1 0 rfl rfl (in_til ‹_›) ?_)
      refine gR 7 rfl (g_ret1 rfl rfl rfl fun w M => ?_)
      exact ⟨by congr 1;rw [Bool.eq_iff_iff];simp [*], M.ext⟩
     ·refine gR 9 rfl (g_ret1 rfl rfl rfl fun w M => ?_)
      exact ⟨by simp [*];done, M.ext⟩
   ·refine gR 19 rfl (g_ret1 rfl rfl rfl fun w M => ?_)
    exact ⟨by simp [*];done, M.ext⟩
  ·replace h2 := eq_of_bne_false h2
   refine gR 6 rfl (g_ld1 0 rfl rfl (in_own_met ‹_›) ?_)
   refine gR 2 rfl (g_split 31 rfl (fun h3 => ?_) (fun h3 => ?_))
   ·replace h3 := dqU h3
    refine gR 1 rfl (g_ld1 0 rfl rfl (in_btn ‹_›) ?_)
    refine gR 3 rfl (g_split 36 rfl (fun h4 => ?_) (fun h4 => ?_))
    ·replace h4 := dqU h4
     refine gR 1 rfl (g_ld1 0 rfl rfl (in_til ‹_›) ?_)
     refine g_call rfl rfl (fun w M => rtTime_c _ _) (gR 5 rfl (g_ret1 rfl rfl rfl fun w M => ?_))
     exact ⟨by unfold inf;simp [*];done, M.ext⟩
    ·replace h4 := dqV h4
     refine gR 8 rfl (g_ret1 rfl rfl rfl fun w M => ?_)
     exact ⟨by simp [*];done, M.ext⟩
   ·replace h3 := dqV h3
    refine gR 13 rfl (g_ret1 rfl rfl rfl fun w M => ?_)
    exact ⟨by unfold inf;simp [*];done, M.ext⟩
theorem rtvalid_c (l : List RouV) (hx : ∀ x ∈ l, IsRo x) (v : Value) (W : World) (hS : SlAt W 39 v l.length (rosC l)) :
  Cal Tryz.prog 104 [v].toArray W fun r w' => r = .bool (validRs l) ∧ Ext [] W w' := by
 obtain ⟨q, cap, rfl, _⟩ := id hS
 have hm := hS.memB [] (by simp)
 unfold validRs
 generalize hV : vldL 512 rou1 cmpR l = b0
 refine g_start (n := 49) (S := []) fldT_ok slcT_ok Tryz.func104 rfl rfl rfl ?_
 by_cases c0 : 512 < l.length
 ·refine gR 13 rfl ?_
  exact g_ifT rfl (dqT (by omega)) (gR 7 rfl (g_ret1 rfl rfl rfl fun w M => vl_L hV c0 M.ext))
 refine gR 13 rfl (g_ifF rfl (dqF (by omega)) (gR 11 rfl (g_loop (ι := Nat) ⟨fun (i : Nat) => l.length - i, fun (i : Nat) => i ≤ l.length ∧ (∀ j, j < i → vld1 rou1 cmpR l j = true), fun (i : Nat) => [(10, .int .i64 i), (9, .int .i64 l.length), (8, .slice q l.length cap), (0, .slice q l.length cap)], fun (i : Nat) => []⟩ 0 ⟨by omega, by omega⟩ (fun a F => F.only [10, 9, 8, 0] rfl) (by repeat (first | exact .refl _ | apply sC2 | apply sC1)) ?_)))
 rintro i ⟨hi_i, hv⟩
 by_cases hlt_i : i < l.length
 ·obtain ⟨b, o, cs, t', fz, rfl, hb, hs⟩ := hm (by omega)
  obtain ⟨x, hx0⟩ : ∃ x, x = l[i] := ⟨_, rfl⟩
  have hxm : x ∈ l := by rw [hx0];exact List.getElem_mem hlt_i
  have hxi : IsRo x := hx _ hxm
  have f1 : seg cs (o + (i : Int).toNat * 39) 39 = some (roC x) := by rw [hx0];exact seg_el (ros_len hx) hs hlt_i (by omega)
  replace hx0 := hx0.symm
  have xd : IsDv x.to := hxi.1
  by_cases hi0 : 0 < i
  ·obtain ⟨y, hy0⟩ : ∃ y, y = l[i - 1]'(by omega) := ⟨_, rfl⟩
   have yI : IsRo y := by rw [hy0];exact hx _ (List.getElem_mem _)
   have f2 : seg cs (o + ((i : Int) - 1).toNat * 39) 39 = some (roC y) := by rw [hy0];exact seg_el (ros_len hx) hs (show i - 1 < l.length by omega) (by omega)
   replace hy0 := hy0.symm
   have yd : IsDv y.to := yI.1
   refine gR 6 rfl (g_ifT rfl (dqT (by omega)) (gR 7 rfl (g_ixS rfl rfl (by omega) (by omega) (g_leA rfl ‹_› (by with_reducible assumption) ?_))))
   refine g_alloc fun b4 => gR 1 rfl (g_stA 0 rfl rfl (ro_len ‹_›) (ro_one _) rfl (put_all (by rw [ro_len ‹_›];first | rfl | rw [ro_len ‹_›])) rfl ?_)
   refine gR 6 rfl (g_ldA 0 rfl rfl (ro_to ‹_›) ?_)
   refine g_call rfl rfl (fun w M => validTo_c _ ‹_› _) ?_
   refine gR 2 rfl (g_split 19 rfl (fun h1 => ?_) (fun h1 => ?_))
   ·replace h1 := false_of_not h1
    exact gR 28 rfl (g_outR (gR 2 rfl (g_ret1 rfl rfl rfl fun w M => vl_F hV hlt_i hx0.symm (by (unfold rou1;simp [*];done)) M.ext)))
   ·replace h1 := true_of_not h1
    refine gR 1 rfl (g_ld1 0 rfl rfl (ro_nb ‹_›) ?_)
    refine gR 3 rfl (g_split 24 rfl (fun h2 => ?_) (fun h2 => ?_))
    ·replace h2 := dqU h2
     exact gR 23 rfl (g_outR (gR 2 rfl (g_ret1 rfl rfl rfl fun w M => vl_F hV hlt_i hx0.symm (by (unfold rou1;simp [*];done)) M.ext)))
    ·replace h2 := dqV h2
     refine gR 1 rfl (g_ldA 0 rfl rfl (ro_said ‹_›) ?_)
     refine g_call rfl rfl (fun w M => rtfin_c _ _) (gR 3 rfl (g_split 30 rfl (fun h3 => ?_) (fun h3 => ?_)))
     ·replace h3 := false_of_not h3
      exact gR 17 rfl (g_outR (gR 2 rfl (g_ret1 rfl rfl rfl fun w M => vl_F hV hlt_i hx0.symm (by (unfold rou1;simp [*];done)) M.ext)))
     ·replace h3 := true_of_not h3
      refine gR 1 rfl (g_ld1 0 rfl rfl (ro_til ‹_›) ?_)
      refine g_call rfl rfl (fun w M => rtTime_c _ _) (gR 4 rfl (g_if rfl (fun h4 => ?_) (fun h4 => ?_)))
      ·replace h4 := false_of_not h4
       exact gR 9 rfl (g_outR (gR 2 rfl (g_ret1 rfl rfl rfl fun w M => vl_F hV hlt_i hx0.symm (by (unfold rou1;simp [*];done)) M.ext)))
      ·replace h4 := true_of_not h4
       refine gR 3 rfl (g_draw 12 49 rfl (by kernel_rfl) (fR 3 rfl (fd_know 38 rfl (dqT (by omega)) (fR 2 rfl (fd_sub rfl rfl (w_i64 (by omega) (by omega)) (fd_ixS rfl rfl (by omega) (by omega) (fd_leA rfl ‹_› (by with_reducible assumption) ?_)))))))
       refine fd_ldA 0 rfl rfl (ro_all ‹_›) ?_
       refine fd_call rfl rfl (fun w M => rorder_c _ _ ‹_› ‹_› _) ?_
       refine fR 2 rfl (fd_done rfl rfl (gR 2 rfl (g_if rfl (fun h5 => ?_) (fun h5 => ?_))))
       ·replace h5 := dqU h5
        exact gR 8 rfl (g_outR (gR 2 rfl (g_ret1 rfl rfl rfl fun w M => vl_S hV hlt_i hi0 hx0.symm hy0.symm (by omega) M.ext)))
       ·replace h5 := dqV h5
        refine gR 4 rfl (g_add rfl rfl (w_i64 (by omega) (by omega)) (gR 2 rfl ?_))
        exact g_next (i + 1) ⟨by omega, vl_N hlt_i hx0.symm hv (by (unfold rou1;simp [*];done)) fun _ => by rw [hy0];exact (by omega)⟩ (by dsimp only;omega) (fun a F => F.only [10, 9, 8, 0] rfl) (by (try dsimp only);repeat (first | exact .refl _ | with_reducible exact sC0 _ | with_reducible apply sC2 | apply sC1))
  ·refine gR 6 rfl ?_
   refine g_ifT rfl (dqT (by omega)) (gR 7 rfl (g_ixS rfl rfl (by omega) (by omega) (g_leA rfl ‹_› (by with_reducible assumption) ?_)))
   refine g_alloc fun b4 => gR 1 rfl (g_stA 0 rfl rfl (ro_len ‹_›) (ro_one _) rfl (put_all (by rw [ro_len ‹_›];first | rfl | rw [ro_len ‹_›])) rfl ?_)
   refine gR 6 rfl (g_ldA 0 rfl rfl (ro_to ‹_›) ?_)
   refine g_call rfl rfl (fun w M => validTo_c _ ‹_› _) ?_
   refine gR 2 rfl (g_split 19 rfl (fun h1 => ?_) (fun h1 => ?_))
   ·replace h1 := false_of_not h1
    exact gR 28 rfl (g_outR (gR 2 rfl (g_ret1 rfl rfl rfl fun w M => vl_F hV hlt_i hx0.symm (by (unfold rou1;simp [*];done)) M.ext)))
   ·replace h1 := true_of_not h1
    refine gR 1 rfl (g_ld1 0 rfl rfl (ro_nb ‹_›) ?_)
    refine gR 3 rfl (g_split 24 rfl (fun h2 => ?_) (fun h2 => ?_))
    ·replace h2 := dqU h2
     exact gR 23 rfl (g_outR (gR 2 rfl (g_ret1 rfl rfl rfl fun w M => vl_F hV hlt_i hx0.symm (by (unfold rou1;simp [*];done)) M.ext)))
    ·replace h2 := dqV h2
     refine gR 1 rfl (g_ldA 0 rfl rfl (ro_said ‹_›) ?_)
     refine g_call rfl rfl (fun w M => rtfin_c _ _) (gR 3 rfl (g_split 30 rfl (fun h3 => ?_) (fun h3 => ?_)))
     ·replace h3 := false_of_not h3
      exact gR 17 rfl (g_outR (gR 2 rfl (g_ret1 rfl rfl rfl fun w M => vl_F hV hlt_i hx0.symm (by (unfold rou1;simp [*];done)) M.ext)))
     ·replace h3 := true_of_not h3
      refine gR 1 rfl (g_ld1 0 rfl rfl (ro_til ‹_›) ?_)
      refine g_call rfl rfl (fun w M => rtTime_c _ _) (gR 4 rfl (g_if rfl (fun h4 => ?_) (fun h4 => ?_)))
      ·replace h4 := false_of_not h4
       exact gR 9 rfl (g_outR (gR 2 rfl (g_ret1 rfl rfl rfl fun w M => vl_F hV hlt_i hx0.symm (by (unfold rou1;simp [*];done)) M.ext)))
      ·replace h4 := true_of_not h4
       exact gR 3 rfl (g_draw 12 49 rfl (by kernel_rfl) (fR 3 rfl (fd_know 38 rfl (dqF (by omega)) (fR 9 rfl (fd_done rfl rfl (gR 7 rfl (g_add rfl rfl (w_i64 (by omega) (by omega)) (gR 2 rfl (g_next (i + 1) ⟨by omega, vl_N hlt_i hx0.symm hv (by (unfold rou1;simp [*];done)) fun h => absurd h hi0⟩ (by dsimp only;omega) (fun a F => F.only [10, 9, 8, 0] rfl) (by (try dsimp only);repeat (first | exact .refl _ | with_reducible exact sC0 _ | with_reducible apply sC2 | apply sC1)))))))))))
 ·have hil : i = l.length := by omega
  rw [hil] at hv
  exact gR 6 rfl (g_ifF rfl (dqF (by omega)) (gR 2 rfl (g_outX (gR 8 rfl (g_ret1 rfl rfl rfl fun w M => vl_T hV (by omega) hv M.ext)))))
theorem scvalid_c (l : List SrcV) (hx : ∀ x ∈ l, IsSr x) (v : Value) (W : World) (hS : SlAt W 38 v l.length (srsC l)) :
  Cal Tryz.prog 103 [v].toArray W fun r w' => r = .bool (validSs l) ∧ Ext [] W w' := by
 obtain ⟨q, cap, rfl, _⟩ := id hS
 have hm := hS.memB [] (by simp)
 unfold validSs
 generalize hV : vldL 256 src1 cmpS l = b0
 refine g_start (n := 52) (S := []) fldT_ok slcT_ok Tryz.func103 rfl rfl rfl ?_
 by_cases c0 : 256 < l.length
 ·refine gR 13 rfl ?_
  exact g_ifT rfl (dqT (by omega)) (gR 7 rfl (g_ret1 rfl rfl rfl fun w M => vl_L hV c0 M.ext))
 refine gR 13 rfl (g_ifF rfl (dqF (by omega)) (gR 11 rfl (g_loop (ι := Nat) ⟨fun (i : Nat) => l.length - i, fun (i : Nat) => i ≤ l.length ∧ (∀ j, j < i → vld1 src1 cmpS l j = true), fun (i : Nat) => [(10, .int .i64 i), (9, .int .i64 l.length), (8, .slice q l.length cap), (0, .slice q l.length cap)], fun (i : Nat) => []⟩ 0 ⟨by omega, by omega⟩ (fun a F => F.only [10, 9, 8, 0] rfl) (by repeat (first | exact .refl _ | apply sC2 | apply sC1)) ?_)))
 rintro i ⟨hi_i, hv⟩
 by_cases hlt_i : i < l.length
 ·obtain ⟨b, o, cs, t', fz, rfl, hb, hs⟩ := hm (by omega)
  obtain ⟨x, hx0⟩ : ∃ x, x = l[i] := ⟨_, rfl⟩
  have hxm : x ∈ l := by rw [hx0];exact List.getElem_mem hlt_i
  have hxi : IsSr x := hx _ hxm
  have f1 : seg cs (o + (i : Int).toNat * 38) 38 = some (srC x) := by rw [hx0];exact seg_el (srs_len hx) hs hlt_i (by omega)
  replace hx0 := hx0.symm
  have xd : IsDv x.to := hxi.1
  by_cases hi0 : 0 < i
  ·obtain ⟨y, hy0⟩ : ∃ y, y = l[i - 1]'(by omega) := ⟨_, rfl⟩
   have yI : IsSr y := by rw [hy0];exact hx _ (List.getElem_mem _)
   have f2 : seg cs (o + ((i : Int) - 1).toNat * 38) 38 = some (srC y) := by rw [hy0];exact seg_el (srs_len hx) hs (show i - 1 < l.length by omega) (by omega)
   replace hy0 := hy0.symm
   have yd : IsDv y.to := yI.1
   refine gR 6 rfl (g_ifT rfl (dqT (by omega)) (gR 7 rfl (g_ixS rfl rfl (by omega) (by omega) (g_leA rfl ‹_› (by with_reducible assumption) ?_))))
   refine g_alloc fun b4 => gR 1 rfl (g_stA 0 rfl rfl (sr_len ‹_›) (sr_one _) rfl (put_all (by rw [sr_len ‹_›];first | rfl | rw [sr_len ‹_›])) rfl ?_)
   refine gR 6 rfl (g_ldA 0 rfl rfl (sr_to ‹_›) ?_)
   refine g_call rfl rfl (fun w M => validTo_c _ ‹_› _) ?_
   refine gR 2 rfl (g_split 19 rfl (fun h1 => ?_) (fun h1 => ?_))
   ·replace h1 := false_of_not h1
    exact gR 29 rfl (g_outR (gR 2 rfl (g_ret1 rfl rfl rfl fun w M => vl_F hV hlt_i hx0.symm (by (unfold src1;simp [*];done)) M.ext)))
   ·replace h1 := true_of_not h1
    refine gR 1 rfl (g_ldA 0 rfl rfl (sr_bst ‹_›) ?_)
    refine g_call rfl rfl (fun w M => sqvalid_c _ _) (gR 3 rfl (g_split 25 rfl (fun h2 => ?_) (fun h2 => ?_)))
    ·replace h2 := false_of_not h2
     exact gR 23 rfl (g_outR (gR 2 rfl (g_ret1 rfl rfl rfl fun w M => vl_F hV hlt_i hx0.symm (by (unfold src1 finD inf;simp [*])) M.ext)))
    ·replace h2 := true_of_not h2
     refine gR 2 rfl (g_ld1 0 rfl rfl (sr_bst_met ‹_›) ?_)
     refine gR 3 rfl (g_split 31 rfl (fun h3 => ?_) (fun h3 => ?_))
     ·replace h3 := dqU h3
      exact gR 17 rfl (g_outR (gR 2 rfl (g_ret1 rfl rfl rfl fun w M => vl_F hV hlt_i hx0.symm (by (unfold src1 finD inf;simp [*])) M.ext)))
     ·replace h3 := dqV h3
      refine gR 1 rfl (g_ld1 0 rfl rfl (sr_til ‹_›) ?_)
      refine g_call rfl rfl (fun w M => scTime_c _ _) (gR 4 rfl (g_if rfl (fun h4 => ?_) (fun h4 => ?_)))
      ·replace h4 := false_of_not h4
       exact gR 9 rfl (g_outR (gR 2 rfl (g_ret1 rfl rfl rfl fun w M => vl_F hV hlt_i hx0.symm (by (unfold src1;simp [*];done)) M.ext)))
      ·replace h4 := true_of_not h4
       refine gR 3 rfl (g_draw 14 52 rfl (by kernel_rfl) (fR 3 rfl (fd_know 39 rfl (dqT (by omega)) (fR 2 rfl (fd_sub rfl rfl (w_i64 (by omega) (by omega)) (fd_ixS rfl rfl (by omega) (by omega) (fR 1 rfl (fd_leA rfl ‹_› (sg_seg f2 (sr_to ‹_›) (by omega)) ?_))))))))
       refine fR 1 rfl (fd_ldA 0 rfl rfl (sr_to ‹_›) ?_)
       refine fd_call rfl rfl (fun w M => scompare_c _ _ ‹_› ‹_› _) ?_
       refine fR 2 rfl (fd_done rfl rfl (gR 2 rfl (g_if rfl (fun h5 => ?_) (fun h5 => ?_))))
       ·replace h5 := dqU h5
        exact gR 8 rfl (g_outR (gR 2 rfl (g_ret1 rfl rfl rfl fun w M => vl_S hV hlt_i hi0 hx0.symm hy0.symm (by unfold cmpS;omega) M.ext)))
       ·replace h5 := dqV h5
        refine gR 4 rfl (g_add rfl rfl (w_i64 (by omega) (by omega)) (gR 2 rfl ?_))
        exact g_next (i + 1) ⟨by omega, vl_N hlt_i hx0.symm hv (by (unfold src1 finD inf;simp [*])) fun _ => by rw [hy0];exact (by unfold cmpS;omega)⟩ (by dsimp only;omega) (fun a F => F.only [10, 9, 8, 0] rfl) (by (try dsimp only);repeat (first | exact .refl _ | with_reducible exact sC0 _ | with_reducible apply sC2 | apply sC1))
  ·refine gR 6 rfl ?_
   refine g_ifT rfl (dqT (by omega)) (gR 7 rfl (g_ixS rfl rfl (by omega) (by omega) (g_leA rfl ‹_› (by with_reducible assumption) ?_)))
   refine g_alloc fun b4 => gR 1 rfl (g_stA 0 rfl rfl (sr_len ‹_›) (sr_one _) rfl (put_all (by rw [sr_len ‹_›];first | rfl | rw [sr_len ‹_›])) rfl ?_)
   refine gR 6 rfl (g_ldA 0 rfl rfl (sr_to ‹_›) ?_)
   refine g_call rfl rfl (fun w M => validTo_c _ ‹_› _) ?_
   refine gR 2 rfl (g_split 19 rfl (fun h1 => ?_) (fun h1 => ?_))
   ·replace h1 := false_of_not h1
    exact gR 29 rfl (g_outR (gR 2 rfl (g_ret1 rfl rfl rfl fun w M => vl_F hV hlt_i hx0.symm (by (unfold src1;simp [*];done)) M.ext)))
   ·replace h1 := true_of_not h1
    refine gR 1 rfl (g_ldA 0 rfl rfl (sr_bst ‹_›) ?_)
    refine g_call rfl rfl (fun w M => sqvalid_c _ _) (gR 3 rfl (g_split 25 rfl (fun h2 => ?_) (fun h2 => ?_)))
    ·replace h2 := false_of_not h2
     exact gR 23 rfl (g_outR (gR 2 rfl (g_ret1 rfl rfl rfl fun w M => vl_F hV hlt_i hx0.symm (by (unfold src1 finD inf;simp [*])) M.ext)))
    ·replace h2 := true_of_not h2
     refine gR 2 rfl (g_ld1 0 rfl rfl (sr_bst_met ‹_›) ?_)
     refine gR 3 rfl (g_split 31 rfl (fun h3 => ?_) (fun h3 => ?_))
     ·replace h3 := dqU h3
      exact gR 17 rfl (g_outR (gR 2 rfl (g_ret1 rfl rfl rfl fun w M => vl_F hV hlt_i hx0.symm (by (unfold src1 finD inf;simp [*])) M.ext)))
     ·replace h3 := dqV h3
      refine gR 1 rfl (g_ld1 0 rfl rfl (sr_til ‹_›) ?_)
      refine g_call rfl rfl (fun w M => scTime_c _ _) (gR 4 rfl (g_if rfl (fun h4 => ?_) (fun h4 => ?_)))
      ·replace h4 := false_of_not h4
       exact gR 9 rfl (g_outR (gR 2 rfl (g_ret1 rfl rfl rfl fun w M => vl_F hV hlt_i hx0.symm (by (unfold src1;simp [*];done)) M.ext)))
      ·replace h4 := true_of_not h4
       exact gR 3 rfl (g_draw 14 52 rfl (by kernel_rfl) (fR 3 rfl (fd_know 39 rfl (dqF (by omega)) (fR 11 rfl (fd_done rfl rfl (gR 7 rfl (g_add rfl rfl (w_i64 (by omega) (by omega)) (gR 2 rfl (g_next (i + 1) ⟨by omega, vl_N hlt_i hx0.symm hv (by (unfold src1 finD inf;simp [*])) fun h => absurd h hi0⟩ (by dsimp only;omega) (fun a F => F.only [10, 9, 8, 0] rfl) (by (try dsimp only);repeat (first | exact .refl _ | with_reducible exact sC0 _ | with_reducible apply sC2 | apply sC1)))))))))))
 ·have hil : i = l.length := by omega
  rw [hil] at hv
  exact gR 6 rfl (g_ifF rfl (dqF (by omega)) (gR 2 rfl (g_outX (gR 8 rfl (g_ret1 rfl rfl rfl fun w M => vl_T hV (by omega) hv M.ext)))))
theorem rtvalidI_c (l : List InsV) (hx : ∀ x ∈ l, IsIn x) (v : Value) (W : World) (hS : SlAt W 40 v l.length (insC l)) :
  Cal Tryz.prog 105 [v].toArray W fun r w' => r = .bool (validIs l) ∧ Ext [] W w' := by
 obtain ⟨q, cap, rfl, _⟩ := id hS
 have hm := hS.memB [] (by simp)
 unfold validIs
 generalize hV : vldL 512 ins1 cmpN l = b0
 refine g_start (n := 35) (S := []) fldT_ok slcT_ok Tryz.func105 rfl rfl rfl ?_
 by_cases c0 : 512 < l.length
 ·refine gR 13 rfl ?_
  exact g_ifT rfl (dqT (by omega)) (gR 7 rfl (g_ret1 rfl rfl rfl fun w M => vl_L hV c0 M.ext))
 refine gR 13 rfl (g_ifF rfl (dqF (by omega)) (gR 11 rfl (g_loop (ι := Nat) ⟨fun (i : Nat) => l.length - i, fun (i : Nat) => i ≤ l.length ∧ (∀ j, j < i → vld1 ins1 cmpN l j = true), fun (i : Nat) => [(10, .int .i64 i), (9, .int .i64 l.length), (8, .slice q l.length cap), (0, .slice q l.length cap)], fun (i : Nat) => []⟩ 0 ⟨by omega, by omega⟩ (fun a F => F.only [10, 9, 8, 0] rfl) (by repeat (first | exact .refl _ | apply sC2 | apply sC1)) ?_)))
 rintro i ⟨hi_i, hv⟩
 by_cases hlt_i : i < l.length
 ·obtain ⟨b, o, cs, t', fz, rfl, hb, hs⟩ := hm (by omega)
  obtain ⟨x, hx0⟩ : ∃ x, x = l[i] := ⟨_, rfl⟩
  have hxm : x ∈ l := by rw [hx0];exact List.getElem_mem hlt_i
  have hxi : IsIn x := hx _ hxm
  have f1 : seg cs (o + (i : Int).toNat * 40) 40 = some (inC x) := by rw [hx0];exact seg_el (ins_len hx) hs hlt_i (by omega)
  replace hx0 := hx0.symm
  have xd : IsDv x.to := hxi.1
  by_cases hi0 : 0 < i
  ·obtain ⟨y, hy0⟩ : ∃ y, y = l[i - 1]'(by omega) := ⟨_, rfl⟩
   have yI : IsIn y := by rw [hy0];exact hx _ (List.getElem_mem _)
   have f2 : seg cs (o + ((i : Int) - 1).toNat * 40) 40 = some (inC y) := by rw [hy0];exact seg_el (ins_len hx) hs (show i - 1 < l.length by omega) (by omega)
   replace hy0 := hy0.symm
   have yd : IsDv y.to := yI.1
   refine gR 6 rfl (g_ifT rfl (dqT (by omega)) (gR 7 rfl (g_ixS rfl rfl (by omega) (by omega) (g_leA rfl ‹_› (by with_reducible assumption) ?_))))
   refine g_alloc fun b4 => gR 1 rfl (g_stA 0 rfl rfl (in_len ‹_›) (in_one _) rfl (put_all (by rw [in_len ‹_›];first | rfl | rw [in_len ‹_›])) rfl ?_)
   refine gR 3 rfl (g_draw 19 35 rfl (by kernel_rfl) (fd_ldA 0 rfl rfl (in_all ‹_›) ?_))
   refine fd_call rfl rfl (fun w M => rtelem_c _ ‹_› _) ?_
   refine fR 2 rfl (fd_split 18 rfl (fun h1 => ?_) (fun h1 => ?_))
   ·replace h1 := false_of_not h1
    exact fR 15 rfl (fd_done rfl rfl (gR 11 rfl (g_outR (gR 2 rfl (g_ret1 rfl rfl rfl fun w M => vl_F hV hlt_i hx0.symm ‹_› M.ext)))))
   ·replace h1 := true_of_not h1
    refine fR 3 rfl (fd_know 21 rfl (dqT (by omega)) (fR 2 rfl (fd_sub rfl rfl (w_i64 (by omega) (by omega)) (fd_ixS rfl rfl (by omega) (by omega) (fR 1 rfl (fd_leA rfl ‹_› (sg_seg f2 (in_to ‹_›) (by omega)) ?_))))))
    refine fR 1 rfl (fd_ldA 0 rfl rfl (in_to ‹_›) ?_)
    refine fd_call rfl rfl (fun w M => scompare_c _ _ ‹_› ‹_› _) ?_
    refine fR 3 rfl (fd_done rfl rfl (gR 2 rfl (g_if rfl (fun h2 => ?_) (fun h2 => ?_))))
    ·replace h2 := dqU h2
     exact gR 8 rfl (g_outR (gR 2 rfl (g_ret1 rfl rfl rfl fun w M => vl_S hV hlt_i hi0 hx0.symm hy0.symm (by unfold cmpN;omega) M.ext)))
    ·replace h2 := dqV h2
     refine gR 4 rfl (g_add rfl rfl (w_i64 (by omega) (by omega)) (gR 2 rfl ?_))
     exact g_next (i + 1) ⟨by omega, vl_N hlt_i hx0.symm hv ‹_› fun _ => by rw [hy0];exact (by unfold cmpN;omega)⟩ (by dsimp only;omega) (fun a F => F.only [10, 9, 8, 0] rfl) (by (try dsimp only);repeat (first | exact .refl _ | with_reducible exact sC0 _ | with_reducible apply sC2 | apply sC1))
  ·refine gR 6 rfl ?_
   refine g_ifT rfl (dqT (by omega)) (gR 7 rfl (g_ixS rfl rfl (by omega) (by omega) (g_leA rfl ‹_› (by with_reducible assumption) ?_)))
   refine g_alloc fun b4 => gR 1 rfl (g_stA 0 rfl rfl (in_len ‹_›) (in_one _) rfl (put_all (by rw [in_len ‹_›];first | rfl | rw [in_len ‹_›])) rfl ?_)
   refine gR 3 rfl (g_draw 19 35 rfl (by kernel_rfl) (fd_ldA 0 rfl rfl (in_all ‹_›) ?_))
   refine fd_call rfl rfl (fun w M => rtelem_c _ ‹_› _) ?_
   refine fR 2 rfl (fd_split 18 rfl (fun h1 => ?_) (fun h1 => ?_))
   ·replace h1 := false_of_not h1
    exact fR 15 rfl (fd_done rfl rfl (gR 11 rfl (g_outR (gR 2 rfl (g_ret1 rfl rfl rfl fun w M => vl_F hV hlt_i hx0.symm ‹_› M.ext)))))
   ·replace h1 := true_of_not h1
    exact fR 3 rfl (fd_know 21 rfl (dqF (by omega)) (fR 12 rfl (fd_done rfl rfl (gR 7 rfl (g_add rfl rfl (w_i64 (by omega) (by omega)) (gR 2 rfl (g_next (i + 1) ⟨by omega, vl_N hlt_i hx0.symm hv ‹_› fun h => absurd h hi0⟩ (by dsimp only;omega) (fun a F => F.only [10, 9, 8, 0] rfl) (by (try dsimp only);repeat (first | exact .refl _ | with_reducible exact sC0 _ | with_reducible apply sC2 | apply sC1)))))))))
 ·have hil : i = l.length := by omega
  rw [hil] at hv
  exact gR 6 rfl (g_ifF rfl (dqF (by omega)) (gR 2 rfl (g_outX (gR 8 rfl (g_ret1 rfl rfl rfl fun w M => vl_T hV (by omega) hv M.ext)))))
def hitS (now : Int) (t : DstV) (x : SrcV) : Bool := decide (x.to = t) && decide (now < x.til)
theorem Has.app {l : List (Nat × Obj)} {b : Nat} {o : Obj} (h : Has l b o) : ∀ q : List (Nat × Obj), Has (q ++ l) b o
 | [] => h
 | _ :: q => .there (h.app q)
end Go.Proofs.YtfhkmgcalcfibaaGreat
namespace Go.Proofs.YtfhkmgcalcfibaaGreat
open Go.Shelf
def sortAd_ren : Go.Shelf.Ren := ⟨fun | 6 => 204 | 15 => 181 | 14 => 284 | 28 => 277 | 29 => 278 | 20 => 326 | 21 => 327 | 22 => 328 | 23 => 329 | 24 => 330 | 25 => 331 | 26 => 332 | 27 => 333 | 46 => 352 | 47 => 322 | 48 => 323 | 49 => 353 | 50 => 354 | 57 => 368 | n => n, fun | 22 => 49 | 24 => 100 | 25 => 243 | 3 => 3 | 39 => 185 | 0 => 0 | 53 => 297 | 55 => 40 | 4 => 4 | 46 => 291 | 45 => 290 | 50 => 268 | 5 => 5 | 9 => 9 | 66 => 326 | 70 => 329 | 76 => 345 | 77 => 346 | n => n, fun | n => n⟩
theorem sortAd : Go.Proofs.SlLaysF0.n6 Tryz.prog sortAd_ren := {
 mixed := by kernel_rfl
 f6 := ⟨Tryz.f204.name, by decide, Tryz.func204.trans (congrArg some (by kernel_rfl))⟩
 f14 := ⟨Tryz.f284.name, by decide, Tryz.func284.trans (congrArg some (by kernel_rfl))⟩
 f15 := Tryz.func181.trans (congrArg some (by kernel_rfl))
 f20 := ⟨Tryz.f326.name, by decide, Tryz.func326.trans (congrArg some (by kernel_rfl))⟩
 f21 := ⟨Tryz.f327.name, by decide, Tryz.func327.trans (congrArg some (by kernel_rfl))⟩
 f22 := ⟨Tryz.f328.name, by decide, Tryz.func328.trans (congrArg some (by kernel_rfl))⟩
 f23 := ⟨Tryz.f329.name, by decide, Tryz.func329.trans (congrArg some (by kernel_rfl))⟩
 f24 := ⟨Tryz.f330.name, by decide, Tryz.func330.trans (congrArg some (by kernel_rfl))⟩
 f25 := ⟨Tryz.f331.name, by decide, Tryz.func331.trans (congrArg some (by kernel_rfl))⟩
 f26 := ⟨Tryz.f332.name, by decide, Tryz.func332.trans (congrArg some (by kernel_rfl))⟩
 f27 := ⟨Tryz.f333.name, by decide, Tryz.func333.trans (congrArg some (by kernel_rfl))⟩
 f28 := Tryz.func277.trans (congrArg some (by kernel_rfl))
 f29 := Tryz.func278.trans (congrArg some (by kernel_rfl))
 f46 := ⟨Tryz.f352.name, by decide, Tryz.func352.trans (congrArg some (by kernel_rfl))⟩
 f47 := Tryz.func322.trans (congrArg some (by kernel_rfl))
 f48 := Tryz.func323.trans (congrArg some (by kernel_rfl))
 f49 := ⟨Tryz.f353.name, by decide, Tryz.func353.trans (congrArg some (by kernel_rfl))⟩
 f50 := ⟨Tryz.f354.name, by decide, Tryz.func354.trans (congrArg some (by kernel_rfl))⟩
 f57 := ⟨Tryz.f368.name, by decide, Tryz.func368.trans (congrArg some (by kernel_rfl))⟩
 t0 := Tryz.underlying0
 a0 := Tryz.isAgg0
 z0 := Tryz.sizeOf0
 v0 := Tryz.zeroValue0
 t3 := Tryz.underlying3
 a3 := Tryz.isAgg3
 z3 := Tryz.sizeOf3
 v3 := Tryz.zeroValue3
 t4 := Tryz.underlying4
 a4 := Tryz.isAgg4
 z4 := Tryz.sizeOf4
 v4 := Tryz.zeroValue4
 t5 := Tryz.underlying5
 a5 := Tryz.isAgg5
 z5 := Tryz.sizeOf5
 v5 := Tryz.zeroValue5
 t9 := Tryz.underlying9
 a9 := Tryz.isAgg9
 z9 := Tryz.sizeOf9
 v9 := Tryz.zeroValue9
 t22 := Tryz.underlying49
 a22 := Tryz.isAgg49
 z22 := Tryz.sizeOf49
 v22 := Tryz.zeroValue49
 t25 := Tryz.underlying243
 a25 := Tryz.isAgg243
 z25 := Tryz.sizeOf243
 v25 := Tryz.zeroValue243
 t39 := Tryz.underlying185
 a39 := Tryz.isAgg185
 z39 := Tryz.sizeOf185
 v39 := Tryz.zeroValue185
 t45 := Tryz.underlying290
 a45 := Tryz.isAgg290
 z45 := Tryz.sizeOf290
 v45 := Tryz.zeroValue290
 t46 := Tryz.underlying291
 a46 := Tryz.isAgg291
 z46 := Tryz.sizeOf291
 v46 := Tryz.zeroValue291
 t50 := Tryz.underlying268
 a50 := Tryz.isAgg268
 z50 := Tryz.sizeOf268
 v50 := Tryz.zeroValue268
 t53 := Tryz.underlying297
 a53 := Tryz.isAgg297
 z53 := Tryz.sizeOf297
 v53 := Tryz.zeroValue297
 t55 := Tryz.underlying40
 a55 := Tryz.isAgg40
 z55 := Tryz.sizeOf40
 v55 := Tryz.zeroValue40
 t66 := Tryz.underlying326
 a66 := Tryz.isAgg326
 z66 := Tryz.sizeOf326
 v66 := Tryz.zeroValue326
 t70 := Tryz.underlying329
 a70 := Tryz.isAgg329
 z70 := Tryz.sizeOf329
 v70 := Tryz.zeroValue329
 t76 := Tryz.underlying345
 a76 := Tryz.isAgg345
 z76 := Tryz.sizeOf345
 v76 := Tryz.zeroValue345
 t77 := Tryz.underlying346
 a77 := Tryz.isAgg346
 z77 := Tryz.sizeOf346
 v77 := Tryz.zeroValue346 }
end Go.Proofs.YtfhkmgcalcfibaaGreat
namespace Go.Proofs.YtfhkmgcalcfibaaGreat
open Go.RowKit Go.Sort
attribute [local irreducible] OpTo wpListIn Code.wpIn MW Cal
abbrev ADst := {d : DstV // IsDv d}
def z16 : List Int := [0, 0, 0, 0, 0, 0, 0, 0, 0, 0, 0, 0, 0, 0, 0, 0]
theorem z16_is : IsIP z16 := ⟨rfl, by intro x hx;simp [z16] at hx;omega⟩
instance : Inhabited ADst := ⟨⟨⟨z16, 0, z16, 0, 0⟩, z16_is, z16_is⟩⟩
def cfD (x y : ADst) : Int := cmpD x.1 y.1
theorem ltD (x y : ADst) : ltOf cfD x y = true ↔ cmpD x.1 y.1 < 0 := decide_eq_true_iff
theorem ltD_f (x y : ADst) : ltOf cfD x y = false ↔ ¬ cmpD x.1 y.1 < 0 := decide_eq_false_iff_not
theorem swoD : SWO (ltOf cfD) where
 irrefl x := by rw [ltD_f, cmpD_self];omega
 trans x y z h1 h2 := by rw [ltD] at *;exact cmpD_trans h1 h2
 ntrans x y z h1 h2 := by
  rw [ltD_f] at *
  intro h
  have h3 := cmpD_anti x.1 y.1
  rcases Int.lt_trichotomy (cmpD y.1 x.1) 0 with h4 | h4 | h4
  ·exact h2 (cmpD_trans h4 h)
  ·rw [cmpD_zero y.2 x.2 h4] at h2
   exact h2 h
  ·omega
theorem totD (x y : ADst) (h1 : ltOf cfD x y = false) (h2 : ltOf cfD y x = false) : x = y := by
 rw [ltD_f] at *
 have h3 := cmpD_anti x.1 y.1
 exact Subtype.ext (cmpD_zero x.2 y.2 (by omega))
theorem getO_nd : ∀ {l : List AdvV}, (l.map (·.to)).Nodup → ∀ {a : AdvV}, a ∈ l → getO l a.to = some a.own
 | [], _, _, h => by cases h
 | x :: l, hn, a, h => by
  rw [getO_cons]
  simp only [List.map_cons, List.nodup_cons, List.mem_map, not_exists, not_and] at hn
  rcases List.mem_cons.1 h with rfl | h
  ·simp
  ·rw [if_neg fun e => hn.1 a h e.symm]
   exact getO_nd hn.2 h
end Go.Proofs.YtfhkmgcalcfibaaGreat
namespace Go.Proofs.YtfhkmgcalcfibaaGreat
open Go.RowKit
attribute [local irreducible] OpTo wpListIn Code.wpIn MW Cal
def findI {α : Type} (p : α → Bool) (ls : List α) : Int := match ls.findIdx? p with | some i => i | none => -1
theorem findI_at {α : Type} {p : α → Bool} {ls : List α} {i : Nat} (hi : i < ls.length) (h : p ls[i] = true) (hn : ∀ j (hj : j < i), p ls[j] = false) : findI p ls = i := by
 have : ls.findIdx? p = some i := List.findIdx?_eq_some_iff_getElem.2 ⟨hi, h, fun j hj => by simp [hn j hj]⟩
 simp [findI, this]
theorem findI_none {α : Type} {p : α → Bool} {ls : List α} (hn : ∀ j (hj : j < ls.length), p ls[j] = false) : findI p ls = -1 := by
 have : ls.findIdx? p = none := List.findIdx?_eq_none_iff.2 fun x hx => by
  obtain ⟨j, hj, rfl⟩ := List.mem_iff_getElem.1 hx
  exact hn j hj
 simp [findI, this]
end Go.Proofs.YtfhkmgcalcfibaaGreat
namespace Go.Proofs.YtfhkmgcalcfibaaGreat
open Go.RowKit
section
variable {now : Int} {s : List SrcV} {cm : List (Int × Int)} {t : DstV} {l : List RouV}
end
structure Yet {α : Type} (to : α → DstV) (l : List α) (ds : List DstV) (r : Nat) : Prop where
 le : r ≤ l.length
 gone : ∀ j (hj : j < l.length), j < r → to l[j] ∉ ds
 yet : ∀ j (hj : j < l.length), r ≤ j → to l[j] ∈ ds
abbrev Weak {α : Type} (to : α → DstV) (l : List α) : Prop := l.Pairwise fun a b => ¬ cmpD (to b) (to a) < 0
theorem Yet.next {α : Type} {to : α → DstV} {l : List α} {t : DstV} {ds : List DstV} {r r1 : Nat} (hW : Weak to l) (hd : AscD (t :: ds)) (hi : ∀ x ∈ t :: ds, IsDv x) (h : Yet to l (t :: ds) r) (hr : r ≤ r1) (hle : r1 ≤ l.length) (he : ∀ j (hj : j < l.length), r ≤ j → j < r1 → to l[j] = t) (hn : ∀ hj : r1 < l.length, to l[r1] ≠ t) : Yet to l ds r1 ∧ ∀ j (hj : j < l.length), r1 ≤ j → to l[j] ≠ t := by
 have hd1 := List.pairwise_cons.1 hd
 have htn : t ∉ ds := fun h => by have := hd1.1 t h;rw [cmpD_self] at this;omega
 have key : ∀ j (hj : j < l.length), r1 ≤ j → to l[j] ≠ t := by
  intro j hj h1 e
  have hr1 : r1 < l.length := by omega
  have h2 := h.yet r1 hr1 hr
  have h3 : cmpD t (to l[r1]) < 0 := by
   rcases List.mem_cons.1 h2 with h4 | h4
   ·exact absurd h4 (hn hr1)
   ·exact hd1.1 _ h4
  rcases Nat.lt_or_ge r1 j with h5 | h5
  ·have := (List.pairwise_iff_getElem.1 hW) r1 j hr1 hj h5
   rw [e] at this
   exact this h3
  ·obtain rfl : j = r1 := by omega
   exact hn hj e
 refine ⟨⟨hle, fun j hj h1 h2 => ?_, fun j hj h1 => ?_⟩, key⟩
 ·rcases Nat.lt_or_ge j r with h3 | h3
  ·exact h.gone j hj h3 (List.mem_cons_of_mem _ h2)
  ·rw [he j hj h3 h1] at h2
   exact htn h2
 ·rcases List.mem_cons.1 (h.yet j hj (by omega)) with h2 | h2
  ·exact absurd h2 (key j hj h1)
  ·exact h2
theorem Yet.before {α : Type} {to : α → DstV} {l : List α} {t : DstV} {ds : List DstV} {r : Nat} (h : Yet to l (t :: ds) r) : ∀ j (hj : j < l.length), j < r → to l[j] ≠ t := fun j hj h1 e => h.gone j hj h1 (by rw [e];simp)
def k5 : OptV := ⟨5, 300⟩
section
variable {t : DstV} {d : DisV} {now til : Int}
end
end Go.Proofs.YtfhkmgcalcfibaaGreat
namespace Go.Proofs.YtfhkmgcalcfibaaGreat
open Go.RowKit
attribute [local irreducible] OpTo wpListIn Code.wpIn MW Cal
theorem reforder_c (x y : RouV) (ha : IsRo x) (hb : IsRo y) (W : World) : Cal Tryz.prog 199 [.agg (roC x).toArray, .agg (roC y).toArray].toArray W fun v w' => v = .int .i64 (cmpR x y) ∧ Ext [] W w' := by
 have a1 := ro_to ha
 have a2 := ro_nb ha
 have c1 := ro_to hb
 have c2 := ro_nb hb
 rw [cmpR_or ha.1 hb.1]
 unfold orI cmpI
 refine fn_ofM (n := 24) [] Tryz.func199 rfl rfl rfl ?_
 intro a w F M hwW
 refine c_seq (c_region ?_)
 (refine sD F (o_box M (F.e rfl) rfl ?_);clear F M;intro b2 w M a F)
 (refine sD F (o_box M (F.e rfl) rfl ?_);clear F M;intro b3 w M a F)
 refine sD F (o_assign (F.e rfl) ?_);clear F a;intro a F
 with_reducible refine l_nil (q_then (c_seq (c_seq (c_region ?_))))
 refine sD F (o_fieldAddr (F.e rfl) fun a F => sD F (o_loadA M (F.e rfl) (by repeat constructor) ‹_› ?_));iterate 2 clear F a
 intro a F
 refine sD F (o_fieldAddr (F.e rfl) fun a F => sD F (o_loadA M (F.e rfl) (by repeat constructor) ‹_› ?_));iterate 2 clear F a
 intro a F
 (refine sD F (o_call (F.e rfl) (F.evs rfl) (Cal.mono (rcompare_c x.to y.to ha.1 hb.1 _) ?_));clear F;clear a;rintro _ w ⟨rfl, hE⟩ a F;replace M := M.later hE;clear hE)
 by_cases k : cmpD x.to y.to = 0
 ·rw [if_pos k]
  by_cases k2 : x.nb < y.nb
  ·rw [if_pos k2]
   refine sD F (o_assign (F.e rfl) ?_);clear F a;intro a F
   with_reducible refine l_nil (q_then (c_seq (c_region ?_)))
   refine sD F (o_move (F.e rfl) fun a F => sD F (o_neqF (F.e rfl) (F.e rfl) (by omega) ?_));iterate 2 clear F a
   intro a F
   with_reducible refine l_nil (q_then ?_)
   refine c_false F rfl rfl ?_
   with_reducible refine c_skip (q_then (c_seq (c_seq (c_region ?_))))
   refine sD F (o_fieldAddr (F.e rfl) fun a F => sD F (o_load1 M (F.e rfl) (by repeat constructor) ‹_› ?_));iterate 2 clear F a
   intro a F
   refine sD F (o_fieldAddr (F.e rfl) fun a F => sD F (o_load1 M (F.e rfl) (by repeat constructor) ‹_› ?_));iterate 2 clear F a
   intro a F
   refine sD F (o_lssT (F.e rfl) (F.e rfl) (by omega) ?_);clear F a;intro a F
   with_reducible refine l_nil (q_then ?_)
   refine c_true F rfl rfl (c_seq (c_region ?_))
   refine sD F (o_assign (F.e rfl) ?_);clear F a;intro a F
   with_reducible refine l_nil (q_then (c_ret (q_thenR ?_)))
   exact p_ret F rfl (.cons (.tmp (F.e rfl)) .nil) (⟨rfl, M.ext⟩)
  ·rw [if_neg k2]
   by_cases k3 : y.nb < x.nb
   ·rw [if_pos k3]
    refine sD F (o_assign (F.e rfl) ?_);clear F a;intro a F
    with_reducible refine l_nil (q_then (c_seq (c_region ?_)))
    refine sD F (o_move (F.e rfl) fun a F => sD F (o_neqF (F.e rfl) (F.e rfl) (by omega) ?_));iterate 2 clear F a
    intro a F
    with_reducible refine l_nil (q_then ?_)
    refine c_false F rfl rfl ?_
    with_reducible refine c_skip (q_then (c_seq (c_seq (c_region ?_))))
    refine sD F (o_fieldAddr (F.e rfl) fun a F => sD F (o_load1 M (F.e rfl) (by repeat constructor) ‹_› ?_));iterate 2 clear F a
    intro a F
    refine sD F (o_fieldAddr (F.e rfl) fun a F => sD F (o_load1 M (F.e rfl) (by repeat constructor) ‹_› ?_));iterate 2 clear F a
    intro a F
    refine sD F (o_lssF (F.e rfl) (F.e rfl) (by omega) ?_);clear F a;intro a F
    with_reducible refine l_nil (q_then ?_)
    refine c_false F rfl rfl ?_
    with_reducible refine c_skip (q_then (c_seq (c_seq (c_region ?_))))
    refine sD F (o_fieldAddr (F.e rfl) fun a F => sD F (o_load1 M (F.e rfl) (by repeat constructor) ‹_› ?_));iterate 2 clear F a
    intro a F
    refine sD F (o_fieldAddr (F.e rfl) fun a F => sD F (o_load1 M (F.e rfl) (by repeat constructor) ‹_› ?_));iterate 2 clear F a
    intro a F
    refine sD F (o_gtrT (F.e rfl) (F.e rfl) (by omega) ?_);clear F a;intro a F
    with_reducible refine l_nil (q_then ?_)
    refine c_true F rfl rfl (c_seq (c_region ?_))
    refine sD F (o_assign (F.e rfl) ?_);clear F a;intro a F
    with_reducible refine l_nil (q_then (c_ret (q_thenR ?_)))
    exact p_ret F rfl (.cons (.tmp (F.e rfl)) .nil) (⟨rfl, M.ext⟩)
   ·rw [if_neg k3]
    refine sD F (o_assign (F.e rfl) ?_);clear F a;intro a F
    with_reducible refine l_nil (q_then (c_seq (c_region ?_)))
    refine sD F (o_move (F.e rfl) fun a F => sD F (o_neqF (F.e rfl) (F.e rfl) (by omega) ?_));iterate 2 clear F a
    intro a F
    with_reducible refine l_nil (q_then ?_)
    refine c_false F rfl rfl ?_
    with_reducible refine c_skip (q_then (c_seq (c_seq (c_region ?_))))
    refine sD F (o_fieldAddr (F.e rfl) fun a F => sD F (o_load1 M (F.e rfl) (by repeat constructor) ‹_› ?_));iterate 2 clear F a
    intro a F
    refine sD F (o_fieldAddr (F.e rfl) fun a F => sD F (o_load1 M (F.e rfl) (by repeat constructor) ‹_› ?_));iterate 2 clear F a
    intro a F
    refine sD F (o_lssF (F.e rfl) (F.e rfl) (by omega) ?_);clear F a;intro a F
    with_reducible refine l_nil (q_then ?_)
    refine c_false F rfl rfl ?_
    with_reducible refine c_skip (q_then (c_seq (c_seq (c_region ?_))))
    refine sD F (o_fieldAddr (F.e rfl) fun a F => sD F (o_load1 M (F.e rfl) (by repeat constructor) ‹_› ?_));iterate 2 clear F a
    intro a F
    refine sD F (o_fieldAddr (F.e rfl) fun a F => sD F (o_load1 M (F.e rfl) (by repeat constructor) ‹_› ?_));iterate 2 clear F a
    intro a F
    refine sD F (o_gtrF (F.e rfl) (F.e rfl) (by omega) ?_);clear F a;intro a F
    with_reducible refine l_nil (q_then ?_)
    refine c_false F rfl rfl ?_
    with_reducible refine c_skip (q_then (c_seq (c_region ?_)))
    refine sD F (o_assign (F.e rfl) ?_);clear F a;intro a F
    with_reducible refine l_nil (q_then (c_ret ?_))
    exact p_ret F rfl (.cons (.tmp (F.e rfl)) .nil) (⟨rfl, M.ext⟩)
 ·rw [if_neg k]
  refine sD F (o_assign (F.e rfl) ?_);clear F a;intro a F
  with_reducible refine l_nil (q_then (c_seq (c_region ?_)))
  refine sD F (o_move (F.e rfl) fun a F => sD F (o_neqT (F.e rfl) (F.e rfl) (by omega) ?_));iterate 2 clear F a
  intro a F
  with_reducible refine l_nil (q_then ?_)
  refine c_true F rfl rfl (c_seq (c_region ?_))
  refine sD F (o_move (F.e rfl) fun a F => sD F (o_assign (F.e rfl) ?_));iterate 2 clear F a
  intro a F
  with_reducible refine l_nil (q_then (c_ret (q_thenR ?_)))
  exact p_ret F rfl (.cons (.tmp (F.e rfl)) .nil) (⟨rfl, M.ext⟩)
theorem refvalidR_c (l : List RouV) (hx : ∀ x ∈ l, IsRo x) (v : Value) (W : World) (hS : SlAt W 39 v l.length (rosC l)) :
  Cal Tryz.prog 114 [v].toArray W fun r w' => r = .bool (validRs l) ∧ Ext [] W w' := by
 obtain ⟨q, cap, rfl, _⟩ := id hS
 have hm := hS.memB [] (by simp)
 unfold validRs
 generalize hV : vldL 512 rou1 cmpR l = b0
 refine g_start (n := 70) (S := []) fldT_ok slcT_ok Tryz.func114 rfl rfl rfl ?_
 by_cases c0 : 512 < l.length
 ·refine gR 13 rfl ?_
  exact g_ifT rfl (dqT (by omega)) (gR 7 rfl (g_ret1 rfl rfl rfl fun w M => vl_L hV c0 M.ext))
 refine gR 13 rfl (g_ifF rfl (dqF (by omega)) (gR 11 rfl (g_loop (ι := Nat) ⟨fun (i : Nat) => l.length - i, fun (i : Nat) => i ≤ l.length ∧ (∀ j, j < i → vld1 rou1 cmpR l j = true), fun (i : Nat) => [(9, .int .i64 i), (8, .int .i64 l.length), (7, .slice q l.length cap), (0, .slice q l.length cap)], fun (i : Nat) => []⟩ 0 ⟨by omega, by omega⟩ (fun a F => F.only [9, 8, 7, 0] rfl) (by repeat (first | exact .refl _ | apply sC2 | apply sC1)) ?_)))
 rintro i ⟨hi_i, hv⟩
 by_cases hlt_i : i < l.length
 ·obtain ⟨b, o, cs, t', fz, rfl, hb, hs⟩ := hm (by omega)
  obtain ⟨x, hx0⟩ : ∃ x, x = l[i] := ⟨_, rfl⟩
  have hxm : x ∈ l := by rw [hx0];exact List.getElem_mem hlt_i
  have hxi : IsRo x := hx _ hxm
  have f1 : seg cs (o + (i : Int).toNat * 39) 39 = some (roC x) := by rw [hx0];exact seg_el (ros_len hx) hs hlt_i (by omega)
  replace hx0 := hx0.symm
  have xd : IsDv x.to := hxi.1
  by_cases hi0 : 0 < i
  ·obtain ⟨y, hy0⟩ : ∃ y, y = l[i - 1]'(by omega) := ⟨_, rfl⟩
   have yI : IsRo y := by rw [hy0];exact hx _ (List.getElem_mem _)
   have f2 : seg cs (o + ((i : Int) - 1).toNat * 39) 39 = some (roC y) := by rw [hy0];exact seg_el (ros_len hx) hs (show i - 1 < l.length by omega) (by omega)
   replace hy0 := hy0.symm
   have yd : IsDv y.to := yI.1
   refine gR 6 rfl (g_ifT rfl (dqT (by omega)) (gR 15 rfl (g_ixS rfl rfl (by omega) (by omega) (gR 1 rfl (g_leA rfl ‹_› (sg_seg f1 (ro_to ‹_›) (by omega)) ?_)))))
   refine g_call rfl rfl (fun w M => rvalidTo_c _ ‹_› _) ?_
   refine gR 2 rfl (g_split 19 rfl (fun h1 => ?_) (fun h1 => ?_))
   ·replace h1 := false_of_not h1
    exact gR 46 rfl (g_outR (gR 2 rfl (g_ret1 rfl rfl rfl fun w M => vl_F hV hlt_i hx0.symm (by (unfold rou1;simp [*];done)) M.ext)))
   ·replace h1 := true_of_not h1
    refine gR 2 rfl (g_ixS rfl rfl (by omega) (by omega) (gR 1 rfl (g_le1 rfl ‹_› (sg_nth f1 (ro_nb ‹_›) (by omega)) ?_)))
    refine gR 3 rfl (g_split 27 rfl (fun h2 => ?_) (fun h2 => ?_))
    ·replace h2 := dqU h2
     exact gR 38 rfl (g_outR (gR 2 rfl (g_ret1 rfl rfl rfl fun w M => vl_F hV hlt_i hx0.symm (by (unfold rou1;simp [*];done)) M.ext)))
    ·replace h2 := dqV h2
     refine gR 2 rfl (g_ixS rfl rfl (by omega) (by omega) (gR 1 rfl (g_leA rfl ‹_› (sg_seg f1 (ro_said ‹_›) (by omega)) ?_)))
     refine g_call rfl rfl (fun w M => rdvalid_c _ _) (gR 3 rfl (g_split 36 rfl (fun h3 => ?_) (fun h3 => ?_)))
     ·replace h3 := false_of_not h3
      exact gR 29 rfl (g_outR (gR 2 rfl (g_ret1 rfl rfl rfl fun w M => vl_F hV hlt_i hx0.symm (by (unfold rou1 finD inf;simp [*])) M.ext)))
     ·replace h3 := true_of_not h3
      refine gR 2 rfl (g_ixS rfl rfl (by omega) (by omega) (gR 2 rfl (g_le1 rfl ‹_› (sg_nth f1 (ro_said_met ‹_›) (by omega)) ?_)))
      refine gR 3 rfl (g_split 45 rfl (fun h4 => ?_) (fun h4 => ?_))
      ·replace h4 := dqU h4
       exact gR 20 rfl (g_outR (gR 2 rfl (g_ret1 rfl rfl rfl fun w M => vl_F hV hlt_i hx0.symm (by (unfold rou1 finD inf;simp [*])) M.ext)))
      ·replace h4 := dqV h4
       refine gR 2 rfl (g_ixS rfl rfl (by omega) (by omega) (gR 1 rfl (g_le1 rfl ‹_› (sg_nth f1 (ro_til ‹_›) (by omega)) ?_)))
       refine g_call rfl rfl (fun w M => risTime_c _ _) (gR 4 rfl (g_if rfl (fun h5 => ?_) (fun h5 => ?_)))
       ·replace h5 := false_of_not h5
        exact gR 9 rfl (g_outR (gR 2 rfl (g_ret1 rfl rfl rfl fun w M => vl_F hV hlt_i hx0.symm (by (unfold rou1;simp [*];done)) M.ext)))
       ·replace h5 := true_of_not h5
        refine gR 3 rfl (g_draw 15 70 rfl (by kernel_rfl) (fR 3 rfl (fd_know 56 rfl (dqT (by omega)) (fR 2 rfl (fd_sub rfl rfl (w_i64 (by omega) (by omega)) (fd_ixS rfl rfl (by omega) (by omega) (fd_leA rfl ‹_› (by with_reducible assumption) ?_)))))))
        refine fR 2 rfl (fd_ixS rfl rfl (by omega) (by omega) (fd_leA rfl ‹_› (by with_reducible assumption) ?_))
        refine fd_call rfl rfl (fun w M => reforder_c _ _ ‹_› ‹_› _) ?_
        refine fR 2 rfl (fd_done rfl rfl (gR 2 rfl (g_if rfl (fun h6 => ?_) (fun h6 => ?_))))
        ·replace h6 := dqU h6
         exact gR 8 rfl (g_outR (gR 2 rfl (g_ret1 rfl rfl rfl fun w M => vl_S hV hlt_i hi0 hx0.symm hy0.symm (by omega) M.ext)))
        ·replace h6 := dqV h6
         refine gR 4 rfl (g_add rfl rfl (w_i64 (by omega) (by omega)) (gR 2 rfl ?_))
         exact g_next (i + 1) ⟨by omega, vl_N hlt_i hx0.symm hv (by (unfold rou1 finD inf;simp [*])) fun _ => by rw [hy0];exact (by omega)⟩ (by dsimp only;omega) (fun a F => F.only [9, 8, 7, 0] rfl) (by (try dsimp only);repeat (first | exact .refl _ | with_reducible exact sC0 _ | with_reducible apply sC2 | apply sC1))
  ·refine gR 6 rfl ?_
   refine g_ifT rfl (dqT (by omega)) (gR 15 rfl (g_ixS rfl rfl (by omega) (by omega) (gR 1 rfl (g_leA rfl ‹_› (sg_seg ‹_› (ro_to ‹_›) (by omega)) ?_))))
   refine g_call rfl rfl (fun w M => rvalidTo_c _ ‹_› _) ?_
   refine gR 2 rfl (g_split 19 rfl (fun h1 => ?_) (fun h1 => ?_))
   ·replace h1 := false_of_not h1
    exact gR 46 rfl (g_outR (gR 2 rfl (g_ret1 rfl rfl rfl fun w M => vl_F hV hlt_i hx0.symm (by (unfold rou1;simp [*];done)) M.ext)))
   ·replace h1 := true_of_not h1
    refine gR 2 rfl (g_ixS rfl rfl (by omega) (by omega) (gR 1 rfl (g_le1 rfl ‹_› (sg_nth ‹_› (ro_nb ‹_›) (by omega)) ?_)))
    refine gR 3 rfl (g_split 27 rfl (fun h2 => ?_) (fun h2 => ?_))
    ·replace h2 := dqU h2
     exact gR 38 rfl (g_outR (gR 2 rfl (g_ret1 rfl rfl rfl fun w M => vl_F hV hlt_i hx0.symm (by (unfold rou1;simp [*];done)) M.ext)))
    ·replace h2 := dqV h2
     refine gR 2 rfl (g_ixS rfl rfl (by omega) (by omega) (gR 1 rfl (g_leA rfl ‹_› (sg_seg ‹_› (ro_said ‹_›) (by omega)) ?_)))
     refine g_call rfl rfl (fun w M => rdvalid_c _ _) (gR 3 rfl (g_split 36 rfl (fun h3 => ?_) (fun h3 => ?_)))
     ·replace h3 := false_of_not h3
      exact gR 29 rfl (g_outR (gR 2 rfl (g_ret1 rfl rfl rfl fun w M => vl_F hV hlt_i hx0.symm (by (unfold rou1 finD inf;simp [*])) M.ext)))
     ·replace h3 := true_of_not h3
      refine gR 2 rfl (g_ixS rfl rfl (by omega) (by omega) (gR 2 rfl (g_le1 rfl ‹_› (sg_nth ‹_› (ro_said_met ‹_›) (by omega)) ?_)))
      refine gR 3 rfl (g_split 45 rfl (fun h4 => ?_) (fun h4 => ?_))
      ·replace h4 := dqU h4
       exact gR 20 rfl (g_outR (gR 2 rfl (g_ret1 rfl rfl rfl fun w M => vl_F hV hlt_i hx0.symm (by (unfold rou1 finD inf;simp [*])) M.ext)))
      ·replace h4 := dqV h4
       refine gR 2 rfl (g_ixS rfl rfl (by omega) (by omega) (gR 1 rfl (g_le1 rfl ‹_› (sg_nth ‹_› (ro_til ‹_›) (by omega)) ?_)))
       refine g_call rfl rfl (fun w M => risTime_c _ _) (gR 4 rfl (g_if rfl (fun h5 => ?_) (fun h5 => ?_)))
       ·replace h5 := false_of_not h5
        exact gR 9 rfl (g_outR (gR 2 rfl (g_ret1 rfl rfl rfl fun w M => vl_F hV hlt_i hx0.symm (by (unfold rou1;simp [*];done)) M.ext)))
       ·replace h5 := true_of_not h5
        exact gR 3 rfl (g_draw 15 70 rfl (by kernel_rfl) (fR 3 rfl (fd_know 56 rfl (dqF (by omega)) (fR 12 rfl (fd_done rfl rfl (gR 7 rfl (g_add rfl rfl (w_i64 (by omega) (by omega)) (gR 2 rfl (g_next (i + 1) ⟨by omega, vl_N hlt_i hx0.symm hv (by (unfold rou1 finD inf;simp [*])) fun h => absurd h hi0⟩ (by dsimp only;omega) (fun a F => F.only [9, 8, 7, 0] rfl) (by (try dsimp only);repeat (first | exact .refl _ | with_reducible exact sC0 _ | with_reducible apply sC2 | apply sC1)))))))))))
 ·have hil : i = l.length := by omega
  rw [hil] at hv
  exact gR 6 rfl (g_ifF rfl (dqF (by omega)) (gR 2 rfl (g_outX (gR 8 rfl (g_ret1 rfl rfl rfl fun w M => vl_T hV (by omega) hv M.ext)))))
theorem refvalidS_c (l : List SrcV) (hx : ∀ x ∈ l, IsSr x) (v : Value) (W : World) (hS : SlAt W 38 v l.length (srsC l)) :
  Cal Tryz.prog 72 [v].toArray W fun r w' => r = .bool (validSs l) ∧ Ext [] W w' := by
 obtain ⟨q, cap, rfl, _⟩ := id hS
 have hm := hS.memB [] (by simp)
 unfold validSs
 generalize hV : vldL 256 src1 cmpS l = b0
 refine g_start (n := 64) (S := []) fldT_ok slcT_ok Tryz.func72 rfl rfl rfl ?_
 by_cases c0 : 256 < l.length
 ·refine gR 13 rfl ?_
  exact g_ifT rfl (dqT (by omega)) (gR 7 rfl (g_ret1 rfl rfl rfl fun w M => vl_L hV c0 M.ext))
 refine gR 13 rfl (g_ifF rfl (dqF (by omega)) (gR 11 rfl (g_loop (ι := Nat) ⟨fun (i : Nat) => l.length - i, fun (i : Nat) => i ≤ l.length ∧ (∀ j, j < i → vld1 src1 cmpS l j = true), fun (i : Nat) => [(9, .int .i64 i), (8, .int .i64 l.length), (7, .slice q l.length cap), (0, .slice q l.length cap)], fun (i : Nat) => []⟩ 0 ⟨by omega, by omega⟩ (fun a F => F.only [9, 8, 7, 0] rfl) (by repeat (first | exact .refl _ | apply sC2 | apply sC1)) ?_)))
 rintro i ⟨hi_i, hv⟩
 by_cases hlt_i : i < l.length
 ·obtain ⟨b, o, cs, t', fz, rfl, hb, hs⟩ := hm (by omega)
  obtain ⟨x, hx0⟩ : ∃ x, x = l[i] := ⟨_, rfl⟩
  have hxm : x ∈ l := by rw [hx0];exact List.getElem_mem hlt_i
  have hxi : IsSr x := hx _ hxm
  have f1 : seg cs (o + (i : Int).toNat * 38) 38 = some (srC x) := by rw [hx0];exact seg_el (srs_len hx) hs hlt_i (by omega)
  replace hx0 := hx0.symm
  have xd : IsDv x.to := hxi.1
  by_cases hi0 : 0 < i
  ·obtain ⟨y, hy0⟩ : ∃ y, y = l[i - 1]'(by omega) := ⟨_, rfl⟩
   have yI : IsSr y := by rw [hy0];exact hx _ (List.getElem_mem _)
   have f2 : seg cs (o + ((i : Int) - 1).toNat * 38) 38 = some (srC y) := by rw [hy0];exact seg_el (srs_len hx) hs (show i - 1 < l.length by omega) (by omega)
   replace hy0 := hy0.symm
   have yd : IsDv y.to := yI.1
   refine gR 6 rfl (g_ifT rfl (dqT (by omega)) (gR 15 rfl (g_ixS rfl rfl (by omega) (by omega) (gR 1 rfl (g_leA rfl ‹_› (sg_seg f1 (sr_to ‹_›) (by omega)) ?_)))))
   refine g_call rfl rfl (fun w M => rvalidTo_c _ ‹_› _) ?_
   refine gR 2 rfl (g_split 19 rfl (fun h1 => ?_) (fun h1 => ?_))
   ·replace h1 := false_of_not h1
    exact gR 38 rfl (g_outR (gR 2 rfl (g_ret1 rfl rfl rfl fun w M => vl_F hV hlt_i hx0.symm (by (unfold src1;simp [*];done)) M.ext)))
   ·replace h1 := true_of_not h1
    refine gR 2 rfl (g_ixS rfl rfl (by omega) (by omega) (gR 1 rfl (g_leA rfl ‹_› (sg_seg f1 (sr_bst ‹_›) (by omega)) ?_)))
    refine g_call rfl rfl (fun w M => rdvalid_c _ _) (gR 3 rfl (g_split 28 rfl (fun h2 => ?_) (fun h2 => ?_)))
    ·replace h2 := false_of_not h2
     exact gR 29 rfl (g_outR (gR 2 rfl (g_ret1 rfl rfl rfl fun w M => vl_F hV hlt_i hx0.symm (by (unfold src1 finD inf;simp [*])) M.ext)))
    ·replace h2 := true_of_not h2
     refine gR 2 rfl (g_ixS rfl rfl (by omega) (by omega) (gR 2 rfl (g_le1 rfl ‹_› (sg_nth f1 (sr_bst_met ‹_›) (by omega)) ?_)))
     refine gR 3 rfl (g_split 37 rfl (fun h3 => ?_) (fun h3 => ?_))
     ·replace h3 := dqU h3
      exact gR 20 rfl (g_outR (gR 2 rfl (g_ret1 rfl rfl rfl fun w M => vl_F hV hlt_i hx0.symm (by (unfold src1 finD inf;simp [*])) M.ext)))
     ·replace h3 := dqV h3
      refine gR 2 rfl (g_ixS rfl rfl (by omega) (by omega) (gR 1 rfl (g_le1 rfl ‹_› (sg_nth f1 (sr_til ‹_›) (by omega)) ?_)))
      refine g_call rfl rfl (fun w M => risTime_c _ _) (gR 4 rfl (g_if rfl (fun h4 => ?_) (fun h4 => ?_)))
      ·replace h4 := false_of_not h4
       exact gR 9 rfl (g_outR (gR 2 rfl (g_ret1 rfl rfl rfl fun w M => vl_F hV hlt_i hx0.symm (by (unfold src1;simp [*];done)) M.ext)))
      ·replace h4 := true_of_not h4
       refine gR 3 rfl (g_draw 17 64 rfl (by kernel_rfl) (fR 3 rfl (fd_know 48 rfl (dqT (by omega)) (fR 2 rfl (fd_sub rfl rfl (w_i64 (by omega) (by omega)) (fd_ixS rfl rfl (by omega) (by omega) (fR 1 rfl (fd_leA rfl ‹_› (sg_seg f2 (sr_to ‹_›) (by omega)) ?_))))))))
       refine fR 2 rfl (fd_ixS rfl rfl (by omega) (by omega) (fR 1 rfl (fd_leA rfl ‹_› (sg_seg f1 (sr_to ‹_›) (by omega)) ?_)))
       refine fd_call rfl rfl (fun w M => rcompare_c _ _ ‹_› ‹_› _) ?_
       refine fR 2 rfl (fd_done rfl rfl (gR 2 rfl (g_if rfl (fun h5 => ?_) (fun h5 => ?_))))
       ·replace h5 := dqU h5
        exact gR 8 rfl (g_outR (gR 2 rfl (g_ret1 rfl rfl rfl fun w M => vl_S hV hlt_i hi0 hx0.symm hy0.symm (by unfold cmpS;omega) M.ext)))
       ·replace h5 := dqV h5
        refine gR 4 rfl (g_add rfl rfl (w_i64 (by omega) (by omega)) (gR 2 rfl ?_))
        exact g_next (i + 1) ⟨by omega, vl_N hlt_i hx0.symm hv (by (unfold src1 finD inf;simp [*])) fun _ => by rw [hy0];exact (by unfold cmpS;omega)⟩ (by dsimp only;omega) (fun a F => F.only [9, 8, 7, 0] rfl) (by (try dsimp only);repeat (first | exact .refl _ | with_reducible exact sC0 _ | with_reducible apply sC2 | apply sC1))
  ·refine gR 6 rfl ?_
   refine g_ifT rfl (dqT (by omega)) (gR 15 rfl (g_ixS rfl rfl (by omega) (by omega) (gR 1 rfl (g_leA rfl ‹_› (sg_seg ‹_› (sr_to ‹_›) (by omega)) ?_))))
   refine g_call rfl rfl (fun w M => rvalidTo_c _ ‹_› _) ?_
   refine gR 2 rfl (g_split 19 rfl (fun h1 => ?_) (fun h1 => ?_))
   ·replace h1 := false_of_not h1
    exact gR 38 rfl (g_outR (gR 2 rfl (g_ret1 rfl rfl rfl fun w M => vl_F hV hlt_i hx0.symm (by (unfold src1;simp [*];done)) M.ext)))
   ·replace h1 := true_of_not h1
    refine gR 2 rfl (g_ixS rfl rfl (by omega) (by omega) (gR 1 rfl (g_leA rfl ‹_› (sg_seg ‹_› (sr_bst ‹_›) (by omega)) ?_)))
    refine g_call rfl rfl (fun w M => rdvalid_c _ _) (gR 3 rfl (g_split 28 rfl (fun h2 => ?_) (fun h2 => ?_)))
    ·replace h2 := false_of_not h2
     exact gR 29 rfl (g_outR (gR 2 rfl (g_ret1 rfl rfl rfl fun w M => vl_F hV hlt_i hx0.symm (by (unfold src1 finD inf;simp [*])) M.ext)))
    ·replace h2 := true_of_not h2
     refine gR 2 rfl (g_ixS rfl rfl (by omega) (by omega) (gR 2 rfl (g_le1 rfl ‹_› (sg_nth ‹_› (sr_bst_met ‹_›) (by omega)) ?_)))
     refine gR 3 rfl (g_split 37 rfl (fun h3 => ?_) (fun h3 => ?_))
     ·replace h3 := dqU h3
      exact gR 20 rfl (g_outR (gR 2 rfl (g_ret1 rfl rfl rfl fun w M => vl_F hV hlt_i hx0.symm (by (unfold src1 finD inf;simp [*])) M.ext)))
     ·replace h3 := dqV h3
      refine gR 2 rfl (g_ixS rfl rfl (by omega) (by omega) (gR 1 rfl (g_le1 rfl ‹_› (sg_nth ‹_› (sr_til ‹_›) (by omega)) ?_)))
      refine g_call rfl rfl (fun w M => risTime_c _ _) (gR 4 rfl (g_if rfl (fun h4 => ?_) (fun h4 => ?_)))
      ·replace h4 := false_of_not h4
       exact gR 9 rfl (g_outR (gR 2 rfl (g_ret1 rfl rfl rfl fun w M => vl_F hV hlt_i hx0.symm (by (unfold src1;simp [*];done)) M.ext)))
      ·replace h4 := true_of_not h4
       exact gR 3 rfl (g_draw 17 64 rfl (by kernel_rfl) (fR 3 rfl (fd_know 48 rfl (dqF (by omega)) (fR 14 rfl (fd_done rfl rfl (gR 7 rfl (g_add rfl rfl (w_i64 (by omega) (by omega)) (gR 2 rfl (g_next (i + 1) ⟨by omega, vl_N hlt_i hx0.symm hv (by (unfold src1 finD inf;simp [*])) fun h => absurd h hi0⟩ (by dsimp only;omega) (fun a F => F.only [9, 8, 7, 0] rfl) (by (try dsimp only);repeat (first | exact .refl _ | with_reducible exact sC0 _ | with_reducible apply sC2 | apply sC1)))))))))))
 ·have hil : i = l.length := by omega
  rw [hil] at hv
  exact gR 6 rfl (g_ifF rfl (dqF (by omega)) (gR 2 rfl (g_outX (gR 8 rfl (g_ret1 rfl rfl rfl fun w M => vl_T hV (by omega) hv M.ext)))))
theorem refelem_c (e : InsV) (he : IsIn e) (W : World) : Cal Tryz.prog 200 [.agg (inC e).toArray].toArray W fun v w' => v = .bool (ins1 e) ∧ Ext [] W w' := by
 have hd : IsDv e.to := he.1
 refine g_start (n := 49) (S := []) fldT_ok slcT_ok Tryz.func200 rfl rfl rfl ?_
 unfold ins1
 by_cases k : e.own.met = 65535
 ·have hvv : validM e.own.met = true := by rw [k];rfl
  have hf : finD e.own = false := by unfold finD inf;simp [k]
  refine gR 2 rfl (g_box rfl rfl fun b1 => gR 7 rfl (g_ldA 0 rfl rfl (in_to ‹_›) ?_))
  refine g_call rfl rfl (fun w M => rvalidTo_c _ ‹_› _) ?_
  refine gR 2 rfl (g_split 7 rfl (fun h1 => ?_) (fun h1 => ?_))
  ·replace h1 := false_of_not h1
   refine gR 15 rfl (g_ret1 rfl rfl rfl fun w M => ?_)
   exact ⟨by simp [*];done, M.ext⟩
  ·replace h1 := true_of_not h1
   refine gR 1 rfl (g_ldA 0 rfl rfl (in_own ‹_›) ?_)
   refine g_call rfl rfl (fun w M => rdvalid_c _ _) (gR 4 rfl (g_ifF rfl (notF ‹_›) ?_))
   refine gR 6 rfl (g_ld1 0 rfl rfl (in_nb ‹_›) ?_)
   refine gR 3 rfl (g_if rfl (fun h2 => ?_) (fun h2 => ?_))
   ·replace h2 := ne_of_bne h2
    refine gR 4 rfl (g_ld1 0 rfl rfl (in_own_met ‹_›) ?_)
    refine gR 2 rfl (g_know 20 rfl (bneF (by omega)) (gR 19 rfl (g_ret1 rfl rfl rfl fun w M => ?_)))
    exact ⟨by simp [*];done, M.ext⟩
   ·replace h2 := eq_of_bne_false h2
    refine gR 6 rfl (g_ld1 0 rfl rfl (in_own_met ‹_›) ?_)
    refine gR 2 rfl (g_know 39 rfl (dqT (by omega)) (gR 1 rfl (g_ld1 0 rfl rfl (in_btn ‹_›) ?_)))
    refine gR 3 rfl (g_split 44 rfl (fun h3 => ?_) (fun h3 => ?_))
    ·replace h3 := dqU h3
     refine gR 1 rfl (g_ld1 0 rfl rfl (in_til ‹_›) ?_)
     refine g_call rfl rfl (fun w M => risTime_c _ _) (gR 5 rfl (g_ret1 rfl rfl rfl fun w M => ?_))
     exact ⟨by unfold inf;simp [*];done, M.ext⟩
    ·replace h3 := dqV h3
     refine gR 8 rfl (g_ret1 rfl rfl rfl fun w M => ?_)
     exact ⟨by simp [*];done, M.ext⟩
 ·have hf : finD e.own = validM e.own.met := by unfold finD inf;simp [k]
  refine gR 2 rfl (g_box rfl rfl fun b1 => gR 7 rfl (g_ldA 0 rfl rfl (in_to ‹_›) ?_))
  refine g_call rfl rfl (fun w M => rvalidTo_c _ ‹_› _) ?_
  refine gR 2 rfl (g_split 7 rfl (fun h1 => ?_) (fun h1 => ?_))
  ·replace h1 := false_of_not h1
   refine gR 15 rfl (g_ret1 rfl rfl rfl fun w M => ?_)
   exact ⟨by simp [*];done, M.ext⟩
  ·replace h1 := true_of_not h1
   refine gR 1 rfl (g_ldA 0 rfl rfl (in_own ‹_›) ?_)
   refine g_call rfl rfl (fun w M => rdvalid_c _ _) (gR 4 rfl (g_if rfl (fun h2 => ?_) (fun h2 => ?_)))
   ·replace h2 := false_of_not h2
    refine gR 7 rfl (g_ret1 rfl rfl rfl fun w M => ?_)
    exact ⟨by unfold inf;simp [*];done, M.ext⟩
   ·replace h2 := true_of_not h2
    refine gR 6 rfl (g_ld1 0 rfl rfl (in_nb ‹_›) ?_)
    refine gR 3 rfl (g_if rfl (fun h3 => ?_) (fun h3 => ?_))
    ·replace h3 := ne_of_bne h3
     refine gR 4 rfl (g_ld1 0 rfl rfl (in_own_met ‹_›) ?_)
     refine gR 2 rfl (g_know 20 rfl (bne_iff_ne.2 (by omega)) (gR 1 rfl (g_ld1 0 rfl rfl (in_btn ‹_›) ?_)))
     refine gR 2 rfl (g_split 24 rfl (fun h4 => ?_) (fun h4 => ?_))
     ·replace h4 := dqU h4
      refine gR 7 rfl (g_ld1 0 rfl rfl (in_til ‹_›) ?_)
      refine gR 7 rfl (g_ret1 rfl rfl rfl fun w M => ?_)
      exact ⟨by simp [*];rfl, M.ext⟩
     ·replace h4 := dqV h4
      refine gR 1 rfl (g_ld1 0 rfl rfl (in_btn ‹_›) ?_)
      refine g_call rfl rfl (fun w M => risTime_c _ _) (gR 3 rfl (g_split 30 rfl (fun h5 => ?_) (fun h5 => ?_)))
      ·refine gR 1 rfl (g_ld1 0 rfl rfl (in_til ‹_›) ?_)
       refine gR 7 rfl (g_ret1 rfl rfl rfl fun w M => ?_)
       exact ⟨by simp [*];rfl, M.ext⟩
      ·refine gR 9 rfl (g_ret1 rfl rfl rfl fun w M => ?_)
       exact ⟨by simp [*];done, M.ext⟩
    ·replace h3 := eq_of_bne_false h3
     refine gR 6 rfl (g_ld1 0 rfl rfl (in_own_met ‹_›) ?_)
     refine gR 2 rfl (g_know 39 rfl (dqF (by omega)) (gR 13 rfl (g_ret1 rfl rfl rfl fun w M => ?_)))
     exact ⟨by unfold inf;simp [*];done, M.ext⟩
theorem refvalidI_c (l : List InsV) (hx : ∀ x ∈ l, IsIn x) (v : Value) (W : World) (hS : SlAt W 40 v l.length (insC l)) :
  Cal Tryz.prog 115 [v].toArray W fun r w' => r = .bool (validIs l) ∧ Ext [] W w' := by
 obtain ⟨q, cap, rfl, _⟩ := id hS
 have hm := hS.memB [] (by simp)
 unfold validIs
 generalize hV : vldL 512 ins1 cmpN l = b0
 refine g_start (n := 38) (S := []) fldT_ok slcT_ok Tryz.func115 rfl rfl rfl ?_
 by_cases c0 : 512 < l.length
 ·refine gR 13 rfl ?_
  exact g_ifT rfl (dqT (by omega)) (gR 7 rfl (g_ret1 rfl rfl rfl fun w M => vl_L hV c0 M.ext))
 refine gR 13 rfl (g_ifF rfl (dqF (by omega)) (gR 11 rfl (g_loop (ι := Nat) ⟨fun (i : Nat) => l.length - i, fun (i : Nat) => i ≤ l.length ∧ (∀ j, j < i → vld1 ins1 cmpN l j = true), fun (i : Nat) => [(9, .int .i64 i), (8, .int .i64 l.length), (7, .slice q l.length cap), (0, .slice q l.length cap)], fun (i : Nat) => []⟩ 0 ⟨by omega, by omega⟩ (fun a F => F.only [9, 8, 7, 0] rfl) (by repeat (first | exact .refl _ | apply sC2 | apply sC1)) ?_)))
 rintro i ⟨hi_i, hv⟩
 by_cases hlt_i : i < l.length
 ·obtain ⟨b, o, cs, t', fz, rfl, hb, hs⟩ := hm (by omega)
  obtain ⟨x, hx0⟩ : ∃ x, x = l[i] := ⟨_, rfl⟩
  have hxm : x ∈ l := by rw [hx0];exact List.getElem_mem hlt_i
  have hxi : IsIn x := hx _ hxm
  have f1 : seg cs (o + (i : Int).toNat * 40) 40 = some (inC x) := by rw [hx0];exact seg_el (ins_len hx) hs hlt_i (by omega)
  replace hx0 := hx0.symm
  have xd : IsDv x.to := hxi.1
  by_cases hi0 : 0 < i
  ·obtain ⟨y, hy0⟩ : ∃ y, y = l[i - 1]'(by omega) := ⟨_, rfl⟩
   have yI : IsIn y := by rw [hy0];exact hx _ (List.getElem_mem _)
   have f2 : seg cs (o + ((i : Int) - 1).toNat * 40) 40 = some (inC y) := by rw [hy0];exact seg_el (ins_len hx) hs (show i - 1 < l.length by omega) (by omega)
   replace hy0 := hy0.symm
   have yd : IsDv y.to := yI.1
   refine gR 6 rfl (g_ifT rfl (dqT (by omega)) (gR 11 rfl (g_draw 25 38 rfl (by kernel_rfl) (fR 2 rfl (fd_ixS rfl rfl (by omega) (by omega) (fd_leA rfl ‹_› (by with_reducible assumption) ?_))))))
   refine fd_call rfl rfl (fun w M => refelem_c _ ‹_› _) ?_
   refine fR 2 rfl (fd_split 18 rfl (fun h1 => ?_) (fun h1 => ?_))
   ·replace h1 := false_of_not h1
    exact fR 18 rfl (fd_done rfl rfl (gR 11 rfl (g_outR (gR 2 rfl (g_ret1 rfl rfl rfl fun w M => vl_F hV hlt_i hx0.symm ‹_› M.ext)))))
   ·replace h1 := true_of_not h1
    refine fR 3 rfl (fd_know 21 rfl (dqT (by omega)) (fR 2 rfl (fd_sub rfl rfl (w_i64 (by omega) (by omega)) (fd_ixS rfl rfl (by omega) (by omega) (fR 1 rfl (fd_leA rfl ‹_› (sg_seg f2 (in_to ‹_›) (by omega)) ?_))))))
    refine fR 2 rfl (fd_ixS rfl rfl (by omega) (by omega) (fR 1 rfl (fd_leA rfl ‹_› (sg_seg f1 (in_to ‹_›) (by omega)) ?_)))
    refine fd_call rfl rfl (fun w M => rcompare_c _ _ ‹_› ‹_› _) ?_
    refine fR 3 rfl (fd_done rfl rfl (gR 2 rfl (g_if rfl (fun h2 => ?_) (fun h2 => ?_))))
    ·replace h2 := dqU h2
     exact gR 8 rfl (g_outR (gR 2 rfl (g_ret1 rfl rfl rfl fun w M => vl_S hV hlt_i hi0 hx0.symm hy0.symm (by unfold cmpN;omega) M.ext)))
    ·replace h2 := dqV h2
     refine gR 4 rfl (g_add rfl rfl (w_i64 (by omega) (by omega)) (gR 2 rfl ?_))
     exact g_next (i + 1) ⟨by omega, vl_N hlt_i hx0.symm hv ‹_› fun _ => by rw [hy0];exact (by unfold cmpN;omega)⟩ (by dsimp only;omega) (fun a F => F.only [9, 8, 7, 0] rfl) (by (try dsimp only);repeat (first | exact .refl _ | with_reducible exact sC0 _ | with_reducible apply sC2 | apply sC1))
  ·refine gR 6 rfl ?_
   refine g_ifT rfl (dqT (by omega)) (gR 11 rfl (g_draw 25 38 rfl (by kernel_rfl) (fR 2 rfl (fd_ixS rfl rfl (by omega) (by omega) (fd_leA rfl ‹_› (by with_reducible assumption) ?_)))))
   refine fd_call rfl rfl (fun w M => refelem_c _ ‹_› _) ?_
   refine fR 2 rfl (fd_split 18 rfl (fun h1 => ?_) (fun h1 => ?_))
   ·replace h1 := false_of_not h1
    exact fR 18 rfl (fd_done rfl rfl (gR 11 rfl (g_outR (gR 2 rfl (g_ret1 rfl rfl rfl fun w M => vl_F hV hlt_i hx0.symm ‹_› M.ext)))))
   ·replace h1 := true_of_not h1
    exact fR 3 rfl (fd_know 21 rfl (dqF (by omega)) (fR 15 rfl (fd_done rfl rfl (gR 7 rfl (g_add rfl rfl (w_i64 (by omega) (by omega)) (gR 2 rfl (g_next (i + 1) ⟨by omega, vl_N hlt_i hx0.symm hv ‹_› fun h => absurd h hi0⟩ (by dsimp only;omega) (fun a F => F.only [9, 8, 7, 0] rfl) (by (try dsimp only);repeat (first | exact .refl _ | with_reducible exact sC0 _ | with_reducible apply sC2 | apply sC1)))))))))
 ·have hil : i = l.length := by omega
  rw [hil] at hv
  exact gR 6 rfl (g_ifF rfl (dqF (by omega)) (gR 2 rfl (g_outX (gR 8 rfl (g_ret1 rfl rfl rfl fun w M => vl_T hV (by omega) hv M.ext)))))
end Go.Proofs.YtfhkmgcalcfibaaGreat
namespace Go.Proofs.YtfhkmgcalcfibaaGreat
open Go.RowKit
section
variable {c : Cx} {Q : Exit → Act → World → Prop} {ks : List KF} {fr : List (Nat × Value)} {l : Row} {d : Nat} {ty : TypeId} {pos : String} {af : Array Edge} {g : Option (Nat × Bool)} {aa : Array Oper} {rest : List Oper}
theorem g_mkF {fn : Fn} {xs ys : List Operand} {vs us : List Value} (h1 : evL fr xs = some vs) (h2 : evL fr ys = some us) (hk : G c Q ks (.ops aa rest) ((d, .func fn vs.toArray us.toArray) :: fr) l) (hd : Nat.blt d c.n = true := by rfl) (hg : gOk aa fr g = some true := by rfl) :
  G c Q ks (.ops aa (⟨some d, .makeFunc fn xs.toArray ys.toArray, ty, pos, af, g⟩ :: rest)) fr l := g_v (fun a w F M R r => o_makeFunc (F.evs h1) (F.evs h2) r) hk rfl hd hg
theorem g_callC0 {v : Value} {y : Operand} {fn : FuncId} {ys : List Operand} {ts : Array TypeId} {vs us : List Value} [hb : TBody c.P fn] (hx : Ev fr y = some (.func (.func fn) #[] us.toArray)) (ha : evL fr ys = some vs)
  (hc : ∀ w, Mem c.S c.W w l.flatten → Cal c.P fn (vs ++ us).toArray w fun u w' => u = v ∧ Ext [] w w')
  (hk : G c Q ks (.ops aa rest) ((d, v) :: fr) l) (hd : Nat.blt d c.n = true := by rfl) (hg : gOk aa fr g = some true := by rfl) : G c Q ks (.ops aa (⟨some d, .call ⟨.value y, ys.toArray, ts⟩, ty, pos, af, g⟩ :: rest)) fr l :=
 g_op rfl hd hg fun a w F M => o_callCl (us := (vs ++ us).toArray) (F.e hx) (F.evs ha) (by simp) (Cal.mono (hc w M) fun u w' h a' F' => by
  obtain ⟨rfl, E⟩ := h
  exact hk a' w' F' (M.later E))
end
attribute [local irreducible] OpTo wpListIn Code.wpIn MW Cal
structure RtV where
 self : Int
 seq : Int
 raised : Int
 quiet : Int
 hello : Int
 nextH : Int
 full : Int
 og : List OrgV
 aj : List AdjV
 sr : List SrcV
 ro : List RouV
 ins : List InsV
 rq : List ReqV
 av : List AdvV
structure RtX where
 og : Value
 aj : Value
 sr : Value
 ro : Value
 ins : Value
 rq : Value
 av : Value
def rtC (s : RtV) (x : RtX) : List Value := [.int .u64 s.self, .int .u16 s.seq, .int .i64 s.raised, .int .i64 s.quiet, .int .u16 s.hello, .int .i64 s.nextH, x.og, x.aj, x.sr, x.ro, x.ins, x.rq, x.av, .int .i64 s.full]
structure RtAt (W : World) (s : RtV) (x : RtX) : Prop where
 og : SlAt W 34 x.og s.og.length (ogsC s.og)
 aj : SlAt W 8 x.aj s.aj.length (ajsC s.aj)
 sr : SlAt W 38 x.sr s.sr.length (srsC s.sr)
 ro : SlAt W 39 x.ro s.ro.length (rosC s.ro)
 ins : SlAt W 40 x.ins s.ins.length (insC s.ins)
 rq : SlAt W 40 x.rq s.rq.length (rqsC s.rq)
 av : SlAt W 37 x.av s.av.length (avsC s.av)
structure IsRt (s : RtV) : Prop where
 og : ∀ x ∈ s.og, IsOg x
 aj : ∀ x ∈ s.aj, IsAj x
 sr : ∀ x ∈ s.sr, IsSr x
 ro : ∀ x ∈ s.ro, IsRo x
 ins : ∀ x ∈ s.ins, IsIn x
 rq : ∀ x ∈ s.rq, IsRq x
 av : ∀ x ∈ s.av, IsAv x
 q : ∀ x ∈ s.aj, BdQu x.q
theorem RtAt.later {W w : World} {s : RtV} {x : RtX} (h : RtAt W s x) (E : Ext [] W w) : RtAt w s x := ⟨h.og.later E, h.aj.later E, h.sr.later E, h.ro.later E, h.ins.later E, h.rq.later E, h.av.later E⟩
def rtValid (s : RtV) : Bool := !decide (s.self = 0) && isTime s.raised && isTime s.quiet && isTime s.nextH && validOgs s.self s.og && validAjs s.self s.aj && validSs s.sr && validRs s.ro && validIs s.ins && validRqs s.rq && (validAs s.av && isTime s.full) && !(s.ro.any fun x => decide (x.to.rt = s.self)) && !(s.ins.any fun x => decide (x.to.rt = s.self))
theorem hno_N {α : Type} {p : α → Bool} {l : List α} {i : Nat} (h : i < l.length) (hno : ∀ j (hj : j < i) (hj2 : j < l.length), p l[j] = false) (hp : p l[i] = false) : ∀ j (hj : j < i + 1) (hj2 : j < l.length), p l[j] = false := fun j hj hj2 => by
 rcases Nat.lt_or_ge j i with h1 | h1
 ·exact hno j h1 hj2
 ·obtain rfl : j = i := by omega
  exact hp
theorem findI_any {α : Type} (p : α → Bool) (l : List α) : decide (0 ≤ findI p l) = l.any p := by
 unfold findI
 cases h : l.findIdx? p with
 | none =>
  rw [List.findIdx?_eq_none_iff] at h
  rw [List.any_eq_false.2 (fun x hx => by rw [h x hx];simp)]
  rfl
 | some i =>
  obtain ⟨hi, h1, _⟩ := List.findIdx?_eq_some_iff_getElem.1 h
  rw [List.any_eq_true.2 ⟨l[i], List.getElem_mem hi, h1⟩]
  simp
theorem indexR2_c (l : List RouV) (hx : ∀ x ∈ l, IsRo x) (v : Value) (W : World) (hS : SlAt W 39 v l.length (rosC l)) (hlen : l.length ≤ 1000) (g : FuncId) [hg : TBody Tryz.prog g] (caps : List Value) (p : RouV → Bool)
  (hcl : ∀ w x, Ext [] W w → x ∈ l → Cal Tryz.prog g ([Value.agg (roC x).toArray] ++ caps).toArray w fun v w' => v = .bool (p x) ∧ Ext [] w w') :
  Cal Tryz.prog 197 [v, .func (.func g) #[] caps.toArray].toArray W fun x w' => x = .int .i64 (findI p l) ∧ Ext [] W w' := by
 obtain ⟨q, cap, rfl, _⟩ := id hS
 have hm := hS.memB [] (by simp)
 refine g_start (n := 19) (S := []) fldT_ok slcT_ok Tryz.func197 rfl rfl rfl (gR 14 rfl (g_loop (ι := Nat) ⟨fun (i : Nat) => l.length - i, fun (i : Nat) => i ≤ l.length ∧ (∀ j (hj : j < i) (hj2 : j < l.length), p l[j] = false), fun (i : Nat) => [(8, .int .i64 i), (7, .int .i64 l.length), (0, .slice q l.length cap), (1, .func (.func g) #[] caps.toArray)], fun (i : Nat) => []⟩ 0 ⟨by omega, by omega⟩ (fun a F => F.only [8, 7, 0, 1] rfl) (by repeat (first | exact .refl _ | apply sC2 | apply sC1)) ?_))
 rintro i ⟨hi_i, hno⟩
 by_cases hlt_i : i < l.length
 ·obtain ⟨b, o, cs, t', fz, rfl, hb, hs⟩ := hm (by omega)
  obtain ⟨x, hx0⟩ : ∃ x, x = l[i] := ⟨_, rfl⟩
  have hxm : x ∈ l := by rw [hx0];exact List.getElem_mem hlt_i
  have hxi : IsRo x := hx _ hxm
  have f1 : seg cs (o + (i : Int).toNat * 39) 39 = some (roC x) := by rw [hx0];exact seg_el (ros_len hx) hs hlt_i (by omega)
  have hx0s := hx0.symm
  refine gR 6 rfl (g_ifT rfl (dqT (by omega)) (gR 15 rfl (g_ixS rfl rfl (by omega) (by omega) (g_leA rfl ‹_› (by with_reducible assumption) ?_))))
  refine g_callC0 (v := .bool (p x)) rfl rfl (fun w M => hcl w x M.ext hxm) ?_
  cases hp : p x
  ·refine gR 7 rfl ?_
   exact g_add rfl rfl (w_i64 (by omega) (by omega)) (gR 2 rfl (g_next (i + 1) ⟨by omega, hno_N hlt_i hno (hx0s ▸ hp)⟩ (by dsimp only;omega) (fun a F => F.only [8, 7, 0, 1] rfl) (by (try dsimp only);repeat (first | exact .refl _ | with_reducible exact sC0 _ | with_reducible apply sC2 | apply sC1))))
  ·refine gR 12 rfl ?_
   exact g_outR (gR 2 rfl (g_ret1 rfl rfl rfl fun w M => ⟨by rw [findI_at hlt_i (hx0s ▸ hp) fun j hj => hno j hj (by omega)], M.ext⟩))
 ·obtain rfl : i = l.length := by omega
  exact gR 6 rfl (g_ifF rfl (dqF (by omega)) (gR 2 rfl (g_outX (gR 8 rfl (g_ret1 rfl rfl rfl fun w M => ⟨by rw [findI_none fun j hj => hno j hj hj], M.ext⟩)))))
theorem anyR_c (l : List RouV) (hx : ∀ x ∈ l, IsRo x) (v : Value) (W : World) (hS : SlAt W 39 v l.length (rosC l)) (hlen : l.length ≤ 1000) (g : FuncId) [hg : TBody Tryz.prog g] (caps : List Value) (p : RouV → Bool)
  (hcl : ∀ w x, Ext [] W w → x ∈ l → Cal Tryz.prog g ([Value.agg (roC x).toArray] ++ caps).toArray w fun v w' => v = .bool (p x) ∧ Ext [] w w') :
  Cal Tryz.prog 108 [v, .func (.func g) #[] caps.toArray].toArray W fun x w' => x = .bool (l.any p) ∧ Ext [] W w' := by
 exact g_start (n := 9) (S := []) fldT_ok slcT_ok Tryz.func108 rfl rfl rfl (gR 9 rfl (g_call (v := .int .i64 (findI p l)) rfl rfl (fun w M => indexR2_c l hx v w (hS.later M.ext) hlen g caps p fun w' x E hxl => hcl w' x (M.ext.trans E) hxl) (gR 5 rfl (g_ret1 rfl rfl rfl fun w M => ⟨congrArg Value.bool (findI_any p l), M.ext⟩))))
theorem indexI2_c (l : List InsV) (hx : ∀ x ∈ l, IsIn x) (v : Value) (W : World) (hS : SlAt W 40 v l.length (insC l)) (hlen : l.length ≤ 1000) (g : FuncId) [hg : TBody Tryz.prog g] (caps : List Value) (p : InsV → Bool)
  (hcl : ∀ w x, Ext [] W w → x ∈ l → Cal Tryz.prog g ([Value.agg (inC x).toArray] ++ caps).toArray w fun v w' => v = .bool (p x) ∧ Ext [] w w') :
  Cal Tryz.prog 198 [v, .func (.func g) #[] caps.toArray].toArray W fun x w' => x = .int .i64 (findI p l) ∧ Ext [] W w' := by
 obtain ⟨q, cap, rfl, _⟩ := id hS
 have hm := hS.memB [] (by simp)
 refine g_start (n := 19) (S := []) fldT_ok slcT_ok Tryz.func198 rfl rfl rfl (gR 14 rfl (g_loop (ι := Nat) ⟨fun (i : Nat) => l.length - i, fun (i : Nat) => i ≤ l.length ∧ (∀ j (hj : j < i) (hj2 : j < l.length), p l[j] = false), fun (i : Nat) => [(8, .int .i64 i), (7, .int .i64 l.length), (0, .slice q l.length cap), (1, .func (.func g) #[] caps.toArray)], fun (i : Nat) => []⟩ 0 ⟨by omega, by omega⟩ (fun a F => F.only [8, 7, 0, 1] rfl) (by repeat (first | exact .refl _ | apply sC2 | apply sC1)) ?_))
 rintro i ⟨hi_i, hno⟩
 by_cases hlt_i : i < l.length
 ·obtain ⟨b, o, cs, t', fz, rfl, hb, hs⟩ := hm (by omega)
  obtain ⟨x, hx0⟩ : ∃ x, x = l[i] := ⟨_, rfl⟩
  have hxm : x ∈ l := by rw [hx0];exact List.getElem_mem hlt_i
  have hxi : IsIn x := hx _ hxm
  have f1 : seg cs (o + (i : Int).toNat * 40) 40 = some (inC x) := by rw [hx0];exact seg_el (ins_len hx) hs hlt_i (by omega)
  have hx0s := hx0.symm
  refine gR 6 rfl (g_ifT rfl (dqT (by omega)) (gR 15 rfl (g_ixS rfl rfl (by omega) (by omega) (g_leA rfl ‹_› (by with_reducible assumption) ?_))))
  refine g_callC0 (v := .bool (p x)) rfl rfl (fun w M => hcl w x M.ext hxm) ?_
  cases hp : p x
  ·refine gR 7 rfl ?_
   exact g_add rfl rfl (w_i64 (by omega) (by omega)) (gR 2 rfl (g_next (i + 1) ⟨by omega, hno_N hlt_i hno (hx0s ▸ hp)⟩ (by dsimp only;omega) (fun a F => F.only [8, 7, 0, 1] rfl) (by (try dsimp only);repeat (first | exact .refl _ | with_reducible exact sC0 _ | with_reducible apply sC2 | apply sC1))))
  ·refine gR 12 rfl ?_
   exact g_outR (gR 2 rfl (g_ret1 rfl rfl rfl fun w M => ⟨by rw [findI_at hlt_i (hx0s ▸ hp) fun j hj => hno j hj (by omega)], M.ext⟩))
 ·obtain rfl : i = l.length := by omega
  exact gR 6 rfl (g_ifF rfl (dqF (by omega)) (gR 2 rfl (g_outX (gR 8 rfl (g_ret1 rfl rfl rfl fun w M => ⟨by rw [findI_none fun j hj => hno j hj hj], M.ext⟩)))))
theorem anyI_c (l : List InsV) (hx : ∀ x ∈ l, IsIn x) (v : Value) (W : World) (hS : SlAt W 40 v l.length (insC l)) (hlen : l.length ≤ 1000) (g : FuncId) [hg : TBody Tryz.prog g] (caps : List Value) (p : InsV → Bool)
  (hcl : ∀ w x, Ext [] W w → x ∈ l → Cal Tryz.prog g ([Value.agg (inC x).toArray] ++ caps).toArray w fun v w' => v = .bool (p x) ∧ Ext [] w w') :
  Cal Tryz.prog 110 [v, .func (.func g) #[] caps.toArray].toArray W fun x w' => x = .bool (l.any p) ∧ Ext [] W w' := by
 exact g_start (n := 9) (S := []) fldT_ok slcT_ok Tryz.func110 rfl rfl rfl (gR 9 rfl (g_call (v := .int .i64 (findI p l)) rfl rfl (fun w M => indexI2_c l hx v w (hS.later M.ext) hlen g caps p fun w' x E hxl => hcl w' x (M.ext.trans E) hxl) (gR 5 rfl (g_ret1 rfl rfl rfl fun w M => ⟨congrArg Value.bool (findI_any p l), M.ext⟩))))
end Go.Proofs.YtfhkmgcalcfibaaGreat
namespace Go.Proofs.YtfhkmgcalcfibaaGreat
open Go.ChangeShapes Go.WideShapes Go.ChangeAt Go.RowKit
theorem wfV_boolR {v : Value} (h : wfV .b v = true) : ∃ b, v = .bool b := by
 cases v <;> simp [wfV] at h ⊢
section
variable {H : Type} {enc : TypeId × Value → H} {w : World} {base : Nat} {sp : Nat → Bool} {held : Bool}
set_option maxRecDepth 100000 in
theorem dec_og (n : Nat) (cs : List Value) (y : DataW H × List MemPlace) (h : DataW.trod enc Tryz.prog w base sp held n 85 cs = some y) : ∃ x : OrgV, IsOg x ∧ cs = ogC x := by
 have hw := open_leaf 8 85 (List.replicate 16 (.i .u8) ++ (.i .i64 :: (List.replicate 16 (.i .u8) ++ [.i .i64]))) (by kernel_rfl) n cs y h (.inl (by kernel_rfl))
 obtain ⟨c0, c1, rfl, h1, h2⟩ := wfK_split hw
 obtain ⟨a1, rfl, hl1, hb1⟩ := ip_wf c0 16 h1
 obtain ⟨x1, c2, rfl, g1, h3⟩ := wfK_cons h2
 obtain ⟨c3, c4, rfl, h4, h5⟩ := wfK_split (ks := List.replicate 16 (LK.i .u8)) (ks' := [LK.i .i64]) h3
 obtain ⟨a2, rfl, hl2, hb2⟩ := ip_wf c3 16 h4
 obtain ⟨x2, c5, rfl, g2, h6⟩ := wfK_cons h5
 obtain rfl := wfK_nil h6
 obtain ⟨n1, rfl, _, _⟩ := wfV_int g1
 obtain ⟨n2, rfl, _, _⟩ := wfV_int g2
 exact ⟨⟨a1, n1, a2, n2⟩, ⟨⟨hl1, hb1⟩, ⟨hl2, hb2⟩⟩, by simp [ogC, pfC]⟩
set_option maxRecDepth 100000 in
theorem dec_aj (n : Nat) (cs : List Value) (y : DataW H × List MemPlace) (h : DataW.trod enc Tryz.prog w base sp held n 124 cs = some y) : ∃ x : AdjV, (IsAj x ∧ BdQu x.q) ∧ cs = ajC x := by
 have hw := open_leaf 8 124 [.i .u64, .b, .i .u8, .i .i64, .i .u16, .i .i64, .i .i64, .i .i64] (by kernel_rfl) n cs y h (.inl (by kernel_rfl))
 obtain ⟨y0, d0, rfl, k0, r0⟩ := wfK_cons hw
 obtain ⟨m0, rfl, p0, q0⟩ := wfV_int k0
 obtain ⟨y1, d1, rfl, k1, r1⟩ := wfK_cons r0
 obtain ⟨m1, rfl⟩ := wfV_boolR k1
 obtain ⟨y2, d2, rfl, k2, r2⟩ := wfK_cons r1
 obtain ⟨m2, rfl, p2, q2⟩ := wfV_int k2
 obtain ⟨y3, d3, rfl, k3, r3⟩ := wfK_cons r2
 obtain ⟨m3, rfl, p3, q3⟩ := wfV_int k3
 obtain ⟨y4, d4, rfl, k4, r4⟩ := wfK_cons r3
 obtain ⟨m4, rfl, p4, q4⟩ := wfV_int k4
 obtain ⟨y5, d5, rfl, k5, r5⟩ := wfK_cons r4
 obtain ⟨m5, rfl, p5, q5⟩ := wfV_int k5
 obtain ⟨y6, d6, rfl, k6, r6⟩ := wfK_cons r5
 obtain ⟨m6, rfl, p6, q6⟩ := wfV_int k6
 obtain ⟨y7, d7, rfl, k7, r7⟩ := wfK_cons r6
 obtain ⟨m7, rfl, p7, q7⟩ := wfV_int k7
 obtain rfl := wfK_nil r7
 simp only [loK, hiK] at p2 q2 p3 q3 p5 q5
 exact ⟨⟨m0, ⟨m1, m2, m3, m4, m5⟩, m6, m7⟩, ⟨trivial, ⟨⟨p2, by dsimp only;omega⟩, ⟨p3, q3⟩, ⟨p5, q5⟩⟩⟩, rfl⟩
set_option maxRecDepth 100000 in
theorem dec_rq (n : Nat) (cs : List Value) (y : DataW H × List MemPlace) (h : DataW.trod enc Tryz.prog w base sp held n 171 cs = some y) : ∃ x : ReqV, IsRq x ∧ cs = rqC x := by
 have hw := open_leaf 8 171 (List.replicate 16 (.i .u8) ++ (.i .i64 :: (List.replicate 16 (.i .u8) ++ [.i .i64, .i .u64, .i .u16, .i .i64, .i .u64, .i .i64, .i .i64]))) (by kernel_rfl) n cs y h (.inl (by kernel_rfl))
 obtain ⟨c0, c1, rfl, h1, h2⟩ := wfK_split hw
 obtain ⟨a1, rfl, hl1, hb1⟩ := ip_wf c0 16 h1
 obtain ⟨x1, c2, rfl, g1, h3⟩ := wfK_cons h2
 obtain ⟨c3, c4, rfl, h4, h5⟩ := wfK_split (ks := List.replicate 16 (LK.i .u8)) (ks' := [LK.i .i64, .i .u64, .i .u16, .i .i64, .i .u64, .i .i64, .i .i64]) h3
 obtain ⟨a2, rfl, hl2, hb2⟩ := ip_wf c3 16 h4
 obtain ⟨n1, rfl, _, _⟩ := wfV_int g1
 obtain ⟨y0, d0, rfl, k0, r0⟩ := wfK_cons h5
 obtain ⟨m0, rfl, _, _⟩ := wfV_int k0
 obtain ⟨y1, d1, rfl, k1, r1⟩ := wfK_cons r0
 obtain ⟨m1, rfl, _, _⟩ := wfV_int k1
 obtain ⟨y2, d2, rfl, k2, r2⟩ := wfK_cons r1
 obtain ⟨m2, rfl, _, _⟩ := wfV_int k2
 obtain ⟨y3, d3, rfl, k3, r3⟩ := wfK_cons r2
 obtain ⟨m3, rfl, _, _⟩ := wfV_int k3
 obtain ⟨y4, d4, rfl, k4, r4⟩ := wfK_cons r3
 obtain ⟨m4, rfl, _, _⟩ := wfV_int k4
 obtain ⟨y5, d5, rfl, k5, r5⟩ := wfK_cons r4
 obtain ⟨m5, rfl, _, _⟩ := wfV_int k5
 obtain ⟨y6, d6, rfl, k6, r6⟩ := wfK_cons r5
 obtain ⟨m6, rfl, _, _⟩ := wfV_int k6
 obtain rfl := wfK_nil r6
 exact ⟨⟨⟨a1, n1, a2, m0, m1⟩, m2, m3, m4, m5, m6⟩, ⟨⟨hl1, hb1⟩, ⟨hl2, hb2⟩⟩, by simp [rqC, dvC, pfC]⟩
set_option maxRecDepth 100000 in
theorem dec_rt (n : Nat) (cs : List Value) (y : DataW H × List MemPlace) (h : DataW.trod enc Tryz.prog w base sp held n 53 cs = some y) : ∃ (s : RtV) (x : RtX), IsRt s ∧ RtAt w s x ∧ cs = rtC s x := by
 obtain ⟨xs, m, rfl, _, hl, hn, hat⟩ := DataW.trod_struct Tryz.underlying53 h
 have hc : Tryz.prog.cellsOf 53 = 14 := by kernel_rfl
 rw [hc] at hl
 have hxl : xs.length = 13 := hn
 have a0 : DataW.trod enc Tryz.prog w base sp held m 41 ((cs.drop 0).take (Tryz.prog.cellsOf 41)) = xs[0]? := hat 0 _ rfl
 rw [List.getElem?_eq_getElem (by omega), show Tryz.prog.cellsOf 41 = 1 from by kernel_rfl] at a0
 obtain ⟨n0, e0, _, _⟩ := DataW.trod_int Tryz.underlying41 a0
 have a1 : DataW.trod enc Tryz.prog w base sp held m 42 ((cs.drop 1).take (Tryz.prog.cellsOf 42)) = xs[1]? := hat 1 _ rfl
 rw [List.getElem?_eq_getElem (by omega), show Tryz.prog.cellsOf 42 = 1 from by kernel_rfl] at a1
 obtain ⟨n1, e1, _, _⟩ := DataW.trod_int Tryz.underlying42 a1
 have a2 : DataW.trod enc Tryz.prog w base sp held m 3 ((cs.drop 2).take (Tryz.prog.cellsOf 3)) = xs[2]? := hat 2 _ rfl
 rw [List.getElem?_eq_getElem (by omega), show Tryz.prog.cellsOf 3 = 1 from by kernel_rfl] at a2
 obtain ⟨n2, e2, _, _⟩ := DataW.trod_int Tryz.underlying3 a2
 have a3 : DataW.trod enc Tryz.prog w base sp held m 3 ((cs.drop 3).take (Tryz.prog.cellsOf 3)) = xs[3]? := hat 3 _ rfl
 rw [List.getElem?_eq_getElem (by omega), show Tryz.prog.cellsOf 3 = 1 from by kernel_rfl] at a3
 obtain ⟨n3, e3, _, _⟩ := DataW.trod_int Tryz.underlying3 a3
 have a4 : DataW.trod enc Tryz.prog w base sp held m 42 ((cs.drop 4).take (Tryz.prog.cellsOf 42)) = xs[4]? := hat 4 _ rfl
 rw [List.getElem?_eq_getElem (by omega), show Tryz.prog.cellsOf 42 = 1 from by kernel_rfl] at a4
 obtain ⟨n4, e4, _, _⟩ := DataW.trod_int Tryz.underlying42 a4
 have a5 : DataW.trod enc Tryz.prog w base sp held m 3 ((cs.drop 5).take (Tryz.prog.cellsOf 3)) = xs[5]? := hat 5 _ rfl
 rw [List.getElem?_eq_getElem (by omega), show Tryz.prog.cellsOf 3 = 1 from by kernel_rfl] at a5
 obtain ⟨n5, e5, _, _⟩ := DataW.trod_int Tryz.underlying3 a5
 have a6 : DataW.trod enc Tryz.prog w base sp held m 43 ((cs.drop 6).take (Tryz.prog.cellsOf 43)) = xs[6]? := hat 6 _ rfl
 rw [List.getElem?_eq_getElem (by omega), show Tryz.prog.cellsOf 43 = 1 from by kernel_rfl] at a6
 obtain ⟨u6, l6, e6, i6, S6, _⟩ := open_slG (sz := 34) Tryz.underlying43 (by kernel_rfl) (by omega) dec_og a6
 have a7 : DataW.trod enc Tryz.prog w base sp held m 44 ((cs.drop 7).take (Tryz.prog.cellsOf 44)) = xs[7]? := hat 7 _ rfl
 rw [List.getElem?_eq_getElem (by omega), show Tryz.prog.cellsOf 44 = 1 from by kernel_rfl] at a7
 obtain ⟨u7, l7, e7, i7, S7, _⟩ := open_slG (sz := 8) Tryz.underlying44 (by kernel_rfl) (by omega) dec_aj a7
 have a8 : DataW.trod enc Tryz.prog w base sp held m 45 ((cs.drop 8).take (Tryz.prog.cellsOf 45)) = xs[8]? := hat 8 _ rfl
 rw [List.getElem?_eq_getElem (by omega), show Tryz.prog.cellsOf 45 = 1 from by kernel_rfl] at a8
 obtain ⟨u8, l8, e8, i8, S8, _⟩ := open_slG (sz := 38) Tryz.underlying45 (by kernel_rfl) (by omega) dec_sr a8
 have a9 : DataW.trod enc Tryz.prog w base sp held m 46 ((cs.drop 9).take (Tryz.prog.cellsOf 46)) = xs[9]? := hat 9 _ rfl
 rw [List.getElem?_eq_getElem (by omega), show Tryz.prog.cellsOf 46 = 1 from by kernel_rfl] at a9
 obtain ⟨u9, l9, e9, i9, S9, _⟩ := open_slG (sz := 39) Tryz.underlying46 (by kernel_rfl) (by omega) dec_ro a9
 have a10 : DataW.trod enc Tryz.prog w base sp held m 47 ((cs.drop 10).take (Tryz.prog.cellsOf 47)) = xs[10]? := hat 10 _ rfl
 rw [List.getElem?_eq_getElem (by omega), show Tryz.prog.cellsOf 47 = 1 from by kernel_rfl] at a10
 obtain ⟨u10, l10, e10, i10, S10, _⟩ := open_slG (sz := 40) Tryz.underlying47 (by kernel_rfl) (by omega) dec_in a10
 have a11 : DataW.trod enc Tryz.prog w base sp held m 48 ((cs.drop 11).take (Tryz.prog.cellsOf 48)) = xs[11]? := hat 11 _ rfl
 rw [List.getElem?_eq_getElem (by omega), show Tryz.prog.cellsOf 48 = 1 from by kernel_rfl] at a11
 obtain ⟨u11, l11, e11, i11, S11, _⟩ := open_slG (sz := 40) Tryz.underlying48 (by kernel_rfl) (by omega) dec_rq a11
 have a12 : DataW.trod enc Tryz.prog w base sp held m 51 ((cs.drop 12).take (Tryz.prog.cellsOf 51)) = xs[12]? := hat 12 _ rfl
 rw [List.getElem?_eq_getElem (by omega), show Tryz.prog.cellsOf 51 = 2 from by kernel_rfl] at a12
 obtain ⟨u12, l12, n12, i12, S12, e12⟩ := dec_plan _ _ _ a12
 refine ⟨⟨n0, n1, n2, n3, n4, n5, n12, l6, l7, l8, l9, l10, l11, l12⟩, ⟨u6, u7, u8, u9, u10, u11, u12⟩, ⟨i6, fun x hx => (i7 x hx).1, i8, i9, i10, i11, i12, fun x hx => (i7 x hx).2⟩, ⟨S6, S7, S8, S9, S10, S11, S12⟩, ?_⟩
 match cs, hl, e0, e1, e2, e3, e4, e5, e6, e7, e8, e9, e10, e11, e12 with
 | [c0, c1, c2, c3, c4, c5, c6, c7, c8, c9, c10, c11, c12, c13], _, e0, e1, e2, e3, e4, e5, e6, e7, e8, e9, e10, e11, e12 =>
  simp only [List.drop_zero, List.take_succ_cons, List.take_zero, List.drop_succ_cons, List.cons.injEq, and_true, plC] at e0 e1 e2 e3 e4 e5 e6 e7 e8 e9 e10 e11 e12
  obtain ⟨e12, e13⟩ := e12
  rw [e0, e1, e2, e3, e4, e5, e6, e7, e8, e9, e10, e11, e12, e13]
  rfl
end
section
variable {H : Type} {enc : TypeId × Value → H} {w : World} {r : Reach} {b0 base : Nat} {sp : Nat → Bool} {held : Bool} {v : Value} {d : DataW H} {p : List MemPlace}
set_option maxRecDepth 100000 in
theorem open_rt (hval : Value.okWide Tryz.prog w r b0 53 v) (h : DataW.Trod enc Tryz.prog w base sp held 53 v d p) : ∃ (s : RtV) (x : RtX), IsRt s ∧ RtAt w s x ∧ v = .agg (rtC s x).toArray := by
 obtain ⟨cs, rfl⟩ := agg_of (by kernel_rfl) hval
 obtain ⟨fuel, hf⟩ := h
 obtain ⟨s, x, h1, h2, h3⟩ := dec_rt fuel _ _ hf
 exact ⟨s, x, h1, h2, by rw [← h3];simp [Value.cells]⟩
end
end Go.Proofs.YtfhkmgcalcfibaaGreat
namespace Go.Proofs.YtfhkmgcalcfibaaGreat
open Go.RowKit
attribute [local irreducible] OpTo wpListIn Code.wpIn MW Cal
theorem rtF0 {s : RtV} (h : s.self = 0) : Value.bool false = .bool (rtValid s) := by unfold rtValid;simp [h]
theorem rtF1 {s : RtV} (h : isTime s.raised = false) : Value.bool false = .bool (rtValid s) := by unfold rtValid;simp [h]
theorem rtF2 {s : RtV} (h : isTime s.quiet = false) : Value.bool false = .bool (rtValid s) := by unfold rtValid;simp [h]
theorem rtF3 {s : RtV} (h : isTime s.nextH = false) : Value.bool false = .bool (rtValid s) := by unfold rtValid;simp [h]
theorem rtF4 {s : RtV} (h : validOgs s.self s.og = false) : Value.bool false = .bool (rtValid s) := by unfold rtValid;simp [h]
theorem rtF5 {s : RtV} (h : validAjs s.self s.aj = false) : Value.bool false = .bool (rtValid s) := by unfold rtValid;simp [h]
theorem rtF6 {s : RtV} (h : validSs s.sr = false) : Value.bool false = .bool (rtValid s) := by unfold rtValid;simp [h]
theorem rtF7 {s : RtV} (h : validRs s.ro = false) : Value.bool false = .bool (rtValid s) := by unfold rtValid;simp [h]
theorem rtF8 {s : RtV} (h : validIs s.ins = false) : Value.bool false = .bool (rtValid s) := by unfold rtValid;simp [h]
theorem rtF9 {s : RtV} (h : validRqs s.rq = false) : Value.bool false = .bool (rtValid s) := by unfold rtValid;simp [h]
theorem rtF10 {s : RtV} (h : (validAs s.av && isTime s.full) = false) : Value.bool false = .bool (rtValid s) := by unfold rtValid;simp [h]
theorem rtF11 {s : RtV} (h : (s.ro.any fun x => decide (x.to.rt = s.self)) = true) : Value.bool false = .bool (rtValid s) := by unfold rtValid;simp [h]
theorem rtF12 {s : RtV} (h : (s.ins.any fun x => decide (x.to.rt = s.self)) = true) : Value.bool false = .bool (rtValid s) := by unfold rtValid;simp [h]
theorem rtL {s : RtV} (h0 : ¬ s.self = 0) (h1 : isTime s.raised = true) (h2 : isTime s.quiet = true) (h3 : isTime s.nextH = true) (h4 : validOgs s.self s.og = true) (h5 : validAjs s.self s.aj = true) (h6 : validSs s.sr = true) (h7 : validRs s.ro = true) (h8 : validIs s.ins = true) (h9 : validRqs s.rq = true) (h10 : (validAs s.av && isTime s.full) = true) (h11 : (s.ro.any fun x => decide (x.to.rt = s.self)) = false) : Value.bool (!(s.ins.any fun x => decide (x.to.rt = s.self))) = .bool (rtValid s) := by
 unfold rtValid
 rw [dqF h0, h1, h2, h3, h4, h5, h6, h7, h8, h9, h10, h11]
 rfl
theorem validRs_len {l : List RouV} (h : validRs l = true) : l.length ≤ 1000 := by unfold validRs vldL at h;simp at h;omega
theorem validIs_len {l : List InsV} (h : validIs l = true) : l.length ≤ 1000 := by unfold validIs vldL at h;simp at h;omega
theorem vclR_c (s : RtV) (x : RtX) (b1 : Nat) (W : World) (hb : W.heap[b1]? = some (.cells (rtC s x).toArray 53 (0, 0))) (r : RouV) (hr : IsRo r) : Cal Tryz.prog 109 ([Value.agg (roC r).toArray] ++ [Value.pointer (some ⟨b1, 0, none⟩)]).toArray W fun v w' => v = .bool (decide (r.to.rt = s.self)) ∧ Ext [] W w' := by
 have hld : ∀ w', Ext [] W w' → w'.heap[b1]? = some (.cells (rtC s x).toArray 53 (0, 0)) := fun w' E => (E.block b1 (Array.getElem?_eq_some_iff.1 hb).1 (by simp)).trans hb
 have hf : nth (rtC s x) 0 = some (.int .u64 s.self) := rfl
 simp only [List.cons_append, List.nil_append]
 refine g_start (n := 10) (S := []) fldT_ok slcT_ok Tryz.func109 rfl rfl rfl (gR 2 rfl (g_box rfl rfl fun b2 => gR 7 rfl (g_ld1 0 rfl rfl (ro_to_rt ‹_›) ?_)))
 refine gR 1 rfl (g_le1 rfl ‹_› (by with_reducible assumption) ?_)
 exact gR 5 rfl (g_ret1 rfl rfl rfl fun w M => ⟨rfl, M.ext⟩)
theorem vclI_c (s : RtV) (x : RtX) (b1 : Nat) (W : World) (hb : W.heap[b1]? = some (.cells (rtC s x).toArray 53 (0, 0))) (r : InsV) (hr : IsIn r) : Cal Tryz.prog 111 ([Value.agg (inC r).toArray] ++ [Value.pointer (some ⟨b1, 0, none⟩)]).toArray W fun v w' => v = .bool (decide (r.to.rt = s.self)) ∧ Ext [] W w' := by
 have hld : ∀ w', Ext [] W w' → w'.heap[b1]? = some (.cells (rtC s x).toArray 53 (0, 0)) := fun w' E => (E.block b1 (Array.getElem?_eq_some_iff.1 hb).1 (by simp)).trans hb
 have hf : nth (rtC s x) 0 = some (.int .u64 s.self) := rfl
 simp only [List.cons_append, List.nil_append]
 refine g_start (n := 10) (S := []) fldT_ok slcT_ok Tryz.func111 rfl rfl rfl (gR 2 rfl (g_box rfl rfl fun b2 => gR 7 rfl (g_ld1 0 rfl rfl (in_to_rt ‹_›) ?_)))
 refine gR 1 rfl (g_le1 rfl ‹_› (by with_reducible assumption) ?_)
 exact gR 5 rfl (g_ret1 rfl rfl rfl fun w M => ⟨rfl, M.ext⟩)
theorem ext_keep {w w' : World} {b : Nat} {o : Obj} (E : Ext [] w w') (h : w.heap[b]? = some o) : w'.heap[b]? = some o := (E.block b (Array.getElem?_eq_some_iff.1 h).1 (by simp)).trans h
theorem rtvalidM_c (s : RtV) (x : RtX) (hs : IsRt s) (W : World) (h : RtAt W s x) : Cal Tryz.prog 34 [.agg (rtC s x).toArray].toArray W fun r w' => r = .bool (rtValid s) ∧ Ext [] W w' := by
 obtain ⟨v6, v7, v8, v9, v10, v11, v12⟩ := x
 obtain ⟨a6, a7, a8, a9, a10, a11, a12⟩ := h
 dsimp only at a6 a7 a8 a9 a10 a11 a12
 obtain ⟨q6, c6, rfl, _⟩ := id a6
 obtain ⟨q7, c7, rfl, _⟩ := id a7
 obtain ⟨q8, c8, rfl, _⟩ := id a8
 obtain ⟨q9, c9, rfl, _⟩ := id a9
 obtain ⟨q10, c10, rfl, _⟩ := id a10
 obtain ⟨q11, c11, rfl, _⟩ := id a11
 obtain ⟨q12, c12, rfl, _⟩ := id a12
 obtain ⟨i6, i7, i8, i9, i10, i11, i12, iq⟩ := hs
 refine g_start (n := 80) (S := []) fldT_ok slcT_ok Tryz.func34 rfl rfl rfl (gR 2 rfl (g_box rfl rfl fun b1 => gR 7 rfl (g_ld1 0 rfl rfl rfl (gR 2 rfl (g_split 6 rfl (fun h1 => ?_) (fun h1 => ?_))))))
 ·replace h1 := dqU h1
  exact gR 43 rfl (g_ret1 rfl rfl rfl fun w M => ⟨rtF0 ‹_›, M.ext⟩)
 replace h1 := dqV h1
 refine gR 1 rfl (g_ld1 0 rfl rfl rfl (g_call rfl rfl (fun w M => oisTime_c _ _) (gR 3 rfl (g_split 12 rfl (fun h2 => ?_) (fun h2 => ?_)))))
 ·replace h2 := false_of_not h2
  exact gR 37 rfl (g_ret1 rfl rfl rfl fun w M => ⟨rtF1 ‹_›, M.ext⟩)
 replace h2 := true_of_not h2
 refine gR 1 rfl (g_ld1 0 rfl rfl rfl (g_call rfl rfl (fun w M => oisTime_c _ _) (gR 3 rfl (g_split 18 rfl (fun h3 => ?_) (fun h3 => ?_)))))
 ·replace h3 := false_of_not h3
  exact gR 31 rfl (g_ret1 rfl rfl rfl fun w M => ⟨rtF2 ‹_›, M.ext⟩)
 replace h3 := true_of_not h3
 refine gR 1 rfl (g_ld1 0 rfl rfl rfl (g_call rfl rfl (fun w M => oisTime_c _ _) (gR 3 rfl (g_split 24 rfl (fun h4 => ?_) (fun h4 => ?_)))))
 ·replace h4 := false_of_not h4
  exact gR 25 rfl (g_ret1 rfl rfl rfl fun w M => ⟨rtF3 ‹_›, M.ext⟩)
 replace h4 := true_of_not h4
 refine gR 1 rfl (g_ld1 0 rfl rfl rfl (gR 1 rfl (g_ld1 0 rfl rfl rfl (g_call rfl rfl (fun w M => validOgs_c _ _ ‹_› _ _ ((by assumption : SlAt _ _ _ _ _).later M.ext)) ?_))))
 refine gR 3 rfl (g_split 32 rfl (fun h5 => ?_) (fun h5 => ?_))
 ·replace h5 := false_of_not h5
  exact gR 17 rfl (g_ret1 rfl rfl rfl fun w M => ⟨rtF4 ‹_›, M.ext⟩)
 replace h5 := true_of_not h5
 refine gR 1 rfl (g_ld1 0 rfl rfl rfl (gR 1 rfl (g_ld1 0 rfl rfl rfl (g_call rfl rfl (fun w M => validAjs_c _ _ ‹_› ‹_› _ _ ((by assumption : SlAt _ _ _ _ _).later M.ext)) ?_))))
 refine gR 4 rfl (g_if rfl (fun h6 => ?_) (fun h6 => ?_))
 ·replace h6 := false_of_not h6
  exact gR 7 rfl (g_ret1 rfl rfl rfl fun w M => ⟨rtF5 ‹_›, M.ext⟩)
 replace h6 := true_of_not h6
 refine gR 6 rfl (g_ld1 0 rfl rfl rfl (g_call rfl rfl (fun w M => scvalid_c _ ‹_› _ _ ((by assumption : SlAt _ _ _ _ _).later M.ext)) ?_))
 refine gR 2 rfl (g_split 44 rfl (fun h7 => ?_) (fun h7 => ?_))
 ·replace h7 := false_of_not h7
  exact gR 33 rfl (g_ret1 rfl rfl rfl fun w M => ⟨rtF6 ‹_›, M.ext⟩)
 replace h7 := true_of_not h7
 refine gR 1 rfl (g_ld1 0 rfl rfl rfl (g_call rfl rfl (fun w M => rtvalid_c _ ‹_› _ _ ((by assumption : SlAt _ _ _ _ _).later M.ext)) ?_))
 refine gR 3 rfl (g_split 50 rfl (fun h8 => ?_) (fun h8 => ?_))
 ·replace h8 := false_of_not h8
  exact gR 27 rfl (g_ret1 rfl rfl rfl fun w M => ⟨rtF7 ‹_›, M.ext⟩)
 replace h8 := true_of_not h8
 refine gR 1 rfl (g_ld1 0 rfl rfl rfl (g_call rfl rfl (fun w M => rtvalidI_c _ ‹_› _ _ ((by assumption : SlAt _ _ _ _ _).later M.ext)) ?_))
 refine gR 3 rfl (g_split 56 rfl (fun h9 => ?_) (fun h9 => ?_))
 ·replace h9 := false_of_not h9
  exact gR 21 rfl (g_ret1 rfl rfl rfl fun w M => ⟨rtF8 ‹_›, M.ext⟩)
 replace h9 := true_of_not h9
 refine gR 1 rfl (g_ld1 0 rfl rfl rfl (g_call rfl rfl (fun w M => rqvalidQ_c _ ‹_› _ _ ((by assumption : SlAt _ _ _ _ _).later M.ext)) ?_))
 refine gR 3 rfl (g_split 62 rfl (fun h10 => ?_) (fun h10 => ?_))
 ·replace h10 := false_of_not h10
  exact gR 15 rfl (g_ret1 rfl rfl rfl fun w M => ⟨rtF9 ‹_›, M.ext⟩)
 replace h10 := true_of_not h10
 refine gR 1 rfl (g_ldA 0 rfl rfl rfl ?_)
 refine g_call rfl rfl (fun w M => uvalid_c _ ‹_› _ _ _ ((by assumption : SlAt _ _ _ _ _).later M.ext)) ?_
 refine gR 4 rfl (g_if rfl (fun h11 => ?_) (fun h11 => ?_))
 ·replace h11 := false_of_not h11
  exact gR 7 rfl (g_ret1 rfl rfl rfl fun w M => ⟨rtF10 ‹_›, M.ext⟩)
 replace h11 := true_of_not h11
 refine gR 5 rfl (g_ld1 0 rfl rfl rfl (g_mkF (us := [Value.pointer (some ⟨b1, 0, none⟩)]) rfl rfl (g_call (v := .bool (s.ro.any fun x => decide (x.to.rt = s.self))) rfl rfl (fun w M => anyR_c s.ro i9 _ w (a9.later M.ext) (validRs_len h8) _ _ _ fun w' x E hx => vclR_c s _ b1 w' (ext_keep E (M.at_ _ (nthO_mem (i := 0) rfl))) x (i9 x hx)) ?_)))
 cases hro : s.ro.any fun x => decide (x.to.rt = s.self)
 ·refine gR 3 rfl ?_
  exact g_ld1 0 rfl rfl rfl (g_mkF (us := [Value.pointer (some ⟨b1, 0, none⟩)]) rfl rfl (g_call (v := .bool (s.ins.any fun x => decide (x.to.rt = s.self))) rfl rfl (fun w M => anyI_c s.ins i10 _ w (a10.later M.ext) (validIs_len h9) _ _ _ fun w' x E hx => vclI_c s _ b1 w' (ext_keep E (M.at_ _ (nthO_mem (i := 0) rfl))) x (i10 x hx)) (gR 6 rfl (g_ret1 rfl rfl rfl fun w M => ⟨rtL h1 h2 h3 h4 h5 h6 h7 h8 h9 h10 h11 hro, M.ext⟩))))
 ·refine gR 12 rfl ?_
  exact g_ret1 rfl rfl rfl fun w M => ⟨rtF11 hro, M.ext⟩
end Go.Proofs.YtfhkmgcalcfibaaGreat

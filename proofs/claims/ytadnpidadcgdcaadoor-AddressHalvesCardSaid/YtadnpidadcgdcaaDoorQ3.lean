/-
  address.Common.
-/
import Derived.Test.YtadnpidadcgdcaaDoorQ2
namespace Go.Proofs.YtadnpidadcgdcaaDoor
set_option linter.unusedVariables false
set_option linter.unusedSimpArgs false
open Go.RowKit
attribute [local irreducible] OpTo wpListIn Code.wpIn MW Cal

theorem lz8_c (x : Int) (W : World) (h0 : 0 ≤ x) (h1 : x ≤ 255) : Cal Tryd.prog 64 [.int .u8 x].toArray W fun v w' => v = .int .i64 (8 - (Lib.bitLen x.toNat : Int)) ∧ Ext [] W w' :=
  Cal.of_calls (Tryd.bits_LeadingZeros8 x W h0 h1) fun e w' ⟨he, hw⟩ => ⟨_, he, rfl, by rw [hw]; exact Ext.refl _ _⟩
def xorAt (a b : List Int) (i : Nat) : Int := bitsOf .xor .u8 (a.getD i 0) (b.getD i 0)
/-- the k last bytes -/
def commonFrom (a b : List Int) : Nat → Int
  | 0 => 128
  | k + 1 => if xorAt a b (15 - k) ≠ 0 then 8 * ((15 - k : Nat) : Int) + (8 - (Lib.bitLen (xorAt a b (15 - k)).toNat : Int)) else commonFrom a b k
def commonI (a b : List Int) : Int := commonFrom a b 16
theorem xor_bd {a b : List Int} (ha : IsIP a) (hb : IsIP b) (i : Nat) : 0 ≤ xorAt a b i ∧ xorAt a b i ≤ 255 := by
  have h1 := ha.at_ i
  have h2 := hb.at_ i
  unfold xorAt
  obtain ⟨m, hm⟩ := Int.eq_ofNat_of_zero_le h1.1
  obtain ⟨n, hn⟩ := Int.eq_ofNat_of_zero_le h2.1
  rw [hm, hn, bits_xor (k := .u8) rfl (show m < 256 by omega) (show n < 256 by omega)]
  have : m ^^^ n < 2 ^ 8 := Nat.xor_lt_two_pow (show m < 2 ^ 8 by omega) (show n < 2 ^ 8 by omega)
  omega
theorem bitLen_le8 {x : Int} (h0 : 0 ≤ x) (h1 : x ≤ 255) : 0 ≤ 8 - (Lib.bitLen x.toNat : Int) ∧ 8 - (Lib.bitLen x.toNat : Int) ≤ 8 := by
  have := Lib.bitLen_le8 ⟨x.toNat, by omega⟩
  dsimp only at this
  omega

set_option maxHeartbeats 2000000 in
theorem common_c (p q : List Int) (hp : IsIP p) (hq : IsIP q) (W : World) : Cal Tryd.prog 22 [.agg (ipC p).toArray, .agg (ipC q).toArray].toArray W fun v w' => v = .int .i64 (commonI p q) ∧ Ext [] W w' := by
  refine fn_ofM (n := 25) [] Tryd.func22 rfl rfl rfl ?_
  intro a w F M hwW
  refine c_seq ?_
  refine c_region ?_
  (refine stepD rfl F rfl (o_box M (F.ev rfl) rfl ?_); clear F; clear M; intro b1 w M a F)
  (refine stepD rfl F rfl (o_box M (F.ev rfl) rfl ?_); clear F; clear M; intro b2 w M a F)
  refine stepD rfl F rfl (o_assign (F.ev rfl) ?_); clear F; clear a; intro a F
  with_reducible refine l_nil ?_
  with_reducible refine q_then ?_
  with_reducible refine c_seq ?_
  with_reducible refine c_seq ?_
  with_reducible refine c_region ?_
  refine stepD rfl F rfl (o_move (F.ev rfl) ?_); clear F; clear a; intro a F
  with_reducible refine l_nil ?_
  with_reducible refine q_then ?_
  with_reducible refine c_block ?_
  refine c_loop (fun k a w => ∃ i : Nat, k = 16 - i ∧ i ≤ 16 ∧ commonI p q = commonFrom p q (16 - i) ∧ Frm a 25 [] [(7, .int .i64 i), (2, .pointer (some ⟨b1, 0, none⟩)), (3, .pointer (some ⟨b2, 0, none⟩))] ∧ Mem [] W w [(b2, .cells (ipC q).toArray 23 (0, 0)), (b1, .cells (ipC p).toArray 23 (0, 0))]) 16 ⟨0, rfl, by omega, rfl, F.only [7, 2, 3] rfl, M⟩ ?_
  clear F M
  rintro k a w ⟨i, hk, hi, hc, F, M⟩
  by_cases hlt : i < 16
  · have n1 := nth_ip (a := p) (i := i) (by rw [hp.len]; exact hlt)
    have n2 := nth_ip (a := q) (i := i) (by rw [hq.len]; exact hlt)
    have hstep : commonFrom p q (16 - i) = if xorAt p q i ≠ 0 then 8 * (i : Int) + (8 - (Lib.bitLen (xorAt p q i).toNat : Int)) else commonFrom p q (16 - (i + 1)) := by
      obtain ⟨k, hk⟩ : ∃ k, 16 - i = k + 1 := ⟨15 - i, by omega⟩
      rw [hk, commonFrom, show 15 - k = i by omega, show 16 - (i + 1) = k by omega]
    have hxb := xor_bd hp hq i
    with_reducible refine c_seq ?_
    with_reducible refine c_region ?_
    refine stepD rfl F rfl (o_lssT (F.ev rfl) (F.ev rfl) (by omega) ?_); clear F; clear a; intro a F
    with_reducible refine l_nil ?_
    with_reducible refine q_then ?_
    with_reducible refine c_seq ?_
    refine c_true F rfl rfl ?_
    with_reducible refine c_skip ?_
    with_reducible refine q_then ?_
    with_reducible refine c_seq ?_
    with_reducible refine c_block ?_
    with_reducible refine c_seq ?_
    with_reducible refine c_region ?_
    refine stepD rfl F rfl (o_move (F.ev rfl) ?_); clear F; clear a; intro a F
    refine stepD rfl F rfl (o_assign (F.ev rfl) ?_); clear F; clear a; intro a F
    with_reducible refine l_nil ?_
    with_reducible refine q_then ?_
    with_reducible refine c_seq ?_
    refine c_draw 8 F (by kernel_rfl) ?_
    intro w1 hE hok
    have M1 := M.later hE
    refine mK hok rfl rfl (fun a' w' F' E' => o_move (F'.ev rfl) ⟨Ext.refl _ _, rfl⟩) ?_
    refine mK hok rfl rfl (fun a' w' F' E' => o_indexArr (F'.ev rfl) (F'.ev rfl) (by omega) (by omega) ⟨Ext.refl _ _, rfl⟩) ?_
    refine mK hok rfl rfl (fun a' w' F' E' => o_load1 (M1.later E') (F'.ev rfl) (by repeat (first | exact .here | apply Has.there)) (by first | assumption | rfl) ⟨Ext.refl _ _, rfl⟩) ?_
    refine mK hok rfl rfl (fun a' w' F' E' => o_move (F'.ev rfl) ⟨Ext.refl _ _, rfl⟩) ?_
    refine mK hok rfl rfl (fun a' w' F' E' => o_indexArr (F'.ev rfl) (F'.ev rfl) (by omega) (by omega) ⟨Ext.refl _ _, rfl⟩) ?_
    refine mK hok rfl rfl (fun a' w' F' E' => o_load1 (M1.later E') (F'.ev rfl) (by repeat (first | exact .here | apply Has.there)) (by first | assumption | rfl) ⟨Ext.refl _ _, rfl⟩) ?_
    refine mK hok rfl rfl (fun a' w' F' E' => o_xor (F'.ev rfl) (F'.ev rfl) rfl ⟨Ext.refl _ _, rfl⟩) ?_
    refine mK hok rfl rfl (fun a' w' F' E' => o_assign (F'.ev rfl) ⟨Ext.refl _ _, rfl⟩) ?_
    (refine mDone rfl rfl ?_; clear F; clear M; intro a w F hE2 hX hTT hDD hPP; have M := M1.later hE2; clear M1; clear hX; clear hE2; clear hok; clear hE; clear hTT; clear hDD; clear hPP; (try dsimp only at F))
    rw [show bitsOf BinOp.xor IntKind.u8 (p.getD i 0) (q.getD i 0) = xorAt p q i from rfl] at F
    generalize xorAt p q i = x at *
    have hbl := bitLen_le8 hxb.1 hxb.2
    by_cases hx : x = 0
    · rw [if_neg (by simp [hx])] at hstep
      with_reducible refine l_nil ?_
      with_reducible refine q_then ?_
      with_reducible refine c_seq ?_
      with_reducible refine c_region ?_
      refine stepD rfl F rfl (o_move (F.ev rfl) ?_); clear F; clear a; intro a F
      refine stepD rfl F rfl (o_neqF (F.ev rfl) (F.ev rfl) (by omega) ?_); clear F; clear a; intro a F
      with_reducible refine l_nil ?_
      with_reducible refine q_then ?_
      refine c_false F rfl rfl ?_
      with_reducible refine c_skip ?_
      with_reducible refine q_inB ?_
      with_reducible refine q_then ?_
      with_reducible refine c_region ?_
      refine stepD rfl F rfl (o_add (F.ev rfl) (F.ev rfl) (w_i64 (by omega) (by omega)) ?_); clear F; clear a; intro a F
      refine stepD rfl F rfl (o_move (F.ev rfl) ?_); clear F; clear a; intro a F
      with_reducible refine l_nil ?_
      with_reducible refine q_then ?_
      exact ⟨_, by omega, i + 1, rfl, by omega, by rw [hc, hstep], F.only [7, 2, 3] rfl, M⟩
    · rw [if_pos hx] at hstep
      with_reducible refine l_nil ?_
      with_reducible refine q_then ?_
      with_reducible refine c_seq ?_
      with_reducible refine c_region ?_
      refine stepD rfl F rfl (o_move (F.ev rfl) ?_); clear F; clear a; intro a F
      refine stepD rfl F rfl (o_neqT (F.ev rfl) (F.ev rfl) (by omega) ?_); clear F; clear a; intro a F
      with_reducible refine l_nil ?_
      with_reducible refine q_then ?_
      refine c_true F rfl rfl ?_
      with_reducible refine c_seq ?_
      with_reducible refine c_region ?_
      refine stepD rfl F rfl (o_move (F.ev rfl) ?_); clear F; clear a; intro a F
      refine stepD rfl F rfl (o_mul (F.ev rfl) (F.ev rfl) (w_i64 (by omega) (by omega)) ?_); clear F; clear a; intro a F
      refine stepD rfl F rfl (o_move (F.ev rfl) ?_); clear F; clear a; intro a F
      (refine stepD rfl F rfl (o_call (F.ev rfl) (F.evs rfl) (Cal.mono (lz8_c x _ hxb.1 hxb.2) ?_)); clear F; clear a; rintro _ w ⟨rfl, hE⟩ a F; replace M := M.later hE; clear hE)
      refine stepD rfl F rfl (o_add (F.ev rfl) (F.ev rfl) (w_i64 (by omega) (by omega)) ?_); clear F; clear a; intro a F
      refine stepD rfl F rfl (o_assign (F.ev rfl) ?_); clear F; clear a; intro a F
      with_reducible refine l_nil ?_
      with_reducible refine q_then ?_
      with_reducible refine c_ret ?_
      with_reducible refine q_inBR ?_
      with_reducible refine q_thenR ?_
      with_reducible refine q_thenR ?_
      with_reducible refine q_inBR ?_
      with_reducible refine q_thenR ?_
      refine p_ret F rfl (.cons (.tmp (F.ev rfl)) .nil) ?_
      exact ⟨by rw [hc, hstep]; rfl, M.ext⟩
  · obtain rfl : i = 16 := by omega
    rw [hc]
    with_reducible refine c_seq ?_
    with_reducible refine c_region ?_
    refine stepD rfl F rfl (o_lssF (F.ev rfl) (F.ev rfl) (by omega) ?_); clear F; clear a; intro a F
    with_reducible refine l_nil ?_
    with_reducible refine q_then ?_
    with_reducible refine c_seq ?_
    refine c_false F rfl rfl ?_
    with_reducible refine c_exit ?_
    with_reducible refine q_thenX ?_
    with_reducible refine q_thenX ?_
    with_reducible refine q_inBX ?_
    with_reducible refine q_then ?_
    with_reducible refine c_seq ?_
    with_reducible refine c_region ?_
    refine stepD rfl F rfl (o_assign (F.ev rfl) ?_); clear F; clear a; intro a F
    with_reducible refine l_nil ?_
    with_reducible refine q_then ?_
    with_reducible refine c_ret ?_
    refine p_ret F rfl (.cons (.tmp (F.ev rfl)) .nil) ?_
    exact ⟨rfl, M.ext⟩
end Go.Proofs.YtadnpidadcgdcaaDoor

import Derived.Test.YtadnpidadcgdcaaDoorTypes
namespace Go.Proofs.YtadnpidadcgdcaaDoor
set_option linter.unusedVariables false
set_option linter.unusedSimpArgs false
open Go.RowKit
attribute [local irreducible] OpTo wpListIn Code.wpIn MW Cal

def ipC (a : List Int) : List Value := a.map (Value.int .u8)
def clampB (b : Int) : Int := if 128 < (if b < 0 then 0 else b) then 128 else (if b < 0 then 0 else b)
def keepN (n i : Int) : Int := if 8 < (if n - 8 * i < 0 then 0 else n - 8 * i) then 8 else (if n - 8 * i < 0 then 0 else n - 8 * i)
/-- byte i of a, of which the first n bits of all stay -/
def maskAt (a : List Int) (n : Int) (i : Nat) : Int := bitsOf .andNot .u8 (a.getD i 0) (Int.fdiv 255 (2 ^ min (keepN n i).toNat 8))
def mrow (a : List Int) (n : Int) (i : Nat) : List Value := (List.range 16).map (fun j => if j < i then .int .u8 (maskAt a n j) else .int .u8 0) ++ [.int .i64 n]
theorem nth_ip {a : List Int} {i : Nat} (h : i < a.length) : nth (ipC a) (0 + (i : Int).toNat * 1) = some (.int .u8 (a.getD i 0)) := by
  rw [nth_spec]; simp [ipC, h]
theorem keepN_le (n i : Int) : 0 ≤ keepN n i := by unfold keepN; split <;> (try split) <;> omega
theorem put1 {xs : List Value} {off q : Nat} (v : Value) (h : off = q) (hq : q < xs.length) : put xs off [v] = some (xs.set q v) := by
  subst h
  rw [put_of _ _ _ (by simp; omega)]
  congr 1
  have := splice_set xs off v [] hq
  simp only [splice, List.length_nil, List.nil_append, Nat.add_zero, List.take_append_drop] at this
  exact this.symm
theorem put_mrow {a : List Int} {n : Int} {i : Nat} (h : i < 16) : put (mrow a n i) (0 + 0 + (i : Int).toNat * 1) [.int .u8 (maskAt a n i)] = some (mrow a n (i + 1)) := by
  rw [put1 (q := i) _ (by omega) (by simp [mrow]; omega)]
  congr 1
  unfold mrow
  rw [List.set_append_left _ _ (by simpa using h)]
  congr 1
  apply List.ext_getElem (by simp)
  intro j h1 h2
  simp only [List.getElem_set, List.getElem_map, List.getElem_range]
  split
  · subst_vars; simp
  · have : j < i ↔ j < i + 1 := by omega
    simp [this]

set_option maxHeartbeats 400000 in
theorem mask_c (a : List Int) (ha : a.length = 16) (bits : Int) (W : World) :
    Cal Tryd.prog 18 [.agg (ipC a).toArray, .int .i64 bits].toArray W fun v w' => v = .agg (mrow a (clampB bits) 16).toArray ∧ Ext [] W w' := by
  obtain ⟨ip, rfl⟩ : ∃ ip, ip = a := ⟨_, rfl⟩
  refine fn_ofM (n := 33) [] Tryd.func18 rfl rfl rfl ?_
  intro a w F M hwW
  refine c_seq ?_
  refine c_region ?_
  (refine stepD rfl F rfl (o_box M (F.ev rfl) rfl ?_); clear F; clear M; intro b1 w M a F)
  (refine stepD rfl F rfl (o_alloc M ?_); clear F; clear M; intro b2 w M a F)
  with_reducible refine l_nil ?_
  with_reducible refine q_then ?_
  with_reducible refine c_seq ?_
  with_reducible refine c_region ?_
  refine stepD rfl F rfl (o_move (F.ev rfl) ?_); clear F; clear a; intro a F
  refine stepD rfl F rfl (o_max (F.ev rfl) (F.ev rfl) ?_); clear F; clear a; intro a F
  refine stepD rfl F rfl (o_min (F.ev rfl) (F.ev rfl) ?_); clear F; clear a; intro a F
  refine stepD rfl F rfl (o_build F rfl rfl ?_); clear F; clear a; intro a F
  (refine stepD rfl F rfl (o_alloc M ?_); clear F; clear M; intro b3 w M a F)
  (refine stepN rfl F (o_storeA M (F.ev rfl) (F.ev rfl) (by rfl) (by rfl) (by repeat (first | exact .here | apply Has.there)) (by rfl) (by repeat (first | exact .here | apply Upd.there)) ?_); clear F; clear M; intro w M a F)
  with_reducible refine l_nil ?_
  with_reducible refine q_then ?_
  with_reducible refine c_seq ?_
  with_reducible refine c_seq ?_
  with_reducible refine c_region ?_
  refine stepD rfl F rfl (o_move (F.ev rfl) ?_); clear F; clear a; intro a F
  with_reducible refine l_nil ?_
  with_reducible refine q_then ?_
  with_reducible refine c_block ?_
  refine c_loop (fun k a w => ∃ i : Nat, k = 16 - i ∧ i ≤ 16 ∧ Frm a 33 [] [(12, .int .i64 i), (5, .pointer (some ⟨b3, 0, none⟩)), (4, .pointer (some ⟨b2, 0, none⟩)), (2, .pointer (some ⟨b1, 0, none⟩))] ∧ Mem [] W w [(b3, .cells (mrow ip (clampB bits) i).toArray 35 (0, 0)), (b2, .cells #[.int .u8 0, .int .u8 0, .int .u8 0, .int .u8 0, .int .u8 0, .int .u8 0, .int .u8 0, .int .u8 0, .int .u8 0, .int .u8 0, .int .u8 0, .int .u8 0, .int .u8 0, .int .u8 0, .int .u8 0, .int .u8 0, .int .i64 0] 35 (0, 0)), (b1, .cells (ipC ip).toArray 23 (0, 0))]) 16 ⟨0, rfl, by omega, F.only [12, 5, 4, 2] rfl, M⟩ ?_
  clear F M
  have hcb : 0 ≤ clampB bits ∧ clampB bits ≤ 128 := by unfold clampB; split <;> (try split) <;> omega
  rintro k a w ⟨i, hk, hi, F, M⟩
  with_reducible refine c_seq ?_
  with_reducible refine c_region ?_
  refine stepD rfl F rfl (o_lss (F.ev rfl) (F.ev rfl) ?_); clear F; clear a; intro a F
  with_reducible refine l_nil ?_
  with_reducible refine q_then ?_
  with_reducible refine c_seq ?_
  refine c_if F rfl (fun hc => ?_) (fun hc => ?_)
  · replace hc := of_decide_eq_true hc
    have hlt : i < 16 := by omega
    with_reducible refine c_skip ?_
    with_reducible refine q_then ?_
    with_reducible refine c_seq ?_
    with_reducible refine c_block ?_
    with_reducible refine c_seq ?_
    with_reducible refine c_region ?_
    refine stepD rfl F rfl (o_move (F.ev rfl) ?_); clear F; clear a; intro a F
    refine stepD rfl F rfl (o_assign (F.ev rfl) ?_); clear F; clear a; intro a F
    with_reducible refine l_nil ?_
    with_reducible refine q_then ?_
    with_reducible refine c_seq ?_
    with_reducible refine c_region ?_
    refine stepD rfl F rfl (o_fieldAddr (F.ev rfl) ?_); clear F; clear a; intro a F
    refine stepD rfl F rfl (o_load1 M (F.ev rfl) (by repeat (first | exact .here | apply Has.there)) (by first | assumption | rfl) ?_); clear F; clear a; intro a F
    refine stepD rfl F rfl (o_move (F.ev rfl) ?_); clear F; clear a; intro a F
    refine stepD rfl F rfl (o_mul (F.ev rfl) (F.ev rfl) (w_i64 (by omega) (by omega)) ?_); clear F; clear a; intro a F
    refine stepD rfl F rfl (o_sub (F.ev rfl) (F.ev rfl) (w_i64 (by omega) (by omega)) ?_); clear F; clear a; intro a F
    refine stepD rfl F rfl (o_max (F.ev rfl) (F.ev rfl) ?_); clear F; clear a; intro a F
    refine stepD rfl F rfl (o_min (F.ev rfl) (F.ev rfl) ?_); clear F; clear a; intro a F
    refine stepD rfl F rfl (o_assign (F.ev rfl) ?_); clear F; clear a; intro a F
    with_reducible refine l_nil ?_
    with_reducible refine q_then ?_
    replace F := F.only [6, 7, 12, 5, 4, 2] rfl
    refine c_draw 9 F (by kernel_rfl) ?_
    intro w1 hE hok
    have M1 := M.later hE
    refine mK hok rfl rfl (fun a' w' F' E' => o_move (F'.ev rfl) ⟨Ext.refl _ _, rfl⟩) ?_
    refine mK hok rfl rfl (fun a' w' F' E' => o_move (F'.ev rfl) ⟨Ext.refl _ _, rfl⟩) ?_
    refine mK hok rfl rfl (fun a' w' F' E' => o_indexArr (F'.ev rfl) (F'.ev rfl) (by omega) (by omega) ⟨Ext.refl _ _, rfl⟩) ?_
    (refine mK hok rfl rfl (fun a' w' F' E' => o_load1 (M1.later E') (F'.ev rfl) (by repeat (first | exact .here | apply Has.there)) (nth_ip (a := ip) (i := i) (by omega)) ⟨Ext.refl _ _, rfl⟩) ?_)
    refine mK hok rfl rfl (fun a' w' F' E' => o_move (F'.ev rfl) ⟨Ext.refl _ _, rfl⟩) ?_
    refine mK hok rfl rfl (fun a' w' F' E' => o_shr (F'.ev rfl) (F'.ev rfl) (by omega) rfl ⟨Ext.refl _ _, rfl⟩) ?_
    refine mK hok rfl rfl (fun a' w' F' E' => o_andNot (F'.ev rfl) (F'.ev rfl) rfl ⟨Ext.refl _ _, rfl⟩) ?_
    refine mK hok rfl rfl (fun a' w' F' E' => o_fieldAddr (F'.ev rfl) ⟨Ext.refl _ _, rfl⟩) ?_
    refine mK hok rfl rfl (fun a' w' F' E' => o_indexArr (F'.ev rfl) (F'.ev rfl) (by omega) (by omega) ⟨Ext.refl _ _, rfl⟩) ?_
    (refine mDone rfl rfl ?_; clear F; clear M; intro a w F hE2 hX hTT hDD hPP; have M := M1.later hE2; clear M1; clear hX; clear hE2; clear hok; clear hE; clear hTT; clear hDD; clear hPP; (try dsimp only at F))
    (refine stepN rfl F (o_store1 M (F.ev rfl) (F.ev rfl) rfl (by repeat (first | exact .here | apply Has.there)) (put_mrow hlt) (by repeat (first | exact .here | apply Upd.there)) ?_); clear F; clear M; intro w M a F)
    with_reducible refine l_nil ?_
    with_reducible refine q_inB ?_
    with_reducible refine q_then ?_
    with_reducible refine c_region ?_
    refine stepD rfl F rfl (o_add (F.ev rfl) (F.ev rfl) (w_i64 (by omega) (by omega)) ?_); clear F; clear a; intro a F
    refine stepD rfl F rfl (o_move (F.ev rfl) ?_); clear F; clear a; intro a F
    with_reducible refine l_nil ?_
    with_reducible refine q_then ?_
    exact ⟨_, by omega, i + 1, rfl, by omega, F.only [12, 5, 4, 2] rfl, M⟩
  · replace hc := of_decide_eq_false hc
    obtain rfl : i = 16 := by omega
    with_reducible refine c_exit ?_
    with_reducible refine q_thenX ?_
    with_reducible refine q_thenX ?_
    with_reducible refine q_inBX ?_
    with_reducible refine q_then ?_
    with_reducible refine c_seq ?_
    with_reducible refine c_region ?_
    refine stepD rfl F rfl (o_loadA M (F.ev rfl) (by repeat (first | exact .here | apply Has.there)) (by first | assumption | rfl) ?_); clear F; clear a; intro a F
    (refine stepN rfl F (o_storeA M (F.ev rfl) (F.ev rfl) (by rfl) (by rfl) (by repeat (first | exact .here | apply Has.there)) (by rfl) (by repeat (first | exact .here | apply Upd.there)) ?_); clear F; clear M; intro w M a F)
    with_reducible refine l_nil ?_
    with_reducible refine q_then ?_
    with_reducible refine c_ret ?_
    refine p_ret (F.only [4] rfl) rfl (.cons (.cell (F.ev rfl) (run_loadVar_agg TAgg.h (M.heap (.there .here)) rfl)) .nil) ⟨rfl, M.ext⟩
end Go.Proofs.YtadnpidadcgdcaaDoor

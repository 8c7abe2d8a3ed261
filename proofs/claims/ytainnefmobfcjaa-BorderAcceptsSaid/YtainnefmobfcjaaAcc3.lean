/-
  Texts joined: G1.
-/
import Derived.Test.YtainnefmobfcjaaAcc2
import Derived.Lib.BitFns
/-! G1 -/
/-
  Taken out of texts that were proved for another seat: XMask, XP4, XP6, XP7, XQ1, XQ2, XQ3, XQ4, XM0, XA1, XA2, XA3, XA4, XA5, XT1, XT2, XR1, XR2, XL1, XS0.
-/
namespace Go.Proofs.Ytainnefmobfcjaa
set_option linter.unusedVariables false
set_option linter.unusedSimpArgs false
open Go.RowKit
section
set_option linter.unusedVariables false
set_option linter.unusedSimpArgs false
open Go.RowKit
attribute [local irreducible] OpTo wpListIn Code.wpIn MW Cal
def ipC (a : List Int) : List Value := a.map (Value.int .u8)
def clampB (b : Int) : Int := if 128 < (if b < 0 then 0 else b) then 128 else (if b < 0 then 0 else b)
def keepN (n i : Int) : Int := if 8 < (if n - 8 * i < 0 then 0 else n - 8 * i) then 8 else (if n - 8 * i < 0 then 0 else n - 8 * i)
/-- byte i of a, of which the first n bits of all stay -/
def maskAt (a : List Int) (n : Int) (i : Nat) : Int := bitsOf .andNot .u8 (a.getD i 0) (Int.fdiv 255 (2 ^ min (keepN n i).toNat 8))
def mrow (a : List Int) (n : Int) (i : Nat) : List Value := (List.range 16).map (fun j => if j < i then .int .u8 (maskAt a n j) else .int .u8 0) ++ [.int .i64 n]
theorem nth_ip {a : List Int} {i : Nat} (h : i < a.length) : nth (ipC a) (0 + (i : Int).toNat * 1) = some (.int .u8 (a.getD i 0)) := by
  rw [nth_spec]; simp [ipC, h]
theorem put1 {xs : List Value} {off q : Nat} (v : Value) (h : off = q) (hq : q < xs.length) : put xs off [v] = some (xs.set q v) := by
  subst h
  rw [put_of _ _ _ (by simp; omega)]
  congr 1
  have := splice_set xs off v [] hq
  simp only [splice, List.length_nil, List.nil_append, Nat.add_zero, List.take_append_drop] at this
  exact this.symm
theorem put_mrow {a : List Int} {n : Int} {i : Nat} (h : i < 16) : put (mrow a n i) (0 + 0 + (i : Int).toNat * 1) [.int .u8 (maskAt a n i)] = some (mrow a n (i + 1)) := by
  rw [put1 (q := i) _ (by omega) (by simp [mrow]; omega)]
  congr 1
  unfold mrow
  rw [List.set_append_left _ _ (by simpa using h)]
  congr 1
  apply List.ext_getElem (by simp)
  intro j h1 h2
  simp only [List.getElem_set, List.getElem_map, List.getElem_range]
  split
  · subst_vars; simp
  · have : j < i ↔ j < i + 1 := by omega
    simp [this]
set_option maxHeartbeats 400000 in
theorem mask_c (a : List Int) (ha : a.length = 16) (bits : Int) (W : World) :
    Cal Try.prog 80 [.agg (ipC a).toArray, .int .i64 bits].toArray W fun v w' => v = .agg (mrow a (clampB bits) 16).toArray ∧ Ext [] W w' := by
  obtain ⟨ip, rfl⟩ : ∃ ip, ip = a := ⟨_, rfl⟩
  refine fn_ofM (n := 33) [] Try.func80 rfl rfl rfl ?_
  intro a w F M hwW
  refine c_seq ?_
  refine c_region ?_
  (refine stepD rfl F rfl (o_box M (F.ev rfl) rfl ?_); clear F; clear M; intro b1 w M a F)
  (refine stepD rfl F rfl (o_alloc M ?_); clear F; clear M; intro b2 w M a F)
  with_reducible refine l_nil ?_
  with_reducible refine q_then ?_
  with_reducible refine c_seq ?_
  with_reducible refine c_region ?_
  refine stepD rfl F rfl (o_move (F.ev rfl) ?_); clear F; clear a; intro a F
  refine stepD rfl F rfl (o_max (F.ev rfl) (F.ev rfl) ?_); clear F; clear a; intro a F
  refine stepD rfl F rfl (o_min (F.ev rfl) (F.ev rfl) ?_); clear F; clear a; intro a F
  refine stepD rfl F rfl (o_build F rfl rfl ?_); clear F; clear a; intro a F
  (refine stepD rfl F rfl (o_alloc M ?_); clear F; clear M; intro b3 w M a F)
  (refine stepN rfl F (o_storeA M (F.ev rfl) (F.ev rfl) (by rfl) (by rfl) (by repeat (first | exact .here | apply Has.there)) (by rfl) (by repeat (first | exact .here | apply Upd.there)) ?_); clear F; clear M; intro w M a F)
  with_reducible refine l_nil ?_
  with_reducible refine q_then ?_
  with_reducible refine c_seq ?_
  with_reducible refine c_seq ?_
  with_reducible refine c_region ?_
  refine stepD rfl F rfl (o_move (F.ev rfl) ?_); clear F; clear a; intro a F
  with_reducible refine l_nil ?_
  with_reducible refine q_then ?_
  with_reducible refine c_block ?_
  refine c_loop (fun k a w => ∃ i : Nat, k = 16 - i ∧ i ≤ 16 ∧ Frm a 33 [] [(12, .int .i64 i), (5, .pointer (some ⟨b3, 0, none⟩)), (4, .pointer (some ⟨b2, 0, none⟩)), (2, .pointer (some ⟨b1, 0, none⟩))] ∧ Mem [] W w [(b3, .cells (mrow ip (clampB bits) i).toArray 28 (0, 0)), (b2, .cells #[.int .u8 0, .int .u8 0, .int .u8 0, .int .u8 0, .int .u8 0, .int .u8 0, .int .u8 0, .int .u8 0, .int .u8 0, .int .u8 0, .int .u8 0, .int .u8 0, .int .u8 0, .int .u8 0, .int .u8 0, .int .u8 0, .int .i64 0] 28 (0, 0)), (b1, .cells (ipC ip).toArray 26 (0, 0))]) 16 ⟨0, rfl, by omega, F.only [12, 5, 4, 2] rfl, M⟩ ?_
  clear F M
  have hcb : 0 ≤ clampB bits ∧ clampB bits ≤ 128 := by unfold clampB; split <;> (try split) <;> omega
  rintro k a w ⟨i, hk, hi, F, M⟩
  with_reducible refine c_seq ?_
  with_reducible refine c_region ?_
  refine stepD rfl F rfl (o_lss (F.ev rfl) (F.ev rfl) ?_); clear F; clear a; intro a F
  with_reducible refine l_nil ?_
  with_reducible refine q_then ?_
  with_reducible refine c_seq ?_
  refine c_if F rfl (fun hc => ?_) (fun hc => ?_)
  · replace hc := of_decide_eq_true hc
    have hlt : i < 16 := by omega
    with_reducible refine c_skip ?_
    with_reducible refine q_then ?_
    with_reducible refine c_seq ?_
    with_reducible refine c_block ?_
    with_reducible refine c_seq ?_
    with_reducible refine c_region ?_
    refine stepD rfl F rfl (o_move (F.ev rfl) ?_); clear F; clear a; intro a F
    refine stepD rfl F rfl (o_assign (F.ev rfl) ?_); clear F; clear a; intro a F
    with_reducible refine l_nil ?_
    with_reducible refine q_then ?_
    with_reducible refine c_seq ?_
    with_reducible refine c_region ?_
    refine stepD rfl F rfl (o_fieldAddr (F.ev rfl) ?_); clear F; clear a; intro a F
    refine stepD rfl F rfl (o_load1 M (F.ev rfl) (by repeat (first | exact .here | apply Has.there)) (by first | assumption | rfl) ?_); clear F; clear a; intro a F
    refine stepD rfl F rfl (o_move (F.ev rfl) ?_); clear F; clear a; intro a F
    refine stepD rfl F rfl (o_mul (F.ev rfl) (F.ev rfl) (w_i64 (by omega) (by omega)) ?_); clear F; clear a; intro a F
    refine stepD rfl F rfl (o_sub (F.ev rfl) (F.ev rfl) (w_i64 (by omega) (by omega)) ?_); clear F; clear a; intro a F
    refine stepD rfl F rfl (o_max (F.ev rfl) (F.ev rfl) ?_); clear F; clear a; intro a F
    refine stepD rfl F rfl (o_min (F.ev rfl) (F.ev rfl) ?_); clear F; clear a; intro a F
    refine stepD rfl F rfl (o_assign (F.ev rfl) ?_); clear F; clear a; intro a F
    with_reducible refine l_nil ?_
    with_reducible refine q_then ?_
    replace F := F.only [6, 7, 12, 5, 4, 2] rfl
    refine c_draw 9 F (by kernel_rfl) ?_
    intro w1 hE hok
    have M1 := M.later hE
    refine mK hok rfl rfl (fun a' w' F' E' => o_move (F'.ev rfl) ⟨Ext.refl _ _, rfl⟩) ?_
    refine mK hok rfl rfl (fun a' w' F' E' => o_move (F'.ev rfl) ⟨Ext.refl _ _, rfl⟩) ?_
    refine mK hok rfl rfl (fun a' w' F' E' => o_indexArr (F'.ev rfl) (F'.ev rfl) (by omega) (by omega) ⟨Ext.refl _ _, rfl⟩) ?_
    (refine mK hok rfl rfl (fun a' w' F' E' => o_load1 (M1.later E') (F'.ev rfl) (by repeat (first | exact .here | apply Has.there)) (nth_ip (a := ip) (i := i) (by omega)) ⟨Ext.refl _ _, rfl⟩) ?_)
    refine mK hok rfl rfl (fun a' w' F' E' => o_move (F'.ev rfl) ⟨Ext.refl _ _, rfl⟩) ?_
    refine mK hok rfl rfl (fun a' w' F' E' => o_shr (F'.ev rfl) (F'.ev rfl) (by omega) rfl ⟨Ext.refl _ _, rfl⟩) ?_
    refine mK hok rfl rfl (fun a' w' F' E' => o_andNot (F'.ev rfl) (F'.ev rfl) rfl ⟨Ext.refl _ _, rfl⟩) ?_
    refine mK hok rfl rfl (fun a' w' F' E' => o_fieldAddr (F'.ev rfl) ⟨Ext.refl _ _, rfl⟩) ?_
    refine mK hok rfl rfl (fun a' w' F' E' => o_indexArr (F'.ev rfl) (F'.ev rfl) (by omega) (by omega) ⟨Ext.refl _ _, rfl⟩) ?_
    (refine mDone rfl rfl ?_; clear F; clear M; intro a w F hE2 hX hTT hDD hPP; have M := M1.later hE2; clear M1; clear hX; clear hE2; clear hok; clear hE; clear hTT; clear hDD; clear hPP; (try dsimp only at F))
    (refine stepN rfl F (o_store1 M (F.ev rfl) (F.ev rfl) rfl (by repeat (first | exact .here | apply Has.there)) (put_mrow hlt) (by repeat (first | exact .here | apply Upd.there)) ?_); clear F; clear M; intro w M a F)
    with_reducible refine l_nil ?_
    with_reducible refine q_inB ?_
    with_reducible refine q_then ?_
    with_reducible refine c_region ?_
    refine stepD rfl F rfl (o_add (F.ev rfl) (F.ev rfl) (w_i64 (by omega) (by omega)) ?_); clear F; clear a; intro a F
    refine stepD rfl F rfl (o_move (F.ev rfl) ?_); clear F; clear a; intro a F
    with_reducible refine l_nil ?_
    with_reducible refine q_then ?_
    exact ⟨_, by omega, i + 1, rfl, by omega, F.only [12, 5, 4, 2] rfl, M⟩
  · replace hc := of_decide_eq_false hc
    obtain rfl : i = 16 := by omega
    with_reducible refine c_exit ?_
    with_reducible refine q_thenX ?_
    with_reducible refine q_thenX ?_
    with_reducible refine q_inBX ?_
    with_reducible refine q_then ?_
    with_reducible refine c_seq ?_
    with_reducible refine c_region ?_
    refine stepD rfl F rfl (o_loadA M (F.ev rfl) (by repeat (first | exact .here | apply Has.there)) (by first | assumption | rfl) ?_); clear F; clear a; intro a F
    (refine stepN rfl F (o_storeA M (F.ev rfl) (F.ev rfl) (by rfl) (by rfl) (by repeat (first | exact .here | apply Has.there)) (by rfl) (by repeat (first | exact .here | apply Upd.there)) ?_); clear F; clear M; intro w M a F)
    with_reducible refine l_nil ?_
    with_reducible refine q_then ?_
    with_reducible refine c_ret ?_
    refine p_ret (F.only [4] rfl) rfl (.cons (.cell (F.ev rfl) (run_loadVar_agg TAgg.h (M.heap (.there .here)) rfl)) .nil) ⟨rfl, M.ext⟩
end

section
set_option linter.unusedVariables false
set_option linter.unusedSimpArgs false
open Go.RowKit
attribute [local irreducible] OpTo wpListIn Code.wpIn MW Cal
/-- the variable that strings.Index looks at holds some number -/
def GM (W : World) : Prop := ∃ m : Int, W.cell? ⟨0, 0, none⟩ = some (.int .i64 m)
theorem GM.later {W w : World} (h : GM W) (e : Ext [] W w) : GM w := by
  obtain ⟨m, hm⟩ := h
  have hlt : 0 < W.heap.size := by
    have := block_lt_of_cell hm
    simpa using this
  exact ⟨m, by rw [World.cell?_of_block (w := W) (e.block 0 hlt (by simp))]; exact hm⟩
theorem ipC_set (L : List Int) (i : Nat) (x : Int) : ipC (L.set i x) = (ipC L).set i (.int .u8 x) := by simp [ipC, List.map_set]
end

section
set_option linter.unusedVariables false
set_option linter.unusedSimpArgs false
open Go.RowKit
attribute [local irreducible] OpTo wpListIn Code.wpIn MW Cal
structure IsIP (ip : List Int) : Prop where
  len : ip.length = 16
  bd : ∀ x ∈ ip, 0 ≤ x ∧ x < 256
theorem IsIP.at_ {ip : List Int} (h : IsIP ip) (i : Nat) : 0 ≤ ip.getD i 0 ∧ ip.getD i 0 < 256 := by
  rcases Nat.lt_or_ge i ip.length with hl | hl
  · rw [List.getD_eq_getElem?_getD, List.getElem?_eq_getElem hl]; exact h.bd _ (List.getElem_mem hl)
  · rw [List.getD_eq_getElem?_getD, List.getElem?_eq_none hl]; simp
theorem nth_ip2 {ip : List Int} (h : IsIP ip) {i n : Nat} (hi : i < 16) (hn : n = i) : nth (ipC ip) n = some (.int .u8 (ip.getD i 0)) := by
  subst hn
  have := h.len
  rw [nth_spec]; simp [ipC, List.getElem?_eq_getElem (show n < ip.length by omega)]
end

section
set_option linter.unusedVariables false
set_option linter.unusedSimpArgs false
open Go.RowKit
attribute [local irreducible] OpTo wpListIn Code.wpIn MW Cal
/-- what the table of math/bits holds for 16 -/
def GT (W : World) : Prop := W.cell? ⟨5, 15, none⟩ = some (.int .u8 4)
theorem cell_later {W w : World} {a : Addr} {v : Value} (h : W.cell? a = some v) (e : Ext [] W w) : w.cell? a = some v := by
  have hlt := block_lt_of_cell h
  rw [World.cell?_of_block (w := W) (e.block a.block hlt (by simp))]; exact h
theorem GT.later {W w : World} (h : GT W) (e : Ext [] W w) : GT w := cell_later h e
end

section
set_option linter.unusedVariables false
set_option linter.unusedSimpArgs false
open Go.RowKit
attribute [local irreducible] OpTo wpListIn Code.wpIn MW Cal
theorem len16 {l : List Int} (h : l.length = 16) : ∃ x0 x1 x2 x3 x4 x5 x6 x7 x8 x9 x10 x11 x12 x13 x14 x15 : Int, l = [x0, x1, x2, x3, x4, x5, x6, x7, x8, x9, x10, x11, x12, x13, x14, x15] :=
  match l, h with
  | [x0, x1, x2, x3, x4, x5, x6, x7, x8, x9, x10, x11, x12, x13, x14, x15], _ => ⟨x0, x1, x2, x3, x4, x5, x6, x7, x8, x9, x10, x11, x12, x13, x14, x15, rfl⟩
def maskI (a : List Int) (n : Int) : List Int := (List.range 16).map (maskAt a n)
def pfC (a : List Int) (n : Int) : List Value := ipC a ++ [.int .i64 n]
def validP (a : List Int) (n : Int) : Bool := decide (0 ≤ n) && decide (n ≤ 128) && (maskI a n == a)
def containsP (p : List Int) (n : Int) (a : List Int) : Bool := validP p n && (maskI a n == p)
def coversP (p : List Int) (n : Int) (q : List Int) (m : Int) : Bool := validP q m && containsP p n q && decide (n ≤ m)
theorem maskI_len (a : List Int) (n : Int) : (maskI a n).length = 16 := by simp [maskI]
theorem mrow_pf (a : List Int) (n : Int) : mrow a n 16 = pfC (maskI a n) n := by
  unfold mrow pfC maskI ipC
  rw [List.map_map]
  congr 1
theorem eqVs_ip : ∀ a b : List Int, a.length = b.length → eqVs (ipC a) (ipC b) = (a == b)
  | [], [], _ => rfl
  | x :: a, y :: b, h => by
    have := eqVs_ip a b (by simpa using h)
    simp only [ipC] at this
    simp [ipC, eqVs, eqV, this]
theorem eqVs_pf {a b : List Int} {n m : Int} (h : a.length = b.length) : eqVs (pfC a n) (pfC b m) = (a == b && n == m) := by
  unfold pfC
  rw [eqVs_append _ _ _ _ (by simp [ipC, h]), eqVs_ip a b h]
  simp [eqVs, eqV]
/-- the remainder that is not negative -/
def modI (a n : Int) : Int := if a.tmod n < 0 then a.tmod n + n else a.tmod n
theorem mod_c (x n : Int) (hn : 0 < n) (hn2 : n ≤ 9223372036854775807) (W : World) : Cal Try.prog 11 [.int .i64 x, .int .i64 n].toArray W fun v w' => v = .int .i64 (modI x n) ∧ Ext [] W w' := by
  have hr := Int.tmod_lt_of_pos x hn
  have hr2 : -n < x.tmod n := by have := Int.tmod_lt_of_pos (-x) hn; rw [Int.neg_tmod] at this; omega
  unfold modI
  refine fn_ofM (n := 14) [] Try.func11 rfl rfl rfl ?_
  intro a w F M hwW
  with_reducible refine c_seq ?_
  with_reducible refine c_region ?_
  refine stepD rfl F rfl (o_assign (F.ev rfl) ?_); clear F; clear a; intro a F
  with_reducible refine l_nil ?_
  with_reducible refine q_then ?_
  with_reducible refine c_seq ?_
  with_reducible refine c_region ?_
  refine stepD rfl F rfl (o_move (F.ev rfl) ?_); clear F; clear a; intro a F
  refine stepD rfl F rfl (o_move (F.ev rfl) ?_); clear F; clear a; intro a F
  refine stepD rfl F rfl (o_rem (F.ev rfl) (F.ev rfl) (by omega) rfl ?_); clear F; clear a; intro a F
  refine stepD rfl F rfl (o_assign (F.ev rfl) ?_); clear F; clear a; intro a F
  with_reducible refine l_nil ?_
  with_reducible refine q_then ?_
  with_reducible refine c_seq ?_
  with_reducible refine c_seq ?_
  with_reducible refine c_region ?_
  refine stepD rfl F rfl (o_move (F.ev rfl) ?_); clear F; clear a; intro a F
  refine stepD rfl F rfl (o_lss (F.ev rfl) (F.ev rfl) ?_); clear F; clear a; intro a F
  with_reducible refine l_nil ?_
  with_reducible refine q_then ?_
  generalize x.tmod n = r at *
  refine c_if F rfl (fun hc => ?_) (fun hc => ?_)
  · replace hc := of_decide_eq_true hc
    rw [if_pos hc]
    with_reducible refine c_region ?_
    refine stepD rfl F rfl (o_move (F.ev rfl) ?_); clear F; clear a; intro a F
    refine stepD rfl F rfl (o_move (F.ev rfl) ?_); clear F; clear a; intro a F
    refine stepD rfl F rfl (o_add (F.ev rfl) (F.ev rfl) (w_i64 (by omega) (by omega)) ?_); clear F; clear a; intro a F
    refine stepD rfl F rfl (o_assign (F.ev rfl) ?_); clear F; clear a; intro a F
    with_reducible refine l_nil ?_
    with_reducible refine q_then ?_
    with_reducible refine c_seq ?_
    with_reducible refine c_region ?_
    refine stepD rfl F rfl (o_move (F.ev rfl) ?_); clear F; clear a; intro a F
    refine stepD rfl F rfl (o_assign (F.ev rfl) ?_); clear F; clear a; intro a F
    with_reducible refine l_nil ?_
    with_reducible refine q_then ?_
    with_reducible refine c_ret ?_
    refine p_ret F rfl (.cons (.tmp (F.ev rfl)) .nil) ?_
    exact ⟨rfl, M.ext⟩
  · replace hc := of_decide_eq_false hc
    rw [if_neg hc]
    with_reducible refine c_skip ?_
    with_reducible refine q_then ?_
    with_reducible refine c_seq ?_
    with_reducible refine c_region ?_
    refine stepD rfl F rfl (o_move (F.ev rfl) ?_); clear F; clear a; intro a F
    refine stepD rfl F rfl (o_assign (F.ev rfl) ?_); clear F; clear a; intro a F
    with_reducible refine l_nil ?_
    with_reducible refine q_then ?_
    with_reducible refine c_ret ?_
    refine p_ret F rfl (.cons (.tmp (F.ev rfl)) .nil) ?_
    exact ⟨rfl, M.ext⟩
theorem clamp_in {n : Int} (h0 : 0 ≤ n) (h1 : n ≤ 128) : clampB n = n := by unfold clampB; rw [if_neg (show ¬ n < 0 by omega), if_neg (by omega)]
theorem maskP_c (a : List Int) (ha : a.length = 16) (n : Int) (W : World) : Cal Try.prog 80 [.agg (ipC a).toArray, .int .i64 n].toArray W fun v w' => v = .agg (pfC (maskI a (clampB n)) (clampB n)).toArray ∧ Ext [] W w' :=
  (mask_c a ha n W).mono fun v w' h => ⟨by rw [h.1, mrow_pf], h.2⟩
theorem maskIn_c (a : List Int) (ha : a.length = 16) (n : Int) (h0 : 0 ≤ n) (h1 : n ≤ 128) (W : World) : Cal Try.prog 80 [.agg (ipC a).toArray, .int .i64 n].toArray W fun v w' => v = .agg (pfC (maskI a n) n).toArray ∧ Ext [] W w' :=
  (maskP_c a ha n W).mono fun v w' h => ⟨by rw [h.1, clamp_in h0 h1], h.2⟩
def pfK : List LK := [.i .u8, .i .u8, .i .u8, .i .u8, .i .u8, .i .u8, .i .u8, .i .u8, .i .u8, .i .u8, .i .u8, .i .u8, .i .u8, .i .u8, .i .u8, .i .u8, .i .i64]
theorem fits_pf {a : List Int} (ha : a.length = 16) (n : Int) : fitsK pfK (pfC a n) = true := by
  obtain ⟨x0, x1, x2, x3, x4, x5, x6, x7, x8, x9, x10, x11, x12, x13, x14, x15, rfl⟩ := len16 ha
  rfl
theorem seg_all {xs : List Value} {k : Nat} (h : xs.length = k) : seg xs 0 k = some xs := by
  have h1 := seg_of [] xs []
  rw [h] at h1
  simpa using h1
theorem pfC_len {a : List Int} (ha : a.length = 16) (n : Int) : (pfC a n).length = 17 := by simp [pfC, ipC, ha]
theorem ipC_len {a : List Int} (ha : a.length = 16) : (ipC a).length = 16 := by simp [ipC, ha]
theorem seg_pf {a : List Int} (ha : a.length = 16) (n : Int) : seg (pfC a n) 0 17 = some (pfC a n) := seg_all (pfC_len ha n)
theorem seg_pf0 {a : List Int} (ha : a.length = 16) (n : Int) : seg (pfC a n) 0 16 = some (ipC a) := by
  have h1 := seg_of [] (ipC a) [.int .i64 n]
  rw [ipC_len ha] at h1
  simpa [pfC] using h1
theorem nth_pf {a : List Int} (ha : a.length = 16) (n : Int) : nth (pfC a n) 16 = some (.int .i64 n) := by
  rw [nth_spec]; simp [pfC, ipC, ha]
set_option maxHeartbeats 2000000 in
theorem validPrefix_c (p : List Int) (n : Int) (hp : p.length = 16) (W : World) : Cal Try.prog 47 [.agg (pfC p n).toArray].toArray W fun v w' => v = .bool (validP p n) ∧ Ext [] W w' := by
  have e1 := seg_pf hp n
  have e2 := seg_pf0 hp n
  have e3 := nth_pf hp n
  have e4 := fits_pf hp n
  have e5 := fits_pf (maskI_len p n) n
  refine fn_ofM (n := 20) [] Try.func47 rfl rfl rfl ?_
  intro a w F M hwW
  refine c_seq ?_
  refine c_region ?_
  (refine stepD rfl F rfl (o_box M (F.ev rfl) rfl ?_); clear F; clear M; intro b1 w M a F)
  refine stepD rfl F rfl (o_assign (F.ev rfl) ?_); clear F; clear a; intro a F
  with_reducible refine l_nil ?_
  with_reducible refine q_then ?_
  with_reducible refine c_seq ?_
  replace F := F.only [1] rfl
  by_cases h0 : 0 ≤ n
  · by_cases h1 : n ≤ 128
    · refine c_draw 18 F (by kernel_rfl) ?_
      intro w1 hE hok
      have M1 := M.later hE
      refine mK hok rfl rfl (fun a' w' F' E' => o_fieldAddr (F'.ev rfl) ⟨Ext.refl _ _, rfl⟩) ?_
      refine mK hok rfl rfl (fun a' w' F' E' => o_load1 (M1.later E') (F'.ev rfl) (by repeat (first | exact .here | apply Has.there)) (by first | assumption | rfl) ⟨Ext.refl _ _, rfl⟩) ?_
      refine mK hok rfl rfl (fun a' w' F' E' => o_geqT (F'.ev rfl) (F'.ev rfl) (by omega) ⟨Ext.refl _ _, rfl⟩) ?_
      refine mK hok rfl rfl (fun a' w' F' E' => o_move (F'.ev rfl) ⟨Ext.refl _ _, rfl⟩) ?_
      refine mKG hok rfl rfl rfl rfl (fun a' w' F' E' => o_fieldAddr (F'.ev rfl) ⟨Ext.refl _ _, rfl⟩) ?_
      refine mKG hok rfl rfl rfl rfl (fun a' w' F' E' => o_load1 (M1.later E') (F'.ev rfl) (by repeat (first | exact .here | apply Has.there)) (by first | assumption | rfl) ⟨Ext.refl _ _, rfl⟩) ?_
      refine mKG hok rfl rfl rfl rfl (fun a' w' F' E' => o_leqT (F'.ev rfl) (F'.ev rfl) (by omega) ⟨Ext.refl _ _, rfl⟩) ?_
      refine mK hok rfl rfl (fun a' w' F' E' => o_pickT (F'.ev rfl) (F'.ev rfl) ⟨Ext.refl _ _, rfl⟩) ?_
      refine mK hok rfl rfl (fun a' w' F' E' => o_move (F'.ev rfl) ⟨Ext.refl _ _, rfl⟩) ?_
      refine mKG hok rfl rfl rfl rfl (fun a' w' F' E' => o_fieldAddr (F'.ev rfl) ⟨Ext.refl _ _, rfl⟩) ?_
      refine mKG hok rfl rfl rfl rfl (fun a' w' F' E' => o_loadA (M1.later E') (F'.ev rfl) (by repeat (first | exact .here | apply Has.there)) (by first | assumption | rfl) ⟨Ext.refl _ _, rfl⟩) ?_
      refine mKG hok rfl rfl rfl rfl (fun a' w' F' E' => o_fieldAddr (F'.ev rfl) ⟨Ext.refl _ _, rfl⟩) ?_
      refine mKG hok rfl rfl rfl rfl (fun a' w' F' E' => o_load1 (M1.later E') (F'.ev rfl) (by repeat (first | exact .here | apply Has.there)) (by first | assumption | rfl) ⟨Ext.refl _ _, rfl⟩) ?_
      (refine mKG hok rfl rfl rfl rfl (fun a' w' F' E' => o_call (F'.ev rfl) (F'.evs rfl) (Cal.mono (maskIn_c p hp n h0 h1 _) fun _ _ hh => ⟨hh.2, hh.1⟩)) ?_)
      refine mKG hok rfl rfl rfl rfl (fun a' w' F' E' => o_loadA (M1.later E') (F'.ev rfl) (by repeat (first | exact .here | apply Has.there)) (by first | assumption | rfl) ⟨Ext.refl _ _, rfl⟩) ?_
      refine mKG hok rfl rfl rfl rfl (fun a' w' F' E' => o_eqlA (F'.ev rfl) (F'.ev rfl) (by first | assumption | rfl) (by first | assumption | rfl) ⟨Ext.refl _ _, rfl⟩) ?_
      refine mK hok rfl rfl (fun a' w' F' E' => o_pickT (F'.ev rfl) (F'.ev rfl) ⟨Ext.refl _ _, rfl⟩) ?_
      refine mK hok rfl rfl (fun a' w' F' E' => o_assign (F'.ev rfl) ⟨Ext.refl _ _, rfl⟩) ?_
      (refine mDone rfl rfl ?_; clear F; clear M; intro a w F hE2 hX hTT hDD hPP; have M := M1.later hE2; clear M1; clear hX; clear hE2; clear hok; clear hE; clear hTT; clear hDD; clear hPP; (try dsimp only at F))
      with_reducible refine l_nil ?_
      with_reducible refine q_then ?_
      with_reducible refine c_ret ?_
      refine p_ret F rfl (.cons (.tmp (F.ev rfl)) .nil) ?_
      refine ⟨?_, M.ext⟩
      show Value.bool _ = Value.bool _
      rw [eqVs_pf (by rw [maskI_len, hp])]
      simp [validP, h0, h1]
    · refine c_draw 18 F (by kernel_rfl) ?_
      intro w1 hE hok
      have M1 := M.later hE
      refine mK hok rfl rfl (fun a' w' F' E' => o_fieldAddr (F'.ev rfl) ⟨Ext.refl _ _, rfl⟩) ?_
      refine mK hok rfl rfl (fun a' w' F' E' => o_load1 (M1.later E') (F'.ev rfl) (by repeat (first | exact .here | apply Has.there)) (by first | assumption | rfl) ⟨Ext.refl _ _, rfl⟩) ?_
      refine mK hok rfl rfl (fun a' w' F' E' => o_geqT (F'.ev rfl) (F'.ev rfl) (by omega) ⟨Ext.refl _ _, rfl⟩) ?_
      refine mK hok rfl rfl (fun a' w' F' E' => o_move (F'.ev rfl) ⟨Ext.refl _ _, rfl⟩) ?_
      refine mKG hok rfl rfl rfl rfl (fun a' w' F' E' => o_fieldAddr (F'.ev rfl) ⟨Ext.refl _ _, rfl⟩) ?_
      refine mKG hok rfl rfl rfl rfl (fun a' w' F' E' => o_load1 (M1.later E') (F'.ev rfl) (by repeat (first | exact .here | apply Has.there)) (by first | assumption | rfl) ⟨Ext.refl _ _, rfl⟩) ?_
      refine mKG hok rfl rfl rfl rfl (fun a' w' F' E' => o_leqF (F'.ev rfl) (F'.ev rfl) (by omega) ⟨Ext.refl _ _, rfl⟩) ?_
      refine mK hok rfl rfl (fun a' w' F' E' => o_pickT (F'.ev rfl) (F'.ev rfl) ⟨Ext.refl _ _, rfl⟩) ?_
      refine mK hok rfl rfl (fun a' w' F' E' => o_move (F'.ev rfl) ⟨Ext.refl _ _, rfl⟩) ?_
      refine mOff hok rfl rfl rfl rfl rfl ?_
      refine mOff hok rfl rfl rfl rfl rfl ?_
      refine mOff hok rfl rfl rfl rfl rfl ?_
      refine mOff hok rfl rfl rfl rfl rfl ?_
      refine mOff hok rfl rfl rfl rfl rfl ?_
      refine mOff hok rfl rfl rfl rfl rfl ?_
      refine mOff hok rfl rfl rfl rfl rfl ?_
      refine mK hok rfl rfl (fun a' w' F' E' => o_pickF (F'.ev rfl) (F'.ev rfl) ⟨Ext.refl _ _, rfl⟩) ?_
      refine mK hok rfl rfl (fun a' w' F' E' => o_assign (F'.ev rfl) ⟨Ext.refl _ _, rfl⟩) ?_
      (refine mDone rfl rfl ?_; clear F; clear M; intro a w F hE2 hX hTT hDD hPP; have M := M1.later hE2; clear M1; clear hX; clear hE2; clear hok; clear hE; clear hTT; clear hDD; clear hPP; (try dsimp only at F))
      with_reducible refine l_nil ?_
      with_reducible refine q_then ?_
      with_reducible refine c_ret ?_
      refine p_ret F rfl (.cons (.tmp (F.ev rfl)) .nil) ?_
      exact ⟨by show Value.bool _ = Value.bool _; simp [validP, h1], M.ext⟩
  · refine c_draw 18 F (by kernel_rfl) ?_
    intro w1 hE hok
    have M1 := M.later hE
    refine mK hok rfl rfl (fun a' w' F' E' => o_fieldAddr (F'.ev rfl) ⟨Ext.refl _ _, rfl⟩) ?_
    refine mK hok rfl rfl (fun a' w' F' E' => o_load1 (M1.later E') (F'.ev rfl) (by repeat (first | exact .here | apply Has.there)) (by first | assumption | rfl) ⟨Ext.refl _ _, rfl⟩) ?_
    refine mK hok rfl rfl (fun a' w' F' E' => o_geqF (F'.ev rfl) (F'.ev rfl) (by omega) ⟨Ext.refl _ _, rfl⟩) ?_
    refine mK hok rfl rfl (fun a' w' F' E' => o_move (F'.ev rfl) ⟨Ext.refl _ _, rfl⟩) ?_
    refine mOff hok rfl rfl rfl rfl rfl ?_
    refine mOff hok rfl rfl rfl rfl rfl ?_
    refine mOff hok rfl rfl rfl rfl rfl ?_
    refine mK hok rfl rfl (fun a' w' F' E' => o_pickF (F'.ev rfl) (F'.ev rfl) ⟨Ext.refl _ _, rfl⟩) ?_
    refine mK hok rfl rfl (fun a' w' F' E' => o_move (F'.ev rfl) ⟨Ext.refl _ _, rfl⟩) ?_
    refine mOff hok rfl rfl rfl rfl rfl ?_
    refine mOff hok rfl rfl rfl rfl rfl ?_
    refine mOff hok rfl rfl rfl rfl rfl ?_
    refine mOff hok rfl rfl rfl rfl rfl ?_
    refine mOff hok rfl rfl rfl rfl rfl ?_
    refine mOff hok rfl rfl rfl rfl rfl ?_
    refine mOff hok rfl rfl rfl rfl rfl ?_
    refine mK hok rfl rfl (fun a' w' F' E' => o_pickF (F'.ev rfl) (F'.ev rfl) ⟨Ext.refl _ _, rfl⟩) ?_
    refine mK hok rfl rfl (fun a' w' F' E' => o_assign (F'.ev rfl) ⟨Ext.refl _ _, rfl⟩) ?_
    (refine mDone rfl rfl ?_; clear F; clear M; intro a w F hE2 hX hTT hDD hPP; have M := M1.later hE2; clear M1; clear hX; clear hE2; clear hok; clear hE; clear hTT; clear hDD; clear hPP; (try dsimp only at F))
    with_reducible refine l_nil ?_
    with_reducible refine q_then ?_
    with_reducible refine c_ret ?_
    refine p_ret F rfl (.cons (.tmp (F.ev rfl)) .nil) ?_
    exact ⟨by show Value.bool _ = Value.bool _; simp [validP, h0], M.ext⟩
end

section
set_option linter.unusedVariables false
set_option linter.unusedSimpArgs false
open Go.RowKit
attribute [local irreducible] OpTo wpListIn Code.wpIn MW Cal
theorem validP_bd {a : List Int} {n : Int} (h : validP a n = true) : 0 ≤ n ∧ n ≤ 128 := by
  simp only [validP, Bool.and_eq_true, decide_eq_true_eq] at h
  exact h.1
set_option maxHeartbeats 2000000 in
theorem contains_c (p : List Int) (n : Int) (hp : p.length = 16) (b : List Int) (hb : b.length = 16) (W : World) : Cal Try.prog 81 [.agg (pfC p n).toArray, .agg (ipC b).toArray].toArray W fun v w' => v = .bool (containsP p n b) ∧ Ext [] W w' := by
  have e1 := seg_pf hp n
  have e2 := seg_pf0 hp n
  have e3 := nth_pf hp n
  have e4 := fits_pf hp n
  have e5 := fits_pf (maskI_len b n) n
  have e6 := seg_all (ipC_len hb)
  refine fn_ofM (n := 15) [] Try.func81 rfl rfl rfl ?_
  intro a w F M hwW
  refine c_seq ?_
  refine c_region ?_
  (refine stepD rfl F rfl (o_box M (F.ev rfl) rfl ?_); clear F; clear M; intro b1 w M a F)
  (refine stepD rfl F rfl (o_box M (F.ev rfl) rfl ?_); clear F; clear M; intro b2 w M a F)
  refine stepD rfl F rfl (o_assign (F.ev rfl) ?_); clear F; clear a; intro a F
  with_reducible refine l_nil ?_
  with_reducible refine q_then ?_
  with_reducible refine c_seq ?_
  replace F := F.only [2, 3] rfl
  by_cases hv : validP p n = true
  · obtain ⟨h0, h1⟩ := validP_bd hv
    refine c_draw 11 F (by kernel_rfl) ?_
    intro w1 hE hok
    have M1 := M.later hE
    refine mK hok rfl rfl (fun a' w' F' E' => o_loadA (M1.later E') (F'.ev rfl) (by repeat (first | exact .here | apply Has.there)) (by first | assumption | rfl) ⟨Ext.refl _ _, rfl⟩) ?_
    (refine mK hok rfl rfl (fun a' w' F' E' => o_call (F'.ev rfl) (F'.evs rfl) (Cal.mono (validPrefix_c p n hp _) fun _ _ hh => ⟨hh.2, hh.1⟩)) ?_)
    rw [hv]
    refine mK hok rfl rfl (fun a' w' F' E' => o_move (F'.ev rfl) ⟨Ext.refl _ _, rfl⟩) ?_
    refine mKG hok rfl rfl rfl rfl (fun a' w' F' E' => o_loadA (M1.later E') (F'.ev rfl) (by repeat (first | exact .here | apply Has.there)) (by first | assumption | rfl) ⟨Ext.refl _ _, rfl⟩) ?_
    refine mKG hok rfl rfl rfl rfl (fun a' w' F' E' => o_fieldAddr (F'.ev rfl) ⟨Ext.refl _ _, rfl⟩) ?_
    refine mKG hok rfl rfl rfl rfl (fun a' w' F' E' => o_load1 (M1.later E') (F'.ev rfl) (by repeat (first | exact .here | apply Has.there)) (by first | assumption | rfl) ⟨Ext.refl _ _, rfl⟩) ?_
    (refine mKG hok rfl rfl rfl rfl (fun a' w' F' E' => o_call (F'.ev rfl) (F'.evs rfl) (Cal.mono (maskIn_c b hb n h0 h1 _) fun _ _ hh => ⟨hh.2, hh.1⟩)) ?_)
    refine mKG hok rfl rfl rfl rfl (fun a' w' F' E' => o_loadA (M1.later E') (F'.ev rfl) (by repeat (first | exact .here | apply Has.there)) (by first | assumption | rfl) ⟨Ext.refl _ _, rfl⟩) ?_
    refine mKG hok rfl rfl rfl rfl (fun a' w' F' E' => o_eqlA (F'.ev rfl) (F'.ev rfl) (by first | assumption | rfl) (by first | assumption | rfl) ⟨Ext.refl _ _, rfl⟩) ?_
    refine mK hok rfl rfl (fun a' w' F' E' => o_pickT (F'.ev rfl) (F'.ev rfl) ⟨Ext.refl _ _, rfl⟩) ?_
    refine mK hok rfl rfl (fun a' w' F' E' => o_assign (F'.ev rfl) ⟨Ext.refl _ _, rfl⟩) ?_
    (refine mDone rfl rfl ?_; clear F; clear M; intro a w F hE2 hX hTT hDD hPP; have M := M1.later hE2; clear M1; clear hX; clear hE2; clear hok; clear hE; clear hTT; clear hDD; clear hPP; (try dsimp only at F))
    with_reducible refine l_nil ?_
    with_reducible refine q_then ?_
    with_reducible refine c_ret ?_
    refine p_ret F rfl (.cons (.tmp (F.ev rfl)) .nil) ?_
    refine ⟨?_, M.ext⟩
    show Value.bool _ = Value.bool _
    rw [eqVs_pf (by rw [maskI_len, hp])]
    simp [containsP, hv]
  · replace hv : validP p n = false := by simpa using hv
    refine c_draw 11 F (by kernel_rfl) ?_
    intro w1 hE hok
    have M1 := M.later hE
    refine mK hok rfl rfl (fun a' w' F' E' => o_loadA (M1.later E') (F'.ev rfl) (by repeat (first | exact .here | apply Has.there)) (by first | assumption | rfl) ⟨Ext.refl _ _, rfl⟩) ?_
    (refine mK hok rfl rfl (fun a' w' F' E' => o_call (F'.ev rfl) (F'.evs rfl) (Cal.mono (validPrefix_c p n hp _) fun _ _ hh => ⟨hh.2, hh.1⟩)) ?_)
    rw [hv]
    refine mK hok rfl rfl (fun a' w' F' E' => o_move (F'.ev rfl) ⟨Ext.refl _ _, rfl⟩) ?_
    refine mOff hok rfl rfl rfl rfl rfl ?_
    refine mOff hok rfl rfl rfl rfl rfl ?_
    refine mOff hok rfl rfl rfl rfl rfl ?_
    refine mOff hok rfl rfl rfl rfl rfl ?_
    refine mOff hok rfl rfl rfl rfl rfl ?_
    refine mOff hok rfl rfl rfl rfl rfl ?_
    refine mK hok rfl rfl (fun a' w' F' E' => o_pickF (F'.ev rfl) (F'.ev rfl) ⟨Ext.refl _ _, rfl⟩) ?_
    refine mK hok rfl rfl (fun a' w' F' E' => o_assign (F'.ev rfl) ⟨Ext.refl _ _, rfl⟩) ?_
    (refine mDone rfl rfl ?_; clear F; clear M; intro a w F hE2 hX hTT hDD hPP; have M := M1.later hE2; clear M1; clear hX; clear hE2; clear hok; clear hE; clear hTT; clear hDD; clear hPP; (try dsimp only at F))
    with_reducible refine l_nil ?_
    with_reducible refine q_then ?_
    with_reducible refine c_ret ?_
    refine p_ret F rfl (.cons (.tmp (F.ev rfl)) .nil) ?_
    exact ⟨by show Value.bool _ = Value.bool _; simp [containsP, hv], M.ext⟩
set_option maxHeartbeats 2000000 in
theorem covers_c (p : List Int) (n : Int) (hp : p.length = 16) (b : List Int) (m : Int) (hb : b.length = 16) (W : World) : Cal Try.prog 48 [.agg (pfC p n).toArray, .agg (pfC b m).toArray].toArray W fun v w' => v = .bool (coversP p n b m) ∧ Ext [] W w' := by
  have e1 := seg_pf hp n
  have e3 := nth_pf hp n
  have f1 := seg_pf hb m
  have f2 := seg_pf0 hb m
  have f3 := nth_pf hb m
  refine fn_ofM (n := 20) [] Try.func48 rfl rfl rfl ?_
  intro a w F M hwW
  refine c_seq ?_
  refine c_region ?_
  (refine stepD rfl F rfl (o_box M (F.ev rfl) rfl ?_); clear F; clear M; intro b1 w M a F)
  (refine stepD rfl F rfl (o_box M (F.ev rfl) rfl ?_); clear F; clear M; intro b2 w M a F)
  refine stepD rfl F rfl (o_assign (F.ev rfl) ?_); clear F; clear a; intro a F
  with_reducible refine l_nil ?_
  with_reducible refine q_then ?_
  with_reducible refine c_seq ?_
  with_reducible refine c_region ?_
  refine stepD rfl F rfl (o_loadA M (F.ev rfl) (by repeat (first | exact .here | apply Has.there)) (by first | assumption | rfl) ?_); clear F; clear a; intro a F
  (refine stepD rfl F rfl (o_call (F.ev rfl) (F.evs rfl) (Cal.mono (validPrefix_c b m hb _) ?_)); clear F; clear a; rintro _ w ⟨rfl, hE⟩ a F; replace M := M.later hE; clear hE)
  unfold coversP
  cases hv : validP b m
  · rw [hv] at F
    refine stepD rfl F rfl (o_move (F.ev rfl) ?_); clear F; clear a; intro a F
    refine stepOff F rfl rfl rfl rfl ?_; clear F; clear a; intro a F
    refine stepOff F rfl rfl rfl rfl ?_; clear F; clear a; intro a F
    refine stepOff F rfl rfl rfl rfl ?_; clear F; clear a; intro a F
    refine stepOff F rfl rfl rfl rfl ?_; clear F; clear a; intro a F
    refine stepD rfl F rfl (o_pickF (F.ev rfl) (F.ev rfl) ?_); clear F; clear a; intro a F
    refine stepD rfl F rfl (o_move (F.ev rfl) ?_); clear F; clear a; intro a F
    refine stepOff F rfl rfl rfl rfl ?_; clear F; clear a; intro a F
    refine stepOff F rfl rfl rfl rfl ?_; clear F; clear a; intro a F
    refine stepOff F rfl rfl rfl rfl ?_; clear F; clear a; intro a F
    refine stepOff F rfl rfl rfl rfl ?_; clear F; clear a; intro a F
    refine stepOff F rfl rfl rfl rfl ?_; clear F; clear a; intro a F
    refine stepD rfl F rfl (o_pickF (F.ev rfl) (F.ev rfl) ?_); clear F; clear a; intro a F
    refine stepD rfl F rfl (o_assign (F.ev rfl) ?_); clear F; clear a; intro a F
    with_reducible refine l_nil ?_
    with_reducible refine q_then ?_
    with_reducible refine c_ret ?_
    refine p_ret F rfl (.cons (.tmp (F.ev rfl)) .nil) ?_
    exact ⟨rfl, M.ext⟩
  · rw [hv] at F
    refine stepD rfl F rfl (o_move (F.ev rfl) ?_); clear F; clear a; intro a F
    refine stepG rfl F rfl rfl rfl (o_loadA M (F.ev rfl) (by repeat (first | exact .here | apply Has.there)) (by first | assumption | rfl) ?_); clear F; clear a; intro a F
    refine stepG rfl F rfl rfl rfl (o_fieldAddr (F.ev rfl) ?_); clear F; clear a; intro a F
    refine stepG rfl F rfl rfl rfl (o_loadA M (F.ev rfl) (by repeat (first | exact .here | apply Has.there)) (by first | assumption | rfl) ?_); clear F; clear a; intro a F
    (refine stepG rfl F rfl rfl rfl (o_call (F.ev rfl) (F.evs rfl) (Cal.mono (contains_c p n hp b hb _) ?_)); clear F; clear a; rintro _ w ⟨rfl, hE⟩ a F; replace M := M.later hE; clear hE)
    cases hc : containsP p n b
    · rw [hc] at F
      refine stepD rfl F rfl (o_pickT (F.ev rfl) (F.ev rfl) ?_); clear F; clear a; intro a F
      refine stepD rfl F rfl (o_move (F.ev rfl) ?_); clear F; clear a; intro a F
      refine stepOff F rfl rfl rfl rfl ?_; clear F; clear a; intro a F
      refine stepOff F rfl rfl rfl rfl ?_; clear F; clear a; intro a F
      refine stepOff F rfl rfl rfl rfl ?_; clear F; clear a; intro a F
      refine stepOff F rfl rfl rfl rfl ?_; clear F; clear a; intro a F
      refine stepOff F rfl rfl rfl rfl ?_; clear F; clear a; intro a F
      refine stepD rfl F rfl (o_pickF (F.ev rfl) (F.ev rfl) ?_); clear F; clear a; intro a F
      refine stepD rfl F rfl (o_assign (F.ev rfl) ?_); clear F; clear a; intro a F
      with_reducible refine l_nil ?_
      with_reducible refine q_then ?_
      with_reducible refine c_ret ?_
      refine p_ret F rfl (.cons (.tmp (F.ev rfl)) .nil) ?_
      exact ⟨rfl, M.ext⟩
    · rw [hc] at F
      refine stepD rfl F rfl (o_pickT (F.ev rfl) (F.ev rfl) ?_); clear F; clear a; intro a F
      refine stepD rfl F rfl (o_move (F.ev rfl) ?_); clear F; clear a; intro a F
      refine stepG rfl F rfl rfl rfl (o_fieldAddr (F.ev rfl) ?_); clear F; clear a; intro a F
      refine stepG rfl F rfl rfl rfl (o_load1 M (F.ev rfl) (by repeat (first | exact .here | apply Has.there)) (by first | assumption | rfl) ?_); clear F; clear a; intro a F
      refine stepG rfl F rfl rfl rfl (o_fieldAddr (F.ev rfl) ?_); clear F; clear a; intro a F
      refine stepG rfl F rfl rfl rfl (o_load1 M (F.ev rfl) (by repeat (first | exact .here | apply Has.there)) (by first | assumption | rfl) ?_); clear F; clear a; intro a F
      refine stepG rfl F rfl rfl rfl (o_leq (F.ev rfl) (F.ev rfl) ?_); clear F; clear a; intro a F
      refine stepD rfl F rfl (o_pickT (F.ev rfl) (F.ev rfl) ?_); clear F; clear a; intro a F
      refine stepD rfl F rfl (o_assign (F.ev rfl) ?_); clear F; clear a; intro a F
      with_reducible refine l_nil ?_
      with_reducible refine q_then ?_
      with_reducible refine c_ret ?_
      refine p_ret F rfl (.cons (.tmp (F.ev rfl)) .nil) ?_
      exact ⟨rfl, M.ext⟩
end

section
set_option linter.unusedVariables false
set_option linter.unusedSimpArgs false
open Go.RowKit
attribute [local irreducible] OpTo wpListIn Code.wpIn MW Cal
def xorAt (a b : List Int) (i : Nat) : Int := bitsOf .xor .u8 (a.getD i 0) (b.getD i 0)
/-- the k last bytes -/
def commonFrom (a b : List Int) : Nat → Int
  | 0 => 128
  | k + 1 => if xorAt a b (15 - k) ≠ 0 then 8 * ((15 - k : Nat) : Int) + (8 - (Lib.bitLen (xorAt a b (15 - k)).toNat : Int)) else commonFrom a b k
def commonI (a b : List Int) : Int := commonFrom a b 16
theorem xor_bd {a b : List Int} (ha : IsIP a) (hb : IsIP b) (i : Nat) : 0 ≤ xorAt a b i ∧ xorAt a b i ≤ 255 := by
  have h1 := ha.at_ i
  have h2 := hb.at_ i
  unfold xorAt
  obtain ⟨m, hm⟩ := Int.eq_ofNat_of_zero_le h1.1
  obtain ⟨n, hn⟩ := Int.eq_ofNat_of_zero_le h2.1
  rw [hm, hn, bits_xor (k := .u8) rfl (show m < 256 by omega) (show n < 256 by omega)]
  have : m ^^^ n < 2 ^ 8 := Nat.xor_lt_two_pow (show m < 2 ^ 8 by omega) (show n < 2 ^ 8 by omega)
  omega
theorem bitLen_le8 {x : Int} (h0 : 0 ≤ x) (h1 : x ≤ 255) : 0 ≤ 8 - (Lib.bitLen x.toNat : Int) ∧ 8 - (Lib.bitLen x.toNat : Int) ≤ 8 := by
  have := Lib.bitLen_le8 ⟨x.toNat, by omega⟩
  dsimp only at this
  omega
end

section
set_option linter.unusedVariables false
set_option linter.unusedSimpArgs false
open Go.RowKit
theorem one_ip (a : List Int) : (ipC a).all (·.oneCell') = true := by
  rw [List.all_eq_true]
  intro v hv
  obtain ⟨x, _, rfl⟩ := List.mem_map.1 hv
  rfl
theorem one_pf (a : List Int) (n : Int) : (pfC a n).all (·.oneCell') = true := by
  unfold pfC
  rw [List.all_append, one_ip]
  rfl
theorem modI_bd (x : Int) {n : Int} (hn : 0 < n) : 0 ≤ modI x n ∧ modI x n < n := by
  have h1 := Int.tmod_lt_of_pos x hn
  have h2 : -n < x.tmod n := by have := Int.tmod_lt_of_pos (-x) hn; rw [Int.neg_tmod] at this; omega
  unfold modI
  split <;> omega
end

section
set_option linter.unusedVariables false
set_option linter.unusedSimpArgs false
open Go.RowKit
/-- a byte of which the first k bits stay -/
def cutB (x : Int) (k : Nat) : Int := bitsOf .andNot .u8 x (Int.fdiv 255 (2 ^ min k 8))
theorem cutB_fin : ∀ x : Fin 256, ∀ k : Fin 9, cutB (x.1 : Int) k.1 = ((x.1 / 2 ^ (8 - k.1) * 2 ^ (8 - k.1) : Nat) : Int) := by decide +kernel
theorem cutB_nat {x k : Nat} (hx : x < 256) (hk : k ≤ 8) : cutB (x : Int) k = ((x / 2 ^ (8 - k) * 2 ^ (8 - k) : Nat) : Int) := cutB_fin ⟨x, hx⟩ ⟨k, by omega⟩
theorem nest_fin : ∀ x : Fin 256, ∀ k j : Fin 9, (x.1 / 2 ^ (8 - k.1) * 2 ^ (8 - k.1)) / 2 ^ (8 - j.1) * 2 ^ (8 - j.1) = x.1 / 2 ^ (8 - min j.1 k.1) * 2 ^ (8 - min j.1 k.1) := by decide +kernel
theorem low_fin : ∀ x : Fin 256, ∀ k : Fin 9, (x.1 / 2 ^ (8 - k.1) = 0) ↔ Lib.bitLen x.1 ≤ 8 - k.1 := by decide +kernel
theorem bitLen_fin : ∀ x : Fin 256, Lib.bitLen x.1 ≤ 8 ∧ (Lib.bitLen x.1 = 0 ↔ x.1 = 0) := by decide +kernel
theorem cutB_bd {x : Int} {k : Nat} (h0 : 0 ≤ x) (h1 : x < 256) (hk : k ≤ 8) : 0 ≤ cutB x k ∧ cutB x k < 256 := by
  obtain ⟨n, rfl⟩ := Int.eq_ofNat_of_zero_le h0
  rw [cutB_nat (by omega) hk]
  have := Nat.div_mul_le_self n (2 ^ (8 - k))
  omega
theorem cutB_nest {x : Int} {k j : Nat} (h0 : 0 ≤ x) (h1 : x < 256) (hk : k ≤ 8) (hj : j ≤ 8) : cutB (cutB x k) j = cutB x (min j k) := by
  obtain ⟨n, rfl⟩ := Int.eq_ofNat_of_zero_le h0
  have hn : n < 256 := by omega
  have := Nat.div_mul_le_self n (2 ^ (8 - k))
  rw [cutB_nat hn hk, cutB_nat (by omega) hj, cutB_nat hn (by omega), nest_fin ⟨n, hn⟩ ⟨k, by omega⟩ ⟨j, by omega⟩]
theorem cutB_eq {x y : Int} {k : Nat} (h0 : 0 ≤ x) (h1 : x < 256) (g0 : 0 ≤ y) (g1 : y < 256) (hk : k ≤ 8) : (cutB x k = cutB y k) ↔ Lib.bitLen (bitsOf .xor .u8 y x).toNat ≤ 8 - k := by
  obtain ⟨n, rfl⟩ := Int.eq_ofNat_of_zero_le h0
  obtain ⟨m, rfl⟩ := Int.eq_ofNat_of_zero_le g0
  have hn : n < 256 := by omega
  have hm : m < 256 := by omega
  rw [cutB_nat hn hk, cutB_nat hm hk, bits_xor (k := .u8) rfl (show m < 2 ^ 8 by omega) (show n < 2 ^ 8 by omega), Int.toNat_natCast]
  have hx : m ^^^ n < 256 := Nat.xor_lt_two_pow (n := 8) hm hn
  rw [← low_fin ⟨m ^^^ n, hx⟩ ⟨k, by omega⟩]
  simp only
  rw [Nat.xor_div_two_pow]
  have hp : 0 < 2 ^ (8 - k) := Nat.two_pow_pos _
  constructor
  · intro h
    have h' : n / 2 ^ (8 - k) * 2 ^ (8 - k) = m / 2 ^ (8 - k) * 2 ^ (8 - k) := by exact_mod_cast h
    rw [Nat.eq_of_mul_eq_mul_right hp h']
    exact Nat.xor_self _
  · intro h
    have : m / 2 ^ (8 - k) = n / 2 ^ (8 - k) := by
      have h2 := congrArg (· ^^^ (n / 2 ^ (8 - k))) h
      simpa [Nat.xor_assoc] using h2
    rw [this]
theorem keepN_bd (n i : Int) : (keepN n i).toNat ≤ 8 := by unfold keepN; split <;> (try split) <;> omega
theorem maskAt_cut (a : List Int) (n : Int) (i : Nat) : maskAt a n i = cutB (a.getD i 0) (keepN n i).toNat := rfl
theorem maskI_at (a : List Int) (n : Int) {i : Nat} (h : i < 16) : (maskI a n).getD i 0 = maskAt a n i := by simp [maskI, h]
theorem maskI_ext {a b : List Int} {n m : Int} : maskI a n = maskI b m ↔ ∀ i, i < 16 → maskAt a n i = maskAt b m i := by
  unfold maskI
  constructor
  · intro h i hi
    have := congrArg (fun l => l.getD i 0) h
    simpa [hi] using this
  · intro h
    exact List.map_congr_left fun i hi => h i (List.mem_range.1 hi)
def minI (m n : Int) : Int := if n < m then n else m
theorem keep_min (m n i : Int) : min (keepN m i).toNat (keepN n i).toNat = (keepN (minI m n) i).toNat := by
  unfold minI keepN
  split <;> split <;> split <;> (try split) <;> (try split) <;> omega
theorem mask_nest {p : List Int} (hp : IsIP p) (m n : Int) : maskI (maskI p n) m = maskI p (minI m n) := by
  rw [maskI_ext]
  intro i hi
  rw [maskAt_cut, maskI_at _ _ hi, maskAt_cut, maskAt_cut, cutB_nest (hp.at_ i).1 (hp.at_ i).2 (keepN_bd _ _) (keepN_bd _ _), keep_min]
theorem mask_isIP {p : List Int} (hp : IsIP p) (n : Int) : IsIP (maskI p n) := by
  refine ⟨maskI_len p n, fun x hx => ?_⟩
  unfold maskI at hx
  obtain ⟨i, _, rfl⟩ := List.mem_map.1 hx
  exact cutB_bd (hp.at_ i).1 (hp.at_ i).2 (keepN_bd _ _)
theorem minI_self (m : Int) : minI m m = m := by unfold minI; split <;> rfl
theorem minI_left {m n : Int} (h : m ≤ n) : minI m n = m := by unfold minI; rw [if_neg (by omega)]
theorem valid_mask {p : List Int} (hp : IsIP p) {m : Int} (h0 : 0 ≤ m) (h1 : m ≤ 128) : validP (maskI p m) m = true := by
  simp [validP, h0, h1, mask_nest hp, minI_self]
theorem common_iff {p q : List Int} (hp : IsIP p) (hq : IsIP q) {m : Int} (h0 : 0 ≤ m) (h1 : m ≤ 128) : ∀ k, k ≤ 16 → ((m ≤ commonFrom p q k) ↔ ∀ i, 16 - k ≤ i → i < 16 → Lib.bitLen (xorAt p q i).toNat ≤ 8 - (keepN m i).toNat)
  | 0, _ => by
    simp only [commonFrom]
    exact ⟨fun _ i h h' => by omega, fun _ => h1⟩
  | k + 1, hk => by
    have ih := common_iff hp hq h0 h1 k (by omega)
    have hx := xor_bd hp hq (15 - k)
    have hbl := bitLen_fin ⟨(xorAt p q (15 - k)).toNat, by omega⟩
    simp only at hbl
    simp only [commonFrom]
    split
    · rename_i hne
      have hne' : Lib.bitLen (xorAt p q (15 - k)).toNat ≠ 0 := fun h => hne (by have := hbl.2.1 h; omega)
      constructor
      · intro h i hi hi'
        by_cases e : i = 15 - k
        · subst e
          unfold keepN
          split <;> (try split) <;> omega
        · have : keepN m i = 0 := by unfold keepN; split <;> (try split) <;> omega
          have hb := bitLen_fin ⟨(xorAt p q i).toNat, by have := xor_bd hp hq i; omega⟩
          simp only at hb
          rw [this]
          exact hb.1
      · intro h
        have := h (15 - k) (by omega) (by omega)
        unfold keepN at this
        split at this <;> (try split at this) <;> omega
    · rename_i he
      have he' : xorAt p q (15 - k) = 0 := Classical.byContradiction he
      rw [ih]
      constructor
      · intro h i hi hi'
        by_cases e : i = 15 - k
        · subst e
          rw [he']
          exact Nat.zero_le _
        · exact h i (by omega) hi'
      · intro h i hi hi'
        exact h i (by omega) hi'
theorem contains_common {p q : List Int} (hp : IsIP p) (hq : IsIP q) {m : Int} (h0 : 0 ≤ m) (h1 : m ≤ 128) : containsP (maskI p m) m q = decide (m ≤ commonI p q) := by
  unfold containsP
  rw [valid_mask hp h0 h1, Bool.true_and]
  have : (maskI q m = maskI p m) ↔ (m ≤ commonI p q) := by
    unfold commonI
    rw [common_iff hp hq h0 h1 16 (Nat.le_refl _), maskI_ext]
    constructor
    · intro h i _ hi
      exact (cutB_eq (hq.at_ i).1 (hq.at_ i).2 (hp.at_ i).1 (hp.at_ i).2 (keepN_bd _ _)).1 (h i hi)
    · intro h i hi
      exact (cutB_eq (hq.at_ i).1 (hq.at_ i).2 (hp.at_ i).1 (hp.at_ i).2 (keepN_bd _ _)).2 (h i (by omega) hi)
  by_cases h : m ≤ commonI p q
  · rw [decide_eq_true h, beq_iff_eq]; exact this.2 h
  · rw [decide_eq_false h, beq_eq_false_iff_ne]; exact fun he => h (this.1 he)
end

section
set_option linter.unusedVariables false
set_option linter.unusedSimpArgs false
open Go.RowKit
attribute [local irreducible] OpTo wpListIn Code.wpIn MW Cal
/-- the cells of a link address -/
def adC (m s e : Int) : List Value := [.int .i64 m, .int .u16 s, .int .u64 e]
def validA (m s e : Int) : Bool := if m = 0 then s == 0 && e == 0 else if m = 2 then e == 0 else if m = 3 then s == 0 else false
set_option maxHeartbeats 400000 in
theorem valid_c (m s e : Int) (W : World) : Cal Try.prog 104 [.agg (adC m s e).toArray].toArray W fun v w' => v = .bool (validA m s e) ∧ Ext [] W w' := by
  unfold adC validA
  by_cases h0 : m = 0
  · subst h0
    refine fn_ofM (n := 20) [] Try.func104 rfl rfl rfl ?_
    intro a w F M hwW
    refine c_seq ?_
    refine c_region ?_
    (refine stepD rfl F rfl (o_box M (F.ev rfl) rfl ?_); clear F; clear M; intro b1 w M a F)
    refine stepD rfl F rfl (o_assign (F.ev rfl) ?_); clear F; clear a; intro a F
    with_reducible refine l_nil ?_
    with_reducible refine q_then ?_
    with_reducible refine c_seq ?_
    with_reducible refine c_seq ?_
    with_reducible refine c_region ?_
    refine stepD rfl F rfl (o_fieldAddr (F.ev rfl) ?_); clear F; clear a; intro a F
    refine stepD rfl F rfl (o_load1 M (F.ev rfl) (by repeat (first | exact .here | apply Has.there)) (by first | assumption | rfl) ?_); clear F; clear a; intro a F
    with_reducible refine l_nil ?_
    with_reducible refine q_then ?_
    with_reducible refine c_block ?_
    with_reducible refine c_seq ?_
    with_reducible refine c_region ?_
    refine stepD rfl F rfl (o_eqlT (F.ev rfl) (F.ev rfl) (by omega) ?_); clear F; clear a; intro a F
    refine stepD rfl F rfl (o_assign (F.ev rfl) ?_); clear F; clear a; intro a F
    with_reducible refine l_nil ?_
    with_reducible refine q_then ?_
    refine c_true F rfl rfl ?_
    with_reducible refine c_seq ?_
    with_reducible refine c_region ?_
    refine stepD rfl F rfl (o_loadA M (F.ev rfl) (by repeat (first | exact .here | apply Has.there)) (by first | assumption | rfl) ?_); clear F; clear a; intro a F
    refine stepD rfl F rfl (o_build F rfl rfl ?_); clear F; clear a; intro a F
    refine stepD rfl F rfl (o_eqlA (F.ev rfl) (F.ev rfl) (by first | assumption | rfl) (by first | assumption | rfl) ?_); clear F; clear a; intro a F
    refine stepD rfl F rfl (o_assign (F.ev rfl) ?_); clear F; clear a; intro a F
    with_reducible refine l_nil ?_
    with_reducible refine q_then ?_
    with_reducible refine c_ret ?_
    with_reducible refine q_inBR ?_
    with_reducible refine q_thenR ?_
    refine p_ret F rfl (.cons (.tmp (F.ev rfl)) .nil) ?_
    exact ⟨by simp [oneOr, eqVs, eqV], M.ext⟩
  · by_cases h2 : m = 2
    · subst h2
      refine fn_ofM (n := 20) [] Try.func104 rfl rfl rfl ?_
      intro a w F M hwW
      refine c_seq ?_
      refine c_region ?_
      (refine stepD rfl F rfl (o_box M (F.ev rfl) rfl ?_); clear F; clear M; intro b1 w M a F)
      refine stepD rfl F rfl (o_assign (F.ev rfl) ?_); clear F; clear a; intro a F
      with_reducible refine l_nil ?_
      with_reducible refine q_then ?_
      with_reducible refine c_seq ?_
      with_reducible refine c_seq ?_
      with_reducible refine c_region ?_
      refine stepD rfl F rfl (o_fieldAddr (F.ev rfl) ?_); clear F; clear a; intro a F
      refine stepD rfl F rfl (o_load1 M (F.ev rfl) (by repeat (first | exact .here | apply Has.there)) (by first | assumption | rfl) ?_); clear F; clear a; intro a F
      with_reducible refine l_nil ?_
      with_reducible refine q_then ?_
      with_reducible refine c_block ?_
      with_reducible refine c_seq ?_
      with_reducible refine c_region ?_
      refine stepD rfl F rfl (o_eqlF (F.ev rfl) (F.ev rfl) (by omega) ?_); clear F; clear a; intro a F
      refine stepD rfl F rfl (o_assign (F.ev rfl) ?_); clear F; clear a; intro a F
      with_reducible refine l_nil ?_
      with_reducible refine q_then ?_
      refine c_false F rfl rfl ?_
      with_reducible refine c_seq ?_
      with_reducible refine c_region ?_
      refine stepD rfl F rfl (o_eqlT (F.ev rfl) (F.ev rfl) (by omega) ?_); clear F; clear a; intro a F
      refine stepD rfl F rfl (o_assign (F.ev rfl) ?_); clear F; clear a; intro a F
      with_reducible refine l_nil ?_
      with_reducible refine q_then ?_
      refine c_true F rfl rfl ?_
      with_reducible refine c_seq ?_
      with_reducible refine c_region ?_
      refine stepD rfl F rfl (o_fieldAddr (F.ev rfl) ?_); clear F; clear a; intro a F
      refine stepD rfl F rfl (o_load1 M (F.ev rfl) (by repeat (first | exact .here | apply Has.there)) (by first | assumption | rfl) ?_); clear F; clear a; intro a F
      refine stepD rfl F rfl (o_eql (F.ev rfl) (F.ev rfl) ?_); clear F; clear a; intro a F
      refine stepD rfl F rfl (o_assign (F.ev rfl) ?_); clear F; clear a; intro a F
      with_reducible refine l_nil ?_
      with_reducible refine q_then ?_
      with_reducible refine c_ret ?_
      with_reducible refine q_inBR ?_
      with_reducible refine q_thenR ?_
      refine p_ret F rfl (.cons (.tmp (F.ev rfl)) .nil) ?_
      exact ⟨by simp [oneOr], M.ext⟩
    · by_cases h3 : m = 3
      · subst h3
        refine fn_ofM (n := 20) [] Try.func104 rfl rfl rfl ?_
        intro a w F M hwW
        refine c_seq ?_
        refine c_region ?_
        (refine stepD rfl F rfl (o_box M (F.ev rfl) rfl ?_); clear F; clear M; intro b1 w M a F)
        refine stepD rfl F rfl (o_assign (F.ev rfl) ?_); clear F; clear a; intro a F
        with_reducible refine l_nil ?_
        with_reducible refine q_then ?_
        with_reducible refine c_seq ?_
        with_reducible refine c_seq ?_
        with_reducible refine c_region ?_
        refine stepD rfl F rfl (o_fieldAddr (F.ev rfl) ?_); clear F; clear a; intro a F
        refine stepD rfl F rfl (o_load1 M (F.ev rfl) (by repeat (first | exact .here | apply Has.there)) (by first | assumption | rfl) ?_); clear F; clear a; intro a F
        with_reducible refine l_nil ?_
        with_reducible refine q_then ?_
        with_reducible refine c_block ?_
        with_reducible refine c_seq ?_
        with_reducible refine c_region ?_
        refine stepD rfl F rfl (o_eqlF (F.ev rfl) (F.ev rfl) (by omega) ?_); clear F; clear a; intro a F
        refine stepD rfl F rfl (o_assign (F.ev rfl) ?_); clear F; clear a; intro a F
        with_reducible refine l_nil ?_
        with_reducible refine q_then ?_
        refine c_false F rfl rfl ?_
        with_reducible refine c_seq ?_
        with_reducible refine c_region ?_
        refine stepD rfl F rfl (o_eqlF (F.ev rfl) (F.ev rfl) (by omega) ?_); clear F; clear a; intro a F
        refine stepD rfl F rfl (o_assign (F.ev rfl) ?_); clear F; clear a; intro a F
        with_reducible refine l_nil ?_
        with_reducible refine q_then ?_
        refine c_false F rfl rfl ?_
        with_reducible refine c_seq ?_
        with_reducible refine c_region ?_
        refine stepD rfl F rfl (o_eqlT (F.ev rfl) (F.ev rfl) (by omega) ?_); clear F; clear a; intro a F
        refine stepD rfl F rfl (o_assign (F.ev rfl) ?_); clear F; clear a; intro a F
        with_reducible refine l_nil ?_
        with_reducible refine q_then ?_
        refine c_true F rfl rfl ?_
        with_reducible refine c_seq ?_
        with_reducible refine c_region ?_
        refine stepD rfl F rfl (o_fieldAddr (F.ev rfl) ?_); clear F; clear a; intro a F
        refine stepD rfl F rfl (o_load1 M (F.ev rfl) (by repeat (first | exact .here | apply Has.there)) (by first | assumption | rfl) ?_); clear F; clear a; intro a F
        refine stepD rfl F rfl (o_eql (F.ev rfl) (F.ev rfl) ?_); clear F; clear a; intro a F
        refine stepD rfl F rfl (o_assign (F.ev rfl) ?_); clear F; clear a; intro a F
        with_reducible refine l_nil ?_
        with_reducible refine q_then ?_
        with_reducible refine c_ret ?_
        with_reducible refine q_inBR ?_
        with_reducible refine q_thenR ?_
        refine p_ret F rfl (.cons (.tmp (F.ev rfl)) .nil) ?_
        exact ⟨by simp [oneOr], M.ext⟩
      · refine fn_ofM (n := 20) [] Try.func104 rfl rfl rfl ?_
        intro a w F M hwW
        refine c_seq ?_
        refine c_region ?_
        (refine stepD rfl F rfl (o_box M (F.ev rfl) rfl ?_); clear F; clear M; intro b1 w M a F)
        refine stepD rfl F rfl (o_assign (F.ev rfl) ?_); clear F; clear a; intro a F
        with_reducible refine l_nil ?_
        with_reducible refine q_then ?_
        with_reducible refine c_seq ?_
        with_reducible refine c_seq ?_
        with_reducible refine c_region ?_
        refine stepD rfl F rfl (o_fieldAddr (F.ev rfl) ?_); clear F; clear a; intro a F
        refine stepD rfl F rfl (o_load1 M (F.ev rfl) (by repeat (first | exact .here | apply Has.there)) (by first | assumption | rfl) ?_); clear F; clear a; intro a F
        with_reducible refine l_nil ?_
        with_reducible refine q_then ?_
        with_reducible refine c_block ?_
        with_reducible refine c_seq ?_
        with_reducible refine c_region ?_
        refine stepD rfl F rfl (o_eqlF (F.ev rfl) (F.ev rfl) (by omega) ?_); clear F; clear a; intro a F
        refine stepD rfl F rfl (o_assign (F.ev rfl) ?_); clear F; clear a; intro a F
        with_reducible refine l_nil ?_
        with_reducible refine q_then ?_
        refine c_false F rfl rfl ?_
        with_reducible refine c_seq ?_
        with_reducible refine c_region ?_
        refine stepD rfl F rfl (o_eqlF (F.ev rfl) (F.ev rfl) (by omega) ?_); clear F; clear a; intro a F
        refine stepD rfl F rfl (o_assign (F.ev rfl) ?_); clear F; clear a; intro a F
        with_reducible refine l_nil ?_
        with_reducible refine q_then ?_
        refine c_false F rfl rfl ?_
        with_reducible refine c_seq ?_
        with_reducible refine c_region ?_
        refine stepD rfl F rfl (o_eqlF (F.ev rfl) (F.ev rfl) (by omega) ?_); clear F; clear a; intro a F
        refine stepD rfl F rfl (o_assign (F.ev rfl) ?_); clear F; clear a; intro a F
        with_reducible refine l_nil ?_
        with_reducible refine q_then ?_
        refine c_false F rfl rfl ?_
        with_reducible refine c_skip ?_
        with_reducible refine q_inB ?_
        with_reducible refine q_then ?_
        with_reducible refine c_seq ?_
        with_reducible refine c_region ?_
        refine stepD rfl F rfl (o_assign (F.ev rfl) ?_); clear F; clear a; intro a F
        with_reducible refine l_nil ?_
        with_reducible refine q_then ?_
        with_reducible refine c_ret ?_
        refine p_ret F rfl (.cons (.tmp (F.ev rfl)) .nil) ?_
        exact ⟨by simp [oneOr, h0, h2, h3], M.ext⟩
/-- an interface identifier, of a valid link address other than none -/
def iidA (m s e : Int) : Option Int := if validA m s e then (if m = 2 then some (1099478073344 + s) else if m = 3 then some (bitsOf .xor .u64 e 144115188075855872) else none) else none
def optU (x : Option Int) : Value := .tuple #[.int .u64 (x.getD 0), .bool x.isSome]
set_option maxHeartbeats 400000 in
theorem iid_c (m s e : Int) (hs0 : 0 ≤ s) (hs1 : s ≤ 65535) (W : World) : Cal Try.prog 87 [.agg (adC m s e).toArray].toArray W fun v w' => v = optU (iidA m s e) ∧ Ext [] W w' := by
  have hb : @Eq (List Value) (adC m s e) [.int .i64 m, .int .u16 s, .int .u64 e] := rfl
  cases hv : validA m s e
  · refine fn_ofM (n := 20) [] Try.func87 rfl rfl rfl ?_
    intro a w F M hwW
    refine c_seq ?_
    refine c_region ?_
    (refine stepD rfl F rfl (o_box M (F.ev rfl) rfl ?_); clear F; clear M; intro b1 w M a F)
    refine stepD rfl F rfl (o_assign (F.ev rfl) ?_); clear F; clear a; intro a F
    refine stepD rfl F rfl (o_assign (F.ev rfl) ?_); clear F; clear a; intro a F
    with_reducible refine l_nil ?_
    with_reducible refine q_then ?_
    with_reducible refine c_seq ?_
    with_reducible refine c_seq ?_
    with_reducible refine c_region ?_
    refine stepD rfl F rfl (o_loadA M (F.ev rfl) (by repeat (first | exact .here | apply Has.there)) (by first | assumption | rfl) ?_); clear F; clear a; intro a F
    (refine stepD rfl F rfl (o_call (F.ev rfl) (F.evs rfl) (Cal.mono (Cal.to (valid_c m s e _) (by rw [hv])) ?_)); clear F; clear a; rintro _ w ⟨rfl, hE⟩ a F; replace M := M.later hE; clear hE)
    refine stepD rfl F rfl (o_not (F.ev rfl) ?_); clear F; clear a; intro a F
    with_reducible refine l_nil ?_
    with_reducible refine q_then ?_
    refine c_true F rfl rfl ?_
    with_reducible refine c_seq ?_
    with_reducible refine c_region ?_
    refine stepD rfl F rfl (o_assign (F.ev rfl) ?_); clear F; clear a; intro a F
    refine stepD rfl F rfl (o_assign (F.ev rfl) ?_); clear F; clear a; intro a F
    with_reducible refine l_nil ?_
    with_reducible refine q_then ?_
    with_reducible refine c_ret ?_
    with_reducible refine q_thenR ?_
    refine p_ret F rfl (.cons (.tmp (F.ev rfl)) (.cons (.tmp (F.ev rfl)) .nil)) ?_
    exact ⟨by simp [oneOr, optU, iidA, hv], M.ext⟩
  · by_cases h2 : m = 2
    · subst h2
      refine fn_ofM (n := 20) [] Try.func87 rfl rfl rfl ?_
      intro a w F M hwW
      refine c_seq ?_
      refine c_region ?_
      (refine stepD rfl F rfl (o_box M (F.ev rfl) rfl ?_); clear F; clear M; intro b1 w M a F)
      refine stepD rfl F rfl (o_assign (F.ev rfl) ?_); clear F; clear a; intro a F
      refine stepD rfl F rfl (o_assign (F.ev rfl) ?_); clear F; clear a; intro a F
      with_reducible refine l_nil ?_
      with_reducible refine q_then ?_
      with_reducible refine c_seq ?_
      with_reducible refine c_seq ?_
      with_reducible refine c_region ?_
      refine stepD rfl F rfl (o_loadA M (F.ev rfl) (by repeat (first | exact .here | apply Has.there)) (by first | assumption | rfl) ?_); clear F; clear a; intro a F
      (refine stepD rfl F rfl (o_call (F.ev rfl) (F.evs rfl) (Cal.mono (Cal.to (valid_c 2 s e _) (by rw [hv])) ?_)); clear F; clear a; rintro _ w ⟨rfl, hE⟩ a F; replace M := M.later hE; clear hE)
      refine stepD rfl F rfl (o_not (F.ev rfl) ?_); clear F; clear a; intro a F
      with_reducible refine l_nil ?_
      with_reducible refine q_then ?_
      refine c_false F rfl rfl ?_
      with_reducible refine c_skip ?_
      with_reducible refine q_then ?_
      with_reducible refine c_seq ?_
      with_reducible refine c_seq ?_
      with_reducible refine c_region ?_
      refine stepD rfl F rfl (o_fieldAddr (F.ev rfl) ?_); clear F; clear a; intro a F
      refine stepD rfl F rfl (o_load1 M (F.ev rfl) (by repeat (first | exact .here | apply Has.there)) (by first | assumption | rfl) ?_); clear F; clear a; intro a F
      with_reducible refine l_nil ?_
      with_reducible refine q_then ?_
      with_reducible refine c_block ?_
      with_reducible refine c_seq ?_
      with_reducible refine c_region ?_
      refine stepD rfl F rfl (o_eqlT (F.ev rfl) (F.ev rfl) (by omega) ?_); clear F; clear a; intro a F
      refine stepD rfl F rfl (o_assign (F.ev rfl) ?_); clear F; clear a; intro a F
      with_reducible refine l_nil ?_
      with_reducible refine q_then ?_
      refine c_true F rfl rfl ?_
      with_reducible refine c_seq ?_
      with_reducible refine c_region ?_
      refine stepD rfl F rfl (o_fieldAddr (F.ev rfl) ?_); clear F; clear a; intro a F
      refine stepD rfl F rfl (o_load1 M (F.ev rfl) (by repeat (first | exact .here | apply Has.there)) (by first | assumption | rfl) ?_); clear F; clear a; intro a F
      refine stepD rfl F rfl (o_conv (F.ev rfl) (w_u64 (by omega) (by omega)) ?_); clear F; clear a; intro a F
      refine stepD rfl F rfl (o_add (F.ev rfl) (F.ev rfl) (w_u64 (by omega) (by omega)) ?_); clear F; clear a; intro a F
      refine stepD rfl F rfl (o_assign (F.ev rfl) ?_); clear F; clear a; intro a F
      refine stepD rfl F rfl (o_assign (F.ev rfl) ?_); clear F; clear a; intro a F
      with_reducible refine l_nil ?_
      with_reducible refine q_then ?_
      with_reducible refine c_ret ?_
      with_reducible refine q_inBR ?_
      with_reducible refine q_thenR ?_
      refine p_ret F rfl (.cons (.tmp (F.ev rfl)) (.cons (.tmp (F.ev rfl)) .nil)) ?_
      exact ⟨by simp [oneOr, optU, iidA, hv], M.ext⟩
    · by_cases h3 : m = 3
      · subst h3
        refine fn_ofM (n := 20) [] Try.func87 rfl rfl rfl ?_
        intro a w F M hwW
        refine c_seq ?_
        refine c_region ?_
        (refine stepD rfl F rfl (o_box M (F.ev rfl) rfl ?_); clear F; clear M; intro b1 w M a F)
        refine stepD rfl F rfl (o_assign (F.ev rfl) ?_); clear F; clear a; intro a F
        refine stepD rfl F rfl (o_assign (F.ev rfl) ?_); clear F; clear a; intro a F
        with_reducible refine l_nil ?_
        with_reducible refine q_then ?_
        with_reducible refine c_seq ?_
        with_reducible refine c_seq ?_
        with_reducible refine c_region ?_
        refine stepD rfl F rfl (o_loadA M (F.ev rfl) (by repeat (first | exact .here | apply Has.there)) (by first | assumption | rfl) ?_); clear F; clear a; intro a F
        (refine stepD rfl F rfl (o_call (F.ev rfl) (F.evs rfl) (Cal.mono (Cal.to (valid_c 3 s e _) (by rw [hv])) ?_)); clear F; clear a; rintro _ w ⟨rfl, hE⟩ a F; replace M := M.later hE; clear hE)
        refine stepD rfl F rfl (o_not (F.ev rfl) ?_); clear F; clear a; intro a F
        with_reducible refine l_nil ?_
        with_reducible refine q_then ?_
        refine c_false F rfl rfl ?_
        with_reducible refine c_skip ?_
        with_reducible refine q_then ?_
        with_reducible refine c_seq ?_
        with_reducible refine c_seq ?_
        with_reducible refine c_region ?_
        refine stepD rfl F rfl (o_fieldAddr (F.ev rfl) ?_); clear F; clear a; intro a F
        refine stepD rfl F rfl (o_load1 M (F.ev rfl) (by repeat (first | exact .here | apply Has.there)) (by first | assumption | rfl) ?_); clear F; clear a; intro a F
        with_reducible refine l_nil ?_
        with_reducible refine q_then ?_
        with_reducible refine c_block ?_
        with_reducible refine c_seq ?_
        with_reducible refine c_region ?_
        refine stepD rfl F rfl (o_eqlF (F.ev rfl) (F.ev rfl) (by omega) ?_); clear F; clear a; intro a F
        refine stepD rfl F rfl (o_assign (F.ev rfl) ?_); clear F; clear a; intro a F
        with_reducible refine l_nil ?_
        with_reducible refine q_then ?_
        refine c_false F rfl rfl ?_
        with_reducible refine c_seq ?_
        with_reducible refine c_region ?_
        refine stepD rfl F rfl (o_eqlT (F.ev rfl) (F.ev rfl) (by omega) ?_); clear F; clear a; intro a F
        refine stepD rfl F rfl (o_assign (F.ev rfl) ?_); clear F; clear a; intro a F
        with_reducible refine l_nil ?_
        with_reducible refine q_then ?_
        refine c_true F rfl rfl ?_
        with_reducible refine c_seq ?_
        with_reducible refine c_region ?_
        refine stepD rfl F rfl (o_fieldAddr (F.ev rfl) ?_); clear F; clear a; intro a F
        refine stepD rfl F rfl (o_load1 M (F.ev rfl) (by repeat (first | exact .here | apply Has.there)) (by first | assumption | rfl) ?_); clear F; clear a; intro a F
        refine stepD rfl F rfl (o_xor (F.ev rfl) (F.ev rfl) rfl ?_); clear F; clear a; intro a F
        refine stepD rfl F rfl (o_assign (F.ev rfl) ?_); clear F; clear a; intro a F
        refine stepD rfl F rfl (o_assign (F.ev rfl) ?_); clear F; clear a; intro a F
        with_reducible refine l_nil ?_
        with_reducible refine q_then ?_
        with_reducible refine c_ret ?_
        with_reducible refine q_inBR ?_
        with_reducible refine q_thenR ?_
        refine p_ret F rfl (.cons (.tmp (F.ev rfl)) (.cons (.tmp (F.ev rfl)) .nil)) ?_
        exact ⟨by simp [oneOr, optU, iidA, hv], M.ext⟩
      · refine fn_ofM (n := 20) [] Try.func87 rfl rfl rfl ?_
        intro a w F M hwW
        refine c_seq ?_
        refine c_region ?_
        (refine stepD rfl F rfl (o_box M (F.ev rfl) rfl ?_); clear F; clear M; intro b1 w M a F)
        refine stepD rfl F rfl (o_assign (F.ev rfl) ?_); clear F; clear a; intro a F
        refine stepD rfl F rfl (o_assign (F.ev rfl) ?_); clear F; clear a; intro a F
        with_reducible refine l_nil ?_
        with_reducible refine q_then ?_
        with_reducible refine c_seq ?_
        with_reducible refine c_seq ?_
        with_reducible refine c_region ?_
        refine stepD rfl F rfl (o_loadA M (F.ev rfl) (by repeat (first | exact .here | apply Has.there)) (by first | assumption | rfl) ?_); clear F; clear a; intro a F
        (refine stepD rfl F rfl (o_call (F.ev rfl) (F.evs rfl) (Cal.mono (Cal.to (valid_c m s e _) (by rw [hv])) ?_)); clear F; clear a; rintro _ w ⟨rfl, hE⟩ a F; replace M := M.later hE; clear hE)
        refine stepD rfl F rfl (o_not (F.ev rfl) ?_); clear F; clear a; intro a F
        with_reducible refine l_nil ?_
        with_reducible refine q_then ?_
        refine c_false F rfl rfl ?_
        with_reducible refine c_skip ?_
        with_reducible refine q_then ?_
        with_reducible refine c_seq ?_
        with_reducible refine c_seq ?_
        with_reducible refine c_region ?_
        refine stepD rfl F rfl (o_fieldAddr (F.ev rfl) ?_); clear F; clear a; intro a F
        refine stepD rfl F rfl (o_load1 M (F.ev rfl) (by repeat (first | exact .here | apply Has.there)) (by first | assumption | rfl) ?_); clear F; clear a; intro a F
        with_reducible refine l_nil ?_
        with_reducible refine q_then ?_
        with_reducible refine c_block ?_
        with_reducible refine c_seq ?_
        with_reducible refine c_region ?_
        refine stepD rfl F rfl (o_eqlF (F.ev rfl) (F.ev rfl) (by omega) ?_); clear F; clear a; intro a F
        refine stepD rfl F rfl (o_assign (F.ev rfl) ?_); clear F; clear a; intro a F
        with_reducible refine l_nil ?_
        with_reducible refine q_then ?_
        refine c_false F rfl rfl ?_
        with_reducible refine c_seq ?_
        with_reducible refine c_region ?_
        refine stepD rfl F rfl (o_eqlF (F.ev rfl) (F.ev rfl) (by omega) ?_); clear F; clear a; intro a F
        refine stepD rfl F rfl (o_assign (F.ev rfl) ?_); clear F; clear a; intro a F
        with_reducible refine l_nil ?_
        with_reducible refine q_then ?_
        refine c_false F rfl rfl ?_
        with_reducible refine c_skip ?_
        with_reducible refine q_inB ?_
        with_reducible refine q_then ?_
        with_reducible refine c_seq ?_
        with_reducible refine c_region ?_
        refine stepD rfl F rfl (o_assign (F.ev rfl) ?_); clear F; clear a; intro a F
        refine stepD rfl F rfl (o_assign (F.ev rfl) ?_); clear F; clear a; intro a F
        with_reducible refine l_nil ?_
        with_reducible refine q_then ?_
        with_reducible refine c_ret ?_
        refine p_ret F rfl (.cons (.tmp (F.ev rfl)) (.cons (.tmp (F.ev rfl)) .nil)) ?_
        exact ⟨by simp [oneOr, optU, iidA, hv, h2, h3], M.ext⟩
end

section
set_option linter.unusedVariables false
set_option linter.unusedSimpArgs false
open Go.RowKit
attribute [local irreducible] OpTo wpListIn Code.wpIn MW Cal
/-- the number of a row of bytes, the first one highest -/
def beN (xs : List Int) : Int := xs.foldl (fun v c => 256 * v + c) 0
theorem beN_snoc (xs : List Int) (c : Int) : beN (xs ++ [c]) = 256 * beN xs + c := by simp [beN]
theorem beN_bd : ∀ (n : Nat) (xs : List Int), xs.length = n → (∀ x ∈ xs, 0 ≤ x ∧ x < 256) → 0 ≤ beN xs ∧ beN xs < ((256 ^ n : Nat) : Int)
  | 0, xs, hl, _ => by
    have : xs = [] := List.length_eq_zero_iff.1 hl
    subst this; simp [beN]
  | n + 1, xs, hl, h => by
    obtain ⟨ys, c, rfl⟩ : ∃ ys c, xs = ys ++ [c] := ⟨xs.dropLast, xs.getLast (by intro e; rw [e] at hl; cases hl), (List.dropLast_concat_getLast _).symm⟩
    have ih := beN_bd n ys (by simpa using hl) (fun x hx => h x (by simp [hx]))
    have hc := h c (by simp)
    rw [beN_snoc, Nat.pow_succ]
    omega
theorem shl8u64 {v c : Int} (h0 : 0 ≤ v) (h1 : v < 72057594037927936) (c0 : 0 ≤ c) (c1 : c < 256) : bitsOf .or .u64 (IntKind.u64.wrap (v * 2 ^ min (Int.toNat 8) IntKind.u64.bits)) c = 256 * v + c := by
  obtain ⟨q, rfl⟩ := Int.eq_ofNat_of_zero_le h0
  obtain ⟨n, rfl⟩ := Int.eq_ofNat_of_zero_le c0
  have e : IntKind.u64.wrap ((q : Int) * 2 ^ min (Int.toNat 8) IntKind.u64.bits) = ((2 ^ 8 * q : Nat) : Int) := by
    have : ((q : Int) * 2 ^ min (Int.toNat 8) IntKind.u64.bits) = ((2 ^ 8 * q : Nat) : Int) := by
      show (q : Int) * 256 = _
      omega
    rw [this]
    exact wrap_u rfl (show 2 ^ 8 * q < 18446744073709551616 by omega)
  rw [e, or_add (k := .u64) rfl 8 q n (by omega) (show 2 ^ 8 * q + n < 18446744073709551616 by omega)]
  omega
theorem seg_at {cs : List Value} {off n i : Nat} {xs : List Int} (h : seg cs off n = some (ipC xs)) (hi : i < n) {q : Nat} (hq : q = off + i) : nth cs q = some (.int .u8 (xs.getD i 0)) := by
  obtain ⟨h1, h2⟩ := seg_spec _ _ _ _ h
  have := h2 i hi
  subst hq
  rw [nth_spec, this]
  have hxn : xs.length = n := by simpa [ipC] using h1
  have hl : i < xs.length := by omega
  simp [ipC, hl]
set_option maxHeartbeats 400000 in
theorem uint_c {b o len cap : Nat} {at_ n : Nat} {cs : List Value} {t : TypeId} {fz : Nat × Nat} (xs : List Int) (W : World) (hb : W.heap[b]? = some (.cells cs.toArray t fz)) (hs : seg cs (o + at_) n = some (ipC xs)) (hx : ∀ x ∈ xs, 0 ≤ x ∧ x < 256) (h1 : 1 ≤ n) (h8 : n ≤ 8) (hl : at_ + n ≤ len) (hc : len ≤ cap) (hm : cap ≤ 9223372036854775807) :
    Cal Try.prog 111 [.slice (some ⟨b, o, none⟩) len cap, .int .i64 at_, .int .i64 n].toArray W fun v w' => v = .tuple #[.int .u64 (beN xs), .bool true] ∧ Ext [] W w' := by
  have hxl : xs.length = n := by have := (seg_spec _ _ _ _ hs).1; simpa [ipC] using this
  refine fn_ofM (n := 47) [b] Try.func111 rfl rfl rfl ?_
  intro a w F M hwW
  replace M := M.came hwW hb (by simp) (by simp)
  with_reducible refine c_seq ?_
  with_reducible refine c_region ?_
  refine stepD rfl F rfl (o_assign (F.ev rfl) ?_); clear F; clear a; intro a F
  refine stepD rfl F rfl (o_assign (F.ev rfl) ?_); clear F; clear a; intro a F
  with_reducible refine l_nil ?_
  with_reducible refine q_then ?_
  with_reducible refine c_seq ?_
  with_reducible refine c_seq ?_
  with_reducible refine c_region ?_
  refine stepD rfl F rfl (o_move (F.ev rfl) ?_); clear F; clear a; intro a F
  refine stepD rfl F rfl (o_lssF (F.ev rfl) (F.ev rfl) (by omega) ?_); clear F; clear a; intro a F
  refine stepD rfl F rfl (o_move (F.ev rfl) ?_); clear F; clear a; intro a F
  refine stepG rfl F rfl rfl rfl (o_move (F.ev rfl) ?_); clear F; clear a; intro a F
  refine stepG rfl F rfl rfl rfl (o_gtrF (F.ev rfl) (F.ev rfl) (by omega) ?_); clear F; clear a; intro a F
  refine stepD rfl F rfl (o_pickF (F.ev rfl) (F.ev rfl) ?_); clear F; clear a; intro a F
  refine stepD rfl F rfl (o_move (F.ev rfl) ?_); clear F; clear a; intro a F
  refine stepG rfl F rfl rfl rfl (o_move (F.ev rfl) ?_); clear F; clear a; intro a F
  refine stepG rfl F rfl rfl rfl (o_lssF (F.ev rfl) (F.ev rfl) (by omega) ?_); clear F; clear a; intro a F
  refine stepD rfl F rfl (o_pickF (F.ev rfl) (F.ev rfl) ?_); clear F; clear a; intro a F
  refine stepD rfl F rfl (o_move (F.ev rfl) ?_); clear F; clear a; intro a F
  refine stepG rfl F rfl rfl rfl (o_move (F.ev rfl) ?_); clear F; clear a; intro a F
  refine stepG rfl F rfl rfl rfl (o_move (F.ev rfl) ?_); clear F; clear a; intro a F
  refine stepG rfl F rfl rfl rfl (o_lenSl (F.ev rfl) ?_); clear F; clear a; intro a F
  refine stepG rfl F rfl rfl rfl (o_move (F.ev rfl) ?_); clear F; clear a; intro a F
  refine stepG rfl F rfl rfl rfl (o_sub (F.ev rfl) (F.ev rfl) (w_i64 (by omega) (by omega)) ?_); clear F; clear a; intro a F
  refine stepG rfl F rfl rfl rfl (o_gtrF (F.ev rfl) (F.ev rfl) (by omega) ?_); clear F; clear a; intro a F
  refine stepD rfl F rfl (o_pickF (F.ev rfl) (F.ev rfl) ?_); clear F; clear a; intro a F
  with_reducible refine l_nil ?_
  with_reducible refine q_then ?_
  refine c_false F rfl rfl ?_
  with_reducible refine c_skip ?_
  with_reducible refine q_then ?_
  with_reducible refine c_seq ?_
  with_reducible refine c_region ?_
  refine stepD rfl F rfl (o_assign (F.ev rfl) ?_); clear F; clear a; intro a F
  with_reducible refine l_nil ?_
  with_reducible refine q_then ?_
  with_reducible refine c_seq ?_
  with_reducible refine c_seq ?_
  with_reducible refine c_region ?_
  refine stepD rfl F rfl (o_move (F.ev rfl) ?_); clear F; clear a; intro a F
  refine stepD rfl F rfl (o_move (F.ev rfl) ?_); clear F; clear a; intro a F
  refine stepD rfl F rfl (o_move (F.ev rfl) ?_); clear F; clear a; intro a F
  refine stepD rfl F rfl (o_move (F.ev rfl) ?_); clear F; clear a; intro a F
  refine stepD rfl F rfl (o_add (F.ev rfl) (F.ev rfl) (w_i64 (by omega) (by omega)) ?_); clear F; clear a; intro a F
  (refine stepD rfl F rfl (o_slLH (F.ev rfl) (F.ev rfl) (F.ev rfl) (by omega) (by omega) (by omega) (by omega) ?_); clear F; clear a; intro a F)
  refine stepD rfl F rfl (o_lenSl (F.ev rfl) ?_); clear F; clear a; intro a F
  refine stepD rfl F rfl (o_move (F.ev rfl) ?_); clear F; clear a; intro a F
  with_reducible refine l_nil ?_
  with_reducible refine q_then ?_
  with_reducible refine c_block ?_
  refine c_loop (fun k a w => ∃ i : Nat, k = n - i ∧ i ≤ n ∧ Frm a 47 [] [(36, .int .i64 i), (35, .int .i64 n), (34, .slice (some ⟨b, o + at_, none⟩) n (cap - at_)), (8, .int .u64 (beN (xs.take i)))] ∧ Mem [b] W w [(b, .cells cs.toArray t fz)]) n ⟨0, rfl, by omega, ?_, M⟩ ?_
  · have e1 : (((at_ : Int) + (n : Int)).toNat - (at_ : Int).toNat) = n := by omega
    have e2 : o + (at_ : Int).toNat * 1 = o + at_ := by omega
    have e3 : cap - (at_ : Int).toNat = cap - at_ := by omega
    rw [e1, e2, e3] at F
    exact F.only [36, 35, 34, 8] rfl
  clear F M
  rintro k a w ⟨i, hk, hi, F, M⟩
  by_cases hlt : i < n
  · have e1 := seg_at hs hlt (q := o + at_ + (i : Int).toNat * 1) (by omega)
    have hg := hx (xs.getD i 0) (by rw [List.getD_eq_getElem?_getD, List.getElem?_eq_getElem (by omega)]; exact List.getElem_mem _)
    have hv := beN_bd i (xs.take i) (by rw [List.length_take]; omega) (fun x h => hx x (List.mem_of_mem_take h))
    have hp : 256 ^ i ≤ 72057594037927936 := Nat.le_trans (Nat.pow_le_pow_right (by omega) (show i ≤ 7 by omega)) (by decide)
    with_reducible refine c_seq ?_
    with_reducible refine c_region ?_
    refine stepD rfl F rfl (o_lssT (F.ev rfl) (F.ev rfl) (by omega) ?_); clear F; clear a; intro a F
    with_reducible refine l_nil ?_
    with_reducible refine q_then ?_
    with_reducible refine c_seq ?_
    refine c_true F rfl rfl ?_
    with_reducible refine c_skip ?_
    with_reducible refine q_then ?_
    with_reducible refine c_seq ?_
    with_reducible refine c_block ?_
    with_reducible refine c_seq ?_
    with_reducible refine c_region ?_
    refine stepD rfl F rfl (o_indexSl (F.ev rfl) (F.ev rfl) (by omega) (by omega) ?_); clear F; clear a; intro a F
    refine stepD rfl F rfl (o_load1 M (F.ev rfl) (by repeat (first | exact .here | apply Has.there)) (by first | assumption | rfl) ?_); clear F; clear a; intro a F
    refine stepD rfl F rfl (o_assign (F.ev rfl) ?_); clear F; clear a; intro a F
    with_reducible refine l_nil ?_
    with_reducible refine q_then ?_
    with_reducible refine c_region ?_
    refine stepD rfl F rfl (o_move (F.ev rfl) ?_); clear F; clear a; intro a F
    refine stepD rfl F rfl (o_shl (F.ev rfl) (F.ev rfl) (by omega) rfl ?_); clear F; clear a; intro a F
    refine stepD rfl F rfl (o_move (F.ev rfl) ?_); clear F; clear a; intro a F
    refine stepD rfl F rfl (o_conv (F.ev rfl) (w_u64 (by omega) (by omega)) ?_); clear F; clear a; intro a F
    refine stepD rfl F rfl (o_or (F.ev rfl) (F.ev rfl) rfl ?_); clear F; clear a; intro a F
    refine stepD rfl F rfl (o_assign (F.ev rfl) ?_); clear F; clear a; intro a F
    with_reducible refine l_nil ?_
    with_reducible refine q_inB ?_
    with_reducible refine q_then ?_
    with_reducible refine c_region ?_
    refine stepD rfl F rfl (o_add (F.ev rfl) (F.ev rfl) (w_i64 (by omega) (by omega)) ?_); clear F; clear a; intro a F
    refine stepD rfl F rfl (o_move (F.ev rfl) ?_); clear F; clear a; intro a F
    with_reducible refine l_nil ?_
    with_reducible refine q_then ?_
    rw [shl8u64 hv.1 (by omega) hg.1 hg.2] at F
    skip
    have hsn : xs.take (i + 1) = xs.take i ++ [xs.getD i 0] := by
      rw [List.take_succ_eq_append_getElem (by omega), List.getD_eq_getElem?_getD, List.getElem?_eq_getElem (by omega)]; rfl
    refine ⟨_, by omega, i + 1, rfl, by omega, ?_, M⟩
    rw [hsn, beN_snoc]
    exact F.only [36, 35, 34, 8] rfl
  · obtain rfl : i = n := by omega
    rw [List.take_of_length_le (by omega)] at F
    with_reducible refine c_seq ?_
    with_reducible refine c_region ?_
    refine stepD rfl F rfl (o_lssF (F.ev rfl) (F.ev rfl) (by omega) ?_); clear F; clear a; intro a F
    with_reducible refine l_nil ?_
    with_reducible refine q_then ?_
    with_reducible refine c_seq ?_
    refine c_false F rfl rfl ?_
    with_reducible refine c_exit ?_
    with_reducible refine q_thenX ?_
    with_reducible refine q_thenX ?_
    with_reducible refine q_inBX ?_
    with_reducible refine q_then ?_
    with_reducible refine c_seq ?_
    with_reducible refine c_region ?_
    refine stepD rfl F rfl (o_move (F.ev rfl) ?_); clear F; clear a; intro a F
    refine stepD rfl F rfl (o_assign (F.ev rfl) ?_); clear F; clear a; intro a F
    refine stepD rfl F rfl (o_assign (F.ev rfl) ?_); clear F; clear a; intro a F
    with_reducible refine l_nil ?_
    with_reducible refine q_then ?_
    with_reducible refine c_ret ?_
    refine p_ret F rfl (.cons (.tmp (F.ev rfl)) (.cons (.tmp (F.ev rfl)) .nil)) ?_
    exact ⟨rfl, M.back1 .here hb⟩
/-- the two halves -/
theorem split_c (p : List Int) (hp : IsIP p) (W : World) : Cal Try.prog 98 [.agg (ipC p).toArray].toArray W fun v w' => v = .tuple #[.int .u64 (beN (p.take 8)), .int .u64 (beN (p.drop 8))] ∧ Ext [] W w' := by
  have hb : ∀ x ∈ p, 0 ≤ x ∧ x < 256 := hp.bd
  have s1 : seg (ipC p) (0 + 0) 8 = some (ipC (p.take 8)) := by
    have := seg_of [] (ipC (p.take 8)) (ipC (p.drop 8))
    have hl : (ipC (p.take 8)).length = 8 := by simp [ipC, hp.len]
    rw [hl] at this
    simpa [ipC, ← List.map_append] using this
  have s2 : seg (ipC p) (0 + 8) 8 = some (ipC (p.drop 8)) := by
    have := seg_of (ipC (p.take 8)) (ipC (p.drop 8)) []
    have hl : (ipC (p.take 8)).length = 8 := by simp [ipC, hp.len]
    have hl2 : (ipC (p.drop 8)).length = 8 := by simp [ipC, hp.len]
    rw [hl, hl2] at this
    simpa [ipC, ← List.map_append] using this
  refine fn_ofM (n := 20) [] Try.func98 rfl rfl rfl ?_
  intro a w F M hwW
  refine c_seq ?_
  refine c_region ?_
  (refine stepD rfl F rfl (o_box M (F.ev rfl) rfl ?_); clear F; clear M; intro b1 w M a F)
  refine stepD rfl F rfl (o_assign (F.ev rfl) ?_); clear F; clear a; intro a F
  refine stepD rfl F rfl (o_assign (F.ev rfl) ?_); clear F; clear a; intro a F
  with_reducible refine l_nil ?_
  with_reducible refine q_then ?_
  with_reducible refine c_seq ?_
  with_reducible refine c_region ?_
  (refine stepD rfl F rfl (o_arrAll (F.ev rfl) ?_); clear F; clear a; intro a F)
  (refine stepD rfl F rfl (o_call (F.ev rfl) (F.evs rfl) (Cal.mono (uint_c (b := b1) (at_ := 0) (n := 8) (p.take 8) _ (M.heap .here) s1 (fun x h => hb x (List.mem_of_mem_take h)) (by omega) (by omega) (by omega) (by omega) (by omega)) ?_)); clear F; clear a; rintro _ w ⟨rfl, hE⟩ a F; replace M := M.later hE; clear hE)
  refine stepD rfl F rfl (o_move (F.ev rfl) ?_); clear F; clear a; intro a F
  refine stepD rfl F rfl (o_extract (F.ev rfl) rfl ?_); clear F; clear a; intro a F
  refine stepD rfl F rfl (o_extract (F.ev rfl) rfl ?_); clear F; clear a; intro a F
  refine stepD rfl F rfl (o_assign (F.ev rfl) ?_); clear F; clear a; intro a F
  refine stepD rfl F rfl (o_assign (F.ev rfl) ?_); clear F; clear a; intro a F
  with_reducible refine l_nil ?_
  with_reducible refine q_then ?_
  with_reducible refine c_seq ?_
  with_reducible refine c_region ?_
  (refine stepD rfl F rfl (o_arrAll (F.ev rfl) ?_); clear F; clear a; intro a F)
  (refine stepD rfl F rfl (o_call (F.ev rfl) (F.evs rfl) (Cal.mono (uint_c (b := b1) (at_ := 8) (n := 8) (p.drop 8) _ (M.heap .here) s2 (fun x h => hb x (List.mem_of_mem_drop h)) (by omega) (by omega) (by omega) (by omega) (by omega)) ?_)); clear F; clear a; rintro _ w ⟨rfl, hE⟩ a F; replace M := M.later hE; clear hE)
  refine stepD rfl F rfl (o_move (F.ev rfl) ?_); clear F; clear a; intro a F
  refine stepD rfl F rfl (o_extract (F.ev rfl) rfl ?_); clear F; clear a; intro a F
  refine stepD rfl F rfl (o_extract (F.ev rfl) rfl ?_); clear F; clear a; intro a F
  refine stepD rfl F rfl (o_assign (F.ev rfl) ?_); clear F; clear a; intro a F
  refine stepD rfl F rfl (o_assign (F.ev rfl) ?_); clear F; clear a; intro a F
  with_reducible refine l_nil ?_
  with_reducible refine q_then ?_
  with_reducible refine c_seq ?_
  with_reducible refine c_region ?_
  refine stepD rfl F rfl (o_move (F.ev rfl) ?_); clear F; clear a; intro a F
  refine stepD rfl F rfl (o_move (F.ev rfl) ?_); clear F; clear a; intro a F
  refine stepD rfl F rfl (o_assign (F.ev rfl) ?_); clear F; clear a; intro a F
  refine stepD rfl F rfl (o_assign (F.ev rfl) ?_); clear F; clear a; intro a F
  with_reducible refine l_nil ?_
  with_reducible refine q_then ?_
  with_reducible refine c_ret ?_
  refine p_ret F rfl (.cons (.tmp (F.ev rfl)) (.cons (.tmp (F.ev rfl)) .nil)) ?_
  exact ⟨rfl, M.ext⟩
end

section
set_option linter.unusedVariables false
set_option linter.unusedSimpArgs false
open Go.RowKit
attribute [local irreducible] OpTo wpListIn Code.wpIn MW Cal
/-- byte i of the 8 bytes of a number -/
def beAt (v : Int) (i : Nat) : Int := IntKind.u8.wrap (Int.fdiv v (2 ^ min (8 * (8 - 1 - (i : Int))).toNat 64))
def beB (v : Int) : List Int := (List.range 8).map (beAt v)
def brow (v : Int) (i : Nat) : List Value := (List.range 8).map fun j => if j < i then .int .u8 (beAt v j) else .int .u8 0
theorem brow_all (v : Int) : brow v 8 = ipC (beB v) := by
  unfold brow beB ipC
  rw [List.map_map]
  refine List.map_congr_left fun j hj => ?_
  simp [List.mem_range.1 hj]
theorem put_brow {v : Int} {i : Nat} (h : i < 8) {q : Nat} (hq : q = i) : put (brow v i) q [.int .u8 (beAt v i)] = some (brow v (i + 1)) := by
  rw [put1 (q := i) _ hq (by simp [brow]; omega)]
  congr 1
  unfold brow
  apply List.ext_getElem (by simp)
  intro j h1 h2
  simp only [List.getElem_set, List.getElem_map, List.getElem_range]
  split
  · subst_vars; simp
  · have : j < i ↔ j < i + 1 := by omega
    simp [this]
set_option maxHeartbeats 400000 in
theorem append8_c (v : Int) (h0 : 0 ≤ v) (W : World) : Cal Try.prog 105 [.slice none 0 0, .int .u64 v, .int .i64 8].toArray W fun x w' => ∃ b, x = .slice (some ⟨b, 0, none⟩) 8 8 ∧ Mem [] W w' [(b, .cells (ipC (beB v)).toArray 5 (0, 0))] := by
  refine fn_ofM (n := 43) [] Try.func105 rfl rfl rfl ?_
  intro a w F M hwW
  with_reducible refine c_seq ?_
  with_reducible refine c_region ?_
  refine stepD rfl F rfl (o_assign (F.ev rfl) ?_); clear F; clear a; intro a F
  with_reducible refine l_nil ?_
  with_reducible refine q_then ?_
  with_reducible refine c_seq ?_
  with_reducible refine c_seq ?_
  with_reducible refine c_region ?_
  refine stepD rfl F rfl (o_move (F.ev rfl) ?_); clear F; clear a; intro a F
  refine stepD rfl F rfl (o_lssF (F.ev rfl) (F.ev rfl) (by omega) ?_); clear F; clear a; intro a F
  refine stepD rfl F rfl (o_move (F.ev rfl) ?_); clear F; clear a; intro a F
  refine stepG rfl F rfl rfl rfl (o_move (F.ev rfl) ?_); clear F; clear a; intro a F
  refine stepG rfl F rfl rfl rfl (o_gtrF (F.ev rfl) (F.ev rfl) (by omega) ?_); clear F; clear a; intro a F
  refine stepD rfl F rfl (o_pickF (F.ev rfl) (F.ev rfl) ?_); clear F; clear a; intro a F
  with_reducible refine l_nil ?_
  with_reducible refine q_then ?_
  refine c_false F rfl rfl ?_
  with_reducible refine c_skip ?_
  with_reducible refine q_then ?_
  with_reducible refine c_seq ?_
  with_reducible refine c_region ?_
  refine stepD rfl F rfl (o_move (F.ev rfl) ?_); clear F; clear a; intro a F
  refine stepD rfl F rfl (o_lenSl (F.ev rfl) ?_); clear F; clear a; intro a F
  refine stepD rfl F rfl (o_move (F.ev rfl) ?_); clear F; clear a; intro a F
  refine stepD rfl F rfl (o_add (F.ev rfl) (F.ev rfl) (w_i64 (by omega) (by omega)) ?_); clear F; clear a; intro a F
  (refine stepD rfl F rfl (o_make1 M (F.ev rfl) (F.ev rfl) (by omega) (by omega) (by omega) ?_); clear F; clear M; intro b w M a F)
  refine stepD rfl F rfl (o_assign (F.ev rfl) ?_); clear F; clear a; intro a F
  with_reducible refine l_nil ?_
  with_reducible refine q_then ?_
  with_reducible refine c_seq ?_
  with_reducible refine c_region ?_
  refine stepD rfl F rfl (o_move (F.ev rfl) ?_); clear F; clear a; intro a F
  refine stepD rfl F rfl (o_move (F.ev rfl) ?_); clear F; clear a; intro a F
  (refine stepD rfl F rfl (o_copyNil (F.ev rfl) (F.ev rfl) ?_); clear F; clear a; intro a F)
  with_reducible refine l_nil ?_
  with_reducible refine q_then ?_
  with_reducible refine c_seq ?_
  with_reducible refine c_seq ?_
  with_reducible refine c_region ?_
  refine stepD rfl F rfl (o_move (F.ev rfl) ?_); clear F; clear a; intro a F
  refine stepD rfl F rfl (o_move (F.ev rfl) ?_); clear F; clear a; intro a F
  with_reducible refine l_nil ?_
  with_reducible refine q_then ?_
  with_reducible refine c_block ?_
  refine c_loop (fun k a w => ∃ i : Nat, k = 8 - i ∧ i ≤ 8 ∧ Frm a 43 [] [(24, .int .i64 i), (23, .int .i64 8), (7, .slice (some ⟨b, 0, none⟩) 8 8), (0, .slice none 0 0), (1, .int .u64 v), (2, .int .i64 8)] ∧ Mem [] W w [(b, .cells (brow v i).toArray 5 (0, 0))]) 8 ⟨0, rfl, by omega, F.only [24, 23, 7, 0, 1, 2] rfl, M⟩ ?_
  clear F M
  rintro k a w ⟨i, hk, hi, F, M⟩
  by_cases hlt : i < 8
  · with_reducible refine c_seq ?_
    with_reducible refine c_region ?_
    refine stepD rfl F rfl (o_lssT (F.ev rfl) (F.ev rfl) (by omega) ?_); clear F; clear a; intro a F
    with_reducible refine l_nil ?_
    with_reducible refine q_then ?_
    with_reducible refine c_seq ?_
    refine c_true F rfl rfl ?_
    with_reducible refine c_skip ?_
    with_reducible refine q_then ?_
    with_reducible refine c_seq ?_
    with_reducible refine c_block ?_
    with_reducible refine c_seq ?_
    with_reducible refine c_region ?_
    refine stepD rfl F rfl (o_move (F.ev rfl) ?_); clear F; clear a; intro a F
    refine stepD rfl F rfl (o_assign (F.ev rfl) ?_); clear F; clear a; intro a F
    with_reducible refine l_nil ?_
    with_reducible refine q_then ?_
    with_reducible refine c_region ?_
    refine stepD rfl F rfl (o_move (F.ev rfl) ?_); clear F; clear a; intro a F
    refine stepD rfl F rfl (o_move (F.ev rfl) ?_); clear F; clear a; intro a F
    refine stepD rfl F rfl (o_lenSl (F.ev rfl) ?_); clear F; clear a; intro a F
    refine stepD rfl F rfl (o_move (F.ev rfl) ?_); clear F; clear a; intro a F
    refine stepD rfl F rfl (o_add (F.ev rfl) (F.ev rfl) (w_i64 (by omega) (by omega)) ?_); clear F; clear a; intro a F
    refine stepD rfl F rfl (o_move (F.ev rfl) ?_); clear F; clear a; intro a F
    refine stepD rfl F rfl (o_move (F.ev rfl) ?_); clear F; clear a; intro a F
    refine stepD rfl F rfl (o_sub (F.ev rfl) (F.ev rfl) (w_i64 (by omega) (by omega)) ?_); clear F; clear a; intro a F
    refine stepD rfl F rfl (o_move (F.ev rfl) ?_); clear F; clear a; intro a F
    refine stepD rfl F rfl (o_sub (F.ev rfl) (F.ev rfl) (w_i64 (by omega) (by omega)) ?_); clear F; clear a; intro a F
    refine stepD rfl F rfl (o_mul (F.ev rfl) (F.ev rfl) (w_i64 (by omega) (by omega)) ?_); clear F; clear a; intro a F
    refine stepD rfl F rfl (o_shr (F.ev rfl) (F.ev rfl) (by omega) rfl ?_); clear F; clear a; intro a F
    refine stepD rfl F rfl (o_conv (F.ev rfl) rfl ?_); clear F; clear a; intro a F
    refine stepD rfl F rfl (o_indexSl (F.ev rfl) (F.ev rfl) (by omega) (by omega) ?_); clear F; clear a; intro a F
    (refine stepN rfl F (o_store1 M (F.ev rfl) (F.ev rfl) rfl (by repeat (first | exact .here | apply Has.there)) (put_brow hlt (by omega)) (by repeat (first | exact .here | apply Upd.there)) ?_); clear F; clear M; intro w M a F)
    with_reducible refine l_nil ?_
    with_reducible refine q_inB ?_
    with_reducible refine q_then ?_
    with_reducible refine c_region ?_
    refine stepD rfl F rfl (o_add (F.ev rfl) (F.ev rfl) (w_i64 (by omega) (by omega)) ?_); clear F; clear a; intro a F
    refine stepD rfl F rfl (o_move (F.ev rfl) ?_); clear F; clear a; intro a F
    with_reducible refine l_nil ?_
    with_reducible refine q_then ?_
    exact ⟨_, by omega, i + 1, rfl, by omega, F.only [24, 23, 7, 0, 1, 2] rfl, M⟩
  · obtain rfl : i = 8 := by omega
    rw [brow_all] at M
    with_reducible refine c_seq ?_
    with_reducible refine c_region ?_
    refine stepD rfl F rfl (o_lssF (F.ev rfl) (F.ev rfl) (by omega) ?_); clear F; clear a; intro a F
    with_reducible refine l_nil ?_
    with_reducible refine q_then ?_
    with_reducible refine c_seq ?_
    refine c_false F rfl rfl ?_
    with_reducible refine c_exit ?_
    with_reducible refine q_thenX ?_
    with_reducible refine q_thenX ?_
    with_reducible refine q_inBX ?_
    with_reducible refine q_then ?_
    with_reducible refine c_seq ?_
    with_reducible refine c_region ?_
    refine stepD rfl F rfl (o_move (F.ev rfl) ?_); clear F; clear a; intro a F
    refine stepD rfl F rfl (o_assign (F.ev rfl) ?_); clear F; clear a; intro a F
    with_reducible refine l_nil ?_
    with_reducible refine q_then ?_
    with_reducible refine c_ret ?_
    refine p_ret F rfl (.cons (.tmp (F.ev rfl)) .nil) ?_
    exact ⟨b, rfl, M⟩
end

section
set_option linter.unusedVariables false
set_option linter.unusedSimpArgs false
open Go.RowKit
attribute [local irreducible] OpTo wpListIn Code.wpIn MW Cal
def joinI (p : List Int) (v : Int) : List Int := p.take 8 ++ beB v
def zeroIP : List Int := [0, 0, 0, 0, 0, 0, 0, 0, 0, 0, 0, 0, 0, 0, 0, 0]
def joinP (p : List Int) (n v : Int) : Option (List Int) := if validP p n && decide (n ≤ 64) then some (joinI p v) else none
def optIP (x : Option (List Int)) : Value := .tuple #[.agg (ipC (x.getD zeroIP)).toArray, .bool x.isSome]
theorem beB_len (v : Int) : (beB v).length = 8 := by simp [beB]
set_option maxHeartbeats 1000000 in
theorem join_c (p : List Int) (hp : p.length = 16) (n v : Int) (hv : 0 ≤ v) (W : World) : Cal Try.prog 88 [.agg (pfC p n).toArray, .int .u64 v].toArray W fun x w' => x = optIP (joinP p n v) ∧ Ext [] W w' := by
  have e1 := seg_pf hp n
  have e2 := seg_pf0 hp n
  have e3 := nth_pf hp n
  have s2 : seg (ipC (beB v)) 0 (8 * 1) = some (ipC (beB v)) := seg_all (by simp [ipC, beB_len])
  have hput : put (ipC p) (0 + (8 : Int).toNat * 1) (ipC (beB v)) = some (ipC (joinI p v)) := by
    rw [put_of _ _ _ (by simp [ipC, beB_len, hp])]
    have hl : (ipC (beB v)).length = 8 := by simp [ipC, beB_len]
    simp only [splice, hl]
    rw [List.drop_eq_nil_of_le (by simp [ipC, hp])]
    simp [ipC, joinI]
  have s3 : seg (ipC (joinI p v)) 0 16 = some (ipC (joinI p v)) := seg_all (by simp [ipC, joinI, beB_len, hp])
  have hl3 : (ipC (joinI p v)).length = 16 := by simp [ipC, joinI, beB_len, hp]
  cases hvp : validP p n
  · refine fn_ofM (n := 23) [] Try.func88 rfl rfl rfl ?_
    intro a w F M hwW
    refine c_seq ?_
    refine c_region ?_
    (refine stepD rfl F rfl (o_box M (F.ev rfl) rfl ?_); clear F; clear M; intro b2 w M a F)
    (refine stepD rfl F rfl (o_alloc M ?_); clear F; clear M; intro b4 w M a F)
    refine stepD rfl F rfl (o_assign (F.ev rfl) ?_); clear F; clear a; intro a F
    with_reducible refine l_nil ?_
    with_reducible refine q_then ?_
    with_reducible refine c_seq ?_
    with_reducible refine c_seq ?_
    with_reducible refine c_region ?_
    refine stepD rfl F rfl (o_loadA M (F.ev rfl) (by repeat (first | exact .here | apply Has.there)) (by first | assumption | rfl) ?_); clear F; clear a; intro a F
    (refine stepD rfl F rfl (o_call (F.ev rfl) (F.evs rfl) (Cal.mono (Cal.to (validPrefix_c p n hp _) (by rw [hvp])) ?_)); clear F; clear a; rintro _ w ⟨rfl, hE⟩ a F; replace M := M.later hE; clear hE)
    refine stepD rfl F rfl (o_not (F.ev rfl) ?_); clear F; clear a; intro a F
    refine stepD rfl F rfl (o_move (F.ev rfl) ?_); clear F; clear a; intro a F
    refine stepOff F rfl rfl rfl rfl ?_; clear F; clear a; intro a F
    refine stepOff F rfl rfl rfl rfl ?_; clear F; clear a; intro a F
    refine stepOff F rfl rfl rfl rfl ?_; clear F; clear a; intro a F
    refine stepD rfl F rfl (o_pickT (F.ev rfl) (F.ev rfl) ?_); clear F; clear a; intro a F
    with_reducible refine l_nil ?_
    with_reducible refine q_then ?_
    refine c_true F rfl rfl ?_
    with_reducible refine c_seq ?_
    with_reducible refine c_region ?_
    refine stepD rfl F rfl (o_build F rfl rfl ?_); clear F; clear a; intro a F
    (refine stepN rfl F (o_storeA M (F.ev rfl) (F.ev rfl) (by rfl) (by rfl) (by repeat (first | exact .here | apply Has.there)) (by rfl) (by repeat (first | exact .here | apply Upd.there)) ?_); clear F; clear M; intro w M a F)
    refine stepD rfl F rfl (o_assign (F.ev rfl) ?_); clear F; clear a; intro a F
    with_reducible refine l_nil ?_
    with_reducible refine q_then ?_
    with_reducible refine c_ret ?_
    with_reducible refine q_thenR ?_
    refine p_ret F rfl (.cons (.cell (F.ev rfl) (run_loadVar_agg TAgg.h (M.heap (by repeat (first | exact .here | apply Has.there))) rfl)) (.cons (.tmp (F.ev rfl)) .nil)) ⟨by simp [joinP, hvp, optIP, oneOr, zeroIP, ipC], M.ext⟩
  · by_cases h64 : n ≤ 64
    · refine fn_ofM (n := 23) [] Try.func88 rfl rfl rfl ?_
      intro a w F M hwW
      refine c_seq ?_
      refine c_region ?_
      (refine stepD rfl F rfl (o_box M (F.ev rfl) rfl ?_); clear F; clear M; intro b2 w M a F)
      (refine stepD rfl F rfl (o_alloc M ?_); clear F; clear M; intro b4 w M a F)
      refine stepD rfl F rfl (o_assign (F.ev rfl) ?_); clear F; clear a; intro a F
      with_reducible refine l_nil ?_
      with_reducible refine q_then ?_
      with_reducible refine c_seq ?_
      with_reducible refine c_seq ?_
      with_reducible refine c_region ?_
      refine stepD rfl F rfl (o_loadA M (F.ev rfl) (by repeat (first | exact .here | apply Has.there)) (by first | assumption | rfl) ?_); clear F; clear a; intro a F
      (refine stepD rfl F rfl (o_call (F.ev rfl) (F.evs rfl) (Cal.mono (Cal.to (validPrefix_c p n hp _) (by rw [hvp])) ?_)); clear F; clear a; rintro _ w ⟨rfl, hE⟩ a F; replace M := M.later hE; clear hE)
      refine stepD rfl F rfl (o_not (F.ev rfl) ?_); clear F; clear a; intro a F
      refine stepD rfl F rfl (o_move (F.ev rfl) ?_); clear F; clear a; intro a F
      refine stepG rfl F rfl rfl rfl (o_fieldAddr (F.ev rfl) ?_); clear F; clear a; intro a F
      refine stepG rfl F rfl rfl rfl (o_load1 M (F.ev rfl) (by repeat (first | exact .here | apply Has.there)) (by first | assumption | rfl) ?_); clear F; clear a; intro a F
      refine stepG rfl F rfl rfl rfl (o_gtrF (F.ev rfl) (F.ev rfl) (by omega) ?_); clear F; clear a; intro a F
      refine stepD rfl F rfl (o_pickF (F.ev rfl) (F.ev rfl) ?_); clear F; clear a; intro a F
      with_reducible refine l_nil ?_
      with_reducible refine q_then ?_
      refine c_false F rfl rfl ?_
      with_reducible refine c_skip ?_
      with_reducible refine q_then ?_
      with_reducible refine c_seq ?_
      with_reducible refine c_region ?_
      refine stepD rfl F rfl (o_fieldAddr (F.ev rfl) ?_); clear F; clear a; intro a F
      refine stepD rfl F rfl (o_loadA M (F.ev rfl) (by repeat (first | exact .here | apply Has.there)) (by first | assumption | rfl) ?_); clear F; clear a; intro a F
      (refine stepD rfl F rfl (o_alloc M ?_); clear F; clear M; intro b6 w M a F)
      (refine stepN rfl F (o_storeA M (F.ev rfl) (F.ev rfl) (ipC_len hp) (one_ip _)  (by repeat (first | exact .here | apply Has.there))  (put_all (by rw [ipC_len hp]; rfl)) (by repeat (first | exact .here | apply Upd.there)) ?_); clear F; clear M; intro w M a F)
      with_reducible refine l_nil ?_
      with_reducible refine q_then ?_
      with_reducible refine c_seq ?_
      replace F := F.only [6, 1, 4] rfl
      refine c_draw 3 F (by kernel_rfl) ?_
      intro w1 hE hok
      have M1 := M.later hE
      (refine mK hok rfl rfl (fun a' w' F' E' => o_arrL (F'.ev rfl) (F'.ev rfl) (by omega) (by omega) ⟨Ext.refl _ _, rfl⟩) ?_)
      refine mK hok rfl rfl (fun a' w' F' E' => o_move (F'.ev rfl) ⟨Ext.refl _ _, rfl⟩) ?_
      refine mX hok rfl rfl (NewS.stays _ _ _ _) (fun a' w' F' E' D' => o_call (F'.ev rfl) (F'.evs rfl) (Cal.mono (append8_c v hv _) fun _ _ hh => newS_of E' hh)) ?_
      (refine mDone rfl rfl ?_; clear F; clear M; intro a w F hE2 hX hTT hDD hPP; have M := M1.later hE2; (try dsimp only at F); obtain ⟨b20, e_1, g_1, q_1⟩ := hX 2 _ rfl; replace F := F.know (d := 20) e_1; replace M := Mem.al (pre := []) M M1 q_1 g_1 (by intro p hp; cases hp); clear M1; clear hX; clear hE2; clear hok; clear hE; clear hTT; clear hDD; clear hPP; clear e_1; clear g_1; clear q_1; (try simp only [List.nil_append] at M))
      (refine stepD rfl F rfl (o_copy (n := 8) M (F.ev rfl) (F.ev rfl) rfl (by repeat (first | exact .here | apply Has.there)) s2 (one_ip _) (by repeat (first | exact .here | apply Has.there)) hput (by repeat (first | exact .here | apply Upd.there)) ?_); clear F; clear M; intro w M a F)
      with_reducible refine l_nil ?_
      with_reducible refine q_then ?_
      with_reducible refine c_seq ?_
      with_reducible refine c_region ?_
      refine stepD rfl F rfl (o_loadA M (F.ev rfl) (by repeat (first | exact .here | apply Has.there)) (by first | assumption | rfl) ?_); clear F; clear a; intro a F
      (refine stepN rfl F (o_storeA M (F.ev rfl) (F.ev rfl) hl3 (one_ip _)  (by repeat (first | exact .here | apply Has.there))  (put_all (by rw [hl3]; rfl)) (by repeat (first | exact .here | apply Upd.there)) ?_); clear F; clear M; intro w M a F)
      refine stepD rfl F rfl (o_assign (F.ev rfl) ?_); clear F; clear a; intro a F
      with_reducible refine l_nil ?_
      with_reducible refine q_then ?_
      with_reducible refine c_ret ?_
      refine p_ret F rfl (.cons (.cell (F.ev rfl) (run_loadVar_agg TAgg.h (M.heap (by repeat (first | exact .here | apply Has.there))) s3)) (.cons (.tmp (F.ev rfl)) .nil)) ⟨by simp [joinP, hvp, h64, optIP, oneOr], M.ext⟩
    · refine fn_ofM (n := 23) [] Try.func88 rfl rfl rfl ?_
      intro a w F M hwW
      refine c_seq ?_
      refine c_region ?_
      (refine stepD rfl F rfl (o_box M (F.ev rfl) rfl ?_); clear F; clear M; intro b2 w M a F)
      (refine stepD rfl F rfl (o_alloc M ?_); clear F; clear M; intro b4 w M a F)
      refine stepD rfl F rfl (o_assign (F.ev rfl) ?_); clear F; clear a; intro a F
      with_reducible refine l_nil ?_
      with_reducible refine q_then ?_
      with_reducible refine c_seq ?_
      with_reducible refine c_seq ?_
      with_reducible refine c_region ?_
      refine stepD rfl F rfl (o_loadA M (F.ev rfl) (by repeat (first | exact .here | apply Has.there)) (by first | assumption | rfl) ?_); clear F; clear a; intro a F
      (refine stepD rfl F rfl (o_call (F.ev rfl) (F.evs rfl) (Cal.mono (Cal.to (validPrefix_c p n hp _) (by rw [hvp])) ?_)); clear F; clear a; rintro _ w ⟨rfl, hE⟩ a F; replace M := M.later hE; clear hE)
      refine stepD rfl F rfl (o_not (F.ev rfl) ?_); clear F; clear a; intro a F
      refine stepD rfl F rfl (o_move (F.ev rfl) ?_); clear F; clear a; intro a F
      refine stepG rfl F rfl rfl rfl (o_fieldAddr (F.ev rfl) ?_); clear F; clear a; intro a F
      refine stepG rfl F rfl rfl rfl (o_load1 M (F.ev rfl) (by repeat (first | exact .here | apply Has.there)) (by first | assumption | rfl) ?_); clear F; clear a; intro a F
      refine stepG rfl F rfl rfl rfl (o_gtrT (F.ev rfl) (F.ev rfl) (by omega) ?_); clear F; clear a; intro a F
      refine stepD rfl F rfl (o_pickF (F.ev rfl) (F.ev rfl) ?_); clear F; clear a; intro a F
      with_reducible refine l_nil ?_
      with_reducible refine q_then ?_
      refine c_true F rfl rfl ?_
      with_reducible refine c_seq ?_
      with_reducible refine c_region ?_
      refine stepD rfl F rfl (o_build F rfl rfl ?_); clear F; clear a; intro a F
      (refine stepN rfl F (o_storeA M (F.ev rfl) (F.ev rfl) (by rfl) (by rfl) (by repeat (first | exact .here | apply Has.there)) (by rfl) (by repeat (first | exact .here | apply Upd.there)) ?_); clear F; clear M; intro w M a F)
      refine stepD rfl F rfl (o_assign (F.ev rfl) ?_); clear F; clear a; intro a F
      with_reducible refine l_nil ?_
      with_reducible refine q_then ?_
      with_reducible refine c_ret ?_
      with_reducible refine q_thenR ?_
      refine p_ret F rfl (.cons (.cell (F.ev rfl) (run_loadVar_agg TAgg.h (M.heap (by repeat (first | exact .here | apply Has.there))) rfl)) (.cons (.tmp (F.ev rfl)) .nil)) ⟨by simp [joinP, hvp, h64, optIP, oneOr, zeroIP, ipC], M.ext⟩
end

section
set_option linter.unusedVariables false
set_option linter.unusedSimpArgs false
open Go.RowKit
attribute [local irreducible] OpTo wpListIn Code.wpIn MW Cal
theorem pow_fin : ∀ i : Fin 8, (2 : Int) ^ (8 * (7 - i.1)) = ((256 ^ (7 - i.1) : Nat) : Int) := by decide
theorem beAt_nat (n i : Nat) (hi : i < 8) : beAt (n : Int) i = ((n / 256 ^ (7 - i) % 256 : Nat) : Int) := by
  unfold beAt
  have e1 : min (8 * (8 - 1 - (i : Int))).toNat 64 = 8 * (7 - i) := by omega
  rw [e1, pow_fin ⟨i, hi⟩, Int.fdiv_eq_ediv_of_nonneg _ (Int.natCast_nonneg _)]
  simp only [IntKind.wrap, IntKind.signed, IntKind.bits, Bool.false_and, Bool.false_eq_true, if_false]
  rfl
theorem beB_bd (n : Nat) : ∀ x ∈ beB (n : Int), 0 ≤ x ∧ x < 256 := by
  intro x hx
  obtain ⟨i, hi, rfl⟩ := List.mem_map.1 hx
  rw [beAt_nat n i (List.mem_range.1 hi)]
  have : n / 256 ^ (7 - i) % 256 < 256 := Nat.mod_lt _ (by omega)
  omega
end

section
set_option linter.unusedVariables false
set_option linter.unusedSimpArgs false
open Go.RowKit
attribute [local irreducible] OpTo wpListIn Code.wpIn MW Cal
/-- Fewer blocks, of which those that are left out have not been turned. -/
theorem Mem.less {S S' : List Nat} {W w : World} {l new : List (Nat × Obj)} (M : Mem S W w l) (h : ∀ k ∈ S, k ∈ S' ∨ ∃ o, Has l k o ∧ W.heap[k]? = some o) (hs : new.Sublist l) (hn : ∀ p ∈ new, p.1 ∈ S → p.1 ∈ S') : Mem S' W w new :=
  ⟨⟨M.ext.os, M.ext.tape, M.ext.output, M.ext.size, M.ext.dr, fun k hk hS' => by
    by_cases hS : k ∈ S
    · rcases h k hS with h1 | ⟨o, h1, h2⟩
      · exact absurd h1 hS'
      · rw [M.heap h1, h2]
    · exact M.ext.block k hk hS⟩, fun p hp => M.at_ p (hs.subset hp), M.nd.sublist (hs.map _), fun p hp => (M.own p (hs.subset hp)).imp_left (hn p hp)⟩
/-- the tape's block -/
def tobj (p : Option Addr) (len cap k : Nat) : Obj := .cells [.slice p len cap, .int .i64 k].toArray 89 (0, 0)
def i64C (xs : List Int) : List Value := xs.map (Value.int .i64)
/-- what its numbers are -/
structure TapeS (W : World) (bt : Nat) (p : Option Addr) (len : Nat) (xs : List Int) : Prop where
  lenE : xs.length = len
  small : len ≤ 400
  bd : ∀ x ∈ xs, -9223372036854775808 ≤ x ∧ x ≤ 9223372036854775807
  mem : 0 < len → ∃ b o cs t fz, p = some ⟨b, o, none⟩ ∧ b ≠ bt ∧ W.heap[b]? = some (.cells cs t fz) ∧ seg cs.toList o len = some (i64C xs)
theorem TapeS.later {W w : World} {bt : Nat} {p : Option Addr} {len : Nat} {xs : List Int} (h : TapeS W bt p len xs) (E : Ext [bt] W w) : TapeS w bt p len xs :=
  ⟨h.lenE, h.small, h.bd, fun hl => by
    obtain ⟨b, o, cs, t, fz, h1, h2, h3, h4⟩ := h.mem hl
    exact ⟨b, o, cs, t, fz, h1, h2, by rw [E.block b (Array.getElem?_eq_some_iff.1 h3).1 (by simpa using h2)]; exact h3, h4⟩⟩
def nxV (xs : List Int) (k : Nat) (n : Int) : Int := if k < xs.length then modI (xs.getD k 0) n else 0
def nxK (xs : List Int) (k : Nat) : Nat := if k < xs.length then k + 1 else k
theorem nxV_bd (xs : List Int) (k : Nat) {n : Int} (hn : 0 < n) : 0 ≤ nxV xs k n ∧ nxV xs k n < n := by
  unfold nxV
  split
  · exact modI_bd _ hn
  · omega
set_option maxHeartbeats 1000000 in
theorem next_c {bt : Nat} {p : Option Addr} {len cap k : Nat} {xs : List Int} (n : Int) (hn : 0 < n) (hn2 : n ≤ 9223372036854775807) (W : World) (hT : TapeS W bt p len xs) (hb : W.heap[bt]? = some (tobj p len cap k)) :
    Cal Try.prog 14 [.pointer (some ⟨bt, 0, none⟩), .int .i64 n].toArray W fun v w' => v = .int .i64 (nxV xs k n) ∧ Mem [bt] W w' [(bt, tobj p len cap (nxK xs k))] := by
  have hlen := hT.lenE
  by_cases hk : k < len
  · obtain ⟨b, o, cs, t, fz, rfl, hne, hbb, hs⟩ := hT.mem (by omega)
    have hnt : nth cs.toList (o + (k : Int).toNat * 1) = some (.int .i64 (xs.getD k 0)) := by
      obtain ⟨h1, h2⟩ := seg_spec _ _ _ _ hs
      have h3 := h2 k hk
      rw [nth_spec, show o + (k : Int).toNat * 1 = o + k by omega, h3]
      have hl : k < xs.length := by omega
      simp [i64C, hl]
    have hxk := hT.bd (xs.getD k 0) (by rw [List.getD_eq_getElem?_getD, List.getElem?_eq_getElem (by omega)]; exact List.getElem_mem _)
    have hr := Int.tmod_lt_of_pos (xs.getD k 0) hn
    have hr2 : -n < (xs.getD k 0).tmod n := by have := Int.tmod_lt_of_pos (-(xs.getD k 0)) hn; rw [Int.neg_tmod] at this; omega
    have hsm := hT.small
    have hv : nxV xs k n = modI (xs.getD k 0) n := by unfold nxV; rw [if_pos (by omega)]
    have hkk : nxK xs k = k + 1 := by unfold nxK; rw [if_pos (by omega)]
    rw [hv, hkk]
    unfold modI
    refine fn_ofM (n := 41) [bt,b] Try.func14 rfl rfl rfl ?_
    intro a w F M hwW
    replace M := M.came hwW hb (by simp) (by simp)
    replace M := M.came hwW (o := .cells cs.toList.toArray t fz) (by simpa using hbb) (by simp) (by simp; exact fun h => hne h.symm)
    unfold tobj at M
    with_reducible refine c_seq ?_
    with_reducible refine c_region ?_
    refine stepD rfl F rfl (o_assign (F.ev rfl) ?_); clear F; clear a; intro a F
    with_reducible refine l_nil ?_
    with_reducible refine q_then ?_
    with_reducible refine c_seq ?_
    with_reducible refine c_seq ?_
    refine c_draw 10 F (by kernel_rfl) ?_
    intro w1 hE hok
    have M1 := M.later hE
    refine mK hok rfl rfl (fun a' w' F' E' => o_move (F'.ev rfl) ⟨Ext.refl _ _, rfl⟩) ?_
    refine mK hok rfl rfl (fun a' w' F' E' => o_nilCheck (F'.ev rfl) rfl ⟨Ext.refl _ _, rfl⟩) ?_
    refine mK hok rfl rfl (fun a' w' F' E' => o_fieldAddr (F'.ev rfl) ⟨Ext.refl _ _, rfl⟩) ?_
    refine mK hok rfl rfl (fun a' w' F' E' => o_load1 (M1.later E') (F'.ev rfl) (by repeat (first | exact .here | apply Has.there)) (by first | assumption | rfl) ⟨Ext.refl _ _, rfl⟩) ?_
    refine mK hok rfl rfl (fun a' w' F' E' => o_move (F'.ev rfl) ⟨Ext.refl _ _, rfl⟩) ?_
    refine mK hok rfl rfl (fun a' w' F' E' => o_nilCheck (F'.ev rfl) rfl ⟨Ext.refl _ _, rfl⟩) ?_
    refine mK hok rfl rfl (fun a' w' F' E' => o_fieldAddr (F'.ev rfl) ⟨Ext.refl _ _, rfl⟩) ?_
    refine mK hok rfl rfl (fun a' w' F' E' => o_load1 (M1.later E') (F'.ev rfl) (by repeat (first | exact .here | apply Has.there)) (by first | assumption | rfl) ⟨Ext.refl _ _, rfl⟩) ?_
    refine mK hok rfl rfl (fun a' w' F' E' => o_lenSl (F'.ev rfl) ⟨Ext.refl _ _, rfl⟩) ?_
    refine mK hok rfl rfl (fun a' w' F' E' => o_geqF (F'.ev rfl) (F'.ev rfl) (by omega) ⟨Ext.refl _ _, rfl⟩) ?_
    (refine mDone rfl rfl ?_; clear F; clear M; intro a w F hE2 hX hTT hDD hPP; have M := M1.later hE2; clear M1; clear hX; clear hE2; clear hok; clear hE; clear hTT; clear hDD; clear hPP; (try dsimp only at F))
    with_reducible refine l_nil ?_
    with_reducible refine q_then ?_
    refine c_false F rfl rfl ?_
    with_reducible refine c_skip ?_
    with_reducible refine q_then ?_
    with_reducible refine c_seq ?_
    refine c_draw 12 F (by kernel_rfl) ?_
    intro w1 hE hok
    have M1 := M.later hE
    refine mK hok rfl rfl (fun a' w' F' E' => o_move (F'.ev rfl) ⟨Ext.refl _ _, rfl⟩) ?_
    refine mK hok rfl rfl (fun a' w' F' E' => o_nilCheck (F'.ev rfl) rfl ⟨Ext.refl _ _, rfl⟩) ?_
    refine mK hok rfl rfl (fun a' w' F' E' => o_fieldAddr (F'.ev rfl) ⟨Ext.refl _ _, rfl⟩) ?_
    refine mK hok rfl rfl (fun a' w' F' E' => o_load1 (M1.later E') (F'.ev rfl) (by repeat (first | exact .here | apply Has.there)) (by first | assumption | rfl) ⟨Ext.refl _ _, rfl⟩) ?_
    refine mK hok rfl rfl (fun a' w' F' E' => o_move (F'.ev rfl) ⟨Ext.refl _ _, rfl⟩) ?_
    refine mK hok rfl rfl (fun a' w' F' E' => o_nilCheck (F'.ev rfl) rfl ⟨Ext.refl _ _, rfl⟩) ?_
    refine mK hok rfl rfl (fun a' w' F' E' => o_fieldAddr (F'.ev rfl) ⟨Ext.refl _ _, rfl⟩) ?_
    refine mK hok rfl rfl (fun a' w' F' E' => o_load1 (M1.later E') (F'.ev rfl) (by repeat (first | exact .here | apply Has.there)) (by first | assumption | rfl) ⟨Ext.refl _ _, rfl⟩) ?_
    refine mK hok rfl rfl (fun a' w' F' E' => o_indexSl (F'.ev rfl) (F'.ev rfl) (by omega) (by omega) ⟨Ext.refl _ _, rfl⟩) ?_
    refine mK hok rfl rfl (fun a' w' F' E' => o_load1 (M1.later E') (F'.ev rfl) (by repeat (first | exact .here | apply Has.there)) (by first | assumption | rfl) ⟨Ext.refl _ _, rfl⟩) ?_
    refine mK hok rfl rfl (fun a' w' F' E' => o_move (F'.ev rfl) ⟨Ext.refl _ _, rfl⟩) ?_
    refine mK hok rfl rfl (fun a' w' F' E' => o_rem (F'.ev rfl) (F'.ev rfl) (by omega) rfl ⟨Ext.refl _ _, rfl⟩) ?_
    (refine mDone rfl rfl ?_; clear F; clear M; intro a w F hE2 hX hTT hDD hPP; have M := M1.later hE2; clear M1; clear hX; clear hE2; clear hok; clear hE; clear hTT; clear hDD; clear hPP; (try dsimp only at F))
    refine stepD rfl F rfl (o_assign (F.ev rfl) ?_); clear F; clear a; intro a F
    with_reducible refine l_nil ?_
    with_reducible refine q_then ?_
    with_reducible refine c_seq ?_
    with_reducible refine c_region ?_
    refine stepD rfl F rfl (o_move (F.ev rfl) ?_); clear F; clear a; intro a F
    refine stepD rfl F rfl (o_nilCheck (F.ev rfl) rfl ?_); clear F; clear a; intro a F
    refine stepD rfl F rfl (o_fieldAddr (F.ev rfl) ?_); clear F; clear a; intro a F
    refine stepD rfl F rfl (o_load1 M (F.ev rfl) (by repeat (first | exact .here | apply Has.there)) (by first | assumption | rfl) ?_); clear F; clear a; intro a F
    refine stepD rfl F rfl (o_add (F.ev rfl) (F.ev rfl) (w_i64 (by omega) (by omega)) ?_); clear F; clear a; intro a F
    refine stepD rfl F rfl (o_nilCheck (F.ev rfl) rfl ?_); clear F; clear a; intro a F
    refine stepD rfl F rfl (o_fieldAddr (F.ev rfl) ?_); clear F; clear a; intro a F
    (refine stepN rfl F (o_store1 M (F.ev rfl) (F.ev rfl) rfl (by repeat (first | exact .here | apply Has.there)) (by rfl) (by repeat (first | exact .here | apply Upd.there)) ?_); clear F; clear M; intro w M a F)
    with_reducible refine l_nil ?_
    with_reducible refine q_then ?_
    with_reducible refine c_seq ?_
    with_reducible refine c_seq ?_
    with_reducible refine c_region ?_
    refine stepD rfl F rfl (o_move (F.ev rfl) ?_); clear F; clear a; intro a F
    refine stepD rfl F rfl (o_lss (F.ev rfl) (F.ev rfl) ?_); clear F; clear a; intro a F
    with_reducible refine l_nil ?_
    with_reducible refine q_then ?_
    generalize (xs.getD k 0).tmod n = r at *
    have fin : ∀ w', Mem [bt, b] W w' [(b, .cells cs.toList.toArray t fz), (bt, .cells [.slice (some ⟨b, o, none⟩) len cap, .int .i64 ((k : Int) + 1)].toArray 89 (0, 0))] → Mem [bt] W w' [(bt, tobj (some ⟨b, o, none⟩) len cap (k + 1))] := fun w' M' =>
      M'.less (fun q hq => by
        simp only [List.mem_cons, List.not_mem_nil, or_false] at hq
        rcases hq with rfl | rfl
        · exact .inl (by simp)
        · exact .inr ⟨_, .here, by simpa using hbb⟩) (List.sublist_cons_self _ _) (fun q hq _ => by simp at hq; subst hq; simp)
    refine c_if F rfl (fun hc => ?_) (fun hc => ?_)
    · replace hc := of_decide_eq_true hc
      rw [if_pos hc]
      with_reducible refine c_region ?_
      refine stepD rfl F rfl (o_move (F.ev rfl) ?_); clear F; clear a; intro a F
      refine stepD rfl F rfl (o_move (F.ev rfl) ?_); clear F; clear a; intro a F
      refine stepD rfl F rfl (o_add (F.ev rfl) (F.ev rfl) (w_i64 (by omega) (by omega)) ?_); clear F; clear a; intro a F
      refine stepD rfl F rfl (o_assign (F.ev rfl) ?_); clear F; clear a; intro a F
      with_reducible refine l_nil ?_
      with_reducible refine q_then ?_
      with_reducible refine c_seq ?_
      with_reducible refine c_region ?_
      refine stepD rfl F rfl (o_move (F.ev rfl) ?_); clear F; clear a; intro a F
      refine stepD rfl F rfl (o_assign (F.ev rfl) ?_); clear F; clear a; intro a F
      with_reducible refine l_nil ?_
      with_reducible refine q_then ?_
      with_reducible refine c_ret ?_
      refine p_ret F rfl (.cons (.tmp (F.ev rfl)) .nil) ?_
      exact ⟨rfl, fin _ M⟩
    · replace hc := of_decide_eq_false hc
      rw [if_neg hc]
      with_reducible refine c_skip ?_
      with_reducible refine q_then ?_
      with_reducible refine c_seq ?_
      with_reducible refine c_region ?_
      refine stepD rfl F rfl (o_move (F.ev rfl) ?_); clear F; clear a; intro a F
      refine stepD rfl F rfl (o_assign (F.ev rfl) ?_); clear F; clear a; intro a F
      with_reducible refine l_nil ?_
      with_reducible refine q_then ?_
      with_reducible refine c_ret ?_
      refine p_ret F rfl (.cons (.tmp (F.ev rfl)) .nil) ?_
      exact ⟨rfl, fin _ M⟩
  · have hv : nxV xs k n = 0 := by unfold nxV; rw [if_neg (by omega)]
    have hkk : nxK xs k = k := by unfold nxK; rw [if_neg (by omega)]
    rw [hv, hkk]
    refine fn_ofM (n := 41) [bt] Try.func14 rfl rfl rfl ?_
    intro a w F M hwW
    replace M := M.came hwW hb (by simp) (by simp)
    unfold tobj at M
    with_reducible refine c_seq ?_
    with_reducible refine c_region ?_
    refine stepD rfl F rfl (o_assign (F.ev rfl) ?_); clear F; clear a; intro a F
    with_reducible refine l_nil ?_
    with_reducible refine q_then ?_
    with_reducible refine c_seq ?_
    with_reducible refine c_seq ?_
    refine c_draw 10 F (by kernel_rfl) ?_
    intro w1 hE hok
    have M1 := M.later hE
    refine mK hok rfl rfl (fun a' w' F' E' => o_move (F'.ev rfl) ⟨Ext.refl _ _, rfl⟩) ?_
    refine mK hok rfl rfl (fun a' w' F' E' => o_nilCheck (F'.ev rfl) rfl ⟨Ext.refl _ _, rfl⟩) ?_
    refine mK hok rfl rfl (fun a' w' F' E' => o_fieldAddr (F'.ev rfl) ⟨Ext.refl _ _, rfl⟩) ?_
    refine mK hok rfl rfl (fun a' w' F' E' => o_load1 (M1.later E') (F'.ev rfl) (by repeat (first | exact .here | apply Has.there)) (by first | assumption | rfl) ⟨Ext.refl _ _, rfl⟩) ?_
    refine mK hok rfl rfl (fun a' w' F' E' => o_move (F'.ev rfl) ⟨Ext.refl _ _, rfl⟩) ?_
    refine mK hok rfl rfl (fun a' w' F' E' => o_nilCheck (F'.ev rfl) rfl ⟨Ext.refl _ _, rfl⟩) ?_
    refine mK hok rfl rfl (fun a' w' F' E' => o_fieldAddr (F'.ev rfl) ⟨Ext.refl _ _, rfl⟩) ?_
    refine mK hok rfl rfl (fun a' w' F' E' => o_load1 (M1.later E') (F'.ev rfl) (by repeat (first | exact .here | apply Has.there)) (by first | assumption | rfl) ⟨Ext.refl _ _, rfl⟩) ?_
    refine mK hok rfl rfl (fun a' w' F' E' => o_lenSl (F'.ev rfl) ⟨Ext.refl _ _, rfl⟩) ?_
    refine mK hok rfl rfl (fun a' w' F' E' => o_geqT (F'.ev rfl) (F'.ev rfl) (by omega) ⟨Ext.refl _ _, rfl⟩) ?_
    (refine mDone rfl rfl ?_; clear F; clear M; intro a w F hE2 hX hTT hDD hPP; have M := M1.later hE2; clear M1; clear hX; clear hE2; clear hok; clear hE; clear hTT; clear hDD; clear hPP; (try dsimp only at F))
    with_reducible refine l_nil ?_
    with_reducible refine q_then ?_
    refine c_true F rfl rfl ?_
    with_reducible refine c_seq ?_
    with_reducible refine c_region ?_
    refine stepD rfl F rfl (o_assign (F.ev rfl) ?_); clear F; clear a; intro a F
    with_reducible refine l_nil ?_
    with_reducible refine q_then ?_
    with_reducible refine c_ret ?_
    with_reducible refine q_thenR ?_
    refine p_ret F rfl (.cons (.tmp (F.ev rfl)) .nil) ?_
    exact ⟨rfl, M⟩
end

section
set_option linter.unusedVariables false
set_option linter.unusedSimpArgs false
open Go.RowKit
attribute [local irreducible] OpTo wpListIn Code.wpIn MW Cal
/-- Behind a call that turned one block of ours. -/
theorem Mem.turn1 {S : List Nat} {W0 w w' : World} {l l' : List (Nat × Obj)} {b : Nat} {o o' : Obj} (M : Mem S W0 w l) (N : Mem [b] w w' [(b, o')]) (hu : Upd l b o o' l') : Mem S W0 w' l' := M.turned hu N.ext (N.heap .here)
def boolV (xs : List Int) (k : Nat) (n : Int) : Bool := nxV xs k n == n - 1
theorem bool_c {bt : Nat} {p : Option Addr} {len cap k : Nat} {xs : List Int} (n : Int) (hn : 0 < n) (hn2 : n ≤ 9223372036854775807) (W : World) (hT : TapeS W bt p len xs) (hb : W.heap[bt]? = some (tobj p len cap k)) :
    Cal Try.prog 17 [.pointer (some ⟨bt, 0, none⟩), .int .i64 n].toArray W fun v w' => v = .bool (boolV xs k n) ∧ Mem [bt] W w' [(bt, tobj p len cap (nxK xs k))] := by
  refine fn_ofM (n := 11) [bt] Try.func17 rfl rfl rfl ?_
  intro a w F M hwW
  replace M := M.came hwW hb (by simp) (by simp)
  with_reducible refine c_seq ?_
  with_reducible refine c_region ?_
  refine stepD rfl F rfl (o_assign (F.ev rfl) ?_); clear F; clear a; intro a F
  with_reducible refine l_nil ?_
  with_reducible refine q_then ?_
  with_reducible refine c_seq ?_
  with_reducible refine c_region ?_
  refine stepD rfl F rfl (o_move (F.ev rfl) ?_); clear F; clear a; intro a F
  refine stepD rfl F rfl (o_move (F.ev rfl) ?_); clear F; clear a; intro a F
  (refine stepD rfl F rfl (o_call (F.ev rfl) (F.evs rfl) (Cal.mono (next_c n hn hn2 _ (hT.later M.ext) (M.heap .here) ) ?_)); clear F; clear a; have M0 := M; clear M; rintro _ w ⟨rfl, N⟩ a F)
  replace M := M0.turn1 N .here
  refine stepD rfl F rfl (o_move (F.ev rfl) ?_); clear F; clear a; intro a F
  refine stepD rfl F rfl (o_sub (F.ev rfl) (F.ev rfl) (w_i64 (by omega) (by omega)) ?_); clear F; clear a; intro a F
  refine stepD rfl F rfl (o_eql (F.ev rfl) (F.ev rfl) ?_); clear F; clear a; intro a F
  refine stepD rfl F rfl (o_assign (F.ev rfl) ?_); clear F; clear a; intro a F
  with_reducible refine l_nil ?_
  with_reducible refine q_then ?_
  with_reducible refine c_ret ?_
  refine p_ret F rfl (.cons (.tmp (F.ev rfl)) .nil) ?_
  exact ⟨rfl, M⟩
/-- a slice of int that came in: its numbers -/
structure IntsAt (W : World) (v : Value) (xs : List Int) : Prop where
  ex : ∃ p cap, v = .slice p xs.length cap ∧ xs.length ≤ cap ∧ (0 < xs.length → ∃ b o cs t fz, p = some ⟨b, o, none⟩ ∧ W.heap[b]? = some (.cells cs t fz) ∧ seg cs.toList o xs.length = some (i64C xs))
  bd : ∀ x ∈ xs, -9223372036854775808 ≤ x ∧ x ≤ 9223372036854775807
  small : xs.length ≤ 9223372036854775807
def cut400 (xs : List Int) : List Int := xs.take 400
theorem seg_eq : ∀ (cs : List Value) (off n : Nat), seg cs off n = if off + n ≤ cs.length then some ((cs.drop off).take n) else none
  | [], 0, 0 => by simp [seg]
  | _ :: _, 0, 0 => by simp [seg]
  | [], 0, n + 1 => by simp [seg]
  | [], off + 1, n => by cases n <;> simp [seg]
  | x :: xs, 0, n + 1 => by
    simp only [seg]
    rw [seg_eq xs 0 n]
    by_cases h : n ≤ xs.length
    · rw [if_pos (by omega), if_pos (by simp; omega)]; simp
    · rw [if_neg (by omega), if_neg (by simp; omega)]
  | x :: xs, off + 1, n => by
    have : seg (x :: xs) (off + 1) n = seg xs off n := by cases n <;> rfl
    rw [this, seg_eq xs off n]
    by_cases h : off + n ≤ xs.length
    · rw [if_pos h, if_pos (by simp; omega)]; simp
    · rw [if_neg h, if_neg (by simp; omega)]
theorem seg_take {cs ys : List Value} {off n m : Nat} (h : seg cs off n = some ys) (hm : m ≤ n) : seg cs off m = some (ys.take m) := by
  rw [seg_eq] at h ⊢
  split at h
  · rename_i hle
    rw [if_pos (by omega)]
    simp only [Option.some.injEq] at h
    subst h
    rw [List.take_take, Nat.min_eq_left hm]
  · cases h
theorem tape_new {W w' : World} {bt : Nat} {p : Option Addr} {xs : List Int} (hE : Ext [] W w') (hbt : W.heap.size ≤ bt) (hbd : ∀ x ∈ xs, -9223372036854775808 ≤ x ∧ x ≤ 9223372036854775807)
    (hm : 0 < xs.length → ∃ b o cs t fz, p = some ⟨b, o, none⟩ ∧ W.heap[b]? = some (.cells cs t fz) ∧ seg cs.toList o xs.length = some (i64C xs)) : TapeS w' bt p (cut400 xs).length (cut400 xs) := by
  refine ⟨rfl, by unfold cut400; rw [List.length_take]; omega, fun x hx => hbd x (List.mem_of_mem_take hx), fun hl => ?_⟩
  have hl0 : 0 < xs.length := by unfold cut400 at hl; rw [List.length_take] at hl; omega
  obtain ⟨b, o, cs, t, fz, h1, h2, h3⟩ := hm hl0
  have hlt := (Array.getElem?_eq_some_iff.1 h2).1
  refine ⟨b, o, cs, t, fz, h1, by omega, by rw [hE.block b hlt (by simp)]; exact h2, ?_⟩
  have := seg_take h3 (show (cut400 xs).length ≤ xs.length by unfold cut400; rw [List.length_take]; omega)
  rw [this]
  unfold i64C cut400
  rw [← List.map_take, List.length_take, Nat.min_comm, ← List.take_take, List.take_of_length_le (show (List.take 400 xs).length ≤ xs.length by rw [List.length_take]; omega)]
set_option maxHeartbeats 400000 in
theorem new_c {p : Option Addr} {cap : Nat} (xs : List Int) (W : World) (hI : IntsAt W (.slice p xs.length cap) xs) (hcap : xs.length ≤ cap) : Cal Try.prog 8 [.slice p xs.length cap].toArray W fun x w' => ∃ bt, x = .pointer (some ⟨bt, 0, none⟩) ∧ Mem [] W w' [(bt, tobj p (cut400 xs).length cap 0)] := by
  have hsm := hI.small
  by_cases h4 : 400 < xs.length
  · obtain ⟨b, o, hpp⟩ : ∃ b o, p = some ⟨b, o, none⟩ := by
      obtain ⟨p', cap', h1, _, h3⟩ := hI.ex
      cases h1
      obtain ⟨b, o, _, _, _, h5, _⟩ := h3 (by omega)
      exact ⟨b, o, h5⟩
    have hl : (cut400 xs).length = 400 := by unfold cut400; rw [List.length_take]; omega
    refine fn_ofM (n := 11) [] Try.func8 rfl rfl rfl ?_
    intro a w F M hwW
    with_reducible refine c_seq ?_
    with_reducible refine c_region ?_
    refine stepD rfl F rfl (o_assign (F.ev rfl) ?_); clear F; clear a; intro a F
    with_reducible refine l_nil ?_
    with_reducible refine q_then ?_
    with_reducible refine c_seq ?_
    with_reducible refine c_seq ?_
    with_reducible refine c_region ?_
    refine stepD rfl F rfl (o_move (F.ev rfl) ?_); clear F; clear a; intro a F
    refine stepD rfl F rfl (o_lenSl (F.ev rfl) ?_); clear F; clear a; intro a F
    refine stepD rfl F rfl (o_gtrT (F.ev rfl) (F.ev rfl) (by omega) ?_); clear F; clear a; intro a F
    with_reducible refine l_nil ?_
    with_reducible refine q_then ?_
    refine c_true F rfl rfl ?_
    with_reducible refine c_region ?_
    refine stepD rfl F rfl (o_move (F.ev rfl) ?_); clear F; clear a; intro a F
    (refine stepD rfl F rfl (o_slH (F.ev rfl) (F.ev rfl) (fun _ _ => trivial) (by omega) (by omega) ?_); clear F; clear a; intro a F)
    refine stepD rfl F rfl (o_assign (F.ev rfl) ?_); clear F; clear a; intro a F
    with_reducible refine l_nil ?_
    with_reducible refine q_then ?_
    with_reducible refine c_seq ?_
    with_reducible refine c_region ?_
    refine stepD rfl F rfl (o_move (F.ev rfl) ?_); clear F; clear a; intro a F
    refine stepD rfl F rfl (o_build F rfl rfl ?_); clear F; clear a; intro a F
    (refine stepD rfl F rfl (o_box M (F.ev rfl) rfl ?_); clear F; clear M; intro bt w M a F)
    refine stepD rfl F rfl (o_assign (F.ev rfl) ?_); clear F; clear a; intro a F
    with_reducible refine l_nil ?_
    with_reducible refine q_then ?_
    with_reducible refine c_ret ?_
    refine p_ret F rfl (.cons (.tmp (F.ev rfl)) .nil) ?_
    refine ⟨bt, rfl, ?_⟩
    rw [hl]; exact M
  · have hl : (cut400 xs).length = xs.length := by unfold cut400; rw [List.length_take]; omega
    refine fn_ofM (n := 11) [] Try.func8 rfl rfl rfl ?_
    intro a w F M hwW
    with_reducible refine c_seq ?_
    with_reducible refine c_region ?_
    refine stepD rfl F rfl (o_assign (F.ev rfl) ?_); clear F; clear a; intro a F
    with_reducible refine l_nil ?_
    with_reducible refine q_then ?_
    with_reducible refine c_seq ?_
    with_reducible refine c_seq ?_
    with_reducible refine c_region ?_
    refine stepD rfl F rfl (o_move (F.ev rfl) ?_); clear F; clear a; intro a F
    refine stepD rfl F rfl (o_lenSl (F.ev rfl) ?_); clear F; clear a; intro a F
    refine stepD rfl F rfl (o_gtrF (F.ev rfl) (F.ev rfl) (by omega) ?_); clear F; clear a; intro a F
    with_reducible refine l_nil ?_
    with_reducible refine q_then ?_
    refine c_false F rfl rfl ?_
    with_reducible refine c_skip ?_
    with_reducible refine q_then ?_
    with_reducible refine c_seq ?_
    with_reducible refine c_region ?_
    refine stepD rfl F rfl (o_move (F.ev rfl) ?_); clear F; clear a; intro a F
    refine stepD rfl F rfl (o_build F rfl rfl ?_); clear F; clear a; intro a F
    (refine stepD rfl F rfl (o_box M (F.ev rfl) rfl ?_); clear F; clear M; intro bt w M a F)
    refine stepD rfl F rfl (o_assign (F.ev rfl) ?_); clear F; clear a; intro a F
    with_reducible refine l_nil ?_
    with_reducible refine q_then ?_
    with_reducible refine c_ret ?_
    refine p_ret F rfl (.cons (.tmp (F.ev rfl)) .nil) ?_
    refine ⟨bt, rfl, ?_⟩
    rw [hl]; exact M
theorem IntsAt.later {W w : World} {v : Value} {xs : List Int} (h : IntsAt W v xs) (E : Ext [] W w) : IntsAt w v xs := by
  refine ⟨?_, h.bd, h.small⟩
  obtain ⟨p, cap, h1, h2, h3⟩ := h.ex
  refine ⟨p, cap, h1, h2, fun hl => ?_⟩
  obtain ⟨b, o, cs, t, fz, g1, g2, g3⟩ := h3 hl
  exact ⟨b, o, cs, t, fz, g1, by rw [E.block b (Array.getElem?_eq_some_iff.1 g2).1 (by simp)]; exact g2, g3⟩
end

section
set_option linter.unusedVariables false
set_option linter.unusedSimpArgs false
open Go.RowKit
attribute [local irreducible] OpTo wpListIn Code.wpIn MW Cal
set_option maxHeartbeats 400000 in
theorem rvalid_c (m s e : Int) (W : World) : Cal Try.prog 124 [.agg (adC m s e).toArray].toArray W fun v w' => v = .bool (validA m s e) ∧ Ext [] W w' := by
  unfold adC validA
  by_cases h0 : m = 0
  · subst h0
    by_cases hs : s = 0
    · refine fn_ofM (n := 25) [] Try.func124 rfl rfl rfl ?_
      intro a w F M hwW
      refine c_seq ?_
      refine c_region ?_
      (refine stepD rfl F rfl (o_box M (F.ev rfl) rfl ?_); clear F; clear M; intro b1 w M a F)
      refine stepD rfl F rfl (o_assign (F.ev rfl) ?_); clear F; clear a; intro a F
      with_reducible refine l_nil ?_
      with_reducible refine q_then ?_
      with_reducible refine c_seq ?_
      with_reducible refine c_seq ?_
      with_reducible refine c_region ?_
      refine stepD rfl F rfl (o_fieldAddr (F.ev rfl) ?_); clear F; clear a; intro a F
      refine stepD rfl F rfl (o_load1 M (F.ev rfl) (by repeat (first | exact .here | apply Has.there)) (by first | assumption | rfl) ?_); clear F; clear a; intro a F
      with_reducible refine l_nil ?_
      with_reducible refine q_then ?_
      with_reducible refine c_block ?_
      with_reducible refine c_seq ?_
      with_reducible refine c_region ?_
      refine stepD rfl F rfl (o_eqlT (F.ev rfl) (F.ev rfl) (by omega) ?_); clear F; clear a; intro a F
      refine stepD rfl F rfl (o_assign (F.ev rfl) ?_); clear F; clear a; intro a F
      with_reducible refine l_nil ?_
      with_reducible refine q_then ?_
      refine c_true F rfl rfl ?_
      with_reducible refine c_seq ?_
      with_reducible refine c_region ?_
      refine stepD rfl F rfl (o_fieldAddr (F.ev rfl) ?_); clear F; clear a; intro a F
      refine stepD rfl F rfl (o_load1 M (F.ev rfl) (by repeat (first | exact .here | apply Has.there)) (by first | assumption | rfl) ?_); clear F; clear a; intro a F
      refine stepD rfl F rfl (o_eqlT (F.ev rfl) (F.ev rfl) (by omega) ?_); clear F; clear a; intro a F
      refine stepD rfl F rfl (o_move (F.ev rfl) ?_); clear F; clear a; intro a F
      refine stepG rfl F rfl rfl rfl (o_fieldAddr (F.ev rfl) ?_); clear F; clear a; intro a F
      refine stepG rfl F rfl rfl rfl (o_load1 M (F.ev rfl) (by repeat (first | exact .here | apply Has.there)) (by first | assumption | rfl) ?_); clear F; clear a; intro a F
      refine stepG rfl F rfl rfl rfl (o_eql (F.ev rfl) (F.ev rfl) ?_); clear F; clear a; intro a F
      refine stepD rfl F rfl (o_pickT (F.ev rfl) (F.ev rfl) ?_); clear F; clear a; intro a F
      refine stepD rfl F rfl (o_assign (F.ev rfl) ?_); clear F; clear a; intro a F
      with_reducible refine l_nil ?_
      with_reducible refine q_then ?_
      with_reducible refine c_ret ?_
      with_reducible refine q_inBR ?_
      with_reducible refine q_thenR ?_
      refine p_ret F rfl (.cons (.tmp (F.ev rfl)) .nil) ?_
      exact ⟨by simp [oneOr, hs], M.ext⟩
    · refine fn_ofM (n := 25) [] Try.func124 rfl rfl rfl ?_
      intro a w F M hwW
      refine c_seq ?_
      refine c_region ?_
      (refine stepD rfl F rfl (o_box M (F.ev rfl) rfl ?_); clear F; clear M; intro b1 w M a F)
      refine stepD rfl F rfl (o_assign (F.ev rfl) ?_); clear F; clear a; intro a F
      with_reducible refine l_nil ?_
      with_reducible refine q_then ?_
      with_reducible refine c_seq ?_
      with_reducible refine c_seq ?_
      with_reducible refine c_region ?_
      refine stepD rfl F rfl (o_fieldAddr (F.ev rfl) ?_); clear F; clear a; intro a F
      refine stepD rfl F rfl (o_load1 M (F.ev rfl) (by repeat (first | exact .here | apply Has.there)) (by first | assumption | rfl) ?_); clear F; clear a; intro a F
      with_reducible refine l_nil ?_
      with_reducible refine q_then ?_
      with_reducible refine c_block ?_
      with_reducible refine c_seq ?_
      with_reducible refine c_region ?_
      refine stepD rfl F rfl (o_eqlT (F.ev rfl) (F.ev rfl) (by omega) ?_); clear F; clear a; intro a F
      refine stepD rfl F rfl (o_assign (F.ev rfl) ?_); clear F; clear a; intro a F
      with_reducible refine l_nil ?_
      with_reducible refine q_then ?_
      refine c_true F rfl rfl ?_
      with_reducible refine c_seq ?_
      with_reducible refine c_region ?_
      refine stepD rfl F rfl (o_fieldAddr (F.ev rfl) ?_); clear F; clear a; intro a F
      refine stepD rfl F rfl (o_load1 M (F.ev rfl) (by repeat (first | exact .here | apply Has.there)) (by first | assumption | rfl) ?_); clear F; clear a; intro a F
      refine stepD rfl F rfl (o_eqlF (F.ev rfl) (F.ev rfl) (by omega) ?_); clear F; clear a; intro a F
      refine stepD rfl F rfl (o_move (F.ev rfl) ?_); clear F; clear a; intro a F
      refine stepOff F rfl rfl rfl rfl ?_; clear F; clear a; intro a F
      refine stepOff F rfl rfl rfl rfl ?_; clear F; clear a; intro a F
      refine stepOff F rfl rfl rfl rfl ?_; clear F; clear a; intro a F
      refine stepD rfl F rfl (o_pickF (F.ev rfl) (F.ev rfl) ?_); clear F; clear a; intro a F
      refine stepD rfl F rfl (o_assign (F.ev rfl) ?_); clear F; clear a; intro a F
      with_reducible refine l_nil ?_
      with_reducible refine q_then ?_
      with_reducible refine c_ret ?_
      with_reducible refine q_inBR ?_
      with_reducible refine q_thenR ?_
      refine p_ret F rfl (.cons (.tmp (F.ev rfl)) .nil) ?_
      exact ⟨by simp [oneOr, hs], M.ext⟩
  · by_cases h2 : m = 2
    · subst h2
      refine fn_ofM (n := 25) [] Try.func124 rfl rfl rfl ?_
      intro a w F M hwW
      refine c_seq ?_
      refine c_region ?_
      (refine stepD rfl F rfl (o_box M (F.ev rfl) rfl ?_); clear F; clear M; intro b1 w M a F)
      refine stepD rfl F rfl (o_assign (F.ev rfl) ?_); clear F; clear a; intro a F
      with_reducible refine l_nil ?_
      with_reducible refine q_then ?_
      with_reducible refine c_seq ?_
      with_reducible refine c_seq ?_
      with_reducible refine c_region ?_
      refine stepD rfl F rfl (o_fieldAddr (F.ev rfl) ?_); clear F; clear a; intro a F
      refine stepD rfl F rfl (o_load1 M (F.ev rfl) (by repeat (first | exact .here | apply Has.there)) (by first | assumption | rfl) ?_); clear F; clear a; intro a F
      with_reducible refine l_nil ?_
      with_reducible refine q_then ?_
      with_reducible refine c_block ?_
      with_reducible refine c_seq ?_
      with_reducible refine c_region ?_
      refine stepD rfl F rfl (o_eqlF (F.ev rfl) (F.ev rfl) (by omega) ?_); clear F; clear a; intro a F
      refine stepD rfl F rfl (o_assign (F.ev rfl) ?_); clear F; clear a; intro a F
      with_reducible refine l_nil ?_
      with_reducible refine q_then ?_
      refine c_false F rfl rfl ?_
      with_reducible refine c_seq ?_
      with_reducible refine c_region ?_
      refine stepD rfl F rfl (o_eqlT (F.ev rfl) (F.ev rfl) (by omega) ?_); clear F; clear a; intro a F
      refine stepD rfl F rfl (o_assign (F.ev rfl) ?_); clear F; clear a; intro a F
      with_reducible refine l_nil ?_
      with_reducible refine q_then ?_
      refine c_true F rfl rfl ?_
      with_reducible refine c_seq ?_
      with_reducible refine c_region ?_
      refine stepD rfl F rfl (o_fieldAddr (F.ev rfl) ?_); clear F; clear a; intro a F
      refine stepD rfl F rfl (o_load1 M (F.ev rfl) (by repeat (first | exact .here | apply Has.there)) (by first | assumption | rfl) ?_); clear F; clear a; intro a F
      refine stepD rfl F rfl (o_eql (F.ev rfl) (F.ev rfl) ?_); clear F; clear a; intro a F
      refine stepD rfl F rfl (o_assign (F.ev rfl) ?_); clear F; clear a; intro a F
      with_reducible refine l_nil ?_
      with_reducible refine q_then ?_
      with_reducible refine c_ret ?_
      with_reducible refine q_inBR ?_
      with_reducible refine q_thenR ?_
      refine p_ret F rfl (.cons (.tmp (F.ev rfl)) .nil) ?_
      exact ⟨by simp [oneOr], M.ext⟩
    · by_cases h3 : m = 3
      · subst h3
        refine fn_ofM (n := 25) [] Try.func124 rfl rfl rfl ?_
        intro a w F M hwW
        refine c_seq ?_
        refine c_region ?_
        (refine stepD rfl F rfl (o_box M (F.ev rfl) rfl ?_); clear F; clear M; intro b1 w M a F)
        refine stepD rfl F rfl (o_assign (F.ev rfl) ?_); clear F; clear a; intro a F
        with_reducible refine l_nil ?_
        with_reducible refine q_then ?_
        with_reducible refine c_seq ?_
        with_reducible refine c_seq ?_
        with_reducible refine c_region ?_
        refine stepD rfl F rfl (o_fieldAddr (F.ev rfl) ?_); clear F; clear a; intro a F
        refine stepD rfl F rfl (o_load1 M (F.ev rfl) (by repeat (first | exact .here | apply Has.there)) (by first | assumption | rfl) ?_); clear F; clear a; intro a F
        with_reducible refine l_nil ?_
        with_reducible refine q_then ?_
        with_reducible refine c_block ?_
        with_reducible refine c_seq ?_
        with_reducible refine c_region ?_
        refine stepD rfl F rfl (o_eqlF (F.ev rfl) (F.ev rfl) (by omega) ?_); clear F; clear a; intro a F
        refine stepD rfl F rfl (o_assign (F.ev rfl) ?_); clear F; clear a; intro a F
        with_reducible refine l_nil ?_
        with_reducible refine q_then ?_
        refine c_false F rfl rfl ?_
        with_reducible refine c_seq ?_
        with_reducible refine c_region ?_
        refine stepD rfl F rfl (o_eqlF (F.ev rfl) (F.ev rfl) (by omega) ?_); clear F; clear a; intro a F
        refine stepD rfl F rfl (o_assign (F.ev rfl) ?_); clear F; clear a; intro a F
        with_reducible refine l_nil ?_
        with_reducible refine q_then ?_
        refine c_false F rfl rfl ?_
        with_reducible refine c_seq ?_
        with_reducible refine c_region ?_
        refine stepD rfl F rfl (o_eqlT (F.ev rfl) (F.ev rfl) (by omega) ?_); clear F; clear a; intro a F
        refine stepD rfl F rfl (o_assign (F.ev rfl) ?_); clear F; clear a; intro a F
        with_reducible refine l_nil ?_
        with_reducible refine q_then ?_
        refine c_true F rfl rfl ?_
        with_reducible refine c_seq ?_
        with_reducible refine c_region ?_
        refine stepD rfl F rfl (o_fieldAddr (F.ev rfl) ?_); clear F; clear a; intro a F
        refine stepD rfl F rfl (o_load1 M (F.ev rfl) (by repeat (first | exact .here | apply Has.there)) (by first | assumption | rfl) ?_); clear F; clear a; intro a F
        refine stepD rfl F rfl (o_eql (F.ev rfl) (F.ev rfl) ?_); clear F; clear a; intro a F
        refine stepD rfl F rfl (o_assign (F.ev rfl) ?_); clear F; clear a; intro a F
        with_reducible refine l_nil ?_
        with_reducible refine q_then ?_
        with_reducible refine c_ret ?_
        with_reducible refine q_inBR ?_
        with_reducible refine q_thenR ?_
        refine p_ret F rfl (.cons (.tmp (F.ev rfl)) .nil) ?_
        exact ⟨by simp [oneOr], M.ext⟩
      · refine fn_ofM (n := 25) [] Try.func124 rfl rfl rfl ?_
        intro a w F M hwW
        refine c_seq ?_
        refine c_region ?_
        (refine stepD rfl F rfl (o_box M (F.ev rfl) rfl ?_); clear F; clear M; intro b1 w M a F)
        refine stepD rfl F rfl (o_assign (F.ev rfl) ?_); clear F; clear a; intro a F
        with_reducible refine l_nil ?_
        with_reducible refine q_then ?_
        with_reducible refine c_seq ?_
        with_reducible refine c_seq ?_
        with_reducible refine c_region ?_
        refine stepD rfl F rfl (o_fieldAddr (F.ev rfl) ?_); clear F; clear a; intro a F
        refine stepD rfl F rfl (o_load1 M (F.ev rfl) (by repeat (first | exact .here | apply Has.there)) (by first | assumption | rfl) ?_); clear F; clear a; intro a F
        with_reducible refine l_nil ?_
        with_reducible refine q_then ?_
        with_reducible refine c_block ?_
        with_reducible refine c_seq ?_
        with_reducible refine c_region ?_
        refine stepD rfl F rfl (o_eqlF (F.ev rfl) (F.ev rfl) (by omega) ?_); clear F; clear a; intro a F
        refine stepD rfl F rfl (o_assign (F.ev rfl) ?_); clear F; clear a; intro a F
        with_reducible refine l_nil ?_
        with_reducible refine q_then ?_
        refine c_false F rfl rfl ?_
        with_reducible refine c_seq ?_
        with_reducible refine c_region ?_
        refine stepD rfl F rfl (o_eqlF (F.ev rfl) (F.ev rfl) (by omega) ?_); clear F; clear a; intro a F
        refine stepD rfl F rfl (o_assign (F.ev rfl) ?_); clear F; clear a; intro a F
        with_reducible refine l_nil ?_
        with_reducible refine q_then ?_
        refine c_false F rfl rfl ?_
        with_reducible refine c_seq ?_
        with_reducible refine c_region ?_
        refine stepD rfl F rfl (o_eqlF (F.ev rfl) (F.ev rfl) (by omega) ?_); clear F; clear a; intro a F
        refine stepD rfl F rfl (o_assign (F.ev rfl) ?_); clear F; clear a; intro a F
        with_reducible refine l_nil ?_
        with_reducible refine q_then ?_
        refine c_false F rfl rfl ?_
        with_reducible refine c_skip ?_
        with_reducible refine q_inB ?_
        with_reducible refine q_then ?_
        with_reducible refine c_seq ?_
        with_reducible refine c_region ?_
        refine stepD rfl F rfl (o_assign (F.ev rfl) ?_); clear F; clear a; intro a F
        with_reducible refine l_nil ?_
        with_reducible refine q_then ?_
        with_reducible refine c_ret ?_
        refine p_ret F rfl (.cons (.tmp (F.ev rfl)) .nil) ?_
        exact ⟨by simp [oneOr, h0, h2, h3], M.ext⟩
def someA (m s e : Int) : Bool := validA m s e && decide (m ≠ 0)
theorem some_c (m s e : Int) (W : World) : Cal Try.prog 108 [.agg (adC m s e).toArray].toArray W fun v w' => v = .bool (someA m s e) ∧ Ext [] W w' := by
  have hb : @Eq (List Value) (adC m s e) [.int .i64 m, .int .u16 s, .int .u64 e] := rfl
  unfold someA
  cases hv : validA m s e
  · refine fn_ofM (n := 10) [] Try.func108 rfl rfl rfl ?_
    intro a w F M hwW
    refine c_seq ?_
    refine c_region ?_
    (refine stepD rfl F rfl (o_box M (F.ev rfl) rfl ?_); clear F; clear M; intro b1 w M a F)
    refine stepD rfl F rfl (o_assign (F.ev rfl) ?_); clear F; clear a; intro a F
    with_reducible refine l_nil ?_
    with_reducible refine q_then ?_
    with_reducible refine c_seq ?_
    with_reducible refine c_region ?_
    refine stepD rfl F rfl (o_loadA M (F.ev rfl) (by repeat (first | exact .here | apply Has.there)) (by first | assumption | rfl) ?_); clear F; clear a; intro a F
    (refine stepD rfl F rfl (o_call (F.ev rfl) (F.evs rfl) (Cal.mono (Cal.to (rvalid_c m s e _) (by rw [hv])) ?_)); clear F; clear a; rintro _ w ⟨rfl, hE⟩ a F; replace M := M.later hE; clear hE)
    refine stepD rfl F rfl (o_move (F.ev rfl) ?_); clear F; clear a; intro a F
    refine stepOff F rfl rfl rfl rfl ?_; clear F; clear a; intro a F
    refine stepOff F rfl rfl rfl rfl ?_; clear F; clear a; intro a F
    refine stepOff F rfl rfl rfl rfl ?_; clear F; clear a; intro a F
    refine stepD rfl F rfl (o_pickF (F.ev rfl) (F.ev rfl) ?_); clear F; clear a; intro a F
    refine stepD rfl F rfl (o_assign (F.ev rfl) ?_); clear F; clear a; intro a F
    with_reducible refine l_nil ?_
    with_reducible refine q_then ?_
    with_reducible refine c_ret ?_
    refine p_ret F rfl (.cons (.tmp (F.ev rfl)) .nil) ?_
    exact ⟨rfl, M.ext⟩
  · by_cases h0 : m = 0
    · refine fn_ofM (n := 10) [] Try.func108 rfl rfl rfl ?_
      intro a w F M hwW
      refine c_seq ?_
      refine c_region ?_
      (refine stepD rfl F rfl (o_box M (F.ev rfl) rfl ?_); clear F; clear M; intro b1 w M a F)
      refine stepD rfl F rfl (o_assign (F.ev rfl) ?_); clear F; clear a; intro a F
      with_reducible refine l_nil ?_
      with_reducible refine q_then ?_
      with_reducible refine c_seq ?_
      with_reducible refine c_region ?_
      refine stepD rfl F rfl (o_loadA M (F.ev rfl) (by repeat (first | exact .here | apply Has.there)) (by first | assumption | rfl) ?_); clear F; clear a; intro a F
      (refine stepD rfl F rfl (o_call (F.ev rfl) (F.evs rfl) (Cal.mono (Cal.to (rvalid_c m s e _) (by rw [hv])) ?_)); clear F; clear a; rintro _ w ⟨rfl, hE⟩ a F; replace M := M.later hE; clear hE)
      refine stepD rfl F rfl (o_move (F.ev rfl) ?_); clear F; clear a; intro a F
      refine stepG rfl F rfl rfl rfl (o_fieldAddr (F.ev rfl) ?_); clear F; clear a; intro a F
      refine stepG rfl F rfl rfl rfl (o_load1 M (F.ev rfl) (by repeat (first | exact .here | apply Has.there)) (by first | assumption | rfl) ?_); clear F; clear a; intro a F
      refine stepG rfl F rfl rfl rfl (o_neqF (F.ev rfl) (F.ev rfl) (by omega) ?_); clear F; clear a; intro a F
      refine stepD rfl F rfl (o_pickT (F.ev rfl) (F.ev rfl) ?_); clear F; clear a; intro a F
      refine stepD rfl F rfl (o_assign (F.ev rfl) ?_); clear F; clear a; intro a F
      with_reducible refine l_nil ?_
      with_reducible refine q_then ?_
      with_reducible refine c_ret ?_
      refine p_ret F rfl (.cons (.tmp (F.ev rfl)) .nil) ?_
      exact ⟨by simp [oneOr, h0], M.ext⟩
    · refine fn_ofM (n := 10) [] Try.func108 rfl rfl rfl ?_
      intro a w F M hwW
      refine c_seq ?_
      refine c_region ?_
      (refine stepD rfl F rfl (o_box M (F.ev rfl) rfl ?_); clear F; clear M; intro b1 w M a F)
      refine stepD rfl F rfl (o_assign (F.ev rfl) ?_); clear F; clear a; intro a F
      with_reducible refine l_nil ?_
      with_reducible refine q_then ?_
      with_reducible refine c_seq ?_
      with_reducible refine c_region ?_
      refine stepD rfl F rfl (o_loadA M (F.ev rfl) (by repeat (first | exact .here | apply Has.there)) (by first | assumption | rfl) ?_); clear F; clear a; intro a F
      (refine stepD rfl F rfl (o_call (F.ev rfl) (F.evs rfl) (Cal.mono (Cal.to (rvalid_c m s e _) (by rw [hv])) ?_)); clear F; clear a; rintro _ w ⟨rfl, hE⟩ a F; replace M := M.later hE; clear hE)
      refine stepD rfl F rfl (o_move (F.ev rfl) ?_); clear F; clear a; intro a F
      refine stepG rfl F rfl rfl rfl (o_fieldAddr (F.ev rfl) ?_); clear F; clear a; intro a F
      refine stepG rfl F rfl rfl rfl (o_load1 M (F.ev rfl) (by repeat (first | exact .here | apply Has.there)) (by first | assumption | rfl) ?_); clear F; clear a; intro a F
      refine stepG rfl F rfl rfl rfl (o_neqT (F.ev rfl) (F.ev rfl) (by omega) ?_); clear F; clear a; intro a F
      refine stepD rfl F rfl (o_pickT (F.ev rfl) (F.ev rfl) ?_); clear F; clear a; intro a F
      refine stepD rfl F rfl (o_assign (F.ev rfl) ?_); clear F; clear a; intro a F
      with_reducible refine l_nil ?_
      with_reducible refine q_then ?_
      with_reducible refine c_ret ?_
      refine p_ret F rfl (.cons (.tmp (F.ev rfl)) .nil) ?_
      exact ⟨by simp [oneOr, h0], M.ext⟩
theorem some_mode {m s e : Int} (h : someA m s e = true) : validA m s e = true ∧ (m = 2 ∨ m = 3) := by
  simp only [someA, Bool.and_eq_true, decide_eq_true_eq] at h
  refine ⟨h.1, ?_⟩
  have hv := h.1
  unfold validA at hv
  by_cases h2 : m = 2
  · exact .inl h2
  · by_cases h3 : m = 3
    · exact .inr h3
    · simp [h.2, h2, h3] at hv
theorem none_iid {m s e : Int} (h : someA m s e = false) : iidA m s e = none := by
  unfold iidA
  cases hv : validA m s e
  · simp
  · have h0 : m = 0 := by
      simp only [someA, hv, Bool.true_and, decide_eq_false_iff_not, ne_eq, Classical.not_not] at h
      exact h
    simp [h0]
set_option maxHeartbeats 400000 in
theorem riid_c (m s e : Int) (hs0 : 0 ≤ s) (hs1 : s ≤ 65535) (W : World) : Cal Try.prog 93 [.agg (adC m s e).toArray].toArray W fun v w' => v = optU (iidA m s e) ∧ Ext [] W w' := by
  have hb : @Eq (List Value) (adC m s e) [.int .i64 m, .int .u16 s, .int .u64 e] := rfl
  cases hv : someA m s e
  · refine fn_ofM (n := 17) [] Try.func93 rfl rfl rfl ?_
    intro a w F M hwW
    refine c_seq ?_
    refine c_region ?_
    (refine stepD rfl F rfl (o_box M (F.ev rfl) rfl ?_); clear F; clear M; intro b1 w M a F)
    refine stepD rfl F rfl (o_assign (F.ev rfl) ?_); clear F; clear a; intro a F
    refine stepD rfl F rfl (o_assign (F.ev rfl) ?_); clear F; clear a; intro a F
    with_reducible refine l_nil ?_
    with_reducible refine q_then ?_
    with_reducible refine c_seq ?_
    with_reducible refine c_seq ?_
    with_reducible refine c_region ?_
    refine stepD rfl F rfl (o_loadA M (F.ev rfl) (by repeat (first | exact .here | apply Has.there)) (by first | assumption | rfl) ?_); clear F; clear a; intro a F
    (refine stepD rfl F rfl (o_call (F.ev rfl) (F.evs rfl) (Cal.mono (Cal.to (some_c m s e _) (by rw [hv])) ?_)); clear F; clear a; rintro _ w ⟨rfl, hE⟩ a F; replace M := M.later hE; clear hE)
    refine stepD rfl F rfl (o_not (F.ev rfl) ?_); clear F; clear a; intro a F
    with_reducible refine l_nil ?_
    with_reducible refine q_then ?_
    refine c_true F rfl rfl ?_
    with_reducible refine c_seq ?_
    with_reducible refine c_region ?_
    refine stepD rfl F rfl (o_assign (F.ev rfl) ?_); clear F; clear a; intro a F
    refine stepD rfl F rfl (o_assign (F.ev rfl) ?_); clear F; clear a; intro a F
    with_reducible refine l_nil ?_
    with_reducible refine q_then ?_
    with_reducible refine c_ret ?_
    with_reducible refine q_thenR ?_
    refine p_ret F rfl (.cons (.tmp (F.ev rfl)) (.cons (.tmp (F.ev rfl)) .nil)) ?_
    exact ⟨by simp [oneOr, optU, none_iid hv], M.ext⟩
  · obtain ⟨h1, h2⟩ := some_mode hv
    rcases h2 with rfl | rfl
    · refine fn_ofM (n := 17) [] Try.func93 rfl rfl rfl ?_
      intro a w F M hwW
      refine c_seq ?_
      refine c_region ?_
      (refine stepD rfl F rfl (o_box M (F.ev rfl) rfl ?_); clear F; clear M; intro b1 w M a F)
      refine stepD rfl F rfl (o_assign (F.ev rfl) ?_); clear F; clear a; intro a F
      refine stepD rfl F rfl (o_assign (F.ev rfl) ?_); clear F; clear a; intro a F
      with_reducible refine l_nil ?_
      with_reducible refine q_then ?_
      with_reducible refine c_seq ?_
      with_reducible refine c_seq ?_
      with_reducible refine c_region ?_
      refine stepD rfl F rfl (o_loadA M (F.ev rfl) (by repeat (first | exact .here | apply Has.there)) (by first | assumption | rfl) ?_); clear F; clear a; intro a F
      (refine stepD rfl F rfl (o_call (F.ev rfl) (F.evs rfl) (Cal.mono (Cal.to (some_c 2 s e _) (by rw [hv])) ?_)); clear F; clear a; rintro _ w ⟨rfl, hE⟩ a F; replace M := M.later hE; clear hE)
      refine stepD rfl F rfl (o_not (F.ev rfl) ?_); clear F; clear a; intro a F
      with_reducible refine l_nil ?_
      with_reducible refine q_then ?_
      refine c_false F rfl rfl ?_
      with_reducible refine c_skip ?_
      with_reducible refine q_then ?_
      with_reducible refine c_seq ?_
      with_reducible refine c_seq ?_
      with_reducible refine c_region ?_
      refine stepD rfl F rfl (o_fieldAddr (F.ev rfl) ?_); clear F; clear a; intro a F
      refine stepD rfl F rfl (o_load1 M (F.ev rfl) (by repeat (first | exact .here | apply Has.there)) (by first | assumption | rfl) ?_); clear F; clear a; intro a F
      refine stepD rfl F rfl (o_eqlF (F.ev rfl) (F.ev rfl) (by omega) ?_); clear F; clear a; intro a F
      with_reducible refine l_nil ?_
      with_reducible refine q_then ?_
      refine c_false F rfl rfl ?_
      with_reducible refine c_skip ?_
      with_reducible refine q_then ?_
      with_reducible refine c_seq ?_
      with_reducible refine c_region ?_
      refine stepD rfl F rfl (o_fieldAddr (F.ev rfl) ?_); clear F; clear a; intro a F
      refine stepD rfl F rfl (o_load1 M (F.ev rfl) (by repeat (first | exact .here | apply Has.there)) (by first | assumption | rfl) ?_); clear F; clear a; intro a F
      refine stepD rfl F rfl (o_conv (F.ev rfl) (w_u64 (by omega) (by omega)) ?_); clear F; clear a; intro a F
      refine stepD rfl F rfl (o_add (F.ev rfl) (F.ev rfl) (w_u64 (by omega) (by omega)) ?_); clear F; clear a; intro a F
      refine stepD rfl F rfl (o_assign (F.ev rfl) ?_); clear F; clear a; intro a F
      refine stepD rfl F rfl (o_assign (F.ev rfl) ?_); clear F; clear a; intro a F
      with_reducible refine l_nil ?_
      with_reducible refine q_then ?_
      with_reducible refine c_ret ?_
      refine p_ret F rfl (.cons (.tmp (F.ev rfl)) (.cons (.tmp (F.ev rfl)) .nil)) ?_
      exact ⟨by simp [oneOr, optU, iidA, h1], M.ext⟩
    · refine fn_ofM (n := 17) [] Try.func93 rfl rfl rfl ?_
      intro a w F M hwW
      refine c_seq ?_
      refine c_region ?_
      (refine stepD rfl F rfl (o_box M (F.ev rfl) rfl ?_); clear F; clear M; intro b1 w M a F)
      refine stepD rfl F rfl (o_assign (F.ev rfl) ?_); clear F; clear a; intro a F
      refine stepD rfl F rfl (o_assign (F.ev rfl) ?_); clear F; clear a; intro a F
      with_reducible refine l_nil ?_
      with_reducible refine q_then ?_
      with_reducible refine c_seq ?_
      with_reducible refine c_seq ?_
      with_reducible refine c_region ?_
      refine stepD rfl F rfl (o_loadA M (F.ev rfl) (by repeat (first | exact .here | apply Has.there)) (by first | assumption | rfl) ?_); clear F; clear a; intro a F
      (refine stepD rfl F rfl (o_call (F.ev rfl) (F.evs rfl) (Cal.mono (Cal.to (some_c 3 s e _) (by rw [hv])) ?_)); clear F; clear a; rintro _ w ⟨rfl, hE⟩ a F; replace M := M.later hE; clear hE)
      refine stepD rfl F rfl (o_not (F.ev rfl) ?_); clear F; clear a; intro a F
      with_reducible refine l_nil ?_
      with_reducible refine q_then ?_
      refine c_false F rfl rfl ?_
      with_reducible refine c_skip ?_
      with_reducible refine q_then ?_
      with_reducible refine c_seq ?_
      with_reducible refine c_seq ?_
      with_reducible refine c_region ?_
      refine stepD rfl F rfl (o_fieldAddr (F.ev rfl) ?_); clear F; clear a; intro a F
      refine stepD rfl F rfl (o_load1 M (F.ev rfl) (by repeat (first | exact .here | apply Has.there)) (by first | assumption | rfl) ?_); clear F; clear a; intro a F
      refine stepD rfl F rfl (o_eqlT (F.ev rfl) (F.ev rfl) (by omega) ?_); clear F; clear a; intro a F
      with_reducible refine l_nil ?_
      with_reducible refine q_then ?_
      refine c_true F rfl rfl ?_
      with_reducible refine c_seq ?_
      with_reducible refine c_region ?_
      refine stepD rfl F rfl (o_fieldAddr (F.ev rfl) ?_); clear F; clear a; intro a F
      refine stepD rfl F rfl (o_load1 M (F.ev rfl) (by repeat (first | exact .here | apply Has.there)) (by first | assumption | rfl) ?_); clear F; clear a; intro a F
      refine stepD rfl F rfl (o_xor (F.ev rfl) (F.ev rfl) rfl ?_); clear F; clear a; intro a F
      refine stepD rfl F rfl (o_assign (F.ev rfl) ?_); clear F; clear a; intro a F
      refine stepD rfl F rfl (o_assign (F.ev rfl) ?_); clear F; clear a; intro a F
      with_reducible refine l_nil ?_
      with_reducible refine q_then ?_
      with_reducible refine c_ret ?_
      with_reducible refine q_thenR ?_
      refine p_ret F rfl (.cons (.tmp (F.ev rfl)) (.cons (.tmp (F.ev rfl)) .nil)) ?_
      exact ⟨by simp [oneOr, optU, iidA, h1], M.ext⟩
end

section
set_option linter.unusedVariables false
set_option linter.unusedSimpArgs false
open Go.RowKit
attribute [local irreducible] OpTo wpListIn Code.wpIn MW Cal
def orow (x y : Int) (i k : Nat) : List Value := (List.range 16).map fun j => if j < 8 then (if j < i then .int .u8 (beAt x j) else .int .u8 0) else (if j - 8 < k then .int .u8 (beAt y (j - 8)) else .int .u8 0)
theorem orow_all (x y : Int) : orow x y 8 8 = ipC (beB x ++ beB y) := rfl
def shrB (x : Int) (i : Nat) : Int := IntKind.u8.wrap (Int.fdiv x (2 ^ min (56 - 8 * (i : Int)).toNat IntKind.u64.bits))
theorem shrB_be (x : Int) {i : Nat} (h : i < 8) : shrB x i = beAt x i := by
  unfold shrB beAt
  rw [show (56 - 8 * (i : Int)) = 8 * (8 - 1 - (i : Int)) by omega]
  rfl
theorem put_o1 {x y : Int} {i : Nat} (h : i < 8) : put (orow x y i i) (0 + (i : Int).toNat * 1) [.int .u8 (shrB x i)] = some (orow x y (i + 1) i) := by
  rw [shrB_be x h, put1 (q := i) _ (by omega) (by simp [orow]; omega)]
  congr 1
  unfold orow
  apply List.ext_getElem (by simp)
  intro j h1 h2
  simp only [List.getElem_set, List.getElem_map, List.getElem_range]
  split
  · subst_vars; simp [h]
  · have : j < i ↔ j < i + 1 := by omega
    simp [this]
theorem put_o2 {x y : Int} {i : Nat} (h : i < 8) : put (orow x y (i + 1) i) (0 + (8 + (i : Int)).toNat * 1) [.int .u8 (shrB y i)] = some (orow x y (i + 1) (i + 1)) := by
  rw [shrB_be y h, put1 (q := 8 + i) _ (by omega) (by simp [orow]; omega)]
  congr 1
  unfold orow
  apply List.ext_getElem (by simp)
  intro j h1 h2
  simp only [List.getElem_set, List.getElem_map, List.getElem_range]
  split
  · subst_vars
    rw [if_neg (by omega), if_pos (by omega), Nat.add_sub_cancel_left]
  · by_cases h8 : j < 8
    · simp [h8]
    · have : j - 8 < i ↔ j - 8 < i + 1 := by omega
      simp [h8, this]
set_option maxHeartbeats 400000 in
theorem of_c (x y : Int) (hx : 0 ≤ x) (hy : 0 ≤ y) (W : World) : Cal Try.prog 110 [.int .u64 x, .int .u64 y].toArray W fun v w' => v = .agg (ipC (beB x ++ beB y)).toArray ∧ Ext [] W w' := by
  refine fn_ofM (n := 31) [] Try.func110 rfl rfl rfl ?_
  intro a w F M hwW
  refine c_seq ?_
  refine c_region ?_
  (refine stepD rfl F rfl (o_alloc M ?_); clear F; clear M; intro b4 w M a F)
  with_reducible refine l_nil ?_
  with_reducible refine q_then ?_
  with_reducible refine c_seq ?_
  with_reducible refine c_region ?_
  (refine stepD rfl F rfl (o_alloc M ?_); clear F; clear M; intro b5 w M a F)
  with_reducible refine l_nil ?_
  with_reducible refine q_then ?_
  with_reducible refine c_seq ?_
  with_reducible refine c_seq ?_
  with_reducible refine c_region ?_
  refine stepD rfl F rfl (o_assign (F.ev rfl) ?_); clear F; clear a; intro a F
  with_reducible refine l_nil ?_
  with_reducible refine q_then ?_
  with_reducible refine c_block ?_
  refine c_loop (fun k a w => ∃ i : Nat, k = 8 - i ∧ i ≤ 8 ∧ Frm a 31 [] [(6, .int .i64 i), (5, .pointer (some ⟨b5, 0, none⟩)), (4, .pointer (some ⟨b4, 0, none⟩)), (0, .int .u64 x), (1, .int .u64 y)] ∧ Mem [] W w [(b5, .cells (orow x y i i).toArray 26 (0, 0)), (b4, .cells (orow 0 0 0 0).toArray 26 (0, 0))]) 8 ⟨0, rfl, by omega, F.only [6, 5, 4, 0, 1] rfl, M⟩ ?_
  clear F M
  rintro k a w ⟨i, hk, hi, F, M⟩
  by_cases hlt : i < 8
  · with_reducible refine c_seq ?_
    with_reducible refine c_seq ?_
    with_reducible refine c_region ?_
    refine stepD rfl F rfl (o_move (F.ev rfl) ?_); clear F; clear a; intro a F
    refine stepD rfl F rfl (o_lssT (F.ev rfl) (F.ev rfl) (by omega) ?_); clear F; clear a; intro a F
    with_reducible refine l_nil ?_
    with_reducible refine q_then ?_
    refine c_true F rfl rfl ?_
    with_reducible refine c_skip ?_
    with_reducible refine q_then ?_
    with_reducible refine c_seq ?_
    with_reducible refine c_block ?_
    with_reducible refine c_region ?_
    refine stepD rfl F rfl (o_move (F.ev rfl) ?_); clear F; clear a; intro a F
    refine stepD rfl F rfl (o_move (F.ev rfl) ?_); clear F; clear a; intro a F
    refine stepD rfl F rfl (o_add (F.ev rfl) (F.ev rfl) (w_i64 (by omega) (by omega)) ?_); clear F; clear a; intro a F
    refine stepD rfl F rfl (o_move (F.ev rfl) ?_); clear F; clear a; intro a F
    refine stepD rfl F rfl (o_move (F.ev rfl) ?_); clear F; clear a; intro a F
    refine stepD rfl F rfl (o_conv (F.ev rfl) (w_u64 (by omega) (by omega)) ?_); clear F; clear a; intro a F
    refine stepD rfl F rfl (o_mul (F.ev rfl) (F.ev rfl) (w_u64 (by omega) (by omega)) ?_); clear F; clear a; intro a F
    refine stepD rfl F rfl (o_sub (F.ev rfl) (F.ev rfl) (w_u64 (by omega) (by omega)) ?_); clear F; clear a; intro a F
    refine stepD rfl F rfl (o_shr (F.ev rfl) (F.ev rfl) (by omega) rfl ?_); clear F; clear a; intro a F
    refine stepD rfl F rfl (o_conv (F.ev rfl) rfl ?_); clear F; clear a; intro a F
    refine stepD rfl F rfl (o_move (F.ev rfl) ?_); clear F; clear a; intro a F
    refine stepD rfl F rfl (o_move (F.ev rfl) ?_); clear F; clear a; intro a F
    refine stepD rfl F rfl (o_conv (F.ev rfl) (w_u64 (by omega) (by omega)) ?_); clear F; clear a; intro a F
    refine stepD rfl F rfl (o_mul (F.ev rfl) (F.ev rfl) (w_u64 (by omega) (by omega)) ?_); clear F; clear a; intro a F
    refine stepD rfl F rfl (o_sub (F.ev rfl) (F.ev rfl) (w_u64 (by omega) (by omega)) ?_); clear F; clear a; intro a F
    refine stepD rfl F rfl (o_shr (F.ev rfl) (F.ev rfl) (by omega) rfl ?_); clear F; clear a; intro a F
    refine stepD rfl F rfl (o_conv (F.ev rfl) rfl ?_); clear F; clear a; intro a F
    refine stepD rfl F rfl (o_indexArr (F.ev rfl) (F.ev rfl) (by omega) (by omega) ?_); clear F; clear a; intro a F
    (refine stepN rfl F (o_store1 M (F.ev rfl) (F.ev rfl) rfl (by repeat (first | exact .here | apply Has.there)) (put_o1 hlt) (by repeat (first | exact .here | apply Upd.there)) ?_); clear F; clear M; intro w M a F)
    refine stepD rfl F rfl (o_indexArr (F.ev rfl) (F.ev rfl) (by omega) (by omega) ?_); clear F; clear a; intro a F
    (refine stepN rfl F (o_store1 M (F.ev rfl) (F.ev rfl) rfl (by repeat (first | exact .here | apply Has.there)) (put_o2 hlt) (by repeat (first | exact .here | apply Upd.there)) ?_); clear F; clear M; intro w M a F)
    with_reducible refine l_nil ?_
    with_reducible refine q_inB ?_
    with_reducible refine q_then ?_
    with_reducible refine c_region ?_
    refine stepD rfl F rfl (o_move (F.ev rfl) ?_); clear F; clear a; intro a F
    refine stepD rfl F rfl (o_add (F.ev rfl) (F.ev rfl) (w_i64 (by omega) (by omega)) ?_); clear F; clear a; intro a F
    refine stepD rfl F rfl (o_assign (F.ev rfl) ?_); clear F; clear a; intro a F
    with_reducible refine l_nil ?_
    with_reducible refine q_then ?_
    exact ⟨_, by omega, i + 1, rfl, by omega, F.only [6, 5, 4, 0, 1] rfl, M⟩
  · obtain rfl : i = 8 := by omega
    rw [orow_all] at M
    have hl3 : (ipC (beB x ++ beB y)).length = 16 := by simp [ipC, beB_len]
    have s3 : seg (ipC (beB x ++ beB y)) 0 16 = some (ipC (beB x ++ beB y)) := seg_all hl3
    with_reducible refine c_seq ?_
    with_reducible refine c_seq ?_
    with_reducible refine c_region ?_
    refine stepD rfl F rfl (o_move (F.ev rfl) ?_); clear F; clear a; intro a F
    refine stepD rfl F rfl (o_lssF (F.ev rfl) (F.ev rfl) (by omega) ?_); clear F; clear a; intro a F
    with_reducible refine l_nil ?_
    with_reducible refine q_then ?_
    refine c_false F rfl rfl ?_
    with_reducible refine c_exit ?_
    with_reducible refine q_thenX ?_
    with_reducible refine q_thenX ?_
    with_reducible refine q_inBX ?_
    with_reducible refine q_then ?_
    with_reducible refine c_seq ?_
    with_reducible refine c_region ?_
    refine stepD rfl F rfl (o_loadA M (F.ev rfl) (by repeat (first | exact .here | apply Has.there)) (by first | assumption | rfl) ?_); clear F; clear a; intro a F
    (refine stepN rfl F (o_storeA M (F.ev rfl) (F.ev rfl) hl3 (one_ip _)  (by repeat (first | exact .here | apply Has.there))  (put_all (by rw [hl3]; rfl)) (by repeat (first | exact .here | apply Upd.there)) ?_); clear F; clear M; intro w M a F)
    with_reducible refine l_nil ?_
    with_reducible refine q_then ?_
    with_reducible refine c_ret ?_
    refine p_ret F rfl (.cons (.cell (F.ev rfl) (run_loadVar_agg TAgg.h (M.heap (by repeat (first | exact .here | apply Has.there))) s3)) .nil) ⟨rfl, M.ext⟩
end

section
set_option linter.unusedVariables false
set_option linter.unusedSimpArgs false
open Go.RowKit
attribute [local irreducible] OpTo wpListIn Code.wpIn MW Cal
theorem fits_ip {a : List Int} (ha : a.length = 16) : fitsK [.i .u8, .i .u8, .i .u8, .i .u8, .i .u8, .i .u8, .i .u8, .i .u8, .i .u8, .i .u8, .i .u8, .i .u8, .i .u8, .i .u8, .i .u8, .i .u8] (ipC a) = true := by
  obtain ⟨x0, x1, x2, x3, x4, x5, x6, x7, x8, x9, x10, x11, x12, x13, x14, x15, rfl⟩ := len16 ha
  rfl
end

section
set_option linter.unusedVariables false
set_option linter.unusedSimpArgs false
open Go.RowKit
def bitX (x : Int) (r : Nat) : Int := bitsOf .and .u8 (Int.fdiv x (2 ^ min (7 - (r : Int)).toNat IntKind.u8.bits)) 1
/-- bit i of an address -/
def bitI (a : List Int) (i : Nat) : Int := bitX (a.getD (i / 8) 0) (i % 8)
theorem bit_fin : ∀ x : Fin 256, ∀ r : Fin 8, bitX (x.1 : Int) r.1 = ((x.1 / 2 ^ (7 - r.1) % 2 : Nat) : Int) := by decide +kernel
theorem valid_fin : ∀ x : Fin 256, ∀ k : Fin 9, (x.1 / 2 ^ (8 - k.1) * 2 ^ (8 - k.1) = x.1) ↔ ∀ r : Fin 8, k.1 ≤ r.1 → x.1 / 2 ^ (7 - r.1) % 2 = 0 := by decide +kernel
theorem low_bits : ∀ x : Fin 256, ∀ k : Fin 9, (Lib.bitLen x.1 ≤ 8 - k.1) ↔ ∀ r : Fin 8, r.1 < k.1 → x.1 / 2 ^ (7 - r.1) % 2 = 0 := by decide +kernel
theorem mask_fin : ∀ x : Fin 256, ∀ r : Fin 8, bitsOf .or .u8 (cutB (x.1 : Int) r.1) (IntKind.u8.wrap (bitX (x.1 : Int) r.1 * 2 ^ min (7 - (r.1 : Int)).toNat IntKind.u8.bits)) = cutB (x.1 : Int) (r.1 + 1) := by decide +kernel
theorem cut0_fin : ∀ x : Fin 256, cutB (x.1 : Int) 0 = 0 := by decide +kernel
theorem bitX_nat {x : Nat} {r : Nat} (hx : x < 256) (hr : r < 8) : bitX (x : Int) r = ((x / 2 ^ (7 - r) % 2 : Nat) : Int) := bit_fin ⟨x, hx⟩ ⟨r, hr⟩
theorem byte_of {a : List Int} (ha : IsIP a) (j : Nat) : ∃ x : Nat, x < 256 ∧ a.getD j 0 = (x : Int) := by
  have := ha.at_ j
  obtain ⟨x, hx⟩ := Int.eq_ofNat_of_zero_le this.1
  exact ⟨x, by omega, hx⟩
theorem bitI_bd {a : List Int} (ha : IsIP a) (i : Nat) : bitI a i = 0 ∨ bitI a i = 1 := by
  obtain ⟨x, hx, hxe⟩ := byte_of ha (i / 8)
  unfold bitI
  rw [hxe, bitX_nat hx (Nat.mod_lt _ (by omega))]
  omega
theorem keep_le {n j r : Nat} (hr : r < 8) : (keepN (n : Int) j).toNat ≤ r ↔ n ≤ 8 * j + r := by
  unfold keepN
  split <;> (try split) <;> omega
theorem keep_lt {n j r : Nat} (hr : r < 8) : r < (keepN (n : Int) j).toNat ↔ 8 * j + r < n := by
  unfold keepN
  split <;> (try split) <;> omega
theorem mask_eq_iff {p : List Int} (hp : IsIP p) (n : Int) : maskI p n = p ↔ ∀ j, j < 16 → maskAt p n j = p.getD j 0 := by
  constructor
  · intro h j hj
    rw [← maskI_at p n hj, h]
  · intro h
    apply List.ext_getElem (by rw [maskI_len, hp.len])
    intro j h1 h2
    have hj : j < 16 := by rw [maskI_len] at h1; exact h1
    have e := h j hj
    simp only [maskI, List.getElem_map, List.getElem_range]
    rw [e, List.getD_eq_getElem?_getD, List.getElem?_eq_getElem h2]
    rfl
theorem valid_bits {p : List Int} (hp : IsIP p) (n : Nat) : maskI p (n : Int) = p ↔ ∀ i, n ≤ i → i < 128 → bitI p i = 0 := by
  rw [mask_eq_iff hp]
  have key : ∀ j, j < 16 → (maskAt p n j = p.getD j 0 ↔ ∀ r, r < 8 → (keepN (n : Int) j).toNat ≤ r → bitI p (8 * j + r) = 0) := by
    intro j hj
    obtain ⟨x, hx, hxe⟩ := byte_of hp j
    have hk := keepN_bd (n : Int) (j : Int)
    rw [maskAt_cut, hxe, cutB_nat hx hk]
    have hv := valid_fin ⟨x, hx⟩ ⟨(keepN (n : Int) j).toNat, by omega⟩
    simp only at hv
    constructor
    · intro h r hr hkr
      have h' : x / 2 ^ (8 - (keepN (n : Int) j).toNat) * 2 ^ (8 - (keepN (n : Int) j).toNat) = x := by exact_mod_cast h
      have := hv.1 h' ⟨r, hr⟩ hkr
      unfold bitI
      rw [show (8 * j + r) / 8 = j by omega, show (8 * j + r) % 8 = r by omega, hxe, bitX_nat hx hr]
      simp only at this
      omega
    · intro h
      have : x / 2 ^ (8 - (keepN (n : Int) j).toNat) * 2 ^ (8 - (keepN (n : Int) j).toNat) = x := hv.2 fun r hkr => by
        have h1 := h r.1 r.2 hkr
        unfold bitI at h1
        rw [show (8 * j + r.1) / 8 = j by omega, show (8 * j + r.1) % 8 = r.1 by omega, hxe, bitX_nat hx r.2] at h1
        omega
      exact_mod_cast this
  constructor
  · intro h i hi hlt
    have := (key (i / 8) (by omega)).1 (h (i / 8) (by omega)) (i % 8) (Nat.mod_lt _ (by omega)) ((keep_le (Nat.mod_lt _ (by omega))).2 (by omega))
    rwa [show 8 * (i / 8) + i % 8 = i by omega] at this
  · intro h j hj
    exact (key j hj).2 fun r hr hkr => h _ ((keep_le hr).1 hkr) (by omega)
/-- one bit more -/
theorem mask_step {a : List Int} (ha : IsIP a) {i : Nat} (hi : i < 128) : bitsOf .or .u8 (maskAt a (i : Int) (i / 8)) (IntKind.u8.wrap (bitI a i * 2 ^ min (7 - ((i % 8 : Nat) : Int)).toNat IntKind.u8.bits)) = maskAt a ((i : Int) + 1) (i / 8) := by
  obtain ⟨x, hx, hxe⟩ := byte_of ha (i / 8)
  have k1 : (keepN (i : Int) ((i / 8 : Nat) : Int)).toNat = i % 8 := by unfold keepN; split <;> (try split) <;> omega
  have k2 : (keepN ((i : Int) + 1) ((i / 8 : Nat) : Int)).toNat = i % 8 + 1 := by unfold keepN; split <;> (try split) <;> omega
  rw [maskAt_cut, maskAt_cut, k1, k2]
  unfold bitI
  rw [hxe]
  exact mask_fin ⟨x, hx⟩ ⟨i % 8, Nat.mod_lt _ (by omega)⟩
theorem mask_other {a : List Int} {i j : Nat} (hj : j ≠ i / 8) : maskAt a ((i : Int) + 1) j = maskAt a (i : Int) j := by
  have : keepN ((i : Int) + 1) (j : Int) = keepN (i : Int) (j : Int) := by unfold keepN; split <;> (try split) <;> (try split) <;> (try split) <;> omega
  rw [maskAt_cut, maskAt_cut, this]
theorem mask_set {a : List Int} {i : Nat} (hi : i < 128) : (maskI a (i : Int)).set (i / 8) (maskAt a ((i : Int) + 1) (i / 8)) = maskI a ((i : Int) + 1) := by
  unfold maskI
  apply List.ext_getElem (by simp)
  intro j h1 h2
  simp only [List.getElem_set, List.getElem_map, List.getElem_range]
  split
  · subst_vars; rfl
  · rename_i hne
    exact (mask_other (fun h => hne h.symm)).symm
theorem mask_zero {a : List Int} (ha : IsIP a) : maskI a 0 = zeroIP := by
  have : ∀ j, j < 16 → maskAt a 0 j = 0 := fun j hj => by
    obtain ⟨x, hx, hxe⟩ := byte_of ha j
    have k : (keepN 0 (j : Int)).toNat = 0 := by unfold keepN; split <;> (try split) <;> omega
    rw [maskAt_cut, hxe, k]
    exact cut0_fin ⟨x, hx⟩
  unfold maskI
  rw [List.map_congr_left (g := fun _ => (0 : Int)) fun j hj => this j (List.mem_range.1 hj)]
  rfl
theorem xor2 (a b : Nat) : (a ^^^ b) % 2 = 0 ↔ a % 2 = b % 2 := by
  have h := Nat.xor_mod_two_pow (a := a) (b := b) (n := 1)
  simp only [Nat.pow_one] at h
  rw [h]
  rcases Nat.mod_two_eq_zero_or_one a with ha | ha <;> rcases Nat.mod_two_eq_zero_or_one b with hb | hb <;> rw [ha, hb] <;> decide
/-- the first bits are the same -/
theorem common_bits {p q : List Int} (hp : IsIP p) (hq : IsIP q) {m : Nat} (hm : m ≤ 128) : ((m : Int) ≤ commonI p q) ↔ ∀ i, i < m → bitI p i = bitI q i := by
  unfold commonI
  rw [common_iff hp hq (by omega) (by omega) 16 (Nat.le_refl _)]
  have key : ∀ j, j < 16 → (Lib.bitLen (xorAt p q j).toNat ≤ 8 - (keepN (m : Int) j).toNat ↔ ∀ r, r < 8 → r < (keepN (m : Int) j).toNat → bitI p (8 * j + r) = bitI q (8 * j + r)) := by
    intro j hj
    obtain ⟨x, hx, hxe⟩ := byte_of hp j
    obtain ⟨y, hy, hye⟩ := byte_of hq j
    have hk := keepN_bd (m : Int) (j : Int)
    have hxy : x ^^^ y < 256 := Nat.xor_lt_two_pow (n := 8) hx hy
    have hxo : (xorAt p q j).toNat = x ^^^ y := by
      unfold xorAt
      rw [hxe, hye, bits_xor (k := .u8) rfl (show x < 2 ^ 8 by omega) (show y < 2 ^ 8 by omega), Int.toNat_natCast]
    rw [hxo]
    have hl := low_bits ⟨x ^^^ y, hxy⟩ ⟨(keepN (m : Int) j).toNat, by omega⟩
    simp only at hl
    rw [hl]
    have hb : ∀ r, r < 8 → (((x ^^^ y) / 2 ^ (7 - r) % 2 = 0) ↔ bitI p (8 * j + r) = bitI q (8 * j + r)) := fun r hr => by
      unfold bitI
      rw [show (8 * j + r) / 8 = j by omega, show (8 * j + r) % 8 = r by omega, hxe, hye, bitX_nat hx hr, bitX_nat hy hr, Nat.xor_div_two_pow, xor2]
      omega
    exact ⟨fun h r hr hk => (hb r hr).1 (h ⟨r, hr⟩ hk), fun h r hk => (hb r.1 r.2).2 (h r.1 r.2 hk)⟩
  constructor
  · intro h i hi
    have := (key (i / 8) (by omega)).1 (h (i / 8) (by omega) (by omega)) (i % 8) (Nat.mod_lt _ (by omega)) ((keep_lt (Nat.mod_lt _ (by omega))).2 (by omega))
    rwa [show 8 * (i / 8) + i % 8 = i by omega] at this
  · intro h j _ hj
    exact (key j hj).2 fun r hr hk => h _ ((keep_lt hr).1 hk)
theorem common_le {p q : List Int} (hp : IsIP p) (hq : IsIP q) : commonI p q ≤ 128 ∧ 0 ≤ commonI p q := by
  have key : ∀ k, k ≤ 16 → commonFrom p q k ≤ 128 ∧ 0 ≤ commonFrom p q k := by
    intro k
    induction k with
    | zero => intro _; simp [commonFrom]
    | succ k ih =>
      intro hk
      have h1 := xor_bd hp hq (15 - k)
      have h2 := bitLen_le8 h1.1 h1.2
      simp only [commonFrom]
      split
      · omega
      · exact ih (by omega)
  exact key 16 (Nat.le_refl _)
theorem common_is {p q : List Int} (hp : IsIP p) (hq : IsIP q) {n : Nat} (hn : n ≤ 128) (h : ∀ i, i < n → bitI p i = bitI q i) (h' : n < 128 → bitI p n ≠ bitI q n) : commonI p q = n := by
  have h1 := (common_bits hp hq hn).2 h
  have h2 := common_le hp hq
  rcases Nat.lt_or_ge n 128 with hlt | hge
  · have h3 : ¬ (((n + 1 : Nat) : Int) ≤ commonI p q) := fun hc => h' hlt ((common_bits hp hq (by omega)).1 hc n (by omega))
    omega
  · omega
/-- eight bytes, back -/
theorem be_inv {xs : List Int} (hl : xs.length = 8) (hb : ∀ x ∈ xs, 0 ≤ x ∧ x < 256) : beB (beN xs) = xs := by
  match xs, hl with
  | [x0, x1, x2, x3, x4, x5, x6, x7], _ =>
    have b0 := hb x0 (by simp); have b1 := hb x1 (by simp); have b2 := hb x2 (by simp); have b3 := hb x3 (by simp)
    have b4 := hb x4 (by simp); have b5 := hb x5 (by simp); have b6 := hb x6 (by simp); have b7 := hb x7 (by simp)
    obtain ⟨y0, rfl⟩ := Int.eq_ofNat_of_zero_le b0.1
    obtain ⟨y1, rfl⟩ := Int.eq_ofNat_of_zero_le b1.1
    obtain ⟨y2, rfl⟩ := Int.eq_ofNat_of_zero_le b2.1
    obtain ⟨y3, rfl⟩ := Int.eq_ofNat_of_zero_le b3.1
    obtain ⟨y4, rfl⟩ := Int.eq_ofNat_of_zero_le b4.1
    obtain ⟨y5, rfl⟩ := Int.eq_ofNat_of_zero_le b5.1
    obtain ⟨y6, rfl⟩ := Int.eq_ofNat_of_zero_le b6.1
    obtain ⟨y7, rfl⟩ := Int.eq_ofNat_of_zero_le b7.1
    clear hb
    obtain ⟨m1, h1⟩ : ∃ m, m = 256 * y0 + y1 := ⟨_, rfl⟩
    obtain ⟨m2, h2⟩ : ∃ m, m = 256 * m1 + y2 := ⟨_, rfl⟩
    obtain ⟨m3, h3⟩ : ∃ m, m = 256 * m2 + y3 := ⟨_, rfl⟩
    obtain ⟨m4, h4⟩ : ∃ m, m = 256 * m3 + y4 := ⟨_, rfl⟩
    obtain ⟨m5, h5⟩ : ∃ m, m = 256 * m4 + y5 := ⟨_, rfl⟩
    obtain ⟨m6, h6⟩ : ∃ m, m = 256 * m5 + y6 := ⟨_, rfl⟩
    obtain ⟨n, h7⟩ : ∃ m, m = 256 * m6 + y7 := ⟨_, rfl⟩
    have hn : beN [(y0 : Int), y1, y2, y3, y4, y5, y6, y7] = (n : Int) := by
      simp only [beN, List.foldl_cons, List.foldl_nil]
      omega
    rw [hn]
    have d6 : n / 256 = m6 := by omega
    have d5 : n / 65536 = m5 := by rw [show 65536 = 256 * 256 from rfl, ← Nat.div_div_eq_div_mul, d6]; omega
    have d4 : n / 16777216 = m4 := by rw [show 16777216 = 65536 * 256 from rfl, ← Nat.div_div_eq_div_mul, d5]; omega
    have d3 : n / 4294967296 = m3 := by rw [show 4294967296 = 16777216 * 256 from rfl, ← Nat.div_div_eq_div_mul, d4]; omega
    have d2 : n / 1099511627776 = m2 := by rw [show 1099511627776 = 4294967296 * 256 from rfl, ← Nat.div_div_eq_div_mul, d3]; omega
    have d1 : n / 281474976710656 = m1 := by rw [show 281474976710656 = 1099511627776 * 256 from rfl, ← Nat.div_div_eq_div_mul, d2]; omega
    have d0 : n / 72057594037927936 = y0 := by rw [show 72057594037927936 = 281474976710656 * 256 from rfl, ← Nat.div_div_eq_div_mul, d1]; omega
    have e0 : beAt (n : Int) 0 = ((n / 72057594037927936 % 256 : Nat) : Int) := beAt_nat n 0 (by omega)
    have e1 : beAt (n : Int) 1 = ((n / 281474976710656 % 256 : Nat) : Int) := beAt_nat n 1 (by omega)
    have e2 : beAt (n : Int) 2 = ((n / 1099511627776 % 256 : Nat) : Int) := beAt_nat n 2 (by omega)
    have e3 : beAt (n : Int) 3 = ((n / 4294967296 % 256 : Nat) : Int) := beAt_nat n 3 (by omega)
    have e4 : beAt (n : Int) 4 = ((n / 16777216 % 256 : Nat) : Int) := beAt_nat n 4 (by omega)
    have e5 : beAt (n : Int) 5 = ((n / 65536 % 256 : Nat) : Int) := beAt_nat n 5 (by omega)
    have e6 : beAt (n : Int) 6 = ((n / 256 % 256 : Nat) : Int) := beAt_nat n 6 (by omega)
    have e7 : beAt (n : Int) 7 = ((n / 1 % 256 : Nat) : Int) := beAt_nat n 7 (by omega)
    have hbb : beB (n : Int) = [beAt n 0, beAt n 1, beAt n 2, beAt n 3, beAt n 4, beAt n 5, beAt n 6, beAt n 7] := rfl
    rw [hbb, e0, e1, e2, e3, e4, e5, e6, e7, d0, d1, d2, d3, d4, d5, d6, Nat.div_one]
    clear d0 d1 d2 d3 d4 d5 d6 e0 e1 e2 e3 e4 e5 e6 e7 hbb hn
    simp only [List.cons.injEq, and_true]
    refine ⟨?_, ?_, ?_, ?_, ?_, ?_, ?_, ?_⟩ <;> omega
end

end Go.Proofs.Ytainnefmobfcjaa

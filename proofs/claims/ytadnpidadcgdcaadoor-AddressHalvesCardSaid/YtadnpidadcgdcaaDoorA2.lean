/-
  octets.Uint, address.Split.
-/
import Derived.Test.YtadnpidadcgdcaaDoorA1
import Derived.Test.YtadnpidadcgdcaaDoorQ4
namespace Go.Proofs.YtadnpidadcgdcaaDoor
set_option linter.unusedVariables false
set_option linter.unusedSimpArgs false
open Go.RowKit
attribute [local irreducible] OpTo wpListIn Code.wpIn MW Cal

/-- the number of a row of bytes, the first one highest -/
def beN (xs : List Int) : Int := xs.foldl (fun v c => 256 * v + c) 0
theorem beN_snoc (xs : List Int) (c : Int) : beN (xs ++ [c]) = 256 * beN xs + c := by simp [beN]
theorem beN_bd : ∀ (n : Nat) (xs : List Int), xs.length = n → (∀ x ∈ xs, 0 ≤ x ∧ x < 256) → 0 ≤ beN xs ∧ beN xs < ((256 ^ n : Nat) : Int)
  | 0, xs, hl, _ => by
    have : xs = [] := List.length_eq_zero_iff.1 hl
    subst this; simp [beN]
  | n + 1, xs, hl, h => by
    obtain ⟨ys, c, rfl⟩ : ∃ ys c, xs = ys ++ [c] := ⟨xs.dropLast, xs.getLast (by intro e; rw [e] at hl; cases hl), (List.dropLast_concat_getLast _).symm⟩
    have ih := beN_bd n ys (by simpa using hl) (fun x hx => h x (by simp [hx]))
    have hc := h c (by simp)
    rw [beN_snoc, Nat.pow_succ]
    omega
theorem shl8u64 {v c : Int} (h0 : 0 ≤ v) (h1 : v < 72057594037927936) (c0 : 0 ≤ c) (c1 : c < 256) : bitsOf .or .u64 (IntKind.u64.wrap (v * 2 ^ min (Int.toNat 8) IntKind.u64.bits)) c = 256 * v + c := by
  obtain ⟨q, rfl⟩ := Int.eq_ofNat_of_zero_le h0
  obtain ⟨n, rfl⟩ := Int.eq_ofNat_of_zero_le c0
  have e : IntKind.u64.wrap ((q : Int) * 2 ^ min (Int.toNat 8) IntKind.u64.bits) = ((2 ^ 8 * q : Nat) : Int) := by
    have : ((q : Int) * 2 ^ min (Int.toNat 8) IntKind.u64.bits) = ((2 ^ 8 * q : Nat) : Int) := by
      show (q : Int) * 256 = _
      omega
    rw [this]
    exact wrap_u rfl (show 2 ^ 8 * q < 18446744073709551616 by omega)
  rw [e, or_add (k := .u64) rfl 8 q n (by omega) (show 2 ^ 8 * q + n < 18446744073709551616 by omega)]
  omega
theorem seg_at {cs : List Value} {off n i : Nat} {xs : List Int} (h : seg cs off n = some (ipC xs)) (hi : i < n) {q : Nat} (hq : q = off + i) : nth cs q = some (.int .u8 (xs.getD i 0)) := by
  obtain ⟨h1, h2⟩ := seg_spec _ _ _ _ h
  have := h2 i hi
  subst hq
  rw [nth_spec, this]
  have hxn : xs.length = n := by simpa [ipC] using h1
  have hl : i < xs.length := by omega
  simp [ipC, hl]

set_option maxHeartbeats 400000 in
theorem uint_c {b o len cap : Nat} {at_ n : Nat} {cs : List Value} {t : TypeId} {fz : Nat × Nat} (xs : List Int) (W : World) (hb : W.heap[b]? = some (.cells cs.toArray t fz)) (hs : seg cs (o + at_) n = some (ipC xs)) (hx : ∀ x ∈ xs, 0 ≤ x ∧ x < 256) (h1 : 1 ≤ n) (h8 : n ≤ 8) (hl : at_ + n ≤ len) (hc : len ≤ cap) (hm : cap ≤ 9223372036854775807) :
    Cal Tryd.prog 70 [.slice (some ⟨b, o, none⟩) len cap, .int .i64 at_, .int .i64 n].toArray W fun v w' => v = .tuple #[.int .u64 (beN xs), .bool true] ∧ Ext [] W w' := by
  have hxl : xs.length = n := by have := (seg_spec _ _ _ _ hs).1; simpa [ipC] using this
  refine fn_ofM (n := 47) [b] Tryd.func70 rfl rfl rfl ?_
  intro a w F M hwW
  replace M := M.came hwW hb (by simp) (by simp)
  with_reducible refine c_seq ?_
  with_reducible refine c_region ?_
  refine stepD rfl F rfl (o_assign (F.ev rfl) ?_); clear F; clear a; intro a F
  refine stepD rfl F rfl (o_assign (F.ev rfl) ?_); clear F; clear a; intro a F
  with_reducible refine l_nil ?_
  with_reducible refine q_then ?_
  with_reducible refine c_seq ?_
  with_reducible refine c_seq ?_
  with_reducible refine c_region ?_
  refine stepD rfl F rfl (o_move (F.ev rfl) ?_); clear F; clear a; intro a F
  refine stepD rfl F rfl (o_lssF (F.ev rfl) (F.ev rfl) (by omega) ?_); clear F; clear a; intro a F
  refine stepD rfl F rfl (o_move (F.ev rfl) ?_); clear F; clear a; intro a F
  refine stepG rfl F rfl rfl rfl (o_move (F.ev rfl) ?_); clear F; clear a; intro a F
  refine stepG rfl F rfl rfl rfl (o_gtrF (F.ev rfl) (F.ev rfl) (by omega) ?_); clear F; clear a; intro a F
  refine stepD rfl F rfl (o_pickF (F.ev rfl) (F.ev rfl) ?_); clear F; clear a; intro a F
  refine stepD rfl F rfl (o_move (F.ev rfl) ?_); clear F; clear a; intro a F
  refine stepG rfl F rfl rfl rfl (o_move (F.ev rfl) ?_); clear F; clear a; intro a F
  refine stepG rfl F rfl rfl rfl (o_lssF (F.ev rfl) (F.ev rfl) (by omega) ?_); clear F; clear a; intro a F
  refine stepD rfl F rfl (o_pickF (F.ev rfl) (F.ev rfl) ?_); clear F; clear a; intro a F
  refine stepD rfl F rfl (o_move (F.ev rfl) ?_); clear F; clear a; intro a F
  refine stepG rfl F rfl rfl rfl (o_move (F.ev rfl) ?_); clear F; clear a; intro a F
  refine stepG rfl F rfl rfl rfl (o_move (F.ev rfl) ?_); clear F; clear a; intro a F
  refine stepG rfl F rfl rfl rfl (o_lenSl (F.ev rfl) ?_); clear F; clear a; intro a F
  refine stepG rfl F rfl rfl rfl (o_move (F.ev rfl) ?_); clear F; clear a; intro a F
  refine stepG rfl F rfl rfl rfl (o_sub (F.ev rfl) (F.ev rfl) (w_i64 (by omega) (by omega)) ?_); clear F; clear a; intro a F
  refine stepG rfl F rfl rfl rfl (o_gtrF (F.ev rfl) (F.ev rfl) (by omega) ?_); clear F; clear a; intro a F
  refine stepD rfl F rfl (o_pickF (F.ev rfl) (F.ev rfl) ?_); clear F; clear a; intro a F
  with_reducible refine l_nil ?_
  with_reducible refine q_then ?_
  refine c_false F rfl rfl ?_
  with_reducible refine c_skip ?_
  with_reducible refine q_then ?_
  with_reducible refine c_seq ?_
  with_reducible refine c_region ?_
  refine stepD rfl F rfl (o_assign (F.ev rfl) ?_); clear F; clear a; intro a F
  with_reducible refine l_nil ?_
  with_reducible refine q_then ?_
  with_reducible refine c_seq ?_
  with_reducible refine c_seq ?_
  with_reducible refine c_region ?_
  refine stepD rfl F rfl (o_move (F.ev rfl) ?_); clear F; clear a; intro a F
  refine stepD rfl F rfl (o_move (F.ev rfl) ?_); clear F; clear a; intro a F
  refine stepD rfl F rfl (o_move (F.ev rfl) ?_); clear F; clear a; intro a F
  refine stepD rfl F rfl (o_move (F.ev rfl) ?_); clear F; clear a; intro a F
  refine stepD rfl F rfl (o_add (F.ev rfl) (F.ev rfl) (w_i64 (by omega) (by omega)) ?_); clear F; clear a; intro a F
  (refine stepD rfl F rfl (o_slLH (F.ev rfl) (F.ev rfl) (F.ev rfl) (by omega) (by omega) (by omega) (by omega) ?_); clear F; clear a; intro a F)
  refine stepD rfl F rfl (o_lenSl (F.ev rfl) ?_); clear F; clear a; intro a F
  refine stepD rfl F rfl (o_move (F.ev rfl) ?_); clear F; clear a; intro a F
  with_reducible refine l_nil ?_
  with_reducible refine q_then ?_
  with_reducible refine c_block ?_
  refine c_loop (fun k a w => ∃ i : Nat, k = n - i ∧ i ≤ n ∧ Frm a 47 [] [(36, .int .i64 i), (35, .int .i64 n), (34, .slice (some ⟨b, o + at_, none⟩) n (cap - at_)), (8, .int .u64 (beN (xs.take i)))] ∧ Mem [b] W w [(b, .cells cs.toArray t fz)]) n ⟨0, rfl, by omega, ?_, M⟩ ?_
  · have e1 : (((at_ : Int) + (n : Int)).toNat - (at_ : Int).toNat) = n := by omega
    have e2 : o + (at_ : Int).toNat * 1 = o + at_ := by omega
    have e3 : cap - (at_ : Int).toNat = cap - at_ := by omega
    rw [e1, e2, e3] at F
    exact F.only [36, 35, 34, 8] rfl
  clear F M
  rintro k a w ⟨i, hk, hi, F, M⟩
  by_cases hlt : i < n
  · have e1 := seg_at hs hlt (q := o + at_ + (i : Int).toNat * 1) (by omega)
    have hg := hx (xs.getD i 0) (by rw [List.getD_eq_getElem?_getD, List.getElem?_eq_getElem (by omega)]; exact List.getElem_mem _)
    have hv := beN_bd i (xs.take i) (by rw [List.length_take]; omega) (fun x h => hx x (List.mem_of_mem_take h))
    have hp : 256 ^ i ≤ 72057594037927936 := Nat.le_trans (Nat.pow_le_pow_right (by omega) (show i ≤ 7 by omega)) (by decide)
    with_reducible refine c_seq ?_
    with_reducible refine c_region ?_
    refine stepD rfl F rfl (o_lssT (F.ev rfl) (F.ev rfl) (by omega) ?_); clear F; clear a; intro a F
    with_reducible refine l_nil ?_
    with_reducible refine q_then ?_
    with_reducible refine c_seq ?_
    refine c_true F rfl rfl ?_
    with_reducible refine c_skip ?_
    with_reducible refine q_then ?_
    with_reducible refine c_seq ?_
    with_reducible refine c_block ?_
    with_reducible refine c_seq ?_
    with_reducible refine c_region ?_
    refine stepD rfl F rfl (o_indexSl (F.ev rfl) (F.ev rfl) (by omega) (by omega) ?_); clear F; clear a; intro a F
    refine stepD rfl F rfl (o_load1 M (F.ev rfl) (by repeat (first | exact .here | apply Has.there)) (by first | assumption | rfl) ?_); clear F; clear a; intro a F
    refine stepD rfl F rfl (o_assign (F.ev rfl) ?_); clear F; clear a; intro a F
    with_reducible refine l_nil ?_
    with_reducible refine q_then ?_
    with_reducible refine c_region ?_
    refine stepD rfl F rfl (o_move (F.ev rfl) ?_); clear F; clear a; intro a F
    refine stepD rfl F rfl (o_shl (F.ev rfl) (F.ev rfl) (by omega) rfl ?_); clear F; clear a; intro a F
    refine stepD rfl F rfl (o_move (F.ev rfl) ?_); clear F; clear a; intro a F
    refine stepD rfl F rfl (o_conv (F.ev rfl) (w_u64 (by omega) (by omega)) ?_); clear F; clear a; intro a F
    refine stepD rfl F rfl (o_or (F.ev rfl) (F.ev rfl) rfl ?_); clear F; clear a; intro a F
    refine stepD rfl F rfl (o_assign (F.ev rfl) ?_); clear F; clear a; intro a F
    with_reducible refine l_nil ?_
    with_reducible refine q_inB ?_
    with_reducible refine q_then ?_
    with_reducible refine c_region ?_
    refine stepD rfl F rfl (o_add (F.ev rfl) (F.ev rfl) (w_i64 (by omega) (by omega)) ?_); clear F; clear a; intro a F
    refine stepD rfl F rfl (o_move (F.ev rfl) ?_); clear F; clear a; intro a F
    with_reducible refine l_nil ?_
    with_reducible refine q_then ?_
    rw [shl8u64 hv.1 (by omega) hg.1 hg.2] at F
    skip
    have hsn : xs.take (i + 1) = xs.take i ++ [xs.getD i 0] := by
      rw [List.take_succ_eq_append_getElem (by omega), List.getD_eq_getElem?_getD, List.getElem?_eq_getElem (by omega)]; rfl
    refine ⟨_, by omega, i + 1, rfl, by omega, ?_, M⟩
    rw [hsn, beN_snoc]
    exact F.only [36, 35, 34, 8] rfl
  · obtain rfl : i = n := by omega
    rw [List.take_of_length_le (by omega)] at F
    with_reducible refine c_seq ?_
    with_reducible refine c_region ?_
    refine stepD rfl F rfl (o_lssF (F.ev rfl) (F.ev rfl) (by omega) ?_); clear F; clear a; intro a F
    with_reducible refine l_nil ?_
    with_reducible refine q_then ?_
    with_reducible refine c_seq ?_
    refine c_false F rfl rfl ?_
    with_reducible refine c_exit ?_
    with_reducible refine q_thenX ?_
    with_reducible refine q_thenX ?_
    with_reducible refine q_inBX ?_
    with_reducible refine q_then ?_
    with_reducible refine c_seq ?_
    with_reducible refine c_region ?_
    refine stepD rfl F rfl (o_move (F.ev rfl) ?_); clear F; clear a; intro a F
    refine stepD rfl F rfl (o_assign (F.ev rfl) ?_); clear F; clear a; intro a F
    refine stepD rfl F rfl (o_assign (F.ev rfl) ?_); clear F; clear a; intro a F
    with_reducible refine l_nil ?_
    with_reducible refine q_then ?_
    with_reducible refine c_ret ?_
    refine p_ret F rfl (.cons (.tmp (F.ev rfl)) (.cons (.tmp (F.ev rfl)) .nil)) ?_
    exact ⟨rfl, M.back1 .here hb⟩

/-- the two halves -/
theorem split_c (p : List Int) (hp : IsIP p) (W : World) : Cal Tryd.prog 26 [.agg (ipC p).toArray].toArray W fun v w' => v = .tuple #[.int .u64 (beN (p.take 8)), .int .u64 (beN (p.drop 8))] ∧ Ext [] W w' := by
  have hb : ∀ x ∈ p, 0 ≤ x ∧ x < 256 := hp.bd
  have s1 : seg (ipC p) (0 + 0) 8 = some (ipC (p.take 8)) := by
    have := seg_of [] (ipC (p.take 8)) (ipC (p.drop 8))
    have hl : (ipC (p.take 8)).length = 8 := by simp [ipC, hp.len]
    rw [hl] at this
    simpa [ipC, ← List.map_append] using this
  have s2 : seg (ipC p) (0 + 8) 8 = some (ipC (p.drop 8)) := by
    have := seg_of (ipC (p.take 8)) (ipC (p.drop 8)) []
    have hl : (ipC (p.take 8)).length = 8 := by simp [ipC, hp.len]
    have hl2 : (ipC (p.drop 8)).length = 8 := by simp [ipC, hp.len]
    rw [hl, hl2] at this
    simpa [ipC, ← List.map_append] using this
  refine fn_ofM (n := 20) [] Tryd.func26 rfl rfl rfl ?_
  intro a w F M hwW
  refine c_seq ?_
  refine c_region ?_
  (refine stepD rfl F rfl (o_box M (F.ev rfl) rfl ?_); clear F; clear M; intro b1 w M a F)
  refine stepD rfl F rfl (o_assign (F.ev rfl) ?_); clear F; clear a; intro a F
  refine stepD rfl F rfl (o_assign (F.ev rfl) ?_); clear F; clear a; intro a F
  with_reducible refine l_nil ?_
  with_reducible refine q_then ?_
  with_reducible refine c_seq ?_
  with_reducible refine c_region ?_
  (refine stepD rfl F rfl (o_arrAll (F.ev rfl) ?_); clear F; clear a; intro a F)
  (refine stepD rfl F rfl (o_call (F.ev rfl) (F.evs rfl) (Cal.mono (uint_c (b := b1) (at_ := 0) (n := 8) (p.take 8) _ (M.heap .here) s1 (fun x h => hb x (List.mem_of_mem_take h)) (by omega) (by omega) (by omega) (by omega) (by omega)) ?_)); clear F; clear a; rintro _ w ⟨rfl, hE⟩ a F; replace M := M.later hE; clear hE)
  refine stepD rfl F rfl (o_move (F.ev rfl) ?_); clear F; clear a; intro a F
  refine stepD rfl F rfl (o_extract (F.ev rfl) rfl ?_); clear F; clear a; intro a F
  refine stepD rfl F rfl (o_extract (F.ev rfl) rfl ?_); clear F; clear a; intro a F
  refine stepD rfl F rfl (o_assign (F.ev rfl) ?_); clear F; clear a; intro a F
  refine stepD rfl F rfl (o_assign (F.ev rfl) ?_); clear F; clear a; intro a F
  with_reducible refine l_nil ?_
  with_reducible refine q_then ?_
  with_reducible refine c_seq ?_
  with_reducible refine c_region ?_
  (refine stepD rfl F rfl (o_arrAll (F.ev rfl) ?_); clear F; clear a; intro a F)
  (refine stepD rfl F rfl (o_call (F.ev rfl) (F.evs rfl) (Cal.mono (uint_c (b := b1) (at_ := 8) (n := 8) (p.drop 8) _ (M.heap .here) s2 (fun x h => hb x (List.mem_of_mem_drop h)) (by omega) (by omega) (by omega) (by omega) (by omega)) ?_)); clear F; clear a; rintro _ w ⟨rfl, hE⟩ a F; replace M := M.later hE; clear hE)
  refine stepD rfl F rfl (o_move (F.ev rfl) ?_); clear F; clear a; intro a F
  refine stepD rfl F rfl (o_extract (F.ev rfl) rfl ?_); clear F; clear a; intro a F
  refine stepD rfl F rfl (o_extract (F.ev rfl) rfl ?_); clear F; clear a; intro a F
  refine stepD rfl F rfl (o_assign (F.ev rfl) ?_); clear F; clear a; intro a F
  refine stepD rfl F rfl (o_assign (F.ev rfl) ?_); clear F; clear a; intro a F
  with_reducible refine l_nil ?_
  with_reducible refine q_then ?_
  with_reducible refine c_seq ?_
  with_reducible refine c_region ?_
  refine stepD rfl F rfl (o_move (F.ev rfl) ?_); clear F; clear a; intro a F
  refine stepD rfl F rfl (o_move (F.ev rfl) ?_); clear F; clear a; intro a F
  refine stepD rfl F rfl (o_assign (F.ev rfl) ?_); clear F; clear a; intro a F
  refine stepD rfl F rfl (o_assign (F.ev rfl) ?_); clear F; clear a; intro a F
  with_reducible refine l_nil ?_
  with_reducible refine q_then ?_
  with_reducible refine c_ret ?_
  refine p_ret F rfl (.cons (.tmp (F.ev rfl)) (.cons (.tmp (F.ev rfl)) .nil)) ?_
  exact ⟨rfl, M.ext⟩
end Go.Proofs.YtadnpidadcgdcaaDoor

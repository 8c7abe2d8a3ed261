/-
  strconv.AppendUint at base 16.
-/
import Derived.Test.YtadnpidadcgdcaaDoorP6
namespace Go.Proofs.YtadnpidadcgdcaaDoor
set_option linter.unusedVariables false
set_option linter.unusedSimpArgs false
open Go.RowKit
attribute [local irreducible] OpTo wpListIn Code.wpIn MW Cal

/-- what the table of math/bits holds for 16 -/
def GT (W : World) : Prop := W.cell? ⟨5, 15, none⟩ = some (.int .u8 4)
theorem cell_later {W w : World} {a : Addr} {v : Value} (h : W.cell? a = some v) (e : Ext [] W w) : w.cell? a = some v := by
  have hlt := block_lt_of_cell h
  rw [World.cell?_of_block (w := W) (e.block a.block hlt (by simp))]; exact h
theorem cell_laterS {S : List Nat} {W w : World} {a : Addr} {v : Value} (h : W.cell? a = some v) (e : Ext S W w) (hS : a.block ∉ S) : w.cell? a = some v := by
  have hlt := block_lt_of_cell h
  rw [World.cell?_of_block (w := W) (e.block a.block hlt hS)]; exact h
theorem GT.laterS {S : List Nat} {W w : World} (h : GT W) (e : Ext S W w) (hS : 5 ∉ S) : GT w := cell_laterS h e hS
theorem GT.later {W w : World} (h : GT W) (e : Ext [] W w) : GT w := cell_later h e

set_option maxHeartbeats 400000 in
theorem pow2_c (W : World) : Cal Tryd.prog 109 [.int .i64 16].toArray W fun v w' => v = .bool true ∧ Ext [] W w' := by
  refine fn_ofM (n := 8) [] Tryd.func109 rfl rfl rfl ?_
  intro a w F M hwW
  with_reducible refine c_seq ?_
  with_reducible refine c_region ?_
  refine stepD rfl F rfl (o_assign (F.ev rfl) ?_); clear F; clear a; intro a F
  with_reducible refine l_nil ?_
  with_reducible refine q_then ?_
  with_reducible refine c_seq ?_
  with_reducible refine c_region ?_
  refine stepD rfl F rfl (o_move (F.ev rfl) ?_); clear F; clear a; intro a F
  refine stepD rfl F rfl (o_move (F.ev rfl) ?_); clear F; clear a; intro a F
  refine stepD rfl F rfl (o_sub (F.ev rfl) (F.ev rfl) (w_i64 (by omega) (by omega)) ?_); clear F; clear a; intro a F
  refine stepD rfl F rfl (o_and (F.ev rfl) (F.ev rfl) rfl ?_); clear F; clear a; intro a F
  refine stepD rfl F rfl (o_eql (F.ev rfl) (F.ev rfl) ?_); clear F; clear a; intro a F
  refine stepD rfl F rfl (o_assign (F.ev rfl) ?_); clear F; clear a; intro a F
  with_reducible refine l_nil ?_
  with_reducible refine q_then ?_
  with_reducible refine c_ret ?_
  refine p_ret F rfl (.cons (.tmp (F.ev rfl)) .nil) ?_
  exact ⟨rfl, M.ext⟩
set_option maxHeartbeats 400000 in
theorem tz64_c (W : World) (hG : GT W) : Cal Tryd.prog 115 [.int .u64 16].toArray W fun v w' => v = .int .i64 4 ∧ Ext [] W w' := by
  refine fn_ofM (n := 14) [] Tryd.func115 rfl rfl rfl ?_
  intro a w F M hwW
  with_reducible refine c_seq ?_
  with_reducible refine c_region ?_
  refine stepD rfl F rfl (o_assign (F.ev rfl) ?_); clear F; clear a; intro a F
  with_reducible refine l_nil ?_
  with_reducible refine q_then ?_
  with_reducible refine c_seq ?_
  with_reducible refine c_seq ?_
  with_reducible refine c_region ?_
  refine stepD rfl F rfl (o_move (F.ev rfl) ?_); clear F; clear a; intro a F
  refine stepD rfl F rfl (o_eqlF (F.ev rfl) (F.ev rfl) (by omega) ?_); clear F; clear a; intro a F
  with_reducible refine l_nil ?_
  with_reducible refine q_then ?_
  refine c_false F rfl rfl ?_
  with_reducible refine c_skip ?_
  with_reducible refine q_then ?_
  with_reducible refine c_seq ?_
  with_reducible refine c_region ?_
  refine stepD rfl F rfl (o_move (F.ev rfl) ?_); clear F; clear a; intro a F
  refine stepD rfl F rfl (o_move (F.ev rfl) ?_); clear F; clear a; intro a F
  (refine stepD rfl F rfl (o_neg (s := 18446744073709551600) (F.ev rfl) (by decide) ?_); clear F; clear a; intro a F)
  (refine stepD rfl F rfl (o_and (s := 16) (F.ev rfl) (F.ev rfl) (by decide) ?_); clear F; clear a; intro a F)
  (refine stepD rfl F rfl (o_mul (s := 4573923408821661840) (F.ev rfl) (F.ev rfl) (by decide) ?_); clear F; clear a; intro a F)
  (refine stepD rfl F rfl (o_shr (s := 15) (F.ev rfl) (F.ev rfl) (by omega) (by decide) ?_); clear F; clear a; intro a F)
  (refine stepD rfl F rfl (o_indexArr (F.ev rfl) (F.ev rfl) (by omega) (by omega) ?_); clear F; clear a; intro a F)
  (refine stepD rfl F rfl (o_load (v := .int .u8 4) (F.ev rfl) (run_loadVar_one TOne.h (hG.later M.ext)) ?_); clear F; clear a; intro a F)
  refine stepD rfl F rfl (o_conv (F.ev rfl) (w_i64 (by omega) (by omega)) ?_); clear F; clear a; intro a F
  refine stepD rfl F rfl (o_assign (F.ev rfl) ?_); clear F; clear a; intro a F
  with_reducible refine l_nil ?_
  with_reducible refine q_then ?_
  with_reducible refine c_ret ?_
  refine p_ret F rfl (.cons (.tmp (F.ev rfl)) .nil) ?_
  exact ⟨rfl, M.ext⟩
set_option maxHeartbeats 400000 in
theorem tz_c (W : World) (hG : GT W) : Cal Tryd.prog 110 [.int .u64 16].toArray W fun v w' => v = .int .i64 4 ∧ Ext [] W w' := by
  refine fn_ofM (n := 8) [] Tryd.func110 rfl rfl rfl ?_
  intro a w F M hwW
  with_reducible refine c_seq ?_
  with_reducible refine c_region ?_
  refine stepD rfl F rfl (o_assign (F.ev rfl) ?_); clear F; clear a; intro a F
  with_reducible refine l_nil ?_
  with_reducible refine q_then ?_
  with_reducible refine c_seq ?_
  refine c_false F rfl rfl ?_
  with_reducible refine c_skip ?_
  with_reducible refine q_then ?_
  with_reducible refine c_seq ?_
  with_reducible refine c_region ?_
  refine stepD rfl F rfl (o_move (F.ev rfl) ?_); clear F; clear a; intro a F
  (refine stepD rfl F rfl (o_call (F.ev rfl) (F.evs rfl) (Cal.mono (tz64_c _ (hG.later M.ext)) ?_)); clear F; clear a; rintro _ w ⟨rfl, hE⟩ a F; replace M := M.later hE; clear hE)
  refine stepD rfl F rfl (o_assign (F.ev rfl) ?_); clear F; clear a; intro a F
  with_reducible refine l_nil ?_
  with_reducible refine q_then ?_
  with_reducible refine c_ret ?_
  refine p_ret F rfl (.cons (.tmp (F.ev rfl)) .nil) ?_
  exact ⟨rfl, M.ext⟩

def hexD (d : Int) : Int := if d < 10 then 48 + d else 87 + d
/-- the digits of a number below 65536 -/
def hexI (g : Int) : List Int :=
  if g < 16 then [hexD g] else if g < 256 then [hexD (g / 16), hexD (g % 16)] else if g < 4096 then [hexD (g / 256), hexD (g / 16 % 16), hexD (g % 16)] else [hexD (g / 4096), hexD (g / 256 % 16), hexD (g / 16 % 16), hexD (g % 16)]
theorem hexI_small {u : Int} (h : u < 16) : hexI u = [hexD u] := by simp [hexI, h]
theorem hexI_step {u : Int} (h : 16 ≤ u) (h2 : u < 65536) : hexI u = hexI (u / 16) ++ [hexD (u % 16)] := by
  unfold hexI
  have e1 : u / 16 / 16 = u / 256 := by omega
  have e2 : u / 16 / 256 = u / 4096 := by omega
  rw [if_neg (by omega)]
  by_cases h3 : u < 256
  · rw [if_pos h3, if_pos (by omega)]; rfl
  · rw [if_neg h3]
    by_cases h4 : u < 4096
    · rw [if_pos h4, if_neg (by omega), if_pos (by omega), e1]; rfl
    · rw [if_neg h4, if_neg (by omega), if_neg (by omega), if_pos (by omega), e1, e2]; rfl
theorem hexI_len (u : Int) : 1 ≤ (hexI u).length ∧ (hexI u).length ≤ 4 := by
  unfold hexI; split <;> (try split) <;> (try split) <;> simp
def digs : List UInt8 := [48, 49, 50, 51, 52, 53, 54, 55, 56, 57, 97, 98, 99, 100, 101, 102, 103, 104, 105, 106, 107, 108, 109, 110, 111, 112, 113, 114, 115, 116, 117, 118, 119, 120, 121, 122]
theorem digs_at (q : Nat) (h : q < 16) (h' : q < digs.length) : ((digs[q]).toNat : Int) = hexD q := by
  have hall : ∀ q : Fin 16, ((digs.getD q.1 0).toNat : Int) = hexD q.1 := by decide
  have := hall ⟨q, h⟩
  rw [List.getD_eq_getElem?_getD, List.getElem?_eq_getElem h'] at this
  exact this
theorem and15 {u : Int} (h : 0 ≤ u) (h2 : u < 65536) : bitsOf .and .u64 u 15 = ((u % 16).toNat : Nat) := by
  obtain ⟨n, rfl⟩ := Int.eq_ofNat_of_zero_le h
  have e := bits_and (k := .u64) rfl (m := n) (n := 15) (show n < 18446744073709551616 by omega) (show 15 < 18446744073709551616 by omega)
  rw [show ((15 : Nat) : Int) = 15 from rfl] at e
  rw [e]
  have : n &&& 15 = n % 16 := Nat.and_two_pow_sub_one_eq_mod n 4
  rw [this]; omega
theorem rep_set {z x : Value} (n : Nat) (D : List Value) : (List.replicate (n + 1) z ++ D).set n x = List.replicate n z ++ x :: D := by
  rw [List.replicate_succ', List.append_assoc, List.set_append_right _ _ (by simp)]
  simp
/-- the buffer: i cells that are 0, then the digits -/
def bufC (D : List Int) : List Value := List.replicate (65 - D.length) (.int .u8 0) ++ D.map (Value.int .u8)
theorem put_buf {D : List Int} {x : Int} {off : Nat} (h : D.length < 65) (ho : off = 64 - D.length) : put (bufC D) off [.int .u8 x] = some (bufC (x :: D)) := by
  subst ho
  rw [put1 (q := 64 - D.length) _ rfl (by simp [bufC]; omega)]
  unfold bufC
  rw [show 65 - D.length = (64 - D.length) + 1 by omega, rep_set]
  simp
theorem seg_buf {D : List Int} (h : D.length ≤ 65) : seg (bufC D) (65 - D.length) D.length = some (D.map (Value.int .u8)) := by
  have := seg_of (List.replicate (65 - D.length) (Value.int .u8 0)) (D.map (Value.int .u8)) []
  simpa [bufC] using this

set_option maxRecDepth 10000 in
set_option maxHeartbeats 2000000 in
theorem formatBits_c {S : List Nat} {W0 W : World} {l ent : List (Nat × Obj)} {f : List (Nat × Obj) → List (Nat × Obj)} {v : Value} {n : Nat} {bs : List Int} {g : Int} (hO : OwnS 5 1 v n (bs.map (Value.int .u8)) ent) (M : Mem S W0 W l) (hl : TailAt ent l f) (h0 : 0 ≤ g) (h1 : g < 65536) (hn : n ≤ 1000) (hG : GT W0) (hS : 5 ∉ S) :
    Cal Tryd.prog 97 [v, .int .u64 g, .int .i64 16, .bool false, .bool true].toArray W fun v' w' => ∃ sv ent', v' = .tuple #[sv, mkS []] ∧ OwnS 5 1 sv (n + (hexI g).length) ((bs ++ hexI g).map (Value.int .u8)) ent' ∧ Mem S W0 w' (f ent') := by
  refine fn_of (n := 102) Tryd.func97 rfl rfl rfl ?_
  intro a F
  with_reducible refine c_seq ?_
  with_reducible refine c_region ?_
  refine stepD rfl F rfl (o_assign (F.ev rfl) ?_); clear F; clear a; intro a F
  refine stepD rfl F rfl (o_assign (F.ev rfl) ?_); clear F; clear a; intro a F
  with_reducible refine l_nil ?_
  with_reducible refine q_then ?_
  with_reducible refine c_seq ?_
  with_reducible refine c_seq ?_
  with_reducible refine c_region ?_
  refine stepD rfl F rfl (o_move (F.ev rfl) ?_); clear F; clear a; intro a F
  refine stepD rfl F rfl (o_lssF (F.ev rfl) (F.ev rfl) (by omega) ?_); clear F; clear a; intro a F
  refine stepD rfl F rfl (o_move (F.ev rfl) ?_); clear F; clear a; intro a F
  refine stepG rfl F rfl rfl rfl (o_move (F.ev rfl) ?_); clear F; clear a; intro a F
  refine stepG rfl F rfl rfl rfl (o_eqlF (F.ev rfl) (F.ev rfl) (by omega) ?_); clear F; clear a; intro a F
  refine stepD rfl F rfl (o_pickF (F.ev rfl) (F.ev rfl) ?_); clear F; clear a; intro a F
  refine stepD rfl F rfl (o_move (F.ev rfl) ?_); clear F; clear a; intro a F
  refine stepG rfl F rfl rfl rfl (o_move (F.ev rfl) ?_); clear F; clear a; intro a F
  refine stepG rfl F rfl rfl rfl (o_gtrF (F.ev rfl) (F.ev rfl) (by omega) ?_); clear F; clear a; intro a F
  refine stepD rfl F rfl (o_pickF (F.ev rfl) (F.ev rfl) ?_); clear F; clear a; intro a F
  with_reducible refine l_nil ?_
  with_reducible refine q_then ?_
  refine c_false F rfl rfl ?_
  with_reducible refine c_skip ?_
  with_reducible refine q_then ?_
  with_reducible refine c_seq ?_
  with_reducible refine c_region ?_
  (refine stepD rfl F rfl (o_alloc M ?_); clear F; clear M; intro b12 w M a F)
  with_reducible refine l_nil ?_
  with_reducible refine q_then ?_
  with_reducible refine c_seq ?_
  with_reducible refine c_region ?_
  refine stepD rfl F rfl (o_assign (F.ev rfl) ?_); clear F; clear a; intro a F
  with_reducible refine l_nil ?_
  with_reducible refine q_then ?_
  with_reducible refine c_seq ?_
  with_reducible refine c_seq ?_
  with_reducible refine c_region ?_
  refine stepD rfl F rfl (o_move (F.ev rfl) ?_); clear F; clear a; intro a F
  with_reducible refine l_nil ?_
  with_reducible refine q_then ?_
  refine c_false F rfl rfl ?_
  with_reducible refine c_skip ?_
  with_reducible refine q_then ?_
  with_reducible refine c_seq ?_
  with_reducible refine c_seq ?_
  with_reducible refine c_region ?_
  refine stepD rfl F rfl (o_move (F.ev rfl) ?_); clear F; clear a; intro a F
  (refine stepD rfl F rfl (o_call (F.ev rfl) (F.evs rfl) (Cal.mono (pow2_c _) ?_)); clear F; clear a; rintro _ w ⟨rfl, hE⟩ a F; replace M := M.later hE; clear hE)
  with_reducible refine l_nil ?_
  with_reducible refine q_then ?_
  refine c_true F rfl rfl ?_
  with_reducible refine c_seq ?_
  with_reducible refine c_region ?_
  refine stepD rfl F rfl (o_move (F.ev rfl) ?_); clear F; clear a; intro a F
  refine stepD rfl F rfl (o_conv (F.ev rfl) (w_u64 (by omega) (by omega)) ?_); clear F; clear a; intro a F
  (refine stepD rfl F rfl (o_call (F.ev rfl) (F.evs rfl) (Cal.mono (tz_c _ (hG.laterS M.ext hS)) ?_)); clear F; clear a; rintro _ w ⟨rfl, hE⟩ a F; replace M := M.later hE; clear hE)
  refine stepD rfl F rfl (o_conv (F.ev rfl) (w_u64 (by omega) (by omega)) ?_); clear F; clear a; intro a F
  refine stepD rfl F rfl (o_assign (F.ev rfl) ?_); clear F; clear a; intro a F
  with_reducible refine l_nil ?_
  with_reducible refine q_then ?_
  with_reducible refine c_seq ?_
  with_reducible refine c_region ?_
  refine stepD rfl F rfl (o_move (F.ev rfl) ?_); clear F; clear a; intro a F
  refine stepD rfl F rfl (o_conv (F.ev rfl) (w_u64 (by omega) (by omega)) ?_); clear F; clear a; intro a F
  refine stepD rfl F rfl (o_assign (F.ev rfl) ?_); clear F; clear a; intro a F
  with_reducible refine l_nil ?_
  with_reducible refine q_then ?_
  with_reducible refine c_seq ?_
  with_reducible refine c_region ?_
  refine stepD rfl F rfl (o_move (F.ev rfl) ?_); clear F; clear a; intro a F
  refine stepD rfl F rfl (o_conv (F.ev rfl) (w_u64 (by omega) (by omega)) ?_); clear F; clear a; intro a F
  refine stepD rfl F rfl (o_sub (F.ev rfl) (F.ev rfl) (w_u64 (by omega) (by omega)) ?_); clear F; clear a; intro a F
  refine stepD rfl F rfl (o_assign (F.ev rfl) ?_); clear F; clear a; intro a F
  with_reducible refine l_nil ?_
  with_reducible refine q_then ?_
  with_reducible refine c_seq ?_
  with_reducible refine c_block ?_
  replace M : Mem S W0 w ((b12, .cells (bufC []).toArray 132 (0, 0)) :: l) := M
  refine c_loop (fun k a w => ∃ (u : Int) (D : List Int), k = u.toNat ∧ 0 ≤ u ∧ u < 65536 ∧ hexI g = hexI u ++ D ∧ Frm a 102 [] [(1, .int .u64 u), (13, .int .i64 (65 - (D.length : Int))), (12, .pointer (some ⟨b12, 0, none⟩)), (14, .int .u64 4), (15, .int .u64 16), (16, .int .u64 15), (0, v), (3, .bool false), (4, .bool true), (11, mkS [])] ∧ Mem S W0 w ((b12, .cells (bufC D).toArray 132 (0, 0)) :: l)) g.toNat ⟨g, [], rfl, h0, h1, by simp, F.only [1, 13, 12, 14, 15, 16, 0, 3, 4, 11] rfl, M⟩ ?_
  clear F M
  rintro k a w ⟨u, D, hk, hu0, hu1, hD, F, M⟩
  have hlen := congrArg List.length hD
  have hb1 := hexI_len g
  have hb2 := hexI_len u
  rw [List.length_append] at hlen
  by_cases hge : 16 ≤ u
  · with_reducible refine c_seq ?_
    with_reducible refine c_seq ?_
    with_reducible refine c_region ?_
    refine stepD rfl F rfl (o_move (F.ev rfl) ?_); clear F; clear a; intro a F
    refine stepD rfl F rfl (o_move (F.ev rfl) ?_); clear F; clear a; intro a F
    refine stepD rfl F rfl (o_geqT (F.ev rfl) (F.ev rfl) (by omega) ?_); clear F; clear a; intro a F
    with_reducible refine l_nil ?_
    with_reducible refine q_then ?_
    refine c_true F rfl rfl ?_
    with_reducible refine c_skip ?_
    with_reducible refine q_then ?_
    with_reducible refine c_block ?_
    with_reducible refine c_seq ?_
    with_reducible refine c_region ?_
    refine stepD rfl F rfl (o_move (F.ev rfl) ?_); clear F; clear a; intro a F
    refine stepD rfl F rfl (o_sub (F.ev rfl) (F.ev rfl) (w_i64 (by omega) (by omega)) ?_); clear F; clear a; intro a F
    refine stepD rfl F rfl (o_assign (F.ev rfl) ?_); clear F; clear a; intro a F
    with_reducible refine l_nil ?_
    with_reducible refine q_then ?_
    with_reducible refine c_seq ?_
    with_reducible refine c_region ?_
    refine stepD rfl F rfl (o_move (F.ev rfl) ?_); clear F; clear a; intro a F
    refine stepD rfl F rfl (o_move (F.ev rfl) ?_); clear F; clear a; intro a F
    refine stepD rfl F rfl (o_move (F.ev rfl) ?_); clear F; clear a; intro a F
    refine stepD rfl F rfl (o_and (F.ev rfl) (F.ev rfl) rfl ?_); clear F; clear a; intro a F
    rw [and15 hu0 hu1] at F
    (refine stepD rfl F rfl (s_idx (bs := digs) (q := (u % 16).toNat) (F.ev rfl) (F.ev rfl) rfl (by show _ < 36; omega) ?_); clear F; clear a; intro a F)
    rw [digs_at _ (by omega), show (((u % 16).toNat : Nat) : Int) = u % 16 by omega] at F
    refine stepD rfl F rfl (o_indexArr (F.ev rfl) (F.ev rfl) (by omega) (by omega) ?_); clear F; clear a; intro a F
    (refine stepN rfl F (o_store1 M (F.ev rfl) (F.ev rfl) rfl (by repeat (first | exact .here | apply Has.there)) (put_buf (D := D) (by omega) (by omega)) (by repeat (first | exact .here | apply Upd.there)) ?_); clear F; clear M; intro w M a F)
    with_reducible refine l_nil ?_
    with_reducible refine q_then ?_
    with_reducible refine c_region ?_
    refine stepD rfl F rfl (o_move (F.ev rfl) ?_); clear F; clear a; intro a F
    refine stepD rfl F rfl (o_move (F.ev rfl) ?_); clear F; clear a; intro a F
    refine stepD rfl F rfl (o_shr (F.ev rfl) (F.ev rfl) (by omega) rfl ?_); clear F; clear a; intro a F
    refine stepD rfl F rfl (o_assign (F.ev rfl) ?_); clear F; clear a; intro a F
    with_reducible refine l_nil ?_
    with_reducible refine q_inB ?_
    with_reducible refine q_then ?_
    rw [show u.fdiv (2 ^ min (Int.toNat 4) IntKind.u64.bits) = u / 16 from Int.fdiv_eq_ediv_of_nonneg _ (by decide), show (65 - (D.length : Int) - 1) = 65 - ((hexD (u % 16) :: D).length : Int) by simp; omega] at F
    exact ⟨_, by omega, u / 16, _, rfl, by omega, by omega, by rw [hD, hexI_step hge hu1]; simp, F.only [1, 13, 12, 14, 15, 16, 0, 3, 4, 11] rfl, M⟩
  · with_reducible refine c_seq ?_
    with_reducible refine c_seq ?_
    with_reducible refine c_region ?_
    refine stepD rfl F rfl (o_move (F.ev rfl) ?_); clear F; clear a; intro a F
    refine stepD rfl F rfl (o_move (F.ev rfl) ?_); clear F; clear a; intro a F
    refine stepD rfl F rfl (o_geqF (F.ev rfl) (F.ev rfl) (by omega) ?_); clear F; clear a; intro a F
    with_reducible refine l_nil ?_
    with_reducible refine q_then ?_
    refine c_false F rfl rfl ?_
    with_reducible refine c_exit ?_
    with_reducible refine q_thenX ?_
    with_reducible refine q_thenX ?_
    with_reducible refine q_inBX ?_
    with_reducible refine q_then ?_
    with_reducible refine c_seq ?_
    with_reducible refine c_region ?_
    refine stepD rfl F rfl (o_move (F.ev rfl) ?_); clear F; clear a; intro a F
    refine stepD rfl F rfl (o_sub (F.ev rfl) (F.ev rfl) (w_i64 (by omega) (by omega)) ?_); clear F; clear a; intro a F
    refine stepD rfl F rfl (o_assign (F.ev rfl) ?_); clear F; clear a; intro a F
    with_reducible refine l_nil ?_
    with_reducible refine q_then ?_
    with_reducible refine c_region ?_
    refine stepD rfl F rfl (o_move (F.ev rfl) ?_); clear F; clear a; intro a F
    refine stepD rfl F rfl (o_move (F.ev rfl) ?_); clear F; clear a; intro a F
    (refine stepD rfl F rfl (s_idx (bs := digs) (q := u.toNat) (F.ev rfl) (F.ev rfl) (by omega) (by show _ < 36; omega) ?_); clear F; clear a; intro a F)
    rw [digs_at _ (by omega), show ((u.toNat : Nat) : Int) = u by omega] at F
    refine stepD rfl F rfl (o_indexArr (F.ev rfl) (F.ev rfl) (by omega) (by omega) ?_); clear F; clear a; intro a F
    (refine stepN rfl F (o_store1 M (F.ev rfl) (F.ev rfl) rfl (by repeat (first | exact .here | apply Has.there)) (put_buf (D := D) (by omega) (by omega)) (by repeat (first | exact .here | apply Upd.there)) ?_); clear F; clear M; intro w M a F)
    rw [hexI_small (u := u) (by omega)] at hD
    with_reducible refine l_nil ?_
    with_reducible refine q_then ?_
    with_reducible refine c_seq ?_
    with_reducible refine c_seq ?_
    with_reducible refine c_region ?_
    refine stepD rfl F rfl (o_move (F.ev rfl) ?_); clear F; clear a; intro a F
    with_reducible refine l_nil ?_
    with_reducible refine q_then ?_
    refine c_false F rfl rfl ?_
    with_reducible refine c_skip ?_
    with_reducible refine q_then ?_
    with_reducible refine c_seq ?_
    with_reducible refine c_seq ?_
    with_reducible refine c_region ?_
    refine stepD rfl F rfl (o_move (F.ev rfl) ?_); clear F; clear a; intro a F
    with_reducible refine l_nil ?_
    with_reducible refine q_then ?_
    refine c_true F rfl rfl ?_
    with_reducible refine c_seq ?_
    with_reducible refine c_region ?_
    refine stepD rfl F rfl (o_move (F.ev rfl) ?_); clear F; clear a; intro a F
    refine stepD rfl F rfl (o_move (F.ev rfl) ?_); clear F; clear a; intro a F
    (refine stepD rfl F rfl (o_arrL (F.ev rfl) (F.ev rfl) (by omega) (by omega) ?_); clear F; clear a; intro a F)
    have e1 : 0 + (65 - (D.length : Int) - 1).toNat * 1 = 65 - (hexD u :: D).length := by simp; omega
    have e2 : 65 - (65 - (D.length : Int) - 1).toNat = (hexD u :: D).length := by simp; omega
    rw [e1, e2] at F
    (refine stepD rfl F rfl (o_append hO M (.cons hl) (F.ev rfl) (F.ev rfl) (SrcOf.cells' (M.heap .here) (by rw [Nat.mul_one]; exact seg_buf (D := hexD u :: D) (by simp; omega)) (by simp [Value.oneCell'])) (by first | omega | (simp; omega)) (by first | omega | (simp; omega)) ?_); clear F; clear M; clear hO; intro v2 ent2 w hO M a F; (try dsimp only at M))
    refine stepD rfl F rfl (o_assign (F.ev rfl) ?_); clear F; clear a; intro a F
    with_reducible refine l_nil ?_
    with_reducible refine q_then ?_
    with_reducible refine c_ret ?_
    with_reducible refine q_thenR ?_
    refine p_ret F rfl (.cons (.tmp (F.ev rfl)) (.cons (.tmp (F.ev rfl)) .nil)) ?_
    refine ⟨_, ent2, rfl, ?_, M.sub (List.sublist_cons_self _ _)⟩
    rw [hD, List.map_append]
    exact hO

set_option maxHeartbeats 400000 in
theorem appendUint0_c {S : List Nat} {W0 W : World} {l ent : List (Nat × Obj)} {f : List (Nat × Obj) → List (Nat × Obj)} {v : Value} {n : Nat} {bs : List Int} {g : Int} (hO : OwnS 5 1 v n (bs.map (Value.int .u8)) ent) (M : Mem S W0 W l) (hl : TailAt ent l f) (h0 : 0 ≤ g) (h1 : g < 65536) (hn : n ≤ 1000) (hG : GT W0) (hS : 5 ∉ S) :
    Cal Tryd.prog 85 [v, .int .u64 g, .int .i64 16].toArray W fun sv w' => ∃ ent', OwnS 5 1 sv (n + (hexI g).length) ((bs ++ hexI g).map (Value.int .u8)) ent' ∧ Mem S W0 w' (f ent') := by
  refine fn_of (n := 36) Tryd.func85 rfl rfl rfl ?_
  intro a F
  with_reducible refine c_seq ?_
  with_reducible refine c_region ?_
  refine stepD rfl F rfl (o_assign (F.ev rfl) ?_); clear F; clear a; intro a F
  with_reducible refine l_nil ?_
  with_reducible refine q_then ?_
  with_reducible refine c_seq ?_
  with_reducible refine c_seq ?_
  with_reducible refine c_region ?_
  refine stepD rfl F rfl (o_move (F.ev rfl) ?_); clear F; clear a; intro a F
  refine stepD rfl F rfl (o_eqlF (F.ev rfl) (F.ev rfl) (by omega) ?_); clear F; clear a; intro a F
  with_reducible refine l_nil ?_
  with_reducible refine q_then ?_
  refine c_false F rfl rfl ?_
  with_reducible refine c_skip ?_
  with_reducible refine q_then ?_
  with_reducible refine c_seq ?_
  with_reducible refine c_region ?_
  refine stepD rfl F rfl (o_move (F.ev rfl) ?_); clear F; clear a; intro a F
  refine stepD rfl F rfl (o_move (F.ev rfl) ?_); clear F; clear a; intro a F
  refine stepD rfl F rfl (o_move (F.ev rfl) ?_); clear F; clear a; intro a F
  (refine stepD rfl F rfl (o_call (F.ev rfl) (F.evs rfl) (Cal.mono (formatBits_c hO M hl h0 h1 hn hG hS) ?_)); clear F; clear a; rintro _ w ⟨sv, ent', rfl, hO', M'⟩ a F)
  refine stepD rfl F rfl (o_move (F.ev rfl) ?_); clear F; clear a; intro a F
  refine stepD rfl F rfl (o_extract (F.ev rfl) rfl ?_); clear F; clear a; intro a F
  refine stepD rfl F rfl (o_extract (F.ev rfl) rfl ?_); clear F; clear a; intro a F
  refine stepD rfl F rfl (o_assign (F.ev rfl) ?_); clear F; clear a; intro a F
  with_reducible refine l_nil ?_
  with_reducible refine q_then ?_
  with_reducible refine c_seq ?_
  with_reducible refine c_region ?_
  refine stepD rfl F rfl (o_move (F.ev rfl) ?_); clear F; clear a; intro a F
  refine stepD rfl F rfl (o_assign (F.ev rfl) ?_); clear F; clear a; intro a F
  with_reducible refine l_nil ?_
  with_reducible refine q_then ?_
  with_reducible refine c_ret ?_
  refine p_ret F rfl (.cons (.tmp (F.ev rfl)) .nil) ?_
  exact ⟨ent', hO', M'⟩
set_option maxHeartbeats 400000 in
theorem appendUint_c {S : List Nat} {W0 W : World} {l ent : List (Nat × Obj)} {f : List (Nat × Obj) → List (Nat × Obj)} {v : Value} {n : Nat} {bs : List Int} {g : Int} (hO : OwnS 5 1 v n (bs.map (Value.int .u8)) ent) (M : Mem S W0 W l) (hl : TailAt ent l f) (h0 : 0 ≤ g) (h1 : g < 65536) (hn : n ≤ 1000) (hG : GT W0) (hS : 5 ∉ S) :
    Cal Tryd.prog 63 [v, .int .u64 g, .int .i64 16].toArray W fun sv w' => ∃ ent', OwnS 5 1 sv (n + (hexI g).length) ((bs ++ hexI g).map (Value.int .u8)) ent' ∧ Mem S W0 w' (f ent') := by
  refine fn_of (n := 11) Tryd.func63 rfl rfl rfl ?_
  intro a F
  with_reducible refine c_seq ?_
  with_reducible refine c_region ?_
  refine stepD rfl F rfl (o_assign (F.ev rfl) ?_); clear F; clear a; intro a F
  with_reducible refine l_nil ?_
  with_reducible refine q_then ?_
  with_reducible refine c_seq ?_
  with_reducible refine c_region ?_
  refine stepD rfl F rfl (o_move (F.ev rfl) ?_); clear F; clear a; intro a F
  refine stepD rfl F rfl (o_move (F.ev rfl) ?_); clear F; clear a; intro a F
  refine stepD rfl F rfl (o_move (F.ev rfl) ?_); clear F; clear a; intro a F
  (refine stepD rfl F rfl (o_call (F.ev rfl) (F.evs rfl) (Cal.mono (appendUint0_c hO M hl h0 h1 hn hG hS) ?_)); clear F; clear a; rintro sv w ⟨ent', hO', M'⟩ a F)
  refine stepD rfl F rfl (o_assign (F.ev rfl) ?_); clear F; clear a; intro a F
  with_reducible refine l_nil ?_
  with_reducible refine q_then ?_
  with_reducible refine c_ret ?_
  refine p_ret F rfl (.cons (.tmp (F.ev rfl)) .nil) ?_
  exact ⟨ent', hO', M'⟩
end Go.Proofs.YtadnpidadcgdcaaDoor

/-
  address.ParseIP.
-/
import Derived.Test.YtadnpidadcgdcaaDoorP4
namespace Go.Proofs.YtadnpidadcgdcaaDoor
set_option linter.unusedVariables false
set_option linter.unusedSimpArgs false
open Go.RowKit
attribute [local irreducible] OpTo wpListIn Code.wpIn MW Cal

theorem nth_own {xs : List Int} {junk : List Value} {i : Nat} (h : i < xs.length) : nth (xs.map (Value.int .u16) ++ junk) (0 + (i : Int).toNat * 1) = some (.int .u16 (xs.getD i 0)) := by
  rw [nth_spec]; simp [List.getElem?_append, h]

def ip0 : List Int := List.replicate 16 0

set_option maxRecDepth 10000 in
set_option maxHeartbeats 2000000 in
theorem parseIP_c (s : List UInt8) (hs : s.length < 4294967281) (W : World) (hG : GM W) : Cal Tryd.prog 14 [mkS s].toArray W fun v w' => v = .tuple #[.agg (ipC ((parseIPV s).getD ip0)).toArray, .bool (parseIPV s).isSome] ∧ Ext [] W w' := by
  have hc1 : (Lib.cut s [58, 58]).1.length ≤ s.length ∧ (Lib.cut s [58, 58]).2.1.length ≤ s.length := by
    unfold Lib.cut; split <;> simp <;> omega
  refine fn_ofM (n := 104) [] Tryd.func14 rfl rfl rfl ?_
  intro a w F M hwW
  refine c_seq ?_
  refine c_region ?_
  (refine stepD rfl F rfl (o_alloc M ?_); clear F; clear M; intro b2 w M a F)
  refine stepD rfl F rfl (o_assign (F.ev rfl) ?_); clear F; clear a; intro a F
  with_reducible refine l_nil ?_
  with_reducible refine q_then ?_
  with_reducible refine c_seq ?_
  with_reducible refine c_region ?_
  refine stepD rfl F rfl (o_move (F.ev rfl) ?_); clear F; clear a; intro a F
  (refine stepD rfl F rfl (o_call (F.ev rfl) (F.evs rfl) (Cal.mono (cut_c _ hs _ (hG.later M.ext)) ?_)); clear F; clear a; rintro _ w ⟨rfl, hE⟩ a F; replace M := M.later hE; clear hE)
  obtain ⟨⟨h1, t1, short⟩, hq⟩ : ∃ q, Lib.cut s [58, 58] = q := ⟨_, rfl⟩
  rw [hq] at F hc1
  dsimp only at F hc1
  refine stepD rfl F rfl (o_move (F.ev rfl) ?_); clear F; clear a; intro a F
  refine stepD rfl F rfl (o_extract (F.ev rfl) rfl ?_); clear F; clear a; intro a F
  refine stepD rfl F rfl (o_extract (F.ev rfl) rfl ?_); clear F; clear a; intro a F
  refine stepD rfl F rfl (o_extract (F.ev rfl) rfl ?_); clear F; clear a; intro a F
  refine stepD rfl F rfl (o_assign (F.ev rfl) ?_); clear F; clear a; intro a F
  refine stepD rfl F rfl (o_assign (F.ev rfl) ?_); clear F; clear a; intro a F
  refine stepD rfl F rfl (o_assign (F.ev rfl) ?_); clear F; clear a; intro a F
  with_reducible refine l_nil ?_
  with_reducible refine q_then ?_
  with_reducible refine c_seq ?_
  with_reducible refine c_region ?_
  refine stepD rfl F rfl (o_move (F.ev rfl) ?_); clear F; clear a; intro a F
  (refine stepD rfl F rfl (o_call (F.ev rfl) (F.evs rfl) (Cal.mono (parseGroups_c h1 (by omega) _ ) ?_)); clear F; clear a; rintro _ w ⟨sv, ent, rfl, hO, N⟩ a F; replace M := M.joins N; clear N)
  cases hf : groupsV h1 with
  | none =>
    rw [hf] at F hO
    refine stepD rfl F rfl (o_move (F.ev rfl) ?_); clear F; clear a; intro a F
    refine stepD rfl F rfl (o_extract (F.ev rfl) rfl ?_); clear F; clear a; intro a F
    refine stepD rfl F rfl (o_extract (F.ev rfl) rfl ?_); clear F; clear a; intro a F
    refine stepD rfl F rfl (o_assign (F.ev rfl) ?_); clear F; clear a; intro a F
    refine stepD rfl F rfl (o_assign (F.ev rfl) ?_); clear F; clear a; intro a F
    with_reducible refine l_nil ?_
    with_reducible refine q_then ?_
    with_reducible refine c_seq ?_
    with_reducible refine c_seq ?_
    with_reducible refine c_region ?_
    refine stepD rfl F rfl (o_move (F.ev rfl) ?_); clear F; clear a; intro a F
    refine stepD rfl F rfl (o_not (F.ev rfl) ?_); clear F; clear a; intro a F
    with_reducible refine l_nil ?_
    with_reducible refine q_then ?_
    refine c_true F rfl rfl ?_
    with_reducible refine c_seq ?_
    with_reducible refine c_region ?_
    refine stepD rfl F rfl (o_build F rfl rfl ?_); clear F; clear a; intro a F
    replace M := M.perm (l' := (b2, .cells [.int .u8 0, .int .u8 0, .int .u8 0, .int .u8 0, .int .u8 0, .int .u8 0, .int .u8 0, .int .u8 0, .int .u8 0, .int .u8 0, .int .u8 0, .int .u8 0, .int .u8 0, .int .u8 0, .int .u8 0, .int .u8 0].toArray 23 (0, 0)) :: ent) List.perm_append_comm
    (refine stepN rfl F (o_storeA M (F.ev rfl) (F.ev rfl) (by rfl) (by rfl) (by repeat (first | exact .here | apply Has.there)) (by rfl) (by repeat (first | exact .here | apply Upd.there)) ?_); clear F; clear M; intro w M a F)
    refine stepD rfl F rfl (o_assign (F.ev rfl) ?_); clear F; clear a; intro a F
    with_reducible refine l_nil ?_
    with_reducible refine q_then ?_
    with_reducible refine c_ret ?_
    with_reducible refine q_thenR ?_
    refine p_ret F rfl (.cons (.cell (F.ev rfl) (run_loadVar_agg TAgg.h (M.heap .here) rfl)) (.cons (.tmp (F.ev rfl)) .nil)) ⟨by rw [show parseIPV s = none from (by simp [parseIPV, hq, hf])]; rfl, M.ext⟩
  | some f =>
    rw [hf] at F hO
    simp only [Option.getD_some] at hO
    obtain ⟨hfl, hfb⟩ := groupsV_bd hf
    obtain ⟨sp, sc, rfl⟩ := hO.slice
    refine stepD rfl F rfl (o_move (F.ev rfl) ?_); clear F; clear a; intro a F
    refine stepD rfl F rfl (o_extract (F.ev rfl) rfl ?_); clear F; clear a; intro a F
    refine stepD rfl F rfl (o_extract (F.ev rfl) rfl ?_); clear F; clear a; intro a F
    refine stepD rfl F rfl (o_assign (F.ev rfl) ?_); clear F; clear a; intro a F
    refine stepD rfl F rfl (o_assign (F.ev rfl) ?_); clear F; clear a; intro a F
    with_reducible refine l_nil ?_
    with_reducible refine q_then ?_
    with_reducible refine c_seq ?_
    with_reducible refine c_seq ?_
    with_reducible refine c_region ?_
    refine stepD rfl F rfl (o_move (F.ev rfl) ?_); clear F; clear a; intro a F
    refine stepD rfl F rfl (o_not (F.ev rfl) ?_); clear F; clear a; intro a F
    with_reducible refine l_nil ?_
    with_reducible refine q_then ?_
    refine c_false F rfl rfl ?_
    with_reducible refine c_skip ?_
    with_reducible refine q_then ?_
    with_reducible refine c_seq ?_
    with_reducible refine c_region ?_
    refine stepD rfl F rfl (o_move (F.ev rfl) ?_); clear F; clear a; intro a F
    (refine stepD rfl F rfl (o_call (F.ev rfl) (F.evs rfl) (Cal.mono (parseGroups_c t1 (by omega) _ ) ?_)); clear F; clear a; rintro _ w ⟨sv2, ent2, rfl, hO2, N⟩ a F; replace M := M.joins N; clear N)
    cases hl : groupsV t1 with
    | none =>
      rw [hl] at F hO2
      refine stepD rfl F rfl (o_move (F.ev rfl) ?_); clear F; clear a; intro a F
      refine stepD rfl F rfl (o_extract (F.ev rfl) rfl ?_); clear F; clear a; intro a F
      refine stepD rfl F rfl (o_extract (F.ev rfl) rfl ?_); clear F; clear a; intro a F
      refine stepD rfl F rfl (o_assign (F.ev rfl) ?_); clear F; clear a; intro a F
      refine stepD rfl F rfl (o_assign (F.ev rfl) ?_); clear F; clear a; intro a F
      with_reducible refine l_nil ?_
      with_reducible refine q_then ?_
      with_reducible refine c_seq ?_
      with_reducible refine c_seq ?_
      with_reducible refine c_region ?_
      refine stepD rfl F rfl (o_move (F.ev rfl) ?_); clear F; clear a; intro a F
      refine stepD rfl F rfl (o_not (F.ev rfl) ?_); clear F; clear a; intro a F
      with_reducible refine l_nil ?_
      with_reducible refine q_then ?_
      refine c_true F rfl rfl ?_
      with_reducible refine c_seq ?_
      with_reducible refine c_region ?_
      refine stepD rfl F rfl (o_build F rfl rfl ?_); clear F; clear a; intro a F
      replace M := M.perm (l' := (b2, .cells [.int .u8 0, .int .u8 0, .int .u8 0, .int .u8 0, .int .u8 0, .int .u8 0, .int .u8 0, .int .u8 0, .int .u8 0, .int .u8 0, .int .u8 0, .int .u8 0, .int .u8 0, .int .u8 0, .int .u8 0, .int .u8 0].toArray 23 (0, 0)) :: (ent2 ++ ent)) (by rw [← List.append_assoc]; exact List.perm_append_comm)
      (refine stepN rfl F (o_storeA M (F.ev rfl) (F.ev rfl) (by rfl) (by rfl) (by repeat (first | exact .here | apply Has.there)) (by rfl) (by repeat (first | exact .here | apply Upd.there)) ?_); clear F; clear M; intro w M a F)
      refine stepD rfl F rfl (o_assign (F.ev rfl) ?_); clear F; clear a; intro a F
      with_reducible refine l_nil ?_
      with_reducible refine q_then ?_
      with_reducible refine c_ret ?_
      with_reducible refine q_thenR ?_
      refine p_ret F rfl (.cons (.cell (F.ev rfl) (run_loadVar_agg TAgg.h (M.heap .here) rfl)) (.cons (.tmp (F.ev rfl)) .nil)) ⟨by rw [show parseIPV s = none from (by simp [parseIPV, hq, hf, hl])]; rfl, M.ext⟩
    | some l =>
      rw [hl] at F hO2
      simp only [Option.getD_some] at hO2
      obtain ⟨hll, hlb⟩ := groupsV_bd hl
      obtain ⟨sp2, sc2, rfl⟩ := hO2.slice
      replace M := M.perm (l' := (b2, .cells [.int .u8 0, .int .u8 0, .int .u8 0, .int .u8 0, .int .u8 0, .int .u8 0, .int .u8 0, .int .u8 0, .int .u8 0, .int .u8 0, .int .u8 0, .int .u8 0, .int .u8 0, .int .u8 0, .int .u8 0, .int .u8 0].toArray 23 (0, 0)) :: (ent2 ++ ent)) (by rw [← List.append_assoc]; exact List.perm_append_comm)
      simp only [Option.isSome_some] at F
      by_cases hbad : badN short (f.length + l.length)
      · have hb2 := hbad
        rcases hb2 with ⟨rfl, h7⟩ | ⟨rfl, h8⟩
        all_goals
          repeat (first | (with_reducible refine c_seq ?_) | (with_reducible refine c_region ?_) | (with_reducible refine l_nil ?_) | (with_reducible refine q_then ?_) | (with_reducible refine c_skip ?_) | (refine c_true F rfl rfl ?_) | (refine c_false F rfl rfl ?_) | (refine stepD rfl F rfl (o_move (F.ev rfl) ?_); clear F; clear a; intro a F) | (refine stepD rfl F rfl (o_assign (F.ev rfl) ?_); clear F; clear a; intro a F) | (refine stepD rfl F rfl (o_add (F.ev rfl) (F.ev rfl) (w_i64 (by omega) (by omega)) ?_); clear F; clear a; intro a F) | (refine stepD rfl F rfl (o_not (F.ev rfl) ?_); clear F; clear a; intro a F) | (refine stepD rfl F rfl (o_pickT (F.ev rfl) (F.ev rfl) ?_); clear F; clear a; intro a F) | (refine stepD rfl F rfl (o_pickF (F.ev rfl) (F.ev rfl) ?_); clear F; clear a; intro a F) | (refine stepD rfl F rfl (o_lenSl (F.ev rfl) ?_); clear F; clear a; intro a F) | (refine stepD rfl F rfl (o_extract (F.ev rfl) rfl ?_); clear F; clear a; intro a F) | (refine stepD rfl F rfl (o_build F rfl rfl ?_); clear F; clear a; intro a F) | (refine stepOff F rfl rfl rfl rfl ?_; clear F; clear a; intro a F) | (refine stepG rfl F rfl rfl rfl (o_move (F.ev rfl) ?_); clear F; clear a; intro a F) | (refine stepG rfl F rfl rfl rfl (o_gtrT (F.ev rfl) (F.ev rfl) (by omega) ?_); clear F; clear a; intro a F) | (refine stepG rfl F rfl rfl rfl (o_neqT (F.ev rfl) (F.ev rfl) (by omega) ?_); clear F; clear a; intro a F) | (refine stepG rfl F rfl rfl rfl (o_not (F.ev rfl) ?_); clear F; clear a; intro a F) | (refine stepG rfl F rfl rfl rfl (o_pickT (F.ev rfl) (F.ev rfl) ?_); clear F; clear a; intro a F))
          (refine stepN rfl F (o_storeA M (F.ev rfl) (F.ev rfl) (by rfl) (by rfl) (by repeat (first | exact .here | apply Has.there)) (by rfl) (by repeat (first | exact .here | apply Upd.there)) ?_); clear F; clear M; intro w M a F)
          repeat (first | (with_reducible refine l_nil ?_) | (with_reducible refine q_then ?_) | (with_reducible refine c_ret ?_) | (with_reducible refine q_thenR ?_) | (refine stepD rfl F rfl (o_assign (F.ev rfl) ?_); clear F; clear a; intro a F))
          refine p_ret F rfl (.cons (.cell (F.ev rfl) (run_loadVar_agg TAgg.h (M.heap .here) rfl)) (.cons (.tmp (F.ev rfl)) .nil)) ⟨by rw [show parseIPV s = none from (by simp [parseIPV, hq, hf, hl, hbad])]; rfl, M.ext⟩
      · have hP : parseIPV s = some (rowB f l l.length) := by simp [parseIPV, hq, hf, hl, hbad]
        rw [hP]
        have hgood : (short = true ∧ f.length + l.length ≤ 7) ∨ (short = false ∧ f.length + l.length = 8) := by
          cases short
          · exact .inr ⟨rfl, Classical.byContradiction fun h => hbad (.inr ⟨rfl, h⟩)⟩
          · exact .inl ⟨rfl, Nat.le_of_not_lt fun h => hbad (.inl ⟨rfl, h⟩)⟩
        have hn8 : f.length + l.length ≤ 8 := by rcases hgood with h | h <;> omega
        clear hbad
        rcases hgood with ⟨rfl, hgd⟩ | ⟨rfl, hgd⟩
        all_goals
          repeat (first | (with_reducible refine c_seq ?_) | (with_reducible refine c_region ?_) | (with_reducible refine l_nil ?_) | (with_reducible refine q_then ?_) | (with_reducible refine c_skip ?_) | (refine c_false F rfl rfl ?_) | (refine stepD rfl F rfl (o_move (F.ev rfl) ?_); clear F; clear a; intro a F) | (refine stepD rfl F rfl (o_assign (F.ev rfl) ?_); clear F; clear a; intro a F) | (refine stepD rfl F rfl (o_add (F.ev rfl) (F.ev rfl) (w_i64 (by omega) (by omega)) ?_); clear F; clear a; intro a F) | (refine stepD rfl F rfl (o_not (F.ev rfl) ?_); clear F; clear a; intro a F) | (refine stepD rfl F rfl (o_pickT (F.ev rfl) (F.ev rfl) ?_); clear F; clear a; intro a F) | (refine stepD rfl F rfl (o_pickF (F.ev rfl) (F.ev rfl) ?_); clear F; clear a; intro a F) | (refine stepD rfl F rfl (o_lenSl (F.ev rfl) ?_); clear F; clear a; intro a F) | (refine stepD rfl F rfl (o_extract (F.ev rfl) rfl ?_); clear F; clear a; intro a F) | (refine stepOff F rfl rfl rfl rfl ?_; clear F; clear a; intro a F) | (refine stepG rfl F rfl rfl rfl (o_move (F.ev rfl) ?_); clear F; clear a; intro a F) | (refine stepG rfl F rfl rfl rfl (o_gtrF (F.ev rfl) (F.ev rfl) (by omega) ?_); clear F; clear a; intro a F) | (refine stepG rfl F rfl rfl rfl (o_neqF (F.ev rfl) (F.ev rfl) (by omega) ?_); clear F; clear a; intro a F) | (refine stepG rfl F rfl rfl rfl (o_not (F.ev rfl) ?_); clear F; clear a; intro a F) | (refine stepG rfl F rfl rfl rfl (o_pickT (F.ev rfl) (F.ev rfl) ?_); clear F; clear a; intro a F) | (refine stepG rfl F rfl rfl rfl (o_pickF (F.ev rfl) (F.ev rfl) ?_); clear F; clear a; intro a F))
          (refine stepD rfl F rfl (o_alloc M ?_); clear F; clear M; intro b11 w M a F)
          repeat (first | (with_reducible refine c_seq ?_) | (with_reducible refine c_region ?_) | (with_reducible refine l_nil ?_) | (with_reducible refine q_then ?_) | (with_reducible refine c_block ?_) | (refine stepD rfl F rfl (o_move (F.ev rfl) ?_); clear F; clear a; intro a F) | (refine stepD rfl F rfl (o_lenSl (F.ev rfl) ?_); clear F; clear a; intro a F))
          replace M := M.perm (l' := (b11, .cells [.int .u8 0, .int .u8 0, .int .u8 0, .int .u8 0, .int .u8 0, .int .u8 0, .int .u8 0, .int .u8 0, .int .u8 0, .int .u8 0, .int .u8 0, .int .u8 0, .int .u8 0, .int .u8 0, .int .u8 0, .int .u8 0].toArray 23 (0, 0)) :: (b2, .cells [.int .u8 0, .int .u8 0, .int .u8 0, .int .u8 0, .int .u8 0, .int .u8 0, .int .u8 0, .int .u8 0, .int .u8 0, .int .u8 0, .int .u8 0, .int .u8 0, .int .u8 0, .int .u8 0, .int .u8 0, .int .u8 0].toArray 23 (0, 0)) :: (ent ++ ent2)) (List.Perm.append_left [_, _] List.perm_append_comm)
          refine c_loop (fun k a w => ∃ i : Nat, k = f.length - i ∧ i ≤ f.length ∧ Frm a 104 [] [(60, .int .i64 i), (59, .int .i64 f.length), (58, .slice sp f.length sc), (11, .pointer (some ⟨b11, 0, none⟩)), (9, .slice sp2 l.length sc2), (2, .pointer (some ⟨b2, 0, none⟩))] ∧
            Mem [] W w ((b11, .cells (ipC (rowA f i)).toArray 23 (0, 0)) :: (b2, .cells [.int .u8 0, .int .u8 0, .int .u8 0, .int .u8 0, .int .u8 0, .int .u8 0, .int .u8 0, .int .u8 0, .int .u8 0, .int .u8 0, .int .u8 0, .int .u8 0, .int .u8 0, .int .u8 0, .int .u8 0, .int .u8 0].toArray 23 (0, 0)) :: (ent ++ ent2))) f.length ⟨0, rfl, by omega, F.only [60, 59, 58, 11, 9, 2] rfl, M⟩ ?_
          clear F M
          rintro k a w ⟨i, hk, hi, F, M⟩
          by_cases hlt : i < f.length
          · rcases hO with ⟨_, h0, _, _⟩ | ⟨bf, capf, junkf, hv, rfl, hxl, hjl, hcc⟩
            · omega
            cases hv
            have hgi := hfb _ (List.getElem_mem hlt)
            have hgd2 : f.getD i 0 = f[i] := by simp [hlt]
            rw [← hgd2] at hgi
            clear hgd2
            repeat (first | (with_reducible refine c_seq ?_) | (with_reducible refine c_region ?_) | (with_reducible refine l_nil ?_) | (with_reducible refine q_then ?_) | (with_reducible refine c_block ?_) | (with_reducible refine c_skip ?_) | (refine c_true F rfl rfl ?_) | (refine stepD rfl F rfl (o_move (F.ev rfl) ?_); clear F; clear a; intro a F) | (refine stepD rfl F rfl (o_lssT (F.ev rfl) (F.ev rfl) (by omega) ?_); clear F; clear a; intro a F) | (refine stepD rfl F rfl (o_indexSl (F.ev rfl) (F.ev rfl) (by omega) (by omega) ?_); clear F; clear a; intro a F))
            (refine stepD rfl F rfl (o_load1 M (F.ev rfl) (by repeat (first | exact .here | apply Has.there)) (nth_own (i := i) (xs := f) hlt) ?_); clear F; clear a; intro a F)
            repeat (first | (with_reducible refine c_region ?_) | (with_reducible refine l_nil ?_) | (with_reducible refine q_then ?_) | (refine stepD rfl F rfl (o_move (F.ev rfl) ?_); clear F; clear a; intro a F) | (refine stepD rfl F rfl (o_assign (F.ev rfl) ?_); clear F; clear a; intro a F) | (refine stepD rfl F rfl (o_add (F.ev rfl) (F.ev rfl) (w_i64 (by omega) (by omega)) ?_); clear F; clear a; intro a F) | (refine stepD rfl F rfl (o_mul (F.ev rfl) (F.ev rfl) (w_i64 (by omega) (by omega)) ?_); clear F; clear a; intro a F) | (refine stepD rfl F rfl (o_shr (F.ev rfl) (F.ev rfl) (by omega) rfl ?_); clear F; clear a; intro a F) | (refine stepD rfl F rfl (o_conv (F.ev rfl) rfl ?_); clear F; clear a; intro a F) | (refine stepD rfl F rfl (o_indexArr (F.ev rfl) (F.ev rfl) (by omega) (by omega) ?_); clear F; clear a; intro a F))
            (refine stepN rfl F (o_store1 M (F.ev rfl) (F.ev rfl) rfl (by repeat (first | exact .here | apply Has.there)) (put1 (q := 2 * i) _ (by omega) (by simp [length_ipC, rowA]; omega)) (by repeat (first | exact .here | apply Upd.there)) ?_); clear F; clear M; intro w M a F)
            repeat (first | (refine stepD rfl F rfl (o_indexArr (F.ev rfl) (F.ev rfl) (by omega) (by omega) ?_); clear F; clear a; intro a F))
            (refine stepN rfl F (o_store1 M (F.ev rfl) (F.ev rfl) rfl (by repeat (first | exact .here | apply Has.there)) (put1 (q := 2 * i + 1) _ (by omega) (by simp [length_ipC, rowA]; omega)) (by repeat (first | exact .here | apply Upd.there)) ?_); clear F; clear M; intro w M a F)
            rw [hiB hgi.1 hgi.2, loB hgi.1, ← byteOf_even, ← byteOf_odd, ← ipC_set, ← ipC_set, rowA_step (by omega)] at M
            repeat (first | (with_reducible refine c_region ?_) | (with_reducible refine l_nil ?_) | (with_reducible refine q_then ?_) | (with_reducible refine q_inB ?_) | (refine stepD rfl F rfl (o_move (F.ev rfl) ?_); clear F; clear a; intro a F) | (refine stepD rfl F rfl (o_add (F.ev rfl) (F.ev rfl) (w_i64 (by omega) (by omega)) ?_); clear F; clear a; intro a F))
            exact ⟨_, by omega, i + 1, rfl, by omega, F.only [60, 59, 58, 11, 9, 2] rfl, M⟩
          · obtain rfl : i = f.length := by omega
            rw [rowA_B f l] at M
            replace M := M.perm (l' := (b11, .cells (ipC (rowB f l 0)).toArray 23 (0, 0)) :: (b2, .cells [.int .u8 0, .int .u8 0, .int .u8 0, .int .u8 0, .int .u8 0, .int .u8 0, .int .u8 0, .int .u8 0, .int .u8 0, .int .u8 0, .int .u8 0, .int .u8 0, .int .u8 0, .int .u8 0, .int .u8 0, .int .u8 0].toArray 23 (0, 0)) :: (ent2 ++ ent)) (List.Perm.append_left [_, _] List.perm_append_comm)
            repeat (first | (with_reducible refine c_seq ?_) | (with_reducible refine c_region ?_) | (with_reducible refine l_nil ?_) | (with_reducible refine q_then ?_) | (with_reducible refine c_block ?_) | (with_reducible refine c_exit ?_) | (with_reducible refine q_thenX ?_) | (with_reducible refine q_inBX ?_) | (refine c_false F rfl rfl ?_) | (refine stepD rfl F rfl (o_move (F.ev rfl) ?_); clear F; clear a; intro a F) | (refine stepD rfl F rfl (o_lssF (F.ev rfl) (F.ev rfl) (by omega) ?_); clear F; clear a; intro a F) | (refine stepD rfl F rfl (o_lenSl (F.ev rfl) ?_); clear F; clear a; intro a F))
            refine c_loop (fun k a w => ∃ i : Nat, k = l.length - i ∧ i ≤ l.length ∧ Frm a 104 [] [(80, .int .i64 i), (79, .int .i64 l.length), (78, .slice sp2 l.length sc2), (11, .pointer (some ⟨b11, 0, none⟩)), (9, .slice sp2 l.length sc2), (2, .pointer (some ⟨b2, 0, none⟩))] ∧
              Mem [] W w ((b11, .cells (ipC (rowB f l i)).toArray 23 (0, 0)) :: (b2, .cells [.int .u8 0, .int .u8 0, .int .u8 0, .int .u8 0, .int .u8 0, .int .u8 0, .int .u8 0, .int .u8 0, .int .u8 0, .int .u8 0, .int .u8 0, .int .u8 0, .int .u8 0, .int .u8 0, .int .u8 0, .int .u8 0].toArray 23 (0, 0)) :: (ent2 ++ ent))) l.length ⟨0, rfl, by omega, F.only [80, 79, 78, 11, 9, 2] rfl, M⟩ ?_
            clear F M hk hi hlt
            rintro k a w ⟨i, hk, hi, F, M⟩
            by_cases hlt : i < l.length
            · rcases hO2 with ⟨_, h0, _, _⟩ | ⟨bf, capf, junkf, hv, rfl, hxl, hjl, hcc⟩
              · omega
              cases hv
              have hgi := hlb _ (List.getElem_mem hlt)
              have hgd2 : l.getD i 0 = l[i] := by simp [hlt]
              rw [← hgd2] at hgi
              clear hgd2
              repeat (first | (with_reducible refine c_seq ?_) | (with_reducible refine c_region ?_) | (with_reducible refine l_nil ?_) | (with_reducible refine q_then ?_) | (with_reducible refine c_block ?_) | (with_reducible refine c_skip ?_) | (refine c_true F rfl rfl ?_) | (refine stepD rfl F rfl (o_move (F.ev rfl) ?_); clear F; clear a; intro a F) | (refine stepD rfl F rfl (o_lssT (F.ev rfl) (F.ev rfl) (by omega) ?_); clear F; clear a; intro a F) | (refine stepD rfl F rfl (o_indexSl (F.ev rfl) (F.ev rfl) (by omega) (by omega) ?_); clear F; clear a; intro a F))
              (refine stepD rfl F rfl (o_load1 M (F.ev rfl) (by repeat (first | exact .here | apply Has.there)) (nth_own (i := i) (xs := l) hlt) ?_); clear F; clear a; intro a F)
              repeat (first | (with_reducible refine c_seq ?_) | (with_reducible refine c_region ?_) | (with_reducible refine l_nil ?_) | (with_reducible refine q_then ?_) | (refine stepD rfl F rfl (o_move (F.ev rfl) ?_); clear F; clear a; intro a F) | (refine stepD rfl F rfl (o_assign (F.ev rfl) ?_); clear F; clear a; intro a F) | (refine stepD rfl F rfl (o_add (F.ev rfl) (F.ev rfl) (w_i64 (by omega) (by omega)) ?_); clear F; clear a; intro a F) | (refine stepD rfl F rfl (o_sub (F.ev rfl) (F.ev rfl) (w_i64 (by omega) (by omega)) ?_); clear F; clear a; intro a F) | (refine stepD rfl F rfl (o_mul (F.ev rfl) (F.ev rfl) (w_i64 (by omega) (by omega)) ?_); clear F; clear a; intro a F) | (refine stepD rfl F rfl (o_shr (F.ev rfl) (F.ev rfl) (by omega) rfl ?_); clear F; clear a; intro a F) | (refine stepD rfl F rfl (o_conv (F.ev rfl) rfl ?_); clear F; clear a; intro a F) | (refine stepD rfl F rfl (o_lenSl (F.ev rfl) ?_); clear F; clear a; intro a F) | (refine stepD rfl F rfl (o_indexArr (F.ev rfl) (F.ev rfl) (by omega) (by omega) ?_); clear F; clear a; intro a F))
              (refine stepN rfl F (o_store1 M (F.ev rfl) (F.ev rfl) rfl (by repeat (first | exact .here | apply Has.there)) (put1 (q := 16 - 2 * l.length + 2 * i) _ (by omega) (by simp [length_ipC, rowB]; omega)) (by repeat (first | exact .here | apply Upd.there)) ?_); clear F; clear M; intro w M a F)
              repeat (first | (refine stepD rfl F rfl (o_indexArr (F.ev rfl) (F.ev rfl) (by omega) (by omega) ?_); clear F; clear a; intro a F))
              (refine stepN rfl F (o_store1 M (F.ev rfl) (F.ev rfl) rfl (by repeat (first | exact .here | apply Has.there)) (put1 (q := 16 - 2 * l.length + 2 * i + 1) _ (by omega) (by simp [length_ipC, rowB]; omega)) (by repeat (first | exact .here | apply Upd.there)) ?_); clear F; clear M; intro w M a F)
              rw [hiB hgi.1 hgi.2, loB hgi.1, ← byteOf_even, ← byteOf_odd, ← ipC_set, ← ipC_set, rowB_step hn8 hlt] at M
              repeat (first | (with_reducible refine c_region ?_) | (with_reducible refine l_nil ?_) | (with_reducible refine q_then ?_) | (with_reducible refine q_inB ?_) | (refine stepD rfl F rfl (o_move (F.ev rfl) ?_); clear F; clear a; intro a F) | (refine stepD rfl F rfl (o_add (F.ev rfl) (F.ev rfl) (w_i64 (by omega) (by omega)) ?_); clear F; clear a; intro a F))
              exact ⟨_, by omega, i + 1, rfl, by omega, F.only [80, 79, 78, 11, 9, 2] rfl, M⟩
            · obtain rfl : i = l.length := by omega
              have hseg : seg (ipC (rowB f l l.length)) 0 16 = some (ipC (rowB f l l.length)) := by
                have h1 := seg_of [] (ipC (rowB f l l.length)) []
                rw [show (ipC (rowB f l l.length)).length = 16 by simp [length_ipC, rowB]] at h1
                simpa using h1
              repeat (first | (with_reducible refine c_seq ?_) | (with_reducible refine c_region ?_) | (with_reducible refine l_nil ?_) | (with_reducible refine q_then ?_) | (with_reducible refine c_exit ?_) | (with_reducible refine q_thenX ?_) | (with_reducible refine q_inBX ?_) | (refine c_false F rfl rfl ?_) | (refine stepD rfl F rfl (o_lssF (F.ev rfl) (F.ev rfl) (by omega) ?_); clear F; clear a; intro a F) | (refine stepD rfl F rfl (o_loadA M (F.ev rfl) (by repeat (first | exact .here | apply Has.there)) (by first | assumption | rfl) ?_); clear F; clear a; intro a F))
              (refine stepN rfl F (o_storeA M (F.ev rfl) (F.ev rfl) (by rfl) (by rfl) (by repeat (first | exact .here | apply Has.there)) (by rfl) (by repeat (first | exact .here | apply Upd.there)) ?_); clear F; clear M; intro w M a F)
              repeat (first | (with_reducible refine l_nil ?_) | (with_reducible refine q_then ?_) | (with_reducible refine c_ret ?_) | (refine stepD rfl F rfl (o_assign (F.ev rfl) ?_); clear F; clear a; intro a F))
              refine p_ret F rfl (.cons (.cell (F.ev rfl) (run_loadVar_agg TAgg.h (M.heap (.there .here)) rfl)) (.cons (.tmp (F.ev rfl)) .nil)) ⟨rfl, M.ext⟩
end Go.Proofs.YtadnpidadcgdcaaDoor

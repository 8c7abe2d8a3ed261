/-
  strings.Index at one byte, strings.SplitSeq at a colon: the iterator's contract.
-/
import Derived.Test.YtadnpidadcgdcaaDoorP1
import Derived.Test.YtadnpidadcgdcaaDoorShelf
namespace Go.Proofs.YtadnpidadcgdcaaDoor
set_option linter.unusedVariables false
set_option linter.unusedSimpArgs false
open Go.RowKit
attribute [local irreducible] OpTo wpListIn Code.wpIn MW Cal

theorem index_c (bs : List UInt8) (c : UInt8) (W : World) : Cal Tryd.prog 105 [mkS bs, mkS [c]].toArray W fun v w' => v = .int .i64 (Lib.indexByte bs c) ∧ Ext [] W w' :=
  Cal.of_calls (Tryd.strings_Index_one ⟨bs.toArray⟩ c W) fun e w' ⟨he, hw⟩ => ⟨_, he, by simp, by rw [hw]; exact Ext.refl _ _⟩

/-- the pieces of a text between the colons -/
def splitC : List UInt8 → List (List UInt8)
  | [] => [[]]
  | c :: cs => if c = 58 then [] :: splitC cs else match splitC cs with
    | p :: ps => (c :: p) :: ps
    | [] => [[c]]
theorem splitC_ne (bs : List UInt8) : splitC bs ≠ [] := by
  cases bs with
  | nil => simp [splitC]
  | cons c cs => simp only [splitC]; split <;> (try split) <;> simp
theorem splitC_none : ∀ {bs : List UInt8}, Lib.indexByte bs 58 = -1 → splitC bs = [bs]
  | [], _ => rfl
  | c :: cs, h => by
    simp only [Lib.indexByte] at h
    split at h
    · omega
    · rename_i hc
      have := Lib.indexByte_ge cs 58
      have h' : Lib.indexByte cs 58 = -1 := by
        split at h
        · rename_i h2; simpa using h2
        · omega
      have hne : ¬ c = 58 := by simpa using hc
      simp [splitC, hne, splitC_none h']
theorem splitC_some : ∀ {bs : List UInt8} {i : Nat}, Lib.indexByte bs 58 = i → i < bs.length ∧ splitC bs = bs.take i :: splitC (bs.drop (i + 1))
  | [], i, h => by simp [Lib.indexByte] at h
  | c :: cs, i, h => by
    simp only [Lib.indexByte] at h
    split at h
    · rename_i hc
      obtain rfl : i = 0 := by omega
      have hc' : c = 58 := by simpa using hc
      simp [splitC, hc']
    · rename_i hc
      have hne : ¬ c = 58 := by simpa using hc
      have := Lib.indexByte_ge cs 58
      obtain ⟨j, rfl⟩ : ∃ j, i = j + 1 := by
        refine ⟨i - 1, ?_⟩
        split at h
        · omega
        · rename_i h2
          have : ¬ Lib.indexByte cs 58 = -1 := by simpa using h2
          omega
      have h' : Lib.indexByte cs 58 = (j : Int) := by
        split at h
        · omega
        · omega
      obtain ⟨hl, hs⟩ := splitC_some h'
      exact ⟨by simp; omega, by simp [splitC, hne, hs]⟩

set_option maxHeartbeats 1000000 in
theorem split_iter (s : List UInt8) (hs : s.length ≤ 4611686018427387904) (b1 b2 b3 : Nat) : Iter Tryd.prog 103 [.pointer (some ⟨b2, 0, none⟩), .pointer (some ⟨b1, 0, none⟩), .pointer (some ⟨b3, 0, none⟩)] (fun x : List UInt8 => [mkS x]) (fun pre x => (pre ++ [x]) <+: splitC s)
    [(b1, .cells [mkS s].toArray 9 (0, 0)), (b2, .cells [mkS [58]].toArray 9 (0, 0)), (b3, .cells [Value.int .i64 0].toArray 3 (0, 0))] (fun xs => xs = splitC s) := by
  intro L S W0 w Inv InvX l hY h0 M0
  have M := M0.perm List.perm_append_comm
  clear M0
  refine fn_of (n := 52) Tryd.func103 rfl rfl rfl ?_
  intro a F
  with_reducible refine c_seq ?_
  with_reducible refine c_seq ?_
  with_reducible refine c_region ?_
  refine stepD rfl F rfl (o_load1 M (F.ev rfl) (by repeat (first | exact .here | apply Has.there)) (by first | assumption | rfl) ?_); clear F; clear a; intro a F
  refine stepD rfl F rfl (s_len (F.ev rfl) ?_); clear F; clear a; intro a F
  refine stepD rfl F rfl (o_eql (F.ev rfl) (F.ev rfl) ?_); clear F; clear a; intro a F
  with_reducible refine l_nil ?_
  with_reducible refine q_then ?_
  refine c_false F rfl rfl ?_
  with_reducible refine c_skip ?_
  with_reducible refine q_then ?_
  with_reducible refine c_seq ?_
  with_reducible refine c_block ?_
  refine c_loop (fun k a w => ∃ (pre : List (List UInt8)) (rest : List UInt8) (l : List (Nat × Obj)), k = rest.length ∧ rest.length ≤ s.length ∧ splitC s = pre ++ splitC rest ∧ Inv pre l ∧ Frm a 52 [] [(0, .func (.yield L) #[] #[]), (1, .pointer (some ⟨b2, 0, none⟩)), (2, .pointer (some ⟨b1, 0, none⟩)), (3, .pointer (some ⟨b3, 0, none⟩))] ∧
      Mem S W0 w ((b1, .cells [mkS rest].toArray 9 (0, 0)) :: (b2, .cells [mkS [58]].toArray 9 (0, 0)) :: (b3, .cells [Value.int .i64 0].toArray 3 (0, 0)) :: l)) s.length ⟨[], s, l, rfl, Nat.le_refl _, rfl, h0, F.only [0, 1, 2, 3] rfl, M⟩ ?_
  clear F M h0 l
  rintro k a w ⟨pre, rest, l, hk, hrl, hsp, hI, F, M⟩
  with_reducible refine c_block ?_
  with_reducible refine c_seq ?_
  with_reducible refine c_region ?_
  refine stepD rfl F rfl (o_load1 M (F.ev rfl) (by repeat (first | exact .here | apply Has.there)) (by first | assumption | rfl) ?_); clear F; clear a; intro a F
  refine stepD rfl F rfl (o_load1 M (F.ev rfl) (by repeat (first | exact .here | apply Has.there)) (by first | assumption | rfl) ?_); clear F; clear a; intro a F
  (refine stepD rfl F rfl (o_call (F.ev rfl) (F.evs rfl) (Cal.mono (index_c _ _ _) ?_)); clear F; clear a; rintro _ w ⟨rfl, hE⟩ a F; replace M := M.later hE; clear hE)
  have hge := Lib.indexByte_ge rest 58
  by_cases hno : Lib.indexByte rest 58 = -1
  · rw [hno] at F
    have hone := splitC_none hno
    refine stepD rfl F rfl (o_assign (F.ev rfl) ?_); clear F; clear a; intro a F
    with_reducible refine l_nil ?_
    with_reducible refine q_then ?_
    with_reducible refine c_seq ?_
    with_reducible refine c_seq ?_
    with_reducible refine c_region ?_
    refine stepD rfl F rfl (o_move (F.ev rfl) ?_); clear F; clear a; intro a F
    refine stepD rfl F rfl (o_lssT (F.ev rfl) (F.ev rfl) (by omega) ?_); clear F; clear a; intro a F
    with_reducible refine l_nil ?_
    with_reducible refine q_then ?_
    refine c_true F rfl rfl ?_
    with_reducible refine c_exit ?_
    with_reducible refine q_thenX ?_
    refine q_inBY rfl ?_
    with_reducible refine q_thenX ?_
    with_reducible refine q_inBX ?_
    with_reducible refine q_then ?_
    with_reducible refine c_region ?_
    refine stepD rfl F rfl (o_move (F.ev rfl) ?_); clear F; clear a; intro a F
    refine stepD rfl F rfl (o_load1 M (F.ev rfl) (by repeat (first | exact .here | apply Has.there)) (by first | assumption | rfl) ?_); clear F; clear a; intro a F
    have M' := M.perm (l' := l ++ [(b1, .cells [mkS rest].toArray 9 (0, 0)), (b2, .cells [mkS [58]].toArray 9 (0, 0)), (b3, .cells [Value.int .i64 0].toArray 3 (0, 0))]) (List.perm_append_comm (l₁ := [_, _, _]))
    (refine stepD rfl F rfl (o_yield (F.ev rfl) (F.evs rfl) ((hY pre rest l w _ (by rw [hsp, hone]; exact List.prefix_rfl) hI M').mono ?_)); clear F; clear a)
    rintro v w2 ⟨l2, M2, hor⟩ a F
    with_reducible refine l_nil ?_
    refine p_ret F rfl .nil ?_
    refine ⟨l2, _, M2, ?_⟩
    rcases hor with ⟨_, h1⟩ | ⟨_, h1⟩
    · exact .inl ⟨_, by rw [hsp, hone], h1⟩
    · exact .inr ⟨_, h1⟩
  · obtain ⟨i, hi⟩ := Int.eq_ofNat_of_zero_le (show 0 ≤ Lib.indexByte rest 58 by omega)
    rw [hi] at F
    obtain ⟨hil, hcut⟩ := splitC_some hi
    refine stepD rfl F rfl (o_assign (F.ev rfl) ?_); clear F; clear a; intro a F
    with_reducible refine l_nil ?_
    with_reducible refine q_then ?_
    with_reducible refine c_seq ?_
    with_reducible refine c_seq ?_
    with_reducible refine c_region ?_
    refine stepD rfl F rfl (o_move (F.ev rfl) ?_); clear F; clear a; intro a F
    refine stepD rfl F rfl (o_lssF (F.ev rfl) (F.ev rfl) (by omega) ?_); clear F; clear a; intro a F
    with_reducible refine l_nil ?_
    with_reducible refine q_then ?_
    refine c_false F rfl rfl ?_
    with_reducible refine c_skip ?_
    with_reducible refine q_then ?_
    with_reducible refine c_seq ?_
    with_reducible refine c_region ?_
    refine stepD rfl F rfl (o_load1 M (F.ev rfl) (by repeat (first | exact .here | apply Has.there)) (by first | assumption | rfl) ?_); clear F; clear a; intro a F
    refine stepD rfl F rfl (o_move (F.ev rfl) ?_); clear F; clear a; intro a F
    refine stepD rfl F rfl (o_load1 M (F.ev rfl) (by repeat (first | exact .here | apply Has.there)) (by first | assumption | rfl) ?_); clear F; clear a; intro a F
    refine stepD rfl F rfl (o_add (F.ev rfl) (F.ev rfl) (w_i64 (by omega) (by omega)) ?_); clear F; clear a; intro a F
    (refine stepD rfl F rfl (s_h (q := i) (F.ev rfl) (F.ev rfl) (by omega) (by omega) ?_); clear F; clear a; intro a F)
    refine stepD rfl F rfl (o_assign (F.ev rfl) ?_); clear F; clear a; intro a F
    with_reducible refine l_nil ?_
    with_reducible refine q_then ?_
    with_reducible refine c_seq ?_
    with_reducible refine c_seq ?_
    with_reducible refine c_region ?_
    refine stepD rfl F rfl (o_move (F.ev rfl) ?_); clear F; clear a; intro a F
    refine stepD rfl F rfl (o_move (F.ev rfl) ?_); clear F; clear a; intro a F
    have M' := M.perm (l' := l ++ [(b1, .cells [mkS rest].toArray 9 (0, 0)), (b2, .cells [mkS [58]].toArray 9 (0, 0)), (b3, .cells [Value.int .i64 0].toArray 3 (0, 0))]) (List.perm_append_comm (l₁ := [_, _, _]))
    (refine stepD rfl F rfl (o_yield (F.ev rfl) (F.evs rfl) ((hY pre (rest.take i) l w _ (by rw [hsp, hcut]; exact ⟨splitC (rest.drop (i + 1)), by simp⟩) hI M').mono ?_)); clear F; clear a)
    rintro v w2 ⟨l2, M2, hor⟩ a F
    rcases hor with ⟨rfl, h1⟩ | ⟨rfl, h1⟩
    · replace M := M2.perm List.perm_append_comm
      clear M2 M'
      refine stepD rfl F rfl (o_not (F.ev rfl) ?_); clear F; clear a; intro a F
      with_reducible refine l_nil ?_
      with_reducible refine q_then ?_
      refine c_false F rfl rfl ?_
      with_reducible refine c_skip ?_
      with_reducible refine q_then ?_
      with_reducible refine c_region ?_
      refine stepD rfl F rfl (o_load1 M (F.ev rfl) (by repeat (first | exact .here | apply Has.there)) (by first | assumption | rfl) ?_); clear F; clear a; intro a F
      refine stepD rfl F rfl (o_move (F.ev rfl) ?_); clear F; clear a; intro a F
      refine stepD rfl F rfl (o_load1 M (F.ev rfl) (by repeat (first | exact .here | apply Has.there)) (by first | assumption | rfl) ?_); clear F; clear a; intro a F
      refine stepD rfl F rfl (s_len (F.ev rfl) ?_); clear F; clear a; intro a F
      refine stepD rfl F rfl (o_add (F.ev rfl) (F.ev rfl) rfl ?_); clear F; clear a; intro a F
      (refine stepD rfl F rfl (s_l (p := i + 1) (F.ev rfl) (F.ev rfl) (by simp; exact w_i64 (by omega) (by omega)) (by omega) ?_); clear F; clear a; intro a F)
      (refine stepN rfl F (o_store1 M (F.ev rfl) (F.ev rfl) rfl (by repeat (first | exact .here | apply Has.there)) (by rfl) (by repeat (first | exact .here | apply Upd.there)) ?_); clear F; clear M; intro w M a F)
      with_reducible refine l_nil ?_
      with_reducible refine q_inB ?_
      with_reducible refine q_then ?_
      exact ⟨_, by simp; omega, pre ++ [rest.take i], rest.drop (i + 1), l2, rfl, by simp; omega, by rw [hsp, hcut]; simp, h1, F.only [0, 1, 2, 3] rfl, M⟩
    · refine stepD rfl F rfl (o_not (F.ev rfl) ?_); clear F; clear a; intro a F
      with_reducible refine l_nil ?_
      with_reducible refine q_then ?_
      refine c_true F rfl rfl ?_
      with_reducible refine c_ret ?_
      with_reducible refine q_thenR ?_
      with_reducible refine q_inBR ?_
      with_reducible refine q_thenR ?_
      with_reducible refine q_inBR ?_
      with_reducible refine q_thenR ?_
      refine p_ret F rfl .nil ?_
      exact ⟨l2, _, M2, .inr ⟨_, h1⟩⟩
end Go.Proofs.YtadnpidadcgdcaaDoor

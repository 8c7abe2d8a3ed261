/-
  Texts joined: YN, YO, YP, WA, WB, WC, VD, Lib8, VE, VF, VG.
-/
import Derived.Test.YtilgoepokaaleaaGreatNoCircle5
/-! YN -/
namespace Go.Proofs.YtilgoepokaaleaaGreat
set_option linter.unusedVariables false
set_option linter.unusedSimpArgs false
open Go.RowKit
attribute [local irreducible] OpTo wpListIn Code.wpIn MW Cal
set_option maxHeartbeats 1000000 in
theorem indexR_c {v : Value} {ls : List RouV} (W : World) (hS : SlAt W 39 v ls.length (rosC ls)) (hls : ∀ l ∈ ls, IsRo l) (hlen : ls.length ≤ 1000) (g : FuncId) [hg : TBody Tryz.prog g] (caps : List Value) (p : RouV → Bool)
  (hcl : ∀ w l, Ext [] W w → l ∈ ls → Cal Tryz.prog g (.agg (roC l).toArray :: caps).toArray w fun v w' => v = .bool (p l) ∧ Ext [] w w') :
  Cal Tryz.prog 142 [v, .func (.func g) #[] caps.toArray].toArray W fun x w' => x = .int .i64 (findI p ls) ∧ Ext [] W w' := by
 obtain ⟨q, cap, rfl, hcap, hsp, hl, hm⟩ := hS
 refine fn_ofM (n := 19) [] Tryz.func142 rfl rfl rfl ?_
 intro a w F M hwW
 refine c_seq (c_region ?_)
 refine sD F (o_assign (F.e rfl) ?_);clear F a;intro a F
 with_reducible refine l_nil (q_then (c_seq (c_seq (c_region ?_))))
 refine sD F (o_move (F.e rfl) ?_);clear F a;intro a F
 refine sD F (o_lenSl (F.e rfl) ?_);clear F a;intro a F
 refine sD F (o_move (F.e rfl) ?_);clear F a;intro a F
 with_reducible refine l_nil (q_then (c_block ?_))
 refine c_loop (fun k a w => ∃ i : Nat, k = ls.length - i ∧ i ≤ ls.length ∧ (∀ j (hj : j < i) (hj2 : j < ls.length), p ls[j] = false) ∧ Frm a 19 [] [(8, .int .i64 i), (7, .int .i64 ls.length), (0, .slice q ls.length cap), (1, .func (.func g) #[] caps.toArray)] ∧ Mem [] W w []) ls.length ⟨0, rfl, by omega, by omega, F.only [8, 7, 0, 1] rfl, M⟩ ?_
 clear F M
 rintro k a w ⟨i, hk, hi, hno, F, M⟩
 by_cases hlt : i < ls.length
 ·obtain ⟨b, o, cs, t, fz, rfl, hb, hs⟩ := hm (by omega)
  have e1 : seg cs (o + (i : Int).toNat * 39) 39 = some (roC ls[i]) := seg_el (ros_len hls) hs hlt (by omega)
  refine c_seq (c_region ?_)
  refine sD F (o_lssT (F.e rfl) (F.e rfl) (by omega) ?_);clear F a;intro a F
  with_reducible refine l_nil (q_then (c_seq ?_))
  refine c_true F rfl rfl ?_
  with_reducible refine c_skip (q_then (c_seq (c_block (c_seq (c_region ?_)))))
  refine sD F (o_move (F.e rfl) ?_);clear F a;intro a F
  refine sD F (o_assign (F.e rfl) ?_);clear F a;intro a F
  with_reducible refine l_nil (q_then (c_seq (c_region ?_)))
  refine sD F (o_move (F.e rfl) ?_);clear F a;intro a F
  refine sD F (o_move (F.e rfl) ?_);clear F a;intro a F
  refine sD F (o_move (F.e rfl) ?_);clear F a;intro a F
  refine sD F (o_indexSl (F.e rfl) (F.e rfl) (by omega) (by omega) ?_);clear F a;intro a F
  refine sD F (o_loadWA M (F.e rfl) ‹_› (by first | assumption | rfl) ?_);clear F a;intro a F
  (refine sD F (o_callCl (us := (.agg (roC ls[i]).toArray :: caps).toArray) (F.e rfl) (F.evs rfl) (by simp) (Cal.mono (hcl _ ls[i] M.ext (List.getElem_mem hlt)) ?_));clear F;clear a;rintro _ w ⟨rfl, hE⟩ a F;replace M := M.later hE;clear hE)
  cases hp : p ls[i]
  ·rw [hp] at F
   with_reducible refine l_nil (q_then ?_)
   refine c_false F rfl rfl ?_
   with_reducible refine c_skip (q_inB (q_then (c_region ?_)))
   refine sD F (o_add (F.e rfl) (F.e rfl) (w_i64 (by omega) (by omega)) ?_);clear F a;intro a F
   refine sD F (o_move (F.e rfl) ?_);clear F a;intro a F
   with_reducible refine l_nil (q_then ?_)
   exact ⟨_, by omega, i + 1, rfl, by omega, fun j hj hj2 => by
    rcases Nat.lt_or_ge j i with h | h
    ·exact hno j h hj2
    ·obtain rfl : j = i := by omega
     exact hp, F.only [8, 7, 0, 1] rfl, M⟩
  ·rw [hp] at F
   with_reducible refine l_nil (q_then ?_)
   refine c_true F rfl rfl ?_
   refine c_seq (c_region ?_)
   refine sD F (o_move (F.e rfl) ?_);clear F a;intro a F
   refine sD F (o_assign (F.e rfl) ?_);clear F a;intro a F
   with_reducible refine l_nil (q_then (c_ret (q_inBR (q_thenR (q_thenR (q_inBR (q_thenR ?_)))))))
   refine p_ret F rfl (.cons (.tmp (F.e rfl)) .nil) ?_
   exact ⟨by rw [findI_at hlt hp fun j hj => hno j hj (by omega)];rfl, M.ext⟩
 ·obtain rfl : i = ls.length := by omega
  refine c_seq (c_region ?_)
  refine sD F (o_lssF (F.e rfl) (F.e rfl) (by omega) ?_);clear F a;intro a F
  with_reducible refine l_nil (q_then (c_seq ?_))
  refine c_false F rfl rfl ?_
  with_reducible refine c_exit (q_thenX (q_thenX (q_inBX (q_then (c_seq (c_region ?_))))))
  refine sD F (o_assign (F.e rfl) ?_);clear F a;intro a F
  with_reducible refine l_nil (q_then (c_ret ?_))
  refine p_ret F rfl (.cons (.tmp (F.e rfl)) .nil) ?_
  exact ⟨by rw [findI_none fun j hj => hno j hj hj];rfl, M.ext⟩
theorem filter_step {α : Type} {p : α → Bool} {ls : List α} {j : Nat} (h : j < ls.length) : (ls.take (j + 1)).filter p = (ls.take j).filter p ++ if p ls[j] = true then [ls[j]] else [] := by
 rw [List.take_add_one, List.getElem?_eq_getElem h, List.filter_append]
 simp only [Option.toList_some, List.filter_cons, List.filter_nil]
set_option maxHeartbeats 8000000 in
theorem deleteFuncR_c {ls : List RouV} (hI : ∀ x ∈ ls, IsRo x) (hlen : ls.length ≤ 1000) {b cap : Nat} {junk : List Value} (W : World) (hb : W.heap[b]? = some (.cells (rosC ls ++ junk).toArray 53 (0, 0))) (hjl : junk.length = (cap - ls.length) * 39) (hnc : ls.length ≤ cap) (g : FuncId) [hg : TBody Tryz.prog g] (caps : List Value) (p : RouV → Bool)
  (hcl : ∀ w x, Ext [b] W w → x ∈ ls → Cal Tryz.prog g (.agg (roC x).toArray :: caps).toArray w fun v w' => v = .bool (p x) ∧ Ext [] w w') :
  Cal Tryz.prog 124 [.slice (some ⟨b, 0, none⟩) ls.length cap, .func (.func g) #[] caps.toArray].toArray W fun r w' => ∃ junk' : List Value, r = .slice (some ⟨b, 0, none⟩) (ls.filter fun x => !p x).length cap ∧ junk'.length = (cap - (ls.filter fun x => !p x).length) * 39 ∧ (ls.filter fun x => !p x).length ≤ cap ∧ Mem [b] W w' [(b, .cells (rosC (ls.filter fun x => !p x) ++ junk').toArray 53 (0, 0))] := by
 have hsz : ∀ x ∈ ls, (roC x).length = 39 := ros_len hI
 refine fn_ofM (n := 42) [b] Tryz.func124 rfl rfl rfl ?_
 intro a w F M hwW
 replace M := M.came hwW hb (by simp) (by simp)
 have hO : OwnS 53 39 (.slice (some ⟨b, 0, none⟩) ls.length cap) ls.length (rosC ls) [(b, .cells (rosC ls ++ junk).toArray 53 (0, 0))] := .inr ⟨b, cap, junk, rfl, rfl, encL_len hsz, hjl, hnc⟩
 refine c_seq (c_region ?_)
 refine sD F (o_assign (F.e rfl) ?_);clear F a;intro a F
 with_reducible refine l_nil (q_then (c_seq (c_region ?_)))
 refine sD F (o_move (F.e rfl) ?_);clear F a;intro a F
 refine sD F (o_move (F.e rfl) ?_);clear F a;intro a F
 (refine sD F (o_call (F.e rfl) (F.evs rfl) (Cal.mono (indexR_c _ (hO.slAt M (fun q hq => hq)) hI hlen g caps p (fun w' x E hm => hcl w' x (M.ext.trans E.any) hm)) ?_));clear F;clear a;rintro _ w ⟨rfl, hE⟩ a F;replace M := M.later hE;clear hE)
 rcases findI_cases p ls with ⟨h1, h2⟩ | ⟨i, hi, h1, h2, h3⟩
 ·have hfl : (ls.filter fun x => !p x) = ls := List.filter_eq_self.2 fun x hx => by rw [h2 x hx];rfl
  rw [h1] at F
  rw [hfl]
  refine sD F (o_assign (F.e rfl) ?_);clear F a;intro a F
  with_reducible refine l_nil (q_then (c_seq (c_seq (c_region ?_))))
  refine sD F (o_move (F.e rfl) ?_);clear F a;intro a F
  refine sD F (o_eqlT (F.e rfl) (F.e rfl) (by omega) ?_);clear F a;intro a F
  with_reducible refine l_nil (q_then ?_)
  refine c_true F rfl rfl ?_
  refine c_seq (c_region ?_)
  refine sD F (o_move (F.e rfl) ?_);clear F a;intro a F
  refine sD F (o_assign (F.e rfl) ?_);clear F a;intro a F
  with_reducible refine l_nil (q_then (c_ret (q_thenR ?_)))
  refine p_ret F rfl (.cons (.tmp (F.e rfl)) .nil) ?_
  exact ⟨junk, rfl, hjl, hnc, M⟩
 rw [h1] at F
 have hf0 : (ls.take i).filter (fun x => !p x) = ls.take i := List.filter_eq_self.2 fun x hx => by
  obtain ⟨j, hj, rfl⟩ := List.mem_iff_getElem.1 hx
  rw [List.length_take] at hj
  rw [List.getElem_take, h3 j (by omega)];rfl
 have hf1 : (ls.take (i + 1)).filter (fun x => !p x) = ls.take i := by
  rw [filter_step hi, hf0, h2];simp
 refine sD F (o_assign (F.e rfl) ?_);clear F a;intro a F
 with_reducible refine l_nil (q_then (c_seq (c_seq (c_region ?_))))
 refine sD F (o_move (F.e rfl) ?_);clear F a;intro a F
 refine sD F (o_eqlF (F.e rfl) (F.e rfl) (by omega) ?_);clear F a;intro a F
 with_reducible refine l_nil (q_then ?_)
 refine c_false F rfl rfl ?_
 with_reducible refine c_skip (q_then (c_seq (c_seq (c_region ?_))))
 refine sD F (o_move (F.e rfl) ?_);clear F a;intro a F
 refine sD F (o_add (F.e rfl) (F.e rfl) (w_i64 (by omega) (by omega)) ?_);clear F a;intro a F
 refine sD F (o_assign (F.e rfl) ?_);clear F a;intro a F
 with_reducible refine l_nil (q_then (c_block ?_))
 refine c_loop (fun m a w => ∃ (i2 j : Nat) (cur : List RouV), m = ls.length - j ∧ i2 < j ∧ j ≤ ls.length ∧ cur.length = ls.length ∧ (∀ x ∈ cur, IsRo x) ∧ cur.take i2 = (ls.take j).filter (fun x => !p x) ∧ (∀ q, j ≤ q → cur[q]? = ls[q]?) ∧ Frm a 42 [] [(5, .int .i64 i2), (6, .int .i64 j), (0, .slice (some ⟨b, 0, none⟩) ls.length cap), (1, .func (.func g) #[] caps.toArray)] ∧ Mem [b] W w [(b, .cells (rosC cur ++ junk).toArray 53 (0, 0))]) (ls.length - (i + 1)) ⟨i, i + 1, ls, rfl, by omega, by omega, rfl, hI, hf1.symm, fun _ _ => rfl, F.only [5, 6, 0, 1] rfl, M⟩ ?_
 clear F M
 rintro m a w ⟨i2, j, cur, hm, hi2, hj, hcl2, hcI, hct, hcp, F, M⟩
 have hcs := ros_len hcI
 by_cases hlt : j < ls.length
 ·have e1 : cur[j] = ls[j] := by
   have := hcp j (by omega)
   rwa [List.getElem?_eq_getElem (by omega), List.getElem?_eq_getElem hlt, Option.some.injEq] at this
  have hst := filter_step (p := fun x => !p x) hlt
  have hxm : ls[j] ∈ ls := List.getElem_mem hlt
  have f1 : seg (rosC cur ++ junk) (0 + (j : Int).toNat * 39) 39 = some (roC ls[j]) := by rw [← e1];exact own_el hcs junk (by omega) (by omega)
  clear e1
  generalize ls[j] = x at *
  have x1 := ro_len (hI x hxm)
  have x2 := ro_all (hI x hxm)
  with_reducible refine c_seq (c_seq (c_region ?_))
  refine sD F (o_move (F.e rfl) ?_);clear F a;intro a F
  refine sD F (o_move (F.e rfl) ?_);clear F a;intro a F
  refine sD F (o_lenSl (F.e rfl) ?_);clear F a;intro a F
  refine sD F (o_lssT (F.e rfl) (F.e rfl) (by omega) ?_);clear F a;intro a F
  with_reducible refine l_nil (q_then ?_)
  refine c_true F rfl rfl ?_
  with_reducible refine c_skip (q_then (c_seq (c_block (c_seq (c_region ?_)))))
  refine sD F (o_move (F.e rfl) ?_);clear F a;intro a F
  refine sD F (o_move (F.e rfl) ?_);clear F a;intro a F
  refine sD F (o_indexSl (F.e rfl) (F.e rfl) (by omega) (by omega) ?_);clear F a;intro a F
  refine sD F (o_loadA M (F.e rfl) (by repeat constructor) (by first | assumption | rfl) ?_);clear F a;intro a F
  (refine sD F (o_alloc M ?_);clear F M;intro b7 w M a F)
  (refine stepN rfl F (o_storeA M (F.e rfl) (F.e rfl) (x1) (ro_one x)  (by repeat constructor)  (put_all (by rw [x1];rfl)) (by repeat constructor) ?_);clear F M;intro w M a F)
  with_reducible refine l_nil (q_then (c_seq (c_region ?_)))
  refine sD F (o_move (F.e rfl) ?_);clear F a;intro a F
  refine sD F (o_loadA M (F.e rfl) (by repeat constructor) (by first | assumption | rfl) ?_);clear F a;intro a F
  (refine sD F (o_callCl (us := (.agg (roC x).toArray :: caps).toArray) (F.e rfl) (F.evs rfl) (by simp) (Cal.mono (hcl _ x M.ext hxm) ?_));clear F;clear a;rintro _ w ⟨rfl, hE⟩ a F;replace M := M.later hE;clear hE)
  cases hp : p x
  ·rw [hp] at F
   rw [if_pos (by rw [hp];rfl)] at hst
   have hpt : put (rosC cur ++ junk) (0 + (i2 : Int).toNat * 39) (roC x) = some (rosC (cur.set i2 x) ++ junk) :=
    encL_put hcs junk (show i2 < cur.length by omega) (off := 0) (put_all (by rw [x1, hcs _ (List.getElem_mem _)])) (by omega)
   refine sD F (o_not (F.e rfl) ?_);clear F a;intro a F
   with_reducible refine l_nil (q_then ?_)
   refine c_true F rfl rfl ?_
   refine c_seq (c_region ?_)
   refine sD F (o_move (F.e rfl) ?_);clear F a;intro a F
   refine sD F (o_move (F.e rfl) ?_);clear F a;intro a F
   refine sD F (o_loadA M (F.e rfl) (by repeat constructor) (by first | assumption | rfl) ?_);clear F a;intro a F
   refine sD F (o_indexSl (F.e rfl) (F.e rfl) (by omega) (by omega) ?_);clear F a;intro a F
   (refine stepN rfl F (o_storeA M (F.e rfl) (F.e rfl) x1 (ro_one _)  (by repeat constructor)  hpt (by repeat constructor) ?_);clear F M;intro w M a F)
   with_reducible refine l_nil (q_then (c_region ?_))
   refine sD F (o_move (F.e rfl) ?_);clear F a;intro a F
   refine sD F (o_add (F.e rfl) (F.e rfl) (w_i64 (by omega) (by omega)) ?_);clear F a;intro a F
   refine sD F (o_assign (F.e rfl) ?_);clear F a;intro a F
   with_reducible refine l_nil (q_inB (q_then (c_region ?_)))
   refine sD F (o_move (F.e rfl) ?_);clear F a;intro a F
   refine sD F (o_add (F.e rfl) (F.e rfl) (w_i64 (by omega) (by omega)) ?_);clear F a;intro a F
   refine sD F (o_assign (F.e rfl) ?_);clear F a;intro a F
   with_reducible refine l_nil (q_then ?_)
   exact ⟨_, by omega, i2 + 1, j + 1, _, rfl, by omega, by omega, by rw [List.length_set];exact hcl2, mem_set hcI (hI x hxm), by rw [take_set_succ (by omega), hct, hst], fun q hq => by rw [List.getElem?_set_ne (by omega)];exact hcp q (by omega), F.only [5, 6, 0, 1] rfl, M.sub (.cons _ (.refl _))⟩
  ·rw [hp] at F
   rw [if_neg (by rw [hp];simp), List.append_nil] at hst
   refine sD F (o_not (F.e rfl) ?_);clear F a;intro a F
   with_reducible refine l_nil (q_then ?_)
   refine c_false F rfl rfl ?_
   with_reducible refine c_skip (q_inB (q_then (c_region ?_)))
   refine sD F (o_move (F.e rfl) ?_);clear F a;intro a F
   refine sD F (o_add (F.e rfl) (F.e rfl) (w_i64 (by omega) (by omega)) ?_);clear F a;intro a F
   refine sD F (o_assign (F.e rfl) ?_);clear F a;intro a F
   with_reducible refine l_nil (q_then ?_)
   exact ⟨_, by omega, i2, j + 1, cur, rfl, by omega, by omega, hcl2, hcI, by rw [hct, hst], fun q hq => hcp q (by omega), F.only [5, 6, 0, 1] rfl, M.sub (.cons _ (.refl _))⟩
 ·have hjl2 : j = ls.length := by omega
  rw [hjl2, List.take_length] at hct
  have hfl : (ls.filter fun x => !p x).length = i2 := by rw [← hct, List.length_take];omega
  with_reducible refine c_seq (c_seq (c_region ?_))
  refine sD F (o_move (F.e rfl) ?_);clear F a;intro a F
  refine sD F (o_move (F.e rfl) ?_);clear F a;intro a F
  refine sD F (o_lenSl (F.e rfl) ?_);clear F a;intro a F
  refine sD F (o_lssF (F.e rfl) (F.e rfl) (by omega) ?_);clear F a;intro a F
  with_reducible refine l_nil (q_then ?_)
  refine c_false F rfl rfl ?_
  with_reducible refine c_exit (q_thenX (q_thenX (q_inBX (q_then (c_seq (c_region ?_))))))
  refine sD F (o_move (F.e rfl) ?_);clear F a;intro a F
  refine sD F (o_move (F.e rfl) ?_);clear F a;intro a F
  (refine sD F (o_slL (F.e rfl) (F.e rfl) (by omega) (by omega) (by omega) ?_);clear F a;intro a F)
  simp only [Int.toNat_natCast] at F
  have hcl3 : (rosC cur ++ junk).length = cap * 39 := by rw [List.length_append, encL_len hcs, hjl, hcl2, ← Nat.add_mul];congr 1;omega
  (refine stepN rfl F (o_clear (sz := 39) M (F.e rfl) (by omega) rfl rfl .here (by rw [hcl3];omega) (fun vs => .here) ?_);clear F M;intro vs w hvs M a F)
  with_reducible refine l_nil (q_then (c_seq (c_region ?_)))
  refine sD F (o_move (F.e rfl) ?_);clear F a;intro a F
  refine sD F (o_move (F.e rfl) ?_);clear F a;intro a F
  (refine sD F (o_slH (F.e rfl) (F.e rfl) (by simp) (by omega) (by omega) ?_);clear F a;intro a F)
  simp only [Int.toNat_natCast] at F
  refine sD F (o_assign (F.e rfl) ?_);clear F a;intro a F
  with_reducible refine l_nil (q_then (c_ret ?_))
  refine p_ret F rfl (.cons (.tmp (F.e rfl)) .nil) ?_
  refine ⟨vs ++ (rosC cur ++ junk).drop (0 + i2 * 39 + vs.length), by rw [hfl];rfl, by rw [List.length_append, List.length_drop, hcl3, hvs, hfl];omega, by omega, ?_⟩
  have hsp : splice (rosC cur ++ junk) (0 + i2 * 39) vs = rosC (ls.filter fun x => !p x) ++ (vs ++ (rosC cur ++ junk).drop (0 + i2 * 39 + vs.length)) := by
   unfold splice
   rw [List.take_append_of_le_length (by rw [encL_len hcs];omega), Nat.zero_add, encL_take hcs, hct]
  rw [← hsp]
  exact M
set_option maxHeartbeats 2000000 in
theorem deleteFuncN_c (W : World) (g : FuncId) [hg : TBody Tryz.prog g] (caps : List Value) : Cal Tryz.prog 124 [.slice none 0 0, .func (.func g) #[] caps.toArray].toArray W fun r w' => r = .slice none 0 0 ∧ Ext [] W w' := by
 refine fn_ofM (n := 42) [] Tryz.func124 rfl rfl rfl ?_
 intro a w F M hwW
 refine c_seq (c_region ?_)
 refine sD F (o_assign (F.e rfl) ?_);clear F a;intro a F
 with_reducible refine l_nil (q_then (c_seq (c_region ?_)))
 refine sD F (o_move (F.e rfl) ?_);clear F a;intro a F
 refine sD F (o_move (F.e rfl) ?_);clear F a;intro a F
 (refine sD F (o_call (F.e rfl) (F.evs rfl) (Cal.mono (indexR_c (ls := []) _ (SlAt.nil _ _) (by simp) (by simp) g caps (fun _ => true) (fun w' x E hm => by cases hm)) ?_));clear F;clear a;rintro _ w ⟨rfl, hE⟩ a F;replace M := M.later hE;clear hE)
 rw [show findI (fun _ : RouV => true) [] = -1 from rfl] at F
 refine sD F (o_assign (F.e rfl) ?_);clear F a;intro a F
 with_reducible refine l_nil (q_then (c_seq (c_seq (c_region ?_))))
 refine sD F (o_move (F.e rfl) ?_);clear F a;intro a F
 refine sD F (o_eqlT (F.e rfl) (F.e rfl) (by omega) ?_);clear F a;intro a F
 with_reducible refine l_nil (q_then ?_)
 refine c_true F rfl rfl ?_
 refine c_seq (c_region ?_)
 refine sD F (o_move (F.e rfl) ?_);clear F a;intro a F
 refine sD F (o_assign (F.e rfl) ?_);clear F a;intro a F
 with_reducible refine l_nil (q_then (c_ret (q_thenR ?_)))
 refine p_ret F rfl (.cons (.tmp (F.e rfl)) .nil) ?_
 exact ⟨rfl, M.ext⟩
def withoutV (l : List RouV) (p : RouV → Bool) : List RouV := if validRs l then l.filter (fun x => !p x) else []
def forgetV (l : List RouV) (nb : Int) : List RouV := withoutV l fun x => x.nb == nb
def expireV (l : List RouV) (now : Int) : List RouV := if isTime now then withoutV l (fun x => decide (x.til ≤ now)) else []
set_option maxHeartbeats 4000000 in
theorem without_c (l : List RouV) (hx : ∀ x ∈ l, IsRo x) (v : Value) (W : World) (hS : SlAt W 39 v l.length (rosC l)) (g : FuncId) [hg : TBody Tryz.prog g] (caps : List Value) (p : RouV → Bool)
  (hcl : ∀ w x, Ext [] W w → x ∈ l → Cal Tryz.prog g (.agg (roC x).toArray :: caps).toArray w fun v w' => v = .bool (p x) ∧ Ext [] w w') :
  Cal Tryz.prog 81 [v, .func (.func g) #[] caps.toArray].toArray W fun r w' => ∃ ent, OwnS 53 39 r (withoutV l p).length (rosC (withoutV l p)) ent ∧ Mem [] W w' ent := by
 obtain ⟨q, cap, rfl, _⟩ := id hS
 refine fn_ofM (n := 12) [] Tryz.func81 rfl rfl rfl ?_
 intro a w F M hwW
 refine c_seq (c_region ?_)
 refine sD F (o_assign (F.e rfl) ?_);clear F a;intro a F
 with_reducible refine l_nil (q_then (c_seq (c_seq (c_region ?_))))
 refine sD F (o_move (F.e rfl) ?_);clear F a;intro a F
 (refine sD F (o_call (F.e rfl) (F.evs rfl) (Cal.mono (rtvalid_c l hx _ _ (hS.later M.ext)) ?_));clear F;clear a;rintro _ w ⟨rfl, hE⟩ a F;replace M := M.later hE;clear hE)
 unfold withoutV
 cases hv : validRs l
 ·rw [hv] at F
  rw [if_neg (by simp)]
  refine sD F (o_not (F.e rfl) ?_);clear F a;intro a F
  with_reducible refine l_nil (q_then ?_)
  refine c_true F rfl rfl ?_
  refine c_seq (c_region ?_)
  refine sD F (o_assign (F.e rfl) ?_);clear F a;intro a F
  with_reducible refine l_nil (q_then (c_ret (q_thenR ?_)))
  refine p_ret F rfl (.cons (.tmp (F.e rfl)) .nil) ?_
  exact ⟨[], OwnS.nil _ _, M⟩
 rw [hv] at F
 rw [if_pos rfl]
 have hl := (validRs_iff.1 hv).1
 refine sD F (o_not (F.e rfl) ?_);clear F a;intro a F
 with_reducible refine l_nil (q_then ?_)
 refine c_false F rfl rfl ?_
 with_reducible refine c_skip (q_then (c_seq (c_region ?_)))
 refine sD F (o_move (F.e rfl) ?_);clear F a;intro a F
 (refine sD F (o_call (F.e rfl) (F.evs rfl) (Cal.mono (cloneR_c l (by omega) _ _ (hS.later M.ext) ) ?_));clear F;clear a;rintro _ w ⟨es, hO, _, N⟩ a F;replace M := M.joins N;clear N)
 rcases hO with ⟨rfl, h0, _, rfl⟩ | ⟨b, cp, junk, rfl, rfl, hxl, hjl, hnc⟩
 ·obtain rfl : l = [] := List.length_eq_zero_iff.1 h0
  refine sD F (o_move (F.e rfl) ?_);clear F a;intro a F
  (refine sD F (o_call (F.e rfl) (F.evs rfl) (Cal.mono (deleteFuncN_c _ g caps) ?_));clear F;clear a;rintro _ w ⟨rfl, hE⟩ a F;replace M := M.later hE;clear hE)
  refine sD F (o_assign (F.e rfl) ?_);clear F a;intro a F
  with_reducible refine l_nil (q_then (c_ret ?_))
  refine p_ret F rfl (.cons (.tmp (F.e rfl)) .nil) ?_
  exact ⟨[], OwnS.nil _ _, M.sub (List.nil_sublist _)⟩
 have hbW : W.heap.size ≤ b := (M.own (b, Obj.cells (rosC l ++ junk).toArray 53 (0, 0)) (by simp)).resolve_left (by simp)
 have hEb : ∀ w' : World, Ext [b] w w' → Ext [] W w' := fun w' E => (M.ext.any.trans E).fresh fun k hk => .inr (by simp only [List.mem_singleton] at hk;rw [hk];exact hbW)
 refine sD F (o_move (F.e rfl) ?_);clear F a;intro a F
 (refine sD F (o_call (F.e rfl) (F.evs rfl) (Cal.mono (deleteFuncR_c hx (by omega) _ (M.heap .here) hjl hnc g caps p (fun w' x E hm => hcl w' x (hEb w' E) hm)) ?_));clear F;clear a;rintro _ w ⟨junk', rfl, hj1, hj2, N⟩ a F;replace M := M.turn1 N .here;clear N)
 refine sD F (o_assign (F.e rfl) ?_);clear F a;intro a F
 with_reducible refine l_nil (q_then (c_ret ?_))
 refine p_ret F rfl (.cons (.tmp (F.e rfl)) .nil) ?_
 exact ⟨[(b, _)], .inr ⟨b, cp, junk', rfl, rfl, encL_len (ros_len fun x hx' => hx x (List.mem_filter.1 hx').1), hj1, hj2⟩, M.sub (.cons_cons _ (List.nil_sublist _))⟩
theorem forget1_c (x : RouV) (hx : IsRo x) (nb : Int) {b : Nat} {t : TypeId} {ft : Nat × Nat} (W : World) (hb : W.heap[b]? = some (.cells [Value.int .u64 nb].toArray t ft)) : Cal Tryz.prog 82 [.agg (roC x).toArray, .pointer (some ⟨b, 0, none⟩)].toArray W fun v w' => v = .bool (x.nb == nb) ∧ Ext [] W w' := by
 have hb' : ∀ w', Ext [] W w' → w'.heap[b]? = some (.cells [Value.int .u64 nb].toArray t ft) := fun w' E => by rw [E.block b (Array.getElem?_eq_some_iff.1 hb).1 (by simp)];exact hb
 refine g_start (n := 8) (S := []) fldT_ok slcT_ok Tryz.func82 rfl rfl rfl ?_
 have h1 : nth [Value.int .u64 nb] 0 = some (.int .u64 nb) := rfl
 refine gR 2 rfl ?_
 refine g_box rfl rfl fun b2 => ?_
 refine gR 6 rfl ?_
 refine g_ld1 0 rfl rfl (ro_nb ‹_›) ?_
 refine g_le1 rfl ‹_› (by with_reducible assumption) ?_
 refine gR 5 rfl ?_
 refine g_ret1 rfl rfl rfl fun w M => ?_
 with_reducible exact ⟨rfl, M.ext⟩
theorem expire1_c (x : RouV) (hx : IsRo x) (now : Int) {b : Nat} {t : TypeId} {ft : Nat × Nat} (W : World) (hb : W.heap[b]? = some (.cells [Value.int .i64 now].toArray t ft)) : Cal Tryz.prog 83 [.agg (roC x).toArray, .pointer (some ⟨b, 0, none⟩)].toArray W fun v w' => v = .bool (decide (x.til ≤ now)) ∧ Ext [] W w' := by
 have hb' : ∀ w', Ext [] W w' → w'.heap[b]? = some (.cells [Value.int .i64 now].toArray t ft) := fun w' E => by rw [E.block b (Array.getElem?_eq_some_iff.1 hb).1 (by simp)];exact hb
 refine g_start (n := 8) (S := []) fldT_ok slcT_ok Tryz.func83 rfl rfl rfl ?_
 have h1 : nth [Value.int .i64 now] 0 = some (.int .i64 now) := rfl
 refine gR 2 rfl ?_
 refine g_box rfl rfl fun b2 => ?_
 refine gR 6 rfl ?_
 refine g_ld1 0 rfl rfl (ro_til ‹_›) ?_
 refine g_le1 rfl ‹_› (by with_reducible assumption) ?_
 refine gR 5 rfl ?_
 refine g_ret1 rfl rfl rfl fun w M => ?_
 with_reducible exact ⟨rfl, M.ext⟩
set_option maxHeartbeats 2000000 in
theorem forget_c (l : List RouV) (hx : ∀ x ∈ l, IsRo x) (v : Value) (nb : Int) (W : World) (hS : SlAt W 39 v l.length (rosC l)) :
  Cal Tryz.prog 32 [v, .int .u64 nb].toArray W fun r w' => ∃ ent, OwnS 53 39 r (forgetV l nb).length (rosC (forgetV l nb)) ent ∧ Mem [] W w' ent := by
 obtain ⟨q, cap, rfl, _⟩ := id hS
 refine fn_ofM (n := 8) [] Tryz.func32 rfl rfl rfl ?_
 intro a w F M hwW
 refine c_seq ?_
 refine c_region ?_
 (refine sD F (o_box M (F.e rfl) rfl ?_);clear F M;intro b3 w M a F)
 refine sD F (o_assign (F.e rfl) ?_);clear F a;intro a F
 with_reducible refine l_nil (q_then (c_seq (c_region ?_)))
 refine sD F (o_move (F.e rfl) ?_);clear F a;intro a F
 (refine sD F (o_makeFunc (F.evs (xs := []) rfl) (F.evs (xs := [.tmp 3]) rfl) ?_);clear F a;intro a F)
 (refine sD F (o_call (F.e rfl) (F.evs rfl) (Cal.mono (without_c l hx _ _ (hS.later M.ext) 82 [.pointer (some ⟨b3, 0, none⟩)] (fun x => x.nb == nb) (fun w' x E hm => forget1_c x (hx x hm) nb w' ((M.later E).heap .here))) ?_));clear F;clear a;rintro u w ⟨ent, hO, N⟩ a F;replace M := M.joins N)
 refine sD F (o_assign (F.e rfl) ?_);clear F a;intro a F
 with_reducible refine l_nil (q_then (c_ret ?_))
 refine p_ret F rfl (.cons (.tmp (F.e rfl)) .nil) ?_
 exact ⟨ent, hO, M.sub (List.sublist_append_left _ _)⟩
set_option maxHeartbeats 2000000 in
theorem expire_c (l : List RouV) (hx : ∀ x ∈ l, IsRo x) (v : Value) (now : Int) (W : World) (hS : SlAt W 39 v l.length (rosC l)) :
  Cal Tryz.prog 34 [v, .int .i64 now].toArray W fun r w' => ∃ ent, OwnS 53 39 r (expireV l now).length (rosC (expireV l now)) ent ∧ Mem [] W w' ent := by
 obtain ⟨q, cap, rfl, _⟩ := id hS
 unfold expireV
 refine fn_ofM (n := 11) [] Tryz.func34 rfl rfl rfl ?_
 intro a w F M hwW
 refine c_seq ?_
 refine c_region ?_
 (refine sD F (o_box M (F.e rfl) rfl ?_);clear F M;intro b3 w M a F)
 refine sD F (o_assign (F.e rfl) ?_);clear F a;intro a F
 with_reducible refine l_nil (q_then (c_seq (c_seq (c_region ?_))))
 refine sD F (o_load1 M (F.e rfl) (by repeat constructor) (by first | assumption | rfl) ?_);clear F a;intro a F
 (refine sD F (o_call (F.e rfl) (F.evs rfl) (Cal.mono (rtTime_c now _) ?_));clear F;clear a;rintro _ w ⟨rfl, hE⟩ a F;replace M := M.later hE;clear hE)
 cases ht : isTime now
 ·rw [ht] at F
  rw [if_neg (by simp)]
  refine sD F (o_not (F.e rfl) ?_);clear F a;intro a F
  with_reducible refine l_nil (q_then ?_)
  refine c_true F rfl rfl ?_
  refine c_seq (c_region ?_)
  refine sD F (o_assign (F.e rfl) ?_);clear F a;intro a F
  with_reducible refine l_nil (q_then (c_ret (q_thenR ?_)))
  refine p_ret F rfl (.cons (.tmp (F.e rfl)) .nil) ?_
  exact ⟨[], OwnS.nil _ _, M.sub (List.nil_sublist _)⟩
 rw [ht] at F
 rw [if_pos rfl]
 refine sD F (o_not (F.e rfl) ?_);clear F a;intro a F
 with_reducible refine l_nil (q_then ?_)
 refine c_false F rfl rfl ?_
 with_reducible refine c_skip (q_then (c_seq (c_region ?_)))
 refine sD F (o_move (F.e rfl) ?_);clear F a;intro a F
 (refine sD F (o_makeFunc (F.evs (xs := []) rfl) (F.evs (xs := [.tmp 3]) rfl) ?_);clear F a;intro a F)
 (refine sD F (o_call (F.e rfl) (F.evs rfl) (Cal.mono (without_c l hx _ _ (hS.later M.ext) 83 [.pointer (some ⟨b3, 0, none⟩)] (fun x => decide (x.til ≤ now)) (fun w' x E hm => expire1_c x (hx x hm) now w' ((M.later E).heap .here))) ?_));clear F;clear a;rintro u w ⟨ent, hO, N⟩ a F;replace M := M.joins N)
 refine sD F (o_assign (F.e rfl) ?_);clear F a;intro a F
 with_reducible refine l_nil (q_then (c_ret ?_))
 refine p_ret F rfl (.cons (.tmp (F.e rfl)) .nil) ?_
 exact ⟨ent, hO, M.sub (List.sublist_append_left _ _)⟩
end Go.Proofs.YtilgoepokaaleaaGreat
/-! YO -/
namespace Go.Proofs.YtilgoepokaaleaaGreat
set_option linter.unusedVariables false
set_option linter.unusedSimpArgs false
open Go.RowKit
attribute [local irreducible] OpTo wpListIn Code.wpIn MW Cal
section
variable {P : Program} {ρ : Operand → Value} {w W0 : World} {S : List Nat} {l : List (Nat × Obj)} {R : Value → World → Prop} {d : Option Tmp} {ty : TypeId} {pos : String} {af : Array Edge} {g : Option (Nat × Bool)}
/-- append where there is room -/
theorem o_appendIn {st xt e : TypeId} {x y : Operand} {sz by_ n m b cap : Nat} {xv : Value} {xs junk ys : List Value} [hst : TU P st (.slice e)] [hel : TEl P e sz by_] [hxt : TNI P xt] (M : Mem S W0 w ((b, .cells (xs ++ junk).toArray e (0, 0)) :: l)) (hxl : xs.length = n * sz) (hjl : junk.length = (cap - n) * sz) (hroom : n + m ≤ cap)
  (hx : ρ x = .slice (some ⟨b, 0, none⟩) n cap) (hy : ρ y = xv) (hX : SrcOf P w xv m sz ys) (h : ∀ w', Mem S W0 w' ((b, .cells (xs ++ ys ++ junk.drop (m * sz)).toArray e (0, 0)) :: l) → R (.slice (some ⟨b, 0, none⟩) (n + m) cap) w') : OpTo P ⟨d, .call ⟨.builtin .append, #[x, y], #[st, xt]⟩, ty, pos, af, g⟩ ρ w R := by
 obtain ⟨i, z, hi, rfl, rfl, hz, hzs⟩ := elB_spec hel.h
 have hdx := notInt_spec hxt.h
 have hlen : n * i.size + 0 + ys.length ≤ (xs ++ junk).length := by
  simp only [List.length_append, hxl, hjl, hX.size]
  rw [Nat.add_zero, ← Nat.add_mul, ← Nat.add_mul]
  exact Nat.mul_le_mul_right _ (by omega)
 obtain ⟨w', hr, he, hh⟩ := run_storeRow (P := P) (off := n * i.size) ys 0 (xs ++ junk) w (M.heap .here) hlen hX.one
 have hrun := run_append_room' (tyy := ty) hst.h hi hdx hX.len hroom (hX.cells w.drawn) hr
 have hsp : splice (xs ++ junk) (n * i.size + 0) ys = xs ++ ys ++ junk.drop (m * i.size) := by
  simp only [splice, Nat.add_zero, ← hxl, List.take_left', List.drop_append, hX.size]
  simp
 rw [hsp] at hh
 refine OpTo.val (v := .slice (some ⟨b, 0, none⟩) (n + m) cap) (w' := w') ?_ (h w' (M.turned .here he hh))
 simp [execOp, resolve, invoke, builtin, hx, hy, hrun]
/-- x[i:j:k] of a slice -/
theorem o_sl3 {t e : TypeId} {x i j c : Operand} {k k' k2 : IntKind} {b o len cap : Nat} {m n q : Int} (hx : ρ x = .slice (some ⟨b, o, none⟩) len cap) (hi : ρ i = .int k m) (hj : ρ j = .int k' n) (hc : ρ c = .int k2 q) [ht : TU P t (.slice e)] {sz : Nat} [hs : TSz P e sz] (h0 : 0 ≤ m) (h1 : m ≤ n) (h2 : n ≤ q) (h3 : m < q) (h4 : q ≤ cap) (h : ∀ v, R v w) : OpTo P ⟨d, .slice t x (some i) (some j) (some c), ty, pos, af, g⟩ ρ w R := by
 have h5 : 0 ≤ n := by omega
 have h6 : 0 ≤ q := by omega
 have h7 : m ≤ max n 0 := by omega
 have h8 : n ≤ max q 0 := by omega
 have h9 : ¬ q.toNat = m.toNat := by omega
 exact OpTo.val (v := .slice (some ⟨b, o + m.toNat * sz, none⟩) (n.toNat - m.toNat) (q.toNat - m.toNat)) (w' := w) (by simp [execOp, Instr.sliceAt, Instr.slice, Instr.sliceBounds, Instr.sliceBound, asIntOf, hx, hi, hj, hc, run_underlying ht.h, run_sizeOf hs.h, h0, h2, h4, h5, h6, h7, h8, h9, addr_add]) (h _)
end
/-- x[i:] of a slice, i up to its length -/
theorem slL_ex (P : Program) (b o : Nat) {len cap sz : Nat} {m : Int} (h0 : 0 ≤ m) (h1 : m ≤ len) (hlc : len ≤ cap) : ∃ q, (m < len → q = some ⟨b, o + m.toNat * sz, none⟩) ∧ ∀ {t e : TypeId} {x i : Operand} {k : IntKind} {d : Option Tmp} {ty : TypeId} {pos : String} {af : Array Edge} {g : Option (Nat × Bool)} {ρ : Operand → Value} {w : World} {R : Value → World → Prop} [_ht : TU P t (.slice e)] [_hs : TSz P e sz],
  ρ x = .slice (some ⟨b, o, none⟩) len cap → ρ i = .int k m → R (.slice q (len - m.toNat) (cap - m.toNat)) w → OpTo P ⟨d, .slice t x (some i) none none, ty, pos, af, g⟩ ρ w R := by
 by_cases hc : m < cap
 ·exact ⟨_, fun _ => rfl, fun hx hi hR => o_slL hx hi h0 h1 hc hR⟩
 ·have e1 : cap = m.toNat := by omega
  have e2 : len = m.toNat := by omega
  refine ⟨some ⟨b, o, none⟩, fun h => by omega, fun {t e x i k d ty pos af g ρ w R} ht hs hx hi hR => ?_⟩
  have h5 : ¬ (len : Int) < m := by omega
  exact OpTo.val (v := .slice (some ⟨b, o, none⟩) (len - m.toNat) (cap - m.toNat)) (w' := w) (by simp [execOp, Instr.sliceAt, Instr.slice, Instr.sliceBounds, Instr.sliceBound, asIntOf, hx, hi, run_underlying ht.h, run_sizeOf hs.h, h0, h1, h5, addr_add];omega) hR
theorem erase_at {α : Type} (l : List α) (i : Nat) : l.eraseIdx i = l.take i ++ l.drop (i + 1) := List.eraseIdx_eq_take_drop_succ l i
set_option maxHeartbeats 8000000 in
theorem deleteR_c {ls : List RouV} (hI : ∀ x ∈ ls, IsRo x) (hlen : ls.length ≤ 1000) {b cap : Nat} {junk : List Value} (W : World) (hb : W.heap[b]? = some (.cells (rosC ls ++ junk).toArray 53 (0, 0))) (hjl : junk.length = (cap - ls.length) * 39) (hnc : ls.length ≤ cap) (i : Nat) (hi : i < ls.length) :
  Cal Tryz.prog 79 [.slice (some ⟨b, 0, none⟩) ls.length cap, .int .i64 i, .int .i64 (i + 1)].toArray W fun r w' => ∃ junk' : List Value, r = .slice (some ⟨b, 0, none⟩) (ls.eraseIdx i).length cap ∧ junk'.length = (cap - (ls.eraseIdx i).length) * 39 ∧ (ls.eraseIdx i).length ≤ cap ∧ Mem [b] W w' [(b, .cells (rosC (ls.eraseIdx i) ++ junk').toArray 53 (0, 0))] := by
 have hsz : ∀ x ∈ ls, (roC x).length = 39 := ros_len hI
 have hel : (ls.eraseIdx i).length = ls.length - 1 := by rw [List.length_eraseIdx, if_pos hi]
 have hsp : ∀ k, rosC ls ++ junk = rosC (ls.take k) ++ (rosC (ls.drop k) ++ junk) := fun k => by
  show encL roC ls ++ junk = encL roC _ ++ (encL roC _ ++ junk)
  rw [← List.append_assoc, ← encL_app, List.take_append_drop]
 have hti : (rosC (ls.take i)).length = i * 39 := by rw [encL_len fun x hx => hsz x (List.mem_of_mem_take hx), List.length_take];congr 1;omega
 have htj : (rosC (ls.take (i + 1))).length = (i + 1) * 39 := by rw [encL_len fun x hx => hsz x (List.mem_of_mem_take hx), List.length_take];congr 1;omega
 have hdi : (rosC (ls.drop i)).length = (ls.length - i) * 39 := by rw [encL_len fun x hx => hsz x (List.mem_of_mem_drop hx), List.length_drop]
 have hdj : (rosC (ls.drop (i + 1))).length = (ls.length - (i + 1)) * 39 := by rw [encL_len fun x hx => hsz x (List.mem_of_mem_drop hx), List.length_drop]
 refine fn_ofM (n := 33) [b] Tryz.func79 rfl rfl rfl ?_
 intro a w F M hwW
 replace M := M.came hwW hb (by simp) (by simp)
 refine c_seq (c_region ?_)
 refine sD F (o_assign (F.e rfl) ?_);clear F a;intro a F
 with_reducible refine l_nil (q_then (c_seq (c_region ?_)))
 refine sD F (o_move (F.e rfl) ?_);clear F a;intro a F
 refine sD F (o_move (F.e rfl) ?_);clear F a;intro a F
 refine sD F (o_move (F.e rfl) ?_);clear F a;intro a F
 refine sD F (o_move (F.e rfl) ?_);clear F a;intro a F
 refine sD F (o_lenSl (F.e rfl) ?_);clear F a;intro a F
 (refine sD F (o_sl3 (F.e rfl) (F.e rfl) (F.e rfl) (F.e rfl) (by omega) (by omega) (by omega) (by omega) (by omega) ?_);clear F;intro v13 a F)
 with_reducible refine l_nil (q_then (c_seq (c_seq (c_region ?_))))
 refine sD F (o_move (F.e rfl) ?_);clear F a;intro a F
 refine sD F (o_move (F.e rfl) ?_);clear F a;intro a F
 refine sD F (o_eqlF (F.e rfl) (F.e rfl) (by omega) ?_);clear F a;intro a F
 with_reducible refine l_nil (q_then ?_)
 refine c_false F rfl rfl ?_
 with_reducible refine c_skip (q_then (c_seq (c_region ?_)))
 refine sD F (o_move (F.e rfl) ?_);clear F a;intro a F
 refine sD F (o_lenSl (F.e rfl) ?_);clear F a;intro a F
 refine sD F (o_assign (F.e rfl) ?_);clear F a;intro a F
 with_reducible refine l_nil (q_then (c_seq ?_))
 replace F := F.only [0, 1, 2, 7] rfl
 obtain ⟨q, hq, hqs⟩ := slL_ex Tryz.prog b 0 (len := ls.length) (cap := cap) (sz := 39) (m := (i : Int) + 1) (by omega) (by omega) hnc
 refine c_draw 6 F (by kernel_rfl) ?_
 intro w1 hE hok
 have M1 := M.later hE
 refine mK hok rfl rfl (fun a' w' F' E' => o_move (F'.e rfl) ⟨Ext.refl _ _, rfl⟩) ?_
 refine mK hok rfl rfl (fun a' w' F' E' => o_move (F'.e rfl) ⟨Ext.refl _ _, rfl⟩) ?_
 refine mK hok rfl rfl (fun a' w' F' E' => o_slH (F'.e rfl) (F'.e rfl) (by simp) (by omega) (by omega) ⟨Ext.refl _ _, rfl⟩) ?_
 refine mK hok rfl rfl (fun a' w' F' E' => o_move (F'.e rfl) ⟨Ext.refl _ _, rfl⟩) ?_
 refine mK hok rfl rfl (fun a' w' F' E' => o_move (F'.e rfl) ⟨Ext.refl _ _, rfl⟩) ?_
 refine mK hok rfl rfl (fun a' w' F' E' => hqs (F'.e rfl) (F'.e rfl) ⟨Ext.refl _ _, rfl⟩) ?_
 (refine mDone rfl rfl ?_;clear F M;intro a w F hE2 hX hTT hDD hPP;have M := M1.later hE2;clear M1;clear hX;clear hE2;clear hok;clear hE;clear hTT;clear hDD;clear hPP;(try dsimp only at F))
 simp only [Int.toNat_natCast] at F
 have hSl : SlAt w 39 (.slice q (ls.length - ((i : Int) + 1).toNat) (cap - ((i : Int) + 1).toNat)) (ls.length - (i + 1)) (rosC (ls.drop (i + 1))) := by
  refine ⟨q, _, by congr 1 <;> omega, by omega, fun _ _ => trivial, hdj, fun hpos => ⟨b, (i + 1) * 39, rosC ls ++ junk, _, _, by rw [hq (by omega)];congr 2;omega, M.heap .here, ?_⟩⟩
  rw [hsp (i + 1), ← htj, ← hdj]
  exact seg_of _ _ _
 have hX := hSl.src (P := Tryz.prog) (ros_one)
 rw [hsp i] at M
 (refine sD F (o_appendIn M hti (n := i) (cap := cap) (sz := 39) (by rw [List.length_append, hdi, hjl, ← Nat.add_mul];congr 1;omega) (by omega) (F.e rfl) (F.e rfl) hX ?_);clear F M;intro w M a F)
 have hn1 : i + (ls.length - (i + 1)) = ls.length - 1 := by omega
 rw [hn1] at F
 refine sD F (o_assign (F.e rfl) ?_);clear F a;intro a F
 with_reducible refine l_nil (q_then (c_seq (c_region ?_)))
 refine sD F (o_move (F.e rfl) ?_);clear F a;intro a F
 refine sD F (o_move (F.e rfl) ?_);clear F a;intro a F
 refine sD F (o_lenSl (F.e rfl) ?_);clear F a;intro a F
 refine sD F (o_move (F.e rfl) ?_);clear F a;intro a F
 (refine sD F (o_slLH (F.e rfl) (F.e rfl) (F.e rfl) (by omega) (by omega) (by omega) (by omega) ?_);clear F a;intro a F)
 simp only [Int.toNat_natCast] at F
 have hck : rosC (ls.take i) ++ rosC (ls.drop (i + 1)) = rosC (ls.eraseIdx i) := by rw [erase_at];exact (encL_app _ _ _).symm
 rw [hck] at M
 have hke : (rosC (ls.eraseIdx i)).length = (ls.length - 1) * 39 := by rw [← hck, List.length_append, hti, hdj, ← Nat.add_mul];congr 1
 obtain ⟨X, hX0⟩ : ∃ X, X = (rosC (ls.drop i) ++ junk).drop ((ls.length - (i + 1)) * 39) := ⟨_, rfl⟩
 have hXl : X.length = (cap - (ls.length - 1)) * 39 := by rw [hX0, List.length_drop, List.length_append, hdi, hjl, ← Nat.add_mul, ← Nat.sub_mul];congr 1;omega
 rw [← hX0] at M
 (refine stepN rfl F (o_clear (sz := 39) M (F.e rfl) (by omega) rfl rfl .here (by rw [List.length_append, hke, hXl, ← Nat.add_mul];omega) (fun vs => .here) ?_);clear F M;intro vs w hvs M a F)
 with_reducible refine l_nil (q_then (c_seq (c_region ?_)))
 refine sD F (o_move (F.e rfl) ?_);clear F a;intro a F
 refine sD F (o_assign (F.e rfl) ?_);clear F a;intro a F
 with_reducible refine l_nil (q_then (c_ret ?_))
 refine p_ret F rfl (.cons (.tmp (F.e rfl)) .nil) ?_
 have hs2 : splice (rosC (ls.eraseIdx i) ++ X) (0 + (ls.length - 1) * 39) vs = rosC (ls.eraseIdx i) ++ (vs ++ X.drop vs.length) := by
  unfold splice
  rw [Nat.zero_add, ← hke, List.take_left', List.drop_append]
  ·simp
  ·rfl
 refine ⟨vs ++ X.drop vs.length, by rw [hel];rfl, by rw [List.length_append, List.length_drop, hXl, hvs, hel];omega, by omega, ?_⟩
 rw [← hs2]
 exact M
end Go.Proofs.YtilgoepokaaleaaGreat
/-! YP -/
namespace Go.Proofs.YtilgoepokaaleaaGreat
set_option linter.unusedVariables false
set_option linter.unusedSimpArgs false
open Go.RowKit
attribute [local irreducible] OpTo wpListIn Code.wpIn MW Cal
set_option maxHeartbeats 8000000 in
theorem learnA_c (l : List RouV) (hx : ∀ x ∈ l, IsRo x) (v : Value) (now : Int) (t : DstV) (ht : IsDv t) (nb : Int) (d : DisV) (W : World) (hS : SlAt W 39 v l.length (rosC l)) :
  Cal Tryz.prog 31 [v, .int .i64 now, .agg (dvC t).toArray, .int .u64 nb, .agg (diC d).toArray].toArray W fun r w' => ∃ u ent, r = .tuple [u, .int .i64 (learnV l now t nb d).2].toArray ∧ OwnS 53 39 u (learnV l now t nb d).1.length (rosC (learnV l now t nb d).1) ent ∧ Mem [] W w' ent := by
 have e1 := dv_all ht
 have e2 := di_all (o := d) trivial
 have e3 := di_met (o := d) trivial
 refine fn_ofM (n := 82) [] Tryz.func31 rfl rfl rfl ?_
 intro a w F M hwW
 refine c_seq ?_
 refine c_region ?_
 (refine sD F (o_box M (F.e rfl) rfl ?_);clear F M;intro b7 w M a F)
 (refine sD F (o_box M (F.e rfl) rfl ?_);clear F M;intro b9 w M a F)
 refine sD F (o_assign (F.e rfl) ?_);clear F a;intro a F
 refine sD F (o_assign (F.e rfl) ?_);clear F a;intro a F
 with_reducible refine l_nil (q_then (c_seq (c_seq (c_region ?_))))
 refine sD F (o_move (F.e rfl) ?_);clear F a;intro a F
 (refine sD F (o_call (F.e rfl) (F.evs rfl) (Cal.mono (rtvalid_c l hx _ _ (hS.later M.ext)) ?_));clear F;clear a;rintro _ w ⟨rfl, hE⟩ a F;replace M := M.later hE;clear hE)
 cases c1 : validRs l
 ·have hL : learnV l now t nb d = ([], 1) := by unfold learnV;rw [c1];rfl
  rw [hL]
  rw [c1] at F
  refine sD F (o_not (F.e rfl) ?_);clear F a;intro a F
  refine sD F (o_move (F.e rfl) ?_);clear F a;intro a F
  refine sO F ?_;clear F a;intro a F
  refine sO F ?_;clear F a;intro a F
  refine sO F ?_;clear F a;intro a F
  refine sD F (o_pickT (F.e rfl) (F.e rfl) ?_);clear F a;intro a F
  refine sD F (o_move (F.e rfl) ?_);clear F a;intro a F
  refine sO F ?_;clear F a;intro a F
  refine sO F ?_;clear F a;intro a F
  refine sO F ?_;clear F a;intro a F
  refine sD F (o_pickT (F.e rfl) (F.e rfl) ?_);clear F a;intro a F
  refine sD F (o_move (F.e rfl) ?_);clear F a;intro a F
  refine sO F ?_;clear F a;intro a F
  refine sO F ?_;clear F a;intro a F
  refine sD F (o_pickT (F.e rfl) (F.e rfl) ?_);clear F a;intro a F
  with_reducible refine l_nil (q_then ?_)
  refine c_true F rfl rfl ?_
  refine c_seq (c_region ?_)
  refine sD F (o_assign (F.e rfl) ?_);clear F a;intro a F
  refine sD F (o_assign (F.e rfl) ?_);clear F a;intro a F
  with_reducible refine l_nil (q_then (c_ret (q_thenR ?_)))
  refine p_ret F rfl (.cons (.tmp (F.e rfl)) (.cons (.tmp (F.e rfl)) .nil)) ?_
  exact ⟨.slice none 0 0, [], rfl, OwnS.nil _ _, M.sub (List.nil_sublist _)⟩
 rw [c1] at F
 refine sD F (o_not (F.e rfl) ?_);clear F a;intro a F
 refine sD F (o_move (F.e rfl) ?_);clear F a;intro a F
 refine sG F (o_loadA M (F.e rfl) (by repeat constructor) (by first | assumption | rfl) ?_);clear F a;intro a F
 (refine sG F (o_call (F.e rfl) (F.evs rfl) (Cal.mono (validTo_c t ht _) ?_));clear F;clear a;rintro _ w ⟨rfl, hE⟩ a F;replace M := M.later hE;clear hE)
 cases c2 : validT t
 ·have hL : learnV l now t nb d = ([], 1) := by unfold learnV;rw [c1, c2];rfl
  rw [hL]
  rw [c2] at F
  refine sG F (o_not (F.e rfl) ?_);clear F a;intro a F
  refine sD F (o_pickF (F.e rfl) (F.e rfl) ?_);clear F a;intro a F
  refine sD F (o_move (F.e rfl) ?_);clear F a;intro a F
  refine sO F ?_;clear F a;intro a F
  refine sO F ?_;clear F a;intro a F
  refine sO F ?_;clear F a;intro a F
  refine sD F (o_pickT (F.e rfl) (F.e rfl) ?_);clear F a;intro a F
  refine sD F (o_move (F.e rfl) ?_);clear F a;intro a F
  refine sO F ?_;clear F a;intro a F
  refine sO F ?_;clear F a;intro a F
  refine sD F (o_pickT (F.e rfl) (F.e rfl) ?_);clear F a;intro a F
  with_reducible refine l_nil (q_then ?_)
  refine c_true F rfl rfl ?_
  refine c_seq (c_region ?_)
  refine sD F (o_assign (F.e rfl) ?_);clear F a;intro a F
  refine sD F (o_assign (F.e rfl) ?_);clear F a;intro a F
  with_reducible refine l_nil (q_then (c_ret (q_thenR ?_)))
  refine p_ret F rfl (.cons (.tmp (F.e rfl)) (.cons (.tmp (F.e rfl)) .nil)) ?_
  exact ⟨.slice none 0 0, [], rfl, OwnS.nil _ _, M.sub (List.nil_sublist _)⟩
 rw [c2] at F
 refine sG F (o_not (F.e rfl) ?_);clear F a;intro a F
 refine sD F (o_pickF (F.e rfl) (F.e rfl) ?_);clear F a;intro a F
 refine sD F (o_move (F.e rfl) ?_);clear F a;intro a F
 refine sG F (o_loadA M (F.e rfl) (by repeat constructor) (by first | assumption | rfl) ?_);clear F a;intro a F
 (refine sG F (o_call (F.e rfl) (F.evs rfl) (Cal.mono (sqvalid_c d _) ?_));clear F;clear a;rintro _ w ⟨rfl, hE⟩ a F;replace M := M.later hE;clear hE)
 cases c3 : validM d.met
 ·have hL : learnV l now t nb d = ([], 1) := by unfold learnV;rw [c1, c2, c3];rfl
  rw [hL]
  rw [c3] at F
  refine sG F (o_not (F.e rfl) ?_);clear F a;intro a F
  refine sD F (o_pickF (F.e rfl) (F.e rfl) ?_);clear F a;intro a F
  refine sD F (o_move (F.e rfl) ?_);clear F a;intro a F
  refine sO F ?_;clear F a;intro a F
  refine sO F ?_;clear F a;intro a F
  refine sD F (o_pickT (F.e rfl) (F.e rfl) ?_);clear F a;intro a F
  with_reducible refine l_nil (q_then ?_)
  refine c_true F rfl rfl ?_
  refine c_seq (c_region ?_)
  refine sD F (o_assign (F.e rfl) ?_);clear F a;intro a F
  refine sD F (o_assign (F.e rfl) ?_);clear F a;intro a F
  with_reducible refine l_nil (q_then (c_ret (q_thenR ?_)))
  refine p_ret F rfl (.cons (.tmp (F.e rfl)) (.cons (.tmp (F.e rfl)) .nil)) ?_
  exact ⟨.slice none 0 0, [], rfl, OwnS.nil _ _, M.sub (List.nil_sublist _)⟩
 rw [c3] at F
 by_cases c4 : nb = 0
 ·have hL : learnV l now t nb d = ([], 1) := by unfold learnV;rw [c1, c2, c3, decide_eq_true c4];rfl
  rw [hL]
  refine sG F (o_not (F.e rfl) ?_);clear F a;intro a F
  refine sD F (o_pickF (F.e rfl) (F.e rfl) ?_);clear F a;intro a F
  refine sD F (o_move (F.e rfl) ?_);clear F a;intro a F
  refine sG F (o_move (F.e rfl) ?_);clear F a;intro a F
  refine sG F (o_eqlT (F.e rfl) (F.e rfl) (by omega) ?_);clear F a;intro a F
  refine sD F (o_pickF (F.e rfl) (F.e rfl) ?_);clear F a;intro a F
  with_reducible refine l_nil (q_then ?_)
  refine c_true F rfl rfl ?_
  refine c_seq (c_region ?_)
  refine sD F (o_assign (F.e rfl) ?_);clear F a;intro a F
  refine sD F (o_assign (F.e rfl) ?_);clear F a;intro a F
  with_reducible refine l_nil (q_then (c_ret (q_thenR ?_)))
  refine p_ret F rfl (.cons (.tmp (F.e rfl)) (.cons (.tmp (F.e rfl)) .nil)) ?_
  exact ⟨.slice none 0 0, [], rfl, OwnS.nil _ _, M.sub (List.nil_sublist _)⟩
 refine sG F (o_not (F.e rfl) ?_);clear F a;intro a F
 refine sD F (o_pickF (F.e rfl) (F.e rfl) ?_);clear F a;intro a F
 refine sD F (o_move (F.e rfl) ?_);clear F a;intro a F
 refine sG F (o_move (F.e rfl) ?_);clear F a;intro a F
 refine sG F (o_eqlF (F.e rfl) (F.e rfl) (by omega) ?_);clear F a;intro a F
 refine sD F (o_pickF (F.e rfl) (F.e rfl) ?_);clear F a;intro a F
 with_reducible refine l_nil (q_then ?_)
 refine c_false F rfl rfl ?_
 with_reducible refine c_skip (q_then (c_seq (c_seq (c_region ?_))))
 refine sD F (o_move (F.e rfl) ?_);clear F a;intro a F
 (refine sD F (o_call (F.e rfl) (F.evs rfl) (Cal.mono (rtTime_c now _) ?_));clear F;clear a;rintro _ w ⟨rfl, hE⟩ a F;replace M := M.later hE;clear hE)
 cases c5 : isTime now
 ·have hL : learnV l now t nb d = ([], 2) := by unfold learnV;rw [c1, c2, c3, decide_eq_false c4, c5];rfl
  rw [hL]
  rw [c5] at F
  refine sD F (o_not (F.e rfl) ?_);clear F a;intro a F
  with_reducible refine l_nil (q_then ?_)
  refine c_true F rfl rfl ?_
  refine c_seq (c_region ?_)
  refine sD F (o_assign (F.e rfl) ?_);clear F a;intro a F
  refine sD F (o_assign (F.e rfl) ?_);clear F a;intro a F
  with_reducible refine l_nil (q_then (c_ret (q_thenR ?_)))
  refine p_ret F rfl (.cons (.tmp (F.e rfl)) (.cons (.tmp (F.e rfl)) .nil)) ?_
  exact ⟨.slice none 0 0, [], rfl, OwnS.nil _ _, M.sub (List.nil_sublist _)⟩
 rw [c5] at F
 obtain ⟨hl512, _, hasc⟩ := validRs_iff.1 c1
 have hnw := c5
 simp only [isTime, Bool.and_eq_true, decide_eq_true_eq] at hnw
 obtain ⟨x, hx0⟩ : ∃ x : RouV, x = ⟨t, nb, d, laterV now 10⟩ := ⟨_, rfl⟩
 have hL : learnV l now t nb d = if 512 < (putR l x (decide (d.met = inf))).length then ([], 10) else (putR l x (decide (d.met = inf)), 0) := by
  unfold learnV
  rw [c1, c2, c3, decide_eq_false c4, c5, ← hx0]
  rfl
 have hxx : IsRo x := by rw [hx0];exact ⟨ht, trivial⟩
 have hb : putAll [(0, 35), (35, 1), (36, 2), (38, 1)] roZ [(0, dvC t), (1, [.int .u64 nb]), (2, diC d), (3, [.int .i64 (laterV now 10)])] = some (roC x) := by rw [hx0];exact ro_build (o := ⟨t, nb, d, laterV now 10⟩) ⟨ht, trivial⟩
 have hmono : ∀ j k (hj : j < k) (hk : k < l.length), cmpR l[j] l[k] < 0 := fun j k hj hk => (List.pairwise_iff_getElem.1 hasc) j k (by omega) hk hj
 have hszs : ∀ z ∈ l, (roC z).length = 39 := ros_len hx
 refine sD F (o_not (F.e rfl) ?_);clear F a;intro a F
 with_reducible refine l_nil (q_then ?_)
 refine c_false F rfl rfl ?_
 with_reducible refine c_skip (q_then (c_seq ?_))
 replace F := F.only [0, 1, 3, 7, 9, 10, 11] rfl
 refine c_draw 7 F (by kernel_rfl) ?_
 intro w1 hE hok
 have M1 := M.later hE
 refine mK hok rfl rfl (fun a' w' F' E' => o_loadA (M1.later E') (F'.e rfl) (by repeat constructor) (by first | assumption | rfl) ⟨Ext.refl _ _, rfl⟩) ?_
 refine mK hok rfl rfl (fun a' w' F' E' => o_move (F'.e rfl) ⟨Ext.refl _ _, rfl⟩) ?_
 refine mK hok rfl rfl (fun a' w' F' E' => o_loadA (M1.later E') (F'.e rfl) (by repeat constructor) (by first | assumption | rfl) ⟨Ext.refl _ _, rfl⟩) ?_
 refine mK hok rfl rfl (fun a' w' F' E' => o_move (F'.e rfl) ⟨Ext.refl _ _, rfl⟩) ?_
 (refine mK hok rfl rfl (fun a' w' F' E' => o_call (F'.e rfl) (F'.evs rfl) (Cal.mono (rlater_c now 10 hnw.1 hnw.2 (by omega) (by omega) _) fun _ _ hh => ⟨hh.2, hh.1⟩)) ?_)
 refine mK hok rfl rfl (fun a' w' F' E' => o_build F' rfl ‹_› ⟨Ext.refl _ _, rfl⟩) ?_
 refine mAl hok rfl rfl (Al.stays _ _) (fun w => Ext.alloc w _) (fun a' w' F' E' => run_al) ?_
 (refine mDone rfl rfl ?_;clear F M;intro a w F hE2 hX hTT hDD hPP;have M := M1.later hE2;(try dsimp only at F);obtain ⟨b12, e_b12, g_b12, q_b12⟩ := hX 6 _ rfl;replace F := F.know (d := 12) e_b12;replace M := Mem.al (pre := []) M M1 q_b12 g_b12 (by intro p hp;cases hp);clear M1;clear hX;clear hE2;clear hok;clear hE;clear hTT;clear hDD;clear hPP;clear e_b12;clear g_b12;clear q_b12;(try dsimp only [ptrTo] at F);(try simp only [List.cons_append, List.nil_append] at M))
 (refine stepN rfl F (o_storeA M (F.e rfl) (F.e rfl) (ro_len hxx) (ro_one x)  (by repeat constructor)  (put_all (by rw [ro_len hxx];rfl)) (by repeat constructor) ?_);clear F M;intro w M a F)
 have e5 := ro_all hxx
 with_reducible refine l_nil (q_then (c_seq (c_region ?_)))
 refine sD F (o_move (F.e rfl) ?_);clear F a;intro a F
 refine sD F (o_loadA M (F.e rfl) (by repeat constructor) (by first | assumption | rfl) ?_);clear F a;intro a F
 (refine sD F (o_call (F.e rfl) (F.evs rfl) (Cal.mono (bsearchR_c l hx x hxx (by omega) hmono _ _ (hS.later M.ext)) ?_));clear F;clear a;rintro _ w ⟨i, rfl, hP, hE⟩ a F;replace M := M.later hE;clear hE)
 refine sD F (o_move (F.e rfl) ?_);clear F a;intro a F
 refine sD F (o_extract (F.e rfl) rfl ?_);clear F a;intro a F
 refine sD F (o_extract (F.e rfl) rfl ?_);clear F a;intro a F
 refine sD F (o_assign (F.e rfl) ?_);clear F a;intro a F
 refine sD F (o_assign (F.e rfl) ?_);clear F a;intro a F
 with_reducible refine l_nil (q_then (c_seq (c_region ?_)))
 refine sD F (o_move (F.e rfl) ?_);clear F a;intro a F
 (refine sD F (o_call (F.e rfl) (F.evs rfl) (Cal.mono (cloneR_c l (by omega) v _ (hS.later M.ext) ) ?_));clear F;clear a;rintro _ w ⟨ent, hO, _, N⟩ a F;replace M := M.joins N;clear N)
 obtain ⟨p0, c0, rfl⟩ := hO.slice
 replace M := M.perm (l' := (b12, .cells (roC x).toArray 53 (0, 0)) :: (b9, .cells (diC d).toArray 48 (0, 0)) :: (b7, .cells (dvC t).toArray 45 (0, 0)) :: ent) (by classical exact List.perm_iff_count.2 fun _ => by simp only [List.count_append, List.count_cons, List.count_nil, Nat.add_zero, Nat.zero_add] <;> ac_rfl)
 by_cases hd : d.met = inf
 ·have hd' : d.met = 65535 := hd
  rw [decide_eq_true hd] at hL
  cases hf : fndR l x i
  ·rw [hf] at F
   have hhi := hP.miss hf hasc
   have hput : putR l x true = l := by unfold putR;rw [hP.low, hhi];exact List.take_append_drop i l
   rw [hput, if_neg (by omega)] at hL
   rw [hL]
   refine sD F (o_assign (F.e rfl) ?_);clear F a;intro a F
   with_reducible refine l_nil (q_then (c_seq (c_block (c_seq (c_region ?_)))))
   refine sD F (o_fieldAddr (F.e rfl) ?_);clear F a;intro a F
   refine sD F (o_load1 M (F.e rfl) (by repeat constructor) (by first | assumption | rfl) ?_);clear F a;intro a F
   refine sD F (o_eqlT (F.e rfl) (F.e rfl) (by omega) ?_);clear F a;intro a F
   refine sD F (o_move (F.e rfl) ?_);clear F a;intro a F
   refine sG F (o_move (F.e rfl) ?_);clear F a;intro a F
   refine sD F (o_pickT (F.e rfl) (F.e rfl) ?_);clear F a;intro a F
   refine sD F (o_assign (F.e rfl) ?_);clear F a;intro a F
   with_reducible refine l_nil (q_then ?_)
   refine c_false F rfl rfl ?_
   refine c_seq (c_region ?_)
   refine sD F (o_fieldAddr (F.e rfl) ?_);clear F a;intro a F
   refine sD F (o_load1 M (F.e rfl) (by repeat constructor) (by first | assumption | rfl) ?_);clear F a;intro a F
   refine sD F (o_eqlT (F.e rfl) (F.e rfl) (by omega) ?_);clear F a;intro a F
   refine sD F (o_assign (F.e rfl) ?_);clear F a;intro a F
   with_reducible refine l_nil (q_then ?_)
   refine c_true F rfl rfl ?_
   with_reducible refine c_skip (q_inB (q_then (c_seq (c_region ?_))))
   refine sD F (o_move (F.e rfl) ?_);clear F a;intro a F
   refine sD F (o_assign (F.e rfl) ?_);clear F a;intro a F
   refine sD F (o_assign (F.e rfl) ?_);clear F a;intro a F
   with_reducible refine l_nil (q_then (c_ret ?_))
   refine p_ret F rfl (.cons (.tmp (F.e rfl)) (.cons (.tmp (F.e rfl)) .nil)) ?_
   exact ⟨_, ent, rfl, hO, M.sub (List.sublist_append_right [_, _, _] _)⟩
  ·rw [hf] at F
   obtain ⟨hil, h0, hhi⟩ := hP.hit hf hasc
   have hput : putR l x true = l.eraseIdx i := by unfold putR;rw [hP.low, hhi, erase_at];rfl
   rw [hput, if_neg (by rw [List.length_eraseIdx, if_pos hil];omega)] at hL
   rw [hL]
   rcases hO with ⟨_, h0', _, _⟩ | ⟨bO, cO, junk, hvO, rfl, hxl, hjl, hnc⟩
   ·omega
   cases hvO
   replace M := M.perm (l' := (bO, .cells (rosC l ++ junk).toArray 53 (0, 0)) :: (b12, .cells (roC x).toArray 53 (0, 0)) :: (b9, .cells (diC d).toArray 48 (0, 0)) :: (b7, .cells (dvC t).toArray 45 (0, 0)) :: []) (by classical exact List.perm_iff_count.2 fun _ => by simp only [List.count_append, List.count_cons, List.count_nil, Nat.add_zero, Nat.zero_add] <;> ac_rfl)
   refine sD F (o_assign (F.e rfl) ?_);clear F a;intro a F
   with_reducible refine l_nil (q_then (c_seq (c_block (c_seq (c_region ?_)))))
   refine sD F (o_fieldAddr (F.e rfl) ?_);clear F a;intro a F
   refine sD F (o_load1 M (F.e rfl) (by repeat constructor) (by first | assumption | rfl) ?_);clear F a;intro a F
   refine sD F (o_eqlT (F.e rfl) (F.e rfl) (by omega) ?_);clear F a;intro a F
   refine sD F (o_move (F.e rfl) ?_);clear F a;intro a F
   refine sG F (o_move (F.e rfl) ?_);clear F a;intro a F
   refine sD F (o_pickT (F.e rfl) (F.e rfl) ?_);clear F a;intro a F
   refine sD F (o_assign (F.e rfl) ?_);clear F a;intro a F
   with_reducible refine l_nil (q_then ?_)
   refine c_true F rfl rfl ?_
   refine c_region ?_
   refine sD F (o_move (F.e rfl) ?_);clear F a;intro a F
   refine sD F (o_move (F.e rfl) ?_);clear F a;intro a F
   refine sD F (o_move (F.e rfl) ?_);clear F a;intro a F
   refine sD F (o_add (F.e rfl) (F.e rfl) (w_i64 (by omega) (by omega)) ?_);clear F a;intro a F
   (refine sD F (o_call (F.e rfl) (F.evs rfl) (Cal.mono (deleteR_c hx (by omega) _ (M.heap .here) hjl hnc i hil) ?_));clear F;clear a;rintro _ w ⟨junk', rfl, hj1, hj2, N⟩ a F;replace M := M.turn1 N .here;clear N)
   refine sD F (o_assign (F.e rfl) ?_);clear F a;intro a F
   with_reducible refine l_nil (q_inB (q_then (c_seq (c_region ?_))))
   refine sD F (o_move (F.e rfl) ?_);clear F a;intro a F
   refine sD F (o_assign (F.e rfl) ?_);clear F a;intro a F
   refine sD F (o_assign (F.e rfl) ?_);clear F a;intro a F
   with_reducible refine l_nil (q_then (c_ret ?_))
   refine p_ret F rfl (.cons (.tmp (F.e rfl)) (.cons (.tmp (F.e rfl)) .nil)) ?_
   exact ⟨_, [(bO, _)], rfl, .inr ⟨bO, c0, junk', rfl, rfl, encL_len (ros_len fun y hy => hx y ((List.eraseIdx_sublist l i).subset hy)), hj1, hj2⟩, M.sub (.cons_cons _ (List.nil_sublist _))⟩
 have hd' : ¬ d.met = 65535 := hd
 rw [decide_eq_false hd] at hL
 cases hf : fndR l x i
 ·rw [hf] at F
  have hhi := hP.miss hf hasc
  have hput : putR l x false = l.take i ++ x :: l.drop i := by unfold putR;rw [hP.low, hhi];rfl
  have hPle := hP.le
  have hlz : (l.take i ++ x :: l.drop i).length = l.length + 1 := by simp;omega
  rw [hput, hlz] at hL
  by_cases c8 : 512 ≤ l.length
  ·rw [if_pos (by omega)] at hL
   rw [hL]
   refine sD F (o_assign (F.e rfl) ?_);clear F a;intro a F
   with_reducible refine l_nil (q_then (c_seq (c_block (c_seq (c_region ?_)))))
   refine sD F (o_fieldAddr (F.e rfl) ?_);clear F a;intro a F
   refine sD F (o_load1 M (F.e rfl) (by repeat constructor) (by first | assumption | rfl) ?_);clear F a;intro a F
   refine sD F (o_eqlF (F.e rfl) (F.e rfl) (by omega) ?_);clear F a;intro a F
   refine sD F (o_move (F.e rfl) ?_);clear F a;intro a F
   refine sO F ?_;clear F a;intro a F
   refine sD F (o_pickF (F.e rfl) (F.e rfl) ?_);clear F a;intro a F
   refine sD F (o_assign (F.e rfl) ?_);clear F a;intro a F
   with_reducible refine l_nil (q_then ?_)
   refine c_false F rfl rfl ?_
   refine c_seq (c_region ?_)
   refine sD F (o_fieldAddr (F.e rfl) ?_);clear F a;intro a F
   refine sD F (o_load1 M (F.e rfl) (by repeat constructor) (by first | assumption | rfl) ?_);clear F a;intro a F
   refine sD F (o_eqlF (F.e rfl) (F.e rfl) (by omega) ?_);clear F a;intro a F
   refine sD F (o_assign (F.e rfl) ?_);clear F a;intro a F
   with_reducible refine l_nil (q_then ?_)
   refine c_false F rfl rfl ?_
   refine c_seq (c_region ?_)
   refine sD F (o_move (F.e rfl) ?_);clear F a;intro a F
   refine sD F (o_assign (F.e rfl) ?_);clear F a;intro a F
   with_reducible refine l_nil (q_then ?_)
   refine c_false F rfl rfl ?_
   refine c_seq (c_region ?_)
   refine sD F (o_move (F.e rfl) ?_);clear F a;intro a F
   refine sD F (o_lenSl (F.e rfl) ?_);clear F a;intro a F
   refine sD F (o_geqT (F.e rfl) (F.e rfl) (by omega) ?_);clear F a;intro a F
   refine sD F (o_assign (F.e rfl) ?_);clear F a;intro a F
   with_reducible refine l_nil (q_then ?_)
   refine c_true F rfl rfl ?_
   refine c_seq (c_region ?_)
   refine sD F (o_assign (F.e rfl) ?_);clear F a;intro a F
   refine sD F (o_assign (F.e rfl) ?_);clear F a;intro a F
   with_reducible refine l_nil (q_then (c_ret (q_inBR (q_thenR ?_))))
   refine p_ret F rfl (.cons (.tmp (F.e rfl)) (.cons (.tmp (F.e rfl)) .nil)) ?_
   exact ⟨.slice none 0 0, [], rfl, OwnS.nil _ _, M.sub (List.nil_sublist _)⟩
  ·rw [if_neg (by omega)] at hL
   rw [hL]
   refine sD F (o_assign (F.e rfl) ?_);clear F a;intro a F
   with_reducible refine l_nil (q_then (c_seq (c_block (c_seq (c_region ?_)))))
   refine sD F (o_fieldAddr (F.e rfl) ?_);clear F a;intro a F
   refine sD F (o_load1 M (F.e rfl) (by repeat constructor) (by first | assumption | rfl) ?_);clear F a;intro a F
   refine sD F (o_eqlF (F.e rfl) (F.e rfl) (by omega) ?_);clear F a;intro a F
   refine sD F (o_move (F.e rfl) ?_);clear F a;intro a F
   refine sO F ?_;clear F a;intro a F
   refine sD F (o_pickF (F.e rfl) (F.e rfl) ?_);clear F a;intro a F
   refine sD F (o_assign (F.e rfl) ?_);clear F a;intro a F
   with_reducible refine l_nil (q_then ?_)
   refine c_false F rfl rfl ?_
   refine c_seq (c_region ?_)
   refine sD F (o_fieldAddr (F.e rfl) ?_);clear F a;intro a F
   refine sD F (o_load1 M (F.e rfl) (by repeat constructor) (by first | assumption | rfl) ?_);clear F a;intro a F
   refine sD F (o_eqlF (F.e rfl) (F.e rfl) (by omega) ?_);clear F a;intro a F
   refine sD F (o_assign (F.e rfl) ?_);clear F a;intro a F
   with_reducible refine l_nil (q_then ?_)
   refine c_false F rfl rfl ?_
   refine c_seq (c_region ?_)
   refine sD F (o_move (F.e rfl) ?_);clear F a;intro a F
   refine sD F (o_assign (F.e rfl) ?_);clear F a;intro a F
   with_reducible refine l_nil (q_then ?_)
   refine c_false F rfl rfl ?_
   refine c_seq (c_region ?_)
   refine sD F (o_move (F.e rfl) ?_);clear F a;intro a F
   refine sD F (o_lenSl (F.e rfl) ?_);clear F a;intro a F
   refine sD F (o_geqF (F.e rfl) (F.e rfl) (by omega) ?_);clear F a;intro a F
   refine sD F (o_assign (F.e rfl) ?_);clear F a;intro a F
   with_reducible refine l_nil (q_then ?_)
   refine c_false F rfl rfl ?_
   refine c_region ?_
   refine sD F (o_move (F.e rfl) ?_);clear F a;intro a F
   refine sD F (o_move (F.e rfl) ?_);clear F a;intro a F
   refine sD F (o_loadA M (F.e rfl) (by repeat constructor) (by first | assumption | rfl) ?_);clear F a;intro a F
   (refine sD F (o_buildSlice F M rfl rfl rfl (ro_build1 hxx) ?_);clear F M;intro b53 w M a F)
   (refine sD F (o_call (F.e rfl) (F.evs rfl) (Cal.mono (insertR_c i hPle (vb := b53) (roC x) (ro_len hxx) ros_one (ro_one x) _ M hO (.cons (.cons (.cons (.cons .here)))) .here (fun q hq e => (List.nodup_cons.1 M.nd).1 (List.mem_map.2 ⟨q, by simp [hq], e⟩)) (by omega)) ?_));clear F;clear a;clear M;rintro u w ⟨ent2, hO9, M⟩ a F)
   refine sD F (o_assign (F.e rfl) ?_);clear F a;intro a F
   with_reducible refine l_nil (q_inB (q_then (c_seq (c_region ?_))))
   refine sD F (o_move (F.e rfl) ?_);clear F a;intro a F
   refine sD F (o_assign (F.e rfl) ?_);clear F a;intro a F
   refine sD F (o_assign (F.e rfl) ?_);clear F a;intro a F
   with_reducible refine l_nil (q_then (c_ret ?_))
   refine p_ret F rfl (.cons (.tmp (F.e rfl)) (.cons (.tmp (F.e rfl)) .nil)) ?_
   refine ⟨u, ent2, rfl, ?_, M.sub (List.sublist_append_right [_, _, _, _] _)⟩
   rw [hlz]
   show OwnS _ 39 _ _ (encL roC (l.take i ++ x :: l.drop i)) _
   rw [encL_app, encL_cons, ← encL_take hszs, ← encL_drop hszs]
   exact hO9
 ·rw [hf] at F
  obtain ⟨hil, h0, hhi⟩ := hP.hit hf hasc
  have hput : putR l x false = l.set i x := by unfold putR;rw [hP.low, hhi, List.set_eq_take_append_cons_drop, if_pos hil];rfl
  rw [hput, if_neg (by rw [List.length_set];omega)] at hL
  rw [hL]
  rcases hO with ⟨_, h0', _, _⟩ | ⟨bO, cO, junk, hvO, rfl, hxl, hjl, hnc⟩
  ·omega
  cases hvO
  have hpt : put (roC l[i]) 0 (roC x) = some (roC x) := put_all (by rw [ro_len hxx, hszs _ (List.getElem_mem hil)])
  refine sD F (o_assign (F.e rfl) ?_);clear F a;intro a F
  with_reducible refine l_nil (q_then (c_seq (c_block (c_seq (c_region ?_)))))
  refine sD F (o_fieldAddr (F.e rfl) ?_);clear F a;intro a F
  refine sD F (o_load1 M (F.e rfl) (by repeat constructor) (by first | assumption | rfl) ?_);clear F a;intro a F
  refine sD F (o_eqlF (F.e rfl) (F.e rfl) (by omega) ?_);clear F a;intro a F
  refine sD F (o_move (F.e rfl) ?_);clear F a;intro a F
  refine sO F ?_;clear F a;intro a F
  refine sD F (o_pickF (F.e rfl) (F.e rfl) ?_);clear F a;intro a F
  refine sD F (o_assign (F.e rfl) ?_);clear F a;intro a F
  with_reducible refine l_nil (q_then ?_)
  refine c_false F rfl rfl ?_
  refine c_seq (c_region ?_)
  refine sD F (o_fieldAddr (F.e rfl) ?_);clear F a;intro a F
  refine sD F (o_load1 M (F.e rfl) (by repeat constructor) (by first | assumption | rfl) ?_);clear F a;intro a F
  refine sD F (o_eqlF (F.e rfl) (F.e rfl) (by omega) ?_);clear F a;intro a F
  refine sD F (o_assign (F.e rfl) ?_);clear F a;intro a F
  with_reducible refine l_nil (q_then ?_)
  refine c_false F rfl rfl ?_
  refine c_seq (c_region ?_)
  refine sD F (o_move (F.e rfl) ?_);clear F a;intro a F
  refine sD F (o_assign (F.e rfl) ?_);clear F a;intro a F
  with_reducible refine l_nil (q_then ?_)
  refine c_true F rfl rfl ?_
  refine c_region ?_
  refine sD F (o_move (F.e rfl) ?_);clear F a;intro a F
  refine sD F (o_move (F.e rfl) ?_);clear F a;intro a F
  refine sD F (o_loadA M (F.e rfl) (by repeat constructor) (by first | assumption | rfl) ?_);clear F a;intro a F
  refine sD F (o_indexSl (F.e rfl) (F.e rfl) (by omega) (by omega) ?_);clear F a;intro a F
  (refine stepN rfl F (o_storeA M (F.e rfl) (F.e rfl) (ro_len hxx) (ro_one x)  (by repeat constructor)  (encL_put hszs junk hil hpt (by omega)) (by repeat constructor) ?_);clear F M;intro w M a F)
  with_reducible refine l_nil (q_inB (q_then (c_seq (c_region ?_))))
  refine sD F (o_move (F.e rfl) ?_);clear F a;intro a F
  refine sD F (o_assign (F.e rfl) ?_);clear F a;intro a F
  refine sD F (o_assign (F.e rfl) ?_);clear F a;intro a F
  with_reducible refine l_nil (q_then (c_ret ?_))
  refine p_ret F rfl (.cons (.tmp (F.e rfl)) (.cons (.tmp (F.e rfl)) .nil)) ?_
  refine ⟨_, [(bO, _)], rfl, .inr ⟨bO, c0, junk, by rw [List.length_set], rfl, ?_, by rw [List.length_set];exact hjl, by rw [List.length_set];exact hnc⟩, M.sub (List.sublist_append_right [_, _, _] _)⟩
  rw [encL_len fun y hy => (List.mem_or_eq_of_mem_set hy).elim (hszs y) fun h => by rw [h];exact ro_len hxx]
set_option maxHeartbeats 8000000 in
theorem known2_c (W : World) : Cal Tryz.prog 19 [].toArray W fun r w' => r = .bool true ∧ Ext [] W w' := by
 refine fn_ofM (n := 89) [] Tryz.func19 rfl rfl rfl ?_
 intro a w F M hwW
 refine c_seq (c_region ?_)
 refine sD F (o_assign (F.e rfl) ?_);clear F a;intro a F
 with_reducible refine l_nil (q_then (c_seq (c_region ?_)))
 (refine sD F (o_call (F.e rfl) (F.evs rfl) (Cal.mono (host_c 1 9 (by omega) (by omega) (by omega) (by omega) _) ?_));clear F;clear a;rintro _ w ⟨rfl, hE⟩ a F;replace M := M.later hE;clear hE)
 refine sD F (o_build F rfl rfl ?_);clear F a;intro a F
 (refine sD F (o_call (F.e rfl) (F.evs (vs := [.slice none 0 0, .int .i64 5, .agg (dvC (hostD 1 9)).toArray, .int .u64 2, .agg (diC ⟨3, 100⟩).toArray]) rfl) (Cal.mono (learnA_c [] (by simp) (.slice none 0 0) 5 (hostD 1 9) k_is 2 ⟨3, 100⟩ _ (SlAt.nil _ _)) ?_));clear F;clear a;rintro _ w ⟨u, e1, rfl, hO1, N⟩ a F;replace M := M.joins N;clear N)
 rw [kLearn] at F hO1
 dsimp only at F hO1
 obtain ⟨p1, c1, rfl⟩ := hO1.slice
 refine sD F (o_move (F.e rfl) ?_);clear F a;intro a F
 refine sD F (o_extract (F.e rfl) rfl ?_);clear F a;intro a F
 refine sD F (o_extract (F.e rfl) rfl ?_);clear F a;intro a F
 refine sD F (o_assign (F.e rfl) ?_);clear F a;intro a F
 refine sD F (o_assign (F.e rfl) ?_);clear F a;intro a F
 with_reducible refine l_nil (q_then (c_seq (c_region ?_)))
 refine sD F (o_build F rfl rfl ?_);clear F a;intro a F
 (refine sD F (o_buildSlice F M rfl rfl rfl rfl ?_);clear F M;intro b19 w M a F)
 replace M : Mem [] W w ((b19, opO kO) :: (e1 ++ [])) := M
 refine sD F (o_assign (F.e rfl) ?_);clear F a;intro a F
 with_reducible refine l_nil (q_then (c_seq (c_region ?_)))
 refine sD F (o_move (F.e rfl) ?_);clear F a;intro a F
 refine sD F (o_move (F.e rfl) ?_);clear F a;intro a F
 (refine sD F (o_call (F.e rfl) (F.evs rfl) (Cal.mono (select_c 6 [kL] (by simpa using kL_is) [] (by simp) [kO] [] (by simp) _ (.slice none 0 0) (.slice (some ⟨b19, 0, none⟩) 1 1) (.slice none 0 0) _ (hO1.slAt M (fun q hq => by simp [hq])) (SlAt.nil _ _) (slAtO (x := kO) (M.heap .here)) (SlAt.nil _ _)) ?_));clear F;clear a;rintro _ w ⟨u, e2, rfl, hO2, N⟩ a F;replace M := M.joins N;clear N)
 rw [kSel1] at F hO2
 dsimp only at F hO2
 obtain ⟨p2, c2, rfl⟩ := hO2.slice
 refine sD F (o_move (F.e rfl) ?_);clear F a;intro a F
 refine sD F (o_extract (F.e rfl) rfl ?_);clear F a;intro a F
 refine sD F (o_extract (F.e rfl) rfl ?_);clear F a;intro a F
 refine sD F (o_assign (F.e rfl) ?_);clear F a;intro a F
 refine sD F (o_assign (F.e rfl) ?_);clear F a;intro a F
 with_reducible refine l_nil (q_then (c_seq (c_region ?_)))
 refine sD F (o_move (F.e rfl) ?_);clear F a;intro a F
 refine sD F (o_build F rfl rfl ?_);clear F a;intro a F
 refine sD F (o_build F rfl rfl ?_);clear F a;intro a F
 refine sD F (o_build F rfl rfl ?_);clear F a;intro a F
 (refine sD F (o_call (F.e rfl) (F.evs (vs := [.slice p2 [kI].length c2, .agg (ipC nul16).toArray, .agg (ipC kIP).toArray, .agg (dvC kZ).toArray, .bool false]) rfl) (Cal.mono (lookup2_c [kI] (by simpa using kI_is) _ nul16 kIP nul16_is kIP_is kZ kZ_is false _ (hO2.slAt M (fun q hq => by simp [hq]))) ?_));clear F;clear a;rintro _ w ⟨rfl, hE⟩ a F;replace M := M.later hE;clear hE)
 rw [kLook1] at F
 dsimp only at F
 refine sD F (o_move (F.e rfl) ?_);clear F a;intro a F
 refine sD F (o_extract (F.e rfl) rfl ?_);clear F a;intro a F
 refine sD F (o_extract (F.e rfl) rfl ?_);clear F a;intro a F
 (refine sD F (o_alloc M ?_);clear F M;intro b6 w M a F)
 (refine stepN rfl F (o_storeA M (F.e rfl) (F.e rfl) (in_len kI_is) (in_one _)  (by repeat constructor)  (put_all (by rw [in_len kI_is];rfl)) (by repeat constructor) ?_);clear F M;intro w M a F)
 refine sD F (o_assign (F.e rfl) ?_);clear F a;intro a F
 with_reducible refine l_nil (q_then (c_seq (c_region ?_)))
 refine sD F (o_move (F.e rfl) ?_);clear F a;intro a F
 refine sD F (o_move (F.e rfl) ?_);clear F a;intro a F
 (refine sD F (o_call (F.e rfl) (F.evs rfl) (Cal.mono (select_c 7 [] (by simp) [] (by simp) [kO] [kI] (by simpa using kI_is) (.slice none 0 0) (.slice none 0 0) (.slice (some ⟨b19, 0, none⟩) 1 1) _ _ (SlAt.nil _ _) (SlAt.nil _ _) (slAtO (x := kO) (M.at_ (b19, opO kO) (by simp))) (hO2.slAt M (fun q hq => by simp [hq]))) ?_));clear F;clear a;rintro _ w ⟨u, e3, rfl, hO3, N⟩ a F;replace M := M.joins N;clear N)
 rw [kSel2] at F hO3
 dsimp only at F hO3
 obtain ⟨p3, c3, hp3⟩ := hO3.slice
 rcases hO3 with ⟨_, h0, _, _⟩ | ⟨bH, cH, junk, rfl, rfl, hxl, hjl, hnc⟩
 ·simp at h0
 have hO3 : OwnS 50 40 (.slice (some ⟨bH, 0, none⟩) [kH].length cH) [kH].length (insC [kH]) [(bH, .cells (insC [kH] ++ junk).toArray 50 (0, 0))] := .inr ⟨bH, cH, junk, rfl, rfl, hxl, hjl, hnc⟩
 clear hp3 hxl hjl hnc
 refine sD F (o_move (F.e rfl) ?_);clear F a;intro a F
 refine sD F (o_extract (F.e rfl) rfl ?_);clear F a;intro a F
 refine sD F (o_extract (F.e rfl) rfl ?_);clear F a;intro a F
 refine sD F (o_assign (F.e rfl) ?_);clear F a;intro a F
 refine sD F (o_assign (F.e rfl) ?_);clear F a;intro a F
 with_reducible refine l_nil (q_then (c_seq (c_region ?_)))
 refine sD F (o_move (F.e rfl) ?_);clear F a;intro a F
 refine sD F (o_build F rfl rfl ?_);clear F a;intro a F
 refine sD F (o_build F rfl rfl ?_);clear F a;intro a F
 refine sD F (o_build F rfl rfl ?_);clear F a;intro a F
 (refine sD F (o_call (F.e rfl) (F.evs (vs := [.slice (some ⟨bH, 0, none⟩) [kH].length cH, .agg (ipC nul16).toArray, .agg (ipC kIP).toArray, .agg (dvC kZ).toArray, .bool false]) rfl) (Cal.mono (lookup2_c [kH] (by simpa using kH_is) _ nul16 kIP nul16_is kIP_is kZ kZ_is false _ (hO3.slAt M (fun q hq => by simp at hq;simp [hq]))) ?_));clear F;clear a;rintro _ w ⟨rfl, hE⟩ a F;replace M := M.later hE;clear hE)
 rw [kLook2] at F
 dsimp only at F
 refine sD F (o_move (F.e rfl) ?_);clear F a;intro a F
 refine sD F (o_extract (F.e rfl) rfl ?_);clear F a;intro a F
 refine sD F (o_extract (F.e rfl) rfl ?_);clear F a;intro a F
 (refine sD F (o_alloc M ?_);clear F M;intro b10 w M a F)
 (refine stepN rfl F (o_storeA M (F.e rfl) (F.e rfl) (in_len in0_is) (in_one _)  (by repeat constructor)  (put_all (by rw [in_len in0_is];rfl)) (by repeat constructor) ?_);clear F M;intro w M a F)
 replace M := M.perm (l' := (b6, .cells (inC kI).toArray 50 (0, 0)) :: (bH, .cells (insC [kH] ++ junk).toArray 50 (0, 0)) :: (b10, .cells (inC in0).toArray 50 (0, 0)) :: (e2 ++ ((b19, opO kO) :: (e1 ++ [])))) (by classical exact List.perm_iff_count.2 fun _ => by simp only [List.count_append, List.count_cons, List.count_nil, Nat.add_zero, Nat.zero_add] <;> ac_rfl)
 have g1 : seg (insC [kH] ++ junk) (0 + (0 : Int).toNat * 40) 40 = some (inC kH) := own_el (ls := [kH]) (by simpa using in_len kH_is) junk (show 0 < [kH].length by simp) (by simp)
 have g2 : nth (insC [kH] ++ junk) (0 + (0 : Int).toNat * 40 + 39) = some (.int .i64 21) := sg_nth g1 (in_til kH_is) (by omega)
 have g3 := in_nb kI_is
 have g4 := in_own kI_is
 rw [show [kH].length = 1 from rfl] at F
 refine sD F (o_assign (F.e rfl) ?_);clear F a;intro a F
 with_reducible refine l_nil (q_then (c_seq (c_region ?_)))
 refine sD F (o_move (F.e rfl) ?_);clear F a;intro a F
 refine sD F (o_eqlT (F.e rfl) (F.e rfl) (by omega) ?_);clear F a;intro a F
 refine sD F (o_move (F.e rfl) ?_);clear F a;intro a F
 refine sG F (o_move (F.e rfl) ?_);clear F a;intro a F
 refine sG F (o_eqlT (F.e rfl) (F.e rfl) (by omega) ?_);clear F a;intro a F
 refine sD F (o_pickT (F.e rfl) (F.e rfl) ?_);clear F a;intro a F
 refine sD F (o_move (F.e rfl) ?_);clear F a;intro a F
 refine sG F (o_move (F.e rfl) ?_);clear F a;intro a F
 refine sG F (o_eqlT (F.e rfl) (F.e rfl) (by omega) ?_);clear F a;intro a F
 refine sD F (o_pickT (F.e rfl) (F.e rfl) ?_);clear F a;intro a F
 refine sD F (o_move (F.e rfl) ?_);clear F a;intro a F
 refine sG F (o_move (F.e rfl) ?_);clear F a;intro a F
 refine sG F (o_eqlT (F.e rfl) (F.e rfl) (by omega) ?_);clear F a;intro a F
 refine sD F (o_pickT (F.e rfl) (F.e rfl) ?_);clear F a;intro a F
 refine sD F (o_move (F.e rfl) ?_);clear F a;intro a F
 refine sG F (o_move (F.e rfl) ?_);clear F a;intro a F
 refine sG F (o_eqlT (F.e rfl) (F.e rfl) (by omega) ?_);clear F a;intro a F
 refine sD F (o_pickT (F.e rfl) (F.e rfl) ?_);clear F a;intro a F
 refine sD F (o_move (F.e rfl) ?_);clear F a;intro a F
 refine sG F (o_fieldAddr (F.e rfl) ?_);clear F a;intro a F
 refine sG F (o_load1 M (F.e rfl) (by repeat constructor) (by first | assumption | rfl) ?_);clear F a;intro a F
 refine sG F (o_eql (F.e rfl) (F.e rfl) ?_);clear F a;intro a F
 refine sD F (o_pickT (F.e rfl) (F.e rfl) ?_);clear F a;intro a F
 refine sD F (o_move (F.e rfl) ?_);clear F a;intro a F
 refine sG F (o_fieldAddr (F.e rfl) ?_);clear F a;intro a F
 refine sG F (o_loadA M (F.e rfl) (by repeat constructor) (by first | assumption | rfl) ?_);clear F a;intro a F
 refine sG F (o_build F rfl ‹_› ?_);clear F a;intro a F
 refine sG F (o_eqlA (F.e rfl) (F.e rfl) (by first | assumption | rfl) (by first | assumption | rfl) ?_);clear F a;intro a F
 refine sD F (o_pickT (F.e rfl) (F.e rfl) ?_);clear F a;intro a F
 refine sD F (o_move (F.e rfl) ?_);clear F a;intro a F
 refine sG F (o_move (F.e rfl) ?_);clear F a;intro a F
 refine sG F (o_lenSl (F.e rfl) ?_);clear F a;intro a F
 refine sG F (o_eqlT (F.e rfl) (F.e rfl) (by omega) ?_);clear F a;intro a F
 refine sD F (o_pickT (F.e rfl) (F.e rfl) ?_);clear F a;intro a F
 refine sD F (o_move (F.e rfl) ?_);clear F a;intro a F
 refine sG F (o_move (F.e rfl) ?_);clear F a;intro a F
 refine sG F (o_indexSl (F.e rfl) (F.e rfl) (by omega) (by omega) ?_);clear F a;intro a F
 refine sG F (o_fieldAddr (F.e rfl) ?_);clear F a;intro a F
 refine sG F (o_load1 M (F.e rfl) (by repeat constructor) (by first | assumption | rfl) ?_);clear F a;intro a F
 refine sG F (o_eqlT (F.e rfl) (F.e rfl) (by omega) ?_);clear F a;intro a F
 refine sD F (o_pickT (F.e rfl) (F.e rfl) ?_);clear F a;intro a F
 refine sD F (o_assign (F.e rfl) ?_);clear F a;intro a F
 with_reducible refine l_nil (q_then (c_ret ?_))
 refine p_ret F rfl (.cons (.tmp (F.e rfl)) .nil) ?_
 exact ⟨rfl, M.ext⟩
end Go.Proofs.YtilgoepokaaleaaGreat
/-! WA -/
namespace Go.Proofs.YtilgoepokaaleaaGreat
set_option linter.unusedVariables false
set_option linter.unusedSimpArgs false
open Go.RowKit
attribute [local irreducible] OpTo wpListIn Code.wpIn MW Cal
def hungry (inn : List InsV) (t : DstV) : Bool := match getV inn t with
 | none => true
 | some x => decide (x.nb = 0)
theorem expire_is {l : List RouV} {now : Int} (hx : ∀ x ∈ l, IsRo x) : ∀ x ∈ expireV l now, IsRo x := fun x h => by
 unfold expireV withoutV at h
 split at h
 ·split at h
  ·exact hx x (List.mem_filter.1 h).1
  ·cases h
 ·cases h
theorem expire_val {l : List RouV} {now : Int} (h1 : validRs l = true) (h2 : isTime now = true) : expireV l now = l.filter (fun x => !decide (x.til ≤ now)) := by
 unfold expireV withoutV
 rw [if_pos h2, if_pos h1]
end Go.Proofs.YtilgoepokaaleaaGreat
/-! WB -/
namespace Go.Proofs.YtilgoepokaaleaaGreat
set_option linter.unusedVariables false
set_option linter.unusedSimpArgs false
open Go.RowKit
attribute [local irreducible] OpTo wpListIn Code.wpIn MW Cal
/-- what the second loop knows -/
structure St2 (now : Int) (inn : List InsV) (l : List RouV) (out : List DstV) : Prop where
 asc : AscD out
 mem : ∀ t, t ∈ out ↔ ∃ x ∈ l, x.to = t ∧ now < x.til ∧ hungry inn t = true
theorem take_mem {α : Type} {l : List α} {j : Nat} (h : j < l.length) {x : α} : x ∈ l.take (j + 1) ↔ x ∈ l.take j ∨ x = l[j] := by
 rw [List.take_add_one, List.getElem?_eq_getElem h, List.mem_append]
 simp
theorem St2.skip {now : Int} {inn : List InsV} {l : List RouV} {out : List DstV} {j : Nat} (hj : j < l.length) (h : St2 now inn (l.take j) out) (hs : ¬ now < l[j].til ∨ hungry inn l[j].to = false ∨ l[j].to ∈ out) : St2 now inn (l.take (j + 1)) out := by
 refine ⟨h.asc, fun t => ⟨fun ht => ?_, fun ⟨x, hx, h1, h2, h3⟩ => ?_⟩⟩
 ·obtain ⟨x, hx, h1⟩ := (h.mem t).1 ht
  exact ⟨x, (take_mem hj).2 (.inl hx), h1⟩
 ·rcases (take_mem hj).1 hx with hx | hx
  ·exact (h.mem t).2 ⟨x, hx, h1, h2, h3⟩
  ·subst hx
   rcases hs with g | g | g
   ·exact absurd h2 g
   ·rw [h1, h3] at g;cases g
   ·rw [← h1];exact g
theorem St2.push {now : Int} {inn : List InsV} {l : List RouV} {out : List DstV} {j : Nat} (hx : ∀ x ∈ l, IsRo x) (hW : Weak RouV.to l) (hj : j < l.length) (h : St2 now inn (l.take j) out) (h1 : now < l[j].til) (h2 : hungry inn l[j].to = true) (h3 : ∀ hn : 0 < out.length, out[out.length - 1] ≠ l[j].to) : St2 now inn (l.take (j + 1)) (out ++ [l[j].to]) := by
 have hle : ∀ t ∈ out, ¬ cmpD l[j].to t < 0 ∧ IsDv t := fun t ht => by
  obtain ⟨x, hx1, rfl, _⟩ := (h.mem t).1 ht
  obtain ⟨q, hq, rfl⟩ := List.mem_iff_getElem.1 hx1
  rw [List.length_take] at hq
  rw [List.getElem_take]
  exact ⟨(List.pairwise_iff_getElem.1 hW) q j (by omega) hj (by omega), (hx _ (List.getElem_mem (by omega))).1⟩
 have hjd := (hx _ (List.getElem_mem hj)).1
 refine ⟨List.pairwise_append.2 ⟨h.asc, by simp, fun t ht b hb => ?_⟩, fun t => ?_⟩
 ·simp only [List.mem_singleton] at hb
  subst hb
  obtain ⟨g1, g2⟩ := hle t ht
  have g3 := cmpD_anti t l[j].to
  rcases Int.lt_or_eq_of_le (show cmpD t l[j].to ≤ 0 by omega) with g4 | g4
  ·exact g4
  ·exfalso
   have e := cmpD_zero g2 hjd g4
   have hn : 0 < out.length := List.length_pos_of_mem ht
   obtain ⟨p, hp, hpe⟩ := List.mem_iff_getElem.1 ht
   rcases Nat.lt_or_ge p (out.length - 1) with g5 | g5
   ·have g6 := (List.pairwise_iff_getElem.1 h.asc) p (out.length - 1) hp (by omega) g5
    rw [hpe, e] at g6
    exact (hle _ (List.getElem_mem (by omega))).1 g6
   ·have g6 : p = out.length - 1 := by omega
    subst g6
    exact h3 hn (hpe.trans e)
 ·rw [List.mem_append, List.mem_singleton, h.mem]
  constructor
  ·rintro (⟨x, hx1, h5⟩ | rfl)
   ·exact ⟨x, (take_mem hj).2 (.inl hx1), h5⟩
   ·exact ⟨_, (take_mem hj).2 (.inr rfl), rfl, h1, h2⟩
  ·rintro ⟨x, hx1, h5, h6⟩
   rcases (take_mem hj).1 hx1 with g | g
   ·exact .inl ⟨x, g, h5, h6⟩
   ·subst g
    exact .inr h5.symm
theorem St2.all {now : Int} {inn : List InsV} {l : List RouV} {out : List DstV} (hx : ∀ x ∈ l, IsRo x) (h : St2 now inn l out) (hE : expireV l now = l.filter (fun x => !decide (x.til ≤ now))) : out = (destsV (expireV l now) []).filter (hungry inn) := by
 have h1 := dests_asc (old := []) (expire_is (now := now) hx) (by simp)
 refine ascK_unique (fun t => t) _ _ h.asc (List.Pairwise.filter _ h1.1) fun t => ?_
 rw [h.mem, List.mem_filter, h1.2, hE]
 unfold allD
 simp only [List.map_nil, List.append_nil, List.mem_map, List.mem_filter]
 constructor
 ·rintro ⟨x, g1, g2, g3, g4⟩
  exact ⟨⟨x, ⟨g1, by simp;omega⟩, g2⟩, g4⟩
 ·rintro ⟨⟨x, ⟨g1, g2⟩, g3⟩, g4⟩
  exact ⟨x, g1, g3, by simp at g2;omega, g4⟩
end Go.Proofs.YtilgoepokaaleaaGreat
/-! WC -/
namespace Go.Proofs.YtilgoepokaaleaaGreat
set_option linter.unusedVariables false
set_option linter.unusedSimpArgs false
open Go.RowKit
theorem choB_btn (now : Int) (old : ChoV) (b c : OptV) : (choB now old b c).btn = -1 ∨ (choB now old b c).btn = now ∨ (choB now old b c).btn = old.btn := by
 unfold choB
 split
 ·exact .inl rfl
 ·split
  ·exact .inl rfl
  ·split
   ·exact .inl rfl
   ·split
    ·exact .inr (.inl rfl)
    ·split
     ·exact .inl rfl
     ·exact .inr (.inr rfl)
theorem bef_ok {o : Option InsV} (h : ∀ x, o = some x → ins1 x = true) : validCh (befV o) = true := by
 cases o with
 | none => rfl
 | some x => exact bef_valid (o := x) (had := true) fun _ => h x rfl
theorem later_tm {now d : Int} (h : isTime now = true) (hd : 0 ≤ d) : isTime (laterV now d) = true := by
 simp only [isTime, Bool.and_eq_true, decide_eq_true_eq] at *
 unfold laterV
 split <;> omega
theorem aft_ins {now : Int} {t : DstV} {o : Option InsV} {op : List OptV} {said : List (Int × DisV)} {x : InsV} (htv : validT t = true) (hn : isTime now = true) (ho : ∀ w, o = some w → ins1 w = true ∧ w.to = t) (hval : ∀ q ∈ op, validM q.cost = true) (h : aftV now t o op said = some x) : ins1 x = true ∧ x.to = t := by
 by_cases hc : (chooseV now (befV o) op).nb = 0
 ·cases o with
  | none => rw [aft_none hc] at h;cases h
  | some w =>
   obtain ⟨hw1, hw2⟩ := ho w rfl
   rw [aft_some hc] at h
   split at h
   ·cases h
    refine ⟨?_, rfl⟩
    unfold ins1
    simp [htv, later_tm hn]
   ·split at h
    ·cases h
     exact ⟨hw1, hw2⟩
    ·cases h
 ·rw [aft_cho hc] at h
  cases h
  obtain ⟨q, hq, h1, _, h3⟩ := choose_is hc
  have hv := hval q hq
  have hb := bef_ok (o := o) fun w hw => (ho w hw).1
  have h4 := choB_btn now (befV o) (bstO op) (prvO (befV o).nb op)
  have h5 : (decide ((chooseV now (befV o) op).btn = -1) || isTime (chooseV now (befV o) op).btn) = true := by
   unfold chooseV
   simp only [validCh, Bool.and_eq_true, Bool.or_eq_true, decide_eq_true_eq] at hb ⊢
   rcases h4 with e | e | e
   ·exact .inl e
   ·rw [e];exact .inr hn
   ·rw [e];exact hb.2
  have h6 : finD ⟨((getA (chooseV now (befV o) op).nb said).getD di0).seq, (chooseV now (befV o) op).cost⟩ = true := by
   unfold finD
   dsimp only
   rw [h3, hv, Bool.true_and, Bool.not_eq_true', decide_eq_false_iff_not]
   omega
  refine ⟨?_, rfl⟩
  unfold ins1
  dsimp only
  rw [htv, if_neg hc, h6, h5]
  rfl
theorem sel_valid {now : Int} {l : List RouV} {s : List SrcV} {links : List OptV} {old : List InsV} (hx : ∀ x ∈ l, IsRo x) (hy : ∀ x ∈ old, IsIn x) (h : (selectV now l s links old).2 = 0) : validIs (selectV now l s links old).1 = true := by
 unfold selectV at h ⊢
 split at h
 ·cases h
 rename_i h1
 split at h
 ·cases h
 rename_i h2
 split at h
 ·cases h
 rename_i h3
 rw [if_neg h1, if_neg h2, if_neg h3]
 simp only [Bool.or_eq_true, Bool.not_eq_true', not_or, Bool.not_eq_false] at h1 h2
 obtain ⟨⟨⟨v1, v2⟩, v3⟩, v4⟩ := h1
 have k := (validOs_iff.1 v3).1
 have hok := dests_ok hx hy v1 v4
 have hasc := (dests_asc hx hy).1
 have hel : ∀ t ∈ destsV l old, ∀ x, selE now l s (costM links) old t = some x → ins1 x = true ∧ x.to = t := fun t ht x h => aft_ins (hok t ht) h2 (fun w hw => ⟨(validIs_iff.1 v4).2.1 w (List.mem_of_find?_eq_some hw), by simpa using List.find?_some hw⟩) (fun q hq => by
  have := (validOs_iff.1 (opts_valid (now := now) (s := s) (links := links) (t := t) hx v1 k)).2.1 q hq
  simp only [opt1, Bool.and_eq_true] at this
  exact this.2) h
 refine validIs_iff.2 ⟨by dsimp only;omega, fun x hm => ?_, ?_⟩
 ·obtain ⟨t, ht, h4⟩ := List.mem_filterMap.1 hm
  exact (hel t ht x h4).1
 ·refine List.Pairwise.filterMap _ ?_ (List.Pairwise.imp_of_mem (S := fun a b => a ∈ destsV l old ∧ b ∈ destsV l old ∧ cmpD a b < 0) (fun ha hb hab => ⟨ha, hb, hab⟩) hasc)
  rintro a b ⟨ha, hb, hab⟩ x hx1 y hy1
  unfold cmpN
  rw [(hel a ha x hx1).2, (hel b hb y hy1).2]
  exact hab
theorem sel_isI {now : Int} {l : List RouV} {s : List SrcV} {links : List OptV} {old : List InsV} (hx : ∀ x ∈ l, IsRo x) (hy : ∀ x ∈ old, IsIn x) : (∀ x ∈ (selectV now l s links old).1, IsIn x) ∧ (selectV now l s links old).1.length ≤ l.length + old.length := by
 unfold selectV
 split
 ·simp
 ·split
  ·simp
  ·split
   ·simp
   ·exact ⟨selI_is hx hy, selI_len hx hy⟩
end Go.Proofs.YtilgoepokaaleaaGreat
/-! VD -/
namespace Go.Proofs.YtilgoepokaaleaaGreat
set_option linter.unusedVariables false
set_option linter.unusedSimpArgs false
open Go.RowKit
def keyQ (d : DisV) : Int := (1000 - d.seq) * 65536 + d.met
structure DOk (m : Int) (d : DisV) : Prop where
 s0 : 0 ≤ d.seq
 s1 : d.seq ≤ m
 m0 : 0 ≤ d.met
 m1 : d.met < 65535
theorem DOk.mono {m m' : Int} {d : DisV} (h : DOk m d) (hm : m ≤ m') : DOk m' d := ⟨h.s0, by have := h.s1;omega, h.m0, h.m1⟩
theorem DOk.fin {m : Int} {d : DisV} (h : DOk m d) : finD d = true := by
 have := h.m0;have := h.m1
 unfold finD validM inf
 simp
 omega
theorem newer_iff {a b : Int} (ha : 0 ≤ a) (ha' : a ≤ 100) (hb : 0 ≤ b) (hb' : b ≤ 100) : newerV a b = true ↔ b < a := by
 unfold newerV
 have hw : IntKind.u16.wrap (a - b) = if b ≤ a then a - b else a - b + 65536 := by
  have : IntKind.u16.wrap (a - b) = (a - b) % 65536 := rfl
  rw [this]
  split <;> omega
 dsimp only
 rw [hw]
 simp only [Bool.or_eq_true, Bool.and_eq_true, decide_eq_true_eq]
 split <;> omega
theorem better_iff {m : Int} (hm : m ≤ 100) {a b : DisV} (ha : DOk m a) (hb : DOk m b) : betterV a b = true ↔ keyQ a < keyQ b := by
 obtain ⟨a1, a2, a3, a4⟩ := ha
 obtain ⟨b1, b2, b3, b4⟩ := hb
 unfold betterV keyQ
 simp only [Bool.and_eq_true, Bool.or_eq_true, Bool.not_eq_true', decide_eq_false_iff_not, decide_eq_true_eq]
 rw [newer_iff a1 (by omega) b1 (by omega)]
 constructor
 ·rintro ⟨_, h | h⟩ <;> omega
 ·intro h
  refine ⟨fun e => by subst e;omega, ?_⟩
  omega
theorem lowQ_is {m : Int} (hm : m ≤ 100) {a b : DisV} (ha : DOk m a) (hb : DOk m b) : (lowQ a b = a ∨ lowQ a b = b) ∧ keyQ (lowQ a b) ≤ keyQ a ∧ keyQ (lowQ a b) ≤ keyQ b := by
 have h := better_iff hm ha hb
 have e : cmpQR a b = -1 ↔ betterV a b = true := by
  rw [cmpQR_is]
  unfold cmpQ
  split
  ·rename_i h1
   simp [betterV, h1]
  ·cases betterV a b <;> simp
 unfold lowQ
 split
 ·rename_i h1
  have := h.1 (e.1 h1)
  exact ⟨.inl rfl, by omega, by omega⟩
 ·rename_i h1
  have : ¬ keyQ a < keyQ b := fun h2 => h1 (e.2 (h.2 h2))
  exact ⟨.inr rfl, by omega, by omega⟩
structure NC where
 now : Int
 seq : Int
 tab : Nat → List RouV
 fd : Nat → List SrcV
 ins : Nat → List InsV
 said : Nat → List DisV
 whn : Nat → List Int
def upd {α : Type} (f : Nat → α) (a : Nat) (x : α) : Nat → α := fun b => if b = a then x else f b
theorem upd_same {α : Type} {f : Nat → α} {a : Nat} {x : α} : upd f a x a = x := if_pos rfl
theorem upd_other {α : Type} {f : Nat → α} {a b : Nat} {x : α} (h : b ≠ a) : upd f a x b = f b := if_neg h
def toNC : DstV := hostD 1 1
theorem toNC_is : IsDv toNC := hostD_is (by omega) (by omega)
theorem toNC_val : validT toNC = true := host_valid (by omega) (by omega) (by omega)
/-- what holds;sk: the node of which nothing is asked between its routes and what it has installed -/
structure Inv (n i sk : Nat) (s : NC) : Prop where
 now0 : 0 ≤ s.now
 now1 : s.now ≤ i
 seq0 : 0 ≤ s.seq
 seq1 : s.seq ≤ i
 tv : ∀ a, validRs (s.tab a) = true
 tr : ∀ a, ∀ x ∈ s.tab a, IsRo x ∧ x.to = toNC ∧ 1 ≤ x.nb ∧ x.nb ≤ n ∧ DOk s.seq x.said
 tl : ∀ a, (s.tab a).length ≤ i
 t1 : s.tab 1 = []
 ts : ∀ a, ∀ x ∈ s.tab a, ∃ (j : Nat) (w : Int), (s.said x.nb.toNat)[j]? = some x.said ∧ (s.whn x.nb.toNat)[j]? = some w ∧ x.til ≤ w + 13
 sl : ∀ a, (s.said a).length = (s.whn a).length
 sm : ∀ a, (s.said a).length ≤ i
 sd : ∀ a, ∀ d ∈ s.said a, DOk s.seq d
 sw : ∀ a, ∀ w ∈ s.whn a, 0 ≤ w ∧ w ≤ s.now
 sf : ∀ b, b ≠ 1 → ∀ (j : Nat) (d : DisV) (w : Int), (s.said b)[j]? = some d → (s.whn b)[j]? = some w → s.now < w + 20 → ∃ e ∈ s.fd b, w + 20 ≤ e.til ∧ keyQ e.bst ≤ keyQ d
 fv : ∀ a, validSs (s.fd a) = true
 fr : ∀ a, ∀ x ∈ s.fd a, IsSr x ∧ x.to = toNC ∧ DOk s.seq x.bst
 iv : ∀ a, validIs (s.ins a) = true
 ir : ∀ a, ∀ x ∈ s.ins a, IsIn x ∧ x.to = toNC
 i0 : s.ins 0 = []
 i1 : s.ins 1 = []
 ff : ∀ a, a ≠ sk → ∀ x ∈ s.ins a, x.nb ≠ 0 → ∀ y ∈ s.tab a, y.nb = x.nb → s.now < y.til → ∀ e ∈ s.fd a, keyQ y.said < keyQ e.bst
theorem le_one {α : Type} {cm : α → α → Int} {l : List α} (h : AscC cm l) (h2 : ∀ a ∈ l, ∀ b ∈ l, cm a b = 0) : l.length ≤ 1 := by
 match l, h, h2 with
 | [], _, _ => simp
 | [_], _, _ => simp
 | a :: b :: r, h, h2 =>
  have h3 := (List.pairwise_cons.1 h).1 b (by simp)
  have h4 := h2 a (by simp) b (by simp)
  omega
theorem Inv.fone {n i sk : Nat} {s : NC} (h : Inv n i sk s) (a : Nat) : (s.fd a).length ≤ 1 := le_one (validSs_iff.1 (h.fv a)).2.2 fun x hx y hy => by
 unfold cmpS
 rw [(h.fr a x hx).2.1, (h.fr a y hy).2.1]
 exact cmpD_self _
theorem Inv.ione {n i sk : Nat} {s : NC} (h : Inv n i sk s) (a : Nat) : (s.ins a).length ≤ 1 := le_one (validIs_iff.1 (h.iv a)).2.2 fun x hx y hy => by
 unfold cmpN
 rw [(h.ir a x hx).2, (h.ir a y hy).2]
 exact cmpD_self _
theorem Inv.time {n i sk : Nat} {s : NC} (h : Inv n i sk s) (hi : i ≤ 60) : isTime s.now = true := by
 have := h.now0;have := h.now1
 unfold isTime
 simp
 omega
theorem later_is {now d : Int} (h : now ≤ 60) (hd : d ≤ 100) : laterV now d = now + d := by
 unfold laterV
 rw [if_neg (by omega)]
theorem Inv.start (n sk : Nat) : Inv n 0 sk ⟨0, 0, fun _ => [], fun _ => [], fun _ => [], fun _ => [], fun _ => []⟩ := by
 have e1 : validRs [] = true := validRs_iff.2 ⟨by simp, by simp, by simp [AscC]⟩
 have e2 : validSs [] = true := validSs_iff.2 ⟨by simp, by simp, by simp [AscC]⟩
 have e3 : validIs [] = true := validIs_iff.2 ⟨by simp, by simp, by simp [AscC]⟩
 constructor <;> simp_all
section
variable {n i sk : Nat} {s : NC}
theorem Inv.skip (h : Inv n i 0 s) (k : Nat) : Inv n i k s :=
 { h with
  ff := fun a _ x hx h0 y hy h1 h2 e he => by
   by_cases hs : a = 0
   ·subst hs
    rw [h.i0] at hx
    cases hx
   ·exact h.ff a hs x hx h0 y hy h1 h2 e he }
theorem Inv.ff' (h : Inv n i 0 s) {a : Nat} {x : InsV} (hx : x ∈ s.ins a) (h0 : x.nb ≠ 0) {y : RouV} (hy : y ∈ s.tab a) (h1 : y.nb = x.nb) (h2 : s.now < y.til) {e : SrcV} (he : e ∈ s.fd a) : keyQ y.said < keyQ e.bst :=
 (h.skip (a + 1)).ff a (by omega) x hx h0 y hy h1 h2 e he
/-- time goes on -/
theorem Inv.tick (h : Inv n i sk s) {d : Int} (h0 : 0 ≤ d) (h1 : d ≤ 1) : Inv n (i + 1) sk { s with now := s.now + d } :=
 { h with
  now0 := by have := h.now0;dsimp only;omega
  now1 := by have := h.now1;dsimp only;omega
  seq1 := by have := h.seq1;dsimp only;omega
  tl := fun a => by have := h.tl a;dsimp only;omega
  sm := fun a => by have := h.sm a;dsimp only;omega
  sw := fun a w hw => by have := h.sw a w hw;dsimp only;omega
  sf := fun b hb j d' w hd hw hn => h.sf b hb j d' w hd hw (by dsimp only at hn;omega)
  ff := fun a ha x hx h0' y hy h1' h2 e he => h.ff a ha x hx h0' y hy h1' (by dsimp only at h2;omega) e he }
theorem idx_app {α : Type} {l : List α} {x y : α} {j : Nat} (h : (l ++ [x])[j]? = some y) : l[j]? = some y ∨ (j = l.length ∧ y = x) := by
 rcases Nat.lt_trichotomy j l.length with h1 | h1 | h1
 ·rw [List.getElem?_append_left h1] at h
  exact .inl h
 ·subst h1
  simp at h
  exact .inr ⟨rfl, h.symm⟩
 ·rw [List.getElem?_eq_none (by simp;omega)] at h
  cases h
theorem idx_keep {α : Type} {l : List α} {x y : α} {j : Nat} (h : l[j]? = some y) : (l ++ [x])[j]? = some y := by
 rw [List.getElem?_append_left (List.getElem?_eq_some_iff.1 h).1, h]
/-- the origin speaks -/
theorem Inv.origin (h : Inv n i sk s) (hi : s.seq < i) (hl : ∀ a, (s.said a).length < i) {d : Int} (h0 : 0 ≤ d) (h1 : d ≤ 1) :
  Inv n i sk { s with seq := s.seq + d, said := upd s.said 1 (s.said 1 ++ [⟨s.seq + d, 0⟩]), whn := upd s.whn 1 (s.whn 1 ++ [s.now]) } :=
 { h with
  seq0 := by have := h.seq0;dsimp only;omega
  seq1 := by dsimp only;omega
  tr := fun a x hx => by
   obtain ⟨g1, g2, g3, g4, g5⟩ := h.tr a x hx
   exact ⟨g1, g2, g3, g4, g5.mono (by dsimp only;omega)⟩
  ts := fun a x hx => by
   obtain ⟨j, w, g1, g2, g3⟩ := h.ts a x hx
   refine ⟨j, w, ?_, ?_, g3⟩
   ·dsimp only [upd]
    split
    ·rename_i e
     rw [e] at g1
     exact idx_keep g1
    ·exact g1
   ·dsimp only [upd]
    split
    ·rename_i e
     rw [e] at g2
     exact idx_keep g2
    ·exact g2
  sl := fun a => by
   dsimp only [upd]
   split
   ·simp [h.sl 1]
   ·exact h.sl a
  sm := fun a => by
   dsimp only [upd]
   split
   ·have := hl 1
    simp
    omega
   ·exact h.sm a
  sd := fun a d' hd => by
   dsimp only [upd] at hd ⊢
   have hs := h.seq0
   split at hd
   ·rcases List.mem_append.1 hd with hd | hd
    ·exact (h.sd 1 d' hd).mono (by omega)
    ·simp at hd
     subst hd
     exact ⟨by dsimp only;omega, by dsimp only;omega, by dsimp only;omega, by dsimp only;omega⟩
   ·exact (h.sd a d' hd).mono (by omega)
  sw := fun a w hw => by
   dsimp only [upd] at hw ⊢
   have := h.now0
   split at hw
   ·rcases List.mem_append.1 hw with hw | hw
    ·exact h.sw 1 w hw
    ·simp at hw
     omega
   ·exact h.sw a w hw
  sf := fun b hb j d' w hd hw hn => by
   dsimp only at hd hw hn ⊢
   rw [upd_other hb] at hd hw
   exact h.sf b hb j d' w hd hw hn
  fr := fun a x hx => by
   obtain ⟨g1, g2, g3⟩ := h.fr a x hx
   exact ⟨g1, g2, g3.mono (by dsimp only;omega)⟩ }
/-- what a neighbour has said is learnt -/
theorem Inv.learn (h : Inv n i 0 s) (hi : i ≤ 60) (hn : n ≤ 5) {a b : Nat} (ha : a ≠ 1) (hb : 1 ≤ b) (hbn : b ≤ n) (hl : (s.tab a).length < i) {j : Nat} {d : DisV} {w : Int} (hd : (s.said b)[j]? = some d) (hw : (s.whn b)[j]? = some w) (hnow : s.now - 3 ≤ w) :
  (learnV (s.tab a) s.now toNC b d).2 = 0 ∧ Inv n i a { s with tab := upd s.tab a (learnV (s.tab a) s.now toNC b d).1 } := by
 have hdo := h.sd b d (List.mem_of_getElem? hd)
 have hm : d.met ≠ inf := by have := hdo.m1;unfold inf;omega
 have hv : learnV (s.tab a) s.now toNC b d = (putR (s.tab a) ⟨toNC, b, d, laterV s.now 10⟩ false, 0) := by
  have hlen : ¬ 512 < (learnV (s.tab a) s.now toNC b d).1.length := by
   have := learn_len (l := s.tab a) (now := s.now) (t := toNC) (nb := b) (d := d)
   omega
  have hval : validM d.met = true := by
   have := hdo.m0;have := hdo.m1
   unfold validM;simp;omega
  have e1 : ¬ (!validRs (s.tab a) || !validT toNC || !validM d.met || decide ((b : Int) = 0)) = true := by
   rw [h.tv a, toNC_val, hval]
   simp
   omega
  unfold learnV at hlen ⊢
  rw [if_neg e1, if_neg (by rw [h.time hi];simp), decide_eq_false hm] at hlen ⊢
  have h2 : ¬ 512 < (putR (s.tab a) ⟨toNC, b, d, laterV s.now 10⟩ false).length := fun hc => by
   have hr : (putR (s.tab a) ⟨toNC, b, d, laterV s.now 10⟩ false).length ≤ (s.tab a).length + 1 := by
    have hlen2 := learn_len (l := s.tab a) (now := s.now) (t := toNC) (nb := b) (d := d)
    unfold putR
    simp only [List.length_append]
    have q1 : (lowR (s.tab a) ⟨toNC, b, d, laterV s.now 10⟩).length + (highR (s.tab a) ⟨toNC, b, d, laterV s.now 10⟩).length ≤ (s.tab a).length := by
     unfold lowR highR
     generalize s.tab a = l
     induction l with
     | nil => simp
     | cons z l ih =>
      simp only [List.filter_cons]
      by_cases c1 : cmpR z ⟨toNC, b, d, laterV s.now 10⟩ < 0
      ·have c2 : ¬ 0 < cmpR z ⟨toNC, b, d, laterV s.now 10⟩ := by omega
       simp only [c1, c2, decide_true, decide_false, if_true, List.length_cons]
       simp only [Bool.false_eq_true, if_false]
       omega
      ·by_cases c2 : 0 < cmpR z ⟨toNC, b, d, laterV s.now 10⟩
       ·simp only [c1, c2, decide_true, decide_false, if_true, List.length_cons]
        simp only [Bool.false_eq_true, if_false]
        omega
       ·simp only [c1, c2, decide_false, List.length_cons]
        simp only [Bool.false_eq_true, if_false]
        omega
    simp only [Bool.false_eq_true, if_false, List.length_singleton]
    omega
   omega
  rw [if_neg h2]
 have h20 : (learnV (s.tab a) s.now toNC b d).2 = 0 := by rw [hv]
 have hmem : ∀ x ∈ (learnV (s.tab a) s.now toNC b d).1, x = ⟨toNC, b, d, laterV s.now 10⟩ ∨ x ∈ s.tab a := fun x hx => by
  rw [hv] at hx
  rcases mem_putR.1 hx with ⟨_, h1⟩ | ⟨h1, _⟩
  ·exact .inl h1
  ·exact .inr h1
 refine ⟨h20, ?_⟩
 refine { h with tv := ?_, tr := ?_, tl := ?_, t1 := ?_, ts := ?_, ff := ?_ }
 ·intro c
  dsimp only [upd]
  split
  ·exact learn_valid h20
  ·exact h.tv c
 ·intro c x hx
  dsimp only [upd] at hx ⊢
  split at hx
  ·rcases hmem x hx with rfl | hx
   ·exact ⟨⟨toNC_is, trivial⟩, rfl, by dsimp only;omega, by dsimp only;omega, hdo⟩
   ·exact h.tr a x hx
  ·exact h.tr c x hx
 ·intro c
  dsimp only [upd]
  split
  ·have := learn_len (l := s.tab a) (now := s.now) (t := toNC) (nb := b) (d := d)
   omega
  ·exact h.tl c
 ·dsimp only
  rw [upd_other (fun e => ha e.symm)]
  exact h.t1
 ·intro c x hx
  dsimp only [upd] at hx ⊢
  split at hx
  ·rcases hmem x hx with rfl | hx
   ·refine ⟨j, w, by simpa using hd, by simpa using hw, ?_⟩
    have := h.now1
    dsimp only
    rw [later_is (by omega) (by omega)]
    omega
   ·exact h.ts a x hx
  ·exact h.ts c x hx
 ·intro c hc x hx h0 y hy h1 h2 e he
  dsimp only at hy
  rw [upd_other hc] at hy
  exact h.ff' hx h0 hy h1 h2 he
/-- a neighbour is lost, or routes are -/
theorem Inv.fewer (h : Inv n i 0 s) {a : Nat} {l : List RouV} (hs : l.Sublist (s.tab a)) : Inv n i a { s with tab := upd s.tab a l } := by
 refine { h with tv := ?_, tr := ?_, tl := ?_, t1 := ?_, ts := ?_, ff := ?_ }
 ·intro c
  dsimp only [upd]
  split
  ·obtain ⟨g1, g2, g3⟩ := validRs_iff.1 (h.tv a)
   exact validRs_iff.2 ⟨Nat.le_trans hs.length_le g1, fun x hx => g2 x (hs.subset hx), g3.sublist hs⟩
  ·exact h.tv c
 ·intro c x hx
  dsimp only [upd] at hx
  split at hx
  ·exact h.tr a x (hs.subset hx)
  ·exact h.tr c x hx
 ·intro c
  dsimp only [upd]
  split
  ·exact Nat.le_trans hs.length_le (h.tl a)
  ·exact h.tl c
 ·dsimp only [upd]
  split
  ·rename_i e
   rw [← e, h.t1] at hs
   exact List.sublist_nil.1 hs
  ·exact h.t1
 ·intro c x hx
  dsimp only [upd] at hx
  split at hx
  ·exact h.ts a x (hs.subset hx)
  ·exact h.ts c x hx
 ·intro c hc x hx h0 y hy h1 h2 e he
  dsimp only at hy
  rw [upd_other hc] at hy
  exact h.ff' hx h0 hy h1 h2 he
theorem forget_sub (l : List RouV) (nb : Int) : (forgetV l nb).Sublist l := by
 unfold forgetV withoutV
 split
 ·exact List.filter_sublist
 ·exact sC0 _
def sexpV (l : List SrcV) (now : Int) : List SrcV := if validSs l && isTime now then l.filter (fun x => !decide (x.til ≤ now)) else []
/-- old entries go -/
theorem Inv.expire (h : Inv n i sk s) (hi : i ≤ 60) (a : Nat) : Inv n i sk { s with fd := upd s.fd a (sexpV (s.fd a) s.now) } := by
 have e : sexpV (s.fd a) s.now = (s.fd a).filter (fun x => !decide (x.til ≤ s.now)) := by
  unfold sexpV
  rw [h.fv a, h.time hi]
  rfl
 have hs : (sexpV (s.fd a) s.now).Sublist (s.fd a) := by rw [e];exact List.filter_sublist
 refine { h with sf := ?_, fv := ?_, fr := ?_, ff := ?_ }
 ·intro b hb j d w hd hw hn
  obtain ⟨e', h1, h2, h3⟩ := h.sf b hb j d w hd hw hn
  dsimp only [upd] at hn ⊢
  split
  ·rename_i hba
   subst hba
   refine ⟨e', ?_, h2, h3⟩
   rw [e, List.mem_filter]
   exact ⟨h1, by simp;omega⟩
  ·exact ⟨e', h1, h2, h3⟩
 ·intro c
  dsimp only [upd]
  split
  ·obtain ⟨g1, g2, g3⟩ := validSs_iff.1 (h.fv a)
   exact validSs_iff.2 ⟨Nat.le_trans hs.length_le g1, fun x hx => g2 x (hs.subset hx), g3.sublist hs⟩
  ·exact h.fv c
 ·intro c x hx
  dsimp only [upd] at hx
  split at hx
  ·exact h.fr a x (hs.subset hx)
  ·exact h.fr c x hx
 ·intro c hc x hx h0 y hy h1 h2 e' he
  refine h.ff c hc x hx h0 y hy h1 h2 e' ?_
  dsimp only [upd] at he
  split at he
  ·rename_i hca
   rw [hca]
   exact hs.subset he
  ·exact he
/-- what Select has chosen -/
structure Sel (a : Nat) (s : NC) : Prop where
 f : ∀ x ∈ s.ins a, x.nb ≠ 0 → DOk s.seq x.own ∧ 1 ≤ x.nb ∧ ∀ y ∈ s.tab a, y.nb = x.nb → s.now < y.til → keyQ y.said < keyQ x.own ∧ ∀ e ∈ s.fd a, s.now < e.til → keyQ y.said < keyQ e.bst
 c : ∀ e ∈ s.fd a, s.now < e.til
theorem Inv.select {a : Nat} (h : Inv n i a s) (hi : i ≤ 60) (ha1 : a ≠ 1) (ha0 : a ≠ 0) (hc : ∀ e ∈ s.fd a, s.now < e.til) {o : List OptV} (ho : validOs o = true) :
  (selectV s.now (expireV (s.tab a) s.now) (s.fd a) o (s.ins a)).2 = 0 ∧ Inv n i 0 { s with ins := upd s.ins a (selectV s.now (expireV (s.tab a) s.now) (s.fd a) o (s.ins a)).1 } ∧ Sel a { s with ins := upd s.ins a (selectV s.now (expireV (s.tab a) s.now) (s.fd a) o (s.ins a)).1 } := by
 have hx := expire_val (h.tv a) (h.time hi)
 have hs : (expireV (s.tab a) s.now).Sublist (s.tab a) := by rw [hx];exact List.filter_sublist
 obtain ⟨g1, g2, g3⟩ := validRs_iff.1 (h.tv a)
 have hv : validRs (expireV (s.tab a) s.now) = true := validRs_iff.2 ⟨Nat.le_trans hs.length_le g1, fun x hx => g2 x (hs.subset hx), g3.sublist hs⟩
 have hro : ∀ x ∈ expireV (s.tab a) s.now, IsRo x := fun x hx => (h.tr a x (hs.subset hx)).1
 have hin : ∀ x ∈ s.ins a, IsIn x := fun x hx => (h.ir a x hx).1
 have hok := sel_ok (o := o) hro hin hv (h.fv a) ho (h.iv a) (h.time hi) (by
  have := hs.length_le
  have := h.tl a
  have := h.ione a
  omega)
 have h0 : (selectV s.now (expireV (s.tab a) s.now) (s.fd a) o (s.ins a)).2 = 0 := by rw [hok]
 have hval := sel_valid hro hin h0
 have hisI := (sel_isI (now := s.now) (s := s.fd a) (links := o) hro hin).1
 have hto : ∀ x ∈ (selectV s.now (expireV (s.tab a) s.now) (s.fd a) o (s.ins a)).1, x.to = toNC := fun x hx => by
  rw [hok] at hx
  obtain ⟨t, ht, h1⟩ := List.mem_filterMap.1 hx
  rw [selE_to h1]
  rcases (mem_dests hro hin).1 ht with ⟨r, hr, rfl⟩ | ⟨r, hr, rfl⟩
  ·exact (h.tr a r (hs.subset hr)).2.1
  ·exact (h.ir a r hr).2
 have key : ∀ x ∈ (selectV s.now (expireV (s.tab a) s.now) (s.fd a) o (s.ins a)).1, x.nb ≠ 0 → DOk s.seq x.own ∧ 1 ≤ x.nb ∧ ∀ y ∈ s.tab a, y.nb = x.nb → s.now < y.til → keyQ y.said < keyQ x.own ∧ ∀ e ∈ s.fd a, s.now < e.til → keyQ y.said < keyQ e.bst := fun x hx hnb => by
  have hx0 := (validIs_iff.1 hval).2.1 x hx
  rw [hok] at hx
  obtain ⟨y', hy', z, _, e1, e2, e3, _, _, e4, e5, e6⟩ := feas_law hro hv hx hnb
  obtain ⟨k1, k2, k3, k4, k5⟩ := h.tr a y' (hs.subset hy')
  have hfin : finD x.own = true := by
   unfold ins1 at hx0
   rw [if_neg hnb] at hx0
   simp only [Bool.and_eq_true] at hx0
   exact hx0.2.1.1
  have hown : DOk s.seq x.own := by
   unfold finD validM inf at hfin
   simp at hfin
   have := k5.m0;have := k5.s0;have := k5.s1
   exact ⟨by rw [e6];omega, by rw [e6];omega, by omega, by omega⟩
  refine ⟨hown, by omega, fun y hy hyn hyt => ?_⟩
  have hyy : y = y' := rou_one (fun x hx => (h.tr a x hx).1) (h.tv a) hy (hs.subset hy') (by rw [(h.tr a y hy).2.1, k2]) (by rw [hyn, e2])
  subst hyy
  refine ⟨?_, fun e he het => ?_⟩
  ·unfold keyQ
   rw [e6]
   omega
  ·have hb : bestS (s.fd a) s.now x.to = some e.bst := by
    unfold bestS
    have hf : (s.fd a).find? (fun x' => decide (x'.to = x.to) && decide (s.now < x'.til)) = some e := by
     have hone := h.fone a
     match hl : s.fd a, hone, he with
     | [e0], _, he =>
      simp at he
      subst he
      have hto' := (h.fr a e (by rw [hl];simp)).2.1
      simp [List.find?_cons, hto', ← e1, k2, het]
    rw [hf]
    rfl
   unfold feasV at e4
   rw [hb, Bool.and_eq_true] at e4
   have hsq := h.seq1
   exact (better_iff (m := s.seq) (by omega) k5 (h.fr a e he).2.2).1 e4.2
 refine ⟨h0, ?_, ?_, ?_⟩
 ·refine { h with iv := ?_, ir := ?_, i0 := ?_, i1 := ?_, ff := ?_ }
  ·intro c
   dsimp only [upd]
   split
   ·exact hval
   ·exact h.iv c
  ·intro c x hx
   dsimp only [upd] at hx
   split at hx
   ·exact ⟨hisI x hx, hto x hx⟩
   ·exact h.ir c x hx
  ·dsimp only
   rw [upd_other (fun e => ha0 e.symm)]
   exact h.i0
  ·dsimp only
   rw [upd_other (fun e => ha1 e.symm)]
   exact h.i1
  ·intro c hc x hx hnb y hy h1 h2 e he
   dsimp only [upd] at hx
   split at hx
   ·rename_i hca
    subst hca
    exact ((key x hx hnb).2.2 y hy h1 h2).2 e he (‹∀ e ∈ s.fd c, s.now < e.til› e he)
   ·rename_i hca
    exact h.ff c hca x hx hnb y hy h1 h2 e he
 ·intro x hx hnb
  dsimp only at hx
  rw [upd_same] at hx
  exact key x hx hnb
 ·exact hc
theorem putS_all {l : List SrcV} {x : SrcV} (h : ∀ y ∈ l, y.to = x.to) : putS l x = [x] := by
 unfold putS
 have h1 : l.filter (fun y => decide (cmpD y.to x.to < 0)) = [] := List.filter_eq_nil_iff.2 fun y hy => by rw [h y hy, cmpD_self];simp
 have h2 : l.filter (fun y => decide (0 < cmpD y.to x.to)) = [] := List.filter_eq_nil_iff.2 fun y hy => by rw [h y hy, cmpD_self];simp
 rw [h1, h2]
 rfl
/-- what is announced is recorded -/
theorem Inv.record {a : Nat} (h : Inv n i 0 s) (hS : Sel a s) (hi : i ≤ 60) {x : InsV} (hx : x ∈ s.ins a) (hnb : x.nb ≠ 0) (hl : (s.said a).length < i) :
  (recordV (s.fd a) s.now toNC x.own).2 = 0 ∧ Inv n i 0 { s with fd := upd s.fd a (recordV (s.fd a) s.now toNC x.own).1, said := upd s.said a (s.said a ++ [x.own]), whn := upd s.whn a (s.whn a ++ [s.now]) } := by
 have hsq := h.seq1
 have hnow := h.now1
 obtain ⟨hown, _, _⟩ := hS.f x hx hnb
 have hput := putS_all (l := s.fd a) (x := newS (s.fd a) s.now toNC x.own) fun y hy => (h.fr a y hy).2.1
 have hval : validM x.own.met = true := by
  have := hown.m0;have := hown.m1
  unfold validM;simp;omega
 have hr : recordV (s.fd a) s.now toNC x.own = ([newS (s.fd a) s.now toNC x.own], 0) := by
  have e1 : ¬ (!validSs (s.fd a) || !validT toNC || !validM x.own.met || decide (x.own.met = 65535)) = true := by
   have := hown.m1
   rw [h.fv a, toNC_val, hval]
   simp
   omega
  unfold recordV
  rw [if_neg e1, if_neg (by rw [h.time hi];simp), hput, if_neg (by simp)]
 have hl20 : (newS (s.fd a) s.now toNC x.own).til = s.now + 20 := later_is (by omega) (by omega)
 have hbst : ((newS (s.fd a) s.now toNC x.own).bst = x.own ∨ ∃ e ∈ s.fd a, (newS (s.fd a) s.now toNC x.own).bst = e.bst) ∧ keyQ (newS (s.fd a) s.now toNC x.own).bst ≤ keyQ x.own ∧ ∀ e ∈ s.fd a, keyQ (newS (s.fd a) s.now toNC x.own).bst ≤ keyQ e.bst := by
  have hone := h.fone a
  match hf : s.fd a, hone with
  | [], _ => exact ⟨.inl rfl, Int.le_refl _, by simp⟩
  | [e], _ =>
   have h1 := h.fr a e (by rw [hf];simp)
   have h2 := hS.c e (by rw [hf];simp)
   have hb : (newS [e] s.now toNC x.own).bst = lowQ x.own e.bst := by
    have : bestS [e] s.now toNC = some e.bst := by
     unfold bestS
     simp [List.find?_cons, h1.2.1, h2]
    unfold newS
    rw [this]
   obtain ⟨q1, q2, q3⟩ := lowQ_is (m := s.seq) (by omega) hown h1.2.2
   rw [hb]
   refine ⟨q1.imp id fun q => ⟨e, by simp, q⟩, q2, fun e' he' => ?_⟩
   simp at he'
   subst he'
   exact q3
 have hdk : DOk s.seq (newS (s.fd a) s.now toNC x.own).bst := by
  rcases hbst.1 with e | ⟨e, he, e2⟩
  ·rw [e];exact hown
  ·rw [e2];exact (h.fr a e he).2.2
 have h20 : (recordV (s.fd a) s.now toNC x.own).2 = 0 := by rw [hr]
 refine ⟨h20, ?_⟩
 have hfd : ∀ y ∈ (recordV (s.fd a) s.now toNC x.own).1, y = newS (s.fd a) s.now toNC x.own := fun y hy => by rw [hr] at hy;simpa using hy
 refine { h with ts := ?_, sl := ?_, sm := ?_, sd := ?_, sw := ?_, sf := ?_, fv := ?_, fr := ?_, ff := ?_ }
 ·intro c y hy
  obtain ⟨j, w, g1, g2, g3⟩ := h.ts c y hy
  refine ⟨j, w, ?_, ?_, g3⟩
  ·dsimp only [upd]
   split
   ·rename_i e
    rw [e] at g1
    exact idx_keep g1
   ·exact g1
  ·dsimp only [upd]
   split
   ·rename_i e
    rw [e] at g2
    exact idx_keep g2
   ·exact g2
 ·intro c
  dsimp only [upd]
  split
  ·simp [h.sl a]
  ·exact h.sl c
 ·intro c
  dsimp only [upd]
  split
  ·simp
   omega
  ·exact h.sm c
 ·intro c d hd
  dsimp only [upd] at hd ⊢
  split at hd
  ·rcases List.mem_append.1 hd with hd | hd
   ·exact h.sd a d hd
   ·simp at hd
    subst hd
    exact hown
  ·exact h.sd c d hd
 ·intro c w hw
  dsimp only [upd] at hw ⊢
  have := h.now0
  split at hw
  ·rcases List.mem_append.1 hw with hw | hw
   ·exact h.sw a w hw
   ·simp at hw
    omega
  ·exact h.sw c w hw
 ·intro b hb j d w hd hw hn
  dsimp only [upd] at hd hw hn ⊢
  by_cases hba : b = a
  ·subst hba
   rw [if_pos rfl] at hd hw ⊢
   refine ⟨newS (s.fd b) s.now toNC x.own, by rw [hr];simp, ?_, ?_⟩
   ·rw [hl20]
    rcases idx_app hw with hw | ⟨_, rfl⟩
    ·have := h.sw b w (List.mem_of_getElem? hw)
     omega
    ·omega
   ·rcases idx_app hd with hd | ⟨_, rfl⟩
    ·rcases idx_app hw with hw | ⟨hj, _⟩
     ·obtain ⟨e, he, _, e3⟩ := h.sf b hb j d w hd hw hn
      exact Int.le_trans (hbst.2.2 e he) e3
     ·have := (List.getElem?_eq_some_iff.1 hd).1
      rw [h.sl b] at this
      omega
    ·exact hbst.2.1
  ·rw [if_neg hba] at hd hw ⊢
   exact h.sf b hb j d w hd hw hn
 ·intro c
  dsimp only [upd]
  split
  ·exact record_valid h20
  ·exact h.fv c
 ·intro c y hy
  dsimp only [upd] at hy
  split at hy
  ·rw [hfd y hy]
   exact ⟨⟨toNC_is, trivial⟩, rfl, hdk⟩
  ·exact h.fr c y hy
 ·intro c _ x' hx' hnb' y hy h1 h2 e he
  dsimp only [upd] at he
  split at he
  ·rename_i hca
   subst hca
   rw [hfd e he]
   obtain ⟨_, _, g⟩ := hS.f x' hx' hnb'
   obtain ⟨g1, g2⟩ := g y hy h1 h2
   rcases hbst.1 with e1 | ⟨e1, he1, e2⟩
   ·rw [e1]
    have hxx : x' = x := by
     have hone := h.ione c
     match hf : s.ins c, hone, hx, hx' with
     | [z], _, hx, hx' =>
      simp at hx hx'
      rw [hx, hx']
    rw [← hxx]
    exact g1
   ·rw [e2]
    exact g2 e1 he1 (hS.c e1 he1)
  ·exact h.ff' hx' hnb' hy h1 h2 he
def nhV (ins : Nat → List InsV) (tab : Nat → List RouV) (now : Int) (a : Nat) : Int :=
 (ins a).foldl (fun o x => (tab a).foldl (fun o y => if x.nb ≠ 0 ∧ y.nb = x.nb ∧ now < y.til then x.nb else o) o) (-1)
def nextsV (n : Nat) (ins : Nat → List InsV) (tab : Nat → List RouV) (now : Int) : List Int := (List.range (n + 1)).map (nhV ins tab now)
def fol (next : List Int) : Nat → Int → Int
 | 0, at_ => at_
 | k + 1, at_ => if 0 ≤ at_ then fol next k ((next[at_.toNat]?).getD 0) else at_
def loopV (next : List Int) : Bool := (List.range next.length).any fun i => decide (0 ≤ fol next (next.length + 1) i)
theorem fold_or {α : Type} {p : α → Int → Prop} {f : Int → α → Int} : ∀ (l : List α) (o : Int), (∀ o x, x ∈ l → f o x = o ∨ p x (f o x)) → l.foldl f o = o ∨ ∃ x ∈ l, p x (l.foldl f o)
 | [], _, _ => .inl rfl
 | x :: l, o, h => by
  rw [List.foldl_cons]
  rcases fold_or l (f o x) (fun o y hy => h o y (List.mem_cons_of_mem _ hy)) with h1 | ⟨y, hy, h1⟩
  ·rw [h1]
   exact (h o x (by simp)).imp id fun h2 => ⟨x, by simp, h2⟩
  ·exact .inr ⟨y, List.mem_cons_of_mem _ hy, h1⟩
/-- what a next hop rests on -/
def Yof (s : NC) (a : Nat) (b : Int) (y : RouV) : Prop := ∃ x ∈ s.ins a, y ∈ s.tab a ∧ x.nb ≠ 0 ∧ y.nb = x.nb ∧ s.now < y.til ∧ b = x.nb
theorem nhV_is (s : NC) (a : Nat) : nhV s.ins s.tab s.now a = -1 ∨ ∃ y, Yof s a (nhV s.ins s.tab s.now a) y := by
 unfold nhV
 rcases fold_or (f := fun o x => (s.tab a).foldl (fun o y => if x.nb ≠ 0 ∧ y.nb = x.nb ∧ s.now < y.til then x.nb else o) o) (p := fun x b => ∃ y, y ∈ s.tab a ∧ x.nb ≠ 0 ∧ y.nb = x.nb ∧ s.now < y.til ∧ b = x.nb) (s.ins a) (-1) (fun o x hx => fold_or (f := fun o y => if x.nb ≠ 0 ∧ y.nb = x.nb ∧ s.now < y.til then x.nb else o) (p := fun y b => x.nb ≠ 0 ∧ y.nb = x.nb ∧ s.now < y.til ∧ b = x.nb) (s.tab a) o (fun o y hy => by
  split
  ·rename_i h
   exact .inr ⟨h.1, h.2.1, h.2.2, rfl⟩
  ·exact .inl rfl)) with h | ⟨x, hx, y, hy, h⟩
 ·exact .inl h
 ·exact .inr ⟨y, x, hx, hy, h⟩
theorem Inv.edge (h : Inv n i 0 s) {a : Nat} {b c : Int} {y y' : RouV} (h1 : Yof s a b y) (h2 : Yof s b.toNat c y') : keyQ y'.said < keyQ y.said := by
 obtain ⟨x, hx, hy, h3, h4, h5, rfl⟩ := h1
 obtain ⟨x', hx', hy', g3, g4, g5, _⟩ := h2
 obtain ⟨j, w, k1, k2, k3⟩ := h.ts a y hy
 have hb1 : x.nb.toNat ≠ 1 := fun e => by
  rw [e, h.i1] at hx'
  cases hx'
 rw [h4] at k1 k2
 obtain ⟨e, he, _, e2⟩ := h.sf _ hb1 j _ w k1 k2 (by omega)
 exact Int.lt_of_lt_of_le (h.ff' hx' g3 hy' g4 g5 he) e2
open Classical in
noncomputable def psi (s : NC) (a : Int) : Int := if h : ∃ y b, Yof s a.toNat b y then keyQ (Classical.choose h).said else 0
theorem psi_is {s : NC} {a b : Int} {y : RouV} (h : Yof s a.toNat b y) : ∃ b' y', Yof s a.toNat b' y' ∧ psi s a = keyQ y'.said := by
 have hh : ∃ y b, Yof s a.toNat b y := ⟨y, b, h⟩
 obtain ⟨b', h1⟩ := Classical.choose_spec hh
 refine ⟨b', _, h1, ?_⟩
 unfold psi
 rw [dif_pos hh]
theorem Yof.same (h : Inv n i 0 s) {a : Nat} {b b' : Int} {y y' : RouV} (h1 : Yof s a b y) (h2 : Yof s a b' y') : b = b' := by
 obtain ⟨x, hx, _, _, _, _, rfl⟩ := h1
 obtain ⟨x', hx', _, _, _, _, rfl⟩ := h2
 have hone := h.ione a
 match hf : s.ins a, hone, hx, hx' with
 | [z], _, hx, hx' =>
  simp at hx hx'
  rw [hx, hx']
theorem next_at {n : Nat} {s : NC} {a : Int} (h0 : 0 ≤ a) (h1 : a ≤ n) : ((nextsV n s.ins s.tab s.now)[a.toNat]?).getD 0 = nhV s.ins s.tab s.now a.toNat := by
 unfold nextsV
 rw [List.getElem?_map, List.getElem?_range (by omega)]
 rfl
theorem Inv.path (h : Inv n i 0 s) : ∀ (k : Nat) (a : Int), 0 ≤ a → a ≤ n → 0 ≤ fol (nextsV n s.ins s.tab s.now) (k + 1) a →
  ∃ T : List Int, T.length = k ∧ (∀ z ∈ T, 0 ≤ z ∧ z ≤ n ∧ psi s z < psi s a) ∧ T.Pairwise (fun u v => psi s v < psi s u) ∧ ∃ y, Yof s a.toNat (nhV s.ins s.tab s.now a.toNat) y
 | 0, a, h0, h1, hf => by
  unfold fol fol at hf
  rw [if_pos h0, next_at h0 h1] at hf
  exact ⟨[], rfl, by simp, by simp, (nhV_is s a.toNat).resolve_left (by omega)⟩
 | k + 1, a, h0, h1, hf => by
  unfold fol at hf
  rw [if_pos h0, next_at h0 h1] at hf
  have hnx : 0 ≤ nhV s.ins s.tab s.now a.toNat := by
   by_cases hc : 0 ≤ nhV s.ins s.tab s.now a.toNat
   ·exact hc
   ·unfold fol at hf
    rw [if_neg hc] at hf
    exact hf
  obtain ⟨y, hy⟩ := (nhV_is s a.toNat).resolve_left (by omega)
  have hle : nhV s.ins s.tab s.now a.toNat ≤ n := by
   obtain ⟨x, _, hyt, _, e1, _, e2⟩ := hy
   have := (h.tr _ y hyt).2.2.2.1
   omega
  obtain ⟨T, h2, h3, h4, y2, h5⟩ := h.path k _ hnx hle hf
  have hlt : psi s (nhV s.ins s.tab s.now a.toNat) < psi s a := by
   obtain ⟨b1, y1, g1, g2⟩ := psi_is hy
   obtain ⟨b3, y3, g3, g4⟩ := psi_is h5
   rw [g2, g4]
   have := Yof.same h g1 hy
   subst this
   exact h.edge g1 g3
  refine ⟨nhV s.ins s.tab s.now a.toNat :: T, by simp [h2], fun z hz => ?_, List.pairwise_cons.2 ⟨fun z hz => (h3 z hz).2.2, h4⟩, y, hy⟩
  rcases List.mem_cons.1 hz with rfl | hz
  ·exact ⟨hnx, hle, hlt⟩
  ·have := h3 z hz
   exact ⟨this.1, this.2.1, by omega⟩
/-- no next hops form a circle -/
theorem Inv.noCircle (h : Inv n i 0 s) : loopV (nextsV n s.ins s.tab s.now) = false := by
 have hlen : (nextsV n s.ins s.tab s.now).length = n + 1 := by simp [nextsV]
 unfold loopV
 rw [hlen, List.any_eq_false]
 intro k hk
 have hk' := List.mem_range.1 hk
 simp only [decide_eq_true_eq]
 intro hf
 obtain ⟨T, h1, h2, h3, _⟩ := h.path (n + 1) k (by omega) (by omega) hf
 have hnd : ((k : Int) :: T).Nodup := by
  refine List.nodup_cons.2 ⟨fun hc => Int.lt_irrefl _ (h2 _ hc).2.2, ?_⟩
  exact h3.imp fun {u v} hlt e => by
   subst e
   exact Int.lt_irrefl _ hlt
 have := nodup_le (ys := (List.range (n + 1)).map Int.ofNat) hnd fun z hz => by
  rw [List.mem_map]
  rcases List.mem_cons.1 hz with rfl | hz
  ·exact ⟨k, List.mem_range.2 hk', rfl⟩
  ·have := h2 z hz
   exact ⟨z.toNat, List.mem_range.2 (by omega), by show ((z.toNat : Nat) : Int) = z;omega⟩
 simp at this
 omega
end
end Go.Proofs.YtilgoepokaaleaaGreat
/-! Lib8 -/
namespace Go.Proofs.YtilgoepokaaleaaGreat
set_option linter.unusedVariables false
set_option linter.unusedSimpArgs false
open Go.RowKit
/-- what has been turned, or made of it -/
theorem Mem.joinB {S : List Nat} {W0 w w' : World} {l0 r new : List (Nat × Obj)} (M : Mem S W0 w (l0 ++ r)) (N : Mem (l0.map (·.1)) w w' new) : Mem S W0 w' (new ++ r) := by
 have hnd := M.nd
 simp only [List.map_append, List.nodup_append] at hnd
 have hE : Ext S W0 w' := (M.ext.mono (S' := S ++ l0.map (·.1)) fun k hk => List.mem_append_left _ hk).trans (N.ext.mono fun k hk => List.mem_append_right _ hk) |>.fresh fun k hk => by
  rcases List.mem_append.1 hk with h | h
  ·exact .inl h
  ·obtain ⟨q, hq, rfl⟩ := List.mem_map.1 h
   exact M.own q (List.mem_append_left _ hq)
 have hr : ∀ p ∈ r, p.1 ∉ l0.map (·.1) := fun p hp hc => hnd.2.2 _ hc _ (List.mem_map.2 ⟨p, hp, rfl⟩) rfl
 refine ⟨hE, fun p hp => ?_, ?_, fun p hp => ?_⟩
 ·rcases List.mem_append.1 hp with h | h
  ·exact N.at_ p h
  ·exact (N.ext.block p.1 (M.lt (List.mem_append_right _ h)) (hr p h)).trans (M.at_ p (List.mem_append_right _ h))
 ·simp only [List.map_append, List.nodup_append]
  refine ⟨N.nd, hnd.2.1, fun a ha b hb e => ?_⟩
  obtain ⟨p, hp, rfl⟩ := List.mem_map.1 ha
  obtain ⟨q, hq, rfl⟩ := List.mem_map.1 hb
  rcases N.own p hp with h | h
  ·exact hr q hq (e ▸ h)
  ·have := M.lt (List.mem_append_right _ hq)
   omega
 ·rcases List.mem_append.1 hp with h | h
  ·rcases N.own p h with h1 | h1
   ·obtain ⟨q, hq, e⟩ := List.mem_map.1 h1
    rw [← e]
    exact M.own q (List.mem_append_left _ hq)
   ·exact .inr (Nat.le_trans M.ext.size h1)
  ·exact M.own p (List.mem_append_right _ h)
theorem NwS.staysBut {n0 len : Nat} {o : Obj} {B : List Nat} (hB : ∀ b ∈ B, b < n0) : Stays (keepBut B) (NwS n0 len o) := fun v w w' ⟨b, h1, h2, h3⟩ h => ⟨b, h1, h2, by
 rw [Ext.block h b (Array.getElem?_eq_some_iff.1 h3).1 (fun hb => Nat.lt_irrefl _ (Nat.lt_of_lt_of_le (hB b hb) h2))];exact h3⟩
def IsT2 (v : Value) : Prop := ∃ x y, v = .tuple #[x, y]
/-- what is known of slots that are not told -/
inductive XP
 | nw (len : Nat) (o : Obj)
 | t2
 | any
def XP.pred (n0 : Nat) : XP → Pred
 | .nw len o => NwS n0 len o
 | .t2 => fun v _ => IsT2 v
 | .any => fun _ _ => True
theorem XP.stays {n0 : Nat} {B : List Nat} (hB : ∀ b ∈ B, b < n0) : ∀ x : XP, Stays (keepBut B) (x.pred n0)
 | .nw _ _ => NwS.staysBut hB
 | .t2 => fun _ _ _ h _ => h
 | .any => fun _ _ _ h _ => h
structure RX where
 ol : List Oper
 n : Nat
 B : List Nat
 Ef : List Nat
 Rl : List (Nat × Nat)
 lk : Row
abbrev ESt := List (Nat × Value) → Row → Prop
def ET (c : Cx) (E : ESt) : SPred := fun σ w => ∃ sl l, E sl l ∧ (∀ q ∈ sl, σ q.1 = q.2) ∧ Mem c.S c.W w l.flatten
/-- the rest of such a region: fr: what is told;xs: what is known of others;E: the chain's state -/
def FE (c : Cx) (Q : Exit → Act → World → Prop) (ks : List KF) (x : RX) (k : Nat) (rest : List Oper) (fr : List (Nat × Value)) (xs : List (Nat × XP)) (E : ESt) : Prop :=
 (∀ sl l, E sl l → ∀ q ∈ sl, q.1 < k) → ∀ a w Vs, (∀ w', Ext x.B w w' → Mem c.S c.W w' x.lk.flatten) → (∀ b ∈ x.B, b < w.heap.size) → regOk x.ol.toArray x.n = true → (∀ q ∈ xs, Vs[q.1]? = some (q.2.pred w.heap.size)) →
  MW ⟨keepBut x.B, x.Ef, [], c.P, c.r, x.ol.toArray, x.n, c.n, c.df, a, w, KQ c Q ks, [], x.Rl⟩ k rest fr Vs (ET c E)
theorem xs_app {xs : List (Nat × XP)} {n0 : Nat} {Vs : List Pred} {V : Pred} (h : ∀ q ∈ xs, Vs[q.1]? = some (q.2.pred n0)) : ∀ q ∈ xs, (Vs ++ [V])[q.1]? = some (q.2.pred n0) := fun q hq => by
 have := h q hq
 rw [List.getElem?_append_left (List.getElem?_eq_some_iff.1 this).1, this]
def E0 (l : Row) : ESt := fun sl l' => sl = [] ∧ l' = l
section
variable {c : Cx} {Q : Exit → Act → World → Prop} {ks : List KF} {fr fr' : List (Nat × Value)} {l : Row} {x : RX} {rest rest' : List Oper} {k k' : Nat} {xs : List (Nat × XP)} {E : ESt} {d : Nat} {op : Op} {ty : TypeId} {pos : String} {af : Array Edge} {g : Option (Nat × Bool)}
theorem g_drawE {id : Nat} {ol : List Oper} (n nt : Nat) (B Ef : List Nat) (Rl : List (Nat × Nat)) (l0 lk : Row) [hm : TMix c.P] (hnt : c.n = nt) (hchk : (regOk ol.toArray n && tailOk ol.toArray n && Nat.ble n ol.length && dstOk ol.toArray n nt && effOk ol.toArray n Ef && xOk ol.toArray n Ef [] && relOk ol.toArray n Rl) = true)
  (hp : l.flatten.Perm (l0.flatten ++ lk.flatten)) (hB : ∀ b ∈ B, b ∈ l0.flatten.map (·.1)) (h : FE c Q ks ⟨ol, n, B, Ef, Rl, lk⟩ 0 ol fr [] (E0 l)) : G c Q ks (.code (.region id ol.toArray true)) fr l := fun a w F M =>
 c_drawX (keepBut B) Ef [] Rl (ET c (E0 l)) n F (by rw [hnt];exact hchk) (fun σ w w' ⟨sl, l', h1, h2, h3⟩ hE => ⟨sl, l', h1, h2, h3.later hE⟩) (by simp) (fun σ d hd => ⟨[], l, ⟨rfl, rfl⟩, by simp, M.later (Ext.drawn w d hd)⟩) fun w1 hE hs hok => by
  have M1 := (M.later hE).perm hp
  refine h (by rintro _ _ ⟨rfl, _⟩ q hq;cases hq) a w1 [] (fun w' hE' => M1.laterBut hE' hB) (fun b hb => ?_) hok (by simp)
  obtain ⟨q, hq, e⟩ := List.mem_map.1 (hB b hb)
  rw [← e]
  exact M1.lt (List.mem_append_left _ hq)
theorem fe_c {v : Value} (h : ∀ a w, Frm a c.n c.df fr → Mem c.S c.W w x.lk.flatten → OpTo c.P ⟨some d, op, ty, pos, af, g⟩ a.eval w fun u w' => Ext [] w w' ∧ u = v)
  (hk : FE c Q ks x (k + 1) rest ((d, v) :: fr) xs E) (hlt : flo x.Ef x.Rl [] x.n k op = true := by rfl) (hd : Nat.blt d c.n = true := by rfl) (hg : gOk x.ol.toArray fr g = some true := by rfl) : FE c Q ks x k (⟨some d, op, ty, pos, af, g⟩ :: rest) fr xs E := fun hE a w Vs hM hB hok hx => by
 have hE' : ∀ sl l, E sl l → ∀ q ∈ sl, q.1 < k + 1 := fun sl l h q hq => Nat.lt_succ_of_lt (hE sl l h q hq)
 rcases gOk_true hg with rfl | ⟨j, b, t, rfl, ht, hl⟩
 ·exact mK hok hlt hd (fun a' w' F he => h a' w' F (hM w' he)) (hk hE' a w _ hM hB hok (xs_app hx))
 ·exact mKG hok hlt hd ht hl (fun a' w' F he => h a' w' F (hM w' he)) (hk hE' a w _ hM hB hok (xs_app hx))
theorem fe_v {v : Value} (h : ∀ a w, Frm a c.n c.df fr → Mem c.S c.W w x.lk.flatten → ∀ R : Value → World → Prop, R v w → OpTo c.P ⟨some d, op, ty, pos, af, g⟩ a.eval w R)
  (hk : FE c Q ks x (k + 1) rest ((d, v) :: fr) xs E) (hlt : flo x.Ef x.Rl [] x.n k op = true := by rfl) (hd : Nat.blt d c.n = true := by rfl) (hg : gOk x.ol.toArray fr g = some true := by rfl) : FE c Q ks x k (⟨some d, op, ty, pos, af, g⟩ :: rest) fr xs E :=
 fe_c (fun a w F M => h a w F M _ ⟨Ext.refl _ _, rfl⟩) hk hlt hd hg
theorem fe_off (hk : FE c Q ks x (k + 1) rest ((d, undef) :: fr) xs E) (hlt : flo x.Ef x.Rl [] x.n k op = true := by rfl) (hd : Nat.blt d c.n = true := by rfl) (hg : gOk x.ol.toArray fr g = some false := by rfl) : FE c Q ks x k (⟨some d, op, ty, pos, af, g⟩ :: rest) fr xs E := fun hE a w Vs hM hB hok hx => by
 obtain ⟨j, b, t, v, rfl, ht, hl, ho⟩ := gOk_false hg
 exact mOff hok hlt hd ht hl ho (hk (fun sl l h q hq => Nat.lt_succ_of_lt (hE sl l h q hq)) a w _ hM hB hok (xs_app hx))
def runE (c : Cx) (x : RX) : Nat → Nat → List Oper → List (Nat × Value) → Nat × List Oper × List (Nat × Value)
 | m + 1, k, o :: rest, fr => match o.dst with
  | some d => match Nat.blt d c.n && flo x.Ef x.Rl [] x.n k o.op with
   | true => match gOk x.ol.toArray fr o.guard with
    | some true => match evO c fr o.op with
     | some v => runE c x m (k + 1) rest ((d, v) :: fr)
     | none => (k, o :: rest, fr)
    | some false => runE c x m (k + 1) rest ((d, undef) :: fr)
    | none => (k, o :: rest, fr)
   | false => (k, o :: rest, fr)
  | none => (k, o :: rest, fr)
 | _, k, rest, fr => (k, rest, fr)
theorem fe_run : ∀ (m : Nat) {k k' : Nat} {rest rest' : List Oper} {fr fr' : List (Nat × Value)}, runE c x m k rest fr = (k', rest', fr') → FE c Q ks x k' rest' fr' xs E → FE c Q ks x k rest fr xs E
 | 0, k, k', rest, rest', fr, fr', h, hk => by
  cases rest <;> cases h <;> exact hk
 | m + 1, k, k', [], rest', fr, fr', h, hk => by
  cases h
  exact hk
 | m + 1, k, k', o :: rest, rest', fr, fr', h, hk => by
  obtain ⟨dst, op, ty, pos, af, g⟩ := o
  unfold runE at h
  split at h
  ·rename_i d hd0
   dsimp only at hd0
   subst hd0
   split at h
   ·rename_i hb
    simp only [Bool.and_eq_true] at hb
    split at h
    ·rename_i hg
     split at h
     ·rename_i v hv
      exact fe_v (fun a w F M R r => evO_ok F hv r) (fe_run m h hk) hb.2 hb.1 hg
     ·cases h
      exact hk
    ·rename_i hg
     exact fe_off (fe_run m h hk) hb.2 hb.1 hg
    ·cases h
     exact hk
   ·cases h
    exact hk
  ·cases h
   exact hk
/-- a slice written out -/
theorem fe_bs {t e : TypeId} {len sz : Nat} {ys : List (Nat × Operand)} {parts : List (Nat × List Value)} {zs cs : List Value} [ht : TU c.P t (.slice e)] [hs : TSz c.P e sz] [hz : TZero c.P e zs] (hv : evP fr ys = some parts)
  (hle : Nat.ble (len * sz) 16777216 = true) (hzl : Nat.beq zs.length sz = true) (hp : putAll (placesL len sz) (zerosL zs (len * sz)) parts = some cs)
  (hk : FE c Q ks x (k + 1) rest fr ((k, .nw len (.cells cs.toArray e (0, 0))) :: xs) E) (hlt : flo x.Ef x.Rl [] x.n k (.buildSlice t len ys.toArray) = true := by rfl) (hnd : notIn d fr = true := by rfl) :
  FE c Q ks x k (⟨some d, .buildSlice t len ys.toArray, ty, pos, af, none⟩ :: rest) fr xs E := fun hE a w Vs hM hB hok hx => by
 intro hlen
 refine mX (V := NwS w.heap.size len (.cells cs.toArray e (0, 0))) hok hlt hnd (NwS.staysBut hB) (fun a' w' F' E' D' => o_buildSlice F' (Mem.start [] w') hv hle hzl hp fun b w'' M'' => ⟨M''.ext, b, rfl, Nat.le_trans E'.size ((M''.own _ List.mem_cons_self).resolve_left (by simp)), M''.heap .here⟩) (hk (fun sl l h q hq => Nat.lt_succ_of_lt (hE sl l h q hq)) a w _ hM hB hok fun q hq => ?_) hlen
 rcases List.mem_cons.1 hq with rfl | hq
 ·show (Vs ++ [NwS w.heap.size len (.cells cs.toArray e (0, 0))])[k]? = some (NwS w.heap.size len (.cells cs.toArray e (0, 0)))
  rw [← hlen]
  simp
 ·exact xs_app hx q hq
/-- an operation of the chain -/
def OpF (c : Cx) (x : RX) (xs : List (Nat × XP)) (o : Oper) (fr : List (Nat × Value)) (l : Row) (Ψ : Value → Row → Prop) : Prop :=
 ∀ a w, Frm a c.n c.df fr → Mem c.S c.W w l.flatten → (∀ q ∈ xs, q.1 ∈ depsOf o → ∃ n0, q.2.pred n0 (slotV x.ol.toArray q.1 a) w) → OpTo c.P o a.eval w fun v w' => Ext x.B w w' ∧ ∃ r, Ψ v r ∧ Mem c.S c.W w' r.flatten
def dsFr : List (Nat × Nat) → List (Nat × Value) → List (Nat × Value)
 | [], _ => []
 | p :: r, sl => match look sl p.1 with
  | some v => (p.2, v) :: dsFr r sl
  | none => dsFr r sl
def dsOk (ops : Array Oper) (o : Oper) (Ef : List Nat) (ds : List (Nat × Nat)) : Bool := ds.all fun p => (depsOf o).contains p.1 && Ef.contains p.1 && (match (ops[p.1]?).bind (·.dst) with | some t => Nat.beq t p.2 | none => false)
theorem look_mem : ∀ {sl : List (Nat × Value)} {j : Nat} {v : Value}, look sl j = some v → (j, v) ∈ sl
 | [], _, _, h => by simp [look] at h
 | (t, u) :: r, j, v, h => by
  unfold look at h
  split at h
  ·rename_i hb
   cases h
   simp [Nat.eq_of_beq_eq_true hb]
  ·exact List.mem_cons_of_mem _ (look_mem h)
theorem dsFr_frm {o : Oper} {a : Act} {sl : List (Nat × Value)} (F : Frm a c.n c.df fr) (hs : ∀ q ∈ sl, q.1 ∈ x.Ef → q.1 ∈ depsOf o → slotV x.ol.toArray q.1 a = q.2) : ∀ {ds : List (Nat × Nat)}, dsOk x.ol.toArray o x.Ef ds = true → Frm a c.n c.df (dsFr ds sl ++ fr)
 | [], _ => F
 | (j, t) :: r, h => by
  simp only [dsOk, List.all_cons, Bool.and_eq_true] at h
  have ih := dsFr_frm F hs (ds := r) h.2
  unfold dsFr
  split
  ·rename_i v hv
   refine ih.know ?_
   have h1 := hs _ (look_mem hv) (by simpa using h.1.1.2) (by simpa using h.1.1.1)
   have h2 := h.1.2
   dsimp only at h1 h2
   unfold slotV at h1
   revert h1 h2
   cases ((x.ol.toArray[j]?).bind (·.dst)) with
   | none => intro _ h2;cases h2
   | some t' => intro h1 h2;rw [← Nat.eq_of_beq_eq_true h2];exact h1
  ·exact ih
theorem fe_eff (Ψ : List (Nat × Value) → Row → Value → Row → Prop) (ds : List (Nat × Nat)) (p : XP) (h : ∀ sl l, E sl l → OpF c x xs ⟨some d, op, ty, pos, af, none⟩ (dsFr ds sl ++ fr) l (Ψ sl l)) (hp : ∀ sl l v r, E sl l → Ψ sl l v r → ∀ n0 w, p.pred n0 v w)
  (hk : FE c Q ks x (k + 1) rest fr ((k, p) :: xs) (fun s r => ∃ sl l v, E sl l ∧ Ψ sl l v r ∧ s = (k, v) :: sl))
  (hlt : effX x.Ef x.Rl [] x.n k op = true := by rfl) (hnd : notIn d fr = true := by rfl) (hds : dsOk x.ol.toArray ⟨some d, op, ty, pos, af, none⟩ x.Ef ds = true := by rfl) :
  FE c Q ks x k (⟨some d, op, ty, pos, af, none⟩ :: rest) fr xs E := fun hE a w Vs hM hB hok hx => by
 obtain ⟨h1, h2, h3, h4, hrf⟩ := effX_spec hlt
 rintro rfl hT0 hPK
 have hsT : StaysT (keepBut x.B) (ET c fun s r => ∃ sl l v, E sl l ∧ Ψ sl l v r ∧ s = (Vs.length, v) :: sl) := fun σ w w' ⟨sl, l', q1, q2, q3⟩ hE => ⟨sl, l', q1, q2, q3.later hE⟩
 refine mw_gen hok h1 (XP.stays hB p) hsT hT0.2 (fun hh => absurd h2 hh) hPK (fun hC ho' => cov_same (fun d' hd' => by cases hd';exact hnd) hC ho') (fun a' w' σ F he hdp hT hPp hσ hrel => ?_) (hk ?_ a w (Vs ++ [p.pred w.heap.size]) hM hB hok (fun q hq => ?_) (by simp) ⟨hsT, XT.nil rfl⟩ hPK)
 ·simp only [Region.wanted, if_true]
  obtain ⟨sl, l, e1, e2, M⟩ := hT h2
  refine (h sl l e1 a' w' (dsFr_frm F (fun q hq hf hd => ?_) hds) M (fun q hq hd => ⟨_, hdp q.1 hd _ (hx q hq)⟩)).mono fun v w'' ⟨q1, r, q2, q3⟩ => ⟨q1, hp _ _ _ _ e1 q2 _ _, fun hh => absurd (h3.symm.trans hh) Bool.false_ne_true, fun hh => absurd h2 hh, fun _ => ⟨(Vs.length, v) :: sl, r, ⟨sl, l, v, e1, q2, rfl⟩, ?_, q3⟩, .none h4, fun q hq e => (relFree_spec hrf q hq e).elim⟩
  ·rw [← hσ q.1 (.inl hf) hd]
   exact e2 q hq
  ·intro q hq
   rcases List.mem_cons.1 hq with rfl | hq
   ·simp [updS]
   ·have := hE sl l e1 q hq
    simp only [updS]
    rw [if_neg (by omega)]
    exact e2 q hq
 ·rintro s r ⟨sl, l, v, e1, _, rfl⟩ q hq
  rcases List.mem_cons.1 hq with rfl | hq
  ·exact Nat.lt_succ_self _
  ·exact Nat.lt_succ_of_lt (hE sl l e1 q hq)
 ·rcases List.mem_cons.1 hq with rfl | hq
  ·simp
  ·exact xs_app hx q hq
/-- .. that answers nothing -/
theorem fe_effN (Ψ : List (Nat × Value) → Row → Row → Prop) (ds : List (Nat × Nat)) (h : ∀ sl l, E sl l → OpF c x xs ⟨none, op, ty, pos, af, none⟩ (dsFr ds sl ++ fr) l (fun _ => Ψ sl l))
  (hk : FE c Q ks x (k + 1) rest fr xs (fun s r => ∃ l, E s l ∧ Ψ s l r))
  (hlt : effX x.Ef x.Rl [] x.n k op = true := by rfl) (hds : dsOk x.ol.toArray ⟨none, op, ty, pos, af, none⟩ x.Ef ds = true := by rfl) :
  FE c Q ks x k (⟨none, op, ty, pos, af, none⟩ :: rest) fr xs E := fun hE a w Vs hM hB hok hx => by
 obtain ⟨h1, h2, h3, h4, hrf⟩ := effX_spec hlt
 rintro rfl hT0 hPK
 have hsT : StaysT (keepBut x.B) (ET c fun s r => ∃ l, E s l ∧ Ψ s l r) := fun σ w w' ⟨sl, l', q1, q2, q3⟩ hE => ⟨sl, l', q1, q2, q3.later hE⟩
 refine mw_gen hok h1 (Kn.stays _ undef) hsT hT0.2 (fun hh => absurd h2 hh) hPK (fun hC ho' => cov_same (fun d' hd' => by cases hd') hC ho') (fun a' w' σ F he hdp hT hPp hσ hrel => ?_) (hk ?_ a w (Vs ++ [Kn undef]) hM hB hok (xs_app hx) (by simp) ⟨hsT, XT.nil rfl⟩ hPK)
 ·simp only [Region.wanted, if_true]
  obtain ⟨sl, l, e1, e2, M⟩ := hT h2
  refine (h sl l e1 a' w' (dsFr_frm F (fun q hq hf hd => ?_) hds) M (fun q hq hd => ⟨_, hdp q.1 hd _ (hx q hq)⟩)).mono fun v w'' ⟨q1, r, q2, q3⟩ => ⟨q1, rfl, fun hh => absurd (h3.symm.trans hh) Bool.false_ne_true, fun hh => absurd h2 hh, fun _ => ⟨sl, r, ⟨l, e1, q2⟩, ?_, q3⟩, .none h4, fun q hq e => (relFree_spec hrf q hq e).elim⟩
  ·rw [← hσ q.1 (.inl hf) hd]
   exact e2 q hq
  ·intro q hq
   have := hE sl l e1 q hq
   show updS σ Vs.length undef q.1 = q.2
   simp only [updS]
   rw [if_neg (by omega)]
   exact e2 q hq
 ·rintro s r ⟨l, e1, _⟩ q hq
  exact Nat.lt_succ_of_lt (hE s l e1 q hq)
theorem fe_ex (k' : Nat) {y : Operand} {i : Nat} (hU : (k', XP.t2) ∈ xs) (hi : i < 2) (hk : FE c Q ks x (k + 1) rest fr xs E) (hlt : relIs x.ol.toArray x.Ef x.Rl [] x.n k k' (.extract y i) af = true := by rfl) (hnd : notIn d fr = true := by rfl) :
  FE c Q ks x k (⟨some d, .extract y i, ty, pos, af, none⟩ :: rest) fr xs E := fun hE a w Vs hM hB hok hx => by
 refine xRel (V := fun _ _ => True) k' hok hlt hnd (fun _ _ _ h _ => h) (fun w => Ext.refl _ _) (hx _ hU) (fun u w _ hu => ?_) (hk (fun sl l h q hq => Nat.lt_succ_of_lt (hE sl l h q hq)) a w _ hM hB hok (xs_app hx))
 obtain ⟨p, q, rfl⟩ := hu
 rcases (by omega : i = 0 ∨ i = 1) with rfl | rfl
 ·exact ⟨p, rfl, trivial⟩
 ·exact ⟨q, rfl, trivial⟩
def relAll (ops : Array Oper) : List (Nat × Nat) → List (Nat × Value) → Option (List (Nat × Value))
 | [], sl => some sl
 | q :: r, sl => match look sl q.2 with
  | some u => match ops[q.1]? with
   | some o => match relV o.op u with
    | some v => relAll ops r ((q.1, v) :: sl)
    | none => none
   | none => none
  | none => none
def toFr (ops : Array Oper) : List (Nat × Value) → List (Nat × Value)
 | [] => []
 | (j, v) :: r => match (ops[j]?).bind (·.dst) with
  | some t => (t, v) :: toFr ops r
  | none => toFr ops r
theorem relAll_ok {ops : Array Oper} {a : Act} : ∀ {Rl : List (Nat × Nat)} {sl sl' : List (Nat × Value)}, (∀ q ∈ Rl, ∃ oq, ops[q.1]? = some oq ∧ relV oq.op (slotV ops q.2 a) = some (slotV ops q.1 a)) → (∀ q ∈ sl, slotV ops q.1 a = q.2) → relAll ops Rl sl = some sl' → ∀ q ∈ sl', slotV ops q.1 a = q.2
 | [], sl, sl', _, h2, h => by
  cases h
  exact h2
 | p :: r, sl, sl', h1, h2, h => by
  unfold relAll at h
  split at h
  ·rename_i u hu
   split at h
   ·rename_i o ho
    split at h
    ·rename_i v hv
     refine relAll_ok (fun q hq => h1 q (List.mem_cons_of_mem _ hq)) (fun q hq => ?_) h
     rcases List.mem_cons.1 hq with rfl | hq
     ·obtain ⟨oq, g1, g2⟩ := h1 p List.mem_cons_self
      rw [ho] at g1
      cases g1
      have h3 := h2 _ (look_mem hu)
      dsimp only at h3
      rw [h3, hv] at g2
      injection g2 with g2
      exact g2.symm
     ·exact h2 q hq
    ·cases h
   ·cases h
  ·cases h
theorem toFr_frm {ops : Array Oper} {a : Act} (F : Frm a c.n c.df fr) : ∀ {sl : List (Nat × Value)}, (∀ q ∈ sl, slotV ops q.1 a = q.2) → Frm a c.n c.df (toFr ops sl ++ fr)
 | [], _ => F
 | (j, v) :: r, h => by
  have ih := toFr_frm F fun q hq => h q (List.mem_cons_of_mem _ hq)
  have h1 := h _ List.mem_cons_self
  unfold slotV at h1
  dsimp only at h1
  unfold toFr
  split
  ·rename_i t ht
   rw [ht] at h1
   exact ih.know h1
  ·exact ih
theorem fe_done (hn : Nat.beq k x.n = true) (hEf : ∀ sl l, E sl l → ∀ q ∈ sl, q.1 ∈ x.Ef) (h : ∀ sl l, E sl l → ∃ s, relAll x.ol.toArray x.Rl sl = some s ∧ G c Q ks (.ops x.ol.toArray rest) (toFr x.ol.toArray s ++ fr) l) : FE c Q ks x k rest fr xs E := fun hE a w Vs hM hB hok hx => by
 refine xDone hn fun a' w' F he hV hT _ hR => ?_
 obtain ⟨sl, l, e1, e2, M⟩ := hT
 obtain ⟨s, h1, h2⟩ := h sl l e1
 refine h2 a' w' (toFr_frm F (relAll_ok hR (fun q hq => ?_) h1)) M
 rw [← e2 q hq]
 simp [slotE, hEf sl l e1 q hq]
/-- a call that answers with new memory -/
theorem opf_callN {ι : Type} (val : ι → Value) (p : ι → Prop) (li : ι → Row) {y : Operand} {fn : FuncId} {ys : List Operand} {ts : Array TypeId} {vs : List Value} [hb : TBody c.P fn] (hx : Ev fr y = some (.func (.func fn) #[] #[])) (ha : evL fr ys = some vs)
  (hc : ∀ w, Mem c.S c.W w l.flatten → Cal c.P fn vs.toArray w fun v w' => ∃ i, v = val i ∧ p i ∧ Mem [] w w' (li i).flatten) :
  OpF c x xs ⟨some d, .call ⟨.value y, ys.toArray, ts⟩, ty, pos, af, none⟩ fr l (fun u r => ∃ i, u = val i ∧ p i ∧ r = li i ++ l) := fun a w F M _ =>
 o_call (F.e hx) (F.evs ha) (Cal.mono (hc w M) fun u w' h => by
  obtain ⟨i, h1, h2, N⟩ := h
  exact ⟨N.ext.any, _, ⟨i, h1, h2, rfl⟩, by rw [List.flatten_append];exact M.joins N⟩)
/-- .. and turns block b -/
theorem opf_callT {ι : Type} (j : Nat) (val : ι → Value) (p : ι → Prop) (ob : ι → Obj) (li : ι → Row) {f : ι → Row} {b : Nat} {o : Obj} {y : Operand} {fn : FuncId} {ys : List Operand} {ts : Array TypeId} {vs : List Value} [hb : TBody c.P fn] (hx : Ev fr y = some (.func (.func fn) #[] #[])) (ha : evL fr ys = some vs)
  (hl : nthO l j = some [(b, o)]) (hB : b ∈ x.B) (hc : ∀ w, Mem c.S c.W w l.flatten → Cal c.P fn vs.toArray w fun v w' => ∃ i, v = val i ∧ p i ∧ Mem [b] w w' ((b, ob i) :: (li i).flatten)) (hf : ∀ i, setO l j [(b, ob i)] = some (f i)) :
  OpF c x xs ⟨some d, .call ⟨.value y, ys.toArray, ts⟩, ty, pos, af, none⟩ fr l (fun u r => ∃ i, u = val i ∧ p i ∧ r = li i ++ f i) := fun a w F M _ =>
 o_call (F.e hx) (F.evs ha) (Cal.mono (hc w M) fun u w' h => by
  obtain ⟨i, h1, h2, N⟩ := h
  refine ⟨N.ext.mono fun k hk => by simp at hk;subst hk;exact hB, _, ⟨i, h1, h2, rfl⟩, ?_⟩
  obtain ⟨r, p1, p2⟩ := nthO_perm hl (hf i)
  have N' : Mem (([(b, o)] : List (Nat × Obj)).map (·.1)) w w' ((b, ob i) :: (li i).flatten) := N
  refine ((M.perm p1).joinB N').perm ?_
  rw [List.flatten_append]
  refine List.Perm.trans ?_ (List.Perm.append_left _ p2.symm)
  simpa using (List.perm_middle (a := (b, ob i)) (l₁ := (li i).flatten) (l₂ := r)).symm)
/-- an append of one -/
theorem opf_app {α : Type} {enc : α → List Value} {out : List α} {x0 : α} (j : Nat) {st xt e : TypeId} {y1 : Operand} {t2 : Nat} {sz by_ : Nat} {v : Value} {ent r : List (Nat × Obj)} {f : List (Nat × Obj) → Row} {t' : TypeId} {fz : Nat × Nat} [hst : TU c.P st (.slice e)] [hel : TEl c.P e sz by_] [hxt : TNI c.P xt]
  (hx : Ev fr y1 = some v) (hO : OwnS e sz v out.length (encL enc out) ent) (hl : l.flatten.Perm (ent ++ r)) (hB : ∀ q ∈ ent, q.1 ∈ x.B) (hj : (j, XP.nw 1 (.cells (enc x0).toArray t' fz)) ∈ xs) (hz : (enc x0).length = sz) (hbd : (out.length + 1) * by_ ≤ 140737488355328) (hln : out.length + 1 ≤ 9223372036854775807)
  (hf : ∀ ent', (ent' ++ r).Perm (f ent').flatten) (h1 : (enc x0).all (·.oneCell') = true) (hd : (depsOf ⟨some d, .call ⟨.builtin .append, #[y1, .tmp t2], #[st, xt]⟩, ty, pos, af, none⟩).contains j = true := by rfl) (ht : (x.ol.toArray[j]?).bind (·.dst) = some t2 := by rfl) :
  OpF c x xs ⟨some d, .call ⟨.builtin .append, #[y1, .tmp t2], #[st, xt]⟩, ty, pos, af, none⟩ fr l (fun u r => ∃ j : Value × List (Nat × Obj), u = j.1 ∧ OwnS e sz j.1 (out ++ [x0]).length (encL enc (out ++ [x0])) j.2 ∧ r = f j.2) := fun a w F M hX => by
 obtain ⟨n0, bx, hv, _, hbx⟩ := hX _ hj (by simpa using hd)
 have hv' : a.eval (.tmp t2) = .slice (some ⟨bx, 0, none⟩) 1 1 := by
  unfold slotV at hv
  dsimp only at hv
  rw [ht] at hv
  exact hv
 have hS : SrcOf c.P w (.slice (some ⟨bx, 0, none⟩) 1 1) 1 sz (enc x0) := SrcOf.cells' hbx (by rw [Nat.one_mul, ← hz];simpa using seg_of [] (enc x0) []) h1
 have MM := M.perm hl
 have M0 : Mem (ent.map (·.1)) w w (ent ++ []) := by
  have h5 := MM.nd
  simp only [List.map_append, List.nodup_append] at h5
  rw [List.append_nil]
  exact ⟨Ext.refl _ _, fun p hp => MM.at_ p (List.mem_append_left _ hp), h5.1, fun p hp => .inl (List.mem_map.2 ⟨p, hp, rfl⟩)⟩
 refine o_append1 (f := fun e' => [] ++ e') hO (M0.perm List.perm_append_comm) (.app .here) (F.e hx) hv' hS hbd (fun v' ent' w' hO' M' => ?_) hln
 refine ⟨M'.ext.mono fun k hk => ?_, f ent', ⟨(v', ent'), rfl, hO', rfl⟩, (MM.joinB M').perm (hf ent')⟩
 obtain ⟨q, hq, rfl⟩ := List.mem_map.1 hk
 exact hB q hq
/-- a store of one cell into a block that is turned -/
theorem opf_st1 (i : Nat) {t : TypeId} {y z : Operand} {b off : Nat} {cs cs' : List Value} {t' : TypeId} {v : Value} {l' : Row} [hs : TSz c.P t 1] (hx : Ev fr y = some (.pointer (some ⟨b, off, none⟩))) (hy : Ev fr z = some v) (h1 : v.oneCell' = true) (hl : nthO l i = some [(b, .cells cs.toArray t' (0, 0))]) (hp : put cs off [v] = some cs') (hl' : setO l i [(b, .cells cs'.toArray t' (0, 0))] = some l') (hB : b ∈ x.B) :
  OpF c x xs ⟨none, .store t y z, ty, pos, af, none⟩ fr l (fun _ r => r = l') := fun a w F M _ => by
 have Mb : Mem [b] w w [(b, .cells cs.toArray t' (0, 0))] := ⟨Ext.refl _ _, fun p hp => by simp at hp;subst hp;exact M.at_ _ (nthO_mem hl), by simp, fun p hp => .inl (by simp at hp;subst hp;simp)⟩
 refine o_store1 Mb (F.e hx) (F.e hy) h1 .here hp .here fun w' M' => ?_
 exact ⟨M'.ext.mono fun k hk => by simp at hk;subst hk;exact hB, l', rfl, M.turned (setO_upd hl hl') M'.ext (M'.heap .here)⟩
def EI {ι : Type} (P : ι → Prop) (sl : ι → List (Nat × Value)) (li : ι → Row) : ESt := fun s r => ∃ i, P i ∧ s = sl i ∧ r = li i
theorem fe_start (h : FE c Q ks x k rest fr xs (EI (ι := Unit) (fun _ => True) (fun _ => []) (fun _ => l))) : FE c Q ks x k rest fr xs (E0 l) := by
 have : E0 l = EI (ι := Unit) (fun _ => True) (fun _ => []) (fun _ => l) := by
  funext s r
  simp [E0, EI]
 rw [this]
 exact h
section
variable {ι : Type} {P : ι → Prop} {sl : ι → List (Nat × Value)} {li : ι → Row}
theorem fe_op {κ : Type} (val : ι → κ → Value) (p : ι → κ → Prop) (f : ι → κ → Row) (ds : List (Nat × Nat)) (xp : XP)
  (h : ∀ i, P i → OpF c x xs ⟨some d, op, ty, pos, af, none⟩ (dsFr ds (sl i) ++ fr) (li i) (fun v r => ∃ j, v = val i j ∧ p i j ∧ r = f i j)) (hp : ∀ i j n0 w, xp.pred n0 (val i j) w)
  (hk : FE c Q ks x (k + 1) rest fr ((k, xp) :: xs) (EI (ι := ι × κ) (fun q => P q.1 ∧ p q.1 q.2) (fun q => (k, val q.1 q.2) :: sl q.1) (fun q => f q.1 q.2)))
  (hlt : effX x.Ef x.Rl [] x.n k op = true := by rfl) (hnd : notIn d fr = true := by rfl) (hds : dsOk x.ol.toArray ⟨some d, op, ty, pos, af, none⟩ x.Ef ds = true := by rfl) :
  FE c Q ks x k (⟨some d, op, ty, pos, af, none⟩ :: rest) fr xs (EI P sl li) := by
 refine fe_eff (fun s _ v r => ∃ i j, P i ∧ p i j ∧ s = sl i ∧ v = val i j ∧ r = f i j) ds xp ?_ ?_ ?_ hlt hnd hds
 ·rintro _ _ ⟨i, hi, rfl, rfl⟩ a w F M hx
  refine (h i hi a w F M hx).mono fun v w' ⟨q1, r, ⟨j, q2, q3, q4⟩, q5⟩ => ⟨q1, r, ⟨i, j, hi, q3, rfl, q2, q4⟩, q5⟩
 ·rintro s r v r' _ ⟨i, j, _, _, _, rfl, _⟩ n0 w
  exact hp i j n0 w
 ·have : (fun s r => ∃ sl' l v, EI P sl li sl' l ∧ (∃ i j, P i ∧ p i j ∧ sl' = sl i ∧ v = val i j ∧ r = f i j) ∧ s = (k, v) :: sl') = EI (ι := ι × κ) (fun q => P q.1 ∧ p q.1 q.2) (fun q => (k, val q.1 q.2) :: sl q.1) (fun q => f q.1 q.2) := by
   funext s r
   apply propext
   constructor
   ·rintro ⟨sl', l, v, _, ⟨i, j, h1, h2, rfl, rfl, rfl⟩, rfl⟩
    exact ⟨(i, j), ⟨h1, h2⟩, rfl, rfl⟩
   ·rintro ⟨⟨i, j⟩, ⟨h1, h2⟩, rfl, rfl⟩
    exact ⟨sl i, li i, val i j, ⟨i, h1, rfl, rfl⟩, ⟨i, j, h1, h2, rfl, rfl, rfl⟩, rfl⟩
  rw [this]
  exact hk
/-- an operation of the chain that is run at once -/
theorem fe_ev (v : ι → Value) (ds : List (Nat × Nat)) (xp : XP) (h : ∀ i, P i → evO c (dsFr ds (sl i) ++ fr) op = some (v i)) (hp : ∀ i n0 w, xp.pred n0 (v i) w)
  (hk : FE c Q ks x (k + 1) rest fr ((k, xp) :: xs) (EI P (fun i => (k, v i) :: sl i) li))
  (hlt : effX x.Ef x.Rl [] x.n k op = true := by rfl) (hnd : notIn d fr = true := by rfl) (hds : dsOk x.ol.toArray ⟨some d, op, ty, pos, af, none⟩ x.Ef ds = true := by rfl) :
  FE c Q ks x k (⟨some d, op, ty, pos, af, none⟩ :: rest) fr xs (EI P sl li) := by
 refine fe_eff (fun s r u r' => ∃ i, P i ∧ s = sl i ∧ r = li i ∧ u = v i ∧ r' = li i) ds xp ?_ ?_ ?_ hlt hnd hds
 ·rintro _ _ ⟨i, hi, rfl, rfl⟩ a w F M hx
  refine evO_ok (R := fun u w' => Ext x.B w w' ∧ ∃ r, (∃ i', P i' ∧ sl i = sl i' ∧ li i = li i' ∧ u = v i' ∧ r = li i') ∧ Mem c.S c.W w' r.flatten) F (h i hi) ?_
  exact ⟨Ext.refl _ _, li i, ⟨i, hi, rfl, rfl, rfl, rfl⟩, M⟩
 ·rintro s r u r' _ ⟨i, _, _, _, rfl, _⟩ n0 w
  exact hp i n0 w
 ·have : (fun s r => ∃ sl' l u, EI P sl li sl' l ∧ (∃ i, P i ∧ sl' = sl i ∧ l = li i ∧ u = v i ∧ r = li i) ∧ s = (k, u) :: sl') = EI P (fun i => (k, v i) :: sl i) li := by
   funext s r
   apply propext
   constructor
   ·rintro ⟨sl', l, u, _, ⟨i, h1, rfl, rfl, rfl, rfl⟩, rfl⟩
    exact ⟨i, h1, rfl, rfl⟩
   ·rintro ⟨i, h1, rfl, rfl⟩
    exact ⟨sl i, li i, v i, ⟨i, h1, rfl, rfl⟩, ⟨i, h1, rfl, rfl, rfl, rfl⟩, rfl⟩
  rw [this]
  exact hk
/-- .. its value told -/
theorem fe_opK {v : Value} (f : ι → Row) (ds : List (Nat × Nat)) (h : ∀ i, P i → OpF c x xs ⟨some d, op, ty, pos, af, none⟩ (dsFr ds (sl i) ++ fr) (li i) (fun u r => u = v ∧ r = f i))
  (hk : FE c Q ks x (k + 1) rest ((d, v) :: fr) xs (EI P sl f))
  (hlt : effX x.Ef x.Rl [] x.n k op = true := by rfl) (hd : Nat.blt d c.n = true := by rfl) (hds : dsOk x.ol.toArray ⟨some d, op, ty, pos, af, none⟩ x.Ef ds = true := by rfl) :
  FE c Q ks x k (⟨some d, op, ty, pos, af, none⟩ :: rest) fr xs (EI P sl li) := fun hE a w Vs hM hB hok hx => by
 obtain ⟨h1, h2, h3, h4, hrf⟩ := effX_spec hlt
 rintro rfl hT0 hPK
 have hsT : StaysT (keepBut x.B) (ET c (EI P sl f)) := fun σ w w' ⟨s, l', q1, q2, q3⟩ hE => ⟨s, l', q1, q2, q3.later hE⟩
 have hlt' : ∀ i, P i → ∀ q ∈ sl i, q.1 < Vs.length := fun i hi q hq => hE _ _ ⟨i, hi, rfl, rfl⟩ q hq
 refine mw_gen hok h1 (Kn.stays _ v) hsT hT0.2 (fun hh => absurd h2 hh) hPK (fun hC ho => cov_known rfl hd hC ho) (fun a' w' σ F he hdp hT hPp hσ hrel => ?_) (hk ?_ a w (Vs ++ [Kn v]) hM hB hok (xs_app hx) (by simp) ⟨hsT, XT.nil rfl⟩ hPK)
 ·simp only [Region.wanted, if_true]
  obtain ⟨_, _, ⟨i, hi, rfl, rfl⟩, e2, M⟩ := hT h2
  refine (h i hi a' w' (dsFr_frm F (fun q hq hf hd => ?_) hds) M (fun q hq hd => ⟨_, hdp q.1 hd _ (hx q hq)⟩)).mono fun u w'' ⟨q1, r, ⟨q2, q4⟩, q3⟩ => ⟨q1, q2, fun hh => absurd (h3.symm.trans hh) Bool.false_ne_true, fun hh => absurd h2 hh, fun _ => ⟨sl i, r, ⟨i, hi, rfl, q4⟩, ?_, q3⟩, .none h4, fun q hq e => (relFree_spec hrf q hq e).elim⟩
  ·rw [← hσ q.1 (.inl hf) hd]
   exact e2 q hq
  ·intro q hq
   have := hlt' i hi q hq
   show updS σ Vs.length u q.1 = q.2
   simp only [updS]
   rw [if_neg (by omega)]
   exact e2 q hq
 ·rintro _ _ ⟨i, hi, rfl, rfl⟩ q hq
  exact Nat.lt_succ_of_lt (hlt' i hi q hq)
theorem fe_opN (f : ι → Row) (ds : List (Nat × Nat)) (h : ∀ i, P i → OpF c x xs ⟨none, op, ty, pos, af, none⟩ (dsFr ds (sl i) ++ fr) (li i) (fun _ r => r = f i))
  (hk : FE c Q ks x (k + 1) rest fr xs (EI P sl f))
  (hlt : effX x.Ef x.Rl [] x.n k op = true := by rfl) (hds : dsOk x.ol.toArray ⟨none, op, ty, pos, af, none⟩ x.Ef ds = true := by rfl) :
  FE c Q ks x k (⟨none, op, ty, pos, af, none⟩ :: rest) fr xs (EI P sl li) := by
 refine fe_effN (fun s _ r => ∃ i, P i ∧ s = sl i ∧ r = f i) ds ?_ ?_ hlt hds
 ·rintro _ _ ⟨i, hi, rfl, rfl⟩ a w F M hx
  refine (h i hi a w F M hx).mono fun v w' ⟨q1, r, q2, q5⟩ => ⟨q1, r, ⟨i, hi, rfl, q2⟩, q5⟩
 ·have : (fun s r => ∃ l, EI P sl li s l ∧ ∃ i, P i ∧ s = sl i ∧ r = f i) = EI P sl f := by
   funext s r
   apply propext
   constructor
   ·rintro ⟨l, _, h⟩
    exact h
   ·rintro ⟨i, h1, h2, h3⟩
    exact ⟨li i, ⟨i, h1, h2, rfl⟩, i, h1, h2, h3⟩
  rw [this]
  exact hk
theorem fe_fin (hn : Nat.beq k x.n = true) (hEf : ∀ i, P i → ∀ q ∈ sl i, q.1 ∈ x.Ef) (h : ∀ i, P i → ∃ s, relAll x.ol.toArray x.Rl (sl i) = some s ∧ G c Q ks (.ops x.ol.toArray rest) (toFr x.ol.toArray s ++ fr) (li i)) : FE c Q ks x k rest fr xs (EI P sl li) :=
 fe_done hn (by rintro _ _ ⟨i, hi, rfl, rfl⟩;exact hEf i hi) (by rintro _ _ ⟨i, hi, rfl, rfl⟩;exact h i hi)
end
/-- a call whose answer is told and that turns block b -/
theorem opf_callK (j : Nat) {v : Value} {o' : Obj} {l' : Row} {b : Nat} {o : Obj} {y : Operand} {fn : FuncId} {ys : List Operand} {ts : Array TypeId} {vs : List Value} [hb : TBody c.P fn] (hx : Ev fr y = some (.func (.func fn) #[] #[])) (ha : evL fr ys = some vs)
  (hl : nthO l j = some [(b, o)]) (hB : b ∈ x.B) (hc : ∀ w, Mem c.S c.W w l.flatten → Cal c.P fn vs.toArray w fun u w' => u = v ∧ Mem [b] w w' [(b, o')]) (hf : setO l j [(b, o')] = some l') :
  OpF c x xs ⟨some d, .call ⟨.value y, ys.toArray, ts⟩, ty, pos, af, none⟩ fr l (fun u r => u = v ∧ r = l') := fun a w F M hX =>
 (opf_callT (ι := Unit) j (fun _ => v) (fun _ => True) (fun _ => o') (fun _ => []) hx ha hl hB (fun w M => Cal.mono (hc w M) fun u w' h => ⟨(), h.1, trivial, by simpa using h.2⟩) (fun _ => hf) a w F M hX).mono fun u w' ⟨q1, r, ⟨_, q2, _, q3⟩, q4⟩ => ⟨q1, r, ⟨q2, q3⟩, q4⟩
/-- a call that turns block b -/
theorem g_callT {ι : Type} (i : Nat) (val : ι → Value) (p : ι → Prop) (ob : ι → Obj) (li : ι → Row) {f : ι → Row} {b : Nat} {o : Obj} {aa : Array Oper} {y : Operand} {fn : FuncId} {ys : List Operand} {ts : Array TypeId} {vs : List Value} [hb : TBody c.P fn] (hx : Ev fr y = some (.func (.func fn) #[] #[])) (ha : evL fr ys = some vs)
  (hl : nthO l i = some [(b, o)]) (hc : ∀ w, Mem c.S c.W w l.flatten → Cal c.P fn vs.toArray w fun v w' => ∃ j, v = val j ∧ p j ∧ Mem [b] w w' ((b, ob j) :: (li j).flatten)) (hf : ∀ j, setO l i [(b, ob j)] = some (f j))
  (hk : ∀ j, p j → G c Q ks (.ops aa rest) ((d, val j) :: fr) (li j ++ f j)) (hd : Nat.blt d c.n = true := by rfl) (hg : gOk aa fr g = some true := by rfl) : G c Q ks (.ops aa (⟨some d, .call ⟨.value y, ys.toArray, ts⟩, ty, pos, af, g⟩ :: rest)) fr l :=
 g_op rfl hd hg fun a w F M => o_call (F.e hx) (F.evs ha) (Cal.mono (hc w M) fun u w' h a' F' => by
  obtain ⟨j, rfl, h2, N⟩ := h
  obtain ⟨r, p1, p2⟩ := nthO_perm hl (hf j)
  have N' : Mem (([(b, o)] : List (Nat × Obj)).map (·.1)) w w' ((b, ob j) :: (li j).flatten) := N
  refine hk j h2 a' w' F' (((M.perm p1).joinB N').perm ?_)
  rw [List.flatten_append]
  refine List.Perm.trans ?_ (List.Perm.append_left _ p2.symm)
  simpa using (List.perm_middle (a := (b, ob j)) (l₁ := (li j).flatten) (l₂ := r)).symm)
/-- .. its answer told -/
theorem g_callT1 (i : Nat) {v : Value} {o' : Obj} {b : Nat} {o : Obj} {l' : Row} {aa : Array Oper} {y : Operand} {fn : FuncId} {ys : List Operand} {ts : Array TypeId} {vs : List Value} [hb : TBody c.P fn] (hx : Ev fr y = some (.func (.func fn) #[] #[])) (ha : evL fr ys = some vs)
  (hl : nthO l i = some [(b, o)]) (hc : ∀ w, Mem c.S c.W w l.flatten → Cal c.P fn vs.toArray w fun u w' => u = v ∧ Mem [b] w w' [(b, o')]) (hf : setO l i [(b, o')] = some l')
  (hk : G c Q ks (.ops aa rest) ((d, v) :: fr) l') (hd : Nat.blt d c.n = true := by rfl) (hg : gOk aa fr g = some true := by rfl) : G c Q ks (.ops aa (⟨some d, .call ⟨.value y, ys.toArray, ts⟩, ty, pos, af, g⟩ :: rest)) fr l :=
 g_callT (ι := Unit) i (fun _ => v) (fun _ => True) (fun _ => o') (fun _ => []) hx ha hl (fun w M => Cal.mono (hc w M) fun u w' h => ⟨(), h.1, trivial, by simpa using h.2⟩) (fun _ => hf) (fun _ _ => hk) hd hg
/-- the rows in another order, or fewer -/
theorem g_rows {st : St} (l' : Row) (h : ∃ s, l.flatten.Perm s ∧ l'.flatten.Sublist s) (hk : G c Q ks st fr l') : G c Q ks st fr l := fun a w F M => by
 obtain ⟨s, h1, h2⟩ := h
 exact hk a w F ((M.perm h1).sub h2)
end
end Go.Proofs.YtilgoepokaaleaaGreat
/-! VE -/
namespace Go.Proofs.YtilgoepokaaleaaGreat
set_option linter.unusedVariables false
set_option linter.unusedSimpArgs false
open Go.RowKit
attribute [local irreducible] OpTo wpListIn Code.wpIn MW Cal
theorem g_startB {P : Program} {f : FuncId} {fn : Func} {x : Code} {vs : List Value} {W : World} {R : Value → World → Prop} {n : Nat} {bt : Nat} {o : Obj} {flds : List (Nat × Nat × Nat)} {slcs : List Nat} (ho : W.heap[bt]? = some o) (hf : (flds.all fun q => fieldAtB P q.1 q.2.1 q.2.2) = true) (hs : (slcs.all fun t => isSlB P t) = true)
  (hfn : P.funcs[f]? = some fn) (hb : fn.body = some x) (hn : fn.ntmps = n) (hle : Nat.ble vs.length n = true)
  (h : G ⟨P, none, n, [], [bt], W, flds, slcs, hf, hs⟩ (Post P fn R) [] (.code x) (number 0 vs) [[(bt, o)]]) : Cal P f vs.toArray W R :=
 fn_ofM [bt] hfn hb hn hle fun a w F M hw => h a w F (M.came hw ho (by simp) (by simp))
set_option maxHeartbeats 8000000 in
theorem sexpire_c (l : List SrcV) (hx : ∀ x ∈ l, IsSr x) (v : Value) (now : Int) (W : World) (hS : SlAt W 38 v l.length (srsC l)) :
  Cal Tryz.prog 33 [v, .int .i64 now].toArray W fun r w' => ∃ ent, OwnS 133 38 r (sexpV l now).length (srsC (sexpV l now)) ent ∧ Mem [] W w' ent := by
 obtain ⟨q, cap, rfl, _⟩ := id hS
 have hm := hS.memB [] (by simp)
 have c1 : sexpV l now = [] → ∀ w, Ext [] W w → ∃ ent, OwnS 133 38 (.slice none 0 0) (sexpV l now).length (srsC (sexpV l now)) ent ∧ Mem [] W w ent := fun h w E => by rw [h];exact ⟨[], OwnS.nil _ _, Mem.nil E⟩
 refine g_start (n := 32) (S := []) fldT_ok slcT_ok Tryz.func33 rfl rfl rfl ?_
 cases hv : validSs l
 ·refine gR 9 rfl ?_
  refine g_call rfl rfl (fun w M => refvalidS_c _ ‹_› _ _ ((by assumption : SlAt _ _ _ _ _).later M.ext)) ?_
  refine gR 2 rfl ?_
  refine g_know 11 rfl (notT ‹_›) ?_
  refine gR 14 rfl ?_
  refine g_ret1 rfl rfl rfl fun w M => ?_
  exact c1 (by unfold sexpV;simp [hv]) _ M.ext
 cases ht : isTime now
 ·refine gR 9 rfl ?_
  refine g_call rfl rfl (fun w M => refvalidS_c _ ‹_› _ _ ((by assumption : SlAt _ _ _ _ _).later M.ext)) ?_
  refine gR 2 rfl ?_
  refine g_know 11 rfl (notF ‹_›) ?_
  refine gR 1 rfl ?_
  refine g_call rfl rfl (fun w M => risTime_c _ _) ?_
  refine gR 4 rfl ?_
  refine g_ifT rfl (notT ‹_›) ?_
  refine gR 7 rfl ?_
  refine g_ret1 rfl rfl rfl fun w M => ?_
  exact c1 (by unfold sexpV;simp [ht]) _ M.ext
 have hl512 := (validSs_iff.1 hv).1
 refine gR 9 rfl ?_
 refine g_call rfl rfl (fun w M => refvalidS_c _ ‹_› _ _ ((by assumption : SlAt _ _ _ _ _).later M.ext)) ?_
 refine gR 2 rfl ?_
 refine g_know 11 rfl (notF ‹_›) ?_
 refine gR 1 rfl ?_
 refine g_call rfl rfl (fun w M => risTime_c _ _) ?_
 refine gR 4 rfl ?_
 refine g_ifF rfl (notF ‹_›) ?_
 refine gR 16 rfl ?_
 refine g_pad ?_
 refine g_loop (ι := Nat × (List SrcV) × Value × (List (Nat × Obj))) ⟨fun (i, out, u, es) => l.length - i, fun (i, out, u, es) => i ≤ l.length ∧ (OwnS 133 38 u out.length (srsC out) es) ∧ (out = (l.take i).filter (fun x => !decide (x.til ≤ now))), fun (i, out, u, es) => [(18, .int .i64 i), (17, .int .i64 l.length), (16, .slice q l.length cap), (5, u), (1, .int .i64 now)], fun (i, out, u, es) => [es]⟩ (0, [], _, []) ⟨by omega, OwnS.nilL _ _ _, rfl⟩ (fun a F => F.only [18, 17, 16, 5, 1] rfl) (by repeat (first | exact .refl _ | apply sC2 | apply sC1)) ?_
 rintro ⟨i, out, u, es⟩ ⟨hi_i, hOs, ho⟩
 dsimp only
 by_cases hlt_i : i < l.length
 ·obtain ⟨b, o, cs, t', fz, rfl, hb, hs⟩ := hm (by omega)
  obtain ⟨x, hx0⟩ : ∃ x, x = l[i] := ⟨_, rfl⟩
  have hxm : x ∈ l := by rw [hx0];exact List.getElem_mem hlt_i
  have hxi : IsSr x := hx _ hxm
  have f1 : seg cs (o + (i : Int).toNat * 38) 38 = some (srC x) := by rw [hx0];exact seg_el (srs_len hx) hs hlt_i (by omega)
  have hx0' := hx0
  clear hx0
  have hst := filter_step (p := fun x => !decide (x.til ≤ now)) hlt_i
  rw [← ho, ← hx0'] at hst
  have hol : out.length ≤ i := by rw [ho];exact Nat.le_trans (List.length_filter_le _ _) (by rw [List.length_take];omega)
  clear ho hx0' c1
  by_cases k : now < x.til
  ·rw [if_pos (by simp;omega)] at hst
   refine gR 6 rfl ?_
   refine g_ifT rfl (decide_eq_true (by omega)) ?_
   refine gR 6 rfl ?_
   refine g_ixS rfl rfl (by omega) (by omega) ?_
   refine g_leA rfl ‹_› (by with_reducible assumption) ?_
   refine g_alloc fun b7 => ?_
   refine g_stA 0 rfl rfl (sr_len ‹_›) (sr_one _) rfl (put_all (by rw [sr_len ‹_›];first | rfl | rw [sr_len ‹_›])) rfl ?_
   refine gR 5 rfl ?_
   refine g_ld1 0 rfl rfl (sr_til ‹_›) ?_
   refine gR 4 rfl ?_
   refine g_ifT rfl (decide_eq_true (by omega)) ?_
   refine gR 2 rfl ?_
   refine g_ldA 0 rfl rfl (sr_all ‹_›) ?_
   refine g_bs rfl rfl rfl (sr_build1 ‹_›) (fun b28 => ?_)
   refine g_app 2 0 (enc := srC) rfl rfl ‹_› rfl rfl (sr_len ‹_›) (by first | omega | (simp only [List.length_nil];omega)) (fun _ => rfl) (fun v29 es29 hO29 => ?_) (sr_one _)
   refine gR 5 rfl ?_
   refine g_add rfl rfl (w_i64 (by omega) (by omega)) ?_
   refine gR 2 rfl ?_
   exact g_next (i + 1, _, _, _) ⟨by omega, by assumption, hst.symm⟩ (by dsimp only;omega) (fun a F => F.only [18, 17, 16, 5, 1] rfl) (by (try dsimp only);repeat (first | exact .refl _ | with_reducible exact sC0 _ | with_reducible apply sC2 | apply sC1))
  ·rw [if_neg (by simp;omega), List.append_nil] at hst
   refine gR 6 rfl ?_
   refine g_ifT rfl (decide_eq_true (by omega)) ?_
   refine gR 6 rfl ?_
   refine g_ixS rfl rfl (by omega) (by omega) ?_
   refine g_leA rfl ‹_› (by with_reducible assumption) ?_
   refine g_alloc fun b7 => ?_
   refine g_stA 0 rfl rfl (sr_len ‹_›) (sr_one _) rfl (put_all (by rw [sr_len ‹_›];first | rfl | rw [sr_len ‹_›])) rfl ?_
   refine gR 5 rfl ?_
   refine g_ld1 0 rfl rfl (sr_til ‹_›) ?_
   refine gR 4 rfl ?_
   refine g_ifF rfl (decide_eq_false (by omega)) ?_
   refine gR 4 rfl ?_
   refine g_add rfl rfl (w_i64 (by omega) (by omega)) ?_
   refine gR 2 rfl ?_
   exact g_next (i + 1, out, u, es) ⟨by omega, hOs, hst.symm⟩ (by dsimp only;omega) (fun a F => F.only [18, 17, 16, 5, 1] rfl) (by (try dsimp only);repeat (first | exact .refl _ | with_reducible exact sC0 _ | with_reducible apply sC2 | apply sC1))
 ·have hil : i = l.length := by omega
  rw [hil, List.take_length] at ho
  have he : sexpV l now = out := by unfold sexpV;rw [hv, ht, ho];rfl
  rw [he]
  clear c1
  refine gR 6 rfl ?_
  refine g_ifF rfl (decide_eq_false (by omega)) ?_
  refine gR 2 rfl ?_
  refine g_outX ?_
  refine gR 9 rfl ?_
  refine g_ret1 rfl rfl rfl fun w M => ?_
  exact ⟨es, hOs, M.sub (List.sublist_append_left _ _)⟩
theorem asc_snoc {α : Type} {cm : α → α → Int} {l : List α} {x : α} (h : AscC cm l) (h2 : ∀ y ∈ l, cm y x < 0) : AscC cm (l ++ [x]) := List.pairwise_append.2 ⟨h, by simp, fun a ha b hb => by simp at hb;rw [hb];exact h2 a ha⟩
set_option maxHeartbeats 8000000 in
theorem links_c (n a : Nat) (hn : n ≤ 5) {bt : Nat} {p : Option Addr} {len cp k : Nat} {xs : List Int} (W : World) (hT : TapeS W bt p len xs) (hb : W.heap[bt]? = some (tobj p len cp k)) :
  Cal Tryz.prog 35 [.pointer (some ⟨bt, 0, none⟩), .int .i64 n, .int .i64 a].toArray W fun r w' => ∃ o k' ent, validOs o = true ∧ OwnS 55 2 r o.length (opsC o) ent ∧ Mem [bt] W w' ((bt, tobj p len cp k') :: ent) := by
 refine g_startB hb (n := 27) fldT_ok slcT_ok Tryz.func35 rfl rfl rfl ?_
 refine gR 17 rfl ?_
 refine g_pad ?_
 refine g_loop (ι := Nat × List OptV × Value × (List (Nat × Obj)) × Nat) ⟨fun (b, out, u, es, k) => n + 1 - b, fun (b, out, u, es, k) => OwnS 55 2 u out.length (opsC out) es ∧ 1 ≤ b ∧ b ≤ n + 1 ∧ out.length < b ∧ AscC cmpO out ∧ (∀ x ∈ out, opt1 x = true ∧ x.nb < b), fun (b, out, u, es, k) => [(7, u), (8, .int .i64 b), (0, .pointer (some ⟨bt, 0, none⟩)), (1, .int .i64 n), (2, .int .i64 a)], fun (b, out, u, es, k) => [es, [(bt, tobj p len cp k)]]⟩ (1, [], _, [], k) ⟨OwnS.nilL _ _ _, by omega, by omega, by simp, by simp [AscC], by simp⟩ (fun a F => F.only [7, 8, 0, 1, 2] rfl) (.refl _) ?_
 rintro ⟨b, out, u, es, k⟩ ⟨hOs, hb1, hb2, hol, hasc, hop⟩
 dsimp only
 by_cases hlt : b ≤ n
 ·by_cases hba : b = a
  ·refine gR 8 rfl ?_
   refine g_ifT rfl (decide_eq_true (by omega)) ?_
   refine gR 11 rfl ?_
   refine g_ifF rfl (bneF (by omega)) ?_
   refine gR 5 rfl ?_
   refine g_add rfl rfl (w_i64 (by omega) (by omega)) ?_
   refine gR 2 rfl ?_
   exact g_next (b + 1, out, u, es, k) ⟨hOs, by dsimp only;omega, by dsimp only;omega, by dsimp only;omega, hasc, fun x hx => ⟨(hop x hx).1, by have := (hop x hx).2;dsimp only;omega⟩⟩ (by dsimp only;omega) (fun a F => F.only [7, 8, 0, 1, 2] rfl) (by (try dsimp only);repeat (first | exact .refl _ | with_reducible exact sC0 _ | with_reducible apply sC2 | apply sC1))
  ·have hbd := nxV_bd xs k (n := 500) (by omega)
   have hst : validOs [⟨b, 1 + nxV xs k 500⟩] = true := validOs_iff.2 ⟨by simp, fun x hx => by simp at hx;rw [hx];unfold opt1 validM;simp;omega, by simp [AscC]⟩
   refine gR 8 rfl ?_
   refine g_ifT rfl (decide_eq_true (by omega)) ?_
   refine gR 11 rfl ?_
   refine g_ifT rfl (bne_iff_ne.2 (by omega)) ?_
   refine gR 3 rfl ?_
   refine g_conv rfl (w_u64 (by omega) (by omega)) ?_
   refine gR 1 rfl ?_
   refine g_callT1 1 rfl rfl rfl (fun w M => next_c 500 (by omega) (by omega) w (hT.later M.ext) (M.at_ _ (nthO_mem (i := 1) rfl))) rfl ?_
   refine g_add rfl rfl (w_i64 (by omega) (by omega)) ?_
   refine g_v (fun a w F M R r => o_build F rfl (op_mk _ _) r) ?_
   refine g_bs rfl rfl rfl (op_build1 trivial) (fun b24 => ?_)
   refine g_app 1 0 (enc := opC) rfl rfl ‹_› rfl rfl (op_len trivial) (by first | omega | (simp only [List.length_nil];omega)) (fun _ => rfl) (fun v25 es25 hO25 => ?_) (op_one _)
   refine gR 6 rfl ?_
   refine g_add rfl rfl (w_i64 (by omega) (by omega)) ?_
   refine gR 2 rfl ?_
   exact g_next (b + 1, _, _, _, _) ⟨by assumption, by dsimp only;omega, by dsimp only;omega, by dsimp only;rw [List.length_append, List.length_singleton];omega, asc_snoc hasc (fun y hy => by have := (hop y hy).2;unfold cmpO;rw [cmpI_lt];exact this), fun x hx => by (rcases List.mem_append.1 hx with hx | hx);exact ⟨(hop x hx).1, by have := (hop x hx).2;dsimp only;omega⟩;simp at hx;subst hx;exact ⟨(validOs_iff.1 hst).2.1 _ (by simp), by dsimp only;omega⟩⟩ (by dsimp only;omega) (fun a F => F.only [7, 8, 0, 1, 2] rfl) (by (try dsimp only);repeat (first | exact .refl _ | with_reducible exact sC0 _ | with_reducible apply sC2 | apply sC1))
 ·refine gR 8 rfl ?_
  refine g_ifF rfl (decide_eq_false (by omega)) ?_
  refine gR 2 rfl ?_
  refine g_outX ?_
  refine gR 9 rfl ?_
  refine g_ret1 rfl rfl rfl fun w M => ?_
  exact ⟨out, k, es, validOs_iff.2 ⟨by omega, fun x hx => (hop x hx).1, hasc⟩, hOs, M.perm List.perm_append_comm⟩
theorem fol_neg (next : List Int) : ∀ (k : Nat) {a : Int}, a < 0 → fol next k a = a
 | 0, _, _ => rfl
 | k + 1, a, h => by
  unfold fol
  rw [if_neg (by omega)]
set_option maxHeartbeats 8000000 in
theorem loop_c (next : List Int) (hr : ∀ x ∈ next, -1 ≤ x ∧ x < next.length) (hlen : next.length ≤ 1000) (v : Value) (W : World) (hS : SlAt W 1 v next.length (i64C next)) :
  Cal Tryz.prog 37 [v].toArray W fun r w' => r = .bool (loopV next) ∧ Ext [] W w' := by
 obtain ⟨q, cap, rfl, _⟩ := id hS
 have hm := hS.memB [] (by simp)
 refine g_start (n := 29) (S := []) fldT_ok slcT_ok Tryz.func37 rfl rfl rfl ?_
 refine gR 14 rfl ?_
 refine g_loop (ι := Nat) ⟨fun i => next.length - i, fun i => i ≤ next.length ∧ ∀ j, j < i → ¬ 0 ≤ fol next (next.length + 1) j, fun i => [(6, .slice q next.length cap), (7, .int .i64 next.length), (8, .int .i64 i), (0, .slice q next.length cap)], fun i => []⟩ 0 ⟨by omega, by omega⟩ (fun a F => F.only [6, 7, 8, 0] rfl) (.refl _) ?_
 rintro i ⟨hi, hno⟩
 dsimp only
 by_cases hlt : i < next.length
 ·refine gR 6 rfl ?_
  refine g_ifT rfl (decide_eq_true (by omega)) ?_
  refine gR 23 rfl ?_
  refine g_loop (ι := Nat × Int) ⟨fun (k, at_) => next.length + 1 - k, fun (k, at_) => k ≤ next.length + 1 ∧ -1 ≤ at_ ∧ at_ < next.length ∧ fol next (next.length + 1 - k) at_ = fol next (next.length + 1) i, fun (k, at_) => [(6, .slice q next.length cap), (7, .int .i64 next.length), (8, .int .i64 i), (0, .slice q next.length cap), (4, .int .i64 at_), (5, .int .i64 k)], fun _ => []⟩ (0, (i : Int)) ⟨by omega, by omega, by omega, rfl⟩ (fun a F => F.only [6, 7, 8, 0, 4, 5] rfl) (.refl _) ?_
  rintro ⟨k, at_⟩ ⟨hk, ha1, ha2, hf⟩
  dsimp only
  by_cases hkl : k ≤ next.length
  ·by_cases h0 : 0 ≤ at_
   ·obtain ⟨b, o, cs, t', fz, rfl, hb, hs⟩ := hm (by omega)
    obtain ⟨x, hx⟩ : ∃ x, next[at_.toNat]? = some x := ⟨_, List.getElem?_eq_getElem (by omega)⟩
    have hx2 := hr x (List.mem_of_getElem? hx)
    have f1 : nth cs (o + at_.toNat * 1) = some (.int .i64 x) := by
     obtain ⟨_, h2⟩ := seg_spec _ _ _ _ hs
     rw [nth_spec, Nat.mul_one, h2 at_.toNat (by omega)]
     simp [i64C, hx]
    have hf2 : fol next (next.length + 1 - (k + 1)) x = fol next (next.length + 1) i := by
     rw [show next.length + 1 - k = (next.length + 1 - (k + 1)) + 1 by omega] at hf
     rw [← hf]
     conv => rhs;unfold fol
     rw [if_pos h0, hx]
     rfl
    have k1 := decide_eq_true hkl
    have k2 := decide_eq_true h0
    refine gR 8 rfl ?_
    refine g_know 16 rfl (decide_eq_true (by omega)) ?_
    refine gR 5 rfl ?_
    refine g_ifT rfl (decide_eq_true (by omega)) ?_
    refine gR 7 rfl ?_
    refine g_ixS rfl rfl (by omega) (by omega) ?_
    refine g_le1 rfl ‹_› (by with_reducible assumption) ?_
    refine gR 6 rfl ?_
    refine g_add rfl rfl (w_i64 (by omega) (by omega)) ?_
    refine gR 2 rfl ?_
    exact g_next (k + 1, x) ⟨by omega, by omega, by omega, hf2⟩ (by dsimp only;omega) (fun a F => F.only [6, 7, 8, 0, 4, 5] rfl) (by (try dsimp only);repeat (first | exact .refl _ | with_reducible exact sC0 _ | with_reducible apply sC2 | apply sC1))
   ·have hneg : ¬ 0 ≤ fol next (next.length + 1) i := by rw [← hf, fol_neg _ _ (by omega)];exact h0
    have k1 := decide_eq_true hkl
    have k2 := decide_eq_false h0
    refine gR 8 rfl ?_
    refine g_know 16 rfl (decide_eq_true (by omega)) ?_
    refine gR 5 rfl ?_
    refine g_ifF rfl (decide_eq_false (by omega)) ?_
    refine gR 2 rfl ?_
    refine g_outX ?_
    refine gR 8 rfl ?_
    refine g_ifF rfl (decide_eq_false (by omega)) ?_
    refine gR 4 rfl ?_
    refine g_add rfl rfl (w_i64 (by omega) (by omega)) ?_
    refine gR 2 rfl ?_
    exact g_next (i + 1) ⟨by omega, fun j hj => by rcases (by omega : j < i ∨ j = i) with h | h;exact hno j h;subst h;exact hneg⟩ (by dsimp only;omega) (fun a F => F.only [6, 7, 8, 0] rfl) (by (try dsimp only);repeat (first | exact .refl _ | with_reducible exact sC0 _ | with_reducible apply sC2 | apply sC1))
  ·have hk1 : k = next.length + 1 := by omega
   subst hk1
   rw [Nat.sub_self] at hf
   have hf' : at_ = fol next (next.length + 1) i := hf
   by_cases h0 : 0 ≤ at_
   ·have ht : loopV next = true := by
     unfold loopV
     rw [List.any_eq_true]
     exact ⟨i, List.mem_range.2 hlt, by rw [← hf'];exact decide_eq_true h0⟩
    have k1 := decide_eq_false hkl
    have k2 := decide_eq_true h0
    refine gR 8 rfl ?_
    refine g_know 16 rfl (decide_eq_false (by omega)) ?_
    refine gR 8 rfl ?_
    refine g_outX ?_
    refine gR 8 rfl ?_
    refine g_ifT rfl (decide_eq_true (by omega)) ?_
    refine gR 8 rfl ?_
    refine g_outR ?_
    refine gR 2 rfl ?_
    refine g_ret1 rfl rfl rfl fun w M => ?_
    exact ⟨by rw [ht], M.ext⟩
   ·have k1 := decide_eq_false hkl
    have k2 := decide_eq_false h0
    refine gR 8 rfl ?_
    refine g_know 16 rfl (decide_eq_false (by omega)) ?_
    refine gR 8 rfl ?_
    refine g_outX ?_
    refine gR 8 rfl ?_
    refine g_ifF rfl (decide_eq_false (by omega)) ?_
    refine gR 4 rfl ?_
    refine g_add rfl rfl (w_i64 (by omega) (by omega)) ?_
    refine gR 2 rfl ?_
    exact g_next (i + 1) ⟨by omega, fun j hj => by rcases (by omega : j < i ∨ j = i) with h | h;exact hno j h;subst h;rw [← hf'];exact h0⟩ (by dsimp only;omega) (fun a F => F.only [6, 7, 8, 0] rfl) (by (try dsimp only);repeat (first | exact .refl _ | with_reducible exact sC0 _ | with_reducible apply sC2 | apply sC1))
 ·have hf : loopV next = false := by
   unfold loopV
   rw [List.any_eq_false]
   intro j hj
   rw [decide_eq_true_eq]
   exact hno j (by have := List.mem_range.1 hj;omega)
  refine gR 6 rfl ?_
  refine g_ifF rfl (decide_eq_false (by omega)) ?_
  refine gR 2 rfl ?_
  refine g_outX ?_
  refine gR 8 rfl ?_
  refine g_ret1 rfl rfl rfl fun w M => ?_
  exact ⟨by rw [hf], M.ext⟩
end Go.Proofs.YtilgoepokaaleaaGreat
/-! VF -/
namespace Go.Proofs.YtilgoepokaaleaaGreat
set_option linter.unusedVariables false
set_option linter.unusedSimpArgs false
open Go.RowKit
attribute [local irreducible] OpTo wpListIn Code.wpIn MW Cal
theorem fold_take {α β : Type} {f : β → α → β} {l : List α} {j : Nat} (h : j < l.length) (o : β) : (l.take (j + 1)).foldl f o = f ((l.take j).foldl f o) l[j] := by
 rw [List.take_add_one, List.getElem?_eq_getElem h, List.foldl_append]
 rfl
theorem put_set {hs : List Value} {i : Nat} (h : i < hs.length) (v : Value) : put hs (0 + (i : Int).toNat * 1) [v] = some (hs.set i v) := by
 rw [show (0 : Nat) + (i : Int).toNat * 1 = i by omega, put_of _ _ _ (by simp;omega), List.set_eq_take_append_cons_drop, if_pos h]
 rfl
theorem put_i64 {L : List Int} {i : Nat} (h : i < L.length) (o z : Int) : put (i64C (L.set i o)) (0 + (i : Int).toNat * 1) [.int .i64 z] = some (i64C (L.set i z)) := by
 rw [put_set (by simp [i64C];exact h)]
 simp [i64C, List.map_set, List.set_set]
section
variable {c : Cx} {Q : Exit → Act → World → Prop} {ks : List KF} {fr : List (Nat × Value)} {l : Row} {all : Array Oper} {rest : List Oper} {d : Nat} {ty : TypeId} {pos : String} {af : Array Edge} {g : Option (Nat × Bool)}
/-- make, of elements of one cell -/
theorem g_mk1 {t e : TypeId} {x : Operand} {k : IntKind} {n by_ : Nat} {z : Value} [ht : TU c.P t (.slice e)] [hel : TEl c.P e 1 by_] [hz : TZero c.P e [z]] (hx : Ev fr x = some (.int k n)) (hb : by_ * n ≤ 281474976710656) (h63 : n ≤ 9223372036854775807)
  (hk : ∀ b, G c Q ks (.ops all rest) ((d, .slice (some ⟨b, 0, none⟩) n n) :: fr) ([(b, .cells (List.replicate n z).toArray e (0, 0))] :: l)) (hd : Nat.blt d c.n = true := by rfl) (hg : gOk all fr g = some true := by rfl) : G c Q ks (.ops all (⟨some d, .makeSlice t x x, ty, pos, af, g⟩ :: rest)) fr l :=
 g_op rfl hd hg fun a w F M => o_make1 M (F.e hx) (F.e hx) (by omega) (by rw [← Int.natCast_mul];omega) (by omega) fun b w' M' a' F' => hk b a' w' (by simp only [Int.toNat_natCast] at F';exact F') (by simp only [Int.toNat_natCast] at M';exact M')
end
set_option maxHeartbeats 16000000 in
theorem nexts_c (n : Nat) (hn : n ≤ 5) (ins : Nat → List InsV) (tab : Nat → List RouV) (now : Int) (hIi : ∀ a, ∀ x ∈ ins a, IsIn x) (hIr : ∀ a, ∀ y ∈ tab a, IsRo y) (hnb : ∀ a, ∀ y ∈ tab a, 0 ≤ y.nb ∧ y.nb ≤ 100) (hll : ∀ a, (ins a).length ≤ 1000) (hlm : ∀ a, (tab a).length ≤ 1000)
  (bi bt N : Nat) (hN : N = n + 1) (hi ht : List Value) {ti tt : TypeId} {fi ft : Nat × Nat} (W : World) (hbi : W.heap[bi]? = some (.cells hi.toArray ti fi)) (hbt : W.heap[bt]? = some (.cells ht.toArray tt ft)) (hHi : ∀ a, a < N → ∃ v, nth hi a = some v ∧ SlAt W 40 v (ins a).length (insC (ins a))) (hHt : ∀ a, a < N → ∃ v, nth ht a = some v ∧ SlAt W 39 v (tab a).length (rosC (tab a))) :
  Cal Tryz.prog 38 [.slice (some ⟨bi, 0, none⟩) N N, .slice (some ⟨bt, 0, none⟩) N N, .int .i64 now].toArray W fun r w' => ∃ ent, OwnS 3 1 r N (i64C (nextsV n ins tab now)) ent ∧ Mem [] W w' ent := by
 refine g_start (n := 67) (S := []) fldT_ok slcT_ok Tryz.func38 rfl rfl rfl ?_
 refine gR 9 rfl ?_
 refine g_mk1 rfl (by omega) (by omega) fun bL => ?_
 refine gR 12 rfl ?_
 refine g_loop (ι := Nat × List Int) ⟨fun (i, L) => N - i, fun (i, L) => i ≤ N ∧ L.length = N ∧ L.take i = (List.range i).map (nhV ins tab now), fun (i, L) => [(7, .slice (some ⟨bL, 0, none⟩) N N), (18, .int .i64 i), (17, .int .i64 N), (1, .slice (some ⟨bt, 0, none⟩) N N), (2, .int .i64 now), (0, .slice (some ⟨bi, 0, none⟩) N N)], fun (i, L) => [[(bL, .cells (i64C (L)).toArray 3 (0, 0))]]⟩ (0, List.replicate N 0) ⟨by omega, by simp, by simp⟩ (fun a F => F.only [7, 18, 17, 1, 2, 0] rfl) (by dsimp only;rw [show i64C (List.replicate N 0) = List.replicate N (Value.int .i64 0) by simp [i64C]];exact .refl _) ?_
 rintro ⟨i, L⟩ ⟨hiN, hLl, hLt⟩
 dsimp only
 by_cases hlt0 : i < N
 ·obtain ⟨vi, hvi, hSi⟩ := hHi i hlt0
  obtain ⟨vt, hvt, hSt⟩ := hHt i hlt0
  have hnh : nhV ins tab now i = (ins i).foldl (fun o x => (tab i).foldl (fun o y => if x.nb ≠ 0 ∧ y.nb = x.nb ∧ now < y.til then x.nb else o) o) (-1) := rfl
  have hli := hIi i
  have hlt := hIr i
  have hnb := hnb i
  have hl1 := hll i
  have hl2 := hlm i
  generalize ins i = li at hli hl1 hnh hSi
  generalize tab i = lt at hlt hnb hl2 hnh hSt
  obtain ⟨qi, ci, rfl, _⟩ := id hSi
  obtain ⟨qt, ct, rfl, _⟩ := id hSt
  have hmi := hSi.memB [] (by simp)
  have hmt := hSt.memB [] (by simp)
  have hbi' : ∀ w', Ext [] W w' → w'.heap[bi]? = some (.cells hi.toArray ti fi) := fun w' E => by rw [E.block bi (Array.getElem?_eq_some_iff.1 hbi).1 (by simp)];exact hbi
  have hbt' : ∀ w', Ext [] W w' → w'.heap[bt]? = some (.cells ht.toArray tt ft) := fun w' E => by rw [E.block bt (Array.getElem?_eq_some_iff.1 hbt).1 (by simp)];exact hbt
  have e0 : ((0 : Nat) + (i : Int).toNat * 1) = i := by omega
  have hvi' : nth hi (0 + (i : Int).toNat * 1) = some (.slice qi li.length ci) := by rw [e0];exact hvi
  have hvt' : nth ht (0 + (i : Int).toNat * 1) = some (.slice qt lt.length ct) := by rw [e0];exact hvt
  have hLs : L = L.set i (L[i]'(by omega)) := (List.set_getElem_self _).symm
  rw [hLs]
  clear hHi hHt hIi hIr hll hlm
  refine gR 6 rfl ?_
  refine g_ifT rfl (decide_eq_true (by omega)) ?_
  refine gR 14 rfl ?_
  refine g_ixS rfl rfl (by omega) (by omega) ?_
  refine g_st1 0 rfl rfl rfl rfl (put_i64 (by omega) _ _) rfl ?_
  refine gR 6 rfl ?_
  refine g_ixS rfl rfl (by omega) (by omega) ?_
  refine g_le1 rfl ‹_› (by with_reducible assumption) ?_
  refine gR 5 rfl ?_
  refine g_loop (ι := Nat × Int) ⟨fun (j, o) => li.length - j, fun (j, o) => j ≤ li.length ∧ (o = (li.take j).foldl (fun o x => lt.foldl (fun o y => if x.nb ≠ 0 ∧ y.nb = x.nb ∧ now < y.til then x.nb else o) o) (-1)), fun (j, o) => [(29, .int .i64 j), (28, .int .i64 li.length), (27, .slice qi li.length ci), (7, .slice (some ⟨bL, 0, none⟩) N N), (8, .int .i64 i), (1, .slice (some ⟨bt, 0, none⟩) N N), (2, .int .i64 now), (18, .int .i64 i), (17, .int .i64 N), (0, .slice (some ⟨bi, 0, none⟩) N N)], fun (j, o) => [[(bL, .cells (i64C (L.set i o)).toArray 3 (0, 0))]]⟩ (0, -1) ⟨by omega, rfl⟩ (fun a F => F.only [29, 28, 27, 7, 8, 1, 2, 18, 17, 0] rfl) (by repeat (first | exact .refl _ | apply sC2 | apply sC1)) ?_
  rintro ⟨j, o⟩ ⟨hi_j, ho⟩
  dsimp only
  by_cases hlt_j : j < li.length
  ·obtain ⟨b2, o2, cs2, t', fz2, rfl, hb2, hs2⟩ := hmi (by omega)
   obtain ⟨x, hx0⟩ : ∃ x, x = li[j] := ⟨_, rfl⟩
   have hxm : x ∈ li := by rw [hx0];exact List.getElem_mem hlt_j
   have hxi : IsIn x := hli _ hxm
   have f1 : seg cs2 (o2 + (j : Int).toNat * 40) 40 = some (inC x) := by rw [hx0];exact seg_el (ins_len hli) hs2 hlt_j (by omega)
   have hx0' := hx0
   clear hx0
   have hst2 := fold_take (f := fun o x => lt.foldl (fun o y => if x.nb ≠ 0 ∧ y.nb = x.nb ∧ now < y.til then x.nb else o) o) hlt_j (-1)
   rw [← ho, ← hx0'] at hst2
   clear ho hx0'
   obtain ⟨o0, ho0⟩ : ∃ o0, o0 = o := ⟨_, rfl⟩
   rw [← ho0] at hst2
   rw [← ho0]
   clear ho0
   refine gR 6 rfl ?_
   refine g_ifT rfl (decide_eq_true (by omega)) ?_
   refine gR 6 rfl ?_
   refine g_ixS rfl rfl (by omega) (by omega) ?_
   refine g_leA rfl ‹_› (by with_reducible assumption) ?_
   refine g_alloc fun b10 => ?_
   refine g_stA 0 rfl rfl (in_len ‹_›) (in_one _) rfl (put_all (by rw [in_len ‹_›];first | rfl | rw [in_len ‹_›])) rfl ?_
   refine gR 6 rfl ?_
   refine g_ixS rfl rfl (by omega) (by omega) ?_
   refine g_le1 rfl ‹_› (by with_reducible assumption) ?_
   refine gR 5 rfl ?_
   refine g_loop (ι := Nat × Int) ⟨fun (k, o) => lt.length - k, fun (k, o) => k ≤ lt.length ∧ (o = (lt.take k).foldl (fun o y => if x.nb ≠ 0 ∧ y.nb = x.nb ∧ now < y.til then x.nb else o) o0), fun (k, o) => [(38, .int .i64 k), (37, .int .i64 lt.length), (36, .slice qt lt.length ct), (10, .pointer (some ⟨b10, 0, none⟩)), (29, .int .i64 j), (28, .int .i64 li.length), (27, .slice (some ⟨b2, o2, none⟩) li.length ci), (7, .slice (some ⟨bL, 0, none⟩) N N), (8, .int .i64 i), (1, .slice (some ⟨bt, 0, none⟩) N N), (2, .int .i64 now), (18, .int .i64 i), (17, .int .i64 N), (0, .slice (some ⟨bi, 0, none⟩) N N)], fun (k, o) => [[(b10, .cells (inC x).toArray 50 (0, 0))], [(bL, .cells (i64C (L.set i o)).toArray 3 (0, 0))]]⟩ (0, o0) ⟨by omega, rfl⟩ (fun a F => F.only [38, 37, 36, 10, 29, 28, 27, 7, 8, 1, 2, 18, 17, 0] rfl) (by repeat (first | exact .refl _ | apply sC2 | apply sC1)) ?_
   rintro ⟨k, o⟩ ⟨hi_k, ho⟩
   dsimp only
   by_cases hlt_k : k < lt.length
   ·obtain ⟨b3, o3, cs3, t', fz3, rfl, hb3, hs3⟩ := hmt (by omega)
    obtain ⟨y, hy0⟩ : ∃ y, y = lt[k] := ⟨_, rfl⟩
    have hym : y ∈ lt := by rw [hy0];exact List.getElem_mem hlt_k
    have hyi : IsRo y := hlt _ hym
    have f2 : seg cs3 (o3 + (k : Int).toNat * 39) 39 = some (roC y) := by rw [hy0];exact seg_el (ros_len hlt) hs3 hlt_k (by omega)
    have hy0' := hy0
    clear hy0
    have hst := fold_take (f := fun o y => if x.nb ≠ 0 ∧ y.nb = x.nb ∧ now < y.til then x.nb else o) hlt_k o0
    rw [← ho, ← hy0'] at hst
    clear ho hy0' hst2
    have hbd := hnb y hym
    by_cases d0 : x.nb = 0
    ·have d1 : (!decide (x.nb = 0)) = false := by rw [decide_eq_true d0];rfl
     rw [if_neg (fun h => h.1 d0)] at hst
     refine gR 6 rfl ?_
     refine g_ifT rfl (decide_eq_true (by omega)) ?_
     refine gR 6 rfl ?_
     refine g_ixS rfl rfl (by omega) (by omega) ?_
     refine g_leA rfl ‹_› (by with_reducible assumption) ?_
     refine g_alloc fun b12 => ?_
     refine g_stA 0 rfl rfl (ro_len ‹_›) (ro_one _) rfl (put_all (by rw [ro_len ‹_›];first | rfl | rw [ro_len ‹_›])) rfl ?_
     refine gR 4 rfl ?_
     refine g_ldA 1 rfl rfl (in_all ‹_›) ?_
     refine g_call rfl rfl (fun w M => refreach_c _ ‹_› _) ?_
     refine gR 1 rfl ?_
     refine g_know 44 rfl (bneF (by omega)) ?_
     refine gR 19 rfl ?_
     refine g_add rfl rfl (w_i64 (by omega) (by omega)) ?_
     refine gR 2 rfl ?_
     exact g_next (k + 1, o) ⟨by dsimp only;omega, hst.symm⟩ (by dsimp only;omega) (fun a F => F.only [38, 37, 36, 10, 29, 28, 27, 7, 8, 1, 2, 18, 17, 0] rfl) (by (try dsimp only);repeat (first | exact .refl _ | with_reducible exact sC0 _ | with_reducible apply sC2 | apply sC1))
    ·have d1 : (!decide (x.nb = 0)) = true := by rw [decide_eq_false d0];rfl
     by_cases d2 : y.nb = x.nb
     ·have d3 : (y.nb == x.nb) = true := by simp [d2]
      by_cases d4 : now < y.til
      ·have d5 := decide_eq_true d4
       rw [if_pos ⟨d0, d2, d4⟩] at hst
       refine gR 6 rfl ?_
       refine g_ifT rfl (decide_eq_true (by omega)) ?_
       refine gR 6 rfl ?_
       refine g_ixS rfl rfl (by omega) (by omega) ?_
       refine g_leA rfl ‹_› (by with_reducible assumption) ?_
       refine g_alloc fun b12 => ?_
       refine g_stA 0 rfl rfl (ro_len ‹_›) (ro_one _) rfl (put_all (by rw [ro_len ‹_›];first | rfl | rw [ro_len ‹_›])) rfl ?_
       refine gR 4 rfl ?_
       refine g_ldA 1 rfl rfl (in_all ‹_›) ?_
       refine g_call rfl rfl (fun w M => refreach_c _ ‹_› _) ?_
       refine gR 1 rfl ?_
       refine g_know 44 rfl ‹_› ?_
       refine gR 1 rfl ?_
       refine g_ld1 0 rfl rfl (ro_nb ‹_›) ?_
       refine gR 1 rfl ?_
       refine g_ld1 1 rfl rfl (in_nb ‹_›) ?_
       refine gR 3 rfl ?_
       refine g_know 51 rfl (decide_eq_true (by omega)) ?_
       refine gR 1 rfl ?_
       refine g_ld1 0 rfl rfl (ro_til ‹_›) ?_
       refine gR 5 rfl ?_
       refine g_ifT rfl (decide_eq_true (by omega)) ?_
       refine gR 4 rfl ?_
       refine g_ld1 1 rfl rfl (in_nb ‹_›) ?_
       refine g_conv rfl (w_i64 (by omega) (by omega)) ?_
       refine g_ixS rfl rfl (by omega) (by omega) ?_
       refine g_st1 2 rfl rfl rfl rfl (put_i64 (by omega) _ _) rfl ?_
       refine gR 4 rfl ?_
       refine g_add rfl rfl (w_i64 (by omega) (by omega)) ?_
       refine gR 2 rfl ?_
       exact g_next (k + 1, x.nb) ⟨by dsimp only;omega, hst.symm⟩ (by dsimp only;omega) (fun a F => F.only [38, 37, 36, 10, 29, 28, 27, 7, 8, 1, 2, 18, 17, 0] rfl) (by (try dsimp only);repeat (first | exact .refl _ | with_reducible exact sC0 _ | with_reducible apply sC2 | apply sC1))
      ·have d5 := decide_eq_false d4
       rw [if_neg (fun h => d4 h.2.2)] at hst
       refine gR 6 rfl ?_
       refine g_ifT rfl (decide_eq_true (by omega)) ?_
       refine gR 6 rfl ?_
       refine g_ixS rfl rfl (by omega) (by omega) ?_
       refine g_leA rfl ‹_› (by with_reducible assumption) ?_
       refine g_alloc fun b12 => ?_
       refine g_stA 0 rfl rfl (ro_len ‹_›) (ro_one _) rfl (put_all (by rw [ro_len ‹_›];first | rfl | rw [ro_len ‹_›])) rfl ?_
       refine gR 4 rfl ?_
       refine g_ldA 1 rfl rfl (in_all ‹_›) ?_
       refine g_call rfl rfl (fun w M => refreach_c _ ‹_› _) ?_
       refine gR 1 rfl ?_
       refine g_know 44 rfl ‹_› ?_
       refine gR 1 rfl ?_
       refine g_ld1 0 rfl rfl (ro_nb ‹_›) ?_
       refine gR 1 rfl ?_
       refine g_ld1 1 rfl rfl (in_nb ‹_›) ?_
       refine gR 3 rfl ?_
       refine g_know 51 rfl (decide_eq_true (by omega)) ?_
       refine gR 1 rfl ?_
       refine g_ld1 0 rfl rfl (ro_til ‹_›) ?_
       refine gR 5 rfl ?_
       refine g_ifF rfl (decide_eq_false (by omega)) ?_
       refine gR 4 rfl ?_
       refine g_add rfl rfl (w_i64 (by omega) (by omega)) ?_
       refine gR 2 rfl ?_
       exact g_next (k + 1, o) ⟨by dsimp only;omega, hst.symm⟩ (by dsimp only;omega) (fun a F => F.only [38, 37, 36, 10, 29, 28, 27, 7, 8, 1, 2, 18, 17, 0] rfl) (by (try dsimp only);repeat (first | exact .refl _ | with_reducible exact sC0 _ | with_reducible apply sC2 | apply sC1))
     ·have d3 : (y.nb == x.nb) = false := by simp [d2]
      rw [if_neg (fun h => d2 h.2.1)] at hst
      refine gR 6 rfl ?_
      refine g_ifT rfl (decide_eq_true (by omega)) ?_
      refine gR 6 rfl ?_
      refine g_ixS rfl rfl (by omega) (by omega) ?_
      refine g_leA rfl ‹_› (by with_reducible assumption) ?_
      refine g_alloc fun b12 => ?_
      refine g_stA 0 rfl rfl (ro_len ‹_›) (ro_one _) rfl (put_all (by rw [ro_len ‹_›];first | rfl | rw [ro_len ‹_›])) rfl ?_
      refine gR 4 rfl ?_
      refine g_ldA 1 rfl rfl (in_all ‹_›) ?_
      refine g_call rfl rfl (fun w M => refreach_c _ ‹_› _) ?_
      refine gR 1 rfl ?_
      refine g_know 44 rfl ‹_› ?_
      refine gR 1 rfl ?_
      refine g_ld1 0 rfl rfl (ro_nb ‹_›) ?_
      refine gR 1 rfl ?_
      refine g_ld1 1 rfl rfl (in_nb ‹_›) ?_
      refine gR 3 rfl ?_
      refine g_know 51 rfl (decide_eq_false (by omega)) ?_
      refine gR 12 rfl ?_
      refine g_add rfl rfl (w_i64 (by omega) (by omega)) ?_
      refine gR 2 rfl ?_
      exact g_next (k + 1, o) ⟨by dsimp only;omega, hst.symm⟩ (by dsimp only;omega) (fun a F => F.only [38, 37, 36, 10, 29, 28, 27, 7, 8, 1, 2, 18, 17, 0] rfl) (by (try dsimp only);repeat (first | exact .refl _ | with_reducible exact sC0 _ | with_reducible apply sC2 | apply sC1))
   ·have hkl : k = lt.length := by omega
    rw [hkl, List.take_length] at ho
    refine gR 6 rfl ?_
    refine g_ifF rfl (decide_eq_false (by omega)) ?_
    refine gR 2 rfl ?_
    refine g_outX ?_
    refine gR 4 rfl ?_
    refine g_add rfl rfl (w_i64 (by omega) (by omega)) ?_
    refine gR 2 rfl ?_
    exact g_next (j + 1, o) ⟨by dsimp only;omega, by dsimp only;rw [hst2, ho]⟩ (by dsimp only;omega) (fun a F => F.only [29, 28, 27, 7, 8, 1, 2, 18, 17, 0] rfl) (by (try dsimp only);repeat (first | exact .refl _ | with_reducible exact sC0 _ | with_reducible apply sC2 | apply sC1))
  ·have hjl : j = li.length := by omega
   rw [hjl, List.take_length, ← hnh] at ho
   refine gR 6 rfl ?_
   refine g_ifF rfl (decide_eq_false (by omega)) ?_
   refine gR 2 rfl ?_
   refine g_outX ?_
   refine gR 4 rfl ?_
   refine g_add rfl rfl (w_i64 (by omega) (by omega)) ?_
   refine gR 2 rfl ?_
   exact g_next (i + 1, L.set i o) ⟨by dsimp only;omega, by dsimp only;rw [List.length_set];exact hLl, by dsimp only;rw [take_set_succ (by omega), hLt, List.range_succ, List.map_append, ho];rfl⟩ (by dsimp only;omega) (fun a F => F.only [7, 18, 17, 1, 2, 0] rfl) (by (try dsimp only);repeat (first | exact .refl _ | with_reducible exact sC0 _ | with_reducible apply sC2 | apply sC1))
 ·have hiN' : i = N := by omega
  have hL : L = nextsV n ins tab now := by
   rw [hiN', ← hLl, List.take_length] at hLt
   rw [hLt, hLl, hN]
   rfl
  rw [← hL]
  refine gR 6 rfl ?_
  refine g_ifF rfl (decide_eq_false (by omega)) ?_
  refine gR 2 rfl ?_
  refine g_outX ?_
  refine gR 9 rfl ?_
  refine g_ret1 rfl rfl rfl fun w M => ?_
  exact ⟨[(bL, .cells (i64C L).toArray 3 (0, 0))], .inr ⟨bL, N, [], rfl, by rw [List.append_nil], by simp [i64C, hLl], by simp, Nat.le_refl _⟩, M⟩
end Go.Proofs.YtilgoepokaaleaaGreat
/-! VG -/
namespace Go.Proofs.YtilgoepokaaleaaGreat
set_option linter.unusedVariables false
set_option linter.unusedSimpArgs false
open Go.RowKit
section
variable {α : Type} {e : TypeId} {sz : Nat} {enc : α → List Value} {N : Nat} {hs : List Value} {f : Nat → List α} {jk jk' : List (Nat × Obj)} {es : Row}
/-- a list of slices, each of memory that nothing turns -/
structure HdJ (e : TypeId) (sz : Nat) (enc : α → List Value) (N : Nat) (hs : List Value) (jk : List (Nat × Obj)) (f : Nat → List α) : Prop where
 len : hs.length = N
 at_ : ∀ a, a < N → ∃ v ent, nth hs a = some v ∧ OwnS e sz v (f a).length (encL enc (f a)) ent ∧ ∀ q ∈ ent, q ∈ jk
theorem HdJ.mono (h : HdJ e sz enc N hs jk f) (hj : ∀ q ∈ jk, q ∈ jk') : HdJ e sz enc N hs jk' f := ⟨h.len, fun a ha => by
 obtain ⟨v, ent, h1, h2, h3⟩ := h.at_ a ha
 exact ⟨v, ent, h1, h2, fun q hq => hj q (h3 q hq)⟩⟩
theorem nth_set {hs : List Value} {a c : Nat} {v : Value} (ha : a < hs.length) : nth (hs.set a v) c = if c = a then some v else nth hs c := by
 rw [nth_spec, nth_spec, List.getElem?_set]
 by_cases h : a = c
 ·subst h
  simp [ha]
 ·rw [if_neg h, if_neg (fun e => h e.symm)]
theorem HdJ.put (h : HdJ e sz enc N hs jk f) {a : Nat} (ha : a < N) {v : Value} {l : List α} {ent : List (Nat × Obj)} (hO : OwnS e sz v l.length (encL enc l) ent) (hj : ∀ q ∈ jk, q ∈ jk') (he : ∀ q ∈ ent, q ∈ jk') : HdJ e sz enc N (hs.set a v) jk' (upd f a l) :=
 ⟨by rw [List.length_set];exact h.len, fun c hc => by
  rw [nth_set (by rw [h.len];exact ha)]
  unfold upd
  split
  ·exact ⟨v, ent, rfl, hO, he⟩
  ·exact (h.mono hj).at_ c hc⟩
theorem nth_rep {v : Value} {N a : Nat} (h : a < N) : nth (List.replicate N v) a = some v := by rw [nth_spec, List.getElem?_replicate, if_pos h]
theorem HdJ.start : HdJ e sz enc N (List.replicate N (.slice none 0 0)) [] (fun _ => ([] : List α)) := ⟨by simp, fun a ha => ⟨_, [], nth_rep ha, OwnS.nilL _ _ _, by simp⟩⟩
/-- a list of slices that are appended to -/
structure OwnH (e : TypeId) (sz : Nat) (enc : α → List Value) (N : Nat) (hs : List Value) (es : Row) (f : Nat → List α) : Prop where
 len : hs.length = N
 el : es.length = N
 at_ : ∀ a, a < N → ∃ v en, nth hs a = some v ∧ nthO es a = some en ∧ OwnS e sz v (f a).length (encL enc (f a)) en
theorem nthO_is {α : Type} : ∀ (l : List α) (a : Nat), nthO l a = l[a]?
 | [], _ => rfl
 | _ :: _, 0 => rfl
 | _ :: r, a + 1 => by
  rw [List.getElem?_cons_succ]
  exact nthO_is r a
theorem OwnH.put (h : OwnH e sz enc N hs es f) {a : Nat} (ha : a < N) {v : Value} {l : List α} {en : List (Nat × Obj)} (hO : OwnS e sz v l.length (encL enc l) en) : OwnH e sz enc N (hs.set a v) (es.set a en) (upd f a l) :=
 ⟨by rw [List.length_set];exact h.len, by rw [List.length_set];exact h.el, fun c hc => by
  rw [nth_set (by rw [h.len];exact ha), nthO_is, List.getElem?_set]
  unfold upd
  by_cases hac : c = a
  ·rw [if_pos hac, if_pos hac.symm, if_pos hac, if_pos (by rw [h.el];exact ha)]
   exact ⟨v, en, rfl, rfl, hO⟩
  ·rw [if_neg hac, if_neg (fun e => hac e.symm), if_neg hac, ← nthO_is]
   exact h.at_ c hc⟩
theorem OwnH.start : OwnH e sz enc N (List.replicate N (.slice none 0 0)) (List.replicate N []) (fun _ => ([] : List α)) := ⟨by simp, by simp, fun a ha => ⟨_, [], nth_rep ha, by rw [nthO_is, List.getElem?_replicate, if_pos ha], OwnS.nilL _ _ _⟩⟩
end
theorem flat_out : ∀ {es : Row} {a : Nat} {en : List (Nat × Obj)}, nthO es a = some en → es.flatten.Perm (en ++ (es.eraseIdx a).flatten) ∧ ∀ en', (es.set a en').flatten.Perm (en' ++ (es.eraseIdx a).flatten)
 | [], _, _, h => by simp [nthO] at h
 | x :: r, 0, en, h => by
  simp only [nthO, Option.some.injEq] at h
  subst h
  exact ⟨.refl _, fun en' => .refl _⟩
 | x :: r, a + 1, en, h => by
  obtain ⟨h1, h2⟩ := flat_out (es := r) (a := a) h
  refine ⟨?_, fun en' => ?_⟩
  ·simp only [List.flatten_cons, List.eraseIdx_cons_succ]
   refine (List.Perm.append_left x h1).trans ?_
   rw [← List.append_assoc, ← List.append_assoc]
   exact List.Perm.append_right _ List.perm_append_comm
  ·simp only [List.flatten_cons, List.eraseIdx_cons_succ, List.set_cons_succ]
   refine (List.Perm.append_left x (h2 en')).trans ?_
   rw [← List.append_assoc, ← List.append_assoc]
   exact List.Perm.append_right _ List.perm_append_comm
theorem flat_nil (N : Nat) : (List.replicate N ([] : List (Nat × Obj))).flatten = [] := by
 induction N with
 | zero => rfl
 | succ n ih => rw [List.replicate_succ, List.flatten_cons, ih];rfl
abbrev iC (x : Int) : List Value := [.int .i64 x]
theorem iC_is : ∀ (l : List Int), encL iC l = i64C l
 | [] => rfl
 | x :: l => by
  rw [encL_cons, iC_is l]
  rfl
abbrev dsC (l : List DisV) : List Value := encL diC l
theorem B_in {b0 : Nat} {o0 : Obj} {e1 e2 : List (Nat × Obj)} : ∀ b ∈ b0 :: (e1.map (·.1) ++ e2.map (·.1)), b ∈ ([e1, e2, [(b0, o0)]] : Row).flatten.map (·.1) := fun b hb => by
 simp only [List.flatten_cons, List.flatten_nil, List.append_nil, List.map_append, List.map_cons, List.map_nil, List.mem_append, List.mem_cons] at hb ⊢
 rcases hb with hb | hb | hb
 ·exact .inr (.inr (.inl hb))
 ·exact .inl hb
 ·exact .inr (.inl hb)
theorem B_1 {b0 : Nat} {e1 e2 : List (Nat × Obj)} : ∀ q ∈ e1, q.1 ∈ b0 :: (e1.map (·.1) ++ e2.map (·.1)) := fun q hq => List.mem_cons_of_mem _ (List.mem_append_left _ (List.mem_map.2 ⟨q, hq, rfl⟩))
theorem B_2 {b0 : Nat} {e1 e2 : List (Nat × Obj)} : ∀ q ∈ e2, q.1 ∈ b0 :: (e1.map (·.1) ++ e2.map (·.1)) := fun q hq => List.mem_cons_of_mem _ (List.mem_append_right _ (List.mem_map.2 ⟨q, hq, rfl⟩))
theorem rows_out {w s i f t b p S W jk e1 e2 r1 r2 : List (Nat × Obj)} (hS : S.Perm (e1 ++ r1)) (hW : W.Perm (e2 ++ r2)) : ([w, s, i, f, t, b, p, S, W, jk] : Row).flatten.Perm ([e1, e2, s, w, i, f, t, b, p, r1, r2, jk] : Row).flatten := by
 classical
 refine List.perm_iff_count.2 fun q => ?_
 have h1 := hS.count_eq q
 have h2 := hW.count_eq q
 simp only [List.count_append] at h1 h2
 simp only [List.flatten_cons, List.flatten_nil, List.append_nil, List.count_append]
 omega
theorem rows_in {w s i f t b p S W jk e1 e2 r1 r2 : List (Nat × Obj)} (hS : S.Perm (e1 ++ r1)) (hW : W.Perm (e2 ++ r2)) : ∃ z, ([e1, e2, s, w, i, f, t, b, p, r1, r2, jk] : Row).flatten.Perm z ∧ ([w, s, i, f, t, b, p, S, W, jk] : Row).flatten.Sublist z := ⟨_, (rows_out hS hW).symm, .refl _⟩
theorem di_mk1 (a : Int) : putAll [(0, 1), (1, 1)] diZ [(0, [.int .u16 a])] = some (diC ⟨a, 0⟩) := rfl
theorem own_one {e : TypeId} {sz n : Nat} {v : Value} {xs : List Value} {ent : List (Nat × Obj)} (h : OwnS e sz v n xs ent) : v.oneCell' = true := by
 obtain ⟨p, c, rfl⟩ := h.slice
 rfl
theorem rows_tp {w s i f t b p S W jk : List (Nat × Obj)} : ([w, s, i, f, t, b, p, S, W, jk] : Row).flatten.Perm (([p] : Row).flatten ++ ([w, s, i, f, t, b, S, W, jk] : Row).flatten) := by
 classical
 refine List.perm_iff_count.2 fun q => ?_
 simp only [List.flatten_cons, List.flatten_nil, List.append_nil, List.count_append]
 omega
theorem rows_jk {w s i f t b p S W jk e : List (Nat × Obj)} : ∃ z, ([e, w, s, i, f, t, b, p, S, W, jk] : Row).flatten.Perm z ∧ ([w, s, i, f, t, b, p, S, W, e ++ jk] : Row).flatten.Sublist z := by
 refine ⟨_, ?_, .refl _⟩
 classical
 refine List.perm_iff_count.2 fun q => ?_
 simp only [List.flatten_cons, List.flatten_nil, List.append_nil, List.count_append]
 omega
theorem nth_iC {l : List Int} {junk : List Value} {j : Nat} {w : Int} (h : l[j]? = some w) : nth (encL iC l ++ junk) (0 + (j : Int).toNat * 1) = some (.int .i64 w) := by
 have h1 := (List.getElem?_eq_some_iff.1 h).1
 rw [nth_spec, show (0 : Nat) + (j : Int).toNat * 1 = j by omega, iC_is, List.getElem?_append_left (by simp [i64C];exact h1)]
 simp [i64C, h]
theorem jk_mem {w s i f t b p S W jk : List (Nat × Obj)} : ∀ q ∈ jk, q ∈ ([w, s, i, f, t, b, p, S, W, jk] : Row).flatten := fun q hq => by
 simp only [List.flatten_cons, List.flatten_nil, List.append_nil, List.mem_append]
 simp [hq]
theorem S_mem {w s i f t b p S W jk : List (Nat × Obj)} {q : Nat × Obj} (h : q ∈ S) : q ∈ ([w, s, i, f, t, b, p, S, W, jk] : Row).flatten := by
 simp only [List.flatten_cons, List.flatten_nil, List.append_nil, List.mem_append]
 simp [h]
theorem W_mem {w s i f t b p S W jk : List (Nat × Obj)} {q : Nat × Obj} (h : q ∈ W) : q ∈ ([w, s, i, f, t, b, p, S, W, jk] : Row).flatten := by
 simp only [List.flatten_cons, List.flatten_nil, List.append_nil, List.mem_append]
 simp [h]
/-- what came at the origin holds there too -/
theorem Inv.one {n i : Nat} {s : NC} (h : Inv n i 1 s) : Inv n i 0 s :=
 { h with
  ff := fun a _ x hx h0 y hy h1 h2 e he => by
   by_cases ha : a = 1
   ·subst ha
    rw [h.i1] at hx
    cases hx
   ·exact h.ff a ha x hx h0 y hy h1 h2 e he }
end Go.Proofs.YtilgoepokaaleaaGreat

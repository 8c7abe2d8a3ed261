/-
  Texts joined: Z6, Z7, Z8, Z0, Y7, Z9, ZA, ZB, ZE, ZC.
-/
import Derived.Test.YtilgoepokaaleaaGreatNoCircle3
import Derived.Shelf.SlSortCmp.WholeK
import Derived.Shelf.SlSortCmp.NoneTotal
import Derived.Test.YtilgoepokaaleaaGreatProg
/-! Z6 -/
namespace Go.Proofs.YtilgoepokaaleaaGreat
set_option linter.unusedVariables false
set_option linter.unusedSimpArgs false
open Go.RowKit
attribute [local irreducible] OpTo wpListIn Code.wpIn MW Cal
def cmpQ (x y : DisV) : Int := if x = y then 0 else if betterV x y then -1 else 1
theorem cmpQ_is (x y : DisV) : decide (cmpQ x y = -1) = betterV x y := by
 unfold cmpQ
 by_cases h : x = y
 ·rw [if_pos h]
  unfold betterV
  rw [decide_eq_true h]
  rfl
 ·rw [if_neg h]
  cases betterV x y <;> rfl
set_option maxHeartbeats 1000000 in
theorem sqcmp_c (x y : DisV) (W : World) : Cal Tryz.prog 131 [.agg (diC x).toArray, .agg (diC y).toArray].toArray W fun v w' => v = .int .i64 (cmpQ x y) ∧ Ext [] W w' := by
 have e1 := di_met (o := x) trivial
 have e2 := di_all (o := x) trivial
 have e3 := di_seq (o := x) trivial
 have e4 := di_fits (o := x) trivial
 have g1 := di_met (o := y) trivial
 have g2 := di_all (o := y) trivial
 have g3 := di_seq (o := y) trivial
 have g4 := di_fits (o := y) trivial
 have he := di_eq (a := x) (b := y) trivial trivial
 unfold cmpQ betterV
 refine fn_ofM (n := 27) [] Tryz.func131 rfl rfl rfl ?_
 intro a w F M hwW
 refine c_seq ?_
 refine c_region ?_
 (refine sD F (o_box M (F.e rfl) rfl ?_);clear F M;intro b2 w M a F)
 (refine sD F (o_box M (F.e rfl) rfl ?_);clear F M;intro b3 w M a F)
 refine sD F (o_assign (F.e rfl) ?_);clear F a;intro a F
 with_reducible refine l_nil (q_then (c_seq (c_block (c_seq (c_region ?_)))))
 refine sD F (o_loadA M (F.e rfl) (by repeat constructor) (by first | assumption | rfl) ?_);clear F a;intro a F
 refine sD F (o_loadA M (F.e rfl) (by repeat constructor) (by first | assumption | rfl) ?_);clear F a;intro a F
 refine sD F (o_eqlA (F.e rfl) (F.e rfl) (by first | assumption | rfl) (by first | assumption | rfl) ?_);clear F a;intro a F
 refine sD F (o_assign (F.e rfl) ?_);clear F a;intro a F
 with_reducible refine l_nil (q_then ?_)
 by_cases h : x = y
 ·rw [he, decide_eq_true h] at F
  rw [if_pos h]
  refine c_true F rfl rfl ?_
  refine c_seq (c_region ?_)
  refine sD F (o_assign (F.e rfl) ?_);clear F a;intro a F
  with_reducible refine l_nil (q_then (c_ret (q_inBR (q_thenR ?_))))
  refine p_ret F rfl (.cons (.tmp (F.e rfl)) .nil) ?_
  exact ⟨rfl, M.ext⟩
 rw [he, decide_eq_false h] at F
 rw [if_neg h, decide_eq_false h]
 refine c_false F rfl rfl ?_
 with_reducible refine c_seq (c_seq (c_region ?_))
 refine sD F (o_fieldAddr (F.e rfl) ?_);clear F a;intro a F
 refine sD F (o_load1 M (F.e rfl) (by repeat constructor) (by first | assumption | rfl) ?_);clear F a;intro a F
 refine sD F (o_fieldAddr (F.e rfl) ?_);clear F a;intro a F
 refine sD F (o_load1 M (F.e rfl) (by repeat constructor) (by first | assumption | rfl) ?_);clear F a;intro a F
 (refine sD F (o_call (F.e rfl) (F.evs rfl) (Cal.mono (newer_c x.seq y.seq _) ?_));clear F;clear a;rintro _ w ⟨rfl, hE⟩ a F;replace M := M.later hE;clear hE)
 cases h1 : newerV x.seq y.seq
 ·rw [h1] at F
  by_cases h2 : x.seq = y.seq
  ·rw [decide_eq_true h2]
   by_cases h3 : x.met < y.met
   ·rw [decide_eq_true h3]
    refine sD F (o_assign (F.e rfl) ?_);clear F a;intro a F
    with_reducible refine l_nil (q_then ?_)
    refine c_false F rfl rfl ?_
    refine c_region ?_
    refine sD F (o_fieldAddr (F.e rfl) ?_);clear F a;intro a F
    refine sD F (o_load1 M (F.e rfl) (by repeat constructor) (by first | assumption | rfl) ?_);clear F a;intro a F
    refine sD F (o_fieldAddr (F.e rfl) ?_);clear F a;intro a F
    refine sD F (o_load1 M (F.e rfl) (by repeat constructor) (by first | assumption | rfl) ?_);clear F a;intro a F
    refine sD F (o_eqlT (F.e rfl) (F.e rfl) (by omega) ?_);clear F a;intro a F
    refine sD F (o_move (F.e rfl) ?_);clear F a;intro a F
    refine sG F (o_fieldAddr (F.e rfl) ?_);clear F a;intro a F
    refine sG F (o_load1 M (F.e rfl) (by repeat constructor) (by first | assumption | rfl) ?_);clear F a;intro a F
    refine sG F (o_fieldAddr (F.e rfl) ?_);clear F a;intro a F
    refine sG F (o_load1 M (F.e rfl) (by repeat constructor) (by first | assumption | rfl) ?_);clear F a;intro a F
    refine sG F (o_lssT (F.e rfl) (F.e rfl) (by omega) ?_);clear F a;intro a F
    refine sD F (o_pickT (F.e rfl) (F.e rfl) ?_);clear F a;intro a F
    refine sD F (o_assign (F.e rfl) ?_);clear F a;intro a F
    with_reducible refine l_nil (q_then ?_)
    refine c_true F rfl rfl ?_
    refine c_seq (c_region ?_)
    refine sD F (o_assign (F.e rfl) ?_);clear F a;intro a F
    with_reducible refine l_nil (q_then (c_ret (q_inBR (q_thenR ?_))))
    refine p_ret F rfl (.cons (.tmp (F.e rfl)) .nil) ?_
    exact ⟨rfl, M.ext⟩
   ·rw [decide_eq_false h3]
    refine sD F (o_assign (F.e rfl) ?_);clear F a;intro a F
    with_reducible refine l_nil (q_then ?_)
    refine c_false F rfl rfl ?_
    refine c_region ?_
    refine sD F (o_fieldAddr (F.e rfl) ?_);clear F a;intro a F
    refine sD F (o_load1 M (F.e rfl) (by repeat constructor) (by first | assumption | rfl) ?_);clear F a;intro a F
    refine sD F (o_fieldAddr (F.e rfl) ?_);clear F a;intro a F
    refine sD F (o_load1 M (F.e rfl) (by repeat constructor) (by first | assumption | rfl) ?_);clear F a;intro a F
    refine sD F (o_eqlT (F.e rfl) (F.e rfl) (by omega) ?_);clear F a;intro a F
    refine sD F (o_move (F.e rfl) ?_);clear F a;intro a F
    refine sG F (o_fieldAddr (F.e rfl) ?_);clear F a;intro a F
    refine sG F (o_load1 M (F.e rfl) (by repeat constructor) (by first | assumption | rfl) ?_);clear F a;intro a F
    refine sG F (o_fieldAddr (F.e rfl) ?_);clear F a;intro a F
    refine sG F (o_load1 M (F.e rfl) (by repeat constructor) (by first | assumption | rfl) ?_);clear F a;intro a F
    refine sG F (o_lssF (F.e rfl) (F.e rfl) (by omega) ?_);clear F a;intro a F
    refine sD F (o_pickT (F.e rfl) (F.e rfl) ?_);clear F a;intro a F
    refine sD F (o_assign (F.e rfl) ?_);clear F a;intro a F
    with_reducible refine l_nil (q_then ?_)
    refine c_false F rfl rfl ?_
    with_reducible refine c_skip (q_inB (q_then (c_seq (c_region ?_))))
    refine sD F (o_assign (F.e rfl) ?_);clear F a;intro a F
    with_reducible refine l_nil (q_then (c_ret ?_))
    refine p_ret F rfl (.cons (.tmp (F.e rfl)) .nil) ?_
    exact ⟨rfl, M.ext⟩
  ·rw [decide_eq_false h2]
   refine sD F (o_assign (F.e rfl) ?_);clear F a;intro a F
   with_reducible refine l_nil (q_then ?_)
   refine c_false F rfl rfl ?_
   refine c_region ?_
   refine sD F (o_fieldAddr (F.e rfl) ?_);clear F a;intro a F
   refine sD F (o_load1 M (F.e rfl) (by repeat constructor) (by first | assumption | rfl) ?_);clear F a;intro a F
   refine sD F (o_fieldAddr (F.e rfl) ?_);clear F a;intro a F
   refine sD F (o_load1 M (F.e rfl) (by repeat constructor) (by first | assumption | rfl) ?_);clear F a;intro a F
   refine sD F (o_eqlF (F.e rfl) (F.e rfl) (by omega) ?_);clear F a;intro a F
   refine sD F (o_move (F.e rfl) ?_);clear F a;intro a F
   refine sO F ?_;clear F a;intro a F
   refine sO F ?_;clear F a;intro a F
   refine sO F ?_;clear F a;intro a F
   refine sO F ?_;clear F a;intro a F
   refine sO F ?_;clear F a;intro a F
   refine sD F (o_pickF (F.e rfl) (F.e rfl) ?_);clear F a;intro a F
   refine sD F (o_assign (F.e rfl) ?_);clear F a;intro a F
   with_reducible refine l_nil (q_then ?_)
   refine c_false F rfl rfl ?_
   with_reducible refine c_skip (q_inB (q_then (c_seq (c_region ?_))))
   refine sD F (o_assign (F.e rfl) ?_);clear F a;intro a F
   with_reducible refine l_nil (q_then (c_ret ?_))
   refine p_ret F rfl (.cons (.tmp (F.e rfl)) .nil) ?_
   exact ⟨rfl, M.ext⟩
 ·rw [h1] at F
  refine sD F (o_assign (F.e rfl) ?_);clear F a;intro a F
  with_reducible refine l_nil (q_then ?_)
  refine c_true F rfl rfl ?_
  with_reducible refine c_skip (q_then ?_)
  refine c_true F rfl rfl ?_
  refine c_seq (c_region ?_)
  refine sD F (o_assign (F.e rfl) ?_);clear F a;intro a F
  with_reducible refine l_nil (q_then (c_ret (q_inBR (q_thenR ?_))))
  refine p_ret F rfl (.cons (.tmp (F.e rfl)) .nil) ?_
  exact ⟨rfl, M.ext⟩
set_option maxHeartbeats 1000000 in
theorem sqfeas_c (d b : DisV) (k : Bool) (W : World) : Cal Tryz.prog 102 [.agg (diC d).toArray, .agg (diC b).toArray, .bool k].toArray W fun v w' => v = .bool (finD d && (!k || (validM b.met && betterV d b))) ∧ Ext [] W w' := by
 have e1 := di_met (o := d) trivial
 have e2 := di_all (o := d) trivial
 have g2 := di_all (o := b) trivial
 unfold finD inf
 refine fn_ofM (n := 27) [] Tryz.func102 rfl rfl rfl ?_
 intro a w F M hwW
 refine c_seq ?_
 refine c_region ?_
 (refine sD F (o_box M (F.e rfl) rfl ?_);clear F M;intro b3 w M a F)
 (refine sD F (o_box M (F.e rfl) rfl ?_);clear F M;intro b4 w M a F)
 refine sD F (o_assign (F.e rfl) ?_);clear F a;intro a F
 with_reducible refine l_nil (q_then (c_seq (c_seq (c_region ?_))))
 refine sD F (o_loadA M (F.e rfl) (by repeat constructor) (by first | assumption | rfl) ?_);clear F a;intro a F
 (refine sD F (o_call (F.e rfl) (F.evs rfl) (Cal.mono (sqvalid_c d _) ?_));clear F;clear a;rintro _ w ⟨rfl, hE⟩ a F;replace M := M.later hE;clear hE)
 cases h1 : validM d.met
 ·rw [h1] at F
  refine sD F (o_not (F.e rfl) ?_);clear F a;intro a F
  refine sD F (o_move (F.e rfl) ?_);clear F a;intro a F
  refine sO F ?_;clear F a;intro a F
  refine sO F ?_;clear F a;intro a F
  refine sO F ?_;clear F a;intro a F
  refine sD F (o_pickT (F.e rfl) (F.e rfl) ?_);clear F a;intro a F
  with_reducible refine l_nil (q_then ?_)
  refine c_true F rfl rfl ?_
  refine c_seq (c_region ?_)
  refine sD F (o_assign (F.e rfl) ?_);clear F a;intro a F
  with_reducible refine l_nil (q_then (c_ret (q_thenR ?_)))
  refine p_ret F rfl (.cons (.tmp (F.e rfl)) .nil) ?_
  exact ⟨rfl, M.ext⟩
 rw [h1] at F
 by_cases h2 : d.met = 65535
 ·rw [decide_eq_true h2]
  refine sD F (o_not (F.e rfl) ?_);clear F a;intro a F
  refine sD F (o_move (F.e rfl) ?_);clear F a;intro a F
  refine sG F (o_fieldAddr (F.e rfl) ?_);clear F a;intro a F
  refine sG F (o_load1 M (F.e rfl) (by repeat constructor) (by first | assumption | rfl) ?_);clear F a;intro a F
  refine sG F (o_eqlT (F.e rfl) (F.e rfl) (by omega) ?_);clear F a;intro a F
  refine sD F (o_pickF (F.e rfl) (F.e rfl) ?_);clear F a;intro a F
  with_reducible refine l_nil (q_then ?_)
  refine c_true F rfl rfl ?_
  refine c_seq (c_region ?_)
  refine sD F (o_assign (F.e rfl) ?_);clear F a;intro a F
  with_reducible refine l_nil (q_then (c_ret (q_thenR ?_)))
  refine p_ret F rfl (.cons (.tmp (F.e rfl)) .nil) ?_
  exact ⟨rfl, M.ext⟩
 rw [decide_eq_false h2]
 cases k
 ·refine sD F (o_not (F.e rfl) ?_);clear F a;intro a F
  refine sD F (o_move (F.e rfl) ?_);clear F a;intro a F
  refine sG F (o_fieldAddr (F.e rfl) ?_);clear F a;intro a F
  refine sG F (o_load1 M (F.e rfl) (by repeat constructor) (by first | assumption | rfl) ?_);clear F a;intro a F
  refine sG F (o_eqlF (F.e rfl) (F.e rfl) (by omega) ?_);clear F a;intro a F
  refine sD F (o_pickF (F.e rfl) (F.e rfl) ?_);clear F a;intro a F
  with_reducible refine l_nil (q_then ?_)
  refine c_false F rfl rfl ?_
  with_reducible refine c_skip (q_then (c_seq (c_region ?_)))
  refine sD F (o_move (F.e rfl) ?_);clear F a;intro a F
  refine sD F (o_not (F.e rfl) ?_);clear F a;intro a F
  refine sD F (o_move (F.e rfl) ?_);clear F a;intro a F
  refine sO F ?_;clear F a;intro a F
  refine sO F ?_;clear F a;intro a F
  refine sO F ?_;clear F a;intro a F
  refine sO F ?_;clear F a;intro a F
  refine sO F ?_;clear F a;intro a F
  refine sO F ?_;clear F a;intro a F
  refine sO F ?_;clear F a;intro a F
  refine sO F ?_;clear F a;intro a F
  refine sD F (o_pickT (F.e rfl) (F.e rfl) ?_);clear F a;intro a F
  refine sD F (o_assign (F.e rfl) ?_);clear F a;intro a F
  with_reducible refine l_nil (q_then (c_ret ?_))
  refine p_ret F rfl (.cons (.tmp (F.e rfl)) .nil) ?_
  exact ⟨rfl, M.ext⟩
 ·refine sD F (o_not (F.e rfl) ?_);clear F a;intro a F
  refine sD F (o_move (F.e rfl) ?_);clear F a;intro a F
  refine sG F (o_fieldAddr (F.e rfl) ?_);clear F a;intro a F
  refine sG F (o_load1 M (F.e rfl) (by repeat constructor) (by first | assumption | rfl) ?_);clear F a;intro a F
  refine sG F (o_eqlF (F.e rfl) (F.e rfl) (by omega) ?_);clear F a;intro a F
  refine sD F (o_pickF (F.e rfl) (F.e rfl) ?_);clear F a;intro a F
  with_reducible refine l_nil (q_then ?_)
  refine c_false F rfl rfl ?_
  with_reducible refine c_skip (q_then (c_seq (c_region ?_)))
  refine sD F (o_move (F.e rfl) ?_);clear F a;intro a F
  refine sD F (o_not (F.e rfl) ?_);clear F a;intro a F
  refine sD F (o_move (F.e rfl) ?_);clear F a;intro a F
  refine sG F (o_loadA M (F.e rfl) (by repeat constructor) (by first | assumption | rfl) ?_);clear F a;intro a F
  (refine sG F (o_call (F.e rfl) (F.evs rfl) (Cal.mono (sqvalid_c b _) ?_));clear F;clear a;rintro _ w ⟨rfl, hE⟩ a F;replace M := M.later hE;clear hE)
  cases h3 : validM b.met
  ·rw [h3] at F
   refine sG F (o_move (F.e rfl) ?_);clear F a;intro a F
   refine sO F ?_;clear F a;intro a F
   refine sO F ?_;clear F a;intro a F
   refine sO F ?_;clear F a;intro a F
   refine sO F ?_;clear F a;intro a F
   refine sG F (o_pickF (F.e rfl) (F.e rfl) ?_);clear F a;intro a F
   refine sD F (o_pickF (F.e rfl) (F.e rfl) ?_);clear F a;intro a F
   refine sD F (o_assign (F.e rfl) ?_);clear F a;intro a F
   with_reducible refine l_nil (q_then (c_ret ?_))
   refine p_ret F rfl (.cons (.tmp (F.e rfl)) .nil) ?_
   exact ⟨rfl, M.ext⟩
  rw [h3] at F
  refine sG F (o_move (F.e rfl) ?_);clear F a;intro a F
  refine sG F (o_loadA M (F.e rfl) (by repeat constructor) (by first | assumption | rfl) ?_);clear F a;intro a F
  refine sG F (o_loadA M (F.e rfl) (by repeat constructor) (by first | assumption | rfl) ?_);clear F a;intro a F
  (refine sG F (o_call (F.e rfl) (F.evs rfl) (Cal.mono (sqcmp_c d b _) ?_));clear F;clear a;rintro _ w ⟨rfl, hE⟩ a F;replace M := M.later hE;clear hE)
  rw [← cmpQ_is]
  by_cases h4 : cmpQ d b = -1
  ·rw [decide_eq_true h4]
   refine sG F (o_eqlT (F.e rfl) (F.e rfl) (by omega) ?_);clear F a;intro a F
   refine sG F (o_pickT (F.e rfl) (F.e rfl) ?_);clear F a;intro a F
   refine sD F (o_pickF (F.e rfl) (F.e rfl) ?_);clear F a;intro a F
   refine sD F (o_assign (F.e rfl) ?_);clear F a;intro a F
   with_reducible refine l_nil (q_then (c_ret ?_))
   refine p_ret F rfl (.cons (.tmp (F.e rfl)) .nil) ?_
   exact ⟨rfl, M.ext⟩
  ·rw [decide_eq_false h4]
   refine sG F (o_eqlF (F.e rfl) (F.e rfl) (by omega) ?_);clear F a;intro a F
   refine sG F (o_pickT (F.e rfl) (F.e rfl) ?_);clear F a;intro a F
   refine sD F (o_pickF (F.e rfl) (F.e rfl) ?_);clear F a;intro a F
   refine sD F (o_assign (F.e rfl) ?_);clear F a;intro a F
   with_reducible refine l_nil (q_then (c_ret ?_))
   refine p_ret F rfl (.cons (.tmp (F.e rfl)) .nil) ?_
   exact ⟨rfl, M.ext⟩
theorem find_at {α : Type} {p : α → Bool} {l : List α} {i : Nat} (hi : i < l.length) (h : p l[i] = true) (hn : ∀ j (hj : j < l.length), j < i → p l[j] = false) : l.find? p = some l[i] := by
 rw [List.find?_eq_some_iff_getElem]
 exact ⟨h, i, hi, rfl, fun j hj => by rw [hn j (by omega) hj];rfl⟩
theorem find_no {α : Type} {p : α → Bool} {l : List α} (hn : ∀ j (hj : j < l.length), p l[j] = false) : l.find? p = none := by
 rw [List.find?_eq_none]
 intro x hx
 obtain ⟨j, hj, rfl⟩ := List.mem_iff_getElem.1 hx
 rw [hn j hj]
 simp
def hitS (now : Int) (t : DstV) (x : SrcV) : Bool := decide (x.to = t) && decide (now < x.til)
theorem bestS_is (s : List SrcV) (now : Int) (t : DstV) : bestS s now t = (s.find? (hitS now t)).map (·.bst) := rfl
set_option maxHeartbeats 2000000 in
theorem scfind_c (l : List SrcV) (hx : ∀ x ∈ l, IsSr x) (hval : validSs l = true) (v : Value) (now : Int) (hnow : isTime now = true) (t : DstV) (ht : IsDv t) (W : World) (hS : SlAt W 38 v l.length (srsC l)) :
  Cal Tryz.prog 101 [v, .int .i64 now, .agg (dvC t).toArray].toArray W fun r w' => r = .tuple [diV ((bestS l now t).getD di0), .bool (bestS l now t).isSome].toArray ∧ Ext [] W w' := by
 have hS0 := hS
 have hlen := (validSs_iff.1 hval).1
 obtain ⟨q, cap, rfl, hcap, hsp, hl, hm⟩ := hS
 have d1 := dv_all ht
 have d2 := dv_len ht
 have d3 := dv_fits ht
 rw [bestS_is]
 refine fn_ofM (n := 39) [] Tryz.func101 rfl rfl rfl ?_
 intro a w F M hwW
 refine c_seq ?_
 refine c_region ?_
 (refine sD F (o_box M (F.e rfl) rfl ?_);clear F M;intro b5 w M a F)
 (refine sD F (o_alloc M ?_);clear F M;intro b6 w M a F)
 refine sD F (o_assign (F.e rfl) ?_);clear F a;intro a F
 with_reducible refine l_nil (q_then (c_seq (c_seq (c_region ?_))))
 refine sD F (o_move (F.e rfl) ?_);clear F a;intro a F
 (refine sD F (o_call (F.e rfl) (F.evs rfl) (Cal.mono (scvalid_c l hx _ _ (hS0.later M.ext)) ?_));clear F;clear a;rintro _ w ⟨rfl, hE⟩ a F;replace M := M.later hE;clear hE)
 rw [hval] at F
 refine sD F (o_not (F.e rfl) ?_);clear F a;intro a F
 refine sD F (o_move (F.e rfl) ?_);clear F a;intro a F
 refine sG F (o_move (F.e rfl) ?_);clear F a;intro a F
 (refine sG F (o_call (F.e rfl) (F.evs rfl) (Cal.mono (scTime_c now _) ?_));clear F;clear a;rintro _ w ⟨rfl, hE⟩ a F;replace M := M.later hE;clear hE)
 rw [hnow] at F
 refine sG F (o_not (F.e rfl) ?_);clear F a;intro a F
 refine sD F (o_pickF (F.e rfl) (F.e rfl) ?_);clear F a;intro a F
 with_reducible refine l_nil (q_then ?_)
 refine c_false F rfl rfl ?_
 with_reducible refine c_skip (q_then (c_seq (c_seq (c_region ?_))))
 refine sD F (o_move (F.e rfl) ?_);clear F a;intro a F
 refine sD F (o_lenSl (F.e rfl) ?_);clear F a;intro a F
 refine sD F (o_move (F.e rfl) ?_);clear F a;intro a F
 with_reducible refine l_nil (q_then (c_block ?_))
 refine c_loop (fun m a w => ∃ i : Nat, m = l.length - i ∧ i ≤ l.length ∧ (∀ j (hj : j < l.length), j < i → hitS now t l[j] = false) ∧ Frm a 39 [] [(21, .int .i64 i), (20, .int .i64 l.length), (19, .slice q l.length cap), (1, .int .i64 now), (5, .pointer (some ⟨b5, 0, none⟩)), (6, .pointer (some ⟨b6, 0, none⟩)), (7, .bool false)] ∧ Mem [] W w [(b6, .cells [Value.int .u16 0, .int .i64 0].toArray 48 (0, 0)), (b5, .cells (dvC t).toArray 45 (0, 0))]) l.length ⟨0, rfl, by omega, by omega, F.only [21, 20, 19, 1, 5, 6, 7] rfl, M⟩ ?_
 clear F M
 rintro m a w ⟨i, hm', hi, hv, F, M⟩
 by_cases hlt : i < l.length
 ·obtain ⟨b, o, cs, t', fz, rfl, hb, hs⟩ := hm (by omega)
  have hxv := hx _ (List.getElem_mem hlt)
  have f1 : seg cs (o + (i : Int).toNat * 38) 38 = some (srC l[i]) := seg_el (srs_len hx) hs hlt (by omega)
  have hget := find_at (p := hitS now t) hlt
  have hne : hitS now t l[i] = false → ∀ j (hj : j < l.length), j < i + 1 → hitS now t l[j] = false := fun h j hj hj2 => by
   rcases Nat.lt_or_ge j i with h1 | h1
   ·exact hv j hj h1
   ·obtain rfl : j = i := by omega
    exact h
  obtain ⟨x, hx0⟩ : ∃ x, x = l[i] := ⟨_, rfl⟩
  rw [← hx0] at hxv f1 hget hne
  have f2 : (srC x).length = 38 := sr_len hxv
  have f3 := sr_to hxv
  have f4 := sr_bst hxv
  have f5 := sr_til hxv
  have f6 := dv_fits hxv.1
  have f7 := dv_eq hxv.1 ht
  refine c_seq (c_region ?_)
  refine sD F (o_lssT (F.e rfl) (F.e rfl) (by omega) ?_);clear F a;intro a F
  with_reducible refine l_nil (q_then (c_seq ?_))
  refine c_true F rfl rfl ?_
  with_reducible refine c_skip (q_then (c_seq (c_block (c_seq (c_region ?_)))))
  refine sD F (o_indexSl (F.e rfl) (F.e rfl) (by omega) (by omega) ?_);clear F a;intro a F
  refine sD F (o_loadWA M (F.e rfl) ‹_› (by first | assumption | rfl) ?_);clear F a;intro a F
  (refine sD F (o_alloc M ?_);clear F M;intro b9 w M a F)
  (refine stepN rfl F (o_storeA M (F.e rfl) (F.e rfl) (f2) (sr_one x)  (by repeat constructor)  (put_all (by rw [f2];rfl)) (by repeat constructor) ?_);clear F M;intro w M a F)
  with_reducible refine l_nil (q_then (c_seq (c_region ?_)))
  refine sD F (o_fieldAddr (F.e rfl) ?_);clear F a;intro a F
  refine sD F (o_loadA M (F.e rfl) (by repeat constructor) (by first | assumption | rfl) ?_);clear F a;intro a F
  refine sD F (o_loadA M (F.e rfl) (by repeat constructor) (by first | assumption | rfl) ?_);clear F a;intro a F
  refine sD F (o_eqlA (F.e rfl) (F.e rfl) (by first | assumption | rfl) (by first | assumption | rfl) ?_);clear F a;intro a F
  refine sD F (o_move (F.e rfl) ?_);clear F a;intro a F
  by_cases he : x.to = t
  ·rw [f7, decide_eq_true he] at F
   by_cases h2 : now < x.til
   ·rw [hget (by unfold hitS;rw [decide_eq_true he, decide_eq_true h2];rfl) hv]
    refine sG F (o_fieldAddr (F.e rfl) ?_);clear F a;intro a F
    refine sG F (o_load1 M (F.e rfl) (by repeat constructor) (by first | assumption | rfl) ?_);clear F a;intro a F
    refine sG F (o_move (F.e rfl) ?_);clear F a;intro a F
    refine sG F (o_gtrT (F.e rfl) (F.e rfl) (by omega) ?_);clear F a;intro a F
    refine sD F (o_pickT (F.e rfl) (F.e rfl) ?_);clear F a;intro a F
    with_reducible refine l_nil (q_then ?_)
    refine c_true F rfl rfl ?_
    refine c_seq (c_region ?_)
    refine sD F (o_fieldAddr (F.e rfl) ?_);clear F a;intro a F
    refine sD F (o_loadA M (F.e rfl) (by repeat constructor) (by first | assumption | rfl) ?_);clear F a;intro a F
    (refine stepN rfl F (o_storeA M (F.e rfl) (F.e rfl) (di_len (o := x.bst) trivial) (di_one x.bst)  (by repeat constructor)  (put_all (by rw [di_len (o := x.bst) trivial];rfl)) (by repeat constructor) ?_);clear F M;intro w M a F)
    refine sD F (o_assign (F.e rfl) ?_);clear F a;intro a F
    with_reducible refine l_nil (q_then (c_ret (q_inBR (q_thenR (q_thenR (q_inBR (q_thenR ?_)))))))
    have e5 : seg (diC x.bst) 0 2 = some (diC x.bst) := di_all (o := x.bst) trivial
    exact p_ret F rfl (.cons (.cell (F.e rfl) (run_loadVar_agg TAgg.h (M.heap (by repeat constructor)) e5)) (.cons (.tmp (F.e rfl)) .nil)) ⟨rfl, M.ext⟩
   ·refine sG F (o_fieldAddr (F.e rfl) ?_);clear F a;intro a F
    refine sG F (o_load1 M (F.e rfl) (by repeat constructor) (by first | assumption | rfl) ?_);clear F a;intro a F
    refine sG F (o_move (F.e rfl) ?_);clear F a;intro a F
    refine sG F (o_gtrF (F.e rfl) (F.e rfl) (by omega) ?_);clear F a;intro a F
    refine sD F (o_pickT (F.e rfl) (F.e rfl) ?_);clear F a;intro a F
    with_reducible refine l_nil (q_then ?_)
    refine c_false F rfl rfl ?_
    with_reducible refine c_skip (q_inB (q_then (c_region ?_)))
    refine sD F (o_add (F.e rfl) (F.e rfl) (w_i64 (by omega) (by omega)) ?_);clear F a;intro a F
    refine sD F (o_move (F.e rfl) ?_);clear F a;intro a F
    with_reducible refine l_nil (q_then ?_)
    exact ⟨_, by omega, i + 1, rfl, by omega, hne (by unfold hitS;rw [decide_eq_false h2, Bool.and_false]), F.only [21, 20, 19, 1, 5, 6, 7] rfl, M.sub (List.sublist_cons_self _ _)⟩
  ·rw [f7, decide_eq_false he] at F
   refine sO F ?_;clear F a;intro a F
   refine sO F ?_;clear F a;intro a F
   refine sO F ?_;clear F a;intro a F
   refine sO F ?_;clear F a;intro a F
   refine sD F (o_pickF (F.e rfl) (F.e rfl) ?_);clear F a;intro a F
   with_reducible refine l_nil (q_then ?_)
   refine c_false F rfl rfl ?_
   with_reducible refine c_skip (q_inB (q_then (c_region ?_)))
   refine sD F (o_add (F.e rfl) (F.e rfl) (w_i64 (by omega) (by omega)) ?_);clear F a;intro a F
   refine sD F (o_move (F.e rfl) ?_);clear F a;intro a F
   with_reducible refine l_nil (q_then ?_)
   exact ⟨_, by omega, i + 1, rfl, by omega, hne (by unfold hitS;rw [decide_eq_false he, Bool.false_and]), F.only [21, 20, 19, 1, 5, 6, 7] rfl, M.sub (List.sublist_cons_self _ _)⟩
 ·obtain rfl : i = l.length := by omega
  rw [find_no (fun j hj => hv j hj hj)]
  refine c_seq (c_region ?_)
  refine sD F (o_lssF (F.e rfl) (F.e rfl) (by omega) ?_);clear F a;intro a F
  with_reducible refine l_nil (q_then (c_seq ?_))
  refine c_false F rfl rfl ?_
  with_reducible refine c_exit (q_thenX (q_thenX (q_inBX (q_then (c_seq (c_region ?_))))))
  refine sD F (o_build F rfl rfl ?_);clear F a;intro a F
  (refine stepN rfl F (o_storeA M (F.e rfl) (F.e rfl) (rfl) (rfl)  (by repeat constructor)  (rfl) (by repeat constructor) ?_);clear F M;intro w M a F)
  refine sD F (o_assign (F.e rfl) ?_);clear F a;intro a F
  with_reducible refine l_nil (q_then (c_ret ?_))
  exact p_ret F rfl (.cons (.cell (F.e rfl) (run_loadVar_agg TAgg.h (M.heap (by repeat constructor)) rfl)) (.cons (.tmp (F.e rfl)) .nil)) ⟨rfl, M.ext⟩
theorem best_valid {l : List SrcV} (hval : validSs l = true) {now : Int} {t : DstV} {b : DisV} (h : bestS l now t = some b) : validM b.met = true := by
 rw [bestS_is, Option.map_eq_some_iff] at h
 obtain ⟨x, h1, rfl⟩ := h
 have h2 := (validSs_iff.1 hval).2.1 x (List.mem_of_find?_eq_some h1)
 simp only [src1, finD, Bool.and_eq_true] at h2
 exact h2.1.2.1
set_option maxHeartbeats 2000000 in
theorem scfeas_c (l : List SrcV) (hx : ∀ x ∈ l, IsSr x) (hval : validSs l = true) (v : Value) (now : Int) (hnow : isTime now = true) (t : DstV) (ht : IsDv t) (hvt : validT t = true) (d : DisV) (W : World) (hS : SlAt W 38 v l.length (srsC l)) :
  Cal Tryz.prog 51 [v, .int .i64 now, .agg (dvC t).toArray, .agg (diC d).toArray].toArray W fun r w' => r = .bool (feasV l now t d) ∧ Ext [] W w' := by
 have hvv := hS.one
 have d1 := dv_all ht
 have e1 := di_all (o := d) trivial
 obtain ⟨z, hz⟩ : ∃ z, z = (bestS l now t).getD di0 := ⟨_, rfl⟩
 obtain ⟨k, hk⟩ : ∃ k, k = (bestS l now t).isSome := ⟨_, rfl⟩
 have hf : feasV l now t d = (finD d && (!k || (validM z.met && betterV d z))) := by
  rw [hz, hk]
  unfold feasV
  cases h : bestS l now t with
  | none => simp
  | some b => simp [best_valid hval h]
 rw [hf]
 have hfind := scfind_c l hx hval v now hnow t ht
 rw [← hz, ← hk] at hfind
 have z1 := di_all (o := z) trivial
 have z2 := di_len (o := z) trivial
 refine fn_ofM (n := 35) [] Tryz.func51 rfl rfl rfl ?_
 intro a w F M hwW
 refine c_seq ?_
 refine c_region ?_
 (refine sD F (o_box M (F.e rfl) rfl ?_);clear F M;intro b6 w M a F)
 (refine sD F (o_box M (F.e rfl) rfl ?_);clear F M;intro b7 w M a F)
 refine sD F (o_assign (F.e rfl) ?_);clear F a;intro a F
 with_reducible refine l_nil (q_then (c_seq (c_seq (c_region ?_))))
 refine sD F (o_move (F.e rfl) ?_);clear F a;intro a F
 (refine sD F (o_call (F.e rfl) (F.evs rfl) (Cal.mono (scvalid_c l hx _ _ (hS.later M.ext)) ?_));clear F;clear a;rintro _ w ⟨rfl, hE⟩ a F;replace M := M.later hE;clear hE)
 rw [hval] at F
 refine sD F (o_not (F.e rfl) ?_);clear F a;intro a F
 refine sD F (o_move (F.e rfl) ?_);clear F a;intro a F
 refine sG F (o_loadA M (F.e rfl) (by repeat constructor) (by first | assumption | rfl) ?_);clear F a;intro a F
 (refine sG F (o_call (F.e rfl) (F.evs rfl) (Cal.mono (validTo_c t ht _) ?_));clear F;clear a;rintro _ w ⟨rfl, hE⟩ a F;replace M := M.later hE;clear hE)
 rw [hvt] at F
 refine sG F (o_not (F.e rfl) ?_);clear F a;intro a F
 refine sD F (o_pickF (F.e rfl) (F.e rfl) ?_);clear F a;intro a F
 refine sD F (o_move (F.e rfl) ?_);clear F a;intro a F
 refine sG F (o_move (F.e rfl) ?_);clear F a;intro a F
 (refine sG F (o_call (F.e rfl) (F.evs rfl) (Cal.mono (scTime_c now _) ?_));clear F;clear a;rintro _ w ⟨rfl, hE⟩ a F;replace M := M.later hE;clear hE)
 rw [hnow] at F
 refine sG F (o_not (F.e rfl) ?_);clear F a;intro a F
 refine sD F (o_pickF (F.e rfl) (F.e rfl) ?_);clear F a;intro a F
 with_reducible refine l_nil (q_then ?_)
 refine c_false F rfl rfl ?_
 with_reducible refine c_skip (q_then (c_seq (c_region ?_)))
 refine sD F (o_move (F.e rfl) ?_);clear F a;intro a F
 refine sD F (o_move (F.e rfl) ?_);clear F a;intro a F
 refine sD F (o_loadA M (F.e rfl) (by repeat constructor) (by first | assumption | rfl) ?_);clear F a;intro a F
 (refine sD F (o_call (F.e rfl) (F.evs rfl) (Cal.mono (hfind _ (hS.later M.ext)) ?_));clear F;clear a;rintro _ w ⟨rfl, hE⟩ a F;replace M := M.later hE;clear hE)
 refine sD F (o_move (F.e rfl) ?_);clear F a;intro a F
 refine sD F (o_extract (F.e rfl) rfl ?_);clear F a;intro a F
 refine sD F (o_extract (F.e rfl) rfl ?_);clear F a;intro a F
 (refine sD F (o_alloc M ?_);clear F M;intro b9 w M a F)
 (refine stepN rfl F (o_storeA M (F.e rfl) (F.e rfl) (z2) (di_one z)  (by repeat constructor)  (put_all (by rw [z2];rfl)) (by repeat constructor) ?_);clear F M;intro w M a F)
 refine sD F (o_assign (F.e rfl) ?_);clear F a;intro a F
 with_reducible refine l_nil (q_then (c_seq (c_region ?_)))
 refine sD F (o_loadA M (F.e rfl) (by repeat constructor) (by first | assumption | rfl) ?_);clear F a;intro a F
 refine sD F (o_loadA M (F.e rfl) (by repeat constructor) (by first | assumption | rfl) ?_);clear F a;intro a F
 refine sD F (o_move (F.e rfl) ?_);clear F a;intro a F
 (refine sD F (o_call (F.e rfl) (F.evs rfl) (Cal.mono (sqfeas_c d z k _) ?_));clear F;clear a;rintro _ w ⟨rfl, hE⟩ a F;replace M := M.later hE;clear hE)
 refine sD F (o_assign (F.e rfl) ?_);clear F a;intro a F
 with_reducible refine l_nil (q_then (c_ret ?_))
 refine p_ret F rfl (.cons (.tmp (F.e rfl)) .nil) ?_
 exact ⟨rfl, M.ext⟩
set_option maxHeartbeats 1000000 in
theorem mtvalidC_c (c : ChoV) (W : World) : Cal Tryz.prog 132 [.agg (chC c).toArray].toArray W fun v w' => v = .bool (validCh c) ∧ Ext [] W w' := by
 have e1 := ch_cost (o := c) trivial
 have e2 := ch_btn (o := c) trivial
 unfold validCh
 refine fn_ofM (n := 16) [] Tryz.func132 rfl rfl rfl ?_
 intro a w F M hwW
 refine c_seq ?_
 refine c_region ?_
 (refine sD F (o_box M (F.e rfl) rfl ?_);clear F M;intro b1 w M a F)
 refine sD F (o_assign (F.e rfl) ?_);clear F a;intro a F
 with_reducible refine l_nil (q_then (c_seq (c_region ?_)))
 refine sD F (o_fieldAddr (F.e rfl) ?_);clear F a;intro a F
 refine sD F (o_load1 M (F.e rfl) (by repeat constructor) (by first | assumption | rfl) ?_);clear F a;intro a F
 (refine sD F (o_call (F.e rfl) (F.evs rfl) (Cal.mono (mvalid_c c.cost _) ?_));clear F;clear a;rintro _ w ⟨rfl, hE⟩ a F;replace M := M.later hE;clear hE)
 cases h1 : validM c.cost
 ·rw [h1] at F
  refine sD F (o_move (F.e rfl) ?_);clear F a;intro a F
  refine sO F ?_;clear F a;intro a F
  refine sO F ?_;clear F a;intro a F
  refine sO F ?_;clear F a;intro a F
  refine sO F ?_;clear F a;intro a F
  refine sO F ?_;clear F a;intro a F
  refine sO F ?_;clear F a;intro a F
  refine sO F ?_;clear F a;intro a F
  refine sO F ?_;clear F a;intro a F
  refine sD F (o_pickF (F.e rfl) (F.e rfl) ?_);clear F a;intro a F
  refine sD F (o_assign (F.e rfl) ?_);clear F a;intro a F
  with_reducible refine l_nil (q_then (c_ret ?_))
  refine p_ret F rfl (.cons (.tmp (F.e rfl)) .nil) ?_
  exact ⟨rfl, M.ext⟩
 rw [h1] at F
 by_cases h2 : c.btn = -1
 ·rw [decide_eq_true h2]
  refine sD F (o_move (F.e rfl) ?_);clear F a;intro a F
  refine sG F (o_fieldAddr (F.e rfl) ?_);clear F a;intro a F
  refine sG F (o_load1 M (F.e rfl) (by repeat constructor) (by first | assumption | rfl) ?_);clear F a;intro a F
  refine sG F (o_eqlT (F.e rfl) (F.e rfl) (by omega) ?_);clear F a;intro a F
  refine sG F (o_move (F.e rfl) ?_);clear F a;intro a F
  refine sO F ?_;clear F a;intro a F
  refine sO F ?_;clear F a;intro a F
  refine sO F ?_;clear F a;intro a F
  refine sG F (o_pickT (F.e rfl) (F.e rfl) ?_);clear F a;intro a F
  refine sD F (o_pickT (F.e rfl) (F.e rfl) ?_);clear F a;intro a F
  refine sD F (o_assign (F.e rfl) ?_);clear F a;intro a F
  with_reducible refine l_nil (q_then (c_ret ?_))
  refine p_ret F rfl (.cons (.tmp (F.e rfl)) .nil) ?_
  exact ⟨rfl, M.ext⟩
 ·rw [decide_eq_false h2]
  refine sD F (o_move (F.e rfl) ?_);clear F a;intro a F
  refine sG F (o_fieldAddr (F.e rfl) ?_);clear F a;intro a F
  refine sG F (o_load1 M (F.e rfl) (by repeat constructor) (by first | assumption | rfl) ?_);clear F a;intro a F
  refine sG F (o_eqlF (F.e rfl) (F.e rfl) (by omega) ?_);clear F a;intro a F
  refine sG F (o_move (F.e rfl) ?_);clear F a;intro a F
  refine sG F (o_fieldAddr (F.e rfl) ?_);clear F a;intro a F
  refine sG F (o_load1 M (F.e rfl) (by repeat constructor) (by first | assumption | rfl) ?_);clear F a;intro a F
  (refine sG F (o_call (F.e rfl) (F.evs rfl) (Cal.mono (mtTime_c c.btn _) ?_));clear F;clear a;rintro _ w ⟨rfl, hE⟩ a F;replace M := M.later hE;clear hE)
  refine sG F (o_pickF (F.e rfl) (F.e rfl) ?_);clear F a;intro a F
  refine sD F (o_pickT (F.e rfl) (F.e rfl) ?_);clear F a;intro a F
  refine sD F (o_assign (F.e rfl) ?_);clear F a;intro a F
  with_reducible refine l_nil (q_then (c_ret ?_))
  refine p_ret F rfl (.cons (.tmp (F.e rfl)) .nil) ?_
  exact ⟨rfl, M.ext⟩
theorem choose1_c (o : OptV) (bt : Int) (W : World) : Cal Tryz.prog 134 [.agg (opC o).toArray, .int .i64 bt].toArray W fun v w' => v = .tuple [.agg (chC ⟨o.nb, o.cost, bt⟩).toArray, .int .i64 0].toArray ∧ Ext [] W w' := by
 have e1 := op_nb (o := o) trivial
 have e2 := op_cost (o := o) trivial
 refine fn_ofM (n := 12) [] Tryz.func134 rfl rfl rfl ?_
 intro a w F M hwW
 refine c_seq ?_
 refine c_region ?_
 (refine sD F (o_box M (F.e rfl) rfl ?_);clear F M;intro b2 w M a F)
 (refine sD F (o_alloc M ?_);clear F M;intro b4 w M a F)
 refine sD F (o_assign (F.e rfl) ?_);clear F a;intro a F
 with_reducible refine l_nil (q_then (c_seq (c_region ?_)))
 refine sD F (o_fieldAddr (F.e rfl) ?_);clear F a;intro a F
 refine sD F (o_load1 M (F.e rfl) (by repeat constructor) (by first | assumption | rfl) ?_);clear F a;intro a F
 refine sD F (o_fieldAddr (F.e rfl) ?_);clear F a;intro a F
 refine sD F (o_load1 M (F.e rfl) (by repeat constructor) (by first | assumption | rfl) ?_);clear F a;intro a F
 refine sD F (o_move (F.e rfl) ?_);clear F a;intro a F
 refine sD F (o_build F rfl rfl ?_);clear F a;intro a F
 (refine stepN rfl F (o_storeA M (F.e rfl) (F.e rfl) (rfl) (rfl)  (by repeat constructor)  (rfl) (by repeat constructor) ?_);clear F M;intro w M a F)
 refine sD F (o_assign (F.e rfl) ?_);clear F a;intro a F
 with_reducible refine l_nil (q_then (c_ret ?_))
 exact p_ret F rfl (.cons (.cell (F.e rfl) (run_loadVar_agg TAgg.h (M.heap (by repeat constructor)) rfl)) (.cons (.tmp (F.e rfl)) .nil)) ⟨rfl, M.ext⟩
theorem bstO_step {l : List OptV} {i : Nat} (h : i < l.length) : bstO (l.take (i + 1)) = if l[i].cost < (bstO (l.take i)).cost then l[i] else bstO (l.take i) := by
 unfold bstO
 rw [List.take_add_one, List.getElem?_eq_getElem h, List.foldl_append]
 rfl
theorem prvO_step {l : List OptV} {nb : Int} {i : Nat} (h : i < l.length) : prvO nb (l.take (i + 1)) = if l[i].cost < inf ∧ l[i].nb = nb then l[i] else prvO nb (l.take i) := by
 unfold prvO
 rw [List.take_add_one, List.getElem?_eq_getElem h, List.foldl_append]
 rfl
theorem bstO_valid {l : List OptV} (h : ∀ o ∈ l, validM o.cost = true) : validM (bstO l).cost = true := by
 have key : ∀ (l : List OptV) (b : OptV), (∀ o ∈ l, validM o.cost = true) → validM b.cost = true → validM (l.foldl (fun b o => if o.cost < b.cost then o else b) b).cost = true := by
  intro l
  induction l with
  | nil => intro b _ h;exact h
  | cons x xs ih =>
   intro b h1 h2
   rw [List.foldl_cons]
   refine ih _ (fun o ho => h1 o (List.mem_cons_of_mem _ ho)) ?_
   split
   ·exact h1 x (by simp)
   ·exact h2
 exact key l none0 h rfl
theorem prvO_valid {nb : Int} {l : List OptV} (h : ∀ o ∈ l, validM o.cost = true) : validM (prvO nb l).cost = true := by
 have key : ∀ (l : List OptV) (b : OptV), (∀ o ∈ l, validM o.cost = true) → validM b.cost = true → validM (l.foldl (fun c o => if o.cost < inf ∧ o.nb = nb then o else c) b).cost = true := by
  intro l
  induction l with
  | nil => intro b _ h;exact h
  | cons x xs ih =>
   intro b h1 h2
   rw [List.foldl_cons]
   refine ih _ (fun o ho => h1 o (List.mem_cons_of_mem _ ho)) ?_
   split
   ·exact h1 x (by simp)
   ·exact h2
 exact key l none0 h rfl
abbrev opO (o : OptV) : Obj := .cells (opC o).toArray 55 (0, 0)
set_option maxHeartbeats 8000000 in
theorem choose_c (l : List OptV) (hx : ∀ x ∈ l, IsOp x) (hval : validOs l = true) (v : Value) (now : Int) (hnow : isTime now = true) (old : ChoV) (hold : validCh old = true) (W : World) (hS : SlAt W 2 v l.length (opsC l)) :
  Cal Tryz.prog 103 [.int .i64 now, .agg (chC old).toArray, v].toArray W fun r w' => r = .tuple [.agg (chC (chooseV now old l)).toArray, .int .i64 0].toArray ∧ Ext [] W w' := by
 have hS0 := hS
 have hlen := (validOs_iff.1 hval).1
 have hopt := (validOs_iff.1 hval).2.1
 obtain ⟨q, cap, rfl, hcap, hsp, hl, hm⟩ := hS
 have o1 := ch_all (o := old) trivial
 have o2 := ch_nb (o := old) trivial
 have o3 := ch_btn (o := old) trivial
 have n1 := op_build (o := none0) trivial
 have n2 := op_len (o := none0) trivial
 have n3 := op_all (o := none0) trivial
 unfold chooseV
 refine fn_ofM (n := 114) [] Tryz.func103 rfl rfl rfl ?_
 intro a w F M hwW
 refine c_seq ?_
 refine c_region ?_
 (refine sD F (o_box M (F.e rfl) rfl ?_);clear F M;intro b4 w M a F)
 (refine sD F (o_alloc M ?_);clear F M;intro b6 w M a F)
 refine sD F (o_assign (F.e rfl) ?_);clear F a;intro a F
 with_reducible refine l_nil (q_then (c_seq (c_seq (c_region ?_))))
 refine sD F (o_loadA M (F.e rfl) (by repeat constructor) (by first | assumption | rfl) ?_);clear F a;intro a F
 (refine sD F (o_call (F.e rfl) (F.evs rfl) (Cal.mono (mtvalidC_c old _) ?_));clear F;clear a;rintro _ w ⟨rfl, hE⟩ a F;replace M := M.later hE;clear hE)
 rw [hold] at F
 refine sD F (o_not (F.e rfl) ?_);clear F a;intro a F
 refine sD F (o_move (F.e rfl) ?_);clear F a;intro a F
 refine sG F (o_move (F.e rfl) ?_);clear F a;intro a F
 (refine sG F (o_call (F.e rfl) (F.evs rfl) (Cal.mono (mtvalidO_c l hx _ _ (hS0.later M.ext)) ?_));clear F;clear a;rintro _ w ⟨rfl, hE⟩ a F;replace M := M.later hE;clear hE)
 rw [hval] at F
 refine sG F (o_not (F.e rfl) ?_);clear F a;intro a F
 refine sD F (o_pickF (F.e rfl) (F.e rfl) ?_);clear F a;intro a F
 with_reducible refine l_nil (q_then ?_)
 refine c_false F rfl rfl ?_
 with_reducible refine c_skip (q_then (c_seq (c_seq (c_region ?_))))
 refine sD F (o_move (F.e rfl) ?_);clear F a;intro a F
 (refine sD F (o_call (F.e rfl) (F.evs rfl) (Cal.mono (mtTime_c now _) ?_));clear F;clear a;rintro _ w ⟨rfl, hE⟩ a F;replace M := M.later hE;clear hE)
 rw [hnow] at F
 refine sD F (o_not (F.e rfl) ?_);clear F a;intro a F
 with_reducible refine l_nil (q_then ?_)
 refine c_false F rfl rfl ?_
 with_reducible refine c_skip (q_then (c_seq (c_region ?_)))
 refine sD F (o_build F rfl rfl ?_);clear F a;intro a F
 (refine sD F (o_alloc M ?_);clear F M;intro b8 w M a F)
 (refine stepN rfl F (o_storeA M (F.e rfl) (F.e rfl) (rfl) (rfl)  (by repeat constructor)  (rfl) (by repeat constructor) ?_);clear F M;intro w M a F)
 replace M : Mem [] W w [(b8, opO none0), (b6, .cells [Value.int .u64 0, .int .i64 0, .int .i64 0].toArray 141 (0, 0)), (b4, .cells (chC old).toArray 141 (0, 0))] := M
 with_reducible refine l_nil (q_then (c_seq ?_))
 replace F := F.only [0, 2, 4, 6, 7, 8] rfl
 refine c_drawP [⟨2, 4, .cells opZ.toArray 55 (0, 0), opO none0⟩, ⟨3, 99999, .cells opZ.toArray 55 (0, 0), .cells opZ.toArray 55 (0, 0)⟩] 5 F (by kernel_rfl) (by kernel_rfl) ?_
 intro w1 hE hsz hok
 have M1 := M.later hE
 refine mK hok rfl rfl (fun a' w' F' E' => o_loadA (M1.laterOld E' (Nat.le_of_eq hsz)) (F'.e rfl) (by repeat constructor) (by first | assumption | rfl) ⟨Ext.refl _ _, rfl⟩) ?_
 refine mK hok rfl rfl (fun a' w' F' E' => o_loadA (M1.laterOld E' (Nat.le_of_eq hsz)) (F'.e rfl) (by repeat constructor) (by first | assumption | rfl) ⟨Ext.refl _ _, rfl⟩) ?_
 refine mAlP hok rfl rfl (by intro q hq hj;rcases List.mem_cons.1 hq with rfl | hq;{ first | rfl | exact absurd hj (Nat.ne_of_beq_eq_false rfl) };rcases List.mem_cons.1 hq with rfl | hq;{ first | rfl | exact absurd hj (Nat.ne_of_beq_eq_false rfl) };cases hq) (fun w => Ext.alloc w _) (fun a' w' F' E' => run_al) ?_
 refine mAlP hok rfl rfl (by intro q hq hj;rcases List.mem_cons.1 hq with rfl | hq;{ first | rfl | exact absurd hj (Nat.ne_of_beq_eq_false rfl) };rcases List.mem_cons.1 hq with rfl | hq;{ first | rfl | exact absurd hj (Nat.ne_of_beq_eq_false rfl) };cases hq) (fun w => Ext.alloc w _) (fun a' w' F' E' => run_al) ?_
 refine mStP ⟨2, 4, .cells opZ.toArray 55 (0, 0), opO none0⟩ hok rfl (.head _) rfl (by intro q hq hj;rcases List.mem_cons.1 hq with rfl | hq;{ first | rfl | exact absurd hj (Nat.ne_of_beq_eq_false rfl) };rcases List.mem_cons.1 hq with rfl | hq;{ first | rfl | exact absurd hj (Nat.ne_of_beq_eq_false rfl) };cases hq) (fun _ _ b' hb' h => ⟨h.os, h.tape, h.output, h.size, h.dr, fun k hk hks => h.block k hks (by simp only [List.mem_singleton];(try dsimp only at hb');omega)⟩) (fun a' w' b' F' E' hp hh => o_storeP hp (F'.e rfl) n2 (op_one none0) hh (put_all (by rw [n2];rfl))) ?_
 (refine mDone rfl rfl ?_;clear F M;intro a w F hE2 hX hTT hDD hPP;have M := M1.laterOld hE2 (Nat.le_of_eq hsz);(try dsimp only at F);obtain ⟨b9, e_b9, g_b9, q_b9⟩ := hPP ⟨2, 4, .cells opZ.toArray 55 (0, 0), opO none0⟩ (.head _);replace F := F.know (d := 9) e_b9;replace q_b9 := q_b9.trans (congrArg some (if_pos (Nat.le_of_ble_eq_true rfl)));replace M := Mem.al (pre := []) M M1 q_b9 g_b9 (by intro p hp;cases hp);obtain ⟨b10, e_b10, g_b10, q_b10⟩ := hPP ⟨3, 99999, .cells opZ.toArray 55 (0, 0), .cells opZ.toArray 55 (0, 0)⟩ (.tail _ (.head _));replace F := F.know (d := 10) e_b10;replace q_b10 := q_b10.trans (congrArg some (if_neg (Nat.not_lt_of_le (Nat.le_of_ble_eq_true rfl))));replace M := Mem.al (pre := [(b9, _)]) M M1 q_b10 g_b10 (by intro p hp;rcases List.mem_cons.1 hp with rfl | hp;{ exact fun h => hDD 2 3 _ _ (Nat.le_of_ble_eq_true rfl) (Nat.le_of_ble_eq_true rfl) (by decide) rfl rfl rfl rfl (e_b9.trans (h.trans e_b10.symm)) };cases hp);clear M1;clear hX;clear hE2;clear hok;clear hE;clear hTT;clear hDD;clear hPP;clear hsz;clear e_b9;clear g_b9;clear q_b9;clear e_b10;clear g_b10;clear q_b10;(try dsimp only [ptrTo] at F);(try simp only [List.cons_append, List.nil_append] at M))
 (refine stepN rfl F (o_storeA M (F.e rfl) (F.e rfl) (n2) (op_one none0)  (by repeat constructor)  (put_all (by rw [n2];rfl)) (by repeat constructor) ?_);clear F M;intro w M a F)
 with_reducible refine l_nil (q_then (c_seq (c_seq (c_region ?_))))
 refine sD F (o_move (F.e rfl) ?_);clear F a;intro a F
 refine sD F (o_lenSl (F.e rfl) ?_);clear F a;intro a F
 refine sD F (o_move (F.e rfl) ?_);clear F a;intro a F
 with_reducible refine l_nil (q_then (c_block ?_))
 replace F := F.only [32, 31, 30, 0, 4, 6, 7, 8, 9, 10] rfl
 refine c_loop (fun m a w => ∃ i : Nat, m = l.length - i ∧ i ≤ l.length ∧ Frm a 114 [] [(32, .int .i64 i), (31, .int .i64 l.length), (30, .slice q l.length cap), (0, .int .i64 now), (4, .pointer (some ⟨b4, 0, none⟩)), (6, .pointer (some ⟨b6, 0, none⟩)), (7, .int .i64 0), (8, .pointer (some ⟨b8, 0, none⟩)), (9, .pointer (some ⟨b9, 0, none⟩)), (10, .pointer (some ⟨b10, 0, none⟩))] ∧ Mem [] W w [(b10, opO (prvO old.nb (l.take i))), (b9, opO (bstO (l.take i))), (b8, opO none0), (b6, .cells [Value.int .u64 0, .int .i64 0, .int .i64 0].toArray 141 (0, 0)), (b4, .cells (chC old).toArray 141 (0, 0))]) l.length ⟨0, rfl, by omega, F, M.perm (by classical exact List.perm_iff_count.2 fun _ => by simp only [List.count_append, List.count_cons, List.count_nil, Nat.add_zero, Nat.zero_add] <;> ac_rfl)⟩ ?_
 clear F M
 rintro m a w ⟨i, hm', hi, F, M⟩
 by_cases hlt : i < l.length
 ·obtain ⟨b, o, cs, t', fz, rfl, hb, hs⟩ := hm (by omega)
  have hxv := hx _ (List.getElem_mem hlt)
  have f1 : seg cs (o + (i : Int).toNat * 2) 2 = some (opC l[i]) := seg_el (ops_len hx) hs hlt (by omega)
  have hb1 := bstO_step hlt
  have hp1 := prvO_step (nb := old.nb) hlt
  obtain ⟨x, hx0⟩ : ∃ x, x = l[i] := ⟨_, rfl⟩
  rw [← hx0] at hxv f1 hb1 hp1
  obtain ⟨bb, hbb⟩ : ∃ bb, bb = bstO (l.take i) := ⟨_, rfl⟩
  obtain ⟨pp, hpp⟩ : ∃ pp, pp = prvO old.nb (l.take i) := ⟨_, rfl⟩
  rw [← hbb] at hb1 M
  rw [← hpp] at hp1 M
  have f2 : (opC x).length = 2 := op_len hxv
  have f3 := op_nb hxv
  have f4 := op_cost hxv
  have f5 := op_all hxv
  have f6 := op_cost (o := bb) trivial
  have hP : ∀ (x : OptV), (opC x).length = 2 := fun x => op_len (o := x) trivial
  unfold inf at hp1
  refine c_seq (c_region ?_)
  refine sD F (o_lssT (F.e rfl) (F.e rfl) (by omega) ?_);clear F a;intro a F
  with_reducible refine l_nil (q_then (c_seq ?_))
  refine c_true F rfl rfl ?_
  with_reducible refine c_skip (q_then (c_seq (c_block (c_seq (c_region ?_)))))
  refine sD F (o_indexSl (F.e rfl) (F.e rfl) (by omega) (by omega) ?_);clear F a;intro a F
  refine sD F (o_loadWA M (F.e rfl) ‹_› (by first | assumption | rfl) ?_);clear F a;intro a F
  (refine sD F (o_alloc M ?_);clear F M;intro b12 w M a F)
  (refine stepN rfl F (o_storeA M (F.e rfl) (F.e rfl) (f2) (op_one x)  (by repeat constructor)  (put_all (by rw [f2];rfl)) (by repeat constructor) ?_);clear F M;intro w M a F)
  by_cases c1 : x.cost < bb.cost
  ·rw [if_pos c1] at hb1
   with_reducible refine l_nil (q_then (c_seq (c_seq (c_region ?_))))
   refine sD F (o_fieldAddr (F.e rfl) ?_);clear F a;intro a F
   refine sD F (o_load1 M (F.e rfl) (by repeat constructor) (by first | assumption | rfl) ?_);clear F a;intro a F
   refine sD F (o_fieldAddr (F.e rfl) ?_);clear F a;intro a F
   refine sD F (o_load1 M (F.e rfl) (by repeat constructor) (by first | assumption | rfl) ?_);clear F a;intro a F
   refine sD F (o_lssT (F.e rfl) (F.e rfl) (by omega) ?_);clear F a;intro a F
   with_reducible refine l_nil (q_then ?_)
   refine c_true F rfl rfl ?_
   refine c_region ?_
   refine sD F (o_loadA M (F.e rfl) (by repeat constructor) (by first | assumption | rfl) ?_);clear F a;intro a F
   (refine stepN rfl F (o_storeA M (F.e rfl) (F.e rfl) (f2) (op_one x)  (by repeat constructor)  (put_all (by simp only [hP])) (by repeat constructor) ?_);clear F M;intro w M a F)
   by_cases c2 : x.cost < 65535
   ·by_cases c3 : x.nb = old.nb
    ·rw [if_pos ⟨c2, c3⟩] at hp1
     with_reducible refine l_nil (q_then (c_seq (c_region ?_)))
     refine sD F (o_fieldAddr (F.e rfl) ?_);clear F a;intro a F
     refine sD F (o_load1 M (F.e rfl) (by repeat constructor) (by first | assumption | rfl) ?_);clear F a;intro a F
     refine sD F (o_lssT (F.e rfl) (F.e rfl) (by omega) ?_);clear F a;intro a F
     refine sD F (o_move (F.e rfl) ?_);clear F a;intro a F
     refine sG F (o_fieldAddr (F.e rfl) ?_);clear F a;intro a F
     refine sG F (o_load1 M (F.e rfl) (by repeat constructor) (by first | assumption | rfl) ?_);clear F a;intro a F
     refine sG F (o_fieldAddr (F.e rfl) ?_);clear F a;intro a F
     refine sG F (o_load1 M (F.e rfl) (by repeat constructor) (by first | assumption | rfl) ?_);clear F a;intro a F
     refine sG F (o_eqlT (F.e rfl) (F.e rfl) (by omega) ?_);clear F a;intro a F
     refine sD F (o_pickT (F.e rfl) (F.e rfl) ?_);clear F a;intro a F
     with_reducible refine l_nil (q_then ?_)
     refine c_true F rfl rfl ?_
     refine c_region ?_
     refine sD F (o_loadA M (F.e rfl) (by repeat constructor) (by first | assumption | rfl) ?_);clear F a;intro a F
     (refine stepN rfl F (o_storeA M (F.e rfl) (F.e rfl) (f2) (op_one x)  (by repeat constructor)  (put_all (by simp only [hP])) (by repeat constructor) ?_);clear F M;intro w M a F)
     with_reducible refine l_nil (q_inB (q_then (c_region ?_)))
     refine sD F (o_add (F.e rfl) (F.e rfl) (w_i64 (by omega) (by omega)) ?_);clear F a;intro a F
     refine sD F (o_move (F.e rfl) ?_);clear F a;intro a F
     with_reducible refine l_nil (q_then ?_)
     exact ⟨_, by omega, i + 1, rfl, by omega, F.only [32, 31, 30, 0, 4, 6, 7, 8, 9, 10] rfl, by rw [hb1, hp1];exact M.sub (List.sublist_cons_self _ _)⟩
    ·rw [if_neg (fun h => c3 h.2)] at hp1
     with_reducible refine l_nil (q_then (c_seq (c_region ?_)))
     refine sD F (o_fieldAddr (F.e rfl) ?_);clear F a;intro a F
     refine sD F (o_load1 M (F.e rfl) (by repeat constructor) (by first | assumption | rfl) ?_);clear F a;intro a F
     refine sD F (o_lssT (F.e rfl) (F.e rfl) (by omega) ?_);clear F a;intro a F
     refine sD F (o_move (F.e rfl) ?_);clear F a;intro a F
     refine sG F (o_fieldAddr (F.e rfl) ?_);clear F a;intro a F
     refine sG F (o_load1 M (F.e rfl) (by repeat constructor) (by first | assumption | rfl) ?_);clear F a;intro a F
     refine sG F (o_fieldAddr (F.e rfl) ?_);clear F a;intro a F
     refine sG F (o_load1 M (F.e rfl) (by repeat constructor) (by first | assumption | rfl) ?_);clear F a;intro a F
     refine sG F (o_eqlF (F.e rfl) (F.e rfl) (by omega) ?_);clear F a;intro a F
     refine sD F (o_pickT (F.e rfl) (F.e rfl) ?_);clear F a;intro a F
     with_reducible refine l_nil (q_then ?_)
     refine c_false F rfl rfl ?_
     with_reducible refine c_skip (q_inB (q_then (c_region ?_)))
     refine sD F (o_add (F.e rfl) (F.e rfl) (w_i64 (by omega) (by omega)) ?_);clear F a;intro a F
     refine sD F (o_move (F.e rfl) ?_);clear F a;intro a F
     with_reducible refine l_nil (q_then ?_)
     exact ⟨_, by omega, i + 1, rfl, by omega, F.only [32, 31, 30, 0, 4, 6, 7, 8, 9, 10] rfl, by rw [hb1, hp1];exact M.sub (List.sublist_cons_self _ _)⟩
   ·rw [if_neg (fun h => c2 h.1)] at hp1
    with_reducible refine l_nil (q_then (c_seq (c_region ?_)))
    refine sD F (o_fieldAddr (F.e rfl) ?_);clear F a;intro a F
    refine sD F (o_load1 M (F.e rfl) (by repeat constructor) (by first | assumption | rfl) ?_);clear F a;intro a F
    refine sD F (o_lssF (F.e rfl) (F.e rfl) (by omega) ?_);clear F a;intro a F
    refine sD F (o_move (F.e rfl) ?_);clear F a;intro a F
    refine sO F ?_;clear F a;intro a F
    refine sO F ?_;clear F a;intro a F
    refine sO F ?_;clear F a;intro a F
    refine sO F ?_;clear F a;intro a F
    refine sO F ?_;clear F a;intro a F
    refine sD F (o_pickF (F.e rfl) (F.e rfl) ?_);clear F a;intro a F
    with_reducible refine l_nil (q_then ?_)
    refine c_false F rfl rfl ?_
    with_reducible refine c_skip (q_inB (q_then (c_region ?_)))
    refine sD F (o_add (F.e rfl) (F.e rfl) (w_i64 (by omega) (by omega)) ?_);clear F a;intro a F
    refine sD F (o_move (F.e rfl) ?_);clear F a;intro a F
    with_reducible refine l_nil (q_then ?_)
    exact ⟨_, by omega, i + 1, rfl, by omega, F.only [32, 31, 30, 0, 4, 6, 7, 8, 9, 10] rfl, by rw [hb1, hp1];exact M.sub (List.sublist_cons_self _ _)⟩
  ·rw [if_neg c1] at hb1
   by_cases c2 : x.cost < 65535
   ·by_cases c3 : x.nb = old.nb
    ·rw [if_pos ⟨c2, c3⟩] at hp1
     with_reducible refine l_nil (q_then (c_seq (c_seq (c_region ?_))))
     refine sD F (o_fieldAddr (F.e rfl) ?_);clear F a;intro a F
     refine sD F (o_load1 M (F.e rfl) (by repeat constructor) (by first | assumption | rfl) ?_);clear F a;intro a F
     refine sD F (o_fieldAddr (F.e rfl) ?_);clear F a;intro a F
     refine sD F (o_load1 M (F.e rfl) (by repeat constructor) (by first | assumption | rfl) ?_);clear F a;intro a F
     refine sD F (o_lssF (F.e rfl) (F.e rfl) (by omega) ?_);clear F a;intro a F
     with_reducible refine l_nil (q_then ?_)
     refine c_false F rfl rfl ?_
     with_reducible refine c_skip (q_then (c_seq (c_region ?_)))
     refine sD F (o_fieldAddr (F.e rfl) ?_);clear F a;intro a F
     refine sD F (o_load1 M (F.e rfl) (by repeat constructor) (by first | assumption | rfl) ?_);clear F a;intro a F
     refine sD F (o_lssT (F.e rfl) (F.e rfl) (by omega) ?_);clear F a;intro a F
     refine sD F (o_move (F.e rfl) ?_);clear F a;intro a F
     refine sG F (o_fieldAddr (F.e rfl) ?_);clear F a;intro a F
     refine sG F (o_load1 M (F.e rfl) (by repeat constructor) (by first | assumption | rfl) ?_);clear F a;intro a F
     refine sG F (o_fieldAddr (F.e rfl) ?_);clear F a;intro a F
     refine sG F (o_load1 M (F.e rfl) (by repeat constructor) (by first | assumption | rfl) ?_);clear F a;intro a F
     refine sG F (o_eqlT (F.e rfl) (F.e rfl) (by omega) ?_);clear F a;intro a F
     refine sD F (o_pickT (F.e rfl) (F.e rfl) ?_);clear F a;intro a F
     with_reducible refine l_nil (q_then ?_)
     refine c_true F rfl rfl ?_
     refine c_region ?_
     refine sD F (o_loadA M (F.e rfl) (by repeat constructor) (by first | assumption | rfl) ?_);clear F a;intro a F
     (refine stepN rfl F (o_storeA M (F.e rfl) (F.e rfl) (f2) (op_one x)  (by repeat constructor)  (put_all (by simp only [hP])) (by repeat constructor) ?_);clear F M;intro w M a F)
     with_reducible refine l_nil (q_inB (q_then (c_region ?_)))
     refine sD F (o_add (F.e rfl) (F.e rfl) (w_i64 (by omega) (by omega)) ?_);clear F a;intro a F
     refine sD F (o_move (F.e rfl) ?_);clear F a;intro a F
     with_reducible refine l_nil (q_then ?_)
     exact ⟨_, by omega, i + 1, rfl, by omega, F.only [32, 31, 30, 0, 4, 6, 7, 8, 9, 10] rfl, by rw [hb1, hp1];exact M.sub (List.sublist_cons_self _ _)⟩
    ·rw [if_neg (fun h => c3 h.2)] at hp1
     with_reducible refine l_nil (q_then (c_seq (c_seq (c_region ?_))))
     refine sD F (o_fieldAddr (F.e rfl) ?_);clear F a;intro a F
     refine sD F (o_load1 M (F.e rfl) (by repeat constructor) (by first | assumption | rfl) ?_);clear F a;intro a F
     refine sD F (o_fieldAddr (F.e rfl) ?_);clear F a;intro a F
     refine sD F (o_load1 M (F.e rfl) (by repeat constructor) (by first | assumption | rfl) ?_);clear F a;intro a F
     refine sD F (o_lssF (F.e rfl) (F.e rfl) (by omega) ?_);clear F a;intro a F
     with_reducible refine l_nil (q_then ?_)
     refine c_false F rfl rfl ?_
     with_reducible refine c_skip (q_then (c_seq (c_region ?_)))
     refine sD F (o_fieldAddr (F.e rfl) ?_);clear F a;intro a F
     refine sD F (o_load1 M (F.e rfl) (by repeat constructor) (by first | assumption | rfl) ?_);clear F a;intro a F
     refine sD F (o_lssT (F.e rfl) (F.e rfl) (by omega) ?_);clear F a;intro a F
     refine sD F (o_move (F.e rfl) ?_);clear F a;intro a F
     refine sG F (o_fieldAddr (F.e rfl) ?_);clear F a;intro a F
     refine sG F (o_load1 M (F.e rfl) (by repeat constructor) (by first | assumption | rfl) ?_);clear F a;intro a F
     refine sG F (o_fieldAddr (F.e rfl) ?_);clear F a;intro a F
     refine sG F (o_load1 M (F.e rfl) (by repeat constructor) (by first | assumption | rfl) ?_);clear F a;intro a F
     refine sG F (o_eqlF (F.e rfl) (F.e rfl) (by omega) ?_);clear F a;intro a F
     refine sD F (o_pickT (F.e rfl) (F.e rfl) ?_);clear F a;intro a F
     with_reducible refine l_nil (q_then ?_)
     refine c_false F rfl rfl ?_
     with_reducible refine c_skip (q_inB (q_then (c_region ?_)))
     refine sD F (o_add (F.e rfl) (F.e rfl) (w_i64 (by omega) (by omega)) ?_);clear F a;intro a F
     refine sD F (o_move (F.e rfl) ?_);clear F a;intro a F
     with_reducible refine l_nil (q_then ?_)
     exact ⟨_, by omega, i + 1, rfl, by omega, F.only [32, 31, 30, 0, 4, 6, 7, 8, 9, 10] rfl, by rw [hb1, hp1];exact M.sub (List.sublist_cons_self _ _)⟩
   ·rw [if_neg (fun h => c2 h.1)] at hp1
    with_reducible refine l_nil (q_then (c_seq (c_seq (c_region ?_))))
    refine sD F (o_fieldAddr (F.e rfl) ?_);clear F a;intro a F
    refine sD F (o_load1 M (F.e rfl) (by repeat constructor) (by first | assumption | rfl) ?_);clear F a;intro a F
    refine sD F (o_fieldAddr (F.e rfl) ?_);clear F a;intro a F
    refine sD F (o_load1 M (F.e rfl) (by repeat constructor) (by first | assumption | rfl) ?_);clear F a;intro a F
    refine sD F (o_lssF (F.e rfl) (F.e rfl) (by omega) ?_);clear F a;intro a F
    with_reducible refine l_nil (q_then ?_)
    refine c_false F rfl rfl ?_
    with_reducible refine c_skip (q_then (c_seq (c_region ?_)))
    refine sD F (o_fieldAddr (F.e rfl) ?_);clear F a;intro a F
    refine sD F (o_load1 M (F.e rfl) (by repeat constructor) (by first | assumption | rfl) ?_);clear F a;intro a F
    refine sD F (o_lssF (F.e rfl) (F.e rfl) (by omega) ?_);clear F a;intro a F
    refine sD F (o_move (F.e rfl) ?_);clear F a;intro a F
    refine sO F ?_;clear F a;intro a F
    refine sO F ?_;clear F a;intro a F
    refine sO F ?_;clear F a;intro a F
    refine sO F ?_;clear F a;intro a F
    refine sO F ?_;clear F a;intro a F
    refine sD F (o_pickF (F.e rfl) (F.e rfl) ?_);clear F a;intro a F
    with_reducible refine l_nil (q_then ?_)
    refine c_false F rfl rfl ?_
    with_reducible refine c_skip (q_inB (q_then (c_region ?_)))
    refine sD F (o_add (F.e rfl) (F.e rfl) (w_i64 (by omega) (by omega)) ?_);clear F a;intro a F
    refine sD F (o_move (F.e rfl) ?_);clear F a;intro a F
    with_reducible refine l_nil (q_then ?_)
    exact ⟨_, by omega, i + 1, rfl, by omega, F.only [32, 31, 30, 0, 4, 6, 7, 8, 9, 10] rfl, by rw [hb1, hp1];exact M.sub (List.sublist_cons_self _ _)⟩
 ·obtain rfl : i = l.length := by omega
  rw [List.take_length] at M
  obtain ⟨bb, hbb⟩ : ∃ bb, bb = bstO l := ⟨_, rfl⟩
  obtain ⟨pp, hpp⟩ : ∃ pp, pp = prvO old.nb l := ⟨_, rfl⟩
  have hbp : validM bb.cost = true ∧ validM pp.cost = true := by
   rw [hbb, hpp]
   exact ⟨bstO_valid fun o ho => by have := hopt o ho;simp only [opt1, Bool.and_eq_true] at this;exact this.2, prvO_valid fun o ho => by have := hopt o ho;simp only [opt1, Bool.and_eq_true] at this;exact this.2⟩
  simp only [validM, Bool.and_eq_true, decide_eq_true_eq] at hbp
  rw [← hbb, ← hpp] at M ⊢
  have e1 := op_all (o := bb) trivial
  have e2 := op_all (o := pp) trivial
  have e3 := op_cost (o := bb) trivial
  have e4 := op_cost (o := pp) trivial
  have e5 := op_fits (o := pp) trivial
  have e6 := op_fits (o := none0) trivial
  have e7 := op_eq (a := pp) (b := none0) trivial trivial
  have hbt := hold
  simp only [validCh, isTime, Bool.and_eq_true, Bool.or_eq_true, decide_eq_true_eq] at hbt
  have hnw := hnow
  simp only [isTime, Bool.and_eq_true, decide_eq_true_eq] at hnw
  refine c_seq (c_region ?_)
  refine sD F (o_lssF (F.e rfl) (F.e rfl) (by omega) ?_);clear F a;intro a F
  with_reducible refine l_nil (q_then (c_seq ?_))
  refine c_false F rfl rfl ?_
  with_reducible refine c_exit (q_thenX (q_thenX (q_inBX (q_then (c_seq (c_region ?_))))))
  refine sD F (o_assign (F.e rfl) ?_);clear F a;intro a F
  with_reducible refine l_nil (q_then (c_seq (c_block (c_seq (c_region ?_)))))
  refine sD F (o_loadA M (F.e rfl) (by repeat constructor) (by first | assumption | rfl) ?_);clear F a;intro a F
  refine sD F (o_loadA M (F.e rfl) (by repeat constructor) (by first | assumption | rfl) ?_);clear F a;intro a F
  refine sD F (o_eqlA (F.e rfl) (F.e rfl) (by first | assumption | rfl) (by first | assumption | rfl) ?_);clear F a;intro a F
  refine sD F (o_assign (F.e rfl) ?_);clear F a;intro a F
  with_reducible refine l_nil (q_then ?_)
  by_cases c1 : pp = none0
  ·rw [e7, decide_eq_true c1] at F
   have hch : choB now old bb pp = ⟨bb.nb, bb.cost, (-1)⟩ := by unfold choB;rw [if_pos c1]
   rw [hch]
   refine c_true F rfl rfl ?_
   refine c_seq (c_region ?_)
   refine sD F (o_move (F.e rfl) ?_);clear F a;intro a F
   refine sD F (o_loadA M (F.e rfl) (by repeat constructor) (by first | assumption | rfl) ?_);clear F a;intro a F
   (refine sD F (o_call (F.e rfl) (F.evs rfl) (Cal.mono (choose1_c bb (-1) _) ?_));clear F;clear a;rintro _ w ⟨rfl, hE⟩ a F;replace M := M.later hE;clear hE)
   refine sD F (o_extract (F.e rfl) rfl ?_);clear F a;intro a F
   refine sD F (o_extract (F.e rfl) rfl ?_);clear F a;intro a F
   (refine stepN rfl F (o_storeA M (F.e rfl) (F.e rfl) (ch_len (o := ⟨bb.nb, bb.cost, (-1)⟩) trivial) (ch_one ⟨bb.nb, bb.cost, (-1)⟩)  (by repeat constructor)  (put_all (by rw [ch_len (o := ⟨bb.nb, bb.cost, (-1)⟩) trivial];rfl)) (by repeat constructor) ?_);clear F M;intro w M a F)
   refine sD F (o_assign (F.e rfl) ?_);clear F a;intro a F
   with_reducible refine l_nil (q_then (c_ret (q_inBR (q_thenR ?_))))
   exact p_ret F rfl (.cons (.cell (F.e rfl) (run_loadVar_agg TAgg.h (M.heap (by repeat constructor)) (ch_all (o := ⟨bb.nb, bb.cost, (-1)⟩) trivial))) (.cons (.tmp (F.e rfl)) .nil)) ⟨rfl, M.ext⟩
  rw [e7, decide_eq_false c1] at F
  by_cases c2 : bb.cost = pp.cost
  ·have hch : choB now old bb pp = ⟨pp.nb, pp.cost, (-1)⟩ := by unfold choB;rw [if_neg c1, if_pos c2]
   rw [hch]
   refine c_false F rfl rfl ?_
   refine c_seq (c_region ?_)
   refine sD F (o_fieldAddr (F.e rfl) ?_);clear F a;intro a F
   refine sD F (o_load1 M (F.e rfl) (by repeat constructor) (by first | assumption | rfl) ?_);clear F a;intro a F
   refine sD F (o_fieldAddr (F.e rfl) ?_);clear F a;intro a F
   refine sD F (o_load1 M (F.e rfl) (by repeat constructor) (by first | assumption | rfl) ?_);clear F a;intro a F
   refine sD F (o_eqlT (F.e rfl) (F.e rfl) (by omega) ?_);clear F a;intro a F
   refine sD F (o_assign (F.e rfl) ?_);clear F a;intro a F
   with_reducible refine l_nil (q_then ?_)
   refine c_true F rfl rfl ?_
   refine c_seq (c_region ?_)
   refine sD F (o_move (F.e rfl) ?_);clear F a;intro a F
   refine sD F (o_loadA M (F.e rfl) (by repeat constructor) (by first | assumption | rfl) ?_);clear F a;intro a F
   (refine sD F (o_call (F.e rfl) (F.evs rfl) (Cal.mono (choose1_c pp (-1) _) ?_));clear F;clear a;rintro _ w ⟨rfl, hE⟩ a F;replace M := M.later hE;clear hE)
   refine sD F (o_extract (F.e rfl) rfl ?_);clear F a;intro a F
   refine sD F (o_extract (F.e rfl) rfl ?_);clear F a;intro a F
   (refine stepN rfl F (o_storeA M (F.e rfl) (F.e rfl) (ch_len (o := ⟨pp.nb, pp.cost, (-1)⟩) trivial) (ch_one ⟨pp.nb, pp.cost, (-1)⟩)  (by repeat constructor)  (put_all (by rw [ch_len (o := ⟨pp.nb, pp.cost, (-1)⟩) trivial];rfl)) (by repeat constructor) ?_);clear F M;intro w M a F)
   refine sD F (o_assign (F.e rfl) ?_);clear F a;intro a F
   with_reducible refine l_nil (q_then (c_ret (q_inBR (q_thenR ?_))))
   exact p_ret F rfl (.cons (.cell (F.e rfl) (run_loadVar_agg TAgg.h (M.heap (by repeat constructor)) (ch_all (o := ⟨pp.nb, pp.cost, (-1)⟩) trivial))) (.cons (.tmp (F.e rfl)) .nil)) ⟨rfl, M.ext⟩
  by_cases c3 : 256 ≤ pp.cost - bb.cost
  ·have hch : choB now old bb pp = ⟨bb.nb, bb.cost, (-1)⟩ := by unfold choB;rw [if_neg c1, if_neg c2, if_pos c3]
   rw [hch]
   refine c_false F rfl rfl ?_
   refine c_seq (c_region ?_)
   refine sD F (o_fieldAddr (F.e rfl) ?_);clear F a;intro a F
   refine sD F (o_load1 M (F.e rfl) (by repeat constructor) (by first | assumption | rfl) ?_);clear F a;intro a F
   refine sD F (o_fieldAddr (F.e rfl) ?_);clear F a;intro a F
   refine sD F (o_load1 M (F.e rfl) (by repeat constructor) (by first | assumption | rfl) ?_);clear F a;intro a F
   refine sD F (o_eqlF (F.e rfl) (F.e rfl) (by omega) ?_);clear F a;intro a F
   refine sD F (o_assign (F.e rfl) ?_);clear F a;intro a F
   with_reducible refine l_nil (q_then ?_)
   refine c_false F rfl rfl ?_
   refine c_seq (c_region ?_)
   refine sD F (o_fieldAddr (F.e rfl) ?_);clear F a;intro a F
   refine sD F (o_load1 M (F.e rfl) (by repeat constructor) (by first | assumption | rfl) ?_);clear F a;intro a F
   refine sD F (o_fieldAddr (F.e rfl) ?_);clear F a;intro a F
   refine sD F (o_load1 M (F.e rfl) (by repeat constructor) (by first | assumption | rfl) ?_);clear F a;intro a F
   refine sD F (o_sub (F.e rfl) (F.e rfl) (w_i64 (by omega) (by omega)) ?_);clear F a;intro a F
   refine sD F (o_geqT (F.e rfl) (F.e rfl) (by omega) ?_);clear F a;intro a F
   refine sD F (o_assign (F.e rfl) ?_);clear F a;intro a F
   with_reducible refine l_nil (q_then ?_)
   refine c_true F rfl rfl ?_
   refine c_seq (c_region ?_)
   refine sD F (o_move (F.e rfl) ?_);clear F a;intro a F
   refine sD F (o_loadA M (F.e rfl) (by repeat constructor) (by first | assumption | rfl) ?_);clear F a;intro a F
   (refine sD F (o_call (F.e rfl) (F.evs rfl) (Cal.mono (choose1_c bb (-1) _) ?_));clear F;clear a;rintro _ w ⟨rfl, hE⟩ a F;replace M := M.later hE;clear hE)
   refine sD F (o_extract (F.e rfl) rfl ?_);clear F a;intro a F
   refine sD F (o_extract (F.e rfl) rfl ?_);clear F a;intro a F
   (refine stepN rfl F (o_storeA M (F.e rfl) (F.e rfl) (ch_len (o := ⟨bb.nb, bb.cost, (-1)⟩) trivial) (ch_one ⟨bb.nb, bb.cost, (-1)⟩)  (by repeat constructor)  (put_all (by rw [ch_len (o := ⟨bb.nb, bb.cost, (-1)⟩) trivial];rfl)) (by repeat constructor) ?_);clear F M;intro w M a F)
   refine sD F (o_assign (F.e rfl) ?_);clear F a;intro a F
   with_reducible refine l_nil (q_then (c_ret (q_inBR (q_thenR ?_))))
   exact p_ret F rfl (.cons (.cell (F.e rfl) (run_loadVar_agg TAgg.h (M.heap (by repeat constructor)) (ch_all (o := ⟨bb.nb, bb.cost, (-1)⟩) trivial))) (.cons (.tmp (F.e rfl)) .nil)) ⟨rfl, M.ext⟩
  by_cases c4 : old.btn = -1
  ·have hch : choB now old bb pp = ⟨pp.nb, pp.cost, now⟩ := by unfold choB;rw [if_neg c1, if_neg c2, if_neg c3, if_pos c4]
   rw [hch]
   refine c_false F rfl rfl ?_
   refine c_seq (c_region ?_)
   refine sD F (o_fieldAddr (F.e rfl) ?_);clear F a;intro a F
   refine sD F (o_load1 M (F.e rfl) (by repeat constructor) (by first | assumption | rfl) ?_);clear F a;intro a F
   refine sD F (o_fieldAddr (F.e rfl) ?_);clear F a;intro a F
   refine sD F (o_load1 M (F.e rfl) (by repeat constructor) (by first | assumption | rfl) ?_);clear F a;intro a F
   refine sD F (o_eqlF (F.e rfl) (F.e rfl) (by omega) ?_);clear F a;intro a F
   refine sD F (o_assign (F.e rfl) ?_);clear F a;intro a F
   with_reducible refine l_nil (q_then ?_)
   refine c_false F rfl rfl ?_
   refine c_seq (c_region ?_)
   refine sD F (o_fieldAddr (F.e rfl) ?_);clear F a;intro a F
   refine sD F (o_load1 M (F.e rfl) (by repeat constructor) (by first | assumption | rfl) ?_);clear F a;intro a F
   refine sD F (o_fieldAddr (F.e rfl) ?_);clear F a;intro a F
   refine sD F (o_load1 M (F.e rfl) (by repeat constructor) (by first | assumption | rfl) ?_);clear F a;intro a F
   refine sD F (o_sub (F.e rfl) (F.e rfl) (w_i64 (by omega) (by omega)) ?_);clear F a;intro a F
   refine sD F (o_geqF (F.e rfl) (F.e rfl) (by omega) ?_);clear F a;intro a F
   refine sD F (o_assign (F.e rfl) ?_);clear F a;intro a F
   with_reducible refine l_nil (q_then ?_)
   refine c_false F rfl rfl ?_
   refine c_seq (c_region ?_)
   refine sD F (o_fieldAddr (F.e rfl) ?_);clear F a;intro a F
   refine sD F (o_load1 M (F.e rfl) (by repeat constructor) (by first | assumption | rfl) ?_);clear F a;intro a F
   refine sD F (o_eqlT (F.e rfl) (F.e rfl) (by omega) ?_);clear F a;intro a F
   refine sD F (o_assign (F.e rfl) ?_);clear F a;intro a F
   with_reducible refine l_nil (q_then ?_)
   refine c_true F rfl rfl ?_
   refine c_seq (c_region ?_)
   refine sD F (o_move (F.e rfl) ?_);clear F a;intro a F
   refine sD F (o_loadA M (F.e rfl) (by repeat constructor) (by first | assumption | rfl) ?_);clear F a;intro a F
   refine sD F (o_move (F.e rfl) ?_);clear F a;intro a F
   (refine sD F (o_call (F.e rfl) (F.evs rfl) (Cal.mono (choose1_c pp now _) ?_));clear F;clear a;rintro _ w ⟨rfl, hE⟩ a F;replace M := M.later hE;clear hE)
   refine sD F (o_extract (F.e rfl) rfl ?_);clear F a;intro a F
   refine sD F (o_extract (F.e rfl) rfl ?_);clear F a;intro a F
   (refine stepN rfl F (o_storeA M (F.e rfl) (F.e rfl) (ch_len (o := ⟨pp.nb, pp.cost, now⟩) trivial) (ch_one ⟨pp.nb, pp.cost, now⟩)  (by repeat constructor)  (put_all (by rw [ch_len (o := ⟨pp.nb, pp.cost, now⟩) trivial];rfl)) (by repeat constructor) ?_);clear F M;intro w M a F)
   refine sD F (o_assign (F.e rfl) ?_);clear F a;intro a F
   with_reducible refine l_nil (q_then (c_ret (q_inBR (q_thenR ?_))))
   exact p_ret F rfl (.cons (.cell (F.e rfl) (run_loadVar_agg TAgg.h (M.heap (by repeat constructor)) (ch_all (o := ⟨pp.nb, pp.cost, now⟩) trivial))) (.cons (.tmp (F.e rfl)) .nil)) ⟨rfl, M.ext⟩
  by_cases c5 : old.btn + 6 ≤ now
  ·have hch : choB now old bb pp = ⟨bb.nb, bb.cost, (-1)⟩ := by unfold choB;rw [if_neg c1, if_neg c2, if_neg c3, if_neg c4, if_pos c5]
   rw [hch]
   refine c_false F rfl rfl ?_
   refine c_seq (c_region ?_)
   refine sD F (o_fieldAddr (F.e rfl) ?_);clear F a;intro a F
   refine sD F (o_load1 M (F.e rfl) (by repeat constructor) (by first | assumption | rfl) ?_);clear F a;intro a F
   refine sD F (o_fieldAddr (F.e rfl) ?_);clear F a;intro a F
   refine sD F (o_load1 M (F.e rfl) (by repeat constructor) (by first | assumption | rfl) ?_);clear F a;intro a F
   refine sD F (o_eqlF (F.e rfl) (F.e rfl) (by omega) ?_);clear F a;intro a F
   refine sD F (o_assign (F.e rfl) ?_);clear F a;intro a F
   with_reducible refine l_nil (q_then ?_)
   refine c_false F rfl rfl ?_
   refine c_seq (c_region ?_)
   refine sD F (o_fieldAddr (F.e rfl) ?_);clear F a;intro a F
   refine sD F (o_load1 M (F.e rfl) (by repeat constructor) (by first | assumption | rfl) ?_);clear F a;intro a F
   refine sD F (o_fieldAddr (F.e rfl) ?_);clear F a;intro a F
   refine sD F (o_load1 M (F.e rfl) (by repeat constructor) (by first | assumption | rfl) ?_);clear F a;intro a F
   refine sD F (o_sub (F.e rfl) (F.e rfl) (w_i64 (by omega) (by omega)) ?_);clear F a;intro a F
   refine sD F (o_geqF (F.e rfl) (F.e rfl) (by omega) ?_);clear F a;intro a F
   refine sD F (o_assign (F.e rfl) ?_);clear F a;intro a F
   with_reducible refine l_nil (q_then ?_)
   refine c_false F rfl rfl ?_
   refine c_seq (c_region ?_)
   refine sD F (o_fieldAddr (F.e rfl) ?_);clear F a;intro a F
   refine sD F (o_load1 M (F.e rfl) (by repeat constructor) (by first | assumption | rfl) ?_);clear F a;intro a F
   refine sD F (o_eqlF (F.e rfl) (F.e rfl) (by omega) ?_);clear F a;intro a F
   refine sD F (o_assign (F.e rfl) ?_);clear F a;intro a F
   with_reducible refine l_nil (q_then ?_)
   refine c_false F rfl rfl ?_
   refine c_seq (c_region ?_)
   refine sD F (o_move (F.e rfl) ?_);clear F a;intro a F
   refine sD F (o_fieldAddr (F.e rfl) ?_);clear F a;intro a F
   refine sD F (o_load1 M (F.e rfl) (by repeat constructor) (by first | assumption | rfl) ?_);clear F a;intro a F
   refine sD F (o_add (F.e rfl) (F.e rfl) (w_i64 (by omega) (by omega)) ?_);clear F a;intro a F
   refine sD F (o_geqT (F.e rfl) (F.e rfl) (by omega) ?_);clear F a;intro a F
   refine sD F (o_assign (F.e rfl) ?_);clear F a;intro a F
   with_reducible refine l_nil (q_then ?_)
   refine c_true F rfl rfl ?_
   refine c_seq (c_region ?_)
   refine sD F (o_move (F.e rfl) ?_);clear F a;intro a F
   refine sD F (o_loadA M (F.e rfl) (by repeat constructor) (by first | assumption | rfl) ?_);clear F a;intro a F
   (refine sD F (o_call (F.e rfl) (F.evs rfl) (Cal.mono (choose1_c bb (-1) _) ?_));clear F;clear a;rintro _ w ⟨rfl, hE⟩ a F;replace M := M.later hE;clear hE)
   refine sD F (o_extract (F.e rfl) rfl ?_);clear F a;intro a F
   refine sD F (o_extract (F.e rfl) rfl ?_);clear F a;intro a F
   (refine stepN rfl F (o_storeA M (F.e rfl) (F.e rfl) (ch_len (o := ⟨bb.nb, bb.cost, (-1)⟩) trivial) (ch_one ⟨bb.nb, bb.cost, (-1)⟩)  (by repeat constructor)  (put_all (by rw [ch_len (o := ⟨bb.nb, bb.cost, (-1)⟩) trivial];rfl)) (by repeat constructor) ?_);clear F M;intro w M a F)
   refine sD F (o_assign (F.e rfl) ?_);clear F a;intro a F
   with_reducible refine l_nil (q_then (c_ret (q_inBR (q_thenR ?_))))
   exact p_ret F rfl (.cons (.cell (F.e rfl) (run_loadVar_agg TAgg.h (M.heap (by repeat constructor)) (ch_all (o := ⟨bb.nb, bb.cost, (-1)⟩) trivial))) (.cons (.tmp (F.e rfl)) .nil)) ⟨rfl, M.ext⟩
  have hch : choB now old bb pp = ⟨pp.nb, pp.cost, old.btn⟩ := by unfold choB;rw [if_neg c1, if_neg c2, if_neg c3, if_neg c4, if_neg c5]
  rw [hch]
  refine c_false F rfl rfl ?_
  refine c_seq (c_region ?_)
  refine sD F (o_fieldAddr (F.e rfl) ?_);clear F a;intro a F
  refine sD F (o_load1 M (F.e rfl) (by repeat constructor) (by first | assumption | rfl) ?_);clear F a;intro a F
  refine sD F (o_fieldAddr (F.e rfl) ?_);clear F a;intro a F
  refine sD F (o_load1 M (F.e rfl) (by repeat constructor) (by first | assumption | rfl) ?_);clear F a;intro a F
  refine sD F (o_eqlF (F.e rfl) (F.e rfl) (by omega) ?_);clear F a;intro a F
  refine sD F (o_assign (F.e rfl) ?_);clear F a;intro a F
  with_reducible refine l_nil (q_then ?_)
  refine c_false F rfl rfl ?_
  refine c_seq (c_region ?_)
  refine sD F (o_fieldAddr (F.e rfl) ?_);clear F a;intro a F
  refine sD F (o_load1 M (F.e rfl) (by repeat constructor) (by first | assumption | rfl) ?_);clear F a;intro a F
  refine sD F (o_fieldAddr (F.e rfl) ?_);clear F a;intro a F
  refine sD F (o_load1 M (F.e rfl) (by repeat constructor) (by first | assumption | rfl) ?_);clear F a;intro a F
  refine sD F (o_sub (F.e rfl) (F.e rfl) (w_i64 (by omega) (by omega)) ?_);clear F a;intro a F
  refine sD F (o_geqF (F.e rfl) (F.e rfl) (by omega) ?_);clear F a;intro a F
  refine sD F (o_assign (F.e rfl) ?_);clear F a;intro a F
  with_reducible refine l_nil (q_then ?_)
  refine c_false F rfl rfl ?_
  refine c_seq (c_region ?_)
  refine sD F (o_fieldAddr (F.e rfl) ?_);clear F a;intro a F
  refine sD F (o_load1 M (F.e rfl) (by repeat constructor) (by first | assumption | rfl) ?_);clear F a;intro a F
  refine sD F (o_eqlF (F.e rfl) (F.e rfl) (by omega) ?_);clear F a;intro a F
  refine sD F (o_assign (F.e rfl) ?_);clear F a;intro a F
  with_reducible refine l_nil (q_then ?_)
  refine c_false F rfl rfl ?_
  refine c_seq (c_region ?_)
  refine sD F (o_move (F.e rfl) ?_);clear F a;intro a F
  refine sD F (o_fieldAddr (F.e rfl) ?_);clear F a;intro a F
  refine sD F (o_load1 M (F.e rfl) (by repeat constructor) (by first | assumption | rfl) ?_);clear F a;intro a F
  refine sD F (o_add (F.e rfl) (F.e rfl) (w_i64 (by omega) (by omega)) ?_);clear F a;intro a F
  refine sD F (o_geqF (F.e rfl) (F.e rfl) (by omega) ?_);clear F a;intro a F
  refine sD F (o_assign (F.e rfl) ?_);clear F a;intro a F
  with_reducible refine l_nil (q_then ?_)
  refine c_false F rfl rfl ?_
  with_reducible refine c_skip (q_inB (q_then (c_seq (c_region ?_))))
  refine sD F (o_move (F.e rfl) ?_);clear F a;intro a F
  refine sD F (o_loadA M (F.e rfl) (by repeat constructor) (by first | assumption | rfl) ?_);clear F a;intro a F
  refine sD F (o_fieldAddr (F.e rfl) ?_);clear F a;intro a F
  refine sD F (o_load1 M (F.e rfl) (by repeat constructor) (by first | assumption | rfl) ?_);clear F a;intro a F
  (refine sD F (o_call (F.e rfl) (F.evs rfl) (Cal.mono (choose1_c pp old.btn _) ?_));clear F;clear a;rintro _ w ⟨rfl, hE⟩ a F;replace M := M.later hE;clear hE)
  refine sD F (o_extract (F.e rfl) rfl ?_);clear F a;intro a F
  refine sD F (o_extract (F.e rfl) rfl ?_);clear F a;intro a F
  (refine stepN rfl F (o_storeA M (F.e rfl) (F.e rfl) (ch_len (o := ⟨pp.nb, pp.cost, old.btn⟩) trivial) (ch_one ⟨pp.nb, pp.cost, old.btn⟩)  (by repeat constructor)  (put_all (by rw [ch_len (o := ⟨pp.nb, pp.cost, old.btn⟩) trivial];rfl)) (by repeat constructor) ?_);clear F M;intro w M a F)
  refine sD F (o_assign (F.e rfl) ?_);clear F a;intro a F
  with_reducible refine l_nil (q_then (c_ret ?_))
  exact p_ret F rfl (.cons (.cell (F.e rfl) (run_loadVar_agg TAgg.h (M.heap (by repeat constructor)) (ch_all (o := ⟨pp.nb, pp.cost, old.btn⟩) trivial))) (.cons (.tmp (F.e rfl)) .nil)) ⟨rfl, M.ext⟩
end Go.Proofs.YtilgoepokaaleaaGreat
/-! Z7 -/
namespace Go.Proofs.YtilgoepokaaleaaGreat
set_option linter.unusedVariables false
set_option linter.unusedSimpArgs false
open Go.RowKit
attribute [local irreducible] OpTo wpListIn Code.wpIn MW Cal
theorem cutV_at (xs : List Value) (k : Nat) (h : k ≤ xs.length) : ∃ A B, xs = A ++ B ∧ A.length = k := ⟨xs.take k, xs.drop k, (List.take_append_drop k xs).symm, by simp [h]⟩
theorem Has.app {l : List (Nat × Obj)} {b : Nat} {o : Obj} (h : Has l b o) : ∀ q : List (Nat × Obj), Has (q ++ l) b o
 | [] => h
 | _ :: q => .there (h.app q)
set_option maxHeartbeats 2000000 in
theorem cloneR_c (l : List RouV) (hlen : l.length ≤ 100000) (v : Value) (W : World) (hS : SlAt W 39 v l.length (rosC l)) :
  Cal Tryz.prog 72 [v].toArray W fun r w' => ∃ ent, OwnS 53 39 r l.length (rosC l) ent ∧ (∀ b o s c, r = .slice (some ⟨b, o, s⟩) l.length c → l.length = 0 → c = 0) ∧ Mem [] W w' ent := by
 obtain ⟨q, cap, hq, _⟩ := id hS
 cases q with
 | none =>
  have hn : l.length = 0 := by
   obtain ⟨q', cap', h2, _, _, _, h3⟩ := hS
   rw [hq] at h2
   cases h2
   rcases Nat.eq_zero_or_pos l.length with h | h
   ·exact h
   ·obtain ⟨_, _, _, _, _, h4, _⟩ := h3 h
    cases h4
  have hxs : l = [] := List.length_eq_zero_iff.1 hn
  subst hxs
  rw [hq]
  refine fn_ofM (n := 8) [] Tryz.func72 rfl rfl rfl ?_
  intro a w F M hwW
  refine c_seq (c_region ?_)
  refine sD F (o_assign (F.e rfl) ?_);clear F a;intro a F
  with_reducible refine l_nil (q_then (c_seq (c_seq (c_region ?_))))
  refine sD F (o_move (F.e rfl) ?_);clear F a;intro a F
  (refine sD F (o_eqlNil (F.e rfl) (F.e rfl) ?_);clear F a;intro a F)
  with_reducible refine l_nil (q_then ?_)
  refine c_true F rfl rfl ?_
  refine c_seq (c_region ?_)
  refine sD F (o_assign (F.e rfl) ?_);clear F a;intro a F
  with_reducible refine l_nil (q_then (c_ret (q_thenR ?_)))
  refine p_ret F rfl (.cons (.tmp (F.e rfl)) .nil) ?_
  exact ⟨[], OwnS.nil _ _, fun b o s c h => (by cases h), M⟩
 | some a0 =>
  rw [hq] at hS ⊢
  refine fn_ofM (n := 8) [] Tryz.func72 rfl rfl rfl ?_
  intro a w F M hwW
  refine c_seq (c_region ?_)
  refine sD F (o_assign (F.e rfl) ?_);clear F a;intro a F
  with_reducible refine l_nil (q_then (c_seq (c_seq (c_region ?_))))
  refine sD F (o_move (F.e rfl) ?_);clear F a;intro a F
  (refine sD F (o_eqlNil (F.e rfl) (F.e rfl) ?_);clear F a;intro a F)
  with_reducible refine l_nil (q_then ?_)
  refine c_false F rfl rfl ?_
  with_reducible refine c_skip (q_then (c_seq (c_region ?_)))
  (refine sD F (o_buildSlice F M rfl rfl rfl rfl ?_);clear F M;intro b5 w M a F)
  refine sD F (o_move (F.e rfl) ?_);clear F a;intro a F
  have hSw := hS.later M.ext
  by_cases hn : l.length = 0
  ·have hxs : l = [] := List.length_eq_zero_iff.1 hn
   subst hxs
   (refine sD F (o_append0 (F.e rfl) (F.e rfl) (by omega) (hSw.src (by simp [encL])) ?_);clear F a;intro a F)
   refine sD F (o_assign (F.e rfl) ?_);clear F a;intro a F
   with_reducible refine l_nil (q_then (c_ret ?_))
   refine p_ret F rfl (.cons (.tmp (F.e rfl)) .nil) ?_
   exact ⟨[(b5, _)], .inr ⟨b5, 0, [], rfl, rfl, by simp [encL], by simp, by simp⟩, fun b o s c h _ => (by cases h;rfl), M⟩
  ·have hO5 : OwnS 53 39 (.slice (some ⟨b5, 0, none⟩) 0 0) 0 [] [(b5, .cells ([] : List Value).toArray 53 (0, 0))] := .inr ⟨b5, 0, [], rfl, rfl, by simp, by simp, by simp⟩
   (refine sD F (o_append hO5 M .here (F.e rfl) (F.e rfl) (hSw.src ros_one) (by omega) (by omega) ?_);clear F M;intro u ent w hO M a F)
   rw [Nat.zero_add, List.nil_append] at hO
   refine sD F (o_assign (F.e rfl) ?_);clear F a;intro a F
   with_reducible refine l_nil (q_then (c_ret ?_))
   refine p_ret F rfl (.cons (.tmp (F.e rfl)) .nil) ?_
   exact ⟨ent, hO, fun b o s c _ h => absurd h hn, M⟩
set_option maxHeartbeats 4000000 in
theorem insertR_c {v : Value} {n : Nat} {xs : List Value} {ent : List (Nat × Obj)} (i : Nat) (hi : i ≤ n) {vb : Nat} (ys : List Value) (hys : ys.length = 39) (h1x : xs.all (·.oneCell') = true) (h1y : ys.all (·.oneCell') = true) (W : World) {S : List Nat} {W0 : World} {l : List (Nat × Obj)} {f : List (Nat × Obj) → List (Nat × Obj)}
  (M : Mem S W0 W l) (hO : OwnS 53 39 v n xs ent) (hl : TailAt ent l f) (hv : Has l vb (.cells ys.toArray 53 (0, 0))) (hne : ∀ p ∈ ent, p.1 ≠ vb) (hn : n ≤ 100000) :
  Cal Tryz.prog 80 [v, .int .i64 i, .slice (some ⟨vb, 0, none⟩) 1 1].toArray W fun x w' => ∃ ent', OwnS 53 39 x (n + 1) (xs.take (i * 39) ++ (ys ++ xs.drop (i * 39))) ent' ∧ Mem S W0 w' (f ent') := by
 have hxl := hO.len
 have hsy : SrcOf Tryz.prog W (.slice (some ⟨vb, 0, none⟩) 1 1) 1 39 ys := SrcOf.cells' (M.heap hv) (sg_all (by omega)) h1y
 by_cases hin : i = n
 ·subst hin
  rw [List.take_of_length_le (by omega), List.drop_of_length_le (by omega), List.append_nil]
  obtain ⟨q, cap, rfl⟩ := hO.slice
  refine fn_of (n := 95) Tryz.func80 rfl rfl rfl ?_
  intro a F
  refine c_seq (c_region ?_)
  refine sD F (o_assign (F.e rfl) ?_);clear F a;intro a F
  with_reducible refine l_nil (q_then (c_seq (c_region ?_)))
  refine sD F (o_move (F.e rfl) ?_);clear F a;intro a F
  refine sD F (o_move (F.e rfl) ?_);clear F a;intro a F
  (refine sD F (o_slLany (F.e rfl) (F.e rfl) (by omega) (by omega) ?_);clear F;clear a;intro _ a F)
  with_reducible refine l_nil (q_then (c_seq (c_region ?_)))
  refine sD F (o_move (F.e rfl) ?_);clear F a;intro a F
  refine sD F (o_lenSl (F.e rfl) ?_);clear F a;intro a F
  refine sD F (o_assign (F.e rfl) ?_);clear F a;intro a F
  with_reducible refine l_nil (q_then (c_seq (c_seq (c_region ?_))))
  refine sD F (o_move (F.e rfl) ?_);clear F a;intro a F
  refine sD F (o_eqlF (F.e rfl) (F.e rfl) (by omega) ?_);clear F a;intro a F
  with_reducible refine l_nil (q_then ?_)
  refine c_false F rfl rfl ?_
  with_reducible refine c_skip (q_then (c_seq (c_region ?_)))
  refine sD F (o_move (F.e rfl) ?_);clear F a;intro a F
  refine sD F (o_lenSl (F.e rfl) ?_);clear F a;intro a F
  refine sD F (o_assign (F.e rfl) ?_);clear F a;intro a F
  with_reducible refine l_nil (q_then (c_seq (c_seq (c_region ?_))))
  refine sD F (o_move (F.e rfl) ?_);clear F a;intro a F
  refine sD F (o_move (F.e rfl) ?_);clear F a;intro a F
  refine sD F (o_eqlT (F.e rfl) (F.e rfl) (by omega) ?_);clear F a;intro a F
  with_reducible refine l_nil (q_then ?_)
  refine c_true F rfl rfl ?_
  refine c_seq (c_region ?_)
  refine sD F (o_move (F.e rfl) ?_);clear F a;intro a F
  refine sD F (o_move (F.e rfl) ?_);clear F a;intro a F
  (refine sD F (o_append hO M hl (F.e rfl) (F.e rfl) hsy (by omega) (by omega) ?_);clear F M;intro v2 ent2 w hO2 M a F)
  refine sD F (o_assign (F.e rfl) ?_);clear F a;intro a F
  with_reducible refine l_nil (q_then (c_ret (q_thenR ?_)))
  refine p_ret F rfl (.cons (.tmp (F.e rfl)) .nil) ?_
  exact ⟨ent2, hO2, M⟩
 ·rcases hO with ⟨_, rfl, _, _⟩ | ⟨b, cap, junk, rfl, rfl, _, hjl, hnc⟩
  ·omega
  obtain ⟨lr, rfl, hf⟩ := hl.spec
  have hvb : vb ≠ b := fun h => hne _ List.mem_cons_self h.symm
  obtain ⟨A, B, rfl, hA⟩ := cutV_at xs (i * 39) (by omega)
  simp only [List.length_append] at hxl
  rw [← hA, List.take_left' rfl, List.drop_left' rfl]
  simp only [List.all_append, Bool.and_eq_true] at h1x
  have hB : B.length = (n - i) * 39 := by omega
  by_cases hroom : n + 1 ≤ cap
  ·obtain ⟨J1, J2, rfl, hJ⟩ := cutV_at junk 39 (by omega)
   simp only [List.length_append] at hjl
   obtain ⟨B1, B2, rfl, hB1⟩ := cutV_at B 39 (by omega)
   simp only [List.length_append] at hB hxl
   have e1 : (A ++ (B1 ++ B2) ++ (J1 ++ J2)) = A ++ ((B1 ++ B2) ++ (J1 ++ J2)) := by simp
   have e2 : (A ++ (B1 ++ B2) ++ (J1 ++ J2)) = (A ++ B1) ++ ((B2 ++ J1) ++ J2) := by simp
   have p1 : put (A ++ (B1 ++ B2) ++ (J1 ++ J2)) (0 + (((i : Int) + 1).toNat * 39)) (B1 ++ B2) = some ((A ++ B1) ++ ((B1 ++ B2) ++ J2)) := by
    rw [e2];exact put_mid (by simp;omega) (by simp;omega)
   have p2 : put ((A ++ B1) ++ ((B1 ++ B2) ++ J2)) (0 + (i : Int).toNat * 39) ys = some (A ++ (ys ++ ((B1 ++ B2) ++ J2))) := by
    rw [List.append_assoc];exact put_mid (by omega) (by omega)
   have g1 : seg (A ++ (B1 ++ B2) ++ (J1 ++ J2)) (0 + (i : Int).toNat * 39) ((n - i) * 39) = some (B1 ++ B2) := by
    rw [e1];exact seg_mid (by omega) (by simp;omega)
   have u1 : Upd (lr ++ [(b, Obj.cells (A ++ (B1 ++ B2) ++ (J1 ++ J2)).toArray 53 (0, 0))]) b (.cells (A ++ (B1 ++ B2) ++ (J1 ++ J2)).toArray 53 (0, 0)) (.cells ((A ++ B1) ++ ((B1 ++ B2) ++ J2)).toArray 53 (0, 0)) (lr ++ [(b, .cells ((A ++ B1) ++ ((B1 ++ B2) ++ J2)).toArray 53 (0, 0))]) := (Upd.here).append lr
   have u2 : Upd (lr ++ [(b, Obj.cells ((A ++ B1) ++ ((B1 ++ B2) ++ J2)).toArray 53 (0, 0))]) b (.cells ((A ++ B1) ++ ((B1 ++ B2) ++ J2)).toArray 53 (0, 0)) (.cells (A ++ (ys ++ ((B1 ++ B2) ++ J2))).toArray 53 (0, 0)) (lr ++ [(b, .cells (A ++ (ys ++ ((B1 ++ B2) ++ J2))).toArray 53 (0, 0))]) := (Upd.here).append lr
   have hv2 : Has (lr ++ [(b, Obj.cells ((A ++ B1) ++ ((B1 ++ B2) ++ J2)).toArray 53 (0, 0))]) vb (.cells ys.toArray 53 (0, 0)) := has_other hv hvb
   refine fn_of (n := 95) Tryz.func80 rfl rfl rfl ?_
   intro a F
   refine c_seq (c_region ?_)
   refine sD F (o_assign (F.e rfl) ?_);clear F a;intro a F
   with_reducible refine l_nil (q_then (c_seq (c_region ?_)))
   refine sD F (o_move (F.e rfl) ?_);clear F a;intro a F
   refine sD F (o_move (F.e rfl) ?_);clear F a;intro a F
   (refine sD F (o_slL (F.e rfl) (F.e rfl) (by omega) (by omega) (by omega) ?_);clear F a;intro a F)
   with_reducible refine l_nil (q_then (c_seq (c_region ?_)))
   refine sD F (o_move (F.e rfl) ?_);clear F a;intro a F
   refine sD F (o_lenSl (F.e rfl) ?_);clear F a;intro a F
   refine sD F (o_assign (F.e rfl) ?_);clear F a;intro a F
   with_reducible refine l_nil (q_then (c_seq (c_seq (c_region ?_))))
   refine sD F (o_move (F.e rfl) ?_);clear F a;intro a F
   refine sD F (o_eqlF (F.e rfl) (F.e rfl) (by omega) ?_);clear F a;intro a F
   with_reducible refine l_nil (q_then ?_)
   refine c_false F rfl rfl ?_
   with_reducible refine c_skip (q_then (c_seq (c_region ?_)))
   refine sD F (o_move (F.e rfl) ?_);clear F a;intro a F
   refine sD F (o_lenSl (F.e rfl) ?_);clear F a;intro a F
   refine sD F (o_assign (F.e rfl) ?_);clear F a;intro a F
   with_reducible refine l_nil (q_then (c_seq (c_seq (c_region ?_))))
   refine sD F (o_move (F.e rfl) ?_);clear F a;intro a F
   refine sD F (o_move (F.e rfl) ?_);clear F a;intro a F
   refine sD F (o_eqlF (F.e rfl) (F.e rfl) (by omega) ?_);clear F a;intro a F
   with_reducible refine l_nil (q_then ?_)
   refine c_false F rfl rfl ?_
   with_reducible refine c_skip (q_then (c_seq (c_seq (c_region ?_))))
   refine sD F (o_move (F.e rfl) ?_);clear F a;intro a F
   refine sD F (o_move (F.e rfl) ?_);clear F a;intro a F
   refine sD F (o_add (F.e rfl) (F.e rfl) (w_i64 (by omega) (by omega)) ?_);clear F a;intro a F
   refine sD F (o_move (F.e rfl) ?_);clear F a;intro a F
   refine sD F (o_capSl (F.e rfl) ?_);clear F a;intro a F
   refine sD F (o_gtrF (F.e rfl) (F.e rfl) (by omega) ?_);clear F a;intro a F
   with_reducible refine l_nil (q_then ?_)
   refine c_false F rfl rfl ?_
   with_reducible refine c_skip (q_then (c_seq (c_region ?_)))
   refine sD F (o_move (F.e rfl) ?_);clear F a;intro a F
   refine sD F (o_move (F.e rfl) ?_);clear F a;intro a F
   refine sD F (o_move (F.e rfl) ?_);clear F a;intro a F
   refine sD F (o_add (F.e rfl) (F.e rfl) (w_i64 (by omega) (by omega)) ?_);clear F a;intro a F
   (refine sD F (o_slH (F.e rfl) (F.e rfl) (by simp) (by omega) (by omega) ?_);clear F a;intro a F)
   refine sD F (o_assign (F.e rfl) ?_);clear F a;intro a F
   with_reducible refine l_nil (q_then (c_seq (c_seq (c_region ?_))))
   refine sD F (o_move (F.e rfl) ?_);clear F a;intro a F
   refine sD F (o_move (F.e rfl) ?_);clear F a;intro a F
   refine sD F (o_move (F.e rfl) ?_);clear F a;intro a F
   refine sD F (o_move (F.e rfl) ?_);clear F a;intro a F
   refine sD F (o_add (F.e rfl) (F.e rfl) (w_i64 (by omega) (by omega)) ?_);clear F a;intro a F
   (refine sD F (o_slL (F.e rfl) (F.e rfl) (by omega) (by omega) (by omega) ?_);clear F a;intro a F)
   (refine sD F (o_entry (F.e rfl) Tryz.func122 (by kernel_rfl) (by kernel_rfl) (by kernel_rfl) (e := Extern.SlicesOverlaps.overlaps #[26, 26] #[4]) (by kernel_rfl) (F.evs rfl) (run_ov (TU.h (P := Tryz.prog) (t := 26)) (TSz.h (P := Tryz.prog) (t := 53)) hvb (M.heap hv) (M.heap u1.has) (by simp only [List.length_append];omega)) ?_);clear F a;intro a F)
   refine sD F (o_not (F.e rfl) ?_);clear F a;intro a F
   with_reducible refine l_nil (q_then ?_)
   refine c_true F rfl rfl ?_
   refine c_seq ?_
   refine c_draw 8 F (by kernel_rfl) ?_
   intro w1 hE hok
   have M1 := M.later hE
   refine mK hok rfl rfl (fun a' w' F' E' => o_move (F'.e rfl) ⟨Ext.refl _ _, rfl⟩) ?_
   refine mK hok rfl rfl (fun a' w' F' E' => o_move (F'.e rfl) ⟨Ext.refl _ _, rfl⟩) ?_
   refine mK hok rfl rfl (fun a' w' F' E' => o_move (F'.e rfl) ⟨Ext.refl _ _, rfl⟩) ?_
   refine mK hok rfl rfl (fun a' w' F' E' => o_add (F'.e rfl) (F'.e rfl) (w_i64 (by omega) (by omega)) ⟨Ext.refl _ _, rfl⟩) ?_
   (refine mK hok rfl rfl (fun a' w' F' E' => o_slL (F'.e rfl) (F'.e rfl) (by omega) (by omega) (by omega) ⟨Ext.refl _ _, rfl⟩) ?_)
   refine mK hok rfl rfl (fun a' w' F' E' => o_move (F'.e rfl) ⟨Ext.refl _ _, rfl⟩) ?_
   refine mK hok rfl rfl (fun a' w' F' E' => o_move (F'.e rfl) ⟨Ext.refl _ _, rfl⟩) ?_
   (refine mK hok rfl rfl (fun a' w' F' E' => o_slL (F'.e rfl) (F'.e rfl) (by omega) (by omega) (by omega) ⟨Ext.refl _ _, rfl⟩) ?_)
   skip
   (refine mDone rfl rfl ?_;clear F M;intro a w F hE2 hX hTT hDD hPP;have M := M1.later hE2;clear M1;clear hX;clear hE2;clear hok;clear hE;clear hTT;clear hDD;clear hPP;(try dsimp only at F))
   (refine sD F (o_copy (n := n - i) M (F.e rfl) (F.e rfl) (by show _ = min _ _;omega) u1.has g1 (by simp only [List.all_append, Bool.and_eq_true] at h1x ⊢;exact h1x.2) u1.has p1 u1 ?_);clear F M;intro w M a F)
   with_reducible refine l_nil (q_then (c_seq (c_region ?_)))
   refine sD F (o_move (F.e rfl) ?_);clear F a;intro a F
   refine sD F (o_move (F.e rfl) ?_);clear F a;intro a F
   (refine sD F (o_slL (F.e rfl) (F.e rfl) (by omega) (by omega) (by omega) ?_);clear F a;intro a F)
   refine sD F (o_move (F.e rfl) ?_);clear F a;intro a F
   (refine sD F (o_copy (n := 1) M (F.e rfl) (F.e rfl) (by show _ = min _ _;omega) hv2 (sg_all (by omega)) h1y u2.has p2 u2 ?_);clear F M;intro w M a F)
   with_reducible refine l_nil (q_then (c_seq (c_region ?_)))
   refine sD F (o_move (F.e rfl) ?_);clear F a;intro a F
   refine sD F (o_assign (F.e rfl) ?_);clear F a;intro a F
   with_reducible refine l_nil (q_then (c_ret (q_thenR ?_)))
   refine p_ret F rfl (.cons (.tmp (F.e rfl)) .nil) ?_
   refine ⟨_, .inr ⟨b, cap, J2, ?_, rfl, ?_, ?_, ?_⟩, ?_⟩
   ·show Value.slice _ _ _ = _
    congr 1
   ·simp;omega
   ·omega
   ·omega
   ·rw [hf]
    have e3 : A ++ (ys ++ (B1 ++ B2)) ++ J2 = A ++ (ys ++ ((B1 ++ B2) ++ J2)) := by simp
    rw [e3];exact M
  ·have hcn : n = cap := by omega
   subst hcn
   have hj0 : junk = [] := List.length_eq_zero_iff.1 (by omega)
   subst hj0
   have hbh : Has (lr ++ [(b, Obj.cells (A ++ B ++ []).toArray 53 (0, 0))]) b (.cells (A ++ B ++ []).toArray 53 (0, 0)) := Has.app .here lr
   have g0 : seg (A ++ B ++ []) 0 (i * 39) = some A := by
    rw [List.append_nil]
    have := seg_mid (A := []) (B := A) (C := B) (off := 0) (n := i * 39) rfl (by omega)
    simpa using this
   have g1 : seg (A ++ B ++ []) (0 + (i : Int).toNat * 39) ((n - i) * 39) = some B := by
    rw [List.append_assoc];exact seg_mid (by omega) (by omega)
   have hsA : SrcOf Tryz.prog W (.slice (some ⟨b, 0, none⟩) i n) i 39 A := SrcOf.cells' (M.heap hbh) g0 h1x.1
   refine fn_of (n := 95) Tryz.func80 rfl rfl rfl ?_
   intro a F
   refine c_seq (c_region ?_)
   refine sD F (o_assign (F.e rfl) ?_);clear F a;intro a F
   with_reducible refine l_nil (q_then (c_seq (c_region ?_)))
   refine sD F (o_move (F.e rfl) ?_);clear F a;intro a F
   refine sD F (o_move (F.e rfl) ?_);clear F a;intro a F
   (refine sD F (o_slL (F.e rfl) (F.e rfl) (by omega) (by omega) (by omega) ?_);clear F a;intro a F)
   with_reducible refine l_nil (q_then (c_seq (c_region ?_)))
   refine sD F (o_move (F.e rfl) ?_);clear F a;intro a F
   refine sD F (o_lenSl (F.e rfl) ?_);clear F a;intro a F
   refine sD F (o_assign (F.e rfl) ?_);clear F a;intro a F
   with_reducible refine l_nil (q_then (c_seq (c_seq (c_region ?_))))
   refine sD F (o_move (F.e rfl) ?_);clear F a;intro a F
   refine sD F (o_eqlF (F.e rfl) (F.e rfl) (by omega) ?_);clear F a;intro a F
   with_reducible refine l_nil (q_then ?_)
   refine c_false F rfl rfl ?_
   with_reducible refine c_skip (q_then (c_seq (c_region ?_)))
   refine sD F (o_move (F.e rfl) ?_);clear F a;intro a F
   refine sD F (o_lenSl (F.e rfl) ?_);clear F a;intro a F
   refine sD F (o_assign (F.e rfl) ?_);clear F a;intro a F
   with_reducible refine l_nil (q_then (c_seq (c_seq (c_region ?_))))
   refine sD F (o_move (F.e rfl) ?_);clear F a;intro a F
   refine sD F (o_move (F.e rfl) ?_);clear F a;intro a F
   refine sD F (o_eqlF (F.e rfl) (F.e rfl) (by omega) ?_);clear F a;intro a F
   with_reducible refine l_nil (q_then ?_)
   refine c_false F rfl rfl ?_
   with_reducible refine c_skip (q_then (c_seq (c_seq (c_region ?_))))
   refine sD F (o_move (F.e rfl) ?_);clear F a;intro a F
   refine sD F (o_move (F.e rfl) ?_);clear F a;intro a F
   refine sD F (o_add (F.e rfl) (F.e rfl) (w_i64 (by omega) (by omega)) ?_);clear F a;intro a F
   refine sD F (o_move (F.e rfl) ?_);clear F a;intro a F
   refine sD F (o_capSl (F.e rfl) ?_);clear F a;intro a F
   refine sD F (o_gtrT (F.e rfl) (F.e rfl) (by omega) ?_);clear F a;intro a F
   with_reducible refine l_nil (q_then ?_)
   refine c_true F rfl rfl ?_
   refine c_seq (c_region ?_)
   refine sD F (o_move (F.e rfl) ?_);clear F a;intro a F
   refine sD F (o_move (F.e rfl) ?_);clear F a;intro a F
   (refine sD F (o_slH (F.e rfl) (F.e rfl) (by simp) (by omega) (by omega) ?_);clear F a;intro a F)
   refine sD F (o_move (F.e rfl) ?_);clear F a;intro a F
   refine sD F (o_move (F.e rfl) ?_);clear F a;intro a F
   refine sD F (o_add (F.e rfl) (F.e rfl) (w_i64 (by omega) (by omega)) ?_);clear F a;intro a F
   refine sD F (o_move (F.e rfl) ?_);clear F a;intro a F
   refine sD F (o_sub (F.e rfl) (F.e rfl) (w_i64 (by omega) (by omega)) ?_);clear F a;intro a F
   rw [show ((n : Int) + ((1 : Nat) : Int) - i) = ((n + 1 - i : Nat) : Int) by omega, Int.toNat_natCast] at F
   (refine sD F (o_appendZ (xs := A) (k := n + 1 - i) M hsA (F.e rfl) (F.e rfl) (by omega) (by omega) (by omega) (by omega) (by omega) ?_);clear F M;intro b2 cap2 zs w hzl hc2 M a F)
   rw [show i + (n + 1 - i) = n + 1 by omega] at F hc2
   obtain ⟨Z1, Z', rfl, hZ1⟩ := cutV_at zs 39 (by omega)
   simp only [List.length_append] at hzl
   obtain ⟨Z2, Z3, rfl, hZ2⟩ := cutV_at Z' ((n - i) * 39) (by omega)
   simp only [List.length_append] at hzl
   have p1 : put (A ++ (Z1 ++ (Z2 ++ Z3))) (0 + (i : Int).toNat * 39) ys = some (A ++ (ys ++ (Z2 ++ Z3))) := put_mid (by omega) (by omega)
   have p2 : put (A ++ (ys ++ (Z2 ++ Z3))) (0 + ((i : Int) + 1).toNat * 39) B = some ((A ++ ys) ++ (B ++ Z3)) := by
    rw [← List.append_assoc];exact put_mid (by simp;omega) (by omega)
   refine sD F (o_assign (F.e rfl) ?_);clear F a;intro a F
   with_reducible refine l_nil (q_then (c_seq (c_region ?_)))
   refine sD F (o_move (F.e rfl) ?_);clear F a;intro a F
   refine sD F (o_move (F.e rfl) ?_);clear F a;intro a F
   (refine sD F (o_slL (F.e rfl) (F.e rfl) (by omega) (by omega) (by omega) ?_);clear F a;intro a F)
   refine sD F (o_move (F.e rfl) ?_);clear F a;intro a F
   (refine sD F (o_copy (n := 1) M (F.e rfl) (F.e rfl) (by show _ = min _ _;omega) (.there hv) (sg_all (by omega)) h1y .here p1 .here ?_);clear F M;intro w M a F)
   with_reducible refine l_nil (q_then (c_seq ?_))
   refine c_draw 8 F (by kernel_rfl) ?_
   intro w1 hE hok
   have M1 := M.later hE
   refine mK hok rfl rfl (fun a' w' F' E' => o_move (F'.e rfl) ⟨Ext.refl _ _, rfl⟩) ?_
   refine mK hok rfl rfl (fun a' w' F' E' => o_move (F'.e rfl) ⟨Ext.refl _ _, rfl⟩) ?_
   refine mK hok rfl rfl (fun a' w' F' E' => o_move (F'.e rfl) ⟨Ext.refl _ _, rfl⟩) ?_
   refine mK hok rfl rfl (fun a' w' F' E' => o_add (F'.e rfl) (F'.e rfl) (w_i64 (by omega) (by omega)) ⟨Ext.refl _ _, rfl⟩) ?_
   (refine mK hok rfl rfl (fun a' w' F' E' => o_slL (F'.e rfl) (F'.e rfl) (by omega) (by omega) (by omega) ⟨Ext.refl _ _, rfl⟩) ?_)
   refine mK hok rfl rfl (fun a' w' F' E' => o_move (F'.e rfl) ⟨Ext.refl _ _, rfl⟩) ?_
   refine mK hok rfl rfl (fun a' w' F' E' => o_move (F'.e rfl) ⟨Ext.refl _ _, rfl⟩) ?_
   (refine mK hok rfl rfl (fun a' w' F' E' => o_slL (F'.e rfl) (F'.e rfl) (by omega) (by omega) (by omega) ⟨Ext.refl _ _, rfl⟩) ?_)
   skip
   (refine mDone rfl rfl ?_;clear F M;intro a w F hE2 hX hTT hDD hPP;have M := M1.later hE2;clear M1;clear hX;clear hE2;clear hok;clear hE;clear hTT;clear hDD;clear hPP;(try dsimp only at F))
   (refine sD F (o_copy (n := n - i) M (F.e rfl) (F.e rfl) (by show _ = min _ _;omega) (.there hbh) g1 h1x.2 .here p2 .here ?_);clear F M;intro w M a F)
   with_reducible refine l_nil (q_then (c_seq (c_region ?_)))
   refine sD F (o_move (F.e rfl) ?_);clear F a;intro a F
   refine sD F (o_assign (F.e rfl) ?_);clear F a;intro a F
   with_reducible refine l_nil (q_then (c_ret (q_thenR ?_)))
   refine p_ret F rfl (.cons (.tmp (F.e rfl)) .nil) ?_
   refine ⟨[(b2, .cells ((A ++ ys) ++ (B ++ Z3)).toArray 53 (0, 0))], .inr ⟨b2, cap2, Z3, rfl, ?_, ?_, ?_, ?_⟩, ?_⟩
   ·rw [show A ++ (ys ++ B) ++ Z3 = (A ++ ys) ++ (B ++ Z3) by simp]
   ·simp;omega
   ·omega
   ·omega
   ·rw [hf]
    exact (M.sub (l' := (b2, .cells ((A ++ ys) ++ (B ++ Z3)).toArray 53 (0, 0)) :: lr) ((List.sublist_append_left lr _).cons_cons _)).perm (List.perm_append_comm (l₁ := [_]) (l₂ := lr))
set_option maxHeartbeats 2000000 in
theorem bsearchR_c (ys : List RouV) (hy : ∀ x ∈ ys, IsRo x) (rt : RouV) (hrt : IsRo rt) (hlen : ys.length ≤ 1000) (hmono : ∀ j k (hj : j < k) (hk : k < ys.length), cmpR ys[j] ys[k] < 0) (v : Value) (W : World) (hS : SlAt W 39 v ys.length (encL roC ys)) :
  Cal Tryz.prog 77 [v, .agg (roC rt).toArray, .func (.func 78) #[] #[]].toArray W fun r w' => ∃ i, r = .tuple #[.int .i64 (i : Nat), .bool (fndR ys rt i)] ∧ PlR ys rt i ∧ Ext [] W w' := by
 obtain ⟨q, cap, rfl, hcap, hsp, hl, hm⟩ := hS
 have hle : ∀ x ∈ ys, (roC x).length = 39 := fun x h => ro_len (hy x h)
 have e2 : seg (roC rt) 0 39 = some (roC rt) := ro_all hrt
 refine fn_ofM (n := 49) [] Tryz.func77 rfl rfl rfl ?_
 intro a w F M hwW
 refine c_seq ?_
 refine c_region ?_
 (refine sD F (o_box M (F.e rfl) rfl ?_);clear F M;intro b4 w M a F)
 refine sD F (o_assign (F.e rfl) ?_);clear F a;intro a F
 refine sD F (o_assign (F.e rfl) ?_);clear F a;intro a F
 with_reducible refine l_nil (q_then (c_seq (c_region ?_)))
 refine sD F (o_move (F.e rfl) ?_);clear F a;intro a F
 refine sD F (o_lenSl (F.e rfl) ?_);clear F a;intro a F
 refine sD F (o_assign (F.e rfl) ?_);clear F a;intro a F
 with_reducible refine l_nil (q_then (c_seq (c_region ?_)))
 refine sD F (o_move (F.e rfl) ?_);clear F a;intro a F
 refine sD F (o_assign (F.e rfl) ?_);clear F a;intro a F
 refine sD F (o_assign (F.e rfl) ?_);clear F a;intro a F
 with_reducible refine l_nil (q_then (c_seq (c_block ?_)))
 refine c_loop (fun m a w => ∃ i j : Nat, m = j - i ∧ i ≤ j ∧ j ≤ ys.length ∧ (∀ k (hk : k < i) (hl : k < ys.length), cmpR ys[k] rt < 0) ∧ (∀ k (hk : j ≤ k) (hl : k < ys.length), 0 ≤ cmpR ys[k] rt) ∧ Frm a 49 [] [(9, .int .i64 i), (10, .int .i64 j), (8, .int .i64 ys.length), (0, .slice q ys.length cap), (2, .func (.func 78) #[] #[]), (4, .pointer (some ⟨b4, 0, none⟩))] ∧ Mem [] W w [(b4, .cells (roC rt).toArray 53 (0, 0))]) ys.length ⟨0, ys.length, rfl, by omega, by omega, by omega, by omega, F.only [9, 10, 8, 0, 2, 4] rfl, M⟩ ?_
 clear F M
 rintro m a w ⟨i, j, hm', hij, hj, hlo, hhi, F, M⟩
 by_cases hlt : i < j
 ·obtain ⟨b, o, cs, t, fz, rfl, hb, hs⟩ := hm (by omega)
  have hmid : IntKind.i64.wrap (Int.fdiv ((i : Int) + j) (2 ^ min (Int.toNat 1) IntKind.u64.bits)) = (((i + j) / 2 : Nat) : Int) := by
   rw [show min (Int.toNat 1) IntKind.u64.bits = 1 from rfl, Int.fdiv_eq_ediv_of_nonneg _ (by omega), show (2 : Int) ^ 1 = 2 from rfl]
   have : ((i : Int) + j) / 2 = (((i + j) / 2 : Nat) : Int) := by omega
   rw [this]
   exact w_i64 (by omega) (by omega)
  with_reducible refine c_seq (c_seq (c_region ?_))
  refine sD F (o_move (F.e rfl) ?_);clear F a;intro a F
  refine sD F (o_move (F.e rfl) ?_);clear F a;intro a F
  refine sD F (o_lssT (F.e rfl) (F.e rfl) (by omega) ?_);clear F a;intro a F
  with_reducible refine l_nil (q_then ?_)
  refine c_true F rfl rfl ?_
  with_reducible refine c_skip (q_then (c_block (c_seq (c_region ?_))))
  refine sD F (o_move (F.e rfl) ?_);clear F a;intro a F
  refine sD F (o_move (F.e rfl) ?_);clear F a;intro a F
  refine sD F (o_add (F.e rfl) (F.e rfl) (w_i64 (by omega) (by omega)) ?_);clear F a;intro a F
  refine sD F (o_conv (F.e rfl) (w_u64 (by omega) (by omega)) ?_);clear F a;intro a F
  refine sD F (o_shr (F.e rfl) (F.e rfl) (by omega) rfl ?_);clear F a;intro a F
  refine sD F (o_conv (F.e rfl) rfl ?_);clear F a;intro a F
  refine sD F (o_assign (F.e rfl) ?_);clear F a;intro a F
  with_reducible refine l_nil (q_then (c_seq ?_))
  rw [hmid] at F
  obtain ⟨h, hh⟩ : ∃ h, h = (i + j) / 2 := ⟨_, rfl⟩
  rw [← hh] at F
  have hhl : h < ys.length := by omega
  obtain ⟨x, hx0⟩ : ∃ x, x = ys[h] := ⟨_, rfl⟩
  have hxo := hy x (by rw [hx0];exact List.getElem_mem hhl)
  have f1 : seg cs (o + (h : Int).toNat * 39) 39 = some (roC x) := by rw [hx0];exact seg_el hle hs hhl (by omega)
  skip
  replace F := F.only [9, 10, 8, 0, 2, 4, 11] rfl
  refine c_draw 7 F (by kernel_rfl) ?_
  intro w1 hE hok
  have M1 := M.later hE
  refine mK hok rfl rfl (fun a' w' F' E' => o_move (F'.e rfl) ⟨Ext.refl _ _, rfl⟩) ?_
  refine mK hok rfl rfl (fun a' w' F' E' => o_move (F'.e rfl) ⟨Ext.refl _ _, rfl⟩) ?_
  refine mK hok rfl rfl (fun a' w' F' E' => o_move (F'.e rfl) ⟨Ext.refl _ _, rfl⟩) ?_
  refine mK hok rfl rfl (fun a' w' F' E' => o_indexSl (F'.e rfl) (F'.e rfl) (by omega) (by omega) ⟨Ext.refl _ _, rfl⟩) ?_
  refine mK hok rfl rfl (fun a' w' F' E' => o_loadWA (M1.later E') (F'.e rfl) ‹_› (by first | assumption | rfl) ⟨Ext.refl _ _, rfl⟩) ?_
  refine mK hok rfl rfl (fun a' w' F' E' => o_loadA (M1.later E') (F'.e rfl) (by repeat constructor) (by first | assumption | rfl) ⟨Ext.refl _ _, rfl⟩) ?_
  (refine mK hok rfl rfl (fun a' w' F' E' => o_call (F'.e rfl) (F'.evs rfl) (Cal.mono (rorder_c x rt hxo hrt _) fun _ _ hh => ⟨hh.2, hh.1⟩)) ?_)
  (refine mDone rfl rfl ?_;clear F M;intro a w F hE2 hX hTT hDD hPP;have M := M1.later hE2;clear M1;clear hX;clear hE2;clear hok;clear hE;clear hTT;clear hDD;clear hPP;(try dsimp only at F))
  by_cases c1 : cmpR x rt < 0
  ·refine sD F (o_lssT (F.e rfl) (F.e rfl) (by omega) ?_);clear F a;intro a F
   with_reducible refine l_nil (q_then ?_)
   refine c_true F rfl rfl ?_
   refine c_region ?_
   refine sD F (o_move (F.e rfl) ?_);clear F a;intro a F
   refine sD F (o_add (F.e rfl) (F.e rfl) (w_i64 (by omega) (by omega)) ?_);clear F a;intro a F
   refine sD F (o_assign (F.e rfl) ?_);clear F a;intro a F
   with_reducible refine l_nil (q_inB (q_then ?_))
   exact ⟨_, by omega, h + 1, j, rfl, by omega, by omega, fun k hk hkl => by
    rcases Nat.lt_or_ge k h with h1 | h1
    ·exact cmpR_trans (hmono k h h1 hhl) (by rw [← hx0];exact c1)
    ·obtain rfl : k = h := by omega
     rw [← hx0];exact c1, hhi, F.only [9, 10, 8, 0, 2, 4] rfl, M⟩
  ·refine sD F (o_lssF (F.e rfl) (F.e rfl) (by omega) ?_);clear F a;intro a F
   with_reducible refine l_nil (q_then ?_)
   refine c_false F rfl rfl ?_
   refine c_region ?_
   refine sD F (o_move (F.e rfl) ?_);clear F a;intro a F
   refine sD F (o_assign (F.e rfl) ?_);clear F a;intro a F
   with_reducible refine l_nil (q_inB (q_then ?_))
   exact ⟨_, by omega, i, h, rfl, by omega, by omega, hlo, fun k hk hkl => by
    rcases Nat.lt_or_ge h k with h1 | h1
    ·have h2 := hmono h k h1 hkl
     rw [← hx0] at h2
     rcases Int.lt_or_le (cmpR ys[k] rt) 0 with h3 | h3
     ·exact absurd (cmpR_trans h2 h3) c1
     ·exact h3
    ·obtain rfl : k = h := by omega
     rw [← hx0];omega, F.only [9, 10, 8, 0, 2, 4] rfl, M⟩
 ·obtain rfl : i = j := by omega
  have hP : PlR ys rt i := ⟨hj, hlo, hhi⟩
  with_reducible refine c_seq (c_seq (c_region ?_))
  refine sD F (o_move (F.e rfl) ?_);clear F a;intro a F
  refine sD F (o_move (F.e rfl) ?_);clear F a;intro a F
  refine sD F (o_lssF (F.e rfl) (F.e rfl) (by omega) ?_);clear F a;intro a F
  with_reducible refine l_nil (q_then ?_)
  refine c_false F rfl rfl ?_
  with_reducible refine c_exit (q_thenX (q_thenX (q_inBX (q_then (c_seq ?_)))))
  replace F := F.only [9, 8, 0, 2, 4] rfl
  by_cases hil : i < ys.length
  ·obtain ⟨b, o, cs, t, fz, rfl, hb, hs⟩ := hm (by omega)
   obtain ⟨x, hx0⟩ : ∃ x, x = ys[i] := ⟨_, rfl⟩
   have hxo := hy x (by rw [hx0];exact List.getElem_mem hil)
   have f1 : seg cs (o + (i : Int).toNat * 39) 39 = some (roC x) := by rw [hx0];exact seg_el hle hs hil (by omega)
   have hf := fndR_at (x := rt) hil
   rw [← hx0] at hf
   by_cases c1 : cmpR x rt = 0
   ·rw [decide_eq_true c1] at hf
    refine c_draw 15 F (by kernel_rfl) ?_
    intro w1 hE hok
    have M1 := M.later hE
    refine mK hok rfl rfl (fun a' w' F' E' => o_move (F'.e rfl) ⟨Ext.refl _ _, rfl⟩) ?_
    refine mK hok rfl rfl (fun a' w' F' E' => o_move (F'.e rfl) ⟨Ext.refl _ _, rfl⟩) ?_
    refine mK hok rfl rfl (fun a' w' F' E' => o_move (F'.e rfl) ⟨Ext.refl _ _, rfl⟩) ?_
    refine mK hok rfl rfl (fun a' w' F' E' => o_lssT (F'.e rfl) (F'.e rfl) (by omega) ⟨Ext.refl _ _, rfl⟩) ?_
    refine mK hok rfl rfl (fun a' w' F' E' => o_move (F'.e rfl) ⟨Ext.refl _ _, rfl⟩) ?_
    refine mKG hok rfl rfl rfl rfl (fun a' w' F' E' => o_move (F'.e rfl) ⟨Ext.refl _ _, rfl⟩) ?_
    refine mKG hok rfl rfl rfl rfl (fun a' w' F' E' => o_move (F'.e rfl) ⟨Ext.refl _ _, rfl⟩) ?_
    refine mKG hok rfl rfl rfl rfl (fun a' w' F' E' => o_move (F'.e rfl) ⟨Ext.refl _ _, rfl⟩) ?_
    refine mKG hok rfl rfl rfl rfl (fun a' w' F' E' => o_indexSl (F'.e rfl) (F'.e rfl) (by omega) (by omega) ⟨Ext.refl _ _, rfl⟩) ?_
    refine mKG hok rfl rfl rfl rfl (fun a' w' F' E' => o_loadWA (M1.later E') (F'.e rfl) ‹_› (by first | assumption | rfl) ⟨Ext.refl _ _, rfl⟩) ?_
    refine mKG hok rfl rfl rfl rfl (fun a' w' F' E' => o_loadA (M1.later E') (F'.e rfl) (by repeat constructor) (by first | assumption | rfl) ⟨Ext.refl _ _, rfl⟩) ?_
    (refine mKG hok rfl rfl rfl rfl (fun a' w' F' E' => o_call (F'.e rfl) (F'.evs rfl) (Cal.mono (rorder_c x rt hxo hrt _) fun _ _ hh => ⟨hh.2, hh.1⟩)) ?_)
    refine mKG hok rfl rfl rfl rfl (fun a' w' F' E' => o_eqlT (F'.e rfl) (F'.e rfl) (by omega) ⟨Ext.refl _ _, rfl⟩) ?_
    refine mK hok rfl rfl (fun a' w' F' E' => o_pickT (F'.e rfl) (F'.e rfl) ⟨Ext.refl _ _, rfl⟩) ?_
    refine mK hok rfl rfl (fun a' w' F' E' => o_assign (F'.e rfl) ⟨Ext.refl _ _, rfl⟩) ?_
    (refine mDone rfl rfl ?_;clear F M;intro a w F hE2 hX hTT hDD hPP;have M := M1.later hE2;clear M1;clear hX;clear hE2;clear hok;clear hE;clear hTT;clear hDD;clear hPP;(try dsimp only at F))
    refine sD F (o_assign (F.e rfl) ?_);clear F a;intro a F
    with_reducible refine l_nil (q_then (c_ret ?_))
    refine p_ret F rfl (.cons (.tmp (F.e rfl)) (.cons (.tmp (F.e rfl)) .nil)) ?_
    exact ⟨i, by rw [hf];rfl, hP, M.ext⟩
   ·rw [decide_eq_false c1] at hf
    refine c_draw 15 F (by kernel_rfl) ?_
    intro w1 hE hok
    have M1 := M.later hE
    refine mK hok rfl rfl (fun a' w' F' E' => o_move (F'.e rfl) ⟨Ext.refl _ _, rfl⟩) ?_
    refine mK hok rfl rfl (fun a' w' F' E' => o_move (F'.e rfl) ⟨Ext.refl _ _, rfl⟩) ?_
    refine mK hok rfl rfl (fun a' w' F' E' => o_move (F'.e rfl) ⟨Ext.refl _ _, rfl⟩) ?_
    refine mK hok rfl rfl (fun a' w' F' E' => o_lssT (F'.e rfl) (F'.e rfl) (by omega) ⟨Ext.refl _ _, rfl⟩) ?_
    refine mK hok rfl rfl (fun a' w' F' E' => o_move (F'.e rfl) ⟨Ext.refl _ _, rfl⟩) ?_
    refine mKG hok rfl rfl rfl rfl (fun a' w' F' E' => o_move (F'.e rfl) ⟨Ext.refl _ _, rfl⟩) ?_
    refine mKG hok rfl rfl rfl rfl (fun a' w' F' E' => o_move (F'.e rfl) ⟨Ext.refl _ _, rfl⟩) ?_
    refine mKG hok rfl rfl rfl rfl (fun a' w' F' E' => o_move (F'.e rfl) ⟨Ext.refl _ _, rfl⟩) ?_
    refine mKG hok rfl rfl rfl rfl (fun a' w' F' E' => o_indexSl (F'.e rfl) (F'.e rfl) (by omega) (by omega) ⟨Ext.refl _ _, rfl⟩) ?_
    refine mKG hok rfl rfl rfl rfl (fun a' w' F' E' => o_loadWA (M1.later E') (F'.e rfl) ‹_› (by first | assumption | rfl) ⟨Ext.refl _ _, rfl⟩) ?_
    refine mKG hok rfl rfl rfl rfl (fun a' w' F' E' => o_loadA (M1.later E') (F'.e rfl) (by repeat constructor) (by first | assumption | rfl) ⟨Ext.refl _ _, rfl⟩) ?_
    (refine mKG hok rfl rfl rfl rfl (fun a' w' F' E' => o_call (F'.e rfl) (F'.evs rfl) (Cal.mono (rorder_c x rt hxo hrt _) fun _ _ hh => ⟨hh.2, hh.1⟩)) ?_)
    refine mKG hok rfl rfl rfl rfl (fun a' w' F' E' => o_eqlF (F'.e rfl) (F'.e rfl) (by omega) ⟨Ext.refl _ _, rfl⟩) ?_
    refine mK hok rfl rfl (fun a' w' F' E' => o_pickT (F'.e rfl) (F'.e rfl) ⟨Ext.refl _ _, rfl⟩) ?_
    refine mK hok rfl rfl (fun a' w' F' E' => o_assign (F'.e rfl) ⟨Ext.refl _ _, rfl⟩) ?_
    (refine mDone rfl rfl ?_;clear F M;intro a w F hE2 hX hTT hDD hPP;have M := M1.later hE2;clear M1;clear hX;clear hE2;clear hok;clear hE;clear hTT;clear hDD;clear hPP;(try dsimp only at F))
    refine sD F (o_assign (F.e rfl) ?_);clear F a;intro a F
    with_reducible refine l_nil (q_then (c_ret ?_))
    refine p_ret F rfl (.cons (.tmp (F.e rfl)) (.cons (.tmp (F.e rfl)) .nil)) ?_
    exact ⟨i, by rw [hf];rfl, hP, M.ext⟩
  ·have hf : fndR ys rt i = false := by simp [fndR, List.getElem?_eq_none (show ys.length ≤ i by omega)]
   refine c_draw 15 F (by kernel_rfl) ?_
   intro w1 hE hok
   have M1 := M.later hE
   refine mK hok rfl rfl (fun a' w' F' E' => o_move (F'.e rfl) ⟨Ext.refl _ _, rfl⟩) ?_
   refine mK hok rfl rfl (fun a' w' F' E' => o_move (F'.e rfl) ⟨Ext.refl _ _, rfl⟩) ?_
   refine mK hok rfl rfl (fun a' w' F' E' => o_move (F'.e rfl) ⟨Ext.refl _ _, rfl⟩) ?_
   refine mK hok rfl rfl (fun a' w' F' E' => o_lssF (F'.e rfl) (F'.e rfl) (by omega) ⟨Ext.refl _ _, rfl⟩) ?_
   refine mK hok rfl rfl (fun a' w' F' E' => o_move (F'.e rfl) ⟨Ext.refl _ _, rfl⟩) ?_
   refine mOff hok rfl rfl rfl rfl rfl ?_
   refine mOff hok rfl rfl rfl rfl rfl ?_
   refine mOff hok rfl rfl rfl rfl rfl ?_
   refine mOff hok rfl rfl rfl rfl rfl ?_
   refine mOff hok rfl rfl rfl rfl rfl ?_
   refine mOff hok rfl rfl rfl rfl rfl ?_
   refine mOff hok rfl rfl rfl rfl rfl ?_
   refine mOff hok rfl rfl rfl rfl rfl ?_
   refine mK hok rfl rfl (fun a' w' F' E' => o_pickF (F'.e rfl) (F'.e rfl) ⟨Ext.refl _ _, rfl⟩) ?_
   refine mK hok rfl rfl (fun a' w' F' E' => o_assign (F'.e rfl) ⟨Ext.refl _ _, rfl⟩) ?_
   (refine mDone rfl rfl ?_;clear F M;intro a w F hE2 hX hTT hDD hPP;have M := M1.later hE2;clear M1;clear hX;clear hE2;clear hok;clear hE;clear hTT;clear hDD;clear hPP;(try dsimp only at F))
   refine sD F (o_assign (F.e rfl) ?_);clear F a;intro a F
   with_reducible refine l_nil (q_then (c_ret ?_))
   refine p_ret F rfl (.cons (.tmp (F.e rfl)) (.cons (.tmp (F.e rfl)) .nil)) ?_
   exact ⟨i, by rw [hf];rfl, hP, M.ext⟩
end Go.Proofs.YtilgoepokaaleaaGreat
/-! Z8 -/
namespace Go.Proofs.YtilgoepokaaleaaGreat
set_option linter.unusedVariables false
set_option linter.unusedSimpArgs false
open Go.RowKit
attribute [local irreducible] OpTo wpListIn Code.wpIn MW Cal
def learnV (l : List RouV) (now : Int) (t : DstV) (nb : Int) (d : DisV) : List RouV × Int :=
 if !validRs l || !validT t || !validM d.met || decide (nb = 0) then ([], 1) else if !isTime now then ([], 2)
 else if 512 < (putR l ⟨t, nb, d, laterV now 10⟩ (decide (d.met = inf))).length then ([], 10) else (putR l ⟨t, nb, d, laterV now 10⟩ (decide (d.met = inf)), 0)
end Go.Proofs.YtilgoepokaaleaaGreat
/-! Z0 -/
namespace Go.Proofs.YtilgoepokaaleaaGreat
set_option linter.unusedVariables false
set_option linter.unusedSimpArgs false
open Go.Shelf
def sortDs_ren : Go.Shelf.Ren := ⟨fun | 6 => 99 | 15 => 130 | 14 => 129 | 28 => 154 | 29 => 155 | 20 => 146 | 21 => 147 | 22 => 148 | 23 => 149 | 24 => 150 | 25 => 151 | 26 => 152 | 27 => 153 | 46 => 158 | 47 => 159 | 48 => 160 | 49 => 161 | 50 => 162 | 57 => 163 | n => n, fun | 22 => 101 | 24 => 45 | 25 => 135 | 3 => 3 | 39 => 115 | 0 => 0 | 53 => 175 | 55 => 42 | 4 => 4 | 46 => 169 | 45 => 168 | 50 => 104 | 5 => 5 | 9 => 9 | 66 => 177 | 70 => 181 | 76 => 183 | 77 => 184 | n => n, fun | n => n⟩
theorem sortDs : Go.Proofs.SlLaysF0.n6 Tryz.prog sortDs_ren := {
 mixed := by kernel_rfl
 f6 := ⟨Tryz.f99.name, by decide, Tryz.func99.trans (congrArg some (by kernel_rfl))⟩
 f14 := ⟨Tryz.f129.name, by decide, Tryz.func129.trans (congrArg some (by kernel_rfl))⟩
 f15 := Tryz.func130.trans (congrArg some (by kernel_rfl))
 f20 := ⟨Tryz.f146.name, by decide, Tryz.func146.trans (congrArg some (by kernel_rfl))⟩
 f21 := ⟨Tryz.f147.name, by decide, Tryz.func147.trans (congrArg some (by kernel_rfl))⟩
 f22 := ⟨Tryz.f148.name, by decide, Tryz.func148.trans (congrArg some (by kernel_rfl))⟩
 f23 := ⟨Tryz.f149.name, by decide, Tryz.func149.trans (congrArg some (by kernel_rfl))⟩
 f24 := ⟨Tryz.f150.name, by decide, Tryz.func150.trans (congrArg some (by kernel_rfl))⟩
 f25 := ⟨Tryz.f151.name, by decide, Tryz.func151.trans (congrArg some (by kernel_rfl))⟩
 f26 := ⟨Tryz.f152.name, by decide, Tryz.func152.trans (congrArg some (by kernel_rfl))⟩
 f27 := ⟨Tryz.f153.name, by decide, Tryz.func153.trans (congrArg some (by kernel_rfl))⟩
 f28 := Tryz.func154.trans (congrArg some (by kernel_rfl))
 f29 := Tryz.func155.trans (congrArg some (by kernel_rfl))
 f46 := ⟨Tryz.f158.name, by decide, Tryz.func158.trans (congrArg some (by kernel_rfl))⟩
 f47 := Tryz.func159.trans (congrArg some (by kernel_rfl))
 f48 := Tryz.func160.trans (congrArg some (by kernel_rfl))
 f49 := ⟨Tryz.f161.name, by decide, Tryz.func161.trans (congrArg some (by kernel_rfl))⟩
 f50 := ⟨Tryz.f162.name, by decide, Tryz.func162.trans (congrArg some (by kernel_rfl))⟩
 f57 := ⟨Tryz.f163.name, by decide, Tryz.func163.trans (congrArg some (by kernel_rfl))⟩
 t0 := Tryz.underlying0
 a0 := Tryz.isAgg0
 z0 := Tryz.sizeOf0
 v0 := Tryz.zeroValue0
 t3 := Tryz.underlying3
 a3 := Tryz.isAgg3
 z3 := Tryz.sizeOf3
 v3 := Tryz.zeroValue3
 t4 := Tryz.underlying4
 a4 := Tryz.isAgg4
 z4 := Tryz.sizeOf4
 v4 := Tryz.zeroValue4
 t5 := Tryz.underlying5
 a5 := Tryz.isAgg5
 z5 := Tryz.sizeOf5
 v5 := Tryz.zeroValue5
 t9 := Tryz.underlying9
 a9 := Tryz.isAgg9
 z9 := Tryz.sizeOf9
 v9 := Tryz.zeroValue9
 t22 := Tryz.underlying101
 a22 := Tryz.isAgg101
 z22 := Tryz.sizeOf101
 v22 := Tryz.zeroValue101
 t25 := Tryz.underlying135
 a25 := Tryz.isAgg135
 z25 := Tryz.sizeOf135
 v25 := Tryz.zeroValue135
 t39 := Tryz.underlying115
 a39 := Tryz.isAgg115
 z39 := Tryz.sizeOf115
 v39 := Tryz.zeroValue115
 t45 := Tryz.underlying168
 a45 := Tryz.isAgg168
 z45 := Tryz.sizeOf168
 v45 := Tryz.zeroValue168
 t46 := Tryz.underlying169
 a46 := Tryz.isAgg169
 z46 := Tryz.sizeOf169
 v46 := Tryz.zeroValue169
 t50 := Tryz.underlying104
 a50 := Tryz.isAgg104
 z50 := Tryz.sizeOf104
 v50 := Tryz.zeroValue104
 t53 := Tryz.underlying175
 a53 := Tryz.isAgg175
 z53 := Tryz.sizeOf175
 v53 := Tryz.zeroValue175
 t55 := Tryz.underlying42
 a55 := Tryz.isAgg42
 z55 := Tryz.sizeOf42
 v55 := Tryz.zeroValue42
 t66 := Tryz.underlying177
 a66 := Tryz.isAgg177
 z66 := Tryz.sizeOf177
 v66 := Tryz.zeroValue177
 t70 := Tryz.underlying181
 a70 := Tryz.isAgg181
 z70 := Tryz.sizeOf181
 v70 := Tryz.zeroValue181
 t76 := Tryz.underlying183
 a76 := Tryz.isAgg183
 z76 := Tryz.sizeOf183
 v76 := Tryz.zeroValue183
 t77 := Tryz.underlying184
 a77 := Tryz.isAgg184
 z77 := Tryz.sizeOf184
 v77 := Tryz.zeroValue184 }
end Go.Proofs.YtilgoepokaaleaaGreat
/-! Y7 -/
namespace Go.Proofs.YtilgoepokaaleaaGreat
set_option linter.unusedVariables false
set_option linter.unusedSimpArgs false
open Go.RowKit Go.Sort
attribute [local irreducible] OpTo wpListIn Code.wpIn MW Cal
abbrev ADst := {d : DstV // IsDv d}
def z16 : List Int := [0, 0, 0, 0, 0, 0, 0, 0, 0, 0, 0, 0, 0, 0, 0, 0]
theorem z16_is : IsIP z16 := ⟨rfl, by intro x hx;simp [z16] at hx;omega⟩
instance : Inhabited ADst := ⟨⟨⟨z16, 0, z16, 0, 0⟩, z16_is, z16_is⟩⟩
def cfD (x y : ADst) : Int := cmpD x.1 y.1
theorem ltD (x y : ADst) : ltOf cfD x y = true ↔ cmpD x.1 y.1 < 0 := decide_eq_true_iff
theorem ltD_f (x y : ADst) : ltOf cfD x y = false ↔ ¬ cmpD x.1 y.1 < 0 := decide_eq_false_iff_not
theorem swoD : SWO (ltOf cfD) where
 irrefl x := by rw [ltD_f, cmpD_self];omega
 trans x y z h1 h2 := by rw [ltD] at *;exact cmpD_trans h1 h2
 ntrans x y z h1 h2 := by
  rw [ltD_f] at *
  intro h
  have h3 := cmpD_anti x.1 y.1
  rcases Int.lt_trichotomy (cmpD y.1 x.1) 0 with h4 | h4 | h4
  ·exact h2 (cmpD_trans h4 h)
  ·rw [cmpD_zero y.2 x.2 h4] at h2
   exact h2 h
  ·omega
theorem totD (x y : ADst) (h1 : ltOf cfD x y = false) (h2 : ltOf cfD y x = false) : x = y := by
 rw [ltD_f] at *
 have h3 := cmpD_anti x.1 y.1
 exact Subtype.ext (cmpD_zero x.2 y.2 (by omega))
end Go.Proofs.YtilgoepokaaleaaGreat
/-! Z9 -/
namespace Go.Proofs.YtilgoepokaaleaaGreat
set_option linter.unusedVariables false
set_option linter.unusedSimpArgs false
open Go.RowKit
attribute [local irreducible] OpTo wpListIn Code.wpIn MW Cal
/-- neighbours that are alike: one of them -/
def dedS {α : Type} [DecidableEq α] (acc : List α) (x : α) : List α := if acc.getLast? = some x then acc else acc ++ [x]
def dedA {α : Type} [DecidableEq α] (ls : List α) : List α := ls.foldl dedS []
section
variable {α : Type} [DecidableEq α]
theorem dedS_last (acc : List α) (x : α) : (dedS acc x).getLast? = some x := by
 unfold dedS
 split
 ·assumption
 ·simp
theorem dedA_take {ls : List α} {j : Nat} (hj : j < ls.length) : dedA (ls.take (j + 1)) = dedS (dedA (ls.take j)) ls[j] := by
 unfold dedA
 rw [List.take_add_one, List.getElem?_eq_getElem hj, List.foldl_append]
 rfl
theorem dedA_last {ls : List α} {j : Nat} (h0 : 0 < j) (hj : j ≤ ls.length) : (dedA (ls.take j)).getLast? = some ls[j - 1] := by
 obtain ⟨i, rfl⟩ : ∃ i, j = i + 1 := ⟨j - 1, by omega⟩
 rw [dedA_take (by omega), dedS_last]
 simp
theorem dedA_step {ls : List α} {j : Nat} (h0 : 0 < j) (hj : j < ls.length) : dedA (ls.take (j + 1)) = if ls[j] = ls[j - 1] then dedA (ls.take j) else dedA (ls.take j) ++ [ls[j]] := by
 rw [dedA_take hj]
 unfold dedS
 rw [dedA_last h0 (by omega)]
 by_cases h : ls[j] = ls[j - 1]
 ·rw [if_pos (by rw [h]), if_pos h]
 ·rw [if_neg (by intro e;exact h (by simpa using e.symm)), if_neg h]
theorem dedA_one (ls : List α) : dedA (ls.take 1) = ls.take 1 := by
 cases ls with
 | nil => rfl
 | cons x xs => simp [dedA, dedS]
end
section
variable {P : Program} {ρ : Operand → Value} {w W0 : World} {S : List Nat} {l : List (Nat × Obj)} {l' : List Value → List (Nat × Obj)} {R : Value → World → Prop} {d : Option Tmp} {ty : TypeId} {pos : String} {af : Array Edge} {g : Option (Nat × Bool)}
/-- clear of a slice that is not empty, over a block of ours -/
theorem o_clear {t e : TypeId} {x : Operand} {b off n cap sz : Nat} {zs cs : List Value} {t' : TypeId} [ht : TU P t (.slice e)] [hz : TZero P e zs] (M : Mem S W0 w l) (hx : ρ x = .slice (some ⟨b, off, none⟩) n cap) (hn : 0 < n) (hzl : zs.length = sz) (h1 : zs.all (·.oneCell') = true) (hb : Has l b (.cells cs.toArray t' (0, 0))) (hle : off + n * sz ≤ cs.length)
  (hu : ∀ vs, Upd l b (.cells cs.toArray t' (0, 0)) (.cells (splice cs off vs).toArray t' (0, 0)) (l' vs)) (h : ∀ vs w', vs.length = n * sz → Mem S W0 w' (l' vs) → R (.tuple #[]) w') : OpTo P ⟨d, .call ⟨.builtin .clear, #[x], #[t]⟩, ty, pos, af, g⟩ ρ w R := by
 obtain ⟨m, rfl⟩ : ∃ m, n = m + 1 := ⟨n - 1, by omega⟩
 obtain ⟨z, hzc, hzr⟩ := run_zeroC (w := w) hz.h
 have hzs : z.cells.size = sz := by rw [hzc];simpa using hzl
 obtain ⟨vs, hvs⟩ : ∃ vs, vs = (Builtin.zeroCells z.cells (m + 1)).toList := ⟨_, rfl⟩
 have hvl : vs.length = (m + 1) * sz := by rw [hvs];simp [Builtin.zeroCells, hzs]
 have hv1 : ∀ v ∈ vs, v.oneCell' = true := by
  intro v hv
  rw [hvs] at hv
  simp only [Builtin.zeroCells, Array.toList_map, List.mem_map] at hv
  obtain ⟨i, hi, rfl⟩ := hv
  have hi2 : i < (m + 1) * z.cells.size := by simpa using hi
  have hpos : 0 < z.cells.size := Nat.pos_of_ne_zero fun h => by rw [h] at hi2;simp at hi2
  have hlt : i % z.cells.size < z.cells.size := Nat.mod_lt _ hpos
  rw [getElem!_pos z.cells (i % z.cells.size) hlt]
  refine List.all_eq_true.1 h1 _ ?_
  have hm : z.cells[i % z.cells.size] ∈ z.cells.toList := by simp
  have hzz : z.cells.toList = zs := by rw [hzc]
  rwa [hzz] at hm
 obtain ⟨w', hr, hE, hb'⟩ := run_storeRow (P := P) (b := b) (off := off) (t' := t') vs 0 cs w (M.heap hb) (by rw [hvl];omega) hv1
 have hrun : (Builtin.clear_ #[t] ty #[.slice (some ⟨b, off, none⟩) (m + 1) cap]).run P w = .ok (.tuple #[]) w' := by
  simp [Builtin.clear_, run_underlying ht.h, hzr, ← hvs, hr]
 exact OpTo.val (v := .tuple #[]) (w' := w') (by simp [execOp, resolve, invoke, builtin, hx, hrun]) (h vs w' hvl (M.turned (hu vs) hE hb'))
end
theorem take_set_succ {α : Type} {cur : List α} {i : Nat} {x : α} (h : i < cur.length) : (cur.set i x).take (i + 1) = cur.take i ++ [x] := by
 rw [List.take_add_one, List.getElem?_set_self h, List.take_set_of_le (Nat.le_refl _)]
 rfl
set_option maxHeartbeats 8000000 in
theorem compactD_c (ls : List DstV) (hI : ∀ a ∈ ls, IsDv a) (hlen : ls.length ≤ 100000) {S : List Nat} {W0 w0 : World} {l : List (Nat × Obj)} {f : List (Nat × Obj) → List (Nat × Obj)} {v : Value} {ent : List (Nat × Obj)} (M0 : Mem S W0 w0 l) (hOw : OwnS 45 35 v ls.length (dvsC ls) ent) (hl : TailAt ent l f) :
  Cal Tryz.prog 100 [v].toArray w0 fun r w' => ∃ ls' ent', ls' = dedA ls ∧ OwnS 45 35 r ls'.length (dvsC ls') ent' ∧ Mem S W0 w' (f ent') := by
 have hsz : ∀ x ∈ ls, (dvC x).length = 35 := fun x hx => dv_len (hI x hx)
 obtain ⟨lr, rfl, hf⟩ := hl.spec
 by_cases hn2 : ls.length < 2
 ·have hd : dedA ls = ls := by
   rcases ls with _ | ⟨x, _ | ⟨y, r⟩⟩
   ·rfl
   ·simp [dedA, dedS]
   ·simp at hn2;omega
  obtain ⟨q, cap, rfl⟩ := hOw.slice
  refine fn_ofM (n := 61) [] Tryz.func100 rfl rfl rfl ?_
  intro a w F M hwW
  have hE0 : Mem S W0 w (lr ++ ent) := by rw [hwW];exact M0
  clear M
  have M := hE0
  refine c_seq (c_region ?_)
  refine sD F (o_assign (F.e rfl) ?_);clear F a;intro a F
  with_reducible refine l_nil (q_then (c_seq (c_seq (c_region ?_))))
  refine sD F (o_move (F.e rfl) ?_);clear F a;intro a F
  refine sD F (o_lenSl (F.e rfl) ?_);clear F a;intro a F
  refine sD F (o_lssT (F.e rfl) (F.e rfl) (by omega) ?_);clear F a;intro a F
  with_reducible refine l_nil (q_then ?_)
  refine c_true F rfl rfl ?_
  refine c_seq (c_region ?_)
  refine sD F (o_move (F.e rfl) ?_);clear F a;intro a F
  refine sD F (o_assign (F.e rfl) ?_);clear F a;intro a F
  with_reducible refine l_nil (q_then (c_ret (q_thenR ?_)))
  refine p_ret F rfl (.cons (.tmp (F.e rfl)) .nil) ?_
  exact ⟨ls, ent, hd.symm, hOw, by rw [hf];exact M⟩
 rcases hOw with ⟨_, h0, _, _⟩ | ⟨b, cap, junk, rfl, rfl, hxl, hjl, hnc⟩
 ·omega
 replace M0 := M0.perm (l' := (b, .cells (dvsC ls ++ junk).toArray 45 (0, 0)) :: lr) List.perm_append_comm
 refine fn_ofM (n := 61) [] Tryz.func100 rfl rfl rfl ?_
 intro a w F M hwW
 replace M : Mem S W0 w ((b, .cells (dvsC ls ++ junk).toArray 45 (0, 0)) :: lr) := by rw [hwW];exact M0
 clear M0 hwW
 refine c_seq (c_region ?_)
 refine sD F (o_assign (F.e rfl) ?_);clear F a;intro a F
 with_reducible refine l_nil (q_then (c_seq (c_seq (c_region ?_))))
 refine sD F (o_move (F.e rfl) ?_);clear F a;intro a F
 refine sD F (o_lenSl (F.e rfl) ?_);clear F a;intro a F
 refine sD F (o_lssF (F.e rfl) (F.e rfl) (by omega) ?_);clear F a;intro a F
 with_reducible refine l_nil (q_then ?_)
 refine c_false F rfl rfl ?_
 with_reducible refine c_skip (q_then (c_seq (c_seq (c_region ?_))))
 refine sD F (o_assign (F.e rfl) ?_);clear F a;intro a F
 with_reducible refine l_nil (q_then (c_block ?_))
 refine c_loop (fun m a w => ∃ i : Nat, m = ls.length - i ∧ 1 ≤ i ∧ i ≤ ls.length ∧ dedA (ls.take i) = ls.take i ∧ Frm a 61 [] [(3, .int .i64 (i : Int)), (0, .slice (some ⟨b, 0, none⟩) ls.length cap)] ∧ Mem S W0 w ((b, .cells (dvsC ls ++ junk).toArray 45 (0, 0)) :: lr)) (ls.length - 1) ⟨1, rfl, by omega, by omega, dedA_one ls, F.only [3, 0] rfl, M⟩ ?_
 clear F M
 rintro m a w ⟨i, hm, hi1, hi, hd, F, M⟩
 by_cases hlt : i < ls.length
 ·have f1 : seg (dvsC ls ++ junk) (0 + (i : Int).toNat * 35) 35 = some (dvC ls[i]) := own_el hsz junk hlt (by omega)
  have f2 : seg (dvsC ls ++ junk) (0 + ((i : Int) - 1).toNat * 35) 35 = some (dvC ls[i - 1]) := own_el hsz junk (show i - 1 < ls.length by omega) (by omega)
  have g1 := dv_fits (hI _ (List.getElem_mem hlt))
  have g2 := dv_fits (hI _ (List.getElem_mem (show i - 1 < ls.length by omega)))
  have g3 : eqVs (dvC ls[i]) (dvC ls[i - 1]) = decide (ls[i] = ls[i - 1]) := dv_eq (hI _ (List.getElem_mem hlt)) (hI _ (List.getElem_mem (show i - 1 < ls.length by omega)))
  have hst := dedA_step (ls := ls) (j := i) (by omega) hlt
  by_cases he : ls[i] = ls[i - 1]
  ·rw [if_pos he] at hst
   replace g3 : eqVs (dvC ls[i]) (dvC ls[i - 1]) = true := by rw [g3, decide_eq_true he]
   with_reducible refine c_seq (c_seq (c_region ?_))
   refine sD F (o_move (F.e rfl) ?_);clear F a;intro a F
   refine sD F (o_move (F.e rfl) ?_);clear F a;intro a F
   refine sD F (o_lenSl (F.e rfl) ?_);clear F a;intro a F
   refine sD F (o_lssT (F.e rfl) (F.e rfl) (by omega) ?_);clear F a;intro a F
   with_reducible refine l_nil (q_then ?_)
   refine c_true F rfl rfl ?_
   with_reducible refine c_skip (q_then (c_seq (c_block (c_seq ?_))))
   replace F := F.only [3, 0] rfl
   refine c_draw 9 F (by kernel_rfl) ?_
   intro w1 hE hok
   have M1 := M.later hE
   refine mK hok rfl rfl (fun a' w' F' E' => o_move (F'.e rfl) ⟨Ext.refl _ _, rfl⟩) ?_
   refine mK hok rfl rfl (fun a' w' F' E' => o_move (F'.e rfl) ⟨Ext.refl _ _, rfl⟩) ?_
   refine mK hok rfl rfl (fun a' w' F' E' => o_indexSl (F'.e rfl) (F'.e rfl) (by omega) (by omega) ⟨Ext.refl _ _, rfl⟩) ?_
   refine mK hok rfl rfl (fun a' w' F' E' => o_loadA (M1.later E') (F'.e rfl) (by repeat constructor) (by first | assumption | rfl) ⟨Ext.refl _ _, rfl⟩) ?_
   refine mK hok rfl rfl (fun a' w' F' E' => o_move (F'.e rfl) ⟨Ext.refl _ _, rfl⟩) ?_
   refine mK hok rfl rfl (fun a' w' F' E' => o_move (F'.e rfl) ⟨Ext.refl _ _, rfl⟩) ?_
   refine mK hok rfl rfl (fun a' w' F' E' => o_sub (F'.e rfl) (F'.e rfl) (w_i64 (by omega) (by omega)) ⟨Ext.refl _ _, rfl⟩) ?_
   refine mK hok rfl rfl (fun a' w' F' E' => o_indexSl (F'.e rfl) (F'.e rfl) (by omega) (by omega) ⟨Ext.refl _ _, rfl⟩) ?_
   refine mK hok rfl rfl (fun a' w' F' E' => o_loadA (M1.later E') (F'.e rfl) (by repeat constructor) (by first | assumption | rfl) ⟨Ext.refl _ _, rfl⟩) ?_
   (refine mDone rfl rfl ?_;clear F M;intro a w F hE2 hX hTT hDD hPP;have M := M1.later hE2;clear M1;clear hX;clear hE2;clear hok;clear hE;clear hTT;clear hDD;clear hPP;(try dsimp only at F))
   refine sD F (o_eqlAT (F.e rfl) (F.e rfl) (by first | assumption | rfl) (by first | assumption | rfl) ‹_› ?_);clear F a;intro a F
   with_reducible refine l_nil (q_then ?_)
   refine c_true F rfl rfl ?_
   refine c_seq (c_region ?_)
   refine sD F (o_move (F.e rfl) ?_);clear F a;intro a F
   refine sD F (o_move (F.e rfl) ?_);clear F a;intro a F
   (refine sD F (o_slL (F.e rfl) (F.e rfl) (by omega) (by omega) (by omega) ?_);clear F a;intro a F)
   simp only [Int.toNat_natCast] at F
   refine sD F (o_assign (F.e rfl) ?_);clear F a;intro a F
   with_reducible refine l_nil (q_then (c_seq (c_seq (c_region ?_))))
   refine sD F (o_assign (F.e rfl) ?_);clear F a;intro a F
   with_reducible refine l_nil (q_then (c_block ?_))
   clear f1 f2 g1 g2 g3
   refine c_loop (fun m a w => ∃ (k i2 : Nat) (cur : List DstV), m = ls.length - i - k ∧ 1 ≤ k ∧ i + k ≤ ls.length ∧ cur.length = ls.length ∧ (∀ a ∈ cur, IsDv a) ∧ i2 ≤ i + k - 1 ∧ cur.take i2 = dedA (ls.take (i + k)) ∧ (∀ p, i + k - 1 ≤ p → cur[p]? = ls[p]?) ∧ Frm a 61 [] [(5, .int .i64 (k : Int)), (4, .slice (some ⟨b, 0 + i * 35, none⟩) (ls.length - i) (cap - i)), (3, .int .i64 (i2 : Int)), (0, .slice (some ⟨b, 0, none⟩) ls.length cap)] ∧ Mem S W0 w ((b, .cells (dvsC cur ++ junk).toArray 45 (0, 0)) :: lr)) (ls.length - i - 1) ⟨1, i, ls, rfl, by omega, by omega, rfl, hI, by omega, by rw [hst, hd], fun p _ => rfl, F.only [5, 4, 3, 0] rfl, M⟩ ?_
   clear F M hst
   rintro m2 a w ⟨k, i2, cur, hm2, hk1, hk, hcl, hcI, hi2, hct, hcp, F, M⟩
   have hcs : ∀ x ∈ cur, (dvC x).length = 35 := fun x hx => dv_len (hcI x hx)
   by_cases hlt2 : i + k < ls.length
   ·have e1 : cur[i + k] = ls[i + k] := by
     have := hcp (i + k) (by omega)
     rwa [List.getElem?_eq_getElem (by omega), List.getElem?_eq_getElem hlt2, Option.some.injEq] at this
    have e2 : cur[i + k - 1] = ls[i + k - 1] := by
     have := hcp (i + k - 1) (by omega)
     rwa [List.getElem?_eq_getElem (by omega), List.getElem?_eq_getElem (by omega), Option.some.injEq] at this
    have hx1 := hI _ (List.getElem_mem hlt2)
    have hx2 := hI _ (List.getElem_mem (show i + k - 1 < ls.length by omega))
    have f1 : seg (dvsC cur ++ junk) (0 + i * 35 + (k : Int).toNat * 35) 35 = some (dvC ls[i + k]) := by rw [← e1];exact own_el hcs junk (by omega) (by omega)
    have f2 : seg (dvsC cur ++ junk) (0 + i * 35 + ((k : Int) - 1).toNat * 35) 35 = some (dvC ls[i + k - 1]) := by rw [← e2];exact own_el hcs junk (by omega) (by omega)
    have g1 := dv_fits hx1
    have g2 := dv_fits hx2
    have g3 : eqVs (dvC ls[i + k]) (dvC ls[i + k - 1]) = decide (ls[i + k] = ls[i + k - 1]) := dv_eq hx1 hx2
    have hst := dedA_step (ls := ls) (j := i + k) (by omega) hlt2
    clear e2
    by_cases he2 : ls[i + k] = ls[i + k - 1]
    ·rw [if_pos he2] at hst
     replace g3 : eqVs (dvC ls[i + k]) (dvC ls[i + k - 1]) = true := by rw [g3, decide_eq_true he2]
     with_reducible refine c_seq (c_seq (c_region ?_))
     refine sD F (o_move (F.e rfl) ?_);clear F a;intro a F
     refine sD F (o_move (F.e rfl) ?_);clear F a;intro a F
     refine sD F (o_lenSl (F.e rfl) ?_);clear F a;intro a F
     refine sD F (o_lssT (F.e rfl) (F.e rfl) (by omega) ?_);clear F a;intro a F
     with_reducible refine l_nil (q_then ?_)
     refine c_true F rfl rfl ?_
     with_reducible refine c_skip (q_then (c_seq (c_block (c_seq ?_))))
     replace F := F.only [5, 4, 3, 0] rfl
     refine c_draw 9 F (by kernel_rfl) ?_
     intro w1 hE hok
     have M1 := M.later hE
     refine mK hok rfl rfl (fun a' w' F' E' => o_move (F'.e rfl) ⟨Ext.refl _ _, rfl⟩) ?_
     refine mK hok rfl rfl (fun a' w' F' E' => o_move (F'.e rfl) ⟨Ext.refl _ _, rfl⟩) ?_
     refine mK hok rfl rfl (fun a' w' F' E' => o_indexSl (F'.e rfl) (F'.e rfl) (by omega) (by omega) ⟨Ext.refl _ _, rfl⟩) ?_
     refine mK hok rfl rfl (fun a' w' F' E' => o_loadA (M1.later E') (F'.e rfl) (by repeat constructor) (by first | assumption | rfl) ⟨Ext.refl _ _, rfl⟩) ?_
     refine mK hok rfl rfl (fun a' w' F' E' => o_move (F'.e rfl) ⟨Ext.refl _ _, rfl⟩) ?_
     refine mK hok rfl rfl (fun a' w' F' E' => o_move (F'.e rfl) ⟨Ext.refl _ _, rfl⟩) ?_
     refine mK hok rfl rfl (fun a' w' F' E' => o_sub (F'.e rfl) (F'.e rfl) (w_i64 (by omega) (by omega)) ⟨Ext.refl _ _, rfl⟩) ?_
     refine mK hok rfl rfl (fun a' w' F' E' => o_indexSl (F'.e rfl) (F'.e rfl) (by omega) (by omega) ⟨Ext.refl _ _, rfl⟩) ?_
     refine mK hok rfl rfl (fun a' w' F' E' => o_loadA (M1.later E') (F'.e rfl) (by repeat constructor) (by first | assumption | rfl) ⟨Ext.refl _ _, rfl⟩) ?_
     (refine mDone rfl rfl ?_;clear F M;intro a w F hE2 hX hTT hDD hPP;have M := M1.later hE2;clear M1;clear hX;clear hE2;clear hok;clear hE;clear hTT;clear hDD;clear hPP;(try dsimp only at F))
     refine sD F (o_neqAF (F.e rfl) (F.e rfl) (by first | assumption | rfl) (by first | assumption | rfl) ‹_› ?_);clear F a;intro a F
     with_reducible refine l_nil (q_then ?_)
     refine c_false F rfl rfl ?_
     with_reducible refine c_skip (q_inB (q_then (c_region ?_)))
     refine sD F (o_move (F.e rfl) ?_);clear F a;intro a F
     refine sD F (o_add (F.e rfl) (F.e rfl) (w_i64 (by omega) (by omega)) ?_);clear F a;intro a F
     refine sD F (o_assign (F.e rfl) ?_);clear F a;intro a F
     with_reducible refine l_nil (q_then ?_)
     exact ⟨_, by omega, k + 1, i2, cur, rfl, by omega, by omega, hcl, hcI, by omega, by rw [hct, ← Nat.add_assoc, hst], fun p hp => hcp p (by omega), F.only [5, 4, 3, 0] rfl, M⟩
    ·rw [if_neg he2] at hst
     replace g3 : eqVs (dvC ls[i + k]) (dvC ls[i + k - 1]) = false := by rw [g3, decide_eq_false he2]
     have l1 : (dvC ls[i + k]).length = 35 := dv_len hx1
     have hpt : put (dvsC cur ++ junk) (0 + (i2 : Int).toNat * 35) (dvC ls[i + k]) = some (dvsC (cur.set i2 ls[i + k]) ++ junk) :=
      encL_put hcs junk (show i2 < cur.length by omega) (off := 0) (put_all (by rw [l1, hcs _ (List.getElem_mem _)])) (by omega)
     with_reducible refine c_seq (c_seq (c_region ?_))
     refine sD F (o_move (F.e rfl) ?_);clear F a;intro a F
     refine sD F (o_move (F.e rfl) ?_);clear F a;intro a F
     refine sD F (o_lenSl (F.e rfl) ?_);clear F a;intro a F
     refine sD F (o_lssT (F.e rfl) (F.e rfl) (by omega) ?_);clear F a;intro a F
     with_reducible refine l_nil (q_then ?_)
     refine c_true F rfl rfl ?_
     with_reducible refine c_skip (q_then (c_seq (c_block (c_seq ?_))))
     replace F := F.only [5, 4, 3, 0] rfl
     refine c_draw 9 F (by kernel_rfl) ?_
     intro w1 hE hok
     have M1 := M.later hE
     refine mK hok rfl rfl (fun a' w' F' E' => o_move (F'.e rfl) ⟨Ext.refl _ _, rfl⟩) ?_
     refine mK hok rfl rfl (fun a' w' F' E' => o_move (F'.e rfl) ⟨Ext.refl _ _, rfl⟩) ?_
     refine mK hok rfl rfl (fun a' w' F' E' => o_indexSl (F'.e rfl) (F'.e rfl) (by omega) (by omega) ⟨Ext.refl _ _, rfl⟩) ?_
     refine mK hok rfl rfl (fun a' w' F' E' => o_loadA (M1.later E') (F'.e rfl) (by repeat constructor) (by first | assumption | rfl) ⟨Ext.refl _ _, rfl⟩) ?_
     refine mK hok rfl rfl (fun a' w' F' E' => o_move (F'.e rfl) ⟨Ext.refl _ _, rfl⟩) ?_
     refine mK hok rfl rfl (fun a' w' F' E' => o_move (F'.e rfl) ⟨Ext.refl _ _, rfl⟩) ?_
     refine mK hok rfl rfl (fun a' w' F' E' => o_sub (F'.e rfl) (F'.e rfl) (w_i64 (by omega) (by omega)) ⟨Ext.refl _ _, rfl⟩) ?_
     refine mK hok rfl rfl (fun a' w' F' E' => o_indexSl (F'.e rfl) (F'.e rfl) (by omega) (by omega) ⟨Ext.refl _ _, rfl⟩) ?_
     refine mK hok rfl rfl (fun a' w' F' E' => o_loadA (M1.later E') (F'.e rfl) (by repeat constructor) (by first | assumption | rfl) ⟨Ext.refl _ _, rfl⟩) ?_
     (refine mDone rfl rfl ?_;clear F M;intro a w F hE2 hX hTT hDD hPP;have M := M1.later hE2;clear M1;clear hX;clear hE2;clear hok;clear hE;clear hTT;clear hDD;clear hPP;(try dsimp only at F))
     refine sD F (o_neqAT (F.e rfl) (F.e rfl) (by first | assumption | rfl) (by first | assumption | rfl) ‹_› ?_);clear F a;intro a F
     with_reducible refine l_nil (q_then ?_)
     refine c_true F rfl rfl ?_
     refine c_seq (c_region ?_)
     refine sD F (o_move (F.e rfl) ?_);clear F a;intro a F
     refine sD F (o_move (F.e rfl) ?_);clear F a;intro a F
     refine sD F (o_move (F.e rfl) ?_);clear F a;intro a F
     refine sD F (o_move (F.e rfl) ?_);clear F a;intro a F
     refine sD F (o_indexSl (F.e rfl) (F.e rfl) (by omega) (by omega) ?_);clear F a;intro a F
     refine sD F (o_loadA M (F.e rfl) (by repeat constructor) (by first | assumption | rfl) ?_);clear F a;intro a F
     refine sD F (o_indexSl (F.e rfl) (F.e rfl) (by omega) (by omega) ?_);clear F a;intro a F
     (refine stepN rfl F (o_storeA M (F.e rfl) (F.e rfl) l1 (dv_one _)  (by repeat constructor)  hpt (by repeat constructor) ?_);clear F M;intro w M a F)
     with_reducible refine l_nil (q_then (c_region ?_))
     refine sD F (o_move (F.e rfl) ?_);clear F a;intro a F
     refine sD F (o_add (F.e rfl) (F.e rfl) (w_i64 (by omega) (by omega)) ?_);clear F a;intro a F
     refine sD F (o_assign (F.e rfl) ?_);clear F a;intro a F
     with_reducible refine l_nil (q_inB (q_then (c_region ?_)))
     refine sD F (o_move (F.e rfl) ?_);clear F a;intro a F
     refine sD F (o_add (F.e rfl) (F.e rfl) (w_i64 (by omega) (by omega)) ?_);clear F a;intro a F
     refine sD F (o_assign (F.e rfl) ?_);clear F a;intro a F
     with_reducible refine l_nil (q_then ?_)
     exact ⟨_, by omega, k + 1, i2 + 1, _, rfl, by omega, by omega, by rw [List.length_set];exact hcl, fun a ha => by
      rcases List.mem_or_eq_of_mem_set ha with h | h
      ·exact hcI a h
      ·rw [h];exact hx1, by omega, by rw [take_set_succ (by omega), hct, ← Nat.add_assoc, hst], fun p hp => by rw [List.getElem?_set_ne (by omega)];exact hcp p (by omega), F.only [5, 4, 3, 0] rfl, M⟩
   ·have hkl : i + k = ls.length := by omega
    rw [hkl, List.take_length] at hct
    with_reducible refine c_seq (c_seq (c_region ?_))
    refine sD F (o_move (F.e rfl) ?_);clear F a;intro a F
    refine sD F (o_move (F.e rfl) ?_);clear F a;intro a F
    refine sD F (o_lenSl (F.e rfl) ?_);clear F a;intro a F
    refine sD F (o_lssF (F.e rfl) (F.e rfl) (by omega) ?_);clear F a;intro a F
    with_reducible refine l_nil (q_then ?_)
    refine c_false F rfl rfl ?_
    with_reducible refine c_exit (q_thenX (q_thenX (q_inBX (q_then (c_seq (c_region ?_))))))
    refine sD F (o_move (F.e rfl) ?_);clear F a;intro a F
    refine sD F (o_move (F.e rfl) ?_);clear F a;intro a F
    (refine sD F (o_slL (F.e rfl) (F.e rfl) (by omega) (by omega) (by omega) ?_);clear F a;intro a F)
    simp only [Int.toNat_natCast] at F
    have hcl2 : (dvsC cur ++ junk).length = cap * 35 := by rw [List.length_append, encL_len hcs, hjl, hcl, ← Nat.add_mul];congr 1;omega
    (refine stepN rfl F (o_clear (sz := 35) M (F.e rfl) (by omega) rfl rfl .here (by rw [hcl2];omega) (fun vs => .here) ?_);clear F M;intro vs w hvs M a F)
    with_reducible refine l_nil (q_then (c_seq (c_region ?_)))
    refine sD F (o_move (F.e rfl) ?_);clear F a;intro a F
    refine sD F (o_move (F.e rfl) ?_);clear F a;intro a F
    (refine sD F (o_slH (F.e rfl) (F.e rfl) (by simp) (by omega) (by omega) ?_);clear F a;intro a F)
    simp only [Int.toNat_natCast] at F
    refine sD F (o_assign (F.e rfl) ?_);clear F a;intro a F
    with_reducible refine l_nil (q_then (c_ret (q_inBR (q_thenR (q_thenR (q_inBR (q_thenR ?_)))))))
    refine p_ret F rfl (.cons (.tmp (F.e rfl)) .nil) ?_
    have hil : (dedA ls).length = i2 := by rw [← hct, List.length_take];omega
    refine ⟨dedA ls, [(b, .cells (dvsC (dedA ls) ++ (vs ++ (dvsC cur ++ junk).drop (0 + i2 * 35 + vs.length))).toArray 45 (0, 0))], rfl, .inr ⟨b, cap, _, by rw [hil];rfl, rfl, by rw [encL_len (fun x hx => hcs x (List.mem_of_mem_take (by rw [hct];exact hx)))], by rw [List.length_append, List.length_drop, hcl2, hvs, hil];omega, by omega⟩, ?_⟩
    rw [hf]
    refine Mem.perm ?_ (List.perm_append_comm (l₁ := [_]) (l₂ := lr))
    have hsp : splice (dvsC cur ++ junk) (0 + i2 * 35) vs = dvsC (dedA ls) ++ (vs ++ (dvsC cur ++ junk).drop (0 + i2 * 35 + vs.length)) := by
     unfold splice
     rw [List.take_append_of_le_length (by rw [encL_len hcs];omega), Nat.zero_add, encL_take hcs, hct]
    rw [← hsp]
    exact M
  ·rw [if_neg he] at hst
   replace g3 : eqVs (dvC ls[i]) (dvC ls[i - 1]) = false := by rw [g3, decide_eq_false he]
   with_reducible refine c_seq (c_seq (c_region ?_))
   refine sD F (o_move (F.e rfl) ?_);clear F a;intro a F
   refine sD F (o_move (F.e rfl) ?_);clear F a;intro a F
   refine sD F (o_lenSl (F.e rfl) ?_);clear F a;intro a F
   refine sD F (o_lssT (F.e rfl) (F.e rfl) (by omega) ?_);clear F a;intro a F
   with_reducible refine l_nil (q_then ?_)
   refine c_true F rfl rfl ?_
   with_reducible refine c_skip (q_then (c_seq (c_block (c_seq ?_))))
   replace F := F.only [3, 0] rfl
   refine c_draw 9 F (by kernel_rfl) ?_
   intro w1 hE hok
   have M1 := M.later hE
   refine mK hok rfl rfl (fun a' w' F' E' => o_move (F'.e rfl) ⟨Ext.refl _ _, rfl⟩) ?_
   refine mK hok rfl rfl (fun a' w' F' E' => o_move (F'.e rfl) ⟨Ext.refl _ _, rfl⟩) ?_
   refine mK hok rfl rfl (fun a' w' F' E' => o_indexSl (F'.e rfl) (F'.e rfl) (by omega) (by omega) ⟨Ext.refl _ _, rfl⟩) ?_
   refine mK hok rfl rfl (fun a' w' F' E' => o_loadA (M1.later E') (F'.e rfl) (by repeat constructor) (by first | assumption | rfl) ⟨Ext.refl _ _, rfl⟩) ?_
   refine mK hok rfl rfl (fun a' w' F' E' => o_move (F'.e rfl) ⟨Ext.refl _ _, rfl⟩) ?_
   refine mK hok rfl rfl (fun a' w' F' E' => o_move (F'.e rfl) ⟨Ext.refl _ _, rfl⟩) ?_
   refine mK hok rfl rfl (fun a' w' F' E' => o_sub (F'.e rfl) (F'.e rfl) (w_i64 (by omega) (by omega)) ⟨Ext.refl _ _, rfl⟩) ?_
   refine mK hok rfl rfl (fun a' w' F' E' => o_indexSl (F'.e rfl) (F'.e rfl) (by omega) (by omega) ⟨Ext.refl _ _, rfl⟩) ?_
   refine mK hok rfl rfl (fun a' w' F' E' => o_loadA (M1.later E') (F'.e rfl) (by repeat constructor) (by first | assumption | rfl) ⟨Ext.refl _ _, rfl⟩) ?_
   (refine mDone rfl rfl ?_;clear F M;intro a w F hE2 hX hTT hDD hPP;have M := M1.later hE2;clear M1;clear hX;clear hE2;clear hok;clear hE;clear hTT;clear hDD;clear hPP;(try dsimp only at F))
   refine sD F (o_eqlAF (F.e rfl) (F.e rfl) (by first | assumption | rfl) (by first | assumption | rfl) ‹_› ?_);clear F a;intro a F
   with_reducible refine l_nil (q_then ?_)
   refine c_false F rfl rfl ?_
   with_reducible refine c_skip (q_inB (q_then (c_region ?_)))
   refine sD F (o_move (F.e rfl) ?_);clear F a;intro a F
   refine sD F (o_add (F.e rfl) (F.e rfl) (w_i64 (by omega) (by omega)) ?_);clear F a;intro a F
   refine sD F (o_assign (F.e rfl) ?_);clear F a;intro a F
   with_reducible refine l_nil (q_then ?_)
   exact ⟨_, by omega, i + 1, rfl, by omega, by omega, by rw [hst, hd, List.take_add_one, List.getElem?_eq_getElem hlt];rfl, F.only [3, 0] rfl, M⟩
 ·obtain rfl : i = ls.length := by omega
  rw [List.take_length] at hd
  with_reducible refine c_seq (c_seq (c_region ?_))
  refine sD F (o_move (F.e rfl) ?_);clear F a;intro a F
  refine sD F (o_move (F.e rfl) ?_);clear F a;intro a F
  refine sD F (o_lenSl (F.e rfl) ?_);clear F a;intro a F
  refine sD F (o_lssF (F.e rfl) (F.e rfl) (by omega) ?_);clear F a;intro a F
  with_reducible refine l_nil (q_then ?_)
  refine c_false F rfl rfl ?_
  with_reducible refine c_exit (q_thenX (q_thenX (q_inBX (q_then (c_seq (c_region ?_))))))
  refine sD F (o_move (F.e rfl) ?_);clear F a;intro a F
  refine sD F (o_assign (F.e rfl) ?_);clear F a;intro a F
  with_reducible refine l_nil (q_then (c_ret ?_))
  refine p_ret F rfl (.cons (.tmp (F.e rfl)) .nil) ?_
  refine ⟨ls, _, hd.symm, .inr ⟨b, cap, junk, rfl, rfl, hxl, hjl, hnc⟩, ?_⟩
  rw [hf]
  exact M.perm (List.perm_append_comm (l₁ := [_]) (l₂ := lr))
theorem ded_fold : ∀ (xs acc : List DstV), AscD acc → (∀ x ∈ acc, IsDv x) → (∀ x ∈ xs, IsDv x) → xs.Pairwise (fun a b => ¬ cmpD b a < 0) → (∀ a ∈ acc, ∀ x ∈ xs, ¬ cmpD x a < 0) → AscD (xs.foldl dedS acc) ∧ ∀ y, y ∈ xs.foldl dedS acc ↔ y ∈ acc ∨ y ∈ xs
 | [], acc, h, _, _, _, _ => ⟨h, by simp⟩
 | x :: xs, acc, h, ia, ix, hp, hle => by
  have hp1 := List.pairwise_cons.1 hp
  have hlt : ∀ a b : DstV, IsDv a → IsDv b → ¬ cmpD b a < 0 → a ≠ b → cmpD a b < 0 := by
   intro a b ha hb h1 h2
   have h3 := cmpD_anti b a
   have h4 : cmpD a b ≠ 0 := fun e => h2 (cmpD_zero ha hb e)
   omega
  rw [List.foldl_cons]
  unfold dedS
  by_cases hl : acc.getLast? = some x
  ·rw [if_pos hl]
   obtain ⟨h1, h2⟩ := ded_fold xs acc h ia (fun y hy => ix y (List.mem_cons_of_mem _ hy)) hp1.2 (fun a ha y hy => hle a ha y (List.mem_cons_of_mem _ hy))
   refine ⟨h1, fun y => ?_⟩
   rw [show (fun acc x => if acc.getLast? = some x then acc else acc ++ [x]) = @dedS DstV _ from rfl, h2, List.mem_cons]
   constructor
   ·rintro (h | h) <;> simp [h]
   ·rintro (h | rfl | h)
    ·exact .inl h
    ·exact .inl (List.mem_of_getLast? hl)
    ·exact .inr h
  ·rw [if_neg hl]
   have hx := ix x (by simp)
   have hacc : ∀ a ∈ acc, cmpD a x < 0 := by
    intro a ha
    obtain ⟨ys, z, rfl⟩ : ∃ ys z, acc = ys ++ [z] := ⟨acc.dropLast, acc.getLast (by rintro rfl;simp at ha), (List.dropLast_concat_getLast _).symm⟩
    have hz : z ≠ x := fun e => hl (by simp [e])
    have hzx := hlt z x (ia z (by simp)) hx (hle z (by simp) x (by simp)) hz
    rcases List.mem_append.1 ha with h1 | h1
    ·exact cmpD_trans ((List.pairwise_append.1 h).2.2 a h1 z (by simp)) hzx
    ·simp at h1
     rw [h1];exact hzx
   have hasc : AscD (acc ++ [x]) := List.pairwise_append.2 ⟨h, by simp, fun a ha b hb => by simp at hb;rw [hb];exact hacc a ha⟩
   obtain ⟨h1, h2⟩ := ded_fold xs (acc ++ [x]) hasc (fun y hy => by
    rcases List.mem_append.1 hy with h | h
    ·exact ia y h
    ·simp at h;rw [h];exact hx) (fun y hy => ix y (List.mem_cons_of_mem _ hy)) hp1.2 (fun a ha y hy => by
    rcases List.mem_append.1 ha with h | h
    ·exact hle a h y (List.mem_cons_of_mem _ hy)
    ·simp at h;rw [h];exact hp1.1 y hy)
   refine ⟨h1, fun y => ?_⟩
   rw [show (fun acc x => if acc.getLast? = some x then acc else acc ++ [x]) = @dedS DstV _ from rfl, h2, List.mem_append, List.mem_cons, List.mem_cons]
   constructor
   ·rintro ((h | h | h) | h) <;> simp_all
   ·rintro (h | h | h) <;> simp_all
theorem dests_ded {l : List RouV} {old : List InsV} (hi : ∀ x ∈ allD l old, IsDv x) {s : List DstV} (hp : s.Perm (allD l old)) (hs : s.Pairwise fun a b => ¬ cmpD b a < 0) : dedA s = destsV l old := by
 have h1 := ded_fold s [] (by simp [AscD, AscC]) (by simp) (fun x hx => hi x (hp.mem_iff.1 hx)) hs (by simp)
 have h2 := foldr_insD hi
 refine ascK_unique (fun d : DstV => d) _ _ h1.1 h2.1 fun x => ?_
 show x ∈ s.foldl dedS [] ↔ x ∈ (allD l old).foldr insD []
 rw [h1.2, h2.2]
 simp [hp.mem_iff]
set_option maxHeartbeats 1000000 in
theorem sortD_c (ls : List DstV) (hx : ∀ x ∈ ls, IsDv x) (hlen : ls.length ≤ 100000)
  {S : List Nat} {W0 w : World} {l : List (Nat × Obj)} {f : List (Nat × Obj) → List (Nat × Obj)} {v : Value} {ent : List (Nat × Obj)} (M : Mem S W0 w l) (hO : OwnS 45 35 v ls.length (dvsC ls) ent) (hl : TailAt ent l f) :
  Cal Tryz.prog 99 [v, .func (.func 96) #[] #[]].toArray w fun _ w' => ∃ ls' ent', ls'.Perm ls ∧ ls'.Pairwise (fun a b => ¬ cmpD b a < 0) ∧ OwnS 45 35 v ls'.length (dvsC ls') ent' ∧ Mem S W0 w' (f ent') := by
 let enc : ADst → List Value := fun d => dvC d.1
 obtain ⟨az, haz⟩ : ∃ az : List ADst, az.map (·.1) = ls := ⟨ls.pmap (fun a h => (⟨a, h⟩ : ADst)) hx, by rw [List.map_pmap];simp⟩
 have henc : ∀ bz : List ADst, encL enc bz = dvsC (bz.map (·.1)) := by
  intro bz
  induction bz with
  | nil => rfl
  | cons x xs ih => rw [encL_cons, ih];rfl
 have hlz : az.length = ls.length := by rw [← haz, List.length_map]
 rw [← hlz] at hO
 rw [← haz, ← henc] at hO
 have h := sort_own (P := Tryz.prog) (ρ := sortDs_ren) (enc := enc) (k := 35) (e := 45) sortDs (fun x => dv_len x.2) (by omega) (fun x => dv_one _) (by kernel_rfl) cfD swoD totD (g := 96) (TBody.h (P := Tryz.prog)) (fun W x y => scompare_c x.1 y.1 x.2 y.2 W) az M hO hl (by omega)
 refine Cal.mono h ?_
 rintro _ w' ⟨ent', hO', M'⟩
 have hp := List.mergeSort_perm az fun x y => !(ltOf cfD) y x
 have hs : (az.mergeSort fun x y => !(ltOf cfD) y x).Pairwise fun x y => (!(ltOf cfD) y x) = true := by
  refine List.pairwise_mergeSort ?_ ?_ _
  ·intro a b c h1 h2
   simp only [Bool.not_eq_true'] at h1 h2 ⊢
   exact swoD.ntrans c b a h2 h1
  ·intro a b
   cases h : ltOf cfD b a with
   | false => simp
   | true => simp [swoD.asymmA h]
 generalize az.mergeSort (fun x y => !(ltOf cfD) y x) = ds at *
 refine ⟨ds.map (·.1), ent', by rw [← haz];exact hp.map _, ?_, ?_, M'⟩
 ·rw [List.pairwise_map]
  refine hs.imp ?_
  intro a b h3
  simp only [Bool.not_eq_true'] at h3
  rw [ltD_f] at h3
  exact h3
 ·rw [← henc, List.length_map, hp.length_eq]
  exact hO'
end Go.Proofs.YtilgoepokaaleaaGreat
/-! ZA -/
namespace Go.Proofs.YtilgoepokaaleaaGreat
set_option linter.unusedVariables false
set_option linter.unusedSimpArgs false
open Go.RowKit
attribute [local irreducible] OpTo wpListIn Code.wpIn MW Cal
theorem map_take_succ {α β : Type} (f : α → β) {l : List α} {i : Nat} (h : i < l.length) : (l.take (i + 1)).map f = (l.take i).map f ++ [f l[i]] := by
 rw [List.take_add_one, List.getElem?_eq_getElem h, List.map_append]
 rfl
set_option maxHeartbeats 4000000 in
theorem dests_c (l : List RouV) (hx : ∀ x ∈ l, IsRo x) (old : List InsV) (hy : ∀ x ∈ old, IsIn x) (hl1 : l.length ≤ 1000) (hl2 : old.length ≤ 1000) (u v : Value) (W : World) (hS : SlAt W 39 u l.length (rosC l)) (hT : SlAt W 40 v old.length (insC old)) :
  Cal Tryz.prog 50 [u, v].toArray W fun r w' => ∃ ent, OwnS 45 35 r (destsV l old).length (dvsC (destsV l old)) ent ∧ Mem [] W w' ent := by
 have hall : ∀ x ∈ allD l old, IsDv x := by
  intro x h
  unfold allD at h
  rcases List.mem_append.1 h with h | h
  ·obtain ⟨r, h1, rfl⟩ := List.mem_map.1 h
   exact (hx r h1).1
  ·obtain ⟨r, h1, rfl⟩ := List.mem_map.1 h
   exact (hy r h1).1
 have hdl : ∀ x ∈ allD l old, (dvC x).length = 35 := fun x h => dv_len (hall x h)
 obtain ⟨q, cap, rfl, hcap, hsp, hl, hm⟩ := hS
 obtain ⟨q2, cap2, rfl, hcap2, hsp2, hl', hm2⟩ := hT
 refine fn_ofM (n := 38) [] Tryz.func50 rfl rfl rfl ?_
 intro a w F M hwW
 refine c_seq (c_region ?_)
 refine sD F (o_assign (F.e rfl) ?_);clear F a;intro a F
 with_reducible refine l_nil (q_then (c_seq (c_region ?_)))
 refine sD F (o_assign (F.e rfl) ?_);clear F a;intro a F
 with_reducible refine l_nil (q_then (c_seq (c_seq (c_region ?_))))
 refine sD F (o_move (F.e rfl) ?_);clear F a;intro a F
 refine sD F (o_lenSl (F.e rfl) ?_);clear F a;intro a F
 refine sD F (o_move (F.e rfl) ?_);clear F a;intro a F
 with_reducible refine l_nil (q_then (c_block ?_))
 refine c_loop (fun m a w => ∃ (i : Nat) (z : Value) (ent : List (Nat × Obj)), m = l.length - i ∧ i ≤ l.length ∧ OwnS 45 35 z i (dvsC ((l.take i).map (·.to))) ent ∧ Frm a 38 [] [(12, .int .i64 i), (11, .int .i64 l.length), (10, .slice q l.length cap), (1, .slice q2 old.length cap2), (5, z)] ∧ Mem [] W w ent) l.length ⟨0, .slice none 0 0, [], rfl, by omega, OwnS.nil _ _, F.only [12, 11, 10, 1, 5] rfl, M⟩ ?_
 ·clear F M
  rintro m a w ⟨i, z, ent, hm', hi, hO, F, M⟩
  by_cases hlt : i < l.length
  ·obtain ⟨b, o, cs, t', fz, rfl, hb, hs⟩ := hm (by omega)
   have hxv := hx _ (List.getElem_mem hlt)
   have f1 : seg cs (o + (i : Int).toNat * 39) 39 = some (roC l[i]) := seg_el (ros_len hx) hs hlt (by omega)
   have hmt := map_take_succ RouV.to hlt
   obtain ⟨x, hx0⟩ : ∃ x, x = l[i] := ⟨_, rfl⟩
   rw [← hx0] at hxv f1 hmt
   have f2 : (roC x).length = 39 := ro_len hxv
   have f3 := ro_to hxv
   refine c_seq (c_region ?_)
   refine sD F (o_lssT (F.e rfl) (F.e rfl) (by omega) ?_);clear F a;intro a F
   with_reducible refine l_nil (q_then (c_seq ?_))
   refine c_true F rfl rfl ?_
   with_reducible refine c_skip (q_then (c_seq (c_block (c_seq (c_region ?_)))))
   refine sD F (o_indexSl (F.e rfl) (F.e rfl) (by omega) (by omega) ?_);clear F a;intro a F
   refine sD F (o_loadWA M (F.e rfl) ‹_› (by first | assumption | rfl) ?_);clear F a;intro a F
   (refine sD F (o_alloc M ?_);clear F M;intro b7 w M a F)
   (refine stepN rfl F (o_storeA M (F.e rfl) (F.e rfl) (f2) (ro_one x)  (by repeat constructor)  (put_all (by rw [f2];rfl)) (by repeat constructor) ?_);clear F M;intro w M a F)
   with_reducible refine l_nil (q_then (c_region ?_))
   refine sD F (o_move (F.e rfl) ?_);clear F a;intro a F
   refine sD F (o_fieldAddr (F.e rfl) ?_);clear F a;intro a F
   refine sD F (o_loadA M (F.e rfl) (by repeat constructor) (by first | assumption | rfl) ?_);clear F a;intro a F
   (refine sD F (o_buildSlice F M rfl rfl rfl (dv_build1 hxv.1) ?_);clear F M;intro b19 w M a F)
   (refine sD F (o_append hO M (.cons (.cons .here)) (F.e rfl) (F.e rfl) (SrcOf.cells' (M.heap .here) (sg_all (dv_len hxv.1)) (dv_one _)) (by omega) (by omega) ?_);clear F M;intro z2 ent2 w hO2 M a F)
   refine sD F (o_assign (F.e rfl) ?_);clear F a;intro a F
   with_reducible refine l_nil (q_inB (q_then (c_region ?_)))
   refine sD F (o_add (F.e rfl) (F.e rfl) (w_i64 (by omega) (by omega)) ?_);clear F a;intro a F
   refine sD F (o_move (F.e rfl) ?_);clear F a;intro a F
   with_reducible refine l_nil (q_then ?_)
   refine ⟨_, by omega, i + 1, z2, ent2, rfl, by omega, ?_, F.only [12, 11, 10, 1, 5] rfl, M.sub (List.sublist_append_right [_, _] _)⟩
   rw [hmt]
   show OwnS _ 35 _ _ (encL dvC _) _
   rw [encL_app, encL_one]
   exact hO2
  ·obtain rfl : i = l.length := by omega
   rw [List.take_length] at hO
   refine c_seq (c_region ?_)
   refine sD F (o_lssF (F.e rfl) (F.e rfl) (by omega) ?_);clear F a;intro a F
   with_reducible refine l_nil (q_then (c_seq ?_))
   refine c_false F rfl rfl ?_
   with_reducible refine c_exit (q_thenX (q_thenX (q_inBX (q_then (c_seq (c_seq (c_region ?_)))))))
   refine sD F (o_move (F.e rfl) ?_);clear F a;intro a F
   refine sD F (o_lenSl (F.e rfl) ?_);clear F a;intro a F
   refine sD F (o_move (F.e rfl) ?_);clear F a;intro a F
   with_reducible refine l_nil (q_then (c_block ?_))
   refine c_loop (fun m a w => ∃ (i : Nat) (z : Value) (ent : List (Nat × Obj)), m = old.length - i ∧ i ≤ old.length ∧ OwnS 45 35 z (l.length + i) (dvsC (l.map (·.to) ++ (old.take i).map (·.to))) ent ∧ Frm a 38 [] [(24, .int .i64 i), (23, .int .i64 old.length), (22, .slice q2 old.length cap2), (5, z)] ∧ Mem [] W w ent) old.length ⟨0, z, ent, rfl, by omega, by simpa using hO, F.only [24, 23, 22, 5] rfl, M⟩ ?_
   clear F M hO
   clear hm'
   rintro m a w ⟨i, z, ent, hm', hi, hO, F, M⟩
   by_cases hlt : i < old.length
   ·obtain ⟨b, o, cs, t', fz, rfl, hb, hs⟩ := hm2 (by omega)
    have hxv := hy _ (List.getElem_mem hlt)
    have f1 : seg cs (o + (i : Int).toNat * 40) 40 = some (inC old[i]) := seg_el (ins_len hy) hs hlt (by omega)
    have hmt := map_take_succ InsV.to hlt
    obtain ⟨x, hx0⟩ : ∃ x, x = old[i] := ⟨_, rfl⟩
    rw [← hx0] at hxv f1 hmt
    have f2 : (inC x).length = 40 := in_len hxv
    have f3 := in_to hxv
    refine c_seq (c_region ?_)
    refine sD F (o_lssT (F.e rfl) (F.e rfl) (by omega) ?_);clear F a;intro a F
    with_reducible refine l_nil (q_then (c_seq ?_))
    refine c_true F rfl rfl ?_
    with_reducible refine c_skip (q_then (c_seq (c_block (c_seq (c_region ?_)))))
    refine sD F (o_indexSl (F.e rfl) (F.e rfl) (by omega) (by omega) ?_);clear F a;intro a F
    refine sD F (o_loadWA M (F.e rfl) ‹_› (by first | assumption | rfl) ?_);clear F a;intro a F
    (refine sD F (o_alloc M ?_);clear F M;intro b9 w M a F)
    (refine stepN rfl F (o_storeA M (F.e rfl) (F.e rfl) (f2) (in_one x)  (by repeat constructor)  (put_all (by rw [f2];rfl)) (by repeat constructor) ?_);clear F M;intro w M a F)
    with_reducible refine l_nil (q_then (c_region ?_))
    refine sD F (o_move (F.e rfl) ?_);clear F a;intro a F
    refine sD F (o_fieldAddr (F.e rfl) ?_);clear F a;intro a F
    refine sD F (o_loadA M (F.e rfl) (by repeat constructor) (by first | assumption | rfl) ?_);clear F a;intro a F
    (refine sD F (o_buildSlice F M rfl rfl rfl (dv_build1 hxv.1) ?_);clear F M;intro b31 w M a F)
    (refine sD F (o_append hO M (.cons (.cons .here)) (F.e rfl) (F.e rfl) (SrcOf.cells' (M.heap .here) (sg_all (dv_len hxv.1)) (dv_one _)) (by omega) (by omega) ?_);clear F M;intro z2 ent2 w hO2 M a F)
    refine sD F (o_assign (F.e rfl) ?_);clear F a;intro a F
    with_reducible refine l_nil (q_inB (q_then (c_region ?_)))
    refine sD F (o_add (F.e rfl) (F.e rfl) (w_i64 (by omega) (by omega)) ?_);clear F a;intro a F
    refine sD F (o_move (F.e rfl) ?_);clear F a;intro a F
    with_reducible refine l_nil (q_then ?_)
    refine ⟨_, by omega, i + 1, z2, ent2, rfl, by omega, ?_, F.only [24, 23, 22, 5] rfl, M.sub (List.sublist_append_right [_, _] _)⟩
    rw [hmt, ← List.append_assoc]
    show OwnS _ 35 _ _ (encL dvC _) _
    rw [encL_app, encL_one]
    exact hO2
   ·obtain rfl : i = old.length := by omega
    rw [List.take_length] at hO
    replace hO : OwnS 45 35 z (allD l old).length (dvsC (allD l old)) ent := by
     have : (allD l old).length = l.length + old.length := by simp [allD]
     rw [this]
     exact hO
    have hal : (allD l old).length ≤ 2000 := by simp [allD];omega
    refine c_seq (c_region ?_)
    refine sD F (o_lssF (F.e rfl) (F.e rfl) (by omega) ?_);clear F a;intro a F
    with_reducible refine l_nil (q_then (c_seq ?_))
    refine c_false F rfl rfl ?_
    with_reducible refine c_exit (q_thenX (q_thenX (q_inBX (q_then (c_seq (c_region ?_))))))
    refine sD F (o_move (F.e rfl) ?_);clear F a;intro a F
    (refine sD F (o_call (F.e rfl) (F.evs rfl) (Cal.mono (sortD_c (allD l old) hall (by omega) M hO .here) ?_));clear F;clear a;clear M;rintro _ w ⟨ls, ent2, hp, hs, hO2, M⟩ a F)
    have hls : ∀ x ∈ ls, IsDv x := fun x h => hall x (hp.mem_iff.1 h)
    have hll : ls.length ≤ 2000 := by rw [hp.length_eq];exact hal
    with_reducible refine l_nil (q_then (c_seq (c_region ?_)))
    refine sD F (o_move (F.e rfl) ?_);clear F a;intro a F
    (refine sD F (o_call (F.e rfl) (F.evs rfl) (Cal.mono (compactD_c ls hls (by omega) M hO2 .here) ?_));clear F;clear a;clear M;rintro r w ⟨ls', ent3, rfl, hO3, M⟩ a F)
    rw [dests_ded hall hp hs] at hO3
    refine sD F (o_assign (F.e rfl) ?_);clear F a;intro a F
    with_reducible refine l_nil (q_then (c_ret ?_))
    refine p_ret F rfl (.cons (.tmp (F.e rfl)) .nil) ?_
    exact ⟨ent3, hO3, M⟩
end Go.Proofs.YtilgoepokaaleaaGreat
/-! ZB -/
namespace Go.Proofs.YtilgoepokaaleaaGreat
set_option linter.unusedVariables false
set_option linter.unusedSimpArgs false
open Go.RowKit
attribute [local irreducible] OpTo wpListIn Code.wpIn MW Cal
theorem in_buildA {d : DstV} (hd : IsDv d) (e : Int) (o : DisV) (z : Int) : putAll [(0, 35), (35, 1), (36, 2), (38, 1), (39, 1)] inZ [(0, dvC d), (1, [.int .u64 e]), (2, diC o), (3, [.int .i64 z])] = some (inC ⟨d, e, o, z, 0⟩) := by
 obtain ⟨p1, n1, p2, n2, rt⟩ := d
 obtain ⟨x0, x1, x2, x3, x4, x5, x6, x7, x8, x9, x10, x11, x12, x13, x14, x15, e0⟩ := len16 (show p1.length = 16 from hd.1.len)
 obtain ⟨y0, y1, y2, y3, y4, y5, y6, y7, y8, y9, y10, y11, y12, y13, y14, y15, e1⟩ := len16 (show p2.length = 16 from hd.2.len)
 subst e0
 subst e1
 rfl
theorem in_buildH {d : DstV} (hd : IsDv d) (o : DisV) (z y : Int) : putAll [(0, 35), (35, 1), (36, 2), (38, 1), (39, 1)] inZ [(0, dvC d), (2, diC o), (3, [.int .i64 z]), (4, [.int .i64 y])] = some (inC ⟨d, 0, o, z, y⟩) := by
 obtain ⟨p1, n1, p2, n2, rt⟩ := d
 obtain ⟨x0, x1, x2, x3, x4, x5, x6, x7, x8, x9, x10, x11, x12, x13, x14, x15, e0⟩ := len16 (show p1.length = 16 from hd.1.len)
 obtain ⟨y0, y1, y2, y3, y4, y5, y6, y7, y8, y9, y10, y11, y12, y13, y14, y15, e1⟩ := len16 (show p2.length = 16 from hd.2.len)
 subst e0
 subst e1
 rfl
theorem zero_dR : zeroIs Tryz.prog 48 (diV di0) := by
 unfold zeroIs
 kernel_rfl
def mapQ (m : List (Int × DisV)) : List (Int × Value) := m.map fun p => (p.1, diV p.2)
theorem keyE_law : KeyLw Tryz.prog 43 (Value.int .u64) (fun _ => True) := keyLw_int (by kernel_rfl)
def oldB (o : InsV) (had : Bool) : Option InsV := if had then some o else none
theorem bef_valid {o : InsV} {had : Bool} (h : had = true → ins1 o = true) : validCh (befV (oldB o had)) = true := by
 cases had
 ·rfl
 ·have h1 := h rfl
  show validCh ⟨o.nb, o.own.met, o.btn⟩ = true
  unfold ins1 at h1
  unfold validCh
  by_cases h0 : o.nb = 0
  ·rw [if_pos h0] at h1
   simp only [Bool.and_eq_true, decide_eq_true_eq] at h1
   simp [h1.2.1.1, h1.2.1.2, validM_inf]
  ·rw [if_neg h0] at h1
   simp only [Bool.and_eq_true, decide_eq_true_eq, finD] at h1
   simp only [Bool.and_eq_true]
   exact ⟨h1.2.1.1.1, h1.2.1.2⟩
theorem in0_is : IsIn in0 := ⟨⟨nul16_is, nul16_is⟩, trivial⟩
set_option maxHeartbeats 8000000 in
theorem after_c (now : Int) (hnow : isTime now = true) (t : DstV) (ht : IsDv t) (o : InsV) (ho : IsIn o) (had : Bool) (hov : had = true → ins1 o = true) (l : List OptV) (hval : validOs l = true) (v : Value) (said : List (Int × DisV)) (vm : Value) (W : World) (hS : SlAt W 2 v l.length (opsC l)) (hM : MapIn W (Value.int .u64) vm (mapQ said)) :
  Cal Tryz.prog 53 [.int .i64 now, .agg (dvC t).toArray, .agg (inC o).toArray, .bool had, v, vm].toArray W fun r w' => r = .tuple [.agg (inC ((aftV now t (oldB o had) l said).getD in0)).toArray, .bool (aftV now t (oldB o had) l said).isSome].toArray ∧ Ext [] W w' := by
 have e1 := dv_all ht
 have o1 := in_all ho
 have o2 := in_nb ho
 have o3 := in_own_met ho
 have o4 := in_btn ho
 have o5 := in_own_seq ho
 have o6 := in_til ho
 have hB := bef_valid hov
 have hIs : ∀ x ∈ l, IsOp x := fun _ _ => trivial
 have hnw := hnow
 simp only [isTime, Bool.and_eq_true, decide_eq_true_eq] at hnw
 obtain ⟨b0, hb0⟩ : ∃ b0, b0 = befV (oldB o had) := ⟨_, rfl⟩
 rw [← hb0] at hB
 obtain ⟨c, hc⟩ : ∃ c, c = chooseV now b0 l := ⟨_, rfl⟩
 have hch := choose_c l hIs hval v now hnow b0 hB
 rw [← hc] at hch
 have haft : aftV now t (oldB o had) l said = if c.nb ≠ 0 then some ⟨t, c.nb, ⟨((getA c.nb said).getD di0).seq, c.cost⟩, c.btn, 0⟩ else match oldB o had with
  | none => none
  | some o => if o.nb ≠ 0 then some ⟨t, 0, ⟨o.own.seq, inf⟩, -1, laterV now 14⟩ else if now < o.til then some o else none := by
  rw [hc, hb0]
  rfl
 have c1 := ch_nb (o := c) trivial
 have c2 := ch_cost (o := c) trivial
 have c3 := ch_btn (o := c) trivial
 have c4 := ch_len (o := c) trivial
 have b1 := ch_all (o := b0) trivial
 refine fn_ofM (n := 81) [] Tryz.func53 rfl rfl rfl ?_
 intro a w F M hwW
 refine c_seq ?_
 refine c_region ?_
 (refine sD F (o_box M (F.e rfl) rfl ?_);clear F M;intro b7 w M a F)
 (refine sD F (o_box M (F.e rfl) rfl ?_);clear F M;intro b8 w M a F)
 (refine sD F (o_alloc M ?_);clear F M;intro b12 w M a F)
 refine sD F (o_assign (F.e rfl) ?_);clear F a;intro a F
 with_reducible refine l_nil (q_then (c_seq (c_region ?_)))
 refine sD F (o_build F rfl rfl ?_);clear F a;intro a F
 (refine sD F (o_alloc M ?_);clear F M;intro b14 w M a F)
 (refine stepN rfl F (o_storeA M (F.e rfl) (F.e rfl) (rfl) (rfl)  (by repeat constructor)  (rfl) (by repeat constructor) ?_);clear F M;intro w M a F)
 with_reducible refine l_nil (q_then (c_seq (c_seq (c_region ?_))))
 refine sD F (o_move (F.e rfl) ?_);clear F a;intro a F
 with_reducible refine l_nil (q_then ?_)
 refine c_cut (fun a w => Frm a 81 [] [(0, .int .i64 now), (3, .bool had), (4, v), (5, vm), (7, .pointer (some ⟨b7, 0, none⟩)), (8, .pointer (some ⟨b8, 0, none⟩)), (12, .pointer (some ⟨b12, 0, none⟩)), (13, .bool false), (14, .pointer (some ⟨b14, 0, none⟩))] ∧ Mem [] W w [(b14, .cells (chC b0).toArray 141 (0, 0)), (b12, .cells inZ.toArray 50 (0, 0)), (b8, .cells (inC o).toArray 50 (0, 0)), (b7, .cells (dvC t).toArray 45 (0, 0))]) ?_ ?_
 ·cases had
  ·refine c_false F rfl rfl ?_
   with_reducible refine c_skip ?_
   exact ⟨F.only [0, 3, 4, 5, 7, 8, 12, 13, 14] rfl, by rw [hb0];exact M⟩
  ·refine c_true F rfl rfl ?_
   refine c_region ?_
   refine sD F (o_fieldAddr (F.e rfl) ?_);clear F a;intro a F
   refine sD F (o_load1 M (F.e rfl) (by repeat constructor) (by first | assumption | rfl) ?_);clear F a;intro a F
   refine sD F (o_fieldAddr (F.e rfl) ?_);clear F a;intro a F
   refine sD F (o_fieldAddr (F.e rfl) ?_);clear F a;intro a F
   refine sD F (o_load1 M (F.e rfl) (by repeat constructor) (by first | assumption | rfl) ?_);clear F a;intro a F
   refine sD F (o_fieldAddr (F.e rfl) ?_);clear F a;intro a F
   refine sD F (o_load1 M (F.e rfl) (by repeat constructor) (by first | assumption | rfl) ?_);clear F a;intro a F
   refine sD F (o_build F rfl rfl ?_);clear F a;intro a F
   (refine stepN rfl F (o_storeA M (F.e rfl) (F.e rfl) (rfl) (rfl)  (by repeat constructor)  (rfl) (by repeat constructor) ?_);clear F M;intro w M a F)
   with_reducible refine l_nil ?_
   exact ⟨F.only [0, 3, 4, 5, 7, 8, 12, 13, 14] rfl, by rw [hb0];exact M⟩
 clear F M
 rintro a w ⟨F, M⟩
 with_reducible refine q_then (c_seq (c_region ?_))
 refine sD F (o_move (F.e rfl) ?_);clear F a;intro a F
 refine sD F (o_loadA M (F.e rfl) (by repeat constructor) (by first | assumption | rfl) ?_);clear F a;intro a F
 refine sD F (o_move (F.e rfl) ?_);clear F a;intro a F
 (refine sD F (o_call (F.e rfl) (F.evs rfl) (Cal.mono (hch _ (hS.later M.ext)) ?_));clear F;clear a;rintro _ w ⟨rfl, hE⟩ a F;replace M := M.later hE;clear hE)
 refine sD F (o_move (F.e rfl) ?_);clear F a;intro a F
 refine sD F (o_extract (F.e rfl) rfl ?_);clear F a;intro a F
 refine sD F (o_extract (F.e rfl) rfl ?_);clear F a;intro a F
 (refine sD F (o_alloc M ?_);clear F M;intro b15 w M a F)
 (refine stepN rfl F (o_storeA M (F.e rfl) (F.e rfl) (c4) (ch_one c)  (by repeat constructor)  (put_all (by rw [c4];rfl)) (by repeat constructor) ?_);clear F M;intro w M a F)
 by_cases h0 : c.nb = 0
 ·rw [haft, if_neg (by simp [h0])]
  cases had
  ·refine sD F (o_assign (F.e rfl) ?_);clear F a;intro a F
   with_reducible refine l_nil (q_then (c_seq (c_seq (c_region ?_))))
   refine sD F (o_move (F.e rfl) ?_);clear F a;intro a F
   refine sD F (o_eqlT (F.e rfl) (F.e rfl) (by omega) ?_);clear F a;intro a F
   refine sD F (o_move (F.e rfl) ?_);clear F a;intro a F
   refine sG F (o_fieldAddr (F.e rfl) ?_);clear F a;intro a F
   refine sG F (o_load1 M (F.e rfl) (by repeat constructor) (by first | assumption | rfl) ?_);clear F a;intro a F
   refine sG F (o_neqF (F.e rfl) (F.e rfl) (by omega) ?_);clear F a;intro a F
   refine sD F (o_pickT (F.e rfl) (F.e rfl) ?_);clear F a;intro a F
   with_reducible refine l_nil (q_then ?_)
   refine c_false F rfl rfl ?_
   with_reducible refine c_skip (q_then (c_seq (c_block (c_seq (c_region ?_)))))
   refine sD F (o_move (F.e rfl) ?_);clear F a;intro a F
   refine sD F (o_not (F.e rfl) ?_);clear F a;intro a F
   refine sD F (o_assign (F.e rfl) ?_);clear F a;intro a F
   with_reducible refine l_nil (q_then ?_)
   refine c_true F rfl rfl ?_
   refine c_seq (c_region ?_)
   refine sD F (o_build F rfl rfl ?_);clear F a;intro a F
   (refine stepN rfl F (o_storeA M (F.e rfl) (F.e rfl) (rfl) (rfl)  (by repeat constructor)  (rfl) (by repeat constructor) ?_);clear F M;intro w M a F)
   refine sD F (o_assign (F.e rfl) ?_);clear F a;intro a F
   with_reducible refine l_nil (q_then (c_ret (q_inBR (q_thenR ?_))))
   exact p_ret F rfl (.cons (.cell (F.e rfl) (run_loadVar_agg TAgg.h (M.heap (by repeat constructor)) rfl)) (.cons (.tmp (F.e rfl)) .nil)) ⟨rfl, M.ext⟩
  ·have hold : oldB o true = some o := rfl
   rw [hold]
   dsimp only
   refine sD F (o_assign (F.e rfl) ?_);clear F a;intro a F
   with_reducible refine l_nil (q_then (c_seq (c_seq (c_region ?_))))
   refine sD F (o_move (F.e rfl) ?_);clear F a;intro a F
   refine sD F (o_eqlT (F.e rfl) (F.e rfl) (by omega) ?_);clear F a;intro a F
   refine sD F (o_move (F.e rfl) ?_);clear F a;intro a F
   refine sG F (o_fieldAddr (F.e rfl) ?_);clear F a;intro a F
   refine sG F (o_load1 M (F.e rfl) (by repeat constructor) (by first | assumption | rfl) ?_);clear F a;intro a F
   refine sG F (o_neqF (F.e rfl) (F.e rfl) (by omega) ?_);clear F a;intro a F
   refine sD F (o_pickT (F.e rfl) (F.e rfl) ?_);clear F a;intro a F
   with_reducible refine l_nil (q_then ?_)
   refine c_false F rfl rfl ?_
   with_reducible refine c_skip (q_then (c_seq (c_block (c_seq (c_region ?_)))))
   refine sD F (o_move (F.e rfl) ?_);clear F a;intro a F
   refine sD F (o_not (F.e rfl) ?_);clear F a;intro a F
   refine sD F (o_assign (F.e rfl) ?_);clear F a;intro a F
   with_reducible refine l_nil (q_then ?_)
   refine c_false F rfl rfl ?_
   refine c_seq (c_region ?_)
   refine sD F (o_loadA M (F.e rfl) (by repeat constructor) (by first | assumption | rfl) ?_);clear F a;intro a F
   (refine sD F (o_call (F.e rfl) (F.evs rfl) (Cal.mono (rtreach_c o ho _) ?_));clear F;clear a;rintro _ w ⟨rfl, hE⟩ a F;replace M := M.later hE;clear hE)
   by_cases h1 : o.nb = 0
   ·rw [decide_eq_true h1] at F
    rw [if_neg (by simp [h1])]
    by_cases h2 : now < o.til
    ·rw [if_pos h2]
     refine sD F (o_assign (F.e rfl) ?_);clear F a;intro a F
     with_reducible refine l_nil (q_then ?_)
     refine c_false F rfl rfl ?_
     refine c_seq (c_region ?_)
     refine sD F (o_fieldAddr (F.e rfl) ?_);clear F a;intro a F
     refine sD F (o_load1 M (F.e rfl) (by repeat constructor) (by first | assumption | rfl) ?_);clear F a;intro a F
     refine sD F (o_move (F.e rfl) ?_);clear F a;intro a F
     refine sD F (o_gtrT (F.e rfl) (F.e rfl) (by omega) ?_);clear F a;intro a F
     refine sD F (o_assign (F.e rfl) ?_);clear F a;intro a F
     with_reducible refine l_nil (q_then ?_)
     refine c_true F rfl rfl ?_
     refine c_seq (c_region ?_)
     refine sD F (o_loadA M (F.e rfl) (by repeat constructor) (by first | assumption | rfl) ?_);clear F a;intro a F
     (refine stepN rfl F (o_storeA M (F.e rfl) (F.e rfl) (in_len ho) (in_one _)  (by repeat constructor)  (put_all (by rw [in_len ho];rfl)) (by repeat constructor) ?_);clear F M;intro w M a F)
     refine sD F (o_assign (F.e rfl) ?_);clear F a;intro a F
     with_reducible refine l_nil (q_then (c_ret (q_inBR (q_thenR ?_))))
     exact p_ret F rfl (.cons (.cell (F.e rfl) (run_loadVar_agg TAgg.h (M.heap (by repeat constructor)) (in_all ho))) (.cons (.tmp (F.e rfl)) .nil)) ⟨rfl, M.ext⟩
    ·rw [if_neg h2]
     refine sD F (o_assign (F.e rfl) ?_);clear F a;intro a F
     with_reducible refine l_nil (q_then ?_)
     refine c_false F rfl rfl ?_
     refine c_seq (c_region ?_)
     refine sD F (o_fieldAddr (F.e rfl) ?_);clear F a;intro a F
     refine sD F (o_load1 M (F.e rfl) (by repeat constructor) (by first | assumption | rfl) ?_);clear F a;intro a F
     refine sD F (o_move (F.e rfl) ?_);clear F a;intro a F
     refine sD F (o_gtrF (F.e rfl) (F.e rfl) (by omega) ?_);clear F a;intro a F
     refine sD F (o_assign (F.e rfl) ?_);clear F a;intro a F
     with_reducible refine l_nil (q_then ?_)
     refine c_false F rfl rfl ?_
     with_reducible refine c_skip (q_inB (q_then (c_seq (c_region ?_))))
     refine sD F (o_build F rfl rfl ?_);clear F a;intro a F
     (refine stepN rfl F (o_storeA M (F.e rfl) (F.e rfl) (rfl) (rfl)  (by repeat constructor)  (rfl) (by repeat constructor) ?_);clear F M;intro w M a F)
     refine sD F (o_assign (F.e rfl) ?_);clear F a;intro a F
     with_reducible refine l_nil (q_then (c_ret ?_))
     exact p_ret F rfl (.cons (.cell (F.e rfl) (run_loadVar_agg TAgg.h (M.heap (by repeat constructor)) rfl)) (.cons (.tmp (F.e rfl)) .nil)) ⟨rfl, M.ext⟩
   ·rw [decide_eq_false h1] at F
    rw [if_pos h1]
    have wf : IsIn ⟨t, 0, ⟨o.own.seq, inf⟩, -1, laterV now 14⟩ := ⟨ht, trivial⟩
    have e18 := di_all (o := ⟨o.own.seq, inf⟩) trivial
    refine sD F (o_assign (F.e rfl) ?_);clear F a;intro a F
    with_reducible refine l_nil (q_then ?_)
    refine c_true F rfl rfl ?_
    refine c_seq (c_region ?_)
    refine sD F (o_fieldAddr (F.e rfl) ?_);clear F a;intro a F
    refine sD F (o_fieldAddr (F.e rfl) ?_);clear F a;intro a F
    refine sD F (o_load1 M (F.e rfl) (by repeat constructor) (by first | assumption | rfl) ?_);clear F a;intro a F
    refine sD F (o_build F rfl rfl ?_);clear F a;intro a F
    (refine sD F (o_alloc M ?_);clear F M;intro b18 w M a F)
    (refine stepN rfl F (o_storeA M (F.e rfl) (F.e rfl) (rfl) (rfl)  (by repeat constructor)  (rfl) (by repeat constructor) ?_);clear F M;intro w M a F)
    with_reducible refine l_nil (q_then (c_seq ?_))
    replace F := F.only [0, 7, 8, 12, 13, 14, 15, 18] rfl
    refine c_draw 5 F (by kernel_rfl) ?_
    intro w1 hE hok
    have M1 := M.later hE
    refine mK hok rfl rfl (fun a' w' F' E' => o_loadA (M1.later E') (F'.e rfl) (by repeat constructor) (by first | assumption | rfl) ⟨Ext.refl _ _, rfl⟩) ?_
    refine mK hok rfl rfl (fun a' w' F' E' => o_loadA (M1.later E') (F'.e rfl) (by repeat constructor) (by first | assumption | rfl) ⟨Ext.refl _ _, rfl⟩) ?_
    refine mK hok rfl rfl (fun a' w' F' E' => o_move (F'.e rfl) ⟨Ext.refl _ _, rfl⟩) ?_
    (refine mK hok rfl rfl (fun a' w' F' E' => o_call (F'.e rfl) (F'.evs rfl) (Cal.mono (rlater_c now 14 hnw.1 hnw.2 (by omega) (by omega) _) fun _ _ hh => ⟨hh.2, hh.1⟩)) ?_)
    skip
    (refine mK hok rfl rfl (fun a' w' F' E' => o_build F' rfl (in_buildH ht ⟨o.own.seq, inf⟩ (-1) (laterV now 14)) ⟨Ext.refl _ _, rfl⟩) ?_)
    (refine mDone rfl rfl ?_;clear F M;intro a w F hE2 hX hTT hDD hPP;have M := M1.later hE2;clear M1;clear hX;clear hE2;clear hok;clear hE;clear hTT;clear hDD;clear hPP;(try dsimp only at F))
    (refine stepN rfl F (o_storeA M (F.e rfl) (F.e rfl) (in_len wf) (in_one _)  (by repeat constructor)  (put_all (by rw [in_len wf];rfl)) (by repeat constructor) ?_);clear F M;intro w M a F)
    refine sD F (o_assign (F.e rfl) ?_);clear F a;intro a F
    with_reducible refine l_nil (q_then (c_ret (q_inBR (q_thenR ?_))))
    exact p_ret F rfl (.cons (.cell (F.e rfl) (run_loadVar_agg TAgg.h (M.heap (by repeat constructor)) (in_all wf))) (.cons (.tmp (F.e rfl)) .nil)) ⟨rfl, M.ext⟩
 rw [haft, if_pos h0]
 obtain ⟨z, hz⟩ : ∃ z, z = (getA c.nb said).getD di0 := ⟨_, rfl⟩
 have hz2 : (getA c.nb (mapQ said)).getD (diV di0) = .agg (diC z).toArray := by
  rw [hz]
  unfold mapQ
  rw [getA_map]
  cases getA c.nb said <;> rfl
 rw [← hz]
 have wf : IsIn ⟨t, c.nb, ⟨z.seq, c.cost⟩, c.btn, 0⟩ := ⟨ht, trivial⟩
 have e17 := di_all (o := ⟨z.seq, c.cost⟩) trivial
 refine sD F (o_assign (F.e rfl) ?_);clear F a;intro a F
 with_reducible refine l_nil (q_then (c_seq (c_seq (c_region ?_))))
 refine sD F (o_move (F.e rfl) ?_);clear F a;intro a F
 refine sD F (o_eqlT (F.e rfl) (F.e rfl) (by omega) ?_);clear F a;intro a F
 refine sD F (o_move (F.e rfl) ?_);clear F a;intro a F
 refine sG F (o_fieldAddr (F.e rfl) ?_);clear F a;intro a F
 refine sG F (o_load1 M (F.e rfl) (by repeat constructor) (by first | assumption | rfl) ?_);clear F a;intro a F
 refine sG F (o_neqT (F.e rfl) (F.e rfl) (by omega) ?_);clear F a;intro a F
 refine sD F (o_pickT (F.e rfl) (F.e rfl) ?_);clear F a;intro a F
 with_reducible refine l_nil (q_then ?_)
 refine c_true F rfl rfl ?_
 refine c_seq (c_region ?_)
 refine sD F (o_move (F.e rfl) ?_);clear F a;intro a F
 refine sD F (o_fieldAddr (F.e rfl) ?_);clear F a;intro a F
 refine sD F (o_load1 M (F.e rfl) (by repeat constructor) (by first | assumption | rfl) ?_);clear F a;intro a F
 (refine sD F (o_lookup1 keyE_law zero_dR (hM.later M.ext) (fun _ _ => trivial) trivial (F.e rfl) (F.e rfl) ?_);clear F a;intro a F)
 rw [hz2] at F
 refine sD F (o_field1 (F.e rfl) rfl ?_);clear F a;intro a F
 refine sD F (o_fieldAddr (F.e rfl) ?_);clear F a;intro a F
 refine sD F (o_load1 M (F.e rfl) (by repeat constructor) (by first | assumption | rfl) ?_);clear F a;intro a F
 refine sD F (o_build F rfl rfl ?_);clear F a;intro a F
 (refine sD F (o_alloc M ?_);clear F M;intro b17 w M a F)
 (refine stepN rfl F (o_storeA M (F.e rfl) (F.e rfl) (rfl) (rfl)  (by repeat constructor)  (rfl) (by repeat constructor) ?_);clear F M;intro w M a F)
 with_reducible refine l_nil (q_then (c_seq (c_region ?_)))
 refine sD F (o_loadA M (F.e rfl) (by repeat constructor) (by first | assumption | rfl) ?_);clear F a;intro a F
 refine sD F (o_fieldAddr (F.e rfl) ?_);clear F a;intro a F
 refine sD F (o_load1 M (F.e rfl) (by repeat constructor) (by first | assumption | rfl) ?_);clear F a;intro a F
 refine sD F (o_loadA M (F.e rfl) (by repeat constructor) (by first | assumption | rfl) ?_);clear F a;intro a F
 refine sD F (o_fieldAddr (F.e rfl) ?_);clear F a;intro a F
 refine sD F (o_load1 M (F.e rfl) (by repeat constructor) (by first | assumption | rfl) ?_);clear F a;intro a F
 (refine sD F (o_build F rfl (in_buildA ht c.nb ⟨z.seq, c.cost⟩ c.btn) ?_);clear F a;intro a F)
 (refine stepN rfl F (o_storeA M (F.e rfl) (F.e rfl) (in_len wf) (in_one _)  (by repeat constructor)  (put_all (by rw [in_len wf];rfl)) (by repeat constructor) ?_);clear F M;intro w M a F)
 refine sD F (o_assign (F.e rfl) ?_);clear F a;intro a F
 with_reducible refine l_nil (q_then (c_ret (q_thenR ?_)))
 exact p_ret F rfl (.cons (.cell (F.e rfl) (run_loadVar_agg TAgg.h (M.heap (by repeat constructor)) (in_all wf))) (.cons (.tmp (F.e rfl)) .nil)) ⟨rfl, M.ext⟩
end Go.Proofs.YtilgoepokaaleaaGreat
/-! ZE -/
namespace Go.Proofs.YtilgoepokaaleaaGreat
set_option linter.unusedVariables false
set_option linter.unusedSimpArgs false
open Go.RowKit
attribute [local irreducible] OpTo wpListIn Code.wpIn MW Cal
def findI {α : Type} (p : α → Bool) (ls : List α) : Int := match ls.findIdx? p with | some i => i | none => -1
theorem findI_at {α : Type} {p : α → Bool} {ls : List α} {i : Nat} (hi : i < ls.length) (h : p ls[i] = true) (hn : ∀ j (hj : j < i), p ls[j] = false) : findI p ls = i := by
 have : ls.findIdx? p = some i := List.findIdx?_eq_some_iff_getElem.2 ⟨hi, h, fun j hj => by simp [hn j hj]⟩
 simp [findI, this]
theorem findI_none {α : Type} {p : α → Bool} {ls : List α} (hn : ∀ j (hj : j < ls.length), p ls[j] = false) : findI p ls = -1 := by
 have : ls.findIdx? p = none := List.findIdx?_eq_none_iff.2 fun x hx => by
  obtain ⟨j, hj, rfl⟩ := List.mem_iff_getElem.1 hx
  exact hn j hj
 simp [findI, this]
theorem findI_cases {α : Type} (p : α → Bool) (ls : List α) : (findI p ls = -1 ∧ ∀ x ∈ ls, p x = false) ∨ (∃ i, ∃ hi : i < ls.length, findI p ls = i ∧ p ls[i] = true ∧ ∀ j (hj : j < i), p ls[j] = false) := by
 unfold findI
 cases h : ls.findIdx? p with
 | none => exact .inl ⟨rfl, fun x hx => List.findIdx?_eq_none_iff.1 h x hx⟩
 | some i =>
  obtain ⟨h1, h2, h3⟩ := List.findIdx?_eq_some_iff_getElem.1 h
  exact .inr ⟨i, h1, rfl, h2, fun j hj => by simpa using h3 j hj⟩
theorem findI_find {α : Type} {p : α → Bool} {ls : List α} : (findI p ls = -1 ∧ ls.find? p = none) ∨ ∃ i, ∃ hi : i < ls.length, findI p ls = (i : Nat) ∧ ls.find? p = some ls[i] := by
 rcases findI_cases p ls with ⟨h1, h2⟩ | ⟨i, hi, h1, h2, h3⟩
 ·exact .inl ⟨h1, List.find?_eq_none.2 fun x hx => by rw [h2 x hx];simp⟩
 ·refine .inr ⟨i, hi, h1, ?_⟩
  rw [List.find?_eq_some_iff_getElem]
  exact ⟨h2, i, hi, rfl, fun j hj => by rw [h3 j hj];rfl⟩
set_option maxHeartbeats 1000000 in
theorem indexI_c {v : Value} {ls : List InsV} (W : World) (hS : SlAt W 40 v ls.length (insC ls)) (hls : ∀ l ∈ ls, IsIn l) (hlen : ls.length ≤ 1000) (g : FuncId) [hg : TBody Tryz.prog g] (caps : List Value) (p : InsV → Bool)
  (hcl : ∀ w l, Ext [] W w → l ∈ ls → Cal Tryz.prog g (.agg (inC l).toArray :: caps).toArray w fun v w' => v = .bool (p l) ∧ Ext [] w w') :
  Cal Tryz.prog 109 [v, .func (.func g) #[] caps.toArray].toArray W fun x w' => x = .int .i64 (findI p ls) ∧ Ext [] W w' := by
 obtain ⟨q, cap, rfl, hcap, hsp, hl, hm⟩ := hS
 refine fn_ofM (n := 19) [] Tryz.func109 rfl rfl rfl ?_
 intro a w F M hwW
 refine c_seq (c_region ?_)
 refine sD F (o_assign (F.e rfl) ?_);clear F a;intro a F
 with_reducible refine l_nil (q_then (c_seq (c_seq (c_region ?_))))
 refine sD F (o_move (F.e rfl) ?_);clear F a;intro a F
 refine sD F (o_lenSl (F.e rfl) ?_);clear F a;intro a F
 refine sD F (o_move (F.e rfl) ?_);clear F a;intro a F
 with_reducible refine l_nil (q_then (c_block ?_))
 refine c_loop (fun k a w => ∃ i : Nat, k = ls.length - i ∧ i ≤ ls.length ∧ (∀ j (hj : j < i) (hj2 : j < ls.length), p ls[j] = false) ∧ Frm a 19 [] [(8, .int .i64 i), (7, .int .i64 ls.length), (0, .slice q ls.length cap), (1, .func (.func g) #[] caps.toArray)] ∧ Mem [] W w []) ls.length ⟨0, rfl, by omega, by omega, F.only [8, 7, 0, 1] rfl, M⟩ ?_
 clear F M
 rintro k a w ⟨i, hk, hi, hno, F, M⟩
 by_cases hlt : i < ls.length
 ·obtain ⟨b, o, cs, t, fz, rfl, hb, hs⟩ := hm (by omega)
  have e1 : seg cs (o + (i : Int).toNat * 40) 40 = some (inC ls[i]) := seg_el (ins_len hls) hs hlt (by omega)
  refine c_seq (c_region ?_)
  refine sD F (o_lssT (F.e rfl) (F.e rfl) (by omega) ?_);clear F a;intro a F
  with_reducible refine l_nil (q_then (c_seq ?_))
  refine c_true F rfl rfl ?_
  with_reducible refine c_skip (q_then (c_seq (c_block (c_seq (c_region ?_)))))
  refine sD F (o_move (F.e rfl) ?_);clear F a;intro a F
  refine sD F (o_assign (F.e rfl) ?_);clear F a;intro a F
  with_reducible refine l_nil (q_then (c_seq (c_region ?_)))
  refine sD F (o_move (F.e rfl) ?_);clear F a;intro a F
  refine sD F (o_move (F.e rfl) ?_);clear F a;intro a F
  refine sD F (o_move (F.e rfl) ?_);clear F a;intro a F
  refine sD F (o_indexSl (F.e rfl) (F.e rfl) (by omega) (by omega) ?_);clear F a;intro a F
  refine sD F (o_loadWA M (F.e rfl) ‹_› (by first | assumption | rfl) ?_);clear F a;intro a F
  (refine sD F (o_callCl (us := (.agg (inC ls[i]).toArray :: caps).toArray) (F.e rfl) (F.evs rfl) (by simp) (Cal.mono (hcl _ ls[i] M.ext (List.getElem_mem hlt)) ?_));clear F;clear a;rintro _ w ⟨rfl, hE⟩ a F;replace M := M.later hE;clear hE)
  cases hp : p ls[i]
  ·rw [hp] at F
   with_reducible refine l_nil (q_then ?_)
   refine c_false F rfl rfl ?_
   with_reducible refine c_skip (q_inB (q_then (c_region ?_)))
   refine sD F (o_add (F.e rfl) (F.e rfl) (w_i64 (by omega) (by omega)) ?_);clear F a;intro a F
   refine sD F (o_move (F.e rfl) ?_);clear F a;intro a F
   with_reducible refine l_nil (q_then ?_)
   exact ⟨_, by omega, i + 1, rfl, by omega, fun j hj hj2 => by
    rcases Nat.lt_or_ge j i with h | h
    ·exact hno j h hj2
    ·obtain rfl : j = i := by omega
     exact hp, F.only [8, 7, 0, 1] rfl, M⟩
  ·rw [hp] at F
   with_reducible refine l_nil (q_then ?_)
   refine c_true F rfl rfl ?_
   refine c_seq (c_region ?_)
   refine sD F (o_move (F.e rfl) ?_);clear F a;intro a F
   refine sD F (o_assign (F.e rfl) ?_);clear F a;intro a F
   with_reducible refine l_nil (q_then (c_ret (q_inBR (q_thenR (q_thenR (q_inBR (q_thenR ?_)))))))
   refine p_ret F rfl (.cons (.tmp (F.e rfl)) .nil) ?_
   exact ⟨by rw [findI_at hlt hp fun j hj => hno j hj (by omega)];rfl, M.ext⟩
 ·obtain rfl : i = ls.length := by omega
  refine c_seq (c_region ?_)
  refine sD F (o_lssF (F.e rfl) (F.e rfl) (by omega) ?_);clear F a;intro a F
  with_reducible refine l_nil (q_then (c_seq ?_))
  refine c_false F rfl rfl ?_
  with_reducible refine c_exit (q_thenX (q_thenX (q_inBX (q_then (c_seq (c_region ?_))))))
  refine sD F (o_assign (F.e rfl) ?_);clear F a;intro a F
  with_reducible refine l_nil (q_then (c_ret ?_))
  refine p_ret F rfl (.cons (.tmp (F.e rfl)) .nil) ?_
  exact ⟨by rw [findI_none fun j hj => hno j hj hj];rfl, M.ext⟩
theorem nearL_step {l : List InsV} {src dst : List Int} {i : Nat} (h : i < l.length) : nearL (l.take (i + 1)) src dst = nearS src dst (nearL (l.take i) src dst) l[i] := by
 unfold nearL
 rw [List.take_add_one, List.getElem?_eq_getElem h, List.foldl_append]
 rfl
theorem nearS_sub {src dst : List Int} {near : List InsV} {e : InsV} {p : InsV → Prop} (h : ∀ x ∈ near, p x) (he : p e) : ∀ x ∈ nearS src dst near e, p x := by
 unfold nearS
 split
 ·split
  ·simpa using he
  ·split
   ·simpa using he
   ·split
    ·intro x hx
     rcases List.mem_append.1 hx with h1 | h1
     ·exact h x h1
     ·simp at h1;rw [h1];exact he
    ·exact h
 ·exact h
theorem nearL_sub {src dst : List Int} {p : InsV → Prop} : ∀ {l : List InsV}, (∀ x ∈ l, p x) → ∀ x ∈ nearL l src dst, p x := by
 intro l h
 unfold nearL
 have key : ∀ (l near : List InsV), (∀ x ∈ l, p x) → (∀ x ∈ near, p x) → ∀ x ∈ l.foldl (nearS src dst) near, p x := by
  intro l
  induction l with
  | nil => intro near _ h;exact h
  | cons a l ih =>
   intro near h1 h2
   rw [List.foldl_cons]
   exact ih _ (fun x hx => h1 x (List.mem_cons_of_mem _ hx)) (nearS_sub h2 (h1 a (by simp)))
 exact key l [] h (by simp)
theorem nearS_len {src dst : List Int} {near : List InsV} {e : InsV} : (nearS src dst near e).length ≤ near.length + 1 := by
 unfold nearS
 split
 ·split
  ·simp
  ·split
   ·simp
   ·split <;> simp
 ·omega
theorem nearL_len {src dst : List Int} {l : List InsV} : (nearL l src dst).length ≤ l.length := by
 unfold nearL
 have key : ∀ (l near : List InsV), (l.foldl (nearS src dst) near).length ≤ near.length + l.length := by
  intro l
  induction l with
  | nil => intro near;simp
  | cons a l ih =>
   intro near
   rw [List.foldl_cons]
   have h1 := ih (nearS src dst near a)
   have h2 := nearS_len (src := src) (dst := dst) (near := near) (e := a)
   simp only [List.length_cons]
   omega
 simpa using key l []
theorem cheap_step {near : List InsV} {y : InsV} {i : Nat} (h : i < near.length) : cheap (near.take (i + 1)) y = if near[i].own.met < (cheap (near.take i) y).own.met then near[i] else cheap (near.take i) y := by
 unfold cheap
 rw [List.take_add_one, List.getElem?_eq_getElem h, List.foldl_append]
 rfl
theorem cheap_p {near : List InsV} {y : InsV} {p : InsV → Prop} (h : ∀ x ∈ near, p x) (hy : p y) : p (cheap near y) := by
 unfold cheap
 induction near generalizing y with
 | nil => exact hy
 | cons a l ih =>
  rw [List.foldl_cons]
  refine ih (fun x hx => h x (List.mem_cons_of_mem _ hx)) ?_
  split
  ·exact h a (by simp)
  ·exact hy
theorem eq_pfD {a b : List Int} {n m : Int} (h : a.length = b.length) : eqVs (pfC a n) (pfC b m) = (decide (a = b) && decide (n = m)) := by
 rw [eqVs_pf h]
 by_cases h1 : a = b <;> by_cases h2 : n = m <;> simp [h1, h2]
end Go.Proofs.YtilgoepokaaleaaGreat
/-! ZC -/
namespace Go.Proofs.YtilgoepokaaleaaGreat
set_option linter.unusedVariables false
set_option linter.unusedSimpArgs false
open Go.RowKit
section
variable {now : Int} {s : List SrcV} {cm : List (Int × Int)} {t : DstV} {l : List RouV}
theorem toR_take {r : Nat} (h : r < l.length) (he : l[r].to = t) : (l.take (r + 1)).filter (fun r => decide (r.to = t)) = (l.take r).filter (fun r => decide (r.to = t)) ++ [l[r]] := by
 rw [List.take_add_one, List.getElem?_eq_getElem h, List.filter_append]
 simp [he]
theorem optsV_step {r : Nat} (h : r < l.length) (he : l[r].to = t) : optsV now s cm t (l.take (r + 1)) = optsV now s cm t (l.take r) ++ (optV now s cm t l[r]).toList := by
 unfold optsV
 rw [toR_take h he, List.filterMap_append]
 cases ho : optV now s cm t l[r] <;> simp [List.filterMap_cons, ho]
theorem saidV_step {r : Nat} (h : r < l.length) (he : l[r].to = t) : saidV now s cm t (l.take (r + 1)) = if (optV now s cm t l[r]).isSome then putA l[r].nb l[r].said (saidV now s cm t (l.take r)) else saidV now s cm t (l.take r) := by
 unfold saidV
 rw [toR_take h he, List.filter_append, List.foldl_append]
 cases ho : (optV now s cm t l[r]).isSome <;> simp [List.filter_cons, ho]
theorem toR_none {r : Nat} (h : ∀ j (hj : j < l.length), r ≤ j → l[j].to ≠ t) : l.filter (fun r => decide (r.to = t)) = (l.take r).filter (fun r => decide (r.to = t)) := by
 have h2 : (l.drop r).filter (fun r => decide (r.to = t)) = [] := filter_no fun a ha => by
  obtain ⟨j, hj, rfl⟩ := List.mem_iff_getElem.1 ha
  rw [List.length_drop] at hj
  rw [List.getElem_drop]
  exact decide_eq_false (h (r + j) (by omega) (by omega))
 conv => lhs;rw [← List.take_append_drop r l]
 rw [List.filter_append, h2, List.append_nil]
theorem toR_nil {r : Nat} (h : ∀ j (hj : j < l.length), j < r → l[j].to ≠ t) : (l.take r).filter (fun r => decide (r.to = t)) = [] := filter_no fun a ha => by
 obtain ⟨j, hj, rfl⟩ := List.mem_iff_getElem.1 ha
 rw [List.length_take] at hj
 rw [List.getElem_take]
 exact decide_eq_false (h j (by omega) (by omega))
theorem optsV_all {r : Nat} (h : ∀ j (hj : j < l.length), r ≤ j → l[j].to ≠ t) : optsV now s cm t l = optsV now s cm t (l.take r) := by
 unfold optsV;rw [toR_none h]
theorem saidV_all {r : Nat} (h : ∀ j (hj : j < l.length), r ≤ j → l[j].to ≠ t) : saidV now s cm t l = saidV now s cm t (l.take r) := by
 unfold saidV;rw [toR_none h]
theorem optsV_nil {r : Nat} (h : ∀ j (hj : j < l.length), j < r → l[j].to ≠ t) : optsV now s cm t (l.take r) = [] := by
 unfold optsV;rw [toR_nil h];rfl
theorem saidV_nil {r : Nat} (h : ∀ j (hj : j < l.length), j < r → l[j].to ≠ t) : saidV now s cm t (l.take r) = [] := by
 unfold saidV;rw [toR_nil h];rfl
end
/-- from r on, a list's destinations are still to come;before, they are gone -/
structure Yet {α : Type} (to : α → DstV) (l : List α) (ds : List DstV) (r : Nat) : Prop where
 le : r ≤ l.length
 gone : ∀ j (hj : j < l.length), j < r → to l[j] ∉ ds
 yet : ∀ j (hj : j < l.length), r ≤ j → to l[j] ∈ ds
/-- the destinations do not fall -/
abbrev Weak {α : Type} (to : α → DstV) (l : List α) : Prop := l.Pairwise fun a b => ¬ cmpD (to b) (to a) < 0
theorem Yet.next {α : Type} {to : α → DstV} {l : List α} {t : DstV} {ds : List DstV} {r r1 : Nat} (hW : Weak to l) (hd : AscD (t :: ds)) (hi : ∀ x ∈ t :: ds, IsDv x) (h : Yet to l (t :: ds) r) (hr : r ≤ r1) (hle : r1 ≤ l.length) (he : ∀ j (hj : j < l.length), r ≤ j → j < r1 → to l[j] = t) (hn : ∀ hj : r1 < l.length, to l[r1] ≠ t) : Yet to l ds r1 ∧ ∀ j (hj : j < l.length), r1 ≤ j → to l[j] ≠ t := by
 have hd1 := List.pairwise_cons.1 hd
 have htn : t ∉ ds := fun h => by have := hd1.1 t h;rw [cmpD_self] at this;omega
 have key : ∀ j (hj : j < l.length), r1 ≤ j → to l[j] ≠ t := by
  intro j hj h1 e
  have hr1 : r1 < l.length := by omega
  have h2 := h.yet r1 hr1 hr
  have h3 : cmpD t (to l[r1]) < 0 := by
   rcases List.mem_cons.1 h2 with h4 | h4
   ·exact absurd h4 (hn hr1)
   ·exact hd1.1 _ h4
  rcases Nat.lt_or_ge r1 j with h5 | h5
  ·have := (List.pairwise_iff_getElem.1 hW) r1 j hr1 hj h5
   rw [e] at this
   exact this h3
  ·obtain rfl : j = r1 := by omega
   exact hn hj e
 refine ⟨⟨hle, fun j hj h1 h2 => ?_, fun j hj h1 => ?_⟩, key⟩
 ·rcases Nat.lt_or_ge j r with h3 | h3
  ·exact h.gone j hj h3 (List.mem_cons_of_mem _ h2)
  ·rw [he j hj h3 h1] at h2
   exact htn h2
 ·rcases List.mem_cons.1 (h.yet j hj (by omega)) with h2 | h2
  ·exact absurd h2 (key j hj h1)
  ·exact h2
theorem Yet.before {α : Type} {to : α → DstV} {l : List α} {t : DstV} {ds : List DstV} {r : Nat} (h : Yet to l (t :: ds) r) : ∀ j (hj : j < l.length), j < r → to l[j] ≠ t := fun j hj h1 e => h.gone j hj h1 (by rw [e];simp)
theorem weak_R {l : List RouV} (hi : ∀ x ∈ l, IsRo x) (h : AscC cmpR l) : Weak RouV.to l := by
 refine List.Pairwise.imp_of_mem ?_ h
 intro a b ha hb h1 h2
 rw [cmpR_or (hi a ha).1 (hi b hb).1, orI] at h1
 have h3 := cmpD_anti a.to b.to
 split at h1
 ·omega
 ·omega
theorem weak_N {l : List InsV} (h : AscC cmpN l) : Weak InsV.to l := by
 refine h.imp ?_
 intro a b h1 h2
 have h3 := cmpD_anti a.to b.to
 unfold cmpN at h1
 omega
theorem oldV_at {old : List InsV} {t : DstV} {i : Nat} (h : i < old.length) (he : old[i].to = t) (hb : ∀ j (hj : j < old.length), j < i → old[j].to ≠ t) : oldV old t = some old[i] :=
 find_at h (decide_eq_true he) fun j hj h1 => decide_eq_false (hb j hj h1)
theorem oldV_no {old : List InsV} {t : DstV} (hb : ∀ j (hj : j < old.length), old[j].to ≠ t) : oldV old t = none := find_no fun j hj => decide_eq_false (hb j hj)
theorem costM_step {l : List OptV} {i : Nat} (h : i < l.length) : costM (l.take (i + 1)) = putA l[i].nb (lkC l[i].cost) (costM (l.take i)) := by
 unfold costM
 rw [List.take_add_one, List.getElem?_eq_getElem h, List.foldl_append]
 rfl
theorem costM_mem {l : List OptV} {x c : Int} (h : getA x (costM l) = some c) : ∃ o ∈ l, o.nb = x ∧ c = lkC o.cost := by
 have key : ∀ (l : List OptV) (m : List (Int × Int)), getA x (l.foldl (fun m o => putA o.nb (lkC o.cost) m) m) = some c → (∃ o ∈ l, o.nb = x ∧ c = lkC o.cost) ∨ getA x m = some c := by
  intro l
  induction l with
  | nil => intro m h;exact .inr h
  | cons o l ih =>
   intro m h
   rw [List.foldl_cons] at h
   rcases ih _ h with ⟨o', h1, h2⟩ | h1
   ·exact .inl ⟨o', List.mem_cons_of_mem _ h1, h2⟩
   ·rw [getA_put] at h1
    split at h1
    ·rename_i e
     exact .inl ⟨o, by simp, e.symm, by cases h1;rfl⟩
    ·exact .inr h1
 rcases key l [] h with h | h
 ·exact h
 ·simp [getA] at h
theorem nodup_le : ∀ {xs ys : List Int}, xs.Nodup → (∀ x ∈ xs, x ∈ ys) → xs.length ≤ ys.length
 | [], _, _, _ => by simp
 | x :: xs, ys, hn, hs => by
  have h1 := List.nodup_cons.1 hn
  have hx := hs x (by simp)
  have h2 : xs.length ≤ (ys.erase x).length := nodup_le h1.2 fun y hy => (List.mem_erase_of_ne (fun e => h1.1 (by rw [← e];exact hy))).2 (hs y (List.mem_cons_of_mem _ hy))
  rw [List.length_erase_of_mem hx] at h2
  have : 0 < ys.length := List.length_pos_of_mem hx
  simp only [List.length_cons]
  omega
theorem addM_valid (a b : Int) : validM (addM a b) = true := by
 unfold addM
 split
 ·rename_i h
  unfold validM at h ⊢
  simp only [Bool.and_eq_true, decide_eq_true_eq] at h
  unfold inf
  simp only [Bool.and_eq_true, decide_eq_true_eq]
  omega
 ·rfl
theorem optV_some {now : Int} {s : List SrcV} {cm : List (Int × Int)} {t : DstV} {r : RouV} {o : OptV} (h : optV now s cm t r = some o) : o.nb = r.nb ∧ ∃ c, getA r.nb cm = some c ∧ o.cost = addM r.said.met c := by
 unfold optV at h
 cases hc : getA r.nb cm with
 | none => rw [hc] at h;cases h
 | some c =>
  rw [hc] at h
  dsimp only at h
  split at h
  ·cases h
  ·cases h
   exact ⟨rfl, c, rfl, rfl⟩
theorem opts_valid {now : Int} {s : List SrcV} {links : List OptV} {t : DstV} {l : List RouV} (hi : ∀ x ∈ l, IsRo x) (hl : validRs l = true) (hk : links.length ≤ 16) : validOs (optsV now s (costM links) t l) = true := by
 obtain ⟨_, h2, h3⟩ := validRs_iff.1 hl
 have hasc : AscC cmpO (optsV now s (costM links) t l) := by
  unfold optsV
  refine List.Pairwise.filterMap _ ?_ ((List.Pairwise.filter (fun r => decide (r.to = t)) (List.Pairwise.imp_of_mem (S := fun a b => a.to = t → b.to = t → a.nb < b.nb) ?_ h3)).imp_of_mem (S := fun a b => a.nb < b.nb) ?_)
  ·intro a a' h b hb b' hb'
   have e1 := (optV_some hb).1
   have e2 := (optV_some hb').1
   unfold cmpO
   rw [cmpI_lt, e1, e2]
   exact h
  ·intro a b ha hb h1 ea eb
   rw [cmpR_or (hi a ha).1 (hi b hb).1, ea, eb, cmpD_self, orI, if_pos rfl, cmpI_lt] at h1
   exact h1
  ·intro a b ha hb h1
   exact h1 (of_decide_eq_true (List.mem_filter.1 ha).2) (of_decide_eq_true (List.mem_filter.1 hb).2)
 refine validOs_iff.2 ⟨?_, fun o ho => ?_, hasc⟩
 ·have h4 : ((optsV now s (costM links) t l).map (·.nb)).Nodup := by
   rw [List.Nodup, List.pairwise_map]
   refine hasc.imp ?_
   intro a b h e
   unfold cmpO at h
   rw [cmpI_lt] at h
   omega
  have h5 := nodup_le (ys := links.map (·.nb)) h4 fun x hx => by
   obtain ⟨o, ho, rfl⟩ := List.mem_map.1 hx
   obtain ⟨r, _, hr⟩ := List.mem_filterMap.1 ho
   obtain ⟨e1, c, hc, _⟩ := optV_some hr
   obtain ⟨k, hk1, hk2, _⟩ := costM_mem hc
   rw [e1, ← hk2]
   exact List.mem_map_of_mem hk1
  simp only [List.length_map] at h5
  omega
 ·obtain ⟨r, hr1, hr⟩ := List.mem_filterMap.1 ho
  obtain ⟨e1, c, hc, e2⟩ := optV_some hr
  have h6 := h2 r (List.mem_filter.1 hr1).1
  simp only [rou1, Bool.and_eq_true] at h6
  unfold opt1
  rw [e1, e2, addM_valid, h6.1.1.2]
  rfl
end Go.Proofs.YtilgoepokaaleaaGreat

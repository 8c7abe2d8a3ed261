/-
  Texts joined.
-/
import Derived.Test.YtfhkmgcalcfibaaGreatSta5
set_option linter.unusedVariables false
set_option linter.unusedSimpArgs false
set_option maxHeartbeats 64000000
namespace Go.Proofs.YtfhkmgcalcfibaaGreat
open Go.RowKit
attribute [local irreducible] OpTo wpListIn Code.wpIn MW Cal
theorem sub_time {now n : Int} (h : 0 ≤ now ∧ now ≤ 1099511627776) (hn : 0 ≤ n ∧ n < 40) : isTime (if 0 < now - n then now - n else 0) = true := by
 unfold isTime
 simp only [Bool.and_eq_true, decide_eq_true_eq]
 split <;> omega
structure AjI (sf j : Int) (l : List AdjV) : Prop where
 e : ∀ a ∈ l, adj1 sf a = true
 n : ∀ a ∈ l, a.nb < j
 a : AscC cmpAj l
theorem AjI.nil {sf j : Int} : AjI sf j [] := ⟨fun y hy => (List.not_mem_nil hy).elim, fun y hy => (List.not_mem_nil hy).elim, List.Pairwise.nil⟩
theorem AjI.skip {sf j : Int} {l : List AdjV} (h : AjI sf j l) : AjI sf (j + 1) l := ⟨h.e, fun a ha => by have := h.n a ha;omega, h.a⟩
theorem AjI.add {sf j : Int} {l : List AdjV} {o : QuaV} {ta tb : Int} (h : AjI sf j l) (ho : KnQu o) (hta : isTime ta = true) (htb : isTime tb = true) (hs : ¬ j = sf) (hj : 1 ≤ j) : AjI sf (j + 1) (l ++ [⟨j, o, ta, tb⟩]) := by
 refine ⟨app_is h.e ?_, app_is (fun a ha => by have := h.n a ha;omega) (by dsimp only;omega), List.pairwise_append.2 ⟨h.a, List.pairwise_singleton _ _, fun a ha b hb => ?_⟩⟩
 ·unfold adj1
  dsimp only
  rw [dqF hs, dqF (show ¬ j = 0 by omega), ho.v, ho.k, hta, htb]
  rfl
 ·rw [List.mem_singleton.1 hb]
  have := h.n a ha
  show a.nb - j < 0
  omega
theorem AjI.valid {sf j : Int} {l : List AdjV} (h : AjI sf j l) (hl : l.length ≤ 16) : validAjs sf l = true := (vldL_iff (fun a b c h k => by unfold cmpAj at *;omega)).2 ⟨hl, h.e, h.a⟩
theorem vRs_sub {l o : List RouV} (h : validRs l = true) (hs : o.Sublist l) : validRs o = true := by
 obtain ⟨a, b, c⟩ := validRs_iff.1 h
 exact validRs_iff.2 ⟨Nat.le_trans hs.length_le a, fun x hx => b x (hs.subset hx), List.Pairwise.sublist hs c⟩
theorem vIs_sub {l o : List InsV} (h : validIs l = true) (hs : o.Sublist l) : validIs o = true := by
 obtain ⟨a, b, c⟩ := validIs_iff.1 h
 exact validIs_iff.2 ⟨Nat.le_trans hs.length_le a, fun x hx => b x (hs.subset hx), List.Pairwise.sublist hs c⟩
theorem rtV_mk {s : RtV} (h0 : ¬ s.self = 0) (h1 : isTime s.raised = true) (h2 : isTime s.quiet = true) (h3 : isTime s.nextH = true) (h4 : validOgs s.self s.og = true) (h5 : validAjs s.self s.aj = true) (h6 : validSs s.sr = true) (h7 : validRs s.ro = true) (h8 : validIs s.ins = true) (h9 : validRqs s.rq = true) (h10 : validAs s.av = true) (h11 : isTime s.full = true) (h12 : ∀ x ∈ s.ro, ¬ x.to.rt = s.self) (h13 : ∀ x ∈ s.ins, ¬ x.to.rt = s.self) : rtValid s = true := by
 unfold rtValid
 rw [dqF h0, h1, h2, h3, h4, h5, h6, h7, h8, h9, h10, h11]
 simp only [Bool.not_false, Bool.true_and, Bool.and_true, Bool.and_eq_true, Bool.not_eq_true', List.any_eq_false, decide_eq_true_eq]
 exact ⟨h12, h13⟩
def PhRgB (p : Option Addr) (len cap bt : Nat) (r : Value) (W w' : World) : Prop := ∃ (s : RtV) (x : RtX) (e : RtE) (k' : Nat), r = .agg (rtC s x).toArray ∧ IsRt s ∧ RtSm s ∧ rtValid s = true ∧ RtA s x e ∧ Mem [bt] W w' ((bt, tobj p len cap k') :: e.row.flatten)
theorem routerB_c {bt : Nat} {p : Option Addr} {len cap k : Nat} {xs : List Int} (now : Int) (hnow : 0 ≤ now ∧ now ≤ 1099511627776) (W : World) (hT : TapeS W bt p len xs) (hb : W.heap[bt]? = some (tobj p len cap k)) : Cal Tryz.prog 21 [.pointer (some ⟨bt, 0, none⟩), .int .i64 now].toArray W fun r w' => PhRgB p len cap bt r W w' := by
 refine g_startB (n := 140) [bt] hb (by simp) fldT_ok slcT_ok Tryz.func21 rfl rfl rfl (gR 2 rfl (g_alloc fun b4 => gR 5 rfl ?_))
 refine g_callT (ι := Int × Nat) 1 (fun j => .int .u64 j.1) (fun j => 1 ≤ j.1 ∧ j.1 ≤ 5) (fun j => tobj p len cap j.2) (fun _ => []) rfl rfl rfl (fun w M => Cal.mono (euiB_c w (hT.later M.ext) (M.at_ _ (nthO_mem (i := 1) rfl))) fun r w' h => by
   obtain ⟨x, k', q, h1, N⟩ := h
   exact ⟨(x, k'), q, h1, by simpa using N⟩) (fun _ => rfl) ?_
 rintro ⟨self, k1⟩ slv
 dsimp only [List.nil_append, List.cons_append] at slv ⊢
 refine gR 7 rfl ?_
 refine g_callT (ι := Int × Nat) 1 (fun j => .int .u16 j.1) (fun j => True) (fun j => tobj p len cap j.2) (fun _ => []) rfl rfl rfl (fun w M => Cal.mono (seqE_c w (hT.later M.ext) (M.at_ _ (nthO_mem (i := 1) rfl))) fun r w' h => by
   obtain ⟨x, k', q, N⟩ := h
   exact ⟨(x, k'), q, trivial, by simpa using N⟩) (fun _ => rfl) ?_
 rintro ⟨sq, k2⟩ -
 dsimp only [List.nil_append, List.cons_append]
 refine gR 2 rfl ?_
 refine g_callT (ι := Int × Nat) 1 (fun j => .int .i64 j.1) (fun j => isTime j.1 = true) (fun j => tobj p len cap j.2) (fun _ => []) rfl rfl rfl (fun w M => Cal.mono (wtimeE_c now hnow.1 hnow.2 w (hT.later M.ext) (M.at_ _ (nthO_mem (i := 1) rfl))) fun r w' h => by
   obtain ⟨x, k', q, h1, N⟩ := h
   exact ⟨(x, k'), q, h1, by simpa using N⟩) (fun _ => rfl) ?_
 rintro ⟨t1, k3⟩ tv1
 dsimp only [List.nil_append, List.cons_append] at tv1 ⊢
 have n40 := nxV_bd xs k3 (n := 40) (by omega)
 refine gR 2 rfl (g_callT1 1 rfl rfl rfl (fun w M => next_c _ (by omega) (by omega) w (hT.later M.ext) (M.at_ _ (nthO_mem (i := 1) rfl))) rfl (g_sub rfl rfl (w_i64 (by omega) (by omega)) (g_v (fun a w F M R r => o_max (F.e rfl) (F.e rfl) r) (gR 1 rfl ?_))))
 refine g_callT (ι := Int × Nat) 1 (fun j => .int .u16 j.1) (fun j => True) (fun j => tobj p len cap j.2) (fun _ => []) rfl rfl rfl (fun w M => Cal.mono (seqE_c w (hT.later M.ext) (M.at_ _ (nthO_mem (i := 1) rfl))) fun r w' h => by
   obtain ⟨x, k', q, N⟩ := h
   exact ⟨(x, k'), q, trivial, by simpa using N⟩) (fun _ => rfl) ?_
 rintro ⟨hl, k4⟩ -
 dsimp only [List.nil_append, List.cons_append]
 refine gR 2 rfl ?_
 refine g_callT (ι := Int × Nat) 1 (fun j => .int .i64 j.1) (fun j => isTime j.1 = true) (fun j => tobj p len cap j.2) (fun _ => []) rfl rfl rfl (fun w M => Cal.mono (wtimeE_c now hnow.1 hnow.2 w (hT.later M.ext) (M.at_ _ (nthO_mem (i := 1) rfl))) fun r w' h => by
   obtain ⟨x, k', q, h1, N⟩ := h
   exact ⟨(x, k'), q, h1, by simpa using N⟩) (fun _ => rfl) ?_
 rintro ⟨t2, k5⟩ tv2
 dsimp only [List.nil_append, List.cons_append] at tv2 ⊢
 refine gR 3 rfl ?_
 refine g_callT (ι := List OrgV × Value × Nat × List (Nat × Obj)) 1 (fun j => j.2.1) (fun j => OwnS 85 34 j.2.1 j.1.length (ogsC j.1) j.2.2.2 ∧ (∀ y ∈ j.1, IsOg y) ∧ validOgs self j.1 = true) (fun j => tobj p len cap j.2.2.1) (fun j => [j.2.2.2]) rfl rfl rfl (fun w M => Cal.mono (originsB_c self now w (hT.later M.ext) (M.at_ _ (nthO_mem (i := 1) rfl))) fun r w' h => by
  obtain ⟨m, k', ent, h1, h2, h3, N⟩ := h
  exact ⟨(m, r, k', ent), rfl, ⟨h1, h2, h3⟩, by simpa using N⟩) (fun _ => rfl) ?_
 rintro ⟨mo, uo, k6, e6⟩ ⟨o6, i6, s6⟩
 dsimp only [List.nil_append, List.cons_append] at o6 i6 s6 ⊢
 have l6 := (validOgs_iff.1 s6).1
 obtain ⟨r6, d6, rfl, -⟩ := own_q o6
 refine g_v (fun a w F M R r => o_build F rfl rfl r) (g_alloc fun b6 => ?_)
 refine g_stA 0 rfl rfl rfl rfl rfl rfl rfl ?_
 refine gR 3 rfl ?_
 have q0v := sub_time hnow n40
 generalize (if 0 < now - nxV xs k3 40 then now - nxV xs k3 40 else 0) = q0 at q0v ⊢
 refine g_cutC (ι := Int × Nat) ⟨fun (q, k) => isTime q = true, fun (q, k) => [(5, .int .u64 self), (6, .pointer (some ⟨b6, 0, none⟩)), (0, .pointer (some ⟨bt, 0, none⟩)), (1, .int .i64 now), (4, .pointer (some ⟨b4, 0, none⟩))], fun (q, k) => [[(b6, Obj.cells (rtC (⟨self, sq, t1, q, hl, t2, 0, [], [], [], [], [], [], []⟩ : RtV) ⟨.slice r6 mo.length d6, .slice none 0 0, .slice none 0 0, .slice none 0 0, .slice none 0 0, .slice none 0 0, .slice none 0 0⟩).toArray 53 (0, 0))], e6, [(b4, Obj.cells (rtC rt0 rx0).toArray 53 (0, 0))], [(bt, tobj p len cap k)]]⟩ ?_ ?_
 ·refine gR 3 rfl ?_
  refine g_callT1 3 rfl rfl rfl (fun w M => bool_c _ (by omega) (by omega) w (hT.later M.ext) (M.at_ _ (nthO_mem (i := 3) rfl))) rfl (gR 2 rfl (g_if rfl (fun h1 => ?_) (fun h1 => ?_)))
  focus
   replace h1 := dqU h1
   refine gR 3 rfl ?_
  rotate_left 1
  focus
   replace h1 := dqV h1
   exact gR 1 rfl (g_join (q0, nxK xs k6) q0v (fun a F => F.only [5, 6, 0, 1, 4] rfl) (by (try dsimp only);repeat (first | exact .refl _ | with_reducible exact sC0 _ | with_reducible apply sC2 | apply sC1)))
  refine g_callT (ι := Int × Nat) 3 (fun j => .int .i64 j.1) (fun j => isTime j.1 = true) (fun j => tobj p len cap j.2) (fun _ => []) rfl rfl rfl (fun w M => Cal.mono (wtimeE_c now hnow.1 hnow.2 w (hT.later M.ext) (M.at_ _ (nthO_mem (i := 3) rfl))) fun r w' h => by
    obtain ⟨x, k', q, h1, N⟩ := h
    exact ⟨(x, k'), q, h1, by simpa using N⟩) (fun _ => rfl) ?_
  rintro ⟨t3, k7⟩ tv3
  dsimp only [List.nil_append, List.cons_append] at tv3 ⊢
  exact gR 1 rfl (g_st1 0 rfl rfl rfl rfl rfl rfl (gR 1 rfl (g_join (t3, k7) tv3 (fun a F => F.only [5, 6, 0, 1, 4] rfl) (by (try dsimp only);repeat (first | exact .refl _ | with_reducible exact sC0 _ | with_reducible apply sC2 | apply sC1)))))
 rintro ⟨q, k7⟩ qv
 dsimp only at qv ⊢
 refine gR 8 rfl (g_pad ?_)
 refine g_loop (ι := Int × (List AdjV) × Value × (List (Nat × Obj)) × Nat) ⟨fun (j, aj, u, e7, k) => (6 - j).toNat, fun (j, aj, u, e7, k) => 1 ≤ j ∧ j ≤ 6 ∧ OwnS 124 8 u aj.length (ajsC aj) e7 ∧ (∀ y ∈ aj, BdQu y.q) ∧ AjI self j aj ∧ (aj.length : Int) ≤ j - 1, fun (j, aj, u, e7, k) => [(7, .int .u64 j), (5, .int .u64 self), (6, .pointer (some ⟨b6, 0, none⟩)), (0, .pointer (some ⟨bt, 0, none⟩)), (1, .int .i64 now), (4, .pointer (some ⟨b4, 0, none⟩))], fun (j, aj, u, e7, k) => [e7, [(b6, Obj.cells (rtC (⟨self, sq, t1, q, hl, t2, 0, [], [], [], [], [], [], []⟩ : RtV) ⟨.slice r6 mo.length d6, u, .slice none 0 0, .slice none 0 0, .slice none 0 0, .slice none 0 0, .slice none 0 0⟩).toArray 53 (0, 0))], e6, [(b4, Obj.cells (rtC rt0 rx0).toArray 53 (0, 0))], [(bt, tobj p len cap k)]]⟩ (1, [], _, [], k7) ⟨by first | omega | (dsimp only;omega), by first | omega | (dsimp only;omega), OwnS.nilL _ _ _, fun y hy => (List.not_mem_nil hy).elim, AjI.nil, by simp⟩ (fun a F => F.only [7, 5, 6, 0, 1, 4] rfl) (by repeat (first | exact .refl _ | apply sC2 | apply sC1)) ?_
 rintro ⟨j, aj, u7, e7, k⟩ ⟨hj1, hj6, o7, iq, ja, l7⟩
 dsimp only at hj1 hj6 o7 iq ja l7 ⊢
 obtain ⟨r7, d7, rfl, -⟩ := own_q o7
 by_cases hlt : j ≤ 5
 ·by_cases hs : j = self
  ·have hst : (!decide (j = self)) = false := by simp [hs]
   refine gR 7 rfl (g_ifT rfl (dqT (by omega)) (gR 10 rfl (g_know 48 rfl (bneF (by omega)) (gR 12 rfl (g_add rfl rfl (w_u64 (by omega) (by omega)) (gR 2 rfl ?_))))))
   exact g_next (j + 1, aj, _, _, _) ⟨by dsimp only;omega, by dsimp only;omega, by assumption, iq, ja.skip, by simp;omega⟩ (by dsimp only;omega) (fun a F => F.only [7, 5, 6, 0, 1, 4] rfl) (by (try dsimp only);repeat (first | exact .refl _ | with_reducible exact sC0 _ | with_reducible apply sC2 | apply sC1))
  ·have hst : (!decide (j = self)) = true := by simp [hs]
   refine gR 7 rfl (g_ifT rfl (dqT (by omega)) (gR 10 rfl (g_know 48 rfl (bne_iff_ne.2 (by omega)) (gR 1 rfl (g_callT1 4 rfl rfl rfl (fun w M => bool_c _ (by omega) (by omega) w (hT.later M.ext) (M.at_ _ (nthO_mem (i := 4) rfl))) rfl (gR 4 rfl (g_if rfl (fun h1 => ?_) (fun h1 => ?_))))))))
   focus
    replace h1 := ne_of_bne h1
   rotate_left 1
   focus
    replace h1 := eq_of_bne_false h1
    refine gR 5 rfl (g_add rfl rfl (w_u64 (by omega) (by omega)) (gR 2 rfl ?_))
    exact g_next (j + 1, aj, _, _, _) ⟨by dsimp only;omega, by dsimp only;omega, by assumption, iq, ja.skip, by simp;omega⟩ (by dsimp only;omega) (fun a F => F.only [7, 5, 6, 0, 1, 4] rfl) (by (try dsimp only);repeat (first | exact .refl _ | with_reducible exact sC0 _ | with_reducible apply sC2 | apply sC1))
   have l7b : aj.length ≤ 5 := by omega
   refine gR 1 rfl (g_drawE 14 140 (bt :: e7.map (·.1)) [4, 7, 10, 11, 12, 13] [] [[(bt, tobj p len cap (nxK xs k))], e7] [[(b6, Obj.cells (rtC (⟨self, sq, t1, q, hl, t2, 0, [], [], [], [], [], [], []⟩ : RtV) ⟨.slice r6 mo.length d6, .slice r7 aj.length d7, .slice none 0 0, .slice none 0 0, .slice none 0 0, .slice none 0 0, .slice none 0 0⟩).toArray 53 (0, 0))], e6, [(b4, Obj.cells (rtC rt0 rx0).toArray 53 (0, 0))]] rfl (by kernel_rfl) rows_rp (by simp) (fe_start ?_))
   refine fe_run 60 rfl (fe_v (fun a2 w F M R r => o_loadH1 (F.e rfl) (M.at_ _ (nthO_mem (i := 0) rfl)) rfl r) (fe_run 60 rfl (fe_op (κ := QuaV × Nat) (fun _ j => .agg (quC j.1).toArray) (fun _ j => KnQu j.1) (fun _ j => [e7, [(b6, Obj.cells (rtC (⟨self, sq, t1, q, hl, t2, 0, [], [], [], [], [], [], []⟩ : RtV) ⟨.slice r6 mo.length d6, .slice r7 aj.length d7, .slice none 0 0, .slice none 0 0, .slice none 0 0, .slice none 0 0, .slice none 0 0⟩).toArray 53 (0, 0))], e6, [(b4, Obj.cells (rtC rt0 rx0).toArray 53 (0, 0))], [(bt, tobj p len cap j.2)]]) [] .any (fun i hi => ?_) (fun _ _ _ _ => trivial) ?_)))
   ·exact opf_callT 4 (fun j : QuaV × Nat => .agg (quC j.1).toArray) (fun j => KnQu j.1) (fun j => tobj p len cap j.2) (fun _ => []) rfl rfl rfl (.head _) (fun w M => Cal.mono (wqualityB_c w (hT.later M.ext) (M.at_ _ (nthO_mem (i := 4) rfl))) fun r w' h => by
     obtain ⟨o, k', ho, qq, N⟩ := h
     exact ⟨(o, k'), qq, ho, by simpa using N⟩) (fun _ => rfl)
   refine fe_run 60 rfl (fe_op (κ := Int × Nat) (fun _ j => .int .i64 j.1) (fun _ j => isTime j.1 = true) (fun _ j => [e7, [(b6, Obj.cells (rtC (⟨self, sq, t1, q, hl, t2, 0, [], [], [], [], [], [], []⟩ : RtV) ⟨.slice r6 mo.length d6, .slice r7 aj.length d7, .slice none 0 0, .slice none 0 0, .slice none 0 0, .slice none 0 0, .slice none 0 0⟩).toArray 53 (0, 0))], e6, [(b4, Obj.cells (rtC rt0 rx0).toArray 53 (0, 0))], [(bt, tobj p len cap j.2)]]) [] .any (fun i hi => ?_) (fun _ _ _ _ => trivial) ?_)
   ·exact opf_callT 4 (fun j : Int × Nat => .int .i64 j.1) (fun j => isTime j.1 = true) (fun j => tobj p len cap j.2) (fun _ => []) rfl rfl rfl (.head _) (fun w M => Cal.mono (wtimeE_c now hnow.1 hnow.2 w (hT.later M.ext) (M.at_ _ (nthO_mem (i := 4) rfl))) fun r w' h => by
     obtain ⟨x, k', qq, h1, N⟩ := h
     exact ⟨(x, k'), qq, h1, by simpa using N⟩) (fun _ => rfl)
   refine fe_run 60 rfl (fe_op (κ := Int × Nat) (fun _ j => .int .i64 j.1) (fun _ j => isTime j.1 = true) (fun _ j => [e7, [(b6, Obj.cells (rtC (⟨self, sq, t1, q, hl, t2, 0, [], [], [], [], [], [], []⟩ : RtV) ⟨.slice r6 mo.length d6, .slice r7 aj.length d7, .slice none 0 0, .slice none 0 0, .slice none 0 0, .slice none 0 0, .slice none 0 0⟩).toArray 53 (0, 0))], e6, [(b4, Obj.cells (rtC rt0 rx0).toArray 53 (0, 0))], [(bt, tobj p len cap j.2)]]) [] .any (fun i hi => ?_) (fun _ _ _ _ => trivial) ?_)
   ·exact opf_callT 4 (fun j : Int × Nat => .int .i64 j.1) (fun j => isTime j.1 = true) (fun j => tobj p len cap j.2) (fun _ => []) rfl rfl rfl (.head _) (fun w M => Cal.mono (wtimeE_c now hnow.1 hnow.2 w (hT.later M.ext) (M.at_ _ (nthO_mem (i := 4) rfl))) fun r w' h => by
     obtain ⟨x, k', qq, h1, N⟩ := h
     exact ⟨(x, k'), qq, h1, by simpa using N⟩) (fun _ => rfl)
   refine fe_op (κ := Unit) (fun i _ => .agg (ajC (⟨j, i.1.1.2.1, i.1.2.1, i.2.1⟩ : AdjV)).toArray) (fun _ _ => True) (fun i _ => [e7, [(b6, Obj.cells (rtC (⟨self, sq, t1, q, hl, t2, 0, [], [], [], [], [], [], []⟩ : RtV) ⟨.slice r6 mo.length d6, .slice r7 aj.length d7, .slice none 0 0, .slice none 0 0, .slice none 0 0, .slice none 0 0, .slice none 0 0⟩).toArray 53 (0, 0))], e6, [(b4, Obj.cells (rtC rt0 rx0).toArray 53 (0, 0))], [(bt, tobj p len cap i.2.2)]]) [(4, 57), (7, 60), (10, 63)] .any (fun i hi => ?_) (fun _ _ _ _ => trivial) ?_
   ·exact OpF.mono (opf_v (fun a w F M R r => o_build F rfl (aj_mkF _ _ _ _) r)) fun u r h => ⟨(), h.1, trivial, h.2⟩
   refine fe_op (κ := Nat) (fun _ j => .slice (some ⟨j, 0, none⟩) 1 1) (fun _ _ => True) (fun i b => [[(b, Obj.cells (ajC (⟨j, i.1.1.1.2.1, i.1.1.2.1, i.1.2.1⟩ : AdjV)).toArray 124 (0, 0))], e7, [(b6, Obj.cells (rtC (⟨self, sq, t1, q, hl, t2, 0, [], [], [], [], [], [], []⟩ : RtV) ⟨.slice r6 mo.length d6, .slice r7 aj.length d7, .slice none 0 0, .slice none 0 0, .slice none 0 0, .slice none 0 0, .slice none 0 0⟩).toArray 53 (0, 0))], e6, [(b4, Obj.cells (rtC rt0 rx0).toArray 53 (0, 0))], [(bt, tobj p len cap i.1.2.2)]]) [(11, 64)] .any (fun i hi => ?_) (fun _ _ _ _ => trivial) ?_
   ·exact opf_bs rfl rfl rfl (aj_build1 trivial)
   refine fe_op (κ := Value × List (Nat × Obj)) (fun _ b => b.1) (fun i b => OwnS 124 8 b.1 (aj ++ [(⟨j, i.1.1.1.1.2.1, i.1.1.1.2.1, i.1.1.2.1⟩ : AdjV)]).length (ajsC (aj ++ [(⟨j, i.1.1.1.1.2.1, i.1.1.1.2.1, i.1.1.2.1⟩ : AdjV)])) b.2) (fun i b => [[(i.2, Obj.cells (ajC (⟨j, i.1.1.1.1.2.1, i.1.1.1.2.1, i.1.1.2.1⟩ : AdjV)).toArray 124 (0, 0))], b.2, [(b6, Obj.cells (rtC (⟨self, sq, t1, q, hl, t2, 0, [], [], [], [], [], [], []⟩ : RtV) ⟨.slice r6 mo.length d6, .slice r7 aj.length d7, .slice none 0 0, .slice none 0 0, .slice none 0 0, .slice none 0 0, .slice none 0 0⟩).toArray 53 (0, 0))], e6, [(b4, Obj.cells (rtC rt0 rx0).toArray 53 (0, 0))], [(bt, tobj p len cap i.1.1.2.2)]]) [(12, 65)] .any (fun i hi => ?_) (fun _ _ _ _ => trivial) ?_
   ·exact opf_app2 (enc := ajC) (x0 := (⟨j, i.1.1.1.1.2.1, i.1.1.1.2.1, i.1.1.2.1⟩ : AdjV)) (f := fun e => [[(i.2, Obj.cells (ajC (⟨j, i.1.1.1.1.2.1, i.1.1.1.2.1, i.1.1.2.1⟩ : AdjV)).toArray 124 (0, 0))], e, [(b6, Obj.cells (rtC (⟨self, sq, t1, q, hl, t2, 0, [], [], [], [], [], [], []⟩ : RtV) ⟨.slice r6 mo.length d6, .slice r7 aj.length d7, .slice none 0 0, .slice none 0 0, .slice none 0 0, .slice none 0 0, .slice none 0 0⟩).toArray 53 (0, 0))], e6, [(b4, Obj.cells (rtC rt0 rx0).toArray 53 (0, 0))], [(bt, tobj p len cap i.1.1.2.2)]]) rfl rfl o7 rows_rq (fun q hq => List.mem_cons_of_mem _ (List.mem_map_of_mem hq)) (.head _) (aj_len trivial) (by omega) (by omega) (fun ent => rows_rq.symm) (aj_one _)
   refine fe_fin rfl (by rintro i _ q hq;simp at hq;rcases hq with rfl | rfl | rfl | rfl | rfl | rfl <;> simp) ?_
   rintro ⟨⟨⟨⟨⟨⟨_, o, _⟩, ta, _⟩, tb, k8⟩, _⟩, bz⟩, v17, e17⟩ ⟨⟨⟨⟨⟨⟨_, ho⟩, hta⟩, htb⟩, _⟩, _⟩, hO17⟩
   refine ⟨_, rfl, ?_⟩
   dsimp only at ho hta htb hO17 ⊢
   obtain ⟨rN, cN, rfl, -⟩ := own_q hO17
   refine gR 1 rfl (g_st1 2 rfl rfl rfl rfl rfl rfl (gR 5 rfl (g_add rfl rfl (w_u64 (by omega) (by omega)) (gR 2 rfl ?_))))
   exact g_next (j + 1, aj ++ [⟨j, o, ta, tb⟩], .slice rN _ cN, e17, k8) ⟨by dsimp only;omega, by dsimp only;omega, hO17, app_is iq ho.b, ja.add ho hta htb hs hj1, by simp;omega⟩ (by dsimp only;omega) (fun a F => F.only [7, 5, 6, 0, 1, 4] rfl) (by (try dsimp only);repeat (first | exact .refl _ | with_reducible exact sC0 _ | with_reducible apply sC2 | apply sC1))
 ·refine gR 7 rfl ?_
  refine g_ifF rfl (dqF (by omega)) (gR 2 rfl (g_outX (gR 6 rfl ?_)))
  refine g_callT (ι := List SrcV × Value × Nat × List (Nat × Obj)) 4 (fun j => j.2.1) (fun j => AtE 38 j.2.1 j.1.length (srsC j.1) j.2.2.2 ∧ (∀ y ∈ j.1, IsSr y) ∧ validSs j.1 = true) (fun j => tobj p len cap j.2.2.1) (fun j => [j.2.2.2]) rfl rfl rfl (fun w M => Cal.mono (sourcesB_c now hnow w (hT.later M.ext) (M.at_ _ (nthO_mem (i := 4) rfl))) fun r w' h => by
   obtain ⟨m, k', ent, h1, h2, h3, N⟩ := h
   exact ⟨(m, r, k', ent), rfl, ⟨h1.atE, h2, h3⟩, by simpa using N⟩) (fun _ => rfl) ?_
  rintro ⟨ls, v8, k9, e8⟩ ⟨o8, i8, s8⟩
  dsimp only [List.nil_append, List.cons_append] at o8 i8 s8 ⊢
  have l8 : ls.length ≤ 1000 := Nat.le_trans (validSs_iff.1 s8).1 (by decide)
  obtain ⟨r8, d8, rfl⟩ := o8.q
  refine gR 1 rfl (g_st1 2 rfl rfl rfl rfl rfl rfl (gR 7 rfl ?_))
  refine g_callT (ι := List RouV × Value × Nat × List (Nat × Obj)) 5 (fun j => j.2.1) (fun j => AtE 39 j.2.1 j.1.length (rosC j.1) j.2.2.2 ∧ (∀ y ∈ j.1, IsRo y) ∧ validRs j.1 = true) (fun j => tobj p len cap j.2.2.1) (fun j => [j.2.2.2]) rfl rfl rfl (fun w M => Cal.mono (routesB_c now hnow w (hT.later M.ext) (M.at_ _ (nthO_mem (i := 5) rfl))) fun r w' h => by
   obtain ⟨m, k', ent, h1, h2, h3, N⟩ := h
   exact ⟨(m, r, k', ent), rfl, ⟨h1.atE, h2, h3⟩, by simpa using N⟩) (fun _ => rfl) ?_
  rintro ⟨lr, vr, k10, er⟩ ⟨ar, ir, srv⟩
  dsimp only [List.nil_append, List.cons_append] at ar ir srv ⊢
  have lr9 := (validRs_iff.1 srv).1
  obtain ⟨qr, cr, rfl⟩ := ar.q
  refine gR 5 rfl (g_pad ?_)
  refine g_loop (ι := Nat × (List RouV) × Value × (List (Nat × Obj))) ⟨fun (i, out, u, e9) => lr.length - i, fun (i, out, u, e9) => i ≤ lr.length ∧ OwnS 76 39 u out.length (rosC out) e9 ∧ out.Sublist (lr.take i) ∧ (∀ y ∈ out, ¬ y.to.rt = self), fun (i, out, u, e9) => [(76, .int .i64 i), (75, .int .i64 lr.length), (74, .slice qr lr.length cr), (5, .int .u64 self), (6, .pointer (some ⟨b6, 0, none⟩)), (0, .pointer (some ⟨bt, 0, none⟩)), (1, .int .i64 now), (4, .pointer (some ⟨b4, 0, none⟩))], fun (i, out, u, e9) => [e9, er, e8, e7, [(b6, Obj.cells (rtC (⟨self, sq, t1, q, hl, t2, 0, [], [], [], [], [], [], []⟩ : RtV) ⟨.slice r6 mo.length d6, .slice r7 aj.length d7, .slice r8 ls.length d8, u, .slice none 0 0, .slice none 0 0, .slice none 0 0⟩).toArray 53 (0, 0))], e6, [(b4, Obj.cells (rtC rt0 rx0).toArray 53 (0, 0))], [(bt, tobj p len cap k10)]]⟩ (0, [], _, []) ⟨by first | omega | (dsimp only;omega), OwnS.nilL _ _ _, by simp, fun y hy => (List.not_mem_nil hy).elim⟩ (fun a F => F.only [76, 75, 74, 5, 6, 0, 1, 4] rfl) (by repeat (first | exact .refl _ | apply sC2 | apply sC1)) ?_
  rintro ⟨i, out, u9, e9⟩ ⟨hi, o9, hsub, hno⟩
  dsimp only at hi o9 hsub hno ⊢
  obtain ⟨r9, d9, rfl, -⟩ := own_q o9
  have hol : out.length ≤ i := by have := hsub.length_le;rw [List.length_take] at this;omega
  by_cases hlt2 : i < lr.length
  ·obtain ⟨br, orr, csr, tr, fzr, rfl, rfl, hsr⟩ := ar.mem (by omega)
   obtain ⟨x, hx0⟩ : ∃ x, x = lr[i] := ⟨_, rfl⟩
   have hxi : IsRo x := ir _ (hx0 ▸ List.getElem_mem hlt2)
   have f1 : seg csr (orr + (i : Int).toNat * 39) 39 = some (roC x) := by rw [hx0];exact seg_el (ros_len ir) hsr hlt2 (by omega)
   by_cases c1 : x.to.rt = self
   ·have c1t : (!decide (x.to.rt = self)) = false := by simp [c1]
    refine gR 6 rfl (g_ifT rfl (dqT (by omega)) (gR 6 rfl (g_ixS rfl rfl (by omega) (by omega) (g_ldA 1 rfl rfl (by with_reducible assumption) ?_))))
    refine g_alloc fun b9 => g_stA 0 rfl rfl (ro_len ‹_›) (ro_one _) rfl (put_all (by rw [ro_len ‹_›];first | rfl | rw [ro_len ‹_›])) rfl ?_
    refine gR 6 rfl (g_ld1 0 rfl rfl (ro_to_rt ‹_›) ?_)
    refine gR 3 rfl (g_know 85 rfl (bneF (by omega)) (gR 12 rfl (g_add rfl rfl (w_i64 (by omega) (by omega)) (gR 2 rfl ?_))))
    exact g_next (i + 1, out, _, _) ⟨by dsimp only;omega, by assumption, sub_skip hsub, hno⟩ (by dsimp only;omega) (fun a F => F.only [76, 75, 74, 5, 6, 0, 1, 4] rfl) (by (try dsimp only);repeat (first | exact .refl _ | with_reducible exact sC0 _ | with_reducible apply sC2 | apply sC1))
   ·have c1t : (!decide (x.to.rt = self)) = true := by simp [c1]
    by_cases c2 : x.nb = self
    ·have c2t : (!decide (x.nb = self)) = false := by simp [c2]
     refine gR 6 rfl (g_ifT rfl (dqT (by omega)) (gR 6 rfl (g_ixS rfl rfl (by omega) (by omega) (g_ldA 1 rfl rfl (by with_reducible assumption) ?_))))
     refine g_alloc fun b9 => g_stA 0 rfl rfl (ro_len ‹_›) (ro_one _) rfl (put_all (by rw [ro_len ‹_›];first | rfl | rw [ro_len ‹_›])) rfl ?_
     refine gR 6 rfl (g_ld1 0 rfl rfl (ro_to_rt ‹_›) ?_)
     refine gR 3 rfl (g_know 85 rfl (bne_iff_ne.2 (by omega)) (gR 1 rfl (g_ld1 0 rfl rfl (ro_nb ‹_›) ?_)))
     refine gR 5 rfl (g_ifF rfl (bneF (by omega)) (gR 4 rfl (g_add rfl rfl (w_i64 (by omega) (by omega)) (gR 2 rfl ?_))))
     exact g_next (i + 1, out, _, _) ⟨by dsimp only;omega, by assumption, sub_skip hsub, hno⟩ (by dsimp only;omega) (fun a F => F.only [76, 75, 74, 5, 6, 0, 1, 4] rfl) (by (try dsimp only);repeat (first | exact .refl _ | with_reducible exact sC0 _ | with_reducible apply sC2 | apply sC1))
    ·have c2t : (!decide (x.nb = self)) = true := by simp [c2]
     refine gR 6 rfl (g_ifT rfl (dqT (by omega)) (gR 6 rfl (g_ixS rfl rfl (by omega) (by omega) (g_ldA 1 rfl rfl (by with_reducible assumption) ?_))))
     refine g_alloc fun b9 => g_stA 0 rfl rfl (ro_len ‹_›) (ro_one _) rfl (put_all (by rw [ro_len ‹_›];first | rfl | rw [ro_len ‹_›])) rfl ?_
     refine gR 6 rfl (g_ld1 0 rfl rfl (ro_to_rt ‹_›) ?_)
     refine gR 3 rfl (g_know 85 rfl (bne_iff_ne.2 (by omega)) (gR 1 rfl (g_ld1 0 rfl rfl (ro_nb ‹_›) ?_)))
     refine gR 5 rfl (g_ifT rfl (bne_iff_ne.2 (by omega)) (gR 2 rfl (g_ld1 5 rfl rfl rfl (g_ldA 0 rfl rfl (ro_all ‹_›) ?_))))
     refine g_bs rfl rfl rfl (ro_build1 ‹_›) (fun b94 => ?_)
     refine g_app 2 0 (enc := roC) rfl rfl ‹_› rfl rfl (ro_len ‹_›) (by first | omega | (simp only [List.length_nil];omega)) (fun _ => rfl) (fun v95 es95 hO95 => ?_) (ro_one _)
     refine gR 1 rfl (g_st1 6 rfl rfl (own_one ‹_›) rfl rfl rfl ?_)
     refine gR 4 rfl (g_add rfl rfl (w_i64 (by omega) (by omega)) (gR 2 rfl ?_))
     exact g_next (i + 1, out ++ [x], _, _) ⟨by dsimp only;omega, by assumption, sub_app hlt2 hx0 hsub, app_is hno c1⟩ (by dsimp only;omega) (fun a F => F.only [76, 75, 74, 5, 6, 0, 1, 4] rfl) (by (try dsimp only);repeat (first | exact .refl _ | with_reducible exact sC0 _ | with_reducible apply sC2 | apply sC1))
  ·have hil : i = lr.length := by omega
   rw [hil, List.take_length] at hsub
   have s9 := vRs_sub srv hsub
   have i9 : ∀ y ∈ out, IsRo y := fun y hy => ir y (hsub.subset hy)
   refine gR 6 rfl (g_ifF rfl (dqF (by omega)) (gR 2 rfl (g_outX (gR 8 rfl (g_ld1 4 rfl rfl rfl ?_)))))
   have hbt : bt < W.heap.size := (Array.getElem?_eq_some_iff.1 hb).1
   have hol9 : out.length ≤ 512 := by omega
   clear ar ir
   refine g_callT (ι := List InsV × Value × Nat × List (Nat × Obj)) 7 (fun j => j.2.1) (fun j => AtE 40 j.2.1 j.1.length (insC j.1) j.2.2.2 ∧ (∀ y ∈ j.1, IsIn y) ∧ validIs j.1 = true ∧ j.1.length ≤ 7) (fun j => tobj p len cap j.2.2.1) (fun j => [j.2.2.2]) rfl rfl rfl (fun w M => Cal.mono (installedB_c now hnow out i9 (validRs_iff.1 s9).2.1 (by omega) _ w (o9.slAt M (fun q hq => List.mem_append_left _ hq)) (own_newV (o := tobj p len cap k10) o9 M (by simp) hbt) (hT.later M.ext) (M.at_ _ (nthO_mem (i := 7) rfl))) fun r w' h => by
    obtain ⟨m, k', ent, h1, h2, h3, h4, N⟩ := h
    exact ⟨(m, r, k', ent), rfl, ⟨h1.atE, h2, h3, h4⟩, by simpa using N⟩) (fun _ => rfl) ?_
   rintro ⟨li, vi, k11, ei⟩ ⟨ai, ii, siv, li7⟩
   dsimp only [List.nil_append, List.cons_append] at ai ii siv li7 ⊢
   obtain ⟨qi, ci, rfl⟩ := ai.q
   refine gR 5 rfl (g_pad ?_)
   refine g_loop (ι := Nat × (List InsV) × Value × (List (Nat × Obj))) ⟨fun (i, oi, u, e10) => li.length - i, fun (i, oi, u, e10) => i ≤ li.length ∧ OwnS 74 40 u oi.length (insC oi) e10 ∧ oi.Sublist (li.take i) ∧ (∀ y ∈ oi, ¬ y.to.rt = self), fun (i, oi, u, e10) => [(104, .int .i64 i), (103, .int .i64 li.length), (102, .slice qi li.length ci), (5, .int .u64 self), (6, .pointer (some ⟨b6, 0, none⟩)), (0, .pointer (some ⟨bt, 0, none⟩)), (1, .int .i64 now), (4, .pointer (some ⟨b4, 0, none⟩))], fun (i, oi, u, e10) => [e10, ei, e9, er, e8, e7, [(b6, Obj.cells (rtC (⟨self, sq, t1, q, hl, t2, 0, [], [], [], [], [], [], []⟩ : RtV) ⟨.slice r6 mo.length d6, .slice r7 aj.length d7, .slice r8 ls.length d8, .slice r9 out.length d9, u, .slice none 0 0, .slice none 0 0⟩).toArray 53 (0, 0))], e6, [(b4, Obj.cells (rtC rt0 rx0).toArray 53 (0, 0))], [(bt, tobj p len cap k11)]]⟩ (0, [], _, []) ⟨by first | omega | (dsimp only;omega), OwnS.nilL _ _ _, by simp, fun y hy => (List.not_mem_nil hy).elim⟩ (fun a F => F.only [104, 103, 102, 5, 6, 0, 1, 4] rfl) (by repeat (first | exact .refl _ | apply sC2 | apply sC1)) ?_
   rintro ⟨i, oi, u10, e10⟩ ⟨hi, o10, hsub2, hno2⟩
   dsimp only at hi o10 hsub2 hno2 ⊢
   obtain ⟨r10, d10, rfl, -⟩ := own_q o10
   have hol2 : oi.length ≤ i := by have := hsub2.length_le;rw [List.length_take] at this;omega
   by_cases hlt3 : i < li.length
   ·obtain ⟨br, orr, csr, tr, fzr, rfl, rfl, hsr⟩ := ai.mem (by omega)
    obtain ⟨x, hx0⟩ : ∃ x, x = li[i] := ⟨_, rfl⟩
    have hxi : IsIn x := ii _ (hx0 ▸ List.getElem_mem hlt3)
    have f1 : seg csr (orr + (i : Int).toNat * 40) 40 = some (inC x) := by rw [hx0];exact seg_el (ins_len ii) hsr hlt3 (by omega)
    by_cases c1 : x.to.rt = self
    ·have c1t : (!decide (x.to.rt = self)) = false := by simp [c1]
     refine gR 6 rfl (g_ifT rfl (dqT (by omega)) (gR 6 rfl (g_ixS rfl rfl (by omega) (by omega) (g_ldA 1 rfl rfl (by with_reducible assumption) ?_))))
     refine g_alloc fun b11 => g_stA 0 rfl rfl (in_len ‹_›) (in_one _) rfl (put_all (by rw [in_len ‹_›];first | rfl | rw [in_len ‹_›])) rfl ?_
     refine gR 6 rfl (g_ld1 0 rfl rfl (in_to_rt ‹_›) ?_)
     refine gR 3 rfl (g_know 113 rfl (bneF (by omega)) (gR 12 rfl (g_add rfl rfl (w_i64 (by omega) (by omega)) (gR 2 rfl ?_))))
     exact g_next (i + 1, oi, _, _) ⟨by dsimp only;omega, by assumption, sub_skip hsub2, hno2⟩ (by dsimp only;omega) (fun a F => F.only [104, 103, 102, 5, 6, 0, 1, 4] rfl) (by (try dsimp only);repeat (first | exact .refl _ | with_reducible exact sC0 _ | with_reducible apply sC2 | apply sC1))
    ·have c1t : (!decide (x.to.rt = self)) = true := by simp [c1]
     by_cases c2 : x.nb = self
     ·have c2t : (!decide (x.nb = self)) = false := by simp [c2]
      refine gR 6 rfl (g_ifT rfl (dqT (by omega)) (gR 6 rfl (g_ixS rfl rfl (by omega) (by omega) (g_ldA 1 rfl rfl (by with_reducible assumption) ?_))))
      refine g_alloc fun b11 => g_stA 0 rfl rfl (in_len ‹_›) (in_one _) rfl (put_all (by rw [in_len ‹_›];first | rfl | rw [in_len ‹_›])) rfl ?_
      refine gR 6 rfl (g_ld1 0 rfl rfl (in_to_rt ‹_›) ?_)
      refine gR 3 rfl (g_know 113 rfl (bne_iff_ne.2 (by omega)) (gR 1 rfl (g_ld1 0 rfl rfl (in_nb ‹_›) ?_)))
      refine gR 5 rfl (g_ifF rfl (bneF (by omega)) (gR 4 rfl (g_add rfl rfl (w_i64 (by omega) (by omega)) (gR 2 rfl ?_))))
      exact g_next (i + 1, oi, _, _) ⟨by dsimp only;omega, by assumption, sub_skip hsub2, hno2⟩ (by dsimp only;omega) (fun a F => F.only [104, 103, 102, 5, 6, 0, 1, 4] rfl) (by (try dsimp only);repeat (first | exact .refl _ | with_reducible exact sC0 _ | with_reducible apply sC2 | apply sC1))
     ·have c2t : (!decide (x.nb = self)) = true := by simp [c2]
      refine gR 6 rfl (g_ifT rfl (dqT (by omega)) (gR 6 rfl (g_ixS rfl rfl (by omega) (by omega) (g_ldA 1 rfl rfl (by with_reducible assumption) ?_))))
      refine g_alloc fun b11 => g_stA 0 rfl rfl (in_len ‹_›) (in_one _) rfl (put_all (by rw [in_len ‹_›];first | rfl | rw [in_len ‹_›])) rfl ?_
      refine gR 6 rfl (g_ld1 0 rfl rfl (in_to_rt ‹_›) ?_)
      refine gR 3 rfl (g_know 113 rfl (bne_iff_ne.2 (by omega)) (gR 1 rfl (g_ld1 0 rfl rfl (in_nb ‹_›) ?_)))
      refine gR 5 rfl (g_ifT rfl (bne_iff_ne.2 (by omega)) (gR 2 rfl (g_ld1 7 rfl rfl rfl (g_ldA 0 rfl rfl (in_all ‹_›) ?_))))
      refine g_bs rfl rfl rfl (in_build1 ‹_›) (fun b122 => ?_)
      refine g_app 2 0 (enc := inC) rfl rfl ‹_› rfl rfl (in_len ‹_›) (by first | omega | (simp only [List.length_nil];omega)) (fun _ => rfl) (fun v123 es123 hO123 => ?_) (in_one _)
      refine gR 1 rfl (g_st1 8 rfl rfl (own_one ‹_›) rfl rfl rfl ?_)
      refine gR 4 rfl (g_add rfl rfl (w_i64 (by omega) (by omega)) (gR 2 rfl ?_))
      exact g_next (i + 1, oi ++ [x], _, _) ⟨by dsimp only;omega, by assumption, sub_app hlt3 hx0 hsub2, app_is hno2 c1⟩ (by dsimp only;omega) (fun a F => F.only [104, 103, 102, 5, 6, 0, 1, 4] rfl) (by (try dsimp only);repeat (first | exact .refl _ | with_reducible exact sC0 _ | with_reducible apply sC2 | apply sC1))
   ·have hil2 : i = li.length := by omega
    rw [hil2, List.take_length] at hsub2
    have s10 := vIs_sub siv hsub2
    have i10 : ∀ y ∈ oi, IsIn y := fun y hy => ii y (hsub2.subset hy)
    have hol10 : oi.length ≤ 7 := by omega
    clear ai ii
    refine gR 6 rfl (g_ifF rfl (dqF (by omega)) (gR 2 rfl (g_outX (gR 6 rfl ?_))))
    refine g_callT (ι := List ReqV × Value × Nat × List (Nat × Obj)) 9 (fun j => j.2.1) (fun j => OwnS 171 40 j.2.1 j.1.length (rqsC j.1) j.2.2.2 ∧ (∀ y ∈ j.1, IsRq y) ∧ validRqs j.1 = true) (fun j => tobj p len cap j.2.2.1) (fun j => [j.2.2.2]) rfl rfl rfl (fun w M => Cal.mono (requestsB_c now hnow w (hT.later M.ext) (M.at_ _ (nthO_mem (i := 9) rfl))) fun r w' h => by
     obtain ⟨m, k', ent, h1, h2, h3, N⟩ := h
     exact ⟨(m, r, k', ent), rfl, ⟨h1, h2, h3⟩, by simpa using N⟩) (fun _ => rfl) ?_
    rintro ⟨lq, vq, k12, e11⟩ ⟨o11, i11, s11⟩
    dsimp only [List.nil_append, List.cons_append] at o11 i11 s11 ⊢
    have l11 := (validRqs_iff.1 s11).1
    obtain ⟨r11, d11, rfl, -⟩ := own_q o11
    refine gR 1 rfl (g_st1 7 rfl rfl rfl rfl rfl rfl (gR 5 rfl (g_ldA 7 rfl rfl rfl ?_)))
    have hsI : IsRt (⟨self, sq, t1, q, hl, t2, 0, mo, aj, ls, out, oi, lq, []⟩ : RtV) := ⟨i6, fun _ _ => trivial, i8, i9, i10, i11, fun y hy => (List.not_mem_nil hy).elim, iq⟩
    refine g_callN (ι := Value × List (Nat × Obj)) (fun j => j.1) (fun j => OwnS 100 37 j.1 (rtAnn (⟨self, sq, t1, q, hl, t2, 0, mo, aj, ls, out, oi, lq, []⟩ : RtV)).length (avsC (rtAnn (⟨self, sq, t1, q, hl, t2, 0, mo, aj, ls, out, oi, lq, []⟩ : RtV))) j.2) (fun j => [j.2]) rfl rfl (fun w M => Cal.mono (rAnnounced_c (⟨self, sq, t1, q, hl, t2, 0, mo, aj, ls, out, oi, lq, []⟩ : RtV) ⟨.slice r6 mo.length d6, .slice r7 aj.length d7, .slice r8 ls.length d8, .slice r9 out.length d9, .slice r10 oi.length d10, .slice r11 lq.length d11, .slice none 0 0⟩ hsI w ⟨o6.slAt M (fun q hq => List.mem_flatten_of_mem (by simp) hq), o7.slAt M (fun q hq => List.mem_flatten_of_mem (by simp) hq), o8.slAt (fun q hq => M.at_ q (List.mem_flatten_of_mem (by simp) hq)), o9.slAt M (fun q hq => List.mem_flatten_of_mem (by simp) hq), o10.slAt M (fun q hq => List.mem_flatten_of_mem (by simp) hq), o11.slAt M (fun q hq => List.mem_flatten_of_mem (by simp) hq), SlAt.nil _ _⟩) fun r w' hh => by
     obtain ⟨ent, e1, e2⟩ := hh
     exact ⟨(r, ent), rfl, e1, by simpa using e2⟩) ?_
    rintro ⟨va, ea⟩ oa
    dsimp only [List.nil_append, List.cons_append] at oa ⊢
    obtain ⟨ra, da, rfl, -⟩ := own_q oa
    have hla := rtAnn_len (⟨self, sq, t1, q, hl, t2, 0, mo, aj, ls, out, oi, lq, []⟩ : RtV)
    skip
    refine g_callT (ι := List AdvV × Value × Nat × List (Nat × Obj)) 11 (fun j => j.2.1) (fun j => OwnS 100 37 j.2.1 j.1.length (avsC j.1) j.2.2.2 ∧ (∀ y ∈ j.1, IsAv y) ∧ validAs j.1 = true) (fun j => tobj p len cap j.2.2.1) (fun j => [j.2.2.2]) rfl rfl rfl (fun w M => Cal.mono (varyB_c (rtAnn (⟨self, sq, t1, q, hl, t2, 0, mo, aj, ls, out, oi, lq, []⟩ : RtV)) (rtAnn_is hsI) (rtAnn_valid hsI) (by omega) _ w (oa.slAt M (fun q hq => List.mem_flatten_of_mem (by simp) hq)) (fun b o s k c e hq => by have h9 := own_newV (o := tobj p len cap k12) oa M (by simp) hbt b o s k c e;simp at hq;omega) (hT.later M.ext) (M.at_ _ (nthO_mem (i := 11) rfl))) fun r w' h => by
     obtain ⟨m, k', ent, h1, h2, h3, N⟩ := h
     exact ⟨(m, r, k', ent), rfl, ⟨h1, h2, h3⟩, by simpa using N⟩) (fun _ => rfl) ?_
    rintro ⟨lv, vv, k13, e12⟩ ⟨o12, i12, s12⟩
    dsimp only [List.nil_append, List.cons_append] at o12 i12 s12 ⊢
    have l12 : lv.length ≤ 1000 := Nat.le_trans (validAs_iff.1 s12).1 (by decide)
    obtain ⟨r12, d12, rfl, -⟩ := own_q o12
    refine gR 2 rfl ?_
    refine g_callT (ι := Int × Nat) 12 (fun j => .int .i64 j.1) (fun j => isTime j.1 = true) (fun j => tobj p len cap j.2) (fun _ => []) rfl rfl rfl (fun w M => Cal.mono (wtimeE_c now hnow.1 hnow.2 w (hT.later M.ext) (M.at_ _ (nthO_mem (i := 12) rfl))) fun r w' h => by
      obtain ⟨x, k', q, h1, N⟩ := h
      exact ⟨(x, k'), q, h1, by simpa using N⟩) (fun _ => rfl) ?_
    rintro ⟨tf, k14⟩ tvf
    dsimp only [List.nil_append, List.cons_append] at tvf ⊢
    refine g_v (fun a w F M R r => o_build F rfl rfl r) (gR 1 rfl ?_)
    refine g_stA 9 rfl rfl rfl rfl rfl rfl rfl ?_
    refine gR 4 rfl (g_ldA 9 rfl rfl rfl ?_)
    refine g_stA 11 rfl rfl rfl rfl rfl rfl rfl ?_
    refine gR 3 rfl (g_retC 11 rfl rfl rfl rfl rfl fun w M => ?_)
    exact ⟨⟨self, sq, t1, q, hl, t2, tf, mo, aj, ls, out, oi, lq, lv⟩, ⟨_, _, _, _, _, _, _⟩, ⟨e6, e7, e8, e9, e10, e11, e12⟩, _, rfl, ⟨i6, fun _ _ => trivial, i8, i9, i10, i11, i12, iq⟩, ⟨by dsimp only;omega, by dsimp only;omega, l8, by dsimp only;omega, by dsimp only;omega, by dsimp only;omega, l12⟩, rtV_mk (by first | omega | (dsimp only;omega)) tv1 qv tv2 s6 (ja.valid (by first | omega | (dsimp only;omega))) s8 s9 s10 s11 s12 tvf hno hno2, ⟨o6.atE, o7.atE, o8, o9.atE, o10.atE, o11.atE, o12.atE⟩, rowT (M.sub (subO (by (try dsimp only [RtE.row, List.cons_append, List.nil_append]);repeat (first | exact .refl _ | exact sC0 _ | with_reducible apply sC2 | apply sC1))))⟩
end Go.Proofs.YtfhkmgcalcfibaaGreat
namespace Go.Proofs.YtfhkmgcalcfibaaGreat
open Go.RowKit
theorem g_callOp {c : Cx} {Q : Exit → Act → World → Prop} {ks : List KF} {fr : List (Nat × Value)} {l : Row} {all : Array Oper} {rest : List Oper} {d : Nat} {ty : TypeId} {pos : String} {af : Array Edge} {g : Option (Nat × Bool)} (i : Nat) (Ψ : Value → List (Nat × Obj) → Prop) {ent : List (Nat × Obj)} {f : List (Nat × Obj) → Row} {x : Operand} {fn : FuncId} {xs : List Operand} {ts : Array TypeId} {vs : List Value} [hb : TBody c.P fn] (hx : Ev fr x = some (.func (.func fn) #[] #[])) (ha : evL fr xs = some vs) (hi : nthO l i = some ent) (hf : ∀ e', setO l i e' = some (f e'))
  (hc : ∀ w r, l.flatten.Perm (ent ++ r) → Mem c.S c.W w (r ++ ent) → Cal c.P fn vs.toArray w fun u w' => ∃ e', Ψ u e' ∧ Mem c.S c.W w' (r ++ e')) (hk : ∀ u e', Ψ u e' → G c Q ks (.ops all rest) ((d, u) :: fr) (f e')) (hd : Nat.blt d c.n = true := by rfl) (hg : gOk all fr g = some true := by rfl) :
  G c Q ks (.ops all (⟨some d, .call ⟨.value x, xs.toArray, ts⟩, ty, pos, af, g⟩ :: rest)) fr l :=
 g_op rfl hd hg fun a w F M => by
  obtain ⟨r, p1, _⟩ := nthO_perm hi (hf ent)
  have hp : ∀ e', (f e').flatten.Perm (e' ++ r) := fun e' => by
   obtain ⟨r', q1, q2⟩ := nthO_perm hi (hf e')
   exact q2.trans (List.Perm.append_left _ ((List.perm_append_left_iff ent).1 (q1.symm.trans p1)))
  refine o_call (F.e hx) (F.evs ha) (Cal.mono (hc w r p1 (M.perm (p1.trans List.perm_append_comm))) fun u w' h a' F' => ?_)
  obtain ⟨e', h1, M'⟩ := h
  exact hk u e' h1 a' w' F' (M'.perm (List.perm_append_comm.trans (hp e').symm))
theorem own_ne {e : TypeId} {sz n : Nat} {v : Value} {cs : List Value} {ent l r : List (Nat × Obj)} {S : List Nat} {W w : World} {b : Nat} {o : Obj} (h : OwnS e sz v n cs ent) (M : Mem S W w (r ++ ent)) (hp : l.Perm (ent ++ r)) (hb : (b, o) ∈ l) (hne : ∀ xs, o ≠ .cells xs e (0, 0)) : w.heap[b]? = some o ∧ ∀ p ∈ ent, p.1 ≠ b := by
 have h1 : w.heap[b]? = some o := M.at_ (b, o) ((List.perm_append_comm.mem_iff).1 (hp.mem_iff.1 hb))
 refine ⟨h1, fun p hp e => ?_⟩
 have h2 := M.at_ p (List.mem_append_right _ hp)
 rw [e, h1] at h2
 rcases h with ⟨_, _, _, rfl⟩ | ⟨b', cap, junk, _, rfl, _⟩
 ·cases hp
 ·rw [List.mem_singleton.1 hp] at h2
  exact hne _ (Option.some.inj h2)
attribute [local irreducible] OpTo wpListIn Code.wpIn MW Cal
theorem cloneO_c (l : List OrgV) (hlen : l.length ≤ 100000) (v : Value) (W : World) (hS : SlAt W 34 v l.length (ogsC l)) :
  Cal Tryz.prog 30 [v].toArray W fun r w' => ∃ ent, OwnS 85 34 r l.length (ogsC l) ent ∧ (∀ b o s c, r = .slice (some ⟨b, o, s⟩) l.length c → l.length = 0 → c = 0) ∧ Mem [] W w' ent := by
 obtain ⟨q, cap, hq, _⟩ := id hS
 cases q with
 | none =>
  have hn : l.length = 0 := by
   obtain ⟨q', cap', h2, _, _, _, h3⟩ := hS
   rw [hq] at h2
   cases h2
   rcases Nat.eq_zero_or_pos l.length with h | h
   ·exact h
   ·obtain ⟨_, _, _, _, _, h4, _⟩ := h3 h
    cases h4
  have hxs : l = [] := List.length_eq_zero_iff.1 hn
  subst hxs
  rw [hq]
  refine fn_ofM (n := 8) [] Tryz.func30 rfl rfl rfl ?_
  intro a w F M hwW
  refine c_seq (c_region ?_)
  refine sD F (o_assign (F.e rfl) ?_);clear F a;intro a F
  with_reducible refine l_nil (q_then (c_seq (c_seq (c_region ?_))))
  refine sD F (o_move (F.e rfl) ?_);clear F a;intro a F
  (refine sD F (o_eqlNil (F.e rfl) (F.e rfl) ?_);clear F a;intro a F)
  with_reducible refine l_nil (q_then ?_)
  refine c_true F rfl rfl (c_seq (c_region ?_))
  refine sD F (o_assign (F.e rfl) ?_);clear F a;intro a F
  with_reducible refine l_nil (q_then (c_ret (q_thenR ?_)))
  exact p_ret F rfl (.cons (.tmp (F.e rfl)) .nil) (⟨[], OwnS.nil _ _, fun b o s c h => (by cases h), M⟩)
 | some a0 =>
  rw [hq] at hS ⊢
  refine fn_ofM (n := 8) [] Tryz.func30 rfl rfl rfl ?_
  intro a w F M hwW
  refine c_seq (c_region ?_)
  refine sD F (o_assign (F.e rfl) ?_);clear F a;intro a F
  with_reducible refine l_nil (q_then (c_seq (c_seq (c_region ?_))))
  refine sD F (o_move (F.e rfl) ?_);clear F a;intro a F
  (refine sD F (o_eqlNil (F.e rfl) (F.e rfl) ?_);clear F a;intro a F)
  with_reducible refine l_nil (q_then ?_)
  refine c_false F rfl rfl ?_
  with_reducible refine c_skip (q_then (c_seq (c_region ?_)))
  (refine sD F (o_buildSlice F M rfl rfl rfl rfl ?_);clear F M;intro b5 w M a F)
  refine sD F (o_move (F.e rfl) ?_);clear F a;intro a F
  have hSw := hS.later M.ext
  by_cases hn : l.length = 0
  ·have hxs : l = [] := List.length_eq_zero_iff.1 hn
   subst hxs
   (refine sD F (o_append0 (F.e rfl) (F.e rfl) (by omega) (hSw.src (by simp [encL])) ?_);clear F a;intro a F)
   refine sD F (o_assign (F.e rfl) ?_);clear F a;intro a F
   with_reducible refine l_nil (q_then (c_ret ?_))
   exact p_ret F rfl (.cons (.tmp (F.e rfl)) .nil) (⟨[(b5, _)], .inr ⟨b5, 0, [], rfl, rfl, by simp [encL], by simp, by simp⟩, fun b o s c h _ => (by cases h;rfl), M⟩)
  ·have hO5 : OwnS 85 34 (.slice (some ⟨b5, 0, none⟩) 0 0) 0 [] [(b5, .cells ([] : List Value).toArray 85 (0, 0))] := .inr ⟨b5, 0, [], rfl, rfl, by simp, by simp, by simp⟩
   (refine sD F (o_append hO5 M .here (F.e rfl) (F.e rfl) (hSw.src ogs_one) (by omega) (by omega) ?_);clear F M;intro u ent w hO M a F)
   rw [Nat.zero_add, List.nil_append] at hO
   refine sD F (o_assign (F.e rfl) ?_);clear F a;intro a F
   with_reducible refine l_nil (q_then (c_ret ?_))
   exact p_ret F rfl (.cons (.tmp (F.e rfl)) .nil) (⟨ent, hO, fun b o s c _ h => absurd h hn, M⟩)
theorem rtlater_c (a d : Int) (h0 : 0 ≤ a) (h1 : a ≤ 1099511627776) (d0 : 0 ≤ d) (d1 : d ≤ 1099511627776) (W : World) : Cal Tryz.prog 90 [.int .i64 a, .int .i64 d].toArray W fun v w' => v = .int .i64 (laterV a d) ∧ Ext [] W w' := by
 exact g_start (n := 9) (S := []) fldT_ok slcT_ok Tryz.func90 rfl rfl rfl (gR 9 rfl (g_add rfl rfl (w_i64 (by omega) (by omega)) (g_v (fun a w F M R r => o_min (F.e rfl) (F.e rfl) r) (gR 4 rfl (g_ret1 rfl rfl rfl fun w M => ⟨rfl, M.ext⟩)))))
theorem org1_T {self : Int} {x : OrgV} (hs : ¬ self = 0) (h1 : validP x.dip x.dbits = true) (h2 : validP x.sip x.sbits = true) : org1 self x = true := by
 unfold org1 validT orgD
 rw [h1, h2, dqF hs]
 rfl
theorem org1_F1 {self : Int} {x : OrgV} (h1 : validP x.dip x.dbits = false) : org1 self x = false := by
 unfold org1 validT orgD
 rw [h1]
 rfl
theorem org1_F2 {self : Int} {x : OrgV} (h1 : validP x.sip x.sbits = false) : org1 self x = false := by
 unfold org1 validT orgD
 rw [h1]
 simp
theorem mStart_c (self now : Int) (l : List OrgV) (hx : ∀ x ∈ l, IsOg x) (hl : l.length ≤ 100) (v : Value) (W : World) (hS : SlAt W 34 v l.length (ogsC l)) : Cal Tryz.prog 31 [.int .u64 self, .int .i64 now, v].toArray W fun r w' => PhS self now l r W w' := by
 obtain ⟨q, cap, rfl, _⟩ := id hS
 have hm := hS.memB [] (by simp)
 refine g_start (n := 56) (S := []) fldT_ok slcT_ok Tryz.func31 rfl rfl rfl ?_
 by_cases hs0 : self = 0
 ·refine gR 2 rfl ?_
  refine g_box rfl rfl fun b3 => g_alloc fun b6 => gR 6 rfl (g_ld1 1 rfl rfl rfl (gR 3 rfl (g_ifT rfl (dqT (by omega)) (gR 2 rfl (g_v (fun a w F M R r => o_build F rfl rfl r) ?_)))))
  refine g_stA 0 rfl rfl rfl rfl rfl rfl rfl ?_
  exact gR 5 rfl (g_retC2 0 rfl rfl rfl rfl rfl rfl fun w M => PhS.err (stR_0 hs0) M.ext)
 refine gR 2 rfl (g_box rfl rfl fun b3 => g_alloc fun b6 => gR 6 rfl (g_ld1 1 rfl rfl rfl (gR 3 rfl (g_ifF rfl (dqF (by omega)) (gR 11 rfl (g_loop (ι := Nat) ⟨fun (i : Nat) => l.length - i, fun (i : Nat) => i ≤ l.length ∧ (∀ j (h : j < i) (h2 : j < l.length), org1 self l[j] = true), fun (i : Nat) => [(16, .int .i64 i), (15, .int .i64 l.length), (14, .slice q l.length cap), (3, .pointer (some ⟨b3, 0, none⟩)), (1, .int .i64 now), (2, .slice q l.length cap), (6, .pointer (some ⟨b6, 0, none⟩))], fun (i : Nat) => [[(b6, .cells (rtC rt0 rx0).toArray 53 (0, 0))], [(b3, .cells [.int .u64 self].toArray 41 (0, 0))]]⟩ 0 ⟨by omega, by omega⟩ (fun a F => F.only [16, 15, 14, 3, 1, 2, 6] rfl) (by repeat (first | exact .refl _ | apply sC2 | apply sC1)) ?_))))))
 rintro i ⟨hi_i, hdm⟩
 by_cases hlt_i : i < l.length
 ·obtain ⟨b, o, cs, t', fz, rfl, hb, hs⟩ := hm (by omega)
  obtain ⟨x, hx0⟩ : ∃ x, x = l[i] := ⟨_, rfl⟩
  have hxm : x ∈ l := by rw [hx0];exact List.getElem_mem hlt_i
  have hxi : IsOg x := hx _ hxm
  have f1 : seg cs (o + (i : Int).toNat * 34) 34 = some (ogC x) := by rw [hx0];exact seg_el (ogs_len hx) hs hlt_i (by omega)
  have p1 : x.dip.length = 16 := hxi.1.len
  have p2 : x.sip.length = 16 := hxi.2.len
  cases v1 : validP x.dip x.dbits
  ·refine gR 6 rfl ?_
   refine g_ifT rfl (dqT (by omega)) (gR 6 rfl (g_ixS rfl rfl (by omega) (by omega) (g_leA rfl ‹_› (by with_reducible assumption) ?_)))
   refine g_alloc fun b9 => g_stA 0 rfl rfl (og_len ‹_›) (og_one _) rfl (put_all (by rw [og_len ‹_›];first | rfl | rw [og_len ‹_›])) rfl ?_
   refine gR 5 rfl (g_ldA 0 rfl rfl (og_dst ‹_›) ?_)
   refine g_call rfl rfl (fun w M => validPrefix_c _ _ ‹_› _) ?_
   refine gR 2 rfl (g_know 24 rfl (notT ‹_›) ?_)
   refine gR 10 rfl (g_v (fun a w F M R r => o_build F rfl rfl r) ?_)
   refine g_stA 1 rfl rfl rfl rfl rfl rfl rfl ?_
   exact gR 6 rfl (g_outR (gR 2 rfl (g_retC2 1 rfl rfl rfl rfl rfl rfl fun w M => PhS.err (stR_F hxm (org1_F1 v1)) M.ext)))
  cases v2 : validP x.sip x.sbits
  ·refine gR 6 rfl ?_
   refine g_ifT rfl (dqT (by omega)) (gR 6 rfl (g_ixS rfl rfl (by omega) (by omega) (g_leA rfl ‹_› (by with_reducible assumption) ?_)))
   refine g_alloc fun b9 => g_stA 0 rfl rfl (og_len ‹_›) (og_one _) rfl (put_all (by rw [og_len ‹_›];first | rfl | rw [og_len ‹_›])) rfl ?_
   refine gR 5 rfl (g_ldA 0 rfl rfl (og_dst ‹_›) ?_)
   refine g_call rfl rfl (fun w M => validPrefix_c _ _ ‹_› _) ?_
   refine gR 2 rfl (g_know 24 rfl (notF ‹_›) ?_)
   refine gR 1 rfl (g_ldA 0 rfl rfl (og_src ‹_›) ?_)
   refine g_call rfl rfl (fun w M => validPrefix_c _ _ ‹_› _) ?_
   refine gR 4 rfl (g_ifT rfl (notT ‹_›) ?_)
   refine gR 2 rfl (g_v (fun a w F M R r => o_build F rfl rfl r) ?_)
   refine g_stA 1 rfl rfl rfl rfl rfl rfl rfl ?_
   exact gR 6 rfl (g_outR (gR 2 rfl (g_retC2 1 rfl rfl rfl rfl rfl rfl fun w M => PhS.err (stR_F hxm (org1_F2 v2)) M.ext)))
  ·refine gR 6 rfl ?_
   refine g_ifT rfl (dqT (by omega)) (gR 6 rfl (g_ixS rfl rfl (by omega) (by omega) (g_leA rfl ‹_› (by with_reducible assumption) ?_)))
   refine g_alloc fun b9 => g_stA 0 rfl rfl (og_len ‹_›) (og_one _) rfl (put_all (by rw [og_len ‹_›];first | rfl | rw [og_len ‹_›])) rfl ?_
   refine gR 5 rfl (g_ldA 0 rfl rfl (og_dst ‹_›) ?_)
   refine g_call rfl rfl (fun w M => validPrefix_c _ _ ‹_› _) ?_
   refine gR 2 rfl (g_know 24 rfl (notF ‹_›) ?_)
   refine gR 1 rfl (g_ldA 0 rfl rfl (og_src ‹_›) ?_)
   refine g_call rfl rfl (fun w M => validPrefix_c _ _ ‹_› _) ?_
   refine gR 4 rfl (g_ifF rfl (notF ‹_›) ?_)
   exact gR 4 rfl (g_add rfl rfl (w_i64 (by omega) (by omega)) (gR 2 rfl (g_next (i + 1) ⟨by omega, hno_T hlt_i hx0 hdm (org1_T hs0 v1 v2)⟩ (by dsimp only;omega) (fun a F => F.only [16, 15, 14, 3, 1, 2, 6] rfl) (by (try dsimp only);repeat (first | exact .refl _ | with_reducible exact sC0 _ | with_reducible apply sC2 | apply sC1)))))
 ·have hal : l.all (org1 self) = true := all_T (by omega) hdm
  cases ht : isTime now
  ·refine gR 6 rfl ?_
   refine g_ifF rfl (dqF (by omega)) (gR 2 rfl (g_outX (gR 6 rfl (g_call rfl rfl (fun w M => oisTime_c _ _) (gR 3 rfl (g_ifT rfl (notT ‹_›) ?_))))))
   refine gR 2 rfl (g_v (fun a w F M R r => o_build F rfl rfl r) ?_)
   refine g_stA 0 rfl rfl rfl rfl rfl rfl rfl ?_
   exact gR 5 rfl (g_retC2 0 rfl rfl rfl rfl rfl rfl fun w M => PhS.err (stR_T hs0 hal ht) M.ext)
  obtain ⟨hn0, hn1⟩ := isTime_bd ht
  refine gR 6 rfl (g_ifF rfl (dqF (by omega)) (gR 2 rfl (g_outX (gR 6 rfl (g_call rfl rfl (fun w M => oisTime_c _ _) (gR 3 rfl (g_ifF rfl (notF ‹_›) ?_)))))))
  refine gR 5 rfl ?_
  refine g_callN (ι := Value × List (Nat × Obj)) (fun j => j.1) (fun j => OwnS 85 34 j.1 l.length (ogsC l) j.2) (fun j => [j.2]) rfl rfl (fun w M => Cal.mono (cloneO_c l (by omega) _ w (hS.later M.ext)) fun r w' hh => by
   obtain ⟨ent, e1, _, e2⟩ := hh
   exact ⟨(r, ent), rfl, e1, by simpa using e2⟩) ?_
  rintro ⟨u, es⟩ hO
  dsimp only [List.cons_append, List.nil_append] at hO ⊢
  refine gR 6 rfl (g_mkF (us := [Value.pointer (some ⟨b3, 0, none⟩)]) rfl rfl ?_)
  refine g_callOp 0 (fun _ e' => ∃ ls : List OrgV, ls.Perm l ∧ (ls.Pairwise fun a b => ¬ cmpOg self b a < 0) ∧ OwnS 85 34 u ls.length (ogsC ls) e') rfl rfl rfl (fun _ => rfl) (fun w r hp M => by
   obtain ⟨h3, h3n⟩ := own_ne (b := b3) (o := .cells [.int .u64 self].toArray 41 (0, 0)) hO M hp (by simp) (fun xs h => by injection h with _ h2;exact absurd h2 (by decide))
   exact Cal.mono (sortO_c self l hx (by omega) M hO (.app .here) h3 h3n) fun u' w' hh => by
    obtain ⟨ls, e', a, b, c, d⟩ := hh
    exact ⟨e', ⟨ls, a, b, c⟩, d⟩) ?_
  rintro u' e' ⟨ls, hp, hsr, hO'⟩
  have hxs : ∀ x ∈ ls, IsOg x := fun x hh => hx x (hp.mem_iff.1 hh)
  have hde := dedO hx hp hsr
  have hll := hp.length_eq
  refine gR 5 rfl ?_
  refine g_callOp 0 (fun u e' => OwnS 85 34 u (dedA ls).length (ogsC ((dedA ls))) e') rfl rfl rfl (fun _ => rfl) (fun w r _ M => Cal.mono (compactO_c ls hxs (by omega) M hO' (.app .here)) fun u' w' hh => by
   obtain ⟨_, e', rfl, c, d⟩ := hh
   exact ⟨e', c, d⟩) ?_
  intro u2 e2 hO2
  rw [hde] at hO2
  have hug : (ogU self l).length ≤ 1000 := by
   rw [← hde]
   have := dedA_le ls ls.length (Nat.le_refl _)
   rw [List.take_length] at this
   omega
  obtain ⟨q4, c4, rfl, hq4⟩ := own_q hO2
  by_cases hlm : 8 < (ogU self l).length
  ·refine gR 11 rfl ?_
   refine g_ifT rfl (dqT (by omega)) (gR 2 rfl (g_v (fun a w F M R r => o_build F rfl rfl r) ?_))
   refine g_stA 1 rfl rfl rfl rfl rfl rfl rfl ?_
   exact gR 5 rfl (g_retC2 1 rfl rfl rfl rfl rfl rfl fun w M => PhS.err (stR_L hs0 hal ht hlm) M.ext)
  refine gR 11 rfl (g_ifF rfl (dqF (by omega)) (gR 3 rfl (g_draw 9 56 rfl (by kernel_rfl) (fd_ld1 2 rfl rfl rfl (fR 2 rfl (fd_call rfl rfl (fun w M => rtlater_c _ _ ‹_› ‹_› (by omega) (by omega) _) ?_))))))
  refine fR 3 rfl (fd_v (fun a w F M R r => o_build F rfl rfl r) (fd_v (fun a w F M R r => o_build F rfl rfl r) (fd_done rfl rfl ?_)))
  refine g_stA 1 rfl rfl rfl rfl rfl rfl rfl ?_
  exact gR 4 rfl (g_retC2 1 rfl rfl rfl rfl rfl rfl fun w M => PhS.ok hs0 hal ht hlm hO2 (M.sub (List.sublist_append_left _ _)))
end Go.Proofs.YtfhkmgcalcfibaaGreat
namespace Go.Proofs.YtfhkmgcalcfibaaGreat
open Go.RowKit
attribute [local irreducible] OpTo wpListIn Code.wpIn MW Cal
def SlV (n : Nat) (cs : List Value) : Pred := fun v w => SlAt w 37 v n cs
theorem SlV.stays (n : Nat) (cs : List Value) : Stays keepAll (SlV n cs) := fun _ _ _ h E => SlAt.later h E
theorem eqOg_c (l : List OrgV) (hx : ∀ x ∈ l, IsOg x) (hlen : l.length ≤ 100000) (u v : Value) (W : World) (hu : SlAt W 34 u l.length (ogsC l)) (hv : SlAt W 34 v l.length (ogsC l)) :
  Cal Tryz.prog 94 [u, v].toArray W fun r w' => r = .bool true ∧ Ext [] W w' := by
 obtain ⟨q1, cap1, rfl, _⟩ := id hu
 obtain ⟨q2, cap2, rfl, _⟩ := id hv
 have hm1 := hu.memB [] (by simp)
 have hm2 := hv.memB [] (by simp)
 refine g_start (n := 26) (S := []) fldT_ok slcT_ok Tryz.func94 rfl rfl rfl (gR 15 rfl (g_ifF rfl (bneF (by omega)) (gR 11 rfl (g_loop (ι := Nat) ⟨fun (i : Nat) => l.length - i, fun (i : Nat) => i ≤ l.length ∧ (True), fun (i : Nat) => [(13, .int .i64 i), (12, .int .i64 l.length), (0, .slice q1 l.length cap1), (1, .slice q2 l.length cap2)], fun (i : Nat) => []⟩ 0 ⟨by omega, trivial⟩ (fun a F => F.only [13, 12, 0, 1] rfl) (by repeat (first | exact .refl _ | apply sC2 | apply sC1)) ?_))))
 rintro i ⟨hi_i, hdm⟩
 by_cases hlt_i : i < l.length
 ·obtain ⟨b, o, cs, t', fz, rfl, hb, hs⟩ := hm1 (by omega)
  obtain ⟨x, hx0⟩ : ∃ x, x = l[i] := ⟨_, rfl⟩
  have hxm : x ∈ l := by rw [hx0];exact List.getElem_mem hlt_i
  have hxi : IsOg x := hx _ hxm
  have f1 : seg cs (o + (i : Int).toNat * 34) 34 = some (ogC x) := by rw [hx0];exact seg_el (ogs_len hx) hs hlt_i (by omega)
  obtain ⟨b', o', cs', t2, fz', rfl, hb', hs'⟩ := hm2 (by omega)
  have f2 : seg cs' (o' + (i : Int).toNat * 34) 34 = some (ogC x) := by rw [hx0];exact seg_el (ogs_len hx) hs' hlt_i (by omega)
  have f3 : fitsK ogK (ogC x) = true := og_fits hxi
  have f4 : eqVs (ogC x) (ogC x) = true := by rw [og_eq hxi hxi];simp
  refine gR 6 rfl (g_ifT rfl (dqT (by omega)) (gR 11 rfl (g_draw 9 26 rfl (by kernel_rfl) (fR 2 rfl (fd_ixS rfl rfl (by omega) (by omega) (fd_leA rfl ‹_› (by with_reducible assumption) ?_))))))
  refine fR 2 rfl (fd_ixS rfl rfl (by omega) (by omega) (fd_leA rfl ‹_› (by with_reducible assumption) ?_))
  refine fd_neA rfl rfl (og_fits ‹_›) (og_fits ‹_›) (og_eq ‹_› ‹_›) ?_
  refine fd_done rfl rfl (gR 2 rfl (g_if rfl (fun h1 => ?_) (fun h1 => ?_)))
  ·replace h1 := false_of_not h1
   exact gR 8 rfl (g_outR (gR 2 rfl (g_ret1 rfl rfl rfl fun w M => absurd (by assumption : decide (x = x) = false) (by simp))))
  ·replace h1 := true_of_not h1
   exact gR 4 rfl (g_add rfl rfl (w_i64 (by omega) (by omega)) (gR 2 rfl (g_next (i + 1) ⟨by omega, trivial⟩ (by dsimp only;omega) (fun a F => F.only [13, 12, 0, 1] rfl) (by (try dsimp only);repeat (first | exact .refl _ | with_reducible exact sC0 _ | with_reducible apply sC2 | apply sC1)))))
 ·refine gR 6 rfl ?_
  exact g_ifF rfl (dqF (by omega)) (gR 2 rfl (g_outX (gR 8 rfl (g_ret1 rfl rfl rfl fun w M => ⟨rfl, M.ext⟩))))
theorem eqAj0_c (W : World) : Cal Tryz.prog 95 [.slice none 0 0, .slice none 0 0].toArray W fun r w' => r = .bool true ∧ Ext [] W w' := by
 refine g_start (n := 26) (S := []) fldT_ok slcT_ok Tryz.func95 rfl rfl rfl (gR 27 rfl (g_loop (ι := Nat) ⟨fun _ => 0, fun _ => True, fun _ => [(13, .int .i64 0), (12, .int .i64 0), (0, .slice none 0 0), (1, .slice none 0 0)], fun _ => []⟩ 0 trivial (fun a F => F.only [13, 12, 0, 1] rfl) (by repeat (first | exact .refl _ | apply sC2 | apply sC1)) ?_))
 intro _ _
 exact gR 9 rfl (g_outX (gR 8 rfl (g_ret1 rfl rfl rfl fun w M => ⟨rfl, M.ext⟩)))
theorem eqSr0_c (W : World) : Cal Tryz.prog 96 [.slice none 0 0, .slice none 0 0].toArray W fun r w' => r = .bool true ∧ Ext [] W w' := by
 refine g_start (n := 26) (S := []) fldT_ok slcT_ok Tryz.func96 rfl rfl rfl (gR 27 rfl (g_loop (ι := Nat) ⟨fun _ => 0, fun _ => True, fun _ => [(13, .int .i64 0), (12, .int .i64 0), (0, .slice none 0 0), (1, .slice none 0 0)], fun _ => []⟩ 0 trivial (fun a F => F.only [13, 12, 0, 1] rfl) (by repeat (first | exact .refl _ | apply sC2 | apply sC1)) ?_))
 intro _ _
 exact gR 9 rfl (g_outX (gR 8 rfl (g_ret1 rfl rfl rfl fun w M => ⟨rfl, M.ext⟩)))
theorem eqRo0_c (W : World) : Cal Tryz.prog 97 [.slice none 0 0, .slice none 0 0].toArray W fun r w' => r = .bool true ∧ Ext [] W w' := by
 refine g_start (n := 26) (S := []) fldT_ok slcT_ok Tryz.func97 rfl rfl rfl (gR 27 rfl (g_loop (ι := Nat) ⟨fun _ => 0, fun _ => True, fun _ => [(13, .int .i64 0), (12, .int .i64 0), (0, .slice none 0 0), (1, .slice none 0 0)], fun _ => []⟩ 0 trivial (fun a F => F.only [13, 12, 0, 1] rfl) (by repeat (first | exact .refl _ | apply sC2 | apply sC1)) ?_))
 intro _ _
 exact gR 9 rfl (g_outX (gR 8 rfl (g_ret1 rfl rfl rfl fun w M => ⟨rfl, M.ext⟩)))
theorem eqIn0_c (W : World) : Cal Tryz.prog 98 [.slice none 0 0, .slice none 0 0].toArray W fun r w' => r = .bool true ∧ Ext [] W w' := by
 refine g_start (n := 26) (S := []) fldT_ok slcT_ok Tryz.func98 rfl rfl rfl (gR 27 rfl (g_loop (ι := Nat) ⟨fun _ => 0, fun _ => True, fun _ => [(13, .int .i64 0), (12, .int .i64 0), (0, .slice none 0 0), (1, .slice none 0 0)], fun _ => []⟩ 0 trivial (fun a F => F.only [13, 12, 0, 1] rfl) (by repeat (first | exact .refl _ | apply sC2 | apply sC1)) ?_))
 intro _ _
 exact gR 9 rfl (g_outX (gR 8 rfl (g_ret1 rfl rfl rfl fun w M => ⟨rfl, M.ext⟩)))
theorem eqRq0_c (W : World) : Cal Tryz.prog 99 [.slice none 0 0, .slice none 0 0].toArray W fun r w' => r = .bool true ∧ Ext [] W w' := by
 refine g_start (n := 26) (S := []) fldT_ok slcT_ok Tryz.func99 rfl rfl rfl (gR 27 rfl (g_loop (ι := Nat) ⟨fun _ => 0, fun _ => True, fun _ => [(13, .int .i64 0), (12, .int .i64 0), (0, .slice none 0 0), (1, .slice none 0 0)], fun _ => []⟩ 0 trivial (fun a F => F.only [13, 12, 0, 1] rfl) (by repeat (first | exact .refl _ | apply sC2 | apply sC1)) ?_))
 intro _ _
 exact gR 9 rfl (g_outX (gR 8 rfl (g_ret1 rfl rfl rfl fun w M => ⟨rfl, M.ext⟩)))
theorem eqAv0_c (W : World) : Cal Tryz.prog 40 [.slice none 0 0, .slice none 0 0].toArray W fun r w' => r = .bool true ∧ Ext [] W w' := by
 refine g_start (n := 26) (S := []) fldT_ok slcT_ok Tryz.func40 rfl rfl rfl (gR 27 rfl (g_loop (ι := Nat) ⟨fun _ => 0, fun _ => True, fun _ => [(13, .int .i64 0), (12, .int .i64 0), (0, .slice none 0 0), (1, .slice none 0 0)], fun _ => []⟩ 0 trivial (fun a F => F.only [13, 12, 0, 1] rfl) (by repeat (first | exact .refl _ | apply sC2 | apply sC1)) ?_))
 intro _ _
 exact gR 9 rfl (g_outX (gR 8 rfl (g_ret1 rfl rfl rfl fun w M => ⟨rfl, M.ext⟩)))
theorem samePl0_c (n : Int) (W : World) : Cal Tryz.prog 100 [.agg [.slice none 0 0, .int .i64 n].toArray, .agg [.slice none 0 0, .int .i64 n].toArray].toArray W fun r w' => r = .bool true ∧ Ext [] W w' := by
 exact g_start (n := 17) (S := []) fldT_ok slcT_ok Tryz.func100 rfl rfl rfl (gR 2 rfl (g_box rfl rfl fun b2 => g_box rfl rfl fun b3 => gR 6 rfl (g_ld1 1 rfl rfl rfl (gR 1 rfl (g_ld1 0 rfl rfl rfl (gR 2 rfl (g_know 10 rfl (dqT (by omega)) (gR 1 rfl (g_ld1 1 rfl rfl rfl (gR 1 rfl (g_ld1 0 rfl rfl rfl (g_call rfl rfl (fun w M => eqAv0_c _) (gR 5 rfl (g_ret1 rfl rfl rfl fun w M => ⟨rfl, M.ext⟩))))))))))))))
def NoRt (s : RtV) : Prop := s.aj = [] ∧ s.sr = [] ∧ s.ro = [] ∧ s.ins = [] ∧ s.rq = [] ∧ s.av = []
theorem sameRt_c (s : RtV) (hx : ∀ x ∈ s.og, IsOg x) (hlen : s.og.length ≤ 100000) (u v : Value) (W : World) (hu : SlAt W 34 u s.og.length (ogsC s.og)) (hv : SlAt W 34 v s.og.length (ogsC s.og)) : Cal Tryz.prog 33 [.agg (rtC s (rxU u)).toArray, .agg (rtC s (rxU v)).toArray].toArray W fun r w' => r = .bool true ∧ Ext [] W w' := by
 obtain ⟨q1, cap1, rfl, _⟩ := id hu
 obtain ⟨q2, cap2, rfl, _⟩ := id hv
 refine g_start (n := 94) (S := []) fldT_ok slcT_ok Tryz.func33 rfl rfl rfl (gR 2 rfl (g_box rfl rfl fun b2 => g_box rfl rfl fun b3 => gR 6 rfl (g_ld1 1 rfl rfl rfl (gR 1 rfl (g_ld1 0 rfl rfl rfl (gR 2 rfl (g_know 10 rfl (dqT (by omega)) (gR 1 rfl (g_ld1 1 rfl rfl rfl (gR 1 rfl (g_ld1 0 rfl rfl rfl (gR 3 rfl (g_know 17 rfl (dqT (by omega)) (gR 1 rfl (g_ld1 1 rfl rfl rfl (gR 1 rfl (g_ld1 0 rfl rfl rfl (gR 3 rfl (g_know 24 rfl (dqT (by omega)) (gR 1 rfl (g_ld1 1 rfl rfl rfl (gR 1 rfl (g_ld1 0 rfl rfl rfl (gR 3 rfl (g_know 31 rfl (dqT (by omega)) (gR 1 rfl (g_ld1 1 rfl rfl rfl (gR 1 rfl (g_ld1 0 rfl rfl rfl (gR 3 rfl (g_know 38 rfl (dqT (by omega)) (gR 1 rfl (g_ld1 1 rfl rfl rfl (gR 1 rfl (g_ld1 0 rfl rfl rfl (gR 3 rfl ?_))))))))))))))))))))))))))))))))))))
 refine g_know 45 rfl (dqT (by omega)) (gR 1 rfl (g_ld1 1 rfl rfl rfl (gR 1 rfl (g_ld1 0 rfl rfl rfl (g_call rfl rfl (fun w M => eqOg_c _ ‹_› ‹_› _ _ _ ((by assumption : SlAt _ _ _ _ _).later M.ext) ((by assumption : SlAt _ _ _ _ _).later M.ext)) ?_)))))
 refine gR 3 rfl (g_ld1 1 rfl rfl rfl (gR 1 rfl (g_ld1 0 rfl rfl rfl (g_call rfl rfl (fun w M => eqAj0_c _) (gR 3 rfl (g_ld1 1 rfl rfl rfl (gR 1 rfl (g_ld1 0 rfl rfl rfl (g_call rfl rfl (fun w M => eqSr0_c _) (gR 3 rfl (g_ld1 1 rfl rfl rfl (gR 1 rfl (g_ld1 0 rfl rfl rfl (g_call rfl rfl (fun w M => eqRo0_c _) (gR 3 rfl (g_ld1 1 rfl rfl rfl (gR 1 rfl (g_ld1 0 rfl rfl rfl (g_call rfl rfl (fun w M => eqIn0_c _) (gR 3 rfl (g_ld1 1 rfl rfl rfl (gR 1 rfl (g_ld1 0 rfl rfl rfl (g_call rfl rfl (fun w M => eqRq0_c _) (gR 3 rfl (g_ldA 1 rfl rfl rfl ?_))))))))))))))))))))))))))
 refine gR 1 rfl (g_ldA 0 rfl rfl rfl ?_)
 exact g_call rfl rfl (fun w M => samePl0_c _ _) (gR 5 rfl (g_ret1 rfl rfl rfl fun w M => ⟨rfl, M.ext⟩))
end Go.Proofs.YtfhkmgcalcfibaaGreat
namespace Go.Proofs.YtfhkmgcalcfibaaGreat
open Go.RowKit
theorem OpTo.guard {P : Program} {d : Option Nat} {op : Op} {ty : TypeId} {pos : String} {af : Array Edge} {g : Option (Nat × Bool)} {ρ : Operand → Value} {w : World} {R : Value → World → Prop} (h : OpTo P ⟨d, op, ty, pos, af, none⟩ ρ w R) : OpTo P ⟨d, op, ty, pos, af, g⟩ ρ w R := by
 have e : execOp ρ ⟨d, op, ty, pos, af, g⟩ = execOp ρ ⟨d, op, ty, pos, af, none⟩ := by cases op <;> rfl
 unfold OpTo at *
 rw [e]
 exact h
section
variable {c : Cx} {Q : Exit → Act → World → Prop} {ks : List KF} {fr fr' : List (Nat × Value)} {l : Row} {x : RX} {rest rest' : List Oper} {k k' : Nat} {xs : List (Nat × XP)} {E : ESt} {d : Nat} {op : Op} {ty : TypeId} {pos : String} {af : Array Edge} {g : Option (Nat × Bool)}
section
variable {ι : Type} {P : ι → Prop} {sl : ι → List (Nat × Value)} {li : ι → Row}
end
end
/-! ### integers that are not told -/
def cstP (n : Int) : Int := (n + 633825300114114700748351602688) % 1267650600228229401496703205376 - 633825300114114700748351602688
def rstP (n : Int) : Int := (n + 633825300114114700748351602688) / 1267650600228229401496703205376
def smP (c : Int) : Bool := Nat.blt c.natAbs 316912650057057350374175801344
def okA (n : Int) : Bool := smP (cstP n) && smP (cstP (rstP n)) && smP (cstP (rstP (rstP n))) && smP (cstP (rstP (rstP (rstP n))))
def litI (n : Int) : Bool := Nat.blt n.natAbs 1237940039285380274899124224
class Sy where
 th : Int → Int
 rng : Int → Option (Int × Int)
 lit : ∀ n : Int, litI n = true → th n = n
 add : ∀ x y : Int, okA x = true → okA y = true → th (x + y) = th x + th y
 sub : ∀ x y : Int, okA x = true → okA y = true → th (x - y) = th x - th y
 rng_ok : ∀ x lo hi : Int, rng x = some (lo, hi) → lo ≤ th x ∧ th x ≤ hi
variable [Y : Sy]
/-! ### values, up to where their blocks lie -/
abbrev Rl := Nat → Option (Nat × Nat)
def capR (c k : Nat) : Nat := if k < 9223372036854775808 then k else c - (18446744073709551616 - k)
mutual
inductive VR [Y : Sy] (ρ : Rl) : Value → Value → Prop
 | bool (b : Bool) : VR ρ (.bool b) (.bool b)
 | int (k : IntKind) (n : Int) : VR ρ (.int k n) (.int k (Y.th n))
 | str (s : ByteArray) : VR ρ (.string s) (.string s)
 | ptr0 : VR ρ (.pointer none) (.pointer none)
 | ptr {b o r c : Nat} (h : ρ b = some (r, c)) : VR ρ (.pointer (some ⟨b, o, none⟩)) (.pointer (some ⟨r, o, none⟩))
 | sl0 (n c : Nat) : VR ρ (.slice none n c) (.slice none n c)
 | sl {b o r c n k : Nat} (h : ρ b = some (r, c)) (hn : n ≤ capR c k) : VR ρ (.slice (some ⟨b, o, none⟩) n k) (.slice (some ⟨r, o, none⟩) n (capR c k))
 | slE (q : Addr) (k : Nat) : VR ρ (.slice (some ⟨0, 0, some 0⟩) 0 0) (.slice (some q) 0 k)
 | fn {f : Fn} {vs us : Array Value} {vs' us' : List Value} (h1 : VRs ρ vs.toList vs') (h2 : VRs ρ us.toList us') : VR ρ (.func f vs us) (.func f vs'.toArray us'.toArray)
 | nilF : VR ρ .nilFunc .nilFunc
 | nilI : VR ρ .nilIface .nilIface
 | map0 : VR ρ (.map none) (.map none)
 | mp {b r c : Nat} (h : ρ b = some (r, c)) : VR ρ (.map (some b)) (.map (some r))
 | agg {cs : Array Value} {cs' : List Value} (h : VRs ρ cs.toList cs') : VR ρ (.agg cs) (.agg cs'.toArray)
 | tup {cs : Array Value} {cs' : List Value} (h : VRs ρ cs.toList cs') : VR ρ (.tuple cs) (.tuple cs'.toArray)
inductive VRs [Y : Sy] (ρ : Rl) : List Value → List Value → Prop
 | nil : VRs ρ [] []
 | cons {v v' : Value} {vs vs' : List Value} (h : VR ρ v v') (t : VRs ρ vs vs') : VRs ρ (v :: vs) (v' :: vs')
end
mutual
theorem VR.mono {ρ ρ' : Rl} (hle : ∀ b r, ρ b = some r → ρ' b = some r) : ∀ {v u : Value}, VR ρ v u → VR ρ' v u
 | _, _, .bool b => .bool b
 | _, _, .int k n => .int k n
 | _, _, .str s => .str s
 | _, _, .ptr0 => .ptr0
 | _, _, .ptr h => .ptr (hle _ _ h)
 | _, _, .sl0 n c => .sl0 n c
 | _, _, .sl h hn => .sl (hle _ _ h) hn
 | _, _, .slE q k => .slE q k
 | _, _, .fn h1 h2 => .fn (VRs.mono hle h1) (VRs.mono hle h2)
 | _, _, .nilF => .nilF
 | _, _, .nilI => .nilI
 | _, _, .map0 => .map0
 | _, _, .mp h => .mp (hle _ _ h)
 | _, _, .agg h => .agg (VRs.mono hle h)
 | _, _, .tup h => .tup (VRs.mono hle h)
theorem VRs.mono {ρ ρ' : Rl} (hle : ∀ b r, ρ b = some r → ρ' b = some r) : ∀ {v u : List Value}, VRs ρ v u → VRs ρ' v u
 | _, _, .nil => .nil
 | _, _, .cons h t => .cons (VR.mono hle h) (VRs.mono hle t)
end
theorem VRs.len {ρ : Rl} : ∀ {v u : List Value}, VRs ρ v u → u.length = v.length
 | _, _, .nil => rfl
 | _, _, .cons _ t => by simp [VRs.len t]
theorem VRs.app {ρ : Rl} : ∀ {v u v2 u2 : List Value}, VRs ρ v u → VRs ρ v2 u2 → VRs ρ (v ++ v2) (u ++ u2)
 | _, _, _, _, .nil, h => h
 | _, _, _, _, .cons h t, h2 => .cons h (VRs.app t h2)
theorem VRs.split {ρ : Rl} : ∀ {v v2 u : List Value}, VRs ρ (v ++ v2) u → ∃ u1 u2, u = u1 ++ u2 ∧ VRs ρ v u1 ∧ VRs ρ v2 u2
 | [], _, u, h => ⟨[], u, rfl, .nil, h⟩
 | x :: xs, v2, _, .cons h t => by
  obtain ⟨u1, u2, rfl, h1, h2⟩ := VRs.split (v := xs) t
  exact ⟨_ :: u1, u2, rfl, .cons h h1, h2⟩
theorem vr_nth {ρ : Rl} : ∀ {v u : List Value} {i : Nat} {x : Value}, VRs ρ v u → nth v i = some x → ∃ y, nth u i = some y ∧ VR ρ x y
 | _, _, 0, _, .cons h _, e => by
  cases e
  exact ⟨_, rfl, h⟩
 | _, _, i + 1, _, .cons _ t, e => vr_nth (i := i) t e
theorem vr_seg {ρ : Rl} : ∀ {v u : List Value} {off n : Nat} {xs : List Value}, VRs ρ v u → seg v off n = some xs → ∃ ys, seg u off n = some ys ∧ VRs ρ xs ys
 | v, u, 0, 0, xs, h, e => by
  cases h <;> (simp [seg] at e;subst e;exact ⟨[], by simp [seg], .nil⟩)
 | _, _, off + 1, 0, xs, .nil, e => by
  simp [seg] at e
 | _, _, 0, n + 1, xs, .nil, e => by
  simp [seg] at e
 | _, _, off + 1, n + 1, xs, .nil, e => by
  simp [seg] at e
 | _, _, off + 1, n, xs, .cons (vs := vs) h t, e => by
  have e' : seg vs off n = some xs := by cases n <;> simpa [seg] using e
  obtain ⟨ys, h1, h2⟩ := vr_seg t e'
  exact ⟨ys, by cases n <;> simpa [seg] using h1, h2⟩
 | _, _, 0, n + 1, xs, .cons (vs := vs) h t, e => by
  simp only [seg] at e
  split at e
  ·rename_i r hr
   cases e
   obtain ⟨ys, h1, h2⟩ := vr_seg t hr
   exact ⟨_ :: ys, by simp [seg, h1], .cons h h2⟩
  ·cases e
omit Y in
theorem seg_junk {xs junk : List Value} {off n : Nat} {ys : List Value} (h : seg xs off n = some ys) : seg (xs ++ junk) off n = some ys := by
 induction xs generalizing off n ys with
 | nil =>
  cases off <;> cases n <;> simp [seg] at h
  subst h
  cases junk <;> simp [seg]
 | cons x xs ih =>
  cases off with
  | zero =>
   cases n with
   | zero => simpa [seg] using h
   | succ n =>
    simp only [seg] at h
    split at h
    ·rename_i r hr
     cases h
     simp [seg, ih hr]
    ·cases h
  | succ off => cases n <;> (simp only [List.cons_append, seg] at h ⊢;exact ih h)
omit Y in
theorem nth_junk {xs junk : List Value} {i : Nat} {y : Value} (h : nth xs i = some y) : nth (xs ++ junk) i = some y := by
 rw [nth_spec] at h ⊢
 have := (List.getElem?_eq_some_iff.1 h).1
 rw [List.getElem?_append_left this, h]
theorem vr_put {ρ : Rl} {v u ys zs rs : List Value} {off : Nat} (h : VRs ρ v u) (h2 : VRs ρ ys zs) (e : put v off ys = some rs) : ∃ us, put u off zs = some us ∧ VRs ρ rs us := by
 obtain ⟨h3, rfl⟩ := put_splice _ _ _ _ e
 refine ⟨_, put_of _ _ _ (by rw [h2.len, h.len];exact h3), ?_⟩
 have ht : ∀ (n : Nat) {a b : List Value}, VRs ρ a b → VRs ρ (a.take n) (b.take n) := fun n a b hab => by
  rw [← List.take_append_drop n a] at hab
  obtain ⟨u1, u2, rfl, q1, q2⟩ := hab.split
  have hl := q1.len
  have hl2 := q2.len
  rw [List.length_take] at hl
  have : (u1 ++ u2).take n = u1 := by
   by_cases hn : n ≤ a.length
   ·rw [List.take_append_of_le_length (by omega), List.take_of_length_le (by omega)]
   ·have : u2 = [] := List.length_eq_zero_iff.1 (by rw [hl2, List.length_drop];omega)
    rw [this, List.append_nil, List.take_of_length_le (by omega)]
  rw [this]
  exact q1
 have hd : ∀ (n : Nat) {a b : List Value}, VRs ρ a b → VRs ρ (a.drop n) (b.drop n) := fun n a b hab => by
  rw [← List.take_append_drop n a] at hab
  obtain ⟨u1, u2, rfl, q1, q2⟩ := hab.split
  have hl := q1.len
  have hl2 := q2.len
  rw [List.length_take] at hl
  rw [List.length_drop] at hl2
  have : (u1 ++ u2).drop n = u2 := by
   by_cases hn : n ≤ a.length
   ·rw [List.drop_append_of_le_length (by omega), List.drop_of_length_le (by omega), List.nil_append]
   ·have : u2 = [] := List.length_eq_zero_iff.1 (by omega)
    rw [this, List.append_nil, List.drop_of_length_le (by omega)]
  rw [this]
  exact q2
 unfold splice
 exact (ht _ h).app (h2.app (by rw [h2.len];exact hd _ h))
omit Y in
theorem put_junk {xs ys zs junk : List Value} {off : Nat} (h : put xs off ys = some zs) : put (xs ++ junk) off ys = some (zs ++ junk) := by
 obtain ⟨h1, rfl⟩ := put_splice _ _ _ _ h
 rw [put_of _ _ _ (by simp;omega)]
 unfold splice
 rw [List.take_append_of_le_length (by omega), List.drop_append_of_le_length h1]
 simp
/-! ### numbers worked out -/
noncomputable def forceN (n : Nat) (c : Nat → Bool) : Bool := Nat.rec (c 0) (fun m _ => c (Nat.succ m)) n
omit Y in
theorem forceN_is (n : Nat) (c : Nat → Bool) : forceN n c = c n := by cases n <;> rfl
noncomputable def forceI (n : Int) (c : Int → Bool) : Bool := Int.rec (fun m => forceN m fun m => c (.ofNat m)) (fun m => forceN m fun m => c (.negSucc m)) n
omit Y in
theorem forceI_is (n : Int) (c : Int → Bool) : forceI n c = c n := by cases n <;> simp [forceI, forceN_is]
noncomputable def forceB (b : Bool) (c : Bool → Bool) : Bool := Bool.rec (c false) (c true) b
omit Y in
theorem forceB_is (b : Bool) (c : Bool → Bool) : forceB b c = c b := by cases b <;> rfl
/-! ### lists -/
noncomputable def nthK (l : List Value) (i : Nat) (c : Value → Bool) : Bool := List.rec (motive := fun _ => Nat → Bool) (fun _ => false) (fun x _ ih i => Nat.rec (c x) (fun j _ => ih j) i) l i
omit Y in
theorem nthK_ok {c : Value → Bool} : ∀ {l : List Value} {i : Nat}, nthK l i c = true → ∃ v, nth l i = some v ∧ c v = true
 | [], _, h => by cases h
 | x :: _, 0, h => ⟨x, rfl, h⟩
 | _ :: _, i + 1, h => nthK_ok (i := i) h
noncomputable def takeK (l : List Value) : Nat → (List Value → Bool) → Bool := List.rec (motive := fun _ => Nat → (List Value → Bool) → Bool) (fun n c => Nat.rec (c []) (fun _ _ => false) n) (fun x _ ih n c => Nat.rec (c []) (fun m _ => ih m fun ys => c (x :: ys)) n) l
noncomputable def segK (l : List Value) : Nat → Nat → (List Value → Bool) → Bool := List.rec (motive := fun _ => Nat → Nat → (List Value → Bool) → Bool) (fun off n c => Nat.rec (Nat.rec (c []) (fun _ _ => false) n) (fun _ _ => false) off) (fun x xs ih off n c => Nat.rec (takeK (x :: xs) n c) (fun o _ => ih o n c) off) l
omit Y in
theorem takeK_ok : ∀ {l : List Value} {n : Nat} {c : List Value → Bool}, takeK l n c = true → ∃ ys, seg l 0 n = some ys ∧ c ys = true
 | [], 0, c, h => ⟨[], rfl, h⟩
 | [], n + 1, c, h => by cases h
 | x :: xs, 0, c, h => ⟨[], rfl, h⟩
 | x :: xs, n + 1, c, h => by
  obtain ⟨ys, h1, h2⟩ := takeK_ok (l := xs) (n := n) (c := fun ys => c (x :: ys)) h
  exact ⟨x :: ys, by simp [seg, h1], h2⟩
omit Y in
theorem segK_ok {c : List Value → Bool} : ∀ {l : List Value} {off n : Nat}, segK l off n c = true → ∃ ys, seg l off n = some ys ∧ c ys = true
 | [], 0, 0, h => ⟨[], rfl, h⟩
 | [], 0, n + 1, h => by cases h
 | [], off + 1, n, h => by cases h
 | x :: xs, 0, n, h => takeK_ok h
 | x :: xs, off + 1, n, h => by
  obtain ⟨ys, h1, h2⟩ := segK_ok (l := xs) (off := off) (n := n) h
  exact ⟨ys, by cases n <;> simpa [seg] using h1, h2⟩
noncomputable def putK (l : List Value) : Nat → List Value → (List Value → Bool) → Bool := List.rec (motive := fun _ => Nat → List Value → (List Value → Bool) → Bool)
 (fun off ys c => Nat.rec (List.rec (c []) (fun _ _ _ => false) ys) (fun _ _ => false) off)
 (fun x xs ih off ys c => Nat.rec (List.rec (c (x :: xs)) (fun y ys' _ => ih 0 ys' fun r => c (y :: r)) ys) (fun o _ => ih o ys fun r => c (x :: r)) off) l
omit Y in
theorem putK_ok : ∀ {l : List Value} {off : Nat} {ys : List Value} {c : List Value → Bool}, putK l off ys c = true → ∃ zs, put l off ys = some zs ∧ c zs = true
 | [], 0, [], c, h => ⟨[], rfl, h⟩
 | [], 0, _ :: _, c, h => by cases h
 | [], off + 1, ys, c, h => by cases h
 | x :: xs, 0, [], c, h => ⟨x :: xs, rfl, h⟩
 | x :: xs, 0, y :: ys, c, h => by
  obtain ⟨zs, h1, h2⟩ := putK_ok (l := xs) (off := 0) (ys := ys) (c := fun r => c (y :: r)) h
  exact ⟨y :: zs, by simp [put, h1], h2⟩
 | x :: xs, off + 1, ys, c, h => by
  obtain ⟨zs, h1, h2⟩ := putK_ok (l := xs) (off := off) (ys := ys) (c := fun r => c (x :: r)) h
  exact ⟨x :: zs, by cases ys <;> simp [put, h1], h2⟩
noncomputable def appK (l : List Value) (ys : List Value) : (List Value → Bool) → Bool := List.rec (motive := fun _ => (List Value → Bool) → Bool) (fun c => c ys) (fun x _ ih c => ih fun r => c (x :: r)) l
omit Y in
theorem appK_is {ys : List Value} : ∀ (l : List Value) (c : List Value → Bool), appK l ys c = c (l ++ ys)
 | [], _ => rfl
 | x :: xs, c => appK_is xs fun r => c (x :: r)
/-! ### tries -/
inductive Tr (α : Type)
 | leaf
 | node (v : Option α) (l r : Tr α)
noncomputable def Tr.get {α : Type} (t : Tr α) : Nat → Option α :=
 Tr.rec (motive := fun _ => Nat → Option α) (fun _ => none) (fun v _ _ gl gr k => Nat.rec (motive := fun _ => Option α) v (fun _ _ => Bool.rec (gr (Nat.div k 2)) (gl (Nat.div k 2)) (Nat.beq (Nat.mod k 2) 0)) k) t
omit Y in
theorem Tr.get_node {α : Type} (v : Option α) (l r : Tr α) (k : Nat) : (Tr.node v l r).get k = if k = 0 then v else if k % 2 = 0 then l.get (k / 2) else r.get (k / 2) := by
 cases k with
 | zero => rfl
 | succ n =>
  show (Bool.rec (r.get ((n + 1) / 2)) (l.get ((n + 1) / 2)) (Nat.beq ((n + 1) % 2) 0) : Option α) = _
  rw [if_neg (Nat.succ_ne_zero n)]
  split
  ·rename_i h
   rw [h]
   rfl
  ·rename_i h
   have : (n + 1) % 2 = 1 := by omega
   rw [this]
   rfl
noncomputable def Tr.setL {α : Type} (f : Nat) : Nat → Option α → (Tr α → Bool) → Bool :=
 Nat.rec (motive := fun _ => Nat → Option α → (Tr α → Bool) → Bool) (fun _ _ _ => false) (fun _ ih k x c => Nat.rec (c (.node x .leaf .leaf)) (fun _ _ => Bool.rec (ih (Nat.div k 2) x fun r => c (.node none .leaf r)) (ih (Nat.div k 2) x fun l => c (.node none l .leaf)) (Nat.beq (Nat.mod k 2) 0)) k) f
noncomputable def Tr.setK {α : Type} (t : Tr α) : Nat → Option α → (Tr α → Bool) → Bool :=
 Tr.rec (motive := fun _ => Nat → Option α → (Tr α → Bool) → Bool) (fun k x c => Tr.setL 40 k x c)
  (fun v l r sl sr k x c => Nat.rec (c (.node x l r)) (fun _ _ => Bool.rec (sr (Nat.div k 2) x fun r => c (.node v l r)) (sl (Nat.div k 2) x fun l => c (.node v l r)) (Nat.beq (Nat.mod k 2) 0)) k) t
omit Y in
theorem Tr.get_leaf {α : Type} (j : Nat) : (Tr.leaf : Tr α).get j = none := rfl
omit Y in
theorem Tr.setL_ok {α : Type} : ∀ {f k : Nat} {x : Option α} {c : Tr α → Bool}, Tr.setL f k x c = true → ∃ t', (∀ j, t'.get j = if j = k then x else none) ∧ c t' = true
 | 0, _, _, _, h => by cases h
 | f + 1, 0, x, c, h => ⟨_, fun j => by rw [Tr.get_node];split;rfl;split <;> rfl, h⟩
 | f + 1, k + 1, x, c, h => by
  have h' : (Bool.rec (Tr.setL f ((k + 1) / 2) x fun r => c (.node none .leaf r)) (Tr.setL f ((k + 1) / 2) x fun l => c (.node none l .leaf)) (Nat.beq ((k + 1) % 2) 0) : Bool) = true := h
  by_cases hp : (k + 1) % 2 = 0
  ·rw [hp] at h'
   obtain ⟨t', h1, h2⟩ := Tr.setL_ok (f := f) h'
   refine ⟨_, fun j => ?_, h2⟩
   rw [Tr.get_node, h1]
   by_cases hj : j = 0
   ·rw [if_pos hj, if_neg (by omega)]
   ·rw [if_neg hj]
    by_cases hj2 : j % 2 = 0
    ·rw [if_pos hj2]
     by_cases he : j = k + 1
     ·rw [if_pos he, if_pos (by rw [he])]
     ·rw [if_neg he, if_neg (by omega)]
    ·rw [if_neg hj2, if_neg (by omega)]
     rfl
  ·have hp' : (k + 1) % 2 = 1 := by omega
   rw [hp'] at h'
   obtain ⟨t', h1, h2⟩ := Tr.setL_ok (f := f) h'
   refine ⟨_, fun j => ?_, h2⟩
   rw [Tr.get_node, h1]
   by_cases hj : j = 0
   ·rw [if_pos hj, if_neg (by omega)]
   ·rw [if_neg hj]
    by_cases hj2 : j % 2 = 0
    ·rw [if_pos hj2, if_neg (by omega)]
     rfl
    ·rw [if_neg hj2]
     by_cases he : j = k + 1
     ·rw [if_pos he, if_pos (by rw [he])]
     ·rw [if_neg he, if_neg (by omega)]
omit Y in
theorem Tr.setK_ok {α : Type} : ∀ {t : Tr α} {k : Nat} {x : Option α} {c : Tr α → Bool}, Tr.setK t k x c = true → ∃ t', (∀ j, t'.get j = if j = k then x else t.get j) ∧ c t' = true
 | .leaf, k, x, c, h => by
  have h' : Tr.setL 40 k x c = true := h
  exact Tr.setL_ok h'
 | .node v l r, 0, x, c, h => ⟨_, fun j => by rw [Tr.get_node, Tr.get_node];split <;> rfl, h⟩
 | .node v l r, k + 1, x, c, h => by
  have h' : (Bool.rec (Tr.setK r ((k + 1) / 2) x fun r => c (.node v l r)) (Tr.setK l ((k + 1) / 2) x fun l => c (.node v l r)) (Nat.beq ((k + 1) % 2) 0) : Bool) = true := h
  by_cases hp : (k + 1) % 2 = 0
  ·rw [hp] at h'
   obtain ⟨t', h1, h2⟩ := Tr.setK_ok (t := l) h'
   refine ⟨_, fun j => ?_, h2⟩
   rw [Tr.get_node, Tr.get_node, h1]
   by_cases hj : j = 0
   ·rw [if_pos hj, if_neg (by omega), if_pos hj]
   ·rw [if_neg hj, if_neg hj]
    by_cases hj2 : j % 2 = 0
    ·rw [if_pos hj2, if_pos hj2]
     by_cases he : j = k + 1
     ·rw [if_pos he, if_pos (by rw [he])]
     ·rw [if_neg he, if_neg (by omega)]
    ·rw [if_neg hj2, if_neg hj2, if_neg (by omega)]
  ·have hp' : (k + 1) % 2 = 1 := by omega
   rw [hp'] at h'
   obtain ⟨t', h1, h2⟩ := Tr.setK_ok (t := r) h'
   refine ⟨_, fun j => ?_, h2⟩
   rw [Tr.get_node, Tr.get_node, h1]
   by_cases hj : j = 0
   ·rw [if_pos hj, if_neg (by omega), if_pos hj]
   ·rw [if_neg hj, if_neg hj]
    by_cases hj2 : j % 2 = 0
    ·rw [if_pos hj2, if_pos hj2, if_neg (by omega)]
    ·rw [if_neg hj2, if_neg hj2]
     by_cases he : j = k + 1
     ·rw [if_pos he, if_pos (by rw [he])]
     ·rw [if_neg he, if_neg (by omega)]
end Go.Proofs.YtfhkmgcalcfibaaGreat
namespace Go.Proofs.YtfhkmgcalcfibaaGreat
open Go.RowKit
variable [Y : Sy]
structure VO where
 cs : List Value
 e : TypeId
 op : Option Nat
 mp : Option (List (Value × Value))
structure MSt where
 m : Tr VO
 nx : Nat
 F : Nat
 W : Nat
def bit (F b : Nat) : Prop := F.testBit b = true
def orB (F b : Nat) : Nat := Nat.lor F (Nat.pow 2 b)
omit Y in
theorem bit_or {F b j : Nat} : bit (orB F b) j ↔ bit F j ∨ j = b := by
 unfold bit orB
 rw [show Nat.lor F (Nat.pow 2 b) = F ||| 2 ^ b from rfl, Nat.testBit_or, Nat.testBit_two_pow]
 simp only [Bool.or_eq_true, decide_eq_true_eq]
 constructor
 ·rintro (h | h)
  ·exact .inl h
  ·exact .inr h.symm
 ·rintro (h | h)
  ·exact .inl h
  ·exact .inr h.symm
omit Y in
theorem bit0 {b : Nat} : ¬ bit 0 b := by simp [bit]
def ObjC (ρ : Rl) (o : VO) (r c : Nat) (w : World) : Prop := ∃ cs' junk, VRs ρ o.cs cs' ∧ w.heap[r]? = some (.cells (cs' ++ junk).toArray o.e (0, 0)) ∧ (o.op = none → junk = []) ∧ (∀ sz, o.op = some sz → cs'.length + junk.length = c * sz)
def ObjM (ρ : Rl) (m : List (Value × Value)) (r : Nat) (w : World) : Prop := ∃ es clock, w.heap[r]? = some (.map es clock) ∧ es.toList.map (·.key) = m.map (·.1) ∧ VRs ρ (m.map (·.2)) (es.toList.map (·.val))
def ObjR (ρ : Rl) (o : VO) (r c : Nat) (w : World) : Prop := (o.mp = none ∧ ObjC ρ o r c w) ∨ ∃ m, o.mp = some m ∧ ObjM ρ m r w
theorem ObjR.later {ρ ρ' : Rl} {o : VO} {r c : Nat} {w w' : World} (h : ObjR ρ o r c w) (hle : ∀ b r, ρ b = some r → ρ' b = some r) (hh : w'.heap[r]? = w.heap[r]?) : ObjR ρ' o r c w' := by
 rcases h with ⟨hm, cs', junk, h1, h2, h3, h4⟩ | ⟨m, hm, es, clock, h1, h2, h3⟩
 ·exact .inl ⟨hm, cs', junk, h1.mono hle, hh.trans h2, h3, h4⟩
 ·exact .inr ⟨m, hm, es, clock, hh.trans h1, h2, h3.mono hle⟩
theorem ObjR.lt {ρ : Rl} {o : VO} {r c : Nat} {w : World} (h : ObjR ρ o r c w) : r < w.heap.size := by
 rcases h with ⟨hm, cs', junk, h1, h2, h3, h4⟩ | ⟨m, hm, es, clock, h1, h2, h3⟩
 ·exact (Array.getElem?_eq_some_iff.1 h2).1
 ·exact (Array.getElem?_eq_some_iff.1 h1).1
theorem ObjR.cells {ρ : Rl} {o : VO} {r c : Nat} {w : World} (h : ObjR ρ o r c w) (hm : o.mp = none) : ObjC ρ o r c w := by
 rcases h with ⟨_, h⟩ | ⟨m, h, _⟩
 ·exact h
 ·rw [hm] at h;cases h
theorem ObjR.map {ρ : Rl} {o : VO} {r c : Nat} {w : World} {m : List (Value × Value)} (h : ObjR ρ o r c w) (hm : o.mp = some m) : ObjM ρ m r w := by
 rcases h with ⟨h, _⟩ | ⟨m', h, k⟩
 ·rw [hm] at h;cases h
 ·rw [hm] at h;cases h;exact k
section
variable {S : List Nat} {W0 : World}
structure WR (S : List Nat) (W0 : World) (ρ : Rl) (m : Tr VO) (F : Nat) (w : World) : Prop where
 ext : Ext S W0 w
 at_ : ∀ b o, m.get b = some o → bit F b → ∃ r c, ρ b = some (r, c) ∧ ObjR ρ o r c w
 inj : ∀ b b' o o' r c c', m.get b = some o → m.get b' = some o' → bit F b → bit F b' → ρ b = some (r, c) → ρ b' = some (r, c') → b = b'
 own : ∀ b o r c, m.get b = some o → bit F b → ρ b = some (r, c) → r ∈ S ∨ W0.heap.size ≤ r
theorem WR.mono {ρ : Rl} {m : Tr VO} {F F' : Nat} {w : World} (h : WR S W0 ρ m F w) (hF : ∀ b, bit F' b → bit F b) : WR S W0 ρ m F' w :=
 ⟨h.ext, fun b o hb hf => h.at_ b o hb (hF b hf), fun b b' o o' r c c' h1 h2 h3 h4 => h.inj b b' o o' r c c' h1 h2 (hF b h3) (hF b' h4), fun b o r c h1 h2 => h.own b o r c h1 (hF b h2)⟩
structure SLe (s s' : MSt) : Prop where
 nx : s.nx ≤ s'.nx
 F : ∀ b, bit s.F b → bit s'.F b
 W : ∀ b, bit s.W b → bit s'.W b
 WF : (∀ b, bit s.W b → bit s.F b) → ∀ b, bit s'.W b → bit s'.F b
 old : ∀ b, b < s.nx → ¬ bit s'.W b → s'.m.get b = s.m.get b
 dead : ∀ b, b < s.nx → s.m.get b = none → s'.m.get b = none
 new : ∀ b, s.nx ≤ b → b < s'.nx → bit s'.F b ∧ bit s'.W b
 top : (∀ b, s.nx ≤ b → s.m.get b = none) → ∀ b, s'.nx ≤ b → s'.m.get b = none
def Wf (s : MSt) : Prop := (∀ b, bit s.W b → bit s.F b) ∧ ∀ b, s.nx ≤ b → s.m.get b = none
omit Y in
theorem SLe.wf {s s' : MSt} (h : SLe s s') (hw : Wf s) : Wf s' := ⟨h.WF hw.1, h.top hw.2⟩
omit Y in
theorem SLe.refl (s : MSt) : SLe s s := ⟨Nat.le_refl _, fun _ h => h, fun _ h => h, fun h => h, fun _ _ _ => rfl, fun _ _ h => h, fun b h1 h2 => by omega, fun h => h⟩
omit Y in
theorem SLe.trans {s s1 s2 : MSt} (h : SLe s s1) (k : SLe s1 s2) : SLe s s2 where
 nx := Nat.le_trans h.nx k.nx
 F := fun b hb => k.F b (h.F b hb)
 W := fun b hb => k.W b (h.W b hb)
 WF := fun hw => k.WF (h.WF hw)
 old := fun b hb hw => (k.old b (Nat.lt_of_lt_of_le hb h.nx) hw).trans (h.old b hb fun hc => hw (k.W b hc))
 dead := fun b hb hn => k.dead b (Nat.lt_of_lt_of_le hb h.nx) (h.dead b hb hn)
 new := fun b h1 h2 => by
  by_cases hc : b < s1.nx
  ·exact ⟨k.F b (h.new b h1 hc).1, k.W b (h.new b h1 hc).2⟩
  ·exact k.new b (by omega) h2
 top := fun ht => k.top (h.top ht)
def Pre (S : List Nat) (W0 : World) (ρ : Rl) (s s' : MSt) (w : World) : Prop := WR S W0 ρ s.m s'.F w ∧ ∀ b, s.nx ≤ b → b < s'.nx → ρ b = none
structure Stp (S : List Nat) (W0 : World) (ρ : Rl) (s : MSt) (w : World) (ρ' : Rl) (s' : MSt) (w' : World) : Prop where
 le : ∀ b, ¬ (s.nx ≤ b ∧ b < s'.nx) → ρ' b = ρ b
 wr : WR S W0 ρ' s'.m s'.F w'
 size : w.heap.size ≤ w'.heap.size
 blk : ∀ k, k < w.heap.size → (∀ b o c, bit s'.W b → s.m.get b = some o → ρ b ≠ some (k, c)) → w'.heap[k]? = w.heap[k]?
 fresh : ∀ b o r c, s.nx ≤ b → b < s'.nx → s'.m.get b = some o → ρ' b = some (r, c) → w.heap.size ≤ r ∨ ∃ b0 o0 c0, b0 < s.nx ∧ bit s'.W b0 ∧ s.m.get b0 = some o0 ∧ s'.m.get b0 = none ∧ ρ b0 = some (r, c0)
variable {ρ ρ1 ρ2 : Rl} {s s1 s2 : MSt} {w w1 w2 : World}
theorem Stp.leR (h : Stp S W0 ρ s w ρ1 s1 w1) (hp : Pre S W0 ρ s s1 w) : ∀ b r, ρ b = some r → ρ1 b = some r := fun b r hb => by
 by_cases hc : s.nx ≤ b ∧ b < s1.nx
 ·rw [hp.2 b hc.1 hc.2] at hb
  cases hb
 ·rw [h.le b hc, hb]
theorem Stp.same (hm : s1.m = s.m) (hn : s1.nx = s.nx) (A : WR S W0 ρ s.m s1.F w) : Stp S W0 ρ s w ρ s1 w :=
 ⟨fun _ _ => rfl, hm ▸ A, Nat.le_refl _, fun _ _ _ => rfl, fun b o r c h1 h2 => by omega⟩
theorem Stp.frame {G : Nat} (hle : SLe s s1) (hwf : Wf s) (A : WR S W0 ρ s.m G w) (hG : ∀ b, bit s1.F b → bit G b) (hp : Pre S W0 ρ s s1 w) (h : Stp S W0 ρ s w ρ1 s1 w1) : WR S W0 ρ1 s1.m G w1 := by
 have hR := h.leR hp
 -- an old block that was not written
 have hold : ∀ b o, s1.m.get b = some o → ¬ bit s1.F b → b < s.nx ∧ s.m.get b = some o ∧ ρ1 b = ρ b := fun b o hb hf => by
  have hb1 : b < s1.nx := Nat.lt_of_not_le fun hc => by
   rw [(hle.wf hwf).2 b hc] at hb
   cases hb
  have hb0 : b < s.nx := Nat.lt_of_not_le fun hc => hf (hle.new b hc hb1).1
  refine ⟨hb0, ?_, h.le b (by omega)⟩
  rw [← hle.old b hb0 fun hc => hf (hle.WF hwf.1 b hc)]
  exact hb
 have hlive : ∀ b o, s1.m.get b = some o → b < s.nx → ∃ o0, s.m.get b = some o0 := fun b o hb hb0 => by
  cases hc : s.m.get b with
  | none => rw [hle.dead b hb0 hc] at hb;cases hb
  | some o0 => exact ⟨o0, rfl⟩
 -- where a looked-at block lies is not where such an old block lies
 have hne : ∀ b o b' o' r c c', s1.m.get b = some o → s1.m.get b' = some o' → bit s1.F b → ¬ bit s1.F b' → bit G b' → ρ1 b = some (r, c) → ρ1 b' = some (r, c') → False := fun b o b' o' r c c' hb hb' hf hf' hg' e e' => by
  obtain ⟨h1, h2, h3⟩ := hold b' o' hb' hf'
  rw [h3] at e'
  obtain ⟨r0, c0, e0, ho⟩ := A.at_ b' o' h2 hg'
  rw [e0] at e'
  cases e'
  by_cases hb0 : s.nx ≤ b ∧ b < s1.nx
  ·rcases h.fresh b o r c hb0.1 hb0.2 hb e with h4 | ⟨b0, o0, c0, h5, h6, h7, h8, h9⟩
   ·have := ho.lt
    omega
   ·have := A.inj b0 b' o0 o' r _ _ h7 h2 (hG _ (hle.WF hwf.1 b0 h6)) hg' h9 e0
    subst this
    exact hf' (hle.WF hwf.1 _ h6)
  ·rw [h.le b hb0] at e
   have hb1 : b < s.nx := Nat.lt_of_not_le fun hc => hb0 ⟨hc, Nat.lt_of_not_le fun hc' => by rw [(hle.wf hwf).2 b hc'] at hb;cases hb⟩
   obtain ⟨o0, q⟩ := hlive b o hb hb1
   have := A.inj b b' o0 o' r _ _ q h2 (hG _ hf) hg' e e0
   subst this
   exact hf' hf
 refine ⟨h.wr.ext, fun b o hb hg => ?_, fun b b' o o' r c c' hb hb' hg hg' e e' => ?_, fun b o r c hb hg e => ?_⟩
 ·by_cases hf : bit s1.F b
  ·exact h.wr.at_ b o hb hf
  ·obtain ⟨h1, h2, h3⟩ := hold b o hb hf
   obtain ⟨r, c, e, ho⟩ := A.at_ b o h2 hg
   refine ⟨r, c, h3.trans e, ho.later hR (h.blk r ho.lt fun b0 o0 c0 hw hl e0 => ?_)⟩
   have := A.inj b b0 o o0 r _ _ h2 hl hg (hG _ (hle.WF hwf.1 b0 hw)) e e0
   subst this
   exact hf (hle.WF hwf.1 _ hw)
 ·by_cases hf : bit s1.F b
  ·by_cases hf' : bit s1.F b'
   ·exact h.wr.inj b b' o o' r c c' hb hb' hf hf' e e'
   ·exact (hne b o b' o' r c c' hb hb' hf hf' hg' e e').elim
  ·by_cases hf' : bit s1.F b'
   ·exact (hne b' o' b o r c' c hb' hb hf' hf hg e' e).elim
   ·obtain ⟨_, h2, h3⟩ := hold b o hb hf
    obtain ⟨_, h2', h3'⟩ := hold b' o' hb' hf'
    exact A.inj b b' o o' r c c' h2 h2' hg hg' (h3 ▸ e) (h3' ▸ e')
 ·by_cases hf : bit s1.F b
  ·exact h.wr.own b o r c hb hf e
  ·obtain ⟨_, h2, h3⟩ := hold b o hb hf
   exact A.own b o r c h2 hg (h3 ▸ e)
theorem Pre.fst (hle : SLe s s1) (hle2 : SLe s1 s2) (h : Pre S W0 ρ s s2 w) : Pre S W0 ρ s s1 w := ⟨h.1.mono hle2.F, fun b h1 h2 => h.2 b h1 (Nat.lt_of_lt_of_le h2 hle2.nx)⟩
theorem Pre.snd (hle : SLe s s1) (hle2 : SLe s1 s2) (hwf : Wf s) (h : Pre S W0 ρ s s2 w) (k : Stp S W0 ρ s w ρ1 s1 w1) : Pre S W0 ρ1 s1 s2 w1 :=
 ⟨Stp.frame hle hwf h.1 hle2.F (h.fst hle hle2) k, fun b h1 h2 => by rw [k.le b (by omega)];exact h.2 b (Nat.le_trans hle.nx h1) h2⟩
theorem Stp.trans (hle : SLe s s1) (hle2 : SLe s1 s2) (hwf : Wf s) (hp : Pre S W0 ρ s s2 w) (h : Stp S W0 ρ s w ρ1 s1 w1) (k : Stp S W0 ρ1 s1 w1 ρ2 s2 w2) : Stp S W0 ρ s w ρ2 s2 w2 := by
 have hlive : ∀ b o, s1.m.get b = some o → b < s.nx → ∃ o0, s.m.get b = some o0 := fun b o hb hb0 => by
  cases hc : s.m.get b with
  | none => rw [hle.dead b hb0 hc] at hb;cases hb
  | some o0 => exact ⟨o0, rfl⟩
 have hlt1 : ∀ b o, s1.m.get b = some o → b < s1.nx := fun b o hb => Nat.lt_of_not_le fun hc => by
  rw [(hle.wf hwf).2 b hc] at hb
  cases hb
 -- where a block that lives behind the first step lay
 have hwas : ∀ b o r c, s1.m.get b = some o → ρ1 b = some (r, c) → w.heap.size ≤ r ∨ ∃ b0 o0 c0, b0 < s.nx ∧ s.m.get b0 = some o0 ∧ ρ b0 = some (r, c0) ∧ (b0 = b ∨ (bit s1.W b0 ∧ s1.m.get b0 = none)) := fun b o r c hb e => by
  by_cases hb0 : b < s.nx
  ·obtain ⟨o0, q⟩ := hlive b o hb hb0
   rw [h.le b (by omega)] at e
   exact .inr ⟨b, o0, c, hb0, q, e, .inl rfl⟩
  ·rcases h.fresh b o r c (by omega) (hlt1 b o hb) hb e with h4 | ⟨b0, o0, c0, h5, h6, h7, h8, h9⟩
   ·exact .inl h4
   ·exact .inr ⟨b0, o0, c0, h5, h7, h9, .inr ⟨h6, h8⟩⟩
 refine ⟨fun b hb => ?_, k.wr, Nat.le_trans h.size k.size, fun i hi hW => ?_, fun b o r c h1 h2 hb e => ?_⟩
 ·have := hle.nx
  have := hle2.nx
  rw [k.le b (by omega), h.le b (by omega)]
 ·refine (k.blk i (Nat.lt_of_lt_of_le hi h.size) fun b o c hw hl e => ?_).trans (h.blk i hi fun b o c hw hl e => hW b o c (hle2.W b hw) hl e)
  rcases hwas b o i c hl e with h4 | ⟨b0, o0, c0, h5, h6, h7, h8⟩
  ·omega
  ·rcases h8 with rfl | h8
   ·exact hW _ o0 c0 hw h6 h7
   ·exact hW b0 o0 c0 (hle2.W b0 h8.1) h6 h7
 ·by_cases hc : b < s1.nx
  ·rw [k.le b (by omega)] at e
   obtain ⟨o1, ho1⟩ : ∃ o1, s1.m.get b = some o1 := by
    cases hq : s1.m.get b with
    | none => rw [hle2.dead b hc hq] at hb;cases hb
    | some o1 => exact ⟨o1, rfl⟩
   rcases h.fresh b o1 r c h1 hc ho1 e with h4 | ⟨b0, o0, c0, h5, h6, h7, h8, h9⟩
   ·exact .inl h4
   ·exact .inr ⟨b0, o0, c0, h5, hle2.W b0 h6, h7, hle2.dead b0 (Nat.lt_of_lt_of_le h5 hle.nx) h8, h9⟩
  ·rcases k.fresh b o r c (by omega) h2 hb e with h4 | ⟨b0, o0, c0, h5, h6, h7, h8, h9⟩
   ·exact .inl (Nat.le_trans h.size h4)
   ·rcases hwas b0 o0 r c0 h7 h9 with h4 | ⟨b1, o1, c1, g1, g2, g3, g4⟩
    ·exact .inl h4
    ·refine .inr ⟨b1, o1, c1, g1, ?_, g2, ?_, g3⟩
     ·rcases g4 with rfl | g4
      ·exact h6
      ·exact hle2.W b1 g4.1
     ·rcases g4 with rfl | g4
      ·exact h8
      ·exact hle2.dead b1 (Nat.lt_of_lt_of_le g1 hle.nx) g4.2
/-! ### the steps themselves -/
def MSt.rd (s : MSt) (b : Nat) : MSt := { s with F := orB s.F b }
omit Y in
theorem SLe.rd (s : MSt) (b : Nat) : SLe s (s.rd b) := ⟨Nat.le_refl _, fun _ h => bit_or.2 (.inl h), fun _ h => h, fun h b hb => bit_or.2 (.inl (h b hb)), fun _ _ _ => rfl, fun _ _ h => h, fun b h1 h2 => by simp only [MSt.rd] at h2;omega, fun h => h⟩
theorem Stp.rd {b : Nat} (hp : Pre S W0 ρ s (s.rd b) w) : Stp S W0 ρ s w ρ (s.rd b) w := Stp.same rfl rfl hp.1
theorem Pre.obj {b : Nat} {o : VO} (hp : Pre S W0 ρ s s1 w) (hb : s.m.get b = some o) (hf : bit s1.F b) : ∃ r c, ρ b = some (r, c) ∧ ObjR ρ o r c w := hp.1.at_ b o hb hf
theorem WR.atC {m : Tr VO} {F b : Nat} {o : VO} (h : WR S W0 ρ m F w) (hb : m.get b = some o) (hf : bit F b) (hm : o.mp = none) : ∃ r c, ρ b = some (r, c) ∧ ObjC ρ o r c w := by
 obtain ⟨r, c, e, ho⟩ := h.at_ b o hb hf
 exact ⟨r, c, e, ho.cells hm⟩
theorem Pre.objC {b : Nat} {o : VO} (hp : Pre S W0 ρ s s1 w) (hb : s.m.get b = some o) (hf : bit s1.F b) (hm : o.mp = none) : ∃ r c, ρ b = some (r, c) ∧ ObjC ρ o r c w := hp.1.atC hb hf hm
omit Y in
theorem SLe.wrt {s : MSt} {m' : Tr VO} {b : Nat} {x : Option VO} {o : VO} (hm : ∀ j, m'.get j = if j = b then x else s.m.get j) (hb : s.m.get b = some o) (hwf : Wf s) : SLe s ⟨m', s.nx, orB s.F b, orB s.W b⟩ where
 nx := Nat.le_refl _
 F := fun _ h => bit_or.2 (.inl h)
 W := fun _ h => bit_or.2 (.inl h)
 WF := fun h j hj => (bit_or.1 hj).elim (fun hj => bit_or.2 (.inl (h j hj))) fun hj => bit_or.2 (.inr hj)
 old := fun j _ hj => by dsimp only;rw [hm, if_neg fun e => hj (bit_or.2 (.inr e))]
 dead := fun j _ hj => by
  dsimp only
  rw [hm, if_neg fun e => by rw [e, hb] at hj;cases hj]
  exact hj
 new := fun j h1 h2 => by dsimp only at h2;omega
 top := fun ht j hj => by
  dsimp only at hj ⊢
  rw [hm, if_neg fun e => by rw [e] at hj;rw [hwf.2 b hj] at hb;cases hb]
  exact ht j hj
theorem Stp.wrt {m' : Tr VO} {b r c : Nat} {o o' : VO} (hm : ∀ j, m'.get j = if j = b then some o' else s.m.get j) (hb : s.m.get b = some o) (hwf : Wf s) (hp : Pre S W0 ρ s ⟨m', s.nx, orB s.F b, orB s.W b⟩ w) (e : ρ b = some (r, c)) (E : Ext [r] w w1) (ho : ObjR ρ o' r c w1) :
  Stp S W0 ρ s w ρ ⟨m', s.nx, orB s.F b, orB s.W b⟩ w1 := by
 have hfb : bit (orB s.F b) b := bit_or.2 (.inr rfl)
 have hown := hp.1.own b o r c hb hfb e
 have hbk : ∀ k, k < w.heap.size → k ≠ r → w1.heap[k]? = w.heap[k]? := fun k hk hr => E.block k hk (by simpa using hr)
 have hlv : ∀ j oj, m'.get j = some oj → ∃ oj', s.m.get j = some oj' := fun j oj hj => by
  rw [hm] at hj
  split at hj
  ·rename_i q
   exact ⟨o, by rw [q];exact hb⟩
  ·exact ⟨oj, hj⟩
 refine ⟨fun _ _ => rfl, ⟨?_, fun j oj hj hf => ?_, fun j j' oj oj' r' c' c'' hj hj' hf hf' e1 e2 => ?_, fun j oj r' c' hj hf e1 => ?_⟩, E.size, fun k hk hW => hbk k hk fun q => hW b o c (bit_or.2 (.inr rfl)) hb (by rw [q];exact e), fun j _ _ _ h1 h2 => by dsimp only at h2;omega⟩
 ·refine ⟨E.os.trans hp.1.ext.os, E.tape.trans hp.1.ext.tape, E.output.trans hp.1.ext.output, Nat.le_trans hp.1.ext.size E.size, Nat.le_trans hp.1.ext.dr E.dr, fun k hk hs => ?_⟩
  refine (hbk k (Nat.lt_of_lt_of_le hk hp.1.ext.size) ?_).trans (hp.1.ext.block k hk hs)
  rintro rfl
  exact hown.elim hs fun h => absurd hk (Nat.not_lt.2 h)
 ·by_cases q : j = b
  ·subst q
   dsimp only at hj
   rw [hm, if_pos rfl] at hj
   cases hj
   exact ⟨r, c, e, ho⟩
  ·dsimp only at hj
   rw [hm, if_neg q] at hj
   obtain ⟨r', c', e', ho'⟩ := hp.1.at_ j oj hj hf
   refine ⟨r', c', e', ho'.later (fun _ _ h => h) (hbk r' ho'.lt ?_)⟩
   rintro rfl
   exact q (hp.1.inj j b oj o r' c' c hj hb hf hfb e' e)
 ·obtain ⟨p, hp1⟩ := hlv j oj hj
  obtain ⟨p', hp2⟩ := hlv j' oj' hj'
  exact hp.1.inj j j' p p' r' c' c'' hp1 hp2 hf hf' e1 e2
 ·obtain ⟨p, hp1⟩ := hlv j oj hj
  exact hp.1.own j p r' c' hp1 hf e1
omit Y in
theorem SLe.alloc {s : MSt} {m' : Tr VO} {x : Option VO} (hm : ∀ j, m'.get j = if j = s.nx then x else s.m.get j) : SLe s ⟨m', s.nx + 1, orB s.F s.nx, orB s.W s.nx⟩ where
 nx := Nat.le_succ _
 F := fun _ h => bit_or.2 (.inl h)
 W := fun _ h => bit_or.2 (.inl h)
 WF := fun h j hj => (bit_or.1 hj).elim (fun hj => bit_or.2 (.inl (h j hj))) fun hj => bit_or.2 (.inr hj)
 old := fun j hj _ => by dsimp only;rw [hm, if_neg (by omega)]
 dead := fun j hj hd => by dsimp only;rw [hm, if_neg (by omega)];exact hd
 new := fun j h1 h2 => by
  dsimp only at h2
  have : j = s.nx := by omega
  exact ⟨bit_or.2 (.inr this), bit_or.2 (.inr this)⟩
 top := fun ht j hj => by dsimp only at hj ⊢;rw [hm, if_neg (by omega)];exact ht j (by omega)
def updR (ρ : Rl) (b : Nat) (x : Nat × Nat) : Rl := fun j => if j = b then some x else ρ j
omit Y in
theorem updR_le {b : Nat} {x : Nat × Nat} (h : ρ b = none) : ∀ j r, ρ j = some r → updR ρ b x j = some r := fun j r hj => by
 unfold updR
 rw [if_neg fun e => by rw [e, h] at hj;cases hj]
 exact hj
theorem Stp.alloc {m' : Tr VO} {r c : Nat} {o : VO} (hm : ∀ j, m'.get j = if j = s.nx then some o else s.m.get j) (hwf : Wf s) (hp : Pre S W0 ρ s ⟨m', s.nx + 1, orB s.F s.nx, orB s.W s.nx⟩ w) (E : Ext [] w w1) (hr : w.heap.size ≤ r) (ho : ObjR (updR ρ s.nx (r, c)) o r c w1) :
  Stp S W0 ρ s w (updR ρ s.nx (r, c)) ⟨m', s.nx + 1, orB s.F s.nx, orB s.W s.nx⟩ w1 := by
 have hle := updR_le (x := (r, c)) (hp.2 s.nx (Nat.le_refl _) (Nat.lt_succ_self _))
 have hne : ∀ j oj, m'.get j = some oj → j ≠ s.nx → s.m.get j = some oj := fun j oj hj q => by
  rw [hm, if_neg q] at hj
  exact hj
 have hu : ∀ j, j ≠ s.nx → updR ρ s.nx (r, c) j = ρ j := fun j q => if_neg q
 have hu0 : updR ρ s.nx (r, c) s.nx = some (r, c) := if_pos rfl
 have hlt : ∀ j oj r' c', s.m.get j = some oj → bit (orB s.F s.nx) j → ρ j = some (r', c') → r' < w.heap.size := fun j oj r' c' hj hf e => by
  obtain ⟨r0, c0, e0, ho0⟩ := hp.1.at_ j oj hj hf
  rw [e0] at e
  cases e
  exact ho0.lt
 refine ⟨fun j hj => hu j (by dsimp only at hj;omega), ⟨hp.1.ext.trans E.any, fun j oj hj hf => ?_, fun j j' oj oj' r' c' c'' hj hj' hf hf' e1 e2 => ?_, fun j oj r' c' hj hf e1 => ?_⟩, E.size, fun k hk _ => E.block k hk (by simp), fun j oj r' c' h1 h2 hj e1 => ?_⟩
 ·by_cases q : j = s.nx
  ·subst q
   dsimp only at hj
   rw [hm, if_pos rfl] at hj
   cases hj
   exact ⟨r, c, hu0, ho⟩
  ·have hj' := hne j oj hj q
   obtain ⟨r', c', e', ho'⟩ := hp.1.at_ j oj hj' hf
   exact ⟨r', c', hle _ _ e', ho'.later hle (E.block r' ho'.lt (by simp))⟩
 ·by_cases q : j = s.nx
  ·by_cases q' : j' = s.nx
   ·rw [q, q']
   ·have := hlt j' oj' r' c'' (hne j' oj' hj' q') hf' (by rw [← hu j' q'];exact e2)
    rw [q, hu0] at e1
    cases e1
    omega
  ·by_cases q' : j' = s.nx
   ·have := hlt j oj r' c' (hne j oj hj q) hf (by rw [← hu j q];exact e1)
    rw [q', hu0] at e2
    cases e2
    omega
   ·exact hp.1.inj j j' oj oj' r' c' c'' (hne j oj hj q) (hne j' oj' hj' q') hf hf' (by rw [← hu j q];exact e1) (by rw [← hu j' q'];exact e2)
 ·by_cases q : j = s.nx
  ·rw [q, hu0] at e1
   cases e1
   exact .inr (Nat.le_trans hp.1.ext.size hr)
  ·exact hp.1.own j oj r' c' (hne j oj hj q) hf (by rw [← hu j q];exact e1)
 ·dsimp only at h2
  have q : j = s.nx := by omega
  rw [q, hu0] at e1
  cases e1
  exact .inl hr
omit Y in
theorem SLe.move {s : MSt} {m1 m' : Tr VO} {b : Nat} {o : VO} {x : Option VO} (hm1 : ∀ j, m1.get j = if j = b then none else s.m.get j) (hm : ∀ j, m'.get j = if j = s.nx then x else m1.get j) (hb : s.m.get b = some o) (hwf : Wf s) :
  SLe s ⟨m', s.nx + 1, orB (orB s.F b) s.nx, orB (orB s.W b) s.nx⟩ :=
 (SLe.wrt (m' := m1) hm1 hb hwf).trans (SLe.alloc (s := ⟨m1, s.nx, orB s.F b, orB s.W b⟩) hm)
theorem Stp.move {m1 m' : Tr VO} {b r r' c c' : Nat} {o o' : VO} (hm1 : ∀ j, m1.get j = if j = b then none else s.m.get j) (hm : ∀ j, m'.get j = if j = s.nx then some o' else m1.get j) (hb : s.m.get b = some o) (hwf : Wf s)
  (hp : Pre S W0 ρ s ⟨m', s.nx + 1, orB (orB s.F b) s.nx, orB (orB s.W b) s.nx⟩ w) (e : ρ b = some (r, c)) (E : Ext [r] w w1) (hr : r' = r ∨ w.heap.size ≤ r') (ho : ObjR (updR ρ s.nx (r', c')) o' r' c' w1) :
  Stp S W0 ρ s w (updR ρ s.nx (r', c')) ⟨m', s.nx + 1, orB (orB s.F b) s.nx, orB (orB s.W b) s.nx⟩ w1 := by
 have hle := updR_le (x := (r', c')) (hp.2 s.nx (Nat.le_refl _) (Nat.lt_succ_self _))
 have hbn : b < s.nx := Nat.lt_of_not_le fun hc => by rw [hwf.2 b hc] at hb;cases hb
 have hfb : bit (orB (orB s.F b) s.nx) b := bit_or.2 (.inl (bit_or.2 (.inr rfl)))
 have hwb : bit (orB (orB s.W b) s.nx) b := bit_or.2 (.inl (bit_or.2 (.inr rfl)))
 have hown := hp.1.own b o r c hb hfb e
 have hbk : ∀ k, k < w.heap.size → k ≠ r → w1.heap[k]? = w.heap[k]? := fun k hk hr => E.block k hk (by simpa using hr)
 have hne : ∀ j oj, m'.get j = some oj → j ≠ s.nx → j ≠ b ∧ s.m.get j = some oj := fun j oj hj q => by
  rw [hm, if_neg q, hm1] at hj
  split at hj
  ·cases hj
  ·rename_i q2
   exact ⟨q2, hj⟩
 have hu : ∀ j, j ≠ s.nx → updR ρ s.nx (r', c') j = ρ j := fun j q => if_neg q
 have hu0 : updR ρ s.nx (r', c') s.nx = some (r', c') := if_pos rfl
 -- no other block lies where the new one lies
 have hapart : ∀ j oj d, m'.get j = some oj → bit (orB (orB s.F b) s.nx) j → j ≠ s.nx → ρ j = some (r', d) → False := fun j oj d hj hf q e1 => by
  obtain ⟨q2, hj2⟩ := hne j oj hj q
  rcases hr with rfl | hr
  ·exact q2 (hp.1.inj j b oj o r' d c hj2 hb hf hfb e1 e)
  ·obtain ⟨r0, d0, e0, ho0⟩ := hp.1.at_ j oj hj2 hf
   rw [e0] at e1
   cases e1
   have := ho0.lt
   omega
 refine ⟨fun j hj => hu j (by dsimp only at hj;omega), ⟨?_, fun j oj hj hf => ?_, fun j j' oj oj' r0 d' d'' hj hj' hf hf' e1 e2 => ?_, fun j oj r0 d' hj hf e1 => ?_⟩, E.size, fun k hk hW => hbk k hk fun q => hW b o c hwb hb (by rw [q];exact e), fun j oj r0 d' h1 h2 hj e1 => ?_⟩
 ·refine ⟨E.os.trans hp.1.ext.os, E.tape.trans hp.1.ext.tape, E.output.trans hp.1.ext.output, Nat.le_trans hp.1.ext.size E.size, Nat.le_trans hp.1.ext.dr E.dr, fun k hk hs => ?_⟩
  refine (hbk k (Nat.lt_of_lt_of_le hk hp.1.ext.size) ?_).trans (hp.1.ext.block k hk hs)
  rintro rfl
  exact hown.elim hs fun h => absurd hk (Nat.not_lt.2 h)
 ·by_cases q : j = s.nx
  ·subst q
   dsimp only at hj
   rw [hm, if_pos rfl] at hj
   cases hj
   exact ⟨r', c', hu0, ho⟩
  ·obtain ⟨q2, hj'⟩ := hne j oj hj q
   obtain ⟨r0, d', e', ho'⟩ := hp.1.at_ j oj hj' hf
   refine ⟨r0, d', hle _ _ e', ho'.later hle (hbk r0 ho'.lt ?_)⟩
   rintro rfl
   exact q2 (hp.1.inj j b oj o r0 d' c hj' hb hf hfb e' e)
 ·by_cases q : j = s.nx
  ·by_cases q' : j' = s.nx
   ·rw [q, q']
   ·rw [q, hu0] at e1
    cases e1
    exact (hapart j' oj' d'' hj' hf' q' (by rw [← hu j' q'];exact e2)).elim
  ·by_cases q' : j' = s.nx
   ·rw [q', hu0] at e2
    cases e2
    exact (hapart j oj d' hj hf q (by rw [← hu j q];exact e1)).elim
   ·exact hp.1.inj j j' oj oj' r0 d' d'' (hne j oj hj q).2 (hne j' oj' hj' q').2 hf hf' (by rw [← hu j q];exact e1) (by rw [← hu j' q'];exact e2)
 ·by_cases q : j = s.nx
  ·rw [q, hu0] at e1
   cases e1
   rcases hr with rfl | hr
   ·exact hown
   ·exact .inr (Nat.le_trans hp.1.ext.size hr)
  ·exact hp.1.own j oj r0 d' (hne j oj hj q).2 hf (by rw [← hu j q];exact e1)
 ·dsimp only at h2
  have q : j = s.nx := by omega
  rw [q, hu0] at e1
  cases e1
  rcases hr with rfl | hr
  ·refine .inr ⟨b, o, c, hbn, hwb, hb, ?_, e⟩
   dsimp only
   rw [hm, if_neg (by omega), hm1, if_pos rfl]
  ·exact .inl hr
end
end Go.Proofs.YtfhkmgcalcfibaaGreat
namespace Go.Proofs.YtfhkmgcalcfibaaGreat
open Go.RowKit
variable [Y : Sy]
/-! ### frames -/
structure FrR (ρ : Rl) (n : Nat) (df : List Deferred) (t : Tr Value) (a : Act) : Prop where
 size : a.tmps.size = n
 defers : a.defers = df
 at_ : ∀ k v, t.get k = some v → VR ρ v (a.tmps.getD k undef)
theorem FrR.mono {ρ ρ' : Rl} {n : Nat} {df : List Deferred} {t : Tr Value} {a : Act} (h : FrR ρ n df t a) (hle : ∀ b r, ρ b = some r → ρ' b = some r) : FrR ρ' n df t a := ⟨h.size, h.defers, fun k v hk => (h.at_ k v hk).mono hle⟩
theorem FrR.put {ρ : Rl} {n : Nat} {df : List Deferred} {t t' : Tr Value} {a : Act} {d : Nat} {v u : Value} (h : FrR ρ n df t a) (ht : ∀ j, t'.get j = if j = d then some v else t.get j) (hd : d < n) (hv : VR ρ v u) : FrR ρ n df t' (a.put (some d) u) := by
 refine ⟨by simp [Act.put, h.size], by simp [Act.put, h.defers], fun k x hk => ?_⟩
 rw [ht] at hk
 simp only [Act.put]
 by_cases e : k = d
 ·subst e
  rw [if_pos rfl] at hk
  cases hk
  have : k < a.tmps.size := by rw [h.size];exact hd
  simpa [Array.getElem?_setIfInBounds, this] using hv
 ·rw [if_neg e] at hk
  have := h.at_ k x hk
  simpa [Array.getElem?_setIfInBounds, Ne.symm e] using this
def cst1 : Value → Bool
 | .int _ n => litI n
 | .bool _ | .string _ | .pointer none | .slice none _ _ | .nilFunc | .nilIface | .map none => true
 | _ => false
theorem cst1_ok {ρ : Rl} {v : Value} (h : cst1 v = true) : VR ρ v v := by
 unfold cst1 at h
 split at h
 ·rename_i k n
  have := VR.int (ρ := ρ) k n
  rwa [Y.lit n h] at this
 all_goals first | constructor | cases h
noncomputable def cstL (l : List Value) : Bool := List.rec true (fun x _ ih => Bool.rec false ih (cst1 x)) l
theorem cstL_ok {ρ : Rl} : ∀ {l : List Value}, cstL l = true → VRs ρ l l
 | [], _ => .nil
 | x :: xs, h => by
  have h' : (Bool.rec false (cstL xs) (cst1 x) : Bool) = true := h
  cases hx : cst1 x with
  | false => rw [hx] at h';cases h'
  | true => rw [hx] at h';exact .cons (cst1_ok hx) (cstL_ok h')
noncomputable def cstOk (v : Value) : Bool := match v with
 | .agg cs => cstL cs.toList
 | v => cst1 v
theorem cstOk_ok {ρ : Rl} {v : Value} (h : cstOk v = true) : VR ρ v v := by
 unfold cstOk at h
 split at h
 ·rename_i cs
  have := VR.agg (cstL_ok (ρ := ρ) h)
  simpa using this
 ·exact cst1_ok h
noncomputable def evK (t : Tr Value) (x : Operand) (c : Value → Bool) : Bool := match x with
 | .tmp k => Option.rec false c (t.get k)
 | .const v => Bool.rec false (c v) (cstOk v)
 | .func f => c (.func (.func f) #[] #[])
 | .global _ => false
def OpdR (t : Tr Value) (x : Operand) (v : Value) : Prop := ∀ (ρ : Rl) (n : Nat) (df : List Deferred) (a : Act), FrR ρ n df t a → VR ρ v (a.eval x)
theorem evK_ok {t : Tr Value} {x : Operand} {c : Value → Bool} (h : evK t x c = true) : ∃ v, OpdR t x v ∧ c v = true := by
 unfold evK at h
 cases x with
 | tmp k =>
  dsimp only at h
  cases hk : t.get k with
  | none => rw [hk] at h;cases h
  | some v =>
   rw [hk] at h
   exact ⟨v, fun ρ n df a F => F.at_ k v hk, h⟩
 | const v =>
  dsimp only at h
  cases hv : cstOk v with
  | false => rw [hv] at h;cases h
  | true =>
   rw [hv] at h
   exact ⟨v, fun ρ n df a F => by simpa [Act.eval] using cstOk_ok hv, h⟩
 | func f => exact ⟨_, fun ρ n df a F => by
   have : VR ρ (.func (.func f) #[] #[]) (.func (.func f) (List.toArray []) (List.toArray [])) := .fn .nil .nil
   simpa [Act.eval] using this, h⟩
 | global g => cases h
noncomputable def evsK (t : Tr Value) (xs : List Operand) : (List Value → Bool) → Bool := List.rec (motive := fun _ => (List Value → Bool) → Bool) (fun c => c []) (fun x _ ih c => evK t x fun v => ih fun vs => c (v :: vs)) xs
def OpdsR (t : Tr Value) (xs : List Operand) (vs : List Value) : Prop := ∀ (ρ : Rl) (n : Nat) (df : List Deferred) (a : Act), FrR ρ n df t a → VRs ρ vs (xs.map a.eval)
theorem evsK_ok {t : Tr Value} : ∀ {xs : List Operand} {c : List Value → Bool}, evsK t xs c = true → ∃ vs, OpdsR t xs vs ∧ c vs = true
 | [], c, h => ⟨[], fun _ _ _ _ _ => .nil, h⟩
 | x :: xs, c, h => by
  obtain ⟨v, h1, h2⟩ := evK_ok (c := fun v => evsK t xs fun vs => c (v :: vs)) h
  obtain ⟨vs, h3, h4⟩ := evsK_ok h2
  exact ⟨v :: vs, fun ρ n df a F => .cons (h1 ρ n df a F) (h3 ρ n df a F), h4⟩
/-! ### integers -/
def kEqR : IntKind → IntKind → Bool
 | .i8, .i8 | .i16, .i16 | .i32, .i32 | .i64, .i64 | .u8, .u8 | .u16, .u16 | .u32, .u32 | .u64, .u64 => true
 | _, _ => false
omit Y in
theorem kEq_ok' {a b : IntKind} (h : kEqR a b = true) : a = b := by
 cases a <;> cases b <;> first | rfl | cases h
def pK : IntKind → Nat
 | .i8 | .u8 => 256
 | .i16 | .u16 => 65536
 | .i32 | .u32 => 4294967296
 | .i64 | .u64 => 18446744073709551616
def hK : IntKind → Nat
 | .i8 => 128
 | .i16 => 32768
 | .i32 => 2147483648
 | .i64 => 9223372036854775808
 | .u8 => 256
 | .u16 => 65536
 | .u32 => 4294967296
 | .u64 => 18446744073709551616
noncomputable def natK (k : IntKind) (x : Int) : Nat := Int.rec (fun m => Nat.mod m (pK k)) (fun m => Nat.sub (Nat.sub (pK k) 1) (Nat.mod m (pK k))) x
omit Y in
theorem natK_is (k : IntKind) (x : Int) : (natK k x : Int) = x % (2 ^ k.bits : Int) := by
 cases x with
 | ofNat m =>
  show ((m % pK k : Nat) : Int) = _
  cases k <;> simp [pK, IntKind.bits]
 | negSucc m =>
  show ((pK k - 1 - m % pK k : Nat) : Int) = _
  cases k <;> simp only [pK, IntKind.bits, Int.negSucc_eq] <;> omega
noncomputable def wrapN (k : IntKind) (r : Nat) (c : Int → Bool) : Bool := Bool.rec (forceN (Nat.sub (Nat.sub (pK k) 1) r) fun q => c (.negSucc q)) (c (.ofNat r)) (Nat.blt r (hK k))
noncomputable def wrapK (k : IntKind) (x : Int) (c : Int → Bool) : Bool := forceN (natK k x) fun r => wrapN k r c
omit Y in
theorem blt_is (a b : Nat) : Nat.blt a b = decide (a < b) := by
 rw [Bool.eq_iff_iff]
 simp [Nat.blt, Nat.ble_eq, Nat.lt_iff_add_one_le]
omit Y in
theorem wrapN_is (k : IntKind) (r : Nat) (x : Int) (hr : (r : Int) = x % (2 ^ k.bits : Int)) (c : Int → Bool) : wrapN k r c = c (k.wrap x) := by
 unfold wrapN
 rw [forceN_is]
 have hlt : x % (2 ^ k.bits : Int) < 2 ^ k.bits := Int.emod_lt_of_pos _ (by cases k <;> decide)
 rw [blt_is]
 by_cases h1 : r < hK k
 ·rw [dqT h1]
  show c ((r : Nat) : Int) = _
  congr 1
  cases k <;> simp only [IntKind.wrap, hK, pK, IntKind.signed, IntKind.bits, Bool.true_and, Bool.false_and, decide_eq_true_eq, ge_iff_le, Bool.false_eq_true, if_false] at * <;> first | omega | (split <;> omega)
 ·rw [dqF h1]
  show c (Int.negSucc (pK k - 1 - r)) = _
  congr 1
  rw [Int.negSucc_eq]
  cases k <;> simp only [IntKind.wrap, hK, pK, IntKind.signed, IntKind.bits, Bool.true_and, Bool.false_and, decide_eq_true_eq, ge_iff_le, Bool.false_eq_true, if_false] at * <;> first | omega | (split <;> omega)
omit Y in
theorem wrapK_is (k : IntKind) (x : Int) (c : Int → Bool) : wrapK k x c = c (k.wrap x) := by
 unfold wrapK
 rw [forceN_is]
 exact wrapN_is k _ x (natK_is k x) c
omit Y in
theorem bv_natK (k : IntKind) (x : Int) : (BitVec.ofInt k.bits x).toNat = natK k x := by
 have h := natK_is k x
 rw [BitVec.toNat_ofInt]
 have : ((2 ^ k.bits : Nat) : Int) = (2 : Int) ^ k.bits := by simp
 rw [this, ← h]
 rfl
noncomputable def bitN (b : BinOp) (p m n : Nat) : Nat := match b with
 | .and => Nat.land m n
 | .or => Nat.lor m n
 | .xor => Nat.xor m n
 | _ => Nat.land m (Nat.sub (Nat.sub p 1) n)
noncomputable def bitsK (b : BinOp) (k : IntKind) (m n : Int) (c : Int → Bool) : Bool := forceN (natK k m) fun m => forceN (natK k n) fun n => forceN (bitN b (pK k) m n) fun r => wrapK k (.ofNat r) c
omit Y in
theorem bitsK_is (b : BinOp) (k : IntKind) (m n : Int) (c : Int → Bool) : bitsK b k m n c = c (bitsOf b k m n) := by
 unfold bitsK
 rw [forceN_is, forceN_is, forceN_is, wrapK_is]
 congr 1
 have hp : 2 ^ k.bits = pK k := by cases k <;> rfl
 cases b <;> simp only [bitN, bitsOf] <;> congr 1 <;> simp only [BitVec.toNat_and, BitVec.toNat_or, BitVec.toNat_xor, BitVec.toNat_not, bv_natK, hp] <;> rfl
noncomputable def ltI (m n : Int) : Bool := Int.rec (fun a => Int.rec (fun b => Nat.blt a b) (fun _ => false) n) (fun a => Int.rec (fun _ => true) (fun b => Nat.blt b a) n) m
omit Y in
theorem ltI_is (m n : Int) : ltI m n = decide (m < n) := by
 cases m with
 | ofNat a => cases n with
  | ofNat b =>
   show Nat.blt a b = _
   rw [blt_is]
   congr 1
   simp
  | negSucc b =>
   show false = _
   symm
   rw [decide_eq_false_iff_not]
   simp only [Int.negSucc_eq, Int.ofNat_eq_natCast]
   omega
 | negSucc a => cases n with
  | ofNat b =>
   show true = _
   symm
   rw [decide_eq_true_eq]
   simp only [Int.negSucc_eq, Int.ofNat_eq_natCast]
   omega
  | negSucc b =>
   show Nat.blt b a = _
   rw [blt_is, Bool.eq_iff_iff, decide_eq_true_eq, decide_eq_true_eq]
   simp only [Int.negSucc_eq]
   omega
noncomputable def eqI (m n : Int) : Bool := Int.rec (fun a => Int.rec (fun b => Nat.beq a b) (fun _ => false) n) (fun a => Int.rec (fun _ => false) (fun b => Nat.beq a b) n) m
omit Y in
theorem eqI_is (m n : Int) : eqI m n = (m == n) := by
 rw [Bool.eq_iff_iff, beq_iff_eq]
 cases m with
 | ofNat a => cases n with
  | ofNat b =>
   show Nat.beq a b = true ↔ _
   rw [Nat.beq_eq]
   exact Int.ofNat_inj.symm
  | negSucc b =>
   show false = true ↔ _
   simp
 | negSucc a => cases n with
  | ofNat b =>
   show false = true ↔ _
   simp
  | negSucc b =>
   show Nat.beq a b = true ↔ _
   simp
omit Y in
theorem litI_is {n : Int} : litI n = true ↔ -1237940039285380274899124224 < n ∧ n < 1237940039285380274899124224 := by
 unfold litI
 rw [blt_is, decide_eq_true_eq]
 omega
omit Y in
theorem smP_is {n : Int} : smP n = true ↔ -316912650057057350374175801344 < n ∧ n < 316912650057057350374175801344 := by
 unfold smP
 rw [blt_is, decide_eq_true_eq]
 omega
omit Y in
theorem lit_ok {n : Int} (h : litI n = true) : okA n = true := by
 rw [litI_is] at h
 have h1 : cstP n = n := by unfold cstP;omega
 have h2 : rstP n = 0 := by unfold rstP;omega
 unfold okA
 rw [h1, h2]
 simp only [Bool.and_eq_true, smP_is]
 exact ⟨⟨⟨by omega, by decide, by decide⟩, by decide, by decide⟩, by decide, by decide⟩
def thOf (e1 e2 e3 e4 : Int) (n : Int) : Int := cstP n + e1 * cstP (rstP n) + e2 * cstP (rstP (rstP n)) + e3 * cstP (rstP (rstP (rstP n))) + e4 * rstP (rstP (rstP (rstP n)))
omit Y in
theorem cst_add {x y : Int} (hx : smP (cstP x) = true) (hy : smP (cstP y) = true) : cstP (x + y) = cstP x + cstP y ∧ rstP (x + y) = rstP x + rstP y := by
 rw [smP_is] at hx hy
 unfold cstP rstP at *
 omega
omit Y in
theorem cst_sub {x y : Int} (hx : smP (cstP x) = true) (hy : smP (cstP y) = true) : cstP (x - y) = cstP x - cstP y ∧ rstP (x - y) = rstP x - rstP y := by
 rw [smP_is] at hx hy
 unfold cstP rstP at *
 omega
omit Y in
theorem thOf_lit {e1 e2 e3 e4 n : Int} (h : litI n = true) : thOf e1 e2 e3 e4 n = n := by
 rw [litI_is] at h
 have h1 : cstP n = n := by unfold cstP;omega
 have h2 : rstP n = 0 := by unfold rstP;omega
 unfold thOf
 have a : rstP 0 = 0 := by decide
 have b : cstP 0 = 0 := by decide
 rw [h1, h2]
 simp only [a, b, Int.mul_zero, Int.add_zero]
omit Y in
theorem thOf_add {e1 e2 e3 e4 x y : Int} (hx : okA x = true) (hy : okA y = true) : thOf e1 e2 e3 e4 (x + y) = thOf e1 e2 e3 e4 x + thOf e1 e2 e3 e4 y := by
 unfold okA at hx hy
 simp only [Bool.and_eq_true] at hx hy
 obtain ⟨h1, h2⟩ := cst_add hx.1.1.1 hy.1.1.1
 obtain ⟨h3, h4⟩ := cst_add hx.1.1.2 hy.1.1.2
 obtain ⟨h5, h6⟩ := cst_add hx.1.2 hy.1.2
 obtain ⟨h7, h8⟩ := cst_add hx.2 hy.2
 unfold thOf
 rw [h1, h2, h3, h4, h5, h6, h7, h8, Int.mul_add, Int.mul_add, Int.mul_add, Int.mul_add]
 omega
omit Y in
theorem thOf_sub {e1 e2 e3 e4 x y : Int} (hx : okA x = true) (hy : okA y = true) : thOf e1 e2 e3 e4 (x - y) = thOf e1 e2 e3 e4 x - thOf e1 e2 e3 e4 y := by
 unfold okA at hx hy
 simp only [Bool.and_eq_true] at hx hy
 obtain ⟨h1, h2⟩ := cst_sub hx.1.1.1 hy.1.1.1
 obtain ⟨h3, h4⟩ := cst_sub hx.1.1.2 hy.1.1.2
 obtain ⟨h5, h6⟩ := cst_sub hx.1.2 hy.1.2
 obtain ⟨h7, h8⟩ := cst_sub hx.2 hy.2
 unfold thOf
 rw [h1, h2, h3, h4, h5, h6, h7, h8, Int.mul_sub, Int.mul_sub, Int.mul_sub, Int.mul_sub]
 omega
noncomputable def rngOf (tb : List (Int × Int × Int)) (n : Int) : Option (Int × Int) := List.rec none (fun q _ ih => match eqI (rstP n) q.1 with
 | true => some (q.2.1 + cstP n, q.2.2 + cstP n)
 | false => ih) tb
omit Y in
theorem rngOf_ok {e1 e2 e3 e4 : Int} : ∀ {tb : List (Int × Int × Int)}, (∀ q ∈ tb, q.2.1 ≤ e1 * cstP q.1 + e2 * cstP (rstP q.1) + e3 * cstP (rstP (rstP q.1)) + e4 * rstP (rstP (rstP q.1)) ∧ e1 * cstP q.1 + e2 * cstP (rstP q.1) + e3 * cstP (rstP (rstP q.1)) + e4 * rstP (rstP (rstP q.1)) ≤ q.2.2) → ∀ {n lo hi : Int}, rngOf tb n = some (lo, hi) → lo ≤ thOf e1 e2 e3 e4 n ∧ thOf e1 e2 e3 e4 n ≤ hi
 | [], _, _, _, _, h => by cases h
 | q :: r, hq, n, lo, hi, h0 => by
  have h : (match eqI (rstP n) q.1 with
   | true => some (q.2.1 + cstP n, q.2.2 + cstP n)
   | false => rngOf r n) = some (lo, hi) := h0
  split at h
  ·rename_i he
   rw [eqI_is, beq_iff_eq] at he
   cases h
   obtain ⟨h1, h2⟩ := hq q List.mem_cons_self
   unfold thOf
   rw [he]
   omega
  ·exact rngOf_ok (fun p hp => hq p (List.mem_cons_of_mem _ hp)) h
@[instance_reducible] noncomputable def syOf (e1 e2 e3 e4 : Int) (tb : List (Int × Int × Int)) (h : ∀ q ∈ tb, q.2.1 ≤ e1 * cstP q.1 + e2 * cstP (rstP q.1) + e3 * cstP (rstP (rstP q.1)) + e4 * rstP (rstP (rstP q.1)) ∧ e1 * cstP q.1 + e2 * cstP (rstP q.1) + e3 * cstP (rstP (rstP q.1)) + e4 * rstP (rstP (rstP q.1)) ≤ q.2.2) : Sy := ⟨thOf e1 e2 e3 e4, rngOf tb, fun _ => thOf_lit, fun _ _ => thOf_add, fun _ _ => thOf_sub, fun _ _ _ => rngOf_ok h⟩
noncomputable def ltS (m n : Int) (c : Bool → Bool) : Bool := match litI m && litI n with
 | true => forceB (ltI m n) c
 | false => match okA m && okA n with
  | true => match litI (n - m) with
   | true => forceB (ltI 0 (n - m)) c
   | false => match Y.rng (n - m) with
    | some (lo, hi) => match ltI 0 lo with
     | true => c true
     | false => match ltI hi 1 with
      | true => c false
      | false => false
    | none => false
  | false => false
theorem ltS_ok {m n : Int} {c : Bool → Bool} (h : ltS m n c = true) : c (decide (Y.th m < Y.th n)) = true := by
 unfold ltS at h
 split at h
 ·rename_i hl
  rw [Bool.and_eq_true] at hl
  rw [forceB_is, ltI_is] at h
  rw [Y.lit m hl.1, Y.lit n hl.2]
  exact h
 ·split at h
  case h_2 => cases h
  rename_i ho
  rw [Bool.and_eq_true] at ho
  have hs := Y.sub n m ho.2 ho.1
  split at h
  ·rename_i hd
   rw [forceB_is, ltI_is] at h
   rw [Y.lit _ hd] at hs
   rw [show decide (Y.th m < Y.th n) = decide (0 < n - m) by rw [Bool.eq_iff_iff];simp only [decide_eq_true_eq];omega]
   exact h
  ·split at h
   case h_2 => cases h
   rename_i lo hi hr
   obtain ⟨r1, r2⟩ := Y.rng_ok _ _ _ hr
   split at h
   ·rename_i h1
    rw [ltI_is, decide_eq_true_eq] at h1
    rw [dqT (by omega)]
    exact h
   ·split at h
    ·rename_i h1
     rw [ltI_is, decide_eq_true_eq] at h1
     rw [dqF (by omega)]
     exact h
    ·cases h
noncomputable def eqS (m n : Int) (c : Bool → Bool) : Bool := match litI m && litI n with
 | true => forceB (eqI m n) c
 | false => match okA m && okA n with
  | true => match litI (n - m) with
   | true => forceB (eqI 0 (n - m)) c
   | false => match Y.rng (n - m) with
    | some (lo, hi) => match ltI 0 lo with
     | true => c false
     | false => match ltI hi 0 with
      | true => c false
      | false => false
    | none => false
  | false => false
theorem eqS_ok {m n : Int} {c : Bool → Bool} (h : eqS m n c = true) : c (Y.th m == Y.th n) = true := by
 unfold eqS at h
 split at h
 ·rename_i hl
  rw [Bool.and_eq_true] at hl
  rw [forceB_is, eqI_is] at h
  rw [Y.lit m hl.1, Y.lit n hl.2]
  exact h
 ·split at h
  case h_2 => cases h
  rename_i ho
  rw [Bool.and_eq_true] at ho
  have hs := Y.sub n m ho.2 ho.1
  split at h
  ·rename_i hd
   rw [forceB_is, eqI_is] at h
   rw [Y.lit _ hd] at hs
   rw [show (Y.th m == Y.th n) = (0 == n - m) by rw [Bool.eq_iff_iff, beq_iff_eq, beq_iff_eq];omega]
   exact h
  ·split at h
   case h_2 => cases h
   rename_i lo hi hr
   obtain ⟨r1, r2⟩ := Y.rng_ok _ _ _ hr
   have hf : ∀ q : Y.th m ≠ Y.th n, (Y.th m == Y.th n) = false := fun q => by simpa using q
   split at h
   ·rename_i h1
    rw [ltI_is, decide_eq_true_eq] at h1
    rw [hf (by omega)]
    exact h
   ·split at h
    ·rename_i h1
     rw [ltI_is, decide_eq_true_eq] at h1
     rw [hf (by omega)]
     exact h
    ·cases h
def mnK : IntKind → Int
 | .i8 => -128
 | .i16 => -32768
 | .i32 => -2147483648
 | .i64 => -9223372036854775808
 | _ => 0
noncomputable def wrapS (k : IntKind) (x : Int) (c : Int → Bool) : Bool := match litI x with
 | true => wrapK k x c
 | false => match Y.rng x with
  | some (lo, hi) => forceI (Int.ediv (lo - mnK k) (pK k)) fun j => match okA x && litI (j * pK k) && ltI (hi - j * pK k - mnK k) (pK k) with
   | true => forceI (x - j * pK k) c
   | false => false
  | none => false
theorem wrapS_ok {k : IntKind} {x : Int} {c : Int → Bool} (h : wrapS k x c = true) : ∃ y, (c y = true ∧ k.wrap (Y.th x) = Y.th y) ∨ (litI x = true ∧ c y = true ∧ y = k.wrap x) := by
 unfold wrapS at h
 split at h
 ·rename_i hl
  rw [wrapK_is] at h
  exact ⟨_, .inr ⟨hl, h, rfl⟩⟩
 ·split at h
  case h_2 => cases h
  rename_i lo hi hr
  rw [forceI_is] at h
  split at h
  case h_2 => cases h
  rename_i ho
  simp only [Bool.and_eq_true] at ho
  obtain ⟨⟨o1, o2⟩, o3⟩ := ho
  rw [forceI_is] at h
  rw [ltI_is, decide_eq_true_eq] at o3
  obtain ⟨r1, r2⟩ := Y.rng_ok _ _ _ hr
  refine ⟨_, .inl ⟨h, ?_⟩⟩
  rw [Y.sub _ _ o1 (lit_ok o2), Y.lit _ o2]
  generalize Y.th x = z at *
  have hj : ∃ j, Int.ediv (lo - mnK k) (pK k) = j := ⟨_, rfl⟩
  obtain ⟨j, hj⟩ := hj
  rw [hj] at o3 ⊢
  have hj' : (lo - mnK k) / (pK k : Int) = j := hj
  clear hj o2 h hr o1
  cases k <;> simp only [IntKind.wrap, pK, mnK, IntKind.signed, IntKind.bits, Bool.true_and, Bool.false_and, decide_eq_true_eq, ge_iff_le, Bool.false_eq_true, if_false] at * <;> first | omega | (split <;> omega)
omit Y in
theorem wrap_lit (k : IntKind) (x : Int) : litI (k.wrap x) = true := by
 rw [litI_is]
 cases k <;> simp only [IntKind.wrap, IntKind.signed, IntKind.bits, Bool.true_and, Bool.false_and, decide_eq_true_eq, ge_iff_le, Bool.false_eq_true, if_false] <;> first | omega | (split <;> omega)
noncomputable def litK (k : IntKind) (n : Int) (c : Value → Bool) : Bool := match litI n with
 | true => c (.int k n)
 | false => false
theorem litK_ok {k : IntKind} {n : Int} {c : Value → Bool} (h : litK k n c = true) : Y.th n = n ∧ c (.int k n) = true := by
 unfold litK at h
 split at h
 ·rename_i hl
  exact ⟨Y.lit n hl, h⟩
 ·cases h
noncomputable def lit2 (m n : Int) (c : Bool) : Bool := match litI m && litI n with
 | true => c
 | false => false
theorem lit2_ok {m n : Int} {c : Bool} (h : lit2 m n c = true) : Y.th m = m ∧ Y.th n = n ∧ c = true := by
 unfold lit2 at h
 split at h
 ·rename_i hl
  rw [Bool.and_eq_true] at hl
  exact ⟨Y.lit m hl.1, Y.lit n hl.2, h⟩
 ·cases h
noncomputable def sumS (k : IntKind) (m n x : Int) (c : Int → Bool) : Bool := match litI m && litI n with
 | true => wrapK k x c
 | false => match okA m && okA n with
  | true => wrapS k x c
  | false => false
theorem sumS_ok {k : IntKind} {m n x z : Int} {c : Int → Bool} (h1 : litI m = true → litI n = true → z = x) (h2 : okA m = true → okA n = true → z = Y.th x) (h : sumS k m n x c = true) : ∃ y, c y = true ∧ k.wrap z = Y.th y := by
 unfold sumS at h
 split at h
 ·rename_i hl
  rw [Bool.and_eq_true] at hl
  rw [wrapK_is] at h
  exact ⟨_, h, by rw [h1 hl.1 hl.2, Y.lit _ (wrap_lit k x)]⟩
 ·split at h
  case h_2 => cases h
  rename_i ho
  rw [Bool.and_eq_true] at ho
  rw [h2 ho.1 ho.2]
  obtain ⟨y, hy | ⟨q1, q2, q3⟩⟩ := wrapS_ok h
  ·exact ⟨y, hy⟩
  ·refine ⟨y, q2, ?_⟩
   rw [Y.lit x q1, q3, Y.lit _ (wrap_lit k x)]
noncomputable def remS (m n : Int) (c : Int → Bool) : Bool := match ltI 0 n && litI n && okA m with
 | true => match Y.rng m with
  | some (lo, hi) => match ltI lo 0 with
   | true => false
   | false => forceI (Int.ediv lo n) fun j => match litI (j * n) && ltI hi (j * n + n) with
    | true => forceI (m - j * n) c
    | false => false
  | none => false
 | false => false
theorem remS_ok {m n : Int} {c : Int → Bool} (h : remS m n c = true) : Y.th n ≠ 0 ∧ ∃ y, c y = true ∧ (Y.th m).tmod (Y.th n) = Y.th y := by
 unfold remS at h
 split at h
 case h_2 => cases h
 rename_i ho
 simp only [Bool.and_eq_true, ltI_is, decide_eq_true_eq] at ho
 obtain ⟨⟨o1, o2⟩, o3⟩ := ho
 split at h
 case h_2 => cases h
 rename_i lo hi hr
 split at h
 ·cases h
 rename_i hl
 rw [ltI_is, decide_eq_false_iff_not] at hl
 rw [forceI_is] at h
 split at h
 case h_2 => cases h
 rename_i hj
 simp only [Bool.and_eq_true, ltI_is, decide_eq_true_eq] at hj
 obtain ⟨j1, j2⟩ := hj
 rw [forceI_is] at h
 obtain ⟨r1, r2⟩ := Y.rng_ok _ _ _ hr
 rw [Y.lit n o2]
 refine ⟨by omega, _, h, ?_⟩
 rw [Y.sub _ _ o3 (lit_ok j1), Y.lit _ j1]
 have hj : lo.ediv n * n ≤ lo := Int.ediv_mul_le lo (by omega)
 generalize lo.ediv n = q at *
 generalize Y.th m = z at *
 have hz : z = (z - q * n) + q * n := by omega
 rw [Int.tmod_eq_emod_of_nonneg (by omega)]
 rw [hz, Int.add_mul_emod_self_right, Int.emod_eq_of_lt (by omega) (by omega)]
 omega
noncomputable def arithK (b : BinOp) (k : IntKind) (m n : Int) (c : Value → Bool) : Bool := match b with
 | .add => sumS k m n (Int.add m n) fun s => c (.int k s)
 | .sub => sumS k m n (Int.sub m n) fun s => c (.int k s)
 | .mul => lit2 m n (wrapK k (Int.mul m n) fun s => c (.int k s))
 | .quo => lit2 m n (Bool.rec (wrapK k (m.tdiv n) fun s => c (.int k s)) false (eqI n 0))
 | .rem => match litI m && litI n with
  | true => lit2 m n (Bool.rec (forceI (m.tmod n) fun s => litK k s c) false (eqI n 0))
  | false => remS m n fun s => c (.int k s)
 | .and | .or | .xor | .andNot => lit2 m n (bitsK b k m n fun s => litK k s c)
 | .eql => eqS m n fun b => forceB b fun b => c (.bool b)
 | .neq => eqS m n fun b => forceB (!b) fun b => c (.bool b)
 | .lss => ltS m n fun b => forceB b fun b => c (.bool b)
 | .geq => ltS m n fun b => forceB (!b) fun b => c (.bool b)
 | .gtr => ltS n m fun b => forceB b fun b => c (.bool b)
 | .leq => ltS n m fun b => forceB (!b) fun b => c (.bool b)
 | _ => false
noncomputable def shiftK (b : BinOp) (k : IntKind) (m n : Int) (c : Value → Bool) : Bool := lit2 m n (Bool.rec (match b with
 | .shl => wrapK k (Int.mul m (.ofNat (Nat.pow 2 (Nat.min n.toNat k.bits)))) fun s => c (.int k s)
 | .shr => forceI (m.fdiv (.ofNat (Nat.pow 2 (Nat.min n.toNat k.bits)))) fun s => litK k s c
 | _ => false) false (ltI n 0))
variable {P : Program}
def OpS (P : Program) (t : Tr Value) (op : Op) (v : Value) : Prop := ∀ (ρ : Rl) (n : Nat) (df : List Deferred) (a : Act) (w : World) (R : Value → World → Prop) (d : Option Tmp) (ty : TypeId) (pos : String) (af : Array Edge) (g : Option (Nat × Bool)),
 FrR ρ n df t a → (∀ u, VR ρ v u → R u w) → OpTo P ⟨d, op, ty, pos, af, g⟩ a.eval w R
theorem OpdR.int {t : Tr Value} {x : Operand} {k : IntKind} {m : Int} (h : OpdR t x (.int k m)) {ρ : Rl} {n : Nat} {df : List Deferred} {a : Act} (F : FrR ρ n df t a) : a.eval x = .int k (Y.th m) := by
 have := h ρ n df a F
 generalize a.eval x = u at *
 cases this
 rfl
theorem OpdR.intT {t : Tr Value} {x : Operand} {k : IntKind} {m : Int} (h : OpdR t x (.int k m)) (e : Y.th m = m) {ρ : Rl} {n : Nat} {df : List Deferred} {a : Act} (F : FrR ρ n df t a) : a.eval x = .int k m := by
 rw [h.int F, e]
theorem OpdR.bool {t : Tr Value} {x : Operand} {b : Bool} (h : OpdR t x (.bool b)) {ρ : Rl} {n : Nat} {df : List Deferred} {a : Act} (F : FrR ρ n df t a) : a.eval x = .bool b := by
 have := h ρ n df a F
 generalize a.eval x = u at *
 cases this
 rfl
theorem VR.lit {ρ : Rl} {k : IntKind} {n : Int} (h : Y.th n = n) : VR ρ (.int k n) (.int k n) := by
 have := VR.int (ρ := ρ) k n
 rwa [h] at this
theorem VR.wr {ρ : Rl} {k k' : IntKind} {x : Int} : VR ρ (.int k (k'.wrap x)) (.int k (k'.wrap x)) := VR.lit (Y.lit _ (wrap_lit k' x))
theorem arithK_ok {t : Tr Value} {x y : Operand} {tt t' : TypeId} {b : BinOp} {k : IntKind} {m n : Int} {c : Value → Bool} (hx : OpdR t x (.int k m)) (hy : OpdR t y (.int k n)) (h : arithK b k m n c = true) : ∃ v, OpS P t (.binOp b tt x y t') v ∧ c v = true := by
 have hd : ∀ b : Bool, ∀ f : Bool → Bool, forceB b f = f b := forceB_is
 have hz : ∀ f : Bool, (Bool.rec f false (eqI n 0) : Bool) = true → n ≠ 0 ∧ f = true := fun f h => by
  rw [eqI_is] at h
  cases hz : (n == 0) with
  | true => rw [hz] at h;cases h
  | false => rw [hz] at h;exact ⟨by simpa using hz, h⟩
 cases b with
 | add =>
  obtain ⟨s, h1, h2⟩ := sumS_ok (z := Y.th m + Y.th n) (fun l1 l2 => by rw [Y.lit m l1, Y.lit n l2]) (fun o1 o2 => (Y.add m n o1 o2).symm) h
  exact ⟨_, fun ρ nn df a w R d ty pos af g F hR => o_add (hx.int F) (hy.int F) h2 (hR _ (.int _ _)), h1⟩
 | sub =>
  obtain ⟨s, h1, h2⟩ := sumS_ok (z := Y.th m - Y.th n) (fun l1 l2 => by rw [Y.lit m l1, Y.lit n l2]) (fun o1 o2 => (Y.sub m n o1 o2).symm) h
  exact ⟨_, fun ρ nn df a w R d ty pos af g F hR => o_sub (hx.int F) (hy.int F) h2 (hR _ (.int _ _)), h1⟩
 | mul =>
  obtain ⟨e1, e2, h⟩ := lit2_ok h
  rw [wrapK_is] at h
  exact ⟨_, fun ρ nn df a w R d ty pos af g F hR => o_mul (hx.int F) (hy.int F) (by rw [e1, e2];rfl) (hR _ .wr), h⟩
 | quo =>
  obtain ⟨e1, e2, h⟩ := lit2_ok h
  obtain ⟨h0, h1⟩ := hz _ h
  rw [wrapK_is] at h1
  exact ⟨_, fun ρ nn df a w R d ty pos af g F hR => o_quo (hx.int F) (hy.int F) (by rw [e2];exact h0) (by rw [e1, e2]) (hR _ .wr), h1⟩
 | rem =>
  have h0 : (match litI m && litI n with
   | true => lit2 m n (Bool.rec (forceI (m.tmod n) fun s => litK k s c) false (eqI n 0))
   | false => remS m n fun s => c (.int k s) : Bool) = true := h
  clear h
  split at h0
  case h_2 =>
   obtain ⟨e1, y, h1, e2⟩ := remS_ok h0
   exact ⟨_, fun ρ nn df a w R d ty pos af g F hR => o_rem (hx.int F) (hy.int F) e1 e2 (hR _ (.int _ _)), h1⟩
  obtain ⟨e1, e2, h⟩ := lit2_ok h0
  obtain ⟨h0, h1⟩ := hz _ h
  rw [forceI_is] at h1
  obtain ⟨e3, h1⟩ := litK_ok h1
  exact ⟨_, fun ρ nn df a w R d ty pos af g F hR => o_rem (hx.int F) (hy.int F) (by rw [e2];exact h0) (by rw [e1, e2]) (hR _ (.lit e3)), h1⟩
 | and =>
  obtain ⟨e1, e2, h⟩ := lit2_ok h
  rw [bitsK_is] at h
  obtain ⟨e3, h1⟩ := litK_ok h
  exact ⟨_, fun ρ nn df a w R d ty pos af g F hR => o_and (hx.int F) (hy.int F) (by rw [e1, e2]) (hR _ (.lit e3)), h1⟩
 | or =>
  obtain ⟨e1, e2, h⟩ := lit2_ok h
  rw [bitsK_is] at h
  obtain ⟨e3, h1⟩ := litK_ok h
  exact ⟨_, fun ρ nn df a w R d ty pos af g F hR => o_or (hx.int F) (hy.int F) (by rw [e1, e2]) (hR _ (.lit e3)), h1⟩
 | xor =>
  obtain ⟨e1, e2, h⟩ := lit2_ok h
  rw [bitsK_is] at h
  obtain ⟨e3, h1⟩ := litK_ok h
  exact ⟨_, fun ρ nn df a w R d ty pos af g F hR => o_xor (hx.int F) (hy.int F) (by rw [e1, e2]) (hR _ (.lit e3)), h1⟩
 | andNot =>
  obtain ⟨e1, e2, h⟩ := lit2_ok h
  rw [bitsK_is] at h
  obtain ⟨e3, h1⟩ := litK_ok h
  exact ⟨_, fun ρ nn df a w R d ty pos af g F hR => o_andNot (hx.int F) (hy.int F) (by rw [e1, e2]) (hR _ (.lit e3)), h1⟩
 | eql =>
  have h := eqS_ok h
  rw [hd] at h
  exact ⟨_, fun ρ nn df a w R d ty pos af g F hR => o_eql (hx.int F) (hy.int F) (hR _ (.bool _)), h⟩
 | neq =>
  have h := eqS_ok h
  rw [hd] at h
  exact ⟨_, fun ρ nn df a w R d ty pos af g F hR => o_neq (hx.int F) (hy.int F) (hR _ (.bool _)), h⟩
 | lss =>
  have h := ltS_ok h
  rw [hd] at h
  exact ⟨_, fun ρ nn df a w R d ty pos af g F hR => o_lss (hx.int F) (hy.int F) (hR _ (.bool _)), h⟩
 | gtr =>
  have h := ltS_ok h
  rw [hd] at h
  exact ⟨_, fun ρ nn df a w R d ty pos af g F hR => o_gtr (hx.int F) (hy.int F) (hR _ (.bool _)), h⟩
 | leq =>
  have h := ltS_ok h
  rw [hd] at h
  exact ⟨_, fun ρ nn df a w R d ty pos af g F hR => o_leq (hx.int F) (hy.int F) (hR _ (.bool _)), by rw [show decide (Y.th m ≤ Y.th n) = !decide (Y.th n < Y.th m) by rw [Bool.eq_iff_iff];simp];exact h⟩
 | geq =>
  have h := ltS_ok h
  rw [hd] at h
  exact ⟨_, fun ρ nn df a w R d ty pos af g F hR => o_geq (hx.int F) (hy.int F) (hR _ (.bool _)), by rw [show decide (Y.th n ≤ Y.th m) = !decide (Y.th m < Y.th n) by rw [Bool.eq_iff_iff];simp];exact h⟩
 | _ => cases h
theorem shiftK_ok {t : Tr Value} {x y : Operand} {tt t' : TypeId} {b : BinOp} {k k' : IntKind} {m n : Int} {c : Value → Bool} (hx : OpdR t x (.int k m)) (hy : OpdR t y (.int k' n)) (h : shiftK b k m n c = true) : ∃ v, OpS P t (.binOp b tt x y t') v ∧ c v = true := by
 unfold shiftK at h
 obtain ⟨e1, e2, h⟩ := lit2_ok h
 rw [ltI_is] at h
 cases hz : decide (n < 0) with
 | true => rw [hz] at h;cases h
 | false =>
  rw [hz] at h
  have h0 : 0 ≤ n := by simpa using hz
  have hp : ∀ e : Nat, Int.ofNat (Nat.pow 2 e) = (2 : Int) ^ e := fun e => by
   show ((2 ^ e : Nat) : Int) = _
   simp
  dsimp only at h
  split at h
  ·rw [wrapK_is] at h
   exact ⟨_, fun ρ nn df a w R d ty pos af g F hR => o_shl (hx.int F) (hy.int F) (by rw [e2];exact h0) (by rw [e1, e2, ← hp];rfl) (hR _ .wr), h⟩
  ·rw [forceI_is] at h
   obtain ⟨e3, h1⟩ := litK_ok h
   exact ⟨_, fun ρ nn df a w R d ty pos af g F hR => o_shr (hx.int F) (hy.int F) (by rw [e2];exact h0) (by rw [e1, e2, ← hp]) (hR _ (.lit e3)), h1⟩
  ·cases h
end Go.Proofs.YtfhkmgcalcfibaaGreat
namespace Go.Proofs.YtfhkmgcalcfibaaGreat
open Go.RowKit
variable [Y : Sy]
/-! ### types -/
noncomputable def fldOff (P : Program) (s : TypeId) (i : Nat) : Option Nat := match P.underlying s with
 | some (.struct fs) => match fs[i]? with
  | some f => match P.info? f.type with
   | some j => Bool.rec (some f.offset) none (Nat.beq j.size 0)
   | none => none
  | none => none
 | _ => none
omit Y in
theorem fldOff_ok {P : Program} {s : TypeId} {i off : Nat} (h : fldOff P s i = some off) : fieldAtB P s i off = true := by
 unfold fldOff at h
 unfold fieldAtB
 split at h
 ·rename_i fs hu
  split at h
  ·rename_i f hf
   split at h
   ·rename_i j hj
    cases hb : Nat.beq j.size 0 with
    | true => rw [hb] at h;cases h
    | false =>
     rw [hb] at h
     have h' : f.offset = off := by simpa using h
     subst h'
     have : j.size ≠ 0 := fun e => by rw [e] at hb;cases hb
     simp [hu, hf, hj, this]
   ·cases h
  ·cases h
 ·cases h
noncomputable def fldTy (P : Program) (s : TypeId) (i : Nat) : Option (Nat × TypeId) := match P.underlying s with
 | some (.struct fs) => match fs[i]? with
  | some f => some (f.offset, f.type)
  | none => none
 | _ => none
omit Y in
theorem fldTy_ok {P : Program} {s : TypeId} {i : Nat} {q : Nat × TypeId} (h : fldTy P s i = some q) : fieldTyB P s i q.1 q.2 = true := by
 unfold fldTy at h
 unfold fieldTyB
 split at h
 ·rename_i fs hu
  split at h
  ·rename_i f hf
   cases h
   simp [hu, hf]
  ·cases h
 ·cases h
omit Y in
theorem sizeIs_of {P : Program} {t : TypeId} {i : _} (h : P.info? t = some i) : sizeIs P t i.size = true := by simp [sizeIs, h]
noncomputable def partK (P : Program) (ft : TypeId) (l : List Value) (off : Nat) (c : Value → Bool) : Bool := match isAggT P ft with
 | true => match P.info? ft with
  | some i => segK l off i.size fun vs => c (.agg vs.toArray)
  | none => false
 | false => match oneTy P ft with
  | true => nthK l off c
  | false => false
omit Y in
theorem partK_ok {P : Program} {ft : TypeId} {l : List Value} {off : Nat} {c : Value → Bool} (h : partK P ft l off c = true) :
  (oneTy P ft = true ∧ ∃ v, nth l off = some v ∧ c v = true) ∨ ∃ n, aggTy P ft n = true ∧ ∃ vs, seg l off n = some vs ∧ c (.agg vs.toArray) = true := by
 unfold partK at h
 split at h
 ·rename_i hb
  split at h
  ·rename_i i hi
   obtain ⟨vs, h1, h2⟩ := segK_ok h
   refine .inr ⟨i.size, ?_, vs, h1, h2⟩
   unfold isAggT at hb
   unfold aggTy
   simp only [hi, Option.map_some, BEq.rfl, Bool.and_true]
   split at hb <;> simp_all
  ·cases h
 ·split at h
  ·rename_i h1
   exact .inl ⟨h1, nthK_ok h⟩
  ·cases h
/-! ### operations -/
variable {P : Program} {t : Tr Value}
theorem okNil_vr {ρ : Rl} {v u : Value} (h : VR ρ v u) (hv : okNil v = true) : okNil u = true := by
 cases h <;> first | rfl | exact hv | (simp [okNil] at hv) | skip
 rename_i f vs us vs' us' _ _
 cases f <;> first | rfl | (simp [okNil] at hv)
noncomputable def unK (o : UnOp) (v : Value) (c : Value → Bool) : Bool := match o, v with
 | .not, .bool b => forceB (!b) fun b => c (.bool b)
 | .neg, .int k n => lit2 0 n (wrapK k (Int.sub 0 n) fun s => c (.int k s))
 | .xor, .int k n => lit2 0 n (bitsK .xor k (if k.signed then -1 else k.max) n fun s => litK k s c)
 | _, _ => false
theorem unK_ok {o : UnOp} {x : Operand} {tt : TypeId} {v : Value} {c : Value → Bool} (hx : OpdR t x v) (h : unK o v c = true) : ∃ v', OpS P t (.unOp o tt x) v' ∧ c v' = true := by
 unfold unK at h
 split at h
 ·rw [forceB_is] at h
  exact ⟨_, fun ρ n df a w R d ty pos af g F hR => o_not (hx.bool F) (hR _ (.bool _)), h⟩
 ·obtain ⟨_, e2, h⟩ := lit2_ok h
  rw [wrapK_is] at h
  exact ⟨_, fun ρ n df a w R d ty pos af g F hR => o_neg (hx.int F) (by rw [e2];rfl) (hR _ .wr), h⟩
 ·obtain ⟨_, e2, h⟩ := lit2_ok h
  rw [bitsK_is] at h
  obtain ⟨e3, h⟩ := litK_ok h
  exact ⟨_, fun ρ n df a w R d ty pos af g F hR => o_compl (hx.int F) (by rw [e2]) (hR _ (.lit e3)), h⟩
 ·cases h
noncomputable def litsK (l : List Value) : Bool := List.rec true (fun x _ ih => match x with
 | .int _ n => Bool.rec false ih (litI n)
 | _ => ih) l
theorem litsK_cons {x : Value} {xs : List Value} (h : litsK (x :: xs) = true) : litsK xs = true ∧ ∀ k n, x = .int k n → Y.th n = n := by
 cases x
 case int k n =>
  have h' : (Bool.rec false (litsK xs) (litI n) : Bool) = true := h
  cases hn : litI n with
  | false => rw [hn] at h';cases h'
  | true =>
   rw [hn] at h'
   exact ⟨h', fun k' n' e => by cases e;exact Y.lit n hn⟩
 all_goals exact ⟨h, fun k n e => by cases e⟩
theorem fits_same {ρ : Rl} : ∀ {ks : List LK} {xs us : List Value}, VRs ρ xs us → litsK xs = true → fitsK ks xs = true → us = xs
 | _, _, _, .nil, _, _ => rfl
 | [], _, _, .cons _ _, _, h => by simp [fitsK] at h
 | k :: ks, _, _, .cons h t, hl, hf => by
  simp only [fitsK, Bool.and_eq_true] at hf
  obtain ⟨hl1, hl2⟩ := litsK_cons hl
  rw [fits_same t hl1 hf.2]
  congr 1
  cases k <;> cases h <;> first | rfl | (rw [hl2 _ _ rfl];done) | (simp [fitK] at hf)
theorem fits_vr {ρ : Rl} : ∀ {ks : List LK} {xs us : List Value}, VRs ρ xs us → fitsK ks xs = true → fitsK ks us = true
 | _, _, _, .nil, h => h
 | [], _, _, .cons _ _, h => by simp [fitsK] at h
 | k :: ks, _, _, .cons h t, hf => by
  simp only [fitsK, Bool.and_eq_true] at hf ⊢
  refine ⟨?_, fits_vr t hf.2⟩
  cases k <;> cases h <;> first | exact hf.1 | (simp [fitK] at hf)
noncomputable def eqVsS (l : List Value) : List Value → (Bool → Bool) → Bool := List.rec (motive := fun _ => List Value → (Bool → Bool) → Bool) (fun l2 c => List.rec (c true) (fun _ _ _ => false) l2) (fun x _ ih l2 c => List.rec false (fun y ys _ => match x, y with
 | .int _ a, .int _ b => eqS a b fun r => Bool.rec (c false) (ih ys c) r
 | .bool a, .bool b => Bool.rec (Bool.rec (ih ys c) (c false) b) (Bool.rec (c false) (ih ys c) b) a
 | _, _ => false) l2) l
theorem eqVsS_ok : ∀ {xs ys : List Value} {c : Bool → Bool}, eqVsS xs ys c = true → ∃ r, c r = true ∧ ∀ {ρ : Rl} {us us' : List Value}, VRs ρ xs us → VRs ρ ys us' → eqVs us us' = r
  | [], [], c, h => ⟨true, h, fun h1 h2 => by cases h1;cases h2;rfl⟩
  | [], _ :: _, c, h => by cases h
  | _ :: _, [], c, h => by cases h
  | x :: xs, y :: ys, c, h => by
    cases x
    case int k a =>
      cases y
      case int k' b =>
       have h' : (eqS a b fun r => Bool.rec (c false) (eqVsS xs ys c) r) = true := h
       clear h
       have h := eqS_ok h'
       cases hr : (Y.th a == Y.th b) with
       | false =>
         rw [hr] at h
         exact ⟨false, h, fun h1 h2 => by
           cases h1 with | cons u1 t1 =>
           cases h2 with | cons u2 t2 =>
           cases u1
           cases u2
           simp only [eqVs, eqV, hr, Bool.false_and]⟩
       | true =>
         rw [hr] at h
         obtain ⟨r, h1, h2⟩ := eqVsS_ok h
         exact ⟨r, h1, fun k1 k2 => by
           cases k1 with | cons u1 t1 =>
           cases k2 with | cons u2 t2 =>
           cases u1
           cases u2
           simp only [eqVs, eqV, hr, Bool.true_and]
           exact h2 t1 t2⟩
      all_goals cases h
    case bool a =>
      cases y
      case bool b =>
       have hh : ∀ r : Bool, (a == b) = r → (Bool.rec (c false) (eqVsS xs ys c) r : Bool) = true → ∃ r, c r = true ∧ ∀ {ρ : Rl} {us us' : List Value}, VRs ρ (.bool a :: xs) us → VRs ρ (.bool b :: ys) us' → eqVs us us' = r := fun r hr h => by
         cases r with
         | false => exact ⟨false, h, fun h1 h2 => by
             cases h1 with | cons u1 t1 =>
             cases h2 with | cons u2 t2 =>
             cases u1
             cases u2
             simp only [eqVs, eqV, hr, Bool.false_and]⟩
         | true =>
           obtain ⟨r, h1, h2⟩ := eqVsS_ok h
           exact ⟨r, h1, fun k1 k2 => by
             cases k1 with | cons u1 t1 =>
             cases k2 with | cons u2 t2 =>
             cases u1
             cases u2
             simp only [eqVs, eqV, hr, Bool.true_and]
             exact h2 t1 t2⟩
       cases a <;> cases b <;> exact hh _ rfl h
      all_goals cases h
    all_goals (cases y <;> cases h)
noncomputable def eqVsK (l : List Value) : List Value → Bool := List.rec (motive := fun _ => List Value → Bool) (fun l2 => List.rec true (fun _ _ _ => false) l2) (fun x _ ih l2 => List.rec false (fun y ys _ => Bool.rec false (ih ys) (match x, y with | .int _ a, .int _ b => eqI a b | .bool a, .bool b => (match a, b with | true, true => true | false, false => true | _, _ => false) | _, _ => false)) l2) l
omit Y in
theorem eqVsK_is : ∀ (xs ys : List Value), eqVsK xs ys = eqVs xs ys
 | [], [] => rfl
 | [], _ :: _ => rfl
 | _ :: _, [] => rfl
 | x :: xs, y :: ys => by
  show (Bool.rec false (eqVsK xs ys) (match x, y with | .int _ a, .int _ b => eqI a b | .bool a, .bool b => (match a, b with | true, true => true | false, false => true | _, _ => false) | _, _ => false) : Bool) = _
  rw [eqVsK_is xs ys]
  show _ = (eqV x y && eqVs xs ys)
  have : (match x, y with | .int _ a, .int _ b => eqI a b | .bool a, .bool b => (match a, b with | true, true => true | false, false => true | _, _ => false) | _, _ => false) = eqV x y := by
   unfold eqV
   split
   ·exact eqI_is _ _
   ·rename_i a b
    cases a <;> cases b <;> rfl
   ·rename_i h1 h2
    split
    ·rename_i k a k' b
     exact (h1 _ _ _ _ rfl rfl).elim
    ·rename_i a b
     exact (h2 _ _ rfl rfl).elim
    ·rfl
  rw [this]
  cases eqV x y <;> rfl
omit Y in
theorem o_neqNil {ρ : Operand → Value} {w : World} {R : Value → World → Prop} {d : Option Tmp} {ty : TypeId} {pos : String} {af : Array Edge} {g : Option (Nat × Bool)} {t t' e : TypeId} {x y : Operand} {p : Option Addr} {n c : Nat} (hx : ρ x = .slice p n c) (hy : ρ y = .slice none 0 0) [ht : TU P t (.slice e)] (h : R (.bool !p.isNone) w) : OpTo P ⟨d, .binOp .neq t x y t', ty, pos, af, g⟩ ρ w R := by
 have hr0 : ∀ k : Nat, (Op.equalIn (k + 1) t (.slice p n c) (.slice none 0 0)).run P w = .ok p.isNone w := fun k => by
  cases p <;> simp [Op.equalIn, run_underlying ht.h]
 have hr := hr0 9999
 exact OpTo.val (v := .bool !p.isNone) (w' := w) (by simp [execOp, eqGuard, binOp, Op.equal, Op.maxDepth, hx, hy, hr]) h
noncomputable def aggEqK (P : Program) (tt : TypeId) (xs ys : List Value) (c : Bool → Bool) : Bool := match leafK P 8 tt with
 | some ks => match isAggT P tt && !P.eqGuardType P.depth tt with
  | true => match fitsK ks xs with
   | true => match fitsK ks ys with
    | true => eqVsS xs ys c
    | false => false
   | false => false
  | false => false
 | none => false
noncomputable def binK (P : Program) (b : BinOp) (tt : TypeId) (v u : Value) (c : Value → Bool) : Bool := match v, u with
 | .int k m, .int k' n => match b with
  | .shl => shiftK .shl k m n c
  | .shr => shiftK .shr k m n c
  | b => match kEqR k k' with
   | true => arithK b k m n c
   | false => false
 | .bool p, .bool q => match P.underlying tt with
  | some .bool => match b with
   | .eql => forceB (p == q) fun b => c (.bool b)
   | .neq => forceB (!(p == q)) fun b => c (.bool b)
   | _ => false
  | _ => false
 | .agg xs, .agg ys => match b with
  | .eql => aggEqK P tt xs.toList ys.toList fun b => c (.bool b)
  | .neq => aggEqK P tt xs.toList ys.toList fun b => forceB (!b) fun b => c (.bool b)
  | _ => false
 | .slice p _ _, .slice none 0 0 => match P.underlying tt with
  | some (.slice _) => match b with
   | .eql => forceB p.isNone fun b => c (.bool b)
   | .neq => forceB (!p.isNone) fun b => c (.bool b)
   | _ => false
  | _ => false
 | _, _ => false
theorem OpdR.agg {x : Operand} {cs : Array Value} (h : OpdR t x (.agg cs)) {ρ : Rl} {n : Nat} {df : List Deferred} {a : Act} (F : FrR ρ n df t a) : ∃ us, a.eval x = .agg us.toArray ∧ VRs ρ cs.toList us := by
 have := h ρ n df a F
 generalize a.eval x = u at *
 cases this
 rename_i us h
 exact ⟨us, rfl, h⟩
theorem OpdR.tup {x : Operand} {cs : Array Value} (h : OpdR t x (.tuple cs)) {ρ : Rl} {n : Nat} {df : List Deferred} {a : Act} (F : FrR ρ n df t a) : ∃ us, a.eval x = .tuple us.toArray ∧ VRs ρ cs.toList us := by
 have := h ρ n df a F
 generalize a.eval x = u at *
 cases this
 rename_i us h
 exact ⟨us, rfl, h⟩
theorem OpdR.ptr {x : Operand} {b o : Nat} (h : OpdR t x (.pointer (some ⟨b, o, none⟩))) {ρ : Rl} {n : Nat} {df : List Deferred} {a : Act} (F : FrR ρ n df t a) : ∃ r c, a.eval x = .pointer (some ⟨r, o, none⟩) ∧ ρ b = some (r, c) := by
 have := h ρ n df a F
 generalize a.eval x = u at *
 cases this
 rename_i r c h
 exact ⟨r, c, rfl, h⟩
theorem aggEqK_ok {tt : TypeId} {xs ys : List Value} {c : Bool → Bool} (h : aggEqK P tt xs ys c = true) : ∃ ks, eqB P tt ks = true ∧ fitsK ks xs = true ∧ fitsK ks ys = true ∧ ∃ r, c r = true ∧ ∀ {ρ : Rl} {us us' : List Value}, VRs ρ xs us → VRs ρ ys us' → eqVs us us' = r := by
 unfold aggEqK at h
 split at h
 ·rename_i ks hk
  split at h
  ·rename_i h1
   split at h
   ·rename_i h2
    split at h
    ·rename_i h3
     refine ⟨ks, ?_, h2, h3, eqVsS_ok h⟩
     simp only [Bool.and_eq_true] at h1
     simp [eqB, hk, h1.1, h1.2]
    ·cases h
   ·cases h
  ·cases h
 ·cases h
theorem VR.slice {ρ : Rl} {p : Option Addr} {n k : Nat} {u : Value} (h : VR ρ (.slice p n k) u) : ∃ q k', u = .slice q n k' ∧ q.isNone = p.isNone := by
 cases h
 ·exact ⟨none, k, rfl, rfl⟩
 ·exact ⟨_, _, rfl, rfl⟩
 ·exact ⟨_, _, rfl, rfl⟩
theorem binK_ok {b : BinOp} {x y : Operand} {tt t' : TypeId} {v u : Value} {c : Value → Bool} (hx : OpdR t x v) (hy : OpdR t y u) (h : binK P b tt v u c = true) : ∃ v', OpS P t (.binOp b tt x y t') v' ∧ c v' = true := by
 unfold binK at h
 split at h
 ·split at h
  ·exact shiftK_ok hx hy h
  ·exact shiftK_ok hx hy h
  ·split at h
   ·rename_i hk
    obtain rfl := kEq_ok' hk
    exact arithK_ok hx hy h
   ·cases h
 ·split at h
  ·rename_i hu
   haveI : TU P tt .bool := ⟨hu⟩
   split at h
   ·rw [forceB_is] at h
    exact ⟨_, fun ρ n df a w R d ty pos af g F hR => o_eqlB (hx.bool F) (hy.bool F) (hR _ (.bool _)), h⟩
   ·rw [forceB_is] at h
    exact ⟨_, fun ρ n df a w R d ty pos af g F hR => o_neqB (hx.bool F) (hy.bool F) (hR _ (.bool _)), h⟩
   ·cases h
  ·cases h
 ·split at h
  ·obtain ⟨ks, h1, h2, h3, r, h4, h5⟩ := aggEqK_ok h
   haveI : TEq P tt ks := ⟨h1⟩
   refine ⟨_, fun ρ n df a w R d ty pos af g F hR => ?_, h4⟩
   obtain ⟨us, e1, q1⟩ := hx.agg F
   obtain ⟨us', e2, q2⟩ := hy.agg F
   exact o_eqlA e1 e2 (fits_vr q1 h2) (fits_vr q2 h3) (by rw [h5 q1 q2];exact hR _ (.bool _))
  ·obtain ⟨ks, h1, h2, h3, r, h4, h5⟩ := aggEqK_ok h
   haveI : TEq P tt ks := ⟨h1⟩
   rw [forceB_is] at h4
   refine ⟨_, fun ρ n df a w R d ty pos af g F hR => ?_, h4⟩
   obtain ⟨us, e1, q1⟩ := hx.agg F
   obtain ⟨us', e2, q2⟩ := hy.agg F
   exact o_neqA e1 e2 (fits_vr q1 h2) (fits_vr q2 h3) (by rw [h5 q1 q2];exact hR _ (.bool _))
  ·cases h
 ·split at h
  ·rename_i e hu
   haveI : TU P tt (.slice e) := ⟨hu⟩
   split at h
   ·rw [forceB_is] at h
    refine ⟨_, fun ρ n df a w R d ty pos af g F hR => ?_, h⟩
    obtain ⟨q, k', e1, e2⟩ := (hx ρ n df a F).slice
    have hy' : a.eval y = .slice none 0 0 := by
     have := hy ρ n df a F
     generalize a.eval y = u at *
     cases this
     rfl
    exact o_eqlNil e1 hy' (hR _ (by rw [e2];exact .bool _))
   ·rw [forceB_is] at h
    refine ⟨_, fun ρ n df a w R d ty pos af g F hR => ?_, h⟩
    obtain ⟨q, k', e1, e2⟩ := (hx ρ n df a F).slice
    have hy' : a.eval y = .slice none 0 0 := by
     have := hy ρ n df a F
     generalize a.eval y = u at *
     cases this
     rfl
    exact o_neqNil e1 hy' (hR _ (by rw [e2];exact .bool _))
   ·cases h
  ·cases h
 ·cases h
end Go.Proofs.YtfhkmgcalcfibaaGreat
namespace Go.Proofs.YtfhkmgcalcfibaaGreat
open Go.RowKit
variable [Y : Sy]
variable {P : Program} {t : Tr Value}
/-! ### slices of slices -/
section
variable {ρ : Operand → Value} {w : World} {R : Value → World → Prop} {d : Option Tmp} {ty : TypeId} {pos : String} {af : Array Edge} {g : Option (Nat × Bool)}
omit Y in
theorem o_slG {tt e : TypeId} {x : Operand} {lo hi : Option Operand} {p : Option Addr} {len cap sz : Nat} {m n : Int} (hx : ρ x = .slice p len cap) (hlo : (lo = none ∧ m = 0) ∨ ∃ i k, lo = some i ∧ ρ i = .int k m) (hhi : (hi = none ∧ n = len) ∨ ∃ j k, hi = some j ∧ ρ j = .int k n)
  [ht : TU P tt (.slice e)] [hs : TSz P e sz] (h0 : 0 ≤ m) (h1 : m ≤ n) (h2 : n ≤ cap) (h : R (.slice (if cap = m.toNat then p else p.map (·.add (m.toNat * sz))) (n.toNat - m.toNat) (cap - m.toNat)) w) : OpTo P ⟨d, .slice tt x lo hi none, ty, pos, af, g⟩ ρ w R := by
 have h4 : 0 ≤ n := by omega
 have h5 : ¬ max n 0 < m := by omega
 rcases hlo with ⟨rfl, rfl⟩ | ⟨i, k, rfl, ei⟩
 ·rcases hhi with ⟨rfl, rfl⟩ | ⟨j, k', rfl, ej⟩
  ·exact OpTo.val (v := .slice (if cap = (0 : Int).toNat then p else p.map (·.add ((0 : Int).toNat * sz))) ((len : Int).toNat - (0 : Int).toNat) (cap - (0 : Int).toNat)) (w' := w) (by simp [execOp, Instr.sliceAt, Instr.slice, Instr.sliceBounds, Instr.sliceBound, asIntOf, hx, run_underlying ht.h, run_sizeOf hs.h]) h
  ·exact OpTo.val (v := .slice (if cap = (0 : Int).toNat then p else p.map (·.add ((0 : Int).toNat * sz))) (n.toNat - (0 : Int).toNat) (cap - (0 : Int).toNat)) (w' := w) (by simp [execOp, Instr.sliceAt, Instr.slice, Instr.sliceBounds, Instr.sliceBound, asIntOf, hx, ej, run_underlying ht.h, run_sizeOf hs.h, h4, h2]) h
 ·rcases hhi with ⟨rfl, rfl⟩ | ⟨j, k', rfl, ej⟩
  ·exact OpTo.val (v := .slice (if cap = m.toNat then p else p.map (·.add (m.toNat * sz))) ((len : Int).toNat - m.toNat) (cap - m.toNat)) (w' := w) (by simp [execOp, Instr.sliceAt, Instr.slice, Instr.sliceBounds, Instr.sliceBound, asIntOf, hx, ei, run_underlying ht.h, run_sizeOf hs.h, h0, h1]) h
  ·exact OpTo.val (v := .slice (if cap = m.toNat then p else p.map (·.add (m.toNat * sz))) (n.toNat - m.toNat) (cap - m.toNat)) (w' := w) (by simp [execOp, Instr.sliceAt, Instr.slice, Instr.sliceBounds, Instr.sliceBound, asIntOf, hx, ei, ej, run_underlying ht.h, run_sizeOf hs.h, h0, h4, h5, h2]) h
end
noncomputable def slOpen (b o len cap sz M N : Nat) (c : Value → Bool) : Bool := match Nat.beq M 0 with
 | true => c (.slice (some ⟨b, o, none⟩) N cap)
 | false => match Nat.blt M len with
  | true => match Nat.ble 9223372036854775808 (cap - M) && Nat.ble cap 18446744073709551616 with
   | true => forceN (o + M * sz) fun o => forceN (N - M) fun n => forceN (cap - M) fun k => c (.slice (some ⟨b, o, none⟩) n k)
   | false => false
  | false => match Nat.beq N M with
   | true => c (.slice (some ⟨0, 0, some 0⟩) 0 0)
   | false => false
noncomputable def slN (b o len cap sz M N : Nat) (c : Value → Bool) : Bool := match Nat.blt cap 9223372036854775808 with
 | true => match Nat.ble N cap with
  | true => match Nat.beq cap M with
   | true => forceN (N - M) fun n => c (.slice (some ⟨b, o, none⟩) n 0)
   | false => forceN (o + M * sz) fun o => forceN (N - M) fun n => forceN (cap - M) fun k => c (.slice (some ⟨b, o, none⟩) n k)
  | false => false
 | false => match Nat.ble N len with
  | true => slOpen b o len cap sz M N c
  | false => false
noncomputable def slK (P : Program) (tt : TypeId) (v : Value) (lo hi : Option Int) (c : Value → Bool) : Bool := match P.underlying tt with
 | some (.slice e) => match P.info? e with
  | some i => match v with
   | .slice p len cap => match lo.getD 0, hi.getD len with
    | .ofNat M, .ofNat N => match Nat.ble M N with
     | true => match p with
      | some ⟨b, o, none⟩ => slN b o len cap i.size M N c
      | none => match Nat.beq N 0 with
       | true => match Nat.beq cap 0 with
        | true => c (.slice none 0 0)
        | false => false
       | false => false
      | _ => false
     | false => false
    | _, _ => false
   | _ => false
  | none => false
 | _ => false
noncomputable def slAK (P : Program) (tt : TypeId) (v : Value) (lo hi : Option Int) (c : Value → Bool) : Bool := match P.underlying tt with
 | some (.array len e) => match P.info? e with
  | some i => match v with
   | .pointer (some ⟨b, o, none⟩) => match lo.getD 0, hi.getD len with
    | .ofNat M, .ofNat N => match Nat.ble M N && Nat.ble N len && Nat.blt M len && Nat.blt len 9223372036854775808 with
     | true => forceN (o + M * i.size) fun o => forceN (N - M) fun n => forceN (len - M) fun k => c (.slice (some ⟨b, o, none⟩) n k)
     | false => false
    | _, _ => false
   | _ => false
  | none => false
 | _ => false
def BndR (t : Tr Value) (x : Option Operand) (v : Option Int) : Prop := (x = none ∧ v = none) ∨ ∃ y k m, x = some y ∧ v = some m ∧ Y.th m = m ∧ OpdR t y (.int k m)
noncomputable def bndK (t : Tr Value) (x : Option Operand) (c : Option Int → Bool) : Bool := match x with
 | none => c none
 | some y => evK t y fun v => match v with
  | .int _ m => match litI m with
   | true => c (some m)
   | false => false
  | _ => false
theorem bndK_ok {x : Option Operand} {c : Option Int → Bool} (h : bndK t x c = true) : ∃ v, BndR t x v ∧ c v = true := by
 unfold bndK at h
 split at h
 ·exact ⟨none, .inl ⟨rfl, rfl⟩, h⟩
 ·obtain ⟨v, h1, h2⟩ := evK_ok h
  split at h2
  ·split at h2
   ·rename_i hl
    exact ⟨_, .inr ⟨_, _, _, rfl, rfl, Y.lit _ hl, h1⟩, h2⟩
   ·cases h2
  ·cases h2
omit Y in
theorem capR_sub {c k M : Nat} (h : 9223372036854775808 ≤ k - M) (hk : k ≤ 18446744073709551616) : capR c (k - M) = capR c k - M := by
 unfold capR
 rw [if_neg (by omega), if_neg (by omega)]
 omega
omit Y in
theorem capR_lt {c k : Nat} (h : k < 9223372036854775808) : capR c k = k := if_pos h
theorem slK_ok {tt : TypeId} {x : Operand} {lo hi : Option Operand} {v : Value} {m n : Option Int} {c : Value → Bool} (hx : OpdR t x v) (hm : BndR t lo m) (hn : BndR t hi n) (h : slK P tt v m n c = true) : ∃ v', OpS P t (.slice tt x lo hi none) v' ∧ c v' = true := by
 unfold slK at h
 split at h
 case h_2 => cases h
 rename_i e hu
 haveI : TU P tt (.slice e) := ⟨hu⟩
 split at h
 case h_2 => cases h
 rename_i i hi'
 haveI : TSz P e i.size := ⟨sizeIs_of hi'⟩
 split at h
 case h_2 => cases h
 rename_i p len cap
 split at h
 case h_2 => cases h
 rename_i M N hM hN
 split at h
 case h_2 => cases h
 rename_i hMN
 have hMN := Nat.le_of_ble_eq_true hMN
 have blo : ∀ {ρ : Rl} {nn : Nat} {df : List Deferred} {a : Act}, FrR ρ nn df t a → (lo = none ∧ (Int.ofNat M) = 0) ∨ ∃ i k, lo = some i ∧ a.eval i = .int k (Int.ofNat M) := fun F => by
  rcases hm with ⟨h1, h2⟩ | ⟨y, k, q, h1, h2, h4, h3⟩
  ·subst h2
   exact .inl ⟨h1, hM.symm⟩
  ·subst h2
   refine .inr ⟨y, k, h1, ?_⟩
   rw [← hM, h3.int F, h4]
   rfl
 have bhi : ∀ {ρ : Rl} {nn : Nat} {df : List Deferred} {a : Act}, FrR ρ nn df t a → (hi = none ∧ (Int.ofNat N) = len) ∨ ∃ i k, hi = some i ∧ a.eval i = .int k (Int.ofNat N) := fun F => by
  rcases hn with ⟨h1, h2⟩ | ⟨y, k, q, h1, h2, h4, h3⟩
  ·subst h2
   exact .inl ⟨h1, hN.symm⟩
  ·subst h2
   refine .inr ⟨y, k, h1, ?_⟩
   rw [← hN, h3.int F, h4]
   rfl
 have h0 : (0 : Int) ≤ Int.ofNat M := Int.natCast_nonneg _
 have h1 : Int.ofNat M ≤ Int.ofNat N := Int.ofNat_le.2 hMN
 split at h
 ·-- a place
  rename_i b o
  unfold slN at h
  split at h
  ·rename_i hk
   have hk : cap < 9223372036854775808 := Nat.le_of_ble_eq_true hk
   split at h
   case h_2 => cases h
   rename_i hNc
   have hNc := Nat.le_of_ble_eq_true hNc
   split at h
   ·rename_i hcM
    obtain rfl := Nat.eq_of_beq_eq_true hcM
    rw [forceN_is] at h
    refine ⟨_, fun ρ nn df a w R d ty pos af g F hR => ?_, h⟩
    have := hx ρ nn df a F
    generalize hq : a.eval x = u at this
    cases this
    rename_i r cc hr hle
    rw [capR_lt hk] at hq hle
    refine o_slG hq (blo F) (bhi F) h0 h1 (Int.ofNat_le.2 hNc) (hR _ ?_)
    rw [if_pos (show cap = (Int.ofNat cap).toNat from rfl)]
    show VR ρ _ (.slice (some ⟨r, o, none⟩) (N - cap) (cap - cap))
    rw [Nat.sub_self]
    have := VR.sl (ρ := ρ) (o := o) (n := N - cap) (k := 0) hr (by unfold capR;rw [if_pos (by omega)];omega)
    exact this
   ·rename_i hcM
    have hcM : cap ≠ M := fun e => by rw [e] at hcM;simp at hcM
    rw [forceN_is, forceN_is, forceN_is] at h
    refine ⟨_, fun ρ nn df a w R d ty pos af g F hR => ?_, h⟩
    have := hx ρ nn df a F
    generalize hq : a.eval x = u at this
    cases this
    rename_i r cc hr hle
    rw [capR_lt hk] at hq hle
    refine o_slG hq (blo F) (bhi F) h0 h1 (Int.ofNat_le.2 hNc) (hR _ ?_)
    rw [if_neg (show ¬ cap = (Int.ofNat M).toNat from hcM)]
    show VR ρ _ (.slice (some (Addr.add ⟨r, o, none⟩ (M * i.size))) (N - M) (cap - M))
    rw [addr_add]
    have := VR.sl (ρ := ρ) (o := o + M * i.size) (n := N - M) (k := cap - M) hr (by rw [capR_lt (by omega)];omega)
    rw [capR_lt (by omega)] at this
    exact this
  ·rename_i hk
   have hk : ¬ cap < 9223372036854775808 := fun h' => by
    have := blt_is cap 9223372036854775808
    rw [hk, dqT h'] at this
    cases this
   split at h
   case h_2 => cases h
   rename_i hNl
   have hNl := Nat.le_of_ble_eq_true hNl
   unfold slOpen at h
   split at h
   ·rename_i hM0
    obtain rfl := Nat.eq_of_beq_eq_true hM0
    refine ⟨_, fun ρ nn df a w R d ty pos af g F hR => ?_, h⟩
    have := hx ρ nn df a F
    generalize hq : a.eval x = u at this
    cases this
    rename_i r cc hr hle
    refine o_slG hq (blo F) (bhi F) h0 h1 (Int.ofNat_le.2 (Nat.le_trans hNl hle)) (hR _ ?_)
    have e1 : (if capR cc cap = (Int.ofNat 0).toNat then (some ⟨r, o, none⟩ : Option Addr) else (some ⟨r, o, none⟩ : Option Addr).map (·.add ((Int.ofNat 0).toNat * i.size))) = some ⟨r, o, none⟩ := by
     split
     ·rfl
     ·show some (Addr.add ⟨r, o, none⟩ (0 * i.size)) = _
      rw [addr_add]
      simp
    rw [e1]
    have := VR.sl (ρ := ρ) (o := o) (n := N) (k := cap) hr (Nat.le_trans hNl hle)
    exact this
   ·split at h
    ·rename_i hMl
     have hMl : M < len := Nat.le_of_ble_eq_true hMl
     split at h
     case h_2 => cases h
     rename_i hcM
     simp only [Bool.and_eq_true] at hcM
     have hb := Nat.le_of_ble_eq_true hcM.2
     have hcM := Nat.le_of_ble_eq_true hcM.1
     rw [forceN_is, forceN_is, forceN_is] at h
     refine ⟨_, fun ρ nn df a w R d ty pos af g F hR => ?_, h⟩
     have := hx ρ nn df a F
     generalize hq : a.eval x = u at this
     cases this
     rename_i r cc hr hle
     have hcap : capR cc (cap - M) = capR cc cap - M := capR_sub hcM hb
     refine o_slG hq (blo F) (bhi F) h0 h1 (Int.ofNat_le.2 (Nat.le_trans hNl hle)) (hR _ ?_)
     rw [if_neg (show ¬ capR cc cap = (Int.ofNat M).toNat by show ¬ capR cc cap = M;omega)]
     show VR ρ _ (.slice (some (Addr.add ⟨r, o, none⟩ (M * i.size))) (N - M) (capR cc cap - M))
     rw [addr_add, ← hcap]
     exact VR.sl hr (by rw [hcap];omega)
    ·split at h
     case h_2 => cases h
     rename_i hNM
     obtain rfl := Nat.eq_of_beq_eq_true hNM
     refine ⟨_, fun ρ nn df a w R d ty pos af g F hR => ?_, h⟩
     have := hx ρ nn df a F
     generalize hq : a.eval x = u at this
     cases this
     rename_i r cc hr hle
     refine o_slG hq (blo F) (bhi F) h0 h1 (Int.ofNat_le.2 (Nat.le_trans hNl hle)) (hR _ ?_)
     show VR ρ _ (.slice _ (N - N) _)
     rw [Nat.sub_self]
     split
     ·exact .slE _ _
     ·exact .slE _ _
 ·-- nil
  split at h
  case h_2 => cases h
  rename_i hN0
  obtain rfl := Nat.eq_of_beq_eq_true hN0
  obtain rfl : M = 0 := by omega
  split at h
  case h_2 => cases h
  rename_i hc0
  obtain rfl := Nat.eq_of_beq_eq_true hc0
  refine ⟨_, fun ρ nn df a w R d ty pos af g F hR => ?_, h⟩
  have := hx ρ nn df a F
  generalize hq : a.eval x = u at this
  cases this
  refine o_slG hq (blo F) (bhi F) h0 h1 (Int.ofNat_le.2 (Nat.le_refl _)) (hR _ ?_)
  exact .sl0 0 0
 ·cases h
omit Y in
theorem o_slA {P : Program} {ρ : Operand → Value} {w : World} {R : Value → World → Prop} {d : Option Tmp} {ty : TypeId} {pos : String} {af : Array Edge} {g : Option (Nat × Bool)} {tt e : TypeId} {x : Operand} {lo hi : Option Operand} {b o len sz : Nat} {m n : Int} (hx : ρ x = .pointer (some ⟨b, o, none⟩)) (hlo : (lo = none ∧ m = 0) ∨ ∃ i k, lo = some i ∧ ρ i = .int k m) (hhi : (hi = none ∧ n = len) ∨ ∃ j k, hi = some j ∧ ρ j = .int k n)
  [ht : TU P tt (.array len e)] [hs : TSz P e sz] (h0 : 0 ≤ m) (h1 : m ≤ n) (h2 : n ≤ len) (h3 : m < len) (h : R (.slice (some ⟨b, o + m.toNat * sz, none⟩) (n.toNat - m.toNat) (len - m.toNat)) w) : OpTo P ⟨d, .slice tt x lo hi none, ty, pos, af, g⟩ ρ w R := by
 have h4 : 0 ≤ n := by omega
 have h5 : ¬ max n 0 < m := by omega
 have h6 : ¬ len = m.toNat := by omega
 have h7 : m ≤ len := by omega
 have h8 : 0 < len := by omega
 have h9 : ¬ len = 0 := by omega
 rcases hlo with ⟨rfl, rfl⟩ | ⟨i, k, rfl, ei⟩ <;> rcases hhi with ⟨rfl, rfl⟩ | ⟨j, k', rfl, ej⟩ <;> refine OpTo.val (w' := w) ?_ h <;> simp_all [execOp, Instr.sliceAt, Instr.sureAddr, Instr.slice, Instr.sliceBounds, Instr.sliceBound, asIntOf, run_underlying ht.h, run_sizeOf hs.h, addr_add]
theorem slAK_ok {tt : TypeId} {x : Operand} {lo hi : Option Operand} {v : Value} {m n : Option Int} {c : Value → Bool} (hx : OpdR t x v) (hm : BndR t lo m) (hn : BndR t hi n) (h : slAK P tt v m n c = true) : ∃ v', OpS P t (.slice tt x lo hi none) v' ∧ c v' = true := by
 unfold slAK at h
 split at h
 case h_2 => cases h
 rename_i len e hu
 haveI : TU P tt (.array len e) := ⟨hu⟩
 split at h
 case h_2 => cases h
 rename_i i hi'
 haveI : TSz P e i.size := ⟨sizeIs_of hi'⟩
 split at h
 case h_2 => cases h
 rename_i b o
 split at h
 case h_2 => cases h
 rename_i M N hM hN
 split at h
 case h_2 => cases h
 rename_i hq
 simp only [Bool.and_eq_true, blt_is, decide_eq_true_eq] at hq
 obtain ⟨⟨⟨q1, q2⟩, q3⟩, q4⟩ := hq
 have q1 := Nat.le_of_ble_eq_true q1
 have q2 := Nat.le_of_ble_eq_true q2
 rw [forceN_is, forceN_is, forceN_is] at h
 have blo : ∀ {ρ : Rl} {nn : Nat} {df : List Deferred} {a : Act}, FrR ρ nn df t a → (lo = none ∧ (Int.ofNat M) = 0) ∨ ∃ i k, lo = some i ∧ a.eval i = .int k (Int.ofNat M) := fun F => by
  rcases hm with ⟨h1, h2⟩ | ⟨y, k, q, h1, h2, h4, h3⟩
  ·subst h2
   exact .inl ⟨h1, hM.symm⟩
  ·subst h2
   refine .inr ⟨y, k, h1, ?_⟩
   rw [← hM, h3.int F, h4]
   rfl
 have bhi : ∀ {ρ : Rl} {nn : Nat} {df : List Deferred} {a : Act}, FrR ρ nn df t a → (hi = none ∧ (Int.ofNat N) = len) ∨ ∃ i k, hi = some i ∧ a.eval i = .int k (Int.ofNat N) := fun F => by
  rcases hn with ⟨h1, h2⟩ | ⟨y, k, q, h1, h2, h4, h3⟩
  ·subst h2
   exact .inl ⟨h1, hN.symm⟩
  ·subst h2
   refine .inr ⟨y, k, h1, ?_⟩
   rw [← hN, h3.int F, h4]
   rfl
 refine ⟨_, fun ρ nn df a w R d ty pos af g F hR => ?_, h⟩
 have := hx ρ nn df a F
 generalize hq : a.eval x = u at this
 cases this
 rename_i r cc hr
 refine o_slA hq (blo F) (bhi F) (Int.natCast_nonneg _) (Int.ofNat_le.2 q1) (Int.ofNat_le.2 q2) (Int.ofNat_lt.2 q3) (hR _ ?_)
 show VR ρ _ (.slice (some ⟨r, o + M * i.size, none⟩) (N - M) (len - M))
 have := VR.sl (ρ := ρ) (o := o + M * i.size) (n := N - M) (k := len - M) hr (by rw [capR_lt (by omega)];omega)
 rw [capR_lt (by omega)] at this
 exact this
end Go.Proofs.YtfhkmgcalcfibaaGreat
namespace Go.Proofs.YtfhkmgcalcfibaaGreat
open Go.RowKit
variable [Y : Sy]
variable {P : Program} {t : Tr Value}
noncomputable def cellsK (v : Value) (c : List Value → Bool) : Bool := match v with
 | .agg cs => c cs.toList
 | v => c [v]
omit Y in
theorem cellsK_ok {v : Value} {c : List Value → Bool} (h : cellsK v c = true) : c v.cells.toList = true := by
 unfold cellsK at h
 split at h
 ·exact h
 ·rename_i hn
  cases v <;> first | exact h | exact (hn _ rfl).elim
theorem VR.cells {ρ : Rl} {v u : Value} (h : VR ρ v u) : VRs ρ v.cells.toList u.cells.toList := by
 have h' := h
 cases h <;> first | exact .cons h' .nil | skip
 rename_i us q
 simpa [Value.cells] using q
noncomputable def partsK (t : Tr Value) (pl : List (Nat × Nat)) (xs : List (Nat × Operand)) : List Value → (List Value → Bool) → Bool := List.rec (motive := fun _ => List Value → (List Value → Bool) → Bool) (fun z c => c z)
 (fun p _ ih z c => evK t p.2 fun v => cellsK v fun cs => match nthP pl p.1 with
  | some q => match Nat.beq cs.length q.2 with
   | true => putK z q.1 cs fun z => ih z c
   | false => false
  | none => false) xs
theorem partsK_ok {pl : List (Nat × Nat)} : ∀ {xs : List (Nat × Operand)} {z : List Value} {c : List Value → Bool}, partsK t pl xs z c = true →
  ∃ z', c z' = true ∧ ∀ (ρ : Rl) (n : Nat) (df : List Deferred) (a : Act), FrR ρ n df t a → ∀ us, VRs ρ z us → ∃ us', putAll pl us (xs.map fun p => (p.1, (a.eval p.2).cells.toList)) = some us' ∧ VRs ρ z' us'
 | [], z, c, h => ⟨z, h, fun ρ n df a F us hu => ⟨us, rfl, hu⟩⟩
 | (i, x) :: xs, z, c, h => by
  have h' : (evK t x fun v => cellsK v fun cs => match nthP pl i with
   | some q => match Nat.beq cs.length q.2 with
    | true => putK z q.1 cs fun z => partsK t pl xs z c
    | false => false
   | none => false) = true := h
  obtain ⟨v, h1, h2⟩ := evK_ok h'
  have h3 := cellsK_ok h2
  split at h3
  case h_2 => cases h3
  rename_i q hq
  split at h3
  case h_2 => cases h3
  rename_i hl
  obtain ⟨z1, h4, h5⟩ := putK_ok h3
  obtain ⟨z', h6, h7⟩ := partsK_ok h5
  refine ⟨z', h6, fun ρ n df a F us hu => ?_⟩
  have hc := (h1 ρ n df a F).cells
  obtain ⟨us1, g1, g2⟩ := vr_put hu hc h4
  obtain ⟨us', g3, g4⟩ := h7 ρ n df a F us1 g2
  refine ⟨us', ?_, g4⟩
  obtain ⟨off, sz⟩ := q
  have : Nat.beq ((a.eval x).cells.toList).length sz = true := by rw [hc.len];exact hl
  simp only [List.map_cons, putAll, hq, this, g1, g3]
omit Y in
theorem o_build' {ρ : Operand → Value} {w : World} {R : Value → World → Prop} {d : Option Tmp} {ty : TypeId} {pos : String} {af : Array Edge} {g : Option (Nat × Bool)} {tt : TypeId} {xs : List (Nat × Operand)} {pl : List (Nat × Nat)} {z cs : List Value} [hl : TLay P tt pl] [hz : TZero P tt z]
  (hp : putAll pl z (xs.map fun p => (p.1, (ρ p.2).cells.toList)) = some cs) (h : R (.agg cs.toArray) w) : OpTo P ⟨d, .build tt xs.toArray, ty, pos, af, g⟩ ρ w R := by
 have := run_buildL (P := P) (w := w) (vals := xs.map fun (p : Nat × Operand) => (p.1, ρ p.2)) (parts := xs.map fun p => (p.1, (ρ p.2).cells.toList)) hl.h hz.h (by simp) hp
 refine OpTo.val (v := .agg cs.toArray) (w' := w) ?_ h
 simp only [execOp, List.map_toArray, Sem.run_bind]
 rw [show (List.map (fun x : Nat × Operand => match x with | (i, x) => (i, ρ x)) xs) = xs.map fun (p : Nat × Operand) => (p.1, ρ p.2) from rfl, this]
 rfl
noncomputable def zeroK (P : Program) (tt : TypeId) (c : List Value → Bool) : Bool := match zeroC P tt with
 | some za => match cstL za.toList with
  | true => c za.toList
  | false => false
 | none => false
theorem zeroK_ok {tt : TypeId} {c : List Value → Bool} (h : zeroK P tt c = true) : ∃ z, zeroC P tt = some z.toArray ∧ (∀ ρ : Rl, VRs ρ z z) ∧ c z = true := by
 unfold zeroK at h
 split at h
 case h_2 => cases h
 rename_i za hza
 split at h
 case h_2 => cases h
 rename_i hc
 exact ⟨za.toList, by simpa using hza, fun ρ => cstL_ok hc, h⟩
noncomputable def buildK (P : Program) (t : Tr Value) (tt : TypeId) (xs : List (Nat × Operand)) (c : Value → Bool) : Bool := match layOf P tt with
 | some pl => zeroK P tt fun z => partsK t pl xs z fun cs => c (.agg cs.toArray)
 | none => false
theorem buildK_ok {tt : TypeId} {xs : List (Nat × Operand)} {c : Value → Bool} (h : buildK P t tt xs c = true) : ∃ v, OpS P t (.build tt xs.toArray) v ∧ c v = true := by
 unfold buildK at h
 split at h
 case h_2 => cases h
 rename_i pl hpl
 obtain ⟨z, h1, h2, h3⟩ := zeroK_ok h
 obtain ⟨cs, h4, h5⟩ := partsK_ok h3
 haveI : TLay P tt pl := ⟨hpl⟩
 haveI : TZero P tt z := ⟨h1⟩
 refine ⟨_, fun ρ n df a w R d ty pos af g F hR => ?_, h4⟩
 obtain ⟨us, g1, g2⟩ := h5 ρ n df a F z (h2 ρ)
 exact o_build' g1 (hR _ (.agg (by simpa using g2)))
/-! ### fields, elements -/
noncomputable def fieldK (P : Program) (s : TypeId) (i : Nat) (v : Value) (c : Value → Bool) : Bool := match v with
 | .agg cs => match fldTy P s i with
  | some q => partK P q.2 cs.toList q.1 c
  | none => false
 | _ => false
theorem fieldK_ok {s : TypeId} {i : Nat} {x : Operand} {v : Value} {c : Value → Bool} (hx : OpdR t x v) (h : fieldK P s i v c = true) : ∃ v', OpS P t (.field s x i) v' ∧ c v' = true := by
 unfold fieldK at h
 split at h
 case h_2 => cases h
 rename_i cs
 split at h
 case h_2 => cases h
 rename_i q hq
 haveI : TFldT P s i q.1 q.2 := ⟨fldTy_ok hq⟩
 rcases partK_ok h with ⟨h1, v, h2, h3⟩ | ⟨n, h1, vs, h2, h3⟩
 ·haveI : TOne P q.2 := ⟨h1⟩
  refine ⟨v, fun ρ n df a w R d ty pos af g F hR => ?_, h3⟩
  obtain ⟨us, e1, q1⟩ := hx.agg F
  obtain ⟨y, e2, q2⟩ := vr_nth q1 h2
  exact o_field1 e1 e2 (hR _ q2)
 ·haveI : TAgg P q.2 n := ⟨h1⟩
  refine ⟨_, fun ρ n df a w R d ty pos af g F hR => ?_, h3⟩
  obtain ⟨us, e1, q1⟩ := hx.agg F
  obtain ⟨y, e2, q2⟩ := vr_seg q1 h2
  exact o_fieldA e1 e2 (hR _ (.agg (by simpa using q2)))
noncomputable def idxK (o j sz : Nat) (b : Nat) (c : Value → Bool) : Bool := forceN (Nat.add o (Nat.mul j sz)) fun o => c (.pointer (some ⟨b, o, none⟩))
noncomputable def indexAddrK (P : Program) (tt : TypeId) (v u : Value) (c : Value → Bool) : Bool := match u with
 | .int _ (.ofNat j) => lit2 0 (.ofNat j) (match P.underlying tt with
  | some (.slice e) => match P.info? e with
   | some i => match v with
    | .slice (some ⟨b, o, none⟩) len _ => match Nat.blt j len with
     | true => idxK o j i.size b c
     | false => false
    | _ => false
   | none => false
  | some (.array len e) => match P.info? e with
   | some i => match v with
    | .pointer (some ⟨b, o, none⟩) => match Nat.blt j len with
     | true => idxK o j i.size b c
     | false => false
    | _ => false
   | none => false
  | _ => false)
 | _ => false
theorem indexAddrK_ok {tt : TypeId} {x y : Operand} {v u : Value} {c : Value → Bool} (hx : OpdR t x v) (hy : OpdR t y u) (h : indexAddrK P tt v u c = true) : ∃ v', OpS P t (.indexAddr tt x y) v' ∧ c v' = true := by
 unfold indexAddrK at h
 split at h
 case h_2 => cases h
 rename_i k j
 have hq := lit2_ok h
 clear h
 obtain ⟨_, el, h⟩ := hq
 split at h
 ·rename_i e hu
  haveI : TU P tt (.slice e) := ⟨hu⟩
  split at h
  case h_2 => cases h
  rename_i i hi
  haveI : TSz P e i.size := ⟨sizeIs_of hi⟩
  split at h
  case h_2 => cases h
  rename_i b o len cap
  split at h
  case h_2 => cases h
  rename_i hl
  have hl : j < len := Nat.le_of_ble_eq_true hl
  unfold idxK at h
  rw [forceN_is] at h
  refine ⟨_, fun ρ n df a w R d ty pos af g F hR => ?_, h⟩
  have := hx ρ n df a F
  generalize hq : a.eval x = z at this
  cases this
  rename_i r cc hr hle
  exact o_indexSl hq (hy.intT el F) (Int.natCast_nonneg _) (Int.ofNat_lt.2 hl) (hR _ (.ptr hr))
 ·rename_i len e hu
  haveI : TU P tt (.array len e) := ⟨hu⟩
  split at h
  case h_2 => cases h
  rename_i i hi
  haveI : TSz P e i.size := ⟨sizeIs_of hi⟩
  split at h
  case h_2 => cases h
  rename_i b o
  split at h
  case h_2 => cases h
  rename_i hl
  have hl : j < len := Nat.le_of_ble_eq_true hl
  unfold idxK at h
  rw [forceN_is] at h
  refine ⟨_, fun ρ n df a w R d ty pos af g F hR => ?_, h⟩
  obtain ⟨r, cc, e1, hr⟩ := hx.ptr F
  exact o_indexArr e1 (hy.intT el F) (Int.natCast_nonneg _) (Int.ofNat_lt.2 hl) (hR _ (.ptr hr))
 ·cases h
noncomputable def byteK (l : List UInt8) : Nat → (Nat → Bool) → Bool := List.rec (motive := fun _ => Nat → (Nat → Bool) → Bool) (fun _ _ => false) (fun b _ ih j c => Nat.rec (forceN b.toNat c) (fun k _ => ih k c) j) l
omit Y in
theorem byteK_ok : ∀ {l : List UInt8} {j : Nat} {c : Nat → Bool}, byteK l j c = true → ∃ b, l[j]? = some b ∧ c b.toNat = true
 | [], _, _, h => by cases h
 | b :: l, 0, c, h => by
  have h' : forceN b.toNat c = true := h
  rw [forceN_is] at h'
  exact ⟨b, rfl, h'⟩
 | b :: l, j + 1, c, h => by
  obtain ⟨b', h1, h2⟩ := byteK_ok (l := l) (j := j) (c := c) h
  exact ⟨b', by simpa using h1, h2⟩
noncomputable def indexK (P : Program) (tt : TypeId) (v u : Value) (c : Value → Bool) : Bool := match u with
 | .int _ (.ofNat j) => lit2 0 (.ofNat j) (match P.underlying tt with
  | some (.array len e) => match sizeIs P e 1 && oneTy P e with
   | true => match v with
    | .agg cs => match Nat.blt j len with
     | true => nthK cs.toList j c
     | false => false
    | _ => false
   | false => false
  | some .string => match v with
   | .string bs => byteK bs.data.toList j fun n => litK .u8 (.ofNat n) c
   | _ => false
  | _ => false)
 | _ => false
theorem indexK_ok {tt : TypeId} {x y : Operand} {v u : Value} {c : Value → Bool} (hx : OpdR t x v) (hy : OpdR t y u) (h : indexK P tt v u c = true) : ∃ v', OpS P t (.index tt x y) v' ∧ c v' = true := by
 unfold indexK at h
 split at h
 case h_2 => cases h
 rename_i k j
 have hq := lit2_ok h
 clear h
 obtain ⟨_, el, h⟩ := hq
 split at h
 ·rename_i len e hu
  haveI : TU P tt (.array len e) := ⟨hu⟩
  split at h
  case h_2 => cases h
  rename_i h1
  simp only [Bool.and_eq_true] at h1
  haveI : TSz P e 1 := ⟨h1.1⟩
  haveI : TOne P e := ⟨h1.2⟩
  split at h
  case h_2 => cases h
  rename_i cs
  split at h
  case h_2 => cases h
  rename_i hl
  have hl : j < len := Nat.le_of_ble_eq_true hl
  obtain ⟨v', h2, h3⟩ := nthK_ok h
  refine ⟨v', fun ρ n df a w R d ty pos af g F hR => ?_, h3⟩
  obtain ⟨us, e1, q1⟩ := hx.agg F
  obtain ⟨z, e2, q2⟩ := vr_nth q1 h2
  exact o_indexV e1 (hy.intT el F) (Int.natCast_nonneg _) (Int.ofNat_lt.2 hl) e2 (hR _ q2)
 ·rename_i hu
  haveI : TU P tt .string := ⟨hu⟩
  split at h
  case h_2 => cases h
  rename_i bs
  obtain ⟨b, h1, h2⟩ := byteK_ok h
  obtain ⟨eb, h2⟩ := litK_ok h2
  refine ⟨_, fun ρ n df a w R d ty pos af g F hR => ?_, h2⟩
  have := hx ρ n df a F
  generalize hq : a.eval x = z at this
  cases this
  have hb : bs[(Int.ofNat j).toNat]? = some b := by
   show bs[j]? = some b
   have hlt : j < bs.data.toList.length := (List.getElem?_eq_some_iff.1 h1).1
   have hlt' : j < bs.size := by simpa using hlt
   rw [getElem?_pos bs j hlt']
   rw [List.getElem?_eq_getElem hlt] at h1
   rw [← h1]
   rfl
  exact o_indexStr hq (hy.intT el F) (Int.natCast_nonneg _) hb (hR _ (.lit eb))
 ·cases h
noncomputable def convK (P : Program) (s tt : TypeId) (v : Value) (c : Value → Bool) : Bool := match v with
 | .int _ n => match P.underlying tt with
  | some (.int k') => match P.underlying s with
   | some _ => match okA n with
    | true => wrapS k' n fun m => c (.int k' m)
    | false => false
   | none => false
  | _ => false
 | _ => false
theorem convK_ok {s tt : TypeId} {x : Operand} {v : Value} {c : Value → Bool} (hx : OpdR t x v) (h : convK P s tt v c = true) : ∃ v', OpS P t (.convert s tt x) v' ∧ c v' = true := by
 unfold convK at h
 split at h
 case h_2 => cases h
 split at h
 case h_2 => cases h
 rename_i k' hu
 split at h
 case h_2 => cases h
 rename_i ds hs
 split at h
 case h_2 => cases h
 haveI : TU P tt (.int k') := ⟨hu⟩
 haveI : TU P s ds := ⟨hs⟩
 obtain ⟨y, ⟨h1, h2⟩ | ⟨h1, h2, h3⟩⟩ := wrapS_ok h
 ·exact ⟨_, fun ρ n df a w R d ty pos af g F hR => o_conv (hx.int F) h2 (hR _ (.int _ _)), h1⟩
 ·subst h3
  exact ⟨_, fun ρ n df a w R d ty pos af g F hR => o_conv (hx.intT (Y.lit _ h1) F) rfl (hR _ .wr), h2⟩
/-! ### len, cap, min, max -/
noncomputable def lenK (P : Program) (tt : TypeId) (v : Value) (c : Value → Bool) : Bool := match v with
 | .slice _ n _ => match P.underlying tt with
  | some (.slice _) => litK .i64 (.ofNat n) c
  | _ => false
 | .string s => match P.underlying tt with
  | some .string => forceN s.size fun n => litK .i64 (.ofNat n) c
  | _ => false
 | _ => false
theorem lenK_ok {tt : TypeId} {x : Operand} {v : Value} {c : Value → Bool} (hx : OpdR t x v) (h : lenK P tt v c = true) : ∃ v', OpS P t (.call ⟨.builtin .len, #[x], #[tt]⟩) v' ∧ c v' = true := by
 unfold lenK at h
 split at h
 ·split at h
  case h_2 => cases h
  rename_i e hu
  haveI : TU P tt (.slice e) := ⟨hu⟩
  obtain ⟨el, h⟩ := litK_ok h
  refine ⟨_, fun ρ n df a w R d ty pos af g F hR => ?_, h⟩
  have := hx ρ n df a F
  generalize hq : a.eval x = z at this
  cases this <;> exact o_lenSl hq (hR _ (.lit el))
 ·split at h
  case h_2 => cases h
  rename_i hu
  haveI : TU P tt .string := ⟨hu⟩
  rw [forceN_is] at h
  obtain ⟨el, h⟩ := litK_ok h
  refine ⟨_, fun ρ n df a w R d ty pos af g F hR => ?_, h⟩
  have := hx ρ n df a F
  generalize hq : a.eval x = z at this
  cases this
  exact o_lenStr hq (hR _ (.lit el))
 ·cases h
noncomputable def capK (P : Program) (tt : TypeId) (v : Value) (c : Value → Bool) : Bool := match v with
 | .slice _ _ k => match P.underlying tt with
  | some (.slice _) => match Nat.blt k 9223372036854775808 && Nat.ble 1 k with
   | true => litK .i64 (.ofNat k) c
   | false => false
  | _ => false
 | _ => false
theorem capK_ok {tt : TypeId} {x : Operand} {v : Value} {c : Value → Bool} (hx : OpdR t x v) (h : capK P tt v c = true) : ∃ v', OpS P t (.call ⟨.builtin .cap, #[x], #[tt]⟩) v' ∧ c v' = true := by
 unfold capK at h
 split at h
 case h_2 => cases h
 split at h
 case h_2 => cases h
 rename_i e hu
 haveI : TU P tt (.slice e) := ⟨hu⟩
 split at h
 case h_2 => cases h
 rename_i hk
 simp only [Bool.and_eq_true] at hk
 have hk2 := Nat.le_of_ble_eq_true hk.2
 have hk := hk.1
 obtain ⟨el, h⟩ := litK_ok h
 refine ⟨_, fun ρ n df a w R d ty pos af g F hR => ?_, h⟩
 have := hx ρ n df a F
 generalize hq : a.eval x = z at this
 cases this with
 | sl0 => exact o_capSl hq (hR _ (.lit el))
 | sl hr hle =>
  rw [capR_lt (Nat.le_of_ble_eq_true hk)] at hq
  exact o_capSl hq (hR _ (.lit el))
 | slE q k => omega
noncomputable def minmaxK (b : Builtin) (v u : Value) (c : Value → Bool) : Bool := match v, u with
 | .int k m, .int k' n => match kEqR k k' with
  | true => match b with
   | .min => ltS n m fun r => Bool.rec (c (.int k m)) (c (.int k n)) r
   | .max => ltS m n fun r => Bool.rec (c (.int k m)) (c (.int k n)) r
   | _ => false
  | false => false
 | _, _ => false
theorem minmaxK_ok {b : Builtin} {x y : Operand} {ts : Array TypeId} {v u : Value} {c : Value → Bool} (hx : OpdR t x v) (hy : OpdR t y u) (h : minmaxK b v u c = true) : ∃ v', OpS P t (.call ⟨.builtin b, #[x, y], ts⟩) v' ∧ c v' = true := by
 unfold minmaxK at h
 split at h
 case h_2 => cases h
 rename_i k m k' n
 split at h
 case h_2 => cases h
 rename_i hk
 obtain rfl := kEq_ok' hk
 split at h
 ·have h := ltS_ok h
  cases hl : decide (Y.th n < Y.th m) with
  | false =>
   rw [hl] at h
   rw [decide_eq_false_iff_not] at hl
   exact ⟨_, fun ρ n df a w R d ty pos af g F hR => o_min (hx.int F) (hy.int F) (by rw [if_neg hl];exact hR _ (.int _ _)), h⟩
  | true =>
   rw [hl] at h
   rw [decide_eq_true_eq] at hl
   exact ⟨_, fun ρ n df a w R d ty pos af g F hR => o_min (hx.int F) (hy.int F) (by rw [if_pos hl];exact hR _ (.int _ _)), h⟩
 ·have h := ltS_ok h
  cases hl : decide (Y.th m < Y.th n) with
  | false =>
   rw [hl] at h
   rw [decide_eq_false_iff_not] at hl
   exact ⟨_, fun ρ n df a w R d ty pos af g F hR => o_max (hx.int F) (hy.int F) (by rw [if_neg hl];exact hR _ (.int _ _)), h⟩
  | true =>
   rw [hl] at h
   rw [decide_eq_true_eq] at hl
   exact ⟨_, fun ρ n df a w R d ty pos af g F hR => o_max (hx.int F) (hy.int F) (by rw [if_pos hl];exact hR _ (.int _ _)), h⟩
 ·cases h
end Go.Proofs.YtfhkmgcalcfibaaGreat
namespace Go.Proofs.YtfhkmgcalcfibaaGreat
open Go.RowKit
variable [Y : Sy]
variable {P : Program} {t : Tr Value}
noncomputable def pureK (P : Program) (t : Tr Value) (op : Op) (c : Value → Bool) : Bool := match op with
 | .move x => evK t x c
 | .assign x => evK t x c
 | .pick q x y => evK t q fun v => match v with
  | .bool true => evK t x c
  | .bool false => evK t y c
  | _ => false
 | .nilCheck x => evK t x fun v => match okNil v with
  | true => c v
  | false => false
 | .binOp b tt x y _ => evK t x fun v => evK t y fun u => binK P b tt v u c
 | .unOp o _ x => evK t x fun v => unK o v c
 | .convert s d x => evK t x fun v => convK P s d v c
 | .makeFunc f xs ys => evsK t xs.toList fun vs => evsK t ys.toList fun us => c (.func f vs.toArray us.toArray)
 | .fieldAddr s x i => evK t x fun v => match v with
  | .pointer (some ⟨b, o, none⟩) => match fldOff P s i with
   | some off => forceN (Nat.add o off) fun o => c (.pointer (some ⟨b, o, none⟩))
   | none => false
  | _ => false
 | .field s x i => evK t x fun v => fieldK P s i v c
 | .indexAddr tt x y => evK t x fun v => evK t y fun u => indexAddrK P tt v u c
 | .index tt x y => evK t x fun v => evK t y fun u => indexK P tt v u c
 | .extract x i => evK t x fun v => match v with
  | .tuple vs => nthK vs.toList i c
  | _ => false
 | .slice tt x lo hi none => evK t x fun v => bndK t lo fun m => bndK t hi fun n => match v with
  | .pointer _ => slAK P tt v m n c
  | _ => slK P tt v m n c
 | .build tt parts => buildK P t tt parts.toList c
 | .call ⟨.builtin b, args, tys⟩ => match args.toList with
  | [x] => match b with
   | .len => match tys.toList with
    | [tt] => evK t x fun v => lenK P tt v c
    | _ => false
   | .cap => match tys.toList with
    | [tt] => evK t x fun v => capK P tt v c
    | _ => false
   | _ => false
  | [x, y] => evK t x fun v => evK t y fun u => minmaxK b v u c
  | _ => false
 | _ => false
omit Y in
theorem arr1 {α : Type} {a : Array α} {x : α} (h : a.toList = [x]) : a = #[x] := by cases a;simp_all
omit Y in
theorem arr2 {α : Type} {a : Array α} {x y : α} (h : a.toList = [x, y]) : a = #[x, y] := by cases a;simp_all
omit Y in
theorem map_arr {α β : Type} (f : α → β) (xs : Array α) : xs.map f = (xs.toList.map f).toArray := by cases xs;simp
theorem pureK_ok {op : Op} {c : Value → Bool} (h : pureK P t op c = true) : ∃ v, OpS P t op v ∧ c v = true := by
 unfold pureK at h
 split at h
 ·obtain ⟨v, h1, h2⟩ := evK_ok h
  exact ⟨v, fun ρ n df a w R d ty pos af g F hR => o_move rfl (hR _ (h1 ρ n df a F)), h2⟩
 ·obtain ⟨v, h1, h2⟩ := evK_ok h
  exact ⟨v, fun ρ n df a w R d ty pos af g F hR => o_assign rfl (hR _ (h1 ρ n df a F)), h2⟩
 ·obtain ⟨q, h1, h2⟩ := evK_ok h
  split at h2
  ·obtain ⟨v, h3, h4⟩ := evK_ok h2
   exact ⟨v, fun ρ n df a w R d ty pos af g F hR => o_pickT (h1.bool F) rfl (hR _ (h3 ρ n df a F)), h4⟩
  ·obtain ⟨v, h3, h4⟩ := evK_ok h2
   exact ⟨v, fun ρ n df a w R d ty pos af g F hR => o_pickF (h1.bool F) rfl (hR _ (h3 ρ n df a F)), h4⟩
  ·cases h2
 ·obtain ⟨v, h1, h2⟩ := evK_ok h
  split at h2
  case h_2 => cases h2
  rename_i hn
  exact ⟨v, fun ρ n df a w R d ty pos af g F hR => o_nilCheck rfl (okNil_vr (h1 ρ n df a F) hn) (hR _ (h1 ρ n df a F)), h2⟩
 ·obtain ⟨v, h1, h2⟩ := evK_ok h
  obtain ⟨u, h3, h4⟩ := evK_ok h2
  exact binK_ok h1 h3 h4
 ·obtain ⟨v, h1, h2⟩ := evK_ok h
  exact unK_ok h1 h2
 ·obtain ⟨v, h1, h2⟩ := evK_ok h
  exact convK_ok h1 h2
 ·rename_i f xs ys
  obtain ⟨vs, h1, h2⟩ := evsK_ok h
  obtain ⟨us, h3, h4⟩ := evsK_ok h2
  refine ⟨_, fun ρ n df a w R d ty pos af g F hR => o_makeFunc (vs := (xs.toList.map a.eval).toArray) (us := (ys.toList.map a.eval).toArray) (map_arr _ _) (map_arr _ _) (hR _ ?_), h4⟩
  exact .fn (by simpa using h1 ρ n df a F) (by simpa using h3 ρ n df a F)
 ·obtain ⟨v, h1, h2⟩ := evK_ok h
  split at h2
  case h_2 => cases h2
  split at h2
  case h_2 => cases h2
  rename_i off hoff
  rw [forceN_is] at h2
  haveI : TFld P _ _ off := ⟨fldOff_ok hoff⟩
  refine ⟨_, fun ρ n df a w R d ty pos af g F hR => ?_, h2⟩
  obtain ⟨r, cc, e1, hr⟩ := h1.ptr F
  exact o_fieldAddr e1 (hR _ (.ptr hr))
 ·obtain ⟨v, h1, h2⟩ := evK_ok h
  exact fieldK_ok h1 h2
 ·obtain ⟨v, h1, h2⟩ := evK_ok h
  obtain ⟨u, h3, h4⟩ := evK_ok h2
  exact indexAddrK_ok h1 h3 h4
 ·obtain ⟨v, h1, h2⟩ := evK_ok h
  obtain ⟨u, h3, h4⟩ := evK_ok h2
  exact indexK_ok h1 h3 h4
 ·obtain ⟨v, h1, h2⟩ := evK_ok h
  split at h2
  case h_2 => cases h2
  obtain ⟨v', h3, h4⟩ := nthK_ok h2
  refine ⟨v', fun ρ n df a w R d ty pos af g F hR => ?_, h4⟩
  obtain ⟨us, e1, q1⟩ := h1.tup F
  obtain ⟨z, e2, q2⟩ := vr_nth q1 h3
  exact o_extract e1 e2 (hR _ q2)
 ·obtain ⟨v, h1, h2⟩ := evK_ok h
  obtain ⟨m, h3, h4⟩ := bndK_ok h2
  obtain ⟨n, h5, h6⟩ := bndK_ok h4
  split at h6
  ·exact slAK_ok h1 h3 h5 h6
  ·exact slK_ok h1 h3 h5 h6
 ·rename_i tt parts
  obtain ⟨v, h1, h2⟩ := buildK_ok h
  exact ⟨v, by simpa using h1, h2⟩
 ·rename_i b args tys
  split at h
  ·rename_i x hx
   obtain rfl := arr1 hx
   split at h
   ·split at h
    case h_2 => cases h
    rename_i tt ht
    obtain rfl := arr1 ht
    obtain ⟨v, h1, h2⟩ := evK_ok h
    exact lenK_ok h1 h2
   ·split at h
    case h_2 => cases h
    rename_i tt ht
    obtain rfl := arr1 ht
    obtain ⟨v, h1, h2⟩ := evK_ok h
    exact capK_ok h1 h2
   ·cases h
  ·rename_i x y hx
   obtain rfl := arr2 hx
   obtain ⟨v, h1, h2⟩ := evK_ok h
   obtain ⟨u, h3, h4⟩ := evK_ok h2
   exact minmaxK_ok h1 h3 h4
  ·cases h
 ·cases h
/-! ### operations on the memory -/
def OpM (P : Program) (t : Tr Value) (s s' : MSt) (op : Op) (v : Value) : Prop := ∀ (S : List Nat) (W0 : World) (ρ : Rl) (n : Nat) (df : List Deferred) (a : Act) (w : World) (R : Value → World → Prop) (d : Option Tmp) (ty : TypeId) (pos : String) (af : Array Edge) (g : Option (Nat × Bool)),
 FrR ρ n df t a → Pre S W0 ρ s s' w → (∀ ρ' u w', Stp S W0 ρ s w ρ' s' w' → VR ρ' v u → R u w') → OpTo P ⟨d, op, ty, pos, af, g⟩ a.eval w R
theorem OpS.mem {s : MSt} {op : Op} {v : Value} (h : OpS P t op v) : OpM P t s s op v := fun S W0 ρ n df a w R d ty pos af g F hp hR =>
 h ρ n df a w R d ty pos af g F fun u hu => hR ρ u w (Stp.same rfl rfl hp.1) hu
noncomputable def rdK (s : MSt) (b : Nat) (c : MSt → Bool) : Bool := forceN (orB s.F b) fun F => c ⟨s.m, s.nx, F, s.W⟩
omit Y in
theorem rdK_is (s : MSt) (b : Nat) (c : MSt → Bool) : rdK s b c = c (s.rd b) := by unfold rdK;rw [forceN_is];rfl
noncomputable def wrtK (s : MSt) (b : Nat) (o : VO) (c : MSt → Bool) : Bool := s.m.setK b (some o) fun m => forceN (orB s.F b) fun F => forceN (orB s.W b) fun W => c ⟨m, s.nx, F, W⟩
omit Y in
theorem wrtK_ok {s : MSt} {b : Nat} {o : VO} {c : MSt → Bool} (h : wrtK s b o c = true) : ∃ m', (∀ j, m'.get j = if j = b then some o else s.m.get j) ∧ c ⟨m', s.nx, orB s.F b, orB s.W b⟩ = true := by
 unfold wrtK at h
 obtain ⟨m', h1, h2⟩ := Tr.setK_ok h
 rw [forceN_is, forceN_is] at h2
 exact ⟨m', h1, h2⟩
noncomputable def allocK (s : MSt) (o : VO) (c : MSt → Bool) : Bool := s.m.setK s.nx (some o) fun m => forceN (s.nx + 1) fun nx => forceN (orB s.F s.nx) fun F => forceN (orB s.W s.nx) fun W => c ⟨m, nx, F, W⟩
omit Y in
theorem allocK_ok {s : MSt} {o : VO} {c : MSt → Bool} (h : allocK s o c = true) : ∃ m', (∀ j, m'.get j = if j = s.nx then some o else s.m.get j) ∧ c ⟨m', s.nx + 1, orB s.F s.nx, orB s.W s.nx⟩ = true := by
 unfold allocK at h
 obtain ⟨m', h1, h2⟩ := Tr.setK_ok h
 rw [forceN_is, forceN_is, forceN_is] at h2
 exact ⟨m', h1, h2⟩
noncomputable def moveK (s : MSt) (b : Nat) (o : VO) (c : MSt → Bool) : Bool := s.m.setK b none fun m1 => m1.setK s.nx (some o) fun m => forceN (s.nx + 1) fun nx => forceN (orB (orB s.F b) s.nx) fun F => forceN (orB (orB s.W b) s.nx) fun W => c ⟨m, nx, F, W⟩
omit Y in
theorem moveK_ok {s : MSt} {b : Nat} {o : VO} {c : MSt → Bool} (h : moveK s b o c = true) : ∃ m1 m' : Tr VO, (∀ j, m1.get j = if j = b then none else s.m.get j) ∧ (∀ j, m'.get j = if j = s.nx then some o else m1.get j) ∧ c ⟨m', s.nx + 1, orB (orB s.F b) s.nx, orB (orB s.W b) s.nx⟩ = true := by
 unfold moveK at h
 obtain ⟨m1, h1, h2⟩ := Tr.setK_ok h
 obtain ⟨m', h3, h4⟩ := Tr.setK_ok h2
 rw [forceN_is, forceN_is, forceN_is] at h4
 exact ⟨m1, m', h1, h3, h4⟩
omit Y in
theorem bit_rd {s : MSt} {b : Nat} : bit (s.rd b).F b := bit_or.2 (.inr rfl)
noncomputable def loadK (P : Program) (tt : TypeId) (v : Value) (s : MSt) (c : Value → MSt → Bool) : Bool := match v with
 | .pointer (some ⟨b, o, none⟩) => match s.m.get b with
  | some ob => match ob.mp with
   | none => rdK s b fun s => partK P tt ob.cs o fun v => c v s
   | some _ => false
  | none => false
 | _ => false
theorem loadK_ok {tt : TypeId} {x : Operand} {v : Value} {s : MSt} {c : Value → MSt → Bool} (hx : OpdR t x v) (h : loadK P tt v s c = true) : ∃ v' s', SLe s s' ∧ OpM P t s s' (.load tt x) v' ∧ c v' s' = true := by
 unfold loadK at h
 split at h
 case h_2 => cases h
 rename_i b o
 split at h
 case h_2 => cases h
 rename_i ob hb
 split at h
 case h_2 => cases h
 rename_i hmp
 rw [rdK_is] at h
 rcases partK_ok h with ⟨h1, v, h2, h3⟩ | ⟨n, h1, vs, h2, h3⟩
 ·haveI : TOne P tt := ⟨h1⟩
  refine ⟨v, s.rd b, SLe.rd s b, fun S W0 ρ n df a w R d ty pos af g F hp hR => ?_, h3⟩
  obtain ⟨r, cc, hr, cs', junk, q1, q2, _, _⟩ := hp.objC hb bit_rd hmp
  obtain ⟨r', cc', e1, hr'⟩ := hx.ptr F
  rw [hr] at hr'
  cases hr'
  obtain ⟨y, e2, q3⟩ := vr_nth q1 h2
  exact o_load e1 (run_loadVar_one this.h (cell_at q2 (by have := nth_junk (junk := junk) e2;rw [nth_spec] at this;simpa using this))) (hR ρ y w (Stp.rd hp) q3)
 ·haveI : TAgg P tt n := ⟨h1⟩
  refine ⟨_, s.rd b, SLe.rd s b, fun S W0 ρ nn df a w R d ty pos af g F hp hR => ?_, h3⟩
  obtain ⟨r, cc, hr, cs', junk, q1, q2, _, _⟩ := hp.objC hb bit_rd hmp
  obtain ⟨r', cc', e1, hr'⟩ := hx.ptr F
  rw [hr] at hr'
  cases hr'
  obtain ⟨ys, e2, q3⟩ := vr_seg q1 h2
  exact o_load e1 (run_loadVar_agg this.h q2 (by simpa using seg_junk (junk := junk) e2)) (hR ρ _ w (Stp.rd hp) (.agg (by simpa using q3)))
theorem one_vr {ρ : Rl} {v u : Value} (h : VR ρ v u) : u.oneCell' = v.oneCell' := by
 cases h <;> rfl
theorem ones_vr {ρ : Rl} : ∀ {vs us : List Value}, VRs ρ vs us → us.all (·.oneCell') = vs.all (·.oneCell')
 | _, _, .nil => rfl
 | _, _, .cons h t => by simp only [List.all_cons, one_vr h, ones_vr t]
noncomputable def onesK (l : List Value) : Bool := List.rec true (fun x _ ih => Bool.rec false ih x.oneCell') l
omit Y in
theorem onesK_is : ∀ (l : List Value), onesK l = l.all (·.oneCell')
 | [] => rfl
 | x :: xs => by
  show (Bool.rec false (onesK xs) x.oneCell' : Bool) = _
  rw [onesK_is xs, List.all_cons]
  cases x.oneCell' <;> rfl
noncomputable def storeK (P : Program) (tt : TypeId) (v u : Value) (s : MSt) (c : MSt → Bool) : Bool := match v with
  | .pointer (some ⟨b, o, none⟩) => match s.m.get b with
    | some ob => match ob.mp with
     | some _ => false
     | none => match u with
      | .agg cs => match aggTy P tt cs.toList.length with
        | true => match onesK cs.toList with
          | true => putK ob.cs o cs.toList fun l => wrtK s b ⟨l, ob.e, ob.op, none⟩ c
          | false => false
        | false => false
      | u => match sizeIs P tt 1 with
        | true => match u.oneCell' with
          | true => putK ob.cs o [u] fun l => wrtK s b ⟨l, ob.e, ob.op, none⟩ c
          | false => false
        | false => false
    | none => false
  | _ => false
omit Y in
theorem put_len {xs ys zs : List Value} {off : Nat} (h : put xs off ys = some zs) : zs.length = xs.length := by
 obtain ⟨h1, rfl⟩ := put_splice _ _ _ _ h
 simp [splice]
 omega
theorem storeK_ok {tt : TypeId} {x y : Operand} {v u : Value} {s : MSt} {c : MSt → Bool} (hwf : Wf s) (hx : OpdR t x v) (hy : OpdR t y u) (h : storeK P tt v u s c = true) : ∃ s', SLe s s' ∧ OpM P t s s' (.store tt x y) undef ∧ c s' = true := by
 have hun : ∀ ρ : Rl, VR ρ undef undef := fun ρ => by
  have : VR ρ (.tuple #[]) (.tuple (List.toArray [])) := .tup .nil
  exact this
 unfold storeK at h
 split at h
 case h_2 => cases h
 rename_i b o
 split at h
 case h_2 => cases h
 rename_i ob hb
 split at h
 case h_1 => cases h
 rename_i hmp
 split at h
 ·rename_i cs
  split at h
  case h_2 => cases h
  rename_i hsz
  split at h
  case h_2 => cases h
  rename_i h1
  rw [onesK_is] at h1
  obtain ⟨l, h2, h3⟩ := putK_ok h
  obtain ⟨m', hm, h4⟩ := wrtK_ok h3
  haveI : TAgg P tt cs.toList.length := ⟨hsz⟩
  refine ⟨_, SLe.wrt hm hb hwf, fun S W0 ρ n df a w R d ty pos af g F hp hR => ?_, h4⟩
  obtain ⟨r, cc, hr, cs', junk, q1, q2, q3, q4⟩ := hp.objC hb (bit_or.2 (.inr rfl)) hmp
  obtain ⟨r', cc', e1, hr'⟩ := hx.ptr F
  rw [hr] at hr'
  cases hr'
  obtain ⟨us, e2, g1⟩ := hy.agg F
  obtain ⟨zs, g2, g3⟩ := vr_put q1 g1 h2
  have Mb : Mem [r] w w [(r, .cells (cs' ++ junk).toArray ob.e (0, 0))] := ⟨Ext.refl _ _, fun p hp => by simp at hp;subst hp;exact q2, by simp, fun p hp => .inl (by simp at hp;subst hp;simp)⟩
  refine o_storeAE Mb e1 e2 g1.len (by rw [ones_vr g1];exact h1) .here (put_junk g2) .here fun w' E M' => hR ρ _ w' (Stp.wrt hm hb hwf hp hr E ?_) (hun ρ)
  refine .inl ⟨rfl, zs, junk, g3, M'.heap .here, q3, fun sz hs => ?_⟩
  rw [put_len g2]
  exact q4 sz hs
 ·split at h
  case h_2 => cases h
  rename_i hsz
  split at h
  case h_2 => cases h
  rename_i h1
  obtain ⟨l, h2, h3⟩ := putK_ok h
  obtain ⟨m', hm, h4⟩ := wrtK_ok h3
  haveI : TSz P tt 1 := ⟨hsz⟩
  refine ⟨_, SLe.wrt hm hb hwf, fun S W0 ρ n df a w R d ty pos af g F hp hR => ?_, h4⟩
  obtain ⟨r, cc, hr, cs', junk, q1, q2, q3, q4⟩ := hp.objC hb (bit_or.2 (.inr rfl)) hmp
  obtain ⟨r', cc', e1, hr'⟩ := hx.ptr F
  rw [hr] at hr'
  cases hr'
  have hv := hy ρ n df a F
  obtain ⟨zs, g2, g3⟩ := vr_put q1 (.cons hv .nil) h2
  have Mb : Mem [r] w w [(r, .cells (cs' ++ junk).toArray ob.e (0, 0))] := ⟨Ext.refl _ _, fun p hp => by simp at hp;subst hp;exact q2, by simp, fun p hp => .inl (by simp at hp;subst hp;simp)⟩
  refine o_store1E Mb e1 rfl (by rw [one_vr hv];exact h1) .here (put_junk g2) .here fun w' E M' => hR ρ _ w' (Stp.wrt hm hb hwf hp hr E ?_) (hun ρ)
  refine .inl ⟨rfl, zs, junk, g3, M'.heap .here, q3, fun sz hs => ?_⟩
  rw [put_len g2]
  exact q4 sz hs
theorem objR_new {ρ : Rl} {z us : List Value} {tt : TypeId} {b c : Nat} {w : World} (h : VRs ρ z us) (hh : w.heap[b]? = some (.cells us.toArray tt (0, 0))) : ObjR ρ ⟨z, tt, none, none⟩ b c w := .inl ⟨rfl, us, [], h, by simpa using hh, fun _ => rfl, fun sz hs => by cases hs⟩
noncomputable def newK (tt : TypeId) (z : List Value) (s : MSt) (c : Value → MSt → Bool) : Bool := allocK s ⟨z, tt, none, none⟩ fun s' => c (.pointer (some ⟨s.nx, 0, none⟩)) s'
theorem new_ok {op : Op} {tt : TypeId} {z : List Value} {s : MSt} {c : Value → MSt → Bool} (hwf : Wf s) (h : newK tt z s c = true)
  (ho : ∀ (ρ : Rl) (n : Nat) (df : List Deferred) (a : Act) (w : World) (R : Value → World → Prop) (d : Option Tmp) (ty : TypeId) (pos : String) (af : Array Edge) (g : Option (Nat × Bool)), FrR ρ n df t a → ∃ us, VRs ρ z us ∧ ((∀ b w', Mem [] w w' [(b, .cells us.toArray tt (0, 0))] → R (.pointer (some ⟨b, 0, none⟩)) w') → OpTo P ⟨d, op, ty, pos, af, g⟩ a.eval w R)) :
  ∃ v s', SLe s s' ∧ OpM P t s s' op v ∧ c v s' = true := by
 obtain ⟨m', hm, h4⟩ := allocK_ok h
 refine ⟨_, _, SLe.alloc hm, fun S W0 ρ n df a w R d ty pos af g F hp hR => ?_, h4⟩
 obtain ⟨us, h1, h2⟩ := ho ρ n df a w R d ty pos af g F
 refine h2 fun b w' M => ?_
 have hge : w.heap.size ≤ b := (M.own _ List.mem_cons_self).resolve_left (by simp)
 have hle := updR_le (x := (b, 0)) (hp.2 s.nx (Nat.le_refl _) (Nat.lt_succ_self _))
 exact hR _ _ w' (Stp.alloc (r := b) (c := 0) hm hwf hp M.ext hge (objR_new (h1.mono hle) (M.heap .here))) (.ptr (if_pos rfl))
theorem alloc_ok {tt : TypeId} {s : MSt} {c : Value → MSt → Bool} (hwf : Wf s) (h : zeroK P tt (fun z => newK tt z s c) = true) : ∃ v s', SLe s s' ∧ OpM P t s s' (.alloc tt) v ∧ c v s' = true := by
 obtain ⟨z, h1, h2, h3⟩ := zeroK_ok h
 haveI : TZero P tt z := ⟨h1⟩
 exact new_ok hwf h3 fun ρ n df a w R d ty pos af g F => ⟨z, h2 ρ, fun hh => o_alloc (Mem.start [] w) hh⟩
theorem box_ok {tt : TypeId} {x : Operand} {v : Value} {s : MSt} {c : Value → MSt → Bool} (hwf : Wf s) (hx : OpdR t x v) (h : cellsK v (fun z => newK tt z s c) = true) : ∃ v s', SLe s s' ∧ OpM P t s s' (.box tt x) v ∧ c v s' = true :=
 new_ok hwf (cellsK_ok h) fun ρ n df a w R d ty pos af g F => ⟨_, (hx ρ n df a F).cells, fun hh => o_box (Mem.start [] w) rfl rfl hh⟩
end Go.Proofs.YtfhkmgcalcfibaaGreat
namespace Go.Proofs.YtfhkmgcalcfibaaGreat
open Go.RowKit
variable [Y : Sy]
variable {P : Program} {t : Tr Value}
section
variable {ρ : Operand → Value} {w : World} {R : Value → World → Prop} {d : Option Tmp} {ty : TypeId} {pos : String} {af : Array Edge} {g : Option (Nat × Bool)}
omit Y in
theorem zeros_made (zs : List Value) (k : Nat) : madeCells zs.toArray (k * zs.length) = (zerosL zs (k * zs.length)).toArray := by
 apply Array.ext'
 simp only [madeCells, Array.toList_map, Array.toList_range, zerosL]
 refine List.map_congr_left fun i hi => ?_
 have hi' : i < k * zs.length := List.mem_range.1 hi
 have hpos : 0 < zs.length := Nat.pos_of_ne_zero fun h => by rw [h, Nat.mul_zero] at hi';omega
 have hlt : i % zs.length < zs.length := Nat.mod_lt _ hpos
 simp [hlt]
omit Y in
theorem o_buildSlice' {tt e : TypeId} {len sz : Nat} {xs : List (Nat × Operand)} {zs cs : List Value} [ht : TU P tt (.slice e)] [hs : TSz P e sz] [hz : TZero P e zs]
  (hle : Nat.ble (len * sz) 16777216 = true) (hzl : zs.length = sz) (hp : putAll (placesL len sz) (zerosL zs (len * sz)) (xs.map fun p => (p.1, (ρ p.2).cells.toList)) = some cs)
  (h : ∀ b w', Mem [] w w' [(b, .cells cs.toArray e (0, 0))] → R (.slice (some ⟨b, 0, none⟩) len len) w') : OpTo P ⟨d, .buildSlice tt len xs.toArray, ty, pos, af, g⟩ ρ w R := by
 obtain ⟨z, hzc, hzr⟩ := run_zeroC (w := w) hz.h
 have hf := fill_put (place := fun i => some (i * sz, sz)) (pl := placesL len sz) (fun j o ho => by
  rw [nthP_spec, placesL, List.getElem?_map] at ho
  cases hr : (List.range len)[j]? with
  | none => simp [hr] at ho
  | some q =>
   have : q = j := by
    obtain ⟨h1, h2⟩ := List.getElem?_eq_some_iff.1 hr
    simpa using h2.symm
   subst this
   simpa [hr] using ho) (xs.map fun p => (p.1, (ρ p.2).cells.toList)) (xs.map fun (p : Nat × Operand) => (p.1, ρ p.2)) (zerosL zs (len * sz)) cs (by simp) hp
 have hle' : ¬ (len * sz > 2 ^ 24) := by have := Nat.le_of_ble_eq_true hle;omega
 have hzero : (Array.range (len * sz)).map (fun i => zs.toArray[i % zs.toArray.size]!) = (zerosL zs (len * sz)).toArray := by rw [← hzl];exact zeros_made zs len
 refine OpTo.val (v := .slice (some ⟨w.heap.size, 0, none⟩) len len) (w' := w.alloc (.cells cs.toArray e)) ?_ (h _ _ ((Mem.start [] w).alloc _))
 simp only [execOp, List.map_toArray, Sem.run_bind]
 rw [show (List.map (fun x : Nat × Operand => match x with | (i, x) => (i, ρ x)) xs) = xs.map fun (p : Nat × Operand) => (p.1, ρ p.2) from rfl]
 by_cases h0 : len * sz = 0
 ·have hz0 : zerosL zs (len * sz) = [] := by rw [h0];rfl
  rw [hz0] at hf
  have hr0 : (Array.map (fun (_ : Nat) => (default : Value)) (Array.range 0)) = #[] := by simp
  simp [Instr.buildSlice, run_underlying ht.h, run_sizeOf hs.h, h0, hr0, hf, newRow]
 ·simp only [Instr.buildSlice, Sem.run_bind, run_underlying ht.h, Result.andThen_ok, run_sizeOf hs.h, if_neg hle', if_neg h0, hzr, Sem.run_pure, hzc, hzero, hf]
  simp [newRow]
omit Y in
theorem o_makeG {tt e : TypeId} {x y : Operand} {k k' : IntKind} {n m : Int} {sz by_ : Nat} {zs : List Value} [ht : TU P tt (.slice e)] (hel : elB P e sz by_ = true) (hz : zeroC P e = some zs.toArray) (hzl : zs.length = sz) (hx : ρ x = .int k n) (hy : ρ y = .int k' m) (h0 : 0 ≤ n) (h1 : n ≤ m) (hb : (by_ : Int) * m ≤ 281474976710656) (h63 : m ≤ 9223372036854775807)
  (h : ∀ b w', Mem [] w w' [(b, .cells (zerosL zs (m.toNat * sz)).toArray e (0, 0))] → R (.slice (some ⟨b, 0, none⟩) n.toNat m.toNat) w') : OpTo P ⟨d, .makeSlice tt x y, ty, pos, af, g⟩ ρ w R := by
 obtain ⟨i, zz, hi, hs, rfl, hz0, hzs⟩ := elB_spec hel
 have hzc : zz.cells = zs.toArray := by
  unfold zeroC at hz
  rw [hi] at hz
  simpa [hz0] using hz
 have hr := run_make (P := P) w tt e i zz ht.h hi hz0 k k' n m h0 h1 hb h63
 rw [hzc, hs, ← hzl, zeros_made, hzl] at hr
 refine OpTo.val (v := .slice (some ⟨w.heap.size, 0, none⟩) n.toNat m.toNat) (w' := w.alloc (.cells (zerosL zs (m.toNat * sz)).toArray e)) ?_ (h _ _ ((Mem.start [] w).alloc _))
 simp [execOp, hx, hy, hr]
end
omit Y in
theorem zerosL_add (zs : List Value) (k : Nat) : zerosL zs (zs.length + k) = zs ++ zerosL zs k := by
 unfold zerosL
 rw [List.range_add, List.map_append]
 congr 1
 ·apply List.ext_getElem (by simp)
  intro i h1 h2
  have : i % zs.length = i := Nat.mod_eq_of_lt h2
  simp [this, h2]
 ·rw [List.map_map]
  refine List.map_congr_left fun i _ => ?_
  simp [Nat.add_mod_left]
noncomputable def repK (zs : List Value) (n : Nat) : (List Value → Bool) → Bool := Nat.rec (motive := fun _ => (List Value → Bool) → Bool) (fun c => c []) (fun _ ih c => ih fun r => appK zs r c) n
omit Y in
theorem repK_is {zs : List Value} : ∀ (n : Nat) (c : List Value → Bool), repK zs n c = c (zerosL zs (n * zs.length))
 | 0, c => by
  show c [] = _
  rw [Nat.zero_mul]
  rfl
 | n + 1, c => by
  show repK zs n (fun r => appK zs r c) = _
  rw [repK_is n, appK_is, ← zerosL_add]
  congr 2
  rw [Nat.succ_mul, Nat.add_comm]
theorem zerosL_vr {ρ : Rl} {zs : List Value} (h : VRs ρ zs zs) : ∀ n, VRs ρ (zerosL zs (n * zs.length)) (zerosL zs (n * zs.length))
 | 0 => by rw [Nat.zero_mul];exact .nil
 | n + 1 => by
  rw [Nat.succ_mul, Nat.add_comm, zerosL_add]
  exact h.app (zerosL_vr h n)
noncomputable def partsSK (t : Tr Value) (len sz : Nat) (xs : List (Nat × Operand)) : List Value → (List Value → Bool) → Bool := List.rec (motive := fun _ => List Value → (List Value → Bool) → Bool) (fun z c => c z)
 (fun p _ ih z c => evK t p.2 fun v => cellsK v fun cs => match Nat.blt p.1 len with
  | true => match Nat.beq cs.length sz with
   | true => putK z (Nat.mul p.1 sz) cs fun z => ih z c
   | false => false
  | false => false) xs
theorem partsSK_ok {len sz : Nat} : ∀ {xs : List (Nat × Operand)} {z : List Value} {c : List Value → Bool}, partsSK t len sz xs z c = true →
  ∃ z', c z' = true ∧ ∀ (ρ : Rl) (n : Nat) (df : List Deferred) (a : Act), FrR ρ n df t a → ∀ us, VRs ρ z us → ∃ us', putAll (placesL len sz) us (xs.map fun p => (p.1, (a.eval p.2).cells.toList)) = some us' ∧ VRs ρ z' us'
 | [], z, c, h => ⟨z, h, fun ρ n df a F us hu => ⟨us, rfl, hu⟩⟩
 | (i, x) :: xs, z, c, h => by
  have h' : (evK t x fun v => cellsK v fun cs => match Nat.blt i len with
   | true => match Nat.beq cs.length sz with
    | true => putK z (Nat.mul i sz) cs fun z => partsSK t len sz xs z c
    | false => false
   | false => false) = true := h
  obtain ⟨v, h1, h2⟩ := evK_ok h'
  have h3 := cellsK_ok h2
  split at h3
  case h_2 => cases h3
  rename_i hi
  have hi : i < len := Nat.le_of_ble_eq_true hi
  split at h3
  case h_2 => cases h3
  rename_i hl
  obtain ⟨z1, h4, h5⟩ := putK_ok h3
  obtain ⟨z', h6, h7⟩ := partsSK_ok h5
  refine ⟨z', h6, fun ρ n df a F us hu => ?_⟩
  have hc := (h1 ρ n df a F).cells
  obtain ⟨us1, g1, g2⟩ := vr_put hu hc h4
  obtain ⟨us', g3, g4⟩ := h7 ρ n df a F us1 g2
  refine ⟨us', ?_, g4⟩
  have : Nat.beq ((a.eval x).cells.toList).length sz = true := by rw [hc.len];exact hl
  have hq : nthP (placesL len sz) i = some (i * sz, sz) := by
   rw [nthP_spec, placesL, List.getElem?_map, List.getElem?_range hi]
   rfl
  have g1' : put us (i * sz) (a.eval x).cells.toList = some us1 := g1
  simp only [List.map_cons, putAll, hq, this, g1', g3]
noncomputable def newSK (e : TypeId) (z : List Value) (len cap : Nat) (s : MSt) (c : Value → MSt → Bool) : Bool := match Nat.ble len cap && Nat.blt cap 9223372036854775808 with
 | true => allocK s ⟨z, e, none, none⟩ fun s' => c (.slice (some ⟨s.nx, 0, none⟩) len cap) s'
 | false => false
theorem newS_ok {op : Op} {e : TypeId} {z : List Value} {len cap : Nat} {s : MSt} {c : Value → MSt → Bool} (hwf : Wf s) (h : newSK e z len cap s c = true)
  (ho : ∀ (ρ : Rl) (n : Nat) (df : List Deferred) (a : Act) (w : World) (R : Value → World → Prop) (d : Option Tmp) (ty : TypeId) (pos : String) (af : Array Edge) (g : Option (Nat × Bool)), FrR ρ n df t a → ∃ us, VRs ρ z us ∧ ((∀ b w', Mem [] w w' [(b, .cells us.toArray e (0, 0))] → R (.slice (some ⟨b, 0, none⟩) len cap) w') → OpTo P ⟨d, op, ty, pos, af, g⟩ a.eval w R)) :
  ∃ v s', SLe s s' ∧ OpM P t s s' op v ∧ c v s' = true := by
 unfold newSK at h
 split at h
 case h_2 => cases h
 rename_i hk
 simp only [Bool.and_eq_true] at hk
 have hk1 := Nat.le_of_ble_eq_true hk.1
 have hk2 : cap < 9223372036854775808 := Nat.le_of_ble_eq_true hk.2
 obtain ⟨m', hm, h4⟩ := allocK_ok h
 refine ⟨_, _, SLe.alloc hm, fun S W0 ρ n df a w R d ty pos af g F hp hR => ?_, h4⟩
 obtain ⟨us, h1, h2⟩ := ho ρ n df a w R d ty pos af g F
 refine h2 fun b w' M => ?_
 have hge : w.heap.size ≤ b := (M.own _ List.mem_cons_self).resolve_left (by simp)
 have hle := updR_le (x := (b, 0)) (hp.2 s.nx (Nat.le_refl _) (Nat.lt_succ_self _))
 refine hR _ _ w' (Stp.alloc (r := b) (c := 0) hm hwf hp M.ext hge (objR_new (h1.mono hle) (M.heap .here))) ?_
 have := VR.sl (ρ := updR ρ s.nx (b, 0)) (b := s.nx) (o := 0) (r := b) (c := 0) (n := len) (k := cap) (if_pos rfl) (by rw [capR_lt hk2];exact hk1)
 rw [capR_lt hk2] at this
 exact this
noncomputable def buildSliceK (P : Program) (t : Tr Value) (tt : TypeId) (len : Nat) (xs : List (Nat × Operand)) (s : MSt) (c : Value → MSt → Bool) : Bool := match P.underlying tt with
 | some (.slice e) => match P.info? e with
  | some i => match Nat.ble (len * i.size) 16777216 with
   | true => zeroK P e fun z => match Nat.beq z.length i.size with
    | true => repK z len fun zs => partsSK t len i.size xs zs fun cs => newSK e cs len len s c
    | false => false
   | false => false
  | none => false
 | _ => false
theorem buildSliceK_ok {tt : TypeId} {len : Nat} {xs : List (Nat × Operand)} {s : MSt} {c : Value → MSt → Bool} (hwf : Wf s) (h : buildSliceK P t tt len xs s c = true) : ∃ v s', SLe s s' ∧ OpM P t s s' (.buildSlice tt len xs.toArray) v ∧ c v s' = true := by
 unfold buildSliceK at h
 split at h
 case h_2 => cases h
 rename_i e hu
 haveI : TU P tt (.slice e) := ⟨hu⟩
 split at h
 case h_2 => cases h
 rename_i i hi
 haveI : TSz P e i.size := ⟨sizeIs_of hi⟩
 split at h
 case h_2 => cases h
 rename_i hb
 obtain ⟨z, h1, h2, h3⟩ := zeroK_ok h
 split at h3
 case h_2 => cases h3
 rename_i hzl
 have hzl := Nat.eq_of_beq_eq_true hzl
 rw [repK_is] at h3
 obtain ⟨cs, h4, h5⟩ := partsSK_ok h3
 haveI : TZero P e z := ⟨h1⟩
 refine newS_ok hwf h4 fun ρ n df a w R d ty pos af g F => ?_
 obtain ⟨us, g1, g2⟩ := h5 ρ n df a F _ (zerosL_vr (h2 ρ) len)
 exact ⟨us, g2, fun hh => o_buildSlice' hb hzl (by rw [← hzl];rw [← hzl] at g1;exact g1) hh⟩
noncomputable def makeSliceK (P : Program) (tt : TypeId) (v u : Value) (s : MSt) (c : Value → MSt → Bool) : Bool := match v, u with
 | .int _ (.ofNat n), .int _ (.ofNat m) => lit2 (.ofNat n) (.ofNat m) (match P.underlying tt with
  | some (.slice e) => match P.info? e with
   | some i => match elB P e i.size i.bytes && Nat.ble n m && Nat.ble (i.bytes * m) 281474976710656 && Nat.ble m 9223372036854775807 with
    | true => zeroK P e fun z => match Nat.beq z.length i.size with
     | true => repK z m fun zs => newSK e zs n m s c
     | false => false
    | false => false
   | none => false
  | _ => false)
 | _, _ => false
theorem makeSliceK_ok {tt : TypeId} {x y : Operand} {v u : Value} {s : MSt} {c : Value → MSt → Bool} (hwf : Wf s) (hx : OpdR t x v) (hy : OpdR t y u) (h : makeSliceK P tt v u s c = true) : ∃ v s', SLe s s' ∧ OpM P t s s' (.makeSlice tt x y) v ∧ c v s' = true := by
 unfold makeSliceK at h
 split at h
 case h_2 => cases h
 rename_i k n k' m
 have hq := lit2_ok h
 clear h
 obtain ⟨e1, e2, h⟩ := hq
 split at h
 case h_2 => cases h
 rename_i e hu
 haveI : TU P tt (.slice e) := ⟨hu⟩
 split at h
 case h_2 => cases h
 rename_i i hi
 split at h
 case h_2 => cases h
 rename_i hb
 simp only [Bool.and_eq_true] at hb
 obtain ⟨⟨⟨b1, b2⟩, b3⟩, b4⟩ := hb
 have b2 := Nat.le_of_ble_eq_true b2
 have b3 := Nat.le_of_ble_eq_true b3
 have b4 := Nat.le_of_ble_eq_true b4
 obtain ⟨z, h1, h2, h3⟩ := zeroK_ok h
 split at h3
 case h_2 => cases h3
 rename_i hzl
 have hzl := Nat.eq_of_beq_eq_true hzl
 rw [repK_is] at h3
 refine newS_ok hwf h3 fun ρ nn df a w R d ty pos af g F => ⟨_, zerosL_vr (h2 ρ) m, fun hh => ?_⟩
 refine o_makeG (n := Int.ofNat n) (m := Int.ofNat m) b1 h1 hzl (hx.intT e1 F) (hy.intT e2 F) (Int.natCast_nonneg _) (Int.ofNat_le.2 b2) (by rw [show Int.ofNat m = (m : Int) from rfl, ← Int.natCast_mul];generalize i.bytes * m = q at b3 ⊢;omega) (Int.ofNat_le.2 b4) fun b w' M => hh b w' ?_
 rw [← hzl] at M
 exact M
end Go.Proofs.YtfhkmgcalcfibaaGreat
namespace Go.Proofs.YtfhkmgcalcfibaaGreat
open Go.RowKit
variable [Y : Sy]
variable {P : Program} {t : Tr Value}
noncomputable def srcK (v : Value) (sz : Nat) (s : MSt) (c : List Value → Nat → MSt → Bool) : Bool := match v with
 | .slice none 0 _ => c [] 0 s
 | .slice (some ⟨b, o, none⟩) m _ => match s.m.get b with
  | some ob => match ob.mp with
   | none => rdK s b fun s => segK ob.cs o (Nat.mul m sz) fun ys => match onesK ys with
    | true => c ys m s
    | false => false
   | some _ => false
  | none => false
 | .slice (some ⟨_, _, some _⟩) 0 0 => c [] 0 s
 | _ => false
theorem srcK_ok {x : Operand} {v : Value} {sz : Nat} {s : MSt} {c : List Value → Nat → MSt → Bool} (hx : OpdR t x v) (h : srcK v sz s c = true) :
  ∃ ys m s', SLe s s' ∧ s'.m = s.m ∧ s'.nx = s.nx ∧ (∀ (S : List Nat) (W0 : World) (ρ : Rl) (n : Nat) (df : List Deferred) (a : Act) (w : World), FrR ρ n df t a → WR S W0 ρ s.m s'.F w → ∃ us, VRs ρ ys us ∧ SrcOf P w (a.eval x) m sz us) ∧ c ys m s' = true := by
 unfold srcK at h
 split at h
 ·rename_i cap
  refine ⟨[], 0, s, SLe.refl s, rfl, rfl, fun S W0 ρ n df a w F A => ⟨[], .nil, ?_⟩, h⟩
  have := hx ρ n df a F
  generalize a.eval x = u at this
  cases this
  exact SrcOf.nil P w sz _
 ·rename_i b o m cap
  split at h
  case h_2 => cases h
  rename_i ob hb
  split at h
  case h_2 => cases h
  rename_i hmp
  rw [rdK_is] at h
  obtain ⟨ys, h1, h2⟩ := segK_ok h
  split at h2
  case h_2 => cases h2
  rename_i h3
  rw [onesK_is] at h3
  refine ⟨ys, m, s.rd b, SLe.rd s b, rfl, rfl, fun S W0 ρ n df a w F A => ?_, h2⟩
  obtain ⟨r, cc, hr, cs', junk, q1, q2, _, _⟩ := A.atC hb bit_rd hmp
  have := hx ρ n df a F
  generalize a.eval x = u at this
  cases this
  rename_i r' cc' hr' hle
  rw [hr] at hr'
  cases hr'
  obtain ⟨us, g1, g2⟩ := vr_seg q1 h1
  exact ⟨us, g2, SrcOf.cells' q2 (seg_junk g1) (by rw [ones_vr g2];exact h3)⟩
 ·refine ⟨[], 0, s, SLe.refl s, rfl, rfl, fun S W0 ρ n df a w F A => ⟨[], .nil, ?_⟩, h⟩
  have := hx ρ n df a F
  generalize a.eval x = u at this
  cases this
  exact ⟨by simp [Builtin.lenOf], fun d => by simp [Builtin.firstCells, loadCells, loadCellsFrom], by simp, by simp⟩
 ·cases h
omit Y in
theorem own_pos {e : TypeId} {sz n : Nat} {v : Value} {xs : List Value} {ent : List (Nat × Obj)} (h : OwnS e sz v n xs ent) (hn : 0 < n) : ∃ r cap junk, v = .slice (some ⟨r, 0, none⟩) n cap ∧ ent = [(r, .cells (xs ++ junk).toArray e (0, 0))] ∧ xs.length + junk.length = cap * sz ∧ n ≤ cap := by
 rcases h with ⟨rfl, h2, _, _⟩ | ⟨b, cap, junk, h1, h2, h3, h4, h5⟩
 ·omega
 ·refine ⟨b, cap, junk, h1, h2, ?_, h5⟩
  rw [h3, h4, ← Nat.add_mul]
  congr 1
  omega
theorem app_new {S : List Nat} {W0 : World} {ρ : Rl} {s : MSt} {w w' : World} {m' : Tr VO} {e : TypeId} {sz N r cap : Nat} {vs us junk : List Value} (hm : ∀ j, m'.get j = if j = s.nx then some ⟨vs, e, some sz, none⟩ else s.m.get j) (hwf : Wf s) (hp : Pre S W0 ρ s ⟨m', s.nx + 1, orB s.F s.nx, orB s.W s.nx⟩ w) (hv : VRs ρ vs us)
  (M : Mem [] w w' [(r, .cells (us ++ junk).toArray e (0, 0))]) (hl : us.length + junk.length = cap * sz) (hN : N ≤ cap) :
  ∃ ρ', Stp S W0 ρ s w ρ' ⟨m', s.nx + 1, orB s.F s.nx, orB s.W s.nx⟩ w' ∧ VR ρ' (.slice (some ⟨s.nx, 0, none⟩) N 18446744073709551616) (.slice (some ⟨r, 0, none⟩) N cap) := by
 have hge : w.heap.size ≤ r := (M.own _ List.mem_cons_self).resolve_left (by simp)
 have hle := updR_le (x := (r, cap)) (hp.2 s.nx (Nat.le_refl _) (Nat.lt_succ_self _))
 have ho : ObjR (updR ρ s.nx (r, cap)) ⟨vs, e, some sz, none⟩ r cap w' := by
  refine .inl ⟨rfl, us, junk, hv.mono hle, M.heap .here, fun h => ?_, fun sz' h => ?_⟩
  ·cases h
  ·cases h
   exact hl
 refine ⟨updR ρ s.nx (r, cap), Stp.alloc hm hwf hp M.ext hge ho, ?_⟩
 have hc : capR cap 18446744073709551616 = cap := by unfold capR;rw [if_neg (by omega)];omega
 have := VR.sl (ρ := updR ρ s.nx (r, cap)) (b := s.nx) (o := 0) (n := N) (k := 18446744073709551616) (if_pos rfl) (by rw [hc];exact hN)
 rw [hc] at this
 exact this
noncomputable def appK' (e : TypeId) (sz : Nat) (p : Option Addr) (n cap : Nat) (ys : List Value) (m : Nat) (s : MSt) (c : Value → MSt → Bool) : Bool := match p with
  | none => match Nat.beq n 0 && Nat.beq cap 0 with
    | true => match Nat.beq m 0 with
      | true => c (.slice none 0 0) s
      | false => allocK s ⟨ys, e, some sz, none⟩ fun s' => c (.slice (some ⟨s.nx, 0, none⟩) m 18446744073709551616) s'
    | false => false
  | some ⟨b, o, none⟩ => match Nat.beq o 0 with
    | true => match Nat.beq m 0 with
      | true => c (.slice (some ⟨b, 0, none⟩) n cap) s
      | false => match s.m.get b with
        | some ob => match ob.mp with
         | some _ => false
         | none => match Nat.blt cap 9223372036854775808 with
          | true => match Nat.ble (Nat.add n m) cap with
            | true => putK ob.cs (Nat.mul n sz) ys fun cs => wrtK s b ⟨cs, ob.e, ob.op, none⟩ fun s => forceN (Nat.add n m) fun N => c (.slice (some ⟨b, 0, none⟩) N cap) s
            | false => rdK s b fun s => segK ob.cs 0 (Nat.mul n sz) fun xs => match onesK xs with
              | true => appK xs ys fun zs => forceN (Nat.add n m) fun N => allocK s ⟨zs, e, some sz, none⟩ fun s' => c (.slice (some ⟨s.nx, 0, none⟩) N 18446744073709551616) s'
              | false => false
          | false => match Nat.beq cap 18446744073709551616 with
            | true => match ob.op with
              | some sz' => match Nat.beq sz' sz && Nat.beq ob.e e with
                | true => segK ob.cs 0 (Nat.mul n sz) fun xs => match onesK xs with
                  | true => appK xs ys fun zs => forceN (Nat.add n m) fun N => moveK s b ⟨zs, e, some sz, none⟩ fun s' => c (.slice (some ⟨s.nx, 0, none⟩) N 18446744073709551616) s'
                  | false => false
                | false => false
              | none => false
            | false => false
        | none => false
    | false => false
  | _ => false
noncomputable def appendK (P : Program) (st xt : TypeId) (v u : Value) (s : MSt) (c : Value → MSt → Bool) : Bool := match P.underlying st with
 | some (.slice e) => match P.info? e with
  | some i => match elB P e i.size i.bytes && notInt P xt with
   | true => srcK u i.size s fun ys m s => match v with
    | .slice p n cap => match Nat.ble (Nat.mul (Nat.add n m) i.bytes) 140737488355328 && Nat.ble (Nat.add n m) 9223372036854775807 with
     | true => appK' e i.size p n cap ys m s c
     | false => false
    | _ => false
   | false => false
  | none => false
 | _ => false
theorem appendK_ok {st xt : TypeId} {x y : Operand} {v u : Value} {s : MSt} {c : Value → MSt → Bool} (hwf : Wf s) (hx : OpdR t x v) (hy : OpdR t y u) (h : appendK P st xt v u s c = true) : ∃ v' s', SLe s s' ∧ OpM P t s s' (.call ⟨.builtin .append, #[x, y], #[st, xt]⟩) v' ∧ c v' s' = true := by
 unfold appendK at h
 split at h
 case h_2 => cases h
 rename_i e hu
 haveI : TU P st (.slice e) := ⟨hu⟩
 split at h
 case h_2 => cases h
 rename_i i hi
 split at h
 case h_2 => cases h
 rename_i hb
 simp only [Bool.and_eq_true] at hb
 obtain ⟨hel, hxt⟩ := hb
 haveI : TEl P e i.size i.bytes := ⟨hel⟩
 haveI : TNI P xt := ⟨hxt⟩
 obtain ⟨ys, m, s1, hs1, hm1, hn1, hsrc, h1⟩ := srcK_ok (P := P) hy h
 clear h
 have hwf1 := hs1.wf hwf
 split at h1
 case h_2 => cases h1
 rename_i p n cap
 split at h1
 case h_2 => cases h1
 rename_i hbd
 simp only [Bool.and_eq_true] at hbd
 have hb1 : (n + m) * i.bytes ≤ 140737488355328 := Nat.le_of_ble_eq_true hbd.1
 have hb2 : n + m ≤ 9223372036854775807 := Nat.le_of_ble_eq_true hbd.2
 -- the whole step: the reading of the source, then the rest
 have whole : ∀ {v' : Value} {s2 : MSt}, SLe s1 s2 → (∀ (S : List Nat) (W0 : World) (ρ : Rl) (nn : Nat) (df : List Deferred) (a : Act) (w : World) (tyy : TypeId), FrR ρ nn df t a → Pre S W0 ρ s1 s2 w → ∀ us, VRs ρ ys us → SrcOf P w (a.eval y) m i.size us →
   ∃ ρ' u' w', (Builtin.append_ #[st, xt] tyy #[a.eval x, a.eval y]).run P w = .ok u' w' ∧ Stp S W0 ρ s1 w ρ' s2 w' ∧ VR ρ' v' u') → c v' s2 = true → ∃ v' s', SLe s s' ∧ OpM P t s s' (.call ⟨.builtin .append, #[x, y], #[st, xt]⟩) v' ∧ c v' s' = true := fun {v' s2} hle hstep hc => by
  refine ⟨v', s2, hs1.trans hle, fun S W0 ρ nn df a w R d ty pos af g F hp hR => ?_, hc⟩
  have hp1 := Pre.fst hs1 hle hp
  have st1 : Stp S W0 ρ s w ρ s1 w := Stp.same hm1 hn1 hp1.1
  have hp2 := Pre.snd hs1 hle hwf hp st1
  obtain ⟨us, g1, g2⟩ := hsrc S W0 ρ nn df a w F hp1.1
  obtain ⟨ρ', u', w', g3, g4, g5⟩ := hstep S W0 ρ nn df a w ty F hp2 us g1 g2
  exact OpTo.val (v := u') (w' := w') (by simp [execOp, resolve, invoke, builtin, g3]) (hR ρ' u' w' (Stp.trans hs1 hle hwf hp st1 g4) g5)
 unfold appK' at h1
 split at h1
 ·split at h1
  case h_2 => cases h1
  rename_i h00
  simp only [Bool.and_eq_true] at h00
  obtain rfl := Nat.eq_of_beq_eq_true h00.1
  obtain rfl := Nat.eq_of_beq_eq_true h00.2
  have hx1 : ∀ {ρ : Rl} {nn : Nat} {df : List Deferred} {a : Act}, FrR ρ nn df t a → a.eval x = .slice none 0 0 := fun {ρ nn df a} F => by
   have := hx ρ nn df a F
   generalize a.eval x = u at this
   cases this
   rfl
  split at h1
  ·rename_i hm0
   obtain rfl := Nat.eq_of_beq_eq_true hm0
   refine whole (SLe.refl s1) (fun S W0 ρ nn df a w tyy F hp us g1 g2 => ⟨ρ, .slice none 0 0, w, ?_, Stp.same rfl rfl hp.1, .sl0 0 0⟩) h1
   have hus : us = [] := List.length_eq_zero_iff.1 (by rw [g2.size, Nat.zero_mul])
   subst hus
   rw [hx1 F]
   exact run_append_nil0 hu hi (notInt_spec hxt) g2.len (g2.cells w.drawn)
  ·rename_i hm0
   have hm0 : 0 < m := Nat.pos_of_ne_zero fun e => by rw [e] at hm0;cases hm0
   obtain ⟨m', hm, h2⟩ := allocK_ok h1
   refine whole (SLe.alloc hm) (fun S W0 ρ nn df a w tyy F hp us g1 g2 => ?_) h2
   obtain ⟨v1, w1, ent, q1, q2, q3⟩ := run_append (lr := []) (tyy := tyy) hu hel hxt (OwnS.nil e i.size) (Mem.start [] w) g2 hb1 hb2
   rw [hx1 F]
   obtain ⟨r, cc, junk, rfl, rfl, k1, k2⟩ := own_pos q2 (by omega)
   obtain ⟨ρ', k3, k4⟩ := app_new hm hwf1 hp g1 q3 k1 k2
   refine ⟨ρ', _, w1, q1, k3, ?_⟩
   simpa only [Nat.zero_add] using k4
 ·rename_i b o
  split at h1
  case h_2 => cases h1
  rename_i ho0
  obtain rfl := Nat.eq_of_beq_eq_true ho0
  -- where it lies
  have hx1 : ∀ {ρ : Rl} {nn : Nat} {df : List Deferred} {a : Act}, FrR ρ nn df t a → ∃ r cc, ρ b = some (r, cc) ∧ n ≤ capR cc cap ∧ a.eval x = .slice (some ⟨r, 0, none⟩) n (capR cc cap) := fun {ρ nn df a} F => by
   have := hx ρ nn df a F
   generalize a.eval x = u at this
   cases this
   rename_i r cc hr hle
   exact ⟨r, cc, hr, hle, rfl⟩
  split at h1
  ·rename_i hm0
   obtain rfl := Nat.eq_of_beq_eq_true hm0
   refine whole (SLe.refl s1) (fun S W0 ρ nn df a w tyy F hp us g1 g2 => ?_) h1
   obtain ⟨r, cc, hr, hle, e1⟩ := hx1 F
   have hus : us = [] := List.length_eq_zero_iff.1 (by rw [g2.size, Nat.zero_mul])
   subst hus
   refine ⟨ρ, _, w, ?_, Stp.same rfl rfl hp.1, .sl hr hle⟩
   rw [e1]
   exact run_append_room' (tyy := tyy) (b := r) (n := n) (cap := capR cc cap) (w' := w) hu hi (notInt_spec hxt) g2.len (by omega) (g2.cells w.drawn) (by simp [storeCells])
  ·rename_i hm0
   have hm0 : 0 < m := Nat.pos_of_ne_zero fun e => by rw [e] at hm0;cases hm0
   split at h1
   case h_2 => cases h1
   rename_i ob hob
   split at h1
   case h_1 => cases h1
   rename_i hmp
   split at h1
   ·rename_i hk
    have hk : cap < 9223372036854775808 := Nat.le_of_ble_eq_true hk
    split at h1
    ·-- in place
     rename_i hroom
     have hroom : n + m ≤ cap := Nat.le_of_ble_eq_true hroom
     obtain ⟨cs, h2, h3⟩ := putK_ok h1
     obtain ⟨m', hm, h4⟩ := wrtK_ok h3
     rw [forceN_is] at h4
     refine whole (SLe.wrt hm hob hwf1) (fun S W0 ρ nn df a w tyy F hp us g1 g2 => ?_) h4
     obtain ⟨r, cc, hr, hle, e1⟩ := hx1 F
     rw [capR_lt hk] at hle e1
     obtain ⟨r', cc', hr', cs', junk, q1, q2, q3, q4⟩ := hp.objC hob (bit_or.2 (.inr rfl)) hmp
     rw [hr] at hr'
     cases hr'
     obtain ⟨zs, k1, k2⟩ := vr_put q1 g1 h2
     have k3 := put_junk (junk := junk) k1
     obtain ⟨k4, k5⟩ := put_splice _ _ _ _ k3
     obtain ⟨w', hrun, he, hh⟩ := run_storeRow (P := P) (off := Nat.mul n i.size) us 0 (cs' ++ junk) w q2 (by simpa using k4) (fun v hv => g2.one v hv)
     refine ⟨ρ, .slice (some ⟨r, 0, none⟩) (n + m) cap, w', ?_, Stp.wrt hm hob hwf1 hp hr he (.inl ⟨rfl, zs, junk, k2, by rw [hh, Nat.add_zero, ← k5], q3, fun sz hs => by rw [put_len k1];exact q4 sz hs⟩), ?_⟩
     ·rw [e1]
      exact run_append_room' hu hi (notInt_spec hxt) g2.len hroom (g2.cells w.drawn) hrun
     ·have := VR.sl (ρ := ρ) (o := 0) (n := n + m) (k := cap) hr (by rw [capR_lt hk];exact hroom)
      rw [capR_lt hk] at this
      exact this
    ·-- a new block
     rename_i hroom
     have hroom : ¬ n + m ≤ cap := fun h => by
      have : Nat.ble (n + m) cap = true := by rw [Nat.ble_eq];exact h
      exact absurd (this.symm.trans hroom) (by simp)
     rw [rdK_is] at h1
     obtain ⟨xs, h2, h3⟩ := segK_ok h1
     split at h3
     case h_2 => cases h3
     rename_i hones
     rw [onesK_is] at hones
     rw [appK_is, forceN_is] at h3
     obtain ⟨m', hm, h4⟩ := allocK_ok h3
     refine whole ((SLe.rd s1 b).trans (SLe.alloc hm)) (fun S W0 ρ nn df a w tyy F hp us g1 g2 => ?_) h4
     obtain ⟨r, cc, hr, hle, e1⟩ := hx1 F
     rw [capR_lt hk] at hle e1
     have hp1 := Pre.fst (SLe.rd s1 b) (SLe.alloc hm) hp
     have hp2 := Pre.snd (SLe.rd s1 b) (SLe.alloc hm) hwf1 hp (Stp.rd hp1)
     obtain ⟨r', cc', hr', cs', junk, q1, q2, q3, q4⟩ := hp1.objC hob bit_rd hmp
     rw [hr] at hr'
     cases hr'
     obtain ⟨zs, k1, k2⟩ := vr_seg q1 h2
     have hV : SrcOf P w (.slice (some ⟨r, 0, none⟩) n cap) n i.size zs := SrcOf.cells' q2 (seg_junk k1) (by rw [ones_vr k2];exact hones)
     obtain ⟨v1, w1, ent, j1, j2, j3⟩ := run_appendG (tyy := tyy) hu hel hxt hV g2 (by omega) hle hb1 hb2
     obtain ⟨r1, c1, junk1, rfl, rfl, k3, k4⟩ := own_pos j2 (by omega)
     obtain ⟨ρ', k5, k6⟩ := app_new hm ((SLe.rd s1 b).wf hwf1) hp2 (k2.app g1) j3 k3 k4
     refine ⟨ρ', _, w1, ?_, Stp.trans (SLe.rd s1 b) (SLe.alloc hm) hwf1 hp (Stp.rd hp1) k5, k6⟩
     rw [e1]
     exact j1
   ·split at h1
    case h_2 => cases h1
    rename_i hcap
    obtain rfl := Nat.eq_of_beq_eq_true hcap
    split at h1
    case h_2 => cases h1
    rename_i sz' hsz'
    split at h1
    case h_2 => cases h1
    rename_i hse
    simp only [Bool.and_eq_true] at hse
    obtain rfl := Nat.eq_of_beq_eq_true hse.1
    have hoe := Nat.eq_of_beq_eq_true hse.2
    obtain ⟨xs, h2, h3⟩ := segK_ok h1
    split at h3
    case h_2 => cases h3
    rename_i hones
    rw [appK_is, forceN_is] at h3
    obtain ⟨m1, m', hm1', hm', h4⟩ := moveK_ok h3
    refine whole (SLe.move hm1' hm' hob hwf1) (fun S W0 ρ nn df a w tyy F hp us g1 g2 => ?_) h4
    obtain ⟨r, cc, hr, hle, e1⟩ := hx1 F
    have hcc : capR cc 18446744073709551616 = cc := by unfold capR;rw [if_neg (by omega)];omega
    rw [hcc] at hle e1
    obtain ⟨r', cc', hr', cs', junk, q1, q2, q3, q4⟩ := hp.objC hob (bit_or.2 (.inl (bit_or.2 (.inr rfl)))) hmp
    rw [hr] at hr'
    cases hr'
    obtain ⟨zs, k1, k2⟩ := vr_seg q1 h2
    have htot := q4 _ hsz'
    -- what it owns
    obtain ⟨zl, zat⟩ := seg_spec _ _ _ _ k1
    have hzn : zs.length = n * i.size := zl
    have hsplit : cs' ++ junk = zs ++ (cs' ++ junk).drop (n * i.size) := by
     have : zs = (cs' ++ junk).take (n * i.size) := by
      apply List.ext_getElem?
      intro j
      by_cases hj : j < n * i.size
      ·rw [List.getElem?_take_of_lt hj]
       have := zat j hj
       rw [Nat.zero_add] at this
       have hj2 : j < cs'.length := by
        rw [List.getElem?_eq_getElem (by omega : j < zs.length)] at this
        exact (List.getElem?_eq_some_iff.1 this).1
       rw [List.getElem?_append_left hj2, this]
      ·rw [List.getElem?_eq_none (by omega), List.getElem?_eq_none (by rw [List.length_take];omega)]
     rw [this, List.take_append_drop]
    have hO : OwnS e i.size (.slice (some ⟨r, 0, none⟩) n cc) n zs [(r, .cells (cs' ++ junk).toArray ob.e (0, 0))] := .inr ⟨r, cc, (cs' ++ junk).drop (n * i.size), rfl, by rw [← hsplit, hoe], hzn, by rw [List.length_drop, List.length_append, htot, Nat.sub_mul], hle⟩
    have Mb : Mem [r] w w ([] ++ [(r, .cells (cs' ++ junk).toArray ob.e (0, 0))]) := ⟨Ext.refl _ _, fun p hp => by simp at hp;subst hp;exact q2, by simp, fun p hp => .inl (by simp at hp;subst hp;simp)⟩
    obtain ⟨v1, w1, ent, j1, j2, j3⟩ := run_append (lr := []) (tyy := tyy) hu hel hxt hO Mb g2 hb1 hb2
    obtain ⟨r1, c1, junk1, rfl, rfl, k3, k4⟩ := own_pos j2 (by omega)
    have hr1 : r1 = r ∨ w.heap.size ≤ r1 := (j3.own _ List.mem_cons_self).imp (by simp) id
    have hle' := updR_le (x := (r1, c1)) (hp.2 s1.nx (Nat.le_refl _) (Nat.lt_succ_self _))
    have ho : ObjR (updR ρ s1.nx (r1, c1)) ⟨xs ++ ys, e, some i.size, none⟩ r1 c1 w1 := by
     refine .inl ⟨rfl, zs ++ us, junk1, (k2.app g1).mono hle', j3.heap .here, fun h => ?_, fun sz' h => ?_⟩
     ·cases h
     ·cases h
      exact k3
    refine ⟨_, .slice (some ⟨r1, 0, none⟩) (n + m) c1, w1, ?_, Stp.move hm1' hm' hob hwf1 hp hr j3.ext hr1 ho, ?_⟩
    ·rw [e1]
     exact j1
    ·have hc1 : capR c1 18446744073709551616 = c1 := by unfold capR;rw [if_neg (by omega)];omega
     have := VR.sl (ρ := updR ρ s1.nx (r1, c1)) (b := s1.nx) (o := 0) (n := n + m) (k := 18446744073709551616) (if_pos rfl) (by rw [hc1];exact k4)
     rw [hc1] at this
     exact this
 ·cases h1
end Go.Proofs.YtfhkmgcalcfibaaGreat

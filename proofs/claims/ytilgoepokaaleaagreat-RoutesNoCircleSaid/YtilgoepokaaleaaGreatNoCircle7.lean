/-
  PROVED: for every input RoutesNoCircle answers true, and each argument reads afterwards as it read before.
-/
import Derived.Test.YtilgoepokaaleaaGreatNoCircle6
/-! VH -/
namespace Go.Proofs.YtilgoepokaaleaaGreat
set_option linter.unusedVariables false
set_option linter.unusedSimpArgs false
open Go.RowKit
attribute [local irreducible] OpTo wpListIn Code.wpIn MW Cal
theorem g_pad3 {c : Cx} {Q : Exit → Act → World → Prop} {ks : List KF} {fr : List (Nat × Value)} {l : Row} {st : St} (hk : G c Q ks st fr (l ++ [[], [], []])) : G c Q ks st fr l := fun a w F M => hk a w F (by simpa using M)
theorem rows_jk2 {w s i f t b p S W jk e e3 e2 : List (Nat × Obj)} : ∃ z, ([e, e3, e2, w, s, i, f, t, b, p, S, W, jk] : Row).flatten.Perm z ∧ ([w, s, i, f, t, b, p, S, W, e ++ jk] : Row).flatten.Sublist z := by
 obtain ⟨z, h1, h2⟩ := rows_jk (w := w) (s := s) (i := i) (f := f) (t := t) (b := b) (p := p) (S := S) (W := W) (jk := jk) (e := e)
 refine ⟨(e3 ++ e2) ++ z, ?_, h2.trans (List.sublist_append_right _ _)⟩
 have h3 : ([e, e3, e2, w, s, i, f, t, b, p, S, W, jk] : Row).flatten.Perm ((e3 ++ e2) ++ ([e, w, s, i, f, t, b, p, S, W, jk] : Row).flatten) := by
  simp only [List.flatten_cons]
  rw [← List.append_assoc e3 e2, ← List.append_assoc e (e3 ++ e2), ← List.append_assoc (e3 ++ e2) e]
  exact List.Perm.append_right _ List.perm_append_comm
 exact h3.trans (List.Perm.append_left _ h1)
structure LS where
 i : Nat
 s : NC
 k : Nat
 hT : List Value
 hF : List Value
 hI : List Value
 hS : List Value
 hW : List Value
 eS : Row
 eW : Row
 jk : List (Nat × Obj)
structure LP (n N m sk : Nat) (z : LS) : Prop where
 inv : Inv n m sk z.s
 tT : HdJ 53 39 roC N z.hT z.jk z.s.tab
 tF : HdJ 133 38 srC N z.hF z.jk z.s.fd
 tI : HdJ 50 40 inC N z.hI z.jk z.s.ins
 tS : OwnH 48 2 diC N z.hS z.eS z.s.said
 tW : OwnH 3 1 iC N z.hW z.eW z.s.whn
set_option maxHeartbeats 64000000 in
theorem noCircleL_c (pt : Option Addr) (cap : Nat) (xs0 : List Int) (n0 : Int) (W : World) (hI : IntsAt W (.slice pt xs0.length cap) xs0) (hcap : xs0.length ≤ cap) :
  Cal Tryz.prog 7 [.slice pt xs0.length cap, .int .i64 n0].toArray W fun v w' => v = .bool true ∧ Ext [] W w' := by
 have hmem : 0 < xs0.length → ∃ b o cs t fz, pt = some ⟨b, o, none⟩ ∧ W.heap[b]? = some (.cells cs t fz) ∧ seg cs.toList o xs0.length = some (i64C xs0) := fun hl => by
  obtain ⟨p', cap', h1, _, h3⟩ := hI.ex
  cases h1
  exact h3 hl
 refine g_start (n := 263) (S := []) fldT_ok slcT_ok Tryz.func7 rfl rfl rfl ?_
 refine gR 8 rfl ?_
 refine g_callN (ι := Nat) (fun bt => .pointer (some ⟨bt, 0, none⟩)) (fun bt => W.heap.size ≤ bt) (fun bt => [[(bt, tobj pt (cut400 xs0).length cap 0)]]) rfl rfl (fun w M => Cal.mono (new_c xs0 _ (hI.later M.ext) hcap) fun x w' h => h.elim fun bt h => ⟨bt, h.1, Nat.le_trans M.ext.size ((h.2.own _ List.mem_cons_self).resolve_left (by simp)), by simpa using h.2⟩) (fun bt hbt => ?_)
 have hT : TapeS W bt pt (cut400 xs0).length (cut400 xs0) := tape_new (Ext.refl [] W) hbt hI.bd hmem
 generalize hxs : cut400 xs0 = xs at *
 generalize hlen : xs.length = len at *
 clear hxs hI hmem hcap
 obtain ⟨n, hn⟩ : ∃ n : Nat, 3 + modI n0 3 = (n : Int) := ⟨(3 + modI n0 3).toNat, by have := modI_bd n0 (n := 3) (by omega);omega⟩
 have hn3 : 3 ≤ n := by have := modI_bd n0 (n := 3) (by omega);omega
 have hn5 : n ≤ 5 := by have := modI_bd n0 (n := 3) (by omega);omega
 refine gR 6 rfl ?_
 refine g_call rfl rfl (fun w M => mod_c _ _ (by omega) (by omega) _) ?_
 refine g_add rfl rfl (w_i64 (by omega) (by omega)) ?_
 refine gR 3 rfl ?_
 rw [hn]
 clear hn
 have hdv := dv_all toNC_is
 refine gR 2 rfl ?_
 refine g_call rfl rfl (fun w M => host_c _ _ (by omega) (by omega) (by omega) (by omega) _) ?_
 refine g_alloc fun b6 => ?_
 refine g_stA 0 rfl rfl rfl rfl rfl rfl rfl ?_
 refine gR 2 rfl ?_
 obtain ⟨N, hN⟩ : ∃ N, N = n + 1 := ⟨_, rfl⟩
 have hN1 : (n : Int) + 1 = (N : Int) := by omega
 refine gR 3 rfl ?_
 refine g_add rfl rfl (w_i64 (by omega) (by omega)) ?_
 refine g_mk1 (n := N) (by rw [← hN1];rfl) (by omega) (by omega) fun bT => ?_
 refine gR 6 rfl ?_
 refine g_add rfl rfl (w_i64 (by omega) (by omega)) ?_
 refine g_mk1 (n := N) (by rw [← hN1];rfl) (by omega) (by omega) fun bF => ?_
 refine gR 6 rfl ?_
 refine g_add rfl rfl (w_i64 (by omega) (by omega)) ?_
 refine g_mk1 (n := N) (by rw [← hN1];rfl) (by omega) (by omega) fun bI => ?_
 refine gR 6 rfl ?_
 refine g_add rfl rfl (w_i64 (by omega) (by omega)) ?_
 refine g_mk1 (n := N) (by rw [← hN1];rfl) (by omega) (by omega) fun bS => ?_
 refine gR 6 rfl ?_
 refine g_add rfl rfl (w_i64 (by omega) (by omega)) ?_
 refine g_mk1 (n := N) (by rw [← hN1];rfl) (by omega) (by omega) fun bW => ?_
 refine gR 20 rfl ?_
 refine g_pad3 ?_
 refine g_loop (ι := LS) ⟨fun z => 60 - z.i, fun z => z.i ≤ 60 ∧ LP n N z.i 0 z, fun z => [(5, .pointer (some ⟨bt, 0, none⟩)), (1, .int .i64 n), (6, .pointer (some ⟨b6, 0, none⟩)), (7, .slice (some ⟨bT, 0, none⟩) N N), (8, .slice (some ⟨bF, 0, none⟩) N N), (9, .slice (some ⟨bI, 0, none⟩) N N), (10, .slice (some ⟨bS, 0, none⟩) N N), (11, .slice (some ⟨bW, 0, none⟩) N N), (12, .int .u16 (z.s.seq)), (13, .int .i64 (z.s.now)), (14, .int .i64 z.i)], fun z => [[(bW, .cells (z.hW).toArray 22 (0, 0))], [(bS, .cells (z.hS).toArray 78 (0, 0))], [(bI, .cells (z.hI).toArray 33 (0, 0))], [(bF, .cells (z.hF).toArray 28 (0, 0))], [(bT, .cells (z.hT).toArray 26 (0, 0))], [(b6, .cells (dvC toNC).toArray 45 (0, 0))], [(bt, tobj pt len cap (z.k))], z.eS.flatten, z.eW.flatten, z.jk]⟩ ⟨0, ⟨0, 0, fun _ => [], fun _ => [], fun _ => [], fun _ => [], fun _ => []⟩, 0, _, _, _, _, _, List.replicate N [], List.replicate N [], []⟩ ⟨by dsimp only;omega, ⟨Inv.start n 0, HdJ.start, HdJ.start, HdJ.start, OwnH.start, OwnH.start⟩⟩ (fun a F => F.only [5, 1, 6, 7, 8, 9, 10, 11, 12, 13, 14] rfl) (by dsimp only;rw [flat_nil];exact .refl _) ?_
 rintro ⟨i, ⟨now0, seq, tab, fd, ins, said, whn⟩, k, gT, gF, gI, gS, gW, eS, eW, jk⟩ ⟨hi, P⟩
 dsimp only at hi P ⊢
 by_cases hlt : i < 60
 ·have hn0 := P.inv.now0
  have hn1 := P.inv.now1
  have hq0 := P.inv.seq0
  have hq1 := P.inv.seq1
  have htl := P.inv.tl
  have hsm := P.inv.sm
  dsimp only at hn0 hn1 hq0 hq1 htl hsm
  refine gR 7 rfl ?_
  refine g_ifT rfl (decide_eq_true (by omega)) ?_
  refine gR 4 rfl ?_
  refine g_cutB (ι := LS) ⟨fun y => y.i = i ∧ LP n N (i + 1) 0 y, fun y => [(5, .pointer (some ⟨bt, 0, none⟩)), (1, .int .i64 n), (6, .pointer (some ⟨b6, 0, none⟩)), (7, .slice (some ⟨bT, 0, none⟩) N N), (8, .slice (some ⟨bF, 0, none⟩) N N), (9, .slice (some ⟨bI, 0, none⟩) N N), (10, .slice (some ⟨bS, 0, none⟩) N N), (11, .slice (some ⟨bW, 0, none⟩) N N), (12, .int .u16 (y.s.seq)), (13, .int .i64 (y.s.now)), (14, .int .i64 i)], fun y => [[(bW, .cells (y.hW).toArray 22 (0, 0))], [(bS, .cells (y.hS).toArray 78 (0, 0))], [(bI, .cells (y.hI).toArray 33 (0, 0))], [(bF, .cells (y.hF).toArray 28 (0, 0))], [(bT, .cells (y.hT).toArray 26 (0, 0))], [(b6, .cells (dvC toNC).toArray 45 (0, 0))], [(bt, tobj pt len cap (y.k))], y.eS.flatten, y.eW.flatten, y.jk]⟩ ?_ ?_
  ·have d0 := nxV_bd xs k (n := 2) (by omega)
   have d1 := nxV_bd xs (nxK xs k) (n := n) (by omega)
   have d2 := nxV_bd xs (nxK xs (nxK xs k)) (n := 4) (by omega)
   refine gR 4 rfl ?_
   refine g_callT1 6 rfl rfl rfl (fun w M => next_c _ (by omega) (by omega) w (hT.later M.ext.any) (M.at_ _ (nthO_mem (i := 6) rfl))) rfl ?_
   refine g_add rfl rfl (w_i64 (by omega) (by omega)) ?_
   refine gR 7 rfl ?_
   refine g_callT1 6 rfl rfl rfl (fun w M => next_c _ (by omega) (by omega) w (hT.later M.ext.any) (M.at_ _ (nthO_mem (i := 6) rfl))) rfl ?_
   refine g_add rfl rfl (w_i64 (by omega) (by omega)) ?_
   refine gR 7 rfl ?_
   refine g_callT1 6 rfl rfl rfl (fun w M => next_c _ (by omega) (by omega) w (hT.later M.ext.any) (M.at_ _ (nthO_mem (i := 6) rfl))) rfl ?_
   refine gR 3 rfl ?_
   have I1 := P.inv.tick d0.1 (by omega)
   dsimp only at I1
   obtain ⟨a, ha⟩ : ∃ a : Nat, 1 + nxV xs (nxK xs k) n = a := ⟨(1 + nxV xs (nxK xs k) n).toNat, by omega⟩
   obtain ⟨now, hnow⟩ : ∃ now, now0 + nxV xs k 2 = now := ⟨_, rfl⟩
   rw [hnow] at I1 ⊢
   rw [ha]
   have ha1 : 1 ≤ a := by omega
   have ha2 : a ≤ n := by omega
   have hm0 := I1.now0
   have hm1 := I1.now1
   have hsl := I1.sl
   dsimp only at hm0 hm1 hsl
   clear d0 d1 ha hnow hn0 hn1
   obtain ⟨-, tT, tF, tI, tS, tW⟩ := P
   dsimp only at tT tF tI tS tW
   have lT := tT.len
   have lF := tF.len
   have lI := tI.len
   have lS := tS.len
   have lW := tW.len
   generalize nxV xs (nxK xs (nxK xs k)) 4 = c at d2 ⊢
   generalize nxK xs (nxK xs (nxK xs k)) = k1
   refine g_cutB (ι := Nat × LS) ⟨fun (a, y) => y.i = i ∧ 1 ≤ a ∧ a ≤ n ∧ LP n N (i + 1) a y ∧ (a ≠ 1 → (y.s.said a).length ≤ i), fun (a, y) => [(15, .int .i64 a), (5, .pointer (some ⟨bt, 0, none⟩)), (1, .int .i64 n), (6, .pointer (some ⟨b6, 0, none⟩)), (7, .slice (some ⟨bT, 0, none⟩) N N), (8, .slice (some ⟨bF, 0, none⟩) N N), (9, .slice (some ⟨bI, 0, none⟩) N N), (10, .slice (some ⟨bS, 0, none⟩) N N), (11, .slice (some ⟨bW, 0, none⟩) N N), (12, .int .u16 (y.s.seq)), (13, .int .i64 (y.s.now)), (14, .int .i64 i)], fun (a, y) => [[(bW, .cells (y.hW).toArray 22 (0, 0))], [(bS, .cells (y.hS).toArray 78 (0, 0))], [(bI, .cells (y.hI).toArray 33 (0, 0))], [(bF, .cells (y.hF).toArray 28 (0, 0))], [(bT, .cells (y.hT).toArray 26 (0, 0))], [(b6, .cells (dvC toNC).toArray 45 (0, 0))], [(bt, tobj pt len cap (y.k))], y.eS.flatten, y.eW.flatten, y.jk]⟩ ?_ ?_
   ·by_cases c0 : c = 0
    ·subst c0
     have d3 := nxV_bd xs k1 (n := 2) (by omega)
     refine gR 11 rfl ?_
     refine g_callT1 6 rfl rfl rfl (fun w M => next_c _ (by omega) (by omega) w (hT.later M.ext.any) (M.at_ _ (nthO_mem (i := 6) rfl))) rfl ?_
     refine g_conv rfl (w_u16 (by omega) (by omega)) ?_
     refine g_add rfl rfl (w_u16 (by omega) (by omega)) ?_
     refine gR 3 rfl ?_
     have hsm1 := hsm 1
     have hsl1 := hsl 1
     obtain ⟨sq, hsq⟩ : ∃ sq, seq + nxV xs k1 2 = sq := ⟨_, rfl⟩
     rw [hsq]
     obtain ⟨vS, enS, hvS, heS, hOS⟩ := tS.at_ 1 (by omega)
     obtain ⟨vW, enW, hvW, heW, hOW⟩ := tW.at_ 1 (by omega)
     obtain ⟨pS, pS2⟩ := flat_out heS
     obtain ⟨pW, pW2⟩ := flat_out heW
     generalize (eS.eraseIdx 1).flatten = rS at pS pS2
     generalize (eW.eraseIdx 1).flatten = rW at pW pW2
     refine g_rows [enS, enW, [(bS, .cells (gS).toArray 78 (0, 0))], [(bW, .cells (gW).toArray 22 (0, 0))], [(bI, .cells (gI).toArray 33 (0, 0))], [(bF, .cells (gF).toArray 28 (0, 0))], [(bT, .cells (gT).toArray 26 (0, 0))], [(b6, .cells (dvC toNC).toArray 45 (0, 0))], [(bt, tobj pt len cap (nxK xs k1))], rS, rW, jk] ⟨_, rows_out pS pW, .refl _⟩ ?_
     refine gR 1 rfl ?_
     refine g_drawE 17 263 (bS :: (enS.map (·.1) ++ enW.map (·.1))) [4, 8, 14, 16] [] [enS, enW, [(bS, .cells (gS).toArray 78 (0, 0))]] [[(bW, .cells (gW).toArray 22 (0, 0))], [(bI, .cells (gI).toArray 33 (0, 0))], [(bF, .cells (gF).toArray 28 (0, 0))], [(bT, .cells (gT).toArray 26 (0, 0))], [(b6, .cells (dvC toNC).toArray 45 (0, 0))], [(bt, tobj pt len cap (nxK xs k1))], rS, rW, jk] rfl (by kernel_rfl) (by rw [← List.flatten_append];exact .refl _) B_in (fe_start ?_)
     refine fe_run 60 rfl ?_
     refine fe_v (fun a2 w F M R r => o_indexSl (F.e rfl) (F.e rfl) (by omega) (by omega) r) ?_
     refine fe_opK (v := vS) (fun _ => [enS, enW, [(bS, .cells (gS).toArray 78 (0, 0))], [(bW, .cells (gW).toArray 22 (0, 0))], [(bI, .cells (gI).toArray 33 (0, 0))], [(bF, .cells (gF).toArray 28 (0, 0))], [(bT, .cells (gT).toArray 26 (0, 0))], [(b6, .cells (dvC toNC).toArray 45 (0, 0))], [(bt, tobj pt len cap (nxK xs k1))], rS, rW, jk]) [] (fun i hi => ?_) ?_
     ·exact fun a w F M _ => o_loadH1 (F.e rfl) (M.at_ _ (nthO_mem (i := 2) rfl)) hvS ⟨Ext.refl _ _, _, ⟨rfl, rfl⟩, M⟩
     refine fe_run 60 rfl ?_
     refine fe_v (fun a2 w F M R r => o_build F rfl (di_mk1 _) r) ?_
     refine fe_bs rfl rfl rfl (di_build1 (o := (⟨sq, 0⟩ : DisV)) trivial) ?_
     refine fe_op (κ := Value × List (Nat × Obj)) (fun _ j => j.1) (fun _ j => OwnS 48 2 j.1 (said 1 ++ [(⟨sq, 0⟩ : DisV)]).length (dsC (said 1 ++ [(⟨sq, 0⟩ : DisV)])) j.2) (fun _ j => [j.2, enW, [(bS, .cells (gS).toArray 78 (0, 0))], [(bW, .cells (gW).toArray 22 (0, 0))], [(bI, .cells (gI).toArray 33 (0, 0))], [(bF, .cells (gF).toArray 28 (0, 0))], [(bT, .cells (gT).toArray 26 (0, 0))], [(b6, .cells (dvC toNC).toArray 45 (0, 0))], [(bt, tobj pt len cap (nxK xs k1))], rS, rW, jk]) [] .any (fun i hi => ?_) (fun _ _ _ _ => trivial) ?_
     ·exact opf_app (enc := diC) (f := fun e => [e, enW, [(bS, .cells (gS).toArray 78 (0, 0))], [(bW, .cells (gW).toArray 22 (0, 0))], [(bI, .cells (gI).toArray 33 (0, 0))], [(bF, .cells (gF).toArray 28 (0, 0))], [(bT, .cells (gT).toArray 26 (0, 0))], [(b6, .cells (dvC toNC).toArray 45 (0, 0))], [(bt, tobj pt len cap (nxK xs k1))], rS, rW, jk]) 7 rfl hOS (.refl _) B_1 (.head _) (di_len trivial) (by omega) (by omega) (fun ent => .refl _) (di_one _)
     refine fe_run 60 rfl ?_
     refine fe_v (fun a2 w F M R r => o_indexSl (F.e rfl) (F.e rfl) (by omega) (by omega) r) ?_
     refine fe_v (fun a2 w F M R r => o_loadH1 (F.e rfl) (M.at_ _ (nthO_mem (i := 0) rfl)) hvW r) ?_
     refine fe_run 60 rfl ?_
     refine fe_bs rfl rfl rfl rfl ?_
     refine fe_op (κ := Value × List (Nat × Obj)) (fun _ j => j.1) (fun _ j => OwnS 3 1 j.1 (whn 1 ++ [now]).length (encL iC (whn 1 ++ [now])) j.2) (fun i j => [i.2.2, j.2, [(bS, .cells (gS).toArray 78 (0, 0))], [(bW, .cells (gW).toArray 22 (0, 0))], [(bI, .cells (gI).toArray 33 (0, 0))], [(bF, .cells (gF).toArray 28 (0, 0))], [(bT, .cells (gT).toArray 26 (0, 0))], [(b6, .cells (dvC toNC).toArray 45 (0, 0))], [(bt, tobj pt len cap (nxK xs k1))], rS, rW, jk]) [] .any (fun i hi => ?_) (fun _ _ _ _ => trivial) ?_
     ·exact opf_app (enc := iC) (x0 := now) (f := fun e => [i.2.2, e, [(bS, .cells (gS).toArray 78 (0, 0))], [(bW, .cells (gW).toArray 22 (0, 0))], [(bI, .cells (gI).toArray 33 (0, 0))], [(bF, .cells (gF).toArray 28 (0, 0))], [(bT, .cells (gT).toArray 26 (0, 0))], [(b6, .cells (dvC toNC).toArray 45 (0, 0))], [(bt, tobj pt len cap (nxK xs k1))], rS, rW, jk]) 13 rfl hOW (List.perm_append_comm_assoc _ _ _) B_2 (.head _) rfl (by omega) (by omega) (fun ent => List.perm_append_comm_assoc _ _ _) rfl
     refine fe_run 60 rfl ?_
     refine fe_v (fun a2 w F M R r => o_indexSl (F.e rfl) (F.e rfl) (by omega) (by omega) r) ?_
     refine fe_opN (fun i => [i.1.2.2, i.2.2, [(bS, .cells ((gS).set 1 i.1.2.1).toArray 78 (0, 0))], [(bW, .cells (gW).toArray 22 (0, 0))], [(bI, .cells (gI).toArray 33 (0, 0))], [(bF, .cells (gF).toArray 28 (0, 0))], [(bT, .cells (gT).toArray 26 (0, 0))], [(b6, .cells (dvC toNC).toArray 45 (0, 0))], [(bt, tobj pt len cap (nxK xs k1))], rS, rW, jk]) [(8, 74)] (fun i hi => ?_) ?_
     ·exact opf_st1 2 rfl rfl (own_one hi.1.2) rfl (put_set (i := 1) (by omega) _) rfl (.head _)
     refine fe_fin rfl (by rintro i _ q hq;simp at hq;rcases hq with rfl | rfl <;> simp) ?_
     rintro ⟨⟨_, v1, e1⟩, v2, e2⟩ ⟨⟨_, hO1⟩, hO2⟩
     refine ⟨_, rfl, ?_⟩
     dsimp only at hO1 hO2 ⊢
     refine g_ixS rfl rfl (by omega) (by omega) ?_
     refine g_st1 3 rfl rfl (own_one hO2) rfl (put_set (i := 1) (by omega) _) rfl ?_
     refine g_rows [[(bW, .cells ((gW).set 1 v2).toArray 22 (0, 0))], [(bS, .cells ((gS).set 1 v1).toArray 78 (0, 0))], [(bI, .cells (gI).toArray 33 (0, 0))], [(bF, .cells (gF).toArray 28 (0, 0))], [(bT, .cells (gT).toArray 26 (0, 0))], [(b6, .cells (dvC toNC).toArray 45 (0, 0))], [(bt, tobj pt len cap (nxK xs k1))], (eS.set 1 e1).flatten, (eW.set 1 e2).flatten, jk] (rows_in (pS2 e1) (pW2 e2)) ?_
     have I2 := I1.origin (by dsimp only;omega) (fun a => by have := hsm a;dsimp only;omega) d3.1 (by omega)
     dsimp only at I2
     rw [hsq] at I2
     refine gR 6 rfl ?_
     exact g_join (1, ⟨i, ⟨now, sq, tab, fd, ins, upd said 1 (said 1 ++ [(⟨sq, 0⟩ : DisV)]), upd whn 1 (whn 1 ++ [now])⟩, nxK xs k1, gT, gF, gI, gS.set 1 v1, gW.set 1 v2, eS.set 1 e1, eW.set 1 e2, jk⟩) ⟨rfl, by (try dsimp only);omega, by (try dsimp only);omega, ⟨I2.skip 1, tT, tF, tI, tS.put (by omega) hO1, tW.put (by omega) hO2⟩, fun h => absurd rfl h⟩ (fun a F => F.only [15, 5, 1, 6, 7, 8, 9, 10, 11, 12, 13, 14] rfl) (.refl _)
    ·have c0f : (c == 0) = false := by simp [c0]
     by_cases c1 : c = 1
     ·subst c1
      have d3 := nxV_bd xs k1 (n := n) (by omega)
      refine gR 18 rfl ?_
      refine g_callT1 6 rfl rfl rfl (fun w M => next_c _ (by omega) (by omega) w (hT.later M.ext.any) (M.at_ _ (nthO_mem (i := 6) rfl))) rfl ?_
      refine g_add rfl rfl (w_i64 (by omega) (by omega)) ?_
      refine gR 4 rfl ?_
      obtain ⟨b, hb⟩ : ∃ b : Nat, 1 + nxV xs k1 n = b := ⟨(1 + nxV xs k1 n).toNat, by omega⟩
      rw [hb]
      have hb1 : 1 ≤ b := by omega
      have hb2 : b ≤ n := by omega
      clear hb d3
      obtain ⟨vS, enS, hvS, heS, hOS⟩ := tS.at_ b (by omega)
      have hvS' : nth gS (0 + (b : Int).toNat * 1) = some vS := by rw [show (0 : Nat) + (b : Int).toNat * 1 = b by omega];exact hvS
      have hsmb := hsm b
      have hslb := hsl b
      by_cases z0 : (said b).length = 0
      ·have z0t : (((said b).length : Int) == 0) = true := by simp [z0]
       refine gR 4 rfl ?_
       refine g_ixS rfl rfl (by omega) (by omega) ?_
       refine g_ld1 1 rfl rfl (by with_reducible assumption) ?_
       refine g_len rfl ‹_› ?_
       refine gR 2 rfl ?_
       refine g_know 95 rfl (decide_eq_true (by omega)) ?_
       refine gR 14 rfl ?_
       refine g_jX ?_
       refine gR 2 rfl ?_
       exact g_join ⟨i, ⟨now, seq, tab, fd, ins, said, whn⟩, nxK xs k1, gT, gF, gI, gS, gW, eS, eW, jk⟩ ⟨rfl, ⟨I1, tT, tF, tI, tS, tW⟩⟩ (fun a F => F.only [5, 1, 6, 7, 8, 9, 10, 11, 12, 13, 14] rfl) (.refl _)
      have z0f : (((said b).length : Int) == 0) = false := by simpa using z0
      by_cases z1 : a = b
      ·have z1t : ((a : Int) == b) = true := by simp [z1]
       refine gR 4 rfl ?_
       refine g_ixS rfl rfl (by omega) (by omega) ?_
       refine g_ld1 1 rfl rfl (by with_reducible assumption) ?_
       refine g_len rfl ‹_› ?_
       refine gR 2 rfl ?_
       refine g_know 95 rfl (decide_eq_false (by omega)) ?_
       refine gR 5 rfl ?_
       refine g_know 100 rfl (decide_eq_true (by omega)) ?_
       refine gR 9 rfl ?_
       refine g_jX ?_
       refine gR 2 rfl ?_
       exact g_join ⟨i, ⟨now, seq, tab, fd, ins, said, whn⟩, nxK xs k1, gT, gF, gI, gS, gW, eS, eW, jk⟩ ⟨rfl, ⟨I1, tT, tF, tI, tS, tW⟩⟩ (fun a F => F.only [5, 1, 6, 7, 8, 9, 10, 11, 12, 13, 14] rfl) (.refl _)
      have z1f : ((a : Int) == b) = false := by simp;omega
      by_cases z2 : a = 1
      ·have z2t : ((a : Int) == 1) = true := by simp [z2]
       refine gR 4 rfl ?_
       refine g_ixS rfl rfl (by omega) (by omega) ?_
       refine g_ld1 1 rfl rfl (by with_reducible assumption) ?_
       refine g_len rfl ‹_› ?_
       refine gR 2 rfl ?_
       refine g_know 95 rfl (decide_eq_false (by omega)) ?_
       refine gR 5 rfl ?_
       refine g_know 100 rfl (decide_eq_false (by omega)) ?_
       refine gR 5 rfl ?_
       refine g_ifT rfl (decide_eq_true (by omega)) ?_
       refine gR 3 rfl ?_
       refine g_jX ?_
       refine gR 2 rfl ?_
       exact g_join ⟨i, ⟨now, seq, tab, fd, ins, said, whn⟩, nxK xs k1, gT, gF, gI, gS, gW, eS, eW, jk⟩ ⟨rfl, ⟨I1, tT, tF, tI, tS, tW⟩⟩ (fun a F => F.only [5, 1, 6, 7, 8, 9, 10, 11, 12, 13, 14] rfl) (.refl _)
      have z2f : ((a : Int) == 1) = false := by simp;omega
      have hlen1 : 0 < ((said b).length : Int) := by omega
      have hlen2 : ((said b).length : Int) ≤ 9223372036854775807 := by omega
      refine gR 4 rfl ?_
      refine g_ixS rfl rfl (by omega) (by omega) ?_
      refine g_ld1 1 rfl rfl (by with_reducible assumption) ?_
      refine g_len rfl ‹_› ?_
      refine gR 2 rfl ?_
      refine g_know 95 rfl (decide_eq_false (by omega)) ?_
      refine gR 5 rfl ?_
      refine g_know 100 rfl (decide_eq_false (by omega)) ?_
      refine gR 5 rfl ?_
      refine g_ifF rfl (decide_eq_false (by omega)) ?_
      refine gR 7 rfl ?_
      refine g_ixS rfl rfl (by omega) (by omega) ?_
      refine g_ld1 1 rfl rfl (by with_reducible assumption) ?_
      refine g_len rfl ‹_› ?_
      refine g_callT1 6 rfl rfl rfl (fun w M => next_c _ (by omega) (by omega) w (hT.later M.ext.any) (M.at_ _ (nthO_mem (i := 6) rfl))) rfl ?_
      refine gR 4 rfl ?_
      have d3 := nxV_bd xs (nxK xs k1) (n := (said b).length) hlen1
      obtain ⟨j, hj⟩ : ∃ j : Nat, nxV xs (nxK xs k1) (said b).length = j := ⟨(nxV xs (nxK xs k1) (said b).length).toNat, by omega⟩
      rw [hj] at d3 ⊢
      clear hj
      generalize nxK xs (nxK xs k1) = k2
      obtain ⟨vW, enW, hvW, heW, hOW⟩ := tW.at_ b (by omega)
      have hvW' : nth gW (0 + (b : Int).toNat * 1) = some vW := by rw [show (0 : Nat) + (b : Int).toNat * 1 = b by omega];exact hvW
      obtain ⟨d, hd⟩ : ∃ d, (said b)[j]? = some d := ⟨_, List.getElem?_eq_getElem (by omega)⟩
      obtain ⟨w0, hw0⟩ : ∃ w0, (whn b)[j]? = some w0 := ⟨_, List.getElem?_eq_getElem (by omega)⟩
      have hw0b := I1.sw b w0 (List.mem_of_getElem? hw0)
      dsimp only at hw0b
      rcases id hOS with ⟨-, h0, -, -⟩ | ⟨bs, cs, js, hvs, rfl, hxS, hjS, hnS⟩
      ·omega
      rcases id hOW with ⟨-, h0, -, -⟩ | ⟨bw, cw, jw, hvw, rfl, hxW, hjW, hnW⟩
      ·omega
      subst hvs
      subst hvw
      have fW : nth (encL iC (whn b) ++ jw) (0 + (j : Int).toNat * 1) = some (.int .i64 w0) := nth_iC hw0
      have fS : seg (encL diC (said b) ++ js) (0 + (j : Int).toNat * 2) 2 = some (diC d) := by have e1 := (List.getElem?_eq_some_iff.1 hd);rw [← e1.2];exact own_el (dis_len (fun _ _ => trivial)) js e1.1 (by omega)
      have mS : (bs, Obj.cells (encL diC (said b) ++ js).toArray 48 (0, 0)) ∈ ([[(bW, .cells (gW).toArray 22 (0, 0))], [(bS, .cells (gS).toArray 78 (0, 0))], [(bI, .cells (gI).toArray 33 (0, 0))], [(bF, .cells (gF).toArray 28 (0, 0))], [(bT, .cells (gT).toArray 26 (0, 0))], [(b6, .cells (dvC toNC).toArray 45 (0, 0))], [(bt, tobj pt len cap (k2))], eS.flatten, eW.flatten, jk] : Row).flatten := S_mem (nthO_sub heS _ (List.mem_singleton_self _))
      have mW : (bw, Obj.cells (encL iC (whn b) ++ jw).toArray 3 (0, 0)) ∈ ([[(bW, .cells (gW).toArray 22 (0, 0))], [(bS, .cells (gS).toArray 78 (0, 0))], [(bI, .cells (gI).toArray 33 (0, 0))], [(bF, .cells (gF).toArray 28 (0, 0))], [(bT, .cells (gT).toArray 26 (0, 0))], [(b6, .cells (dvC toNC).toArray 45 (0, 0))], [(bt, tobj pt len cap (k2))], eS.flatten, eW.flatten, jk] : Row).flatten := W_mem (nthO_sub heW _ (List.mem_singleton_self _))
      refine gR 4 rfl ?_
      refine g_ixS rfl rfl (by omega) (by omega) ?_
      refine g_ld1 0 rfl rfl (by with_reducible assumption) ?_
      refine gR 1 rfl ?_
      refine g_ixS rfl rfl (by omega) (by omega) ?_
      refine g_v (fun a2 w F M R r => o_loadH1 (F.e rfl) (M.at_ _ mW) fW r) ?_
      by_cases z3 : w0 < now - 3
      ·have z3t := decide_eq_true z3
       refine gR 1 rfl ?_
       refine g_sub rfl rfl (w_i64 (by omega) (by omega)) ?_
       refine gR 3 rfl ?_
       refine g_ifT rfl (decide_eq_true (by omega)) ?_
       refine gR 3 rfl ?_
       refine g_jX ?_
       refine gR 2 rfl ?_
       exact g_join ⟨i, ⟨now, seq, tab, fd, ins, said, whn⟩, k2, gT, gF, gI, gS, gW, eS, eW, jk⟩ ⟨rfl, ⟨I1, tT, tF, tI, tS, tW⟩⟩ (fun a F => F.only [5, 1, 6, 7, 8, 9, 10, 11, 12, 13, 14] rfl) (.refl _)
      have z3f := decide_eq_false z3
      refine gR 1 rfl ?_
      refine g_sub rfl rfl (w_i64 (by omega) (by omega)) ?_
      refine gR 3 rfl ?_
      refine g_ifF rfl (decide_eq_false (by omega)) ?_
      refine gR 2 rfl ?_
      obtain ⟨vT, eT, hvT, hOT, hjT⟩ := tT.at_ a (by omega)
      have hvT' : nth gT (0 + (a : Int).toNat * 1) = some vT := by rw [show (0 : Nat) + (a : Int).toNat * 1 = a by omega];exact hvT
      have hla := htl a
      obtain ⟨hl0, I2⟩ := I1.learn (a := a) (b := b) (j := j) (d := d) (w := w0) (by omega) (by omega) z2 hb1 hb2 (by dsimp only;omega) hd hw0 (by dsimp only;omega)
      dsimp only at hl0 I2
      refine gR 1 rfl ?_
      refine g_drawE 20 263 [] [15, 16, 17, 19] [(18, 16)] [] [[(bW, .cells (gW).toArray 22 (0, 0))], [(bS, .cells (gS).toArray 78 (0, 0))], [(bI, .cells (gI).toArray 33 (0, 0))], [(bF, .cells (gF).toArray 28 (0, 0))], [(bT, .cells (gT).toArray 26 (0, 0))], [(b6, .cells (dvC toNC).toArray 45 (0, 0))], [(bt, tobj pt len cap (k2))], eS.flatten, eW.flatten, jk] rfl (by kernel_rfl) (.refl _) (by simp) (fe_start ?_)
      refine fe_run 60 rfl ?_
      refine fe_v (fun a2 w F M R r => o_indexSl (F.e rfl) (F.e rfl) (by omega) (by omega) r) ?_
      refine fe_v (fun a2 w F M R r => o_loadH1 (F.e rfl) (M.at_ _ (nthO_mem (i := 4) rfl)) hvT' r) ?_
      refine fe_run 60 rfl ?_
      refine fe_v (fun a2 w F M R r => o_loadHA (F.e rfl) (M.at_ _ (nthO_mem (i := 5) rfl)) (dv_all toNC_is) r) ?_
      refine fe_run 60 rfl ?_
      refine fe_v (fun a2 w F M R r => o_conv (F.e rfl) (w_u64 (by omega) (by omega)) r) ?_
      refine fe_run 60 rfl ?_
      refine fe_v (fun a2 w F M R r => o_indexSl (F.e rfl) (F.e rfl) (by omega) (by omega) r) ?_
      refine fe_v (fun a2 w F M R r => o_loadH1 (F.e rfl) (M.at_ _ (nthO_mem (i := 1) rfl)) hvS' r) ?_
      refine fe_run 60 rfl ?_
      refine fe_v (fun a2 w F M R r => o_indexSl (F.e rfl) (F.e rfl) (by omega) (by omega) r) ?_
      refine fe_v (fun a2 w F M R r => o_loadHA (F.e rfl) (M.at_ _ mS) fS r) ?_
      refine fe_op (κ := Value × List (Nat × Obj)) (fun _ j => .tuple [j.1, .int .i64 0].toArray) (fun _ j => OwnS 53 39 j.1 (learnV (tab a) now toNC b d).1.length (rosC (learnV (tab a) now toNC b d).1) j.2) (fun _ j => j.2 :: [[(bW, .cells (gW).toArray 22 (0, 0))], [(bS, .cells (gS).toArray 78 (0, 0))], [(bI, .cells (gI).toArray 33 (0, 0))], [(bF, .cells (gF).toArray 28 (0, 0))], [(bT, .cells (gT).toArray 26 (0, 0))], [(b6, .cells (dvC toNC).toArray 45 (0, 0))], [(bt, tobj pt len cap (k2))], eS.flatten, eW.flatten, jk]) [] .t2 (fun i hi => ?_) (fun _ _ _ _ => ⟨_, _, rfl⟩) ?_
      ·exact opf_callN (fun j : Value × List (Nat × Obj) => .tuple [j.1, .int .i64 0].toArray) (fun j => OwnS 53 39 j.1 (learnV (tab a) now toNC b d).1.length (rosC (learnV (tab a) now toNC b d).1) j.2) (fun j => [j.2]) rfl rfl (fun w M => Cal.mono (learnA_c (tab a) (fun x hx => (I1.tr a x hx).1) _ now toNC toNC_is b d w (hOT.slAt M (fun q hq => jk_mem q (hjT q hq)))) fun r w' h => by
        obtain ⟨u, ent, e1, e2, N⟩ := h
        exact ⟨(u, ent), by rw [e1, hl0], e2, by simpa using N⟩)
      refine fe_ev (fun i => .tuple [i.2.1, .int .i64 0].toArray) [(15, 137)] .t2 (fun i hi => rfl) (fun _ _ _ => ⟨_, _, rfl⟩) ?_
      refine fe_ev (fun i => i.2.1) [(16, 121)] .any (fun i hi => rfl) (fun _ _ _ => trivial) ?_
      refine fe_ex 16 (.tail _ (.head _)) (by omega) ?_
      refine fe_ev (fun i => i.2.1) [(17, 138)] .any (fun i hi => rfl) (fun _ _ _ => trivial) ?_
      refine fe_fin rfl (by rintro i _ q hq;simp at hq;rcases hq with rfl | rfl | rfl | rfl <;> simp) ?_
      rintro ⟨_, v1, e1⟩ ⟨_, hO1⟩
      refine ⟨_, rfl, ?_⟩
      dsimp only at hO1 ⊢
      refine gR 17 rfl ?_
      refine g_ixS rfl rfl (by omega) (by omega) ?_
      refine g_st1 5 rfl rfl (own_one hO1) rfl (put_set (i := a) (by omega) _) rfl ?_
      refine g_rows [[(bW, .cells (gW).toArray 22 (0, 0))], [(bS, .cells (gS).toArray 78 (0, 0))], [(bI, .cells (gI).toArray 33 (0, 0))], [(bF, .cells (gF).toArray 28 (0, 0))], [(bT, .cells (gT.set a v1).toArray 26 (0, 0))], [(b6, .cells (dvC toNC).toArray 45 (0, 0))], [(bt, tobj pt len cap (k2))], eS.flatten, eW.flatten, e1 ++ jk] rows_jk ?_
      refine gR 2 rfl ?_
      exact g_join (a, ⟨i, ⟨now, seq, upd tab a (learnV (tab a) now toNC b d).1, fd, ins, said, whn⟩, k2, gT.set a v1, gF, gI, gS, gW, eS, eW, e1 ++ jk⟩) ⟨rfl, by (try dsimp only);omega, by (try dsimp only);omega, ⟨I2, tT.put (by omega) hO1 (fun q hq => List.mem_append_right _ hq) (fun q hq => List.mem_append_left _ hq), tF.mono (fun q hq => List.mem_append_right _ hq), tI.mono (fun q hq => List.mem_append_right _ hq), tS, tW⟩, fun _ => hsm a⟩ (fun a F => F.only [15, 5, 1, 6, 7, 8, 9, 10, 11, 12, 13, 14] rfl) (.refl _)
     ·have c1f : (c == 1) = false := by simp [c1]
      by_cases c2 : c = 2
      ·subst c2
       refine gR 21 rfl ?_
       have d3 := nxV_bd xs k1 (n := n) (by omega)
       obtain ⟨vT, eT, hvT, hOT, hjT⟩ := tT.at_ a (by omega)
       have hvT' : nth gT (0 + (a : Int).toNat * 1) = some vT := by rw [show (0 : Nat) + (a : Int).toNat * 1 = a by omega];exact hvT
       have I2 := I1.fewer (forget_sub (tab a) (1 + nxV xs k1 n))
       dsimp only at I2
       refine gR 1 rfl ?_
       refine g_drawE 12 263 [bt] [8, 11] [] [[(bt, tobj pt len cap (k1))]] [[(bW, .cells (gW).toArray 22 (0, 0))], [(bS, .cells (gS).toArray 78 (0, 0))], [(bI, .cells (gI).toArray 33 (0, 0))], [(bF, .cells (gF).toArray 28 (0, 0))], [(bT, .cells (gT).toArray 26 (0, 0))], [(b6, .cells (dvC toNC).toArray 45 (0, 0))], eS.flatten, eW.flatten, jk] rfl (by kernel_rfl) rows_tp (by simp) (fe_start ?_)
       refine fe_run 60 rfl ?_
       refine fe_v (fun a2 w F M R r => o_indexSl (F.e rfl) (F.e rfl) (by omega) (by omega) r) ?_
       refine fe_v (fun a2 w F M R r => o_loadH1 (F.e rfl) (M.at_ _ (nthO_mem (i := 4) rfl)) hvT' r) ?_
       refine fe_run 60 rfl ?_
       refine fe_opK (v := .int .i64 (nxV xs k1 n)) (fun _ => [[(bW, .cells (gW).toArray 22 (0, 0))], [(bS, .cells (gS).toArray 78 (0, 0))], [(bI, .cells (gI).toArray 33 (0, 0))], [(bF, .cells (gF).toArray 28 (0, 0))], [(bT, .cells (gT).toArray 26 (0, 0))], [(b6, .cells (dvC toNC).toArray 45 (0, 0))], [(bt, tobj pt len cap (nxK xs k1))], eS.flatten, eW.flatten, jk]) [] (fun i hi => ?_) ?_
       ·exact opf_callK 6 rfl rfl rfl (.head _) (fun w M => next_c n (by omega) (by omega) w (hT.later M.ext.any) (M.at_ _ (nthO_mem (i := 6) rfl))) rfl
       refine fe_v (fun a2 w F M R r => o_add (F.e rfl) (F.e rfl) (w_i64 (by omega) (by omega)) r) ?_
       refine fe_v (fun a2 w F M R r => o_conv (F.e rfl) (w_u64 (by omega) (by omega)) r) ?_
       refine fe_op (κ := Value × List (Nat × Obj)) (fun _ j => j.1) (fun _ j => OwnS 53 39 j.1 (forgetV (tab a) (1 + nxV xs k1 n)).length (rosC (forgetV (tab a) (1 + nxV xs k1 n))) j.2) (fun _ j => j.2 :: [[(bW, .cells (gW).toArray 22 (0, 0))], [(bS, .cells (gS).toArray 78 (0, 0))], [(bI, .cells (gI).toArray 33 (0, 0))], [(bF, .cells (gF).toArray 28 (0, 0))], [(bT, .cells (gT).toArray 26 (0, 0))], [(b6, .cells (dvC toNC).toArray 45 (0, 0))], [(bt, tobj pt len cap (nxK xs k1))], eS.flatten, eW.flatten, jk]) [] .any (fun i hi => ?_) (fun _ _ _ _ => trivial) ?_
       ·exact opf_callN (fun j : Value × List (Nat × Obj) => j.1) (fun j => OwnS 53 39 j.1 (forgetV (tab a) (1 + nxV xs k1 n)).length (rosC (forgetV (tab a) (1 + nxV xs k1 n))) j.2) (fun j => [j.2]) rfl rfl (fun w M => Cal.mono (forget_c (tab a) (fun x hx => (I1.tr a x hx).1) _ _ w (hOT.slAt M (fun q hq => jk_mem q (hjT q hq)))) fun r w' h => by
         obtain ⟨ent, e2, N⟩ := h
         exact ⟨(r, ent), rfl, e2, by simpa using N⟩)
       refine fe_fin rfl (by rintro i _ q hq;simp at hq;subst hq;simp) ?_
       rintro ⟨_, v1, e1⟩ ⟨_, hO1⟩
       refine ⟨_, rfl, ?_⟩
       dsimp only at hO1 ⊢
       refine g_ixS rfl rfl (by omega) (by omega) ?_
       refine g_st1 5 rfl rfl (own_one hO1) rfl (put_set (i := a) (by omega) _) rfl ?_
       refine g_rows [[(bW, .cells (gW).toArray 22 (0, 0))], [(bS, .cells (gS).toArray 78 (0, 0))], [(bI, .cells (gI).toArray 33 (0, 0))], [(bF, .cells (gF).toArray 28 (0, 0))], [(bT, .cells (gT.set a v1).toArray 26 (0, 0))], [(b6, .cells (dvC toNC).toArray 45 (0, 0))], [(bt, tobj pt len cap (nxK xs k1))], eS.flatten, eW.flatten, e1 ++ jk] rows_jk ?_
       refine gR 2 rfl ?_
       exact g_join (a, ⟨i, ⟨now, seq, upd tab a (forgetV (tab a) (1 + nxV xs k1 n)), fd, ins, said, whn⟩, nxK xs k1, gT.set a v1, gF, gI, gS, gW, eS, eW, e1 ++ jk⟩) ⟨rfl, by (try dsimp only);omega, by (try dsimp only);omega, ⟨I2, tT.put (by omega) hO1 (fun q hq => List.mem_append_right _ hq) (fun q hq => List.mem_append_left _ hq), tF.mono (fun q hq => List.mem_append_right _ hq), tI.mono (fun q hq => List.mem_append_right _ hq), tS, tW⟩, fun _ => hsm a⟩ (fun a F => F.only [15, 5, 1, 6, 7, 8, 9, 10, 11, 12, 13, 14] rfl) (.refl _)
      ·have c2f : (c == 2) = false := by simp [c2]
       refine gR 6 rfl ?_
       refine g_ifF rfl (decide_eq_false (by omega)) ?_
       refine gR 6 rfl ?_
       refine g_ifF rfl (decide_eq_false (by omega)) ?_
       refine gR 6 rfl ?_
       refine g_ifF rfl (decide_eq_false (by omega)) ?_
       refine gR 2 rfl ?_
       exact g_join (a, ⟨i, ⟨now, seq, tab, fd, ins, said, whn⟩, k1, gT, gF, gI, gS, gW, eS, eW, jk⟩) ⟨rfl, by (try dsimp only);omega, by (try dsimp only);omega, ⟨I1.skip a, tT, tF, tI, tS, tW⟩, fun _ => hsm a⟩ (fun a F => F.only [15, 5, 1, 6, 7, 8, 9, 10, 11, 12, 13, 14] rfl) (.refl _)
   ·rintro ⟨a, ⟨i2, ⟨now, seq, tab, fd, ins, said, whn⟩, k, gT, gF, gI, gS, gW, eS, eW, jk⟩⟩ ⟨-, ha1, ha2, P2, hsma⟩
    obtain ⟨I1, tT, tF, tI, tS, tW⟩ := P2
    dsimp only at hsma ha1 ha2 I1 tT tF tI tS tW ⊢
    have hm0 := I1.now0
    have hm1 := I1.now1
    have hsl := I1.sl
    have htl := I1.tl
    dsimp only at hm0 hm1 hsl htl
    have lT := tT.len
    have lF := tF.len
    have lI := tI.len
    have lS := tS.len
    have lW := tW.len
    have hi60 : i + 1 ≤ 60 := by omega
    by_cases a1 : a = 1
    ·have z2t : ((a : Int) == 1) = true := by simp [a1]
     rw [a1] at I1
     refine gR 8 rfl ?_
     refine g_ifT rfl (decide_eq_true (by omega)) ?_
     refine gR 3 rfl ?_
     exact g_join ⟨i, ⟨now, seq, tab, fd, ins, said, whn⟩, k, gT, gF, gI, gS, gW, eS, eW, jk⟩ ⟨rfl, ⟨I1.one, tT, tF, tI, tS, tW⟩⟩ (fun a F => F.only [5, 1, 6, 7, 8, 9, 10, 11, 12, 13, 14] rfl) (.refl _)
    have z2f : ((a : Int) == 1) = false := by simp;omega
    replace hsma := hsma a1
    obtain ⟨vF, eF, hvF, hOF, hjF⟩ := tF.at_ a (by omega)
    have hvF' : nth gF (0 + (a : Int).toNat * 1) = some vF := by rw [show (0 : Nat) + (a : Int).toNat * 1 = a by omega];exact hvF
    refine gR 8 rfl ?_
    refine g_ifF rfl (decide_eq_false (by omega)) ?_
    refine gR 8 rfl ?_
    refine g_ixS rfl rfl (by omega) (by omega) ?_
    refine g_ld1 3 rfl rfl (by with_reducible assumption) ?_
    refine gR 1 rfl ?_
    refine g_callN (fun j : Value × List (Nat × Obj) => j.1) (fun j => OwnS 133 38 j.1 (sexpV (fd a) now).length (srsC (sexpV (fd a) now)) j.2) (fun j => [j.2]) rfl rfl (fun w M => Cal.mono (sexpire_c (fd a) (fun x hx => (I1.fr a x hx).1) _ now w (hOF.slAt M (fun q hq => jk_mem q (hjF q hq)))) fun r w' h => by
     obtain ⟨ent, e2, N⟩ := h
     exact ⟨(r, ent), rfl, e2, by simpa using N⟩) ?_
    rintro ⟨v6, e6⟩ hO6
    dsimp only at hO6 ⊢
    refine g_ixS rfl rfl (by omega) (by omega) ?_
    refine g_st1 4 rfl rfl (own_one hO6) rfl (put_set (i := a) (by omega) _) rfl ?_
    refine g_rows [[(bW, .cells (gW).toArray 22 (0, 0))], [(bS, .cells (gS).toArray 78 (0, 0))], [(bI, .cells (gI).toArray 33 (0, 0))], [(bF, .cells (gF.set a v6).toArray 28 (0, 0))], [(bT, .cells (gT).toArray 26 (0, 0))], [(b6, .cells (dvC toNC).toArray 45 (0, 0))], [(bt, tobj pt len cap (k))], eS.flatten, eW.flatten, e6 ++ jk] rows_jk ?_
    have I2 := I1.expire hi60 a
    dsimp only at I2
    have hvF2 : nth (gF.set a v6) (0 + (a : Int).toNat * 1) = some v6 := by rw [show (0 : Nat) + (a : Int).toNat * 1 = a by omega, nth_set (by omega), if_pos rfl]
    obtain ⟨vT, eT, hvT, hOT, hjT⟩ := tT.at_ a (by omega)
    have hvT' : nth gT (0 + (a : Int).toNat * 1) = some vT := by rw [show (0 : Nat) + (a : Int).toNat * 1 = a by omega];exact hvT
    obtain ⟨vI, eI, hvI, hOI, hjI⟩ := tI.at_ a (by omega)
    have hvI' : nth gI (0 + (a : Int).toNat * 1) = some vI := by rw [show (0 : Nat) + (a : Int).toNat * 1 = a by omega];exact hvI
    have hc : ∀ e ∈ sexpV (fd a) now, now < e.til := fun e he => by
     unfold sexpV at he
     split at he
     ·have := (List.mem_filter.1 he).2
      simpa using this
     ·cases he
    have hsel := fun o (ho : validOs o = true) => I2.select hi60 a1 (by omega) (by dsimp only;rw [upd_same];exact hc) ho
    simp only [upd_same] at hsel
    have hexp : ∀ x ∈ expireV (tab a) now, IsRo x := fun x hx => by
     rw [expire_val (I1.tv a) (I1.time hi60)] at hx
     exact (I1.tr a x (List.mem_filter.1 hx).1).1
    have hfx : ∀ x ∈ sexpV (fd a) now, IsSr x := fun x hx => (I2.fr a x (by dsimp only;rw [upd_same];exact hx)).1
    refine gR 2 rfl ?_
    refine gR 1 rfl ?_
    refine g_drawE 24 263 [bt] [6, 14, 19, 20, 21, 23] [(22, 20)] [[(bt, tobj pt len cap (k))]] [[(bW, .cells (gW).toArray 22 (0, 0))], [(bS, .cells (gS).toArray 78 (0, 0))], [(bI, .cells (gI).toArray 33 (0, 0))], [(bF, .cells (gF.set a v6).toArray 28 (0, 0))], [(bT, .cells (gT).toArray 26 (0, 0))], [(b6, .cells (dvC toNC).toArray 45 (0, 0))], eS.flatten, eW.flatten, e6 ++ jk] rfl (by kernel_rfl) rows_tp (by simp) (fe_start ?_)
    refine fe_run 60 rfl ?_
    refine fe_v (fun a2 w F M R r => o_indexSl (F.e rfl) (F.e rfl) (by omega) (by omega) r) ?_
    refine fe_v (fun a2 w F M R r => o_loadH1 (F.e rfl) (M.at_ _ (nthO_mem (i := 4) rfl)) hvT' r) ?_
    refine fe_run 60 rfl ?_
    refine fe_op (κ := Value × List (Nat × Obj)) (fun _ j => j.1) (fun _ j => OwnS 53 39 j.1 (expireV (tab a) now).length (rosC (expireV (tab a) now)) j.2) (fun _ j => j.2 :: [[(bW, .cells (gW).toArray 22 (0, 0))], [(bS, .cells (gS).toArray 78 (0, 0))], [(bI, .cells (gI).toArray 33 (0, 0))], [(bF, .cells (gF.set a v6).toArray 28 (0, 0))], [(bT, .cells (gT).toArray 26 (0, 0))], [(b6, .cells (dvC toNC).toArray 45 (0, 0))], [(bt, tobj pt len cap (k))], eS.flatten, eW.flatten, e6 ++ jk]) [] .any (fun i hi => ?_) (fun _ _ _ _ => trivial) ?_
    ·exact opf_callN (fun j : Value × List (Nat × Obj) => j.1) (fun j => OwnS 53 39 j.1 (expireV (tab a) now).length (rosC (expireV (tab a) now)) j.2) (fun j => [j.2]) rfl rfl (fun w M => Cal.mono (expire_c (tab a) (fun x hx => (I1.tr a x hx).1) _ now w (hOT.slAt M (fun q hq => jk_mem q (List.mem_append_right _ (hjT q hq))))) fun r w' h => by
      obtain ⟨ent, e2, N⟩ := h
      exact ⟨(r, ent), rfl, e2, by simpa using N⟩)
    refine fe_run 60 rfl ?_
    refine fe_v (fun a2 w F M R r => o_indexSl (F.e rfl) (F.e rfl) (by omega) (by omega) r) ?_
    refine fe_v (fun a2 w F M R r => o_loadH1 (F.e rfl) (M.at_ _ (nthO_mem (i := 3) rfl)) hvF2 r) ?_
    refine fe_run 60 rfl ?_
    refine fe_op (κ := Value × List OptV × Nat × List (Nat × Obj)) (fun _ j => j.1) (fun _ j => validOs j.2.1 = true ∧ OwnS 55 2 j.1 j.2.1.length (opsC j.2.1) j.2.2.2) (fun i j => j.2.2.2 :: i.2.2 :: [[(bW, .cells (gW).toArray 22 (0, 0))], [(bS, .cells (gS).toArray 78 (0, 0))], [(bI, .cells (gI).toArray 33 (0, 0))], [(bF, .cells (gF.set a v6).toArray 28 (0, 0))], [(bT, .cells (gT).toArray 26 (0, 0))], [(b6, .cells (dvC toNC).toArray 45 (0, 0))], [(bt, tobj pt len cap (j.2.2.1))], eS.flatten, eW.flatten, e6 ++ jk]) [] .any (fun i hi => ?_) (fun _ _ _ _ => trivial) ?_
    ·exact opf_callT 7 (fun j : Value × List OptV × Nat × List (Nat × Obj) => j.1) (fun j => validOs j.2.1 = true ∧ OwnS 55 2 j.1 j.2.1.length (opsC j.2.1) j.2.2.2) (fun j => tobj pt len cap j.2.2.1) (fun j => [j.2.2.2]) rfl rfl rfl (.head _) (fun w M => Cal.mono (links_c n a hn5 w (hT.later M.ext.any) (M.at_ _ (nthO_mem (i := 7) rfl))) fun r w' h => by
      obtain ⟨o, k', ent, q1, q2, N⟩ := h
      exact ⟨(r, o, k', ent), rfl, ⟨q1, q2⟩, by simpa using N⟩) (fun _ => rfl)
    refine fe_run 60 rfl ?_
    refine fe_v (fun a2 w F M R r => o_indexSl (F.e rfl) (F.e rfl) (by omega) (by omega) r) ?_
    refine fe_v (fun a2 w F M R r => o_loadH1 (F.e rfl) (M.at_ _ (nthO_mem (i := 2) rfl)) hvI' r) ?_
    refine fe_run 60 rfl ?_
    refine fe_op (κ := Value × List (Nat × Obj)) (fun _ j => .tuple [j.1, .int .i64 0].toArray) (fun i j => OwnS 50 40 j.1 (selectV now (expireV (tab a) now) (sexpV (fd a) now) i.2.2.1 (ins a)).1.length (insC (selectV now (expireV (tab a) now) (sexpV (fd a) now) i.2.2.1 (ins a)).1) j.2) (fun i j => j.2 :: i.2.2.2.2 :: i.1.2.2 :: [[(bW, .cells (gW).toArray 22 (0, 0))], [(bS, .cells (gS).toArray 78 (0, 0))], [(bI, .cells (gI).toArray 33 (0, 0))], [(bF, .cells (gF.set a v6).toArray 28 (0, 0))], [(bT, .cells (gT).toArray 26 (0, 0))], [(b6, .cells (dvC toNC).toArray 45 (0, 0))], [(bt, tobj pt len cap (i.2.2.2.1))], eS.flatten, eW.flatten, e6 ++ jk]) [(6, 179), (14, 187)] .t2 (fun i hi => ?_) (fun _ _ _ _ => ⟨_, _, rfl⟩) ?_
    ·exact opf_callN (fun j : Value × List (Nat × Obj) => .tuple [j.1, .int .i64 0].toArray) (fun j => OwnS 50 40 j.1 (selectV now (expireV (tab a) now) (sexpV (fd a) now) i.2.2.1 (ins a)).1.length (insC (selectV now (expireV (tab a) now) (sexpV (fd a) now) i.2.2.1 (ins a)).1) j.2) (fun j => [j.2]) rfl rfl (fun w M => Cal.mono (select_c now _ hexp _ hfx i.2.2.1 (ins a) (fun x hx => (I1.ir a x hx).1) _ _ _ _ w (hi.1.2.slAt M (fun q hq => List.mem_append_right _ (List.mem_append_left _ hq))) (hO6.slAt M (fun q hq => List.mem_append_right _ (List.mem_append_right _ (jk_mem q (List.mem_append_left _ hq))))) (hi.2.2.slAt M (fun q hq => List.mem_append_left _ hq)) (hOI.slAt M (fun q hq => List.mem_append_right _ (List.mem_append_right _ (jk_mem q (List.mem_append_right _ (hjI q hq))))))) fun r w' h => by
      obtain ⟨u, ent, e1, e2, N⟩ := h
      exact ⟨(u, ent), by rw [e1, (hsel i.2.2.1 hi.2.1).1], e2, by simpa using N⟩)
    refine fe_ev (fun i => .tuple [i.2.1, .int .i64 0].toArray) [(19, 192)] .t2 (fun i hi => rfl) (fun _ _ _ => ⟨_, _, rfl⟩) ?_
    refine fe_ev (fun i => i.2.1) [(20, 172)] .any (fun i hi => rfl) (fun _ _ _ => trivial) ?_
    refine fe_ex 20 (.tail _ (.head _)) (by omega) ?_
    refine fe_ev (fun i => i.2.1) [(21, 193)] .any (fun i hi => rfl) (fun _ _ _ => trivial) ?_
    refine fe_fin rfl (by rintro i _ q hq;simp at hq;rcases hq with rfl | rfl | rfl | rfl | rfl | rfl <;> simp) ?_
    rintro ⟨⟨⟨_, v2, e2⟩, v3, o, k2, e3⟩, v4, e4⟩ ⟨⟨⟨_, hO2⟩, ho, hO3⟩, hO4⟩
    refine ⟨_, rfl, ?_⟩
    dsimp only at ho hO2 hO3 hO4 ⊢
    obtain ⟨-, I3, S3⟩ := hsel o ho
    obtain ⟨xl, hxl⟩ : ∃ xl, (selectV now (expireV (tab a) now) (sexpV (fd a) now) o (ins a)).1 = xl := ⟨_, rfl⟩
    rw [hxl] at hO4 I3 S3
    clear hxl hsel hO2 hO3 hexp hc
    refine gR 18 rfl ?_
    refine g_ixS rfl rfl (by omega) (by omega) ?_
    refine g_st1 5 rfl rfl (own_one hO4) rfl (put_set (i := a) (by omega) _) rfl ?_
    refine g_rows [[(bW, .cells (gW).toArray 22 (0, 0))], [(bS, .cells (gS).toArray 78 (0, 0))], [(bI, .cells (gI.set a v4).toArray 33 (0, 0))], [(bF, .cells (gF.set a v6).toArray 28 (0, 0))], [(bT, .cells (gT).toArray 26 (0, 0))], [(b6, .cells (dvC toNC).toArray 45 (0, 0))], [(bt, tobj pt len cap (k2))], eS.flatten, eW.flatten, e4 ++ (e6 ++ jk)] rows_jk2 ?_
    have uT := tT.mono (jk' := e4 ++ (e6 ++ jk)) (fun q hq => List.mem_append_right _ (List.mem_append_right _ (hq)))
    have uF := (tF.put (a := a) (by omega) hO6 (fun q hq => List.mem_append_right _ hq) (fun q hq => List.mem_append_left _ hq)).mono (jk' := e4 ++ (e6 ++ jk)) (fun q hq => List.mem_append_right _ hq)
    have uI := tI.put (a := a) (jk' := e4 ++ (e6 ++ jk)) (by omega) hO4 (fun q hq => List.mem_append_right _ (List.mem_append_right _ (hq))) (fun q hq => List.mem_append_left _ hq)
    refine gR 3 rfl ?_
    refine g_cutC (ι := LS) ⟨fun y => LP n N (i + 1) 0 y, fun y => [(5, .pointer (some ⟨bt, 0, none⟩)), (1, .int .i64 n), (6, .pointer (some ⟨b6, 0, none⟩)), (7, .slice (some ⟨bT, 0, none⟩) N N), (8, .slice (some ⟨bF, 0, none⟩) N N), (9, .slice (some ⟨bI, 0, none⟩) N N), (10, .slice (some ⟨bS, 0, none⟩) N N), (11, .slice (some ⟨bW, 0, none⟩) N N), (12, .int .u16 (y.s.seq)), (13, .int .i64 (y.s.now)), (14, .int .i64 i)], fun y => [[(bW, .cells (y.hW).toArray 22 (0, 0))], [(bS, .cells (y.hS).toArray 78 (0, 0))], [(bI, .cells (y.hI).toArray 33 (0, 0))], [(bF, .cells (y.hF).toArray 28 (0, 0))], [(bT, .cells (y.hT).toArray 26 (0, 0))], [(b6, .cells (dvC toNC).toArray 45 (0, 0))], [(bt, tobj pt len cap (y.k))], y.eS.flatten, y.eW.flatten, y.jk]⟩ ?_ ?_
    ·by_cases hone : xl.length = 1
     ·obtain ⟨y, rfl⟩ := List.length_eq_one_iff.1 hone
      have z3t : ((([y] : List InsV).length : Int) == 1) = true := rfl
      have hyI : IsIn y := (I3.ir a y (by dsimp only;rw [upd_same];simp)).1
      rcases id hO4 with ⟨-, h0, -, -⟩ | ⟨b4, c4, j4, hv4, rfl, hx4, hj4, hn4⟩
      ·cases h0
      subst hv4
      have f4 : seg (insC [y] ++ j4) (0 + (0 : Int).toNat * 40) 40 = some (inC y) := own_el (ls := [y]) (fun x hx => by simp at hx;subst hx;exact in_len hyI) j4 (i := 0) (by simp) (by simp)
      have f5 : seg (insC [y] ++ j4) (0 + (0 : Int).toNat * 40 + 36) 2 = some (diC y.own) := sg_seg f4 (in_own hyI) rfl
      have m4 : ∀ kk, (b4, Obj.cells (insC [y] ++ j4).toArray 50 (0, 0)) ∈ ([[(bW, .cells (gW).toArray 22 (0, 0))], [(bS, .cells (gS).toArray 78 (0, 0))], [(bI, .cells (gI.set a (.slice (some ⟨b4, 0, none⟩) [y].length c4)).toArray 33 (0, 0))], [(bF, .cells (gF.set a v6).toArray 28 (0, 0))], [(bT, .cells (gT).toArray 26 (0, 0))], [(b6, .cells (dvC toNC).toArray 45 (0, 0))], [(bt, tobj pt len cap (kk))], eS.flatten, eW.flatten, [(b4, Obj.cells (insC [y] ++ j4).toArray 50 (0, 0))] ++ (e6 ++ jk)] : Row).flatten := fun kk => jk_mem _ (List.mem_append_left _ (by simp))
      refine gR 7 rfl ?_
      refine g_ixS rfl rfl (by omega) (by omega) ?_
      refine g_v (fun a2 w F M R r => o_loadHA (F.e rfl) (M.at_ _ (m4 k2)) f4 r) ?_
      by_cases hr : y.nb = 0
      ·have r1 : (!decide (y.nb = 0)) = false := by simp [hr]
       refine g_call rfl rfl (fun w M => refreach_c _ ‹_› _) ?_
       refine gR 2 rfl ?_
       refine g_know 210 rfl (bneF (by omega)) ?_
       refine gR 7 rfl ?_
       exact g_join ⟨i, ⟨now, seq, tab, upd fd a (sexpV (fd a) now), upd ins a [y], said, whn⟩, k2, gT, gF.set a v6, gI.set a (.slice (some ⟨b4, 0, none⟩) [y].length c4), gS, gW, eS, eW, [(b4, Obj.cells (insC [y] ++ j4).toArray 50 (0, 0))] ++ (e6 ++ jk)⟩ (LP.mk (I3) (uT) (uF) (uI) (tS) (tW)) (fun a F => F.only [5, 1, 6, 7, 8, 9, 10, 11, 12, 13, 14] rfl) (.refl _)
      have r1 : (!decide (y.nb = 0)) = true := by simp [hr]
      cases hbo : boolV xs k2 2
      ·refine g_call rfl rfl (fun w M => refreach_c _ ‹_› _) ?_
       refine gR 2 rfl ?_
       refine g_know 210 rfl ‹_› ?_
       refine gR 1 rfl ?_
       refine g_callT1 6 rfl rfl rfl (fun w M => bool_c _ (by omega) (by omega) w (hT.later M.ext.any) (M.at_ _ (nthO_mem (i := 6) rfl))) rfl ?_
       refine gR 3 rfl ?_
       refine g_ifF rfl ‹_› ?_
       refine gR 1 rfl ?_
       exact g_join ⟨i, ⟨now, seq, tab, upd fd a (sexpV (fd a) now), upd ins a [y], said, whn⟩, nxK xs k2, gT, gF.set a v6, gI.set a (.slice (some ⟨b4, 0, none⟩) [y].length c4), gS, gW, eS, eW, [(b4, Obj.cells (insC [y] ++ j4).toArray 50 (0, 0))] ++ (e6 ++ jk)⟩ (LP.mk (I3) (uT) (uF) (uI) (tS) (tW)) (fun a F => F.only [5, 1, 6, 7, 8, 9, 10, 11, 12, 13, 14] rfl) (.refl _)
      have hrec := I3.record S3 hi60 (x := y) (by dsimp only;rw [upd_same];simp) hr (by dsimp only;omega)
      simp only [upd_same] at hrec
      refine g_call rfl rfl (fun w M => refreach_c _ ‹_› _) ?_
      refine gR 2 rfl ?_
      refine g_know 210 rfl ‹_› ?_
      refine gR 1 rfl ?_
      refine g_callT1 6 rfl rfl rfl (fun w M => bool_c _ (by omega) (by omega) w (hT.later M.ext.any) (M.at_ _ (nthO_mem (i := 6) rfl))) rfl ?_
      refine gR 3 rfl ?_
      refine g_ifT rfl ‹_› ?_
      refine gR 1 rfl ?_
      refine g_drawE 15 263 [] [10, 11, 12, 14] [(13, 11)] [] [[(bW, .cells (gW).toArray 22 (0, 0))], [(bS, .cells (gS).toArray 78 (0, 0))], [(bI, .cells (gI.set a (.slice (some ⟨b4, 0, none⟩) [y].length c4)).toArray 33 (0, 0))], [(bF, .cells (gF.set a v6).toArray 28 (0, 0))], [(bT, .cells (gT).toArray 26 (0, 0))], [(b6, .cells (dvC toNC).toArray 45 (0, 0))], [(bt, tobj pt len cap (nxK xs k2))], eS.flatten, eW.flatten, [(b4, Obj.cells (insC [y] ++ j4).toArray 50 (0, 0))] ++ (e6 ++ jk)] rfl (by kernel_rfl) (.refl _) (by simp) (fe_start ?_)
      refine fe_run 60 rfl ?_
      refine fe_v (fun a2 w F M R r => o_indexSl (F.e rfl) (F.e rfl) (by omega) (by omega) r) ?_
      refine fe_v (fun a2 w F M R r => o_loadH1 (F.e rfl) (M.at_ _ (nthO_mem (i := 3) rfl)) hvF2 r) ?_
      refine fe_run 60 rfl ?_
      refine fe_v (fun a2 w F M R r => o_loadHA (F.e rfl) (M.at_ _ (nthO_mem (i := 5) rfl)) (hdv) r) ?_
      refine fe_run 60 rfl ?_
      refine fe_v (fun a2 w F M R r => o_indexSl (F.e rfl) (F.e rfl) (by omega) (by simp) r) ?_
      refine fe_run 60 rfl ?_
      refine fe_v (fun a2 w F M R r => o_loadHA (F.e rfl) (M.at_ _ (m4 (nxK xs k2))) f5 r) ?_
      refine fe_op (κ := Value × List (Nat × Obj)) (fun _ j => .tuple [j.1, .int .i64 0].toArray) (fun _ j => OwnS 133 38 j.1 (recordV (sexpV (fd a) now) now toNC y.own).1.length (srsC (recordV (sexpV (fd a) now) now toNC y.own).1) j.2) (fun _ j => j.2 :: [[(bW, .cells (gW).toArray 22 (0, 0))], [(bS, .cells (gS).toArray 78 (0, 0))], [(bI, .cells (gI.set a (.slice (some ⟨b4, 0, none⟩) [y].length c4)).toArray 33 (0, 0))], [(bF, .cells (gF.set a v6).toArray 28 (0, 0))], [(bT, .cells (gT).toArray 26 (0, 0))], [(b6, .cells (dvC toNC).toArray 45 (0, 0))], [(bt, tobj pt len cap (nxK xs k2))], eS.flatten, eW.flatten, [(b4, Obj.cells (insC [y] ++ j4).toArray 50 (0, 0))] ++ (e6 ++ jk)]) [] .t2 (fun i hi => ?_) (fun _ _ _ _ => ⟨_, _, rfl⟩) ?_
      ·exact opf_callN (fun j : Value × List (Nat × Obj) => .tuple [j.1, .int .i64 0].toArray) (fun j => OwnS 133 38 j.1 (recordV (sexpV (fd a) now) now toNC y.own).1.length (srsC (recordV (sexpV (fd a) now) now toNC y.own).1) j.2) (fun j => [j.2]) rfl rfl (fun w M => Cal.mono (rrecord_c _ hfx _ now toNC toNC_is y.own w (hO6.slAt M (fun q hq => jk_mem q (List.mem_append_right _ (List.mem_append_left _ hq))))) fun r w' h => by
        obtain ⟨u, ent, e1, e2, N⟩ := h
        exact ⟨(u, ent), by rw [e1, hrec.1], e2, by simpa using N⟩)
      refine fe_ev (fun i => .tuple [i.2.1, .int .i64 0].toArray) [(10, 225)] .t2 (fun i hi => rfl) (fun _ _ _ => ⟨_, _, rfl⟩) ?_
      refine fe_ev (fun i => i.2.1) [(11, 214)] .any (fun i hi => rfl) (fun _ _ _ => trivial) ?_
      refine fe_ex 11 (.tail _ (.head _)) (by omega) ?_
      refine fe_ev (fun i => i.2.1) [(12, 226)] .any (fun i hi => rfl) (fun _ _ _ => trivial) ?_
      refine fe_fin rfl (by rintro i _ q hq;simp at hq;rcases hq with rfl | rfl | rfl | rfl <;> simp) ?_
      rintro ⟨_, v5, e5⟩ ⟨_, hO5⟩
      refine ⟨_, rfl, ?_⟩
      dsimp only at hO5 ⊢
      refine gR 18 rfl ?_
      refine g_ixS rfl rfl (by omega) (by omega) ?_
      refine g_st1 4 rfl rfl (own_one hO5) rfl (put_set (i := a) (by rw [List.length_set];omega) _) rfl ?_
      refine g_rows [[(bW, .cells (gW).toArray 22 (0, 0))], [(bS, .cells (gS).toArray 78 (0, 0))], [(bI, .cells (gI.set a (.slice (some ⟨b4, 0, none⟩) [y].length c4)).toArray 33 (0, 0))], [(bF, .cells ((gF.set a v6).set a v5).toArray 28 (0, 0))], [(bT, .cells (gT).toArray 26 (0, 0))], [(b6, .cells (dvC toNC).toArray 45 (0, 0))], [(bt, tobj pt len cap (nxK xs k2))], eS.flatten, eW.flatten, e5 ++ ([(b4, Obj.cells (insC [y] ++ j4).toArray 50 (0, 0))] ++ (e6 ++ jk))] rows_jk ?_
      have uT5 := uT.mono (jk' := e5 ++ ([(b4, Obj.cells (insC [y] ++ j4).toArray 50 (0, 0))] ++ (e6 ++ jk))) (fun q hq => List.mem_append_right _ hq)
      have uI5 := uI.mono (jk' := e5 ++ ([(b4, Obj.cells (insC [y] ++ j4).toArray 50 (0, 0))] ++ (e6 ++ jk))) (fun q hq => List.mem_append_right _ hq)
      have uF5 := uF.put (a := a) (jk' := e5 ++ ([(b4, Obj.cells (insC [y] ++ j4).toArray 50 (0, 0))] ++ (e6 ++ jk))) (by omega) hO5 (fun q hq => List.mem_append_right _ hq) (fun q hq => List.mem_append_left _ hq)
      have hsla := hsl a
      obtain ⟨vS, enS, hvS, heS, hOS⟩ := tS.at_ a (by omega)
      obtain ⟨vW, enW, hvW, heW, hOW⟩ := tW.at_ a (by omega)
      obtain ⟨pS, pS2⟩ := flat_out heS
      obtain ⟨pW, pW2⟩ := flat_out heW
      generalize (eS.eraseIdx a).flatten = rS at pS pS2
      generalize (eW.eraseIdx a).flatten = rW at pW pW2
      replace hvS : nth gS (0 + (a : Int).toNat * 1) = some vS := by rw [show (0 : Nat) + (a : Int).toNat * 1 = a by omega];exact hvS
      replace hvW : nth gW (0 + (a : Int).toNat * 1) = some vW := by rw [show (0 : Nat) + (a : Int).toNat * 1 = a by omega];exact hvW
      have m5 : ∀ rS rW : List (Nat × Obj), (b4, Obj.cells (insC [y] ++ j4).toArray 50 (0, 0)) ∈ ([[(bW, .cells (gW).toArray 22 (0, 0))], [(bI, .cells (gI.set a (.slice (some ⟨b4, 0, none⟩) [y].length c4)).toArray 33 (0, 0))], [(bF, .cells ((gF.set a v6).set a v5).toArray 28 (0, 0))], [(bT, .cells (gT).toArray 26 (0, 0))], [(b6, .cells (dvC toNC).toArray 45 (0, 0))], [(bt, tobj pt len cap (nxK xs k2))], rS, rW, e5 ++ ([(b4, Obj.cells (insC [y] ++ j4).toArray 50 (0, 0))] ++ (e6 ++ jk))] : Row).flatten := fun rS rW => List.mem_flatten_of_mem (l := e5 ++ ([(b4, Obj.cells (insC [y] ++ j4).toArray 50 (0, 0))] ++ (e6 ++ jk))) (by simp) (List.mem_append_right _ (List.mem_append_left _ (by simp)))
      refine gR 2 rfl ?_
      refine g_rows [enS, enW, [(bS, .cells (gS).toArray 78 (0, 0))], [(bW, .cells (gW).toArray 22 (0, 0))], [(bI, .cells (gI.set a (.slice (some ⟨b4, 0, none⟩) [y].length c4)).toArray 33 (0, 0))], [(bF, .cells ((gF.set a v6).set a v5).toArray 28 (0, 0))], [(bT, .cells (gT).toArray 26 (0, 0))], [(b6, .cells (dvC toNC).toArray 45 (0, 0))], [(bt, tobj pt len cap (nxK xs k2))], rS, rW, e5 ++ ([(b4, Obj.cells (insC [y] ++ j4).toArray 50 (0, 0))] ++ (e6 ++ jk))] ⟨_, rows_out pS pW, .refl _⟩ ?_
      refine gR 1 rfl ?_
      refine g_drawE 23 263 (bS :: (enS.map (·.1) ++ enW.map (·.1))) [7, 13, 20, 22] [] [enS, enW, [(bS, .cells (gS).toArray 78 (0, 0))]] [[(bW, .cells (gW).toArray 22 (0, 0))], [(bI, .cells (gI.set a (.slice (some ⟨b4, 0, none⟩) [y].length c4)).toArray 33 (0, 0))], [(bF, .cells ((gF.set a v6).set a v5).toArray 28 (0, 0))], [(bT, .cells (gT).toArray 26 (0, 0))], [(b6, .cells (dvC toNC).toArray 45 (0, 0))], [(bt, tobj pt len cap (nxK xs k2))], rS, rW, e5 ++ ([(b4, Obj.cells (insC [y] ++ j4).toArray 50 (0, 0))] ++ (e6 ++ jk))] rfl (by kernel_rfl) (by rw [← List.flatten_append];exact .refl _) B_in (fe_start ?_)
      refine fe_run 60 rfl ?_
      refine fe_v (fun a2 w F M R r => o_indexSl (F.e rfl) (F.e rfl) (by omega) (by omega) r) ?_
      refine fe_opK (v := vS) (fun _ => [enS, enW, [(bS, .cells (gS).toArray 78 (0, 0))], [(bW, .cells (gW).toArray 22 (0, 0))], [(bI, .cells (gI.set a (.slice (some ⟨b4, 0, none⟩) [y].length c4)).toArray 33 (0, 0))], [(bF, .cells ((gF.set a v6).set a v5).toArray 28 (0, 0))], [(bT, .cells (gT).toArray 26 (0, 0))], [(b6, .cells (dvC toNC).toArray 45 (0, 0))], [(bt, tobj pt len cap (nxK xs k2))], rS, rW, e5 ++ ([(b4, Obj.cells (insC [y] ++ j4).toArray 50 (0, 0))] ++ (e6 ++ jk))]) [] (fun i hi => ?_) ?_
      ·exact fun a w F M _ => o_loadH1 (F.e rfl) (M.at_ _ (nthO_mem (i := 2) rfl)) hvS ⟨Ext.refl _ _, _, ⟨rfl, rfl⟩, M⟩
      refine fe_run 60 rfl ?_
      refine fe_run 60 rfl ?_
      refine fe_v (fun a2 w F M R r => o_indexSl (F.e rfl) (F.e rfl) (by omega) (by simp) r) ?_
      refine fe_run 60 rfl ?_
      refine fe_v (fun a2 w F M R r => o_loadHA (F.e rfl) (M.at_ _ (m5 rS rW)) f5 r) ?_
      refine fe_bs rfl rfl rfl (di_build1 (o := y.own) trivial) ?_
      refine fe_op (κ := Value × List (Nat × Obj)) (fun _ j => j.1) (fun _ j => OwnS 48 2 j.1 (said a ++ [y.own]).length (dsC (said a ++ [y.own])) j.2) (fun _ j => [j.2, enW, [(bS, .cells (gS).toArray 78 (0, 0))], [(bW, .cells (gW).toArray 22 (0, 0))], [(bI, .cells (gI.set a (.slice (some ⟨b4, 0, none⟩) [y].length c4)).toArray 33 (0, 0))], [(bF, .cells ((gF.set a v6).set a v5).toArray 28 (0, 0))], [(bT, .cells (gT).toArray 26 (0, 0))], [(b6, .cells (dvC toNC).toArray 45 (0, 0))], [(bt, tobj pt len cap (nxK xs k2))], rS, rW, e5 ++ ([(b4, Obj.cells (insC [y] ++ j4).toArray 50 (0, 0))] ++ (e6 ++ jk))]) [] .any (fun i hi => ?_) (fun _ _ _ _ => trivial) ?_
      ·exact opf_app (enc := diC) (f := fun e => [e, enW, [(bS, .cells (gS).toArray 78 (0, 0))], [(bW, .cells (gW).toArray 22 (0, 0))], [(bI, .cells (gI.set a (.slice (some ⟨b4, 0, none⟩) [y].length c4)).toArray 33 (0, 0))], [(bF, .cells ((gF.set a v6).set a v5).toArray 28 (0, 0))], [(bT, .cells (gT).toArray 26 (0, 0))], [(b6, .cells (dvC toNC).toArray 45 (0, 0))], [(bt, tobj pt len cap (nxK xs k2))], rS, rW, e5 ++ ([(b4, Obj.cells (insC [y] ++ j4).toArray 50 (0, 0))] ++ (e6 ++ jk))]) 12 rfl hOS (.refl _) B_1 (.head _) (di_len trivial) (by omega) (by omega) (fun ent => .refl _) (di_one _)
      refine fe_run 60 rfl ?_
      refine fe_v (fun a2 w F M R r => o_indexSl (F.e rfl) (F.e rfl) (by omega) (by omega) r) ?_
      refine fe_v (fun a2 w F M R r => o_loadH1 (F.e rfl) (M.at_ _ (nthO_mem (i := 0) rfl)) hvW r) ?_
      refine fe_run 60 rfl ?_
      refine fe_bs rfl rfl rfl rfl ?_
      refine fe_op (κ := Value × List (Nat × Obj)) (fun _ j => j.1) (fun _ j => OwnS 3 1 j.1 (whn a ++ [now]).length (encL iC (whn a ++ [now])) j.2) (fun i j => [i.2.2, j.2, [(bS, .cells (gS).toArray 78 (0, 0))], [(bW, .cells (gW).toArray 22 (0, 0))], [(bI, .cells (gI.set a (.slice (some ⟨b4, 0, none⟩) [y].length c4)).toArray 33 (0, 0))], [(bF, .cells ((gF.set a v6).set a v5).toArray 28 (0, 0))], [(bT, .cells (gT).toArray 26 (0, 0))], [(b6, .cells (dvC toNC).toArray 45 (0, 0))], [(bt, tobj pt len cap (nxK xs k2))], rS, rW, e5 ++ ([(b4, Obj.cells (insC [y] ++ j4).toArray 50 (0, 0))] ++ (e6 ++ jk))]) [] .any (fun i hi => ?_) (fun _ _ _ _ => trivial) ?_
      ·exact opf_app (enc := iC) (x0 := now) (f := fun e => [i.2.2, e, [(bS, .cells (gS).toArray 78 (0, 0))], [(bW, .cells (gW).toArray 22 (0, 0))], [(bI, .cells (gI.set a (.slice (some ⟨b4, 0, none⟩) [y].length c4)).toArray 33 (0, 0))], [(bF, .cells ((gF.set a v6).set a v5).toArray 28 (0, 0))], [(bT, .cells (gT).toArray 26 (0, 0))], [(b6, .cells (dvC toNC).toArray 45 (0, 0))], [(bt, tobj pt len cap (nxK xs k2))], rS, rW, e5 ++ ([(b4, Obj.cells (insC [y] ++ j4).toArray 50 (0, 0))] ++ (e6 ++ jk))]) 19 rfl hOW (List.perm_append_comm_assoc _ _ _) B_2 (.head _) rfl (by omega) (by omega) (fun ent => List.perm_append_comm_assoc _ _ _) rfl
      refine fe_run 60 rfl ?_
      refine fe_v (fun a2 w F M R r => o_indexSl (F.e rfl) (F.e rfl) (by omega) (by omega) r) ?_
      refine fe_opN (fun i => [i.1.2.2, i.2.2, [(bS, .cells ((gS).set a i.1.2.1).toArray 78 (0, 0))], [(bW, .cells (gW).toArray 22 (0, 0))], [(bI, .cells (gI.set a (.slice (some ⟨b4, 0, none⟩) [y].length c4)).toArray 33 (0, 0))], [(bF, .cells ((gF.set a v6).set a v5).toArray 28 (0, 0))], [(bT, .cells (gT).toArray 26 (0, 0))], [(b6, .cells (dvC toNC).toArray 45 (0, 0))], [(bt, tobj pt len cap (nxK xs k2))], rS, rW, e5 ++ ([(b4, Obj.cells (insC [y] ++ j4).toArray 50 (0, 0))] ++ (e6 ++ jk))]) [(13, 247)] (fun i hi => ?_) ?_
      ·exact opf_st1 2 rfl rfl (own_one hi.1.2) rfl (put_set (i := a) (by omega) _) rfl (.head _)
      refine fe_fin rfl (by rintro i _ q hq;simp at hq;rcases hq with rfl | rfl <;> simp) ?_
      rintro ⟨⟨_, v1, e1⟩, v2, e2⟩ ⟨⟨_, hO1⟩, hO2⟩
      refine ⟨_, rfl, ?_⟩
      dsimp only at hO1 hO2 ⊢
      refine g_ixS rfl rfl (by omega) (by omega) ?_
      refine g_st1 3 rfl rfl (own_one hO2) rfl (put_set (i := a) (by omega) _) rfl ?_
      refine g_rows [[(bW, .cells ((gW).set a v2).toArray 22 (0, 0))], [(bS, .cells ((gS).set a v1).toArray 78 (0, 0))], [(bI, .cells (gI.set a (.slice (some ⟨b4, 0, none⟩) [y].length c4)).toArray 33 (0, 0))], [(bF, .cells ((gF.set a v6).set a v5).toArray 28 (0, 0))], [(bT, .cells (gT).toArray 26 (0, 0))], [(b6, .cells (dvC toNC).toArray 45 (0, 0))], [(bt, tobj pt len cap (nxK xs k2))], (eS.set a e1).flatten, (eW.set a e2).flatten, e5 ++ ([(b4, Obj.cells (insC [y] ++ j4).toArray 50 (0, 0))] ++ (e6 ++ jk))] (rows_in (pS2 e1) (pW2 e2)) ?_
      refine gR 1 rfl ?_
      exact g_join ⟨i, ⟨now, seq, tab, upd (upd fd a (sexpV (fd a) now)) a (recordV (sexpV (fd a) now) now toNC y.own).1, upd ins a [y], upd said a (said a ++ [y.own]), upd whn a (whn a ++ [now])⟩, nxK xs k2, gT, (gF.set a v6).set a v5, gI.set a (.slice (some ⟨b4, 0, none⟩) [y].length c4), (gS).set a v1, (gW).set a v2, eS.set a e1, eW.set a e2, e5 ++ ([(b4, Obj.cells (insC [y] ++ j4).toArray 50 (0, 0))] ++ (e6 ++ jk))⟩ (LP.mk (hrec.2) (uT5) (uF5) (uI5) (tS.put (by omega) hO1) (tW.put (by omega) hO2)) (fun a F => F.only [5, 1, 6, 7, 8, 9, 10, 11, 12, 13, 14] rfl) (.refl _)
     ·have z3f : ((xl.length : Int) == 1) = false := by simp;omega
      refine gR 3 rfl ?_
      refine g_len rfl ‹_› ?_
      refine gR 2 rfl ?_
      refine g_know 204 rfl (decide_eq_false (by omega)) ?_
      refine gR 13 rfl ?_
      exact g_join ⟨i, ⟨now, seq, tab, upd fd a (sexpV (fd a) now), upd ins a xl, said, whn⟩, k2, gT, gF.set a v6, gI.set a v4, gS, gW, eS, eW, e4 ++ (e6 ++ jk)⟩ (LP.mk (I3) (uT) (uF) (uI) (tS) (tW)) (fun a F => F.only [5, 1, 6, 7, 8, 9, 10, 11, 12, 13, 14] rfl) (.refl _)
    ·rintro ⟨i2, ⟨now, seq, tab, fd, ins, said, whn⟩, k, gT, gF, gI, gS, gW, eS, eW, jk⟩ ⟨I1, tT, tF, tI, tS, tW⟩
     dsimp only at I1 tT tF tI tS tW ⊢
     have hnl : (nextsV n ins tab now).length = N := by simp [nextsV, hN]
     have hl1 := I1.tl
     have hl2 := fun a => I1.ione a
     have hm1 := I1.now1
     dsimp only at hl1 hl2 hm1
     have hr : ∀ x ∈ nextsV n ins tab now, -1 ≤ x ∧ x < (nextsV n ins tab now).length := by
      intro x hx
      obtain ⟨c, _, rfl⟩ := List.mem_map.1 hx
      rcases nhV_is ⟨now, seq, tab, fd, ins, said, whn⟩ c with h | ⟨y, x', h1, h2, h3, h4, h5, h6⟩
      ·dsimp only at h
       rw [h]
       omega
      ·have := I1.tr c y h2
       dsimp only at h6 this
       rw [hnl]
       omega
     have hnc := I1.noCircle
     dsimp only at hnc
     refine gR 6 rfl ?_
     refine g_callN (fun j : Value × List (Nat × Obj) => j.1) (fun j => OwnS 3 1 j.1 N (i64C (nextsV n ins tab now)) j.2) (fun j => [j.2]) rfl rfl (fun w M => Cal.mono (nexts_c n hn5 ins tab now (fun a x hx => (I1.ir a x hx).1) (fun a y hy => (I1.tr a y hy).1) (fun a y hy => by have := I1.tr a y hy;dsimp only at this;omega) (fun a => by have := hl2 a;omega) (fun a => by have := hl1 a;omega) bI bT N hN gI gT w (M.at_ _ (nthO_mem (i := 2) rfl)) (M.at_ _ (nthO_mem (i := 4) rfl)) (fun a ha => by obtain ⟨v, e, hv, hO, hj⟩ := tI.at_ a ha;exact ⟨v, hv, hO.slAt M (fun q hq => jk_mem q (hj q hq))⟩) (fun a ha => by obtain ⟨v, e, hv, hO, hj⟩ := tT.at_ a ha;exact ⟨v, hv, hO.slAt M (fun q hq => jk_mem q (hj q hq))⟩)) fun r w' h => by
      obtain ⟨ent, e2, N⟩ := h
      exact ⟨(r, ent), rfl, e2, by simpa using N⟩) ?_
     rintro ⟨v1, e1⟩ hO1
     dsimp only at hO1 ⊢
     skip
     refine g_call (v := .bool false) rfl rfl (fun w M => Cal.mono (loop_c (nextsV n ins tab now) hr (by omega) v1 w (by rw [hnl];exact hO1.slAt M (fun q hq => List.mem_append_left _ hq))) fun u w' h => ⟨h.1.trans (by rw [hnc]), h.2⟩) ?_
     refine g_rows [[(bW, .cells (gW).toArray 22 (0, 0))], [(bS, .cells (gS).toArray 78 (0, 0))], [(bI, .cells (gI).toArray 33 (0, 0))], [(bF, .cells (gF).toArray 28 (0, 0))], [(bT, .cells (gT).toArray 26 (0, 0))], [(b6, .cells (dvC toNC).toArray 45 (0, 0))], [(bt, tobj pt len cap (k))], eS.flatten, eW.flatten, jk] ⟨_, .refl _, List.sublist_append_right _ _⟩ ?_
     refine gR 5 rfl ?_
     exact g_join ⟨i, ⟨now, seq, tab, fd, ins, said, whn⟩, k, gT, gF, gI, gS, gW, eS, eW, jk⟩ ⟨rfl, ⟨I1, tT, tF, tI, tS, tW⟩⟩ (fun a F => F.only [5, 1, 6, 7, 8, 9, 10, 11, 12, 13, 14] rfl) (.refl _)
  ·rintro y ⟨hyi, P'⟩
   dsimp only
   refine gR 3 rfl ?_
   refine g_add rfl rfl (w_i64 (by omega) (by omega)) ?_
   refine gR 2 rfl ?_
   exact g_next ⟨i + 1, y.s, y.k, y.hT, y.hF, y.hI, y.hS, y.hW, y.eS, y.eW, y.jk⟩ ⟨by dsimp only;omega, P'.inv, P'.tT, P'.tF, P'.tI, P'.tS, P'.tW⟩ (by dsimp only;omega) (fun a F => F.only [5, 1, 6, 7, 8, 9, 10, 11, 12, 13, 14] rfl) (.refl _)
 ·refine gR 7 rfl ?_
  refine g_ifF rfl (decide_eq_false (by omega)) ?_
  refine gR 2 rfl ?_
  refine g_outX ?_
  refine gR 4 rfl ?_
  refine g_call rfl rfl (fun w M => known2_c _) ?_
  refine gR 4 rfl ?_
  refine g_ret1 rfl rfl rfl fun w M => ?_
  exact ⟨rfl, M.ext⟩
end Go.Proofs.YtilgoepokaaleaaGreat
namespace Go.Proofs.YtilgoepokaaleaaGreat
set_option linter.unusedVariables false
set_option linter.unusedSimpArgs false
open Go.ChangeShapes Go.WideShapes Go.ChangeAt Go.RowKit
set_option maxRecDepth 100000 in
theorem routesNoCircle_contract (H : Type) (enc : TypeId × Value → H) (W : World) (base : Nat) (args : Array Value) (ds gs : List (DataW H)) (before : List MemPlace)
  (hval : ∀ (j : Nat) t v, Tryz.f7.params[j]? = some t → args[j]? = some v → Value.okWide Tryz.prog W .any base t v)
  (hW : DataW.Whole enc Tryz.prog Tryz.f7.params.toList Rows.routesNoCircleSpec.vars false W args.toList ds gs before) (hL : laidMetH Tryz.prog seatLaid W) (hS : W.ShapedOpen Tryz.prog) :
  Calls Tryz.prog 7 args W fun e W' => ∃ v, e = .returned v ∧ Rows.routesNoCircleSpec.post enc Tryz.prog Tryz.f7 false true false false W args v W' := by
 have hW' := hW
 obtain ⟨p, q, hA0, hV, rfl, hfz, hnd⟩ := hW
 have hA : DataW.TrodAll enc Tryz.prog W 0 (fun _ => true) true Tryz.f7.params.toList args.toList ds p := hA0
 rw [Tryz.params7] at hA hval
 obtain ⟨v0, vs0, d0, ds0, p0, q0, hargs, rfl, rfl, h0, r0⟩ := trodAll_cons hA
 obtain ⟨v1, vs1, d1, ds1, p1, q1, rfl, rfl, rfl, h1, r1⟩ := trodAll_cons r0
 obtain ⟨rfl, rfl, rfl⟩ := trodAll_nil r1
 obtain rfl : args = #[v0, v1] := by cases args;simp_all
 obtain ⟨l0, q0p, cap0, rfl, hc0, hx0⟩ := open_il (hval 0 _ v0 rfl rfl) h0
 obtain ⟨x1, rfl, rfl, rfl, w1⟩ := open_int Tryz.underlying3 (hval 1 _ v1 rfl rfl) h1;have hx1 := int_bd w1
 refine ((noCircleL_c q0p cap0 l0 x1 W hx0 hc0).calls).mono ?_
 rintro e W' ⟨v, rfl, rfl, hE⟩
 exact ⟨_, rfl, law_post (tb := 4) laidOut (by kernel_rfl) rfl (by kernel_rfl) Tryz.underlying4 (fun xs hx => by rw [Tryz.params7] at hx;match xs, hx with | [_, _], _ => rfl) hW' hE⟩
set_option maxRecDepth 100000 in
theorem routesNoCircle_lifted (os : Os) (started : os.Started) (H : Type) (enc : TypeId × Value → H) (F : Stop.Interp) :
  ReturnsInHanded {} Tryz.checked os 7 .any ((OpenSpec.ofChange Rows.routesNoCircleSpec).preRow enc Tryz.prog Tryz.f7 Rows.routesNoCircleRow.domain false Rows.routesNoCircleRow.laid) (((OpenSpec.ofChange Rows.routesNoCircleSpec).at F).post enc Tryz.prog Tryz.f7 false true false false) := by
 have hx : ∃ places ds, DataW.whole enc Tryz.prog ((laidWorld os).forCall (fun _ _ => 0) ⟨#[], #[.slice none 0 0, .int .i64 0], []⟩).memory Tryz.f7.params.toList Rows.routesNoCircleSpec.vars false #[Value.slice none 0 0, .int .i64 0].toList 8 = some (ds, [], places) ∧ ds = [.nil, .lit (.int .i64 0)] := ⟨[], [.nil, .lit (.int .i64 0)], by kernel_rfl, rfl⟩
 obtain ⟨places, ds, hx, rfl⟩ := hx
 refine returnsInHanded_of_row (C := Tryz.checked) (s := OpenSpec.ofChange Rows.routesNoCircleSpec) own started (by kernel_rfl) Tryz.func7
  (witness_row_at (enc := enc) (C := Tryz.checked) false (laidWorld os) #[.slice none 0 0, .int .i64 0] rfl (by kernel_rfl) (by kernel_rfl) (by kernel_rfl)
   (OpenSpec.preRow_of_cond 8 hx (by kernel_rfl) (fun k hk => by cases hk) (by kernel_rfl) (laid_met os _))) ?_
 intro W base args ds gs before hval hW _ hcond _ hL hS _
 exact routesNoCircle_contract H enc W base args ds gs before hval hW hL hS
theorem routesNoCircle_said : Rows.RoutesNoCircleSaid :=
 OpenClaim.holds_of_cond 7 Tryz.f7 rfl rfl rfl rfl rfl rfl rfl ⟨rfl, rfl, rfl, rfl, rfl⟩ rfl rfl rfl rfl rfl (by kernel_rfl) Tryz.func7 (by kernel_rfl)
  (of_decide_eq_true (by kernel_rfl)) (by unfold Func.isWrapper;first | (rw [if_pos (by decide +kernel)];kernel_rfl) | (rw [if_neg (by decide +kernel)];exact ⟨rfl, rfl⟩))
  (fun os started H enc _ F => by rw [OpenClaim.pre_eq_preRow];exact routesNoCircle_lifted os started H enc F)
#print axioms routesNoCircle_said
end Go.Proofs.YtilgoepokaaleaaGreat

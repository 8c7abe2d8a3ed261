/-
  Texts joined.
-/
import Derived.Test.YtfhkmgcalcfibaaGreatTlsF5
set_option linter.unusedVariables false
set_option linter.unusedSimpArgs false
set_option maxHeartbeats 64000000
namespace Go.Proofs.YtfhkmgcalcfibaaGreat
open Go.RowKit
attribute [local irreducible] OpTo wpListIn Code.wpIn MW Cal
def PhSs (r : Value) (W w' : World) : Prop := ∃ (u : Value) (m : List SrcV) (c : Int) (ent : List (Nat × Obj)), r = .tuple #[u, .int .i64 c] ∧ OwnS 166 38 u m.length (srsC m) ent ∧ (∀ y ∈ m, IsSr y) ∧ m.length ≤ 256 ∧ Mem [] W w' ent
theorem PhSs.zero {c : Int} {W w : World} (E : Ext [] W w) : PhSs (.tuple #[.slice none 0 0, .int .i64 c]) W w := ⟨_, [], c, [], rfl, OwnS.nil _ _, fun y hy => (List.not_mem_nil hy).elim, by simp, Mem.nil E⟩
def PhRs (r : Value) (W w' : World) : Prop := ∃ (u : Value) (m : List RouV) (c : Int) (ent : List (Nat × Obj)), r = .tuple #[u, .int .i64 c] ∧ OwnS 76 39 u m.length (rosC m) ent ∧ (∀ y ∈ m, IsRo y) ∧ m.length ≤ 512 ∧ Mem [] W w' ent
theorem PhRs.zero {c : Int} {W w : World} (E : Ext [] W w) : PhRs (.tuple #[.slice none 0 0, .int .i64 c]) W w := ⟨_, [], c, [], rfl, OwnS.nil _ _, fun y hy => (List.not_mem_nil hy).elim, by simp, Mem.nil E⟩
theorem recE_c (l : List SrcV) (hx : ∀ x ∈ l, IsSr x) (v : Value) (now : Int) (t : DstV) (ht : IsDv t) (d : DisV) (W : World) (hS : SlAt W 38 v l.length (srsC l)) : Cal Tryz.prog 142 [v, .int .i64 now, .agg (dvC t).toArray, .agg (diC d).toArray].toArray W fun r w' => PhSs r W w' := by
 obtain ⟨q, cap, rfl, _⟩ := id hS
 have hm := hS.memB [] (by simp)
 refine g_start (n := 92) (S := []) fldT_ok slcT_ok Tryz.func142 rfl rfl rfl ?_
 cases hv : validSs l
 ·refine gR 2 rfl ?_
  refine g_box rfl rfl fun b6 => g_box rfl rfl fun b7 => gR 8 rfl (g_call rfl rfl (fun w M => refvalidS_c _ ‹_› _ _ ((by assumption : SlAt _ _ _ _ _).later M.ext)) ?_)
  refine gR 2 rfl (g_know 21 rfl (notT ‹_›) ?_)
  exact gR 25 rfl (g_ret2 rfl rfl rfl rfl fun w M => PhSs.zero M.ext)
 have hl256 : l.length ≤ 256 := (validSs_iff.1 hv).1
 cases htm : isTime now
 ·refine gR 2 rfl ?_
  refine g_box rfl rfl fun b6 => g_box rfl rfl fun b7 => gR 8 rfl (g_call rfl rfl (fun w M => refvalidS_c _ ‹_› _ _ ((by assumption : SlAt _ _ _ _ _).later M.ext)) ?_)
  refine gR 2 rfl (g_know 21 rfl (notF ‹_›) ?_)
  refine g_ldA 1 rfl rfl (dv_all ‹_›) ?_
  refine g_call rfl rfl (fun w M => rvalidTo_c _ ‹_› _) ?_
  refine gR 3 rfl (g_split 26 rfl (fun h1 => ?_) (fun h1 => ?_))
  ·replace h1 := false_of_not h1
   exact gR 20 rfl (g_ret2 rfl rfl rfl rfl fun w M => PhSs.zero M.ext)
  ·replace h1 := true_of_not h1
   refine g_ldA 0 rfl rfl (di_all trivial) (g_call rfl rfl (fun w M => rdvalid_c _ _) (gR 3 rfl (g_split 31 rfl (fun h2 => ?_) (fun h2 => ?_))))
   ·replace h2 := false_of_not h2
    exact gR 15 rfl (g_ret2 rfl rfl rfl rfl fun w M => PhSs.zero M.ext)
   ·replace h2 := true_of_not h2
    refine gR 1 rfl (g_ld1 0 rfl rfl (di_met trivial) (gR 4 rfl (g_if rfl (fun h3 => ?_) (fun h3 => ?_))))
    ·replace h3 := dqU h3
     exact gR 8 rfl (g_ret2 rfl rfl rfl rfl fun w M => PhSs.zero M.ext)
    ·replace h3 := dqV h3
     refine gR 6 rfl (g_call rfl rfl (fun w M => risTime_c _ _) (gR 3 rfl (g_ifT rfl (notT ‹_›) ?_)))
     exact gR 8 rfl (g_ret2 rfl rfl rfl rfl fun w M => PhSs.zero M.ext)
 obtain ⟨hn0, hn1⟩ := isTime_bd htm
 refine gR 2 rfl (g_box rfl rfl fun b6 => g_box rfl rfl fun b7 => gR 8 rfl (g_call rfl rfl (fun w M => refvalidS_c _ ‹_› _ _ ((by assumption : SlAt _ _ _ _ _).later M.ext)) ?_))
 refine gR 2 rfl (g_know 21 rfl (notF ‹_›) ?_)
 refine g_ldA 1 rfl rfl (dv_all ‹_›) ?_
 refine g_call rfl rfl (fun w M => rvalidTo_c _ ‹_› _) ?_
 refine gR 3 rfl (g_split 26 rfl (fun h1 => ?_) (fun h1 => ?_))
 ·replace h1 := false_of_not h1
  exact gR 20 rfl (g_ret2 rfl rfl rfl rfl fun w M => PhSs.zero M.ext)
 replace h1 := true_of_not h1
 refine g_ldA 0 rfl rfl (di_all trivial) (g_call rfl rfl (fun w M => rdvalid_c _ _) (gR 3 rfl (g_split 31 rfl (fun h2 => ?_) (fun h2 => ?_))))
 ·replace h2 := false_of_not h2
  exact gR 15 rfl (g_ret2 rfl rfl rfl rfl fun w M => PhSs.zero M.ext)
 replace h2 := true_of_not h2
 refine gR 1 rfl (g_ld1 0 rfl rfl (di_met trivial) (gR 4 rfl (g_if rfl (fun h3 => ?_) (fun h3 => ?_))))
 ·replace h3 := dqU h3
  exact gR 8 rfl (g_ret2 rfl rfl rfl rfl fun w M => PhSs.zero M.ext)
 replace h3 := dqV h3
 refine gR 6 rfl (g_call rfl rfl (fun w M => risTime_c _ _) (gR 3 rfl (g_ifF rfl (notF ‹_›) ?_)))
 refine gR 6 rfl (g_ldA 1 rfl rfl (dv_all ‹_›) ?_)
 refine g_call rfl rfl (fun w M => rfind_c _ ‹_› _ _ _ ‹_› _ ((by assumption : SlAt _ _ _ _ _).later M.ext)) ?_
 refine gR 3 rfl (g_alloc fun b10 => g_stA 0 rfl rfl (di_len trivial) (di_one _) rfl (put_all (by rw [di_len trivial];first | rfl | rw [di_len ‹_›])) rfl ?_)
 refine gR 4 rfl (g_cutC (ι := DisV) ⟨fun _ => True, fun _ => [(7, .pointer (some ⟨b7, 0, none⟩)), (6, .pointer (some ⟨b6, 0, none⟩)), (0, .slice q l.length cap), (1, .int .i64 now)], fun d2 => [[(b7, .cells (diC d2).toArray 72 (0, 0))], [(b6, .cells (dvC t).toArray 67 (0, 0))]]⟩ ?_ ?_)
 ·refine gR 5 rfl ?_
  refine g_if rfl (fun h1 => ?_) (fun h1 => ?_)
  ·refine gR 1 rfl (g_ldA 1 rfl rfl (di_all trivial) (g_ldA 0 rfl rfl (di_all trivial) (g_call rfl rfl (fun w M => rlower_c _ _ _) (g_stA 1 rfl rfl (di_len trivial) (di_one _) rfl (put_all (by rw [di_len trivial];first | rfl | rw [di_len ‹_›])) rfl ?_))))
   exact gR 1 rfl (g_join (lowQ d ((rfindV l now t).getD di0)) trivial (fun a F => F.only [7, 6, 0, 1] rfl) (by (try dsimp only);repeat (first | exact .refl _ | with_reducible exact sC0 _ | with_reducible apply sC2 | apply sC1)))
  ·exact gR 1 rfl (g_join d trivial (fun a F => F.only [7, 6, 0, 1] rfl) (by (try dsimp only);repeat (first | exact .refl _ | with_reducible exact sC0 _ | with_reducible apply sC2 | apply sC1)))
 rintro d2 _
 have nwI : IsSr ⟨t, d2, laterV now 20⟩ := ⟨ht, trivial⟩
 have hmk := sr_mk t ht d2 (laterV now 20)
 refine gR 2 rfl (g_draw 6 92 rfl (by kernel_rfl) (fd_ldA 1 rfl rfl (dv_all ‹_›) ?_))
 refine fd_ldA 0 rfl rfl (di_all ‹_›) ?_
 refine fR 1 rfl (fd_call rfl rfl (fun w M => rafter_c _ _ ‹_› ‹_› (by omega) (by omega) _) ?_)
 refine fd_v (fun a w F M R r => o_build F rfl ‹_› r) ?_
 refine fd_al fun b12 => g_stA 0 rfl rfl (sr_len ‹_›) (sr_one _) rfl (put_all (by rw [sr_len ‹_›];first | rfl | rw [sr_len ‹_›])) rfl ?_
 refine gR 21 rfl (g_pad (g_loop (ι := Nat × Bool × (List SrcV) × Value × (List (Nat × Obj))) ⟨fun (i, d, out, u, es) => l.length - i, fun (i, d, out, u, es) => i ≤ l.length ∧ (OwnS 166 38 u out.length (srsC out) es) ∧ (∀ y ∈ out, IsSr y) ∧ (out.length ≤ i + d.toNat), fun (i, d, out, u, es) => [(57, .int .i64 i), (56, .int .i64 l.length), (55, .slice q l.length cap), (13, u), (14, .bool d), (0, .slice q l.length cap), (6, .pointer (some ⟨b6, 0, none⟩)), (12, .pointer (some ⟨b12, 0, none⟩))], fun (i, d, out, u, es) => [es, [(b12, .cells (srC ⟨t, d2, laterV now 20⟩).toArray 166 (0, 0))], [(b6, .cells (dvC t).toArray 67 (0, 0))]]⟩ (0, false, [], _, []) ⟨by omega, OwnS.nilL _ _ _, fun y hy => (List.not_mem_nil hy).elim, by simp⟩ (fun a F => F.only [57, 56, 55, 13, 14, 0, 6, 12] rfl) (by repeat (first | exact .refl _ | apply sC2 | apply sC1)) ?_))
 rintro ⟨i, d, out, u, es⟩ ⟨hi_i, hOs, hI, hol⟩
 dsimp only
 by_cases hlt_i : i < l.length
 ·obtain ⟨b, o, cs, t', fz, rfl, hb, hs⟩ := hm (by omega)
  obtain ⟨x, hx0⟩ : ∃ x, x = l[i] := ⟨_, rfl⟩
  have hxm : x ∈ l := by rw [hx0];exact List.getElem_mem hlt_i
  have hxi : IsSr x := hx _ hxm
  have f1 : seg cs (o + (i : Int).toNat * 38) 38 = some (srC x) := by rw [hx0];exact seg_el (srs_len hx) hs hlt_i (by omega)
  have xd : IsDv x.to := hxi.1
  have hol3 : out.length ≤ i + 1 := by cases d <;> simp at hol <;> omega
  have hol4 : (out ++ [(⟨t, d2, laterV now 20⟩ : SrcV)]).length = out.length + 1 := by simp
  cases d
  ·replace hol : out.length ≤ i := by simpa using hol
   refine gR 6 rfl (g_ifT rfl (dqT (by omega)) (gR 6 rfl (g_ixS rfl rfl (by omega) (by omega) (g_leA rfl ‹_› (by with_reducible assumption) ?_))))
   refine g_alloc fun b16 => g_stA 0 rfl rfl (sr_len ‹_›) (sr_one _) rfl (put_all (by rw [sr_len ‹_›];first | rfl | rw [sr_len ‹_›])) rfl ?_
   refine gR 5 rfl (g_ldA 0 rfl rfl (sr_to ‹_›) ?_)
   refine g_ldA 3 rfl rfl (dv_all ‹_›) ?_
   refine g_call rfl rfl (fun w M => rcompare_c _ _ ‹_› ‹_› _) ?_
   refine gR 9 rfl (g_split 67 rfl (fun h1 => ?_) (fun h1 => ?_))
   ·replace h1 := dqU h1
    refine gR 9 rfl (g_ldA 2 rfl rfl (sr_all ‹_›) ?_)
    refine g_bs rfl rfl rfl (sr_build1 ‹_›) (fun b73 => ?_)
    refine g_app 2 0 (enc := srC) rfl rfl ‹_› rfl rfl (sr_len ‹_›) (by omega) (fun _ => rfl) (fun v74 es74 hO74 => ?_) (sr_one _)
    refine gR 13 rfl (g_if rfl (fun h2 => ?_) (fun h2 => ?_))
    ·replace h2 := ne_of_bne h2
     refine gR 2 rfl (g_ldA 1 rfl rfl (sr_all ‹_›) ?_)
     refine g_bs rfl rfl rfl (sr_build1 ‹_›) (fun b79 => ?_)
     refine g_app 3 0 (enc := srC) rfl rfl ‹_› rfl rfl (sr_len ‹_›) (by omega) (fun _ => rfl) (fun v80 es80 hO80 => ?_) (sr_one _)
     refine gR 5 rfl (g_add rfl rfl (w_i64 (by omega) (by omega)) (gR 2 rfl ?_))
     exact g_next (i + 1, true, (out ++ [⟨t, d2, laterV now 20⟩]) ++ [x], _, _) ⟨by dsimp only;omega, by assumption, app_is (app_is hI nwI) hxi, by simp at hol ⊢;omega⟩ (by dsimp only;omega) (fun a F => F.only [57, 56, 55, 13, 14, 0, 6, 12] rfl) (by (try dsimp only);repeat (first | exact .refl _ | with_reducible exact sC0 _ | with_reducible apply sC2 | apply sC1))
    ·replace h2 := eq_of_bne_false h2
     refine gR 4 rfl (g_add rfl rfl (w_i64 (by omega) (by omega)) (gR 2 rfl ?_))
     exact g_next (i + 1, true, out ++ [⟨t, d2, laterV now 20⟩], _, _) ⟨by dsimp only;omega, by assumption, app_is hI nwI, by simp at hol ⊢;omega⟩ (by dsimp only;omega) (fun a F => F.only [57, 56, 55, 13, 14, 0, 6, 12] rfl) (by (try dsimp only);repeat (first | exact .refl _ | with_reducible exact sC0 _ | with_reducible apply sC2 | apply sC1))
   ·replace h1 := dqV h1
    refine gR 14 rfl (g_ifT rfl (bne_iff_ne.2 (by omega)) (gR 2 rfl (g_ldA 0 rfl rfl (sr_all ‹_›) ?_)))
    refine g_bs rfl rfl rfl (sr_build1 ‹_›) (fun b79 => ?_)
    refine g_app 2 0 (enc := srC) rfl rfl ‹_› rfl rfl (sr_len ‹_›) (by omega) (fun _ => rfl) (fun v80 es80 hO80 => ?_) (sr_one _)
    refine gR 5 rfl (g_add rfl rfl (w_i64 (by omega) (by omega)) (gR 2 rfl ?_))
    exact g_next (i + 1, false, out ++ [x], _, _) ⟨by dsimp only;omega, by assumption, app_is hI hxi, by simp at hol ⊢;omega⟩ (by dsimp only;omega) (fun a F => F.only [57, 56, 55, 13, 14, 0, 6, 12] rfl) (by (try dsimp only);repeat (first | exact .refl _ | with_reducible exact sC0 _ | with_reducible apply sC2 | apply sC1))
  ·refine gR 6 rfl ?_
   refine g_ifT rfl (dqT (by omega)) (gR 6 rfl (g_ixS rfl rfl (by omega) (by omega) (g_leA rfl ‹_› (by with_reducible assumption) ?_)))
   refine g_alloc fun b16 => g_stA 0 rfl rfl (sr_len ‹_›) (sr_one _) rfl (put_all (by rw [sr_len ‹_›];first | rfl | rw [sr_len ‹_›])) rfl ?_
   refine gR 5 rfl (g_ldA 0 rfl rfl (sr_to ‹_›) ?_)
   refine g_ldA 3 rfl rfl (dv_all ‹_›) ?_
   refine g_call rfl rfl (fun w M => rcompare_c _ _ ‹_› ‹_› _) ?_
   refine gR 9 rfl (g_split 67 rfl (fun h1 => ?_) (fun h1 => ?_))
   ·replace h1 := dqU h1
    refine gR 14 rfl (g_if rfl (fun h2 => ?_) (fun h2 => ?_))
    ·replace h2 := ne_of_bne h2
     refine gR 2 rfl (g_ldA 0 rfl rfl (sr_all ‹_›) ?_)
     refine g_bs rfl rfl rfl (sr_build1 ‹_›) (fun b79 => ?_)
     refine g_app 2 0 (enc := srC) rfl rfl ‹_› rfl rfl (sr_len ‹_›) (by omega) (fun _ => rfl) (fun v80 es80 hO80 => ?_) (sr_one _)
     refine gR 5 rfl (g_add rfl rfl (w_i64 (by omega) (by omega)) (gR 2 rfl ?_))
     exact g_next (i + 1, true, out ++ [x], _, _) ⟨by dsimp only;omega, by assumption, app_is hI hxi, by simp at hol ⊢;omega⟩ (by dsimp only;omega) (fun a F => F.only [57, 56, 55, 13, 14, 0, 6, 12] rfl) (by (try dsimp only);repeat (first | exact .refl _ | with_reducible exact sC0 _ | with_reducible apply sC2 | apply sC1))
    ·replace h2 := eq_of_bne_false h2
     refine gR 4 rfl (g_add rfl rfl (w_i64 (by omega) (by omega)) (gR 2 rfl ?_))
     exact g_next (i + 1, true, out, _, _) ⟨by dsimp only;omega, by assumption, hI, by simp at hol ⊢;omega⟩ (by dsimp only;omega) (fun a F => F.only [57, 56, 55, 13, 14, 0, 6, 12] rfl) (by (try dsimp only);repeat (first | exact .refl _ | with_reducible exact sC0 _ | with_reducible apply sC2 | apply sC1))
   ·replace h1 := dqV h1
    refine gR 14 rfl (g_ifT rfl (bne_iff_ne.2 (by omega)) (gR 2 rfl (g_ldA 0 rfl rfl (sr_all ‹_›) ?_)))
    refine g_bs rfl rfl rfl (sr_build1 ‹_›) (fun b79 => ?_)
    refine g_app 2 0 (enc := srC) rfl rfl ‹_› rfl rfl (sr_len ‹_›) (by omega) (fun _ => rfl) (fun v80 es80 hO80 => ?_) (sr_one _)
    refine gR 5 rfl (g_add rfl rfl (w_i64 (by omega) (by omega)) (gR 2 rfl ?_))
    exact g_next (i + 1, true, out ++ [x], _, _) ⟨by dsimp only;omega, by assumption, app_is hI hxi, by simp at hol ⊢;omega⟩ (by dsimp only;omega) (fun a F => F.only [57, 56, 55, 13, 14, 0, 6, 12] rfl) (by (try dsimp only);repeat (first | exact .refl _ | with_reducible exact sC0 _ | with_reducible apply sC2 | apply sC1))
 ·have hli : i = l.length := by omega
  have hol3 : out.length ≤ i + 1 := by cases d <;> simp at hol <;> omega
  obtain ⟨q4, c4, rfl, hq4⟩ := own_q hOs
  cases d
  ·replace hol : out.length ≤ i := by simpa using hol
   refine gR 6 rfl (g_ifF rfl (dqF (by omega)) (gR 2 rfl (g_outX (gR 12 rfl (g_ldA 1 rfl rfl (sr_all ‹_›) ?_)))))
   refine g_bs rfl rfl rfl (sr_build1 ‹_›) (fun b86 => ?_)
   refine g_app 1 0 (enc := srC) rfl rfl ‹_› rfl rfl (sr_len ‹_›) (by omega) (fun _ => rfl) (fun v87 es87 hO87 => ?_) (sr_one _)
   refine gR 7 rfl (g_len rfl ‹_› ?_)
   refine gR 3 rfl (g_if rfl (fun h1 => ?_) (fun h1 => ?_))
   ·replace h1 := dqU h1
    exact gR 8 rfl (g_ret2 rfl rfl rfl rfl fun w M => PhSs.zero M.ext)
   ·replace h1 := dqV h1
    exact gR 10 rfl (g_ret2 rfl rfl rfl rfl fun w M => ⟨_, out ++ [⟨t, d2, laterV now 20⟩], 0, _, rfl, by assumption, app_is hI nwI, by omega, M.sub (List.sublist_flatten_of_mem (by simp))⟩)
  ·refine gR 6 rfl ?_
   refine g_ifF rfl (dqF (by omega)) (gR 2 rfl (g_outX (gR 20 rfl (g_if rfl (fun h1 => ?_) (fun h1 => ?_)))))
   ·replace h1 := dqU h1
    exact gR 8 rfl (g_ret2 rfl rfl rfl rfl fun w M => PhSs.zero M.ext)
   ·replace h1 := dqV h1
    exact gR 10 rfl (g_ret2 rfl rfl rfl rfl fun w M => ⟨_, out, 0, _, rfl, by assumption, hI, by omega, M.sub (List.sublist_flatten_of_mem (by simp))⟩)
theorem learnE_c (l : List RouV) (hx : ∀ x ∈ l, IsRo x) (v : Value) (now : Int) (t : DstV) (ht : IsDv t) (nb : Int) (dd : DisV) (W : World) (hS : SlAt W 39 v l.length (rosC l)) : Cal Tryz.prog 144 [v, .int .i64 now, .agg (dvC t).toArray, .int .u64 nb, .agg (diC dd).toArray].toArray W fun r w' => PhRs r W w' := by
 obtain ⟨q, cap, rfl, _⟩ := id hS
 have hm := hS.memB [] (by simp)
 have nwI : IsRo ⟨t, nb, dd, laterV now 10⟩ := ⟨ht, trivial⟩
 refine g_start (n := 83) (S := []) fldT_ok slcT_ok Tryz.func144 rfl rfl rfl ?_
 cases hv : validRs l
 ·refine gR 2 rfl ?_
  refine g_box rfl rfl fun b7 => g_box rfl rfl fun b9 => gR 8 rfl (g_call rfl rfl (fun w M => refvalidR_c _ ‹_› _ _ ((by assumption : SlAt _ _ _ _ _).later M.ext)) ?_)
  refine gR 2 rfl (g_know 21 rfl (notT ‹_›) ?_)
  exact gR 24 rfl (g_ret2 rfl rfl rfl rfl fun w M => PhRs.zero M.ext)
 have hl512 : l.length ≤ 512 := (validRs_iff.1 hv).1
 cases htm : isTime now
 ·refine gR 2 rfl ?_
  refine g_box rfl rfl fun b7 => g_box rfl rfl fun b9 => gR 8 rfl (g_call rfl rfl (fun w M => refvalidR_c _ ‹_› _ _ ((by assumption : SlAt _ _ _ _ _).later M.ext)) ?_)
  refine gR 2 rfl (g_know 21 rfl (notF ‹_›) ?_)
  refine g_ldA 1 rfl rfl (dv_all ‹_›) ?_
  refine g_call rfl rfl (fun w M => rvalidTo_c _ ‹_› _) ?_
  refine gR 3 rfl (g_split 26 rfl (fun h1 => ?_) (fun h1 => ?_))
  ·replace h1 := false_of_not h1
   exact gR 19 rfl (g_ret2 rfl rfl rfl rfl fun w M => PhRs.zero M.ext)
  ·replace h1 := true_of_not h1
   refine g_ldA 0 rfl rfl (di_all trivial) (g_call rfl rfl (fun w M => rdvalid_c _ _) (gR 3 rfl (g_split 31 rfl (fun h2 => ?_) (fun h2 => ?_))))
   ·replace h2 := false_of_not h2
    exact gR 14 rfl (g_ret2 rfl rfl rfl rfl fun w M => PhRs.zero M.ext)
   ·replace h2 := true_of_not h2
    refine gR 5 rfl (g_if rfl (fun h3 => ?_) (fun h3 => ?_))
    ·replace h3 := dqU h3
     exact gR 8 rfl (g_ret2 rfl rfl rfl rfl fun w M => PhRs.zero M.ext)
    ·replace h3 := dqV h3
     refine gR 6 rfl (g_call rfl rfl (fun w M => risTime_c _ _) (gR 3 rfl (g_ifT rfl (notT ‹_›) ?_)))
     exact gR 8 rfl (g_ret2 rfl rfl rfl rfl fun w M => PhRs.zero M.ext)
 obtain ⟨hn0, hn1⟩ := isTime_bd htm
 have hmk := ro_mk t ht nb dd (laterV now 10)
 refine gR 2 rfl (g_box rfl rfl fun b7 => g_box rfl rfl fun b9 => gR 8 rfl (g_call rfl rfl (fun w M => refvalidR_c _ ‹_› _ _ ((by assumption : SlAt _ _ _ _ _).later M.ext)) ?_))
 refine gR 2 rfl (g_know 21 rfl (notF ‹_›) ?_)
 refine g_ldA 1 rfl rfl (dv_all ‹_›) ?_
 refine g_call rfl rfl (fun w M => rvalidTo_c _ ‹_› _) ?_
 refine gR 3 rfl (g_split 26 rfl (fun h1 => ?_) (fun h1 => ?_))
 ·replace h1 := false_of_not h1
  exact gR 19 rfl (g_ret2 rfl rfl rfl rfl fun w M => PhRs.zero M.ext)
 replace h1 := true_of_not h1
 refine g_ldA 0 rfl rfl (di_all trivial) (g_call rfl rfl (fun w M => rdvalid_c _ _) (gR 3 rfl (g_split 31 rfl (fun h2 => ?_) (fun h2 => ?_))))
 ·replace h2 := false_of_not h2
  exact gR 14 rfl (g_ret2 rfl rfl rfl rfl fun w M => PhRs.zero M.ext)
 replace h2 := true_of_not h2
 refine gR 5 rfl (g_if rfl (fun h3 => ?_) (fun h3 => ?_))
 ·replace h3 := dqU h3
  exact gR 8 rfl (g_ret2 rfl rfl rfl rfl fun w M => PhRs.zero M.ext)
 replace h3 := dqV h3
 refine gR 6 rfl (g_call rfl rfl (fun w M => risTime_c _ _) (gR 3 rfl (g_ifF rfl (notF ‹_›) ?_)))
 refine gR 3 rfl (g_draw 7 83 rfl (by kernel_rfl) (fd_ldA 1 rfl rfl (dv_all ‹_›) ?_))
 refine fR 1 rfl (fd_ldA 0 rfl rfl (di_all trivial) (fR 1 rfl (fd_call rfl rfl (fun w M => rafter_c _ _ ‹_› ‹_› (by omega) (by omega) _) ?_)))
 refine fd_v (fun a w F M R r => o_build F rfl ‹_› r) ?_
 refine fd_al fun b12 => g_stA 0 rfl rfl (ro_len ‹_›) (ro_one _) rfl (put_all (by rw [ro_len ‹_›];first | rfl | rw [ro_len ‹_›])) rfl ?_
 refine gR 10 rfl (g_ld1 1 rfl rfl (di_met trivial) (gR 13 rfl (g_pad (g_loop (ι := Nat × Bool × (List RouV) × Value × (List (Nat × Obj))) ⟨fun (i, d, out, u, es) => l.length - i, fun (i, d, out, u, es) => i ≤ l.length ∧ (OwnS 76 39 u out.length (rosC out) es) ∧ (∀ y ∈ out, IsRo y) ∧ (out.length ≤ i + d.toNat), fun (i, d, out, u, es) => [(49, .int .i64 i), (48, .int .i64 l.length), (47, .slice q l.length cap), (13, u), (14, .bool d), (0, .slice q l.length cap), (12, .pointer (some ⟨b12, 0, none⟩))], fun (i, d, out, u, es) => [es, [(b12, .cells (roC ⟨t, nb, dd, laterV now 10⟩).toArray 76 (0, 0))]]⟩ (0, (decide (dd.met = 65535)), [], _, []) ⟨by omega, OwnS.nilL _ _ _, fun y hy => (List.not_mem_nil hy).elim, by simp⟩ (fun a F => F.only [49, 48, 47, 13, 14, 0, 12] rfl) (by repeat (first | exact .refl _ | apply sC2 | apply sC1)) ?_))))
 rintro ⟨i, d, out, u, es⟩ ⟨hi_i, hOs, hI, hol⟩
 dsimp only
 by_cases hlt_i : i < l.length
 ·obtain ⟨b, o, cs, t', fz, rfl, hb, hs⟩ := hm (by omega)
  obtain ⟨x, hx0⟩ : ∃ x, x = l[i] := ⟨_, rfl⟩
  have hxm : x ∈ l := by rw [hx0];exact List.getElem_mem hlt_i
  have hxi : IsRo x := hx _ hxm
  have f1 : seg cs (o + (i : Int).toNat * 39) 39 = some (roC x) := by rw [hx0];exact seg_el (ros_len hx) hs hlt_i (by omega)
  have xd : IsDv x.to := hxi.1
  have hol3 : out.length ≤ i + 1 := by cases d <;> simp at hol <;> omega
  have hol4 : (out ++ [(⟨t, nb, dd, laterV now 10⟩ : RouV)]).length = out.length + 1 := by simp
  cases d
  ·replace hol : out.length ≤ i := by simpa using hol
   refine gR 6 rfl (g_ifT rfl (dqT (by omega)) (gR 6 rfl (g_ixS rfl rfl (by omega) (by omega) (g_leA rfl ‹_› (by with_reducible assumption) ?_))))
   refine g_alloc fun b16 => g_stA 0 rfl rfl (ro_len ‹_›) (ro_one _) rfl (put_all (by rw [ro_len ‹_›];first | rfl | rw [ro_len ‹_›])) rfl ?_
   refine gR 4 rfl (g_ldA 0 rfl rfl (ro_all ‹_›) ?_)
   refine g_ldA 2 rfl rfl (ro_all ‹_›) ?_
   refine g_call rfl rfl (fun w M => reforder_c _ _ ‹_› ‹_› _) ?_
   refine gR 9 rfl (g_split 58 rfl (fun h1 => ?_) (fun h1 => ?_))
   ·replace h1 := dqU h1
    refine gR 9 rfl (g_ldA 2 rfl rfl (ro_all ‹_›) ?_)
    refine g_bs rfl rfl rfl (ro_build1 ‹_›) (fun b64 => ?_)
    refine g_app 2 0 (enc := roC) rfl rfl ‹_› rfl rfl (ro_len ‹_›) (by omega) (fun _ => rfl) (fun v65 es65 hO65 => ?_) (ro_one _)
    refine gR 13 rfl (g_if rfl (fun h2 => ?_) (fun h2 => ?_))
    ·replace h2 := ne_of_bne h2
     refine gR 2 rfl (g_ldA 1 rfl rfl (ro_all ‹_›) ?_)
     refine g_bs rfl rfl rfl (ro_build1 ‹_›) (fun b70 => ?_)
     refine g_app 3 0 (enc := roC) rfl rfl ‹_› rfl rfl (ro_len ‹_›) (by omega) (fun _ => rfl) (fun v71 es71 hO71 => ?_) (ro_one _)
     refine gR 5 rfl (g_add rfl rfl (w_i64 (by omega) (by omega)) (gR 2 rfl ?_))
     exact g_next (i + 1, true, (out ++ [⟨t, nb, dd, laterV now 10⟩]) ++ [x], _, _) ⟨by dsimp only;omega, by assumption, app_is (app_is hI nwI) hxi, by simp at hol ⊢;omega⟩ (by dsimp only;omega) (fun a F => F.only [49, 48, 47, 13, 14, 0, 12] rfl) (by (try dsimp only);repeat (first | exact .refl _ | with_reducible exact sC0 _ | with_reducible apply sC2 | apply sC1))
    ·replace h2 := eq_of_bne_false h2
     refine gR 4 rfl (g_add rfl rfl (w_i64 (by omega) (by omega)) (gR 2 rfl ?_))
     exact g_next (i + 1, true, out ++ [⟨t, nb, dd, laterV now 10⟩], _, _) ⟨by dsimp only;omega, by assumption, app_is hI nwI, by simp at hol ⊢;omega⟩ (by dsimp only;omega) (fun a F => F.only [49, 48, 47, 13, 14, 0, 12] rfl) (by (try dsimp only);repeat (first | exact .refl _ | with_reducible exact sC0 _ | with_reducible apply sC2 | apply sC1))
   ·replace h1 := dqV h1
    refine gR 14 rfl (g_ifT rfl (bne_iff_ne.2 (by omega)) (gR 2 rfl (g_ldA 0 rfl rfl (ro_all ‹_›) ?_)))
    refine g_bs rfl rfl rfl (ro_build1 ‹_›) (fun b70 => ?_)
    refine g_app 2 0 (enc := roC) rfl rfl ‹_› rfl rfl (ro_len ‹_›) (by omega) (fun _ => rfl) (fun v71 es71 hO71 => ?_) (ro_one _)
    refine gR 5 rfl (g_add rfl rfl (w_i64 (by omega) (by omega)) (gR 2 rfl ?_))
    exact g_next (i + 1, false, out ++ [x], _, _) ⟨by dsimp only;omega, by assumption, app_is hI hxi, by simp at hol ⊢;omega⟩ (by dsimp only;omega) (fun a F => F.only [49, 48, 47, 13, 14, 0, 12] rfl) (by (try dsimp only);repeat (first | exact .refl _ | with_reducible exact sC0 _ | with_reducible apply sC2 | apply sC1))
  ·refine gR 6 rfl ?_
   refine g_ifT rfl (dqT (by omega)) (gR 6 rfl (g_ixS rfl rfl (by omega) (by omega) (g_leA rfl ‹_› (by with_reducible assumption) ?_)))
   refine g_alloc fun b16 => g_stA 0 rfl rfl (ro_len ‹_›) (ro_one _) rfl (put_all (by rw [ro_len ‹_›];first | rfl | rw [ro_len ‹_›])) rfl ?_
   refine gR 4 rfl (g_ldA 0 rfl rfl (ro_all ‹_›) ?_)
   refine g_ldA 2 rfl rfl (ro_all ‹_›) ?_
   refine g_call rfl rfl (fun w M => reforder_c _ _ ‹_› ‹_› _) ?_
   refine gR 9 rfl (g_split 58 rfl (fun h1 => ?_) (fun h1 => ?_))
   ·replace h1 := dqU h1
    refine gR 14 rfl (g_if rfl (fun h2 => ?_) (fun h2 => ?_))
    ·replace h2 := ne_of_bne h2
     refine gR 2 rfl (g_ldA 0 rfl rfl (ro_all ‹_›) ?_)
     refine g_bs rfl rfl rfl (ro_build1 ‹_›) (fun b70 => ?_)
     refine g_app 2 0 (enc := roC) rfl rfl ‹_› rfl rfl (ro_len ‹_›) (by omega) (fun _ => rfl) (fun v71 es71 hO71 => ?_) (ro_one _)
     refine gR 5 rfl (g_add rfl rfl (w_i64 (by omega) (by omega)) (gR 2 rfl ?_))
     exact g_next (i + 1, true, out ++ [x], _, _) ⟨by dsimp only;omega, by assumption, app_is hI hxi, by simp at hol ⊢;omega⟩ (by dsimp only;omega) (fun a F => F.only [49, 48, 47, 13, 14, 0, 12] rfl) (by (try dsimp only);repeat (first | exact .refl _ | with_reducible exact sC0 _ | with_reducible apply sC2 | apply sC1))
    ·replace h2 := eq_of_bne_false h2
     refine gR 4 rfl (g_add rfl rfl (w_i64 (by omega) (by omega)) (gR 2 rfl ?_))
     exact g_next (i + 1, true, out, _, _) ⟨by dsimp only;omega, by assumption, hI, by simp at hol ⊢;omega⟩ (by dsimp only;omega) (fun a F => F.only [49, 48, 47, 13, 14, 0, 12] rfl) (by (try dsimp only);repeat (first | exact .refl _ | with_reducible exact sC0 _ | with_reducible apply sC2 | apply sC1))
   ·replace h1 := dqV h1
    refine gR 14 rfl (g_ifT rfl (bne_iff_ne.2 (by omega)) (gR 2 rfl (g_ldA 0 rfl rfl (ro_all ‹_›) ?_)))
    refine g_bs rfl rfl rfl (ro_build1 ‹_›) (fun b70 => ?_)
    refine g_app 2 0 (enc := roC) rfl rfl ‹_› rfl rfl (ro_len ‹_›) (by omega) (fun _ => rfl) (fun v71 es71 hO71 => ?_) (ro_one _)
    refine gR 5 rfl (g_add rfl rfl (w_i64 (by omega) (by omega)) (gR 2 rfl ?_))
    exact g_next (i + 1, true, out ++ [x], _, _) ⟨by dsimp only;omega, by assumption, app_is hI hxi, by simp at hol ⊢;omega⟩ (by dsimp only;omega) (fun a F => F.only [49, 48, 47, 13, 14, 0, 12] rfl) (by (try dsimp only);repeat (first | exact .refl _ | with_reducible exact sC0 _ | with_reducible apply sC2 | apply sC1))
 ·have hli : i = l.length := by omega
  have hol3 : out.length ≤ i + 1 := by cases d <;> simp at hol <;> omega
  obtain ⟨q4, c4, rfl, hq4⟩ := own_q hOs
  cases d
  ·replace hol : out.length ≤ i := by simpa using hol
   refine gR 6 rfl (g_ifF rfl (dqF (by omega)) (gR 2 rfl (g_outX (gR 12 rfl (g_ldA 1 rfl rfl (ro_all ‹_›) ?_)))))
   refine g_bs rfl rfl rfl (ro_build1 ‹_›) (fun b77 => ?_)
   refine g_app 1 0 (enc := roC) rfl rfl ‹_› rfl rfl (ro_len ‹_›) (by omega) (fun _ => rfl) (fun v78 es78 hO78 => ?_) (ro_one _)
   refine gR 7 rfl (g_len rfl ‹_› ?_)
   refine gR 3 rfl (g_if rfl (fun h1 => ?_) (fun h1 => ?_))
   ·replace h1 := dqU h1
    exact gR 8 rfl (g_ret2 rfl rfl rfl rfl fun w M => PhRs.zero M.ext)
   ·replace h1 := dqV h1
    exact gR 10 rfl (g_ret2 rfl rfl rfl rfl fun w M => ⟨_, out ++ [⟨t, nb, dd, laterV now 10⟩], 0, _, rfl, by assumption, app_is hI nwI, by omega, M.sub (List.sublist_flatten_of_mem (by simp))⟩)
  ·refine gR 6 rfl ?_
   refine g_ifF rfl (dqF (by omega)) (gR 2 rfl (g_outX (gR 20 rfl (g_if rfl (fun h1 => ?_) (fun h1 => ?_)))))
   ·replace h1 := dqU h1
    exact gR 8 rfl (g_ret2 rfl rfl rfl rfl fun w M => PhRs.zero M.ext)
   ·replace h1 := dqV h1
    exact gR 10 rfl (g_ret2 rfl rfl rfl rfl fun w M => ⟨_, out, 0, _, rfl, by assumption, hI, by omega, M.sub (List.sublist_flatten_of_mem (by simp))⟩)
theorem putE_c (l : List InsV) (hx : ∀ x ∈ l, IsIn x) (hl : l.length ≤ 1000) (v : Value) (y : InsV) (nwI : IsIn y) (W : World) (hS : SlAt W 40 v l.length (insC l)) : Cal Tryz.prog 145 [v, .agg (inC y).toArray].toArray W fun r w' => ∃ (m : List InsV) (ent : List (Nat × Obj)), OwnS 74 40 r m.length (insC m) ent ∧ (∀ y ∈ m, IsIn y) ∧ m.length ≤ l.length + 1 ∧ Mem [] W w' ent := by
 obtain ⟨q, cap, rfl, _⟩ := id hS
 have hm := hS.memB [] (by simp)
 have yd : IsDv y.to := nwI.1
 refine g_start (n := 45) (S := []) fldT_ok slcT_ok Tryz.func145 rfl rfl rfl (gR 2 rfl (g_box rfl rfl fun b3 => gR 22 rfl (g_pad (g_loop (ι := Nat × Bool × (List InsV) × Value × (List (Nat × Obj))) ⟨fun (i, d, out, u, es) => l.length - i, fun (i, d, out, u, es) => i ≤ l.length ∧ (OwnS 74 40 u out.length (insC out) es) ∧ (∀ y ∈ out, IsIn y) ∧ (out.length ≤ i + d.toNat), fun (i, d, out, u, es) => [(12, .int .i64 i), (11, .int .i64 l.length), (10, .slice q l.length cap), (5, u), (6, .bool d), (0, .slice q l.length cap), (3, .pointer (some ⟨b3, 0, none⟩))], fun (i, d, out, u, es) => [es, [(b3, .cells (inC y).toArray 74 (0, 0))]]⟩ (0, false, [], _, []) ⟨by omega, OwnS.nilL _ _ _, fun y hy => (List.not_mem_nil hy).elim, by simp⟩ (fun a F => F.only [12, 11, 10, 5, 6, 0, 3] rfl) (by repeat (first | exact .refl _ | apply sC2 | apply sC1)) ?_))))
 rintro ⟨i, d, out, u, es⟩ ⟨hi_i, hOs, hI, hol⟩
 dsimp only
 by_cases hlt_i : i < l.length
 ·obtain ⟨b, o, cs, t', fz, rfl, hb, hs⟩ := hm (by omega)
  obtain ⟨x, hx0⟩ : ∃ x, x = l[i] := ⟨_, rfl⟩
  have hxm : x ∈ l := by rw [hx0];exact List.getElem_mem hlt_i
  have hxi : IsIn x := hx _ hxm
  have f1 : seg cs (o + (i : Int).toNat * 40) 40 = some (inC x) := by rw [hx0];exact seg_el (ins_len hx) hs hlt_i (by omega)
  have xd : IsDv x.to := hxi.1
  have hol3 : out.length ≤ i + 1 := by cases d <;> simp at hol <;> omega
  have hol4 : (out ++ [(y : InsV)]).length = out.length + 1 := by simp
  cases d
  ·replace hol : out.length ≤ i := by simpa using hol
   refine gR 6 rfl (g_ifT rfl (dqT (by omega)) (gR 6 rfl (g_ixS rfl rfl (by omega) (by omega) (g_leA rfl ‹_› (by with_reducible assumption) ?_))))
   refine g_alloc fun b8 => g_stA 0 rfl rfl (in_len ‹_›) (in_one _) rfl (put_all (by rw [in_len ‹_›];first | rfl | rw [in_len ‹_›])) rfl ?_
   refine gR 5 rfl (g_ldA 0 rfl rfl (in_to ‹_›) ?_)
   refine gR 1 rfl (g_ldA 2 rfl rfl (in_to ‹_›) ?_)
   refine g_call rfl rfl (fun w M => rcompare_c _ _ ‹_› ‹_› _) ?_
   refine gR 9 rfl (g_split 23 rfl (fun h1 => ?_) (fun h1 => ?_))
   ·replace h1 := dqU h1
    refine gR 9 rfl (g_ldA 2 rfl rfl (in_all ‹_›) ?_)
    refine g_bs rfl rfl rfl (in_build1 ‹_›) (fun b29 => ?_)
    refine g_app 2 0 (enc := inC) rfl rfl ‹_› rfl rfl (in_len ‹_›) (by omega) (fun _ => rfl) (fun v30 es30 hO30 => ?_) (in_one _)
    refine gR 13 rfl (g_if rfl (fun h2 => ?_) (fun h2 => ?_))
    ·replace h2 := ne_of_bne h2
     refine gR 2 rfl (g_ldA 1 rfl rfl (in_all ‹_›) ?_)
     refine g_bs rfl rfl rfl (in_build1 ‹_›) (fun b35 => ?_)
     refine g_app 3 0 (enc := inC) rfl rfl ‹_› rfl rfl (in_len ‹_›) (by omega) (fun _ => rfl) (fun v36 es36 hO36 => ?_) (in_one _)
     refine gR 5 rfl (g_add rfl rfl (w_i64 (by omega) (by omega)) (gR 2 rfl ?_))
     exact g_next (i + 1, true, (out ++ [y]) ++ [x], _, _) ⟨by dsimp only;omega, by assumption, app_is (app_is hI nwI) hxi, by simp at hol ⊢;omega⟩ (by dsimp only;omega) (fun a F => F.only [12, 11, 10, 5, 6, 0, 3] rfl) (by (try dsimp only);repeat (first | exact .refl _ | with_reducible exact sC0 _ | with_reducible apply sC2 | apply sC1))
    ·replace h2 := eq_of_bne_false h2
     refine gR 4 rfl (g_add rfl rfl (w_i64 (by omega) (by omega)) (gR 2 rfl ?_))
     exact g_next (i + 1, true, out ++ [y], _, _) ⟨by dsimp only;omega, by assumption, app_is hI nwI, by simp at hol ⊢;omega⟩ (by dsimp only;omega) (fun a F => F.only [12, 11, 10, 5, 6, 0, 3] rfl) (by (try dsimp only);repeat (first | exact .refl _ | with_reducible exact sC0 _ | with_reducible apply sC2 | apply sC1))
   ·replace h1 := dqV h1
    refine gR 14 rfl (g_ifT rfl (bne_iff_ne.2 (by omega)) (gR 2 rfl (g_ldA 0 rfl rfl (in_all ‹_›) ?_)))
    refine g_bs rfl rfl rfl (in_build1 ‹_›) (fun b35 => ?_)
    refine g_app 2 0 (enc := inC) rfl rfl ‹_› rfl rfl (in_len ‹_›) (by omega) (fun _ => rfl) (fun v36 es36 hO36 => ?_) (in_one _)
    refine gR 5 rfl (g_add rfl rfl (w_i64 (by omega) (by omega)) (gR 2 rfl ?_))
    exact g_next (i + 1, false, out ++ [x], _, _) ⟨by dsimp only;omega, by assumption, app_is hI hxi, by simp at hol ⊢;omega⟩ (by dsimp only;omega) (fun a F => F.only [12, 11, 10, 5, 6, 0, 3] rfl) (by (try dsimp only);repeat (first | exact .refl _ | with_reducible exact sC0 _ | with_reducible apply sC2 | apply sC1))
  ·refine gR 6 rfl ?_
   refine g_ifT rfl (dqT (by omega)) (gR 6 rfl (g_ixS rfl rfl (by omega) (by omega) (g_leA rfl ‹_› (by with_reducible assumption) ?_)))
   refine g_alloc fun b8 => g_stA 0 rfl rfl (in_len ‹_›) (in_one _) rfl (put_all (by rw [in_len ‹_›];first | rfl | rw [in_len ‹_›])) rfl ?_
   refine gR 5 rfl (g_ldA 0 rfl rfl (in_to ‹_›) ?_)
   refine gR 1 rfl (g_ldA 2 rfl rfl (in_to ‹_›) ?_)
   refine g_call rfl rfl (fun w M => rcompare_c _ _ ‹_› ‹_› _) ?_
   refine gR 9 rfl (g_split 23 rfl (fun h1 => ?_) (fun h1 => ?_))
   ·replace h1 := dqU h1
    refine gR 14 rfl (g_if rfl (fun h2 => ?_) (fun h2 => ?_))
    ·replace h2 := ne_of_bne h2
     refine gR 2 rfl (g_ldA 0 rfl rfl (in_all ‹_›) ?_)
     refine g_bs rfl rfl rfl (in_build1 ‹_›) (fun b35 => ?_)
     refine g_app 2 0 (enc := inC) rfl rfl ‹_› rfl rfl (in_len ‹_›) (by omega) (fun _ => rfl) (fun v36 es36 hO36 => ?_) (in_one _)
     refine gR 5 rfl (g_add rfl rfl (w_i64 (by omega) (by omega)) (gR 2 rfl ?_))
     exact g_next (i + 1, true, out ++ [x], _, _) ⟨by dsimp only;omega, by assumption, app_is hI hxi, by simp at hol ⊢;omega⟩ (by dsimp only;omega) (fun a F => F.only [12, 11, 10, 5, 6, 0, 3] rfl) (by (try dsimp only);repeat (first | exact .refl _ | with_reducible exact sC0 _ | with_reducible apply sC2 | apply sC1))
    ·replace h2 := eq_of_bne_false h2
     refine gR 4 rfl (g_add rfl rfl (w_i64 (by omega) (by omega)) (gR 2 rfl ?_))
     exact g_next (i + 1, true, out, _, _) ⟨by dsimp only;omega, by assumption, hI, by simp at hol ⊢;omega⟩ (by dsimp only;omega) (fun a F => F.only [12, 11, 10, 5, 6, 0, 3] rfl) (by (try dsimp only);repeat (first | exact .refl _ | with_reducible exact sC0 _ | with_reducible apply sC2 | apply sC1))
   ·replace h1 := dqV h1
    refine gR 14 rfl (g_ifT rfl (bne_iff_ne.2 (by omega)) (gR 2 rfl (g_ldA 0 rfl rfl (in_all ‹_›) ?_)))
    refine g_bs rfl rfl rfl (in_build1 ‹_›) (fun b35 => ?_)
    refine g_app 2 0 (enc := inC) rfl rfl ‹_› rfl rfl (in_len ‹_›) (by omega) (fun _ => rfl) (fun v36 es36 hO36 => ?_) (in_one _)
    refine gR 5 rfl (g_add rfl rfl (w_i64 (by omega) (by omega)) (gR 2 rfl ?_))
    exact g_next (i + 1, true, out ++ [x], _, _) ⟨by dsimp only;omega, by assumption, app_is hI hxi, by simp at hol ⊢;omega⟩ (by dsimp only;omega) (fun a F => F.only [12, 11, 10, 5, 6, 0, 3] rfl) (by (try dsimp only);repeat (first | exact .refl _ | with_reducible exact sC0 _ | with_reducible apply sC2 | apply sC1))
 ·have hli : i = l.length := by omega
  have hol3 : out.length ≤ i + 1 := by cases d <;> simp at hol <;> omega
  obtain ⟨q4, c4, rfl, hq4⟩ := own_q hOs
  cases d
  ·replace hol : out.length ≤ i := by simpa using hol
   refine gR 6 rfl (g_ifF rfl (dqF (by omega)) (gR 2 rfl (g_outX (gR 12 rfl (g_ldA 1 rfl rfl (in_all ‹_›) ?_)))))
   refine g_bs rfl rfl rfl (in_build1 ‹_›) (fun b42 => ?_)
   refine g_app 1 0 (enc := inC) rfl rfl ‹_› rfl rfl (in_len ‹_›) (by omega) (fun _ => rfl) (fun v43 es43 hO43 => ?_) (in_one _)
   refine gR 10 rfl (g_ret1 rfl rfl rfl fun w M => ?_)
   exact ⟨out ++ [y], _, by assumption, app_is hI nwI, by first | omega | (simp;omega), M.sub (List.sublist_flatten_of_mem (by simp))⟩
  ·refine gR 6 rfl ?_
   refine g_ifF rfl (dqF (by omega)) (gR 2 rfl (g_outX (gR 19 rfl (g_ret1 rfl rfl rfl fun w M => ?_))))
   exact ⟨out, _, by assumption, hI, by first | omega | (simp;omega), M.sub (List.sublist_flatten_of_mem (by simp))⟩
theorem sourcesE_c {bt : Nat} {p : Option Addr} {len cap k : Nat} {xs : List Int} (now : Int) (hnow : 0 ≤ now ∧ now ≤ 1099511627776) (W : World) (hT : TapeS W bt p len xs) (hb : W.heap[bt]? = some (tobj p len cap k)) : Cal Tryz.prog 60 [.pointer (some ⟨bt, 0, none⟩), .int .i64 now].toArray W fun r w' => ∃ (l : List SrcV) (k' : Nat) (ent : List (Nat × Obj)), OwnS 166 38 r l.length (srsC l) ent ∧ (∀ x ∈ l, IsSr x) ∧ l.length ≤ 256 ∧ Mem [bt] W w' ((bt, tobj p len cap k') :: ent) := by
 have n5 := nxV_bd xs k (n := 7) (by omega)
 refine g_startB (n := 31) [bt] hb (by simp) fldT_ok slcT_ok Tryz.func60 rfl rfl rfl (gR 14 rfl (g_callT1 0 rfl rfl rfl (fun w M => next_c _ (by omega) (by omega) w (hT.later M.ext) (M.at_ _ (nthO_mem (i := 0) rfl))) rfl (gR 4 rfl (g_pad ?_))))
 refine g_loop (ι := Int × (List SrcV) × Value × (List (Nat × Obj)) × Nat) ⟨fun (d, out, u, es, k) => d.toNat, fun (d, out, u, es, k) => d ≤ 7 ∧ OwnS 166 38 u out.length (srsC out) es ∧ (∀ y ∈ out, IsSr y) ∧ out.length ≤ 256, fun (d, out, u, es, k) => [(6, .int .i64 d), (5, u), (0, .pointer (some ⟨bt, 0, none⟩)), (1, .int .i64 now)], fun (d, out, u, es, k) => [es, [(bt, tobj p len cap k)]]⟩ (_, [], _, [], _) ⟨by first | omega | (dsimp only;omega), OwnS.nilL _ _ _, fun y hy => (List.not_mem_nil hy).elim, by simp⟩ (fun a F => F.only [6, 5, 0, 1] rfl) (by repeat (first | exact .refl _ | apply sC2 | apply sC1)) ?_
 clear n5
 rintro ⟨d, out, u, es, k⟩ ⟨hd, hOs, hI, hol⟩
 dsimp only at hd hOs hI hol ⊢
 by_cases hlt : 0 < d
 ·refine gR 7 rfl ?_
  refine g_ifT rfl (dqT (by omega)) (gR 9 rfl ?_)
  refine g_callT (ι := Int × Nat) 1 (fun j => .int .i64 j.1) (fun j => True) (fun j => tobj p len cap j.2) (fun _ => []) rfl rfl rfl (fun w M => Cal.mono (wtimeE_c now hnow.1 hnow.2 w (hT.later M.ext) (M.at_ _ (nthO_mem (i := 1) rfl))) fun r w' h => by
    obtain ⟨x, k', q, _, N⟩ := h
    exact ⟨(x, k'), q, trivial, by simpa using N⟩) (fun _ => rfl) ?_
  rintro ⟨tm, k1⟩ -
  dsimp only [List.nil_append]
  refine gR 1 rfl ?_
  refine g_callT (ι := DstV × Nat) 1 (fun j => dvV j.1) (fun j => IsDv j.1) (fun j => tobj p len cap j.2) (fun _ => []) rfl rfl rfl (fun w M => Cal.mono (toE_c w (hT.later M.ext) (M.at_ _ (nthO_mem (i := 1) rfl))) fun r w' h => by
    obtain ⟨x, k', q, h1, _, N⟩ := h
    exact ⟨(x, k'), q, h1, by simpa using N⟩) (fun _ => rfl) ?_
  rintro ⟨x, k2⟩ xd
  dsimp only [List.nil_append] at xd ⊢
  unfold dvV
  refine gR 1 rfl ?_
  refine g_callT (ι := DisV × Nat) 1 (fun j => diV j.1) (fun j => True) (fun j => tobj p len cap j.2) (fun _ => []) rfl rfl rfl (fun w M => Cal.mono (distE_c w (hT.later M.ext) (M.at_ _ (nthO_mem (i := 1) rfl))) fun r w' h => by
    obtain ⟨x, k', q, _, N⟩ := h
    exact ⟨(x, k'), q, trivial, by simpa using N⟩) (fun _ => rfl) ?_
  rintro ⟨di, k3⟩ -
  dsimp only [List.nil_append]
  unfold diV
  skip
  refine g_callN (ι := Value × (List SrcV) × Int × List (Nat × Obj)) (fun j => .tuple #[j.1, .int .i64 j.2.2.1]) (fun j => OwnS 166 38 j.1 j.2.1.length (srsC j.2.1) j.2.2.2 ∧ (∀ y ∈ j.2.1, IsSr y) ∧ j.2.1.length ≤ 256) (fun j => [j.2.2.2]) rfl rfl (fun w M => Cal.mono (recE_c out hI u tm x xd di w (hOs.slAt M (fun q hq => List.mem_append_left _ hq))) fun r w' h => by
   obtain ⟨u, m, c, ent, q, h1, h2, h3, N⟩ := h
   exact ⟨(u, m, c, ent), q, ⟨h1, h2, h3⟩, by simpa using N⟩) ?_
  rintro ⟨u1, m1, c1, e1⟩ ⟨hO1, hI1, hl1⟩
  dsimp only [List.cons_append, List.nil_append] at hO1 hI1 hl1 ⊢
  refine gR 13 rfl (g_if rfl (fun h1 => ?_) (fun h1 => ?_))
  ·replace h1 := dqU h1
   refine gR 8 rfl (g_sub rfl rfl (w_i64 (by omega) (by omega)) (gR 2 rfl ?_))
   exact g_next (d - 1, m1, _, _, _) ⟨by dsimp only;omega, by assumption, hI1, hl1⟩ (by dsimp only;omega) (fun a F => F.only [6, 5, 0, 1] rfl) (by (try dsimp only);repeat (first | exact .refl _ | with_reducible exact sC0 _ | with_reducible apply sC2 | apply sC1))
  ·replace h1 := dqV h1
   refine gR 5 rfl (g_sub rfl rfl (w_i64 (by omega) (by omega)) (gR 2 rfl ?_))
   exact g_next (d - 1, out, _, _, _) ⟨by dsimp only;omega, by assumption, hI, hol⟩ (by dsimp only;omega) (fun a F => F.only [6, 5, 0, 1] rfl) (by (try dsimp only);repeat (first | exact .refl _ | with_reducible exact sC0 _ | with_reducible apply sC2 | apply sC1))
 ·refine gR 7 rfl ?_
  exact g_ifF rfl (dqF (by omega)) (gR 2 rfl (g_outX (gR 9 rfl (g_ret1 rfl rfl rfl fun w M => ⟨out, _, es, hOs, hI, hol, M.perm List.perm_append_comm⟩))))
theorem routesE_c {bt : Nat} {p : Option Addr} {len cap k : Nat} {xs : List Int} (now : Int) (hnow : 0 ≤ now ∧ now ≤ 1099511627776) (W : World) (hT : TapeS W bt p len xs) (hb : W.heap[bt]? = some (tobj p len cap k)) : Cal Tryz.prog 61 [.pointer (some ⟨bt, 0, none⟩), .int .i64 now].toArray W fun r w' => ∃ (l : List RouV) (k' : Nat) (ent : List (Nat × Obj)), OwnS 76 39 r l.length (rosC l) ent ∧ (∀ x ∈ l, IsRo x) ∧ l.length ≤ 512 ∧ Mem [bt] W w' ((bt, tobj p len cap k') :: ent) := by
 have n5 := nxV_bd xs k (n := 10) (by omega)
 refine g_startB (n := 33) [bt] hb (by simp) fldT_ok slcT_ok Tryz.func61 rfl rfl rfl (gR 14 rfl (g_callT1 0 rfl rfl rfl (fun w M => next_c _ (by omega) (by omega) w (hT.later M.ext) (M.at_ _ (nthO_mem (i := 0) rfl))) rfl (gR 4 rfl (g_pad ?_))))
 refine g_loop (ι := Int × (List RouV) × Value × (List (Nat × Obj)) × Nat) ⟨fun (d, out, u, es, k) => d.toNat, fun (d, out, u, es, k) => d ≤ 10 ∧ OwnS 76 39 u out.length (rosC out) es ∧ (∀ y ∈ out, IsRo y) ∧ out.length ≤ 512, fun (d, out, u, es, k) => [(6, .int .i64 d), (5, u), (0, .pointer (some ⟨bt, 0, none⟩)), (1, .int .i64 now)], fun (d, out, u, es, k) => [es, [(bt, tobj p len cap k)]]⟩ (_, [], _, [], _) ⟨by first | omega | (dsimp only;omega), OwnS.nilL _ _ _, fun y hy => (List.not_mem_nil hy).elim, by simp⟩ (fun a F => F.only [6, 5, 0, 1] rfl) (by repeat (first | exact .refl _ | apply sC2 | apply sC1)) ?_
 clear n5
 rintro ⟨d, out, u, es, k⟩ ⟨hd, hOs, hI, hol⟩
 dsimp only at hd hOs hI hol ⊢
 by_cases hlt : 0 < d
 ·refine gR 7 rfl ?_
  refine g_ifT rfl (dqT (by omega)) (gR 9 rfl ?_)
  refine g_callT (ι := Int × Nat) 1 (fun j => .int .i64 j.1) (fun j => True) (fun j => tobj p len cap j.2) (fun _ => []) rfl rfl rfl (fun w M => Cal.mono (wtimeE_c now hnow.1 hnow.2 w (hT.later M.ext) (M.at_ _ (nthO_mem (i := 1) rfl))) fun r w' h => by
    obtain ⟨x, k', q, _, N⟩ := h
    exact ⟨(x, k'), q, trivial, by simpa using N⟩) (fun _ => rfl) ?_
  rintro ⟨tm, k1⟩ -
  dsimp only [List.nil_append]
  refine gR 1 rfl ?_
  refine g_callT (ι := DstV × Nat) 1 (fun j => dvV j.1) (fun j => IsDv j.1) (fun j => tobj p len cap j.2) (fun _ => []) rfl rfl rfl (fun w M => Cal.mono (toE_c w (hT.later M.ext) (M.at_ _ (nthO_mem (i := 1) rfl))) fun r w' h => by
    obtain ⟨x, k', q, h1, _, N⟩ := h
    exact ⟨(x, k'), q, h1, by simpa using N⟩) (fun _ => rfl) ?_
  rintro ⟨x, k2⟩ xd
  dsimp only [List.nil_append] at xd ⊢
  unfold dvV
  refine gR 1 rfl ?_
  refine g_callT (ι := Int × Nat) 1 (fun j => .int .u64 j.1) (fun j => True) (fun j => tobj p len cap j.2) (fun _ => []) rfl rfl rfl (fun w M => Cal.mono (euiW_c w (hT.later M.ext) (M.at_ _ (nthO_mem (i := 1) rfl))) fun r w' h => by
    obtain ⟨x, k', q, N⟩ := h
    exact ⟨(x, k'), q, trivial, by simpa using N⟩) (fun _ => rfl) ?_
  rintro ⟨nb, k3⟩ -
  dsimp only [List.nil_append]
  refine gR 1 rfl ?_
  refine g_callT (ι := DisV × Nat) 1 (fun j => diV j.1) (fun j => True) (fun j => tobj p len cap j.2) (fun _ => []) rfl rfl rfl (fun w M => Cal.mono (distE_c w (hT.later M.ext) (M.at_ _ (nthO_mem (i := 1) rfl))) fun r w' h => by
    obtain ⟨x, k', q, _, N⟩ := h
    exact ⟨(x, k'), q, trivial, by simpa using N⟩) (fun _ => rfl) ?_
  rintro ⟨di, k4⟩ -
  dsimp only [List.nil_append]
  unfold diV
  skip
  refine g_callN (ι := Value × (List RouV) × Int × List (Nat × Obj)) (fun j => .tuple #[j.1, .int .i64 j.2.2.1]) (fun j => OwnS 76 39 j.1 j.2.1.length (rosC j.2.1) j.2.2.2 ∧ (∀ y ∈ j.2.1, IsRo y) ∧ j.2.1.length ≤ 512) (fun j => [j.2.2.2]) rfl rfl (fun w M => Cal.mono (learnE_c out hI u tm x xd nb di w (hOs.slAt M (fun q hq => List.mem_append_left _ hq))) fun r w' h => by
   obtain ⟨u, m, c, ent, q, h1, h2, h3, N⟩ := h
   exact ⟨(u, m, c, ent), q, ⟨h1, h2, h3⟩, by simpa using N⟩) ?_
  rintro ⟨u1, m1, c1, e1⟩ ⟨hO1, hI1, hl1⟩
  dsimp only [List.cons_append, List.nil_append] at hO1 hI1 hl1 ⊢
  refine gR 13 rfl (g_if rfl (fun h1 => ?_) (fun h1 => ?_))
  ·replace h1 := dqU h1
   refine gR 8 rfl (g_sub rfl rfl (w_i64 (by omega) (by omega)) (gR 2 rfl ?_))
   exact g_next (d - 1, m1, _, _, _) ⟨by dsimp only;omega, by assumption, hI1, hl1⟩ (by dsimp only;omega) (fun a F => F.only [6, 5, 0, 1] rfl) (by (try dsimp only);repeat (first | exact .refl _ | with_reducible exact sC0 _ | with_reducible apply sC2 | apply sC1))
  ·replace h1 := dqV h1
   refine gR 5 rfl (g_sub rfl rfl (w_i64 (by omega) (by omega)) (gR 2 rfl ?_))
   exact g_next (d - 1, out, _, _, _) ⟨by dsimp only;omega, by assumption, hI, hol⟩ (by dsimp only;omega) (fun a F => F.only [6, 5, 0, 1] rfl) (by (try dsimp only);repeat (first | exact .refl _ | with_reducible exact sC0 _ | with_reducible apply sC2 | apply sC1))
 ·refine gR 7 rfl ?_
  exact g_ifF rfl (dqF (by omega)) (gR 2 rfl (g_outX (gR 9 rfl (g_ret1 rfl rfl rfl fun w M => ⟨out, _, es, hOs, hI, hol, M.perm List.perm_append_comm⟩))))
section
variable {c : Cx} {fr : List (Nat × Value)} {l : Row} {x : RX} {xs : List (Nat × XP)} {ty : TypeId} {pos : String} {af : Array Edge}
theorem opf_stA (i : Nat) {t : TypeId} {y z : Operand} {b off n : Nat} {cs cs' vs : List Value} {t' : TypeId} {l' : Row} [hs : TAgg c.P t n] (hx : Ev fr y = some (.pointer (some ⟨b, off, none⟩))) (hy : Ev fr z = some (.agg vs.toArray)) (hn : vs.length = n) (h1 : vs.all (·.oneCell') = true) (hl : nthO l i = some [(b, .cells cs.toArray t' (0, 0))]) (hp : put cs off vs = some cs') (hl' : setO l i [(b, .cells cs'.toArray t' (0, 0))] = some l') (hB : b ∈ x.B) :
  OpF c x xs ⟨none, .store t y z, ty, pos, af, none⟩ fr l (fun _ r => r = l') := fun a w F M _ => by
 have Mb : Mem [b] w w [(b, .cells cs.toArray t' (0, 0))] := ⟨Ext.refl _ _, fun p hp => by simp at hp;subst hp;exact M.at_ _ (nthO_mem hl), by simp, fun p hp => .inl (by simp at hp;subst hp;simp)⟩
 refine o_storeA Mb (F.e hx) (F.e hy) hn h1 .here hp .here fun w' M' => ?_
 exact ⟨M'.ext.mono fun k hk => by simp at hk;subst hk;exact hB, l', rfl, M.turned (setO_upd hl hl') M'.ext (M'.heap .here)⟩
end
theorem rows_b {a b c d : List (Nat × Obj)} : ([a, b, c, d] : Row).flatten.Perm (([b] : Row).flatten ++ ([a, c, d] : Row).flatten) := by
 simp only [List.flatten_cons, List.flatten_nil, List.append_nil]
 classical
 rw [List.perm_iff_count]
 intro x
 simp only [List.count_append]
 omega
theorem installedE_c {bt : Nat} {p : Option Addr} {len cap k : Nat} {xs : List Int} (now : Int) (hnow : 0 ≤ now ∧ now ≤ 1099511627776) (rl : List RouV) (hrx : ∀ x ∈ rl, IsRo x) (hrl : rl.length ≤ 1000) (v : Value) (W : World) (hS : SlAt W 39 v rl.length (rosC rl)) (hv : NewV (bt + 1) v) (hT : TapeS W bt p len xs) (hb : W.heap[bt]? = some (tobj p len cap k)) : Cal Tryz.prog 62 [.pointer (some ⟨bt, 0, none⟩), .int .i64 now, v].toArray W fun r w' => ∃ (l : List InsV) (k' : Nat) (ent : List (Nat × Obj)), OwnS 74 40 r l.length (insC l) ent ∧ (∀ x ∈ l, IsIn x) ∧ l.length ≤ 7 ∧ Mem [bt] W w' ((bt, tobj p len cap k') :: ent) := by
 obtain ⟨qr, cr, rfl, _⟩ := id hS
 have hm := hS.memB [bt] (fun b o s e hb => by have := hv b o s _ _ (by rw [e]);simp at hb;omega)
 have n5 := nxV_bd xs k (n := 8) (by omega)
 refine g_startB (n := 65) [bt] hb (by simp) fldT_ok slcT_ok Tryz.func62 rfl rfl rfl (gR 14 rfl (g_callT1 0 rfl rfl rfl (fun w M => next_c _ (by omega) (by omega) w (hT.later M.ext) (M.at_ _ (nthO_mem (i := 0) rfl))) rfl (gR 4 rfl (g_pad ?_))))
 refine g_loop (ι := Int × (List InsV) × Value × (List (Nat × Obj)) × Nat) ⟨fun (d, out, u, es, k) => d.toNat, fun (d, out, u, es, k) => 0 ≤ d ∧ d ≤ 7 ∧ OwnS 74 40 u out.length (insC out) es ∧ (∀ y ∈ out, IsIn y) ∧ (out.length : Int) + d ≤ 7, fun (d, out, u, es, k) => [(8, .int .i64 d), (7, u), (0, .pointer (some ⟨bt, 0, none⟩)), (1, .int .i64 now), (2, .slice qr rl.length cr)], fun (d, out, u, es, k) => [es, [(bt, tobj p len cap k)]]⟩ (_, [], _, [], _) ⟨by first | omega | (dsimp only;omega), by first | omega | (dsimp only;omega), OwnS.nilL _ _ _, fun y hy => (List.not_mem_nil hy).elim, by first | (simp;omega) | (dsimp only;simp;omega)⟩ (fun a F => F.only [8, 7, 0, 1, 2] rfl) (by repeat (first | exact .refl _ | apply sC2 | apply sC1)) ?_
 clear n5
 rintro ⟨d, out, u, es, k⟩ ⟨hd0, hd, hOs, hI, hol⟩
 dsimp only at hd0 hd hOs hI hol ⊢
 by_cases hlt : 0 < d
 ·refine gR 7 rfl ?_
  refine g_ifT rfl (dqT (by omega)) (gR 7 rfl ?_)
  refine g_callT (ι := DstV × Nat) 1 (fun j => dvV j.1) (fun j => IsDv j.1) (fun j => tobj p len cap j.2) (fun _ => []) rfl rfl rfl (fun w M => Cal.mono (toE_c w (hT.later M.ext) (M.at_ _ (nthO_mem (i := 1) rfl))) fun r w' h => by
    obtain ⟨x, k', q, h1, _, N⟩ := h
    exact ⟨(x, k'), q, h1, by simpa using N⟩) (fun _ => rfl) ?_
  rintro ⟨x, k2⟩ xd
  dsimp only [List.nil_append] at xd ⊢
  unfold dvV
  refine gR 1 rfl ?_
  refine g_callT (ι := Int × Nat) 1 (fun j => .int .u64 j.1) (fun j => True) (fun j => tobj p len cap j.2) (fun _ => []) rfl rfl rfl (fun w M => Cal.mono (euiW_c w (hT.later M.ext) (M.at_ _ (nthO_mem (i := 1) rfl))) fun r w' h => by
    obtain ⟨x, k', q, N⟩ := h
    exact ⟨(x, k'), q, trivial, by simpa using N⟩) (fun _ => rfl) ?_
  rintro ⟨nb, k3⟩ -
  dsimp only [List.nil_append]
  refine gR 1 rfl ?_
  refine g_callT (ι := DisV × Nat) 1 (fun j => diV j.1) (fun j => True) (fun j => tobj p len cap j.2) (fun _ => []) rfl rfl rfl (fun w M => Cal.mono (distE_c w (hT.later M.ext) (M.at_ _ (nthO_mem (i := 1) rfl))) fun r w' h => by
    obtain ⟨x, k', q, _, N⟩ := h
    exact ⟨(x, k'), q, trivial, by simpa using N⟩) (fun _ => rfl) ?_
  rintro ⟨di, k4⟩ -
  dsimp only [List.nil_append]
  unfold diV
  have hmk := in_mk x xd nb di (-1) 0
  have y0 : IsIn ⟨x, nb, di, -1, 0⟩ := ⟨xd, trivial⟩
  refine g_v (fun a w F M R r => o_build F rfl (in_mk4 _ ‹_› _ _ _) r) ?_
  refine g_alloc fun b9 => g_stA 0 rfl rfl (in_len ‹_›) (in_one _) rfl (put_all (by rw [in_len ‹_›];first | rfl | rw [in_len ‹_›])) rfl ?_
  refine gR 3 rfl (g_cutC (ι := InsV × Nat) ⟨fun (y, k) => IsIn y, fun (y, k) => [(9, .pointer (some ⟨b9, 0, none⟩)), (8, .int .i64 d), (7, u), (0, .pointer (some ⟨bt, 0, none⟩)), (1, .int .i64 now), (2, .slice qr rl.length cr)], fun (y, k) => [[(b9, .cells (inC y).toArray 74 (0, 0))], es, [(bt, tobj p len cap k)]]⟩ ?_ ?_)
  ·by_cases hr : 0 < rl.length
   ·obtain ⟨br, orr, csr, tr, fzr, rfl, hbr, hsr⟩ := hm hr
    refine gR 6 rfl (g_know 27 rfl (dqT (by omega)) (gR 1 rfl (g_callT1 2 rfl rfl rfl (fun w M => bool_c _ (by omega) (by omega) w (hT.later M.ext) (M.at_ _ (nthO_mem (i := 2) rfl))) rfl (gR 3 rfl (g_if rfl (fun h1 => ?_) (fun h1 => ?_))))))
    focus
     replace h1 := dqU h1
     refine gR 6 rfl ?_
    rotate_left 1
    focus
     replace h1 := dqV h1
     exact gR 1 rfl (g_join (⟨x, nb, di, -1, 0⟩, _) y0 (fun a F => F.only [9, 8, 7, 0, 1, 2] rfl) (by (try dsimp only);repeat (first | exact .refl _ | with_reducible exact sC0 _ | with_reducible apply sC2 | apply sC1)))
    refine g_callT (ι := Int × Nat) 2 (fun j => .int .i64 j.1) (fun j => 0 ≤ j.1 ∧ j.1 < rl.length) (fun j => tobj p len cap j.2) (fun _ => []) rfl rfl rfl (fun w M => Cal.mono (next_c (rl.length : Int) (by omega) (by omega) w (hT.later M.ext) (M.at_ _ (nthO_mem (i := 2) rfl))) fun r w2 h => ⟨(_, _), h.1, nxV_bd xs _ (by omega), by simpa using h.2⟩) (fun _ => rfl) ?_
    rintro ⟨j, k5⟩ ⟨j0, j1⟩
    dsimp only [List.nil_append] at j0 j1 ⊢
    obtain ⟨z, hz⟩ : ∃ z, z = rl[j.toNat]'(by omega) := ⟨_, rfl⟩
    have zI : IsRo z := by rw [hz];exact hrx _ (List.getElem_mem _)
    have fz1 : seg csr (orr + j.toNat * 39) 39 = some (roC z) := by rw [hz];exact seg_el (ros_len hrx) hsr (by omega) (by omega)
    have zd : IsDv z.to := zI.1
    have y1 : IsIn ⟨z.to, nb, di, -1, 0⟩ := ⟨zd, trivial⟩
    refine g_ixS rfl rfl (by omega) (by omega) (g_leA rfl ‹_› (by with_reducible assumption) ?_)
    refine g_alloc fun b10 => g_stA 0 rfl rfl (ro_len ‹_›) (ro_one _) rfl (put_all (by rw [ro_len ‹_›];first | rfl | rw [ro_len ‹_›])) rfl ?_
    refine gR 2 rfl (gR 1 rfl (g_drawE 6 65 [b9] [5] [] [[(b9, .cells (inC ⟨x, nb, di, -1, 0⟩).toArray 74 (0, 0))]] [[(b10, .cells (roC z).toArray 76 (0, 0))], es, [(bt, tobj p len cap k5)]] rfl (by kernel_rfl) rows_b (by simp) (fe_start ?_)))
    refine fe_run 60 rfl (fe_v (fun a2 w F M R r => o_loadHA (F.e rfl) (M.at_ _ (nthO_mem (i := 0) rfl)) (ro_to zI) r) (fe_run 60 rfl (fe_v (fun a2 w F M R r => o_loadH1 (F.e rfl) (M.at_ _ (nthO_mem (i := 0) rfl)) (ro_nb zI) r) (fe_run 60 rfl (fe_opN (fun _ => [[(b10, .cells (roC z).toArray 76 (0, 0))], [(b9, .cells (inC ⟨z.to, nb, di, -1, 0⟩).toArray 74 (0, 0))], es, [(bt, tobj p len cap k5)]]) [] (fun i hi => ?_) ?_)))))
    ·exact opf_stA 1 rfl rfl (dv_len zd) (dv_one _) rfl (in_put_to y0 zd) rfl (.head _)
    refine fe_fin rfl (by rintro i _ q hq;simp at hq) ?_
    rintro _ _
    refine ⟨_, rfl, ?_⟩
    refine gR 1 rfl (g_st1 1 rfl rfl rfl rfl (in_put_nb ‹_› _) rfl ?_)
    exact gR 1 rfl (g_join (⟨z.to, z.nb, di, -1, 0⟩, _) ⟨zd, trivial⟩ (fun a F => F.only [9, 8, 7, 0, 1, 2] rfl) (by (try dsimp only);repeat (first | exact .refl _ | with_reducible exact sC0 _ | with_reducible apply sC2 | apply sC1)))
   ·refine gR 6 rfl ?_
    exact g_know 27 rfl (dqF (by omega)) (gR 7 rfl (g_join (⟨x, nb, di, -1, 0⟩, _) y0 (fun a F => F.only [9, 8, 7, 0, 1, 2] rfl) (by (try dsimp only);repeat (first | exact .refl _ | with_reducible exact sC0 _ | with_reducible apply sC2 | apply sC1))))
  rintro ⟨y, k5⟩ yI
  dsimp only at yI ⊢
  have n3 := nxV_bd xs k5 (n := 3) (by omega)
  refine gR 5 rfl (g_callT1 2 rfl rfl rfl (fun w M => next_c _ (by omega) (by omega) w (hT.later M.ext) (M.at_ _ (nthO_mem (i := 2) rfl))) rfl (gR 3 rfl (g_cutC (ι := InsV × Nat) ⟨fun (y, k) => IsIn y, fun (y, k) => [(9, .pointer (some ⟨b9, 0, none⟩)), (8, .int .i64 d), (7, u), (0, .pointer (some ⟨bt, 0, none⟩)), (1, .int .i64 now), (2, .slice qr rl.length cr)], fun (y, k) => [[(b9, .cells (inC y).toArray 74 (0, 0))], es, [(bt, tobj p len cap k)]]⟩ ?_ ?_)))
  ·refine gR 6 rfl ?_
   refine g_if rfl (fun h1 => ?_) (fun h1 => ?_)
   focus
    replace h1 := dqU h1
    refine gR 3 rfl ?_
   rotate_left 1
   focus
    replace h1 := dqV h1
    refine gR 6 rfl (g_if rfl (fun h2 => ?_) (fun h2 => ?_))
    focus
     replace h2 := dqU h2
     refine gR 3 rfl ?_
    rotate_left 1
    focus
     replace h2 := dqV h2
     exact gR 1 rfl (g_join (y, _) yI (fun a F => F.only [9, 8, 7, 0, 1, 2] rfl) (by (try dsimp only);repeat (first | exact .refl _ | with_reducible exact sC0 _ | with_reducible apply sC2 | apply sC1)))
   rotate_right 1
   ·refine g_callT (ι := Int × Nat) 2 (fun j => .int .i64 j.1) (fun j => True) (fun j => tobj p len cap j.2) (fun _ => []) rfl rfl rfl (fun w M => Cal.mono (wtimeE_c now hnow.1 hnow.2 w (hT.later M.ext) (M.at_ _ (nthO_mem (i := 2) rfl))) fun r w' h => by
      obtain ⟨x, k', q, _, N⟩ := h
      exact ⟨(x, k'), q, trivial, by simpa using N⟩) (fun _ => rfl) ?_
    rintro ⟨tm, k6⟩ -
    dsimp only [List.nil_append]
    refine gR 1 rfl (g_st1 0 rfl rfl rfl rfl (in_put_btn ‹_› _) rfl ?_)
    exact gR 1 rfl (g_join ({ y with btn := tm }, _) yI (fun a F => F.only [9, 8, 7, 0, 1, 2] rfl) (by (try dsimp only);repeat (first | exact .refl _ | with_reducible exact sC0 _ | with_reducible apply sC2 | apply sC1)))
   ·refine g_callT (ι := Int × Nat) 2 (fun j => .int .i64 j.1) (fun j => True) (fun j => tobj p len cap j.2) (fun _ => []) rfl rfl rfl (fun w M => Cal.mono (wtimeE_c now hnow.1 hnow.2 w (hT.later M.ext) (M.at_ _ (nthO_mem (i := 2) rfl))) fun r w' h => by
      obtain ⟨x, k', q, _, N⟩ := h
      exact ⟨(x, k'), q, trivial, by simpa using N⟩) (fun _ => rfl) ?_
    rintro ⟨tm, k6⟩ -
    dsimp only [List.nil_append]
    refine gR 1 rfl (g_st1 0 rfl rfl rfl rfl (in_put_nb ‹_› _) rfl ?_)
    refine gR 2 rfl (g_st1 0 rfl rfl rfl rfl (in_put_own_met ‹_› _) rfl ?_)
    refine gR 1 rfl (g_st1 0 rfl rfl rfl rfl (in_put_til ‹_› _) rfl ?_)
    exact gR 1 rfl (g_join ({ y with nb := 0, own := { y.own with met := 65535 }, til := tm }, _) ⟨yI.1, trivial⟩ (fun a F => F.only [9, 8, 7, 0, 1, 2] rfl) (by (try dsimp only);repeat (first | exact .refl _ | with_reducible exact sC0 _ | with_reducible apply sC2 | apply sC1)))
  rintro ⟨y, k6⟩ yI
  dsimp only at yI ⊢
  refine gR 4 rfl (g_ldA 0 rfl rfl (in_all ‹_›) ?_)
  refine g_callN (ι := Value × (List InsV) × List (Nat × Obj)) (fun j => j.1) (fun j => OwnS 74 40 j.1 j.2.1.length (insC j.2.1) j.2.2 ∧ (∀ y ∈ j.2.1, IsIn y) ∧ j.2.1.length ≤ out.length + 1) (fun j => [j.2.2]) rfl rfl (fun w M => Cal.mono (putE_c out hI (by omega) u y yI w (hOs.slAt M (fun q hq => by simp [hq]))) fun r w' h => by
   obtain ⟨m, ent, h1, h2, h3, N⟩ := h
   exact ⟨(r, m, ent), rfl, ⟨h1, h2, h3⟩, by simpa using N⟩) ?_
  rintro ⟨u1, m1, e1⟩ ⟨hO1, hI1, hl1⟩
  dsimp only [List.cons_append, List.nil_append] at hO1 hI1 hl1 ⊢
  refine gR 6 rfl (g_sub rfl rfl (w_i64 (by omega) (by omega)) (gR 2 rfl ?_))
  exact g_next (d - 1, m1, _, _, _) ⟨by dsimp only;omega, by dsimp only;omega, by assumption, hI1, by dsimp only;omega⟩ (by dsimp only;omega) (fun a F => F.only [8, 7, 0, 1, 2] rfl) (by (try dsimp only);repeat (first | exact .refl _ | with_reducible exact sC0 _ | with_reducible apply sC2 | apply sC1))
 ·refine gR 7 rfl ?_
  exact g_ifF rfl (dqF (by omega)) (gR 2 rfl (g_outX (gR 9 rfl (g_ret1 rfl rfl rfl fun w M => ⟨out, _, es, hOs, hI, by omega, M.perm List.perm_append_comm⟩))))
end Go.Proofs.YtfhkmgcalcfibaaGreat
namespace Go.Proofs.YtfhkmgcalcfibaaGreat
open Go.RowKit
def AtE (sz : Nat) (v : Value) (n : Nat) (xs : List Value) (ent : List (Nat × Obj)) : Prop :=
 ∃ p cap, v = .slice p n cap ∧ n ≤ cap ∧ xs.length = n * sz ∧ (0 < n → ∃ b o cs t fz, p = some ⟨b, o, none⟩ ∧ ent = [(b, .cells (List.toArray cs) t fz)] ∧ seg cs o (n * sz) = some xs)
theorem AtE.slAt {sz : Nat} {v : Value} {n : Nat} {xs : List Value} {ent : List (Nat × Obj)} {w : World} (h : AtE sz v n xs ent) (hat : ∀ p ∈ ent, w.heap[p.1]? = some p.2) : SlAt w sz v n xs := by
 obtain ⟨p, cap, h1, h2, h3, h4⟩ := h
 refine ⟨p, cap, h1, h2, fun _ _ => trivial, h3, fun hn => ?_⟩
 obtain ⟨b, o, cs, t, fz, h5, rfl, h6⟩ := h4 hn
 exact ⟨b, o, cs, t, fz, h5, hat _ List.mem_cons_self, h6⟩
theorem OwnS.atE {e : TypeId} {sz : Nat} {v : Value} {n : Nat} {xs : List Value} {ent : List (Nat × Obj)} (h : OwnS e sz v n xs ent) : AtE sz v n xs ent := by
 rcases h with ⟨rfl, rfl, rfl, rfl⟩ | ⟨b, cap, junk, rfl, rfl, hxl, hjl, hnc⟩
 ·exact ⟨none, 0, rfl, Nat.le_refl _, by simp, fun h => absurd h (by omega)⟩
 ·exact ⟨_, cap, rfl, hnc, hxl, fun _ => ⟨b, 0, _, e, _, rfl, rfl, by rw [← hxl];simpa using seg_of [] xs junk⟩⟩
attribute [local irreducible] OpTo wpListIn Code.wpIn MW Cal
structure RtA (s : RtV) (x : RtX) (e : RtE) : Prop where
 og : AtE 34 x.og s.og.length (ogsC s.og) e.og
 aj : AtE 8 x.aj s.aj.length (ajsC s.aj) e.aj
 sr : AtE 38 x.sr s.sr.length (srsC s.sr) e.sr
 ro : AtE 39 x.ro s.ro.length (rosC s.ro) e.ro
 ins : AtE 40 x.ins s.ins.length (insC s.ins) e.ins
 rq : AtE 40 x.rq s.rq.length (rqsC s.rq) e.rq
 av : AtE 37 x.av s.av.length (avsC s.av) e.av
theorem RtOw.at_E {s : RtV} {x : RtX} {e : RtE} (h : RtOw s x e) : RtA s x e := ⟨h.og.atE, h.aj.atE, h.sr.atE, h.ro.atE, h.ins.atE, h.rq.atE, h.av.atE⟩
theorem RtA.at_ {s : RtV} {x : RtX} {e : RtE} (h : RtA s x e) {w : World} (hs : ∀ p ∈ e.row.flatten, w.heap[p.1]? = some p.2) : RtAt w s x :=
 ⟨h.og.slAt fun q hq => hs q (List.mem_flatten_of_mem (by simp [RtE.row]) hq), h.aj.slAt fun q hq => hs q (List.mem_flatten_of_mem (by simp [RtE.row]) hq), h.sr.slAt fun q hq => hs q (List.mem_flatten_of_mem (by simp [RtE.row]) hq), h.ro.slAt fun q hq => hs q (List.mem_flatten_of_mem (by simp [RtE.row]) hq), h.ins.slAt fun q hq => hs q (List.mem_flatten_of_mem (by simp [RtE.row]) hq), h.rq.slAt fun q hq => hs q (List.mem_flatten_of_mem (by simp [RtE.row]) hq), h.av.slAt fun q hq => hs q (List.mem_flatten_of_mem (by simp [RtE.row]) hq)⟩
end Go.Proofs.YtfhkmgcalcfibaaGreat
namespace Go.Proofs.YtfhkmgcalcfibaaGreat
open Go.RowKit
attribute [local irreducible] OpTo wpListIn Code.wpIn MW Cal
def x0 : AdvV := ⟨⟨[], 0, [], 0, 0⟩, ⟨0, 0⟩⟩
def LoK (T l : List AdvV) (i k : Nat) : Prop := ∀ j (hj : j < T.length) i' (hi : i' < l.length), j < k → i ≤ i' → cmpD T[j].to l[i'].to < 0
theorem asc_at {l : List AdvV} (h : AscA l) {i j : Nat} (hi : i < l.length) (hj : j < l.length) (hij : i < j) : cmpD l[i].to l[j].to < 0 := List.pairwise_iff_getElem.1 h i j hi hj hij
theorem LoK.next {T l : List AdvV} {i k : Nat} (h : LoK T l i k) : LoK T l (i + 1) k := fun j hj i' hi h1 h2 => h j hj i' hi h1 (by omega)
theorem LoK.skip {T l : List AdvV} {i k : Nat} (h : LoK T l i k) (hl : AscA l) (hk : k < T.length) (hlt : ∀ hi : i < l.length, cmpD T[k].to l[i].to < 0) : LoK T l i (k + 1) := fun j hj i' hi' h1 h2 => by
 rcases Nat.lt_or_ge j k with h3 | h3
 ·exact h j hj i' hi' h3 h2
 ·obtain rfl : j = k := by omega
  rcases Nat.lt_or_ge i i' with h4 | h4
  ·exact cmpD_trans (hlt (by omega)) (asc_at hl (by omega) hi' h4)
  ·obtain rfl : i = i' := by omega
   exact hlt hi'
theorem Mem.empty (w : World) : Mem [] w w [] := ⟨Ext.refl _ _, fun p hp => (by cases hp), by simp, fun p hp => (by cases hp)⟩
theorem MapIn.mk {κ : Type} {w : World} {kv : κ → Value} {b : Nat} {o : Obj} {m : List (κ × Value)} (h : w.heap[b]? = some o) (hA : MapAt kv m o) : MapIn w kv (.map (some b)) m := ⟨b, o, rfl, h, hA⟩
def VarI (l s m : List AdvV) : Prop := (m.map AdvV.to).Sublist (s.map AdvV.to) ∧ ∀ y ∈ m, IsAv y ∧ (validM y.own.met = true ∨ ∃ z ∈ l, z.own = y.own)
theorem VarI.add {l s m : List AdvV} {x y : AdvV} (h : VarI l s m) (e : y.to = x.to) (hy : IsAv y ∧ (validM y.own.met = true ∨ ∃ z ∈ l, z.own = y.own)) : VarI l (s ++ [x]) (m ++ [y]) := by
 refine ⟨?_, fun z hz => ?_⟩
 ·rw [List.map_append, List.map_append, List.map_singleton, List.map_singleton, e]
  exact h.1.append (List.Sublist.refl _)
 ·rcases List.mem_append.1 hz with h1 | h1
  ·exact h.2 z h1
  ·simp only [List.mem_singleton] at h1
   rw [h1];exact hy
theorem VarI.skip {l s m : List AdvV} {x : AdvV} (h : VarI l s m) : VarI l (s ++ [x]) m := ⟨by rw [List.map_append];exact h.1.trans (List.sublist_append_left _ _), h.2⟩
theorem VarI.valid {l m : List AdvV} (h : VarI l l m) (hv : validAs l = true) : validAs m = true := by
 obtain ⟨v1, v2, v3⟩ := validAs_iff.1 hv
 have hlen : m.length ≤ l.length := by simpa using h.1.length_le
 refine validAs_iff.2 ⟨by omega, fun y hy => ⟨?_, ?_⟩, ?_⟩
 ·have : y.to ∈ l.map AdvV.to := h.1.subset (List.mem_map_of_mem hy)
  obtain ⟨z, hz, e⟩ := List.mem_map.1 this
  rw [← e]
  exact (v2 z hz).1
 ·rcases (h.2 y hy).2 with h1 | ⟨z, hz, e⟩
  ·exact h1
  ·rw [← e]
   exact (v2 z hz).2
 ·have h3 : (l.map AdvV.to).Pairwise fun a b => cmpD a b < 0 := List.pairwise_map.2 v3
  exact List.pairwise_map.1 (h3.sublist h.1)
theorem vary_c {bt : Nat} {p : Option Addr} {len cap k : Nat} {xs : List Int} (l : List AdvV) (hx : ∀ x ∈ l, IsAv x) (hlen : l.length ≤ 100000) (v : Value) (W : World) (hS : SlAt W 37 v l.length (avsC l)) (hnb : ∀ b o s k c, v = .slice (some ⟨b, o, s⟩) k c → b ∉ [bt]) (hT : TapeS W bt p len xs) (hb : W.heap[bt]? = some (tobj p len cap k)) :
  Cal Tryz.prog 64 [.pointer (some ⟨bt, 0, none⟩), v].toArray W fun r w' => ∃ m k' ent, OwnS 100 37 r m.length (avsC m) ent ∧ (∀ x ∈ m, IsAv x) ∧ m.length ≤ l.length ∧ (validAs l = true → validAs m = true) ∧ Mem [bt] W w' ((bt, tobj p len cap k') :: ent) := by
 have hbt : bt < W.heap.size := (Array.getElem?_eq_some_iff.1 hb).1
 obtain ⟨q, qc, hv, _, _, _, _⟩ := id hS
 subst hv
 refine fn_ofM (n := 33) [bt] Tryz.func64 rfl rfl rfl ?_
 intro a w F M hwW
 replace M := M.came hwW hb (by simp) (by simp)
 refine c_seq (c_region ?_)
 refine sD F (o_assign (F.e rfl) ?_);clear F a;intro a F
 with_reducible refine l_nil (q_then (c_seq (c_region ?_)))
 refine sD F (o_assign (F.e rfl) ?_);clear F a;intro a F
 with_reducible refine l_nil (q_then (c_seq (c_seq (c_region ?_))))
 refine sD F (o_move (F.e rfl) fun a F => sD F (o_lenSl (F.e rfl) fun a F => sD F (o_move (F.e rfl) ?_)));iterate 3 clear F a
 intro a F
 with_reducible refine l_nil (q_then (c_block ?_))
 obtain ⟨u, hu⟩ : ∃ u, u = Value.slice none 0 0 := ⟨_, rfl⟩
 rw [← hu] at F
 obtain ⟨es, hes⟩ : ∃ es : List (Nat × Obj), es = [] := ⟨_, rfl⟩
 replace M : Mem [bt] W w ((bt, tobj p len cap k) :: es) := by
  rw [hes]
  exact M
 have hOs : OwnS 100 37 u ([] : List AdvV).length (avsC []) es := by
  rw [hu, hes]
  exact OwnS.nil _ _
 clear hu hes
 refine c_loop (fun m a w => ∃ (i k : Nat) (u : Value) (out : List AdvV) (es : List (Nat × Obj)), m = l.length - i ∧ i ≤ l.length ∧ out.length ≤ i ∧ VarI l (l.take i) out ∧ OwnS 100 37 u out.length (avsC out) es ∧ Frm a 33 [] [(10, .int .i64 i), (9, .int .i64 l.length), (8, .slice q l.length qc), (5, u), (0, .pointer (some ⟨bt, 0, none⟩))] ∧ Mem [bt] W w ((bt, tobj p len cap k) :: es)) l.length ⟨0, k, u, [], es, rfl, by omega, by simp, ⟨by simp, by simp⟩, hOs, F.only [10, 9, 8, 5, 0] rfl, M⟩ ?_
 clear F M a hOs u es
 rintro m a w ⟨i, kk, u, out, es, hm', hi, hol, hV, hOs, F, M⟩
 by_cases hlt : i < l.length
 ·obtain ⟨b, o, cs, t, fz, rfl, hbw, hs⟩ := (hS.laterB hnb M.ext).mem (by omega)
  have htk : l.take (i + 1) = l.take i ++ [l[i]] := by
   rw [List.take_add_one, List.getElem?_eq_getElem hlt]
   rfl
  obtain ⟨y, hy0⟩ : ∃ y, y = l[i] := ⟨_, rfl⟩
  have hyi : IsAv y := by rw [hy0];exact hx _ (List.getElem_mem hlt)
  have hym : y ∈ l := by rw [hy0];exact List.getElem_mem hlt
  have f1 : seg cs (o + (i : Int).toNat * 37) 37 = some (avC y) := by rw [hy0];exact seg_el (avs_len hx) hs hlt (by omega)
  rw [← hy0] at htk
  have f2 : (avC y).length = 37 := av_len hyi
  refine c_seq (c_region ?_)
  refine sD F (o_lssT (F.e rfl) (F.e rfl) (by omega) ?_);clear F a;intro a F
  with_reducible refine l_nil (q_then (c_seq ?_))
  refine c_true F rfl rfl ?_
  with_reducible refine c_skip (q_then (c_seq (c_block (c_seq (c_region ?_)))))
  refine sD F (o_indexSl (F.e rfl) (F.e rfl) (by omega) (by omega) ?_);clear F a;intro a F
  (refine sD F (o_load (F.e rfl) (run_loadVar_agg TAgg.h hbw f1) ?_);clear F a;intro a F)
  (refine sD F (o_alloc M ?_);clear F M;intro b7 w M a F)
  (refine stepN rfl F (o_storeA M (F.e rfl) (F.e rfl) (f2) (av_one y)  (by repeat constructor)  (put_all (by rw [f2];rfl)) (by repeat constructor) ?_);clear F M;intro w M a F)
  with_reducible refine l_nil (q_then (c_seq (c_seq (c_region ?_))))
  refine sD F (o_move (F.e rfl) ?_);clear F a;intro a F
  (refine sD F (o_call (F.e rfl) (F.evs rfl) (Cal.mono (nextE_c 5 (by omega) (by omega) _ (hT.later M.ext) (M.heap (.there .here)) ) ?_));clear F;clear a;have M0 := M;clear M;rintro _ w ⟨z, k2, rfl, hz, N⟩ a F)
  replace M := M0.turn1 N (.there .here)
  clear M0 N
  by_cases z0 : z = 0
  ·with_reducible refine l_nil ?_
   with_reducible refine q_then (c_block (c_seq (c_region ?_)))
   refine sD F (o_eqlT (F.e rfl) (F.e rfl) (by omega) fun a F => sD F (o_assign (F.e rfl) ?_));iterate 2 clear F a
   intro a F
   with_reducible refine l_nil (q_then ?_)
   refine c_true F rfl rfl ?_
   with_reducible refine c_exit ?_
   refine q_inBY rfl ?_
   with_reducible refine q_thenX (q_inBX (q_then (c_region ?_)))
   refine sD F (o_add (F.e rfl) (F.e rfl) (w_i64 (by omega) (by omega)) fun a F => sD F (o_move (F.e rfl) ?_));iterate 2 clear F a
   intro a F
   with_reducible refine l_nil (q_then ?_)
   exact ⟨_, by omega, i + 1, k2, u, out, es, rfl, by omega, by omega, by rw [htk];exact hV.skip, hOs, F.only [10, 9, 8, 5, 0] rfl, M.sub (.cons _ (.refl _))⟩
  refine l_nil (q_then ?_)
  repeat (refine c_seq ?_)
  refine c_cut (fun a w => ∃ (x : AdvV) (k : Nat), (x.to = y.to ∧ IsAv x ∧ (validM x.own.met = true ∨ x.own = y.own)) ∧ Frm a 33 [] [(7, .pointer (some ⟨b7, 0, none⟩)), (10, .int .i64 i), (9, .int .i64 l.length), (8, .slice (some ⟨b, o, none⟩) l.length qc), (5, u), (0, .pointer (some ⟨bt, 0, none⟩))] ∧ Mem [bt] W w ((b7, .cells (avC x).toArray 100 (0, 0)) :: (bt, tobj p len cap k) :: es)) ?_ ?_
  ·by_cases z1 : z = 1
   ·refine c_block ?_
    refine c_seq (c_region ?_)
    refine sD F (o_eqlF (F.e rfl) (F.e rfl) (by omega) fun a F => sD F (o_assign (F.e rfl) ?_));iterate 2 clear F a
    intro a F
    with_reducible refine l_nil (q_then ?_)
    refine c_false F rfl rfl (c_seq (c_region ?_))
    refine sD F (o_eqlT (F.e rfl) (F.e rfl) (by omega) fun a F => sD F (o_assign (F.e rfl) ?_));iterate 2 clear F a
    intro a F
    with_reducible refine l_nil (q_then ?_)
    refine c_true F rfl rfl (c_region ?_)
    refine sD F (o_move (F.e rfl) ?_);clear F a;intro a F
    (refine sD F (o_call (F.e rfl) (F.evs rfl) (Cal.mono (distE_c _ (hT.later M.ext) (M.heap (.there .here)) ) ?_));clear F;clear a;have M0 := M;clear M;rintro _ w ⟨ds, k3, rfl, hds, N⟩ a F)
    replace M := M0.turn1 N (.there .here)
    clear M0 N
    refine sD F (o_fieldAddr (F.e rfl) ?_);clear F a;intro a F
    (refine stepN rfl F (o_storeA M (F.e rfl) (F.e rfl) (di_len (o := ds) trivial) (di_one ds)  (by repeat constructor)  (av_put_own hyi (z := ds) trivial) (by repeat constructor) ?_);clear F M;intro w M a F)
    with_reducible refine l_nil (q_inB ?_)
    exact ⟨{ y with own := ds }, k3, ⟨rfl, ⟨hyi.1, trivial⟩, .inl (validM_of hds)⟩, F.only [7, 10, 9, 8, 5, 0] rfl, M⟩
   by_cases z2 : z = 2
   ·refine c_block ?_
    refine c_seq (c_region ?_)
    refine sD F (o_eqlF (F.e rfl) (F.e rfl) (by omega) fun a F => sD F (o_assign (F.e rfl) ?_));iterate 2 clear F a
    intro a F
    with_reducible refine l_nil (q_then ?_)
    refine c_false F rfl rfl (c_seq (c_region ?_))
    refine sD F (o_eqlF (F.e rfl) (F.e rfl) (by omega) fun a F => sD F (o_assign (F.e rfl) ?_));iterate 2 clear F a
    intro a F
    with_reducible refine l_nil (q_then ?_)
    refine c_false F rfl rfl (c_seq (c_region ?_))
    refine sD F (o_eqlT (F.e rfl) (F.e rfl) (by omega) fun a F => sD F (o_assign (F.e rfl) ?_));iterate 2 clear F a
    intro a F
    with_reducible refine l_nil (q_then ?_)
    refine c_true F rfl rfl (c_region ?_)
    refine sD F (o_fieldAddr (F.e rfl) fun a F => sD F (o_fieldAddr (F.e rfl) ?_));iterate 2 clear F a
    intro a F
    (refine stepN rfl F (o_store1 M (F.e rfl) (F.e rfl) rfl (by repeat constructor) (av_put_own_met hyi 65535) (by repeat constructor) ?_);clear F M;intro w M a F)
    with_reducible refine l_nil (q_inB ?_)
    exact ⟨{ y with own := { y.own with met := 65535 } }, k2, ⟨rfl, ⟨hyi.1, trivial⟩, .inl rfl⟩, F.only [7, 10, 9, 8, 5, 0] rfl, M⟩
   ·refine c_block ?_
    refine c_seq (c_region ?_)
    refine sD F (o_eqlF (F.e rfl) (F.e rfl) (by omega) fun a F => sD F (o_assign (F.e rfl) ?_));iterate 2 clear F a
    intro a F
    with_reducible refine l_nil (q_then ?_)
    refine c_false F rfl rfl (c_seq (c_region ?_))
    refine sD F (o_eqlF (F.e rfl) (F.e rfl) (by omega) fun a F => sD F (o_assign (F.e rfl) ?_));iterate 2 clear F a
    intro a F
    with_reducible refine l_nil (q_then ?_)
    refine c_false F rfl rfl (c_seq (c_region ?_))
    refine sD F (o_eqlF (F.e rfl) (F.e rfl) (by omega) fun a F => sD F (o_assign (F.e rfl) ?_));iterate 2 clear F a
    intro a F
    with_reducible refine l_nil (q_then ?_)
    refine c_false F rfl rfl ?_
    with_reducible refine c_skip (q_inB ?_)
    exact ⟨y, k2, ⟨rfl, hyi, .inr rfl⟩, F.only [7, 10, 9, 8, 5, 0] rfl, M⟩
  clear F M a
  rintro a w ⟨x, k3, ⟨hx1, hx2, hx3⟩, F, M⟩
  have g1 : (avC x).length = 37 := av_len hx2
  have g2 := av_all hx2
  with_reducible refine q_then (c_region ?_)
  refine sD F (o_move (F.e rfl) fun a F => sD F (o_loadA M (F.e rfl) (by repeat constructor) ‹_› ?_));iterate 2 clear F a
  intro a F
  (refine sD F (o_buildSlice F M rfl rfl rfl (av_build1 hx2) ?_);clear F M;intro bs w M a F)
  (refine sD F (o_append hOs M (.cons (.cons (.cons .here))) (F.e rfl) (F.e rfl) (SrcOf.cells' (M.heap .here) (sg_all (by omega)) (av_one _)) (by omega) (by omega) ?_);clear F M;intro v2 es2 w hO2 M a F)
  refine sD F (o_assign (F.e rfl) ?_);clear F a;intro a F
  with_reducible refine l_nil (q_inB (q_then (c_region ?_)))
  refine sD F (o_add (F.e rfl) (F.e rfl) (w_i64 (by omega) (by omega)) fun a F => sD F (o_move (F.e rfl) ?_));iterate 2 clear F a
  intro a F
  with_reducible refine l_nil (q_then ?_)
  exact ⟨_, by omega, i + 1, k3, v2, out ++ [x], es2, rfl, by omega, by simp;omega, by rw [htk];exact hV.add hx1 ⟨hx2, hx3.imp_right fun e => ⟨y, hym, e.symm⟩⟩, by show OwnS _ 37 _ (out ++ [x]).length (encL avC (out ++ [x])) _;rw [show (out ++ [x]).length = out.length + 1 by simp, encL_app, encL_one];exact hO2, F.only [10, 9, 8, 5, 0] rfl, M.sub (.cons _ (.cons _ (.refl _)))⟩
 ·obtain rfl : i = l.length := by omega
  rw [List.take_length] at hV
  refine c_seq (c_region ?_)
  refine sD F (o_lssF (F.e rfl) (F.e rfl) (by omega) ?_);clear F a;intro a F
  with_reducible refine l_nil (q_then (c_seq ?_))
  refine c_false F rfl rfl ?_
  with_reducible refine c_exit (q_thenX (q_thenX (q_inBX (q_then (c_seq (c_region ?_))))))
  refine sD F (o_move (F.e rfl) fun a F => sD F (o_assign (F.e rfl) ?_));iterate 2 clear F a
  intro a F
  with_reducible refine l_nil (q_then (c_ret ?_))
  exact p_ret F rfl (.cons (.tmp (F.e rfl)) .nil) (⟨out, kk, es, hOs, fun y hy => (hV.2 y hy).1, hol, hV.valid, M⟩)
theorem aj_mkF (n : Int) (q : QuaV) (a b : Int) : putAll [(0, 1), (1, 5), (6, 1), (7, 1)] ajZ [(0, [.int .u64 n]), (1, quC q), (2, [.int .i64 a]), (3, [.int .i64 b])] = some (ajC ⟨n, q, a, b⟩) := rfl
theorem rows_rp {a b c f t : List (Nat × Obj)} : ([f, a, b, c, t] : Row).flatten.Perm (([t, f] : Row).flatten ++ ([a, b, c] : Row).flatten) := by
 simp only [List.flatten_cons, List.flatten_nil, List.append_nil]
 classical
 rw [List.perm_iff_count]
 intro x
 simp only [List.count_append]
 omega
theorem rows_rq {z a b c f t : List (Nat × Obj)} : ([z, f, a, b, c, t] : Row).flatten.Perm (f ++ ([z, a, b, c, t] : Row).flatten) := by
 simp only [List.flatten_cons, List.flatten_nil, List.append_nil]
 classical
 rw [List.perm_iff_count]
 intro x
 simp only [List.count_append]
 omega
theorem AtE.q {sz : Nat} {v : Value} {n : Nat} {xs : List Value} {ent : List (Nat × Obj)} (h : AtE sz v n xs ent) : ∃ p cap, v = .slice p n cap := by
 obtain ⟨p, cap, h1, _⟩ := h
 exact ⟨p, cap, h1⟩
theorem AtE.mem {sz : Nat} {p : Option Addr} {n m cap : Nat} {xs : List Value} {ent : List (Nat × Obj)} (h : AtE sz (.slice p m cap) n xs ent) (hn : 0 < n) : ∃ b o cs t fz, p = some ⟨b, o, none⟩ ∧ ent = [(b, .cells (List.toArray cs) t fz)] ∧ seg cs o (n * sz) = some xs := by
 obtain ⟨p', cap', h1, _, _, h4⟩ := h
 cases h1
 exact h4 hn
theorem own_newV {e : TypeId} {sz n bt : Nat} {o : Obj} {v : Value} {xs : List Value} {ent r : List (Nat × Obj)} {W w : World} (h : OwnS e sz v n xs ent) (M : Mem [bt] W w (ent ++ r)) (hr : (bt, o) ∈ r) (hbt : bt < W.heap.size) : NewV (bt + 1) v := by
 rcases h with ⟨rfl, _⟩ | ⟨b, cap, j, rfl, rfl, _⟩
 ·intro b o s n c h;cases h
 ·intro b' o' s' n' c' h
  cases h
  have h1 := M.own (b, _) (List.mem_append_left _ List.mem_cons_self)
  have h2 := M.nd
  simp only [List.map_append, List.map_cons, List.map_nil, List.singleton_append, List.nodup_cons] at h2
  have h3 : b ≠ bt := fun e => h2.1 (e ▸ List.mem_map_of_mem (f := (·.1)) hr)
  rcases h1 with h1 | h1
  ·exact absurd (List.mem_singleton.1 h1) h3
  ·show bt + 1 ≤ b
   have : W.heap.size ≤ b := h1
   omega
theorem sub_skip {α : Type} {out l : List α} {i : Nat} (h : out.Sublist (l.take i)) : out.Sublist (l.take (i + 1)) := h.trans (List.take_sublist_take_left (Nat.le_succ i))
theorem sub_app {α : Type} {out l : List α} {i : Nat} {x : α} (hi : i < l.length) (hx : x = l[i]) (h : out.Sublist (l.take i)) : (out ++ [x]).Sublist (l.take (i + 1)) := by
 rw [List.take_succ_eq_append_getElem hi, ← hx]
 exact h.append (List.Sublist.refl _)
theorem rtAnn_is {s : RtV} (hs : IsRt s) : ∀ x ∈ rtAnn s, IsAv x := fun x hx => by
 unfold rtAnn at hx
 split at hx
 ·exact annL_is hs x ((annV_perm s).mem_iff.1 hx)
 ·exact (List.not_mem_nil hx).elim
theorem rtAnn_len (s : RtV) : (rtAnn s).length ≤ 1000 := by
 unfold rtAnn
 split
 ·rename_i h
  have h1 := (validOgs_iff.1 (rtV_of h).1).1
  have h2 := (validIs_iff.1 (rtV_of h).2.1).1
  rw [(annV_perm s).length_eq]
  unfold annL
  rw [List.length_append, List.length_map, List.length_map]
  omega
 ·simp
def PhRg (p : Option Addr) (len cap bt : Nat) (r : Value) (W w' : World) : Prop := ∃ (s : RtV) (x : RtX) (e : RtE) (k' : Nat), r = .agg (rtC s x).toArray ∧ IsRt s ∧ RtSm s ∧ RtA s x e ∧ Mem [bt] W w' ((bt, tobj p len cap k') :: e.row.flatten)
theorem routerW_c {bt : Nat} {p : Option Addr} {len cap k : Nat} {xs : List Int} (now : Int) (hnow : 0 ≤ now ∧ now ≤ 1099511627776) (W : World) (hT : TapeS W bt p len xs) (hb : W.heap[bt]? = some (tobj p len cap k)) : Cal Tryz.prog 21 [.pointer (some ⟨bt, 0, none⟩), .int .i64 now].toArray W fun r w' => PhRg p len cap bt r W w' := by
 refine g_startB (n := 140) [bt] hb (by simp) fldT_ok slcT_ok Tryz.func21 rfl rfl rfl (gR 2 rfl (g_alloc fun b4 => gR 5 rfl ?_))
 refine g_callT (ι := Int × Nat) 1 (fun j => .int .u64 j.1) (fun j => True) (fun j => tobj p len cap j.2) (fun _ => []) rfl rfl rfl (fun w M => Cal.mono (euiW_c w (hT.later M.ext) (M.at_ _ (nthO_mem (i := 1) rfl))) fun r w' h => by
   obtain ⟨x, k', q, N⟩ := h
   exact ⟨(x, k'), q, trivial, by simpa using N⟩) (fun _ => rfl) ?_
 rintro ⟨self, k1⟩ -
 dsimp only [List.nil_append, List.cons_append]
 refine gR 7 rfl ?_
 refine g_callT (ι := Int × Nat) 1 (fun j => .int .u16 j.1) (fun j => True) (fun j => tobj p len cap j.2) (fun _ => []) rfl rfl rfl (fun w M => Cal.mono (seqE_c w (hT.later M.ext) (M.at_ _ (nthO_mem (i := 1) rfl))) fun r w' h => by
   obtain ⟨x, k', q, N⟩ := h
   exact ⟨(x, k'), q, trivial, by simpa using N⟩) (fun _ => rfl) ?_
 rintro ⟨sq, k2⟩ -
 dsimp only [List.nil_append, List.cons_append]
 refine gR 2 rfl ?_
 refine g_callT (ι := Int × Nat) 1 (fun j => .int .i64 j.1) (fun j => True) (fun j => tobj p len cap j.2) (fun _ => []) rfl rfl rfl (fun w M => Cal.mono (wtimeE_c now hnow.1 hnow.2 w (hT.later M.ext) (M.at_ _ (nthO_mem (i := 1) rfl))) fun r w' h => by
   obtain ⟨x, k', q, _, N⟩ := h
   exact ⟨(x, k'), q, trivial, by simpa using N⟩) (fun _ => rfl) ?_
 rintro ⟨t1, k3⟩ -
 dsimp only [List.nil_append, List.cons_append]
 have n40 := nxV_bd xs k3 (n := 40) (by omega)
 refine gR 2 rfl (g_callT1 1 rfl rfl rfl (fun w M => next_c _ (by omega) (by omega) w (hT.later M.ext) (M.at_ _ (nthO_mem (i := 1) rfl))) rfl (g_sub rfl rfl (w_i64 (by omega) (by omega)) (g_v (fun a w F M R r => o_max (F.e rfl) (F.e rfl) r) (gR 1 rfl ?_))))
 refine g_callT (ι := Int × Nat) 1 (fun j => .int .u16 j.1) (fun j => True) (fun j => tobj p len cap j.2) (fun _ => []) rfl rfl rfl (fun w M => Cal.mono (seqE_c w (hT.later M.ext) (M.at_ _ (nthO_mem (i := 1) rfl))) fun r w' h => by
   obtain ⟨x, k', q, N⟩ := h
   exact ⟨(x, k'), q, trivial, by simpa using N⟩) (fun _ => rfl) ?_
 rintro ⟨hl, k4⟩ -
 dsimp only [List.nil_append, List.cons_append]
 refine gR 2 rfl ?_
 refine g_callT (ι := Int × Nat) 1 (fun j => .int .i64 j.1) (fun j => True) (fun j => tobj p len cap j.2) (fun _ => []) rfl rfl rfl (fun w M => Cal.mono (wtimeE_c now hnow.1 hnow.2 w (hT.later M.ext) (M.at_ _ (nthO_mem (i := 1) rfl))) fun r w' h => by
   obtain ⟨x, k', q, _, N⟩ := h
   exact ⟨(x, k'), q, trivial, by simpa using N⟩) (fun _ => rfl) ?_
 rintro ⟨t2, k5⟩ -
 dsimp only [List.nil_append, List.cons_append]
 refine gR 3 rfl ?_
 refine g_callT (ι := List OrgV × Value × Nat × List (Nat × Obj)) 1 (fun j => j.2.1) (fun j => OwnS 85 34 j.2.1 j.1.length (ogsC j.1) j.2.2.2 ∧ (∀ y ∈ j.1, IsOg y) ∧ j.1.length ≤ 8) (fun j => tobj p len cap j.2.2.1) (fun j => [j.2.2.2]) rfl rfl rfl (fun w M => Cal.mono (originsW_c self now w (hT.later M.ext) (M.at_ _ (nthO_mem (i := 1) rfl))) fun r w' h => by
  obtain ⟨m, k', ent, h1, h2, h3, N⟩ := h
  exact ⟨(m, r, k', ent), rfl, ⟨h1, h2, h3⟩, by simpa using N⟩) (fun _ => rfl) ?_
 rintro ⟨mo, uo, k6, e6⟩ ⟨o6, i6, l6⟩
 dsimp only [List.nil_append, List.cons_append] at o6 i6 l6 ⊢
 obtain ⟨r6, d6, rfl, -⟩ := own_q o6
 refine g_v (fun a w F M R r => o_build F rfl rfl r) (g_alloc fun b6 => ?_)
 refine g_stA 0 rfl rfl rfl rfl rfl rfl rfl ?_
 refine gR 3 rfl ?_
 generalize (if 0 < now - nxV xs k3 40 then now - nxV xs k3 40 else 0) = q0
 refine g_cutC (ι := Int × Nat) ⟨fun _ => True, fun (q, k) => [(5, .int .u64 self), (6, .pointer (some ⟨b6, 0, none⟩)), (0, .pointer (some ⟨bt, 0, none⟩)), (1, .int .i64 now), (4, .pointer (some ⟨b4, 0, none⟩))], fun (q, k) => [[(b6, Obj.cells (rtC (⟨self, sq, t1, q, hl, t2, 0, [], [], [], [], [], [], []⟩ : RtV) ⟨.slice r6 mo.length d6, .slice none 0 0, .slice none 0 0, .slice none 0 0, .slice none 0 0, .slice none 0 0, .slice none 0 0⟩).toArray 53 (0, 0))], e6, [(b4, Obj.cells (rtC rt0 rx0).toArray 53 (0, 0))], [(bt, tobj p len cap k)]]⟩ ?_ ?_
 ·refine gR 3 rfl ?_
  refine g_callT1 3 rfl rfl rfl (fun w M => bool_c _ (by omega) (by omega) w (hT.later M.ext) (M.at_ _ (nthO_mem (i := 3) rfl))) rfl (gR 2 rfl (g_if rfl (fun h1 => ?_) (fun h1 => ?_)))
  focus
   replace h1 := dqU h1
   refine gR 3 rfl ?_
  rotate_left 1
  focus
   replace h1 := dqV h1
   exact gR 1 rfl (g_join (q0, nxK xs k6) trivial (fun a F => F.only [5, 6, 0, 1, 4] rfl) (by (try dsimp only);repeat (first | exact .refl _ | with_reducible exact sC0 _ | with_reducible apply sC2 | apply sC1)))
  refine g_callT (ι := Int × Nat) 3 (fun j => .int .i64 j.1) (fun j => True) (fun j => tobj p len cap j.2) (fun _ => []) rfl rfl rfl (fun w M => Cal.mono (wtimeE_c now hnow.1 hnow.2 w (hT.later M.ext) (M.at_ _ (nthO_mem (i := 3) rfl))) fun r w' h => by
    obtain ⟨x, k', q, _, N⟩ := h
    exact ⟨(x, k'), q, trivial, by simpa using N⟩) (fun _ => rfl) ?_
  rintro ⟨t3, k7⟩ -
  dsimp only [List.nil_append, List.cons_append]
  exact gR 1 rfl (g_st1 0 rfl rfl rfl rfl rfl rfl (gR 1 rfl (g_join (t3, k7) trivial (fun a F => F.only [5, 6, 0, 1, 4] rfl) (by (try dsimp only);repeat (first | exact .refl _ | with_reducible exact sC0 _ | with_reducible apply sC2 | apply sC1)))))
 rintro ⟨q, k7⟩ -
 dsimp only
 refine gR 8 rfl (g_pad ?_)
 refine g_loop (ι := Int × (List AdjV) × Value × (List (Nat × Obj)) × Nat) ⟨fun (j, aj, u, e7, k) => (6 - j).toNat, fun (j, aj, u, e7, k) => 1 ≤ j ∧ j ≤ 6 ∧ OwnS 124 8 u aj.length (ajsC aj) e7 ∧ (∀ y ∈ aj, BdQu y.q) ∧ (aj.length : Int) ≤ j - 1, fun (j, aj, u, e7, k) => [(7, .int .u64 j), (5, .int .u64 self), (6, .pointer (some ⟨b6, 0, none⟩)), (0, .pointer (some ⟨bt, 0, none⟩)), (1, .int .i64 now), (4, .pointer (some ⟨b4, 0, none⟩))], fun (j, aj, u, e7, k) => [e7, [(b6, Obj.cells (rtC (⟨self, sq, t1, q, hl, t2, 0, [], [], [], [], [], [], []⟩ : RtV) ⟨.slice r6 mo.length d6, u, .slice none 0 0, .slice none 0 0, .slice none 0 0, .slice none 0 0, .slice none 0 0⟩).toArray 53 (0, 0))], e6, [(b4, Obj.cells (rtC rt0 rx0).toArray 53 (0, 0))], [(bt, tobj p len cap k)]]⟩ (1, [], _, [], k7) ⟨by first | omega | (dsimp only;omega), by first | omega | (dsimp only;omega), OwnS.nilL _ _ _, fun y hy => (List.not_mem_nil hy).elim, by simp⟩ (fun a F => F.only [7, 5, 6, 0, 1, 4] rfl) (by repeat (first | exact .refl _ | apply sC2 | apply sC1)) ?_
 rintro ⟨j, aj, u7, e7, k⟩ ⟨hj1, hj6, o7, iq, l7⟩
 dsimp only at hj1 hj6 o7 iq l7 ⊢
 obtain ⟨r7, d7, rfl, -⟩ := own_q o7
 by_cases hlt : j ≤ 5
 ·by_cases hs : j = self
  ·have hst : (!decide (j = self)) = false := by simp [hs]
   refine gR 7 rfl (g_ifT rfl (dqT (by omega)) (gR 10 rfl (g_know 48 rfl (bneF (by omega)) (gR 12 rfl (g_add rfl rfl (w_u64 (by omega) (by omega)) (gR 2 rfl ?_))))))
   exact g_next (j + 1, aj, _, _, _) ⟨by dsimp only;omega, by dsimp only;omega, by assumption, iq, by simp;omega⟩ (by dsimp only;omega) (fun a F => F.only [7, 5, 6, 0, 1, 4] rfl) (by (try dsimp only);repeat (first | exact .refl _ | with_reducible exact sC0 _ | with_reducible apply sC2 | apply sC1))
  ·have hst : (!decide (j = self)) = true := by simp [hs]
   refine gR 7 rfl (g_ifT rfl (dqT (by omega)) (gR 10 rfl (g_know 48 rfl (bne_iff_ne.2 (by omega)) (gR 1 rfl (g_callT1 4 rfl rfl rfl (fun w M => bool_c _ (by omega) (by omega) w (hT.later M.ext) (M.at_ _ (nthO_mem (i := 4) rfl))) rfl (gR 4 rfl (g_if rfl (fun h1 => ?_) (fun h1 => ?_))))))))
   focus
    replace h1 := ne_of_bne h1
   rotate_left 1
   focus
    replace h1 := eq_of_bne_false h1
    refine gR 5 rfl (g_add rfl rfl (w_u64 (by omega) (by omega)) (gR 2 rfl ?_))
    exact g_next (j + 1, aj, _, _, _) ⟨by dsimp only;omega, by dsimp only;omega, by assumption, iq, by simp;omega⟩ (by dsimp only;omega) (fun a F => F.only [7, 5, 6, 0, 1, 4] rfl) (by (try dsimp only);repeat (first | exact .refl _ | with_reducible exact sC0 _ | with_reducible apply sC2 | apply sC1))
   have l7b : aj.length ≤ 5 := by omega
   refine gR 1 rfl (g_drawE 14 140 (bt :: e7.map (·.1)) [4, 7, 10, 11, 12, 13] [] [[(bt, tobj p len cap (nxK xs k))], e7] [[(b6, Obj.cells (rtC (⟨self, sq, t1, q, hl, t2, 0, [], [], [], [], [], [], []⟩ : RtV) ⟨.slice r6 mo.length d6, .slice r7 aj.length d7, .slice none 0 0, .slice none 0 0, .slice none 0 0, .slice none 0 0, .slice none 0 0⟩).toArray 53 (0, 0))], e6, [(b4, Obj.cells (rtC rt0 rx0).toArray 53 (0, 0))]] rfl (by kernel_rfl) rows_rp (by simp) (fe_start ?_))
   refine fe_run 60 rfl (fe_v (fun a2 w F M R r => o_loadH1 (F.e rfl) (M.at_ _ (nthO_mem (i := 0) rfl)) rfl r) (fe_run 60 rfl (fe_op (κ := QuaV × Nat) (fun _ j => .agg (quC j.1).toArray) (fun _ j => BdQu j.1) (fun _ j => [e7, [(b6, Obj.cells (rtC (⟨self, sq, t1, q, hl, t2, 0, [], [], [], [], [], [], []⟩ : RtV) ⟨.slice r6 mo.length d6, .slice r7 aj.length d7, .slice none 0 0, .slice none 0 0, .slice none 0 0, .slice none 0 0, .slice none 0 0⟩).toArray 53 (0, 0))], e6, [(b4, Obj.cells (rtC rt0 rx0).toArray 53 (0, 0))], [(bt, tobj p len cap j.2)]]) [] .any (fun i hi => ?_) (fun _ _ _ _ => trivial) ?_)))
   ·exact opf_callT 4 (fun j : QuaV × Nat => .agg (quC j.1).toArray) (fun j => BdQu j.1) (fun j => tobj p len cap j.2) (fun _ => []) rfl rfl rfl (.head _) (fun w M => Cal.mono (wquality_c w (hT.later M.ext) (M.at_ _ (nthO_mem (i := 4) rfl))) fun r w' h => by
     obtain ⟨o, k', ho, qq, N⟩ := h
     exact ⟨(o, k'), qq, ho.b, by simpa using N⟩) (fun _ => rfl)
   refine fe_run 60 rfl (fe_op (κ := Int × Nat) (fun _ j => .int .i64 j.1) (fun _ j => True) (fun _ j => [e7, [(b6, Obj.cells (rtC (⟨self, sq, t1, q, hl, t2, 0, [], [], [], [], [], [], []⟩ : RtV) ⟨.slice r6 mo.length d6, .slice r7 aj.length d7, .slice none 0 0, .slice none 0 0, .slice none 0 0, .slice none 0 0, .slice none 0 0⟩).toArray 53 (0, 0))], e6, [(b4, Obj.cells (rtC rt0 rx0).toArray 53 (0, 0))], [(bt, tobj p len cap j.2)]]) [] .any (fun i hi => ?_) (fun _ _ _ _ => trivial) ?_)
   ·exact opf_callT 4 (fun j : Int × Nat => .int .i64 j.1) (fun j => True) (fun j => tobj p len cap j.2) (fun _ => []) rfl rfl rfl (.head _) (fun w M => Cal.mono (wtimeE_c now hnow.1 hnow.2 w (hT.later M.ext) (M.at_ _ (nthO_mem (i := 4) rfl))) fun r w' h => by
     obtain ⟨x, k', qq, _, N⟩ := h
     exact ⟨(x, k'), qq, trivial, by simpa using N⟩) (fun _ => rfl)
   refine fe_run 60 rfl (fe_op (κ := Int × Nat) (fun _ j => .int .i64 j.1) (fun _ j => True) (fun _ j => [e7, [(b6, Obj.cells (rtC (⟨self, sq, t1, q, hl, t2, 0, [], [], [], [], [], [], []⟩ : RtV) ⟨.slice r6 mo.length d6, .slice r7 aj.length d7, .slice none 0 0, .slice none 0 0, .slice none 0 0, .slice none 0 0, .slice none 0 0⟩).toArray 53 (0, 0))], e6, [(b4, Obj.cells (rtC rt0 rx0).toArray 53 (0, 0))], [(bt, tobj p len cap j.2)]]) [] .any (fun i hi => ?_) (fun _ _ _ _ => trivial) ?_)
   ·exact opf_callT 4 (fun j : Int × Nat => .int .i64 j.1) (fun j => True) (fun j => tobj p len cap j.2) (fun _ => []) rfl rfl rfl (.head _) (fun w M => Cal.mono (wtimeE_c now hnow.1 hnow.2 w (hT.later M.ext) (M.at_ _ (nthO_mem (i := 4) rfl))) fun r w' h => by
     obtain ⟨x, k', qq, _, N⟩ := h
     exact ⟨(x, k'), qq, trivial, by simpa using N⟩) (fun _ => rfl)
   refine fe_op (κ := Unit) (fun i _ => .agg (ajC (⟨j, i.1.1.2.1, i.1.2.1, i.2.1⟩ : AdjV)).toArray) (fun _ _ => True) (fun i _ => [e7, [(b6, Obj.cells (rtC (⟨self, sq, t1, q, hl, t2, 0, [], [], [], [], [], [], []⟩ : RtV) ⟨.slice r6 mo.length d6, .slice r7 aj.length d7, .slice none 0 0, .slice none 0 0, .slice none 0 0, .slice none 0 0, .slice none 0 0⟩).toArray 53 (0, 0))], e6, [(b4, Obj.cells (rtC rt0 rx0).toArray 53 (0, 0))], [(bt, tobj p len cap i.2.2)]]) [(4, 57), (7, 60), (10, 63)] .any (fun i hi => ?_) (fun _ _ _ _ => trivial) ?_
   ·exact OpF.mono (opf_v (fun a w F M R r => o_build F rfl (aj_mkF _ _ _ _) r)) fun u r h => ⟨(), h.1, trivial, h.2⟩
   refine fe_op (κ := Nat) (fun _ j => .slice (some ⟨j, 0, none⟩) 1 1) (fun _ _ => True) (fun i b => [[(b, Obj.cells (ajC (⟨j, i.1.1.1.2.1, i.1.1.2.1, i.1.2.1⟩ : AdjV)).toArray 124 (0, 0))], e7, [(b6, Obj.cells (rtC (⟨self, sq, t1, q, hl, t2, 0, [], [], [], [], [], [], []⟩ : RtV) ⟨.slice r6 mo.length d6, .slice r7 aj.length d7, .slice none 0 0, .slice none 0 0, .slice none 0 0, .slice none 0 0, .slice none 0 0⟩).toArray 53 (0, 0))], e6, [(b4, Obj.cells (rtC rt0 rx0).toArray 53 (0, 0))], [(bt, tobj p len cap i.1.2.2)]]) [(11, 64)] .any (fun i hi => ?_) (fun _ _ _ _ => trivial) ?_
   ·exact opf_bs rfl rfl rfl (aj_build1 trivial)
   refine fe_op (κ := Value × List (Nat × Obj)) (fun _ b => b.1) (fun i b => OwnS 124 8 b.1 (aj ++ [(⟨j, i.1.1.1.1.2.1, i.1.1.1.2.1, i.1.1.2.1⟩ : AdjV)]).length (ajsC (aj ++ [(⟨j, i.1.1.1.1.2.1, i.1.1.1.2.1, i.1.1.2.1⟩ : AdjV)])) b.2) (fun i b => [[(i.2, Obj.cells (ajC (⟨j, i.1.1.1.1.2.1, i.1.1.1.2.1, i.1.1.2.1⟩ : AdjV)).toArray 124 (0, 0))], b.2, [(b6, Obj.cells (rtC (⟨self, sq, t1, q, hl, t2, 0, [], [], [], [], [], [], []⟩ : RtV) ⟨.slice r6 mo.length d6, .slice r7 aj.length d7, .slice none 0 0, .slice none 0 0, .slice none 0 0, .slice none 0 0, .slice none 0 0⟩).toArray 53 (0, 0))], e6, [(b4, Obj.cells (rtC rt0 rx0).toArray 53 (0, 0))], [(bt, tobj p len cap i.1.1.2.2)]]) [(12, 65)] .any (fun i hi => ?_) (fun _ _ _ _ => trivial) ?_
   ·exact opf_app2 (enc := ajC) (x0 := (⟨j, i.1.1.1.1.2.1, i.1.1.1.2.1, i.1.1.2.1⟩ : AdjV)) (f := fun e => [[(i.2, Obj.cells (ajC (⟨j, i.1.1.1.1.2.1, i.1.1.1.2.1, i.1.1.2.1⟩ : AdjV)).toArray 124 (0, 0))], e, [(b6, Obj.cells (rtC (⟨self, sq, t1, q, hl, t2, 0, [], [], [], [], [], [], []⟩ : RtV) ⟨.slice r6 mo.length d6, .slice r7 aj.length d7, .slice none 0 0, .slice none 0 0, .slice none 0 0, .slice none 0 0, .slice none 0 0⟩).toArray 53 (0, 0))], e6, [(b4, Obj.cells (rtC rt0 rx0).toArray 53 (0, 0))], [(bt, tobj p len cap i.1.1.2.2)]]) rfl rfl o7 rows_rq (fun q hq => List.mem_cons_of_mem _ (List.mem_map_of_mem hq)) (.head _) (aj_len trivial) (by omega) (by omega) (fun ent => rows_rq.symm) (aj_one _)
   refine fe_fin rfl (by rintro i _ q hq;simp at hq;rcases hq with rfl | rfl | rfl | rfl | rfl | rfl <;> simp) ?_
   rintro ⟨⟨⟨⟨⟨⟨_, o, _⟩, ta, _⟩, tb, k8⟩, _⟩, bz⟩, v17, e17⟩ ⟨⟨⟨⟨⟨⟨_, ho⟩, _⟩, _⟩, _⟩, _⟩, hO17⟩
   refine ⟨_, rfl, ?_⟩
   dsimp only at ho hO17 ⊢
   obtain ⟨rN, cN, rfl, -⟩ := own_q hO17
   refine gR 1 rfl (g_st1 2 rfl rfl rfl rfl rfl rfl (gR 5 rfl (g_add rfl rfl (w_u64 (by omega) (by omega)) (gR 2 rfl ?_))))
   exact g_next (j + 1, aj ++ [⟨j, o, ta, tb⟩], .slice rN _ cN, e17, k8) ⟨by dsimp only;omega, by dsimp only;omega, hO17, app_is iq ho, by simp;omega⟩ (by dsimp only;omega) (fun a F => F.only [7, 5, 6, 0, 1, 4] rfl) (by (try dsimp only);repeat (first | exact .refl _ | with_reducible exact sC0 _ | with_reducible apply sC2 | apply sC1))
 ·refine gR 7 rfl ?_
  refine g_ifF rfl (dqF (by omega)) (gR 2 rfl (g_outX (gR 6 rfl ?_)))
  refine g_callT (ι := List SrcV × Value × Nat × List (Nat × Obj)) 4 (fun j => j.2.1) (fun j => AtE 38 j.2.1 j.1.length (srsC j.1) j.2.2.2 ∧ (∀ y ∈ j.1, IsSr y) ∧ j.1.length ≤ 1000) (fun j => tobj p len cap j.2.2.1) (fun j => [j.2.2.2]) rfl rfl rfl (fun w M => Cal.mono (sourcesE_c now hnow w (hT.later M.ext) (M.at_ _ (nthO_mem (i := 4) rfl))) fun r w' h => by
   obtain ⟨m, k', ent, h1, h2, h3, N⟩ := h
   exact ⟨(m, r, k', ent), rfl, ⟨h1.atE, h2, Nat.le_trans h3 (by decide)⟩, by simpa using N⟩) (fun _ => rfl) ?_
  rintro ⟨ls, v8, k9, e8⟩ ⟨o8, i8, l8⟩
  dsimp only [List.nil_append, List.cons_append] at o8 i8 l8 ⊢
  obtain ⟨r8, d8, rfl⟩ := o8.q
  refine gR 1 rfl (g_st1 2 rfl rfl rfl rfl rfl rfl (gR 7 rfl ?_))
  refine g_callT (ι := List RouV × Value × Nat × List (Nat × Obj)) 5 (fun j => j.2.1) (fun j => AtE 39 j.2.1 j.1.length (rosC j.1) j.2.2.2 ∧ (∀ y ∈ j.1, IsRo y) ∧ j.1.length ≤ 512) (fun j => tobj p len cap j.2.2.1) (fun j => [j.2.2.2]) rfl rfl rfl (fun w M => Cal.mono (routesE_c now hnow w (hT.later M.ext) (M.at_ _ (nthO_mem (i := 5) rfl))) fun r w' h => by
   obtain ⟨m, k', ent, h1, h2, h3, N⟩ := h
   exact ⟨(m, r, k', ent), rfl, ⟨h1.atE, h2, h3⟩, by simpa using N⟩) (fun _ => rfl) ?_
  rintro ⟨lr, vr, k10, er⟩ ⟨ar, ir, lr9⟩
  dsimp only [List.nil_append, List.cons_append] at ar ir lr9 ⊢
  obtain ⟨qr, cr, rfl⟩ := ar.q
  refine gR 5 rfl (g_pad ?_)
  refine g_loop (ι := Nat × (List RouV) × Value × (List (Nat × Obj))) ⟨fun (i, out, u, e9) => lr.length - i, fun (i, out, u, e9) => i ≤ lr.length ∧ OwnS 76 39 u out.length (rosC out) e9 ∧ out.Sublist (lr.take i), fun (i, out, u, e9) => [(76, .int .i64 i), (75, .int .i64 lr.length), (74, .slice qr lr.length cr), (5, .int .u64 self), (6, .pointer (some ⟨b6, 0, none⟩)), (0, .pointer (some ⟨bt, 0, none⟩)), (1, .int .i64 now), (4, .pointer (some ⟨b4, 0, none⟩))], fun (i, out, u, e9) => [e9, er, e8, e7, [(b6, Obj.cells (rtC (⟨self, sq, t1, q, hl, t2, 0, [], [], [], [], [], [], []⟩ : RtV) ⟨.slice r6 mo.length d6, .slice r7 aj.length d7, .slice r8 ls.length d8, u, .slice none 0 0, .slice none 0 0, .slice none 0 0⟩).toArray 53 (0, 0))], e6, [(b4, Obj.cells (rtC rt0 rx0).toArray 53 (0, 0))], [(bt, tobj p len cap k10)]]⟩ (0, [], _, []) ⟨by first | omega | (dsimp only;omega), OwnS.nilL _ _ _, by simp⟩ (fun a F => F.only [76, 75, 74, 5, 6, 0, 1, 4] rfl) (by repeat (first | exact .refl _ | apply sC2 | apply sC1)) ?_
  rintro ⟨i, out, u9, e9⟩ ⟨hi, o9, hsub⟩
  dsimp only at hi o9 hsub ⊢
  obtain ⟨r9, d9, rfl, -⟩ := own_q o9
  have hol : out.length ≤ i := by have := hsub.length_le;rw [List.length_take] at this;omega
  by_cases hlt2 : i < lr.length
  ·obtain ⟨br, orr, csr, tr, fzr, rfl, rfl, hsr⟩ := ar.mem (by omega)
   obtain ⟨x, hx0⟩ : ∃ x, x = lr[i] := ⟨_, rfl⟩
   have hxi : IsRo x := ir _ (hx0 ▸ List.getElem_mem hlt2)
   have f1 : seg csr (orr + (i : Int).toNat * 39) 39 = some (roC x) := by rw [hx0];exact seg_el (ros_len ir) hsr hlt2 (by omega)
   by_cases c1 : x.to.rt = self
   ·have c1t : (!decide (x.to.rt = self)) = false := by simp [c1]
    refine gR 6 rfl (g_ifT rfl (dqT (by omega)) (gR 6 rfl (g_ixS rfl rfl (by omega) (by omega) (g_ldA 1 rfl rfl (by with_reducible assumption) ?_))))
    refine g_alloc fun b9 => g_stA 0 rfl rfl (ro_len ‹_›) (ro_one _) rfl (put_all (by rw [ro_len ‹_›];first | rfl | rw [ro_len ‹_›])) rfl ?_
    refine gR 6 rfl (g_ld1 0 rfl rfl (ro_to_rt ‹_›) ?_)
    refine gR 3 rfl (g_know 85 rfl (bneF (by omega)) (gR 12 rfl (g_add rfl rfl (w_i64 (by omega) (by omega)) (gR 2 rfl ?_))))
    exact g_next (i + 1, out, _, _) ⟨by dsimp only;omega, by assumption, sub_skip hsub⟩ (by dsimp only;omega) (fun a F => F.only [76, 75, 74, 5, 6, 0, 1, 4] rfl) (by (try dsimp only);repeat (first | exact .refl _ | with_reducible exact sC0 _ | with_reducible apply sC2 | apply sC1))
   ·have c1t : (!decide (x.to.rt = self)) = true := by simp [c1]
    by_cases c2 : x.nb = self
    ·have c2t : (!decide (x.nb = self)) = false := by simp [c2]
     refine gR 6 rfl (g_ifT rfl (dqT (by omega)) (gR 6 rfl (g_ixS rfl rfl (by omega) (by omega) (g_ldA 1 rfl rfl (by with_reducible assumption) ?_))))
     refine g_alloc fun b9 => g_stA 0 rfl rfl (ro_len ‹_›) (ro_one _) rfl (put_all (by rw [ro_len ‹_›];first | rfl | rw [ro_len ‹_›])) rfl ?_
     refine gR 6 rfl (g_ld1 0 rfl rfl (ro_to_rt ‹_›) ?_)
     refine gR 3 rfl (g_know 85 rfl (bne_iff_ne.2 (by omega)) (gR 1 rfl (g_ld1 0 rfl rfl (ro_nb ‹_›) ?_)))
     refine gR 5 rfl (g_ifF rfl (bneF (by omega)) (gR 4 rfl (g_add rfl rfl (w_i64 (by omega) (by omega)) (gR 2 rfl ?_))))
     exact g_next (i + 1, out, _, _) ⟨by dsimp only;omega, by assumption, sub_skip hsub⟩ (by dsimp only;omega) (fun a F => F.only [76, 75, 74, 5, 6, 0, 1, 4] rfl) (by (try dsimp only);repeat (first | exact .refl _ | with_reducible exact sC0 _ | with_reducible apply sC2 | apply sC1))
    ·have c2t : (!decide (x.nb = self)) = true := by simp [c2]
     refine gR 6 rfl (g_ifT rfl (dqT (by omega)) (gR 6 rfl (g_ixS rfl rfl (by omega) (by omega) (g_ldA 1 rfl rfl (by with_reducible assumption) ?_))))
     refine g_alloc fun b9 => g_stA 0 rfl rfl (ro_len ‹_›) (ro_one _) rfl (put_all (by rw [ro_len ‹_›];first | rfl | rw [ro_len ‹_›])) rfl ?_
     refine gR 6 rfl (g_ld1 0 rfl rfl (ro_to_rt ‹_›) ?_)
     refine gR 3 rfl (g_know 85 rfl (bne_iff_ne.2 (by omega)) (gR 1 rfl (g_ld1 0 rfl rfl (ro_nb ‹_›) ?_)))
     refine gR 5 rfl (g_ifT rfl (bne_iff_ne.2 (by omega)) (gR 2 rfl (g_ld1 5 rfl rfl rfl (g_ldA 0 rfl rfl (ro_all ‹_›) ?_))))
     refine g_bs rfl rfl rfl (ro_build1 ‹_›) (fun b94 => ?_)
     refine g_app 2 0 (enc := roC) rfl rfl ‹_› rfl rfl (ro_len ‹_›) (by omega) (fun _ => rfl) (fun v95 es95 hO95 => ?_) (ro_one _)
     refine gR 1 rfl (g_st1 6 rfl rfl (own_one ‹_›) rfl rfl rfl ?_)
     refine gR 4 rfl (g_add rfl rfl (w_i64 (by omega) (by omega)) (gR 2 rfl ?_))
     exact g_next (i + 1, out ++ [x], _, _) ⟨by dsimp only;omega, by assumption, sub_app hlt2 hx0 hsub⟩ (by dsimp only;omega) (fun a F => F.only [76, 75, 74, 5, 6, 0, 1, 4] rfl) (by (try dsimp only);repeat (first | exact .refl _ | with_reducible exact sC0 _ | with_reducible apply sC2 | apply sC1))
  ·have hil : i = lr.length := by omega
   rw [hil, List.take_length] at hsub
   have i9 : ∀ y ∈ out, IsRo y := fun y hy => ir y (hsub.subset hy)
   refine gR 6 rfl (g_ifF rfl (dqF (by omega)) (gR 2 rfl (g_outX (gR 8 rfl (g_ld1 4 rfl rfl rfl ?_)))))
   have hbt : bt < W.heap.size := (Array.getElem?_eq_some_iff.1 hb).1
   have hol9 : out.length ≤ 512 := by omega
   clear ar ir
   refine g_callT (ι := List InsV × Value × Nat × List (Nat × Obj)) 7 (fun j => j.2.1) (fun j => AtE 40 j.2.1 j.1.length (insC j.1) j.2.2.2 ∧ (∀ y ∈ j.1, IsIn y) ∧ j.1.length ≤ 7) (fun j => tobj p len cap j.2.2.1) (fun j => [j.2.2.2]) rfl rfl rfl (fun w M => Cal.mono (installedE_c now hnow out i9 (by omega) _ w (o9.slAt M (fun q hq => List.mem_append_left _ hq)) (own_newV (o := tobj p len cap k10) o9 M (by simp) hbt) (hT.later M.ext) (M.at_ _ (nthO_mem (i := 7) rfl))) fun r w' h => by
    obtain ⟨m, k', ent, h1, h2, h3, N⟩ := h
    exact ⟨(m, r, k', ent), rfl, ⟨h1.atE, h2, h3⟩, by simpa using N⟩) (fun _ => rfl) ?_
   rintro ⟨li, vi, k11, ei⟩ ⟨ai, ii, li7⟩
   dsimp only [List.nil_append, List.cons_append] at ai ii li7 ⊢
   obtain ⟨qi, ci, rfl⟩ := ai.q
   refine gR 5 rfl (g_pad ?_)
   refine g_loop (ι := Nat × (List InsV) × Value × (List (Nat × Obj))) ⟨fun (i, oi, u, e10) => li.length - i, fun (i, oi, u, e10) => i ≤ li.length ∧ OwnS 74 40 u oi.length (insC oi) e10 ∧ oi.Sublist (li.take i), fun (i, oi, u, e10) => [(104, .int .i64 i), (103, .int .i64 li.length), (102, .slice qi li.length ci), (5, .int .u64 self), (6, .pointer (some ⟨b6, 0, none⟩)), (0, .pointer (some ⟨bt, 0, none⟩)), (1, .int .i64 now), (4, .pointer (some ⟨b4, 0, none⟩))], fun (i, oi, u, e10) => [e10, ei, e9, er, e8, e7, [(b6, Obj.cells (rtC (⟨self, sq, t1, q, hl, t2, 0, [], [], [], [], [], [], []⟩ : RtV) ⟨.slice r6 mo.length d6, .slice r7 aj.length d7, .slice r8 ls.length d8, .slice r9 out.length d9, u, .slice none 0 0, .slice none 0 0⟩).toArray 53 (0, 0))], e6, [(b4, Obj.cells (rtC rt0 rx0).toArray 53 (0, 0))], [(bt, tobj p len cap k11)]]⟩ (0, [], _, []) ⟨by first | omega | (dsimp only;omega), OwnS.nilL _ _ _, by simp⟩ (fun a F => F.only [104, 103, 102, 5, 6, 0, 1, 4] rfl) (by repeat (first | exact .refl _ | apply sC2 | apply sC1)) ?_
   rintro ⟨i, oi, u10, e10⟩ ⟨hi, o10, hsub2⟩
   dsimp only at hi o10 hsub2 ⊢
   obtain ⟨r10, d10, rfl, -⟩ := own_q o10
   have hol2 : oi.length ≤ i := by have := hsub2.length_le;rw [List.length_take] at this;omega
   by_cases hlt3 : i < li.length
   ·obtain ⟨br, orr, csr, tr, fzr, rfl, rfl, hsr⟩ := ai.mem (by omega)
    obtain ⟨x, hx0⟩ : ∃ x, x = li[i] := ⟨_, rfl⟩
    have hxi : IsIn x := ii _ (hx0 ▸ List.getElem_mem hlt3)
    have f1 : seg csr (orr + (i : Int).toNat * 40) 40 = some (inC x) := by rw [hx0];exact seg_el (ins_len ii) hsr hlt3 (by omega)
    by_cases c1 : x.to.rt = self
    ·have c1t : (!decide (x.to.rt = self)) = false := by simp [c1]
     refine gR 6 rfl (g_ifT rfl (dqT (by omega)) (gR 6 rfl (g_ixS rfl rfl (by omega) (by omega) (g_ldA 1 rfl rfl (by with_reducible assumption) ?_))))
     refine g_alloc fun b11 => g_stA 0 rfl rfl (in_len ‹_›) (in_one _) rfl (put_all (by rw [in_len ‹_›];first | rfl | rw [in_len ‹_›])) rfl ?_
     refine gR 6 rfl (g_ld1 0 rfl rfl (in_to_rt ‹_›) ?_)
     refine gR 3 rfl (g_know 113 rfl (bneF (by omega)) (gR 12 rfl (g_add rfl rfl (w_i64 (by omega) (by omega)) (gR 2 rfl ?_))))
     exact g_next (i + 1, oi, _, _) ⟨by dsimp only;omega, by assumption, sub_skip hsub2⟩ (by dsimp only;omega) (fun a F => F.only [104, 103, 102, 5, 6, 0, 1, 4] rfl) (by (try dsimp only);repeat (first | exact .refl _ | with_reducible exact sC0 _ | with_reducible apply sC2 | apply sC1))
    ·have c1t : (!decide (x.to.rt = self)) = true := by simp [c1]
     by_cases c2 : x.nb = self
     ·have c2t : (!decide (x.nb = self)) = false := by simp [c2]
      refine gR 6 rfl (g_ifT rfl (dqT (by omega)) (gR 6 rfl (g_ixS rfl rfl (by omega) (by omega) (g_ldA 1 rfl rfl (by with_reducible assumption) ?_))))
      refine g_alloc fun b11 => g_stA 0 rfl rfl (in_len ‹_›) (in_one _) rfl (put_all (by rw [in_len ‹_›];first | rfl | rw [in_len ‹_›])) rfl ?_
      refine gR 6 rfl (g_ld1 0 rfl rfl (in_to_rt ‹_›) ?_)
      refine gR 3 rfl (g_know 113 rfl (bne_iff_ne.2 (by omega)) (gR 1 rfl (g_ld1 0 rfl rfl (in_nb ‹_›) ?_)))
      refine gR 5 rfl (g_ifF rfl (bneF (by omega)) (gR 4 rfl (g_add rfl rfl (w_i64 (by omega) (by omega)) (gR 2 rfl ?_))))
      exact g_next (i + 1, oi, _, _) ⟨by dsimp only;omega, by assumption, sub_skip hsub2⟩ (by dsimp only;omega) (fun a F => F.only [104, 103, 102, 5, 6, 0, 1, 4] rfl) (by (try dsimp only);repeat (first | exact .refl _ | with_reducible exact sC0 _ | with_reducible apply sC2 | apply sC1))
     ·have c2t : (!decide (x.nb = self)) = true := by simp [c2]
      refine gR 6 rfl (g_ifT rfl (dqT (by omega)) (gR 6 rfl (g_ixS rfl rfl (by omega) (by omega) (g_ldA 1 rfl rfl (by with_reducible assumption) ?_))))
      refine g_alloc fun b11 => g_stA 0 rfl rfl (in_len ‹_›) (in_one _) rfl (put_all (by rw [in_len ‹_›];first | rfl | rw [in_len ‹_›])) rfl ?_
      refine gR 6 rfl (g_ld1 0 rfl rfl (in_to_rt ‹_›) ?_)
      refine gR 3 rfl (g_know 113 rfl (bne_iff_ne.2 (by omega)) (gR 1 rfl (g_ld1 0 rfl rfl (in_nb ‹_›) ?_)))
      refine gR 5 rfl (g_ifT rfl (bne_iff_ne.2 (by omega)) (gR 2 rfl (g_ld1 7 rfl rfl rfl (g_ldA 0 rfl rfl (in_all ‹_›) ?_))))
      refine g_bs rfl rfl rfl (in_build1 ‹_›) (fun b122 => ?_)
      refine g_app 2 0 (enc := inC) rfl rfl ‹_› rfl rfl (in_len ‹_›) (by omega) (fun _ => rfl) (fun v123 es123 hO123 => ?_) (in_one _)
      refine gR 1 rfl (g_st1 8 rfl rfl (own_one ‹_›) rfl rfl rfl ?_)
      refine gR 4 rfl (g_add rfl rfl (w_i64 (by omega) (by omega)) (gR 2 rfl ?_))
      exact g_next (i + 1, oi ++ [x], _, _) ⟨by dsimp only;omega, by assumption, sub_app hlt3 hx0 hsub2⟩ (by dsimp only;omega) (fun a F => F.only [104, 103, 102, 5, 6, 0, 1, 4] rfl) (by (try dsimp only);repeat (first | exact .refl _ | with_reducible exact sC0 _ | with_reducible apply sC2 | apply sC1))
   ·have hil2 : i = li.length := by omega
    rw [hil2, List.take_length] at hsub2
    have i10 : ∀ y ∈ oi, IsIn y := fun y hy => ii y (hsub2.subset hy)
    have hol10 : oi.length ≤ 7 := by omega
    clear ai ii
    refine gR 6 rfl (g_ifF rfl (dqF (by omega)) (gR 2 rfl (g_outX (gR 6 rfl ?_))))
    refine g_callT (ι := List ReqV × Value × Nat × List (Nat × Obj)) 9 (fun j => j.2.1) (fun j => OwnS 171 40 j.2.1 j.1.length (rqsC j.1) j.2.2.2 ∧ (∀ y ∈ j.1, IsRq y) ∧ j.1.length ≤ 64) (fun j => tobj p len cap j.2.2.1) (fun j => [j.2.2.2]) rfl rfl rfl (fun w M => Cal.mono (requestsW_c now hnow w (hT.later M.ext) (M.at_ _ (nthO_mem (i := 9) rfl))) fun r w' h => by
     obtain ⟨m, k', ent, h1, h2, h3, N⟩ := h
     exact ⟨(m, r, k', ent), rfl, ⟨h1, h2, h3⟩, by simpa using N⟩) (fun _ => rfl) ?_
    rintro ⟨lq, vq, k12, e11⟩ ⟨o11, i11, l11⟩
    dsimp only [List.nil_append, List.cons_append] at o11 i11 l11 ⊢
    obtain ⟨r11, d11, rfl, -⟩ := own_q o11
    refine gR 1 rfl (g_st1 7 rfl rfl rfl rfl rfl rfl (gR 5 rfl (g_ldA 7 rfl rfl rfl ?_)))
    have hsI : IsRt (⟨self, sq, t1, q, hl, t2, 0, mo, aj, ls, out, oi, lq, []⟩ : RtV) := ⟨i6, fun _ _ => trivial, i8, i9, i10, i11, fun y hy => (List.not_mem_nil hy).elim, iq⟩
    refine g_callN (ι := Value × List (Nat × Obj)) (fun j => j.1) (fun j => OwnS 100 37 j.1 (rtAnn (⟨self, sq, t1, q, hl, t2, 0, mo, aj, ls, out, oi, lq, []⟩ : RtV)).length (avsC (rtAnn (⟨self, sq, t1, q, hl, t2, 0, mo, aj, ls, out, oi, lq, []⟩ : RtV))) j.2) (fun j => [j.2]) rfl rfl (fun w M => Cal.mono (rAnnounced_c (⟨self, sq, t1, q, hl, t2, 0, mo, aj, ls, out, oi, lq, []⟩ : RtV) ⟨.slice r6 mo.length d6, .slice r7 aj.length d7, .slice r8 ls.length d8, .slice r9 out.length d9, .slice r10 oi.length d10, .slice r11 lq.length d11, .slice none 0 0⟩ hsI w ⟨o6.slAt M (fun q hq => List.mem_flatten_of_mem (by simp) hq), o7.slAt M (fun q hq => List.mem_flatten_of_mem (by simp) hq), o8.slAt (fun q hq => M.at_ q (List.mem_flatten_of_mem (by simp) hq)), o9.slAt M (fun q hq => List.mem_flatten_of_mem (by simp) hq), o10.slAt M (fun q hq => List.mem_flatten_of_mem (by simp) hq), o11.slAt M (fun q hq => List.mem_flatten_of_mem (by simp) hq), SlAt.nil _ _⟩) fun r w' hh => by
     obtain ⟨ent, e1, e2⟩ := hh
     exact ⟨(r, ent), rfl, e1, by simpa using e2⟩) ?_
    rintro ⟨va, ea⟩ oa
    dsimp only [List.nil_append, List.cons_append] at oa ⊢
    obtain ⟨ra, da, rfl, -⟩ := own_q oa
    have hla := rtAnn_len (⟨self, sq, t1, q, hl, t2, 0, mo, aj, ls, out, oi, lq, []⟩ : RtV)
    skip
    refine g_callT (ι := List AdvV × Value × Nat × List (Nat × Obj)) 11 (fun j => j.2.1) (fun j => OwnS 100 37 j.2.1 j.1.length (avsC j.1) j.2.2.2 ∧ (∀ y ∈ j.1, IsAv y) ∧ j.1.length ≤ 1000) (fun j => tobj p len cap j.2.2.1) (fun j => [j.2.2.2]) rfl rfl rfl (fun w M => Cal.mono (vary_c (rtAnn (⟨self, sq, t1, q, hl, t2, 0, mo, aj, ls, out, oi, lq, []⟩ : RtV)) (rtAnn_is hsI) (by omega) _ w (oa.slAt M (fun q hq => List.mem_flatten_of_mem (by simp) hq)) (fun b o s k c e hq => by have h9 := own_newV (o := tobj p len cap k12) oa M (by simp) hbt b o s k c e;simp at hq;omega) (hT.later M.ext) (M.at_ _ (nthO_mem (i := 11) rfl))) fun r w' h => by
     obtain ⟨m, k', ent, h1, h2, h3, _, N⟩ := h
     exact ⟨(m, r, k', ent), rfl, ⟨h1, h2, Nat.le_trans h3 hla⟩, by simpa using N⟩) (fun _ => rfl) ?_
    rintro ⟨lv, vv, k13, e12⟩ ⟨o12, i12, l12⟩
    dsimp only [List.nil_append, List.cons_append] at o12 i12 l12 ⊢
    obtain ⟨r12, d12, rfl, -⟩ := own_q o12
    refine gR 2 rfl ?_
    refine g_callT (ι := Int × Nat) 12 (fun j => .int .i64 j.1) (fun j => True) (fun j => tobj p len cap j.2) (fun _ => []) rfl rfl rfl (fun w M => Cal.mono (wtimeE_c now hnow.1 hnow.2 w (hT.later M.ext) (M.at_ _ (nthO_mem (i := 12) rfl))) fun r w' h => by
      obtain ⟨x, k', q, _, N⟩ := h
      exact ⟨(x, k'), q, trivial, by simpa using N⟩) (fun _ => rfl) ?_
    rintro ⟨tf, k14⟩ -
    dsimp only [List.nil_append, List.cons_append]
    refine g_v (fun a w F M R r => o_build F rfl rfl r) (gR 1 rfl ?_)
    refine g_stA 9 rfl rfl rfl rfl rfl rfl rfl ?_
    refine gR 4 rfl (g_ldA 9 rfl rfl rfl ?_)
    refine g_stA 11 rfl rfl rfl rfl rfl rfl rfl ?_
    refine gR 3 rfl (g_retC 11 rfl rfl rfl rfl rfl fun w M => ?_)
    exact ⟨⟨self, sq, t1, q, hl, t2, tf, mo, aj, ls, out, oi, lq, lv⟩, ⟨_, _, _, _, _, _, _⟩, ⟨e6, e7, e8, e9, e10, e11, e12⟩, _, rfl, ⟨i6, fun _ _ => trivial, i8, i9, i10, i11, i12, iq⟩, ⟨by dsimp only;omega, by dsimp only;omega, l8, by dsimp only;omega, by dsimp only;omega, by dsimp only;omega, l12⟩, ⟨o6.atE, o7.atE, o8, o9.atE, o10.atE, o11.atE, o12.atE⟩, rowT (M.sub (subO (by (try dsimp only [RtE.row, List.cons_append, List.nil_append]);repeat (first | exact .refl _ | exact sC0 _ | with_reducible apply sC2 | apply sC1))))⟩
end Go.Proofs.YtfhkmgcalcfibaaGreat
namespace Go.Proofs.YtfhkmgcalcfibaaGreat
open Go.RowKit
theorem OpTo.guard {P : Program} {d : Option Nat} {op : Op} {ty : TypeId} {pos : String} {af : Array Edge} {g : Option (Nat × Bool)} {ρ : Operand → Value} {w : World} {R : Value → World → Prop} (h : OpTo P ⟨d, op, ty, pos, af, none⟩ ρ w R) : OpTo P ⟨d, op, ty, pos, af, g⟩ ρ w R := by
 have e : execOp ρ ⟨d, op, ty, pos, af, g⟩ = execOp ρ ⟨d, op, ty, pos, af, none⟩ := by cases op <;> rfl
 unfold OpTo at *
 rw [e]
 exact h
section
variable {c : Cx} {Q : Exit → Act → World → Prop} {ks : List KF} {fr fr' : List (Nat × Value)} {l : Row} {x : RX} {rest rest' : List Oper} {k k' : Nat} {xs : List (Nat × XP)} {E : ESt} {d : Nat} {op : Op} {ty : TypeId} {pos : String} {af : Array Edge} {g : Option (Nat × Bool)}
section
variable {ι : Type} {P : ι → Prop} {sl : ι → List (Nat × Value)} {li : ι → Row}
end
theorem newV_own {e : TypeId} {sz n : Nat} {v : Value} {cs : List Value} {ent : List (Nat × Obj)} {w w' : World} (h : OwnS e sz v n cs ent) (N : Mem [] w w' ent) : NewV w.heap.size v := by
 rcases h with ⟨rfl, _⟩ | ⟨b, cap, j, rfl, rfl, _⟩
 ·intro b o s n c h;cases h
 ·intro b' o' s' n' c' h
  cases h
  exact (N.own (b, _) List.mem_cons_self).resolve_left (by simp)
theorem newV_mono {n0 n1 : Nat} {v : Value} (h : NewV n1 v) (hle : n0 ≤ n1) : NewV n0 v := fun b o s n c e => Nat.le_trans hle (h b o s n c e)
theorem fe_callS {e : TypeId} {sz n : Nat} {cs : List Value} {y : Operand} {f : FuncId} {ys : List Operand} {ts : Array TypeId} {vs : List Value} [hb : TBody c.P f] (hx' : Ev fr y = some (.func (.func f) #[] #[])) (ha : evL fr ys = some vs) (hc : ∀ w, Mem c.S c.W w x.lk.flatten → Cal c.P f vs.toArray w fun v w' => ∃ ent, OwnS e sz v n cs ent ∧ Mem [] w w' ent)
  (hk : FE c Q ks x (k + 1) rest fr ((k, .sl sz n cs) :: xs) E) (hlt : flo x.Ef x.Rl [] x.n k (.call ⟨.value y, ys.toArray, ts⟩) = true := by rfl) (hnd : notIn d fr = true := by rfl) :
  FE c Q ks x k (⟨some d, .call ⟨.value y, ys.toArray, ts⟩, ty, pos, af, none⟩ :: rest) fr xs E := fun hE a w Vs hM hB hok hx => by
 intro hlen
 have hop : ∀ (a' : Act) (w' : World), Frm a' c.n c.df fr → Ext x.B w w' → OpTo c.P ⟨some d, .call ⟨.value y, ys.toArray, ts⟩, ty, pos, af, none⟩ a'.eval w' fun v w'' => Ext [] w' w'' ∧ (SlAt w'' sz v n cs ∧ NewV w.heap.size v) := fun a' w' F' E' => o_call (F'.e hx') (F'.evs ha) (Cal.mono (hc w' (hM w' E')) fun v w'' h => by
  obtain ⟨ent, h1, N⟩ := h
  exact ⟨N.ext, h1.slAt N fun q hq => hq, newV_mono (newV_own h1 N) E'.size⟩)
 refine mX (V := (XP.sl sz n cs).pred w.heap.size) hok hlt hnd (XP.stays hB _) (fun a' w' F' E' D' => hop a' w' F' E') (hk (fun sl l h q hq => Nat.lt_succ_of_lt (hE sl l h q hq)) a w _ hM hB hok (fun q hq => ?_)) hlen
 rcases List.mem_cons.1 hq with rfl | hq
 ·rw [← hlen];simp
 ·exact xs_app hx q hq
theorem fe_callSG {jg tg : Nat} {bg : Bool} (hjg : (x.ol.toArray[jg]?).bind (·.dst) = some tg) (hbg : look fr tg = some (.bool bg)) {e : TypeId} {sz n : Nat} {cs : List Value} {y : Operand} {f : FuncId} {ys : List Operand} {ts : Array TypeId} {vs : List Value} [hb : TBody c.P f] (hx' : Ev fr y = some (.func (.func f) #[] #[])) (ha : evL fr ys = some vs) (hc : ∀ w, Mem c.S c.W w x.lk.flatten → Cal c.P f vs.toArray w fun v w' => ∃ ent, OwnS e sz v n cs ent ∧ Mem [] w w' ent)
  (hk : FE c Q ks x (k + 1) rest fr ((k, .sl sz n cs) :: xs) E) (hlt : flo x.Ef x.Rl [] x.n k (.call ⟨.value y, ys.toArray, ts⟩) = true := by rfl) (hnd : notIn d fr = true := by rfl) :
  FE c Q ks x k (⟨some d, .call ⟨.value y, ys.toArray, ts⟩, ty, pos, af, some (jg, bg)⟩ :: rest) fr xs E := fun hE a w Vs hM hB hok hx => by
 intro hlen
 have hop : ∀ (a' : Act) (w' : World), Frm a' c.n c.df fr → Ext x.B w w' → OpTo c.P ⟨some d, .call ⟨.value y, ys.toArray, ts⟩, ty, pos, af, some (jg, bg)⟩ a'.eval w' fun v w'' => Ext [] w' w'' ∧ (SlAt w'' sz v n cs ∧ NewV w.heap.size v) := fun a' w' F' E' => o_call (F'.e hx') (F'.evs ha) (Cal.mono (hc w' (hM w' E')) fun v w'' h => by
  obtain ⟨ent, h1, N⟩ := h
  exact ⟨N.ext, h1.slAt N fun q hq => hq, newV_mono (newV_own h1 N) E'.size⟩)
 refine mXG (V := (XP.sl sz n cs).pred w.heap.size) hok hlt hjg hbg hnd (XP.stays hB _) (fun a' w' F' E' D' => hop a' w' F' E') (hk (fun sl l h q hq => Nat.lt_succ_of_lt (hE sl l h q hq)) a w _ hM hB hok (fun q hq => ?_)) hlen
 rcases List.mem_cons.1 hq with rfl | hq
 ·rw [← hlen];simp
 ·exact xs_app hx q hq
theorem xs_slotS {a : Act} {w : World} {o : Oper} {j n0 t2 : Nat} {p : XP} {Vs : List Pred} {ol : List Oper} (hx : ∀ q ∈ xs, Vs[q.1]? = some (q.2.pred n0)) (hj : (j, p) ∈ xs) (hd : (depsOf o).contains j = true) (ht : (ol.toArray[j]?).bind (·.dst) = some t2)
  (D : ∀ j' ∈ depsOf o, ∀ U, Vs[j']? = some U → U (slotV ol.toArray j' a) w) : p.pred n0 (a.eval (.tmp t2)) w := by
 have h := D j (by simpa using hd) _ (hx _ hj)
 unfold slotV at h
 rw [ht] at h
 exact h
theorem fe_callK2 {v : Value} (j1 j2 : Nat) {t1 t2 sz1 n1 sz2 n2 : Nat} {cs1 cs2 : List Value} {y : Operand} {f : FuncId} {ts : Array TypeId} [hb : TBody c.P f] (hx' : Ev fr y = some (.func (.func f) #[] #[])) (hj1 : (j1, XP.sl sz1 n1 cs1) ∈ xs) (hj2 : (j2, XP.sl sz2 n2 cs2) ∈ xs)
  (hc : ∀ w u1 u2, SlAt w sz1 u1 n1 cs1 → SlAt w sz2 u2 n2 cs2 → Cal c.P f [u1, u2].toArray w fun u w' => u = v ∧ Ext [] w w')
  (hk : FE c Q ks x (k + 1) rest ((d, v) :: fr) xs E) (hlt : flo x.Ef x.Rl [] x.n k (.call ⟨.value y, [Operand.tmp t1, Operand.tmp t2].toArray, ts⟩) = true := by rfl) (hd0 : Nat.blt d c.n = true := by rfl)
  (hd1 : (depsOf ⟨some d, .call ⟨.value y, [Operand.tmp t1, Operand.tmp t2].toArray, ts⟩, ty, pos, af, none⟩).contains j1 = true := by rfl) (hd2 : (depsOf ⟨some d, .call ⟨.value y, [Operand.tmp t1, Operand.tmp t2].toArray, ts⟩, ty, pos, af, none⟩).contains j2 = true := by rfl)
  (ht1 : (x.ol.toArray[j1]?).bind (·.dst) = some t1 := by rfl) (ht2 : (x.ol.toArray[j2]?).bind (·.dst) = some t2 := by rfl) :
  FE c Q ks x k (⟨some d, .call ⟨.value y, [Operand.tmp t1, Operand.tmp t2].toArray, ts⟩, ty, pos, af, none⟩ :: rest) fr xs E := fun hE a w Vs hM hB hok hx => by
 intro hlen
 refine mKX hok hlt hd0 (fun a' w' F' E' D' => ?_) (hk (fun sl l h q hq => Nat.lt_succ_of_lt (hE sl l h q hq)) a w _ hM hB hok (xs_app hx)) hlen
 have e1 : SlAt w' sz1 (a'.eval (.tmp t1)) n1 cs1 := (xs_slotS hx hj1 hd1 ht1 D').1
 have e2 : SlAt w' sz2 (a'.eval (.tmp t2)) n2 cs2 := (xs_slotS hx hj2 hd2 ht2 D').1
 have e3 : ([Operand.tmp t1, Operand.tmp t2].toArray).map a'.eval = [a'.eval (.tmp t1), a'.eval (.tmp t2)].toArray := by simp
 exact o_call (F'.e hx') e3 (Cal.mono (hc w' _ _ e1 e2) fun u w'' h => ⟨h.2, h.1⟩)
theorem fe_callK2G {jg tg : Nat} {bg : Bool} (hjg : (x.ol.toArray[jg]?).bind (·.dst) = some tg) (hbg : look fr tg = some (.bool bg)) {v : Value} (j1 j2 : Nat) {t1 t2 sz1 n1 sz2 n2 : Nat} {cs1 cs2 : List Value} {y : Operand} {f : FuncId} {ts : Array TypeId} [hb : TBody c.P f] (hx' : Ev fr y = some (.func (.func f) #[] #[])) (hj1 : (j1, XP.sl sz1 n1 cs1) ∈ xs) (hj2 : (j2, XP.sl sz2 n2 cs2) ∈ xs)
  (hc : ∀ w u1 u2, SlAt w sz1 u1 n1 cs1 → SlAt w sz2 u2 n2 cs2 → Cal c.P f [u1, u2].toArray w fun u w' => u = v ∧ Ext [] w w')
  (hk : FE c Q ks x (k + 1) rest ((d, v) :: fr) xs E) (hlt : flo x.Ef x.Rl [] x.n k (.call ⟨.value y, [Operand.tmp t1, Operand.tmp t2].toArray, ts⟩) = true := by rfl) (hd0 : Nat.blt d c.n = true := by rfl)
  (hd1 : (depsOf ⟨some d, .call ⟨.value y, [Operand.tmp t1, Operand.tmp t2].toArray, ts⟩, ty, pos, af, some (jg, bg)⟩).contains j1 = true := by rfl) (hd2 : (depsOf ⟨some d, .call ⟨.value y, [Operand.tmp t1, Operand.tmp t2].toArray, ts⟩, ty, pos, af, some (jg, bg)⟩).contains j2 = true := by rfl)
  (ht1 : (x.ol.toArray[j1]?).bind (·.dst) = some t1 := by rfl) (ht2 : (x.ol.toArray[j2]?).bind (·.dst) = some t2 := by rfl) :
  FE c Q ks x k (⟨some d, .call ⟨.value y, [Operand.tmp t1, Operand.tmp t2].toArray, ts⟩, ty, pos, af, some (jg, bg)⟩ :: rest) fr xs E := fun hE a w Vs hM hB hok hx => by
 intro hlen
 refine mKXG hok hlt hd0 hjg hbg (fun a' w' F' E' D' => ?_) (hk (fun sl l h q hq => Nat.lt_succ_of_lt (hE sl l h q hq)) a w _ hM hB hok (xs_app hx)) hlen
 have e1 : SlAt w' sz1 (a'.eval (.tmp t1)) n1 cs1 := (xs_slotS hx hj1 hd1 ht1 D').1
 have e2 : SlAt w' sz2 (a'.eval (.tmp t2)) n2 cs2 := (xs_slotS hx hj2 hd2 ht2 D').1
 have e3 : ([Operand.tmp t1, Operand.tmp t2].toArray).map a'.eval = [a'.eval (.tmp t1), a'.eval (.tmp t2)].toArray := by simp
 exact o_call (F'.e hx') e3 (Cal.mono (hc w' _ _ e1 e2) fun u w'' h => ⟨h.2, h.1⟩)
end
/-! ### integers that are not told -/
def cstP (n : Int) : Int := (n + 633825300114114700748351602688) % 1267650600228229401496703205376 - 633825300114114700748351602688
def rstP (n : Int) : Int := (n + 633825300114114700748351602688) / 1267650600228229401496703205376
def smP (c : Int) : Bool := Nat.blt c.natAbs 316912650057057350374175801344
def okA (n : Int) : Bool := smP (cstP n) && smP (cstP (rstP n)) && smP (cstP (rstP (rstP n))) && smP (cstP (rstP (rstP (rstP n))))
def litI (n : Int) : Bool := Nat.blt n.natAbs 1237940039285380274899124224
class Sy where
 th : Int → Int
 rng : Int → Option (Int × Int)
 lit : ∀ n : Int, litI n = true → th n = n
 add : ∀ x y : Int, okA x = true → okA y = true → th (x + y) = th x + th y
 sub : ∀ x y : Int, okA x = true → okA y = true → th (x - y) = th x - th y
 rng_ok : ∀ x lo hi : Int, rng x = some (lo, hi) → lo ≤ th x ∧ th x ≤ hi
variable [Y : Sy]
/-! ### values, up to where their blocks lie -/
abbrev Rl := Nat → Option (Nat × Nat)
def capR (c k : Nat) : Nat := if k < 9223372036854775808 then k else c - (18446744073709551616 - k)
mutual
inductive VR [Y : Sy] (ρ : Rl) : Value → Value → Prop
 | bool (b : Bool) : VR ρ (.bool b) (.bool b)
 | int (k : IntKind) (n : Int) : VR ρ (.int k n) (.int k (Y.th n))
 | str (s : ByteArray) : VR ρ (.string s) (.string s)
 | ptr0 : VR ρ (.pointer none) (.pointer none)
 | ptr {b o r c : Nat} (h : ρ b = some (r, c)) : VR ρ (.pointer (some ⟨b, o, none⟩)) (.pointer (some ⟨r, o, none⟩))
 | sl0 (n c : Nat) : VR ρ (.slice none n c) (.slice none n c)
 | sl {b o r c n k : Nat} (h : ρ b = some (r, c)) (hn : n ≤ capR c k) : VR ρ (.slice (some ⟨b, o, none⟩) n k) (.slice (some ⟨r, o, none⟩) n (capR c k))
 | slE (q : Addr) (k : Nat) : VR ρ (.slice (some ⟨0, 0, some 0⟩) 0 0) (.slice (some q) 0 k)
 | fn {f : Fn} {vs us : Array Value} {vs' us' : List Value} (h1 : VRs ρ vs.toList vs') (h2 : VRs ρ us.toList us') : VR ρ (.func f vs us) (.func f vs'.toArray us'.toArray)
 | nilF : VR ρ .nilFunc .nilFunc
 | nilI : VR ρ .nilIface .nilIface
 | map0 : VR ρ (.map none) (.map none)
 | mp {b r c : Nat} (h : ρ b = some (r, c)) : VR ρ (.map (some b)) (.map (some r))
 | agg {cs : Array Value} {cs' : List Value} (h : VRs ρ cs.toList cs') : VR ρ (.agg cs) (.agg cs'.toArray)
 | tup {cs : Array Value} {cs' : List Value} (h : VRs ρ cs.toList cs') : VR ρ (.tuple cs) (.tuple cs'.toArray)
inductive VRs [Y : Sy] (ρ : Rl) : List Value → List Value → Prop
 | nil : VRs ρ [] []
 | cons {v v' : Value} {vs vs' : List Value} (h : VR ρ v v') (t : VRs ρ vs vs') : VRs ρ (v :: vs) (v' :: vs')
end
mutual
theorem VR.mono {ρ ρ' : Rl} (hle : ∀ b r, ρ b = some r → ρ' b = some r) : ∀ {v u : Value}, VR ρ v u → VR ρ' v u
 | _, _, .bool b => .bool b
 | _, _, .int k n => .int k n
 | _, _, .str s => .str s
 | _, _, .ptr0 => .ptr0
 | _, _, .ptr h => .ptr (hle _ _ h)
 | _, _, .sl0 n c => .sl0 n c
 | _, _, .sl h hn => .sl (hle _ _ h) hn
 | _, _, .slE q k => .slE q k
 | _, _, .fn h1 h2 => .fn (VRs.mono hle h1) (VRs.mono hle h2)
 | _, _, .nilF => .nilF
 | _, _, .nilI => .nilI
 | _, _, .map0 => .map0
 | _, _, .mp h => .mp (hle _ _ h)
 | _, _, .agg h => .agg (VRs.mono hle h)
 | _, _, .tup h => .tup (VRs.mono hle h)
theorem VRs.mono {ρ ρ' : Rl} (hle : ∀ b r, ρ b = some r → ρ' b = some r) : ∀ {v u : List Value}, VRs ρ v u → VRs ρ' v u
 | _, _, .nil => .nil
 | _, _, .cons h t => .cons (VR.mono hle h) (VRs.mono hle t)
end
theorem VRs.len {ρ : Rl} : ∀ {v u : List Value}, VRs ρ v u → u.length = v.length
 | _, _, .nil => rfl
 | _, _, .cons _ t => by simp [VRs.len t]
theorem VRs.app {ρ : Rl} : ∀ {v u v2 u2 : List Value}, VRs ρ v u → VRs ρ v2 u2 → VRs ρ (v ++ v2) (u ++ u2)
 | _, _, _, _, .nil, h => h
 | _, _, _, _, .cons h t, h2 => .cons h (VRs.app t h2)
theorem VRs.split {ρ : Rl} : ∀ {v v2 u : List Value}, VRs ρ (v ++ v2) u → ∃ u1 u2, u = u1 ++ u2 ∧ VRs ρ v u1 ∧ VRs ρ v2 u2
 | [], _, u, h => ⟨[], u, rfl, .nil, h⟩
 | x :: xs, v2, _, .cons h t => by
  obtain ⟨u1, u2, rfl, h1, h2⟩ := VRs.split (v := xs) t
  exact ⟨_ :: u1, u2, rfl, .cons h h1, h2⟩
theorem vr_nth {ρ : Rl} : ∀ {v u : List Value} {i : Nat} {x : Value}, VRs ρ v u → nth v i = some x → ∃ y, nth u i = some y ∧ VR ρ x y
 | _, _, 0, _, .cons h _, e => by
  cases e
  exact ⟨_, rfl, h⟩
 | _, _, i + 1, _, .cons _ t, e => vr_nth (i := i) t e
theorem vr_seg {ρ : Rl} : ∀ {v u : List Value} {off n : Nat} {xs : List Value}, VRs ρ v u → seg v off n = some xs → ∃ ys, seg u off n = some ys ∧ VRs ρ xs ys
 | v, u, 0, 0, xs, h, e => by
  cases h <;> (simp [seg] at e;subst e;exact ⟨[], by simp [seg], .nil⟩)
 | _, _, off + 1, 0, xs, .nil, e => by
  simp [seg] at e
 | _, _, 0, n + 1, xs, .nil, e => by
  simp [seg] at e
 | _, _, off + 1, n + 1, xs, .nil, e => by
  simp [seg] at e
 | _, _, off + 1, n, xs, .cons (vs := vs) h t, e => by
  have e' : seg vs off n = some xs := by cases n <;> simpa [seg] using e
  obtain ⟨ys, h1, h2⟩ := vr_seg t e'
  exact ⟨ys, by cases n <;> simpa [seg] using h1, h2⟩
 | _, _, 0, n + 1, xs, .cons (vs := vs) h t, e => by
  simp only [seg] at e
  split at e
  ·rename_i r hr
   cases e
   obtain ⟨ys, h1, h2⟩ := vr_seg t hr
   exact ⟨_ :: ys, by simp [seg, h1], .cons h h2⟩
  ·cases e
omit Y in
theorem seg_junk {xs junk : List Value} {off n : Nat} {ys : List Value} (h : seg xs off n = some ys) : seg (xs ++ junk) off n = some ys := by
 induction xs generalizing off n ys with
 | nil =>
  cases off <;> cases n <;> simp [seg] at h
  subst h
  cases junk <;> simp [seg]
 | cons x xs ih =>
  cases off with
  | zero =>
   cases n with
   | zero => simpa [seg] using h
   | succ n =>
    simp only [seg] at h
    split at h
    ·rename_i r hr
     cases h
     simp [seg, ih hr]
    ·cases h
  | succ off => cases n <;> (simp only [List.cons_append, seg] at h ⊢;exact ih h)
omit Y in
theorem nth_junk {xs junk : List Value} {i : Nat} {y : Value} (h : nth xs i = some y) : nth (xs ++ junk) i = some y := by
 rw [nth_spec] at h ⊢
 have := (List.getElem?_eq_some_iff.1 h).1
 rw [List.getElem?_append_left this, h]
theorem vr_put {ρ : Rl} {v u ys zs rs : List Value} {off : Nat} (h : VRs ρ v u) (h2 : VRs ρ ys zs) (e : put v off ys = some rs) : ∃ us, put u off zs = some us ∧ VRs ρ rs us := by
 obtain ⟨h3, rfl⟩ := put_splice _ _ _ _ e
 refine ⟨_, put_of _ _ _ (by rw [h2.len, h.len];exact h3), ?_⟩
 have ht : ∀ (n : Nat) {a b : List Value}, VRs ρ a b → VRs ρ (a.take n) (b.take n) := fun n a b hab => by
  rw [← List.take_append_drop n a] at hab
  obtain ⟨u1, u2, rfl, q1, q2⟩ := hab.split
  have hl := q1.len
  have hl2 := q2.len
  rw [List.length_take] at hl
  have : (u1 ++ u2).take n = u1 := by
   by_cases hn : n ≤ a.length
   ·rw [List.take_append_of_le_length (by omega), List.take_of_length_le (by omega)]
   ·have : u2 = [] := List.length_eq_zero_iff.1 (by rw [hl2, List.length_drop];omega)
    rw [this, List.append_nil, List.take_of_length_le (by omega)]
  rw [this]
  exact q1
 have hd : ∀ (n : Nat) {a b : List Value}, VRs ρ a b → VRs ρ (a.drop n) (b.drop n) := fun n a b hab => by
  rw [← List.take_append_drop n a] at hab
  obtain ⟨u1, u2, rfl, q1, q2⟩ := hab.split
  have hl := q1.len
  have hl2 := q2.len
  rw [List.length_take] at hl
  rw [List.length_drop] at hl2
  have : (u1 ++ u2).drop n = u2 := by
   by_cases hn : n ≤ a.length
   ·rw [List.drop_append_of_le_length (by omega), List.drop_of_length_le (by omega), List.nil_append]
   ·have : u2 = [] := List.length_eq_zero_iff.1 (by omega)
    rw [this, List.append_nil, List.drop_of_length_le (by omega)]
  rw [this]
  exact q2
 unfold splice
 exact (ht _ h).app (h2.app (by rw [h2.len];exact hd _ h))
omit Y in
theorem put_junk {xs ys zs junk : List Value} {off : Nat} (h : put xs off ys = some zs) : put (xs ++ junk) off ys = some (zs ++ junk) := by
 obtain ⟨h1, rfl⟩ := put_splice _ _ _ _ h
 rw [put_of _ _ _ (by simp;omega)]
 unfold splice
 rw [List.take_append_of_le_length (by omega), List.drop_append_of_le_length h1]
 simp
/-! ### numbers worked out -/
noncomputable def forceN (n : Nat) (c : Nat → Bool) : Bool := Nat.rec (c 0) (fun m _ => c (Nat.succ m)) n
omit Y in
theorem forceN_is (n : Nat) (c : Nat → Bool) : forceN n c = c n := by cases n <;> rfl
noncomputable def forceI (n : Int) (c : Int → Bool) : Bool := Int.rec (fun m => forceN m fun m => c (.ofNat m)) (fun m => forceN m fun m => c (.negSucc m)) n
omit Y in
theorem forceI_is (n : Int) (c : Int → Bool) : forceI n c = c n := by cases n <;> simp [forceI, forceN_is]
noncomputable def forceB (b : Bool) (c : Bool → Bool) : Bool := Bool.rec (c false) (c true) b
omit Y in
theorem forceB_is (b : Bool) (c : Bool → Bool) : forceB b c = c b := by cases b <;> rfl
/-! ### lists -/
noncomputable def nthK (l : List Value) (i : Nat) (c : Value → Bool) : Bool := List.rec (motive := fun _ => Nat → Bool) (fun _ => false) (fun x _ ih i => Nat.rec (c x) (fun j _ => ih j) i) l i
omit Y in
theorem nthK_ok {c : Value → Bool} : ∀ {l : List Value} {i : Nat}, nthK l i c = true → ∃ v, nth l i = some v ∧ c v = true
 | [], _, h => by cases h
 | x :: _, 0, h => ⟨x, rfl, h⟩
 | _ :: _, i + 1, h => nthK_ok (i := i) h
noncomputable def takeK (l : List Value) : Nat → (List Value → Bool) → Bool := List.rec (motive := fun _ => Nat → (List Value → Bool) → Bool) (fun n c => Nat.rec (c []) (fun _ _ => false) n) (fun x _ ih n c => Nat.rec (c []) (fun m _ => ih m fun ys => c (x :: ys)) n) l
noncomputable def segK (l : List Value) : Nat → Nat → (List Value → Bool) → Bool := List.rec (motive := fun _ => Nat → Nat → (List Value → Bool) → Bool) (fun off n c => Nat.rec (Nat.rec (c []) (fun _ _ => false) n) (fun _ _ => false) off) (fun x xs ih off n c => Nat.rec (takeK (x :: xs) n c) (fun o _ => ih o n c) off) l
omit Y in
theorem takeK_ok : ∀ {l : List Value} {n : Nat} {c : List Value → Bool}, takeK l n c = true → ∃ ys, seg l 0 n = some ys ∧ c ys = true
 | [], 0, c, h => ⟨[], rfl, h⟩
 | [], n + 1, c, h => by cases h
 | x :: xs, 0, c, h => ⟨[], rfl, h⟩
 | x :: xs, n + 1, c, h => by
  obtain ⟨ys, h1, h2⟩ := takeK_ok (l := xs) (n := n) (c := fun ys => c (x :: ys)) h
  exact ⟨x :: ys, by simp [seg, h1], h2⟩
omit Y in
theorem segK_ok {c : List Value → Bool} : ∀ {l : List Value} {off n : Nat}, segK l off n c = true → ∃ ys, seg l off n = some ys ∧ c ys = true
 | [], 0, 0, h => ⟨[], rfl, h⟩
 | [], 0, n + 1, h => by cases h
 | [], off + 1, n, h => by cases h
 | x :: xs, 0, n, h => takeK_ok h
 | x :: xs, off + 1, n, h => by
  obtain ⟨ys, h1, h2⟩ := segK_ok (l := xs) (off := off) (n := n) h
  exact ⟨ys, by cases n <;> simpa [seg] using h1, h2⟩
noncomputable def putK (l : List Value) : Nat → List Value → (List Value → Bool) → Bool := List.rec (motive := fun _ => Nat → List Value → (List Value → Bool) → Bool)
 (fun off ys c => Nat.rec (List.rec (c []) (fun _ _ _ => false) ys) (fun _ _ => false) off)
 (fun x xs ih off ys c => Nat.rec (List.rec (c (x :: xs)) (fun y ys' _ => ih 0 ys' fun r => c (y :: r)) ys) (fun o _ => ih o ys fun r => c (x :: r)) off) l
omit Y in
theorem putK_ok : ∀ {l : List Value} {off : Nat} {ys : List Value} {c : List Value → Bool}, putK l off ys c = true → ∃ zs, put l off ys = some zs ∧ c zs = true
 | [], 0, [], c, h => ⟨[], rfl, h⟩
 | [], 0, _ :: _, c, h => by cases h
 | [], off + 1, ys, c, h => by cases h
 | x :: xs, 0, [], c, h => ⟨x :: xs, rfl, h⟩
 | x :: xs, 0, y :: ys, c, h => by
  obtain ⟨zs, h1, h2⟩ := putK_ok (l := xs) (off := 0) (ys := ys) (c := fun r => c (y :: r)) h
  exact ⟨y :: zs, by simp [put, h1], h2⟩
 | x :: xs, off + 1, ys, c, h => by
  obtain ⟨zs, h1, h2⟩ := putK_ok (l := xs) (off := off) (ys := ys) (c := fun r => c (x :: r)) h
  exact ⟨x :: zs, by cases ys <;> simp [put, h1], h2⟩
noncomputable def appK (l : List Value) (ys : List Value) : (List Value → Bool) → Bool := List.rec (motive := fun _ => (List Value → Bool) → Bool) (fun c => c ys) (fun x _ ih c => ih fun r => c (x :: r)) l
omit Y in
theorem appK_is {ys : List Value} : ∀ (l : List Value) (c : List Value → Bool), appK l ys c = c (l ++ ys)
 | [], _ => rfl
 | x :: xs, c => appK_is xs fun r => c (x :: r)
/-! ### tries -/
inductive Tr (α : Type)
 | leaf
 | node (v : Option α) (l r : Tr α)
noncomputable def Tr.get {α : Type} (t : Tr α) : Nat → Option α :=
 Tr.rec (motive := fun _ => Nat → Option α) (fun _ => none) (fun v _ _ gl gr k => Nat.rec (motive := fun _ => Option α) v (fun _ _ => Bool.rec (gr (Nat.div k 2)) (gl (Nat.div k 2)) (Nat.beq (Nat.mod k 2) 0)) k) t
omit Y in
theorem Tr.get_node {α : Type} (v : Option α) (l r : Tr α) (k : Nat) : (Tr.node v l r).get k = if k = 0 then v else if k % 2 = 0 then l.get (k / 2) else r.get (k / 2) := by
 cases k with
 | zero => rfl
 | succ n =>
  show (Bool.rec (r.get ((n + 1) / 2)) (l.get ((n + 1) / 2)) (Nat.beq ((n + 1) % 2) 0) : Option α) = _
  rw [if_neg (Nat.succ_ne_zero n)]
  split
  ·rename_i h
   rw [h]
   rfl
  ·rename_i h
   have : (n + 1) % 2 = 1 := by omega
   rw [this]
   rfl
noncomputable def Tr.setL {α : Type} (f : Nat) : Nat → Option α → (Tr α → Bool) → Bool :=
 Nat.rec (motive := fun _ => Nat → Option α → (Tr α → Bool) → Bool) (fun _ _ _ => false) (fun _ ih k x c => Nat.rec (c (.node x .leaf .leaf)) (fun _ _ => Bool.rec (ih (Nat.div k 2) x fun r => c (.node none .leaf r)) (ih (Nat.div k 2) x fun l => c (.node none l .leaf)) (Nat.beq (Nat.mod k 2) 0)) k) f
noncomputable def Tr.setK {α : Type} (t : Tr α) : Nat → Option α → (Tr α → Bool) → Bool :=
 Tr.rec (motive := fun _ => Nat → Option α → (Tr α → Bool) → Bool) (fun k x c => Tr.setL 40 k x c)
  (fun v l r sl sr k x c => Nat.rec (c (.node x l r)) (fun _ _ => Bool.rec (sr (Nat.div k 2) x fun r => c (.node v l r)) (sl (Nat.div k 2) x fun l => c (.node v l r)) (Nat.beq (Nat.mod k 2) 0)) k) t
omit Y in
theorem Tr.get_leaf {α : Type} (j : Nat) : (Tr.leaf : Tr α).get j = none := rfl
omit Y in
theorem Tr.setL_ok {α : Type} : ∀ {f k : Nat} {x : Option α} {c : Tr α → Bool}, Tr.setL f k x c = true → ∃ t', (∀ j, t'.get j = if j = k then x else none) ∧ c t' = true
 | 0, _, _, _, h => by cases h
 | f + 1, 0, x, c, h => ⟨_, fun j => by rw [Tr.get_node];split;rfl;split <;> rfl, h⟩
 | f + 1, k + 1, x, c, h => by
  have h' : (Bool.rec (Tr.setL f ((k + 1) / 2) x fun r => c (.node none .leaf r)) (Tr.setL f ((k + 1) / 2) x fun l => c (.node none l .leaf)) (Nat.beq ((k + 1) % 2) 0) : Bool) = true := h
  by_cases hp : (k + 1) % 2 = 0
  ·rw [hp] at h'
   obtain ⟨t', h1, h2⟩ := Tr.setL_ok (f := f) h'
   refine ⟨_, fun j => ?_, h2⟩
   rw [Tr.get_node, h1]
   by_cases hj : j = 0
   ·rw [if_pos hj, if_neg (by omega)]
   ·rw [if_neg hj]
    by_cases hj2 : j % 2 = 0
    ·rw [if_pos hj2]
     by_cases he : j = k + 1
     ·rw [if_pos he, if_pos (by rw [he])]
     ·rw [if_neg he, if_neg (by omega)]
    ·rw [if_neg hj2, if_neg (by omega)]
     rfl
  ·have hp' : (k + 1) % 2 = 1 := by omega
   rw [hp'] at h'
   obtain ⟨t', h1, h2⟩ := Tr.setL_ok (f := f) h'
   refine ⟨_, fun j => ?_, h2⟩
   rw [Tr.get_node, h1]
   by_cases hj : j = 0
   ·rw [if_pos hj, if_neg (by omega)]
   ·rw [if_neg hj]
    by_cases hj2 : j % 2 = 0
    ·rw [if_pos hj2, if_neg (by omega)]
     rfl
    ·rw [if_neg hj2]
     by_cases he : j = k + 1
     ·rw [if_pos he, if_pos (by rw [he])]
     ·rw [if_neg he, if_neg (by omega)]
omit Y in
theorem Tr.setK_ok {α : Type} : ∀ {t : Tr α} {k : Nat} {x : Option α} {c : Tr α → Bool}, Tr.setK t k x c = true → ∃ t', (∀ j, t'.get j = if j = k then x else t.get j) ∧ c t' = true
 | .leaf, k, x, c, h => by
  have h' : Tr.setL 40 k x c = true := h
  exact Tr.setL_ok h'
 | .node v l r, 0, x, c, h => ⟨_, fun j => by rw [Tr.get_node, Tr.get_node];split <;> rfl, h⟩
 | .node v l r, k + 1, x, c, h => by
  have h' : (Bool.rec (Tr.setK r ((k + 1) / 2) x fun r => c (.node v l r)) (Tr.setK l ((k + 1) / 2) x fun l => c (.node v l r)) (Nat.beq ((k + 1) % 2) 0) : Bool) = true := h
  by_cases hp : (k + 1) % 2 = 0
  ·rw [hp] at h'
   obtain ⟨t', h1, h2⟩ := Tr.setK_ok (t := l) h'
   refine ⟨_, fun j => ?_, h2⟩
   rw [Tr.get_node, Tr.get_node, h1]
   by_cases hj : j = 0
   ·rw [if_pos hj, if_neg (by omega), if_pos hj]
   ·rw [if_neg hj, if_neg hj]
    by_cases hj2 : j % 2 = 0
    ·rw [if_pos hj2, if_pos hj2]
     by_cases he : j = k + 1
     ·rw [if_pos he, if_pos (by rw [he])]
     ·rw [if_neg he, if_neg (by omega)]
    ·rw [if_neg hj2, if_neg hj2, if_neg (by omega)]
  ·have hp' : (k + 1) % 2 = 1 := by omega
   rw [hp'] at h'
   obtain ⟨t', h1, h2⟩ := Tr.setK_ok (t := r) h'
   refine ⟨_, fun j => ?_, h2⟩
   rw [Tr.get_node, Tr.get_node, h1]
   by_cases hj : j = 0
   ·rw [if_pos hj, if_neg (by omega), if_pos hj]
   ·rw [if_neg hj, if_neg hj]
    by_cases hj2 : j % 2 = 0
    ·rw [if_pos hj2, if_pos hj2, if_neg (by omega)]
    ·rw [if_neg hj2, if_neg hj2]
     by_cases he : j = k + 1
     ·rw [if_pos he, if_pos (by rw [he])]
     ·rw [if_neg he, if_neg (by omega)]
end Go.Proofs.YtfhkmgcalcfibaaGreat
namespace Go.Proofs.YtfhkmgcalcfibaaGreat
open Go.RowKit
variable [Y : Sy]
structure VO where
 cs : List Value
 e : TypeId
 op : Option Nat
 mp : Option (List (Value × Value))
structure MSt where
 m : Tr VO
 nx : Nat
 F : Nat
 W : Nat
def bit (F b : Nat) : Prop := F.testBit b = true
def orB (F b : Nat) : Nat := Nat.lor F (Nat.pow 2 b)
omit Y in
theorem bit_or {F b j : Nat} : bit (orB F b) j ↔ bit F j ∨ j = b := by
 unfold bit orB
 rw [show Nat.lor F (Nat.pow 2 b) = F ||| 2 ^ b from rfl, Nat.testBit_or, Nat.testBit_two_pow]
 simp only [Bool.or_eq_true, decide_eq_true_eq]
 constructor
 ·rintro (h | h)
  ·exact .inl h
  ·exact .inr h.symm
 ·rintro (h | h)
  ·exact .inl h
  ·exact .inr h.symm
omit Y in
theorem bit0 {b : Nat} : ¬ bit 0 b := by simp [bit]
def ObjC (ρ : Rl) (o : VO) (r c : Nat) (w : World) : Prop := ∃ cs' junk, VRs ρ o.cs cs' ∧ w.heap[r]? = some (.cells (cs' ++ junk).toArray o.e (0, 0)) ∧ (o.op = none → junk = []) ∧ (∀ sz, o.op = some sz → cs'.length + junk.length = c * sz)
def ObjM (ρ : Rl) (m : List (Value × Value)) (r : Nat) (w : World) : Prop := ∃ es clock, w.heap[r]? = some (.map es clock) ∧ es.toList.map (·.key) = m.map (·.1) ∧ VRs ρ (m.map (·.2)) (es.toList.map (·.val))
def ObjR (ρ : Rl) (o : VO) (r c : Nat) (w : World) : Prop := (o.mp = none ∧ ObjC ρ o r c w) ∨ ∃ m, o.mp = some m ∧ ObjM ρ m r w
theorem ObjR.later {ρ ρ' : Rl} {o : VO} {r c : Nat} {w w' : World} (h : ObjR ρ o r c w) (hle : ∀ b r, ρ b = some r → ρ' b = some r) (hh : w'.heap[r]? = w.heap[r]?) : ObjR ρ' o r c w' := by
 rcases h with ⟨hm, cs', junk, h1, h2, h3, h4⟩ | ⟨m, hm, es, clock, h1, h2, h3⟩
 ·exact .inl ⟨hm, cs', junk, h1.mono hle, hh.trans h2, h3, h4⟩
 ·exact .inr ⟨m, hm, es, clock, hh.trans h1, h2, h3.mono hle⟩
theorem ObjR.lt {ρ : Rl} {o : VO} {r c : Nat} {w : World} (h : ObjR ρ o r c w) : r < w.heap.size := by
 rcases h with ⟨hm, cs', junk, h1, h2, h3, h4⟩ | ⟨m, hm, es, clock, h1, h2, h3⟩
 ·exact (Array.getElem?_eq_some_iff.1 h2).1
 ·exact (Array.getElem?_eq_some_iff.1 h1).1
theorem ObjR.cells {ρ : Rl} {o : VO} {r c : Nat} {w : World} (h : ObjR ρ o r c w) (hm : o.mp = none) : ObjC ρ o r c w := by
 rcases h with ⟨_, h⟩ | ⟨m, h, _⟩
 ·exact h
 ·rw [hm] at h;cases h
theorem ObjR.map {ρ : Rl} {o : VO} {r c : Nat} {w : World} {m : List (Value × Value)} (h : ObjR ρ o r c w) (hm : o.mp = some m) : ObjM ρ m r w := by
 rcases h with ⟨h, _⟩ | ⟨m', h, k⟩
 ·rw [hm] at h;cases h
 ·rw [hm] at h;cases h;exact k
section
variable {S : List Nat} {W0 : World}
structure WR (S : List Nat) (W0 : World) (ρ : Rl) (m : Tr VO) (F : Nat) (w : World) : Prop where
 ext : Ext S W0 w
 at_ : ∀ b o, m.get b = some o → bit F b → ∃ r c, ρ b = some (r, c) ∧ ObjR ρ o r c w
 inj : ∀ b b' o o' r c c', m.get b = some o → m.get b' = some o' → bit F b → bit F b' → ρ b = some (r, c) → ρ b' = some (r, c') → b = b'
 own : ∀ b o r c, m.get b = some o → bit F b → ρ b = some (r, c) → r ∈ S ∨ W0.heap.size ≤ r
theorem WR.mono {ρ : Rl} {m : Tr VO} {F F' : Nat} {w : World} (h : WR S W0 ρ m F w) (hF : ∀ b, bit F' b → bit F b) : WR S W0 ρ m F' w :=
 ⟨h.ext, fun b o hb hf => h.at_ b o hb (hF b hf), fun b b' o o' r c c' h1 h2 h3 h4 => h.inj b b' o o' r c c' h1 h2 (hF b h3) (hF b' h4), fun b o r c h1 h2 => h.own b o r c h1 (hF b h2)⟩
structure SLe (s s' : MSt) : Prop where
 nx : s.nx ≤ s'.nx
 F : ∀ b, bit s.F b → bit s'.F b
 W : ∀ b, bit s.W b → bit s'.W b
 WF : (∀ b, bit s.W b → bit s.F b) → ∀ b, bit s'.W b → bit s'.F b
 old : ∀ b, b < s.nx → ¬ bit s'.W b → s'.m.get b = s.m.get b
 dead : ∀ b, b < s.nx → s.m.get b = none → s'.m.get b = none
 new : ∀ b, s.nx ≤ b → b < s'.nx → bit s'.F b ∧ bit s'.W b
 top : (∀ b, s.nx ≤ b → s.m.get b = none) → ∀ b, s'.nx ≤ b → s'.m.get b = none
def Wf (s : MSt) : Prop := (∀ b, bit s.W b → bit s.F b) ∧ ∀ b, s.nx ≤ b → s.m.get b = none
omit Y in
theorem SLe.wf {s s' : MSt} (h : SLe s s') (hw : Wf s) : Wf s' := ⟨h.WF hw.1, h.top hw.2⟩
omit Y in
theorem SLe.refl (s : MSt) : SLe s s := ⟨Nat.le_refl _, fun _ h => h, fun _ h => h, fun h => h, fun _ _ _ => rfl, fun _ _ h => h, fun b h1 h2 => by omega, fun h => h⟩
omit Y in
theorem SLe.trans {s s1 s2 : MSt} (h : SLe s s1) (k : SLe s1 s2) : SLe s s2 where
 nx := Nat.le_trans h.nx k.nx
 F := fun b hb => k.F b (h.F b hb)
 W := fun b hb => k.W b (h.W b hb)
 WF := fun hw => k.WF (h.WF hw)
 old := fun b hb hw => (k.old b (Nat.lt_of_lt_of_le hb h.nx) hw).trans (h.old b hb fun hc => hw (k.W b hc))
 dead := fun b hb hn => k.dead b (Nat.lt_of_lt_of_le hb h.nx) (h.dead b hb hn)
 new := fun b h1 h2 => by
  by_cases hc : b < s1.nx
  ·exact ⟨k.F b (h.new b h1 hc).1, k.W b (h.new b h1 hc).2⟩
  ·exact k.new b (by omega) h2
 top := fun ht => k.top (h.top ht)
def Pre (S : List Nat) (W0 : World) (ρ : Rl) (s s' : MSt) (w : World) : Prop := WR S W0 ρ s.m s'.F w ∧ ∀ b, s.nx ≤ b → b < s'.nx → ρ b = none
structure Stp (S : List Nat) (W0 : World) (ρ : Rl) (s : MSt) (w : World) (ρ' : Rl) (s' : MSt) (w' : World) : Prop where
 le : ∀ b, ¬ (s.nx ≤ b ∧ b < s'.nx) → ρ' b = ρ b
 wr : WR S W0 ρ' s'.m s'.F w'
 size : w.heap.size ≤ w'.heap.size
 blk : ∀ k, k < w.heap.size → (∀ b o c, bit s'.W b → s.m.get b = some o → ρ b ≠ some (k, c)) → w'.heap[k]? = w.heap[k]?
 fresh : ∀ b o r c, s.nx ≤ b → b < s'.nx → s'.m.get b = some o → ρ' b = some (r, c) → w.heap.size ≤ r ∨ ∃ b0 o0 c0, b0 < s.nx ∧ bit s'.W b0 ∧ s.m.get b0 = some o0 ∧ s'.m.get b0 = none ∧ ρ b0 = some (r, c0)
variable {ρ ρ1 ρ2 : Rl} {s s1 s2 : MSt} {w w1 w2 : World}
theorem Stp.leR (h : Stp S W0 ρ s w ρ1 s1 w1) (hp : Pre S W0 ρ s s1 w) : ∀ b r, ρ b = some r → ρ1 b = some r := fun b r hb => by
 by_cases hc : s.nx ≤ b ∧ b < s1.nx
 ·rw [hp.2 b hc.1 hc.2] at hb
  cases hb
 ·rw [h.le b hc, hb]
theorem Stp.same (hm : s1.m = s.m) (hn : s1.nx = s.nx) (A : WR S W0 ρ s.m s1.F w) : Stp S W0 ρ s w ρ s1 w :=
 ⟨fun _ _ => rfl, hm ▸ A, Nat.le_refl _, fun _ _ _ => rfl, fun b o r c h1 h2 => by omega⟩
theorem Stp.frame {G : Nat} (hle : SLe s s1) (hwf : Wf s) (A : WR S W0 ρ s.m G w) (hG : ∀ b, bit s1.F b → bit G b) (hp : Pre S W0 ρ s s1 w) (h : Stp S W0 ρ s w ρ1 s1 w1) : WR S W0 ρ1 s1.m G w1 := by
 have hR := h.leR hp
 -- an old block that was not written
 have hold : ∀ b o, s1.m.get b = some o → ¬ bit s1.F b → b < s.nx ∧ s.m.get b = some o ∧ ρ1 b = ρ b := fun b o hb hf => by
  have hb1 : b < s1.nx := Nat.lt_of_not_le fun hc => by
   rw [(hle.wf hwf).2 b hc] at hb
   cases hb
  have hb0 : b < s.nx := Nat.lt_of_not_le fun hc => hf (hle.new b hc hb1).1
  refine ⟨hb0, ?_, h.le b (by omega)⟩
  rw [← hle.old b hb0 fun hc => hf (hle.WF hwf.1 b hc)]
  exact hb
 have hlive : ∀ b o, s1.m.get b = some o → b < s.nx → ∃ o0, s.m.get b = some o0 := fun b o hb hb0 => by
  cases hc : s.m.get b with
  | none => rw [hle.dead b hb0 hc] at hb;cases hb
  | some o0 => exact ⟨o0, rfl⟩
 -- where a looked-at block lies is not where such an old block lies
 have hne : ∀ b o b' o' r c c', s1.m.get b = some o → s1.m.get b' = some o' → bit s1.F b → ¬ bit s1.F b' → bit G b' → ρ1 b = some (r, c) → ρ1 b' = some (r, c') → False := fun b o b' o' r c c' hb hb' hf hf' hg' e e' => by
  obtain ⟨h1, h2, h3⟩ := hold b' o' hb' hf'
  rw [h3] at e'
  obtain ⟨r0, c0, e0, ho⟩ := A.at_ b' o' h2 hg'
  rw [e0] at e'
  cases e'
  by_cases hb0 : s.nx ≤ b ∧ b < s1.nx
  ·rcases h.fresh b o r c hb0.1 hb0.2 hb e with h4 | ⟨b0, o0, c0, h5, h6, h7, h8, h9⟩
   ·have := ho.lt
    omega
   ·have := A.inj b0 b' o0 o' r _ _ h7 h2 (hG _ (hle.WF hwf.1 b0 h6)) hg' h9 e0
    subst this
    exact hf' (hle.WF hwf.1 _ h6)
  ·rw [h.le b hb0] at e
   have hb1 : b < s.nx := Nat.lt_of_not_le fun hc => hb0 ⟨hc, Nat.lt_of_not_le fun hc' => by rw [(hle.wf hwf).2 b hc'] at hb;cases hb⟩
   obtain ⟨o0, q⟩ := hlive b o hb hb1
   have := A.inj b b' o0 o' r _ _ q h2 (hG _ hf) hg' e e0
   subst this
   exact hf' hf
 refine ⟨h.wr.ext, fun b o hb hg => ?_, fun b b' o o' r c c' hb hb' hg hg' e e' => ?_, fun b o r c hb hg e => ?_⟩
 ·by_cases hf : bit s1.F b
  ·exact h.wr.at_ b o hb hf
  ·obtain ⟨h1, h2, h3⟩ := hold b o hb hf
   obtain ⟨r, c, e, ho⟩ := A.at_ b o h2 hg
   refine ⟨r, c, h3.trans e, ho.later hR (h.blk r ho.lt fun b0 o0 c0 hw hl e0 => ?_)⟩
   have := A.inj b b0 o o0 r _ _ h2 hl hg (hG _ (hle.WF hwf.1 b0 hw)) e e0
   subst this
   exact hf (hle.WF hwf.1 _ hw)
 ·by_cases hf : bit s1.F b
  ·by_cases hf' : bit s1.F b'
   ·exact h.wr.inj b b' o o' r c c' hb hb' hf hf' e e'
   ·exact (hne b o b' o' r c c' hb hb' hf hf' hg' e e').elim
  ·by_cases hf' : bit s1.F b'
   ·exact (hne b' o' b o r c' c hb' hb hf' hf hg e' e).elim
   ·obtain ⟨_, h2, h3⟩ := hold b o hb hf
    obtain ⟨_, h2', h3'⟩ := hold b' o' hb' hf'
    exact A.inj b b' o o' r c c' h2 h2' hg hg' (h3 ▸ e) (h3' ▸ e')
 ·by_cases hf : bit s1.F b
  ·exact h.wr.own b o r c hb hf e
  ·obtain ⟨_, h2, h3⟩ := hold b o hb hf
   exact A.own b o r c h2 hg (h3 ▸ e)
theorem Pre.fst (hle : SLe s s1) (hle2 : SLe s1 s2) (h : Pre S W0 ρ s s2 w) : Pre S W0 ρ s s1 w := ⟨h.1.mono hle2.F, fun b h1 h2 => h.2 b h1 (Nat.lt_of_lt_of_le h2 hle2.nx)⟩
theorem Pre.snd (hle : SLe s s1) (hle2 : SLe s1 s2) (hwf : Wf s) (h : Pre S W0 ρ s s2 w) (k : Stp S W0 ρ s w ρ1 s1 w1) : Pre S W0 ρ1 s1 s2 w1 :=
 ⟨Stp.frame hle hwf h.1 hle2.F (h.fst hle hle2) k, fun b h1 h2 => by rw [k.le b (by omega)];exact h.2 b (Nat.le_trans hle.nx h1) h2⟩
theorem Stp.trans (hle : SLe s s1) (hle2 : SLe s1 s2) (hwf : Wf s) (hp : Pre S W0 ρ s s2 w) (h : Stp S W0 ρ s w ρ1 s1 w1) (k : Stp S W0 ρ1 s1 w1 ρ2 s2 w2) : Stp S W0 ρ s w ρ2 s2 w2 := by
 have hlive : ∀ b o, s1.m.get b = some o → b < s.nx → ∃ o0, s.m.get b = some o0 := fun b o hb hb0 => by
  cases hc : s.m.get b with
  | none => rw [hle.dead b hb0 hc] at hb;cases hb
  | some o0 => exact ⟨o0, rfl⟩
 have hlt1 : ∀ b o, s1.m.get b = some o → b < s1.nx := fun b o hb => Nat.lt_of_not_le fun hc => by
  rw [(hle.wf hwf).2 b hc] at hb
  cases hb
 -- where a block that lives behind the first step lay
 have hwas : ∀ b o r c, s1.m.get b = some o → ρ1 b = some (r, c) → w.heap.size ≤ r ∨ ∃ b0 o0 c0, b0 < s.nx ∧ s.m.get b0 = some o0 ∧ ρ b0 = some (r, c0) ∧ (b0 = b ∨ (bit s1.W b0 ∧ s1.m.get b0 = none)) := fun b o r c hb e => by
  by_cases hb0 : b < s.nx
  ·obtain ⟨o0, q⟩ := hlive b o hb hb0
   rw [h.le b (by omega)] at e
   exact .inr ⟨b, o0, c, hb0, q, e, .inl rfl⟩
  ·rcases h.fresh b o r c (by omega) (hlt1 b o hb) hb e with h4 | ⟨b0, o0, c0, h5, h6, h7, h8, h9⟩
   ·exact .inl h4
   ·exact .inr ⟨b0, o0, c0, h5, h7, h9, .inr ⟨h6, h8⟩⟩
 refine ⟨fun b hb => ?_, k.wr, Nat.le_trans h.size k.size, fun i hi hW => ?_, fun b o r c h1 h2 hb e => ?_⟩
 ·have := hle.nx
  have := hle2.nx
  rw [k.le b (by omega), h.le b (by omega)]
 ·refine (k.blk i (Nat.lt_of_lt_of_le hi h.size) fun b o c hw hl e => ?_).trans (h.blk i hi fun b o c hw hl e => hW b o c (hle2.W b hw) hl e)
  rcases hwas b o i c hl e with h4 | ⟨b0, o0, c0, h5, h6, h7, h8⟩
  ·omega
  ·rcases h8 with rfl | h8
   ·exact hW _ o0 c0 hw h6 h7
   ·exact hW b0 o0 c0 (hle2.W b0 h8.1) h6 h7
 ·by_cases hc : b < s1.nx
  ·rw [k.le b (by omega)] at e
   obtain ⟨o1, ho1⟩ : ∃ o1, s1.m.get b = some o1 := by
    cases hq : s1.m.get b with
    | none => rw [hle2.dead b hc hq] at hb;cases hb
    | some o1 => exact ⟨o1, rfl⟩
   rcases h.fresh b o1 r c h1 hc ho1 e with h4 | ⟨b0, o0, c0, h5, h6, h7, h8, h9⟩
   ·exact .inl h4
   ·exact .inr ⟨b0, o0, c0, h5, hle2.W b0 h6, h7, hle2.dead b0 (Nat.lt_of_lt_of_le h5 hle.nx) h8, h9⟩
  ·rcases k.fresh b o r c (by omega) h2 hb e with h4 | ⟨b0, o0, c0, h5, h6, h7, h8, h9⟩
   ·exact .inl (Nat.le_trans h.size h4)
   ·rcases hwas b0 o0 r c0 h7 h9 with h4 | ⟨b1, o1, c1, g1, g2, g3, g4⟩
    ·exact .inl h4
    ·refine .inr ⟨b1, o1, c1, g1, ?_, g2, ?_, g3⟩
     ·rcases g4 with rfl | g4
      ·exact h6
      ·exact hle2.W b1 g4.1
     ·rcases g4 with rfl | g4
      ·exact h8
      ·exact hle2.dead b1 (Nat.lt_of_lt_of_le g1 hle.nx) g4.2
/-! ### the steps themselves -/
def MSt.rd (s : MSt) (b : Nat) : MSt := { s with F := orB s.F b }
omit Y in
theorem SLe.rd (s : MSt) (b : Nat) : SLe s (s.rd b) := ⟨Nat.le_refl _, fun _ h => bit_or.2 (.inl h), fun _ h => h, fun h b hb => bit_or.2 (.inl (h b hb)), fun _ _ _ => rfl, fun _ _ h => h, fun b h1 h2 => by simp only [MSt.rd] at h2;omega, fun h => h⟩
theorem Stp.rd {b : Nat} (hp : Pre S W0 ρ s (s.rd b) w) : Stp S W0 ρ s w ρ (s.rd b) w := Stp.same rfl rfl hp.1
theorem Pre.obj {b : Nat} {o : VO} (hp : Pre S W0 ρ s s1 w) (hb : s.m.get b = some o) (hf : bit s1.F b) : ∃ r c, ρ b = some (r, c) ∧ ObjR ρ o r c w := hp.1.at_ b o hb hf
theorem WR.atC {m : Tr VO} {F b : Nat} {o : VO} (h : WR S W0 ρ m F w) (hb : m.get b = some o) (hf : bit F b) (hm : o.mp = none) : ∃ r c, ρ b = some (r, c) ∧ ObjC ρ o r c w := by
 obtain ⟨r, c, e, ho⟩ := h.at_ b o hb hf
 exact ⟨r, c, e, ho.cells hm⟩
theorem Pre.objC {b : Nat} {o : VO} (hp : Pre S W0 ρ s s1 w) (hb : s.m.get b = some o) (hf : bit s1.F b) (hm : o.mp = none) : ∃ r c, ρ b = some (r, c) ∧ ObjC ρ o r c w := hp.1.atC hb hf hm
omit Y in
theorem SLe.wrt {s : MSt} {m' : Tr VO} {b : Nat} {x : Option VO} {o : VO} (hm : ∀ j, m'.get j = if j = b then x else s.m.get j) (hb : s.m.get b = some o) (hwf : Wf s) : SLe s ⟨m', s.nx, orB s.F b, orB s.W b⟩ where
 nx := Nat.le_refl _
 F := fun _ h => bit_or.2 (.inl h)
 W := fun _ h => bit_or.2 (.inl h)
 WF := fun h j hj => (bit_or.1 hj).elim (fun hj => bit_or.2 (.inl (h j hj))) fun hj => bit_or.2 (.inr hj)
 old := fun j _ hj => by dsimp only;rw [hm, if_neg fun e => hj (bit_or.2 (.inr e))]
 dead := fun j _ hj => by
  dsimp only
  rw [hm, if_neg fun e => by rw [e, hb] at hj;cases hj]
  exact hj
 new := fun j h1 h2 => by dsimp only at h2;omega
 top := fun ht j hj => by
  dsimp only at hj ⊢
  rw [hm, if_neg fun e => by rw [e] at hj;rw [hwf.2 b hj] at hb;cases hb]
  exact ht j hj
theorem Stp.wrt {m' : Tr VO} {b r c : Nat} {o o' : VO} (hm : ∀ j, m'.get j = if j = b then some o' else s.m.get j) (hb : s.m.get b = some o) (hwf : Wf s) (hp : Pre S W0 ρ s ⟨m', s.nx, orB s.F b, orB s.W b⟩ w) (e : ρ b = some (r, c)) (E : Ext [r] w w1) (ho : ObjR ρ o' r c w1) :
  Stp S W0 ρ s w ρ ⟨m', s.nx, orB s.F b, orB s.W b⟩ w1 := by
 have hfb : bit (orB s.F b) b := bit_or.2 (.inr rfl)
 have hown := hp.1.own b o r c hb hfb e
 have hbk : ∀ k, k < w.heap.size → k ≠ r → w1.heap[k]? = w.heap[k]? := fun k hk hr => E.block k hk (by simpa using hr)
 have hlv : ∀ j oj, m'.get j = some oj → ∃ oj', s.m.get j = some oj' := fun j oj hj => by
  rw [hm] at hj
  split at hj
  ·rename_i q
   exact ⟨o, by rw [q];exact hb⟩
  ·exact ⟨oj, hj⟩
 refine ⟨fun _ _ => rfl, ⟨?_, fun j oj hj hf => ?_, fun j j' oj oj' r' c' c'' hj hj' hf hf' e1 e2 => ?_, fun j oj r' c' hj hf e1 => ?_⟩, E.size, fun k hk hW => hbk k hk fun q => hW b o c (bit_or.2 (.inr rfl)) hb (by rw [q];exact e), fun j _ _ _ h1 h2 => by dsimp only at h2;omega⟩
 ·refine ⟨E.os.trans hp.1.ext.os, E.tape.trans hp.1.ext.tape, E.output.trans hp.1.ext.output, Nat.le_trans hp.1.ext.size E.size, Nat.le_trans hp.1.ext.dr E.dr, fun k hk hs => ?_⟩
  refine (hbk k (Nat.lt_of_lt_of_le hk hp.1.ext.size) ?_).trans (hp.1.ext.block k hk hs)
  rintro rfl
  exact hown.elim hs fun h => absurd hk (Nat.not_lt.2 h)
 ·by_cases q : j = b
  ·subst q
   dsimp only at hj
   rw [hm, if_pos rfl] at hj
   cases hj
   exact ⟨r, c, e, ho⟩
  ·dsimp only at hj
   rw [hm, if_neg q] at hj
   obtain ⟨r', c', e', ho'⟩ := hp.1.at_ j oj hj hf
   refine ⟨r', c', e', ho'.later (fun _ _ h => h) (hbk r' ho'.lt ?_)⟩
   rintro rfl
   exact q (hp.1.inj j b oj o r' c' c hj hb hf hfb e' e)
 ·obtain ⟨p, hp1⟩ := hlv j oj hj
  obtain ⟨p', hp2⟩ := hlv j' oj' hj'
  exact hp.1.inj j j' p p' r' c' c'' hp1 hp2 hf hf' e1 e2
 ·obtain ⟨p, hp1⟩ := hlv j oj hj
  exact hp.1.own j p r' c' hp1 hf e1
omit Y in
theorem SLe.alloc {s : MSt} {m' : Tr VO} {x : Option VO} (hm : ∀ j, m'.get j = if j = s.nx then x else s.m.get j) : SLe s ⟨m', s.nx + 1, orB s.F s.nx, orB s.W s.nx⟩ where
 nx := Nat.le_succ _
 F := fun _ h => bit_or.2 (.inl h)
 W := fun _ h => bit_or.2 (.inl h)
 WF := fun h j hj => (bit_or.1 hj).elim (fun hj => bit_or.2 (.inl (h j hj))) fun hj => bit_or.2 (.inr hj)
 old := fun j hj _ => by dsimp only;rw [hm, if_neg (by omega)]
 dead := fun j hj hd => by dsimp only;rw [hm, if_neg (by omega)];exact hd
 new := fun j h1 h2 => by
  dsimp only at h2
  have : j = s.nx := by omega
  exact ⟨bit_or.2 (.inr this), bit_or.2 (.inr this)⟩
 top := fun ht j hj => by dsimp only at hj ⊢;rw [hm, if_neg (by omega)];exact ht j (by omega)
def updR (ρ : Rl) (b : Nat) (x : Nat × Nat) : Rl := fun j => if j = b then some x else ρ j
omit Y in
theorem updR_le {b : Nat} {x : Nat × Nat} (h : ρ b = none) : ∀ j r, ρ j = some r → updR ρ b x j = some r := fun j r hj => by
 unfold updR
 rw [if_neg fun e => by rw [e, h] at hj;cases hj]
 exact hj
theorem Stp.alloc {m' : Tr VO} {r c : Nat} {o : VO} (hm : ∀ j, m'.get j = if j = s.nx then some o else s.m.get j) (hwf : Wf s) (hp : Pre S W0 ρ s ⟨m', s.nx + 1, orB s.F s.nx, orB s.W s.nx⟩ w) (E : Ext [] w w1) (hr : w.heap.size ≤ r) (ho : ObjR (updR ρ s.nx (r, c)) o r c w1) :
  Stp S W0 ρ s w (updR ρ s.nx (r, c)) ⟨m', s.nx + 1, orB s.F s.nx, orB s.W s.nx⟩ w1 := by
 have hle := updR_le (x := (r, c)) (hp.2 s.nx (Nat.le_refl _) (Nat.lt_succ_self _))
 have hne : ∀ j oj, m'.get j = some oj → j ≠ s.nx → s.m.get j = some oj := fun j oj hj q => by
  rw [hm, if_neg q] at hj
  exact hj
 have hu : ∀ j, j ≠ s.nx → updR ρ s.nx (r, c) j = ρ j := fun j q => if_neg q
 have hu0 : updR ρ s.nx (r, c) s.nx = some (r, c) := if_pos rfl
 have hlt : ∀ j oj r' c', s.m.get j = some oj → bit (orB s.F s.nx) j → ρ j = some (r', c') → r' < w.heap.size := fun j oj r' c' hj hf e => by
  obtain ⟨r0, c0, e0, ho0⟩ := hp.1.at_ j oj hj hf
  rw [e0] at e
  cases e
  exact ho0.lt
 refine ⟨fun j hj => hu j (by dsimp only at hj;omega), ⟨hp.1.ext.trans E.any, fun j oj hj hf => ?_, fun j j' oj oj' r' c' c'' hj hj' hf hf' e1 e2 => ?_, fun j oj r' c' hj hf e1 => ?_⟩, E.size, fun k hk _ => E.block k hk (by simp), fun j oj r' c' h1 h2 hj e1 => ?_⟩
 ·by_cases q : j = s.nx
  ·subst q
   dsimp only at hj
   rw [hm, if_pos rfl] at hj
   cases hj
   exact ⟨r, c, hu0, ho⟩
  ·have hj' := hne j oj hj q
   obtain ⟨r', c', e', ho'⟩ := hp.1.at_ j oj hj' hf
   exact ⟨r', c', hle _ _ e', ho'.later hle (E.block r' ho'.lt (by simp))⟩
 ·by_cases q : j = s.nx
  ·by_cases q' : j' = s.nx
   ·rw [q, q']
   ·have := hlt j' oj' r' c'' (hne j' oj' hj' q') hf' (by rw [← hu j' q'];exact e2)
    rw [q, hu0] at e1
    cases e1
    omega
  ·by_cases q' : j' = s.nx
   ·have := hlt j oj r' c' (hne j oj hj q) hf (by rw [← hu j q];exact e1)
    rw [q', hu0] at e2
    cases e2
    omega
   ·exact hp.1.inj j j' oj oj' r' c' c'' (hne j oj hj q) (hne j' oj' hj' q') hf hf' (by rw [← hu j q];exact e1) (by rw [← hu j' q'];exact e2)
 ·by_cases q : j = s.nx
  ·rw [q, hu0] at e1
   cases e1
   exact .inr (Nat.le_trans hp.1.ext.size hr)
  ·exact hp.1.own j oj r' c' (hne j oj hj q) hf (by rw [← hu j q];exact e1)
 ·dsimp only at h2
  have q : j = s.nx := by omega
  rw [q, hu0] at e1
  cases e1
  exact .inl hr
omit Y in
theorem SLe.move {s : MSt} {m1 m' : Tr VO} {b : Nat} {o : VO} {x : Option VO} (hm1 : ∀ j, m1.get j = if j = b then none else s.m.get j) (hm : ∀ j, m'.get j = if j = s.nx then x else m1.get j) (hb : s.m.get b = some o) (hwf : Wf s) :
  SLe s ⟨m', s.nx + 1, orB (orB s.F b) s.nx, orB (orB s.W b) s.nx⟩ :=
 (SLe.wrt (m' := m1) hm1 hb hwf).trans (SLe.alloc (s := ⟨m1, s.nx, orB s.F b, orB s.W b⟩) hm)
theorem Stp.move {m1 m' : Tr VO} {b r r' c c' : Nat} {o o' : VO} (hm1 : ∀ j, m1.get j = if j = b then none else s.m.get j) (hm : ∀ j, m'.get j = if j = s.nx then some o' else m1.get j) (hb : s.m.get b = some o) (hwf : Wf s)
  (hp : Pre S W0 ρ s ⟨m', s.nx + 1, orB (orB s.F b) s.nx, orB (orB s.W b) s.nx⟩ w) (e : ρ b = some (r, c)) (E : Ext [r] w w1) (hr : r' = r ∨ w.heap.size ≤ r') (ho : ObjR (updR ρ s.nx (r', c')) o' r' c' w1) :
  Stp S W0 ρ s w (updR ρ s.nx (r', c')) ⟨m', s.nx + 1, orB (orB s.F b) s.nx, orB (orB s.W b) s.nx⟩ w1 := by
 have hle := updR_le (x := (r', c')) (hp.2 s.nx (Nat.le_refl _) (Nat.lt_succ_self _))
 have hbn : b < s.nx := Nat.lt_of_not_le fun hc => by rw [hwf.2 b hc] at hb;cases hb
 have hfb : bit (orB (orB s.F b) s.nx) b := bit_or.2 (.inl (bit_or.2 (.inr rfl)))
 have hwb : bit (orB (orB s.W b) s.nx) b := bit_or.2 (.inl (bit_or.2 (.inr rfl)))
 have hown := hp.1.own b o r c hb hfb e
 have hbk : ∀ k, k < w.heap.size → k ≠ r → w1.heap[k]? = w.heap[k]? := fun k hk hr => E.block k hk (by simpa using hr)
 have hne : ∀ j oj, m'.get j = some oj → j ≠ s.nx → j ≠ b ∧ s.m.get j = some oj := fun j oj hj q => by
  rw [hm, if_neg q, hm1] at hj
  split at hj
  ·cases hj
  ·rename_i q2
   exact ⟨q2, hj⟩
 have hu : ∀ j, j ≠ s.nx → updR ρ s.nx (r', c') j = ρ j := fun j q => if_neg q
 have hu0 : updR ρ s.nx (r', c') s.nx = some (r', c') := if_pos rfl
 -- no other block lies where the new one lies
 have hapart : ∀ j oj d, m'.get j = some oj → bit (orB (orB s.F b) s.nx) j → j ≠ s.nx → ρ j = some (r', d) → False := fun j oj d hj hf q e1 => by
  obtain ⟨q2, hj2⟩ := hne j oj hj q
  rcases hr with rfl | hr
  ·exact q2 (hp.1.inj j b oj o r' d c hj2 hb hf hfb e1 e)
  ·obtain ⟨r0, d0, e0, ho0⟩ := hp.1.at_ j oj hj2 hf
   rw [e0] at e1
   cases e1
   have := ho0.lt
   omega
 refine ⟨fun j hj => hu j (by dsimp only at hj;omega), ⟨?_, fun j oj hj hf => ?_, fun j j' oj oj' r0 d' d'' hj hj' hf hf' e1 e2 => ?_, fun j oj r0 d' hj hf e1 => ?_⟩, E.size, fun k hk hW => hbk k hk fun q => hW b o c hwb hb (by rw [q];exact e), fun j oj r0 d' h1 h2 hj e1 => ?_⟩
 ·refine ⟨E.os.trans hp.1.ext.os, E.tape.trans hp.1.ext.tape, E.output.trans hp.1.ext.output, Nat.le_trans hp.1.ext.size E.size, Nat.le_trans hp.1.ext.dr E.dr, fun k hk hs => ?_⟩
  refine (hbk k (Nat.lt_of_lt_of_le hk hp.1.ext.size) ?_).trans (hp.1.ext.block k hk hs)
  rintro rfl
  exact hown.elim hs fun h => absurd hk (Nat.not_lt.2 h)
 ·by_cases q : j = s.nx
  ·subst q
   dsimp only at hj
   rw [hm, if_pos rfl] at hj
   cases hj
   exact ⟨r', c', hu0, ho⟩
  ·obtain ⟨q2, hj'⟩ := hne j oj hj q
   obtain ⟨r0, d', e', ho'⟩ := hp.1.at_ j oj hj' hf
   refine ⟨r0, d', hle _ _ e', ho'.later hle (hbk r0 ho'.lt ?_)⟩
   rintro rfl
   exact q2 (hp.1.inj j b oj o r0 d' c hj' hb hf hfb e' e)
 ·by_cases q : j = s.nx
  ·by_cases q' : j' = s.nx
   ·rw [q, q']
   ·rw [q, hu0] at e1
    cases e1
    exact (hapart j' oj' d'' hj' hf' q' (by rw [← hu j' q'];exact e2)).elim
  ·by_cases q' : j' = s.nx
   ·rw [q', hu0] at e2
    cases e2
    exact (hapart j oj d' hj hf q (by rw [← hu j q];exact e1)).elim
   ·exact hp.1.inj j j' oj oj' r0 d' d'' (hne j oj hj q).2 (hne j' oj' hj' q').2 hf hf' (by rw [← hu j q];exact e1) (by rw [← hu j' q'];exact e2)
 ·by_cases q : j = s.nx
  ·rw [q, hu0] at e1
   cases e1
   rcases hr with rfl | hr
   ·exact hown
   ·exact .inr (Nat.le_trans hp.1.ext.size hr)
  ·exact hp.1.own j oj r0 d' (hne j oj hj q).2 hf (by rw [← hu j q];exact e1)
 ·dsimp only at h2
  have q : j = s.nx := by omega
  rw [q, hu0] at e1
  cases e1
  rcases hr with rfl | hr
  ·refine .inr ⟨b, o, c, hbn, hwb, hb, ?_, e⟩
   dsimp only
   rw [hm, if_neg (by omega), hm1, if_pos rfl]
  ·exact .inl hr
end
end Go.Proofs.YtfhkmgcalcfibaaGreat
namespace Go.Proofs.YtfhkmgcalcfibaaGreat
open Go.RowKit
variable [Y : Sy]
/-! ### frames -/
structure FrR (ρ : Rl) (n : Nat) (df : List Deferred) (t : Tr Value) (a : Act) : Prop where
 size : a.tmps.size = n
 defers : a.defers = df
 at_ : ∀ k v, t.get k = some v → VR ρ v (a.tmps.getD k undef)
theorem FrR.mono {ρ ρ' : Rl} {n : Nat} {df : List Deferred} {t : Tr Value} {a : Act} (h : FrR ρ n df t a) (hle : ∀ b r, ρ b = some r → ρ' b = some r) : FrR ρ' n df t a := ⟨h.size, h.defers, fun k v hk => (h.at_ k v hk).mono hle⟩
theorem FrR.put {ρ : Rl} {n : Nat} {df : List Deferred} {t t' : Tr Value} {a : Act} {d : Nat} {v u : Value} (h : FrR ρ n df t a) (ht : ∀ j, t'.get j = if j = d then some v else t.get j) (hd : d < n) (hv : VR ρ v u) : FrR ρ n df t' (a.put (some d) u) := by
 refine ⟨by simp [Act.put, h.size], by simp [Act.put, h.defers], fun k x hk => ?_⟩
 rw [ht] at hk
 simp only [Act.put]
 by_cases e : k = d
 ·subst e
  rw [if_pos rfl] at hk
  cases hk
  have : k < a.tmps.size := by rw [h.size];exact hd
  simpa [Array.getElem?_setIfInBounds, this] using hv
 ·rw [if_neg e] at hk
  have := h.at_ k x hk
  simpa [Array.getElem?_setIfInBounds, Ne.symm e] using this
def cst1 : Value → Bool
 | .int _ n => litI n
 | .bool _ | .string _ | .pointer none | .slice none _ _ | .nilFunc | .nilIface | .map none => true
 | _ => false
theorem cst1_ok {ρ : Rl} {v : Value} (h : cst1 v = true) : VR ρ v v := by
 unfold cst1 at h
 split at h
 ·rename_i k n
  have := VR.int (ρ := ρ) k n
  rwa [Y.lit n h] at this
 all_goals first | constructor | cases h
noncomputable def cstL (l : List Value) : Bool := List.rec true (fun x _ ih => Bool.rec false ih (cst1 x)) l
theorem cstL_ok {ρ : Rl} : ∀ {l : List Value}, cstL l = true → VRs ρ l l
 | [], _ => .nil
 | x :: xs, h => by
  have h' : (Bool.rec false (cstL xs) (cst1 x) : Bool) = true := h
  cases hx : cst1 x with
  | false => rw [hx] at h';cases h'
  | true => rw [hx] at h';exact .cons (cst1_ok hx) (cstL_ok h')
noncomputable def cstOk (v : Value) : Bool := match v with
 | .agg cs => cstL cs.toList
 | v => cst1 v
theorem cstOk_ok {ρ : Rl} {v : Value} (h : cstOk v = true) : VR ρ v v := by
 unfold cstOk at h
 split at h
 ·rename_i cs
  have := VR.agg (cstL_ok (ρ := ρ) h)
  simpa using this
 ·exact cst1_ok h
noncomputable def evK (t : Tr Value) (x : Operand) (c : Value → Bool) : Bool := match x with
 | .tmp k => Option.rec false c (t.get k)
 | .const v => Bool.rec false (c v) (cstOk v)
 | .func f => c (.func (.func f) #[] #[])
 | .global _ => false
def OpdR (t : Tr Value) (x : Operand) (v : Value) : Prop := ∀ (ρ : Rl) (n : Nat) (df : List Deferred) (a : Act), FrR ρ n df t a → VR ρ v (a.eval x)
theorem evK_ok {t : Tr Value} {x : Operand} {c : Value → Bool} (h : evK t x c = true) : ∃ v, OpdR t x v ∧ c v = true := by
 unfold evK at h
 cases x with
 | tmp k =>
  dsimp only at h
  cases hk : t.get k with
  | none => rw [hk] at h;cases h
  | some v =>
   rw [hk] at h
   exact ⟨v, fun ρ n df a F => F.at_ k v hk, h⟩
 | const v =>
  dsimp only at h
  cases hv : cstOk v with
  | false => rw [hv] at h;cases h
  | true =>
   rw [hv] at h
   exact ⟨v, fun ρ n df a F => by simpa [Act.eval] using cstOk_ok hv, h⟩
 | func f => exact ⟨_, fun ρ n df a F => by
   have : VR ρ (.func (.func f) #[] #[]) (.func (.func f) (List.toArray []) (List.toArray [])) := .fn .nil .nil
   simpa [Act.eval] using this, h⟩
 | global g => cases h
noncomputable def evsK (t : Tr Value) (xs : List Operand) : (List Value → Bool) → Bool := List.rec (motive := fun _ => (List Value → Bool) → Bool) (fun c => c []) (fun x _ ih c => evK t x fun v => ih fun vs => c (v :: vs)) xs
def OpdsR (t : Tr Value) (xs : List Operand) (vs : List Value) : Prop := ∀ (ρ : Rl) (n : Nat) (df : List Deferred) (a : Act), FrR ρ n df t a → VRs ρ vs (xs.map a.eval)
theorem evsK_ok {t : Tr Value} : ∀ {xs : List Operand} {c : List Value → Bool}, evsK t xs c = true → ∃ vs, OpdsR t xs vs ∧ c vs = true
 | [], c, h => ⟨[], fun _ _ _ _ _ => .nil, h⟩
 | x :: xs, c, h => by
  obtain ⟨v, h1, h2⟩ := evK_ok (c := fun v => evsK t xs fun vs => c (v :: vs)) h
  obtain ⟨vs, h3, h4⟩ := evsK_ok h2
  exact ⟨v :: vs, fun ρ n df a F => .cons (h1 ρ n df a F) (h3 ρ n df a F), h4⟩
/-! ### integers -/
def kEqR : IntKind → IntKind → Bool
 | .i8, .i8 | .i16, .i16 | .i32, .i32 | .i64, .i64 | .u8, .u8 | .u16, .u16 | .u32, .u32 | .u64, .u64 => true
 | _, _ => false
omit Y in
theorem kEq_ok' {a b : IntKind} (h : kEqR a b = true) : a = b := by
 cases a <;> cases b <;> first | rfl | cases h
def pK : IntKind → Nat
 | .i8 | .u8 => 256
 | .i16 | .u16 => 65536
 | .i32 | .u32 => 4294967296
 | .i64 | .u64 => 18446744073709551616
def hK : IntKind → Nat
 | .i8 => 128
 | .i16 => 32768
 | .i32 => 2147483648
 | .i64 => 9223372036854775808
 | .u8 => 256
 | .u16 => 65536
 | .u32 => 4294967296
 | .u64 => 18446744073709551616
noncomputable def natK (k : IntKind) (x : Int) : Nat := Int.rec (fun m => Nat.mod m (pK k)) (fun m => Nat.sub (Nat.sub (pK k) 1) (Nat.mod m (pK k))) x
omit Y in
theorem natK_is (k : IntKind) (x : Int) : (natK k x : Int) = x % (2 ^ k.bits : Int) := by
 cases x with
 | ofNat m =>
  show ((m % pK k : Nat) : Int) = _
  cases k <;> simp [pK, IntKind.bits]
 | negSucc m =>
  show ((pK k - 1 - m % pK k : Nat) : Int) = _
  cases k <;> simp only [pK, IntKind.bits, Int.negSucc_eq] <;> omega
noncomputable def wrapN (k : IntKind) (r : Nat) (c : Int → Bool) : Bool := Bool.rec (forceN (Nat.sub (Nat.sub (pK k) 1) r) fun q => c (.negSucc q)) (c (.ofNat r)) (Nat.blt r (hK k))
noncomputable def wrapK (k : IntKind) (x : Int) (c : Int → Bool) : Bool := forceN (natK k x) fun r => wrapN k r c
omit Y in
theorem blt_is (a b : Nat) : Nat.blt a b = decide (a < b) := by
 rw [Bool.eq_iff_iff]
 simp [Nat.blt, Nat.ble_eq, Nat.lt_iff_add_one_le]
omit Y in
theorem wrapN_is (k : IntKind) (r : Nat) (x : Int) (hr : (r : Int) = x % (2 ^ k.bits : Int)) (c : Int → Bool) : wrapN k r c = c (k.wrap x) := by
 unfold wrapN
 rw [forceN_is]
 have hlt : x % (2 ^ k.bits : Int) < 2 ^ k.bits := Int.emod_lt_of_pos _ (by cases k <;> decide)
 rw [blt_is]
 by_cases h1 : r < hK k
 ·rw [dqT h1]
  show c ((r : Nat) : Int) = _
  congr 1
  cases k <;> simp only [IntKind.wrap, hK, pK, IntKind.signed, IntKind.bits, Bool.true_and, Bool.false_and, decide_eq_true_eq, ge_iff_le, Bool.false_eq_true, if_false] at * <;> first | omega | (split <;> omega)
 ·rw [dqF h1]
  show c (Int.negSucc (pK k - 1 - r)) = _
  congr 1
  rw [Int.negSucc_eq]
  cases k <;> simp only [IntKind.wrap, hK, pK, IntKind.signed, IntKind.bits, Bool.true_and, Bool.false_and, decide_eq_true_eq, ge_iff_le, Bool.false_eq_true, if_false] at * <;> first | omega | (split <;> omega)
omit Y in
theorem wrapK_is (k : IntKind) (x : Int) (c : Int → Bool) : wrapK k x c = c (k.wrap x) := by
 unfold wrapK
 rw [forceN_is]
 exact wrapN_is k _ x (natK_is k x) c
omit Y in
theorem bv_natK (k : IntKind) (x : Int) : (BitVec.ofInt k.bits x).toNat = natK k x := by
 have h := natK_is k x
 rw [BitVec.toNat_ofInt]
 have : ((2 ^ k.bits : Nat) : Int) = (2 : Int) ^ k.bits := by simp
 rw [this, ← h]
 rfl
noncomputable def bitN (b : BinOp) (p m n : Nat) : Nat := match b with
 | .and => Nat.land m n
 | .or => Nat.lor m n
 | .xor => Nat.xor m n
 | _ => Nat.land m (Nat.sub (Nat.sub p 1) n)
noncomputable def bitsK (b : BinOp) (k : IntKind) (m n : Int) (c : Int → Bool) : Bool := forceN (natK k m) fun m => forceN (natK k n) fun n => forceN (bitN b (pK k) m n) fun r => wrapK k (.ofNat r) c
omit Y in
theorem bitsK_is (b : BinOp) (k : IntKind) (m n : Int) (c : Int → Bool) : bitsK b k m n c = c (bitsOf b k m n) := by
 unfold bitsK
 rw [forceN_is, forceN_is, forceN_is, wrapK_is]
 congr 1
 have hp : 2 ^ k.bits = pK k := by cases k <;> rfl
 cases b <;> simp only [bitN, bitsOf] <;> congr 1 <;> simp only [BitVec.toNat_and, BitVec.toNat_or, BitVec.toNat_xor, BitVec.toNat_not, bv_natK, hp] <;> rfl
noncomputable def ltI (m n : Int) : Bool := Int.rec (fun a => Int.rec (fun b => Nat.blt a b) (fun _ => false) n) (fun a => Int.rec (fun _ => true) (fun b => Nat.blt b a) n) m
omit Y in
theorem ltI_is (m n : Int) : ltI m n = decide (m < n) := by
 cases m with
 | ofNat a => cases n with
  | ofNat b =>
   show Nat.blt a b = _
   rw [blt_is]
   congr 1
   simp
  | negSucc b =>
   show false = _
   symm
   rw [decide_eq_false_iff_not]
   simp only [Int.negSucc_eq, Int.ofNat_eq_natCast]
   omega
 | negSucc a => cases n with
  | ofNat b =>
   show true = _
   symm
   rw [decide_eq_true_eq]
   simp only [Int.negSucc_eq, Int.ofNat_eq_natCast]
   omega
  | negSucc b =>
   show Nat.blt b a = _
   rw [blt_is, Bool.eq_iff_iff, decide_eq_true_eq, decide_eq_true_eq]
   simp only [Int.negSucc_eq]
   omega
noncomputable def eqI (m n : Int) : Bool := Int.rec (fun a => Int.rec (fun b => Nat.beq a b) (fun _ => false) n) (fun a => Int.rec (fun _ => false) (fun b => Nat.beq a b) n) m
omit Y in
theorem eqI_is (m n : Int) : eqI m n = (m == n) := by
 rw [Bool.eq_iff_iff, beq_iff_eq]
 cases m with
 | ofNat a => cases n with
  | ofNat b =>
   show Nat.beq a b = true ↔ _
   rw [Nat.beq_eq]
   exact Int.ofNat_inj.symm
  | negSucc b =>
   show false = true ↔ _
   simp
 | negSucc a => cases n with
  | ofNat b =>
   show false = true ↔ _
   simp
  | negSucc b =>
   show Nat.beq a b = true ↔ _
   simp
omit Y in
theorem litI_is {n : Int} : litI n = true ↔ -1237940039285380274899124224 < n ∧ n < 1237940039285380274899124224 := by
 unfold litI
 rw [blt_is, decide_eq_true_eq]
 omega
omit Y in
theorem smP_is {n : Int} : smP n = true ↔ -316912650057057350374175801344 < n ∧ n < 316912650057057350374175801344 := by
 unfold smP
 rw [blt_is, decide_eq_true_eq]
 omega
omit Y in
theorem lit_ok {n : Int} (h : litI n = true) : okA n = true := by
 rw [litI_is] at h
 have h1 : cstP n = n := by unfold cstP;omega
 have h2 : rstP n = 0 := by unfold rstP;omega
 unfold okA
 rw [h1, h2]
 simp only [Bool.and_eq_true, smP_is]
 exact ⟨⟨⟨by omega, by decide, by decide⟩, by decide, by decide⟩, by decide, by decide⟩
def thOf (e1 e2 e3 e4 : Int) (n : Int) : Int := cstP n + e1 * cstP (rstP n) + e2 * cstP (rstP (rstP n)) + e3 * cstP (rstP (rstP (rstP n))) + e4 * rstP (rstP (rstP (rstP n)))
omit Y in
theorem cst_add {x y : Int} (hx : smP (cstP x) = true) (hy : smP (cstP y) = true) : cstP (x + y) = cstP x + cstP y ∧ rstP (x + y) = rstP x + rstP y := by
 rw [smP_is] at hx hy
 unfold cstP rstP at *
 omega
omit Y in
theorem cst_sub {x y : Int} (hx : smP (cstP x) = true) (hy : smP (cstP y) = true) : cstP (x - y) = cstP x - cstP y ∧ rstP (x - y) = rstP x - rstP y := by
 rw [smP_is] at hx hy
 unfold cstP rstP at *
 omega
omit Y in
theorem thOf_lit {e1 e2 e3 e4 n : Int} (h : litI n = true) : thOf e1 e2 e3 e4 n = n := by
 rw [litI_is] at h
 have h1 : cstP n = n := by unfold cstP;omega
 have h2 : rstP n = 0 := by unfold rstP;omega
 unfold thOf
 have a : rstP 0 = 0 := by decide
 have b : cstP 0 = 0 := by decide
 rw [h1, h2]
 simp only [a, b, Int.mul_zero, Int.add_zero]
omit Y in
theorem thOf_add {e1 e2 e3 e4 x y : Int} (hx : okA x = true) (hy : okA y = true) : thOf e1 e2 e3 e4 (x + y) = thOf e1 e2 e3 e4 x + thOf e1 e2 e3 e4 y := by
 unfold okA at hx hy
 simp only [Bool.and_eq_true] at hx hy
 obtain ⟨h1, h2⟩ := cst_add hx.1.1.1 hy.1.1.1
 obtain ⟨h3, h4⟩ := cst_add hx.1.1.2 hy.1.1.2
 obtain ⟨h5, h6⟩ := cst_add hx.1.2 hy.1.2
 obtain ⟨h7, h8⟩ := cst_add hx.2 hy.2
 unfold thOf
 rw [h1, h2, h3, h4, h5, h6, h7, h8, Int.mul_add, Int.mul_add, Int.mul_add, Int.mul_add]
 omega
omit Y in
theorem thOf_sub {e1 e2 e3 e4 x y : Int} (hx : okA x = true) (hy : okA y = true) : thOf e1 e2 e3 e4 (x - y) = thOf e1 e2 e3 e4 x - thOf e1 e2 e3 e4 y := by
 unfold okA at hx hy
 simp only [Bool.and_eq_true] at hx hy
 obtain ⟨h1, h2⟩ := cst_sub hx.1.1.1 hy.1.1.1
 obtain ⟨h3, h4⟩ := cst_sub hx.1.1.2 hy.1.1.2
 obtain ⟨h5, h6⟩ := cst_sub hx.1.2 hy.1.2
 obtain ⟨h7, h8⟩ := cst_sub hx.2 hy.2
 unfold thOf
 rw [h1, h2, h3, h4, h5, h6, h7, h8, Int.mul_sub, Int.mul_sub, Int.mul_sub, Int.mul_sub]
 omega
noncomputable def rngOf (tb : List (Int × Int × Int)) (n : Int) : Option (Int × Int) := List.rec none (fun q _ ih => match eqI (rstP n) q.1 with
 | true => some (q.2.1 + cstP n, q.2.2 + cstP n)
 | false => ih) tb
omit Y in
theorem rngOf_ok {e1 e2 e3 e4 : Int} : ∀ {tb : List (Int × Int × Int)}, (∀ q ∈ tb, q.2.1 ≤ e1 * cstP q.1 + e2 * cstP (rstP q.1) + e3 * cstP (rstP (rstP q.1)) + e4 * rstP (rstP (rstP q.1)) ∧ e1 * cstP q.1 + e2 * cstP (rstP q.1) + e3 * cstP (rstP (rstP q.1)) + e4 * rstP (rstP (rstP q.1)) ≤ q.2.2) → ∀ {n lo hi : Int}, rngOf tb n = some (lo, hi) → lo ≤ thOf e1 e2 e3 e4 n ∧ thOf e1 e2 e3 e4 n ≤ hi
 | [], _, _, _, _, h => by cases h
 | q :: r, hq, n, lo, hi, h0 => by
  have h : (match eqI (rstP n) q.1 with
   | true => some (q.2.1 + cstP n, q.2.2 + cstP n)
   | false => rngOf r n) = some (lo, hi) := h0
  split at h
  ·rename_i he
   rw [eqI_is, beq_iff_eq] at he
   cases h
   obtain ⟨h1, h2⟩ := hq q List.mem_cons_self
   unfold thOf
   rw [he]
   omega
  ·exact rngOf_ok (fun p hp => hq p (List.mem_cons_of_mem _ hp)) h
@[instance_reducible] noncomputable def syOf (e1 e2 e3 e4 : Int) (tb : List (Int × Int × Int)) (h : ∀ q ∈ tb, q.2.1 ≤ e1 * cstP q.1 + e2 * cstP (rstP q.1) + e3 * cstP (rstP (rstP q.1)) + e4 * rstP (rstP (rstP q.1)) ∧ e1 * cstP q.1 + e2 * cstP (rstP q.1) + e3 * cstP (rstP (rstP q.1)) + e4 * rstP (rstP (rstP q.1)) ≤ q.2.2) : Sy := ⟨thOf e1 e2 e3 e4, rngOf tb, fun _ => thOf_lit, fun _ _ => thOf_add, fun _ _ => thOf_sub, fun _ _ _ => rngOf_ok h⟩
noncomputable def ltS (m n : Int) (c : Bool → Bool) : Bool := match litI m && litI n with
 | true => forceB (ltI m n) c
 | false => match okA m && okA n with
  | true => match litI (n - m) with
   | true => forceB (ltI 0 (n - m)) c
   | false => match Y.rng (n - m) with
    | some (lo, hi) => match ltI 0 lo with
     | true => c true
     | false => match ltI hi 1 with
      | true => c false
      | false => false
    | none => false
  | false => false
theorem ltS_ok {m n : Int} {c : Bool → Bool} (h : ltS m n c = true) : c (decide (Y.th m < Y.th n)) = true := by
 unfold ltS at h
 split at h
 ·rename_i hl
  rw [Bool.and_eq_true] at hl
  rw [forceB_is, ltI_is] at h
  rw [Y.lit m hl.1, Y.lit n hl.2]
  exact h
 ·split at h
  case h_2 => cases h
  rename_i ho
  rw [Bool.and_eq_true] at ho
  have hs := Y.sub n m ho.2 ho.1
  split at h
  ·rename_i hd
   rw [forceB_is, ltI_is] at h
   rw [Y.lit _ hd] at hs
   rw [show decide (Y.th m < Y.th n) = decide (0 < n - m) by rw [Bool.eq_iff_iff];simp only [decide_eq_true_eq];omega]
   exact h
  ·split at h
   case h_2 => cases h
   rename_i lo hi hr
   obtain ⟨r1, r2⟩ := Y.rng_ok _ _ _ hr
   split at h
   ·rename_i h1
    rw [ltI_is, decide_eq_true_eq] at h1
    rw [dqT (by omega)]
    exact h
   ·split at h
    ·rename_i h1
     rw [ltI_is, decide_eq_true_eq] at h1
     rw [dqF (by omega)]
     exact h
    ·cases h
noncomputable def eqS (m n : Int) (c : Bool → Bool) : Bool := match litI m && litI n with
 | true => forceB (eqI m n) c
 | false => match okA m && okA n with
  | true => match litI (n - m) with
   | true => forceB (eqI 0 (n - m)) c
   | false => match Y.rng (n - m) with
    | some (lo, hi) => match ltI 0 lo with
     | true => c false
     | false => match ltI hi 0 with
      | true => c false
      | false => false
    | none => false
  | false => false
theorem eqS_ok {m n : Int} {c : Bool → Bool} (h : eqS m n c = true) : c (Y.th m == Y.th n) = true := by
 unfold eqS at h
 split at h
 ·rename_i hl
  rw [Bool.and_eq_true] at hl
  rw [forceB_is, eqI_is] at h
  rw [Y.lit m hl.1, Y.lit n hl.2]
  exact h
 ·split at h
  case h_2 => cases h
  rename_i ho
  rw [Bool.and_eq_true] at ho
  have hs := Y.sub n m ho.2 ho.1
  split at h
  ·rename_i hd
   rw [forceB_is, eqI_is] at h
   rw [Y.lit _ hd] at hs
   rw [show (Y.th m == Y.th n) = (0 == n - m) by rw [Bool.eq_iff_iff, beq_iff_eq, beq_iff_eq];omega]
   exact h
  ·split at h
   case h_2 => cases h
   rename_i lo hi hr
   obtain ⟨r1, r2⟩ := Y.rng_ok _ _ _ hr
   have hf : ∀ q : Y.th m ≠ Y.th n, (Y.th m == Y.th n) = false := fun q => by simpa using q
   split at h
   ·rename_i h1
    rw [ltI_is, decide_eq_true_eq] at h1
    rw [hf (by omega)]
    exact h
   ·split at h
    ·rename_i h1
     rw [ltI_is, decide_eq_true_eq] at h1
     rw [hf (by omega)]
     exact h
    ·cases h
def mnK : IntKind → Int
 | .i8 => -128
 | .i16 => -32768
 | .i32 => -2147483648
 | .i64 => -9223372036854775808
 | _ => 0
noncomputable def wrapS (k : IntKind) (x : Int) (c : Int → Bool) : Bool := match litI x with
 | true => wrapK k x c
 | false => match Y.rng x with
  | some (lo, hi) => forceI (Int.ediv (lo - mnK k) (pK k)) fun j => match okA x && litI (j * pK k) && ltI (hi - j * pK k - mnK k) (pK k) with
   | true => forceI (x - j * pK k) c
   | false => false
  | none => false
theorem wrapS_ok {k : IntKind} {x : Int} {c : Int → Bool} (h : wrapS k x c = true) : ∃ y, (c y = true ∧ k.wrap (Y.th x) = Y.th y) ∨ (litI x = true ∧ c y = true ∧ y = k.wrap x) := by
 unfold wrapS at h
 split at h
 ·rename_i hl
  rw [wrapK_is] at h
  exact ⟨_, .inr ⟨hl, h, rfl⟩⟩
 ·split at h
  case h_2 => cases h
  rename_i lo hi hr
  rw [forceI_is] at h
  split at h
  case h_2 => cases h
  rename_i ho
  simp only [Bool.and_eq_true] at ho
  obtain ⟨⟨o1, o2⟩, o3⟩ := ho
  rw [forceI_is] at h
  rw [ltI_is, decide_eq_true_eq] at o3
  obtain ⟨r1, r2⟩ := Y.rng_ok _ _ _ hr
  refine ⟨_, .inl ⟨h, ?_⟩⟩
  rw [Y.sub _ _ o1 (lit_ok o2), Y.lit _ o2]
  generalize Y.th x = z at *
  have hj : ∃ j, Int.ediv (lo - mnK k) (pK k) = j := ⟨_, rfl⟩
  obtain ⟨j, hj⟩ := hj
  rw [hj] at o3 ⊢
  have hj' : (lo - mnK k) / (pK k : Int) = j := hj
  clear hj o2 h hr o1
  cases k <;> simp only [IntKind.wrap, pK, mnK, IntKind.signed, IntKind.bits, Bool.true_and, Bool.false_and, decide_eq_true_eq, ge_iff_le, Bool.false_eq_true, if_false] at * <;> first | omega | (split <;> omega)
omit Y in
theorem wrap_lit (k : IntKind) (x : Int) : litI (k.wrap x) = true := by
 rw [litI_is]
 cases k <;> simp only [IntKind.wrap, IntKind.signed, IntKind.bits, Bool.true_and, Bool.false_and, decide_eq_true_eq, ge_iff_le, Bool.false_eq_true, if_false] <;> first | omega | (split <;> omega)
noncomputable def litK (k : IntKind) (n : Int) (c : Value → Bool) : Bool := match litI n with
 | true => c (.int k n)
 | false => false
theorem litK_ok {k : IntKind} {n : Int} {c : Value → Bool} (h : litK k n c = true) : Y.th n = n ∧ c (.int k n) = true := by
 unfold litK at h
 split at h
 ·rename_i hl
  exact ⟨Y.lit n hl, h⟩
 ·cases h
noncomputable def lit2 (m n : Int) (c : Bool) : Bool := match litI m && litI n with
 | true => c
 | false => false
theorem lit2_ok {m n : Int} {c : Bool} (h : lit2 m n c = true) : Y.th m = m ∧ Y.th n = n ∧ c = true := by
 unfold lit2 at h
 split at h
 ·rename_i hl
  rw [Bool.and_eq_true] at hl
  exact ⟨Y.lit m hl.1, Y.lit n hl.2, h⟩
 ·cases h
noncomputable def sumS (k : IntKind) (m n x : Int) (c : Int → Bool) : Bool := match litI m && litI n with
 | true => wrapK k x c
 | false => match okA m && okA n with
  | true => wrapS k x c
  | false => false
theorem sumS_ok {k : IntKind} {m n x z : Int} {c : Int → Bool} (h1 : litI m = true → litI n = true → z = x) (h2 : okA m = true → okA n = true → z = Y.th x) (h : sumS k m n x c = true) : ∃ y, c y = true ∧ k.wrap z = Y.th y := by
 unfold sumS at h
 split at h
 ·rename_i hl
  rw [Bool.and_eq_true] at hl
  rw [wrapK_is] at h
  exact ⟨_, h, by rw [h1 hl.1 hl.2, Y.lit _ (wrap_lit k x)]⟩
 ·split at h
  case h_2 => cases h
  rename_i ho
  rw [Bool.and_eq_true] at ho
  rw [h2 ho.1 ho.2]
  obtain ⟨y, hy | ⟨q1, q2, q3⟩⟩ := wrapS_ok h
  ·exact ⟨y, hy⟩
  ·refine ⟨y, q2, ?_⟩
   rw [Y.lit x q1, q3, Y.lit _ (wrap_lit k x)]
noncomputable def remS (m n : Int) (c : Int → Bool) : Bool := match ltI 0 n && litI n && okA m with
 | true => match Y.rng m with
  | some (lo, hi) => match ltI lo 0 with
   | true => false
   | false => forceI (Int.ediv lo n) fun j => match litI (j * n) && ltI hi (j * n + n) with
    | true => forceI (m - j * n) c
    | false => false
  | none => false
 | false => false
theorem remS_ok {m n : Int} {c : Int → Bool} (h : remS m n c = true) : Y.th n ≠ 0 ∧ ∃ y, c y = true ∧ (Y.th m).tmod (Y.th n) = Y.th y := by
 unfold remS at h
 split at h
 case h_2 => cases h
 rename_i ho
 simp only [Bool.and_eq_true, ltI_is, decide_eq_true_eq] at ho
 obtain ⟨⟨o1, o2⟩, o3⟩ := ho
 split at h
 case h_2 => cases h
 rename_i lo hi hr
 split at h
 ·cases h
 rename_i hl
 rw [ltI_is, decide_eq_false_iff_not] at hl
 rw [forceI_is] at h
 split at h
 case h_2 => cases h
 rename_i hj
 simp only [Bool.and_eq_true, ltI_is, decide_eq_true_eq] at hj
 obtain ⟨j1, j2⟩ := hj
 rw [forceI_is] at h
 obtain ⟨r1, r2⟩ := Y.rng_ok _ _ _ hr
 rw [Y.lit n o2]
 refine ⟨by omega, _, h, ?_⟩
 rw [Y.sub _ _ o3 (lit_ok j1), Y.lit _ j1]
 have hj : lo.ediv n * n ≤ lo := Int.ediv_mul_le lo (by omega)
 generalize lo.ediv n = q at *
 generalize Y.th m = z at *
 have hz : z = (z - q * n) + q * n := by omega
 rw [Int.tmod_eq_emod_of_nonneg (by omega)]
 rw [hz, Int.add_mul_emod_self_right, Int.emod_eq_of_lt (by omega) (by omega)]
 omega
noncomputable def arithK (b : BinOp) (k : IntKind) (m n : Int) (c : Value → Bool) : Bool := match b with
 | .add => sumS k m n (Int.add m n) fun s => c (.int k s)
 | .sub => sumS k m n (Int.sub m n) fun s => c (.int k s)
 | .mul => lit2 m n (wrapK k (Int.mul m n) fun s => c (.int k s))
 | .quo => lit2 m n (Bool.rec (wrapK k (m.tdiv n) fun s => c (.int k s)) false (eqI n 0))
 | .rem => match litI m && litI n with
  | true => lit2 m n (Bool.rec (forceI (m.tmod n) fun s => litK k s c) false (eqI n 0))
  | false => remS m n fun s => c (.int k s)
 | .and | .or | .xor | .andNot => lit2 m n (bitsK b k m n fun s => litK k s c)
 | .eql => eqS m n fun b => forceB b fun b => c (.bool b)
 | .neq => eqS m n fun b => forceB (!b) fun b => c (.bool b)
 | .lss => ltS m n fun b => forceB b fun b => c (.bool b)
 | .geq => ltS m n fun b => forceB (!b) fun b => c (.bool b)
 | .gtr => ltS n m fun b => forceB b fun b => c (.bool b)
 | .leq => ltS n m fun b => forceB (!b) fun b => c (.bool b)
 | _ => false
noncomputable def shiftK (b : BinOp) (k : IntKind) (m n : Int) (c : Value → Bool) : Bool := lit2 m n (Bool.rec (match b with
 | .shl => wrapK k (Int.mul m (.ofNat (Nat.pow 2 (Nat.min n.toNat k.bits)))) fun s => c (.int k s)
 | .shr => forceI (m.fdiv (.ofNat (Nat.pow 2 (Nat.min n.toNat k.bits)))) fun s => litK k s c
 | _ => false) false (ltI n 0))
variable {P : Program}
def OpS (P : Program) (t : Tr Value) (op : Op) (v : Value) : Prop := ∀ (ρ : Rl) (n : Nat) (df : List Deferred) (a : Act) (w : World) (R : Value → World → Prop) (d : Option Tmp) (ty : TypeId) (pos : String) (af : Array Edge) (g : Option (Nat × Bool)),
 FrR ρ n df t a → (∀ u, VR ρ v u → R u w) → OpTo P ⟨d, op, ty, pos, af, g⟩ a.eval w R
theorem OpdR.int {t : Tr Value} {x : Operand} {k : IntKind} {m : Int} (h : OpdR t x (.int k m)) {ρ : Rl} {n : Nat} {df : List Deferred} {a : Act} (F : FrR ρ n df t a) : a.eval x = .int k (Y.th m) := by
 have := h ρ n df a F
 generalize a.eval x = u at *
 cases this
 rfl
theorem OpdR.intT {t : Tr Value} {x : Operand} {k : IntKind} {m : Int} (h : OpdR t x (.int k m)) (e : Y.th m = m) {ρ : Rl} {n : Nat} {df : List Deferred} {a : Act} (F : FrR ρ n df t a) : a.eval x = .int k m := by
 rw [h.int F, e]
theorem OpdR.bool {t : Tr Value} {x : Operand} {b : Bool} (h : OpdR t x (.bool b)) {ρ : Rl} {n : Nat} {df : List Deferred} {a : Act} (F : FrR ρ n df t a) : a.eval x = .bool b := by
 have := h ρ n df a F
 generalize a.eval x = u at *
 cases this
 rfl
theorem VR.lit {ρ : Rl} {k : IntKind} {n : Int} (h : Y.th n = n) : VR ρ (.int k n) (.int k n) := by
 have := VR.int (ρ := ρ) k n
 rwa [h] at this
theorem VR.wr {ρ : Rl} {k k' : IntKind} {x : Int} : VR ρ (.int k (k'.wrap x)) (.int k (k'.wrap x)) := VR.lit (Y.lit _ (wrap_lit k' x))
theorem arithK_ok {t : Tr Value} {x y : Operand} {tt t' : TypeId} {b : BinOp} {k : IntKind} {m n : Int} {c : Value → Bool} (hx : OpdR t x (.int k m)) (hy : OpdR t y (.int k n)) (h : arithK b k m n c = true) : ∃ v, OpS P t (.binOp b tt x y t') v ∧ c v = true := by
 have hd : ∀ b : Bool, ∀ f : Bool → Bool, forceB b f = f b := forceB_is
 have hz : ∀ f : Bool, (Bool.rec f false (eqI n 0) : Bool) = true → n ≠ 0 ∧ f = true := fun f h => by
  rw [eqI_is] at h
  cases hz : (n == 0) with
  | true => rw [hz] at h;cases h
  | false => rw [hz] at h;exact ⟨by simpa using hz, h⟩
 cases b with
 | add =>
  obtain ⟨s, h1, h2⟩ := sumS_ok (z := Y.th m + Y.th n) (fun l1 l2 => by rw [Y.lit m l1, Y.lit n l2]) (fun o1 o2 => (Y.add m n o1 o2).symm) h
  exact ⟨_, fun ρ nn df a w R d ty pos af g F hR => o_add (hx.int F) (hy.int F) h2 (hR _ (.int _ _)), h1⟩
 | sub =>
  obtain ⟨s, h1, h2⟩ := sumS_ok (z := Y.th m - Y.th n) (fun l1 l2 => by rw [Y.lit m l1, Y.lit n l2]) (fun o1 o2 => (Y.sub m n o1 o2).symm) h
  exact ⟨_, fun ρ nn df a w R d ty pos af g F hR => o_sub (hx.int F) (hy.int F) h2 (hR _ (.int _ _)), h1⟩
 | mul =>
  obtain ⟨e1, e2, h⟩ := lit2_ok h
  rw [wrapK_is] at h
  exact ⟨_, fun ρ nn df a w R d ty pos af g F hR => o_mul (hx.int F) (hy.int F) (by rw [e1, e2];rfl) (hR _ .wr), h⟩
 | quo =>
  obtain ⟨e1, e2, h⟩ := lit2_ok h
  obtain ⟨h0, h1⟩ := hz _ h
  rw [wrapK_is] at h1
  exact ⟨_, fun ρ nn df a w R d ty pos af g F hR => o_quo (hx.int F) (hy.int F) (by rw [e2];exact h0) (by rw [e1, e2]) (hR _ .wr), h1⟩
 | rem =>
  have h0 : (match litI m && litI n with
   | true => lit2 m n (Bool.rec (forceI (m.tmod n) fun s => litK k s c) false (eqI n 0))
   | false => remS m n fun s => c (.int k s) : Bool) = true := h
  clear h
  split at h0
  case h_2 =>
   obtain ⟨e1, y, h1, e2⟩ := remS_ok h0
   exact ⟨_, fun ρ nn df a w R d ty pos af g F hR => o_rem (hx.int F) (hy.int F) e1 e2 (hR _ (.int _ _)), h1⟩
  obtain ⟨e1, e2, h⟩ := lit2_ok h0
  obtain ⟨h0, h1⟩ := hz _ h
  rw [forceI_is] at h1
  obtain ⟨e3, h1⟩ := litK_ok h1
  exact ⟨_, fun ρ nn df a w R d ty pos af g F hR => o_rem (hx.int F) (hy.int F) (by rw [e2];exact h0) (by rw [e1, e2]) (hR _ (.lit e3)), h1⟩
 | and =>
  obtain ⟨e1, e2, h⟩ := lit2_ok h
  rw [bitsK_is] at h
  obtain ⟨e3, h1⟩ := litK_ok h
  exact ⟨_, fun ρ nn df a w R d ty pos af g F hR => o_and (hx.int F) (hy.int F) (by rw [e1, e2]) (hR _ (.lit e3)), h1⟩
 | or =>
  obtain ⟨e1, e2, h⟩ := lit2_ok h
  rw [bitsK_is] at h
  obtain ⟨e3, h1⟩ := litK_ok h
  exact ⟨_, fun ρ nn df a w R d ty pos af g F hR => o_or (hx.int F) (hy.int F) (by rw [e1, e2]) (hR _ (.lit e3)), h1⟩
 | xor =>
  obtain ⟨e1, e2, h⟩ := lit2_ok h
  rw [bitsK_is] at h
  obtain ⟨e3, h1⟩ := litK_ok h
  exact ⟨_, fun ρ nn df a w R d ty pos af g F hR => o_xor (hx.int F) (hy.int F) (by rw [e1, e2]) (hR _ (.lit e3)), h1⟩
 | andNot =>
  obtain ⟨e1, e2, h⟩ := lit2_ok h
  rw [bitsK_is] at h
  obtain ⟨e3, h1⟩ := litK_ok h
  exact ⟨_, fun ρ nn df a w R d ty pos af g F hR => o_andNot (hx.int F) (hy.int F) (by rw [e1, e2]) (hR _ (.lit e3)), h1⟩
 | eql =>
  have h := eqS_ok h
  rw [hd] at h
  exact ⟨_, fun ρ nn df a w R d ty pos af g F hR => o_eql (hx.int F) (hy.int F) (hR _ (.bool _)), h⟩
 | neq =>
  have h := eqS_ok h
  rw [hd] at h
  exact ⟨_, fun ρ nn df a w R d ty pos af g F hR => o_neq (hx.int F) (hy.int F) (hR _ (.bool _)), h⟩
 | lss =>
  have h := ltS_ok h
  rw [hd] at h
  exact ⟨_, fun ρ nn df a w R d ty pos af g F hR => o_lss (hx.int F) (hy.int F) (hR _ (.bool _)), h⟩
 | gtr =>
  have h := ltS_ok h
  rw [hd] at h
  exact ⟨_, fun ρ nn df a w R d ty pos af g F hR => o_gtr (hx.int F) (hy.int F) (hR _ (.bool _)), h⟩
 | leq =>
  have h := ltS_ok h
  rw [hd] at h
  exact ⟨_, fun ρ nn df a w R d ty pos af g F hR => o_leq (hx.int F) (hy.int F) (hR _ (.bool _)), by rw [show decide (Y.th m ≤ Y.th n) = !decide (Y.th n < Y.th m) by rw [Bool.eq_iff_iff];simp];exact h⟩
 | geq =>
  have h := ltS_ok h
  rw [hd] at h
  exact ⟨_, fun ρ nn df a w R d ty pos af g F hR => o_geq (hx.int F) (hy.int F) (hR _ (.bool _)), by rw [show decide (Y.th n ≤ Y.th m) = !decide (Y.th m < Y.th n) by rw [Bool.eq_iff_iff];simp];exact h⟩
 | _ => cases h
theorem shiftK_ok {t : Tr Value} {x y : Operand} {tt t' : TypeId} {b : BinOp} {k k' : IntKind} {m n : Int} {c : Value → Bool} (hx : OpdR t x (.int k m)) (hy : OpdR t y (.int k' n)) (h : shiftK b k m n c = true) : ∃ v, OpS P t (.binOp b tt x y t') v ∧ c v = true := by
 unfold shiftK at h
 obtain ⟨e1, e2, h⟩ := lit2_ok h
 rw [ltI_is] at h
 cases hz : decide (n < 0) with
 | true => rw [hz] at h;cases h
 | false =>
  rw [hz] at h
  have h0 : 0 ≤ n := by simpa using hz
  have hp : ∀ e : Nat, Int.ofNat (Nat.pow 2 e) = (2 : Int) ^ e := fun e => by
   show ((2 ^ e : Nat) : Int) = _
   simp
  dsimp only at h
  split at h
  ·rw [wrapK_is] at h
   exact ⟨_, fun ρ nn df a w R d ty pos af g F hR => o_shl (hx.int F) (hy.int F) (by rw [e2];exact h0) (by rw [e1, e2, ← hp];rfl) (hR _ .wr), h⟩
  ·rw [forceI_is] at h
   obtain ⟨e3, h1⟩ := litK_ok h
   exact ⟨_, fun ρ nn df a w R d ty pos af g F hR => o_shr (hx.int F) (hy.int F) (by rw [e2];exact h0) (by rw [e1, e2, ← hp]) (hR _ (.lit e3)), h1⟩
  ·cases h
end Go.Proofs.YtfhkmgcalcfibaaGreat
namespace Go.Proofs.YtfhkmgcalcfibaaGreat
open Go.RowKit
variable [Y : Sy]
/-! ### types -/
noncomputable def fldOff (P : Program) (s : TypeId) (i : Nat) : Option Nat := match P.underlying s with
 | some (.struct fs) => match fs[i]? with
  | some f => match P.info? f.type with
   | some j => Bool.rec (some f.offset) none (Nat.beq j.size 0)
   | none => none
  | none => none
 | _ => none
omit Y in
theorem fldOff_ok {P : Program} {s : TypeId} {i off : Nat} (h : fldOff P s i = some off) : fieldAtB P s i off = true := by
 unfold fldOff at h
 unfold fieldAtB
 split at h
 ·rename_i fs hu
  split at h
  ·rename_i f hf
   split at h
   ·rename_i j hj
    cases hb : Nat.beq j.size 0 with
    | true => rw [hb] at h;cases h
    | false =>
     rw [hb] at h
     have h' : f.offset = off := by simpa using h
     subst h'
     have : j.size ≠ 0 := fun e => by rw [e] at hb;cases hb
     simp [hu, hf, hj, this]
   ·cases h
  ·cases h
 ·cases h
noncomputable def fldTy (P : Program) (s : TypeId) (i : Nat) : Option (Nat × TypeId) := match P.underlying s with
 | some (.struct fs) => match fs[i]? with
  | some f => some (f.offset, f.type)
  | none => none
 | _ => none
omit Y in
theorem fldTy_ok {P : Program} {s : TypeId} {i : Nat} {q : Nat × TypeId} (h : fldTy P s i = some q) : fieldTyB P s i q.1 q.2 = true := by
 unfold fldTy at h
 unfold fieldTyB
 split at h
 ·rename_i fs hu
  split at h
  ·rename_i f hf
   cases h
   simp [hu, hf]
  ·cases h
 ·cases h
omit Y in
theorem sizeIs_of {P : Program} {t : TypeId} {i : _} (h : P.info? t = some i) : sizeIs P t i.size = true := by simp [sizeIs, h]
noncomputable def partK (P : Program) (ft : TypeId) (l : List Value) (off : Nat) (c : Value → Bool) : Bool := match isAggT P ft with
 | true => match P.info? ft with
  | some i => segK l off i.size fun vs => c (.agg vs.toArray)
  | none => false
 | false => match oneTy P ft with
  | true => nthK l off c
  | false => false
omit Y in
theorem partK_ok {P : Program} {ft : TypeId} {l : List Value} {off : Nat} {c : Value → Bool} (h : partK P ft l off c = true) :
  (oneTy P ft = true ∧ ∃ v, nth l off = some v ∧ c v = true) ∨ ∃ n, aggTy P ft n = true ∧ ∃ vs, seg l off n = some vs ∧ c (.agg vs.toArray) = true := by
 unfold partK at h
 split at h
 ·rename_i hb
  split at h
  ·rename_i i hi
   obtain ⟨vs, h1, h2⟩ := segK_ok h
   refine .inr ⟨i.size, ?_, vs, h1, h2⟩
   unfold isAggT at hb
   unfold aggTy
   simp only [hi, Option.map_some, BEq.rfl, Bool.and_true]
   split at hb <;> simp_all
  ·cases h
 ·split at h
  ·rename_i h1
   exact .inl ⟨h1, nthK_ok h⟩
  ·cases h
/-! ### operations -/
variable {P : Program} {t : Tr Value}
theorem okNil_vr {ρ : Rl} {v u : Value} (h : VR ρ v u) (hv : okNil v = true) : okNil u = true := by
 cases h <;> first | rfl | exact hv | (simp [okNil] at hv) | skip
 rename_i f vs us vs' us' _ _
 cases f <;> first | rfl | (simp [okNil] at hv)
noncomputable def unK (o : UnOp) (v : Value) (c : Value → Bool) : Bool := match o, v with
 | .not, .bool b => forceB (!b) fun b => c (.bool b)
 | .neg, .int k n => lit2 0 n (wrapK k (Int.sub 0 n) fun s => c (.int k s))
 | .xor, .int k n => lit2 0 n (bitsK .xor k (if k.signed then -1 else k.max) n fun s => litK k s c)
 | _, _ => false
theorem unK_ok {o : UnOp} {x : Operand} {tt : TypeId} {v : Value} {c : Value → Bool} (hx : OpdR t x v) (h : unK o v c = true) : ∃ v', OpS P t (.unOp o tt x) v' ∧ c v' = true := by
 unfold unK at h
 split at h
 ·rw [forceB_is] at h
  exact ⟨_, fun ρ n df a w R d ty pos af g F hR => o_not (hx.bool F) (hR _ (.bool _)), h⟩
 ·obtain ⟨_, e2, h⟩ := lit2_ok h
  rw [wrapK_is] at h
  exact ⟨_, fun ρ n df a w R d ty pos af g F hR => o_neg (hx.int F) (by rw [e2];rfl) (hR _ .wr), h⟩
 ·obtain ⟨_, e2, h⟩ := lit2_ok h
  rw [bitsK_is] at h
  obtain ⟨e3, h⟩ := litK_ok h
  exact ⟨_, fun ρ n df a w R d ty pos af g F hR => o_compl (hx.int F) (by rw [e2]) (hR _ (.lit e3)), h⟩
 ·cases h
noncomputable def litsK (l : List Value) : Bool := List.rec true (fun x _ ih => match x with
 | .int _ n => Bool.rec false ih (litI n)
 | _ => ih) l
theorem litsK_cons {x : Value} {xs : List Value} (h : litsK (x :: xs) = true) : litsK xs = true ∧ ∀ k n, x = .int k n → Y.th n = n := by
 cases x
 case int k n =>
  have h' : (Bool.rec false (litsK xs) (litI n) : Bool) = true := h
  cases hn : litI n with
  | false => rw [hn] at h';cases h'
  | true =>
   rw [hn] at h'
   exact ⟨h', fun k' n' e => by cases e;exact Y.lit n hn⟩
 all_goals exact ⟨h, fun k n e => by cases e⟩
theorem fits_same {ρ : Rl} : ∀ {ks : List LK} {xs us : List Value}, VRs ρ xs us → litsK xs = true → fitsK ks xs = true → us = xs
 | _, _, _, .nil, _, _ => rfl
 | [], _, _, .cons _ _, _, h => by simp [fitsK] at h
 | k :: ks, _, _, .cons h t, hl, hf => by
  simp only [fitsK, Bool.and_eq_true] at hf
  obtain ⟨hl1, hl2⟩ := litsK_cons hl
  rw [fits_same t hl1 hf.2]
  congr 1
  cases k <;> cases h <;> first | rfl | (rw [hl2 _ _ rfl];done) | (simp [fitK] at hf)
theorem fits_vr {ρ : Rl} : ∀ {ks : List LK} {xs us : List Value}, VRs ρ xs us → fitsK ks xs = true → fitsK ks us = true
 | _, _, _, .nil, h => h
 | [], _, _, .cons _ _, h => by simp [fitsK] at h
 | k :: ks, _, _, .cons h t, hf => by
  simp only [fitsK, Bool.and_eq_true] at hf ⊢
  refine ⟨?_, fits_vr t hf.2⟩
  cases k <;> cases h <;> first | exact hf.1 | (simp [fitK] at hf)
noncomputable def eqVsS (l : List Value) : List Value → (Bool → Bool) → Bool := List.rec (motive := fun _ => List Value → (Bool → Bool) → Bool) (fun l2 c => List.rec (c true) (fun _ _ _ => false) l2) (fun x _ ih l2 c => List.rec false (fun y ys _ => match x, y with
 | .int _ a, .int _ b => eqS a b fun r => Bool.rec (c false) (ih ys c) r
 | .bool a, .bool b => Bool.rec (Bool.rec (ih ys c) (c false) b) (Bool.rec (c false) (ih ys c) b) a
 | _, _ => false) l2) l
theorem eqVsS_ok : ∀ {xs ys : List Value} {c : Bool → Bool}, eqVsS xs ys c = true → ∃ r, c r = true ∧ ∀ {ρ : Rl} {us us' : List Value}, VRs ρ xs us → VRs ρ ys us' → eqVs us us' = r
  | [], [], c, h => ⟨true, h, fun h1 h2 => by cases h1;cases h2;rfl⟩
  | [], _ :: _, c, h => by cases h
  | _ :: _, [], c, h => by cases h
  | x :: xs, y :: ys, c, h => by
    cases x
    case int k a =>
      cases y
      case int k' b =>
       have h' : (eqS a b fun r => Bool.rec (c false) (eqVsS xs ys c) r) = true := h
       clear h
       have h := eqS_ok h'
       cases hr : (Y.th a == Y.th b) with
       | false =>
         rw [hr] at h
         exact ⟨false, h, fun h1 h2 => by
           cases h1 with | cons u1 t1 =>
           cases h2 with | cons u2 t2 =>
           cases u1
           cases u2
           simp only [eqVs, eqV, hr, Bool.false_and]⟩
       | true =>
         rw [hr] at h
         obtain ⟨r, h1, h2⟩ := eqVsS_ok h
         exact ⟨r, h1, fun k1 k2 => by
           cases k1 with | cons u1 t1 =>
           cases k2 with | cons u2 t2 =>
           cases u1
           cases u2
           simp only [eqVs, eqV, hr, Bool.true_and]
           exact h2 t1 t2⟩
      all_goals cases h
    case bool a =>
      cases y
      case bool b =>
       have hh : ∀ r : Bool, (a == b) = r → (Bool.rec (c false) (eqVsS xs ys c) r : Bool) = true → ∃ r, c r = true ∧ ∀ {ρ : Rl} {us us' : List Value}, VRs ρ (.bool a :: xs) us → VRs ρ (.bool b :: ys) us' → eqVs us us' = r := fun r hr h => by
         cases r with
         | false => exact ⟨false, h, fun h1 h2 => by
             cases h1 with | cons u1 t1 =>
             cases h2 with | cons u2 t2 =>
             cases u1
             cases u2
             simp only [eqVs, eqV, hr, Bool.false_and]⟩
         | true =>
           obtain ⟨r, h1, h2⟩ := eqVsS_ok h
           exact ⟨r, h1, fun k1 k2 => by
             cases k1 with | cons u1 t1 =>
             cases k2 with | cons u2 t2 =>
             cases u1
             cases u2
             simp only [eqVs, eqV, hr, Bool.true_and]
             exact h2 t1 t2⟩
       cases a <;> cases b <;> exact hh _ rfl h
      all_goals cases h
    all_goals (cases y <;> cases h)
noncomputable def eqVsK (l : List Value) : List Value → Bool := List.rec (motive := fun _ => List Value → Bool) (fun l2 => List.rec true (fun _ _ _ => false) l2) (fun x _ ih l2 => List.rec false (fun y ys _ => Bool.rec false (ih ys) (match x, y with | .int _ a, .int _ b => eqI a b | .bool a, .bool b => (match a, b with | true, true => true | false, false => true | _, _ => false) | _, _ => false)) l2) l
omit Y in
theorem eqVsK_is : ∀ (xs ys : List Value), eqVsK xs ys = eqVs xs ys
 | [], [] => rfl
 | [], _ :: _ => rfl
 | _ :: _, [] => rfl
 | x :: xs, y :: ys => by
  show (Bool.rec false (eqVsK xs ys) (match x, y with | .int _ a, .int _ b => eqI a b | .bool a, .bool b => (match a, b with | true, true => true | false, false => true | _, _ => false) | _, _ => false) : Bool) = _
  rw [eqVsK_is xs ys]
  show _ = (eqV x y && eqVs xs ys)
  have : (match x, y with | .int _ a, .int _ b => eqI a b | .bool a, .bool b => (match a, b with | true, true => true | false, false => true | _, _ => false) | _, _ => false) = eqV x y := by
   unfold eqV
   split
   ·exact eqI_is _ _
   ·rename_i a b
    cases a <;> cases b <;> rfl
   ·rename_i h1 h2
    split
    ·rename_i k a k' b
     exact (h1 _ _ _ _ rfl rfl).elim
    ·rename_i a b
     exact (h2 _ _ rfl rfl).elim
    ·rfl
  rw [this]
  cases eqV x y <;> rfl
omit Y in
theorem o_neqNil {ρ : Operand → Value} {w : World} {R : Value → World → Prop} {d : Option Tmp} {ty : TypeId} {pos : String} {af : Array Edge} {g : Option (Nat × Bool)} {t t' e : TypeId} {x y : Operand} {p : Option Addr} {n c : Nat} (hx : ρ x = .slice p n c) (hy : ρ y = .slice none 0 0) [ht : TU P t (.slice e)] (h : R (.bool !p.isNone) w) : OpTo P ⟨d, .binOp .neq t x y t', ty, pos, af, g⟩ ρ w R := by
 have hr0 : ∀ k : Nat, (Op.equalIn (k + 1) t (.slice p n c) (.slice none 0 0)).run P w = .ok p.isNone w := fun k => by
  cases p <;> simp [Op.equalIn, run_underlying ht.h]
 have hr := hr0 9999
 exact OpTo.val (v := .bool !p.isNone) (w' := w) (by simp [execOp, eqGuard, binOp, Op.equal, Op.maxDepth, hx, hy, hr]) h
noncomputable def aggEqK (P : Program) (tt : TypeId) (xs ys : List Value) (c : Bool → Bool) : Bool := match leafK P 8 tt with
 | some ks => match isAggT P tt && !P.eqGuardType P.depth tt with
  | true => match fitsK ks xs with
   | true => match fitsK ks ys with
    | true => eqVsS xs ys c
    | false => false
   | false => false
  | false => false
 | none => false
noncomputable def binK (P : Program) (b : BinOp) (tt : TypeId) (v u : Value) (c : Value → Bool) : Bool := match v, u with
 | .int k m, .int k' n => match b with
  | .shl => shiftK .shl k m n c
  | .shr => shiftK .shr k m n c
  | b => match kEqR k k' with
   | true => arithK b k m n c
   | false => false
 | .bool p, .bool q => match P.underlying tt with
  | some .bool => match b with
   | .eql => forceB (p == q) fun b => c (.bool b)
   | .neq => forceB (!(p == q)) fun b => c (.bool b)
   | _ => false
  | _ => false
 | .agg xs, .agg ys => match b with
  | .eql => aggEqK P tt xs.toList ys.toList fun b => c (.bool b)
  | .neq => aggEqK P tt xs.toList ys.toList fun b => forceB (!b) fun b => c (.bool b)
  | _ => false
 | .slice p _ _, .slice none 0 0 => match P.underlying tt with
  | some (.slice _) => match b with
   | .eql => forceB p.isNone fun b => c (.bool b)
   | .neq => forceB (!p.isNone) fun b => c (.bool b)
   | _ => false
  | _ => false
 | _, _ => false
theorem OpdR.agg {x : Operand} {cs : Array Value} (h : OpdR t x (.agg cs)) {ρ : Rl} {n : Nat} {df : List Deferred} {a : Act} (F : FrR ρ n df t a) : ∃ us, a.eval x = .agg us.toArray ∧ VRs ρ cs.toList us := by
 have := h ρ n df a F
 generalize a.eval x = u at *
 cases this
 rename_i us h
 exact ⟨us, rfl, h⟩
theorem OpdR.tup {x : Operand} {cs : Array Value} (h : OpdR t x (.tuple cs)) {ρ : Rl} {n : Nat} {df : List Deferred} {a : Act} (F : FrR ρ n df t a) : ∃ us, a.eval x = .tuple us.toArray ∧ VRs ρ cs.toList us := by
 have := h ρ n df a F
 generalize a.eval x = u at *
 cases this
 rename_i us h
 exact ⟨us, rfl, h⟩
theorem OpdR.ptr {x : Operand} {b o : Nat} (h : OpdR t x (.pointer (some ⟨b, o, none⟩))) {ρ : Rl} {n : Nat} {df : List Deferred} {a : Act} (F : FrR ρ n df t a) : ∃ r c, a.eval x = .pointer (some ⟨r, o, none⟩) ∧ ρ b = some (r, c) := by
 have := h ρ n df a F
 generalize a.eval x = u at *
 cases this
 rename_i r c h
 exact ⟨r, c, rfl, h⟩
theorem aggEqK_ok {tt : TypeId} {xs ys : List Value} {c : Bool → Bool} (h : aggEqK P tt xs ys c = true) : ∃ ks, eqB P tt ks = true ∧ fitsK ks xs = true ∧ fitsK ks ys = true ∧ ∃ r, c r = true ∧ ∀ {ρ : Rl} {us us' : List Value}, VRs ρ xs us → VRs ρ ys us' → eqVs us us' = r := by
 unfold aggEqK at h
 split at h
 ·rename_i ks hk
  split at h
  ·rename_i h1
   split at h
   ·rename_i h2
    split at h
    ·rename_i h3
     refine ⟨ks, ?_, h2, h3, eqVsS_ok h⟩
     simp only [Bool.and_eq_true] at h1
     simp [eqB, hk, h1.1, h1.2]
    ·cases h
   ·cases h
  ·cases h
 ·cases h
theorem VR.slice {ρ : Rl} {p : Option Addr} {n k : Nat} {u : Value} (h : VR ρ (.slice p n k) u) : ∃ q k', u = .slice q n k' ∧ q.isNone = p.isNone := by
 cases h
 ·exact ⟨none, k, rfl, rfl⟩
 ·exact ⟨_, _, rfl, rfl⟩
 ·exact ⟨_, _, rfl, rfl⟩
theorem binK_ok {b : BinOp} {x y : Operand} {tt t' : TypeId} {v u : Value} {c : Value → Bool} (hx : OpdR t x v) (hy : OpdR t y u) (h : binK P b tt v u c = true) : ∃ v', OpS P t (.binOp b tt x y t') v' ∧ c v' = true := by
 unfold binK at h
 split at h
 ·split at h
  ·exact shiftK_ok hx hy h
  ·exact shiftK_ok hx hy h
  ·split at h
   ·rename_i hk
    obtain rfl := kEq_ok' hk
    exact arithK_ok hx hy h
   ·cases h
 ·split at h
  ·rename_i hu
   haveI : TU P tt .bool := ⟨hu⟩
   split at h
   ·rw [forceB_is] at h
    exact ⟨_, fun ρ n df a w R d ty pos af g F hR => o_eqlB (hx.bool F) (hy.bool F) (hR _ (.bool _)), h⟩
   ·rw [forceB_is] at h
    exact ⟨_, fun ρ n df a w R d ty pos af g F hR => o_neqB (hx.bool F) (hy.bool F) (hR _ (.bool _)), h⟩
   ·cases h
  ·cases h
 ·split at h
  ·obtain ⟨ks, h1, h2, h3, r, h4, h5⟩ := aggEqK_ok h
   haveI : TEq P tt ks := ⟨h1⟩
   refine ⟨_, fun ρ n df a w R d ty pos af g F hR => ?_, h4⟩
   obtain ⟨us, e1, q1⟩ := hx.agg F
   obtain ⟨us', e2, q2⟩ := hy.agg F
   exact o_eqlA e1 e2 (fits_vr q1 h2) (fits_vr q2 h3) (by rw [h5 q1 q2];exact hR _ (.bool _))
  ·obtain ⟨ks, h1, h2, h3, r, h4, h5⟩ := aggEqK_ok h
   haveI : TEq P tt ks := ⟨h1⟩
   rw [forceB_is] at h4
   refine ⟨_, fun ρ n df a w R d ty pos af g F hR => ?_, h4⟩
   obtain ⟨us, e1, q1⟩ := hx.agg F
   obtain ⟨us', e2, q2⟩ := hy.agg F
   exact o_neqA e1 e2 (fits_vr q1 h2) (fits_vr q2 h3) (by rw [h5 q1 q2];exact hR _ (.bool _))
  ·cases h
 ·split at h
  ·rename_i e hu
   haveI : TU P tt (.slice e) := ⟨hu⟩
   split at h
   ·rw [forceB_is] at h
    refine ⟨_, fun ρ n df a w R d ty pos af g F hR => ?_, h⟩
    obtain ⟨q, k', e1, e2⟩ := (hx ρ n df a F).slice
    have hy' : a.eval y = .slice none 0 0 := by
     have := hy ρ n df a F
     generalize a.eval y = u at *
     cases this
     rfl
    exact o_eqlNil e1 hy' (hR _ (by rw [e2];exact .bool _))
   ·rw [forceB_is] at h
    refine ⟨_, fun ρ n df a w R d ty pos af g F hR => ?_, h⟩
    obtain ⟨q, k', e1, e2⟩ := (hx ρ n df a F).slice
    have hy' : a.eval y = .slice none 0 0 := by
     have := hy ρ n df a F
     generalize a.eval y = u at *
     cases this
     rfl
    exact o_neqNil e1 hy' (hR _ (by rw [e2];exact .bool _))
   ·cases h
  ·cases h
 ·cases h
end Go.Proofs.YtfhkmgcalcfibaaGreat
namespace Go.Proofs.YtfhkmgcalcfibaaGreat
open Go.RowKit
variable [Y : Sy]
variable {P : Program} {t : Tr Value}
/-! ### slices of slices -/
section
variable {ρ : Operand → Value} {w : World} {R : Value → World → Prop} {d : Option Tmp} {ty : TypeId} {pos : String} {af : Array Edge} {g : Option (Nat × Bool)}
omit Y in
theorem o_slG {tt e : TypeId} {x : Operand} {lo hi : Option Operand} {p : Option Addr} {len cap sz : Nat} {m n : Int} (hx : ρ x = .slice p len cap) (hlo : (lo = none ∧ m = 0) ∨ ∃ i k, lo = some i ∧ ρ i = .int k m) (hhi : (hi = none ∧ n = len) ∨ ∃ j k, hi = some j ∧ ρ j = .int k n)
  [ht : TU P tt (.slice e)] [hs : TSz P e sz] (h0 : 0 ≤ m) (h1 : m ≤ n) (h2 : n ≤ cap) (h : R (.slice (if cap = m.toNat then p else p.map (·.add (m.toNat * sz))) (n.toNat - m.toNat) (cap - m.toNat)) w) : OpTo P ⟨d, .slice tt x lo hi none, ty, pos, af, g⟩ ρ w R := by
 have h4 : 0 ≤ n := by omega
 have h5 : ¬ max n 0 < m := by omega
 rcases hlo with ⟨rfl, rfl⟩ | ⟨i, k, rfl, ei⟩
 ·rcases hhi with ⟨rfl, rfl⟩ | ⟨j, k', rfl, ej⟩
  ·exact OpTo.val (v := .slice (if cap = (0 : Int).toNat then p else p.map (·.add ((0 : Int).toNat * sz))) ((len : Int).toNat - (0 : Int).toNat) (cap - (0 : Int).toNat)) (w' := w) (by simp [execOp, Instr.sliceAt, Instr.slice, Instr.sliceBounds, Instr.sliceBound, asIntOf, hx, run_underlying ht.h, run_sizeOf hs.h]) h
  ·exact OpTo.val (v := .slice (if cap = (0 : Int).toNat then p else p.map (·.add ((0 : Int).toNat * sz))) (n.toNat - (0 : Int).toNat) (cap - (0 : Int).toNat)) (w' := w) (by simp [execOp, Instr.sliceAt, Instr.slice, Instr.sliceBounds, Instr.sliceBound, asIntOf, hx, ej, run_underlying ht.h, run_sizeOf hs.h, h4, h2]) h
 ·rcases hhi with ⟨rfl, rfl⟩ | ⟨j, k', rfl, ej⟩
  ·exact OpTo.val (v := .slice (if cap = m.toNat then p else p.map (·.add (m.toNat * sz))) ((len : Int).toNat - m.toNat) (cap - m.toNat)) (w' := w) (by simp [execOp, Instr.sliceAt, Instr.slice, Instr.sliceBounds, Instr.sliceBound, asIntOf, hx, ei, run_underlying ht.h, run_sizeOf hs.h, h0, h1]) h
  ·exact OpTo.val (v := .slice (if cap = m.toNat then p else p.map (·.add (m.toNat * sz))) (n.toNat - m.toNat) (cap - m.toNat)) (w' := w) (by simp [execOp, Instr.sliceAt, Instr.slice, Instr.sliceBounds, Instr.sliceBound, asIntOf, hx, ei, ej, run_underlying ht.h, run_sizeOf hs.h, h0, h4, h5, h2]) h
end
noncomputable def slOpen (b o len cap sz M N : Nat) (c : Value → Bool) : Bool := match Nat.beq M 0 with
 | true => c (.slice (some ⟨b, o, none⟩) N cap)
 | false => match Nat.blt M len with
  | true => match Nat.ble 9223372036854775808 (cap - M) && Nat.ble cap 18446744073709551616 with
   | true => forceN (o + M * sz) fun o => forceN (N - M) fun n => forceN (cap - M) fun k => c (.slice (some ⟨b, o, none⟩) n k)
   | false => false
  | false => match Nat.beq N M with
   | true => c (.slice (some ⟨0, 0, some 0⟩) 0 0)
   | false => false
noncomputable def slN (b o len cap sz M N : Nat) (c : Value → Bool) : Bool := match Nat.blt cap 9223372036854775808 with
 | true => match Nat.ble N cap with
  | true => match Nat.beq cap M with
   | true => forceN (N - M) fun n => c (.slice (some ⟨b, o, none⟩) n 0)
   | false => forceN (o + M * sz) fun o => forceN (N - M) fun n => forceN (cap - M) fun k => c (.slice (some ⟨b, o, none⟩) n k)
  | false => false
 | false => match Nat.ble N len with
  | true => slOpen b o len cap sz M N c
  | false => false
noncomputable def slK (P : Program) (tt : TypeId) (v : Value) (lo hi : Option Int) (c : Value → Bool) : Bool := match P.underlying tt with
 | some (.slice e) => match P.info? e with
  | some i => match v with
   | .slice p len cap => match lo.getD 0, hi.getD len with
    | .ofNat M, .ofNat N => match Nat.ble M N with
     | true => match p with
      | some ⟨b, o, none⟩ => slN b o len cap i.size M N c
      | none => match Nat.beq N 0 with
       | true => match Nat.beq cap 0 with
        | true => c (.slice none 0 0)
        | false => false
       | false => false
      | _ => false
     | false => false
    | _, _ => false
   | _ => false
  | none => false
 | _ => false
noncomputable def slAK (P : Program) (tt : TypeId) (v : Value) (lo hi : Option Int) (c : Value → Bool) : Bool := match P.underlying tt with
 | some (.array len e) => match P.info? e with
  | some i => match v with
   | .pointer (some ⟨b, o, none⟩) => match lo.getD 0, hi.getD len with
    | .ofNat M, .ofNat N => match Nat.ble M N && Nat.ble N len && Nat.blt M len && Nat.blt len 9223372036854775808 with
     | true => forceN (o + M * i.size) fun o => forceN (N - M) fun n => forceN (len - M) fun k => c (.slice (some ⟨b, o, none⟩) n k)
     | false => false
    | _, _ => false
   | _ => false
  | none => false
 | _ => false
def BndR (t : Tr Value) (x : Option Operand) (v : Option Int) : Prop := (x = none ∧ v = none) ∨ ∃ y k m, x = some y ∧ v = some m ∧ Y.th m = m ∧ OpdR t y (.int k m)
noncomputable def bndK (t : Tr Value) (x : Option Operand) (c : Option Int → Bool) : Bool := match x with
 | none => c none
 | some y => evK t y fun v => match v with
  | .int _ m => match litI m with
   | true => c (some m)
   | false => false
  | _ => false
theorem bndK_ok {x : Option Operand} {c : Option Int → Bool} (h : bndK t x c = true) : ∃ v, BndR t x v ∧ c v = true := by
 unfold bndK at h
 split at h
 ·exact ⟨none, .inl ⟨rfl, rfl⟩, h⟩
 ·obtain ⟨v, h1, h2⟩ := evK_ok h
  split at h2
  ·split at h2
   ·rename_i hl
    exact ⟨_, .inr ⟨_, _, _, rfl, rfl, Y.lit _ hl, h1⟩, h2⟩
   ·cases h2
  ·cases h2
omit Y in
theorem capR_sub {c k M : Nat} (h : 9223372036854775808 ≤ k - M) (hk : k ≤ 18446744073709551616) : capR c (k - M) = capR c k - M := by
 unfold capR
 rw [if_neg (by omega), if_neg (by omega)]
 omega
omit Y in
theorem capR_lt {c k : Nat} (h : k < 9223372036854775808) : capR c k = k := if_pos h
theorem slK_ok {tt : TypeId} {x : Operand} {lo hi : Option Operand} {v : Value} {m n : Option Int} {c : Value → Bool} (hx : OpdR t x v) (hm : BndR t lo m) (hn : BndR t hi n) (h : slK P tt v m n c = true) : ∃ v', OpS P t (.slice tt x lo hi none) v' ∧ c v' = true := by
 unfold slK at h
 split at h
 case h_2 => cases h
 rename_i e hu
 haveI : TU P tt (.slice e) := ⟨hu⟩
 split at h
 case h_2 => cases h
 rename_i i hi'
 haveI : TSz P e i.size := ⟨sizeIs_of hi'⟩
 split at h
 case h_2 => cases h
 rename_i p len cap
 split at h
 case h_2 => cases h
 rename_i M N hM hN
 split at h
 case h_2 => cases h
 rename_i hMN
 have hMN := Nat.le_of_ble_eq_true hMN
 have blo : ∀ {ρ : Rl} {nn : Nat} {df : List Deferred} {a : Act}, FrR ρ nn df t a → (lo = none ∧ (Int.ofNat M) = 0) ∨ ∃ i k, lo = some i ∧ a.eval i = .int k (Int.ofNat M) := fun F => by
  rcases hm with ⟨h1, h2⟩ | ⟨y, k, q, h1, h2, h4, h3⟩
  ·subst h2
   exact .inl ⟨h1, hM.symm⟩
  ·subst h2
   refine .inr ⟨y, k, h1, ?_⟩
   rw [← hM, h3.int F, h4]
   rfl
 have bhi : ∀ {ρ : Rl} {nn : Nat} {df : List Deferred} {a : Act}, FrR ρ nn df t a → (hi = none ∧ (Int.ofNat N) = len) ∨ ∃ i k, hi = some i ∧ a.eval i = .int k (Int.ofNat N) := fun F => by
  rcases hn with ⟨h1, h2⟩ | ⟨y, k, q, h1, h2, h4, h3⟩
  ·subst h2
   exact .inl ⟨h1, hN.symm⟩
  ·subst h2
   refine .inr ⟨y, k, h1, ?_⟩
   rw [← hN, h3.int F, h4]
   rfl
 have h0 : (0 : Int) ≤ Int.ofNat M := Int.natCast_nonneg _
 have h1 : Int.ofNat M ≤ Int.ofNat N := Int.ofNat_le.2 hMN
 split at h
 ·-- a place
  rename_i b o
  unfold slN at h
  split at h
  ·rename_i hk
   have hk : cap < 9223372036854775808 := Nat.le_of_ble_eq_true hk
   split at h
   case h_2 => cases h
   rename_i hNc
   have hNc := Nat.le_of_ble_eq_true hNc
   split at h
   ·rename_i hcM
    obtain rfl := Nat.eq_of_beq_eq_true hcM
    rw [forceN_is] at h
    refine ⟨_, fun ρ nn df a w R d ty pos af g F hR => ?_, h⟩
    have := hx ρ nn df a F
    generalize hq : a.eval x = u at this
    cases this
    rename_i r cc hr hle
    rw [capR_lt hk] at hq hle
    refine o_slG hq (blo F) (bhi F) h0 h1 (Int.ofNat_le.2 hNc) (hR _ ?_)
    rw [if_pos (show cap = (Int.ofNat cap).toNat from rfl)]
    show VR ρ _ (.slice (some ⟨r, o, none⟩) (N - cap) (cap - cap))
    rw [Nat.sub_self]
    have := VR.sl (ρ := ρ) (o := o) (n := N - cap) (k := 0) hr (by unfold capR;rw [if_pos (by omega)];omega)
    exact this
   ·rename_i hcM
    have hcM : cap ≠ M := fun e => by rw [e] at hcM;simp at hcM
    rw [forceN_is, forceN_is, forceN_is] at h
    refine ⟨_, fun ρ nn df a w R d ty pos af g F hR => ?_, h⟩
    have := hx ρ nn df a F
    generalize hq : a.eval x = u at this
    cases this
    rename_i r cc hr hle
    rw [capR_lt hk] at hq hle
    refine o_slG hq (blo F) (bhi F) h0 h1 (Int.ofNat_le.2 hNc) (hR _ ?_)
    rw [if_neg (show ¬ cap = (Int.ofNat M).toNat from hcM)]
    show VR ρ _ (.slice (some (Addr.add ⟨r, o, none⟩ (M * i.size))) (N - M) (cap - M))
    rw [addr_add]
    have := VR.sl (ρ := ρ) (o := o + M * i.size) (n := N - M) (k := cap - M) hr (by rw [capR_lt (by omega)];omega)
    rw [capR_lt (by omega)] at this
    exact this
  ·rename_i hk
   have hk : ¬ cap < 9223372036854775808 := fun h' => by
    have := blt_is cap 9223372036854775808
    rw [hk, dqT h'] at this
    cases this
   split at h
   case h_2 => cases h
   rename_i hNl
   have hNl := Nat.le_of_ble_eq_true hNl
   unfold slOpen at h
   split at h
   ·rename_i hM0
    obtain rfl := Nat.eq_of_beq_eq_true hM0
    refine ⟨_, fun ρ nn df a w R d ty pos af g F hR => ?_, h⟩
    have := hx ρ nn df a F
    generalize hq : a.eval x = u at this
    cases this
    rename_i r cc hr hle
    refine o_slG hq (blo F) (bhi F) h0 h1 (Int.ofNat_le.2 (Nat.le_trans hNl hle)) (hR _ ?_)
    have e1 : (if capR cc cap = (Int.ofNat 0).toNat then (some ⟨r, o, none⟩ : Option Addr) else (some ⟨r, o, none⟩ : Option Addr).map (·.add ((Int.ofNat 0).toNat * i.size))) = some ⟨r, o, none⟩ := by
     split
     ·rfl
     ·show some (Addr.add ⟨r, o, none⟩ (0 * i.size)) = _
      rw [addr_add]
      simp
    rw [e1]
    have := VR.sl (ρ := ρ) (o := o) (n := N) (k := cap) hr (Nat.le_trans hNl hle)
    exact this
   ·split at h
    ·rename_i hMl
     have hMl : M < len := Nat.le_of_ble_eq_true hMl
     split at h
     case h_2 => cases h
     rename_i hcM
     simp only [Bool.and_eq_true] at hcM
     have hb := Nat.le_of_ble_eq_true hcM.2
     have hcM := Nat.le_of_ble_eq_true hcM.1
     rw [forceN_is, forceN_is, forceN_is] at h
     refine ⟨_, fun ρ nn df a w R d ty pos af g F hR => ?_, h⟩
     have := hx ρ nn df a F
     generalize hq : a.eval x = u at this
     cases this
     rename_i r cc hr hle
     have hcap : capR cc (cap - M) = capR cc cap - M := capR_sub hcM hb
     refine o_slG hq (blo F) (bhi F) h0 h1 (Int.ofNat_le.2 (Nat.le_trans hNl hle)) (hR _ ?_)
     rw [if_neg (show ¬ capR cc cap = (Int.ofNat M).toNat by show ¬ capR cc cap = M;omega)]
     show VR ρ _ (.slice (some (Addr.add ⟨r, o, none⟩ (M * i.size))) (N - M) (capR cc cap - M))
     rw [addr_add, ← hcap]
     exact VR.sl hr (by rw [hcap];omega)
    ·split at h
     case h_2 => cases h
     rename_i hNM
     obtain rfl := Nat.eq_of_beq_eq_true hNM
     refine ⟨_, fun ρ nn df a w R d ty pos af g F hR => ?_, h⟩
     have := hx ρ nn df a F
     generalize hq : a.eval x = u at this
     cases this
     rename_i r cc hr hle
     refine o_slG hq (blo F) (bhi F) h0 h1 (Int.ofNat_le.2 (Nat.le_trans hNl hle)) (hR _ ?_)
     show VR ρ _ (.slice _ (N - N) _)
     rw [Nat.sub_self]
     split
     ·exact .slE _ _
     ·exact .slE _ _
 ·-- nil
  split at h
  case h_2 => cases h
  rename_i hN0
  obtain rfl := Nat.eq_of_beq_eq_true hN0
  obtain rfl : M = 0 := by omega
  split at h
  case h_2 => cases h
  rename_i hc0
  obtain rfl := Nat.eq_of_beq_eq_true hc0
  refine ⟨_, fun ρ nn df a w R d ty pos af g F hR => ?_, h⟩
  have := hx ρ nn df a F
  generalize hq : a.eval x = u at this
  cases this
  refine o_slG hq (blo F) (bhi F) h0 h1 (Int.ofNat_le.2 (Nat.le_refl _)) (hR _ ?_)
  exact .sl0 0 0
 ·cases h
omit Y in
theorem o_slA {P : Program} {ρ : Operand → Value} {w : World} {R : Value → World → Prop} {d : Option Tmp} {ty : TypeId} {pos : String} {af : Array Edge} {g : Option (Nat × Bool)} {tt e : TypeId} {x : Operand} {lo hi : Option Operand} {b o len sz : Nat} {m n : Int} (hx : ρ x = .pointer (some ⟨b, o, none⟩)) (hlo : (lo = none ∧ m = 0) ∨ ∃ i k, lo = some i ∧ ρ i = .int k m) (hhi : (hi = none ∧ n = len) ∨ ∃ j k, hi = some j ∧ ρ j = .int k n)
  [ht : TU P tt (.array len e)] [hs : TSz P e sz] (h0 : 0 ≤ m) (h1 : m ≤ n) (h2 : n ≤ len) (h3 : m < len) (h : R (.slice (some ⟨b, o + m.toNat * sz, none⟩) (n.toNat - m.toNat) (len - m.toNat)) w) : OpTo P ⟨d, .slice tt x lo hi none, ty, pos, af, g⟩ ρ w R := by
 have h4 : 0 ≤ n := by omega
 have h5 : ¬ max n 0 < m := by omega
 have h6 : ¬ len = m.toNat := by omega
 have h7 : m ≤ len := by omega
 have h8 : 0 < len := by omega
 have h9 : ¬ len = 0 := by omega
 rcases hlo with ⟨rfl, rfl⟩ | ⟨i, k, rfl, ei⟩ <;> rcases hhi with ⟨rfl, rfl⟩ | ⟨j, k', rfl, ej⟩ <;> refine OpTo.val (w' := w) ?_ h <;> simp_all [execOp, Instr.sliceAt, Instr.sureAddr, Instr.slice, Instr.sliceBounds, Instr.sliceBound, asIntOf, run_underlying ht.h, run_sizeOf hs.h, addr_add]
theorem slAK_ok {tt : TypeId} {x : Operand} {lo hi : Option Operand} {v : Value} {m n : Option Int} {c : Value → Bool} (hx : OpdR t x v) (hm : BndR t lo m) (hn : BndR t hi n) (h : slAK P tt v m n c = true) : ∃ v', OpS P t (.slice tt x lo hi none) v' ∧ c v' = true := by
 unfold slAK at h
 split at h
 case h_2 => cases h
 rename_i len e hu
 haveI : TU P tt (.array len e) := ⟨hu⟩
 split at h
 case h_2 => cases h
 rename_i i hi'
 haveI : TSz P e i.size := ⟨sizeIs_of hi'⟩
 split at h
 case h_2 => cases h
 rename_i b o
 split at h
 case h_2 => cases h
 rename_i M N hM hN
 split at h
 case h_2 => cases h
 rename_i hq
 simp only [Bool.and_eq_true, blt_is, decide_eq_true_eq] at hq
 obtain ⟨⟨⟨q1, q2⟩, q3⟩, q4⟩ := hq
 have q1 := Nat.le_of_ble_eq_true q1
 have q2 := Nat.le_of_ble_eq_true q2
 rw [forceN_is, forceN_is, forceN_is] at h
 have blo : ∀ {ρ : Rl} {nn : Nat} {df : List Deferred} {a : Act}, FrR ρ nn df t a → (lo = none ∧ (Int.ofNat M) = 0) ∨ ∃ i k, lo = some i ∧ a.eval i = .int k (Int.ofNat M) := fun F => by
  rcases hm with ⟨h1, h2⟩ | ⟨y, k, q, h1, h2, h4, h3⟩
  ·subst h2
   exact .inl ⟨h1, hM.symm⟩
  ·subst h2
   refine .inr ⟨y, k, h1, ?_⟩
   rw [← hM, h3.int F, h4]
   rfl
 have bhi : ∀ {ρ : Rl} {nn : Nat} {df : List Deferred} {a : Act}, FrR ρ nn df t a → (hi = none ∧ (Int.ofNat N) = len) ∨ ∃ i k, hi = some i ∧ a.eval i = .int k (Int.ofNat N) := fun F => by
  rcases hn with ⟨h1, h2⟩ | ⟨y, k, q, h1, h2, h4, h3⟩
  ·subst h2
   exact .inl ⟨h1, hN.symm⟩
  ·subst h2
   refine .inr ⟨y, k, h1, ?_⟩
   rw [← hN, h3.int F, h4]
   rfl
 refine ⟨_, fun ρ nn df a w R d ty pos af g F hR => ?_, h⟩
 have := hx ρ nn df a F
 generalize hq : a.eval x = u at this
 cases this
 rename_i r cc hr
 refine o_slA hq (blo F) (bhi F) (Int.natCast_nonneg _) (Int.ofNat_le.2 q1) (Int.ofNat_le.2 q2) (Int.ofNat_lt.2 q3) (hR _ ?_)
 show VR ρ _ (.slice (some ⟨r, o + M * i.size, none⟩) (N - M) (len - M))
 have := VR.sl (ρ := ρ) (o := o + M * i.size) (n := N - M) (k := len - M) hr (by rw [capR_lt (by omega)];omega)
 rw [capR_lt (by omega)] at this
 exact this
end Go.Proofs.YtfhkmgcalcfibaaGreat

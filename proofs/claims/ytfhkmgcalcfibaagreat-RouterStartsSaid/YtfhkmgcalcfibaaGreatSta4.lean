/-
  Texts joined.
-/
import Derived.Test.YtfhkmgcalcfibaaGreatSta3
set_option linter.unusedVariables false
set_option linter.unusedSimpArgs false
set_option maxHeartbeats 64000000
namespace Go.Proofs.YtfhkmgcalcfibaaGreat
open Go.RowKit
attribute [local irreducible] OpTo wpListIn Code.wpIn MW Cal
theorem qisTime_c (t : Int) (W : World) : Cal Tryz.prog 194 [.int .i64 t].toArray W fun v w' => v = .bool (isTime t) ∧ Ext [] W w' := by
 unfold isTime
 by_cases h : 0 ≤ t
 ·rw [dqT h, Bool.true_and]
  have h1 := dqT h
  exact g_start (n := 9) (S := []) fldT_ok slcT_ok Tryz.func194 rfl rfl rfl (gR 10 rfl (g_know 5 rfl (dqT (by omega)) (gR 7 rfl (g_ret1 rfl rfl rfl fun w M => ⟨rfl, M.ext⟩))))
 ·rw [dqF h, Bool.false_and]
  have h1 := dqF h
  exact g_start (n := 9) (S := []) fldT_ok slcT_ok Tryz.func194 rfl rfl rfl (gR 10 rfl (g_know 5 rfl (dqF (by omega)) (gR 7 rfl (g_ret1 rfl rfl rfl fun w M => ⟨rfl, M.ext⟩))))
theorem oisTime_c (t : Int) (W : World) : Cal Tryz.prog 65 [.int .i64 t].toArray W fun v w' => v = .bool (isTime t) ∧ Ext [] W w' := by
 unfold isTime
 by_cases h : 0 ≤ t
 ·rw [dqT h, Bool.true_and]
  have h1 := dqT h
  exact g_start (n := 9) (S := []) fldT_ok slcT_ok Tryz.func65 rfl rfl rfl (gR 10 rfl (g_know 5 rfl (dqT (by omega)) (gR 7 rfl (g_ret1 rfl rfl rfl fun w M => ⟨rfl, M.ext⟩))))
 ·rw [dqF h, Bool.false_and]
  have h1 := dqF h
  exact g_start (n := 9) (S := []) fldT_ok slcT_ok Tryz.func65 rfl rfl rfl (gR 10 rfl (g_know 5 rfl (dqF (by omega)) (gR 7 rfl (g_ret1 rfl rfl rfl fun w M => ⟨rfl, M.ext⟩))))
def orgD (self : Int) (o : OrgV) : DstV := ⟨o.dip, o.dbits, o.sip, o.sbits, self⟩
theorem dv_mkOg (self : Int) (o : OrgV) (h : IsDv (orgD self o)) : putAll [(0, 17), (17, 17), (34, 1)] dvZ [(0, pfC o.dip o.dbits), (1, pfC o.sip o.sbits), (2, [.int .u64 self])] = some (dvC (orgD self o)) := dv_build h
theorem orgD_is {self : Int} {o : OrgV} (h : IsOg o) : IsDv (orgD self o) := h
theorem odest_c (self : Int) (o : OrgV) (ho : IsOg o) (W : World) : Cal Tryz.prog 88 [.int .u64 self, .agg (ogC o).toArray].toArray W fun v w' => v = .agg (dvC (orgD self o)).toArray ∧ Ext [] W w' := by
 have hd : IsDv (orgD self o) := ho
 refine g_start (n := 11) (S := []) fldT_ok slcT_ok Tryz.func88 rfl rfl rfl (gR 2 rfl (g_box rfl rfl fun b3 => g_alloc fun b4 => gR 5 rfl (g_ldA 1 rfl rfl (og_dst ‹_›) ?_)))
 refine gR 1 rfl (g_ldA 1 rfl rfl (og_src ‹_›) ?_)
 refine gR 1 rfl (g_v (fun a w F M R r => o_build F rfl (dv_mkOg _ _ ‹_›) r) ?_)
 refine g_stA 0 rfl rfl (dv_len ‹_›) (dv_one _) rfl (put_all (by rw [dv_len ‹_›];first | rfl | rw [dv_len ‹_›])) rfl ?_
 refine gR 3 rfl (g_retC 0 rfl rfl rfl rfl (dv_all ‹_›) fun w M => ?_)
 exact ⟨rfl, M.ext⟩
theorem rown_c (self : Int) (o : OrgV) (ho : IsOg o) (W : World) : Cal Tryz.prog 91 [.int .u64 self, .agg (ogC o).toArray].toArray W fun v w' => v = .agg (dvC (orgD self o)).toArray ∧ Ext [] W w' := by
 have hd : IsDv (orgD self o) := ho
 refine g_start (n := 11) (S := []) fldT_ok slcT_ok Tryz.func91 rfl rfl rfl (gR 2 rfl (g_box rfl rfl fun b3 => g_alloc fun b4 => gR 5 rfl (g_ldA 1 rfl rfl (og_dst ‹_›) ?_)))
 refine gR 1 rfl (g_ldA 1 rfl rfl (og_src ‹_›) ?_)
 refine gR 1 rfl (g_v (fun a w F M R r => o_build F rfl (dv_mkOg _ _ ‹_›) r) ?_)
 refine g_stA 0 rfl rfl (dv_len ‹_›) (dv_one _) rfl (put_all (by rw [dv_len ‹_›];first | rfl | rw [dv_len ‹_›])) rfl ?_
 refine gR 3 rfl (g_retC 0 rfl rfl rfl rfl (dv_all ‹_›) fun w M => ?_)
 exact ⟨rfl, M.ext⟩
def req1 (r : ReqV) : Bool := validT r.to && decide (1 ≤ r.hops) && decide (r.hops ≤ 32) && isTime r.next && decide (1 ≤ r.left) && decide (r.left ≤ 3)
def cmpRq (a b : ReqV) : Int := cmpD a.to b.to
def validRqs (l : List ReqV) : Bool := vldL 64 req1 cmpRq l
def org1 (self : Int) (o : OrgV) : Bool := validT (orgD self o)
def cmpOg (self : Int) (a b : OrgV) : Int := cmpD (orgD self a) (orgD self b)
def validOgs (self : Int) (l : List OrgV) : Bool := vldL 8 (org1 self) (cmpOg self) l
def adj1 (self : Int) (a : AdjV) : Bool := !decide (a.nb = 0) && !decide (a.nb = self) && quValid a.q && a.q.known && isTime a.til && isTime a.ans
def cmpAj (a b : AdjV) : Int := a.nb - b.nb
def validAjs (self : Int) (l : List AdjV) : Bool := vldL 16 (adj1 self) cmpAj l
theorem rqvalidQ_c (l : List ReqV) (hx : ∀ x ∈ l, IsRq x) (v : Value) (W : World) (hS : SlAt W 40 v l.length (rqsC l)) :
  Cal Tryz.prog 106 [v].toArray W fun r w' => r = .bool (validRqs l) ∧ Ext [] W w' := by
 obtain ⟨q, cap, rfl, _⟩ := id hS
 have hm := hS.memB [] (by simp)
 unfold validRqs
 generalize hV : vldL 64 req1 cmpRq l = b0
 refine g_start (n := 60) (S := []) fldT_ok slcT_ok Tryz.func106 rfl rfl rfl ?_
 by_cases c0 : 64 < l.length
 ·refine gR 13 rfl ?_
  exact g_ifT rfl (dqT (by omega)) (gR 7 rfl (g_ret1 rfl rfl rfl fun w M => vl_L hV c0 M.ext))
 refine gR 13 rfl (g_ifF rfl (dqF (by omega)) (gR 11 rfl (g_loop (ι := Nat) ⟨fun (i : Nat) => l.length - i, fun (i : Nat) => i ≤ l.length ∧ (∀ j, j < i → vld1 req1 cmpRq l j = true), fun (i : Nat) => [(10, .int .i64 i), (9, .int .i64 l.length), (8, .slice q l.length cap), (0, .slice q l.length cap)], fun (i : Nat) => []⟩ 0 ⟨by omega, by omega⟩ (fun a F => F.only [10, 9, 8, 0] rfl) (by repeat (first | exact .refl _ | apply sC2 | apply sC1)) ?_)))
 rintro i ⟨hi_i, hv⟩
 by_cases hlt_i : i < l.length
 ·obtain ⟨b, o, cs, t', fz, rfl, hb, hs⟩ := hm (by omega)
  obtain ⟨x, hx0⟩ : ∃ x, x = l[i] := ⟨_, rfl⟩
  have hxm : x ∈ l := by rw [hx0];exact List.getElem_mem hlt_i
  have hxi : IsRq x := hx _ hxm
  have f1 : seg cs (o + (i : Int).toNat * 40) 40 = some (rqC x) := by rw [hx0];exact seg_el (rqs_len hx) hs hlt_i (by omega)
  replace hx0 := hx0.symm
  have xd : IsDv x.to := hxi
  refine gR 6 rfl (g_ifT rfl (dqT (by omega)) (gR 7 rfl (g_ixS rfl rfl (by omega) (by omega) (g_leA rfl ‹_› (by with_reducible assumption) ?_))))
  refine g_alloc fun b4 => gR 1 rfl (g_stA 0 rfl rfl (rq_len ‹_›) (rq_one _) rfl (put_all (by rw [rq_len ‹_›];first | rfl | rw [rq_len ‹_›])) rfl ?_)
  refine gR 6 rfl (g_ldA 0 rfl rfl (rq_to ‹_›) ?_)
  refine g_call rfl rfl (fun w M => validTo_c _ ‹_› _) ?_
  refine gR 2 rfl (g_split 19 rfl (fun h1 => ?_) (fun h1 => ?_))
  ·replace h1 := false_of_not h1
   refine gR 37 rfl (g_outR (gR 2 rfl (g_ret1 rfl rfl rfl fun w M => ?_)))
   exact vl_F hV hlt_i hx0.symm (by first | assumption | (unfold req1;simp [*];done) | (unfold req1;simp [*] <;> omega) | (unfold req1;simp;omega)) M.ext
  replace h1 := true_of_not h1
  refine gR 1 rfl (g_ld1 0 rfl rfl (rq_hops ‹_›) ?_)
  refine gR 3 rfl (g_split 24 rfl (fun h2 => ?_) (fun h2 => ?_))
  ·replace h2 := dqU h2
   refine gR 32 rfl (g_outR (gR 2 rfl (g_ret1 rfl rfl rfl fun w M => ?_)))
   exact vl_F hV hlt_i hx0.symm (by first | assumption | (unfold req1;simp [*];done) | (unfold req1;simp [*] <;> omega) | (unfold req1;simp;omega)) M.ext
  replace h2 := dqV h2
  refine gR 1 rfl (g_ld1 0 rfl rfl (rq_hops ‹_›) ?_)
  refine gR 3 rfl (g_split 29 rfl (fun h3 => ?_) (fun h3 => ?_))
  ·replace h3 := dqU h3
   refine gR 27 rfl (g_outR (gR 2 rfl (g_ret1 rfl rfl rfl fun w M => ?_)))
   exact vl_F hV hlt_i hx0.symm (by first | assumption | (unfold req1;simp [*];done) | (unfold req1;simp [*] <;> omega) | (unfold req1;simp;omega)) M.ext
  replace h3 := dqV h3
  refine gR 1 rfl (g_ld1 0 rfl rfl (rq_next ‹_›) ?_)
  refine g_call rfl rfl (fun w M => qisTime_c _ _) (gR 3 rfl (g_split 35 rfl (fun h4 => ?_) (fun h4 => ?_)))
  ·replace h4 := false_of_not h4
   refine gR 21 rfl (g_outR (gR 2 rfl (g_ret1 rfl rfl rfl fun w M => ?_)))
   exact vl_F hV hlt_i hx0.symm (by first | assumption | (unfold req1;simp [*];done) | (unfold req1;simp [*] <;> omega) | (unfold req1;simp;omega)) M.ext
  replace h4 := true_of_not h4
  refine gR 1 rfl (g_ld1 0 rfl rfl (rq_left ‹_›) ?_)
  refine gR 3 rfl (g_split 40 rfl (fun h5 => ?_) (fun h5 => ?_))
  ·replace h5 := dqU h5
   refine gR 16 rfl (g_outR (gR 2 rfl (g_ret1 rfl rfl rfl fun w M => ?_)))
   exact vl_F hV hlt_i hx0.symm (by first | assumption | (unfold req1;simp [*];done) | (unfold req1;simp [*] <;> omega) | (unfold req1;simp;omega)) M.ext
  replace h5 := dqV h5
  refine gR 1 rfl (g_ld1 0 rfl rfl (rq_left ‹_›) ?_)
  refine gR 4 rfl (g_if rfl (fun h6 => ?_) (fun h6 => ?_))
  ·replace h6 := dqU h6
   refine gR 9 rfl (g_outR (gR 2 rfl (g_ret1 rfl rfl rfl fun w M => ?_)))
   exact vl_F hV hlt_i hx0.symm (by first | assumption | (unfold req1;simp [*];done) | (unfold req1;simp [*] <;> omega) | (unfold req1;simp;omega)) M.ext
  replace h6 := dqV h6
  refine gR 2 rfl ?_
  by_cases hi0 : 0 < i
  ·obtain ⟨y, hy0⟩ : ∃ y, y = l[i - 1]'(by omega) := ⟨_, rfl⟩
   have yI : IsRq y := by rw [hy0];exact hx _ (List.getElem_mem _)
   have f2 : seg cs (o + ((i : Int) - 1).toNat * 40) 40 = some (rqC y) := by rw [hy0];exact seg_el (rqs_len hx) hs (show i - 1 < l.length by omega) (by omega)
   replace hy0 := hy0.symm
   have yd : IsDv y.to := yI
   refine gR 1 rfl (g_draw 14 60 rfl (by kernel_rfl) (fR 3 rfl (fd_know 47 rfl (dqT (by omega)) (fR 2 rfl (fd_sub rfl rfl (w_i64 (by omega) (by omega)) (fd_ixS rfl rfl (by omega) (by omega) (fR 1 rfl (fd_leA rfl ‹_› (sg_seg f2 (rq_to ‹_›) (by omega)) ?_))))))))
   refine fR 1 rfl (fd_ldA 0 rfl rfl (rq_to ‹_›) ?_)
   refine fd_call rfl rfl (fun w M => scompare_c _ _ ‹_› ‹_› _) ?_
   refine fR 2 rfl (fd_done rfl rfl (gR 2 rfl (g_if rfl (fun h1 => ?_) (fun h1 => ?_))))
   ·replace h1 := dqU h1
    exact gR 8 rfl (g_outR (gR 2 rfl (g_ret1 rfl rfl rfl fun w M => vl_S hV hlt_i hi0 hx0.symm hy0.symm (by unfold cmpRq;omega) M.ext)))
   ·replace h1 := dqV h1
    refine gR 4 rfl (g_add rfl rfl (w_i64 (by omega) (by omega)) (gR 2 rfl ?_))
    exact g_next (i + 1) ⟨by omega, vl_N hlt_i hx0.symm hv (by first | assumption | (unfold req1;simp [*];done) | (unfold req1;simp [*] <;> omega) | (unfold req1;simp;omega)) fun _ => by rw [hy0];exact (by unfold cmpRq;omega)⟩ (by dsimp only;omega) (fun a F => F.only [10, 9, 8, 0] rfl) (by (try dsimp only);repeat (first | exact .refl _ | with_reducible exact sC0 _ | with_reducible apply sC2 | apply sC1))
  ·refine gR 1 rfl ?_
   refine g_draw 14 60 rfl (by kernel_rfl) (fR 3 rfl (fd_know 47 rfl (dqF (by omega)) (fR 11 rfl (fd_done rfl rfl (gR 7 rfl (g_add rfl rfl (w_i64 (by omega) (by omega)) (gR 2 rfl ?_)))))))
   exact g_next (i + 1) ⟨by omega, vl_N hlt_i hx0.symm hv (by first | assumption | (unfold req1;simp [*];done) | (unfold req1;simp [*] <;> omega) | (unfold req1;simp;omega)) fun h => absurd h hi0⟩ (by dsimp only;omega) (fun a F => F.only [10, 9, 8, 0] rfl) (by (try dsimp only);repeat (first | exact .refl _ | with_reducible exact sC0 _ | with_reducible apply sC2 | apply sC1))
 ·have hil : i = l.length := by omega
  rw [hil] at hv
  exact gR 6 rfl (g_ifF rfl (dqF (by omega)) (gR 2 rfl (g_outX (gR 8 rfl (g_ret1 rfl rfl rfl fun w M => vl_T hV (by omega) hv M.ext)))))
theorem refvalidQ_c (l : List ReqV) (hx : ∀ x ∈ l, IsRq x) (v : Value) (W : World) (hS : SlAt W 40 v l.length (rqsC l)) :
  Cal Tryz.prog 116 [v].toArray W fun r w' => r = .bool (validRqs l) ∧ Ext [] W w' := by
 obtain ⟨q, cap, rfl, _⟩ := id hS
 have hm := hS.memB [] (by simp)
 unfold validRqs
 generalize hV : vldL 64 req1 cmpRq l = b0
 refine g_start (n := 62) (S := []) fldT_ok slcT_ok Tryz.func116 rfl rfl rfl ?_
 by_cases c0 : 64 < l.length
 ·refine gR 13 rfl ?_
  exact g_ifT rfl (dqT (by omega)) (gR 7 rfl (g_ret1 rfl rfl rfl fun w M => vl_L hV c0 M.ext))
 refine gR 13 rfl (g_ifF rfl (dqF (by omega)) (gR 11 rfl (g_loop (ι := Nat) ⟨fun (i : Nat) => l.length - i, fun (i : Nat) => i ≤ l.length ∧ (∀ j, j < i → vld1 req1 cmpRq l j = true), fun (i : Nat) => [(10, .int .i64 i), (9, .int .i64 l.length), (8, .slice q l.length cap), (0, .slice q l.length cap)], fun (i : Nat) => []⟩ 0 ⟨by omega, by omega⟩ (fun a F => F.only [10, 9, 8, 0] rfl) (by repeat (first | exact .refl _ | apply sC2 | apply sC1)) ?_)))
 rintro i ⟨hi_i, hv⟩
 by_cases hlt_i : i < l.length
 ·obtain ⟨b, o, cs, t', fz, rfl, hb, hs⟩ := hm (by omega)
  obtain ⟨x, hx0⟩ : ∃ x, x = l[i] := ⟨_, rfl⟩
  have hxm : x ∈ l := by rw [hx0];exact List.getElem_mem hlt_i
  have hxi : IsRq x := hx _ hxm
  have f1 : seg cs (o + (i : Int).toNat * 40) 40 = some (rqC x) := by rw [hx0];exact seg_el (rqs_len hx) hs hlt_i (by omega)
  replace hx0 := hx0.symm
  have xd : IsDv x.to := hxi
  refine gR 6 rfl (g_ifT rfl (dqT (by omega)) (gR 14 rfl (g_ixS rfl rfl (by omega) (by omega) (g_leA rfl ‹_› (by with_reducible assumption) ?_))))
  refine g_alloc fun b4 => g_stA 0 rfl rfl (rq_len ‹_›) (rq_one _) rfl (put_all (by rw [rq_len ‹_›];first | rfl | rw [rq_len ‹_›])) rfl ?_
  refine gR 6 rfl (g_ldA 0 rfl rfl (rq_to ‹_›) ?_)
  refine g_call rfl rfl (fun w M => rvalidTo_c _ ‹_› _) ?_
  refine gR 2 rfl (g_split 21 rfl (fun h1 => ?_) (fun h1 => ?_))
  ·replace h1 := false_of_not h1
   refine gR 37 rfl (g_outR (gR 2 rfl (g_ret1 rfl rfl rfl fun w M => ?_)))
   exact vl_F hV hlt_i hx0.symm (by first | assumption | (unfold req1;simp [*];done) | (unfold req1;simp [*] <;> omega) | (unfold req1;simp;omega)) M.ext
  replace h1 := true_of_not h1
  refine gR 1 rfl (g_ld1 0 rfl rfl (rq_hops ‹_›) ?_)
  refine gR 3 rfl (g_split 26 rfl (fun h2 => ?_) (fun h2 => ?_))
  ·replace h2 := dqU h2
   refine gR 32 rfl (g_outR (gR 2 rfl (g_ret1 rfl rfl rfl fun w M => ?_)))
   exact vl_F hV hlt_i hx0.symm (by first | assumption | (unfold req1;simp [*];done) | (unfold req1;simp [*] <;> omega) | (unfold req1;simp;omega)) M.ext
  replace h2 := dqV h2
  refine gR 1 rfl (g_ld1 0 rfl rfl (rq_hops ‹_›) ?_)
  refine gR 3 rfl (g_split 31 rfl (fun h3 => ?_) (fun h3 => ?_))
  ·replace h3 := dqU h3
   refine gR 27 rfl (g_outR (gR 2 rfl (g_ret1 rfl rfl rfl fun w M => ?_)))
   exact vl_F hV hlt_i hx0.symm (by first | assumption | (unfold req1;simp [*];done) | (unfold req1;simp [*] <;> omega) | (unfold req1;simp;omega)) M.ext
  replace h3 := dqV h3
  refine gR 1 rfl (g_ld1 0 rfl rfl (rq_next ‹_›) ?_)
  refine g_call rfl rfl (fun w M => risTime_c _ _) (gR 3 rfl (g_split 37 rfl (fun h4 => ?_) (fun h4 => ?_)))
  ·replace h4 := false_of_not h4
   refine gR 21 rfl (g_outR (gR 2 rfl (g_ret1 rfl rfl rfl fun w M => ?_)))
   exact vl_F hV hlt_i hx0.symm (by first | assumption | (unfold req1;simp [*];done) | (unfold req1;simp [*] <;> omega) | (unfold req1;simp;omega)) M.ext
  replace h4 := true_of_not h4
  refine gR 1 rfl (g_ld1 0 rfl rfl (rq_left ‹_›) ?_)
  refine gR 3 rfl (g_split 42 rfl (fun h5 => ?_) (fun h5 => ?_))
  ·replace h5 := dqU h5
   refine gR 16 rfl (g_outR (gR 2 rfl (g_ret1 rfl rfl rfl fun w M => ?_)))
   exact vl_F hV hlt_i hx0.symm (by first | assumption | (unfold req1;simp [*];done) | (unfold req1;simp [*] <;> omega) | (unfold req1;simp;omega)) M.ext
  replace h5 := dqV h5
  refine gR 1 rfl (g_ld1 0 rfl rfl (rq_left ‹_›) ?_)
  refine gR 4 rfl (g_if rfl (fun h6 => ?_) (fun h6 => ?_))
  ·replace h6 := dqU h6
   refine gR 9 rfl (g_outR (gR 2 rfl (g_ret1 rfl rfl rfl fun w M => ?_)))
   exact vl_F hV hlt_i hx0.symm (by first | assumption | (unfold req1;simp [*];done) | (unfold req1;simp [*] <;> omega) | (unfold req1;simp;omega)) M.ext
  replace h6 := dqV h6
  refine gR 2 rfl ?_
  by_cases hi0 : 0 < i
  ·obtain ⟨y, hy0⟩ : ∃ y, y = l[i - 1]'(by omega) := ⟨_, rfl⟩
   have yI : IsRq y := by rw [hy0];exact hx _ (List.getElem_mem _)
   have f2 : seg cs (o + ((i : Int) - 1).toNat * 40) 40 = some (rqC y) := by rw [hy0];exact seg_el (rqs_len hx) hs (show i - 1 < l.length by omega) (by omega)
   replace hy0 := hy0.symm
   have yd : IsDv y.to := yI
   refine gR 1 rfl (g_draw 14 62 rfl (by kernel_rfl) (fR 3 rfl (fd_know 49 rfl (dqT (by omega)) (fR 2 rfl (fd_sub rfl rfl (w_i64 (by omega) (by omega)) (fd_ixS rfl rfl (by omega) (by omega) (fR 1 rfl (fd_leA rfl ‹_› (sg_seg f2 (rq_to ‹_›) (by omega)) ?_))))))))
   refine fR 1 rfl (fd_ldA 0 rfl rfl (rq_to ‹_›) ?_)
   refine fd_call rfl rfl (fun w M => rcompare_c _ _ ‹_› ‹_› _) ?_
   refine fR 2 rfl (fd_done rfl rfl (gR 2 rfl (g_if rfl (fun h1 => ?_) (fun h1 => ?_))))
   ·replace h1 := dqU h1
    exact gR 8 rfl (g_outR (gR 2 rfl (g_ret1 rfl rfl rfl fun w M => vl_S hV hlt_i hi0 hx0.symm hy0.symm (by unfold cmpRq;omega) M.ext)))
   ·replace h1 := dqV h1
    refine gR 4 rfl (g_add rfl rfl (w_i64 (by omega) (by omega)) (gR 2 rfl ?_))
    exact g_next (i + 1) ⟨by omega, vl_N hlt_i hx0.symm hv (by first | assumption | (unfold req1;simp [*];done) | (unfold req1;simp [*] <;> omega) | (unfold req1;simp;omega)) fun _ => by rw [hy0];exact (by unfold cmpRq;omega)⟩ (by dsimp only;omega) (fun a F => F.only [10, 9, 8, 0] rfl) (by (try dsimp only);repeat (first | exact .refl _ | with_reducible exact sC0 _ | with_reducible apply sC2 | apply sC1))
  ·refine gR 1 rfl ?_
   refine g_draw 14 62 rfl (by kernel_rfl) (fR 3 rfl (fd_know 49 rfl (dqF (by omega)) (fR 11 rfl (fd_done rfl rfl (gR 7 rfl (g_add rfl rfl (w_i64 (by omega) (by omega)) (gR 2 rfl ?_)))))))
   exact g_next (i + 1) ⟨by omega, vl_N hlt_i hx0.symm hv (by first | assumption | (unfold req1;simp [*];done) | (unfold req1;simp [*] <;> omega) | (unfold req1;simp;omega)) fun h => absurd h hi0⟩ (by dsimp only;omega) (fun a F => F.only [10, 9, 8, 0] rfl) (by (try dsimp only);repeat (first | exact .refl _ | with_reducible exact sC0 _ | with_reducible apply sC2 | apply sC1))
 ·have hil : i = l.length := by omega
  rw [hil] at hv
  exact gR 6 rfl (g_ifF rfl (dqF (by omega)) (gR 2 rfl (g_outX (gR 8 rfl (g_ret1 rfl rfl rfl fun w M => vl_T hV (by omega) hv M.ext)))))
theorem validOgs_c (self : Int) (l : List OrgV) (hx : ∀ x ∈ l, IsOg x) (v : Value) (W : World) (hS : SlAt W 34 v l.length (ogsC l)) :
  Cal Tryz.prog 101 [.int .u64 self, v].toArray W fun r w' => r = .bool (validOgs self l) ∧ Ext [] W w' := by
 obtain ⟨q, cap, rfl, _⟩ := id hS
 have hm := hS.memB [] (by simp)
 unfold validOgs
 generalize hV : vldL 8 (org1 self) (cmpOg self) l = b0
 refine g_start (n := 41) (S := []) fldT_ok slcT_ok Tryz.func101 rfl rfl rfl ?_
 by_cases c0 : 8 < l.length
 ·refine gR 13 rfl ?_
  exact g_ifT rfl (dqT (by omega)) (gR 7 rfl (g_ret1 rfl rfl rfl fun w M => vl_L hV c0 M.ext))
 refine gR 13 rfl (g_ifF rfl (dqF (by omega)) (gR 11 rfl (g_loop (ι := Nat) ⟨fun (i : Nat) => l.length - i, fun (i : Nat) => i ≤ l.length ∧ (∀ j, j < i → vld1 (org1 self) (cmpOg self) l j = true), fun (i : Nat) => [(13, .int .i64 i), (12, .int .i64 l.length), (11, .slice q l.length cap), (1, .slice q l.length cap), (0, .int .u64 self)], fun (i : Nat) => []⟩ 0 ⟨by omega, by omega⟩ (fun a F => F.only [13, 12, 11, 1, 0] rfl) (by repeat (first | exact .refl _ | apply sC2 | apply sC1)) ?_)))
 rintro i ⟨hi_i, hv⟩
 by_cases hlt_i : i < l.length
 ·obtain ⟨b, o, cs, t', fz, rfl, hb, hs⟩ := hm (by omega)
  obtain ⟨x, hx0⟩ : ∃ x, x = l[i] := ⟨_, rfl⟩
  have hxm : x ∈ l := by rw [hx0];exact List.getElem_mem hlt_i
  have hxi : IsOg x := hx _ hxm
  have f1 : seg cs (o + (i : Int).toNat * 34) 34 = some (ogC x) := by rw [hx0];exact seg_el (ogs_len hx) hs hlt_i (by omega)
  replace hx0 := hx0.symm
  have xd : IsDv (orgD self x) := hxi
  by_cases hi0 : 0 < i
  ·obtain ⟨y, hy0⟩ : ∃ y, y = l[i - 1]'(by omega) := ⟨_, rfl⟩
   have yI : IsOg y := by rw [hy0];exact hx _ (List.getElem_mem _)
   have f2 : seg cs (o + ((i : Int) - 1).toNat * 34) 34 = some (ogC y) := by rw [hy0];exact seg_el (ogs_len hx) hs (show i - 1 < l.length by omega) (by omega)
   replace hy0 := hy0.symm
   have yd : IsDv (orgD self y) := yI
   refine gR 6 rfl (g_ifT rfl (dqT (by omega)) (gR 7 rfl (g_ixS rfl rfl (by omega) (by omega) (g_leA rfl ‹_› (by with_reducible assumption) ?_))))
   refine g_alloc fun b6 => gR 1 rfl (g_stA 0 rfl rfl (og_len ‹_›) (og_one _) rfl (put_all (by rw [og_len ‹_›];first | rfl | rw [og_len ‹_›])) rfl ?_)
   refine gR 5 rfl (g_ldA 0 rfl rfl (og_all ‹_›) ?_)
   refine g_call rfl rfl (fun w M => odest_c _ _ ‹_› _) ?_
   refine g_alloc fun b7 => g_stA 0 rfl rfl (dv_len ‹_›) (dv_one _) rfl (put_all (by rw [dv_len ‹_›];first | rfl | rw [dv_len ‹_›])) rfl ?_
   refine gR 3 rfl (g_draw 19 41 rfl (by kernel_rfl) (fd_ldA 0 rfl rfl (dv_all ‹_›) ?_))
   refine fd_call rfl rfl (fun w M => validTo_c _ ‹_› _) ?_
   refine fR 2 rfl (fd_split 24 rfl (fun h1 => ?_) (fun h1 => ?_))
   ·replace h1 := false_of_not h1
    refine fR 15 rfl (fd_done rfl rfl (gR 11 rfl (g_outR (gR 2 rfl (g_ret1 rfl rfl rfl fun w M => ?_)))))
    exact vl_F hV hlt_i hx0.symm (by first | assumption | (unfold org1;simp [*];done) | (unfold org1;simp [*] <;> omega) | (unfold org1;simp;omega)) M.ext
   ·replace h1 := true_of_not h1
    refine fR 3 rfl (fd_know 27 rfl (dqT (by omega)) (fR 3 rfl (fd_sub rfl rfl (w_i64 (by omega) (by omega)) (fd_ixS rfl rfl (by omega) (by omega) (fd_leA rfl ‹_› (by with_reducible assumption) ?_)))))
    refine fd_call rfl rfl (fun w M => odest_c _ _ ‹_› _) ?_
    refine fd_ldA 0 rfl rfl (dv_all ‹_›) ?_
    refine fd_call rfl rfl (fun w M => scompare_c _ _ ‹_› ‹_› _) ?_
    refine fR 3 rfl (fd_done rfl rfl (gR 2 rfl (g_if rfl (fun h2 => ?_) (fun h2 => ?_))))
    ·replace h2 := dqU h2
     exact gR 8 rfl (g_outR (gR 2 rfl (g_ret1 rfl rfl rfl fun w M => vl_S hV hlt_i hi0 hx0.symm hy0.symm (by unfold cmpOg;omega) M.ext)))
    ·replace h2 := dqV h2
     refine gR 4 rfl (g_add rfl rfl (w_i64 (by omega) (by omega)) (gR 2 rfl ?_))
     exact g_next (i + 1) ⟨by omega, vl_N hlt_i hx0.symm hv (by first | assumption | (unfold org1;simp [*];done) | (unfold org1;simp [*] <;> omega) | (unfold org1;simp;omega)) fun _ => by rw [hy0];exact (by unfold cmpOg;omega)⟩ (by dsimp only;omega) (fun a F => F.only [13, 12, 11, 1, 0] rfl) (by (try dsimp only);repeat (first | exact .refl _ | with_reducible exact sC0 _ | with_reducible apply sC2 | apply sC1))
  ·refine gR 6 rfl ?_
   refine g_ifT rfl (dqT (by omega)) (gR 7 rfl (g_ixS rfl rfl (by omega) (by omega) (g_leA rfl ‹_› (by with_reducible assumption) ?_)))
   refine g_alloc fun b6 => gR 1 rfl (g_stA 0 rfl rfl (og_len ‹_›) (og_one _) rfl (put_all (by rw [og_len ‹_›];first | rfl | rw [og_len ‹_›])) rfl ?_)
   refine gR 5 rfl (g_ldA 0 rfl rfl (og_all ‹_›) ?_)
   refine g_call rfl rfl (fun w M => odest_c _ _ ‹_› _) ?_
   refine g_alloc fun b7 => g_stA 0 rfl rfl (dv_len ‹_›) (dv_one _) rfl (put_all (by rw [dv_len ‹_›];first | rfl | rw [dv_len ‹_›])) rfl ?_
   refine gR 3 rfl (g_draw 19 41 rfl (by kernel_rfl) (fd_ldA 0 rfl rfl (dv_all ‹_›) ?_))
   refine fd_call rfl rfl (fun w M => validTo_c _ ‹_› _) ?_
   refine fR 2 rfl (fd_split 24 rfl (fun h1 => ?_) (fun h1 => ?_))
   ·replace h1 := false_of_not h1
    refine fR 15 rfl (fd_done rfl rfl (gR 11 rfl (g_outR (gR 2 rfl (g_ret1 rfl rfl rfl fun w M => ?_)))))
    exact vl_F hV hlt_i hx0.symm (by first | assumption | (unfold org1;simp [*];done) | (unfold org1;simp [*] <;> omega) | (unfold org1;simp;omega)) M.ext
   ·replace h1 := true_of_not h1
    refine fR 3 rfl (fd_know 27 rfl (dqF (by omega)) (fR 12 rfl (fd_done rfl rfl (gR 7 rfl (g_add rfl rfl (w_i64 (by omega) (by omega)) (gR 2 rfl ?_))))))
    exact g_next (i + 1) ⟨by omega, vl_N hlt_i hx0.symm hv (by first | assumption | (unfold org1;simp [*];done) | (unfold org1;simp [*] <;> omega) | (unfold org1;simp;omega)) fun h => absurd h hi0⟩ (by dsimp only;omega) (fun a F => F.only [13, 12, 11, 1, 0] rfl) (by (try dsimp only);repeat (first | exact .refl _ | with_reducible exact sC0 _ | with_reducible apply sC2 | apply sC1))
 ·have hil : i = l.length := by omega
  rw [hil] at hv
  exact gR 6 rfl (g_ifF rfl (dqF (by omega)) (gR 2 rfl (g_outX (gR 8 rfl (g_ret1 rfl rfl rfl fun w M => vl_T hV (by omega) hv M.ext)))))
theorem validAjs_c (self : Int) (l : List AdjV) (hx : ∀ x ∈ l, IsAj x) (hqB : ∀ x ∈ l, BdQu x.q) (v : Value) (W : World) (hS : SlAt W 8 v l.length (ajsC l)) :
  Cal Tryz.prog 102 [.int .u64 self, v].toArray W fun r w' => r = .bool (validAjs self l) ∧ Ext [] W w' := by
 obtain ⟨q, cap, rfl, _⟩ := id hS
 have hm := hS.memB [] (by simp)
 unfold validAjs
 generalize hV : vldL 16 (adj1 self) cmpAj l = b0
 refine g_start (n := 64) (S := []) fldT_ok slcT_ok Tryz.func102 rfl rfl rfl ?_
 by_cases c0 : 16 < l.length
 ·refine gR 13 rfl ?_
  exact g_ifT rfl (dqT (by omega)) (gR 7 rfl (g_ret1 rfl rfl rfl fun w M => vl_L hV c0 M.ext))
 refine gR 13 rfl (g_ifF rfl (dqF (by omega)) (gR 11 rfl (g_loop (ι := Nat) ⟨fun (i : Nat) => l.length - i, fun (i : Nat) => i ≤ l.length ∧ (∀ j, j < i → vld1 (adj1 self) cmpAj l j = true), fun (i : Nat) => [(12, .int .i64 i), (11, .int .i64 l.length), (10, .slice q l.length cap), (1, .slice q l.length cap), (0, .int .u64 self)], fun (i : Nat) => []⟩ 0 ⟨by omega, by omega⟩ (fun a F => F.only [12, 11, 10, 1, 0] rfl) (by repeat (first | exact .refl _ | apply sC2 | apply sC1)) ?_)))
 rintro i ⟨hi_i, hv⟩
 by_cases hlt_i : i < l.length
 ·obtain ⟨b, o, cs, t', fz, rfl, hb, hs⟩ := hm (by omega)
  obtain ⟨x, hx0⟩ : ∃ x, x = l[i] := ⟨_, rfl⟩
  have hxm : x ∈ l := by rw [hx0];exact List.getElem_mem hlt_i
  have hxi : IsAj x := hx _ hxm
  have f1 : seg cs (o + (i : Int).toNat * 8) 8 = some (ajC x) := by rw [hx0];exact seg_el (ajs_len hx) hs hlt_i (by omega)
  replace hx0 := hx0.symm
  have hbq := hqB _ hxm
  refine gR 6 rfl (g_ifT rfl (dqT (by omega)) (gR 7 rfl (g_ixS rfl rfl (by omega) (by omega) (g_leA rfl ‹_› (by with_reducible assumption) ?_))))
  refine g_alloc fun b6 => gR 1 rfl (g_stA 0 rfl rfl (aj_len ‹_›) (aj_one _) rfl (put_all (by rw [aj_len ‹_›];first | rfl | rw [aj_len ‹_›])) rfl ?_)
  refine gR 6 rfl (g_ld1 0 rfl rfl (aj_nb ‹_›) ?_)
  refine gR 2 rfl (g_split 20 rfl (fun h1 => ?_) (fun h1 => ?_))
  ·replace h1 := dqU h1
   refine gR 41 rfl (g_outR (gR 2 rfl (g_ret1 rfl rfl rfl fun w M => ?_)))
   exact vl_F hV hlt_i hx0.symm (by first | assumption | (unfold adj1;simp [*];done) | (unfold adj1;simp [*] <;> omega) | (unfold adj1;simp;omega)) M.ext
  replace h1 := dqV h1
  refine gR 1 rfl (g_ld1 0 rfl rfl (aj_nb ‹_›) ?_)
  refine gR 4 rfl (g_split 26 rfl (fun h2 => ?_) (fun h2 => ?_))
  ·replace h2 := dqU h2
   refine gR 35 rfl (g_outR (gR 2 rfl (g_ret1 rfl rfl rfl fun w M => ?_)))
   exact vl_F hV hlt_i hx0.symm (by first | assumption | (unfold adj1;simp [*];done) | (unfold adj1;simp [*] <;> omega) | (unfold adj1;simp;omega)) M.ext
  replace h2 := dqV h2
  refine gR 1 rfl (g_ldA 0 rfl rfl (aj_q ‹_›) ?_)
  refine g_call rfl rfl (fun w M => qvalid_c _ ‹_› _) ?_
  refine gR 3 rfl (g_split 32 rfl (fun h3 => ?_) (fun h3 => ?_))
  ·replace h3 := false_of_not h3
   refine gR 29 rfl (g_outR (gR 2 rfl (g_ret1 rfl rfl rfl fun w M => ?_)))
   exact vl_F hV hlt_i hx0.symm (by first | assumption | (unfold adj1;simp [*];done) | (unfold adj1;simp [*] <;> omega) | (unfold adj1;simp;omega)) M.ext
  replace h3 := true_of_not h3
  refine gR 2 rfl (g_ld1 0 rfl rfl (aj_q_known ‹_›) ?_)
  refine gR 3 rfl (g_split 38 rfl (fun h4 => ?_) (fun h4 => ?_))
  ·replace h4 := false_of_not h4
   refine gR 23 rfl (g_outR (gR 2 rfl (g_ret1 rfl rfl rfl fun w M => ?_)))
   exact vl_F hV hlt_i hx0.symm (by first | assumption | (unfold adj1;simp [*];done) | (unfold adj1;simp [*] <;> omega) | (unfold adj1;simp;omega)) M.ext
  replace h4 := true_of_not h4
  refine gR 1 rfl (g_ld1 0 rfl rfl (aj_til ‹_›) ?_)
  refine g_call rfl rfl (fun w M => oisTime_c _ _) (gR 3 rfl (g_split 44 rfl (fun h5 => ?_) (fun h5 => ?_)))
  ·replace h5 := false_of_not h5
   refine gR 17 rfl (g_outR (gR 2 rfl (g_ret1 rfl rfl rfl fun w M => ?_)))
   exact vl_F hV hlt_i hx0.symm (by first | assumption | (unfold adj1;simp [*];done) | (unfold adj1;simp [*] <;> omega) | (unfold adj1;simp;omega)) M.ext
  replace h5 := true_of_not h5
  refine gR 1 rfl (g_ld1 0 rfl rfl (aj_ans ‹_›) ?_)
  refine g_call rfl rfl (fun w M => oisTime_c _ _) (gR 4 rfl (g_if rfl (fun h6 => ?_) (fun h6 => ?_)))
  ·replace h6 := false_of_not h6
   refine gR 9 rfl (g_outR (gR 2 rfl (g_ret1 rfl rfl rfl fun w M => ?_)))
   exact vl_F hV hlt_i hx0.symm (by first | assumption | (unfold adj1;simp [*];done) | (unfold adj1;simp [*] <;> omega) | (unfold adj1;simp;omega)) M.ext
  replace h6 := true_of_not h6
  refine gR 2 rfl ?_
  by_cases hi0 : 0 < i
  ·obtain ⟨y, hy0⟩ : ∃ y, y = l[i - 1]'(by omega) := ⟨_, rfl⟩
   have yI : IsAj y := by rw [hy0];exact hx _ (List.getElem_mem _)
   have f2 : seg cs (o + ((i : Int) - 1).toNat * 8) 8 = some (ajC y) := by rw [hy0];exact seg_el (ajs_len hx) hs (show i - 1 < l.length by omega) (by omega)
   replace hy0 := hy0.symm
   refine gR 1 rfl (g_draw 13 64 rfl (by kernel_rfl) (fR 3 rfl (fd_know 52 rfl (dqT (by omega)) (fR 2 rfl (fd_sub rfl rfl (w_i64 (by omega) (by omega)) (fd_ixS rfl rfl (by omega) (by omega) (fR 1 rfl (fd_le1 rfl ‹_› (sg_nth f2 (aj_nb ‹_›) (by omega)) ?_))))))))
   refine fR 1 rfl (fd_ld1 0 rfl rfl (aj_nb ‹_›) ?_)
   refine fR 2 rfl (fd_done rfl rfl (gR 2 rfl (g_if rfl (fun h1 => ?_) (fun h1 => ?_))))
   ·replace h1 := dqU h1
    exact gR 8 rfl (g_outR (gR 2 rfl (g_ret1 rfl rfl rfl fun w M => vl_S hV hlt_i hi0 hx0.symm hy0.symm (by unfold cmpAj;omega) M.ext)))
   ·replace h1 := dqV h1
    refine gR 4 rfl (g_add rfl rfl (w_i64 (by omega) (by omega)) (gR 2 rfl ?_))
    exact g_next (i + 1) ⟨by omega, vl_N hlt_i hx0.symm hv (by first | assumption | (unfold adj1;simp [*];done) | (unfold adj1;simp [*] <;> omega) | (unfold adj1;simp;omega)) fun _ => by rw [hy0];exact (by unfold cmpAj;omega)⟩ (by dsimp only;omega) (fun a F => F.only [12, 11, 10, 1, 0] rfl) (by (try dsimp only);repeat (first | exact .refl _ | with_reducible exact sC0 _ | with_reducible apply sC2 | apply sC1))
  ·refine gR 1 rfl ?_
   refine g_draw 13 64 rfl (by kernel_rfl) (fR 3 rfl (fd_know 52 rfl (dqF (by omega)) (fR 10 rfl (fd_done rfl rfl (gR 7 rfl (g_add rfl rfl (w_i64 (by omega) (by omega)) (gR 2 rfl ?_)))))))
   exact g_next (i + 1) ⟨by omega, vl_N hlt_i hx0.symm hv (by first | assumption | (unfold adj1;simp [*];done) | (unfold adj1;simp [*] <;> omega) | (unfold adj1;simp;omega)) fun h => absurd h hi0⟩ (by dsimp only;omega) (fun a F => F.only [12, 11, 10, 1, 0] rfl) (by (try dsimp only);repeat (first | exact .refl _ | with_reducible exact sC0 _ | with_reducible apply sC2 | apply sC1))
 ·have hil : i = l.length := by omega
  rw [hil] at hv
  exact gR 6 rfl (g_ifF rfl (dqF (by omega)) (gR 2 rfl (g_outX (gR 8 rfl (g_ret1 rfl rfl rfl fun w M => vl_T hV (by omega) hv M.ext)))))
end Go.Proofs.YtfhkmgcalcfibaaGreat
namespace Go.Proofs.YtfhkmgcalcfibaaGreat
open Go.RowKit
def newerV (a b : Int) : Bool := let d := IntKind.u16.wrap (a - b);(decide (1 ≤ d) && decide (d < 32768)) || (decide (d = 32768) && decide (b < a))
def src1 (s : SrcV) : Bool := validT s.to && finD s.bst && isTime s.til
def cmpS (a b : SrcV) : Int := cmpD a.to b.to
def validSs (l : List SrcV) : Bool := vldL 256 src1 cmpS l
theorem validSs_iff {l : List SrcV} : validSs l = true ↔ l.length ≤ 256 ∧ (∀ a ∈ l, src1 a = true) ∧ AscC cmpS l := vldL_iff (fun _ _ _ h k => cmpD_trans h k)
def bestS (s : List SrcV) (now : Int) (t : DstV) : Option DisV := (s.find? fun x => decide (x.to = t) && decide (now < x.til)).map (·.bst)
def opt1 (o : OptV) : Bool := !decide (o.nb = 0) && validM o.cost
def cmpO (a b : OptV) : Int := cmpI a.nb b.nb
def validOs (l : List OptV) : Bool := vldL 16 opt1 cmpO l
theorem cmpO_trans {a b c : OptV} (h : cmpO a b < 0) (k : cmpO b c < 0) : cmpO a c < 0 := by
 unfold cmpO at *
 rw [cmpI_lt] at *
 omega
theorem validOs_iff {l : List OptV} : validOs l = true ↔ l.length ≤ 16 ∧ (∀ a ∈ l, opt1 a = true) ∧ AscC cmpO l := vldL_iff (fun _ _ _ h k => cmpO_trans h k)
def ins1 (e : InsV) : Bool := validT e.to && (if e.nb = 0 then decide (e.own.met = inf) && decide (e.btn = -1) && isTime e.til else finD e.own && (decide (e.btn = -1) || isTime e.btn) && decide (e.til = 0))
def cmpN (a b : InsV) : Int := cmpD a.to b.to
def validIs (l : List InsV) : Bool := vldL 512 ins1 cmpN l
theorem validIs_iff {l : List InsV} : validIs l = true ↔ l.length ≤ 512 ∧ (∀ a ∈ l, ins1 a = true) ∧ AscC cmpN l := vldL_iff (fun _ _ _ h k => cmpD_trans h k)
def insD (t : DstV) : List DstV → List DstV
 | [] => [t]
 | x :: xs => if cmpD t x < 0 then t :: x :: xs else if t = x then x :: xs else x :: insD t xs
abbrev AscD (l : List DstV) : Prop := AscC cmpD l
theorem mem_insD {t y : DstV} : ∀ {l : List DstV}, y ∈ insD t l ↔ y = t ∨ y ∈ l
 | [] => by simp [insD]
 | x :: xs => by
  unfold insD
  split
  ·simp
  ·split
   ·rename_i h
    subst h
    simp
   ·rw [List.mem_cons, mem_insD (l := xs), List.mem_cons]
    constructor
    ·rintro (h | h | h) <;> simp [h]
    ·rintro (h | h | h) <;> simp [h]
theorem asc_insD {t : DstV} (ht : IsDv t) : ∀ {l : List DstV}, (∀ x ∈ l, IsDv x) → AscD l → AscD (insD t l)
 | [], _, _ => by simp [insD, AscD, AscC]
 | x :: xs, hi, h => by
  have h1 := List.pairwise_cons.1 h
  unfold insD
  split
  ·rename_i h2
   refine List.pairwise_cons.2 ⟨fun y hy => ?_, h⟩
   rcases List.mem_cons.1 hy with rfl | hy
   ·exact h2
   ·exact cmpD_trans h2 (h1.1 y hy)
  ·split
   ·exact h
   ·rename_i h2 h3
    refine List.pairwise_cons.2 ⟨fun y hy => ?_, asc_insD ht (fun z hz => hi z (List.mem_cons_of_mem _ hz)) h1.2⟩
    rcases mem_insD.1 hy with rfl | hy
    ·have h4 := cmpD_anti y x
     have h5 : cmpD y x ≠ 0 := fun e => h3 (cmpD_zero ht (hi x (by simp)) e)
     omega
    ·exact h1.1 y hy
theorem foldr_insD {l : List DstV} (hi : ∀ x ∈ l, IsDv x) : AscD (l.foldr insD []) ∧ (∀ x, x ∈ l.foldr insD [] ↔ x ∈ l) := by
 induction l with
 | nil => simp [AscD, AscC]
 | cons a l ih =>
  obtain ⟨h1, h2⟩ := ih fun x hx => hi x (List.mem_cons_of_mem _ hx)
  rw [List.foldr_cons]
  exact ⟨asc_insD (hi a (by simp)) (fun x hx => hi x (List.mem_cons_of_mem _ ((h2 x).1 hx))) h1, fun x => by rw [mem_insD, h2, List.mem_cons]⟩
def nul16 : List Int := [0, 0, 0, 0, 0, 0, 0, 0, 0, 0, 0, 0, 0, 0, 0, 0]
theorem nul16_is : IsIP nul16 := ⟨rfl, by intro x hx;simp [nul16] at hx;omega⟩
end Go.Proofs.YtfhkmgcalcfibaaGreat
namespace Go.Proofs.YtfhkmgcalcfibaaGreat
open Go.RowKit
attribute [local irreducible] OpTo wpListIn Code.wpIn MW Cal
theorem rtTime_c (t : Int) (W : World) : Cal Tryz.prog 191 [.int .i64 t].toArray W fun v w' => v = .bool (isTime t) ∧ Ext [] W w' := by
 unfold isTime
 by_cases h : 0 ≤ t
 ·rw [dqT h, Bool.true_and]
  exact g_start (n := 9) (S := []) fldT_ok slcT_ok Tryz.func191 rfl rfl rfl (gR 10 rfl (g_know 5 rfl (dqT (by omega)) (gR 7 rfl (g_ret1 rfl rfl rfl fun w M => ⟨rfl, M.ext⟩))))
 ·rw [dqF h, Bool.false_and]
  exact g_start (n := 9) (S := []) fldT_ok slcT_ok Tryz.func191 rfl rfl rfl (gR 10 rfl (g_know 5 rfl (dqF (by omega)) (gR 7 rfl (g_ret1 rfl rfl rfl fun w M => ⟨rfl, M.ext⟩))))
theorem scTime_c (t : Int) (W : World) : Cal Tryz.prog 189 [.int .i64 t].toArray W fun v w' => v = .bool (isTime t) ∧ Ext [] W w' := by
 unfold isTime
 by_cases h : 0 ≤ t
 ·rw [dqT h, Bool.true_and]
  exact g_start (n := 9) (S := []) fldT_ok slcT_ok Tryz.func189 rfl rfl rfl (gR 10 rfl (g_know 5 rfl (dqT (by omega)) (gR 7 rfl (g_ret1 rfl rfl rfl fun w M => ⟨rfl, M.ext⟩))))
 ·rw [dqF h, Bool.false_and]
  exact g_start (n := 9) (S := []) fldT_ok slcT_ok Tryz.func189 rfl rfl rfl (gR 10 rfl (g_know 5 rfl (dqF (by omega)) (gR 7 rfl (g_ret1 rfl rfl rfl fun w M => ⟨rfl, M.ext⟩))))
theorem sqvalid_c (d : DisV) (W : World) : Cal Tryz.prog 188 [.agg (diC d).toArray].toArray W fun v w' => v = .bool (validM d.met) ∧ Ext [] W w' := by
 have e1 := di_met (o := d) trivial
 exact g_start (n := 6) (S := []) fldT_ok slcT_ok Tryz.func188 rfl rfl rfl (gR 2 rfl (g_box rfl rfl fun b1 => gR 6 rfl (g_ld1 0 rfl rfl (di_met trivial) (g_call rfl rfl (fun w M => mvalid_c _ _) (gR 4 rfl (g_ret1 rfl rfl rfl fun w M => ⟨rfl, M.ext⟩))))))
theorem rtfin_c (d : DisV) (W : World) : Cal Tryz.prog 190 [.agg (diC d).toArray].toArray W fun v w' => v = .bool (finD d) ∧ Ext [] W w' := by
 have e1 := di_met (o := d) trivial
 have e2 := di_all (o := d) trivial
 unfold finD inf
 refine g_start (n := 10) (S := []) fldT_ok slcT_ok Tryz.func190 rfl rfl rfl ?_
 cases h1 : validM d.met
 ·refine gR 2 rfl ?_
  refine g_box rfl rfl fun b1 => gR 5 rfl (g_ldA 0 rfl rfl (di_all trivial) (g_call rfl rfl (fun w M => sqvalid_c _ _) (gR 1 rfl (g_know 5 rfl ‹_› ?_))))
  exact gR 8 rfl (g_ret1 rfl rfl rfl fun w M => ⟨rfl, M.ext⟩)
 ·by_cases h2 : d.met = 65535
  ·rw [dqT h2]
   refine gR 2 rfl (g_box rfl rfl fun b1 => gR 5 rfl (g_ldA 0 rfl rfl (di_all trivial) (g_call rfl rfl (fun w M => sqvalid_c _ _) (gR 1 rfl (g_know 5 rfl ‹_› ?_)))))
   exact gR 1 rfl (g_ld1 0 rfl rfl (di_met trivial) (gR 6 rfl (g_ret1 rfl rfl rfl fun w M => ⟨by simp [*], M.ext⟩)))
  ·rw [dqF h2]
   refine gR 2 rfl (g_box rfl rfl fun b1 => gR 5 rfl (g_ldA 0 rfl rfl (di_all trivial) (g_call rfl rfl (fun w M => sqvalid_c _ _) (gR 1 rfl (g_know 5 rfl ‹_› ?_)))))
   exact gR 1 rfl (g_ld1 0 rfl rfl (di_met trivial) (gR 6 rfl (g_ret1 rfl rfl rfl fun w M => ⟨by simp [*], M.ext⟩)))
theorem rorder_c (x y : RouV) (ha : IsRo x) (hb : IsRo y) (W : World) : Cal Tryz.prog 192 [.agg (roC x).toArray, .agg (roC y).toArray].toArray W fun v w' => v = .int .i64 (cmpR x y) ∧ Ext [] W w' := by
 have a1 := ro_to ha
 have a2 := ro_nb ha
 have c1 := ro_to hb
 have c2 := ro_nb hb
 have hr : cmpR x y = orV [cmpD x.to y.to, cmpV x.nb y.nb] := by
  rw [cmpR_or ha.1 hb.1]
  simp only [orV, orI]
  repeat' split
  all_goals first | rfl | (rename_i h;exact h) | (rename_i h;exact h.symm) | simp_all [cmpI, cmpV]
 rw [hr]
 refine g_start (n := 17) (S := []) fldT_ok slcT_ok Tryz.func192 rfl rfl rfl (gR 2 rfl (g_box rfl rfl fun b2 => g_box rfl rfl fun b3 => gR 4 rfl (g_draw 11 17 rfl (by kernel_rfl) (fR 1 rfl (fd_ldA 1 rfl rfl (ro_to ‹_›) ?_)))))
 refine fR 1 rfl (fd_ldA 0 rfl rfl (ro_to ‹_›) ?_)
 refine fd_call rfl rfl (fun w M => scompare_c _ _ (And.left ‹_›) (And.left ‹_›) _) ?_
 refine fR 1 rfl (fd_ld1 1 rfl rfl (ro_nb ‹_›) ?_)
 refine fR 1 rfl (fd_ld1 0 rfl rfl (ro_nb ‹_›) ?_)
 refine fd_call rfl rfl (fun w M => cmpEui_c _ _ _) (fd_bs rfl rfl rfl rfl (fun b15 => ?_))
 exact g_call rfl rfl (fun w M => or_c (b := _) [cmpD x.to y.to, cmpV x.nb y.nb] 2 rfl (by omega) _ (M.at_ _ (nthO_mem (i := 0) rfl))) (gR 4 rfl (g_ret1 rfl rfl rfl fun w M => ⟨rfl, M.ext⟩))
theorem rtreach_c (e : InsV) (he : IsIn e) (W : World) : Cal Tryz.prog 223 [.agg (inC e).toArray].toArray W fun v w' => v = .bool (!decide (e.nb = 0)) ∧ Ext [] W w' := by
 have e1 := in_nb he
 refine g_start (n := 6) (S := []) fldT_ok slcT_ok Tryz.func223 rfl rfl rfl ?_
 by_cases h : e.nb = 0
 ·rw [dqT h]
  refine gR 2 rfl (g_box rfl rfl fun b1 => gR 6 rfl (g_ld1 0 rfl rfl (in_nb ‹_›) ?_))
  exact gR 5 rfl (g_ret1 rfl rfl rfl fun w M => ⟨by simp [*], M.ext⟩)
 ·rw [dqF h]
  refine gR 2 rfl (g_box rfl rfl fun b1 => gR 6 rfl (g_ld1 0 rfl rfl (in_nb ‹_›) ?_))
  exact gR 5 rfl (g_ret1 rfl rfl rfl fun w M => ⟨by simp [*], M.ext⟩)
theorem rtelem_c (e : InsV) (he : IsIn e) (W : World) : Cal Tryz.prog 193 [.agg (inC e).toArray].toArray W fun v w' => v = .bool (ins1 e) ∧ Ext [] W w' := by
 have hd : IsDv e.to := he.1
 refine g_start (n := 41) (S := []) fldT_ok slcT_ok Tryz.func193 rfl rfl rfl ?_
 unfold ins1
 refine gR 2 rfl (g_box rfl rfl fun b1 => gR 7 rfl (g_ldA 0 rfl rfl (in_to ‹_›) ?_))
 refine g_call rfl rfl (fun w M => validTo_c _ ‹_› _) ?_
 refine gR 3 rfl (g_if rfl (fun h1 => ?_) (fun h1 => ?_))
 ·replace h1 := false_of_not h1
  refine gR 7 rfl (g_ret1 rfl rfl rfl fun w M => ?_)
  exact ⟨by simp [*];done, M.ext⟩
 ·replace h1 := true_of_not h1
  refine gR 5 rfl (g_ldA 0 rfl rfl (in_all ‹_›) ?_)
  refine g_call rfl rfl (fun w M => rtreach_c _ ‹_› _) ?_
  refine gR 2 rfl (g_if rfl (fun h2 => ?_) (fun h2 => ?_))
  ·replace h2 := ne_of_bne h2
   refine gR 3 rfl (g_ldA 0 rfl rfl (in_own ‹_›) ?_)
   refine g_call rfl rfl (fun w M => rtfin_c _ _) (gR 1 rfl (g_split 12 rfl (fun h3 => ?_) (fun h3 => ?_)))
   ·refine gR 1 rfl (g_ld1 0 rfl rfl (in_btn ‹_›) ?_)
    refine gR 2 rfl (g_split 16 rfl (fun h4 => ?_) (fun h4 => ?_))
    ·replace h4 := dqU h4
     refine gR 7 rfl (g_ld1 0 rfl rfl (in_til ‹_›) ?_)
     refine gR 7 rfl (g_ret1 rfl rfl rfl fun w M => ?_)
     exact ⟨by congr 1;rw [Bool.eq_iff_iff];simp [*], M.ext⟩
    ·replace h4 := dqV h4
     refine gR 1 rfl (g_ld1 0 rfl rfl (in_btn ‹_›) ?_)
     refine g_call rfl rfl (fun w M => rtTime_c _ _) (gR 3 rfl (g_split 22 rfl (fun h5 => ?_) (fun h5 => ?_)))
     ·refine gR 1 rfl (g_ld1 0 rfl rfl (in_til ‹_›) ?_)
      refine gR 7 rfl (g_ret1 rfl rfl rfl fun w M => ?_)
      exact ⟨by congr 1;rw [Bool.eq_iff_iff];simp [*], M.ext⟩
     ·refine gR 9 rfl (g_ret1 rfl rfl rfl fun w M => ?_)
      exact ⟨by simp [*];done, M.ext⟩
   ·refine gR 19 rfl (g_ret1 rfl rfl rfl fun w M => ?_)
    exact ⟨by simp [*];done, M.ext⟩
  ·replace h2 := eq_of_bne_false h2
   refine gR 6 rfl (g_ld1 0 rfl rfl (in_own_met ‹_›) ?_)
   refine gR 2 rfl (g_split 31 rfl (fun h3 => ?_) (fun h3 => ?_))
   ·replace h3 := dqU h3
    refine gR 1 rfl (g_ld1 0 rfl rfl (in_btn ‹_›) ?_)
    refine gR 3 rfl (g_split 36 rfl (fun h4 => ?_) (fun h4 => ?_))
    ·replace h4 := dqU h4
     refine gR 1 rfl (g_ld1 0 rfl rfl (in_til ‹_›) ?_)
     refine g_call rfl rfl (fun w M => rtTime_c _ _) (gR 5 rfl (g_ret1 rfl rfl rfl fun w M => ?_))
     exact ⟨by unfold inf;simp [*];done, M.ext⟩
    ·replace h4 := dqV h4
     refine gR 8 rfl (g_ret1 rfl rfl rfl fun w M => ?_)
     exact ⟨by simp [*];done, M.ext⟩
   ·replace h3 := dqV h3
    refine gR 13 rfl (g_ret1 rfl rfl rfl fun w M => ?_)
    exact ⟨by unfold inf;simp [*];done, M.ext⟩
theorem rtvalid_c (l : List RouV) (hx : ∀ x ∈ l, IsRo x) (v : Value) (W : World) (hS : SlAt W 39 v l.length (rosC l)) :
  Cal Tryz.prog 104 [v].toArray W fun r w' => r = .bool (validRs l) ∧ Ext [] W w' := by
 obtain ⟨q, cap, rfl, _⟩ := id hS
 have hm := hS.memB [] (by simp)
 unfold validRs
 generalize hV : vldL 512 rou1 cmpR l = b0
 refine g_start (n := 49) (S := []) fldT_ok slcT_ok Tryz.func104 rfl rfl rfl ?_
 by_cases c0 : 512 < l.length
 ·refine gR 13 rfl ?_
  exact g_ifT rfl (dqT (by omega)) (gR 7 rfl (g_ret1 rfl rfl rfl fun w M => vl_L hV c0 M.ext))
 refine gR 13 rfl (g_ifF rfl (dqF (by omega)) (gR 11 rfl (g_loop (ι := Nat) ⟨fun (i : Nat) => l.length - i, fun (i : Nat) => i ≤ l.length ∧ (∀ j, j < i → vld1 rou1 cmpR l j = true), fun (i : Nat) => [(10, .int .i64 i), (9, .int .i64 l.length), (8, .slice q l.length cap), (0, .slice q l.length cap)], fun (i : Nat) => []⟩ 0 ⟨by omega, by omega⟩ (fun a F => F.only [10, 9, 8, 0] rfl) (by repeat (first | exact .refl _ | apply sC2 | apply sC1)) ?_)))
 rintro i ⟨hi_i, hv⟩
 by_cases hlt_i : i < l.length
 ·obtain ⟨b, o, cs, t', fz, rfl, hb, hs⟩ := hm (by omega)
  obtain ⟨x, hx0⟩ : ∃ x, x = l[i] := ⟨_, rfl⟩
  have hxm : x ∈ l := by rw [hx0];exact List.getElem_mem hlt_i
  have hxi : IsRo x := hx _ hxm
  have f1 : seg cs (o + (i : Int).toNat * 39) 39 = some (roC x) := by rw [hx0];exact seg_el (ros_len hx) hs hlt_i (by omega)
  replace hx0 := hx0.symm
  have xd : IsDv x.to := hxi.1
  refine gR 6 rfl (g_ifT rfl (dqT (by omega)) (gR 7 rfl (g_ixS rfl rfl (by omega) (by omega) (g_leA rfl ‹_› (by with_reducible assumption) ?_))))
  refine g_alloc fun b4 => gR 1 rfl (g_stA 0 rfl rfl (ro_len ‹_›) (ro_one _) rfl (put_all (by rw [ro_len ‹_›];first | rfl | rw [ro_len ‹_›])) rfl ?_)
  refine gR 6 rfl (g_ldA 0 rfl rfl (ro_to ‹_›) ?_)
  refine g_call rfl rfl (fun w M => validTo_c _ ‹_› _) ?_
  refine gR 2 rfl (g_split 19 rfl (fun h1 => ?_) (fun h1 => ?_))
  ·replace h1 := false_of_not h1
   exact gR 28 rfl (g_outR (gR 2 rfl (g_ret1 rfl rfl rfl fun w M => vl_F hV hlt_i hx0.symm (by first | assumption | (unfold rou1;simp [*];done) | (unfold rou1 finD inf;simp [*])) M.ext)))
  replace h1 := true_of_not h1
  refine gR 1 rfl (g_ld1 0 rfl rfl (ro_nb ‹_›) ?_)
  refine gR 3 rfl (g_split 24 rfl (fun h2 => ?_) (fun h2 => ?_))
  ·replace h2 := dqU h2
   exact gR 23 rfl (g_outR (gR 2 rfl (g_ret1 rfl rfl rfl fun w M => vl_F hV hlt_i hx0.symm (by first | assumption | (unfold rou1;simp [*];done) | (unfold rou1 finD inf;simp [*])) M.ext)))
  replace h2 := dqV h2
  refine gR 1 rfl (g_ldA 0 rfl rfl (ro_said ‹_›) ?_)
  refine g_call rfl rfl (fun w M => rtfin_c _ _) (gR 3 rfl (g_split 30 rfl (fun h3 => ?_) (fun h3 => ?_)))
  ·replace h3 := false_of_not h3
   exact gR 17 rfl (g_outR (gR 2 rfl (g_ret1 rfl rfl rfl fun w M => vl_F hV hlt_i hx0.symm (by first | assumption | (unfold rou1;simp [*];done) | (unfold rou1 finD inf;simp [*])) M.ext)))
  replace h3 := true_of_not h3
  refine gR 1 rfl (g_ld1 0 rfl rfl (ro_til ‹_›) ?_)
  refine g_call rfl rfl (fun w M => rtTime_c _ _) (gR 4 rfl (g_if rfl (fun h4 => ?_) (fun h4 => ?_)))
  ·replace h4 := false_of_not h4
   exact gR 9 rfl (g_outR (gR 2 rfl (g_ret1 rfl rfl rfl fun w M => vl_F hV hlt_i hx0.symm (by first | assumption | (unfold rou1;simp [*];done) | (unfold rou1 finD inf;simp [*])) M.ext)))
  replace h4 := true_of_not h4
  refine gR 2 rfl ?_
  by_cases hi0 : 0 < i
  ·obtain ⟨y, hy0⟩ : ∃ y, y = l[i - 1]'(by omega) := ⟨_, rfl⟩
   have yI : IsRo y := by rw [hy0];exact hx _ (List.getElem_mem _)
   have f2 : seg cs (o + ((i : Int) - 1).toNat * 39) 39 = some (roC y) := by rw [hy0];exact seg_el (ros_len hx) hs (show i - 1 < l.length by omega) (by omega)
   replace hy0 := hy0.symm
   have yd : IsDv y.to := yI.1
   refine gR 1 rfl (g_draw 12 49 rfl (by kernel_rfl) (fR 3 rfl (fd_know 38 rfl (dqT (by omega)) (fR 2 rfl (fd_sub rfl rfl (w_i64 (by omega) (by omega)) (fd_ixS rfl rfl (by omega) (by omega) (fd_leA rfl ‹_› (by with_reducible assumption) ?_)))))))
   refine fd_ldA 0 rfl rfl (ro_all ‹_›) ?_
   refine fd_call rfl rfl (fun w M => rorder_c _ _ ‹_› ‹_› _) ?_
   refine fR 2 rfl (fd_done rfl rfl (gR 2 rfl (g_if rfl (fun h1 => ?_) (fun h1 => ?_))))
   ·replace h1 := dqU h1
    exact gR 8 rfl (g_outR (gR 2 rfl (g_ret1 rfl rfl rfl fun w M => vl_S hV hlt_i hi0 hx0.symm hy0.symm (by omega) M.ext)))
   ·replace h1 := dqV h1
    refine gR 4 rfl (g_add rfl rfl (w_i64 (by omega) (by omega)) (gR 2 rfl ?_))
    exact g_next (i + 1) ⟨by omega, vl_N hlt_i hx0.symm hv (by first | assumption | (unfold rou1;simp [*];done) | (unfold rou1 finD inf;simp [*])) fun _ => by rw [hy0];exact (by omega)⟩ (by dsimp only;omega) (fun a F => F.only [10, 9, 8, 0] rfl) (by (try dsimp only);repeat (first | exact .refl _ | with_reducible exact sC0 _ | with_reducible apply sC2 | apply sC1))
  ·refine gR 1 rfl ?_
   exact g_draw 12 49 rfl (by kernel_rfl) (fR 3 rfl (fd_know 38 rfl (dqF (by omega)) (fR 9 rfl (fd_done rfl rfl (gR 7 rfl (g_add rfl rfl (w_i64 (by omega) (by omega)) (gR 2 rfl (g_next (i + 1) ⟨by omega, vl_N hlt_i hx0.symm hv (by first | assumption | (unfold rou1;simp [*];done) | (unfold rou1 finD inf;simp [*])) fun h => absurd h hi0⟩ (by dsimp only;omega) (fun a F => F.only [10, 9, 8, 0] rfl) (by (try dsimp only);repeat (first | exact .refl _ | with_reducible exact sC0 _ | with_reducible apply sC2 | apply sC1))))))))))
 ·have hil : i = l.length := by omega
  rw [hil] at hv
  exact gR 6 rfl (g_ifF rfl (dqF (by omega)) (gR 2 rfl (g_outX (gR 8 rfl (g_ret1 rfl rfl rfl fun w M => vl_T hV (by omega) hv M.ext)))))
theorem scvalid_c (l : List SrcV) (hx : ∀ x ∈ l, IsSr x) (v : Value) (W : World) (hS : SlAt W 38 v l.length (srsC l)) :
  Cal Tryz.prog 103 [v].toArray W fun r w' => r = .bool (validSs l) ∧ Ext [] W w' := by
 obtain ⟨q, cap, rfl, _⟩ := id hS
 have hm := hS.memB [] (by simp)
 unfold validSs
 generalize hV : vldL 256 src1 cmpS l = b0
 refine g_start (n := 52) (S := []) fldT_ok slcT_ok Tryz.func103 rfl rfl rfl ?_
 by_cases c0 : 256 < l.length
 ·refine gR 13 rfl ?_
  exact g_ifT rfl (dqT (by omega)) (gR 7 rfl (g_ret1 rfl rfl rfl fun w M => vl_L hV c0 M.ext))
 refine gR 13 rfl (g_ifF rfl (dqF (by omega)) (gR 11 rfl (g_loop (ι := Nat) ⟨fun (i : Nat) => l.length - i, fun (i : Nat) => i ≤ l.length ∧ (∀ j, j < i → vld1 src1 cmpS l j = true), fun (i : Nat) => [(10, .int .i64 i), (9, .int .i64 l.length), (8, .slice q l.length cap), (0, .slice q l.length cap)], fun (i : Nat) => []⟩ 0 ⟨by omega, by omega⟩ (fun a F => F.only [10, 9, 8, 0] rfl) (by repeat (first | exact .refl _ | apply sC2 | apply sC1)) ?_)))
 rintro i ⟨hi_i, hv⟩
 by_cases hlt_i : i < l.length
 ·obtain ⟨b, o, cs, t', fz, rfl, hb, hs⟩ := hm (by omega)
  obtain ⟨x, hx0⟩ : ∃ x, x = l[i] := ⟨_, rfl⟩
  have hxm : x ∈ l := by rw [hx0];exact List.getElem_mem hlt_i
  have hxi : IsSr x := hx _ hxm
  have f1 : seg cs (o + (i : Int).toNat * 38) 38 = some (srC x) := by rw [hx0];exact seg_el (srs_len hx) hs hlt_i (by omega)
  replace hx0 := hx0.symm
  have xd : IsDv x.to := hxi.1
  refine gR 6 rfl (g_ifT rfl (dqT (by omega)) (gR 7 rfl (g_ixS rfl rfl (by omega) (by omega) (g_leA rfl ‹_› (by with_reducible assumption) ?_))))
  refine g_alloc fun b4 => gR 1 rfl (g_stA 0 rfl rfl (sr_len ‹_›) (sr_one _) rfl (put_all (by rw [sr_len ‹_›];first | rfl | rw [sr_len ‹_›])) rfl ?_)
  refine gR 6 rfl (g_ldA 0 rfl rfl (sr_to ‹_›) ?_)
  refine g_call rfl rfl (fun w M => validTo_c _ ‹_› _) ?_
  refine gR 2 rfl (g_split 19 rfl (fun h1 => ?_) (fun h1 => ?_))
  ·replace h1 := false_of_not h1
   exact gR 29 rfl (g_outR (gR 2 rfl (g_ret1 rfl rfl rfl fun w M => vl_F hV hlt_i hx0.symm (by first | assumption | (unfold src1;simp [*];done) | (unfold src1 finD inf;simp [*])) M.ext)))
  replace h1 := true_of_not h1
  refine gR 1 rfl (g_ldA 0 rfl rfl (sr_bst ‹_›) ?_)
  refine g_call rfl rfl (fun w M => sqvalid_c _ _) (gR 3 rfl (g_split 25 rfl (fun h2 => ?_) (fun h2 => ?_)))
  ·replace h2 := false_of_not h2
   exact gR 23 rfl (g_outR (gR 2 rfl (g_ret1 rfl rfl rfl fun w M => vl_F hV hlt_i hx0.symm (by first | assumption | (unfold src1;simp [*];done) | (unfold src1 finD inf;simp [*])) M.ext)))
  replace h2 := true_of_not h2
  refine gR 2 rfl (g_ld1 0 rfl rfl (sr_bst_met ‹_›) ?_)
  refine gR 3 rfl (g_split 31 rfl (fun h3 => ?_) (fun h3 => ?_))
  ·replace h3 := dqU h3
   exact gR 17 rfl (g_outR (gR 2 rfl (g_ret1 rfl rfl rfl fun w M => vl_F hV hlt_i hx0.symm (by first | assumption | (unfold src1;simp [*];done) | (unfold src1 finD inf;simp [*])) M.ext)))
  replace h3 := dqV h3
  refine gR 1 rfl (g_ld1 0 rfl rfl (sr_til ‹_›) ?_)
  refine g_call rfl rfl (fun w M => scTime_c _ _) (gR 4 rfl (g_if rfl (fun h4 => ?_) (fun h4 => ?_)))
  ·replace h4 := false_of_not h4
   exact gR 9 rfl (g_outR (gR 2 rfl (g_ret1 rfl rfl rfl fun w M => vl_F hV hlt_i hx0.symm (by first | assumption | (unfold src1;simp [*];done) | (unfold src1 finD inf;simp [*])) M.ext)))
  replace h4 := true_of_not h4
  refine gR 2 rfl ?_
  by_cases hi0 : 0 < i
  ·obtain ⟨y, hy0⟩ : ∃ y, y = l[i - 1]'(by omega) := ⟨_, rfl⟩
   have yI : IsSr y := by rw [hy0];exact hx _ (List.getElem_mem _)
   have f2 : seg cs (o + ((i : Int) - 1).toNat * 38) 38 = some (srC y) := by rw [hy0];exact seg_el (srs_len hx) hs (show i - 1 < l.length by omega) (by omega)
   replace hy0 := hy0.symm
   have yd : IsDv y.to := yI.1
   refine gR 1 rfl (g_draw 14 52 rfl (by kernel_rfl) (fR 3 rfl (fd_know 39 rfl (dqT (by omega)) (fR 2 rfl (fd_sub rfl rfl (w_i64 (by omega) (by omega)) (fd_ixS rfl rfl (by omega) (by omega) (fR 1 rfl (fd_leA rfl ‹_› (sg_seg f2 (sr_to ‹_›) (by omega)) ?_))))))))
   refine fR 1 rfl (fd_ldA 0 rfl rfl (sr_to ‹_›) ?_)
   refine fd_call rfl rfl (fun w M => scompare_c _ _ ‹_› ‹_› _) ?_
   refine fR 2 rfl (fd_done rfl rfl (gR 2 rfl (g_if rfl (fun h1 => ?_) (fun h1 => ?_))))
   ·replace h1 := dqU h1
    exact gR 8 rfl (g_outR (gR 2 rfl (g_ret1 rfl rfl rfl fun w M => vl_S hV hlt_i hi0 hx0.symm hy0.symm (by unfold cmpS;omega) M.ext)))
   ·replace h1 := dqV h1
    refine gR 4 rfl (g_add rfl rfl (w_i64 (by omega) (by omega)) (gR 2 rfl ?_))
    exact g_next (i + 1) ⟨by omega, vl_N hlt_i hx0.symm hv (by first | assumption | (unfold src1;simp [*];done) | (unfold src1 finD inf;simp [*])) fun _ => by rw [hy0];exact (by unfold cmpS;omega)⟩ (by dsimp only;omega) (fun a F => F.only [10, 9, 8, 0] rfl) (by (try dsimp only);repeat (first | exact .refl _ | with_reducible exact sC0 _ | with_reducible apply sC2 | apply sC1))
  ·refine gR 1 rfl ?_
   exact g_draw 14 52 rfl (by kernel_rfl) (fR 3 rfl (fd_know 39 rfl (dqF (by omega)) (fR 11 rfl (fd_done rfl rfl (gR 7 rfl (g_add rfl rfl (w_i64 (by omega) (by omega)) (gR 2 rfl (g_next (i + 1) ⟨by omega, vl_N hlt_i hx0.symm hv (by first | assumption | (unfold src1;simp [*];done) | (unfold src1 finD inf;simp [*])) fun h => absurd h hi0⟩ (by dsimp only;omega) (fun a F => F.only [10, 9, 8, 0] rfl) (by (try dsimp only);repeat (first | exact .refl _ | with_reducible exact sC0 _ | with_reducible apply sC2 | apply sC1))))))))))
 ·have hil : i = l.length := by omega
  rw [hil] at hv
  exact gR 6 rfl (g_ifF rfl (dqF (by omega)) (gR 2 rfl (g_outX (gR 8 rfl (g_ret1 rfl rfl rfl fun w M => vl_T hV (by omega) hv M.ext)))))
theorem rtvalidI_c (l : List InsV) (hx : ∀ x ∈ l, IsIn x) (v : Value) (W : World) (hS : SlAt W 40 v l.length (insC l)) :
  Cal Tryz.prog 105 [v].toArray W fun r w' => r = .bool (validIs l) ∧ Ext [] W w' := by
 obtain ⟨q, cap, rfl, _⟩ := id hS
 have hm := hS.memB [] (by simp)
 unfold validIs
 generalize hV : vldL 512 ins1 cmpN l = b0
 refine g_start (n := 35) (S := []) fldT_ok slcT_ok Tryz.func105 rfl rfl rfl ?_
 by_cases c0 : 512 < l.length
 ·refine gR 13 rfl ?_
  exact g_ifT rfl (dqT (by omega)) (gR 7 rfl (g_ret1 rfl rfl rfl fun w M => vl_L hV c0 M.ext))
 refine gR 13 rfl (g_ifF rfl (dqF (by omega)) (gR 11 rfl (g_loop (ι := Nat) ⟨fun (i : Nat) => l.length - i, fun (i : Nat) => i ≤ l.length ∧ (∀ j, j < i → vld1 ins1 cmpN l j = true), fun (i : Nat) => [(10, .int .i64 i), (9, .int .i64 l.length), (8, .slice q l.length cap), (0, .slice q l.length cap)], fun (i : Nat) => []⟩ 0 ⟨by omega, by omega⟩ (fun a F => F.only [10, 9, 8, 0] rfl) (by repeat (first | exact .refl _ | apply sC2 | apply sC1)) ?_)))
 rintro i ⟨hi_i, hv⟩
 by_cases hlt_i : i < l.length
 ·obtain ⟨b, o, cs, t', fz, rfl, hb, hs⟩ := hm (by omega)
  obtain ⟨x, hx0⟩ : ∃ x, x = l[i] := ⟨_, rfl⟩
  have hxm : x ∈ l := by rw [hx0];exact List.getElem_mem hlt_i
  have hxi : IsIn x := hx _ hxm
  have f1 : seg cs (o + (i : Int).toNat * 40) 40 = some (inC x) := by rw [hx0];exact seg_el (ins_len hx) hs hlt_i (by omega)
  replace hx0 := hx0.symm
  have xd : IsDv x.to := hxi.1
  by_cases hi0 : 0 < i
  ·obtain ⟨y, hy0⟩ : ∃ y, y = l[i - 1]'(by omega) := ⟨_, rfl⟩
   have yI : IsIn y := by rw [hy0];exact hx _ (List.getElem_mem _)
   have f2 : seg cs (o + ((i : Int) - 1).toNat * 40) 40 = some (inC y) := by rw [hy0];exact seg_el (ins_len hx) hs (show i - 1 < l.length by omega) (by omega)
   replace hy0 := hy0.symm
   have yd : IsDv y.to := yI.1
   refine gR 6 rfl (g_ifT rfl (dqT (by omega)) (gR 7 rfl (g_ixS rfl rfl (by omega) (by omega) (g_leA rfl ‹_› (by with_reducible assumption) ?_))))
   refine g_alloc fun b4 => gR 1 rfl (g_stA 0 rfl rfl (in_len ‹_›) (in_one _) rfl (put_all (by rw [in_len ‹_›];first | rfl | rw [in_len ‹_›])) rfl ?_)
   refine gR 3 rfl (g_draw 19 35 rfl (by kernel_rfl) (fd_ldA 0 rfl rfl (in_all ‹_›) ?_))
   refine fd_call rfl rfl (fun w M => rtelem_c _ ‹_› _) ?_
   refine fR 2 rfl (fd_split 18 rfl (fun h1 => ?_) (fun h1 => ?_))
   ·replace h1 := false_of_not h1
    exact fR 15 rfl (fd_done rfl rfl (gR 11 rfl (g_outR (gR 2 rfl (g_ret1 rfl rfl rfl fun w M => vl_F hV hlt_i hx0.symm (by first | assumption | (unfold ins1;simp [*];done) | (unfold ins1 finD inf;simp [*])) M.ext)))))
   ·replace h1 := true_of_not h1
    refine fR 3 rfl (fd_know 21 rfl (dqT (by omega)) (fR 2 rfl (fd_sub rfl rfl (w_i64 (by omega) (by omega)) (fd_ixS rfl rfl (by omega) (by omega) (fR 1 rfl (fd_leA rfl ‹_› (sg_seg f2 (in_to ‹_›) (by omega)) ?_))))))
    refine fR 1 rfl (fd_ldA 0 rfl rfl (in_to ‹_›) ?_)
    refine fd_call rfl rfl (fun w M => scompare_c _ _ ‹_› ‹_› _) ?_
    refine fR 3 rfl (fd_done rfl rfl (gR 2 rfl (g_if rfl (fun h2 => ?_) (fun h2 => ?_))))
    ·replace h2 := dqU h2
     exact gR 8 rfl (g_outR (gR 2 rfl (g_ret1 rfl rfl rfl fun w M => vl_S hV hlt_i hi0 hx0.symm hy0.symm (by unfold cmpN;omega) M.ext)))
    ·replace h2 := dqV h2
     refine gR 4 rfl (g_add rfl rfl (w_i64 (by omega) (by omega)) (gR 2 rfl ?_))
     exact g_next (i + 1) ⟨by omega, vl_N hlt_i hx0.symm hv (by first | assumption | (unfold ins1;simp [*];done) | (unfold ins1 finD inf;simp [*])) fun _ => by rw [hy0];exact (by unfold cmpN;omega)⟩ (by dsimp only;omega) (fun a F => F.only [10, 9, 8, 0] rfl) (by (try dsimp only);repeat (first | exact .refl _ | with_reducible exact sC0 _ | with_reducible apply sC2 | apply sC1))
  ·refine gR 6 rfl ?_
   refine g_ifT rfl (dqT (by omega)) (gR 7 rfl (g_ixS rfl rfl (by omega) (by omega) (g_leA rfl ‹_› (by with_reducible assumption) ?_)))
   refine g_alloc fun b4 => gR 1 rfl (g_stA 0 rfl rfl (in_len ‹_›) (in_one _) rfl (put_all (by rw [in_len ‹_›];first | rfl | rw [in_len ‹_›])) rfl ?_)
   refine gR 3 rfl (g_draw 19 35 rfl (by kernel_rfl) (fd_ldA 0 rfl rfl (in_all ‹_›) ?_))
   refine fd_call rfl rfl (fun w M => rtelem_c _ ‹_› _) ?_
   refine fR 2 rfl (fd_split 18 rfl (fun h1 => ?_) (fun h1 => ?_))
   ·replace h1 := false_of_not h1
    exact fR 15 rfl (fd_done rfl rfl (gR 11 rfl (g_outR (gR 2 rfl (g_ret1 rfl rfl rfl fun w M => vl_F hV hlt_i hx0.symm (by first | assumption | (unfold ins1;simp [*];done) | (unfold ins1 finD inf;simp [*])) M.ext)))))
   ·replace h1 := true_of_not h1
    exact fR 3 rfl (fd_know 21 rfl (dqF (by omega)) (fR 12 rfl (fd_done rfl rfl (gR 7 rfl (g_add rfl rfl (w_i64 (by omega) (by omega)) (gR 2 rfl (g_next (i + 1) ⟨by omega, vl_N hlt_i hx0.symm hv (by first | assumption | (unfold ins1;simp [*];done) | (unfold ins1 finD inf;simp [*])) fun h => absurd h hi0⟩ (by dsimp only;omega) (fun a F => F.only [10, 9, 8, 0] rfl) (by (try dsimp only);repeat (first | exact .refl _ | with_reducible exact sC0 _ | with_reducible apply sC2 | apply sC1)))))))))
 ·have hil : i = l.length := by omega
  rw [hil] at hv
  exact gR 6 rfl (g_ifF rfl (dqF (by omega)) (gR 2 rfl (g_outX (gR 8 rfl (g_ret1 rfl rfl rfl fun w M => vl_T hV (by omega) hv M.ext)))))
def hitS (now : Int) (t : DstV) (x : SrcV) : Bool := decide (x.to = t) && decide (now < x.til)
theorem bestS_is (s : List SrcV) (now : Int) (t : DstV) : bestS s now t = (s.find? (hitS now t)).map (·.bst) := rfl
theorem Has.app {l : List (Nat × Obj)} {b : Nat} {o : Obj} (h : Has l b o) : ∀ q : List (Nat × Obj), Has (q ++ l) b o
 | [] => h
 | _ :: q => .there (h.app q)
end Go.Proofs.YtfhkmgcalcfibaaGreat
namespace Go.Proofs.YtfhkmgcalcfibaaGreat
open Go.RowKit Go.Sort
attribute [local irreducible] OpTo wpListIn Code.wpIn MW Cal
abbrev ADst := {d : DstV // IsDv d}
def z16 : List Int := [0, 0, 0, 0, 0, 0, 0, 0, 0, 0, 0, 0, 0, 0, 0, 0]
theorem z16_is : IsIP z16 := ⟨rfl, by intro x hx;simp [z16] at hx;omega⟩
instance : Inhabited ADst := ⟨⟨⟨z16, 0, z16, 0, 0⟩, z16_is, z16_is⟩⟩
def cfD (x y : ADst) : Int := cmpD x.1 y.1
theorem ltD (x y : ADst) : ltOf cfD x y = true ↔ cmpD x.1 y.1 < 0 := decide_eq_true_iff
theorem ltD_f (x y : ADst) : ltOf cfD x y = false ↔ ¬ cmpD x.1 y.1 < 0 := decide_eq_false_iff_not
theorem swoD : SWO (ltOf cfD) where
 irrefl x := by rw [ltD_f, cmpD_self];omega
 trans x y z h1 h2 := by rw [ltD] at *;exact cmpD_trans h1 h2
 ntrans x y z h1 h2 := by
  rw [ltD_f] at *
  intro h
  have h3 := cmpD_anti x.1 y.1
  rcases Int.lt_trichotomy (cmpD y.1 x.1) 0 with h4 | h4 | h4
  ·exact h2 (cmpD_trans h4 h)
  ·rw [cmpD_zero y.2 x.2 h4] at h2
   exact h2 h
  ·omega
theorem totD (x y : ADst) (h1 : ltOf cfD x y = false) (h2 : ltOf cfD y x = false) : x = y := by
 rw [ltD_f] at *
 have h3 := cmpD_anti x.1 y.1
 exact Subtype.ext (cmpD_zero x.2 y.2 (by omega))
end Go.Proofs.YtfhkmgcalcfibaaGreat
namespace Go.Proofs.YtfhkmgcalcfibaaGreat
open Go.RowKit
attribute [local irreducible] OpTo wpListIn Code.wpIn MW Cal
def dedS {α : Type} [DecidableEq α] (acc : List α) (x : α) : List α := if acc.getLast? = some x then acc else acc ++ [x]
def dedA {α : Type} [DecidableEq α] (ls : List α) : List α := ls.foldl dedS []
section
variable {α : Type} [DecidableEq α]
theorem dedS_last (acc : List α) (x : α) : (dedS acc x).getLast? = some x := by
 unfold dedS
 split
 ·assumption
 ·simp
theorem dedA_take {ls : List α} {j : Nat} (hj : j < ls.length) : dedA (ls.take (j + 1)) = dedS (dedA (ls.take j)) ls[j] := by
 unfold dedA
 rw [List.take_add_one, List.getElem?_eq_getElem hj, List.foldl_append]
 rfl
theorem dedA_last {ls : List α} {j : Nat} (h0 : 0 < j) (hj : j ≤ ls.length) : (dedA (ls.take j)).getLast? = some ls[j - 1] := by
 obtain ⟨i, rfl⟩ : ∃ i, j = i + 1 := ⟨j - 1, by omega⟩
 rw [dedA_take (by omega), dedS_last]
 simp
theorem dedA_step {ls : List α} {j : Nat} (h0 : 0 < j) (hj : j < ls.length) : dedA (ls.take (j + 1)) = if ls[j] = ls[j - 1] then dedA (ls.take j) else dedA (ls.take j) ++ [ls[j]] := by
 rw [dedA_take hj]
 unfold dedS
 rw [dedA_last h0 (by omega)]
 by_cases h : ls[j] = ls[j - 1]
 ·rw [if_pos (by rw [h]), if_pos h]
 ·rw [if_neg (by intro e;exact h (by simpa using e.symm)), if_neg h]
theorem dedA_one (ls : List α) : dedA (ls.take 1) = ls.take 1 := by
 cases ls with
 | nil => rfl
 | cons x xs => simp [dedA, dedS]
theorem dedA_le (ls : List α) (j : Nat) (hj : j ≤ ls.length) : (dedA (ls.take j)).length ≤ j := by
 induction j with
 | zero => simp [dedA]
 | succ j ih =>
  rw [dedA_take (by omega)]
  have := ih (by omega)
  unfold dedS
  split
  ·omega
  ·simp;omega
end
section
variable {P : Program} {ρ : Operand → Value} {w W0 : World} {S : List Nat} {l : List (Nat × Obj)} {l' : List Value → List (Nat × Obj)} {R : Value → World → Prop} {d : Option Tmp} {ty : TypeId} {pos : String} {af : Array Edge} {g : Option (Nat × Bool)}
theorem o_clear {t e : TypeId} {x : Operand} {b off n cap sz : Nat} {zs cs : List Value} {t' : TypeId} [ht : TU P t (.slice e)] [hz : TZero P e zs] (M : Mem S W0 w l) (hx : ρ x = .slice (some ⟨b, off, none⟩) n cap) (hn : 0 < n) (hzl : zs.length = sz) (h1 : zs.all (·.oneCell') = true) (hb : Has l b (.cells cs.toArray t' (0, 0))) (hle : off + n * sz ≤ cs.length)
  (hu : ∀ vs, Upd l b (.cells cs.toArray t' (0, 0)) (.cells (splice cs off vs).toArray t' (0, 0)) (l' vs)) (h : ∀ vs w', vs.length = n * sz → Mem S W0 w' (l' vs) → R (.tuple #[]) w') : OpTo P ⟨d, .call ⟨.builtin .clear, #[x], #[t]⟩, ty, pos, af, g⟩ ρ w R := by
 obtain ⟨m, rfl⟩ : ∃ m, n = m + 1 := ⟨n - 1, by omega⟩
 obtain ⟨z, hzc, hzr⟩ := run_zeroC (w := w) hz.h
 have hzs : z.cells.size = sz := by rw [hzc];simpa using hzl
 obtain ⟨vs, hvs⟩ : ∃ vs, vs = (Builtin.zeroCells z.cells (m + 1)).toList := ⟨_, rfl⟩
 have hvl : vs.length = (m + 1) * sz := by rw [hvs];simp [Builtin.zeroCells, hzs]
 have hv1 : ∀ v ∈ vs, v.oneCell' = true := by
  intro v hv
  rw [hvs] at hv
  simp only [Builtin.zeroCells, Array.toList_map, List.mem_map] at hv
  obtain ⟨i, hi, rfl⟩ := hv
  have hi2 : i < (m + 1) * z.cells.size := by simpa using hi
  have hpos : 0 < z.cells.size := Nat.pos_of_ne_zero fun h => by rw [h] at hi2;simp at hi2
  have hlt : i % z.cells.size < z.cells.size := Nat.mod_lt _ hpos
  rw [getElem!_pos z.cells (i % z.cells.size) hlt]
  refine List.all_eq_true.1 h1 _ ?_
  have hm : z.cells[i % z.cells.size] ∈ z.cells.toList := by simp
  have hzz : z.cells.toList = zs := by rw [hzc]
  rwa [hzz] at hm
 obtain ⟨w', hr, hE, hb'⟩ := run_storeRow (P := P) (b := b) (off := off) (t' := t') vs 0 cs w (M.heap hb) (by rw [hvl];omega) hv1
 have hrun : (Builtin.clear_ #[t] ty #[.slice (some ⟨b, off, none⟩) (m + 1) cap]).run P w = .ok (.tuple #[]) w' := by
  simp [Builtin.clear_, run_underlying ht.h, hzr, ← hvs, hr]
 exact OpTo.val (v := .tuple #[]) (w' := w') (by simp [execOp, resolve, invoke, builtin, hx, hrun]) (h vs w' hvl (M.turned (hu vs) hE hb'))
end
theorem take_set_succ {α : Type} {cur : List α} {i : Nat} {x : α} (h : i < cur.length) : (cur.set i x).take (i + 1) = cur.take i ++ [x] := by
 rw [List.take_add_one, List.getElem?_set_self h, List.take_set_of_le (Nat.le_refl _)]
 rfl
theorem ded_fold : ∀ (xs acc : List DstV), AscD acc → (∀ x ∈ acc, IsDv x) → (∀ x ∈ xs, IsDv x) → xs.Pairwise (fun a b => ¬ cmpD b a < 0) → (∀ a ∈ acc, ∀ x ∈ xs, ¬ cmpD x a < 0) → AscD (xs.foldl dedS acc) ∧ ∀ y, y ∈ xs.foldl dedS acc ↔ y ∈ acc ∨ y ∈ xs
 | [], acc, h, _, _, _, _ => ⟨h, by simp⟩
 | x :: xs, acc, h, ia, ix, hp, hle => by
  have hp1 := List.pairwise_cons.1 hp
  have hlt : ∀ a b : DstV, IsDv a → IsDv b → ¬ cmpD b a < 0 → a ≠ b → cmpD a b < 0 := by
   intro a b ha hb h1 h2
   have h3 := cmpD_anti b a
   have h4 : cmpD a b ≠ 0 := fun e => h2 (cmpD_zero ha hb e)
   omega
  rw [List.foldl_cons]
  unfold dedS
  by_cases hl : acc.getLast? = some x
  ·rw [if_pos hl]
   obtain ⟨h1, h2⟩ := ded_fold xs acc h ia (fun y hy => ix y (List.mem_cons_of_mem _ hy)) hp1.2 (fun a ha y hy => hle a ha y (List.mem_cons_of_mem _ hy))
   refine ⟨h1, fun y => ?_⟩
   rw [show (fun acc x => if acc.getLast? = some x then acc else acc ++ [x]) = @dedS DstV _ from rfl, h2, List.mem_cons]
   constructor
   ·rintro (h | h) <;> simp [h]
   ·rintro (h | rfl | h)
    ·exact .inl h
    ·exact .inl (List.mem_of_getLast? hl)
    ·exact .inr h
  ·rw [if_neg hl]
   have hx := ix x (by simp)
   have hacc : ∀ a ∈ acc, cmpD a x < 0 := by
    intro a ha
    obtain ⟨ys, z, rfl⟩ : ∃ ys z, acc = ys ++ [z] := ⟨acc.dropLast, acc.getLast (by rintro rfl;simp at ha), (List.dropLast_concat_getLast _).symm⟩
    have hz : z ≠ x := fun e => hl (by simp [e])
    have hzx := hlt z x (ia z (by simp)) hx (hle z (by simp) x (by simp)) hz
    rcases List.mem_append.1 ha with h1 | h1
    ·exact cmpD_trans ((List.pairwise_append.1 h).2.2 a h1 z (by simp)) hzx
    ·simp at h1
     rw [h1];exact hzx
   have hasc : AscD (acc ++ [x]) := List.pairwise_append.2 ⟨h, by simp, fun a ha b hb => by simp at hb;rw [hb];exact hacc a ha⟩
   obtain ⟨h1, h2⟩ := ded_fold xs (acc ++ [x]) hasc (fun y hy => by
    rcases List.mem_append.1 hy with h | h
    ·exact ia y h
    ·simp at h;rw [h];exact hx) (fun y hy => ix y (List.mem_cons_of_mem _ hy)) hp1.2 (fun a ha y hy => by
    rcases List.mem_append.1 ha with h | h
    ·exact hle a h y (List.mem_cons_of_mem _ hy)
    ·simp at h;rw [h];exact hp1.1 y hy)
   refine ⟨h1, fun y => ?_⟩
   rw [show (fun acc x => if acc.getLast? = some x then acc else acc ++ [x]) = @dedS DstV _ from rfl, h2, List.mem_append, List.mem_cons, List.mem_cons]
   constructor
   ·rintro ((h | h | h) | h) <;> simp_all
   ·rintro (h | h | h) <;> simp_all
def findI {α : Type} (p : α → Bool) (ls : List α) : Int := match ls.findIdx? p with | some i => i | none => -1
theorem findI_at {α : Type} {p : α → Bool} {ls : List α} {i : Nat} (hi : i < ls.length) (h : p ls[i] = true) (hn : ∀ j (hj : j < i), p ls[j] = false) : findI p ls = i := by
 have : ls.findIdx? p = some i := List.findIdx?_eq_some_iff_getElem.2 ⟨hi, h, fun j hj => by simp [hn j hj]⟩
 simp [findI, this]
theorem findI_none {α : Type} {p : α → Bool} {ls : List α} (hn : ∀ j (hj : j < ls.length), p ls[j] = false) : findI p ls = -1 := by
 have : ls.findIdx? p = none := List.findIdx?_eq_none_iff.2 fun x hx => by
  obtain ⟨j, hj, rfl⟩ := List.mem_iff_getElem.1 hx
  exact hn j hj
 simp [findI, this]
end Go.Proofs.YtfhkmgcalcfibaaGreat
namespace Go.Proofs.YtfhkmgcalcfibaaGreat
open Go.RowKit
section
variable {now : Int} {s : List SrcV} {cm : List (Int × Int)} {t : DstV} {l : List RouV}
end
structure Yet {α : Type} (to : α → DstV) (l : List α) (ds : List DstV) (r : Nat) : Prop where
 le : r ≤ l.length
 gone : ∀ j (hj : j < l.length), j < r → to l[j] ∉ ds
 yet : ∀ j (hj : j < l.length), r ≤ j → to l[j] ∈ ds
abbrev Weak {α : Type} (to : α → DstV) (l : List α) : Prop := l.Pairwise fun a b => ¬ cmpD (to b) (to a) < 0
theorem Yet.next {α : Type} {to : α → DstV} {l : List α} {t : DstV} {ds : List DstV} {r r1 : Nat} (hW : Weak to l) (hd : AscD (t :: ds)) (hi : ∀ x ∈ t :: ds, IsDv x) (h : Yet to l (t :: ds) r) (hr : r ≤ r1) (hle : r1 ≤ l.length) (he : ∀ j (hj : j < l.length), r ≤ j → j < r1 → to l[j] = t) (hn : ∀ hj : r1 < l.length, to l[r1] ≠ t) : Yet to l ds r1 ∧ ∀ j (hj : j < l.length), r1 ≤ j → to l[j] ≠ t := by
 have hd1 := List.pairwise_cons.1 hd
 have htn : t ∉ ds := fun h => by have := hd1.1 t h;rw [cmpD_self] at this;omega
 have key : ∀ j (hj : j < l.length), r1 ≤ j → to l[j] ≠ t := by
  intro j hj h1 e
  have hr1 : r1 < l.length := by omega
  have h2 := h.yet r1 hr1 hr
  have h3 : cmpD t (to l[r1]) < 0 := by
   rcases List.mem_cons.1 h2 with h4 | h4
   ·exact absurd h4 (hn hr1)
   ·exact hd1.1 _ h4
  rcases Nat.lt_or_ge r1 j with h5 | h5
  ·have := (List.pairwise_iff_getElem.1 hW) r1 j hr1 hj h5
   rw [e] at this
   exact this h3
  ·obtain rfl : j = r1 := by omega
   exact hn hj e
 refine ⟨⟨hle, fun j hj h1 h2 => ?_, fun j hj h1 => ?_⟩, key⟩
 ·rcases Nat.lt_or_ge j r with h3 | h3
  ·exact h.gone j hj h3 (List.mem_cons_of_mem _ h2)
  ·rw [he j hj h3 h1] at h2
   exact htn h2
 ·rcases List.mem_cons.1 (h.yet j hj (by omega)) with h2 | h2
  ·exact absurd h2 (key j hj h1)
  ·exact h2
theorem Yet.before {α : Type} {to : α → DstV} {l : List α} {t : DstV} {ds : List DstV} {r : Nat} (h : Yet to l (t :: ds) r) : ∀ j (hj : j < l.length), j < r → to l[j] ≠ t := fun j hj h1 e => h.gone j hj h1 (by rw [e];simp)
def k5 : OptV := ⟨5, 300⟩
section
variable {t : DstV} {d : DisV} {now til : Int}
end
end Go.Proofs.YtfhkmgcalcfibaaGreat
namespace Go.Proofs.YtfhkmgcalcfibaaGreat
open Go.RowKit
attribute [local irreducible] OpTo wpListIn Code.wpIn MW Cal
theorem reforder_c (x y : RouV) (ha : IsRo x) (hb : IsRo y) (W : World) : Cal Tryz.prog 199 [.agg (roC x).toArray, .agg (roC y).toArray].toArray W fun v w' => v = .int .i64 (cmpR x y) ∧ Ext [] W w' := by
 have a1 := ro_to ha
 have a2 := ro_nb ha
 have c1 := ro_to hb
 have c2 := ro_nb hb
 rw [cmpR_or ha.1 hb.1]
 unfold orI cmpI
 refine g_start (n := 24) (S := []) fldT_ok slcT_ok Tryz.func199 rfl rfl rfl ?_
 by_cases k : cmpD x.to y.to = 0
 ·rw [if_pos k]
  by_cases k2 : x.nb < y.nb
  ·rw [if_pos k2]
   refine gR 2 rfl (g_box rfl rfl fun b2 => g_box rfl rfl fun b3 => gR 7 rfl (g_ldA 1 rfl rfl (ro_to ‹_›) ?_))
   refine gR 1 rfl (g_ldA 0 rfl rfl (ro_to ‹_›) ?_)
   refine g_call rfl rfl (fun w M => rcompare_c _ _ (And.left ‹_›) (And.left ‹_›) _) ?_
   refine gR 9 rfl (g_ifF rfl (bneF (by omega)) (gR 6 rfl (g_ld1 1 rfl rfl (ro_nb ‹_›) ?_)))
   refine gR 1 rfl (g_ld1 0 rfl rfl (ro_nb ‹_›) ?_)
   exact gR 3 rfl (g_ifT rfl (dqT (by omega)) (gR 7 rfl (g_ret1 rfl rfl rfl fun w M => ⟨rfl, M.ext⟩)))
  ·rw [if_neg k2]
   by_cases k3 : y.nb < x.nb
   ·rw [if_pos k3]
    refine gR 2 rfl (g_box rfl rfl fun b2 => g_box rfl rfl fun b3 => gR 7 rfl (g_ldA 1 rfl rfl (ro_to ‹_›) ?_))
    refine gR 1 rfl (g_ldA 0 rfl rfl (ro_to ‹_›) ?_)
    refine g_call rfl rfl (fun w M => rcompare_c _ _ (And.left ‹_›) (And.left ‹_›) _) ?_
    refine gR 9 rfl (g_ifF rfl (bneF (by omega)) (gR 6 rfl (g_ld1 1 rfl rfl (ro_nb ‹_›) ?_)))
    refine gR 1 rfl (g_ld1 0 rfl rfl (ro_nb ‹_›) ?_)
    refine gR 3 rfl (g_ifF rfl (dqF (by omega)) (gR 6 rfl (g_ld1 1 rfl rfl (ro_nb ‹_›) ?_)))
    refine gR 1 rfl (g_ld1 0 rfl rfl (ro_nb ‹_›) ?_)
    exact gR 3 rfl (g_ifT rfl (dqT (by omega)) (gR 7 rfl (g_ret1 rfl rfl rfl fun w M => ⟨rfl, M.ext⟩)))
   ·rw [if_neg k3]
    refine gR 2 rfl (g_box rfl rfl fun b2 => g_box rfl rfl fun b3 => gR 7 rfl (g_ldA 1 rfl rfl (ro_to ‹_›) ?_))
    refine gR 1 rfl (g_ldA 0 rfl rfl (ro_to ‹_›) ?_)
    refine g_call rfl rfl (fun w M => rcompare_c _ _ (And.left ‹_›) (And.left ‹_›) _) ?_
    refine gR 9 rfl (g_ifF rfl (bneF (by omega)) (gR 6 rfl (g_ld1 1 rfl rfl (ro_nb ‹_›) ?_)))
    refine gR 1 rfl (g_ld1 0 rfl rfl (ro_nb ‹_›) ?_)
    refine gR 3 rfl (g_ifF rfl (dqF (by omega)) (gR 6 rfl (g_ld1 1 rfl rfl (ro_nb ‹_›) ?_)))
    refine gR 1 rfl (g_ld1 0 rfl rfl (ro_nb ‹_›) ?_)
    exact gR 3 rfl (g_ifF rfl (dqF (by omega)) (gR 8 rfl (g_ret1 rfl rfl rfl fun w M => ⟨rfl, M.ext⟩)))
 ·rw [if_neg k]
  refine gR 2 rfl (g_box rfl rfl fun b2 => g_box rfl rfl fun b3 => gR 7 rfl (g_ldA 1 rfl rfl (ro_to ‹_›) ?_))
  refine gR 1 rfl (g_ldA 0 rfl rfl (ro_to ‹_›) ?_)
  refine g_call rfl rfl (fun w M => rcompare_c _ _ (And.left ‹_›) (And.left ‹_›) _) ?_
  exact gR 9 rfl (g_ifT rfl (bne_iff_ne.2 (by omega)) (gR 8 rfl (g_ret1 rfl rfl rfl fun w M => ⟨rfl, M.ext⟩)))
theorem refvalidR_c (l : List RouV) (hx : ∀ x ∈ l, IsRo x) (v : Value) (W : World) (hS : SlAt W 39 v l.length (rosC l)) :
  Cal Tryz.prog 114 [v].toArray W fun r w' => r = .bool (validRs l) ∧ Ext [] W w' := by
 obtain ⟨q, cap, rfl, _⟩ := id hS
 have hm := hS.memB [] (by simp)
 unfold validRs
 generalize hV : vldL 512 rou1 cmpR l = b0
 refine g_start (n := 70) (S := []) fldT_ok slcT_ok Tryz.func114 rfl rfl rfl ?_
 by_cases c0 : 512 < l.length
 ·refine gR 13 rfl ?_
  exact g_ifT rfl (dqT (by omega)) (gR 7 rfl (g_ret1 rfl rfl rfl fun w M => vl_L hV c0 M.ext))
 refine gR 13 rfl (g_ifF rfl (dqF (by omega)) (gR 11 rfl (g_loop (ι := Nat) ⟨fun (i : Nat) => l.length - i, fun (i : Nat) => i ≤ l.length ∧ (∀ j, j < i → vld1 rou1 cmpR l j = true), fun (i : Nat) => [(9, .int .i64 i), (8, .int .i64 l.length), (7, .slice q l.length cap), (0, .slice q l.length cap)], fun (i : Nat) => []⟩ 0 ⟨by omega, by omega⟩ (fun a F => F.only [9, 8, 7, 0] rfl) (by repeat (first | exact .refl _ | apply sC2 | apply sC1)) ?_)))
 rintro i ⟨hi_i, hv⟩
 by_cases hlt_i : i < l.length
 ·obtain ⟨b, o, cs, t', fz, rfl, hb, hs⟩ := hm (by omega)
  obtain ⟨x, hx0⟩ : ∃ x, x = l[i] := ⟨_, rfl⟩
  have hxm : x ∈ l := by rw [hx0];exact List.getElem_mem hlt_i
  have hxi : IsRo x := hx _ hxm
  have f1 : seg cs (o + (i : Int).toNat * 39) 39 = some (roC x) := by rw [hx0];exact seg_el (ros_len hx) hs hlt_i (by omega)
  replace hx0 := hx0.symm
  have xd : IsDv x.to := hxi.1
  refine gR 6 rfl (g_ifT rfl (dqT (by omega)) (gR 15 rfl (g_ixS rfl rfl (by omega) (by omega) (gR 1 rfl (g_leA rfl ‹_› (sg_seg ‹_› (ro_to ‹_›) (by omega)) ?_)))))
  refine g_call rfl rfl (fun w M => rvalidTo_c _ ‹_› _) ?_
  refine gR 2 rfl (g_split 19 rfl (fun h1 => ?_) (fun h1 => ?_))
  ·replace h1 := false_of_not h1
   exact gR 46 rfl (g_outR (gR 2 rfl (g_ret1 rfl rfl rfl fun w M => vl_F hV hlt_i hx0.symm (by first | assumption | (unfold rou1;simp [*];done) | (unfold rou1 finD inf;simp [*])) M.ext)))
  replace h1 := true_of_not h1
  refine gR 2 rfl (g_ixS rfl rfl (by omega) (by omega) (gR 1 rfl (g_le1 rfl ‹_› (sg_nth ‹_› (ro_nb ‹_›) (by omega)) ?_)))
  refine gR 3 rfl (g_split 27 rfl (fun h2 => ?_) (fun h2 => ?_))
  ·replace h2 := dqU h2
   exact gR 38 rfl (g_outR (gR 2 rfl (g_ret1 rfl rfl rfl fun w M => vl_F hV hlt_i hx0.symm (by first | assumption | (unfold rou1;simp [*];done) | (unfold rou1 finD inf;simp [*])) M.ext)))
  replace h2 := dqV h2
  refine gR 2 rfl (g_ixS rfl rfl (by omega) (by omega) (gR 1 rfl (g_leA rfl ‹_› (sg_seg ‹_› (ro_said ‹_›) (by omega)) ?_)))
  refine g_call rfl rfl (fun w M => rdvalid_c _ _) (gR 3 rfl (g_split 36 rfl (fun h3 => ?_) (fun h3 => ?_)))
  ·replace h3 := false_of_not h3
   exact gR 29 rfl (g_outR (gR 2 rfl (g_ret1 rfl rfl rfl fun w M => vl_F hV hlt_i hx0.symm (by first | assumption | (unfold rou1;simp [*];done) | (unfold rou1 finD inf;simp [*])) M.ext)))
  replace h3 := true_of_not h3
  refine gR 2 rfl (g_ixS rfl rfl (by omega) (by omega) (gR 2 rfl (g_le1 rfl ‹_› (sg_nth ‹_› (ro_said_met ‹_›) (by omega)) ?_)))
  refine gR 3 rfl (g_split 45 rfl (fun h4 => ?_) (fun h4 => ?_))
  ·replace h4 := dqU h4
   exact gR 20 rfl (g_outR (gR 2 rfl (g_ret1 rfl rfl rfl fun w M => vl_F hV hlt_i hx0.symm (by first | assumption | (unfold rou1;simp [*];done) | (unfold rou1 finD inf;simp [*])) M.ext)))
  replace h4 := dqV h4
  refine gR 2 rfl (g_ixS rfl rfl (by omega) (by omega) (gR 1 rfl (g_le1 rfl ‹_› (sg_nth ‹_› (ro_til ‹_›) (by omega)) ?_)))
  refine g_call rfl rfl (fun w M => risTime_c _ _) (gR 4 rfl (g_if rfl (fun h5 => ?_) (fun h5 => ?_)))
  ·replace h5 := false_of_not h5
   exact gR 9 rfl (g_outR (gR 2 rfl (g_ret1 rfl rfl rfl fun w M => vl_F hV hlt_i hx0.symm (by first | assumption | (unfold rou1;simp [*];done) | (unfold rou1 finD inf;simp [*])) M.ext)))
  replace h5 := true_of_not h5
  refine gR 2 rfl ?_
  by_cases hi0 : 0 < i
  ·obtain ⟨y, hy0⟩ : ∃ y, y = l[i - 1]'(by omega) := ⟨_, rfl⟩
   have yI : IsRo y := by rw [hy0];exact hx _ (List.getElem_mem _)
   have f2 : seg cs (o + ((i : Int) - 1).toNat * 39) 39 = some (roC y) := by rw [hy0];exact seg_el (ros_len hx) hs (show i - 1 < l.length by omega) (by omega)
   replace hy0 := hy0.symm
   have yd : IsDv y.to := yI.1
   refine gR 1 rfl (g_draw 15 70 rfl (by kernel_rfl) (fR 3 rfl (fd_know 56 rfl (dqT (by omega)) (fR 2 rfl (fd_sub rfl rfl (w_i64 (by omega) (by omega)) (fd_ixS rfl rfl (by omega) (by omega) (fd_leA rfl ‹_› (by with_reducible assumption) ?_)))))))
   refine fR 2 rfl (fd_ixS rfl rfl (by omega) (by omega) (fd_leA rfl ‹_› (by with_reducible assumption) ?_))
   refine fd_call rfl rfl (fun w M => reforder_c _ _ ‹_› ‹_› _) ?_
   refine fR 2 rfl (fd_done rfl rfl (gR 2 rfl (g_if rfl (fun h1 => ?_) (fun h1 => ?_))))
   ·replace h1 := dqU h1
    exact gR 8 rfl (g_outR (gR 2 rfl (g_ret1 rfl rfl rfl fun w M => vl_S hV hlt_i hi0 hx0.symm hy0.symm (by omega) M.ext)))
   ·replace h1 := dqV h1
    refine gR 4 rfl (g_add rfl rfl (w_i64 (by omega) (by omega)) (gR 2 rfl ?_))
    exact g_next (i + 1) ⟨by omega, vl_N hlt_i hx0.symm hv (by first | assumption | (unfold rou1;simp [*];done) | (unfold rou1 finD inf;simp [*])) fun _ => by rw [hy0];exact (by omega)⟩ (by dsimp only;omega) (fun a F => F.only [9, 8, 7, 0] rfl) (by (try dsimp only);repeat (first | exact .refl _ | with_reducible exact sC0 _ | with_reducible apply sC2 | apply sC1))
  ·refine gR 1 rfl ?_
   exact g_draw 15 70 rfl (by kernel_rfl) (fR 3 rfl (fd_know 56 rfl (dqF (by omega)) (fR 12 rfl (fd_done rfl rfl (gR 7 rfl (g_add rfl rfl (w_i64 (by omega) (by omega)) (gR 2 rfl (g_next (i + 1) ⟨by omega, vl_N hlt_i hx0.symm hv (by first | assumption | (unfold rou1;simp [*];done) | (unfold rou1 finD inf;simp [*])) fun h => absurd h hi0⟩ (by dsimp only;omega) (fun a F => F.only [9, 8, 7, 0] rfl) (by (try dsimp only);repeat (first | exact .refl _ | with_reducible exact sC0 _ | with_reducible apply sC2 | apply sC1))))))))))
 ·have hil : i = l.length := by omega
  rw [hil] at hv
  exact gR 6 rfl (g_ifF rfl (dqF (by omega)) (gR 2 rfl (g_outX (gR 8 rfl (g_ret1 rfl rfl rfl fun w M => vl_T hV (by omega) hv M.ext)))))
theorem refvalidS_c (l : List SrcV) (hx : ∀ x ∈ l, IsSr x) (v : Value) (W : World) (hS : SlAt W 38 v l.length (srsC l)) :
  Cal Tryz.prog 72 [v].toArray W fun r w' => r = .bool (validSs l) ∧ Ext [] W w' := by
 obtain ⟨q, cap, rfl, _⟩ := id hS
 have hm := hS.memB [] (by simp)
 unfold validSs
 generalize hV : vldL 256 src1 cmpS l = b0
 refine g_start (n := 64) (S := []) fldT_ok slcT_ok Tryz.func72 rfl rfl rfl ?_
 by_cases c0 : 256 < l.length
 ·refine gR 13 rfl ?_
  exact g_ifT rfl (dqT (by omega)) (gR 7 rfl (g_ret1 rfl rfl rfl fun w M => vl_L hV c0 M.ext))
 refine gR 13 rfl (g_ifF rfl (dqF (by omega)) (gR 11 rfl (g_loop (ι := Nat) ⟨fun (i : Nat) => l.length - i, fun (i : Nat) => i ≤ l.length ∧ (∀ j, j < i → vld1 src1 cmpS l j = true), fun (i : Nat) => [(9, .int .i64 i), (8, .int .i64 l.length), (7, .slice q l.length cap), (0, .slice q l.length cap)], fun (i : Nat) => []⟩ 0 ⟨by omega, by omega⟩ (fun a F => F.only [9, 8, 7, 0] rfl) (by repeat (first | exact .refl _ | apply sC2 | apply sC1)) ?_)))
 rintro i ⟨hi_i, hv⟩
 by_cases hlt_i : i < l.length
 ·obtain ⟨b, o, cs, t', fz, rfl, hb, hs⟩ := hm (by omega)
  obtain ⟨x, hx0⟩ : ∃ x, x = l[i] := ⟨_, rfl⟩
  have hxm : x ∈ l := by rw [hx0];exact List.getElem_mem hlt_i
  have hxi : IsSr x := hx _ hxm
  have f1 : seg cs (o + (i : Int).toNat * 38) 38 = some (srC x) := by rw [hx0];exact seg_el (srs_len hx) hs hlt_i (by omega)
  replace hx0 := hx0.symm
  have xd : IsDv x.to := hxi.1
  refine gR 6 rfl (g_ifT rfl (dqT (by omega)) (gR 15 rfl (g_ixS rfl rfl (by omega) (by omega) (gR 1 rfl (g_leA rfl ‹_› (sg_seg ‹_› (sr_to ‹_›) (by omega)) ?_)))))
  refine g_call rfl rfl (fun w M => rvalidTo_c _ ‹_› _) ?_
  refine gR 2 rfl (g_split 19 rfl (fun h1 => ?_) (fun h1 => ?_))
  ·replace h1 := false_of_not h1
   exact gR 38 rfl (g_outR (gR 2 rfl (g_ret1 rfl rfl rfl fun w M => vl_F hV hlt_i hx0.symm (by first | assumption | (unfold src1;simp [*];done) | (unfold src1 finD inf;simp [*])) M.ext)))
  replace h1 := true_of_not h1
  refine gR 2 rfl (g_ixS rfl rfl (by omega) (by omega) (gR 1 rfl (g_leA rfl ‹_› (sg_seg ‹_› (sr_bst ‹_›) (by omega)) ?_)))
  refine g_call rfl rfl (fun w M => rdvalid_c _ _) (gR 3 rfl (g_split 28 rfl (fun h2 => ?_) (fun h2 => ?_)))
  ·replace h2 := false_of_not h2
   exact gR 29 rfl (g_outR (gR 2 rfl (g_ret1 rfl rfl rfl fun w M => vl_F hV hlt_i hx0.symm (by first | assumption | (unfold src1;simp [*];done) | (unfold src1 finD inf;simp [*])) M.ext)))
  replace h2 := true_of_not h2
  refine gR 2 rfl (g_ixS rfl rfl (by omega) (by omega) (gR 2 rfl (g_le1 rfl ‹_› (sg_nth ‹_› (sr_bst_met ‹_›) (by omega)) ?_)))
  refine gR 3 rfl (g_split 37 rfl (fun h3 => ?_) (fun h3 => ?_))
  ·replace h3 := dqU h3
   exact gR 20 rfl (g_outR (gR 2 rfl (g_ret1 rfl rfl rfl fun w M => vl_F hV hlt_i hx0.symm (by first | assumption | (unfold src1;simp [*];done) | (unfold src1 finD inf;simp [*])) M.ext)))
  replace h3 := dqV h3
  refine gR 2 rfl (g_ixS rfl rfl (by omega) (by omega) (gR 1 rfl (g_le1 rfl ‹_› (sg_nth ‹_› (sr_til ‹_›) (by omega)) ?_)))
  refine g_call rfl rfl (fun w M => risTime_c _ _) (gR 4 rfl (g_if rfl (fun h4 => ?_) (fun h4 => ?_)))
  ·replace h4 := false_of_not h4
   exact gR 9 rfl (g_outR (gR 2 rfl (g_ret1 rfl rfl rfl fun w M => vl_F hV hlt_i hx0.symm (by first | assumption | (unfold src1;simp [*];done) | (unfold src1 finD inf;simp [*])) M.ext)))
  replace h4 := true_of_not h4
  refine gR 2 rfl ?_
  by_cases hi0 : 0 < i
  ·obtain ⟨y, hy0⟩ : ∃ y, y = l[i - 1]'(by omega) := ⟨_, rfl⟩
   have yI : IsSr y := by rw [hy0];exact hx _ (List.getElem_mem _)
   have f2 : seg cs (o + ((i : Int) - 1).toNat * 38) 38 = some (srC y) := by rw [hy0];exact seg_el (srs_len hx) hs (show i - 1 < l.length by omega) (by omega)
   replace hy0 := hy0.symm
   have yd : IsDv y.to := yI.1
   refine gR 1 rfl (g_draw 17 64 rfl (by kernel_rfl) (fR 3 rfl (fd_know 48 rfl (dqT (by omega)) (fR 2 rfl (fd_sub rfl rfl (w_i64 (by omega) (by omega)) (fd_ixS rfl rfl (by omega) (by omega) (fR 1 rfl (fd_leA rfl ‹_› (sg_seg f2 (sr_to ‹_›) (by omega)) ?_))))))))
   refine fR 2 rfl (fd_ixS rfl rfl (by omega) (by omega) (fR 1 rfl (fd_leA rfl ‹_› (sg_seg f1 (sr_to ‹_›) (by omega)) ?_)))
   refine fd_call rfl rfl (fun w M => rcompare_c _ _ ‹_› ‹_› _) ?_
   refine fR 2 rfl (fd_done rfl rfl (gR 2 rfl (g_if rfl (fun h1 => ?_) (fun h1 => ?_))))
   ·replace h1 := dqU h1
    exact gR 8 rfl (g_outR (gR 2 rfl (g_ret1 rfl rfl rfl fun w M => vl_S hV hlt_i hi0 hx0.symm hy0.symm (by unfold cmpS;omega) M.ext)))
   ·replace h1 := dqV h1
    refine gR 4 rfl (g_add rfl rfl (w_i64 (by omega) (by omega)) (gR 2 rfl ?_))
    exact g_next (i + 1) ⟨by omega, vl_N hlt_i hx0.symm hv (by first | assumption | (unfold src1;simp [*];done) | (unfold src1 finD inf;simp [*])) fun _ => by rw [hy0];exact (by unfold cmpS;omega)⟩ (by dsimp only;omega) (fun a F => F.only [9, 8, 7, 0] rfl) (by (try dsimp only);repeat (first | exact .refl _ | with_reducible exact sC0 _ | with_reducible apply sC2 | apply sC1))
  ·refine gR 1 rfl ?_
   exact g_draw 17 64 rfl (by kernel_rfl) (fR 3 rfl (fd_know 48 rfl (dqF (by omega)) (fR 14 rfl (fd_done rfl rfl (gR 7 rfl (g_add rfl rfl (w_i64 (by omega) (by omega)) (gR 2 rfl (g_next (i + 1) ⟨by omega, vl_N hlt_i hx0.symm hv (by first | assumption | (unfold src1;simp [*];done) | (unfold src1 finD inf;simp [*])) fun h => absurd h hi0⟩ (by dsimp only;omega) (fun a F => F.only [9, 8, 7, 0] rfl) (by (try dsimp only);repeat (first | exact .refl _ | with_reducible exact sC0 _ | with_reducible apply sC2 | apply sC1))))))))))
 ·have hil : i = l.length := by omega
  rw [hil] at hv
  exact gR 6 rfl (g_ifF rfl (dqF (by omega)) (gR 2 rfl (g_outX (gR 8 rfl (g_ret1 rfl rfl rfl fun w M => vl_T hV (by omega) hv M.ext)))))
theorem refelem_c (e : InsV) (he : IsIn e) (W : World) : Cal Tryz.prog 200 [.agg (inC e).toArray].toArray W fun v w' => v = .bool (ins1 e) ∧ Ext [] W w' := by
 have hd : IsDv e.to := he.1
 refine g_start (n := 49) (S := []) fldT_ok slcT_ok Tryz.func200 rfl rfl rfl ?_
 unfold ins1
 by_cases k : e.own.met = 65535
 ·have hvv : validM e.own.met = true := by rw [k];rfl
  have hf : finD e.own = false := by unfold finD inf;simp [k]
  refine gR 2 rfl (g_box rfl rfl fun b1 => gR 7 rfl (g_ldA 0 rfl rfl (in_to ‹_›) ?_))
  refine g_call rfl rfl (fun w M => rvalidTo_c _ ‹_› _) ?_
  refine gR 2 rfl (g_split 7 rfl (fun h1 => ?_) (fun h1 => ?_))
  ·replace h1 := false_of_not h1
   refine gR 15 rfl (g_ret1 rfl rfl rfl fun w M => ?_)
   exact ⟨by simp [*];done, M.ext⟩
  ·replace h1 := true_of_not h1
   refine gR 1 rfl (g_ldA 0 rfl rfl (in_own ‹_›) ?_)
   refine g_call rfl rfl (fun w M => rdvalid_c _ _) (gR 4 rfl (g_ifF rfl (notF ‹_›) ?_))
   refine gR 6 rfl (g_ld1 0 rfl rfl (in_nb ‹_›) ?_)
   refine gR 3 rfl (g_if rfl (fun h2 => ?_) (fun h2 => ?_))
   ·replace h2 := ne_of_bne h2
    refine gR 4 rfl (g_ld1 0 rfl rfl (in_own_met ‹_›) ?_)
    refine gR 2 rfl (g_know 20 rfl (bneF (by omega)) (gR 19 rfl (g_ret1 rfl rfl rfl fun w M => ?_)))
    exact ⟨by simp [*];done, M.ext⟩
   ·replace h2 := eq_of_bne_false h2
    refine gR 6 rfl (g_ld1 0 rfl rfl (in_own_met ‹_›) ?_)
    refine gR 2 rfl (g_know 39 rfl (dqT (by omega)) (gR 1 rfl (g_ld1 0 rfl rfl (in_btn ‹_›) ?_)))
    refine gR 3 rfl (g_split 44 rfl (fun h3 => ?_) (fun h3 => ?_))
    ·replace h3 := dqU h3
     refine gR 1 rfl (g_ld1 0 rfl rfl (in_til ‹_›) ?_)
     refine g_call rfl rfl (fun w M => risTime_c _ _) (gR 5 rfl (g_ret1 rfl rfl rfl fun w M => ?_))
     exact ⟨by unfold inf;simp [*];done, M.ext⟩
    ·replace h3 := dqV h3
     refine gR 8 rfl (g_ret1 rfl rfl rfl fun w M => ?_)
     exact ⟨by simp [*];done, M.ext⟩
 ·have hf : finD e.own = validM e.own.met := by unfold finD inf;simp [k]
  refine gR 2 rfl (g_box rfl rfl fun b1 => gR 7 rfl (g_ldA 0 rfl rfl (in_to ‹_›) ?_))
  refine g_call rfl rfl (fun w M => rvalidTo_c _ ‹_› _) ?_
  refine gR 2 rfl (g_split 7 rfl (fun h1 => ?_) (fun h1 => ?_))
  ·replace h1 := false_of_not h1
   refine gR 15 rfl (g_ret1 rfl rfl rfl fun w M => ?_)
   exact ⟨by simp [*];done, M.ext⟩
  ·replace h1 := true_of_not h1
   refine gR 1 rfl (g_ldA 0 rfl rfl (in_own ‹_›) ?_)
   refine g_call rfl rfl (fun w M => rdvalid_c _ _) (gR 4 rfl (g_if rfl (fun h2 => ?_) (fun h2 => ?_)))
   ·replace h2 := false_of_not h2
    refine gR 7 rfl (g_ret1 rfl rfl rfl fun w M => ?_)
    exact ⟨by unfold inf;simp [*];done, M.ext⟩
   ·replace h2 := true_of_not h2
    refine gR 6 rfl (g_ld1 0 rfl rfl (in_nb ‹_›) ?_)
    refine gR 3 rfl (g_if rfl (fun h3 => ?_) (fun h3 => ?_))
    ·replace h3 := ne_of_bne h3
     refine gR 4 rfl (g_ld1 0 rfl rfl (in_own_met ‹_›) ?_)
     refine gR 2 rfl (g_know 20 rfl (bne_iff_ne.2 (by omega)) (gR 1 rfl (g_ld1 0 rfl rfl (in_btn ‹_›) ?_)))
     refine gR 2 rfl (g_split 24 rfl (fun h4 => ?_) (fun h4 => ?_))
     ·replace h4 := dqU h4
      refine gR 7 rfl (g_ld1 0 rfl rfl (in_til ‹_›) ?_)
      refine gR 7 rfl (g_ret1 rfl rfl rfl fun w M => ?_)
      exact ⟨by simp [*];rfl, M.ext⟩
     ·replace h4 := dqV h4
      refine gR 1 rfl (g_ld1 0 rfl rfl (in_btn ‹_›) ?_)
      refine g_call rfl rfl (fun w M => risTime_c _ _) (gR 3 rfl (g_split 30 rfl (fun h5 => ?_) (fun h5 => ?_)))
      ·refine gR 1 rfl (g_ld1 0 rfl rfl (in_til ‹_›) ?_)
       refine gR 7 rfl (g_ret1 rfl rfl rfl fun w M => ?_)
       exact ⟨by simp [*];rfl, M.ext⟩
      ·refine gR 9 rfl (g_ret1 rfl rfl rfl fun w M => ?_)
       exact ⟨by simp [*];done, M.ext⟩
    ·replace h3 := eq_of_bne_false h3
     refine gR 6 rfl (g_ld1 0 rfl rfl (in_own_met ‹_›) ?_)
     refine gR 2 rfl (g_know 39 rfl (dqF (by omega)) (gR 13 rfl (g_ret1 rfl rfl rfl fun w M => ?_)))
     exact ⟨by unfold inf;simp [*];done, M.ext⟩
theorem refvalidI_c (l : List InsV) (hx : ∀ x ∈ l, IsIn x) (v : Value) (W : World) (hS : SlAt W 40 v l.length (insC l)) :
  Cal Tryz.prog 115 [v].toArray W fun r w' => r = .bool (validIs l) ∧ Ext [] W w' := by
 obtain ⟨q, cap, rfl, _⟩ := id hS
 have hm := hS.memB [] (by simp)
 unfold validIs
 generalize hV : vldL 512 ins1 cmpN l = b0
 refine g_start (n := 38) (S := []) fldT_ok slcT_ok Tryz.func115 rfl rfl rfl ?_
 by_cases c0 : 512 < l.length
 ·refine gR 13 rfl ?_
  exact g_ifT rfl (dqT (by omega)) (gR 7 rfl (g_ret1 rfl rfl rfl fun w M => vl_L hV c0 M.ext))
 refine gR 13 rfl (g_ifF rfl (dqF (by omega)) (gR 11 rfl (g_loop (ι := Nat) ⟨fun (i : Nat) => l.length - i, fun (i : Nat) => i ≤ l.length ∧ (∀ j, j < i → vld1 ins1 cmpN l j = true), fun (i : Nat) => [(9, .int .i64 i), (8, .int .i64 l.length), (7, .slice q l.length cap), (0, .slice q l.length cap)], fun (i : Nat) => []⟩ 0 ⟨by omega, by omega⟩ (fun a F => F.only [9, 8, 7, 0] rfl) (by repeat (first | exact .refl _ | apply sC2 | apply sC1)) ?_)))
 rintro i ⟨hi_i, hv⟩
 by_cases hlt_i : i < l.length
 ·obtain ⟨b, o, cs, t', fz, rfl, hb, hs⟩ := hm (by omega)
  obtain ⟨x, hx0⟩ : ∃ x, x = l[i] := ⟨_, rfl⟩
  have hxm : x ∈ l := by rw [hx0];exact List.getElem_mem hlt_i
  have hxi : IsIn x := hx _ hxm
  have f1 : seg cs (o + (i : Int).toNat * 40) 40 = some (inC x) := by rw [hx0];exact seg_el (ins_len hx) hs hlt_i (by omega)
  replace hx0 := hx0.symm
  have xd : IsDv x.to := hxi.1
  by_cases hi0 : 0 < i
  ·obtain ⟨y, hy0⟩ : ∃ y, y = l[i - 1]'(by omega) := ⟨_, rfl⟩
   have yI : IsIn y := by rw [hy0];exact hx _ (List.getElem_mem _)
   have f2 : seg cs (o + ((i : Int) - 1).toNat * 40) 40 = some (inC y) := by rw [hy0];exact seg_el (ins_len hx) hs (show i - 1 < l.length by omega) (by omega)
   replace hy0 := hy0.symm
   have yd : IsDv y.to := yI.1
   refine gR 6 rfl (g_ifT rfl (dqT (by omega)) (gR 11 rfl (g_draw 25 38 rfl (by kernel_rfl) (fR 2 rfl (fd_ixS rfl rfl (by omega) (by omega) (fd_leA rfl ‹_› (by with_reducible assumption) ?_))))))
   refine fd_call rfl rfl (fun w M => refelem_c _ ‹_› _) ?_
   refine fR 2 rfl (fd_split 18 rfl (fun h1 => ?_) (fun h1 => ?_))
   ·replace h1 := false_of_not h1
    exact fR 18 rfl (fd_done rfl rfl (gR 11 rfl (g_outR (gR 2 rfl (g_ret1 rfl rfl rfl fun w M => vl_F hV hlt_i hx0.symm (by first | assumption | (unfold ins1;simp [*];done) | (unfold ins1 finD inf;simp [*])) M.ext)))))
   ·replace h1 := true_of_not h1
    refine fR 3 rfl (fd_know 21 rfl (dqT (by omega)) (fR 2 rfl (fd_sub rfl rfl (w_i64 (by omega) (by omega)) (fd_ixS rfl rfl (by omega) (by omega) (fR 1 rfl (fd_leA rfl ‹_› (sg_seg f2 (in_to ‹_›) (by omega)) ?_))))))
    refine fR 2 rfl (fd_ixS rfl rfl (by omega) (by omega) (fR 1 rfl (fd_leA rfl ‹_› (sg_seg f1 (in_to ‹_›) (by omega)) ?_)))
    refine fd_call rfl rfl (fun w M => rcompare_c _ _ ‹_› ‹_› _) ?_
    refine fR 3 rfl (fd_done rfl rfl (gR 2 rfl (g_if rfl (fun h2 => ?_) (fun h2 => ?_))))
    ·replace h2 := dqU h2
     exact gR 8 rfl (g_outR (gR 2 rfl (g_ret1 rfl rfl rfl fun w M => vl_S hV hlt_i hi0 hx0.symm hy0.symm (by unfold cmpN;omega) M.ext)))
    ·replace h2 := dqV h2
     refine gR 4 rfl (g_add rfl rfl (w_i64 (by omega) (by omega)) (gR 2 rfl ?_))
     exact g_next (i + 1) ⟨by omega, vl_N hlt_i hx0.symm hv (by first | assumption | (unfold ins1;simp [*];done) | (unfold ins1 finD inf;simp [*])) fun _ => by rw [hy0];exact (by unfold cmpN;omega)⟩ (by dsimp only;omega) (fun a F => F.only [9, 8, 7, 0] rfl) (by (try dsimp only);repeat (first | exact .refl _ | with_reducible exact sC0 _ | with_reducible apply sC2 | apply sC1))
  ·refine gR 6 rfl ?_
   refine g_ifT rfl (dqT (by omega)) (gR 11 rfl (g_draw 25 38 rfl (by kernel_rfl) (fR 2 rfl (fd_ixS rfl rfl (by omega) (by omega) (fd_leA rfl ‹_› (by with_reducible assumption) ?_)))))
   refine fd_call rfl rfl (fun w M => refelem_c _ ‹_› _) ?_
   refine fR 2 rfl (fd_split 18 rfl (fun h1 => ?_) (fun h1 => ?_))
   ·replace h1 := false_of_not h1
    exact fR 18 rfl (fd_done rfl rfl (gR 11 rfl (g_outR (gR 2 rfl (g_ret1 rfl rfl rfl fun w M => vl_F hV hlt_i hx0.symm (by first | assumption | (unfold ins1;simp [*];done) | (unfold ins1 finD inf;simp [*])) M.ext)))))
   ·replace h1 := true_of_not h1
    exact fR 3 rfl (fd_know 21 rfl (dqF (by omega)) (fR 15 rfl (fd_done rfl rfl (gR 7 rfl (g_add rfl rfl (w_i64 (by omega) (by omega)) (gR 2 rfl (g_next (i + 1) ⟨by omega, vl_N hlt_i hx0.symm hv (by first | assumption | (unfold ins1;simp [*];done) | (unfold ins1 finD inf;simp [*])) fun h => absurd h hi0⟩ (by dsimp only;omega) (fun a F => F.only [9, 8, 7, 0] rfl) (by (try dsimp only);repeat (first | exact .refl _ | with_reducible exact sC0 _ | with_reducible apply sC2 | apply sC1)))))))))
 ·have hil : i = l.length := by omega
  rw [hil] at hv
  exact gR 6 rfl (g_ifF rfl (dqF (by omega)) (gR 2 rfl (g_outX (gR 8 rfl (g_ret1 rfl rfl rfl fun w M => vl_T hV (by omega) hv M.ext)))))
end Go.Proofs.YtfhkmgcalcfibaaGreat
namespace Go.Proofs.YtfhkmgcalcfibaaGreat
open Go.RowKit
section
variable {c : Cx} {Q : Exit → Act → World → Prop} {ks : List KF} {fr : List (Nat × Value)} {l : Row} {d : Nat} {ty : TypeId} {pos : String} {af : Array Edge} {g : Option (Nat × Bool)} {aa : Array Oper} {rest : List Oper}
theorem g_mkF {fn : Fn} {xs ys : List Operand} {vs us : List Value} (h1 : evL fr xs = some vs) (h2 : evL fr ys = some us) (hk : G c Q ks (.ops aa rest) ((d, .func fn vs.toArray us.toArray) :: fr) l) (hd : Nat.blt d c.n = true := by rfl) (hg : gOk aa fr g = some true := by rfl) :
  G c Q ks (.ops aa (⟨some d, .makeFunc fn xs.toArray ys.toArray, ty, pos, af, g⟩ :: rest)) fr l := g_v (fun a w F M R r => o_makeFunc (F.evs h1) (F.evs h2) r) hk rfl hd hg
theorem g_callC0 {v : Value} {y : Operand} {fn : FuncId} {ys : List Operand} {ts : Array TypeId} {vs us : List Value} [hb : TBody c.P fn] (hx : Ev fr y = some (.func (.func fn) #[] us.toArray)) (ha : evL fr ys = some vs)
  (hc : ∀ w, Mem c.S c.W w l.flatten → Cal c.P fn (vs ++ us).toArray w fun u w' => u = v ∧ Ext [] w w')
  (hk : G c Q ks (.ops aa rest) ((d, v) :: fr) l) (hd : Nat.blt d c.n = true := by rfl) (hg : gOk aa fr g = some true := by rfl) : G c Q ks (.ops aa (⟨some d, .call ⟨.value y, ys.toArray, ts⟩, ty, pos, af, g⟩ :: rest)) fr l :=
 g_op rfl hd hg fun a w F M => o_callCl (us := (vs ++ us).toArray) (F.e hx) (F.evs ha) (by simp) (Cal.mono (hc w M) fun u w' h a' F' => by
  obtain ⟨rfl, E⟩ := h
  exact hk a' w' F' (M.later E))
end
attribute [local irreducible] OpTo wpListIn Code.wpIn MW Cal
structure RtV where
 self : Int
 seq : Int
 raised : Int
 quiet : Int
 hello : Int
 nextH : Int
 full : Int
 og : List OrgV
 aj : List AdjV
 sr : List SrcV
 ro : List RouV
 ins : List InsV
 rq : List ReqV
 av : List AdvV
structure RtX where
 og : Value
 aj : Value
 sr : Value
 ro : Value
 ins : Value
 rq : Value
 av : Value
def rtC (s : RtV) (x : RtX) : List Value := [.int .u64 s.self, .int .u16 s.seq, .int .i64 s.raised, .int .i64 s.quiet, .int .u16 s.hello, .int .i64 s.nextH, x.og, x.aj, x.sr, x.ro, x.ins, x.rq, x.av, .int .i64 s.full]
structure RtAt (W : World) (s : RtV) (x : RtX) : Prop where
 og : SlAt W 34 x.og s.og.length (ogsC s.og)
 aj : SlAt W 8 x.aj s.aj.length (ajsC s.aj)
 sr : SlAt W 38 x.sr s.sr.length (srsC s.sr)
 ro : SlAt W 39 x.ro s.ro.length (rosC s.ro)
 ins : SlAt W 40 x.ins s.ins.length (insC s.ins)
 rq : SlAt W 40 x.rq s.rq.length (rqsC s.rq)
 av : SlAt W 37 x.av s.av.length (avsC s.av)
structure IsRt (s : RtV) : Prop where
 og : ∀ x ∈ s.og, IsOg x
 aj : ∀ x ∈ s.aj, IsAj x
 sr : ∀ x ∈ s.sr, IsSr x
 ro : ∀ x ∈ s.ro, IsRo x
 ins : ∀ x ∈ s.ins, IsIn x
 rq : ∀ x ∈ s.rq, IsRq x
 av : ∀ x ∈ s.av, IsAv x
 q : ∀ x ∈ s.aj, BdQu x.q
theorem RtAt.later {W w : World} {s : RtV} {x : RtX} (h : RtAt W s x) (E : Ext [] W w) : RtAt w s x := ⟨h.og.later E, h.aj.later E, h.sr.later E, h.ro.later E, h.ins.later E, h.rq.later E, h.av.later E⟩
def rtValid (s : RtV) : Bool := !decide (s.self = 0) && isTime s.raised && isTime s.quiet && isTime s.nextH && validOgs s.self s.og && validAjs s.self s.aj && validSs s.sr && validRs s.ro && validIs s.ins && validRqs s.rq && (validAs s.av && isTime s.full) && !(s.ro.any fun x => decide (x.to.rt = s.self)) && !(s.ins.any fun x => decide (x.to.rt = s.self))
theorem hno_N {α : Type} {p : α → Bool} {l : List α} {i : Nat} (h : i < l.length) (hno : ∀ j (hj : j < i) (hj2 : j < l.length), p l[j] = false) (hp : p l[i] = false) : ∀ j (hj : j < i + 1) (hj2 : j < l.length), p l[j] = false := fun j hj hj2 => by
 rcases Nat.lt_or_ge j i with h1 | h1
 ·exact hno j h1 hj2
 ·obtain rfl : j = i := by omega
  exact hp
theorem findI_any {α : Type} (p : α → Bool) (l : List α) : decide (0 ≤ findI p l) = l.any p := by
 unfold findI
 cases h : l.findIdx? p with
 | none =>
  rw [List.findIdx?_eq_none_iff] at h
  rw [List.any_eq_false.2 (fun x hx => by rw [h x hx];simp)]
  rfl
 | some i =>
  obtain ⟨hi, h1, _⟩ := List.findIdx?_eq_some_iff_getElem.1 h
  rw [List.any_eq_true.2 ⟨l[i], List.getElem_mem hi, h1⟩]
  simp
theorem indexR2_c (l : List RouV) (hx : ∀ x ∈ l, IsRo x) (v : Value) (W : World) (hS : SlAt W 39 v l.length (rosC l)) (hlen : l.length ≤ 1000) (g : FuncId) [hg : TBody Tryz.prog g] (caps : List Value) (p : RouV → Bool)
  (hcl : ∀ w x, Ext [] W w → x ∈ l → Cal Tryz.prog g ([Value.agg (roC x).toArray] ++ caps).toArray w fun v w' => v = .bool (p x) ∧ Ext [] w w') :
  Cal Tryz.prog 197 [v, .func (.func g) #[] caps.toArray].toArray W fun x w' => x = .int .i64 (findI p l) ∧ Ext [] W w' := by
 obtain ⟨q, cap, rfl, _⟩ := id hS
 have hm := hS.memB [] (by simp)
 refine g_start (n := 19) (S := []) fldT_ok slcT_ok Tryz.func197 rfl rfl rfl (gR 14 rfl (g_loop (ι := Nat) ⟨fun (i : Nat) => l.length - i, fun (i : Nat) => i ≤ l.length ∧ (∀ j (hj : j < i) (hj2 : j < l.length), p l[j] = false), fun (i : Nat) => [(8, .int .i64 i), (7, .int .i64 l.length), (0, .slice q l.length cap), (1, .func (.func g) #[] caps.toArray)], fun (i : Nat) => []⟩ 0 ⟨by omega, by omega⟩ (fun a F => F.only [8, 7, 0, 1] rfl) (by repeat (first | exact .refl _ | apply sC2 | apply sC1)) ?_))
 rintro i ⟨hi_i, hno⟩
 by_cases hlt_i : i < l.length
 ·obtain ⟨b, o, cs, t', fz, rfl, hb, hs⟩ := hm (by omega)
  obtain ⟨x, hx0⟩ : ∃ x, x = l[i] := ⟨_, rfl⟩
  have hxm : x ∈ l := by rw [hx0];exact List.getElem_mem hlt_i
  have hxi : IsRo x := hx _ hxm
  have f1 : seg cs (o + (i : Int).toNat * 39) 39 = some (roC x) := by rw [hx0];exact seg_el (ros_len hx) hs hlt_i (by omega)
  have hx0s := hx0.symm
  refine gR 6 rfl (g_ifT rfl (dqT (by omega)) (gR 15 rfl (g_ixS rfl rfl (by omega) (by omega) (g_leA rfl ‹_› (by with_reducible assumption) ?_))))
  refine g_callC0 (v := .bool (p x)) rfl rfl (fun w M => hcl w x M.ext hxm) ?_
  cases hp : p x
  ·refine gR 7 rfl ?_
   exact g_add rfl rfl (w_i64 (by omega) (by omega)) (gR 2 rfl (g_next (i + 1) ⟨by omega, hno_N hlt_i hno (hx0s ▸ hp)⟩ (by dsimp only;omega) (fun a F => F.only [8, 7, 0, 1] rfl) (by (try dsimp only);repeat (first | exact .refl _ | with_reducible exact sC0 _ | with_reducible apply sC2 | apply sC1))))
  ·refine gR 12 rfl ?_
   exact g_outR (gR 2 rfl (g_ret1 rfl rfl rfl fun w M => ⟨by rw [findI_at hlt_i (hx0s ▸ hp) fun j hj => hno j hj (by omega)], M.ext⟩))
 ·obtain rfl : i = l.length := by omega
  exact gR 6 rfl (g_ifF rfl (dqF (by omega)) (gR 2 rfl (g_outX (gR 8 rfl (g_ret1 rfl rfl rfl fun w M => ⟨by rw [findI_none fun j hj => hno j hj hj], M.ext⟩)))))
theorem anyR_c (l : List RouV) (hx : ∀ x ∈ l, IsRo x) (v : Value) (W : World) (hS : SlAt W 39 v l.length (rosC l)) (hlen : l.length ≤ 1000) (g : FuncId) [hg : TBody Tryz.prog g] (caps : List Value) (p : RouV → Bool)
  (hcl : ∀ w x, Ext [] W w → x ∈ l → Cal Tryz.prog g ([Value.agg (roC x).toArray] ++ caps).toArray w fun v w' => v = .bool (p x) ∧ Ext [] w w') :
  Cal Tryz.prog 108 [v, .func (.func g) #[] caps.toArray].toArray W fun x w' => x = .bool (l.any p) ∧ Ext [] W w' := by
 exact g_start (n := 9) (S := []) fldT_ok slcT_ok Tryz.func108 rfl rfl rfl (gR 9 rfl (g_call (v := .int .i64 (findI p l)) rfl rfl (fun w M => indexR2_c l hx v w (hS.later M.ext) hlen g caps p fun w' x E hxl => hcl w' x (M.ext.trans E) hxl) (gR 5 rfl (g_ret1 rfl rfl rfl fun w M => ⟨congrArg Value.bool (findI_any p l), M.ext⟩))))
theorem indexI2_c (l : List InsV) (hx : ∀ x ∈ l, IsIn x) (v : Value) (W : World) (hS : SlAt W 40 v l.length (insC l)) (hlen : l.length ≤ 1000) (g : FuncId) [hg : TBody Tryz.prog g] (caps : List Value) (p : InsV → Bool)
  (hcl : ∀ w x, Ext [] W w → x ∈ l → Cal Tryz.prog g ([Value.agg (inC x).toArray] ++ caps).toArray w fun v w' => v = .bool (p x) ∧ Ext [] w w') :
  Cal Tryz.prog 198 [v, .func (.func g) #[] caps.toArray].toArray W fun x w' => x = .int .i64 (findI p l) ∧ Ext [] W w' := by
 obtain ⟨q, cap, rfl, _⟩ := id hS
 have hm := hS.memB [] (by simp)
 refine g_start (n := 19) (S := []) fldT_ok slcT_ok Tryz.func198 rfl rfl rfl (gR 14 rfl (g_loop (ι := Nat) ⟨fun (i : Nat) => l.length - i, fun (i : Nat) => i ≤ l.length ∧ (∀ j (hj : j < i) (hj2 : j < l.length), p l[j] = false), fun (i : Nat) => [(8, .int .i64 i), (7, .int .i64 l.length), (0, .slice q l.length cap), (1, .func (.func g) #[] caps.toArray)], fun (i : Nat) => []⟩ 0 ⟨by omega, by omega⟩ (fun a F => F.only [8, 7, 0, 1] rfl) (by repeat (first | exact .refl _ | apply sC2 | apply sC1)) ?_))
 rintro i ⟨hi_i, hno⟩
 by_cases hlt_i : i < l.length
 ·obtain ⟨b, o, cs, t', fz, rfl, hb, hs⟩ := hm (by omega)
  obtain ⟨x, hx0⟩ : ∃ x, x = l[i] := ⟨_, rfl⟩
  have hxm : x ∈ l := by rw [hx0];exact List.getElem_mem hlt_i
  have hxi : IsIn x := hx _ hxm
  have f1 : seg cs (o + (i : Int).toNat * 40) 40 = some (inC x) := by rw [hx0];exact seg_el (ins_len hx) hs hlt_i (by omega)
  have hx0s := hx0.symm
  refine gR 6 rfl (g_ifT rfl (dqT (by omega)) (gR 15 rfl (g_ixS rfl rfl (by omega) (by omega) (g_leA rfl ‹_› (by with_reducible assumption) ?_))))
  refine g_callC0 (v := .bool (p x)) rfl rfl (fun w M => hcl w x M.ext hxm) ?_
  cases hp : p x
  ·refine gR 7 rfl ?_
   exact g_add rfl rfl (w_i64 (by omega) (by omega)) (gR 2 rfl (g_next (i + 1) ⟨by omega, hno_N hlt_i hno (hx0s ▸ hp)⟩ (by dsimp only;omega) (fun a F => F.only [8, 7, 0, 1] rfl) (by (try dsimp only);repeat (first | exact .refl _ | with_reducible exact sC0 _ | with_reducible apply sC2 | apply sC1))))
  ·refine gR 12 rfl ?_
   exact g_outR (gR 2 rfl (g_ret1 rfl rfl rfl fun w M => ⟨by rw [findI_at hlt_i (hx0s ▸ hp) fun j hj => hno j hj (by omega)], M.ext⟩))
 ·obtain rfl : i = l.length := by omega
  exact gR 6 rfl (g_ifF rfl (dqF (by omega)) (gR 2 rfl (g_outX (gR 8 rfl (g_ret1 rfl rfl rfl fun w M => ⟨by rw [findI_none fun j hj => hno j hj hj], M.ext⟩)))))
theorem anyI_c (l : List InsV) (hx : ∀ x ∈ l, IsIn x) (v : Value) (W : World) (hS : SlAt W 40 v l.length (insC l)) (hlen : l.length ≤ 1000) (g : FuncId) [hg : TBody Tryz.prog g] (caps : List Value) (p : InsV → Bool)
  (hcl : ∀ w x, Ext [] W w → x ∈ l → Cal Tryz.prog g ([Value.agg (inC x).toArray] ++ caps).toArray w fun v w' => v = .bool (p x) ∧ Ext [] w w') :
  Cal Tryz.prog 110 [v, .func (.func g) #[] caps.toArray].toArray W fun x w' => x = .bool (l.any p) ∧ Ext [] W w' := by
 exact g_start (n := 9) (S := []) fldT_ok slcT_ok Tryz.func110 rfl rfl rfl (gR 9 rfl (g_call (v := .int .i64 (findI p l)) rfl rfl (fun w M => indexI2_c l hx v w (hS.later M.ext) hlen g caps p fun w' x E hxl => hcl w' x (M.ext.trans E) hxl) (gR 5 rfl (g_ret1 rfl rfl rfl fun w M => ⟨congrArg Value.bool (findI_any p l), M.ext⟩))))
end Go.Proofs.YtfhkmgcalcfibaaGreat
namespace Go.Proofs.YtfhkmgcalcfibaaGreat
open Go.ChangeShapes Go.WideShapes Go.ChangeAt Go.RowKit
theorem wfV_boolR {v : Value} (h : wfV .b v = true) : ∃ b, v = .bool b := by
 cases v <;> simp [wfV] at h ⊢
section
variable {H : Type} {enc : TypeId × Value → H} {w : World} {base : Nat} {sp : Nat → Bool} {held : Bool}
set_option maxRecDepth 100000 in
theorem dec_og (n : Nat) (cs : List Value) (y : DataW H × List MemPlace) (h : DataW.trod enc Tryz.prog w base sp held n 85 cs = some y) : ∃ x : OrgV, IsOg x ∧ cs = ogC x := by
 have hw := open_leaf 8 85 (List.replicate 16 (.i .u8) ++ (.i .i64 :: (List.replicate 16 (.i .u8) ++ [.i .i64]))) (by kernel_rfl) n cs y h (.inl (by kernel_rfl))
 obtain ⟨c0, c1, rfl, h1, h2⟩ := wfK_split hw
 obtain ⟨a1, rfl, hl1, hb1⟩ := ip_wf c0 16 h1
 obtain ⟨x1, c2, rfl, g1, h3⟩ := wfK_cons h2
 obtain ⟨c3, c4, rfl, h4, h5⟩ := wfK_split (ks := List.replicate 16 (LK.i .u8)) (ks' := [LK.i .i64]) h3
 obtain ⟨a2, rfl, hl2, hb2⟩ := ip_wf c3 16 h4
 obtain ⟨x2, c5, rfl, g2, h6⟩ := wfK_cons h5
 obtain rfl := wfK_nil h6
 obtain ⟨n1, rfl, _, _⟩ := wfV_int g1
 obtain ⟨n2, rfl, _, _⟩ := wfV_int g2
 exact ⟨⟨a1, n1, a2, n2⟩, ⟨⟨hl1, hb1⟩, ⟨hl2, hb2⟩⟩, by simp [ogC, pfC]⟩
set_option maxRecDepth 100000 in
theorem dec_aj (n : Nat) (cs : List Value) (y : DataW H × List MemPlace) (h : DataW.trod enc Tryz.prog w base sp held n 124 cs = some y) : ∃ x : AdjV, (IsAj x ∧ BdQu x.q) ∧ cs = ajC x := by
 have hw := open_leaf 8 124 [.i .u64, .b, .i .u8, .i .i64, .i .u16, .i .i64, .i .i64, .i .i64] (by kernel_rfl) n cs y h (.inl (by kernel_rfl))
 obtain ⟨y0, d0, rfl, k0, r0⟩ := wfK_cons hw
 obtain ⟨m0, rfl, p0, q0⟩ := wfV_int k0
 obtain ⟨y1, d1, rfl, k1, r1⟩ := wfK_cons r0
 obtain ⟨m1, rfl⟩ := wfV_boolR k1
 obtain ⟨y2, d2, rfl, k2, r2⟩ := wfK_cons r1
 obtain ⟨m2, rfl, p2, q2⟩ := wfV_int k2
 obtain ⟨y3, d3, rfl, k3, r3⟩ := wfK_cons r2
 obtain ⟨m3, rfl, p3, q3⟩ := wfV_int k3
 obtain ⟨y4, d4, rfl, k4, r4⟩ := wfK_cons r3
 obtain ⟨m4, rfl, p4, q4⟩ := wfV_int k4
 obtain ⟨y5, d5, rfl, k5, r5⟩ := wfK_cons r4
 obtain ⟨m5, rfl, p5, q5⟩ := wfV_int k5
 obtain ⟨y6, d6, rfl, k6, r6⟩ := wfK_cons r5
 obtain ⟨m6, rfl, p6, q6⟩ := wfV_int k6
 obtain ⟨y7, d7, rfl, k7, r7⟩ := wfK_cons r6
 obtain ⟨m7, rfl, p7, q7⟩ := wfV_int k7
 obtain rfl := wfK_nil r7
 simp only [loK, hiK] at p2 q2 p3 q3 p5 q5
 exact ⟨⟨m0, ⟨m1, m2, m3, m4, m5⟩, m6, m7⟩, ⟨trivial, ⟨⟨p2, by dsimp only;omega⟩, ⟨p3, q3⟩, ⟨p5, q5⟩⟩⟩, rfl⟩
set_option maxRecDepth 100000 in
theorem dec_rq (n : Nat) (cs : List Value) (y : DataW H × List MemPlace) (h : DataW.trod enc Tryz.prog w base sp held n 171 cs = some y) : ∃ x : ReqV, IsRq x ∧ cs = rqC x := by
 have hw := open_leaf 8 171 (List.replicate 16 (.i .u8) ++ (.i .i64 :: (List.replicate 16 (.i .u8) ++ [.i .i64, .i .u64, .i .u16, .i .i64, .i .u64, .i .i64, .i .i64]))) (by kernel_rfl) n cs y h (.inl (by kernel_rfl))
 obtain ⟨c0, c1, rfl, h1, h2⟩ := wfK_split hw
 obtain ⟨a1, rfl, hl1, hb1⟩ := ip_wf c0 16 h1
 obtain ⟨x1, c2, rfl, g1, h3⟩ := wfK_cons h2
 obtain ⟨c3, c4, rfl, h4, h5⟩ := wfK_split (ks := List.replicate 16 (LK.i .u8)) (ks' := [LK.i .i64, .i .u64, .i .u16, .i .i64, .i .u64, .i .i64, .i .i64]) h3
 obtain ⟨a2, rfl, hl2, hb2⟩ := ip_wf c3 16 h4
 obtain ⟨n1, rfl, _, _⟩ := wfV_int g1
 obtain ⟨y0, d0, rfl, k0, r0⟩ := wfK_cons h5
 obtain ⟨m0, rfl, _, _⟩ := wfV_int k0
 obtain ⟨y1, d1, rfl, k1, r1⟩ := wfK_cons r0
 obtain ⟨m1, rfl, _, _⟩ := wfV_int k1
 obtain ⟨y2, d2, rfl, k2, r2⟩ := wfK_cons r1
 obtain ⟨m2, rfl, _, _⟩ := wfV_int k2
 obtain ⟨y3, d3, rfl, k3, r3⟩ := wfK_cons r2
 obtain ⟨m3, rfl, _, _⟩ := wfV_int k3
 obtain ⟨y4, d4, rfl, k4, r4⟩ := wfK_cons r3
 obtain ⟨m4, rfl, _, _⟩ := wfV_int k4
 obtain ⟨y5, d5, rfl, k5, r5⟩ := wfK_cons r4
 obtain ⟨m5, rfl, _, _⟩ := wfV_int k5
 obtain ⟨y6, d6, rfl, k6, r6⟩ := wfK_cons r5
 obtain ⟨m6, rfl, _, _⟩ := wfV_int k6
 obtain rfl := wfK_nil r6
 exact ⟨⟨⟨a1, n1, a2, m0, m1⟩, m2, m3, m4, m5, m6⟩, ⟨⟨hl1, hb1⟩, ⟨hl2, hb2⟩⟩, by simp [rqC, dvC, pfC]⟩
set_option maxRecDepth 100000 in
theorem dec_rt (n : Nat) (cs : List Value) (y : DataW H × List MemPlace) (h : DataW.trod enc Tryz.prog w base sp held n 53 cs = some y) : ∃ (s : RtV) (x : RtX), IsRt s ∧ RtAt w s x ∧ cs = rtC s x := by
 obtain ⟨xs, m, rfl, _, hl, hn, hat⟩ := DataW.trod_struct Tryz.underlying53 h
 have hc : Tryz.prog.cellsOf 53 = 14 := by kernel_rfl
 rw [hc] at hl
 have hxl : xs.length = 13 := hn
 have a0 : DataW.trod enc Tryz.prog w base sp held m 41 ((cs.drop 0).take (Tryz.prog.cellsOf 41)) = xs[0]? := hat 0 _ rfl
 rw [List.getElem?_eq_getElem (by omega), show Tryz.prog.cellsOf 41 = 1 from by kernel_rfl] at a0
 obtain ⟨n0, e0, _, _⟩ := DataW.trod_int Tryz.underlying41 a0
 have a1 : DataW.trod enc Tryz.prog w base sp held m 42 ((cs.drop 1).take (Tryz.prog.cellsOf 42)) = xs[1]? := hat 1 _ rfl
 rw [List.getElem?_eq_getElem (by omega), show Tryz.prog.cellsOf 42 = 1 from by kernel_rfl] at a1
 obtain ⟨n1, e1, _, _⟩ := DataW.trod_int Tryz.underlying42 a1
 have a2 : DataW.trod enc Tryz.prog w base sp held m 3 ((cs.drop 2).take (Tryz.prog.cellsOf 3)) = xs[2]? := hat 2 _ rfl
 rw [List.getElem?_eq_getElem (by omega), show Tryz.prog.cellsOf 3 = 1 from by kernel_rfl] at a2
 obtain ⟨n2, e2, _, _⟩ := DataW.trod_int Tryz.underlying3 a2
 have a3 : DataW.trod enc Tryz.prog w base sp held m 3 ((cs.drop 3).take (Tryz.prog.cellsOf 3)) = xs[3]? := hat 3 _ rfl
 rw [List.getElem?_eq_getElem (by omega), show Tryz.prog.cellsOf 3 = 1 from by kernel_rfl] at a3
 obtain ⟨n3, e3, _, _⟩ := DataW.trod_int Tryz.underlying3 a3
 have a4 : DataW.trod enc Tryz.prog w base sp held m 42 ((cs.drop 4).take (Tryz.prog.cellsOf 42)) = xs[4]? := hat 4 _ rfl
 rw [List.getElem?_eq_getElem (by omega), show Tryz.prog.cellsOf 42 = 1 from by kernel_rfl] at a4
 obtain ⟨n4, e4, _, _⟩ := DataW.trod_int Tryz.underlying42 a4
 have a5 : DataW.trod enc Tryz.prog w base sp held m 3 ((cs.drop 5).take (Tryz.prog.cellsOf 3)) = xs[5]? := hat 5 _ rfl
 rw [List.getElem?_eq_getElem (by omega), show Tryz.prog.cellsOf 3 = 1 from by kernel_rfl] at a5
 obtain ⟨n5, e5, _, _⟩ := DataW.trod_int Tryz.underlying3 a5
 have a6 : DataW.trod enc Tryz.prog w base sp held m 43 ((cs.drop 6).take (Tryz.prog.cellsOf 43)) = xs[6]? := hat 6 _ rfl
 rw [List.getElem?_eq_getElem (by omega), show Tryz.prog.cellsOf 43 = 1 from by kernel_rfl] at a6
 obtain ⟨u6, l6, e6, i6, S6, _⟩ := open_slG (sz := 34) Tryz.underlying43 (by kernel_rfl) (by omega) dec_og a6
 have a7 : DataW.trod enc Tryz.prog w base sp held m 44 ((cs.drop 7).take (Tryz.prog.cellsOf 44)) = xs[7]? := hat 7 _ rfl
 rw [List.getElem?_eq_getElem (by omega), show Tryz.prog.cellsOf 44 = 1 from by kernel_rfl] at a7
 obtain ⟨u7, l7, e7, i7, S7, _⟩ := open_slG (sz := 8) Tryz.underlying44 (by kernel_rfl) (by omega) dec_aj a7
 have a8 : DataW.trod enc Tryz.prog w base sp held m 45 ((cs.drop 8).take (Tryz.prog.cellsOf 45)) = xs[8]? := hat 8 _ rfl
 rw [List.getElem?_eq_getElem (by omega), show Tryz.prog.cellsOf 45 = 1 from by kernel_rfl] at a8
 obtain ⟨u8, l8, e8, i8, S8, _⟩ := open_slG (sz := 38) Tryz.underlying45 (by kernel_rfl) (by omega) dec_sr a8
 have a9 : DataW.trod enc Tryz.prog w base sp held m 46 ((cs.drop 9).take (Tryz.prog.cellsOf 46)) = xs[9]? := hat 9 _ rfl
 rw [List.getElem?_eq_getElem (by omega), show Tryz.prog.cellsOf 46 = 1 from by kernel_rfl] at a9
 obtain ⟨u9, l9, e9, i9, S9, _⟩ := open_slG (sz := 39) Tryz.underlying46 (by kernel_rfl) (by omega) dec_ro a9
 have a10 : DataW.trod enc Tryz.prog w base sp held m 47 ((cs.drop 10).take (Tryz.prog.cellsOf 47)) = xs[10]? := hat 10 _ rfl
 rw [List.getElem?_eq_getElem (by omega), show Tryz.prog.cellsOf 47 = 1 from by kernel_rfl] at a10
 obtain ⟨u10, l10, e10, i10, S10, _⟩ := open_slG (sz := 40) Tryz.underlying47 (by kernel_rfl) (by omega) dec_in a10
 have a11 : DataW.trod enc Tryz.prog w base sp held m 48 ((cs.drop 11).take (Tryz.prog.cellsOf 48)) = xs[11]? := hat 11 _ rfl
 rw [List.getElem?_eq_getElem (by omega), show Tryz.prog.cellsOf 48 = 1 from by kernel_rfl] at a11
 obtain ⟨u11, l11, e11, i11, S11, _⟩ := open_slG (sz := 40) Tryz.underlying48 (by kernel_rfl) (by omega) dec_rq a11
 have a12 : DataW.trod enc Tryz.prog w base sp held m 51 ((cs.drop 12).take (Tryz.prog.cellsOf 51)) = xs[12]? := hat 12 _ rfl
 rw [List.getElem?_eq_getElem (by omega), show Tryz.prog.cellsOf 51 = 2 from by kernel_rfl] at a12
 obtain ⟨u12, l12, n12, i12, S12, e12⟩ := dec_plan _ _ _ a12
 refine ⟨⟨n0, n1, n2, n3, n4, n5, n12, l6, l7, l8, l9, l10, l11, l12⟩, ⟨u6, u7, u8, u9, u10, u11, u12⟩, ⟨i6, fun x hx => (i7 x hx).1, i8, i9, i10, i11, i12, fun x hx => (i7 x hx).2⟩, ⟨S6, S7, S8, S9, S10, S11, S12⟩, ?_⟩
 match cs, hl, e0, e1, e2, e3, e4, e5, e6, e7, e8, e9, e10, e11, e12 with
 | [c0, c1, c2, c3, c4, c5, c6, c7, c8, c9, c10, c11, c12, c13], _, e0, e1, e2, e3, e4, e5, e6, e7, e8, e9, e10, e11, e12 =>
  simp only [List.drop_zero, List.take_succ_cons, List.take_zero, List.drop_succ_cons, List.cons.injEq, and_true, plC] at e0 e1 e2 e3 e4 e5 e6 e7 e8 e9 e10 e11 e12
  obtain ⟨e12, e13⟩ := e12
  rw [e0, e1, e2, e3, e4, e5, e6, e7, e8, e9, e10, e11, e12, e13]
  rfl
end
section
variable {H : Type} {enc : TypeId × Value → H} {w : World} {r : Reach} {b0 base : Nat} {sp : Nat → Bool} {held : Bool} {v : Value} {d : DataW H} {p : List MemPlace}
set_option maxRecDepth 100000 in
theorem open_rt (hval : Value.okWide Tryz.prog w r b0 53 v) (h : DataW.Trod enc Tryz.prog w base sp held 53 v d p) : ∃ (s : RtV) (x : RtX), IsRt s ∧ RtAt w s x ∧ v = .agg (rtC s x).toArray := by
 obtain ⟨cs, rfl⟩ := agg_of (by kernel_rfl) hval
 obtain ⟨fuel, hf⟩ := h
 obtain ⟨s, x, h1, h2, h3⟩ := dec_rt fuel _ _ hf
 exact ⟨s, x, h1, h2, by rw [← h3];simp [Value.cells]⟩
end
end Go.Proofs.YtfhkmgcalcfibaaGreat
namespace Go.Proofs.YtfhkmgcalcfibaaGreat
open Go.RowKit
attribute [local irreducible] OpTo wpListIn Code.wpIn MW Cal
structure GdQu (o : QuaV) : Prop where
 b : BdQu o
 v : quValid o = true
structure KnQu (o : QuaV) : Prop where
 b : BdQu o
 v : quValid o = true
 k : o.known = true
structure InQu (o : QuaV) : Prop where
 k : o.known = true
 h : 0 ≤ o.heard ∧ o.heard < 256
 c : 0 ≤ o.cnt ∧ o.cnt ≤ 8
 p : o.heard < shl1 o.cnt
 r : 0 ≤ o.rep ∧ o.rep ≤ 65535
theorem shl_tab : shl1 0 = 1 ∧ shl1 1 = 2 ∧ shl1 2 = 4 ∧ shl1 3 = 8 ∧ shl1 4 = 16 ∧ shl1 5 = 32 ∧ shl1 6 = 64 ∧ shl1 7 = 128 ∧ shl1 8 = 256 := by decide +kernel
theorem cnt_cases {c : Int} (h : 0 ≤ c ∧ c ≤ 8) : c = 0 ∨ c = 1 ∨ c = 2 ∨ c = 3 ∨ c = 4 ∨ c = 5 ∨ c = 6 ∨ c = 7 ∨ c = 8 := by omega
theorem add_tab : ∀ (h : Fin 256) (e : Fin 2), IntKind.u8.wrap (bitsOf .and .i64 ((h.val : Int) * 2 + (e.val : Int)) 255) = ((h.val * 2 + e.val) % 256 : Nat) := by decide +kernel
theorem add_is {h e : Int} (h0 : 0 ≤ h ∧ h < 256) (he : e = 0 ∨ e = 1) : IntKind.u8.wrap (bitsOf .and .i64 (h * 2 + e) 255) = (h * 2 + e) % 256 := by
 obtain ⟨n, rfl⟩ := Int.eq_ofNat_of_zero_le h0.1
 rcases he with rfl | rfl
 ·have := add_tab ⟨n, by omega⟩ 0
  simp at this ⊢
  omega
 ·have := add_tab ⟨n, by omega⟩ 1
  simp at this ⊢
  omega
theorem half_tab : ∀ h : Fin 256, IntKind.u8.wrap ((h.val : Int).tdiv 2) = (h.val / 2 : Nat) := by decide +kernel
theorem half_is {h : Int} (h0 : 0 ≤ h ∧ h < 256) : IntKind.u8.wrap (h.tdiv 2) = h / 2 := by
 obtain ⟨n, rfl⟩ := Int.eq_ofNat_of_zero_le h0.1
 have := half_tab ⟨n, by omega⟩
 simp at this ⊢
 omega
theorem quV_of {o : QuaV} (hk : o.known = true) (h : QuP o) : quValid o = true := by rw [quV_known hk];exact dqT h
theorem InQu.of {o : QuaV} (hb : 0 ≤ (quClean o).heard ∧ (quClean o).heard < 256) (h : (quClean o).known = true) : InQu (quClean o) := by
 have h1 := clean_in h
 obtain ⟨a, b, c, d, e, f⟩ := dqU h1
 have hh : 0 ≤ (quClean o).heard ∧ (quClean o).heard < 256 := hb
 exact ⟨h, hh, ⟨by omega, b⟩, d, e, f⟩
theorem InQu.sm {o : QuaV} (h : InQu o) : SmQu o := ⟨⟨h.h, by have := h.c;omega, by have := h.r;omega⟩, h.c⟩
theorem InQu.half {y : QuaV} (h : InQu y) : InQu { y with heard := IntKind.u8.wrap (y.heard.tdiv 2), cnt := if y.cnt - 1 < 0 then 0 else y.cnt - 1 } := by
 have h1 := h.h
 have h2 := h.c
 have h3 := h.p
 obtain ⟨t0, t1, t2, t3, t4, t5, t6, t7, t8⟩ := shl_tab
 refine ⟨h.k, by dsimp only;rw [half_is h1];omega, by dsimp only;split <;> omega, ?_, h.r⟩
 dsimp only
 rw [half_is h1]
 rcases cnt_cases h2 with e | e | e | e | e | e | e | e | e <;> rw [e] at h3 ⊢ <;> simp [t0, t1, t2, t3, t4, t5, t6, t7, t8] at h3 ⊢ <;> omega
theorem InQu.add {y : QuaV} {e : Int} (h : InQu y) (he : e = 0 ∨ e = 1) : InQu (addQ y e) := by
 have h1 := h.h
 have h2 := h.c
 have h3 := h.p
 obtain ⟨t0, t1, t2, t3, t4, t5, t6, t7, t8⟩ := shl_tab
 unfold addQ
 refine ⟨h.k, by dsimp only;rw [add_is h1 he];omega, by dsimp only;split <;> omega, ?_, h.r⟩
 dsimp only
 rw [add_is h1 he]
 rcases cnt_cases h2 with c | c | c | c | c | c | c | c | c <;> rw [c] at h3 ⊢ <;> simp [t0, t1, t2, t3, t4, t5, t6, t7, t8] at h3 ⊢ <;> omega
theorem InQu.fin {y : QuaV} (h : InQu y) {n : Int} : KnQu { addQ y 1 with next := n } := by
 have h1 := h.add (.inr rfl)
 have h2 : (addQ y 1).heard ≠ 0 := by
  show IntKind.u8.wrap _ ≠ 0
  rw [add_is h.h (.inr rfl)]
  omega
 have h3 : 1 ≤ (addQ y 1).cnt := by
  have := h.c
  unfold addQ
  dsimp only
  split <;> omega
 exact ⟨⟨h1.sm.b.h, h1.sm.b.c, h1.sm.b.r⟩, quV_of h1.k ⟨h3, h1.c.2, h2, h1.p, h1.r⟩, h1.k⟩
theorem quI1 (n : Int) : KnQu ⟨true, 1, 1, n, 0⟩ := ⟨⟨by dsimp only;omega, by dsimp only;omega, by dsimp only;omega⟩, quV_of rfl ⟨by dsimp only;omega, by dsimp only;omega, by dsimp only;omega, by show (1 : Int) < shl1 1;rw [shl_tab.2.1];decide, by dsimp only;omega, by dsimp only;omega⟩, rfl⟩
theorem GdQu.clean {o : QuaV} (h : BdQu o) : GdQu (quClean o) := ⟨quClean_bd h, by
 unfold quClean
 split
 ·assumption
 ·rfl⟩
theorem quM {o : QuaV} {n : Int} (hb : 0 ≤ (quClean o).heard ∧ (quClean o).heard < 256) (hk : (quClean o).known = true) (h : ¬ (addQ (quClean o) 0).heard = 0) : GdQu { addQ (quClean o) 0 with next := n } := by
 have h0 := InQu.of hb hk
 have h1 := h0.add (.inl rfl)
 have h3 : 1 ≤ (addQ (quClean o) 0).cnt := by
  have := h0.c
  unfold addQ
  dsimp only
  split <;> omega
 exact ⟨⟨h1.sm.b.h, h1.sm.b.c, h1.sm.b.r⟩, quV_of h1.k ⟨h3, h1.c.2, h, h1.p, h1.r⟩⟩
theorem KnQu.rep {o : QuaV} {c : Int} (h : KnQu o) (h0 : 1 ≤ c) (h1 : c ≤ 65535) : KnQu { o with rep := c } := by
 have h2 := h.v
 rw [quV_known h.k] at h2
 obtain ⟨a, b, d, e, _⟩ := dqU h2
 exact ⟨⟨h.b.h, h.b.c, by dsimp only;omega⟩, quV_of h.k ⟨a, b, d, e, by dsimp only;omega, h1⟩, h.k⟩
def PhQK (r : Value) (W w' : World) : Prop := ∃ o, KnQu o ∧ r = .agg (quC o).toArray ∧ Ext [] W w'
def PhQV (r : Value) (W w' : World) : Prop := ∃ o, GdQu o ∧ r = .agg (quC o).toArray ∧ Ext [] W w'
theorem rqhelloB_c (o : QuaV) (hb : BdQu o) (s : Int) (W : World) : Cal Tryz.prog 139 [.agg (quC o).toArray, .int .u16 s].toArray W fun r w' => PhQK r W w' := by
 have hs := SmQu.clean hb
 refine g_start (n := 53) (S := []) fldT_ok slcT_ok Tryz.func139 rfl rfl rfl (gR 2 rfl (g_box rfl rfl fun b2 => g_alloc fun b4 => gR 4 rfl (g_ldA 1 rfl rfl (qu_all trivial) (g_call rfl rfl (fun w M => rqclean_c _ ‹_› _) ?_))))
 refine g_stA 1 rfl rfl (qu_len trivial) (qu_one _) rfl (put_all (by rw [qu_len trivial];first | rfl | rw [qu_len ‹_›])) rfl ?_
 refine gR 6 rfl (g_ld1 1 rfl rfl (qu_next trivial) (g_sub rfl rfl rfl (g_conv rfl rfl (g_conv rfl rfl (gR 7 rfl (g_ld1 1 rfl rfl (qu_known trivial) (gR 2 rfl (g_split 17 rfl (fun h1 => ?_) (fun h1 => ?_)))))))))
 ·replace h1 := false_of_not h1
  refine gR 13 rfl (g_add rfl rfl rfl (g_v (fun a w F M R r => o_build F rfl rfl r) ?_))
  refine g_stA 0 rfl rfl rfl rfl rfl rfl rfl ?_
  exact gR 4 rfl (g_retC 0 rfl rfl rfl rfl rfl fun w M => ⟨⟨true, 1, 1, IntKind.u16.wrap (s + 1), 0⟩, quI1 _, rfl, M.ext⟩)
 replace h1 := true_of_not h1
 refine gR 4 rfl (g_split 21 rfl (fun h2 => ?_) (fun h2 => ?_))
 ·replace h2 := dqU h2
  refine gR 9 rfl (g_add rfl rfl rfl (g_v (fun a w F M R r => o_build F rfl rfl r) ?_))
  refine g_stA 0 rfl rfl rfl rfl rfl rfl rfl ?_
  exact gR 4 rfl (g_retC 0 rfl rfl rfl rfl rfl fun w M => ⟨⟨true, 1, 1, IntKind.u16.wrap (s + 1), 0⟩, quI1 _, rfl, M.ext⟩)
 replace h2 := dqV h2
 refine gR 5 rfl (g_if rfl (fun h3 => ?_) (fun h3 => ?_))
 ·replace h3 := dqU h3
  refine gR 3 rfl (g_add rfl rfl rfl (g_v (fun a w F M R r => o_build F rfl rfl r) ?_))
  refine g_stA 0 rfl rfl rfl rfl rfl rfl rfl ?_
  exact gR 4 rfl (g_retC 0 rfl rfl rfl rfl rfl fun w M => ⟨⟨true, 1, 1, IntKind.u16.wrap (s + 1), 0⟩, quI1 _, rfl, M.ext⟩)
 replace h3 := dqV h3
 refine gR 4 rfl ?_
 have hs := InQu.of (o := o) hs.b.h ‹_›
 refine g_loop (ι := QuaV × Int) ⟨fun (y, d) => (0 - d).toNat, fun (y, d) => InQu y ∧ d ≤ 8 ∧ -8 ≤ d, fun (y, d) => [(5, .int .i64 d), (1, .int .u16 s), (2, .pointer (some ⟨b2, 0, none⟩)), (4, .pointer (some ⟨b4, 0, none⟩))], fun (y, d) => [[(b4, .cells [Value.bool false, Value.int .u8 0, Value.int .i64 0, Value.int .u16 0, Value.int .i64 0].toArray 122 (0, 0))], [(b2, .cells (quC y).toArray 122 (0, 0))]]⟩ (quClean o, IntKind.i64.wrap (IntKind.i16.wrap (IntKind.u16.wrap (s - (quClean o).next)))) ⟨hs, by omega, by omega⟩ (fun a F => F.only [5, 1, 2, 4] rfl) (by repeat (first | exact .refl _ | apply sC2 | apply sC1)) ?_
 rintro ⟨y, d⟩ ⟨hy, hd⟩
 dsimp only at hy hd ⊢
 have hy1 := hy.h
 have hy2 := hy.c
 have hy0 := hy.sm
 by_cases hlt : d < 0
 ·refine gR 7 rfl ?_
  exact g_ifT rfl (dqT (by omega)) (gR 7 rfl (g_ld1 1 rfl rfl (qu_heard trivial) (g_v (fun a w F M R r => o_quo (F.e rfl) (F.e rfl) (by omega) rfl r) (gR 1 rfl (g_st1 1 rfl rfl rfl rfl rfl rfl (gR 4 rfl (g_ld1 1 rfl rfl rfl (g_sub rfl rfl (w_i64 (by omega) (by omega)) (g_v (fun a w F M R r => o_max (F.e rfl) (F.e rfl) r) (gR 1 rfl (g_st1 1 rfl rfl rfl rfl rfl rfl (gR 5 rfl (g_add rfl rfl (w_i64 (by omega) (by omega)) (gR 2 rfl (g_next ({ y with heard := IntKind.u8.wrap (y.heard.tdiv 2), cnt := if y.cnt - 1 < 0 then 0 else y.cnt - 1 }, d + 1) ⟨hy.half, by omega, by omega⟩ (by dsimp only;omega) (fun a F => F.only [5, 1, 2, 4] rfl) (by (try dsimp only);repeat (first | exact .refl _ | with_reducible exact sC0 _ | with_reducible apply sC2 | apply sC1)))))))))))))))))
 refine gR 7 rfl (g_ifF rfl (dqF (by omega)) (gR 2 rfl (g_outX (gR 4 rfl (g_loop (ι := QuaV × Int) ⟨fun (y, d) => d.toNat, fun (y, d) => InQu y ∧ d ≤ 8, fun (y, d) => [(5, .int .i64 d), (1, .int .u16 s), (2, .pointer (some ⟨b2, 0, none⟩)), (4, .pointer (some ⟨b4, 0, none⟩))], fun (y, d) => [[(b4, .cells [Value.bool false, Value.int .u8 0, Value.int .i64 0, Value.int .u16 0, Value.int .i64 0].toArray 122 (0, 0))], [(b2, .cells (quC y).toArray 122 (0, 0))]]⟩ (y, d) ⟨hy, by omega⟩ (fun a F => F.only [5, 1, 2, 4] rfl) (by repeat (first | exact .refl _ | apply sC2 | apply sC1)) ?_)))))
 rintro ⟨y, d⟩ ⟨hy, hd⟩
 dsimp only at hy hd ⊢
 have hy1 := hy.h
 have hy2 := hy.c
 have hy0 := hy.sm
 by_cases hlt : 0 < d
 ·refine gR 7 rfl ?_
  refine g_ifT rfl (dqT (by omega)) (gR 5 rfl (g_ldA 1 rfl rfl (qu_all trivial) (g_call rfl rfl (fun w M => rqadd_c _ ‹_› _ (by omega) (by omega) _) ?_)))
  refine g_stA 1 rfl rfl (qu_len trivial) (qu_one _) rfl (put_all (by rw [qu_len trivial];first | rfl | rw [qu_len ‹_›])) rfl ?_
  exact gR 5 rfl (g_sub rfl rfl (w_i64 (by omega) (by omega)) (gR 2 rfl (g_next (addQ y 0, d - 1) ⟨hy.add (.inl rfl), by omega⟩ (by dsimp only;omega) (fun a F => F.only [5, 1, 2, 4] rfl) (by (try dsimp only);repeat (first | exact .refl _ | with_reducible exact sC0 _ | with_reducible apply sC2 | apply sC1)))))
 refine gR 7 rfl (g_ifF rfl (dqF (by omega)) (gR 2 rfl (g_outX (gR 4 rfl (g_ldA 1 rfl rfl (qu_all trivial) (g_call rfl rfl (fun w M => rqadd_c _ ‹_› _ (by omega) (by omega) _) ?_))))))
 refine g_stA 1 rfl rfl (qu_len trivial) (qu_one _) rfl (put_all (by rw [qu_len trivial];first | rfl | rw [qu_len ‹_›])) rfl ?_
 refine gR 5 rfl (g_add rfl rfl rfl (gR 1 rfl (g_st1 1 rfl rfl rfl rfl rfl rfl (gR 4 rfl (g_ldA 1 rfl rfl rfl ?_)))))
 refine g_stA 0 rfl rfl rfl rfl rfl rfl rfl ?_
 refine gR 3 rfl (g_retC 0 rfl rfl rfl rfl rfl fun w M => ?_)
 have ha := hy.sm.add 1
 exact ⟨{ addQ y 1 with next := IntKind.u16.wrap (s + 1) }, hy.fin, rfl, M.ext⟩
theorem rqmissedB_c (o : QuaV) (hb : BdQu o) (W : World) : Cal Tryz.prog 140 [.agg (quC o).toArray].toArray W fun r w' => PhQV r W w' := by
 have hs := SmQu.clean hb
 have ha := hs.add 0
 refine g_start (n := 20) (S := []) fldT_ok slcT_ok Tryz.func140 rfl rfl rfl (gR 2 rfl (g_box rfl rfl fun b1 => g_alloc fun b2 => gR 4 rfl (g_ldA 1 rfl rfl (qu_all trivial) (g_call rfl rfl (fun w M => rqclean_c _ ‹_› _) ?_))))
 refine g_stA 1 rfl rfl (qu_len trivial) (qu_one _) rfl (put_all (by rw [qu_len trivial];first | rfl | rw [qu_len ‹_›])) rfl ?_
 refine gR 6 rfl (g_ld1 1 rfl rfl (qu_known trivial) (gR 3 rfl (g_if rfl (fun h1 => ?_) (fun h1 => ?_))))
 ·replace h1 := false_of_not h1
  refine gR 2 rfl (g_ldA 1 rfl rfl (qu_all trivial) ?_)
  refine g_stA 0 rfl rfl rfl rfl rfl rfl rfl ?_
  exact gR 4 rfl (g_retC 0 rfl rfl rfl rfl rfl fun w M => ⟨quClean o, GdQu.clean hb, rfl, M.ext⟩)
 ·replace h1 := true_of_not h1
  refine gR 4 rfl (g_ldA 1 rfl rfl (qu_all trivial) (g_call rfl rfl (fun w M => rqadd_c _ ‹_› _ (by omega) (by omega) _) ?_))
  refine g_stA 1 rfl rfl (qu_len trivial) (qu_one _) rfl (put_all (by rw [qu_len trivial];first | rfl | rw [qu_len ‹_›])) rfl ?_
  refine gR 5 rfl (g_ld1 1 rfl rfl (qu_next trivial) (g_add rfl rfl rfl (gR 1 rfl (g_st1 1 rfl rfl rfl rfl rfl rfl (gR 6 rfl (g_ld1 1 rfl rfl rfl (gR 3 rfl (g_if rfl (fun h2 => ?_) (fun h2 => ?_)))))))))
  ·replace h2 := dqU h2
   refine gR 2 rfl (g_v (fun a w F M R r => o_build F rfl rfl r) ?_)
   refine g_stA 0 rfl rfl rfl rfl rfl rfl rfl ?_
   exact gR 4 rfl (g_retC 0 rfl rfl rfl rfl rfl fun w M => ⟨qu0, ⟨BdQu.zero, rfl⟩, rfl, M.ext⟩)
  ·replace h2 := dqV h2
   refine gR 4 rfl (g_ldA 1 rfl rfl rfl ?_)
   refine g_stA 0 rfl rfl rfl rfl rfl rfl rfl ?_
   exact gR 3 rfl (g_retC 0 rfl rfl rfl rfl rfl fun w M => ⟨{ addQ (quClean o) 0 with next := IntKind.u16.wrap ((addQ (quClean o) 0).next + 1) }, quM hs.b.h ‹_› ‹_›, rfl, M.ext⟩)
theorem rqreportB_c (o : QuaV) (hg : KnQu o) (c : Int) (hc : -9223372036854775808 ≤ c ∧ c ≤ 9223372036854775807) (W : World) : Cal Tryz.prog 141 [.agg (quC o).toArray, .int .i64 c].toArray W fun r w' => PhQK r W w' := by
 have hb := hg.b
 have hq : quClean o = o := if_pos hg.v
 have hs := SmQu.clean hb
 refine g_start (n := 20) (S := []) fldT_ok slcT_ok Tryz.func141 rfl rfl rfl (gR 2 rfl (g_box rfl rfl fun b2 => g_alloc fun b4 => gR 4 rfl (g_ldA 1 rfl rfl (qu_all trivial) (g_call rfl rfl (fun w M => rqclean_c _ ‹_› _) ?_))))
 refine g_stA 1 rfl rfl (qu_len trivial) (qu_one _) rfl (put_all (by rw [qu_len trivial];first | rfl | rw [qu_len ‹_›])) rfl ?_
 refine gR 6 rfl (g_ld1 1 rfl rfl (qu_known trivial) (gR 1 rfl (g_split 9 rfl (fun h1 => ?_) (fun h1 => ?_))))
 ·refine gR 4 rfl (g_split 13 rfl (fun h2 => ?_) (fun h2 => ?_))
  ·replace h2 := dqU h2
   refine gR 5 rfl (g_if rfl (fun h3 => ?_) (fun h3 => ?_))
   ·replace h3 := dqU h3
    refine gR 3 rfl (g_st1 1 rfl rfl rfl rfl rfl rfl (gR 4 rfl (g_ldA 1 rfl rfl rfl ?_)))
    refine g_stA 0 rfl rfl rfl rfl rfl rfl rfl ?_
    exact gR 3 rfl (g_retC 0 rfl rfl rfl rfl rfl fun w M => ⟨{ quClean o with rep := c }, (hq.symm ▸ hg).rep (by omega) (by omega), rfl, M.ext⟩)
   ·replace h3 := dqV h3
    refine gR 4 rfl (g_ldA 1 rfl rfl (qu_all trivial) ?_)
    refine g_stA 0 rfl rfl rfl rfl rfl rfl rfl ?_
    exact gR 3 rfl (g_retC 0 rfl rfl rfl rfl rfl fun w M => ⟨quClean o, hq.symm ▸ hg, rfl, M.ext⟩)
  ·replace h2 := dqV h2
   refine gR 10 rfl (g_ldA 1 rfl rfl (qu_all trivial) ?_)
   refine g_stA 0 rfl rfl rfl rfl rfl rfl rfl ?_
   exact gR 3 rfl (g_retC 0 rfl rfl rfl rfl rfl fun w M => ⟨quClean o, hq.symm ▸ hg, rfl, M.ext⟩)
 ·refine gR 14 rfl (g_ldA 1 rfl rfl (qu_all trivial) ?_)
  refine g_stA 0 rfl rfl rfl rfl rfl rfl rfl ?_
  exact gR 3 rfl (g_retC 0 rfl rfl rfl rfl rfl fun w M => ⟨quClean o, hq.symm ▸ hg, rfl, M.ext⟩)
def PhQU (p : Option Addr) (len cap bt : Nat) (r : Value) (W w' : World) : Prop := ∃ o k', KnQu o ∧ r = .agg (quC o).toArray ∧ Mem [bt] W w' [(bt, tobj p len cap k')]
theorem wqualityB_c {bt : Nat} {p : Option Addr} {len cap k : Nat} {xs : List Int} (W : World) (hT : TapeS W bt p len xs) (hb : W.heap[bt]? = some (tobj p len cap k)) :
  Cal Tryz.prog 59 [.pointer (some ⟨bt, 0, none⟩)].toArray W fun r w' => PhQU p len cap bt r W w' := by
 refine g_startB (n := 38) [bt] hb (by simp) fldT_ok slcT_ok Tryz.func59 rfl rfl rfl (gR 2 rfl (g_alloc fun b2 => gR 4 rfl (g_v (fun a w F M R r => o_build F rfl rfl r) (gR 1 rfl ?_))))
 refine g_callT (ι := Int × Nat) 1 (fun j => .int .u16 j.1) (fun _ => True) (fun j => tobj p len cap j.2) (fun _ => []) rfl rfl rfl (fun w M => Cal.mono (seqE_c w (hT.later M.ext) (M.at_ _ (nthO_mem (i := 1) rfl))) fun r w' h => by
  obtain ⟨x, k', q, N⟩ := h
  exact ⟨(x, k'), q, trivial, by simpa using N⟩) (fun _ => rfl) ?_
 rintro ⟨s, k1⟩ -
 dsimp only [List.nil_append]
 refine g_callN (ι := QuaV) (fun o => .agg (quC o).toArray) KnQu (fun _ => []) rfl rfl (fun w M => Cal.mono (rqhelloB_c qu0 BdQu.zero s w) fun r w' h => by
  obtain ⟨o, ho, q, E⟩ := h
  exact ⟨o, q, ho, Mem.nil E⟩) ?_
 intro y hy
 dsimp only [List.nil_append]
 have n9 := nxV_bd xs k1 (n := 9) (by omega)
 refine g_alloc fun b3 => g_stA 0 rfl rfl (qu_len trivial) (qu_one _) rfl (put_all (by rw [qu_len trivial];first | rfl | rw [qu_len ‹_›])) rfl ?_
 refine gR 6 rfl (g_callT1 2 rfl rfl rfl (fun w M => next_c _ (by omega) (by omega) w (hT.later M.ext) (M.at_ _ (nthO_mem (i := 2) rfl))) rfl (gR 4 rfl (g_loop (ι := QuaV × Int × Nat) ⟨fun (y, d, k2) => d.toNat, fun (y, d, k2) => GdQu y ∧ d < 9, fun (y, d, k2) => [(4, .int .i64 d), (3, .pointer (some ⟨b3, 0, none⟩)), (0, .pointer (some ⟨bt, 0, none⟩)), (2, .pointer (some ⟨b2, 0, none⟩))], fun (y, d, k2) => [[(b3, Obj.cells (quC y).toArray 122 (0, 0))], [(b2, .cells (quC qu0).toArray 122 (0, 0))], [(bt, tobj p len cap k2)]]⟩ (y, _, _) ⟨⟨hy.b, hy.v⟩, by omega⟩ (fun a F => F.only [4, 3, 0, 2] rfl) (by repeat (first | exact .refl _ | apply sC2 | apply sC1)) ?_)))
 clear n9 hy
 rintro ⟨y, d, k2⟩ ⟨hy, hd⟩
 dsimp only at hy hd ⊢
 have hb1 := hy.b
 by_cases hlt : 0 < d
 ·refine gR 7 rfl ?_
  refine g_ifT rfl (dqT (by omega)) (gR 7 rfl (g_callT1 2 rfl rfl rfl (fun w M => bool_c _ (by omega) (by omega) w (hT.later M.ext) (M.at_ _ (nthO_mem (i := 2) rfl))) rfl (gR 2 rfl (g_if rfl (fun h1 => ?_) (fun h1 => ?_)))))
  focus
   replace h1 := dqU h1
   refine gR 1 rfl (g_ldA 0 rfl rfl (qu_all trivial) ?_)
  rotate_left 1
  focus
   replace h1 := dqV h1
   refine gR 1 rfl (g_ldA 0 rfl rfl (qu_all trivial) (gR 1 rfl (g_ld1 0 rfl rfl (qu_next trivial) ?_)))
  rotate_right 1
  ·refine g_callN (ι := QuaV) (fun o => .agg (quC o).toArray) GdQu (fun _ => []) rfl rfl (fun w M => Cal.mono (rqmissedB_c y hb1 w) fun r w' h => by
    obtain ⟨o, ho, q, E⟩ := h
    exact ⟨o, q, ho, Mem.nil E⟩) ?_
   intro y2 hy2
   dsimp only [List.nil_append]
   refine g_stA 0 rfl rfl (qu_len trivial) (qu_one _) rfl (put_all (by rw [qu_len trivial];first | rfl | rw [qu_len ‹_›])) rfl ?_
   refine gR 5 rfl (g_sub rfl rfl (w_i64 (by omega) (by omega)) (gR 2 rfl ?_))
   exact g_next (y2, d - 1, _) ⟨hy2, by dsimp only;omega⟩ (by dsimp only;omega) (fun a F => F.only [4, 3, 0, 2] rfl) (by (try dsimp only);repeat (first | exact .refl _ | with_reducible exact sC0 _ | with_reducible apply sC2 | apply sC1))
  ·refine g_callN (ι := QuaV) (fun o => .agg (quC o).toArray) KnQu (fun _ => []) rfl rfl (fun w M => Cal.mono (rqhelloB_c y hb1 y.next w) fun r w' h => by
    obtain ⟨o, ho, q, E⟩ := h
    exact ⟨o, q, ho, Mem.nil E⟩) ?_
   intro y2 hy2
   dsimp only [List.nil_append]
   refine g_stA 0 rfl rfl (qu_len trivial) (qu_one _) rfl (put_all (by rw [qu_len trivial];first | rfl | rw [qu_len ‹_›])) rfl ?_
   refine gR 5 rfl (g_sub rfl rfl (w_i64 (by omega) (by omega)) (gR 2 rfl ?_))
   exact g_next (y2, d - 1, _) ⟨⟨hy2.b, hy2.v⟩, by dsimp only;omega⟩ (by dsimp only;omega) (fun a F => F.only [4, 3, 0, 2] rfl) (by (try dsimp only);repeat (first | exact .refl _ | with_reducible exact sC0 _ | with_reducible apply sC2 | apply sC1))
 refine gR 7 rfl (g_ifF rfl (dqF (by omega)) (gR 2 rfl (g_outX (gR 3 rfl (g_cutC (ι := QuaV) ⟨fun y => KnQu y, fun y => [(3, .pointer (some ⟨b3, 0, none⟩)), (0, .pointer (some ⟨bt, 0, none⟩)), (2, .pointer (some ⟨b2, 0, none⟩))], fun y => [[(b3, Obj.cells (quC y).toArray 122 (0, 0))], [(b2, .cells (quC qu0).toArray 122 (0, 0))], [(bt, tobj p len cap k2)]]⟩ ?_ ?_)))))
 ·cases hk : y.known
  ·refine gR 3 rfl ?_
   refine g_ld1 0 rfl rfl (qu_known trivial) (gR 3 rfl (g_ifT rfl (notT ‹_›) ?_))
   refine gR 1 rfl (g_ldA 0 rfl rfl (qu_all trivial) ?_)
   refine g_callN (ι := QuaV) (fun o => .agg (quC o).toArray) KnQu (fun _ => []) rfl rfl (fun w M => Cal.mono (rqhelloB_c y hb1 0 w) fun r w' h => by
    obtain ⟨o, ho, q, E⟩ := h
    exact ⟨o, q, ho, Mem.nil E⟩) ?_
   intro y2 hy2
   dsimp only [List.nil_append]
   refine g_stA 0 rfl rfl (qu_len trivial) (qu_one _) rfl (put_all (by rw [qu_len trivial];first | rfl | rw [qu_len ‹_›])) rfl ?_
   exact gR 1 rfl (g_join y2 hy2 (fun a F => F.only [3, 0, 2] rfl) (by (try dsimp only);repeat (first | exact .refl _ | with_reducible exact sC0 _ | with_reducible apply sC2 | apply sC1)))
  ·refine gR 3 rfl ?_
   refine g_ld1 0 rfl rfl (qu_known trivial) (gR 3 rfl (g_ifF rfl (notF ‹_›) ?_))
   exact gR 1 rfl (g_join y ⟨hy.b, hy.v, hk⟩ (fun a F => F.only [3, 0, 2] rfl) (by (try dsimp only);repeat (first | exact .refl _ | with_reducible exact sC0 _ | with_reducible apply sC2 | apply sC1)))
 clear hy hb1 hlt hd y
 intro y hy
 have hb1 := hy.b
 dsimp only
 have n5 := nxV_bd xs (nxK xs k2) (n := 5) (by omega)
 obtain ⟨cc, hcc, c0, c1⟩ := rep_el n5.1 n5.2
 refine gR 5 rfl (g_callT1 2 rfl rfl rfl (fun w M => bool_c _ (by omega) (by omega) w (hT.later M.ext) (M.at_ _ (nthO_mem (i := 2) rfl))) rfl (gR 2 rfl (g_if rfl (fun h1 => ?_) (fun h1 => ?_))))
 ·replace h1 := dqU h1
  refine gR 2 rfl (g_ldA 0 rfl rfl (qu_all trivial) (g_stA 1 rfl rfl (qu_len trivial) (qu_one _) rfl (put_all (by rw [qu_len trivial];first | rfl | rw [qu_len ‹_›])) rfl ?_))
  exact gR 4 rfl (g_retC 1 rfl rfl rfl rfl (qu_all trivial) fun w M => ⟨y, _, hy, rfl, M.sub (.cons _ (.cons _ (.refl _)))⟩)
 replace h1 := dqV h1
 refine gR 2 rfl (gR 1 rfl (g_drawE 7 38 [bt] [3, 6] [] [[(bt, tobj p len cap (nxK xs k2))]] [[(b3, Obj.cells (quC y).toArray 122 (0, 0))], [(b2, .cells (quC qu0).toArray 122 (0, 0))]] rfl (by kernel_rfl) (by simpa using List.perm_append_comm (l₁ := [(b3, Obj.cells (quC y).toArray 122 (0, 0)), (b2, .cells (quC qu0).toArray 122 (0, 0))]) (l₂ := [(bt, tobj p len cap (nxK xs k2))])) (by simp) (fe_start ?_)))
 refine fe_v (fun a2 w F M R r => o_loadHA (F.e rfl) (M.at_ _ (.head _)) (show seg (quC y) 0 5 = some (quC y) from rfl) r) (fe_bs rfl rfl rfl rfl (fe_run 60 rfl (fe_opK (v := .int .i64 (nxV xs (nxK xs k2) 5)) (fun _ => [[(b3, Obj.cells (quC y).toArray 122 (0, 0))], [(b2, .cells (quC qu0).toArray 122 (0, 0))], [(bt, tobj p len cap (nxK xs (nxK xs k2)))]]) [] (fun i hi => ?_) ?_)))
 ·exact opf_callK 2 rfl rfl rfl (.head _) (fun w M => next_c 5 (by omega) (by omega) w (hT.later M.ext) (M.at_ _ (nthO_mem (i := 2) rfl))) rfl
 refine fe_run 60 rfl (fe_ixX 1 (.head _) rfl n5.1 (by omega) (fe_ldX 4 (.head _) hcc (fe_run 60 rfl (fe_op (κ := QuaV) (fun _ o => .agg (quC o).toArray) (fun _ o => KnQu o) (fun _ _ => [[(b3, Obj.cells (quC y).toArray 122 (0, 0))], [(b2, .cells (quC qu0).toArray 122 (0, 0))], [(bt, tobj p len cap (nxK xs (nxK xs k2)))]]) [] .any (fun i hi => ?_) (fun _ _ _ _ => trivial) ?_))))
 ·exact opf_callN (fun o : QuaV => .agg (quC o).toArray) (fun o => KnQu o) (fun _ => []) rfl rfl (fun w M => Cal.mono (rqreportB_c y hy cc (by omega) w) fun r w' h => by
   obtain ⟨o, ho, q, E⟩ := h
   exact ⟨o, q, ho, Mem.nil E⟩)
 refine fe_fin rfl (by rintro i _ q hq;simp at hq;rcases hq with rfl <;> simp) ?_
 rintro ⟨_, o⟩ ⟨_, ho⟩
 refine ⟨_, rfl, ?_⟩
 dsimp only at ho ⊢
 refine g_stA 1 rfl rfl rfl rfl rfl rfl rfl ?_
 exact gR 3 rfl (g_retC 1 rfl rfl rfl rfl rfl fun w M => ⟨o, _, ho, rfl, M.sub (.cons _ (.cons _ (.refl _)))⟩)
theorem rtF0 {s : RtV} (h : s.self = 0) : Value.bool false = .bool (rtValid s) := by unfold rtValid;simp [h]
theorem rtF1 {s : RtV} (h : isTime s.raised = false) : Value.bool false = .bool (rtValid s) := by unfold rtValid;simp [h]
theorem rtF2 {s : RtV} (h : isTime s.quiet = false) : Value.bool false = .bool (rtValid s) := by unfold rtValid;simp [h]
theorem rtF3 {s : RtV} (h : isTime s.nextH = false) : Value.bool false = .bool (rtValid s) := by unfold rtValid;simp [h]
theorem rtF4 {s : RtV} (h : validOgs s.self s.og = false) : Value.bool false = .bool (rtValid s) := by unfold rtValid;simp [h]
theorem rtF5 {s : RtV} (h : validAjs s.self s.aj = false) : Value.bool false = .bool (rtValid s) := by unfold rtValid;simp [h]
theorem rtF6 {s : RtV} (h : validSs s.sr = false) : Value.bool false = .bool (rtValid s) := by unfold rtValid;simp [h]
theorem rtF7 {s : RtV} (h : validRs s.ro = false) : Value.bool false = .bool (rtValid s) := by unfold rtValid;simp [h]
theorem rtF8 {s : RtV} (h : validIs s.ins = false) : Value.bool false = .bool (rtValid s) := by unfold rtValid;simp [h]
theorem rtF9 {s : RtV} (h : validRqs s.rq = false) : Value.bool false = .bool (rtValid s) := by unfold rtValid;simp [h]
theorem rtF10 {s : RtV} (h : (validAs s.av && isTime s.full) = false) : Value.bool false = .bool (rtValid s) := by unfold rtValid;simp [h]
theorem rtF11 {s : RtV} (h : (s.ro.any fun x => decide (x.to.rt = s.self)) = true) : Value.bool false = .bool (rtValid s) := by unfold rtValid;simp [h]
theorem rtF12 {s : RtV} (h : (s.ins.any fun x => decide (x.to.rt = s.self)) = true) : Value.bool false = .bool (rtValid s) := by unfold rtValid;simp [h]
theorem rtL {s : RtV} (h0 : ¬ s.self = 0) (h1 : isTime s.raised = true) (h2 : isTime s.quiet = true) (h3 : isTime s.nextH = true) (h4 : validOgs s.self s.og = true) (h5 : validAjs s.self s.aj = true) (h6 : validSs s.sr = true) (h7 : validRs s.ro = true) (h8 : validIs s.ins = true) (h9 : validRqs s.rq = true) (h10 : (validAs s.av && isTime s.full) = true) (h11 : (s.ro.any fun x => decide (x.to.rt = s.self)) = false) : Value.bool (!(s.ins.any fun x => decide (x.to.rt = s.self))) = .bool (rtValid s) := by
 unfold rtValid
 rw [dqF h0, h1, h2, h3, h4, h5, h6, h7, h8, h9, h10, h11]
 rfl
theorem validRs_len {l : List RouV} (h : validRs l = true) : l.length ≤ 1000 := by unfold validRs vldL at h;simp at h;omega
theorem validIs_len {l : List InsV} (h : validIs l = true) : l.length ≤ 1000 := by unfold validIs vldL at h;simp at h;omega
theorem vclR_c (s : RtV) (x : RtX) (b1 : Nat) (W : World) (hb : W.heap[b1]? = some (.cells (rtC s x).toArray 53 (0, 0))) (r : RouV) (hr : IsRo r) : Cal Tryz.prog 109 ([Value.agg (roC r).toArray] ++ [Value.pointer (some ⟨b1, 0, none⟩)]).toArray W fun v w' => v = .bool (decide (r.to.rt = s.self)) ∧ Ext [] W w' := by
 have hld : ∀ w', Ext [] W w' → w'.heap[b1]? = some (.cells (rtC s x).toArray 53 (0, 0)) := fun w' E => (E.block b1 (Array.getElem?_eq_some_iff.1 hb).1 (by simp)).trans hb
 have hf : nth (rtC s x) 0 = some (.int .u64 s.self) := rfl
 simp only [List.cons_append, List.nil_append]
 refine g_start (n := 10) (S := []) fldT_ok slcT_ok Tryz.func109 rfl rfl rfl (gR 2 rfl (g_box rfl rfl fun b2 => gR 7 rfl (g_ld1 0 rfl rfl (ro_to_rt ‹_›) ?_)))
 refine gR 1 rfl (g_le1 rfl ‹_› (by with_reducible assumption) ?_)
 exact gR 5 rfl (g_ret1 rfl rfl rfl fun w M => ⟨rfl, M.ext⟩)
theorem vclI_c (s : RtV) (x : RtX) (b1 : Nat) (W : World) (hb : W.heap[b1]? = some (.cells (rtC s x).toArray 53 (0, 0))) (r : InsV) (hr : IsIn r) : Cal Tryz.prog 111 ([Value.agg (inC r).toArray] ++ [Value.pointer (some ⟨b1, 0, none⟩)]).toArray W fun v w' => v = .bool (decide (r.to.rt = s.self)) ∧ Ext [] W w' := by
 have hld : ∀ w', Ext [] W w' → w'.heap[b1]? = some (.cells (rtC s x).toArray 53 (0, 0)) := fun w' E => (E.block b1 (Array.getElem?_eq_some_iff.1 hb).1 (by simp)).trans hb
 have hf : nth (rtC s x) 0 = some (.int .u64 s.self) := rfl
 simp only [List.cons_append, List.nil_append]
 refine g_start (n := 10) (S := []) fldT_ok slcT_ok Tryz.func111 rfl rfl rfl (gR 2 rfl (g_box rfl rfl fun b2 => gR 7 rfl (g_ld1 0 rfl rfl (in_to_rt ‹_›) ?_)))
 refine gR 1 rfl (g_le1 rfl ‹_› (by with_reducible assumption) ?_)
 exact gR 5 rfl (g_ret1 rfl rfl rfl fun w M => ⟨rfl, M.ext⟩)
theorem ext_keep {w w' : World} {b : Nat} {o : Obj} (E : Ext [] w w') (h : w.heap[b]? = some o) : w'.heap[b]? = some o := (E.block b (Array.getElem?_eq_some_iff.1 h).1 (by simp)).trans h
theorem rtvalidM_c (s : RtV) (x : RtX) (hs : IsRt s) (W : World) (h : RtAt W s x) : Cal Tryz.prog 34 [.agg (rtC s x).toArray].toArray W fun r w' => r = .bool (rtValid s) ∧ Ext [] W w' := by
 obtain ⟨v6, v7, v8, v9, v10, v11, v12⟩ := x
 obtain ⟨a6, a7, a8, a9, a10, a11, a12⟩ := h
 dsimp only at a6 a7 a8 a9 a10 a11 a12
 obtain ⟨q6, c6, rfl, _⟩ := id a6
 obtain ⟨q7, c7, rfl, _⟩ := id a7
 obtain ⟨q8, c8, rfl, _⟩ := id a8
 obtain ⟨q9, c9, rfl, _⟩ := id a9
 obtain ⟨q10, c10, rfl, _⟩ := id a10
 obtain ⟨q11, c11, rfl, _⟩ := id a11
 obtain ⟨q12, c12, rfl, _⟩ := id a12
 obtain ⟨i6, i7, i8, i9, i10, i11, i12, iq⟩ := hs
 refine g_start (n := 80) (S := []) fldT_ok slcT_ok Tryz.func34 rfl rfl rfl (gR 2 rfl (g_box rfl rfl fun b1 => gR 7 rfl (g_ld1 0 rfl rfl rfl (gR 2 rfl (g_split 6 rfl (fun h1 => ?_) (fun h1 => ?_))))))
 ·replace h1 := dqU h1
  exact gR 43 rfl (g_ret1 rfl rfl rfl fun w M => ⟨rtF0 ‹_›, M.ext⟩)
 replace h1 := dqV h1
 refine gR 1 rfl (g_ld1 0 rfl rfl rfl (g_call rfl rfl (fun w M => oisTime_c _ _) (gR 3 rfl (g_split 12 rfl (fun h2 => ?_) (fun h2 => ?_)))))
 ·replace h2 := false_of_not h2
  exact gR 37 rfl (g_ret1 rfl rfl rfl fun w M => ⟨rtF1 ‹_›, M.ext⟩)
 replace h2 := true_of_not h2
 refine gR 1 rfl (g_ld1 0 rfl rfl rfl (g_call rfl rfl (fun w M => oisTime_c _ _) (gR 3 rfl (g_split 18 rfl (fun h3 => ?_) (fun h3 => ?_)))))
 ·replace h3 := false_of_not h3
  exact gR 31 rfl (g_ret1 rfl rfl rfl fun w M => ⟨rtF2 ‹_›, M.ext⟩)
 replace h3 := true_of_not h3
 refine gR 1 rfl (g_ld1 0 rfl rfl rfl (g_call rfl rfl (fun w M => oisTime_c _ _) (gR 3 rfl (g_split 24 rfl (fun h4 => ?_) (fun h4 => ?_)))))
 ·replace h4 := false_of_not h4
  exact gR 25 rfl (g_ret1 rfl rfl rfl fun w M => ⟨rtF3 ‹_›, M.ext⟩)
 replace h4 := true_of_not h4
 refine gR 1 rfl (g_ld1 0 rfl rfl rfl (gR 1 rfl (g_ld1 0 rfl rfl rfl (g_call rfl rfl (fun w M => validOgs_c _ _ ‹_› _ _ ((by assumption : SlAt _ _ _ _ _).later M.ext)) ?_))))
 refine gR 3 rfl (g_split 32 rfl (fun h5 => ?_) (fun h5 => ?_))
 ·replace h5 := false_of_not h5
  exact gR 17 rfl (g_ret1 rfl rfl rfl fun w M => ⟨rtF4 ‹_›, M.ext⟩)
 replace h5 := true_of_not h5
 refine gR 1 rfl (g_ld1 0 rfl rfl rfl (gR 1 rfl (g_ld1 0 rfl rfl rfl (g_call rfl rfl (fun w M => validAjs_c _ _ ‹_› ‹_› _ _ ((by assumption : SlAt _ _ _ _ _).later M.ext)) ?_))))
 refine gR 4 rfl (g_if rfl (fun h6 => ?_) (fun h6 => ?_))
 ·replace h6 := false_of_not h6
  exact gR 7 rfl (g_ret1 rfl rfl rfl fun w M => ⟨rtF5 ‹_›, M.ext⟩)
 replace h6 := true_of_not h6
 refine gR 6 rfl (g_ld1 0 rfl rfl rfl (g_call rfl rfl (fun w M => scvalid_c _ ‹_› _ _ ((by assumption : SlAt _ _ _ _ _).later M.ext)) ?_))
 refine gR 2 rfl (g_split 44 rfl (fun h7 => ?_) (fun h7 => ?_))
 ·replace h7 := false_of_not h7
  exact gR 33 rfl (g_ret1 rfl rfl rfl fun w M => ⟨rtF6 ‹_›, M.ext⟩)
 replace h7 := true_of_not h7
 refine gR 1 rfl (g_ld1 0 rfl rfl rfl (g_call rfl rfl (fun w M => rtvalid_c _ ‹_› _ _ ((by assumption : SlAt _ _ _ _ _).later M.ext)) ?_))
 refine gR 3 rfl (g_split 50 rfl (fun h8 => ?_) (fun h8 => ?_))
 ·replace h8 := false_of_not h8
  exact gR 27 rfl (g_ret1 rfl rfl rfl fun w M => ⟨rtF7 ‹_›, M.ext⟩)
 replace h8 := true_of_not h8
 refine gR 1 rfl (g_ld1 0 rfl rfl rfl (g_call rfl rfl (fun w M => rtvalidI_c _ ‹_› _ _ ((by assumption : SlAt _ _ _ _ _).later M.ext)) ?_))
 refine gR 3 rfl (g_split 56 rfl (fun h9 => ?_) (fun h9 => ?_))
 ·replace h9 := false_of_not h9
  exact gR 21 rfl (g_ret1 rfl rfl rfl fun w M => ⟨rtF8 ‹_›, M.ext⟩)
 replace h9 := true_of_not h9
 refine gR 1 rfl (g_ld1 0 rfl rfl rfl (g_call rfl rfl (fun w M => rqvalidQ_c _ ‹_› _ _ ((by assumption : SlAt _ _ _ _ _).later M.ext)) ?_))
 refine gR 3 rfl (g_split 62 rfl (fun h10 => ?_) (fun h10 => ?_))
 ·replace h10 := false_of_not h10
  exact gR 15 rfl (g_ret1 rfl rfl rfl fun w M => ⟨rtF9 ‹_›, M.ext⟩)
 replace h10 := true_of_not h10
 refine gR 1 rfl (g_ldA 0 rfl rfl rfl ?_)
 refine g_call rfl rfl (fun w M => uvalid_c _ ‹_› _ _ _ ((by assumption : SlAt _ _ _ _ _).later M.ext)) ?_
 refine gR 4 rfl (g_if rfl (fun h11 => ?_) (fun h11 => ?_))
 ·replace h11 := false_of_not h11
  exact gR 7 rfl (g_ret1 rfl rfl rfl fun w M => ⟨rtF10 ‹_›, M.ext⟩)
 replace h11 := true_of_not h11
 refine gR 5 rfl (g_ld1 0 rfl rfl rfl (g_mkF (us := [Value.pointer (some ⟨b1, 0, none⟩)]) rfl rfl (g_call (v := .bool (s.ro.any fun x => decide (x.to.rt = s.self))) rfl rfl (fun w M => anyR_c s.ro i9 _ w (a9.later M.ext) (validRs_len h8) _ _ _ fun w' x E hx => vclR_c s _ b1 w' (ext_keep E (M.at_ _ (nthO_mem (i := 0) rfl))) x (i9 x hx)) ?_)))
 cases hro : s.ro.any fun x => decide (x.to.rt = s.self)
 ·refine gR 3 rfl ?_
  exact g_ld1 0 rfl rfl rfl (g_mkF (us := [Value.pointer (some ⟨b1, 0, none⟩)]) rfl rfl (g_call (v := .bool (s.ins.any fun x => decide (x.to.rt = s.self))) rfl rfl (fun w M => anyI_c s.ins i10 _ w (a10.later M.ext) (validIs_len h9) _ _ _ fun w' x E hx => vclI_c s _ b1 w' (ext_keep E (M.at_ _ (nthO_mem (i := 0) rfl))) x (i10 x hx)) (gR 6 rfl (g_ret1 rfl rfl rfl fun w M => ⟨rtL h1 h2 h3 h4 h5 h6 h7 h8 h9 h10 h11 hro, M.ext⟩))))
 ·refine gR 12 rfl ?_
  exact g_ret1 rfl rfl rfl fun w M => ⟨rtF11 hro, M.ext⟩
end Go.Proofs.YtfhkmgcalcfibaaGreat
namespace Go.Proofs.YtfhkmgcalcfibaaGreat
open Go.RowKit
section
variable {α : Type} {n : Nat} {e1 : α → Bool} {cm : α → α → Int} {l : List α} {i : Nat}
theorem vlf_F {x : α} (h : i < l.length) (hx : x = l[i]) (hv : e1 x = false) : vldL n e1 cm l = false := vl_at h (vld1_f h (by rw [← hx];exact hv)) rfl
theorem vlf_S {x y : α} (h : i < l.length) (h0 : 0 < i) (hx : x = l[i]) (hy : y = l[i - 1]'(by omega)) (hv : ¬ cm y x < 0) : vldL n e1 cm l = false := vl_at h (by rw [vld1_s h h0, ← hx, ← hy, dqF hv, Bool.and_false]) rfl
theorem vlf_L (h : n < l.length) : vldL n e1 cm l = false := by unfold vldL;rw [dqF (by omega), Bool.false_and]
theorem vlt_T (h : l.length ≤ n) (ha : ∀ j, j < l.length → vld1 e1 cm l j = true) : vldL n e1 cm l = true := by
 unfold vldL
 rw [dqT h, Bool.true_and, List.all_eq_true.2 fun j hj => ha j (List.mem_range.1 hj)]
end
theorem any_at {α : Type} {p : α → Bool} {l : List α} {x : α} (h : x ∈ l) (hp : p x = true) : l.any p = true := List.any_eq_true.2 ⟨x, h, hp⟩
theorem any_none {α : Type} {p : α → Bool} {l : List α} (h : ∀ j (hj : j < l.length) (hj2 : j < l.length), p l[j] = false) : l.any p = false := List.any_eq_false.2 fun x hx => by
 obtain ⟨j, hj, rfl⟩ := List.getElem_of_mem hx
 rw [h j hj hj]
 simp
attribute [local irreducible] OpTo wpListIn Code.wpIn MW Cal
theorem refvalidRt_c (s : RtV) (x : RtX) (hs : IsRt s) (W : World) (h : RtAt W s x) : Cal Tryz.prog 36 [.agg (rtC s x).toArray].toArray W fun r w' => r = .bool (rtValid s) ∧ Ext [] W w' := by
 obtain ⟨v6, v7, v8, v9, v10, v11, v12⟩ := x
 obtain ⟨a6, a7, a8, a9, a10, a11, a12⟩ := h
 dsimp only at a6 a7 a8 a9 a10 a11 a12
 obtain ⟨q6, c6, rfl, _⟩ := id a6
 obtain ⟨q7, c7, rfl, _⟩ := id a7
 obtain ⟨q8, c8, rfl, _⟩ := id a8
 obtain ⟨q9, c9, rfl, _⟩ := id a9
 obtain ⟨q10, c10, rfl, _⟩ := id a10
 obtain ⟨q11, c11, rfl, _⟩ := id a11
 obtain ⟨q12, c12, rfl, _⟩ := id a12
 obtain ⟨i6, i7, i8, i9, i10, i11, i12, iq⟩ := hs
 have m6 := a6.memB [] (by simp)
 have m7 := a7.memB [] (by simp)
 have m9 := a9.memB [] (by simp)
 have m10 := a10.memB [] (by simp)
 refine g_start (n := 193) (S := []) fldT_ok slcT_ok Tryz.func36 rfl rfl rfl (gR 2 rfl (g_box rfl rfl fun b1 => gR 7 rfl (g_ld1 0 rfl rfl rfl (gR 2 rfl (g_split 14 rfl (fun h1 => ?_) (fun h1 => ?_))))))
 ·replace h1 := dqU h1
  exact gR 39 rfl (g_ret1 rfl rfl rfl fun w M => ⟨rtF0 ‹_›, M.ext⟩)
 replace h1 := dqV h1
 refine gR 1 rfl (g_ld1 0 rfl rfl rfl (g_call rfl rfl (fun w M => risTime_c _ _) (gR 3 rfl (g_split 20 rfl (fun h2 => ?_) (fun h2 => ?_)))))
 ·replace h2 := false_of_not h2
  exact gR 33 rfl (g_ret1 rfl rfl rfl fun w M => ⟨rtF1 ‹_›, M.ext⟩)
 replace h2 := true_of_not h2
 refine gR 1 rfl (g_ld1 0 rfl rfl rfl (g_call rfl rfl (fun w M => risTime_c _ _) (gR 3 rfl (g_split 26 rfl (fun h3 => ?_) (fun h3 => ?_)))))
 ·replace h3 := false_of_not h3
  exact gR 27 rfl (g_ret1 rfl rfl rfl fun w M => ⟨rtF2 ‹_›, M.ext⟩)
 replace h3 := true_of_not h3
 refine gR 1 rfl (g_ld1 0 rfl rfl rfl (g_call rfl rfl (fun w M => risTime_c _ _) (gR 3 rfl (g_split 32 rfl (fun h4 => ?_) (fun h4 => ?_)))))
 ·replace h4 := false_of_not h4
  exact gR 21 rfl (g_ret1 rfl rfl rfl fun w M => ⟨rtF3 ‹_›, M.ext⟩)
 replace h4 := true_of_not h4
 refine gR 1 rfl (g_ld1 0 rfl rfl rfl (gR 4 rfl (g_split 38 rfl (fun h5 => ?_) (fun h5 => ?_))))
 ·replace h5 := dqU h5
  exact gR 15 rfl (g_ret1 rfl rfl rfl fun w M => ⟨rtF4 (vlf_L (n := 8) (by omega)), M.ext⟩)
 replace h5 := dqV h5
 refine gR 1 rfl (g_ld1 0 rfl rfl rfl (gR 5 rfl (g_if rfl (fun h6 => ?_) (fun h6 => ?_))))
 ·replace h6 := dqU h6
  exact gR 7 rfl (g_ret1 rfl rfl rfl fun w M => ⟨rtF5 (vlf_L (n := 16) (by omega)), M.ext⟩)
 replace h6 := dqV h6
 refine gR 6 rfl (g_ld1 0 rfl rfl rfl (gR 5 rfl (g_loop (ι := Nat) ⟨fun (i : Nat) => s.og.length - i, fun (i : Nat) => i ≤ s.og.length ∧ (∀ z, z < i → vld1 (org1 s.self) (cmpOg s.self) s.og z = true), fun (i : Nat) => [(47, .int .i64 i), (46, .int .i64 s.og.length), (45, .slice q6 s.og.length c6), (1, .pointer (some ⟨b1, 0, none⟩))], fun (i : Nat) => [[(b1, .cells (rtC s ⟨.slice q6 s.og.length c6, .slice q7 s.aj.length c7, .slice q8 s.sr.length c8, .slice q9 s.ro.length c9, .slice q10 s.ins.length c10, .slice q11 s.rq.length c11, .slice q12 s.av.length c12⟩).toArray 53 (0, 0))]]⟩ 0 ⟨by omega, by omega⟩ (fun a F => F.only [47, 46, 45, 1] rfl) (by repeat (first | exact .refl _ | apply sC2 | apply sC1)) ?_)))
 rintro i ⟨hi_i, hv⟩
 by_cases hlt_i : i < s.og.length
 ·obtain ⟨b, o, cs, t', fz, rfl, hb, hs⟩ := m6 (by omega)
  obtain ⟨x, hx0⟩ : ∃ x, x = s.og[i] := ⟨_, rfl⟩
  have hxm : x ∈ s.og := by rw [hx0];exact List.getElem_mem hlt_i
  have hxi : IsOg x := i6 _ hxm
  have f1 : seg cs (o + (i : Int).toNat * 34) 34 = some (ogC x) := by rw [hx0];exact seg_el (ogs_len i6) hs hlt_i (by omega)
  replace hx0 := hx0.symm
  have xd : IsDv (orgD s.self x) := hxi
  by_cases hi0 : 0 < i
  ·obtain ⟨y, hy0⟩ : ∃ y, y = s.og[i - 1]'(by omega) := ⟨_, rfl⟩
   have yI : IsOg y := by rw [hy0];exact i6 _ (List.getElem_mem _)
   have f2 : seg cs (o + ((i : Int) - 1).toNat * 34) 34 = some (ogC y) := by rw [hy0];exact seg_el (ogs_len i6) hs (show i - 1 < s.og.length by omega) (by omega)
   replace hy0 := hy0.symm
   have yd : IsDv (orgD s.self y) := yI
   refine gR 6 rfl (g_ifT rfl (dqT (by omega)) (gR 7 rfl (g_ixS rfl rfl (by omega) (by omega) (g_leA rfl ‹_› (by with_reducible assumption) ?_))))
   refine g_alloc fun b4 => gR 1 rfl (g_stA 0 rfl rfl (og_len ‹_›) (og_one _) rfl (put_all (by rw [og_len ‹_›];first | rfl | rw [og_len ‹_›])) rfl ?_)
   refine gR 3 rfl (g_draw 27 193 rfl (by kernel_rfl) (fR 1 rfl (fd_ld1 1 rfl rfl rfl (fd_ldA 0 rfl rfl (og_all ‹_›) ?_))))
   refine fd_call rfl rfl (fun w M => rown_c _ _ ‹_› _) ?_
   refine fd_call rfl rfl (fun w M => rvalidTo_c _ ‹_› _) ?_
   refine fR 2 rfl (fd_split 58 rfl (fun h1 => ?_) (fun h1 => ?_))
   ·replace h1 := false_of_not h1
    refine fR 20 rfl (fd_done rfl rfl (gR 11 rfl (g_outR (gR 2 rfl (g_ret1 rfl rfl rfl fun w M => ?_)))))
    exact ⟨rtF4 (vlf_F hlt_i hx0.symm (by first | assumption | (unfold org1;simp [*];done) | (unfold org1;simp [*] <;> omega))), M.ext⟩
   ·replace h1 := true_of_not h1
    refine fR 3 rfl (fd_know 61 rfl (dqT (by omega)) (fR 1 rfl (fd_ld1 1 rfl rfl rfl (fR 1 rfl (fd_ld1 1 rfl rfl rfl (fR 1 rfl (fd_sub rfl rfl (w_i64 (by omega) (by omega)) (fd_ixS rfl rfl (by omega) (by omega) (fd_leA rfl ‹_› (by with_reducible assumption) ?_)))))))))
    refine fd_call rfl rfl (fun w M => rown_c _ _ ‹_› _) ?_
    refine fR 1 rfl (fd_ld1 1 rfl rfl rfl (fd_ldA 0 rfl rfl (og_all ‹_›) ?_))
    refine fd_call rfl rfl (fun w M => rown_c _ _ ‹_› _) ?_
    refine fd_call rfl rfl (fun w M => rcompare_c _ _ ‹_› ‹_› _) ?_
    refine fR 3 rfl (fd_done rfl rfl (gR 2 rfl (g_if rfl (fun h2 => ?_) (fun h2 => ?_))))
    ·replace h2 := dqU h2
     exact gR 8 rfl (g_outR (gR 2 rfl (g_ret1 rfl rfl rfl fun w M => ⟨rtF4 (vlf_S hlt_i hi0 hx0.symm hy0.symm (by unfold cmpOg;omega)), M.ext⟩)))
    ·replace h2 := dqV h2
     refine gR 4 rfl (g_add rfl rfl (w_i64 (by omega) (by omega)) (gR 2 rfl ?_))
     exact g_next (i + 1) ⟨by omega, vl_N hlt_i hx0.symm hv (by first | assumption | (unfold org1;simp [*];done) | (unfold org1;simp [*] <;> omega)) fun _ => by rw [hy0];exact (by unfold cmpOg;omega)⟩ (by dsimp only;omega) (fun a F => F.only [47, 46, 45, 1] rfl) (by (try dsimp only);repeat (first | exact .refl _ | with_reducible exact sC0 _ | with_reducible apply sC2 | apply sC1))
  ·refine gR 6 rfl ?_
   refine g_ifT rfl (dqT (by omega)) (gR 7 rfl (g_ixS rfl rfl (by omega) (by omega) (g_leA rfl ‹_› (by with_reducible assumption) ?_)))
   refine g_alloc fun b4 => gR 1 rfl (g_stA 0 rfl rfl (og_len ‹_›) (og_one _) rfl (put_all (by rw [og_len ‹_›];first | rfl | rw [og_len ‹_›])) rfl ?_)
   refine gR 3 rfl (g_draw 27 193 rfl (by kernel_rfl) (fR 1 rfl (fd_ld1 1 rfl rfl rfl (fd_ldA 0 rfl rfl (og_all ‹_›) ?_))))
   refine fd_call rfl rfl (fun w M => rown_c _ _ ‹_› _) ?_
   refine fd_call rfl rfl (fun w M => rvalidTo_c _ ‹_› _) ?_
   refine fR 2 rfl (fd_split 58 rfl (fun h1 => ?_) (fun h1 => ?_))
   ·replace h1 := false_of_not h1
    refine fR 20 rfl (fd_done rfl rfl (gR 11 rfl (g_outR (gR 2 rfl (g_ret1 rfl rfl rfl fun w M => ?_)))))
    exact ⟨rtF4 (vlf_F hlt_i hx0.symm (by first | assumption | (unfold org1;simp [*];done) | (unfold org1;simp [*] <;> omega))), M.ext⟩
   ·replace h1 := true_of_not h1
    refine fR 3 rfl (fd_know 61 rfl (dqF (by omega)) (fR 17 rfl (fd_done rfl rfl (gR 7 rfl (g_add rfl rfl (w_i64 (by omega) (by omega)) (gR 2 rfl ?_))))))
    exact g_next (i + 1) ⟨by omega, vl_N hlt_i hx0.symm hv (by first | assumption | (unfold org1;simp [*];done) | (unfold org1;simp [*] <;> omega)) fun h => absurd h hi0⟩ (by dsimp only;omega) (fun a F => F.only [47, 46, 45, 1] rfl) (by (try dsimp only);repeat (first | exact .refl _ | with_reducible exact sC0 _ | with_reducible apply sC2 | apply sC1))
 ·have hil : i = s.og.length := by omega
  rw [hil] at hv
  have e4 := vlt_T (n := 8) (by omega) hv
  clear hv
  refine gR 6 rfl (g_ifF rfl (dqF (by omega)) (gR 2 rfl (g_outX (gR 6 rfl (g_ld1 0 rfl rfl rfl (gR 5 rfl (g_loop (ι := Nat) ⟨fun (j : Nat) => s.aj.length - j, fun (j : Nat) => j ≤ s.aj.length ∧ (∀ z, z < j → vld1 (adj1 s.self) cmpAj s.aj z = true), fun (j : Nat) => [(83, .int .i64 j), (82, .int .i64 s.aj.length), (81, .slice q7 s.aj.length c7), (1, .pointer (some ⟨b1, 0, none⟩))], fun (j : Nat) => [[(b1, .cells (rtC s ⟨.slice q6 s.og.length c6, .slice q7 s.aj.length c7, .slice q8 s.sr.length c8, .slice q9 s.ro.length c9, .slice q10 s.ins.length c10, .slice q11 s.rq.length c11, .slice q12 s.av.length c12⟩).toArray 53 (0, 0))]]⟩ 0 ⟨by omega, by omega⟩ (fun a F => F.only [83, 82, 81, 1] rfl) (by repeat (first | exact .refl _ | apply sC2 | apply sC1)) ?_)))))))
  rintro j ⟨hi_j, hv⟩
  by_cases hlt_j : j < s.aj.length
  ·obtain ⟨b, o, cs, t', fz, rfl, hb, hs⟩ := m7 (by omega)
   obtain ⟨x, hx0⟩ : ∃ x, x = s.aj[j] := ⟨_, rfl⟩
   have hxm : x ∈ s.aj := by rw [hx0];exact List.getElem_mem hlt_j
   have hxi : IsAj x := i7 _ hxm
   have f1 : seg cs (o + (j : Int).toNat * 8) 8 = some (ajC x) := by rw [hx0];exact seg_el (ajs_len i7) hs hlt_j (by omega)
   replace hx0 := hx0.symm
   have hbq := iq _ hxm
   refine gR 6 rfl (g_ifT rfl (dqT (by omega)) (gR 7 rfl (g_ixS rfl rfl (by omega) (by omega) (g_leA rfl ‹_› (by with_reducible assumption) ?_))))
   refine g_alloc fun b6 => gR 1 rfl (g_stA 0 rfl rfl (aj_len ‹_›) (aj_one _) rfl (put_all (by rw [aj_len ‹_›];first | rfl | rw [aj_len ‹_›])) rfl ?_)
   refine gR 6 rfl (g_ld1 0 rfl rfl (aj_nb ‹_›) ?_)
   refine gR 2 rfl (g_split 91 rfl (fun h1 => ?_) (fun h1 => ?_))
   ·replace h1 := dqU h1
    refine gR 42 rfl (g_outR (gR 2 rfl (g_ret1 rfl rfl rfl fun w M => ?_)))
    exact ⟨rtF5 (vlf_F hlt_j hx0.symm (by first | assumption | (unfold adj1;simp [*];done) | (unfold adj1;simp [*] <;> omega))), M.ext⟩
   replace h1 := dqV h1
   refine gR 1 rfl (g_ld1 0 rfl rfl (aj_nb ‹_›) ?_)
   refine gR 1 rfl (g_ld1 1 rfl rfl rfl (gR 3 rfl (g_split 98 rfl (fun h2 => ?_) (fun h2 => ?_))))
   ·replace h2 := dqU h2
    refine gR 35 rfl (g_outR (gR 2 rfl (g_ret1 rfl rfl rfl fun w M => ?_)))
    exact ⟨rtF5 (vlf_F hlt_j hx0.symm (by first | assumption | (unfold adj1;simp [*];done) | (unfold adj1;simp [*] <;> omega))), M.ext⟩
   replace h2 := dqV h2
   refine gR 1 rfl (g_ldA 0 rfl rfl (aj_q ‹_›) ?_)
   refine g_call rfl rfl (fun w M => rqvalid_c _ ‹_› _) ?_
   refine gR 3 rfl (g_split 104 rfl (fun h3 => ?_) (fun h3 => ?_))
   ·replace h3 := false_of_not h3
    refine gR 29 rfl (g_outR (gR 2 rfl (g_ret1 rfl rfl rfl fun w M => ?_)))
    exact ⟨rtF5 (vlf_F hlt_j hx0.symm (by first | assumption | (unfold adj1;simp [*];done) | (unfold adj1;simp [*] <;> omega))), M.ext⟩
   replace h3 := true_of_not h3
   refine gR 2 rfl (g_ld1 0 rfl rfl (aj_q_known ‹_›) ?_)
   refine gR 3 rfl (g_split 110 rfl (fun h4 => ?_) (fun h4 => ?_))
   ·replace h4 := false_of_not h4
    refine gR 23 rfl (g_outR (gR 2 rfl (g_ret1 rfl rfl rfl fun w M => ?_)))
    exact ⟨rtF5 (vlf_F hlt_j hx0.symm (by first | assumption | (unfold adj1;simp [*];done) | (unfold adj1;simp [*] <;> omega))), M.ext⟩
   replace h4 := true_of_not h4
   refine gR 1 rfl (g_ld1 0 rfl rfl (aj_til ‹_›) ?_)
   refine g_call rfl rfl (fun w M => risTime_c _ _) (gR 3 rfl (g_split 116 rfl (fun h5 => ?_) (fun h5 => ?_)))
   ·replace h5 := false_of_not h5
    refine gR 17 rfl (g_outR (gR 2 rfl (g_ret1 rfl rfl rfl fun w M => ?_)))
    exact ⟨rtF5 (vlf_F hlt_j hx0.symm (by first | assumption | (unfold adj1;simp [*];done) | (unfold adj1;simp [*] <;> omega))), M.ext⟩
   replace h5 := true_of_not h5
   refine gR 1 rfl (g_ld1 0 rfl rfl (aj_ans ‹_›) ?_)
   refine g_call rfl rfl (fun w M => risTime_c _ _) (gR 4 rfl (g_if rfl (fun h6 => ?_) (fun h6 => ?_)))
   ·replace h6 := false_of_not h6
    refine gR 9 rfl (g_outR (gR 2 rfl (g_ret1 rfl rfl rfl fun w M => ?_)))
    exact ⟨rtF5 (vlf_F hlt_j hx0.symm (by first | assumption | (unfold adj1;simp [*];done) | (unfold adj1;simp [*] <;> omega))), M.ext⟩
   replace h6 := true_of_not h6
   refine gR 2 rfl ?_
   by_cases hi0 : 0 < j
   ·obtain ⟨y, hy0⟩ : ∃ y, y = s.aj[j - 1]'(by omega) := ⟨_, rfl⟩
    have yI : IsAj y := by rw [hy0];exact i7 _ (List.getElem_mem _)
    have f2 : seg cs (o + ((j : Int) - 1).toNat * 8) 8 = some (ajC y) := by rw [hy0];exact seg_el (ajs_len i7) hs (show j - 1 < s.aj.length by omega) (by omega)
    replace hy0 := hy0.symm
    refine gR 1 rfl (g_draw 14 193 rfl (by kernel_rfl) (fR 3 rfl (fd_know 124 rfl (dqT (by omega)) (fR 1 rfl (fd_ld1 1 rfl rfl rfl (fR 1 rfl (fd_sub rfl rfl (w_i64 (by omega) (by omega)) (fd_ixS rfl rfl (by omega) (by omega) (fR 1 rfl (fd_le1 rfl ‹_› (sg_nth f2 (aj_nb ‹_›) (by omega)) ?_))))))))))
    refine fR 1 rfl (fd_ld1 0 rfl rfl (aj_nb ‹_›) ?_)
    refine fR 2 rfl (fd_done rfl rfl (gR 2 rfl (g_if rfl (fun h1 => ?_) (fun h1 => ?_))))
    ·replace h1 := dqU h1
     exact gR 8 rfl (g_outR (gR 2 rfl (g_ret1 rfl rfl rfl fun w M => ⟨rtF5 (vlf_S hlt_j hi0 hx0.symm hy0.symm (by unfold cmpAj;omega)), M.ext⟩)))
    ·replace h1 := dqV h1
     refine gR 4 rfl (g_add rfl rfl (w_i64 (by omega) (by omega)) (gR 2 rfl ?_))
     exact g_next (j + 1) ⟨by omega, vl_N hlt_j hx0.symm hv (by first | assumption | (unfold adj1;simp [*];done) | (unfold adj1;simp [*] <;> omega)) fun _ => by rw [hy0];exact (by unfold cmpAj;omega)⟩ (by dsimp only;omega) (fun a F => F.only [83, 82, 81, 1] rfl) (by (try dsimp only);repeat (first | exact .refl _ | with_reducible exact sC0 _ | with_reducible apply sC2 | apply sC1))
   ·refine gR 1 rfl ?_
    refine g_draw 14 193 rfl (by kernel_rfl) (fR 3 rfl (fd_know 124 rfl (dqF (by omega)) (fR 11 rfl (fd_done rfl rfl (gR 7 rfl (g_add rfl rfl (w_i64 (by omega) (by omega)) (gR 2 rfl ?_)))))))
    exact g_next (j + 1) ⟨by omega, vl_N hlt_j hx0.symm hv (by first | assumption | (unfold adj1;simp [*];done) | (unfold adj1;simp [*] <;> omega)) fun h => absurd h hi0⟩ (by dsimp only;omega) (fun a F => F.only [83, 82, 81, 1] rfl) (by (try dsimp only);repeat (first | exact .refl _ | with_reducible exact sC0 _ | with_reducible apply sC2 | apply sC1))
  ·have hil : j = s.aj.length := by omega
   rw [hil] at hv
   have e5 := vlt_T (n := 16) (by omega) hv
   clear hv
   refine gR 6 rfl (g_ifF rfl (dqF (by omega)) (gR 2 rfl (g_outX (gR 6 rfl (g_ld1 0 rfl rfl rfl (g_call rfl rfl (fun w M => refvalidS_c _ ‹_› _ _ ((by assumption : SlAt _ _ _ _ _).later M.ext)) ?_))))))
   refine gR 2 rfl (g_split 141 rfl (fun h1 => ?_) (fun h1 => ?_))
   ·replace h1 := false_of_not h1
    exact gR 33 rfl (g_ret1 rfl rfl rfl fun w M => ⟨rtF6 ‹_›, M.ext⟩)
   replace h1 := true_of_not h1
   refine gR 1 rfl (g_ld1 0 rfl rfl rfl (g_call rfl rfl (fun w M => refvalidR_c _ ‹_› _ _ ((by assumption : SlAt _ _ _ _ _).later M.ext)) ?_))
   refine gR 3 rfl (g_split 147 rfl (fun h2 => ?_) (fun h2 => ?_))
   ·replace h2 := false_of_not h2
    exact gR 27 rfl (g_ret1 rfl rfl rfl fun w M => ⟨rtF7 ‹_›, M.ext⟩)
   replace h2 := true_of_not h2
   refine gR 1 rfl (g_ld1 0 rfl rfl rfl (g_call rfl rfl (fun w M => refvalidI_c _ ‹_› _ _ ((by assumption : SlAt _ _ _ _ _).later M.ext)) ?_))
   refine gR 3 rfl (g_split 153 rfl (fun h3 => ?_) (fun h3 => ?_))
   ·replace h3 := false_of_not h3
    exact gR 21 rfl (g_ret1 rfl rfl rfl fun w M => ⟨rtF8 ‹_›, M.ext⟩)
   replace h3 := true_of_not h3
   refine gR 1 rfl (g_ld1 0 rfl rfl rfl (g_call rfl rfl (fun w M => refvalidQ_c _ ‹_› _ _ ((by assumption : SlAt _ _ _ _ _).later M.ext)) ?_))
   refine gR 3 rfl (g_split 159 rfl (fun h4 => ?_) (fun h4 => ?_))
   ·replace h4 := false_of_not h4
    exact gR 15 rfl (g_ret1 rfl rfl rfl fun w M => ⟨rtF9 ‹_›, M.ext⟩)
   replace h4 := true_of_not h4
   refine gR 1 rfl (g_ldA 0 rfl rfl rfl ?_)
   refine g_call rfl rfl (fun w M => rvalid_c _ ‹_› _ _ _ ((by assumption : SlAt _ _ _ _ _).later M.ext)) ?_
   refine gR 4 rfl (g_if rfl (fun h5 => ?_) (fun h5 => ?_))
   ·replace h5 := false_of_not h5
    exact gR 7 rfl (g_ret1 rfl rfl rfl fun w M => ⟨rtF10 ‹_›, M.ext⟩)
   replace h5 := true_of_not h5
   refine gR 6 rfl (g_ld1 0 rfl rfl rfl (gR 5 rfl ?_))
   have l9 : s.ro.length ≤ 1000 := validRs_len ‹_›
   have l10 : s.ins.length ≤ 1000 := validIs_len ‹_›
   refine g_loop (ι := Nat) ⟨fun (k : Nat) => s.ro.length - k, fun (k : Nat) => k ≤ s.ro.length ∧ (∀ j (hj : j < k) (hj2 : j < s.ro.length), (fun x : RouV => decide (x.to.rt = s.self)) s.ro[j] = false), fun (k : Nat) => [(168, .int .i64 k), (167, .int .i64 s.ro.length), (166, .slice q9 s.ro.length c9), (1, .pointer (some ⟨b1, 0, none⟩))], fun (k : Nat) => [[(b1, .cells (rtC s ⟨.slice q6 s.og.length c6, .slice q7 s.aj.length c7, .slice q8 s.sr.length c8, .slice q9 s.ro.length c9, .slice q10 s.ins.length c10, .slice q11 s.rq.length c11, .slice q12 s.av.length c12⟩).toArray 53 (0, 0))]]⟩ 0 ⟨by omega, by omega⟩ (fun a F => F.only [168, 167, 166, 1] rfl) (by repeat (first | exact .refl _ | apply sC2 | apply sC1)) ?_
   rintro k ⟨hi_k, hno⟩
   by_cases hlt_k : k < s.ro.length
   ·obtain ⟨b, o, cs, t', fz, rfl, hb, hs⟩ := m9 (by omega)
    obtain ⟨x, hx0⟩ : ∃ x, x = s.ro[k] := ⟨_, rfl⟩
    have hxm : x ∈ s.ro := by rw [hx0];exact List.getElem_mem hlt_k
    have hxi : IsRo x := i9 _ hxm
    have f1 : seg cs (o + (k : Int).toNat * 39) 39 = some (roC x) := by rw [hx0];exact seg_el (ros_len i9) hs hlt_k (by omega)
    have hx0s := hx0.symm
    refine gR 6 rfl (g_ifT rfl (dqT (by omega)) (gR 6 rfl (g_ixS rfl rfl (by omega) (by omega) (g_leA rfl ‹_› (by with_reducible assumption) ?_))))
    refine g_alloc fun b8 => g_stA 0 rfl rfl (ro_len ‹_›) (ro_one _) rfl (put_all (by rw [ro_len ‹_›];first | rfl | rw [ro_len ‹_›])) rfl ?_
    refine gR 6 rfl (g_ld1 0 rfl rfl (ro_to_rt ‹_›) ?_)
    refine gR 1 rfl (g_ld1 1 rfl rfl rfl (gR 3 rfl (g_if rfl (fun h1 => ?_) (fun h1 => ?_))))
    ·replace h1 := dqU h1
     exact gR 8 rfl (g_outR (gR 2 rfl (g_ret1 rfl rfl rfl fun w M => ⟨rtF11 (any_at hxm (dqT ‹_›)), M.ext⟩)))
    ·replace h1 := dqV h1
     exact gR 4 rfl (g_add rfl rfl (w_i64 (by omega) (by omega)) (gR 2 rfl (g_next (k + 1) ⟨by omega, hno_N (p := fun x : RouV => decide (x.to.rt = s.self)) hlt_k hno (by rw [hx0s];exact dqF ‹_›)⟩ (by dsimp only;omega) (fun a F => F.only [168, 167, 166, 1] rfl) (by (try dsimp only);repeat (first | exact .refl _ | with_reducible exact sC0 _ | with_reducible apply sC2 | apply sC1)))))
   ·have hil : k = s.ro.length := by omega
    rw [hil] at hno
    have e11 := any_none (p := fun x : RouV => decide (x.to.rt = s.self)) hno
    clear hno
    refine gR 6 rfl (g_ifF rfl (dqF (by omega)) (gR 2 rfl (g_outX (gR 6 rfl (g_ld1 0 rfl rfl rfl (gR 5 rfl (g_loop (ι := Nat) ⟨fun (m : Nat) => s.ins.length - m, fun (m : Nat) => m ≤ s.ins.length ∧ (∀ j (hj : j < m) (hj2 : j < s.ins.length), (fun x : InsV => decide (x.to.rt = s.self)) s.ins[j] = false), fun (m : Nat) => [(182, .int .i64 m), (181, .int .i64 s.ins.length), (180, .slice q10 s.ins.length c10), (1, .pointer (some ⟨b1, 0, none⟩))], fun (m : Nat) => [[(b1, .cells (rtC s ⟨.slice q6 s.og.length c6, .slice q7 s.aj.length c7, .slice q8 s.sr.length c8, .slice q9 s.ro.length c9, .slice q10 s.ins.length c10, .slice q11 s.rq.length c11, .slice q12 s.av.length c12⟩).toArray 53 (0, 0))]]⟩ 0 ⟨by omega, by omega⟩ (fun a F => F.only [182, 181, 180, 1] rfl) (by repeat (first | exact .refl _ | apply sC2 | apply sC1)) ?_)))))))
    rintro m ⟨hi_m, hno⟩
    by_cases hlt_m : m < s.ins.length
    ·obtain ⟨b, o, cs, t', fz, rfl, hb, hs⟩ := m10 (by omega)
     obtain ⟨x, hx0⟩ : ∃ x, x = s.ins[m] := ⟨_, rfl⟩
     have hxm : x ∈ s.ins := by rw [hx0];exact List.getElem_mem hlt_m
     have hxi : IsIn x := i10 _ hxm
     have f1 : seg cs (o + (m : Int).toNat * 40) 40 = some (inC x) := by rw [hx0];exact seg_el (ins_len i10) hs hlt_m (by omega)
     have hx0s := hx0.symm
     refine gR 6 rfl (g_ifT rfl (dqT (by omega)) (gR 6 rfl (g_ixS rfl rfl (by omega) (by omega) (g_leA rfl ‹_› (by with_reducible assumption) ?_))))
     refine g_alloc fun b10 => g_stA 0 rfl rfl (in_len ‹_›) (in_one _) rfl (put_all (by rw [in_len ‹_›];first | rfl | rw [in_len ‹_›])) rfl ?_
     refine gR 6 rfl (g_ld1 0 rfl rfl (in_to_rt ‹_›) ?_)
     refine gR 1 rfl (g_ld1 1 rfl rfl rfl (gR 3 rfl (g_if rfl (fun h1 => ?_) (fun h1 => ?_))))
     ·replace h1 := dqU h1
      exact gR 8 rfl (g_outR (gR 2 rfl (g_ret1 rfl rfl rfl fun w M => ⟨rtF12 (any_at hxm (dqT ‹_›)), M.ext⟩)))
     ·replace h1 := dqV h1
      exact gR 4 rfl (g_add rfl rfl (w_i64 (by omega) (by omega)) (gR 2 rfl (g_next (m + 1) ⟨by omega, hno_N (p := fun x : InsV => decide (x.to.rt = s.self)) hlt_m hno (by rw [hx0s];exact dqF ‹_›)⟩ (by dsimp only;omega) (fun a F => F.only [182, 181, 180, 1] rfl) (by (try dsimp only);repeat (first | exact .refl _ | with_reducible exact sC0 _ | with_reducible apply sC2 | apply sC1)))))
    ·have hil : m = s.ins.length := by omega
     rw [hil] at hno
     have e12 := any_none (p := fun x : InsV => decide (x.to.rt = s.self)) hno
     clear hno
     exact gR 6 rfl (g_ifF rfl (dqF (by omega)) (gR 2 rfl (g_outX (gR 8 rfl (g_ret1 rfl rfl rfl fun w M => ⟨(rtL ‹_› ‹_› ‹_› ‹_› e4 e5 ‹_› ‹_› ‹_› ‹_› ‹_› e11) ▸ (by rw [e12];rfl), M.ext⟩)))))
end Go.Proofs.YtfhkmgcalcfibaaGreat
namespace Go.Proofs.YtfhkmgcalcfibaaGreat
open Go.RowKit
attribute [local irreducible] OpTo wpListIn Code.wpIn MW Cal
theorem av_mkA (t : DstV) (h : IsDv t) (d : DisV) : putAll [(0, 35), (35, 2)] avZ [(0, dvC t), (1, diC d)] = some (avC ⟨t, d⟩) := av_build (o := ⟨t, d⟩) ⟨h, trivial⟩
theorem di_mkS (a : Int) : putAll [(0, 1), (1, 1)] diZ [(0, [.int .u16 a])] = some (diC ⟨a, 0⟩) := rfl
def insA (x : InsV) : AdvV := ⟨x.to, x.own⟩
def orgA (s : RtV) (o : OrgV) : AdvV := ⟨orgD s.self o, ⟨s.seq, 0⟩⟩
def mgA (a b : List AdvV) : List AdvV := a.merge b fun x y => decide (cmpD x.to y.to < 0)
theorem mgA_nil (b : List AdvV) : mgA [] b = b := List.nil_merge ..
theorem mgA_right (a : List AdvV) : mgA a [] = a := List.merge_right ..
theorem mgA_pos {x y : AdvV} {a b : List AdvV} (h : cmpD x.to y.to < 0) : mgA (x :: a) (y :: b) = x :: mgA a (y :: b) := by
 unfold mgA
 rw [List.cons_merge_cons_pos _ _ _ (dqT h)]
theorem mgA_neg {x y : AdvV} {a b : List AdvV} (h : ¬ cmpD x.to y.to < 0) : mgA (x :: a) (y :: b) = y :: mgA (x :: a) b := by
 unfold mgA
 rw [List.cons_merge_cons_neg _ _ _ (by simpa using h)]
theorem mem_mgA {z : AdvV} {a b : List AdvV} : z ∈ mgA a b ↔ z ∈ a ∨ z ∈ b := List.mem_merge
theorem mgA_asc : ∀ (n : Nat) (a b : List AdvV), a.length + b.length = n → AscA a → AscA b → (∀ x ∈ a, ∀ y ∈ b, cmpD x.to y.to ≠ 0) → AscA (mgA a b)
 | _, [], b, _, _, hb, _ => by rw [mgA_nil];exact hb
 | _, x :: a, [], _, ha, _, _ => by rw [mgA_right];exact ha
 | 0, x :: a, y :: b, hn, _, _, _ => by simp at hn
 | n + 1, x :: a, y :: b, hn, ha, hb, hne => by
  obtain ⟨ha1, ha2⟩ := List.pairwise_cons.1 ha
  obtain ⟨hb1, hb2⟩ := List.pairwise_cons.1 hb
  by_cases h : cmpD x.to y.to < 0
  ·rw [mgA_pos h]
   refine List.pairwise_cons.2 ⟨fun z hz => ?_, mgA_asc n a (y :: b) (by simp at hn ⊢;omega) ha2 hb fun p hp q hq => hne p (List.mem_cons_of_mem _ hp) q hq⟩
   rcases mem_mgA.1 hz with h1 | h1
   ·exact ha1 z h1
   ·rcases List.mem_cons.1 h1 with rfl | h1
    ·exact h
    ·exact cmpD_trans h (hb1 z h1)
  ·rw [mgA_neg h]
   have h2 : cmpD y.to x.to < 0 := by
    have := cmpD_anti x.to y.to
    have := hne x List.mem_cons_self y List.mem_cons_self
    omega
   refine List.pairwise_cons.2 ⟨fun z hz => ?_, mgA_asc n (x :: a) b (by simp at hn ⊢;omega) ha hb2 fun p hp q hq => hne p hp q (List.mem_cons_of_mem _ hq)⟩
   rcases mem_mgA.1 hz with h1 | h1
   ·rcases List.mem_cons.1 h1 with rfl | h1
    ·exact h2
    ·exact cmpD_trans h2 (ha1 z h1)
   ·exact hb1 z h1
def annV (s : RtV) : List AdvV := mgA (s.og.map (orgA s)) (s.ins.map insA)
def annR (s : RtV) (j i : Nat) : List AdvV := mgA ((s.og.drop j).map (orgA s)) ((s.ins.drop i).map insA)
theorem ann_step {s : RtV} {i j : Nat} {x : InsV} {y : OrgV} (hi : i < s.ins.length) (hx : s.ins[i] = x) (hj : j < s.og.length) (hy : s.og[j] = y) (h : cmpD (orgD s.self y) x.to < 0) : annR s j i = orgA s y :: annR s (j + 1) i := by
 unfold annR
 rw [List.drop_eq_getElem_cons hj, List.drop_eq_getElem_cons hi, List.map_cons, List.map_cons, hx, hy]
 exact mgA_pos h
theorem ann_exit {s : RtV} {i j : Nat} {x : InsV} {y : OrgV} (hi : i < s.ins.length) (hx : s.ins[i] = x) (hj : j < s.og.length) (hy : s.og[j] = y) (h : ¬ cmpD (orgD s.self y) x.to < 0) : annR s j i = ⟨x.to, x.own⟩ :: annR s j (i + 1) := by
 unfold annR
 rw [List.drop_eq_getElem_cons hj, List.drop_eq_getElem_cons hi, List.map_cons, List.map_cons, hx, hy]
 exact mgA_neg h
theorem ann_exit0 {s : RtV} {i j : Nat} {x : InsV} (hi : i < s.ins.length) (hx : s.ins[i] = x) (hj : s.og.length ≤ j) : annR s j i = ⟨x.to, x.own⟩ :: annR s j (i + 1) := by
 unfold annR
 rw [List.drop_eq_nil_of_le hj, List.drop_eq_getElem_cons hi, List.map_nil, mgA_nil, mgA_nil, List.map_cons, hx]
 rfl
theorem ann_last {s : RtV} {j : Nat} {y : OrgV} (hj : j < s.og.length) (hy : s.og[j] = y) : annR s j s.ins.length = orgA s y :: annR s (j + 1) s.ins.length := by
 unfold annR
 rw [List.drop_length, List.map_nil, mgA_right, mgA_right, List.drop_eq_getElem_cons hj, List.map_cons, hy]
theorem ann_end {s : RtV} {j : Nat} (hj : s.og.length ≤ j) : annR s j s.ins.length = [] := by
 unfold annR
 rw [List.drop_length, List.map_nil, mgA_right, List.drop_eq_nil_of_le hj]
 rfl
theorem ann_next {T out r : List AdvV} {x : AdvV} {r' : List AdvV} (h : out ++ r = T) (hr : r = x :: r') : (out ++ [x]) ++ r' = T := by rw [← h, hr, List.append_assoc];rfl
theorem rannounced_c (s : RtV) (x : RtX) (hs : IsRt s) (hlo : s.og.length ≤ 8) (hli : s.ins.length ≤ 512) (W : World) (h : RtAt W s x) : Cal Tryz.prog 121 [.agg (rtC s x).toArray].toArray W fun r w' => ∃ ent, OwnS 100 37 r (annV s).length (avsC (annV s)) ent ∧ Mem [] W w' ent := by
 obtain ⟨v6, v7, v8, v9, v10, v11, v12⟩ := x
 obtain ⟨a6, a7, a8, a9, a10, a11, a12⟩ := h
 dsimp only at a6 a7 a8 a9 a10 a11 a12
 obtain ⟨q6, c6, rfl, _⟩ := id a6
 obtain ⟨q7, c7, rfl, _⟩ := id a7
 obtain ⟨q8, c8, rfl, _⟩ := id a8
 obtain ⟨q9, c9, rfl, _⟩ := id a9
 obtain ⟨q10, c10, rfl, _⟩ := id a10
 obtain ⟨q11, c11, rfl, _⟩ := id a11
 obtain ⟨q12, c12, rfl, _⟩ := id a12
 obtain ⟨i6, i7, i8, i9, i10, i11, i12, iq⟩ := hs
 have m6 := a6.memB [] (by simp)
 have m10 := a10.memB [] (by simp)
 refine g_start (n := 82) (S := []) fldT_ok slcT_ok Tryz.func121 rfl rfl rfl (gR 2 rfl (g_box rfl rfl fun b1 => gR 17 rfl (g_ld1 0 rfl rfl rfl (gR 5 rfl (g_pad ?_)))))
 refine g_loop (ι := Nat × Nat × (List AdvV) × Value × (List (Nat × Obj))) ⟨fun (i, j, out, u, es) => s.ins.length - i, fun (i, j, out, u, es) => i ≤ s.ins.length ∧ (j ≤ s.og.length) ∧ (OwnS 100 37 u (out).length (avsC (out)) es) ∧ (out ++ annR s j i = annV s) ∧ (out.length = i + j), fun (i, j, out, u, es) => [(10, .int .i64 i), (9, .int .i64 s.ins.length), (8, .slice q10 s.ins.length c10), (3, u), (4, .int .i64 j), (1, .pointer (some ⟨b1, 0, none⟩))], fun (i, j, out, u, es) => [es, [(b1, .cells (rtC s ⟨.slice q6 s.og.length c6, .slice q7 s.aj.length c7, .slice q8 s.sr.length c8, .slice q9 s.ro.length c9, .slice q10 s.ins.length c10, .slice q11 s.rq.length c11, .slice q12 s.av.length c12⟩).toArray 53 (0, 0))]]⟩ (0, 0, [], _, []) ⟨by omega, by omega, OwnS.nilL _ _ _, rfl, rfl⟩ (fun a F => F.only [10, 9, 8, 3, 4, 1] rfl) (by repeat (first | exact .refl _ | apply sC2 | apply sC1)) ?_
 rintro ⟨i, j, out, u, es⟩ ⟨hi_i, hj, hOs, hT, hol⟩
 dsimp only
 by_cases hlt_i : i < s.ins.length
 ·obtain ⟨b, o, cs, t', fz, rfl, hb, hs⟩ := m10 (by omega)
  obtain ⟨x, hx0⟩ : ∃ x, x = s.ins[i] := ⟨_, rfl⟩
  have hxm : x ∈ s.ins := by rw [hx0];exact List.getElem_mem hlt_i
  have hxi : IsIn x := i10 _ hxm
  have f1 : seg cs (o + (i : Int).toNat * 40) 40 = some (inC x) := by rw [hx0];exact seg_el (ins_len i10) hs hlt_i (by omega)
  replace hx0 := hx0.symm
  have xd : IsDv x.to := hxi.1
  refine gR 6 rfl (g_ifT rfl (dqT (by omega)) (gR 6 rfl (g_ixS rfl rfl (by omega) (by omega) (g_leA rfl ‹_› (by with_reducible assumption) ?_))))
  refine g_alloc fun b6 => g_stA 0 rfl rfl (in_len ‹_›) (in_one _) rfl (put_all (by rw [in_len ‹_›];first | rfl | rw [in_len ‹_›])) rfl ?_
  refine gR 4 rfl ?_
  refine g_loop (ι := Nat × (List AdvV) × Value × (List (Nat × Obj))) ⟨fun (j, out, u, es) => s.og.length - j, fun (j, out, u, es) => j ≤ s.og.length ∧ OwnS 100 37 u (out).length (avsC (out)) es ∧ out ++ annR s j i = annV s ∧ out.length = i + j, fun (j, out, u, es) => [(10, .int .i64 i), (9, .int .i64 s.ins.length), (8, .slice (some ⟨b, o, none⟩) s.ins.length c10), (6, .pointer (some ⟨b6, 0, none⟩)), (3, u), (4, .int .i64 j), (1, .pointer (some ⟨b1, 0, none⟩))], fun (j, out, u, es) => [[(b6, .cells (inC x).toArray 74 (0, 0))], es, [(b1, .cells (rtC s ⟨.slice q6 s.og.length c6, .slice q7 s.aj.length c7, .slice q8 s.sr.length c8, .slice q9 s.ro.length c9, .slice (some ⟨b, o, none⟩) s.ins.length c10, .slice q11 s.rq.length c11, .slice q12 s.av.length c12⟩).toArray 53 (0, 0))]]⟩ (j, out, u, es) ⟨hj, hOs, hT, hol⟩ (fun a F => F.only [10, 9, 8, 6, 3, 4, 1] rfl) (by repeat (first | exact .refl _ | apply sC2 | apply sC1)) ?_
  clear hj hOs hT hol
  rintro ⟨j, out, u, es⟩ ⟨hj, hOs, hT, hol⟩
  dsimp only at hj hOs hT hol ⊢
  by_cases hlj : j < s.og.length
  ·have hj8 : j < 8 := by omega
   obtain ⟨bo, oo, cso, t'o, fzo, rfl, hbo, hso⟩ := m6 (by omega)
   obtain ⟨y, hy0⟩ : ∃ y, s.og[j] = y := ⟨_, rfl⟩
   have yI : IsOg y := by rw [← hy0];exact i6 _ (List.getElem_mem _)
   have yd : IsDv (orgD s.self y) := yI
   have f2 : seg cso (oo + (j : Int).toNat * 34) 34 = some (ogC y) := by rw [← hy0];exact seg_el (ogs_len i6) hso hlj (by omega)
   have hjt : decide ((j : Int) < (s.og.length : Int)) = true := dqT (by omega)
   by_cases hc : cmpD (orgD s.self y) x.to < 0
   ·have hct := dqT hc
    refine gR 2 rfl (g_draw 19 82 rfl (by kernel_rfl) (fR 2 rfl (fd_ld1 2 rfl rfl rfl (fR 3 rfl (fd_know 19 rfl (dqT (by omega)) (fR 1 rfl (fd_ld1 2 rfl rfl rfl (fR 1 rfl (fd_ld1 2 rfl rfl rfl (fR 1 rfl (fd_ixS rfl rfl (by omega) (by omega) (fd_leA rfl ‹_› (by with_reducible assumption) ?_))))))))))))
    refine fd_call rfl rfl (fun w M => rown_c _ _ ‹_› _) ?_
    refine fR 1 rfl (fd_ldA 0 rfl rfl (in_to ‹_›) ?_)
    refine fd_call rfl rfl (fun w M => rcompare_c _ _ ‹_› ‹_› _) ?_
    refine fR 2 rfl (fd_done rfl rfl (gR 2 rfl (g_ifT rfl (dqT (by omega)) (gR 4 rfl (g_draw 14 82 rfl (by kernel_rfl) (fR 2 rfl (fd_ld1 2 rfl rfl rfl (fR 1 rfl (fd_ld1 2 rfl rfl rfl (fR 1 rfl (fd_ixS rfl rfl (by omega) (by omega) (fd_leA rfl ‹_› (by with_reducible assumption) ?_))))))))))))
    refine fd_call rfl rfl (fun w M => rown_c _ _ ‹_› _) ?_
    refine fR 1 rfl (fd_ld1 2 rfl rfl rfl (fd_v (fun a w F M R r => o_build F rfl (di_mkS _) r) (fd_v (fun a w F M R r => o_build F rfl (av_mkA _ ‹_› _) r) ?_)))
    refine fd_bs rfl rfl rfl (av_build1 ⟨by assumption, trivial⟩) (fun b46 => ?_)
    refine g_app 2 0 (enc := avC) rfl rfl ‹_› rfl rfl (av_len ⟨by assumption, trivial⟩) (by first | omega | (simp only [List.length_nil];omega)) (fun _ => rfl) (fun v47 es47 hO47 => ?_) (av_one _)
    refine gR 5 rfl (g_add rfl rfl (w_i64 (by omega) (by omega)) (gR 3 rfl ?_))
    exact g_next (j + 1, out ++ [orgA s y], _, _) ⟨by dsimp only;omega, by assumption, ann_next hT (ann_step hlt_i hx0 hlj hy0 hc), by simp;omega⟩ (by dsimp only;omega) (fun a F => F.only [10, 9, 8, 6, 3, 4, 1] rfl) (by (try dsimp only);repeat (first | exact .refl _ | with_reducible exact sC0 _ | with_reducible apply sC2 | apply sC1))
   ·have hcf := dqF hc
    have he := ann_exit hlt_i hx0 hlj hy0 hc
    refine gR 2 rfl (g_draw 19 82 rfl (by kernel_rfl) (fR 2 rfl (fd_ld1 2 rfl rfl rfl (fR 3 rfl (fd_know 19 rfl (dqT (by omega)) (fR 1 rfl (fd_ld1 2 rfl rfl rfl (fR 1 rfl (fd_ld1 2 rfl rfl rfl (fR 1 rfl (fd_ixS rfl rfl (by omega) (by omega) (fd_leA rfl ‹_› (by with_reducible assumption) ?_))))))))))))
    refine fd_call rfl rfl (fun w M => rown_c _ _ ‹_› _) ?_
    refine fR 1 rfl (fd_ldA 0 rfl rfl (in_to ‹_›) ?_)
    refine fd_call rfl rfl (fun w M => rcompare_c _ _ ‹_› ‹_› _) ?_
    refine fR 2 rfl (fd_done rfl rfl (gR 2 rfl (g_ifF rfl (dqF (by omega)) (gR 2 rfl (g_outX (gR 5 rfl (g_ldA 0 rfl rfl (in_to ‹_›) ?_)))))))
    refine gR 1 rfl (g_ldA 0 rfl rfl (in_own ‹_›) ?_)
    refine g_v (fun a w F M R r => o_build F rfl (av_mkA _ ‹_› _) r) ?_
    refine g_bs rfl rfl rfl (av_build1 ‹_›) (fun b56 => ?_)
    refine g_app 2 0 (enc := avC) rfl rfl ‹_› rfl rfl (av_len ‹_›) (by first | omega | (simp only [List.length_nil];omega)) (fun _ => rfl) (fun v57 es57 hO57 => ?_) (av_one _)
    refine gR 5 rfl (g_add rfl rfl (w_i64 (by omega) (by omega)) (gR 2 rfl ?_))
    exact g_next (i + 1, j, out ++ [⟨x.to, x.own⟩], _, _) ⟨by dsimp only;omega, hj, by assumption, ann_next hT he, by simp;omega⟩ (by dsimp only;omega) (fun a F => F.only [10, 9, 8, 3, 4, 1] rfl) (by (try dsimp only);repeat (first | exact .refl _ | with_reducible exact sC0 _ | with_reducible apply sC2 | apply sC1))
  ·have hjf : decide ((j : Int) < (s.og.length : Int)) = false := dqF (by omega)
   have he := ann_exit0 hlt_i hx0 (show s.og.length ≤ j by omega)
   refine gR 2 rfl (g_draw 19 82 rfl (by kernel_rfl) (fR 2 rfl (fd_ld1 2 rfl rfl rfl (fR 3 rfl (fd_know 19 rfl (dqF (by omega)) (fR 13 rfl (fd_done rfl rfl (gR 5 rfl (g_outX (gR 5 rfl (g_ldA 0 rfl rfl (in_to ‹_›) ?_)))))))))))
   refine gR 1 rfl (g_ldA 0 rfl rfl (in_own ‹_›) ?_)
   refine g_v (fun a w F M R r => o_build F rfl (av_mkA _ ‹_› _) r) ?_
   refine g_bs rfl rfl rfl (av_build1 ‹_›) (fun b56 => ?_)
   refine g_app 2 0 (enc := avC) rfl rfl ‹_› rfl rfl (av_len ‹_›) (by first | omega | (simp only [List.length_nil];omega)) (fun _ => rfl) (fun v57 es57 hO57 => ?_) (av_one _)
   refine gR 5 rfl (g_add rfl rfl (w_i64 (by omega) (by omega)) (gR 2 rfl ?_))
   exact g_next (i + 1, j, out ++ [⟨x.to, x.own⟩], _, _) ⟨by dsimp only;omega, hj, by assumption, ann_next hT he, by simp;omega⟩ (by dsimp only;omega) (fun a F => F.only [10, 9, 8, 3, 4, 1] rfl) (by (try dsimp only);repeat (first | exact .refl _ | with_reducible exact sC0 _ | with_reducible apply sC2 | apply sC1))
 ·have hil : i = s.ins.length := by omega
  rw [hil] at hT hol
  refine gR 6 rfl (g_ifF rfl (dqF (by omega)) (gR 2 rfl (g_outX (gR 4 rfl (g_loop (ι := Nat × (List AdvV) × Value × (List (Nat × Obj))) ⟨fun (j, out, u, es) => s.og.length - j, fun (j, out, u, es) => j ≤ s.og.length ∧ OwnS 100 37 u (out).length (avsC (out)) es ∧ out ++ annR s j s.ins.length = annV s ∧ out.length = s.ins.length + j, fun (j, out, u, es) => [(3, u), (4, .int .i64 j), (1, .pointer (some ⟨b1, 0, none⟩))], fun (j, out, u, es) => [es, [(b1, .cells (rtC s ⟨.slice q6 s.og.length c6, .slice q7 s.aj.length c7, .slice q8 s.sr.length c8, .slice q9 s.ro.length c9, .slice q10 s.ins.length c10, .slice q11 s.rq.length c11, .slice q12 s.av.length c12⟩).toArray 53 (0, 0))]]⟩ (j, out, u, es) ⟨hj, hOs, hT, hol⟩ (fun a F => F.only [3, 4, 1] rfl) (by repeat (first | exact .refl _ | apply sC2 | apply sC1)) ?_)))))
  clear hj hOs hT hol
  rintro ⟨j, out, u, es⟩ ⟨hj, hOs, hT, hol⟩
  dsimp only at hj hOs hT hol ⊢
  by_cases hlj : j < s.og.length
  ·have hj8 : j < 8 := by omega
   obtain ⟨bo, oo, cso, t'o, fzo, rfl, hbo, hso⟩ := m6 (by omega)
   obtain ⟨y, hy0⟩ : ∃ y, s.og[j] = y := ⟨_, rfl⟩
   have yI : IsOg y := by rw [← hy0];exact i6 _ (List.getElem_mem _)
   have yd : IsDv (orgD s.self y) := yI
   have f2 : seg cso (oo + (j : Int).toNat * 34) 34 = some (ogC y) := by rw [← hy0];exact seg_el (ogs_len i6) hso hlj (by omega)
   have hjt : decide ((j : Int) < (s.og.length : Int)) = true := dqT (by omega)
   refine gR 5 rfl (g_ld1 1 rfl rfl rfl (gR 4 rfl (g_ifT rfl (dqT (by omega)) (gR 4 rfl (g_draw 14 82 rfl (by kernel_rfl) (fR 2 rfl (fd_ld1 1 rfl rfl rfl (fR 1 rfl (fd_ld1 1 rfl rfl rfl (fR 1 rfl (fd_ixS rfl rfl (by omega) (by omega) (fd_leA rfl ‹_› (by with_reducible assumption) ?_))))))))))))
   refine fd_call rfl rfl (fun w M => rown_c _ _ ‹_› _) ?_
   refine fR 1 rfl (fd_ld1 1 rfl rfl rfl (fd_v (fun a w F M R r => o_build F rfl (di_mkS _) r) (fd_v (fun a w F M R r => o_build F rfl (av_mkA _ ‹_› _) r) ?_)))
   refine fd_bs rfl rfl rfl (av_build1 ⟨by assumption, trivial⟩) (fun b77 => ?_)
   refine g_app 1 0 (enc := avC) rfl rfl ‹_› rfl rfl (av_len ⟨by assumption, trivial⟩) (by first | omega | (simp only [List.length_nil];omega)) (fun _ => rfl) (fun v78 es78 hO78 => ?_) (av_one _)
   refine gR 5 rfl (g_add rfl rfl (w_i64 (by omega) (by omega)) (gR 3 rfl ?_))
   exact g_next (j + 1, out ++ [orgA s y], _, _) ⟨by dsimp only;omega, by assumption, ann_next hT (ann_last hlj hy0), by simp;omega⟩ (by dsimp only;omega) (fun a F => F.only [3, 4, 1] rfl) (by (try dsimp only);repeat (first | exact .refl _ | with_reducible exact sC0 _ | with_reducible apply sC2 | apply sC1))
  ·have hjf : decide ((j : Int) < (s.og.length : Int)) = false := dqF (by omega)
   rw [ann_end (by omega), List.append_nil] at hT
   rw [hT] at hOs
   exact gR 5 rfl (g_ld1 1 rfl rfl rfl (gR 4 rfl (g_ifF rfl (dqF (by omega)) (gR 2 rfl (g_outX (gR 9 rfl (g_ret1 rfl rfl rfl fun w M => ⟨_, hOs, M.sub (List.sublist_append_left _ _)⟩)))))))
def rtAnn (s : RtV) : List AdvV := if rtValid s then annV s else []
def annL (s : RtV) : List AdvV := s.og.map (orgA s) ++ s.ins.map insA
theorem rtV_of {s : RtV} (h : rtValid s = true) : validOgs s.self s.og = true ∧ validIs s.ins = true ∧ (s.ins.any fun x => decide (x.to.rt = s.self)) = false := by
 unfold rtValid at h
 simp only [Bool.and_eq_true, Bool.not_eq_true'] at h
 exact ⟨h.1.1.1.1.1.1.1.1.2, h.1.1.1.1.2, h.2⟩
theorem validOgs_iff {self : Int} {l : List OrgV} : validOgs self l = true ↔ l.length ≤ 8 ∧ (∀ a ∈ l, org1 self a = true) ∧ AscC (cmpOg self) l := vldL_iff (fun _ _ _ h k => cmpD_trans h k)
theorem annV_asc {s : RtV} (hs : IsRt s) (h : rtValid s = true) : AscA (annV s) := by
 obtain ⟨h1, h2, h3⟩ := rtV_of h
 refine mgA_asc _ _ _ rfl ?_ ?_ ?_
 ·have := (validOgs_iff.1 h1).2.2
  unfold AscA AscK
  rw [List.pairwise_map]
  exact this
 ·have := (validIs_iff.1 h2).2.2
  unfold AscA AscK
  rw [List.pairwise_map]
  exact this
 ·intro x hx y hy e
  obtain ⟨o, ho, rfl⟩ := List.mem_map.1 hx
  obtain ⟨z, hz, rfl⟩ := List.mem_map.1 hy
  have e2 : orgD s.self o = z.to := cmpD_zero (orgD_is (hs.og o ho)) (hs.ins z hz).1 e
  have h4 := List.any_eq_false.1 h3 z hz
  apply h4
  rw [← e2]
  exact dqT rfl
theorem annV_perm (s : RtV) : (annV s).Perm (annL s) := List.merge_perm_append _
theorem annL_is {s : RtV} (hs : IsRt s) : ∀ x ∈ annL s, IsAv x := fun x hx => by
 rcases List.mem_append.1 hx with h | h
 ·obtain ⟨o, ho, rfl⟩ := List.mem_map.1 h
  exact ⟨hs.og o ho, trivial⟩
 ·obtain ⟨o, ho, rfl⟩ := List.mem_map.1 h
  exact ⟨(hs.ins o ho).1, trivial⟩
theorem rAnnounced_c (s : RtV) (x : RtX) (hs : IsRt s) (W : World) (h : RtAt W s x) : Cal Tryz.prog 42 [.agg (rtC s x).toArray].toArray W fun r w' => ∃ ent, OwnS 100 37 r (rtAnn s).length (avsC (rtAnn s)) ent ∧ Mem [] W w' ent := by
 obtain ⟨v6, v7, v8, v9, v10, v11, v12⟩ := x
 obtain ⟨a6, a7, a8, a9, a10, a11, a12⟩ := id h
 dsimp only at a6 a7 a8 a9 a10 a11 a12
 obtain ⟨q6, c6, rfl, _⟩ := id a6
 obtain ⟨q7, c7, rfl, _⟩ := id a7
 obtain ⟨q8, c8, rfl, _⟩ := id a8
 obtain ⟨q9, c9, rfl, _⟩ := id a9
 obtain ⟨q10, c10, rfl, _⟩ := id a10
 obtain ⟨q11, c11, rfl, _⟩ := id a11
 obtain ⟨q12, c12, rfl, _⟩ := id a12
 refine g_start (n := 8) (S := []) fldT_ok slcT_ok Tryz.func42 rfl rfl rfl (gR 2 rfl (g_box rfl rfl fun b1 => gR 6 rfl (g_ldA 0 rfl rfl rfl ?_)))
 refine g_call (v := .bool (rtValid s)) rfl rfl (fun w M => refvalidRt_c s _ hs w (h.later M.ext)) ?_
 unfold rtAnn
 cases hv : rtValid s
 ·refine gR 11 rfl ?_
  exact g_ret1 rfl rfl rfl fun w M => ⟨[], OwnS.nil _ _, Mem.nil M.ext⟩
 rw [if_pos rfl]
 refine gR 8 rfl (g_ldA 0 rfl rfl rfl ?_)
 refine g_callN (ι := Value × List (Nat × Obj)) (fun j => j.1) (fun j => OwnS 100 37 j.1 (annV s).length (avsC (annV s)) j.2) (fun j => [j.2]) rfl rfl (fun w M => Cal.mono (rannounced_c s _ hs (validOgs_iff.1 (rtV_of hv).1).1 (validIs_iff.1 (rtV_of hv).2.1).1 w (h.later M.ext)) fun r w' hh => by
  obtain ⟨ent, e1, e2⟩ := hh
  exact ⟨(r, ent), rfl, e1, by simpa using e2⟩) ?_
 rintro ⟨r, ent⟩ hO
 dsimp only at hO ⊢
 exact gR 4 rfl (g_ret1 rfl rfl rfl fun w M => ⟨ent, hO, M.sub (List.sublist_append_left _ _)⟩)
def rt0 : RtV := ⟨0, 0, 0, 0, 0, 0, 0, [], [], [], [], [], [], []⟩
def rx0 : RtX := ⟨.slice none 0 0, .slice none 0 0, .slice none 0 0, .slice none 0 0, .slice none 0 0, .slice none 0 0, .slice none 0 0⟩
def rxU (u : Value) : RtX := ⟨u, .slice none 0 0, .slice none 0 0, .slice none 0 0, .slice none 0 0, .slice none 0 0, .slice none 0 0⟩
def PhSt (r : Value) (W w' : World) : Prop := ∃ (s : RtV) (u : Value) (c : Int) (ent : List (Nat × Obj)), r = .tuple #[.agg (rtC s (rxU u)).toArray, .int .i64 c] ∧ OwnS 85 34 u s.og.length (ogsC s.og) ent ∧ (∀ y ∈ s.og, IsOg y) ∧ s.og.length ≤ 8 ∧ Mem [] W w' ent
theorem PhSt.zero {c : Int} {W w : World} (E : Ext [] W w) : PhSt (.tuple #[.agg (rtC rt0 rx0).toArray, .int .i64 c]) W w := ⟨rt0, .slice none 0 0, c, [], rfl, OwnS.nil _ _, fun y hy => (List.not_mem_nil hy).elim, by simp [rt0], Mem.nil E⟩
theorem isTime_bd {t : Int} (h : isTime t = true) : 0 ≤ t ∧ t ≤ 1099511627776 := by
 unfold isTime at h
 simpa using h
theorem own_q {e : TypeId} {sz : Nat} {v : Value} {n : Nat} {cs : List Value} {ent : List (Nat × Obj)} (h : OwnS e sz v n cs ent) : ∃ q c, v = .slice q n c ∧ (0 < n → ∃ b j, q = some ⟨b, 0, none⟩ ∧ ent = [(b, .cells (cs ++ j).toArray e (0, 0))]) := by
 rcases h with ⟨hv, h0, -, -⟩ | ⟨b, c, j, hv, he, -⟩
 ·exact ⟨none, 0, by rw [hv, h0], fun h => by omega⟩
 ·exact ⟨_, c, hv, fun _ => ⟨b, j, rfl, he⟩⟩
theorem app_is {α : Type} {p : α → Prop} {l : List α} {x : α} (h : ∀ y ∈ l, p y) (hx : p x) : ∀ y ∈ l ++ [x], p y := fun y hy => by
 rcases List.mem_append.1 hy with h1 | h1
 ·exact h y h1
 ·rw [List.mem_singleton.1 h1];exact hx
def rfindV (l : List SrcV) (now : Int) (t : DstV) : Option DisV := if validSs l && isTime now then bestS l now t else none
def cmpQR (x y : DisV) : Int := if newerV x.seq y.seq || (decide (x.seq = y.seq) && decide (x.met < y.met)) then -1 else if x = y then 0 else 1
theorem newerV_self (x : Int) : newerV x x = false := by
 unfold newerV
 rw [Int.sub_self]
 rfl
theorem wrap16_bd (d : Int) : 0 ≤ IntKind.u16.wrap d ∧ IntKind.u16.wrap d ≤ 65535 := by
 have h : IntKind.u16.wrap d = d % 65536 := rfl
 omega
theorem and_i64 {d : Int} (h0 : 0 ≤ d) (h1 : d ≤ 65535) : bitsOf .and .i64 d 65535 = d := by
 obtain ⟨n, rfl⟩ := Int.eq_ofNat_of_zero_le h0
 have hn : n < 65536 := by omega
 simp only [bitsOf]
 rw [ofInt_u _ (by omega), ofInt_u _ (by omega), BitVec.toNat_and, BitVec.toNat_ofNat, BitVec.toNat_ofNat]
 have hb : IntKind.i64.bits = 64 := rfl
 simp only [Int.toNat_natCast, hb]
 rw [Nat.mod_eq_of_lt (by omega), show (65535 : Int).toNat % 2 ^ 64 = 2 ^ 16 - 1 from rfl, Nat.and_two_pow_sub_one_eq_mod, Nat.mod_eq_of_lt (by omega)]
 exact w_i64 (by omega) (by omega)
theorem rnewer_c (x y : Int) (W : World) : Cal Tryz.prog 231 [.int .u16 x, .int .u16 y].toArray W fun v w' => v = .bool (newerV x y) ∧ Ext [] W w' := by
 obtain ⟨d, hd⟩ : ∃ d, d = IntKind.u16.wrap (x - y) := ⟨_, rfl⟩
 have hb := wrap16_bd (x - y)
 have hn : newerV x y = ((decide (1 ≤ d) && decide (d < 32768)) || (decide (d = 32768) && decide (y < x))) := by rw [hd];rfl
 rw [hn]
 rw [← hd] at hb
 have ha := and_i64 hb.1 hb.2
 refine fn_ofM (n := 26) [] Tryz.func231 rfl rfl rfl ?_
 intro a w F M hwW
 refine c_seq (c_region ?_)
 refine sD F (o_assign (F.e rfl) ?_);clear F a;intro a F
 with_reducible refine l_nil (q_then (c_seq (c_region ?_)))
 refine sD F (o_move (F.e rfl) fun a F => sD F (o_move (F.e rfl) fun a F => sD F (o_sub (F.e rfl) (F.e rfl) rfl ?_)));iterate 3 clear F a
 intro a F
 rw [← hd] at F
 refine sD F (o_conv (F.e rfl) (w_i64 (by omega) (by omega)) fun a F => sD F (o_and (F.e rfl) (F.e rfl) rfl ?_));iterate 2 clear F a
 intro a F
 rw [ha] at F
 clear hd hn ha
 refine sD F (o_assign (F.e rfl) ?_);clear F a;intro a F
 with_reducible refine l_nil (q_then (c_seq (c_region ?_)))
 refine sD F (o_move (F.e rfl) fun a F => sD F (o_geq (F.e rfl) (F.e rfl) fun a F => sD F (o_move (F.e rfl) ?_)));iterate 3 clear F a
 intro a F
 refine b_split F 13 rfl (fun h1 => ?_) (fun h1 => ?_)
 ·rw [h1] at F;replace h1 := dqU h1
  refine sG F (o_move (F.e rfl) fun a F => sG F (o_lss (F.e rfl) (F.e rfl) fun a F => sD F (o_pickT (F.e rfl) (F.e rfl) fun a F => sD F (o_move (F.e rfl) ?_))));iterate 4 clear F a
  intro a F
  refine b_split F 17 rfl (fun h2 => ?_) (fun h2 => ?_)
  ·rw [h2] at F;replace h2 := dqU h2
   refine sO F fun a F => sO F fun a F => sO F fun a F => sO F fun a F => sO F fun a F => sO F fun a F => sO F fun a F => sD F (o_pickT (F.e rfl) (F.e rfl) fun a F => sD F (o_assign (F.e rfl) ?_));iterate 9 clear F a
   intro a F
   with_reducible refine l_nil (q_then (c_ret ?_))
   refine p_ret F rfl (.cons (.tmp (F.e rfl)) .nil) ?_;(try dsimp only [oneOr])
   exact ⟨by simp [*], M.ext⟩
  ·rw [h2] at F;replace h2 := dqV h2
   refine sG F (o_move (F.e rfl) fun a F => sG F (o_eql (F.e rfl) (F.e rfl) fun a F => sG F (o_move (F.e rfl) ?_)));iterate 3 clear F a
   intro a F
   refine b_split F 20 rfl (fun h3 => ?_) (fun h3 => ?_)
   ·rw [h3] at F;replace h3 := dqU h3
    refine sG F (o_move (F.e rfl) fun a F => sG F (o_move (F.e rfl) fun a F => sG F (o_gtr (F.e rfl) (F.e rfl) fun a F => sG F (o_pickT (F.e rfl) (F.e rfl) fun a F => sD F (o_pickF (F.e rfl) (F.e rfl) fun a F => sD F (o_assign (F.e rfl) ?_))))));iterate 6 clear F a
    intro a F
    with_reducible refine l_nil (q_then (c_ret ?_))
    refine p_ret F rfl (.cons (.tmp (F.e rfl)) .nil) ?_;(try dsimp only [oneOr])
    exact ⟨by simp [*], M.ext⟩
   ·rw [h3] at F;replace h3 := dqV h3
    refine sO F fun a F => sO F fun a F => sO F fun a F => sG F (o_pickF (F.e rfl) (F.e rfl) fun a F => sD F (o_pickF (F.e rfl) (F.e rfl) fun a F => sD F (o_assign (F.e rfl) ?_)));iterate 6 clear F a
    intro a F
    with_reducible refine l_nil (q_then (c_ret ?_))
    refine p_ret F rfl (.cons (.tmp (F.e rfl)) .nil) ?_;(try dsimp only [oneOr])
    exact ⟨by simp [*], M.ext⟩
 ·rw [h1] at F;replace h1 := dqV h1
  refine sO F fun a F => sO F fun a F => sD F (o_pickF (F.e rfl) (F.e rfl) fun a F => sD F (o_move (F.e rfl) fun a F => sG F (o_move (F.e rfl) fun a F => sG F (o_eqlF (F.e rfl) (F.e rfl) (by omega) fun a F => sG F (o_move (F.e rfl) fun a F => sO F fun a F => sO F fun a F => sO F fun a F => sG F (o_pickF (F.e rfl) (F.e rfl) fun a F => sD F (o_pickF (F.e rfl) (F.e rfl) fun a F => sD F (o_assign (F.e rfl) ?_))))))));iterate 13 clear F a
  intro a F
  with_reducible refine l_nil (q_then (c_ret ?_))
  refine p_ret F rfl (.cons (.tmp (F.e rfl)) .nil) ?_;(try dsimp only [oneOr])
  exact ⟨by simp [*];omega, M.ext⟩
theorem rsqcmp_c (x y : DisV) (W : World) : Cal Tryz.prog 169 [.agg (diC x).toArray, .agg (diC y).toArray].toArray W fun v w' => v = .int .i64 (cmpQR x y) ∧ Ext [] W w' := by
 unfold cmpQR
 refine g_start (n := 27) (S := []) fldT_ok slcT_ok Tryz.func169 rfl rfl rfl (gR 2 rfl (g_box rfl rfl fun b2 => g_box rfl rfl fun b3 => gR 7 rfl (g_ld1 1 rfl rfl (di_seq trivial) (gR 1 rfl (g_ld1 0 rfl rfl (di_seq trivial) (g_call rfl rfl (fun w M => rnewer_c _ _ _) (gR 1 rfl (g_split 10 rfl (fun h1 => ?_) (fun h1 => ?_)))))))))
 ·exact gR 23 rfl (g_ret1 rfl rfl rfl fun w M => ⟨by simp [*], M.ext⟩)
 ·refine gR 1 rfl (g_ld1 1 rfl rfl (di_seq trivial) (gR 1 rfl (g_ld1 0 rfl rfl (di_seq trivial) (gR 2 rfl (g_split 16 rfl (fun h2 => ?_) (fun h2 => ?_))))))
  ·replace h2 := dqU h2
   refine gR 1 rfl (g_ld1 1 rfl rfl (di_met trivial) (gR 1 rfl (g_ld1 0 rfl rfl (di_met trivial) (gR 5 rfl (g_if rfl (fun h3 => ?_) (fun h3 => ?_))))))
   ·replace h3 := dqU h3
    exact gR 7 rfl (g_ret1 rfl rfl rfl fun w M => ⟨by simp [*], M.ext⟩)
   ·replace h3 := dqV h3
    refine gR 5 rfl (g_ldA 1 rfl rfl (di_all trivial) (g_ldA 0 rfl rfl (di_all trivial) (g_eqA rfl rfl (di_fits trivial) (di_fits trivial) (di_eq trivial trivial) (gR 2 rfl (g_if rfl (fun h4 => ?_) (fun h4 => ?_))))))
    ·replace h4 := dqU h4
     exact gR 7 rfl (g_ret1 rfl rfl rfl fun w M => ⟨by simp [*, newerV_self], M.ext⟩)
    ·replace h4 := dqV h4
     exact gR 8 rfl (g_ret1 rfl rfl rfl fun w M => ⟨by simp [*, newerV_self], M.ext⟩)
  ·replace h2 := dqV h2
   refine gR 15 rfl (g_ldA 1 rfl rfl (di_all trivial) (g_ldA 0 rfl rfl (di_all trivial) (g_eqA rfl rfl (di_fits trivial) (di_fits trivial) (di_eq trivial trivial) (gR 2 rfl (g_if rfl (fun h3 => ?_) (fun h3 => ?_))))))
   ·replace h3 := dqU h3
    exact gR 7 rfl (g_ret1 rfl rfl rfl fun w M => ⟨by simp [*, newerV_self], M.ext⟩)
   ·replace h3 := dqV h3
    exact gR 8 rfl (g_ret1 rfl rfl rfl fun w M => ⟨by simp [*], M.ext⟩)
theorem rlower_c (x y : DisV) (W : World) : Cal Tryz.prog 229 [.agg (diC x).toArray, .agg (diC y).toArray].toArray W fun v w' => v = .agg (diC (if cmpQR x y = -1 then x else y)).toArray ∧ Ext [] W w' := by
 refine g_start (n := 11) (S := []) fldT_ok slcT_ok Tryz.func229 rfl rfl rfl (gR 2 rfl (g_box rfl rfl fun b2 => g_box rfl rfl fun b3 => g_alloc fun b4 => gR 5 rfl (g_ldA 2 rfl rfl (di_all trivial) (g_ldA 1 rfl rfl (di_all trivial) (g_call rfl rfl (fun w M => rsqcmp_c _ _ _) (gR 3 rfl (g_if rfl (fun h1 => ?_) (fun h1 => ?_))))))))
 ·replace h1 := dqU h1
  refine gR 2 rfl (g_ldA 2 rfl rfl (di_all trivial) (g_stA 0 rfl rfl (di_len trivial) (di_one _) rfl (put_all (by rw [di_len trivial];first | rfl | rw [di_len ‹_›])) rfl ?_))
  exact gR 4 rfl (g_retC 0 rfl rfl rfl rfl (di_all trivial) fun w M => ⟨by simp [*], M.ext⟩)
 ·replace h1 := dqV h1
  refine gR 4 rfl (g_ldA 1 rfl rfl (di_all trivial) (g_stA 0 rfl rfl (di_len trivial) (di_one _) rfl (put_all (by rw [di_len trivial];first | rfl | rw [di_len ‹_›])) rfl ?_))
  exact gR 3 rfl (g_retC 0 rfl rfl rfl rfl (di_all trivial) fun w M => ⟨by simp [*], M.ext⟩)
theorem rfind_c (l : List SrcV) (hx : ∀ x ∈ l, IsSr x) (v : Value) (now : Int) (t : DstV) (ht : IsDv t) (W : World) (hS : SlAt W 38 v l.length (srsC l)) :
  Cal Tryz.prog 75 [v, .int .i64 now, .agg (dvC t).toArray].toArray W fun r w' => r = .tuple [diV ((rfindV l now t).getD di0), .bool (rfindV l now t).isSome].toArray ∧ Ext [] W w' := by
 obtain ⟨q, cap, rfl, _⟩ := id hS
 have hm := hS.memB [] (by simp)
 have c1 : ∀ w, rfindV l now t = none → Ext [] W w → Value.tuple [.agg [.int .u16 0, .int .i64 0].toArray, .bool false].toArray = .tuple [diV ((rfindV l now t).getD di0), .bool (rfindV l now t).isSome].toArray ∧ Ext [] W w := fun w h E => by
  rw [h]
  exact ⟨rfl, E⟩
 have c2 : ∀ w d, rfindV l now t = some d → Ext [] W w → Value.tuple [.agg (diC d).toArray, .bool true].toArray = .tuple [diV ((rfindV l now t).getD di0), .bool (rfindV l now t).isSome].toArray ∧ Ext [] W w := fun w d h E => by
  rw [h]
  exact ⟨rfl, E⟩
 refine g_start (n := 39) (S := []) fldT_ok slcT_ok Tryz.func75 rfl rfl rfl (gR 2 rfl (g_box rfl rfl fun b5 => g_alloc fun b6 => gR 7 rfl (g_call rfl rfl (fun w M => refvalidS_c _ ‹_› _ _ ((by assumption : SlAt _ _ _ _ _).later M.ext)) ?_)))
 refine gR 2 rfl (g_split 13 rfl (fun h1 => ?_) (fun h1 => ?_))
 ·replace h1 := false_of_not h1
  refine gR 9 rfl (g_v (fun a w F M R r => o_build F rfl rfl r) ?_)
  refine g_stA 0 rfl rfl rfl rfl rfl rfl rfl ?_
  exact gR 5 rfl (g_retC2 0 rfl rfl rfl rfl rfl rfl fun w M => c1 _ (by unfold rfindV;simp [*]) M.ext)
 replace h1 := true_of_not h1
 refine gR 1 rfl (g_call rfl rfl (fun w M => risTime_c _ _) (gR 4 rfl (g_if rfl (fun h2 => ?_) (fun h2 => ?_))))
 ·replace h2 := false_of_not h2
  refine gR 2 rfl (g_v (fun a w F M R r => o_build F rfl rfl r) ?_)
  refine g_stA 0 rfl rfl rfl rfl rfl rfl rfl ?_
  exact gR 5 rfl (g_retC2 0 rfl rfl rfl rfl rfl rfl fun w M => c1 _ (by unfold rfindV;simp [*]) M.ext)
 replace h2 := true_of_not h2
 refine gR 11 rfl ?_
 obtain ⟨hl256, _, _⟩ := validSs_iff.1 h1
 obtain ⟨R, hR⟩ : ∃ R, (l.drop 0).find? (hitS now t) = R := ⟨_, rfl⟩
 have hV : rfindV l now t = R.map (·.bst) := by rw [← hR];unfold rfindV;rw [h1, h2];rfl
 refine g_loop (ι := Nat) ⟨fun (i : Nat) => l.length - i, fun (i : Nat) => i ≤ l.length ∧ ((l.drop i).find? (hitS now t) = R), fun (i : Nat) => [(21, .int .i64 i), (20, .int .i64 l.length), (19, .slice q l.length cap), (1, .int .i64 now), (5, .pointer (some ⟨b5, 0, none⟩)), (6, .pointer (some ⟨b6, 0, none⟩))], fun (i : Nat) => [[(b6, .cells [Value.int .u16 0, .int .i64 0].toArray 72 (0, 0))], [(b5, .cells (dvC t).toArray 67 (0, 0))]]⟩ 0 ⟨by omega, hR⟩ (fun a F => F.only [21, 20, 19, 1, 5, 6] rfl) (by repeat (first | exact .refl _ | apply sC2 | apply sC1)) ?_
 rintro i ⟨hi_i, hf⟩
 by_cases hlt_i : i < l.length
 ·obtain ⟨b, o, cs, t', fz, rfl, hb, hs⟩ := hm (by omega)
  obtain ⟨y, hy0⟩ : ∃ y, y = l[i] := ⟨_, rfl⟩
  have hym : y ∈ l := by rw [hy0];exact List.getElem_mem hlt_i
  have hyi : IsSr y := hx _ hym
  have f1 : seg cs (o + (i : Int).toNat * 38) 38 = some (srC y) := by rw [hy0];exact seg_el (srs_len hx) hs hlt_i (by omega)
  rw [← List.getElem_cons_drop hlt_i, ← hy0] at hf
  clear hy0
  rw [List.find?_cons] at hf
  refine gR 6 rfl (g_ifT rfl (dqT (by omega)) (gR 6 rfl (g_ixS rfl rfl (by omega) (by omega) (g_leA rfl ‹_› (by with_reducible assumption) ?_))))
  refine g_alloc fun b9 => g_stA 0 rfl rfl (sr_len ‹_›) (sr_one _) rfl (put_all (by rw [sr_len ‹_›];first | rfl | rw [sr_len ‹_›])) rfl ?_
  refine gR 5 rfl (g_ldA 0 rfl rfl (sr_to ‹_›) ?_)
  refine g_ldA 2 rfl rfl (dv_all ‹_›) ?_
  refine g_eqA rfl rfl (dv_fits (And.left ‹_›)) (dv_fits ‹_›) (dv_eq (And.left ‹_›) ‹_›) ?_
  refine gR 1 rfl (g_split 29 rfl (fun h1 => ?_) (fun h1 => ?_))
  ·replace h1 := dqU h1
   refine gR 1 rfl (g_ld1 0 rfl rfl (sr_til ‹_›) ?_)
   refine gR 5 rfl (g_if rfl (fun h2 => ?_) (fun h2 => ?_))
   ·replace h2 := dqU h2
    refine gR 3 rfl (g_ldA 0 rfl rfl (sr_bst ‹_›) ?_)
    refine g_stA 1 rfl rfl (di_len trivial) (di_one _) rfl (put_all (by rw [di_len trivial];first | rfl | rw [di_len ‹_›])) rfl ?_
    exact gR 6 rfl (g_outR (gR 2 rfl (g_retC2 1 rfl rfl rfl rfl (di_all trivial) rfl fun w M => c2 _ _ (by rw [hV, ← hf];simp [hitS, *]) M.ext)))
   ·replace h2 := dqV h2
    refine gR 4 rfl (g_add rfl rfl (w_i64 (by omega) (by omega)) (gR 2 rfl ?_))
    exact g_next (i + 1) ⟨by omega, by rw [← hf];simp [hitS, *]⟩ (by dsimp only;omega) (fun a F => F.only [21, 20, 19, 1, 5, 6] rfl) (by repeat (first | exact .refl _ | apply sC1))
  ·replace h1 := dqV h1
   refine gR 12 rfl (g_add rfl rfl (w_i64 (by omega) (by omega)) (gR 2 rfl ?_))
   exact g_next (i + 1) ⟨by omega, by rw [← hf];simp [hitS, *]⟩ (by dsimp only;omega) (fun a F => F.only [21, 20, 19, 1, 5, 6] rfl) (by repeat (first | exact .refl _ | apply sC1))
 ·obtain rfl : i = l.length := by omega
  rw [List.drop_length] at hf
  refine gR 6 rfl (g_ifF rfl (dqF (by omega)) (gR 2 rfl (g_outX (gR 4 rfl (g_v (fun a w F M R r => o_build F rfl rfl r) ?_)))))
  refine g_stA 0 rfl rfl rfl rfl rfl rfl rfl ?_
  exact gR 4 rfl (g_retC2 0 rfl rfl rfl rfl rfl rfl fun w M => c1 _ (by rw [hV, ← hf];rfl) M.ext)
end Go.Proofs.YtfhkmgcalcfibaaGreat
namespace Go.Proofs.YtfhkmgcalcfibaaGreat
open Go.RowKit
section
variable {c : Cx} {Q : Exit → Act → World → Prop} {ks : List KF} {fr : List (Nat × Value)} {l l' : Row} {all : Array Oper} {rest : List Oper} {d : Nat} {ty : TypeId} {pos : String} {af : Array Edge} {g : Option (Nat × Bool)}
theorem g_appL (i : Nat) {st xt e : TypeId} {x y : Operand} {sz by_ n m : Nat} {v xv : Value} {xs ys : List Value} {ent : List (Nat × Obj)} {f : List (Nat × Obj) → Row} [hst : TU c.P st (.slice e)] [hel : TEl c.P e sz by_] [hxt : TNI c.P xt]
  (hx : Ev fr x = some v) (hy : Ev fr y = some xv) (hO : OwnS e sz v n xs ent) (hi : nthO l i = some ent) (hX : ∀ w, Mem c.S c.W w l.flatten → SrcOf c.P w xv m sz ys) (hbd : (n + m) * by_ ≤ 140737488355328) (hln : n + m ≤ 9223372036854775807)
  (hf : ∀ e', setO l i e' = some (f e')) (hk : ∀ v' ent', OwnS e sz v' (n + m) (xs ++ ys) ent' → G c Q ks (.ops all rest) ((d, v') :: fr) (f ent')) (hd : Nat.blt d c.n = true := by rfl) (hg : gOk all fr g = some true := by rfl) :
  G c Q ks (.ops all (⟨some d, .call ⟨.builtin .append, #[x, y], #[st, xt]⟩, ty, pos, af, g⟩ :: rest)) fr l := by
 refine g_op rfl hd hg fun a w F M => ?_
 obtain ⟨r, p1, _⟩ := nthO_perm hi (hf ent)
 have hp : ∀ e', (f e').flatten.Perm (e' ++ r) := fun e' => by
  obtain ⟨r', q1, q2⟩ := nthO_perm hi (hf e')
  exact q2.trans (List.Perm.append_left _ ((List.perm_append_left_iff ent).1 (q1.symm.trans p1)))
 refine o_append (f := fun e' => r ++ e') hO (M.perm (p1.trans List.perm_append_comm)) ?_ (F.e hx) (F.e hy) (hX w M) hbd hln (fun v' ent' w' hO' M' => ?_)
 ·exact .app .here
 ·exact fun a' F' => hk v' ent' hO' a' w' F' (M'.perm (List.perm_append_comm.trans (hp ent').symm))
end
attribute [local irreducible] OpTo wpListIn Code.wpIn MW Cal
theorem rq_mkA (t : DstV) (h : IsDv t) (a b c d e : Int) : putAll [(0, 35), (35, 1), (36, 1), (37, 1), (38, 1), (39, 1)] rqZ [(0, dvC t), (1, [.int .u16 a]), (2, [.int .i64 b]), (3, [.int .u64 c]), (4, [.int .i64 d]), (5, [.int .i64 e])] = some (rqC ⟨t, a, b, c, d, e⟩) := rq_build (o := ⟨t, a, b, c, d, e⟩) h
def PhRq (r : Value) (W w' : World) : Prop := ∃ (u : Value) (m : List ReqV) (d : Bool) (c : Int) (ent : List (Nat × Obj)), r = .tuple #[u, .bool d, .int .i64 c] ∧ OwnS 171 40 u m.length (rqsC m) ent ∧ (∀ y ∈ m, IsRq y) ∧ m.length ≤ 64 ∧ Mem [] W w' ent
theorem PhRq.zero {c : Int} {W w : World} (E : Ext [] W w) : PhRq (.tuple #[.slice none 0 0, .bool false, .int .i64 c]) W w := ⟨_, [], false, c, [], rfl, OwnS.nil _ _, fun y hy => (List.not_mem_nil hy).elim, by simp, Mem.nil E⟩
end Go.Proofs.YtfhkmgcalcfibaaGreat
namespace Go.Proofs.YtfhkmgcalcfibaaGreat
open Go.RowKit
attribute [local irreducible] OpTo wpListIn Code.wpIn MW Cal
theorem og_mkA (x : DstV) (h : IsDv x) : putAll [(0, 17), (17, 17)] ogZ [(0, pfC x.dip x.dbits), (1, pfC x.sip x.sbits)] = some (ogC ⟨x.dip, x.dbits, x.sip, x.sbits⟩) := og_build (o := ⟨x.dip, x.dbits, x.sip, x.sbits⟩) h
theorem baseW_c {bt : Nat} {p : Option Addr} {len cap k : Nat} {xs : List Int} (W : World) (hT : TapeS W bt p len xs) (hb : W.heap[bt]? = some (tobj p len cap k)) : Cal Tryz.prog 20 [.pointer (some ⟨bt, 0, none⟩)].toArray W fun r w' => ∃ x k', r = .int .i64 x ∧ (0 ≤ x ∧ x ≤ 1099511627776) ∧ Mem [bt] W w' [(bt, tobj p len cap k')] := by
 have n1 := nxV_bd xs k (n := 6) (by omega)
 have n2 := nxV_bd xs (nxK xs k) (n := 5) (by omega)
 have n3 := nxV_bd xs (nxK xs k) (n := 40) (by omega)
 have n4 := nxV_bd xs (nxK xs k) (n := 1000) (by omega)
 refine g_startB (n := 16) [bt] hb (by simp) fldT_ok slcT_ok Tryz.func20 rfl rfl rfl (gR 9 rfl (g_callT1 0 rfl rfl rfl (fun w M => next_c _ (by omega) (by omega) w (hT.later M.ext) (M.at_ _ (nthO_mem (i := 0) rfl))) rfl (gR 9 rfl (g_if rfl (fun h1 => ?_) (fun h1 => ?_)))))
 ·replace h1 := dqU h1
  exact gR 3 rfl (g_callT1 0 rfl rfl rfl (fun w M => next_c _ (by omega) (by omega) w (hT.later M.ext) (M.at_ _ (nthO_mem (i := 0) rfl))) rfl (gR 6 rfl (g_ret1 rfl rfl rfl fun w M => ⟨_, _, rfl, by omega, M⟩)))
 ·replace h1 := dqV h1
  refine gR 6 rfl (g_if rfl (fun h2 => ?_) (fun h2 => ?_))
  ·replace h2 := dqU h2
   exact gR 3 rfl (g_callT1 0 rfl rfl rfl (fun w M => next_c _ (by omega) (by omega) w (hT.later M.ext) (M.at_ _ (nthO_mem (i := 0) rfl))) rfl (g_sub rfl rfl (w_i64 (by omega) (by omega)) (gR 6 rfl (g_ret1 rfl rfl rfl fun w M => ⟨_, _, rfl, by omega, M⟩))))
  ·replace h2 := dqV h2
   exact gR 6 rfl (g_callT1 0 rfl rfl rfl (fun w M => next_c _ (by omega) (by omega) w (hT.later M.ext) (M.at_ _ (nthO_mem (i := 0) rfl))) rfl (gR 4 rfl (g_ret1 rfl rfl rfl fun w M => ⟨_, _, rfl, by omega, M⟩)))
theorem cmpL_ge {a b x : List Int} (h : cmpL a b < 0) (k : 0 ≤ cmpL a x) : 0 < cmpL b x := by
 have h1 := cmpL_anti a x
 have h2 := cmpL_anti b x
 rcases Int.lt_or_le 0 (cmpL a x) with h3 | h3
 ·have := cmpL_lt_trans (show cmpL x a < 0 by omega) h
  omega
 ·have h4 := cmpL_zero (show cmpL a x = 0 by omega)
  subst h4
  omega
def lowQ (x y : DisV) : DisV := if cmpQR x y = -1 then x else y
def SlN (n0 : Nat) (W : World) (sz : Nat) (v : Value) (n : Nat) (cs : List Value) : Prop := SlAt W sz v n cs ∧ NewV n0 v
section
variable {n0 n1 bt sz n : Nat} {W w : World} {v : Value} {cs : List Value}
theorem SlN.mono (h : SlN n1 W sz v n cs) (hle : n0 ≤ n1) : SlN n0 W sz v n cs := ⟨h.1, fun b o s k c e => Nat.le_trans hle (h.2 b o s k c e)⟩
theorem SlN.notIn (h : SlN n0 W sz v n cs) (hbt : bt < n0) : ∀ b o s k c, v = .slice (some ⟨b, o, s⟩) k c → b ∉ [bt] := fun b o s k c e hb => by
 have := h.2 b o s k c e
 simp only [List.mem_singleton] at hb
 omega
theorem SlN.laterB (h : SlN n0 W sz v n cs) (hbt : bt < n0) (E : Ext [bt] W w) : SlN n0 w sz v n cs := ⟨h.1.laterB (h.notIn hbt) E, h.2⟩
theorem SlN.later (h : SlN n0 W sz v n cs) (E : Ext [] W w) : SlN n0 w sz v n cs := ⟨h.1.later E, h.2⟩
theorem SlN.nil (n0 sz : Nat) (W : World) : SlN n0 W sz (.slice none 0 0) 0 [] := ⟨SlAt.nil _ _, NewV.nil _ _ _⟩
theorem OwnS.slN {e : TypeId} {ent : List (Nat × Obj)} (h : OwnS e sz v n cs ent) {S : List Nat} {W0 : World} {l : List (Nat × Obj)} (M : Mem S W0 w l) (hs : ∀ p ∈ ent, p ∈ l) (hS : ∀ p ∈ ent, p.1 ∉ S) : SlN W0.heap.size w sz v n cs := by
 refine ⟨h.slAt M hs, ?_⟩
 rcases h with ⟨rfl, _, _, rfl⟩ | ⟨b, cap, junk, rfl, rfl, _, _, _⟩
 ·exact NewV.nil _ _ _
 ·intro b' o s n c h
  cases h
  exact (M.own _ (hs _ List.mem_cons_self)).resolve_left (hS _ List.mem_cons_self)
theorem SlAt.mem {q : Option Addr} {cap : Nat} (h : SlAt W sz (.slice q n cap) n cs) : 0 < n → ∃ b o xs t fz, q = some ⟨b, o, none⟩ ∧ W.heap[b]? = some (.cells (List.toArray xs) t fz) ∧ seg xs o (n * sz) = some cs := by
 obtain ⟨p, cap', e, _, _, _, h5⟩ := h
 cases e
 exact h5
end
def OkR (x : InsV) : Prop := IsIn x ∧ ins1 x = true
structure InsR (n0 : Nat) (W : World) (v : Value) (l : List InsV) : Prop where
 at_ : SlN n0 W 40 v l.length (insC l)
 ok : ∀ x ∈ l, OkR x
 asc : AscK InsV.to l
theorem wt_time {xs : List Int} {k : Nat} {now : Int} (h0 : 0 ≤ now) (h1 : now ≤ 1099511627776) : isTime (wtV xs k now) = true := by
 unfold wtV isTime
 simp only [Bool.and_eq_true, decide_eq_true_eq]
 repeat' split
 all_goals omega
theorem time_bd {t : Int} (h : isTime t = true) : 0 ≤ t ∧ t ≤ 1099511627776 := by
 simpa [isTime, Bool.and_eq_true, decide_eq_true_eq] using h
theorem later_time {a d : Int} (h : isTime a = true) (hd : 0 ≤ d) : isTime (laterV a d) = true := by
 have := time_bd h
 unfold laterV isTime
 simp only [Bool.and_eq_true, decide_eq_true_eq]
 split <;> omega
theorem best_fin {l : List SrcV} (hval : validSs l = true) {now : Int} {t : DstV} {b : DisV} (h : bestS l now t = some b) : finD b = true := by
 rw [bestS_is, Option.map_eq_some_iff] at h
 obtain ⟨x, h1, rfl⟩ := h
 have h2 := (validSs_iff.1 hval).2.1 x (List.mem_of_find?_eq_some h1)
 simp only [src1, Bool.and_eq_true] at h2
 exact h2.1.2
theorem wtimeE_c {bt : Nat} {p : Option Addr} {len cap k : Nat} {xs : List Int} (base : Int) (h0 : 0 ≤ base) (h1 : base ≤ 1099511627776) (W : World) (hT : TapeS W bt p len xs) (hb : W.heap[bt]? = some (tobj p len cap k)) :
  Cal Tryz.prog 44 [.pointer (some ⟨bt, 0, none⟩), .int .i64 base].toArray W fun v w' => ∃ x k', v = .int .i64 x ∧ isTime x = true ∧ Mem [bt] W w' [(bt, tobj p len cap k')] :=
 Cal.mono (wtime_c base h0 h1 W hT hb) fun _ _ h => ⟨_, _, h.1, wt_time h0 h1, h.2⟩
structure RouO (n0 : Nat) (W : World) (v : Value) (l : List RouV) : Prop where
 at_ : SlN n0 W 39 v l.length (rosC l)
 is : ∀ x ∈ l, IsRo x
 val : validRs l = true
structure SrcO (n0 : Nat) (W : World) (v : Value) (l : List SrcV) : Prop where
 at_ : SlN n0 W 38 v l.length (srsC l)
 is : ∀ x ∈ l, IsSr x
 val : validSs l = true
structure OptO (n0 : Nat) (W : World) (v : Value) (l : List OptV) : Prop where
 at_ : SlN n0 W 2 v l.length (opsC l)
 val : validOs l = true
theorem RouO.laterB {n0 bt : Nat} {W w : World} {v : Value} {l : List RouV} (h : RouO n0 W v l) (hb : bt < n0) (E : Ext [bt] W w) : RouO n0 w v l := ⟨h.at_.laterB hb E, h.is, h.val⟩
theorem SrcO.laterB {n0 bt : Nat} {W w : World} {v : Value} {l : List SrcV} (h : SrcO n0 W v l) (hb : bt < n0) (E : Ext [bt] W w) : SrcO n0 w v l := ⟨h.at_.laterB hb E, h.is, h.val⟩
theorem OptO.laterB {n0 bt : Nat} {W w : World} {v : Value} {l : List OptV} (h : OptO n0 W v l) (hb : bt < n0) (E : Ext [bt] W w) : OptO n0 w v l := ⟨h.at_.laterB hb E, h.val⟩
end Go.Proofs.YtfhkmgcalcfibaaGreat
namespace Go.Proofs.YtfhkmgcalcfibaaGreat
open Go.RowKit
theorem sr_mk (t : DstV) (h : IsDv t) (d : DisV) (u : Int) : putAll [(0, 35), (35, 2), (37, 1)] srZ [(0, dvC t), (1, diC d), (2, [.int .i64 u])] = some (srC ⟨t, d, u⟩) := sr_build (o := ⟨t, d, u⟩) ⟨h, trivial⟩
theorem ro_mk (t : DstV) (h : IsDv t) (n : Int) (d : DisV) (u : Int) : putAll [(0, 35), (35, 1), (36, 2), (38, 1)] roZ [(0, dvC t), (1, [.int .u64 n]), (2, diC d), (3, [.int .i64 u])] = some (roC ⟨t, n, d, u⟩) := ro_build (o := ⟨t, n, d, u⟩) ⟨h, trivial⟩
theorem in_mk (t : DstV) (h : IsDv t) (n : Int) (d : DisV) (b u : Int) : putAll [(0, 35), (35, 1), (36, 2), (38, 1), (39, 1)] inZ [(0, dvC t), (1, [.int .u64 n]), (2, diC d), (3, [.int .i64 b]), (4, [.int .i64 u])] = some (inC ⟨t, n, d, b, u⟩) := in_build (o := ⟨t, n, d, b, u⟩) ⟨h, trivial⟩
theorem in_mk4 (t : DstV) (h : IsDv t) (n : Int) (d : DisV) (b : Int) : putAll [(0, 35), (35, 1), (36, 2), (38, 1), (39, 1)] inZ [(0, dvC t), (1, [.int .u64 n]), (2, diC d), (3, [.int .i64 b])] = some (inC ⟨t, n, d, b, 0⟩) := by
 obtain ⟨p1, n1, p2, n2, rt⟩ := t
 obtain ⟨x0, x1, x2, x3, x4, x5, x6, x7, x8, x9, x10, x11, x12, x13, x14, x15, e0⟩ := len16 (show p1.length = 16 from h.1.len)
 obtain ⟨y0, y1, y2, y3, y4, y5, y6, y7, y8, y9, y10, y11, y12, y13, y14, y15, e1⟩ := len16 (show p2.length = 16 from h.2.len)
 subst e0
 subst e1
 rfl
theorem in_mk3 (t : DstV) (h : IsDv t) (n b : Int) : putAll [(0, 35), (35, 1), (36, 2), (38, 1), (39, 1)] inZ [(0, dvC t), (1, [.int .u64 n]), (3, [.int .i64 b])] = some (inC ⟨t, n, di0, b, 0⟩) := by
 obtain ⟨p1, n1, p2, n2, rt⟩ := t
 obtain ⟨x0, x1, x2, x3, x4, x5, x6, x7, x8, x9, x10, x11, x12, x13, x14, x15, e0⟩ := len16 (show p1.length = 16 from h.1.len)
 obtain ⟨y0, y1, y2, y3, y4, y5, y6, y7, y8, y9, y10, y11, y12, y13, y14, y15, e1⟩ := len16 (show p2.length = 16 from h.2.len)
 subst e0
 subst e1
 rfl
end Go.Proofs.YtfhkmgcalcfibaaGreat
namespace Go.Proofs.YtfhkmgcalcfibaaGreat
open Go.RowKit
attribute [local irreducible] OpTo wpListIn Code.wpIn MW Cal
structure OptI (out : List OptV) (i : Nat) : Prop where
 len : out.length < i
 ok : ∀ o ∈ out, opt1 o = true ∧ o.nb < i
 asc : AscC cmpO out
theorem OptI.snoc {out : List OptV} {i : Nat} (h : OptI out i) (h1 : 1 ≤ i) {c : Int} (hc : validM c = true) : OptI (out ++ [⟨i, c⟩]) (i + 1) where
 len := by have := h.len;simp;omega
 ok := fun o ho => by
  rcases List.mem_append.1 ho with ho | ho
  ·exact ⟨(h.ok o ho).1, by have := (h.ok o ho).2;omega⟩
  ·simp only [List.mem_singleton] at ho
   subst ho
   refine ⟨?_, by show (i : Int) < ((i + 1 : Nat) : Int);omega⟩
   unfold opt1
   dsimp only
   rw [hc, dqF (show ¬ (i : Int) = 0 by omega)]
   rfl
 asc := List.pairwise_append.2 ⟨h.asc, List.pairwise_singleton _ _, fun a ha b hb => by
  simp only [List.mem_singleton] at hb
  subst hb
  exact cmpI_lt.2 (h.ok a ha).2⟩
theorem OptI.skip {out : List OptV} {i : Nat} (h : OptI out i) : OptI out (i + 1) := ⟨by have := h.len;omega, fun o ho => ⟨(h.ok o ho).1, by have := (h.ok o ho).2;omega⟩, h.asc⟩
theorem OptI.val {out : List OptV} {i : Nat} (h : OptI out i) (hi : i ≤ 6) : validOs out = true := validOs_iff.2 ⟨by have := h.len;omega, fun a ha => (h.ok a ha).1, h.asc⟩
theorem InsR.laterB {n0 bt : Nat} {W w : World} {v : Value} {l : List InsV} (h : InsR n0 W v l) (hb : bt < n0) (E : Ext [bt] W w) : InsR n0 w v l := ⟨h.at_.laterB hb E, h.ok, h.asc⟩
theorem own_setL {α : Type} {enc : α → List Value} {e : TypeId} {sz : Nat} {l : List α} {q : Option Addr} {c : Nat} {ent : List (Nat × Obj)} {b : Nat} {j : List Value} (h : OwnS e sz (.slice q l.length c) l.length (encL enc l) ent) (hb : q = some ⟨b, 0, none⟩) (he : ent = [(b, .cells (encL enc l ++ j).toArray e (0, 0))]) {l' : List α} (hl : l'.length = l.length) (hc : (encL enc l').length = (encL enc l).length) : OwnS e sz (.slice q l'.length c) l'.length (encL enc l') [(b, .cells (encL enc l' ++ j).toArray e (0, 0))] := by
 rcases h with ⟨h1, _⟩ | ⟨b2, c2, j2, h1, h2, h3, h4, h5⟩
 ·rw [hb] at h1;cases h1
 ·rw [hb] at h1
  cases h1
  rw [he] at h2
  have h6 : encL enc l ++ j = encL enc l ++ j2 := by simpa using h2
  have h7 : j = j2 := List.append_cancel_left h6
  subst h7
  exact .inr ⟨b, c, j, by rw [hb], rfl, by rw [hc, h3, hl], by rw [hl];exact h4, by rw [hl];exact h5⟩
theorem putAp {b r : List Value} {n : Nat} {v : Value} (h : put b n [v] = some r) : ∀ a : List Value, put (a ++ b) (a.length + n) [v] = some (a ++ r)
 | [] => by simpa using h
 | x :: a => by
  have := putAp h a
  rw [List.length_cons, show a.length + 1 + n = (a.length + n) + 1 by omega]
  simp only [List.cons_append, put, this]
theorem putL {b : List Value} {v : Value} : ∀ {a r : List Value} {n : Nat}, put a n [v] = some r → put (a ++ b) n [v] = some (r ++ b)
 | [], r, 0, h => by simp [put] at h
 | [], r, n + 1, h => by simp [put] at h
 | x :: a, r, 0, h => by
  simp only [put] at h
  cases h
  simp [put]
 | x :: a, r, n + 1, h => by
  simp only [put] at h
  cases h1 : put a n [v] with
  | none => rw [h1] at h;cases h
  | some z =>
   rw [h1] at h
   cases h
   simp only [List.cons_append, put, putL h1]
theorem put_elL {α : Type} {enc : α → List Value} {sz : Nat} {x' : α} {off : Nat} {v : Value} (j : List Value) : ∀ {l : List α} {i : Nat} (_ : ∀ x ∈ l, (enc x).length = sz) (hi : i < l.length) (_ : put (enc l[i]) off [v] = some (enc x')), put (encL enc l ++ j) (i * sz + off) [v] = some (encL enc (l.set i x') ++ j)
 | [], _, _, hi, _ => by simp at hi
 | x :: l, 0, hx, hi, h => by
  rw [encL_cons, List.set_cons_zero, encL_cons, Nat.zero_mul, Nat.zero_add, List.append_assoc, List.append_assoc]
  exact putL h
 | x :: l, i + 1, hx, hi, h => by
  have ih := put_elL j (l := l) (i := i) (fun y hy => hx y (List.mem_cons_of_mem _ hy)) (by simpa using hi) h
  rw [encL_cons, List.set_cons_succ, encL_cons, List.append_assoc, List.append_assoc, show (i + 1) * sz + off = (enc x).length + (i * sz + off) by rw [hx x List.mem_cons_self, Nat.add_mul];omega]
  exact putAp ih _
end Go.Proofs.YtfhkmgcalcfibaaGreat

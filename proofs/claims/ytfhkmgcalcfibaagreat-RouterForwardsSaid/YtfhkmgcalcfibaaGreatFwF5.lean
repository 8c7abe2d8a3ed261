/-
  Texts joined.
-/
import Derived.Test.YtfhkmgcalcfibaaGreatFwF4
set_option linter.unusedVariables false
set_option linter.unusedSimpArgs false
set_option maxHeartbeats 64000000
namespace Go.Proofs.YtfhkmgcalcfibaaGreat
open Go.RowKit
section
variable {α : Type} {n : Nat} {e1 : α → Bool} {cm : α → α → Int} {l : List α} {i : Nat}
theorem ZjC {x : α} (h : i < l.length) (hx : x = l[i]) (hv : e1 x = false) : vldL n e1 cm l = false := Zpq h (Zq8 h (by rw [← hx];exact hv)) rfl
theorem ZsZ {x y : α} (h : i < l.length) (h0 : 0 < i) (hx : x = l[i]) (hy : y = l[i - 1]'(by omega)) (hv : ¬ cm y x < 0) : vldL n e1 cm l = false := Zpq h (by rw [Zng h h0, ← hx, ← hy, dqF hv, Bool.and_false]) rfl
theorem Zs0 (h : n < l.length) : vldL n e1 cm l = false := by unfold vldL;rw [dqF (by omega), Bool.false_and]
theorem ZsY (h : l.length ≤ n) (ha : ∀ j, j < l.length → vld1 e1 cm l j = true) : vldL n e1 cm l = true := by
 unfold vldL
 rw [dqT h, Bool.true_and, List.all_eq_true.2 fun j hj => ha j (List.mem_range.1 hj)]
end
theorem Zrz {α : Type} {p : α → Bool} {l : List α} {x : α} (h : x ∈ l) (hp : p x = true) : l.any p = true := List.any_eq_true.2 ⟨x, h, hp⟩
theorem Zmh {α : Type} {p : α → Bool} {l : List α} (h : ∀ j (hj : j < l.length) (hj2 : j < l.length), p l[j] = false) : l.any p = false := List.any_eq_false.2 fun x hx => by
 obtain ⟨j, hj, rfl⟩ := List.getElem_of_mem hx
 rw [h j hj hj]
 simp
attribute [local irreducible] OpTo wpListIn Code.wpIn MW Cal
theorem ZgC (s : RtV) (x : RtX) (hs : IsRt s) (W : World) (h : RtAt W s x) : Cal Tryz.prog 36 [.agg (rtC s x).toArray].toArray W fun r w' => r = .bool (ZaR s) ∧ Ext [] W w' := by
 obtain ⟨v6, v7, v8, v9, v10, v11, v12⟩ := x
 obtain ⟨a6, a7, a8, a9, a10, a11, a12⟩ := h
 dsimp only at a6 a7 a8 a9 a10 a11 a12
 obtain ⟨q6, c6, rfl, _⟩ := id a6
 obtain ⟨q7, c7, rfl, _⟩ := id a7
 obtain ⟨q8, c8, rfl, _⟩ := id a8
 obtain ⟨q9, c9, rfl, _⟩ := id a9
 obtain ⟨q10, c10, rfl, _⟩ := id a10
 obtain ⟨q11, c11, rfl, _⟩ := id a11
 obtain ⟨q12, c12, rfl, _⟩ := id a12
 obtain ⟨i6, i7, i8, i9, i10, i11, i12, iq⟩ := hs
 have m6 := a6.memB [] (by simp)
 have m7 := a7.memB [] (by simp)
 have m9 := a9.memB [] (by simp)
 have m10 := a10.memB [] (by simp)
 refine Zao (n := 193) (S := []) Zal Zak Tryz.func36 rfl rfl rfl (gR 2 rfl (ZaA rfl rfl fun b1 => gR 7 rfl (Zai 0 rfl rfl rfl (gR 2 rfl (Zan 14 rfl (fun h1 => ?_) (fun h1 => ?_))))))
 ·replace h1 := dqU h1
  exact gR 39 rfl (Zab rfl rfl rfl fun w M => ⟨rtF0 ‹_›, M.ext⟩)
 replace h1 := dqV h1
 refine gR 1 rfl (Zai 0 rfl rfl rfl (Zad rfl rfl (fun w M => Zbd _ _) (gR 3 rfl (Zan 20 rfl (fun h2 => ?_) (fun h2 => ?_)))))
 ·replace h2 := Zaa h2
  exact gR 33 rfl (Zab rfl rfl rfl fun w M => ⟨rtF1 ‹_›, M.ext⟩)
 replace h2 := Zac h2
 refine gR 1 rfl (Zai 0 rfl rfl rfl (Zad rfl rfl (fun w M => Zbd _ _) (gR 3 rfl (Zan 26 rfl (fun h3 => ?_) (fun h3 => ?_)))))
 ·replace h3 := Zaa h3
  exact gR 27 rfl (Zab rfl rfl rfl fun w M => ⟨rtF2 ‹_›, M.ext⟩)
 replace h3 := Zac h3
 refine gR 1 rfl (Zai 0 rfl rfl rfl (Zad rfl rfl (fun w M => Zbd _ _) (gR 3 rfl (Zan 32 rfl (fun h4 => ?_) (fun h4 => ?_)))))
 ·replace h4 := Zaa h4
  exact gR 21 rfl (Zab rfl rfl rfl fun w M => ⟨rtF3 ‹_›, M.ext⟩)
 replace h4 := Zac h4
 refine gR 1 rfl (Zai 0 rfl rfl rfl (gR 4 rfl (Zan 38 rfl (fun h5 => ?_) (fun h5 => ?_))))
 ·replace h5 := dqU h5
  exact gR 15 rfl (Zab rfl rfl rfl fun w M => ⟨rtF4 (Zs0 (n := 8) (by omega)), M.ext⟩)
 replace h5 := dqV h5
 refine gR 1 rfl (Zai 0 rfl rfl rfl (gR 5 rfl (g_if rfl (fun h6 => ?_) (fun h6 => ?_))))
 ·replace h6 := dqU h6
  exact gR 7 rfl (Zab rfl rfl rfl fun w M => ⟨rtF5 (Zs0 (n := 16) (by omega)), M.ext⟩)
 replace h6 := dqV h6
 refine gR 6 rfl (Zai 0 rfl rfl rfl (gR 5 rfl (Za1 (ι := Nat) ⟨fun (i : Nat) => s.og.length - i, fun (i : Nat) => i ≤ s.og.length ∧ (∀ z, z < i → vld1 (org1 s.self) (Zjw s.self) s.og z = true), fun (i : Nat) => [(47, .int .i64 i), (46, .int .i64 s.og.length), (45, .slice q6 s.og.length c6), (1, .pointer (some ⟨b1, 0, none⟩))], fun (i : Nat) => [[(b1, .cells (rtC s ⟨.slice q6 s.og.length c6, .slice q7 s.aj.length c7, .slice q8 s.sr.length c8, .slice q9 s.ro.length c9, .slice q10 s.ins.length c10, .slice q11 s.rq.length c11, .slice q12 s.av.length c12⟩).toArray 53 (0, 0))]]⟩ 0 ⟨by omega, by omega⟩ (fun a F => F.only [47, 46, 45, 1] rfl) (sX 17179869183 rfl) ?_)))
 rintro i ⟨hi_i, hv⟩
 by_cases hlt_i : i < s.og.length
 ·obtain ⟨b, o, cs, t', fz, rfl, hb, hs⟩ := m6 (by omega)
  obtain ⟨x, hx0⟩ : ∃ x, x = s.og[i] := ⟨_, rfl⟩
  have hxm : x ∈ s.og := by rw [hx0];exact List.getElem_mem hlt_i
  have hxi : IsOg x := i6 _ hxm
  have f1 : seg cs (o + (i : Int).toNat * 34) 34 = some (ogC x) := by rw [hx0];exact Za0 (ZdK i6) hs hlt_i (by omega)
  replace hx0 := hx0.symm
  have xd : IsDv (orgD s.self x) := hxi
  by_cases hi0 : 0 < i
  ·obtain ⟨y, hy0⟩ : ∃ y, y = s.og[i - 1]'(by omega) := ⟨_, rfl⟩
   have yI : IsOg y := by rw [hy0];exact i6 _ (List.getElem_mem _)
   have f2 : seg cs (o + ((i : Int) - 1).toNat * 34) 34 = some (ogC y) := by rw [hy0];exact Za0 (ZdK i6) hs (show i - 1 < s.og.length by omega) (by omega)
   replace hy0 := hy0.symm
   have yd : IsDv (orgD s.self y) := yI
   refine gR 6 rfl (ZaE rfl (dqT (by omega)) (gR 7 rfl (Zbk rfl rfl (by omega) (by omega) (ZbF rfl ‹_› (by with_reducible assumption) ?_))))
   refine Zat fun b4 => gR 1 rfl (Zas 0 rfl rfl (Zbl ‹_›) (ZcT _) rfl (Zag (by rw [Zbl ‹_›];first | rfl | rw [Zbl ‹_›])) rfl ?_)
   refine gR 3 rfl (ZaG 27 193 rfl (by kernel_rfl) (fR 1 rfl (ZaW 1 rfl rfl rfl (ZaN 0 rfl rfl (Zdr ‹_›) ?_))))
   refine ZaH rfl rfl (fun w M => Zex _ _ ‹_› _) ?_
   refine ZaH rfl rfl (fun w M => Zbg _ ‹_› _) ?_
   refine fR 2 rfl (ZbQ 58 rfl (fun h1 => ?_) (fun h1 => ?_))
   ·replace h1 := Zaa h1
    refine fR 20 rfl (Zap rfl rfl (gR 11 rfl (ZaM (gR 2 rfl (Zab rfl rfl rfl fun w M => ?_)))))
    exact ⟨rtF4 (ZjC hlt_i hx0.symm ‹_›), M.ext⟩
   ·replace h1 := Zac h1
    refine fR 3 rfl (ZaX 61 rfl (dqT (by omega)) (fR 1 rfl (ZaW 1 rfl rfl rfl (fR 1 rfl (ZaW 1 rfl rfl rfl (fR 1 rfl (ZdR rfl rfl (Zax (by omega) (by omega)) (Zbb rfl rfl (by omega) (by omega) (Zb1 rfl ‹_› (by with_reducible assumption) ?_)))))))))
    refine ZaH rfl rfl (fun w M => Zex _ _ ‹_› _) ?_
    refine fR 1 rfl (ZaW 1 rfl rfl rfl (ZaN 0 rfl rfl (Zdr ‹_›) ?_))
    refine ZaH rfl rfl (fun w M => Zex _ _ ‹_› _) ?_
    refine ZaH rfl rfl (fun w M => Zbt _ _ ‹_› ‹_› _) ?_
    refine fR 3 rfl (Zap rfl rfl (gR 2 rfl (g_if rfl (fun h2 => ?_) (fun h2 => ?_))))
    ·replace h2 := dqU h2
     exact gR 8 rfl (ZaM (gR 2 rfl (Zab rfl rfl rfl fun w M => ⟨rtF4 (ZsZ hlt_i hi0 hx0.symm hy0.symm (by unfold Zjw;omega)), M.ext⟩)))
    ·replace h2 := dqV h2
     refine gR 4 rfl (ZaK rfl rfl (Zax (by omega) (by omega)) (gR 2 rfl ?_))
     exact Zar (i + 1) ⟨by omega, vl_N hlt_i hx0.symm hv ‹_› fun _ => by rw [hy0];exact (by unfold Zjw;omega)⟩ (by dsimp only;omega) (fun a F => F.only [47, 46, 45, 1] rfl) (sX 17179869182 rfl)
  ·refine gR 6 rfl ?_
   refine ZaE rfl (dqT (by omega)) (gR 7 rfl (Zbk rfl rfl (by omega) (by omega) (ZbF rfl ‹_› (by with_reducible assumption) ?_)))
   refine Zat fun b4 => gR 1 rfl (Zas 0 rfl rfl (Zbl ‹_›) (ZcT _) rfl (Zag (by rw [Zbl ‹_›];first | rfl | rw [Zbl ‹_›])) rfl ?_)
   refine gR 3 rfl (ZaG 27 193 rfl (by kernel_rfl) (fR 1 rfl (ZaW 1 rfl rfl rfl (ZaN 0 rfl rfl (Zdr ‹_›) ?_))))
   refine ZaH rfl rfl (fun w M => Zex _ _ ‹_› _) ?_
   refine ZaH rfl rfl (fun w M => Zbg _ ‹_› _) ?_
   refine fR 2 rfl (ZbQ 58 rfl (fun h1 => ?_) (fun h1 => ?_))
   ·replace h1 := Zaa h1
    refine fR 20 rfl (Zap rfl rfl (gR 11 rfl (ZaM (gR 2 rfl (Zab rfl rfl rfl fun w M => ?_)))))
    exact ⟨rtF4 (ZjC hlt_i hx0.symm ‹_›), M.ext⟩
   ·replace h1 := Zac h1
    refine fR 3 rfl (ZaX 61 rfl (dqF (by omega)) (fR 17 rfl (Zap rfl rfl (gR 7 rfl (ZaK rfl rfl (Zax (by omega) (by omega)) (gR 2 rfl ?_))))))
    exact Zar (i + 1) ⟨by omega, vl_N hlt_i hx0.symm hv ‹_› fun h => absurd h hi0⟩ (by dsimp only;omega) (fun a F => F.only [47, 46, 45, 1] rfl) (sX 17179869182 rfl)
 ·have hil : i = s.og.length := by omega
  rw [hil] at hv
  have e4 := ZsY (n := 8) (by omega) hv
  clear hv
  refine gR 6 rfl (Zav rfl (dqF (by omega)) (gR 2 rfl (ZaZ (gR 6 rfl (Zai 0 rfl rfl rfl (gR 5 rfl (Za1 (ι := Nat) ⟨fun (j : Nat) => s.aj.length - j, fun (j : Nat) => j ≤ s.aj.length ∧ (∀ z, z < j → vld1 (adj1 s.self) Zkn s.aj z = true), fun (j : Nat) => [(83, .int .i64 j), (82, .int .i64 s.aj.length), (81, .slice q7 s.aj.length c7), (1, .pointer (some ⟨b1, 0, none⟩))], fun (j : Nat) => [[(b1, .cells (rtC s ⟨.slice q6 s.og.length c6, .slice q7 s.aj.length c7, .slice q8 s.sr.length c8, .slice q9 s.ro.length c9, .slice q10 s.ins.length c10, .slice q11 s.rq.length c11, .slice q12 s.av.length c12⟩).toArray 53 (0, 0))]]⟩ 0 ⟨by omega, by omega⟩ (fun a F => F.only [83, 82, 81, 1] rfl) (sX 17179869183 rfl) ?_)))))))
  rintro j ⟨hi_j, hv⟩
  by_cases hlt_j : j < s.aj.length
  ·obtain ⟨b, o, cs, t', fz, rfl, hb, hs⟩ := m7 (by omega)
   obtain ⟨x, hx0⟩ : ∃ x, x = s.aj[j] := ⟨_, rfl⟩
   have hxm : x ∈ s.aj := by rw [hx0];exact List.getElem_mem hlt_j
   have hxi : IsAj x := i7 _ hxm
   have f1 : seg cs (o + (j : Int).toNat * 8) 8 = some (ajC x) := by rw [hx0];exact Za0 (Zjz i7) hs hlt_j (by omega)
   replace hx0 := hx0.symm
   have hbq := iq _ hxm
   refine gR 6 rfl (ZaE rfl (dqT (by omega)) (gR 7 rfl (Zbk rfl rfl (by omega) (by omega) (ZbF rfl ‹_› (by with_reducible assumption) ?_))))
   refine Zat fun b6 => gR 1 rfl (Zas 0 rfl rfl (Zfn ‹_›) (ZiT _) rfl (Zag (by rw [Zfn ‹_›];first | rfl | rw [Zfn ‹_›])) rfl ?_)
   refine gR 6 rfl (Zai 0 rfl rfl (Zkp ‹_›) ?_)
   refine gR 2 rfl (Zan 91 rfl (fun h1 => ?_) (fun h1 => ?_))
   ·replace h1 := dqU h1
    refine gR 42 rfl (ZaM (gR 2 rfl (Zab rfl rfl rfl fun w M => ?_)))
    exact ⟨rtF5 (ZjC hlt_j hx0.symm (by (unfold adj1;simp [*];done))), M.ext⟩
   replace h1 := dqV h1
   refine gR 1 rfl (Zai 0 rfl rfl (Zkp ‹_›) ?_)
   refine gR 1 rfl (Zai 1 rfl rfl rfl (gR 3 rfl (Zan 98 rfl (fun h2 => ?_) (fun h2 => ?_))))
   ·replace h2 := dqU h2
    refine gR 35 rfl (ZaM (gR 2 rfl (Zab rfl rfl rfl fun w M => ?_)))
    exact ⟨rtF5 (ZjC hlt_j hx0.symm (by (unfold adj1;simp [*];done))), M.ext⟩
   replace h2 := dqV h2
   refine gR 1 rfl (Zah 0 rfl rfl (aj_q ‹_›) ?_)
   refine Zad rfl rfl (fun w M => Zhi _ ‹_› _) ?_
   refine gR 3 rfl (Zan 104 rfl (fun h3 => ?_) (fun h3 => ?_))
   ·replace h3 := Zaa h3
    refine gR 29 rfl (ZaM (gR 2 rfl (Zab rfl rfl rfl fun w M => ?_)))
    exact ⟨rtF5 (ZjC hlt_j hx0.symm (by (unfold adj1;simp [*];done))), M.ext⟩
   replace h3 := Zac h3
   refine gR 2 rfl (Zai 0 rfl rfl (ZiS ‹_›) ?_)
   refine gR 3 rfl (Zan 110 rfl (fun h4 => ?_) (fun h4 => ?_))
   ·replace h4 := Zaa h4
    refine gR 23 rfl (ZaM (gR 2 rfl (Zab rfl rfl rfl fun w M => ?_)))
    exact ⟨rtF5 (ZjC hlt_j hx0.symm (by (unfold adj1;simp [*];done))), M.ext⟩
   replace h4 := Zac h4
   refine gR 1 rfl (Zai 0 rfl rfl (ZrB ‹_›) ?_)
   refine Zad rfl rfl (fun w M => Zbd _ _) (gR 3 rfl (Zan 116 rfl (fun h5 => ?_) (fun h5 => ?_)))
   ·replace h5 := Zaa h5
    refine gR 17 rfl (ZaM (gR 2 rfl (Zab rfl rfl rfl fun w M => ?_)))
    exact ⟨rtF5 (ZjC hlt_j hx0.symm (by (unfold adj1;simp [*];done))), M.ext⟩
   replace h5 := Zac h5
   refine gR 1 rfl (Zai 0 rfl rfl (ZrC ‹_›) ?_)
   refine Zad rfl rfl (fun w M => Zbd _ _) (gR 4 rfl (g_if rfl (fun h6 => ?_) (fun h6 => ?_)))
   ·replace h6 := Zaa h6
    refine gR 9 rfl (ZaM (gR 2 rfl (Zab rfl rfl rfl fun w M => ?_)))
    exact ⟨rtF5 (ZjC hlt_j hx0.symm (by (unfold adj1;simp [*];done))), M.ext⟩
   replace h6 := Zac h6
   refine gR 2 rfl ?_
   by_cases hi0 : 0 < j
   ·obtain ⟨y, hy0⟩ : ∃ y, y = s.aj[j - 1]'(by omega) := ⟨_, rfl⟩
    have yI : IsAj y := by rw [hy0];exact i7 _ (List.getElem_mem _)
    have f2 : seg cs (o + ((j : Int) - 1).toNat * 8) 8 = some (ajC y) := by rw [hy0];exact Za0 (Zjz i7) hs (show j - 1 < s.aj.length by omega) (by omega)
    replace hy0 := hy0.symm
    refine gR 1 rfl (ZaG 14 193 rfl (by kernel_rfl) (fR 3 rfl (ZaX 124 rfl (dqT (by omega)) (fR 1 rfl (ZaW 1 rfl rfl rfl (fR 1 rfl (ZdR rfl rfl (Zax (by omega) (by omega)) (Zbb rfl rfl (by omega) (by omega) (fR 1 rfl (Zrt rfl ‹_› (Zhe f2 (Zkp ‹_›) (by omega)) ?_))))))))))
    refine fR 1 rfl (ZaW 0 rfl rfl (Zkp ‹_›) ?_)
    refine fR 2 rfl (Zap rfl rfl (gR 2 rfl (g_if rfl (fun h1 => ?_) (fun h1 => ?_))))
    ·replace h1 := dqU h1
     exact gR 8 rfl (ZaM (gR 2 rfl (Zab rfl rfl rfl fun w M => ⟨rtF5 (ZsZ hlt_j hi0 hx0.symm hy0.symm (by unfold Zkn;omega)), M.ext⟩)))
    ·replace h1 := dqV h1
     refine gR 4 rfl (ZaK rfl rfl (Zax (by omega) (by omega)) (gR 2 rfl ?_))
     exact Zar (j + 1) ⟨by omega, vl_N hlt_j hx0.symm hv (by (unfold adj1;simp [*];done)) fun _ => by rw [hy0];exact (by unfold Zkn;omega)⟩ (by dsimp only;omega) (fun a F => F.only [83, 82, 81, 1] rfl) (sX 17179869182 rfl)
   ·refine gR 1 rfl ?_
    refine ZaG 14 193 rfl (by kernel_rfl) (fR 3 rfl (ZaX 124 rfl (dqF (by omega)) (fR 11 rfl (Zap rfl rfl (gR 7 rfl (ZaK rfl rfl (Zax (by omega) (by omega)) (gR 2 rfl ?_)))))))
    exact Zar (j + 1) ⟨by omega, vl_N hlt_j hx0.symm hv (by (unfold adj1;simp [*];done)) fun h => absurd h hi0⟩ (by dsimp only;omega) (fun a F => F.only [83, 82, 81, 1] rfl) (sX 17179869182 rfl)
  ·have hil : j = s.aj.length := by omega
   rw [hil] at hv
   have e5 := ZsY (n := 16) (by omega) hv
   clear hv
   refine gR 6 rfl (Zav rfl (dqF (by omega)) (gR 2 rfl (ZaZ (gR 6 rfl (Zai 0 rfl rfl rfl (Zad rfl rfl (fun w M => ZdG _ ‹_› _ _ ((by assumption : SlAt _ _ _ _ _).later M.ext)) ?_))))))
   refine gR 2 rfl (Zan 141 rfl (fun h1 => ?_) (fun h1 => ?_))
   ·replace h1 := Zaa h1
    exact gR 33 rfl (Zab rfl rfl rfl fun w M => ⟨rtF6 ‹_›, M.ext⟩)
   replace h1 := Zac h1
   refine gR 1 rfl (Zai 0 rfl rfl rfl (Zad rfl rfl (fun w M => Zeh _ ‹_› _ _ ((by assumption : SlAt _ _ _ _ _).later M.ext)) ?_))
   refine gR 3 rfl (Zan 147 rfl (fun h2 => ?_) (fun h2 => ?_))
   ·replace h2 := Zaa h2
    exact gR 27 rfl (Zab rfl rfl rfl fun w M => ⟨rtF7 ‹_›, M.ext⟩)
   replace h2 := Zac h2
   refine gR 1 rfl (Zai 0 rfl rfl rfl (Zad rfl rfl (fun w M => Zhm _ ‹_› _ _ ((by assumption : SlAt _ _ _ _ _).later M.ext)) ?_))
   refine gR 3 rfl (Zan 153 rfl (fun h3 => ?_) (fun h3 => ?_))
   ·replace h3 := Zaa h3
    exact gR 21 rfl (Zab rfl rfl rfl fun w M => ⟨rtF8 ‹_›, M.ext⟩)
   replace h3 := Zac h3
   refine gR 1 rfl (Zai 0 rfl rfl rfl (Zad rfl rfl (fun w M => Zei _ ‹_› _ _ ((by assumption : SlAt _ _ _ _ _).later M.ext)) ?_))
   refine gR 3 rfl (Zan 159 rfl (fun h4 => ?_) (fun h4 => ?_))
   ·replace h4 := Zaa h4
    exact gR 15 rfl (Zab rfl rfl rfl fun w M => ⟨rtF9 ‹_›, M.ext⟩)
   replace h4 := Zac h4
   refine gR 1 rfl (Zah 0 rfl rfl rfl ?_)
   refine Zad rfl rfl (fun w M => ZpG _ ‹_› _ _ _ ((by assumption : SlAt _ _ _ _ _).later M.ext)) ?_
   refine gR 4 rfl (g_if rfl (fun h5 => ?_) (fun h5 => ?_))
   ·replace h5 := Zaa h5
    exact gR 7 rfl (Zab rfl rfl rfl fun w M => ⟨Zte ‹_›, M.ext⟩)
   replace h5 := Zac h5
   refine gR 6 rfl (Zai 0 rfl rfl rfl (gR 5 rfl ?_))
   have l9 : s.ro.length ≤ 1000 := Zhb ‹_›
   have l10 : s.ins.length ≤ 1000 := Zed ‹_›
   refine Za1 (ι := Nat) ⟨fun (k : Nat) => s.ro.length - k, fun (k : Nat) => k ≤ s.ro.length ∧ (∀ j (hj : j < k) (hj2 : j < s.ro.length), (fun x : RouV => decide (x.to.rt = s.self)) s.ro[j] = false), fun (k : Nat) => [(168, .int .i64 k), (167, .int .i64 s.ro.length), (166, .slice q9 s.ro.length c9), (1, .pointer (some ⟨b1, 0, none⟩))], fun (k : Nat) => [[(b1, .cells (rtC s ⟨.slice q6 s.og.length c6, .slice q7 s.aj.length c7, .slice q8 s.sr.length c8, .slice q9 s.ro.length c9, .slice q10 s.ins.length c10, .slice q11 s.rq.length c11, .slice q12 s.av.length c12⟩).toArray 53 (0, 0))]]⟩ 0 ⟨by omega, by omega⟩ (fun a F => F.only [168, 167, 166, 1] rfl) (sX 17179869183 rfl) ?_
   rintro k ⟨hi_k, hno⟩
   by_cases hlt_k : k < s.ro.length
   ·obtain ⟨b, o, cs, t', fz, rfl, hb, hs⟩ := m9 (by omega)
    obtain ⟨x, hx0⟩ : ∃ x, x = s.ro[k] := ⟨_, rfl⟩
    have hxm : x ∈ s.ro := by rw [hx0];exact List.getElem_mem hlt_k
    have hxi : IsRo x := i9 _ hxm
    have f1 : seg cs (o + (k : Int).toNat * 39) 39 = some (roC x) := by rw [hx0];exact Za0 (Zeg i9) hs hlt_k (by omega)
    have hx0s := hx0.symm
    refine gR 6 rfl (ZaE rfl (dqT (by omega)) (gR 6 rfl (Zbk rfl rfl (by omega) (by omega) (ZbF rfl ‹_› (by with_reducible assumption) ?_))))
    refine Zat fun b8 => Zas 0 rfl rfl (Zbz ‹_›) (Zdq _) rfl (Zag (by rw [Zbz ‹_›];first | rfl | rw [Zbz ‹_›])) rfl ?_
    refine gR 6 rfl (Zai 0 rfl rfl (ZfI ‹_›) ?_)
    refine gR 1 rfl (Zai 1 rfl rfl rfl (gR 3 rfl (g_if rfl (fun h1 => ?_) (fun h1 => ?_))))
    ·replace h1 := dqU h1
     exact gR 8 rfl (ZaM (gR 2 rfl (Zab rfl rfl rfl fun w M => ⟨Ztd (Zrz hxm (dqT ‹_›)), M.ext⟩)))
    ·replace h1 := dqV h1
     exact gR 4 rfl (ZaK rfl rfl (Zax (by omega) (by omega)) (gR 2 rfl (Zar (k + 1) ⟨by omega, Zqz (p := fun x : RouV => decide (x.to.rt = s.self)) hlt_k hno (by rw [hx0s];exact dqF ‹_›)⟩ (by dsimp only;omega) (fun a F => F.only [168, 167, 166, 1] rfl) (sX 17179869182 rfl))))
   ·have hil : k = s.ro.length := by omega
    rw [hil] at hno
    have e11 := Zmh (p := fun x : RouV => decide (x.to.rt = s.self)) hno
    clear hno
    refine gR 6 rfl (Zav rfl (dqF (by omega)) (gR 2 rfl (ZaZ (gR 6 rfl (Zai 0 rfl rfl rfl (gR 5 rfl (Za1 (ι := Nat) ⟨fun (m : Nat) => s.ins.length - m, fun (m : Nat) => m ≤ s.ins.length ∧ (∀ j (hj : j < m) (hj2 : j < s.ins.length), (fun x : InsV => decide (x.to.rt = s.self)) s.ins[j] = false), fun (m : Nat) => [(182, .int .i64 m), (181, .int .i64 s.ins.length), (180, .slice q10 s.ins.length c10), (1, .pointer (some ⟨b1, 0, none⟩))], fun (m : Nat) => [[(b1, .cells (rtC s ⟨.slice q6 s.og.length c6, .slice q7 s.aj.length c7, .slice q8 s.sr.length c8, .slice q9 s.ro.length c9, .slice q10 s.ins.length c10, .slice q11 s.rq.length c11, .slice q12 s.av.length c12⟩).toArray 53 (0, 0))]]⟩ 0 ⟨by omega, by omega⟩ (fun a F => F.only [182, 181, 180, 1] rfl) (sX 17179869183 rfl) ?_)))))))
    rintro m ⟨hi_m, hno⟩
    by_cases hlt_m : m < s.ins.length
    ·obtain ⟨b, o, cs, t', fz, rfl, hb, hs⟩ := m10 (by omega)
     obtain ⟨x, hx0⟩ : ∃ x, x = s.ins[m] := ⟨_, rfl⟩
     have hxm : x ∈ s.ins := by rw [hx0];exact List.getElem_mem hlt_m
     have hxi : IsIn x := i10 _ hxm
     have f1 : seg cs (o + (m : Int).toNat * 40) 40 = some (inC x) := by rw [hx0];exact Za0 (Zb5 i10) hs hlt_m (by omega)
     have hx0s := hx0.symm
     refine gR 6 rfl (ZaE rfl (dqT (by omega)) (gR 6 rfl (Zbk rfl rfl (by omega) (by omega) (ZbF rfl ‹_› (by with_reducible assumption) ?_))))
     refine Zat fun b10 => Zas 0 rfl rfl (Zaj ‹_›) (ZaY _) rfl (Zag (by rw [Zaj ‹_›];first | rfl | rw [Zaj ‹_›])) rfl ?_
     refine gR 6 rfl (Zai 0 rfl rfl (ZfT ‹_›) ?_)
     refine gR 1 rfl (Zai 1 rfl rfl rfl (gR 3 rfl (g_if rfl (fun h1 => ?_) (fun h1 => ?_))))
     ·replace h1 := dqU h1
      exact gR 8 rfl (ZaM (gR 2 rfl (Zab rfl rfl rfl fun w M => ⟨Zun (Zrz hxm (dqT ‹_›)), M.ext⟩)))
     ·replace h1 := dqV h1
      exact gR 4 rfl (ZaK rfl rfl (Zax (by omega) (by omega)) (gR 2 rfl (Zar (m + 1) ⟨by omega, Zqz (p := fun x : InsV => decide (x.to.rt = s.self)) hlt_m hno (by rw [hx0s];exact dqF ‹_›)⟩ (by dsimp only;omega) (fun a F => F.only [182, 181, 180, 1] rfl) (sX 17179869182 rfl))))
    ·have hil : m = s.ins.length := by omega
     rw [hil] at hno
     have e12 := Zmh (p := fun x : InsV => decide (x.to.rt = s.self)) hno
     clear hno
     exact gR 6 rfl (Zav rfl (dqF (by omega)) (gR 2 rfl (ZaZ (gR 8 rfl (Zab rfl rfl rfl fun w M => ⟨(rtL ‹_› ‹_› ‹_› ‹_› e4 e5 ‹_› ‹_› ‹_› ‹_› ‹_› e11) ▸ (by rw [e12];rfl), M.ext⟩)))))
end Go.Proofs.YtfhkmgcalcfibaaGreat
namespace Go.Proofs.YtfhkmgcalcfibaaGreat
open Go.RowKit
attribute [local irreducible] OpTo wpListIn Code.wpIn MW Cal
theorem ZiR (t : DstV) (h : IsDv t) (d : DisV) : Za2 [(0, 35), (35, 2)] avZ [(0, dvC t), (1, diC d)] = some (avC ⟨t, d⟩) := Zq0 (o := ⟨t, d⟩) ⟨h, trivial⟩
theorem ZoV (a : Int) : Za2 [(0, 1), (1, 1)] diZ [(0, [.int .u16 a])] = some (diC ⟨a, 0⟩) := rfl
def insA (x : InsV) : AdvV := ⟨x.to, x.own⟩
def orgA (s : RtV) (o : OrgV) : AdvV := ⟨orgD s.self o, ⟨s.seq, 0⟩⟩
def mgA (a b : List AdvV) : List AdvV := a.merge b fun x y => decide (cmpD x.to y.to < 0)
theorem ZkZ (b : List AdvV) : mgA [] b = b := List.nil_merge ..
theorem ZfR (a : List AdvV) : mgA a [] = a := List.merge_right ..
theorem Zn6 {x y : AdvV} {a b : List AdvV} (h : cmpD x.to y.to < 0) : mgA (x :: a) (y :: b) = x :: mgA a (y :: b) := by
 unfold mgA
 rw [List.cons_merge_cons_pos _ _ _ (dqT h)]
theorem Zn7 {x y : AdvV} {a b : List AdvV} (h : ¬ cmpD x.to y.to < 0) : mgA (x :: a) (y :: b) = y :: mgA (x :: a) b := by
 unfold mgA
 rw [List.cons_merge_cons_neg _ _ _ (by simpa using h)]
theorem Zn8 {z : AdvV} {a b : List AdvV} : z ∈ mgA a b ↔ z ∈ a ∨ z ∈ b := List.mem_merge
theorem Zk0 : ∀ (n : Nat) (a b : List AdvV), a.length + b.length = n → AscA a → AscA b → (∀ x ∈ a, ∀ y ∈ b, cmpD x.to y.to ≠ 0) → AscA (mgA a b)
 | _, [], b, _, _, hb, _ => by rw [ZkZ];exact hb
 | _, x :: a, [], _, ha, _, _ => by rw [ZfR];exact ha
 | 0, x :: a, y :: b, hn, _, _, _ => by simp at hn
 | n + 1, x :: a, y :: b, hn, ha, hb, hne => by
  obtain ⟨ha1, ha2⟩ := List.pairwise_cons.1 ha
  obtain ⟨hb1, hb2⟩ := List.pairwise_cons.1 hb
  by_cases h : cmpD x.to y.to < 0
  ·rw [Zn6 h]
   refine List.pairwise_cons.2 ⟨fun z hz => ?_, Zk0 n a (y :: b) (by simp at hn ⊢;omega) ha2 hb fun p hp q hq => hne p (List.mem_cons_of_mem _ hp) q hq⟩
   rcases Zn8.1 hz with h1 | h1
   ·exact ha1 z h1
   ·rcases List.mem_cons.1 h1 with rfl | h1
    ·exact h
    ·exact Zcr h (hb1 z h1)
  ·rw [Zn7 h]
   have h2 : cmpD y.to x.to < 0 := by
    have := ZeZ x.to y.to
    have := hne x List.mem_cons_self y List.mem_cons_self
    omega
   refine List.pairwise_cons.2 ⟨fun z hz => ?_, Zk0 n (x :: a) b (by simp at hn ⊢;omega) ha hb2 fun p hp q hq => hne p hp q (List.mem_cons_of_mem _ hq)⟩
   rcases Zn8.1 hz with h1 | h1
   ·rcases List.mem_cons.1 h1 with rfl | h1
    ·exact h2
    ·exact Zcr h2 (ha1 z h1)
   ·exact hb1 z h1
def annV (s : RtV) : List AdvV := mgA (s.og.map (orgA s)) (s.ins.map insA)
def annR (s : RtV) (j i : Nat) : List AdvV := mgA ((s.og.drop j).map (orgA s)) ((s.ins.drop i).map insA)
theorem Zq1 {s : RtV} {i j : Nat} {x : InsV} {y : OrgV} (hi : i < s.ins.length) (hx : s.ins[i] = x) (hj : j < s.og.length) (hy : s.og[j] = y) (h : cmpD (orgD s.self y) x.to < 0) : annR s j i = orgA s y :: annR s (j + 1) i := by
 unfold annR
 rw [List.drop_eq_getElem_cons hj, List.drop_eq_getElem_cons hi, List.map_cons, List.map_cons, hx, hy]
 exact Zn6 h
theorem Zq3 {s : RtV} {i j : Nat} {x : InsV} {y : OrgV} (hi : i < s.ins.length) (hx : s.ins[i] = x) (hj : j < s.og.length) (hy : s.og[j] = y) (h : ¬ cmpD (orgD s.self y) x.to < 0) : annR s j i = ⟨x.to, x.own⟩ :: annR s j (i + 1) := by
 unfold annR
 rw [List.drop_eq_getElem_cons hj, List.drop_eq_getElem_cons hi, List.map_cons, List.map_cons, hx, hy]
 exact Zn7 h
theorem Zph {s : RtV} {i j : Nat} {x : InsV} (hi : i < s.ins.length) (hx : s.ins[i] = x) (hj : s.og.length ≤ j) : annR s j i = ⟨x.to, x.own⟩ :: annR s j (i + 1) := by
 unfold annR
 rw [List.drop_eq_nil_of_le hj, List.drop_eq_getElem_cons hi, List.map_nil, ZkZ, ZkZ, List.map_cons, hx]
 rfl
theorem Zq2 {s : RtV} {j : Nat} {y : OrgV} (hj : j < s.og.length) (hy : s.og[j] = y) : annR s j s.ins.length = orgA s y :: annR s (j + 1) s.ins.length := by
 unfold annR
 rw [List.drop_length, List.map_nil, ZfR, ZfR, List.drop_eq_getElem_cons hj, List.map_cons, hy]
theorem ZsQ {s : RtV} {j : Nat} (hj : s.og.length ≤ j) : annR s j s.ins.length = [] := by
 unfold annR
 rw [List.drop_length, List.map_nil, ZfR, List.drop_eq_nil_of_le hj]
 rfl
theorem Zg6 {T out r : List AdvV} {x : AdvV} {r' : List AdvV} (h : out ++ r = T) (hr : r = x :: r') : (out ++ [x]) ++ r' = T := by rw [← h, hr, List.append_assoc];rfl
theorem ZjR (s : RtV) (x : RtX) (hs : IsRt s) (hlo : s.og.length ≤ 8) (hli : s.ins.length ≤ 512) (W : World) (h : RtAt W s x) : Cal Tryz.prog 121 [.agg (rtC s x).toArray].toArray W fun r w' => ∃ ent, OwnS 100 37 r (annV s).length (avsC (annV s)) ent ∧ Mem [] W w' ent := by
 obtain ⟨v6, v7, v8, v9, v10, v11, v12⟩ := x
 obtain ⟨a6, a7, a8, a9, a10, a11, a12⟩ := h
 dsimp only at a6 a7 a8 a9 a10 a11 a12
 obtain ⟨q6, c6, rfl, _⟩ := id a6
 obtain ⟨q7, c7, rfl, _⟩ := id a7
 obtain ⟨q8, c8, rfl, _⟩ := id a8
 obtain ⟨q9, c9, rfl, _⟩ := id a9
 obtain ⟨q10, c10, rfl, _⟩ := id a10
 obtain ⟨q11, c11, rfl, _⟩ := id a11
 obtain ⟨q12, c12, rfl, _⟩ := id a12
 obtain ⟨i6, i7, i8, i9, i10, i11, i12, iq⟩ := hs
 have m6 := a6.memB [] (by simp)
 have m10 := a10.memB [] (by simp)
 refine Zao (n := 82) (S := []) Zal Zak Tryz.func121 rfl rfl rfl (gR 2 rfl (ZaA rfl rfl fun b1 => gR 17 rfl (Zai 0 rfl rfl rfl (gR 5 rfl (ZcO ?_)))))
 refine Za1 (ι := Nat × Nat × (List AdvV) × Value × (List (Nat × Obj))) ⟨fun (i, j, out, u, es) => s.ins.length - i, fun (i, j, out, u, es) => i ≤ s.ins.length ∧ (j ≤ s.og.length) ∧ (OwnS 100 37 u (out).length (avsC (out)) es) ∧ (out ++ annR s j i = annV s) ∧ (out.length = i + j), fun (i, j, out, u, es) => [(10, .int .i64 i), (9, .int .i64 s.ins.length), (8, .slice q10 s.ins.length c10), (3, u), (4, .int .i64 j), (1, .pointer (some ⟨b1, 0, none⟩))], fun (i, j, out, u, es) => [es, [(b1, .cells (rtC s ⟨.slice q6 s.og.length c6, .slice q7 s.aj.length c7, .slice q8 s.sr.length c8, .slice q9 s.ro.length c9, .slice q10 s.ins.length c10, .slice q11 s.rq.length c11, .slice q12 s.av.length c12⟩).toArray 53 (0, 0))]]⟩ (0, 0, [], _, []) ⟨by omega, by omega, OwnS.nilL _ _ _, rfl, rfl⟩ (fun a F => F.only [10, 9, 8, 3, 4, 1] rfl) (sX 17179869183 rfl) ?_
 rintro ⟨i, j, out, u, es⟩ ⟨hi_i, hj, hOs, hT, hol⟩
 dsimp only
 by_cases hlt_i : i < s.ins.length
 ·obtain ⟨b, o, cs, t', fz, rfl, hb, hs⟩ := m10 (by omega)
  obtain ⟨x, hx0⟩ : ∃ x, x = s.ins[i] := ⟨_, rfl⟩
  have hxm : x ∈ s.ins := by rw [hx0];exact List.getElem_mem hlt_i
  have hxi : IsIn x := i10 _ hxm
  have f1 : seg cs (o + (i : Int).toNat * 40) 40 = some (inC x) := by rw [hx0];exact Za0 (Zb5 i10) hs hlt_i (by omega)
  replace hx0 := hx0.symm
  have xd : IsDv x.to := hxi.1
  refine gR 6 rfl (ZaE rfl (dqT (by omega)) (gR 6 rfl (Zbk rfl rfl (by omega) (by omega) (ZbF rfl ‹_› (by with_reducible assumption) ?_))))
  refine Zat fun b6 => Zas 0 rfl rfl (Zaj ‹_›) (ZaY _) rfl (Zag (by rw [Zaj ‹_›];first | rfl | rw [Zaj ‹_›])) rfl ?_
  refine gR 4 rfl ?_
  refine Za1 (ι := Nat × (List AdvV) × Value × (List (Nat × Obj))) ⟨fun (j, out, u, es) => s.og.length - j, fun (j, out, u, es) => j ≤ s.og.length ∧ OwnS 100 37 u (out).length (avsC (out)) es ∧ out ++ annR s j i = annV s ∧ out.length = i + j, fun (j, out, u, es) => [(10, .int .i64 i), (9, .int .i64 s.ins.length), (8, .slice (some ⟨b, o, none⟩) s.ins.length c10), (6, .pointer (some ⟨b6, 0, none⟩)), (3, u), (4, .int .i64 j), (1, .pointer (some ⟨b1, 0, none⟩))], fun (j, out, u, es) => [[(b6, .cells (inC x).toArray 74 (0, 0))], es, [(b1, .cells (rtC s ⟨.slice q6 s.og.length c6, .slice q7 s.aj.length c7, .slice q8 s.sr.length c8, .slice q9 s.ro.length c9, .slice (some ⟨b, o, none⟩) s.ins.length c10, .slice q11 s.rq.length c11, .slice q12 s.av.length c12⟩).toArray 53 (0, 0))]]⟩ (j, out, u, es) ⟨hj, hOs, hT, hol⟩ (fun a F => F.only [10, 9, 8, 6, 3, 4, 1] rfl) (sX 17179869183 rfl) ?_
  clear hj hOs hT hol
  rintro ⟨j, out, u, es⟩ ⟨hj, hOs, hT, hol⟩
  dsimp only at hj hOs hT hol ⊢
  by_cases hlj : j < s.og.length
  ·have hj8 : j < 8 := by omega
   obtain ⟨bo, oo, cso, t'o, fzo, rfl, hbo, hso⟩ := m6 (by omega)
   obtain ⟨y, hy0⟩ : ∃ y, s.og[j] = y := ⟨_, rfl⟩
   have yI : IsOg y := by rw [← hy0];exact i6 _ (List.getElem_mem _)
   have yd : IsDv (orgD s.self y) := yI
   have f2 : seg cso (oo + (j : Int).toNat * 34) 34 = some (ogC y) := by rw [← hy0];exact Za0 (ZdK i6) hso hlj (by omega)
   have hjt : decide ((j : Int) < (s.og.length : Int)) = true := dqT (by omega)
   by_cases hc : cmpD (orgD s.self y) x.to < 0
   ·have hct := dqT hc
    refine gR 2 rfl (ZaG 19 82 rfl (by kernel_rfl) (fR 2 rfl (ZaW 2 rfl rfl rfl (fR 3 rfl (ZaX 19 rfl (dqT (by omega)) (fR 1 rfl (ZaW 2 rfl rfl rfl (fR 1 rfl (ZaW 2 rfl rfl rfl (fR 1 rfl (Zbb rfl rfl (by omega) (by omega) (Zb1 rfl ‹_› (by with_reducible assumption) ?_))))))))))))
    refine ZaH rfl rfl (fun w M => Zex _ _ ‹_› _) ?_
    refine fR 1 rfl (ZaN 0 rfl rfl (Zcy ‹_›) ?_)
    refine ZaH rfl rfl (fun w M => Zbt _ _ ‹_› ‹_› _) ?_
    refine fR 2 rfl (Zap rfl rfl (gR 2 rfl (ZaE rfl (dqT (by omega)) (gR 4 rfl (ZaG 14 82 rfl (by kernel_rfl) (fR 2 rfl (ZaW 2 rfl rfl rfl (fR 1 rfl (ZaW 2 rfl rfl rfl (fR 1 rfl (Zbb rfl rfl (by omega) (by omega) (Zb1 rfl ‹_› (by with_reducible assumption) ?_))))))))))))
    refine ZaH rfl rfl (fun w M => Zex _ _ ‹_› _) ?_
    refine fR 1 rfl (ZaW 2 rfl rfl rfl (fd_v (fun a w F M R r => Zaw F rfl (ZoV _) r) (fd_v (fun a w F M R r => Zaw F rfl (ZiR _ ‹_› _) r) ?_)))
    refine ZmT rfl rfl rfl (ZdN ⟨by assumption, trivial⟩) (fun b46 => ?_)
    refine ZbI 2 0 (enc := avC) rfl rfl ‹_› rfl rfl (Zdt ⟨by assumption, trivial⟩) (by omega) (fun _ => rfl) (fun v47 es47 hO47 => ?_) (Ze0 _)
    refine gR 5 rfl (ZaK rfl rfl (Zax (by omega) (by omega)) (gR 3 rfl ?_))
    exact Zar (j + 1, out ++ [orgA s y], _, _) ⟨by dsimp only;omega, by assumption, Zg6 hT (Zq1 hlt_i hx0 hlj hy0 hc), by simp;omega⟩ (by dsimp only;omega) (fun a F => F.only [10, 9, 8, 6, 3, 4, 1] rfl) (sX 17179869182 rfl)
   ·have hcf := dqF hc
    have he := Zq3 hlt_i hx0 hlj hy0 hc
    refine gR 2 rfl (ZaG 19 82 rfl (by kernel_rfl) (fR 2 rfl (ZaW 2 rfl rfl rfl (fR 3 rfl (ZaX 19 rfl (dqT (by omega)) (fR 1 rfl (ZaW 2 rfl rfl rfl (fR 1 rfl (ZaW 2 rfl rfl rfl (fR 1 rfl (Zbb rfl rfl (by omega) (by omega) (Zb1 rfl ‹_› (by with_reducible assumption) ?_))))))))))))
    refine ZaH rfl rfl (fun w M => Zex _ _ ‹_› _) ?_
    refine fR 1 rfl (ZaN 0 rfl rfl (Zcy ‹_›) ?_)
    refine ZaH rfl rfl (fun w M => Zbt _ _ ‹_› ‹_› _) ?_
    refine fR 2 rfl (Zap rfl rfl (gR 2 rfl (Zav rfl (dqF (by omega)) (gR 2 rfl (ZaZ (gR 5 rfl (Zah 0 rfl rfl (Zcy ‹_›) ?_)))))))
    refine gR 1 rfl (Zah 0 rfl rfl (ZiG ‹_›) ?_)
    refine g_v (fun a w F M R r => Zaw F rfl (ZiR _ ‹_› _) r) ?_
    refine g_bs rfl rfl rfl (ZdN ‹_›) (fun b56 => ?_)
    refine ZbI 2 0 (enc := avC) rfl rfl ‹_› rfl rfl (Zdt ‹_›) (by omega) (fun _ => rfl) (fun v57 es57 hO57 => ?_) (Ze0 _)
    refine gR 5 rfl (ZaK rfl rfl (Zax (by omega) (by omega)) (gR 2 rfl ?_))
    exact Zar (i + 1, j, out ++ [⟨x.to, x.own⟩], _, _) ⟨by dsimp only;omega, hj, by assumption, Zg6 hT he, by simp;omega⟩ (by dsimp only;omega) (fun a F => F.only [10, 9, 8, 3, 4, 1] rfl) (sX 17179869180 rfl)
  ·have hjf : decide ((j : Int) < (s.og.length : Int)) = false := dqF (by omega)
   have he := Zph hlt_i hx0 (show s.og.length ≤ j by omega)
   refine gR 2 rfl (ZaG 19 82 rfl (by kernel_rfl) (fR 2 rfl (ZaW 2 rfl rfl rfl (fR 3 rfl (ZaX 19 rfl (dqF (by omega)) (fR 13 rfl (Zap rfl rfl (gR 5 rfl (ZaZ (gR 5 rfl (Zah 0 rfl rfl (Zcy ‹_›) ?_)))))))))))
   refine gR 1 rfl (Zah 0 rfl rfl (ZiG ‹_›) ?_)
   refine g_v (fun a w F M R r => Zaw F rfl (ZiR _ ‹_› _) r) ?_
   refine g_bs rfl rfl rfl (ZdN ‹_›) (fun b56 => ?_)
   refine ZbI 2 0 (enc := avC) rfl rfl ‹_› rfl rfl (Zdt ‹_›) (by omega) (fun _ => rfl) (fun v57 es57 hO57 => ?_) (Ze0 _)
   refine gR 5 rfl (ZaK rfl rfl (Zax (by omega) (by omega)) (gR 2 rfl ?_))
   exact Zar (i + 1, j, out ++ [⟨x.to, x.own⟩], _, _) ⟨by dsimp only;omega, hj, by assumption, Zg6 hT he, by simp;omega⟩ (by dsimp only;omega) (fun a F => F.only [10, 9, 8, 3, 4, 1] rfl) (sX 17179869180 rfl)
 ·have hil : i = s.ins.length := by omega
  rw [hil] at hT hol
  refine gR 6 rfl (Zav rfl (dqF (by omega)) (gR 2 rfl (ZaZ (gR 4 rfl (Za1 (ι := Nat × (List AdvV) × Value × (List (Nat × Obj))) ⟨fun (j, out, u, es) => s.og.length - j, fun (j, out, u, es) => j ≤ s.og.length ∧ OwnS 100 37 u (out).length (avsC (out)) es ∧ out ++ annR s j s.ins.length = annV s ∧ out.length = s.ins.length + j, fun (j, out, u, es) => [(3, u), (4, .int .i64 j), (1, .pointer (some ⟨b1, 0, none⟩))], fun (j, out, u, es) => [es, [(b1, .cells (rtC s ⟨.slice q6 s.og.length c6, .slice q7 s.aj.length c7, .slice q8 s.sr.length c8, .slice q9 s.ro.length c9, .slice q10 s.ins.length c10, .slice q11 s.rq.length c11, .slice q12 s.av.length c12⟩).toArray 53 (0, 0))]]⟩ (j, out, u, es) ⟨hj, hOs, hT, hol⟩ (fun a F => F.only [3, 4, 1] rfl) (sX 17179869183 rfl) ?_)))))
  clear hj hOs hT hol
  rintro ⟨j, out, u, es⟩ ⟨hj, hOs, hT, hol⟩
  dsimp only at hj hOs hT hol ⊢
  by_cases hlj : j < s.og.length
  ·have hj8 : j < 8 := by omega
   obtain ⟨bo, oo, cso, t'o, fzo, rfl, hbo, hso⟩ := m6 (by omega)
   obtain ⟨y, hy0⟩ : ∃ y, s.og[j] = y := ⟨_, rfl⟩
   have yI : IsOg y := by rw [← hy0];exact i6 _ (List.getElem_mem _)
   have yd : IsDv (orgD s.self y) := yI
   have f2 : seg cso (oo + (j : Int).toNat * 34) 34 = some (ogC y) := by rw [← hy0];exact Za0 (ZdK i6) hso hlj (by omega)
   have hjt : decide ((j : Int) < (s.og.length : Int)) = true := dqT (by omega)
   refine gR 5 rfl (Zai 1 rfl rfl rfl (gR 4 rfl (ZaE rfl (dqT (by omega)) (gR 4 rfl (ZaG 14 82 rfl (by kernel_rfl) (fR 2 rfl (ZaW 1 rfl rfl rfl (fR 1 rfl (ZaW 1 rfl rfl rfl (fR 1 rfl (Zbb rfl rfl (by omega) (by omega) (Zb1 rfl ‹_› (by with_reducible assumption) ?_))))))))))))
   refine ZaH rfl rfl (fun w M => Zex _ _ ‹_› _) ?_
   refine fR 1 rfl (ZaW 1 rfl rfl rfl (fd_v (fun a w F M R r => Zaw F rfl (ZoV _) r) (fd_v (fun a w F M R r => Zaw F rfl (ZiR _ ‹_› _) r) ?_)))
   refine ZmT rfl rfl rfl (ZdN ⟨by assumption, trivial⟩) (fun b77 => ?_)
   refine ZbI 1 0 (enc := avC) rfl rfl ‹_› rfl rfl (Zdt ⟨by assumption, trivial⟩) (by omega) (fun _ => rfl) (fun v78 es78 hO78 => ?_) (Ze0 _)
   refine gR 5 rfl (ZaK rfl rfl (Zax (by omega) (by omega)) (gR 3 rfl ?_))
   exact Zar (j + 1, out ++ [orgA s y], _, _) ⟨by dsimp only;omega, by assumption, Zg6 hT (Zq2 hlj hy0), by simp;omega⟩ (by dsimp only;omega) (fun a F => F.only [3, 4, 1] rfl) (sX 17179869182 rfl)
  ·have hjf : decide ((j : Int) < (s.og.length : Int)) = false := dqF (by omega)
   rw [ZsQ (by omega), List.append_nil] at hT
   rw [hT] at hOs
   exact gR 5 rfl (Zai 1 rfl rfl rfl (gR 4 rfl (Zav rfl (dqF (by omega)) (gR 2 rfl (ZaZ (gR 9 rfl (Zab rfl rfl rfl fun w M => ⟨_, hOs, M.sub (List.sublist_append_left _ _)⟩)))))))
end Go.Proofs.YtfhkmgcalcfibaaGreat
namespace Go.Proofs.YtfhkmgcalcfibaaGreat
open Go.RowKit
theorem Zsr {c : Cx} {Q : Exit → Act → World → Prop} {ks : List KF} {fr : List (Nat × Value)} {l : Row} {all : Array Oper} {rest : List Oper} {d : Nat} {ty : TypeId} {pos : String} {af : Array Edge} {g : Option (Nat × Bool)} (i : Nat) (Ψ : Value → List (Nat × Obj) → Prop) {ent : List (Nat × Obj)} {f : List (Nat × Obj) → Row} {x : Operand} {fn : FuncId} {xs : List Operand} {ts : Array TypeId} {vs : List Value} [hb : ZaD c.P fn] (hx : Ev fr x = some (.func (.func fn) #[] #[])) (ha : evL fr xs = some vs) (hi : nthO l i = some ent) (hf : ∀ e', setO l i e' = some (f e'))
  (hc : ∀ w r, Mem c.S c.W w (r ++ ent) → Cal c.P fn vs.toArray w fun u w' => ∃ e', Ψ u e' ∧ Mem c.S c.W w' (r ++ e')) (hk : ∀ u e', Ψ u e' → G c Q ks (.ops all rest) ((d, u) :: fr) (f e')) (hd : Nat.blt d c.n = true := by rfl) (hg : gOk all fr g = some true := by rfl) :
  G c Q ks (.ops all (⟨some d, .call ⟨.value x, xs.toArray, ts⟩, ty, pos, af, g⟩ :: rest)) fr l :=
 g_op rfl hd hg fun a w F M => by
  obtain ⟨r, p1, _⟩ := ZcN hi (hf ent)
  have hp : ∀ e', (f e').flatten.Perm (e' ++ r) := fun e' => by
   obtain ⟨r', q1, q2⟩ := ZcN hi (hf e')
   exact q2.trans (List.Perm.append_left _ ((List.perm_append_left_iff ent).1 (q1.symm.trans p1)))
  refine Zbh (F.e hx) (F.evs ha) (Cal.mono (hc w r (M.perm (p1.trans List.perm_append_comm))) fun u w' h a' F' => ?_)
  obtain ⟨e', h1, M'⟩ := h
  exact hk u e' h1 a' w' F' (M'.perm (List.perm_append_comm.trans (hp e').symm))
end Go.Proofs.YtfhkmgcalcfibaaGreat
namespace Go.Proofs.YtfhkmgcalcfibaaGreat
open Go.RowKit
attribute [local irreducible] OpTo wpListIn Code.wpIn MW Cal
theorem Zug (x y : AdvV) (hx : IsAv x) (hy : IsAv y) (W : World) : Cal Tryz.prog 205 [.agg (avC x).toArray, .agg (avC y).toArray].toArray W fun r w' => r = .int .i64 (cmpD x.to y.to) ∧ Ext [] W w' := by
 have xd : IsDv x.to := hx.1
 have yd : IsDv y.to := hy.1
 refine Zao (n := 10) (S := []) Zal Zak Tryz.func205 rfl rfl rfl (gR 2 rfl (ZaA rfl rfl fun b2 => ZaA rfl rfl fun b3 => gR 6 rfl (Zah 1 rfl rfl (Zh0 ‹_›) ?_)))
 refine gR 1 rfl (Zah 0 rfl rfl (Zh0 ‹_›) ?_)
 refine Zad rfl rfl (fun w M => ZcX _ _ ‹_› ‹_› _) ?_
 exact gR 4 rfl (Zab rfl rfl rfl fun w M => ⟨rfl, M.ext⟩)
theorem ZpD (ls m : List AdvV) (hx : ∀ x ∈ ls, IsAv x) (hnd : (ls.map (·.to)).Nodup) (hm : AscA m) (hmem : ∀ x, x ∈ m ↔ x ∈ ls) (hlen : ls.length ≤ 100000)
  {S : List Nat} {W0 w : World} {l : List (Nat × Obj)} {f : List (Nat × Obj) → List (Nat × Obj)} {v : Value} {ent : List (Nat × Obj)} (M : Mem S W0 w l) (hO : OwnS 100 37 v ls.length (avsC ls) ent) (hl : Ze3 ent l f) :
  Cal Tryz.prog 204 [v, .func (.func 205) #[] #[]].toArray w fun _ w' => ∃ ent', OwnS 100 37 v ls.length (avsC m) ent' ∧ Mem S W0 w' (f ent') := by
 obtain ⟨f0, hf0⟩ : ∃ f0 : DstV → DisV, ∀ a ∈ ls, f0 a.to = a.own := ⟨fun d => (getO ls d).getD di0, fun a ha => by simp [Zox hnd ha]⟩
 let dec : ADst → AdvV := fun d => ⟨d.1, f0 d.1⟩
 let enc : ADst → List Value := fun d => avC (dec d)
 have hdec : ∀ d, IsAv (dec d) := fun d => ⟨d.2, trivial⟩
 obtain ⟨az, haz⟩ : ∃ az : List ADst, az.map dec = ls := ⟨ls.pmap (fun a h => (⟨a.to, h⟩ : ADst)) (fun a ha => (hx a ha).1), by
  rw [List.map_pmap]
  have : ∀ (l : List AdvV) (h : ∀ a ∈ l, IsDv a.to) (h2 : ∀ a ∈ l, f0 a.to = a.own), l.pmap (fun a h => dec ⟨a.to, h⟩) h = l := by
   intro l
   induction l with
   | nil => intro _ _;rfl
   | cons a l ih =>
    intro h h2
    rw [List.pmap_cons, ih _ fun b hb => h2 b (List.mem_cons_of_mem _ hb)]
    congr 1
    show (⟨a.to, f0 a.to⟩ : AdvV) = a
    rw [h2 a List.mem_cons_self]
  exact this ls _ hf0⟩
 have henc : ∀ bz : List ADst, encL enc bz = avsC (bz.map dec) := by
  intro bz
  induction bz with
  | nil => rfl
  | cons x xs ih => rw [Zdb, ih];rfl
 have hlz : az.length = ls.length := by rw [← haz, List.length_map]
 rw [← hlz] at hO
 rw [← haz, ← henc] at hO
 have h := ZpC (P := Tryz.prog) (ρ := Zif) (enc := enc) (k := 37) (e := 100) Ztb (fun x => Zdt (hdec x)) (by omega) (fun x => Ze0 _) (by kernel_rfl) cfD swoD totD (g := 205) (ZaD.h (P := Tryz.prog)) (fun W x y => Zug (dec x) (dec y) (hdec x) (hdec y) W) az M hO hl (by omega)
 refine Cal.mono h ?_
 rintro _ w' ⟨ent', hO', M'⟩
 have hp := List.mergeSort_perm az fun x y => !(ltOf cfD) y x
 have hs : (az.mergeSort fun x y => !(ltOf cfD) y x).Pairwise fun x y => (!(ltOf cfD) y x) = true := by
  refine List.pairwise_mergeSort ?_ ?_ _
  ·intro a b c h1 h2
   simp only [Bool.not_eq_true'] at h1 h2 ⊢
   exact swoD.ntrans c b a h2 h1
  ·intro a b
   cases h : ltOf cfD b a with
   | false => simp
   | true => simp [swoD.asymmA h]
 generalize az.mergeSort (fun x y => !(ltOf cfD) y x) = ds at *
 have hnd2 : (ds.map fun d => d.1).Nodup := by
  have e1 : (ls.map (·.to)) = az.map fun d => d.1 := by rw [← haz, List.map_map];rfl
  rw [e1] at hnd
  exact (hp.map _).nodup_iff.2 hnd
 have hdm : ds.map dec = m := by
  refine ZhN AdvV.to _ _ ?_ hm fun x => ?_
  ·unfold AscK
   rw [List.pairwise_map]
   have h2 : ds.Pairwise fun a b => a.1 ≠ b.1 := by
    have := hnd2
    rw [List.Nodup, List.pairwise_map] at this
    exact this
   refine (List.Pairwise.and hs h2).imp ?_
   rintro a b ⟨h3, h4⟩
   simp only [Bool.not_eq_true'] at h3
   rw [Zqj] at h3
   show cmpD a.1 b.1 < 0
   have h5 := ZeZ a.1 b.1
   have h6 : cmpD a.1 b.1 ≠ 0 := fun h => h4 (Zf4 a.2 b.2 h)
   omega
  ·rw [hmem, ← haz]
   exact (hp.map dec).mem_iff
 rw [henc, hdm, hlz] at hO'
 exact ⟨ent', hO', M'⟩
def ZdD (s : RtV) : List AdvV := if ZaR s then annV s else []
def annL (s : RtV) : List AdvV := s.og.map (orgA s) ++ s.ins.map insA
theorem ZeH {s : RtV} (h : ZaR s = true) : Zec s.self s.og = true ∧ ZcJ s.ins = true ∧ (s.ins.any fun x => decide (x.to.rt = s.self)) = false := by
 unfold ZaR at h
 simp only [Bool.and_eq_true, Bool.not_eq_true'] at h
 exact ⟨h.1.1.1.1.1.1.1.1.2, h.1.1.1.1.2, h.2⟩
theorem ZcB {self : Int} {l : List OrgV} : Zec self l = true ↔ l.length ≤ 8 ∧ (∀ a ∈ l, org1 self a = true) ∧ AscC (Zjw self) l := ZfA (fun _ _ _ h k => Zcr h k)
theorem Zmi {s : RtV} (hs : IsRt s) (h : ZaR s = true) : AscA (annV s) := by
 obtain ⟨h1, h2, h3⟩ := ZeH h
 refine Zk0 _ _ _ rfl ?_ ?_ ?_
 ·have := (ZcB.1 h1).2.2
  unfold AscA AscK
  rw [List.pairwise_map]
  exact this
 ·have := (ZcW.1 h2).2.2
  unfold AscA AscK
  rw [List.pairwise_map]
  exact this
 ·intro x hx y hy e
  obtain ⟨o, ho, rfl⟩ := List.mem_map.1 hx
  obtain ⟨z, hz, rfl⟩ := List.mem_map.1 hy
  have e2 : orgD s.self o = z.to := Zf4 (ZkS (hs.og o ho)) (hs.ins z hz).1 e
  have h4 := List.any_eq_false.1 h3 z hz
  apply h4
  rw [← e2]
  exact dqT rfl
theorem Ze1 (s : RtV) : (annV s).Perm (annL s) := List.merge_perm_append _
theorem Zm4 {l : List AdvV} (h : AscA l) : (l.map (·.to)).Nodup := by
 unfold List.Nodup
 rw [List.pairwise_map]
 refine h.imp fun {a b} hab e => ?_
 rw [e, Zf5] at hab
 omega
theorem Zm6 {s : RtV} (hs : IsRt s) (h : ZaR s = true) : ((annL s).map (·.to)).Nodup := ((Ze1 s).map _).nodup_iff.1 (Zm4 (Zmi hs h))
theorem Zpi {s : RtV} (hs : IsRt s) : ∀ x ∈ annL s, IsAv x := fun x hx => by
 rcases List.mem_append.1 hx with h | h
 ·obtain ⟨o, ho, rfl⟩ := List.mem_map.1 h
  exact ⟨hs.og o ho, trivial⟩
 ·obtain ⟨o, ho, rfl⟩ := List.mem_map.1 h
  exact ⟨(hs.ins o ho).1, trivial⟩
theorem ZpW {s : RtV} {i : Nat} (h : i < s.og.length) {x : OrgV} (hx : x = s.og[i]) : (s.og.take (i + 1)).map (orgA s) = (s.og.take i).map (orgA s) ++ [orgA s x] := by
 rw [hx, List.take_succ_eq_append_getElem h, List.map_append]
 rfl
theorem Zqw {s : RtV} {i : Nat} (h : i < s.ins.length) {x : InsV} (hx : x = s.ins[i]) : s.og.map (orgA s) ++ (s.ins.take (i + 1)).map insA = (s.og.map (orgA s) ++ (s.ins.take i).map insA) ++ [⟨x.to, x.own⟩] := by
 rw [hx, List.take_succ_eq_append_getElem h, List.map_append, List.append_assoc]
 rfl
theorem Zj8 (s : RtV) (x : RtX) (hs : IsRt s) (hv : ZaR s = true) (W : World) (h : RtAt W s x) : Cal Tryz.prog 120 [.agg (rtC s x).toArray].toArray W fun r w' => ∃ ent, OwnS 100 37 r (annV s).length (avsC (annV s)) ent ∧ Mem [] W w' ent := by
 have hlo := (ZcB.1 (ZeH hv).1).1
 have hli := (ZcW.1 (ZeH hv).2.1).1
 have hsL := Zpi hs
 have hnd := Zm6 hs hv
 have hasc := Zmi hs hv
 obtain ⟨v6, v7, v8, v9, v10, v11, v12⟩ := x
 obtain ⟨a6, a7, a8, a9, a10, a11, a12⟩ := h
 dsimp only at a6 a7 a8 a9 a10 a11 a12
 obtain ⟨q6, c6, rfl, _⟩ := id a6
 obtain ⟨q7, c7, rfl, _⟩ := id a7
 obtain ⟨q8, c8, rfl, _⟩ := id a8
 obtain ⟨q9, c9, rfl, _⟩ := id a9
 obtain ⟨q10, c10, rfl, _⟩ := id a10
 obtain ⟨q11, c11, rfl, _⟩ := id a11
 obtain ⟨q12, c12, rfl, _⟩ := id a12
 obtain ⟨i6, i7, i8, i9, i10, i11, i12, iq⟩ := hs
 have m6 := a6.memB [] (by simp)
 have m10 := a10.memB [] (by simp)
 refine Zao (n := 46) (S := []) Zal Zak Tryz.func120 rfl rfl rfl (gR 2 rfl (ZaA rfl rfl fun b1 => gR 12 rfl (Zai 0 rfl rfl rfl (gR 5 rfl (ZcO ?_)))))
 refine Za1 (ι := Nat × Value × (List (Nat × Obj))) ⟨fun (i, u, es) => s.og.length - i, fun (i, u, es) => i ≤ s.og.length ∧ (OwnS 100 37 u ((s.og.take i).map (orgA s)).length (avsC ((s.og.take i).map (orgA s))) es), fun (i, u, es) => [(11, .int .i64 i), (10, .int .i64 s.og.length), (9, .slice q6 s.og.length c6), (3, u), (1, .pointer (some ⟨b1, 0, none⟩))], fun (i, u, es) => [es, [(b1, .cells (rtC s ⟨.slice q6 s.og.length c6, .slice q7 s.aj.length c7, .slice q8 s.sr.length c8, .slice q9 s.ro.length c9, .slice q10 s.ins.length c10, .slice q11 s.rq.length c11, .slice q12 s.av.length c12⟩).toArray 53 (0, 0))]]⟩ (0, _, []) ⟨by omega, OwnS.nilL _ _ _⟩ (fun a F => F.only [11, 10, 9, 3, 1] rfl) (sX 17179869183 rfl) ?_
 rintro ⟨i, u, es⟩ ⟨hi_i, hOs⟩
 dsimp only
 by_cases hlt_i : i < s.og.length
 ·obtain ⟨b, o, cs, t', fz, rfl, hb, hs⟩ := m6 (by omega)
  obtain ⟨x, hx0⟩ : ∃ x, x = s.og[i] := ⟨_, rfl⟩
  have hxm : x ∈ s.og := by rw [hx0];exact List.getElem_mem hlt_i
  have hxi : IsOg x := i6 _ hxm
  have f1 : seg cs (o + (i : Int).toNat * 34) 34 = some (ogC x) := by rw [hx0];exact Za0 (ZdK i6) hs hlt_i (by omega)
  have xd : IsDv (orgD s.self x) := hxi
  have hol : ((s.og.take i).map (orgA s)).length ≤ i := by rw [List.length_map, List.length_take];omega
  have hst := ZpW hlt_i hx0
  refine gR 6 rfl (ZaE rfl (dqT (by omega)) (gR 6 rfl (Zbk rfl rfl (by omega) (by omega) (ZbF rfl ‹_› (by with_reducible assumption) ?_))))
  refine Zat fun b5 => Zas 0 rfl rfl (Zbl ‹_›) (ZcT _) rfl (Zag (by rw [Zbl ‹_›];first | rfl | rw [Zbl ‹_›])) rfl ?_
  refine gR 2 rfl (ZaG 10 46 rfl (by kernel_rfl) (fR 2 rfl (ZaW 2 rfl rfl rfl (ZaN 0 rfl rfl (Zdr ‹_›) ?_))))
  refine ZaH rfl rfl (fun w M => Zhp _ _ ‹_› _) ?_
  refine fR 1 rfl (ZaW 2 rfl rfl rfl (fd_v (fun a w F M R r => Zaw F rfl (ZoV _) r) (fd_v (fun a w F M R r => Zaw F rfl (ZiR _ ‹_› _) r) ?_)))
  refine ZmT rfl rfl rfl (ZdN ⟨by assumption, trivial⟩) (fun b24 => ?_)
  refine ZbI 2 0 (enc := avC) rfl rfl ‹_› rfl rfl (Zdt ⟨by assumption, trivial⟩) (by omega) (fun _ => rfl) (fun v25 es25 hO25 => ?_) (Ze0 _)
  refine gR 5 rfl (ZaK rfl rfl (Zax (by omega) (by omega)) (gR 2 rfl ?_))
  exact Zar (i + 1, _, _) ⟨by dsimp only;omega, by dsimp only;rw [hst];assumption⟩ (by dsimp only;omega) (fun a F => F.only [11, 10, 9, 3, 1] rfl) (sX 17179869180 rfl)
 ·have hil : i = s.og.length := by omega
  rw [hil, List.take_length] at hOs
  refine gR 6 rfl (Zav rfl (dqF (by omega)) (gR 2 rfl (ZaZ (gR 6 rfl (Zai 1 rfl rfl rfl (gR 5 rfl ?_))))))
  refine Za1 (ι := Nat × Value × (List (Nat × Obj))) ⟨fun (i, u, es) => s.ins.length - i, fun (i, u, es) => i ≤ s.ins.length ∧ (OwnS 100 37 u (s.og.map (orgA s) ++ (s.ins.take i).map insA).length (avsC (s.og.map (orgA s) ++ (s.ins.take i).map insA)) es), fun (i, u, es) => [(30, .int .i64 i), (29, .int .i64 s.ins.length), (28, .slice q10 s.ins.length c10), (3, u), (1, .pointer (some ⟨b1, 0, none⟩))], fun (i, u, es) => [es, [(b1, .cells (rtC s ⟨.slice q6 s.og.length c6, .slice q7 s.aj.length c7, .slice q8 s.sr.length c8, .slice q9 s.ro.length c9, .slice q10 s.ins.length c10, .slice q11 s.rq.length c11, .slice q12 s.av.length c12⟩).toArray 53 (0, 0))]]⟩ (0, u, es) ⟨by omega, by simpa using hOs⟩ (fun a F => F.only [30, 29, 28, 3, 1] rfl) (sX 17179869183 rfl) ?_
  rintro ⟨i, u, es⟩ ⟨hi_i, hOs⟩
  dsimp only
  by_cases hlt_i : i < s.ins.length
  ·obtain ⟨b, o, cs, t', fz, rfl, hb, hs⟩ := m10 (by omega)
   obtain ⟨x, hx0⟩ : ∃ x, x = s.ins[i] := ⟨_, rfl⟩
   have hxm : x ∈ s.ins := by rw [hx0];exact List.getElem_mem hlt_i
   have hxi : IsIn x := i10 _ hxm
   have f1 : seg cs (o + (i : Int).toNat * 40) 40 = some (inC x) := by rw [hx0];exact Za0 (Zb5 i10) hs hlt_i (by omega)
   have xd : IsDv x.to := hxi.1
   have hol : (s.og.map (orgA s) ++ (s.ins.take i).map insA).length ≤ 8 + i := by rw [List.length_append, List.length_map, List.length_map, List.length_take];omega
   have hst := Zqw hlt_i hx0
   refine gR 6 rfl (ZaE rfl (dqT (by omega)) (gR 6 rfl (Zbk rfl rfl (by omega) (by omega) (ZbF rfl ‹_› (by with_reducible assumption) ?_))))
   refine Zat fun b7 => Zas 0 rfl rfl (Zaj ‹_›) (ZaY _) rfl (Zag (by rw [Zaj ‹_›];first | rfl | rw [Zaj ‹_›])) rfl ?_
   refine gR 5 rfl (Zah 0 rfl rfl (Zcy ‹_›) ?_)
   refine gR 1 rfl (Zah 0 rfl rfl (ZiG ‹_›) ?_)
   refine g_v (fun a w F M R r => Zaw F rfl (ZiR _ ‹_› _) r) ?_
   refine g_bs rfl rfl rfl (ZdN ‹_›) (fun b40 => ?_)
   refine ZbI 2 0 (enc := avC) rfl rfl ‹_› rfl rfl (Zdt ‹_›) (by omega) (fun _ => rfl) (fun v41 es41 hO41 => ?_) (Ze0 _)
   refine gR 5 rfl (ZaK rfl rfl (Zax (by omega) (by omega)) (gR 2 rfl ?_))
   exact Zar (i + 1, _, _) ⟨by dsimp only;omega, by dsimp only;rw [hst];assumption⟩ (by dsimp only;omega) (fun a F => F.only [30, 29, 28, 3, 1] rfl) (sX 17179869180 rfl)
  ·have hil2 : i = s.ins.length := by omega
   rw [hil2, List.take_length] at hOs
   refine gR 6 rfl (Zav rfl (dqF (by omega)) (gR 2 rfl (ZaZ (gR 5 rfl (Zsr 0 (fun _ e' => OwnS 100 37 u (annL s).length (avsC (annV s)) e') rfl rfl rfl (fun _ => rfl) (fun w r M => Cal.mono (ZpD (annL s) (annV s) hsL hnd hasc (fun z => (Ze1 s).mem_iff) (by unfold annL;rw [List.length_append, List.length_map, List.length_map];omega) M hOs (.app .here)) fun u w' h => h) ?_)))))
   intro u' e' hO'
   rw [← (Ze1 s).length_eq] at hO'
   exact gR 9 rfl (Zab rfl rfl rfl fun w M => ⟨_, hO', M.sub (List.sublist_append_left _ _)⟩)
theorem Zj9 (s : RtV) (x : RtX) (hs : IsRt s) (W : World) (h : RtAt W s x) : Cal Tryz.prog 41 [.agg (rtC s x).toArray].toArray W fun r w' => ∃ ent, OwnS 100 37 r (ZdD s).length (avsC (ZdD s)) ent ∧ Mem [] W w' ent := by
 obtain ⟨v6, v7, v8, v9, v10, v11, v12⟩ := x
 obtain ⟨a6, a7, a8, a9, a10, a11, a12⟩ := id h
 dsimp only at a6 a7 a8 a9 a10 a11 a12
 obtain ⟨q6, c6, rfl, _⟩ := id a6
 obtain ⟨q7, c7, rfl, _⟩ := id a7
 obtain ⟨q8, c8, rfl, _⟩ := id a8
 obtain ⟨q9, c9, rfl, _⟩ := id a9
 obtain ⟨q10, c10, rfl, _⟩ := id a10
 obtain ⟨q11, c11, rfl, _⟩ := id a11
 obtain ⟨q12, c12, rfl, _⟩ := id a12
 refine Zao (n := 8) (S := []) Zal Zak Tryz.func41 rfl rfl rfl (gR 2 rfl (ZaA rfl rfl fun b1 => gR 6 rfl (Zah 0 rfl rfl rfl ?_)))
 refine Zad (v := .bool (ZaR s)) rfl rfl (fun w M => Zij s _ hs w (h.later M.ext)) ?_
 unfold ZdD
 cases hv : ZaR s
 ·refine gR 11 rfl ?_
  exact Zab rfl rfl rfl fun w M => ⟨[], OwnS.nil _ _, Mem.nil M.ext⟩
 rw [if_pos rfl]
 refine gR 8 rfl (Zah 0 rfl rfl rfl ?_)
 refine Zct (ι := Value × List (Nat × Obj)) (fun j => j.1) (fun j => OwnS 100 37 j.1 (annV s).length (avsC (annV s)) j.2) (fun j => [j.2]) rfl rfl (fun w M => Cal.mono (Zj8 s _ hs hv w (h.later M.ext)) fun r w' hh => by
  obtain ⟨ent, e1, e2⟩ := hh
  exact ⟨(r, ent), rfl, e1, by simpa using e2⟩) ?_
 rintro ⟨r, ent⟩ hO
 dsimp only at hO ⊢
 exact gR 4 rfl (Zab rfl rfl rfl fun w M => ⟨ent, hO, M.sub (List.sublist_append_left _ _)⟩)
theorem ZjS (s : RtV) (x : RtX) (hs : IsRt s) (W : World) (h : RtAt W s x) : Cal Tryz.prog 42 [.agg (rtC s x).toArray].toArray W fun r w' => ∃ ent, OwnS 100 37 r (ZdD s).length (avsC (ZdD s)) ent ∧ Mem [] W w' ent := by
 obtain ⟨v6, v7, v8, v9, v10, v11, v12⟩ := x
 obtain ⟨a6, a7, a8, a9, a10, a11, a12⟩ := id h
 dsimp only at a6 a7 a8 a9 a10 a11 a12
 obtain ⟨q6, c6, rfl, _⟩ := id a6
 obtain ⟨q7, c7, rfl, _⟩ := id a7
 obtain ⟨q8, c8, rfl, _⟩ := id a8
 obtain ⟨q9, c9, rfl, _⟩ := id a9
 obtain ⟨q10, c10, rfl, _⟩ := id a10
 obtain ⟨q11, c11, rfl, _⟩ := id a11
 obtain ⟨q12, c12, rfl, _⟩ := id a12
 refine Zao (n := 8) (S := []) Zal Zak Tryz.func42 rfl rfl rfl (gR 2 rfl (ZaA rfl rfl fun b1 => gR 6 rfl (Zah 0 rfl rfl rfl ?_)))
 refine Zad (v := .bool (ZaR s)) rfl rfl (fun w M => ZgC s _ hs w (h.later M.ext)) ?_
 unfold ZdD
 cases hv : ZaR s
 ·refine gR 11 rfl ?_
  exact Zab rfl rfl rfl fun w M => ⟨[], OwnS.nil _ _, Mem.nil M.ext⟩
 rw [if_pos rfl]
 refine gR 8 rfl (Zah 0 rfl rfl rfl ?_)
 refine Zct (ι := Value × List (Nat × Obj)) (fun j => j.1) (fun j => OwnS 100 37 j.1 (annV s).length (avsC (annV s)) j.2) (fun j => [j.2]) rfl rfl (fun w M => Cal.mono (ZjR s _ hs (ZcB.1 (ZeH hv).1).1 (ZcW.1 (ZeH hv).2.1).1 w (h.later M.ext)) fun r w' hh => by
  obtain ⟨ent, e1, e2⟩ := hh
  exact ⟨(r, ent), rfl, e1, by simpa using e2⟩) ?_
 rintro ⟨r, ent⟩ hO
 dsimp only at hO ⊢
 exact gR 4 rfl (Zab rfl rfl rfl fun w M => ⟨ent, hO, M.sub (List.sublist_append_left _ _)⟩)
def rt0 : RtV := ⟨0, 0, 0, 0, 0, 0, 0, [], [], [], [], [], [], []⟩
def rx0 : RtX := ⟨.slice none 0 0, .slice none 0 0, .slice none 0 0, .slice none 0 0, .slice none 0 0, .slice none 0 0, .slice none 0 0⟩
def rxU (u : Value) : RtX := ⟨u, .slice none 0 0, .slice none 0 0, .slice none 0 0, .slice none 0 0, .slice none 0 0, .slice none 0 0⟩
def PhSt (r : Value) (W w' : World) : Prop := ∃ (s : RtV) (u : Value) (c : Int) (ent : List (Nat × Obj)), r = .tuple #[.agg (rtC s (rxU u)).toArray, .int .i64 c] ∧ OwnS 85 34 u s.og.length (ogsC s.og) ent ∧ (∀ y ∈ s.og, IsOg y) ∧ s.og.length ≤ 8 ∧ Mem [] W w' ent
theorem PhSt.zero {c : Int} {W w : World} (E : Ext [] W w) : PhSt (.tuple #[.agg (rtC rt0 rx0).toArray, .int .i64 c]) W w := ⟨rt0, .slice none 0 0, c, [], rfl, OwnS.nil _ _, fun y hy => (List.not_mem_nil hy).elim, by simp [rt0], Mem.nil E⟩
theorem ZfS {t : Int} (h : Za5 t = true) : 0 ≤ t ∧ t ≤ 1099511627776 := by
 unfold Za5 at h
 simpa using h
theorem ZbS {e : TypeId} {sz : Nat} {v : Value} {n : Nat} {cs : List Value} {ent : List (Nat × Obj)} (h : OwnS e sz v n cs ent) : ∃ q c, v = .slice q n c ∧ (0 < n → ∃ b j, q = some ⟨b, 0, none⟩ ∧ ent = [(b, .cells (cs ++ j).toArray e (0, 0))]) := by
 rcases h with ⟨hv, h0, -, -⟩ | ⟨b, c, j, hv, he, -⟩
 ·exact ⟨none, 0, by rw [hv, h0], fun h => by omega⟩
 ·exact ⟨_, c, hv, fun _ => ⟨b, j, rfl, he⟩⟩
theorem Zbn {α : Type} {p : α → Prop} {l : List α} {x : α} (h : ∀ y ∈ l, p y) (hx : p x) : ∀ y ∈ l ++ [x], p y := fun y hy => by
 rcases List.mem_append.1 hy with h1 | h1
 ·exact h y h1
 ·rw [List.mem_singleton.1 h1];exact hx
theorem Zmw (self now : Int) (l : List OrgV) (hx : ∀ x ∈ l, IsOg x) (hl : l.length ≤ 100) (v : Value) (W : World) (hS : SlAt W 34 v l.length (ogsC l)) : Cal Tryz.prog 32 [.int .u64 self, .int .i64 now, v].toArray W fun r w' => PhSt r W w' := by
 obtain ⟨q, cap, rfl, _⟩ := id hS
 have hm := hS.memB [] (by simp)
 refine Zao (n := 95) (S := []) Zal Zak Tryz.func32 rfl rfl rfl (gR 2 rfl (Zat fun b6 => gR 10 rfl (g_if rfl (fun h1 => ?_) (fun h1 => ?_))))
 ·replace h1 := dqU h1
  refine gR 2 rfl (g_v (fun a w F M R r => Zaw F rfl rfl r) ?_)
  refine Zas 0 rfl rfl rfl rfl rfl rfl rfl ?_
  exact gR 5 rfl (Zby 0 rfl rfl rfl rfl rfl rfl fun w M => PhSt.zero M.ext)
 replace h1 := dqV h1
 refine gR 11 rfl (Za1 (ι := Nat) ⟨fun (i : Nat) => l.length - i, fun (i : Nat) => i ≤ l.length ∧ (True), fun (i : Nat) => [(23, .int .i64 i), (22, .int .i64 l.length), (21, .slice q l.length cap), (0, .int .u64 self), (1, .int .i64 now), (2, .slice q l.length cap), (6, .pointer (some ⟨b6, 0, none⟩))], fun (i : Nat) => [[(b6, .cells (rtC rt0 rx0).toArray 53 (0, 0))]]⟩ 0 ⟨by omega, trivial⟩ (fun a F => F.only [23, 22, 21, 0, 1, 2, 6] rfl) (sX 17179869183 rfl) ?_)
 rintro i ⟨hi_i, hdm⟩
 by_cases hlt_i : i < l.length
 ·obtain ⟨b, o, cs, t', fz, rfl, hb, hs⟩ := hm (by omega)
  obtain ⟨x, hx0⟩ : ∃ x, x = l[i] := ⟨_, rfl⟩
  have hxm : x ∈ l := by rw [hx0];exact List.getElem_mem hlt_i
  have hxi : IsOg x := hx _ hxm
  have f1 : seg cs (o + (i : Int).toNat * 34) 34 = some (ogC x) := by rw [hx0];exact Za0 (ZdK hx) hs hlt_i (by omega)
  have xd : IsDv (orgD self x) := hxi
  refine gR 6 rfl (ZaE rfl (dqT (by omega)) (gR 6 rfl (Zbk rfl rfl (by omega) (by omega) (ZbF rfl ‹_› (by with_reducible assumption) ?_))))
  refine Zat fun b9 => Zas 0 rfl rfl (Zbl ‹_›) (ZcT _) rfl (Zag (by rw [Zbl ‹_›];first | rfl | rw [Zbl ‹_›])) rfl ?_
  refine gR 5 rfl (Zah 0 rfl rfl (Zdr ‹_›) ?_)
  refine Zad rfl rfl (fun w M => Zex _ _ ‹_› _) ?_
  refine Zad rfl rfl (fun w M => Zbg _ ‹_› _) ?_
  refine gR 3 rfl (g_if rfl (fun h1 => ?_) (fun h1 => ?_))
  ·replace h1 := Zaa h1
   refine gR 2 rfl (g_v (fun a w F M R r => Zaw F rfl rfl r) ?_)
   refine Zas 1 rfl rfl rfl rfl rfl rfl rfl ?_
   exact gR 6 rfl (ZaM (gR 2 rfl (Zby 1 rfl rfl rfl rfl rfl rfl fun w M => PhSt.zero M.ext)))
  ·replace h1 := Zac h1
   exact gR 4 rfl (ZaK rfl rfl (Zax (by omega) (by omega)) (gR 2 rfl (Zar (i + 1) ⟨by omega, trivial⟩ (by dsimp only;omega) (fun a F => F.only [23, 22, 21, 0, 1, 2, 6] rfl) (sX 17179869182 rfl))))
 ·refine gR 6 rfl ?_
  refine Zav rfl (dqF (by omega)) (gR 2 rfl (ZaZ (gR 6 rfl (Zad rfl rfl (fun w M => Zbd _ _) (gR 3 rfl (g_if rfl (fun h1 => ?_) (fun h1 => ?_)))))))
  ·replace h1 := Zaa h1
   refine gR 2 rfl (g_v (fun a w F M R r => Zaw F rfl rfl r) ?_)
   refine Zas 0 rfl rfl rfl rfl rfl rfl rfl ?_
   exact gR 5 rfl (Zby 0 rfl rfl rfl rfl rfl rfl fun w M => PhSt.zero M.ext)
  replace h1 := Zac h1
  refine gR 16 rfl (ZcO (Za1 (ι := Nat × (List OrgV) × Value × (List (Nat × Obj))) ⟨fun (i, out, u, es) => l.length - i, fun (i, out, u, es) => i ≤ l.length ∧ (OwnS 85 34 u out.length (ogsC out) es) ∧ (∀ y ∈ out, IsOg y) ∧ (out.length ≤ i), fun (i, out, u, es) => [(40, .int .i64 i), (39, .int .i64 l.length), (38, .slice q l.length cap), (10, u), (0, .int .u64 self), (1, .int .i64 now), (2, .slice q l.length cap), (6, .pointer (some ⟨b6, 0, none⟩))], fun (i, out, u, es) => [es, [(b6, .cells (rtC rt0 rx0).toArray 53 (0, 0))]]⟩ (0, [], _, []) ⟨by omega, OwnS.nilL _ _ _, fun y hy => (List.not_mem_nil hy).elim, by simp⟩ (fun a F => F.only [40, 39, 38, 10, 0, 1, 2, 6] rfl) (sX 17179869183 rfl) ?_))
  rintro ⟨i, out, u, es⟩ ⟨hi_i, hOs, hI, hol⟩
  dsimp only
  by_cases hlt_i : i < l.length
  ·obtain ⟨b, o, cs, t', fz, rfl, hb, hs⟩ := hm (by omega)
   obtain ⟨x, hx0⟩ : ∃ x, x = l[i] := ⟨_, rfl⟩
   have hxm : x ∈ l := by rw [hx0];exact List.getElem_mem hlt_i
   have hxi : IsOg x := hx _ hxm
   have f1 : seg cs (o + (i : Int).toNat * 34) 34 = some (ogC x) := by rw [hx0];exact Za0 (ZdK hx) hs hlt_i (by omega)
   have xd : IsDv (orgD self x) := hxi
   obtain ⟨q4, c4, rfl, hq4⟩ := ZbS hOs
   refine gR 6 rfl (ZaE rfl (dqT (by omega)) (gR 6 rfl (Zbk rfl rfl (by omega) (by omega) (ZbF rfl ‹_› (by with_reducible assumption) ?_))))
   refine Zat fun b12 => Zas 0 rfl rfl (Zbl ‹_›) (ZcT _) rfl (Zag (by rw [Zbl ‹_›];first | rfl | rw [Zbl ‹_›])) rfl ?_
   refine gR 21 rfl (ZcO ?_)
   refine Za1 (ι := Nat × Bool × (List OrgV) × Value × (List (Nat × Obj))) ⟨fun (c, d, o2, u2, e2) => out.length - c, fun (c, d, o2, u2, e2) => c ≤ out.length ∧ OwnS 85 34 u2 o2.length (ogsC o2) e2 ∧ (∀ y ∈ o2, IsOg y) ∧ o2.length ≤ c + d.toNat, fun (c, d, o2, u2, e2) => [(46, .int .i64 c), (45, .int .i64 out.length), (44, .slice q4 out.length c4), (14, .bool d), (13, u2), (12, .pointer (some ⟨b12, 0, none⟩)), (40, .int .i64 i), (39, .int .i64 l.length), (38, .slice (some ⟨b, o, none⟩) l.length cap), (10, .slice q4 out.length c4), (0, .int .u64 self), (1, .int .i64 now), (2, .slice (some ⟨b, o, none⟩) l.length cap), (6, .pointer (some ⟨b6, 0, none⟩))], fun (c, d, o2, u2, e2) => [e2, [(b12, .cells (ogC x).toArray 85 (0, 0))], es, [(b6, .cells (rtC rt0 rx0).toArray 53 (0, 0))]]⟩ (0, false, [], _, []) ⟨by first | omega | (dsimp only;omega), OwnS.nilL _ _ _, fun y hy => (List.not_mem_nil hy).elim, by simp⟩ (fun a F => F.only [46, 45, 44, 14, 13, 12, 40, 39, 38, 10, 0, 1, 2, 6] rfl) (sX 17179869183 rfl) ?_
   rintro ⟨c, d, o2, u2, e2⟩ ⟨hc, hO2, hI2, hol2⟩
   dsimp only at hc hO2 hI2 hol2 ⊢
   by_cases hlc : c < out.length
   ·obtain ⟨bq, jq, rfl, rfl⟩ := hq4 (by omega)
    obtain ⟨y, hy0⟩ : ∃ y, out[c] = y := ⟨_, rfl⟩
    have yI : IsOg y := by rw [← hy0];exact hI _ (List.getElem_mem _)
    have yd : IsDv (orgD self y) := yI
    have f4 : seg (ogsC out ++ jq) (0 + (c : Int).toNat * 34) 34 = some (ogC y) := by rw [← hy0];exact ZfM (fun z hz => Zbl (hI z hz)) jq hlc (by omega)
    have hol3 : o2.length ≤ c + 1 := by cases d <;> simp at hol2 <;> omega
    have hi100 : c + 1 ≤ 100 := by omega
    have hol4 : (o2 ++ [x]).length = o2.length + 1 := by simp
    have hol0 : d = false → o2.length ≤ c := fun h => by rw [h] at hol2;simpa using hol2
    refine gR 6 rfl (ZaE rfl (dqT (by omega)) (gR 6 rfl (Zbk rfl rfl (by omega) (by omega) (Zah 2 rfl rfl (by with_reducible assumption) ?_))))
    refine Zat fun b16 => Zas 0 rfl rfl (Zbl ‹_›) (ZcT _) rfl (Zag (by rw [Zbl ‹_›];first | rfl | rw [Zbl ‹_›])) rfl ?_
    refine gR 3 rfl (ZaG 8 95 rfl (by kernel_rfl) (fR 1 rfl (ZaN 0 rfl rfl (Zdr ‹_›) ?_)))
    refine ZaH rfl rfl (fun w M => Zex _ _ ‹_› _) ?_
    refine fR 1 rfl (ZaN 2 rfl rfl (Zdr ‹_›) ?_)
    refine ZaH rfl rfl (fun w M => Zex _ _ ‹_› _) ?_
    refine ZaH rfl rfl (fun w M => Zbt _ _ ‹_› ‹_› _) ?_
    refine fR 1 rfl (Zap rfl rfl (gR 8 rfl (Zan 59 rfl (fun h1 => ?_) (fun h1 => ?_))))
    ·replace h1 := dqU h1
     refine gR 5 rfl (g_if rfl (fun h2 => ?_) (fun h2 => ?_))
     ·replace h2 := Zaa h2
      refine gR 3 rfl (Zah 2 rfl rfl (Zdr ‹_›) ?_)
      refine g_bs rfl rfl rfl (ZdL ‹_›) (fun b65 => ?_)
      refine ZbI 2 0 (enc := ogC) rfl rfl ‹_› rfl rfl (Zbl ‹_›) (by omega) (fun _ => rfl) (fun v66 es66 hO66 => ?_) (ZcT _)
      refine gR 13 rfl (g_if rfl (fun h3 => ?_) (fun h3 => ?_))
      ·replace h3 := ZbE h3
       refine gR 2 rfl (Zah 1 rfl rfl (Zdr ‹_›) ?_)
       refine g_bs rfl rfl rfl (ZdL ‹_›) (fun b71 => ?_)
       refine ZbI 3 0 (enc := ogC) rfl rfl ‹_› rfl rfl (Zbl ‹_›) (by omega) (fun _ => rfl) (fun v72 es72 hO72 => ?_) (ZcT _)
       refine gR 5 rfl (ZaK rfl rfl (Zax (by omega) (by omega)) (gR 2 rfl ?_))
       exact Zar (c + 1, true, (o2 ++ [x]) ++ [y], _, _) ⟨by dsimp only;omega, by assumption, Zbn (Zbn hI2 hxi) yI, by first | (simp;omega) | (have := hol0 ‹_›;simp;omega)⟩ (by dsimp only;omega) (fun a F => F.only [46, 45, 44, 14, 13, 12, 40, 39, 38, 10, 0, 1, 2, 6] rfl) (sX 17179869176 rfl)
      ·replace h3 := ZaV h3
       refine gR 4 rfl (ZaK rfl rfl (Zax (by omega) (by omega)) (gR 2 rfl ?_))
       exact Zar (c + 1, true, o2 ++ [x], _, _) ⟨by dsimp only;omega, by assumption, Zbn hI2 hxi, by first | (simp;omega) | (have := hol0 ‹_›;simp;omega)⟩ (by dsimp only;omega) (fun a F => F.only [46, 45, 44, 14, 13, 12, 40, 39, 38, 10, 0, 1, 2, 6] rfl) (sX 17179869180 rfl)
     ·replace h2 := Zac h2
      refine gR 8 rfl (g_if rfl (fun h3 => ?_) (fun h3 => ?_))
      ·replace h3 := ZbE h3
       refine gR 2 rfl (Zah 0 rfl rfl (Zdr ‹_›) ?_)
       refine g_bs rfl rfl rfl (ZdL ‹_›) (fun b71 => ?_)
       refine ZbI 2 0 (enc := ogC) rfl rfl ‹_› rfl rfl (Zbl ‹_›) (by omega) (fun _ => rfl) (fun v72 es72 hO72 => ?_) (ZcT _)
       refine gR 5 rfl (ZaK rfl rfl (Zax (by omega) (by omega)) (gR 2 rfl ?_))
       exact Zar (c + 1, d, o2 ++ [y], _, _) ⟨by dsimp only;omega, by assumption, Zbn hI2 yI, by first | (simp;omega) | (have := hol0 ‹_›;simp;omega)⟩ (by dsimp only;omega) (fun a F => F.only [46, 45, 44, 14, 13, 12, 40, 39, 38, 10, 0, 1, 2, 6] rfl) (sX 17179869180 rfl)
      ·replace h3 := ZaV h3
       refine gR 4 rfl (ZaK rfl rfl (Zax (by omega) (by omega)) (gR 2 rfl ?_))
       exact Zar (c + 1, d, o2, _, _) ⟨by dsimp only;omega, by assumption, hI2, by first | (simp;omega) | (have := hol0 ‹_›;simp;omega)⟩ (by dsimp only;omega) (fun a F => F.only [46, 45, 44, 14, 13, 12, 40, 39, 38, 10, 0, 1, 2, 6] rfl) (sX 17179869182 rfl)
    ·replace h1 := dqV h1
     refine gR 14 rfl (ZaE rfl (bne_iff_ne.2 (by omega)) (gR 2 rfl (Zah 0 rfl rfl (Zdr ‹_›) ?_)))
     refine g_bs rfl rfl rfl (ZdL ‹_›) (fun b71 => ?_)
     refine ZbI 2 0 (enc := ogC) rfl rfl ‹_› rfl rfl (Zbl ‹_›) (by omega) (fun _ => rfl) (fun v72 es72 hO72 => ?_) (ZcT _)
     refine gR 5 rfl (ZaK rfl rfl (Zax (by omega) (by omega)) (gR 2 rfl ?_))
     exact Zar (c + 1, d, o2 ++ [y], _, _) ⟨by dsimp only;omega, by assumption, Zbn hI2 yI, by first | (simp;omega) | (have := hol0 ‹_›;simp;omega)⟩ (by dsimp only;omega) (fun a F => F.only [46, 45, 44, 14, 13, 12, 40, 39, 38, 10, 0, 1, 2, 6] rfl) (sX 17179869180 rfl)
   ·have hlq : c = out.length := by omega
    have hol0 : d = false → o2.length ≤ c := fun h => by rw [h] at hol2;simpa using hol2
    have hol3 : o2.length ≤ c + 1 := by cases d <;> simp at hol2 <;> omega
    refine gR 6 rfl (Zav rfl (dqF (by omega)) (gR 2 rfl (ZaZ (gR 9 rfl (g_if rfl (fun h1 => ?_) (fun h1 => ?_))))))
    ·replace h1 := Zaa h1
     refine gR 2 rfl (Zah 1 rfl rfl (Zdr ‹_›) ?_)
     refine g_bs rfl rfl rfl (ZdL ‹_›) (fun b78 => ?_)
     refine ZbI 1 0 (enc := ogC) rfl rfl ‹_› rfl rfl (Zbl ‹_›) (by omega) (fun _ => rfl) (fun v79 es79 hO79 => ?_) (ZcT _)
     refine gR 10 rfl (ZaK rfl rfl (Zax (by omega) (by omega)) (gR 2 rfl ?_))
     exact Zar (i + 1, o2 ++ [x], _, _) ⟨by dsimp only;omega, by assumption, Zbn hI2 hxi, by first | (simp;omega) | (have := hol0 ‹_›;simp;omega)⟩ (by dsimp only;omega) (fun a F => F.only [40, 39, 38, 10, 0, 1, 2, 6] rfl) (by (try dsimp only);repeat (first | exact .refl _ | with_reducible exact sC0 _ | with_reducible apply sC2 | apply sC1))
    ·replace h1 := Zac h1
     refine gR 9 rfl (ZaK rfl rfl (Zax (by omega) (by omega)) (gR 2 rfl ?_))
     exact Zar (i + 1, o2, _, _) ⟨by dsimp only;omega, by assumption, hI2, by first | (simp;omega) | (have := hol0 ‹_›;simp;omega)⟩ (by dsimp only;omega) (fun a F => F.only [40, 39, 38, 10, 0, 1, 2, 6] rfl) (by (try dsimp only);repeat (first | exact .refl _ | with_reducible exact sC0 _ | with_reducible apply sC2 | apply sC1))
  ·obtain ⟨hn0, hn1⟩ := ZfS h1
   obtain ⟨q4, c4, rfl, hq4⟩ := ZbS hOs
   refine gR 6 rfl (Zav rfl (dqF (by omega)) (gR 2 rfl (ZaZ (gR 10 rfl (g_if rfl (fun h1 => ?_) (fun h1 => ?_))))))
   ·replace h1 := dqU h1
    refine gR 2 rfl (g_v (fun a w F M R r => Zaw F rfl rfl r) ?_)
    refine Zas 1 rfl rfl rfl rfl rfl rfl rfl ?_
    exact gR 5 rfl (Zby 1 rfl rfl rfl rfl rfl rfl fun w M => PhSt.zero M.ext)
   ·replace h1 := dqV h1
    refine gR 7 rfl (Zad rfl rfl (fun w M => ZgU _ _ ‹_› ‹_› (by omega) (by omega) _) ?_)
    refine gR 3 rfl (g_v (fun a w F M R r => Zaw F rfl rfl r) (g_v (fun a w F M R r => Zaw F rfl rfl r) ?_))
    refine Zas 1 rfl rfl rfl rfl rfl rfl rfl ?_
    refine gR 4 rfl (Zby 1 rfl rfl rfl rfl rfl rfl fun w M => ?_)
    exact ⟨⟨self, 0, now, _, 0, now, now, out, [], [], [], [], [], []⟩, _, _, es, rfl, hOs, hI, by first | omega | (dsimp only;omega), M.sub (List.sublist_append_left _ _)⟩
def Zd1 (l : List SrcV) (now : Int) (t : DstV) : Option DisV := if ZdB l && Za5 now then ZuA l now t else none
def ZqU (x y : DisV) : Int := if Zj5 x.seq y.seq || (decide (x.seq = y.seq) && decide (x.met < y.met)) then -1 else if x = y then 0 else 1
theorem Zfu (x : Int) : Zj5 x x = false := by
 unfold Zj5
 rw [Int.sub_self]
 rfl
theorem Znb (d : Int) : 0 ≤ IntKind.u16.wrap d ∧ IntKind.u16.wrap d ≤ 65535 := by
 have h : IntKind.u16.wrap d = d % 65536 := rfl
 omega
theorem ZsR {d : Int} (h0 : 0 ≤ d) (h1 : d ≤ 65535) : ZbK .and .i64 d 65535 = d := by
 obtain ⟨n, rfl⟩ := Int.eq_ofNat_of_zero_le h0
 have hn : n < 65536 := by omega
 simp only [ZbK]
 rw [Zi6 _ (by omega), Zi6 _ (by omega), BitVec.toNat_and, BitVec.toNat_ofNat, BitVec.toNat_ofNat]
 have hb : IntKind.i64.bits = 64 := rfl
 simp only [Int.toNat_natCast, hb]
 rw [Nat.mod_eq_of_lt (by omega), show (65535 : Int).toNat % 2 ^ 64 = 2 ^ 16 - 1 from rfl, Nat.and_two_pow_sub_one_eq_mod, Nat.mod_eq_of_lt (by omega)]
 exact Zax (by omega) (by omega)
theorem ZlB (x y : Int) (W : World) : Cal Tryz.prog 231 [.int .u16 x, .int .u16 y].toArray W fun v w' => v = .bool (Zj5 x y) ∧ Ext [] W w' := by
 obtain ⟨d, hd⟩ : ∃ d, d = IntKind.u16.wrap (x - y) := ⟨_, rfl⟩
 have hb := Znb (x - y)
 have hn : Zj5 x y = ((decide (1 ≤ d) && decide (d < 32768)) || (decide (d = 32768) && decide (y < x))) := by rw [hd];rfl
 rw [hn]
 rw [← hd] at hb
 have ha := ZsR hb.1 hb.2
 refine ZbU (n := 26) [] Tryz.func231 rfl rfl rfl ?_
 intro a w F M hwW
 refine ZaB (Zaf ?_)
 refine sD F (Zau (F.e rfl) ?_);clear F a;intro a F
 with_reducible refine ZaF (Zam (ZaB (Zaf ?_)))
 refine sD F (Zaq (F.e rfl) fun a F => sD F (Zaq (F.e rfl) fun a F => sD F (Zi7 (F.e rfl) (F.e rfl) rfl ?_)));iterate 3 clear F a
 intro a F
 rw [← hd] at F
 refine sD F (Zey (F.e rfl) (Zax (by omega) (by omega)) fun a F => sD F (Zqa (F.e rfl) (F.e rfl) rfl ?_));iterate 2 clear F a
 intro a F
 rw [ha] at F
 clear hd hn ha
 refine sD F (Zau (F.e rfl) ?_);clear F a;intro a F
 with_reducible refine ZaF (Zam (ZaB (Zaf ?_)))
 refine sD F (Zaq (F.e rfl) fun a F => sD F (ZnW (F.e rfl) (F.e rfl) fun a F => sD F (Zaq (F.e rfl) ?_)));iterate 3 clear F a
 intro a F
 refine Zlk F 13 rfl (fun h1 => ?_) (fun h1 => ?_)
 ·rw [h1] at F;replace h1 := dqU h1
  refine sG F (Zaq (F.e rfl) fun a F => sG F (ZkV (F.e rfl) (F.e rfl) fun a F => sD F (Zfs (F.e rfl) (F.e rfl) fun a F => sD F (Zaq (F.e rfl) ?_))));iterate 4 clear F a
  intro a F
  refine Zlk F 17 rfl (fun h2 => ?_) (fun h2 => ?_)
  ·rw [h2] at F;replace h2 := dqU h2
   refine sO F fun a F => sO F fun a F => sO F fun a F => sO F fun a F => sO F fun a F => sO F fun a F => sO F fun a F => sD F (Zfs (F.e rfl) (F.e rfl) fun a F => sD F (Zau (F.e rfl) ?_));iterate 9 clear F a
   intro a F
   with_reducible refine ZaF (Zam (Zb6 ?_))
   refine Zb3 F rfl (.cons (.tmp (F.e rfl)) .nil) ?_;(try dsimp only [ZcA])
   exact ⟨by simp [*], M.ext⟩
  ·rw [h2] at F;replace h2 := dqV h2
   refine sG F (Zaq (F.e rfl) fun a F => sG F (ZmG (F.e rfl) (F.e rfl) fun a F => sG F (Zaq (F.e rfl) ?_)));iterate 3 clear F a
   intro a F
   refine Zlk F 20 rfl (fun h3 => ?_) (fun h3 => ?_)
   ·rw [h3] at F;replace h3 := dqU h3
    refine sG F (Zaq (F.e rfl) fun a F => sG F (Zaq (F.e rfl) fun a F => sG F (ZnV (F.e rfl) (F.e rfl) fun a F => sG F (Zfs (F.e rfl) (F.e rfl) fun a F => sD F (ZdX (F.e rfl) (F.e rfl) fun a F => sD F (Zau (F.e rfl) ?_))))));iterate 6 clear F a
    intro a F
    with_reducible refine ZaF (Zam (Zb6 ?_))
    refine Zb3 F rfl (.cons (.tmp (F.e rfl)) .nil) ?_;(try dsimp only [ZcA])
    exact ⟨by simp [*], M.ext⟩
   ·rw [h3] at F;replace h3 := dqV h3
    refine sO F fun a F => sO F fun a F => sO F fun a F => sG F (ZdX (F.e rfl) (F.e rfl) fun a F => sD F (ZdX (F.e rfl) (F.e rfl) fun a F => sD F (Zau (F.e rfl) ?_)));iterate 6 clear F a
    intro a F
    with_reducible refine ZaF (Zam (Zb6 ?_))
    refine Zb3 F rfl (.cons (.tmp (F.e rfl)) .nil) ?_;(try dsimp only [ZcA])
    exact ⟨by simp [*], M.ext⟩
 ·rw [h1] at F;replace h1 := dqV h1
  refine sO F fun a F => sO F fun a F => sD F (ZdX (F.e rfl) (F.e rfl) fun a F => sD F (Zaq (F.e rfl) fun a F => sG F (Zaq (F.e rfl) fun a F => sG F (Zrl (F.e rfl) (F.e rfl) (by omega) fun a F => sG F (Zaq (F.e rfl) fun a F => sO F fun a F => sO F fun a F => sO F fun a F => sG F (ZdX (F.e rfl) (F.e rfl) fun a F => sD F (ZdX (F.e rfl) (F.e rfl) fun a F => sD F (Zau (F.e rfl) ?_))))))));iterate 13 clear F a
  intro a F
  with_reducible refine ZaF (Zam (Zb6 ?_))
  refine Zb3 F rfl (.cons (.tmp (F.e rfl)) .nil) ?_;(try dsimp only [ZcA])
  exact ⟨by simp [*];omega, M.ext⟩
theorem ZpI (x y : DisV) (W : World) : Cal Tryz.prog 169 [.agg (diC x).toArray, .agg (diC y).toArray].toArray W fun v w' => v = .int .i64 (ZqU x y) ∧ Ext [] W w' := by
 unfold ZqU
 refine Zao (n := 27) (S := []) Zal Zak Tryz.func169 rfl rfl rfl (gR 2 rfl (ZaA rfl rfl fun b2 => ZaA rfl rfl fun b3 => gR 7 rfl (Zai 1 rfl rfl (Zma trivial) (gR 1 rfl (Zai 0 rfl rfl (Zma trivial) (Zad rfl rfl (fun w M => ZlB _ _ _) (gR 1 rfl (Zan 10 rfl (fun h1 => ?_) (fun h1 => ?_)))))))))
 ·exact gR 23 rfl (Zab rfl rfl rfl fun w M => ⟨by simp [*], M.ext⟩)
 ·refine gR 1 rfl (Zai 1 rfl rfl (Zma trivial) (gR 1 rfl (Zai 0 rfl rfl (Zma trivial) (gR 2 rfl (Zan 16 rfl (fun h2 => ?_) (fun h2 => ?_))))))
  ·replace h2 := dqU h2
   refine gR 1 rfl (Zai 1 rfl rfl (Zez trivial) (gR 1 rfl (Zai 0 rfl rfl (Zez trivial) (gR 5 rfl (g_if rfl (fun h3 => ?_) (fun h3 => ?_))))))
   ·replace h3 := dqU h3
    exact gR 7 rfl (Zab rfl rfl rfl fun w M => ⟨by simp [*], M.ext⟩)
   ·replace h3 := dqV h3
    refine gR 5 rfl (Zah 1 rfl rfl (Zcl trivial) (Zah 0 rfl rfl (Zcl trivial) (Zjh rfl rfl (Zjq trivial) (Zjq trivial) (ZtZ trivial trivial) (gR 2 rfl (g_if rfl (fun h4 => ?_) (fun h4 => ?_))))))
    ·replace h4 := dqU h4
     exact gR 7 rfl (Zab rfl rfl rfl fun w M => ⟨by simp [*, Zfu], M.ext⟩)
    ·replace h4 := dqV h4
     exact gR 8 rfl (Zab rfl rfl rfl fun w M => ⟨by simp [*, Zfu], M.ext⟩)
  ·replace h2 := dqV h2
   refine gR 15 rfl (Zah 1 rfl rfl (Zcl trivial) (Zah 0 rfl rfl (Zcl trivial) (Zjh rfl rfl (Zjq trivial) (Zjq trivial) (ZtZ trivial trivial) (gR 2 rfl (g_if rfl (fun h3 => ?_) (fun h3 => ?_))))))
   ·replace h3 := dqU h3
    exact gR 7 rfl (Zab rfl rfl rfl fun w M => ⟨by simp [*, Zfu], M.ext⟩)
   ·replace h3 := dqV h3
    exact gR 8 rfl (Zab rfl rfl rfl fun w M => ⟨by simp [*], M.ext⟩)
theorem ZpM (x y : DisV) (W : World) : Cal Tryz.prog 229 [.agg (diC x).toArray, .agg (diC y).toArray].toArray W fun v w' => v = .agg (diC (if ZqU x y = -1 then x else y)).toArray ∧ Ext [] W w' := by
 refine Zao (n := 11) (S := []) Zal Zak Tryz.func229 rfl rfl rfl (gR 2 rfl (ZaA rfl rfl fun b2 => ZaA rfl rfl fun b3 => Zat fun b4 => gR 5 rfl (Zah 2 rfl rfl (Zcl trivial) (Zah 1 rfl rfl (Zcl trivial) (Zad rfl rfl (fun w M => ZpI _ _ _) (gR 3 rfl (g_if rfl (fun h1 => ?_) (fun h1 => ?_))))))))
 ·replace h1 := dqU h1
  refine gR 2 rfl (Zah 2 rfl rfl (Zcl trivial) (Zas 0 rfl rfl (Zdd trivial) (ZiM _) rfl (Zag (by rw [Zdd trivial];first | rfl | rw [Zdd ‹_›])) rfl ?_))
  exact gR 4 rfl (ZbB 0 rfl rfl rfl rfl (Zcl trivial) fun w M => ⟨by simp [*], M.ext⟩)
 ·replace h1 := dqV h1
  refine gR 4 rfl (Zah 1 rfl rfl (Zcl trivial) (Zas 0 rfl rfl (Zdd trivial) (ZiM _) rfl (Zag (by rw [Zdd trivial];first | rfl | rw [Zdd ‹_›])) rfl ?_))
  exact gR 3 rfl (ZbB 0 rfl rfl rfl rfl (Zcl trivial) fun w M => ⟨by simp [*], M.ext⟩)
theorem ZrX (l : List SrcV) (hx : ∀ x ∈ l, IsSr x) (v : Value) (now : Int) (t : DstV) (ht : IsDv t) (W : World) (hS : SlAt W 38 v l.length (srsC l)) :
  Cal Tryz.prog 75 [v, .int .i64 now, .agg (dvC t).toArray].toArray W fun r w' => r = .tuple [diV ((Zd1 l now t).getD di0), .bool (Zd1 l now t).isSome].toArray ∧ Ext [] W w' := by
 obtain ⟨q, cap, rfl, _⟩ := id hS
 have hm := hS.memB [] (by simp)
 have c1 : ∀ w, Zd1 l now t = none → Ext [] W w → Value.tuple [.agg [.int .u16 0, .int .i64 0].toArray, .bool false].toArray = .tuple [diV ((Zd1 l now t).getD di0), .bool (Zd1 l now t).isSome].toArray ∧ Ext [] W w := fun w h E => by
  rw [h]
  exact ⟨rfl, E⟩
 have c2 : ∀ w d, Zd1 l now t = some d → Ext [] W w → Value.tuple [.agg (diC d).toArray, .bool true].toArray = .tuple [diV ((Zd1 l now t).getD di0), .bool (Zd1 l now t).isSome].toArray ∧ Ext [] W w := fun w d h E => by
  rw [h]
  exact ⟨rfl, E⟩
 refine Zao (n := 39) (S := []) Zal Zak Tryz.func75 rfl rfl rfl (gR 2 rfl (ZaA rfl rfl fun b5 => Zat fun b6 => gR 7 rfl (Zad rfl rfl (fun w M => ZdG _ ‹_› _ _ ((by assumption : SlAt _ _ _ _ _).later M.ext)) ?_)))
 refine gR 2 rfl (Zan 13 rfl (fun h1 => ?_) (fun h1 => ?_))
 ·replace h1 := Zaa h1
  refine gR 9 rfl (g_v (fun a w F M R r => Zaw F rfl rfl r) ?_)
  refine Zas 0 rfl rfl rfl rfl rfl rfl rfl ?_
  exact gR 5 rfl (Zby 0 rfl rfl rfl rfl rfl rfl fun w M => c1 _ (by unfold Zd1;simp [*]) M.ext)
 replace h1 := Zac h1
 refine gR 1 rfl (Zad rfl rfl (fun w M => Zbd _ _) (gR 4 rfl (g_if rfl (fun h2 => ?_) (fun h2 => ?_))))
 ·replace h2 := Zaa h2
  refine gR 2 rfl (g_v (fun a w F M R r => Zaw F rfl rfl r) ?_)
  refine Zas 0 rfl rfl rfl rfl rfl rfl rfl ?_
  exact gR 5 rfl (Zby 0 rfl rfl rfl rfl rfl rfl fun w M => c1 _ (by unfold Zd1;simp [*]) M.ext)
 replace h2 := Zac h2
 refine gR 11 rfl ?_
 obtain ⟨hl256, _, _⟩ := Zha.1 h1
 obtain ⟨R, hR⟩ : ∃ R, (l.drop 0).find? (hitS now t) = R := ⟨_, rfl⟩
 have hV : Zd1 l now t = R.map (·.bst) := by rw [← hR];unfold Zd1;rw [h1, h2];rfl
 refine Za1 (ι := Nat) ⟨fun (i : Nat) => l.length - i, fun (i : Nat) => i ≤ l.length ∧ ((l.drop i).find? (hitS now t) = R), fun (i : Nat) => [(21, .int .i64 i), (20, .int .i64 l.length), (19, .slice q l.length cap), (1, .int .i64 now), (5, .pointer (some ⟨b5, 0, none⟩)), (6, .pointer (some ⟨b6, 0, none⟩))], fun (i : Nat) => [[(b6, .cells [Value.int .u16 0, .int .i64 0].toArray 72 (0, 0))], [(b5, .cells (dvC t).toArray 67 (0, 0))]]⟩ 0 ⟨by omega, hR⟩ (fun a F => F.only [21, 20, 19, 1, 5, 6] rfl) (sX 17179869183 rfl) ?_
 rintro i ⟨hi_i, hf⟩
 by_cases hlt_i : i < l.length
 ·obtain ⟨b, o, cs, t', fz, rfl, hb, hs⟩ := hm (by omega)
  obtain ⟨y, hy0⟩ : ∃ y, y = l[i] := ⟨_, rfl⟩
  have hym : y ∈ l := by rw [hy0];exact List.getElem_mem hlt_i
  have hyi : IsSr y := hx _ hym
  have f1 : seg cs (o + (i : Int).toNat * 38) 38 = some (srC y) := by rw [hy0];exact Za0 (Zgd hx) hs hlt_i (by omega)
  rw [← List.getElem_cons_drop hlt_i, ← hy0] at hf
  clear hy0
  rw [List.find?_cons] at hf
  refine gR 6 rfl (ZaE rfl (dqT (by omega)) (gR 6 rfl (Zbk rfl rfl (by omega) (by omega) (ZbF rfl ‹_› (by with_reducible assumption) ?_))))
  refine Zat fun b9 => Zas 0 rfl rfl (ZcK ‹_›) (Zfh _) rfl (Zag (by rw [ZcK ‹_›];first | rfl | rw [ZcK ‹_›])) rfl ?_
  refine gR 5 rfl (Zah 0 rfl rfl (ZjF ‹_›) ?_)
  refine Zah 2 rfl rfl (ZaO ‹_›) ?_
  refine Zjh rfl rfl (Zep (And.left ‹_›)) (Zep ‹_›) (ZoS (And.left ‹_›) ‹_›) ?_
  refine gR 1 rfl (Zan 29 rfl (fun h1 => ?_) (fun h1 => ?_))
  ·replace h1 := dqU h1
   refine gR 1 rfl (Zai 0 rfl rfl (Zno ‹_›) ?_)
   refine gR 5 rfl (g_if rfl (fun h2 => ?_) (fun h2 => ?_))
   ·replace h2 := dqU h2
    refine gR 3 rfl (Zah 0 rfl rfl (Znp ‹_›) ?_)
    refine Zas 1 rfl rfl (Zdd trivial) (ZiM _) rfl (Zag (by rw [Zdd trivial];first | rfl | rw [Zdd ‹_›])) rfl ?_
    exact gR 6 rfl (ZaM (gR 2 rfl (Zby 1 rfl rfl rfl rfl (Zcl trivial) rfl fun w M => c2 _ _ (by rw [hV, ← hf];simp [hitS, *]) M.ext)))
   ·replace h2 := dqV h2
    refine gR 4 rfl (ZaK rfl rfl (Zax (by omega) (by omega)) (gR 2 rfl ?_))
    exact Zar (i + 1) ⟨by omega, by rw [← hf];simp [hitS, *]⟩ (by dsimp only;omega) (fun a F => F.only [21, 20, 19, 1, 5, 6] rfl) (by repeat (first | exact .refl _ | apply sC1))
  ·replace h1 := dqV h1
   refine gR 12 rfl (ZaK rfl rfl (Zax (by omega) (by omega)) (gR 2 rfl ?_))
   exact Zar (i + 1) ⟨by omega, by rw [← hf];simp [hitS, *]⟩ (by dsimp only;omega) (fun a F => F.only [21, 20, 19, 1, 5, 6] rfl) (by repeat (first | exact .refl _ | apply sC1))
 ·obtain rfl : i = l.length := by omega
  rw [List.drop_length] at hf
  refine gR 6 rfl (Zav rfl (dqF (by omega)) (gR 2 rfl (ZaZ (gR 4 rfl (g_v (fun a w F M R r => Zaw F rfl rfl r) ?_)))))
  refine Zas 0 rfl rfl rfl rfl rfl rfl rfl ?_
  exact gR 4 rfl (Zby 0 rfl rfl rfl rfl rfl rfl fun w M => c1 _ (by rw [hV, ← hf];rfl) M.ext)
end Go.Proofs.YtfhkmgcalcfibaaGreat
namespace Go.Proofs.YtfhkmgcalcfibaaGreat
open Go.RowKit
section
variable {c : Cx} {Q : Exit → Act → World → Prop} {ks : List KF} {fr : List (Nat × Value)} {l l' : Row} {all : Array Oper} {rest : List Oper} {d : Nat} {ty : TypeId} {pos : String} {af : Array Edge} {g : Option (Nat × Bool)}
theorem ZgI (i : Nat) {st xt e : TypeId} {x y : Operand} {sz by_ n m : Nat} {v xv : Value} {xs ys : List Value} {ent : List (Nat × Obj)} {f : List (Nat × Obj) → Row} [hst : TU c.P st (.slice e)] [hel : TEl c.P e sz by_] [hxt : TNI c.P xt]
  (hx : Ev fr x = some v) (hy : Ev fr y = some xv) (hO : OwnS e sz v n xs ent) (hi : nthO l i = some ent) (hX : ∀ w, Mem c.S c.W w l.flatten → Zdo c.P w xv m sz ys) (hbd : (n + m) * by_ ≤ 140737488355328) (hln : n + m ≤ 9223372036854775807)
  (hf : ∀ e', setO l i e' = some (f e')) (hk : ∀ v' ent', OwnS e sz v' (n + m) (xs ++ ys) ent' → G c Q ks (.ops all rest) ((d, v') :: fr) (f ent')) (hd : Nat.blt d c.n = true := by rfl) (hg : gOk all fr g = some true := by rfl) :
  G c Q ks (.ops all (⟨some d, .call ⟨.builtin .append, #[x, y], #[st, xt]⟩, ty, pos, af, g⟩ :: rest)) fr l := by
 refine g_op rfl hd hg fun a w F M => ?_
 obtain ⟨r, p1, _⟩ := ZcN hi (hf ent)
 have hp : ∀ e', (f e').flatten.Perm (e' ++ r) := fun e' => by
  obtain ⟨r', q1, q2⟩ := ZcN hi (hf e')
  exact q2.trans (List.Perm.append_left _ ((List.perm_append_left_iff ent).1 (q1.symm.trans p1)))
 refine ZlM (f := fun e' => r ++ e') hO (M.perm (p1.trans List.perm_append_comm)) ?_ (F.e hx) (F.e hy) (hX w M) hbd hln (fun v' ent' w' hO' M' => ?_)
 ·exact .app .here
 ·exact fun a' F' => hk v' ent' hO' a' w' F' (M'.perm (List.perm_append_comm.trans (hp ent').symm))
end
attribute [local irreducible] OpTo wpListIn Code.wpIn MW Cal
theorem Ztg (t : DstV) (h : IsDv t) (a b c d e : Int) : Za2 [(0, 35), (35, 1), (36, 1), (37, 1), (38, 1), (39, 1)] rqZ [(0, dvC t), (1, [.int .u16 a]), (2, [.int .i64 b]), (3, [.int .u64 c]), (4, [.int .i64 d]), (5, [.int .i64 e])] = some (rqC ⟨t, a, b, c, d, e⟩) := ZpJ (o := ⟨t, a, b, c, d, e⟩) h
def PhRq (r : Value) (W w' : World) : Prop := ∃ (u : Value) (m : List ReqV) (d : Bool) (c : Int) (ent : List (Nat × Obj)), r = .tuple #[u, .bool d, .int .i64 c] ∧ OwnS 171 40 u m.length (rqsC m) ent ∧ (∀ y ∈ m, IsRq y) ∧ m.length ≤ 64 ∧ Mem [] W w' ent
theorem PhRq.zero {c : Int} {W w : World} (E : Ext [] W w) : PhRq (.tuple #[.slice none 0 0, .bool false, .int .i64 c]) W w := ⟨_, [], false, c, [], rfl, OwnS.nil _ _, fun y hy => (List.not_mem_nil hy).elim, by simp, Mem.nil E⟩
theorem ZpN (l : List ReqV) (hx : ∀ x ∈ l, IsRq x) (v : Value) (now : Int) (to : DstV) (td : IsDv to) (seq hops frm : Int) (W : World) (hS : SlAt W 40 v l.length (rqsC l)) : Cal Tryz.prog 146 [v, .int .i64 now, .agg (dvC to).toArray, .int .u16 seq, .int .i64 hops, .int .u64 frm].toArray W fun r w' => PhRq r W w' := by
 obtain ⟨q, cap, rfl, _⟩ := id hS
 have hm := hS.memB [] (by simp)
 have nwI : IsRq ⟨to, seq, hops, frm, Zcx now 3, 3⟩ := td
 refine Zao (n := 95) (S := []) Zal Zak Tryz.func146 rfl rfl rfl ?_
 cases hv : Zdu l
 ·refine gR 2 rfl ?_
  refine ZaA rfl rfl fun b8 => gR 9 rfl (Zad rfl rfl (fun w M => Zei _ ‹_› _ _ ((by assumption : SlAt _ _ _ _ _).later M.ext)) ?_)
  refine gR 2 rfl (ZaQ 24 rfl (notT ‹_›) ?_)
  refine gR 16 rfl ?_
  refine Zff rfl rfl (fun a w F M => (.cons (.tmp (F.e rfl)) (.cons (.tmp (F.e rfl)) (.cons (.tmp (F.e rfl)) .nil)))) ?_;intro w M;(try dsimp only [ZcA])
  exact PhRq.zero M.ext
 have hl64 : l.length ≤ 64 := by
  unfold Zdu vldL at hv
  simp at hv
  omega
 cases ht : Za5 now
 ·refine gR 2 rfl ?_
  refine ZaA rfl rfl fun b8 => gR 9 rfl (Zad rfl rfl (fun w M => Zei _ ‹_› _ _ ((by assumption : SlAt _ _ _ _ _).later M.ext)) ?_)
  refine gR 2 rfl (ZaQ 24 rfl (notF ‹_›) ?_)
  refine Zah 0 rfl rfl (ZaO ‹_›) ?_
  refine Zad rfl rfl (fun w M => Zbg _ ‹_› _) ?_
  refine gR 4 rfl (g_if rfl (fun h1 => ?_) (fun h1 => ?_))
  ·replace h1 := Zaa h1
   refine gR 9 rfl ?_
   refine Zff rfl rfl (fun a w F M => (.cons (.tmp (F.e rfl)) (.cons (.tmp (F.e rfl)) (.cons (.tmp (F.e rfl)) .nil)))) ?_;intro w M;(try dsimp only [ZcA])
   exact PhRq.zero M.ext
  ·replace h1 := Zac h1
   refine gR 6 rfl (Zad rfl rfl (fun w M => Zbd _ _) (gR 2 rfl (ZaQ 32 rfl (notT ‹_›) ?_)))
   refine gR 19 rfl ?_
   refine Zff rfl rfl (fun a w F M => (.cons (.tmp (F.e rfl)) (.cons (.tmp (F.e rfl)) (.cons (.tmp (F.e rfl)) .nil)))) ?_;intro w M;(try dsimp only [ZcA])
   exact PhRq.zero M.ext
 obtain ⟨hn0, hn1⟩ := ZfS ht
 refine gR 2 rfl (ZaA rfl rfl fun b8 => gR 9 rfl (Zad rfl rfl (fun w M => Zei _ ‹_› _ _ ((by assumption : SlAt _ _ _ _ _).later M.ext)) ?_))
 refine gR 2 rfl (ZaQ 24 rfl (notF ‹_›) ?_)
 refine Zah 0 rfl rfl (ZaO ‹_›) ?_
 refine Zad rfl rfl (fun w M => Zbg _ ‹_› _) ?_
 refine gR 4 rfl (g_if rfl (fun h1 => ?_) (fun h1 => ?_))
 ·replace h1 := Zaa h1
  refine gR 9 rfl ?_
  refine Zff rfl rfl (fun a w F M => (.cons (.tmp (F.e rfl)) (.cons (.tmp (F.e rfl)) (.cons (.tmp (F.e rfl)) .nil)))) ?_;intro w M;(try dsimp only [ZcA])
  exact PhRq.zero M.ext
 replace h1 := Zac h1
 refine gR 6 rfl (Zad rfl rfl (fun w M => Zbd _ _) (gR 2 rfl (ZaQ 32 rfl (notF ‹_›) ?_)))
 refine gR 4 rfl (Zan 36 rfl (fun h2 => ?_) (fun h2 => ?_))
 ·replace h2 := dqU h2
  refine gR 15 rfl ?_
  refine Zff rfl rfl (fun a w F M => (.cons (.tmp (F.e rfl)) (.cons (.tmp (F.e rfl)) (.cons (.tmp (F.e rfl)) .nil)))) ?_;intro w M;(try dsimp only [ZcA])
  exact PhRq.zero M.ext
 replace h2 := dqV h2
 refine gR 5 rfl (g_if rfl (fun h3 => ?_) (fun h3 => ?_))
 ·replace h3 := dqU h3
  refine gR 9 rfl ?_
  refine Zff rfl rfl (fun a w F M => (.cons (.tmp (F.e rfl)) (.cons (.tmp (F.e rfl)) (.cons (.tmp (F.e rfl)) .nil)))) ?_;intro w M;(try dsimp only [ZcA])
  exact PhRq.zero M.ext
 replace h3 := dqV h3
 refine gR 3 rfl (ZaG 8 95 rfl (by kernel_rfl) (ZaN 0 rfl rfl (ZaO ‹_›) ?_))
 refine fR 4 rfl (ZaH rfl rfl (fun w M => ZgU _ _ ‹_› ‹_› (by omega) (by omega) _) ?_)
 refine fd_v (fun a w F M R r => Zaw F rfl (Ztg _ ‹_› _ _ _ _ _) r) ?_
 refine Zsy fun b15 => Zas 0 rfl rfl (ZcC ‹_›) (ZeJ _) rfl (Zag (by rw [ZcC ‹_›];first | rfl | rw [ZcC ‹_›])) rfl ?_
 refine gR 21 rfl (ZcO ?_)
 refine Za1 (ι := Nat × Bool × (List ReqV) × Value × (List (Nat × Obj))) ⟨fun (i, d, out, u, es) => l.length - i, fun (i, d, out, u, es) => i ≤ l.length ∧ (OwnS 171 40 u out.length (rqsC out) es) ∧ (∀ y ∈ out, IsRq y) ∧ (out.length ≤ i + d.toNat), fun (i, d, out, u, es) => [(49, .int .i64 i), (48, .int .i64 l.length), (47, .slice q l.length cap), (16, u), (17, .bool d), (8, .pointer (some ⟨b8, 0, none⟩)), (3, .int .u16 seq), (0, .slice q l.length cap), (15, .pointer (some ⟨b15, 0, none⟩))], fun (i, d, out, u, es) => [es, [(b15, .cells (rqC ⟨to, seq, hops, frm, Zcx now 3, 3⟩).toArray 171 (0, 0))], [(b8, .cells (dvC to).toArray 67 (0, 0))]]⟩ (0, false, [], _, []) ⟨by omega, OwnS.nilL _ _ _, fun y hy => (List.not_mem_nil hy).elim, by simp⟩ (fun a F => F.only [49, 48, 47, 16, 17, 8, 3, 0, 15] rfl) (sX 17179869183 rfl) ?_
 rintro ⟨i, d, out, u, es⟩ ⟨hi_i, hOs, hI, hol⟩
 dsimp only
 by_cases hlt_i : i < l.length
 ·obtain ⟨b, o, cs, t', fz, rfl, hb, hs⟩ := hm (by omega)
  obtain ⟨x, hx0⟩ : ∃ x, x = l[i] := ⟨_, rfl⟩
  have hxm : x ∈ l := by rw [hx0];exact List.getElem_mem hlt_i
  have hxi : IsRq x := hx _ hxm
  have f1 : seg cs (o + (i : Int).toNat * 40) 40 = some (rqC x) := by rw [hx0];exact Za0 (ZeI hx) hs hlt_i (by omega)
  have xd : IsDv x.to := hxi
  have hol3 : out.length ≤ i + 1 := by cases d <;> simp at hol <;> omega
  have hol4 : (out ++ [(⟨to, seq, hops, frm, Zcx now 3, 3⟩ : ReqV)]).length = out.length + 1 := by simp
  have hol0 : d = false → out.length ≤ i := fun h => by rw [h] at hol;simpa using hol
  refine gR 6 rfl (ZaE rfl (dqT (by omega)) (gR 6 rfl (Zbk rfl rfl (by omega) (by omega) (ZbF rfl ‹_› (by with_reducible assumption) ?_))))
  refine Zat fun b19 => Zas 0 rfl rfl (ZcC ‹_›) (ZeJ _) rfl (Zag (by rw [ZcC ‹_›];first | rfl | rw [ZcC ‹_›])) rfl ?_
  refine gR 5 rfl (Zah 0 rfl rfl (ZkC ‹_›) ?_)
  refine Zah 3 rfl rfl (ZaO ‹_›) ?_
  refine Zad rfl rfl (fun w M => Zbt _ _ ‹_› ‹_› _) ?_
  refine gR 9 rfl (Zan 59 rfl (fun h1 => ?_) (fun h1 => ?_))
  focus
   replace h1 := dqU h1
   refine gR 2 rfl (Zai 0 rfl rfl (Ztf ‹_›) ?_)
   refine Zad rfl rfl (fun w M => ZlB _ _ _) (gR 4 rfl (g_if rfl (fun h2 => ?_) (fun h2 => ?_)))
   focus
    replace h2 := Zaa h2
    refine gR 3 rfl ?_
   rotate_left 1
   focus
    replace h2 := Zac h2
    refine gR 8 rfl (ZaQ 70 rfl (dqT (by omega)) (gR 5 rfl (g_if rfl (fun h3 => ?_) (fun h3 => ?_))))
    ·replace h3 := Zaa h3
     refine gR 3 rfl (Zah 2 rfl rfl (Zil ‹_›) ?_)
     refine g_bs rfl rfl rfl (Zd0 ‹_›) (fun b76 => ?_)
     refine ZbI 2 0 (enc := rqC) rfl rfl ‹_› rfl rfl (ZcC ‹_›) (by omega) (fun _ => rfl) (fun v77 es77 hO77 => ?_) (ZeJ _)
     refine gR 13 rfl (Zav rfl (bneF (by omega)) (gR 4 rfl (ZaK rfl rfl (Zax (by omega) (by omega)) (gR 2 rfl ?_))))
     exact Zar (i + 1, true, out ++ [⟨to, seq, hops, frm, Zcx now 3, 3⟩], _, _) ⟨by dsimp only;omega, by assumption, Zbn hI nwI, by first | (simp;omega) | (have := hol0 ‹_›;simp;omega)⟩ (by dsimp only;omega) (fun a F => F.only [49, 48, 47, 16, 17, 8, 3, 0, 15] rfl) (sX 17179869180 rfl)
    ·replace h3 := Zac h3
     refine gR 8 rfl (Zav rfl (bneF (by omega)) (gR 4 rfl (ZaK rfl rfl (Zax (by omega) (by omega)) (gR 2 rfl ?_))))
     exact Zar (i + 1, d, out, _, _) ⟨by dsimp only;omega, by assumption, hI, by first | (simp;omega) | (have := hol0 ‹_›;simp;omega)⟩ (by dsimp only;omega) (fun a F => F.only [49, 48, 47, 16, 17, 8, 3, 0, 15] rfl) (sX 17179869182 rfl)
  rotate_left 1
  focus
   replace h1 := dqV h1
   refine gR 17 rfl (Zan 70 rfl (fun h2 => ?_) (fun h2 => ?_))
   ·replace h2 := dqU h2
    refine gR 5 rfl (g_if rfl (fun h3 => ?_) (fun h3 => ?_))
    ·replace h3 := Zaa h3
     refine gR 3 rfl (Zah 2 rfl rfl (Zil ‹_›) ?_)
     refine g_bs rfl rfl rfl (Zd0 ‹_›) (fun b76 => ?_)
     refine ZbI 2 0 (enc := rqC) rfl rfl ‹_› rfl rfl (ZcC ‹_›) (by omega) (fun _ => rfl) (fun v77 es77 hO77 => ?_) (ZeJ _)
     refine gR 13 rfl (ZaE rfl (bne_iff_ne.2 (by omega)) (gR 2 rfl (Zah 1 rfl rfl (Zil ‹_›) ?_)))
     refine g_bs rfl rfl rfl (Zd0 ‹_›) (fun b82 => ?_)
     refine ZbI 3 0 (enc := rqC) rfl rfl ‹_› rfl rfl (ZcC ‹_›) (by omega) (fun _ => rfl) (fun v83 es83 hO83 => ?_) (ZeJ _)
     refine gR 5 rfl (ZaK rfl rfl (Zax (by omega) (by omega)) (gR 2 rfl ?_))
     exact Zar (i + 1, true, (out ++ [⟨to, seq, hops, frm, Zcx now 3, 3⟩]) ++ [x], _, _) ⟨by dsimp only;omega, by assumption, Zbn (Zbn hI nwI) hxi, by first | (simp;omega) | (have := hol0 ‹_›;simp;omega)⟩ (by dsimp only;omega) (fun a F => F.only [49, 48, 47, 16, 17, 8, 3, 0, 15] rfl) (sX 17179869176 rfl)
    ·replace h3 := Zac h3
     refine gR 8 rfl (ZaE rfl (bne_iff_ne.2 (by omega)) (gR 2 rfl (Zah 0 rfl rfl (Zil ‹_›) ?_)))
     refine g_bs rfl rfl rfl (Zd0 ‹_›) (fun b82 => ?_)
     refine ZbI 2 0 (enc := rqC) rfl rfl ‹_› rfl rfl (ZcC ‹_›) (by omega) (fun _ => rfl) (fun v83 es83 hO83 => ?_) (ZeJ _)
     refine gR 5 rfl (ZaK rfl rfl (Zax (by omega) (by omega)) (gR 2 rfl ?_))
     exact Zar (i + 1, d, out ++ [x], _, _) ⟨by dsimp only;omega, by assumption, Zbn hI hxi, by first | (simp;omega) | (have := hol0 ‹_›;simp;omega)⟩ (by dsimp only;omega) (fun a F => F.only [49, 48, 47, 16, 17, 8, 3, 0, 15] rfl) (sX 17179869180 rfl)
   ·replace h2 := dqV h2
    refine gR 14 rfl (ZaE rfl (bne_iff_ne.2 (by omega)) (gR 2 rfl (Zah 0 rfl rfl (Zil ‹_›) ?_)))
    refine g_bs rfl rfl rfl (Zd0 ‹_›) (fun b82 => ?_)
    refine ZbI 2 0 (enc := rqC) rfl rfl ‹_› rfl rfl (ZcC ‹_›) (by omega) (fun _ => rfl) (fun v83 es83 hO83 => ?_) (ZeJ _)
    refine gR 5 rfl (ZaK rfl rfl (Zax (by omega) (by omega)) (gR 2 rfl ?_))
    exact Zar (i + 1, d, out ++ [x], _, _) ⟨by dsimp only;omega, by assumption, Zbn hI hxi, by first | (simp;omega) | (have := hol0 ‹_›;simp;omega)⟩ (by dsimp only;omega) (fun a F => F.only [49, 48, 47, 16, 17, 8, 3, 0, 15] rfl) (sX 17179869180 rfl)
  refine ZcO (ZgI 0 rfl rfl (OwnS.nil _ _) rfl (fun w M => (hS.later M.ext).src Znx) (by omega) (by omega) (fun _ => rfl) ?_)
  intro v' e' hO'
  refine gR 9 rfl (ZaM (gR 2 rfl ?_))
  refine Zff rfl rfl (fun a w F M => (.cons (.tmp (F.e rfl)) (.cons (.tmp (F.e rfl)) (.cons (.tmp (F.e rfl)) .nil)))) ?_;intro w M;(try dsimp only [ZcA])
  exact ⟨v', l, false, 0, e', rfl, by simpa using hO', hx, by omega, M.sub (List.sublist_append_left _ _)⟩
 ·have hli : i = l.length := by omega
  have hol3 : out.length ≤ i + 1 := by cases d <;> simp at hol <;> omega
  obtain ⟨q4, c4, rfl, hq4⟩ := ZbS hOs
  refine gR 6 rfl (Zav rfl (dqF (by omega)) (gR 2 rfl (ZaZ (gR 9 rfl (g_if rfl (fun h1 => ?_) (fun h1 => ?_))))))
  ·replace h1 := Zaa h1
   refine gR 2 rfl (Zah 1 rfl rfl (Zil ‹_›) ?_)
   refine g_bs rfl rfl rfl (Zd0 ‹_›) (fun b89 => ?_)
   refine ZbI 1 0 (enc := rqC) rfl rfl ‹_› rfl rfl (ZcC ‹_›) (by omega) (fun _ => rfl) (fun v90 es90 hO90 => ?_) (ZeJ _)
   refine gR 7 rfl (Zsp rfl ‹_› ?_)
   refine gR 3 rfl (g_if rfl (fun h2 => ?_) (fun h2 => ?_))
   ·replace h2 := dqU h2
    refine gR 9 rfl ?_
    refine Zff rfl rfl (fun a w F M => (.cons (.tmp (F.e rfl)) (.cons (.tmp (F.e rfl)) (.cons (.tmp (F.e rfl)) .nil)))) ?_;intro w M;(try dsimp only [ZcA])
    exact PhRq.zero M.ext
   ·replace h2 := dqV h2
    refine gR 11 rfl ?_
    refine Zff rfl rfl (fun a w F M => (.cons (.tmp (F.e rfl)) (.cons (.tmp (F.e rfl)) (.cons (.tmp (F.e rfl)) .nil)))) ?_;intro w M;(try dsimp only [ZcA])
    exact ⟨_, out ++ [⟨to, seq, hops, frm, Zcx now 3, 3⟩], true, 0, _, rfl, by assumption, Zbn hI nwI, by omega, M.sub (List.sublist_flatten_of_mem (by simp))⟩
  ·replace h1 := Zac h1
   refine gR 10 rfl (g_if rfl (fun h2 => ?_) (fun h2 => ?_))
   ·replace h2 := dqU h2
    refine gR 9 rfl ?_
    refine Zff rfl rfl (fun a w F M => (.cons (.tmp (F.e rfl)) (.cons (.tmp (F.e rfl)) (.cons (.tmp (F.e rfl)) .nil)))) ?_;intro w M;(try dsimp only [ZcA])
    exact PhRq.zero M.ext
   ·replace h2 := dqV h2
    refine gR 11 rfl ?_
    refine Zff rfl rfl (fun a w F M => (.cons (.tmp (F.e rfl)) (.cons (.tmp (F.e rfl)) (.cons (.tmp (F.e rfl)) .nil)))) ?_;intro w M;(try dsimp only [ZcA])
    exact ⟨_, out, true, 0, _, rfl, by assumption, hI, by omega, M.sub (List.sublist_flatten_of_mem (by simp))⟩
end Go.Proofs.YtfhkmgcalcfibaaGreat
namespace Go.Proofs.YtfhkmgcalcfibaaGreat
open Go.RowKit
attribute [local irreducible] OpTo wpListIn Code.wpIn MW Cal
theorem Ztt (x : DstV) (h : IsDv x) : Za2 [(0, 17), (17, 17)] ogZ [(0, pfC x.dip x.dbits), (1, pfC x.sip x.sbits)] = some (ogC ⟨x.dip, x.dbits, x.sip, x.sbits⟩) := ZpY (o := ⟨x.dip, x.dbits, x.sip, x.sbits⟩) h
theorem ZoK {bt : Nat} {p : Option Addr} {len cap k : Nat} {xs : List Int} (W : World) (hT : ZcG W bt p len xs) (hb : W.heap[bt]? = some (tobj p len cap k)) : Cal Tryz.prog 25 [.pointer (some ⟨bt, 0, none⟩)].toArray W fun r w' => ∃ x k', r = .int .u64 x ∧ Mem [bt] W w' [(bt, tobj p len cap k')] := by
 have n5 := Zbm xs k (n := 5) (by omega)
 exact Zcp (n := 7) [bt] hb (by simp) Zal Zak Tryz.func25 rfl rfl rfl (gR 8 rfl (ZaS 0 rfl rfl rfl (fun w M => Zba _ (by omega) (by omega) w (hT.later M.ext) (M.at_ _ (Zae (i := 0) rfl))) rfl (ZaK rfl rfl (Zax (by omega) (by omega)) (ZfU rfl (ZgM (by omega) (by omega)) (gR 4 rfl (Zab rfl rfl rfl fun w M => ⟨_, _, rfl, M⟩))))))
theorem ZsO {bt : Nat} {p : Option Addr} {len cap k : Nat} {xs : List Int} (W : World) (hT : ZcG W bt p len xs) (hb : W.heap[bt]? = some (tobj p len cap k)) : Cal Tryz.prog 20 [.pointer (some ⟨bt, 0, none⟩)].toArray W fun r w' => ∃ x k', r = .int .i64 x ∧ (0 ≤ x ∧ x ≤ 1099511627776) ∧ Mem [bt] W w' [(bt, tobj p len cap k')] := by
 have n1 := Zbm xs k (n := 6) (by omega)
 have n2 := Zbm xs (nxK xs k) (n := 5) (by omega)
 have n3 := Zbm xs (nxK xs k) (n := 40) (by omega)
 have n4 := Zbm xs (nxK xs k) (n := 1000) (by omega)
 refine Zcp (n := 16) [bt] hb (by simp) Zal Zak Tryz.func20 rfl rfl rfl (gR 9 rfl (ZaS 0 rfl rfl rfl (fun w M => Zba _ (by omega) (by omega) w (hT.later M.ext) (M.at_ _ (Zae (i := 0) rfl))) rfl (gR 9 rfl (g_if rfl (fun h1 => ?_) (fun h1 => ?_)))))
 ·replace h1 := dqU h1
  exact gR 3 rfl (ZaS 0 rfl rfl rfl (fun w M => Zba _ (by omega) (by omega) w (hT.later M.ext) (M.at_ _ (Zae (i := 0) rfl))) rfl (gR 6 rfl (Zab rfl rfl rfl fun w M => ⟨_, _, rfl, by omega, M⟩)))
 ·replace h1 := dqV h1
  refine gR 6 rfl (g_if rfl (fun h2 => ?_) (fun h2 => ?_))
  ·replace h2 := dqU h2
   exact gR 3 rfl (ZaS 0 rfl rfl rfl (fun w M => Zba _ (by omega) (by omega) w (hT.later M.ext) (M.at_ _ (Zae (i := 0) rfl))) rfl (ZeX rfl rfl (Zax (by omega) (by omega)) (gR 6 rfl (Zab rfl rfl rfl fun w M => ⟨_, _, rfl, by omega, M⟩))))
  ·replace h2 := dqV h2
   exact gR 6 rfl (ZaS 0 rfl rfl rfl (fun w M => Zba _ (by omega) (by omega) w (hT.later M.ext) (M.at_ _ (Zae (i := 0) rfl))) rfl (gR 4 rfl (Zab rfl rfl rfl fun w M => ⟨_, _, rfl, by omega, M⟩)))
theorem ZmA {bt : Nat} {p : Option Addr} {len cap k : Nat} {xs : List Int} (self now : Int) (W : World) (hT : ZcG W bt p len xs) (hb : W.heap[bt]? = some (tobj p len cap k)) : Cal Tryz.prog 58 [.pointer (some ⟨bt, 0, none⟩), .int .u64 self, .int .i64 now].toArray W fun r w' => ∃ (m : List OrgV) (k' : Nat) (ent : List (Nat × Obj)), OwnS 85 34 r m.length (ogsC m) ent ∧ (∀ y ∈ m, IsOg y) ∧ m.length ≤ 8 ∧ Mem [bt] W w' ((bt, tobj p len cap k') :: ent) := by
 have n3 := Zbm xs k (n := 3) (by omega)
 refine Zcp (n := 37) [bt] hb (by simp) Zal Zak Tryz.func58 rfl rfl rfl (gR 14 rfl (ZaS 0 rfl rfl rfl (fun w M => Zba _ (by omega) (by omega) w (hT.later M.ext) (M.at_ _ (Zae (i := 0) rfl))) rfl (gR 4 rfl (ZcO ?_))))
 refine Za1 (ι := Int × (List OrgV) × Value × (List (Nat × Obj)) × Nat) ⟨fun (d, out, u, es, k) => d.toNat, fun (d, out, u, es, k) => d ≤ 3 ∧ OwnS 85 34 u out.length (ogsC out) es ∧ (∀ y ∈ out, IsOg y) ∧ (out.length : Int) + d ≤ 3 ∧ 0 ≤ d, fun (d, out, u, es, k) => [(8, .int .i64 d), (7, u), (0, .pointer (some ⟨bt, 0, none⟩)), (1, .int .u64 self), (2, .int .i64 now)], fun (d, out, u, es, k) => [es, [(bt, tobj p len cap k)]]⟩ (_, [], _, [], _) ⟨by first | omega | (dsimp only;omega), OwnS.nilL _ _ _, fun y hy => (List.not_mem_nil hy).elim, by first | (simp;omega) | (dsimp only;simp;omega), by first | omega | (dsimp only;omega)⟩ (fun a F => F.only [8, 7, 0, 1, 2] rfl) (sX 17179869183 rfl) ?_
 clear n3
 rintro ⟨d, out, u, es, k⟩ ⟨hd, hOs, hI, hol, hd0⟩
 dsimp only at hd hOs hI hol hd0 ⊢
 by_cases hlt : 0 < d
 ·refine gR 7 rfl ?_
  refine ZaE rfl (dqT (by omega)) (gR 7 rfl ?_)
  refine Za8 (ι := DstV × Nat) 1 (fun j => dvV j.1) (fun j => IsDv j.1) (fun j => tobj p len cap j.2) (fun _ => []) rfl rfl rfl (fun w M => Cal.mono (Zmn w (hT.later M.ext) (M.at_ _ (Zae (i := 1) rfl))) fun r w' h => by
    obtain ⟨x, k', q, h1, _, N⟩ := h
    exact ⟨(x, k'), q, h1, by simpa using N⟩) (fun _ => rfl) ?_
  rintro ⟨x, k1⟩ xd
  dsimp only [List.nil_append] at xd ⊢
  unfold dvV
  have hol3 : out.length ≤ 2 := by omega
  have xo : IsOg (⟨x.dip, x.dbits, x.sip, x.sbits⟩ : OrgV) := xd
  refine Zat fun b9 => Zas 0 rfl rfl (Zaz ‹_›) (Zbq _) rfl (Zag (by rw [Zaz ‹_›];first | rfl | rw [Zaz ‹_›])) rfl ?_
  refine gR 5 rfl (Zah 0 rfl rfl (Zb9 ‹_›) ?_)
  refine gR 1 rfl (Zah 0 rfl rfl (ZcP ‹_›) ?_)
  refine g_v (fun a w F M R r => Zaw F rfl (Ztt _ ‹_›) r) ?_
  refine g_bs rfl rfl rfl (ZdL ‹_›) (fun b26 => ?_)
  refine ZbI 2 0 (enc := ogC) rfl rfl ‹_› rfl rfl (Zbl ‹_›) (by omega) (fun _ => rfl) (fun v27 es27 hO27 => ?_) (ZcT _)
  refine gR 6 rfl (ZeX rfl rfl (Zax (by omega) (by omega)) (gR 2 rfl ?_))
  exact Zar (d - 1, out ++ [⟨x.dip, x.dbits, x.sip, x.sbits⟩], _, _, _) ⟨by dsimp only;omega, by assumption, Zbn hI xo, by simp;omega, by dsimp only;omega⟩ (by dsimp only;omega) (fun a F => F.only [8, 7, 0, 1, 2] rfl) (sX 17179869180 rfl)
 ·refine gR 7 rfl ?_
  refine Zav rfl (dqF (by omega)) (gR 2 rfl (ZaZ (gR 7 rfl ?_)))
  refine Zct (ι := RtV × Value × Int × List (Nat × Obj)) (fun j => .tuple #[.agg (rtC j.1 (rxU j.2.1)).toArray, .int .i64 j.2.2.1]) (fun j => OwnS 85 34 j.2.1 j.1.og.length (ogsC j.1.og) j.2.2.2 ∧ (∀ y ∈ j.1.og, IsOg y) ∧ j.1.og.length ≤ 8) (fun j => [j.2.2.2]) rfl rfl (fun w M => Cal.mono (Zmw self now out hI (by omega) u w (hOs.slAt M (fun q hq => List.mem_append_left _ hq))) fun r w' h => by
   obtain ⟨s, u, c, ent, q, h1, h2, h3, N⟩ := h
   exact ⟨(s, u, c, ent), q, ⟨h1, h2, h3⟩, by simpa using N⟩) ?_
  rintro ⟨s, u1, c1, e1⟩ ⟨hO1, hI1, hl1⟩
  dsimp only at hO1 hI1 hl1 ⊢
  obtain ⟨q4, c4, rfl, hq4⟩ := ZbS hO1
  refine gR 3 rfl (Zat fun b10 => ?_)
  refine Zas 0 rfl rfl rfl rfl rfl rfl rfl ?_
  exact gR 6 rfl (Zai 0 rfl rfl rfl (gR 4 rfl (Zab rfl rfl rfl fun w M => ⟨s.og, _, e1, hO1, hI1, hl1, (M.sub (.cons _ ((List.Sublist.refl e1).append (List.sublist_append_right es _)))).perm List.perm_append_comm⟩)))
def lowQ (x y : DisV) : DisV := if ZqU x y = -1 then x else y
def SlN (n0 : Nat) (W : World) (sz : Nat) (v : Value) (n : Nat) (cs : List Value) : Prop := SlAt W sz v n cs ∧ NewV n0 v
section
variable {n0 n1 bt sz n : Nat} {W w : World} {v : Value} {cs : List Value}
theorem SlN.mono (h : SlN n1 W sz v n cs) (hle : n0 ≤ n1) : SlN n0 W sz v n cs := ⟨h.1, fun b o s k c e => Nat.le_trans hle (h.2 b o s k c e)⟩
theorem SlN.notIn (h : SlN n0 W sz v n cs) (hbt : bt < n0) : ∀ b o s k c, v = .slice (some ⟨b, o, s⟩) k c → b ∉ [bt] := fun b o s k c e hb => by
 have := h.2 b o s k c e
 simp only [List.mem_singleton] at hb
 omega
theorem SlN.laterB (h : SlN n0 W sz v n cs) (hbt : bt < n0) (E : Ext [bt] W w) : SlN n0 w sz v n cs := ⟨h.1.laterB (h.notIn hbt) E, h.2⟩
theorem SlN.later (h : SlN n0 W sz v n cs) (E : Ext [] W w) : SlN n0 w sz v n cs := ⟨h.1.later E, h.2⟩
theorem SlN.nil (n0 sz : Nat) (W : World) : SlN n0 W sz (.slice none 0 0) 0 [] := ⟨SlAt.nil _ _, NewV.nil _ _ _⟩
theorem OwnS.slN {e : TypeId} {ent : List (Nat × Obj)} (h : OwnS e sz v n cs ent) {S : List Nat} {W0 : World} {l : List (Nat × Obj)} (M : Mem S W0 w l) (hs : ∀ p ∈ ent, p ∈ l) (hS : ∀ p ∈ ent, p.1 ∉ S) : SlN W0.heap.size w sz v n cs := by
 refine ⟨h.slAt M hs, ?_⟩
 rcases h with ⟨rfl, _, _, rfl⟩ | ⟨b, cap, junk, rfl, rfl, _, _, _⟩
 ·exact NewV.nil _ _ _
 ·intro b' o s n c h
  cases h
  exact (M.own _ (hs _ List.mem_cons_self)).resolve_left (hS _ List.mem_cons_self)
theorem SlAt.mem {q : Option Addr} {cap : Nat} (h : SlAt W sz (.slice q n cap) n cs) : 0 < n → ∃ b o xs t fz, q = some ⟨b, o, none⟩ ∧ W.heap[b]? = some (.cells (List.toArray xs) t fz) ∧ seg xs o (n * sz) = some cs := by
 obtain ⟨p, cap', e, _, _, _, h5⟩ := h
 cases e
 exact h5
end
def OkR (x : InsV) : Prop := IsIn x ∧ ins1 x = true
structure InsR (n0 : Nat) (W : World) (v : Value) (l : List InsV) : Prop where
 at_ : SlN n0 W 40 v l.length (insC l)
 ok : ∀ x ∈ l, OkR x
 asc : AscK InsV.to l
theorem ZrI {xs : List Int} {k : Nat} {now : Int} (h0 : 0 ≤ now) (h1 : now ≤ 1099511627776) : Za5 (wtV xs k now) = true := by
 unfold wtV Za5
 simp only [Bool.and_eq_true, decide_eq_true_eq]
 repeat' split
 all_goals omega
theorem ZcH {bt : Nat} {p : Option Addr} {len cap k : Nat} {xs : List Int} (base : Int) (h0 : 0 ≤ base) (h1 : base ≤ 1099511627776) (W : World) (hT : ZcG W bt p len xs) (hb : W.heap[bt]? = some (tobj p len cap k)) :
  Cal Tryz.prog 44 [.pointer (some ⟨bt, 0, none⟩), .int .i64 base].toArray W fun v w' => ∃ x k', v = .int .i64 x ∧ Za5 x = true ∧ Mem [bt] W w' [(bt, tobj p len cap k')] :=
 Cal.mono (ZrH base h0 h1 W hT hb) fun _ _ h => ⟨_, _, h.1, ZrI h0 h1, h.2⟩
structure RouO (n0 : Nat) (W : World) (v : Value) (l : List RouV) : Prop where
 at_ : SlN n0 W 39 v l.length (rosC l)
 is : ∀ x ∈ l, IsRo x
 val : Zdh l = true
structure SrcO (n0 : Nat) (W : World) (v : Value) (l : List SrcV) : Prop where
 at_ : SlN n0 W 38 v l.length (srsC l)
 is : ∀ x ∈ l, IsSr x
 val : ZdB l = true
structure OptO (n0 : Nat) (W : World) (v : Value) (l : List OptV) : Prop where
 at_ : SlN n0 W 2 v l.length (opsC l)
 val : Zkx l = true
theorem RouO.laterB {n0 bt : Nat} {W w : World} {v : Value} {l : List RouV} (h : RouO n0 W v l) (hb : bt < n0) (E : Ext [bt] W w) : RouO n0 w v l := ⟨h.at_.laterB hb E, h.is, h.val⟩
theorem SrcO.laterB {n0 bt : Nat} {W w : World} {v : Value} {l : List SrcV} (h : SrcO n0 W v l) (hb : bt < n0) (E : Ext [bt] W w) : SrcO n0 w v l := ⟨h.at_.laterB hb E, h.is, h.val⟩
theorem OptO.laterB {n0 bt : Nat} {W w : World} {v : Value} {l : List OptV} (h : OptO n0 W v l) (hb : bt < n0) (E : Ext [bt] W w) : OptO n0 w v l := ⟨h.at_.laterB hb E, h.val⟩
end Go.Proofs.YtfhkmgcalcfibaaGreat
namespace Go.Proofs.YtfhkmgcalcfibaaGreat
open Go.RowKit
theorem Zum (t : DstV) (h : IsDv t) (d : DisV) (u : Int) : Za2 [(0, 35), (35, 2), (37, 1)] srZ [(0, dvC t), (1, diC d), (2, [.int .i64 u])] = some (srC ⟨t, d, u⟩) := ZpB (o := ⟨t, d, u⟩) ⟨h, trivial⟩
theorem Zuo (t : DstV) (h : IsDv t) (n : Int) (d : DisV) (u : Int) : Za2 [(0, 35), (35, 1), (36, 2), (38, 1)] roZ [(0, dvC t), (1, [.int .u64 n]), (2, diC d), (3, [.int .i64 u])] = some (roC ⟨t, n, d, u⟩) := ZpL (o := ⟨t, n, d, u⟩) ⟨h, trivial⟩
theorem Zuv (t : DstV) (h : IsDv t) (n : Int) (d : DisV) (b u : Int) : Za2 [(0, 35), (35, 1), (36, 2), (38, 1), (39, 1)] inZ [(0, dvC t), (1, [.int .u64 n]), (2, diC d), (3, [.int .i64 b]), (4, [.int .i64 u])] = some (inC ⟨t, n, d, b, u⟩) := Zqy (o := ⟨t, n, d, b, u⟩) ⟨h, trivial⟩
theorem ZtI (t : DstV) (h : IsDv t) (n : Int) (d : DisV) (b : Int) : Za2 [(0, 35), (35, 1), (36, 2), (38, 1), (39, 1)] inZ [(0, dvC t), (1, [.int .u64 n]), (2, diC d), (3, [.int .i64 b])] = some (inC ⟨t, n, d, b, 0⟩) := by
 obtain ⟨p1, n1, p2, n2, rt⟩ := t
 obtain ⟨x0, x1, x2, x3, x4, x5, x6, x7, x8, x9, x10, x11, x12, x13, x14, x15, e0⟩ := ZaC (show p1.length = 16 from h.1.len)
 obtain ⟨y0, y1, y2, y3, y4, y5, y6, y7, y8, y9, y10, y11, y12, y13, y14, y15, e1⟩ := ZaC (show p2.length = 16 from h.2.len)
 subst e0
 subst e1
 rfl
theorem ZtJ (t : DstV) (h : IsDv t) (n b : Int) : Za2 [(0, 35), (35, 1), (36, 2), (38, 1), (39, 1)] inZ [(0, dvC t), (1, [.int .u64 n]), (3, [.int .i64 b])] = some (inC ⟨t, n, di0, b, 0⟩) := by
 obtain ⟨p1, n1, p2, n2, rt⟩ := t
 obtain ⟨x0, x1, x2, x3, x4, x5, x6, x7, x8, x9, x10, x11, x12, x13, x14, x15, e0⟩ := ZaC (show p1.length = 16 from h.1.len)
 obtain ⟨y0, y1, y2, y3, y4, y5, y6, y7, y8, y9, y10, y11, y12, y13, y14, y15, e1⟩ := ZaC (show p2.length = 16 from h.2.len)
 subst e0
 subst e1
 rfl
end Go.Proofs.YtfhkmgcalcfibaaGreat
namespace Go.Proofs.YtfhkmgcalcfibaaGreat
open Go.RowKit
attribute [local irreducible] OpTo wpListIn Code.wpIn MW Cal
structure OptI (out : List OptV) (i : Nat) : Prop where
 len : out.length < i
 ok : ∀ o ∈ out, opt1 o = true ∧ o.nb < i
 asc : AscC cmpO out
theorem OptI.snoc {out : List OptV} {i : Nat} (h : OptI out i) (h1 : 1 ≤ i) {c : Int} (hc : Zdp c = true) : OptI (out ++ [⟨i, c⟩]) (i + 1) where
 len := by have := h.len;simp;omega
 ok := fun o ho => by
  rcases List.mem_append.1 ho with ho | ho
  ·exact ⟨(h.ok o ho).1, by have := (h.ok o ho).2;omega⟩
  ·simp only [List.mem_singleton] at ho
   subst ho
   refine ⟨?_, by show (i : Int) < ((i + 1 : Nat) : Int);omega⟩
   unfold opt1
   dsimp only
   rw [hc, dqF (show ¬ (i : Int) = 0 by omega)]
   rfl
 asc := List.pairwise_append.2 ⟨h.asc, List.pairwise_singleton _ _, fun a ha b hb => by
  simp only [List.mem_singleton] at hb
  subst hb
  exact Zo4.2 (h.ok a ha).2⟩
theorem OptI.skip {out : List OptV} {i : Nat} (h : OptI out i) : OptI out (i + 1) := ⟨by have := h.len;omega, fun o ho => ⟨(h.ok o ho).1, by have := (h.ok o ho).2;omega⟩, h.asc⟩
theorem OptI.val {out : List OptV} {i : Nat} (h : OptI out i) (hi : i ≤ 6) : Zkx out = true := Zkw.2 ⟨by have := h.len;omega, fun a ha => (h.ok a ha).1, h.asc⟩
theorem Mem.pastR {S : List Nat} {W0 w w' : World} {l : List (Nat × Obj)} {b : Nat} (M : Mem S W0 w l) (E : Ext [b] w w') (hb : ∀ p ∈ l, p.1 ≠ b) (ho : b ∈ S ∨ W0.heap.size ≤ b) : Mem S W0 w' l :=
 ⟨⟨E.os.trans M.ext.os, E.tape.trans M.ext.tape, E.output.trans M.ext.output, Nat.le_trans M.ext.size E.size, Nat.le_trans M.ext.dr E.dr, fun k hk hs => by
  rw [E.block k (Nat.lt_of_lt_of_le hk M.ext.size) (by
   simp only [List.mem_singleton]
   rintro rfl
   rcases ho with h | h
   ·exact hs h
   ·omega)]
  exact M.ext.block k hk hs⟩, fun p hp => by rw [E.block p.1 (M.lt hp) (by simpa using hb p hp)];exact M.at_ p hp, M.nd, M.own⟩
theorem InsR.laterB {n0 bt : Nat} {W w : World} {v : Value} {l : List InsV} (h : InsR n0 W v l) (hb : bt < n0) (E : Ext [bt] W w) : InsR n0 w v l := ⟨h.at_.laterB hb E, h.ok, h.asc⟩
theorem ZpU {α : Type} {enc : α → List Value} {e : TypeId} {sz : Nat} {l : List α} {q : Option Addr} {c : Nat} {ent : List (Nat × Obj)} {b : Nat} {j : List Value} (h : OwnS e sz (.slice q l.length c) l.length (encL enc l) ent) (hb : q = some ⟨b, 0, none⟩) (he : ent = [(b, .cells (encL enc l ++ j).toArray e (0, 0))]) {l' : List α} (hl : l'.length = l.length) (hc : (encL enc l').length = (encL enc l).length) : OwnS e sz (.slice q l'.length c) l'.length (encL enc l') [(b, .cells (encL enc l' ++ j).toArray e (0, 0))] := by
 rcases h with ⟨h1, _⟩ | ⟨b2, c2, j2, h1, h2, h3, h4, h5⟩
 ·rw [hb] at h1;cases h1
 ·rw [hb] at h1
  cases h1
  rw [he] at h2
  have h6 : encL enc l ++ j = encL enc l ++ j2 := by simpa using h2
  have h7 : j = j2 := List.append_cancel_left h6
  subst h7
  exact .inr ⟨b, c, j, by rw [hb], rfl, by rw [hc, h3, hl], by rw [hl];exact h4, by rw [hl];exact h5⟩
theorem Ztq {b r : List Value} {n : Nat} {v : Value} (h : put b n [v] = some r) : ∀ a : List Value, put (a ++ b) (a.length + n) [v] = some (a ++ r)
 | [] => by simpa using h
 | x :: a => by
  have := Ztq h a
  rw [List.length_cons, show a.length + 1 + n = (a.length + n) + 1 by omega]
  simp only [List.cons_append, put, this]
theorem putL {b : List Value} {v : Value} : ∀ {a r : List Value} {n : Nat}, put a n [v] = some r → put (a ++ b) n [v] = some (r ++ b)
 | [], r, 0, h => by simp [put] at h
 | [], r, n + 1, h => by simp [put] at h
 | x :: a, r, 0, h => by
  simp only [put] at h
  cases h
  simp [put]
 | x :: a, r, n + 1, h => by
  simp only [put] at h
  cases h1 : put a n [v] with
  | none => rw [h1] at h;cases h
  | some z =>
   rw [h1] at h
   cases h
   simp only [List.cons_append, put, putL h1]
theorem ZnJ {α : Type} {enc : α → List Value} {sz : Nat} {x' : α} {off : Nat} {v : Value} (j : List Value) : ∀ {l : List α} {i : Nat} (_ : ∀ x ∈ l, (enc x).length = sz) (hi : i < l.length) (_ : put (enc l[i]) off [v] = some (enc x')), put (encL enc l ++ j) (i * sz + off) [v] = some (encL enc (l.set i x') ++ j)
 | [], _, _, hi, _ => by simp at hi
 | x :: l, 0, hx, hi, h => by
  rw [Zdb, List.set_cons_zero, Zdb, Nat.zero_mul, Nat.zero_add, List.append_assoc, List.append_assoc]
  exact putL h
 | x :: l, i + 1, hx, hi, h => by
  have ih := ZnJ j (l := l) (i := i) (fun y hy => hx y (List.mem_cons_of_mem _ hy)) (by simpa using hi) h
  rw [Zdb, List.set_cons_succ, Zdb, List.append_assoc, List.append_assoc, show (i + 1) * sz + off = (enc x).length + (i * sz + off) by rw [hx x List.mem_cons_self, Nat.add_mul];omega]
  exact Ztq ih _
theorem ZkI {bt : Nat} {p : Option Addr} {len cap k : Nat} {xs : List Int} (now : Int) (hnow : 0 ≤ now ∧ now ≤ 1099511627776) (W : World) (hT : ZcG W bt p len xs) (hb : W.heap[bt]? = some (tobj p len cap k)) : Cal Tryz.prog 63 [.pointer (some ⟨bt, 0, none⟩), .int .i64 now].toArray W fun r w' => ∃ (m : List ReqV) (k' : Nat) (ent : List (Nat × Obj)), OwnS 171 40 r m.length (rqsC m) ent ∧ (∀ y ∈ m, IsRq y) ∧ m.length ≤ 64 ∧ Mem [bt] W w' ((bt, tobj p len cap k') :: ent) := by
 have n5 := Zbm xs k (n := 5) (by omega)
 refine Zcp (n := 55) [bt] hb (by simp) Zal Zak Tryz.func63 rfl rfl rfl (gR 14 rfl (ZaS 0 rfl rfl rfl (fun w M => Zba _ (by omega) (by omega) w (hT.later M.ext) (M.at_ _ (Zae (i := 0) rfl))) rfl (gR 4 rfl (ZcO ?_))))
 refine Za1 (ι := Int × (List ReqV) × Value × (List (Nat × Obj)) × Nat) ⟨fun (d, out, u, es, k) => d.toNat, fun (d, out, u, es, k) => d ≤ 5 ∧ OwnS 171 40 u out.length (rqsC out) es ∧ (∀ y ∈ out, IsRq y) ∧ out.length ≤ 64, fun (d, out, u, es, k) => [(6, .int .i64 d), (5, u), (0, .pointer (some ⟨bt, 0, none⟩)), (1, .int .i64 now)], fun (d, out, u, es, k) => [es, [(bt, tobj p len cap k)]]⟩ (_, [], _, [], _) ⟨by first | omega | (dsimp only;omega), OwnS.nilL _ _ _, fun y hy => (List.not_mem_nil hy).elim, by simp⟩ (fun a F => F.only [6, 5, 0, 1] rfl) (sX 17179869183 rfl) ?_
 clear n5
 rintro ⟨d, out, u, es, k⟩ ⟨hd, hOs, hI, hol⟩
 dsimp only at hd hOs hI hol ⊢
 by_cases hlt : 0 < d
 ·have n4 := Zbm xs k (n := 4) (by omega)
  refine gR 7 rfl (ZaE rfl (dqT (by omega)) (gR 7 rfl (ZaS 1 rfl rfl rfl (fun w M => Zba _ (by omega) (by omega) w (hT.later M.ext) (M.at_ _ (Zae (i := 1) rfl))) rfl (ZfU rfl (ZgM (by omega) (by omega)) (gR 8 rfl ?_)))))
  refine Za8 (ι := Int × Nat) 1 (fun j => .int .i64 j.1) (fun j => True) (fun j => tobj p len cap j.2) (fun _ => []) rfl rfl rfl (fun w M => Cal.mono (ZcH now hnow.1 hnow.2 w (hT.later M.ext) (M.at_ _ (Zae (i := 1) rfl))) fun r w' h => by
    obtain ⟨x, k', q, _, N⟩ := h
    exact ⟨(x, k'), q, trivial, by simpa using N⟩) (fun _ => rfl) ?_
  rintro ⟨t, k1⟩ -
  dsimp only [List.nil_append]
  refine gR 1 rfl ?_
  refine Za8 (ι := DstV × Nat) 1 (fun j => dvV j.1) (fun j => IsDv j.1) (fun j => tobj p len cap j.2) (fun _ => []) rfl rfl rfl (fun w M => Cal.mono (Zmn w (hT.later M.ext) (M.at_ _ (Zae (i := 1) rfl))) fun r w' h => by
    obtain ⟨x, k', q, h1, _, N⟩ := h
    exact ⟨(x, k'), q, h1, by simpa using N⟩) (fun _ => rfl) ?_
  rintro ⟨x, k2⟩ xd
  dsimp only [List.nil_append] at xd ⊢
  unfold dvV
  refine gR 1 rfl ?_
  refine Za8 (ι := Int × Nat) 1 (fun j => .int .u16 j.1) (fun j => True) (fun j => tobj p len cap j.2) (fun _ => []) rfl rfl rfl (fun w M => Cal.mono (ZjJ w (hT.later M.ext) (M.at_ _ (Zae (i := 1) rfl))) fun r w' h => by
    obtain ⟨x, k', q, N⟩ := h
    exact ⟨(x, k'), q, trivial, by simpa using N⟩) (fun _ => rfl) ?_
  rintro ⟨q, k3⟩ -
  dsimp only [List.nil_append]
  have n32 := Zbm xs k3 (n := 32) (by omega)
  refine gR 1 rfl (ZaS 1 rfl rfl rfl (fun w M => Zba _ (by omega) (by omega) w (hT.later M.ext) (M.at_ _ (Zae (i := 1) rfl))) rfl (ZaK rfl rfl (Zax (by omega) (by omega)) (gR 1 rfl ?_)))
  refine Zct (ι := Value × (List ReqV) × Bool × Int × List (Nat × Obj)) (fun j => .tuple #[j.1, .bool j.2.2.1, .int .i64 j.2.2.2.1]) (fun j => OwnS 171 40 j.1 j.2.1.length (rqsC j.2.1) j.2.2.2.2 ∧ (∀ y ∈ j.2.1, IsRq y) ∧ j.2.1.length ≤ 64) (fun j => [j.2.2.2.2]) rfl rfl (fun w M => Cal.mono (ZpN out hI u t x xd q _ _ w (hOs.slAt M (fun q hq => List.mem_append_left _ hq))) fun r w' h => by
   obtain ⟨u, m, d, c, ent, q, h1, h2, h3, N⟩ := h
   exact ⟨(u, m, d, c, ent), q, ⟨h1, h2, h3⟩, by simpa using N⟩) ?_
  rintro ⟨u1, m1, d1, c1, e1⟩ ⟨hO1, hI1, hl1⟩
  dsimp only [List.cons_append, List.nil_append] at hO1 hI1 hl1 ⊢
  refine gR 15 rfl (g_if rfl (fun h1 => ?_) (fun h1 => ?_))
  ·replace h1 := dqU h1
   refine gR 8 rfl (ZeX rfl rfl (Zax (by omega) (by omega)) (gR 2 rfl ?_))
   exact Zar (d - 1, m1, _, _, _) ⟨by dsimp only;omega, by assumption, hI1, hl1⟩ (by dsimp only;omega) (fun a F => F.only [6, 5, 0, 1] rfl) (by (try dsimp only);repeat (first | exact .refl _ | with_reducible exact sC0 _ | with_reducible apply sC2 | apply sC1))
  ·replace h1 := dqV h1
   refine gR 5 rfl (ZeX rfl rfl (Zax (by omega) (by omega)) (gR 2 rfl ?_))
   exact Zar (d - 1, out, _, _, _) ⟨by dsimp only;omega, by assumption, hI, hol⟩ (by dsimp only;omega) (fun a F => F.only [6, 5, 0, 1] rfl) (sX 17179869182 rfl)
 ·obtain ⟨q4, c4, rfl, hq4⟩ := ZbS hOs
  refine gR 7 rfl (Zav rfl (dqF (by omega)) (gR 2 rfl (ZaZ (gR 11 rfl ?_))))
  refine Za1 (ι := Nat × (List ReqV) × (List (Nat × Obj)) × Nat) ⟨fun (i, l, es, k) => out.length - i, fun (i, l, es, k) => i ≤ out.length ∧ l.length = out.length ∧ OwnS 171 40 (.slice q4 l.length c4) l.length (rqsC l) es ∧ (∀ y ∈ l, IsRq y) ∧ (0 < out.length → ∃ b j, q4 = some ⟨b, 0, none⟩ ∧ es = [(b, .cells (rqsC l ++ j).toArray 171 (0, 0))]), fun (i, l, es, k) => [(43, .int .i64 i), (42, .int .i64 out.length), (5, .slice q4 out.length c4), (0, .pointer (some ⟨bt, 0, none⟩))], fun (i, l, es, k) => [es, [(bt, tobj p len cap k)]]⟩ (0, out, es, _) ⟨by first | omega | (dsimp only;omega), rfl, hOs, hI, hq4⟩ (fun a F => F.only [43, 42, 5, 0] rfl) (sX 17179869183 rfl) ?_
  rintro ⟨i, l, es, k⟩ ⟨hi, hll, hOs, hI, hq⟩
  dsimp only at hi hll hOs hI hq ⊢
  by_cases hlt2 : i < out.length
  ·obtain ⟨bq, jq, rfl, rfl⟩ := hq (by omega)
   have n3 := Zbm xs k (n := 3) (by omega)
   have xd : IsRq (l[i]'(by omega)) := hI _ (List.getElem_mem _)
   have hpt := fun z : Int => ZnJ (enc := rqC) (sz := 40) jq (l := l) (i := i) (ZeI hI) (by omega) (ZkD xd z)
   obtain ⟨x', hx'⟩ : ∃ x' : ReqV, x' = { (l[i]'(by omega)) with left := 1 + nxV xs k 3 } := ⟨_, rfl⟩
   have hI' : ∀ y ∈ l.set i x', IsRq y := fun y hy => by
    rcases List.mem_or_eq_of_mem_set hy with h | rfl
    ·exact hI y h
    ·rw [hx'];exact xd
   have hst : put (rqsC l ++ jq) (0 + (i : Int).toNat * 40 + 39) [.int .i64 (1 + nxV xs k 3)] = some (rqsC (l.set i x') ++ jq) := by
    rw [show 0 + (i : Int).toNat * 40 + 39 = i * 40 + 39 by simp, hx']
    exact hpt _
   have hO' := ZpU (l' := l.set i x') hOs rfl rfl (by simp) (by rw [Zdy (ZeI hI'), Zdy (ZeI hI)];simp)
   refine gR 6 rfl (ZaE rfl (dqT (by omega)) (gR 14 rfl (ZaS 1 rfl rfl rfl (fun w M => Zba _ (by omega) (by omega) w (hT.later M.ext) (M.at_ _ (Zae (i := 1) rfl))) rfl (ZaK rfl rfl (Zax (by omega) (by omega)) (Zbk rfl rfl (by omega) (by omega) (gR 1 rfl (Zb8 0 rfl rfl rfl rfl hst rfl (gR 4 rfl (ZaK rfl rfl (Zax (by omega) (by omega)) (gR 2 rfl ?_))))))))))
   exact Zar (i + 1, l.set i x', _, _) ⟨by dsimp only;omega, by simp [hll], hO', hI', fun _ => ⟨bq, jq, rfl, rfl⟩⟩ (by dsimp only;omega) (fun a F => F.only [43, 42, 5, 0] rfl) (sX 17179869183 rfl)
  ·have hOs' : OwnS 171 40 (.slice q4 out.length c4) l.length (rqsC l) es := by
    rw [hll] at hOs ⊢
    exact hOs
   exact gR 6 rfl (Zav rfl (dqF (by omega)) (gR 2 rfl (ZaZ (gR 9 rfl (Zab rfl rfl rfl fun w M => ⟨l, _, es, hOs', hI, by omega, M.perm List.perm_append_comm⟩)))))
structure RtE where
 og : List (Nat × Obj)
 aj : List (Nat × Obj)
 sr : List (Nat × Obj)
 ro : List (Nat × Obj)
 ins : List (Nat × Obj)
 rq : List (Nat × Obj)
 av : List (Nat × Obj)
def RtE.row (e : RtE) : Row := [e.av, e.rq, e.ins, e.ro, e.sr, e.aj, e.og]
structure RtOw (s : RtV) (x : RtX) (e : RtE) : Prop where
 og : OwnS 85 34 x.og s.og.length (ogsC s.og) e.og
 aj : OwnS 124 8 x.aj s.aj.length (ajsC s.aj) e.aj
 sr : OwnS 166 38 x.sr s.sr.length (srsC s.sr) e.sr
 ro : OwnS 76 39 x.ro s.ro.length (rosC s.ro) e.ro
 ins : OwnS 74 40 x.ins s.ins.length (insC s.ins) e.ins
 rq : OwnS 171 40 x.rq s.rq.length (rqsC s.rq) e.rq
 av : OwnS 100 37 x.av s.av.length (avsC s.av) e.av
structure RtSm (s : RtV) : Prop where
 og : s.og.length ≤ 1000
 aj : s.aj.length ≤ 1000
 sr : s.sr.length ≤ 1000
 ro : s.ro.length ≤ 1000
 ins : s.ins.length ≤ 1000
 rq : s.rq.length ≤ 1000
 av : s.av.length ≤ 1000
theorem RtOw.at_ {s : RtV} {x : RtX} {e : RtE} (h : RtOw s x e) {S : List Nat} {W0 w : World} {l : List (Nat × Obj)} (M : Mem S W0 w l) (hs : ∀ p ∈ e.row.flatten, p ∈ l) : RtAt w s x :=
 ⟨h.og.slAt M fun q hq => hs q (List.mem_flatten_of_mem (by simp [RtE.row]) hq), h.aj.slAt M fun q hq => hs q (List.mem_flatten_of_mem (by simp [RtE.row]) hq), h.sr.slAt M fun q hq => hs q (List.mem_flatten_of_mem (by simp [RtE.row]) hq), h.ro.slAt M fun q hq => hs q (List.mem_flatten_of_mem (by simp [RtE.row]) hq), h.ins.slAt M fun q hq => hs q (List.mem_flatten_of_mem (by simp [RtE.row]) hq), h.rq.slAt M fun q hq => hs q (List.mem_flatten_of_mem (by simp [RtE.row]) hq), h.av.slAt M fun q hq => hs q (List.mem_flatten_of_mem (by simp [RtE.row]) hq)⟩
theorem ZnG (s : RtV) (x : RtX) (hsm : RtSm s) (W : World) (h : RtAt W s x) : Cal Tryz.prog 112 [.agg (rtC s x).toArray].toArray W fun r w' => ∃ (x' : RtX) (e : RtE), RtOw s x' e ∧ r = .agg (rtC s x').toArray ∧ Mem [] W w' e.row.flatten := by
 obtain ⟨v6, v7, v8, v9, v10, v11, v12⟩ := x
 obtain ⟨a6, a7, a8, a9, a10, a11, a12⟩ := h
 dsimp only at a6 a7 a8 a9 a10 a11 a12
 obtain ⟨q6, c6, rfl, _⟩ := id a6
 obtain ⟨q7, c7, rfl, _⟩ := id a7
 obtain ⟨q8, c8, rfl, _⟩ := id a8
 obtain ⟨q9, c9, rfl, _⟩ := id a9
 obtain ⟨q10, c10, rfl, _⟩ := id a10
 obtain ⟨q11, c11, rfl, _⟩ := id a11
 obtain ⟨q12, c12, rfl, _⟩ := id a12
 obtain ⟨l6, l7, l8, l9, l10, l11, l12⟩ := hsm
 refine Zao (n := 34) (S := []) Zal Zak Tryz.func112 rfl rfl rfl (gR 2 rfl (ZaA rfl rfl fun b1 => Zat fun b2 => gR 5 rfl (Zai 1 rfl rfl rfl (ZcO (ZgI 0 rfl rfl (OwnS.nil _ _) rfl (fun w M => (a6.later M.ext).src Zr5) (by omega) (by omega) (fun _ => rfl) ?_)))))
 intro v6 e6 h6
 simp only [Nat.zero_add, List.nil_append] at h6
 obtain ⟨p6, d6, rfl, -⟩ := ZbS h6
 refine gR 1 rfl (Zb8 2 rfl rfl rfl rfl rfl rfl (gR 5 rfl (Zai 2 rfl rfl rfl (ZcO (ZgI 0 rfl rfl (OwnS.nil _ _) rfl (fun w M => (a7.later M.ext).src ZsS) (by omega) (by omega) (fun _ => rfl) ?_)))))
 intro v7 e7 h7
 simp only [Nat.zero_add, List.nil_append] at h7
 obtain ⟨p7, d7, rfl, -⟩ := ZbS h7
 refine gR 1 rfl (Zb8 3 rfl rfl rfl rfl rfl rfl (gR 5 rfl (Zai 3 rfl rfl rfl (ZcO (ZgI 0 rfl rfl (OwnS.nil _ _) rfl (fun w M => (a8.later M.ext).src ZrL) (by omega) (by omega) (fun _ => rfl) ?_)))))
 intro v8 e8 h8
 simp only [Nat.zero_add, List.nil_append] at h8
 obtain ⟨p8, d8, rfl, -⟩ := ZbS h8
 refine gR 1 rfl (Zb8 4 rfl rfl rfl rfl rfl rfl (gR 5 rfl (Zai 4 rfl rfl rfl (ZcO (ZgI 0 rfl rfl (OwnS.nil _ _) rfl (fun w M => (a9.later M.ext).src ZrV) (by omega) (by omega) (fun _ => rfl) ?_)))))
 intro v9 e9 h9
 simp only [Nat.zero_add, List.nil_append] at h9
 obtain ⟨p9, d9, rfl, -⟩ := ZbS h9
 refine gR 1 rfl (Zb8 5 rfl rfl rfl rfl rfl rfl (gR 5 rfl (Zai 5 rfl rfl rfl (ZcO (ZgI 0 rfl rfl (OwnS.nil _ _) rfl (fun w M => (a10.later M.ext).src Zsn) (by omega) (by omega) (fun _ => rfl) ?_)))))
 intro v10 e10 h10
 simp only [Nat.zero_add, List.nil_append] at h10
 obtain ⟨p10, d10, rfl, -⟩ := ZbS h10
 refine gR 1 rfl (Zb8 6 rfl rfl rfl rfl rfl rfl (gR 5 rfl (Zai 6 rfl rfl rfl (ZcO (ZgI 0 rfl rfl (OwnS.nil _ _) rfl (fun w M => (a11.later M.ext).src Znx) (by omega) (by omega) (fun _ => rfl) ?_)))))
 intro v11 e11 h11
 simp only [Nat.zero_add, List.nil_append] at h11
 obtain ⟨p11, d11, rfl, -⟩ := ZbS h11
 refine gR 1 rfl (Zb8 7 rfl rfl rfl rfl rfl rfl (gR 6 rfl (Zai 7 rfl rfl rfl (ZcO (ZgI 0 rfl rfl (OwnS.nil _ _) rfl (fun w M => (a12.later M.ext).src ZsP) (by omega) (by omega) (fun _ => rfl) ?_)))))
 intro v12 e12 h12
 simp only [Nat.zero_add, List.nil_append] at h12
 obtain ⟨p12, d12, rfl, -⟩ := ZbS h12
 refine gR 2 rfl (Zb8 8 rfl rfl rfl rfl rfl rfl (gR 4 rfl (Zah 8 rfl rfl rfl ?_)))
 refine Zas 7 rfl rfl rfl rfl rfl rfl rfl ?_
 exact gR 3 rfl (ZbB 7 rfl rfl rfl rfl rfl fun w M => ⟨⟨_, _, _, _, _, _, _⟩, ⟨e6, e7, e8, e9, e10, e11, e12⟩, ⟨h6, h7, h8, h9, h10, h11, h12⟩, rfl, M.sub (subO (by (try dsimp only [RtE.row]);repeat (first | exact sC0 _ | apply sC2)))⟩)
theorem ZrN (s : RtV) (x : RtX) (W : World) (h : RtAt W s x) : Cal Tryz.prog 27 [.agg (rtC s x).toArray].toArray W fun r w' => (∃ b, r = .bool b) ∧ Ext [] W w' := by
 obtain ⟨v6, v7, v8, v9, v10, v11, v12⟩ := x
 obtain ⟨a6, a7, a8, a9, a10, a11, a12⟩ := h
 dsimp only at a6 a7 a8 a9 a10 a11 a12
 obtain ⟨q6, c6, rfl, _⟩ := id a6
 obtain ⟨q7, c7, rfl, _⟩ := id a7
 obtain ⟨q8, c8, rfl, _⟩ := id a8
 obtain ⟨q9, c9, rfl, _⟩ := id a9
 obtain ⟨q10, c10, rfl, _⟩ := id a10
 obtain ⟨q11, c11, rfl, _⟩ := id a11
 obtain ⟨q12, c12, rfl, _⟩ := id a12
 refine Zao (n := 44) (S := []) Zal Zak Tryz.func27 rfl rfl rfl (gR 2 rfl (ZaA rfl rfl fun b1 => gR 6 rfl (Zai 0 rfl rfl rfl (gR 3 rfl (Zan 7 rfl (fun h1 => ?_) (fun h1 => ?_))))))
 ·replace h1 := dqU h1
  refine gR 1 rfl (Zai 0 rfl rfl rfl (gR 4 rfl (Zan 13 rfl (fun h2 => ?_) (fun h2 => ?_))))
  ·replace h2 := dqU h2
   refine gR 1 rfl (Zai 0 rfl rfl rfl (gR 4 rfl (Zan 19 rfl (fun h3 => ?_) (fun h3 => ?_))))
   ·replace h3 := dqU h3
    refine gR 1 rfl (Zai 0 rfl rfl rfl (gR 4 rfl (Zan 25 rfl (fun h4 => ?_) (fun h4 => ?_))))
    ·replace h4 := dqU h4
     refine gR 1 rfl (Zai 0 rfl rfl rfl (gR 4 rfl (Zan 31 rfl (fun h5 => ?_) (fun h5 => ?_))))
     ·replace h5 := dqU h5
      refine gR 1 rfl (Zai 0 rfl rfl rfl (gR 4 rfl (Zan 37 rfl (fun h6 => ?_) (fun h6 => ?_))))
      ·replace h6 := dqU h6
       exact gR 2 rfl (Zai 0 rfl rfl rfl (gR 7 rfl (Zab rfl rfl rfl fun w M => ⟨⟨_, rfl⟩, M.ext⟩)))
      ·replace h6 := dqV h6
       exact gR 10 rfl (Zab rfl rfl rfl fun w M => ⟨⟨_, rfl⟩, M.ext⟩)
     ·replace h5 := dqV h5
      exact gR 16 rfl (Zab rfl rfl rfl fun w M => ⟨⟨_, rfl⟩, M.ext⟩)
    ·replace h4 := dqV h4
     exact gR 22 rfl (Zab rfl rfl rfl fun w M => ⟨⟨_, rfl⟩, M.ext⟩)
   ·replace h3 := dqV h3
    exact gR 28 rfl (Zab rfl rfl rfl fun w M => ⟨⟨_, rfl⟩, M.ext⟩)
  ·replace h2 := dqV h2
   exact gR 34 rfl (Zab rfl rfl rfl fun w M => ⟨⟨_, rfl⟩, M.ext⟩)
 ·replace h1 := dqV h1
  exact gR 40 rfl (Zab rfl rfl rfl fun w M => ⟨⟨_, rfl⟩, M.ext⟩)
end Go.Proofs.YtfhkmgcalcfibaaGreat
namespace Go.Proofs.YtfhkmgcalcfibaaGreat
open Go.RowKit
section
variable {c : Cx} {x : RX} {xs : List (Nat × XP)} {fr : List (Nat × Value)} {l : Row} {d : Nat} {ty : TypeId} {pos : String} {af : Array Edge}
theorem ZnP {t e : TypeId} {len sz : Nat} {ys : List (Nat × Operand)} {parts : List (Nat × List Value)} {zs cs : List Value} [ht : TU c.P t (.slice e)] [hs : TSz c.P e sz] [hz : Zcu c.P e zs] (hv : evP fr ys = some parts)
  (hle : Nat.ble (len * sz) 16777216 = true) (hzl : Nat.beq zs.length sz = true) (hp : Za2 (ZbX len sz) (ZbJ zs (len * sz)) parts = some cs) :
  OpF c x xs ⟨some d, .buildSlice t len ys.toArray, ty, pos, af, none⟩ fr l (fun u r => ∃ j : Nat, u = .slice (some ⟨j, 0, none⟩) len len ∧ True ∧ r = [(j, .cells cs.toArray e (0, 0))] :: l) := fun a w F M _ =>
 Zch F (Mem.start [] w) hv hle hzl hp fun b w'' N => ⟨N.ext.any, _, ⟨b, rfl, trivial, rfl⟩, M.joins (new := [(b, .cells cs.toArray e (0, 0))]) N⟩
theorem ZlH {α : Type} {enc : α → List Value} {out : List α} {x0 : α} {st xt e : TypeId} {y1 y2 : Operand} {sz by_ bx : Nat} {v : Value} {ent r : List (Nat × Obj)} {f : List (Nat × Obj) → Row} {t' : TypeId} {fz : Nat × Nat} [hst : TU c.P st (.slice e)] [hel : TEl c.P e sz by_] [hxt : TNI c.P xt]
  (hx : Ev fr y1 = some v) (hy : Ev fr y2 = some (.slice (some ⟨bx, 0, none⟩) 1 1)) (hO : OwnS e sz v out.length (encL enc out) ent) (hl : l.flatten.Perm (ent ++ r)) (hB : ∀ q ∈ ent, q.1 ∈ x.B) (hj : (bx, .cells (enc x0).toArray t' fz) ∈ l.flatten) (hz : (enc x0).length = sz) (hbd : (out.length + 1) * by_ ≤ 140737488355328) (hln : out.length + 1 ≤ 9223372036854775807)
  (hf : ∀ ent', (ent' ++ r).Perm (f ent').flatten) (h1 : (enc x0).all (·.oneCell') = true) :
  OpF c x xs ⟨some d, .call ⟨.builtin .append, #[y1, y2], #[st, xt]⟩, ty, pos, af, none⟩ fr l (fun u r => ∃ j : Value × List (Nat × Obj), u = j.1 ∧ OwnS e sz j.1 (out ++ [x0]).length (encL enc (out ++ [x0])) j.2 ∧ r = f j.2) := fun a w F M _ => by
 have hS : Zdo c.P w (.slice (some ⟨bx, 0, none⟩) 1 1) 1 sz (enc x0) := Zdo.cells' (M.at_ _ hj) (by rw [Nat.one_mul, ← hz];simpa using Zhf [] (enc x0) []) h1
 have MM := M.perm hl
 have M0 : Mem (ent.map (·.1)) w w (ent ++ []) := by
  have h5 := MM.nd
  simp only [List.map_append, List.nodup_append] at h5
  rw [List.append_nil]
  exact ⟨Ext.refl _ _, fun p hp => MM.at_ p (List.mem_append_left _ hp), h5.1, fun p hp => .inl (List.mem_map.2 ⟨p, hp, rfl⟩)⟩
 refine Zj4 (f := fun e' => [] ++ e') hO (M0.perm List.perm_append_comm) (.app .here) (F.e hx) (F.e hy) hS hbd (fun v' ent' w' hO' M' => ?_) hln
 refine ⟨M'.ext.mono fun k hk => ?_, f ent', ⟨(v', ent'), rfl, hO', rfl⟩, (MM.joinB M').perm (hf ent')⟩
 obtain ⟨q, hq, rfl⟩ := List.mem_map.1 hk
 exact hB q hq
end
end Go.Proofs.YtfhkmgcalcfibaaGreat
namespace Go.Proofs.YtfhkmgcalcfibaaGreat
open Go.RowKit
attribute [local irreducible] OpTo wpListIn Code.wpIn MW Cal
theorem Zfr {e : TypeId} {sz n : Nat} {v : Value} {xs : List Value} {ent : List (Nat × Obj)} (h : OwnS e sz v n xs ent) : v.oneCell' = true := by
 rcases h with ⟨rfl, _⟩ | ⟨_, _, _, rfl, _⟩ <;> rfl
def ipA : List Int := [1, 2, 0, 0, 0, 0, 0, 0, 0, 0, 0, 0, 0, 0, 0, 0]
def ipB : List Int := [255, 0, 0, 0, 0, 0, 0, 0, 0, 0, 0, 0, 0, 0, 0, 0]
def ipO : List Int := [0, 0, 0, 0, 0, 0, 0, 0, 0, 0, 0, 0, 0, 0, 0, 0]
theorem ZtH : IsIP ipA := ⟨rfl, by decide⟩
theorem ZtG : IsIP ipB := ⟨rfl, by decide⟩
theorem Zrp : IsIP ipO := ⟨rfl, by decide⟩
def ogX : OrgV := ⟨ipA, 9, ipO, 0⟩
theorem Zrf : IsOg ogX := ⟨ZtH, Zrp⟩
def dvX (z : Int) : DstV := ⟨ipB, 8, ipO, 0, z⟩
theorem Zrv (z : Int) : IsDv (dvX z) := ⟨ZtG, Zrp⟩
theorem Zts : Za2 [(0, 17), (17, 17)] ogZ [(0, [.int .u8 1, .int .u8 2, .int .u8 0, .int .u8 0, .int .u8 0, .int .u8 0, .int .u8 0, .int .u8 0, .int .u8 0, .int .u8 0, .int .u8 0, .int .u8 0, .int .u8 0, .int .u8 0, .int .u8 0, .int .u8 0, .int .i64 9])] = some (ogC ogX) := rfl
theorem Zru (z : Int) : Za2 [(0, 17), (17, 17), (34, 1)] dvZ [(0, [.int .u8 255, .int .u8 0, .int .u8 0, .int .u8 0, .int .u8 0, .int .u8 0, .int .u8 0, .int .u8 0, .int .u8 0, .int .u8 0, .int .u8 0, .int .u8 0, .int .u8 0, .int .u8 0, .int .u8 0, .int .u8 0, .int .i64 8]), (2, [.int .u64 z])] = some (dvC (dvX z)) := rfl
theorem Zuh : Za2 [(0, 1), (1, 5), (6, 1), (7, 1)] ajZ [(0, [.int .u64 9])] = some (ajC ⟨9, qu0, 0, 0⟩) := rfl
theorem Zui (n : Int) (q : QuaV) : Za2 [(0, 1), (1, 5), (6, 1), (7, 1)] ajZ [(0, [.int .u64 n]), (1, quC q)] = some (ajC ⟨n, q, 0, 0⟩) := rfl
theorem Ztj (t : DstV) (h : IsDv t) (n : Int) : Za2 [(0, 35), (35, 1), (36, 2), (38, 1)] roZ [(0, dvC t), (1, [.int .u64 n])] = some (roC ⟨t, n, di0, 0⟩) := by
 obtain ⟨p1, n1, p2, n2, rt⟩ := t
 obtain ⟨x0, x1, x2, x3, x4, x5, x6, x7, x8, x9, x10, x11, x12, x13, x14, x15, e0⟩ := ZaC (show p1.length = 16 from h.1.len)
 obtain ⟨y0, y1, y2, y3, y4, y5, y6, y7, y8, y9, y10, y11, y12, y13, y14, y15, e1⟩ := ZaC (show p2.length = 16 from h.2.len)
 subst e0
 subst e1
 rfl
theorem rowT {S : List Nat} {W w : World} {e : RtE} {t : Nat × Obj} (M : Mem S W w (e.row ++ [[t]]).flatten) : Mem S W w (t :: e.row.flatten) := M.perm (by
 rw [List.flatten_append]
 exact List.perm_append_comm)
theorem OpF.mono {c : Cx} {x : RX} {xs : List (Nat × XP)} {o : Oper} {fr : List (Nat × Value)} {l : Row} {A B : Value → Row → Prop} (h : OpF c x xs o fr l A) (hB : ∀ u r, A u r → B u r) : OpF c x xs o fr l B := fun a w F M hX => (h a w F M hX).mono fun u w' ⟨q1, r, q2, q3⟩ => ⟨q1, r, hB u r q2, q3⟩
theorem ZrR {a b c d e f g h i t : List (Nat × Obj)} : ([a, b, c, d, e, f, g, h, i, t] : Row).flatten.Perm (([t, f] : Row).flatten ++ ([a, b, c, d, e, g, h, i] : Row).flatten) := by
 simp only [List.flatten_cons, List.flatten_nil, List.append_nil]
 classical
 rw [List.perm_iff_count]
 intro x
 simp only [List.count_append]
 omega
theorem ZnA {z a b c d e f g h i t : List (Nat × Obj)} : ([z, a, b, c, d, e, f, g, h, i, t] : Row).flatten.Perm (f ++ ([z, a, b, c, d, e, g, h, i, t] : Row).flatten) := by
 simp only [List.flatten_cons, List.flatten_nil, List.append_nil]
 classical
 rw [List.perm_iff_count]
 intro x
 simp only [List.count_append]
 omega
def PhRt (p : Option Addr) (len cap bt : Nat) (r : Value) (W w' : World) : Prop := ∃ (s : RtV) (x : RtX) (e : RtE) (k' : Nat), r = .agg (rtC s x).toArray ∧ IsRt s ∧ RtOw s x e ∧ Mem [bt] W w' ((bt, tobj p len cap k') :: e.row.flatten)
theorem Znq {bt : Nat} {p : Option Addr} {len cap k : Nat} {xs : List Int} (s : RtV) (x : RtX) (hs : IsRt s) (hsm : RtSm s) (W : World) (hT : ZcG W bt p len xs) (hb : W.heap[bt]? = some (tobj p len cap k)) (h : RtAt W s x) (hA : ∀ w', Ext [bt] W w' → RtAt w' s x) : Cal Tryz.prog 35 [.pointer (some ⟨bt, 0, none⟩), .agg (rtC s x).toArray].toArray W fun r w' => PhRt p len cap bt r W w' := by
 obtain ⟨v6, v7, v8, v9, v10, v11, v12⟩ := x
 obtain ⟨a6, a7, a8, a9, a10, a11, a12⟩ := h
 dsimp only at a6 a7 a8 a9 a10 a11 a12
 obtain ⟨q6, c6, rfl, _⟩ := id a6
 obtain ⟨q7, c7, rfl, _⟩ := id a7
 obtain ⟨q8, c8, rfl, _⟩ := id a8
 obtain ⟨q9, c9, rfl, _⟩ := id a9
 obtain ⟨q10, c10, rfl, _⟩ := id a10
 obtain ⟨q11, c11, rfl, _⟩ := id a11
 obtain ⟨q12, c12, rfl, _⟩ := id a12
 refine Zcp (n := 78) [bt] hb (by simp) Zal Zak Tryz.func35 rfl rfl rfl (gR 2 rfl (ZaA rfl rfl fun b3 => Zat fun b4 => gR 4 rfl (Zah 1 rfl rfl rfl ?_)))
 refine Zct (ι := RtX × RtE) (fun j => .agg (rtC s j.1).toArray) (fun j => RtOw s j.1 j.2) (fun j => j.2.row) rfl rfl (fun w M => Cal.mono (ZnG s _ hsm w (hA w M.ext)) fun r w' h => by
  obtain ⟨x', e, h1, h2, N⟩ := h
  exact ⟨(x', e), h2, h1, N⟩) ?_
 rintro ⟨⟨v6, v7, v8, v9, v10, v11, v12⟩, ⟨e6, e7, e8, e9, e10, e11, e12⟩⟩ ⟨o6, o7, o8, o9, o10, o11, o12⟩
 dsimp only [RtE.row, List.cons_append, List.nil_append] at o6 o7 o8 o9 o10 o11 o12 ⊢
 obtain ⟨r6, d6, rfl, -⟩ := ZbS o6
 obtain ⟨r7, d7, rfl, -⟩ := ZbS o7
 obtain ⟨r8, d8, rfl, -⟩ := ZbS o8
 obtain ⟨r9, d9, rfl, -⟩ := ZbS o9
 obtain ⟨r10, d10, rfl, -⟩ := ZbS o10
 obtain ⟨r11, d11, rfl, -⟩ := ZbS o11
 obtain ⟨r12, d12, rfl, -⟩ := ZbS o12
 clear a6 a7 a8 a9 a10 a11 a12 hA
 obtain ⟨i6, i7, i8, i9, i10, i11, i12, iq⟩ := hs
 obtain ⟨l6, l7, l8, l9, l10, l11, l12⟩ := hsm
 have n10 := Zbm xs k (n := 10) (by omega)
 have dX := Zrv s.self
 have oX := Zrf
 have dN := Zrv 99
 by_cases c0 : nxV xs k 10 = 0
 ·refine Zas 8 rfl rfl rfl rfl rfl rfl rfl ?_
  refine gR 6 rfl (ZaS 9 rfl rfl rfl (fun w M => Zba _ (by omega) (by omega) w (hT.later M.ext) (M.at_ _ (Zae (i := 9) rfl))) rfl (gR 9 rfl (ZaE rfl (dqT (by omega)) (gR 2 rfl (Zb8 8 rfl rfl rfl rfl rfl rfl (gR 5 rfl (Zah 8 rfl rfl rfl ?_)))))))
  refine Zas 7 rfl rfl rfl rfl rfl rfl rfl ?_
  exact gR 3 rfl (ZbB 7 rfl rfl rfl rfl rfl fun w M => ⟨⟨0, s.seq, s.raised, s.quiet, s.hello, s.nextH, s.full, s.og, s.aj, s.sr, s.ro, s.ins, s.rq, s.av⟩, ⟨_, _, _, _, _, _, _⟩, ⟨e6, e7, e8, e9, e10, e11, e12⟩, _, rfl, ⟨i6, i7, i8, i9, i10, i11, i12, iq⟩, ⟨o6, o7, o8, o9, o10, o11, o12⟩, rowT (M.sub (subO (by (try dsimp only [RtE.row, List.cons_append, List.nil_append]);repeat (first | exact .refl _ | exact sC0 _ | with_reducible apply sC2 | apply sC1))))⟩)
 by_cases c1 : nxV xs k 10 = 1
 ·refine Zas 8 rfl rfl rfl rfl rfl rfl rfl ?_
  refine gR 6 rfl (ZaS 9 rfl rfl rfl (fun w M => Zba _ (by omega) (by omega) w (hT.later M.ext) (M.at_ _ (Zae (i := 9) rfl))) rfl (gR 9 rfl (Zav rfl (dqF (by omega)) (gR 6 rfl (ZaE rfl (dqT (by omega)) (gR 2 rfl (Zb8 8 rfl rfl rfl rfl rfl rfl (gR 5 rfl (Zah 8 rfl rfl rfl ?_)))))))))
  refine Zas 7 rfl rfl rfl rfl rfl rfl rfl ?_
  exact gR 3 rfl (ZbB 7 rfl rfl rfl rfl rfl fun w M => ⟨⟨s.self, s.seq, -1, s.quiet, s.hello, s.nextH, s.full, s.og, s.aj, s.sr, s.ro, s.ins, s.rq, s.av⟩, ⟨_, _, _, _, _, _, _⟩, ⟨e6, e7, e8, e9, e10, e11, e12⟩, _, rfl, ⟨i6, i7, i8, i9, i10, i11, i12, iq⟩, ⟨o6, o7, o8, o9, o10, o11, o12⟩, rowT (M.sub (subO (by (try dsimp only [RtE.row, List.cons_append, List.nil_append]);repeat (first | exact .refl _ | exact sC0 _ | with_reducible apply sC2 | apply sC1))))⟩)
 by_cases c2 : nxV xs k 10 = 2
 ·refine Zas 8 rfl rfl rfl rfl rfl rfl rfl ?_
  refine gR 6 rfl (ZaS 9 rfl rfl rfl (fun w M => Zba _ (by omega) (by omega) w (hT.later M.ext) (M.at_ _ (Zae (i := 9) rfl))) rfl (gR 9 rfl (Zav rfl (dqF (by omega)) (gR 6 rfl (Zav rfl (dqF (by omega)) (gR 6 rfl (ZaE rfl (dqT (by omega)) (gR 2 rfl (Zb8 8 rfl rfl rfl rfl rfl rfl (gR 5 rfl (Zah 8 rfl rfl rfl ?_)))))))))))
  refine Zas 7 rfl rfl rfl rfl rfl rfl rfl ?_
  exact gR 3 rfl (ZbB 7 rfl rfl rfl rfl rfl fun w M => ⟨⟨s.self, s.seq, s.raised, 1099511627777, s.hello, s.nextH, s.full, s.og, s.aj, s.sr, s.ro, s.ins, s.rq, s.av⟩, ⟨_, _, _, _, _, _, _⟩, ⟨e6, e7, e8, e9, e10, e11, e12⟩, _, rfl, ⟨i6, i7, i8, i9, i10, i11, i12, iq⟩, ⟨o6, o7, o8, o9, o10, o11, o12⟩, rowT (M.sub (subO (by (try dsimp only [RtE.row, List.cons_append, List.nil_append]);repeat (first | exact .refl _ | exact sC0 _ | with_reducible apply sC2 | apply sC1))))⟩)
 by_cases c3 : nxV xs k 10 = 3
 ·refine Zas 8 rfl rfl rfl rfl rfl rfl rfl ?_
  refine gR 6 rfl (ZaS 9 rfl rfl rfl (fun w M => Zba _ (by omega) (by omega) w (hT.later M.ext) (M.at_ _ (Zae (i := 9) rfl))) rfl (gR 9 rfl (Zav rfl (dqF (by omega)) (gR 6 rfl (Zav rfl (dqF (by omega)) (gR 6 rfl (Zav rfl (dqF (by omega)) (gR 6 rfl (ZaE rfl (dqT (by omega)) (gR 2 rfl (Zb8 8 rfl rfl rfl rfl rfl rfl (gR 5 rfl (Zah 8 rfl rfl rfl ?_)))))))))))))
  refine Zas 7 rfl rfl rfl rfl rfl rfl rfl ?_
  exact gR 3 rfl (ZbB 7 rfl rfl rfl rfl rfl fun w M => ⟨⟨s.self, s.seq, s.raised, s.quiet, s.hello, -5, s.full, s.og, s.aj, s.sr, s.ro, s.ins, s.rq, s.av⟩, ⟨_, _, _, _, _, _, _⟩, ⟨e6, e7, e8, e9, e10, e11, e12⟩, _, rfl, ⟨i6, i7, i8, i9, i10, i11, i12, iq⟩, ⟨o6, o7, o8, o9, o10, o11, o12⟩, rowT (M.sub (subO (by (try dsimp only [RtE.row, List.cons_append, List.nil_append]);repeat (first | exact .refl _ | exact sC0 _ | with_reducible apply sC2 | apply sC1))))⟩)
 by_cases c4 : nxV xs k 10 = 4
 ·refine Zas 8 rfl rfl rfl rfl rfl rfl rfl ?_
  refine gR 6 rfl (ZaS 9 rfl rfl rfl (fun w M => Zba _ (by omega) (by omega) w (hT.later M.ext) (M.at_ _ (Zae (i := 9) rfl))) rfl (gR 9 rfl (Zav rfl (dqF (by omega)) (gR 6 rfl (Zav rfl (dqF (by omega)) (gR 6 rfl (Zav rfl (dqF (by omega)) (gR 6 rfl (Zav rfl (dqF (by omega)) (gR 6 rfl (ZaE rfl (dqT (by omega)) (gR 2 rfl (Zai 8 rfl rfl rfl (g_v (fun a w F M R r => Zaw F rfl rfl r) (g_v (fun a w F M R r => Zaw F rfl rfl r) (g_v (fun a w F M R r => Zaw F rfl (Zts) r) (g_bs rfl rfl rfl (ZdL ‹_›) (fun b38 => ?_))))))))))))))))))
  refine ZbI 7 0 (enc := ogC) rfl rfl ‹_› rfl rfl (Zbl ‹_›) (by omega) (fun _ => rfl) (fun v39 es39 hO39 => ?_) (ZcT _)
  refine gR 1 rfl (Zb8 9 rfl rfl (Zfr ‹_›) rfl rfl rfl ?_)
  refine gR 5 rfl (Zah 9 rfl rfl rfl ?_)
  obtain ⟨rN, cN, rfl, -⟩ := ZbS hO39
  refine Zas 8 rfl rfl rfl rfl rfl rfl rfl ?_
  exact gR 3 rfl (ZbB 8 rfl rfl rfl rfl rfl fun w M => ⟨⟨s.self, s.seq, s.raised, s.quiet, s.hello, s.nextH, s.full, s.og ++ [ogX], s.aj, s.sr, s.ro, s.ins, s.rq, s.av⟩, ⟨_, _, _, _, _, _, _⟩, ⟨_, e7, e8, e9, e10, e11, e12⟩, _, rfl, ⟨Zbn i6 Zrf, i7, i8, i9, i10, i11, i12, iq⟩, ⟨by assumption, o7, o8, o9, o10, o11, o12⟩, rowT (M.sub (subO (by (try dsimp only [RtE.row, List.cons_append, List.nil_append]);repeat (first | exact .refl _ | exact sC0 _ | with_reducible apply sC2 | apply sC1))))⟩)
 by_cases c5 : nxV xs k 10 = 5
 ·refine Zas 8 rfl rfl rfl rfl rfl rfl rfl ?_
  refine gR 6 rfl (ZaS 9 rfl rfl rfl (fun w M => Zba _ (by omega) (by omega) w (hT.later M.ext) (M.at_ _ (Zae (i := 9) rfl))) rfl (gR 9 rfl (Zav rfl (dqF (by omega)) (gR 6 rfl (Zav rfl (dqF (by omega)) (gR 6 rfl (Zav rfl (dqF (by omega)) (gR 6 rfl (Zav rfl (dqF (by omega)) (gR 6 rfl (Zav rfl (dqF (by omega)) (gR 6 rfl (ZaE rfl (dqT (by omega)) (gR 2 rfl (Zai 8 rfl rfl rfl (g_v (fun a w F M R r => Zaw F rfl (Zuh) r) (g_bs rfl rfl rfl (ZhQ trivial) (fun b46 => ?_))))))))))))))))))
  refine ZbI 6 0 (enc := ajC) rfl rfl ‹_› rfl rfl (Zfn trivial) (by omega) (fun _ => rfl) (fun v47 es47 hO47 => ?_) (ZiT _)
  refine gR 1 rfl (Zb8 9 rfl rfl (Zfr ‹_›) rfl rfl rfl ?_)
  refine gR 5 rfl (Zah 9 rfl rfl rfl ?_)
  obtain ⟨rN, cN, rfl, -⟩ := ZbS hO47
  refine Zas 8 rfl rfl rfl rfl rfl rfl rfl ?_
  exact gR 3 rfl (ZbB 8 rfl rfl rfl rfl rfl fun w M => ⟨⟨s.self, s.seq, s.raised, s.quiet, s.hello, s.nextH, s.full, s.og, s.aj ++ [⟨9, qu0, 0, 0⟩], s.sr, s.ro, s.ins, s.rq, s.av⟩, ⟨_, _, _, _, _, _, _⟩, ⟨e6, _, e8, e9, e10, e11, e12⟩, _, rfl, ⟨i6, Zbn i7 (show IsAj _ from trivial), i8, i9, i10, i11, i12, Zbn iq BdQu.zero⟩, ⟨o6, by assumption, o8, o9, o10, o11, o12⟩, rowT (M.sub (subO (by (try dsimp only [RtE.row, List.cons_append, List.nil_append]);repeat (first | exact .refl _ | exact sC0 _ | with_reducible apply sC2 | apply sC1))))⟩)
 by_cases c6 : nxV xs k 10 = 6
 ·refine Zas 8 rfl rfl rfl rfl rfl rfl rfl ?_
  refine gR 6 rfl (ZaS 9 rfl rfl rfl (fun w M => Zba _ (by omega) (by omega) w (hT.later M.ext) (M.at_ _ (Zae (i := 9) rfl))) rfl (gR 9 rfl (Zav rfl (dqF (by omega)) (gR 6 rfl (Zav rfl (dqF (by omega)) (gR 6 rfl (Zav rfl (dqF (by omega)) (gR 6 rfl (Zav rfl (dqF (by omega)) (gR 6 rfl (Zav rfl (dqF (by omega)) (gR 6 rfl (Zav rfl (dqF (by omega)) (gR 6 rfl (ZaE rfl (dqT (by omega)) (gR 2 rfl (Zai 8 rfl rfl rfl (g_v (fun a w F M R r => Zaw F rfl rfl r) (g_v (fun a w F M R r => Zaw F rfl rfl r) (gR 1 rfl (Zai 8 rfl rfl rfl (g_v (fun a w F M R r => Zaw F rfl (Zru _) r) (g_v (fun a w F M R r => Zaw F rfl (Ztj _ ‹_› _) r) ?_)))))))))))))))))))))))
  refine g_bs rfl rfl rfl (ZdE ⟨by assumption, trivial⟩) (fun b59 => ?_)
  refine ZbI 4 0 (enc := roC) rfl rfl ‹_› rfl rfl (Zbz ⟨by assumption, trivial⟩) (by omega) (fun _ => rfl) (fun v60 es60 hO60 => ?_) (Zdq _)
  refine gR 1 rfl (Zb8 9 rfl rfl (Zfr ‹_›) rfl rfl rfl ?_)
  refine gR 5 rfl (Zah 9 rfl rfl rfl ?_)
  obtain ⟨rN, cN, rfl, -⟩ := ZbS hO60
  refine Zas 8 rfl rfl rfl rfl rfl rfl rfl ?_
  exact gR 3 rfl (ZbB 8 rfl rfl rfl rfl rfl fun w M => ⟨⟨s.self, s.seq, s.raised, s.quiet, s.hello, s.nextH, s.full, s.og, s.aj, s.sr, s.ro ++ [⟨dvX s.self, 9, di0, 0⟩], s.ins, s.rq, s.av⟩, ⟨_, _, _, _, _, _, _⟩, ⟨e6, e7, e8, _, e10, e11, e12⟩, _, rfl, ⟨i6, i7, i8, Zbn i9 (show IsRo _ from ⟨dX, trivial⟩), i10, i11, i12, iq⟩, ⟨o6, o7, o8, by assumption, o10, o11, o12⟩, rowT (M.sub (subO (by (try dsimp only [RtE.row, List.cons_append, List.nil_append]);repeat (first | exact .refl _ | exact sC0 _ | with_reducible apply sC2 | apply sC1))))⟩)
 by_cases c7 : nxV xs k 10 = 7
 ·refine Zas 8 rfl rfl rfl rfl rfl rfl rfl ?_
  refine gR 6 rfl (ZaS 9 rfl rfl rfl (fun w M => Zba _ (by omega) (by omega) w (hT.later M.ext) (M.at_ _ (Zae (i := 9) rfl))) rfl (gR 9 rfl (Zav rfl (dqF (by omega)) (gR 6 rfl (Zav rfl (dqF (by omega)) (gR 6 rfl (Zav rfl (dqF (by omega)) (gR 6 rfl (Zav rfl (dqF (by omega)) (gR 6 rfl (Zav rfl (dqF (by omega)) (gR 6 rfl (Zav rfl (dqF (by omega)) (gR 6 rfl (Zav rfl (dqF (by omega)) (gR 6 rfl (ZaE rfl (dqT (by omega)) (gR 2 rfl (Zai 8 rfl rfl rfl (g_v (fun a w F M R r => Zaw F rfl rfl r) (g_v (fun a w F M R r => Zaw F rfl rfl r) (g_v (fun a w F M R r => Zaw F rfl (Zru _) r) (g_v (fun a w F M R r => Zaw F rfl (ZtJ _ ‹_› _ _) r) ?_)))))))))))))))))))))))
  refine g_bs rfl rfl rfl (ZbY ⟨by assumption, trivial⟩) (fun b70 => ?_)
  refine ZbI 3 0 (enc := inC) rfl rfl ‹_› rfl rfl (Zaj ⟨by assumption, trivial⟩) (by omega) (fun _ => rfl) (fun v71 es71 hO71 => ?_) (ZaY _)
  refine gR 1 rfl (Zb8 9 rfl rfl (Zfr ‹_›) rfl rfl rfl ?_)
  refine gR 5 rfl (Zah 9 rfl rfl rfl ?_)
  obtain ⟨rN, cN, rfl, -⟩ := ZbS hO71
  refine Zas 8 rfl rfl rfl rfl rfl rfl rfl ?_
  exact gR 3 rfl (ZbB 8 rfl rfl rfl rfl rfl fun w M => ⟨⟨s.self, s.seq, s.raised, s.quiet, s.hello, s.nextH, s.full, s.og, s.aj, s.sr, s.ro, s.ins ++ [⟨dvX 99, 9, di0, -2, 0⟩], s.rq, s.av⟩, ⟨_, _, _, _, _, _, _⟩, ⟨e6, e7, e8, e9, _, e11, e12⟩, _, rfl, ⟨i6, i7, i8, i9, Zbn i10 (show IsIn _ from ⟨dN, trivial⟩), i11, i12, iq⟩, ⟨o6, o7, o8, o9, by assumption, o11, o12⟩, rowT (M.sub (subO (by (try dsimp only [RtE.row, List.cons_append, List.nil_append]);repeat (first | exact .refl _ | exact sC0 _ | with_reducible apply sC2 | apply sC1))))⟩)
 by_cases c8 : nxV xs k 10 = 8
 ·refine Zas 8 rfl rfl rfl rfl rfl rfl rfl ?_
  refine gR 6 rfl (ZaS 9 rfl rfl rfl (fun w M => Zba _ (by omega) (by omega) w (hT.later M.ext) (M.at_ _ (Zae (i := 9) rfl))) rfl (gR 9 rfl (Zav rfl (dqF (by omega)) (gR 6 rfl (Zav rfl (dqF (by omega)) (gR 6 rfl (Zav rfl (dqF (by omega)) (gR 6 rfl (Zav rfl (dqF (by omega)) (gR 6 rfl (Zav rfl (dqF (by omega)) (gR 6 rfl (Zav rfl (dqF (by omega)) (gR 6 rfl (Zav rfl (dqF (by omega)) (gR 6 rfl (Zav rfl (dqF (by omega)) (gR 6 rfl (ZaE rfl (dqT (by omega)) (gR 3 rfl (Zb8 8 rfl rfl rfl rfl rfl rfl (gR 5 rfl (Zah 8 rfl rfl rfl ?_)))))))))))))))))))))))
  refine Zas 7 rfl rfl rfl rfl rfl rfl rfl ?_
  exact gR 3 rfl (ZbB 7 rfl rfl rfl rfl rfl fun w M => ⟨⟨s.self, s.seq, s.raised, s.quiet, s.hello, s.nextH, -1, s.og, s.aj, s.sr, s.ro, s.ins, s.rq, s.av⟩, ⟨_, _, _, _, _, _, _⟩, ⟨e6, e7, e8, e9, e10, e11, e12⟩, _, rfl, ⟨i6, i7, i8, i9, i10, i11, i12, iq⟩, ⟨o6, o7, o8, o9, o10, o11, o12⟩, rowT (M.sub (subO (by (try dsimp only [RtE.row, List.cons_append, List.nil_append]);repeat (first | exact .refl _ | exact sC0 _ | with_reducible apply sC2 | apply sC1))))⟩)
 have sj : IsAj (⟨s.self, qu0, 0, 0⟩ : AdjV) := trivial
 refine Zas 8 rfl rfl rfl rfl rfl rfl rfl ?_
 refine gR 6 rfl (ZaS 9 rfl rfl rfl (fun w M => Zba _ (by omega) (by omega) w (hT.later M.ext) (M.at_ _ (Zae (i := 9) rfl))) rfl (gR 9 rfl (Zav rfl (dqF (by omega)) (gR 6 rfl (Zav rfl (dqF (by omega)) (gR 6 rfl (Zav rfl (dqF (by omega)) (gR 6 rfl (Zav rfl (dqF (by omega)) (gR 6 rfl (Zav rfl (dqF (by omega)) (gR 6 rfl (Zav rfl (dqF (by omega)) (gR 6 rfl (Zav rfl (dqF (by omega)) (gR 6 rfl (Zav rfl (dqF (by omega)) (gR 6 rfl (Zav rfl (dqF (by omega)) (gR 1 rfl ?_))))))))))))))))))))
 refine Zfw 9 78 (bt :: e7.map (·.1)) [5, 6, 7, 8] [] [[(bt, tobj p len cap (nxK xs k))], e7] [e12, e11, e10, e9, e8, e6, [(b4, Obj.cells (rtC rt0 rx0).toArray 53 (0, 0))], [(b3, Obj.cells (rtC s ⟨.slice r6 s.og.length d6, .slice r7 s.aj.length d7, .slice r8 s.sr.length d8, .slice r9 s.ro.length d9, .slice r10 s.ins.length d10, .slice r11 s.rq.length d11, .slice r12 s.av.length d12⟩).toArray 53 (0, 0))]] rfl (by kernel_rfl) ZrR (by simp) (Zen ?_)
 refine ZcE 60 rfl (fe_v (fun a2 w F M R r => Zdw (F.e rfl) (M.at_ _ (Zae (i := 7) rfl)) rfl r) (ZcE 60 rfl (fe_v (fun a2 w F M R r => Zdw (F.e rfl) (M.at_ _ (Zae (i := 7) rfl)) rfl r) (ZcE 60 rfl (Zgv (κ := QuaV × Nat) (fun _ j => .agg (quC j.1).toArray) (fun _ j => BdQu j.1) (fun _ j => [e12, e11, e10, e9, e8, e7, e6, [(b4, Obj.cells (rtC rt0 rx0).toArray 53 (0, 0))], [(b3, Obj.cells (rtC s ⟨.slice r6 s.og.length d6, .slice r7 s.aj.length d7, .slice r8 s.sr.length d8, .slice r9 s.ro.length d9, .slice r10 s.ins.length d10, .slice r11 s.rq.length d11, .slice r12 s.av.length d12⟩).toArray 53 (0, 0))], [(bt, tobj p len cap j.2)]]) [] .any (fun i hi => ?_) (fun _ _ _ _ => trivial) ?_)))))
 ·exact Zcw 9 (fun j : QuaV × Nat => .agg (quC j.1).toArray) (fun j => BdQu j.1) (fun j => tobj p len cap j.2) (fun _ => []) rfl rfl rfl (.head _) (fun w M => Cal.mono (Zia w (hT.later M.ext) (M.at_ _ (Zae (i := 9) rfl))) fun r w' h => by
   obtain ⟨o, k', ho, q, N⟩ := h
   exact ⟨(o, k'), q, ho.b, by simpa using N⟩) (fun _ => rfl)
 refine Zgv (κ := Unit) (fun i _ => .agg (ajC (⟨s.self, i.2.1, 0, 0⟩ : AdjV)).toArray) (fun _ _ => True) (fun i _ => [e12, e11, e10, e9, e8, e7, e6, [(b4, Obj.cells (rtC rt0 rx0).toArray 53 (0, 0))], [(b3, Obj.cells (rtC s ⟨.slice r6 s.og.length d6, .slice r7 s.aj.length d7, .slice r8 s.sr.length d8, .slice r9 s.ro.length d9, .slice r10 s.ins.length d10, .slice r11 s.rq.length d11, .slice r12 s.av.length d12⟩).toArray 53 (0, 0))], [(bt, tobj p len cap i.2.2)]]) [(5, 14)] .any (fun i hi => ?_) (fun _ _ _ _ => trivial) ?_
 ·exact OpF.mono (Ztr (fun a w F M R r => Zaw F rfl (Zui _ _) r)) fun u r h => ⟨(), h.1, trivial, h.2⟩
 refine Zgv (κ := Nat) (fun _ j => .slice (some ⟨j, 0, none⟩) 1 1) (fun _ _ => True) (fun i j => [[(j, Obj.cells (ajC ⟨s.self, i.1.2.1, 0, 0⟩).toArray 124 (0, 0))], e12, e11, e10, e9, e8, e7, e6, [(b4, Obj.cells (rtC rt0 rx0).toArray 53 (0, 0))], [(b3, Obj.cells (rtC s ⟨.slice r6 s.og.length d6, .slice r7 s.aj.length d7, .slice r8 s.sr.length d8, .slice r9 s.ro.length d9, .slice r10 s.ins.length d10, .slice r11 s.rq.length d11, .slice r12 s.av.length d12⟩).toArray 53 (0, 0))], [(bt, tobj p len cap i.1.2.2)]]) [(6, 15)] .any (fun i hi => ?_) (fun _ _ _ _ => trivial) ?_
 ·exact ZnP rfl rfl rfl (ZhQ trivial)
 refine Zgv (κ := Value × List (Nat × Obj)) (fun _ j => j.1) (fun i j => OwnS 124 8 j.1 (s.aj ++ [(⟨s.self, i.1.1.2.1, 0, 0⟩ : AdjV)]).length (ajsC (s.aj ++ [(⟨s.self, i.1.1.2.1, 0, 0⟩ : AdjV)])) j.2) (fun i j => [[(i.2, Obj.cells (ajC ⟨s.self, i.1.1.2.1, 0, 0⟩).toArray 124 (0, 0))], e12, e11, e10, e9, e8, j.2, e6, [(b4, Obj.cells (rtC rt0 rx0).toArray 53 (0, 0))], [(b3, Obj.cells (rtC s ⟨.slice r6 s.og.length d6, .slice r7 s.aj.length d7, .slice r8 s.sr.length d8, .slice r9 s.ro.length d9, .slice r10 s.ins.length d10, .slice r11 s.rq.length d11, .slice r12 s.av.length d12⟩).toArray 53 (0, 0))], [(bt, tobj p len cap i.1.1.2.2)]]) [(7, 16)] .any (fun i hi => ?_) (fun _ _ _ _ => trivial) ?_
 ·exact ZlH (enc := ajC) (x0 := (⟨s.self, i.1.1.2.1, 0, 0⟩ : AdjV)) (f := fun e => [[(i.2, Obj.cells (ajC ⟨s.self, i.1.1.2.1, 0, 0⟩).toArray 124 (0, 0))], e12, e11, e10, e9, e8, e, e6, [(b4, Obj.cells (rtC rt0 rx0).toArray 53 (0, 0))], [(b3, Obj.cells (rtC s ⟨.slice r6 s.og.length d6, .slice r7 s.aj.length d7, .slice r8 s.sr.length d8, .slice r9 s.ro.length d9, .slice r10 s.ins.length d10, .slice r11 s.rq.length d11, .slice r12 s.av.length d12⟩).toArray 53 (0, 0))], [(bt, tobj p len cap i.1.1.2.2)]]) rfl rfl o7 ZnA (fun q hq => List.mem_cons_of_mem _ (List.mem_map_of_mem hq)) (.head _) (Zfn trivial) (by omega) (by omega) (fun ent => ZnA.symm) (ZiT _)
 refine ZhC rfl (by rintro i _ q hq;simp at hq;rcases hq with rfl | rfl | rfl | rfl <;> simp) ?_
 rintro ⟨⟨⟨⟨_, o, k2⟩, _⟩, bz⟩, v17, e17⟩ ⟨⟨⟨⟨_, ho⟩, _⟩, _⟩, hO17⟩
 refine ⟨_, rfl, ?_⟩
 dsimp only at ho hO17 ⊢
 obtain ⟨rN, cN, rfl, -⟩ := ZbS hO17
 refine gR 1 rfl (Zb8 9 rfl rfl (Zfr ‹_›) rfl rfl rfl ?_)
 refine gR 5 rfl (Zah 9 rfl rfl rfl ?_)
 refine Zas 8 rfl rfl rfl rfl rfl rfl rfl ?_
 exact gR 3 rfl (ZbB 8 rfl rfl rfl rfl rfl fun w M => ⟨⟨s.self, s.seq, s.raised, s.quiet, s.hello, s.nextH, s.full, s.og, s.aj ++ [⟨s.self, o, 0, 0⟩], s.sr, s.ro, s.ins, s.rq, s.av⟩, ⟨_, _, _, _, _, _, _⟩, ⟨e6, e17, e8, e9, e10, e11, e12⟩, _, rfl, ⟨i6, Zbn i7 (show IsAj _ from trivial), i8, i9, i10, i11, i12, Zbn iq ho⟩, ⟨o6, hO17, o8, o9, o10, o11, o12⟩, rowT (M.sub (subO (by (try dsimp only [RtE.row, List.cons_append, List.nil_append]);repeat (first | exact .refl _ | exact sC0 _ | with_reducible apply sC2 | apply sC1))))⟩)
def PhSs (r : Value) (W w' : World) : Prop := ∃ (u : Value) (m : List SrcV) (c : Int) (ent : List (Nat × Obj)), r = .tuple #[u, .int .i64 c] ∧ OwnS 166 38 u m.length (srsC m) ent ∧ (∀ y ∈ m, IsSr y) ∧ m.length ≤ 256 ∧ Mem [] W w' ent
theorem PhSs.zero {c : Int} {W w : World} (E : Ext [] W w) : PhSs (.tuple #[.slice none 0 0, .int .i64 c]) W w := ⟨_, [], c, [], rfl, OwnS.nil _ _, fun y hy => (List.not_mem_nil hy).elim, by simp, Mem.nil E⟩
def PhRs (r : Value) (W w' : World) : Prop := ∃ (u : Value) (m : List RouV) (c : Int) (ent : List (Nat × Obj)), r = .tuple #[u, .int .i64 c] ∧ OwnS 76 39 u m.length (rosC m) ent ∧ (∀ y ∈ m, IsRo y) ∧ m.length ≤ 512 ∧ Mem [] W w' ent
theorem PhRs.zero {c : Int} {W w : World} (E : Ext [] W w) : PhRs (.tuple #[.slice none 0 0, .int .i64 c]) W w := ⟨_, [], c, [], rfl, OwnS.nil _ _, fun y hy => (List.not_mem_nil hy).elim, by simp, Mem.nil E⟩
theorem Ztl (l : List SrcV) (hx : ∀ x ∈ l, IsSr x) (v : Value) (now : Int) (t : DstV) (ht : IsDv t) (d : DisV) (W : World) (hS : SlAt W 38 v l.length (srsC l)) : Cal Tryz.prog 142 [v, .int .i64 now, .agg (dvC t).toArray, .agg (diC d).toArray].toArray W fun r w' => PhSs r W w' := by
 obtain ⟨q, cap, rfl, _⟩ := id hS
 have hm := hS.memB [] (by simp)
 refine Zao (n := 92) (S := []) Zal Zak Tryz.func142 rfl rfl rfl ?_
 cases hv : ZdB l
 ·refine gR 2 rfl ?_
  refine ZaA rfl rfl fun b6 => ZaA rfl rfl fun b7 => gR 8 rfl (Zad rfl rfl (fun w M => ZdG _ ‹_› _ _ ((by assumption : SlAt _ _ _ _ _).later M.ext)) ?_)
  refine gR 2 rfl (ZaQ 21 rfl (notT ‹_›) ?_)
  exact gR 25 rfl (Zcd rfl rfl rfl rfl fun w M => PhSs.zero M.ext)
 have hl256 : l.length ≤ 256 := (Zha.1 hv).1
 cases htm : Za5 now
 ·refine gR 2 rfl ?_
  refine ZaA rfl rfl fun b6 => ZaA rfl rfl fun b7 => gR 8 rfl (Zad rfl rfl (fun w M => ZdG _ ‹_› _ _ ((by assumption : SlAt _ _ _ _ _).later M.ext)) ?_)
  refine gR 2 rfl (ZaQ 21 rfl (notF ‹_›) ?_)
  refine Zah 1 rfl rfl (ZaO ‹_›) ?_
  refine Zad rfl rfl (fun w M => Zbg _ ‹_› _) ?_
  refine gR 3 rfl (Zan 26 rfl (fun h1 => ?_) (fun h1 => ?_))
  ·replace h1 := Zaa h1
   exact gR 20 rfl (Zcd rfl rfl rfl rfl fun w M => PhSs.zero M.ext)
  ·replace h1 := Zac h1
   refine Zah 0 rfl rfl (Zcl trivial) (Zad rfl rfl (fun w M => Zcv _ _) (gR 3 rfl (Zan 31 rfl (fun h2 => ?_) (fun h2 => ?_))))
   ·replace h2 := Zaa h2
    exact gR 15 rfl (Zcd rfl rfl rfl rfl fun w M => PhSs.zero M.ext)
   ·replace h2 := Zac h2
    refine gR 1 rfl (Zai 0 rfl rfl (Zez trivial) (gR 4 rfl (g_if rfl (fun h3 => ?_) (fun h3 => ?_))))
    ·replace h3 := dqU h3
     exact gR 8 rfl (Zcd rfl rfl rfl rfl fun w M => PhSs.zero M.ext)
    ·replace h3 := dqV h3
     refine gR 6 rfl (Zad rfl rfl (fun w M => Zbd _ _) (gR 3 rfl (ZaE rfl (notT ‹_›) ?_)))
     exact gR 8 rfl (Zcd rfl rfl rfl rfl fun w M => PhSs.zero M.ext)
 obtain ⟨hn0, hn1⟩ := ZfS htm
 refine gR 2 rfl (ZaA rfl rfl fun b6 => ZaA rfl rfl fun b7 => gR 8 rfl (Zad rfl rfl (fun w M => ZdG _ ‹_› _ _ ((by assumption : SlAt _ _ _ _ _).later M.ext)) ?_))
 refine gR 2 rfl (ZaQ 21 rfl (notF ‹_›) ?_)
 refine Zah 1 rfl rfl (ZaO ‹_›) ?_
 refine Zad rfl rfl (fun w M => Zbg _ ‹_› _) ?_
 refine gR 3 rfl (Zan 26 rfl (fun h1 => ?_) (fun h1 => ?_))
 ·replace h1 := Zaa h1
  exact gR 20 rfl (Zcd rfl rfl rfl rfl fun w M => PhSs.zero M.ext)
 replace h1 := Zac h1
 refine Zah 0 rfl rfl (Zcl trivial) (Zad rfl rfl (fun w M => Zcv _ _) (gR 3 rfl (Zan 31 rfl (fun h2 => ?_) (fun h2 => ?_))))
 ·replace h2 := Zaa h2
  exact gR 15 rfl (Zcd rfl rfl rfl rfl fun w M => PhSs.zero M.ext)
 replace h2 := Zac h2
 refine gR 1 rfl (Zai 0 rfl rfl (Zez trivial) (gR 4 rfl (g_if rfl (fun h3 => ?_) (fun h3 => ?_))))
 ·replace h3 := dqU h3
  exact gR 8 rfl (Zcd rfl rfl rfl rfl fun w M => PhSs.zero M.ext)
 replace h3 := dqV h3
 refine gR 6 rfl (Zad rfl rfl (fun w M => Zbd _ _) (gR 3 rfl (Zav rfl (notF ‹_›) ?_)))
 refine gR 6 rfl (Zah 1 rfl rfl (ZaO ‹_›) ?_)
 refine Zad rfl rfl (fun w M => ZrX _ ‹_› _ _ _ ‹_› _ ((by assumption : SlAt _ _ _ _ _).later M.ext)) ?_
 refine gR 3 rfl (Zat fun b10 => Zas 0 rfl rfl (Zdd trivial) (ZiM _) rfl (Zag (by rw [Zdd trivial];first | rfl | rw [Zdd ‹_›])) rfl ?_)
 refine gR 4 rfl (ZcD (ι := DisV) ⟨fun _ => True, fun _ => [(7, .pointer (some ⟨b7, 0, none⟩)), (6, .pointer (some ⟨b6, 0, none⟩)), (0, .slice q l.length cap), (1, .int .i64 now)], fun d2 => [[(b7, .cells (diC d2).toArray 72 (0, 0))], [(b6, .cells (dvC t).toArray 67 (0, 0))]]⟩ ?_ ?_)
 ·refine gR 5 rfl ?_
  refine g_if rfl (fun h1 => ?_) (fun h1 => ?_)
  ·refine gR 1 rfl (Zah 1 rfl rfl (Zcl trivial) (Zah 0 rfl rfl (Zcl trivial) (Zad rfl rfl (fun w M => ZpM _ _ _) (Zas 1 rfl rfl (Zdd trivial) (ZiM _) rfl (Zag (by rw [Zdd trivial];first | rfl | rw [Zdd ‹_›])) rfl ?_))))
   exact gR 1 rfl (Za6 (lowQ d ((Zd1 l now t).getD di0)) trivial (fun a F => F.only [7, 6, 0, 1] rfl) (sX 17179869182 rfl))
  ·exact gR 1 rfl (Za6 d trivial (fun a F => F.only [7, 6, 0, 1] rfl) (sX 17179869182 rfl))
 rintro d2 _
 have nwI : IsSr ⟨t, d2, Zcx now 20⟩ := ⟨ht, trivial⟩
 have hmk := Zum t ht d2 (Zcx now 20)
 refine gR 2 rfl (ZaG 6 92 rfl (by kernel_rfl) (ZaN 1 rfl rfl (ZaO ‹_›) ?_))
 refine ZaN 0 rfl rfl (Zcl ‹_›) ?_
 refine fR 1 rfl (ZaH rfl rfl (fun w M => ZgU _ _ ‹_› ‹_› (by omega) (by omega) _) ?_)
 refine fd_v (fun a w F M R r => Zaw F rfl ‹_› r) ?_
 refine Zsy fun b12 => Zas 0 rfl rfl (ZcK ‹_›) (Zfh _) rfl (Zag (by rw [ZcK ‹_›];first | rfl | rw [ZcK ‹_›])) rfl ?_
 refine gR 21 rfl (ZcO (Za1 (ι := Nat × Bool × (List SrcV) × Value × (List (Nat × Obj))) ⟨fun (i, d, out, u, es) => l.length - i, fun (i, d, out, u, es) => i ≤ l.length ∧ (OwnS 166 38 u out.length (srsC out) es) ∧ (∀ y ∈ out, IsSr y) ∧ (out.length ≤ i + d.toNat), fun (i, d, out, u, es) => [(57, .int .i64 i), (56, .int .i64 l.length), (55, .slice q l.length cap), (13, u), (14, .bool d), (0, .slice q l.length cap), (6, .pointer (some ⟨b6, 0, none⟩)), (12, .pointer (some ⟨b12, 0, none⟩))], fun (i, d, out, u, es) => [es, [(b12, .cells (srC ⟨t, d2, Zcx now 20⟩).toArray 166 (0, 0))], [(b6, .cells (dvC t).toArray 67 (0, 0))]]⟩ (0, false, [], _, []) ⟨by omega, OwnS.nilL _ _ _, fun y hy => (List.not_mem_nil hy).elim, by simp⟩ (fun a F => F.only [57, 56, 55, 13, 14, 0, 6, 12] rfl) (by repeat (first | exact .refl _ | apply sC2 | apply sC1)) ?_))
 rintro ⟨i, d, out, u, es⟩ ⟨hi_i, hOs, hI, hol⟩
 dsimp only
 by_cases hlt_i : i < l.length
 ·obtain ⟨b, o, cs, t', fz, rfl, hb, hs⟩ := hm (by omega)
  obtain ⟨x, hx0⟩ : ∃ x, x = l[i] := ⟨_, rfl⟩
  have hxm : x ∈ l := by rw [hx0];exact List.getElem_mem hlt_i
  have hxi : IsSr x := hx _ hxm
  have f1 : seg cs (o + (i : Int).toNat * 38) 38 = some (srC x) := by rw [hx0];exact Za0 (Zgd hx) hs hlt_i (by omega)
  have xd : IsDv x.to := hxi.1
  have hol3 : out.length ≤ i + 1 := by cases d <;> simp at hol <;> omega
  have hol4 : (out ++ [(⟨t, d2, Zcx now 20⟩ : SrcV)]).length = out.length + 1 := by simp
  have hol0 : d = false → out.length ≤ i := fun h => by rw [h] at hol;simpa using hol
  refine gR 6 rfl (ZaE rfl (dqT (by omega)) (gR 6 rfl (Zbk rfl rfl (by omega) (by omega) (ZbF rfl ‹_› (by with_reducible assumption) ?_))))
  refine Zat fun b16 => Zas 0 rfl rfl (ZcK ‹_›) (Zfh _) rfl (Zag (by rw [ZcK ‹_›];first | rfl | rw [ZcK ‹_›])) rfl ?_
  refine gR 5 rfl (Zah 0 rfl rfl (ZjF ‹_›) ?_)
  refine Zah 3 rfl rfl (ZaO ‹_›) ?_
  refine Zad rfl rfl (fun w M => Zbt _ _ ‹_› ‹_› _) ?_
  refine gR 9 rfl (Zan 67 rfl (fun h1 => ?_) (fun h1 => ?_))
  ·replace h1 := dqU h1
   refine gR 5 rfl (g_if rfl (fun h2 => ?_) (fun h2 => ?_))
   ·replace h2 := Zaa h2
    refine gR 3 rfl (Zah 2 rfl rfl (ZjG ‹_›) ?_)
    refine g_bs rfl rfl rfl (ZeD ‹_›) (fun b73 => ?_)
    refine ZbI 2 0 (enc := srC) rfl rfl ‹_› rfl rfl (ZcK ‹_›) (by omega) (fun _ => rfl) (fun v74 es74 hO74 => ?_) (Zfh _)
    refine gR 13 rfl (g_if rfl (fun h3 => ?_) (fun h3 => ?_))
    ·replace h3 := ZbE h3
     refine gR 2 rfl (Zah 1 rfl rfl (ZjG ‹_›) ?_)
     refine g_bs rfl rfl rfl (ZeD ‹_›) (fun b79 => ?_)
     refine ZbI 3 0 (enc := srC) rfl rfl ‹_› rfl rfl (ZcK ‹_›) (by omega) (fun _ => rfl) (fun v80 es80 hO80 => ?_) (Zfh _)
     refine gR 5 rfl (ZaK rfl rfl (Zax (by omega) (by omega)) (gR 2 rfl ?_))
     exact Zar (i + 1, true, (out ++ [⟨t, d2, Zcx now 20⟩]) ++ [x], _, _) ⟨by dsimp only;omega, by assumption, Zbn (Zbn hI nwI) hxi, by first | (simp;omega) | (have := hol0 ‹_›;simp;omega)⟩ (by dsimp only;omega) (fun a F => F.only [57, 56, 55, 13, 14, 0, 6, 12] rfl) (sX 17179869176 rfl)
    ·replace h3 := ZaV h3
     refine gR 4 rfl (ZaK rfl rfl (Zax (by omega) (by omega)) (gR 2 rfl ?_))
     exact Zar (i + 1, true, out ++ [⟨t, d2, Zcx now 20⟩], _, _) ⟨by dsimp only;omega, by assumption, Zbn hI nwI, by first | (simp;omega) | (have := hol0 ‹_›;simp;omega)⟩ (by dsimp only;omega) (fun a F => F.only [57, 56, 55, 13, 14, 0, 6, 12] rfl) (sX 17179869180 rfl)
   ·replace h2 := Zac h2
    refine gR 8 rfl (g_if rfl (fun h3 => ?_) (fun h3 => ?_))
    ·replace h3 := ZbE h3
     refine gR 2 rfl (Zah 0 rfl rfl (ZjG ‹_›) ?_)
     refine g_bs rfl rfl rfl (ZeD ‹_›) (fun b79 => ?_)
     refine ZbI 2 0 (enc := srC) rfl rfl ‹_› rfl rfl (ZcK ‹_›) (by omega) (fun _ => rfl) (fun v80 es80 hO80 => ?_) (Zfh _)
     refine gR 5 rfl (ZaK rfl rfl (Zax (by omega) (by omega)) (gR 2 rfl ?_))
     exact Zar (i + 1, d, out ++ [x], _, _) ⟨by dsimp only;omega, by assumption, Zbn hI hxi, by first | (simp;omega) | (have := hol0 ‹_›;simp;omega)⟩ (by dsimp only;omega) (fun a F => F.only [57, 56, 55, 13, 14, 0, 6, 12] rfl) (sX 17179869180 rfl)
    ·replace h3 := ZaV h3
     refine gR 4 rfl (ZaK rfl rfl (Zax (by omega) (by omega)) (gR 2 rfl ?_))
     exact Zar (i + 1, d, out, _, _) ⟨by dsimp only;omega, by assumption, hI, by first | (simp;omega) | (have := hol0 ‹_›;simp;omega)⟩ (by dsimp only;omega) (fun a F => F.only [57, 56, 55, 13, 14, 0, 6, 12] rfl) (sX 17179869182 rfl)
  ·replace h1 := dqV h1
   refine gR 14 rfl (ZaE rfl (bne_iff_ne.2 (by omega)) (gR 2 rfl (Zah 0 rfl rfl (ZjG ‹_›) ?_)))
   refine g_bs rfl rfl rfl (ZeD ‹_›) (fun b79 => ?_)
   refine ZbI 2 0 (enc := srC) rfl rfl ‹_› rfl rfl (ZcK ‹_›) (by omega) (fun _ => rfl) (fun v80 es80 hO80 => ?_) (Zfh _)
   refine gR 5 rfl (ZaK rfl rfl (Zax (by omega) (by omega)) (gR 2 rfl ?_))
   exact Zar (i + 1, d, out ++ [x], _, _) ⟨by dsimp only;omega, by assumption, Zbn hI hxi, by first | (simp;omega) | (have := hol0 ‹_›;simp;omega)⟩ (by dsimp only;omega) (fun a F => F.only [57, 56, 55, 13, 14, 0, 6, 12] rfl) (sX 17179869180 rfl)
 ·have hli : i = l.length := by omega
  have hol3 : out.length ≤ i + 1 := by cases d <;> simp at hol <;> omega
  obtain ⟨q4, c4, rfl, hq4⟩ := ZbS hOs
  have hol0 : d = false → out.length ≤ i := fun h => by rw [h] at hol;simpa using hol
  refine gR 6 rfl (Zav rfl (dqF (by omega)) (gR 2 rfl (ZaZ (gR 9 rfl (g_if rfl (fun h1 => ?_) (fun h1 => ?_))))))
  ·replace h1 := Zaa h1
   refine gR 2 rfl (Zah 1 rfl rfl (ZjG ‹_›) ?_)
   refine g_bs rfl rfl rfl (ZeD ‹_›) (fun b86 => ?_)
   refine ZbI 1 0 (enc := srC) rfl rfl ‹_› rfl rfl (ZcK ‹_›) (by omega) (fun _ => rfl) (fun v87 es87 hO87 => ?_) (Zfh _)
   refine gR 7 rfl (Zsp rfl ‹_› ?_)
   refine gR 3 rfl (g_if rfl (fun h2 => ?_) (fun h2 => ?_))
   ·replace h2 := dqU h2
    exact gR 8 rfl (Zcd rfl rfl rfl rfl fun w M => PhSs.zero M.ext)
   ·replace h2 := dqV h2
    exact gR 10 rfl (Zcd rfl rfl rfl rfl fun w M => ⟨_, out ++ [⟨t, d2, Zcx now 20⟩], 0, _, rfl, by assumption, Zbn hI nwI, by omega, M.sub (List.sublist_flatten_of_mem (by simp))⟩)
  ·replace h1 := Zac h1
   refine gR 10 rfl (g_if rfl (fun h2 => ?_) (fun h2 => ?_))
   ·replace h2 := dqU h2
    exact gR 8 rfl (Zcd rfl rfl rfl rfl fun w M => PhSs.zero M.ext)
   ·replace h2 := dqV h2
    exact gR 10 rfl (Zcd rfl rfl rfl rfl fun w M => ⟨_, out, 0, _, rfl, by assumption, hI, by omega, M.sub (List.sublist_flatten_of_mem (by simp))⟩)
theorem Zqp (l : List RouV) (hx : ∀ x ∈ l, IsRo x) (v : Value) (now : Int) (t : DstV) (ht : IsDv t) (nb : Int) (dd : DisV) (W : World) (hS : SlAt W 39 v l.length (rosC l)) : Cal Tryz.prog 144 [v, .int .i64 now, .agg (dvC t).toArray, .int .u64 nb, .agg (diC dd).toArray].toArray W fun r w' => PhRs r W w' := by
 obtain ⟨q, cap, rfl, _⟩ := id hS
 have hm := hS.memB [] (by simp)
 have nwI : IsRo ⟨t, nb, dd, Zcx now 10⟩ := ⟨ht, trivial⟩
 refine Zao (n := 83) (S := []) Zal Zak Tryz.func144 rfl rfl rfl ?_
 cases hv : Zdh l
 ·refine gR 2 rfl ?_
  refine ZaA rfl rfl fun b7 => ZaA rfl rfl fun b9 => gR 8 rfl (Zad rfl rfl (fun w M => Zeh _ ‹_› _ _ ((by assumption : SlAt _ _ _ _ _).later M.ext)) ?_)
  refine gR 2 rfl (ZaQ 21 rfl (notT ‹_›) ?_)
  exact gR 24 rfl (Zcd rfl rfl rfl rfl fun w M => PhRs.zero M.ext)
 have hl512 : l.length ≤ 512 := (Zkv.1 hv).1
 cases htm : Za5 now
 ·refine gR 2 rfl ?_
  refine ZaA rfl rfl fun b7 => ZaA rfl rfl fun b9 => gR 8 rfl (Zad rfl rfl (fun w M => Zeh _ ‹_› _ _ ((by assumption : SlAt _ _ _ _ _).later M.ext)) ?_)
  refine gR 2 rfl (ZaQ 21 rfl (notF ‹_›) ?_)
  refine Zah 1 rfl rfl (ZaO ‹_›) ?_
  refine Zad rfl rfl (fun w M => Zbg _ ‹_› _) ?_
  refine gR 3 rfl (Zan 26 rfl (fun h1 => ?_) (fun h1 => ?_))
  ·replace h1 := Zaa h1
   exact gR 19 rfl (Zcd rfl rfl rfl rfl fun w M => PhRs.zero M.ext)
  ·replace h1 := Zac h1
   refine Zah 0 rfl rfl (Zcl trivial) (Zad rfl rfl (fun w M => Zcv _ _) (gR 3 rfl (Zan 31 rfl (fun h2 => ?_) (fun h2 => ?_))))
   ·replace h2 := Zaa h2
    exact gR 14 rfl (Zcd rfl rfl rfl rfl fun w M => PhRs.zero M.ext)
   ·replace h2 := Zac h2
    refine gR 5 rfl (g_if rfl (fun h3 => ?_) (fun h3 => ?_))
    ·replace h3 := dqU h3
     exact gR 8 rfl (Zcd rfl rfl rfl rfl fun w M => PhRs.zero M.ext)
    ·replace h3 := dqV h3
     refine gR 6 rfl (Zad rfl rfl (fun w M => Zbd _ _) (gR 3 rfl (ZaE rfl (notT ‹_›) ?_)))
     exact gR 8 rfl (Zcd rfl rfl rfl rfl fun w M => PhRs.zero M.ext)
 obtain ⟨hn0, hn1⟩ := ZfS htm
 have hmk := Zuo t ht nb dd (Zcx now 10)
 refine gR 2 rfl (ZaA rfl rfl fun b7 => ZaA rfl rfl fun b9 => gR 8 rfl (Zad rfl rfl (fun w M => Zeh _ ‹_› _ _ ((by assumption : SlAt _ _ _ _ _).later M.ext)) ?_))
 refine gR 2 rfl (ZaQ 21 rfl (notF ‹_›) ?_)
 refine Zah 1 rfl rfl (ZaO ‹_›) ?_
 refine Zad rfl rfl (fun w M => Zbg _ ‹_› _) ?_
 refine gR 3 rfl (Zan 26 rfl (fun h1 => ?_) (fun h1 => ?_))
 ·replace h1 := Zaa h1
  exact gR 19 rfl (Zcd rfl rfl rfl rfl fun w M => PhRs.zero M.ext)
 replace h1 := Zac h1
 refine Zah 0 rfl rfl (Zcl trivial) (Zad rfl rfl (fun w M => Zcv _ _) (gR 3 rfl (Zan 31 rfl (fun h2 => ?_) (fun h2 => ?_))))
 ·replace h2 := Zaa h2
  exact gR 14 rfl (Zcd rfl rfl rfl rfl fun w M => PhRs.zero M.ext)
 replace h2 := Zac h2
 refine gR 5 rfl (g_if rfl (fun h3 => ?_) (fun h3 => ?_))
 ·replace h3 := dqU h3
  exact gR 8 rfl (Zcd rfl rfl rfl rfl fun w M => PhRs.zero M.ext)
 replace h3 := dqV h3
 refine gR 6 rfl (Zad rfl rfl (fun w M => Zbd _ _) (gR 3 rfl (Zav rfl (notF ‹_›) ?_)))
 refine gR 3 rfl (ZaG 7 83 rfl (by kernel_rfl) (ZaN 1 rfl rfl (ZaO ‹_›) ?_))
 refine fR 1 rfl (ZaN 0 rfl rfl (Zcl trivial) (fR 1 rfl (ZaH rfl rfl (fun w M => ZgU _ _ ‹_› ‹_› (by omega) (by omega) _) ?_)))
 refine fd_v (fun a w F M R r => Zaw F rfl ‹_› r) ?_
 refine Zsy fun b12 => Zas 0 rfl rfl (Zbz ‹_›) (Zdq _) rfl (Zag (by rw [Zbz ‹_›];first | rfl | rw [Zbz ‹_›])) rfl ?_
 refine gR 10 rfl (Zai 1 rfl rfl (Zez trivial) (gR 13 rfl (ZcO (Za1 (ι := Nat × Bool × (List RouV) × Value × (List (Nat × Obj))) ⟨fun (i, d, out, u, es) => l.length - i, fun (i, d, out, u, es) => i ≤ l.length ∧ (OwnS 76 39 u out.length (rosC out) es) ∧ (∀ y ∈ out, IsRo y) ∧ (out.length ≤ i + d.toNat), fun (i, d, out, u, es) => [(49, .int .i64 i), (48, .int .i64 l.length), (47, .slice q l.length cap), (13, u), (14, .bool d), (0, .slice q l.length cap), (12, .pointer (some ⟨b12, 0, none⟩))], fun (i, d, out, u, es) => [es, [(b12, .cells (roC ⟨t, nb, dd, Zcx now 10⟩).toArray 76 (0, 0))]]⟩ (0, (decide (dd.met = 65535)), [], _, []) ⟨by omega, OwnS.nilL _ _ _, fun y hy => (List.not_mem_nil hy).elim, by simp⟩ (fun a F => F.only [49, 48, 47, 13, 14, 0, 12] rfl) (by repeat (first | exact .refl _ | apply sC2 | apply sC1)) ?_))))
 rintro ⟨i, d, out, u, es⟩ ⟨hi_i, hOs, hI, hol⟩
 dsimp only
 by_cases hlt_i : i < l.length
 ·obtain ⟨b, o, cs, t', fz, rfl, hb, hs⟩ := hm (by omega)
  obtain ⟨x, hx0⟩ : ∃ x, x = l[i] := ⟨_, rfl⟩
  have hxm : x ∈ l := by rw [hx0];exact List.getElem_mem hlt_i
  have hxi : IsRo x := hx _ hxm
  have f1 : seg cs (o + (i : Int).toNat * 39) 39 = some (roC x) := by rw [hx0];exact Za0 (Zeg hx) hs hlt_i (by omega)
  have xd : IsDv x.to := hxi.1
  have hol3 : out.length ≤ i + 1 := by cases d <;> simp at hol <;> omega
  have hol4 : (out ++ [(⟨t, nb, dd, Zcx now 10⟩ : RouV)]).length = out.length + 1 := by simp
  have hol0 : d = false → out.length ≤ i := fun h => by rw [h] at hol;simpa using hol
  refine gR 6 rfl (ZaE rfl (dqT (by omega)) (gR 6 rfl (Zbk rfl rfl (by omega) (by omega) (ZbF rfl ‹_› (by with_reducible assumption) ?_))))
  refine Zat fun b16 => Zas 0 rfl rfl (Zbz ‹_›) (Zdq _) rfl (Zag (by rw [Zbz ‹_›];first | rfl | rw [Zbz ‹_›])) rfl ?_
  refine gR 4 rfl (Zah 0 rfl rfl (ZfJ ‹_›) ?_)
  refine Zah 2 rfl rfl (ZfJ ‹_›) ?_
  refine Zad rfl rfl (fun w M => Zip _ _ ‹_› ‹_› _) ?_
  refine gR 9 rfl (Zan 58 rfl (fun h1 => ?_) (fun h1 => ?_))
  ·replace h1 := dqU h1
   refine gR 5 rfl (g_if rfl (fun h2 => ?_) (fun h2 => ?_))
   ·replace h2 := Zaa h2
    refine gR 3 rfl (Zah 2 rfl rfl (ZfJ ‹_›) ?_)
    refine g_bs rfl rfl rfl (ZdE ‹_›) (fun b64 => ?_)
    refine ZbI 2 0 (enc := roC) rfl rfl ‹_› rfl rfl (Zbz ‹_›) (by omega) (fun _ => rfl) (fun v65 es65 hO65 => ?_) (Zdq _)
    refine gR 13 rfl (g_if rfl (fun h3 => ?_) (fun h3 => ?_))
    ·replace h3 := ZbE h3
     refine gR 2 rfl (Zah 1 rfl rfl (ZfJ ‹_›) ?_)
     refine g_bs rfl rfl rfl (ZdE ‹_›) (fun b70 => ?_)
     refine ZbI 3 0 (enc := roC) rfl rfl ‹_› rfl rfl (Zbz ‹_›) (by omega) (fun _ => rfl) (fun v71 es71 hO71 => ?_) (Zdq _)
     refine gR 5 rfl (ZaK rfl rfl (Zax (by omega) (by omega)) (gR 2 rfl ?_))
     exact Zar (i + 1, true, (out ++ [⟨t, nb, dd, Zcx now 10⟩]) ++ [x], _, _) ⟨by dsimp only;omega, by assumption, Zbn (Zbn hI nwI) hxi, by first | (simp;omega) | (have := hol0 ‹_›;simp;omega)⟩ (by dsimp only;omega) (fun a F => F.only [49, 48, 47, 13, 14, 0, 12] rfl) (sX 17179869176 rfl)
    ·replace h3 := ZaV h3
     refine gR 4 rfl (ZaK rfl rfl (Zax (by omega) (by omega)) (gR 2 rfl ?_))
     exact Zar (i + 1, true, out ++ [⟨t, nb, dd, Zcx now 10⟩], _, _) ⟨by dsimp only;omega, by assumption, Zbn hI nwI, by first | (simp;omega) | (have := hol0 ‹_›;simp;omega)⟩ (by dsimp only;omega) (fun a F => F.only [49, 48, 47, 13, 14, 0, 12] rfl) (sX 17179869180 rfl)
   ·replace h2 := Zac h2
    refine gR 8 rfl (g_if rfl (fun h3 => ?_) (fun h3 => ?_))
    ·replace h3 := ZbE h3
     refine gR 2 rfl (Zah 0 rfl rfl (ZfJ ‹_›) ?_)
     refine g_bs rfl rfl rfl (ZdE ‹_›) (fun b70 => ?_)
     refine ZbI 2 0 (enc := roC) rfl rfl ‹_› rfl rfl (Zbz ‹_›) (by omega) (fun _ => rfl) (fun v71 es71 hO71 => ?_) (Zdq _)
     refine gR 5 rfl (ZaK rfl rfl (Zax (by omega) (by omega)) (gR 2 rfl ?_))
     exact Zar (i + 1, d, out ++ [x], _, _) ⟨by dsimp only;omega, by assumption, Zbn hI hxi, by first | (simp;omega) | (have := hol0 ‹_›;simp;omega)⟩ (by dsimp only;omega) (fun a F => F.only [49, 48, 47, 13, 14, 0, 12] rfl) (sX 17179869180 rfl)
    ·replace h3 := ZaV h3
     refine gR 4 rfl (ZaK rfl rfl (Zax (by omega) (by omega)) (gR 2 rfl ?_))
     exact Zar (i + 1, d, out, _, _) ⟨by dsimp only;omega, by assumption, hI, by first | (simp;omega) | (have := hol0 ‹_›;simp;omega)⟩ (by dsimp only;omega) (fun a F => F.only [49, 48, 47, 13, 14, 0, 12] rfl) (sX 17179869182 rfl)
  ·replace h1 := dqV h1
   refine gR 14 rfl (ZaE rfl (bne_iff_ne.2 (by omega)) (gR 2 rfl (Zah 0 rfl rfl (ZfJ ‹_›) ?_)))
   refine g_bs rfl rfl rfl (ZdE ‹_›) (fun b70 => ?_)
   refine ZbI 2 0 (enc := roC) rfl rfl ‹_› rfl rfl (Zbz ‹_›) (by omega) (fun _ => rfl) (fun v71 es71 hO71 => ?_) (Zdq _)
   refine gR 5 rfl (ZaK rfl rfl (Zax (by omega) (by omega)) (gR 2 rfl ?_))
   exact Zar (i + 1, d, out ++ [x], _, _) ⟨by dsimp only;omega, by assumption, Zbn hI hxi, by first | (simp;omega) | (have := hol0 ‹_›;simp;omega)⟩ (by dsimp only;omega) (fun a F => F.only [49, 48, 47, 13, 14, 0, 12] rfl) (sX 17179869180 rfl)
 ·have hli : i = l.length := by omega
  have hol3 : out.length ≤ i + 1 := by cases d <;> simp at hol <;> omega
  obtain ⟨q4, c4, rfl, hq4⟩ := ZbS hOs
  have hol0 : d = false → out.length ≤ i := fun h => by rw [h] at hol;simpa using hol
  refine gR 6 rfl (Zav rfl (dqF (by omega)) (gR 2 rfl (ZaZ (gR 9 rfl (g_if rfl (fun h1 => ?_) (fun h1 => ?_))))))
  ·replace h1 := Zaa h1
   refine gR 2 rfl (Zah 1 rfl rfl (ZfJ ‹_›) ?_)
   refine g_bs rfl rfl rfl (ZdE ‹_›) (fun b77 => ?_)
   refine ZbI 1 0 (enc := roC) rfl rfl ‹_› rfl rfl (Zbz ‹_›) (by omega) (fun _ => rfl) (fun v78 es78 hO78 => ?_) (Zdq _)
   refine gR 7 rfl (Zsp rfl ‹_› ?_)
   refine gR 3 rfl (g_if rfl (fun h2 => ?_) (fun h2 => ?_))
   ·replace h2 := dqU h2
    exact gR 8 rfl (Zcd rfl rfl rfl rfl fun w M => PhRs.zero M.ext)
   ·replace h2 := dqV h2
    exact gR 10 rfl (Zcd rfl rfl rfl rfl fun w M => ⟨_, out ++ [⟨t, nb, dd, Zcx now 10⟩], 0, _, rfl, by assumption, Zbn hI nwI, by omega, M.sub (List.sublist_flatten_of_mem (by simp))⟩)
  ·replace h1 := Zac h1
   refine gR 10 rfl (g_if rfl (fun h2 => ?_) (fun h2 => ?_))
   ·replace h2 := dqU h2
    exact gR 8 rfl (Zcd rfl rfl rfl rfl fun w M => PhRs.zero M.ext)
   ·replace h2 := dqV h2
    exact gR 10 rfl (Zcd rfl rfl rfl rfl fun w M => ⟨_, out, 0, _, rfl, by assumption, hI, by omega, M.sub (List.sublist_flatten_of_mem (by simp))⟩)
theorem Ztp (l : List InsV) (hx : ∀ x ∈ l, IsIn x) (hl : l.length ≤ 1000) (v : Value) (y : InsV) (nwI : IsIn y) (W : World) (hS : SlAt W 40 v l.length (insC l)) : Cal Tryz.prog 145 [v, .agg (inC y).toArray].toArray W fun r w' => ∃ (m : List InsV) (ent : List (Nat × Obj)), OwnS 74 40 r m.length (insC m) ent ∧ (∀ y ∈ m, IsIn y) ∧ m.length ≤ l.length + 1 ∧ Mem [] W w' ent := by
 obtain ⟨q, cap, rfl, _⟩ := id hS
 have hm := hS.memB [] (by simp)
 have yd : IsDv y.to := nwI.1
 refine Zao (n := 45) (S := []) Zal Zak Tryz.func145 rfl rfl rfl (gR 2 rfl (ZaA rfl rfl fun b3 => gR 22 rfl (ZcO (Za1 (ι := Nat × Bool × (List InsV) × Value × (List (Nat × Obj))) ⟨fun (i, d, out, u, es) => l.length - i, fun (i, d, out, u, es) => i ≤ l.length ∧ (OwnS 74 40 u out.length (insC out) es) ∧ (∀ y ∈ out, IsIn y) ∧ (out.length ≤ i + d.toNat), fun (i, d, out, u, es) => [(12, .int .i64 i), (11, .int .i64 l.length), (10, .slice q l.length cap), (5, u), (6, .bool d), (0, .slice q l.length cap), (3, .pointer (some ⟨b3, 0, none⟩))], fun (i, d, out, u, es) => [es, [(b3, .cells (inC y).toArray 74 (0, 0))]]⟩ (0, false, [], _, []) ⟨by omega, OwnS.nilL _ _ _, fun y hy => (List.not_mem_nil hy).elim, by simp⟩ (fun a F => F.only [12, 11, 10, 5, 6, 0, 3] rfl) (sX 17179869183 rfl) ?_))))
 rintro ⟨i, d, out, u, es⟩ ⟨hi_i, hOs, hI, hol⟩
 dsimp only
 by_cases hlt_i : i < l.length
 ·obtain ⟨b, o, cs, t', fz, rfl, hb, hs⟩ := hm (by omega)
  obtain ⟨x, hx0⟩ : ∃ x, x = l[i] := ⟨_, rfl⟩
  have hxm : x ∈ l := by rw [hx0];exact List.getElem_mem hlt_i
  have hxi : IsIn x := hx _ hxm
  have f1 : seg cs (o + (i : Int).toNat * 40) 40 = some (inC x) := by rw [hx0];exact Za0 (Zb5 hx) hs hlt_i (by omega)
  have xd : IsDv x.to := hxi.1
  have hol3 : out.length ≤ i + 1 := by cases d <;> simp at hol <;> omega
  have hol4 : (out ++ [(y : InsV)]).length = out.length + 1 := by simp
  have hol0 : d = false → out.length ≤ i := fun h => by rw [h] at hol;simpa using hol
  refine gR 6 rfl (ZaE rfl (dqT (by omega)) (gR 6 rfl (Zbk rfl rfl (by omega) (by omega) (ZbF rfl ‹_› (by with_reducible assumption) ?_))))
  refine Zat fun b8 => Zas 0 rfl rfl (Zaj ‹_›) (ZaY _) rfl (Zag (by rw [Zaj ‹_›];first | rfl | rw [Zaj ‹_›])) rfl ?_
  refine gR 5 rfl (Zah 0 rfl rfl (Zcy ‹_›) ?_)
  refine gR 1 rfl (Zah 2 rfl rfl (Zcy ‹_›) ?_)
  refine Zad rfl rfl (fun w M => Zbt _ _ ‹_› ‹_› _) ?_
  refine gR 9 rfl (Zan 23 rfl (fun h1 => ?_) (fun h1 => ?_))
  ·replace h1 := dqU h1
   refine gR 5 rfl (g_if rfl (fun h2 => ?_) (fun h2 => ?_))
   ·replace h2 := Zaa h2
    refine gR 3 rfl (Zah 2 rfl rfl (Zbi ‹_›) ?_)
    refine g_bs rfl rfl rfl (ZbY ‹_›) (fun b29 => ?_)
    refine ZbI 2 0 (enc := inC) rfl rfl ‹_› rfl rfl (Zaj ‹_›) (by omega) (fun _ => rfl) (fun v30 es30 hO30 => ?_) (ZaY _)
    refine gR 13 rfl (g_if rfl (fun h3 => ?_) (fun h3 => ?_))
    ·replace h3 := ZbE h3
     refine gR 2 rfl (Zah 1 rfl rfl (Zbi ‹_›) ?_)
     refine g_bs rfl rfl rfl (ZbY ‹_›) (fun b35 => ?_)
     refine ZbI 3 0 (enc := inC) rfl rfl ‹_› rfl rfl (Zaj ‹_›) (by omega) (fun _ => rfl) (fun v36 es36 hO36 => ?_) (ZaY _)
     refine gR 5 rfl (ZaK rfl rfl (Zax (by omega) (by omega)) (gR 2 rfl ?_))
     exact Zar (i + 1, true, (out ++ [y]) ++ [x], _, _) ⟨by dsimp only;omega, by assumption, Zbn (Zbn hI nwI) hxi, by first | (simp;omega) | (have := hol0 ‹_›;simp;omega)⟩ (by dsimp only;omega) (fun a F => F.only [12, 11, 10, 5, 6, 0, 3] rfl) (sX 17179869176 rfl)
    ·replace h3 := ZaV h3
     refine gR 4 rfl (ZaK rfl rfl (Zax (by omega) (by omega)) (gR 2 rfl ?_))
     exact Zar (i + 1, true, out ++ [y], _, _) ⟨by dsimp only;omega, by assumption, Zbn hI nwI, by first | (simp;omega) | (have := hol0 ‹_›;simp;omega)⟩ (by dsimp only;omega) (fun a F => F.only [12, 11, 10, 5, 6, 0, 3] rfl) (sX 17179869180 rfl)
   ·replace h2 := Zac h2
    refine gR 8 rfl (g_if rfl (fun h3 => ?_) (fun h3 => ?_))
    ·replace h3 := ZbE h3
     refine gR 2 rfl (Zah 0 rfl rfl (Zbi ‹_›) ?_)
     refine g_bs rfl rfl rfl (ZbY ‹_›) (fun b35 => ?_)
     refine ZbI 2 0 (enc := inC) rfl rfl ‹_› rfl rfl (Zaj ‹_›) (by omega) (fun _ => rfl) (fun v36 es36 hO36 => ?_) (ZaY _)
     refine gR 5 rfl (ZaK rfl rfl (Zax (by omega) (by omega)) (gR 2 rfl ?_))
     exact Zar (i + 1, d, out ++ [x], _, _) ⟨by dsimp only;omega, by assumption, Zbn hI hxi, by first | (simp;omega) | (have := hol0 ‹_›;simp;omega)⟩ (by dsimp only;omega) (fun a F => F.only [12, 11, 10, 5, 6, 0, 3] rfl) (sX 17179869180 rfl)
    ·replace h3 := ZaV h3
     refine gR 4 rfl (ZaK rfl rfl (Zax (by omega) (by omega)) (gR 2 rfl ?_))
     exact Zar (i + 1, d, out, _, _) ⟨by dsimp only;omega, by assumption, hI, by first | (simp;omega) | (have := hol0 ‹_›;simp;omega)⟩ (by dsimp only;omega) (fun a F => F.only [12, 11, 10, 5, 6, 0, 3] rfl) (sX 17179869182 rfl)
  ·replace h1 := dqV h1
   refine gR 14 rfl (ZaE rfl (bne_iff_ne.2 (by omega)) (gR 2 rfl (Zah 0 rfl rfl (Zbi ‹_›) ?_)))
   refine g_bs rfl rfl rfl (ZbY ‹_›) (fun b35 => ?_)
   refine ZbI 2 0 (enc := inC) rfl rfl ‹_› rfl rfl (Zaj ‹_›) (by omega) (fun _ => rfl) (fun v36 es36 hO36 => ?_) (ZaY _)
   refine gR 5 rfl (ZaK rfl rfl (Zax (by omega) (by omega)) (gR 2 rfl ?_))
   exact Zar (i + 1, d, out ++ [x], _, _) ⟨by dsimp only;omega, by assumption, Zbn hI hxi, by first | (simp;omega) | (have := hol0 ‹_›;simp;omega)⟩ (by dsimp only;omega) (fun a F => F.only [12, 11, 10, 5, 6, 0, 3] rfl) (sX 17179869180 rfl)
 ·have hli : i = l.length := by omega
  have hol3 : out.length ≤ i + 1 := by cases d <;> simp at hol <;> omega
  obtain ⟨q4, c4, rfl, hq4⟩ := ZbS hOs
  have hol0 : d = false → out.length ≤ i := fun h => by rw [h] at hol;simpa using hol
  refine gR 6 rfl (Zav rfl (dqF (by omega)) (gR 2 rfl (ZaZ (gR 9 rfl (g_if rfl (fun h1 => ?_) (fun h1 => ?_))))))
  ·replace h1 := Zaa h1
   refine gR 2 rfl (Zah 1 rfl rfl (Zbi ‹_›) ?_)
   refine g_bs rfl rfl rfl (ZbY ‹_›) (fun b42 => ?_)
   refine ZbI 1 0 (enc := inC) rfl rfl ‹_› rfl rfl (Zaj ‹_›) (by omega) (fun _ => rfl) (fun v43 es43 hO43 => ?_) (ZaY _)
   refine gR 10 rfl (Zab rfl rfl rfl fun w M => ?_)
   exact ⟨out ++ [y], _, by assumption, Zbn hI nwI, by first | omega | (have := hol0 ‹_›;simp;omega), M.sub (List.sublist_flatten_of_mem (by simp))⟩
  ·replace h1 := Zac h1
   refine gR 9 rfl (Zab rfl rfl rfl fun w M => ?_)
   exact ⟨out, _, by assumption, hI, by first | omega | (have := hol0 ‹_›;simp;omega), M.sub (List.sublist_flatten_of_mem (by simp))⟩
theorem Zmo {bt : Nat} {p : Option Addr} {len cap k : Nat} {xs : List Int} (now : Int) (hnow : 0 ≤ now ∧ now ≤ 1099511627776) (W : World) (hT : ZcG W bt p len xs) (hb : W.heap[bt]? = some (tobj p len cap k)) : Cal Tryz.prog 60 [.pointer (some ⟨bt, 0, none⟩), .int .i64 now].toArray W fun r w' => ∃ (l : List SrcV) (k' : Nat) (ent : List (Nat × Obj)), OwnS 166 38 r l.length (srsC l) ent ∧ (∀ x ∈ l, IsSr x) ∧ l.length ≤ 256 ∧ Mem [bt] W w' ((bt, tobj p len cap k') :: ent) := by
 have n5 := Zbm xs k (n := 7) (by omega)
 refine Zcp (n := 31) [bt] hb (by simp) Zal Zak Tryz.func60 rfl rfl rfl (gR 14 rfl (ZaS 0 rfl rfl rfl (fun w M => Zba _ (by omega) (by omega) w (hT.later M.ext) (M.at_ _ (Zae (i := 0) rfl))) rfl (gR 4 rfl (ZcO ?_))))
 refine Za1 (ι := Int × (List SrcV) × Value × (List (Nat × Obj)) × Nat) ⟨fun (d, out, u, es, k) => d.toNat, fun (d, out, u, es, k) => d ≤ 7 ∧ OwnS 166 38 u out.length (srsC out) es ∧ (∀ y ∈ out, IsSr y) ∧ out.length ≤ 256, fun (d, out, u, es, k) => [(6, .int .i64 d), (5, u), (0, .pointer (some ⟨bt, 0, none⟩)), (1, .int .i64 now)], fun (d, out, u, es, k) => [es, [(bt, tobj p len cap k)]]⟩ (_, [], _, [], _) ⟨by first | omega | (dsimp only;omega), OwnS.nilL _ _ _, fun y hy => (List.not_mem_nil hy).elim, by simp⟩ (fun a F => F.only [6, 5, 0, 1] rfl) (sX 17179869183 rfl) ?_
 clear n5
 rintro ⟨d, out, u, es, k⟩ ⟨hd, hOs, hI, hol⟩
 dsimp only at hd hOs hI hol ⊢
 by_cases hlt : 0 < d
 ·refine gR 7 rfl ?_
  refine ZaE rfl (dqT (by omega)) (gR 9 rfl ?_)
  refine Za8 (ι := Int × Nat) 1 (fun j => .int .i64 j.1) (fun j => True) (fun j => tobj p len cap j.2) (fun _ => []) rfl rfl rfl (fun w M => Cal.mono (ZcH now hnow.1 hnow.2 w (hT.later M.ext) (M.at_ _ (Zae (i := 1) rfl))) fun r w' h => by
    obtain ⟨x, k', q, _, N⟩ := h
    exact ⟨(x, k'), q, trivial, by simpa using N⟩) (fun _ => rfl) ?_
  rintro ⟨tm, k1⟩ -
  dsimp only [List.nil_append]
  refine gR 1 rfl ?_
  refine Za8 (ι := DstV × Nat) 1 (fun j => dvV j.1) (fun j => IsDv j.1) (fun j => tobj p len cap j.2) (fun _ => []) rfl rfl rfl (fun w M => Cal.mono (Zmn w (hT.later M.ext) (M.at_ _ (Zae (i := 1) rfl))) fun r w' h => by
    obtain ⟨x, k', q, h1, _, N⟩ := h
    exact ⟨(x, k'), q, h1, by simpa using N⟩) (fun _ => rfl) ?_
  rintro ⟨x, k2⟩ xd
  dsimp only [List.nil_append] at xd ⊢
  unfold dvV
  refine gR 1 rfl ?_
  refine Za8 (ι := DisV × Nat) 1 (fun j => diV j.1) (fun j => True) (fun j => tobj p len cap j.2) (fun _ => []) rfl rfl rfl (fun w M => Cal.mono (Zjp w (hT.later M.ext) (M.at_ _ (Zae (i := 1) rfl))) fun r w' h => by
    obtain ⟨x, k', q, _, N⟩ := h
    exact ⟨(x, k'), q, trivial, by simpa using N⟩) (fun _ => rfl) ?_
  rintro ⟨di, k3⟩ -
  dsimp only [List.nil_append]
  unfold diV
  skip
  refine Zct (ι := Value × (List SrcV) × Int × List (Nat × Obj)) (fun j => .tuple #[j.1, .int .i64 j.2.2.1]) (fun j => OwnS 166 38 j.1 j.2.1.length (srsC j.2.1) j.2.2.2 ∧ (∀ y ∈ j.2.1, IsSr y) ∧ j.2.1.length ≤ 256) (fun j => [j.2.2.2]) rfl rfl (fun w M => Cal.mono (Ztl out hI u tm x xd di w (hOs.slAt M (fun q hq => List.mem_append_left _ hq))) fun r w' h => by
   obtain ⟨u, m, c, ent, q, h1, h2, h3, N⟩ := h
   exact ⟨(u, m, c, ent), q, ⟨h1, h2, h3⟩, by simpa using N⟩) ?_
  rintro ⟨u1, m1, c1, e1⟩ ⟨hO1, hI1, hl1⟩
  dsimp only [List.cons_append, List.nil_append] at hO1 hI1 hl1 ⊢
  refine gR 13 rfl (g_if rfl (fun h1 => ?_) (fun h1 => ?_))
  ·replace h1 := dqU h1
   refine gR 8 rfl (ZeX rfl rfl (Zax (by omega) (by omega)) (gR 2 rfl ?_))
   exact Zar (d - 1, m1, _, _, _) ⟨by dsimp only;omega, by assumption, hI1, hl1⟩ (by dsimp only;omega) (fun a F => F.only [6, 5, 0, 1] rfl) (by (try dsimp only);repeat (first | exact .refl _ | with_reducible exact sC0 _ | with_reducible apply sC2 | apply sC1))
  ·replace h1 := dqV h1
   refine gR 5 rfl (ZeX rfl rfl (Zax (by omega) (by omega)) (gR 2 rfl ?_))
   exact Zar (d - 1, out, _, _, _) ⟨by dsimp only;omega, by assumption, hI, hol⟩ (by dsimp only;omega) (fun a F => F.only [6, 5, 0, 1] rfl) (sX 17179869182 rfl)
 ·refine gR 7 rfl ?_
  exact Zav rfl (dqF (by omega)) (gR 2 rfl (ZaZ (gR 9 rfl (Zab rfl rfl rfl fun w M => ⟨out, _, es, hOs, hI, hol, M.perm List.perm_append_comm⟩))))
theorem ZnB {bt : Nat} {p : Option Addr} {len cap k : Nat} {xs : List Int} (now : Int) (hnow : 0 ≤ now ∧ now ≤ 1099511627776) (W : World) (hT : ZcG W bt p len xs) (hb : W.heap[bt]? = some (tobj p len cap k)) : Cal Tryz.prog 61 [.pointer (some ⟨bt, 0, none⟩), .int .i64 now].toArray W fun r w' => ∃ (l : List RouV) (k' : Nat) (ent : List (Nat × Obj)), OwnS 76 39 r l.length (rosC l) ent ∧ (∀ x ∈ l, IsRo x) ∧ l.length ≤ 512 ∧ Mem [bt] W w' ((bt, tobj p len cap k') :: ent) := by
 have n5 := Zbm xs k (n := 10) (by omega)
 refine Zcp (n := 33) [bt] hb (by simp) Zal Zak Tryz.func61 rfl rfl rfl (gR 14 rfl (ZaS 0 rfl rfl rfl (fun w M => Zba _ (by omega) (by omega) w (hT.later M.ext) (M.at_ _ (Zae (i := 0) rfl))) rfl (gR 4 rfl (ZcO ?_))))
 refine Za1 (ι := Int × (List RouV) × Value × (List (Nat × Obj)) × Nat) ⟨fun (d, out, u, es, k) => d.toNat, fun (d, out, u, es, k) => d ≤ 10 ∧ OwnS 76 39 u out.length (rosC out) es ∧ (∀ y ∈ out, IsRo y) ∧ out.length ≤ 512, fun (d, out, u, es, k) => [(6, .int .i64 d), (5, u), (0, .pointer (some ⟨bt, 0, none⟩)), (1, .int .i64 now)], fun (d, out, u, es, k) => [es, [(bt, tobj p len cap k)]]⟩ (_, [], _, [], _) ⟨by first | omega | (dsimp only;omega), OwnS.nilL _ _ _, fun y hy => (List.not_mem_nil hy).elim, by simp⟩ (fun a F => F.only [6, 5, 0, 1] rfl) (sX 17179869183 rfl) ?_
 clear n5
 rintro ⟨d, out, u, es, k⟩ ⟨hd, hOs, hI, hol⟩
 dsimp only at hd hOs hI hol ⊢
 by_cases hlt : 0 < d
 ·refine gR 7 rfl ?_
  refine ZaE rfl (dqT (by omega)) (gR 9 rfl ?_)
  refine Za8 (ι := Int × Nat) 1 (fun j => .int .i64 j.1) (fun j => True) (fun j => tobj p len cap j.2) (fun _ => []) rfl rfl rfl (fun w M => Cal.mono (ZcH now hnow.1 hnow.2 w (hT.later M.ext) (M.at_ _ (Zae (i := 1) rfl))) fun r w' h => by
    obtain ⟨x, k', q, _, N⟩ := h
    exact ⟨(x, k'), q, trivial, by simpa using N⟩) (fun _ => rfl) ?_
  rintro ⟨tm, k1⟩ -
  dsimp only [List.nil_append]
  refine gR 1 rfl ?_
  refine Za8 (ι := DstV × Nat) 1 (fun j => dvV j.1) (fun j => IsDv j.1) (fun j => tobj p len cap j.2) (fun _ => []) rfl rfl rfl (fun w M => Cal.mono (Zmn w (hT.later M.ext) (M.at_ _ (Zae (i := 1) rfl))) fun r w' h => by
    obtain ⟨x, k', q, h1, _, N⟩ := h
    exact ⟨(x, k'), q, h1, by simpa using N⟩) (fun _ => rfl) ?_
  rintro ⟨x, k2⟩ xd
  dsimp only [List.nil_append] at xd ⊢
  unfold dvV
  refine gR 1 rfl ?_
  refine Za8 (ι := Int × Nat) 1 (fun j => .int .u64 j.1) (fun j => True) (fun j => tobj p len cap j.2) (fun _ => []) rfl rfl rfl (fun w M => Cal.mono (ZoK w (hT.later M.ext) (M.at_ _ (Zae (i := 1) rfl))) fun r w' h => by
    obtain ⟨x, k', q, N⟩ := h
    exact ⟨(x, k'), q, trivial, by simpa using N⟩) (fun _ => rfl) ?_
  rintro ⟨nb, k3⟩ -
  dsimp only [List.nil_append]
  refine gR 1 rfl ?_
  refine Za8 (ι := DisV × Nat) 1 (fun j => diV j.1) (fun j => True) (fun j => tobj p len cap j.2) (fun _ => []) rfl rfl rfl (fun w M => Cal.mono (Zjp w (hT.later M.ext) (M.at_ _ (Zae (i := 1) rfl))) fun r w' h => by
    obtain ⟨x, k', q, _, N⟩ := h
    exact ⟨(x, k'), q, trivial, by simpa using N⟩) (fun _ => rfl) ?_
  rintro ⟨di, k4⟩ -
  dsimp only [List.nil_append]
  unfold diV
  skip
  refine Zct (ι := Value × (List RouV) × Int × List (Nat × Obj)) (fun j => .tuple #[j.1, .int .i64 j.2.2.1]) (fun j => OwnS 76 39 j.1 j.2.1.length (rosC j.2.1) j.2.2.2 ∧ (∀ y ∈ j.2.1, IsRo y) ∧ j.2.1.length ≤ 512) (fun j => [j.2.2.2]) rfl rfl (fun w M => Cal.mono (Zqp out hI u tm x xd nb di w (hOs.slAt M (fun q hq => List.mem_append_left _ hq))) fun r w' h => by
   obtain ⟨u, m, c, ent, q, h1, h2, h3, N⟩ := h
   exact ⟨(u, m, c, ent), q, ⟨h1, h2, h3⟩, by simpa using N⟩) ?_
  rintro ⟨u1, m1, c1, e1⟩ ⟨hO1, hI1, hl1⟩
  dsimp only [List.cons_append, List.nil_append] at hO1 hI1 hl1 ⊢
  refine gR 13 rfl (g_if rfl (fun h1 => ?_) (fun h1 => ?_))
  ·replace h1 := dqU h1
   refine gR 8 rfl (ZeX rfl rfl (Zax (by omega) (by omega)) (gR 2 rfl ?_))
   exact Zar (d - 1, m1, _, _, _) ⟨by dsimp only;omega, by assumption, hI1, hl1⟩ (by dsimp only;omega) (fun a F => F.only [6, 5, 0, 1] rfl) (by (try dsimp only);repeat (first | exact .refl _ | with_reducible exact sC0 _ | with_reducible apply sC2 | apply sC1))
  ·replace h1 := dqV h1
   refine gR 5 rfl (ZeX rfl rfl (Zax (by omega) (by omega)) (gR 2 rfl ?_))
   exact Zar (d - 1, out, _, _, _) ⟨by dsimp only;omega, by assumption, hI, hol⟩ (by dsimp only;omega) (fun a F => F.only [6, 5, 0, 1] rfl) (sX 17179869182 rfl)
 ·refine gR 7 rfl ?_
  exact Zav rfl (dqF (by omega)) (gR 2 rfl (ZaZ (gR 9 rfl (Zab rfl rfl rfl fun w M => ⟨out, _, es, hOs, hI, hol, M.perm List.perm_append_comm⟩))))
section
variable {c : Cx} {fr : List (Nat × Value)} {l : Row} {x : RX} {xs : List (Nat × XP)} {ty : TypeId} {pos : String} {af : Array Edge}
theorem Zho (i : Nat) {t : TypeId} {y z : Operand} {b off n : Nat} {cs cs' vs : List Value} {t' : TypeId} {l' : Row} [hs : TAgg c.P t n] (hx : Ev fr y = some (.pointer (some ⟨b, off, none⟩))) (hy : Ev fr z = some (.agg vs.toArray)) (hn : vs.length = n) (h1 : vs.all (·.oneCell') = true) (hl : nthO l i = some [(b, .cells cs.toArray t' (0, 0))]) (hp : put cs off vs = some cs') (hl' : setO l i [(b, .cells cs'.toArray t' (0, 0))] = some l') (hB : b ∈ x.B) :
  OpF c x xs ⟨none, .store t y z, ty, pos, af, none⟩ fr l (fun _ r => r = l') := fun a w F M _ => by
 have Mb : Mem [b] w w [(b, .cells cs.toArray t' (0, 0))] := ⟨Ext.refl _ _, fun p hp => by simp at hp;subst hp;exact M.at_ _ (Zae hl), by simp, fun p hp => .inl (by simp at hp;subst hp;simp)⟩
 refine ZbV Mb (F.e hx) (F.e hy) hn h1 .here hp .here fun w' M' => ?_
 exact ⟨M'.ext.mono fun k hk => by simp at hk;subst hk;exact hB, l', rfl, M.turned (Ze6 hl hl') M'.ext (M'.heap .here)⟩
end
theorem Zth {a b c d : List (Nat × Obj)} : ([a, b, c, d] : Row).flatten.Perm (([b] : Row).flatten ++ ([a, c, d] : Row).flatten) := by
 simp only [List.flatten_cons, List.flatten_nil, List.append_nil]
 classical
 rw [List.perm_iff_count]
 intro x
 simp only [List.count_append]
 omega
theorem Zkd {bt : Nat} {p : Option Addr} {len cap k : Nat} {xs : List Int} (now : Int) (hnow : 0 ≤ now ∧ now ≤ 1099511627776) (rl : List RouV) (hrx : ∀ x ∈ rl, IsRo x) (hrl : rl.length ≤ 1000) (v : Value) (W : World) (hS : SlAt W 39 v rl.length (rosC rl)) (hv : NewV (bt + 1) v) (hT : ZcG W bt p len xs) (hb : W.heap[bt]? = some (tobj p len cap k)) : Cal Tryz.prog 62 [.pointer (some ⟨bt, 0, none⟩), .int .i64 now, v].toArray W fun r w' => ∃ (l : List InsV) (k' : Nat) (ent : List (Nat × Obj)), OwnS 74 40 r l.length (insC l) ent ∧ (∀ x ∈ l, IsIn x) ∧ l.length ≤ 7 ∧ Mem [bt] W w' ((bt, tobj p len cap k') :: ent) := by
 obtain ⟨qr, cr, rfl, _⟩ := id hS
 have hm := hS.memB [bt] (fun b o s e hb => by have := hv b o s _ _ (by rw [e]);simp at hb;omega)
 have n5 := Zbm xs k (n := 8) (by omega)
 refine Zcp (n := 65) [bt] hb (by simp) Zal Zak Tryz.func62 rfl rfl rfl (gR 14 rfl (ZaS 0 rfl rfl rfl (fun w M => Zba _ (by omega) (by omega) w (hT.later M.ext) (M.at_ _ (Zae (i := 0) rfl))) rfl (gR 4 rfl (ZcO ?_))))
 refine Za1 (ι := Int × (List InsV) × Value × (List (Nat × Obj)) × Nat) ⟨fun (d, out, u, es, k) => d.toNat, fun (d, out, u, es, k) => 0 ≤ d ∧ d ≤ 7 ∧ OwnS 74 40 u out.length (insC out) es ∧ (∀ y ∈ out, IsIn y) ∧ (out.length : Int) + d ≤ 7, fun (d, out, u, es, k) => [(8, .int .i64 d), (7, u), (0, .pointer (some ⟨bt, 0, none⟩)), (1, .int .i64 now), (2, .slice qr rl.length cr)], fun (d, out, u, es, k) => [es, [(bt, tobj p len cap k)]]⟩ (_, [], _, [], _) ⟨by first | omega | (dsimp only;omega), by first | omega | (dsimp only;omega), OwnS.nilL _ _ _, fun y hy => (List.not_mem_nil hy).elim, by first | (simp;omega) | (dsimp only;simp;omega)⟩ (fun a F => F.only [8, 7, 0, 1, 2] rfl) (sX 17179869183 rfl) ?_
 clear n5
 rintro ⟨d, out, u, es, k⟩ ⟨hd0, hd, hOs, hI, hol⟩
 dsimp only at hd0 hd hOs hI hol ⊢
 by_cases hlt : 0 < d
 ·refine gR 7 rfl ?_
  refine ZaE rfl (dqT (by omega)) (gR 7 rfl ?_)
  refine Za8 (ι := DstV × Nat) 1 (fun j => dvV j.1) (fun j => IsDv j.1) (fun j => tobj p len cap j.2) (fun _ => []) rfl rfl rfl (fun w M => Cal.mono (Zmn w (hT.later M.ext) (M.at_ _ (Zae (i := 1) rfl))) fun r w' h => by
    obtain ⟨x, k', q, h1, _, N⟩ := h
    exact ⟨(x, k'), q, h1, by simpa using N⟩) (fun _ => rfl) ?_
  rintro ⟨x, k2⟩ xd
  dsimp only [List.nil_append] at xd ⊢
  unfold dvV
  refine gR 1 rfl ?_
  refine Za8 (ι := Int × Nat) 1 (fun j => .int .u64 j.1) (fun j => True) (fun j => tobj p len cap j.2) (fun _ => []) rfl rfl rfl (fun w M => Cal.mono (ZoK w (hT.later M.ext) (M.at_ _ (Zae (i := 1) rfl))) fun r w' h => by
    obtain ⟨x, k', q, N⟩ := h
    exact ⟨(x, k'), q, trivial, by simpa using N⟩) (fun _ => rfl) ?_
  rintro ⟨nb, k3⟩ -
  dsimp only [List.nil_append]
  refine gR 1 rfl ?_
  refine Za8 (ι := DisV × Nat) 1 (fun j => diV j.1) (fun j => True) (fun j => tobj p len cap j.2) (fun _ => []) rfl rfl rfl (fun w M => Cal.mono (Zjp w (hT.later M.ext) (M.at_ _ (Zae (i := 1) rfl))) fun r w' h => by
    obtain ⟨x, k', q, _, N⟩ := h
    exact ⟨(x, k'), q, trivial, by simpa using N⟩) (fun _ => rfl) ?_
  rintro ⟨di, k4⟩ -
  dsimp only [List.nil_append]
  unfold diV
  have hmk := Zuv x xd nb di (-1) 0
  have y0 : IsIn ⟨x, nb, di, -1, 0⟩ := ⟨xd, trivial⟩
  refine g_v (fun a w F M R r => Zaw F rfl (ZtI _ ‹_› _ _ _) r) ?_
  refine Zat fun b9 => Zas 0 rfl rfl (Zaj ‹_›) (ZaY _) rfl (Zag (by rw [Zaj ‹_›];first | rfl | rw [Zaj ‹_›])) rfl ?_
  refine gR 3 rfl (ZcD (ι := InsV × Nat) ⟨fun (y, k) => IsIn y, fun (y, k) => [(9, .pointer (some ⟨b9, 0, none⟩)), (8, .int .i64 d), (7, u), (0, .pointer (some ⟨bt, 0, none⟩)), (1, .int .i64 now), (2, .slice qr rl.length cr)], fun (y, k) => [[(b9, .cells (inC y).toArray 74 (0, 0))], es, [(bt, tobj p len cap k)]]⟩ ?_ ?_)
  ·by_cases hr : 0 < rl.length
   ·obtain ⟨br, orr, csr, tr, fzr, rfl, hbr, hsr⟩ := hm hr
    refine gR 6 rfl (ZaQ 27 rfl (dqT (by omega)) (gR 1 rfl (ZaS 2 rfl rfl rfl (fun w M => Zfm _ (by omega) (by omega) w (hT.later M.ext) (M.at_ _ (Zae (i := 2) rfl))) rfl (gR 3 rfl (g_if rfl (fun h1 => ?_) (fun h1 => ?_))))))
    focus
     replace h1 := dqU h1
     refine gR 6 rfl ?_
    rotate_left 1
    focus
     replace h1 := dqV h1
     exact gR 1 rfl (Za6 (⟨x, nb, di, -1, 0⟩, _) y0 (fun a F => F.only [9, 8, 7, 0, 1, 2] rfl) (sX 17179869183 rfl))
    refine Za8 (ι := Int × Nat) 2 (fun j => .int .i64 j.1) (fun j => 0 ≤ j.1 ∧ j.1 < rl.length) (fun j => tobj p len cap j.2) (fun _ => []) rfl rfl rfl (fun w M => Cal.mono (Zba (rl.length : Int) (by omega) (by omega) w (hT.later M.ext) (M.at_ _ (Zae (i := 2) rfl))) fun r w2 h => ⟨(_, _), h.1, Zbm xs _ (by omega), by simpa using h.2⟩) (fun _ => rfl) ?_
    rintro ⟨j, k5⟩ ⟨j0, j1⟩
    dsimp only [List.nil_append] at j0 j1 ⊢
    obtain ⟨z, hz⟩ : ∃ z, z = rl[j.toNat]'(by omega) := ⟨_, rfl⟩
    have zI : IsRo z := by rw [hz];exact hrx _ (List.getElem_mem _)
    have fz1 : seg csr (orr + j.toNat * 39) 39 = some (roC z) := by rw [hz];exact Za0 (Zeg hrx) hsr (by omega) (by omega)
    have zd : IsDv z.to := zI.1
    have y1 : IsIn ⟨z.to, nb, di, -1, 0⟩ := ⟨zd, trivial⟩
    refine Zbk rfl rfl (by omega) (by omega) (ZbF rfl ‹_› (by with_reducible assumption) ?_)
    refine Zat fun b10 => Zas 0 rfl rfl (Zbz ‹_›) (Zdq _) rfl (Zag (by rw [Zbz ‹_›];first | rfl | rw [Zbz ‹_›])) rfl ?_
    refine gR 2 rfl (gR 1 rfl (Zfw 6 65 [b9] [5] [] [[(b9, .cells (inC ⟨x, nb, di, -1, 0⟩).toArray 74 (0, 0))]] [[(b10, .cells (roC z).toArray 76 (0, 0))], es, [(bt, tobj p len cap k5)]] rfl (by kernel_rfl) Zth (by simp) (Zen ?_)))
    refine ZcE 60 rfl (fe_v (fun a2 w F M R r => Zb4 (F.e rfl) (M.at_ _ (Zae (i := 0) rfl)) (ZeL zI) r) (ZcE 60 rfl (fe_v (fun a2 w F M R r => Zdw (F.e rfl) (M.at_ _ (Zae (i := 0) rfl)) (ZdV zI) r) (ZcE 60 rfl (Zkk (fun _ => [[(b10, .cells (roC z).toArray 76 (0, 0))], [(b9, .cells (inC ⟨z.to, nb, di, -1, 0⟩).toArray 74 (0, 0))], es, [(bt, tobj p len cap k5)]]) [] (fun i hi => ?_) ?_)))))
    ·exact Zho 1 rfl rfl (Zaz zd) (Zbq _) rfl (Zor y0 zd) rfl (.head _)
    refine ZhC rfl (by rintro i _ q hq;simp at hq) ?_
    rintro _ _
    refine ⟨_, rfl, ?_⟩
    refine gR 1 rfl (Zb8 1 rfl rfl rfl rfl (Zke ‹_› _) rfl ?_)
    exact gR 1 rfl (Za6 (⟨z.to, z.nb, di, -1, 0⟩, _) ⟨zd, trivial⟩ (fun a F => F.only [9, 8, 7, 0, 1, 2] rfl) (sX 17179869182 rfl))
   ·refine gR 6 rfl ?_
    exact ZaQ 27 rfl (dqF (by omega)) (gR 7 rfl (Za6 (⟨x, nb, di, -1, 0⟩, _) y0 (fun a F => F.only [9, 8, 7, 0, 1, 2] rfl) (sX 17179869183 rfl)))
  rintro ⟨y, k5⟩ yI
  dsimp only at yI ⊢
  have n3 := Zbm xs k5 (n := 3) (by omega)
  refine gR 5 rfl (ZaS 2 rfl rfl rfl (fun w M => Zba _ (by omega) (by omega) w (hT.later M.ext) (M.at_ _ (Zae (i := 2) rfl))) rfl (gR 3 rfl (ZcD (ι := InsV × Nat) ⟨fun (y, k) => IsIn y, fun (y, k) => [(9, .pointer (some ⟨b9, 0, none⟩)), (8, .int .i64 d), (7, u), (0, .pointer (some ⟨bt, 0, none⟩)), (1, .int .i64 now), (2, .slice qr rl.length cr)], fun (y, k) => [[(b9, .cells (inC y).toArray 74 (0, 0))], es, [(bt, tobj p len cap k)]]⟩ ?_ ?_)))
  ·refine gR 6 rfl ?_
   refine g_if rfl (fun h1 => ?_) (fun h1 => ?_)
   focus
    replace h1 := dqU h1
    refine gR 3 rfl ?_
   rotate_left 1
   focus
    replace h1 := dqV h1
    refine gR 6 rfl (g_if rfl (fun h2 => ?_) (fun h2 => ?_))
    focus
     replace h2 := dqU h2
     refine gR 3 rfl ?_
    rotate_left 1
    focus
     replace h2 := dqV h2
     exact gR 1 rfl (Za6 (y, _) yI (fun a F => F.only [9, 8, 7, 0, 1, 2] rfl) (sX 17179869183 rfl))
   rotate_right 1
   ·refine Za8 (ι := Int × Nat) 2 (fun j => .int .i64 j.1) (fun j => True) (fun j => tobj p len cap j.2) (fun _ => []) rfl rfl rfl (fun w M => Cal.mono (ZcH now hnow.1 hnow.2 w (hT.later M.ext) (M.at_ _ (Zae (i := 2) rfl))) fun r w' h => by
      obtain ⟨x, k', q, _, N⟩ := h
      exact ⟨(x, k'), q, trivial, by simpa using N⟩) (fun _ => rfl) ?_
    rintro ⟨tm, k6⟩ -
    dsimp only [List.nil_append]
    refine gR 1 rfl (Zb8 0 rfl rfl rfl rfl (ZmQ ‹_› _) rfl ?_)
    exact gR 1 rfl (Za6 ({ y with btn := tm }, _) yI (fun a F => F.only [9, 8, 7, 0, 1, 2] rfl) (sX 17179869183 rfl))
   ·refine Za8 (ι := Int × Nat) 2 (fun j => .int .i64 j.1) (fun j => True) (fun j => tobj p len cap j.2) (fun _ => []) rfl rfl rfl (fun w M => Cal.mono (ZcH now hnow.1 hnow.2 w (hT.later M.ext) (M.at_ _ (Zae (i := 2) rfl))) fun r w' h => by
      obtain ⟨x, k', q, _, N⟩ := h
      exact ⟨(x, k'), q, trivial, by simpa using N⟩) (fun _ => rfl) ?_
    rintro ⟨tm, k6⟩ -
    dsimp only [List.nil_append]
    refine gR 1 rfl (Zb8 0 rfl rfl rfl rfl (Zke ‹_› _) rfl ?_)
    refine gR 2 rfl (Zb8 0 rfl rfl rfl rfl (ZhX ‹_› _) rfl ?_)
    refine gR 1 rfl (Zb8 0 rfl rfl rfl rfl (ZmP ‹_› _) rfl ?_)
    exact gR 1 rfl (Za6 ({ y with nb := 0, own := { y.own with met := 65535 }, til := tm }, _) ⟨yI.1, trivial⟩ (fun a F => F.only [9, 8, 7, 0, 1, 2] rfl) (sX 17179869183 rfl))
  rintro ⟨y, k6⟩ yI
  dsimp only at yI ⊢
  refine gR 4 rfl (Zah 0 rfl rfl (Zbi ‹_›) ?_)
  refine Zct (ι := Value × (List InsV) × List (Nat × Obj)) (fun j => j.1) (fun j => OwnS 74 40 j.1 j.2.1.length (insC j.2.1) j.2.2 ∧ (∀ y ∈ j.2.1, IsIn y) ∧ j.2.1.length ≤ out.length + 1) (fun j => [j.2.2]) rfl rfl (fun w M => Cal.mono (Ztp out hI (by omega) u y yI w (hOs.slAt M (fun q hq => by simp [hq]))) fun r w' h => by
   obtain ⟨m, ent, h1, h2, h3, N⟩ := h
   exact ⟨(r, m, ent), rfl, ⟨h1, h2, h3⟩, by simpa using N⟩) ?_
  rintro ⟨u1, m1, e1⟩ ⟨hO1, hI1, hl1⟩
  dsimp only [List.cons_append, List.nil_append] at hO1 hI1 hl1 ⊢
  refine gR 6 rfl (ZeX rfl rfl (Zax (by omega) (by omega)) (gR 2 rfl ?_))
  exact Zar (d - 1, m1, _, _, _) ⟨by dsimp only;omega, by dsimp only;omega, by assumption, hI1, by dsimp only;omega⟩ (by dsimp only;omega) (fun a F => F.only [8, 7, 0, 1, 2] rfl) (by (try dsimp only);repeat (first | exact .refl _ | with_reducible exact sC0 _ | with_reducible apply sC2 | apply sC1))
 ·refine gR 7 rfl ?_
  exact Zav rfl (dqF (by omega)) (gR 2 rfl (ZaZ (gR 9 rfl (Zab rfl rfl rfl fun w M => ⟨out, _, es, hOs, hI, by omega, M.perm List.perm_append_comm⟩))))
theorem ZrK {bt : Nat} {p : Option Addr} {len cap k : Nat} {xs : List Int} (l : List AdvV) (hx : ∀ x ∈ l, IsAv x) (hlen : l.length ≤ 100000) (v : Value) (W : World) (hS : SlAt W 37 v l.length (avsC l)) (hnb : ∀ b o s k c, v = .slice (some ⟨b, o, s⟩) k c → b ∉ [bt]) (hT : ZcG W bt p len xs) (hb : W.heap[bt]? = some (tobj p len cap k)) : Cal Tryz.prog 64 [.pointer (some ⟨bt, 0, none⟩), v].toArray W fun r w' => ∃ (m : List AdvV) (k' : Nat) (ent : List (Nat × Obj)), OwnS 100 37 r m.length (avsC m) ent ∧ (∀ x ∈ m, IsAv x) ∧ m.length ≤ l.length ∧ Mem [bt] W w' ((bt, tobj p len cap k') :: ent) := by
 obtain ⟨q, qc, rfl, _⟩ := id hS
 have hm := hS.memB [bt] (fun b o s e => hnb b o s _ _ (by rw [e]))
 refine Zcp (n := 33) [bt] hb (by simp) Zal Zak Tryz.func64 rfl rfl rfl (gR 19 rfl (ZcO ?_))
 refine Za1 (ι := Nat × (List AdvV) × Value × (List (Nat × Obj)) × Nat) ⟨fun (i, out, u, es, k) => l.length - i, fun (i, out, u, es, k) => i ≤ l.length ∧ OwnS 100 37 u out.length (avsC out) es ∧ (∀ y ∈ out, IsAv y) ∧ out.length ≤ i, fun (i, out, u, es, k) => [(10, .int .i64 i), (9, .int .i64 l.length), (8, .slice q l.length qc), (5, u), (0, .pointer (some ⟨bt, 0, none⟩))], fun (i, out, u, es, k) => [es, [(bt, tobj p len cap k)]]⟩ (0, [], _, [], _) ⟨by first | omega | (dsimp only;omega), OwnS.nilL _ _ _, fun y hy => (List.not_mem_nil hy).elim, by simp⟩ (fun a F => F.only [10, 9, 8, 5, 0] rfl) (sX 17179869183 rfl) ?_
 rintro ⟨i, out, u, es, k⟩ ⟨hi, hOs, hI, hol⟩
 dsimp only at hi hOs hI hol ⊢
 by_cases hlt : i < l.length
 ·obtain ⟨b, o, cs, t', fz, rfl, hbw, hs⟩ := hm (by omega)
  obtain ⟨y, hy0⟩ : ∃ y, y = l[i] := ⟨_, rfl⟩
  have hyi : IsAv y := by rw [hy0];exact hx _ (List.getElem_mem hlt)
  have f1 : seg cs (o + (i : Int).toNat * 37) 37 = some (avC y) := by rw [hy0];exact Za0 (ZgA hx) hs hlt (by omega)
  clear hy0
  have n5 := Zbm xs k (n := 5) (by omega)
  refine gR 6 rfl (ZaE rfl (dqT (by omega)) (gR 6 rfl (Zbk rfl rfl (by omega) (by omega) (ZbF rfl ‹_› (by with_reducible assumption) ?_))))
  refine Zat fun b7 => Zas 0 rfl rfl (Zdt ‹_›) (Ze0 _) rfl (Zag (by rw [Zdt ‹_›];first | rfl | rw [Zdt ‹_›])) rfl ?_
  refine gR 6 rfl (ZaS 2 rfl rfl rfl (fun w M => Zba _ (by omega) (by omega) w (hT.later M.ext) (M.at_ _ (Zae (i := 2) rfl))) rfl (gR 3 rfl (ZcD (ι := AdvV × Nat) ⟨fun (x, k) => IsAv x, fun (x, k) => [(7, .pointer (some ⟨b7, 0, none⟩)), (10, .int .i64 i), (9, .int .i64 l.length), (8, .slice (some ⟨b, o, none⟩) l.length qc), (5, u), (0, .pointer (some ⟨bt, 0, none⟩))], fun (x, k) => [[(b7, .cells (avC x).toArray 100 (0, 0))], es, [(bt, tobj p len cap k)]]⟩ ?_ ?_)))
  ·refine gR 6 rfl ?_
   refine g_if rfl (fun h1 => ?_) (fun h1 => ?_)
   ·replace h1 := dqU h1
    refine gR 1 rfl (g_jX (gR 5 rfl (ZaK rfl rfl (Zax (by omega) (by omega)) (gR 2 rfl ?_))))
    exact Zar (i + 1, out, _, _, _) ⟨by dsimp only;omega, hOs, hI, by dsimp only;omega⟩ (by dsimp only;omega) (fun a F => F.only [10, 9, 8, 5, 0] rfl) (sX 17179869182 rfl)
   replace h1 := dqV h1
   refine gR 6 rfl (g_if rfl (fun h2 => ?_) (fun h2 => ?_))
   focus
    replace h2 := dqU h2
    refine gR 2 rfl ?_
   rotate_left 1
   focus
    replace h2 := dqV h2
    refine gR 6 rfl (g_if rfl (fun h3 => ?_) (fun h3 => ?_))
    ·replace h3 := dqU h3
     refine gR 3 rfl (Zb8 0 rfl rfl rfl rfl (Zh1 ‹_› _) rfl ?_)
     exact gR 1 rfl (Za6 ({ y with own := { y.own with met := 65535 } }, _) ⟨hyi.1, trivial⟩ (fun a F => F.only [7, 10, 9, 8, 5, 0] rfl) (sX 17179869183 rfl))
    ·replace h3 := dqV h3
     exact gR 1 rfl (Za6 (y, _) hyi (fun a F => F.only [7, 10, 9, 8, 5, 0] rfl) (sX 17179869183 rfl))
   refine Za8 (ι := DisV × Nat) 2 (fun j => diV j.1) (fun j => True) (fun j => tobj p len cap j.2) (fun _ => []) rfl rfl rfl (fun w M => Cal.mono (Zjp w (hT.later M.ext) (M.at_ _ (Zae (i := 2) rfl))) fun r w' h => by
     obtain ⟨x, k', q, _, N⟩ := h
     exact ⟨(x, k'), q, trivial, by simpa using N⟩) (fun _ => rfl) ?_
   rintro ⟨di, k2⟩ -
   dsimp only [List.nil_append]
   unfold diV
   refine gR 1 rfl (Zas 0 rfl rfl (Zdd trivial) (ZiM _) rfl (Zm2 ‹_› trivial) rfl ?_)
   exact gR 1 rfl (Za6 ({ y with own := di }, _) ⟨hyi.1, trivial⟩ (fun a F => F.only [7, 10, 9, 8, 5, 0] rfl) (sX 17179869183 rfl))
  rintro ⟨x, k2⟩ xI
  dsimp only at xI ⊢
  refine gR 4 rfl (Zah 0 rfl rfl (Zuc ‹_›) ?_)
  refine g_bs rfl rfl rfl (ZdN ‹_›) (fun b29 => ?_)
  refine ZbI 2 0 (enc := avC) rfl rfl ‹_› rfl rfl (Zdt ‹_›) (by omega) (fun _ => rfl) (fun v30 es30 hO30 => ?_) (Ze0 _)
  refine gR 5 rfl (ZaK rfl rfl (Zax (by omega) (by omega)) (gR 2 rfl ?_))
  exact Zar (i + 1, out ++ [x], _, _, _) ⟨by dsimp only;omega, by assumption, Zbn hI xI, by simp;omega⟩ (by dsimp only;omega) (fun a F => F.only [10, 9, 8, 5, 0] rfl) (sX 17179869180 rfl)
 ·refine gR 6 rfl ?_
  exact Zav rfl (dqF (by omega)) (gR 2 rfl (ZaZ (gR 9 rfl (Zab rfl rfl rfl fun w M => ⟨out, _, es, hOs, hI, by omega, M.perm List.perm_append_comm⟩))))
end Go.Proofs.YtfhkmgcalcfibaaGreat

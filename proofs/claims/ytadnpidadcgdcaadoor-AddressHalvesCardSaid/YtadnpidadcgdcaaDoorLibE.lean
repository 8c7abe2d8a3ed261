/-
  The calculus, part E: the walk over a region that draws its order, in the order of the text.
-/
import Derived.Test.YtadnpidadcgdcaaDoorLibD
namespace Go.Proofs.YtadnpidadcgdcaaDoor
set_option linter.unusedVariables false
set_option linter.unusedSimpArgs false
open Go.RowKit

structure Cov (ops : Array Oper) (n nt : Nat) (a1 : Act) (fr : List (Nat × Value)) (Vs : List Pred) : Prop where
  c : ∀ t v, look fr t = some v → ((∀ j o, j < Vs.length → ops[j]? = some o → o.dst ≠ some t) ∧ a1.tmps.getD t undef = v) ∨ (∃ j o, j < Vs.length ∧ ops[j]? = some o ∧ o.dst = some t ∧ Vs[j]? = some (Kn v) ∧ t < nt)

/-- By program: no slot of which something is known ahead is written by the first n. -/
def frOk (ops : Array Oper) (n : Nat) : List (Nat × Value) → Bool
  | [] => true
  | (t, _) :: fr => ((List.range n).all fun j => match ops[j]? with | some o => o.dst != some t | none => true) && frOk ops n fr
theorem frOk_spec {ops : Array Oper} {n : Nat} : ∀ {fr : List (Nat × Value)}, frOk ops n fr = true → ∀ t v, look fr t = some v → ∀ j o, j < n → ops[j]? = some o → o.dst ≠ some t
  | [], _, t, v, h, _, _, _, _ => by simp [look] at h
  | (x, u) :: fr, hk, t, v, h, j, o, hj, ho => by
    simp only [frOk, Bool.and_eq_true] at hk
    rw [look_put] at h
    by_cases e : x = t
    · subst e
      have := List.all_eq_true.1 hk.1 j (List.mem_range.2 hj)
      rw [ho] at this
      simpa using this
    · rw [if_neg e] at h
      exact frOk_spec hk.2 t v h j o hj ho

structure RC where
  K : Keep
  Ef : List Nat
  Pp : List PairI
  P : Program
  r : Option Nat
  ops : Array Oper
  n : Nat
  nt : Nat
  df : List Deferred
  a1 : Act
  w1 : World
  Q : Exit → Act → World → Prop

/-- what is asked of the pairs -/
def PK (c : RC) : Prop := pairOk c.ops c.n c.Ef c.Pp = true ∧ (c.Pp ≠ [] → ∀ w w', c.K.r w w' → Ext [] w w')
/-- The rest of the walk; T: the state so far. -/
def MW0 (c : RC) (rest : List Oper) (fr : List (Nat × Value)) (Vs : List Pred) (T : SPred) : Prop :=
  c.ops.toList.drop Vs.length = rest → Cov c.ops c.n c.nt c.a1 fr Vs → Vs.length ≤ c.n → c.a1.tmps.size = c.nt →
    ∃ (Us : List Pred) (Ts : Nat → SPred), (Vs ++ Us).length = c.n ∧ (∀ V ∈ Us, Stays c.K V) ∧ Ts Vs.length = T ∧ (∀ k, Vs.length < k → StaysT c.K (Ts k)) ∧ (∀ k, Vs.length ≤ k → k ∉ c.Ef → Ts (k + 1) = Ts k) ∧
      (∀ Ts', (∀ k, Vs.length ≤ k → Ts' k = Ts k) → (∀ i V, Us[i]? = some V → Good c.K c.Pp c.Ef Ts' c.P c.r c.ops c.n c.nt c.df c.a1 c.w1 (Vs ++ Us) (Vs.length + i) V) ∧
      (∀ listed a w, Mid c.K c.Pp c.Ef Ts' c.ops c.n c.nt c.df c.a1 c.w1 (Vs ++ Us) listed a w → (∀ i, i < c.n → listed.getD i false = true) → Ts' c.n (slotE c.Ef c.ops a) w → wpListIn (FW c.r) 0 c.P c.ops c.Q (c.ops.toList.drop c.n) a w))

def patch (fr : List (Nat × Value)) (nt : Nat) (a : Act) : Act := { a with tmps := Array.ofFn (n := nt) fun t => (look fr t.1).getD (a.tmps.getD t.1 undef) }
theorem patch_getD (fr : List (Nat × Value)) (nt : Nat) (a : Act) (t : Nat) : (patch fr nt a).tmps.getD t undef = if t < nt then (look fr t).getD (a.tmps.getD t undef) else undef := by
  simp only [patch, Array.getD_eq_getD_getElem?, Array.getElem?_ofFn]
  split <;> simp_all

section
variable {c : RC} {fr : List (Nat × Value)} {Vs : List Pred}

theorem patch_frm {a : Act} (hC : Cov c.ops c.n c.nt c.a1 fr Vs) (h1 : c.a1.tmps.size = c.nt) (hd : a.defers = c.df) : Frm (patch fr c.nt a) c.nt c.df fr := by
  refine ⟨by simp [patch], hd, fun t v h => ?_⟩
  rw [patch_getD]
  split
  · rw [h]; rfl
  · rename_i hge
    rcases hC.c t v h with ⟨_, hb⟩ | ⟨_, _, _, _, _, _, hlt⟩
    · have : c.a1.tmps.size ≤ t := by omega
      rw [← hb]
      simp [this]
    · exact absurd hlt hge

theorem patch_at {a : Act} {w : World} {o : Oper} {i t : Nat} (hok : regOk c.ops c.n = true) (hC : Cov c.ops c.n c.nt c.a1 fr Vs) (hle : Vs.length ≤ c.n) (ho : c.ops[i]? = some o) (hi : i < c.n) (hsz : a.tmps.size = c.nt)
    (hbase : ∀ t, (∀ j o, j < c.n → c.ops[j]? = some o → o.dst = some t → i ∈ depsOf o ∨ j = i) → a.tmps.getD t undef = c.a1.tmps.getD t undef)
    (hdep : ∀ j ∈ depsOf o, ∀ U, Vs[j]? = some U → U (slotV c.ops j a) w) (hiV : i = Vs.length) (ht : (∀ j oj, c.ops[j]? = some oj → oj.dst = some t → j < c.n → j ∈ depsOf o ∨ i ∈ depsOf oj)) (hback : ∀ d ∈ depsOf o, d < i) : (patch fr c.nt a).tmps.getD t undef = a.tmps.getD t undef := by
  rw [patch_getD]
  split
  · cases hl : look fr t with
    | none => rfl
    | some v =>
      rcases hC.c t v hl with ⟨hn, hb⟩ | ⟨j, oj, hj, hoj, hdj, hV, _⟩
      · rw [hbase t (fun j oj hj hoj hd => by
          by_cases e : j = i
          · exact .inr e
          · rcases ht j oj hoj hd hj with h1 | h1
            · exact absurd hd (hn j oj (by have := hback j h1; omega) hoj)
            · exact .inl h1), hb]; rfl
      · have hjd : j ∈ depsOf o := (ht j oj hoj hdj (by omega)).resolve_right fun h1 => by
          have hreg := List.all_eq_true.1 hok j (List.mem_range.2 (by omega))
          rw [hoj] at hreg
          simp only [Bool.and_eq_true] at hreg
          have := List.all_eq_true.1 hreg.1.1.1.2 i h1
          simp at this
          omega
        have h := hdep j hjd _ hV
        unfold slotV at h
        rw [hoj] at h
        simp only [Option.bind_some, hdj] at h
        exact h.symm
  · have : a.tmps.size ≤ t := by omega
    simp [this]

/-- The rule behind all rules. -/
theorem mw_gen {o : Oper} {rest : List Oper} {V : Pred} {T T' : SPred} {fr' : List (Nat × Value)} (hok : regOk c.ops c.n = true) (hlt : Vs.length < c.n) (hst : Stays c.K V) (hsT : StaysT c.K T') (hTT : Vs.length ∉ c.Ef → T' = T) (hPK : PK c)
    (hfr : Cov c.ops c.n c.nt c.a1 fr Vs → c.ops[Vs.length]? = some o → Cov c.ops c.n c.nt c.a1 fr' (Vs ++ [V]))
    (h : ∀ a w σ, Frm a c.nt c.df fr → c.K.e c.w1 w → (∀ j ∈ depsOf o, ∀ U, Vs[j]? = some U → U (slotV c.ops j a) w) → (Vs.length ∈ c.Ef → T σ w) → PPre c.Pp Vs.length (fun k => slotV c.ops k a) c.w1.heap.size w → (∀ e ∈ c.Ef, e ∈ depsOf o → σ e = slotV c.ops e a) →
      if Region.wanted o (yielded c.ops a.tmps) then OpTo c.P o a.eval w fun v w' => c.K.e w w' ∧ V (if o.dst.isSome then v else undef) w' ∧ (isAl o.op = true → v = ptrTo w.heap.size ∧ w.heap.size < w'.heap.size) ∧ (Vs.length ∉ c.Ef → (∀ q ∈ c.Pp, q.s ≠ Vs.length) → c.K.r w w') ∧ (Vs.length ∈ c.Ef → T' (updS σ Vs.length (if o.dst.isSome then v else undef)) w') ∧ PPost c.Pp Vs.length (fun k => slotV c.ops k a) w w'
      else V undef w ∧ isAl o.op = false ∧ (Vs.length ∈ c.Ef → T' (updS σ Vs.length undef) w))
    (k : MW0 c rest fr' (Vs ++ [V]) T') : MW0 c (o :: rest) fr Vs T := by
  intro hdrop hC hle h1
  have hso : c.ops[Vs.length]? = some o := by
    have : (c.ops.toList.drop Vs.length)[0]? = some o := by rw [hdrop]; rfl
    rw [List.getElem?_drop] at this
    simpa using this
  have hdrop' : c.ops.toList.drop (Vs ++ [V]).length = rest := by
    have : c.ops.toList.drop (Vs.length + 1) = (c.ops.toList.drop Vs.length).drop 1 := by rw [List.drop_drop]
    simp only [List.length_append, List.length_cons, List.length_nil, Nat.zero_add]
    rw [this, hdrop]; rfl
  obtain ⟨Us, Ts, hl, hs, hT1, hT2, hT3, hgt⟩ := k hdrop' (hfr hC hso) (by simp; omega) h1
  have eapp : Vs ++ [V] ++ Us = Vs ++ V :: Us := by simp
  have elen : (Vs ++ [V]).length = Vs.length + 1 := by simp
  rw [eapp] at hl hgt
  rw [elen] at hT1 hT2 hT3 hgt
  have eT : ∀ k, Vs.length + 1 ≤ k → (if k ≤ Vs.length then T else Ts k) = Ts k := fun k hk => if_neg (by omega)
  refine ⟨V :: Us, fun k => if k ≤ Vs.length then T else Ts k, hl, ?_, if_pos (Nat.le_refl _), ?_, ?_, fun Ts' hTs' => ?_⟩
  · intro U hU
    rcases List.mem_cons.1 hU with rfl | hU
    · exact hst
    · exact hs U hU
  · intro k hk
    simp only [if_neg (show ¬ k ≤ Vs.length by omega)]
    rcases Nat.lt_or_ge (Vs.length + 1) k with h | h
    · exact hT2 k h
    · rw [show k = Vs.length + 1 by omega, hT1]; exact hsT
  · intro k hk hkE
    simp only [if_neg (show ¬ k + 1 ≤ Vs.length by omega)]
    rcases Nat.lt_or_ge Vs.length k with h | h
    · rw [if_neg (by omega)]; exact hT3 k h hkE
    · obtain rfl : k = Vs.length := by omega
      rw [if_pos (Nat.le_refl _), hT1]; exact hTT hkE
  obtain ⟨hg, ht⟩ := hgt Ts' (fun k hk => by rw [hTs' k (by omega)]; exact eT k hk)
  have hTi : Ts' Vs.length = T := by rw [hTs' _ (Nat.le_refl _)]; exact if_pos (Nat.le_refl _)
  have hTi1 : Ts' (Vs.length + 1) = T' := by rw [hTs' _ (by omega)]; exact (eT _ (Nat.le_refl _)).trans hT1
  refine ⟨?_, ht⟩
  · intro i U hU
    cases i with
    | succ i =>
      have := hg i U (by simpa using hU)
      rwa [show Vs.length + 1 + i = Vs.length + (i + 1) by omega] at this
    | zero =>
      obtain rfl : V = U := by simpa using hU
      intro o' ho' a w hext hsz hdf hbase hdep hstate hppre
      obtain rfl : o = o' := Option.some.inj (hso.symm.trans ho')
      have hreg := List.all_eq_true.1 hok Vs.length (List.mem_range.2 hlt)
      rw [hso] at hreg
      simp only [Bool.and_eq_true] at hreg
      obtain ⟨⟨⟨⟨⟨hsel, hals⟩, hback⟩, htm⟩, huniq⟩, hgd⟩ := hreg
      have hdep' : ∀ j ∈ depsOf o, ∀ U, Vs[j]? = some U → U (slotV c.ops j a) w := fun j hj U hU => hdep j hj U (by
        have : j < Vs.length := (List.getElem?_eq_some_iff.1 hU).1
        rw [List.getElem?_append_left this]; exact hU)
      have hbk : ∀ d ∈ depsOf o, d < Vs.length := fun d hd => by simpa using List.all_eq_true.1 hback d hd
      have hat : ∀ t, t ∈ tmpsOf c.ops o → (patch fr c.nt a).tmps.getD t undef = a.tmps.getD t undef := fun t htt =>
        patch_at (w := w) hok hC hle hso hlt hsz hbase hdep' rfl (fun j oj hoj hdj hj => by
          have := List.all_eq_true.1 (List.all_eq_true.1 htm t htt) j (List.mem_range.2 hj)
          rw [hoj] at this
          simpa [hdj] using this) hbk
      have hslot : ∀ j ∈ depsOf o, slotV c.ops j (patch fr c.nt a) = slotV c.ops j a := by
        intro j hj
        unfold slotV
        cases hb : (c.ops[j]?).bind (·.dst) with
        | none => rfl
        | some t =>
          simp only
          refine patch_at (w := w) hok hC hle hso hlt hsz hbase hdep' rfl (fun j' oj' hoj' hdj' hj' => .inl ?_) hbk
          -- j' writes t too: it is j
          cases hoj : c.ops[j]? with
          | none => rw [hoj] at hb; cases hb
          | some oj =>
            rw [hoj] at hb
            simp only [Option.bind_some] at hb
            by_cases e : j' = j
            · rw [e]; exact hj
            · exfalso
              have hjn : j < c.n := by
                have := List.all_eq_true.1 hback j hj
                have : j < Vs.length + 0 := by simpa using this
                omega
              have hreg' := List.all_eq_true.1 hok j (List.mem_range.2 hjn)
              rw [hoj] at hreg'
              simp only [Bool.and_eq_true] at hreg'
              have := List.all_eq_true.1 hreg'.1.2 j' (List.mem_range.2 hj')
              rw [hoj', hb] at this
              simp [e, hdj'] at this
      have hpd : ∀ q ∈ c.Pp, q.s = Vs.length → q.j ∈ depsOf o := fun q hq e => by
        have hpo := hPK.1
        simp only [pairOk, Bool.and_eq_true] at hpo
        have hh := List.all_eq_true.1 hpo.1.1 q hq
        simp only [Bool.and_eq_true, decide_eq_true_eq, Bool.or_eq_true] at hh
        have h2 := hh.2.resolve_left (by omega)
        rw [e, hso] at h2
        simp only [Bool.and_eq_true] at h2
        simpa using h2.1
      simp only [Nat.add_zero] at hstate hppre ⊢
      rw [hTi] at hstate
      rw [hTi1]
      have hrun := h (patch fr c.nt a) w (slotE c.Ef c.ops a) (patch_frm hC h1 hdf) hext (fun j hj U hU => by rw [hslot j hj]; exact hdep' j hj U hU) hstate (fun q hq e => by
        obtain ⟨b, h1, h2, h3⟩ := hppre q hq e
        exact ⟨b, (hslot q.j (hpd q hq e)).trans h1, h2, h3⟩) (fun e he hed => by
        rw [hslot e hed]
        simp only [slotE, he, if_true])
      have hwant : Region.wanted o (yielded c.ops (patch fr c.nt a).tmps) = Region.wanted o (yielded c.ops a.tmps) := by
        unfold Region.wanted
        cases hg' : o.guard with
        | none => rfl
        | some jb =>
          obtain ⟨j, b⟩ := jb
          simp only
          congr 1
          unfold yielded
          cases hb : (c.ops[j]?).bind (·.dst) with
          | none => rfl
          | some t =>
            have e1 := hat t (by unfold tmpsOf; rw [hg']; simp [hb])
            simp only [Option.bind_some]
            simp only [Array.getD_eq_getD_getElem?] at e1
            have hsz2 : (patch fr c.nt a).tmps.size = a.tmps.size := by simp [patch, hsz]
            rcases Nat.lt_or_ge t a.tmps.size with hlt' | hge'
            · rw [Array.getElem?_eq_getElem hlt', Array.getElem?_eq_getElem (by omega)] at e1 ⊢
              simp only [Option.getD_some] at e1
              rw [e1]
            · rw [Array.getElem?_eq_none hge', Array.getElem?_eq_none (by omega)]
      have hexec : execOp (patch fr c.nt a).eval o = execOp a.eval o := by
        refine execOp_congr o (fun cs b hc => by rw [hc] at hsel; cases hsel) fun x hx => ?_
        cases x with
        | tmp t => exact hat t (by unfold tmpsOf; exact List.mem_append_left _ (List.mem_filterMap.2 ⟨.tmp t, by simpa using hx, rfl⟩))
        | const v => rfl
        | global g => rfl
        | func f => rfl
      rw [hwant] at hrun
      have hopto : ∀ R, OpTo c.P o (patch fr c.nt a).eval w R → OpTo c.P o a.eval w R := fun R hR => by
        unfold OpTo at hR ⊢
        rw [hexec] at hR
        exact hR
      split
      · rename_i hw'
        rw [if_pos hw'] at hrun
        refine (hopto _ hrun).mono fun v w' ⟨q1, q2, q3, q4, q5, q6⟩ => ⟨q1, q2, q3, q4, q5, q6.1, fun q hq e => ?_, q6.2.2⟩
        obtain ⟨b, h1, h2, h3⟩ := q6.2.1 q hq e
        exact ⟨b, (hslot q.j (hpd q hq e)).symm.trans h1, h2, h3⟩
      · rename_i hw'
        rw [if_neg hw'] at hrun
        exact hrun

theorem cov_known {o : Oper} {d : Nat} {v : Value} (hd : o.dst = some d) (hlt : Nat.blt d c.nt = true) (hC : Cov c.ops c.n c.nt c.a1 fr Vs) (ho : c.ops[Vs.length]? = some o) : Cov c.ops c.n c.nt c.a1 ((d, v) :: fr) (Vs ++ [Kn v]) := by
  refine ⟨fun t u h => ?_⟩
  rw [look_put] at h
  by_cases e : d = t
  · subst e
    simp only [if_true, Option.some.injEq] at h
    subst h
    exact .inr ⟨Vs.length, o, by simp, ho, hd, by simp, Nat.le_of_ble_eq_true hlt⟩
  · rw [if_neg e] at h
    rcases hC.c t u h with ⟨h1, h2⟩ | ⟨j, oj, hj, hoj, hdj, hV, ht⟩
    · refine .inl ⟨fun j oj hj hoj hd' => ?_, h2⟩
      rcases Nat.lt_or_ge j Vs.length with hl | hl
      · exact h1 j oj hl hoj hd'
      · obtain rfl : j = Vs.length := by simp at hj; omega
        obtain rfl : o = oj := Option.some.inj (ho.symm.trans hoj)
        rw [hd] at hd'
        exact e (Option.some.inj hd')
    · exact .inr ⟨j, oj, by simp; omega, hoj, hdj, by rw [List.getElem?_append_left hj]; exact hV, ht⟩
/-- by program: of slot d nothing is known -/
def notIn (d : Nat) : List (Nat × Value) → Bool
  | [] => true
  | (t, _) :: r => !(Nat.beq t d) && notIn d r
theorem notIn_spec {d : Nat} : ∀ {fr : List (Nat × Value)}, notIn d fr = true → look fr d = none
  | [], _ => rfl
  | (t, v) :: r, h => by
    simp only [notIn, Bool.and_eq_true, Bool.not_eq_true'] at h
    simp only [look, h.1]
    exact notIn_spec h.2
theorem cov_same {V : Pred} {o : Oper} (hd : ∀ d, o.dst = some d → notIn d fr = true) (hC : Cov c.ops c.n c.nt c.a1 fr Vs) (ho : c.ops[Vs.length]? = some o) : Cov c.ops c.n c.nt c.a1 fr (Vs ++ [V]) := by
  refine ⟨fun t u h => ?_⟩
  rcases hC.c t u h with ⟨h1, h2⟩ | ⟨j, oj, hj, hoj, hdj, hV, ht⟩
  · refine .inl ⟨fun j oj hj hoj hd' => ?_, h2⟩
    rcases Nat.lt_or_ge j Vs.length with hl | hl
    · exact h1 j oj hl hoj hd'
    · obtain rfl : j = Vs.length := by simp at hj; omega
      obtain rfl : o = oj := Option.some.inj (ho.symm.trans hoj)
      rw [notIn_spec (hd t hd')] at h
      cases h
  · exact .inr ⟨j, oj, by simp; omega, hoj, hdj, by rw [List.getElem?_append_left hj]; exact hV, ht⟩

end
/-! ### the rules, with the number of what has been walked written out. K: the value is known; X: it is told by a predicate; KX: known, and what it waits for is told by predicates; G: guarded, and carried out; Off: passed over; N: it writes no slot; E: it has an effect -/
def MW (c : RC) (k : Nat) (rest : List Oper) (fr : List (Nat × Value)) (Vs : List Pred) (T : SPred) : Prop := Vs.length = k → StaysT c.K T → PK c → MW0 c rest fr Vs T
/-- by program: it may come at any time -/
def flo (Ef : List Nat) (Pp : List PairI) (n ix : Nat) (op : Op) : Bool := Nat.blt ix n && !Ef.contains ix && !isAl op && pairFree Pp ix
/-- by program: it has an effect -/
def eff (Ef : List Nat) (Pp : List PairI) (n ix : Nat) (op : Op) : Bool := Nat.blt ix n && Ef.contains ix && !isAl op && Pp.isEmpty
theorem flo_spec {Ef : List Nat} {Pp : List PairI} {n ix : Nat} {op : Op} (h : flo Ef Pp n ix op = true) : ix < n ∧ ix ∉ Ef ∧ isAl op = false ∧ pairFree Pp ix = true := by
  simp only [flo, Bool.and_eq_true, Bool.not_eq_true'] at h
  exact ⟨Nat.le_of_ble_eq_true h.1.1.1, by simpa using h.1.1.2, h.1.2, h.2⟩
theorem eff_spec {Ef : List Nat} {Pp : List PairI} {n ix : Nat} {op : Op} (h : eff Ef Pp n ix op = true) : ix < n ∧ ix ∈ Ef ∧ isAl op = false ∧ Pp = [] := by
  simp only [eff, Bool.and_eq_true, Bool.not_eq_true'] at h
  exact ⟨Nat.le_of_ble_eq_true h.1.1.1, by simpa using h.1.1.2, h.1.2, List.isEmpty_iff.1 h.2⟩
theorem PPost.none {Pp : List PairI} (h : Pp = []) {i : Nat} {sl : Nat → Value} {w w' : World} : PPost Pp i sl w w' := by
  subst h; exact ⟨by simp, by simp, fun _ h => absurd rfl h⟩
/-- a pointer to a block, from n0 on, that holds o -/
def Al (n0 : Nat) (o : Obj) : Pred := fun v w => ∃ b, v = ptrTo b ∧ n0 ≤ b ∧ w.heap[b]? = some o
theorem Al.stays (n0 : Nat) (o : Obj) : Stays keepAll (Al n0 o) := fun v w w' ⟨b, h1, h2, h3⟩ h => ⟨b, h1, h2, by
  rw [Ext.block h b (Array.getElem?_eq_some_iff.1 h3).1 (by simp)]; exact h3⟩
theorem Al.staysBut (n0 : Nat) (o : Obj) {T : List Nat} (hT : ∀ k ∈ T, k < n0) : Stays (keepBut T) (Al n0 o) := fun v w w' ⟨b, h1, h2, h3⟩ h => ⟨b, h1, h2, by
  rw [Ext.block h b (Array.getElem?_eq_some_iff.1 h3).1 (fun hm => by have := hT b hm; omega)]; exact h3⟩
section
variable {c : RC} {fr : List (Nat × Value)} {Vs : List Pred} {T T' : SPred} {rest : List Oper} {d : Nat} {op : Op} {ty : TypeId} {pos : String} {af : Array Edge} {ix : Nat}

theorem mK {v : Value} (hok : regOk c.ops c.n = true) (hlt : flo c.Ef c.Pp c.n ix op = true) (hd : Nat.blt d c.nt = true)
    (h : ∀ a w, Frm a c.nt c.df fr → c.K.e c.w1 w → OpTo c.P ⟨some d, op, ty, pos, af, none⟩ a.eval w fun x w' => c.K.r w w' ∧ x = v)
    (k : MW c (ix + 1) rest ((d, v) :: fr) (Vs ++ [Kn v]) T) : MW c ix (⟨some d, op, ty, pos, af, none⟩ :: rest) fr Vs T := by
  obtain ⟨h1, h2, h3, h4⟩ := flo_spec hlt
  rintro rfl hT0 hPK
  exact mw_gen hok h1 (Kn.stays _ _) hT0 (fun _ => rfl) hPK (fun hC ho => cov_known rfl hd hC ho) (fun a w σ F he hdp hT hPp hσ => by
    simp only [Region.wanted, if_true]
    exact (h a w F he).mono fun x w' ⟨q1, q2⟩ => ⟨c.K.re q1, q2, fun hh => absurd (h3.symm.trans hh) Bool.false_ne_true, fun _ _ => q1, fun hh => absurd hh h2, .flo h4 fun hne => hPK.2 hne _ _ q1⟩) (k (by simp) hT0 hPK)

theorem mX {V : Pred} (hok : regOk c.ops c.n = true) (hlt : flo c.Ef c.Pp c.n ix op = true) (hnd : notIn d fr = true) (hst : Stays c.K V)
    (h : ∀ a w, Frm a c.nt c.df fr → c.K.e c.w1 w → (∀ j' ∈ depsOf ⟨some d, op, ty, pos, af, none⟩, ∀ U, Vs[j']? = some U → U (slotV c.ops j' a) w) → OpTo c.P ⟨some d, op, ty, pos, af, none⟩ a.eval w fun x w' => c.K.r w w' ∧ V x w')
    (k : MW c (ix + 1) rest fr (Vs ++ [V]) T) : MW c ix (⟨some d, op, ty, pos, af, none⟩ :: rest) fr Vs T := by
  obtain ⟨h1, h2, h3, h4⟩ := flo_spec hlt
  rintro rfl hT0 hPK
  exact mw_gen hok h1 hst hT0 (fun _ => rfl) hPK (fun hC ho' => cov_same (fun d' hd' => by cases hd'; exact hnd) hC ho') (fun a w σ F he hdp hT hPp hσ => by
    simp only [Region.wanted, if_true]
    exact (h a w F he hdp).mono fun x w' ⟨q1, q2⟩ => ⟨c.K.re q1, q2, fun hh => absurd (h3.symm.trans hh) Bool.false_ne_true, fun _ _ => q1, fun hh => absurd hh h2, .flo h4 fun hne => hPK.2 hne _ _ q1⟩) (k (by simp) hT0 hPK)

theorem mKX {v : Value} (hok : regOk c.ops c.n = true) (hlt : flo c.Ef c.Pp c.n ix op = true) (hd : Nat.blt d c.nt = true)
    (h : ∀ a w, Frm a c.nt c.df fr → c.K.e c.w1 w → (∀ j' ∈ depsOf ⟨some d, op, ty, pos, af, none⟩, ∀ U, Vs[j']? = some U → U (slotV c.ops j' a) w) → OpTo c.P ⟨some d, op, ty, pos, af, none⟩ a.eval w fun x w' => c.K.r w w' ∧ x = v)
    (k : MW c (ix + 1) rest ((d, v) :: fr) (Vs ++ [Kn v]) T) : MW c ix (⟨some d, op, ty, pos, af, none⟩ :: rest) fr Vs T := by
  obtain ⟨h1, h2, h3, h4⟩ := flo_spec hlt
  rintro rfl hT0 hPK
  exact mw_gen hok h1 (Kn.stays _ _) hT0 (fun _ => rfl) hPK (fun hC ho => cov_known rfl hd hC ho) (fun a w σ F he hdp hT hPp hσ => by
    simp only [Region.wanted, if_true]
    exact (h a w F he hdp).mono fun x w' ⟨q1, q2⟩ => ⟨c.K.re q1, q2, fun hh => absurd (h3.symm.trans hh) Bool.false_ne_true, fun _ _ => q1, fun hh => absurd hh h2, .flo h4 fun hne => hPK.2 hne _ _ q1⟩) (k (by simp) hT0 hPK)

theorem mKG {v : Value} {j t : Nat} {b : Bool} (hok : regOk c.ops c.n = true) (hlt : flo c.Ef c.Pp c.n ix op = true) (hd : Nat.blt d c.nt = true) (hj : (c.ops[j]?).bind (·.dst) = some t) (hb : look fr t = some (.bool b))
    (h : ∀ a w, Frm a c.nt c.df fr → c.K.e c.w1 w → OpTo c.P ⟨some d, op, ty, pos, af, some (j, b)⟩ a.eval w fun x w' => c.K.r w w' ∧ x = v)
    (k : MW c (ix + 1) rest ((d, v) :: fr) (Vs ++ [Kn v]) T) : MW c ix (⟨some d, op, ty, pos, af, some (j, b)⟩ :: rest) fr Vs T := by
  obtain ⟨h1, h2, h3, h4⟩ := flo_spec hlt
  rintro rfl hT0 hPK
  exact mw_gen hok h1 (Kn.stays _ _) hT0 (fun _ => rfl) hPK (fun hC ho => cov_known rfl hd hC ho) (fun a w σ F he hdp hT hPp hσ => by
    simp only [Region.wanted, yielded_of hj (F.at_ t _ hb), BEq.rfl, if_true]
    exact (h a w F he).mono fun x w' ⟨q1, q2⟩ => ⟨c.K.re q1, q2, fun hh => absurd (h3.symm.trans hh) Bool.false_ne_true, fun _ _ => q1, fun hh => absurd hh h2, .flo h4 fun hne => hPK.2 hne _ _ q1⟩) (k (by simp) hT0 hPK)

theorem mXG {V : Pred} {j t : Nat} {b : Bool} (hok : regOk c.ops c.n = true) (hlt : flo c.Ef c.Pp c.n ix op = true) (hj : (c.ops[j]?).bind (·.dst) = some t) (hb : look fr t = some (.bool b)) (hnd : notIn d fr = true) (hst : Stays c.K V)
    (h : ∀ a w, Frm a c.nt c.df fr → c.K.e c.w1 w → (∀ j' ∈ depsOf ⟨some d, op, ty, pos, af, some (j, b)⟩, ∀ U, Vs[j']? = some U → U (slotV c.ops j' a) w) → OpTo c.P ⟨some d, op, ty, pos, af, some (j, b)⟩ a.eval w fun x w' => c.K.r w w' ∧ V x w')
    (k : MW c (ix + 1) rest fr (Vs ++ [V]) T) : MW c ix (⟨some d, op, ty, pos, af, some (j, b)⟩ :: rest) fr Vs T := by
  obtain ⟨h1, h2, h3, h4⟩ := flo_spec hlt
  rintro rfl hT0 hPK
  exact mw_gen hok h1 hst hT0 (fun _ => rfl) hPK (fun hC ho' => cov_same (fun d' hd' => by cases hd'; exact hnd) hC ho') (fun a w σ F he hdp hT hPp hσ => by
    simp only [Region.wanted, yielded_of hj (F.at_ t _ hb), BEq.rfl, if_true]
    exact (h a w F he hdp).mono fun x w' ⟨q1, q2⟩ => ⟨c.K.re q1, q2, fun hh => absurd (h3.symm.trans hh) Bool.false_ne_true, fun _ _ => q1, fun hh => absurd hh h2, .flo h4 fun hne => hPK.2 hne _ _ q1⟩) (k (by simp) hT0 hPK)

theorem mKXG {v : Value} {j t : Nat} {b : Bool} (hok : regOk c.ops c.n = true) (hlt : flo c.Ef c.Pp c.n ix op = true) (hd : Nat.blt d c.nt = true) (hj : (c.ops[j]?).bind (·.dst) = some t) (hb : look fr t = some (.bool b))
    (h : ∀ a w, Frm a c.nt c.df fr → c.K.e c.w1 w → (∀ j' ∈ depsOf ⟨some d, op, ty, pos, af, some (j, b)⟩, ∀ U, Vs[j']? = some U → U (slotV c.ops j' a) w) → OpTo c.P ⟨some d, op, ty, pos, af, some (j, b)⟩ a.eval w fun x w' => c.K.r w w' ∧ x = v)
    (k : MW c (ix + 1) rest ((d, v) :: fr) (Vs ++ [Kn v]) T) : MW c ix (⟨some d, op, ty, pos, af, some (j, b)⟩ :: rest) fr Vs T := by
  obtain ⟨h1, h2, h3, h4⟩ := flo_spec hlt
  rintro rfl hT0 hPK
  exact mw_gen hok h1 (Kn.stays _ _) hT0 (fun _ => rfl) hPK (fun hC ho => cov_known rfl hd hC ho) (fun a w σ F he hdp hT hPp hσ => by
    simp only [Region.wanted, yielded_of hj (F.at_ t _ hb), BEq.rfl, if_true]
    exact (h a w F he hdp).mono fun x w' ⟨q1, q2⟩ => ⟨c.K.re q1, q2, fun hh => absurd (h3.symm.trans hh) Bool.false_ne_true, fun _ _ => q1, fun hh => absurd hh h2, .flo h4 fun hne => hPK.2 hne _ _ q1⟩) (k (by simp) hT0 hPK)

theorem mN  (hok : regOk c.ops c.n = true) (hlt : flo c.Ef c.Pp c.n ix op = true)
    (h : ∀ a w, Frm a c.nt c.df fr → c.K.e c.w1 w → OpTo c.P ⟨none, op, ty, pos, af, none⟩ a.eval w fun _ w' => c.K.r w w')
    (k : MW c (ix + 1) rest fr (Vs ++ [Kn undef]) T) : MW c ix (⟨none, op, ty, pos, af, none⟩ :: rest) fr Vs T := by
  obtain ⟨h1, h2, h3, h4⟩ := flo_spec hlt
  rintro rfl hT0 hPK
  exact mw_gen hok h1 (Kn.stays _ _) hT0 (fun _ => rfl) hPK (fun hC ho' => cov_same (fun d' hd' => by cases hd') hC ho') (fun a w σ F he hdp hT hPp hσ => by
    simp only [Region.wanted, if_true]
    exact (h a w F he).mono fun x w' q1 => ⟨c.K.re q1, rfl, fun hh => absurd (h3.symm.trans hh) Bool.false_ne_true, fun _ _ => q1, fun hh => absurd hh h2, .flo h4 fun hne => hPK.2 hne _ _ q1⟩) (k (by simp) hT0 hPK)

theorem mNX {V : Pred} (hok : regOk c.ops c.n = true) (hlt : flo c.Ef c.Pp c.n ix op = true) (hst : Stays c.K V)
    (h : ∀ a w, Frm a c.nt c.df fr → c.K.e c.w1 w → OpTo c.P ⟨none, op, ty, pos, af, none⟩ a.eval w fun _ w' => c.K.r w w' ∧ V undef w')
    (k : MW c (ix + 1) rest fr (Vs ++ [V]) T) : MW c ix (⟨none, op, ty, pos, af, none⟩ :: rest) fr Vs T := by
  obtain ⟨h1, h2, h3, h4⟩ := flo_spec hlt
  rintro rfl hT0 hPK
  exact mw_gen hok h1 hst hT0 (fun _ => rfl) hPK (fun hC ho' => cov_same (fun d' hd' => by cases hd') hC ho') (fun a w σ F he hdp hT hPp hσ => by
    simp only [Region.wanted, if_true]
    exact (h a w F he).mono fun x w' ⟨q1, q2⟩ => ⟨c.K.re q1, q2, fun hh => absurd (h3.symm.trans hh) Bool.false_ne_true, fun _ _ => q1, fun hh => absurd hh h2, .flo h4 fun hne => hPK.2 hne _ _ q1⟩) (k (by simp) hT0 hPK)

theorem mE {v : Value} (hok : regOk c.ops c.n = true) (hlt : eff c.Ef c.Pp c.n ix op = true) (hd : Nat.blt d c.nt = true) (hsT : StaysT c.K T')
    (h : ∀ a w σ, Frm a c.nt c.df fr → c.K.e c.w1 w → T σ w → OpTo c.P ⟨some d, op, ty, pos, af, none⟩ a.eval w fun x w' => c.K.e w w' ∧ x = v ∧ T' (updS σ ix x) w')
    (k : MW c (ix + 1) rest ((d, v) :: fr) (Vs ++ [Kn v]) T') : MW c ix (⟨some d, op, ty, pos, af, none⟩ :: rest) fr Vs T := by
  obtain ⟨h1, h2, h3, h4⟩ := eff_spec hlt
  rintro rfl hT0 hPK
  exact mw_gen hok h1 (Kn.stays _ _) hsT (fun hh => absurd h2 hh) hPK (fun hC ho => cov_known rfl hd hC ho) (fun a w σ F he hdp hT hPp hσ => by
    simp only [Region.wanted, if_true]
    exact (h a w σ F he (hT h2)).mono fun x w' ⟨q1, q2, q3⟩ => ⟨q1, q2, fun hh => absurd (h3.symm.trans hh) Bool.false_ne_true, fun hh => absurd h2 hh, fun _ => q3, .none h4⟩) (k (by simp) hsT hPK)

theorem mEX {V : Pred} (hok : regOk c.ops c.n = true) (hlt : eff c.Ef c.Pp c.n ix op = true) (hnd : notIn d fr = true) (hst : Stays c.K V) (hsT : StaysT c.K T')
    (h : ∀ a w σ, Frm a c.nt c.df fr → c.K.e c.w1 w → (∀ j' ∈ depsOf ⟨some d, op, ty, pos, af, none⟩, ∀ U, Vs[j']? = some U → U (slotV c.ops j' a) w) → (∀ e' ∈ c.Ef, e' ∈ depsOf ⟨some d, op, ty, pos, af, none⟩ → σ e' = slotV c.ops e' a) → T σ w → OpTo c.P ⟨some d, op, ty, pos, af, none⟩ a.eval w fun x w' => c.K.e w w' ∧ V x w' ∧ T' (updS σ ix x) w')
    (k : MW c (ix + 1) rest fr (Vs ++ [V]) T') : MW c ix (⟨some d, op, ty, pos, af, none⟩ :: rest) fr Vs T := by
  obtain ⟨h1, h2, h3, h4⟩ := eff_spec hlt
  rintro rfl hT0 hPK
  exact mw_gen hok h1 hst hsT (fun hh => absurd h2 hh) hPK (fun hC ho' => cov_same (fun d' hd' => by cases hd'; exact hnd) hC ho') (fun a w σ F he hdp hT hPp hσ => by
    simp only [Region.wanted, if_true]
    exact (h a w σ F he hdp hσ (hT h2)).mono fun x w' ⟨q1, q2, q3⟩ => ⟨q1, q2, fun hh => absurd (h3.symm.trans hh) Bool.false_ne_true, fun hh => absurd h2 hh, fun _ => q3, .none h4⟩) (k (by simp) hsT hPK)

theorem mEKX {v : Value} (hok : regOk c.ops c.n = true) (hlt : eff c.Ef c.Pp c.n ix op = true) (hd : Nat.blt d c.nt = true) (hsT : StaysT c.K T')
    (h : ∀ a w σ, Frm a c.nt c.df fr → c.K.e c.w1 w → (∀ j' ∈ depsOf ⟨some d, op, ty, pos, af, none⟩, ∀ U, Vs[j']? = some U → U (slotV c.ops j' a) w) → (∀ e' ∈ c.Ef, e' ∈ depsOf ⟨some d, op, ty, pos, af, none⟩ → σ e' = slotV c.ops e' a) → T σ w → OpTo c.P ⟨some d, op, ty, pos, af, none⟩ a.eval w fun x w' => c.K.e w w' ∧ x = v ∧ T' (updS σ ix x) w')
    (k : MW c (ix + 1) rest ((d, v) :: fr) (Vs ++ [Kn v]) T') : MW c ix (⟨some d, op, ty, pos, af, none⟩ :: rest) fr Vs T := by
  obtain ⟨h1, h2, h3, h4⟩ := eff_spec hlt
  rintro rfl hT0 hPK
  exact mw_gen hok h1 (Kn.stays _ _) hsT (fun hh => absurd h2 hh) hPK (fun hC ho => cov_known rfl hd hC ho) (fun a w σ F he hdp hT hPp hσ => by
    simp only [Region.wanted, if_true]
    exact (h a w σ F he hdp hσ (hT h2)).mono fun x w' ⟨q1, q2, q3⟩ => ⟨q1, q2, fun hh => absurd (h3.symm.trans hh) Bool.false_ne_true, fun hh => absurd h2 hh, fun _ => q3, .none h4⟩) (k (by simp) hsT hPK)

theorem mEG {v : Value} {j t : Nat} {b : Bool} (hok : regOk c.ops c.n = true) (hlt : eff c.Ef c.Pp c.n ix op = true) (hd : Nat.blt d c.nt = true) (hj : (c.ops[j]?).bind (·.dst) = some t) (hb : look fr t = some (.bool b)) (hsT : StaysT c.K T')
    (h : ∀ a w σ, Frm a c.nt c.df fr → c.K.e c.w1 w → T σ w → OpTo c.P ⟨some d, op, ty, pos, af, some (j, b)⟩ a.eval w fun x w' => c.K.e w w' ∧ x = v ∧ T' (updS σ ix x) w')
    (k : MW c (ix + 1) rest ((d, v) :: fr) (Vs ++ [Kn v]) T') : MW c ix (⟨some d, op, ty, pos, af, some (j, b)⟩ :: rest) fr Vs T := by
  obtain ⟨h1, h2, h3, h4⟩ := eff_spec hlt
  rintro rfl hT0 hPK
  exact mw_gen hok h1 (Kn.stays _ _) hsT (fun hh => absurd h2 hh) hPK (fun hC ho => cov_known rfl hd hC ho) (fun a w σ F he hdp hT hPp hσ => by
    simp only [Region.wanted, yielded_of hj (F.at_ t _ hb), BEq.rfl, if_true]
    exact (h a w σ F he (hT h2)).mono fun x w' ⟨q1, q2, q3⟩ => ⟨q1, q2, fun hh => absurd (h3.symm.trans hh) Bool.false_ne_true, fun hh => absurd h2 hh, fun _ => q3, .none h4⟩) (k (by simp) hsT hPK)

theorem mEXG {V : Pred} {j t : Nat} {b : Bool} (hok : regOk c.ops c.n = true) (hlt : eff c.Ef c.Pp c.n ix op = true) (hj : (c.ops[j]?).bind (·.dst) = some t) (hb : look fr t = some (.bool b)) (hnd : notIn d fr = true) (hst : Stays c.K V) (hsT : StaysT c.K T')
    (h : ∀ a w σ, Frm a c.nt c.df fr → c.K.e c.w1 w → (∀ j' ∈ depsOf ⟨some d, op, ty, pos, af, some (j, b)⟩, ∀ U, Vs[j']? = some U → U (slotV c.ops j' a) w) → (∀ e' ∈ c.Ef, e' ∈ depsOf ⟨some d, op, ty, pos, af, some (j, b)⟩ → σ e' = slotV c.ops e' a) → T σ w → OpTo c.P ⟨some d, op, ty, pos, af, some (j, b)⟩ a.eval w fun x w' => c.K.e w w' ∧ V x w' ∧ T' (updS σ ix x) w')
    (k : MW c (ix + 1) rest fr (Vs ++ [V]) T') : MW c ix (⟨some d, op, ty, pos, af, some (j, b)⟩ :: rest) fr Vs T := by
  obtain ⟨h1, h2, h3, h4⟩ := eff_spec hlt
  rintro rfl hT0 hPK
  exact mw_gen hok h1 hst hsT (fun hh => absurd h2 hh) hPK (fun hC ho' => cov_same (fun d' hd' => by cases hd'; exact hnd) hC ho') (fun a w σ F he hdp hT hPp hσ => by
    simp only [Region.wanted, yielded_of hj (F.at_ t _ hb), BEq.rfl, if_true]
    exact (h a w σ F he hdp hσ (hT h2)).mono fun x w' ⟨q1, q2, q3⟩ => ⟨q1, q2, fun hh => absurd (h3.symm.trans hh) Bool.false_ne_true, fun hh => absurd h2 hh, fun _ => q3, .none h4⟩) (k (by simp) hsT hPK)

theorem mEKXG {v : Value} {j t : Nat} {b : Bool} (hok : regOk c.ops c.n = true) (hlt : eff c.Ef c.Pp c.n ix op = true) (hd : Nat.blt d c.nt = true) (hj : (c.ops[j]?).bind (·.dst) = some t) (hb : look fr t = some (.bool b)) (hsT : StaysT c.K T')
    (h : ∀ a w σ, Frm a c.nt c.df fr → c.K.e c.w1 w → (∀ j' ∈ depsOf ⟨some d, op, ty, pos, af, some (j, b)⟩, ∀ U, Vs[j']? = some U → U (slotV c.ops j' a) w) → (∀ e' ∈ c.Ef, e' ∈ depsOf ⟨some d, op, ty, pos, af, some (j, b)⟩ → σ e' = slotV c.ops e' a) → T σ w → OpTo c.P ⟨some d, op, ty, pos, af, some (j, b)⟩ a.eval w fun x w' => c.K.e w w' ∧ x = v ∧ T' (updS σ ix x) w')
    (k : MW c (ix + 1) rest ((d, v) :: fr) (Vs ++ [Kn v]) T') : MW c ix (⟨some d, op, ty, pos, af, some (j, b)⟩ :: rest) fr Vs T := by
  obtain ⟨h1, h2, h3, h4⟩ := eff_spec hlt
  rintro rfl hT0 hPK
  exact mw_gen hok h1 (Kn.stays _ _) hsT (fun hh => absurd h2 hh) hPK (fun hC ho => cov_known rfl hd hC ho) (fun a w σ F he hdp hT hPp hσ => by
    simp only [Region.wanted, yielded_of hj (F.at_ t _ hb), BEq.rfl, if_true]
    exact (h a w σ F he hdp hσ (hT h2)).mono fun x w' ⟨q1, q2, q3⟩ => ⟨q1, q2, fun hh => absurd (h3.symm.trans hh) Bool.false_ne_true, fun hh => absurd h2 hh, fun _ => q3, .none h4⟩) (k (by simp) hsT hPK)

theorem mEN  (hok : regOk c.ops c.n = true) (hlt : eff c.Ef c.Pp c.n ix op = true) (hsT : StaysT c.K T')
    (h : ∀ a w σ, Frm a c.nt c.df fr → c.K.e c.w1 w → T σ w → OpTo c.P ⟨none, op, ty, pos, af, none⟩ a.eval w fun _ w' => c.K.e w w' ∧ T' (updS σ ix undef) w')
    (k : MW c (ix + 1) rest fr (Vs ++ [Kn undef]) T') : MW c ix (⟨none, op, ty, pos, af, none⟩ :: rest) fr Vs T := by
  obtain ⟨h1, h2, h3, h4⟩ := eff_spec hlt
  rintro rfl hT0 hPK
  exact mw_gen hok h1 (Kn.stays _ _) hsT (fun hh => absurd h2 hh) hPK (fun hC ho' => cov_same (fun d' hd' => by cases hd') hC ho') (fun a w σ F he hdp hT hPp hσ => by
    simp only [Region.wanted, if_true]
    exact (h a w σ F he (hT h2)).mono fun x w' ⟨q1, q3⟩ => ⟨q1, rfl, fun hh => absurd (h3.symm.trans hh) Bool.false_ne_true, fun hh => absurd h2 hh, fun _ => q3, .none h4⟩) (k (by simp) hsT hPK)

theorem mENX {V : Pred} (hok : regOk c.ops c.n = true) (hlt : eff c.Ef c.Pp c.n ix op = true) (hst : Stays c.K V) (hsT : StaysT c.K T')
    (h : ∀ a w σ, Frm a c.nt c.df fr → c.K.e c.w1 w → (∀ j' ∈ depsOf ⟨none, op, ty, pos, af, none⟩, ∀ U, Vs[j']? = some U → U (slotV c.ops j' a) w) → (∀ e' ∈ c.Ef, e' ∈ depsOf ⟨none, op, ty, pos, af, none⟩ → σ e' = slotV c.ops e' a) → T σ w → OpTo c.P ⟨none, op, ty, pos, af, none⟩ a.eval w fun _ w' => c.K.e w w' ∧ V undef w' ∧ T' (updS σ ix undef) w')
    (k : MW c (ix + 1) rest fr (Vs ++ [V]) T') : MW c ix (⟨none, op, ty, pos, af, none⟩ :: rest) fr Vs T := by
  obtain ⟨h1, h2, h3, h4⟩ := eff_spec hlt
  rintro rfl hT0 hPK
  exact mw_gen hok h1 hst hsT (fun hh => absurd h2 hh) hPK (fun hC ho' => cov_same (fun d' hd' => by cases hd') hC ho') (fun a w σ F he hdp hT hPp hσ => by
    simp only [Region.wanted, if_true]
    exact (h a w σ F he hdp hσ (hT h2)).mono fun x w' ⟨q1, q2, q3⟩ => ⟨q1, q2, fun hh => absurd (h3.symm.trans hh) Bool.false_ne_true, fun hh => absurd h2 hh, fun _ => q3, .none h4⟩) (k (by simp) hsT hPK)

theorem mOff {j t : Nat} {b : Bool} {u : Value} (hok : regOk c.ops c.n = true) (hlt : flo c.Ef c.Pp c.n ix op = true) (hd : Nat.blt d c.nt = true) (hj : (c.ops[j]?).bind (·.dst) = some t) (hb : look fr t = some u) (ho : offGuard b u = true)
    (k : MW c (ix + 1) rest ((d, undef) :: fr) (Vs ++ [Kn undef]) T) : MW c ix (⟨some d, op, ty, pos, af, some (j, b)⟩ :: rest) fr Vs T := by
  obtain ⟨h1, h2, h3, h4⟩ := flo_spec hlt
  rintro rfl hT0 hPK
  exact mw_gen hok h1 (Kn.stays _ undef) hT0 (fun _ => rfl) hPK (fun hC ho' => cov_known rfl hd hC ho') (fun a w σ F _ _ _ _ _ => by
    simp only [Region.wanted, yielded_off hj (F.at_ t _ hb) ho, Bool.false_eq_true, if_false]
    exact ⟨rfl, h3, fun hh => absurd hh h2⟩) (k (by simp) hT0 hPK)
theorem mOffE {j t : Nat} {b : Bool} {u : Value} (hok : regOk c.ops c.n = true) (hlt : eff c.Ef c.Pp c.n ix op = true) (hd : Nat.blt d c.nt = true) (hj : (c.ops[j]?).bind (·.dst) = some t) (hb : look fr t = some u) (ho : offGuard b u = true) (hTT : ∀ σ w, T σ w → T (updS σ ix undef) w)
    (k : MW c (ix + 1) rest ((d, undef) :: fr) (Vs ++ [Kn undef]) T) : MW c ix (⟨some d, op, ty, pos, af, some (j, b)⟩ :: rest) fr Vs T := by
  obtain ⟨h1, h2, h3, h4⟩ := eff_spec hlt
  rintro rfl hT0 hPK
  exact mw_gen hok h1 (Kn.stays _ undef) hT0 (fun _ => rfl) hPK (fun hC ho' => cov_known rfl hd hC ho') (fun a w σ F _ _ hT _ _ => by
    simp only [Region.wanted, yielded_off hj (F.at_ t _ hb) ho, Bool.false_eq_true, if_false]
    exact ⟨rfl, h3, fun hh => hTT _ _ (hT hh)⟩) (k (by simp) hT0 hPK)
/-- an operation that makes one block -/
theorem mAl {o0 : Obj} (hok : regOk c.ops c.n = true) (hlt : (Nat.blt ix c.n && !c.Ef.contains ix && pairFree c.Pp ix) = true) (hnd : notIn d fr = true) (hst : Stays c.K (Al c.w1.heap.size o0)) (hr : ∀ w, c.K.r w (w.alloc o0))
    (h : ∀ a w, Frm a c.nt c.df fr → c.K.e c.w1 w → (execOp a.eval ⟨some d, op, ty, pos, af, none⟩).run c.P w = .ok (.value (ptrTo w.heap.size)) (w.alloc o0))
    (k : MW c (ix + 1) rest fr (Vs ++ [Al c.w1.heap.size o0]) T) : MW c ix (⟨some d, op, ty, pos, af, none⟩ :: rest) fr Vs T := by
  simp only [Bool.and_eq_true, Bool.not_eq_true'] at hlt
  have h1 : ix < c.n := Nat.le_of_ble_eq_true hlt.1.1
  have h2 : ix ∉ c.Ef := by simpa using hlt.1.2
  rintro rfl hT0 hPK
  refine mw_gen hok h1 hst hT0 (fun _ => rfl) hPK (fun hC ho' => cov_same (fun d' hd' => by cases hd'; exact hnd) hC ho') (fun a w σ F he hdp hT hPp hσ => ?_) (k (by simp) hT0 hPK)
  simp only [Region.wanted, if_true]
  exact OpTo.val (h a w F he) ⟨c.K.re (hr w), ⟨w.heap.size, rfl, c.K.size he, heap_alloc_new w o0⟩, fun _ => ⟨rfl, by simp⟩, fun _ _ => hr w, fun hh => absurd hh h2, .flo hlt.2 fun _ => Ext.alloc w o0⟩
def Any : Pred := fun _ _ => True
/-- the alloc of a pair -/
theorem mAlP {o0 : Obj} (hok : regOk c.ops c.n = true) (hlt : (Nat.blt ix c.n && !c.Ef.contains ix && (c.Pp.all fun q => q.s != ix)) = true) (hnd : notIn d fr = true) (hz : ∀ q ∈ c.Pp, q.j = ix → q.z = o0) (hr : ∀ w, c.K.r w (w.alloc o0))
    (h : ∀ a w, Frm a c.nt c.df fr → c.K.e c.w1 w → (execOp a.eval ⟨some d, op, ty, pos, af, none⟩).run c.P w = .ok (.value (ptrTo w.heap.size)) (w.alloc o0))
    (k : MW c (ix + 1) rest fr (Vs ++ [Any]) T) : MW c ix (⟨some d, op, ty, pos, af, none⟩ :: rest) fr Vs T := by
  simp only [Bool.and_eq_true, Bool.not_eq_true'] at hlt
  have h1 : ix < c.n := Nat.le_of_ble_eq_true hlt.1.1
  have h2 : ix ∉ c.Ef := by simpa using hlt.1.2
  have h3 : ∀ q ∈ c.Pp, q.s ≠ ix := fun q hq => by simpa using List.all_eq_true.1 hlt.2 q hq
  rintro rfl hT0 hPK
  refine mw_gen hok h1 (fun _ _ _ _ _ => trivial) hT0 (fun _ => rfl) hPK (fun hC ho' => cov_same (fun d' hd' => by cases hd'; exact hnd) hC ho') (fun a w σ F he hdp hT hPp hσ => ?_) (k (by simp) hT0 hPK)
  simp only [Region.wanted, if_true]
  exact OpTo.val (h a w F he) ⟨c.K.re (hr w), trivial, fun _ => ⟨rfl, by simp⟩, fun _ _ => hr w, fun hh => absurd hh h2, fun q hq e => by rw [hz q hq e]; exact heap_alloc_new w o0, fun q hq e => absurd e (h3 q hq), fun _ _ => Ext.alloc w o0⟩
/-- the store of a pair -/
theorem mStP (q : PairI) (hok : regOk c.ops c.n = true) (hlt : (Nat.blt ix c.n && c.Ef.isEmpty && !isAl op && (c.Pp.all fun q => q.j != ix)) = true) (hq : q ∈ c.Pp) (hs : q.s = ix) (hone : ∀ q' ∈ c.Pp, q'.s = ix → q' = q) (hKe : ∀ w w' b, c.w1.heap.size ≤ b → Ext [b] w w' → c.K.e w w')
    (h : ∀ a w b, Frm a c.nt c.df fr → c.K.e c.w1 w → slotV c.ops q.j a = ptrTo b → w.heap[b]? = some q.z → OpTo c.P ⟨none, op, ty, pos, af, none⟩ a.eval w fun _ w' => Ext [b] w w' ∧ w'.heap[b]? = some q.f)
    (k : MW c (ix + 1) rest fr (Vs ++ [Kn undef]) T) : MW c ix (⟨none, op, ty, pos, af, none⟩ :: rest) fr Vs T := by
  simp only [Bool.and_eq_true, Bool.not_eq_true'] at hlt
  have h1 : ix < c.n := Nat.le_of_ble_eq_true hlt.1.1.1
  have h2 : ix ∉ c.Ef := by rw [List.isEmpty_iff.1 hlt.1.1.2]; simp
  have h3 : isAl op = false := hlt.1.2
  have h4 : ∀ q ∈ c.Pp, q.j ≠ ix := fun q hq => by simpa using List.all_eq_true.1 hlt.2 q hq
  rintro rfl hT0 hPK
  refine mw_gen hok h1 (Kn.stays _ undef) hT0 (fun _ => rfl) hPK (fun hC ho' => cov_same (fun d' hd' => by cases hd') hC ho') (fun a w σ F he hdp hT hPp hσ => ?_) (k (by simp) hT0 hPK)
  simp only [Region.wanted, if_true]
  obtain ⟨b, hb1, hb2, hb3⟩ := hPp q hq hs
  refine (h a w b F he hb1 hb3).mono fun x w' ⟨q1, q2⟩ => ⟨hKe w w' b hb2 q1, rfl, fun hh => absurd (h3.symm.trans hh) Bool.false_ne_true, fun _ hno => absurd hs (hno q hq), fun hh => absurd hh h2, fun q' hq' e => absurd e (h4 q' hq'), fun q' hq' e => ?_, fun hno _ => absurd hs (hno q hq)⟩
  obtain rfl := hone q' hq' e
  exact ⟨b, hb1, q1, q2⟩
/-- All the first n have been walked. -/
theorem mDone (hn : Nat.beq ix c.n = true) (hef : effOk c.ops c.n c.Ef = true)
    (h : ∀ a w, Frm a c.nt c.df fr → c.K.e c.w1 w → (∀ (j : Nat) (V : Pred), Vs[j]? = some V → V (slotV c.ops j a) w) → T (slotE c.Ef c.ops a) w →
      (∀ i j oi oj, i < c.n → j < c.n → i ≠ j → c.ops[i]? = some oi → c.ops[j]? = some oj → isAl oi.op = true → isAl oj.op = true → slotV c.ops i a ≠ slotV c.ops j a) →
      (∀ q ∈ c.Pp, ∃ b, slotV c.ops q.j a = ptrTo b ∧ c.w1.heap.size ≤ b ∧ w.heap[b]? = some (if q.s < c.n then q.f else q.z)) → wpListIn (FW c.r) 0 c.P c.ops c.Q rest a w) : MW c ix rest fr Vs T := by
  rintro rfl hT0 hPK
  have hn' : Vs.length = c.n := Nat.eq_of_beq_eq_true hn
  intro hdrop hC hle h1
  refine ⟨[], fun _ => T, by simp [hn'], by simp, rfl, fun _ _ => hT0, fun _ _ _ => rfl, fun Ts' hTs' => ⟨by simp, fun listed a w M hall hT => ?_⟩⟩
  rw [List.append_nil] at M
  rw [hn'] at hdrop
  rw [hdrop]
  rw [hTs' c.n (by omega)] at hT
  refine h a w ⟨M.size, M.defers, fun t v ht => ?_⟩ M.ext (fun j V hV => M.vals j V (by rw [← hn']; exact (List.getElem?_eq_some_iff.1 hV).1) (hall j (by rw [← hn']; exact (List.getElem?_eq_some_iff.1 hV).1)) hV) hT (fun i j oi oj hi hj hne hoi hoj hai haj => M.dist i j oi oj hi hj hne hoi hoj hai haj (hall i hi) (hall j hj)) (fun q hq => by
    have hpo := hPK.1
    simp only [pairOk, Bool.and_eq_true] at hpo
    have hh := List.all_eq_true.1 hpo.1.1 q hq
    simp only [Bool.and_eq_true, decide_eq_true_eq] at hh
    obtain ⟨b, h1, h2, h3⟩ := M.pr q hq (hall q.j hh.1.1)
    refine ⟨b, h1, h2, ?_⟩
    by_cases hs : q.s < c.n
    · rw [hall q.s hs] at h3; simpa [hs] using h3
    · have hl : listed.getD q.s false = false := by
        rcases Nat.lt_or_ge q.s c.ops.size with h | h
        · have := M.tail q.s (by omega) h
          have hl : q.s < listed.size := by rw [M.lsize]; exact h
          simp [hl] at this ⊢; exact this
        · have hl : listed.size ≤ q.s := by rw [M.lsize]; exact h
          simp [hl]
      rw [hl] at h3; simpa [hs] using h3)
  rcases hC.c t v ht with ⟨hb, hb2⟩ | ⟨j, oj, hj, hoj, hdj, hV, _⟩
  · rw [M.base t (fun j oj hj hoj _ => hb j oj (by omega) hoj), hb2]
  · have h0 := M.vals j _ (by omega) (hall j (by omega)) hV
    unfold slotV at h0
    rw [hoj] at h0
    simp only [Option.bind_some, hdj] at h0
    exact h0
end

/-- One block among the known ones may go from o to o'. -/
def keepOne (S : List Nat) (W0 : World) (l : List (Nat × Obj)) (b : Nat) (o o' : Obj) : Keep where
  r w w' := ((Mem S W0 w ((b, o) :: l) → Mem S W0 w' ((b, o) :: l) ∨ Mem S W0 w' ((b, o') :: l)) ∧ (Mem S W0 w ((b, o') :: l) → Mem S W0 w' ((b, o') :: l))) ∧ w.heap.size ≤ w'.heap.size
  e w w' := ((Mem S W0 w ((b, o) :: l) → Mem S W0 w' ((b, o) :: l) ∨ Mem S W0 w' ((b, o') :: l)) ∧ (Mem S W0 w ((b, o') :: l) → Mem S W0 w' ((b, o') :: l))) ∧ w.heap.size ≤ w'.heap.size
  refl _ := ⟨⟨.inl, id⟩, Nat.le_refl _⟩
  re h := h
  trans h1 h2 := ⟨⟨fun M => (h1.1.1 M).elim h2.1.1 fun M' => .inr (h2.1.2 M'), fun M => h2.1.2 (h1.1.2 M)⟩, Nat.le_trans h1.2 h2.2⟩
  size h := h.2
theorem keepOne.later {S : List Nat} {W0 w w' : World} {l : List (Nat × Obj)} {b : Nat} {o o' : Obj} (M : Mem S W0 w ((b, o) :: l)) (h : (keepOne S W0 l b o o').e w w') : Mem S W0 w' l :=
  (h.1.1 M).elim (·.sub (List.sublist_cons_self _ _)) (·.sub (List.sublist_cons_self _ _))
theorem keepOne.stays (S : List Nat) (W0 : World) (l : List (Nat × Obj)) (b : Nat) (o o' : Obj) : Stays (keepOne S W0 l b o o') (fun _ w => Mem S W0 w ((b, o') :: l)) := fun _ _ _ h k => k.1.2 h
theorem keepOne.put {S : List Nat} {W0 w w' : World} {l : List (Nat × Obj)} {b : Nat} {o o' : Obj} (hs : w.heap.size ≤ w'.heap.size) (h : Mem S W0 w' ((b, o') :: l)) : (keepOne S W0 l b o o').r w w' ∧ Mem S W0 w' ((b, o') :: l) := ⟨⟨⟨fun _ => .inr h, fun _ => h⟩, hs⟩, h⟩

def dstOk (ops : Array Oper) (n nt : Nat) : Bool := (List.range n).all fun i => match ops[i]? with | some o => (match o.dst with | some d => decide (d < nt) | none => true) | none => false

/-- A region that draws: n: how many of its operations may come in any order; K: what these keep; Ef: which have an effect; T: the state ahead of them; Pp: allocs and their stores. -/
theorem c_drawK {P : Program} {r : Option Nat} {Q : Exit → Act → World → Prop} {a : Act} {w : World} {nt : Nat} {df : List Deferred} {fr : List (Nat × Value)} {id : Nat} {ol : List Oper} (K : Keep) (Ef : List Nat) (Pp : List PairI) (T : SPred) (n : Nat) [hm : TMix P] (F : Frm a nt df fr)
    (hchk : (regOk ol.toArray n && tailOk ol.toArray n && Nat.ble n ol.length && dstOk ol.toArray n nt && effOk ol.toArray n Ef) = true) (hpo : pairOk ol.toArray n Ef Pp = true) (hKr : Pp ≠ [] → ∀ w w', K.r w w' → Ext [] w w') (hTt : Pp ≠ [] → ∀ σ w, T σ w) (hsT : StaysT K T) (hT : ∀ σ d, T σ { w with drawn := d })
    (h : ∀ w1, Ext [] w w1 → w1.heap.size = w.heap.size → regOk ol.toArray n = true → effOk ol.toArray n Ef = true → MW ⟨K, Ef, Pp, P, r, ol.toArray, n, nt, df, a, w1, Q⟩ 0 ol fr [] T) : Wp r P (.region id ol.toArray true) Q a w := by
  simp only [Bool.and_eq_true] at hchk
  obtain ⟨⟨⟨⟨h1, h2⟩, h3⟩, h4⟩, h6⟩ := hchk
  have hw1 : Ext [] w { w with drawn := w.drawn + 1 } := Ext.drawn w _
  obtain ⟨Us, Ts, hl, hs, hT1, hT2, hT3, hgt⟩ := h _ hw1 rfl h1 h6 rfl hsT ⟨hpo, hKr⟩ (by simp) ⟨fun t v hv => .inl ⟨fun j o hj => absurd hj (by simp), F.at_ t v hv⟩⟩ (Nat.zero_le _) F.size
  simp only [List.nil_append, List.length_nil] at hl hT1 hT2 hT3 hgt
  obtain ⟨hg, ht⟩ := hgt Ts (fun _ _ => rfl)
  have hst : ∀ k, StaysT K (Ts k) := fun k => by
    rcases Nat.eq_zero_or_pos k with rfl | h
    · rw [hT1]; exact hsT
    · exact hT2 k h
  have hTn : Pp ≠ [] → ∀ k σ w, Ts k σ w := fun hne k => by
    have hEf : Ef = [] := by
      simp only [pairOk, Bool.and_eq_true, Bool.or_eq_true] at hpo
      rcases hpo.1.2 with h | h
      · exact absurd (List.isEmpty_iff.1 h) hne
      · exact List.isEmpty_iff.1 h
    have : ∀ k, Ts k = T := fun k => by
      induction k with
      | zero => exact hT1
      | succ k ih => rw [hT3 k (Nat.zero_le _) (by rw [hEf]; simp), ih]
    rw [this k]
    exact hTt hne
  refine region_mid (K := K) (Pp := Pp) (Ef := Ef) (Ts := Ts) (nt := nt) (df := df) hm.h h1 h2 (by have := Nat.le_of_ble_eq_true h3; simpa using this) hl hs h6 hst (fun k hk => hT3 k (Nat.zero_le _) hk) (by rw [hT1]; exact hT _ _) hpo hTn (fun i o d hi ho hd => ?_) F.size F.defers rfl (fun i V hV => by simpa using hg i V hV) (fun listed a w M hall => ?_)
  · have := List.all_eq_true.1 h4 i (List.mem_range.2 hi)
    rw [ho] at this
    simp only [hd] at this
    simpa using this
  · obtain ⟨m, _, hm1, hm2⟩ := M.last h6 (fun k hk => hT3 k (Nat.zero_le _) hk) hall
    exact ht listed a w M hall (by rw [← hm2]; exact hm1)
section
variable {P : Program} {r : Option Nat} {Q : Exit → Act → World → Prop} {a : Act} {w : World} {nt : Nat} {df : List Deferred} {fr : List (Nat × Value)} {id : Nat} {ol : List Oper} {S : List Nat} {W0 : World} {l : List (Nat × Obj)}
theorem c_drawOne {b : Nat} {o : Obj} (M : Mem S W0 w ((b, o) :: l)) (o' : Obj) (n : Nat) [hm : TMix P] (F : Frm a nt df fr)
    (hchk : (regOk ol.toArray n && tailOk ol.toArray n && Nat.ble n ol.length && dstOk ol.toArray n nt && effOk ol.toArray n []) = true)
    (h : ∀ w1, Mem S W0 w1 ((b, o) :: l) → regOk ol.toArray n = true → MW ⟨keepOne S W0 l b o o', [], [], P, r, ol.toArray, n, nt, df, a, w1, Q⟩ 0 ol fr [] noT) : Wp r P (.region id ol.toArray true) Q a w :=
  c_drawK _ [] [] noT n F hchk rfl (fun h => absurd rfl h) (fun h => absurd rfl h) (noT.stays _) (fun _ _ => trivial) fun w1 hE _ hok _ => h w1 (M.later hE) hok
theorem c_draw (n : Nat) [hm : TMix P] (F : Frm a nt df fr)
    (hchk : (regOk ol.toArray n && tailOk ol.toArray n && Nat.ble n ol.length && dstOk ol.toArray n nt && effOk ol.toArray n []) = true)
    (h : ∀ w1, Ext [] w w1 → regOk ol.toArray n = true → MW ⟨keepAll, [], [], P, r, ol.toArray, n, nt, df, a, w1, Q⟩ 0 ol fr [] noT) : Wp r P (.region id ol.toArray true) Q a w :=
  c_drawK keepAll [] [] noT n F hchk rfl (fun h => absurd rfl h) (fun h => absurd rfl h) (noT.stays _) (fun _ _ => trivial) fun w1 hE _ hok _ => h w1 hE hok
/-- with operations that turn the blocks B, of which l0 is known ahead -/
theorem c_drawB {l0 : List (Nat × Obj)} (B : List Nat) (Ef : List Nat) (M : Mem S W0 w (l0 ++ l)) (n : Nat) [hm : TMix P] (F : Frm a nt df fr)
    (hchk : (regOk ol.toArray n && tailOk ol.toArray n && Nat.ble n ol.length && dstOk ol.toArray n nt && effOk ol.toArray n Ef) = true)
    (h : ∀ w1, Mem S W0 w1 (l0 ++ l) → regOk ol.toArray n = true → effOk ol.toArray n Ef = true → MW ⟨keepBut B, Ef, [], P, r, ol.toArray, n, nt, df, a, w1, Q⟩ 0 ol fr [] (fun _ w => Mem S W0 w (l0 ++ l))) : Wp r P (.region id ol.toArray true) Q a w :=
  c_drawK (keepBut B) Ef [] (fun _ w => Mem S W0 w (l0 ++ l)) n F hchk rfl (fun h => absurd rfl h) (fun h => absurd rfl h) (fun _ _ _ h k => h.later k) (fun _ d => M.later (Ext.drawn w d)) fun w1 hE _ hok hef => h w1 (M.later hE) hok hef
/-- with allocs that are stored into -/
theorem c_drawP (Pp : List PairI) (n : Nat) [hm : TMix P] (F : Frm a nt df fr)
    (hchk : (regOk ol.toArray n && tailOk ol.toArray n && Nat.ble n ol.length && dstOk ol.toArray n nt && effOk ol.toArray n []) = true) (hpo : pairOk ol.toArray n [] Pp = true)
    (h : ∀ w1, Ext [] w w1 → w1.heap.size = w.heap.size → regOk ol.toArray n = true → MW ⟨keepOld w.heap.size, [], Pp, P, r, ol.toArray, n, nt, df, a, w1, Q⟩ 0 ol fr [] noT) : Wp r P (.region id ol.toArray true) Q a w :=
  c_drawK (keepOld w.heap.size) [] Pp noT n F hchk hpo (fun _ _ _ h => h) (fun _ _ _ => trivial) (noT.stays _) (fun _ _ => trivial) fun w1 hE hsz hok _ => h w1 hE hsz hok
end
theorem Mem.laterOld {S : List Nat} {W0 w w' : World} {l : List (Nat × Obj)} {n : Nat} (M : Mem S W0 w l) (h : Old n w w') (hn : w.heap.size ≤ n) : Mem S W0 w' l := by
  have hE : Ext [] w w' := ⟨h.os, h.tape, h.output, h.size, fun k hk _ => h.block k (by omega) hk⟩
  exact M.later hE
theorem Mem.laterBut {S B : List Nat} {W0 w w' : World} {l0 l : List (Nat × Obj)} (M : Mem S W0 w (l0 ++ l)) (h : Ext B w w') (hB : ∀ k ∈ B, k ∈ l0.map (·.1)) : Mem S W0 w' l := by
  have hnd := M.nd
  rw [List.map_append, List.nodup_append] at hnd
  have hown : ∀ k ∈ B, k ∈ S ∨ W0.heap.size ≤ k := fun k hk => by
    obtain ⟨p, hp, e⟩ := List.mem_map.1 (hB k hk)
    have := M.own p (by simp [hp])
    rwa [e] at this
  have hnot : ∀ p ∈ l, p.1 ∉ B := fun p hp hb => hnd.2.2 _ (hB _ hb) _ (List.mem_map.2 ⟨p, hp, rfl⟩) rfl
  refine ⟨⟨h.os.trans M.ext.os, h.tape.trans M.ext.tape, h.output.trans M.ext.output, Nat.le_trans M.ext.size h.size, fun k hk hs => ?_⟩, fun p hp => ?_, hnd.2.1, fun p hp => M.own p (by simp [hp])⟩
  · rw [h.block k (Nat.lt_of_lt_of_le hk M.ext.size) (fun hb => (hown k hb).elim hs (fun h1 => absurd hk (Nat.not_lt.2 h1)))]
    exact M.ext.block k hk hs
  · rw [h.block p.1 (M.lt (by simp [hp])) (hnot p hp)]
    exact M.at_ p (by simp [hp])
theorem run_al {P : Program} {ρ : Operand → Value} {w : World} {d : Option Tmp} {t ty : TypeId} {pos : String} {af : Array Edge} {g : Option (Nat × Bool)} {cs : List Value} [hz : TZero P t cs] : (execOp ρ ⟨d, .alloc t, ty, pos, af, g⟩).run P w = .ok (.value (ptrTo w.heap.size)) (w.alloc (.cells cs.toArray t (0, 0))) := by
  obtain ⟨z, hzc, hr⟩ := run_zeroC (w := w) hz.h
  simp [execOp, Instr.alloc, hr, newVar, newRow, ← hzc, ptrTo]
theorem run_bx {P : Program} {ρ : Operand → Value} {w : World} {d : Option Tmp} {t ty : TypeId} {pos : String} {af : Array Edge} {g : Option (Nat × Bool)} {x : Operand} {v : Value} {cs : List Value} (hx : ρ x = v) (hv : v.cells = cs.toArray) : (execOp ρ ⟨d, .box t x, ty, pos, af, g⟩).run P w = .ok (.value (ptrTo w.heap.size)) (w.alloc (.cells cs.toArray t (0, 0))) := by
  simp [execOp, Instr.box, hx, newVar, newRow, ← hv, ptrTo]
theorem Mem.al {S : List Nat} {W0 w w1 : World} {l pre : List (Nat × Obj)} {b : Nat} {o : Obj} (M : Mem S W0 w (pre ++ l)) (M1 : Mem S W0 w1 l) (h : w.heap[b]? = some o) (hn : w1.heap.size ≤ b) (hp : ∀ p ∈ pre, ptrTo p.1 ≠ ptrTo b) : Mem S W0 w ((b, o) :: (pre ++ l)) :=
  M.cons h (fun p hm => by
    rcases List.mem_append.1 hm with h1 | h1
    · exact fun e => hp p h1 (by rw [e])
    · have := M1.lt h1; omega) (.inr (Nat.le_trans M1.ext.size hn))
/-- What is known of a slot besides. -/
theorem Frm.know {a : Act} {n : Nat} {df : List Deferred} {fr : List (Nat × Value)} (F : Frm a n df fr) {d : Nat} {v : Value} (h : a.tmps.getD d undef = v) : Frm a n df ((d, v) :: fr) :=
  ⟨F.size, F.defers, fun t u hu => by
    rw [look_put] at hu
    by_cases e : d = t
    · subst e; simp only [if_true, Option.some.injEq] at hu; rw [h, hu]
    · rw [if_neg e] at hu; exact F.at_ t u hu⟩
end Go.Proofs.YtadnpidadcgdcaaDoor

/-
  Texts joined: Z2, Lib7, LibW, LibU, LibV, LibX, LibY, Lib2, Lib3, Tab, Lib4, Lib5, Y5, Z4, Z3, Z5.
-/
import Derived.Test.YtilgoepokaaleaaGreatNoCircle2
import Derived.MapKept
import Derived.Shelf.SlSortCmp.WholeK
import Derived.Shelf.SlSortCmp.NoneTotal
/-! Z2 -/
namespace Go.Proofs.YtilgoepokaaleaaGreat
set_option linter.unusedVariables false
set_option linter.unusedSimpArgs false
open Go.RowKit
section
variable {α : Type}
def vld1 (e1 : α → Bool) (cm : α → α → Int) (l : List α) (i : Nat) : Bool := match l[i]? with
 | none => true
 | some a => e1 a && (decide (i = 0) || match l[i - 1]? with
  | none => true
  | some b => decide (cm b a < 0))
def vldL (n : Nat) (e1 : α → Bool) (cm : α → α → Int) (l : List α) : Bool := decide (l.length ≤ n) && (List.range l.length).all (vld1 e1 cm l)
variable {n : Nat} {e1 : α → Bool} {cm : α → α → Int} {l : List α}
theorem vld1_0 {i : Nat} (h : i < l.length) (h0 : i = 0) : vld1 e1 cm l i = e1 l[i] := by
 subst h0
 simp [vld1, List.getElem?_eq_getElem h]
theorem vld1_s {i : Nat} (h : i < l.length) (h0 : 0 < i) : vld1 e1 cm l i = (e1 l[i] && decide (cm (l[i - 1]'(by omega)) l[i] < 0)) := by
 have : ¬ i = 0 := by omega
 simp [vld1, List.getElem?_eq_getElem h, List.getElem?_eq_getElem (show i - 1 < l.length by omega), this]
theorem vld1_f {i : Nat} (h : i < l.length) (hv : e1 l[i] = false) : vld1 e1 cm l i = false := by
 simp [vld1, List.getElem?_eq_getElem h, hv]
abbrev AscC (cm : α → α → Int) (l : List α) : Prop := l.Pairwise fun a b => cm a b < 0
theorem vldL_iff (tr : ∀ a b c, cm a b < 0 → cm b c < 0 → cm a c < 0) : vldL n e1 cm l = true ↔ l.length ≤ n ∧ (∀ a ∈ l, e1 a = true) ∧ AscC cm l := by
 unfold vldL
 rw [Bool.and_eq_true, decide_eq_true_eq, List.all_eq_true]
 constructor
 ·rintro ⟨h1, h2⟩
  have hat : ∀ i (hi : i < l.length), e1 l[i] = true ∧ (0 < i → ∀ h : i - 1 < l.length, cm l[i - 1] l[i] < 0) := by
   intro i hi
   have := h2 i (List.mem_range.2 hi)
   simp only [vld1, List.getElem?_eq_getElem hi, Bool.and_eq_true, Bool.or_eq_true, decide_eq_true_eq] at this
   refine ⟨this.1, fun h0 h => ?_⟩
   rcases this.2 with h3 | h3
   ·omega
   ·rw [List.getElem?_eq_getElem h] at h3
    simpa using h3
  refine ⟨h1, fun a ha => ?_, ?_⟩
  ·obtain ⟨i, hi, rfl⟩ := List.mem_iff_getElem.1 ha
   exact (hat i hi).1
  ·refine List.pairwise_iff_getElem.2 ?_
   intro i j hi hj hij
   have key : ∀ n, ∀ (hn : i + 1 + n < l.length), cm l[i] (l[i + 1 + n]'hn) < 0 := by
    intro n
    induction n with
    | zero => intro hn;exact (hat (i + 1) hn).2 (by omega) (by omega)
    | succ n ih =>
     intro hn
     have h3 := (hat (i + 1 + (n + 1)) hn).2 (by omega) (by omega)
     exact tr _ _ _ (ih (by omega)) h3
   have := key (j - i - 1) (by omega)
   simpa [show i + 1 + (j - i - 1) = j by omega] using this
 ·rintro ⟨h1, h2, h3⟩
  refine ⟨h1, fun i hi => ?_⟩
  have hi' := List.mem_range.1 hi
  replace h3 := List.pairwise_iff_getElem.1 h3
  have h4 := h2 l[i] (List.getElem_mem hi')
  simp only [vld1, List.getElem?_eq_getElem hi', h4, Bool.true_and, Bool.or_eq_true, decide_eq_true_eq]
  by_cases h0 : i = 0
  ·exact .inl h0
  ·right
   rw [List.getElem?_eq_getElem (show i - 1 < l.length by omega)]
   simpa using h3 (i - 1) i (by omega) hi' (by omega)
end
theorem cmpI_lt {a b : Int} : cmpI a b < 0 ↔ a < b := by
 unfold cmpI
 repeat' split
 all_goals omega
theorem cmpI_zero {a b : Int} : cmpI a b = 0 ↔ a = b := by
 unfold cmpI
 repeat' split
 all_goals omega
def keyR (r : RouV) : List Int := keyD r.to ++ [r.nb]
def cmpR (a b : RouV) : Int := cmpL (keyR a) (keyR b)
theorem keyD_len {d : DstV} (h : IsDv d) : (keyD d).length = 35 := by
 simp [keyD, h.1.len, h.2.len]
theorem cmpR_or {a b : RouV} (ha : IsDv a.to) (hb : IsDv b.to) : cmpR a b = orI (cmpD a.to b.to) (cmpI a.nb b.nb) := by
 unfold cmpR keyR
 rw [cmpL_two _ _ _ _ (by rw [keyD_len ha, keyD_len hb]), cmpL_cons]
 have : cmpL ([] : List Int) [] = 0 := cmpL_self _
 rw [this]
 show orI (cmpD a.to b.to) (orI (cmpI a.nb b.nb) 0) = _
 congr 1
 unfold orI
 split <;> simp_all
theorem cmpR_anti (a b : RouV) : cmpR b a = - cmpR a b := cmpL_anti _ _
theorem cmpR_trans {a b c : RouV} (h : cmpR a b < 0) (k : cmpR b c < 0) : cmpR a c < 0 := cmpL_lt_trans h k
theorem cmpR_zero {a b : RouV} (ha : IsDv a.to) (hb : IsDv b.to) : cmpR a b = 0 ↔ a.to = b.to ∧ a.nb = b.nb := by
 rw [cmpR_or ha hb, orI]
 by_cases h : cmpD a.to b.to = 0
 ·rw [if_pos h, cmpI_zero, cmpD_eq ha hb] at *
  simp [h]
 ·rw [if_neg h]
  have h2 : ¬ a.to = b.to := fun e => h ((cmpD_eq ha hb).2 e)
  simp [h, h2]
def finD (d : DisV) : Bool := validM d.met && !decide (d.met = inf)
def rou1 (r : RouV) : Bool := validT r.to && !decide (r.nb = 0) && finD r.said && isTime r.til
def validRs (l : List RouV) : Bool := vldL 512 rou1 cmpR l
theorem validRs_iff {l : List RouV} : validRs l = true ↔ l.length ≤ 512 ∧ (∀ a ∈ l, rou1 a = true) ∧ AscC cmpR l := vldL_iff (fun _ _ _ h k => cmpR_trans h k)
def lowR (l : List RouV) (x : RouV) : List RouV := l.filter fun y => decide (cmpR y x < 0)
def highR (l : List RouV) (x : RouV) : List RouV := l.filter fun y => decide (0 < cmpR y x)
def putR (l : List RouV) (x : RouV) (gone : Bool) : List RouV := lowR l x ++ ((if gone then [] else [x]) ++ highR l x)
theorem mem_putR {l : List RouV} {x y : RouV} {g : Bool} : y ∈ putR l x g ↔ (g = false ∧ y = x) ∨ (y ∈ l ∧ cmpR y x ≠ 0) := by
 unfold putR lowR highR
 simp only [List.mem_append, List.mem_filter, decide_eq_true_eq]
 constructor
 ·rintro (⟨h1, h2⟩ | h | ⟨h1, h2⟩)
  ·exact .inr ⟨h1, by omega⟩
  ·cases g <;> simp at h
   exact .inl ⟨rfl, h⟩
  ·exact .inr ⟨h1, by omega⟩
 ·rintro (⟨rfl, rfl⟩ | ⟨h1, h2⟩)
  ·exact .inr (.inl (by simp))
  ·rcases Int.lt_or_lt_of_ne h2 with h | h
   ·exact .inl ⟨h1, h⟩
   ·exact .inr (.inr ⟨h1, h⟩)
theorem asc_putR {l : List RouV} {x : RouV} {g : Bool} (h : AscC cmpR l) : AscC cmpR (putR l x g) := by
 unfold putR lowR highR
 refine List.pairwise_append.2 ⟨h.sublist List.filter_sublist, List.pairwise_append.2 ⟨?_, h.sublist List.filter_sublist, ?_⟩, ?_⟩
 ·cases g <;> simp
 ·intro a ha b hb
  cases g <;> simp at ha
  subst ha
  have := (List.mem_filter.1 hb).2
  simp only [decide_eq_true_eq] at this
  rw [cmpR_anti b a]
  omega
 ·intro a ha b hb
  have ha2 := (List.mem_filter.1 ha).2
  simp only [decide_eq_true_eq] at ha2
  rcases List.mem_append.1 hb with hb | hb
  ·cases g <;> simp at hb
   subst hb
   exact ha2
  ·have hb2 := (List.mem_filter.1 hb).2
   simp only [decide_eq_true_eq] at hb2
   exact cmpR_trans ha2 (by rw [cmpR_anti b x];omega)
structure PlR (ys : List RouV) (x : RouV) (i : Nat) : Prop where
 le : i ≤ ys.length
 lo : ∀ j (hj : j < i) (hl : j < ys.length), cmpR ys[j] x < 0
 hi : ∀ j (hj : i ≤ j) (hl : j < ys.length), 0 ≤ cmpR ys[j] x
def fndR (ys : List RouV) (x : RouV) (i : Nat) : Bool := match ys[i]? with | some y => decide (cmpR y x = 0) | none => false
theorem fndR_at {ys : List RouV} {x : RouV} {i : Nat} (h : i < ys.length) : fndR ys x i = decide (cmpR ys[i] x = 0) := by simp [fndR, List.getElem?_eq_getElem h]
theorem filter_all {α : Type} {p : α → Bool} {l : List α} (h : ∀ a ∈ l, p a = true) : l.filter p = l := List.filter_eq_self.2 h
theorem filter_no {α : Type} {p : α → Bool} {l : List α} (h : ∀ a ∈ l, p a = false) : l.filter p = [] := by
 rw [List.filter_eq_nil_iff]
 intro a ha
 rw [h a ha]
 simp
section
variable {ys : List RouV} {x : RouV} {i : Nat} (hP : PlR ys x i)
include hP
theorem PlR.low : lowR ys x = ys.take i := by
 unfold lowR
 conv => lhs;rw [← List.take_append_drop i ys]
 rw [List.filter_append, filter_all, filter_no, List.append_nil]
 ·intro a ha
  obtain ⟨j, hj, rfl⟩ := List.mem_iff_getElem.1 ha
  rw [List.length_drop] at hj
  rw [List.getElem_drop]
  have := hP.hi (i + j) (by omega) (by omega)
  exact decide_eq_false (by omega)
 ·intro a ha
  obtain ⟨j, hj, rfl⟩ := List.mem_iff_getElem.1 ha
  rw [List.length_take] at hj
  rw [List.getElem_take]
  exact decide_eq_true (hP.lo j (by omega) (by omega))
theorem PlR.take_high : (ys.take i).filter (fun y => decide (0 < cmpR y x)) = [] := filter_no fun a ha => by
 obtain ⟨j, hj, rfl⟩ := List.mem_iff_getElem.1 ha
 rw [List.length_take] at hj
 rw [List.getElem_take]
 have := hP.lo j (by omega) (by omega)
 exact decide_eq_false (by omega)
theorem PlR.miss (h : fndR ys x i = false) (ha : AscC cmpR ys) : highR ys x = ys.drop i := by
 unfold highR
 conv => lhs;rw [← List.take_append_drop i ys]
 rw [List.filter_append, hP.take_high, List.nil_append]
 refine filter_all fun a h2 => ?_
 obtain ⟨j, hj, rfl⟩ := List.mem_iff_getElem.1 h2
 rw [List.length_drop] at hj
 rw [List.getElem_drop]
 have h3 := hP.hi (i + j) (by omega) (by omega)
 rw [fndR_at (by omega)] at h
 have h4 := of_decide_eq_false h
 have h5 := hP.hi i (by omega) (by omega)
 rcases Nat.eq_zero_or_pos j with h0 | h0
 ·subst h0
  simp only [Nat.add_zero] at h3 ⊢
  exact decide_eq_true (by omega)
 ·have h6 := (List.pairwise_iff_getElem.1 ha) i (i + j) (by omega) (by omega) (by omega)
  refine decide_eq_true ?_
  have h7 : cmpR x ys[i] < 0 := by rw [cmpR_anti ys[i] x];omega
  have := cmpR_trans h7 h6
  rw [cmpR_anti ys[i + j] x] at this
  omega
theorem PlR.hit (h : fndR ys x i = true) (ha : AscC cmpR ys) : ∃ hi : i < ys.length, cmpR ys[i] x = 0 ∧ highR ys x = ys.drop (i + 1) := by
 have hi : i < ys.length := by
  rcases Nat.lt_or_ge i ys.length with h1 | h1
  ·exact h1
  ·simp [fndR, List.getElem?_eq_none h1] at h
 rw [fndR_at hi] at h
 have h4 := of_decide_eq_true h
 refine ⟨hi, h4, ?_⟩
 unfold highR
 conv => lhs;rw [← List.take_append_drop i ys]
 rw [List.filter_append, hP.take_high, List.nil_append, ← List.getElem_cons_drop hi, List.filter_cons, h4]
 simp only [Int.lt_irrefl, decide_false, Bool.false_eq_true, if_false]
 refine filter_all fun a h2 => ?_
 obtain ⟨j, hj, rfl⟩ := List.mem_iff_getElem.1 h2
 rw [List.length_drop] at hj
 rw [List.getElem_drop]
 have h6 := (List.pairwise_iff_getElem.1 ha) i (i + 1 + j) (by omega) (by omega) (by omega)
 refine decide_eq_true ?_
 have hk : ∀ {a b c : RouV}, cmpR a b = 0 → cmpR a c < 0 → cmpR b c < 0 := fun {a b c} h k => by
  have h1 : cmpL (keyR a) (keyR b) = 0 := h
  have h2 : keyR a = keyR b := cmpL_zero h1
  unfold cmpR at k ⊢
  rw [← h2]
  exact k
 have := hk h4 h6
 rw [cmpR_anti ys[i + 1 + j] x] at this
 omega
end
end Go.Proofs.YtilgoepokaaleaaGreat
/-! Lib7 -/
namespace Go.Proofs.YtilgoepokaaleaaGreat
set_option linter.unusedVariables false
set_option linter.unusedSimpArgs false
open Go.RowKit
section
variable {α : Type} {n : Nat} {e1 : α → Bool} {cm : α → α → Int} {l : List α} {i : Nat}
theorem vl_at {b : Bool} (h : i < l.length) (hv : vld1 e1 cm l i = false) (hb : vldL n e1 cm l = b) : b = false := by
 rw [← hb]
 unfold vldL
 rw [List.all_eq_false.2 ⟨i, List.mem_range.2 h, by rw [hv];simp⟩, Bool.and_false]
theorem vl_F {x : α} {b : Bool} {W w : World} (hb : vldL n e1 cm l = b) (h : i < l.length) (hx : x = l[i]) (hv : e1 x = false) (E : Ext [] W w) : Value.bool false = .bool b ∧ Ext [] W w := ⟨by rw [vl_at h (vld1_f h (by rw [← hx];exact hv)) hb], E⟩
theorem vl_S {x y : α} {b : Bool} {W w : World} (hb : vldL n e1 cm l = b) (h : i < l.length) (h0 : 0 < i) (hx : x = l[i]) (hy : y = l[i - 1]'(by omega)) (hv : ¬ cm y x < 0) (E : Ext [] W w) : Value.bool false = .bool b ∧ Ext [] W w := ⟨by rw [vl_at h (by rw [vld1_s h h0, ← hx, ← hy, decide_eq_false hv, Bool.and_false]) hb], E⟩
theorem vl_N {x : α} (h : i < l.length) (hx : x = l[i]) (ha : ∀ j, j < i → vld1 e1 cm l j = true) (h1 : e1 x = true) (h2 : ∀ h0 : 0 < i, cm (l[i - 1]'(by omega)) x < 0) : ∀ j, j < i + 1 → vld1 e1 cm l j = true := fun j hj => by
 rcases Nat.lt_or_ge j i with h3 | h3
 ·exact ha j h3
 ·obtain rfl : j = i := by omega
  rcases Nat.eq_zero_or_pos j with h0 | h0
  ·rw [vld1_0 h h0, ← hx];exact h1
  ·rw [vld1_s h h0, ← hx, h1, decide_eq_true (h2 h0)];rfl
theorem vl_L {b : Bool} {W w : World} (hb : vldL n e1 cm l = b) (h : n < l.length) (E : Ext [] W w) : Value.bool false = .bool b ∧ Ext [] W w := by
 refine ⟨?_, E⟩
 rw [← hb]
 unfold vldL
 rw [decide_eq_false (by omega), Bool.false_and]
theorem vl_T {b : Bool} {W w : World} (hb : vldL n e1 cm l = b) (h : l.length ≤ n) (ha : ∀ j, j < l.length → vld1 e1 cm l j = true) (E : Ext [] W w) : Value.bool true = .bool b ∧ Ext [] W w := by
 refine ⟨?_, E⟩
 rw [← hb]
 unfold vldL
 rw [decide_eq_true h, Bool.true_and, List.all_eq_true.2 fun j hj => ha j (List.mem_range.1 hj)]
end
end Go.Proofs.YtilgoepokaaleaaGreat
/-! LibW -/
namespace Go.Proofs.YtilgoepokaaleaaGreat
set_option linter.unusedVariables false
set_option linter.unusedSimpArgs false
open Go.RowKit
def findA {κ : Type} [DecidableEq κ] (x : κ) : List (κ × Value) → Nat → Option (Nat × Value)
 | [], _ => none
 | p :: m, i => if x = p.1 then some (i, p.2) else findA x m (i + 1)
def getA {κ ν : Type} [DecidableEq κ] (x : κ) : List (κ × ν) → Option ν
 | [] => none
 | p :: m => if x = p.1 then some p.2 else getA x m
def putA {κ ν : Type} [DecidableEq κ] (x : κ) (v : ν) : List (κ × ν) → List (κ × ν)
 | [] => [(x, v)]
 | p :: m => if x = p.1 then (x, v) :: m else p :: putA x v m
section plain
variable {κ ν μ : Type} [DecidableEq κ]
theorem getA_put_same (x : κ) (v : ν) : ∀ m, getA x (putA x v m) = some v
 | [] => by simp [putA, getA]
 | p :: m => by
  unfold putA
  split
  ·simp [getA]
  ·rename_i h
   simp [getA, h, getA_put_same x v m]
theorem getA_put_other {x y : κ} (h : y ≠ x) (v : ν) : ∀ m, getA y (putA x v m) = getA y m
 | [] => by simp [putA, getA, h]
 | p :: m => by
  unfold putA
  split
  ·rename_i h2
   subst h2
   simp [getA, h]
  ·simp [getA, getA_put_other h v m]
theorem getA_put (x y : κ) (v : ν) (m : List (κ × ν)) : getA y (putA x v m) = if y = x then some v else getA y m := by
 split
 ·rename_i h;subst h;exact getA_put_same _ _ _
 ·rename_i h;exact getA_put_other h _ _
theorem getA_map (f : ν → μ) (x : κ) : ∀ m : List (κ × ν), getA x (m.map fun p => (p.1, f p.2)) = (getA x m).map f
 | [] => rfl
 | p :: m => by
  simp only [List.map_cons, getA, getA_map f x m]
  split <;> rfl
theorem putA_map (f : ν → μ) (x : κ) (v : ν) : ∀ m : List (κ × ν), putA x (f v) (m.map fun p => (p.1, f p.2)) = (putA x v m).map fun p => (p.1, f p.2)
 | [] => rfl
 | p :: m => by
  simp only [List.map_cons, putA, putA_map f x v m]
  split <;> rfl
theorem findA_get (x : κ) : ∀ (m : List (κ × Value)) (i : Nat), (findA x m i).map (·.2) = getA x m
 | [], _ => rfl
 | p :: m, i => by
  unfold findA getA
  split
  ·rfl
  ·exact findA_get x m (i + 1)
theorem findA_none {x : κ} {v : Value} : ∀ {m : List (κ × Value)} {i : Nat}, findA x m i = none → putA x v m = m ++ [(x, v)]
 | [], _, _ => rfl
 | p :: m, i, h => by
  unfold findA at h
  split at h
  ·cases h
  ·rename_i hn
   simp only [putA, hn, if_false, List.cons_append]
   rw [findA_none h]
theorem findA_some {x : κ} {v u : Value} : ∀ {m : List (κ × Value)} {i j : Nat}, findA x m i = some (j, u) → ∃ k, j = i + k ∧ k < m.length ∧ putA x v m = m.set k (x, v) ∧ ∃ y, m[k]? = some (x, y)
 | [], _, _, h => by cases h
 | p :: m, i, j, h => by
  unfold findA at h
  split at h
  ·rename_i hx
   simp only [Option.some.injEq, Prod.mk.injEq] at h
   subst hx
   exact ⟨0, by omega, by simp, by simp [putA], p.2, by simp⟩
  ·rename_i hn
   obtain ⟨k, e, hk, hp, y, hy⟩ := findA_some (v := v) h
   exact ⟨k + 1, by omega, by simpa using hk, by simp [putA, hn, hp], y, by simpa using hy⟩
end plain
structure KeyLw (P : Program) (k : TypeId) {κ : Type} [DecidableEq κ] (kv : κ → Value) (ok : κ → Prop) : Prop where
 check : ∀ (em : Bool) (w : World) (x : κ), ok x → (Instr.checkKey em 10000 k (kv x)).run P w = .ok () w
 find : ∀ (w : World) (x : κ) (m : List (κ × Value)) (es : List MapEntry), ok x → (∀ p ∈ m, ok p.1) → es.map (fun e => (e.key, e.val)) = m.map (fun p => (kv p.1, p.2)) → (Instr.findKey k (kv x) es).run P w = .ok (findA x m 0) w
 stays : ∀ (w : World) (x : κ), ok x → (Instr.keyThatStays (kv x) (kv x)).run P w = .ok (kv x) w
theorem sameBits_int (n : Nat) (q : IntKind) (x : Int) : Instr.sameBits n (.int q x) (.int q x) = true := by
 cases n <;> simp [Instr.sameBits]
theorem check_int {P : Program} {k : TypeId} {q : IntKind} (hk : P.underlying k = some (.int q)) (em : Bool) (w : World) (x : Int) (n : Nat) : (Instr.checkKey em (n + 1) k (.int q x)).run P w = .ok () w := by
 simp [Instr.checkKey, run_underlying hk]
theorem keyLw_int {P : Program} {k : TypeId} {q : IntKind} (hk : P.underlying k = some (.int q)) : KeyLw P k (Value.int q) (fun _ => True) where
 check em w x _ := check_int hk em w x 9999
 find w x m es _ _ he := by
  have key : ∀ (m : List (Int × Value)) (es : List MapEntry) (i : Nat), es.map (fun e => (e.key, e.val)) = m.map (fun p => (Value.int q p.1, p.2)) → Instr.findNow (.int q) (.int q x) es i = some (findA x m i) := by
   intro m
   induction m with
   | nil =>
    intro es i h
    have : es = [] := by simpa using h
    subst this
    rfl
   | cons p m ih =>
    intro es i h
    cases es with
    | nil => simp at h
    | cons e es =>
     simp only [List.map_cons, List.cons.injEq, Prod.mk.injEq] at h
     obtain ⟨⟨h1, h2⟩, h3⟩ := h
     simp only [Instr.findNow, h1, Instr.sameNow, if_true, findA, h2]
     by_cases hx : x = p.1
     ·simp [hx]
     ·have : (x == p.1) = false := by simpa using hx
      rw [this]
      simp only [hx, if_false]
      exact ih es (i + 1) h3
  simp [Instr.findKey, run_underlying hk, key m es 0 he]
 stays w x _ := by
  unfold Instr.keyThatStays
  rw [if_pos (sameBits_int _ _ _)]
  rfl
section
variable {P : Program}
end
def MapAt {κ : Type} (kv : κ → Value) (m : List (κ × Value)) (o : Obj) : Prop := ∃ es clock, o = .map es clock ∧ es.toList.map (fun e => (e.key, e.val)) = m.map fun p => (kv p.1, p.2)
theorem MapAt.empty {κ : Type} (kv : κ → Value) : MapAt kv [] (.map #[] 0) := ⟨#[], 0, rfl, rfl⟩
def MapIn {κ : Type} (w : World) (kv : κ → Value) (v : Value) (m : List (κ × Value)) : Prop := ∃ b o, v = .map (some b) ∧ w.heap[b]? = some o ∧ MapAt kv m o
theorem MapIn.later {κ : Type} {W w : World} {kv : κ → Value} {v : Value} {m : List (κ × Value)} (h : MapIn W kv v m) (E : Ext [] W w) : MapIn w kv v m := by
 obtain ⟨b, o, rfl, hb, h⟩ := h
 exact ⟨b, o, rfl, by rw [E.block b (Array.getElem?_eq_some_iff.1 hb).1 (by simp)];exact hb, h⟩
/-- a map that the call has made itself -/
def OwnM {κ : Type} (kv : κ → Value) (v : Value) (m : List (κ × Value)) (ent : List (Nat × Obj)) : Prop := ∃ b o, v = .map (some b) ∧ ent = [(b, o)] ∧ MapAt kv m o
def zeroIs (P : Program) (t : TypeId) (z : Value) : Prop := (P.info? t).bind (·.zero) = some z
theorem run_zeroIs {P : Program} {t : TypeId} {z : Value} {w : World} (h : zeroIs P t z) : (zeroValue t).run P w = .ok z w := by
 unfold zeroIs at h
 cases hi : P.info? t with
 | none => simp [hi] at h
 | some i =>
  simp [hi] at h
  simp [zeroValue, typeInfo, hi, h]
section
variable {P : Program} {ρ : Operand → Value} {w W0 : World} {S : List Nat} {l l' : List (Nat × Obj)} {R : Value → World → Prop} {d : Option Tmp} {ty : TypeId} {pos : String} {af : Array Edge} {g : Option (Nat × Bool)}
variable {κ : Type} [DecidableEq κ] {kv : κ → Value} {ok : κ → Prop}
theorem o_makeMap {t k e : TypeId} {x : Operand} {q : IntKind} {n : Int} [ht : TU P t (.map k e)] (M : Mem S W0 w l) (hx : ρ x = .int q n) (h : ∀ b w', Mem S W0 w' ((b, .map #[] 0) :: l) → R (.map (some b)) w') : OpTo P ⟨d, .makeMap t (some x), ty, pos, af, g⟩ ρ w R :=
 OpTo.val (v := .map (some w.heap.size)) (w' := w.alloc (.map #[] 0)) (by simp [execOp, Instr.makeMap, hx, run_underlying ht.h, asInt, asIntOf, Result.andThen]) (h _ _ (M.alloc _))
theorem o_makeMap0 {t : TypeId} (M : Mem S W0 w l) (h : ∀ b w', Mem S W0 w' ((b, .map #[] 0) :: l) → R (.map (some b)) w') : OpTo P ⟨d, .makeMap t none, ty, pos, af, g⟩ ρ w R :=
 OpTo.val (v := .map (some w.heap.size)) (w' := w.alloc (.map #[] 0)) (by simp [execOp, Instr.makeMap, Result.andThen]) (h _ _ (M.alloc _))
theorem run_lookup {t k e : TypeId} {v z : Value} {m : List (κ × Value)} {c : Bool} (ht : P.underlying t = some (.map k e)) (K : KeyLw P k kv ok) (hz : zeroIs P e z) (hM : MapIn w kv v m) (hm : ∀ p ∈ m, ok p.1) {x : κ} (hx : ok x) :
  (Instr.lookup t v (kv x) c).run P w = .ok (if c then .tuple #[(getA x m).getD z, .bool (getA x m).isSome] else (getA x m).getD z) w := by
 obtain ⟨b, o, rfl, hb, es, clock, rfl, he⟩ := hM
 have hf := K.find w x m es.toList hx hm he
 rw [← findA_get x m 0]
 cases hr : findA x m 0 with
 | none => simp [Instr.lookup, run_underlying ht, MapKept.run_getObj_map hb, K.check es.isEmpty w x hx, hf, hr, run_zeroIs hz, Result.andThen]
 | some q => simp [Instr.lookup, run_underlying ht, MapKept.run_getObj_map hb, K.check es.isEmpty w x hx, hf, hr, Result.andThen]
theorem o_lookup2 {t k e : TypeId} {x y : Operand} {v z : Value} {m : List (κ × Value)} [ht : TU P t (.map k e)] (K : KeyLw P k kv ok) (hz : zeroIs P e z) (hM : MapIn w kv v m) (hm : ∀ p ∈ m, ok p.1) {a : κ} (ha : ok a) (hx : ρ x = v) (hy : ρ y = kv a)
  (h : R (.tuple [(getA a m).getD z, .bool (getA a m).isSome].toArray) w) : OpTo P ⟨d, .lookup t x y true, ty, pos, af, g⟩ ρ w R :=
 OpTo.val (v := .tuple [(getA a m).getD z, .bool (getA a m).isSome].toArray) (w' := w) (by simp [execOp, hx, hy, run_lookup (c := true) ht.h K hz hM hm ha]) h
theorem o_lookup1 {t k e : TypeId} {x y : Operand} {v z : Value} {m : List (κ × Value)} [ht : TU P t (.map k e)] (K : KeyLw P k kv ok) (hz : zeroIs P e z) (hM : MapIn w kv v m) (hm : ∀ p ∈ m, ok p.1) {a : κ} (ha : ok a) (hx : ρ x = v) (hy : ρ y = kv a)
  (h : R ((getA a m).getD z) w) : OpTo P ⟨d, .lookup t x y false, ty, pos, af, g⟩ ρ w R :=
 OpTo.val (v := (getA a m).getD z) (w' := w) (by simp [execOp, hx, hy, run_lookup (c := false) ht.h K hz hM hm ha]) h
theorem run_mapUpdate {t k e : TypeId} {b : Nat} {o : Obj} {u : Value} {m : List (κ × Value)} (ht : P.underlying t = some (.map k e)) (K : KeyLw P k kv ok) (hb : w.heap[b]? = some o) (hA : MapAt kv m o) (hm : ∀ p ∈ m, ok p.1) {x : κ} (hx : ok x) :
  ∃ o', MapAt kv (putA x u m) o' ∧ (Instr.mapUpdate t (.map (some b)) (kv x) u).run P w = .ok () (w.putObj b o') := by
 obtain ⟨es, clock, rfl, he⟩ := hA
 have hf := K.find w x m es.toList hx hm he
 have hlen : es.toList.length = m.length := by simpa using congrArg List.length he
 cases hr : findA x m 0 with
 | none =>
  refine ⟨.map (es.push { key := kv x, val := u, born := clock }) (clock + 1), ⟨_, _, rfl, ?_⟩, ?_⟩
  ·rw [findA_none hr]
   simp [he]
  ·simp [Instr.mapUpdate, run_underlying ht, MapKept.run_getObj_map hb, K.check false w x hx, hf, hr, MapKept.run_setObj_map _ hb, Result.andThen, World.putObj]
 | some q =>
  obtain ⟨j, y⟩ := q
  obtain ⟨i, e1, hi, hp, y', hy⟩ := findA_some (v := u) hr
  rw [Nat.zero_add] at e1
  subst e1
  have hil : j < es.toList.length := by omega
  have hkey : (es[j]?).map (·.key) = some (kv x) := by
   have h2 : (es.toList.map fun e => (e.key, e.val))[j]? = (m.map fun p => (kv p.1, p.2))[j]? := by rw [he]
   rw [List.getElem?_map, List.getElem?_map, hy] at h2
   simp only [Option.map_some, Option.map_eq_some_iff, Prod.mk.injEq, Array.getElem?_toList] at h2
   obtain ⟨e0, h3, h4, _⟩ := h2
   rw [h3, Option.map_some, h4]
  refine ⟨.map (es.modify j fun e => { e with key := kv x, val := u }) clock, ⟨_, _, rfl, ?_⟩, ?_⟩
  ·rw [hp]
   apply List.ext_getElem?
   intro n
   have h2 : (es.toList.map fun e => (e.key, e.val))[n]? = (m.map fun p => (kv p.1, p.2))[n]? := by rw [he]
   rw [List.getElem?_map, List.getElem?_map] at h2
   rw [List.getElem?_map, List.getElem?_map, Array.toList_modify, List.getElem?_modify, List.getElem?_set]
   split
   ·rename_i h3
    subst h3
    rw [List.getElem?_eq_getElem hil]
    rfl
   ·simpa using h2
  ·simp [Instr.mapUpdate, run_underlying ht, MapKept.run_getObj_map hb, K.check false w x hx, hf, hr, hkey, K.stays w x hx, MapKept.run_setObj_map _ hb, Result.andThen, World.putObj]
/-- a store into a map that the call has made itself -/
theorem o_mapUpdate {t k e : TypeId} {x y z : Operand} {v u : Value} {m : List (κ × Value)} {ent : List (Nat × Obj)} {f : List (Nat × Obj) → List (Nat × Obj)} [ht : TU P t (.map k e)] (K : KeyLw P k kv ok) (M : Mem S W0 w l) (hO : OwnM kv v m ent) (hl : TailAt ent l f) (hm : ∀ p ∈ m, ok p.1) {a : κ} (ha : ok a)
  (hx : ρ x = v) (hy : ρ y = kv a) (hz : ρ z = u) (h : ∀ ent' w', OwnM kv v (putA a u m) ent' → Mem S W0 w' (f ent') → R undef w') : OpTo P ⟨d, .mapUpdate t x y z, ty, pos, af, g⟩ ρ w R := by
 obtain ⟨lr, rfl, hf⟩ := hl.spec
 obtain ⟨b, o, rfl, rfl, hA⟩ := hO
 have hb := M.at_ (b, o) (by simp)
 have hlt : b < w.heap.size := (Array.getElem?_eq_some_iff.1 hb).1
 obtain ⟨o', hA', hr⟩ := run_mapUpdate (u := u) ht.h K hb hA hm ha
 refine OpTo.skip (w' := w.putObj b o') (by simp [execOp, hx, hy, hz, hr]) (h [(b, o')] _ ⟨b, o', rfl, rfl, hA'⟩ ?_)
 rw [hf]
 exact M.turned ((Upd.here (l := [])).append lr) (Ext.putObj w b o') (World.putObj_heap_same hlt)
omit [DecidableEq κ] in
theorem OwnM.at_ {v : Value} {m : List (κ × Value)} {ent : List (Nat × Obj)} (h : OwnM kv v m ent) (hb : ∀ p ∈ ent, w.heap[p.1]? = some p.2) : MapIn w kv v m := by
 obtain ⟨b, o, rfl, rfl, hA⟩ := h
 exact ⟨b, o, rfl, hb (b, o) (by simp), hA⟩
end
end Go.Proofs.YtilgoepokaaleaaGreat
/-! LibU -/
namespace Go.Proofs.YtilgoepokaaleaaGreat
set_option linter.unusedVariables false
set_option linter.unusedSimpArgs false
open Go.RowKit Go.Sort Go.Shelf
theorem ext_grow {w w' : World} (h : Ext [] w w') : ∃ q os', w' = grow (w.drewN q) os' := by
 refine ⟨w'.drawn - w.drawn, w'.heap.extract w.heap.size w'.heap.size, ?_⟩
 obtain ⟨hp, tp, dr, os, ou⟩ := w'
 obtain ⟨h1, h2, h3, h4, h5, h6⟩ := h
 simp only at h1 h2 h3 h4 h5 h6
 subst h1 h2 h3
 simp only [grow, World.drewN]
 congr 1
 ·apply Array.ext'
  apply List.ext_getElem?
  intro i
  simp only [Array.getElem?_toList]
  rcases Nat.lt_or_ge i w.heap.size with h | h
  ·rw [Array.getElem?_append_left h]
   exact h6 i h (by simp)
  ·rw [Array.getElem?_append_right h, Array.getElem?_extract]
   split
   ·rename_i h7
    congr 1
    omega
   ·rename_i h7
    exact Array.getElem?_eq_none (by omega)
 ·omega
theorem encL_get {α : Type} {enc : α → List Value} {k : Nat} (hk : ∀ x, (enc x).length = k) (h0 : 0 < k) : ∀ (ls : List α) (j : Nat), j < ls.length * k → (encL enc ls)[j]? = (ls[j / k]?).bind fun x => (enc x)[j % k]?
 | [], j, h => by simp at h
 | x :: xs, j, h => by
  rw [encL_cons]
  rcases Nat.lt_or_ge j k with hj | hj
  ·rw [List.getElem?_append_left (by rw [hk];exact hj), Nat.div_eq_of_lt hj, Nat.mod_eq_of_lt hj]
   rfl
  ·have e1 : j / k = (j - k) / k + 1 := by
    rw [show j = (j - k) + k by omega, Nat.add_div_right _ h0]
    simp
   have e2 : j % k = (j - k) % k := by
    rw [show j = (j - k) + k by omega, Nat.add_mod_right]
    simp
   rw [List.getElem?_append_right (by rw [hk];exact hj), hk, e1, e2, encL_get hk h0 xs (j - k) (by simp only [List.length_cons, Nat.add_mul] at h;omega)]
   simp
theorem flat_enc {α : Type} [Inhabited α] {enc : α → List Value} {k : Nat} (hk : ∀ x, (enc x).length = k) (h0 : 0 < k) (d : Array α) : (flatK enc k d).toList = encL enc d.toList := by
 have hl : (encL enc d.toList).length = d.size * k := by rw [encL_len (fun x _ => hk x)];simp
 apply List.ext_getElem?
 intro j
 rcases Nat.lt_or_ge j (d.size * k) with h | h
 ·have hd : j / k < d.size := Nat.div_lt_of_lt_mul (by rwa [Nat.mul_comm] at h)
  have hm : j % k < k := Nat.mod_lt _ h0
  rw [encL_get hk h0 _ _ (by simpa using h)]
  simp only [flatK, Array.toList_map, Array.toList_range]
  rw [List.getElem?_map, List.getElem?_range h]
  simp only [Option.map_some, Array.getElem?_toList]
  rw [Array.getElem?_eq_getElem hd]
  simp only [Option.bind_some]
  rw [getElem!_pos d (j / k) hd, getElem!_pos (enc d[j / k]) (j % k) (by rw [hk];exact hm), List.getElem?_eq_getElem (by rw [hk];exact hm)]
 ·rw [List.getElem?_eq_none (by simpa using h), List.getElem?_eq_none (by omega)]
section
variable {α : Type} [Inhabited α] {P : Program} {ρ : Ren} {enc : α → List Value} {k : Nat}
theorem cmp_lays {g : Nat} {cf : α → α → Int} {blk off size : Nat} {w : World} (h : ∀ (W : World) (x y : α), Cal P g [.agg (enc x).toArray, .agg (enc y).toArray].toArray W fun v w' => v = .int .i64 (cf x y) ∧ Ext [] W w') : CmpLays P g #[] enc k cf blk off size w := by
 intro m os dk _ x y
 refine ((h (sortWorldK enc k w blk off m dk os) x y).calls).mono ?_
 rintro e w' ⟨v, rfl, rfl, hE⟩
 exact ⟨rfl, ext_grow hE⟩
/-- The sort over a slice of the call's own. -/
theorem sort_own (L : SlLaysF0.n6 P ρ) (hk : ∀ x, (enc x).length = k) (h0 : 0 < k) (h1 : ∀ x, (enc x).all (·.oneCell') = true) (haE : aggTy P (ρ.t 24) k = true) (cf : α → α → Int) (hO : SWO (ltOf cf)) (hT : ∀ x y, ltOf cf x y = false → ltOf cf y x = false → x = y) {g : Nat} (hg : hasBody P g = true)
  (hcmp : ∀ (W : World) (x y : α), Cal P g [.agg (enc x).toArray, .agg (enc y).toArray].toArray W fun v w' => v = .int .i64 (cf x y) ∧ Ext [] W w')
  {S : List Nat} {W0 w : World} {l : List (Nat × Obj)} {f : List (Nat × Obj) → List (Nat × Obj)} {e : TypeId} {v : Value} (ls : List α) {ent : List (Nat × Obj)} (M : Mem S W0 w l) (hOw : OwnS e k v ls.length (encL enc ls) ent) (hl : TailAt ent l f) (hsz : ls.length < 4611686018427387904) :
  Cal P (ρ.f 6) [v, .func (.func g) #[] #[]].toArray w fun _ w' => ∃ ent', OwnS e k v ls.length (encL enc (ls.mergeSort fun x y => !(ltOf cf) y x)) ent' ∧ Mem S W0 w' (f ent') := by
 obtain ⟨lr, rfl, hf⟩ := hl.spec
 rcases hOw with ⟨rfl, hn, _, rfl⟩ | ⟨b, cap, junk, rfl, rfl, hxl, hjl, hnc⟩
 ·have hls : ls = [] := List.length_eq_zero_iff.1 hn
  subst hls
  refine Cal.of_calls (AnyF.slices_SortFunc_none L none 0 (.func (.func g) #[] #[]) w) ?_
  rintro e' w' ⟨rfl, rfl⟩
  exact ⟨_, rfl, [], by simpa [encL] using OwnS.nil e k, by rw [hf];exact M⟩
 ·have hb : w.heap[b]? = some (.cells (encL enc ls ++ junk).toArray e (0, 0)) := M.at_ (b, _) (by simp)
  have hlt : b < w.heap.size := (Array.getElem?_eq_some_iff.1 hb).1
  have hH : HoldsK enc k w b 0 ls.toArray := by
   intro j hj
   rw [size_flatK] at hj
   simp only [List.size_toArray] at hj
   have hfl := flat_enc hk h0 ls.toArray
   have hjf : j < (flatK enc k ls.toArray).size := by rw [size_flatK];simpa using hj
   refine ⟨?_, by simp [World.frozen?, hb]⟩
   rw [getElem!_pos _ j hjf]
   simp only [World.cell?, hb, id]
   rw [if_neg (by simp), Nat.zero_add, List.getElem?_toArray, List.getElem?_append_left (by rw [hxl];exact hj)]
   have h2 : (flatK enc k ls.toArray).toList[j]? = (encL enc ls)[j]? := by rw [hfl]
   rw [← h2, Array.getElem?_toList, Array.getElem?_eq_getElem hjf]
  have hagg : ∀ w, (isAgg (ρ.t 24)).run P w = .ok true w := fun w => run_isAgg_agg haE
  have hszo : ∀ w, (sizeOf (ρ.t 24)).run P w = .ok k w := fun w => run_sizeOf_agg haE
  have hcon := AnyQ.slices_SortFunc_total L k hagg hszo enc hk (fun x v hv => List.all_eq_true.1 (h1 x) v hv) cf hO g #[] b 0 cap ls.toArray w (fun args w => run_callFunc hg args w) (cmp_lays hcmp) hH hlt (by simpa using hsz) hT
  simp only [List.size_toArray] at hcon
  refine Cal.of_calls hcon ?_
  rintro e' w' ⟨rfl, n, os, rfl⟩
  refine ⟨_, rfl, [(b, .cells (encL enc (ls.mergeSort fun x y => !(ltOf cf) y x) ++ junk).toArray e (0, 0))], .inr ⟨b, cap, junk, rfl, rfl, by rw [encL_len (fun x _ => hk x)];simp, hjl, hnc⟩, ?_⟩
  rw [hf]
  obtain ⟨ds, hds⟩ : ∃ ds, ds = ls.mergeSort fun x y => !(ltOf cf) y x := ⟨_, rfl⟩
  rw [← hds]
  have hdl : ds.length = ls.length := by rw [hds];simp
  clear hcon hH
  have hcells : putCells id 0 (flatK enc k ds.toArray) (encL enc ls ++ junk).toArray = (encL enc ds ++ junk).toArray := by
   have hfl := flat_enc hk h0 ds.toArray
   have hfs : (flatK enc k ds.toArray).size = ls.length * k := by rw [size_flatK];simp [hdl]
   have hel : (encL enc ds).length = ls.length * k := by rw [encL_len (fun x _ => hk x), hdl]
   apply Array.ext'
   apply List.ext_getElem?
   intro i
   simp only [putCells, Array.getElem?_toList, Array.getElem?_mapIdx, List.getElem?_toArray]
   rcases Nat.lt_or_ge i (ls.length * k) with hi | hi
   ·rw [List.getElem?_append_left (by omega), List.getElem?_append_left (by omega), List.getElem?_eq_getElem (show i < (encL enc ls).length by omega)]
    simp only [Option.map_some]
    rw [if_pos ⟨Nat.zero_le _, by omega⟩, Nat.sub_zero, getElem!_pos _ i (by omega)]
    have h2 : (flatK enc k ds.toArray).toList[i]? = (encL enc ds)[i]? := by rw [hfl]
    rw [← h2, Array.getElem?_toList, Array.getElem?_eq_getElem (by omega)]
    rfl
   ·rw [List.getElem?_append_right (by omega), List.getElem?_append_right (by omega), hxl, hel]
    cases hjv : junk[i - ls.length * k]? with
    | none => rfl
    | some z =>
     simp only [Option.map_some]
     rw [if_neg (by omega)]
  have hnew : (sortWorldK enc k w b 0 n ds.toArray os).heap[b]? = some (.cells (encL enc ds ++ junk).toArray e (0, 0)) := by
   have hs : b < (putRowK enc k (Go.Sort.ahead w n) b 0 ds.toArray).heap.size := by simpa [putRowK, Go.Sort.ahead] using hlt
   simp only [sortWorldK, grow]
   rw [Array.getElem?_append_left hs]
   simp only [putRowK, putRow, mapBlock, Go.Sort.ahead]
   rw [Array.getElem?_modify]
   simp only [if_true, hb, Option.map_some, onCells, hcells]
  have hext : Ext [b] w (sortWorldK enc k w b 0 n ds.toArray os) := by
   refine ⟨rfl, rfl, rfl, ?_, ?_, fun j hj hne => ?_⟩
   ·simp [sortWorldK, grow, putRowK, putRow, mapBlock, Go.Sort.ahead]
   ·simp [sortWorldK, grow, putRowK, putRow, mapBlock, Go.Sort.ahead]
   ·have hs : j < (putRowK enc k (Go.Sort.ahead w n) b 0 ds.toArray).heap.size := by simpa [putRowK, Go.Sort.ahead] using hj
    simp only [sortWorldK, grow]
    rw [Array.getElem?_append_left hs]
    simp only [putRowK, putRow, mapBlock, Go.Sort.ahead]
    rw [Array.getElem?_modify, if_neg (by intro h;exact hne (by simp [h]))]
  exact M.turned ((Upd.here (l := [])).append lr) hext hnew
end
end Go.Proofs.YtilgoepokaaleaaGreat
/-! LibV -/
namespace Go.Proofs.YtilgoepokaaleaaGreat
set_option linter.unusedVariables false
set_option linter.unusedSimpArgs false
open Go.RowKit
/-- a block that such an append may turn -/
def Chg (w : World) (k : Nat) : Prop := ∃ cs t, w.heap[k]? = some (.cells cs t (0, 0)) ∧ 20 < cs.size
structure BigE (n0 : Nat) (w w' : World) : Prop where
 os : w'.os = w.os
 tape : w'.tape = w.tape
 output : w'.output = w.output
 size : w.heap.size ≤ w'.heap.size
 dr : w.drawn ≤ w'.drawn
 block : ∀ k, k < w.heap.size → (k < n0 ∨ ¬ Chg w k) → w'.heap[k]? = w.heap[k]?
theorem BigE.of_ext {n0 : Nat} {w w' : World} (h : Ext [] w w') : BigE n0 w w' := ⟨h.os, h.tape, h.output, h.size, h.dr, fun k hk _ => h.block k hk (by simp)⟩
theorem BigE.trans {n0 : Nat} {a b c : World} (h : BigE n0 a b) (k : BigE n0 b c) : BigE n0 a c :=
 ⟨k.os.trans h.os, k.tape.trans h.tape, k.output.trans h.output, Nat.le_trans h.size k.size, Nat.le_trans h.dr k.dr, fun i hi hc => by
  have h1 := h.block i hi hc
  rw [k.block i (Nat.lt_of_lt_of_le hi h.size) (hc.imp_right fun hn hx => hn (by
   obtain ⟨cs, t, e, hs⟩ := hx
   exact ⟨cs, t, by rw [← h1];exact e, hs⟩)), h1]⟩
theorem BigE.ext {w w' : World} (h : BigE w.heap.size w w') : Ext [] w w' := ⟨h.os, h.tape, h.output, h.size, h.dr, fun k hk _ => h.block k hk (.inl hk)⟩
section
variable {P : Program} {ρ : Operand → Value} {w W0 : World} {S : List Nat} {l l' : List (Nat × Obj)} {R : Value → World → Prop} {d : Option Tmp} {ty : TypeId} {pos : String} {af : Array Edge} {g : Option (Nat × Bool)}
end
end Go.Proofs.YtilgoepokaaleaaGreat
/-! LibX -/
namespace Go.Proofs.YtilgoepokaaleaaGreat
set_option linter.unusedVariables false
set_option linter.unusedSimpArgs false
open Go.RowKit
section
variable {P : Program} {ρ : Operand → Value} {w W0 : World} {S : List Nat} {l l' : List (Nat × Obj)} {R : Value → World → Prop} {d : Option Tmp} {ty : TypeId} {pos : String} {af : Array Edge} {g : Option (Nat × Bool)}
/-- a slice compared with nil -/
theorem o_eqlNil {t t' e : TypeId} {x y : Operand} {p : Option Addr} {n c : Nat} (hx : ρ x = .slice p n c) (hy : ρ y = .slice none 0 0) [ht : TU P t (.slice e)] (h : R (.bool p.isNone) w) : OpTo P ⟨d, .binOp .eql t x y t', ty, pos, af, g⟩ ρ w R := by
 have hr0 : ∀ k : Nat, (Op.equalIn (k + 1) t (.slice p n c) (.slice none 0 0)).run P w = .ok p.isNone w := fun k => by
  cases p <;> simp [Op.equalIn, run_underlying ht.h]
 have hr := hr0 9999
 exact OpTo.val (v := .bool p.isNone) (w' := w) (by simp [execOp, eqGuard, binOp, Op.equal, Op.maxDepth, hx, hy, hr]) h
/-- append of nothing -/
theorem o_append0 {st xt e : TypeId} {x y : Operand} {sz by_ b n cap : Nat} {xv : Value} [hst : TU P st (.slice e)] [hel : TEl P e sz by_] [hxt : TNI P xt] (hx : ρ x = .slice (some ⟨b, 0, none⟩) n cap) (hy : ρ y = xv) (hnc : n ≤ cap) (hX : SrcOf P w xv 0 sz [])
  (h : R (.slice (some ⟨b, 0, none⟩) n cap) w) : OpTo P ⟨d, .call ⟨.builtin .append, #[x, y], #[st, xt]⟩, ty, pos, af, g⟩ ρ w R := by
 obtain ⟨i, z, hi, rfl, rfl, hz, hzs⟩ := elB_spec hel.h
 have hrun := run_append_room' (tyy := ty) (b := b) (n := n) (cap := cap) (w' := w) hst.h hi (notInt_spec hxt.h) hX.len (by omega) (hX.cells w.drawn) (by simp [storeCells])
 exact OpTo.val (v := .slice (some ⟨b, 0, none⟩) (n + 0) cap) (w' := w) (by simp [execOp, resolve, invoke, builtin, hx, hy, hrun]) h
end
end Go.Proofs.YtilgoepokaaleaaGreat
/-! LibY -/
namespace Go.Proofs.YtilgoepokaaleaaGreat
set_option linter.unusedVariables false
set_option linter.unusedSimpArgs false
open Go.RowKit
theorem b_split {a : Act} {n : Nat} {df : List Deferred} {fr : List (Nat × Value)} {b : Bool} {p : Prop} (F : Frm a n df fr) (t : Nat) (h : look fr t = some (.bool b)) (ht : b = true → p) (hf : b = false → p) : p := by
 cases b
 ·exact hf rfl
 ·exact ht rfl
theorem ne_of_bne {x y : Int} (h : (x != y) = true) : x ≠ y := bne_iff_ne.1 h
theorem eq_of_bne_false {x y : Int} (h : (x != y) = false) : x = y := by simpa using h
theorem false_of_not {b : Bool} (h : (!b) = true) : b = false := by cases b <;> simp_all
theorem true_of_not {b : Bool} (h : (!b) = false) : b = true := by cases b <;> simp_all
section
variable {P : Program} {ρ : Operand → Value} {w W0 : World} {S : List Nat} {l l' : List (Nat × Obj)} {R : Value → World → Prop} {d : Option Tmp} {ty : TypeId} {pos : String} {af : Array Edge} {g : Option (Nat × Bool)}
theorem o_append1 {α : Type} {enc : α → List Value} {out : List α} {x0 : α} {st xt e : TypeId} {x y : Operand} {sz by_ : Nat} {v xv : Value} {ent : List (Nat × Obj)} {f : List (Nat × Obj) → List (Nat × Obj)} [hst : TU P st (.slice e)] [hel : TEl P e sz by_] [hxt : TNI P xt] (hO : OwnS e sz v out.length (encL enc out) ent) (M : Mem S W0 w l) (hl : TailAt ent l f)
  (hx : ρ x = v) (hy : ρ y = xv) (hX : SrcOf P w xv 1 sz (enc x0)) (hbd : (out.length + 1) * by_ ≤ 140737488355328)
  (h : ∀ v' ent' w', OwnS e sz v' (out ++ [x0]).length (encL enc (out ++ [x0])) ent' → Mem S W0 w' (f ent') → R v' w') (hln : out.length + 1 ≤ 9223372036854775807 := by first | omega | (simp only [List.length_append, List.length_singleton];omega)) : OpTo P ⟨d, .call ⟨.builtin .append, #[x, y], #[st, xt]⟩, ty, pos, af, g⟩ ρ w R := by
 refine o_append hO M hl hx hy hX hbd hln fun v' ent' w' hO' M' => h v' ent' w' ?_ M'
 rw [encL_app, encL_one, List.length_append, List.length_singleton]
 exact hO'
theorem o_eqlAE {t t' : TypeId} {x y : Operand} {ks : List LK} {xs ys : List Value} {b : Bool} [ht : TEq P t ks] (hx : ρ x = .agg xs.toArray) (hy : ρ y = .agg ys.toArray) (fx : fitsK ks xs = true) (fy : fitsK ks ys = true) (he : eqVs xs ys = b) (h : R (.bool b) w) : OpTo P ⟨d, .binOp .eql t x y t', ty, pos, af, g⟩ ρ w R := o_eqlA hx hy fx fy (by rw [he];exact h)
theorem o_lenOwn {x : Operand} {t e e' : TypeId} {v : Value} {sz n : Nat} {xs : List Value} {ent : List (Nat × Obj)} (hx : ρ x = v) (hO : OwnS e' sz v n xs ent) [ht : TU P t (.slice e)] (h : R (.int .i64 n) w) : OpTo P ⟨d, .call ⟨.builtin .len, #[x], #[t]⟩, ty, pos, af, g⟩ ρ w R := by
 obtain ⟨p, c, rfl⟩ := hO.slice
 exact o_lenSl hx h
end
theorem SlAt.memB {W : World} {sz : Nat} {q : Option Addr} {n cap : Nat} {cs : List Value} (h : SlAt W sz (.slice q n cap) n cs) (S : List Nat) (hn : ∀ b o s, q = some ⟨b, o, s⟩ → b ∉ S) : 0 < n → ∃ b o xs t fz, q = some ⟨b, o, none⟩ ∧ (∀ w', Ext S W w' → w'.heap[b]? = some (.cells (List.toArray xs) t fz)) ∧ seg xs o (n * sz) = some cs := by
 obtain ⟨p, cap', e, _, _, _, h5⟩ := h
 cases e
 intro h0
 obtain ⟨b, o, xs, t, fz, rfl, hb, hs⟩ := h5 h0
 refine ⟨b, o, xs, t, fz, rfl, fun w' E => ?_, hs⟩
 rw [E.block b (Array.getElem?_eq_some_iff.1 hb).1 (hn b o none rfl)]
 exact hb
section
variable {α : Type} (c : α → Int) (x : α)
def mergeG : Bool → List α → List α
 | done, [] => if done then [] else [x]
 | done, y :: l => (if decide (0 ≤ c y) && !done then [x] else []) ++ ((if c y = 0 then [] else [y]) ++ mergeG (done || decide (0 ≤ c y)) l)
theorem mergeG_cons {y : α} {l : List α} {done : Bool} : mergeG c x done (y :: l) = (if decide (0 ≤ c y) && !done then [x] else []) ++ ((if c y = 0 then [] else [y]) ++ mergeG c x (done || decide (0 ≤ c y)) l) := by
 conv => lhs;unfold mergeG
theorem mergeG_nil {done : Bool} : mergeG c x done [] = if done then [] else [x] := rfl
theorem mergeG_len : ∀ {done : Bool} {l : List α}, (mergeG c x done l).length ≤ l.length + (if done then 0 else 1)
 | done, [] => by
  rw [mergeG_nil]
  cases done <;> simp
 | done, y :: l => by
  rw [mergeG_cons]
  have := mergeG_len (done := done || decide (0 ≤ c y)) (l := l)
  generalize decide (0 ≤ c y) = g at *
  have h1 : (if c y = 0 then [] else [y]).length ≤ 1 := by split <;> simp
  generalize (if c y = 0 then [] else [y]) = ys at *
  rw [List.length_append, List.length_append, List.length_cons]
  cases done <;> cases g <;> simp at this ⊢ <;> omega
theorem mergeG_is {l : List α} (ha : l.Pairwise fun a b => 0 ≤ c a → 0 < c b) {done : Bool} : mergeG c x done l = l.filter (fun y => decide (c y < 0)) ++ ((if done then [] else [x]) ++ l.filter (fun y => decide (0 < c y))) := by
 induction l generalizing done with
 | nil => rw [mergeG_nil];simp
 | cons y l ih =>
  obtain ⟨h1, h2⟩ := List.pairwise_cons.1 ha
  rw [mergeG_cons, ih h2]
  rcases Int.lt_trichotomy (c y) 0 with hc | hc | hc
  ·rw [decide_eq_false (show ¬ 0 ≤ c y by omega), if_neg (show ¬ c y = 0 by omega), List.filter_cons_of_pos (by simpa using hc), List.filter_cons_of_neg (by simp;omega)]
   simp
  ·have hl : l.filter (fun y => decide (c y < 0)) = [] := by
    rw [List.filter_eq_nil_iff]
    intro z hz
    have := h1 z hz (by omega)
    simp
    omega
   rw [decide_eq_true (show 0 ≤ c y by omega), if_pos hc, List.filter_cons_of_neg (by simp;omega), List.filter_cons_of_neg (by simp;omega), hl]
   cases done <;> simp
  ·have hl : l.filter (fun y => decide (c y < 0)) = [] := by
    rw [List.filter_eq_nil_iff]
    intro z hz
    have := h1 z hz (by omega)
    simp
    omega
   rw [decide_eq_true (show 0 ≤ c y by omega), if_neg (show ¬ c y = 0 by omega), List.filter_cons_of_neg (by simp;omega), List.filter_cons_of_pos (by simpa using hc), hl]
   cases done <;> simp
end
end Go.Proofs.YtilgoepokaaleaaGreat
/-! Lib2 -/
namespace Go.Proofs.YtilgoepokaaleaaGreat
set_option linter.unusedVariables false
set_option linter.unusedSimpArgs false
open Go.RowKit
def isSlB (P : Program) (t : TypeId) : Bool := match P.underlying t with | some (.slice _) => true | _ => false
/-- what stays the same in a walk -/
structure Cx where
 P : Program
 r : Option Nat
 n : Nat
 df : List Deferred
 S : List Nat
 W : World
 flds : List (Nat × Nat × Nat)
 slcs : List Nat
 hf : (flds.all fun q => fieldAtB P q.1 q.2.1 q.2.2) = true
 hs : (slcs.all fun t => isSlB P t) = true
inductive KF
 | seq (y : Code)
 | blk (id : Nat)
inductive St
 | code (x : Code)
 | ops (all : Array Oper) (rest : List Oper)
 | ext (e : Exit)
def KQ (c : Cx) (Q : Exit → Act → World → Prop) : List KF → Exit → Act → World → Prop
 | [] => Q
 | .seq y :: ks => Exit.then (Wp c.r c.P y (KQ c Q ks)) (KQ c Q ks)
 | .blk id :: ks => Exit.inBlock id (KQ c Q ks)
def GS (c : Cx) (Q : Exit → Act → World → Prop) (ks : List KF) : St → Act → World → Prop
 | .code x => Wp c.r c.P x (KQ c Q ks)
 | .ops all rest => wpListIn (FW c.r) 0 c.P all (KQ c Q ks) rest
 | .ext e => KQ c Q ks e
/-- the memory's row: blocks, each alone, and lists of blocks that a slice owns -/
abbrev Row := List (List (Nat × Obj))
def G (c : Cx) (Q : Exit → Act → World → Prop) (ks : List KF) (st : St) (fr : List (Nat × Value)) (l : Row) : Prop :=
 ∀ a w, Frm a c.n c.df fr → Mem c.S c.W w l.flatten → GS c Q ks st a w
def fldOf : List (Nat × Nat × Nat) → Nat → Nat → Option Nat
 | [], _, _ => none
 | (s, i, o) :: r, t, j => match Nat.beq s t && Nat.beq i j with
  | true => some o
  | false => fldOf r t j
theorem fldOf_ok {P : Program} : ∀ {l : List (Nat × Nat × Nat)} {t j o : Nat}, (l.all fun q => fieldAtB P q.1 q.2.1 q.2.2) = true → fldOf l t j = some o → fieldAtB P t j o = true
 | [], _, _, _, _, h => by simp [fldOf] at h
 | (s, i, q) :: r, t, j, o, ha, h => by
  simp only [List.all_cons, Bool.and_eq_true] at ha
  unfold fldOf at h
  split at h
  ·rename_i hb
   simp only [Bool.and_eq_true] at hb
   obtain rfl := Nat.eq_of_beq_eq_true hb.1
   obtain rfl := Nat.eq_of_beq_eq_true hb.2
   cases h
   exact ha.1
  ·exact fldOf_ok ha.2 h
def memN : List Nat → Nat → Bool
 | [], _ => false
 | s :: r, t => match Nat.beq s t with
  | true => true
  | false => memN r t
theorem memN_ok : ∀ {l : List Nat} {t : Nat}, memN l t = true → t ∈ l
 | [], _, h => by simp [memN] at h
 | s :: r, t, h => by
  unfold memN at h
  split at h
  ·rename_i hb
   simp [Nat.eq_of_beq_eq_true hb]
  ·exact List.mem_cons_of_mem _ (memN_ok h)
def kEq : IntKind → IntKind → Bool
 | .i8, .i8 | .i16, .i16 | .i32, .i32 | .i64, .i64 | .u8, .u8 | .u16, .u16 | .u32, .u32 | .u64, .u64 => true
 | _, _ => false
theorem kEq_ok {a b : IntKind} (h : kEq a b = true) : a = b := by
 cases a <;> cases b <;> first | rfl | cases h
def cmpOp : BinOp → Int → Int → Option Bool
 | .lss, m, n => some (decide (m < n))
 | .leq, m, n => some (decide (m ≤ n))
 | .gtr, m, n => some (decide (n < m))
 | .geq, m, n => some (decide (n ≤ m))
 | .eql, m, n => some (m == n)
 | .neq, m, n => some (m != n)
 | _, _, _ => none
def evCmp (b : BinOp) : Value → Value → Option Value
 | .int k m, .int k' n => match kEq k k' with
  | true => match cmpOp b m n with
   | some v => some (.bool v)
   | none => none
  | false => none
 | _, _ => none
def evO (c : Cx) (fr : List (Nat × Value)) : Op → Option Value
 | .move x => Ev fr x
 | .assign x => Ev fr x
 | .extract x i => match Ev fr x with
  | some (.tuple vs) => nth vs.toList i
  | _ => none
 | .fieldAddr s x i => match Ev fr x with
  | some (.pointer (some ⟨b, o, none⟩)) => match fldOf c.flds s i with
   | some off => some (.pointer (some ⟨b, o + off, none⟩))
   | none => none
  | _ => none
 | .unOp .not _ x => match Ev fr x with
  | some (.bool b) => some (.bool (!b))
  | _ => none
 | .binOp b _ x y _ => match Ev fr x with
  | some v => match Ev fr y with
   | some u => evCmp b v u
   | none => none
  | none => none
 | .pick q x y => match Ev fr q with
  | some (.bool true) => match Ev fr y with
   | some _ => Ev fr x
   | none => none
  | some (.bool false) => match Ev fr x with
   | some _ => Ev fr y
   | none => none
  | _ => none
 | .call q => match q.callee with
  | .builtin .len => match q.args.toList with
   | [x] => match q.argTypes.toList with
    | [t] => match Ev fr x with
     | some (.slice _ n _) => match memN c.slcs t with
      | true => some (.int .i64 n)
      | false => none
     | _ => none
    | _ => none
   | _ => none
  | _ => none
 | _ => none
def gOk (all : Array Oper) (fr : List (Nat × Value)) : Option (Nat × Bool) → Option Bool
 | none => some true
 | some (j, b) => match (all[j]?).bind (·.dst) with
  | some t => match look fr t with
   | some (.bool true) => some b
   | some (.bool false) => some (!b)
   | some (.tuple _) => some false
   | _ => none
  | none => none
def run1 (c : Cx) : List KF → St → List (Nat × Value) → Option (List KF × St × List (Nat × Value))
 | ks, .ops all [], fr => some (ks, .ext .normal, fr)
 | ks, .ops all (o :: rest), fr => match o.dst with
  | some d => match Nat.blt d c.n with
   | true => match gOk all fr o.guard with
    | some true => match evO c fr o.op with
     | some v => some (ks, .ops all rest, (d, v) :: fr)
     | none => none
    | some false => some (ks, .ops all rest, (d, undef) :: fr)
    | none => none
   | false => none
  | none => none
 | ks, .code x, fr => match x with
  | .skip => some (ks, .ext .normal, fr)
  | .region _ ops false => some (ks, .ops ops ops.toList, fr)
  | .seq x y => some (.seq y :: ks, .code x, fr)
  | .block id x => some (.blk id :: ks, .code x, fr)
  | .exit id => some (ks, .ext (.exit id), fr)
  | .ret => some (ks, .ext .ret, fr)
  | .cond o x y => match Ev fr o with
   | some (.bool true) => some (ks, .code x, fr)
   | some (.bool false) => some (ks, .code y, fr)
   | _ => none
  | _ => none
 | .seq y :: ks, .ext e, fr => match e with
  | .normal => some (ks, .code y, fr)
  | .exit id => some (ks, .ext (.exit id), fr)
  | .ret => some (ks, .ext .ret, fr)
  | _ => none
 | .blk id :: ks, .ext e, fr => match e with
  | .normal => some (ks, .ext .normal, fr)
  | .exit id' => match Nat.beq id' id with
   | true => some (ks, .ext .normal, fr)
   | false => some (ks, .ext (.exit id'), fr)
  | .ret => some (ks, .ext .ret, fr)
  | _ => none
 | [], .ext _, _ => none
def runN (c : Cx) : Nat → List KF → St → List (Nat × Value) → List KF × St × List (Nat × Value)
 | 0, ks, st, fr => (ks, st, fr)
 | k + 1, ks, st, fr => match run1 c ks st fr with
  | some (ks', st', fr') => runN c k ks' st' fr'
  | none => (ks, st, fr)
theorem evCmp_ok {P : Program} {b : BinOp} {t t' : TypeId} {x y : Operand} {ρ : Operand → Value} {w : World} {R : Value → World → Prop} {d : Option Tmp} {ty : TypeId} {pos : String} {af : Array Edge} {g : Option (Nat × Bool)} {v : Value}
  (h : evCmp b (ρ x) (ρ y) = some v) (hR : R v w) : OpTo P ⟨d, .binOp b t x y t', ty, pos, af, g⟩ ρ w R := by
 unfold evCmp at h
 split at h
 ·rename_i k m k' n hx hy
  split at h
  ·rename_i hk
   obtain rfl := kEq_ok hk
   split at h
   ·rename_i q hq
    cases h
    cases b <;> simp only [cmpOp, Option.some.injEq] at hq <;> first | cases hq | subst hq
    all_goals first | exact o_lss hx hy hR | exact o_leq hx hy hR | exact o_gtr hx hy hR | exact o_geq hx hy hR | exact o_eql hx hy hR | exact o_neq hx hy hR
   ·cases h
  ·cases h
 ·cases h
theorem evO_ok {c : Cx} {fr : List (Nat × Value)} {op : Op} {v : Value} {a : Act} {n : Nat} {df : List Deferred} {w : World} {R : Value → World → Prop} {d : Option Tmp} {ty : TypeId} {pos : String} {af : Array Edge} {g : Option (Nat × Bool)}
  (F : Frm a n df fr) (h : evO c fr op = some v) (hR : R v w) : OpTo c.P ⟨d, op, ty, pos, af, g⟩ a.eval w R := by
 unfold evO at h
 split at h
 ·exact o_move (F.e h) hR
 ·exact o_assign (F.e h) hR
 ·split at h
  ·rename_i vs hx
   exact o_extract (vs := vs.toList) (by simpa using F.e hx) h hR
  ·cases h
 ·split at h
  ·rename_i b o hx
   split at h
   ·rename_i off hf
    cases h
    haveI : TFld c.P _ _ off := ⟨fldOf_ok c.hf hf⟩
    exact o_fieldAddr (F.e hx) hR
   ·cases h
  ·cases h
 ·split at h
  ·rename_i b hx
   cases h
   exact o_not (F.e hx) hR
  ·cases h
 ·split at h
  ·rename_i v1 hx
   split at h
   ·rename_i v2 hy
    rw [← F.e hx, ← F.e hy] at h
    exact evCmp_ok h hR
   ·cases h
  ·cases h
 ·split at h
  ·rename_i hq
   split at h
   ·rename_i u hy
    exact o_pick (F.e hq) (F.e h) (F.e hy) (by simpa using hR)
   ·cases h
  ·rename_i hq
   split at h
   ·rename_i u hx
    exact o_pick (F.e hq) (F.e hx) (F.e h) (by simpa using hR)
   ·cases h
  ·cases h
 ·rename_i q
  obtain ⟨callee, args, tys⟩ := q
  split at h
  ·rename_i hc
   split at h
   ·rename_i x hx1
    split at h
    ·rename_i t ht1
     split at h
     ·rename_i p k q hx
      split at h
      ·rename_i hm
       cases h
       dsimp only at hc hx1 ht1
       subst hc
       obtain rfl : args = #[x] := by cases args;simp_all
       obtain rfl : tys = #[t] := by cases tys;simp_all
       have h1 := List.all_eq_true.1 c.hs _ (memN_ok hm)
       unfold isSlB at h1
       split at h1
       ·rename_i e he
        haveI : TU c.P _ (.slice e) := ⟨he⟩
        exact o_lenSl (F.e hx) hR
       ·cases h1
      ·cases h
     ·cases h
    ·cases h
   ·cases h
  ·cases h
 ·cases h
theorem evO_plain {c : Cx} {fr : List (Nat × Value)} {op : Op} {v : Value} (h : evO c fr op = some v) : plainOp op = true := by
 cases op <;> first | rfl | (simp [evO] at h)
section
variable {c : Cx} {Q : Exit → Act → World → Prop} {ks ks' : List KF} {st st' : St} {fr fr' : List (Nat × Value)} {l : Row}
theorem gOk_true {all : Array Oper} {g : Option (Nat × Bool)} (h : gOk all fr g = some true) : g = none ∨ ∃ j b t, g = some (j, b) ∧ (all[j]?).bind (·.dst) = some t ∧ look fr t = some (.bool b) := by
 unfold gOk at h
 split at h
 ·exact .inl rfl
 ·rename_i j b
  split at h
  ·rename_i t ht
   split at h
   ·rename_i hl
    cases h
    exact .inr ⟨j, true, t, rfl, ht, hl⟩
   ·rename_i hl
    have : b = false := by cases b <;> simp_all
    subst this
    exact .inr ⟨j, false, t, rfl, ht, hl⟩
   ·cases h
   ·cases h
  ·cases h
theorem gOk_false {all : Array Oper} {g : Option (Nat × Bool)} (h : gOk all fr g = some false) : ∃ j b t v, g = some (j, b) ∧ (all[j]?).bind (·.dst) = some t ∧ look fr t = some v ∧ offGuard b v = true := by
 unfold gOk at h
 split at h
 ·cases h
 ·rename_i j b
  split at h
  ·rename_i t ht
   split at h
   ·rename_i hl
    cases h
    exact ⟨j, false, t, _, rfl, ht, hl, rfl⟩
   ·rename_i hl
    have : b = true := by cases b <;> simp_all
    subst this
    exact ⟨j, true, t, _, rfl, ht, hl, rfl⟩
   ·rename_i vs hl
    exact ⟨j, b, t, _, rfl, ht, hl, rfl⟩
   ·cases h
  ·cases h
/-- one operation that writes a slot -/
theorem g_op {all : Array Oper} {d : Nat} {op : Op} {ty : TypeId} {pos : String} {af : Array Edge} {g : Option (Nat × Bool)} {rest : List Oper} (hp : plainOp op = true) (hd : Nat.blt d c.n = true) (hg : gOk all fr g = some true)
  (h : ∀ a w, Frm a c.n c.df fr → Mem c.S c.W w l.flatten → OpTo c.P ⟨some d, op, ty, pos, af, g⟩ a.eval w fun v w' => ∀ a', Frm a' c.n c.df ((d, v) :: fr) → GS c Q ks (.ops all rest) a' w') :
  G c Q ks (.ops all (⟨some d, op, ty, pos, af, g⟩ :: rest)) fr l := fun a w F M => by
 rcases gOk_true hg with rfl | ⟨j, b, t, rfl, ht, hl⟩
 ·exact stepD hp F hd (h a w F M)
 ·exact stepG hp F hd ht hl (h a w F M)
theorem run1_ok (h : run1 c ks st fr = some (ks', st', fr')) (hk : G c Q ks' st' fr' l) : G c Q ks st fr l := by
 unfold run1 at h
 split at h
 ·rename_i all
  cases h
  exact fun a w F M => (l_nil (hk a w F M) : wpListIn (FW c.r) 0 c.P all (KQ c Q ks) [] a w)
 ·rename_i all o rest
  obtain ⟨dst, op, ty, pos, af, g⟩ := o
  cases dst with
  | none => cases h
  | some d =>
   simp only at h
   split at h
   ·rename_i hd
    split at h
    ·rename_i hg
     split at h
     ·rename_i v hv
      cases h
      exact g_op (evO_plain hv) hd hg fun a w F M => evO_ok F hv fun a' F' => hk a' w F' M
     ·cases h
    ·rename_i hg
     cases h
     obtain ⟨j, b, t, v, rfl, ht, hl, ho⟩ := gOk_false hg
     exact fun a w F M => stepOff F hd ht hl ho fun a' F' => hk a' w F' M
    ·cases h
   ·cases h
 ·split at h
  ·cases h
   exact fun a w F M => c_skip (hk a w F M)
  ·rename_i id ops
   cases h
   intro a w F M
   have := c_region (id := id) (hk a w F M)
   simpa [GS] using this
  ·cases h
   exact fun a w F M => c_seq (hk a w F M)
  ·cases h
   exact fun a w F M => c_block (hk a w F M)
  ·cases h
   exact fun a w F M => c_exit (hk a w F M)
  ·cases h
   exact fun a w F M => c_ret (hk a w F M)
  ·split at h
   ·rename_i ho
    cases h
    exact fun a w F M => c_true F ho rfl (hk a w F M)
   ·rename_i ho
    cases h
    exact fun a w F M => c_false F ho rfl (hk a w F M)
   ·cases h
  ·cases h
 ·split at h
  ·cases h
   exact fun a w F M => hk a w F M
  ·cases h
   exact fun a w F M => hk a w F M
  ·cases h
   exact fun a w F M => hk a w F M
  ·cases h
 ·split at h
  ·cases h
   exact fun a w F M => hk a w F M
  ·split at h
   ·rename_i hb
    cases h
    obtain rfl := Nat.eq_of_beq_eq_true hb
    exact fun a w F M => q_inBX (hk a w F M)
   ·rename_i hb
    cases h
    exact fun a w F M => q_inBY hb (hk a w F M)
  ·cases h
   exact fun a w F M => hk a w F M
  ·cases h
 ·cases h
theorem runN_ok : ∀ (k : Nat) {ks ks' : List KF} {st st' : St} {fr fr' : List (Nat × Value)}, runN c k ks st fr = (ks', st', fr') → G c Q ks' st' fr' l → G c Q ks st fr l
 | 0, _, _, _, _, _, _, h, hk => by
  cases h
  exact hk
 | k + 1, ks, ks', st, st', fr, fr', h, hk => by
  unfold runN at h
  split at h
  ·rename_i h1
   exact run1_ok h1 (runN_ok k h hk)
  ·cases h
   exact hk
/-- runs k steps in which nothing is to be chosen -/
theorem gR (k : Nat) (h : runN c k ks st fr = (ks', st', fr')) (hk : G c Q ks' st' fr' l) : G c Q ks st fr l := runN_ok k h hk
end
end Go.Proofs.YtilgoepokaaleaaGreat
/-! Lib3 -/
namespace Go.Proofs.YtilgoepokaaleaaGreat
set_option linter.unusedVariables false
set_option linter.unusedSimpArgs false
open Go.RowKit
theorem bneF {x y : Int} (h : x = y) : (x != y) = false := by simp [h]
theorem notT {b : Bool} (h : b = false) : (!b) = true := by simp [h]
theorem notF {b : Bool} (h : b = true) : (!b) = false := by simp [h]
def nthO {α : Type} : List α → Nat → Option α
 | [], _ => none
 | x :: _, 0 => some x
 | _ :: r, i + 1 => nthO r i
theorem nthO_sub : ∀ {l : Row} {i : Nat} {e : List (Nat × Obj)}, nthO l i = some e → ∀ x ∈ e, x ∈ l.flatten
 | [], _, _, h => by simp [nthO] at h
 | y :: _, 0, x, h => by
  simp only [nthO, Option.some.injEq] at h
  intro z hz
  simp [h, hz]
 | _ :: r, i + 1, x, h => fun z hz => List.mem_append_right _ (nthO_sub (l := r) h z hz)
theorem nthO_mem {l : Row} {i : Nat} {x : Nat × Obj} (h : nthO l i = some [x]) : x ∈ l.flatten := nthO_sub h x (by simp)
def setO : Row → Nat → List (Nat × Obj) → Option Row
 | [], _, _ => none
 | _ :: r, 0, o => some (o :: r)
 | p :: r, i + 1, o => match setO r i o with
  | some q => some (p :: q)
  | none => none
theorem subO {l l' : Row} (h : l.Sublist l') : l.flatten.Sublist l'.flatten := by
 induction h with
 | slnil => exact .refl _
 | cons x h ih => exact ih.trans (List.sublist_append_right _ _)
 | cons_cons x h ih => exact List.Sublist.append (.refl _) ih
theorem setO_upd : ∀ {l l' : Row} {i b : Nat} {o o' : Obj}, nthO l i = some [(b, o)] → setO l i [(b, o')] = some l' → Upd l.flatten b o o' l'.flatten
 | [], _, _, _, _, _, h, _ => by simp [nthO] at h
 | p :: r, l', 0, b, o, o', h, k => by
  simp only [nthO, Option.some.injEq] at h
  simp only [setO, Option.some.injEq] at k
  subst h
  subst k
  exact .here
 | p :: r, l', i + 1, b, o, o', h, k => by
  simp only [nthO] at h
  simp only [setO] at k
  split at k
  ·rename_i q hq
   cases k
   exact (setO_upd h hq).append _
  ·cases k
/-- a list of blocks may be put ahead -/
theorem nthO_perm : ∀ {l l' : Row} {i : Nat} {e e' : List (Nat × Obj)}, nthO l i = some e → setO l i e' = some l' → ∃ r, l.flatten.Perm (e ++ r) ∧ l'.flatten.Perm (e' ++ r)
 | [], _, _, _, _, h, _ => by simp [nthO] at h
 | p :: r, l', 0, e, e', h, k => by
  simp only [nthO, Option.some.injEq] at h
  simp only [setO, Option.some.injEq] at k
  subst h
  subst k
  exact ⟨r.flatten, .refl _, .refl _⟩
 | p :: r, l', i + 1, e, e', h, k => by
  simp only [nthO] at h
  simp only [setO] at k
  split at k
  ·rename_i q hq
   cases k
   obtain ⟨s, h1, h2⟩ := nthO_perm h hq
   refine ⟨p ++ s, ?_, ?_⟩
   ·refine (List.Perm.append_left p h1).trans ?_
    rw [← List.append_assoc, ← List.append_assoc]
    exact List.Perm.append_right _ List.perm_append_comm
   ·refine (List.Perm.append_left p h2).trans ?_
    rw [← List.append_assoc, ← List.append_assoc]
    exact List.Perm.append_right _ List.perm_append_comm
  ·cases k
theorem OwnS.nilL {α : Type} (enc : α → List Value) (e : TypeId) (sz : Nat) : OwnS e sz (.slice none 0 0) ([] : List α).length (encL enc []) [] := OwnS.nil _ _
section
variable {c : Cx} {Q : Exit → Act → World → Prop} {ks : List KF} {fr : List (Nat × Value)} {l l' : Row} {all : Array Oper} {rest : List Oper} {d : Nat} {ty : TypeId} {pos : String} {af : Array Edge} {g : Option (Nat × Bool)}
/-- an operation whose value is told and that leaves the world as it is -/
theorem g_v {op : Op} {v : Value} (h : ∀ a w, Frm a c.n c.df fr → Mem c.S c.W w l.flatten → ∀ R : Value → World → Prop, R v w → OpTo c.P ⟨some d, op, ty, pos, af, g⟩ a.eval w R)
  (k : G c Q ks (.ops all rest) ((d, v) :: fr) l) (hp : plainOp op = true := by rfl) (hd : Nat.blt d c.n = true := by rfl) (hg : gOk all fr g = some true := by rfl) : G c Q ks (.ops all (⟨some d, op, ty, pos, af, g⟩ :: rest)) fr l :=
 g_op hp hd hg fun a w F M => h a w F M _ fun a' F' => k a' w F' M
section arith
variable {t t' : TypeId} {x y : Operand} {k : IntKind} {m n s : Int}
theorem g_add (hx : Ev fr x = some (.int k m)) (hy : Ev fr y = some (.int k n)) (hs : k.wrap (m + n) = s) (hk : G c Q ks (.ops all rest) ((d, .int k s) :: fr) l) (hd : Nat.blt d c.n = true := by rfl) (hg : gOk all fr g = some true := by rfl) :
  G c Q ks (.ops all (⟨some d, .binOp .add t x y t', ty, pos, af, g⟩ :: rest)) fr l := g_v (fun a w F M R r => o_add (F.e hx) (F.e hy) hs r) hk rfl hd hg
theorem g_sub (hx : Ev fr x = some (.int k m)) (hy : Ev fr y = some (.int k n)) (hs : k.wrap (m - n) = s) (hk : G c Q ks (.ops all rest) ((d, .int k s) :: fr) l) (hd : Nat.blt d c.n = true := by rfl) (hg : gOk all fr g = some true := by rfl) :
  G c Q ks (.ops all (⟨some d, .binOp .sub t x y t', ty, pos, af, g⟩ :: rest)) fr l := g_v (fun a w F M R r => o_sub (F.e hx) (F.e hy) hs r) hk rfl hd hg
theorem g_conv {t1 t2 : TypeId} {ds : TypeDesc} {k' : IntKind} (hx : Ev fr x = some (.int k m)) [hs : TU c.P t1 ds] [ht : TU c.P t2 (.int k')] (hm : k'.wrap m = n) (hk : G c Q ks (.ops all rest) ((d, .int k' n) :: fr) l) (hd : Nat.blt d c.n = true := by rfl) (hg : gOk all fr g = some true := by rfl) :
  G c Q ks (.ops all (⟨some d, .convert t1 t2 x, ty, pos, af, g⟩ :: rest)) fr l := g_v (fun a w F M R r => o_conv (F.e hx) hm r) hk rfl hd hg
end arith
theorem g_ld1 (i : Nat) {t : TypeId} {x : Operand} {b off : Nat} {cs : List Value} {t' : TypeId} {fz : Nat × Nat} {v : Value} [ht : TOne c.P t] (hx : Ev fr x = some (.pointer (some ⟨b, off, none⟩))) (hl : nthO l i = some [(b, .cells cs.toArray t' fz)]) (hv : nth cs off = some v)
  (hk : G c Q ks (.ops all rest) ((d, v) :: fr) l) (hd : Nat.blt d c.n = true := by rfl) (hg : gOk all fr g = some true := by rfl) : G c Q ks (.ops all (⟨some d, .load t x, ty, pos, af, g⟩ :: rest)) fr l :=
 g_v (fun a w F M R r => o_loadH1 (F.e hx) (M.at_ _ (nthO_mem hl)) hv r) hk rfl hd hg
theorem g_ldA (i : Nat) {t : TypeId} {x : Operand} {b off n : Nat} {cs : List Value} {t' : TypeId} {fz : Nat × Nat} {vs : List Value} [ht : TAgg c.P t n] (hx : Ev fr x = some (.pointer (some ⟨b, off, none⟩))) (hl : nthO l i = some [(b, .cells cs.toArray t' fz)]) (hv : seg cs off n = some vs)
  (hk : G c Q ks (.ops all rest) ((d, .agg vs.toArray) :: fr) l) (hd : Nat.blt d c.n = true := by rfl) (hg : gOk all fr g = some true := by rfl) : G c Q ks (.ops all (⟨some d, .load t x, ty, pos, af, g⟩ :: rest)) fr l :=
 g_v (fun a w F M R r => o_loadHA (F.e hx) (M.at_ _ (nthO_mem hl)) hv r) hk rfl hd hg
/-- out of what came in -/
theorem g_le1 {t : TypeId} {x : Operand} {b off : Nat} {cs : List Value} {t' : TypeId} {fz : Nat × Nat} {v : Value} [ht : TOne c.P t] (hx : Ev fr x = some (.pointer (some ⟨b, off, none⟩))) (hb : ∀ w', Ext c.S c.W w' → w'.heap[b]? = some (.cells cs.toArray t' fz)) (hv : nth cs off = some v)
  (hk : G c Q ks (.ops all rest) ((d, v) :: fr) l) (hd : Nat.blt d c.n = true := by rfl) (hg : gOk all fr g = some true := by rfl) : G c Q ks (.ops all (⟨some d, .load t x, ty, pos, af, g⟩ :: rest)) fr l :=
 g_v (fun a w F M R r => o_loadH1 (F.e hx) (hb w M.ext) hv r) hk rfl hd hg
theorem g_leA {t : TypeId} {x : Operand} {b off n : Nat} {cs : List Value} {t' : TypeId} {fz : Nat × Nat} {vs : List Value} [ht : TAgg c.P t n] (hx : Ev fr x = some (.pointer (some ⟨b, off, none⟩))) (hb : ∀ w', Ext c.S c.W w' → w'.heap[b]? = some (.cells cs.toArray t' fz)) (hv : seg cs off n = some vs)
  (hk : G c Q ks (.ops all rest) ((d, .agg vs.toArray) :: fr) l) (hd : Nat.blt d c.n = true := by rfl) (hg : gOk all fr g = some true := by rfl) : G c Q ks (.ops all (⟨some d, .load t x, ty, pos, af, g⟩ :: rest)) fr l :=
 g_v (fun a w F M R r => o_loadHA (F.e hx) (hb w M.ext) hv r) hk rfl hd hg
theorem g_ixS {t e : TypeId} {x i : Operand} {k : IntKind} {b o len cap sz : Nat} {j : Int} (hx : Ev fr x = some (.slice (some ⟨b, o, none⟩) len cap)) (hi : Ev fr i = some (.int k j)) [ht : TU c.P t (.slice e)] [hs : TSz c.P e sz] (h0 : 0 ≤ j) (h1 : j < len)
  (hk : G c Q ks (.ops all rest) ((d, .pointer (some ⟨b, o + j.toNat * sz, none⟩)) :: fr) l) (hd : Nat.blt d c.n = true := by rfl) (hg : gOk all fr g = some true := by rfl) : G c Q ks (.ops all (⟨some d, .indexAddr t x i, ty, pos, af, g⟩ :: rest)) fr l :=
 g_v (fun a w F M R r => o_indexSl (F.e hx) (F.e hi) h0 h1 r) hk rfl hd hg
theorem g_len {x : Operand} {t e e' : TypeId} {v : Value} {sz n : Nat} {xs : List Value} {ent : List (Nat × Obj)} (hx : Ev fr x = some v) (hO : OwnS e' sz v n xs ent) [ht : TU c.P t (.slice e)]
  (hk : G c Q ks (.ops all rest) ((d, .int .i64 n) :: fr) l) (hd : Nat.blt d c.n = true := by rfl) (hg : gOk all fr g = some true := by rfl) : G c Q ks (.ops all (⟨some d, .call ⟨.builtin .len, #[x], #[t]⟩, ty, pos, af, g⟩ :: rest)) fr l :=
 g_v (fun a w F M R r => o_lenOwn (F.e hx) hO r) hk rfl hd hg
/-- a new block -/
theorem g_alloc {t : TypeId} {cs : List Value} [hz : TZero c.P t cs] (hk : ∀ b, G c Q ks (.ops all rest) ((d, .pointer (some ⟨b, 0, none⟩)) :: fr) ([(b, .cells cs.toArray t (0, 0))] :: l)) (hd : Nat.blt d c.n = true := by rfl) (hg : gOk all fr g = some true := by rfl) :
  G c Q ks (.ops all (⟨some d, .alloc t, ty, pos, af, g⟩ :: rest)) fr l :=
 g_op rfl hd hg fun a w F M => o_alloc M fun b w' M' a' F' => hk b a' w' F' M'
theorem g_box {t : TypeId} {x : Operand} {v : Value} {cs : List Value} (hx : Ev fr x = some v) (hv : v.cells = cs.toArray) (hk : ∀ b, G c Q ks (.ops all rest) ((d, .pointer (some ⟨b, 0, none⟩)) :: fr) ([(b, .cells cs.toArray t (0, 0))] :: l)) (hd : Nat.blt d c.n = true := by rfl) (hg : gOk all fr g = some true := by rfl) :
  G c Q ks (.ops all (⟨some d, .box t x, ty, pos, af, g⟩ :: rest)) fr l :=
 g_op rfl hd hg fun a w F M => o_box M (F.e hx) hv fun b w' M' a' F' => hk b a' w' F' M'
/-- stores -/
theorem g_st1 (i : Nat) {t : TypeId} {x y : Operand} {b off : Nat} {cs cs' : List Value} {t' : TypeId} {v : Value} [hs : TSz c.P t 1] (hx : Ev fr x = some (.pointer (some ⟨b, off, none⟩))) (hy : Ev fr y = some v) (h1 : v.oneCell' = true) (hl : nthO l i = some [(b, .cells cs.toArray t' (0, 0))]) (hp : put cs off [v] = some cs') (hl' : setO l i [(b, .cells cs'.toArray t' (0, 0))] = some l')
  (hk : G c Q ks (.ops all rest) fr l') : G c Q ks (.ops all (⟨none, .store t x y, ty, pos, af, none⟩ :: rest)) fr l := fun a w F M =>
 stepN rfl F (o_store1 M (F.e hx) (F.e hy) h1 (setO_upd hl hl').has hp (setO_upd hl hl') fun w' M' a' F' => hk a' w' F' M')
theorem g_stA (i : Nat) {t : TypeId} {x y : Operand} {b off n : Nat} {cs cs' vs : List Value} {t' : TypeId} [hs : TAgg c.P t n] (hx : Ev fr x = some (.pointer (some ⟨b, off, none⟩))) (hy : Ev fr y = some (.agg vs.toArray)) (hn : vs.length = n) (h1 : vs.all (·.oneCell') = true) (hl : nthO l i = some [(b, .cells cs.toArray t' (0, 0))]) (hp : put cs off vs = some cs') (hl' : setO l i [(b, .cells cs'.toArray t' (0, 0))] = some l')
  (hk : G c Q ks (.ops all rest) fr l') : G c Q ks (.ops all (⟨none, .store t x y, ty, pos, af, none⟩ :: rest)) fr l := fun a w F M =>
 stepN rfl F (o_storeA M (F.e hx) (F.e hy) hn h1 (setO_upd hl hl').has hp (setO_upd hl hl') fun w' M' a' F' => hk a' w' F' M')
/-- calls: the answer told, nothing turned -/
theorem g_call {x : Operand} {f : FuncId} {xs : List Operand} {ts : Array TypeId} {vs : List Value} {v : Value} [hb : TBody c.P f] (hx : Ev fr x = some (.func (.func f) #[] #[])) (ha : evL fr xs = some vs) (hc : ∀ w, Mem c.S c.W w l.flatten → Cal c.P f vs.toArray w fun u w' => u = v ∧ Ext [] w w')
  (hk : G c Q ks (.ops all rest) ((d, v) :: fr) l) (hd : Nat.blt d c.n = true := by rfl) (hg : gOk all fr g = some true := by rfl) : G c Q ks (.ops all (⟨some d, .call ⟨.value x, xs.toArray, ts⟩, ty, pos, af, g⟩ :: rest)) fr l :=
 g_op rfl hd hg fun a w F M => o_call (F.e hx) (F.evs ha) (Cal.mono (hc w M) fun u w' h a' F' => hk a' w' (h.1 ▸ F') (M.later h.2))
/-- a branch;a guard that is split -/
theorem g_if {o : Operand} {x y : Code} {t : Bool} (hx : Ev fr o = some (.bool t)) (ht : t = true → G c Q ks (.code x) fr l) (hf : t = false → G c Q ks (.code y) fr l) : G c Q ks (.code (.cond o x y)) fr l := fun a w F M =>
 c_if F hx (fun h => ht h a w F M) (fun h => hf h a w F M)
theorem g_split (s : Nat) {st : St} {b : Bool} (h : look fr s = some (.bool b)) (ht : b = true → G c Q ks st ((s, .bool true) :: fr) l) (hf : b = false → G c Q ks st ((s, .bool false) :: fr) l) : G c Q ks st fr l := fun a w F M => by
 cases b
 ·exact hf rfl a w (F.know (F.at_ s _ h)) M
 ·exact ht rfl a w (F.know (F.at_ s _ h)) M
theorem g_ret {fn : Func} {R : Value → World → Prop} {rvs : List ResultVar} {vs : List Value} {c : Cx} (hdf : c.df = []) (hr : fn.results = rvs.toArray) (hv : ∀ a w, Frm a c.n c.df fr → Mem c.S c.W w l.flatten → ResVs c.P a w rvs vs) (h : ∀ w, Mem c.S c.W w l.flatten → R (oneOr vs) w) : G c (Post c.P fn R) [] (.ext .ret) fr l := fun a w F M => by
 have F' := F
 rw [hdf] at F'
 exact p_ret F' hr (hv a w F M) (h w M)
theorem g_ret1 {fn : Func} {R : Value → World → Prop} {t : Nat} {v : Value} {c : Cx} (hdf : c.df = []) (hr : fn.results = [ResultVar.tmp t].toArray) (hv : look fr t = some v) (h : ∀ w, Mem c.S c.W w l.flatten → R v w) : G c (Post c.P fn R) [] (.ext .ret) fr l :=
 g_ret hdf hr (fun a w F M => .cons (.tmp (F.e hv)) .nil) h
theorem g_retC2 (i : Nat) {fn : Func} {R : Value → World → Prop} {q b off n s : Nat} {u : Value} {ty : TypeId} {cs vs : List Value} {t' : TypeId} {fz : Nat × Nat} {c : Cx} [ht : TAgg c.P ty n] (hdf : c.df = []) (hr : fn.results = [ResultVar.cell q ty, ResultVar.tmp s].toArray) (hq : look fr q = some (.pointer (some ⟨b, off, none⟩))) (hl : nthO l i = some [(b, .cells cs.toArray t' fz)]) (hv : seg cs off n = some vs) (hu : look fr s = some u)
  (h : ∀ w, Mem c.S c.W w l.flatten → R (.tuple [.agg vs.toArray, u].toArray) w) : G c (Post c.P fn R) [] (.ext .ret) fr l :=
 g_ret hdf hr (fun a w F M => .cons (.cell (F.e hq) (run_loadVar_agg ht.h (M.at_ _ (nthO_mem hl)) (by simpa using hv))) (.cons (.tmp (F.e hu)) .nil)) h
theorem g_start {P : Program} {f : FuncId} {fn : Func} {x : Code} {vs : List Value} {W : World} {R : Value → World → Prop} {n : Nat} {S : List Nat} {flds : List (Nat × Nat × Nat)} {slcs : List Nat} (hf : (flds.all fun q => fieldAtB P q.1 q.2.1 q.2.2) = true) (hs : (slcs.all fun t => isSlB P t) = true)
  (hfn : P.funcs[f]? = some fn) (hb : fn.body = some x) (hn : fn.ntmps = n) (hle : Nat.ble vs.length n = true)
  (h : G ⟨P, none, n, [], S, W, flds, slcs, hf, hs⟩ (Post P fn R) [] (.code x) (number 0 vs) []) : Cal P f vs.toArray W R :=
 fn_ofM S hfn hb hn hle fun a w F M _ => h a w F M
theorem g_ifT {o : Operand} {x y : Code} {t : Bool} (hx : Ev fr o = some (.bool t)) (ht : t = true) (hk : G c Q ks (.code x) fr l) : G c Q ks (.code (.cond o x y)) fr l := fun a w F M => c_true F hx ht (hk a w F M)
theorem g_ifF {o : Operand} {x y : Code} {t : Bool} (hx : Ev fr o = some (.bool t)) (ht : t = false) (hk : G c Q ks (.code y) fr l) : G c Q ks (.code (.cond o x y)) fr l := fun a w F M => c_false F hx ht (hk a w F M)
theorem g_know (s : Nat) {st : St} {b b' : Bool} (h : look fr s = some (.bool b)) (hb : b = b') (hk : G c Q ks st ((s, .bool b') :: fr) l) : G c Q ks st fr l := fun a w F M => by
 subst hb
 exact hk a w (F.know (F.at_ s _ h)) M
/-- a loop: the state is told by i, whose measure falls -/
structure LI (ι : Type) where
 μ : ι → Nat
 p : ι → Prop
 fi : ι → List (Nat × Value)
 li : ι → Row
def LQ {ι : Type} (J : LI ι) (c : Cx) (Q : Exit → Act → World → Prop) (ks : List KF) (i : ι) : Exit → Act → World → Prop
 | .normal, a, w => ∃ j, J.μ j < J.μ i ∧ J.p j ∧ Frm a c.n c.df (J.fi j) ∧ Mem c.S c.W w (J.li j).flatten
 | e, a, w => KQ c Q ks e a w
theorem g_loop {ι : Type} (J : LI ι) (i0 : ι) {x : Code} (h0 : J.p i0) (hfr : ∀ a, Frm a c.n c.df fr → Frm a c.n c.df (J.fi i0)) (hl : (J.li i0).Sublist l)
  (h : ∀ i, J.p i → G c (LQ J c Q ks i) [] (.code x) (J.fi i) (J.li i)) : G c Q ks (.code (.loop x)) fr l := fun a w F M => by
 refine c_loop (fun m a w => ∃ i, m = J.μ i ∧ J.p i ∧ Frm a c.n c.df (J.fi i) ∧ Mem c.S c.W w (J.li i).flatten) (J.μ i0) ⟨i0, rfl, h0, hfr a F, M.sub (subO hl)⟩ ?_
 rintro m a w ⟨i, rfl, hp, F, M⟩
 refine wpIn_mono (h i hp a w F M) fun e a w hq => ?_
 cases e with
 | normal =>
  obtain ⟨j, h1, h2, h3, h4⟩ := hq
  exact ⟨_, h1, j, rfl, h2, h3, h4⟩
 | exit _ => exact hq
 | goto _ => exact hq
 | ret => exact hq
 | panic _ => exact hq
 | outgrown => exact hq
theorem g_next {ι : Type} {J : LI ι} {i : ι} (j : ι) (h2 : J.p j) (h1 : J.μ j < J.μ i) (hfr : ∀ a, Frm a c.n c.df fr → Frm a c.n c.df (J.fi j)) (hl : (J.li j).Sublist l) : G c (LQ J c Q ks i) [] (.ext .normal) fr l := fun a w F M => ⟨j, h1, h2, hfr a F, M.sub (subO hl)⟩
theorem g_outX {ι : Type} {J : LI ι} {i : ι} {id : Nat} (h : G c Q ks (.ext (.exit id)) fr l) : G c (LQ J c Q ks i) [] (.ext (.exit id)) fr l := h
theorem g_outR {ι : Type} {J : LI ι} {i : ι} (h : G c Q ks (.ext .ret) fr l) : G c (LQ J c Q ks i) [] (.ext .ret) fr l := h
/-- a slice written out: new memory -/
theorem g_bs {t e : TypeId} {len sz : Nat} {xs : List (Nat × Operand)} {parts : List (Nat × List Value)} {zs cs : List Value} [ht : TU c.P t (.slice e)] [hs : TSz c.P e sz] [hz : TZero c.P e zs] (hv : evP fr xs = some parts)
  (hle : Nat.ble (len * sz) 16777216 = true) (hzl : Nat.beq zs.length sz = true) (hp : putAll (placesL len sz) (zerosL zs (len * sz)) parts = some cs)
  (hk : ∀ b, G c Q ks (.ops all rest) ((d, .slice (some ⟨b, 0, none⟩) len len) :: fr) ([(b, .cells cs.toArray e (0, 0))] :: l)) (hd : Nat.blt d c.n = true := by rfl) (hg : gOk all fr g = some true := by rfl) : G c Q ks (.ops all (⟨some d, .buildSlice t len xs.toArray, ty, pos, af, g⟩ :: rest)) fr l :=
 g_op rfl hd hg fun a w F M => o_buildSlice F M hv hle hzl hp fun b w' M' a' F' => hk b a' w' F' M'
/-- one element more: i is the place of the slice's blocks, j that of the new element -/
theorem g_app (i j : Nat) {α : Type} {enc : α → List Value} {out : List α} {x0 : α} {st xt e : TypeId} {x y : Operand} {sz by_ bx kx : Nat} {v : Value} {ent : List (Nat × Obj)} {f : List (Nat × Obj) → Row} {t' : TypeId} {fz : Nat × Nat} [hst : TU c.P st (.slice e)] [hel : TEl c.P e sz by_] [hxt : TNI c.P xt]
  (hx : Ev fr x = some v) (hy : Ev fr y = some (.slice (some ⟨bx, 0, none⟩) 1 kx)) (hO : OwnS e sz v out.length (encL enc out) ent) (hi : nthO l i = some ent) (hj : nthO l j = some [(bx, .cells (enc x0).toArray t' fz)]) (hz : (enc x0).length = sz) (hbd : (out.length + 1) * by_ ≤ 140737488355328)
  (hf : ∀ e', setO l i e' = some (f e')) (hk : ∀ v' ent', OwnS e sz v' (out ++ [x0]).length (encL enc (out ++ [x0])) ent' → G c Q ks (.ops all rest) ((d, v') :: fr) (f ent')) (h1 : (enc x0).all (·.oneCell') = true) (hd : Nat.blt d c.n = true := by rfl) (hg : gOk all fr g = some true := by rfl) (hln : out.length + 1 ≤ 9223372036854775807 := by first | omega | (simp only [List.length_nil];omega)) :
  G c Q ks (.ops all (⟨some d, .call ⟨.builtin .append, #[x, y], #[st, xt]⟩, ty, pos, af, g⟩ :: rest)) fr l := by
 refine g_op rfl hd hg fun a w F M => ?_
 obtain ⟨r, p1, _⟩ := nthO_perm hi (hf ent)
 have hp : ∀ e', (f e').flatten.Perm (e' ++ r) := fun e' => by
  obtain ⟨r', q1, q2⟩ := nthO_perm hi (hf e')
  exact q2.trans (List.Perm.append_left _ ((List.perm_append_left_iff ent).1 (q1.symm.trans p1)))
 have hX : SrcOf c.P w (.slice (some ⟨bx, 0, none⟩) 1 kx) 1 sz (enc x0) := SrcOf.cells' (M.at_ _ (nthO_mem hj)) (by rw [Nat.one_mul, ← hz];simpa using seg_of [] (enc x0) []) h1
 refine o_append1 (f := fun e' => r ++ e') hO (M.perm (p1.trans List.perm_append_comm)) ?_ (F.e hx) (F.e hy) hX hbd (fun v' ent' w' hO' M' => ?_) hln
 ·exact .app .here
 ·exact fun a' F' => hk v' ent' hO' a' w' F' (M'.perm (List.perm_append_comm.trans (hp ent').symm))
/-- a slice that owns nothing -/
theorem g_pad {st : St} (hk : G c Q ks st fr ([] :: l)) : G c Q ks st fr l := hk
end
end Go.Proofs.YtilgoepokaaleaaGreat
/-! Tab -/
namespace Go.Proofs.YtilgoepokaaleaaGreat
open Go.RowKit
def fldT : List (Nat × Nat × Nat) := [(7, 0, 0), (7, 1, 1), (7, 2, 2), (7, 3, 3), (8, 0, 0), (8, 1, 1), (8, 2, 2), (8, 3, 3), (13, 0, 0), (13, 1, 1), (14, 0, 0), (14, 1, 1), (18, 0, 0), (19, 0, 0), (40, 0, 0), (40, 1, 16), (41, 0, 0), (41, 1, 16), (44, 0, 0), (44, 1, 17), (44, 2, 34), (45, 0, 0), (45, 1, 17), (45, 2, 34), (47, 0, 0), (47, 1, 1), (48, 0, 0), (48, 1, 1), (49, 0, 0), (49, 1, 35), (49, 2, 36), (49, 3, 38), (49, 4, 39), (50, 0, 0), (50, 1, 35), (50, 2, 36), (50, 3, 38), (50, 4, 39), (52, 0, 0), (52, 1, 35), (52, 2, 36), (52, 3, 38), (53, 0, 0), (53, 1, 35), (53, 2, 36), (53, 3, 38), (54, 0, 0), (54, 1, 1), (55, 0, 0), (55, 1, 1), (94, 0, 0), (94, 1, 1), (95, 0, 0), (95, 1, 1), (132, 0, 0), (132, 1, 35), (132, 2, 37), (133, 0, 0), (133, 1, 35), (133, 2, 37), (140, 0, 0), (140, 1, 1), (140, 2, 2), (141, 0, 0), (141, 1, 1), (141, 2, 2), (187, 0, 0), (187, 1, 1), (187, 2, 2), (187, 3, 3), (188, 0, 0), (188, 1, 1), (188, 2, 2), (188, 3, 3), (199, 0, 0), (199, 1, 1), (199, 2, 2), (199, 3, 3), (199, 4, 4), (199, 5, 5), (199, 6, 6), (199, 7, 7), (199, 8, 8), (199, 9, 9), (199, 10, 10), (200, 0, 0), (200, 1, 1), (200, 2, 2), (200, 3, 3), (200, 4, 4), (200, 5, 5), (200, 6, 6), (200, 7, 7), (200, 8, 8), (200, 9, 9), (200, 10, 10)]
def slcT : List Nat := [22, 26, 28, 30, 33, 73, 74, 75, 76, 77, 78, 101, 158]
theorem fldT_ok : (fldT.all fun q => fieldAtB Tryz.prog q.1 q.2.1 q.2.2) = true := by kernel_rfl
theorem slcT_ok : (slcT.all fun t => isSlB Tryz.prog t) = true := by kernel_rfl
end Go.Proofs.YtilgoepokaaleaaGreat
/-! Lib4 -/
namespace Go.Proofs.YtilgoepokaaleaaGreat
set_option linter.unusedVariables false
set_option linter.unusedSimpArgs false
open Go.RowKit
def FD (c : Cx) (Q : Exit → Act → World → Prop) (ks : List KF) (ol : List Oper) (n k : Nat) (rest : List Oper) (fr : List (Nat × Value)) (l : Row) : Prop :=
 ∀ a w Vs, Mem c.S c.W w l.flatten → regOk ol.toArray n = true → MW ⟨keepAll, [], [], c.P, c.r, ol.toArray, n, c.n, c.df, a, w, KQ c Q ks, [], []⟩ k rest fr Vs noT
section
variable {c : Cx} {Q : Exit → Act → World → Prop} {ks : List KF} {fr fr' : List (Nat × Value)} {l : Row} {ol rest rest' : List Oper} {n k k' : Nat} {d : Nat} {op : Op} {ty : TypeId} {pos : String} {af : Array Edge} {g : Option (Nat × Bool)}
theorem g_draw {id : Nat} (n nt : Nat) [hm : TMix c.P] (hnt : c.n = nt) (hchk : (regOk ol.toArray n && tailOk ol.toArray n && Nat.ble n ol.length && dstOk ol.toArray n nt && effOk ol.toArray n []) = true) (h : FD c Q ks ol n 0 ol fr l) : G c Q ks (.code (.region id ol.toArray true)) fr l := fun a w F M =>
 c_draw n F (by rw [hnt];exact hchk) fun w1 hE hok => h a w1 [] (M.later hE) hok
theorem fd_c {v : Value} (h : ∀ a w, Frm a c.n c.df fr → Mem c.S c.W w l.flatten → OpTo c.P ⟨some d, op, ty, pos, af, g⟩ a.eval w fun x w' => Ext [] w w' ∧ x = v)
  (hk : FD c Q ks ol n (k + 1) rest ((d, v) :: fr) l) (hlt : flo [] [] [] n k op = true := by rfl) (hd : Nat.blt d c.n = true := by rfl) (hg : gOk ol.toArray fr g = some true := by rfl) : FD c Q ks ol n k (⟨some d, op, ty, pos, af, g⟩ :: rest) fr l := fun a w Vs M hok => by
 rcases gOk_true hg with rfl | ⟨j, b, t, rfl, ht, hl⟩
 ·exact mK hok hlt hd (fun a' w' F he => h a' w' F (M.later he)) (hk a w _ M hok)
 ·exact mKG hok hlt hd ht hl (fun a' w' F he => h a' w' F (M.later he)) (hk a w _ M hok)
theorem fd_v {v : Value} (h : ∀ a w, Frm a c.n c.df fr → Mem c.S c.W w l.flatten → ∀ R : Value → World → Prop, R v w → OpTo c.P ⟨some d, op, ty, pos, af, g⟩ a.eval w R)
  (hk : FD c Q ks ol n (k + 1) rest ((d, v) :: fr) l) (hlt : flo [] [] [] n k op = true := by rfl) (hd : Nat.blt d c.n = true := by rfl) (hg : gOk ol.toArray fr g = some true := by rfl) : FD c Q ks ol n k (⟨some d, op, ty, pos, af, g⟩ :: rest) fr l :=
 fd_c (fun a w F M => h a w F M _ ⟨Ext.refl _ _, rfl⟩) hk hlt hd hg
theorem fd_call {x : Operand} {f : FuncId} {xs : List Operand} {ts : Array TypeId} {vs : List Value} {v : Value} [hb : TBody c.P f] (hx : Ev fr x = some (.func (.func f) #[] #[])) (ha : evL fr xs = some vs) (hc : ∀ w, Mem c.S c.W w l.flatten → Cal c.P f vs.toArray w fun u w' => u = v ∧ Ext [] w w')
  (hk : FD c Q ks ol n (k + 1) rest ((d, v) :: fr) l) (hlt : flo [] [] [] n k (.call ⟨.value x, xs.toArray, ts⟩) = true := by rfl) (hd : Nat.blt d c.n = true := by rfl) (hg : gOk ol.toArray fr g = some true := by rfl) : FD c Q ks ol n k (⟨some d, .call ⟨.value x, xs.toArray, ts⟩, ty, pos, af, g⟩ :: rest) fr l :=
 fd_c (fun a w F M => o_call (F.e hx) (F.evs ha) (Cal.mono (hc w M) fun u w' h => ⟨h.2, h.1⟩)) hk hlt hd hg
theorem fd_off (hk : FD c Q ks ol n (k + 1) rest ((d, undef) :: fr) l) (hlt : flo [] [] [] n k op = true := by rfl) (hd : Nat.blt d c.n = true := by rfl) (hg : gOk ol.toArray fr g = some false := by rfl) : FD c Q ks ol n k (⟨some d, op, ty, pos, af, g⟩ :: rest) fr l := fun a w Vs M hok => by
 obtain ⟨j, b, t, v, rfl, ht, hl, ho⟩ := gOk_false hg
 exact mOff hok hlt hd ht hl ho (hk a w _ M hok)
theorem fd_done (hn : Nat.beq k n = true) (hef : effOk ol.toArray n [] = true) (hk : G c Q ks (.ops ol.toArray rest) fr l) : FD c Q ks ol n k rest fr l := fun a w Vs M hok =>
 mDone hn hef fun a' w' F he _ _ _ _ => hk a' w' F (M.later he)
theorem fd_same (h : ∀ t, look fr' t = look fr t) (hk : FD c Q ks ol n k rest fr' l) : FD c Q ks ol n k rest fr l := fun a w Vs M hok => by
 intro h1 h2 h3 h4 hC
 exact hk a w Vs M hok h1 h2 h3 h4 ⟨fun t v hv => hC.c t v (by rw [← h];exact hv)⟩
theorem look_know {s : Nat} {v : Value} (h : look fr s = some v) (t : Nat) : look ((s, v) :: fr) t = look fr t := by
 cases hb : s.beq t
 ·show (match s.beq t with | true => some v | false => look fr t) = look fr t
  rw [hb]
 ·show (match s.beq t with | true => some v | false => look fr t) = look fr t
  rw [hb, ← Nat.eq_of_beq_eq_true hb, h]
theorem fd_know (s : Nat) {b b' : Bool} (h : look fr s = some (.bool b)) (hb : b = b') (hk : FD c Q ks ol n k rest ((s, .bool b') :: fr) l) : FD c Q ks ol n k rest fr l := by
 subst hb
 exact fd_same (look_know h) hk
theorem fd_split (s : Nat) {b : Bool} (h : look fr s = some (.bool b)) (ht : b = true → FD c Q ks ol n k rest ((s, .bool true) :: fr) l) (hf : b = false → FD c Q ks ol n k rest ((s, .bool false) :: fr) l) : FD c Q ks ol n k rest fr l := by
 cases b
 ·exact fd_know s h rfl (hf rfl)
 ·exact fd_know s h rfl (ht rfl)
def runF (c : Cx) (all : Array Oper) (n : Nat) : Nat → Nat → List Oper → List (Nat × Value) → Nat × List Oper × List (Nat × Value)
 | m + 1, k, o :: rest, fr => match o.dst with
  | some d => match Nat.blt d c.n && flo [] [] [] n k o.op with
   | true => match gOk all fr o.guard with
    | some true => match evO c fr o.op with
     | some v => runF c all n m (k + 1) rest ((d, v) :: fr)
     | none => (k, o :: rest, fr)
    | some false => runF c all n m (k + 1) rest ((d, undef) :: fr)
    | none => (k, o :: rest, fr)
   | false => (k, o :: rest, fr)
  | none => (k, o :: rest, fr)
 | _, k, rest, fr => (k, rest, fr)
theorem fR : ∀ (m : Nat) {k k' : Nat} {rest rest' : List Oper} {fr fr' : List (Nat × Value)}, runF c ol.toArray n m k rest fr = (k', rest', fr') → FD c Q ks ol n k' rest' fr' l → FD c Q ks ol n k rest fr l
 | 0, k, k', rest, rest', fr, fr', h, hk => by
  cases rest <;> cases h <;> exact hk
 | m + 1, k, k', [], rest', fr, fr', h, hk => by
  cases h
  exact hk
 | m + 1, k, k', o :: rest, rest', fr, fr', h, hk => by
  obtain ⟨dst, op, ty, pos, af, g⟩ := o
  unfold runF at h
  split at h
  ·rename_i d hd0
   dsimp only at hd0
   subst hd0
   split at h
   ·rename_i hb
    simp only [Bool.and_eq_true] at hb
    split at h
    ·rename_i hg
     split at h
     ·rename_i v hv
      exact fd_v (fun a w F M R r => evO_ok F hv r) (fR m h hk) hb.2 hb.1 hg
     ·cases h
      exact hk
    ·rename_i hg
     exact fd_off (fR m h hk) hb.2 hb.1 hg
    ·cases h
     exact hk
   ·cases h
    exact hk
  ·cases h
   exact hk
end
section
variable {c : Cx} {Q : Exit → Act → World → Prop} {ks : List KF} {fr : List (Nat × Value)} {l : Row} {ol rest : List Oper} {nn kx : Nat} {d : Nat} {ty : TypeId} {pos : String} {af : Array Edge} {g : Option (Nat × Bool)}
section arith
variable {t t' : TypeId} {x y : Operand} {k : IntKind} {m n s : Int}
theorem fd_sub (hx : Ev fr x = some (.int k m)) (hy : Ev fr y = some (.int k n)) (hs : k.wrap (m - n) = s) (hk : FD c Q ks ol nn (kx + 1) rest ((d, .int k s) :: fr) l) (hlt : flo [] [] [] nn kx (.binOp .sub t x y t') = true := by rfl) (hd : Nat.blt d c.n = true := by rfl) (hg : gOk ol.toArray fr g = some true := by rfl) :
  FD c Q ks ol nn kx (⟨some d, .binOp .sub t x y t', ty, pos, af, g⟩ :: rest) fr l := fd_v (fun a w F M R r => o_sub (F.e hx) (F.e hy) hs r) hk hlt hd hg
end arith
theorem fd_ld1 (i : Nat) {t : TypeId} {x : Operand} {b off : Nat} {cs : List Value} {t' : TypeId} {fz : Nat × Nat} {v : Value} [ht : TOne c.P t] (hx : Ev fr x = some (.pointer (some ⟨b, off, none⟩))) (hl : nthO l i = some [(b, .cells cs.toArray t' fz)]) (hv : nth cs off = some v)
  (hk : FD c Q ks ol nn (kx + 1) rest ((d, v) :: fr) l) (hlt : flo [] [] [] nn kx (.load t x) = true := by rfl) (hd : Nat.blt d c.n = true := by rfl) (hg : gOk ol.toArray fr g = some true := by rfl) : FD c Q ks ol nn kx (⟨some d, .load t x, ty, pos, af, g⟩ :: rest) fr l :=
 fd_v (fun a w F M R r => o_loadH1 (F.e hx) (M.at_ _ (nthO_mem hl)) hv r) hk hlt hd hg
theorem fd_ldA (i : Nat) {t : TypeId} {x : Operand} {b off n : Nat} {cs : List Value} {t' : TypeId} {fz : Nat × Nat} {vs : List Value} [ht : TAgg c.P t n] (hx : Ev fr x = some (.pointer (some ⟨b, off, none⟩))) (hl : nthO l i = some [(b, .cells cs.toArray t' fz)]) (hv : seg cs off n = some vs)
  (hk : FD c Q ks ol nn (kx + 1) rest ((d, .agg vs.toArray) :: fr) l) (hlt : flo [] [] [] nn kx (.load t x) = true := by rfl) (hd : Nat.blt d c.n = true := by rfl) (hg : gOk ol.toArray fr g = some true := by rfl) : FD c Q ks ol nn kx (⟨some d, .load t x, ty, pos, af, g⟩ :: rest) fr l :=
 fd_v (fun a w F M R r => o_loadHA (F.e hx) (M.at_ _ (nthO_mem hl)) hv r) hk hlt hd hg
theorem fd_le1 {t : TypeId} {x : Operand} {b off : Nat} {cs : List Value} {t' : TypeId} {fz : Nat × Nat} {v : Value} [ht : TOne c.P t] (hx : Ev fr x = some (.pointer (some ⟨b, off, none⟩))) (hb : ∀ w', Ext c.S c.W w' → w'.heap[b]? = some (.cells cs.toArray t' fz)) (hv : nth cs off = some v)
  (hk : FD c Q ks ol nn (kx + 1) rest ((d, v) :: fr) l) (hlt : flo [] [] [] nn kx (.load t x) = true := by rfl) (hd : Nat.blt d c.n = true := by rfl) (hg : gOk ol.toArray fr g = some true := by rfl) : FD c Q ks ol nn kx (⟨some d, .load t x, ty, pos, af, g⟩ :: rest) fr l :=
 fd_v (fun a w F M R r => o_loadH1 (F.e hx) (hb w M.ext) hv r) hk hlt hd hg
theorem fd_leA {t : TypeId} {x : Operand} {b off n : Nat} {cs : List Value} {t' : TypeId} {fz : Nat × Nat} {vs : List Value} [ht : TAgg c.P t n] (hx : Ev fr x = some (.pointer (some ⟨b, off, none⟩))) (hb : ∀ w', Ext c.S c.W w' → w'.heap[b]? = some (.cells cs.toArray t' fz)) (hv : seg cs off n = some vs)
  (hk : FD c Q ks ol nn (kx + 1) rest ((d, .agg vs.toArray) :: fr) l) (hlt : flo [] [] [] nn kx (.load t x) = true := by rfl) (hd : Nat.blt d c.n = true := by rfl) (hg : gOk ol.toArray fr g = some true := by rfl) : FD c Q ks ol nn kx (⟨some d, .load t x, ty, pos, af, g⟩ :: rest) fr l :=
 fd_v (fun a w F M R r => o_loadHA (F.e hx) (hb w M.ext) hv r) hk hlt hd hg
theorem fd_ixS {t e : TypeId} {x i : Operand} {k : IntKind} {b o len cap sz : Nat} {j : Int} (hx : Ev fr x = some (.slice (some ⟨b, o, none⟩) len cap)) (hi : Ev fr i = some (.int k j)) [ht : TU c.P t (.slice e)] [hs : TSz c.P e sz] (h0 : 0 ≤ j) (h1 : j < len)
  (hk : FD c Q ks ol nn (kx + 1) rest ((d, .pointer (some ⟨b, o + j.toNat * sz, none⟩)) :: fr) l) (hlt : flo [] [] [] nn kx (.indexAddr t x i) = true := by rfl) (hd : Nat.blt d c.n = true := by rfl) (hg : gOk ol.toArray fr g = some true := by rfl) : FD c Q ks ol nn kx (⟨some d, .indexAddr t x i, ty, pos, af, g⟩ :: rest) fr l :=
 fd_v (fun a w F M R r => o_indexSl (F.e hx) (F.e hi) h0 h1 r) hk hlt hd hg
theorem fd_eqA {t t' : TypeId} {x y : Operand} {kk : List LK} {xs ys : List Value} {b : Bool} [ht : TEq c.P t kk] (hx : Ev fr x = some (.agg xs.toArray)) (hy : Ev fr y = some (.agg ys.toArray)) (fx : fitsK kk xs = true) (fy : fitsK kk ys = true) (he : eqVs xs ys = b)
  (hk : FD c Q ks ol nn (kx + 1) rest ((d, .bool b) :: fr) l) (hlt : flo [] [] [] nn kx (.binOp .eql t x y t') = true := by rfl) (hd : Nat.blt d c.n = true := by rfl) (hg : gOk ol.toArray fr g = some true := by rfl) : FD c Q ks ol nn kx (⟨some d, .binOp .eql t x y t', ty, pos, af, g⟩ :: rest) fr l :=
 fd_v (fun a w F M R r => o_eqlAE (F.e hx) (F.e hy) fx fy he r) hk hlt hd hg
end
section
variable {c : Cx} {Q : Exit → Act → World → Prop} {ks : List KF} {st : St} {fr : List (Nat × Value)} {l : Row}
/-- where branches come together -/
structure LJ (ι : Type) where
 p : ι → Prop
 fi : ι → List (Nat × Value)
 li : ι → Row
def JQ {ι : Type} (J : LJ ι) (c : Cx) (Q : Exit → Act → World → Prop) (ks : List KF) : Exit → Act → World → Prop
 | .normal, a, w => ∃ j, J.p j ∧ Frm a c.n c.df (J.fi j) ∧ Mem c.S c.W w (J.li j).flatten
 | e, a, w => KQ c Q ks e a w
theorem JQ.of {ι : Type} {J : LJ ι} {e : Exit} {a : Act} {w : World} (h : JQ J c Q ks e a w) (hk : ∀ j, J.p j → G c Q ks (.ext .normal) (J.fi j) (J.li j)) : KQ c Q ks e a w := by
 cases e with
 | normal =>
  obtain ⟨j, h2, h3, h4⟩ := h
  exact hk j h2 a w h3 h4
 | exit _ => exact h
 | goto _ => exact h
 | ret => exact h
 | panic _ => exact h
 | outgrown => exact h
theorem g_cutC {ι : Type} (J : LJ ι) {x : Code} (h1 : G c (JQ J c Q ks) [] (.code x) fr l) (h2 : ∀ j, J.p j → G c Q ks (.ext .normal) (J.fi j) (J.li j)) : G c Q ks (.code x) fr l := fun a w F M =>
 wpIn_mono (h1 a w F M) fun e a w h => JQ.of h h2
theorem g_join {ι : Type} {J : LJ ι} (j : ι) (h2 : J.p j) (hfr : ∀ a, Frm a c.n c.df fr → Frm a c.n c.df (J.fi j)) (hl : (J.li j).Sublist l) : G c (JQ J c Q ks) [] (.ext .normal) fr l := fun a w F M => ⟨j, h2, hfr a F, M.sub (subO hl)⟩
theorem g_jX {ι : Type} {J : LJ ι} {id : Nat} (h : G c Q ks (.ext (.exit id)) fr l) : G c (JQ J c Q ks) [] (.ext (.exit id)) fr l := h
theorem g_jR {ι : Type} {J : LJ ι} (h : G c Q ks (.ext .ret) fr l) : G c (JQ J c Q ks) [] (.ext .ret) fr l := h
end
end Go.Proofs.YtilgoepokaaleaaGreat
/-! Lib5 -/
namespace Go.Proofs.YtilgoepokaaleaaGreat
set_option linter.unusedVariables false
set_option linter.unusedSimpArgs false
open Go.RowKit
/-- a slice of new memory that holds o -/
def NwS (n0 len : Nat) (o : Obj) : Pred := fun v w => ∃ b, v = .slice (some ⟨b, 0, none⟩) len len ∧ n0 ≤ b ∧ w.heap[b]? = some o
theorem NwS.stays (n0 len : Nat) (o : Obj) : Stays keepAll (NwS n0 len o) := fun v w w' ⟨b, h1, h2, h3⟩ h => ⟨b, h1, h2, by
 rw [Ext.block h b (Array.getElem?_eq_some_iff.1 h3).1 (by simp)];exact h3⟩
section
variable {c : Cx} {Q : Exit → Act → World → Prop} {ks : List KF} {fr : List (Nat × Value)} {l : Row} {ol rest : List Oper} {n k : Nat} {d : Nat} {ty : TypeId} {pos : String} {af : Array Edge}
end
section
variable {c : Cx} {Q : Exit → Act → World → Prop} {ks : List KF} {fr : List (Nat × Value)} {l : Row} {all rest ol : List Oper} {aa : Array Oper} {nn kx : Nat} {d : Nat} {ty : TypeId} {pos : String} {af : Array Edge} {g : Option (Nat × Bool)}
end
section
variable {c : Cx} {Q : Exit → Act → World → Prop} {ks : List KF} {fr : List (Nat × Value)} {l : Row}
/-- a cut in the middle of a block (a loop's) -/
theorem g_cutB {ι : Type} (J : LJ ι) {x : Code} {id : Nat} (h1 : G c (JQ J c Q ks) [.blk id] (.code x) fr l) (h2 : ∀ j, J.p j → G c Q ks (.ext .normal) (J.fi j) (J.li j)) : G c Q (.blk id :: ks) (.code x) fr l := fun a w F M =>
 wpIn_mono (h1 a w F M) fun e a w h => by
  cases e with
  | exit i =>
   show (if i = id then KQ c Q ks .normal a w else KQ c Q ks (.exit i) a w)
   have h' : (if i = id then JQ J c Q ks .normal a w else JQ J c Q ks (.exit i) a w) := h
   split
   ·rename_i e
    rw [if_pos e] at h'
    exact JQ.of h' h2
   ·rename_i e
    rw [if_neg e] at h'
    exact h'
  | normal => exact JQ.of (e := .normal) h h2
  | goto _ => exact h
  | ret => exact h
  | panic _ => exact h
  | outgrown => exact h
end
section
variable {c : Cx} {Q : Exit → Act → World → Prop} {ks : List KF} {fr : List (Nat × Value)} {l : Row} {aa : Array Oper} {rest : List Oper} {d : Nat} {ty : TypeId} {pos : String} {af : Array Edge} {g : Option (Nat × Bool)}
/-- a call that answers with new memory -/
theorem g_callN {ι : Type} (val : ι → Value) (p : ι → Prop) (li : ι → Row) {x : Operand} {f : FuncId} {xs : List Operand} {ts : Array TypeId} {vs : List Value} [hb : TBody c.P f] (hx : Ev fr x = some (.func (.func f) #[] #[])) (ha : evL fr xs = some vs)
  (hc : ∀ w, Mem c.S c.W w l.flatten → Cal c.P f vs.toArray w fun v w' => ∃ i, v = val i ∧ p i ∧ Mem [] w w' (li i).flatten)
  (hk : ∀ i, p i → G c Q ks (.ops aa rest) ((d, val i) :: fr) (li i ++ l)) (hd : Nat.blt d c.n = true := by rfl) (hg : gOk aa fr g = some true := by rfl) : G c Q ks (.ops aa (⟨some d, .call ⟨.value x, xs.toArray, ts⟩, ty, pos, af, g⟩ :: rest)) fr l :=
 g_op rfl hd hg fun a w F M => o_call (F.e hx) (F.evs ha) (Cal.mono (hc w M) fun u w' h a' F' => by
  obtain ⟨i, rfl, h2, N⟩ := h
  exact hk i h2 a' w' F' (by rw [List.flatten_append];exact M.joins N))
end
end Go.Proofs.YtilgoepokaaleaaGreat
/-! Y5 -/
namespace Go.Proofs.YtilgoepokaaleaaGreat
set_option linter.unusedVariables false
set_option linter.unusedSimpArgs false
open Go.RowKit
attribute [local irreducible] OpTo wpListIn Code.wpIn MW Cal
def di0 : DisV := ⟨0, 0⟩
def diV (d : DisV) : Value := .agg (diC d).toArray
end Go.Proofs.YtilgoepokaaleaaGreat
/-! Z4 -/
namespace Go.Proofs.YtilgoepokaaleaaGreat
set_option linter.unusedVariables false
set_option linter.unusedSimpArgs false
open Go.RowKit
def newerV (a b : Int) : Bool := let d := IntKind.u16.wrap (a - b);(decide (1 ≤ d) && decide (d < 32768)) || (decide (d = 32768) && decide (b < a))
def betterV (a b : DisV) : Bool := !decide (a = b) && (newerV a.seq b.seq || (decide (a.seq = b.seq) && decide (a.met < b.met)))
def addM (a b : Int) : Int := if validM a && validM b then min (a + b) inf else inf
def src1 (s : SrcV) : Bool := validT s.to && finD s.bst && isTime s.til
def cmpS (a b : SrcV) : Int := cmpD a.to b.to
def validSs (l : List SrcV) : Bool := vldL 256 src1 cmpS l
theorem validSs_iff {l : List SrcV} : validSs l = true ↔ l.length ≤ 256 ∧ (∀ a ∈ l, src1 a = true) ∧ AscC cmpS l := vldL_iff (fun _ _ _ h k => cmpD_trans h k)
def bestS (s : List SrcV) (now : Int) (t : DstV) : Option DisV := (s.find? fun x => decide (x.to = t) && decide (now < x.til)).map (·.bst)
def feasV (s : List SrcV) (now : Int) (t : DstV) (d : DisV) : Bool := finD d && match bestS s now t with
 | none => true
 | some b => betterV d b
def none0 : OptV := ⟨0, inf⟩
def bstO (l : List OptV) : OptV := l.foldl (fun b o => if o.cost < b.cost then o else b) none0
def prvO (nb : Int) (l : List OptV) : OptV := l.foldl (fun c o => if o.cost < inf ∧ o.nb = nb then o else c) none0
def validCh (c : ChoV) : Bool := validM c.cost && (decide (c.btn = -1) || isTime c.btn)
def opt1 (o : OptV) : Bool := !decide (o.nb = 0) && validM o.cost
def cmpO (a b : OptV) : Int := cmpI a.nb b.nb
def validOs (l : List OptV) : Bool := vldL 16 opt1 cmpO l
theorem cmpO_trans {a b c : OptV} (h : cmpO a b < 0) (k : cmpO b c < 0) : cmpO a c < 0 := by
 unfold cmpO at *
 rw [cmpI_lt] at *
 omega
theorem validOs_iff {l : List OptV} : validOs l = true ↔ l.length ≤ 16 ∧ (∀ a ∈ l, opt1 a = true) ∧ AscC cmpO l := vldL_iff (fun _ _ _ h k => cmpO_trans h k)
def choB (now : Int) (old : ChoV) (b c : OptV) : ChoV :=
 if c = none0 then ⟨b.nb, b.cost, -1⟩ else if b.cost = c.cost then ⟨c.nb, c.cost, -1⟩
 else if 256 ≤ c.cost - b.cost then ⟨b.nb, b.cost, -1⟩ else if old.btn = -1 then ⟨c.nb, c.cost, now⟩
 else if old.btn + 6 ≤ now then ⟨b.nb, b.cost, -1⟩ else ⟨c.nb, c.cost, old.btn⟩
def chooseV (now : Int) (old : ChoV) (l : List OptV) : ChoV := choB now old (bstO l) (prvO old.nb l)
def ins1 (e : InsV) : Bool := validT e.to && (if e.nb = 0 then decide (e.own.met = inf) && decide (e.btn = -1) && isTime e.til else finD e.own && (decide (e.btn = -1) || isTime e.btn) && decide (e.til = 0))
def cmpN (a b : InsV) : Int := cmpD a.to b.to
def validIs (l : List InsV) : Bool := vldL 512 ins1 cmpN l
theorem validIs_iff {l : List InsV} : validIs l = true ↔ l.length ≤ 512 ∧ (∀ a ∈ l, ins1 a = true) ∧ AscC cmpN l := vldL_iff (fun _ _ _ h k => cmpD_trans h k)
/-- the destinations of two lists, each one once -/
def insD (t : DstV) : List DstV → List DstV
 | [] => [t]
 | x :: xs => if cmpD t x < 0 then t :: x :: xs else if t = x then x :: xs else x :: insD t xs
abbrev AscD (l : List DstV) : Prop := AscC cmpD l
theorem mem_insD {t y : DstV} : ∀ {l : List DstV}, y ∈ insD t l ↔ y = t ∨ y ∈ l
 | [] => by simp [insD]
 | x :: xs => by
  unfold insD
  split
  ·simp
  ·split
   ·rename_i h
    subst h
    simp
   ·rw [List.mem_cons, mem_insD (l := xs), List.mem_cons]
    constructor
    ·rintro (h | h | h) <;> simp [h]
    ·rintro (h | h | h) <;> simp [h]
theorem asc_insD {t : DstV} (ht : IsDv t) : ∀ {l : List DstV}, (∀ x ∈ l, IsDv x) → AscD l → AscD (insD t l)
 | [], _, _ => by simp [insD, AscD, AscC]
 | x :: xs, hi, h => by
  have h1 := List.pairwise_cons.1 h
  unfold insD
  split
  ·rename_i h2
   refine List.pairwise_cons.2 ⟨fun y hy => ?_, h⟩
   rcases List.mem_cons.1 hy with rfl | hy
   ·exact h2
   ·exact cmpD_trans h2 (h1.1 y hy)
  ·split
   ·exact h
   ·rename_i h2 h3
    refine List.pairwise_cons.2 ⟨fun y hy => ?_, asc_insD ht (fun z hz => hi z (List.mem_cons_of_mem _ hz)) h1.2⟩
    rcases mem_insD.1 hy with rfl | hy
    ·have h4 := cmpD_anti y x
     have h5 : cmpD y x ≠ 0 := fun e => h3 (cmpD_zero ht (hi x (by simp)) e)
     omega
    ·exact h1.1 y hy
def allD (l : List RouV) (old : List InsV) : List DstV := l.map (·.to) ++ old.map (·.to)
def destsV (l : List RouV) (old : List InsV) : List DstV := (allD l old).foldr insD []
theorem foldr_insD {l : List DstV} (hi : ∀ x ∈ l, IsDv x) : AscD (l.foldr insD []) ∧ (∀ x, x ∈ l.foldr insD [] ↔ x ∈ l) := by
 induction l with
 | nil => simp [AscD, AscC]
 | cons a l ih =>
  obtain ⟨h1, h2⟩ := ih fun x hx => hi x (List.mem_cons_of_mem _ hx)
  rw [List.foldr_cons]
  exact ⟨asc_insD (hi a (by simp)) (fun x hx => hi x (List.mem_cons_of_mem _ ((h2 x).1 hx))) h1, fun x => by rw [mem_insD, h2, List.mem_cons]⟩
def lkC (c : Int) : Int := if c < 1 then 1 else c
def costM (links : List OptV) : List (Int × Int) := links.foldl (fun m o => putA o.nb (lkC o.cost) m) []
/-- an option, if a route is one -/
def optV (now : Int) (s : List SrcV) (cm : List (Int × Int)) (t : DstV) (r : RouV) : Option OptV := match getA r.nb cm with
 | none => none
 | some c => if decide (r.til ≤ now) || !feasV s now t r.said then none else some ⟨r.nb, addM r.said.met c⟩
def optsV (now : Int) (s : List SrcV) (cm : List (Int × Int)) (t : DstV) (l : List RouV) : List OptV := (l.filter fun r => decide (r.to = t)).filterMap (optV now s cm t)
def saidV (now : Int) (s : List SrcV) (cm : List (Int × Int)) (t : DstV) (l : List RouV) : List (Int × DisV) := ((l.filter fun r => decide (r.to = t)).filter fun r => (optV now s cm t r).isSome).foldl (fun m r => putA r.nb r.said m) []
def befV : Option InsV → ChoV
 | none => ⟨0, 0, -1⟩
 | some o => ⟨o.nb, o.own.met, o.btn⟩
def aftV (now : Int) (t : DstV) (old : Option InsV) (l : List OptV) (said : List (Int × DisV)) : Option InsV :=
 let c := chooseV now (befV old) l
 if c.nb ≠ 0 then some ⟨t, c.nb, ⟨((getA c.nb said).getD di0).seq, c.cost⟩, c.btn, 0⟩ else match old with
  | none => none
  | some o => if o.nb ≠ 0 then some ⟨t, 0, ⟨o.own.seq, inf⟩, -1, laterV now 14⟩ else if now < o.til then some o else none
def oldV (old : List InsV) (t : DstV) : Option InsV := old.find? fun o => decide (o.to = t)
def selE (now : Int) (l : List RouV) (s : List SrcV) (cm : List (Int × Int)) (old : List InsV) (t : DstV) : Option InsV := aftV now t (oldV old t) (optsV now s cm t l) (saidV now s cm t l)
def selV (now : Int) (l : List RouV) (s : List SrcV) (links : List OptV) (old : List InsV) : List InsV := (destsV l old).filterMap (selE now l s (costM links) old)
def nearC (a b : DstV) : Int := orI (cmpI a.dbits b.dbits) (cmpI a.sbits b.sbits)
def matchV (t : DstV) (src dst : List Int) : Bool := containsP t.dip t.dbits dst && containsP t.sip t.sbits src
def nearS (src dst : List Int) (near : List InsV) (e : InsV) : List InsV :=
 if matchV e.to src dst then match near with
  | [] => [e]
  | y :: ys => if 0 < nearC e.to y.to then [e] else if nearC e.to y.to = 0 then y :: ys ++ [e] else y :: ys
 else near
def nearL (l : List InsV) (src dst : List Int) : List InsV := l.foldl (nearS src dst) []
def cheap (near : List InsV) (y : InsV) : InsV := near.foldl (fun c e => if e.own.met < c.own.met then e else c) y
def nul16 : List Int := [0, 0, 0, 0, 0, 0, 0, 0, 0, 0, 0, 0, 0, 0, 0, 0]
theorem nul16_is : IsIP nul16 := ⟨rfl, by intro x hx;simp [nul16] at hx;omega⟩
def in0 : InsV := ⟨⟨nul16, 0, nul16, 0, 0⟩, 0, di0, 0, 0⟩
def lookN (near : List InsV) (mark : DstV) (marked : Bool) : InsV × Int := match near with
 | [] => (in0, 9)
 | y :: ys => if marked && decide (nearC y.to mark < 0) then (in0, 9) else
  let c := if marked && (decide (y.to.dip = mark.dip) && decide (y.to.dbits = mark.dbits)) && (decide (y.to.sip = mark.sip) && decide (y.to.sbits = mark.sbits)) then (y :: ys).find? fun e => decide (e.to = mark) else some (cheap (y :: ys) y)
  match c with
  | none => (in0, 9)
  | some c => if c.nb = 0 then (in0, 15) else (c, 0)
def lookV (l : List InsV) (src dst : List Int) (mark : DstV) (marked : Bool) : InsV × Int :=
 if !validIs l || (marked && !validT mark) then (in0, 1) else lookN (nearL l src dst) mark marked
end Go.Proofs.YtilgoepokaaleaaGreat
/-! Z3 -/
namespace Go.Proofs.YtilgoepokaaleaaGreat
set_option linter.unusedVariables false
set_option linter.unusedSimpArgs false
open Go.RowKit
attribute [local irreducible] OpTo wpListIn Code.wpIn MW Cal
theorem rtTime_c (t : Int) (W : World) : Cal Tryz.prog 49 [.int .i64 t].toArray W fun v w' => v = .bool (isTime t) ∧ Ext [] W w' := by
 unfold isTime
 by_cases h : 0 ≤ t
 ·rw [decide_eq_true h, Bool.true_and]
  refine fn_ofM (n := 9) [] Tryz.func49 rfl rfl rfl ?_
  intro a w F M hwW
  refine c_seq (c_region ?_)
  refine sD F (o_assign (F.e rfl) ?_);clear F a;intro a F
  with_reducible refine l_nil (q_then (c_seq (c_region ?_)))
  refine sD F (o_move (F.e rfl) ?_);clear F a;intro a F
  refine sD F (o_geqT (F.e rfl) (F.e rfl) (by omega) ?_);clear F a;intro a F
  refine sD F (o_move (F.e rfl) ?_);clear F a;intro a F
  refine sG F (o_move (F.e rfl) ?_);clear F a;intro a F
  refine sG F (o_leq (F.e rfl) (F.e rfl) ?_);clear F a;intro a F
  refine sD F (o_pickT (F.e rfl) (F.e rfl) ?_);clear F a;intro a F
  refine sD F (o_assign (F.e rfl) ?_);clear F a;intro a F
  with_reducible refine l_nil (q_then (c_ret ?_))
  refine p_ret F rfl (.cons (.tmp (F.e rfl)) .nil) ?_
  exact ⟨rfl, M.ext⟩
 ·rw [decide_eq_false h, Bool.false_and]
  refine fn_ofM (n := 9) [] Tryz.func49 rfl rfl rfl ?_
  intro a w F M hwW
  refine c_seq (c_region ?_)
  refine sD F (o_assign (F.e rfl) ?_);clear F a;intro a F
  with_reducible refine l_nil (q_then (c_seq (c_region ?_)))
  refine sD F (o_move (F.e rfl) ?_);clear F a;intro a F
  refine sD F (o_geqF (F.e rfl) (F.e rfl) (by omega) ?_);clear F a;intro a F
  refine sD F (o_move (F.e rfl) ?_);clear F a;intro a F
  refine sO F ?_;clear F a;intro a F
  refine sO F ?_;clear F a;intro a F
  refine sD F (o_pickF (F.e rfl) (F.e rfl) ?_);clear F a;intro a F
  refine sD F (o_assign (F.e rfl) ?_);clear F a;intro a F
  with_reducible refine l_nil (q_then (c_ret ?_))
  refine p_ret F rfl (.cons (.tmp (F.e rfl)) .nil) ?_
  exact ⟨rfl, M.ext⟩
theorem mtTime_c (t : Int) (W : World) : Cal Tryz.prog 133 [.int .i64 t].toArray W fun v w' => v = .bool (isTime t) ∧ Ext [] W w' := by
 unfold isTime
 by_cases h : 0 ≤ t
 ·rw [decide_eq_true h, Bool.true_and]
  refine fn_ofM (n := 9) [] Tryz.func133 rfl rfl rfl ?_
  intro a w F M hwW
  refine c_seq (c_region ?_)
  refine sD F (o_assign (F.e rfl) ?_);clear F a;intro a F
  with_reducible refine l_nil (q_then (c_seq (c_region ?_)))
  refine sD F (o_move (F.e rfl) ?_);clear F a;intro a F
  refine sD F (o_geqT (F.e rfl) (F.e rfl) (by omega) ?_);clear F a;intro a F
  refine sD F (o_move (F.e rfl) ?_);clear F a;intro a F
  refine sG F (o_move (F.e rfl) ?_);clear F a;intro a F
  refine sG F (o_leq (F.e rfl) (F.e rfl) ?_);clear F a;intro a F
  refine sD F (o_pickT (F.e rfl) (F.e rfl) ?_);clear F a;intro a F
  refine sD F (o_assign (F.e rfl) ?_);clear F a;intro a F
  with_reducible refine l_nil (q_then (c_ret ?_))
  refine p_ret F rfl (.cons (.tmp (F.e rfl)) .nil) ?_
  exact ⟨rfl, M.ext⟩
 ·rw [decide_eq_false h, Bool.false_and]
  refine fn_ofM (n := 9) [] Tryz.func133 rfl rfl rfl ?_
  intro a w F M hwW
  refine c_seq (c_region ?_)
  refine sD F (o_assign (F.e rfl) ?_);clear F a;intro a F
  with_reducible refine l_nil (q_then (c_seq (c_region ?_)))
  refine sD F (o_move (F.e rfl) ?_);clear F a;intro a F
  refine sD F (o_geqF (F.e rfl) (F.e rfl) (by omega) ?_);clear F a;intro a F
  refine sD F (o_move (F.e rfl) ?_);clear F a;intro a F
  refine sO F ?_;clear F a;intro a F
  refine sO F ?_;clear F a;intro a F
  refine sD F (o_pickF (F.e rfl) (F.e rfl) ?_);clear F a;intro a F
  refine sD F (o_assign (F.e rfl) ?_);clear F a;intro a F
  with_reducible refine l_nil (q_then (c_ret ?_))
  refine p_ret F rfl (.cons (.tmp (F.e rfl)) .nil) ?_
  exact ⟨rfl, M.ext⟩
theorem scTime_c (t : Int) (W : World) : Cal Tryz.prog 95 [.int .i64 t].toArray W fun v w' => v = .bool (isTime t) ∧ Ext [] W w' := by
 unfold isTime
 by_cases h : 0 ≤ t
 ·rw [decide_eq_true h, Bool.true_and]
  refine fn_ofM (n := 9) [] Tryz.func95 rfl rfl rfl ?_
  intro a w F M hwW
  refine c_seq (c_region ?_)
  refine sD F (o_assign (F.e rfl) ?_);clear F a;intro a F
  with_reducible refine l_nil (q_then (c_seq (c_region ?_)))
  refine sD F (o_move (F.e rfl) ?_);clear F a;intro a F
  refine sD F (o_geqT (F.e rfl) (F.e rfl) (by omega) ?_);clear F a;intro a F
  refine sD F (o_move (F.e rfl) ?_);clear F a;intro a F
  refine sG F (o_move (F.e rfl) ?_);clear F a;intro a F
  refine sG F (o_leq (F.e rfl) (F.e rfl) ?_);clear F a;intro a F
  refine sD F (o_pickT (F.e rfl) (F.e rfl) ?_);clear F a;intro a F
  refine sD F (o_assign (F.e rfl) ?_);clear F a;intro a F
  with_reducible refine l_nil (q_then (c_ret ?_))
  refine p_ret F rfl (.cons (.tmp (F.e rfl)) .nil) ?_
  exact ⟨rfl, M.ext⟩
 ·rw [decide_eq_false h, Bool.false_and]
  refine fn_ofM (n := 9) [] Tryz.func95 rfl rfl rfl ?_
  intro a w F M hwW
  refine c_seq (c_region ?_)
  refine sD F (o_assign (F.e rfl) ?_);clear F a;intro a F
  with_reducible refine l_nil (q_then (c_seq (c_region ?_)))
  refine sD F (o_move (F.e rfl) ?_);clear F a;intro a F
  refine sD F (o_geqF (F.e rfl) (F.e rfl) (by omega) ?_);clear F a;intro a F
  refine sD F (o_move (F.e rfl) ?_);clear F a;intro a F
  refine sO F ?_;clear F a;intro a F
  refine sO F ?_;clear F a;intro a F
  refine sD F (o_pickF (F.e rfl) (F.e rfl) ?_);clear F a;intro a F
  refine sD F (o_assign (F.e rfl) ?_);clear F a;intro a F
  with_reducible refine l_nil (q_then (c_ret ?_))
  refine p_ret F rfl (.cons (.tmp (F.e rfl)) .nil) ?_
  exact ⟨rfl, M.ext⟩
theorem rlater_c (a d : Int) (h0 : 0 ≤ a) (h1 : a ≤ 1099511627776) (d0 : 0 ≤ d) (d1 : d ≤ 1099511627776) (W : World) : Cal Tryz.prog 76 [.int .i64 a, .int .i64 d].toArray W fun v w' => v = .int .i64 (laterV a d) ∧ Ext [] W w' := by
 refine fn_ofM (n := 9) [] Tryz.func76 rfl rfl rfl ?_
 intro a w F M hwW
 refine c_seq (c_region ?_)
 refine sD F (o_assign (F.e rfl) ?_);clear F a;intro a F
 with_reducible refine l_nil (q_then (c_seq (c_region ?_)))
 refine sD F (o_move (F.e rfl) ?_);clear F a;intro a F
 refine sD F (o_move (F.e rfl) ?_);clear F a;intro a F
 refine sD F (o_add (F.e rfl) (F.e rfl) (w_i64 (by omega) (by omega)) ?_);clear F a;intro a F
 refine sD F (o_min (F.e rfl) (F.e rfl) ?_);clear F a;intro a F
 refine sD F (o_assign (F.e rfl) ?_);clear F a;intro a F
 with_reducible refine l_nil (q_then (c_ret ?_))
 refine p_ret F rfl (.cons (.tmp (F.e rfl)) .nil) ?_
 exact ⟨rfl, M.ext⟩
theorem sqvalid_c (d : DisV) (W : World) : Cal Tryz.prog 75 [.agg (diC d).toArray].toArray W fun v w' => v = .bool (validM d.met) ∧ Ext [] W w' := by
 have e1 := di_met (o := d) trivial
 refine fn_ofM (n := 6) [] Tryz.func75 rfl rfl rfl ?_
 intro a w F M hwW
 refine c_seq ?_
 refine c_region ?_
 (refine sD F (o_box M (F.e rfl) rfl ?_);clear F M;intro b1 w M a F)
 refine sD F (o_assign (F.e rfl) ?_);clear F a;intro a F
 with_reducible refine l_nil (q_then (c_seq (c_region ?_)))
 refine sD F (o_fieldAddr (F.e rfl) ?_);clear F a;intro a F
 refine sD F (o_load1 M (F.e rfl) (by repeat constructor) (by first | assumption | rfl) ?_);clear F a;intro a F
 (refine sD F (o_call (F.e rfl) (F.evs rfl) (Cal.mono (mvalid_c d.met _) ?_));clear F;clear a;rintro _ w ⟨rfl, hE⟩ a F;replace M := M.later hE;clear hE)
 refine sD F (o_assign (F.e rfl) ?_);clear F a;intro a F
 with_reducible refine l_nil (q_then (c_ret ?_))
 refine p_ret F rfl (.cons (.tmp (F.e rfl)) .nil) ?_
 exact ⟨rfl, M.ext⟩
theorem rtfin_c (d : DisV) (W : World) : Cal Tryz.prog 94 [.agg (diC d).toArray].toArray W fun v w' => v = .bool (finD d) ∧ Ext [] W w' := by
 have e1 := di_met (o := d) trivial
 have e2 := di_all (o := d) trivial
 unfold finD inf
 refine fn_ofM (n := 10) [] Tryz.func94 rfl rfl rfl ?_
 intro a w F M hwW
 refine c_seq ?_
 refine c_region ?_
 (refine sD F (o_box M (F.e rfl) rfl ?_);clear F M;intro b1 w M a F)
 refine sD F (o_assign (F.e rfl) ?_);clear F a;intro a F
 with_reducible refine l_nil (q_then (c_seq (c_region ?_)))
 refine sD F (o_loadA M (F.e rfl) (by repeat constructor) (by first | assumption | rfl) ?_);clear F a;intro a F
 (refine sD F (o_call (F.e rfl) (F.evs rfl) (Cal.mono (sqvalid_c d _) ?_));clear F;clear a;rintro _ w ⟨rfl, hE⟩ a F;replace M := M.later hE;clear hE)
 cases h1 : validM d.met
 ·rw [h1] at F
  refine sD F (o_move (F.e rfl) ?_);clear F a;intro a F
  refine sO F ?_;clear F a;intro a F
  refine sO F ?_;clear F a;intro a F
  refine sO F ?_;clear F a;intro a F
  refine sD F (o_pickF (F.e rfl) (F.e rfl) ?_);clear F a;intro a F
  refine sD F (o_assign (F.e rfl) ?_);clear F a;intro a F
  with_reducible refine l_nil (q_then (c_ret ?_))
  refine p_ret F rfl (.cons (.tmp (F.e rfl)) .nil) ?_
  exact ⟨rfl, M.ext⟩
 ·rw [h1] at F
  by_cases h2 : d.met = 65535
  ·rw [decide_eq_true h2]
   refine sD F (o_move (F.e rfl) ?_);clear F a;intro a F
   refine sG F (o_fieldAddr (F.e rfl) ?_);clear F a;intro a F
   refine sG F (o_load1 M (F.e rfl) (by repeat constructor) (by first | assumption | rfl) ?_);clear F a;intro a F
   refine sG F (o_neqF (F.e rfl) (F.e rfl) (by omega) ?_);clear F a;intro a F
   refine sD F (o_pickT (F.e rfl) (F.e rfl) ?_);clear F a;intro a F
   refine sD F (o_assign (F.e rfl) ?_);clear F a;intro a F
   with_reducible refine l_nil (q_then (c_ret ?_))
   refine p_ret F rfl (.cons (.tmp (F.e rfl)) .nil) ?_
   exact ⟨rfl, M.ext⟩
  ·rw [decide_eq_false h2]
   refine sD F (o_move (F.e rfl) ?_);clear F a;intro a F
   refine sG F (o_fieldAddr (F.e rfl) ?_);clear F a;intro a F
   refine sG F (o_load1 M (F.e rfl) (by repeat constructor) (by first | assumption | rfl) ?_);clear F a;intro a F
   refine sG F (o_neqT (F.e rfl) (F.e rfl) (by omega) ?_);clear F a;intro a F
   refine sD F (o_pickT (F.e rfl) (F.e rfl) ?_);clear F a;intro a F
   refine sD F (o_assign (F.e rfl) ?_);clear F a;intro a F
   with_reducible refine l_nil (q_then (c_ret ?_))
   refine p_ret F rfl (.cons (.tmp (F.e rfl)) .nil) ?_
   exact ⟨rfl, M.ext⟩
set_option maxHeartbeats 1000000 in
theorem rorder_c (x y : RouV) (ha : IsRo x) (hb : IsRo y) (W : World) : Cal Tryz.prog 78 [.agg (roC x).toArray, .agg (roC y).toArray].toArray W fun v w' => v = .int .i64 (cmpR x y) ∧ Ext [] W w' := by
 have a1 := ro_to ha
 have a2 := ro_nb ha
 have c1 := ro_to hb
 have c2 := ro_nb hb
 have hr : cmpR x y = orV [cmpD x.to y.to, cmpV x.nb y.nb] := by
  rw [cmpR_or ha.1 hb.1]
  simp only [orV, orI]
  repeat' split
  all_goals first | rfl | (rename_i h;exact h) | (rename_i h;exact h.symm) | simp_all [cmpI, cmpV]
 rw [hr]
 refine fn_ofM (n := 17) [] Tryz.func78 rfl rfl rfl ?_
 intro a w F M hwW
 refine c_seq ?_
 refine c_region ?_
 (refine sD F (o_box M (F.e rfl) rfl ?_);clear F M;intro b2 w M a F)
 (refine sD F (o_box M (F.e rfl) rfl ?_);clear F M;intro b3 w M a F)
 refine sD F (o_assign (F.e rfl) ?_);clear F a;intro a F
 with_reducible refine l_nil (q_then (c_seq ?_))
 replace F := F.only [2, 3] rfl
 refine c_draw 10 F (by kernel_rfl) ?_
 intro w1 hE hok
 have M1 := M.later hE
 refine mK hok rfl rfl (fun a' w' F' E' => o_fieldAddr (F'.e rfl) ⟨Ext.refl _ _, rfl⟩) ?_
 refine mK hok rfl rfl (fun a' w' F' E' => o_loadA (M1.later E') (F'.e rfl) (by repeat constructor) (by first | assumption | rfl) ⟨Ext.refl _ _, rfl⟩) ?_
 refine mK hok rfl rfl (fun a' w' F' E' => o_fieldAddr (F'.e rfl) ⟨Ext.refl _ _, rfl⟩) ?_
 refine mK hok rfl rfl (fun a' w' F' E' => o_loadA (M1.later E') (F'.e rfl) (by repeat constructor) (by first | assumption | rfl) ⟨Ext.refl _ _, rfl⟩) ?_
 (refine mK hok rfl rfl (fun a' w' F' E' => o_call (F'.e rfl) (F'.evs rfl) (Cal.mono (scompare_c x.to y.to ha.1 hb.1 _) fun _ _ hh => ⟨hh.2, hh.1⟩)) ?_)
 refine mK hok rfl rfl (fun a' w' F' E' => o_fieldAddr (F'.e rfl) ⟨Ext.refl _ _, rfl⟩) ?_
 refine mK hok rfl rfl (fun a' w' F' E' => o_load1 (M1.later E') (F'.e rfl) (by repeat constructor) (by first | assumption | rfl) ⟨Ext.refl _ _, rfl⟩) ?_
 refine mK hok rfl rfl (fun a' w' F' E' => o_fieldAddr (F'.e rfl) ⟨Ext.refl _ _, rfl⟩) ?_
 refine mK hok rfl rfl (fun a' w' F' E' => o_load1 (M1.later E') (F'.e rfl) (by repeat constructor) (by first | assumption | rfl) ⟨Ext.refl _ _, rfl⟩) ?_
 (refine mK hok rfl rfl (fun a' w' F' E' => o_call (F'.e rfl) (F'.evs rfl) (Cal.mono (cmp_eui x.nb y.nb _) fun _ _ hh => ⟨hh.2, hh.1⟩)) ?_)
 skip
 (refine mDone rfl rfl ?_;clear F M;intro a w F hE2 hX hTT hDD hPP;have M := M1.later hE2;clear M1;clear hX;clear hE2;clear hok;clear hE;clear hTT;clear hDD;clear hPP;(try dsimp only at F))
 (refine sD F (o_buildSlice F M rfl rfl rfl rfl ?_);clear F M;intro b15 w M a F)
 (refine sD F (o_call (F.e rfl) (F.evs rfl) (Cal.mono (or_c (b := b15) [cmpD x.to y.to, cmpV x.nb y.nb] 2 rfl (by omega) _ (M.heap .here)) ?_));clear F;clear a;rintro _ w ⟨rfl, hE⟩ a F;replace M := M.later hE;clear hE)
 refine sD F (o_assign (F.e rfl) ?_);clear F a;intro a F
 with_reducible refine l_nil (q_then (c_ret ?_))
 refine p_ret F rfl (.cons (.tmp (F.e rfl)) .nil) ?_
 exact ⟨rfl, M.ext⟩
set_option maxHeartbeats 1000000 in
theorem rnearest_c (x y : DstV) (ha : IsDv x) (hb : IsDv y) (W : World) : Cal Tryz.prog 108 [.agg (dvC x).toArray, .agg (dvC y).toArray].toArray W fun v w' => v = .int .i64 (nearC x y) ∧ Ext [] W w' := by
 have a1 := dv_dbits ha
 have a2 := dv_sbits ha
 have c1 := dv_dbits hb
 have c2 := dv_sbits hb
 have hr : nearC x y = orV [cmpV x.dbits y.dbits, cmpV x.sbits y.sbits] := by
  simp only [nearC, orV, orI]
  repeat' split
  all_goals first | rfl | (rename_i h;exact h) | (rename_i h;exact h.symm) | simp_all [cmpI, cmpV]
 rw [hr]
 refine fn_ofM (n := 21) [] Tryz.func108 rfl rfl rfl ?_
 intro a w F M hwW
 refine c_seq ?_
 refine c_region ?_
 (refine sD F (o_box M (F.e rfl) rfl ?_);clear F M;intro b2 w M a F)
 (refine sD F (o_box M (F.e rfl) rfl ?_);clear F M;intro b3 w M a F)
 refine sD F (o_assign (F.e rfl) ?_);clear F a;intro a F
 with_reducible refine l_nil (q_then (c_seq ?_))
 replace F := F.only [2, 3] rfl
 refine c_draw 14 F (by kernel_rfl) ?_
 intro w1 hE hok
 have M1 := M.later hE
 refine mK hok rfl rfl (fun a' w' F' E' => o_fieldAddr (F'.e rfl) ⟨Ext.refl _ _, rfl⟩) ?_
 refine mK hok rfl rfl (fun a' w' F' E' => o_fieldAddr (F'.e rfl) ⟨Ext.refl _ _, rfl⟩) ?_
 refine mK hok rfl rfl (fun a' w' F' E' => o_load1 (M1.later E') (F'.e rfl) (by repeat constructor) (by first | assumption | rfl) ⟨Ext.refl _ _, rfl⟩) ?_
 refine mK hok rfl rfl (fun a' w' F' E' => o_fieldAddr (F'.e rfl) ⟨Ext.refl _ _, rfl⟩) ?_
 refine mK hok rfl rfl (fun a' w' F' E' => o_fieldAddr (F'.e rfl) ⟨Ext.refl _ _, rfl⟩) ?_
 refine mK hok rfl rfl (fun a' w' F' E' => o_load1 (M1.later E') (F'.e rfl) (by repeat constructor) (by first | assumption | rfl) ⟨Ext.refl _ _, rfl⟩) ?_
 (refine mK hok rfl rfl (fun a' w' F' E' => o_call (F'.e rfl) (F'.evs rfl) (Cal.mono (cmp_int x.dbits y.dbits _) fun _ _ hh => ⟨hh.2, hh.1⟩)) ?_)
 refine mK hok rfl rfl (fun a' w' F' E' => o_fieldAddr (F'.e rfl) ⟨Ext.refl _ _, rfl⟩) ?_
 refine mK hok rfl rfl (fun a' w' F' E' => o_fieldAddr (F'.e rfl) ⟨Ext.refl _ _, rfl⟩) ?_
 refine mK hok rfl rfl (fun a' w' F' E' => o_load1 (M1.later E') (F'.e rfl) (by repeat constructor) (by first | assumption | rfl) ⟨Ext.refl _ _, rfl⟩) ?_
 refine mK hok rfl rfl (fun a' w' F' E' => o_fieldAddr (F'.e rfl) ⟨Ext.refl _ _, rfl⟩) ?_
 refine mK hok rfl rfl (fun a' w' F' E' => o_fieldAddr (F'.e rfl) ⟨Ext.refl _ _, rfl⟩) ?_
 refine mK hok rfl rfl (fun a' w' F' E' => o_load1 (M1.later E') (F'.e rfl) (by repeat constructor) (by first | assumption | rfl) ⟨Ext.refl _ _, rfl⟩) ?_
 (refine mK hok rfl rfl (fun a' w' F' E' => o_call (F'.e rfl) (F'.evs rfl) (Cal.mono (cmp_int x.sbits y.sbits _) fun _ _ hh => ⟨hh.2, hh.1⟩)) ?_)
 skip
 (refine mDone rfl rfl ?_;clear F M;intro a w F hE2 hX hTT hDD hPP;have M := M1.later hE2;clear M1;clear hX;clear hE2;clear hok;clear hE;clear hTT;clear hDD;clear hPP;(try dsimp only at F))
 (refine sD F (o_buildSlice F M rfl rfl rfl rfl ?_);clear F M;intro b19 w M a F)
 (refine sD F (o_call (F.e rfl) (F.evs rfl) (Cal.mono (or_c (b := b19) [cmpV x.dbits y.dbits, cmpV x.sbits y.sbits] 2 rfl (by omega) _ (M.heap .here)) ?_));clear F;clear a;rintro _ w ⟨rfl, hE⟩ a F;replace M := M.later hE;clear hE)
 refine sD F (o_assign (F.e rfl) ?_);clear F a;intro a F
 with_reducible refine l_nil (q_then (c_ret ?_))
 refine p_ret F rfl (.cons (.tmp (F.e rfl)) .nil) ?_
 exact ⟨rfl, M.ext⟩
theorem rtreach_c (e : InsV) (he : IsIn e) (W : World) : Cal Tryz.prog 104 [.agg (inC e).toArray].toArray W fun v w' => v = .bool (!decide (e.nb = 0)) ∧ Ext [] W w' := by
 have e1 := in_nb he
 refine fn_ofM (n := 6) [] Tryz.func104 rfl rfl rfl ?_
 intro a w F M hwW
 refine c_seq ?_
 refine c_region ?_
 (refine sD F (o_box M (F.e rfl) rfl ?_);clear F M;intro b1 w M a F)
 by_cases h : e.nb = 0
 ·rw [decide_eq_true h]
  refine sD F (o_assign (F.e rfl) ?_);clear F a;intro a F
  with_reducible refine l_nil (q_then (c_seq (c_region ?_)))
  refine sD F (o_fieldAddr (F.e rfl) ?_);clear F a;intro a F
  refine sD F (o_load1 M (F.e rfl) (by repeat constructor) (by first | assumption | rfl) ?_);clear F a;intro a F
  refine sD F (o_neqF (F.e rfl) (F.e rfl) (by omega) ?_);clear F a;intro a F
  refine sD F (o_assign (F.e rfl) ?_);clear F a;intro a F
  with_reducible refine l_nil (q_then (c_ret ?_))
  refine p_ret F rfl (.cons (.tmp (F.e rfl)) .nil) ?_
  exact ⟨rfl, M.ext⟩
 ·rw [decide_eq_false h]
  refine sD F (o_assign (F.e rfl) ?_);clear F a;intro a F
  with_reducible refine l_nil (q_then (c_seq (c_region ?_)))
  refine sD F (o_fieldAddr (F.e rfl) ?_);clear F a;intro a F
  refine sD F (o_load1 M (F.e rfl) (by repeat constructor) (by first | assumption | rfl) ?_);clear F a;intro a F
  refine sD F (o_neqT (F.e rfl) (F.e rfl) (by omega) ?_);clear F a;intro a F
  refine sD F (o_assign (F.e rfl) ?_);clear F a;intro a F
  with_reducible refine l_nil (q_then (c_ret ?_))
  refine p_ret F rfl (.cons (.tmp (F.e rfl)) .nil) ?_
  exact ⟨rfl, M.ext⟩
theorem refreach_c (e : InsV) (he : IsIn e) (W : World) : Cal Tryz.prog 17 [.agg (inC e).toArray].toArray W fun v w' => v = .bool (!decide (e.nb = 0)) ∧ Ext [] W w' := by
 have e1 := in_nb he
 refine fn_ofM (n := 6) [] Tryz.func17 rfl rfl rfl ?_
 intro a w F M hwW
 refine c_seq ?_
 refine c_region ?_
 (refine sD F (o_box M (F.e rfl) rfl ?_);clear F M;intro b1 w M a F)
 by_cases h : e.nb = 0
 ·rw [decide_eq_true h]
  refine sD F (o_assign (F.e rfl) ?_);clear F a;intro a F
  with_reducible refine l_nil (q_then (c_seq (c_region ?_)))
  refine sD F (o_fieldAddr (F.e rfl) ?_);clear F a;intro a F
  refine sD F (o_load1 M (F.e rfl) (by repeat constructor) (by first | assumption | rfl) ?_);clear F a;intro a F
  refine sD F (o_neqF (F.e rfl) (F.e rfl) (by omega) ?_);clear F a;intro a F
  refine sD F (o_assign (F.e rfl) ?_);clear F a;intro a F
  with_reducible refine l_nil (q_then (c_ret ?_))
  refine p_ret F rfl (.cons (.tmp (F.e rfl)) .nil) ?_
  exact ⟨rfl, M.ext⟩
 ·rw [decide_eq_false h]
  refine sD F (o_assign (F.e rfl) ?_);clear F a;intro a F
  with_reducible refine l_nil (q_then (c_seq (c_region ?_)))
  refine sD F (o_fieldAddr (F.e rfl) ?_);clear F a;intro a F
  refine sD F (o_load1 M (F.e rfl) (by repeat constructor) (by first | assumption | rfl) ?_);clear F a;intro a F
  refine sD F (o_neqT (F.e rfl) (F.e rfl) (by omega) ?_);clear F a;intro a F
  refine sD F (o_assign (F.e rfl) ?_);clear F a;intro a F
  with_reducible refine l_nil (q_then (c_ret ?_))
  refine p_ret F rfl (.cons (.tmp (F.e rfl)) .nil) ?_
  exact ⟨rfl, M.ext⟩
theorem lookup1_c (e : InsV) (he : IsIn e) (t : DstV) (ht : IsDv t) {bt : Nat} {ft : Nat × Nat} (W : World) (hb : W.heap[bt]? = some (.cells (dvC t).toArray 45 ft)) : Cal Tryz.prog 110 [.agg (inC e).toArray, .pointer (some ⟨bt, 0, none⟩)].toArray W fun v w' => v = .bool (decide (e.to = t)) ∧ Ext [] W w' := by
 have e1 := in_to he
 have e2 := dv_all ht
 have e3 := dv_fits he.1
 have e5 := dv_fits ht
 have e4 := dv_eq he.1 ht
 refine fn_ofM (n := 8) [] Tryz.func110 rfl rfl rfl ?_
 intro a w F M hwW
 refine c_seq ?_
 refine c_region ?_
 (refine sD F (o_box M (F.e rfl) rfl ?_);clear F M;intro b2 w M a F)
 refine sD F (o_assign (F.e rfl) ?_);clear F a;intro a F
 with_reducible refine l_nil (q_then (c_seq (c_region ?_)))
 refine sD F (o_fieldAddr (F.e rfl) ?_);clear F a;intro a F
 refine sD F (o_loadA M (F.e rfl) (by repeat constructor) (by first | assumption | rfl) ?_);clear F a;intro a F
 refine sD F (o_loadWA M (F.e rfl) ‹_› (by first | assumption | rfl) ?_);clear F a;intro a F
 refine sD F (o_eqlA (F.e rfl) (F.e rfl) (by first | assumption | rfl) (by first | assumption | rfl) ?_);clear F a;intro a F
 refine sD F (o_assign (F.e rfl) ?_);clear F a;intro a F
 with_reducible refine l_nil (q_then (c_ret ?_))
 rw [e4] at F
 refine p_ret F rfl (.cons (.tmp (F.e rfl)) .nil) ?_
 exact ⟨rfl, M.ext⟩
theorem addM_c (x y : Int) (W : World) : Cal Tryz.prog 52 [.int .i64 x, .int .i64 y].toArray W fun v w' => v = .int .i64 (addM x y) ∧ Ext [] W w' := by
 unfold addM inf
 refine fn_ofM (n := 17) [] Tryz.func52 rfl rfl rfl ?_
 intro a w F M hwW
 refine c_seq (c_region ?_)
 refine sD F (o_assign (F.e rfl) ?_);clear F a;intro a F
 with_reducible refine l_nil (q_then (c_seq (c_seq (c_region ?_))))
 refine sD F (o_move (F.e rfl) ?_);clear F a;intro a F
 (refine sD F (o_call (F.e rfl) (F.evs rfl) (Cal.mono (mvalid_c x _) ?_));clear F;clear a;rintro _ w ⟨rfl, hE⟩ a F;replace M := M.later hE;clear hE)
 cases h1 : validM x
 ·rw [h1] at F
  refine sD F (o_not (F.e rfl) ?_);clear F a;intro a F
  refine sD F (o_move (F.e rfl) ?_);clear F a;intro a F
  refine sO F ?_;clear F a;intro a F
  refine sO F ?_;clear F a;intro a F
  refine sO F ?_;clear F a;intro a F
  refine sD F (o_pickT (F.e rfl) (F.e rfl) ?_);clear F a;intro a F
  with_reducible refine l_nil (q_then ?_)
  refine c_true F rfl rfl ?_
  refine c_seq (c_region ?_)
  refine sD F (o_assign (F.e rfl) ?_);clear F a;intro a F
  with_reducible refine l_nil (q_then (c_ret (q_thenR ?_)))
  refine p_ret F rfl (.cons (.tmp (F.e rfl)) .nil) ?_
  exact ⟨rfl, M.ext⟩
 rw [h1] at F
 refine sD F (o_not (F.e rfl) ?_);clear F a;intro a F
 refine sD F (o_move (F.e rfl) ?_);clear F a;intro a F
 refine sG F (o_move (F.e rfl) ?_);clear F a;intro a F
 (refine sG F (o_call (F.e rfl) (F.evs rfl) (Cal.mono (mvalid_c y _) ?_));clear F;clear a;rintro _ w ⟨rfl, hE⟩ a F;replace M := M.later hE;clear hE)
 cases h2 : validM y
 ·rw [h2] at F
  refine sG F (o_not (F.e rfl) ?_);clear F a;intro a F
  refine sD F (o_pickF (F.e rfl) (F.e rfl) ?_);clear F a;intro a F
  with_reducible refine l_nil (q_then ?_)
  refine c_true F rfl rfl ?_
  refine c_seq (c_region ?_)
  refine sD F (o_assign (F.e rfl) ?_);clear F a;intro a F
  with_reducible refine l_nil (q_then (c_ret (q_thenR ?_)))
  refine p_ret F rfl (.cons (.tmp (F.e rfl)) .nil) ?_
  exact ⟨rfl, M.ext⟩
 rw [h2] at F
 unfold validM at h1 h2
 simp only [Bool.and_eq_true, decide_eq_true_eq] at h1 h2
 refine sG F (o_not (F.e rfl) ?_);clear F a;intro a F
 refine sD F (o_pickF (F.e rfl) (F.e rfl) ?_);clear F a;intro a F
 with_reducible refine l_nil (q_then ?_)
 refine c_false F rfl rfl ?_
 with_reducible refine c_skip (q_then (c_seq (c_region ?_)))
 refine sD F (o_move (F.e rfl) ?_);clear F a;intro a F
 refine sD F (o_move (F.e rfl) ?_);clear F a;intro a F
 refine sD F (o_add (F.e rfl) (F.e rfl) (w_i64 (by omega) (by omega)) ?_);clear F a;intro a F
 refine sD F (o_min (F.e rfl) (F.e rfl) ?_);clear F a;intro a F
 refine sD F (o_assign (F.e rfl) ?_);clear F a;intro a F
 with_reducible refine l_nil (q_then (c_ret ?_))
 refine p_ret F rfl (.cons (.tmp (F.e rfl)) .nil) ?_
 exact ⟨by
  show _ = Value.int .i64 (min (x + y) 65535)
  rw [show min (x + y) 65535 = if 65535 < x + y then 65535 else x + y by split <;> omega]
  rfl, M.ext⟩
set_option maxHeartbeats 1000000 in
theorem newer_c (x y : Int) (W : World) : Cal Tryz.prog 156 [.int .u16 x, .int .u16 y].toArray W fun v w' => v = .bool (newerV x y) ∧ Ext [] W w' := by
 obtain ⟨d, hd⟩ : ∃ d, d = IntKind.u16.wrap (x - y) := ⟨_, rfl⟩
 have hn : newerV x y = ((decide (1 ≤ d) && decide (d < 32768)) || (decide (d = 32768) && decide (y < x))) := by rw [hd];rfl
 rw [hn]
 refine fn_ofM (n := 24) [] Tryz.func156 rfl rfl rfl ?_
 intro a w F M hwW
 refine c_seq (c_region ?_)
 refine sD F (o_assign (F.e rfl) ?_);clear F a;intro a F
 with_reducible refine l_nil (q_then (c_seq (c_region ?_)))
 refine sD F (o_move (F.e rfl) ?_);clear F a;intro a F
 refine sD F (o_move (F.e rfl) ?_);clear F a;intro a F
 refine sD F (o_sub (F.e rfl) (F.e rfl) rfl ?_);clear F a;intro a F
 refine sD F (o_assign (F.e rfl) ?_);clear F a;intro a F
 with_reducible refine l_nil (q_then (c_seq (c_region ?_)))
 refine sD F (o_move (F.e rfl) ?_);clear F a;intro a F
 refine sD F (o_geq (F.e rfl) (F.e rfl) ?_);clear F a;intro a F
 refine sD F (o_move (F.e rfl) ?_);clear F a;intro a F
 rw [← hd] at F
 by_cases h1 : 1 ≤ d
 ·rw [decide_eq_true h1] at F
  rw [decide_eq_true h1]
  by_cases h2 : d < 32768
  ·rw [decide_eq_true h2]
   refine sG F (o_move (F.e rfl) ?_);clear F a;intro a F
   refine sG F (o_lssT (F.e rfl) (F.e rfl) (by omega) ?_);clear F a;intro a F
   refine sD F (o_pickT (F.e rfl) (F.e rfl) ?_);clear F a;intro a F
   refine sD F (o_move (F.e rfl) ?_);clear F a;intro a F
   refine sO F ?_;clear F a;intro a F
   refine sO F ?_;clear F a;intro a F
   refine sO F ?_;clear F a;intro a F
   refine sO F ?_;clear F a;intro a F
   refine sO F ?_;clear F a;intro a F
   refine sO F ?_;clear F a;intro a F
   refine sO F ?_;clear F a;intro a F
   refine sD F (o_pickT (F.e rfl) (F.e rfl) ?_);clear F a;intro a F
   refine sD F (o_assign (F.e rfl) ?_);clear F a;intro a F
   with_reducible refine l_nil (q_then (c_ret ?_))
   refine p_ret F rfl (.cons (.tmp (F.e rfl)) .nil) ?_
   exact ⟨rfl, M.ext⟩
  ·by_cases h3 : d = 32768
   ·rw [decide_eq_false h2, decide_eq_true h3]
    refine sG F (o_move (F.e rfl) ?_);clear F a;intro a F
    refine sG F (o_lssF (F.e rfl) (F.e rfl) (by omega) ?_);clear F a;intro a F
    refine sD F (o_pickT (F.e rfl) (F.e rfl) ?_);clear F a;intro a F
    refine sD F (o_move (F.e rfl) ?_);clear F a;intro a F
    refine sG F (o_move (F.e rfl) ?_);clear F a;intro a F
    refine sG F (o_eqlT (F.e rfl) (F.e rfl) (by omega) ?_);clear F a;intro a F
    refine sG F (o_move (F.e rfl) ?_);clear F a;intro a F
    refine sG F (o_move (F.e rfl) ?_);clear F a;intro a F
    refine sG F (o_move (F.e rfl) ?_);clear F a;intro a F
    refine sG F (o_gtr (F.e rfl) (F.e rfl) ?_);clear F a;intro a F
    refine sG F (o_pickT (F.e rfl) (F.e rfl) ?_);clear F a;intro a F
    refine sD F (o_pickF (F.e rfl) (F.e rfl) ?_);clear F a;intro a F
    refine sD F (o_assign (F.e rfl) ?_);clear F a;intro a F
    with_reducible refine l_nil (q_then (c_ret ?_))
    refine p_ret F rfl (.cons (.tmp (F.e rfl)) .nil) ?_
    exact ⟨rfl, M.ext⟩
   ·rw [decide_eq_false h2, decide_eq_false h3]
    refine sG F (o_move (F.e rfl) ?_);clear F a;intro a F
    refine sG F (o_lssF (F.e rfl) (F.e rfl) (by omega) ?_);clear F a;intro a F
    refine sD F (o_pickT (F.e rfl) (F.e rfl) ?_);clear F a;intro a F
    refine sD F (o_move (F.e rfl) ?_);clear F a;intro a F
    refine sG F (o_move (F.e rfl) ?_);clear F a;intro a F
    refine sG F (o_eqlF (F.e rfl) (F.e rfl) (by omega) ?_);clear F a;intro a F
    refine sG F (o_move (F.e rfl) ?_);clear F a;intro a F
    refine sO F ?_;clear F a;intro a F
    refine sO F ?_;clear F a;intro a F
    refine sO F ?_;clear F a;intro a F
    refine sG F (o_pickF (F.e rfl) (F.e rfl) ?_);clear F a;intro a F
    refine sD F (o_pickF (F.e rfl) (F.e rfl) ?_);clear F a;intro a F
    refine sD F (o_assign (F.e rfl) ?_);clear F a;intro a F
    with_reducible refine l_nil (q_then (c_ret ?_))
    refine p_ret F rfl (.cons (.tmp (F.e rfl)) .nil) ?_
    exact ⟨rfl, M.ext⟩
 ·rw [decide_eq_false h1] at F
  rw [decide_eq_false h1, decide_eq_false (show ¬ d = 32768 by omega)]
  refine sO F ?_;clear F a;intro a F
  refine sO F ?_;clear F a;intro a F
  refine sD F (o_pickF (F.e rfl) (F.e rfl) ?_);clear F a;intro a F
  refine sD F (o_move (F.e rfl) ?_);clear F a;intro a F
  refine sG F (o_move (F.e rfl) ?_);clear F a;intro a F
  refine sG F (o_eqlF (F.e rfl) (F.e rfl) (by omega) ?_);clear F a;intro a F
  refine sG F (o_move (F.e rfl) ?_);clear F a;intro a F
  refine sO F ?_;clear F a;intro a F
  refine sO F ?_;clear F a;intro a F
  refine sO F ?_;clear F a;intro a F
  refine sG F (o_pickF (F.e rfl) (F.e rfl) ?_);clear F a;intro a F
  refine sD F (o_pickF (F.e rfl) (F.e rfl) ?_);clear F a;intro a F
  refine sD F (o_assign (F.e rfl) ?_);clear F a;intro a F
  with_reducible refine l_nil (q_then (c_ret ?_))
  refine p_ret F rfl (.cons (.tmp (F.e rfl)) .nil) ?_
  exact ⟨rfl, M.ext⟩
end Go.Proofs.YtilgoepokaaleaaGreat
/-! Z5 -/
namespace Go.Proofs.YtilgoepokaaleaaGreat
set_option linter.unusedVariables false
set_option linter.unusedSimpArgs false
open Go.RowKit
attribute [local irreducible] OpTo wpListIn Code.wpIn MW Cal
set_option maxHeartbeats 8000000 in
theorem rtelem_c (e : InsV) (he : IsIn e) (W : World) : Cal Tryz.prog 98 [.agg (inC e).toArray].toArray W fun v w' => v = .bool (ins1 e) ∧ Ext [] W w' := by
 have hd : IsDv e.to := he.1
 refine g_start (n := 41) (S := []) fldT_ok slcT_ok Tryz.func98 rfl rfl rfl ?_
 unfold ins1
 refine gR 2 rfl ?_
 refine g_box rfl rfl fun b1 => ?_
 refine gR 7 rfl ?_
 refine g_ldA 0 rfl rfl (in_to ‹_›) ?_
 refine g_call rfl rfl (fun w M => validTo_c _ ‹_› _) ?_
 refine gR 3 rfl ?_
 refine g_if rfl (fun h1 => ?_) (fun h1 => ?_)
 ·skip
  replace h1 := false_of_not h1
  refine gR 7 rfl ?_
  refine g_ret1 rfl rfl rfl fun w M => ?_
  exact ⟨by simp [*];done, M.ext⟩
 ·skip
  replace h1 := true_of_not h1
  refine gR 5 rfl ?_
  refine g_ldA 0 rfl rfl (in_all ‹_›) ?_
  refine g_call rfl rfl (fun w M => rtreach_c _ ‹_› _) ?_
  refine gR 2 rfl ?_
  refine g_if rfl (fun h2 => ?_) (fun h2 => ?_)
  ·skip
   replace h2 := ne_of_bne h2
   refine gR 3 rfl ?_
   refine g_ldA 0 rfl rfl (in_own ‹_›) ?_
   refine g_call rfl rfl (fun w M => rtfin_c _ _) ?_
   refine gR 1 rfl ?_
   refine g_split 12 rfl (fun h3 => ?_) (fun h3 => ?_)
   ·skip
    refine gR 1 rfl ?_
    refine g_ld1 0 rfl rfl (in_btn ‹_›) ?_
    refine gR 2 rfl ?_
    refine g_split 16 rfl (fun h4 => ?_) (fun h4 => ?_)
    ·skip
     replace h4 := of_decide_eq_true h4
     refine gR 7 rfl ?_
     refine g_ld1 0 rfl rfl (in_til ‹_›) ?_
     refine gR 7 rfl ?_
     refine g_ret1 rfl rfl rfl fun w M => ?_
     exact ⟨by congr 1;rw [Bool.eq_iff_iff];simp [*], M.ext⟩
    ·skip
     replace h4 := of_decide_eq_false h4
     refine gR 1 rfl ?_
     refine g_ld1 0 rfl rfl (in_btn ‹_›) ?_
     refine g_call rfl rfl (fun w M => rtTime_c _ _) ?_
     refine gR 3 rfl ?_
     refine g_split 22 rfl (fun h5 => ?_) (fun h5 => ?_)
     ·skip
      refine gR 1 rfl ?_
      refine g_ld1 0 rfl rfl (in_til ‹_›) ?_
      refine gR 7 rfl ?_
      refine g_ret1 rfl rfl rfl fun w M => ?_
      exact ⟨by congr 1;rw [Bool.eq_iff_iff];simp [*], M.ext⟩
     ·skip
      refine gR 9 rfl ?_
      refine g_ret1 rfl rfl rfl fun w M => ?_
      exact ⟨by simp [*];done, M.ext⟩
   ·skip
    refine gR 19 rfl ?_
    refine g_ret1 rfl rfl rfl fun w M => ?_
    exact ⟨by simp [*];done, M.ext⟩
  ·skip
   replace h2 := eq_of_bne_false h2
   refine gR 6 rfl ?_
   refine g_ld1 0 rfl rfl (in_own_met ‹_›) ?_
   refine gR 2 rfl ?_
   refine g_split 31 rfl (fun h3 => ?_) (fun h3 => ?_)
   ·skip
    replace h3 := of_decide_eq_true h3
    refine gR 1 rfl ?_
    refine g_ld1 0 rfl rfl (in_btn ‹_›) ?_
    refine gR 3 rfl ?_
    refine g_split 36 rfl (fun h4 => ?_) (fun h4 => ?_)
    ·skip
     replace h4 := of_decide_eq_true h4
     refine gR 1 rfl ?_
     refine g_ld1 0 rfl rfl (in_til ‹_›) ?_
     refine g_call rfl rfl (fun w M => rtTime_c _ _) ?_
     refine gR 5 rfl ?_
     refine g_ret1 rfl rfl rfl fun w M => ?_
     exact ⟨by unfold inf;simp [*];done, M.ext⟩
    ·skip
     replace h4 := of_decide_eq_false h4
     refine gR 8 rfl ?_
     refine g_ret1 rfl rfl rfl fun w M => ?_
     exact ⟨by simp [*];done, M.ext⟩
   ·skip
    replace h3 := of_decide_eq_false h3
    refine gR 13 rfl ?_
    refine g_ret1 rfl rfl rfl fun w M => ?_
    exact ⟨by unfold inf;simp [*];done, M.ext⟩
set_option maxHeartbeats 16000000 in
theorem rtvalid_c (l : List RouV) (hx : ∀ x ∈ l, IsRo x) (v : Value) (W : World) (hS : SlAt W 39 v l.length (rosC l)) :
  Cal Tryz.prog 45 [v].toArray W fun r w' => r = .bool (validRs l) ∧ Ext [] W w' := by
 obtain ⟨q, cap, rfl, _⟩ := id hS
 have hm := hS.memB [] (by simp)
 unfold validRs
 generalize hV : vldL 512 rou1 cmpR l = b0
 refine g_start (n := 49) (S := []) fldT_ok slcT_ok Tryz.func45 rfl rfl rfl ?_
 by_cases c0 : 512 < l.length
 ·refine gR 13 rfl ?_
  refine g_ifT rfl (decide_eq_true (by omega)) ?_
  refine gR 7 rfl ?_
  refine g_ret1 rfl rfl rfl fun w M => ?_
  exact vl_L hV c0 M.ext
 refine gR 13 rfl ?_
 refine g_ifF rfl (decide_eq_false (by omega)) ?_
 refine gR 11 rfl ?_
 refine g_loop (ι := Nat) ⟨fun (i : Nat) => l.length - i, fun (i : Nat) => i ≤ l.length ∧ (∀ j, j < i → vld1 rou1 cmpR l j = true), fun (i : Nat) => [(10, .int .i64 i), (9, .int .i64 l.length), (8, .slice q l.length cap), (0, .slice q l.length cap)], fun (i : Nat) => []⟩ 0 ⟨by omega, by omega⟩ (fun a F => F.only [10, 9, 8, 0] rfl) (by repeat (first | exact .refl _ | apply sC2 | apply sC1)) ?_
 rintro i ⟨hi_i, hv⟩
 by_cases hlt_i : i < l.length
 ·obtain ⟨b, o, cs, t', fz, rfl, hb, hs⟩ := hm (by omega)
  obtain ⟨x, hx0⟩ : ∃ x, x = l[i] := ⟨_, rfl⟩
  have hxm : x ∈ l := by rw [hx0];exact List.getElem_mem hlt_i
  have hxi : IsRo x := hx _ hxm
  have f1 : seg cs (o + (i : Int).toNat * 39) 39 = some (roC x) := by rw [hx0];exact seg_el (ros_len hx) hs hlt_i (by omega)
  replace hx0 := hx0.symm
  have xd : IsDv x.to := hxi.1
  by_cases hi0 : 0 < i
  ·obtain ⟨y, hy0⟩ : ∃ y, y = l[i - 1]'(by omega) := ⟨_, rfl⟩
   have yI : IsRo y := by rw [hy0];exact hx _ (List.getElem_mem _)
   have f2 : seg cs (o + ((i : Int) - 1).toNat * 39) 39 = some (roC y) := by rw [hy0];exact seg_el (ros_len hx) hs (show i - 1 < l.length by omega) (by omega)
   replace hy0 := hy0.symm
   have yd : IsDv y.to := yI.1
   refine gR 6 rfl ?_
   refine g_ifT rfl (decide_eq_true (by omega)) ?_
   refine gR 7 rfl ?_
   refine g_ixS rfl rfl (by omega) (by omega) ?_
   refine g_leA rfl ‹_› (by with_reducible assumption) ?_
   refine g_alloc fun b4 => ?_
   refine gR 1 rfl ?_
   refine g_stA 0 rfl rfl (ro_len ‹_›) (ro_one _) rfl (put_all (by rw [ro_len ‹_›];first | rfl | rw [ro_len ‹_›])) rfl ?_
   refine gR 6 rfl ?_
   refine g_ldA 0 rfl rfl (ro_to ‹_›) ?_
   refine g_call rfl rfl (fun w M => validTo_c _ ‹_› _) ?_
   refine gR 2 rfl ?_
   refine g_split 19 rfl (fun h1 => ?_) (fun h1 => ?_)
   ·skip
    replace h1 := false_of_not h1
    refine gR 28 rfl ?_
    refine g_outR ?_
    refine gR 2 rfl ?_
    refine g_ret1 rfl rfl rfl fun w M => ?_
    exact vl_F hV hlt_i hx0.symm (by first | assumption | (unfold rou1;simp [*];done) | (unfold rou1 finD inf;simp [*])) M.ext
   ·skip
    replace h1 := true_of_not h1
    refine gR 1 rfl ?_
    refine g_ld1 0 rfl rfl (ro_nb ‹_›) ?_
    refine gR 3 rfl ?_
    refine g_split 24 rfl (fun h2 => ?_) (fun h2 => ?_)
    ·skip
     replace h2 := of_decide_eq_true h2
     refine gR 23 rfl ?_
     refine g_outR ?_
     refine gR 2 rfl ?_
     refine g_ret1 rfl rfl rfl fun w M => ?_
     exact vl_F hV hlt_i hx0.symm (by first | assumption | (unfold rou1;simp [*];done) | (unfold rou1 finD inf;simp [*])) M.ext
    ·skip
     replace h2 := of_decide_eq_false h2
     refine gR 1 rfl ?_
     refine g_ldA 0 rfl rfl (ro_said ‹_›) ?_
     refine g_call rfl rfl (fun w M => rtfin_c _ _) ?_
     refine gR 3 rfl ?_
     refine g_split 30 rfl (fun h3 => ?_) (fun h3 => ?_)
     ·skip
      replace h3 := false_of_not h3
      refine gR 17 rfl ?_
      refine g_outR ?_
      refine gR 2 rfl ?_
      refine g_ret1 rfl rfl rfl fun w M => ?_
      exact vl_F hV hlt_i hx0.symm (by first | assumption | (unfold rou1;simp [*];done) | (unfold rou1 finD inf;simp [*])) M.ext
     ·skip
      replace h3 := true_of_not h3
      refine gR 1 rfl ?_
      refine g_ld1 0 rfl rfl (ro_til ‹_›) ?_
      refine g_call rfl rfl (fun w M => rtTime_c _ _) ?_
      refine gR 4 rfl ?_
      refine g_if rfl (fun h4 => ?_) (fun h4 => ?_)
      ·skip
       replace h4 := false_of_not h4
       refine gR 9 rfl ?_
       refine g_outR ?_
       refine gR 2 rfl ?_
       refine g_ret1 rfl rfl rfl fun w M => ?_
       exact vl_F hV hlt_i hx0.symm (by first | assumption | (unfold rou1;simp [*];done) | (unfold rou1 finD inf;simp [*])) M.ext
      ·skip
       replace h4 := true_of_not h4
       refine gR 3 rfl ?_
       refine g_draw 12 49 rfl (by kernel_rfl) ?_
       refine fR 3 rfl ?_
       refine fd_know 38 rfl (decide_eq_true (by omega)) ?_
       refine fR 2 rfl ?_
       refine fd_sub rfl rfl (w_i64 (by omega) (by omega)) ?_
       refine fd_ixS rfl rfl (by omega) (by omega) ?_
       refine fd_leA rfl ‹_› (by with_reducible assumption) ?_
       refine fd_ldA 0 rfl rfl (ro_all ‹_›) ?_
       refine fd_call rfl rfl (fun w M => rorder_c _ _ ‹_› ‹_› _) ?_
       refine fR 2 rfl ?_
       refine fd_done rfl rfl ?_
       refine gR 2 rfl ?_
       refine g_if rfl (fun h5 => ?_) (fun h5 => ?_)
       ·skip
        replace h5 := of_decide_eq_true h5
        refine gR 8 rfl ?_
        refine g_outR ?_
        refine gR 2 rfl ?_
        refine g_ret1 rfl rfl rfl fun w M => ?_
        exact vl_S hV hlt_i hi0 hx0.symm hy0.symm (by omega) M.ext
       ·skip
        replace h5 := of_decide_eq_false h5
        refine gR 4 rfl ?_
        refine g_add rfl rfl (w_i64 (by omega) (by omega)) ?_
        refine gR 2 rfl ?_
        exact g_next (i + 1) ⟨by omega, vl_N hlt_i hx0.symm hv (by first | assumption | (unfold rou1;simp [*];done) | (unfold rou1 finD inf;simp [*])) fun _ => by rw [hy0];exact (by omega)⟩ (by dsimp only;omega) (fun a F => F.only [10, 9, 8, 0] rfl) (by (try dsimp only);repeat (first | exact .refl _ | with_reducible exact sC0 _ | with_reducible apply sC2 | apply sC1))
  ·refine gR 6 rfl ?_
   refine g_ifT rfl (decide_eq_true (by omega)) ?_
   refine gR 7 rfl ?_
   refine g_ixS rfl rfl (by omega) (by omega) ?_
   refine g_leA rfl ‹_› (by with_reducible assumption) ?_
   refine g_alloc fun b4 => ?_
   refine gR 1 rfl ?_
   refine g_stA 0 rfl rfl (ro_len ‹_›) (ro_one _) rfl (put_all (by rw [ro_len ‹_›];first | rfl | rw [ro_len ‹_›])) rfl ?_
   refine gR 6 rfl ?_
   refine g_ldA 0 rfl rfl (ro_to ‹_›) ?_
   refine g_call rfl rfl (fun w M => validTo_c _ ‹_› _) ?_
   refine gR 2 rfl ?_
   refine g_split 19 rfl (fun h1 => ?_) (fun h1 => ?_)
   ·skip
    replace h1 := false_of_not h1
    refine gR 28 rfl ?_
    refine g_outR ?_
    refine gR 2 rfl ?_
    refine g_ret1 rfl rfl rfl fun w M => ?_
    exact vl_F hV hlt_i hx0.symm (by first | assumption | (unfold rou1;simp [*];done) | (unfold rou1 finD inf;simp [*])) M.ext
   ·skip
    replace h1 := true_of_not h1
    refine gR 1 rfl ?_
    refine g_ld1 0 rfl rfl (ro_nb ‹_›) ?_
    refine gR 3 rfl ?_
    refine g_split 24 rfl (fun h2 => ?_) (fun h2 => ?_)
    ·skip
     replace h2 := of_decide_eq_true h2
     refine gR 23 rfl ?_
     refine g_outR ?_
     refine gR 2 rfl ?_
     refine g_ret1 rfl rfl rfl fun w M => ?_
     exact vl_F hV hlt_i hx0.symm (by first | assumption | (unfold rou1;simp [*];done) | (unfold rou1 finD inf;simp [*])) M.ext
    ·skip
     replace h2 := of_decide_eq_false h2
     refine gR 1 rfl ?_
     refine g_ldA 0 rfl rfl (ro_said ‹_›) ?_
     refine g_call rfl rfl (fun w M => rtfin_c _ _) ?_
     refine gR 3 rfl ?_
     refine g_split 30 rfl (fun h3 => ?_) (fun h3 => ?_)
     ·skip
      replace h3 := false_of_not h3
      refine gR 17 rfl ?_
      refine g_outR ?_
      refine gR 2 rfl ?_
      refine g_ret1 rfl rfl rfl fun w M => ?_
      exact vl_F hV hlt_i hx0.symm (by first | assumption | (unfold rou1;simp [*];done) | (unfold rou1 finD inf;simp [*])) M.ext
     ·skip
      replace h3 := true_of_not h3
      refine gR 1 rfl ?_
      refine g_ld1 0 rfl rfl (ro_til ‹_›) ?_
      refine g_call rfl rfl (fun w M => rtTime_c _ _) ?_
      refine gR 4 rfl ?_
      refine g_if rfl (fun h4 => ?_) (fun h4 => ?_)
      ·skip
       replace h4 := false_of_not h4
       refine gR 9 rfl ?_
       refine g_outR ?_
       refine gR 2 rfl ?_
       refine g_ret1 rfl rfl rfl fun w M => ?_
       exact vl_F hV hlt_i hx0.symm (by first | assumption | (unfold rou1;simp [*];done) | (unfold rou1 finD inf;simp [*])) M.ext
      ·skip
       replace h4 := true_of_not h4
       refine gR 3 rfl ?_
       refine g_draw 12 49 rfl (by kernel_rfl) ?_
       refine fR 3 rfl ?_
       refine fd_know 38 rfl (decide_eq_false (by omega)) ?_
       refine fR 9 rfl ?_
       refine fd_done rfl rfl ?_
       refine gR 7 rfl ?_
       refine g_add rfl rfl (w_i64 (by omega) (by omega)) ?_
       refine gR 2 rfl ?_
       exact g_next (i + 1) ⟨by omega, vl_N hlt_i hx0.symm hv (by first | assumption | (unfold rou1;simp [*];done) | (unfold rou1 finD inf;simp [*])) fun h => absurd h hi0⟩ (by dsimp only;omega) (fun a F => F.only [10, 9, 8, 0] rfl) (by (try dsimp only);repeat (first | exact .refl _ | with_reducible exact sC0 _ | with_reducible apply sC2 | apply sC1))
 ·have hil : i = l.length := by omega
  rw [hil] at hv
  refine gR 6 rfl ?_
  refine g_ifF rfl (decide_eq_false (by omega)) ?_
  refine gR 2 rfl ?_
  refine g_outX ?_
  refine gR 8 rfl ?_
  refine g_ret1 rfl rfl rfl fun w M => ?_
  exact vl_T hV (by omega) hv M.ext
set_option maxHeartbeats 16000000 in
theorem scvalid_c (l : List SrcV) (hx : ∀ x ∈ l, IsSr x) (v : Value) (W : World) (hS : SlAt W 38 v l.length (srsC l)) :
  Cal Tryz.prog 46 [v].toArray W fun r w' => r = .bool (validSs l) ∧ Ext [] W w' := by
 obtain ⟨q, cap, rfl, _⟩ := id hS
 have hm := hS.memB [] (by simp)
 unfold validSs
 generalize hV : vldL 256 src1 cmpS l = b0
 refine g_start (n := 52) (S := []) fldT_ok slcT_ok Tryz.func46 rfl rfl rfl ?_
 by_cases c0 : 256 < l.length
 ·refine gR 13 rfl ?_
  refine g_ifT rfl (decide_eq_true (by omega)) ?_
  refine gR 7 rfl ?_
  refine g_ret1 rfl rfl rfl fun w M => ?_
  exact vl_L hV c0 M.ext
 refine gR 13 rfl ?_
 refine g_ifF rfl (decide_eq_false (by omega)) ?_
 refine gR 11 rfl ?_
 refine g_loop (ι := Nat) ⟨fun (i : Nat) => l.length - i, fun (i : Nat) => i ≤ l.length ∧ (∀ j, j < i → vld1 src1 cmpS l j = true), fun (i : Nat) => [(10, .int .i64 i), (9, .int .i64 l.length), (8, .slice q l.length cap), (0, .slice q l.length cap)], fun (i : Nat) => []⟩ 0 ⟨by omega, by omega⟩ (fun a F => F.only [10, 9, 8, 0] rfl) (by repeat (first | exact .refl _ | apply sC2 | apply sC1)) ?_
 rintro i ⟨hi_i, hv⟩
 by_cases hlt_i : i < l.length
 ·obtain ⟨b, o, cs, t', fz, rfl, hb, hs⟩ := hm (by omega)
  obtain ⟨x, hx0⟩ : ∃ x, x = l[i] := ⟨_, rfl⟩
  have hxm : x ∈ l := by rw [hx0];exact List.getElem_mem hlt_i
  have hxi : IsSr x := hx _ hxm
  have f1 : seg cs (o + (i : Int).toNat * 38) 38 = some (srC x) := by rw [hx0];exact seg_el (srs_len hx) hs hlt_i (by omega)
  replace hx0 := hx0.symm
  have xd : IsDv x.to := hxi.1
  by_cases hi0 : 0 < i
  ·obtain ⟨y, hy0⟩ : ∃ y, y = l[i - 1]'(by omega) := ⟨_, rfl⟩
   have yI : IsSr y := by rw [hy0];exact hx _ (List.getElem_mem _)
   have f2 : seg cs (o + ((i : Int) - 1).toNat * 38) 38 = some (srC y) := by rw [hy0];exact seg_el (srs_len hx) hs (show i - 1 < l.length by omega) (by omega)
   replace hy0 := hy0.symm
   have yd : IsDv y.to := yI.1
   refine gR 6 rfl ?_
   refine g_ifT rfl (decide_eq_true (by omega)) ?_
   refine gR 7 rfl ?_
   refine g_ixS rfl rfl (by omega) (by omega) ?_
   refine g_leA rfl ‹_› (by with_reducible assumption) ?_
   refine g_alloc fun b4 => ?_
   refine gR 1 rfl ?_
   refine g_stA 0 rfl rfl (sr_len ‹_›) (sr_one _) rfl (put_all (by rw [sr_len ‹_›];first | rfl | rw [sr_len ‹_›])) rfl ?_
   refine gR 6 rfl ?_
   refine g_ldA 0 rfl rfl (sr_to ‹_›) ?_
   refine g_call rfl rfl (fun w M => validTo_c _ ‹_› _) ?_
   refine gR 2 rfl ?_
   refine g_split 19 rfl (fun h1 => ?_) (fun h1 => ?_)
   ·skip
    replace h1 := false_of_not h1
    refine gR 29 rfl ?_
    refine g_outR ?_
    refine gR 2 rfl ?_
    refine g_ret1 rfl rfl rfl fun w M => ?_
    exact vl_F hV hlt_i hx0.symm (by first | assumption | (unfold src1;simp [*];done) | (unfold src1 finD inf;simp [*])) M.ext
   ·skip
    replace h1 := true_of_not h1
    refine gR 1 rfl ?_
    refine g_ldA 0 rfl rfl (sr_bst ‹_›) ?_
    refine g_call rfl rfl (fun w M => sqvalid_c _ _) ?_
    refine gR 3 rfl ?_
    refine g_split 25 rfl (fun h2 => ?_) (fun h2 => ?_)
    ·skip
     replace h2 := false_of_not h2
     refine gR 23 rfl ?_
     refine g_outR ?_
     refine gR 2 rfl ?_
     refine g_ret1 rfl rfl rfl fun w M => ?_
     exact vl_F hV hlt_i hx0.symm (by first | assumption | (unfold src1;simp [*];done) | (unfold src1 finD inf;simp [*])) M.ext
    ·skip
     replace h2 := true_of_not h2
     refine gR 2 rfl ?_
     refine g_ld1 0 rfl rfl (sr_bst_met ‹_›) ?_
     refine gR 3 rfl ?_
     refine g_split 31 rfl (fun h3 => ?_) (fun h3 => ?_)
     ·skip
      replace h3 := of_decide_eq_true h3
      refine gR 17 rfl ?_
      refine g_outR ?_
      refine gR 2 rfl ?_
      refine g_ret1 rfl rfl rfl fun w M => ?_
      exact vl_F hV hlt_i hx0.symm (by first | assumption | (unfold src1;simp [*];done) | (unfold src1 finD inf;simp [*])) M.ext
     ·skip
      replace h3 := of_decide_eq_false h3
      refine gR 1 rfl ?_
      refine g_ld1 0 rfl rfl (sr_til ‹_›) ?_
      refine g_call rfl rfl (fun w M => scTime_c _ _) ?_
      refine gR 4 rfl ?_
      refine g_if rfl (fun h4 => ?_) (fun h4 => ?_)
      ·skip
       replace h4 := false_of_not h4
       refine gR 9 rfl ?_
       refine g_outR ?_
       refine gR 2 rfl ?_
       refine g_ret1 rfl rfl rfl fun w M => ?_
       exact vl_F hV hlt_i hx0.symm (by first | assumption | (unfold src1;simp [*];done) | (unfold src1 finD inf;simp [*])) M.ext
      ·skip
       replace h4 := true_of_not h4
       refine gR 3 rfl ?_
       refine g_draw 14 52 rfl (by kernel_rfl) ?_
       refine fR 3 rfl ?_
       refine fd_know 39 rfl (decide_eq_true (by omega)) ?_
       refine fR 2 rfl ?_
       refine fd_sub rfl rfl (w_i64 (by omega) (by omega)) ?_
       refine fd_ixS rfl rfl (by omega) (by omega) ?_
       refine fR 1 rfl ?_
       refine fd_leA rfl ‹_› (sg_seg f2 (sr_to ‹_›) (by omega)) ?_
       refine fR 1 rfl ?_
       refine fd_ldA 0 rfl rfl (sr_to ‹_›) ?_
       refine fd_call rfl rfl (fun w M => scompare_c _ _ ‹_› ‹_› _) ?_
       refine fR 2 rfl ?_
       refine fd_done rfl rfl ?_
       refine gR 2 rfl ?_
       refine g_if rfl (fun h5 => ?_) (fun h5 => ?_)
       ·skip
        replace h5 := of_decide_eq_true h5
        refine gR 8 rfl ?_
        refine g_outR ?_
        refine gR 2 rfl ?_
        refine g_ret1 rfl rfl rfl fun w M => ?_
        exact vl_S hV hlt_i hi0 hx0.symm hy0.symm (by unfold cmpS;omega) M.ext
       ·skip
        replace h5 := of_decide_eq_false h5
        refine gR 4 rfl ?_
        refine g_add rfl rfl (w_i64 (by omega) (by omega)) ?_
        refine gR 2 rfl ?_
        exact g_next (i + 1) ⟨by omega, vl_N hlt_i hx0.symm hv (by first | assumption | (unfold src1;simp [*];done) | (unfold src1 finD inf;simp [*])) fun _ => by rw [hy0];exact (by unfold cmpS;omega)⟩ (by dsimp only;omega) (fun a F => F.only [10, 9, 8, 0] rfl) (by (try dsimp only);repeat (first | exact .refl _ | with_reducible exact sC0 _ | with_reducible apply sC2 | apply sC1))
  ·refine gR 6 rfl ?_
   refine g_ifT rfl (decide_eq_true (by omega)) ?_
   refine gR 7 rfl ?_
   refine g_ixS rfl rfl (by omega) (by omega) ?_
   refine g_leA rfl ‹_› (by with_reducible assumption) ?_
   refine g_alloc fun b4 => ?_
   refine gR 1 rfl ?_
   refine g_stA 0 rfl rfl (sr_len ‹_›) (sr_one _) rfl (put_all (by rw [sr_len ‹_›];first | rfl | rw [sr_len ‹_›])) rfl ?_
   refine gR 6 rfl ?_
   refine g_ldA 0 rfl rfl (sr_to ‹_›) ?_
   refine g_call rfl rfl (fun w M => validTo_c _ ‹_› _) ?_
   refine gR 2 rfl ?_
   refine g_split 19 rfl (fun h1 => ?_) (fun h1 => ?_)
   ·skip
    replace h1 := false_of_not h1
    refine gR 29 rfl ?_
    refine g_outR ?_
    refine gR 2 rfl ?_
    refine g_ret1 rfl rfl rfl fun w M => ?_
    exact vl_F hV hlt_i hx0.symm (by first | assumption | (unfold src1;simp [*];done) | (unfold src1 finD inf;simp [*])) M.ext
   ·skip
    replace h1 := true_of_not h1
    refine gR 1 rfl ?_
    refine g_ldA 0 rfl rfl (sr_bst ‹_›) ?_
    refine g_call rfl rfl (fun w M => sqvalid_c _ _) ?_
    refine gR 3 rfl ?_
    refine g_split 25 rfl (fun h2 => ?_) (fun h2 => ?_)
    ·skip
     replace h2 := false_of_not h2
     refine gR 23 rfl ?_
     refine g_outR ?_
     refine gR 2 rfl ?_
     refine g_ret1 rfl rfl rfl fun w M => ?_
     exact vl_F hV hlt_i hx0.symm (by first | assumption | (unfold src1;simp [*];done) | (unfold src1 finD inf;simp [*])) M.ext
    ·skip
     replace h2 := true_of_not h2
     refine gR 2 rfl ?_
     refine g_ld1 0 rfl rfl (sr_bst_met ‹_›) ?_
     refine gR 3 rfl ?_
     refine g_split 31 rfl (fun h3 => ?_) (fun h3 => ?_)
     ·skip
      replace h3 := of_decide_eq_true h3
      refine gR 17 rfl ?_
      refine g_outR ?_
      refine gR 2 rfl ?_
      refine g_ret1 rfl rfl rfl fun w M => ?_
      exact vl_F hV hlt_i hx0.symm (by first | assumption | (unfold src1;simp [*];done) | (unfold src1 finD inf;simp [*])) M.ext
     ·skip
      replace h3 := of_decide_eq_false h3
      refine gR 1 rfl ?_
      refine g_ld1 0 rfl rfl (sr_til ‹_›) ?_
      refine g_call rfl rfl (fun w M => scTime_c _ _) ?_
      refine gR 4 rfl ?_
      refine g_if rfl (fun h4 => ?_) (fun h4 => ?_)
      ·skip
       replace h4 := false_of_not h4
       refine gR 9 rfl ?_
       refine g_outR ?_
       refine gR 2 rfl ?_
       refine g_ret1 rfl rfl rfl fun w M => ?_
       exact vl_F hV hlt_i hx0.symm (by first | assumption | (unfold src1;simp [*];done) | (unfold src1 finD inf;simp [*])) M.ext
      ·skip
       replace h4 := true_of_not h4
       refine gR 3 rfl ?_
       refine g_draw 14 52 rfl (by kernel_rfl) ?_
       refine fR 3 rfl ?_
       refine fd_know 39 rfl (decide_eq_false (by omega)) ?_
       refine fR 11 rfl ?_
       refine fd_done rfl rfl ?_
       refine gR 7 rfl ?_
       refine g_add rfl rfl (w_i64 (by omega) (by omega)) ?_
       refine gR 2 rfl ?_
       exact g_next (i + 1) ⟨by omega, vl_N hlt_i hx0.symm hv (by first | assumption | (unfold src1;simp [*];done) | (unfold src1 finD inf;simp [*])) fun h => absurd h hi0⟩ (by dsimp only;omega) (fun a F => F.only [10, 9, 8, 0] rfl) (by (try dsimp only);repeat (first | exact .refl _ | with_reducible exact sC0 _ | with_reducible apply sC2 | apply sC1))
 ·have hil : i = l.length := by omega
  rw [hil] at hv
  refine gR 6 rfl ?_
  refine g_ifF rfl (decide_eq_false (by omega)) ?_
  refine gR 2 rfl ?_
  refine g_outX ?_
  refine gR 8 rfl ?_
  refine g_ret1 rfl rfl rfl fun w M => ?_
  exact vl_T hV (by omega) hv M.ext
set_option maxHeartbeats 16000000 in
theorem rtvalidI_c (l : List InsV) (hx : ∀ x ∈ l, IsIn x) (v : Value) (W : World) (hS : SlAt W 40 v l.length (insC l)) :
  Cal Tryz.prog 48 [v].toArray W fun r w' => r = .bool (validIs l) ∧ Ext [] W w' := by
 obtain ⟨q, cap, rfl, _⟩ := id hS
 have hm := hS.memB [] (by simp)
 unfold validIs
 generalize hV : vldL 512 ins1 cmpN l = b0
 refine g_start (n := 35) (S := []) fldT_ok slcT_ok Tryz.func48 rfl rfl rfl ?_
 by_cases c0 : 512 < l.length
 ·refine gR 13 rfl ?_
  refine g_ifT rfl (decide_eq_true (by omega)) ?_
  refine gR 7 rfl ?_
  refine g_ret1 rfl rfl rfl fun w M => ?_
  exact vl_L hV c0 M.ext
 refine gR 13 rfl ?_
 refine g_ifF rfl (decide_eq_false (by omega)) ?_
 refine gR 11 rfl ?_
 refine g_loop (ι := Nat) ⟨fun (i : Nat) => l.length - i, fun (i : Nat) => i ≤ l.length ∧ (∀ j, j < i → vld1 ins1 cmpN l j = true), fun (i : Nat) => [(10, .int .i64 i), (9, .int .i64 l.length), (8, .slice q l.length cap), (0, .slice q l.length cap)], fun (i : Nat) => []⟩ 0 ⟨by omega, by omega⟩ (fun a F => F.only [10, 9, 8, 0] rfl) (by repeat (first | exact .refl _ | apply sC2 | apply sC1)) ?_
 rintro i ⟨hi_i, hv⟩
 by_cases hlt_i : i < l.length
 ·obtain ⟨b, o, cs, t', fz, rfl, hb, hs⟩ := hm (by omega)
  obtain ⟨x, hx0⟩ : ∃ x, x = l[i] := ⟨_, rfl⟩
  have hxm : x ∈ l := by rw [hx0];exact List.getElem_mem hlt_i
  have hxi : IsIn x := hx _ hxm
  have f1 : seg cs (o + (i : Int).toNat * 40) 40 = some (inC x) := by rw [hx0];exact seg_el (ins_len hx) hs hlt_i (by omega)
  replace hx0 := hx0.symm
  have xd : IsDv x.to := hxi.1
  by_cases hi0 : 0 < i
  ·obtain ⟨y, hy0⟩ : ∃ y, y = l[i - 1]'(by omega) := ⟨_, rfl⟩
   have yI : IsIn y := by rw [hy0];exact hx _ (List.getElem_mem _)
   have f2 : seg cs (o + ((i : Int) - 1).toNat * 40) 40 = some (inC y) := by rw [hy0];exact seg_el (ins_len hx) hs (show i - 1 < l.length by omega) (by omega)
   replace hy0 := hy0.symm
   have yd : IsDv y.to := yI.1
   refine gR 6 rfl ?_
   refine g_ifT rfl (decide_eq_true (by omega)) ?_
   refine gR 7 rfl ?_
   refine g_ixS rfl rfl (by omega) (by omega) ?_
   refine g_leA rfl ‹_› (by with_reducible assumption) ?_
   refine g_alloc fun b4 => ?_
   refine gR 1 rfl ?_
   refine g_stA 0 rfl rfl (in_len ‹_›) (in_one _) rfl (put_all (by rw [in_len ‹_›];first | rfl | rw [in_len ‹_›])) rfl ?_
   refine gR 3 rfl ?_
   refine g_draw 19 35 rfl (by kernel_rfl) ?_
   refine fd_ldA 0 rfl rfl (in_all ‹_›) ?_
   refine fd_call rfl rfl (fun w M => rtelem_c _ ‹_› _) ?_
   refine fR 2 rfl ?_
   refine fd_split 18 rfl (fun h1 => ?_) (fun h1 => ?_)
   ·skip
    replace h1 := false_of_not h1
    refine fR 15 rfl ?_
    refine fd_done rfl rfl ?_
    refine gR 11 rfl ?_
    refine g_outR ?_
    refine gR 2 rfl ?_
    refine g_ret1 rfl rfl rfl fun w M => ?_
    exact vl_F hV hlt_i hx0.symm (by first | assumption | (unfold ins1;simp [*];done) | (unfold ins1 finD inf;simp [*])) M.ext
   ·skip
    replace h1 := true_of_not h1
    refine fR 3 rfl ?_
    refine fd_know 21 rfl (decide_eq_true (by omega)) ?_
    refine fR 2 rfl ?_
    refine fd_sub rfl rfl (w_i64 (by omega) (by omega)) ?_
    refine fd_ixS rfl rfl (by omega) (by omega) ?_
    refine fR 1 rfl ?_
    refine fd_leA rfl ‹_› (sg_seg f2 (in_to ‹_›) (by omega)) ?_
    refine fR 1 rfl ?_
    refine fd_ldA 0 rfl rfl (in_to ‹_›) ?_
    refine fd_call rfl rfl (fun w M => scompare_c _ _ ‹_› ‹_› _) ?_
    refine fR 3 rfl ?_
    refine fd_done rfl rfl ?_
    refine gR 2 rfl ?_
    refine g_if rfl (fun h2 => ?_) (fun h2 => ?_)
    ·skip
     replace h2 := of_decide_eq_true h2
     refine gR 8 rfl ?_
     refine g_outR ?_
     refine gR 2 rfl ?_
     refine g_ret1 rfl rfl rfl fun w M => ?_
     exact vl_S hV hlt_i hi0 hx0.symm hy0.symm (by unfold cmpN;omega) M.ext
    ·skip
     replace h2 := of_decide_eq_false h2
     refine gR 4 rfl ?_
     refine g_add rfl rfl (w_i64 (by omega) (by omega)) ?_
     refine gR 2 rfl ?_
     exact g_next (i + 1) ⟨by omega, vl_N hlt_i hx0.symm hv (by first | assumption | (unfold ins1;simp [*];done) | (unfold ins1 finD inf;simp [*])) fun _ => by rw [hy0];exact (by unfold cmpN;omega)⟩ (by dsimp only;omega) (fun a F => F.only [10, 9, 8, 0] rfl) (by (try dsimp only);repeat (first | exact .refl _ | with_reducible exact sC0 _ | with_reducible apply sC2 | apply sC1))
  ·refine gR 6 rfl ?_
   refine g_ifT rfl (decide_eq_true (by omega)) ?_
   refine gR 7 rfl ?_
   refine g_ixS rfl rfl (by omega) (by omega) ?_
   refine g_leA rfl ‹_› (by with_reducible assumption) ?_
   refine g_alloc fun b4 => ?_
   refine gR 1 rfl ?_
   refine g_stA 0 rfl rfl (in_len ‹_›) (in_one _) rfl (put_all (by rw [in_len ‹_›];first | rfl | rw [in_len ‹_›])) rfl ?_
   refine gR 3 rfl ?_
   refine g_draw 19 35 rfl (by kernel_rfl) ?_
   refine fd_ldA 0 rfl rfl (in_all ‹_›) ?_
   refine fd_call rfl rfl (fun w M => rtelem_c _ ‹_› _) ?_
   refine fR 2 rfl ?_
   refine fd_split 18 rfl (fun h1 => ?_) (fun h1 => ?_)
   ·skip
    replace h1 := false_of_not h1
    refine fR 15 rfl ?_
    refine fd_done rfl rfl ?_
    refine gR 11 rfl ?_
    refine g_outR ?_
    refine gR 2 rfl ?_
    refine g_ret1 rfl rfl rfl fun w M => ?_
    exact vl_F hV hlt_i hx0.symm (by first | assumption | (unfold ins1;simp [*];done) | (unfold ins1 finD inf;simp [*])) M.ext
   ·skip
    replace h1 := true_of_not h1
    refine fR 3 rfl ?_
    refine fd_know 21 rfl (decide_eq_false (by omega)) ?_
    refine fR 12 rfl ?_
    refine fd_done rfl rfl ?_
    refine gR 7 rfl ?_
    refine g_add rfl rfl (w_i64 (by omega) (by omega)) ?_
    refine gR 2 rfl ?_
    exact g_next (i + 1) ⟨by omega, vl_N hlt_i hx0.symm hv (by first | assumption | (unfold ins1;simp [*];done) | (unfold ins1 finD inf;simp [*])) fun h => absurd h hi0⟩ (by dsimp only;omega) (fun a F => F.only [10, 9, 8, 0] rfl) (by (try dsimp only);repeat (first | exact .refl _ | with_reducible exact sC0 _ | with_reducible apply sC2 | apply sC1))
 ·have hil : i = l.length := by omega
  rw [hil] at hv
  refine gR 6 rfl ?_
  refine g_ifF rfl (decide_eq_false (by omega)) ?_
  refine gR 2 rfl ?_
  refine g_outX ?_
  refine gR 8 rfl ?_
  refine g_ret1 rfl rfl rfl fun w M => ?_
  exact vl_T hV (by omega) hv M.ext
set_option maxHeartbeats 16000000 in
theorem mtvalidO_c (l : List OptV) (hx : ∀ x ∈ l, IsOp x) (v : Value) (W : World) (hS : SlAt W 2 v l.length (opsC l)) :
  Cal Tryz.prog 47 [v].toArray W fun r w' => r = .bool (validOs l) ∧ Ext [] W w' := by
 obtain ⟨q, cap, rfl, _⟩ := id hS
 have hm := hS.memB [] (by simp)
 unfold validOs
 generalize hV : vldL 16 opt1 cmpO l = b0
 refine g_start (n := 40) (S := []) fldT_ok slcT_ok Tryz.func47 rfl rfl rfl ?_
 by_cases c0 : 16 < l.length
 ·refine gR 13 rfl ?_
  refine g_ifT rfl (decide_eq_true (by omega)) ?_
  refine gR 7 rfl ?_
  refine g_ret1 rfl rfl rfl fun w M => ?_
  exact vl_L hV c0 M.ext
 refine gR 13 rfl ?_
 refine g_ifF rfl (decide_eq_false (by omega)) ?_
 refine gR 11 rfl ?_
 refine g_loop (ι := Nat) ⟨fun (i : Nat) => l.length - i, fun (i : Nat) => i ≤ l.length ∧ (∀ j, j < i → vld1 opt1 cmpO l j = true), fun (i : Nat) => [(10, .int .i64 i), (9, .int .i64 l.length), (8, .slice q l.length cap), (0, .slice q l.length cap)], fun (i : Nat) => []⟩ 0 ⟨by omega, by omega⟩ (fun a F => F.only [10, 9, 8, 0] rfl) (by repeat (first | exact .refl _ | apply sC2 | apply sC1)) ?_
 rintro i ⟨hi_i, hv⟩
 by_cases hlt_i : i < l.length
 ·obtain ⟨b, o, cs, t', fz, rfl, hb, hs⟩ := hm (by omega)
  obtain ⟨x, hx0⟩ : ∃ x, x = l[i] := ⟨_, rfl⟩
  have hxm : x ∈ l := by rw [hx0];exact List.getElem_mem hlt_i
  have hxi : IsOp x := hx _ hxm
  have f1 : seg cs (o + (i : Int).toNat * 2) 2 = some (opC x) := by rw [hx0];exact seg_el (ops_len hx) hs hlt_i (by omega)
  replace hx0 := hx0.symm
  by_cases hi0 : 0 < i
  ·obtain ⟨y, hy0⟩ : ∃ y, y = l[i - 1]'(by omega) := ⟨_, rfl⟩
   have yI : IsOp y := by rw [hy0];exact hx _ (List.getElem_mem _)
   have f2 : seg cs (o + ((i : Int) - 1).toNat * 2) 2 = some (opC y) := by rw [hy0];exact seg_el (ops_len hx) hs (show i - 1 < l.length by omega) (by omega)
   replace hy0 := hy0.symm
   refine gR 6 rfl ?_
   refine g_ifT rfl (decide_eq_true (by omega)) ?_
   refine gR 7 rfl ?_
   refine g_ixS rfl rfl (by omega) (by omega) ?_
   refine g_leA rfl ‹_› (by with_reducible assumption) ?_
   refine g_alloc fun b4 => ?_
   refine gR 1 rfl ?_
   refine g_stA 0 rfl rfl (op_len ‹_›) (op_one _) rfl (put_all (by rw [op_len ‹_›];first | rfl | rw [op_len ‹_›])) rfl ?_
   refine gR 3 rfl ?_
   refine g_draw 24 40 rfl (by kernel_rfl) ?_
   refine fR 1 rfl ?_
   refine fd_ld1 0 rfl rfl (op_nb ‹_›) ?_
   refine fR 2 rfl ?_
   refine fd_split 18 rfl (fun h1 => ?_) (fun h1 => ?_)
   ·skip
    replace h1 := of_decide_eq_true h1
    refine fR 20 rfl ?_
    refine fd_done rfl rfl ?_
    refine gR 11 rfl ?_
    refine g_outR ?_
    refine gR 2 rfl ?_
    refine g_ret1 rfl rfl rfl fun w M => ?_
    exact vl_F hV hlt_i hx0.symm (by first | assumption | (unfold opt1;simp [*];done) | (unfold opt1 finD inf;simp [*])) M.ext
   ·skip
    replace h1 := of_decide_eq_false h1
    refine fR 1 rfl ?_
    refine fd_ld1 0 rfl rfl (op_cost ‹_›) ?_
    refine fd_call rfl rfl (fun w M => mvalid_c _ _) ?_
    refine fR 3 rfl ?_
    refine fd_split 24 rfl (fun h2 => ?_) (fun h2 => ?_)
    ·skip
     replace h2 := false_of_not h2
     refine fR 14 rfl ?_
     refine fd_done rfl rfl ?_
     refine gR 11 rfl ?_
     refine g_outR ?_
     refine gR 2 rfl ?_
     refine g_ret1 rfl rfl rfl fun w M => ?_
     exact vl_F hV hlt_i hx0.symm (by first | assumption | (unfold opt1;simp [*];done) | (unfold opt1 finD inf;simp [*])) M.ext
    ·skip
     replace h2 := true_of_not h2
     refine fR 3 rfl ?_
     refine fd_know 27 rfl (decide_eq_true (by omega)) ?_
     refine fR 2 rfl ?_
     refine fd_sub rfl rfl (w_i64 (by omega) (by omega)) ?_
     refine fd_ixS rfl rfl (by omega) (by omega) ?_
     refine fR 1 rfl ?_
     refine fd_le1 rfl ‹_› (sg_nth f2 (op_nb ‹_›) (by omega)) ?_
     refine fR 1 rfl ?_
     refine fd_ld1 0 rfl rfl (op_nb ‹_›) ?_
     refine fR 3 rfl ?_
     refine fd_done rfl rfl ?_
     refine gR 2 rfl ?_
     refine g_if rfl (fun h3 => ?_) (fun h3 => ?_)
     ·skip
      replace h3 := of_decide_eq_true h3
      refine gR 8 rfl ?_
      refine g_outR ?_
      refine gR 2 rfl ?_
      refine g_ret1 rfl rfl rfl fun w M => ?_
      exact vl_S hV hlt_i hi0 hx0.symm hy0.symm (by unfold cmpO;rw [cmpI_lt];omega) M.ext
     ·skip
      replace h3 := of_decide_eq_false h3
      refine gR 4 rfl ?_
      refine g_add rfl rfl (w_i64 (by omega) (by omega)) ?_
      refine gR 2 rfl ?_
      exact g_next (i + 1) ⟨by omega, vl_N hlt_i hx0.symm hv (by first | assumption | (unfold opt1;simp [*];done) | (unfold opt1 finD inf;simp [*])) fun _ => by rw [hy0];exact (by unfold cmpO;rw [cmpI_lt];omega)⟩ (by dsimp only;omega) (fun a F => F.only [10, 9, 8, 0] rfl) (by (try dsimp only);repeat (first | exact .refl _ | with_reducible exact sC0 _ | with_reducible apply sC2 | apply sC1))
  ·refine gR 6 rfl ?_
   refine g_ifT rfl (decide_eq_true (by omega)) ?_
   refine gR 7 rfl ?_
   refine g_ixS rfl rfl (by omega) (by omega) ?_
   refine g_leA rfl ‹_› (by with_reducible assumption) ?_
   refine g_alloc fun b4 => ?_
   refine gR 1 rfl ?_
   refine g_stA 0 rfl rfl (op_len ‹_›) (op_one _) rfl (put_all (by rw [op_len ‹_›];first | rfl | rw [op_len ‹_›])) rfl ?_
   refine gR 3 rfl ?_
   refine g_draw 24 40 rfl (by kernel_rfl) ?_
   refine fR 1 rfl ?_
   refine fd_ld1 0 rfl rfl (op_nb ‹_›) ?_
   refine fR 2 rfl ?_
   refine fd_split 18 rfl (fun h1 => ?_) (fun h1 => ?_)
   ·skip
    replace h1 := of_decide_eq_true h1
    refine fR 20 rfl ?_
    refine fd_done rfl rfl ?_
    refine gR 11 rfl ?_
    refine g_outR ?_
    refine gR 2 rfl ?_
    refine g_ret1 rfl rfl rfl fun w M => ?_
    exact vl_F hV hlt_i hx0.symm (by first | assumption | (unfold opt1;simp [*];done) | (unfold opt1 finD inf;simp [*])) M.ext
   ·skip
    replace h1 := of_decide_eq_false h1
    refine fR 1 rfl ?_
    refine fd_ld1 0 rfl rfl (op_cost ‹_›) ?_
    refine fd_call rfl rfl (fun w M => mvalid_c _ _) ?_
    refine fR 3 rfl ?_
    refine fd_split 24 rfl (fun h2 => ?_) (fun h2 => ?_)
    ·skip
     replace h2 := false_of_not h2
     refine fR 14 rfl ?_
     refine fd_done rfl rfl ?_
     refine gR 11 rfl ?_
     refine g_outR ?_
     refine gR 2 rfl ?_
     refine g_ret1 rfl rfl rfl fun w M => ?_
     exact vl_F hV hlt_i hx0.symm (by first | assumption | (unfold opt1;simp [*];done) | (unfold opt1 finD inf;simp [*])) M.ext
    ·skip
     replace h2 := true_of_not h2
     refine fR 3 rfl ?_
     refine fd_know 27 rfl (decide_eq_false (by omega)) ?_
     refine fR 11 rfl ?_
     refine fd_done rfl rfl ?_
     refine gR 7 rfl ?_
     refine g_add rfl rfl (w_i64 (by omega) (by omega)) ?_
     refine gR 2 rfl ?_
     exact g_next (i + 1) ⟨by omega, vl_N hlt_i hx0.symm hv (by first | assumption | (unfold opt1;simp [*];done) | (unfold opt1 finD inf;simp [*])) fun h => absurd h hi0⟩ (by dsimp only;omega) (fun a F => F.only [10, 9, 8, 0] rfl) (by (try dsimp only);repeat (first | exact .refl _ | with_reducible exact sC0 _ | with_reducible apply sC2 | apply sC1))
 ·have hil : i = l.length := by omega
  rw [hil] at hv
  refine gR 6 rfl ?_
  refine g_ifF rfl (decide_eq_false (by omega)) ?_
  refine gR 2 rfl ?_
  refine g_outX ?_
  refine gR 8 rfl ?_
  refine g_ret1 rfl rfl rfl fun w M => ?_
  exact vl_T hV (by omega) hv M.ext
end Go.Proofs.YtilgoepokaaleaaGreat

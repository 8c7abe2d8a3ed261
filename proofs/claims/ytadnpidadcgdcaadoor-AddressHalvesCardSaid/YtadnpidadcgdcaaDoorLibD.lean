/-
  The calculus, part D: a region that draws its order. Its first n operations turn nothing that there is (they compute, read, make memory, call what does so); each may come in whatever order its edges allow; the others come behind all of them, in the order of the text.
  Each operation is told by a predicate of its value that new memory does not turn; the walk goes once, in the order of the text.
-/
import Derived.Test.YtadnpidadcgdcaaDoorLibC
import Derived.StillTail
namespace Go.Proofs.YtadnpidadcgdcaaDoor
set_option linter.unusedVariables false
set_option linter.unusedSimpArgs false
open Go.RowKit

abbrev Pred := Value → World → Prop
/-- It comes to just v. -/
def Kn (v : Value) : Pred := fun x _ => x = v
/-- What the free operations keep. -/
structure Keep where
  /-- what an operation that may come at any time keeps -/
  r : World → World → Prop
  /-- what an operation with an effect keeps -/
  e : World → World → Prop
  refl : ∀ w, r w w
  re : ∀ {a b}, r a b → e a b
  trans : ∀ {a b c}, e a b → e b c → e a c
  size : ∀ {a b : World}, e a b → a.heap.size ≤ b.heap.size
theorem Keep.erefl (K : Keep) (w : World) : K.e w w := K.re (K.refl w)
def keepAll : Keep := ⟨Ext [], Ext [], fun w => Ext.refl [] w, id, fun h h' => h.trans h', fun h => h.size⟩
/-- The blocks T may be turned by the operations with an effect. -/
def keepBut (T : List Nat) : Keep := ⟨Ext [], Ext T, fun w => Ext.refl [] w, fun h => h.any, fun h h' => h.trans h', fun h => h.size⟩
/-- What lies below n stays. -/
structure Old (n : Nat) (w w' : World) : Prop where
  os : w'.os = w.os
  tape : w'.tape = w.tape
  output : w'.output = w.output
  size : w.heap.size ≤ w'.heap.size
  block : ∀ k, k < n → k < w.heap.size → w'.heap[k]? = w.heap[k]?
theorem Old.of_ext {n : Nat} {w w' : World} (h : Ext [] w w') : Old n w w' := ⟨h.os, h.tape, h.output, h.size, fun k _ hk => h.block k hk (by simp)⟩
theorem Old.trans {n : Nat} {a b c : World} (h : Old n a b) (k : Old n b c) : Old n a c :=
  ⟨k.os.trans h.os, k.tape.trans h.tape, k.output.trans h.output, Nat.le_trans h.size k.size, fun i hi hs => (k.block i hi (Nat.lt_of_lt_of_le hs h.size)).trans (h.block i hi hs)⟩
theorem Old.ext {w w' : World} (h : Old w.heap.size w w') : Ext [] w w' := ⟨h.os, h.tape, h.output, h.size, fun k hk _ => h.block k hk hk⟩
def keepOld (n : Nat) : Keep := ⟨Ext [], Old n, fun w => Ext.refl [] w, Old.of_ext, Old.trans, fun h => h.size⟩
/-- The state that the operations with an effect hand on: of what they have answered, and of the world. -/
abbrev SPred := (Nat → Value) → World → Prop
def StaysT (K : Keep) (T : SPred) : Prop := ∀ σ w w', T σ w → K.r w w' → T σ w'
def noT : SPred := fun _ _ => True
theorem noT.stays (K : Keep) : StaysT K noT := fun _ _ _ _ _ => trivial
def updS (σ : Nat → Value) (i : Nat) (v : Value) : Nat → Value := fun k => if k = i then v else σ k
/-- an operation that makes one block and answers with a pointer to it -/
def isAl : Op → Bool
  | .alloc _ => true
  | .box _ _ => true
  | _ => false
def ptrTo (b : Nat) : Value := .pointer (some ⟨b, 0, none⟩)
def Stays (K : Keep) (V : Pred) : Prop := ∀ v w w', V v w → K.e w w' → V v w'
theorem Kn.stays (K : Keep) (v : Value) : Stays K (Kn v) := fun _ _ _ h _ => h

/-- What operation j has left. -/
def slotV (ops : Array Oper) (j : Nat) (a : Act) : Value := match (ops[j]?).bind (·.dst) with | some t => a.tmps.getD t undef | none => undef

def depsOf (o : Oper) : List Nat := (o.after.toList.filter (Region.binds .any)).map (·.on)

/-- By program: every slot that an operation looks at and that one of the first n writes is written by one that it waits for; no slot is written twice by the first n; none of them sits in a select. -/
def tmpsOf (ops : Array Oper) (o : Oper) : List Tmp := (o.op.operands.toList.filterMap fun | .tmp t => some t | _ => none) ++ (match o.guard with | some (j, _) => ((ops[j]?).bind (·.dst)).toList | none => [])
def regOk (ops : Array Oper) (n : Nat) : Bool :=
  (List.range n).all fun i => match ops[i]? with
    | none => false
    | some o =>
      (match o.op with | .select .. | .defer .. => false | _ => true) && (!isAl o.op || o.dst.isSome) && ((depsOf o).all fun d => decide (d < i)) &&
      ((tmpsOf ops o).all fun t => (List.range n).all fun j => match ops[j]? with
        | some oj => oj.dst != some t || (depsOf o).contains j || (depsOf oj).contains i
        | none => false) &&
      ((List.range n).all fun j => decide (j = i) || match ops[j]?, o.dst with
        | some oj, some t => oj.dst != some t
        | _, _ => true) &&
      (match o.guard with | some (j, _) => (depsOf o).contains j && ((ops[j]?).bind (·.dst)).isSome | none => true)
/-- By program: the operations Ef come in this order. -/
def effOk (ops : Array Oper) (n : Nat) : List Nat → Bool
  | [] => true
  | [e] => decide (e < n)
  | e :: e' :: r => decide (e < e') && decide (e < n) && (match ops[e']? with | some o => (depsOf o).contains e | none => false) && effOk ops n (e' :: r)
/-- An alloc (operation j) and the store into what it made (operation s; beyond the free part: none): what lies there ahead of the store (z) and behind it (f). -/
structure PairI where
  j : Nat
  s : Nat
  z : Obj
  f : Obj
def pairOk (ops : Array Oper) (n : Nat) (Ef : List Nat) (Pp : List PairI) : Bool :=
  (Pp.all fun q => decide (q.j < n) && (match ops[q.j]? with | some o => isAl o.op && o.guard.isNone | none => false) && (decide (n ≤ q.s) || (match ops[q.s]? with | some o => (depsOf o).contains q.j && o.guard.isNone | none => false))) &&
  (Pp.isEmpty || Ef.isEmpty) && (Pp.all fun q => Pp.all fun q' => (q.j != q'.j) || (q.s == q'.s))
def pairFree (Pp : List PairI) (i : Nat) : Bool := Pp.all fun q => q.j != i && q.s != i
def PPre (Pp : List PairI) (i : Nat) (sl : Nat → Value) (n0 : Nat) (w : World) : Prop := ∀ q ∈ Pp, q.s = i → ∃ b, sl q.j = ptrTo b ∧ n0 ≤ b ∧ w.heap[b]? = some q.z
def PPost (Pp : List PairI) (i : Nat) (sl : Nat → Value) (w w' : World) : Prop :=
  (∀ q ∈ Pp, q.j = i → w'.heap[w.heap.size]? = some q.z) ∧ (∀ q ∈ Pp, q.s = i → ∃ b, sl q.j = ptrTo b ∧ Ext [b] w w' ∧ w'.heap[b]? = some q.f) ∧ ((∀ q ∈ Pp, q.s ≠ i) → Pp ≠ [] → Ext [] w w')
theorem pairFree_spec {Pp : List PairI} {i : Nat} (h : pairFree Pp i = true) : ∀ q ∈ Pp, q.j ≠ i ∧ q.s ≠ i := fun q hq => by
  simpa using List.all_eq_true.1 h q hq
theorem PPost.flo {Pp : List PairI} {i : Nat} {sl : Nat → Value} {w w' : World} (h : pairFree Pp i = true) (hE : Pp ≠ [] → Ext [] w w') : PPost Pp i sl w w' :=
  ⟨fun q hq e => absurd e (pairFree_spec h q hq).1, fun q hq e => absurd e (pairFree_spec h q hq).2, fun _ hne => hE hne⟩
theorem ptrTo_inj {b b' : Nat} (h : ptrTo b = ptrTo b') : b = b' := by unfold ptrTo at h; injection h with h; injection h with h; injection h
/-- what the operations Ef have left -/
def slotE (Ef : List Nat) (ops : Array Oper) (a : Act) : Nat → Value := fun k => if k ∈ Ef then slotV ops k a else undef
/-- By program: operation n waits for all before it; each behind it for the one ahead. -/
def tailOk (ops : Array Oper) (n : Nat) : Bool :=
  ((List.range n).all fun i => (List.range (n + 1)).any fun j => decide (i < j) && (match ops[j]? with | some o => (depsOf o).contains i | none => decide (n = ops.size))) &&
  ((List.range ops.size).all fun t => decide (t ≤ n) || (match ops[t]? with | some o => (depsOf o).contains (t - 1) | none => false)) &&
  ((List.range ops.size).all fun t => decide (t < n) || (match ops[t]? with | some o => (depsOf o).all fun d => decide (d < t) | none => false))

section
variable {K : Keep} {Pp : List PairI} {Ef : List Nat} {Ts : Nat → SPred} {P : Program} {r : Option Nat} {ops : Array Oper} {Q : Exit → Act → World → Prop} {nt : Nat} {df : List Deferred} {w1 : World} {a1 : Act}

/-- What holds while the first n are being carried out. -/
structure Mid (K : Keep) (Pp : List PairI) (Ef : List Nat) (Ts : Nat → SPred) (ops : Array Oper) (n nt : Nat) (df : List Deferred) (a1 : Act) (w1 : World) (Vs : List Pred) (listed : Array Bool) (a : Act) (w : World) : Prop where
  lsize : listed.size = ops.size
  closed : ∀ j o, ops[j]? = some o → listed.getD j false = true → ∀ d ∈ depsOf o, listed.getD d false = true
  tail : ∀ t, n ≤ t → t < ops.size → listed.getD t true = false
  ext : K.e w1 w
  size : a.tmps.size = nt
  defers : a.defers = df
  base : ∀ t, (∀ j o, j < n → ops[j]? = some o → listed.getD j false = true → o.dst ≠ some t) → a.tmps.getD t undef = a1.tmps.getD t undef
  vals : ∀ j V, j < n → listed.getD j false = true → Vs[j]? = some V → V (slotV ops j a) w
  al : ∀ j o, j < n → ops[j]? = some o → isAl o.op = true → listed.getD j false = true → ∃ b, slotV ops j a = ptrTo b ∧ w1.heap.size ≤ b ∧ b < w.heap.size
  dist : ∀ i j oi oj, i < n → j < n → i ≠ j → ops[i]? = some oi → ops[j]? = some oj → isAl oi.op = true → isAl oj.op = true → listed.getD i false = true → listed.getD j false = true → slotV ops i a ≠ slotV ops j a
  st : ∃ p, Ts p (slotE Ef ops a) w ∧ ∀ e ∈ Ef, (listed.getD e false = true ↔ e < p)
  pr : ∀ q ∈ Pp, listed.getD q.j false = true → ∃ b, slotV ops q.j a = ptrTo b ∧ w1.heap.size ≤ b ∧ w.heap[b]? = some (if listed.getD q.s false = true then q.f else q.z)

def Good (K : Keep) (Pp : List PairI) (Ef : List Nat) (Ts : Nat → SPred) (P : Program) (r : Option Nat) (ops : Array Oper) (n nt : Nat) (df : List Deferred) (a1 : Act) (w1 : World) (Vs : List Pred) (i : Nat) (V : Pred) : Prop :=
  ∀ o, ops[i]? = some o → ∀ a w, K.e w1 w → a.tmps.size = nt → a.defers = df → (∀ t, (∀ j o, j < n → ops[j]? = some o → o.dst = some t → i ∈ depsOf o ∨ j = i) → a.tmps.getD t undef = a1.tmps.getD t undef) →
    (∀ j ∈ depsOf o, ∀ U, Vs[j]? = some U → U (slotV ops j a) w) →
    (i ∈ Ef → Ts i (slotE Ef ops a) w) → PPre Pp i (fun k => slotV ops k a) w1.heap.size w →
    if Region.wanted o (yielded ops a.tmps) then OpTo P o a.eval w fun v w' => K.e w w' ∧ V (if o.dst.isSome then v else undef) w' ∧ (isAl o.op = true → v = ptrTo w.heap.size ∧ w.heap.size < w'.heap.size) ∧ (i ∉ Ef → (∀ q ∈ Pp, q.s ≠ i) → K.r w w') ∧ (i ∈ Ef → Ts (i + 1) (updS (slotE Ef ops a) i (if o.dst.isSome then v else undef)) w') ∧ PPost Pp i (fun k => slotV ops k a) w w'
    else V undef w ∧ isAl o.op = false ∧ (i ∈ Ef → Ts (i + 1) (updS (slotE Ef ops a) i undef) w)

theorem getD_same {listed : Array Bool} {i : Nat} (hi : i < listed.size) : (listed.setIfInBounds i true).getD i false = true := by
  simp [hi]
theorem getD_tt {listed : Array Bool} {i : Nat} (hi : i < listed.size) (h : ¬ listed.getD i false = true) : listed.getD i true = false := by
  simp [hi] at h ⊢; exact h

theorem put_getD {a : Act} {d : Option Tmp} {v : Value} {t : Nat} (h : d ≠ some t) : (a.put d v).tmps.getD t undef = a.tmps.getD t undef := by
  cases d with
  | none => rfl
  | some x =>
    have : x ≠ t := fun e => h (by rw [e])
    simp [Act.put, Array.getElem?_setIfInBounds, this]

theorem effOk_lt {n : Nat} : ∀ {l : List Nat}, effOk ops n l = true → ∀ e ∈ l, e < n
  | [], _, e, he => by cases he
  | [x], h, e, he => by simp [effOk] at h; simp at he; omega
  | x :: y :: r, h, e, he => by
    simp only [effOk, Bool.and_eq_true, decide_eq_true_eq] at h
    rcases List.mem_cons.1 he with rfl | he
    · exact h.1.1.2
    · exact effOk_lt h.2 e he
/-- all of Ef before e are waited for -/
theorem effOk_head {n : Nat} : ∀ {x : Nat} {l : List Nat}, effOk ops n (x :: l) = true → ∀ e ∈ l, x < e
  | x, [], _, e, he => by cases he
  | x, y :: r, h, e, he => by
    simp only [effOk, Bool.and_eq_true, decide_eq_true_eq] at h
    rcases List.mem_cons.1 he with rfl | he
    · exact h.1.1.1
    · have := effOk_head h.2 e he; omega
theorem effOk_listed {n : Nat} {listed : Array Bool} (hc : ∀ j o, ops[j]? = some o → listed.getD j false = true → ∀ d ∈ depsOf o, listed.getD d false = true) : ∀ {l : List Nat}, effOk ops n l = true → ∀ i o, i ∈ l → ops[i]? = some o → (∀ d ∈ depsOf o, listed.getD d false = true) → ∀ e ∈ l, e < i → listed.getD e false = true
  | [], _, i, o, hi, _, _, e, he, _ => by cases he
  | [x], _, i, o, hi, _, _, e, he, hlt => by simp at hi he; omega
  | x :: y :: r, h, i, o, hi, ho, hd, e, he, hlt => by
    have hall := effOk_head h
    simp only [effOk, Bool.and_eq_true, decide_eq_true_eq] at h
    have hi' : i ∈ y :: r := by
      rcases List.mem_cons.1 hi with rfl | hi
      · rcases List.mem_cons.1 he with rfl | he
        · omega
        · have := hall e he; omega
      · exact hi
    rcases List.mem_cons.1 he with rfl | he
    · -- e is the head: y waits for it
      have hy : ∀ oy, ops[y]? = some oy → e ∈ depsOf oy := fun oy hoy => by
        have := h.1.2
        rw [hoy] at this
        simpa using this
      by_cases ey : y = i
      · subst ey
        exact hd e (hy o ho)
      · have hyi : y < i := by
          rcases List.mem_cons.1 hi' with rfl | hi''
          · exact absurd rfl ey
          · exact effOk_head h.2 i hi''
        have hly := effOk_listed hc h.2 i o hi' ho hd y (by simp) hyi
        cases hoy : ops[y]? with
        | none => rw [hoy] at h; exact absurd h.1.2 (by simp)
        | some oy => exact hc y oy hoy hly e (hy oy hoy)
    · exact effOk_listed hc h.2 i o hi' ho hd e he hlt
/-- Between two operations with an effect the state stays. -/
theorem Ts_between (hT : ∀ k, k ∉ Ef → Ts (k + 1) = Ts k) : ∀ (m p : Nat), (∀ e ∈ Ef, p ≤ e → p + m ≤ e) → Ts (p + m) = Ts p
  | 0, _, _ => rfl
  | m + 1, p, h => by
    have h1 : p + m ∉ Ef := fun hm => by have := h _ hm (by omega); omega
    rw [show p + (m + 1) = (p + m) + 1 by omega, hT _ h1]
    exact Ts_between hT m p fun e he hp => by have := h e he hp; omega

theorem Mid.step {n : Nat} {Vs : List Pred} {listed : Array Bool} {a : Act} {w w' : World} {i : Nat} {o : Oper} {V : Pred} {v : Value} (hok : regOk ops n = true) (hs : ∀ V ∈ Vs, Stays K V) (hef : effOk ops n Ef = true) (hTs : ∀ k, StaysT K (Ts k)) (hTc : ∀ k, k ∉ Ef → Ts (k + 1) = Ts k) (hpo : pairOk ops n Ef Pp = true) (M : Mid K Pp Ef Ts ops n nt df a1 w1 Vs listed a w) (hpp : PPost Pp i (fun k => slotV ops k a) w w')
    (hun : listed.getD i false = false) (hTn : Pp ≠ [] → ∀ k σ w, Ts k σ w) (hx : (i ∉ Ef → (∀ q ∈ Pp, q.s ≠ i) → K.r w w') ∧ (i ∈ Ef → Ts (i + 1) (updS (slotE Ef ops a) i (if o.dst.isSome then v else undef)) w'))
    (hi : i < n) (ho : ops[i]? = some o) (hdeps : ∀ d ∈ depsOf o, listed.getD d false = true) (hV : Vs[i]? = some V) (he : K.e w w') (hv : V (if o.dst.isSome then v else undef) w') (hlt : ∀ d, o.dst = some d → d < nt) (hal : isAl o.op = true → v = ptrTo w.heap.size ∧ w.heap.size < w'.heap.size) :
    Mid K Pp Ef Ts ops n nt df a1 w1 Vs (listed.setIfInBounds i true) (a.put o.dst v) w' := by
  have hio : i < ops.size := (Array.getElem?_eq_some_iff.1 ho).1
  have hreg := List.all_eq_true.1 hok i (List.mem_range.2 hi)
  rw [ho] at hreg
  simp only [Bool.and_eq_true] at hreg
  obtain ⟨⟨⟨⟨⟨_, hals⟩, _⟩, _⟩, hdst⟩, _⟩ := hreg
  have hsame : slotV ops i (a.put o.dst v) = if o.dst.isSome then v else undef := by
    unfold slotV
    rw [ho]
    cases hd : o.dst with
    | none => simp [hd]
    | some d =>
      have := hlt d hd
      have hda : d < a.tmps.size := by rw [M.size]; exact this
      simp [hd, Act.put, Array.getElem?_setIfInBounds, hda]
  have hother : ∀ j, j < n → i ≠ j → slotV ops j (a.put o.dst v) = slotV ops j a := by
    intro j hj e
    unfold slotV
    cases hd : (ops[j]?).bind (·.dst) with
    | none => rfl
    | some t =>
      simp only
      refine put_getD fun hc => ?_
      have := List.all_eq_true.1 hdst j (List.mem_range.2 hj)
      rw [hc] at this
      cases hoj : ops[j]? with
      | none => rw [hoj] at hd; cases hd
      | some oj =>
        rw [hoj] at hd this
        simp only [Option.bind_some] at hd
        have hji : ¬ j = i := fun h => e h.symm
        simp [hji, hd] at this
  have halv : isAl o.op = true → slotV ops i (a.put o.dst v) = ptrTo w.heap.size ∧ w.heap.size < w'.heap.size := by
    intro ha
    have hs : o.dst.isSome = true := by simpa [ha] using hals
    rw [hsame, hs]
    simpa using hal ha
  have hslotE : slotE Ef ops (a.put o.dst v) = if i ∈ Ef then updS (slotE Ef ops a) i (if o.dst.isSome then v else undef) else slotE Ef ops a := by
    funext k
    by_cases hiE : i ∈ Ef
    · rw [if_pos hiE]
      unfold updS
      by_cases ek : k = i
      · subst ek
        simp only [if_true, slotE, hiE]
        exact hsame
      · simp only [if_neg ek, slotE]
        split
        · rename_i hk
          exact hother k (effOk_lt hef k hk) (fun h => ek h.symm)
        · rfl
    · rw [if_neg hiE]
      simp only [slotE]
      split
      · rename_i hk
        exact hother k (effOk_lt hef k hk) (fun h => hiE (h ▸ hk))
      · rfl
  simp only [pairOk, Bool.and_eq_true] at hpo
  have hpq : ∀ q ∈ Pp, q.j < n ∧ (∃ o, ops[q.j]? = some o ∧ isAl o.op = true) ∧ (q.s < n → ∃ o, ops[q.s]? = some o ∧ q.j ∈ depsOf o) := by
    intro q hq
    have h := List.all_eq_true.1 hpo.1.1 q hq
    simp only [Bool.and_eq_true, decide_eq_true_eq, Bool.or_eq_true] at h
    refine ⟨h.1.1, ?_, fun hs => ?_⟩
    · cases ho' : ops[q.j]? with
      | none => rw [ho'] at h; exact absurd h.1.2 (by simp)
      | some o' => rw [ho'] at h; simp only [Bool.and_eq_true] at h; exact ⟨o', rfl, h.1.2.1⟩
    · have h2 := h.2.resolve_left (by omega)
      cases ho' : ops[q.s]? with
      | none => rw [ho'] at h2; exact absurd h2 (by simp)
      | some o' => rw [ho'] at h2; simp only [Bool.and_eq_true] at h2; exact ⟨o', rfl, by simpa using h2.1⟩
  have hsn : ∀ q ∈ Pp, n ≤ q.s → listed.getD q.s false = false := by
    intro q hq hs
    rcases Nat.lt_or_ge q.s ops.size with h | h
    · have := M.tail q.s hs h
      have hl : q.s < listed.size := by rw [M.lsize]; exact h
      simp [hl] at this ⊢; exact this
    · have hl : listed.size ≤ q.s := by rw [M.lsize]; exact h
      simp [hl]
  refine ⟨by simp [M.lsize], ?_, ?_, K.trans M.ext he, ?_, ?_, ?_, ?_, ?_, ?_, ?_, ?_⟩
  · intro j oj hj hl d hd
    by_cases e : i = j
    · subst e
      obtain rfl : o = oj := Option.some.inj (ho.symm.trans hj)
      exact getD_set_true (hdeps d hd)
    · rw [getD_set_ne false e] at hl
      exact getD_set_true (M.closed j oj hj hl d hd)
  · intro t ht hts
    rw [getD_set_ne true (by omega)]
    exact M.tail t ht hts
  · cases o.dst <;> simp [Act.put, M.size]
  · cases o.dst <;> simp [Act.put, M.defers]
  · intro t ht
    rw [put_getD (ht i o hi ho (getD_same (by rw [M.lsize]; exact hio)))]
    exact M.base t fun j oj hj hoj hl => ht j oj hj hoj (getD_set_true hl)
  · intro j U hj hl hU
    by_cases e : i = j
    · subst e
      obtain rfl : V = U := Option.some.inj (hV.symm.trans hU)
      rw [hsame]
      exact hv
    · rw [getD_set_ne false e] at hl
      have h0 := M.vals j U hj hl hU
      rw [hother j hj e]
      exact hs U (List.mem_of_getElem? hU) _ _ _ h0 he
  · intro j oj hj hoj ha hl
    by_cases e : i = j
    · subst e
      obtain rfl : o = oj := Option.some.inj (ho.symm.trans hoj)
      obtain ⟨h1, h2⟩ := halv ha
      exact ⟨_, h1, K.size M.ext, h2⟩
    · rw [getD_set_ne false e] at hl
      obtain ⟨b, h1, h2, h3⟩ := M.al j oj hj hoj ha hl
      exact ⟨b, by rw [hother j hj e, h1], h2, Nat.lt_of_lt_of_le h3 (K.size he)⟩
  · intro x y ox oy hx hy hne hox hoy hax hay hlx hly
    by_cases ex : i = x
    · subst ex
      obtain rfl : o = ox := Option.some.inj (ho.symm.trans hox)
      have ey : i ≠ y := hne
      rw [getD_set_ne false ey] at hly
      obtain ⟨b, h1, h2, h3⟩ := M.al y oy hy hoy hay hly
      rw [(halv hax).1, hother y hy ey, h1]
      intro hc
      have he : w.heap.size = b := by unfold ptrTo at hc; injection hc with hc; injection hc with hc; injection hc
      omega
    · rw [getD_set_ne false ex] at hlx
      by_cases ey : i = y
      · subst ey
        obtain rfl : o = oy := Option.some.inj (ho.symm.trans hoy)
        obtain ⟨b, h1, h2, h3⟩ := M.al x ox hx hox hax hlx
        rw [(halv hay).1, hother x hx ex, h1]
        intro hc
        have he : b = w.heap.size := by unfold ptrTo at hc; injection hc with hc; injection hc with hc; injection hc
        omega
      · rw [getD_set_ne false ey] at hly
        rw [hother x hx ex, hother y hy ey]
        exact M.dist x y ox oy hx hy hne hox hoy hax hay hlx hly
  · obtain ⟨p, hp, hpl⟩ := M.st
    rw [hslotE]
    by_cases hiE : i ∈ Ef
    · rw [if_pos hiE]
      refine ⟨i + 1, hx.2 hiE, fun e heE => ?_⟩
      have hbefore := effOk_listed M.closed hef i o hiE ho hdeps
      have hip : ¬ i < p := fun h => by have := (hpl i hiE).2 h; rw [hun] at this; cases this
      by_cases e1 : i = e
      · subst e1
        exact ⟨fun _ => by omega, fun _ => getD_same (by rw [M.lsize]; exact hio)⟩
      · rw [getD_set_ne false e1]
        constructor
        · intro hl
          have := (hpl e heE).1 hl
          omega
        · intro hl
          exact hbefore e heE (by omega)
    · rw [if_neg hiE]
      have hTp : Ts p (slotE Ef ops a) w' := by
        by_cases hne : Pp = []
        · exact hTs p _ _ _ hp (hx.1 hiE (by rw [hne]; simp))
        · exact hTn hne p _ _
      refine ⟨p, hTp, fun e heE => ?_⟩
      rw [getD_set_ne false (fun h : i = e => hiE (by rw [h]; exact heE))]
      exact hpl e heE
  · intro q hq hl
    obtain ⟨hqj, ⟨oj, hoj, haj⟩, hqs⟩ := hpq q hq
    by_cases ej : i = q.j
    · -- the alloc itself
      have hL : (listed.setIfInBounds i true).getD q.s false = false := by
        rcases Nat.lt_or_ge q.s n with hs | hs
        · obtain ⟨os, hos, hd⟩ := hqs hs
          have hne : i ≠ q.s := by
            intro e
            have hr := List.all_eq_true.1 hok q.s (List.mem_range.2 hs)
            rw [hos] at hr
            simp only [Bool.and_eq_true] at hr
            have := List.all_eq_true.1 hr.1.1.1.2 q.j hd
            simp at this
            omega
          rw [getD_set_ne false hne]
          cases hls : listed.getD q.s false with
          | false => rfl
          | true =>
            have := M.closed q.s os hos hls q.j hd
            rw [← ej, hun] at this; cases this
        · rw [getD_set_ne false (by omega)]
          exact hsn q hq hs
      obtain rfl : o = oj := Option.some.inj (ho.symm.trans (by rw [ej]; exact hoj))
      obtain ⟨h1, h2⟩ := halv haj
      refine ⟨w.heap.size, by rw [← ej]; exact h1, K.size M.ext, ?_⟩
      rw [hL]
      simpa using hpp.1 q hq ej.symm
    · rw [getD_set_ne false ej] at hl
      obtain ⟨b, hb1, hb2, hb3⟩ := M.pr q hq hl
      refine ⟨b, by rw [hother q.j hqj ej]; exact hb1, hb2, ?_⟩
      by_cases es : i = q.s
      · obtain ⟨b', g1, g2, g3⟩ := hpp.2.1 q hq es.symm
        have hbb : b = b' := ptrTo_inj (hb1.symm.trans g1)
        subst hbb
        rw [show (listed.setIfInBounds i true).getD q.s false = true by rw [← es]; exact getD_same (by rw [M.lsize]; exact hio)]
        simpa using g3
      · rw [getD_set_ne false es]
        rw [← hb3]
        by_cases hex : ∃ q2 ∈ Pp, q2.s = i
        · obtain ⟨q2, hq2, e2⟩ := hex
          obtain ⟨b2, g1, g2, g3⟩ := hpp.2.1 q2 hq2 e2
          obtain ⟨hq2j, ⟨oj2, hoj2, haj2⟩, hq2s⟩ := hpq q2 hq2
          have hl2 : listed.getD q2.j false = true := by
            obtain ⟨os, hos, hd⟩ := hq2s (by omega)
            obtain rfl : o = os := Option.some.inj (ho.symm.trans (by rw [← e2]; exact hos))
            exact hdeps _ hd
          have hjj : q.j ≠ q2.j := by
            intro e
            have := List.all_eq_true.1 (List.all_eq_true.1 hpo.2 q hq) q2 hq2
            simp [e] at this
            omega
          have hne : slotV ops q.j a ≠ slotV ops q2.j a := M.dist q.j q2.j oj oj2 hqj hq2j hjj hoj hoj2 haj haj2 hl hl2
          have hbne : b ∉ [b2] := by
            simp only [List.mem_singleton]
            intro e
            apply hne
            have g1' : slotV ops q2.j a = ptrTo b2 := g1
            rw [hb1, g1', e]
          exact g2.block b (Array.getElem?_eq_some_iff.1 hb3).1 hbne
        · have hE := hpp.2.2 (fun q2 hq2 e2 => hex ⟨q2, hq2, e2⟩) (fun h => by rw [h] at hq; cases hq)
          exact hE.block b (Array.getElem?_eq_some_iff.1 hb3).1 (by simp)
/-- what is known of a pair, where its store may come -/
theorem Mid.pre {n : Nat} {Vs : List Pred} {listed : Array Bool} {a : Act} {w : World} {i : Nat} {o : Oper} (hpo : pairOk ops n Ef Pp = true) (M : Mid K Pp Ef Ts ops n nt df a1 w1 Vs listed a w) (hi : i < n) (ho : ops[i]? = some o)
    (hun : listed.getD i false = false) (hdeps : ∀ d ∈ depsOf o, listed.getD d false = true) : PPre Pp i (fun k => slotV ops k a) w1.heap.size w := by
  intro q hq e
  simp only [pairOk, Bool.and_eq_true] at hpo
  have h := List.all_eq_true.1 hpo.1.1 q hq
  simp only [Bool.and_eq_true, decide_eq_true_eq, Bool.or_eq_true] at h
  have h2 := h.2.resolve_left (by omega)
  rw [e, ho] at h2
  simp only [Bool.and_eq_true] at h2
  obtain ⟨b, h3, h4, h5⟩ := M.pr q hq (hdeps q.j (by simpa using h2.1))
  rw [e, hun] at h5
  exact ⟨b, h3, h4, by simpa using h5⟩
/-- the state, where operation i may come -/
theorem Mid.state {n : Nat} {Vs : List Pred} {listed : Array Bool} {a : Act} {w : World} {i : Nat} {o : Oper} (hef : effOk ops n Ef = true) (hTc : ∀ k, k ∉ Ef → Ts (k + 1) = Ts k) (M : Mid K Pp Ef Ts ops n nt df a1 w1 Vs listed a w)
    (hun : listed.getD i false = false) (ho : ops[i]? = some o) (hdeps : ∀ d ∈ depsOf o, listed.getD d false = true) (hiE : i ∈ Ef) : Ts i (slotE Ef ops a) w := by
  obtain ⟨p, hp, hpl⟩ := M.st
  have hbefore := effOk_listed M.closed hef i o hiE ho hdeps
  have hip : ¬ i < p := fun h => by have := (hpl i hiE).2 h; rw [hun] at this; cases this
  have := Ts_between hTc (i - p) p fun e he hpe => by
    rcases Nat.lt_or_ge e i with h | h
    · have := (hpl e he).1 (hbefore e he h); omega
    · omega
  rw [show p + (i - p) = i by omega] at this
  rw [this]; exact hp
/-- the state behind all -/
theorem Mid.last {n : Nat} {Vs : List Pred} {listed : Array Bool} {a : Act} {w : World} (hef : effOk ops n Ef = true) (hTc : ∀ k, k ∉ Ef → Ts (k + 1) = Ts k) (M : Mid K Pp Ef Ts ops n nt df a1 w1 Vs listed a w) (hall : ∀ i, i < n → listed.getD i false = true) : ∃ m, n ≤ m ∧ Ts m (slotE Ef ops a) w ∧ Ts m = Ts n := by
  obtain ⟨p, hp, hpl⟩ := M.st
  rcases Nat.lt_or_ge p n with h | h
  · have := Ts_between hTc (n - p) p fun e he hpe => by
      have h1 := (hpl e he).1 (hall e (effOk_lt hef e he)); omega
    rw [show p + (n - p) = n by omega] at this
    exact ⟨n, Nat.le_refl _, by rw [this]; exact hp, rfl⟩
  · have := Ts_between hTc (p - n) n fun e he hpe => by
      have h1 := effOk_lt hef e he; omega
    rw [show n + (p - n) = p by omega] at this
    exact ⟨p, h, hp, this⟩

theorem filter_one {p q : Nat → Bool} {i : Nat} : ∀ {L : List Nat}, L.Nodup → i ∈ L → p i = true → q i = false → (∀ j, j ≠ i → p j = q j) → (L.filter p).length = (L.filter q).length + 1
  | [], _, h, _, _, _ => by cases h
  | x :: L, hnd, h, hp, hq, hpq => by
    have hnd' := List.nodup_cons.1 hnd
    by_cases e : x = i
    · subst e
      have : L.filter p = L.filter q := List.filter_congr fun j hj => hpq j (fun h => hnd'.1 (h ▸ hj))
      simp [hp, hq, this]
    · have hm : i ∈ L := (List.mem_cons.1 h).resolve_left (fun h => e h.symm)
      have ih := filter_one hnd'.2 hm hp hq hpq
      have hx := hpq x e
      cases hqx : q x
      · rw [hqx] at hx; simp [hx, hqx, ih]
      · rw [hqx] at hx; simp [hx, hqx, ih]

theorem wanted_some {o : Oper} {a : Act} {v : Bool} (h : Region.wanted o (yielded ops a.tmps) = v) : Region.wanted o (yielded ops a.tmps) = v := h

theorem wpAny_mid {n : Nat} {Vs : List Pred} (hok : regOk ops n = true) (htl : tailOk ops n = true) (hn : n ≤ ops.size) (hlen : Vs.length = n) (hs : ∀ V ∈ Vs, Stays K V) (hef : effOk ops n Ef = true) (hTs : ∀ k, StaysT K (Ts k)) (hTc : ∀ k, k ∉ Ef → Ts (k + 1) = Ts k) (hpo : pairOk ops n Ef Pp = true) (hTn : Pp ≠ [] → ∀ k σ w, Ts k σ w) (hdst : ∀ i o d, i < n → ops[i]? = some o → o.dst = some d → d < nt)
    (hgood : ∀ i V, Vs[i]? = some V → Good K Pp Ef Ts P r ops n nt df a1 w1 Vs i V)
    (htail : ∀ listed a w, Mid K Pp Ef Ts ops n nt df a1 w1 Vs listed a w → (∀ i, i < n → listed.getD i false = true) → ∀ fuel, ops.size - n ≤ fuel → wpAnyIn (FW r) 0 P .any ops Q fuel listed a w) :
    ∀ (k fuel : Nat) (listed : Array Bool) (a : Act) (w : World), ((List.range n).filter fun i => !listed.getD i false).length = k → k + (ops.size - n) ≤ fuel → Mid K Pp Ef Ts ops n nt df a1 w1 Vs listed a w → wpAnyIn (FW r) 0 P .any ops Q fuel listed a w := by
  intro k
  induction k with
  | zero =>
    intro fuel listed a w hk hf M
    refine htail listed a w M (fun i hi => ?_) fuel (by omega)
    have h0 : ((List.range n).filter fun i => !listed.getD i false) = [] := List.length_eq_zero_iff.1 hk
    have := List.filter_eq_nil_iff.1 h0 i (List.mem_range.2 hi)
    simpa using this
  | succ k ih =>
    intro fuel listed a w hk hf M
    obtain ⟨fuel, rfl⟩ : ∃ f, fuel = f + 1 := ⟨fuel - 1, by omega⟩
    -- the least one that is not listed is ready
    have hex : ∃ i, i < n ∧ ¬ listed.getD i false = true := by
      have hne : ((List.range n).filter fun i => !listed.getD i false) ≠ [] := by intro h; rw [h] at hk; cases hk
      obtain ⟨i, hi⟩ := List.exists_mem_of_ne_nil _ hne
      have := List.mem_filter.1 hi
      exact ⟨i, List.mem_range.1 this.1, by simpa using this.2⟩
    -- a tail operation is not ready
    have hno : ∀ t, t ∈ Region.ready .any ops listed → t < n := by
      intro t ht
      rcases Nat.lt_or_ge t n with h | h
      · exact h
      · exfalso
        obtain ⟨hun, ot, hot, hall⟩ := mem_ready.1 ht
        have hts : t < ops.size := (Array.getElem?_eq_some_iff.1 hot).1
        have hall' : ∀ d ∈ depsOf ot, listed.getD d false = true := by
          intro d hd
          obtain ⟨e, he, rfl⟩ := List.mem_map.1 hd
          have := List.mem_filter.1 he
          exact hall e (by simpa using this.1) this.2
        simp only [tailOk, Bool.and_eq_true] at htl
        rcases Nat.lt_or_ge n t with h' | h'
        · have := List.all_eq_true.1 htl.1.2 t (List.mem_range.2 hts)
          rw [hot] at this
          have hnt : ¬ t ≤ n := by omega
          simp [hnt] at this
          have h1 := hall' _ this
          have h2 := M.tail (t - 1) (by omega) (by omega)
          have hsz : t - 1 < listed.size := by rw [M.lsize]; omega
          simp [hsz] at h1 h2
          rw [h1] at h2; cases h2
        · have htn : n = t := by omega
          subst htn
          -- all before n are listed, downward
          have key : ∀ m i, n - i = m → i < n → listed.getD i false = true := by
            intro m
            induction m using Nat.strongRecOn with
            | _ m ihm =>
              intro i him hi
              have := List.all_eq_true.1 htl.1.1 i (List.mem_range.2 hi)
              obtain ⟨j, hj, hj2⟩ := List.any_eq_true.1 this
              simp only [Bool.and_eq_true, decide_eq_true_eq] at hj2
              have hjn : j ≤ n := by have := List.mem_range.1 hj; omega
              cases hoj : ops[j]? with
              | none =>
                have hge : ops.size ≤ j := by
                  rcases Nat.lt_or_ge j ops.size with h | h
                  · rw [Array.getElem?_eq_getElem h] at hoj; cases hoj
                  · exact h
                omega
              | some oj =>
                rw [hoj] at hj2
                have hc : i ∈ depsOf oj := by simpa using hj2.2
                rcases Nat.lt_or_ge j n with hjl | hjg
                · exact M.closed j oj hoj (ihm (n - j) (by omega) j rfl hjl) i hc
                · have hjn' : n = j := by omega
                  subst hjn'
                  obtain rfl : oj = ot := Option.some.inj (hoj.symm.trans hot)
                  exact hall' i hc
          obtain ⟨i, hi, hun'⟩ := hex
          exact hun' (key _ i rfl hi)
    refine ⟨fun hnil => ?_, fun i hi => ?_⟩
    · -- something is ready: the least that is not listed
      exfalso
      obtain ⟨i0, hi0, hu0⟩ := hex
      have : ∃ i, i < n ∧ ¬ listed.getD i false = true ∧ ∀ j, j < i → listed.getD j false = true := by
        induction i0 using Nat.strongRecOn with
        | _ i0 ihi =>
          by_cases h : ∃ j, j < i0 ∧ ¬ listed.getD j false = true
          · obtain ⟨j, hj, hju⟩ := h
            exact ihi j hj (by omega) hju
          · exact ⟨i0, hi0, hu0, fun j hj => Classical.byContradiction fun hc => h ⟨j, hj, hc⟩⟩
      obtain ⟨i, hi, hu, hall⟩ := this
      have hio : i < ops.size := by omega
      have hreg := List.all_eq_true.1 hok i (List.mem_range.2 hi)
      rw [Array.getElem?_eq_getElem hio] at hreg
      simp only [Bool.and_eq_true] at hreg
      obtain ⟨⟨⟨⟨⟨_, _⟩, hback⟩, _⟩, _⟩, _⟩ := hreg
      have hready : i ∈ Region.ready .any ops listed := by
        refine mem_ready.2 ⟨getD_tt (by rw [M.lsize]; exact hio) hu, _, Array.getElem?_eq_getElem hio, fun e he hb => hall _ ?_⟩
        have : e.on ∈ depsOf ops[i] := List.mem_map.2 ⟨e, List.mem_filter.2 ⟨by simpa using he, hb⟩, rfl⟩
        simpa using List.all_eq_true.1 hback _ this
      rw [hnil] at hready
      cases hready
    · have hin := hno i hi
      obtain ⟨hun, o, ho, hall⟩ := mem_ready.1 hi
      have hall' : ∀ d ∈ depsOf o, listed.getD d false = true := by
        intro d hd
        obtain ⟨e, he, rfl⟩ := List.mem_map.1 hd
        have := List.mem_filter.1 he
        exact hall e (by simpa using this.1) this.2
      have hVi : ∃ V, Vs[i]? = some V := ⟨Vs[i]'(by omega), List.getElem?_eq_getElem (by omega)⟩
      obtain ⟨V, hV⟩ := hVi
      have hreg := List.all_eq_true.1 hok i (List.mem_range.2 hin)
      rw [ho] at hreg
      simp only [Bool.and_eq_true] at hreg
      obtain ⟨⟨⟨⟨⟨hsel, _⟩, _⟩, _⟩, _⟩, _⟩ := hreg
      have hp : plainOp o.op = true := by
        cases hop : o.op <;> first | rfl | (rw [hop] at hsel; cases hsel)
      have hcount : ((List.range n).filter fun j => !(listed.setIfInBounds i true).getD j false).length = k := by
        have hisz : i < listed.size := by rw [M.lsize]; omega
        have := filter_one (p := fun j => !listed.getD j false) (q := fun j => !(listed.setIfInBounds i true).getD j false) (List.nodup_range (n := n)) (List.mem_range.2 hin) (by simp [hisz] at hun ⊢; exact hun) (by simp [hisz]) (fun j hj => by
          show (!listed.getD j false) = !(listed.setIfInBounds i true).getD j false
          rw [getD_set_ne false (fun e => hj e.symm)])
        omega
      have hunF : listed.getD i false = false := by
        have hisz : i < listed.size := by rw [M.lsize]; omega
        simp [hisz] at hun ⊢; exact hun
      have hg := hgood i V hV o ho a w M.ext M.size M.defers (fun t ht => M.base t fun j oj hj hoj hl hd => by
        rcases ht j oj hj hoj hd with h1 | h1
        · have := M.closed j oj hoj hl i h1
          rw [hunF] at this; cases this
        · rw [h1, hunF] at hl; cases hl) (fun j hj U hU => by
        rcases Nat.lt_or_ge j n with hjn | hjn
        · exact M.vals j U hjn (hall' j hj) hU
        · rw [List.getElem?_eq_none (by omega)] at hU; cases hU) (fun hiE => M.state hef hTc hunF ho hall' hiE) (M.pre hpo hin ho hunF hall')
      unfold wpOpIn
      simp only [ho]
      split
      · rename_i hw
        rw [if_pos hw] at hg
        exact opTo_wpIn hp (hg.mono fun v w' ⟨he, hv, hal, hx1, hx2, hpp⟩ => ih fuel _ _ _ hcount (by omega) (M.step hok hs hef hTs hTc hpo hpp hunF hTn ⟨hx1, hx2⟩ hin ho hall' hV he hv (fun d hd => hdst i o d hin ho hd) hal))
      · rename_i hw
        rw [if_neg hw] at hg
        have hppN : PPost Pp i (fun k => slotV ops k a) w w := by
          have hpo' := hpo
          simp only [pairOk, Bool.and_eq_true] at hpo'
          have hgn : ∀ g : Option (Nat × Bool), o.guard = g → g.isNone = true → False := fun g hg hn => by
            cases g with
            | none => exact hw (by unfold Region.wanted; rw [hg])
            | some _ => cases hn
          refine ⟨fun q hq e => ?_, fun q hq e => ?_, fun _ _ => Ext.refl _ _⟩
          · have h := List.all_eq_true.1 hpo'.1.1 q hq
            simp only [Bool.and_eq_true] at h
            rw [e, ho] at h
            simp only [Bool.and_eq_true] at h
            exact (hgn _ rfl h.1.2.2).elim
          · have h := List.all_eq_true.1 hpo'.1.1 q hq
            simp only [Bool.and_eq_true, Bool.or_eq_true, decide_eq_true_eq] at h
            have h2 := h.2.resolve_left (by omega)
            rw [e, ho] at h2
            simp only [Bool.and_eq_true] at h2
            exact (hgn _ rfl h2.2).elim
        have hx : ∀ b : Bool, (if b = true then undef else undef) = (undef : Value) := fun b => by cases b <;> rfl
        refine ⟨fun _ _ => trivial, ih fuel _ _ _ hcount (by omega) (M.step hok hs hef hTs hTc hpo hppN hunF hTn ⟨fun _ _ => K.refl _, fun hiE => by rw [hx]; exact hg.2.2 hiE⟩ hin ho hall' hV (K.erefl _) ?_ (fun d hd => hdst i o d hin ho hd) (fun h => by rw [hg.2.1] at h; cases h))⟩
        rw [hx]; exact hg.1

theorem tail_seq {n : Nat} (htl : tailOk ops n = true) : ∀ (m fuel k : Nat) (listed : Array Bool) (a : Act) (w : World), ops.size - k = m → m ≤ fuel → n ≤ k → k ≤ ops.size → listed.size = ops.size →
    (∀ i, i < k → listed.getD i false = true) → (∀ i, k ≤ i → i < ops.size → listed.getD i true = false) →
    wpListIn (FW r) 0 P ops Q (ops.toList.drop k) a w → wpAnyIn (FW r) 0 P .any ops Q fuel listed a w := by
  simp only [tailOk, Bool.and_eq_true] at htl
  intro m
  induction m with
  | zero =>
    intro fuel k listed a w hm hf hnk hk hsz hd hu h
    have hke : k = ops.size := by omega
    have hr : Region.ready .any ops listed = [] := by
      cases hr : Region.ready .any ops listed with
      | nil => rfl
      | cons i is =>
        have hi : i ∈ Region.ready .any ops listed := by rw [hr]; simp
        obtain ⟨hun, o, ho, _⟩ := mem_ready.1 hi
        have his : i < ops.size := (Array.getElem?_eq_some_iff.1 ho).1
        have := hd i (by omega)
        have hl : i < listed.size := by omega
        simp [hl] at this hun
        rw [this] at hun; cases hun
    have hq : Q .normal a w := by
      have hnil : ops.toList.drop k = [] := List.drop_eq_nil_of_le (by simp; omega)
      rw [hnil] at h
      exact h
    cases fuel with
    | zero => exact ⟨hr, hq⟩
    | succ fuel => exact ⟨fun _ => hq, fun i hi => by rw [hr] at hi; cases hi⟩
  | succ m ih =>
    intro fuel k listed a w hm hf hnk hk hsz hd hu h
    obtain ⟨fuel, rfl⟩ : ∃ f, fuel = f + 1 := ⟨fuel - 1, by omega⟩
    have hks : k < ops.size := by omega
    have hok : ops[k]? = some ops[k] := Array.getElem?_eq_getElem hks
    have hready : k ∈ Region.ready .any ops listed := by
      refine mem_ready.2 ⟨hu k (Nat.le_refl _) hks, _, hok, fun e he hb => hd _ ?_⟩
      have h3 := List.all_eq_true.1 htl.2 k (List.mem_range.2 hks)
      rw [hok] at h3
      have hkn : ¬ k < n := by omega
      simp only [hkn, decide_false, Bool.false_or] at h3
      have : e.on ∈ depsOf ops[k] := List.mem_map.2 ⟨e, List.mem_filter.2 ⟨by simpa using he, hb⟩, rfl⟩
      simpa using List.all_eq_true.1 h3 _ this
    have honly : ∀ i ∈ Region.ready .any ops listed, i = k := by
      intro i hi
      obtain ⟨hun, o, ho, hall⟩ := mem_ready.1 hi
      have his : i < ops.size := (Array.getElem?_eq_some_iff.1 ho).1
      have hl : i < listed.size := by omega
      rcases Nat.lt_trichotomy i k with h1 | h1 | h1
      · have := hd i h1
        simp [hl] at this hun
        rw [this] at hun; cases hun
      · exact h1
      · exfalso
        have h2 := List.all_eq_true.1 htl.1.2 i (List.mem_range.2 his)
        rw [ho] at h2
        have hin : ¬ i ≤ n := by omega
        simp [hin] at h2
        obtain ⟨e, he, heq⟩ := List.mem_map.1 h2
        have hem := List.mem_filter.1 he
        have h4 := hall e (by simpa using hem.1) hem.2
        have h5 := hu (i - 1) (by omega) (by omega)
        have hl' : i - 1 < listed.size := by omega
        rw [heq] at h4
        simp [hl'] at h4 h5
        rw [h4] at h5; cases h5
    refine ⟨fun hnil => (by rw [hnil] at hready; cases hready), fun i hi => ?_⟩
    obtain rfl := honly i hi
    have hdrop : ops.toList.drop i = ops[i] :: ops.toList.drop (i + 1) := by
      rw [List.drop_eq_getElem_cons (by simpa using hks)]
      simp
    rw [hdrop] at h
    unfold wpOpIn
    simp only [hok]
    simp only [wpListIn] at h
    have hnext : ∀ a w, wpListIn (FW r) 0 P ops Q (ops.toList.drop (i + 1)) a w → wpAnyIn (FW r) 0 P .any ops Q fuel (listed.setIfInBounds i true) a w := by
      intro a' w' h'
      refine ih fuel (i + 1) _ a' w' (by omega) (by omega) (by omega) (by omega) (by simp [hsz]) (fun j hj => ?_) (fun j hj hjs => ?_) h'
      · by_cases e : i = j
        · subst e; exact getD_same (by omega)
        · exact getD_set_true (hd j (by omega))
      · rw [getD_set_ne true (by omega)]
        exact hu j (by omega) hjs
    split
    · rename_i hw
      rw [if_pos hw] at h
      exact Oper.wpIn_mono hnext h
    · rename_i hw
      rw [if_neg hw] at h
      exact ⟨h.1, hnext _ _ h.2⟩

/-- The whole region. -/
theorem region_mid {id n : Nat} {Vs : List Pred} {a1 : Act} {w : World} (hm : P.follows .mixedOrders = true) (hok : regOk ops n = true) (htl : tailOk ops n = true) (hn : n ≤ ops.size) (hlen : Vs.length = n) (hs : ∀ V ∈ Vs, Stays K V) (hef : effOk ops n Ef = true) (hTs : ∀ k, StaysT K (Ts k)) (hTc : ∀ k, k ∉ Ef → Ts (k + 1) = Ts k) (hT0 : Ts 0 (slotE Ef ops a1) w1) (hpo : pairOk ops n Ef Pp = true) (hTn : Pp ≠ [] → ∀ k σ w, Ts k σ w) (hdst : ∀ i o d, i < n → ops[i]? = some o → o.dst = some d → d < nt)
    (h1 : a1.tmps.size = nt) (h2 : a1.defers = df) (hw1 : w1 = { w with drawn := w.drawn + 1 })
    (hgood : ∀ i V, Vs[i]? = some V → Good K Pp Ef Ts P r ops n nt df a1 w1 Vs i V)
    (htail : ∀ listed a w, Mid K Pp Ef Ts ops n nt df a1 w1 Vs listed a w → (∀ i, i < n → listed.getD i false = true) → wpListIn (FW r) 0 P ops Q (ops.toList.drop n) a w) :
    Wp r P (.region id ops true) Q a1 w := by
  refine wpIn_region_any hm ?_
  rw [← hw1]
  refine wpAny_mid (a1 := a1) hok htl hn hlen hs hef hTs hTc hpo hTn hdst hgood (fun listed a w M hall fuel hf => tail_seq htl (ops.size - n) fuel n listed a w rfl hf (Nat.le_refl _) hn M.lsize hall (fun i hi his => M.tail i hi his) (htail listed a w M hall)) n ops.size _ a1 w1 ?_ (by omega) ?_
  · have : ((List.range n).filter fun i => !(Array.replicate ops.size false).getD i false) = List.range n := List.filter_eq_self.2 fun i _ => by rw [getD_replicate_false]; rfl
    rw [this]; simp
  · refine ⟨by simp, fun j o _ hl => ?_, fun t _ ht => by simp [ht], K.erefl _, h1, h2, fun _ _ => rfl, fun j V _ hl => ?_, fun j o _ _ _ hl => ?_, fun i j oi oj _ _ _ _ _ _ _ hl => ?_, ⟨0, hT0, fun e _ => ⟨fun hl => ?_, fun h => by omega⟩⟩, fun q _ hl => ?_⟩
    · rw [getD_replicate_false] at hl; cases hl
    · rw [getD_replicate_false] at hl; cases hl
    · rw [getD_replicate_false] at hl; cases hl
    · rw [getD_replicate_false] at hl; cases hl
    · rw [getD_replicate_false] at hl; cases hl
    · rw [getD_replicate_false] at hl; cases hl
end
end Go.Proofs.YtadnpidadcgdcaaDoor

/-
  The calculus, part B: one operation (OpTo), a list of operations in their order, code, loops, a function's contract (Fn).
-/
import Derived.Test.YtadnpidadcgdcaaDoorLibA
namespace Go.Proofs.YtadnpidadcgdcaaDoor
set_option linter.unusedVariables false
set_option linter.unusedSimpArgs false
open Go.RowKit

/-- A call that returns: R of what it returns and the world behind it. -/
def Cal (P : Program) (f : FuncId) (args : Array Value) (w : World) (R : Value → World → Prop) : Prop :=
  CallsIn (FW none) 0 P f args w fun e w' => ∃ v, e = .returned v ∧ R v w'

theorem Cal.mono {P : Program} {f : FuncId} {args : Array Value} {w : World} {R R' : Value → World → Prop} (h : Cal P f args w R) (hr : ∀ v w', R v w' → R' v w') : Cal P f args w R' :=
  CallsIn.mono h fun _ _ ⟨v, he, r⟩ => ⟨v, he, hr _ _ r⟩
theorem Cal.of_calls {P : Program} {f : FuncId} {args : Array Value} {w : World} {R : Ending → World → Prop} {R' : Value → World → Prop} (h : Calls P f args w R) (hr : ∀ e w', R e w' → ∃ v, e = .returned v ∧ R' v w') : Cal P f args w R' :=
  CallsIn.mono (callsIn_wide.2 h) hr
theorem Cal.calls {P : Program} {f : FuncId} {args : Array Value} {w : World} {R : Value → World → Prop} (h : Cal P f args w R) : Calls P f args w fun e w' => ∃ v, e = .returned v ∧ R v w' :=
  callsIn_wide.1 h

/-- One operation, its operands by ρ: it comes to a value and a world. -/
def OpTo (P : Program) (o : Oper) (ρ : Operand → Value) (w : World) (R : Value → World → Prop) : Prop :=
  match (execOp ρ o).run P w with
  | .ok (.value v) w' => R v w'
  | .ok .skip w' => R undef w'
  | .ok (.enter f args) w' => Cal P f args w' R
  | .ok (.row row args) w' => RowsIn (FW none) 0 P row args w' R
  | .ok (.round l f tmps assign body) w' => RoundIn (FW none) 0 P l f tmps assign body w' fun e w'' => ∃ v, e = .returned v ∧ R v w''
  | _ => False

theorem OpTo.mono {P : Program} {o : Oper} {ρ : Operand → Value} {w : World} {R R' : Value → World → Prop} (h : OpTo P o ρ w R) (hr : ∀ v w', R v w' → R' v w') : OpTo P o ρ w R' := by
  unfold OpTo at *
  generalize (execOp ρ o).run P w = r at *
  split <;> simp only at h
  · exact hr _ _ h
  · exact hr _ _ h
  · exact h.mono hr
  · exact RowsIn.mono h hr
  · exact RoundIn.mono h fun _ _ ⟨v, he, r⟩ => ⟨v, he, hr _ _ r⟩

theorem OpTo.val {P : Program} {o : Oper} {ρ : Operand → Value} {w w' : World} {v : Value} {R : Value → World → Prop} (h : (execOp ρ o).run P w = .ok (.value v) w') (r : R v w') : OpTo P o ρ w R := by
  unfold OpTo; rw [h]; exact r
theorem OpTo.skip {P : Program} {o : Oper} {ρ : Operand → Value} {w w' : World} {R : Value → World → Prop} (h : (execOp ρ o).run P w = .ok .skip w') (r : R undef w') : OpTo P o ρ w R := by
  unfold OpTo; rw [h]; exact r
theorem OpTo.enter {P : Program} {o : Oper} {ρ : Operand → Value} {w w' : World} {f : FuncId} {args : Array Value} {R : Value → World → Prop} (h : (execOp ρ o).run P w = .ok (.enter f args) w') (r : Cal P f args w' R) : OpTo P o ρ w R := by
  unfold OpTo; rw [h]; exact r

def plainOp : Op → Bool
  | .defer _ => false
  | _ => true

theorem opTo_wpIn {P : Program} {o : Oper} {a : Act} {w : World} {r : Option Nat} {K : Act → World → Prop} {Q : Exit → Act → World → Prop} (hp : plainOp o.op = true)
    (h : OpTo P o a.eval w fun v w' => K (a.put o.dst v) w') : o.wpIn (FW r) 0 P a w K Q := by
  refine ⟨fun _ _ => trivial, ?_⟩
  have hs : o.semAt (FW r).round a.eval = execOp a.eval o := Oper.semAt_eq _ _ _ fun c hc => by rw [hc] at hp; cases hp
  rw [hs]
  unfold OpTo at h
  generalize (execOp a.eval o).run P w = res at *
  split at h
  · exact h
  · exact h
  · refine ⟨fun hd => by simp [FW] at hd, CallsIn.mono (F := FW r) h ?_⟩
    rintro e w'' ⟨v, rfl, hk⟩
    exact hk
  · exact ⟨fun hd => by simp [FW] at hd, h⟩
  · refine ⟨fun hd => by simp [FW] at hd, RoundIn.mono (F := FW r) h ?_⟩
    rintro e w'' ⟨v, rfl, hk⟩
    exact hk
  · exact h.elim

section list
variable {P : Program} {r : Option Nat} {ops : Array Oper} {Q : Exit → Act → World → Prop} {a : Act} {w : World} {n : Nat} {df : List Deferred} {fr : List (Nat × Value)} {rest : List Oper}

/-- The next operation, which writes slot d. -/
theorem stepD {d : Nat} {op : Op} {ty : TypeId} {pos : String} {af : Array Edge} (hp : plainOp op = true) (F : Frm a n df fr) (hlt : Nat.blt d n = true)
    (h : OpTo P ⟨some d, op, ty, pos, af, none⟩ a.eval w fun v w' => ∀ a', Frm a' n df ((d, v) :: fr) → wpListIn (FW r) 0 P ops Q rest a' w') :
    wpListIn (FW r) 0 P ops Q (⟨some d, op, ty, pos, af, none⟩ :: rest) a w :=
  wpListIn_plain rfl fun _ hK => opTo_wpIn hp (h.mono fun v _ hk => hK _ _ (hk _ (F.put v hlt)))
/-- The next operation, which writes none. -/
theorem stepN {op : Op} {ty : TypeId} {pos : String} {af : Array Edge} (hp : plainOp op = true) (F : Frm a n df fr)
    (h : OpTo P ⟨none, op, ty, pos, af, none⟩ a.eval w fun _ w' => ∀ a', Frm a' n df fr → wpListIn (FW r) 0 P ops Q rest a' w') :
    wpListIn (FW r) 0 P ops Q (⟨none, op, ty, pos, af, none⟩ :: rest) a w :=
  wpListIn_plain rfl fun _ hK => opTo_wpIn hp (h.mono fun _ _ hk => hK _ _ (hk _ F))

/-- What a guard looks at: the slot that operation j of the region writes. -/
theorem yielded_of {j t : Nat} {b : Bool} (hj : (ops[j]?).bind (·.dst) = some t) (h : a.tmps.getD t undef = .bool b) : yielded ops a.tmps j = some b := by
  simp only [yielded, hj]
  simp only [Array.getD_eq_getD_getElem?] at h
  cases ht : a.tmps[t]? with
  | none => rw [ht] at h; cases h
  | some u => rw [ht] at h; simp only [Option.getD_some] at h; subst h; simp [ht]

theorem stepG {d : Nat} {op : Op} {ty : TypeId} {pos : String} {af : Array Edge} {j t : Nat} {b : Bool} (hp : plainOp op = true) (F : Frm a n df fr) (hlt : Nat.blt d n = true)
    (hj : (ops[j]?).bind (·.dst) = some t) (hb : look fr t = some (.bool b))
    (h : OpTo P ⟨some d, op, ty, pos, af, some (j, b)⟩ a.eval w fun v w' => ∀ a', Frm a' n df ((d, v) :: fr) → wpListIn (FW r) 0 P ops Q rest a' w') :
    wpListIn (FW r) 0 P ops Q (⟨some d, op, ty, pos, af, some (j, b)⟩ :: rest) a w :=
  wpListIn_step fun K hK => by
    simp only [Region.wanted, yielded_of hj (F.at_ t _ hb), BEq.rfl, if_true]
    exact opTo_wpIn hp (h.mono fun v _ hk => hK _ _ (hk _ (F.put v hlt)))
theorem stepGN {op : Op} {ty : TypeId} {pos : String} {af : Array Edge} {j t : Nat} {b : Bool} (hp : plainOp op = true) (F : Frm a n df fr)
    (hj : (ops[j]?).bind (·.dst) = some t) (hb : look fr t = some (.bool b))
    (h : OpTo P ⟨none, op, ty, pos, af, some (j, b)⟩ a.eval w fun _ w' => ∀ a', Frm a' n df fr → wpListIn (FW r) 0 P ops Q rest a' w') :
    wpListIn (FW r) 0 P ops Q (⟨none, op, ty, pos, af, some (j, b)⟩ :: rest) a w :=
  wpListIn_step fun K hK => by
    simp only [Region.wanted, yielded_of hj (F.at_ t _ hb), BEq.rfl, if_true]
    exact opTo_wpIn hp (h.mono fun _ _ hk => hK _ _ (hk _ F))

/-- A guarded operation that is passed over: its guard has come out otherwise, or was passed over itself. -/
def offGuard (b : Bool) : Value → Bool
  | .bool c => c != b
  | .tuple _ => true
  | _ => false
theorem yielded_off {j t : Nat} {b : Bool} {v : Value} (hj : (ops[j]?).bind (·.dst) = some t) (h : a.tmps.getD t undef = v) (ho : offGuard b v = true) : (yielded ops a.tmps j == some b) = false := by
  simp only [yielded, hj]
  simp only [Array.getD_eq_getD_getElem?] at h
  cases ht : a.tmps[t]? with
  | none => simp [ht]
  | some u =>
    rw [ht] at h; simp only [Option.getD_some] at h; subst h
    simp only [Option.bind_some, ht]
    cases u <;> simp [offGuard] at ho <;> simp
    exact ho

theorem stepOff {d : Nat} {op : Op} {ty : TypeId} {pos : String} {af : Array Edge} {j t : Nat} {b : Bool} {v : Value} (F : Frm a n df fr) (hlt : Nat.blt d n = true)
    (hj : (ops[j]?).bind (·.dst) = some t) (hb : look fr t = some v) (ho : offGuard b v = true)
    (h : ∀ a', Frm a' n df ((d, undef) :: fr) → wpListIn (FW r) 0 P ops Q rest a' w) :
    wpListIn (FW r) 0 P ops Q (⟨some d, op, ty, pos, af, some (j, b)⟩ :: rest) a w :=
  wpListIn_step fun K hK => by
    simp only [Region.wanted, yielded_off hj (F.at_ t _ hb) ho, Bool.false_eq_true, if_false]
    exact ⟨fun _ _ => trivial, hK _ _ (h _ (F.put undef hlt))⟩
theorem stepOffN {op : Op} {ty : TypeId} {pos : String} {af : Array Edge} {j t : Nat} {b : Bool} {v : Value} (F : Frm a n df fr)
    (hj : (ops[j]?).bind (·.dst) = some t) (hb : look fr t = some v) (ho : offGuard b v = true)
    (h : ∀ a', Frm a' n df fr → wpListIn (FW r) 0 P ops Q rest a' w) :
    wpListIn (FW r) 0 P ops Q (⟨none, op, ty, pos, af, some (j, b)⟩ :: rest) a w :=
  wpListIn_step fun K hK => by
    simp only [Region.wanted, yielded_off hj (F.at_ t _ hb) ho, Bool.false_eq_true, if_false]
    exact ⟨fun _ _ => trivial, hK _ _ (h _ F)⟩
end list

section code
variable {P : Program} {r : Option Nat} {Q : Exit → Act → World → Prop} {a : Act} {w : World} {n : Nat} {df : List Deferred} {fr : List (Nat × Value)}

abbrev Wp (r : Option Nat) (P : Program) (c : Code) (Q : Exit → Act → World → Prop) (a : Act) (w : World) : Prop := c.wpIn (FW r) 0 P Q a w

theorem c_seq {x y : Code} (h : Wp r P x (Exit.then (Wp r P y Q) Q) a w) : Wp r P (.seq x y) Q a w := wpIn_seq h
theorem c_skip (h : Q .normal a w) : Wp r P .skip Q a w := wpIn_skip h
theorem c_block {id : Nat} {c : Code} (h : Wp r P c (Exit.inBlock id Q) a w) : Wp r P (.block id c) Q a w := wpIn_block h
theorem c_exit {id : Nat} (h : Q (.exit id) a w) : Wp r P (.exit id) Q a w := wpIn_exit h
theorem c_ret (h : Q .ret a w) : Wp r P .ret Q a w := wpIn_ret h
theorem c_region {id : Nat} {l : List Oper} (h : wpListIn (FW r) 0 P l.toArray Q l a w) : Wp r P (.region id l.toArray false) Q a w := wpIn_region_lit h
theorem l_nil {ops : Array Oper} (h : Q .normal a w) : wpListIn (FW r) 0 P ops Q [] a w := h
theorem c_if {c : Operand} {x y : Code} {t : Bool} (F : Frm a n df fr) (hc : Ev fr c = some (.bool t)) (ht : t = true → Wp r P x Q a w) (hf : t = false → Wp r P y Q a w) : Wp r P (.cond c x y) Q a w :=
  wpIn_cond_split (F.ev hc) ht hf
theorem c_true {c : Operand} {x y : Code} {t : Bool} (F : Frm a n df fr) (hc : Ev fr c = some (.bool t)) (ht : t = true) (h : Wp r P x Q a w) : Wp r P (.cond c x y) Q a w :=
  wpIn_cond_true (by rw [F.ev hc, ht]) h
theorem c_false {c : Operand} {x y : Code} {t : Bool} (F : Frm a n df fr) (hc : Ev fr c = some (.bool t)) (ht : t = false) (h : Wp r P y Q a w) : Wp r P (.cond c x y) Q a w :=
  wpIn_cond_false (by rw [F.ev hc, ht]) h

theorem c_loop {c : Code} (I : Nat → Act → World → Prop) (k : Nat) (h0 : I k a w)
    (round : ∀ k a w, I k a w → Wp r P c (Exit.then (fun a' w' => ∃ k', k' < k ∧ I k' a' w') Q) a w) : Wp r P (.loop c) Q a w := by
  have key : ∀ a w, (∃ k, I k a w) → ∃ k, I k a w ∧ ∀ j, I j a w → k ≤ j := by
    rintro a w ⟨k, hk⟩
    induction k using Nat.strongRecOn with
    | _ k ih =>
      by_cases h : ∃ j, j < k ∧ I j a w
      · obtain ⟨j, hj, hI⟩ := h
        exact ih j hj hI
      · exact ⟨k, hk, fun j hj => Nat.not_lt.1 fun hlt => h ⟨j, hlt, hj⟩⟩
  let μ : Act → World → Nat := fun a w => open Classical in if h : ∃ k, I k a w then Classical.choose (key a w h) else 0
  refine wpIn_loop (fun a w => ∃ k, I k a w) μ ⟨k, h0⟩ fun a w h => ?_
  have hs := Classical.choose_spec (key a w h)
  have hμ : μ a w = Classical.choose (key a w h) := dif_pos h
  refine wpIn_mono (round _ a w hs.1) ?_
  rintro e a' w' hq
  cases e with
  | normal =>
    obtain ⟨k', hlt, hI⟩ := hq
    refine ⟨⟨k', hI⟩, ?_⟩
    have hs' := Classical.choose_spec (key a' w' ⟨k', hI⟩)
    have hμ' : μ a' w' = Classical.choose (key a' w' ⟨k', hI⟩) := dif_pos ⟨k', hI⟩
    have := hs'.2 k' hI
    omega
  | exit id => exact hq
  | goto l => exact hq
  | ret => exact hq
  | panic ch => exact hq
  | outgrown => exact hq

/-! ways out -/
variable {K : Act → World → Prop}
theorem q_then (h : K a w) : Exit.then K Q .normal a w := h
theorem q_thenX {id : Nat} (h : Q (.exit id) a w) : Exit.then K Q (.exit id) a w := h
theorem q_thenR (h : Q .ret a w) : Exit.then K Q .ret a w := h
theorem q_inB (h : Q .normal a w) {id : Nat} : Exit.inBlock id Q .normal a w := h
theorem q_inBX {id : Nat} (h : Q .normal a w) : Exit.inBlock id Q (.exit id) a w := by simpa [Exit.inBlock] using h
theorem q_inBY {id id' : Nat} (hne : Nat.beq id' id = false) (h : Q (.exit id') a w) : Exit.inBlock id Q (.exit id') a w := by
  have : id' ≠ id := fun e => by subst e; simp at hne
  simpa [Exit.inBlock, this] using h
theorem q_inBR {id : Nat} (h : Q .ret a w) : Exit.inBlock id Q .ret a w := h
end code

/-! ### a function -/
def number : Nat → List Value → List (Nat × Value)
  | _, [] => []
  | i, v :: vs => (i, v) :: number (i + 1) vs

theorem look_number (vs : List Value) : ∀ i t v, look (number i vs) t = some v → i ≤ t ∧ vs[t - i]? = some v := by
  induction vs with
  | nil => intro i t v h; simp [number, look] at h
  | cons x vs ih =>
    intro i t v h
    rw [number, look_put] at h
    by_cases e : i = t
    · subst e; simpa using h
    · rw [if_neg e] at h
      have := ih _ _ _ h
      obtain ⟨k, rfl⟩ : ∃ k, t = i + 1 + k := ⟨t - (i + 1), by omega⟩
      refine ⟨by omega, ?_⟩
      have e1 : i + 1 + k - i = k + 1 := by omega
      have e2 : i + 1 + k - (i + 1) = k := by omega
      rw [e1]; rw [e2] at this
      simpa using this.2

/-- What is asked where the body is left. -/
def Post (P : Program) (fn : Func) (R : Value → World → Prop) : Exit → Act → World → Prop :=
  bodyPostM (FW none) 0 P fn fun e w' => ∃ v, e = .returned v ∧ R v w'

theorem fn_of {P : Program} {f : FuncId} {fn : Func} {c : Code} {vs : List Value} {w : World} {R : Value → World → Prop} {n : Nat}
    (hf : P.funcs[f]? = some fn) (hb : fn.body = some c) (hn : fn.ntmps = n) (hle : Nat.ble vs.length n = true)
    (h : ∀ a, Frm a n [] (number 0 vs) → Wp none P c (Post P fn R) a w) : Cal P f vs.toArray w R := by
  refine callsIn_of_wp_marks (F := FW none) hf hb trivial (h _ ⟨?_, rfl, fun t v ht => ?_⟩)
  · have := Nat.le_of_ble_eq_true hle
    simp [hn]; omega
  · have := look_number vs 0 t v ht
    simp only [Nat.sub_zero] at this
    have hlt : t < vs.length := by
      rcases Nat.lt_or_ge t vs.length with h | h
      · exact h
      · rw [List.getElem?_eq_none h] at this; cases this.2
    have h2 := this.2
    simp only [Array.getD_eq_getD_getElem?]
    rw [Array.getElem?_append_left (by simpa using hlt)]
    simp [h2]

/-- What a result reads as. -/
inductive ResV (P : Program) (a : Act) (w : World) : ResultVar → Value → Prop
  | tmp {t : Nat} {v : Value} (h : a.eval (.tmp t) = v) : ResV P a w (.tmp t) v
  | cell {p : Nat} {ty : TypeId} {ad : Addr} {v : Value} (h : a.eval (.tmp p) = .pointer (some ad)) (hl : (loadVar ty ad).run P w = .ok v w) : ResV P a w (.cell p ty) v

theorem ResV.run {P : Program} {a : Act} {w : World} {rv : ResultVar} {v : Value} (h : ResV P a w rv v) :
    (match rv with | .tmp t => (pure (a.tmps.getD t undef) : Sem Value) | .cell q ty => do loadVar ty (← asAddr (a.tmps.getD q undef))).run P w = .ok v w := by
  cases h with
  | tmp h => simp only [Act.eval] at h; simp [h]
  | cell h hl => simp only [Act.eval] at h; simp [h, asAddr, hl]

inductive ResVs (P : Program) (a : Act) (w : World) : List ResultVar → List Value → Prop
  | nil : ResVs P a w [] []
  | cons {rv : ResultVar} {v : Value} {rvs : List ResultVar} {vs : List Value} (h : ResV P a w rv v) (t : ResVs P a w rvs vs) : ResVs P a w (rv :: rvs) (v :: vs)

def oneOr : List Value → Value
  | [v] => v
  | vs => .tuple vs.toArray

theorem run_results {P : Program} {fn : Func} {a : Act} {w : World} {rvs : List ResultVar} {vs : List Value} (hr : fn.results = rvs.toArray) (h : ResVs P a w rvs vs) :
    (results fn a.tmps).run P w = .ok (oneOr vs) w := by
  have key : ∀ (g : ResultVar → Sem Value), (∀ rv v, ResV P a w rv v → (g rv).run P w = Result.ok v w) → ∀ (rvs : List ResultVar) (vs : List Value), ResVs P a w rvs vs → (rvs.mapM g).run P w = Result.ok vs w := by
    intro g hg rvs vs h
    induction h with
    | nil => simp
    | cons hx _ ih => simp only [List.mapM_cons, Sem.run_bind, hg _ _ hx, Result.andThen_ok, ih, Sem.run_pure]
  unfold results
  rw [hr, Sem.run_bind, Array.mapM_eq_mapM_toList, Sem.run_map, key _ (fun rv v hx => by cases hx <;> simp_all [Act.eval, asAddr]) rvs vs h]
  match vs with
  | [] => simp [oneOr]
  | [v] => simp [oneOr]
  | v :: u :: q => simp [oneOr]
end Go.Proofs.YtadnpidadcgdcaaDoor

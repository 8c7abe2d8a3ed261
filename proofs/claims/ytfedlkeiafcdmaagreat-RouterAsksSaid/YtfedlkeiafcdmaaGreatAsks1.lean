/-
  Texts joined: LibA, LibB, LibC, LibD, LibE, LibF, LibG, LibH, LibI, LibJ, LibM, NSeat, ROpen, LibN, LibQ, LibR, LibS, LibV, LibX, RunA, RunB, RunC.
-/
import Derived.WalkKit
import Derived.OrdersIn
import Derived.RangeFuncLeaves
import Derived.RangeFuncNested
import Derived.StillTail
import Derived.ProofKit
import Derived.OpenShut
import Derived.WideKeyArgs
import Derived.Deep.DeepHandedRow
import Derived.Lib.LaidTab
import Derived.Deep.Slices
import Derived.Shelf.Vars
import Derived.Test.YtfedlkeiafcdmaaGreatRows
import Derived.Laws.MakeOwn
import Derived.Laws.Externs
import Derived.Lib.Overlaps
import Derived.Lib.BytesEntry
import Derived.Laws.IdiomStrings
/-! LibA -/
namespace Go.Proofs.YtfedlkeiafcdmaaGreat
set_option linter.unusedVariables false
set_option linter.unusedSimpArgs false
open Go.RowKit
/-- The fence that shuts out nothing; 'r': the loop in whose round the code runs. -/
def FW (r : Option Nat) : Fence := { fn := fun _ => True, depth := none, alive := false, round := r }
/-! ### frames -/
def look : List (Nat × Value) → Nat → Option Value
  | [], _ => none
  | (k, v) :: r, t => match Nat.beq k t with
    | true => some v
    | false => look r t
structure Frm (a : Act) (n : Nat) (df : List Deferred) (fr : List (Nat × Value)) : Prop where
  size : a.tmps.size = n
  defers : a.defers = df
  at_ : ∀ t v, look fr t = some v → a.tmps.getD t undef = v
/-- What an operand comes to, by what is known of the slots. -/
def Ev (fr : List (Nat × Value)) : Operand → Option Value
  | .tmp t => look fr t
  | .const v => some v
  | .global g => some (.pointer (some ⟨g, 0, none⟩))
  | .func f => some (.func (.func f) #[] #[])
theorem Frm.ev {a : Act} {n : Nat} {df : List Deferred} {fr : List (Nat × Value)} (F : Frm a n df fr) {x : Operand} {v : Value} (h : Ev fr x = some v) : a.eval x = v := by
  cases x with
  | tmp t => exact F.at_ t v h
  | const u => simpa [Ev, Act.eval] using h
  | global g => simpa [Ev, Act.eval] using h
  | func f => simpa [Ev, Act.eval] using h
theorem look_put (fr : List (Nat × Value)) (d t : Nat) (v : Value) : look ((d, v) :: fr) t = if d = t then some v else look fr t := by
  simp only [look]
  by_cases h : d = t
  · subst h; simp
  · have : Nat.beq d t = false := by
      cases hb : Nat.beq d t with
      | false => rfl
      | true => exact absurd (Nat.eq_of_beq_eq_true hb) h
    simp [this, h]
theorem Frm.put {a : Act} {n : Nat} {df : List Deferred} {fr : List (Nat × Value)} (F : Frm a n df fr) {d : Nat} (v : Value) (hd : Nat.blt d n = true) : Frm (a.put (some d) v) n df ((d, v) :: fr) := by
  have hd' : d < n := Nat.le_of_ble_eq_true hd
  refine ⟨by simp [Act.put, F.size], by simp [Act.put, F.defers], fun t u h => ?_⟩
  rw [look_put] at h
  simp only [Act.put]
  by_cases e : d = t
  · subst e
    simp only [if_true, Option.some.injEq] at h
    subst h
    have : d < a.tmps.size := by rw [F.size]; exact hd'
    simp [Array.getElem?_setIfInBounds, this]
  · rw [if_neg e] at h
    have := F.at_ t u h
    simpa [Array.getElem?_setIfInBounds, e] using this
/-- Fewer facts. 'keep ts fr': those on the slots ts, in that order. -/
def keep : List Nat → List (Nat × Value) → List (Nat × Value)
  | [], _ => []
  | t :: ts, fr => match look fr t with
    | some v => (t, v) :: keep ts fr
    | none => keep ts fr
theorem look_keep (ts : List Nat) (fr : List (Nat × Value)) (t : Nat) (v : Value) (h : look (keep ts fr) t = some v) : look fr t = some v := by
  induction ts with
  | nil => simp [keep, look] at h
  | cons x ts ih =>
    simp only [keep] at h
    cases hx : look fr x with
    | none => rw [hx] at h; exact ih h
    | some u =>
      rw [hx] at h
      simp only [look_put] at h
      by_cases e : x = t
      · subst e; simp at h; rw [hx, h]
      · rw [if_neg e] at h; exact ih h
theorem Frm.keep {a : Act} {n : Nat} {df : List Deferred} {fr : List (Nat × Value)} (F : Frm a n df fr) (ts : List Nat) : Frm a n df (keep ts fr) :=
  ⟨F.size, F.defers, fun t v h => F.at_ t v (look_keep ts fr t v h)⟩
/-- Forced: for a list that is to come out written in full. -/
def keepO : List Nat → List (Nat × Value) → Option (List (Nat × Value))
  | [], _ => some []
  | t :: ts, fr => match look fr t, keepO ts fr with
    | some v, some r => some ((t, v) :: r)
    | _, _ => none
theorem keepO_keep : ∀ (ts : List Nat) (fr r : List (Nat × Value)), keepO ts fr = some r → keep ts fr = r
  | [], _, _, h => by simpa [keepO, keep] using h
  | t :: ts, fr, r, h => by
    simp only [keepO] at h
    cases hx : look fr t with
    | none => simp [hx] at h
    | some u =>
      cases hk : keepO ts fr with
      | none => simp [hx, hk] at h
      | some q =>
        simp only [hx, hk, Option.some.injEq] at h
        simp only [keep, hx, keepO_keep ts fr q hk, h]
theorem Frm.only {a : Act} {n : Nat} {df : List Deferred} {fr r : List (Nat × Value)} (F : Frm a n df fr) (ts : List Nat) (h : keepO ts fr = some r) : Frm a n df r := by
  rw [← keepO_keep ts fr r h]; exact F.keep ts
/-! ### worlds -/
/-- Of what lay in w nothing has turned in w' but, maybe, the blocks S. -/
structure Ext (S : List Nat) (w w' : World) : Prop where
  os : w'.os = w.os
  tape : w'.tape = w.tape
  output : w'.output = w.output
  size : w.heap.size ≤ w'.heap.size
  dr : w.drawn ≤ w'.drawn
  block : ∀ k, k < w.heap.size → k ∉ S → w'.heap[k]? = w.heap[k]?
theorem Ext.refl (S : List Nat) (w : World) : Ext S w w := ⟨rfl, rfl, rfl, Nat.le_refl _, Nat.le_refl _, fun _ _ _ => rfl⟩
theorem Ext.trans {S : List Nat} {a b c : World} (h : Ext S a b) (k : Ext S b c) : Ext S a c :=
  ⟨k.os.trans h.os, k.tape.trans h.tape, k.output.trans h.output, Nat.le_trans h.size k.size, Nat.le_trans h.dr k.dr, fun i hi hs => (k.block i (Nat.lt_of_lt_of_le hi h.size) hs).trans (h.block i hi hs)⟩
theorem Ext.mono {S S' : List Nat} {a b : World} (h : Ext S a b) (hS : ∀ k, k ∈ S → k ∈ S') : Ext S' a b :=
  ⟨h.os, h.tape, h.output, h.size, h.dr, fun k hk hs => h.block k hk (fun hm => hs (hS k hm))⟩
theorem Ext.any {S : List Nat} {a b : World} (h : Ext [] a b) : Ext S a b := h.mono (fun _ hk => by cases hk)
/-- What is turned lies beyond what there was. -/
theorem Ext.fresh {S T : List Nat} {a b : World} (h : Ext T a b) (hS : ∀ k, k ∈ T → k ∈ S ∨ a.heap.size ≤ k) : Ext S a b :=
  ⟨h.os, h.tape, h.output, h.size, h.dr, fun k hk hs => h.block k hk (fun hm => (hS k hm).elim hs (fun hge => by omega))⟩
theorem Ext.below {w w' : World} (h : Ext [] w w') : Below w.heap.size w w' := ⟨h.os, h.tape, h.output, h.size, fun k hk => h.block k hk (by simp)⟩
theorem Ext.drawn (w : World) (d : Nat) (h : w.drawn ≤ d) : Ext [] w { w with drawn := d } := ⟨rfl, rfl, rfl, Nat.le_refl _, h, fun _ _ _ => rfl⟩
theorem Ext.alloc (w : World) (o : Obj) : Ext [] w (w.alloc o) := ⟨rfl, rfl, rfl, by simp, Nat.le_refl _, fun k hk _ => Below.heap_alloc _ _ _ hk⟩
theorem Ext.setCell (w : World) (p : Addr) (u : Value) : Ext [p.block] w (w.setCell p u) :=
  ⟨rfl, rfl, rfl, by simp [World.setCell], by simp [World.setCell], fun k _ hs => Below.heap_setCell _ _ _ _ (by simpa using hs)⟩
/-- The blocks l, all different, hold what is said; each is younger than W0 or one of S; since W0 nothing else has turned. -/
structure Mem (S : List Nat) (W0 w : World) (l : List (Nat × Obj)) : Prop where
  ext : Ext S W0 w
  at_ : ∀ p ∈ l, w.heap[p.1]? = some p.2
  nd : (l.map (·.1)).Nodup
  own : ∀ p ∈ l, p.1 ∈ S ∨ W0.heap.size ≤ p.1
theorem Mem.nil {S : List Nat} {W0 w : World} (h : Ext S W0 w) : Mem S W0 w [] := ⟨h, by simp, by simp, by simp⟩
theorem Mem.start (S : List Nat) (W0 : World) : Mem S W0 W0 [] := .nil (Ext.refl S W0)
inductive Has : List (Nat × Obj) → Nat → Obj → Prop
  | here {b : Nat} {o : Obj} {l : List (Nat × Obj)} : Has ((b, o) :: l) b o
  | there {p : Nat × Obj} {b : Nat} {o : Obj} {l : List (Nat × Obj)} (h : Has l b o) : Has (p :: l) b o
theorem Has.mem {l : List (Nat × Obj)} {b : Nat} {o : Obj} (h : Has l b o) : (b, o) ∈ l := by
  induction h with
  | here => simp
  | there _ ih => exact List.mem_cons_of_mem _ ih
/-- l' is l with o' for block b. -/
inductive Upd : List (Nat × Obj) → Nat → Obj → Obj → List (Nat × Obj) → Prop
  | here {b : Nat} {o o' : Obj} {l : List (Nat × Obj)} : Upd ((b, o) :: l) b o o' ((b, o') :: l)
  | there {p : Nat × Obj} {b : Nat} {o o' : Obj} {l l' : List (Nat × Obj)} (h : Upd l b o o' l') : Upd (p :: l) b o o' (p :: l')
theorem Upd.has {l l' : List (Nat × Obj)} {b : Nat} {o o' : Obj} (h : Upd l b o o' l') : Has l b o := by
  induction h with
  | here => exact .here
  | there _ ih => exact .there ih
theorem Upd.keys {l l' : List (Nat × Obj)} {b : Nat} {o o' : Obj} (h : Upd l b o o' l') : l'.map (·.1) = l.map (·.1) := by
  induction h with
  | here => rfl
  | there _ ih => simp [ih]
theorem Upd.mem {l l' : List (Nat × Obj)} {b : Nat} {o o' : Obj} (h : Upd l b o o' l') (nd : (l.map (·.1)).Nodup) : ∀ p ∈ l', p = (b, o') ∨ (p ∈ l ∧ p.1 ≠ b) := by
  induction h with
  | here =>
    intro p hp
    simp only [List.map_cons, List.nodup_cons] at nd
    rcases List.mem_cons.1 hp with rfl | hp
    · exact .inl rfl
    · exact .inr ⟨List.mem_cons_of_mem _ hp, fun e => nd.1 (e ▸ List.mem_map_of_mem hp)⟩
  | there hu ih =>
    intro p hp
    simp only [List.map_cons, List.nodup_cons] at nd
    rcases List.mem_cons.1 hp with rfl | hp
    · exact .inr ⟨List.mem_cons_self, fun e => nd.1 (by rw [e]; exact List.mem_map_of_mem hu.has.mem)⟩
    · rcases ih nd.2 p hp with h | ⟨h, h'⟩
      · exact .inl h
      · exact .inr ⟨List.mem_cons_of_mem _ h, h'⟩
theorem Mem.heap {S : List Nat} {W0 w : World} {l : List (Nat × Obj)} (M : Mem S W0 w l) {b : Nat} {o : Obj} (h : Has l b o) : w.heap[b]? = some o := M.at_ _ h.mem
theorem Mem.lt {S : List Nat} {W0 w : World} {l : List (Nat × Obj)} (M : Mem S W0 w l) {p : Nat × Obj} (h : p ∈ l) : p.1 < w.heap.size := (Array.getElem?_eq_some_iff.1 (M.at_ _ h)).1
/-- Behind whatever turns no block that there is. -/
theorem Mem.later {S : List Nat} {W0 w w' : World} {l : List (Nat × Obj)} (M : Mem S W0 w l) (h : Ext [] w w') : Mem S W0 w' l :=
  ⟨M.ext.trans h.any, fun p hp => (h.block _ (M.lt hp) (by simp)).trans (M.at_ p hp), M.nd, M.own⟩
theorem Mem.alloc {S : List Nat} {W0 w : World} {l : List (Nat × Obj)} (M : Mem S W0 w l) (o : Obj) : Mem S W0 (w.alloc o) ((w.heap.size, o) :: l) := by
  have M' := M.later (Ext.alloc w o)
  refine ⟨M'.ext, fun p hp => ?_, ?_, fun p hp => ?_⟩
  · rcases List.mem_cons.1 hp with rfl | hp
    · exact heap_alloc_new w o
    · exact M'.at_ p hp
  · simp only [List.map_cons, List.nodup_cons]
    refine ⟨fun hm => ?_, M.nd⟩
    obtain ⟨q, hq, e⟩ := List.mem_map.1 hm
    have := M.lt hq
    omega
  · rcases List.mem_cons.1 hp with rfl | hp
    · exact .inr M.ext.size
    · exact M.own p hp
/-- One more block, of which it is known that it is none of the others. -/
theorem Mem.cons {S : List Nat} {W0 w : World} {l : List (Nat × Obj)} (M : Mem S W0 w l) {b : Nat} {o : Obj} (hb : w.heap[b]? = some o) (hn : ∀ p ∈ l, p.1 ≠ b) (ho : b ∈ S ∨ W0.heap.size ≤ b) : Mem S W0 w ((b, o) :: l) := by
  refine ⟨M.ext, fun p hp => ?_, ?_, fun p hp => ?_⟩
  · rcases List.mem_cons.1 hp with rfl | hp
    · exact hb
    · exact M.at_ p hp
  · simp only [List.map_cons, List.nodup_cons]
    refine ⟨fun hm => ?_, M.nd⟩
    obtain ⟨q, hq, e⟩ := List.mem_map.1 hm
    exact hn q hq e
  · rcases List.mem_cons.1 hp with rfl | hp
    · exact ho
    · exact M.own p hp
/-- Behind whatever turned block b alone. -/
theorem Mem.turned {S : List Nat} {W0 w w' : World} {l l' : List (Nat × Obj)} (M : Mem S W0 w l) {b : Nat} {o o' : Obj} (hu : Upd l b o o' l') (h : Ext [b] w w') (hb : w'.heap[b]? = some o') : Mem S W0 w' l' := by
  have hm := hu.has.mem
  have hown := M.own _ hm
  refine ⟨?_, fun p hp => ?_, by rw [hu.keys]; exact M.nd, fun p hp => ?_⟩
  · refine ⟨h.os.trans M.ext.os, h.tape.trans M.ext.tape, h.output.trans M.ext.output, Nat.le_trans M.ext.size h.size, Nat.le_trans M.ext.dr h.dr, fun k hk hs => ?_⟩
    refine (h.block k (Nat.lt_of_lt_of_le hk M.ext.size) ?_).trans (M.ext.block k hk hs)
    simp only [List.mem_singleton]
    rintro rfl
    rcases hown with h1 | h1
    · exact hs h1
    · exact absurd hk (Nat.not_lt.2 h1)
  · rcases hu.mem M.nd p hp with rfl | ⟨hp', hne⟩
    · exact hb
    · exact (h.block p.1 (M.lt hp') (by simpa using hne)).trans (M.at_ p hp')
  · rcases hu.mem M.nd p hp with rfl | ⟨hp', _⟩
    · exact hown
    · exact M.own p hp'
/-- Fewer blocks. -/
theorem Mem.sub {S : List Nat} {W0 w : World} {l l' : List (Nat × Obj)} (M : Mem S W0 w l) (h : l'.Sublist l) : Mem S W0 w l' :=
  ⟨M.ext, fun p hp => M.at_ p (h.subset hp), M.nd.sublist (h.map _), fun p hp => M.own p (h.subset hp)⟩
end Go.Proofs.YtfedlkeiafcdmaaGreat
/-! LibB -/
namespace Go.Proofs.YtfedlkeiafcdmaaGreat
set_option linter.unusedVariables false
set_option linter.unusedSimpArgs false
open Go.RowKit
/-- A call that returns: R of what it returns and the world behind it. -/
def Cal (P : Program) (f : FuncId) (args : Array Value) (w : World) (R : Value → World → Prop) : Prop :=
  CallsIn (FW none) 0 P f args w fun e w' => ∃ v, e = .returned v ∧ R v w'
theorem Cal.mono {P : Program} {f : FuncId} {args : Array Value} {w : World} {R R' : Value → World → Prop} (h : Cal P f args w R) (hr : ∀ v w', R v w' → R' v w') : Cal P f args w R' :=
  CallsIn.mono h fun _ _ ⟨v, he, r⟩ => ⟨v, he, hr _ _ r⟩
theorem Cal.calls {P : Program} {f : FuncId} {args : Array Value} {w : World} {R : Value → World → Prop} (h : Cal P f args w R) : Calls P f args w fun e w' => ∃ v, e = .returned v ∧ R v w' :=
  callsIn_wide.1 h
/-- One operation, its operands by ρ: it comes to a value and a world. -/
def OpTo (P : Program) (o : Oper) (ρ : Operand → Value) (w : World) (R : Value → World → Prop) : Prop :=
  match (execOp ρ o).run P w with
  | .ok (.value v) w' => R v w'
  | .ok .skip w' => R undef w'
  | .ok (.enter f args) w' => Cal P f args w' R
  | .ok (.row row args) w' => RowsIn (FW none) 0 P row args w' R
  | .ok (.round l f tmps assign body) w' => RoundIn (FW none) 0 P l f tmps assign body w' fun e w'' => ∃ v, e = .returned v ∧ R v w''
  | _ => False
theorem OpTo.mono {P : Program} {o : Oper} {ρ : Operand → Value} {w : World} {R R' : Value → World → Prop} (h : OpTo P o ρ w R) (hr : ∀ v w', R v w' → R' v w') : OpTo P o ρ w R' := by
  unfold OpTo at *
  generalize (execOp ρ o).run P w = r at *
  split <;> simp only at h
  · exact hr _ _ h
  · exact hr _ _ h
  · exact h.mono hr
  · exact RowsIn.mono h hr
  · exact RoundIn.mono h fun _ _ ⟨v, he, r⟩ => ⟨v, he, hr _ _ r⟩
theorem OpTo.val {P : Program} {o : Oper} {ρ : Operand → Value} {w w' : World} {v : Value} {R : Value → World → Prop} (h : (execOp ρ o).run P w = .ok (.value v) w') (r : R v w') : OpTo P o ρ w R := by
  unfold OpTo; rw [h]; exact r
theorem OpTo.skip {P : Program} {o : Oper} {ρ : Operand → Value} {w w' : World} {R : Value → World → Prop} (h : (execOp ρ o).run P w = .ok .skip w') (r : R undef w') : OpTo P o ρ w R := by
  unfold OpTo; rw [h]; exact r
theorem OpTo.enter {P : Program} {o : Oper} {ρ : Operand → Value} {w w' : World} {f : FuncId} {args : Array Value} {R : Value → World → Prop} (h : (execOp ρ o).run P w = .ok (.enter f args) w') (r : Cal P f args w' R) : OpTo P o ρ w R := by
  unfold OpTo; rw [h]; exact r
def plainOp : Op → Bool
  | .defer _ => false
  | _ => true
theorem opTo_wpIn {P : Program} {o : Oper} {a : Act} {w : World} {r : Option Nat} {K : Act → World → Prop} {Q : Exit → Act → World → Prop} (hp : plainOp o.op = true)
    (h : OpTo P o a.eval w fun v w' => K (a.put o.dst v) w') : o.wpIn (FW r) 0 P a w K Q := by
  refine ⟨fun _ _ => trivial, ?_⟩
  have hs : o.semAt (FW r).round a.eval = execOp a.eval o := Oper.semAt_eq _ _ _ fun c hc => by rw [hc] at hp; cases hp
  rw [hs]
  unfold OpTo at h
  generalize (execOp a.eval o).run P w = res at *
  split at h
  · exact h
  · exact h
  · refine ⟨fun hd => by simp [FW] at hd, CallsIn.mono (F := FW r) h ?_⟩
    rintro e w'' ⟨v, rfl, hk⟩
    exact hk
  · exact ⟨fun hd => by simp [FW] at hd, h⟩
  · refine ⟨fun hd => by simp [FW] at hd, RoundIn.mono (F := FW r) h ?_⟩
    rintro e w'' ⟨v, rfl, hk⟩
    exact hk
  · exact h.elim
section list
variable {P : Program} {r : Option Nat} {ops : Array Oper} {Q : Exit → Act → World → Prop} {a : Act} {w : World} {n : Nat} {df : List Deferred} {fr : List (Nat × Value)} {rest : List Oper}
/-- The next operation, which writes slot d. -/
theorem stepD {d : Nat} {op : Op} {ty : TypeId} {pos : String} {af : Array Edge} (hp : plainOp op = true) (F : Frm a n df fr) (hlt : Nat.blt d n = true)
    (h : OpTo P ⟨some d, op, ty, pos, af, none⟩ a.eval w fun v w' => ∀ a', Frm a' n df ((d, v) :: fr) → wpListIn (FW r) 0 P ops Q rest a' w') :
    wpListIn (FW r) 0 P ops Q (⟨some d, op, ty, pos, af, none⟩ :: rest) a w :=
  wpListIn_plain rfl fun _ hK => opTo_wpIn hp (h.mono fun v _ hk => hK _ _ (hk _ (F.put v hlt)))
/-- What a guard looks at: the slot that operation j of the region writes. -/
theorem yielded_of {j t : Nat} {b : Bool} (hj : (ops[j]?).bind (·.dst) = some t) (h : a.tmps.getD t undef = .bool b) : yielded ops a.tmps j = some b := by
  simp only [yielded, hj]
  simp only [Array.getD_eq_getD_getElem?] at h
  cases ht : a.tmps[t]? with
  | none => rw [ht] at h; cases h
  | some u => rw [ht] at h; simp only [Option.getD_some] at h; subst h; simp [ht]
/-- A guarded operation that is passed over: its guard has come out otherwise, or was passed over itself. -/
def offGuard (b : Bool) : Value → Bool
  | .bool c => c != b
  | .tuple _ => true
  | _ => false
theorem yielded_off {j t : Nat} {b : Bool} {v : Value} (hj : (ops[j]?).bind (·.dst) = some t) (h : a.tmps.getD t undef = v) (ho : offGuard b v = true) : (yielded ops a.tmps j == some b) = false := by
  simp only [yielded, hj]
  simp only [Array.getD_eq_getD_getElem?] at h
  cases ht : a.tmps[t]? with
  | none => simp [ht]
  | some u =>
    rw [ht] at h; simp only [Option.getD_some] at h; subst h
    simp only [Option.bind_some, ht]
    cases u <;> simp [offGuard] at ho <;> simp
    exact ho
/-! the same, shorter to write -/
theorem sD {d : Nat} {op : Op} {ty : TypeId} {pos : String} {af : Array Edge} (F : Frm a n df fr)
    (h : OpTo P ⟨some d, op, ty, pos, af, none⟩ a.eval w fun v w' => ∀ a', Frm a' n df ((d, v) :: fr) → wpListIn (FW r) 0 P ops Q rest a' w')
    (hp : plainOp op = true := by rfl) (hlt : Nat.blt d n = true := by rfl) : wpListIn (FW r) 0 P ops Q (⟨some d, op, ty, pos, af, none⟩ :: rest) a w := stepD hp F hlt h
end list
section code
variable {P : Program} {r : Option Nat} {Q : Exit → Act → World → Prop} {a : Act} {w : World} {n : Nat} {df : List Deferred} {fr : List (Nat × Value)}
abbrev Wp (r : Option Nat) (P : Program) (c : Code) (Q : Exit → Act → World → Prop) (a : Act) (w : World) : Prop := c.wpIn (FW r) 0 P Q a w
theorem c_seq {x y : Code} (h : Wp r P x (Exit.then (Wp r P y Q) Q) a w) : Wp r P (.seq x y) Q a w := wpIn_seq h
theorem c_skip (h : Q .normal a w) : Wp r P .skip Q a w := wpIn_skip h
theorem c_block {id : Nat} {c : Code} (h : Wp r P c (Exit.inBlock id Q) a w) : Wp r P (.block id c) Q a w := wpIn_block h
theorem c_exit {id : Nat} (h : Q (.exit id) a w) : Wp r P (.exit id) Q a w := wpIn_exit h
theorem c_ret (h : Q .ret a w) : Wp r P .ret Q a w := wpIn_ret h
theorem c_region {id : Nat} {l : List Oper} (h : wpListIn (FW r) 0 P l.toArray Q l a w) : Wp r P (.region id l.toArray false) Q a w := wpIn_region_lit h
theorem l_nil {ops : Array Oper} (h : Q .normal a w) : wpListIn (FW r) 0 P ops Q [] a w := h
theorem c_if {c : Operand} {x y : Code} {t : Bool} (F : Frm a n df fr) (hc : Ev fr c = some (.bool t)) (ht : t = true → Wp r P x Q a w) (hf : t = false → Wp r P y Q a w) : Wp r P (.cond c x y) Q a w :=
  wpIn_cond_split (F.ev hc) ht hf
theorem c_loop {c : Code} (I : Nat → Act → World → Prop) (k : Nat) (h0 : I k a w)
    (round : ∀ k a w, I k a w → Wp r P c (Exit.then (fun a' w' => ∃ k', k' < k ∧ I k' a' w') Q) a w) : Wp r P (.loop c) Q a w := by
  have key : ∀ a w, (∃ k, I k a w) → ∃ k, I k a w ∧ ∀ j, I j a w → k ≤ j := by
    rintro a w ⟨k, hk⟩
    induction k using Nat.strongRecOn with
    | _ k ih =>
      by_cases h : ∃ j, j < k ∧ I j a w
      · obtain ⟨j, hj, hI⟩ := h
        exact ih j hj hI
      · exact ⟨k, hk, fun j hj => Nat.not_lt.1 fun hlt => h ⟨j, hlt, hj⟩⟩
  let μ : Act → World → Nat := fun a w => open Classical in if h : ∃ k, I k a w then Classical.choose (key a w h) else 0
  refine wpIn_loop (fun a w => ∃ k, I k a w) μ ⟨k, h0⟩ fun a w h => ?_
  have hs := Classical.choose_spec (key a w h)
  have hμ : μ a w = Classical.choose (key a w h) := dif_pos h
  refine wpIn_mono (round _ a w hs.1) ?_
  rintro e a' w' hq
  cases e with
  | normal =>
    obtain ⟨k', hlt, hI⟩ := hq
    refine ⟨⟨k', hI⟩, ?_⟩
    have hs' := Classical.choose_spec (key a' w' ⟨k', hI⟩)
    have hμ' : μ a' w' = Classical.choose (key a' w' ⟨k', hI⟩) := dif_pos ⟨k', hI⟩
    have := hs'.2 k' hI
    omega
  | exit id => exact hq
  | goto l => exact hq
  | ret => exact hq
  | panic ch => exact hq
  | outgrown => exact hq
/-! ways out -/
variable {K : Act → World → Prop}
theorem q_then (h : K a w) : Exit.then K Q .normal a w := h
end code
/-! ### a function -/
def number : Nat → List Value → List (Nat × Value)
  | _, [] => []
  | i, v :: vs => (i, v) :: number (i + 1) vs
theorem look_number (vs : List Value) : ∀ i t v, look (number i vs) t = some v → i ≤ t ∧ vs[t - i]? = some v := by
  induction vs with
  | nil => intro i t v h; simp [number, look] at h
  | cons x vs ih =>
    intro i t v h
    rw [number, look_put] at h
    by_cases e : i = t
    · subst e; simpa using h
    · rw [if_neg e] at h
      have := ih _ _ _ h
      obtain ⟨k, rfl⟩ : ∃ k, t = i + 1 + k := ⟨t - (i + 1), by omega⟩
      refine ⟨by omega, ?_⟩
      have e1 : i + 1 + k - i = k + 1 := by omega
      have e2 : i + 1 + k - (i + 1) = k := by omega
      rw [e1]; rw [e2] at this
      simpa using this.2
/-- What is asked where the body is left. -/
def Post (P : Program) (fn : Func) (R : Value → World → Prop) : Exit → Act → World → Prop :=
  bodyPostM (FW none) 0 P fn fun e w' => ∃ v, e = .returned v ∧ R v w'
theorem fn_of {P : Program} {f : FuncId} {fn : Func} {c : Code} {vs : List Value} {w : World} {R : Value → World → Prop} {n : Nat}
    (hf : P.funcs[f]? = some fn) (hb : fn.body = some c) (hn : fn.ntmps = n) (hle : Nat.ble vs.length n = true)
    (h : ∀ a, Frm a n [] (number 0 vs) → Wp none P c (Post P fn R) a w) : Cal P f vs.toArray w R := by
  refine callsIn_of_wp_marks (F := FW none) hf hb trivial (h _ ⟨?_, rfl, fun t v ht => ?_⟩)
  · have := Nat.le_of_ble_eq_true hle
    simp [hn]; omega
  · have := look_number vs 0 t v ht
    simp only [Nat.sub_zero] at this
    have hlt : t < vs.length := by
      rcases Nat.lt_or_ge t vs.length with h | h
      · exact h
      · rw [List.getElem?_eq_none h] at this; cases this.2
    have h2 := this.2
    simp only [Array.getD_eq_getD_getElem?]
    rw [Array.getElem?_append_left (by simpa using hlt)]
    simp [h2]
/-- What a result reads as. -/
inductive ResV (P : Program) (a : Act) (w : World) : ResultVar → Value → Prop
  | tmp {t : Nat} {v : Value} (h : a.eval (.tmp t) = v) : ResV P a w (.tmp t) v
  | cell {p : Nat} {ty : TypeId} {ad : Addr} {v : Value} (h : a.eval (.tmp p) = .pointer (some ad)) (hl : (loadVar ty ad).run P w = .ok v w) : ResV P a w (.cell p ty) v
theorem ResV.run {P : Program} {a : Act} {w : World} {rv : ResultVar} {v : Value} (h : ResV P a w rv v) :
    (match rv with | .tmp t => (pure (a.tmps.getD t undef) : Sem Value) | .cell q ty => do loadVar ty (← asAddr (a.tmps.getD q undef))).run P w = .ok v w := by
  cases h with
  | tmp h => simp only [Act.eval] at h; simp [h]
  | cell h hl => simp only [Act.eval] at h; simp [h, asAddr, hl]
inductive ResVs (P : Program) (a : Act) (w : World) : List ResultVar → List Value → Prop
  | nil : ResVs P a w [] []
  | cons {rv : ResultVar} {v : Value} {rvs : List ResultVar} {vs : List Value} (h : ResV P a w rv v) (t : ResVs P a w rvs vs) : ResVs P a w (rv :: rvs) (v :: vs)
def oneOr : List Value → Value
  | [v] => v
  | vs => .tuple vs.toArray
theorem run_results {P : Program} {fn : Func} {a : Act} {w : World} {rvs : List ResultVar} {vs : List Value} (hr : fn.results = rvs.toArray) (h : ResVs P a w rvs vs) :
    (results fn a.tmps).run P w = .ok (oneOr vs) w := by
  have key : ∀ (g : ResultVar → Sem Value), (∀ rv v, ResV P a w rv v → (g rv).run P w = Result.ok v w) → ∀ (rvs : List ResultVar) (vs : List Value), ResVs P a w rvs vs → (rvs.mapM g).run P w = Result.ok vs w := by
    intro g hg rvs vs h
    induction h with
    | nil => simp
    | cons hx _ ih => simp only [List.mapM_cons, Sem.run_bind, hg _ _ hx, Result.andThen_ok, ih, Sem.run_pure]
  unfold results
  rw [hr, Sem.run_bind, Array.mapM_eq_mapM_toList, Sem.run_map, key _ (fun rv v hx => by cases hx <;> simp_all [Act.eval, asAddr]) rvs vs h]
  match vs with
  | [] => simp [oneOr]
  | [v] => simp [oneOr]
  | v :: u :: q => simp [oneOr]
end Go.Proofs.YtfedlkeiafcdmaaGreat
/-! LibC -/
namespace Go.Proofs.YtfedlkeiafcdmaaGreat
set_option linter.unusedVariables false
set_option linter.unusedSimpArgs false
open Go.RowKit
theorem addr_add (b o k : Nat) : (⟨b, o, none⟩ : Addr).add k = ⟨b, o + k, none⟩ := by
  unfold Addr.add; split <;> simp_all
def zeroC (P : Program) (t : TypeId) : Option (Array Value) := ((P.info? t).bind (·.zero)).map Value.cells
def oneTy (P : Program) (t : TypeId) : Bool := match P.underlying t with | some (.struct _) | some (.array _ _) | none => false | _ => true
def aggTy (P : Program) (t : TypeId) (n : Nat) : Bool := (match P.underlying t with | some (.struct _) | some (.array _ _) => true | _ => false) && ((P.info? t).map (·.size) == some n)
def sizeIs (P : Program) (t : TypeId) (n : Nat) : Bool := (P.info? t).map (·.size) == some n
def fieldAtB (P : Program) (s : TypeId) (i off : Nat) : Bool :=
  match P.underlying s with
  | some (.struct fs) => match fs[i]? with
    | some f => f.offset == off && (match P.info? f.type with | some i => i.size != 0 | none => false)
    | none => false
  | _ => false
def hasBody (P : Program) (f : FuncId) : Bool := match P.funcs[f]? with | some fn => fn.body.isSome && !(fn.name == "runtime.NumGoroutine") | none => false
/-! What is asked of a program's types and functions, found by the elaborator. -/
class TU (P : Program) (t : TypeId) (d : outParam TypeDesc) : Prop where h : P.underlying t = some d
class TSz (P : Program) (t : TypeId) (n : outParam Nat) : Prop where h : sizeIs P t n = true
class TOne (P : Program) (t : TypeId) : Prop where h : oneTy P t = true
class TAgg (P : Program) (t : TypeId) (n : outParam Nat) : Prop where h : aggTy P t n = true
class TZero (P : Program) (t : TypeId) (cs : outParam (List Value)) : Prop where h : zeroC P t = some cs.toArray
class TFld (P : Program) (s : TypeId) (i : Nat) (off : outParam Nat) : Prop where h : fieldAtB P s i off = true
class TBody (P : Program) (f : FuncId) : Prop where h : hasBody P f = true
class TMix (P : Program) : Prop where h : P.follows .mixedOrders = true
/-! ### leaving a function -/
theorem p_leave {P : Program} {fn : Func} {R : Value → World → Prop} {a : Act} {w : World} {n : Nat} {fr : List (Nat × Value)} {rvs : List ResultVar} {vs : List Value} (F : Frm a n [] fr) (hr : fn.results = rvs.toArray) (hv : ResVs P a w rvs vs) (h : R (oneOr vs) w) :
    LeavesInM (FW none) 0 P fn a.tmps (fun e w' => ∃ v, e = .returned v ∧ R v w') a.defers .returning w := by
  rw [F.defers]
  exact ⟨_, run_results hr hv, _, rfl, h⟩
theorem p_ret {P : Program} {fn : Func} {R : Value → World → Prop} {a : Act} {w : World} {n : Nat} {fr : List (Nat × Value)} {rvs : List ResultVar} {vs : List Value} (F : Frm a n [] fr) (hr : fn.results = rvs.toArray) (hv : ResVs P a w rvs vs) (h : R (oneOr vs) w) : Post P fn R .ret a w :=
  p_leave F hr hv h
theorem p_end {P : Program} {fn : Func} {R : Value → World → Prop} {a : Act} {w : World} {n : Nat} {fr : List (Nat × Value)} {rvs : List ResultVar} {vs : List Value} (F : Frm a n [] fr) (hr : fn.results = rvs.toArray) (hv : ResVs P a w rvs vs) (h : R (oneOr vs) w) : Post P fn R .normal a w :=
  p_leave F hr hv h
theorem Ext.putObj (w : World) (b : Nat) (o : Obj) : Ext [b] w (w.putObj b o) :=
  ⟨rfl, rfl, rfl, by simp [World.putObj], by simp [World.putObj], fun k _ hs => World.putObj_heap_other (by simpa using hs)⟩
section ops
variable {P : Program} {ρ : Operand → Value} {w W0 : World} {S : List Nat} {l l' : List (Nat × Obj)} {R : Value → World → Prop} {d : Option Tmp} {ty : TypeId} {pos : String} {af : Array Edge} {g : Option (Nat × Bool)}
theorem o_move {x : Operand} {v : Value} (hx : ρ x = v) (h : R v w) : OpTo P ⟨d, .move x, ty, pos, af, g⟩ ρ w R := OpTo.val (v := v) (w' := w) (by simp [execOp, hx]) h
theorem o_assign {x : Operand} {v : Value} (hx : ρ x = v) (h : R v w) : OpTo P ⟨d, .assign x, ty, pos, af, g⟩ ρ w R := OpTo.val (v := v) (w' := w) (by simp [execOp, hx]) h
theorem o_pickT {c x y : Operand} {v : Value} (hc : ρ c = .bool true) (hx : ρ x = v) (h : R v w) : OpTo P ⟨d, .pick c x y, ty, pos, af, g⟩ ρ w R :=
  OpTo.val (v := v) (w' := w) (by simp [execOp, hc, hx, asBool]) h
theorem o_pickF {c x y : Operand} {v : Value} (hc : ρ c = .bool false) (hy : ρ y = v) (h : R v w) : OpTo P ⟨d, .pick c x y, ty, pos, af, g⟩ ρ w R :=
  OpTo.val (v := v) (w' := w) (by simp [execOp, hc, hy, asBool]) h
/-! integers -/
theorem o_add {t t' : TypeId} {x y : Operand} {k : IntKind} {m n s : Int} (hx : ρ x = .int k m) (hy : ρ y = .int k n) (hs : k.wrap (m + n) = s) (h : R (.int k s) w) : OpTo P ⟨d, .binOp .add t x y t', ty, pos, af, g⟩ ρ w R :=
  OpTo.val (v := .int k s) (w' := w) (by simp [execOp, eqGuard, binOp, Op.intArith, hx, hy, hs]) h
theorem o_sub {t t' : TypeId} {x y : Operand} {k : IntKind} {m n s : Int} (hx : ρ x = .int k m) (hy : ρ y = .int k n) (hs : k.wrap (m - n) = s) (h : R (.int k s) w) : OpTo P ⟨d, .binOp .sub t x y t', ty, pos, af, g⟩ ρ w R :=
  OpTo.val (v := .int k s) (w' := w) (by simp [execOp, eqGuard, binOp, Op.intArith, hx, hy, hs]) h
theorem o_mul {t t' : TypeId} {x y : Operand} {k : IntKind} {m n s : Int} (hx : ρ x = .int k m) (hy : ρ y = .int k n) (hs : k.wrap (m * n) = s) (h : R (.int k s) w) : OpTo P ⟨d, .binOp .mul t x y t', ty, pos, af, g⟩ ρ w R :=
  OpTo.val (v := .int k s) (w' := w) (by simp [execOp, eqGuard, binOp, Op.intArith, hx, hy, hs]) h
theorem o_quo {t t' : TypeId} {x y : Operand} {k : IntKind} {m n s : Int} (hx : ρ x = .int k m) (hy : ρ y = .int k n) (h0 : n ≠ 0) (hs : k.wrap (m.tdiv n) = s) (h : R (.int k s) w) : OpTo P ⟨d, .binOp .quo t x y t', ty, pos, af, g⟩ ρ w R :=
  OpTo.val (v := .int k s) (w' := w) (by simp [execOp, eqGuard, binOp, Op.intDiv, hx, hy, hs, h0]) h
theorem o_rem {t t' : TypeId} {x y : Operand} {k : IntKind} {m n s : Int} (hx : ρ x = .int k m) (hy : ρ y = .int k n) (h0 : n ≠ 0) (hs : m.tmod n = s) (h : R (.int k s) w) : OpTo P ⟨d, .binOp .rem t x y t', ty, pos, af, g⟩ ρ w R :=
  OpTo.val (v := .int k s) (w' := w) (by simp [execOp, eqGuard, binOp, Op.intDiv, hx, hy, hs, h0]) h
/-- the four operations on bits -/
def bitsOf (op : BinOp) (k : IntKind) (m n : Int) : Int :=
  match op with
  | .and => k.wrap (BitVec.ofInt k.bits m &&& BitVec.ofInt k.bits n).toNat
  | .or => k.wrap (BitVec.ofInt k.bits m ||| BitVec.ofInt k.bits n).toNat
  | .xor => k.wrap (BitVec.ofInt k.bits m ^^^ BitVec.ofInt k.bits n).toNat
  | _ => k.wrap (BitVec.ofInt k.bits m &&& ~~~ BitVec.ofInt k.bits n).toNat
theorem o_and {t t' : TypeId} {x y : Operand} {k : IntKind} {m n s : Int} (hx : ρ x = .int k m) (hy : ρ y = .int k n) (hs : bitsOf .and k m n = s) (h : R (.int k s) w) : OpTo P ⟨d, .binOp .and t x y t', ty, pos, af, g⟩ ρ w R := by
  subst hs; exact OpTo.val (v := .int k _) (w' := w) (by simp [execOp, eqGuard, binOp, Op.intBits, hx, hy, bitsOf]) h
theorem o_or {t t' : TypeId} {x y : Operand} {k : IntKind} {m n s : Int} (hx : ρ x = .int k m) (hy : ρ y = .int k n) (hs : bitsOf .or k m n = s) (h : R (.int k s) w) : OpTo P ⟨d, .binOp .or t x y t', ty, pos, af, g⟩ ρ w R := by
  subst hs; exact OpTo.val (v := .int k _) (w' := w) (by simp [execOp, eqGuard, binOp, Op.intBits, hx, hy, bitsOf]) h
theorem o_xor {t t' : TypeId} {x y : Operand} {k : IntKind} {m n s : Int} (hx : ρ x = .int k m) (hy : ρ y = .int k n) (hs : bitsOf .xor k m n = s) (h : R (.int k s) w) : OpTo P ⟨d, .binOp .xor t x y t', ty, pos, af, g⟩ ρ w R := by
  subst hs; exact OpTo.val (v := .int k _) (w' := w) (by simp [execOp, eqGuard, binOp, Op.intBits, hx, hy, bitsOf]) h
theorem o_andNot {t t' : TypeId} {x y : Operand} {k : IntKind} {m n s : Int} (hx : ρ x = .int k m) (hy : ρ y = .int k n) (hs : bitsOf .andNot k m n = s) (h : R (.int k s) w) : OpTo P ⟨d, .binOp .andNot t x y t', ty, pos, af, g⟩ ρ w R := by
  subst hs; exact OpTo.val (v := .int k _) (w' := w) (by simp [execOp, eqGuard, binOp, Op.intBits, hx, hy, bitsOf]) h
theorem o_shl {t t' : TypeId} {x y : Operand} {k k' : IntKind} {m n s : Int} (hx : ρ x = .int k m) (hy : ρ y = .int k' n) (h0 : 0 ≤ n) (hs : k.wrap (m * 2 ^ min n.toNat k.bits) = s) (h : R (.int k s) w) : OpTo P ⟨d, .binOp .shl t x y t', ty, pos, af, g⟩ ρ w R := by
  have h0' : ¬ n < 0 := by omega
  exact OpTo.val (v := .int k s) (w' := w) (by simp [execOp, eqGuard, binOp, Op.shift, hx, hy, hs, h0']) h
theorem o_shr {t t' : TypeId} {x y : Operand} {k k' : IntKind} {m n s : Int} (hx : ρ x = .int k m) (hy : ρ y = .int k' n) (h0 : 0 ≤ n) (hs : m.fdiv (2 ^ min n.toNat k.bits) = s) (h : R (.int k s) w) : OpTo P ⟨d, .binOp .shr t x y t', ty, pos, af, g⟩ ρ w R := by
  have h0' : ¬ n < 0 := by omega
  exact OpTo.val (v := .int k s) (w' := w) (by simp [execOp, eqGuard, binOp, Op.shift, hx, hy, hs, h0']) h
theorem o_eql {t t' : TypeId} {x y : Operand} {k : IntKind} {m n : Int} (hx : ρ x = .int k m) (hy : ρ y = .int k n) (h : R (.bool (m == n)) w) : OpTo P ⟨d, .binOp .eql t x y t', ty, pos, af, g⟩ ρ w R :=
  OpTo.val (v := .bool (m == n)) (w' := w) (by simp [execOp, eqGuard, binOp, Op.intCmp, hx, hy]) h
theorem o_neq {t t' : TypeId} {x y : Operand} {k : IntKind} {m n : Int} (hx : ρ x = .int k m) (hy : ρ y = .int k n) (h : R (.bool (m != n)) w) : OpTo P ⟨d, .binOp .neq t x y t', ty, pos, af, g⟩ ρ w R :=
  OpTo.val (v := .bool (m != n)) (w' := w) (by simp [execOp, eqGuard, binOp, Op.intCmp, hx, hy]) h
theorem o_lss {t t' : TypeId} {x y : Operand} {k : IntKind} {m n : Int} (hx : ρ x = .int k m) (hy : ρ y = .int k n) (h : R (.bool (decide (m < n))) w) : OpTo P ⟨d, .binOp .lss t x y t', ty, pos, af, g⟩ ρ w R :=
  OpTo.val (v := .bool (decide (m < n))) (w' := w) (by simp [execOp, eqGuard, binOp, Op.intCmp, hx, hy]) h
theorem o_leq {t t' : TypeId} {x y : Operand} {k : IntKind} {m n : Int} (hx : ρ x = .int k m) (hy : ρ y = .int k n) (h : R (.bool (decide (m ≤ n))) w) : OpTo P ⟨d, .binOp .leq t x y t', ty, pos, af, g⟩ ρ w R :=
  OpTo.val (v := .bool (decide (m ≤ n))) (w' := w) (by simp [execOp, eqGuard, binOp, Op.intCmp, hx, hy]) h
theorem o_gtr {t t' : TypeId} {x y : Operand} {k : IntKind} {m n : Int} (hx : ρ x = .int k m) (hy : ρ y = .int k n) (h : R (.bool (decide (n < m))) w) : OpTo P ⟨d, .binOp .gtr t x y t', ty, pos, af, g⟩ ρ w R :=
  OpTo.val (v := .bool (decide (n < m))) (w' := w) (by simp [execOp, eqGuard, binOp, Op.intCmp, hx, hy]) h
theorem o_geq {t t' : TypeId} {x y : Operand} {k : IntKind} {m n : Int} (hx : ρ x = .int k m) (hy : ρ y = .int k n) (h : R (.bool (decide (n ≤ m))) w) : OpTo P ⟨d, .binOp .geq t x y t', ty, pos, af, g⟩ ρ w R :=
  OpTo.val (v := .bool (decide (n ≤ m))) (w' := w) (by simp [execOp, eqGuard, binOp, Op.intCmp, hx, hy]) h
theorem o_not {t : TypeId} {x : Operand} {b : Bool} (hx : ρ x = .bool b) (h : R (.bool !b) w) : OpTo P ⟨d, .unOp .not t x, ty, pos, af, g⟩ ρ w R :=
  OpTo.val (v := .bool !b) (w' := w) (by simp [execOp, Op.unary, hx]) h
theorem o_neg {t : TypeId} {x : Operand} {k : IntKind} {n s : Int} (hx : ρ x = .int k n) (hs : k.wrap (0 - n) = s) (h : R (.int k s) w) : OpTo P ⟨d, .unOp .neg t x, ty, pos, af, g⟩ ρ w R :=
  OpTo.val (v := .int k s) (w' := w) (by simp only [execOp, Op.unary, Op.intArith, hx, hs, Sem.run_bind, Sem.run_pure, Result.andThen_ok]) h
theorem o_compl {t : TypeId} {x : Operand} {k : IntKind} {n s : Int} (hx : ρ x = .int k n) (hs : bitsOf .xor k (if k.signed then -1 else k.max) n = s) (h : R (.int k s) w) : OpTo P ⟨d, .unOp .xor t x, ty, pos, af, g⟩ ρ w R := by
  subst hs; exact OpTo.val (v := .int k _) (w' := w) (by simp only [execOp, Op.unary, Op.intBits, hx, Sem.run_bind, Sem.run_pure, Result.andThen_ok, bitsOf]) h
theorem o_conv {s t : TypeId} {x : Operand} {ds : TypeDesc} {k k' : IntKind} {n m : Int} (hx : ρ x = .int k n) [hs : TU P s ds] [ht : TU P t (.int k')] (hm : k'.wrap n = m) (h : R (.int k' m) w) : OpTo P ⟨d, .convert s t x, ty, pos, af, g⟩ ρ w R :=
  OpTo.val (v := .int k' m) (w' := w) (by cases ds <;> simp [execOp, convert, Conv.intToInt, hx, run_underlying hs.h, run_underlying ht.h, hm]) h
/-- bools -/
theorem o_eqlB {t t' : TypeId} {x y : Operand} {p q : Bool} (hx : ρ x = .bool p) (hy : ρ y = .bool q) [ht : TU P t .bool] (h : R (.bool (p == q)) w) : OpTo P ⟨d, .binOp .eql t x y t', ty, pos, af, g⟩ ρ w R :=
  OpTo.val (v := .bool (p == q)) (w' := w) (by simp [execOp, eqGuard, binOp, Op.equal, Op.maxDepth, hx, hy, run_equalIn_bool' w 9999 t p q ht.h]) h
theorem o_neqB {t t' : TypeId} {x y : Operand} {p q : Bool} (hx : ρ x = .bool p) (hy : ρ y = .bool q) [ht : TU P t .bool] (h : R (.bool !(p == q)) w) : OpTo P ⟨d, .binOp .neq t x y t', ty, pos, af, g⟩ ρ w R :=
  OpTo.val (v := .bool !(p == q)) (w' := w) (by simp [execOp, eqGuard, binOp, Op.equal, Op.maxDepth, hx, hy, run_equalIn_bool' w 9999 t p q ht.h]) h
/-! min, max of two -/
theorem o_min {x y : Operand} {ts : Array TypeId} {k : IntKind} {m n : Int} (hx : ρ x = .int k m) (hy : ρ y = .int k n) (h : R (.int k (if n < m then n else m)) w) : OpTo P ⟨d, .call ⟨.builtin .min, #[x, y], ts⟩, ty, pos, af, g⟩ ρ w R :=
  OpTo.val (v := .int k (if n < m then n else m)) (w' := w) (by simp [execOp, resolve, invoke, builtin, Builtin.min_, Builtin.min2, hx, hy]) h
theorem o_max {x y : Operand} {ts : Array TypeId} {k : IntKind} {m n : Int} (hx : ρ x = .int k m) (hy : ρ y = .int k n) (h : R (.int k (if m < n then n else m)) w) : OpTo P ⟨d, .call ⟨.builtin .max, #[x, y], ts⟩, ty, pos, af, g⟩ ρ w R :=
  OpTo.val (v := .int k (if m < n then n else m)) (w' := w) (by simp [execOp, resolve, invoke, builtin, Builtin.max_, Builtin.max2, hx, hy]) h
/-! len -/
theorem o_lenStr {x : Operand} {t : TypeId} {s : ByteArray} (hx : ρ x = .string s) [ht : TU P t .string] (h : R (.int .i64 s.size) w) : OpTo P ⟨d, .call ⟨.builtin .len, #[x], #[t]⟩, ty, pos, af, g⟩ ρ w R :=
  OpTo.val (v := .int .i64 s.size) (w' := w) (by simp [execOp, resolve, invoke, builtin, Builtin.len_, hx, run_underlying ht.h, goInt]) h
theorem o_lenSl {x : Operand} {t e : TypeId} {p : Option Addr} {n c : Nat} (hx : ρ x = .slice p n c) [ht : TU P t (.slice e)] (h : R (.int .i64 n) w) : OpTo P ⟨d, .call ⟨.builtin .len, #[x], #[t]⟩, ty, pos, af, g⟩ ρ w R :=
  OpTo.val (v := .int .i64 n) (w' := w) (by simp [execOp, resolve, invoke, builtin, Builtin.len_, hx, run_underlying ht.h, goInt]) h
/-! memory -/
theorem run_zeroC {t : TypeId} {cs : Array Value} (h : zeroC P t = some cs) : ∃ z, z.cells = cs ∧ (zeroValue t).run P w = .ok z w := by
  unfold zeroC at h
  cases hi : P.info? t with
  | none => simp [hi] at h
  | some i =>
    cases hz : i.zero with
    | none => simp [hi, hz] at h
    | some z => simp [hi, hz] at h; exact ⟨z, h, by simp [zeroValue, typeInfo, hi, hz]⟩
theorem o_alloc {t : TypeId} {cs : List Value} [hz : TZero P t cs] (M : Mem S W0 w l) (h : ∀ b w', Mem S W0 w' ((b, .cells cs.toArray t (0, 0)) :: l) → R (.pointer (some ⟨b, 0, none⟩)) w') : OpTo P ⟨d, .alloc t, ty, pos, af, g⟩ ρ w R := by
  obtain ⟨z, hzc, hr⟩ := run_zeroC (w := w) hz.h
  rw [← hzc] at h
  exact OpTo.val (v := .pointer (some ⟨w.heap.size, 0, none⟩)) (w' := w.alloc (.cells z.cells t)) (by simp [execOp, Instr.alloc, hr, newVar, newRow]) (h _ _ (M.alloc _))
theorem o_box {t : TypeId} {x : Operand} {v : Value} {cs : List Value} (M : Mem S W0 w l) (hx : ρ x = v) (hv : v.cells = cs.toArray) (h : ∀ b w', Mem S W0 w' ((b, .cells cs.toArray t (0, 0)) :: l) → R (.pointer (some ⟨b, 0, none⟩)) w') : OpTo P ⟨d, .box t x, ty, pos, af, g⟩ ρ w R := by
  rw [← hv] at h
  exact OpTo.val (v := .pointer (some ⟨w.heap.size, 0, none⟩)) (w' := w.alloc (.cells v.cells t)) (by simp [execOp, Instr.box, hx, newVar, newRow]) (h _ _ (M.alloc _))
theorem run_isAgg_one {t : TypeId} (h : oneTy P t = true) : (isAgg t).run P w = .ok false w := by
  unfold oneTy at h
  cases hu : P.underlying t with
  | none => simp [hu] at h
  | some dsc => cases dsc <;> simp [hu] at h <;> simp [isAgg, run_underlying hu]
theorem run_isAgg_agg {t : TypeId} {n : Nat} (h : aggTy P t n = true) : (isAgg t).run P w = .ok true w := by
  unfold aggTy at h
  cases hu : P.underlying t with
  | none => simp [hu] at h
  | some dsc => cases dsc <;> simp [hu] at h <;> simp [isAgg, run_underlying hu]
theorem run_sizeOf_agg {t : TypeId} {n : Nat} (h : aggTy P t n = true) : (sizeOf t).run P w = .ok n w := by
  unfold aggTy at h
  simp only [Bool.and_eq_true, beq_iff_eq] at h
  cases hi : P.info? t with
  | none => simp [hi] at h
  | some i => simp [hi] at h; simp [sizeOf, typeInfo, hi, h.2]
theorem cell_at {b off : Nat} {cs : Array Value} {t : TypeId} {fz : Nat × Nat} {v : Value} (hb : w.heap[b]? = some (.cells cs t fz)) (hv : cs[off]? = some v) : w.cell? ⟨b, off, none⟩ = some v := by
  simp [World.cell?, hb, hv]
theorem run_loadVar_one {t : TypeId} {ad : Addr} {v : Value} (ht : oneTy P t = true) (hc : w.cell? ad = some v) : (loadVar t ad).run P w = .ok v w := by
  simp [loadVar, run_isAgg_one ht, load, Sem.run, hc]
/-- n cells from off on, written in full. -/
def seg : List Value → Nat → Nat → Option (List Value)
  | _, 0, 0 => some []
  | x :: xs, 0, n + 1 => match seg xs 0 n with
    | some ys => some (x :: ys)
    | none => none
  | _ :: xs, off + 1, n => seg xs off n
  | [], _, _ => none
theorem seg_spec : ∀ (xs : List Value) (off n : Nat) (ys : List Value), seg xs off n = some ys → ys.length = n ∧ ∀ j, j < n → xs[off + j]? = ys[j]?
  | xs, 0, 0, ys, h => by cases xs <;> simp [seg] at h <;> subst h <;> simp
  | [], 0, n + 1, ys, h => by simp [seg] at h
  | [], off + 1, n, ys, h => by cases n <;> simp [seg] at h
  | x :: xs, off + 1, n, ys, h => by
    have h' : seg xs off n = some ys := by cases n <;> simpa [seg] using h
    have := seg_spec xs off n ys h'
    refine ⟨this.1, fun j hj => ?_⟩
    rw [show off + 1 + j = (off + j) + 1 by omega, List.getElem?_cons_succ]
    exact this.2 j hj
  | x :: xs, 0, n + 1, ys, h => by
    simp only [seg] at h
    cases hs : seg xs 0 n with
    | none => simp [hs] at h
    | some zs =>
      simp only [hs, Option.some.injEq] at h
      subst h
      have := seg_spec xs 0 n zs hs
      refine ⟨by simp [this.1], fun j hj => ?_⟩
      cases j with
      | zero => simp
      | succ j =>
        have := this.2 j (by omega)
        simpa using this
theorem run_loadVar_agg {t : TypeId} {b off n : Nat} {cs : Array Value} {t' : TypeId} {fz : Nat × Nat} {vs : List Value} (ht : aggTy P t n = true) (hb : w.heap[b]? = some (.cells cs t' fz)) (hv : seg cs.toList off n = some vs) :
    (loadVar t ⟨b, off, none⟩).run P w = .ok (.agg vs.toArray) w := by
  obtain ⟨hl, hat⟩ := seg_spec _ _ _ _ hv
  have := run_loadCells_list (P := P) w ⟨b, off, none⟩ vs (fun j v hj => by
    rw [addr_add]
    refine cell_at hb ?_
    have hlt : j < n := by rw [← hl]; exact (List.getElem?_eq_some_iff.1 hj).1
    have := hat j hlt
    rw [hj] at this
    simpa using this)
  rw [hl] at this
  simp [loadVar, run_isAgg_agg ht, run_sizeOf_agg ht, this]
theorem o_load {t : TypeId} {x : Operand} {ad : Addr} {v : Value} (hx : ρ x = .pointer (some ad)) (hl : (loadVar t ad).run P w = .ok v w) (h : R v w) : OpTo P ⟨d, .load t x, ty, pos, af, g⟩ ρ w R :=
  OpTo.val (v := v) (w' := w) (by simp [execOp, Instr.loadAt, Instr.sureAddr, hx, hl]) h
/-- the i-th of a list, written in full -/
def nth : List Value → Nat → Option Value
  | [], _ => none
  | x :: _, 0 => some x
  | _ :: xs, i + 1 => nth xs i
theorem nth_spec : ∀ (xs : List Value) (i : Nat), nth xs i = xs[i]?
  | [], _ => rfl
  | _ :: _, 0 => rfl
  | _ :: xs, i + 1 => by simpa [nth] using nth_spec xs i
theorem run_sizeOf {t : TypeId} {n : Nat} (h : sizeIs P t n = true) : (sizeOf t).run P w = .ok n w := by
  unfold sizeIs at h
  cases hi : P.info? t with
  | none => simp [hi] at h
  | some i => simp [hi] at h; simp [sizeOf, typeInfo, hi, h]
/-- ys in the place of what stands from off on, written in full -/
def put : List Value → Nat → List Value → Option (List Value)
  | xs, 0, [] => some xs
  | _ :: xs, 0, y :: ys => match put xs 0 ys with
    | some zs => some (y :: zs)
    | none => none
  | x :: xs, off + 1, ys => match put xs off ys with
    | some zs => some (x :: zs)
    | none => none
  | [], _, _ => none
def splice (xs : List Value) (off : Nat) (ys : List Value) : List Value := xs.take off ++ (ys ++ xs.drop (off + ys.length))
theorem put_splice : ∀ (xs : List Value) (off : Nat) (ys zs : List Value), put xs off ys = some zs → off + ys.length ≤ xs.length ∧ zs = splice xs off ys
  | xs, 0, [], zs, h => by simp [put] at h; subst h; simp [splice]
  | [], 0, y :: ys, zs, h => by simp [put] at h
  | [], off + 1, ys, zs, h => by simp [put] at h
  | x :: xs, 0, y :: ys, zs, h => by
    simp only [put] at h
    cases hp : put xs 0 ys with
    | none => simp [hp] at h
    | some us =>
      simp only [hp, Option.some.injEq] at h
      subst h
      obtain ⟨h1, rfl⟩ := put_splice xs 0 ys us hp
      exact ⟨by simp at h1 ⊢; omega, by simp [splice, Nat.add_comm]⟩
  | x :: xs, off + 1, ys, zs, h => by
    simp only [put] at h
    cases hp : put xs off ys with
    | none => simp [hp] at h
    | some us =>
      simp only [hp, Option.some.injEq] at h
      subst h
      obtain ⟨h1, rfl⟩ := put_splice xs off ys us hp
      exact ⟨by simp at h1 ⊢; omega, by simp [splice, show off + 1 + ys.length = (off + ys.length) + 1 by omega]⟩
theorem put_of : ∀ (xs : List Value) (off : Nat) (ys : List Value), off + ys.length ≤ xs.length → put xs off ys = some (splice xs off ys)
  | xs, 0, [], _ => by simp [put, splice]
  | [], 0, y :: ys, h => by simp at h
  | [], off + 1, ys, h => by simp at h
  | x :: xs, 0, y :: ys, h => by
    simp only [put]
    rw [put_of xs 0 ys (by simp at h ⊢; omega)]
    simp [splice, Nat.add_comm]
  | x :: xs, off + 1, ys, h => by
    simp only [put]
    rw [put_of xs off ys (by simp at h; omega)]
    simp [splice, show off + 1 + ys.length = (off + ys.length) + 1 by omega]
theorem splice_set (xs : List Value) (off : Nat) (v : Value) (ys : List Value) (h : off < xs.length) : splice (xs.set off v) (off + 1) ys = splice xs off (v :: ys) := by
  unfold splice
  have h1 : (xs.set off v).take (off + 1) = xs.take off ++ [v] := by
    rw [List.take_set, List.take_succ_eq_append_getElem h, List.set_append]
    simp [Nat.min_eq_left (Nat.le_of_lt h)]
  have h2 : (xs.set off v).drop (off + 1 + ys.length) = xs.drop (off + 1 + ys.length) := List.drop_set_of_lt (by omega)
  rw [h1, h2]
  simp [show off + 1 + ys.length = off + (ys.length + 1) by omega]
theorem heap_set1 {b off : Nat} {cs : Array Value} {t' : TypeId} {v : Value} (hb : w.heap[b]? = some (.cells cs t' (0, 0))) : (w.setCell ⟨b, off, none⟩ v).heap[b]? = some (.cells (cs.setIfInBounds off v) t' (0, 0)) := by
  simp [World.setCell, Array.getElem?_modify, hb]
theorem run_store1 {b off : Nat} {cs : Array Value} {t' : TypeId} {v : Value} (hb : w.heap[b]? = some (.cells cs t' (0, 0))) (hlt : off < cs.size) (h1 : v.oneCell' = true) : (store ⟨b, off, none⟩ v : Sem Unit).run P w = .ok () (w.setCell ⟨b, off, none⟩ v) := by
  have hc : w.cell? ⟨b, off, none⟩ = some cs[off] := cell_at hb (Array.getElem?_eq_getElem hlt)
  have hf : w.frozen? ⟨b, off, none⟩ = false := by simp [World.frozen?, hb]
  rw [run_store P w _ v _ h1, hc]
  simp [hf]
theorem run_storeRow {b off : Nat} {t' : TypeId} : ∀ (vs : List Value) (i : Nat) (cs : List Value) (w : World), w.heap[b]? = some (.cells cs.toArray t' (0, 0)) → off + i + vs.length ≤ cs.length → (∀ v ∈ vs, v.oneCell' = true) →
    ∃ w', (storeCells ⟨b, off, none⟩ vs i).run P w = .ok () w' ∧ Ext [b] w w' ∧ w'.heap[b]? = some (.cells (splice cs (off + i) vs).toArray t' (0, 0))
  | [], i, cs, w, hb, _, _ => ⟨w, by simp [storeCells], Ext.refl _ _, by simp [splice, hb]⟩
  | v :: vs, i, cs, w, hb, hl, h1 => by
    have hlt : off + i < cs.length := by simp at hl; omega
    have hs := run_store1 (P := P) (off := off + i) hb (by simpa using hlt) (h1 v (by simp))
    have hb' : (w.setCell ⟨b, off + i, none⟩ v).heap[b]? = some (.cells (cs.set (off + i) v).toArray t' (0, 0)) := by
      rw [heap_set1 hb]; simp
    obtain ⟨w', hr, he, hh⟩ := run_storeRow (off := off) vs (i + 1) (cs.set (off + i) v) _ hb' (by simp at hl ⊢; omega) (fun u hu => h1 u (by simp [hu]))
    refine ⟨w', ?_, (Ext.setCell w ⟨b, off + i, none⟩ v).trans he, ?_⟩
    · simp only [storeCells, addr_add, Sem.run_bind, hs, Result.andThen_ok, hr]
    · rw [hh, show off + (i + 1) = off + i + 1 by omega, splice_set _ _ _ _ hlt]
theorem o_store1E {t : TypeId} {x y : Operand} {b off : Nat} {cs cs' : List Value} {t' : TypeId} {v : Value} [hs : TSz P t 1] (M : Mem S W0 w l) (hx : ρ x = .pointer (some ⟨b, off, none⟩)) (hy : ρ y = v) (h1 : v.oneCell' = true) (hb : Has l b (.cells cs.toArray t' (0, 0))) (hp : put cs off [v] = some cs')
    (hu : Upd l b (.cells cs.toArray t' (0, 0)) (.cells cs'.toArray t' (0, 0)) l') (h : ∀ w', Ext [b] w w' → Mem S W0 w' l' → R undef w') : OpTo P ⟨d, .store t x y, ty, pos, af, g⟩ ρ w R := by
  obtain ⟨hle, rfl⟩ := put_splice _ _ _ _ hp
  have hvc : v.cells = #[v] := by cases v <;> simp_all [Value.oneCell', Value.cells]
  obtain ⟨w', hr, he, hh⟩ := run_storeRow (P := P) (off := off) [v] 0 cs w (M.heap hb) (by simpa using hle) (by simpa using h1)
  refine OpTo.skip (w' := w') ?_ (h _ he (M.turned hu he (by simpa using hh)))
  simp only [execOp, Instr.storeAt, Instr.sureAddr, hx, hy, storeVar, Sem.run_bind, Sem.run_pure, Result.andThen_ok, run_sizeOf hs.h, hvc]
  simp [hr]
/-! addresses -/
theorem o_fieldAddr {s : TypeId} {x : Operand} {i b o off : Nat} (hx : ρ x = .pointer (some ⟨b, o, none⟩)) [hf' : TFld P s i off] (h : R (.pointer (some ⟨b, o + off, none⟩)) w) : OpTo P ⟨d, .fieldAddr s x i, ty, pos, af, g⟩ ρ w R := by
  have hf := hf'.h
  unfold fieldAtB at hf
  split at hf
  · rename_i fs hu
    split at hf
    · rename_i f hfi
      simp only [Bool.and_eq_true, beq_iff_eq] at hf
      obtain ⟨rfl, hf2⟩ := hf
      split at hf2
      · rename_i i0 hi0
        have hz : ¬ i0.size = 0 := by simpa using hf2
        exact OpTo.val (v := .pointer (some ⟨b, o + f.offset, none⟩)) (w' := w) (by simp [execOp, Instr.fieldAt, Instr.sureAddr, hx, run_underlying hu, hfi, fieldPlace, sizeOf, typeInfo, hi0, hz, addr_add]) h
      · cases hf2
    · cases hf
  · cases hf
theorem o_indexArr {t e : TypeId} {x i : Operand} {k : IntKind} {b o len sz : Nat} {j : Int} (hx : ρ x = .pointer (some ⟨b, o, none⟩)) (hi : ρ i = .int k j) [ht : TU P t (.array len e)] [hs : TSz P e sz] (h0 : 0 ≤ j) (h1 : j < len) (h : R (.pointer (some ⟨b, o + j.toNat * sz, none⟩)) w) : OpTo P ⟨d, .indexAddr t x i, ty, pos, af, g⟩ ρ w R :=
  OpTo.val (v := .pointer (some ⟨b, o + j.toNat * sz, none⟩)) (w' := w) (by simp [execOp, Instr.indexAt, Instr.sureAddr, asIntOf, hx, hi, run_underlying ht.h, h0, h1, run_sizeOf hs.h, addr_add]) h
theorem o_indexSl {t e : TypeId} {x i : Operand} {k : IntKind} {b o len cap sz : Nat} {j : Int} (hx : ρ x = .slice (some ⟨b, o, none⟩) len cap) (hi : ρ i = .int k j) [ht : TU P t (.slice e)] [hs : TSz P e sz] (h0 : 0 ≤ j) (h1 : j < len) (h : R (.pointer (some ⟨b, o + j.toNat * sz, none⟩)) w) : OpTo P ⟨d, .indexAddr t x i, ty, pos, af, g⟩ ρ w R :=
  OpTo.val (v := .pointer (some ⟨b, o + j.toNat * sz, none⟩)) (w' := w) (by simp [execOp, Instr.indexAt, asIntOf, hx, hi, run_underlying ht.h, h0, h1, run_sizeOf hs.h, addr_add]) h
def okNil : Value → Bool
  | .pointer (some _) | .bool _ | .int _ _ | .string _ | .slice _ _ _ | .map _ | .agg _ => true
  | .func (.func _) _ _ => true
  | .func (.yield _) _ _ => true
  | _ => false
theorem o_nilCheck {x : Operand} {v : Value} (hx : ρ x = v) (hv : okNil v = true) (h : R v w) : OpTo P ⟨d, .nilCheck x, ty, pos, af, g⟩ ρ w R := by
  refine OpTo.val (v := v) (w' := w) ?_ h
  unfold okNil at hv
  split at hv <;> first | (simp [execOp, hx]; done) | cases hv
theorem o_extract {x : Operand} {vs : List Value} {i : Nat} {v : Value} (hx : ρ x = .tuple vs.toArray) (hv : nth vs i = some v) (h : R v w) : OpTo P ⟨d, .extract x i, ty, pos, af, g⟩ ρ w R := by
  rw [nth_spec] at hv
  exact OpTo.val (v := v) (w' := w) (by simp [execOp, Instr.extract, hx, hv]) h
theorem o_makeFunc {fn : Fn} {first cap : Array Operand} {vs us : Array Value} (h1 : first.map ρ = vs) (h2 : cap.map ρ = us) (h : R (.func fn vs us) w) : OpTo P ⟨d, .makeFunc fn first cap, ty, pos, af, g⟩ ρ w R :=
  OpTo.val (v := .func fn vs us) (w' := w) (by simp [execOp, Instr.makeFunc, h1, h2]) h
/-! calls -/
theorem run_callFunc {f : FuncId} (h : hasBody P f = true) (args : Array Value) (w : World) : (callFunc f args).run P w = .ok (.enter f args) w := by
  unfold hasBody at h
  cases hf : P.funcs[f]? with
  | none => simp [hf] at h
  | some fn =>
    simp only [hf, Bool.and_eq_true, Bool.not_eq_true'] at h
    obtain ⟨c, hc⟩ := Option.isSome_iff_exists.1 h.1
    have hn : ¬ fn.name = "runtime.NumGoroutine" := by simpa using h.2
    simp [callFunc, hf, hn, hc]
/-- a closure: what it has captured comes behind its arguments -/
theorem o_callCl {c : Operand} {f : FuncId} {xs : Array Operand} {ts : Array TypeId} {vs cap us : Array Value} (hc : ρ c = .func (.func f) #[] cap) [hb : TBody P f] (ha : xs.map ρ = vs) (hu : vs ++ cap = us) (h : Cal P f us w R) : OpTo P ⟨d, .call ⟨.value c, xs, ts⟩, ty, pos, af, g⟩ ρ w R :=
  OpTo.enter (w' := w) (by simp [execOp, resolve, invoke, Deferred.ofValue, hc, ha, hu, run_callFunc hb.h]) h
end ops
/-! when an integer fits -/
theorem w_i64 {x : Int} (h1 : -9223372036854775808 ≤ x) (h2 : x ≤ 9223372036854775807) : IntKind.i64.wrap x = x := by simp only [IntKind.wrap, IntKind.signed, IntKind.bits, Bool.true_and, Bool.false_and, decide_eq_true_eq, ge_iff_le, Bool.false_eq_true, if_false]; first | omega | (split <;> omega)
theorem fn_ofM {P : Program} {f : FuncId} {fn : Func} {c : Code} {vs : List Value} {W : World} {R : Value → World → Prop} {n : Nat} (S : List Nat)
    (hf : P.funcs[f]? = some fn) (hb : fn.body = some c) (hn : fn.ntmps = n) (hle : Nat.ble vs.length n = true)
    (h : ∀ a w, Frm a n [] (number 0 vs) → Mem S W w [] → w = W → Wp none P c (Post P fn R) a w) : Cal P f vs.toArray W R :=
  fn_of hf hb hn hle fun a F => h a W F (Mem.start S W) rfl
/-! several operands at once -/
end Go.Proofs.YtfedlkeiafcdmaaGreat
/-! LibD -/
namespace Go.Proofs.YtfedlkeiafcdmaaGreat
set_option linter.unusedVariables false
set_option linter.unusedSimpArgs false
open Go.RowKit
abbrev Pred := Value → World → Prop
/-- It comes to just v. -/
def Kn (v : Value) : Pred := fun x _ => x = v
/-- What the free operations keep. -/
structure Keep where
  /-- what an operation that may come at any time keeps -/
  r : World → World → Prop
  /-- what an operation with an effect keeps -/
  e : World → World → Prop
  refl : ∀ w, r w w
  re : ∀ {a b}, r a b → e a b
  trans : ∀ {a b c}, e a b → e b c → e a c
  size : ∀ {a b : World}, e a b → a.heap.size ≤ b.heap.size
def keepAll : Keep := ⟨Ext [], Ext [], fun w => Ext.refl [] w, id, fun h h' => h.trans h', fun h => h.size⟩
/-- What lies below n stays. -/
structure Old (n : Nat) (w w' : World) : Prop where
  os : w'.os = w.os
  tape : w'.tape = w.tape
  output : w'.output = w.output
  size : w.heap.size ≤ w'.heap.size
  dr : w.drawn ≤ w'.drawn
  block : ∀ k, k < n → k < w.heap.size → w'.heap[k]? = w.heap[k]?
theorem Old.of_ext {n : Nat} {w w' : World} (h : Ext [] w w') : Old n w w' := ⟨h.os, h.tape, h.output, h.size, h.dr, fun k _ hk => h.block k hk (by simp)⟩
theorem Old.trans {n : Nat} {a b c : World} (h : Old n a b) (k : Old n b c) : Old n a c :=
  ⟨k.os.trans h.os, k.tape.trans h.tape, k.output.trans h.output, Nat.le_trans h.size k.size, Nat.le_trans h.dr k.dr, fun i hi hs => (k.block i hi (Nat.lt_of_lt_of_le hs h.size)).trans (h.block i hi hs)⟩
theorem Old.ext {w w' : World} (h : Old w.heap.size w w') : Ext [] w w' := ⟨h.os, h.tape, h.output, h.size, h.dr, fun k hk _ => h.block k hk hk⟩
/-- The state that the operations with an effect hand on: of what they have answered, and of the world. -/
abbrev SPred := (Nat → Value) → World → Prop
def StaysT (K : Keep) (T : SPred) : Prop := ∀ σ w w', T σ w → K.r w w' → T σ w'
def noT : SPred := fun _ _ => True
theorem noT.stays (K : Keep) : StaysT K noT := fun _ _ _ _ _ => trivial
def updS (σ : Nat → Value) (i : Nat) (v : Value) : Nat → Value := fun k => if k = i then v else σ k
/-- an operation that makes one block and answers with a pointer to it -/
def isAl : Op → Bool
  | .alloc _ => true
  | .box _ _ => true
  | _ => false
def ptrTo (b : Nat) : Value := .pointer (some ⟨b, 0, none⟩)
def Stays (K : Keep) (V : Pred) : Prop := ∀ v w w', V v w → K.e w w' → V v w'
theorem Kn.stays (K : Keep) (v : Value) : Stays K (Kn v) := fun _ _ _ h _ => h
/-- What operation j has left. -/
def slotV (ops : Array Oper) (j : Nat) (a : Act) : Value := match (ops[j]?).bind (·.dst) with | some t => a.tmps.getD t undef | none => undef
def depsOf (o : Oper) : List Nat := (o.after.toList.filter (Region.binds .any)).map (·.on)
/-- By program: every slot that an operation looks at and that one of the first n writes is written by one that it waits for; no slot is written twice by the first n; none of them sits in a select. -/
def tmpsOf (ops : Array Oper) (o : Oper) : List Tmp := (o.op.operands.toList.filterMap fun | .tmp t => some t | _ => none) ++ (match o.guard with | some (j, _) => ((ops[j]?).bind (·.dst)).toList | none => [])
def regOk (ops : Array Oper) (n : Nat) : Bool :=
  (List.range n).all fun i => match ops[i]? with
    | none => false
    | some o =>
      (match o.op with | .select .. | .defer .. => false | _ => true) && (!isAl o.op || o.dst.isSome) && ((depsOf o).all fun d => decide (d < i)) &&
      ((tmpsOf ops o).all fun t => (List.range n).all fun j => match ops[j]? with
        | some oj => oj.dst != some t || (depsOf o).contains j || (depsOf oj).contains i
        | none => false) &&
      ((List.range n).all fun j => decide (j = i) || match ops[j]?, o.dst with
        | some oj, some t => oj.dst != some t
        | _, _ => true) &&
      (match o.guard with | some (j, _) => (depsOf o).contains j && ((ops[j]?).bind (·.dst)).isSome | none => true)
/-- By program: the operations Ef come in this order. -/
def effOk (ops : Array Oper) (n : Nat) : List Nat → Bool
  | [] => true
  | [e] => decide (e < n)
  | e :: e' :: r => decide (e < e') && decide (e < n) && (match ops[e']? with | some o => (depsOf o).contains e | none => false) && effOk ops n (e' :: r)
/-- An alloc (operation j) and the store into what it made (operation s; beyond the free part: none): what lies there ahead of the store (z) and behind it (f). -/
structure PairI where
  j : Nat
  s : Nat
  z : Obj
  f : Obj
def pairOk (ops : Array Oper) (n : Nat) (Ef : List Nat) (Pp : List PairI) : Bool :=
  (Pp.all fun q => decide (q.j < n) && (match ops[q.j]? with | some o => isAl o.op && o.guard.isNone | none => false) && (decide (n ≤ q.s) || (match ops[q.s]? with | some o => (depsOf o).contains q.j && o.guard.isNone | none => false))) &&
  (Pp.isEmpty || Ef.isEmpty) && (Pp.all fun q => Pp.all fun q' => (q.j != q'.j) || (q.s == q'.s))
def PPre (Pp : List PairI) (i : Nat) (sl : Nat → Value) (n0 : Nat) (w : World) : Prop := ∀ q ∈ Pp, q.s = i → ∃ b, sl q.j = ptrTo b ∧ n0 ≤ b ∧ w.heap[b]? = some q.z
def PPost (Pp : List PairI) (i : Nat) (sl : Nat → Value) (w w' : World) : Prop :=
  (∀ q ∈ Pp, q.j = i → w'.heap[w.heap.size]? = some q.z) ∧ (∀ q ∈ Pp, q.s = i → ∃ b, sl q.j = ptrTo b ∧ Ext [b] w w' ∧ w'.heap[b]? = some q.f) ∧ ((∀ q ∈ Pp, q.s ≠ i) → Pp ≠ [] → Ext [] w w')
theorem ptrTo_inj {b b' : Nat} (h : ptrTo b = ptrTo b') : b = b' := by unfold ptrTo at h; injection h with h; injection h with h; injection h
/-- what the operations Ef have left -/
def slotE (Ef X : List Nat) (ops : Array Oper) (a : Act) : Nat → Value := fun k => if k ∈ Ef ∨ k ∈ X then slotV ops k a else undef
/-- what a move or an extract makes of what it is handed -/
def relV (op : Op) (u : Value) : Option Value :=
  match op with
  | .move _ => some u
  | .extract _ i => (match u with | .tuple vs => vs[i]? | _ => none)
  | _ => none
/-- By program: operation q.1 makes something of what operation q.2 has left. -/
def relOk (ops : Array Oper) (n : Nat) (Rl : List (Nat × Nat)) : Bool :=
  Rl.all fun q => decide (q.1 < n) && decide (q.2 < n) && (match ops[q.1]? with | some o => (depsOf o).contains q.2 && o.guard.isNone && o.dst.isSome | none => false)
/-- T does not look at what operation x has left. -/
def irrT (T : SPred) (x : Nat) : Prop := ∀ σ v w, T σ w → T (updS σ x v) w
/-- By program: of each operation of X it is known that it has come where an operation with an effect behind it has come. -/
def xOk (ops : Array Oper) (n : Nat) (Ef X : List Nat) : Bool :=
  X.all fun x => decide (x < n) && !Ef.contains x && Ef.all fun e => decide (e ≤ x) || Ef.any fun e' => decide (e' ≤ e) && (match ops[e']? with | some o => (depsOf o).contains x | none => false)
section
variable {K : Keep} {Pp : List PairI} {Ef X : List Nat} {Rl : List (Nat × Nat)} {Ts : Nat → SPred} {P : Program} {r : Option Nat} {ops : Array Oper} {Q : Exit → Act → World → Prop} {nt : Nat} {df : List Deferred} {w1 : World} {a1 : Act}
/-- What holds while the first n are being carried out. -/
structure Mid (K : Keep) (Pp : List PairI) (Ef X : List Nat) (Rl : List (Nat × Nat)) (Ts : Nat → SPred) (ops : Array Oper) (n nt : Nat) (df : List Deferred) (a1 : Act) (w1 : World) (Vs : List Pred) (listed : Array Bool) (a : Act) (w : World) : Prop where
  lsize : listed.size = ops.size
  closed : ∀ j o, ops[j]? = some o → listed.getD j false = true → ∀ d ∈ depsOf o, listed.getD d false = true
  tail : ∀ t, n ≤ t → t < ops.size → listed.getD t true = false
  ext : K.e w1 w
  size : a.tmps.size = nt
  defers : a.defers = df
  base : ∀ t, (∀ j o, j < n → ops[j]? = some o → listed.getD j false = true → o.dst ≠ some t) → a.tmps.getD t undef = a1.tmps.getD t undef
  vals : ∀ j V, j < n → listed.getD j false = true → Vs[j]? = some V → V (slotV ops j a) w
  al : ∀ j o, j < n → ops[j]? = some o → isAl o.op = true → listed.getD j false = true → ∃ b, slotV ops j a = ptrTo b ∧ w1.heap.size ≤ b ∧ b < w.heap.size
  dist : ∀ i j oi oj, i < n → j < n → i ≠ j → ops[i]? = some oi → ops[j]? = some oj → isAl oi.op = true → isAl oj.op = true → listed.getD i false = true → listed.getD j false = true → slotV ops i a ≠ slotV ops j a
  st : ∃ p, Ts p (slotE Ef X ops a) w ∧ ∀ e ∈ Ef, (listed.getD e false = true ↔ e < p)
  pr : ∀ q ∈ Pp, listed.getD q.j false = true → ∃ b, slotV ops q.j a = ptrTo b ∧ w1.heap.size ≤ b ∧ w.heap[b]? = some (if listed.getD q.s false = true then q.f else q.z)
  rel : ∀ q ∈ Rl, listed.getD q.1 false = true → ∃ o, ops[q.1]? = some o ∧ relV o.op (slotV ops q.2 a) = some (slotV ops q.1 a)
def Good (K : Keep) (Pp : List PairI) (Ef X : List Nat) (Rl : List (Nat × Nat)) (Ts : Nat → SPred) (P : Program) (r : Option Nat) (ops : Array Oper) (n nt : Nat) (df : List Deferred) (a1 : Act) (w1 : World) (Vs : List Pred) (i : Nat) (V : Pred) : Prop :=
  ∀ o, ops[i]? = some o → ∀ a w, K.e w1 w → a.tmps.size = nt → a.defers = df → (∀ t, (∀ j o, j < n → ops[j]? = some o → o.dst = some t → i ∈ depsOf o ∨ j = i) → a.tmps.getD t undef = a1.tmps.getD t undef) →
    (∀ j ∈ depsOf o, ∀ U, Vs[j]? = some U → U (slotV ops j a) w) →
    (i ∈ Ef → Ts i (slotE Ef X ops a) w) → PPre Pp i (fun k => slotV ops k a) w1.heap.size w → (∀ q ∈ Rl, q.1 ∈ depsOf o → ∃ oq, ops[q.1]? = some oq ∧ relV oq.op (slotV ops q.2 a) = some (slotV ops q.1 a)) →
    if Region.wanted o (yielded ops a.tmps) then OpTo P o a.eval w fun v w' => K.e w w' ∧ V (if o.dst.isSome then v else undef) w' ∧ (isAl o.op = true → v = ptrTo w.heap.size ∧ w.heap.size < w'.heap.size) ∧ (i ∉ Ef → (∀ q ∈ Pp, q.s ≠ i) → K.r w w') ∧ (i ∈ Ef → Ts (i + 1) (updS (slotE Ef X ops a) i (if o.dst.isSome then v else undef)) w') ∧ PPost Pp i (fun k => slotV ops k a) w w' ∧ (∀ q ∈ Rl, q.1 = i → relV o.op (slotV ops q.2 a) = some (if o.dst.isSome then v else undef))
    else V undef w ∧ isAl o.op = false ∧ (i ∈ Ef → Ts (i + 1) (updS (slotE Ef X ops a) i undef) w)
theorem getD_same {listed : Array Bool} {i : Nat} (hi : i < listed.size) : (listed.setIfInBounds i true).getD i false = true := by
  simp [hi]
theorem getD_tt {listed : Array Bool} {i : Nat} (hi : i < listed.size) (h : ¬ listed.getD i false = true) : listed.getD i true = false := by
  simp [hi] at h ⊢; exact h
theorem put_getD {a : Act} {d : Option Tmp} {v : Value} {t : Nat} (h : d ≠ some t) : (a.put d v).tmps.getD t undef = a.tmps.getD t undef := by
  cases d with
  | none => rfl
  | some x =>
    have : x ≠ t := fun e => h (by rw [e])
    simp [Act.put, Array.getElem?_setIfInBounds, this]
theorem effOk_lt {n : Nat} : ∀ {l : List Nat}, effOk ops n l = true → ∀ e ∈ l, e < n
  | [], _, e, he => by cases he
  | [x], h, e, he => by simp [effOk] at h; simp at he; omega
  | x :: y :: r, h, e, he => by
    simp only [effOk, Bool.and_eq_true, decide_eq_true_eq] at h
    rcases List.mem_cons.1 he with rfl | he
    · exact h.1.1.2
    · exact effOk_lt h.2 e he
/-- all of Ef before e are waited for -/
theorem effOk_head {n : Nat} : ∀ {x : Nat} {l : List Nat}, effOk ops n (x :: l) = true → ∀ e ∈ l, x < e
  | x, [], _, e, he => by cases he
  | x, y :: r, h, e, he => by
    simp only [effOk, Bool.and_eq_true, decide_eq_true_eq] at h
    rcases List.mem_cons.1 he with rfl | he
    · exact h.1.1.1
    · have := effOk_head h.2 e he; omega
theorem effOk_listed {n : Nat} {listed : Array Bool} (hc : ∀ j o, ops[j]? = some o → listed.getD j false = true → ∀ d ∈ depsOf o, listed.getD d false = true) : ∀ {l : List Nat}, effOk ops n l = true → ∀ i o, i ∈ l → ops[i]? = some o → (∀ d ∈ depsOf o, listed.getD d false = true) → ∀ e ∈ l, e < i → listed.getD e false = true
  | [], _, i, o, hi, _, _, e, he, _ => by cases he
  | [x], _, i, o, hi, _, _, e, he, hlt => by simp at hi he; omega
  | x :: y :: r, h, i, o, hi, ho, hd, e, he, hlt => by
    have hall := effOk_head h
    simp only [effOk, Bool.and_eq_true, decide_eq_true_eq] at h
    have hi' : i ∈ y :: r := by
      rcases List.mem_cons.1 hi with rfl | hi
      · rcases List.mem_cons.1 he with rfl | he
        · omega
        · have := hall e he; omega
      · exact hi
    rcases List.mem_cons.1 he with rfl | he
    · -- e is the head: y waits for it
      have hy : ∀ oy, ops[y]? = some oy → e ∈ depsOf oy := fun oy hoy => by
        have := h.1.2
        rw [hoy] at this
        simpa using this
      by_cases ey : y = i
      · subst ey
        exact hd e (hy o ho)
      · have hyi : y < i := by
          rcases List.mem_cons.1 hi' with rfl | hi''
          · exact absurd rfl ey
          · exact effOk_head h.2 i hi''
        have hly := effOk_listed hc h.2 i o hi' ho hd y (by simp) hyi
        cases hoy : ops[y]? with
        | none => rw [hoy] at h; exact absurd h.1.2 (by simp)
        | some oy => exact hc y oy hoy hly e (hy oy hoy)
    · exact effOk_listed hc h.2 i o hi' ho hd e he hlt
/-- Between two operations with an effect the state stays. -/
theorem Ts_between (hT : ∀ k, k ∉ Ef → Ts (k + 1) = Ts k) : ∀ (m p : Nat), (∀ e ∈ Ef, p ≤ e → p + m ≤ e) → Ts (p + m) = Ts p
  | 0, _, _ => rfl
  | m + 1, p, h => by
    have h1 : p + m ∉ Ef := fun hm => by have := h _ hm (by omega); omega
    rw [show p + (m + 1) = (p + m) + 1 by omega, hT _ h1]
    exact Ts_between hT m p fun e he hp => by have := h e he hp; omega
theorem Mid.step {n : Nat} {Vs : List Pred} {listed : Array Bool} {a : Act} {w w' : World} {i : Nat} {o : Oper} {V : Pred} {v : Value} (hok : regOk ops n = true) (hs : ∀ V ∈ Vs, Stays K V) (hef : effOk ops n Ef = true) (hTs : ∀ k, StaysT K (Ts k)) (hTc : ∀ k, k ∉ Ef → Ts (k + 1) = Ts k) (hXo : xOk ops n Ef X = true) (hXT : ∀ x ∈ X, ∀ p, p ≤ x → irrT (Ts p) x) (hRo : relOk ops n Rl = true) (hpo : pairOk ops n Ef Pp = true) (M : Mid K Pp Ef X Rl Ts ops n nt df a1 w1 Vs listed a w) (hpp : PPost Pp i (fun k => slotV ops k a) w w') (hrl : ∀ q ∈ Rl, q.1 = i → relV o.op (slotV ops q.2 a) = some (if o.dst.isSome then v else undef))
    (hun : listed.getD i false = false) (hTn : Pp ≠ [] → ∀ k σ w, Ts k σ w) (hx : (i ∉ Ef → (∀ q ∈ Pp, q.s ≠ i) → K.r w w') ∧ (i ∈ Ef → Ts (i + 1) (updS (slotE Ef X ops a) i (if o.dst.isSome then v else undef)) w'))
    (hi : i < n) (ho : ops[i]? = some o) (hdeps : ∀ d ∈ depsOf o, listed.getD d false = true) (hV : Vs[i]? = some V) (he : K.e w w') (hv : V (if o.dst.isSome then v else undef) w') (hlt : ∀ d, o.dst = some d → d < nt) (hal : isAl o.op = true → v = ptrTo w.heap.size ∧ w.heap.size < w'.heap.size) :
    Mid K Pp Ef X Rl Ts ops n nt df a1 w1 Vs (listed.setIfInBounds i true) (a.put o.dst v) w' := by
  have hio : i < ops.size := (Array.getElem?_eq_some_iff.1 ho).1
  have hreg := List.all_eq_true.1 hok i (List.mem_range.2 hi)
  rw [ho] at hreg
  simp only [Bool.and_eq_true] at hreg
  obtain ⟨⟨⟨⟨⟨_, hals⟩, _⟩, _⟩, hdst⟩, _⟩ := hreg
  have hsame : slotV ops i (a.put o.dst v) = if o.dst.isSome then v else undef := by
    unfold slotV
    rw [ho]
    cases hd : o.dst with
    | none => simp [hd]
    | some d =>
      have := hlt d hd
      have hda : d < a.tmps.size := by rw [M.size]; exact this
      simp [hd, Act.put, Array.getElem?_setIfInBounds, hda]
  have hother : ∀ j, j < n → i ≠ j → slotV ops j (a.put o.dst v) = slotV ops j a := by
    intro j hj e
    unfold slotV
    cases hd : (ops[j]?).bind (·.dst) with
    | none => rfl
    | some t =>
      simp only
      refine put_getD fun hc => ?_
      have := List.all_eq_true.1 hdst j (List.mem_range.2 hj)
      rw [hc] at this
      cases hoj : ops[j]? with
      | none => rw [hoj] at hd; cases hd
      | some oj =>
        rw [hoj] at hd this
        simp only [Option.bind_some] at hd
        have hji : ¬ j = i := fun h => e h.symm
        simp [hji, hd] at this
  have halv : isAl o.op = true → slotV ops i (a.put o.dst v) = ptrTo w.heap.size ∧ w.heap.size < w'.heap.size := by
    intro ha
    have hs : o.dst.isSome = true := by simpa [ha] using hals
    rw [hsame, hs]
    simpa using hal ha
  have hxq : ∀ x ∈ X, x < n ∧ x ∉ Ef ∧ ∀ e ∈ Ef, e ≤ x ∨ ∃ e' ∈ Ef, e' ≤ e ∧ ∃ o, ops[e']? = some o ∧ x ∈ depsOf o := by
    intro x hx
    have h := List.all_eq_true.1 hXo x hx
    simp only [Bool.and_eq_true, decide_eq_true_eq, Bool.not_eq_true'] at h
    refine ⟨h.1.1, by simpa using h.1.2, fun e he => ?_⟩
    have h2 := List.all_eq_true.1 h.2 e he
    simp only [Bool.or_eq_true, decide_eq_true_eq] at h2
    rcases h2 with h2 | h2
    · exact .inl h2
    · obtain ⟨e', he', h3⟩ := List.any_eq_true.1 h2
      simp only [Bool.and_eq_true, decide_eq_true_eq] at h3
      refine .inr ⟨e', he', h3.1, ?_⟩
      have h4 := h3.2
      split at h4
      · rename_i o' ho'
        exact ⟨o', ho', by simpa using h4⟩
      · cases h4
  have hslotE : slotE Ef X ops (a.put o.dst v) = if i ∈ Ef ∨ i ∈ X then updS (slotE Ef X ops a) i (if o.dst.isSome then v else undef) else slotE Ef X ops a := by
    have hkn : ∀ k, k ∈ Ef ∨ k ∈ X → k < n := fun k hk => hk.elim (effOk_lt hef k) fun h => (hxq k h).1
    funext k
    by_cases hiE : i ∈ Ef ∨ i ∈ X
    · rw [if_pos hiE]
      unfold updS
      by_cases ek : k = i
      · subst ek
        simp only [if_true, slotE, hiE]
        exact hsame
      · simp only [if_neg ek, slotE]
        split
        · rename_i hk
          exact hother k (hkn k hk) (fun h => ek h.symm)
        · rfl
    · rw [if_neg hiE]
      simp only [slotE]
      split
      · rename_i hk
        exact hother k (hkn k hk) (fun h => hiE (h ▸ hk))
      · rfl
  simp only [pairOk, Bool.and_eq_true] at hpo
  have hpq : ∀ q ∈ Pp, q.j < n ∧ (∃ o, ops[q.j]? = some o ∧ isAl o.op = true) ∧ (q.s < n → ∃ o, ops[q.s]? = some o ∧ q.j ∈ depsOf o) := by
    intro q hq
    have h := List.all_eq_true.1 hpo.1.1 q hq
    simp only [Bool.and_eq_true, decide_eq_true_eq, Bool.or_eq_true] at h
    refine ⟨h.1.1, ?_, fun hs => ?_⟩
    · cases ho' : ops[q.j]? with
      | none => rw [ho'] at h; exact absurd h.1.2 (by simp)
      | some o' => rw [ho'] at h; simp only [Bool.and_eq_true] at h; exact ⟨o', rfl, h.1.2.1⟩
    · have h2 := h.2.resolve_left (by omega)
      cases ho' : ops[q.s]? with
      | none => rw [ho'] at h2; exact absurd h2 (by simp)
      | some o' => rw [ho'] at h2; simp only [Bool.and_eq_true] at h2; exact ⟨o', rfl, by simpa using h2.1⟩
  have hsn : ∀ q ∈ Pp, n ≤ q.s → listed.getD q.s false = false := by
    intro q hq hs
    rcases Nat.lt_or_ge q.s ops.size with h | h
    · have := M.tail q.s hs h
      have hl : q.s < listed.size := by rw [M.lsize]; exact h
      simp [hl] at this ⊢; exact this
    · have hl : listed.size ≤ q.s := by rw [M.lsize]; exact h
      simp [hl]
  refine ⟨by simp [M.lsize], ?_, ?_, K.trans M.ext he, ?_, ?_, ?_, ?_, ?_, ?_, ?_, ?_, ?_⟩
  · intro j oj hj hl d hd
    by_cases e : i = j
    · subst e
      obtain rfl : o = oj := Option.some.inj (ho.symm.trans hj)
      exact getD_set_true (hdeps d hd)
    · rw [getD_set_ne false e] at hl
      exact getD_set_true (M.closed j oj hj hl d hd)
  · intro t ht hts
    rw [getD_set_ne true (by omega)]
    exact M.tail t ht hts
  · cases o.dst <;> simp [Act.put, M.size]
  · cases o.dst <;> simp [Act.put, M.defers]
  · intro t ht
    rw [put_getD (ht i o hi ho (getD_same (by rw [M.lsize]; exact hio)))]
    exact M.base t fun j oj hj hoj hl => ht j oj hj hoj (getD_set_true hl)
  · intro j U hj hl hU
    by_cases e : i = j
    · subst e
      obtain rfl : V = U := Option.some.inj (hV.symm.trans hU)
      rw [hsame]
      exact hv
    · rw [getD_set_ne false e] at hl
      have h0 := M.vals j U hj hl hU
      rw [hother j hj e]
      exact hs U (List.mem_of_getElem? hU) _ _ _ h0 he
  · intro j oj hj hoj ha hl
    by_cases e : i = j
    · subst e
      obtain rfl : o = oj := Option.some.inj (ho.symm.trans hoj)
      obtain ⟨h1, h2⟩ := halv ha
      exact ⟨_, h1, K.size M.ext, h2⟩
    · rw [getD_set_ne false e] at hl
      obtain ⟨b, h1, h2, h3⟩ := M.al j oj hj hoj ha hl
      exact ⟨b, by rw [hother j hj e, h1], h2, Nat.lt_of_lt_of_le h3 (K.size he)⟩
  · intro x y ox oy hx hy hne hox hoy hax hay hlx hly
    by_cases ex : i = x
    · subst ex
      obtain rfl : o = ox := Option.some.inj (ho.symm.trans hox)
      have ey : i ≠ y := hne
      rw [getD_set_ne false ey] at hly
      obtain ⟨b, h1, h2, h3⟩ := M.al y oy hy hoy hay hly
      rw [(halv hax).1, hother y hy ey, h1]
      intro hc
      have he : w.heap.size = b := by unfold ptrTo at hc; injection hc with hc; injection hc with hc; injection hc
      omega
    · rw [getD_set_ne false ex] at hlx
      by_cases ey : i = y
      · subst ey
        obtain rfl : o = oy := Option.some.inj (ho.symm.trans hoy)
        obtain ⟨b, h1, h2, h3⟩ := M.al x ox hx hox hax hlx
        rw [(halv hay).1, hother x hx ex, h1]
        intro hc
        have he : b = w.heap.size := by unfold ptrTo at hc; injection hc with hc; injection hc with hc; injection hc
        omega
      · rw [getD_set_ne false ey] at hly
        rw [hother x hx ex, hother y hy ey]
        exact M.dist x y ox oy hx hy hne hox hoy hax hay hlx hly
  · obtain ⟨p, hp, hpl⟩ := M.st
    rw [hslotE]
    by_cases hiE : i ∈ Ef
    · rw [if_pos (.inl hiE)]
      refine ⟨i + 1, hx.2 hiE, fun e heE => ?_⟩
      have hbefore := effOk_listed M.closed hef i o hiE ho hdeps
      have hip : ¬ i < p := fun h => by have := (hpl i hiE).2 h; rw [hun] at this; cases this
      by_cases e1 : i = e
      · subst e1
        exact ⟨fun _ => by omega, fun _ => getD_same (by rw [M.lsize]; exact hio)⟩
      · rw [getD_set_ne false e1]
        constructor
        · intro hl
          have := (hpl e heE).1 hl
          omega
        · intro hl
          exact hbefore e heE (by omega)
    · have hTp0 : Ts p (slotE Ef X ops a) w' := by
        by_cases hne : Pp = []
        · exact hTs p _ _ _ hp (hx.1 hiE (by rw [hne]; simp))
        · exact hTn hne p _ _
      have hTp : Ts p (if i ∈ Ef ∨ i ∈ X then updS (slotE Ef X ops a) i (if o.dst.isSome then v else undef) else slotE Ef X ops a) w' := by
        by_cases hiX : i ∈ X
        · rw [if_pos (.inr hiX)]
          rcases Nat.lt_or_ge i p with hip | hip
          · have hbt := Ts_between hTc (p - (i + 1)) (i + 1) fun e he hie => by
              rcases (hxq i hiX).2.2 e he with h1 | ⟨e', he', h1, oe, hoe, h2⟩
              · omega
              · have hne' : ¬ e' < p := fun h => by
                  have hl := M.closed e' oe hoe ((hpl e' he').2 h) i h2
                  rw [hun] at hl; cases hl
                omega
            rw [show i + 1 + (p - (i + 1)) = p by omega, hTc i hiE] at hbt
            rw [hbt] at hTp0 ⊢
            exact hXT i hiX i (Nat.le_refl _) _ _ _ hTp0
          · exact hXT i hiX p hip _ _ _ hTp0
        · rw [if_neg (fun h => h.elim hiE hiX)]
          exact hTp0
      refine ⟨p, hTp, fun e heE => ?_⟩
      rw [getD_set_ne false (fun h : i = e => hiE (by rw [h]; exact heE))]
      exact hpl e heE
  · intro q hq hl
    obtain ⟨hqj, ⟨oj, hoj, haj⟩, hqs⟩ := hpq q hq
    by_cases ej : i = q.j
    · -- the alloc itself
      have hL : (listed.setIfInBounds i true).getD q.s false = false := by
        rcases Nat.lt_or_ge q.s n with hs | hs
        · obtain ⟨os, hos, hd⟩ := hqs hs
          have hne : i ≠ q.s := by
            intro e
            have hr := List.all_eq_true.1 hok q.s (List.mem_range.2 hs)
            rw [hos] at hr
            simp only [Bool.and_eq_true] at hr
            have := List.all_eq_true.1 hr.1.1.1.2 q.j hd
            simp at this
            omega
          rw [getD_set_ne false hne]
          cases hls : listed.getD q.s false with
          | false => rfl
          | true =>
            have := M.closed q.s os hos hls q.j hd
            rw [← ej, hun] at this; cases this
        · rw [getD_set_ne false (by omega)]
          exact hsn q hq hs
      obtain rfl : o = oj := Option.some.inj (ho.symm.trans (by rw [ej]; exact hoj))
      obtain ⟨h1, h2⟩ := halv haj
      refine ⟨w.heap.size, by rw [← ej]; exact h1, K.size M.ext, ?_⟩
      rw [hL]
      simpa using hpp.1 q hq ej.symm
    · rw [getD_set_ne false ej] at hl
      obtain ⟨b, hb1, hb2, hb3⟩ := M.pr q hq hl
      refine ⟨b, by rw [hother q.j hqj ej]; exact hb1, hb2, ?_⟩
      by_cases es : i = q.s
      · obtain ⟨b', g1, g2, g3⟩ := hpp.2.1 q hq es.symm
        have hbb : b = b' := ptrTo_inj (hb1.symm.trans g1)
        subst hbb
        rw [show (listed.setIfInBounds i true).getD q.s false = true by rw [← es]; exact getD_same (by rw [M.lsize]; exact hio)]
        simpa using g3
      · rw [getD_set_ne false es]
        rw [← hb3]
        by_cases hex : ∃ q2 ∈ Pp, q2.s = i
        · obtain ⟨q2, hq2, e2⟩ := hex
          obtain ⟨b2, g1, g2, g3⟩ := hpp.2.1 q2 hq2 e2
          obtain ⟨hq2j, ⟨oj2, hoj2, haj2⟩, hq2s⟩ := hpq q2 hq2
          have hl2 : listed.getD q2.j false = true := by
            obtain ⟨os, hos, hd⟩ := hq2s (by omega)
            obtain rfl : o = os := Option.some.inj (ho.symm.trans (by rw [← e2]; exact hos))
            exact hdeps _ hd
          have hjj : q.j ≠ q2.j := by
            intro e
            have := List.all_eq_true.1 (List.all_eq_true.1 hpo.2 q hq) q2 hq2
            simp [e] at this
            omega
          have hne : slotV ops q.j a ≠ slotV ops q2.j a := M.dist q.j q2.j oj oj2 hqj hq2j hjj hoj hoj2 haj haj2 hl hl2
          have hbne : b ∉ [b2] := by
            simp only [List.mem_singleton]
            intro e
            apply hne
            have g1' : slotV ops q2.j a = ptrTo b2 := g1
            rw [hb1, g1', e]
          exact g2.block b (Array.getElem?_eq_some_iff.1 hb3).1 hbne
        · have hE := hpp.2.2 (fun q2 hq2 e2 => hex ⟨q2, hq2, e2⟩) (fun h => by rw [h] at hq; cases hq)
          exact hE.block b (Array.getElem?_eq_some_iff.1 hb3).1 (by simp)
  · intro q hq hl
    have h := List.all_eq_true.1 hRo q hq
    simp only [Bool.and_eq_true, decide_eq_true_eq] at h
    by_cases ej : i = q.1
    · refine ⟨o, by rw [← ej]; exact ho, ?_⟩
      have h3 := h.2
      rw [← ej, ho] at h3
      simp only [Bool.and_eq_true] at h3
      have hne : i ≠ q.2 := fun e => by
        have hd := hdeps q.2 (by simpa using h3.1.1)
        rw [← e, hun] at hd
        cases hd
      rw [← ej, hsame, hother q.2 h.1.2 hne]
      exact hrl q hq ej.symm
    · rw [getD_set_ne false ej] at hl
      obtain ⟨oq, hoq, hr⟩ := M.rel q hq hl
      refine ⟨oq, hoq, ?_⟩
      have h3 := h.2
      rw [hoq] at h3
      simp only [Bool.and_eq_true] at h3
      have hne : i ≠ q.2 := fun e => by
        have hd := M.closed q.1 oq hoq hl q.2 (by simpa using h3.1.1)
        rw [← e, hun] at hd
        cases hd
      rw [hother q.1 h.1.1 ej, hother q.2 h.1.2 hne]
      exact hr
/-- what is known of a pair, where its store may come -/
theorem Mid.pre {n : Nat} {Vs : List Pred} {listed : Array Bool} {a : Act} {w : World} {i : Nat} {o : Oper} (hpo : pairOk ops n Ef Pp = true) (M : Mid K Pp Ef X Rl Ts ops n nt df a1 w1 Vs listed a w) (hi : i < n) (ho : ops[i]? = some o)
    (hun : listed.getD i false = false) (hdeps : ∀ d ∈ depsOf o, listed.getD d false = true) : PPre Pp i (fun k => slotV ops k a) w1.heap.size w := by
  intro q hq e
  simp only [pairOk, Bool.and_eq_true] at hpo
  have h := List.all_eq_true.1 hpo.1.1 q hq
  simp only [Bool.and_eq_true, decide_eq_true_eq, Bool.or_eq_true] at h
  have h2 := h.2.resolve_left (by omega)
  rw [e, ho] at h2
  simp only [Bool.and_eq_true] at h2
  obtain ⟨b, h3, h4, h5⟩ := M.pr q hq (hdeps q.j (by simpa using h2.1))
  rw [e, hun] at h5
  exact ⟨b, h3, h4, by simpa using h5⟩
/-- the state behind all -/
theorem Mid.last {n : Nat} {Vs : List Pred} {listed : Array Bool} {a : Act} {w : World} (hef : effOk ops n Ef = true) (hTc : ∀ k, k ∉ Ef → Ts (k + 1) = Ts k) (M : Mid K Pp Ef X Rl Ts ops n nt df a1 w1 Vs listed a w) (hall : ∀ i, i < n → listed.getD i false = true) : ∃ m, n ≤ m ∧ Ts m (slotE Ef X ops a) w ∧ Ts m = Ts n := by
  obtain ⟨p, hp, hpl⟩ := M.st
  rcases Nat.lt_or_ge p n with h | h
  · have := Ts_between hTc (n - p) p fun e he hpe => by
      have h1 := (hpl e he).1 (hall e (effOk_lt hef e he)); omega
    rw [show p + (n - p) = n by omega] at this
    exact ⟨n, Nat.le_refl _, by rw [this]; exact hp, rfl⟩
  · have := Ts_between hTc (p - n) n fun e he hpe => by
      have h1 := effOk_lt hef e he; omega
    rw [show n + (p - n) = p by omega] at this
    exact ⟨p, h, hp, this⟩
theorem filter_one {p q : Nat → Bool} {i : Nat} : ∀ {L : List Nat}, L.Nodup → i ∈ L → p i = true → q i = false → (∀ j, j ≠ i → p j = q j) → (L.filter p).length = (L.filter q).length + 1
  | [], _, h, _, _, _ => by cases h
  | x :: L, hnd, h, hp, hq, hpq => by
    have hnd' := List.nodup_cons.1 hnd
    by_cases e : x = i
    · subst e
      have : L.filter p = L.filter q := List.filter_congr fun j hj => hpq j (fun h => hnd'.1 (h ▸ hj))
      simp [hp, hq, this]
    · have hm : i ∈ L := (List.mem_cons.1 h).resolve_left (fun h => e h.symm)
      have ih := filter_one hnd'.2 hm hp hq hpq
      have hx := hpq x e
      cases hqx : q x
      · rw [hqx] at hx; simp [hx, hqx, ih]
      · rw [hqx] at hx; simp [hx, hqx, ih]
end
end Go.Proofs.YtfedlkeiafcdmaaGreat
/-! LibE -/
namespace Go.Proofs.YtfedlkeiafcdmaaGreat
set_option linter.unusedVariables false
set_option linter.unusedSimpArgs false
open Go.RowKit
structure Cov (ops : Array Oper) (n nt : Nat) (a1 : Act) (fr : List (Nat × Value)) (Vs : List Pred) : Prop where
  c : ∀ t v, look fr t = some v → ((∀ j o, j < Vs.length → ops[j]? = some o → o.dst ≠ some t) ∧ a1.tmps.getD t undef = v) ∨ (∃ j o, j < Vs.length ∧ ops[j]? = some o ∧ o.dst = some t ∧ Vs[j]? = some (Kn v) ∧ t < nt)
structure RC where
  K : Keep
  Ef : List Nat
  Pp : List PairI
  P : Program
  r : Option Nat
  ops : Array Oper
  n : Nat
  nt : Nat
  df : List Deferred
  a1 : Act
  w1 : World
  Q : Exit → Act → World → Prop
  X : List Nat
  Rl : List (Nat × Nat)
/-- T looks at none of those of X that are still to come -/
def XT (c : RC) (k : Nat) (T : SPred) : Prop := ∀ x ∈ c.X, k ≤ x → irrT T x
theorem XT.succ {c : RC} {k : Nat} {T : SPred} (h : XT c k T) : XT c (k + 1) T := fun x hx hk => h x hx (by omega)
theorem XT.nil {c : RC} (h : c.X = []) {k : Nat} {T : SPred} : XT c k T := fun x hx => by rw [h] at hx; cases hx
/-- what is asked of the pairs -/
def PK (c : RC) : Prop := (pairOk c.ops c.n c.Ef c.Pp = true ∧ relOk c.ops c.n c.Rl = true) ∧ (c.Pp ≠ [] → ∀ w w', c.K.r w w' → Ext [] w w')
/-- The rest of the walk; T: the state so far. -/
def MW0 (c : RC) (rest : List Oper) (fr : List (Nat × Value)) (Vs : List Pred) (T : SPred) : Prop :=
  c.ops.toList.drop Vs.length = rest → Cov c.ops c.n c.nt c.a1 fr Vs → Vs.length ≤ c.n → c.a1.tmps.size = c.nt →
    ∃ (Us : List Pred) (Ts : Nat → SPred), (Vs ++ Us).length = c.n ∧ (∀ V ∈ Us, Stays c.K V) ∧ Ts Vs.length = T ∧ (∀ k, Vs.length < k → StaysT c.K (Ts k)) ∧ (∀ k, Vs.length ≤ k → k ∉ c.Ef → Ts (k + 1) = Ts k) ∧ (∀ k, Vs.length ≤ k → XT c k (Ts k)) ∧
      (∀ Ts', (∀ k, Vs.length ≤ k → Ts' k = Ts k) → (∀ i V, Us[i]? = some V → Good c.K c.Pp c.Ef c.X c.Rl Ts' c.P c.r c.ops c.n c.nt c.df c.a1 c.w1 (Vs ++ Us) (Vs.length + i) V) ∧
      (∀ listed a w, Mid c.K c.Pp c.Ef c.X c.Rl Ts' c.ops c.n c.nt c.df c.a1 c.w1 (Vs ++ Us) listed a w → (∀ i, i < c.n → listed.getD i false = true) → Ts' c.n (slotE c.Ef c.X c.ops a) w → wpListIn (FW c.r) 0 c.P c.ops c.Q (c.ops.toList.drop c.n) a w))
section
variable {c : RC} {fr : List (Nat × Value)} {Vs : List Pred}
end
/-! ### the rules, with the number of what has been walked written out. K: the value is known; X: it is told by a predicate; KX: known, and what it waits for is told by predicates; G: guarded, and carried out; Off: passed over; N: it writes no slot; E: it has an effect -/
def MW (c : RC) (k : Nat) (rest : List Oper) (fr : List (Nat × Value)) (Vs : List Pred) (T : SPred) : Prop := Vs.length = k → (StaysT c.K T ∧ XT c k T) → PK c → MW0 c rest fr Vs T
theorem PPost.none {Pp : List PairI} (h : Pp = []) {i : Nat} {sl : Nat → Value} {w w' : World} : PPost Pp i sl w w' := by
  subst h; exact ⟨by simp, by simp, fun _ h => absurd rfl h⟩
/-- a pointer to a block, from n0 on, that holds o -/
def Al (n0 : Nat) (o : Obj) : Pred := fun v w => ∃ b, v = ptrTo b ∧ n0 ≤ b ∧ w.heap[b]? = some o
theorem Al.stays (n0 : Nat) (o : Obj) : Stays keepAll (Al n0 o) := fun v w w' ⟨b, h1, h2, h3⟩ h => ⟨b, h1, h2, by
  rw [Ext.block h b (Array.getElem?_eq_some_iff.1 h3).1 (by simp)]; exact h3⟩
section
variable {c : RC} {fr : List (Nat × Value)} {Vs : List Pred} {T T' : SPred} {rest : List Oper} {d : Nat} {op : Op} {ty : TypeId} {pos : String} {af : Array Edge} {ix : Nat}
end
/-- One block among the known ones may go from o to o'. -/
def keepOne (S : List Nat) (W0 : World) (l : List (Nat × Obj)) (b : Nat) (o o' : Obj) : Keep where
  r w w' := ((Mem S W0 w ((b, o) :: l) → Mem S W0 w' ((b, o) :: l) ∨ Mem S W0 w' ((b, o') :: l)) ∧ (Mem S W0 w ((b, o') :: l) → Mem S W0 w' ((b, o') :: l))) ∧ w.heap.size ≤ w'.heap.size
  e w w' := ((Mem S W0 w ((b, o) :: l) → Mem S W0 w' ((b, o) :: l) ∨ Mem S W0 w' ((b, o') :: l)) ∧ (Mem S W0 w ((b, o') :: l) → Mem S W0 w' ((b, o') :: l))) ∧ w.heap.size ≤ w'.heap.size
  refl _ := ⟨⟨.inl, id⟩, Nat.le_refl _⟩
  re h := h
  trans h1 h2 := ⟨⟨fun M => (h1.1.1 M).elim h2.1.1 fun M' => .inr (h2.1.2 M'), fun M => h2.1.2 (h1.1.2 M)⟩, Nat.le_trans h1.2 h2.2⟩
  size h := h.2
theorem keepOne.later {S : List Nat} {W0 w w' : World} {l : List (Nat × Obj)} {b : Nat} {o o' : Obj} (M : Mem S W0 w ((b, o) :: l)) (h : (keepOne S W0 l b o o').e w w') : Mem S W0 w' l :=
  (h.1.1 M).elim (·.sub (List.sublist_cons_self _ _)) (·.sub (List.sublist_cons_self _ _))
theorem keepOne.stays (S : List Nat) (W0 : World) (l : List (Nat × Obj)) (b : Nat) (o o' : Obj) : Stays (keepOne S W0 l b o o') (fun _ w => Mem S W0 w ((b, o') :: l)) := fun _ _ _ h k => k.1.2 h
theorem keepOne.put {S : List Nat} {W0 w w' : World} {l : List (Nat × Obj)} {b : Nat} {o o' : Obj} (hs : w.heap.size ≤ w'.heap.size) (h : Mem S W0 w' ((b, o') :: l)) : (keepOne S W0 l b o o').r w w' ∧ Mem S W0 w' ((b, o') :: l) := ⟨⟨⟨fun _ => .inr h, fun _ => h⟩, hs⟩, h⟩
section
variable {P : Program} {r : Option Nat} {Q : Exit → Act → World → Prop} {a : Act} {w : World} {nt : Nat} {df : List Deferred} {fr : List (Nat × Value)} {id : Nat} {ol : List Oper} {S : List Nat} {W0 : World} {l : List (Nat × Obj)}
end
theorem Mem.al {S : List Nat} {W0 w w1 : World} {l pre : List (Nat × Obj)} {b : Nat} {o : Obj} (M : Mem S W0 w (pre ++ l)) (M1 : Mem S W0 w1 l) (h : w.heap[b]? = some o) (hn : w1.heap.size ≤ b) (hp : ∀ p ∈ pre, ptrTo p.1 ≠ ptrTo b) : Mem S W0 w ((b, o) :: (pre ++ l)) :=
  M.cons h (fun p hm => by
    rcases List.mem_append.1 hm with h1 | h1
    · exact fun e => hp p h1 (by rw [e])
    · have := M1.lt h1; omega) (.inr (Nat.le_trans M1.ext.size hn))
end Go.Proofs.YtfedlkeiafcdmaaGreat
/-! LibF -/
namespace Go.Proofs.YtfedlkeiafcdmaaGreat
set_option linter.unusedVariables false
set_option linter.unusedSimpArgs false
open Go.RowKit
def fieldTyB (P : Program) (s : TypeId) (i off : Nat) (ft : TypeId) : Bool :=
  match P.underlying s with
  | some (.struct fs) => match fs[i]? with
    | some f => f.offset == off && f.type == ft
    | none => false
  | _ => false
class TFldT (P : Program) (s : TypeId) (i : Nat) (off : outParam Nat) (ft : outParam TypeId) : Prop where h : fieldTyB P s i off ft = true
theorem fieldTyB_spec {P : Program} {s : TypeId} {i off : Nat} {ft : TypeId} (h : fieldTyB P s i off ft = true) : ∃ fs f, P.underlying s = some (.struct fs) ∧ fs[i]? = some f ∧ f.offset = off ∧ f.type = ft := by
  unfold fieldTyB at h
  split at h
  · rename_i fs hu
    split at h
    · rename_i f hf
      simp only [Bool.and_eq_true, beq_iff_eq] at h
      exact ⟨fs, f, hu, hf, h.1, h.2⟩
    · cases h
  · cases h
section ops
variable {P : Program} {ρ : Operand → Value} {w W0 : World} {S : List Nat} {l l' : List (Nat × Obj)} {R : Value → World → Prop} {d : Option Tmp} {ty : TypeId} {pos : String} {af : Array Edge} {g : Option (Nat × Bool)}
theorem run_part1 {t : TypeId} {cs : List Value} {off : Nat} {v : Value} (ht : oneTy P t = true) (hv : nth cs off = some v) : (part t cs.toArray off).run P w = .ok v w := by
  rw [nth_spec] at hv
  simp [part, run_isAgg_one ht, hv]
theorem run_partA {t : TypeId} {cs vs : List Value} {off n : Nat} (ht : aggTy P t n = true) (hv : seg cs off n = some vs) : (part t cs.toArray off).run P w = .ok (.agg vs.toArray) w := by
  obtain ⟨hl, hat⟩ := seg_spec _ _ _ _ hv
  have he : cs.toArray.extract off (off + n) = vs.toArray := by
    apply Array.ext'
    simp only [List.extract_toArray, List.extract_eq_take_drop, Nat.add_sub_cancel_left]
    apply List.ext_getElem?
    intro j
    by_cases hj : j < n
    · rw [List.getElem?_take, if_pos hj, List.getElem?_drop]; exact hat j hj
    · rw [List.getElem?_take, if_neg hj, List.getElem?_eq_none (by omega)]
  simp only [part, Sem.run_bind, run_isAgg_agg ht, Result.andThen_ok, if_true, run_sizeOf_agg ht, he, Sem.run_pure]
theorem o_field1 {s ft : TypeId} {x : Operand} {i off : Nat} {cs : List Value} {v : Value} (hx : ρ x = .agg cs.toArray) [hf : TFldT P s i off ft] [ht : TOne P ft] (hv : nth cs off = some v) (h : R v w) : OpTo P ⟨d, .field s x i, ty, pos, af, g⟩ ρ w R := by
  obtain ⟨fs, f, hu, hfi, rfl, rfl⟩ := fieldTyB_spec hf.h
  exact OpTo.val (v := v) (w' := w) (by simp [execOp, Instr.field, hx, run_underlying hu, hfi, asAgg, run_part1 ht.h hv]) h
theorem o_fieldA {s ft : TypeId} {x : Operand} {i off n : Nat} {cs vs : List Value} (hx : ρ x = .agg cs.toArray) [hf : TFldT P s i off ft] [ht : TAgg P ft n] (hv : seg cs off n = some vs) (h : R (.agg vs.toArray) w) : OpTo P ⟨d, .field s x i, ty, pos, af, g⟩ ρ w R := by
  obtain ⟨fs, f, hu, hfi, rfl, rfl⟩ := fieldTyB_spec hf.h
  exact OpTo.val (v := .agg vs.toArray) (w' := w) (by simp [execOp, Instr.field, hx, run_underlying hu, hfi, asAgg, run_partA ht.h hv]) h
/-- an element of an array value -/
theorem o_indexV {t e : TypeId} {x i : Operand} {k : IntKind} {j : Int} {len : Nat} {cs : List Value} {v : Value} (hx : ρ x = .agg cs.toArray) (hi : ρ i = .int k j) [ht : TU P t (.array len e)] [hs : TSz P e 1] [h1 : TOne P e] (h0 : 0 ≤ j) (hl : j < len) (hv : nth cs j.toNat = some v) (h : R v w) : OpTo P ⟨d, .index t x i, ty, pos, af, g⟩ ρ w R :=
  OpTo.val (v := v) (w' := w) (by simp [execOp, Instr.index, hx, hi, asIntOf, run_underlying ht.h, h0, hl, run_sizeOf hs.h, run_part1 h1.h hv]) h
/-! strings -/
theorem o_indexStr {t : TypeId} {x i : Operand} {k : IntKind} {j : Int} {s : ByteArray} {b : UInt8} (hx : ρ x = .string s) (hi : ρ i = .int k j) [ht : TU P t .string] (h0 : 0 ≤ j) (hv : s[j.toNat]? = some b) (h : R (.int .u8 b.toNat) w) : OpTo P ⟨d, .index t x i, ty, pos, af, g⟩ ρ w R :=
  OpTo.val (v := .int .u8 b.toNat) (w' := w) (by simp [execOp, Instr.index, hx, hi, asIntOf, run_underlying ht.h, h0, hv]) h
/-! literals of structs and arrays -/
def layOf (P : Program) (t : TypeId) : Option (List (Nat × Nat)) :=
  match P.underlying t with
  | some (.struct fs) => fs.toList.mapM fun f => (P.info? f.type).map fun i => (f.offset, i.size)
  | some (.array n e) => (P.info? e).map fun i => (List.range n).map fun j => (j * i.size, i.size)
  | _ => none
/-- where the parts of a struct or an array lie, and their sizes -/
class TLay (P : Program) (t : TypeId) (pl : outParam (List (Nat × Nat))) : Prop where h : layOf P t = some pl
def nthP : List (Nat × Nat) → Nat → Option (Nat × Nat)
  | [], _ => none
  | x :: _, 0 => some x
  | _ :: xs, i + 1 => nthP xs i
theorem nthP_spec : ∀ (xs : List (Nat × Nat)) (i : Nat), nthP xs i = xs[i]?
  | [], _ => rfl
  | _ :: _, 0 => rfl
  | _ :: xs, i + 1 => by simpa [nthP] using nthP_spec xs i
/-- the cells of the literal, written in full -/
def putAll (pl : List (Nat × Nat)) : List Value → List (Nat × List Value) → Option (List Value)
  | z, [] => some z
  | z, (i, cs) :: rest => match nthP pl i with
    | some (off, size) => match Nat.beq cs.length size with
      | true => match put z off cs with
        | some z' => putAll pl z' rest
        | none => none
      | false => none
    | none => none
theorem fold_put (off : Nat) : ∀ (vs : List Value) (i : Nat) (cs : List Value), off + i + vs.length ≤ cs.length →
    (vs.zipIdx i).foldl (fun (cs : Array Value) (p : Value × Nat) => cs.setIfInBounds (off + p.2) p.1) cs.toArray = (splice cs (off + i) vs).toArray
  | [], i, cs, _ => by simp [splice]
  | v :: vs, i, cs, h => by
    have hlt : off + i < cs.length := by simp at h; omega
    have ih := fold_put off vs (i + 1) (cs.set (off + i) v) (by simp at h ⊢; omega)
    simp only [List.zipIdx_cons, List.foldl_cons, List.setIfInBounds_toArray]
    rw [ih, show off + (i + 1) = off + i + 1 by omega, splice_set _ _ _ _ hlt]
theorem fill_put {place : Nat → Option (Nat × Nat)} {pl : List (Nat × Nat)} (hp : ∀ i o, nthP pl i = some o → place i = some o) : ∀ (parts : List (Nat × List Value)) (vals : List (Nat × Value)) (z cs : List Value),
    vals.map (fun p => (p.1, p.2.cells.toList)) = parts → putAll pl z parts = some cs → Instr.fill place z.toArray vals = some cs.toArray
  | [], vals, z, cs, hv, h => by
    have : vals = [] := by simpa using hv
    subst this
    simp [putAll] at h; subst h; rfl
  | (i, us) :: parts, vals, z, cs, hv, h => by
    obtain ⟨⟨i', v⟩, vals, rfl⟩ : ∃ p r, vals = p :: r := by cases vals with | nil => simp at hv | cons p r => exact ⟨p, r, rfl⟩
    simp only [List.map_cons, List.cons.injEq, Prod.mk.injEq] at hv
    obtain ⟨⟨rfl, rfl⟩, hv⟩ := hv
    simp only [putAll] at h
    cases hn : nthP pl i' with
    | none => simp [hn] at h
    | some o =>
      obtain ⟨off, size⟩ := o
      rw [hn] at h
      simp only at h
      cases hb : Nat.beq v.cells.toList.length size with
      | false => rw [hb] at h; cases h
      | true =>
        rw [hb] at h
        simp only at h
        cases hq : put z off v.cells.toList with
        | none => simp [hq] at h
        | some z' =>
          rw [hq] at h
          simp only at h
          obtain ⟨hle, rfl⟩ := put_splice _ _ _ _ hq
          have hsz : v.cells.size = size := by simpa using Nat.eq_of_beq_eq_true hb
          have hle' : ¬ off + v.cells.size > z.length := by simpa using hle
          have hfold := fold_put off v.cells.toList 0 z (by simpa using hle)
          have hfold' : v.cells.zipIdx.foldl (fun (cs : Array Value) (p : Value × Nat) => cs.setIfInBounds (off + p.2) p.1) z.toArray = (splice z off v.cells.toList).toArray := by
            rw [← Array.foldl_toList, Array.toList_zipIdx]; simpa using hfold
          unfold Instr.fill
          simp only [hp i' _ hn]
          rw [if_neg (by simp [hsz]; omega)]
          rw [show v.cells.zipIdx.foldl (fun (cs : Array Value) (x : Value × Nat) => match x with | (c, j) => cs.setIfInBounds (off + j) c) z.toArray = (splice z off v.cells.toList).toArray from hfold']
          exact fill_put hp parts vals _ cs hv h
theorem run_buildL {t : TypeId} {vals : List (Nat × Value)} {parts : List (Nat × List Value)} {pl : List (Nat × Nat)} {z cs : List Value} (hl : layOf P t = some pl) (hz : zeroC P t = some z.toArray) (hv : vals.map (fun p => (p.1, p.2.cells.toList)) = parts) (hp : putAll pl z parts = some cs) :
    (Instr.build t vals.toArray).run P w = .ok (.agg cs.toArray) w := by
  obtain ⟨zv, hzc, hzr⟩ := run_zeroC (w := w) hz
  unfold layOf at hl
  cases hu : P.underlying t with
  | none => simp [hu] at hl
  | some dsc =>
    rw [hu] at hl
    cases dsc with
    | struct fs =>
      simp only at hl
      have hf := fill_put (place := fun i => pl.toArray[i]?) (pl := pl) (fun i o ho => by rw [nthP_spec] at ho; simpa using ho) parts vals z cs hv hp
      have hm := run_places (P := P) w fs.toList pl hl
      simp only [Instr.build, Sem.run_bind, hzr, Result.andThen_ok, run_underlying hu, Array.mapM_eq_mapM_toList, Sem.run_map, hzc, bind_pure_comp]
      rw [hm]
      simp only [Result.andThen_ok, hf]
      rfl
    | array n e =>
      simp only at hl
      cases hi : P.info? e with
      | none => simp [hi] at hl
      | some i =>
        simp only [hi, Option.map_some, Option.some.injEq] at hl
        have hf := fill_put (place := fun j => some (j * i.size, i.size)) (pl := pl) (fun j o ho => by
          rw [nthP_spec, ← hl] at ho
          rw [List.getElem?_map] at ho
          cases hr : (List.range n)[j]? with
          | none => simp [hr] at ho
          | some q =>
            have : q = j := by
              have := List.getElem?_eq_some_iff.1 hr
              obtain ⟨h1, h2⟩ := this
              simpa using h2.symm
            subst this
            simpa [hr] using ho) parts vals z cs hv hp
        simp only [Instr.build, Sem.run_bind, hzr, Result.andThen_ok, run_underlying hu, hzc, sizeOf, typeInfo]
        simp [hi, hf]
    | _ => simp at hl
end ops
end Go.Proofs.YtfedlkeiafcdmaaGreat
/-! LibG -/
namespace Go.Proofs.YtfedlkeiafcdmaaGreat
set_option linter.unusedVariables false
set_option linter.unusedSimpArgs false
open Go.RowKit
/-- A call of yield. -/
def Yields1 (P : Program) (L : Nat) (args : Array Value) (W : World) (R : Value → World → Prop) : Prop :=
  YieldAt (FW none) 0 P L args W fun e w' => ∃ v, e = .returned v ∧ R v w'
theorem Yields1.mono {P : Program} {L : Nat} {args : Array Value} {W : World} {R R' : Value → World → Prop} (h : Yields1 P L args W R) (hr : ∀ v w', R v w' → R' v w') : Yields1 P L args W R' := by
  obtain ⟨fn, tmps, assign, body, hy, hq⟩ := h
  exact ⟨fn, tmps, assign, body, hy, RoundIn.mono hq fun _ _ ⟨v, he, r⟩ => ⟨v, he, hr _ _ r⟩⟩
/-- **An iterator's contract**: whatever the loop's body does, as long as it keeps to its own blocks. 'Ok pre x': pre having come, x may come; 'p0': the iterator's own blocks; 'Fin xs': all have come. -/
def Iter {α : Type} (P : Program) (gf : FuncId) (lb : List Value) (encs : α → List Value) (Ok : List α → α → Prop) (p0 : List (Nat × Obj)) (Fin : List α → Prop) : Prop :=
  ∀ (L : Nat) (S : List Nat) (W0 w : World) (Inv InvX : List α → List (Nat × Obj) → Prop) (l : List (Nat × Obj)),
    (∀ pre x l W p, Ok pre x → Inv pre l → Mem S W0 W (l ++ p) → Yields1 P L (encs x).toArray W fun v W' => ∃ l', Mem S W0 W' (l' ++ p) ∧ ((v = .bool true ∧ Inv (pre ++ [x]) l') ∨ (v = .bool false ∧ InvX (pre ++ [x]) l'))) →
    Inv [] l → Mem S W0 w (l ++ p0) →
    Cal P gf (.func (.yield L) #[] #[] :: lb).toArray w fun _ W' => ∃ l' p', Mem S W0 W' (l' ++ p') ∧ ((∃ xs, Fin xs ∧ Inv xs l') ∨ (∃ pre, InvX pre l'))
/-- .. where the memory is of one call alone -/
def IterAt {α : Type} (S : List Nat) (W0 : World) (P : Program) (gf : FuncId) (lb : List Value) (encs : α → List Value) (Ok : List α → α → Prop) (p0 : List (Nat × Obj)) (Fin : List α → Prop) : Prop :=
  ∀ (L : Nat) (w : World) (Inv InvX : List α → List (Nat × Obj) → Prop) (l : List (Nat × Obj)),
    (∀ pre x l W p, Ok pre x → Inv pre l → Mem S W0 W (l ++ p) → Yields1 P L (encs x).toArray W fun v W' => ∃ l', Mem S W0 W' (l' ++ p) ∧ ((v = .bool true ∧ Inv (pre ++ [x]) l') ∨ (v = .bool false ∧ InvX (pre ++ [x]) l'))) →
    Inv [] l → Mem S W0 w (l ++ p0) →
    Cal P gf (.func (.yield L) #[] #[] :: lb).toArray w fun _ W' => ∃ l' p', Mem S W0 W' (l' ++ p') ∧ ((∃ xs, Fin xs ∧ Inv xs l') ∨ (∃ pre, InvX pre l'))
theorem Iter.at {α : Type} {P : Program} {gf : FuncId} {lb : List Value} {encs : α → List Value} {Ok : List α → α → Prop} {p0 : List (Nat × Obj)} {Fin : List α → Prop} (h : Iter P gf lb encs Ok p0 Fin) (S : List Nat) (W0 : World) : IterAt S W0 P gf lb encs Ok p0 Fin :=
  fun L w Inv InvX l h1 h2 h3 => h L S W0 w Inv InvX l h1 h2 h3
theorem Upd.append {l l' : List (Nat × Obj)} {b : Nat} {o o' : Obj} (h : Upd l b o o' l') : ∀ q : List (Nat × Obj), Upd (q ++ l) b o o' (q ++ l')
  | [] => h
  | _ :: q => .there (h.append q)
theorem Mem.perm {S : List Nat} {W0 w : World} {l l' : List (Nat × Obj)} (M : Mem S W0 w l) (h : l.Perm l') : Mem S W0 w l' :=
  ⟨M.ext, fun q hq => M.at_ q (h.mem_iff.2 hq), ((h.map (·.1)).nodup_iff).1 M.nd, fun q hq => M.own q (h.mem_iff.2 hq)⟩
end Go.Proofs.YtfedlkeiafcdmaaGreat
/-! LibH -/
namespace Go.Proofs.YtfedlkeiafcdmaaGreat
set_option linter.unusedVariables false
set_option linter.unusedSimpArgs false
open Go.RowKit
def elB (P : Program) (e : TypeId) (sz by_ : Nat) : Bool :=
  match P.info? e with
  | some i => i.size == sz && i.bytes == by_ && (match i.zero with | some z => z.cells.size == sz | none => false)
  | none => false
/-- an element type: how many cells, how many bytes -/
class TEl (P : Program) (e : TypeId) (sz by_ : outParam Nat) : Prop where h : elB P e sz by_ = true
theorem elB_spec {P : Program} {e : TypeId} {sz by_ : Nat} (h : elB P e sz by_ = true) : ∃ i z, P.info? e = some i ∧ i.size = sz ∧ i.bytes = by_ ∧ i.zero = some z ∧ z.cells.size = sz := by
  unfold elB at h
  split at h
  · rename_i i hi
    simp only [Bool.and_eq_true, beq_iff_eq] at h
    split at h
    · rename_i z hz
      exact ⟨i, z, hi, h.1.1, h.1.2, hz, by simpa using h.2⟩
    · simp at h
  · cases h
/-- v: nil, or a slice over the head of a block of our own, whose first cells are xs: n elements of type e (sz cells each); ent: that block's entry. -/
def OwnS (e : TypeId) (sz : Nat) (v : Value) (n : Nat) (xs : List Value) (ent : List (Nat × Obj)) : Prop :=
  (v = .slice none 0 0 ∧ n = 0 ∧ xs = [] ∧ ent = []) ∨
  (∃ b cap junk, v = .slice (some ⟨b, 0, none⟩) n cap ∧ ent = [(b, .cells (xs ++ junk).toArray e (0, 0))] ∧ xs.length = n * sz ∧ junk.length = (cap - n) * sz ∧ n ≤ cap)
theorem OwnS.nil (e : TypeId) (sz : Nat) : OwnS e sz (.slice none 0 0) 0 [] [] := .inl ⟨rfl, rfl, rfl, rfl⟩
theorem OwnS.len {e : TypeId} {sz : Nat} {v : Value} {n : Nat} {xs : List Value} {ent : List (Nat × Obj)} (h : OwnS e sz v n xs ent) : xs.length = n * sz := by
  rcases h with ⟨_, rfl, rfl, _⟩ | ⟨_, _, _, _, _, h, _⟩
  · simp
  · exact h
theorem OwnS.slice {e : TypeId} {sz : Nat} {v : Value} {n : Nat} {xs : List Value} {ent : List (Nat × Obj)} (h : OwnS e sz v n xs ent) : ∃ p cap, v = .slice p n cap := by
  rcases h with ⟨rfl, rfl, _, _⟩ | ⟨_, _, _, rfl, _, _⟩
  · exact ⟨_, _, rfl⟩
  · exact ⟨_, _, rfl⟩
/-- What is appended. -/
structure SrcOf (P : Program) (w : World) (x : Value) (m sz : Nat) (ys : List Value) : Prop where
  len : (Builtin.lenOf x).run P w = .ok m w
  cells : ∀ d, (Builtin.firstCells sz m x).run P { w with drawn := d } = .ok ys.toArray { w with drawn := d }
  size : ys.length = m * sz
  one : ∀ v ∈ ys, v.oneCell' = true
theorem cell_drawn (w : World) (d : Nat) (a : Addr) : ({ w with drawn := d } : World).cell? a = w.cell? a := rfl
theorem SrcOf.nil (P : Program) (w : World) (sz c : Nat) : SrcOf P w (.slice none 0 c) 0 sz [] := ⟨by simp [Builtin.lenOf], fun d => by simp [Builtin.firstCells], by simp, by simp⟩
theorem SrcOf.cells' {P : Program} {w : World} {b off m c sz : Nat} {cs ys : List Value} {t : TypeId} {fz : Nat × Nat} (hb : w.heap[b]? = some (.cells cs.toArray t fz)) (hs : seg cs off (m * sz) = some ys) (h1 : ys.all (·.oneCell') = true) : SrcOf P w (.slice (some ⟨b, off, none⟩) m c) m sz ys := by
  obtain ⟨hl, hat⟩ := seg_spec _ _ _ _ hs
  refine ⟨by simp [Builtin.lenOf], fun d => ?_, hl, fun v hv => List.all_eq_true.1 h1 v hv⟩
  refine run_firstCells_some _ sz m _ _ _ ys hl (fun j v hj => ?_)
  rw [addr_add, cell_drawn]
  refine cell_at hb ?_
  have hlt : j < m * sz := by rw [← hl]; exact (List.getElem?_eq_some_iff.1 hj).1
  have := hat j hlt
  rw [hj] at this
  simpa using this
def bytesC (s : ByteArray) : List Value := s.data.toList.map fun b => Value.int .u8 b.toNat
theorem SrcOf.str (P : Program) (w : World) (s : ByteArray) : SrcOf P w (.string s) s.size 1 (bytesC s) := by
  refine ⟨by simp [Builtin.lenOf], fun d => ?_, ?_, ?_⟩
  · have : s.extract 0 s.size = s := by simp
    simp only [Builtin.firstCells, this, Sem.run_pure]
    congr 1
    apply Array.ext'
    simp [bytesC]
  · simp [bytesC]
  · intro v hv
    simp only [bytesC, List.mem_map] at hv
    obtain ⟨b, _, rfl⟩ := hv
    rfl
def notInt (P : Program) (t : TypeId) : Bool := match P.underlying t with | some (.slice _) | some .string => true | _ => false
class TNI (P : Program) (t : TypeId) : Prop where h : notInt P t = true
section
variable {P : Program} {ρ : Operand → Value} {w W0 : World} {S : List Nat} {l l' : List (Nat × Obj)} {R : Value → World → Prop} {d : Option Tmp} {ty : TypeId} {pos : String} {af : Array Edge} {g : Option (Nat × Bool)}
theorem notInt_spec {t : TypeId} (h : notInt P t = true) : P.underlying t = some .string ∨ ∃ e, P.underlying t = some (.slice e) := by
  unfold notInt at h
  split at h
  · rename_i e hu; exact .inr ⟨e, hu⟩
  · rename_i hu; exact .inl hu
  · cases h
set_option maxHeartbeats 1000000 in
theorem run_append_grow' {st xt e tyy : TypeId} {i : TypeInfo} {z : Value} {n m cap : Nat} {base : Option Addr} {xv : Value} {xs ys : List Value} (hst : P.underlying st = some (.slice e)) (hi : P.info? e = some i) (hz : i.zero = some z) (hdx : P.underlying xt = some .string ∨ ∃ e, P.underlying xt = some (.slice e))
    (hlen : (Builtin.lenOf xv).run P w = .ok m w) (hn : ¬ (n + m ≤ cap)) (h63 : n + m ≤ 9223372036854775807) (h48 : ¬ (281474976710656 < Builtin.nextslicecap (n + m) cap * i.bytes))
    (ho : (Builtin.firstCells i.size n (.slice base n cap)).run P w.drew = .ok xs.toArray w.drew) (hx : (Builtin.firstCells i.size m xv).run P w.drew = .ok ys.toArray w.drew) :
    (Builtin.append_ #[st, xt] tyy #[.slice base n cap, xv]).run P w = .ok (.slice (some ⟨w.heap.size, 0, none⟩) (n + m) (grownCap w (n + m) cap e)) (w.drew.alloc (.cells (xs.toArray ++ ys.toArray ++ Builtin.zeroCells z.cells (grownCap w (n + m) cap e - (n + m))) e)) := by
  have h63' : ¬ (9223372036854775807 < ((n : Int) + (m : Int))) := by omega
  rcases hdx with hdx | ⟨e', hdx⟩ <;> simp [Builtin.append_, run_underlying hst, run_underlying hdx, sizeOf, typeInfo, zeroValue, hi, hz, hlen, hn, h63', h48, Question.forced, ho, hx, newRow, grownCap] <;> (congr 2; apply Array.ext'; simp)
set_option maxHeartbeats 1000000 in
theorem run_append_room' {st xt e tyy : TypeId} {i : TypeInfo} {n m cap b : Nat} {xv : Value} {ys : List Value} {w' : World} (hst : P.underlying st = some (.slice e)) (hi : P.info? e = some i) (hdx : P.underlying xt = some .string ∨ ∃ e, P.underlying xt = some (.slice e))
    (hlen : (Builtin.lenOf xv).run P w = .ok m w) (hn : n + m ≤ cap)
    (hx : (Builtin.firstCells i.size m xv).run P w = .ok ys.toArray w) (hs : (storeCells ⟨b, n * i.size, none⟩ ys).run P w = .ok () w') :
    (Builtin.append_ #[st, xt] tyy #[.slice (some ⟨b, 0, none⟩) n cap, xv]).run P w = .ok (.slice (some ⟨b, 0, none⟩) (n + m) cap) w' := by
  have hadd : (⟨b, 0, none⟩ : Addr).add (n * i.size) = ⟨b, n * i.size, none⟩ := by rw [addr_add]; simp
  rcases hdx with hdx | ⟨e', hdx⟩ <;> simp [Builtin.append_, run_underlying hst, run_underlying hdx, sizeOf, typeInfo, hi, hlen, hn, hx, hadd, hs]
theorem run_append_nil0 {st xt e tyy : TypeId} {i : TypeInfo} {xv : Value} (hst : P.underlying st = some (.slice e)) (hi : P.info? e = some i) (hdx : P.underlying xt = some .string ∨ ∃ e, P.underlying xt = some (.slice e))
    (hlen : (Builtin.lenOf xv).run P w = .ok 0 w) (hx : (Builtin.firstCells i.size 0 xv).run P w = .ok #[] w) :
    (Builtin.append_ #[st, xt] tyy #[.slice none 0 0, xv]).run P w = .ok (.slice none 0 0) w := by
  rcases hdx with hdx | ⟨e', hdx⟩ <;> simp [Builtin.append_, run_underlying hst, run_underlying hdx, sizeOf, typeInfo, hi, hlen, hx]
theorem run_append {st xt e tyy : TypeId} {sz by_ n m : Nat} {v xv : Value} {xs ys : List Value} {ent lr : List (Nat × Obj)} (hst : P.underlying st = some (.slice e)) (hel : elB P e sz by_ = true) (hxt : notInt P xt = true)
    (hO : OwnS e sz v n xs ent) (M : Mem S W0 w (lr ++ ent)) (hX : SrcOf P w xv m sz ys) (hbd : (n + m) * by_ ≤ 140737488355328) (hln : n + m ≤ 9223372036854775807) :
    ∃ v' w' ent', (Builtin.append_ #[st, xt] tyy #[v, xv]).run P w = .ok v' w' ∧ OwnS e sz v' (n + m) (xs ++ ys) ent' ∧ Mem S W0 w' (lr ++ ent') := by
  obtain ⟨i, z, hi, rfl, rfl, hz, hzs⟩ := elB_spec hel
  have hdx := notInt_spec hxt
  have grow : ∀ (base : Option Addr) (cap : Nat), v = .slice base n cap → cap < n + m → (Builtin.firstCells i.size n v).run P w.drew = .ok xs.toArray w.drew → xs.length = n * i.size →
      ∃ v' w' ent', (Builtin.append_ #[st, xt] tyy #[v, xv]).run P w = .ok v' w' ∧ OwnS e i.size v' (n + m) (xs ++ ys) ent' ∧ Mem S W0 w' (lr ++ ent') := by
    intro base cap hv hgt hold hxl
    subst hv
    have h48 : ¬ (281474976710656 < Builtin.nextslicecap (n + m) cap * i.bytes) := by
      have := growslice_fits (need := n + m) (old := cap) (bytes := i.bytes) (by omega) hbd
      omega
    have hnc : n + m ≤ grownCap w (n + m) cap e := grownCap_ge w _ _ _
    have hrun := run_append_grow' (tyy := tyy) (w := w) hst hi hz hdx hX.len (by omega) hln h48 hold (hX.cells (w.drawn + 1))
    have e1 : (xs.toArray ++ ys.toArray ++ Builtin.zeroCells z.cells (grownCap w (n + m) cap e - (n + m))) = (xs ++ ys ++ (Builtin.zeroCells z.cells (grownCap w (n + m) cap e - (n + m))).toList).toArray := by
      apply Array.ext'; rw [Array.toList_append, Array.toList_append]
    rw [e1] at hrun
    refine ⟨_, _, [(w.heap.size, .cells (xs ++ ys ++ (Builtin.zeroCells z.cells (grownCap w (n + m) cap e - (n + m))).toList).toArray e (0, 0))], hrun, .inr ⟨w.heap.size, grownCap w (n + m) cap e, (Builtin.zeroCells z.cells (grownCap w (n + m) cap e - (n + m))).toList, rfl, rfl, by rw [List.length_append, hxl, hX.size, Nat.add_mul], by rw [Array.length_toList, size_zeroCells, hzs], hnc⟩, ?_⟩
    have M1 := (M.later (Ext.drawn w (w.drawn + 1) (Nat.le_succ _))).alloc (.cells (xs ++ ys ++ (Builtin.zeroCells z.cells (grownCap w (n + m) cap e - (n + m))).toList).toArray e (0, 0))
    have M2 := M1.sub (l' := (w.heap.size, .cells (xs ++ ys ++ (Builtin.zeroCells z.cells (grownCap w (n + m) cap e - (n + m))).toList).toArray e (0, 0)) :: lr) ((List.sublist_append_left lr ent).cons_cons _)
    exact M2.perm (List.perm_append_comm (l₁ := [_]) (l₂ := lr))
  rcases hO with ⟨rfl, rfl, rfl, rfl⟩ | ⟨b, cap, junk, rfl, rfl, hxl, hjl, hnc⟩
  · by_cases hm : m = 0
    · subst hm
      have hys : ys = [] := List.length_eq_zero_iff.1 (by rw [hX.size]; simp)
      subst hys
      exact ⟨.slice none 0 0, w, [], run_append_nil0 hst hi hdx hX.len (hX.cells w.drawn), OwnS.nil _ _, M⟩
    · exact grow none 0 rfl (by omega) (by simp [Builtin.firstCells]) (by simp)
  · have hhas : Has (lr ++ [(b, Obj.cells (xs ++ junk).toArray e (0, 0))]) b (.cells (xs ++ junk).toArray e (0, 0)) := ((Upd.here (o' := .deferred none) (l := [])).append lr).has
    have hb := M.heap hhas
    by_cases hroom : n + m ≤ cap
    · have hlen : n * i.size + 0 + ys.length ≤ (xs ++ junk).length := by
        simp only [List.length_append, hxl, hjl, hX.size]
        rw [Nat.add_zero, ← Nat.add_mul, ← Nat.add_mul]
        exact Nat.mul_le_mul_right _ (by omega)
      obtain ⟨w', hr, he, hh⟩ := run_storeRow (P := P) (off := n * i.size) ys 0 (xs ++ junk) w hb hlen hX.one
      have hrun := run_append_room' (tyy := tyy) hst hi hdx hX.len hroom (hX.cells w.drawn) hr
      have hsp : splice (xs ++ junk) (n * i.size + 0) ys = xs ++ ys ++ junk.drop (m * i.size) := by
        simp only [splice, Nat.add_zero, ← hxl, List.take_left', List.drop_append, hX.size]
        simp
      rw [hsp] at hh
      refine ⟨_, w', _, hrun, .inr ⟨b, cap, junk.drop (m * i.size), rfl, rfl, by simp [hxl, hX.size, Nat.add_mul], ?_, hroom⟩, ?_⟩
      · rw [List.length_drop, hjl, ← Nat.sub_mul]; congr 1; omega
      · exact M.turned ((Upd.here).append lr) he hh
    · refine grow _ cap rfl (by omega) ?_ hxl
      refine run_firstCells_some _ i.size n _ _ _ xs hxl (fun j u hj => ?_)
      rw [addr_add]
      refine cell_at (w := w.drew) hb ?_
      have hlt : j < xs.length := (List.getElem?_eq_some_iff.1 hj).1
      simp [List.getElem?_append_left hlt, hj]
end
end Go.Proofs.YtfedlkeiafcdmaaGreat
/-! LibI -/
namespace Go.Proofs.YtfedlkeiafcdmaaGreat
set_option linter.unusedVariables false
set_option linter.unusedSimpArgs false
open Go.RowKit
inductive LK where
  | i (k : IntKind)
  | b
  deriving DecidableEq
def fitK : LK → Value → Bool
  | .i k, .int k' _ => decide (k = k')
  | .b, .bool _ => true
  | _, _ => false
def fitsK : List LK → List Value → Bool
  | [], [] => true
  | k :: ks, x :: xs => fitK k x && fitsK ks xs
  | _, _ => false
def eqV : Value → Value → Bool
  | .int _ a, .int _ b => a == b
  | .bool a, .bool b => a == b
  | _, _ => false
def eqVs : List Value → List Value → Bool
  | [], [] => true
  | x :: xs, y :: ys => eqV x y && eqVs xs ys
  | _, _ => false
theorem fitsK_length : ∀ {ks : List LK} {xs : List Value}, fitsK ks xs = true → xs.length = ks.length
  | [], [], _ => rfl
  | _ :: ks, _ :: xs, h => by simp only [fitsK, Bool.and_eq_true] at h; simp [fitsK_length h.2]
  | [], _ :: _, h => by cases h
  | _ :: _, [], h => by cases h
theorem fitsK_append : ∀ {ks ks' : List LK} {xs : List Value}, fitsK (ks ++ ks') xs = true → fitsK ks (xs.take ks.length) = true ∧ fitsK ks' (xs.drop ks.length) = true
  | [], ks', xs, h => by simpa [fitsK] using h
  | k :: ks, ks', [], h => by cases h
  | k :: ks, ks', x :: xs, h => by
    simp only [List.cons_append, fitsK, Bool.and_eq_true] at h
    have := fitsK_append h.2
    simp [fitsK, h.1, this]
theorem eqVs_append : ∀ (xs ys xs' ys' : List Value), xs.length = ys.length → eqVs (xs ++ xs') (ys ++ ys') = (eqVs xs ys && eqVs xs' ys')
  | [], [], _, _, _ => by simp [eqVs]
  | x :: xs, y :: ys, xs', ys', h => by simp [eqVs, eqVs_append xs ys xs' ys' (by simpa using h), Bool.and_assoc]
  | [], _ :: _, _, _, h => by simp at h
  | _ :: _, [], _, _, h => by simp at h
/-- the parts of a type, all integers and bools -/
def leafF (P : Program) (leaf : TypeId → Option (List LK)) : List Field → Nat → Option (List LK)
  | [], _ => some []
  | f :: fs, off => if f.name = "_" ∨ f.offset ≠ off then none else
    match leaf f.type with
    | some ks => if P.cellsOf f.type = ks.length then (leafF P leaf fs (off + ks.length)).map (ks ++ ·) else none
    | none => none
def leafK (P : Program) : Nat → TypeId → Option (List LK)
  | 0, _ => none
  | d + 1, t => match P.underlying t with
    | some (.int k) => some [.i k]
    | some .bool => some [.b]
    | some (.array n e) => match leafK P d e with
      | some ks => if P.cellsOf e = ks.length ∧ (P.info? e).isSome then some (List.replicate n ks).flatten else none
      | none => none
    | some (.struct fs) => if P.stoodInHeld t then none else leafF P (leafK P d) fs.toList 0
    | _ => none
def isAggT (P : Program) (t : TypeId) : Bool := match P.underlying t with | some (.struct _) | some (.array _ _) => true | _ => false
def mkT (P : Program) (t : TypeId) (xs : List Value) : Value := if isAggT P t then .agg xs.toArray else xs.headD undef
theorem take1 {xs : List Value} {off : Nat} (h : off < xs.length) : List.take 1 (List.drop off xs) = [xs[off]] := by
  rw [List.drop_eq_getElem_cons h, List.take_succ_cons, List.take_zero]
section
variable {P : Program}
theorem run_part_mk {w : World} {d : Nat} {e : TypeId} {ks : List LK} {xs : List Value} {off : Nat} (hk : leafK P d e = some ks) (hc : P.cellsOf e = ks.length) (hle : off + ks.length ≤ xs.length) :
    (part e xs.toArray off).run P w = .ok (mkT P e ((xs.drop off).take ks.length)) w := by
  cases d with
  | zero => simp [leafK] at hk
  | succ d =>
    unfold leafK at hk
    cases hu : P.underlying e with
    | none => simp [hu] at hk
    | some dsc =>
      rw [hu] at hk
      have hinfo : ∃ i, P.info? e = some i := info_of_underlying hu
      obtain ⟨i, hi⟩ := hinfo
      have hs : i.size = ks.length := by rw [← hc]; simp [Program.cellsOf, hi]
      have hex : xs.toArray.extract off (off + ks.length) = ((xs.drop off).take ks.length).toArray := by
        apply Array.ext'; simp [List.extract_eq_take_drop]
      cases dsc with
      | int k =>
        simp at hk; subst hk
        simp only [List.length_cons, List.length_nil] at hle ⊢
        have hlt : off < xs.length := by omega
        simp only [part, isAgg, Sem.run_bind, run_underlying hu, Result.andThen_ok, mkT, isAggT, hu]
        simp [hlt, take1 hlt]
      | bool =>
        simp at hk; subst hk
        simp only [List.length_cons, List.length_nil] at hle ⊢
        have hlt : off < xs.length := by omega
        simp only [part, isAgg, Sem.run_bind, run_underlying hu, Result.andThen_ok, mkT, isAggT, hu]
        simp [hlt, take1 hlt]
      | array n e' => simp only [part, isAgg, sizeOf, typeInfo, Sem.run_bind, run_underlying hu, Result.andThen_ok, mkT, isAggT, hu, run_program, Sem.run_pure, if_true]; simp [hi, hs, hex]
      | struct fs => simp only [part, isAgg, sizeOf, typeInfo, Sem.run_bind, run_underlying hu, Result.andThen_ok, mkT, isAggT, hu, run_program, Sem.run_pure, if_true]; simp [hi, hs, hex]
      | _ => simp at hk
theorem fits_flat : ∀ (n : Nat) (ks : List LK) (xs : List Value), fitsK (List.replicate n ks).flatten xs = true → xs.length = n * ks.length ∧ ∀ j, j < n → fitsK ks ((xs.drop (j * ks.length)).take ks.length) = true
  | 0, ks, xs, h => by
    have := fitsK_length h
    exact ⟨by simpa using this, fun j hj => by omega⟩
  | n + 1, ks, xs, h => by
    simp only [List.replicate_succ, List.flatten_cons] at h
    obtain ⟨h1, h2⟩ := fitsK_append h
    obtain ⟨h3, h4⟩ := fits_flat n ks _ h2
    have hl := fitsK_length h
    refine ⟨by simp at hl; rw [hl]; simp [Nat.add_mul, Nat.add_comm], fun j hj => ?_⟩
    cases j with
    | zero => simpa using h1
    | succ j =>
      have := h4 j (by omega)
      rw [List.drop_drop] at this
      rwa [show (j + 1) * ks.length = ks.length + j * ks.length by rw [Nat.add_mul]; omega]
theorem equal_leaf : ∀ (d : Nat) (t : TypeId) (ks : List LK), leafK P d t = some ks → ∀ (e : Nat) (w : World) (xs ys : List Value), fitsK ks xs = true → fitsK ks ys = true →
    (Op.equalIn (e + d) t (mkT P t xs) (mkT P t ys)).run P w = .ok (eqVs xs ys) w
  | 0, _, _, h => by simp [leafK] at h
  | d + 1, t, ks, hk => by
    intro e w xs ys hx hy
    have hk0 := hk
    unfold leafK at hk
    cases hu : P.underlying t with
    | none => simp [hu] at hk
    | some dsc =>
      rw [hu] at hk
      cases dsc with
      | int k =>
        simp at hk; subst hk
        obtain ⟨x, rfl⟩ : ∃ x, xs = [.int k x] := by
          match xs, hx with
          | [.int k' x], h => simp [fitsK, fitK] at h; subst h; exact ⟨x, rfl⟩
          | .int _ _ :: _ :: _, h => simp [fitsK] at h
        obtain ⟨y, rfl⟩ : ∃ y, ys = [.int k y] := by
          match ys, hy with
          | [.int k' y], h => simp [fitsK, fitK] at h; subst h; exact ⟨y, rfl⟩
          | .int _ _ :: _ :: _, h => simp [fitsK] at h
        simp only [mkT, isAggT, hu, Bool.false_eq_true, if_false, List.headD_cons]
        rw [show e + (d + 1) = (e + d) + 1 by omega, run_equalIn_int w (e + d) t k k x y hu]
        simp [eqVs, eqV]
      | bool =>
        simp at hk; subst hk
        obtain ⟨x, rfl⟩ : ∃ x, xs = [.bool x] := by
          match xs, hx with
          | [.bool x], _ => exact ⟨x, rfl⟩
        obtain ⟨y, rfl⟩ : ∃ y, ys = [.bool y] := by
          match ys, hy with
          | [.bool y], _ => exact ⟨y, rfl⟩
        simp only [mkT, isAggT, hu, Bool.false_eq_true, if_false, List.headD_cons]
        rw [show e + (d + 1) = (e + d) + 1 by omega, run_equalIn_bool' w (e + d) t x y hu]
        simp [eqVs, eqV]
      | array n el =>
        simp only at hk
        cases hke : leafK P d el with
        | none => simp [hke] at hk
        | some ke =>
          rw [hke] at hk
          simp only at hk
          split at hk
          · rename_i hc
            simp only [Option.some.injEq] at hk
            subst hk
            obtain ⟨i, hi⟩ := Option.isSome_iff_exists.1 hc.2
            obtain ⟨lx, fx⟩ := fits_flat _ _ _ hx
            obtain ⟨ly, fy⟩ := fits_flat _ _ _ hy
            simp only [mkT, isAggT, hu, if_true]
            rw [show e + (d + 1) = (e + d) + 1 by omega, run_equalIn_array w (e + d) _ _ hu hi]
            have key : ∀ (m j : Nat), j + m = n → (Op.eqItems (e + d) el (P.cellsOf el) xs.toArray ys.toArray (List.range' j m)).run P w = .ok (eqVs (xs.drop (j * ke.length)) (ys.drop (j * ke.length))) w := by
              intro m
              induction m with
              | zero =>
                intro j hj
                have h1 : xs.drop (j * ke.length) = [] := List.drop_eq_nil_of_le (by rw [lx]; exact Nat.le_of_eq (by rw [show j = n by omega]))
                have h2 : ys.drop (j * ke.length) = [] := List.drop_eq_nil_of_le (by rw [ly]; exact Nat.le_of_eq (by rw [show j = n by omega]))
                simp [Op.eqItems, h1, h2, eqVs]
              | succ m ih =>
                intro j hj
                have hjn : j < n := by omega
                have hmul : j * ke.length + ke.length ≤ n * ke.length := by
                  rw [show j * ke.length + ke.length = (j + 1) * ke.length by rw [Nat.add_mul]; omega]
                  exact Nat.mul_le_mul_right _ (by omega)
                rw [List.range'_succ]
                simp only [Op.eqItems, Sem.run_bind, hc.1, run_part_mk (w := w) hke hc.1 (show j * ke.length + ke.length ≤ xs.length by omega), run_part_mk (w := w) hke hc.1 (show j * ke.length + ke.length ≤ ys.length by omega), Result.andThen_ok, equal_leaf d el ke hke e w _ _ (fx j hjn) (fy j hjn)]
                have hih := ih (j + 1) (by omega)
                rw [hc.1] at hih
                have e1 : eqVs (xs.drop (j * ke.length)) (ys.drop (j * ke.length)) = (eqVs ((xs.drop (j * ke.length)).take ke.length) ((ys.drop (j * ke.length)).take ke.length) && eqVs (xs.drop ((j + 1) * ke.length)) (ys.drop ((j + 1) * ke.length))) := by
                  rw [← eqVs_append _ _ _ _ (by simp [lx, ly])]
                  rw [show (j + 1) * ke.length = j * ke.length + ke.length by rw [Nat.add_mul]; omega, ← List.drop_drop, ← List.drop_drop, List.take_append_drop, List.take_append_drop]
                rw [e1]
                cases eqVs ((xs.drop (j * ke.length)).take ke.length) ((ys.drop (j * ke.length)).take ke.length)
                · simp
                · simpa using hih
            have := key n 0 (by omega)
            simpa [List.range_eq_range'] using this
          · cases hk
      | struct fs =>
        simp only at hk
        split at hk
        · cases hk
        · rename_i hp
          have hp' : P.stoodInHeld t = false := by simpa using hp
          have hfs : P.fieldsOf t = fs := by simp [Program.fieldsOf, hu]
          simp only [mkT, isAggT, hu, if_true]
          rw [show e + (d + 1) = (e + d) + 1 by omega, run_equalIn_struct w (e + d) t _ _ (by rw [hfs]; exact hu) hp', hfs]
          have key : ∀ (l : List Field) (off : Nat) (ks : List LK), leafF P (leafK P d) l off = some ks → fitsK ks (xs.drop off) = true → fitsK ks (ys.drop off) = true → off ≤ xs.length → off ≤ ys.length →
              (Op.eqFields (e + d) xs.toArray ys.toArray l).run P w = .ok (eqVs (xs.drop off) (ys.drop off)) w := by
            intro l
            induction l with
            | nil =>
              intro off ks hl hx hy _ _
              simp only [leafF, Option.some.injEq] at hl
              subst hl
              have h1 := fitsK_length hx
              have h2 := fitsK_length hy
              have h1' : xs.drop off = [] := List.length_eq_zero_iff.1 (by simpa using h1)
              have h2' : ys.drop off = [] := List.length_eq_zero_iff.1 (by simpa using h2)
              simp [Op.eqFields, h1', h2', eqVs]
            | cons f l ih =>
              intro off ks hl hx hy ox oy
              simp only [leafF] at hl
              split at hl
              · cases hl
              · rename_i hno
                have hname : f.name ≠ "_" := fun h => hno (.inl h)
                have hoff : f.offset = off := Classical.byContradiction fun h => hno (.inr h)
                cases hkf : leafK P d f.type with
                | none => simp [hkf] at hl
                | some kf =>
                  rw [hkf] at hl
                  simp only at hl
                  split at hl
                  · rename_i hc
                    cases hr : leafF P (leafK P d) l (off + kf.length) with
                    | none => simp [hr] at hl
                    | some kr =>
                      simp only [hr, Option.map_some, Option.some.injEq] at hl
                      subst hl
                      obtain ⟨x1, x2⟩ := fitsK_append hx
                      obtain ⟨y1, y2⟩ := fitsK_append hy
                      have lx := fitsK_length x1
                      have ly := fitsK_length y1
                      simp only [List.length_take, List.length_drop] at lx ly
                      rw [List.drop_drop] at x2 y2
                      have hih := ih (off + kf.length) kr hr x2 y2 (by omega) (by omega)
                      simp only [Op.eqFields, ne_eq, hname, not_false_eq_true, if_true, Sem.run_bind, hoff, run_part_mk (w := w) hkf hc (show off + kf.length ≤ xs.length by omega), run_part_mk (w := w) hkf hc (show off + kf.length ≤ ys.length by omega), Result.andThen_ok, equal_leaf d f.type kf hkf e w _ _ x1 y1]
                      have e1 : eqVs (xs.drop off) (ys.drop off) = (eqVs ((xs.drop off).take kf.length) ((ys.drop off).take kf.length) && eqVs (xs.drop (off + kf.length)) (ys.drop (off + kf.length))) := by
                        rw [← eqVs_append _ _ _ _ (by simp; omega), ← List.drop_drop, ← List.drop_drop, List.take_append_drop, List.take_append_drop]
                      rw [e1]
                      cases eqVs ((xs.drop off).take kf.length) ((ys.drop off).take kf.length)
                      · simp
                      · simpa using hih
                  · cases hl
          have := key fs.toList 0 ks hk (by simpa using hx) (by simpa using hy) (Nat.zero_le _) (Nat.zero_le _)
          simpa using this
      | _ => simp at hk
/-- a type whose parts are integers and bools, and that holds no interface -/
def eqB (P : Program) (t : TypeId) (ks : List LK) : Bool := decide (leafK P 8 t = some ks) && isAggT P t && !P.eqGuardType P.depth t
class TEq (P : Program) (t : TypeId) (ks : outParam (List LK)) : Prop where h : eqB P t ks = true
variable {ρ : Operand → Value} {w : World} {R : Value → World → Prop} {d : Option Tmp} {ty : TypeId} {pos : String} {af : Array Edge} {g : Option (Nat × Bool)}
theorem o_eqlA {t t' : TypeId} {x y : Operand} {ks : List LK} {xs ys : List Value} [ht : TEq P t ks] (hx : ρ x = .agg xs.toArray) (hy : ρ y = .agg ys.toArray) (fx : fitsK ks xs = true) (fy : fitsK ks ys = true) (h : R (.bool (eqVs xs ys)) w) : OpTo P ⟨d, .binOp .eql t x y t', ty, pos, af, g⟩ ρ w R := by
  have hh := ht.h
  simp only [eqB, Bool.and_eq_true, decide_eq_true_eq, Bool.not_eq_true'] at hh
  have he := equal_leaf 8 t ks hh.1.1 9992 w xs ys fx fy
  simp only [mkT, hh.1.2, if_true] at he
  refine OpTo.val (v := .bool (eqVs xs ys)) (w' := w) ?_ h
  simp only [execOp, hx, hy, Sem.run_bind, run_eqGuard_agg w .eql t x y _ _ hh.2, Result.andThen_ok, run_eql_struct]
  rw [he]
  rfl
theorem o_neqA {t t' : TypeId} {x y : Operand} {ks : List LK} {xs ys : List Value} [ht : TEq P t ks] (hx : ρ x = .agg xs.toArray) (hy : ρ y = .agg ys.toArray) (fx : fitsK ks xs = true) (fy : fitsK ks ys = true) (h : R (.bool !(eqVs xs ys)) w) : OpTo P ⟨d, .binOp .neq t x y t', ty, pos, af, g⟩ ρ w R := by
  have hh := ht.h
  simp only [eqB, Bool.and_eq_true, decide_eq_true_eq, Bool.not_eq_true'] at hh
  have he := equal_leaf 8 t ks hh.1.1 9992 w xs ys fx fy
  simp only [mkT, hh.1.2, if_true] at he
  refine OpTo.val (v := .bool !(eqVs xs ys)) (w' := w) ?_ h
  simp only [execOp, hx, hy, Sem.run_bind, run_eqGuard_agg w .neq t x y _ _ hh.2, Result.andThen_ok, run_neq_struct]
  rw [he]
  rfl
end
end Go.Proofs.YtfedlkeiafcdmaaGreat
/-! LibJ -/
namespace Go.Proofs.YtfedlkeiafcdmaaGreat
set_option linter.unusedVariables false
set_option linter.unusedSimpArgs false
open Go.RowKit
section
variable {P : Program} {ρ : Operand → Value} {w W0 : World} {S : List Nat} {l l' : List (Nat × Obj)} {R : Value → World → Prop} {d : Option Tmp} {ty : TypeId} {pos : String} {af : Array Edge} {g : Option (Nat × Bool)}
/-- the cells of a slice's literal ahead of its parts -/
def zerosL (zs : List Value) (n : Nat) : List Value := (List.range n).map fun i => zs.getD (i % zs.length) undef
def placesL (len sz : Nat) : List (Nat × Nat) := (List.range len).map fun j => (j * sz, sz)
/-! parts of an array behind a pointer: a[:], a[i:], a[i:j] with known bounds -/
/-! bytes and strings -/
end
end Go.Proofs.YtfedlkeiafcdmaaGreat
/-! LibM -/
namespace Go.Proofs.YtfedlkeiafcdmaaGreat
set_option linter.unusedVariables false
set_option linter.unusedSimpArgs false
open Go.RowKit
section
variable {H : Type} {enc : TypeId × Value → H} {P : Program}
theorem Ext.grown {W W' : World} (h : Ext [] W W') (may : MemPlace → Prop) : W.keptBut W' may := by
  refine ⟨h.os, h.output, fun i hi => ?_⟩
  rw [h.block i hi (by simp)]
  cases hb : W.heap[i]? with
  | none => rfl
  | some o => cases o <;> simp
theorem Ext.sameAt {W W' : World} (h : Ext [] W W') {p : MemPlace} (hp : p.block < W.heap.size) : W.sameAt W' p := by
  cases p with
  | cell b o => exact World.cell?_of_block (h.block b hp (by simp))
  | map b => exact h.block b hp (by simp)
theorem trodAll_stays (hl : laidOutB P = true) {W W' : World} (hE : Ext [] W W') {sp : Nat → Bool} : ∀ {ts : List TypeId} {vs : List Value} {ds : List (DataW H)} {ps : List MemPlace}, (∀ t ∈ ts, P.readableRec t = true ∧ t < P.types.size) →
    DataW.TrodAll enc P W 0 (fun _ => true) true ts vs ds ps → (∀ p ∈ ps, p.block < W.heap.size ∧ sp p.block = true) → DataW.TrodAll enc P W' 0 sp true ts vs ds ps
  | [], [], [], ps, _, h, _ => h
  | t :: ts, v :: vs, d :: ds, ps, ht, h, hp => by
    obtain ⟨p, q, h1, h2, rfl⟩ := h
    refine ⟨p, q, WideElems.Trod_stays hl (ht t (by simp)).1 (ht t (by simp)).2 h1 (fun x hx => hE.sameAt (hp x (by simp [hx])).1) (fun x hx => (hp x (by simp [hx])).2), ?_, rfl⟩
    exact trodAll_stays hl hE (fun t ht' => ht t (by simp [ht'])) h2 (fun x hx => hp x (by simp [hx]))
  | [], _ :: _, _, _, _, h, _ => by simp [DataW.TrodAll] at h
  | [], [], _ :: _, _, _, h, _ => by simp [DataW.TrodAll] at h
  | _ :: _, [], _, _, _, h, _ => by simp [DataW.TrodAll] at h
  | _ :: _, _ :: _, [], _, _, h, _ => by simp [DataW.TrodAll] at h
theorem trodAll_len {W : World} {base : Nat} {sp : Nat → Bool} {hd : Bool} : ∀ {ts : List TypeId} {vs : List Value} {ds : List (DataW H)} {ps : List MemPlace}, DataW.TrodAll enc P W base sp hd ts vs ds ps → ds.length = ts.length
  | [], [], [], _, _ => rfl
  | _ :: _, _ :: _, _ :: _, _, h => by
    obtain ⟨p, q, _, h2, _⟩ := h
    simp [trodAll_len h2]
  | [], _ :: _, _, _, h => by simp [DataW.TrodAll] at h
  | [], [], _ :: _, _, h => by simp [DataW.TrodAll] at h
  | _ :: _, [], _, _, h => by simp [DataW.TrodAll] at h
  | _ :: _, _ :: _, [], _, h => by simp [DataW.TrodAll] at h
/-- by program: these types can be read -/
def readOk (P : Program) (ts : List TypeId) : Bool := ts.all fun u => P.readableRec u && decide (u < P.types.size)
/-- A law that answers true. -/
theorem law_post {f : Func} {s : ChangeSpec} {W W' : World} {args : Array Value} {ds gs : List (DataW H)} {before : List MemPlace} {tb : TypeId} (hl : laidOutB P = true) (hto : readOk P f.params.toList = true) (hv : s.vars = []) (hr : f.resultTypes = #[tb]) (hb : P.underlying tb = some .bool)
    (hfn : ∀ xs : List (DataW H), xs.length = f.params.toList.length → s.fn H xs = { results := [.lit (.bool true)], args := xs }) (hW : DataW.Whole enc P f.params.toList s.vars false W args.toList ds gs before) (hE : Ext [] W W') :
    s.post enc P f false true false false W args (.bool true) W' := by
  have hts : ∀ t ∈ f.params.toList, P.readableRec t = true ∧ t < P.types.size := fun t ht => by simpa using List.all_eq_true.1 hto t ht
  have hW' := hW
  have hlt := hW.lt
  obtain ⟨p, q, hA, hV, rfl, _, _⟩ := hW
  rw [hv] at hV
  obtain ⟨rfl, rfl⟩ : gs = [] ∧ q = [] := by
    cases gs with
    | nil => exact ⟨rfl, hV⟩
    | cons g gs => exact hV.elim
  have hlen := trodAll_len hA
  refine ⟨ds, [], p ++ [], [], p, [], hW', ?_, ?_, ?_, hE.grown _, fun h => by cases h⟩
  · rw [List.append_nil, hfn ds hlen, hr]
    exact ⟨[], [], shut_bool hb true, rfl, rfl⟩
  · rw [List.append_nil, hfn ds hlen]
    exact trodAll_stays hl hE hts hA fun x hx => by
      have := hlt x (by simpa using hx)
      exact ⟨this, by simpa using this⟩
  · rw [List.append_nil, hfn ds hlen, hv]
    exact rfl
/-! ### types whose parts are integers and bools -/
theorem wf_bd {k : IntKind} {n : Int} (h : (Lit.int k n).wf = true) : k.min ≤ n ∧ n ≤ k.max := by
  simpa [Lit.wf] using h
end
end Go.Proofs.YtfedlkeiafcdmaaGreat
/-! NSeat -/
namespace Go.Proofs.YtfedlkeiafcdmaaGreat
set_option linter.unusedVariables false
set_option linter.unusedSimpArgs false
open Go.ChangeShapes Go.WideShapes Go.ChangeAt Go.RowKit
theorem own : ownKnob Tryz.prog.godebug = none := by kernel_rfl
theorem laidOut : laidOutB Tryz.prog = true := by kernel_rfl
def seatLaid : List (String × DataW Unit) := []
noncomputable def laidWorld (os : Os) : World := World.holding Tryz.prog os ⟨#[], #[], []⟩
theorem laid_met (os : Os) (args : Array Value) : laidMet Tryz.prog seatLaid ((laidWorld os).forCall (fun _ _ => 0) ⟨#[], args, []⟩).memory :=
  laidMet_of_run' 8 (by kernel_rfl) (by kernel_rfl)
end Go.Proofs.YtfedlkeiafcdmaaGreat
/-! ROpen -/
namespace Go.Proofs.YtfedlkeiafcdmaaGreat
set_option linter.unusedVariables false
set_option linter.unusedSimpArgs false
open Go.ChangeShapes Go.WideShapes Go.ChangeAt Go.RowKit
def loK : IntKind → Int
  | .i64 => -9223372036854775808 | .u64 => 0 | .u32 => 0 | .u16 => 0 | .u8 => 0 | .i32 => -2147483648 | k => k.min
def hiK : IntKind → Int
  | .i64 => 9223372036854775807 | .u64 => 18446744073709551615 | .u32 => 4294967295 | .u16 => 65535 | .u8 => 255 | .i32 => 2147483647 | k => k.max
theorem int_bd {k : IntKind} {n : Int} (h : (Lit.int k n).wf = true) : loK k ≤ n ∧ n ≤ hiK k := by
  have := wf_bd h
  cases k <;> simp [IntKind.min, IntKind.max, IntKind.signed, IntKind.bits, loK, hiK] at this ⊢ <;> omega
end Go.Proofs.YtfedlkeiafcdmaaGreat
/-! LibN -/
namespace Go.Proofs.YtfedlkeiafcdmaaGreat
set_option linter.unusedVariables false
set_option linter.unusedSimpArgs false
open Go.RowKit
/-- What came in has not been turned. -/
theorem Mem.back {S : List Nat} {W w : World} {l : List (Nat × Obj)} (M : Mem S W w l) (h : ∀ k ∈ S, ∃ o, Has l k o ∧ W.heap[k]? = some o) : Ext [] W w :=
  ⟨M.ext.os, M.ext.tape, M.ext.output, M.ext.size, M.ext.dr, fun k hk _ => by
    by_cases hS : k ∈ S
    · obtain ⟨o, h1, h2⟩ := h k hS
      rw [M.heap h1, h2]
    · exact M.ext.block k hk hS⟩
section
variable {P : Program} {ρ : Operand → Value} {w W0 : World} {S : List Nat} {l l' : List (Nat × Obj)} {R : Value → World → Prop} {d : Option Tmp} {ty : TypeId} {pos : String} {af : Array Edge} {g : Option (Nat × Bool)}
theorem run_copy {dT sT e : TypeId} {sz b o dLen dCap n : Nat} {xv : Value} {sLen : Nat} {cs cs' ys : List Value} {t' : TypeId} (hst : P.underlying dT = some (.slice e)) (hsz : sizeIs P e sz = true) (M : Mem S W0 w l) (hlen : (Builtin.lenOf xv).run P w = .ok sLen w) (hn : n = Nat.min sLen dLen)
    (hc : (Builtin.firstCells sz n xv).run P w = .ok ys.toArray w) (h1 : ∀ v ∈ ys, v.oneCell' = true) (hb : Has l b (.cells cs.toArray t' (0, 0))) (hp : put cs o ys = some cs') (hu : Upd l b (.cells cs.toArray t' (0, 0)) (.cells cs'.toArray t' (0, 0)) l') (tyy : TypeId) :
    ∃ w', (Builtin.copy_ #[dT, sT] tyy #[.slice (some ⟨b, o, none⟩) dLen dCap, xv]).run P w = .ok (.int .i64 n) w' ∧ Mem S W0 w' l' ∧ Ext [b] w w' := by
  obtain ⟨hle, rfl⟩ := put_splice _ _ _ _ hp
  obtain ⟨w', hr, he, hh⟩ := run_storeRow (P := P) (off := o) ys 0 cs w (M.heap hb) (by simpa using hle) h1
  refine ⟨w', ?_, M.turned hu he (by simpa using hh), he⟩
  subst hn
  simp [Builtin.copy_, run_underlying hst, hlen, run_sizeOf hsz, hc, hr, goInt]
/-- copy out of the nil slice -/
theorem o_copyNil {dT sT e : TypeId} {x y : Operand} {sz : Nat} {p : Option Addr} {dLen dCap : Nat} [hst : TU P dT (.slice e)] [hsz : TSz P e sz] (hx : ρ x = .slice p dLen dCap) (hy : ρ y = .slice none 0 0) (h : R (.int .i64 0) w) : OpTo P ⟨d, .call ⟨.builtin .copy, #[x, y], #[dT, sT]⟩, ty, pos, af, g⟩ ρ w R := by
  refine OpTo.val (v := .int .i64 0) (w' := w) ?_ h
  cases p <;> simp [execOp, resolve, invoke, builtin, hx, hy, Builtin.copy_, run_underlying hst.h, Builtin.lenOf, run_sizeOf hsz.h, Builtin.firstCells, storeCells, goInt]
end
/-- a slice over the whole of a new block -/
def NewS (n0 len cap : Nat) (o : Obj) : Pred := fun v w => ∃ b, v = .slice (some ⟨b, 0, none⟩) len cap ∧ n0 ≤ b ∧ w.heap[b]? = some o
theorem NewS.stays (n0 len cap : Nat) (o : Obj) : Stays keepAll (NewS n0 len cap o) := fun v w w' ⟨b, h1, h2, h3⟩ h => ⟨b, h1, h2, by
  rw [Ext.block h b (Array.getElem?_eq_some_iff.1 h3).1 (by simp)]; exact h3⟩
end Go.Proofs.YtfedlkeiafcdmaaGreat
/-! LibQ -/
namespace Go.Proofs.YtfedlkeiafcdmaaGreat
set_option linter.unusedVariables false
set_option linter.unusedSimpArgs false
open Go.RowKit
/-- v: a slice of n elements (sz cells each), whose cells are xs -/
def SlAt (W : World) (sz : Nat) (v : Value) (n : Nat) (xs : List Value) : Prop :=
  ∃ p cap, v = .slice p n cap ∧ n ≤ cap ∧ (∀ a : Addr, p = some a → True) ∧ xs.length = n * sz ∧ (0 < n → ∃ b o cs t fz, p = some ⟨b, o, none⟩ ∧ W.heap[b]? = some (.cells (List.toArray cs) t fz) ∧ seg cs o (n * sz) = some xs)
theorem SlAt.later {W w : World} {sz : Nat} {v : Value} {n : Nat} {xs : List Value} (h : SlAt W sz v n xs) (E : Ext [] W w) : SlAt w sz v n xs := by
  obtain ⟨p, cap, h1, h2, h3, h4, h5⟩ := h
  refine ⟨p, cap, h1, h2, h3, h4, fun hn => ?_⟩
  obtain ⟨b, o, cs, t, fz, h6, h7, h8⟩ := h5 hn
  exact ⟨b, o, cs, t, fz, h6, by rw [E.block b (Array.getElem?_eq_some_iff.1 h7).1 (by simp)]; exact h7, h8⟩
theorem SlAt.nil (W : World) (sz : Nat) : SlAt W sz (.slice none 0 0) 0 [] := ⟨none, 0, rfl, Nat.le_refl _, by simp, by simp, fun h => absurd h (by omega)⟩
section
variable {P : Program} {ρ : Operand → Value} {w W0 : World} {S : List Nat} {l l' : List (Nat × Obj)} {R : Value → World → Prop} {d : Option Tmp} {ty : TypeId} {pos : String} {af : Array Edge} {g : Option (Nat × Bool)}
theorem o_capSl {x : Operand} {t e : TypeId} {p : Option Addr} {n c : Nat} (hx : ρ x = .slice p n c) [ht : TU P t (.slice e)] (h : R (.int .i64 c) w) : OpTo P ⟨d, .call ⟨.builtin .cap, #[x], #[t]⟩, ty, pos, af, g⟩ ρ w R :=
  OpTo.val (v := .int .i64 c) (w' := w) (by simp [execOp, resolve, invoke, builtin, hx, Builtin.cap_, run_underlying ht.h, goInt]) h
/-! entries of the model -/
end
/-! bytes compared -/
section
variable {P : Program} {ρ : Operand → Value} {w W0 : World} {S : List Nat} {l l' : List (Nat × Obj)} {R : Value → World → Prop} {d : Option Tmp} {ty : TypeId} {pos : String} {af : Array Edge} {g : Option (Nat × Bool)}
theorem o_storeAE {t : TypeId} {x y : Operand} {b off n : Nat} {cs cs' vs : List Value} {t' : TypeId} [hs : TAgg P t n] (M : Mem S W0 w l) (hx : ρ x = .pointer (some ⟨b, off, none⟩)) (hy : ρ y = .agg vs.toArray) (hn : vs.length = n) (h1 : vs.all (·.oneCell') = true) (hb : Has l b (.cells cs.toArray t' (0, 0))) (hp : put cs off vs = some cs')
    (hu : Upd l b (.cells cs.toArray t' (0, 0)) (.cells cs'.toArray t' (0, 0)) l') (h : ∀ w', Ext [b] w w' → Mem S W0 w' l' → R undef w') : OpTo P ⟨d, .store t x y, ty, pos, af, g⟩ ρ w R := by
  obtain ⟨hle, rfl⟩ := put_splice _ _ _ _ hp
  obtain ⟨w', hr, he, hh⟩ := run_storeRow (P := P) (off := off) vs 0 cs w (M.heap hb) (by simpa using hle) (fun v hv => List.all_eq_true.1 h1 v hv)
  refine OpTo.skip (w' := w') ?_ (h _ he (M.turned hu he (by simpa using hh)))
  simp only [execOp, Instr.storeAt, Instr.sureAddr, hx, hy, storeVar, Sem.run_bind, Sem.run_pure, Result.andThen_ok, run_sizeOf_agg hs.h, Value.cells]
  simp [hr, hn]
end
end Go.Proofs.YtfedlkeiafcdmaaGreat
/-! LibR -/
namespace Go.Proofs.YtfedlkeiafcdmaaGreat
set_option linter.unusedVariables false
set_option linter.unusedSimpArgs false
open Go.RowKit
/-- Of what lies below n0 only the blocks B are turned; what lies above keeps its kind and length. -/
structure Sh (n0 : Nat) (B : List Nat) (w w' : World) : Prop where
  os : w'.os = w.os
  tape : w'.tape = w.tape
  output : w'.output = w.output
  size : w.heap.size ≤ w'.heap.size
  dr : w.drawn ≤ w'.drawn
  old : ∀ k, k < n0 → k < w.heap.size → k ∉ B → w'.heap[k]? = w.heap[k]?
  new : ∀ k cs t, n0 ≤ k → w.heap[k]? = some (.cells cs t (0, 0)) → ∃ cs', w'.heap[k]? = some (.cells cs' t (0, 0)) ∧ cs'.size = cs.size
theorem Sh.of_ext {n0 : Nat} {B : List Nat} {w w' : World} (h : Ext [] w w') : Sh n0 B w w' :=
  ⟨h.os, h.tape, h.output, h.size, h.dr, fun k _ hk _ => h.block k hk (by simp), fun k cs t _ hb => ⟨cs, by rw [h.block k (Array.getElem?_eq_some_iff.1 hb).1 (by simp)]; exact hb, rfl⟩⟩
theorem Sh.trans {n0 : Nat} {B : List Nat} {a b c : World} (h : Sh n0 B a b) (k : Sh n0 B b c) : Sh n0 B a c :=
  ⟨k.os.trans h.os, k.tape.trans h.tape, k.output.trans h.output, Nat.le_trans h.size k.size, Nat.le_trans h.dr k.dr, fun i hi hs hb => (k.old i hi (Nat.lt_of_lt_of_le hs h.size) hb).trans (h.old i hi hs hb), fun i cs t hn hb => by
    obtain ⟨cs1, h1, h2⟩ := h.new i cs t hn hb
    obtain ⟨cs2, h3, h4⟩ := k.new i cs1 t hn h1
    exact ⟨cs2, h3, h4.trans h2⟩⟩
def keepSh (n0 : Nat) (B : List Nat) : Keep := ⟨Ext [], Sh n0 B, fun w => Ext.refl [] w, Sh.of_ext, Sh.trans, fun h => h.size⟩
theorem Sh.ext {B : List Nat} {w w' : World} (h : Sh w.heap.size B w w') : Ext B w w' := ⟨h.os, h.tape, h.output, h.size, h.dr, fun k hk hb => h.old k hk hk hb⟩
/-- a pointer to a new block of this kind and length -/
def AlS (n0 : Nat) (t : TypeId) (len : Nat) : Pred := fun v w => ∃ b cs, v = ptrTo b ∧ n0 ≤ b ∧ w.heap[b]? = some (.cells cs t (0, 0)) ∧ cs.size = len
theorem AlS.stays (n0 : Nat) (B : List Nat) (t : TypeId) (len : Nat) : Stays (keepSh n0 B) (AlS n0 t len) := fun v w w' ⟨b, cs, h1, h2, h3, h4⟩ h => by
  obtain ⟨cs', h5, h6⟩ := Sh.new h b cs t h2 h3
  exact ⟨b, cs', h1, h2, h5, h6.trans h4⟩
section
variable {c : RC} {fr : List (Nat × Value)} {Vs : List Pred} {T T' : SPred} {rest : List Oper} {d : Nat} {op : Op} {ty : TypeId} {pos : String} {af : Array Edge} {ix : Nat}
end
section
variable {P : Program} {ρ : Operand → Value} {w : World} {R : Value → World → Prop} {d : Option Tmp} {ty : TypeId} {pos : String} {af : Array Edge} {g : Option (Nat × Bool)}
end
end Go.Proofs.YtfedlkeiafcdmaaGreat
/-! LibS -/
namespace Go.Proofs.YtfedlkeiafcdmaaGreat
set_option linter.unusedVariables false
set_option linter.unusedSimpArgs false
open Go.RowKit
/-- new blocks -/
structure NewM (n0 : Nat) (w : World) (l : List (Nat × Obj)) : Prop where
  at_ : ∀ p ∈ l, w.heap[p.1]? = some p.2
  nd : (l.map (·.1)).Nodup
  ge : ∀ p ∈ l, n0 ≤ p.1
theorem NewM.lt {n0 : Nat} {w : World} {l : List (Nat × Obj)} (h : NewM n0 w l) {p : Nat × Obj} (hp : p ∈ l) : p.1 < w.heap.size := (Array.getElem?_eq_some_iff.1 (h.at_ p hp)).1
theorem NewM.later {n0 : Nat} {w w' : World} {l : List (Nat × Obj)} (h : NewM n0 w l) (E : Ext [] w w') : NewM n0 w' l :=
  ⟨fun p hp => by rw [E.block _ (h.lt hp) (by simp)]; exact h.at_ p hp, h.nd, h.ge⟩
theorem Mem.new {n0 : Nat} {w w' : World} {l : List (Nat × Obj)} (M : Mem [] w w' l) (h : n0 ≤ w.heap.size) : NewM n0 w' l :=
  ⟨M.at_, M.nd, fun p hp => Nat.le_trans h ((M.own p hp).resolve_left (by simp))⟩
theorem NewM.app {n0 : Nat} {w w' : World} {l new : List (Nat × Obj)} (h : NewM n0 w l) (M : Mem [] w w' new) (hn : n0 ≤ w.heap.size) : NewM n0 w' (new ++ l) := by
  have h' := h.later M.ext
  have h2 := M.new hn
  refine ⟨fun p hp => (List.mem_append.1 hp).elim (h2.at_ p) (h'.at_ p), ?_, fun p hp => (List.mem_append.1 hp).elim (h2.ge p) (h'.ge p)⟩
  rw [List.map_append, List.nodup_append]
  refine ⟨h2.nd, h'.nd, ?_⟩
  rintro a ha b hb rfl
  obtain ⟨p, hp, rfl⟩ := List.mem_map.1 ha
  obtain ⟨q, hq, e⟩ := List.mem_map.1 hb
  have h3 := h.lt hq
  have h4 := (M.own p hp).resolve_left (by simp)
  omega
/-- an answer and the new blocks that belong to it -/
def NewP (n0 : Nat) (Φ : Value → List (Nat × Obj) → Prop) : Pred := fun v w => ∃ ent, Φ v ent ∧ NewM n0 w ent
theorem NewP.stays (n0 : Nat) (Φ : Value → List (Nat × Obj) → Prop) : Stays keepAll (NewP n0 Φ) := fun _ _ _ ⟨ent, h, N⟩ E => ⟨ent, h, N.later E⟩
/-! elements of a list in place -/
/-- a slice over a block from n0 on, or none -/
def NewV (n0 : Nat) (v : Value) : Prop := ∀ b o s n c, v = .slice (some ⟨b, o, s⟩) n c → n0 ≤ b
theorem NewV.nil (n0 n c : Nat) : NewV n0 (.slice none n c) := fun _ _ _ _ _ h => by cases h
end Go.Proofs.YtfedlkeiafcdmaaGreat
/-! LibV -/
namespace Go.Proofs.YtfedlkeiafcdmaaGreat
set_option linter.unusedVariables false
set_option linter.unusedSimpArgs false
open Go.RowKit
/-- a block that such an append may turn -/
def Chg (w : World) (k : Nat) : Prop := ∃ cs t, w.heap[k]? = some (.cells cs t (0, 0)) ∧ 20 < cs.size
structure BigE (n0 : Nat) (w w' : World) : Prop where
  os : w'.os = w.os
  tape : w'.tape = w.tape
  output : w'.output = w.output
  size : w.heap.size ≤ w'.heap.size
  dr : w.drawn ≤ w'.drawn
  block : ∀ k, k < w.heap.size → (k < n0 ∨ ¬ Chg w k) → w'.heap[k]? = w.heap[k]?
theorem BigE.of_ext {n0 : Nat} {w w' : World} (h : Ext [] w w') : BigE n0 w w' := ⟨h.os, h.tape, h.output, h.size, h.dr, fun k hk _ => h.block k hk (by simp)⟩
theorem BigE.trans {n0 : Nat} {a b c : World} (h : BigE n0 a b) (k : BigE n0 b c) : BigE n0 a c :=
  ⟨k.os.trans h.os, k.tape.trans h.tape, k.output.trans h.output, Nat.le_trans h.size k.size, Nat.le_trans h.dr k.dr, fun i hi hc => by
    have h1 := h.block i hi hc
    rw [k.block i (Nat.lt_of_lt_of_le hi h.size) (hc.imp_right fun hn hx => hn (by
      obtain ⟨cs, t, e, hs⟩ := hx
      exact ⟨cs, t, by rw [← h1]; exact e, hs⟩)), h1]⟩
theorem BigE.ext {w w' : World} (h : BigE w.heap.size w w') : Ext [] w w' := ⟨h.os, h.tape, h.output, h.size, h.dr, fun k hk _ => h.block k hk (.inl hk)⟩
section
variable {P : Program} {ρ : Operand → Value} {w W0 : World} {S : List Nat} {l l' : List (Nat × Obj)} {R : Value → World → Prop} {d : Option Tmp} {ty : TypeId} {pos : String} {af : Array Edge} {g : Option (Nat × Bool)}
/-- append where there is no room: nothing is turned -/
theorem run_appendG {st xt e tyy : TypeId} {sz by_ n m cap : Nat} {base : Option Addr} {xv : Value} {xs ys : List Value} (hst : P.underlying st = some (.slice e)) (hel : elB P e sz by_ = true) (hxt : notInt P xt = true)
    (hV : SrcOf P w (.slice base n cap) n sz xs) (hX : SrcOf P w xv m sz ys) (hgt : cap < n + m) (hnc' : n ≤ cap) (hbd : (n + m) * by_ ≤ 140737488355328) (hln : n + m ≤ 9223372036854775807) :
    ∃ v' w' ent', (Builtin.append_ #[st, xt] tyy #[.slice base n cap, xv]).run P w = .ok v' w' ∧ OwnS e sz v' (n + m) (xs ++ ys) ent' ∧ Mem [] w w' ent' := by
  obtain ⟨i, z, hi, rfl, rfl, hz, hzs⟩ := elB_spec hel
  have hdx := notInt_spec hxt
  have h48 : ¬ (281474976710656 < Builtin.nextslicecap (n + m) cap * i.bytes) := by
    have := growslice_fits (need := n + m) (old := cap) (bytes := i.bytes) (by omega) hbd
    omega
  have hnc : n + m ≤ grownCap w (n + m) cap e := grownCap_ge w _ _ _
  have hrun := run_append_grow' (tyy := tyy) (w := w) hst hi hz hdx hX.len (by omega) hln h48 (hV.cells (w.drawn + 1)) (hX.cells (w.drawn + 1))
  have e1 : (xs.toArray ++ ys.toArray ++ Builtin.zeroCells z.cells (grownCap w (n + m) cap e - (n + m))) = (xs ++ ys ++ (Builtin.zeroCells z.cells (grownCap w (n + m) cap e - (n + m))).toList).toArray := by
    apply Array.ext'; rw [Array.toList_append, Array.toList_append]
  rw [e1] at hrun
  exact ⟨_, _, [(w.heap.size, .cells (xs ++ ys ++ (Builtin.zeroCells z.cells (grownCap w (n + m) cap e - (n + m))).toList).toArray e (0, 0))], hrun, .inr ⟨w.heap.size, grownCap w (n + m) cap e, (Builtin.zeroCells z.cells (grownCap w (n + m) cap e - (n + m))).toList, rfl, rfl, by rw [List.length_append, hV.size, hX.size, Nat.add_mul], by rw [Array.length_toList, size_zeroCells, hzs], hnc⟩, ((Mem.start [] w).later (Ext.drawn w (w.drawn + 1) (Nat.le_succ _))).alloc _⟩
end
end Go.Proofs.YtfedlkeiafcdmaaGreat
/-! LibX -/
namespace Go.Proofs.YtfedlkeiafcdmaaGreat
set_option linter.unusedVariables false
set_option linter.unusedSimpArgs false
open Go.RowKit
section
variable {P : Program} {ρ : Operand → Value} {w W0 : World} {S : List Nat} {l l' : List (Nat × Obj)} {R : Value → World → Prop} {d : Option Tmp} {ty : TypeId} {pos : String} {af : Array Edge} {g : Option (Nat × Bool)}
/-- a slice compared with nil -/
theorem o_eqlNil {t t' e : TypeId} {x y : Operand} {p : Option Addr} {n c : Nat} (hx : ρ x = .slice p n c) (hy : ρ y = .slice none 0 0) [ht : TU P t (.slice e)] (h : R (.bool p.isNone) w) : OpTo P ⟨d, .binOp .eql t x y t', ty, pos, af, g⟩ ρ w R := by
  have hr0 : ∀ k : Nat, (Op.equalIn (k + 1) t (.slice p n c) (.slice none 0 0)).run P w = .ok p.isNone w := fun k => by
    cases p <;> simp [Op.equalIn, run_underlying ht.h]
  have hr := hr0 9999
  exact OpTo.val (v := .bool p.isNone) (w' := w) (by simp [execOp, eqGuard, binOp, Op.equal, Op.maxDepth, hx, hy, hr]) h
end
end Go.Proofs.YtfedlkeiafcdmaaGreat
/-! RunA -/
namespace Go.Proofs.YtfedlkeiafcdmaaGreat
set_option linter.unusedVariables false
set_option linter.unusedSimpArgs false
open Go.RowKit
/-! ### integers that are not told -/
/-- the constant part of a form, and the rest -/
def cstP (n : Int) : Int := (n + 633825300114114700748351602688) % 1267650600228229401496703205376 - 633825300114114700748351602688
def rstP (n : Int) : Int := (n + 633825300114114700748351602688) / 1267650600228229401496703205376
def smP (c : Int) : Bool := Nat.blt c.natAbs 316912650057057350374175801344
def okA (n : Int) : Bool := smP (cstP n) && smP (cstP (rstP n)) && smP (cstP (rstP (rstP n))) && smP (cstP (rstP (rstP (rstP n))))
def litI (n : Int) : Bool := Nat.blt n.natAbs 1237940039285380274899124224
/-- what forms stand for -/
class Sy where
  th : Int → Int
  rng : Int → Option (Int × Int)
  lit : ∀ n : Int, litI n = true → th n = n
  add : ∀ x y : Int, okA x = true → okA y = true → th (x + y) = th x + th y
  sub : ∀ x y : Int, okA x = true → okA y = true → th (x - y) = th x - th y
  rng_ok : ∀ x lo hi : Int, rng x = some (lo, hi) → lo ≤ th x ∧ th x ≤ hi
variable [Y : Sy]
/-! ### values, up to where their blocks lie -/
/-- where a block lies, and how many elements it has room for -/
abbrev Rl := Nat → Option (Nat × Nat)
def capR (c k : Nat) : Nat := if k < 9223372036854775808 then k else c - (18446744073709551616 - k)
mutual
inductive VR [Y : Sy] (ρ : Rl) : Value → Value → Prop
  | bool (b : Bool) : VR ρ (.bool b) (.bool b)
  | int (k : IntKind) (n : Int) : VR ρ (.int k n) (.int k (Y.th n))
  | str (s : ByteArray) : VR ρ (.string s) (.string s)
  | ptr0 : VR ρ (.pointer none) (.pointer none)
  | ptr {b o r c : Nat} (h : ρ b = some (r, c)) : VR ρ (.pointer (some ⟨b, o, none⟩)) (.pointer (some ⟨r, o, none⟩))
  | sl0 (n c : Nat) : VR ρ (.slice none n c) (.slice none n c)
  | sl {b o r c n k : Nat} (h : ρ b = some (r, c)) (hn : n ≤ capR c k) : VR ρ (.slice (some ⟨b, o, none⟩) n k) (.slice (some ⟨r, o, none⟩) n (capR c k))
  | slE (q : Addr) (k : Nat) : VR ρ (.slice (some ⟨0, 0, some 0⟩) 0 0) (.slice (some q) 0 k)
  | fn {f : Fn} {vs us : Array Value} {vs' us' : List Value} (h1 : VRs ρ vs.toList vs') (h2 : VRs ρ us.toList us') : VR ρ (.func f vs us) (.func f vs'.toArray us'.toArray)
  | nilF : VR ρ .nilFunc .nilFunc
  | nilI : VR ρ .nilIface .nilIface
  | map0 : VR ρ (.map none) (.map none)
  | mp {b r c : Nat} (h : ρ b = some (r, c)) : VR ρ (.map (some b)) (.map (some r))
  | agg {cs : Array Value} {cs' : List Value} (h : VRs ρ cs.toList cs') : VR ρ (.agg cs) (.agg cs'.toArray)
  | tup {cs : Array Value} {cs' : List Value} (h : VRs ρ cs.toList cs') : VR ρ (.tuple cs) (.tuple cs'.toArray)
inductive VRs [Y : Sy] (ρ : Rl) : List Value → List Value → Prop
  | nil : VRs ρ [] []
  | cons {v v' : Value} {vs vs' : List Value} (h : VR ρ v v') (t : VRs ρ vs vs') : VRs ρ (v :: vs) (v' :: vs')
end
mutual
theorem VR.mono {ρ ρ' : Rl} (hle : ∀ b r, ρ b = some r → ρ' b = some r) : ∀ {v u : Value}, VR ρ v u → VR ρ' v u
  | _, _, .bool b => .bool b
  | _, _, .int k n => .int k n
  | _, _, .str s => .str s
  | _, _, .ptr0 => .ptr0
  | _, _, .ptr h => .ptr (hle _ _ h)
  | _, _, .sl0 n c => .sl0 n c
  | _, _, .sl h hn => .sl (hle _ _ h) hn
  | _, _, .slE q k => .slE q k
  | _, _, .fn h1 h2 => .fn (VRs.mono hle h1) (VRs.mono hle h2)
  | _, _, .nilF => .nilF
  | _, _, .nilI => .nilI
  | _, _, .map0 => .map0
  | _, _, .mp h => .mp (hle _ _ h)
  | _, _, .agg h => .agg (VRs.mono hle h)
  | _, _, .tup h => .tup (VRs.mono hle h)
theorem VRs.mono {ρ ρ' : Rl} (hle : ∀ b r, ρ b = some r → ρ' b = some r) : ∀ {v u : List Value}, VRs ρ v u → VRs ρ' v u
  | _, _, .nil => .nil
  | _, _, .cons h t => .cons (VR.mono hle h) (VRs.mono hle t)
end
theorem VRs.len {ρ : Rl} : ∀ {v u : List Value}, VRs ρ v u → u.length = v.length
  | _, _, .nil => rfl
  | _, _, .cons _ t => by simp [VRs.len t]
theorem VRs.app {ρ : Rl} : ∀ {v u v2 u2 : List Value}, VRs ρ v u → VRs ρ v2 u2 → VRs ρ (v ++ v2) (u ++ u2)
  | _, _, _, _, .nil, h => h
  | _, _, _, _, .cons h t, h2 => .cons h (VRs.app t h2)
theorem VRs.split {ρ : Rl} : ∀ {v v2 u : List Value}, VRs ρ (v ++ v2) u → ∃ u1 u2, u = u1 ++ u2 ∧ VRs ρ v u1 ∧ VRs ρ v2 u2
  | [], _, u, h => ⟨[], u, rfl, .nil, h⟩
  | x :: xs, v2, _, .cons h t => by
    obtain ⟨u1, u2, rfl, h1, h2⟩ := VRs.split (v := xs) t
    exact ⟨_ :: u1, u2, rfl, .cons h h1, h2⟩
theorem vr_nth {ρ : Rl} : ∀ {v u : List Value} {i : Nat} {x : Value}, VRs ρ v u → nth v i = some x → ∃ y, nth u i = some y ∧ VR ρ x y
  | _, _, 0, _, .cons h _, e => by
    cases e
    exact ⟨_, rfl, h⟩
  | _, _, i + 1, _, .cons _ t, e => vr_nth (i := i) t e
theorem vr_seg {ρ : Rl} : ∀ {v u : List Value} {off n : Nat} {xs : List Value}, VRs ρ v u → seg v off n = some xs → ∃ ys, seg u off n = some ys ∧ VRs ρ xs ys
  | v, u, 0, 0, xs, h, e => by
    cases h <;> (simp [seg] at e; subst e; exact ⟨[], by simp [seg], .nil⟩)
  | _, _, off + 1, 0, xs, .nil, e => by
    simp [seg] at e
  | _, _, 0, n + 1, xs, .nil, e => by
    simp [seg] at e
  | _, _, off + 1, n + 1, xs, .nil, e => by
    simp [seg] at e
  | _, _, off + 1, n, xs, .cons (vs := vs) h t, e => by
    have e' : seg vs off n = some xs := by cases n <;> simpa [seg] using e
    obtain ⟨ys, h1, h2⟩ := vr_seg t e'
    exact ⟨ys, by cases n <;> simpa [seg] using h1, h2⟩
  | _, _, 0, n + 1, xs, .cons (vs := vs) h t, e => by
    simp only [seg] at e
    split at e
    · rename_i r hr
      cases e
      obtain ⟨ys, h1, h2⟩ := vr_seg t hr
      exact ⟨_ :: ys, by simp [seg, h1], .cons h h2⟩
    · cases e
omit Y in
theorem seg_junk {xs junk : List Value} {off n : Nat} {ys : List Value} (h : seg xs off n = some ys) : seg (xs ++ junk) off n = some ys := by
  induction xs generalizing off n ys with
  | nil =>
    cases off <;> cases n <;> simp [seg] at h
    subst h
    cases junk <;> simp [seg]
  | cons x xs ih =>
    cases off with
    | zero =>
      cases n with
      | zero => simpa [seg] using h
      | succ n =>
        simp only [seg] at h
        split at h
        · rename_i r hr
          cases h
          simp [seg, ih hr]
        · cases h
    | succ off => cases n <;> (simp only [List.cons_append, seg] at h ⊢; exact ih h)
omit Y in
theorem nth_junk {xs junk : List Value} {i : Nat} {y : Value} (h : nth xs i = some y) : nth (xs ++ junk) i = some y := by
  rw [nth_spec] at h ⊢
  have := (List.getElem?_eq_some_iff.1 h).1
  rw [List.getElem?_append_left this, h]
theorem vr_put {ρ : Rl} {v u ys zs rs : List Value} {off : Nat} (h : VRs ρ v u) (h2 : VRs ρ ys zs) (e : put v off ys = some rs) : ∃ us, put u off zs = some us ∧ VRs ρ rs us := by
  obtain ⟨h3, rfl⟩ := put_splice _ _ _ _ e
  refine ⟨_, put_of _ _ _ (by rw [h2.len, h.len]; exact h3), ?_⟩
  have ht : ∀ (n : Nat) {a b : List Value}, VRs ρ a b → VRs ρ (a.take n) (b.take n) := fun n a b hab => by
    rw [← List.take_append_drop n a] at hab
    obtain ⟨u1, u2, rfl, q1, q2⟩ := hab.split
    have hl := q1.len
    have hl2 := q2.len
    rw [List.length_take] at hl
    have : (u1 ++ u2).take n = u1 := by
      by_cases hn : n ≤ a.length
      · rw [List.take_append_of_le_length (by omega), List.take_of_length_le (by omega)]
      · have : u2 = [] := List.length_eq_zero_iff.1 (by rw [hl2, List.length_drop]; omega)
        rw [this, List.append_nil, List.take_of_length_le (by omega)]
    rw [this]
    exact q1
  have hd : ∀ (n : Nat) {a b : List Value}, VRs ρ a b → VRs ρ (a.drop n) (b.drop n) := fun n a b hab => by
    rw [← List.take_append_drop n a] at hab
    obtain ⟨u1, u2, rfl, q1, q2⟩ := hab.split
    have hl := q1.len
    have hl2 := q2.len
    rw [List.length_take] at hl
    rw [List.length_drop] at hl2
    have : (u1 ++ u2).drop n = u2 := by
      by_cases hn : n ≤ a.length
      · rw [List.drop_append_of_le_length (by omega), List.drop_of_length_le (by omega), List.nil_append]
      · have : u2 = [] := List.length_eq_zero_iff.1 (by omega)
        rw [this, List.append_nil, List.drop_of_length_le (by omega)]
    rw [this]
    exact q2
  unfold splice
  exact (ht _ h).app (h2.app (by rw [h2.len]; exact hd _ h))
omit Y in
theorem put_junk {xs ys zs junk : List Value} {off : Nat} (h : put xs off ys = some zs) : put (xs ++ junk) off ys = some (zs ++ junk) := by
  obtain ⟨h1, rfl⟩ := put_splice _ _ _ _ h
  rw [put_of _ _ _ (by simp; omega)]
  unfold splice
  rw [List.take_append_of_le_length (by omega), List.drop_append_of_le_length h1]
  simp
/-! ### numbers worked out -/
noncomputable def forceN (n : Nat) (c : Nat → Bool) : Bool := Nat.rec (c 0) (fun m _ => c (Nat.succ m)) n
omit Y in
theorem forceN_is (n : Nat) (c : Nat → Bool) : forceN n c = c n := by cases n <;> rfl
noncomputable def forceI (n : Int) (c : Int → Bool) : Bool := Int.rec (fun m => forceN m fun m => c (.ofNat m)) (fun m => forceN m fun m => c (.negSucc m)) n
omit Y in
theorem forceI_is (n : Int) (c : Int → Bool) : forceI n c = c n := by cases n <;> simp [forceI, forceN_is]
noncomputable def forceB (b : Bool) (c : Bool → Bool) : Bool := Bool.rec (c false) (c true) b
omit Y in
theorem forceB_is (b : Bool) (c : Bool → Bool) : forceB b c = c b := by cases b <;> rfl
/-! ### lists -/
noncomputable def nthK (l : List Value) (i : Nat) (c : Value → Bool) : Bool := List.rec (motive := fun _ => Nat → Bool) (fun _ => false) (fun x _ ih i => Nat.rec (c x) (fun j _ => ih j) i) l i
omit Y in
theorem nthK_ok {c : Value → Bool} : ∀ {l : List Value} {i : Nat}, nthK l i c = true → ∃ v, nth l i = some v ∧ c v = true
  | [], _, h => by cases h
  | x :: _, 0, h => ⟨x, rfl, h⟩
  | _ :: _, i + 1, h => nthK_ok (i := i) h
noncomputable def takeK (l : List Value) : Nat → (List Value → Bool) → Bool := List.rec (motive := fun _ => Nat → (List Value → Bool) → Bool) (fun n c => Nat.rec (c []) (fun _ _ => false) n) (fun x _ ih n c => Nat.rec (c []) (fun m _ => ih m fun ys => c (x :: ys)) n) l
noncomputable def segK (l : List Value) : Nat → Nat → (List Value → Bool) → Bool := List.rec (motive := fun _ => Nat → Nat → (List Value → Bool) → Bool) (fun off n c => Nat.rec (Nat.rec (c []) (fun _ _ => false) n) (fun _ _ => false) off) (fun x xs ih off n c => Nat.rec (takeK (x :: xs) n c) (fun o _ => ih o n c) off) l
omit Y in
theorem takeK_ok : ∀ {l : List Value} {n : Nat} {c : List Value → Bool}, takeK l n c = true → ∃ ys, seg l 0 n = some ys ∧ c ys = true
  | [], 0, c, h => ⟨[], rfl, h⟩
  | [], n + 1, c, h => by cases h
  | x :: xs, 0, c, h => ⟨[], rfl, h⟩
  | x :: xs, n + 1, c, h => by
    obtain ⟨ys, h1, h2⟩ := takeK_ok (l := xs) (n := n) (c := fun ys => c (x :: ys)) h
    exact ⟨x :: ys, by simp [seg, h1], h2⟩
omit Y in
theorem segK_ok {c : List Value → Bool} : ∀ {l : List Value} {off n : Nat}, segK l off n c = true → ∃ ys, seg l off n = some ys ∧ c ys = true
  | [], 0, 0, h => ⟨[], rfl, h⟩
  | [], 0, n + 1, h => by cases h
  | [], off + 1, n, h => by cases h
  | x :: xs, 0, n, h => takeK_ok h
  | x :: xs, off + 1, n, h => by
    obtain ⟨ys, h1, h2⟩ := segK_ok (l := xs) (off := off) (n := n) h
    exact ⟨ys, by cases n <;> simpa [seg] using h1, h2⟩
noncomputable def putK (l : List Value) : Nat → List Value → (List Value → Bool) → Bool := List.rec (motive := fun _ => Nat → List Value → (List Value → Bool) → Bool)
  (fun off ys c => Nat.rec (List.rec (c []) (fun _ _ _ => false) ys) (fun _ _ => false) off)
  (fun x xs ih off ys c => Nat.rec (List.rec (c (x :: xs)) (fun y ys' _ => ih 0 ys' fun r => c (y :: r)) ys) (fun o _ => ih o ys fun r => c (x :: r)) off) l
omit Y in
theorem putK_ok : ∀ {l : List Value} {off : Nat} {ys : List Value} {c : List Value → Bool}, putK l off ys c = true → ∃ zs, put l off ys = some zs ∧ c zs = true
  | [], 0, [], c, h => ⟨[], rfl, h⟩
  | [], 0, _ :: _, c, h => by cases h
  | [], off + 1, ys, c, h => by cases h
  | x :: xs, 0, [], c, h => ⟨x :: xs, rfl, h⟩
  | x :: xs, 0, y :: ys, c, h => by
    obtain ⟨zs, h1, h2⟩ := putK_ok (l := xs) (off := 0) (ys := ys) (c := fun r => c (y :: r)) h
    exact ⟨y :: zs, by simp [put, h1], h2⟩
  | x :: xs, off + 1, ys, c, h => by
    obtain ⟨zs, h1, h2⟩ := putK_ok (l := xs) (off := off) (ys := ys) (c := fun r => c (x :: r)) h
    exact ⟨x :: zs, by cases ys <;> simp [put, h1], h2⟩
noncomputable def appK (l : List Value) (ys : List Value) : (List Value → Bool) → Bool := List.rec (motive := fun _ => (List Value → Bool) → Bool) (fun c => c ys) (fun x _ ih c => ih fun r => c (x :: r)) l
omit Y in
theorem appK_is {ys : List Value} : ∀ (l : List Value) (c : List Value → Bool), appK l ys c = c (l ++ ys)
  | [], _ => rfl
  | x :: xs, c => appK_is xs fun r => c (x :: r)
/-! ### tries -/
inductive Tr (α : Type)
  | leaf
  | node (v : Option α) (l r : Tr α)
noncomputable def Tr.get {α : Type} (t : Tr α) : Nat → Option α :=
  Tr.rec (motive := fun _ => Nat → Option α) (fun _ => none) (fun v _ _ gl gr k => Nat.rec (motive := fun _ => Option α) v (fun _ _ => Bool.rec (gr (Nat.div k 2)) (gl (Nat.div k 2)) (Nat.beq (Nat.mod k 2) 0)) k) t
omit Y in
theorem Tr.get_node {α : Type} (v : Option α) (l r : Tr α) (k : Nat) : (Tr.node v l r).get k = if k = 0 then v else if k % 2 = 0 then l.get (k / 2) else r.get (k / 2) := by
  cases k with
  | zero => rfl
  | succ n =>
    show (Bool.rec (r.get ((n + 1) / 2)) (l.get ((n + 1) / 2)) (Nat.beq ((n + 1) % 2) 0) : Option α) = _
    rw [if_neg (Nat.succ_ne_zero n)]
    split
    · rename_i h
      rw [h]
      rfl
    · rename_i h
      have : (n + 1) % 2 = 1 := by omega
      rw [this]
      rfl
noncomputable def Tr.setL {α : Type} (f : Nat) : Nat → Option α → (Tr α → Bool) → Bool :=
  Nat.rec (motive := fun _ => Nat → Option α → (Tr α → Bool) → Bool) (fun _ _ _ => false) (fun _ ih k x c => Nat.rec (c (.node x .leaf .leaf)) (fun _ _ => Bool.rec (ih (Nat.div k 2) x fun r => c (.node none .leaf r)) (ih (Nat.div k 2) x fun l => c (.node none l .leaf)) (Nat.beq (Nat.mod k 2) 0)) k) f
noncomputable def Tr.setK {α : Type} (t : Tr α) : Nat → Option α → (Tr α → Bool) → Bool :=
  Tr.rec (motive := fun _ => Nat → Option α → (Tr α → Bool) → Bool) (fun k x c => Tr.setL 40 k x c)
    (fun v l r sl sr k x c => Nat.rec (c (.node x l r)) (fun _ _ => Bool.rec (sr (Nat.div k 2) x fun r => c (.node v l r)) (sl (Nat.div k 2) x fun l => c (.node v l r)) (Nat.beq (Nat.mod k 2) 0)) k) t
omit Y in
theorem Tr.get_leaf {α : Type} (j : Nat) : (Tr.leaf : Tr α).get j = none := rfl
omit Y in
theorem Tr.setL_ok {α : Type} : ∀ {f k : Nat} {x : Option α} {c : Tr α → Bool}, Tr.setL f k x c = true → ∃ t', (∀ j, t'.get j = if j = k then x else none) ∧ c t' = true
  | 0, _, _, _, h => by cases h
  | f + 1, 0, x, c, h => ⟨_, fun j => by rw [Tr.get_node]; split; rfl; split <;> rfl, h⟩
  | f + 1, k + 1, x, c, h => by
    have h' : (Bool.rec (Tr.setL f ((k + 1) / 2) x fun r => c (.node none .leaf r)) (Tr.setL f ((k + 1) / 2) x fun l => c (.node none l .leaf)) (Nat.beq ((k + 1) % 2) 0) : Bool) = true := h
    by_cases hp : (k + 1) % 2 = 0
    · rw [hp] at h'
      obtain ⟨t', h1, h2⟩ := Tr.setL_ok (f := f) h'
      refine ⟨_, fun j => ?_, h2⟩
      rw [Tr.get_node, h1]
      by_cases hj : j = 0
      · rw [if_pos hj, if_neg (by omega)]
      · rw [if_neg hj]
        by_cases hj2 : j % 2 = 0
        · rw [if_pos hj2]
          by_cases he : j = k + 1
          · rw [if_pos he, if_pos (by rw [he])]
          · rw [if_neg he, if_neg (by omega)]
        · rw [if_neg hj2, if_neg (by omega)]
          rfl
    · have hp' : (k + 1) % 2 = 1 := by omega
      rw [hp'] at h'
      obtain ⟨t', h1, h2⟩ := Tr.setL_ok (f := f) h'
      refine ⟨_, fun j => ?_, h2⟩
      rw [Tr.get_node, h1]
      by_cases hj : j = 0
      · rw [if_pos hj, if_neg (by omega)]
      · rw [if_neg hj]
        by_cases hj2 : j % 2 = 0
        · rw [if_pos hj2, if_neg (by omega)]
          rfl
        · rw [if_neg hj2]
          by_cases he : j = k + 1
          · rw [if_pos he, if_pos (by rw [he])]
          · rw [if_neg he, if_neg (by omega)]
omit Y in
theorem Tr.setK_ok {α : Type} : ∀ {t : Tr α} {k : Nat} {x : Option α} {c : Tr α → Bool}, Tr.setK t k x c = true → ∃ t', (∀ j, t'.get j = if j = k then x else t.get j) ∧ c t' = true
  | .leaf, k, x, c, h => by
    have h' : Tr.setL 40 k x c = true := h
    exact Tr.setL_ok h'
  | .node v l r, 0, x, c, h => ⟨_, fun j => by rw [Tr.get_node, Tr.get_node]; split <;> rfl, h⟩
  | .node v l r, k + 1, x, c, h => by
    have h' : (Bool.rec (Tr.setK r ((k + 1) / 2) x fun r => c (.node v l r)) (Tr.setK l ((k + 1) / 2) x fun l => c (.node v l r)) (Nat.beq ((k + 1) % 2) 0) : Bool) = true := h
    by_cases hp : (k + 1) % 2 = 0
    · rw [hp] at h'
      obtain ⟨t', h1, h2⟩ := Tr.setK_ok (t := l) h'
      refine ⟨_, fun j => ?_, h2⟩
      rw [Tr.get_node, Tr.get_node, h1]
      by_cases hj : j = 0
      · rw [if_pos hj, if_neg (by omega), if_pos hj]
      · rw [if_neg hj, if_neg hj]
        by_cases hj2 : j % 2 = 0
        · rw [if_pos hj2, if_pos hj2]
          by_cases he : j = k + 1
          · rw [if_pos he, if_pos (by rw [he])]
          · rw [if_neg he, if_neg (by omega)]
        · rw [if_neg hj2, if_neg hj2, if_neg (by omega)]
    · have hp' : (k + 1) % 2 = 1 := by omega
      rw [hp'] at h'
      obtain ⟨t', h1, h2⟩ := Tr.setK_ok (t := r) h'
      refine ⟨_, fun j => ?_, h2⟩
      rw [Tr.get_node, Tr.get_node, h1]
      by_cases hj : j = 0
      · rw [if_pos hj, if_neg (by omega), if_pos hj]
      · rw [if_neg hj, if_neg hj]
        by_cases hj2 : j % 2 = 0
        · rw [if_pos hj2, if_pos hj2, if_neg (by omega)]
        · rw [if_neg hj2, if_neg hj2]
          by_cases he : j = k + 1
          · rw [if_pos he, if_pos (by rw [he])]
          · rw [if_neg he, if_neg (by omega)]
end Go.Proofs.YtfedlkeiafcdmaaGreat
/-! RunB -/
namespace Go.Proofs.YtfedlkeiafcdmaaGreat
set_option linter.unusedVariables false
set_option linter.unusedSimpArgs false
open Go.RowKit
variable [Y : Sy]
structure VO where
  cs : List Value
  e : TypeId
  op : Option Nat
  mp : Option (List (Value × Value))
structure MSt where
  m : Tr VO
  nx : Nat
  F : Nat
  W : Nat
def bit (F b : Nat) : Prop := F.testBit b = true
def orB (F b : Nat) : Nat := Nat.lor F (Nat.pow 2 b)
omit Y in
theorem bit_or {F b j : Nat} : bit (orB F b) j ↔ bit F j ∨ j = b := by
  unfold bit orB
  rw [show Nat.lor F (Nat.pow 2 b) = F ||| 2 ^ b from rfl, Nat.testBit_or, Nat.testBit_two_pow]
  simp only [Bool.or_eq_true, decide_eq_true_eq]
  constructor
  · rintro (h | h)
    · exact .inl h
    · exact .inr h.symm
  · rintro (h | h)
    · exact .inl h
    · exact .inr h.symm
omit Y in
theorem bit0 {b : Nat} : ¬ bit 0 b := by simp [bit]
/-- a row of cells -/
def ObjC (ρ : Rl) (o : VO) (r c : Nat) (w : World) : Prop := ∃ cs' junk, VRs ρ o.cs cs' ∧ w.heap[r]? = some (.cells (cs' ++ junk).toArray o.e (0, 0)) ∧ (o.op = none → junk = []) ∧ (∀ sz, o.op = some sz → cs'.length + junk.length = c * sz)
/-- a map -/
def ObjM (ρ : Rl) (m : List (Value × Value)) (r : Nat) (w : World) : Prop := ∃ es clock, w.heap[r]? = some (.map es clock) ∧ es.toList.map (·.key) = m.map (·.1) ∧ VRs ρ (m.map (·.2)) (es.toList.map (·.val))
def ObjR (ρ : Rl) (o : VO) (r c : Nat) (w : World) : Prop := (o.mp = none ∧ ObjC ρ o r c w) ∨ ∃ m, o.mp = some m ∧ ObjM ρ m r w
theorem ObjR.later {ρ ρ' : Rl} {o : VO} {r c : Nat} {w w' : World} (h : ObjR ρ o r c w) (hle : ∀ b r, ρ b = some r → ρ' b = some r) (hh : w'.heap[r]? = w.heap[r]?) : ObjR ρ' o r c w' := by
  rcases h with ⟨hm, cs', junk, h1, h2, h3, h4⟩ | ⟨m, hm, es, clock, h1, h2, h3⟩
  · exact .inl ⟨hm, cs', junk, h1.mono hle, hh.trans h2, h3, h4⟩
  · exact .inr ⟨m, hm, es, clock, hh.trans h1, h2, h3.mono hle⟩
theorem ObjR.lt {ρ : Rl} {o : VO} {r c : Nat} {w : World} (h : ObjR ρ o r c w) : r < w.heap.size := by
  rcases h with ⟨hm, cs', junk, h1, h2, h3, h4⟩ | ⟨m, hm, es, clock, h1, h2, h3⟩
  · exact (Array.getElem?_eq_some_iff.1 h2).1
  · exact (Array.getElem?_eq_some_iff.1 h1).1
theorem ObjR.cells {ρ : Rl} {o : VO} {r c : Nat} {w : World} (h : ObjR ρ o r c w) (hm : o.mp = none) : ObjC ρ o r c w := by
  rcases h with ⟨_, h⟩ | ⟨m, h, _⟩
  · exact h
  · rw [hm] at h; cases h
theorem ObjR.map {ρ : Rl} {o : VO} {r c : Nat} {w : World} {m : List (Value × Value)} (h : ObjR ρ o r c w) (hm : o.mp = some m) : ObjM ρ m r w := by
  rcases h with ⟨h, _⟩ | ⟨m', h, k⟩
  · rw [hm] at h; cases h
  · rw [hm] at h; cases h; exact k
section
variable {S : List Nat} {W0 : World}
/-- what is known of the world: the blocks F of m -/
structure WR (S : List Nat) (W0 : World) (ρ : Rl) (m : Tr VO) (F : Nat) (w : World) : Prop where
  ext : Ext S W0 w
  at_ : ∀ b o, m.get b = some o → bit F b → ∃ r c, ρ b = some (r, c) ∧ ObjR ρ o r c w
  inj : ∀ b b' o o' r c c', m.get b = some o → m.get b' = some o' → bit F b → bit F b' → ρ b = some (r, c) → ρ b' = some (r, c') → b = b'
  own : ∀ b o r c, m.get b = some o → bit F b → ρ b = some (r, c) → r ∈ S ∨ W0.heap.size ≤ r
theorem WR.mono {ρ : Rl} {m : Tr VO} {F F' : Nat} {w : World} (h : WR S W0 ρ m F w) (hF : ∀ b, bit F' b → bit F b) : WR S W0 ρ m F' w :=
  ⟨h.ext, fun b o hb hf => h.at_ b o hb (hF b hf), fun b b' o o' r c c' h1 h2 h3 h4 => h.inj b b' o o' r c c' h1 h2 (hF b h3) (hF b' h4), fun b o r c h1 h2 => h.own b o r c h1 (hF b h2)⟩
/-- what the states' own numbers do -/
structure SLe (s s' : MSt) : Prop where
  nx : s.nx ≤ s'.nx
  F : ∀ b, bit s.F b → bit s'.F b
  W : ∀ b, bit s.W b → bit s'.W b
  WF : (∀ b, bit s.W b → bit s.F b) → ∀ b, bit s'.W b → bit s'.F b
  old : ∀ b, b < s.nx → ¬ bit s'.W b → s'.m.get b = s.m.get b
  dead : ∀ b, b < s.nx → s.m.get b = none → s'.m.get b = none
  new : ∀ b, s.nx ≤ b → b < s'.nx → bit s'.F b ∧ bit s'.W b
  top : (∀ b, s.nx ≤ b → s.m.get b = none) → ∀ b, s'.nx ≤ b → s'.m.get b = none
def Wf (s : MSt) : Prop := (∀ b, bit s.W b → bit s.F b) ∧ ∀ b, s.nx ≤ b → s.m.get b = none
omit Y in
theorem SLe.wf {s s' : MSt} (h : SLe s s') (hw : Wf s) : Wf s' := ⟨h.WF hw.1, h.top hw.2⟩
omit Y in
theorem SLe.refl (s : MSt) : SLe s s := ⟨Nat.le_refl _, fun _ h => h, fun _ h => h, fun h => h, fun _ _ _ => rfl, fun _ _ h => h, fun b h1 h2 => by omega, fun h => h⟩
omit Y in
theorem SLe.trans {s s1 s2 : MSt} (h : SLe s s1) (k : SLe s1 s2) : SLe s s2 where
  nx := Nat.le_trans h.nx k.nx
  F := fun b hb => k.F b (h.F b hb)
  W := fun b hb => k.W b (h.W b hb)
  WF := fun hw => k.WF (h.WF hw)
  old := fun b hb hw => (k.old b (Nat.lt_of_lt_of_le hb h.nx) hw).trans (h.old b hb fun hc => hw (k.W b hc))
  dead := fun b hb hn => k.dead b (Nat.lt_of_lt_of_le hb h.nx) (h.dead b hb hn)
  new := fun b h1 h2 => by
    by_cases hc : b < s1.nx
    · exact ⟨k.F b (h.new b h1 hc).1, k.W b (h.new b h1 hc).2⟩
    · exact k.new b (by omega) h2
  top := fun ht => k.top (h.top ht)
def Pre (S : List Nat) (W0 : World) (ρ : Rl) (s s' : MSt) (w : World) : Prop := WR S W0 ρ s.m s'.F w ∧ ∀ b, s.nx ≤ b → b < s'.nx → ρ b = none
/-- what a step has done to the world -/
structure Stp (S : List Nat) (W0 : World) (ρ : Rl) (s : MSt) (w : World) (ρ' : Rl) (s' : MSt) (w' : World) : Prop where
  le : ∀ b, ¬ (s.nx ≤ b ∧ b < s'.nx) → ρ' b = ρ b
  wr : WR S W0 ρ' s'.m s'.F w'
  size : w.heap.size ≤ w'.heap.size
  blk : ∀ k, k < w.heap.size → (∀ b o c, bit s'.W b → s.m.get b = some o → ρ b ≠ some (k, c)) → w'.heap[k]? = w.heap[k]?
  fresh : ∀ b o r c, s.nx ≤ b → b < s'.nx → s'.m.get b = some o → ρ' b = some (r, c) → w.heap.size ≤ r ∨ ∃ b0 o0 c0, b0 < s.nx ∧ bit s'.W b0 ∧ s.m.get b0 = some o0 ∧ s'.m.get b0 = none ∧ ρ b0 = some (r, c0)
variable {ρ ρ1 ρ2 : Rl} {s s1 s2 : MSt} {w w1 w2 : World}
theorem Stp.leR (h : Stp S W0 ρ s w ρ1 s1 w1) (hp : Pre S W0 ρ s s1 w) : ∀ b r, ρ b = some r → ρ1 b = some r := fun b r hb => by
  by_cases hc : s.nx ≤ b ∧ b < s1.nx
  · rw [hp.2 b hc.1 hc.2] at hb
    cases hb
  · rw [h.le b hc, hb]
theorem Stp.same (hm : s1.m = s.m) (hn : s1.nx = s.nx) (A : WR S W0 ρ s.m s1.F w) : Stp S W0 ρ s w ρ s1 w :=
  ⟨fun _ _ => rfl, hm ▸ A, Nat.le_refl _, fun _ _ _ => rfl, fun b o r c h1 h2 => by omega⟩
/-- what was not looked at is as it was -/
theorem Stp.frame {G : Nat} (hle : SLe s s1) (hwf : Wf s) (A : WR S W0 ρ s.m G w) (hG : ∀ b, bit s1.F b → bit G b) (hp : Pre S W0 ρ s s1 w) (h : Stp S W0 ρ s w ρ1 s1 w1) : WR S W0 ρ1 s1.m G w1 := by
  have hR := h.leR hp
  -- an old block that was not written
  have hold : ∀ b o, s1.m.get b = some o → ¬ bit s1.F b → b < s.nx ∧ s.m.get b = some o ∧ ρ1 b = ρ b := fun b o hb hf => by
    have hb1 : b < s1.nx := Nat.lt_of_not_le fun hc => by
      rw [(hle.wf hwf).2 b hc] at hb
      cases hb
    have hb0 : b < s.nx := Nat.lt_of_not_le fun hc => hf (hle.new b hc hb1).1
    refine ⟨hb0, ?_, h.le b (by omega)⟩
    rw [← hle.old b hb0 fun hc => hf (hle.WF hwf.1 b hc)]
    exact hb
  have hlive : ∀ b o, s1.m.get b = some o → b < s.nx → ∃ o0, s.m.get b = some o0 := fun b o hb hb0 => by
    cases hc : s.m.get b with
    | none => rw [hle.dead b hb0 hc] at hb; cases hb
    | some o0 => exact ⟨o0, rfl⟩
  -- where a looked-at block lies is not where such an old block lies
  have hne : ∀ b o b' o' r c c', s1.m.get b = some o → s1.m.get b' = some o' → bit s1.F b → ¬ bit s1.F b' → bit G b' → ρ1 b = some (r, c) → ρ1 b' = some (r, c') → False := fun b o b' o' r c c' hb hb' hf hf' hg' e e' => by
    obtain ⟨h1, h2, h3⟩ := hold b' o' hb' hf'
    rw [h3] at e'
    obtain ⟨r0, c0, e0, ho⟩ := A.at_ b' o' h2 hg'
    rw [e0] at e'
    cases e'
    by_cases hb0 : s.nx ≤ b ∧ b < s1.nx
    · rcases h.fresh b o r c hb0.1 hb0.2 hb e with h4 | ⟨b0, o0, c0, h5, h6, h7, h8, h9⟩
      · have := ho.lt
        omega
      · have := A.inj b0 b' o0 o' r _ _ h7 h2 (hG _ (hle.WF hwf.1 b0 h6)) hg' h9 e0
        subst this
        exact hf' (hle.WF hwf.1 _ h6)
    · rw [h.le b hb0] at e
      have hb1 : b < s.nx := Nat.lt_of_not_le fun hc => hb0 ⟨hc, Nat.lt_of_not_le fun hc' => by rw [(hle.wf hwf).2 b hc'] at hb; cases hb⟩
      obtain ⟨o0, q⟩ := hlive b o hb hb1
      have := A.inj b b' o0 o' r _ _ q h2 (hG _ hf) hg' e e0
      subst this
      exact hf' hf
  refine ⟨h.wr.ext, fun b o hb hg => ?_, fun b b' o o' r c c' hb hb' hg hg' e e' => ?_, fun b o r c hb hg e => ?_⟩
  · by_cases hf : bit s1.F b
    · exact h.wr.at_ b o hb hf
    · obtain ⟨h1, h2, h3⟩ := hold b o hb hf
      obtain ⟨r, c, e, ho⟩ := A.at_ b o h2 hg
      refine ⟨r, c, h3.trans e, ho.later hR (h.blk r ho.lt fun b0 o0 c0 hw hl e0 => ?_)⟩
      have := A.inj b b0 o o0 r _ _ h2 hl hg (hG _ (hle.WF hwf.1 b0 hw)) e e0
      subst this
      exact hf (hle.WF hwf.1 _ hw)
  · by_cases hf : bit s1.F b
    · by_cases hf' : bit s1.F b'
      · exact h.wr.inj b b' o o' r c c' hb hb' hf hf' e e'
      · exact (hne b o b' o' r c c' hb hb' hf hf' hg' e e').elim
    · by_cases hf' : bit s1.F b'
      · exact (hne b' o' b o r c' c hb' hb hf' hf hg e' e).elim
      · obtain ⟨_, h2, h3⟩ := hold b o hb hf
        obtain ⟨_, h2', h3'⟩ := hold b' o' hb' hf'
        exact A.inj b b' o o' r c c' h2 h2' hg hg' (h3 ▸ e) (h3' ▸ e')
  · by_cases hf : bit s1.F b
    · exact h.wr.own b o r c hb hf e
    · obtain ⟨_, h2, h3⟩ := hold b o hb hf
      exact A.own b o r c h2 hg (h3 ▸ e)
theorem Pre.fst (hle : SLe s s1) (hle2 : SLe s1 s2) (h : Pre S W0 ρ s s2 w) : Pre S W0 ρ s s1 w := ⟨h.1.mono hle2.F, fun b h1 h2 => h.2 b h1 (Nat.lt_of_lt_of_le h2 hle2.nx)⟩
theorem Pre.snd (hle : SLe s s1) (hle2 : SLe s1 s2) (hwf : Wf s) (h : Pre S W0 ρ s s2 w) (k : Stp S W0 ρ s w ρ1 s1 w1) : Pre S W0 ρ1 s1 s2 w1 :=
  ⟨Stp.frame hle hwf h.1 hle2.F (h.fst hle hle2) k, fun b h1 h2 => by rw [k.le b (by omega)]; exact h.2 b (Nat.le_trans hle.nx h1) h2⟩
theorem Stp.trans (hle : SLe s s1) (hle2 : SLe s1 s2) (hwf : Wf s) (hp : Pre S W0 ρ s s2 w) (h : Stp S W0 ρ s w ρ1 s1 w1) (k : Stp S W0 ρ1 s1 w1 ρ2 s2 w2) : Stp S W0 ρ s w ρ2 s2 w2 := by
  have hlive : ∀ b o, s1.m.get b = some o → b < s.nx → ∃ o0, s.m.get b = some o0 := fun b o hb hb0 => by
    cases hc : s.m.get b with
    | none => rw [hle.dead b hb0 hc] at hb; cases hb
    | some o0 => exact ⟨o0, rfl⟩
  have hlt1 : ∀ b o, s1.m.get b = some o → b < s1.nx := fun b o hb => Nat.lt_of_not_le fun hc => by
    rw [(hle.wf hwf).2 b hc] at hb
    cases hb
  -- where a block that lives behind the first step lay
  have hwas : ∀ b o r c, s1.m.get b = some o → ρ1 b = some (r, c) → w.heap.size ≤ r ∨ ∃ b0 o0 c0, b0 < s.nx ∧ s.m.get b0 = some o0 ∧ ρ b0 = some (r, c0) ∧ (b0 = b ∨ (bit s1.W b0 ∧ s1.m.get b0 = none)) := fun b o r c hb e => by
    by_cases hb0 : b < s.nx
    · obtain ⟨o0, q⟩ := hlive b o hb hb0
      rw [h.le b (by omega)] at e
      exact .inr ⟨b, o0, c, hb0, q, e, .inl rfl⟩
    · rcases h.fresh b o r c (by omega) (hlt1 b o hb) hb e with h4 | ⟨b0, o0, c0, h5, h6, h7, h8, h9⟩
      · exact .inl h4
      · exact .inr ⟨b0, o0, c0, h5, h7, h9, .inr ⟨h6, h8⟩⟩
  refine ⟨fun b hb => ?_, k.wr, Nat.le_trans h.size k.size, fun i hi hW => ?_, fun b o r c h1 h2 hb e => ?_⟩
  · have := hle.nx
    have := hle2.nx
    rw [k.le b (by omega), h.le b (by omega)]
  · refine (k.blk i (Nat.lt_of_lt_of_le hi h.size) fun b o c hw hl e => ?_).trans (h.blk i hi fun b o c hw hl e => hW b o c (hle2.W b hw) hl e)
    rcases hwas b o i c hl e with h4 | ⟨b0, o0, c0, h5, h6, h7, h8⟩
    · omega
    · rcases h8 with rfl | h8
      · exact hW _ o0 c0 hw h6 h7
      · exact hW b0 o0 c0 (hle2.W b0 h8.1) h6 h7
  · by_cases hc : b < s1.nx
    · rw [k.le b (by omega)] at e
      obtain ⟨o1, ho1⟩ : ∃ o1, s1.m.get b = some o1 := by
        cases hq : s1.m.get b with
        | none => rw [hle2.dead b hc hq] at hb; cases hb
        | some o1 => exact ⟨o1, rfl⟩
      rcases h.fresh b o1 r c h1 hc ho1 e with h4 | ⟨b0, o0, c0, h5, h6, h7, h8, h9⟩
      · exact .inl h4
      · exact .inr ⟨b0, o0, c0, h5, hle2.W b0 h6, h7, hle2.dead b0 (Nat.lt_of_lt_of_le h5 hle.nx) h8, h9⟩
    · rcases k.fresh b o r c (by omega) h2 hb e with h4 | ⟨b0, o0, c0, h5, h6, h7, h8, h9⟩
      · exact .inl (Nat.le_trans h.size h4)
      · rcases hwas b0 o0 r c0 h7 h9 with h4 | ⟨b1, o1, c1, g1, g2, g3, g4⟩
        · exact .inl h4
        · refine .inr ⟨b1, o1, c1, g1, ?_, g2, ?_, g3⟩
          · rcases g4 with rfl | g4
            · exact h6
            · exact hle2.W b1 g4.1
          · rcases g4 with rfl | g4
            · exact h8
            · exact hle2.dead b1 (Nat.lt_of_lt_of_le g1 hle.nx) g4.2
/-! ### the steps themselves -/
/-- a block is looked at -/
def MSt.rd (s : MSt) (b : Nat) : MSt := { s with F := orB s.F b }
omit Y in
theorem SLe.rd (s : MSt) (b : Nat) : SLe s (s.rd b) := ⟨Nat.le_refl _, fun _ h => bit_or.2 (.inl h), fun _ h => h, fun h b hb => bit_or.2 (.inl (h b hb)), fun _ _ _ => rfl, fun _ _ h => h, fun b h1 h2 => by simp only [MSt.rd] at h2; omega, fun h => h⟩
theorem Stp.rd {b : Nat} (hp : Pre S W0 ρ s (s.rd b) w) : Stp S W0 ρ s w ρ (s.rd b) w := Stp.same rfl rfl hp.1
theorem Pre.obj {b : Nat} {o : VO} (hp : Pre S W0 ρ s s1 w) (hb : s.m.get b = some o) (hf : bit s1.F b) : ∃ r c, ρ b = some (r, c) ∧ ObjR ρ o r c w := hp.1.at_ b o hb hf
theorem WR.atC {m : Tr VO} {F b : Nat} {o : VO} (h : WR S W0 ρ m F w) (hb : m.get b = some o) (hf : bit F b) (hm : o.mp = none) : ∃ r c, ρ b = some (r, c) ∧ ObjC ρ o r c w := by
  obtain ⟨r, c, e, ho⟩ := h.at_ b o hb hf
  exact ⟨r, c, e, ho.cells hm⟩
theorem Pre.objC {b : Nat} {o : VO} (hp : Pre S W0 ρ s s1 w) (hb : s.m.get b = some o) (hf : bit s1.F b) (hm : o.mp = none) : ∃ r c, ρ b = some (r, c) ∧ ObjC ρ o r c w := hp.1.atC hb hf hm
omit Y in
/-- a block is written, or given up -/
theorem SLe.wrt {s : MSt} {m' : Tr VO} {b : Nat} {x : Option VO} {o : VO} (hm : ∀ j, m'.get j = if j = b then x else s.m.get j) (hb : s.m.get b = some o) (hwf : Wf s) : SLe s ⟨m', s.nx, orB s.F b, orB s.W b⟩ where
  nx := Nat.le_refl _
  F := fun _ h => bit_or.2 (.inl h)
  W := fun _ h => bit_or.2 (.inl h)
  WF := fun h j hj => (bit_or.1 hj).elim (fun hj => bit_or.2 (.inl (h j hj))) fun hj => bit_or.2 (.inr hj)
  old := fun j _ hj => by dsimp only; rw [hm, if_neg fun e => hj (bit_or.2 (.inr e))]
  dead := fun j _ hj => by
    dsimp only
    rw [hm, if_neg fun e => by rw [e, hb] at hj; cases hj]
    exact hj
  new := fun j h1 h2 => by dsimp only at h2; omega
  top := fun ht j hj => by
    dsimp only at hj ⊢
    rw [hm, if_neg fun e => by rw [e] at hj; rw [hwf.2 b hj] at hb; cases hb]
    exact ht j hj
theorem Stp.wrt {m' : Tr VO} {b r c : Nat} {o o' : VO} (hm : ∀ j, m'.get j = if j = b then some o' else s.m.get j) (hb : s.m.get b = some o) (hwf : Wf s) (hp : Pre S W0 ρ s ⟨m', s.nx, orB s.F b, orB s.W b⟩ w) (e : ρ b = some (r, c)) (E : Ext [r] w w1) (ho : ObjR ρ o' r c w1) :
    Stp S W0 ρ s w ρ ⟨m', s.nx, orB s.F b, orB s.W b⟩ w1 := by
  have hfb : bit (orB s.F b) b := bit_or.2 (.inr rfl)
  have hown := hp.1.own b o r c hb hfb e
  have hbk : ∀ k, k < w.heap.size → k ≠ r → w1.heap[k]? = w.heap[k]? := fun k hk hr => E.block k hk (by simpa using hr)
  have hlv : ∀ j oj, m'.get j = some oj → ∃ oj', s.m.get j = some oj' := fun j oj hj => by
    rw [hm] at hj
    split at hj
    · rename_i q
      exact ⟨o, by rw [q]; exact hb⟩
    · exact ⟨oj, hj⟩
  refine ⟨fun _ _ => rfl, ⟨?_, fun j oj hj hf => ?_, fun j j' oj oj' r' c' c'' hj hj' hf hf' e1 e2 => ?_, fun j oj r' c' hj hf e1 => ?_⟩, E.size, fun k hk hW => hbk k hk fun q => hW b o c (bit_or.2 (.inr rfl)) hb (by rw [q]; exact e), fun j _ _ _ h1 h2 => by dsimp only at h2; omega⟩
  · refine ⟨E.os.trans hp.1.ext.os, E.tape.trans hp.1.ext.tape, E.output.trans hp.1.ext.output, Nat.le_trans hp.1.ext.size E.size, Nat.le_trans hp.1.ext.dr E.dr, fun k hk hs => ?_⟩
    refine (hbk k (Nat.lt_of_lt_of_le hk hp.1.ext.size) ?_).trans (hp.1.ext.block k hk hs)
    rintro rfl
    exact hown.elim hs fun h => absurd hk (Nat.not_lt.2 h)
  · by_cases q : j = b
    · subst q
      dsimp only at hj
      rw [hm, if_pos rfl] at hj
      cases hj
      exact ⟨r, c, e, ho⟩
    · dsimp only at hj
      rw [hm, if_neg q] at hj
      obtain ⟨r', c', e', ho'⟩ := hp.1.at_ j oj hj hf
      refine ⟨r', c', e', ho'.later (fun _ _ h => h) (hbk r' ho'.lt ?_)⟩
      rintro rfl
      exact q (hp.1.inj j b oj o r' c' c hj hb hf hfb e' e)
  · obtain ⟨p, hp1⟩ := hlv j oj hj
    obtain ⟨p', hp2⟩ := hlv j' oj' hj'
    exact hp.1.inj j j' p p' r' c' c'' hp1 hp2 hf hf' e1 e2
  · obtain ⟨p, hp1⟩ := hlv j oj hj
    exact hp.1.own j p r' c' hp1 hf e1
omit Y in
/-- a new block -/
theorem SLe.alloc {s : MSt} {m' : Tr VO} {x : Option VO} (hm : ∀ j, m'.get j = if j = s.nx then x else s.m.get j) : SLe s ⟨m', s.nx + 1, orB s.F s.nx, orB s.W s.nx⟩ where
  nx := Nat.le_succ _
  F := fun _ h => bit_or.2 (.inl h)
  W := fun _ h => bit_or.2 (.inl h)
  WF := fun h j hj => (bit_or.1 hj).elim (fun hj => bit_or.2 (.inl (h j hj))) fun hj => bit_or.2 (.inr hj)
  old := fun j hj _ => by dsimp only; rw [hm, if_neg (by omega)]
  dead := fun j hj hd => by dsimp only; rw [hm, if_neg (by omega)]; exact hd
  new := fun j h1 h2 => by
    dsimp only at h2
    have : j = s.nx := by omega
    exact ⟨bit_or.2 (.inr this), bit_or.2 (.inr this)⟩
  top := fun ht j hj => by dsimp only at hj ⊢; rw [hm, if_neg (by omega)]; exact ht j (by omega)
def updR (ρ : Rl) (b : Nat) (x : Nat × Nat) : Rl := fun j => if j = b then some x else ρ j
omit Y in
theorem updR_le {b : Nat} {x : Nat × Nat} (h : ρ b = none) : ∀ j r, ρ j = some r → updR ρ b x j = some r := fun j r hj => by
  unfold updR
  rw [if_neg fun e => by rw [e, h] at hj; cases hj]
  exact hj
theorem Stp.alloc {m' : Tr VO} {r c : Nat} {o : VO} (hm : ∀ j, m'.get j = if j = s.nx then some o else s.m.get j) (hwf : Wf s) (hp : Pre S W0 ρ s ⟨m', s.nx + 1, orB s.F s.nx, orB s.W s.nx⟩ w) (E : Ext [] w w1) (hr : w.heap.size ≤ r) (ho : ObjR (updR ρ s.nx (r, c)) o r c w1) :
    Stp S W0 ρ s w (updR ρ s.nx (r, c)) ⟨m', s.nx + 1, orB s.F s.nx, orB s.W s.nx⟩ w1 := by
  have hle := updR_le (x := (r, c)) (hp.2 s.nx (Nat.le_refl _) (Nat.lt_succ_self _))
  have hne : ∀ j oj, m'.get j = some oj → j ≠ s.nx → s.m.get j = some oj := fun j oj hj q => by
    rw [hm, if_neg q] at hj
    exact hj
  have hu : ∀ j, j ≠ s.nx → updR ρ s.nx (r, c) j = ρ j := fun j q => if_neg q
  have hu0 : updR ρ s.nx (r, c) s.nx = some (r, c) := if_pos rfl
  have hlt : ∀ j oj r' c', s.m.get j = some oj → bit (orB s.F s.nx) j → ρ j = some (r', c') → r' < w.heap.size := fun j oj r' c' hj hf e => by
    obtain ⟨r0, c0, e0, ho0⟩ := hp.1.at_ j oj hj hf
    rw [e0] at e
    cases e
    exact ho0.lt
  refine ⟨fun j hj => hu j (by dsimp only at hj; omega), ⟨hp.1.ext.trans E.any, fun j oj hj hf => ?_, fun j j' oj oj' r' c' c'' hj hj' hf hf' e1 e2 => ?_, fun j oj r' c' hj hf e1 => ?_⟩, E.size, fun k hk _ => E.block k hk (by simp), fun j oj r' c' h1 h2 hj e1 => ?_⟩
  · by_cases q : j = s.nx
    · subst q
      dsimp only at hj
      rw [hm, if_pos rfl] at hj
      cases hj
      exact ⟨r, c, hu0, ho⟩
    · have hj' := hne j oj hj q
      obtain ⟨r', c', e', ho'⟩ := hp.1.at_ j oj hj' hf
      exact ⟨r', c', hle _ _ e', ho'.later hle (E.block r' ho'.lt (by simp))⟩
  · by_cases q : j = s.nx
    · by_cases q' : j' = s.nx
      · rw [q, q']
      · have := hlt j' oj' r' c'' (hne j' oj' hj' q') hf' (by rw [← hu j' q']; exact e2)
        rw [q, hu0] at e1
        cases e1
        omega
    · by_cases q' : j' = s.nx
      · have := hlt j oj r' c' (hne j oj hj q) hf (by rw [← hu j q]; exact e1)
        rw [q', hu0] at e2
        cases e2
        omega
      · exact hp.1.inj j j' oj oj' r' c' c'' (hne j oj hj q) (hne j' oj' hj' q') hf hf' (by rw [← hu j q]; exact e1) (by rw [← hu j' q']; exact e2)
  · by_cases q : j = s.nx
    · rw [q, hu0] at e1
      cases e1
      exact .inr (Nat.le_trans hp.1.ext.size hr)
    · exact hp.1.own j oj r' c' (hne j oj hj q) hf (by rw [← hu j q]; exact e1)
  · dsimp only at h2
    have q : j = s.nx := by omega
    rw [q, hu0] at e1
    cases e1
    exact .inl hr
omit Y in
/-- a block is given up, and a new one lies where it lay, or is new (an append) -/
theorem SLe.move {s : MSt} {m1 m' : Tr VO} {b : Nat} {o : VO} {x : Option VO} (hm1 : ∀ j, m1.get j = if j = b then none else s.m.get j) (hm : ∀ j, m'.get j = if j = s.nx then x else m1.get j) (hb : s.m.get b = some o) (hwf : Wf s) :
    SLe s ⟨m', s.nx + 1, orB (orB s.F b) s.nx, orB (orB s.W b) s.nx⟩ :=
  (SLe.wrt (m' := m1) hm1 hb hwf).trans (SLe.alloc (s := ⟨m1, s.nx, orB s.F b, orB s.W b⟩) hm)
theorem Stp.move {m1 m' : Tr VO} {b r r' c c' : Nat} {o o' : VO} (hm1 : ∀ j, m1.get j = if j = b then none else s.m.get j) (hm : ∀ j, m'.get j = if j = s.nx then some o' else m1.get j) (hb : s.m.get b = some o) (hwf : Wf s)
    (hp : Pre S W0 ρ s ⟨m', s.nx + 1, orB (orB s.F b) s.nx, orB (orB s.W b) s.nx⟩ w) (e : ρ b = some (r, c)) (E : Ext [r] w w1) (hr : r' = r ∨ w.heap.size ≤ r') (ho : ObjR (updR ρ s.nx (r', c')) o' r' c' w1) :
    Stp S W0 ρ s w (updR ρ s.nx (r', c')) ⟨m', s.nx + 1, orB (orB s.F b) s.nx, orB (orB s.W b) s.nx⟩ w1 := by
  have hle := updR_le (x := (r', c')) (hp.2 s.nx (Nat.le_refl _) (Nat.lt_succ_self _))
  have hbn : b < s.nx := Nat.lt_of_not_le fun hc => by rw [hwf.2 b hc] at hb; cases hb
  have hfb : bit (orB (orB s.F b) s.nx) b := bit_or.2 (.inl (bit_or.2 (.inr rfl)))
  have hwb : bit (orB (orB s.W b) s.nx) b := bit_or.2 (.inl (bit_or.2 (.inr rfl)))
  have hown := hp.1.own b o r c hb hfb e
  have hbk : ∀ k, k < w.heap.size → k ≠ r → w1.heap[k]? = w.heap[k]? := fun k hk hr => E.block k hk (by simpa using hr)
  have hne : ∀ j oj, m'.get j = some oj → j ≠ s.nx → j ≠ b ∧ s.m.get j = some oj := fun j oj hj q => by
    rw [hm, if_neg q, hm1] at hj
    split at hj
    · cases hj
    · rename_i q2
      exact ⟨q2, hj⟩
  have hu : ∀ j, j ≠ s.nx → updR ρ s.nx (r', c') j = ρ j := fun j q => if_neg q
  have hu0 : updR ρ s.nx (r', c') s.nx = some (r', c') := if_pos rfl
  -- no other block lies where the new one lies
  have hapart : ∀ j oj d, m'.get j = some oj → bit (orB (orB s.F b) s.nx) j → j ≠ s.nx → ρ j = some (r', d) → False := fun j oj d hj hf q e1 => by
    obtain ⟨q2, hj2⟩ := hne j oj hj q
    rcases hr with rfl | hr
    · exact q2 (hp.1.inj j b oj o r' d c hj2 hb hf hfb e1 e)
    · obtain ⟨r0, d0, e0, ho0⟩ := hp.1.at_ j oj hj2 hf
      rw [e0] at e1
      cases e1
      have := ho0.lt
      omega
  refine ⟨fun j hj => hu j (by dsimp only at hj; omega), ⟨?_, fun j oj hj hf => ?_, fun j j' oj oj' r0 d' d'' hj hj' hf hf' e1 e2 => ?_, fun j oj r0 d' hj hf e1 => ?_⟩, E.size, fun k hk hW => hbk k hk fun q => hW b o c hwb hb (by rw [q]; exact e), fun j oj r0 d' h1 h2 hj e1 => ?_⟩
  · refine ⟨E.os.trans hp.1.ext.os, E.tape.trans hp.1.ext.tape, E.output.trans hp.1.ext.output, Nat.le_trans hp.1.ext.size E.size, Nat.le_trans hp.1.ext.dr E.dr, fun k hk hs => ?_⟩
    refine (hbk k (Nat.lt_of_lt_of_le hk hp.1.ext.size) ?_).trans (hp.1.ext.block k hk hs)
    rintro rfl
    exact hown.elim hs fun h => absurd hk (Nat.not_lt.2 h)
  · by_cases q : j = s.nx
    · subst q
      dsimp only at hj
      rw [hm, if_pos rfl] at hj
      cases hj
      exact ⟨r', c', hu0, ho⟩
    · obtain ⟨q2, hj'⟩ := hne j oj hj q
      obtain ⟨r0, d', e', ho'⟩ := hp.1.at_ j oj hj' hf
      refine ⟨r0, d', hle _ _ e', ho'.later hle (hbk r0 ho'.lt ?_)⟩
      rintro rfl
      exact q2 (hp.1.inj j b oj o r0 d' c hj' hb hf hfb e' e)
  · by_cases q : j = s.nx
    · by_cases q' : j' = s.nx
      · rw [q, q']
      · rw [q, hu0] at e1
        cases e1
        exact (hapart j' oj' d'' hj' hf' q' (by rw [← hu j' q']; exact e2)).elim
    · by_cases q' : j' = s.nx
      · rw [q', hu0] at e2
        cases e2
        exact (hapart j oj d' hj hf q (by rw [← hu j q]; exact e1)).elim
      · exact hp.1.inj j j' oj oj' r0 d' d'' (hne j oj hj q).2 (hne j' oj' hj' q').2 hf hf' (by rw [← hu j q]; exact e1) (by rw [← hu j' q']; exact e2)
  · by_cases q : j = s.nx
    · rw [q, hu0] at e1
      cases e1
      rcases hr with rfl | hr
      · exact hown
      · exact .inr (Nat.le_trans hp.1.ext.size hr)
    · exact hp.1.own j oj r0 d' (hne j oj hj q).2 hf (by rw [← hu j q]; exact e1)
  · dsimp only at h2
    have q : j = s.nx := by omega
    rw [q, hu0] at e1
    cases e1
    rcases hr with rfl | hr
    · refine .inr ⟨b, o, c, hbn, hwb, hb, ?_, e⟩
      dsimp only
      rw [hm, if_neg (by omega), hm1, if_pos rfl]
    · exact .inl hr
end
end Go.Proofs.YtfedlkeiafcdmaaGreat
/-! RunC -/
namespace Go.Proofs.YtfedlkeiafcdmaaGreat
set_option linter.unusedVariables false
set_option linter.unusedSimpArgs false
open Go.RowKit
variable [Y : Sy]
/-! ### frames -/
structure FrR (ρ : Rl) (n : Nat) (df : List Deferred) (t : Tr Value) (a : Act) : Prop where
  size : a.tmps.size = n
  defers : a.defers = df
  at_ : ∀ k v, t.get k = some v → VR ρ v (a.tmps.getD k undef)
theorem FrR.mono {ρ ρ' : Rl} {n : Nat} {df : List Deferred} {t : Tr Value} {a : Act} (h : FrR ρ n df t a) (hle : ∀ b r, ρ b = some r → ρ' b = some r) : FrR ρ' n df t a := ⟨h.size, h.defers, fun k v hk => (h.at_ k v hk).mono hle⟩
theorem FrR.put {ρ : Rl} {n : Nat} {df : List Deferred} {t t' : Tr Value} {a : Act} {d : Nat} {v u : Value} (h : FrR ρ n df t a) (ht : ∀ j, t'.get j = if j = d then some v else t.get j) (hd : d < n) (hv : VR ρ v u) : FrR ρ n df t' (a.put (some d) u) := by
  refine ⟨by simp [Act.put, h.size], by simp [Act.put, h.defers], fun k x hk => ?_⟩
  rw [ht] at hk
  simp only [Act.put]
  by_cases e : k = d
  · subst e
    rw [if_pos rfl] at hk
    cases hk
    have : k < a.tmps.size := by rw [h.size]; exact hd
    simpa [Array.getElem?_setIfInBounds, this] using hv
  · rw [if_neg e] at hk
    have := h.at_ k x hk
    simpa [Array.getElem?_setIfInBounds, Ne.symm e] using this
def cst1 : Value → Bool
  | .int _ n => litI n
  | .bool _ | .string _ | .pointer none | .slice none _ _ | .nilFunc | .nilIface | .map none => true
  | _ => false
theorem cst1_ok {ρ : Rl} {v : Value} (h : cst1 v = true) : VR ρ v v := by
  unfold cst1 at h
  split at h
  · rename_i k n
    have := VR.int (ρ := ρ) k n
    rwa [Y.lit n h] at this
  all_goals first | constructor | cases h
noncomputable def cstL (l : List Value) : Bool := List.rec true (fun x _ ih => Bool.rec false ih (cst1 x)) l
theorem cstL_ok {ρ : Rl} : ∀ {l : List Value}, cstL l = true → VRs ρ l l
  | [], _ => .nil
  | x :: xs, h => by
    have h' : (Bool.rec false (cstL xs) (cst1 x) : Bool) = true := h
    cases hx : cst1 x with
    | false => rw [hx] at h'; cases h'
    | true => rw [hx] at h'; exact .cons (cst1_ok hx) (cstL_ok h')
noncomputable def cstOk (v : Value) : Bool := match v with
  | .agg cs => cstL cs.toList
  | v => cst1 v
theorem cstOk_ok {ρ : Rl} {v : Value} (h : cstOk v = true) : VR ρ v v := by
  unfold cstOk at h
  split at h
  · rename_i cs
    have := VR.agg (cstL_ok (ρ := ρ) h)
    simpa using this
  · exact cst1_ok h
noncomputable def evK (t : Tr Value) (x : Operand) (c : Value → Bool) : Bool := match x with
  | .tmp k => Option.rec false c (t.get k)
  | .const v => Bool.rec false (c v) (cstOk v)
  | .func f => c (.func (.func f) #[] #[])
  | .global _ => false
/-- what an operand comes to -/
def OpdR (t : Tr Value) (x : Operand) (v : Value) : Prop := ∀ (ρ : Rl) (n : Nat) (df : List Deferred) (a : Act), FrR ρ n df t a → VR ρ v (a.eval x)
theorem evK_ok {t : Tr Value} {x : Operand} {c : Value → Bool} (h : evK t x c = true) : ∃ v, OpdR t x v ∧ c v = true := by
  unfold evK at h
  cases x with
  | tmp k =>
    dsimp only at h
    cases hk : t.get k with
    | none => rw [hk] at h; cases h
    | some v =>
      rw [hk] at h
      exact ⟨v, fun ρ n df a F => F.at_ k v hk, h⟩
  | const v =>
    dsimp only at h
    cases hv : cstOk v with
    | false => rw [hv] at h; cases h
    | true =>
      rw [hv] at h
      exact ⟨v, fun ρ n df a F => by simpa [Act.eval] using cstOk_ok hv, h⟩
  | func f => exact ⟨_, fun ρ n df a F => by
      have : VR ρ (.func (.func f) #[] #[]) (.func (.func f) (List.toArray []) (List.toArray [])) := .fn .nil .nil
      simpa [Act.eval] using this, h⟩
  | global g => cases h
noncomputable def evsK (t : Tr Value) (xs : List Operand) : (List Value → Bool) → Bool := List.rec (motive := fun _ => (List Value → Bool) → Bool) (fun c => c []) (fun x _ ih c => evK t x fun v => ih fun vs => c (v :: vs)) xs
def OpdsR (t : Tr Value) (xs : List Operand) (vs : List Value) : Prop := ∀ (ρ : Rl) (n : Nat) (df : List Deferred) (a : Act), FrR ρ n df t a → VRs ρ vs (xs.map a.eval)
theorem evsK_ok {t : Tr Value} : ∀ {xs : List Operand} {c : List Value → Bool}, evsK t xs c = true → ∃ vs, OpdsR t xs vs ∧ c vs = true
  | [], c, h => ⟨[], fun _ _ _ _ _ => .nil, h⟩
  | x :: xs, c, h => by
    obtain ⟨v, h1, h2⟩ := evK_ok (c := fun v => evsK t xs fun vs => c (v :: vs)) h
    obtain ⟨vs, h3, h4⟩ := evsK_ok h2
    exact ⟨v :: vs, fun ρ n df a F => .cons (h1 ρ n df a F) (h3 ρ n df a F), h4⟩
/-! ### integers -/
def kEqR : IntKind → IntKind → Bool
  | .i8, .i8 | .i16, .i16 | .i32, .i32 | .i64, .i64 | .u8, .u8 | .u16, .u16 | .u32, .u32 | .u64, .u64 => true
  | _, _ => false
omit Y in
theorem kEq_ok' {a b : IntKind} (h : kEqR a b = true) : a = b := by
  cases a <;> cases b <;> first | rfl | cases h
def pK : IntKind → Nat
  | .i8 | .u8 => 256
  | .i16 | .u16 => 65536
  | .i32 | .u32 => 4294967296
  | .i64 | .u64 => 18446744073709551616
def hK : IntKind → Nat
  | .i8 => 128
  | .i16 => 32768
  | .i32 => 2147483648
  | .i64 => 9223372036854775808
  | .u8 => 256
  | .u16 => 65536
  | .u32 => 4294967296
  | .u64 => 18446744073709551616
/-- the number below 2^bits -/
noncomputable def natK (k : IntKind) (x : Int) : Nat := Int.rec (fun m => Nat.mod m (pK k)) (fun m => Nat.sub (Nat.sub (pK k) 1) (Nat.mod m (pK k))) x
omit Y in
theorem natK_is (k : IntKind) (x : Int) : (natK k x : Int) = x % (2 ^ k.bits : Int) := by
  cases x with
  | ofNat m =>
    show ((m % pK k : Nat) : Int) = _
    cases k <;> simp [pK, IntKind.bits]
  | negSucc m =>
    show ((pK k - 1 - m % pK k : Nat) : Int) = _
    cases k <;> simp only [pK, IntKind.bits, Int.negSucc_eq] <;> omega
noncomputable def wrapN (k : IntKind) (r : Nat) (c : Int → Bool) : Bool := Bool.rec (forceN (Nat.sub (Nat.sub (pK k) 1) r) fun q => c (.negSucc q)) (c (.ofNat r)) (Nat.blt r (hK k))
noncomputable def wrapK (k : IntKind) (x : Int) (c : Int → Bool) : Bool := forceN (natK k x) fun r => wrapN k r c
omit Y in
theorem blt_is (a b : Nat) : Nat.blt a b = decide (a < b) := by
  rw [Bool.eq_iff_iff]
  simp [Nat.blt, Nat.ble_eq, Nat.lt_iff_add_one_le]
omit Y in
theorem wrapN_is (k : IntKind) (r : Nat) (x : Int) (hr : (r : Int) = x % (2 ^ k.bits : Int)) (c : Int → Bool) : wrapN k r c = c (k.wrap x) := by
  unfold wrapN
  rw [forceN_is]
  have hlt : x % (2 ^ k.bits : Int) < 2 ^ k.bits := Int.emod_lt_of_pos _ (by cases k <;> decide)
  rw [blt_is]
  by_cases h1 : r < hK k
  · rw [decide_eq_true h1]
    show c ((r : Nat) : Int) = _
    congr 1
    cases k <;> simp only [IntKind.wrap, hK, pK, IntKind.signed, IntKind.bits, Bool.true_and, Bool.false_and, decide_eq_true_eq, ge_iff_le, Bool.false_eq_true, if_false] at * <;> first | omega | (split <;> omega)
  · rw [decide_eq_false h1]
    show c (Int.negSucc (pK k - 1 - r)) = _
    congr 1
    rw [Int.negSucc_eq]
    cases k <;> simp only [IntKind.wrap, hK, pK, IntKind.signed, IntKind.bits, Bool.true_and, Bool.false_and, decide_eq_true_eq, ge_iff_le, Bool.false_eq_true, if_false] at * <;> first | omega | (split <;> omega)
omit Y in
theorem wrapK_is (k : IntKind) (x : Int) (c : Int → Bool) : wrapK k x c = c (k.wrap x) := by
  unfold wrapK
  rw [forceN_is]
  exact wrapN_is k _ x (natK_is k x) c
omit Y in
theorem bv_natK (k : IntKind) (x : Int) : (BitVec.ofInt k.bits x).toNat = natK k x := by
  have h := natK_is k x
  rw [BitVec.toNat_ofInt]
  have : ((2 ^ k.bits : Nat) : Int) = (2 : Int) ^ k.bits := by simp
  rw [this, ← h]
  rfl
noncomputable def bitN (b : BinOp) (p m n : Nat) : Nat := match b with
  | .and => Nat.land m n
  | .or => Nat.lor m n
  | .xor => Nat.xor m n
  | _ => Nat.land m (Nat.sub (Nat.sub p 1) n)
noncomputable def bitsK (b : BinOp) (k : IntKind) (m n : Int) (c : Int → Bool) : Bool := forceN (natK k m) fun m => forceN (natK k n) fun n => forceN (bitN b (pK k) m n) fun r => wrapK k (.ofNat r) c
omit Y in
theorem bitsK_is (b : BinOp) (k : IntKind) (m n : Int) (c : Int → Bool) : bitsK b k m n c = c (bitsOf b k m n) := by
  unfold bitsK
  rw [forceN_is, forceN_is, forceN_is, wrapK_is]
  congr 1
  have hp : 2 ^ k.bits = pK k := by cases k <;> rfl
  cases b <;> simp only [bitN, bitsOf] <;> congr 1 <;> simp only [BitVec.toNat_and, BitVec.toNat_or, BitVec.toNat_xor, BitVec.toNat_not, bv_natK, hp] <;> rfl
noncomputable def ltI (m n : Int) : Bool := Int.rec (fun a => Int.rec (fun b => Nat.blt a b) (fun _ => false) n) (fun a => Int.rec (fun _ => true) (fun b => Nat.blt b a) n) m
omit Y in
theorem ltI_is (m n : Int) : ltI m n = decide (m < n) := by
  cases m with
  | ofNat a => cases n with
    | ofNat b =>
      show Nat.blt a b = _
      rw [blt_is]
      congr 1
      simp
    | negSucc b =>
      show false = _
      symm
      rw [decide_eq_false_iff_not]
      simp only [Int.negSucc_eq, Int.ofNat_eq_natCast]
      omega
  | negSucc a => cases n with
    | ofNat b =>
      show true = _
      symm
      rw [decide_eq_true_eq]
      simp only [Int.negSucc_eq, Int.ofNat_eq_natCast]
      omega
    | negSucc b =>
      show Nat.blt b a = _
      rw [blt_is, Bool.eq_iff_iff, decide_eq_true_eq, decide_eq_true_eq]
      simp only [Int.negSucc_eq]
      omega
noncomputable def eqI (m n : Int) : Bool := Int.rec (fun a => Int.rec (fun b => Nat.beq a b) (fun _ => false) n) (fun a => Int.rec (fun _ => false) (fun b => Nat.beq a b) n) m
omit Y in
theorem eqI_is (m n : Int) : eqI m n = (m == n) := by
  rw [Bool.eq_iff_iff, beq_iff_eq]
  cases m with
  | ofNat a => cases n with
    | ofNat b =>
      show Nat.beq a b = true ↔ _
      rw [Nat.beq_eq]
      exact Int.ofNat_inj.symm
    | negSucc b =>
      show false = true ↔ _
      simp
  | negSucc a => cases n with
    | ofNat b =>
      show false = true ↔ _
      simp
    | negSucc b =>
      show Nat.beq a b = true ↔ _
      simp
omit Y in
theorem litI_is {n : Int} : litI n = true ↔ -1237940039285380274899124224 < n ∧ n < 1237940039285380274899124224 := by
  unfold litI
  rw [blt_is, decide_eq_true_eq]
  omega
omit Y in
theorem smP_is {n : Int} : smP n = true ↔ -316912650057057350374175801344 < n ∧ n < 316912650057057350374175801344 := by
  unfold smP
  rw [blt_is, decide_eq_true_eq]
  omega
omit Y in
theorem lit_ok {n : Int} (h : litI n = true) : okA n = true := by
  rw [litI_is] at h
  have h1 : cstP n = n := by unfold cstP; omega
  have h2 : rstP n = 0 := by unfold rstP; omega
  unfold okA
  rw [h1, h2]
  simp only [Bool.and_eq_true, smP_is]
  exact ⟨⟨⟨by omega, by decide, by decide⟩, by decide, by decide⟩, by decide, by decide⟩
/-- four numbers that are not told: e1 at 2^100, e2 at 2^200, e3 at 2^300, e4 at 2^400 -/
def thOf (e1 e2 e3 e4 : Int) (n : Int) : Int := cstP n + e1 * cstP (rstP n) + e2 * cstP (rstP (rstP n)) + e3 * cstP (rstP (rstP (rstP n))) + e4 * rstP (rstP (rstP (rstP n)))
omit Y in
theorem cst_add {x y : Int} (hx : smP (cstP x) = true) (hy : smP (cstP y) = true) : cstP (x + y) = cstP x + cstP y ∧ rstP (x + y) = rstP x + rstP y := by
  rw [smP_is] at hx hy
  unfold cstP rstP at *
  omega
omit Y in
theorem cst_sub {x y : Int} (hx : smP (cstP x) = true) (hy : smP (cstP y) = true) : cstP (x - y) = cstP x - cstP y ∧ rstP (x - y) = rstP x - rstP y := by
  rw [smP_is] at hx hy
  unfold cstP rstP at *
  omega
omit Y in
theorem thOf_lit {e1 e2 e3 e4 n : Int} (h : litI n = true) : thOf e1 e2 e3 e4 n = n := by
  rw [litI_is] at h
  have h1 : cstP n = n := by unfold cstP; omega
  have h2 : rstP n = 0 := by unfold rstP; omega
  unfold thOf
  have a : rstP 0 = 0 := by decide
  have b : cstP 0 = 0 := by decide
  rw [h1, h2]
  simp only [a, b, Int.mul_zero, Int.add_zero]
omit Y in
theorem thOf_add {e1 e2 e3 e4 x y : Int} (hx : okA x = true) (hy : okA y = true) : thOf e1 e2 e3 e4 (x + y) = thOf e1 e2 e3 e4 x + thOf e1 e2 e3 e4 y := by
  unfold okA at hx hy
  simp only [Bool.and_eq_true] at hx hy
  obtain ⟨h1, h2⟩ := cst_add hx.1.1.1 hy.1.1.1
  obtain ⟨h3, h4⟩ := cst_add hx.1.1.2 hy.1.1.2
  obtain ⟨h5, h6⟩ := cst_add hx.1.2 hy.1.2
  obtain ⟨h7, h8⟩ := cst_add hx.2 hy.2
  unfold thOf
  rw [h1, h2, h3, h4, h5, h6, h7, h8, Int.mul_add, Int.mul_add, Int.mul_add, Int.mul_add]
  omega
omit Y in
theorem thOf_sub {e1 e2 e3 e4 x y : Int} (hx : okA x = true) (hy : okA y = true) : thOf e1 e2 e3 e4 (x - y) = thOf e1 e2 e3 e4 x - thOf e1 e2 e3 e4 y := by
  unfold okA at hx hy
  simp only [Bool.and_eq_true] at hx hy
  obtain ⟨h1, h2⟩ := cst_sub hx.1.1.1 hy.1.1.1
  obtain ⟨h3, h4⟩ := cst_sub hx.1.1.2 hy.1.1.2
  obtain ⟨h5, h6⟩ := cst_sub hx.1.2 hy.1.2
  obtain ⟨h7, h8⟩ := cst_sub hx.2 hy.2
  unfold thOf
  rw [h1, h2, h3, h4, h5, h6, h7, h8, Int.mul_sub, Int.mul_sub, Int.mul_sub, Int.mul_sub]
  omega
/-- intervals of forms, out of a table of what is known of their rests -/
noncomputable def rngOf (tb : List (Int × Int × Int)) (n : Int) : Option (Int × Int) := List.rec none (fun q _ ih => match eqI (rstP n) q.1 with
  | true => some (q.2.1 + cstP n, q.2.2 + cstP n)
  | false => ih) tb
omit Y in
theorem rngOf_ok {e1 e2 e3 e4 : Int} : ∀ {tb : List (Int × Int × Int)}, (∀ q ∈ tb, q.2.1 ≤ e1 * cstP q.1 + e2 * cstP (rstP q.1) + e3 * cstP (rstP (rstP q.1)) + e4 * rstP (rstP (rstP q.1)) ∧ e1 * cstP q.1 + e2 * cstP (rstP q.1) + e3 * cstP (rstP (rstP q.1)) + e4 * rstP (rstP (rstP q.1)) ≤ q.2.2) → ∀ {n lo hi : Int}, rngOf tb n = some (lo, hi) → lo ≤ thOf e1 e2 e3 e4 n ∧ thOf e1 e2 e3 e4 n ≤ hi
  | [], _, _, _, _, h => by cases h
  | q :: r, hq, n, lo, hi, h0 => by
    have h : (match eqI (rstP n) q.1 with
      | true => some (q.2.1 + cstP n, q.2.2 + cstP n)
      | false => rngOf r n) = some (lo, hi) := h0
    split at h
    · rename_i he
      rw [eqI_is, beq_iff_eq] at he
      cases h
      obtain ⟨h1, h2⟩ := hq q List.mem_cons_self
      unfold thOf
      rw [he]
      omega
    · exact rngOf_ok (fun p hp => hq p (List.mem_cons_of_mem _ hp)) h
@[instance_reducible] noncomputable def syOf (e1 e2 e3 e4 : Int) (tb : List (Int × Int × Int)) (h : ∀ q ∈ tb, q.2.1 ≤ e1 * cstP q.1 + e2 * cstP (rstP q.1) + e3 * cstP (rstP (rstP q.1)) + e4 * rstP (rstP (rstP q.1)) ∧ e1 * cstP q.1 + e2 * cstP (rstP q.1) + e3 * cstP (rstP (rstP q.1)) + e4 * rstP (rstP (rstP q.1)) ≤ q.2.2) : Sy := ⟨thOf e1 e2 e3 e4, rngOf tb, fun _ => thOf_lit, fun _ _ => thOf_add, fun _ _ => thOf_sub, fun _ _ _ => rngOf_ok h⟩
/-- less, decided -/
noncomputable def ltS (m n : Int) (c : Bool → Bool) : Bool := match litI m && litI n with
  | true => forceB (ltI m n) c
  | false => match okA m && okA n with
    | true => match litI (n - m) with
      | true => forceB (ltI 0 (n - m)) c
      | false => match Y.rng (n - m) with
        | some (lo, hi) => match ltI 0 lo with
          | true => c true
          | false => match ltI hi 1 with
            | true => c false
            | false => false
        | none => false
    | false => false
theorem ltS_ok {m n : Int} {c : Bool → Bool} (h : ltS m n c = true) : c (decide (Y.th m < Y.th n)) = true := by
  unfold ltS at h
  split at h
  · rename_i hl
    rw [Bool.and_eq_true] at hl
    rw [forceB_is, ltI_is] at h
    rw [Y.lit m hl.1, Y.lit n hl.2]
    exact h
  · split at h
    case h_2 => cases h
    rename_i ho
    rw [Bool.and_eq_true] at ho
    have hs := Y.sub n m ho.2 ho.1
    split at h
    · rename_i hd
      rw [forceB_is, ltI_is] at h
      rw [Y.lit _ hd] at hs
      rw [show decide (Y.th m < Y.th n) = decide (0 < n - m) by rw [Bool.eq_iff_iff]; simp only [decide_eq_true_eq]; omega]
      exact h
    · split at h
      case h_2 => cases h
      rename_i lo hi hr
      obtain ⟨r1, r2⟩ := Y.rng_ok _ _ _ hr
      split at h
      · rename_i h1
        rw [ltI_is, decide_eq_true_eq] at h1
        rw [decide_eq_true (by omega)]
        exact h
      · split at h
        · rename_i h1
          rw [ltI_is, decide_eq_true_eq] at h1
          rw [decide_eq_false (by omega)]
          exact h
        · cases h
noncomputable def eqS (m n : Int) (c : Bool → Bool) : Bool := match litI m && litI n with
  | true => forceB (eqI m n) c
  | false => match okA m && okA n with
    | true => match litI (n - m) with
      | true => forceB (eqI 0 (n - m)) c
      | false => match Y.rng (n - m) with
        | some (lo, hi) => match ltI 0 lo with
          | true => c false
          | false => match ltI hi 0 with
            | true => c false
            | false => false
        | none => false
    | false => false
theorem eqS_ok {m n : Int} {c : Bool → Bool} (h : eqS m n c = true) : c (Y.th m == Y.th n) = true := by
  unfold eqS at h
  split at h
  · rename_i hl
    rw [Bool.and_eq_true] at hl
    rw [forceB_is, eqI_is] at h
    rw [Y.lit m hl.1, Y.lit n hl.2]
    exact h
  · split at h
    case h_2 => cases h
    rename_i ho
    rw [Bool.and_eq_true] at ho
    have hs := Y.sub n m ho.2 ho.1
    split at h
    · rename_i hd
      rw [forceB_is, eqI_is] at h
      rw [Y.lit _ hd] at hs
      rw [show (Y.th m == Y.th n) = (0 == n - m) by rw [Bool.eq_iff_iff, beq_iff_eq, beq_iff_eq]; omega]
      exact h
    · split at h
      case h_2 => cases h
      rename_i lo hi hr
      obtain ⟨r1, r2⟩ := Y.rng_ok _ _ _ hr
      have hf : ∀ q : Y.th m ≠ Y.th n, (Y.th m == Y.th n) = false := fun q => by simpa using q
      split at h
      · rename_i h1
        rw [ltI_is, decide_eq_true_eq] at h1
        rw [hf (by omega)]
        exact h
      · split at h
        · rename_i h1
          rw [ltI_is, decide_eq_true_eq] at h1
          rw [hf (by omega)]
          exact h
        · cases h
def mnK : IntKind → Int
  | .i8 => -128
  | .i16 => -32768
  | .i32 => -2147483648
  | .i64 => -9223372036854775808
  | _ => 0
/-- a form, wrapped -/
noncomputable def wrapS (k : IntKind) (x : Int) (c : Int → Bool) : Bool := match litI x with
  | true => wrapK k x c
  | false => match Y.rng x with
    | some (lo, hi) => forceI (Int.ediv (lo - mnK k) (pK k)) fun j => match okA x && litI (j * pK k) && ltI (hi - j * pK k - mnK k) (pK k) with
      | true => forceI (x - j * pK k) c
      | false => false
    | none => false
theorem wrapS_ok {k : IntKind} {x : Int} {c : Int → Bool} (h : wrapS k x c = true) : ∃ y, (c y = true ∧ k.wrap (Y.th x) = Y.th y) ∨ (litI x = true ∧ c y = true ∧ y = k.wrap x) := by
  unfold wrapS at h
  split at h
  · rename_i hl
    rw [wrapK_is] at h
    exact ⟨_, .inr ⟨hl, h, rfl⟩⟩
  · split at h
    case h_2 => cases h
    rename_i lo hi hr
    rw [forceI_is] at h
    split at h
    case h_2 => cases h
    rename_i ho
    simp only [Bool.and_eq_true] at ho
    obtain ⟨⟨o1, o2⟩, o3⟩ := ho
    rw [forceI_is] at h
    rw [ltI_is, decide_eq_true_eq] at o3
    obtain ⟨r1, r2⟩ := Y.rng_ok _ _ _ hr
    refine ⟨_, .inl ⟨h, ?_⟩⟩
    rw [Y.sub _ _ o1 (lit_ok o2), Y.lit _ o2]
    generalize Y.th x = z at *
    have hj : ∃ j, Int.ediv (lo - mnK k) (pK k) = j := ⟨_, rfl⟩
    obtain ⟨j, hj⟩ := hj
    rw [hj] at o3 ⊢
    have hj' : (lo - mnK k) / (pK k : Int) = j := hj
    clear hj o2 h hr o1
    cases k <;> simp only [IntKind.wrap, pK, mnK, IntKind.signed, IntKind.bits, Bool.true_and, Bool.false_and, decide_eq_true_eq, ge_iff_le, Bool.false_eq_true, if_false] at * <;> first | omega | (split <;> omega)
omit Y in
theorem wrap_lit (k : IntKind) (x : Int) : litI (k.wrap x) = true := by
  rw [litI_is]
  cases k <;> simp only [IntKind.wrap, IntKind.signed, IntKind.bits, Bool.true_and, Bool.false_and, decide_eq_true_eq, ge_iff_le, Bool.false_eq_true, if_false] <;> first | omega | (split <;> omega)
/-- an integer that is told -/
noncomputable def litK (k : IntKind) (n : Int) (c : Value → Bool) : Bool := match litI n with
  | true => c (.int k n)
  | false => false
theorem litK_ok {k : IntKind} {n : Int} {c : Value → Bool} (h : litK k n c = true) : Y.th n = n ∧ c (.int k n) = true := by
  unfold litK at h
  split at h
  · rename_i hl
    exact ⟨Y.lit n hl, h⟩
  · cases h
/-- both are told -/
noncomputable def lit2 (m n : Int) (c : Bool) : Bool := match litI m && litI n with
  | true => c
  | false => false
theorem lit2_ok {m n : Int} {c : Bool} (h : lit2 m n c = true) : Y.th m = m ∧ Y.th n = n ∧ c = true := by
  unfold lit2 at h
  split at h
  · rename_i hl
    rw [Bool.and_eq_true] at hl
    exact ⟨Y.lit m hl.1, Y.lit n hl.2, h⟩
  · cases h
noncomputable def sumS (k : IntKind) (m n x : Int) (c : Int → Bool) : Bool := match litI m && litI n with
  | true => wrapK k x c
  | false => match okA m && okA n with
    | true => wrapS k x c
    | false => false
theorem sumS_ok {k : IntKind} {m n x z : Int} {c : Int → Bool} (h1 : litI m = true → litI n = true → z = x) (h2 : okA m = true → okA n = true → z = Y.th x) (h : sumS k m n x c = true) : ∃ y, c y = true ∧ k.wrap z = Y.th y := by
  unfold sumS at h
  split at h
  · rename_i hl
    rw [Bool.and_eq_true] at hl
    rw [wrapK_is] at h
    exact ⟨_, h, by rw [h1 hl.1 hl.2, Y.lit _ (wrap_lit k x)]⟩
  · split at h
    case h_2 => cases h
    rename_i ho
    rw [Bool.and_eq_true] at ho
    rw [h2 ho.1 ho.2]
    obtain ⟨y, hy | ⟨q1, q2, q3⟩⟩ := wrapS_ok h
    · exact ⟨y, hy⟩
    · refine ⟨y, q2, ?_⟩
      rw [Y.lit x q1, q3, Y.lit _ (wrap_lit k x)]
/-- the rest by a number that is told, where all that it may be lies in one window -/
noncomputable def remS (m n : Int) (c : Int → Bool) : Bool := match ltI 0 n && litI n && okA m with
  | true => match Y.rng m with
    | some (lo, hi) => match ltI lo 0 with
      | true => false
      | false => forceI (Int.ediv lo n) fun j => match litI (j * n) && ltI hi (j * n + n) with
        | true => forceI (m - j * n) c
        | false => false
    | none => false
  | false => false
theorem remS_ok {m n : Int} {c : Int → Bool} (h : remS m n c = true) : Y.th n ≠ 0 ∧ ∃ y, c y = true ∧ (Y.th m).tmod (Y.th n) = Y.th y := by
  unfold remS at h
  split at h
  case h_2 => cases h
  rename_i ho
  simp only [Bool.and_eq_true, ltI_is, decide_eq_true_eq] at ho
  obtain ⟨⟨o1, o2⟩, o3⟩ := ho
  split at h
  case h_2 => cases h
  rename_i lo hi hr
  split at h
  · cases h
  rename_i hl
  rw [ltI_is, decide_eq_false_iff_not] at hl
  rw [forceI_is] at h
  split at h
  case h_2 => cases h
  rename_i hj
  simp only [Bool.and_eq_true, ltI_is, decide_eq_true_eq] at hj
  obtain ⟨j1, j2⟩ := hj
  rw [forceI_is] at h
  obtain ⟨r1, r2⟩ := Y.rng_ok _ _ _ hr
  rw [Y.lit n o2]
  refine ⟨by omega, _, h, ?_⟩
  rw [Y.sub _ _ o3 (lit_ok j1), Y.lit _ j1]
  have hj : lo.ediv n * n ≤ lo := Int.ediv_mul_le lo (by omega)
  generalize lo.ediv n = q at *
  generalize Y.th m = z at *
  have hz : z = (z - q * n) + q * n := by omega
  rw [Int.tmod_eq_emod_of_nonneg (by omega)]
  rw [hz, Int.add_mul_emod_self_right, Int.emod_eq_of_lt (by omega) (by omega)]
  omega
noncomputable def arithK (b : BinOp) (k : IntKind) (m n : Int) (c : Value → Bool) : Bool := match b with
  | .add => sumS k m n (Int.add m n) fun s => c (.int k s)
  | .sub => sumS k m n (Int.sub m n) fun s => c (.int k s)
  | .mul => lit2 m n (wrapK k (Int.mul m n) fun s => c (.int k s))
  | .quo => lit2 m n (Bool.rec (wrapK k (m.tdiv n) fun s => c (.int k s)) false (eqI n 0))
  | .rem => match litI m && litI n with
    | true => lit2 m n (Bool.rec (forceI (m.tmod n) fun s => litK k s c) false (eqI n 0))
    | false => remS m n fun s => c (.int k s)
  | .and | .or | .xor | .andNot => lit2 m n (bitsK b k m n fun s => litK k s c)
  | .eql => eqS m n fun b => forceB b fun b => c (.bool b)
  | .neq => eqS m n fun b => forceB (!b) fun b => c (.bool b)
  | .lss => ltS m n fun b => forceB b fun b => c (.bool b)
  | .geq => ltS m n fun b => forceB (!b) fun b => c (.bool b)
  | .gtr => ltS n m fun b => forceB b fun b => c (.bool b)
  | .leq => ltS n m fun b => forceB (!b) fun b => c (.bool b)
  | _ => false
noncomputable def shiftK (b : BinOp) (k : IntKind) (m n : Int) (c : Value → Bool) : Bool := lit2 m n (Bool.rec (match b with
  | .shl => wrapK k (Int.mul m (.ofNat (Nat.pow 2 (Nat.min n.toNat k.bits)))) fun s => c (.int k s)
  | .shr => forceI (m.fdiv (.ofNat (Nat.pow 2 (Nat.min n.toNat k.bits)))) fun s => litK k s c
  | _ => false) false (ltI n 0))
variable {P : Program}
/-- what is known of an operation that looks at no memory -/
def OpS (P : Program) (t : Tr Value) (op : Op) (v : Value) : Prop := ∀ (ρ : Rl) (n : Nat) (df : List Deferred) (a : Act) (w : World) (R : Value → World → Prop) (d : Option Tmp) (ty : TypeId) (pos : String) (af : Array Edge) (g : Option (Nat × Bool)),
  FrR ρ n df t a → (∀ u, VR ρ v u → R u w) → OpTo P ⟨d, op, ty, pos, af, g⟩ a.eval w R
theorem OpdR.int {t : Tr Value} {x : Operand} {k : IntKind} {m : Int} (h : OpdR t x (.int k m)) {ρ : Rl} {n : Nat} {df : List Deferred} {a : Act} (F : FrR ρ n df t a) : a.eval x = .int k (Y.th m) := by
  have := h ρ n df a F
  generalize a.eval x = u at *
  cases this
  rfl
theorem OpdR.intT {t : Tr Value} {x : Operand} {k : IntKind} {m : Int} (h : OpdR t x (.int k m)) (e : Y.th m = m) {ρ : Rl} {n : Nat} {df : List Deferred} {a : Act} (F : FrR ρ n df t a) : a.eval x = .int k m := by
  rw [h.int F, e]
theorem OpdR.bool {t : Tr Value} {x : Operand} {b : Bool} (h : OpdR t x (.bool b)) {ρ : Rl} {n : Nat} {df : List Deferred} {a : Act} (F : FrR ρ n df t a) : a.eval x = .bool b := by
  have := h ρ n df a F
  generalize a.eval x = u at *
  cases this
  rfl
theorem VR.lit {ρ : Rl} {k : IntKind} {n : Int} (h : Y.th n = n) : VR ρ (.int k n) (.int k n) := by
  have := VR.int (ρ := ρ) k n
  rwa [h] at this
theorem VR.wr {ρ : Rl} {k k' : IntKind} {x : Int} : VR ρ (.int k (k'.wrap x)) (.int k (k'.wrap x)) := VR.lit (Y.lit _ (wrap_lit k' x))
theorem arithK_ok {t : Tr Value} {x y : Operand} {tt t' : TypeId} {b : BinOp} {k : IntKind} {m n : Int} {c : Value → Bool} (hx : OpdR t x (.int k m)) (hy : OpdR t y (.int k n)) (h : arithK b k m n c = true) : ∃ v, OpS P t (.binOp b tt x y t') v ∧ c v = true := by
  have hd : ∀ b : Bool, ∀ f : Bool → Bool, forceB b f = f b := forceB_is
  have hz : ∀ f : Bool, (Bool.rec f false (eqI n 0) : Bool) = true → n ≠ 0 ∧ f = true := fun f h => by
    rw [eqI_is] at h
    cases hz : (n == 0) with
    | true => rw [hz] at h; cases h
    | false => rw [hz] at h; exact ⟨by simpa using hz, h⟩
  cases b with
  | add =>
    obtain ⟨s, h1, h2⟩ := sumS_ok (z := Y.th m + Y.th n) (fun l1 l2 => by rw [Y.lit m l1, Y.lit n l2]) (fun o1 o2 => (Y.add m n o1 o2).symm) h
    exact ⟨_, fun ρ nn df a w R d ty pos af g F hR => o_add (hx.int F) (hy.int F) h2 (hR _ (.int _ _)), h1⟩
  | sub =>
    obtain ⟨s, h1, h2⟩ := sumS_ok (z := Y.th m - Y.th n) (fun l1 l2 => by rw [Y.lit m l1, Y.lit n l2]) (fun o1 o2 => (Y.sub m n o1 o2).symm) h
    exact ⟨_, fun ρ nn df a w R d ty pos af g F hR => o_sub (hx.int F) (hy.int F) h2 (hR _ (.int _ _)), h1⟩
  | mul =>
    obtain ⟨e1, e2, h⟩ := lit2_ok h
    rw [wrapK_is] at h
    exact ⟨_, fun ρ nn df a w R d ty pos af g F hR => o_mul (hx.int F) (hy.int F) (by rw [e1, e2]; rfl) (hR _ .wr), h⟩
  | quo =>
    obtain ⟨e1, e2, h⟩ := lit2_ok h
    obtain ⟨h0, h1⟩ := hz _ h
    rw [wrapK_is] at h1
    exact ⟨_, fun ρ nn df a w R d ty pos af g F hR => o_quo (hx.int F) (hy.int F) (by rw [e2]; exact h0) (by rw [e1, e2]) (hR _ .wr), h1⟩
  | rem =>
    have h0 : (match litI m && litI n with
      | true => lit2 m n (Bool.rec (forceI (m.tmod n) fun s => litK k s c) false (eqI n 0))
      | false => remS m n fun s => c (.int k s) : Bool) = true := h
    clear h
    split at h0
    case h_2 =>
      obtain ⟨e1, y, h1, e2⟩ := remS_ok h0
      exact ⟨_, fun ρ nn df a w R d ty pos af g F hR => o_rem (hx.int F) (hy.int F) e1 e2 (hR _ (.int _ _)), h1⟩
    obtain ⟨e1, e2, h⟩ := lit2_ok h0
    obtain ⟨h0, h1⟩ := hz _ h
    rw [forceI_is] at h1
    obtain ⟨e3, h1⟩ := litK_ok h1
    exact ⟨_, fun ρ nn df a w R d ty pos af g F hR => o_rem (hx.int F) (hy.int F) (by rw [e2]; exact h0) (by rw [e1, e2]) (hR _ (.lit e3)), h1⟩
  | and =>
    obtain ⟨e1, e2, h⟩ := lit2_ok h
    rw [bitsK_is] at h
    obtain ⟨e3, h1⟩ := litK_ok h
    exact ⟨_, fun ρ nn df a w R d ty pos af g F hR => o_and (hx.int F) (hy.int F) (by rw [e1, e2]) (hR _ (.lit e3)), h1⟩
  | or =>
    obtain ⟨e1, e2, h⟩ := lit2_ok h
    rw [bitsK_is] at h
    obtain ⟨e3, h1⟩ := litK_ok h
    exact ⟨_, fun ρ nn df a w R d ty pos af g F hR => o_or (hx.int F) (hy.int F) (by rw [e1, e2]) (hR _ (.lit e3)), h1⟩
  | xor =>
    obtain ⟨e1, e2, h⟩ := lit2_ok h
    rw [bitsK_is] at h
    obtain ⟨e3, h1⟩ := litK_ok h
    exact ⟨_, fun ρ nn df a w R d ty pos af g F hR => o_xor (hx.int F) (hy.int F) (by rw [e1, e2]) (hR _ (.lit e3)), h1⟩
  | andNot =>
    obtain ⟨e1, e2, h⟩ := lit2_ok h
    rw [bitsK_is] at h
    obtain ⟨e3, h1⟩ := litK_ok h
    exact ⟨_, fun ρ nn df a w R d ty pos af g F hR => o_andNot (hx.int F) (hy.int F) (by rw [e1, e2]) (hR _ (.lit e3)), h1⟩
  | eql =>
    have h := eqS_ok h
    rw [hd] at h
    exact ⟨_, fun ρ nn df a w R d ty pos af g F hR => o_eql (hx.int F) (hy.int F) (hR _ (.bool _)), h⟩
  | neq =>
    have h := eqS_ok h
    rw [hd] at h
    exact ⟨_, fun ρ nn df a w R d ty pos af g F hR => o_neq (hx.int F) (hy.int F) (hR _ (.bool _)), h⟩
  | lss =>
    have h := ltS_ok h
    rw [hd] at h
    exact ⟨_, fun ρ nn df a w R d ty pos af g F hR => o_lss (hx.int F) (hy.int F) (hR _ (.bool _)), h⟩
  | gtr =>
    have h := ltS_ok h
    rw [hd] at h
    exact ⟨_, fun ρ nn df a w R d ty pos af g F hR => o_gtr (hx.int F) (hy.int F) (hR _ (.bool _)), h⟩
  | leq =>
    have h := ltS_ok h
    rw [hd] at h
    exact ⟨_, fun ρ nn df a w R d ty pos af g F hR => o_leq (hx.int F) (hy.int F) (hR _ (.bool _)), by rw [show decide (Y.th m ≤ Y.th n) = !decide (Y.th n < Y.th m) by rw [Bool.eq_iff_iff]; simp]; exact h⟩
  | geq =>
    have h := ltS_ok h
    rw [hd] at h
    exact ⟨_, fun ρ nn df a w R d ty pos af g F hR => o_geq (hx.int F) (hy.int F) (hR _ (.bool _)), by rw [show decide (Y.th n ≤ Y.th m) = !decide (Y.th m < Y.th n) by rw [Bool.eq_iff_iff]; simp]; exact h⟩
  | _ => cases h
theorem shiftK_ok {t : Tr Value} {x y : Operand} {tt t' : TypeId} {b : BinOp} {k k' : IntKind} {m n : Int} {c : Value → Bool} (hx : OpdR t x (.int k m)) (hy : OpdR t y (.int k' n)) (h : shiftK b k m n c = true) : ∃ v, OpS P t (.binOp b tt x y t') v ∧ c v = true := by
  unfold shiftK at h
  obtain ⟨e1, e2, h⟩ := lit2_ok h
  rw [ltI_is] at h
  cases hz : decide (n < 0) with
  | true => rw [hz] at h; cases h
  | false =>
    rw [hz] at h
    have h0 : 0 ≤ n := by simpa using hz
    have hp : ∀ e : Nat, Int.ofNat (Nat.pow 2 e) = (2 : Int) ^ e := fun e => by
      show ((2 ^ e : Nat) : Int) = _
      simp
    dsimp only at h
    split at h
    · rw [wrapK_is] at h
      exact ⟨_, fun ρ nn df a w R d ty pos af g F hR => o_shl (hx.int F) (hy.int F) (by rw [e2]; exact h0) (by rw [e1, e2, ← hp]; rfl) (hR _ .wr), h⟩
    · rw [forceI_is] at h
      obtain ⟨e3, h1⟩ := litK_ok h
      exact ⟨_, fun ρ nn df a w R d ty pos af g F hR => o_shr (hx.int F) (hy.int F) (by rw [e2]; exact h0) (by rw [e1, e2, ← hp]) (hR _ (.lit e3)), h1⟩
    · cases h
end Go.Proofs.YtfedlkeiafcdmaaGreat

/-
  A small calculus of our own over the kit's fenced calculus (wpIn): facts on a frame's slots (Frm), on the blocks of the heap that a call has made (Mem), on what it leaves as it was (Ext); rules for code. No program in sight.
-/
import Derived.WalkKit
import Derived.OrdersIn
import Derived.RangeFuncLeaves
import Derived.RangeFuncNested
namespace Go.Proofs.YtadnpidadcgdcaaDoor
set_option linter.unusedVariables false
set_option linter.unusedSimpArgs false
open Go.RowKit

/-- The fence that shuts out nothing; 'r': the loop in whose round the code runs. -/
def FW (r : Option Nat) : Fence := { fn := fun _ => True, depth := none, alive := false, round := r }
theorem FW_none : FW none = Fence.wide := rfl
theorem FW_round (r : Option Nat) : (FW r).round = r := rfl
theorem FW_in (r : Option Nat) (l : Nat) : (FW r).inRound l = FW (some l) := rfl
theorem room_FW (r : Option Nat) (k : Nat) : (FW r).room k := fun _ h => by simp [FW] at h

/-! ### frames -/
def look : List (Nat × Value) → Nat → Option Value
  | [], _ => none
  | (k, v) :: r, t => match Nat.beq k t with
    | true => some v
    | false => look r t

structure Frm (a : Act) (n : Nat) (df : List Deferred) (fr : List (Nat × Value)) : Prop where
  size : a.tmps.size = n
  defers : a.defers = df
  at_ : ∀ t v, look fr t = some v → a.tmps.getD t undef = v

/-- What an operand comes to, by what is known of the slots. -/
def Ev (fr : List (Nat × Value)) : Operand → Option Value
  | .tmp t => look fr t
  | .const v => some v
  | .global g => some (.pointer (some ⟨g, 0, none⟩))
  | .func f => some (.func (.func f) #[] #[])

theorem Frm.ev {a : Act} {n : Nat} {df : List Deferred} {fr : List (Nat × Value)} (F : Frm a n df fr) {x : Operand} {v : Value} (h : Ev fr x = some v) : a.eval x = v := by
  cases x with
  | tmp t => exact F.at_ t v h
  | const u => simpa [Ev, Act.eval] using h
  | global g => simpa [Ev, Act.eval] using h
  | func f => simpa [Ev, Act.eval] using h

theorem look_put (fr : List (Nat × Value)) (d t : Nat) (v : Value) : look ((d, v) :: fr) t = if d = t then some v else look fr t := by
  simp only [look]
  by_cases h : d = t
  · subst h; simp
  · have : Nat.beq d t = false := by
      cases hb : Nat.beq d t with
      | false => rfl
      | true => exact absurd (Nat.eq_of_beq_eq_true hb) h
    simp [this, h]

theorem Frm.put {a : Act} {n : Nat} {df : List Deferred} {fr : List (Nat × Value)} (F : Frm a n df fr) {d : Nat} (v : Value) (hd : Nat.blt d n = true) : Frm (a.put (some d) v) n df ((d, v) :: fr) := by
  have hd' : d < n := Nat.le_of_ble_eq_true hd
  refine ⟨by simp [Act.put, F.size], by simp [Act.put, F.defers], fun t u h => ?_⟩
  rw [look_put] at h
  simp only [Act.put]
  by_cases e : d = t
  · subst e
    simp only [if_true, Option.some.injEq] at h
    subst h
    have : d < a.tmps.size := by rw [F.size]; exact hd'
    simp [Array.getElem?_setIfInBounds, this]
  · rw [if_neg e] at h
    have := F.at_ t u h
    simpa [Array.getElem?_setIfInBounds, e] using this

theorem Frm.putNone {a : Act} {n : Nat} {df : List Deferred} {fr : List (Nat × Value)} (F : Frm a n df fr) (v : Value) : Frm (a.put none v) n df fr := F

/-- Fewer facts. 'keep ts fr': those on the slots ts, in that order. -/
def keep : List Nat → List (Nat × Value) → List (Nat × Value)
  | [], _ => []
  | t :: ts, fr => match look fr t with
    | some v => (t, v) :: keep ts fr
    | none => keep ts fr

theorem look_keep (ts : List Nat) (fr : List (Nat × Value)) (t : Nat) (v : Value) (h : look (keep ts fr) t = some v) : look fr t = some v := by
  induction ts with
  | nil => simp [keep, look] at h
  | cons x ts ih =>
    simp only [keep] at h
    cases hx : look fr x with
    | none => rw [hx] at h; exact ih h
    | some u =>
      rw [hx] at h
      simp only [look_put] at h
      by_cases e : x = t
      · subst e; simp at h; rw [hx, h]
      · rw [if_neg e] at h; exact ih h

theorem Frm.keep {a : Act} {n : Nat} {df : List Deferred} {fr : List (Nat × Value)} (F : Frm a n df fr) (ts : List Nat) : Frm a n df (keep ts fr) :=
  ⟨F.size, F.defers, fun t v h => F.at_ t v (look_keep ts fr t v h)⟩

/-- Forced: for a list that is to come out written in full. -/
def keepO : List Nat → List (Nat × Value) → Option (List (Nat × Value))
  | [], _ => some []
  | t :: ts, fr => match look fr t, keepO ts fr with
    | some v, some r => some ((t, v) :: r)
    | _, _ => none

theorem keepO_keep : ∀ (ts : List Nat) (fr r : List (Nat × Value)), keepO ts fr = some r → keep ts fr = r
  | [], _, _, h => by simpa [keepO, keep] using h
  | t :: ts, fr, r, h => by
    simp only [keepO] at h
    cases hx : look fr t with
    | none => simp [hx] at h
    | some u =>
      cases hk : keepO ts fr with
      | none => simp [hx, hk] at h
      | some q =>
        simp only [hx, hk, Option.some.injEq] at h
        simp only [keep, hx, keepO_keep ts fr q hk, h]

theorem Frm.only {a : Act} {n : Nat} {df : List Deferred} {fr r : List (Nat × Value)} (F : Frm a n df fr) (ts : List Nat) (h : keepO ts fr = some r) : Frm a n df r := by
  rw [← keepO_keep ts fr r h]; exact F.keep ts

/-- A fact said in another spelling. -/
theorem Frm.turn {a : Act} {n : Nat} {df : List Deferred} {fr fr' : List (Nat × Value)} (F : Frm a n df fr) (h : fr = fr') : Frm a n df fr' := h ▸ F

/-! ### worlds -/
/-- Of what lay in w nothing has turned in w' but, maybe, the blocks S. -/
structure Ext (S : List Nat) (w w' : World) : Prop where
  os : w'.os = w.os
  tape : w'.tape = w.tape
  output : w'.output = w.output
  size : w.heap.size ≤ w'.heap.size
  block : ∀ k, k < w.heap.size → k ∉ S → w'.heap[k]? = w.heap[k]?

theorem Ext.refl (S : List Nat) (w : World) : Ext S w w := ⟨rfl, rfl, rfl, Nat.le_refl _, fun _ _ _ => rfl⟩
theorem Ext.trans {S : List Nat} {a b c : World} (h : Ext S a b) (k : Ext S b c) : Ext S a c :=
  ⟨k.os.trans h.os, k.tape.trans h.tape, k.output.trans h.output, Nat.le_trans h.size k.size, fun i hi hs => (k.block i (Nat.lt_of_lt_of_le hi h.size) hs).trans (h.block i hi hs)⟩
theorem Ext.mono {S S' : List Nat} {a b : World} (h : Ext S a b) (hS : ∀ k, k ∈ S → k ∈ S') : Ext S' a b :=
  ⟨h.os, h.tape, h.output, h.size, fun k hk hs => h.block k hk (fun hm => hs (hS k hm))⟩
theorem Ext.any {S : List Nat} {a b : World} (h : Ext [] a b) : Ext S a b := h.mono (fun _ hk => by cases hk)
/-- What is turned lies beyond what there was. -/
theorem Ext.fresh {S T : List Nat} {a b : World} (h : Ext T a b) (hS : ∀ k, k ∈ T → k ∈ S ∨ a.heap.size ≤ k) : Ext S a b :=
  ⟨h.os, h.tape, h.output, h.size, fun k hk hs => h.block k hk (fun hm => (hS k hm).elim hs (fun hge => by omega))⟩
theorem Ext.below {w w' : World} (h : Ext [] w w') : Below w.heap.size w w' := ⟨h.os, h.tape, h.output, h.size, fun k hk => h.block k hk (by simp)⟩
theorem Ext.of_below {w w' : World} (h : Below w.heap.size w w') : Ext [] w w' := ⟨h.os, h.tape, h.output, h.size, fun k hk _ => h.block k hk⟩
theorem Ext.drawn (w : World) (d : Nat) : Ext [] w { w with drawn := d } := ⟨rfl, rfl, rfl, Nat.le_refl _, fun _ _ _ => rfl⟩
theorem Ext.alloc (w : World) (o : Obj) : Ext [] w (w.alloc o) := ⟨rfl, rfl, rfl, by simp, fun k hk _ => Below.heap_alloc _ _ _ hk⟩
theorem Ext.setCell (w : World) (p : Addr) (u : Value) : Ext [p.block] w (w.setCell p u) :=
  ⟨rfl, rfl, rfl, by simp [World.setCell], fun k _ hs => Below.heap_setCell _ _ _ _ (by simpa using hs)⟩

/-- The blocks l, all different, hold what is said; each is younger than W0 or one of S; since W0 nothing else has turned. -/
structure Mem (S : List Nat) (W0 w : World) (l : List (Nat × Obj)) : Prop where
  ext : Ext S W0 w
  at_ : ∀ p ∈ l, w.heap[p.1]? = some p.2
  nd : (l.map (·.1)).Nodup
  own : ∀ p ∈ l, p.1 ∈ S ∨ W0.heap.size ≤ p.1

theorem Mem.nil {S : List Nat} {W0 w : World} (h : Ext S W0 w) : Mem S W0 w [] := ⟨h, by simp, by simp, by simp⟩
theorem Mem.start (S : List Nat) (W0 : World) : Mem S W0 W0 [] := .nil (Ext.refl S W0)

inductive Has : List (Nat × Obj) → Nat → Obj → Prop
  | here {b : Nat} {o : Obj} {l : List (Nat × Obj)} : Has ((b, o) :: l) b o
  | there {p : Nat × Obj} {b : Nat} {o : Obj} {l : List (Nat × Obj)} (h : Has l b o) : Has (p :: l) b o

theorem Has.mem {l : List (Nat × Obj)} {b : Nat} {o : Obj} (h : Has l b o) : (b, o) ∈ l := by
  induction h with
  | here => simp
  | there _ ih => exact List.mem_cons_of_mem _ ih

/-- l' is l with o' for block b. -/
inductive Upd : List (Nat × Obj) → Nat → Obj → Obj → List (Nat × Obj) → Prop
  | here {b : Nat} {o o' : Obj} {l : List (Nat × Obj)} : Upd ((b, o) :: l) b o o' ((b, o') :: l)
  | there {p : Nat × Obj} {b : Nat} {o o' : Obj} {l l' : List (Nat × Obj)} (h : Upd l b o o' l') : Upd (p :: l) b o o' (p :: l')

theorem Upd.has {l l' : List (Nat × Obj)} {b : Nat} {o o' : Obj} (h : Upd l b o o' l') : Has l b o := by
  induction h with
  | here => exact .here
  | there _ ih => exact .there ih
theorem Upd.keys {l l' : List (Nat × Obj)} {b : Nat} {o o' : Obj} (h : Upd l b o o' l') : l'.map (·.1) = l.map (·.1) := by
  induction h with
  | here => rfl
  | there _ ih => simp [ih]
theorem Upd.mem {l l' : List (Nat × Obj)} {b : Nat} {o o' : Obj} (h : Upd l b o o' l') (nd : (l.map (·.1)).Nodup) : ∀ p ∈ l', p = (b, o') ∨ (p ∈ l ∧ p.1 ≠ b) := by
  induction h with
  | here =>
    intro p hp
    simp only [List.map_cons, List.nodup_cons] at nd
    rcases List.mem_cons.1 hp with rfl | hp
    · exact .inl rfl
    · exact .inr ⟨List.mem_cons_of_mem _ hp, fun e => nd.1 (e ▸ List.mem_map_of_mem hp)⟩
  | there hu ih =>
    intro p hp
    simp only [List.map_cons, List.nodup_cons] at nd
    rcases List.mem_cons.1 hp with rfl | hp
    · exact .inr ⟨List.mem_cons_self, fun e => nd.1 (by rw [e]; exact List.mem_map_of_mem hu.has.mem)⟩
    · rcases ih nd.2 p hp with h | ⟨h, h'⟩
      · exact .inl h
      · exact .inr ⟨List.mem_cons_of_mem _ h, h'⟩

theorem Mem.heap {S : List Nat} {W0 w : World} {l : List (Nat × Obj)} (M : Mem S W0 w l) {b : Nat} {o : Obj} (h : Has l b o) : w.heap[b]? = some o := M.at_ _ h.mem
theorem Mem.lt {S : List Nat} {W0 w : World} {l : List (Nat × Obj)} (M : Mem S W0 w l) {p : Nat × Obj} (h : p ∈ l) : p.1 < w.heap.size := (Array.getElem?_eq_some_iff.1 (M.at_ _ h)).1

/-- Behind whatever turns no block that there is. -/
theorem Mem.later {S : List Nat} {W0 w w' : World} {l : List (Nat × Obj)} (M : Mem S W0 w l) (h : Ext [] w w') : Mem S W0 w' l :=
  ⟨M.ext.trans h.any, fun p hp => (h.block _ (M.lt hp) (by simp)).trans (M.at_ p hp), M.nd, M.own⟩

theorem Mem.alloc {S : List Nat} {W0 w : World} {l : List (Nat × Obj)} (M : Mem S W0 w l) (o : Obj) : Mem S W0 (w.alloc o) ((w.heap.size, o) :: l) := by
  have M' := M.later (Ext.alloc w o)
  refine ⟨M'.ext, fun p hp => ?_, ?_, fun p hp => ?_⟩
  · rcases List.mem_cons.1 hp with rfl | hp
    · exact heap_alloc_new w o
    · exact M'.at_ p hp
  · simp only [List.map_cons, List.nodup_cons]
    refine ⟨fun hm => ?_, M.nd⟩
    obtain ⟨q, hq, e⟩ := List.mem_map.1 hm
    have := M.lt hq
    omega
  · rcases List.mem_cons.1 hp with rfl | hp
    · exact .inr M.ext.size
    · exact M.own p hp

/-- One more block, of which it is known that it is none of the others. -/
theorem Mem.cons {S : List Nat} {W0 w : World} {l : List (Nat × Obj)} (M : Mem S W0 w l) {b : Nat} {o : Obj} (hb : w.heap[b]? = some o) (hn : ∀ p ∈ l, p.1 ≠ b) (ho : b ∈ S ∨ W0.heap.size ≤ b) : Mem S W0 w ((b, o) :: l) := by
  refine ⟨M.ext, fun p hp => ?_, ?_, fun p hp => ?_⟩
  · rcases List.mem_cons.1 hp with rfl | hp
    · exact hb
    · exact M.at_ p hp
  · simp only [List.map_cons, List.nodup_cons]
    refine ⟨fun hm => ?_, M.nd⟩
    obtain ⟨q, hq, e⟩ := List.mem_map.1 hm
    exact hn q hq e
  · rcases List.mem_cons.1 hp with rfl | hp
    · exact ho
    · exact M.own p hp

/-- Behind a call that made block b, and turned nothing that there was. -/
theorem Mem.made {S : List Nat} {W0 w w' : World} {l : List (Nat × Obj)} (M : Mem S W0 w l) (h : Ext [] w w') {b : Nat} {o : Obj} (hb : w'.heap[b]? = some o) (hge : w.heap.size ≤ b) : Mem S W0 w' ((b, o) :: l) :=
  (M.later h).cons hb (fun p hp => by have := M.lt hp; omega) (.inr (Nat.le_trans M.ext.size hge))

/-- Behind whatever turned block b alone. -/
theorem Mem.turned {S : List Nat} {W0 w w' : World} {l l' : List (Nat × Obj)} (M : Mem S W0 w l) {b : Nat} {o o' : Obj} (hu : Upd l b o o' l') (h : Ext [b] w w') (hb : w'.heap[b]? = some o') : Mem S W0 w' l' := by
  have hm := hu.has.mem
  have hown := M.own _ hm
  refine ⟨?_, fun p hp => ?_, by rw [hu.keys]; exact M.nd, fun p hp => ?_⟩
  · refine ⟨h.os.trans M.ext.os, h.tape.trans M.ext.tape, h.output.trans M.ext.output, Nat.le_trans M.ext.size h.size, fun k hk hs => ?_⟩
    refine (h.block k (Nat.lt_of_lt_of_le hk M.ext.size) ?_).trans (M.ext.block k hk hs)
    simp only [List.mem_singleton]
    rintro rfl
    rcases hown with h1 | h1
    · exact hs h1
    · exact absurd hk (Nat.not_lt.2 h1)
  · rcases hu.mem M.nd p hp with rfl | ⟨hp', hne⟩
    · exact hb
    · exact (h.block p.1 (M.lt hp') (by simpa using hne)).trans (M.at_ p hp')
  · rcases hu.mem M.nd p hp with rfl | ⟨hp', _⟩
    · exact hown
    · exact M.own p hp'

/-- Fewer blocks. -/
theorem Mem.sub {S : List Nat} {W0 w : World} {l l' : List (Nat × Obj)} (M : Mem S W0 w l) (h : l'.Sublist l) : Mem S W0 w l' :=
  ⟨M.ext, fun p hp => M.at_ p (h.subset hp), M.nd.sublist (h.map _), fun p hp => M.own p (h.subset hp)⟩
end Go.Proofs.YtadnpidadcgdcaaDoor

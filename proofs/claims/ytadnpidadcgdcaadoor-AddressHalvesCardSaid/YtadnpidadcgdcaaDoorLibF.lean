/-
  The calculus, part F: more operations: parts of values, strings, slices, literals of structs and arrays, equality of arrays.
-/
import Derived.Test.YtadnpidadcgdcaaDoorLibE
namespace Go.Proofs.YtadnpidadcgdcaaDoor
set_option linter.unusedVariables false
set_option linter.unusedSimpArgs false
open Go.RowKit

def fieldTyB (P : Program) (s : TypeId) (i off : Nat) (ft : TypeId) : Bool :=
  match P.underlying s with
  | some (.struct fs) => match fs[i]? with
    | some f => f.offset == off && f.type == ft
    | none => false
  | _ => false
class TFldT (P : Program) (s : TypeId) (i : Nat) (off : outParam Nat) (ft : outParam TypeId) : Prop where h : fieldTyB P s i off ft = true
theorem fieldTyB_spec {P : Program} {s : TypeId} {i off : Nat} {ft : TypeId} (h : fieldTyB P s i off ft = true) : ∃ fs f, P.underlying s = some (.struct fs) ∧ fs[i]? = some f ∧ f.offset = off ∧ f.type = ft := by
  unfold fieldTyB at h
  split at h
  · rename_i fs hu
    split at h
    · rename_i f hf
      simp only [Bool.and_eq_true, beq_iff_eq] at h
      exact ⟨fs, f, hu, hf, h.1, h.2⟩
    · cases h
  · cases h

section ops
variable {P : Program} {ρ : Operand → Value} {w W0 : World} {S : List Nat} {l l' : List (Nat × Obj)} {R : Value → World → Prop} {d : Option Tmp} {ty : TypeId} {pos : String} {af : Array Edge} {g : Option (Nat × Bool)}

theorem run_part1 {t : TypeId} {cs : List Value} {off : Nat} {v : Value} (ht : oneTy P t = true) (hv : nth cs off = some v) : (part t cs.toArray off).run P w = .ok v w := by
  rw [nth_spec] at hv
  simp [part, run_isAgg_one ht, hv]
theorem run_partA {t : TypeId} {cs vs : List Value} {off n : Nat} (ht : aggTy P t n = true) (hv : seg cs off n = some vs) : (part t cs.toArray off).run P w = .ok (.agg vs.toArray) w := by
  obtain ⟨hl, hat⟩ := seg_spec _ _ _ _ hv
  have he : cs.toArray.extract off (off + n) = vs.toArray := by
    apply Array.ext'
    simp only [List.extract_toArray, List.extract_eq_take_drop, Nat.add_sub_cancel_left]
    apply List.ext_getElem?
    intro j
    by_cases hj : j < n
    · rw [List.getElem?_take, if_pos hj, List.getElem?_drop]; exact hat j hj
    · rw [List.getElem?_take, if_neg hj, List.getElem?_eq_none (by omega)]
  simp only [part, Sem.run_bind, run_isAgg_agg ht, Result.andThen_ok, if_true, run_sizeOf_agg ht, he, Sem.run_pure]
theorem o_field1 {s ft : TypeId} {x : Operand} {i off : Nat} {cs : List Value} {v : Value} (hx : ρ x = .agg cs.toArray) [hf : TFldT P s i off ft] [ht : TOne P ft] (hv : nth cs off = some v) (h : R v w) : OpTo P ⟨d, .field s x i, ty, pos, af, g⟩ ρ w R := by
  obtain ⟨fs, f, hu, hfi, rfl, rfl⟩ := fieldTyB_spec hf.h
  exact OpTo.val (v := v) (w' := w) (by simp [execOp, Instr.field, hx, run_underlying hu, hfi, asAgg, run_part1 ht.h hv]) h
theorem o_fieldA {s ft : TypeId} {x : Operand} {i off n : Nat} {cs vs : List Value} (hx : ρ x = .agg cs.toArray) [hf : TFldT P s i off ft] [ht : TAgg P ft n] (hv : seg cs off n = some vs) (h : R (.agg vs.toArray) w) : OpTo P ⟨d, .field s x i, ty, pos, af, g⟩ ρ w R := by
  obtain ⟨fs, f, hu, hfi, rfl, rfl⟩ := fieldTyB_spec hf.h
  exact OpTo.val (v := .agg vs.toArray) (w' := w) (by simp [execOp, Instr.field, hx, run_underlying hu, hfi, asAgg, run_partA ht.h hv]) h
/-- an element of an array value -/
theorem o_indexV {t e : TypeId} {x i : Operand} {k : IntKind} {j : Int} {len : Nat} {cs : List Value} {v : Value} (hx : ρ x = .agg cs.toArray) (hi : ρ i = .int k j) [ht : TU P t (.array len e)] [hs : TSz P e 1] [h1 : TOne P e] (h0 : 0 ≤ j) (hl : j < len) (hv : nth cs j.toNat = some v) (h : R v w) : OpTo P ⟨d, .index t x i, ty, pos, af, g⟩ ρ w R :=
  OpTo.val (v := v) (w' := w) (by simp [execOp, Instr.index, hx, hi, asIntOf, run_underlying ht.h, h0, hl, run_sizeOf hs.h, run_part1 h1.h hv]) h

/-! strings -/
theorem o_indexStr {t : TypeId} {x i : Operand} {k : IntKind} {j : Int} {s : ByteArray} {b : UInt8} (hx : ρ x = .string s) (hi : ρ i = .int k j) [ht : TU P t .string] (h0 : 0 ≤ j) (hv : s[j.toNat]? = some b) (h : R (.int .u8 b.toNat) w) : OpTo P ⟨d, .index t x i, ty, pos, af, g⟩ ρ w R :=
  OpTo.val (v := .int .u8 b.toNat) (w' := w) (by simp [execOp, Instr.index, hx, hi, asIntOf, run_underlying ht.h, h0, hv]) h
theorem o_addS {t t' : TypeId} {x y : Operand} {a b : ByteArray} (hx : ρ x = .string a) (hy : ρ y = .string b) (hs : a.size + b.size ≤ 9223372036854775807) (h : R (.string (a ++ b)) w) : OpTo P ⟨d, .binOp .add t x y t', ty, pos, af, g⟩ ρ w R := by
  have h' : ¬ (((a.size + b.size : Nat) : Int) > IntKind.i64.max) := by simp [IntKind.max, IntKind.signed, IntKind.bits]; omega
  exact OpTo.val (v := .string (a ++ b)) (w' := w) (by simp only [execOp, eqGuard, binOp, Op.stringOp, hx, hy, if_neg h']; simp) h
theorem o_eqlS {t t' : TypeId} {x y : Operand} {a b : ByteArray} (hx : ρ x = .string a) (hy : ρ y = .string b) (h : R (.bool (a.toList == b.toList)) w) : OpTo P ⟨d, .binOp .eql t x y t', ty, pos, af, g⟩ ρ w R :=
  OpTo.val (v := .bool (a.toList == b.toList)) (w' := w) (by simp only [execOp, eqGuard, binOp, Op.stringOp, hx, hy]; simp) h
theorem o_neqS {t t' : TypeId} {x y : Operand} {a b : ByteArray} (hx : ρ x = .string a) (hy : ρ y = .string b) (h : R (.bool !(a.toList == b.toList)) w) : OpTo P ⟨d, .binOp .neq t x y t', ty, pos, af, g⟩ ρ w R :=
  OpTo.val (v := .bool !(a.toList == b.toList)) (w' := w) (by simp only [execOp, eqGuard, binOp, Op.stringOp, hx, hy]; simp) h
/-- s[i:], s[:j], s[i:j] of a string -/
theorem o_subS {t : TypeId} {x i j : Operand} {k k' : IntKind} {m n : Int} {s : ByteArray} (hx : ρ x = .string s) (hi : ρ i = .int k m) (hj : ρ j = .int k' n) [ht : TU P t .string] (h0 : 0 ≤ m) (h1 : m ≤ n) (h2 : n ≤ s.size) (h : R (.string (s.extract m.toNat n.toNat)) w) : OpTo P ⟨d, .slice t x (some i) (some j) none, ty, pos, af, g⟩ ρ w R := by
  have h3 : 0 ≤ n := by omega
  have h4 : m ≤ (n.toNat : Int) := by omega
  exact OpTo.val (v := .string (s.extract m.toNat n.toNat)) (w' := w) (by simp [execOp, Instr.sliceAt, Instr.slice, Instr.sliceBounds, Instr.sliceBound, asIntOf, hx, hi, hj, run_underlying ht.h, h0, h2, h3, show ¬ max n 0 < m by omega]) h
theorem o_subSl {t : TypeId} {x i : Operand} {k : IntKind} {m : Int} {s : ByteArray} (hx : ρ x = .string s) (hi : ρ i = .int k m) [ht : TU P t .string] (h0 : 0 ≤ m) (h1 : m ≤ s.size) (h : R (.string (s.extract m.toNat s.size)) w) : OpTo P ⟨d, .slice t x (some i) none none, ty, pos, af, g⟩ ρ w R :=
  OpTo.val (v := .string (s.extract m.toNat s.size)) (w' := w) (by simp [execOp, Instr.sliceAt, Instr.slice, Instr.sliceBounds, Instr.sliceBound, asIntOf, hx, hi, run_underlying ht.h, h0, h1]) h
theorem o_subSh {t : TypeId} {x j : Operand} {k : IntKind} {n : Int} {s : ByteArray} (hx : ρ x = .string s) (hj : ρ j = .int k n) [ht : TU P t .string] (h0 : 0 ≤ n) (h1 : n ≤ s.size) (h : R (.string (s.extract 0 n.toNat)) w) : OpTo P ⟨d, .slice t x none (some j) none, ty, pos, af, g⟩ ρ w R :=
  OpTo.val (v := .string (s.extract 0 n.toNat)) (w' := w) (by simp [execOp, Instr.sliceAt, Instr.slice, Instr.sliceBounds, Instr.sliceBound, asIntOf, hx, hj, run_underlying ht.h, h0, h1]) h

/-! literals of structs and arrays -/
def layOf (P : Program) (t : TypeId) : Option (List (Nat × Nat)) :=
  match P.underlying t with
  | some (.struct fs) => fs.toList.mapM fun f => (P.info? f.type).map fun i => (f.offset, i.size)
  | some (.array n e) => (P.info? e).map fun i => (List.range n).map fun j => (j * i.size, i.size)
  | _ => none
/-- where the parts of a struct or an array lie, and their sizes -/
class TLay (P : Program) (t : TypeId) (pl : outParam (List (Nat × Nat))) : Prop where h : layOf P t = some pl
def nthP : List (Nat × Nat) → Nat → Option (Nat × Nat)
  | [], _ => none
  | x :: _, 0 => some x
  | _ :: xs, i + 1 => nthP xs i
theorem nthP_spec : ∀ (xs : List (Nat × Nat)) (i : Nat), nthP xs i = xs[i]?
  | [], _ => rfl
  | _ :: _, 0 => rfl
  | _ :: xs, i + 1 => by simpa [nthP] using nthP_spec xs i
/-- the cells of the literal, written in full -/
def putAll (pl : List (Nat × Nat)) : List Value → List (Nat × List Value) → Option (List Value)
  | z, [] => some z
  | z, (i, cs) :: rest => match nthP pl i with
    | some (off, size) => match Nat.beq cs.length size with
      | true => match put z off cs with
        | some z' => putAll pl z' rest
        | none => none
      | false => none
    | none => none
theorem fold_put (off : Nat) : ∀ (vs : List Value) (i : Nat) (cs : List Value), off + i + vs.length ≤ cs.length →
    (vs.zipIdx i).foldl (fun (cs : Array Value) (p : Value × Nat) => cs.setIfInBounds (off + p.2) p.1) cs.toArray = (splice cs (off + i) vs).toArray
  | [], i, cs, _ => by simp [splice]
  | v :: vs, i, cs, h => by
    have hlt : off + i < cs.length := by simp at h; omega
    have ih := fold_put off vs (i + 1) (cs.set (off + i) v) (by simp at h ⊢; omega)
    simp only [List.zipIdx_cons, List.foldl_cons, List.setIfInBounds_toArray]
    rw [ih, show off + (i + 1) = off + i + 1 by omega, splice_set _ _ _ _ hlt]
theorem fill_put {place : Nat → Option (Nat × Nat)} {pl : List (Nat × Nat)} (hp : ∀ i o, nthP pl i = some o → place i = some o) : ∀ (parts : List (Nat × List Value)) (vals : List (Nat × Value)) (z cs : List Value),
    vals.map (fun p => (p.1, p.2.cells.toList)) = parts → putAll pl z parts = some cs → Instr.fill place z.toArray vals = some cs.toArray
  | [], vals, z, cs, hv, h => by
    have : vals = [] := by simpa using hv
    subst this
    simp [putAll] at h; subst h; rfl
  | (i, us) :: parts, vals, z, cs, hv, h => by
    obtain ⟨⟨i', v⟩, vals, rfl⟩ : ∃ p r, vals = p :: r := by cases vals with | nil => simp at hv | cons p r => exact ⟨p, r, rfl⟩
    simp only [List.map_cons, List.cons.injEq, Prod.mk.injEq] at hv
    obtain ⟨⟨rfl, rfl⟩, hv⟩ := hv
    simp only [putAll] at h
    cases hn : nthP pl i' with
    | none => simp [hn] at h
    | some o =>
      obtain ⟨off, size⟩ := o
      rw [hn] at h
      simp only at h
      cases hb : Nat.beq v.cells.toList.length size with
      | false => rw [hb] at h; cases h
      | true =>
        rw [hb] at h
        simp only at h
        cases hq : put z off v.cells.toList with
        | none => simp [hq] at h
        | some z' =>
          rw [hq] at h
          simp only at h
          obtain ⟨hle, rfl⟩ := put_splice _ _ _ _ hq
          have hsz : v.cells.size = size := by simpa using Nat.eq_of_beq_eq_true hb
          have hle' : ¬ off + v.cells.size > z.length := by simpa using hle
          have hfold := fold_put off v.cells.toList 0 z (by simpa using hle)
          have hfold' : v.cells.zipIdx.foldl (fun (cs : Array Value) (p : Value × Nat) => cs.setIfInBounds (off + p.2) p.1) z.toArray = (splice z off v.cells.toList).toArray := by
            rw [← Array.foldl_toList, Array.toList_zipIdx]; simpa using hfold
          unfold Instr.fill
          simp only [hp i' _ hn]
          rw [if_neg (by simp [hsz]; omega)]
          rw [show v.cells.zipIdx.foldl (fun (cs : Array Value) (x : Value × Nat) => match x with | (c, j) => cs.setIfInBounds (off + j) c) z.toArray = (splice z off v.cells.toList).toArray from hfold']
          exact fill_put hp parts vals _ cs hv h
/-- parts' cells -/
def evP (fr : List (Nat × Value)) : List (Nat × Operand) → Option (List (Nat × List Value))
  | [] => some []
  | (i, x) :: xs => match Ev fr x, evP fr xs with
    | some (.agg cs), some r => some ((i, cs.toList) :: r)
    | some v, some r => some ((i, [v]) :: r)
    | _, _ => none
theorem run_buildL {t : TypeId} {vals : List (Nat × Value)} {parts : List (Nat × List Value)} {pl : List (Nat × Nat)} {z cs : List Value} (hl : layOf P t = some pl) (hz : zeroC P t = some z.toArray) (hv : vals.map (fun p => (p.1, p.2.cells.toList)) = parts) (hp : putAll pl z parts = some cs) :
    (Instr.build t vals.toArray).run P w = .ok (.agg cs.toArray) w := by
  obtain ⟨zv, hzc, hzr⟩ := run_zeroC (w := w) hz
  unfold layOf at hl
  cases hu : P.underlying t with
  | none => simp [hu] at hl
  | some dsc =>
    rw [hu] at hl
    cases dsc with
    | struct fs =>
      simp only at hl
      have hf := fill_put (place := fun i => pl.toArray[i]?) (pl := pl) (fun i o ho => by rw [nthP_spec] at ho; simpa using ho) parts vals z cs hv hp
      have hm := run_places (P := P) w fs.toList pl hl
      simp only [Instr.build, Sem.run_bind, hzr, Result.andThen_ok, run_underlying hu, Array.mapM_eq_mapM_toList, Sem.run_map, hzc, bind_pure_comp]
      rw [hm]
      simp only [Result.andThen_ok, hf]
      rfl
    | array n e =>
      simp only at hl
      cases hi : P.info? e with
      | none => simp [hi] at hl
      | some i =>
        simp only [hi, Option.map_some, Option.some.injEq] at hl
        have hf := fill_put (place := fun j => some (j * i.size, i.size)) (pl := pl) (fun j o ho => by
          rw [nthP_spec, ← hl] at ho
          rw [List.getElem?_map] at ho
          cases hr : (List.range n)[j]? with
          | none => simp [hr] at ho
          | some q =>
            have : q = j := by
              have := List.getElem?_eq_some_iff.1 hr
              obtain ⟨h1, h2⟩ := this
              simpa using h2.symm
            subst this
            simpa [hr] using ho) parts vals z cs hv hp
        simp only [Instr.build, Sem.run_bind, hzr, Result.andThen_ok, run_underlying hu, hzc, sizeOf, typeInfo]
        simp [hi, hf]
    | _ => simp at hl
theorem o_build {a : Act} {nn : Nat} {df : List Deferred} {fr : List (Nat × Value)} {t : TypeId} {xs : List (Nat × Operand)} {parts : List (Nat × List Value)} {pl : List (Nat × Nat)} {z cs : List Value} (F : Frm a nn df fr) [hl : TLay P t pl] [hz : TZero P t z] (hv : evP fr xs = some parts) (hp : putAll pl z parts = some cs)
    (h : R (.agg cs.toArray) w) : OpTo P ⟨d, .build t xs.toArray, ty, pos, af, g⟩ a.eval w R := by
  have hvals : ∀ (xs : List (Nat × Operand)) (parts : List (Nat × List Value)), evP fr xs = some parts → (xs.map fun (p : Nat × Operand) => (p.1, a.eval p.2)).map (fun p => (p.1, p.2.cells.toList)) = parts := by
    intro xs
    induction xs with
    | nil => intro parts h; simpa [evP] using h
    | cons p xs ih =>
      obtain ⟨i, x⟩ := p
      intro parts h
      simp only [evP] at h
      cases hx : Ev fr x with
      | none => simp [hx] at h
      | some v =>
        cases hr : evP fr xs with
        | none => cases v <;> simp [hx, hr] at h
        | some q =>
          have e := F.ev hx
          have i2 := ih q hr
          cases v <;> simp [hx, hr] at h <;> subst h <;> simp [e, Value.cells, ← i2]
  have := run_buildL (P := P) (w := w) (vals := xs.map fun (p : Nat × Operand) => (p.1, a.eval p.2)) hl.h hz.h (hvals xs parts hv) hp
  refine OpTo.val (v := .agg cs.toArray) (w' := w) ?_ h
  simp only [execOp, List.map_toArray, Sem.run_bind]
  rw [show (List.map (fun x : Nat × Operand => match x with | (i, x) => (i, a.eval x)) xs) = xs.map fun (p : Nat × Operand) => (p.1, a.eval p.2) from rfl, this]
  rfl
end ops
end Go.Proofs.YtadnpidadcgdcaaDoor

/-
  Texts joined: LibI, LibJ, LibK, LibL, Bits, LibM, NSeat, Types, LibN, LibO, LibP.
-/
import Derived.Test.YtainnefmobfcjaaAcc1
import Derived.ProofKit
import Derived.OpenShut
import Derived.WideKeyArgs
import Derived.Deep.DeepHandedRow
import Derived.Lib.LaidTab
import Derived.Deep.Slices
import Derived.Shelf.Vars
import Derived.Test.YtainnefmobfcjaaRows
import Derived.Test.YtainnefmobfcjaaProg
import Derived.KernelRfl
import Derived.Laws.MakeOwn
import Derived.Laws.IdiomStrings
/-! LibI -/
/-
  The calculus, part I: equality of arrays and structs whose parts are integers and bools.
-/
namespace Go.Proofs.Ytainnefmobfcjaa
set_option linter.unusedVariables false
set_option linter.unusedSimpArgs false
open Go.RowKit

inductive LK where
  | i (k : IntKind)
  | b
  deriving DecidableEq
def fitK : LK → Value → Bool
  | .i k, .int k' _ => decide (k = k')
  | .b, .bool _ => true
  | _, _ => false
def fitsK : List LK → List Value → Bool
  | [], [] => true
  | k :: ks, x :: xs => fitK k x && fitsK ks xs
  | _, _ => false
def eqV : Value → Value → Bool
  | .int _ a, .int _ b => a == b
  | .bool a, .bool b => a == b
  | _, _ => false
def eqVs : List Value → List Value → Bool
  | [], [] => true
  | x :: xs, y :: ys => eqV x y && eqVs xs ys
  | _, _ => false
theorem fitsK_length : ∀ {ks : List LK} {xs : List Value}, fitsK ks xs = true → xs.length = ks.length
  | [], [], _ => rfl
  | _ :: ks, _ :: xs, h => by simp only [fitsK, Bool.and_eq_true] at h; simp [fitsK_length h.2]
  | [], _ :: _, h => by cases h
  | _ :: _, [], h => by cases h
theorem fitsK_append : ∀ {ks ks' : List LK} {xs : List Value}, fitsK (ks ++ ks') xs = true → fitsK ks (xs.take ks.length) = true ∧ fitsK ks' (xs.drop ks.length) = true
  | [], ks', xs, h => by simpa [fitsK] using h
  | k :: ks, ks', [], h => by cases h
  | k :: ks, ks', x :: xs, h => by
    simp only [List.cons_append, fitsK, Bool.and_eq_true] at h
    have := fitsK_append h.2
    simp [fitsK, h.1, this]
theorem eqVs_append : ∀ (xs ys xs' ys' : List Value), xs.length = ys.length → eqVs (xs ++ xs') (ys ++ ys') = (eqVs xs ys && eqVs xs' ys')
  | [], [], _, _, _ => by simp [eqVs]
  | x :: xs, y :: ys, xs', ys', h => by simp [eqVs, eqVs_append xs ys xs' ys' (by simpa using h), Bool.and_assoc]
  | [], _ :: _, _, _, h => by simp at h
  | _ :: _, [], _, _, h => by simp at h

/-- the parts of a type, all integers and bools -/
def leafF (P : Program) (leaf : TypeId → Option (List LK)) : List Field → Nat → Option (List LK)
  | [], _ => some []
  | f :: fs, off => if f.name = "_" ∨ f.offset ≠ off then none else
    match leaf f.type with
    | some ks => if P.cellsOf f.type = ks.length then (leafF P leaf fs (off + ks.length)).map (ks ++ ·) else none
    | none => none
def leafK (P : Program) : Nat → TypeId → Option (List LK)
  | 0, _ => none
  | d + 1, t => match P.underlying t with
    | some (.int k) => some [.i k]
    | some .bool => some [.b]
    | some (.array n e) => match leafK P d e with
      | some ks => if P.cellsOf e = ks.length ∧ (P.info? e).isSome then some (List.replicate n ks).flatten else none
      | none => none
    | some (.struct fs) => if P.stoodInHeld t then none else leafF P (leafK P d) fs.toList 0
    | _ => none
def isAggT (P : Program) (t : TypeId) : Bool := match P.underlying t with | some (.struct _) | some (.array _ _) => true | _ => false
def mkT (P : Program) (t : TypeId) (xs : List Value) : Value := if isAggT P t then .agg xs.toArray else xs.headD undef

theorem take1 {xs : List Value} {off : Nat} (h : off < xs.length) : List.take 1 (List.drop off xs) = [xs[off]] := by
  rw [List.drop_eq_getElem_cons h, List.take_succ_cons, List.take_zero]

section
variable {P : Program}
theorem run_part_mk {w : World} {d : Nat} {e : TypeId} {ks : List LK} {xs : List Value} {off : Nat} (hk : leafK P d e = some ks) (hc : P.cellsOf e = ks.length) (hle : off + ks.length ≤ xs.length) :
    (part e xs.toArray off).run P w = .ok (mkT P e ((xs.drop off).take ks.length)) w := by
  cases d with
  | zero => simp [leafK] at hk
  | succ d =>
    unfold leafK at hk
    cases hu : P.underlying e with
    | none => simp [hu] at hk
    | some dsc =>
      rw [hu] at hk
      have hinfo : ∃ i, P.info? e = some i := info_of_underlying hu
      obtain ⟨i, hi⟩ := hinfo
      have hs : i.size = ks.length := by rw [← hc]; simp [Program.cellsOf, hi]
      have hex : xs.toArray.extract off (off + ks.length) = ((xs.drop off).take ks.length).toArray := by
        apply Array.ext'; simp [List.extract_eq_take_drop]
      cases dsc with
      | int k =>
        simp at hk; subst hk
        simp only [List.length_cons, List.length_nil] at hle ⊢
        have hlt : off < xs.length := by omega
        simp only [part, isAgg, Sem.run_bind, run_underlying hu, Result.andThen_ok, mkT, isAggT, hu]
        simp [hlt, take1 hlt]
      | bool =>
        simp at hk; subst hk
        simp only [List.length_cons, List.length_nil] at hle ⊢
        have hlt : off < xs.length := by omega
        simp only [part, isAgg, Sem.run_bind, run_underlying hu, Result.andThen_ok, mkT, isAggT, hu]
        simp [hlt, take1 hlt]
      | array n e' => simp only [part, isAgg, sizeOf, typeInfo, Sem.run_bind, run_underlying hu, Result.andThen_ok, mkT, isAggT, hu, run_program, Sem.run_pure, if_true]; simp [hi, hs, hex]
      | struct fs => simp only [part, isAgg, sizeOf, typeInfo, Sem.run_bind, run_underlying hu, Result.andThen_ok, mkT, isAggT, hu, run_program, Sem.run_pure, if_true]; simp [hi, hs, hex]
      | _ => simp at hk

theorem fits_flat : ∀ (n : Nat) (ks : List LK) (xs : List Value), fitsK (List.replicate n ks).flatten xs = true → xs.length = n * ks.length ∧ ∀ j, j < n → fitsK ks ((xs.drop (j * ks.length)).take ks.length) = true
  | 0, ks, xs, h => by
    have := fitsK_length h
    exact ⟨by simpa using this, fun j hj => by omega⟩
  | n + 1, ks, xs, h => by
    simp only [List.replicate_succ, List.flatten_cons] at h
    obtain ⟨h1, h2⟩ := fitsK_append h
    obtain ⟨h3, h4⟩ := fits_flat n ks _ h2
    have hl := fitsK_length h
    refine ⟨by simp at hl; rw [hl]; simp [Nat.add_mul, Nat.add_comm], fun j hj => ?_⟩
    cases j with
    | zero => simpa using h1
    | succ j =>
      have := h4 j (by omega)
      rw [List.drop_drop] at this
      rwa [show (j + 1) * ks.length = ks.length + j * ks.length by rw [Nat.add_mul]; omega]

theorem equal_leaf : ∀ (d : Nat) (t : TypeId) (ks : List LK), leafK P d t = some ks → ∀ (e : Nat) (w : World) (xs ys : List Value), fitsK ks xs = true → fitsK ks ys = true →
    (Op.equalIn (e + d) t (mkT P t xs) (mkT P t ys)).run P w = .ok (eqVs xs ys) w
  | 0, _, _, h => by simp [leafK] at h
  | d + 1, t, ks, hk => by
    intro e w xs ys hx hy
    have hk0 := hk
    unfold leafK at hk
    cases hu : P.underlying t with
    | none => simp [hu] at hk
    | some dsc =>
      rw [hu] at hk
      cases dsc with
      | int k =>
        simp at hk; subst hk
        obtain ⟨x, rfl⟩ : ∃ x, xs = [.int k x] := by
          match xs, hx with
          | [.int k' x], h => simp [fitsK, fitK] at h; subst h; exact ⟨x, rfl⟩
          | .int _ _ :: _ :: _, h => simp [fitsK] at h
        obtain ⟨y, rfl⟩ : ∃ y, ys = [.int k y] := by
          match ys, hy with
          | [.int k' y], h => simp [fitsK, fitK] at h; subst h; exact ⟨y, rfl⟩
          | .int _ _ :: _ :: _, h => simp [fitsK] at h
        simp only [mkT, isAggT, hu, Bool.false_eq_true, if_false, List.headD_cons]
        rw [show e + (d + 1) = (e + d) + 1 by omega, run_equalIn_int w (e + d) t k k x y hu]
        simp [eqVs, eqV]
      | bool =>
        simp at hk; subst hk
        obtain ⟨x, rfl⟩ : ∃ x, xs = [.bool x] := by
          match xs, hx with
          | [.bool x], _ => exact ⟨x, rfl⟩
        obtain ⟨y, rfl⟩ : ∃ y, ys = [.bool y] := by
          match ys, hy with
          | [.bool y], _ => exact ⟨y, rfl⟩
        simp only [mkT, isAggT, hu, Bool.false_eq_true, if_false, List.headD_cons]
        rw [show e + (d + 1) = (e + d) + 1 by omega, run_equalIn_bool' w (e + d) t x y hu]
        simp [eqVs, eqV]
      | array n el =>
        simp only at hk
        cases hke : leafK P d el with
        | none => simp [hke] at hk
        | some ke =>
          rw [hke] at hk
          simp only at hk
          split at hk
          · rename_i hc
            simp only [Option.some.injEq] at hk
            subst hk
            obtain ⟨i, hi⟩ := Option.isSome_iff_exists.1 hc.2
            obtain ⟨lx, fx⟩ := fits_flat _ _ _ hx
            obtain ⟨ly, fy⟩ := fits_flat _ _ _ hy
            simp only [mkT, isAggT, hu, if_true]
            rw [show e + (d + 1) = (e + d) + 1 by omega, run_equalIn_array w (e + d) _ _ hu hi]
            have key : ∀ (m j : Nat), j + m = n → (Op.eqItems (e + d) el (P.cellsOf el) xs.toArray ys.toArray (List.range' j m)).run P w = .ok (eqVs (xs.drop (j * ke.length)) (ys.drop (j * ke.length))) w := by
              intro m
              induction m with
              | zero =>
                intro j hj
                have h1 : xs.drop (j * ke.length) = [] := List.drop_eq_nil_of_le (by rw [lx]; exact Nat.le_of_eq (by rw [show j = n by omega]))
                have h2 : ys.drop (j * ke.length) = [] := List.drop_eq_nil_of_le (by rw [ly]; exact Nat.le_of_eq (by rw [show j = n by omega]))
                simp [Op.eqItems, h1, h2, eqVs]
              | succ m ih =>
                intro j hj
                have hjn : j < n := by omega
                have hmul : j * ke.length + ke.length ≤ n * ke.length := by
                  rw [show j * ke.length + ke.length = (j + 1) * ke.length by rw [Nat.add_mul]; omega]
                  exact Nat.mul_le_mul_right _ (by omega)
                rw [List.range'_succ]
                simp only [Op.eqItems, Sem.run_bind, hc.1, run_part_mk (w := w) hke hc.1 (show j * ke.length + ke.length ≤ xs.length by omega), run_part_mk (w := w) hke hc.1 (show j * ke.length + ke.length ≤ ys.length by omega), Result.andThen_ok, equal_leaf d el ke hke e w _ _ (fx j hjn) (fy j hjn)]
                have hih := ih (j + 1) (by omega)
                rw [hc.1] at hih
                have e1 : eqVs (xs.drop (j * ke.length)) (ys.drop (j * ke.length)) = (eqVs ((xs.drop (j * ke.length)).take ke.length) ((ys.drop (j * ke.length)).take ke.length) && eqVs (xs.drop ((j + 1) * ke.length)) (ys.drop ((j + 1) * ke.length))) := by
                  rw [← eqVs_append _ _ _ _ (by simp [lx, ly])]
                  rw [show (j + 1) * ke.length = j * ke.length + ke.length by rw [Nat.add_mul]; omega, ← List.drop_drop, ← List.drop_drop, List.take_append_drop, List.take_append_drop]
                rw [e1]
                cases eqVs ((xs.drop (j * ke.length)).take ke.length) ((ys.drop (j * ke.length)).take ke.length)
                · simp
                · simpa using hih
            have := key n 0 (by omega)
            simpa [List.range_eq_range'] using this
          · cases hk
      | struct fs =>
        simp only at hk
        split at hk
        · cases hk
        · rename_i hp
          have hp' : P.stoodInHeld t = false := by simpa using hp
          have hfs : P.fieldsOf t = fs := by simp [Program.fieldsOf, hu]
          simp only [mkT, isAggT, hu, if_true]
          rw [show e + (d + 1) = (e + d) + 1 by omega, run_equalIn_struct w (e + d) t _ _ (by rw [hfs]; exact hu) hp', hfs]
          have key : ∀ (l : List Field) (off : Nat) (ks : List LK), leafF P (leafK P d) l off = some ks → fitsK ks (xs.drop off) = true → fitsK ks (ys.drop off) = true → off ≤ xs.length → off ≤ ys.length →
              (Op.eqFields (e + d) xs.toArray ys.toArray l).run P w = .ok (eqVs (xs.drop off) (ys.drop off)) w := by
            intro l
            induction l with
            | nil =>
              intro off ks hl hx hy _ _
              simp only [leafF, Option.some.injEq] at hl
              subst hl
              have h1 := fitsK_length hx
              have h2 := fitsK_length hy
              have h1' : xs.drop off = [] := List.length_eq_zero_iff.1 (by simpa using h1)
              have h2' : ys.drop off = [] := List.length_eq_zero_iff.1 (by simpa using h2)
              simp [Op.eqFields, h1', h2', eqVs]
            | cons f l ih =>
              intro off ks hl hx hy ox oy
              simp only [leafF] at hl
              split at hl
              · cases hl
              · rename_i hno
                have hname : f.name ≠ "_" := fun h => hno (.inl h)
                have hoff : f.offset = off := Classical.byContradiction fun h => hno (.inr h)
                cases hkf : leafK P d f.type with
                | none => simp [hkf] at hl
                | some kf =>
                  rw [hkf] at hl
                  simp only at hl
                  split at hl
                  · rename_i hc
                    cases hr : leafF P (leafK P d) l (off + kf.length) with
                    | none => simp [hr] at hl
                    | some kr =>
                      simp only [hr, Option.map_some, Option.some.injEq] at hl
                      subst hl
                      obtain ⟨x1, x2⟩ := fitsK_append hx
                      obtain ⟨y1, y2⟩ := fitsK_append hy
                      have lx := fitsK_length x1
                      have ly := fitsK_length y1
                      simp only [List.length_take, List.length_drop] at lx ly
                      rw [List.drop_drop] at x2 y2
                      have hih := ih (off + kf.length) kr hr x2 y2 (by omega) (by omega)
                      simp only [Op.eqFields, ne_eq, hname, not_false_eq_true, if_true, Sem.run_bind, hoff, run_part_mk (w := w) hkf hc (show off + kf.length ≤ xs.length by omega), run_part_mk (w := w) hkf hc (show off + kf.length ≤ ys.length by omega), Result.andThen_ok, equal_leaf d f.type kf hkf e w _ _ x1 y1]
                      have e1 : eqVs (xs.drop off) (ys.drop off) = (eqVs ((xs.drop off).take kf.length) ((ys.drop off).take kf.length) && eqVs (xs.drop (off + kf.length)) (ys.drop (off + kf.length))) := by
                        rw [← eqVs_append _ _ _ _ (by simp; omega), ← List.drop_drop, ← List.drop_drop, List.take_append_drop, List.take_append_drop]
                      rw [e1]
                      cases eqVs ((xs.drop off).take kf.length) ((ys.drop off).take kf.length)
                      · simp
                      · simpa using hih
                  · cases hl
          have := key fs.toList 0 ks hk (by simpa using hx) (by simpa using hy) (Nat.zero_le _) (Nat.zero_le _)
          simpa using this
      | _ => simp at hk

/-- a type whose parts are integers and bools, and that holds no interface -/
def eqB (P : Program) (t : TypeId) (ks : List LK) : Bool := decide (leafK P 8 t = some ks) && isAggT P t && !P.eqGuardType P.depth t
class TEq (P : Program) (t : TypeId) (ks : outParam (List LK)) : Prop where h : eqB P t ks = true
variable {ρ : Operand → Value} {w : World} {R : Value → World → Prop} {d : Option Tmp} {ty : TypeId} {pos : String} {af : Array Edge} {g : Option (Nat × Bool)}
theorem o_eqlA {t t' : TypeId} {x y : Operand} {ks : List LK} {xs ys : List Value} [ht : TEq P t ks] (hx : ρ x = .agg xs.toArray) (hy : ρ y = .agg ys.toArray) (fx : fitsK ks xs = true) (fy : fitsK ks ys = true) (h : R (.bool (eqVs xs ys)) w) : OpTo P ⟨d, .binOp .eql t x y t', ty, pos, af, g⟩ ρ w R := by
  have hh := ht.h
  simp only [eqB, Bool.and_eq_true, decide_eq_true_eq, Bool.not_eq_true'] at hh
  have he := equal_leaf 8 t ks hh.1.1 9992 w xs ys fx fy
  simp only [mkT, hh.1.2, if_true] at he
  refine OpTo.val (v := .bool (eqVs xs ys)) (w' := w) ?_ h
  simp only [execOp, hx, hy, Sem.run_bind, run_eqGuard_agg w .eql t x y _ _ hh.2, Result.andThen_ok, run_eql_struct]
  rw [he]
  rfl
theorem o_neqA {t t' : TypeId} {x y : Operand} {ks : List LK} {xs ys : List Value} [ht : TEq P t ks] (hx : ρ x = .agg xs.toArray) (hy : ρ y = .agg ys.toArray) (fx : fitsK ks xs = true) (fy : fitsK ks ys = true) (h : R (.bool !(eqVs xs ys)) w) : OpTo P ⟨d, .binOp .neq t x y t', ty, pos, af, g⟩ ρ w R := by
  have hh := ht.h
  simp only [eqB, Bool.and_eq_true, decide_eq_true_eq, Bool.not_eq_true'] at hh
  have he := equal_leaf 8 t ks hh.1.1 9992 w xs ys fx fy
  simp only [mkT, hh.1.2, if_true] at he
  refine OpTo.val (v := .bool !(eqVs xs ys)) (w' := w) ?_ h
  simp only [execOp, hx, hy, Sem.run_bind, run_eqGuard_agg w .neq t x y _ _ hh.2, Result.andThen_ok, run_neq_struct]
  rw [he]
  rfl
end
end Go.Proofs.Ytainnefmobfcjaa

/-! LibJ -/
/-
  The calculus, part J: literals of slices, parts of slices and arrays, make, copy, bytes and strings.
-/
namespace Go.Proofs.Ytainnefmobfcjaa
set_option linter.unusedVariables false
set_option linter.unusedSimpArgs false
open Go.RowKit

section
variable {P : Program} {ρ : Operand → Value} {w W0 : World} {S : List Nat} {l l' : List (Nat × Obj)} {R : Value → World → Prop} {d : Option Tmp} {ty : TypeId} {pos : String} {af : Array Edge} {g : Option (Nat × Bool)}

/-- the cells of a slice's literal ahead of its parts -/
def zerosL (zs : List Value) (n : Nat) : List Value := (List.range n).map fun i => zs.getD (i % zs.length) undef
def placesL (len sz : Nat) : List (Nat × Nat) := (List.range len).map fun j => (j * sz, sz)
theorem o_buildSlice {a : Act} {nn : Nat} {df : List Deferred} {fr : List (Nat × Value)} {t e : TypeId} {len sz : Nat} {xs : List (Nat × Operand)} {parts : List (Nat × List Value)} {zs cs : List Value} (F : Frm a nn df fr) (M : Mem S W0 w l) [ht : TU P t (.slice e)] [hs : TSz P e sz] [hz : TZero P e zs] (hv : evP fr xs = some parts)
    (hle : Nat.ble (len * sz) 16777216 = true) (hzl : Nat.beq zs.length sz = true) (hp : putAll (placesL len sz) (zerosL zs (len * sz)) parts = some cs)
    (h : ∀ b w', Mem S W0 w' ((b, .cells cs.toArray e (0, 0)) :: l) → R (.slice (some ⟨b, 0, none⟩) len len) w') : OpTo P ⟨d, .buildSlice t len xs.toArray, ty, pos, af, g⟩ a.eval w R := by
  have hvals : ∀ (xs : List (Nat × Operand)) (parts : List (Nat × List Value)), evP fr xs = some parts → (xs.map fun (p : Nat × Operand) => (p.1, a.eval p.2)).map (fun p => (p.1, p.2.cells.toList)) = parts := by
    intro xs
    induction xs with
    | nil => intro parts h; simpa [evP] using h
    | cons p xs ih =>
      obtain ⟨i, x⟩ := p
      intro parts h
      simp only [evP] at h
      cases hx : Ev fr x with
      | none => simp [hx] at h
      | some v =>
        cases hr : evP fr xs with
        | none => cases v <;> simp [hx, hr] at h
        | some q =>
          have e := F.ev hx
          have i2 := ih q hr
          cases v <;> simp [hx, hr] at h <;> subst h <;> simp [e, Value.cells, ← i2]
  obtain ⟨z, hzc, hzr⟩ := run_zeroC (w := w) hz.h
  have hzl' : zs.length = sz := Nat.eq_of_beq_eq_true hzl
  have hf := fill_put (place := fun i => some (i * sz, sz)) (pl := placesL len sz) (fun j o ho => by
    rw [nthP_spec, placesL, List.getElem?_map] at ho
    cases hr : (List.range len)[j]? with
    | none => simp [hr] at ho
    | some q =>
      have : q = j := by
        obtain ⟨h1, h2⟩ := List.getElem?_eq_some_iff.1 hr
        simpa using h2.symm
      subst this
      simpa [hr] using ho) parts (xs.map fun (p : Nat × Operand) => (p.1, a.eval p.2)) (zerosL zs (len * sz)) cs (hvals xs parts hv) hp
  have hle' : ¬ (len * sz > 2 ^ 24) := by have := Nat.le_of_ble_eq_true hle; omega
  have hzero : (Array.range (len * sz)).map (fun i => zs.toArray[i % zs.toArray.size]!) = (zerosL zs (len * sz)).toArray := by
    apply Array.ext'
    simp only [Array.toList_map, Array.toList_range, zerosL]
    refine List.map_congr_left fun i hi => ?_
    have hi' : i < len * sz := List.mem_range.1 hi
    have hpos : 0 < sz := by
      rcases Nat.eq_zero_or_pos sz with h0 | h0
      · rw [h0, Nat.mul_zero] at hi'; omega
      · exact h0
    have hlt : i % zs.length < zs.length := Nat.mod_lt _ (by omega)
    simp [hlt]
  refine OpTo.val (v := .slice (some ⟨w.heap.size, 0, none⟩) len len) (w' := w.alloc (.cells cs.toArray e)) ?_ (h _ _ (M.alloc _))
  simp only [execOp, List.map_toArray, Sem.run_bind]
  rw [show (List.map (fun x : Nat × Operand => match x with | (i, x) => (i, a.eval x)) xs) = xs.map fun (p : Nat × Operand) => (p.1, a.eval p.2) from rfl]
  by_cases h0 : len * sz = 0
  · have hz0 : zerosL zs (len * sz) = [] := by rw [h0]; rfl
    rw [hz0] at hf
    have hr0 : (Array.map (fun (_ : Nat) => (default : Value)) (Array.range 0)) = #[] := by simp
    simp [Instr.buildSlice, run_underlying ht.h, run_sizeOf hs.h, h0, hr0, hf, newRow]
  · simp only [Instr.buildSlice, Sem.run_bind, run_underlying ht.h, Result.andThen_ok, run_sizeOf hs.h, if_neg hle', if_neg h0, hzr, Sem.run_pure, hzc, hzero, hf]
    simp [newRow]

/-! parts of an array behind a pointer: a[:], a[i:], a[i:j] with known bounds -/
theorem o_arrAll {t e : TypeId} {x : Operand} {b o n : Nat} (hx : ρ x = .pointer (some ⟨b, o, none⟩)) [ht : TU P t (.array n e)] {sz : Nat} [hs : TSz P e sz] (h : R (.slice (some ⟨b, o, none⟩) n n) w) : OpTo P ⟨d, .slice t x none none none, ty, pos, af, g⟩ ρ w R :=
  OpTo.val (v := .slice (some ⟨b, o, none⟩) n n) (w' := w) (by simp [execOp, Instr.sliceAt, Instr.sureAddr, Instr.sliceBounds, hx, run_underlying ht.h, run_sizeOf hs.h, addr_add]) h
theorem o_arrL {t e : TypeId} {x i : Operand} {k : IntKind} {b o n : Nat} {m : Int} (hx : ρ x = .pointer (some ⟨b, o, none⟩)) (hi : ρ i = .int k m) [ht : TU P t (.array n e)] {sz : Nat} [hs : TSz P e sz] (h0 : 0 ≤ m) (h1 : m < n) (h : R (.slice (some ⟨b, o + m.toNat * sz, none⟩) (n - m.toNat) (n - m.toNat)) w) : OpTo P ⟨d, .slice t x (some i) none none, ty, pos, af, g⟩ ρ w R := by
  have h2 : m ≤ n := by omega
  have h3 : ¬ n = m.toNat := by omega
  exact OpTo.val (v := .slice (some ⟨b, o + m.toNat * sz, none⟩) (n - m.toNat) (n - m.toNat)) (w' := w) (by simp [execOp, Instr.sliceAt, Instr.sureAddr, Instr.sliceBounds, Instr.sliceBound, asIntOf, hx, hi, run_underlying ht.h, run_sizeOf hs.h, h0, h2, h3, addr_add]) h
/-- x[i:j] of a slice, i below its capacity -/
theorem o_slLH {t e : TypeId} {x i j : Operand} {k k' : IntKind} {b o len cap : Nat} {m n : Int} (hx : ρ x = .slice (some ⟨b, o, none⟩) len cap) (hi : ρ i = .int k m) (hj : ρ j = .int k' n) [ht : TU P t (.slice e)] {sz : Nat} [hs : TSz P e sz] (h0 : 0 ≤ m) (h1 : m ≤ n) (h2 : n ≤ cap) (h3 : m < cap) (h : R (.slice (some ⟨b, o + m.toNat * sz, none⟩) (n.toNat - m.toNat) (cap - m.toNat)) w) : OpTo P ⟨d, .slice t x (some i) (some j) none, ty, pos, af, g⟩ ρ w R := by
  have h4 : 0 ≤ n := by omega
  have h5 : ¬ max n 0 < m := by omega
  have h6 : ¬ cap = m.toNat := by omega
  exact OpTo.val (v := .slice (some ⟨b, o + m.toNat * sz, none⟩) (n.toNat - m.toNat) (cap - m.toNat)) (w' := w) (by simp [execOp, Instr.sliceAt, Instr.slice, Instr.sliceBounds, Instr.sliceBound, asIntOf, hx, hi, hj, run_underlying ht.h, run_sizeOf hs.h, h0, h2, h4, h5, h6, addr_add]) h
/-- x[:j] of a slice -/
theorem o_slH {t e : TypeId} {x j : Operand} {k' : IntKind} {p : Option Addr} {len cap : Nat} {n : Int} (hx : ρ x = .slice p len cap) (hj : ρ j = .int k' n) [ht : TU P t (.slice e)] {sz : Nat} [hs : TSz P e sz] (hp : ∀ a : Addr, p = some a → True) (h0 : 0 ≤ n) (h2 : n ≤ cap) (h : R (.slice p n.toNat cap) w) : OpTo P ⟨d, .slice t x none (some j) none, ty, pos, af, g⟩ ρ w R := by
  have e1 : (if cap = 0 then p else p.map (·.add (0 * sz))) = p := by
    cases p with
    | none => simp
    | some a => simp [Addr.add]
  exact OpTo.val (v := .slice p n.toNat cap) (w' := w) (by simp [execOp, Instr.sliceAt, Instr.slice, Instr.sliceBounds, Instr.sliceBound, asIntOf, hx, hj, run_underlying ht.h, run_sizeOf hs.h, h0, h2, Addr.add]) h

/-! bytes and strings -/
theorem o_convBS {s t e : TypeId} {x : Operand} {b off len cap : Nat} {cs : List Value} {t' : TypeId} {fz : Nat × Nat} {xs : List Int} (M : Mem S W0 w l) (hx : ρ x = .slice (some ⟨b, off, none⟩) len cap) [hs : TU P s (.slice e)] [he : TU P e (.int .u8)] [ht : TU P t .string] (hb : Has l b (.cells cs.toArray t' fz)) (hv : seg cs off len = some (xs.map (Value.int .u8)))
    (h : R (.string (strOfNums xs)) w) : OpTo P ⟨d, .convert s t x, ty, pos, af, g⟩ ρ w R := by
  obtain ⟨hl, hat⟩ := seg_spec _ _ _ _ hv
  simp only [List.length_map] at hl
  have := run_convert_bytes_arg (P := P) w s e hs.h he.h b off len cap xs hl (fun i hi => by
    refine cell_at (M.heap hb) ?_
    have := hat i hi
    simp only [List.getElem?_toArray]
    rw [this]
    simp [List.getElem?_eq_getElem (show i < xs.length by omega)]) t ht.h
  exact OpTo.val (v := .string (strOfNums xs)) (w' := w) (by simp [execOp, hx, this]) h
theorem o_convNS {s t e : TypeId} {x : Operand} {len cap : Nat} (hx : ρ x = .slice none len cap) [hs : TU P s (.slice e)] [he : TU P e (.int .u8)] [ht : TU P t .string]
    (h : R (.string .empty) w) : OpTo P ⟨d, .convert s t x, ty, pos, af, g⟩ ρ w R :=
  OpTo.val (v := .string .empty) (w' := w) (by simp [execOp, hx, run_convert_bytes_nil w s e hs.h he.h len cap t ht.h]) h
/-- bytes that the call has made itself, as a string -/
theorem o_convOS {s t e : TypeId} {x : Operand} {v : Value} {n : Nat} {xs : List Int} {ent : List (Nat × Obj)} {f : List (Nat × Obj) → List (Nat × Obj)} (hO : OwnS e 1 v n (xs.map (Value.int .u8)) ent) (M : Mem S W0 w l) (hl : TailAt ent l f) (hx : ρ x = v) [hs : TU P s (.slice e)] [he : TU P e (.int .u8)] [ht : TU P t .string]
    (h : R (.string (strOfNums xs)) w) : OpTo P ⟨d, .convert s t x, ty, pos, af, g⟩ ρ w R := by
  obtain ⟨lr, rfl, _⟩ := hl.spec
  rcases hO with ⟨rfl, rfl, hxs, rfl⟩ | ⟨b, cap, junk, rfl, rfl, hxl, _, _⟩
  · have : xs = [] := by simpa using hxs
    subst this
    exact o_convNS hx h
  · refine o_convBS (xs := xs) (b := b) (off := 0) (cs := xs.map (Value.int .u8) ++ junk) M hx ((Upd.here (o' := .deferred none) (l := [])).append lr).has ?_ h
    have := seg_of [] (xs.map (Value.int .u8)) junk
    simp only [List.nil_append, List.length_nil] at this
    rw [show (xs.map (Value.int .u8)).length = n by simpa using hxl] at this
    exact this
end
end Go.Proofs.Ytainnefmobfcjaa

/-! LibK -/
/-
  The calculus, part K: tests that are decided; a cut.
-/
namespace Go.Proofs.Ytainnefmobfcjaa
set_option linter.unusedVariables false
set_option linter.unusedSimpArgs false
open Go.RowKit

section
variable {P : Program} {ρ : Operand → Value} {w : World} {R : Value → World → Prop} {d : Option Tmp} {ty : TypeId} {pos : String} {af : Array Edge} {g : Option (Nat × Bool)} {t t' : TypeId} {x y : Operand} {k : IntKind} {m n : Int}
theorem o_lssT (hx : ρ x = .int k m) (hy : ρ y = .int k n) (hc : m < n) (h : R (.bool true) w) : OpTo P ⟨d, .binOp .lss t x y t', ty, pos, af, g⟩ ρ w R := o_lss hx hy (by rw [decide_eq_true hc]; exact h)
theorem o_lssF (hx : ρ x = .int k m) (hy : ρ y = .int k n) (hc : ¬ m < n) (h : R (.bool false) w) : OpTo P ⟨d, .binOp .lss t x y t', ty, pos, af, g⟩ ρ w R := o_lss hx hy (by rw [decide_eq_false hc]; exact h)
theorem o_leqT (hx : ρ x = .int k m) (hy : ρ y = .int k n) (hc : m ≤ n) (h : R (.bool true) w) : OpTo P ⟨d, .binOp .leq t x y t', ty, pos, af, g⟩ ρ w R := o_leq hx hy (by rw [decide_eq_true hc]; exact h)
theorem o_leqF (hx : ρ x = .int k m) (hy : ρ y = .int k n) (hc : ¬ m ≤ n) (h : R (.bool false) w) : OpTo P ⟨d, .binOp .leq t x y t', ty, pos, af, g⟩ ρ w R := o_leq hx hy (by rw [decide_eq_false hc]; exact h)
theorem o_gtrT (hx : ρ x = .int k m) (hy : ρ y = .int k n) (hc : n < m) (h : R (.bool true) w) : OpTo P ⟨d, .binOp .gtr t x y t', ty, pos, af, g⟩ ρ w R := o_gtr hx hy (by rw [decide_eq_true hc]; exact h)
theorem o_gtrF (hx : ρ x = .int k m) (hy : ρ y = .int k n) (hc : ¬ n < m) (h : R (.bool false) w) : OpTo P ⟨d, .binOp .gtr t x y t', ty, pos, af, g⟩ ρ w R := o_gtr hx hy (by rw [decide_eq_false hc]; exact h)
theorem o_geqT (hx : ρ x = .int k m) (hy : ρ y = .int k n) (hc : n ≤ m) (h : R (.bool true) w) : OpTo P ⟨d, .binOp .geq t x y t', ty, pos, af, g⟩ ρ w R := o_geq hx hy (by rw [decide_eq_true hc]; exact h)
theorem o_geqF (hx : ρ x = .int k m) (hy : ρ y = .int k n) (hc : ¬ n ≤ m) (h : R (.bool false) w) : OpTo P ⟨d, .binOp .geq t x y t', ty, pos, af, g⟩ ρ w R := o_geq hx hy (by rw [decide_eq_false hc]; exact h)
theorem o_eqlT (hx : ρ x = .int k m) (hy : ρ y = .int k n) (hc : m = n) (h : R (.bool true) w) : OpTo P ⟨d, .binOp .eql t x y t', ty, pos, af, g⟩ ρ w R := o_eql hx hy (by rw [beq_iff_eq.2 hc]; exact h)
theorem o_eqlF (hx : ρ x = .int k m) (hy : ρ y = .int k n) (hc : ¬ m = n) (h : R (.bool false) w) : OpTo P ⟨d, .binOp .eql t x y t', ty, pos, af, g⟩ ρ w R := o_eql hx hy (by rw [beq_eq_false_iff_ne.2 hc]; exact h)
theorem o_neqT (hx : ρ x = .int k m) (hy : ρ y = .int k n) (hc : ¬ m = n) (h : R (.bool true) w) : OpTo P ⟨d, .binOp .neq t x y t', ty, pos, af, g⟩ ρ w R := o_neq hx hy (by rw [bne_iff_ne.2 hc]; exact h)
theorem o_neqF (hx : ρ x = .int k m) (hy : ρ y = .int k n) (hc : m = n) (h : R (.bool false) w) : OpTo P ⟨d, .binOp .neq t x y t', ty, pos, af, g⟩ ρ w R := o_neq hx hy (by rw [show (m != n) = false by simp [hc]]; exact h)
end

/-- The code is left off its end, and of the frame and the memory this is known. -/
def Only (I : Act → World → Prop) : Exit → Act → World → Prop
  | .normal, a, w => I a w
  | _, _, _ => False
theorem c_cut {P : Program} {r : Option Nat} {c : Code} {Q : Exit → Act → World → Prop} {a : Act} {w : World} (I : Act → World → Prop) (h : Wp r P c (Only I) a w) (k : ∀ a' w', I a' w' → Q .normal a' w') : Wp r P c Q a w :=
  wpIn_mono h fun e a' w' hq => by cases e <;> first | exact k a' w' hq | exact hq.elim
theorem q_only {I : Act → World → Prop} {a : Act} {w : World} (h : I a w) : Only I .normal a w := h
/-- .. or by a return. -/
def CutQ (I : Act → World → Prop) (Q : Exit → Act → World → Prop) : Exit → Act → World → Prop
  | .normal, a, w => I a w
  | e, a, w => Q e a w
theorem c_cutR {P : Program} {r : Option Nat} {c : Code} {Q : Exit → Act → World → Prop} {a : Act} {w : World} (I : Act → World → Prop) (h : Wp r P c (CutQ I Q) a w) (k : ∀ a' w', I a' w' → Q .normal a' w') : Wp r P c Q a w :=
  wpIn_mono h fun e a' w' hq => by cases e <;> first | exact k a' w' hq | exact hq
theorem q_cutR {I : Act → World → Prop} {Q : Exit → Act → World → Prop} {a : Act} {w : World} (h : Q .ret a w) : CutQ I Q .ret a w := h
end Go.Proofs.Ytainnefmobfcjaa

/-! LibL -/
/-
  The calculus, part L: strings as lists of bytes.
-/
namespace Go.Proofs.Ytainnefmobfcjaa
set_option linter.unusedVariables false
set_option linter.unusedSimpArgs false
open Go.RowKit

/-- the string of a list of bytes -/
abbrev mkS (bs : List UInt8) : Value := .string ⟨bs.toArray⟩
theorem mkS_size (bs : List UInt8) : (⟨bs.toArray⟩ : ByteArray).size = bs.length := by simp [ByteArray.size]
theorem mkS_toList (bs : List UInt8) : (⟨bs.toArray⟩ : ByteArray).toList = bs := by rw [ByteArray.toList_eq]
theorem mkS_extract (bs : List UInt8) (i j : Nat) : (⟨bs.toArray⟩ : ByteArray).extract i j = ⟨((bs.drop i).take (j - i)).toArray⟩ := by
  apply ByteArray.ext
  rw [ByteArray.data_extract]
  apply Array.ext'
  simp [List.extract_eq_take_drop]
theorem mkS_append (xs ys : List UInt8) : (⟨xs.toArray⟩ ++ ⟨ys.toArray⟩ : ByteArray) = ⟨(xs ++ ys).toArray⟩ := by
  apply ByteArray.ext
  simp
theorem mkS_get {bs : List UInt8} {i : Nat} (h : i < bs.length) : (⟨bs.toArray⟩ : ByteArray)[i]? = some bs[i] := by
  rw [getElem?_pos _ _ (by simpa [ByteArray.size] using h)]
  rfl
theorem byte_lt (b : UInt8) : 0 ≤ (b.toNat : Int) ∧ (b.toNat : Int) ≤ 255 := by have := b.toNat_lt; omega

section
variable {P : Program} {ρ : Operand → Value} {w : World} {R : Value → World → Prop} {d : Option Tmp} {ty : TypeId} {pos : String} {af : Array Edge} {g : Option (Nat × Bool)} {t t' : TypeId} {x y i j : Operand} {k k' : IntKind} {m n : Int} {bs cs : List UInt8}
theorem s_len (hx : ρ x = mkS bs) [ht : TU P t .string] (h : R (.int .i64 bs.length) w) : OpTo P ⟨d, .call ⟨.builtin .len, #[x], #[t]⟩, ty, pos, af, g⟩ ρ w R := o_lenStr hx (by rw [mkS_size]; exact h)
theorem s_idx {q : Nat} (hx : ρ x = mkS bs) (hi : ρ i = .int k m) [ht : TU P t .string] (hq : m = q) (hl : q < bs.length) (h : R (.int .u8 (bs[q]).toNat) w) : OpTo P ⟨d, .index t x i, ty, pos, af, g⟩ ρ w R := by
  subst hq
  exact o_indexStr hx hi (by omega) (by simpa using mkS_get hl) h
theorem s_add (hx : ρ x = mkS bs) (hy : ρ y = mkS cs) (hs : bs.length + cs.length ≤ 9223372036854775807) (h : R (mkS (bs ++ cs)) w) : OpTo P ⟨d, .binOp .add t x y t', ty, pos, af, g⟩ ρ w R :=
  o_addS hx hy (by simpa [mkS_size] using hs) (by rw [mkS_append]; exact h)
theorem s_eql (hx : ρ x = mkS bs) (hy : ρ y = mkS cs) (h : R (.bool (bs == cs)) w) : OpTo P ⟨d, .binOp .eql t x y t', ty, pos, af, g⟩ ρ w R := o_eqlS hx hy (by rw [mkS_toList, mkS_toList]; exact h)
theorem s_neq (hx : ρ x = mkS bs) (hy : ρ y = mkS cs) (h : R (.bool !(bs == cs)) w) : OpTo P ⟨d, .binOp .neq t x y t', ty, pos, af, g⟩ ρ w R := o_neqS hx hy (by rw [mkS_toList, mkS_toList]; exact h)
theorem s_lh {p q : Nat} (hx : ρ x = mkS bs) (hi : ρ i = .int k m) (hj : ρ j = .int k' n) [ht : TU P t .string] (hp : m = p) (hq : n = q) (h1 : p ≤ q) (h2 : q ≤ bs.length) (h : R (mkS ((bs.drop p).take (q - p))) w) : OpTo P ⟨d, .slice t x (some i) (some j) none, ty, pos, af, g⟩ ρ w R := by
  subst hp; subst hq
  exact o_subS hx hi hj (by omega) (by omega) (by rw [mkS_size]; omega) (by rw [mkS_extract]; exact h)
theorem s_l {p : Nat} (hx : ρ x = mkS bs) (hi : ρ i = .int k m) [ht : TU P t .string] (hp : m = p) (h2 : p ≤ bs.length) (h : R (mkS (bs.drop p)) w) : OpTo P ⟨d, .slice t x (some i) none none, ty, pos, af, g⟩ ρ w R := by
  subst hp
  refine o_subSl hx hi (by omega) (by rw [mkS_size]; omega) ?_
  rw [mkS_extract, mkS_size]
  simp only [Int.toNat_natCast]
  rw [List.take_of_length_le (by simp)]
  exact h
theorem s_h {q : Nat} (hx : ρ x = mkS bs) (hj : ρ j = .int k n) [ht : TU P t .string] (hq : n = q) (h2 : q ≤ bs.length) (h : R (mkS (bs.take q)) w) : OpTo P ⟨d, .slice t x none (some j) none, ty, pos, af, g⟩ ρ w R := by
  subst hq
  refine o_subSh hx hj (by omega) (by rw [mkS_size]; omega) ?_
  rw [mkS_extract]
  simpa using h
end
end Go.Proofs.Ytainnefmobfcjaa

/-! Bits -/
/-
  Bits of unsigned integers: the four operations as operations on natural numbers.
-/
namespace Go.Proofs.Ytainnefmobfcjaa
set_option linter.unusedVariables false
set_option linter.unusedSimpArgs false
open Go.RowKit

theorem wrap_u {k : IntKind} (hk : k.signed = false) {n : Nat} (h : n < 2 ^ k.bits) : k.wrap (n : Int) = n := by
  simp only [IntKind.wrap, hk, Bool.false_and, Bool.false_eq_true, if_false]
  exact Int.emod_eq_of_lt (by omega) (by exact_mod_cast h)
theorem ofInt_u (b : Nat) {m : Int} (h0 : 0 ≤ m) : BitVec.ofInt b m = BitVec.ofNat b m.toNat := by
  obtain ⟨n, rfl⟩ := Int.eq_ofNat_of_zero_le h0
  simp
theorem bits_or {k : IntKind} (hk : k.signed = false) {m n : Nat} (hm : m < 2 ^ k.bits) (hn : n < 2 ^ k.bits) : bitsOf .or k m n = ((m ||| n : Nat) : Int) := by
  simp only [bitsOf]
  rw [ofInt_u _ (by omega), ofInt_u _ (by omega), BitVec.toNat_or, BitVec.toNat_ofNat, BitVec.toNat_ofNat]
  simp only [Int.toNat_natCast, Nat.mod_eq_of_lt hm, Nat.mod_eq_of_lt hn]
  exact wrap_u hk (Nat.or_lt_two_pow hm hn)
theorem bits_and {k : IntKind} (hk : k.signed = false) {m n : Nat} (hm : m < 2 ^ k.bits) (hn : n < 2 ^ k.bits) : bitsOf .and k m n = ((m &&& n : Nat) : Int) := by
  simp only [bitsOf]
  rw [ofInt_u _ (by omega), ofInt_u _ (by omega), BitVec.toNat_and, BitVec.toNat_ofNat, BitVec.toNat_ofNat]
  simp only [Int.toNat_natCast, Nat.mod_eq_of_lt hm, Nat.mod_eq_of_lt hn]
  exact wrap_u hk (Nat.and_lt_two_pow _ hn)
theorem bits_xor {k : IntKind} (hk : k.signed = false) {m n : Nat} (hm : m < 2 ^ k.bits) (hn : n < 2 ^ k.bits) : bitsOf .xor k m n = ((m ^^^ n : Nat) : Int) := by
  simp only [bitsOf]
  rw [ofInt_u _ (by omega), ofInt_u _ (by omega), BitVec.toNat_xor, BitVec.toNat_ofNat, BitVec.toNat_ofNat]
  simp only [Int.toNat_natCast, Nat.mod_eq_of_lt hm, Nat.mod_eq_of_lt hn]
  exact wrap_u hk (Nat.xor_lt_two_pow hm hn)
/-- what lies above j bits, and what lies below -/
theorem or_add {k : IntKind} (hk : k.signed = false) (j q n : Nat) (hn : n < 2 ^ j) (hm : 2 ^ j * q + n < 2 ^ k.bits) : bitsOf .or k ((2 ^ j * q : Nat) : Int) (n : Int) = ((2 ^ j * q + n : Nat) : Int) := by
  rw [bits_or hk (by omega) (by omega), ← Nat.two_pow_add_eq_or_of_lt hn]
theorem shl4or {g d : Int} (h0 : 0 ≤ g) (h1 : g ≤ 4095) (d0 : 0 ≤ d) (d1 : d ≤ 15) : bitsOf .or .u16 (IntKind.u16.wrap (g * 2 ^ min (Int.toNat 4) IntKind.u16.bits)) d = 16 * g + d := by
  obtain ⟨q, rfl⟩ := Int.eq_ofNat_of_zero_le h0
  obtain ⟨n, rfl⟩ := Int.eq_ofNat_of_zero_le d0
  have e : IntKind.u16.wrap ((q : Int) * 2 ^ min (Int.toNat 4) IntKind.u16.bits) = ((2 ^ 4 * q : Nat) : Int) := by
    have : ((q : Int) * 2 ^ min (Int.toNat 4) IntKind.u16.bits) = ((2 ^ 4 * q : Nat) : Int) := by
      show (q : Int) * 16 = _
      omega
    rw [this]
    exact wrap_u rfl (show 2 ^ 4 * q < 65536 by omega)
  rw [e, or_add (k := .u16) rfl 4 q n (by omega) (show 2 ^ 4 * q + n < 65536 by omega)]
  omega
end Go.Proofs.Ytainnefmobfcjaa

/-! LibM -/
/-
  The closing, part M: from what a row says of the arguments to our contracts' forms, and back: a law that answers true and turns nothing that there was.
-/
namespace Go.Proofs.Ytainnefmobfcjaa
set_option linter.unusedVariables false
set_option linter.unusedSimpArgs false
open Go.RowKit

section
variable {H : Type} {enc : TypeId × Value → H} {P : Program}

theorem Ext.grown {W W' : World} (h : Ext [] W W') (may : MemPlace → Prop) : W.keptBut W' may := by
  refine ⟨h.os, h.output, fun i hi => ?_⟩
  rw [h.block i hi (by simp)]
  cases hb : W.heap[i]? with
  | none => rfl
  | some o => cases o <;> simp

theorem Ext.sameAt {W W' : World} (h : Ext [] W W') {p : MemPlace} (hp : p.block < W.heap.size) : W.sameAt W' p := by
  cases p with
  | cell b o => exact World.cell?_of_block (h.block b hp (by simp))
  | map b => exact h.block b hp (by simp)

theorem trodAll_stays (hl : laidOutB P = true) {W W' : World} (hE : Ext [] W W') {sp : Nat → Bool} : ∀ {ts : List TypeId} {vs : List Value} {ds : List (DataW H)} {ps : List MemPlace}, (∀ t ∈ ts, P.readableRec t = true ∧ t < P.types.size) →
    DataW.TrodAll enc P W 0 (fun _ => true) true ts vs ds ps → (∀ p ∈ ps, p.block < W.heap.size ∧ sp p.block = true) → DataW.TrodAll enc P W' 0 sp true ts vs ds ps
  | [], [], [], ps, _, h, _ => h
  | t :: ts, v :: vs, d :: ds, ps, ht, h, hp => by
    obtain ⟨p, q, h1, h2, rfl⟩ := h
    refine ⟨p, q, WideElems.Trod_stays hl (ht t (by simp)).1 (ht t (by simp)).2 h1 (fun x hx => hE.sameAt (hp x (by simp [hx])).1) (fun x hx => (hp x (by simp [hx])).2), ?_, rfl⟩
    exact trodAll_stays hl hE (fun t ht' => ht t (by simp [ht'])) h2 (fun x hx => hp x (by simp [hx]))
  | [], _ :: _, _, _, _, h, _ => by simp [DataW.TrodAll] at h
  | [], [], _ :: _, _, _, h, _ => by simp [DataW.TrodAll] at h
  | _ :: _, [], _, _, _, h, _ => by simp [DataW.TrodAll] at h
  | _ :: _, _ :: _, [], _, _, h, _ => by simp [DataW.TrodAll] at h
theorem trodAll_len {W : World} {base : Nat} {sp : Nat → Bool} {hd : Bool} : ∀ {ts : List TypeId} {vs : List Value} {ds : List (DataW H)} {ps : List MemPlace}, DataW.TrodAll enc P W base sp hd ts vs ds ps → ds.length = ts.length
  | [], [], [], _, _ => rfl
  | _ :: _, _ :: _, _ :: _, _, h => by
    obtain ⟨p, q, _, h2, _⟩ := h
    simp [trodAll_len h2]
  | [], _ :: _, _, _, h => by simp [DataW.TrodAll] at h
  | [], [], _ :: _, _, h => by simp [DataW.TrodAll] at h
  | _ :: _, [], _, _, h => by simp [DataW.TrodAll] at h
  | _ :: _, _ :: _, [], _, h => by simp [DataW.TrodAll] at h

/-- by program: these types can be read -/
def readOk (P : Program) (ts : List TypeId) : Bool := ts.all fun u => P.readableRec u && decide (u < P.types.size)
/-- A law that answers true. -/
theorem law_post {f : Func} {s : ChangeSpec} {W W' : World} {args : Array Value} {ds gs : List (DataW H)} {before : List MemPlace} {tb : TypeId} (hl : laidOutB P = true) (hto : readOk P f.params.toList = true) (hv : s.vars = []) (hr : f.resultTypes = #[tb]) (hb : P.underlying tb = some .bool)
    (hfn : ∀ xs : List (DataW H), xs.length = f.params.toList.length → s.fn H xs = { results := [.lit (.bool true)], args := xs }) (hW : DataW.Whole enc P f.params.toList s.vars false W args.toList ds gs before) (hE : Ext [] W W') :
    s.post enc P f false true false false W args (.bool true) W' := by
  have hts : ∀ t ∈ f.params.toList, P.readableRec t = true ∧ t < P.types.size := fun t ht => by simpa using List.all_eq_true.1 hto t ht
  have hW' := hW
  have hlt := hW.lt
  obtain ⟨p, q, hA, hV, rfl, _, _⟩ := hW
  rw [hv] at hV
  obtain ⟨rfl, rfl⟩ : gs = [] ∧ q = [] := by
    cases gs with
    | nil => exact ⟨rfl, hV⟩
    | cons g gs => exact hV.elim
  have hlen := trodAll_len hA
  refine ⟨ds, [], p ++ [], [], p, [], hW', ?_, ?_, ?_, hE.grown _, fun h => by cases h⟩
  · rw [List.append_nil, hfn ds hlen, hr]
    exact ⟨[], [], shut_bool hb true, rfl, rfl⟩
  · rw [List.append_nil, hfn ds hlen]
    exact trodAll_stays hl hE hts hA fun x hx => by
      have := hlt x (by simpa using hx)
      exact ⟨this, by simpa using this⟩
  · rw [List.append_nil, hfn ds hlen, hv]
    exact rfl

/-! ### types whose parts are integers and bools -/
def wfV : LK → Value → Bool
  | .i k, .int k' n => decide (k = k') && (Lit.int k n).wf
  | .b, .bool _ => true
  | _, _ => false
def wfK : List LK → List Value → Bool
  | [], [] => true
  | k :: ks, x :: xs => wfV k x && wfK ks xs
  | _, _ => false
theorem wfK_fits : ∀ {ks : List LK} {xs : List Value}, wfK ks xs = true → fitsK ks xs = true
  | [], [], _ => rfl
  | k :: ks, x :: xs, h => by
    simp only [wfK, Bool.and_eq_true] at h
    simp only [fitsK, Bool.and_eq_true]
    refine ⟨?_, wfK_fits h.2⟩
    have h1 := h.1
    cases k <;> cases x <;> simp [wfV, fitK] at h1 ⊢
    exact h1.1
  | [], _ :: _, h => by cases h
  | _ :: _, [], h => by cases h
theorem wfK_append : ∀ {ks ks' : List LK} {xs xs' : List Value}, wfK ks xs = true → wfK ks' xs' = true → wfK (ks ++ ks') (xs ++ xs') = true
  | [], ks', [], xs', _, h => h
  | k :: ks, ks', x :: xs, xs', h, h' => by
    simp only [wfK, Bool.and_eq_true] at h
    simp only [List.cons_append, wfK, Bool.and_eq_true]
    exact ⟨h.1, wfK_append h.2 h'⟩
  | [], _, _ :: _, _, h, _ => by cases h
  | _ :: _, _, [], _, h, _ => by cases h
theorem flat_wf {ks : List LK} : ∀ (n : Nat) (xs : List Value), xs.length = n * ks.length → (∀ i, i < n → wfK ks ((xs.drop (i * ks.length)).take ks.length) = true) → wfK (List.replicate n ks).flatten xs = true
  | 0, xs, hl, _ => by
    have : xs = [] := List.length_eq_zero_iff.1 (by simpa using hl)
    subst this; rfl
  | n + 1, xs, hl, h => by
    have h0 := h 0 (by omega)
    simp only [Nat.zero_mul, List.drop_zero] at h0
    have hr := flat_wf (ks := ks) n (xs.drop ks.length) (by rw [List.length_drop, hl, Nat.add_mul]; omega) fun i hi => by
      have := h (i + 1) (by omega)
      rw [List.drop_drop]
      rwa [show (i + 1) * ks.length = ks.length + i * ks.length by rw [Nat.add_mul]; omega] at this
    have := wfK_append h0 hr
    rw [List.take_append_drop] at this
    simpa [List.replicate_succ] using this

theorem open_leaf {w : World} {base : Nat} {sp : Nat → Bool} {held : Bool} : ∀ (d : Nat) (t : TypeId) (ks : List LK), leafK P d t = some ks → ∀ (fuel : Nat) (cs : List Value) (x : DataW H × List MemPlace), DataW.trod enc P w base sp held fuel t cs = some x → (P.cellsOf t = ks.length ∨ isAggT P t = false) → wfK ks cs = true
  | 0, _, _, h => by simp [leafK] at h
  | d + 1, t, ks, hk => by
    intro fuel cs x hx hC
    unfold leafK at hk
    cases hu : P.underlying t with
    | none => simp [hu] at hk
    | some dsc =>
      rw [hu] at hk
      cases dsc with
      | int k =>
        simp at hk; subst hk
        obtain ⟨n, rfl, _, hw⟩ := DataW.trod_int hu hx
        simp [wfK, wfV, hw]
      | bool =>
        simp at hk; subst hk
        obtain ⟨b, rfl, _⟩ := DataW.trod_bool hu hx
        simp [wfK, wfV]
      | array n e =>
        simp only at hk
        cases hke : leafK P d e with
        | none => simp [hke] at hk
        | some ke =>
          rw [hke] at hk
          simp only at hk
          split at hk
          · rename_i hc
            simp only [Option.some.injEq] at hk
            subst hk
            obtain ⟨xs, m, rfl, rfl, hl, hn, hat⟩ := DataW.trod_array hu hx
            have hC' : P.cellsOf t = n * ke.length := by
              rcases hC with h | h
              · rw [h]; simp
              · simp [isAggT, hu] at h
            refine flat_wf n cs (by rw [hl, hC']) fun i hi => ?_
            have h1 := hat i hi
            rw [List.getElem?_eq_getElem (by omega)] at h1
            have := open_leaf d e ke hke m _ _ h1 (.inl hc.1)
            rwa [hc.1] at this
          · cases hk
      | struct fs =>
        simp only at hk
        split at hk
        · cases hk
        · obtain ⟨xs, m, rfl, rfl, hl, hn, hat⟩ := DataW.trod_struct hu hx
          have key : ∀ (l : List Field) (off j : Nat) (ks : List LK), fs.toList.drop j = l → leafF P (leafK P d) l off = some ks → cs.length = off + ks.length → wfK ks (cs.drop off) = true := by
            intro l
            induction l with
            | nil =>
              intro off j ks _ hf hlen
              simp only [leafF, Option.some.injEq] at hf
              subst hf
              have : cs.drop off = [] := List.drop_eq_nil_of_le (by simp at hlen; omega)
              rw [this]; rfl
            | cons f l ih =>
              intro off j ks hd hf hlen
              simp only [leafF] at hf
              split at hf
              · cases hf
              · rename_i hno
                have hoff : f.offset = off := Classical.byContradiction fun h => hno (.inr h)
                cases hkf : leafK P d f.type with
                | none => simp [hkf] at hf
                | some kf =>
                  rw [hkf] at hf
                  simp only at hf
                  split at hf
                  · rename_i hc
                    cases hr : leafF P (leafK P d) l (off + kf.length) with
                    | none => simp [hr] at hf
                    | some kr =>
                      simp only [hr, Option.map_some, Option.some.injEq] at hf
                      subst hf
                      have hj : fs[j]? = some f := by
                        have : (fs.toList.drop j)[0]? = some f := by rw [hd]; rfl
                        rw [List.getElem?_drop] at this
                        simpa using this
                      have hjs : j < fs.size := (Array.getElem?_eq_some_iff.1 hj).1
                      have h1 := hat j f hj
                      rw [List.getElem?_eq_getElem (by omega), hoff] at h1
                      have w1 := open_leaf d f.type kf hkf m _ _ h1 (.inl hc)
                      rw [hc] at w1
                      have hd' : fs.toList.drop (j + 1) = l := by
                        have : fs.toList.drop (j + 1) = (fs.toList.drop j).drop 1 := by rw [List.drop_drop]
                        rw [this, hd]; rfl
                      have w2 := ih (off + kf.length) (j + 1) kr hd' hr (by rw [hlen]; simp; omega)
                      rw [← List.drop_drop] at w2
                      have := wfK_append w1 w2
                      rwa [List.take_append_drop] at this
                  · cases hf
          have hC' : P.cellsOf t = ks.length := by
            rcases hC with h | h
            · exact h
            · simp [isAggT, hu] at h
          have := key fs.toList 0 0 ks rfl hk (by rw [hl, hC']; simp)
          simpa using this
      | _ => simp at hk

/-- An argument of such a type. -/
theorem open_lf {w : World} {r : Reach} {b0 base : Nat} {sp : Nat → Bool} {held : Bool} {t : TypeId} {ks : List LK} {v : Value} {d : DataW H} {p : List MemPlace} (hk : (decide (leafK P 8 t = some ks) && isAggT P t && decide (P.cellsOf t = ks.length)) = true) (hval : Value.okWide P w r b0 t v) (h : DataW.Trod enc P w base sp held t v d p) :
    ∃ xs : List Value, v = .agg xs.toArray ∧ wfK ks xs = true := by
  simp only [Bool.and_eq_true, decide_eq_true_eq] at hk
  obtain ⟨fuel, hf⟩ := h
  have hag : ∃ cs, v = .agg cs := by
    have := hk.1.2
    unfold isAggT at this
    unfold Value.okWide at hval
    split at this
    · rename_i hu; rw [hu] at hval; obtain ⟨cs, h, _⟩ := hval; exact ⟨cs, h⟩
    · rename_i hu; rw [hu] at hval; obtain ⟨cs, h, _⟩ := hval; exact ⟨cs, h⟩
    · cases this
  obtain ⟨cs, rfl⟩ := hag
  exact ⟨cs.toList, by simp, open_leaf 8 t ks hk.1.1 fuel _ _ hf (.inl hk.2)⟩
theorem wf_bd {k : IntKind} {n : Int} (h : (Lit.int k n).wf = true) : k.min ≤ n ∧ n ≤ k.max := by
  simpa [Lit.wf] using h
end
end Go.Proofs.Ytainnefmobfcjaa

/-! NSeat -/
/-
  The seat (no listed variables): a world for the witness.
-/
namespace Go.Proofs.Ytainnefmobfcjaa
set_option linter.unusedVariables false
set_option linter.unusedSimpArgs false
open Go.ChangeShapes Go.WideShapes Go.ChangeAt Go.RowKit

theorem own : ownKnob Try.prog.godebug = none := by kernel_rfl
theorem laidOut : laidOutB Try.prog = true := by kernel_rfl
def seatLaid : List (String × DataW Unit) := []
noncomputable def laidWorld (os : Os) : World := World.holding Try.prog os ⟨#[], #[], []⟩
theorem laid_met (os : Os) (args : Array Value) : laidMet Try.prog seatLaid ((laidWorld os).forCall (fun _ _ => 0) ⟨#[], args, []⟩).memory :=
  laidMet_of_run' 8 (by kernel_rfl) (by kernel_rfl)
end Go.Proofs.Ytainnefmobfcjaa

/-! Types -/
/-
  Facts on the types and functions of the program, as instances; laid by a program (wip/types.py).
-/
namespace Go.Proofs.Ytainnefmobfcjaa
set_option linter.unusedVariables false
instance : TMix Try.prog := ⟨by kernel_rfl⟩
instance : TOne Try.prog 1 := ⟨by kernel_rfl⟩
instance : TSz Try.prog 1 1 := ⟨by kernel_rfl⟩
instance : TZero Try.prog 1 [.nilFunc] := ⟨by kernel_rfl⟩
instance : TU Try.prog 2 (TypeDesc.int IntKind.i64) := ⟨Try.underlying2⟩
instance : TSz Try.prog 2 1 := ⟨by kernel_rfl⟩
instance : TOne Try.prog 2 := ⟨by kernel_rfl⟩
instance : TEl Try.prog 2 1 8 := ⟨by kernel_rfl⟩
instance : TZero Try.prog 2 [.int .i64 0] := ⟨by kernel_rfl⟩
instance : TU Try.prog 3 (TypeDesc.int IntKind.i64) := ⟨Try.underlying3⟩
instance : TSz Try.prog 3 1 := ⟨by kernel_rfl⟩
instance : TOne Try.prog 3 := ⟨by kernel_rfl⟩
instance : TEl Try.prog 3 1 8 := ⟨by kernel_rfl⟩
instance : TZero Try.prog 3 [.int .i64 0] := ⟨by kernel_rfl⟩
instance : TU Try.prog 4 (TypeDesc.bool) := ⟨Try.underlying4⟩
instance : TSz Try.prog 4 1 := ⟨by kernel_rfl⟩
instance : TOne Try.prog 4 := ⟨by kernel_rfl⟩
instance : TEl Try.prog 4 1 1 := ⟨by kernel_rfl⟩
instance : TZero Try.prog 4 [.bool false] := ⟨by kernel_rfl⟩
instance : TU Try.prog 5 (TypeDesc.int IntKind.u8) := ⟨Try.underlying5⟩
instance : TSz Try.prog 5 1 := ⟨by kernel_rfl⟩
instance : TOne Try.prog 5 := ⟨by kernel_rfl⟩
instance : TEl Try.prog 5 1 1 := ⟨by kernel_rfl⟩
instance : TZero Try.prog 5 [.int .u8 0] := ⟨by kernel_rfl⟩
instance : TU Try.prog 6 (TypeDesc.int IntKind.u8) := ⟨Try.underlying6⟩
instance : TSz Try.prog 6 1 := ⟨by kernel_rfl⟩
instance : TOne Try.prog 6 := ⟨by kernel_rfl⟩
instance : TEl Try.prog 6 1 1 := ⟨by kernel_rfl⟩
instance : TZero Try.prog 6 [.int .u8 0] := ⟨by kernel_rfl⟩
instance : TSz Try.prog 7 4 := ⟨by kernel_rfl⟩
instance : TAgg Try.prog 7 4 := ⟨by kernel_rfl⟩
instance : TFldT Try.prog 7 0 0 2 := ⟨by kernel_rfl⟩
instance : TFld Try.prog 7 0 0 := ⟨by kernel_rfl⟩
instance : TFldT Try.prog 7 1 1 3 := ⟨by kernel_rfl⟩
instance : TFld Try.prog 7 1 1 := ⟨by kernel_rfl⟩
instance : TFldT Try.prog 7 2 2 4 := ⟨by kernel_rfl⟩
instance : TFld Try.prog 7 2 2 := ⟨by kernel_rfl⟩
instance : TFldT Try.prog 7 3 3 6 := ⟨by kernel_rfl⟩
instance : TFld Try.prog 7 3 3 := ⟨by kernel_rfl⟩
instance : TLay Try.prog 7 [(0, 1), (1, 1), (2, 1), (3, 1)] := ⟨by kernel_rfl⟩
instance : TEl Try.prog 7 4 24 := ⟨by kernel_rfl⟩
instance : TEq Try.prog 7 [.i .i64, .i .i64, .b, .i .u8] := ⟨by kernel_rfl⟩
instance : TZero Try.prog 7 [.int .i64 0, .int .i64 0, .bool false, .int .u8 0] := ⟨by kernel_rfl⟩
instance : TSz Try.prog 8 4 := ⟨by kernel_rfl⟩
instance : TAgg Try.prog 8 4 := ⟨by kernel_rfl⟩
instance : TFldT Try.prog 8 0 0 2 := ⟨by kernel_rfl⟩
instance : TFld Try.prog 8 0 0 := ⟨by kernel_rfl⟩
instance : TFldT Try.prog 8 1 1 3 := ⟨by kernel_rfl⟩
instance : TFld Try.prog 8 1 1 := ⟨by kernel_rfl⟩
instance : TFldT Try.prog 8 2 2 4 := ⟨by kernel_rfl⟩
instance : TFld Try.prog 8 2 2 := ⟨by kernel_rfl⟩
instance : TFldT Try.prog 8 3 3 6 := ⟨by kernel_rfl⟩
instance : TFld Try.prog 8 3 3 := ⟨by kernel_rfl⟩
instance : TLay Try.prog 8 [(0, 1), (1, 1), (2, 1), (3, 1)] := ⟨by kernel_rfl⟩
instance : TEl Try.prog 8 4 24 := ⟨by kernel_rfl⟩
instance : TEq Try.prog 8 [.i .i64, .i .i64, .b, .i .u8] := ⟨by kernel_rfl⟩
instance : TZero Try.prog 8 [.int .i64 0, .int .i64 0, .bool false, .int .u8 0] := ⟨by kernel_rfl⟩
instance : TU Try.prog 9 (TypeDesc.string) := ⟨Try.underlying9⟩
instance : TSz Try.prog 9 1 := ⟨by kernel_rfl⟩
instance : TOne Try.prog 9 := ⟨by kernel_rfl⟩
instance : TEl Try.prog 9 1 16 := ⟨by kernel_rfl⟩
instance : TNI Try.prog 9 := ⟨by kernel_rfl⟩
instance : TZero Try.prog 9 [.string .empty] := ⟨by kernel_rfl⟩
instance : TU Try.prog 10 (TypeDesc.string) := ⟨Try.underlying10⟩
instance : TSz Try.prog 10 1 := ⟨by kernel_rfl⟩
instance : TOne Try.prog 10 := ⟨by kernel_rfl⟩
instance : TEl Try.prog 10 1 16 := ⟨by kernel_rfl⟩
instance : TNI Try.prog 10 := ⟨by kernel_rfl⟩
instance : TZero Try.prog 10 [.string .empty] := ⟨by kernel_rfl⟩
instance : TU Try.prog 11 (TypeDesc.string) := ⟨Try.underlying11⟩
instance : TSz Try.prog 11 1 := ⟨by kernel_rfl⟩
instance : TOne Try.prog 11 := ⟨by kernel_rfl⟩
instance : TEl Try.prog 11 1 16 := ⟨by kernel_rfl⟩
instance : TNI Try.prog 11 := ⟨by kernel_rfl⟩
instance : TZero Try.prog 11 [.string .empty] := ⟨by kernel_rfl⟩
instance : TU Try.prog 12 (TypeDesc.int IntKind.u64) := ⟨Try.underlying12⟩
instance : TSz Try.prog 12 1 := ⟨by kernel_rfl⟩
instance : TOne Try.prog 12 := ⟨by kernel_rfl⟩
instance : TEl Try.prog 12 1 8 := ⟨by kernel_rfl⟩
instance : TZero Try.prog 12 [.int .u64 0] := ⟨by kernel_rfl⟩
instance : TSz Try.prog 13 2 := ⟨by kernel_rfl⟩
instance : TAgg Try.prog 13 2 := ⟨by kernel_rfl⟩
instance : TFldT Try.prog 13 0 0 9 := ⟨by kernel_rfl⟩
instance : TFld Try.prog 13 0 0 := ⟨by kernel_rfl⟩
instance : TFldT Try.prog 13 1 1 12 := ⟨by kernel_rfl⟩
instance : TFld Try.prog 13 1 1 := ⟨by kernel_rfl⟩
instance : TLay Try.prog 13 [(0, 1), (1, 1)] := ⟨by kernel_rfl⟩
instance : TEl Try.prog 13 2 24 := ⟨by kernel_rfl⟩
instance : TZero Try.prog 13 [.string .empty, .int .u64 0] := ⟨by kernel_rfl⟩
instance : TSz Try.prog 14 2 := ⟨by kernel_rfl⟩
instance : TAgg Try.prog 14 2 := ⟨by kernel_rfl⟩
instance : TFldT Try.prog 14 0 0 9 := ⟨by kernel_rfl⟩
instance : TFld Try.prog 14 0 0 := ⟨by kernel_rfl⟩
instance : TFldT Try.prog 14 1 1 12 := ⟨by kernel_rfl⟩
instance : TFld Try.prog 14 1 1 := ⟨by kernel_rfl⟩
instance : TLay Try.prog 14 [(0, 1), (1, 1)] := ⟨by kernel_rfl⟩
instance : TEl Try.prog 14 2 24 := ⟨by kernel_rfl⟩
instance : TZero Try.prog 14 [.string .empty, .int .u64 0] := ⟨by kernel_rfl⟩
instance : TU Try.prog 15 (TypeDesc.pointer 174) := ⟨Try.underlying15⟩
instance : TSz Try.prog 15 1 := ⟨by kernel_rfl⟩
instance : TOne Try.prog 15 := ⟨by kernel_rfl⟩
instance : TEl Try.prog 15 1 8 := ⟨by kernel_rfl⟩
instance : TZero Try.prog 15 [.pointer none] := ⟨by kernel_rfl⟩
instance : TU Try.prog 16 (TypeDesc.pointer 177) := ⟨Try.underlying16⟩
instance : TSz Try.prog 16 1 := ⟨by kernel_rfl⟩
instance : TOne Try.prog 16 := ⟨by kernel_rfl⟩
instance : TEl Try.prog 16 1 8 := ⟨by kernel_rfl⟩
instance : TZero Try.prog 16 [.pointer none] := ⟨by kernel_rfl⟩
instance : TU Try.prog 17 (TypeDesc.pointer 186) := ⟨Try.underlying17⟩
instance : TSz Try.prog 17 1 := ⟨by kernel_rfl⟩
instance : TOne Try.prog 17 := ⟨by kernel_rfl⟩
instance : TEl Try.prog 17 1 8 := ⟨by kernel_rfl⟩
instance : TZero Try.prog 17 [.pointer none] := ⟨by kernel_rfl⟩
instance : TSz Try.prog 18 1 := ⟨by kernel_rfl⟩
instance : TAgg Try.prog 18 1 := ⟨by kernel_rfl⟩
instance : TFldT Try.prog 18 0 0 17 := ⟨by kernel_rfl⟩
instance : TFld Try.prog 18 0 0 := ⟨by kernel_rfl⟩
instance : TLay Try.prog 18 [(0, 1)] := ⟨by kernel_rfl⟩
instance : TEl Try.prog 18 1 8 := ⟨by kernel_rfl⟩
instance : TZero Try.prog 18 [.pointer none] := ⟨by kernel_rfl⟩
instance : TSz Try.prog 19 1 := ⟨by kernel_rfl⟩
instance : TAgg Try.prog 19 1 := ⟨by kernel_rfl⟩
instance : TFldT Try.prog 19 0 0 17 := ⟨by kernel_rfl⟩
instance : TFld Try.prog 19 0 0 := ⟨by kernel_rfl⟩
instance : TLay Try.prog 19 [(0, 1)] := ⟨by kernel_rfl⟩
instance : TEl Try.prog 19 1 8 := ⟨by kernel_rfl⟩
instance : TZero Try.prog 19 [.pointer none] := ⟨by kernel_rfl⟩
instance : TU Try.prog 21 (TypeDesc.int IntKind.i32) := ⟨Try.underlying21⟩
instance : TSz Try.prog 21 1 := ⟨by kernel_rfl⟩
instance : TOne Try.prog 21 := ⟨by kernel_rfl⟩
instance : TEl Try.prog 21 1 4 := ⟨by kernel_rfl⟩
instance : TZero Try.prog 21 [.int .i32 0] := ⟨by kernel_rfl⟩
instance : TU Try.prog 22 (TypeDesc.slice 3) := ⟨Try.underlying22⟩
instance : TSz Try.prog 22 1 := ⟨by kernel_rfl⟩
instance : TOne Try.prog 22 := ⟨by kernel_rfl⟩
instance : TEl Try.prog 22 1 24 := ⟨by kernel_rfl⟩
instance : TNI Try.prog 22 := ⟨by kernel_rfl⟩
instance : TZero Try.prog 22 [.slice none 0 0] := ⟨by kernel_rfl⟩
instance : TU Try.prog 23 (TypeDesc.pointer 89) := ⟨Try.underlying23⟩
instance : TSz Try.prog 23 1 := ⟨by kernel_rfl⟩
instance : TOne Try.prog 23 := ⟨by kernel_rfl⟩
instance : TEl Try.prog 23 1 8 := ⟨by kernel_rfl⟩
instance : TZero Try.prog 23 [.pointer none] := ⟨by kernel_rfl⟩
instance : TOne Try.prog 24 := ⟨by kernel_rfl⟩
instance : TSz Try.prog 24 1 := ⟨by kernel_rfl⟩
instance : TZero Try.prog 24 [.nilFunc] := ⟨by kernel_rfl⟩
instance : TU Try.prog 25 (TypeDesc.array 16 5) := ⟨Try.underlying25⟩
instance : TSz Try.prog 25 16 := ⟨by kernel_rfl⟩
instance : TAgg Try.prog 25 16 := ⟨by kernel_rfl⟩
instance : TLay Try.prog 25 [(0, 1), (1, 1), (2, 1), (3, 1), (4, 1), (5, 1), (6, 1), (7, 1), (8, 1), (9, 1), (10, 1), (11, 1), (12, 1), (13, 1), (14, 1), (15, 1)] := ⟨by kernel_rfl⟩
instance : TEl Try.prog 25 16 16 := ⟨by kernel_rfl⟩
instance : TEq Try.prog 25 [.i .u8, .i .u8, .i .u8, .i .u8, .i .u8, .i .u8, .i .u8, .i .u8, .i .u8, .i .u8, .i .u8, .i .u8, .i .u8, .i .u8, .i .u8, .i .u8] := ⟨by kernel_rfl⟩
instance : TZero Try.prog 25 [.int .u8 0, .int .u8 0, .int .u8 0, .int .u8 0, .int .u8 0, .int .u8 0, .int .u8 0, .int .u8 0, .int .u8 0, .int .u8 0, .int .u8 0, .int .u8 0, .int .u8 0, .int .u8 0, .int .u8 0, .int .u8 0] := ⟨by kernel_rfl⟩
instance : TU Try.prog 26 (TypeDesc.array 16 5) := ⟨Try.underlying26⟩
instance : TSz Try.prog 26 16 := ⟨by kernel_rfl⟩
instance : TAgg Try.prog 26 16 := ⟨by kernel_rfl⟩
instance : TLay Try.prog 26 [(0, 1), (1, 1), (2, 1), (3, 1), (4, 1), (5, 1), (6, 1), (7, 1), (8, 1), (9, 1), (10, 1), (11, 1), (12, 1), (13, 1), (14, 1), (15, 1)] := ⟨by kernel_rfl⟩
instance : TEl Try.prog 26 16 16 := ⟨by kernel_rfl⟩
instance : TEq Try.prog 26 [.i .u8, .i .u8, .i .u8, .i .u8, .i .u8, .i .u8, .i .u8, .i .u8, .i .u8, .i .u8, .i .u8, .i .u8, .i .u8, .i .u8, .i .u8, .i .u8] := ⟨by kernel_rfl⟩
instance : TZero Try.prog 26 [.int .u8 0, .int .u8 0, .int .u8 0, .int .u8 0, .int .u8 0, .int .u8 0, .int .u8 0, .int .u8 0, .int .u8 0, .int .u8 0, .int .u8 0, .int .u8 0, .int .u8 0, .int .u8 0, .int .u8 0, .int .u8 0] := ⟨by kernel_rfl⟩
instance : TSz Try.prog 27 17 := ⟨by kernel_rfl⟩
instance : TAgg Try.prog 27 17 := ⟨by kernel_rfl⟩
instance : TFldT Try.prog 27 0 0 26 := ⟨by kernel_rfl⟩
instance : TFld Try.prog 27 0 0 := ⟨by kernel_rfl⟩
instance : TFldT Try.prog 27 1 16 3 := ⟨by kernel_rfl⟩
instance : TFld Try.prog 27 1 16 := ⟨by kernel_rfl⟩
instance : TLay Try.prog 27 [(0, 16), (16, 1)] := ⟨by kernel_rfl⟩
instance : TEl Try.prog 27 17 24 := ⟨by kernel_rfl⟩
instance : TEq Try.prog 27 [.i .u8, .i .u8, .i .u8, .i .u8, .i .u8, .i .u8, .i .u8, .i .u8, .i .u8, .i .u8, .i .u8, .i .u8, .i .u8, .i .u8, .i .u8, .i .u8, .i .i64] := ⟨by kernel_rfl⟩
instance : TZero Try.prog 27 [.int .u8 0, .int .u8 0, .int .u8 0, .int .u8 0, .int .u8 0, .int .u8 0, .int .u8 0, .int .u8 0, .int .u8 0, .int .u8 0, .int .u8 0, .int .u8 0, .int .u8 0, .int .u8 0, .int .u8 0, .int .u8 0, .int .i64 0] := ⟨by kernel_rfl⟩
instance : TSz Try.prog 28 17 := ⟨by kernel_rfl⟩
instance : TAgg Try.prog 28 17 := ⟨by kernel_rfl⟩
instance : TFldT Try.prog 28 0 0 26 := ⟨by kernel_rfl⟩
instance : TFld Try.prog 28 0 0 := ⟨by kernel_rfl⟩
instance : TFldT Try.prog 28 1 16 3 := ⟨by kernel_rfl⟩
instance : TFld Try.prog 28 1 16 := ⟨by kernel_rfl⟩
instance : TLay Try.prog 28 [(0, 16), (16, 1)] := ⟨by kernel_rfl⟩
instance : TEl Try.prog 28 17 24 := ⟨by kernel_rfl⟩
instance : TEq Try.prog 28 [.i .u8, .i .u8, .i .u8, .i .u8, .i .u8, .i .u8, .i .u8, .i .u8, .i .u8, .i .u8, .i .u8, .i .u8, .i .u8, .i .u8, .i .u8, .i .u8, .i .i64] := ⟨by kernel_rfl⟩
instance : TZero Try.prog 28 [.int .u8 0, .int .u8 0, .int .u8 0, .int .u8 0, .int .u8 0, .int .u8 0, .int .u8 0, .int .u8 0, .int .u8 0, .int .u8 0, .int .u8 0, .int .u8 0, .int .u8 0, .int .u8 0, .int .u8 0, .int .u8 0, .int .i64 0] := ⟨by kernel_rfl⟩
instance : TOne Try.prog 29 := ⟨by kernel_rfl⟩
instance : TSz Try.prog 29 1 := ⟨by kernel_rfl⟩
instance : TZero Try.prog 29 [.nilFunc] := ⟨by kernel_rfl⟩
instance : TOne Try.prog 30 := ⟨by kernel_rfl⟩
instance : TSz Try.prog 30 1 := ⟨by kernel_rfl⟩
instance : TZero Try.prog 30 [.nilFunc] := ⟨by kernel_rfl⟩
instance : TOne Try.prog 31 := ⟨by kernel_rfl⟩
instance : TSz Try.prog 31 1 := ⟨by kernel_rfl⟩
instance : TZero Try.prog 31 [.nilFunc] := ⟨by kernel_rfl⟩
instance : TU Try.prog 32 (TypeDesc.slice 44) := ⟨Try.underlying32⟩
instance : TSz Try.prog 32 1 := ⟨by kernel_rfl⟩
instance : TOne Try.prog 32 := ⟨by kernel_rfl⟩
instance : TEl Try.prog 32 1 24 := ⟨by kernel_rfl⟩
instance : TNI Try.prog 32 := ⟨by kernel_rfl⟩
instance : TZero Try.prog 32 [.slice none 0 0] := ⟨by kernel_rfl⟩
instance : TSz Try.prog 33 18 := ⟨by kernel_rfl⟩
instance : TAgg Try.prog 33 18 := ⟨by kernel_rfl⟩
instance : TFldT Try.prog 33 0 0 28 := ⟨by kernel_rfl⟩
instance : TFld Try.prog 33 0 0 := ⟨by kernel_rfl⟩
instance : TFldT Try.prog 33 1 17 32 := ⟨by kernel_rfl⟩
instance : TFld Try.prog 33 1 17 := ⟨by kernel_rfl⟩
instance : TLay Try.prog 33 [(0, 17), (17, 1)] := ⟨by kernel_rfl⟩
instance : TEl Try.prog 33 18 48 := ⟨by kernel_rfl⟩
instance : TZero Try.prog 33 [.int .u8 0, .int .u8 0, .int .u8 0, .int .u8 0, .int .u8 0, .int .u8 0, .int .u8 0, .int .u8 0, .int .u8 0, .int .u8 0, .int .u8 0, .int .u8 0, .int .u8 0, .int .u8 0, .int .u8 0, .int .u8 0, .int .i64 0, .slice none 0 0] := ⟨by kernel_rfl⟩
instance : TSz Try.prog 34 18 := ⟨by kernel_rfl⟩
instance : TAgg Try.prog 34 18 := ⟨by kernel_rfl⟩
instance : TFldT Try.prog 34 0 0 28 := ⟨by kernel_rfl⟩
instance : TFld Try.prog 34 0 0 := ⟨by kernel_rfl⟩
instance : TFldT Try.prog 34 1 17 32 := ⟨by kernel_rfl⟩
instance : TFld Try.prog 34 1 17 := ⟨by kernel_rfl⟩
instance : TLay Try.prog 34 [(0, 17), (17, 1)] := ⟨by kernel_rfl⟩
instance : TEl Try.prog 34 18 48 := ⟨by kernel_rfl⟩
instance : TZero Try.prog 34 [.int .u8 0, .int .u8 0, .int .u8 0, .int .u8 0, .int .u8 0, .int .u8 0, .int .u8 0, .int .u8 0, .int .u8 0, .int .u8 0, .int .u8 0, .int .u8 0, .int .u8 0, .int .u8 0, .int .u8 0, .int .u8 0, .int .i64 0, .slice none 0 0] := ⟨by kernel_rfl⟩
instance : TU Try.prog 35 (TypeDesc.int IntKind.u64) := ⟨Try.underlying35⟩
instance : TSz Try.prog 35 1 := ⟨by kernel_rfl⟩
instance : TOne Try.prog 35 := ⟨by kernel_rfl⟩
instance : TEl Try.prog 35 1 8 := ⟨by kernel_rfl⟩
instance : TZero Try.prog 35 [.int .u64 0] := ⟨by kernel_rfl⟩
instance : TU Try.prog 36 (TypeDesc.int IntKind.u64) := ⟨Try.underlying36⟩
instance : TSz Try.prog 36 1 := ⟨by kernel_rfl⟩
instance : TOne Try.prog 36 := ⟨by kernel_rfl⟩
instance : TEl Try.prog 36 1 8 := ⟨by kernel_rfl⟩
instance : TZero Try.prog 36 [.int .u64 0] := ⟨by kernel_rfl⟩
instance : TOne Try.prog 37 := ⟨by kernel_rfl⟩
instance : TSz Try.prog 37 1 := ⟨by kernel_rfl⟩
instance : TZero Try.prog 37 [.nilFunc] := ⟨by kernel_rfl⟩
instance : TU Try.prog 38 (TypeDesc.int IntKind.i64) := ⟨Try.underlying38⟩
instance : TSz Try.prog 38 1 := ⟨by kernel_rfl⟩
instance : TOne Try.prog 38 := ⟨by kernel_rfl⟩
instance : TEl Try.prog 38 1 8 := ⟨by kernel_rfl⟩
instance : TZero Try.prog 38 [.int .i64 0] := ⟨by kernel_rfl⟩
instance : TOne Try.prog 40 := ⟨by kernel_rfl⟩
instance : TSz Try.prog 40 1 := ⟨by kernel_rfl⟩
instance : TZero Try.prog 40 [.nilFunc] := ⟨by kernel_rfl⟩
instance : TOne Try.prog 41 := ⟨by kernel_rfl⟩
instance : TSz Try.prog 41 1 := ⟨by kernel_rfl⟩
instance : TZero Try.prog 41 [.nilFunc] := ⟨by kernel_rfl⟩
instance : TOne Try.prog 42 := ⟨by kernel_rfl⟩
instance : TSz Try.prog 42 1 := ⟨by kernel_rfl⟩
instance : TZero Try.prog 42 [.nilFunc] := ⟨by kernel_rfl⟩
instance : TSz Try.prog 43 19 := ⟨by kernel_rfl⟩
instance : TAgg Try.prog 43 19 := ⟨by kernel_rfl⟩
instance : TFldT Try.prog 43 0 0 28 := ⟨by kernel_rfl⟩
instance : TFld Try.prog 43 0 0 := ⟨by kernel_rfl⟩
instance : TFldT Try.prog 43 1 17 36 := ⟨by kernel_rfl⟩
instance : TFld Try.prog 43 1 17 := ⟨by kernel_rfl⟩
instance : TFldT Try.prog 43 2 18 3 := ⟨by kernel_rfl⟩
instance : TFld Try.prog 43 2 18 := ⟨by kernel_rfl⟩
instance : TLay Try.prog 43 [(0, 17), (17, 1), (18, 1)] := ⟨by kernel_rfl⟩
instance : TEl Try.prog 43 19 40 := ⟨by kernel_rfl⟩
instance : TEq Try.prog 43 [.i .u8, .i .u8, .i .u8, .i .u8, .i .u8, .i .u8, .i .u8, .i .u8, .i .u8, .i .u8, .i .u8, .i .u8, .i .u8, .i .u8, .i .u8, .i .u8, .i .i64, .i .u64, .i .i64] := ⟨by kernel_rfl⟩
instance : TZero Try.prog 43 [.int .u8 0, .int .u8 0, .int .u8 0, .int .u8 0, .int .u8 0, .int .u8 0, .int .u8 0, .int .u8 0, .int .u8 0, .int .u8 0, .int .u8 0, .int .u8 0, .int .u8 0, .int .u8 0, .int .u8 0, .int .u8 0, .int .i64 0, .int .u64 0, .int .i64 0] := ⟨by kernel_rfl⟩
instance : TSz Try.prog 44 19 := ⟨by kernel_rfl⟩
instance : TAgg Try.prog 44 19 := ⟨by kernel_rfl⟩
instance : TFldT Try.prog 44 0 0 28 := ⟨by kernel_rfl⟩
instance : TFld Try.prog 44 0 0 := ⟨by kernel_rfl⟩
instance : TFldT Try.prog 44 1 17 36 := ⟨by kernel_rfl⟩
instance : TFld Try.prog 44 1 17 := ⟨by kernel_rfl⟩
instance : TFldT Try.prog 44 2 18 3 := ⟨by kernel_rfl⟩
instance : TFld Try.prog 44 2 18 := ⟨by kernel_rfl⟩
instance : TLay Try.prog 44 [(0, 17), (17, 1), (18, 1)] := ⟨by kernel_rfl⟩
instance : TEl Try.prog 44 19 40 := ⟨by kernel_rfl⟩
instance : TEq Try.prog 44 [.i .u8, .i .u8, .i .u8, .i .u8, .i .u8, .i .u8, .i .u8, .i .u8, .i .u8, .i .u8, .i .u8, .i .u8, .i .u8, .i .u8, .i .u8, .i .u8, .i .i64, .i .u64, .i .i64] := ⟨by kernel_rfl⟩
instance : TZero Try.prog 44 [.int .u8 0, .int .u8 0, .int .u8 0, .int .u8 0, .int .u8 0, .int .u8 0, .int .u8 0, .int .u8 0, .int .u8 0, .int .u8 0, .int .u8 0, .int .u8 0, .int .u8 0, .int .u8 0, .int .u8 0, .int .u8 0, .int .i64 0, .int .u64 0, .int .i64 0] := ⟨by kernel_rfl⟩
instance : TOne Try.prog 45 := ⟨by kernel_rfl⟩
instance : TSz Try.prog 45 1 := ⟨by kernel_rfl⟩
instance : TZero Try.prog 45 [.nilFunc] := ⟨by kernel_rfl⟩
instance : TOne Try.prog 46 := ⟨by kernel_rfl⟩
instance : TSz Try.prog 46 1 := ⟨by kernel_rfl⟩
instance : TZero Try.prog 46 [.nilFunc] := ⟨by kernel_rfl⟩
instance : TOne Try.prog 48 := ⟨by kernel_rfl⟩
instance : TSz Try.prog 48 1 := ⟨by kernel_rfl⟩
instance : TZero Try.prog 48 [.nilFunc] := ⟨by kernel_rfl⟩
instance : TOne Try.prog 49 := ⟨by kernel_rfl⟩
instance : TSz Try.prog 49 1 := ⟨by kernel_rfl⟩
instance : TZero Try.prog 49 [.nilFunc] := ⟨by kernel_rfl⟩
instance : TOne Try.prog 50 := ⟨by kernel_rfl⟩
instance : TSz Try.prog 50 1 := ⟨by kernel_rfl⟩
instance : TZero Try.prog 50 [.nilFunc] := ⟨by kernel_rfl⟩
instance : TOne Try.prog 51 := ⟨by kernel_rfl⟩
instance : TSz Try.prog 51 1 := ⟨by kernel_rfl⟩
instance : TZero Try.prog 51 [.nilFunc] := ⟨by kernel_rfl⟩
instance : TU Try.prog 52 (TypeDesc.slice 58) := ⟨Try.underlying52⟩
instance : TSz Try.prog 52 1 := ⟨by kernel_rfl⟩
instance : TOne Try.prog 52 := ⟨by kernel_rfl⟩
instance : TEl Try.prog 52 1 24 := ⟨by kernel_rfl⟩
instance : TNI Try.prog 52 := ⟨by kernel_rfl⟩
instance : TZero Try.prog 52 [.slice none 0 0] := ⟨by kernel_rfl⟩
instance : TOne Try.prog 54 := ⟨by kernel_rfl⟩
instance : TSz Try.prog 54 1 := ⟨by kernel_rfl⟩
instance : TZero Try.prog 54 [.nilFunc] := ⟨by kernel_rfl⟩
instance : TU Try.prog 55 (TypeDesc.slice 111) := ⟨Try.underlying55⟩
instance : TSz Try.prog 55 1 := ⟨by kernel_rfl⟩
instance : TOne Try.prog 55 := ⟨by kernel_rfl⟩
instance : TEl Try.prog 55 1 24 := ⟨by kernel_rfl⟩
instance : TNI Try.prog 55 := ⟨by kernel_rfl⟩
instance : TZero Try.prog 55 [.slice none 0 0] := ⟨by kernel_rfl⟩
instance : TU Try.prog 56 (TypeDesc.slice 116) := ⟨Try.underlying56⟩
instance : TSz Try.prog 56 1 := ⟨by kernel_rfl⟩
instance : TOne Try.prog 56 := ⟨by kernel_rfl⟩
instance : TEl Try.prog 56 1 24 := ⟨by kernel_rfl⟩
instance : TNI Try.prog 56 := ⟨by kernel_rfl⟩
instance : TZero Try.prog 56 [.slice none 0 0] := ⟨by kernel_rfl⟩
instance : TSz Try.prog 57 20 := ⟨by kernel_rfl⟩
instance : TAgg Try.prog 57 20 := ⟨by kernel_rfl⟩
instance : TFldT Try.prog 57 0 0 26 := ⟨by kernel_rfl⟩
instance : TFld Try.prog 57 0 0 := ⟨by kernel_rfl⟩
instance : TFldT Try.prog 57 1 16 3 := ⟨by kernel_rfl⟩
instance : TFld Try.prog 57 1 16 := ⟨by kernel_rfl⟩
instance : TFldT Try.prog 57 2 17 3 := ⟨by kernel_rfl⟩
instance : TFld Try.prog 57 2 17 := ⟨by kernel_rfl⟩
instance : TFldT Try.prog 57 3 18 55 := ⟨by kernel_rfl⟩
instance : TFld Try.prog 57 3 18 := ⟨by kernel_rfl⟩
instance : TFldT Try.prog 57 4 19 56 := ⟨by kernel_rfl⟩
instance : TFld Try.prog 57 4 19 := ⟨by kernel_rfl⟩
instance : TLay Try.prog 57 [(0, 16), (16, 1), (17, 1), (18, 1), (19, 1)] := ⟨by kernel_rfl⟩
instance : TEl Try.prog 57 20 80 := ⟨by kernel_rfl⟩
instance : TZero Try.prog 57 [.int .u8 0, .int .u8 0, .int .u8 0, .int .u8 0, .int .u8 0, .int .u8 0, .int .u8 0, .int .u8 0, .int .u8 0, .int .u8 0, .int .u8 0, .int .u8 0, .int .u8 0, .int .u8 0, .int .u8 0, .int .u8 0, .int .i64 0, .int .i64 0, .slice none 0 0, .slice none 0 0] := ⟨by kernel_rfl⟩
instance : TSz Try.prog 58 20 := ⟨by kernel_rfl⟩
instance : TAgg Try.prog 58 20 := ⟨by kernel_rfl⟩
instance : TFldT Try.prog 58 0 0 26 := ⟨by kernel_rfl⟩
instance : TFld Try.prog 58 0 0 := ⟨by kernel_rfl⟩
instance : TFldT Try.prog 58 1 16 3 := ⟨by kernel_rfl⟩
instance : TFld Try.prog 58 1 16 := ⟨by kernel_rfl⟩
instance : TFldT Try.prog 58 2 17 3 := ⟨by kernel_rfl⟩
instance : TFld Try.prog 58 2 17 := ⟨by kernel_rfl⟩
instance : TFldT Try.prog 58 3 18 55 := ⟨by kernel_rfl⟩
instance : TFld Try.prog 58 3 18 := ⟨by kernel_rfl⟩
instance : TFldT Try.prog 58 4 19 56 := ⟨by kernel_rfl⟩
instance : TFld Try.prog 58 4 19 := ⟨by kernel_rfl⟩
instance : TLay Try.prog 58 [(0, 16), (16, 1), (17, 1), (18, 1), (19, 1)] := ⟨by kernel_rfl⟩
instance : TEl Try.prog 58 20 80 := ⟨by kernel_rfl⟩
instance : TZero Try.prog 58 [.int .u8 0, .int .u8 0, .int .u8 0, .int .u8 0, .int .u8 0, .int .u8 0, .int .u8 0, .int .u8 0, .int .u8 0, .int .u8 0, .int .u8 0, .int .u8 0, .int .u8 0, .int .u8 0, .int .u8 0, .int .u8 0, .int .i64 0, .int .i64 0, .slice none 0 0, .slice none 0 0] := ⟨by kernel_rfl⟩
instance : TOne Try.prog 59 := ⟨by kernel_rfl⟩
instance : TSz Try.prog 59 1 := ⟨by kernel_rfl⟩
instance : TZero Try.prog 59 [.nilFunc] := ⟨by kernel_rfl⟩
instance : TOne Try.prog 60 := ⟨by kernel_rfl⟩
instance : TSz Try.prog 60 1 := ⟨by kernel_rfl⟩
instance : TZero Try.prog 60 [.nilFunc] := ⟨by kernel_rfl⟩
instance : TOne Try.prog 61 := ⟨by kernel_rfl⟩
instance : TSz Try.prog 61 1 := ⟨by kernel_rfl⟩
instance : TZero Try.prog 61 [.nilFunc] := ⟨by kernel_rfl⟩
instance : TOne Try.prog 62 := ⟨by kernel_rfl⟩
instance : TSz Try.prog 62 1 := ⟨by kernel_rfl⟩
instance : TZero Try.prog 62 [.nilFunc] := ⟨by kernel_rfl⟩
instance : TOne Try.prog 63 := ⟨by kernel_rfl⟩
instance : TSz Try.prog 63 1 := ⟨by kernel_rfl⟩
instance : TZero Try.prog 63 [.nilFunc] := ⟨by kernel_rfl⟩
instance : TOne Try.prog 64 := ⟨by kernel_rfl⟩
instance : TSz Try.prog 64 1 := ⟨by kernel_rfl⟩
instance : TZero Try.prog 64 [.nilFunc] := ⟨by kernel_rfl⟩
instance : TOne Try.prog 65 := ⟨by kernel_rfl⟩
instance : TSz Try.prog 65 1 := ⟨by kernel_rfl⟩
instance : TZero Try.prog 65 [.nilFunc] := ⟨by kernel_rfl⟩
instance : TOne Try.prog 66 := ⟨by kernel_rfl⟩
instance : TSz Try.prog 66 1 := ⟨by kernel_rfl⟩
instance : TZero Try.prog 66 [.nilFunc] := ⟨by kernel_rfl⟩
instance : TOne Try.prog 67 := ⟨by kernel_rfl⟩
instance : TSz Try.prog 67 1 := ⟨by kernel_rfl⟩
instance : TZero Try.prog 67 [.nilFunc] := ⟨by kernel_rfl⟩
instance : TU Try.prog 68 (TypeDesc.int IntKind.u16) := ⟨Try.underlying68⟩
instance : TSz Try.prog 68 1 := ⟨by kernel_rfl⟩
instance : TOne Try.prog 68 := ⟨by kernel_rfl⟩
instance : TEl Try.prog 68 1 2 := ⟨by kernel_rfl⟩
instance : TZero Try.prog 68 [.int .u16 0] := ⟨by kernel_rfl⟩
instance : TU Try.prog 69 (TypeDesc.int IntKind.u16) := ⟨Try.underlying69⟩
instance : TSz Try.prog 69 1 := ⟨by kernel_rfl⟩
instance : TOne Try.prog 69 := ⟨by kernel_rfl⟩
instance : TEl Try.prog 69 1 2 := ⟨by kernel_rfl⟩
instance : TZero Try.prog 69 [.int .u16 0] := ⟨by kernel_rfl⟩
instance : TSz Try.prog 70 3 := ⟨by kernel_rfl⟩
instance : TAgg Try.prog 70 3 := ⟨by kernel_rfl⟩
instance : TFldT Try.prog 70 0 0 3 := ⟨by kernel_rfl⟩
instance : TFld Try.prog 70 0 0 := ⟨by kernel_rfl⟩
instance : TFldT Try.prog 70 1 1 69 := ⟨by kernel_rfl⟩
instance : TFld Try.prog 70 1 1 := ⟨by kernel_rfl⟩
instance : TFldT Try.prog 70 2 2 36 := ⟨by kernel_rfl⟩
instance : TFld Try.prog 70 2 2 := ⟨by kernel_rfl⟩
instance : TLay Try.prog 70 [(0, 1), (1, 1), (2, 1)] := ⟨by kernel_rfl⟩
instance : TEl Try.prog 70 3 24 := ⟨by kernel_rfl⟩
instance : TEq Try.prog 70 [.i .i64, .i .u16, .i .u64] := ⟨by kernel_rfl⟩
instance : TZero Try.prog 70 [.int .i64 0, .int .u16 0, .int .u64 0] := ⟨by kernel_rfl⟩
instance : TSz Try.prog 71 3 := ⟨by kernel_rfl⟩
instance : TAgg Try.prog 71 3 := ⟨by kernel_rfl⟩
instance : TFldT Try.prog 71 0 0 3 := ⟨by kernel_rfl⟩
instance : TFld Try.prog 71 0 0 := ⟨by kernel_rfl⟩
instance : TFldT Try.prog 71 1 1 69 := ⟨by kernel_rfl⟩
instance : TFld Try.prog 71 1 1 := ⟨by kernel_rfl⟩
instance : TFldT Try.prog 71 2 2 36 := ⟨by kernel_rfl⟩
instance : TFld Try.prog 71 2 2 := ⟨by kernel_rfl⟩
instance : TLay Try.prog 71 [(0, 1), (1, 1), (2, 1)] := ⟨by kernel_rfl⟩
instance : TEl Try.prog 71 3 24 := ⟨by kernel_rfl⟩
instance : TEq Try.prog 71 [.i .i64, .i .u16, .i .u64] := ⟨by kernel_rfl⟩
instance : TZero Try.prog 71 [.int .i64 0, .int .u16 0, .int .u64 0] := ⟨by kernel_rfl⟩
instance : TSz Try.prog 72 4 := ⟨by kernel_rfl⟩
instance : TAgg Try.prog 72 4 := ⟨by kernel_rfl⟩
instance : TFldT Try.prog 72 0 0 36 := ⟨by kernel_rfl⟩
instance : TFld Try.prog 72 0 0 := ⟨by kernel_rfl⟩
instance : TFldT Try.prog 72 1 1 5 := ⟨by kernel_rfl⟩
instance : TFld Try.prog 72 1 1 := ⟨by kernel_rfl⟩
instance : TFldT Try.prog 72 2 2 5 := ⟨by kernel_rfl⟩
instance : TFld Try.prog 72 2 2 := ⟨by kernel_rfl⟩
instance : TFldT Try.prog 72 3 3 68 := ⟨by kernel_rfl⟩
instance : TFld Try.prog 72 3 3 := ⟨by kernel_rfl⟩
instance : TLay Try.prog 72 [(0, 1), (1, 1), (2, 1), (3, 1)] := ⟨by kernel_rfl⟩
instance : TEl Try.prog 72 4 16 := ⟨by kernel_rfl⟩
instance : TEq Try.prog 72 [.i .u64, .i .u8, .i .u8, .i .u16] := ⟨by kernel_rfl⟩
instance : TZero Try.prog 72 [.int .u64 0, .int .u8 0, .int .u8 0, .int .u16 0] := ⟨by kernel_rfl⟩
instance : TSz Try.prog 73 4 := ⟨by kernel_rfl⟩
instance : TAgg Try.prog 73 4 := ⟨by kernel_rfl⟩
instance : TFldT Try.prog 73 0 0 36 := ⟨by kernel_rfl⟩
instance : TFld Try.prog 73 0 0 := ⟨by kernel_rfl⟩
instance : TFldT Try.prog 73 1 1 5 := ⟨by kernel_rfl⟩
instance : TFld Try.prog 73 1 1 := ⟨by kernel_rfl⟩
instance : TFldT Try.prog 73 2 2 5 := ⟨by kernel_rfl⟩
instance : TFld Try.prog 73 2 2 := ⟨by kernel_rfl⟩
instance : TFldT Try.prog 73 3 3 68 := ⟨by kernel_rfl⟩
instance : TFld Try.prog 73 3 3 := ⟨by kernel_rfl⟩
instance : TLay Try.prog 73 [(0, 1), (1, 1), (2, 1), (3, 1)] := ⟨by kernel_rfl⟩
instance : TEl Try.prog 73 4 16 := ⟨by kernel_rfl⟩
instance : TEq Try.prog 73 [.i .u64, .i .u8, .i .u8, .i .u16] := ⟨by kernel_rfl⟩
instance : TZero Try.prog 73 [.int .u64 0, .int .u8 0, .int .u8 0, .int .u16 0] := ⟨by kernel_rfl⟩
instance : TU Try.prog 74 (TypeDesc.int IntKind.u32) := ⟨Try.underlying74⟩
instance : TSz Try.prog 74 1 := ⟨by kernel_rfl⟩
instance : TOne Try.prog 74 := ⟨by kernel_rfl⟩
instance : TEl Try.prog 74 1 4 := ⟨by kernel_rfl⟩
instance : TZero Try.prog 74 [.int .u32 0] := ⟨by kernel_rfl⟩
instance : TSz Try.prog 75 18 := ⟨by kernel_rfl⟩
instance : TAgg Try.prog 75 18 := ⟨by kernel_rfl⟩
instance : TFldT Try.prog 75 0 0 74 := ⟨by kernel_rfl⟩
instance : TFld Try.prog 75 0 0 := ⟨by kernel_rfl⟩
instance : TFldT Try.prog 75 1 1 68 := ⟨by kernel_rfl⟩
instance : TFld Try.prog 75 1 1 := ⟨by kernel_rfl⟩
instance : TFldT Try.prog 75 2 2 26 := ⟨by kernel_rfl⟩
instance : TFld Try.prog 75 2 2 := ⟨by kernel_rfl⟩
instance : TLay Try.prog 75 [(0, 1), (1, 1), (2, 16)] := ⟨by kernel_rfl⟩
instance : TEl Try.prog 75 18 24 := ⟨by kernel_rfl⟩
instance : TEq Try.prog 75 [.i .u32, .i .u16, .i .u8, .i .u8, .i .u8, .i .u8, .i .u8, .i .u8, .i .u8, .i .u8, .i .u8, .i .u8, .i .u8, .i .u8, .i .u8, .i .u8, .i .u8, .i .u8] := ⟨by kernel_rfl⟩
instance : TZero Try.prog 75 [.int .u32 0, .int .u16 0, .int .u8 0, .int .u8 0, .int .u8 0, .int .u8 0, .int .u8 0, .int .u8 0, .int .u8 0, .int .u8 0, .int .u8 0, .int .u8 0, .int .u8 0, .int .u8 0, .int .u8 0, .int .u8 0, .int .u8 0, .int .u8 0] := ⟨by kernel_rfl⟩
instance : TSz Try.prog 76 18 := ⟨by kernel_rfl⟩
instance : TAgg Try.prog 76 18 := ⟨by kernel_rfl⟩
instance : TFldT Try.prog 76 0 0 74 := ⟨by kernel_rfl⟩
instance : TFld Try.prog 76 0 0 := ⟨by kernel_rfl⟩
instance : TFldT Try.prog 76 1 1 68 := ⟨by kernel_rfl⟩
instance : TFld Try.prog 76 1 1 := ⟨by kernel_rfl⟩
instance : TFldT Try.prog 76 2 2 26 := ⟨by kernel_rfl⟩
instance : TFld Try.prog 76 2 2 := ⟨by kernel_rfl⟩
instance : TLay Try.prog 76 [(0, 1), (1, 1), (2, 16)] := ⟨by kernel_rfl⟩
instance : TEl Try.prog 76 18 24 := ⟨by kernel_rfl⟩
instance : TEq Try.prog 76 [.i .u32, .i .u16, .i .u8, .i .u8, .i .u8, .i .u8, .i .u8, .i .u8, .i .u8, .i .u8, .i .u8, .i .u8, .i .u8, .i .u8, .i .u8, .i .u8, .i .u8, .i .u8] := ⟨by kernel_rfl⟩
instance : TZero Try.prog 76 [.int .u32 0, .int .u16 0, .int .u8 0, .int .u8 0, .int .u8 0, .int .u8 0, .int .u8 0, .int .u8 0, .int .u8 0, .int .u8 0, .int .u8 0, .int .u8 0, .int .u8 0, .int .u8 0, .int .u8 0, .int .u8 0, .int .u8 0, .int .u8 0] := ⟨by kernel_rfl⟩
instance : TSz Try.prog 77 48 := ⟨by kernel_rfl⟩
instance : TAgg Try.prog 77 48 := ⟨by kernel_rfl⟩
instance : TFldT Try.prog 77 0 0 5 := ⟨by kernel_rfl⟩
instance : TFld Try.prog 77 0 0 := ⟨by kernel_rfl⟩
instance : TFldT Try.prog 77 1 1 5 := ⟨by kernel_rfl⟩
instance : TFld Try.prog 77 1 1 := ⟨by kernel_rfl⟩
instance : TFldT Try.prog 77 2 2 68 := ⟨by kernel_rfl⟩
instance : TFld Try.prog 77 2 2 := ⟨by kernel_rfl⟩
instance : TFldT Try.prog 77 3 3 26 := ⟨by kernel_rfl⟩
instance : TFld Try.prog 77 3 3 := ⟨by kernel_rfl⟩
instance : TFldT Try.prog 77 4 19 71 := ⟨by kernel_rfl⟩
instance : TFld Try.prog 77 4 19 := ⟨by kernel_rfl⟩
instance : TFldT Try.prog 77 5 22 73 := ⟨by kernel_rfl⟩
instance : TFld Try.prog 77 5 22 := ⟨by kernel_rfl⟩
instance : TFldT Try.prog 77 6 26 4 := ⟨by kernel_rfl⟩
instance : TFld Try.prog 77 6 26 := ⟨by kernel_rfl⟩
instance : TFldT Try.prog 77 7 27 55 := ⟨by kernel_rfl⟩
instance : TFld Try.prog 77 7 27 := ⟨by kernel_rfl⟩
instance : TFldT Try.prog 77 8 28 56 := ⟨by kernel_rfl⟩
instance : TFld Try.prog 77 8 28 := ⟨by kernel_rfl⟩
instance : TFldT Try.prog 77 9 29 76 := ⟨by kernel_rfl⟩
instance : TFld Try.prog 77 9 29 := ⟨by kernel_rfl⟩
instance : TFldT Try.prog 77 10 47 4 := ⟨by kernel_rfl⟩
instance : TFld Try.prog 77 10 47 := ⟨by kernel_rfl⟩
instance : TLay Try.prog 77 [(0, 1), (1, 1), (2, 1), (3, 16), (19, 3), (22, 4), (26, 1), (27, 1), (28, 1), (29, 18), (47, 1)] := ⟨by kernel_rfl⟩
instance : TEl Try.prog 77 48 152 := ⟨by kernel_rfl⟩
instance : TSz Try.prog 78 48 := ⟨by kernel_rfl⟩
instance : TAgg Try.prog 78 48 := ⟨by kernel_rfl⟩
instance : TFldT Try.prog 78 0 0 5 := ⟨by kernel_rfl⟩
instance : TFld Try.prog 78 0 0 := ⟨by kernel_rfl⟩
instance : TFldT Try.prog 78 1 1 5 := ⟨by kernel_rfl⟩
instance : TFld Try.prog 78 1 1 := ⟨by kernel_rfl⟩
instance : TFldT Try.prog 78 2 2 68 := ⟨by kernel_rfl⟩
instance : TFld Try.prog 78 2 2 := ⟨by kernel_rfl⟩
instance : TFldT Try.prog 78 3 3 26 := ⟨by kernel_rfl⟩
instance : TFld Try.prog 78 3 3 := ⟨by kernel_rfl⟩
instance : TFldT Try.prog 78 4 19 71 := ⟨by kernel_rfl⟩
instance : TFld Try.prog 78 4 19 := ⟨by kernel_rfl⟩
instance : TFldT Try.prog 78 5 22 73 := ⟨by kernel_rfl⟩
instance : TFld Try.prog 78 5 22 := ⟨by kernel_rfl⟩
instance : TFldT Try.prog 78 6 26 4 := ⟨by kernel_rfl⟩
instance : TFld Try.prog 78 6 26 := ⟨by kernel_rfl⟩
instance : TFldT Try.prog 78 7 27 55 := ⟨by kernel_rfl⟩
instance : TFld Try.prog 78 7 27 := ⟨by kernel_rfl⟩
instance : TFldT Try.prog 78 8 28 56 := ⟨by kernel_rfl⟩
instance : TFld Try.prog 78 8 28 := ⟨by kernel_rfl⟩
instance : TFldT Try.prog 78 9 29 76 := ⟨by kernel_rfl⟩
instance : TFld Try.prog 78 9 29 := ⟨by kernel_rfl⟩
instance : TFldT Try.prog 78 10 47 4 := ⟨by kernel_rfl⟩
instance : TFld Try.prog 78 10 47 := ⟨by kernel_rfl⟩
instance : TLay Try.prog 78 [(0, 1), (1, 1), (2, 1), (3, 16), (19, 3), (22, 4), (26, 1), (27, 1), (28, 1), (29, 18), (47, 1)] := ⟨by kernel_rfl⟩
instance : TEl Try.prog 78 48 152 := ⟨by kernel_rfl⟩
instance : TOne Try.prog 79 := ⟨by kernel_rfl⟩
instance : TSz Try.prog 79 1 := ⟨by kernel_rfl⟩
instance : TZero Try.prog 79 [.nilFunc] := ⟨by kernel_rfl⟩
instance : TU Try.prog 80 (TypeDesc.slice 78) := ⟨Try.underlying80⟩
instance : TSz Try.prog 80 1 := ⟨by kernel_rfl⟩
instance : TOne Try.prog 80 := ⟨by kernel_rfl⟩
instance : TEl Try.prog 80 1 24 := ⟨by kernel_rfl⟩
instance : TNI Try.prog 80 := ⟨by kernel_rfl⟩
instance : TZero Try.prog 80 [.slice none 0 0] := ⟨by kernel_rfl⟩
instance : TOne Try.prog 82 := ⟨by kernel_rfl⟩
instance : TSz Try.prog 82 1 := ⟨by kernel_rfl⟩
instance : TZero Try.prog 82 [.nilFunc] := ⟨by kernel_rfl⟩
instance : TOne Try.prog 83 := ⟨by kernel_rfl⟩
instance : TSz Try.prog 83 1 := ⟨by kernel_rfl⟩
instance : TZero Try.prog 83 [.nilFunc] := ⟨by kernel_rfl⟩
instance : TOne Try.prog 84 := ⟨by kernel_rfl⟩
instance : TSz Try.prog 84 1 := ⟨by kernel_rfl⟩
instance : TZero Try.prog 84 [.nilFunc] := ⟨by kernel_rfl⟩
instance : TOne Try.prog 85 := ⟨by kernel_rfl⟩
instance : TSz Try.prog 85 1 := ⟨by kernel_rfl⟩
instance : TZero Try.prog 85 [.nilFunc] := ⟨by kernel_rfl⟩
instance : TOne Try.prog 86 := ⟨by kernel_rfl⟩
instance : TSz Try.prog 86 1 := ⟨by kernel_rfl⟩
instance : TZero Try.prog 86 [.nilFunc] := ⟨by kernel_rfl⟩
instance : TOne Try.prog 87 := ⟨by kernel_rfl⟩
instance : TSz Try.prog 87 1 := ⟨by kernel_rfl⟩
instance : TZero Try.prog 87 [.nilFunc] := ⟨by kernel_rfl⟩
instance : TSz Try.prog 88 2 := ⟨by kernel_rfl⟩
instance : TAgg Try.prog 88 2 := ⟨by kernel_rfl⟩
instance : TFldT Try.prog 88 0 0 22 := ⟨by kernel_rfl⟩
instance : TFld Try.prog 88 0 0 := ⟨by kernel_rfl⟩
instance : TFldT Try.prog 88 1 1 3 := ⟨by kernel_rfl⟩
instance : TFld Try.prog 88 1 1 := ⟨by kernel_rfl⟩
instance : TLay Try.prog 88 [(0, 1), (1, 1)] := ⟨by kernel_rfl⟩
instance : TEl Try.prog 88 2 32 := ⟨by kernel_rfl⟩
instance : TZero Try.prog 88 [.slice none 0 0, .int .i64 0] := ⟨by kernel_rfl⟩
instance : TSz Try.prog 89 2 := ⟨by kernel_rfl⟩
instance : TAgg Try.prog 89 2 := ⟨by kernel_rfl⟩
instance : TFldT Try.prog 89 0 0 22 := ⟨by kernel_rfl⟩
instance : TFld Try.prog 89 0 0 := ⟨by kernel_rfl⟩
instance : TFldT Try.prog 89 1 1 3 := ⟨by kernel_rfl⟩
instance : TFld Try.prog 89 1 1 := ⟨by kernel_rfl⟩
instance : TLay Try.prog 89 [(0, 1), (1, 1)] := ⟨by kernel_rfl⟩
instance : TEl Try.prog 89 2 32 := ⟨by kernel_rfl⟩
instance : TZero Try.prog 89 [.slice none 0 0, .int .i64 0] := ⟨by kernel_rfl⟩
instance : TOne Try.prog 90 := ⟨by kernel_rfl⟩
instance : TSz Try.prog 90 1 := ⟨by kernel_rfl⟩
instance : TZero Try.prog 90 [.nilFunc] := ⟨by kernel_rfl⟩
instance : TU Try.prog 91 (TypeDesc.int IntKind.u64) := ⟨Try.underlying91⟩
instance : TSz Try.prog 91 1 := ⟨by kernel_rfl⟩
instance : TOne Try.prog 91 := ⟨by kernel_rfl⟩
instance : TEl Try.prog 91 1 8 := ⟨by kernel_rfl⟩
instance : TZero Try.prog 91 [.int .u64 0] := ⟨by kernel_rfl⟩
instance : TOne Try.prog 92 := ⟨by kernel_rfl⟩
instance : TSz Try.prog 92 1 := ⟨by kernel_rfl⟩
instance : TZero Try.prog 92 [.nilFunc] := ⟨by kernel_rfl⟩
instance : TOne Try.prog 93 := ⟨by kernel_rfl⟩
instance : TSz Try.prog 93 1 := ⟨by kernel_rfl⟩
instance : TZero Try.prog 93 [.nilFunc] := ⟨by kernel_rfl⟩
instance : TOne Try.prog 95 := ⟨by kernel_rfl⟩
instance : TSz Try.prog 95 1 := ⟨by kernel_rfl⟩
instance : TZero Try.prog 95 [.nilFunc] := ⟨by kernel_rfl⟩
instance : TOne Try.prog 96 := ⟨by kernel_rfl⟩
instance : TSz Try.prog 96 1 := ⟨by kernel_rfl⟩
instance : TZero Try.prog 96 [.nilFunc] := ⟨by kernel_rfl⟩
instance : TOne Try.prog 97 := ⟨by kernel_rfl⟩
instance : TSz Try.prog 97 1 := ⟨by kernel_rfl⟩
instance : TZero Try.prog 97 [.nilFunc] := ⟨by kernel_rfl⟩
instance : TOne Try.prog 98 := ⟨by kernel_rfl⟩
instance : TSz Try.prog 98 1 := ⟨by kernel_rfl⟩
instance : TZero Try.prog 98 [.nilFunc] := ⟨by kernel_rfl⟩
instance : TOne Try.prog 99 := ⟨by kernel_rfl⟩
instance : TSz Try.prog 99 1 := ⟨by kernel_rfl⟩
instance : TZero Try.prog 99 [.nilFunc] := ⟨by kernel_rfl⟩
instance : TOne Try.prog 100 := ⟨by kernel_rfl⟩
instance : TSz Try.prog 100 1 := ⟨by kernel_rfl⟩
instance : TZero Try.prog 100 [.nilFunc] := ⟨by kernel_rfl⟩
instance : TOne Try.prog 101 := ⟨by kernel_rfl⟩
instance : TSz Try.prog 101 1 := ⟨by kernel_rfl⟩
instance : TZero Try.prog 101 [.nilFunc] := ⟨by kernel_rfl⟩
instance : TOne Try.prog 102 := ⟨by kernel_rfl⟩
instance : TSz Try.prog 102 1 := ⟨by kernel_rfl⟩
instance : TZero Try.prog 102 [.nilFunc] := ⟨by kernel_rfl⟩
instance : TOne Try.prog 103 := ⟨by kernel_rfl⟩
instance : TSz Try.prog 103 1 := ⟨by kernel_rfl⟩
instance : TZero Try.prog 103 [.nilFunc] := ⟨by kernel_rfl⟩
instance : TOne Try.prog 104 := ⟨by kernel_rfl⟩
instance : TSz Try.prog 104 1 := ⟨by kernel_rfl⟩
instance : TZero Try.prog 104 [.nilFunc] := ⟨by kernel_rfl⟩
instance : TOne Try.prog 105 := ⟨by kernel_rfl⟩
instance : TSz Try.prog 105 1 := ⟨by kernel_rfl⟩
instance : TZero Try.prog 105 [.nilFunc] := ⟨by kernel_rfl⟩
instance : TOne Try.prog 107 := ⟨by kernel_rfl⟩
instance : TSz Try.prog 107 1 := ⟨by kernel_rfl⟩
instance : TZero Try.prog 107 [.nilFunc] := ⟨by kernel_rfl⟩
instance : TOne Try.prog 108 := ⟨by kernel_rfl⟩
instance : TSz Try.prog 108 1 := ⟨by kernel_rfl⟩
instance : TZero Try.prog 108 [.nilFunc] := ⟨by kernel_rfl⟩
instance : TOne Try.prog 109 := ⟨by kernel_rfl⟩
instance : TSz Try.prog 109 1 := ⟨by kernel_rfl⟩
instance : TZero Try.prog 109 [.nilFunc] := ⟨by kernel_rfl⟩
instance : TSz Try.prog 110 20 := ⟨by kernel_rfl⟩
instance : TAgg Try.prog 110 20 := ⟨by kernel_rfl⟩
instance : TFldT Try.prog 110 0 0 28 := ⟨by kernel_rfl⟩
instance : TFld Try.prog 110 0 0 := ⟨by kernel_rfl⟩
instance : TFldT Try.prog 110 1 17 4 := ⟨by kernel_rfl⟩
instance : TFld Try.prog 110 1 17 := ⟨by kernel_rfl⟩
instance : TFldT Try.prog 110 2 18 4 := ⟨by kernel_rfl⟩
instance : TFld Try.prog 110 2 18 := ⟨by kernel_rfl⟩
instance : TFldT Try.prog 110 3 19 74 := ⟨by kernel_rfl⟩
instance : TFld Try.prog 110 3 19 := ⟨by kernel_rfl⟩
instance : TLay Try.prog 110 [(0, 17), (17, 1), (18, 1), (19, 1)] := ⟨by kernel_rfl⟩
instance : TEl Try.prog 110 20 32 := ⟨by kernel_rfl⟩
instance : TEq Try.prog 110 [.i .u8, .i .u8, .i .u8, .i .u8, .i .u8, .i .u8, .i .u8, .i .u8, .i .u8, .i .u8, .i .u8, .i .u8, .i .u8, .i .u8, .i .u8, .i .u8, .i .i64, .b, .b, .i .u32] := ⟨by kernel_rfl⟩
instance : TZero Try.prog 110 [.int .u8 0, .int .u8 0, .int .u8 0, .int .u8 0, .int .u8 0, .int .u8 0, .int .u8 0, .int .u8 0, .int .u8 0, .int .u8 0, .int .u8 0, .int .u8 0, .int .u8 0, .int .u8 0, .int .u8 0, .int .u8 0, .int .i64 0, .bool false, .bool false, .int .u32 0] := ⟨by kernel_rfl⟩
instance : TSz Try.prog 111 20 := ⟨by kernel_rfl⟩
instance : TAgg Try.prog 111 20 := ⟨by kernel_rfl⟩
instance : TFldT Try.prog 111 0 0 28 := ⟨by kernel_rfl⟩
instance : TFld Try.prog 111 0 0 := ⟨by kernel_rfl⟩
instance : TFldT Try.prog 111 1 17 4 := ⟨by kernel_rfl⟩
instance : TFld Try.prog 111 1 17 := ⟨by kernel_rfl⟩
instance : TFldT Try.prog 111 2 18 4 := ⟨by kernel_rfl⟩
instance : TFld Try.prog 111 2 18 := ⟨by kernel_rfl⟩
instance : TFldT Try.prog 111 3 19 74 := ⟨by kernel_rfl⟩
instance : TFld Try.prog 111 3 19 := ⟨by kernel_rfl⟩
instance : TLay Try.prog 111 [(0, 17), (17, 1), (18, 1), (19, 1)] := ⟨by kernel_rfl⟩
instance : TEl Try.prog 111 20 32 := ⟨by kernel_rfl⟩
instance : TEq Try.prog 111 [.i .u8, .i .u8, .i .u8, .i .u8, .i .u8, .i .u8, .i .u8, .i .u8, .i .u8, .i .u8, .i .u8, .i .u8, .i .u8, .i .u8, .i .u8, .i .u8, .i .i64, .b, .b, .i .u32] := ⟨by kernel_rfl⟩
instance : TZero Try.prog 111 [.int .u8 0, .int .u8 0, .int .u8 0, .int .u8 0, .int .u8 0, .int .u8 0, .int .u8 0, .int .u8 0, .int .u8 0, .int .u8 0, .int .u8 0, .int .u8 0, .int .u8 0, .int .u8 0, .int .u8 0, .int .u8 0, .int .i64 0, .bool false, .bool false, .int .u32 0] := ⟨by kernel_rfl⟩
instance : TU Try.prog 112 (TypeDesc.slice 26) := ⟨Try.underlying112⟩
instance : TSz Try.prog 112 1 := ⟨by kernel_rfl⟩
instance : TOne Try.prog 112 := ⟨by kernel_rfl⟩
instance : TEl Try.prog 112 1 24 := ⟨by kernel_rfl⟩
instance : TNI Try.prog 112 := ⟨by kernel_rfl⟩
instance : TZero Try.prog 112 [.slice none 0 0] := ⟨by kernel_rfl⟩
instance : TOne Try.prog 113 := ⟨by kernel_rfl⟩
instance : TSz Try.prog 113 1 := ⟨by kernel_rfl⟩
instance : TZero Try.prog 113 [.nilFunc] := ⟨by kernel_rfl⟩
instance : TOne Try.prog 114 := ⟨by kernel_rfl⟩
instance : TSz Try.prog 114 1 := ⟨by kernel_rfl⟩
instance : TZero Try.prog 114 [.nilFunc] := ⟨by kernel_rfl⟩
instance : TSz Try.prog 115 20 := ⟨by kernel_rfl⟩
instance : TAgg Try.prog 115 20 := ⟨by kernel_rfl⟩
instance : TFldT Try.prog 115 0 0 3 := ⟨by kernel_rfl⟩
instance : TFld Try.prog 115 0 0 := ⟨by kernel_rfl⟩
instance : TFldT Try.prog 115 1 1 28 := ⟨by kernel_rfl⟩
instance : TFld Try.prog 115 1 1 := ⟨by kernel_rfl⟩
instance : TFldT Try.prog 115 2 18 4 := ⟨by kernel_rfl⟩
instance : TFld Try.prog 115 2 18 := ⟨by kernel_rfl⟩
instance : TFldT Try.prog 115 3 19 68 := ⟨by kernel_rfl⟩
instance : TFld Try.prog 115 3 19 := ⟨by kernel_rfl⟩
instance : TLay Try.prog 115 [(0, 1), (1, 17), (18, 1), (19, 1)] := ⟨by kernel_rfl⟩
instance : TEl Try.prog 115 20 40 := ⟨by kernel_rfl⟩
instance : TEq Try.prog 115 [.i .i64, .i .u8, .i .u8, .i .u8, .i .u8, .i .u8, .i .u8, .i .u8, .i .u8, .i .u8, .i .u8, .i .u8, .i .u8, .i .u8, .i .u8, .i .u8, .i .u8, .i .i64, .b, .i .u16] := ⟨by kernel_rfl⟩
instance : TZero Try.prog 115 [.int .i64 0, .int .u8 0, .int .u8 0, .int .u8 0, .int .u8 0, .int .u8 0, .int .u8 0, .int .u8 0, .int .u8 0, .int .u8 0, .int .u8 0, .int .u8 0, .int .u8 0, .int .u8 0, .int .u8 0, .int .u8 0, .int .u8 0, .int .i64 0, .bool false, .int .u16 0] := ⟨by kernel_rfl⟩
instance : TSz Try.prog 116 20 := ⟨by kernel_rfl⟩
instance : TAgg Try.prog 116 20 := ⟨by kernel_rfl⟩
instance : TFldT Try.prog 116 0 0 3 := ⟨by kernel_rfl⟩
instance : TFld Try.prog 116 0 0 := ⟨by kernel_rfl⟩
instance : TFldT Try.prog 116 1 1 28 := ⟨by kernel_rfl⟩
instance : TFld Try.prog 116 1 1 := ⟨by kernel_rfl⟩
instance : TFldT Try.prog 116 2 18 4 := ⟨by kernel_rfl⟩
instance : TFld Try.prog 116 2 18 := ⟨by kernel_rfl⟩
instance : TFldT Try.prog 116 3 19 68 := ⟨by kernel_rfl⟩
instance : TFld Try.prog 116 3 19 := ⟨by kernel_rfl⟩
instance : TLay Try.prog 116 [(0, 1), (1, 17), (18, 1), (19, 1)] := ⟨by kernel_rfl⟩
instance : TEl Try.prog 116 20 40 := ⟨by kernel_rfl⟩
instance : TEq Try.prog 116 [.i .i64, .i .u8, .i .u8, .i .u8, .i .u8, .i .u8, .i .u8, .i .u8, .i .u8, .i .u8, .i .u8, .i .u8, .i .u8, .i .u8, .i .u8, .i .u8, .i .u8, .i .i64, .b, .i .u16] := ⟨by kernel_rfl⟩
instance : TZero Try.prog 116 [.int .i64 0, .int .u8 0, .int .u8 0, .int .u8 0, .int .u8 0, .int .u8 0, .int .u8 0, .int .u8 0, .int .u8 0, .int .u8 0, .int .u8 0, .int .u8 0, .int .u8 0, .int .u8 0, .int .u8 0, .int .u8 0, .int .u8 0, .int .i64 0, .bool false, .int .u16 0] := ⟨by kernel_rfl⟩
instance : TOne Try.prog 117 := ⟨by kernel_rfl⟩
instance : TSz Try.prog 117 1 := ⟨by kernel_rfl⟩
instance : TZero Try.prog 117 [.nilFunc] := ⟨by kernel_rfl⟩
instance : TOne Try.prog 118 := ⟨by kernel_rfl⟩
instance : TSz Try.prog 118 1 := ⟨by kernel_rfl⟩
instance : TZero Try.prog 118 [.nilFunc] := ⟨by kernel_rfl⟩
instance : TOne Try.prog 119 := ⟨by kernel_rfl⟩
instance : TSz Try.prog 119 1 := ⟨by kernel_rfl⟩
instance : TZero Try.prog 119 [.nilFunc] := ⟨by kernel_rfl⟩
instance : TU Try.prog 120 (TypeDesc.array 16 4) := ⟨Try.underlying120⟩
instance : TSz Try.prog 120 16 := ⟨by kernel_rfl⟩
instance : TAgg Try.prog 120 16 := ⟨by kernel_rfl⟩
instance : TLay Try.prog 120 [(0, 1), (1, 1), (2, 1), (3, 1), (4, 1), (5, 1), (6, 1), (7, 1), (8, 1), (9, 1), (10, 1), (11, 1), (12, 1), (13, 1), (14, 1), (15, 1)] := ⟨by kernel_rfl⟩
instance : TEl Try.prog 120 16 16 := ⟨by kernel_rfl⟩
instance : TEq Try.prog 120 [.b, .b, .b, .b, .b, .b, .b, .b, .b, .b, .b, .b, .b, .b, .b, .b] := ⟨by kernel_rfl⟩
instance : TZero Try.prog 120 [.bool false, .bool false, .bool false, .bool false, .bool false, .bool false, .bool false, .bool false, .bool false, .bool false, .bool false, .bool false, .bool false, .bool false, .bool false, .bool false] := ⟨by kernel_rfl⟩
instance : TOne Try.prog 121 := ⟨by kernel_rfl⟩
instance : TSz Try.prog 121 1 := ⟨by kernel_rfl⟩
instance : TZero Try.prog 121 [.nilFunc] := ⟨by kernel_rfl⟩
instance : TOne Try.prog 122 := ⟨by kernel_rfl⟩
instance : TSz Try.prog 122 1 := ⟨by kernel_rfl⟩
instance : TZero Try.prog 122 [.nilFunc] := ⟨by kernel_rfl⟩
instance : TU Try.prog 123 (TypeDesc.slice 125) := ⟨Try.underlying123⟩
instance : TSz Try.prog 123 1 := ⟨by kernel_rfl⟩
instance : TOne Try.prog 123 := ⟨by kernel_rfl⟩
instance : TEl Try.prog 123 1 24 := ⟨by kernel_rfl⟩
instance : TNI Try.prog 123 := ⟨by kernel_rfl⟩
instance : TZero Try.prog 123 [.slice none 0 0] := ⟨by kernel_rfl⟩
instance : TSz Try.prog 124 20 := ⟨by kernel_rfl⟩
instance : TAgg Try.prog 124 20 := ⟨by kernel_rfl⟩
instance : TFldT Try.prog 124 0 0 3 := ⟨by kernel_rfl⟩
instance : TFld Try.prog 124 0 0 := ⟨by kernel_rfl⟩
instance : TFldT Try.prog 124 1 1 28 := ⟨by kernel_rfl⟩
instance : TFld Try.prog 124 1 1 := ⟨by kernel_rfl⟩
instance : TFldT Try.prog 124 2 18 4 := ⟨by kernel_rfl⟩
instance : TFld Try.prog 124 2 18 := ⟨by kernel_rfl⟩
instance : TFldT Try.prog 124 3 19 3 := ⟨by kernel_rfl⟩
instance : TFld Try.prog 124 3 19 := ⟨by kernel_rfl⟩
instance : TLay Try.prog 124 [(0, 1), (1, 17), (18, 1), (19, 1)] := ⟨by kernel_rfl⟩
instance : TEl Try.prog 124 20 48 := ⟨by kernel_rfl⟩
instance : TEq Try.prog 124 [.i .i64, .i .u8, .i .u8, .i .u8, .i .u8, .i .u8, .i .u8, .i .u8, .i .u8, .i .u8, .i .u8, .i .u8, .i .u8, .i .u8, .i .u8, .i .u8, .i .u8, .i .i64, .b, .i .i64] := ⟨by kernel_rfl⟩
instance : TZero Try.prog 124 [.int .i64 0, .int .u8 0, .int .u8 0, .int .u8 0, .int .u8 0, .int .u8 0, .int .u8 0, .int .u8 0, .int .u8 0, .int .u8 0, .int .u8 0, .int .u8 0, .int .u8 0, .int .u8 0, .int .u8 0, .int .u8 0, .int .u8 0, .int .i64 0, .bool false, .int .i64 0] := ⟨by kernel_rfl⟩
instance : TSz Try.prog 125 20 := ⟨by kernel_rfl⟩
instance : TAgg Try.prog 125 20 := ⟨by kernel_rfl⟩
instance : TFldT Try.prog 125 0 0 3 := ⟨by kernel_rfl⟩
instance : TFld Try.prog 125 0 0 := ⟨by kernel_rfl⟩
instance : TFldT Try.prog 125 1 1 28 := ⟨by kernel_rfl⟩
instance : TFld Try.prog 125 1 1 := ⟨by kernel_rfl⟩
instance : TFldT Try.prog 125 2 18 4 := ⟨by kernel_rfl⟩
instance : TFld Try.prog 125 2 18 := ⟨by kernel_rfl⟩
instance : TFldT Try.prog 125 3 19 3 := ⟨by kernel_rfl⟩
instance : TFld Try.prog 125 3 19 := ⟨by kernel_rfl⟩
instance : TLay Try.prog 125 [(0, 1), (1, 17), (18, 1), (19, 1)] := ⟨by kernel_rfl⟩
instance : TEl Try.prog 125 20 48 := ⟨by kernel_rfl⟩
instance : TEq Try.prog 125 [.i .i64, .i .u8, .i .u8, .i .u8, .i .u8, .i .u8, .i .u8, .i .u8, .i .u8, .i .u8, .i .u8, .i .u8, .i .u8, .i .u8, .i .u8, .i .u8, .i .u8, .i .i64, .b, .i .i64] := ⟨by kernel_rfl⟩
instance : TZero Try.prog 125 [.int .i64 0, .int .u8 0, .int .u8 0, .int .u8 0, .int .u8 0, .int .u8 0, .int .u8 0, .int .u8 0, .int .u8 0, .int .u8 0, .int .u8 0, .int .u8 0, .int .u8 0, .int .u8 0, .int .u8 0, .int .u8 0, .int .u8 0, .int .i64 0, .bool false, .int .i64 0] := ⟨by kernel_rfl⟩
instance : TOne Try.prog 126 := ⟨by kernel_rfl⟩
instance : TSz Try.prog 126 1 := ⟨by kernel_rfl⟩
instance : TZero Try.prog 126 [.nilFunc] := ⟨by kernel_rfl⟩
instance : TOne Try.prog 128 := ⟨by kernel_rfl⟩
instance : TSz Try.prog 128 1 := ⟨by kernel_rfl⟩
instance : TZero Try.prog 128 [.nilFunc] := ⟨by kernel_rfl⟩
instance : TOne Try.prog 129 := ⟨by kernel_rfl⟩
instance : TSz Try.prog 129 1 := ⟨by kernel_rfl⟩
instance : TZero Try.prog 129 [.nilFunc] := ⟨by kernel_rfl⟩
instance : TU Try.prog 130 (TypeDesc.slice 5) := ⟨Try.underlying130⟩
instance : TSz Try.prog 130 1 := ⟨by kernel_rfl⟩
instance : TOne Try.prog 130 := ⟨by kernel_rfl⟩
instance : TEl Try.prog 130 1 24 := ⟨by kernel_rfl⟩
instance : TNI Try.prog 130 := ⟨by kernel_rfl⟩
instance : TZero Try.prog 130 [.slice none 0 0] := ⟨by kernel_rfl⟩
instance : TOne Try.prog 131 := ⟨by kernel_rfl⟩
instance : TSz Try.prog 131 1 := ⟨by kernel_rfl⟩
instance : TZero Try.prog 131 [.nilFunc] := ⟨by kernel_rfl⟩
instance : TOne Try.prog 132 := ⟨by kernel_rfl⟩
instance : TSz Try.prog 132 1 := ⟨by kernel_rfl⟩
instance : TZero Try.prog 132 [.nilFunc] := ⟨by kernel_rfl⟩
instance : TOne Try.prog 133 := ⟨by kernel_rfl⟩
instance : TSz Try.prog 133 1 := ⟨by kernel_rfl⟩
instance : TZero Try.prog 133 [.nilFunc] := ⟨by kernel_rfl⟩
instance : TOne Try.prog 134 := ⟨by kernel_rfl⟩
instance : TSz Try.prog 134 1 := ⟨by kernel_rfl⟩
instance : TZero Try.prog 134 [.nilFunc] := ⟨by kernel_rfl⟩
instance : TOne Try.prog 136 := ⟨by kernel_rfl⟩
instance : TSz Try.prog 136 1 := ⟨by kernel_rfl⟩
instance : TZero Try.prog 136 [.nilFunc] := ⟨by kernel_rfl⟩
instance : TOne Try.prog 138 := ⟨by kernel_rfl⟩
instance : TSz Try.prog 138 1 := ⟨by kernel_rfl⟩
instance : TZero Try.prog 138 [.nilFunc] := ⟨by kernel_rfl⟩
instance : TOne Try.prog 139 := ⟨by kernel_rfl⟩
instance : TSz Try.prog 139 1 := ⟨by kernel_rfl⟩
instance : TZero Try.prog 139 [.nilFunc] := ⟨by kernel_rfl⟩
instance : TOne Try.prog 140 := ⟨by kernel_rfl⟩
instance : TSz Try.prog 140 1 := ⟨by kernel_rfl⟩
instance : TZero Try.prog 140 [.nilFunc] := ⟨by kernel_rfl⟩
instance : TOne Try.prog 141 := ⟨by kernel_rfl⟩
instance : TSz Try.prog 141 1 := ⟨by kernel_rfl⟩
instance : TZero Try.prog 141 [.nilFunc] := ⟨by kernel_rfl⟩
instance : TOne Try.prog 142 := ⟨by kernel_rfl⟩
instance : TSz Try.prog 142 1 := ⟨by kernel_rfl⟩
instance : TZero Try.prog 142 [.nilFunc] := ⟨by kernel_rfl⟩
instance : TOne Try.prog 143 := ⟨by kernel_rfl⟩
instance : TSz Try.prog 143 1 := ⟨by kernel_rfl⟩
instance : TZero Try.prog 143 [.nilFunc] := ⟨by kernel_rfl⟩
instance : TOne Try.prog 144 := ⟨by kernel_rfl⟩
instance : TSz Try.prog 144 1 := ⟨by kernel_rfl⟩
instance : TZero Try.prog 144 [.nilFunc] := ⟨by kernel_rfl⟩
instance : TOne Try.prog 145 := ⟨by kernel_rfl⟩
instance : TSz Try.prog 145 1 := ⟨by kernel_rfl⟩
instance : TZero Try.prog 145 [.nilFunc] := ⟨by kernel_rfl⟩
instance : TOne Try.prog 146 := ⟨by kernel_rfl⟩
instance : TSz Try.prog 146 1 := ⟨by kernel_rfl⟩
instance : TZero Try.prog 146 [.nilFunc] := ⟨by kernel_rfl⟩
instance : TOne Try.prog 147 := ⟨by kernel_rfl⟩
instance : TSz Try.prog 147 1 := ⟨by kernel_rfl⟩
instance : TZero Try.prog 147 [.nilFunc] := ⟨by kernel_rfl⟩
instance : TOne Try.prog 148 := ⟨by kernel_rfl⟩
instance : TSz Try.prog 148 1 := ⟨by kernel_rfl⟩
instance : TZero Try.prog 148 [.nilFunc] := ⟨by kernel_rfl⟩
instance : TOne Try.prog 149 := ⟨by kernel_rfl⟩
instance : TSz Try.prog 149 1 := ⟨by kernel_rfl⟩
instance : TZero Try.prog 149 [.nilFunc] := ⟨by kernel_rfl⟩
instance : TOne Try.prog 150 := ⟨by kernel_rfl⟩
instance : TSz Try.prog 150 1 := ⟨by kernel_rfl⟩
instance : TZero Try.prog 150 [.nilFunc] := ⟨by kernel_rfl⟩
instance : TOne Try.prog 151 := ⟨by kernel_rfl⟩
instance : TSz Try.prog 151 1 := ⟨by kernel_rfl⟩
instance : TZero Try.prog 151 [.nilFunc] := ⟨by kernel_rfl⟩
instance : TOne Try.prog 152 := ⟨by kernel_rfl⟩
instance : TSz Try.prog 152 1 := ⟨by kernel_rfl⟩
instance : TZero Try.prog 152 [.nilFunc] := ⟨by kernel_rfl⟩
instance : TOne Try.prog 153 := ⟨by kernel_rfl⟩
instance : TSz Try.prog 153 1 := ⟨by kernel_rfl⟩
instance : TZero Try.prog 153 [.nilFunc] := ⟨by kernel_rfl⟩
instance : TOne Try.prog 154 := ⟨by kernel_rfl⟩
instance : TSz Try.prog 154 1 := ⟨by kernel_rfl⟩
instance : TZero Try.prog 154 [.nilFunc] := ⟨by kernel_rfl⟩
instance : TOne Try.prog 155 := ⟨by kernel_rfl⟩
instance : TSz Try.prog 155 1 := ⟨by kernel_rfl⟩
instance : TZero Try.prog 155 [.nilFunc] := ⟨by kernel_rfl⟩
instance : TU Try.prog 156 (TypeDesc.int IntKind.i64) := ⟨Try.underlying156⟩
instance : TSz Try.prog 156 1 := ⟨by kernel_rfl⟩
instance : TOne Try.prog 156 := ⟨by kernel_rfl⟩
instance : TEl Try.prog 156 1 8 := ⟨by kernel_rfl⟩
instance : TZero Try.prog 156 [.int .i64 0] := ⟨by kernel_rfl⟩
instance : TOne Try.prog 158 := ⟨by kernel_rfl⟩
instance : TSz Try.prog 158 1 := ⟨by kernel_rfl⟩
instance : TZero Try.prog 158 [.nilFunc] := ⟨by kernel_rfl⟩
instance : TOne Try.prog 159 := ⟨by kernel_rfl⟩
instance : TSz Try.prog 159 1 := ⟨by kernel_rfl⟩
instance : TZero Try.prog 159 [.nilFunc] := ⟨by kernel_rfl⟩
instance : TOne Try.prog 160 := ⟨by kernel_rfl⟩
instance : TSz Try.prog 160 1 := ⟨by kernel_rfl⟩
instance : TZero Try.prog 160 [.nilFunc] := ⟨by kernel_rfl⟩
instance : TOne Try.prog 161 := ⟨by kernel_rfl⟩
instance : TSz Try.prog 161 1 := ⟨by kernel_rfl⟩
instance : TZero Try.prog 161 [.nilFunc] := ⟨by kernel_rfl⟩
instance : TOne Try.prog 162 := ⟨by kernel_rfl⟩
instance : TSz Try.prog 162 1 := ⟨by kernel_rfl⟩
instance : TZero Try.prog 162 [.nilFunc] := ⟨by kernel_rfl⟩
instance : TOne Try.prog 163 := ⟨by kernel_rfl⟩
instance : TSz Try.prog 163 1 := ⟨by kernel_rfl⟩
instance : TZero Try.prog 163 [.nilFunc] := ⟨by kernel_rfl⟩
instance : TU Try.prog 164 (TypeDesc.int IntKind.u64) := ⟨Try.underlying164⟩
instance : TSz Try.prog 164 1 := ⟨by kernel_rfl⟩
instance : TOne Try.prog 164 := ⟨by kernel_rfl⟩
instance : TEl Try.prog 164 1 8 := ⟨by kernel_rfl⟩
instance : TZero Try.prog 164 [.int .u64 0] := ⟨by kernel_rfl⟩
instance : TOne Try.prog 165 := ⟨by kernel_rfl⟩
instance : TSz Try.prog 165 1 := ⟨by kernel_rfl⟩
instance : TZero Try.prog 165 [.nilFunc] := ⟨by kernel_rfl⟩
instance : TOne Try.prog 166 := ⟨by kernel_rfl⟩
instance : TSz Try.prog 166 1 := ⟨by kernel_rfl⟩
instance : TZero Try.prog 166 [.nilFunc] := ⟨by kernel_rfl⟩
instance : TU Try.prog 167 (TypeDesc.pointer 3) := ⟨Try.underlying167⟩
instance : TSz Try.prog 167 1 := ⟨by kernel_rfl⟩
instance : TOne Try.prog 167 := ⟨by kernel_rfl⟩
instance : TEl Try.prog 167 1 8 := ⟨by kernel_rfl⟩
instance : TZero Try.prog 167 [.pointer none] := ⟨by kernel_rfl⟩
instance : TOne Try.prog 168 := ⟨by kernel_rfl⟩
instance : TSz Try.prog 168 1 := ⟨by kernel_rfl⟩
instance : TZero Try.prog 168 [.nilFunc] := ⟨by kernel_rfl⟩
instance : TU Try.prog 169 (TypeDesc.pointer 164) := ⟨Try.underlying169⟩
instance : TSz Try.prog 169 1 := ⟨by kernel_rfl⟩
instance : TOne Try.prog 169 := ⟨by kernel_rfl⟩
instance : TEl Try.prog 169 1 8 := ⟨by kernel_rfl⟩
instance : TZero Try.prog 169 [.pointer none] := ⟨by kernel_rfl⟩
instance : TOne Try.prog 171 := ⟨by kernel_rfl⟩
instance : TSz Try.prog 171 1 := ⟨by kernel_rfl⟩
instance : TZero Try.prog 171 [.nilFunc] := ⟨by kernel_rfl⟩
instance : TOne Try.prog 172 := ⟨by kernel_rfl⟩
instance : TSz Try.prog 172 1 := ⟨by kernel_rfl⟩
instance : TZero Try.prog 172 [.nilFunc] := ⟨by kernel_rfl⟩
instance : TSz Try.prog 173 4 := ⟨by kernel_rfl⟩
instance : TAgg Try.prog 173 4 := ⟨by kernel_rfl⟩
instance : TFldT Try.prog 173 0 0 17 := ⟨by kernel_rfl⟩
instance : TFld Try.prog 173 0 0 := ⟨by kernel_rfl⟩
instance : TFldT Try.prog 173 1 1 17 := ⟨by kernel_rfl⟩
instance : TFld Try.prog 173 1 1 := ⟨by kernel_rfl⟩
instance : TFldT Try.prog 173 2 2 17 := ⟨by kernel_rfl⟩
instance : TFld Try.prog 173 2 2 := ⟨by kernel_rfl⟩
instance : TFldT Try.prog 173 3 3 9 := ⟨by kernel_rfl⟩
instance : TFld Try.prog 173 3 3 := ⟨by kernel_rfl⟩
instance : TLay Try.prog 173 [(0, 1), (1, 1), (2, 1), (3, 1)] := ⟨by kernel_rfl⟩
instance : TEl Try.prog 173 4 40 := ⟨by kernel_rfl⟩
instance : TZero Try.prog 173 [.pointer none, .pointer none, .pointer none, .string .empty] := ⟨by kernel_rfl⟩
instance : TSz Try.prog 174 4 := ⟨by kernel_rfl⟩
instance : TAgg Try.prog 174 4 := ⟨by kernel_rfl⟩
instance : TFldT Try.prog 174 0 0 17 := ⟨by kernel_rfl⟩
instance : TFld Try.prog 174 0 0 := ⟨by kernel_rfl⟩
instance : TFldT Try.prog 174 1 1 17 := ⟨by kernel_rfl⟩
instance : TFld Try.prog 174 1 1 := ⟨by kernel_rfl⟩
instance : TFldT Try.prog 174 2 2 17 := ⟨by kernel_rfl⟩
instance : TFld Try.prog 174 2 2 := ⟨by kernel_rfl⟩
instance : TFldT Try.prog 174 3 3 9 := ⟨by kernel_rfl⟩
instance : TFld Try.prog 174 3 3 := ⟨by kernel_rfl⟩
instance : TLay Try.prog 174 [(0, 1), (1, 1), (2, 1), (3, 1)] := ⟨by kernel_rfl⟩
instance : TEl Try.prog 174 4 40 := ⟨by kernel_rfl⟩
instance : TZero Try.prog 174 [.pointer none, .pointer none, .pointer none, .string .empty] := ⟨by kernel_rfl⟩
instance : TU Try.prog 175 (TypeDesc.array 0 16) := ⟨Try.underlying175⟩
instance : TSz Try.prog 175 0 := ⟨by kernel_rfl⟩
instance : TAgg Try.prog 175 0 := ⟨by kernel_rfl⟩
instance : TLay Try.prog 175 [] := ⟨by kernel_rfl⟩
instance : TEl Try.prog 175 0 0 := ⟨by kernel_rfl⟩
instance : TSz Try.prog 176 0 := ⟨by kernel_rfl⟩
instance : TAgg Try.prog 176 0 := ⟨by kernel_rfl⟩
instance : TFldT Try.prog 176 0 0 175 := ⟨by kernel_rfl⟩
instance : TLay Try.prog 176 [(0, 0)] := ⟨by kernel_rfl⟩
instance : TEl Try.prog 176 0 0 := ⟨by kernel_rfl⟩
instance : TSz Try.prog 177 0 := ⟨by kernel_rfl⟩
instance : TAgg Try.prog 177 0 := ⟨by kernel_rfl⟩
instance : TFldT Try.prog 177 0 0 175 := ⟨by kernel_rfl⟩
instance : TLay Try.prog 177 [(0, 0)] := ⟨by kernel_rfl⟩
instance : TEl Try.prog 177 0 0 := ⟨by kernel_rfl⟩
instance : TOne Try.prog 178 := ⟨by kernel_rfl⟩
instance : TSz Try.prog 178 1 := ⟨by kernel_rfl⟩
instance : TZero Try.prog 178 [.nilFunc] := ⟨by kernel_rfl⟩
instance : TU Try.prog 179 (TypeDesc.int IntKind.u8) := ⟨Try.underlying179⟩
instance : TSz Try.prog 179 1 := ⟨by kernel_rfl⟩
instance : TOne Try.prog 179 := ⟨by kernel_rfl⟩
instance : TEl Try.prog 179 1 1 := ⟨by kernel_rfl⟩
instance : TZero Try.prog 179 [.int .u8 0] := ⟨by kernel_rfl⟩
instance : TU Try.prog 180 (TypeDesc.int IntKind.u8) := ⟨Try.underlying180⟩
instance : TSz Try.prog 180 1 := ⟨by kernel_rfl⟩
instance : TOne Try.prog 180 := ⟨by kernel_rfl⟩
instance : TEl Try.prog 180 1 1 := ⟨by kernel_rfl⟩
instance : TZero Try.prog 180 [.int .u8 0] := ⟨by kernel_rfl⟩
instance : TOne Try.prog 181 := ⟨by kernel_rfl⟩
instance : TSz Try.prog 181 1 := ⟨by kernel_rfl⟩
instance : TZero Try.prog 181 [.nilFunc] := ⟨by kernel_rfl⟩
instance : TU Try.prog 182 (TypeDesc.pointer 5) := ⟨Try.underlying182⟩
instance : TSz Try.prog 182 1 := ⟨by kernel_rfl⟩
instance : TOne Try.prog 182 := ⟨by kernel_rfl⟩
instance : TEl Try.prog 182 1 8 := ⟨by kernel_rfl⟩
instance : TZero Try.prog 182 [.pointer none] := ⟨by kernel_rfl⟩
instance : TU Try.prog 183 (TypeDesc.int IntKind.i32) := ⟨Try.underlying183⟩
instance : TSz Try.prog 183 1 := ⟨by kernel_rfl⟩
instance : TOne Try.prog 183 := ⟨by kernel_rfl⟩
instance : TEl Try.prog 183 1 4 := ⟨by kernel_rfl⟩
instance : TZero Try.prog 183 [.int .i32 0] := ⟨by kernel_rfl⟩
instance : TU Try.prog 184 (TypeDesc.int IntKind.i32) := ⟨Try.underlying184⟩
instance : TSz Try.prog 184 1 := ⟨by kernel_rfl⟩
instance : TOne Try.prog 184 := ⟨by kernel_rfl⟩
instance : TEl Try.prog 184 1 4 := ⟨by kernel_rfl⟩
instance : TZero Try.prog 184 [.int .i32 0] := ⟨by kernel_rfl⟩
instance : TSz Try.prog 185 11 := ⟨by kernel_rfl⟩
instance : TAgg Try.prog 185 11 := ⟨by kernel_rfl⟩
instance : TFldT Try.prog 185 0 0 12 := ⟨by kernel_rfl⟩
instance : TFld Try.prog 185 0 0 := ⟨by kernel_rfl⟩
instance : TFldT Try.prog 185 1 1 12 := ⟨by kernel_rfl⟩
instance : TFld Try.prog 185 1 1 := ⟨by kernel_rfl⟩
instance : TFldT Try.prog 185 2 2 74 := ⟨by kernel_rfl⟩
instance : TFld Try.prog 185 2 2 := ⟨by kernel_rfl⟩
instance : TFldT Try.prog 185 3 3 179 := ⟨by kernel_rfl⟩
instance : TFld Try.prog 185 3 3 := ⟨by kernel_rfl⟩
instance : TFldT Try.prog 185 4 4 5 := ⟨by kernel_rfl⟩
instance : TFld Try.prog 185 4 4 := ⟨by kernel_rfl⟩
instance : TFldT Try.prog 185 5 5 5 := ⟨by kernel_rfl⟩
instance : TFld Try.prog 185 5 5 := ⟨by kernel_rfl⟩
instance : TFldT Try.prog 185 6 6 180 := ⟨by kernel_rfl⟩
instance : TFld Try.prog 185 6 6 := ⟨by kernel_rfl⟩
instance : TFldT Try.prog 185 7 7 181 := ⟨by kernel_rfl⟩
instance : TFld Try.prog 185 7 7 := ⟨by kernel_rfl⟩
instance : TFldT Try.prog 185 8 8 182 := ⟨by kernel_rfl⟩
instance : TFld Try.prog 185 8 8 := ⟨by kernel_rfl⟩
instance : TFldT Try.prog 185 9 9 183 := ⟨by kernel_rfl⟩
instance : TFld Try.prog 185 9 9 := ⟨by kernel_rfl⟩
instance : TFldT Try.prog 185 10 10 184 := ⟨by kernel_rfl⟩
instance : TFld Try.prog 185 10 10 := ⟨by kernel_rfl⟩
instance : TLay Try.prog 185 [(0, 1), (1, 1), (2, 1), (3, 1), (4, 1), (5, 1), (6, 1), (7, 1), (8, 1), (9, 1), (10, 1)] := ⟨by kernel_rfl⟩
instance : TEl Try.prog 185 11 48 := ⟨by kernel_rfl⟩
instance : TZero Try.prog 185 [.int .u64 0, .int .u64 0, .int .u32 0, .int .u8 0, .int .u8 0, .int .u8 0, .int .u8 0, .nilFunc, .pointer none, .int .i32 0, .int .i32 0] := ⟨by kernel_rfl⟩
instance : TSz Try.prog 186 11 := ⟨by kernel_rfl⟩
instance : TAgg Try.prog 186 11 := ⟨by kernel_rfl⟩
instance : TFldT Try.prog 186 0 0 12 := ⟨by kernel_rfl⟩
instance : TFld Try.prog 186 0 0 := ⟨by kernel_rfl⟩
instance : TFldT Try.prog 186 1 1 12 := ⟨by kernel_rfl⟩
instance : TFld Try.prog 186 1 1 := ⟨by kernel_rfl⟩
instance : TFldT Try.prog 186 2 2 74 := ⟨by kernel_rfl⟩
instance : TFld Try.prog 186 2 2 := ⟨by kernel_rfl⟩
instance : TFldT Try.prog 186 3 3 179 := ⟨by kernel_rfl⟩
instance : TFld Try.prog 186 3 3 := ⟨by kernel_rfl⟩
instance : TFldT Try.prog 186 4 4 5 := ⟨by kernel_rfl⟩
instance : TFld Try.prog 186 4 4 := ⟨by kernel_rfl⟩
instance : TFldT Try.prog 186 5 5 5 := ⟨by kernel_rfl⟩
instance : TFld Try.prog 186 5 5 := ⟨by kernel_rfl⟩
instance : TFldT Try.prog 186 6 6 180 := ⟨by kernel_rfl⟩
instance : TFld Try.prog 186 6 6 := ⟨by kernel_rfl⟩
instance : TFldT Try.prog 186 7 7 181 := ⟨by kernel_rfl⟩
instance : TFld Try.prog 186 7 7 := ⟨by kernel_rfl⟩
instance : TFldT Try.prog 186 8 8 182 := ⟨by kernel_rfl⟩
instance : TFld Try.prog 186 8 8 := ⟨by kernel_rfl⟩
instance : TFldT Try.prog 186 9 9 183 := ⟨by kernel_rfl⟩
instance : TFld Try.prog 186 9 9 := ⟨by kernel_rfl⟩
instance : TFldT Try.prog 186 10 10 184 := ⟨by kernel_rfl⟩
instance : TFld Try.prog 186 10 10 := ⟨by kernel_rfl⟩
instance : TLay Try.prog 186 [(0, 1), (1, 1), (2, 1), (3, 1), (4, 1), (5, 1), (6, 1), (7, 1), (8, 1), (9, 1), (10, 1)] := ⟨by kernel_rfl⟩
instance : TEl Try.prog 186 11 48 := ⟨by kernel_rfl⟩
instance : TZero Try.prog 186 [.int .u64 0, .int .u64 0, .int .u32 0, .int .u8 0, .int .u8 0, .int .u8 0, .int .u8 0, .nilFunc, .pointer none, .int .i32 0, .int .i32 0] := ⟨by kernel_rfl⟩
instance : TU Try.prog 187 (TypeDesc.unsafePointer) := ⟨Try.underlying187⟩
instance : TSz Try.prog 187 1 := ⟨by kernel_rfl⟩
instance : TOne Try.prog 187 := ⟨by kernel_rfl⟩
instance : TBody Try.prog 3 := ⟨by kernel_rfl⟩
instance : TBody Try.prog 4 := ⟨by kernel_rfl⟩
instance : TBody Try.prog 5 := ⟨by kernel_rfl⟩
instance : TBody Try.prog 6 := ⟨by kernel_rfl⟩
instance : TBody Try.prog 7 := ⟨by kernel_rfl⟩
instance : TBody Try.prog 8 := ⟨by kernel_rfl⟩
instance : TBody Try.prog 9 := ⟨by kernel_rfl⟩
instance : TBody Try.prog 10 := ⟨by kernel_rfl⟩
instance : TBody Try.prog 11 := ⟨by kernel_rfl⟩
instance : TBody Try.prog 12 := ⟨by kernel_rfl⟩
instance : TBody Try.prog 13 := ⟨by kernel_rfl⟩
instance : TBody Try.prog 14 := ⟨by kernel_rfl⟩
instance : TBody Try.prog 15 := ⟨by kernel_rfl⟩
instance : TBody Try.prog 16 := ⟨by kernel_rfl⟩
instance : TBody Try.prog 17 := ⟨by kernel_rfl⟩
instance : TBody Try.prog 18 := ⟨by kernel_rfl⟩
instance : TBody Try.prog 19 := ⟨by kernel_rfl⟩
instance : TBody Try.prog 20 := ⟨by kernel_rfl⟩
instance : TBody Try.prog 21 := ⟨by kernel_rfl⟩
instance : TBody Try.prog 22 := ⟨by kernel_rfl⟩
instance : TBody Try.prog 23 := ⟨by kernel_rfl⟩
instance : TBody Try.prog 24 := ⟨by kernel_rfl⟩
instance : TBody Try.prog 25 := ⟨by kernel_rfl⟩
instance : TBody Try.prog 26 := ⟨by kernel_rfl⟩
instance : TBody Try.prog 27 := ⟨by kernel_rfl⟩
instance : TBody Try.prog 28 := ⟨by kernel_rfl⟩
instance : TBody Try.prog 29 := ⟨by kernel_rfl⟩
instance : TBody Try.prog 30 := ⟨by kernel_rfl⟩
instance : TBody Try.prog 31 := ⟨by kernel_rfl⟩
instance : TBody Try.prog 32 := ⟨by kernel_rfl⟩
instance : TBody Try.prog 33 := ⟨by kernel_rfl⟩
instance : TBody Try.prog 34 := ⟨by kernel_rfl⟩
instance : TBody Try.prog 35 := ⟨by kernel_rfl⟩
instance : TBody Try.prog 36 := ⟨by kernel_rfl⟩
instance : TBody Try.prog 37 := ⟨by kernel_rfl⟩
instance : TBody Try.prog 38 := ⟨by kernel_rfl⟩
instance : TBody Try.prog 39 := ⟨by kernel_rfl⟩
instance : TBody Try.prog 40 := ⟨by kernel_rfl⟩
instance : TBody Try.prog 41 := ⟨by kernel_rfl⟩
instance : TBody Try.prog 42 := ⟨by kernel_rfl⟩
instance : TBody Try.prog 43 := ⟨by kernel_rfl⟩
instance : TBody Try.prog 44 := ⟨by kernel_rfl⟩
instance : TBody Try.prog 45 := ⟨by kernel_rfl⟩
instance : TBody Try.prog 46 := ⟨by kernel_rfl⟩
instance : TBody Try.prog 47 := ⟨by kernel_rfl⟩
instance : TBody Try.prog 48 := ⟨by kernel_rfl⟩
instance : TBody Try.prog 49 := ⟨by kernel_rfl⟩
instance : TBody Try.prog 50 := ⟨by kernel_rfl⟩
instance : TBody Try.prog 52 := ⟨by kernel_rfl⟩
instance : TBody Try.prog 53 := ⟨by kernel_rfl⟩
instance : TBody Try.prog 54 := ⟨by kernel_rfl⟩
instance : TBody Try.prog 55 := ⟨by kernel_rfl⟩
instance : TBody Try.prog 56 := ⟨by kernel_rfl⟩
instance : TBody Try.prog 57 := ⟨by kernel_rfl⟩
instance : TBody Try.prog 58 := ⟨by kernel_rfl⟩
instance : TBody Try.prog 59 := ⟨by kernel_rfl⟩
instance : TBody Try.prog 60 := ⟨by kernel_rfl⟩
instance : TBody Try.prog 61 := ⟨by kernel_rfl⟩
instance : TBody Try.prog 62 := ⟨by kernel_rfl⟩
instance : TBody Try.prog 63 := ⟨by kernel_rfl⟩
instance : TBody Try.prog 64 := ⟨by kernel_rfl⟩
instance : TBody Try.prog 65 := ⟨by kernel_rfl⟩
instance : TBody Try.prog 66 := ⟨by kernel_rfl⟩
instance : TBody Try.prog 67 := ⟨by kernel_rfl⟩
instance : TBody Try.prog 68 := ⟨by kernel_rfl⟩
instance : TBody Try.prog 69 := ⟨by kernel_rfl⟩
instance : TBody Try.prog 70 := ⟨by kernel_rfl⟩
instance : TBody Try.prog 71 := ⟨by kernel_rfl⟩
instance : TBody Try.prog 72 := ⟨by kernel_rfl⟩
instance : TBody Try.prog 73 := ⟨by kernel_rfl⟩
instance : TBody Try.prog 74 := ⟨by kernel_rfl⟩
instance : TBody Try.prog 75 := ⟨by kernel_rfl⟩
instance : TBody Try.prog 76 := ⟨by kernel_rfl⟩
instance : TBody Try.prog 77 := ⟨by kernel_rfl⟩
instance : TBody Try.prog 79 := ⟨by kernel_rfl⟩
instance : TBody Try.prog 80 := ⟨by kernel_rfl⟩
instance : TBody Try.prog 81 := ⟨by kernel_rfl⟩
instance : TBody Try.prog 82 := ⟨by kernel_rfl⟩
instance : TBody Try.prog 83 := ⟨by kernel_rfl⟩
instance : TBody Try.prog 84 := ⟨by kernel_rfl⟩
instance : TBody Try.prog 86 := ⟨by kernel_rfl⟩
instance : TBody Try.prog 87 := ⟨by kernel_rfl⟩
instance : TBody Try.prog 88 := ⟨by kernel_rfl⟩
instance : TBody Try.prog 89 := ⟨by kernel_rfl⟩
instance : TBody Try.prog 90 := ⟨by kernel_rfl⟩
instance : TBody Try.prog 91 := ⟨by kernel_rfl⟩
instance : TBody Try.prog 92 := ⟨by kernel_rfl⟩
instance : TBody Try.prog 93 := ⟨by kernel_rfl⟩
instance : TBody Try.prog 94 := ⟨by kernel_rfl⟩
instance : TBody Try.prog 95 := ⟨by kernel_rfl⟩
instance : TBody Try.prog 96 := ⟨by kernel_rfl⟩
instance : TBody Try.prog 97 := ⟨by kernel_rfl⟩
instance : TBody Try.prog 98 := ⟨by kernel_rfl⟩
instance : TBody Try.prog 100 := ⟨by kernel_rfl⟩
instance : TBody Try.prog 101 := ⟨by kernel_rfl⟩
instance : TBody Try.prog 102 := ⟨by kernel_rfl⟩
instance : TBody Try.prog 103 := ⟨by kernel_rfl⟩
instance : TBody Try.prog 104 := ⟨by kernel_rfl⟩
instance : TBody Try.prog 105 := ⟨by kernel_rfl⟩
instance : TBody Try.prog 106 := ⟨by kernel_rfl⟩
instance : TBody Try.prog 107 := ⟨by kernel_rfl⟩
instance : TBody Try.prog 108 := ⟨by kernel_rfl⟩
instance : TBody Try.prog 109 := ⟨by kernel_rfl⟩
instance : TBody Try.prog 110 := ⟨by kernel_rfl⟩
instance : TBody Try.prog 111 := ⟨by kernel_rfl⟩
instance : TBody Try.prog 112 := ⟨by kernel_rfl⟩
instance : TBody Try.prog 113 := ⟨by kernel_rfl⟩
instance : TBody Try.prog 114 := ⟨by kernel_rfl⟩
instance : TBody Try.prog 115 := ⟨by kernel_rfl⟩
instance : TBody Try.prog 116 := ⟨by kernel_rfl⟩
instance : TBody Try.prog 117 := ⟨by kernel_rfl⟩
instance : TBody Try.prog 118 := ⟨by kernel_rfl⟩
instance : TBody Try.prog 119 := ⟨by kernel_rfl⟩
instance : TBody Try.prog 120 := ⟨by kernel_rfl⟩
instance : TBody Try.prog 121 := ⟨by kernel_rfl⟩
instance : TBody Try.prog 122 := ⟨by kernel_rfl⟩
instance : TBody Try.prog 123 := ⟨by kernel_rfl⟩
instance : TBody Try.prog 124 := ⟨by kernel_rfl⟩
instance : TBody Try.prog 125 := ⟨by kernel_rfl⟩
instance : TBody Try.prog 126 := ⟨by kernel_rfl⟩
instance : TBody Try.prog 127 := ⟨by kernel_rfl⟩
instance : TBody Try.prog 128 := ⟨by kernel_rfl⟩
instance : TBody Try.prog 129 := ⟨by kernel_rfl⟩
instance : TBody Try.prog 130 := ⟨by kernel_rfl⟩
end Go.Proofs.Ytainnefmobfcjaa

/-! LibN -/
/-
  The calculus, part N: make, copy; blocks that came in (read, not turned).
-/
namespace Go.Proofs.Ytainnefmobfcjaa
set_option linter.unusedVariables false
set_option linter.unusedSimpArgs false
open Go.RowKit

theorem Cal.to {P : Program} {f : FuncId} {args : Array Value} {w : World} {v v' : Value} {E : World → Prop} (h : Cal P f args w fun x w' => x = v ∧ E w') (e : v = v') : Cal P f args w fun x w' => x = v' ∧ E w' := e ▸ h
theorem put_all {xs ys : List Value} (h : xs.length = ys.length) : put xs 0 ys = some ys := by
  rw [put_of _ _ _ (by omega)]
  simp [splice, ← h]
/-- A block that came in: it may be named, as long as it is not turned. -/
theorem Mem.came {S : List Nat} {W w : World} {l : List (Nat × Obj)} (M : Mem S W w l) (hw : w = W) {b : Nat} {o : Obj} (hb : W.heap[b]? = some o) (hS : b ∈ S) (hn : ∀ p ∈ l, p.1 ≠ b) : Mem S W w ((b, o) :: l) :=
  M.cons (by rw [hw]; exact hb) hn (.inl hS)
/-- What came in has not been turned. -/
theorem Mem.back {S : List Nat} {W w : World} {l : List (Nat × Obj)} (M : Mem S W w l) (h : ∀ k ∈ S, ∃ o, Has l k o ∧ W.heap[k]? = some o) : Ext [] W w :=
  ⟨M.ext.os, M.ext.tape, M.ext.output, M.ext.size, M.ext.dr, fun k hk _ => by
    by_cases hS : k ∈ S
    · obtain ⟨o, h1, h2⟩ := h k hS
      rw [M.heap h1, h2]
    · exact M.ext.block k hk hS⟩
/-- .. and what the call has made. -/
theorem Mem.back' {S : List Nat} {W w : World} {l new : List (Nat × Obj)} (M : Mem S W w l) (h : ∀ k ∈ S, ∃ o, Has l k o ∧ W.heap[k]? = some o) (hs : new.Sublist l) (hn : ∀ p ∈ new, p.1 ∉ S) : Mem [] W w new :=
  ⟨M.back h, fun p hp => M.at_ p (hs.subset hp), M.nd.sublist (hs.map _), fun p hp => .inr ((M.own p (hs.subset hp)).resolve_left (hn p hp))⟩
theorem Mem.back1 {b : Nat} {o : Obj} {W w : World} {l : List (Nat × Obj)} (M : Mem [b] W w l) (h : Has l b o) (hW : W.heap[b]? = some o) : Ext [] W w :=
  M.back fun k hk => by simp only [List.mem_singleton] at hk; subst hk; exact ⟨o, h, hW⟩

section
variable {P : Program} {ρ : Operand → Value} {w W0 : World} {S : List Nat} {l l' : List (Nat × Obj)} {R : Value → World → Prop} {d : Option Tmp} {ty : TypeId} {pos : String} {af : Array Edge} {g : Option (Nat × Bool)}

/-- make, of elements of one cell -/
theorem o_make1 {t e : TypeId} {x y : Operand} {k k' : IntKind} {n : Int} {by_ : Nat} {z : Value} [ht : TU P t (.slice e)] [hel : TEl P e 1 by_] [hz : TZero P e [z]] (M : Mem S W0 w l) (hx : ρ x = .int k n) (hy : ρ y = .int k' n) (h0 : 0 ≤ n) (hb : (by_ : Int) * n ≤ 281474976710656) (h63 : n ≤ 9223372036854775807)
    (h : ∀ b w', Mem S W0 w' ((b, .cells (List.replicate n.toNat z).toArray e (0, 0)) :: l) → R (.slice (some ⟨b, 0, none⟩) n.toNat n.toNat) w') : OpTo P ⟨d, .makeSlice t x y, ty, pos, af, g⟩ ρ w R := by
  obtain ⟨i, zz, hi, hs, rfl, hz0, hzs⟩ := elB_spec hel.h
  have hzc : zz.cells = #[z] := by
    have := hz.h
    unfold zeroC at this
    rw [hi] at this
    simpa [hz0] using this
  have hr := run_make (P := P) w t e i zz ht.h hi hz0 k k' n n h0 (Int.le_refl _) hb h63
  have hm : madeCells zz.cells (n.toNat * i.size) = (List.replicate n.toNat z).toArray := by
    rw [hs, hzc, Nat.mul_one]
    apply Array.ext'
    simp only [madeCells, Array.toList_map, Array.toList_range, List.size_toArray, List.length_cons, List.length_nil]
    apply List.ext_getElem (by simp)
    intro j h1 h2
    simp [Nat.mod_one]
  rw [hm] at hr
  refine OpTo.val (v := .slice (some ⟨w.heap.size, 0, none⟩) n.toNat n.toNat) (w' := w.alloc (.cells (List.replicate n.toNat z).toArray e)) ?_ (h _ _ (M.alloc _))
  simp [execOp, hx, hy, hr]

theorem run_copy {dT sT e : TypeId} {sz b o dLen dCap n : Nat} {xv : Value} {sLen : Nat} {cs cs' ys : List Value} {t' : TypeId} (hst : P.underlying dT = some (.slice e)) (hsz : sizeIs P e sz = true) (M : Mem S W0 w l) (hlen : (Builtin.lenOf xv).run P w = .ok sLen w) (hn : n = Nat.min sLen dLen)
    (hc : (Builtin.firstCells sz n xv).run P w = .ok ys.toArray w) (h1 : ∀ v ∈ ys, v.oneCell' = true) (hb : Has l b (.cells cs.toArray t' (0, 0))) (hp : put cs o ys = some cs') (hu : Upd l b (.cells cs.toArray t' (0, 0)) (.cells cs'.toArray t' (0, 0)) l') (tyy : TypeId) :
    ∃ w', (Builtin.copy_ #[dT, sT] tyy #[.slice (some ⟨b, o, none⟩) dLen dCap, xv]).run P w = .ok (.int .i64 n) w' ∧ Mem S W0 w' l' ∧ Ext [b] w w' := by
  obtain ⟨hle, rfl⟩ := put_splice _ _ _ _ hp
  obtain ⟨w', hr, he, hh⟩ := run_storeRow (P := P) (off := o) ys 0 cs w (M.heap hb) (by simpa using hle) h1
  refine ⟨w', ?_, M.turned hu he (by simpa using hh), he⟩
  subst hn
  simp [Builtin.copy_, run_underlying hst, hlen, run_sizeOf hsz, hc, hr, goInt]
/-- copy into a block of ours, out of a slice whose block is known -/
theorem o_copy {dT sT e : TypeId} {x y : Operand} {sz b o dLen dCap b' o' sLen sCap n : Nat} {cs cs' ds ys : List Value} {t' t'' : TypeId} {fz : Nat × Nat} [hst : TU P dT (.slice e)] [hsz : TSz P e sz] (M : Mem S W0 w l) (hx : ρ x = .slice (some ⟨b, o, none⟩) dLen dCap) (hy : ρ y = .slice (some ⟨b', o', none⟩) sLen sCap) (hn : n = Nat.min sLen dLen)
    (hs : Has l b' (.cells ds.toArray t'' fz)) (hv : seg ds o' (n * sz) = some ys) (h1 : ys.all (·.oneCell') = true) (hb : Has l b (.cells cs.toArray t' (0, 0))) (hp : put cs o ys = some cs') (hu : Upd l b (.cells cs.toArray t' (0, 0)) (.cells cs'.toArray t' (0, 0)) l')
    (h : ∀ w', Mem S W0 w' l' → R (.int .i64 n) w') : OpTo P ⟨d, .call ⟨.builtin .copy, #[x, y], #[dT, sT]⟩, ty, pos, af, g⟩ ρ w R := by
  have hsrc := (SrcOf.cells' (P := P) (m := n) (c := sCap) (sz := sz) (M.heap hs) hv h1).cells w.drawn
  have hc : (Builtin.firstCells sz n (.slice (some ⟨b', o', none⟩) sLen sCap)).run P w = .ok ys.toArray w := by
    simpa [Builtin.firstCells] using hsrc
  obtain ⟨w', hr, M', _⟩ := run_copy (sT := sT) (dLen := dLen) (dCap := dCap) (o := o) hst.h hsz.h M (by simp [Builtin.lenOf]) hn hc (fun v hv => List.all_eq_true.1 h1 v hv) hb hp hu ty
  exact OpTo.val (v := .int .i64 n) (w' := w') (by simp [execOp, resolve, invoke, builtin, hx, hy, hr]) (h _ M')
/-- copy out of the nil slice -/
theorem o_copyNil {dT sT e : TypeId} {x y : Operand} {sz : Nat} {p : Option Addr} {dLen dCap : Nat} [hst : TU P dT (.slice e)] [hsz : TSz P e sz] (hx : ρ x = .slice p dLen dCap) (hy : ρ y = .slice none 0 0) (h : R (.int .i64 0) w) : OpTo P ⟨d, .call ⟨.builtin .copy, #[x, y], #[dT, sT]⟩, ty, pos, af, g⟩ ρ w R := by
  refine OpTo.val (v := .int .i64 0) (w' := w) ?_ h
  cases p <;> simp [execOp, resolve, invoke, builtin, hx, hy, Builtin.copy_, run_underlying hst.h, Builtin.lenOf, run_sizeOf hsz.h, Builtin.firstCells, storeCells, goInt]
end
/-- a slice over the whole of a new block -/
def NewS (n0 len cap : Nat) (o : Obj) : Pred := fun v w => ∃ b, v = .slice (some ⟨b, 0, none⟩) len cap ∧ n0 ≤ b ∧ w.heap[b]? = some o
theorem NewS.stays (n0 len cap : Nat) (o : Obj) : Stays keepAll (NewS n0 len cap o) := fun v w w' ⟨b, h1, h2, h3⟩ h => ⟨b, h1, h2, by
  rw [Ext.block h b (Array.getElem?_eq_some_iff.1 h3).1 (by simp)]; exact h3⟩
theorem newS_of {w1 w w' : World} {len cap : Nat} {o : Obj} {x : Value} (E : Ext [] w1 w) (h : ∃ b, x = .slice (some ⟨b, 0, none⟩) len cap ∧ Mem [] w w' [(b, o)]) : Ext [] w w' ∧ NewS w1.heap.size len cap o x w' := by
  obtain ⟨b, rfl, N⟩ := h
  refine ⟨N.ext, b, rfl, ?_, N.heap .here⟩
  have := (N.own (b, o) (by simp)).resolve_left (by simp)
  exact Nat.le_trans E.size this
end Go.Proofs.Ytainnefmobfcjaa

/-! LibO -/
/-
  The calculus, part O: a store into what an alloc of the same region has made; equality of arrays and structs that is decided.
-/
namespace Go.Proofs.Ytainnefmobfcjaa
set_option linter.unusedVariables false
set_option linter.unusedSimpArgs false
open Go.RowKit
section
variable {P : Program} {ρ : Operand → Value} {w W0 : World} {S : List Nat} {l l' : List (Nat × Obj)} {R : Value → World → Prop} {d : Option Tmp} {ty : TypeId} {pos : String} {af : Array Edge} {g : Option (Nat × Bool)}
theorem o_storeP {t : TypeId} {x y : Operand} {b n : Nat} {cs cs' vs : List Value} {t' : TypeId} [hs : TAgg P t n] (hx : ρ x = ptrTo b) (hy : ρ y = .agg vs.toArray) (hn : vs.length = n) (h1 : vs.all (·.oneCell') = true) (hz : w.heap[b]? = some (.cells cs.toArray t' (0, 0))) (hp : put cs 0 vs = some cs') :
    OpTo P ⟨d, .store t x y, ty, pos, af, g⟩ ρ w fun _ w' => Ext [b] w w' ∧ w'.heap[b]? = some (.cells cs'.toArray t' (0, 0)) := by
  obtain ⟨hle, rfl⟩ := put_splice _ _ _ _ hp
  obtain ⟨w', hr, he, hh⟩ := run_storeRow (P := P) (off := 0) vs 0 cs w hz (by simpa using hle) (fun v hv => List.all_eq_true.1 h1 v hv)
  refine OpTo.skip (w' := w') ?_ ⟨he, by simpa using hh⟩
  simp only [execOp, Instr.storeAt, Instr.sureAddr, hx, hy, ptrTo, storeVar, Sem.run_bind, Sem.run_pure, Result.andThen_ok, run_sizeOf_agg hs.h, Value.cells]
  simp [hr, hn]
theorem o_eqlBT {t t' : TypeId} {x y : Operand} {p q : Bool} (hx : ρ x = .bool p) (hy : ρ y = .bool q) [ht : TU P t .bool] (he : p = q) (h : R (.bool true) w) : OpTo P ⟨d, .binOp .eql t x y t', ty, pos, af, g⟩ ρ w R := o_eqlB hx hy (by subst he; cases p <;> exact h)
theorem o_neqBF {t t' : TypeId} {x y : Operand} {p q : Bool} (hx : ρ x = .bool p) (hy : ρ y = .bool q) [ht : TU P t .bool] (he : p = q) (h : R (.bool false) w) : OpTo P ⟨d, .binOp .neq t x y t', ty, pos, af, g⟩ ρ w R := o_neqB hx hy (by subst he; cases p <;> exact h)
theorem o_eqlAT {t t' : TypeId} {x y : Operand} {ks : List LK} {xs ys : List Value} [ht : TEq P t ks] (hx : ρ x = .agg xs.toArray) (hy : ρ y = .agg ys.toArray) (fx : fitsK ks xs = true) (fy : fitsK ks ys = true) (he : eqVs xs ys = true) (h : R (.bool true) w) : OpTo P ⟨d, .binOp .eql t x y t', ty, pos, af, g⟩ ρ w R := o_eqlA hx hy fx fy (by rw [he]; exact h)
theorem o_eqlAF {t t' : TypeId} {x y : Operand} {ks : List LK} {xs ys : List Value} [ht : TEq P t ks] (hx : ρ x = .agg xs.toArray) (hy : ρ y = .agg ys.toArray) (fx : fitsK ks xs = true) (fy : fitsK ks ys = true) (he : eqVs xs ys = false) (h : R (.bool false) w) : OpTo P ⟨d, .binOp .eql t x y t', ty, pos, af, g⟩ ρ w R := o_eqlA hx hy fx fy (by rw [he]; exact h)
theorem o_neqAT {t t' : TypeId} {x y : Operand} {ks : List LK} {xs ys : List Value} [ht : TEq P t ks] (hx : ρ x = .agg xs.toArray) (hy : ρ y = .agg ys.toArray) (fx : fitsK ks xs = true) (fy : fitsK ks ys = true) (he : eqVs xs ys = false) (h : R (.bool true) w) : OpTo P ⟨d, .binOp .neq t x y t', ty, pos, af, g⟩ ρ w R := o_neqA hx hy fx fy (by rw [he]; exact h)
theorem o_neqAF {t t' : TypeId} {x y : Operand} {ks : List LK} {xs ys : List Value} [ht : TEq P t ks] (hx : ρ x = .agg xs.toArray) (hy : ρ y = .agg ys.toArray) (fx : fitsK ks xs = true) (fy : fitsK ks ys = true) (he : eqVs xs ys = true) (h : R (.bool false) w) : OpTo P ⟨d, .binOp .neq t x y t', ty, pos, af, g⟩ ρ w R := o_neqA hx hy fx fy (by rw [he]; exact h)
end
end Go.Proofs.Ytainnefmobfcjaa

/-! LibP -/
/-
  The calculus, part P: '[]byte(s)', and a store of one cell into such bytes.
-/
namespace Go.Proofs.Ytainnefmobfcjaa
set_option linter.unusedVariables false
set_option linter.unusedSimpArgs false
open Go.RowKit

section
variable {P : Program} {ρ : Operand → Value} {w W0 : World} {S : List Nat} {l l' : List (Nat × Obj)} {R : Value → World → Prop} {d : Option Tmp} {ty : TypeId} {pos : String} {af : Array Edge} {g : Option (Nat × Bool)}

/-- the cells of bytes -/
def bysC (bs : List UInt8) : List Value := bs.map fun c => .int .u8 c.toNat
theorem o_convSB {s t e : TypeId} {x : Operand} {bs : List UInt8} (M : Mem S W0 w l) (hx : ρ x = mkS bs) [hs : TU P s .string] [ht : TU P t (.slice e)] [he : TU P e (.int .u8)]
    (h : ∀ b cap junk w', bs.length ≤ cap → Mem S W0 w' ((b, .cells (bysC bs ++ junk).toArray e (bs.length + junk.length, bs.length + junk.length + 1)) :: l) → R (.slice (some ⟨b, 0, none⟩) bs.length cap) w') : OpTo P ⟨d, .convert s t x, ty, pos, af, g⟩ ρ w R := by
  have hrun := run_bytes_of_string (P := P) w s t e ⟨bs.toArray⟩ hs.h ht.h he.h
  rw [mkS_size] at hrun
  have hrow : bytesRow ⟨bs.toArray⟩ (grownCap w bs.length 0 e) = (bysC bs ++ List.replicate (grownCap w bs.length 0 e - bs.length) (Value.int .u8 0)).toArray := by
    unfold bytesRow
    rw [mkS_size]
    apply Array.ext'
    simp [bysC]
  rw [hrow] at hrun
  have hsz : (bysC bs ++ List.replicate (grownCap w bs.length 0 e - bs.length) (Value.int .u8 0)).toArray.size = bs.length + (List.replicate (grownCap w bs.length 0 e - bs.length) (Value.int .u8 0)).length := by simp [bysC]
  rw [hsz] at hrun
  generalize hj : List.replicate (grownCap w bs.length 0 e - bs.length) (Value.int .u8 0) = junk at *
  generalize hc : grownCap w bs.length 0 e = cap at *
  have hge : bs.length ≤ cap := by rw [← hc]; exact grownCap_ge w _ _ _
  refine OpTo.val (v := .slice (some ⟨w.heap.size, 0, none⟩) bs.length cap) (w' := w.drew.alloc (.cells (bysC bs ++ junk).toArray e (bs.length + junk.length, bs.length + junk.length + 1))) ?_ (h _ _ _ _ hge ((M.later (Ext.drawn w (w.drawn + 1) (Nat.le_succ _))).alloc _))
  simp only [execOp, hx]; simp only [Sem.run_bind, hrun, Result.andThen_ok, Sem.run_pure]

theorem o_storeZ {t : TypeId} {x y : Operand} {b off N N' : Nat} {cs cs' : List Value} {t' : TypeId} {v : Value} [hs : TSz P t 1] (M : Mem S W0 w l) (hx : ρ x = .pointer (some ⟨b, off, none⟩)) (hy : ρ y = v) (h1 : v.oneCell' = true) (hb : Has l b (.cells cs.toArray t' (N, N'))) (hN : off < N) (hc : off < cs.length) (hp : cs.set off v = cs')
    (hu : Upd l b (.cells cs.toArray t' (N, N')) (.cells cs'.toArray t' (N, N')) l') (h : ∀ w', Mem S W0 w' l' → R undef w') : OpTo P ⟨d, .store t x y, ty, pos, af, g⟩ ρ w R := by
  subst hp
  have hvc : v.cells = #[v] := by cases v <;> simp_all [Value.oneCell', Value.cells]
  have hbb := M.heap hb
  have hcell : w.cell? ⟨b, off, none⟩ = some cs[off] := cell_at hbb (by simp [hc])
  have hf : w.frozen? ⟨b, off, none⟩ = false := by simp [World.frozen?, hbb]; omega
  have hr : (store ⟨b, off, none⟩ v : Sem Unit).run P w = .ok () (w.setCell ⟨b, off, none⟩ v) := by
    rw [run_store P w _ v _ h1, hcell]
    simp [hf]
  have hh : (w.setCell ⟨b, off, none⟩ v).heap[b]? = some (.cells (cs.set off v).toArray t' (N, N')) := by
    simp [World.setCell, Array.getElem?_modify, hbb]
  refine OpTo.skip (w' := w.setCell ⟨b, off, none⟩ v) ?_ (h _ (M.turned hu (Ext.setCell w ⟨b, off, none⟩ v) hh))
  simp only [execOp, Instr.storeAt, Instr.sureAddr, hx, hy, storeVar, Sem.run_bind, Sem.run_pure, Result.andThen_ok, run_sizeOf hs.h, hvc]
  simp [storeCells, addr_add, hr]
end
end Go.Proofs.Ytainnefmobfcjaa

/-
  The calculus, part I: equality of arrays and structs whose parts are integers and bools.
-/
import Derived.Test.YtadnpidadcgdcaaDoorLibH
namespace Go.Proofs.YtadnpidadcgdcaaDoor
set_option linter.unusedVariables false
set_option linter.unusedSimpArgs false
open Go.RowKit

inductive LK where
  | i (k : IntKind)
  | b
  deriving DecidableEq
def fitK : LK → Value → Bool
  | .i k, .int k' _ => decide (k = k')
  | .b, .bool _ => true
  | _, _ => false
def fitsK : List LK → List Value → Bool
  | [], [] => true
  | k :: ks, x :: xs => fitK k x && fitsK ks xs
  | _, _ => false
def eqV : Value → Value → Bool
  | .int _ a, .int _ b => a == b
  | .bool a, .bool b => a == b
  | _, _ => false
def eqVs : List Value → List Value → Bool
  | [], [] => true
  | x :: xs, y :: ys => eqV x y && eqVs xs ys
  | _, _ => false
theorem fitsK_length : ∀ {ks : List LK} {xs : List Value}, fitsK ks xs = true → xs.length = ks.length
  | [], [], _ => rfl
  | _ :: ks, _ :: xs, h => by simp only [fitsK, Bool.and_eq_true] at h; simp [fitsK_length h.2]
  | [], _ :: _, h => by cases h
  | _ :: _, [], h => by cases h
theorem fitsK_append : ∀ {ks ks' : List LK} {xs : List Value}, fitsK (ks ++ ks') xs = true → fitsK ks (xs.take ks.length) = true ∧ fitsK ks' (xs.drop ks.length) = true
  | [], ks', xs, h => by simpa [fitsK] using h
  | k :: ks, ks', [], h => by cases h
  | k :: ks, ks', x :: xs, h => by
    simp only [List.cons_append, fitsK, Bool.and_eq_true] at h
    have := fitsK_append h.2
    simp [fitsK, h.1, this]
theorem eqVs_append : ∀ (xs ys xs' ys' : List Value), xs.length = ys.length → eqVs (xs ++ xs') (ys ++ ys') = (eqVs xs ys && eqVs xs' ys')
  | [], [], _, _, _ => by simp [eqVs]
  | x :: xs, y :: ys, xs', ys', h => by simp [eqVs, eqVs_append xs ys xs' ys' (by simpa using h), Bool.and_assoc]
  | [], _ :: _, _, _, h => by simp at h
  | _ :: _, [], _, _, h => by simp at h

/-- the parts of a type, all integers and bools -/
def leafF (P : Program) (leaf : TypeId → Option (List LK)) : List Field → Nat → Option (List LK)
  | [], _ => some []
  | f :: fs, off => if f.name = "_" ∨ f.offset ≠ off then none else
    match leaf f.type with
    | some ks => if P.cellsOf f.type = ks.length then (leafF P leaf fs (off + ks.length)).map (ks ++ ·) else none
    | none => none
def leafK (P : Program) : Nat → TypeId → Option (List LK)
  | 0, _ => none
  | d + 1, t => match P.underlying t with
    | some (.int k) => some [.i k]
    | some .bool => some [.b]
    | some (.array n e) => match leafK P d e with
      | some ks => if P.cellsOf e = ks.length ∧ (P.info? e).isSome then some (List.replicate n ks).flatten else none
      | none => none
    | some (.struct fs) => if P.stoodInHeld t then none else leafF P (leafK P d) fs.toList 0
    | _ => none
def isAggT (P : Program) (t : TypeId) : Bool := match P.underlying t with | some (.struct _) | some (.array _ _) => true | _ => false
def mkT (P : Program) (t : TypeId) (xs : List Value) : Value := if isAggT P t then .agg xs.toArray else xs.headD undef

theorem take1 {xs : List Value} {off : Nat} (h : off < xs.length) : List.take 1 (List.drop off xs) = [xs[off]] := by
  rw [List.drop_eq_getElem_cons h, List.take_succ_cons, List.take_zero]

section
variable {P : Program}
theorem run_part_mk {w : World} {d : Nat} {e : TypeId} {ks : List LK} {xs : List Value} {off : Nat} (hk : leafK P d e = some ks) (hc : P.cellsOf e = ks.length) (hle : off + ks.length ≤ xs.length) :
    (part e xs.toArray off).run P w = .ok (mkT P e ((xs.drop off).take ks.length)) w := by
  cases d with
  | zero => simp [leafK] at hk
  | succ d =>
    unfold leafK at hk
    cases hu : P.underlying e with
    | none => simp [hu] at hk
    | some dsc =>
      rw [hu] at hk
      have hinfo : ∃ i, P.info? e = some i := info_of_underlying hu
      obtain ⟨i, hi⟩ := hinfo
      have hs : i.size = ks.length := by rw [← hc]; simp [Program.cellsOf, hi]
      have hex : xs.toArray.extract off (off + ks.length) = ((xs.drop off).take ks.length).toArray := by
        apply Array.ext'; simp [List.extract_eq_take_drop]
      cases dsc with
      | int k =>
        simp at hk; subst hk
        simp only [List.length_cons, List.length_nil] at hle ⊢
        have hlt : off < xs.length := by omega
        simp only [part, isAgg, Sem.run_bind, run_underlying hu, Result.andThen_ok, mkT, isAggT, hu]
        simp [hlt, take1 hlt]
      | bool =>
        simp at hk; subst hk
        simp only [List.length_cons, List.length_nil] at hle ⊢
        have hlt : off < xs.length := by omega
        simp only [part, isAgg, Sem.run_bind, run_underlying hu, Result.andThen_ok, mkT, isAggT, hu]
        simp [hlt, take1 hlt]
      | array n e' => simp only [part, isAgg, sizeOf, typeInfo, Sem.run_bind, run_underlying hu, Result.andThen_ok, mkT, isAggT, hu, run_program, Sem.run_pure, if_true]; simp [hi, hs, hex]
      | struct fs => simp only [part, isAgg, sizeOf, typeInfo, Sem.run_bind, run_underlying hu, Result.andThen_ok, mkT, isAggT, hu, run_program, Sem.run_pure, if_true]; simp [hi, hs, hex]
      | _ => simp at hk

theorem fits_flat : ∀ (n : Nat) (ks : List LK) (xs : List Value), fitsK (List.replicate n ks).flatten xs = true → xs.length = n * ks.length ∧ ∀ j, j < n → fitsK ks ((xs.drop (j * ks.length)).take ks.length) = true
  | 0, ks, xs, h => by
    have := fitsK_length h
    exact ⟨by simpa using this, fun j hj => by omega⟩
  | n + 1, ks, xs, h => by
    simp only [List.replicate_succ, List.flatten_cons] at h
    obtain ⟨h1, h2⟩ := fitsK_append h
    obtain ⟨h3, h4⟩ := fits_flat n ks _ h2
    have hl := fitsK_length h
    refine ⟨by simp at hl; rw [hl]; simp [Nat.add_mul, Nat.add_comm], fun j hj => ?_⟩
    cases j with
    | zero => simpa using h1
    | succ j =>
      have := h4 j (by omega)
      rw [List.drop_drop] at this
      rwa [show (j + 1) * ks.length = ks.length + j * ks.length by rw [Nat.add_mul]; omega]

theorem equal_leaf : ∀ (d : Nat) (t : TypeId) (ks : List LK), leafK P d t = some ks → ∀ (e : Nat) (w : World) (xs ys : List Value), fitsK ks xs = true → fitsK ks ys = true →
    (Op.equalIn (e + d) t (mkT P t xs) (mkT P t ys)).run P w = .ok (eqVs xs ys) w
  | 0, _, _, h => by simp [leafK] at h
  | d + 1, t, ks, hk => by
    intro e w xs ys hx hy
    have hk0 := hk
    unfold leafK at hk
    cases hu : P.underlying t with
    | none => simp [hu] at hk
    | some dsc =>
      rw [hu] at hk
      cases dsc with
      | int k =>
        simp at hk; subst hk
        obtain ⟨x, rfl⟩ : ∃ x, xs = [.int k x] := by
          match xs, hx with
          | [.int k' x], h => simp [fitsK, fitK] at h; subst h; exact ⟨x, rfl⟩
          | .int _ _ :: _ :: _, h => simp [fitsK] at h
        obtain ⟨y, rfl⟩ : ∃ y, ys = [.int k y] := by
          match ys, hy with
          | [.int k' y], h => simp [fitsK, fitK] at h; subst h; exact ⟨y, rfl⟩
          | .int _ _ :: _ :: _, h => simp [fitsK] at h
        simp only [mkT, isAggT, hu, Bool.false_eq_true, if_false, List.headD_cons]
        rw [show e + (d + 1) = (e + d) + 1 by omega, run_equalIn_int w (e + d) t k k x y hu]
        simp [eqVs, eqV]
      | bool =>
        simp at hk; subst hk
        obtain ⟨x, rfl⟩ : ∃ x, xs = [.bool x] := by
          match xs, hx with
          | [.bool x], _ => exact ⟨x, rfl⟩
        obtain ⟨y, rfl⟩ : ∃ y, ys = [.bool y] := by
          match ys, hy with
          | [.bool y], _ => exact ⟨y, rfl⟩
        simp only [mkT, isAggT, hu, Bool.false_eq_true, if_false, List.headD_cons]
        rw [show e + (d + 1) = (e + d) + 1 by omega, run_equalIn_bool' w (e + d) t x y hu]
        simp [eqVs, eqV]
      | array n el =>
        simp only at hk
        cases hke : leafK P d el with
        | none => simp [hke] at hk
        | some ke =>
          rw [hke] at hk
          simp only at hk
          split at hk
          · rename_i hc
            simp only [Option.some.injEq] at hk
            subst hk
            obtain ⟨i, hi⟩ := Option.isSome_iff_exists.1 hc.2
            obtain ⟨lx, fx⟩ := fits_flat _ _ _ hx
            obtain ⟨ly, fy⟩ := fits_flat _ _ _ hy
            simp only [mkT, isAggT, hu, if_true]
            rw [show e + (d + 1) = (e + d) + 1 by omega, run_equalIn_array w (e + d) _ _ hu hi]
            have key : ∀ (m j : Nat), j + m = n → (Op.eqItems (e + d) el (P.cellsOf el) xs.toArray ys.toArray (List.range' j m)).run P w = .ok (eqVs (xs.drop (j * ke.length)) (ys.drop (j * ke.length))) w := by
              intro m
              induction m with
              | zero =>
                intro j hj
                have h1 : xs.drop (j * ke.length) = [] := List.drop_eq_nil_of_le (by rw [lx]; exact Nat.le_of_eq (by rw [show j = n by omega]))
                have h2 : ys.drop (j * ke.length) = [] := List.drop_eq_nil_of_le (by rw [ly]; exact Nat.le_of_eq (by rw [show j = n by omega]))
                simp [Op.eqItems, h1, h2, eqVs]
              | succ m ih =>
                intro j hj
                have hjn : j < n := by omega
                have hmul : j * ke.length + ke.length ≤ n * ke.length := by
                  rw [show j * ke.length + ke.length = (j + 1) * ke.length by rw [Nat.add_mul]; omega]
                  exact Nat.mul_le_mul_right _ (by omega)
                rw [List.range'_succ]
                simp only [Op.eqItems, Sem.run_bind, hc.1, run_part_mk (w := w) hke hc.1 (show j * ke.length + ke.length ≤ xs.length by omega), run_part_mk (w := w) hke hc.1 (show j * ke.length + ke.length ≤ ys.length by omega), Result.andThen_ok, equal_leaf d el ke hke e w _ _ (fx j hjn) (fy j hjn)]
                have hih := ih (j + 1) (by omega)
                rw [hc.1] at hih
                have e1 : eqVs (xs.drop (j * ke.length)) (ys.drop (j * ke.length)) = (eqVs ((xs.drop (j * ke.length)).take ke.length) ((ys.drop (j * ke.length)).take ke.length) && eqVs (xs.drop ((j + 1) * ke.length)) (ys.drop ((j + 1) * ke.length))) := by
                  rw [← eqVs_append _ _ _ _ (by simp [lx, ly])]
                  rw [show (j + 1) * ke.length = j * ke.length + ke.length by rw [Nat.add_mul]; omega, ← List.drop_drop, ← List.drop_drop, List.take_append_drop, List.take_append_drop]
                rw [e1]
                cases eqVs ((xs.drop (j * ke.length)).take ke.length) ((ys.drop (j * ke.length)).take ke.length)
                · simp
                · simpa using hih
            have := key n 0 (by omega)
            simpa [List.range_eq_range'] using this
          · cases hk
      | struct fs =>
        simp only at hk
        split at hk
        · cases hk
        · rename_i hp
          have hp' : P.stoodInHeld t = false := by simpa using hp
          have hfs : P.fieldsOf t = fs := by simp [Program.fieldsOf, hu]
          simp only [mkT, isAggT, hu, if_true]
          rw [show e + (d + 1) = (e + d) + 1 by omega, run_equalIn_struct w (e + d) t _ _ (by rw [hfs]; exact hu) hp', hfs]
          have key : ∀ (l : List Field) (off : Nat) (ks : List LK), leafF P (leafK P d) l off = some ks → fitsK ks (xs.drop off) = true → fitsK ks (ys.drop off) = true → off ≤ xs.length → off ≤ ys.length →
              (Op.eqFields (e + d) xs.toArray ys.toArray l).run P w = .ok (eqVs (xs.drop off) (ys.drop off)) w := by
            intro l
            induction l with
            | nil =>
              intro off ks hl hx hy _ _
              simp only [leafF, Option.some.injEq] at hl
              subst hl
              have h1 := fitsK_length hx
              have h2 := fitsK_length hy
              have h1' : xs.drop off = [] := List.length_eq_zero_iff.1 (by simpa using h1)
              have h2' : ys.drop off = [] := List.length_eq_zero_iff.1 (by simpa using h2)
              simp [Op.eqFields, h1', h2', eqVs]
            | cons f l ih =>
              intro off ks hl hx hy ox oy
              simp only [leafF] at hl
              split at hl
              · cases hl
              · rename_i hno
                have hname : f.name ≠ "_" := fun h => hno (.inl h)
                have hoff : f.offset = off := Classical.byContradiction fun h => hno (.inr h)
                cases hkf : leafK P d f.type with
                | none => simp [hkf] at hl
                | some kf =>
                  rw [hkf] at hl
                  simp only at hl
                  split at hl
                  · rename_i hc
                    cases hr : leafF P (leafK P d) l (off + kf.length) with
                    | none => simp [hr] at hl
                    | some kr =>
                      simp only [hr, Option.map_some, Option.some.injEq] at hl
                      subst hl
                      obtain ⟨x1, x2⟩ := fitsK_append hx
                      obtain ⟨y1, y2⟩ := fitsK_append hy
                      have lx := fitsK_length x1
                      have ly := fitsK_length y1
                      simp only [List.length_take, List.length_drop] at lx ly
                      rw [List.drop_drop] at x2 y2
                      have hih := ih (off + kf.length) kr hr x2 y2 (by omega) (by omega)
                      simp only [Op.eqFields, ne_eq, hname, not_false_eq_true, if_true, Sem.run_bind, hoff, run_part_mk (w := w) hkf hc (show off + kf.length ≤ xs.length by omega), run_part_mk (w := w) hkf hc (show off + kf.length ≤ ys.length by omega), Result.andThen_ok, equal_leaf d f.type kf hkf e w _ _ x1 y1]
                      have e1 : eqVs (xs.drop off) (ys.drop off) = (eqVs ((xs.drop off).take kf.length) ((ys.drop off).take kf.length) && eqVs (xs.drop (off + kf.length)) (ys.drop (off + kf.length))) := by
                        rw [← eqVs_append _ _ _ _ (by simp; omega), ← List.drop_drop, ← List.drop_drop, List.take_append_drop, List.take_append_drop]
                      rw [e1]
                      cases eqVs ((xs.drop off).take kf.length) ((ys.drop off).take kf.length)
                      · simp
                      · simpa using hih
                  · cases hl
          have := key fs.toList 0 ks hk (by simpa using hx) (by simpa using hy) (Nat.zero_le _) (Nat.zero_le _)
          simpa using this
      | _ => simp at hk

/-- a type whose parts are integers and bools, and that holds no interface -/
def eqB (P : Program) (t : TypeId) (ks : List LK) : Bool := decide (leafK P 8 t = some ks) && isAggT P t && !P.eqGuardType P.depth t
class TEq (P : Program) (t : TypeId) (ks : outParam (List LK)) : Prop where h : eqB P t ks = true
variable {ρ : Operand → Value} {w : World} {R : Value → World → Prop} {d : Option Tmp} {ty : TypeId} {pos : String} {af : Array Edge} {g : Option (Nat × Bool)}
theorem o_eqlA {t t' : TypeId} {x y : Operand} {ks : List LK} {xs ys : List Value} [ht : TEq P t ks] (hx : ρ x = .agg xs.toArray) (hy : ρ y = .agg ys.toArray) (fx : fitsK ks xs = true) (fy : fitsK ks ys = true) (h : R (.bool (eqVs xs ys)) w) : OpTo P ⟨d, .binOp .eql t x y t', ty, pos, af, g⟩ ρ w R := by
  have hh := ht.h
  simp only [eqB, Bool.and_eq_true, decide_eq_true_eq, Bool.not_eq_true'] at hh
  have he := equal_leaf 8 t ks hh.1.1 9992 w xs ys fx fy
  simp only [mkT, hh.1.2, if_true] at he
  refine OpTo.val (v := .bool (eqVs xs ys)) (w' := w) ?_ h
  simp only [execOp, hx, hy, Sem.run_bind, run_eqGuard_agg w .eql t x y _ _ hh.2, Result.andThen_ok, run_eql_struct]
  rw [he]
  rfl
theorem o_neqA {t t' : TypeId} {x y : Operand} {ks : List LK} {xs ys : List Value} [ht : TEq P t ks] (hx : ρ x = .agg xs.toArray) (hy : ρ y = .agg ys.toArray) (fx : fitsK ks xs = true) (fy : fitsK ks ys = true) (h : R (.bool !(eqVs xs ys)) w) : OpTo P ⟨d, .binOp .neq t x y t', ty, pos, af, g⟩ ρ w R := by
  have hh := ht.h
  simp only [eqB, Bool.and_eq_true, decide_eq_true_eq, Bool.not_eq_true'] at hh
  have he := equal_leaf 8 t ks hh.1.1 9992 w xs ys fx fy
  simp only [mkT, hh.1.2, if_true] at he
  refine OpTo.val (v := .bool !(eqVs xs ys)) (w' := w) ?_ h
  simp only [execOp, hx, hy, Sem.run_bind, run_eqGuard_agg w .neq t x y _ _ hh.2, Result.andThen_ok, run_neq_struct]
  rw [he]
  rfl
end
end Go.Proofs.YtadnpidadcgdcaaDoor

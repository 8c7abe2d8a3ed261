/-
  The calculus, part J: literals of slices, parts of slices and arrays, make, copy, bytes and strings.
-/
import Derived.Test.YtadnpidadcgdcaaDoorLibI
namespace Go.Proofs.YtadnpidadcgdcaaDoor
set_option linter.unusedVariables false
set_option linter.unusedSimpArgs false
open Go.RowKit

section
variable {P : Program} {ρ : Operand → Value} {w W0 : World} {S : List Nat} {l l' : List (Nat × Obj)} {R : Value → World → Prop} {d : Option Tmp} {ty : TypeId} {pos : String} {af : Array Edge} {g : Option (Nat × Bool)}

/-- the cells of a slice's literal ahead of its parts -/
def zerosL (zs : List Value) (n : Nat) : List Value := (List.range n).map fun i => zs.getD (i % zs.length) undef
def placesL (len sz : Nat) : List (Nat × Nat) := (List.range len).map fun j => (j * sz, sz)
theorem o_buildSlice {a : Act} {nn : Nat} {df : List Deferred} {fr : List (Nat × Value)} {t e : TypeId} {len sz : Nat} {xs : List (Nat × Operand)} {parts : List (Nat × List Value)} {zs cs : List Value} (F : Frm a nn df fr) (M : Mem S W0 w l) [ht : TU P t (.slice e)] [hs : TSz P e sz] [hz : TZero P e zs] (hv : evP fr xs = some parts)
    (hle : Nat.ble (len * sz) 16777216 = true) (hzl : Nat.beq zs.length sz = true) (hp : putAll (placesL len sz) (zerosL zs (len * sz)) parts = some cs)
    (h : ∀ b w', Mem S W0 w' ((b, .cells cs.toArray e (0, 0)) :: l) → R (.slice (some ⟨b, 0, none⟩) len len) w') : OpTo P ⟨d, .buildSlice t len xs.toArray, ty, pos, af, g⟩ a.eval w R := by
  have hvals : ∀ (xs : List (Nat × Operand)) (parts : List (Nat × List Value)), evP fr xs = some parts → (xs.map fun (p : Nat × Operand) => (p.1, a.eval p.2)).map (fun p => (p.1, p.2.cells.toList)) = parts := by
    intro xs
    induction xs with
    | nil => intro parts h; simpa [evP] using h
    | cons p xs ih =>
      obtain ⟨i, x⟩ := p
      intro parts h
      simp only [evP] at h
      cases hx : Ev fr x with
      | none => simp [hx] at h
      | some v =>
        cases hr : evP fr xs with
        | none => cases v <;> simp [hx, hr] at h
        | some q =>
          have e := F.ev hx
          have i2 := ih q hr
          cases v <;> simp [hx, hr] at h <;> subst h <;> simp [e, Value.cells, ← i2]
  obtain ⟨z, hzc, hzr⟩ := run_zeroC (w := w) hz.h
  have hzl' : zs.length = sz := Nat.eq_of_beq_eq_true hzl
  have hf := fill_put (place := fun i => some (i * sz, sz)) (pl := placesL len sz) (fun j o ho => by
    rw [nthP_spec, placesL, List.getElem?_map] at ho
    cases hr : (List.range len)[j]? with
    | none => simp [hr] at ho
    | some q =>
      have : q = j := by
        obtain ⟨h1, h2⟩ := List.getElem?_eq_some_iff.1 hr
        simpa using h2.symm
      subst this
      simpa [hr] using ho) parts (xs.map fun (p : Nat × Operand) => (p.1, a.eval p.2)) (zerosL zs (len * sz)) cs (hvals xs parts hv) hp
  have hle' : ¬ (len * sz > 2 ^ 24) := by have := Nat.le_of_ble_eq_true hle; omega
  have hzero : (Array.range (len * sz)).map (fun i => zs.toArray[i % zs.toArray.size]!) = (zerosL zs (len * sz)).toArray := by
    apply Array.ext'
    simp only [Array.toList_map, Array.toList_range, zerosL]
    refine List.map_congr_left fun i hi => ?_
    have hi' : i < len * sz := List.mem_range.1 hi
    have hpos : 0 < sz := by
      rcases Nat.eq_zero_or_pos sz with h0 | h0
      · rw [h0, Nat.mul_zero] at hi'; omega
      · exact h0
    have hlt : i % zs.length < zs.length := Nat.mod_lt _ (by omega)
    simp [hlt]
  refine OpTo.val (v := .slice (some ⟨w.heap.size, 0, none⟩) len len) (w' := w.alloc (.cells cs.toArray e)) ?_ (h _ _ (M.alloc _))
  simp only [execOp, List.map_toArray, Sem.run_bind]
  rw [show (List.map (fun x : Nat × Operand => match x with | (i, x) => (i, a.eval x)) xs) = xs.map fun (p : Nat × Operand) => (p.1, a.eval p.2) from rfl]
  by_cases h0 : len * sz = 0
  · have hz0 : zerosL zs (len * sz) = [] := by rw [h0]; rfl
    rw [hz0] at hf
    have hr0 : (Array.map (fun (_ : Nat) => (default : Value)) (Array.range 0)) = #[] := by simp
    simp [Instr.buildSlice, run_underlying ht.h, run_sizeOf hs.h, h0, hr0, hf, newRow]
  · simp only [Instr.buildSlice, Sem.run_bind, run_underlying ht.h, Result.andThen_ok, run_sizeOf hs.h, if_neg hle', if_neg h0, hzr, Sem.run_pure, hzc, hzero, hf]
    simp [newRow]

/-! parts of an array behind a pointer: a[:], a[i:], a[i:j] with known bounds -/
theorem o_arrAll {t e : TypeId} {x : Operand} {b o n : Nat} (hx : ρ x = .pointer (some ⟨b, o, none⟩)) [ht : TU P t (.array n e)] {sz : Nat} [hs : TSz P e sz] (h : R (.slice (some ⟨b, o, none⟩) n n) w) : OpTo P ⟨d, .slice t x none none none, ty, pos, af, g⟩ ρ w R :=
  OpTo.val (v := .slice (some ⟨b, o, none⟩) n n) (w' := w) (by simp [execOp, Instr.sliceAt, Instr.sureAddr, Instr.sliceBounds, hx, run_underlying ht.h, run_sizeOf hs.h, addr_add]) h
theorem o_arrL {t e : TypeId} {x i : Operand} {k : IntKind} {b o n : Nat} {m : Int} (hx : ρ x = .pointer (some ⟨b, o, none⟩)) (hi : ρ i = .int k m) [ht : TU P t (.array n e)] {sz : Nat} [hs : TSz P e sz] (h0 : 0 ≤ m) (h1 : m < n) (h : R (.slice (some ⟨b, o + m.toNat * sz, none⟩) (n - m.toNat) (n - m.toNat)) w) : OpTo P ⟨d, .slice t x (some i) none none, ty, pos, af, g⟩ ρ w R := by
  have h2 : m ≤ n := by omega
  have h3 : ¬ n = m.toNat := by omega
  exact OpTo.val (v := .slice (some ⟨b, o + m.toNat * sz, none⟩) (n - m.toNat) (n - m.toNat)) (w' := w) (by simp [execOp, Instr.sliceAt, Instr.sureAddr, Instr.sliceBounds, Instr.sliceBound, asIntOf, hx, hi, run_underlying ht.h, run_sizeOf hs.h, h0, h2, h3, addr_add]) h
/-- x[i:j] of a slice, i below its capacity -/
theorem o_slLH {t e : TypeId} {x i j : Operand} {k k' : IntKind} {b o len cap : Nat} {m n : Int} (hx : ρ x = .slice (some ⟨b, o, none⟩) len cap) (hi : ρ i = .int k m) (hj : ρ j = .int k' n) [ht : TU P t (.slice e)] {sz : Nat} [hs : TSz P e sz] (h0 : 0 ≤ m) (h1 : m ≤ n) (h2 : n ≤ cap) (h3 : m < cap) (h : R (.slice (some ⟨b, o + m.toNat * sz, none⟩) (n.toNat - m.toNat) (cap - m.toNat)) w) : OpTo P ⟨d, .slice t x (some i) (some j) none, ty, pos, af, g⟩ ρ w R := by
  have h4 : 0 ≤ n := by omega
  have h5 : ¬ max n 0 < m := by omega
  have h6 : ¬ cap = m.toNat := by omega
  exact OpTo.val (v := .slice (some ⟨b, o + m.toNat * sz, none⟩) (n.toNat - m.toNat) (cap - m.toNat)) (w' := w) (by simp [execOp, Instr.sliceAt, Instr.slice, Instr.sliceBounds, Instr.sliceBound, asIntOf, hx, hi, hj, run_underlying ht.h, run_sizeOf hs.h, h0, h2, h4, h5, h6, addr_add]) h
/-- x[:j] of a slice -/
theorem o_slH {t e : TypeId} {x j : Operand} {k' : IntKind} {p : Option Addr} {len cap : Nat} {n : Int} (hx : ρ x = .slice p len cap) (hj : ρ j = .int k' n) [ht : TU P t (.slice e)] {sz : Nat} [hs : TSz P e sz] (hp : ∀ a, p = some a → a.spot = none) (h0 : 0 ≤ n) (h2 : n ≤ cap) (h : R (.slice p n.toNat cap) w) : OpTo P ⟨d, .slice t x none (some j) none, ty, pos, af, g⟩ ρ w R := by
  have e1 : (if cap = 0 then p else p.map (·.add (0 * sz))) = p := by
    cases p with
    | none => simp
    | some a => simp [Addr.add]
  exact OpTo.val (v := .slice p n.toNat cap) (w' := w) (by simp [execOp, Instr.sliceAt, Instr.slice, Instr.sliceBounds, Instr.sliceBound, asIntOf, hx, hj, run_underlying ht.h, run_sizeOf hs.h, h0, h2, Addr.add]) h

/-! bytes and strings -/
theorem o_convBS {s t e : TypeId} {x : Operand} {b off len cap : Nat} {cs : List Value} {t' : TypeId} {fz : Nat × Nat} {xs : List Int} (M : Mem S W0 w l) (hx : ρ x = .slice (some ⟨b, off, none⟩) len cap) [hs : TU P s (.slice e)] [he : TU P e (.int .u8)] [ht : TU P t .string] (hb : Has l b (.cells cs.toArray t' fz)) (hv : seg cs off len = some (xs.map (Value.int .u8)))
    (h : R (.string (strOfNums xs)) w) : OpTo P ⟨d, .convert s t x, ty, pos, af, g⟩ ρ w R := by
  obtain ⟨hl, hat⟩ := seg_spec _ _ _ _ hv
  simp only [List.length_map] at hl
  have := run_convert_bytes_arg (P := P) w s e hs.h he.h b off len cap xs hl (fun i hi => by
    refine cell_at (M.heap hb) ?_
    have := hat i hi
    simp only [List.getElem?_toArray]
    rw [this]
    simp [List.getElem?_eq_getElem (show i < xs.length by omega)]) t ht.h
  exact OpTo.val (v := .string (strOfNums xs)) (w' := w) (by simp [execOp, hx, this]) h
theorem o_convNS {s t e : TypeId} {x : Operand} {len cap : Nat} (hx : ρ x = .slice none len cap) [hs : TU P s (.slice e)] [he : TU P e (.int .u8)] [ht : TU P t .string]
    (h : R (.string .empty) w) : OpTo P ⟨d, .convert s t x, ty, pos, af, g⟩ ρ w R :=
  OpTo.val (v := .string .empty) (w' := w) (by simp [execOp, hx, run_convert_bytes_nil w s e hs.h he.h len cap t ht.h]) h
/-- bytes that the call has made itself, as a string -/
theorem o_convOS {s t e : TypeId} {x : Operand} {v : Value} {n : Nat} {xs : List Int} {ent : List (Nat × Obj)} {f : List (Nat × Obj) → List (Nat × Obj)} (hO : OwnS e 1 v n (xs.map (Value.int .u8)) ent) (M : Mem S W0 w l) (hl : TailAt ent l f) (hx : ρ x = v) [hs : TU P s (.slice e)] [he : TU P e (.int .u8)] [ht : TU P t .string]
    (h : R (.string (strOfNums xs)) w) : OpTo P ⟨d, .convert s t x, ty, pos, af, g⟩ ρ w R := by
  obtain ⟨lr, rfl, _⟩ := hl.spec
  rcases hO with ⟨rfl, rfl, hxs, rfl⟩ | ⟨b, cap, junk, rfl, rfl, hxl, _, _⟩
  · have : xs = [] := by simpa using hxs
    subst this
    exact o_convNS hx h
  · refine o_convBS (xs := xs) (b := b) (off := 0) (cs := xs.map (Value.int .u8) ++ junk) M hx ((Upd.here (o' := .deferred none) (l := [])).append lr).has ?_ h
    have := seg_of [] (xs.map (Value.int .u8)) junk
    simp only [List.nil_append, List.length_nil] at this
    rw [show (xs.map (Value.int .u8)).length = n by simpa using hxl] at this
    exact this
end
end Go.Proofs.YtadnpidadcgdcaaDoor

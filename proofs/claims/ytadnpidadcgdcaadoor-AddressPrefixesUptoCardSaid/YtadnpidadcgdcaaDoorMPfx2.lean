/-
  Texts joined: LibJ, LibK, LibL, Bits, LibM, Types, P1, P2, P3, Mask, P4, P5, P6, P7.
-/
import Derived.Test.YtadnpidadcgdcaaDoorMPfx1
import Derived.ProofKit
import Derived.OpenShut
import Derived.WideKeyArgs
import Derived.Deep.DeepHandedRow
import Derived.Lib.LaidTab
import Derived.Deep.Slices
import Derived.Shelf.Vars
import Derived.Test.YtadnpidadcgdcaaDoorProg
import Derived.KernelRfl
import Derived.Test.YtadnpidadcgdcaaDoorShelf
/-! LibJ -/
/-
  The calculus, part J: literals of slices, parts of slices and arrays, make, copy, bytes and strings.
-/
namespace Go.Proofs.YtadnpidadcgdcaaDoor
set_option linter.unusedVariables false
set_option linter.unusedSimpArgs false
open Go.RowKit

section
variable {P : Program} {ρ : Operand → Value} {w W0 : World} {S : List Nat} {l l' : List (Nat × Obj)} {R : Value → World → Prop} {d : Option Tmp} {ty : TypeId} {pos : String} {af : Array Edge} {g : Option (Nat × Bool)}

/-- the cells of a slice's literal ahead of its parts -/
def zerosL (zs : List Value) (n : Nat) : List Value := (List.range n).map fun i => zs.getD (i % zs.length) undef
def placesL (len sz : Nat) : List (Nat × Nat) := (List.range len).map fun j => (j * sz, sz)
theorem o_buildSlice {a : Act} {nn : Nat} {df : List Deferred} {fr : List (Nat × Value)} {t e : TypeId} {len sz : Nat} {xs : List (Nat × Operand)} {parts : List (Nat × List Value)} {zs cs : List Value} (F : Frm a nn df fr) (M : Mem S W0 w l) [ht : TU P t (.slice e)] [hs : TSz P e sz] [hz : TZero P e zs] (hv : evP fr xs = some parts)
    (hle : Nat.ble (len * sz) 16777216 = true) (hzl : Nat.beq zs.length sz = true) (hp : putAll (placesL len sz) (zerosL zs (len * sz)) parts = some cs)
    (h : ∀ b w', Mem S W0 w' ((b, .cells cs.toArray e (0, 0)) :: l) → R (.slice (some ⟨b, 0, none⟩) len len) w') : OpTo P ⟨d, .buildSlice t len xs.toArray, ty, pos, af, g⟩ a.eval w R := by
  have hvals : ∀ (xs : List (Nat × Operand)) (parts : List (Nat × List Value)), evP fr xs = some parts → (xs.map fun (p : Nat × Operand) => (p.1, a.eval p.2)).map (fun p => (p.1, p.2.cells.toList)) = parts := by
    intro xs
    induction xs with
    | nil => intro parts h; simpa [evP] using h
    | cons p xs ih =>
      obtain ⟨i, x⟩ := p
      intro parts h
      simp only [evP] at h
      cases hx : Ev fr x with
      | none => simp [hx] at h
      | some v =>
        cases hr : evP fr xs with
        | none => cases v <;> simp [hx, hr] at h
        | some q =>
          have e := F.ev hx
          have i2 := ih q hr
          cases v <;> simp [hx, hr] at h <;> subst h <;> simp [e, Value.cells, ← i2]
  obtain ⟨z, hzc, hzr⟩ := run_zeroC (w := w) hz.h
  have hzl' : zs.length = sz := Nat.eq_of_beq_eq_true hzl
  have hf := fill_put (place := fun i => some (i * sz, sz)) (pl := placesL len sz) (fun j o ho => by
    rw [nthP_spec, placesL, List.getElem?_map] at ho
    cases hr : (List.range len)[j]? with
    | none => simp [hr] at ho
    | some q =>
      have : q = j := by
        obtain ⟨h1, h2⟩ := List.getElem?_eq_some_iff.1 hr
        simpa using h2.symm
      subst this
      simpa [hr] using ho) parts (xs.map fun (p : Nat × Operand) => (p.1, a.eval p.2)) (zerosL zs (len * sz)) cs (hvals xs parts hv) hp
  have hle' : ¬ (len * sz > 2 ^ 24) := by have := Nat.le_of_ble_eq_true hle; omega
  have hzero : (Array.range (len * sz)).map (fun i => zs.toArray[i % zs.toArray.size]!) = (zerosL zs (len * sz)).toArray := by
    apply Array.ext'
    simp only [Array.toList_map, Array.toList_range, zerosL]
    refine List.map_congr_left fun i hi => ?_
    have hi' : i < len * sz := List.mem_range.1 hi
    have hpos : 0 < sz := by
      rcases Nat.eq_zero_or_pos sz with h0 | h0
      · rw [h0, Nat.mul_zero] at hi'; omega
      · exact h0
    have hlt : i % zs.length < zs.length := Nat.mod_lt _ (by omega)
    simp [hlt]
  refine OpTo.val (v := .slice (some ⟨w.heap.size, 0, none⟩) len len) (w' := w.alloc (.cells cs.toArray e)) ?_ (h _ _ (M.alloc _))
  simp only [execOp, List.map_toArray, Sem.run_bind]
  rw [show (List.map (fun x : Nat × Operand => match x with | (i, x) => (i, a.eval x)) xs) = xs.map fun (p : Nat × Operand) => (p.1, a.eval p.2) from rfl]
  by_cases h0 : len * sz = 0
  · have hz0 : zerosL zs (len * sz) = [] := by rw [h0]; rfl
    rw [hz0] at hf
    have hr0 : (Array.map (fun (_ : Nat) => (default : Value)) (Array.range 0)) = #[] := by simp
    simp [Instr.buildSlice, run_underlying ht.h, run_sizeOf hs.h, h0, hr0, hf, newRow]
  · simp only [Instr.buildSlice, Sem.run_bind, run_underlying ht.h, Result.andThen_ok, run_sizeOf hs.h, if_neg hle', if_neg h0, hzr, Sem.run_pure, hzc, hzero, hf]
    simp [newRow]

/-! parts of an array behind a pointer: a[:], a[i:], a[i:j] with known bounds -/
theorem o_arrAll {t e : TypeId} {x : Operand} {b o n : Nat} (hx : ρ x = .pointer (some ⟨b, o, none⟩)) [ht : TU P t (.array n e)] {sz : Nat} [hs : TSz P e sz] (h : R (.slice (some ⟨b, o, none⟩) n n) w) : OpTo P ⟨d, .slice t x none none none, ty, pos, af, g⟩ ρ w R :=
  OpTo.val (v := .slice (some ⟨b, o, none⟩) n n) (w' := w) (by simp [execOp, Instr.sliceAt, Instr.sureAddr, Instr.sliceBounds, hx, run_underlying ht.h, run_sizeOf hs.h, addr_add]) h
theorem o_arrL {t e : TypeId} {x i : Operand} {k : IntKind} {b o n : Nat} {m : Int} (hx : ρ x = .pointer (some ⟨b, o, none⟩)) (hi : ρ i = .int k m) [ht : TU P t (.array n e)] {sz : Nat} [hs : TSz P e sz] (h0 : 0 ≤ m) (h1 : m < n) (h : R (.slice (some ⟨b, o + m.toNat * sz, none⟩) (n - m.toNat) (n - m.toNat)) w) : OpTo P ⟨d, .slice t x (some i) none none, ty, pos, af, g⟩ ρ w R := by
  have h2 : m ≤ n := by omega
  have h3 : ¬ n = m.toNat := by omega
  exact OpTo.val (v := .slice (some ⟨b, o + m.toNat * sz, none⟩) (n - m.toNat) (n - m.toNat)) (w' := w) (by simp [execOp, Instr.sliceAt, Instr.sureAddr, Instr.sliceBounds, Instr.sliceBound, asIntOf, hx, hi, run_underlying ht.h, run_sizeOf hs.h, h0, h2, h3, addr_add]) h
/-- x[i:j] of a slice, i below its capacity -/
theorem o_slLH {t e : TypeId} {x i j : Operand} {k k' : IntKind} {b o len cap : Nat} {m n : Int} (hx : ρ x = .slice (some ⟨b, o, none⟩) len cap) (hi : ρ i = .int k m) (hj : ρ j = .int k' n) [ht : TU P t (.slice e)] {sz : Nat} [hs : TSz P e sz] (h0 : 0 ≤ m) (h1 : m ≤ n) (h2 : n ≤ cap) (h3 : m < cap) (h : R (.slice (some ⟨b, o + m.toNat * sz, none⟩) (n.toNat - m.toNat) (cap - m.toNat)) w) : OpTo P ⟨d, .slice t x (some i) (some j) none, ty, pos, af, g⟩ ρ w R := by
  have h4 : 0 ≤ n := by omega
  have h5 : ¬ max n 0 < m := by omega
  have h6 : ¬ cap = m.toNat := by omega
  exact OpTo.val (v := .slice (some ⟨b, o + m.toNat * sz, none⟩) (n.toNat - m.toNat) (cap - m.toNat)) (w' := w) (by simp [execOp, Instr.sliceAt, Instr.slice, Instr.sliceBounds, Instr.sliceBound, asIntOf, hx, hi, hj, run_underlying ht.h, run_sizeOf hs.h, h0, h2, h4, h5, h6, addr_add]) h
/-- x[:j] of a slice -/
theorem o_slH {t e : TypeId} {x j : Operand} {k' : IntKind} {p : Option Addr} {len cap : Nat} {n : Int} (hx : ρ x = .slice p len cap) (hj : ρ j = .int k' n) [ht : TU P t (.slice e)] {sz : Nat} [hs : TSz P e sz] (hp : ∀ a, p = some a → a.spot = none) (h0 : 0 ≤ n) (h2 : n ≤ cap) (h : R (.slice p n.toNat cap) w) : OpTo P ⟨d, .slice t x none (some j) none, ty, pos, af, g⟩ ρ w R := by
  have e1 : (if cap = 0 then p else p.map (·.add (0 * sz))) = p := by
    cases p with
    | none => simp
    | some a => simp [Addr.add]
  exact OpTo.val (v := .slice p n.toNat cap) (w' := w) (by simp [execOp, Instr.sliceAt, Instr.slice, Instr.sliceBounds, Instr.sliceBound, asIntOf, hx, hj, run_underlying ht.h, run_sizeOf hs.h, h0, h2, Addr.add]) h

/-! bytes and strings -/
theorem o_convBS {s t e : TypeId} {x : Operand} {b off len cap : Nat} {cs : List Value} {t' : TypeId} {fz : Nat × Nat} {xs : List Int} (M : Mem S W0 w l) (hx : ρ x = .slice (some ⟨b, off, none⟩) len cap) [hs : TU P s (.slice e)] [he : TU P e (.int .u8)] [ht : TU P t .string] (hb : Has l b (.cells cs.toArray t' fz)) (hv : seg cs off len = some (xs.map (Value.int .u8)))
    (h : R (.string (strOfNums xs)) w) : OpTo P ⟨d, .convert s t x, ty, pos, af, g⟩ ρ w R := by
  obtain ⟨hl, hat⟩ := seg_spec _ _ _ _ hv
  simp only [List.length_map] at hl
  have := run_convert_bytes_arg (P := P) w s e hs.h he.h b off len cap xs hl (fun i hi => by
    refine cell_at (M.heap hb) ?_
    have := hat i hi
    simp only [List.getElem?_toArray]
    rw [this]
    simp [List.getElem?_eq_getElem (show i < xs.length by omega)]) t ht.h
  exact OpTo.val (v := .string (strOfNums xs)) (w' := w) (by simp [execOp, hx, this]) h
theorem o_convNS {s t e : TypeId} {x : Operand} {len cap : Nat} (hx : ρ x = .slice none len cap) [hs : TU P s (.slice e)] [he : TU P e (.int .u8)] [ht : TU P t .string]
    (h : R (.string .empty) w) : OpTo P ⟨d, .convert s t x, ty, pos, af, g⟩ ρ w R :=
  OpTo.val (v := .string .empty) (w' := w) (by simp [execOp, hx, run_convert_bytes_nil w s e hs.h he.h len cap t ht.h]) h
/-- bytes that the call has made itself, as a string -/
theorem o_convOS {s t e : TypeId} {x : Operand} {v : Value} {n : Nat} {xs : List Int} {ent : List (Nat × Obj)} {f : List (Nat × Obj) → List (Nat × Obj)} (hO : OwnS e 1 v n (xs.map (Value.int .u8)) ent) (M : Mem S W0 w l) (hl : TailAt ent l f) (hx : ρ x = v) [hs : TU P s (.slice e)] [he : TU P e (.int .u8)] [ht : TU P t .string]
    (h : R (.string (strOfNums xs)) w) : OpTo P ⟨d, .convert s t x, ty, pos, af, g⟩ ρ w R := by
  obtain ⟨lr, rfl, _⟩ := hl.spec
  rcases hO with ⟨rfl, rfl, hxs, rfl⟩ | ⟨b, cap, junk, rfl, rfl, hxl, _, _⟩
  · have : xs = [] := by simpa using hxs
    subst this
    exact o_convNS hx h
  · refine o_convBS (xs := xs) (b := b) (off := 0) (cs := xs.map (Value.int .u8) ++ junk) M hx ((Upd.here (o' := .deferred none) (l := [])).append lr).has ?_ h
    have := seg_of [] (xs.map (Value.int .u8)) junk
    simp only [List.nil_append, List.length_nil] at this
    rw [show (xs.map (Value.int .u8)).length = n by simpa using hxl] at this
    exact this
end
end Go.Proofs.YtadnpidadcgdcaaDoor

/-! LibK -/
/-
  The calculus, part K: tests that are decided; a cut.
-/
namespace Go.Proofs.YtadnpidadcgdcaaDoor
set_option linter.unusedVariables false
set_option linter.unusedSimpArgs false
open Go.RowKit

section
variable {P : Program} {ρ : Operand → Value} {w : World} {R : Value → World → Prop} {d : Option Tmp} {ty : TypeId} {pos : String} {af : Array Edge} {g : Option (Nat × Bool)} {t t' : TypeId} {x y : Operand} {k : IntKind} {m n : Int}
theorem o_lssT (hx : ρ x = .int k m) (hy : ρ y = .int k n) (hc : m < n) (h : R (.bool true) w) : OpTo P ⟨d, .binOp .lss t x y t', ty, pos, af, g⟩ ρ w R := o_lss hx hy (by rw [decide_eq_true hc]; exact h)
theorem o_lssF (hx : ρ x = .int k m) (hy : ρ y = .int k n) (hc : ¬ m < n) (h : R (.bool false) w) : OpTo P ⟨d, .binOp .lss t x y t', ty, pos, af, g⟩ ρ w R := o_lss hx hy (by rw [decide_eq_false hc]; exact h)
theorem o_leqT (hx : ρ x = .int k m) (hy : ρ y = .int k n) (hc : m ≤ n) (h : R (.bool true) w) : OpTo P ⟨d, .binOp .leq t x y t', ty, pos, af, g⟩ ρ w R := o_leq hx hy (by rw [decide_eq_true hc]; exact h)
theorem o_leqF (hx : ρ x = .int k m) (hy : ρ y = .int k n) (hc : ¬ m ≤ n) (h : R (.bool false) w) : OpTo P ⟨d, .binOp .leq t x y t', ty, pos, af, g⟩ ρ w R := o_leq hx hy (by rw [decide_eq_false hc]; exact h)
theorem o_gtrT (hx : ρ x = .int k m) (hy : ρ y = .int k n) (hc : n < m) (h : R (.bool true) w) : OpTo P ⟨d, .binOp .gtr t x y t', ty, pos, af, g⟩ ρ w R := o_gtr hx hy (by rw [decide_eq_true hc]; exact h)
theorem o_gtrF (hx : ρ x = .int k m) (hy : ρ y = .int k n) (hc : ¬ n < m) (h : R (.bool false) w) : OpTo P ⟨d, .binOp .gtr t x y t', ty, pos, af, g⟩ ρ w R := o_gtr hx hy (by rw [decide_eq_false hc]; exact h)
theorem o_geqT (hx : ρ x = .int k m) (hy : ρ y = .int k n) (hc : n ≤ m) (h : R (.bool true) w) : OpTo P ⟨d, .binOp .geq t x y t', ty, pos, af, g⟩ ρ w R := o_geq hx hy (by rw [decide_eq_true hc]; exact h)
theorem o_geqF (hx : ρ x = .int k m) (hy : ρ y = .int k n) (hc : ¬ n ≤ m) (h : R (.bool false) w) : OpTo P ⟨d, .binOp .geq t x y t', ty, pos, af, g⟩ ρ w R := o_geq hx hy (by rw [decide_eq_false hc]; exact h)
theorem o_eqlT (hx : ρ x = .int k m) (hy : ρ y = .int k n) (hc : m = n) (h : R (.bool true) w) : OpTo P ⟨d, .binOp .eql t x y t', ty, pos, af, g⟩ ρ w R := o_eql hx hy (by rw [beq_iff_eq.2 hc]; exact h)
theorem o_eqlF (hx : ρ x = .int k m) (hy : ρ y = .int k n) (hc : ¬ m = n) (h : R (.bool false) w) : OpTo P ⟨d, .binOp .eql t x y t', ty, pos, af, g⟩ ρ w R := o_eql hx hy (by rw [beq_eq_false_iff_ne.2 hc]; exact h)
theorem o_neqT (hx : ρ x = .int k m) (hy : ρ y = .int k n) (hc : ¬ m = n) (h : R (.bool true) w) : OpTo P ⟨d, .binOp .neq t x y t', ty, pos, af, g⟩ ρ w R := o_neq hx hy (by rw [bne_iff_ne.2 hc]; exact h)
theorem o_neqF (hx : ρ x = .int k m) (hy : ρ y = .int k n) (hc : m = n) (h : R (.bool false) w) : OpTo P ⟨d, .binOp .neq t x y t', ty, pos, af, g⟩ ρ w R := o_neq hx hy (by rw [show (m != n) = false by simp [hc]]; exact h)
end

/-- The code is left off its end, and of the frame and the memory this is known. -/
def Only (I : Act → World → Prop) : Exit → Act → World → Prop
  | .normal, a, w => I a w
  | _, _, _ => False
theorem c_cut {P : Program} {r : Option Nat} {c : Code} {Q : Exit → Act → World → Prop} {a : Act} {w : World} (I : Act → World → Prop) (h : Wp r P c (Only I) a w) (k : ∀ a' w', I a' w' → Q .normal a' w') : Wp r P c Q a w :=
  wpIn_mono h fun e a' w' hq => by cases e <;> first | exact k a' w' hq | exact hq.elim
theorem q_only {I : Act → World → Prop} {a : Act} {w : World} (h : I a w) : Only I .normal a w := h
end Go.Proofs.YtadnpidadcgdcaaDoor

/-! LibL -/
/-
  The calculus, part L: strings as lists of bytes.
-/
namespace Go.Proofs.YtadnpidadcgdcaaDoor
set_option linter.unusedVariables false
set_option linter.unusedSimpArgs false
open Go.RowKit

/-- the string of a list of bytes -/
abbrev mkS (bs : List UInt8) : Value := .string ⟨bs.toArray⟩
theorem mkS_size (bs : List UInt8) : (⟨bs.toArray⟩ : ByteArray).size = bs.length := by simp [ByteArray.size]
theorem mkS_toList (bs : List UInt8) : (⟨bs.toArray⟩ : ByteArray).toList = bs := by rw [ByteArray.toList_eq]
theorem mkS_extract (bs : List UInt8) (i j : Nat) : (⟨bs.toArray⟩ : ByteArray).extract i j = ⟨((bs.drop i).take (j - i)).toArray⟩ := by
  apply ByteArray.ext
  rw [ByteArray.data_extract]
  apply Array.ext'
  simp [List.extract_eq_take_drop]
theorem mkS_append (xs ys : List UInt8) : (⟨xs.toArray⟩ ++ ⟨ys.toArray⟩ : ByteArray) = ⟨(xs ++ ys).toArray⟩ := by
  apply ByteArray.ext
  simp
theorem mkS_get {bs : List UInt8} {i : Nat} (h : i < bs.length) : (⟨bs.toArray⟩ : ByteArray)[i]? = some bs[i] := by
  rw [getElem?_pos _ _ (by simpa [ByteArray.size] using h)]
  rfl
theorem byte_lt (b : UInt8) : 0 ≤ (b.toNat : Int) ∧ (b.toNat : Int) ≤ 255 := by have := b.toNat_lt; omega

section
variable {P : Program} {ρ : Operand → Value} {w : World} {R : Value → World → Prop} {d : Option Tmp} {ty : TypeId} {pos : String} {af : Array Edge} {g : Option (Nat × Bool)} {t t' : TypeId} {x y i j : Operand} {k k' : IntKind} {m n : Int} {bs cs : List UInt8}
theorem s_len (hx : ρ x = mkS bs) [ht : TU P t .string] (h : R (.int .i64 bs.length) w) : OpTo P ⟨d, .call ⟨.builtin .len, #[x], #[t]⟩, ty, pos, af, g⟩ ρ w R := o_lenStr hx (by rw [mkS_size]; exact h)
theorem s_idx {q : Nat} (hx : ρ x = mkS bs) (hi : ρ i = .int k m) [ht : TU P t .string] (hq : m = q) (hl : q < bs.length) (h : R (.int .u8 (bs[q]).toNat) w) : OpTo P ⟨d, .index t x i, ty, pos, af, g⟩ ρ w R := by
  subst hq
  exact o_indexStr hx hi (by omega) (by simpa using mkS_get hl) h
theorem s_add (hx : ρ x = mkS bs) (hy : ρ y = mkS cs) (hs : bs.length + cs.length ≤ 9223372036854775807) (h : R (mkS (bs ++ cs)) w) : OpTo P ⟨d, .binOp .add t x y t', ty, pos, af, g⟩ ρ w R :=
  o_addS hx hy (by simpa [mkS_size] using hs) (by rw [mkS_append]; exact h)
theorem s_eql (hx : ρ x = mkS bs) (hy : ρ y = mkS cs) (h : R (.bool (bs == cs)) w) : OpTo P ⟨d, .binOp .eql t x y t', ty, pos, af, g⟩ ρ w R := o_eqlS hx hy (by rw [mkS_toList, mkS_toList]; exact h)
theorem s_neq (hx : ρ x = mkS bs) (hy : ρ y = mkS cs) (h : R (.bool !(bs == cs)) w) : OpTo P ⟨d, .binOp .neq t x y t', ty, pos, af, g⟩ ρ w R := o_neqS hx hy (by rw [mkS_toList, mkS_toList]; exact h)
theorem s_lh {p q : Nat} (hx : ρ x = mkS bs) (hi : ρ i = .int k m) (hj : ρ j = .int k' n) [ht : TU P t .string] (hp : m = p) (hq : n = q) (h1 : p ≤ q) (h2 : q ≤ bs.length) (h : R (mkS ((bs.drop p).take (q - p))) w) : OpTo P ⟨d, .slice t x (some i) (some j) none, ty, pos, af, g⟩ ρ w R := by
  subst hp; subst hq
  exact o_subS hx hi hj (by omega) (by omega) (by rw [mkS_size]; omega) (by rw [mkS_extract]; exact h)
theorem s_l {p : Nat} (hx : ρ x = mkS bs) (hi : ρ i = .int k m) [ht : TU P t .string] (hp : m = p) (h2 : p ≤ bs.length) (h : R (mkS (bs.drop p)) w) : OpTo P ⟨d, .slice t x (some i) none none, ty, pos, af, g⟩ ρ w R := by
  subst hp
  refine o_subSl hx hi (by omega) (by rw [mkS_size]; omega) ?_
  rw [mkS_extract, mkS_size]
  simp only [Int.toNat_natCast]
  rw [List.take_of_length_le (by simp)]
  exact h
theorem s_h {q : Nat} (hx : ρ x = mkS bs) (hj : ρ j = .int k n) [ht : TU P t .string] (hq : n = q) (h2 : q ≤ bs.length) (h : R (mkS (bs.take q)) w) : OpTo P ⟨d, .slice t x none (some j) none, ty, pos, af, g⟩ ρ w R := by
  subst hq
  refine o_subSh hx hj (by omega) (by rw [mkS_size]; omega) ?_
  rw [mkS_extract]
  simpa using h
end
end Go.Proofs.YtadnpidadcgdcaaDoor

/-! Bits -/
/-
  Bits of unsigned integers: the four operations as operations on natural numbers.
-/
namespace Go.Proofs.YtadnpidadcgdcaaDoor
set_option linter.unusedVariables false
set_option linter.unusedSimpArgs false
open Go.RowKit

theorem wrap_u {k : IntKind} (hk : k.signed = false) {n : Nat} (h : n < 2 ^ k.bits) : k.wrap (n : Int) = n := by
  simp only [IntKind.wrap, hk, Bool.false_and, Bool.false_eq_true, if_false]
  exact Int.emod_eq_of_lt (by omega) (by exact_mod_cast h)
theorem ofInt_u (b : Nat) {m : Int} (h0 : 0 ≤ m) : BitVec.ofInt b m = BitVec.ofNat b m.toNat := by
  obtain ⟨n, rfl⟩ := Int.eq_ofNat_of_zero_le h0
  simp
theorem bits_or {k : IntKind} (hk : k.signed = false) {m n : Nat} (hm : m < 2 ^ k.bits) (hn : n < 2 ^ k.bits) : bitsOf .or k m n = ((m ||| n : Nat) : Int) := by
  simp only [bitsOf]
  rw [ofInt_u _ (by omega), ofInt_u _ (by omega), BitVec.toNat_or, BitVec.toNat_ofNat, BitVec.toNat_ofNat]
  simp only [Int.toNat_natCast, Nat.mod_eq_of_lt hm, Nat.mod_eq_of_lt hn]
  exact wrap_u hk (Nat.or_lt_two_pow hm hn)
theorem bits_and {k : IntKind} (hk : k.signed = false) {m n : Nat} (hm : m < 2 ^ k.bits) (hn : n < 2 ^ k.bits) : bitsOf .and k m n = ((m &&& n : Nat) : Int) := by
  simp only [bitsOf]
  rw [ofInt_u _ (by omega), ofInt_u _ (by omega), BitVec.toNat_and, BitVec.toNat_ofNat, BitVec.toNat_ofNat]
  simp only [Int.toNat_natCast, Nat.mod_eq_of_lt hm, Nat.mod_eq_of_lt hn]
  exact wrap_u hk (Nat.and_lt_two_pow _ hn)
theorem bits_xor {k : IntKind} (hk : k.signed = false) {m n : Nat} (hm : m < 2 ^ k.bits) (hn : n < 2 ^ k.bits) : bitsOf .xor k m n = ((m ^^^ n : Nat) : Int) := by
  simp only [bitsOf]
  rw [ofInt_u _ (by omega), ofInt_u _ (by omega), BitVec.toNat_xor, BitVec.toNat_ofNat, BitVec.toNat_ofNat]
  simp only [Int.toNat_natCast, Nat.mod_eq_of_lt hm, Nat.mod_eq_of_lt hn]
  exact wrap_u hk (Nat.xor_lt_two_pow hm hn)
/-- what lies above j bits, and what lies below -/
theorem or_add {k : IntKind} (hk : k.signed = false) (j q n : Nat) (hn : n < 2 ^ j) (hm : 2 ^ j * q + n < 2 ^ k.bits) : bitsOf .or k ((2 ^ j * q : Nat) : Int) (n : Int) = ((2 ^ j * q + n : Nat) : Int) := by
  rw [bits_or hk (by omega) (by omega), ← Nat.two_pow_add_eq_or_of_lt hn]
theorem shl4or {g d : Int} (h0 : 0 ≤ g) (h1 : g ≤ 4095) (d0 : 0 ≤ d) (d1 : d ≤ 15) : bitsOf .or .u16 (IntKind.u16.wrap (g * 2 ^ min (Int.toNat 4) IntKind.u16.bits)) d = 16 * g + d := by
  obtain ⟨q, rfl⟩ := Int.eq_ofNat_of_zero_le h0
  obtain ⟨n, rfl⟩ := Int.eq_ofNat_of_zero_le d0
  have e : IntKind.u16.wrap ((q : Int) * 2 ^ min (Int.toNat 4) IntKind.u16.bits) = ((2 ^ 4 * q : Nat) : Int) := by
    have : ((q : Int) * 2 ^ min (Int.toNat 4) IntKind.u16.bits) = ((2 ^ 4 * q : Nat) : Int) := by
      show (q : Int) * 16 = _
      omega
    rw [this]
    exact wrap_u rfl (show 2 ^ 4 * q < 65536 by omega)
  rw [e, or_add (k := .u16) rfl 4 q n (by omega) (show 2 ^ 4 * q + n < 65536 by omega)]
  omega
end Go.Proofs.YtadnpidadcgdcaaDoor

/-! LibM -/
/-
  The closing, part M: from what a row says of the arguments to our contracts' forms, and back: a law that answers true and turns nothing that there was.
-/
namespace Go.Proofs.YtadnpidadcgdcaaDoor
set_option linter.unusedVariables false
set_option linter.unusedSimpArgs false
open Go.RowKit

section
variable {H : Type} {enc : TypeId × Value → H} {P : Program}

theorem Ext.grown {W W' : World} (h : Ext [] W W') (may : MemPlace → Prop) : W.keptBut W' may := by
  refine ⟨h.os, h.output, fun i hi => ?_⟩
  rw [h.block i hi (by simp)]
  cases hb : W.heap[i]? with
  | none => rfl
  | some o => cases o <;> simp

theorem Ext.sameAt {W W' : World} (h : Ext [] W W') {p : MemPlace} (hp : p.block < W.heap.size) : W.sameAt W' p := by
  cases p with
  | cell b o => exact World.cell?_of_block (h.block b hp (by simp))
  | map b => exact h.block b hp (by simp)

theorem trodAll_stays (hl : laidOutB P = true) {W W' : World} (hE : Ext [] W W') {sp : Nat → Bool} : ∀ {ts : List TypeId} {vs : List Value} {ds : List (DataW H)} {ps : List MemPlace}, (∀ t ∈ ts, P.readableRec t = true ∧ t < P.types.size) →
    DataW.TrodAll enc P W 0 (fun _ => true) true ts vs ds ps → (∀ p ∈ ps, p.block < W.heap.size ∧ sp p.block = true) → DataW.TrodAll enc P W' 0 sp true ts vs ds ps
  | [], [], [], ps, _, h, _ => h
  | t :: ts, v :: vs, d :: ds, ps, ht, h, hp => by
    obtain ⟨p, q, h1, h2, rfl⟩ := h
    refine ⟨p, q, WideElems.Trod_stays hl (ht t (by simp)).1 (ht t (by simp)).2 h1 (fun x hx => hE.sameAt (hp x (by simp [hx])).1) (fun x hx => (hp x (by simp [hx])).2), ?_, rfl⟩
    exact trodAll_stays hl hE (fun t ht' => ht t (by simp [ht'])) h2 (fun x hx => hp x (by simp [hx]))
  | [], _ :: _, _, _, _, h, _ => by simp [DataW.TrodAll] at h
  | [], [], _ :: _, _, _, h, _ => by simp [DataW.TrodAll] at h
  | _ :: _, [], _, _, _, h, _ => by simp [DataW.TrodAll] at h
  | _ :: _, _ :: _, [], _, _, h, _ => by simp [DataW.TrodAll] at h
theorem trodAll_len {W : World} {base : Nat} {sp : Nat → Bool} {hd : Bool} : ∀ {ts : List TypeId} {vs : List Value} {ds : List (DataW H)} {ps : List MemPlace}, DataW.TrodAll enc P W base sp hd ts vs ds ps → ds.length = ts.length
  | [], [], [], _, _ => rfl
  | _ :: _, _ :: _, _ :: _, _, h => by
    obtain ⟨p, q, _, h2, _⟩ := h
    simp [trodAll_len h2]
  | [], _ :: _, _, _, h => by simp [DataW.TrodAll] at h
  | [], [], _ :: _, _, h => by simp [DataW.TrodAll] at h
  | _ :: _, [], _, _, h => by simp [DataW.TrodAll] at h
  | _ :: _, _ :: _, [], _, h => by simp [DataW.TrodAll] at h

/-- by program: these types can be read -/
def readOk (P : Program) (ts : List TypeId) : Bool := ts.all fun u => P.readableRec u && decide (u < P.types.size)
/-- A law that answers true. -/
theorem law_post {f : Func} {s : ChangeSpec} {W W' : World} {args : Array Value} {ds gs : List (DataW H)} {before : List MemPlace} {tb : TypeId} (hl : laidOutB P = true) (hto : readOk P f.params.toList = true) (hv : s.vars = []) (hr : f.resultTypes = #[tb]) (hb : P.underlying tb = some .bool)
    (hfn : ∀ xs : List (DataW H), xs.length = f.params.toList.length → s.fn H xs = { results := [.lit (.bool true)], args := xs }) (hW : DataW.Whole enc P f.params.toList s.vars false W args.toList ds gs before) (hE : Ext [] W W') :
    s.post enc P f false true false false W args (.bool true) W' := by
  have hts : ∀ t ∈ f.params.toList, P.readableRec t = true ∧ t < P.types.size := fun t ht => by simpa using List.all_eq_true.1 hto t ht
  have hW' := hW
  have hlt := hW.lt
  obtain ⟨p, q, hA, hV, rfl, _, _⟩ := hW
  rw [hv] at hV
  obtain ⟨rfl, rfl⟩ : gs = [] ∧ q = [] := by
    cases gs with
    | nil => exact ⟨rfl, hV⟩
    | cons g gs => exact hV.elim
  have hlen := trodAll_len hA
  refine ⟨ds, [], p ++ [], [], p, [], hW', ?_, ?_, ?_, hE.grown _, fun h => by cases h⟩
  · rw [List.append_nil, hfn ds hlen, hr]
    exact ⟨[], [], shut_bool hb true, rfl, rfl⟩
  · rw [List.append_nil, hfn ds hlen]
    exact trodAll_stays hl hE hts hA fun x hx => by
      have := hlt x (by simpa using hx)
      exact ⟨this, by simpa using this⟩
  · rw [List.append_nil, hfn ds hlen, hv]
    exact rfl

/-! ### types whose parts are integers and bools -/
def wfV : LK → Value → Bool
  | .i k, .int k' n => decide (k = k') && (Lit.int k n).wf
  | .b, .bool _ => true
  | _, _ => false
def wfK : List LK → List Value → Bool
  | [], [] => true
  | k :: ks, x :: xs => wfV k x && wfK ks xs
  | _, _ => false
theorem wfK_fits : ∀ {ks : List LK} {xs : List Value}, wfK ks xs = true → fitsK ks xs = true
  | [], [], _ => rfl
  | k :: ks, x :: xs, h => by
    simp only [wfK, Bool.and_eq_true] at h
    simp only [fitsK, Bool.and_eq_true]
    refine ⟨?_, wfK_fits h.2⟩
    have h1 := h.1
    cases k <;> cases x <;> simp [wfV, fitK] at h1 ⊢
    exact h1.1
  | [], _ :: _, h => by cases h
  | _ :: _, [], h => by cases h
theorem wfK_append : ∀ {ks ks' : List LK} {xs xs' : List Value}, wfK ks xs = true → wfK ks' xs' = true → wfK (ks ++ ks') (xs ++ xs') = true
  | [], ks', [], xs', _, h => h
  | k :: ks, ks', x :: xs, xs', h, h' => by
    simp only [wfK, Bool.and_eq_true] at h
    simp only [List.cons_append, wfK, Bool.and_eq_true]
    exact ⟨h.1, wfK_append h.2 h'⟩
  | [], _, _ :: _, _, h, _ => by cases h
  | _ :: _, _, [], _, h, _ => by cases h
theorem flat_wf {ks : List LK} : ∀ (n : Nat) (xs : List Value), xs.length = n * ks.length → (∀ i, i < n → wfK ks ((xs.drop (i * ks.length)).take ks.length) = true) → wfK (List.replicate n ks).flatten xs = true
  | 0, xs, hl, _ => by
    have : xs = [] := List.length_eq_zero_iff.1 (by simpa using hl)
    subst this; rfl
  | n + 1, xs, hl, h => by
    have h0 := h 0 (by omega)
    simp only [Nat.zero_mul, List.drop_zero] at h0
    have hr := flat_wf (ks := ks) n (xs.drop ks.length) (by rw [List.length_drop, hl, Nat.add_mul]; omega) fun i hi => by
      have := h (i + 1) (by omega)
      rw [List.drop_drop]
      rwa [show (i + 1) * ks.length = ks.length + i * ks.length by rw [Nat.add_mul]; omega] at this
    have := wfK_append h0 hr
    rw [List.take_append_drop] at this
    simpa [List.replicate_succ] using this

theorem open_leaf {w : World} {base : Nat} {sp : Nat → Bool} {held : Bool} : ∀ (d : Nat) (t : TypeId) (ks : List LK), leafK P d t = some ks → ∀ (fuel : Nat) (cs : List Value) (x : DataW H × List MemPlace), DataW.trod enc P w base sp held fuel t cs = some x → (P.cellsOf t = ks.length ∨ isAggT P t = false) → wfK ks cs = true
  | 0, _, _, h => by simp [leafK] at h
  | d + 1, t, ks, hk => by
    intro fuel cs x hx hC
    unfold leafK at hk
    cases hu : P.underlying t with
    | none => simp [hu] at hk
    | some dsc =>
      rw [hu] at hk
      cases dsc with
      | int k =>
        simp at hk; subst hk
        obtain ⟨n, rfl, _, hw⟩ := DataW.trod_int hu hx
        simp [wfK, wfV, hw]
      | bool =>
        simp at hk; subst hk
        obtain ⟨b, rfl, _⟩ := DataW.trod_bool hu hx
        simp [wfK, wfV]
      | array n e =>
        simp only at hk
        cases hke : leafK P d e with
        | none => simp [hke] at hk
        | some ke =>
          rw [hke] at hk
          simp only at hk
          split at hk
          · rename_i hc
            simp only [Option.some.injEq] at hk
            subst hk
            obtain ⟨xs, m, rfl, rfl, hl, hn, hat⟩ := DataW.trod_array hu hx
            have hC' : P.cellsOf t = n * ke.length := by
              rcases hC with h | h
              · rw [h]; simp
              · simp [isAggT, hu] at h
            refine flat_wf n cs (by rw [hl, hC']) fun i hi => ?_
            have h1 := hat i hi
            rw [List.getElem?_eq_getElem (by omega)] at h1
            have := open_leaf d e ke hke m _ _ h1 (.inl hc.1)
            rwa [hc.1] at this
          · cases hk
      | struct fs =>
        simp only at hk
        split at hk
        · cases hk
        · obtain ⟨xs, m, rfl, rfl, hl, hn, hat⟩ := DataW.trod_struct hu hx
          have key : ∀ (l : List Field) (off j : Nat) (ks : List LK), fs.toList.drop j = l → leafF P (leafK P d) l off = some ks → cs.length = off + ks.length → wfK ks (cs.drop off) = true := by
            intro l
            induction l with
            | nil =>
              intro off j ks _ hf hlen
              simp only [leafF, Option.some.injEq] at hf
              subst hf
              have : cs.drop off = [] := List.drop_eq_nil_of_le (by simp at hlen; omega)
              rw [this]; rfl
            | cons f l ih =>
              intro off j ks hd hf hlen
              simp only [leafF] at hf
              split at hf
              · cases hf
              · rename_i hno
                have hoff : f.offset = off := Classical.byContradiction fun h => hno (.inr h)
                cases hkf : leafK P d f.type with
                | none => simp [hkf] at hf
                | some kf =>
                  rw [hkf] at hf
                  simp only at hf
                  split at hf
                  · rename_i hc
                    cases hr : leafF P (leafK P d) l (off + kf.length) with
                    | none => simp [hr] at hf
                    | some kr =>
                      simp only [hr, Option.map_some, Option.some.injEq] at hf
                      subst hf
                      have hj : fs[j]? = some f := by
                        have : (fs.toList.drop j)[0]? = some f := by rw [hd]; rfl
                        rw [List.getElem?_drop] at this
                        simpa using this
                      have hjs : j < fs.size := (Array.getElem?_eq_some_iff.1 hj).1
                      have h1 := hat j f hj
                      rw [List.getElem?_eq_getElem (by omega), hoff] at h1
                      have w1 := open_leaf d f.type kf hkf m _ _ h1 (.inl hc)
                      rw [hc] at w1
                      have hd' : fs.toList.drop (j + 1) = l := by
                        have : fs.toList.drop (j + 1) = (fs.toList.drop j).drop 1 := by rw [List.drop_drop]
                        rw [this, hd]; rfl
                      have w2 := ih (off + kf.length) (j + 1) kr hd' hr (by rw [hlen]; simp; omega)
                      rw [← List.drop_drop] at w2
                      have := wfK_append w1 w2
                      rwa [List.take_append_drop] at this
                  · cases hf
          have hC' : P.cellsOf t = ks.length := by
            rcases hC with h | h
            · exact h
            · simp [isAggT, hu] at h
          have := key fs.toList 0 0 ks rfl hk (by rw [hl, hC']; simp)
          simpa using this
      | _ => simp at hk

/-- An argument of such a type. -/
theorem open_lf {w : World} {r : Reach} {b0 base : Nat} {sp : Nat → Bool} {held : Bool} {t : TypeId} {ks : List LK} {v : Value} {d : DataW H} {p : List MemPlace} (hk : (decide (leafK P 8 t = some ks) && isAggT P t && decide (P.cellsOf t = ks.length)) = true) (hval : Value.okWide P w r b0 t v) (h : DataW.Trod enc P w base sp held t v d p) :
    ∃ xs : List Value, v = .agg xs.toArray ∧ wfK ks xs = true := by
  simp only [Bool.and_eq_true, decide_eq_true_eq] at hk
  obtain ⟨fuel, hf⟩ := h
  have hag : ∃ cs, v = .agg cs := by
    have := hk.1.2
    unfold isAggT at this
    unfold Value.okWide at hval
    split at this
    · rename_i hu; rw [hu] at hval; obtain ⟨cs, h, _⟩ := hval; exact ⟨cs, h⟩
    · rename_i hu; rw [hu] at hval; obtain ⟨cs, h, _⟩ := hval; exact ⟨cs, h⟩
    · cases this
  obtain ⟨cs, rfl⟩ := hag
  exact ⟨cs.toList, by simp, open_leaf 8 t ks hk.1.1 fuel _ _ hf (.inl hk.2)⟩
theorem wf_bd {k : IntKind} {n : Int} (h : (Lit.int k n).wf = true) : k.min ≤ n ∧ n ≤ k.max := by
  simpa [Lit.wf] using h
end
end Go.Proofs.YtadnpidadcgdcaaDoor

/-! Types -/
/-
  Facts on the types and functions of the program, as instances; laid by a program (wip/types.py).
-/
namespace Go.Proofs.YtadnpidadcgdcaaDoor
set_option linter.unusedVariables false
instance : TMix Tryd.prog := ⟨by kernel_rfl⟩
instance : TOne Tryd.prog 1 := ⟨by kernel_rfl⟩
instance : TSz Tryd.prog 1 1 := ⟨by kernel_rfl⟩
instance : TZero Tryd.prog 1 [.nilFunc] := ⟨by kernel_rfl⟩
instance : TU Tryd.prog 2 (TypeDesc.int IntKind.i64) := ⟨Tryd.underlying2⟩
instance : TSz Tryd.prog 2 1 := ⟨by kernel_rfl⟩
instance : TOne Tryd.prog 2 := ⟨by kernel_rfl⟩
instance : TEl Tryd.prog 2 1 8 := ⟨by kernel_rfl⟩
instance : TZero Tryd.prog 2 [.int .i64 0] := ⟨by kernel_rfl⟩
instance : TU Tryd.prog 3 (TypeDesc.int IntKind.i64) := ⟨Tryd.underlying3⟩
instance : TSz Tryd.prog 3 1 := ⟨by kernel_rfl⟩
instance : TOne Tryd.prog 3 := ⟨by kernel_rfl⟩
instance : TEl Tryd.prog 3 1 8 := ⟨by kernel_rfl⟩
instance : TZero Tryd.prog 3 [.int .i64 0] := ⟨by kernel_rfl⟩
instance : TU Tryd.prog 4 (TypeDesc.bool) := ⟨Tryd.underlying4⟩
instance : TSz Tryd.prog 4 1 := ⟨by kernel_rfl⟩
instance : TOne Tryd.prog 4 := ⟨by kernel_rfl⟩
instance : TEl Tryd.prog 4 1 1 := ⟨by kernel_rfl⟩
instance : TZero Tryd.prog 4 [.bool false] := ⟨by kernel_rfl⟩
instance : TU Tryd.prog 5 (TypeDesc.int IntKind.u8) := ⟨Tryd.underlying5⟩
instance : TSz Tryd.prog 5 1 := ⟨by kernel_rfl⟩
instance : TOne Tryd.prog 5 := ⟨by kernel_rfl⟩
instance : TEl Tryd.prog 5 1 1 := ⟨by kernel_rfl⟩
instance : TZero Tryd.prog 5 [.int .u8 0] := ⟨by kernel_rfl⟩
instance : TU Tryd.prog 6 (TypeDesc.int IntKind.u8) := ⟨Tryd.underlying6⟩
instance : TSz Tryd.prog 6 1 := ⟨by kernel_rfl⟩
instance : TOne Tryd.prog 6 := ⟨by kernel_rfl⟩
instance : TEl Tryd.prog 6 1 1 := ⟨by kernel_rfl⟩
instance : TZero Tryd.prog 6 [.int .u8 0] := ⟨by kernel_rfl⟩
instance : TSz Tryd.prog 7 4 := ⟨by kernel_rfl⟩
instance : TAgg Tryd.prog 7 4 := ⟨by kernel_rfl⟩
instance : TFldT Tryd.prog 7 0 0 2 := ⟨by kernel_rfl⟩
instance : TFld Tryd.prog 7 0 0 := ⟨by kernel_rfl⟩
instance : TFldT Tryd.prog 7 1 1 3 := ⟨by kernel_rfl⟩
instance : TFld Tryd.prog 7 1 1 := ⟨by kernel_rfl⟩
instance : TFldT Tryd.prog 7 2 2 4 := ⟨by kernel_rfl⟩
instance : TFld Tryd.prog 7 2 2 := ⟨by kernel_rfl⟩
instance : TFldT Tryd.prog 7 3 3 6 := ⟨by kernel_rfl⟩
instance : TFld Tryd.prog 7 3 3 := ⟨by kernel_rfl⟩
instance : TLay Tryd.prog 7 [(0, 1), (1, 1), (2, 1), (3, 1)] := ⟨by kernel_rfl⟩
instance : TEl Tryd.prog 7 4 24 := ⟨by kernel_rfl⟩
instance : TEq Tryd.prog 7 [.i .i64, .i .i64, .b, .i .u8] := ⟨by kernel_rfl⟩
instance : TZero Tryd.prog 7 [.int .i64 0, .int .i64 0, .bool false, .int .u8 0] := ⟨by kernel_rfl⟩
instance : TSz Tryd.prog 8 4 := ⟨by kernel_rfl⟩
instance : TAgg Tryd.prog 8 4 := ⟨by kernel_rfl⟩
instance : TFldT Tryd.prog 8 0 0 2 := ⟨by kernel_rfl⟩
instance : TFld Tryd.prog 8 0 0 := ⟨by kernel_rfl⟩
instance : TFldT Tryd.prog 8 1 1 3 := ⟨by kernel_rfl⟩
instance : TFld Tryd.prog 8 1 1 := ⟨by kernel_rfl⟩
instance : TFldT Tryd.prog 8 2 2 4 := ⟨by kernel_rfl⟩
instance : TFld Tryd.prog 8 2 2 := ⟨by kernel_rfl⟩
instance : TFldT Tryd.prog 8 3 3 6 := ⟨by kernel_rfl⟩
instance : TFld Tryd.prog 8 3 3 := ⟨by kernel_rfl⟩
instance : TLay Tryd.prog 8 [(0, 1), (1, 1), (2, 1), (3, 1)] := ⟨by kernel_rfl⟩
instance : TEl Tryd.prog 8 4 24 := ⟨by kernel_rfl⟩
instance : TEq Tryd.prog 8 [.i .i64, .i .i64, .b, .i .u8] := ⟨by kernel_rfl⟩
instance : TZero Tryd.prog 8 [.int .i64 0, .int .i64 0, .bool false, .int .u8 0] := ⟨by kernel_rfl⟩
instance : TU Tryd.prog 9 (TypeDesc.string) := ⟨Tryd.underlying9⟩
instance : TSz Tryd.prog 9 1 := ⟨by kernel_rfl⟩
instance : TOne Tryd.prog 9 := ⟨by kernel_rfl⟩
instance : TEl Tryd.prog 9 1 16 := ⟨by kernel_rfl⟩
instance : TNI Tryd.prog 9 := ⟨by kernel_rfl⟩
instance : TZero Tryd.prog 9 [.string .empty] := ⟨by kernel_rfl⟩
instance : TU Tryd.prog 10 (TypeDesc.string) := ⟨Tryd.underlying10⟩
instance : TSz Tryd.prog 10 1 := ⟨by kernel_rfl⟩
instance : TOne Tryd.prog 10 := ⟨by kernel_rfl⟩
instance : TEl Tryd.prog 10 1 16 := ⟨by kernel_rfl⟩
instance : TNI Tryd.prog 10 := ⟨by kernel_rfl⟩
instance : TZero Tryd.prog 10 [.string .empty] := ⟨by kernel_rfl⟩
instance : TU Tryd.prog 11 (TypeDesc.string) := ⟨Tryd.underlying11⟩
instance : TSz Tryd.prog 11 1 := ⟨by kernel_rfl⟩
instance : TOne Tryd.prog 11 := ⟨by kernel_rfl⟩
instance : TEl Tryd.prog 11 1 16 := ⟨by kernel_rfl⟩
instance : TNI Tryd.prog 11 := ⟨by kernel_rfl⟩
instance : TZero Tryd.prog 11 [.string .empty] := ⟨by kernel_rfl⟩
instance : TU Tryd.prog 12 (TypeDesc.int IntKind.u64) := ⟨Tryd.underlying12⟩
instance : TSz Tryd.prog 12 1 := ⟨by kernel_rfl⟩
instance : TOne Tryd.prog 12 := ⟨by kernel_rfl⟩
instance : TEl Tryd.prog 12 1 8 := ⟨by kernel_rfl⟩
instance : TZero Tryd.prog 12 [.int .u64 0] := ⟨by kernel_rfl⟩
instance : TSz Tryd.prog 13 2 := ⟨by kernel_rfl⟩
instance : TAgg Tryd.prog 13 2 := ⟨by kernel_rfl⟩
instance : TFldT Tryd.prog 13 0 0 9 := ⟨by kernel_rfl⟩
instance : TFld Tryd.prog 13 0 0 := ⟨by kernel_rfl⟩
instance : TFldT Tryd.prog 13 1 1 12 := ⟨by kernel_rfl⟩
instance : TFld Tryd.prog 13 1 1 := ⟨by kernel_rfl⟩
instance : TLay Tryd.prog 13 [(0, 1), (1, 1)] := ⟨by kernel_rfl⟩
instance : TEl Tryd.prog 13 2 24 := ⟨by kernel_rfl⟩
instance : TZero Tryd.prog 13 [.string .empty, .int .u64 0] := ⟨by kernel_rfl⟩
instance : TSz Tryd.prog 14 2 := ⟨by kernel_rfl⟩
instance : TAgg Tryd.prog 14 2 := ⟨by kernel_rfl⟩
instance : TFldT Tryd.prog 14 0 0 9 := ⟨by kernel_rfl⟩
instance : TFld Tryd.prog 14 0 0 := ⟨by kernel_rfl⟩
instance : TFldT Tryd.prog 14 1 1 12 := ⟨by kernel_rfl⟩
instance : TFld Tryd.prog 14 1 1 := ⟨by kernel_rfl⟩
instance : TLay Tryd.prog 14 [(0, 1), (1, 1)] := ⟨by kernel_rfl⟩
instance : TEl Tryd.prog 14 2 24 := ⟨by kernel_rfl⟩
instance : TZero Tryd.prog 14 [.string .empty, .int .u64 0] := ⟨by kernel_rfl⟩
instance : TU Tryd.prog 15 (TypeDesc.pointer 145) := ⟨Tryd.underlying15⟩
instance : TSz Tryd.prog 15 1 := ⟨by kernel_rfl⟩
instance : TOne Tryd.prog 15 := ⟨by kernel_rfl⟩
instance : TEl Tryd.prog 15 1 8 := ⟨by kernel_rfl⟩
instance : TZero Tryd.prog 15 [.pointer none] := ⟨by kernel_rfl⟩
instance : TU Tryd.prog 16 (TypeDesc.pointer 148) := ⟨Tryd.underlying16⟩
instance : TSz Tryd.prog 16 1 := ⟨by kernel_rfl⟩
instance : TOne Tryd.prog 16 := ⟨by kernel_rfl⟩
instance : TEl Tryd.prog 16 1 8 := ⟨by kernel_rfl⟩
instance : TZero Tryd.prog 16 [.pointer none] := ⟨by kernel_rfl⟩
instance : TU Tryd.prog 17 (TypeDesc.pointer 157) := ⟨Tryd.underlying17⟩
instance : TSz Tryd.prog 17 1 := ⟨by kernel_rfl⟩
instance : TOne Tryd.prog 17 := ⟨by kernel_rfl⟩
instance : TEl Tryd.prog 17 1 8 := ⟨by kernel_rfl⟩
instance : TZero Tryd.prog 17 [.pointer none] := ⟨by kernel_rfl⟩
instance : TSz Tryd.prog 18 1 := ⟨by kernel_rfl⟩
instance : TAgg Tryd.prog 18 1 := ⟨by kernel_rfl⟩
instance : TFldT Tryd.prog 18 0 0 17 := ⟨by kernel_rfl⟩
instance : TFld Tryd.prog 18 0 0 := ⟨by kernel_rfl⟩
instance : TLay Tryd.prog 18 [(0, 1)] := ⟨by kernel_rfl⟩
instance : TEl Tryd.prog 18 1 8 := ⟨by kernel_rfl⟩
instance : TZero Tryd.prog 18 [.pointer none] := ⟨by kernel_rfl⟩
instance : TSz Tryd.prog 19 1 := ⟨by kernel_rfl⟩
instance : TAgg Tryd.prog 19 1 := ⟨by kernel_rfl⟩
instance : TFldT Tryd.prog 19 0 0 17 := ⟨by kernel_rfl⟩
instance : TFld Tryd.prog 19 0 0 := ⟨by kernel_rfl⟩
instance : TLay Tryd.prog 19 [(0, 1)] := ⟨by kernel_rfl⟩
instance : TEl Tryd.prog 19 1 8 := ⟨by kernel_rfl⟩
instance : TZero Tryd.prog 19 [.pointer none] := ⟨by kernel_rfl⟩
instance : TU Tryd.prog 21 (TypeDesc.int IntKind.i32) := ⟨Tryd.underlying21⟩
instance : TSz Tryd.prog 21 1 := ⟨by kernel_rfl⟩
instance : TOne Tryd.prog 21 := ⟨by kernel_rfl⟩
instance : TEl Tryd.prog 21 1 4 := ⟨by kernel_rfl⟩
instance : TZero Tryd.prog 21 [.int .i32 0] := ⟨by kernel_rfl⟩
instance : TU Tryd.prog 22 (TypeDesc.array 16 5) := ⟨Tryd.underlying22⟩
instance : TSz Tryd.prog 22 16 := ⟨by kernel_rfl⟩
instance : TAgg Tryd.prog 22 16 := ⟨by kernel_rfl⟩
instance : TLay Tryd.prog 22 [(0, 1), (1, 1), (2, 1), (3, 1), (4, 1), (5, 1), (6, 1), (7, 1), (8, 1), (9, 1), (10, 1), (11, 1), (12, 1), (13, 1), (14, 1), (15, 1)] := ⟨by kernel_rfl⟩
instance : TEl Tryd.prog 22 16 16 := ⟨by kernel_rfl⟩
instance : TEq Tryd.prog 22 [.i .u8, .i .u8, .i .u8, .i .u8, .i .u8, .i .u8, .i .u8, .i .u8, .i .u8, .i .u8, .i .u8, .i .u8, .i .u8, .i .u8, .i .u8, .i .u8] := ⟨by kernel_rfl⟩
instance : TZero Tryd.prog 22 [.int .u8 0, .int .u8 0, .int .u8 0, .int .u8 0, .int .u8 0, .int .u8 0, .int .u8 0, .int .u8 0, .int .u8 0, .int .u8 0, .int .u8 0, .int .u8 0, .int .u8 0, .int .u8 0, .int .u8 0, .int .u8 0] := ⟨by kernel_rfl⟩
instance : TU Tryd.prog 23 (TypeDesc.array 16 5) := ⟨Tryd.underlying23⟩
instance : TSz Tryd.prog 23 16 := ⟨by kernel_rfl⟩
instance : TAgg Tryd.prog 23 16 := ⟨by kernel_rfl⟩
instance : TLay Tryd.prog 23 [(0, 1), (1, 1), (2, 1), (3, 1), (4, 1), (5, 1), (6, 1), (7, 1), (8, 1), (9, 1), (10, 1), (11, 1), (12, 1), (13, 1), (14, 1), (15, 1)] := ⟨by kernel_rfl⟩
instance : TEl Tryd.prog 23 16 16 := ⟨by kernel_rfl⟩
instance : TEq Tryd.prog 23 [.i .u8, .i .u8, .i .u8, .i .u8, .i .u8, .i .u8, .i .u8, .i .u8, .i .u8, .i .u8, .i .u8, .i .u8, .i .u8, .i .u8, .i .u8, .i .u8] := ⟨by kernel_rfl⟩
instance : TZero Tryd.prog 23 [.int .u8 0, .int .u8 0, .int .u8 0, .int .u8 0, .int .u8 0, .int .u8 0, .int .u8 0, .int .u8 0, .int .u8 0, .int .u8 0, .int .u8 0, .int .u8 0, .int .u8 0, .int .u8 0, .int .u8 0, .int .u8 0] := ⟨by kernel_rfl⟩
instance : TU Tryd.prog 24 (TypeDesc.slice 3) := ⟨Tryd.underlying24⟩
instance : TSz Tryd.prog 24 1 := ⟨by kernel_rfl⟩
instance : TOne Tryd.prog 24 := ⟨by kernel_rfl⟩
instance : TEl Tryd.prog 24 1 24 := ⟨by kernel_rfl⟩
instance : TNI Tryd.prog 24 := ⟨by kernel_rfl⟩
instance : TZero Tryd.prog 24 [.slice none 0 0] := ⟨by kernel_rfl⟩
instance : TOne Tryd.prog 25 := ⟨by kernel_rfl⟩
instance : TSz Tryd.prog 25 1 := ⟨by kernel_rfl⟩
instance : TZero Tryd.prog 25 [.nilFunc] := ⟨by kernel_rfl⟩
instance : TU Tryd.prog 26 (TypeDesc.slice 5) := ⟨Tryd.underlying26⟩
instance : TSz Tryd.prog 26 1 := ⟨by kernel_rfl⟩
instance : TOne Tryd.prog 26 := ⟨by kernel_rfl⟩
instance : TEl Tryd.prog 26 1 24 := ⟨by kernel_rfl⟩
instance : TNI Tryd.prog 26 := ⟨by kernel_rfl⟩
instance : TZero Tryd.prog 26 [.slice none 0 0] := ⟨by kernel_rfl⟩
instance : TOne Tryd.prog 27 := ⟨by kernel_rfl⟩
instance : TSz Tryd.prog 27 1 := ⟨by kernel_rfl⟩
instance : TZero Tryd.prog 27 [.nilFunc] := ⟨by kernel_rfl⟩
instance : TOne Tryd.prog 28 := ⟨by kernel_rfl⟩
instance : TSz Tryd.prog 28 1 := ⟨by kernel_rfl⟩
instance : TZero Tryd.prog 28 [.nilFunc] := ⟨by kernel_rfl⟩
instance : TU Tryd.prog 29 (TypeDesc.slice 9) := ⟨Tryd.underlying29⟩
instance : TSz Tryd.prog 29 1 := ⟨by kernel_rfl⟩
instance : TOne Tryd.prog 29 := ⟨by kernel_rfl⟩
instance : TEl Tryd.prog 29 1 24 := ⟨by kernel_rfl⟩
instance : TNI Tryd.prog 29 := ⟨by kernel_rfl⟩
instance : TZero Tryd.prog 29 [.slice none 0 0] := ⟨by kernel_rfl⟩
instance : TOne Tryd.prog 31 := ⟨by kernel_rfl⟩
instance : TSz Tryd.prog 31 1 := ⟨by kernel_rfl⟩
instance : TZero Tryd.prog 31 [.nilFunc] := ⟨by kernel_rfl⟩
instance : TOne Tryd.prog 32 := ⟨by kernel_rfl⟩
instance : TSz Tryd.prog 32 1 := ⟨by kernel_rfl⟩
instance : TZero Tryd.prog 32 [.nilFunc] := ⟨by kernel_rfl⟩
instance : TOne Tryd.prog 33 := ⟨by kernel_rfl⟩
instance : TSz Tryd.prog 33 1 := ⟨by kernel_rfl⟩
instance : TZero Tryd.prog 33 [.nilFunc] := ⟨by kernel_rfl⟩
instance : TSz Tryd.prog 34 17 := ⟨by kernel_rfl⟩
instance : TAgg Tryd.prog 34 17 := ⟨by kernel_rfl⟩
instance : TFldT Tryd.prog 34 0 0 23 := ⟨by kernel_rfl⟩
instance : TFld Tryd.prog 34 0 0 := ⟨by kernel_rfl⟩
instance : TFldT Tryd.prog 34 1 16 3 := ⟨by kernel_rfl⟩
instance : TFld Tryd.prog 34 1 16 := ⟨by kernel_rfl⟩
instance : TLay Tryd.prog 34 [(0, 16), (16, 1)] := ⟨by kernel_rfl⟩
instance : TEl Tryd.prog 34 17 24 := ⟨by kernel_rfl⟩
instance : TEq Tryd.prog 34 [.i .u8, .i .u8, .i .u8, .i .u8, .i .u8, .i .u8, .i .u8, .i .u8, .i .u8, .i .u8, .i .u8, .i .u8, .i .u8, .i .u8, .i .u8, .i .u8, .i .i64] := ⟨by kernel_rfl⟩
instance : TZero Tryd.prog 34 [.int .u8 0, .int .u8 0, .int .u8 0, .int .u8 0, .int .u8 0, .int .u8 0, .int .u8 0, .int .u8 0, .int .u8 0, .int .u8 0, .int .u8 0, .int .u8 0, .int .u8 0, .int .u8 0, .int .u8 0, .int .u8 0, .int .i64 0] := ⟨by kernel_rfl⟩
instance : TSz Tryd.prog 35 17 := ⟨by kernel_rfl⟩
instance : TAgg Tryd.prog 35 17 := ⟨by kernel_rfl⟩
instance : TFldT Tryd.prog 35 0 0 23 := ⟨by kernel_rfl⟩
instance : TFld Tryd.prog 35 0 0 := ⟨by kernel_rfl⟩
instance : TFldT Tryd.prog 35 1 16 3 := ⟨by kernel_rfl⟩
instance : TFld Tryd.prog 35 1 16 := ⟨by kernel_rfl⟩
instance : TLay Tryd.prog 35 [(0, 16), (16, 1)] := ⟨by kernel_rfl⟩
instance : TEl Tryd.prog 35 17 24 := ⟨by kernel_rfl⟩
instance : TEq Tryd.prog 35 [.i .u8, .i .u8, .i .u8, .i .u8, .i .u8, .i .u8, .i .u8, .i .u8, .i .u8, .i .u8, .i .u8, .i .u8, .i .u8, .i .u8, .i .u8, .i .u8, .i .i64] := ⟨by kernel_rfl⟩
instance : TZero Tryd.prog 35 [.int .u8 0, .int .u8 0, .int .u8 0, .int .u8 0, .int .u8 0, .int .u8 0, .int .u8 0, .int .u8 0, .int .u8 0, .int .u8 0, .int .u8 0, .int .u8 0, .int .u8 0, .int .u8 0, .int .u8 0, .int .u8 0, .int .i64 0] := ⟨by kernel_rfl⟩
instance : TOne Tryd.prog 36 := ⟨by kernel_rfl⟩
instance : TSz Tryd.prog 36 1 := ⟨by kernel_rfl⟩
instance : TZero Tryd.prog 36 [.nilFunc] := ⟨by kernel_rfl⟩
instance : TOne Tryd.prog 37 := ⟨by kernel_rfl⟩
instance : TSz Tryd.prog 37 1 := ⟨by kernel_rfl⟩
instance : TZero Tryd.prog 37 [.nilFunc] := ⟨by kernel_rfl⟩
instance : TOne Tryd.prog 38 := ⟨by kernel_rfl⟩
instance : TSz Tryd.prog 38 1 := ⟨by kernel_rfl⟩
instance : TZero Tryd.prog 38 [.nilFunc] := ⟨by kernel_rfl⟩
instance : TOne Tryd.prog 39 := ⟨by kernel_rfl⟩
instance : TSz Tryd.prog 39 1 := ⟨by kernel_rfl⟩
instance : TZero Tryd.prog 39 [.nilFunc] := ⟨by kernel_rfl⟩
instance : TOne Tryd.prog 40 := ⟨by kernel_rfl⟩
instance : TSz Tryd.prog 40 1 := ⟨by kernel_rfl⟩
instance : TZero Tryd.prog 40 [.nilFunc] := ⟨by kernel_rfl⟩
instance : TOne Tryd.prog 41 := ⟨by kernel_rfl⟩
instance : TSz Tryd.prog 41 1 := ⟨by kernel_rfl⟩
instance : TZero Tryd.prog 41 [.nilFunc] := ⟨by kernel_rfl⟩
instance : TU Tryd.prog 42 (TypeDesc.int IntKind.u16) := ⟨Tryd.underlying42⟩
instance : TSz Tryd.prog 42 1 := ⟨by kernel_rfl⟩
instance : TOne Tryd.prog 42 := ⟨by kernel_rfl⟩
instance : TEl Tryd.prog 42 1 2 := ⟨by kernel_rfl⟩
instance : TZero Tryd.prog 42 [.int .u16 0] := ⟨by kernel_rfl⟩
instance : TU Tryd.prog 43 (TypeDesc.int IntKind.u16) := ⟨Tryd.underlying43⟩
instance : TSz Tryd.prog 43 1 := ⟨by kernel_rfl⟩
instance : TOne Tryd.prog 43 := ⟨by kernel_rfl⟩
instance : TEl Tryd.prog 43 1 2 := ⟨by kernel_rfl⟩
instance : TZero Tryd.prog 43 [.int .u16 0] := ⟨by kernel_rfl⟩
instance : TU Tryd.prog 44 (TypeDesc.int IntKind.u64) := ⟨Tryd.underlying44⟩
instance : TSz Tryd.prog 44 1 := ⟨by kernel_rfl⟩
instance : TOne Tryd.prog 44 := ⟨by kernel_rfl⟩
instance : TEl Tryd.prog 44 1 8 := ⟨by kernel_rfl⟩
instance : TZero Tryd.prog 44 [.int .u64 0] := ⟨by kernel_rfl⟩
instance : TU Tryd.prog 45 (TypeDesc.int IntKind.u64) := ⟨Tryd.underlying45⟩
instance : TSz Tryd.prog 45 1 := ⟨by kernel_rfl⟩
instance : TOne Tryd.prog 45 := ⟨by kernel_rfl⟩
instance : TEl Tryd.prog 45 1 8 := ⟨by kernel_rfl⟩
instance : TZero Tryd.prog 45 [.int .u64 0] := ⟨by kernel_rfl⟩
instance : TSz Tryd.prog 46 3 := ⟨by kernel_rfl⟩
instance : TAgg Tryd.prog 46 3 := ⟨by kernel_rfl⟩
instance : TFldT Tryd.prog 46 0 0 3 := ⟨by kernel_rfl⟩
instance : TFld Tryd.prog 46 0 0 := ⟨by kernel_rfl⟩
instance : TFldT Tryd.prog 46 1 1 43 := ⟨by kernel_rfl⟩
instance : TFld Tryd.prog 46 1 1 := ⟨by kernel_rfl⟩
instance : TFldT Tryd.prog 46 2 2 45 := ⟨by kernel_rfl⟩
instance : TFld Tryd.prog 46 2 2 := ⟨by kernel_rfl⟩
instance : TLay Tryd.prog 46 [(0, 1), (1, 1), (2, 1)] := ⟨by kernel_rfl⟩
instance : TEl Tryd.prog 46 3 24 := ⟨by kernel_rfl⟩
instance : TEq Tryd.prog 46 [.i .i64, .i .u16, .i .u64] := ⟨by kernel_rfl⟩
instance : TZero Tryd.prog 46 [.int .i64 0, .int .u16 0, .int .u64 0] := ⟨by kernel_rfl⟩
instance : TSz Tryd.prog 47 3 := ⟨by kernel_rfl⟩
instance : TAgg Tryd.prog 47 3 := ⟨by kernel_rfl⟩
instance : TFldT Tryd.prog 47 0 0 3 := ⟨by kernel_rfl⟩
instance : TFld Tryd.prog 47 0 0 := ⟨by kernel_rfl⟩
instance : TFldT Tryd.prog 47 1 1 43 := ⟨by kernel_rfl⟩
instance : TFld Tryd.prog 47 1 1 := ⟨by kernel_rfl⟩
instance : TFldT Tryd.prog 47 2 2 45 := ⟨by kernel_rfl⟩
instance : TFld Tryd.prog 47 2 2 := ⟨by kernel_rfl⟩
instance : TLay Tryd.prog 47 [(0, 1), (1, 1), (2, 1)] := ⟨by kernel_rfl⟩
instance : TEl Tryd.prog 47 3 24 := ⟨by kernel_rfl⟩
instance : TEq Tryd.prog 47 [.i .i64, .i .u16, .i .u64] := ⟨by kernel_rfl⟩
instance : TZero Tryd.prog 47 [.int .i64 0, .int .u16 0, .int .u64 0] := ⟨by kernel_rfl⟩
instance : TU Tryd.prog 48 (TypeDesc.pointer 95) := ⟨Tryd.underlying48⟩
instance : TSz Tryd.prog 48 1 := ⟨by kernel_rfl⟩
instance : TOne Tryd.prog 48 := ⟨by kernel_rfl⟩
instance : TEl Tryd.prog 48 1 8 := ⟨by kernel_rfl⟩
instance : TZero Tryd.prog 48 [.pointer none] := ⟨by kernel_rfl⟩
instance : TOne Tryd.prog 49 := ⟨by kernel_rfl⟩
instance : TSz Tryd.prog 49 1 := ⟨by kernel_rfl⟩
instance : TZero Tryd.prog 49 [.nilFunc] := ⟨by kernel_rfl⟩
instance : TOne Tryd.prog 50 := ⟨by kernel_rfl⟩
instance : TSz Tryd.prog 50 1 := ⟨by kernel_rfl⟩
instance : TZero Tryd.prog 50 [.nilFunc] := ⟨by kernel_rfl⟩
instance : TU Tryd.prog 51 (TypeDesc.slice 47) := ⟨Tryd.underlying51⟩
instance : TSz Tryd.prog 51 1 := ⟨by kernel_rfl⟩
instance : TOne Tryd.prog 51 := ⟨by kernel_rfl⟩
instance : TEl Tryd.prog 51 1 24 := ⟨by kernel_rfl⟩
instance : TNI Tryd.prog 51 := ⟨by kernel_rfl⟩
instance : TZero Tryd.prog 51 [.slice none 0 0] := ⟨by kernel_rfl⟩
instance : TOne Tryd.prog 52 := ⟨by kernel_rfl⟩
instance : TSz Tryd.prog 52 1 := ⟨by kernel_rfl⟩
instance : TZero Tryd.prog 52 [.nilFunc] := ⟨by kernel_rfl⟩
instance : TOne Tryd.prog 53 := ⟨by kernel_rfl⟩
instance : TSz Tryd.prog 53 1 := ⟨by kernel_rfl⟩
instance : TZero Tryd.prog 53 [.nilFunc] := ⟨by kernel_rfl⟩
instance : TOne Tryd.prog 55 := ⟨by kernel_rfl⟩
instance : TSz Tryd.prog 55 1 := ⟨by kernel_rfl⟩
instance : TZero Tryd.prog 55 [.nilFunc] := ⟨by kernel_rfl⟩
instance : TOne Tryd.prog 56 := ⟨by kernel_rfl⟩
instance : TSz Tryd.prog 56 1 := ⟨by kernel_rfl⟩
instance : TZero Tryd.prog 56 [.nilFunc] := ⟨by kernel_rfl⟩
instance : TU Tryd.prog 57 (TypeDesc.slice 35) := ⟨Tryd.underlying57⟩
instance : TSz Tryd.prog 57 1 := ⟨by kernel_rfl⟩
instance : TOne Tryd.prog 57 := ⟨by kernel_rfl⟩
instance : TEl Tryd.prog 57 1 24 := ⟨by kernel_rfl⟩
instance : TNI Tryd.prog 57 := ⟨by kernel_rfl⟩
instance : TZero Tryd.prog 57 [.slice none 0 0] := ⟨by kernel_rfl⟩
instance : TOne Tryd.prog 58 := ⟨by kernel_rfl⟩
instance : TSz Tryd.prog 58 1 := ⟨by kernel_rfl⟩
instance : TZero Tryd.prog 58 [.nilFunc] := ⟨by kernel_rfl⟩
instance : TOne Tryd.prog 59 := ⟨by kernel_rfl⟩
instance : TSz Tryd.prog 59 1 := ⟨by kernel_rfl⟩
instance : TZero Tryd.prog 59 [.nilFunc] := ⟨by kernel_rfl⟩
instance : TOne Tryd.prog 60 := ⟨by kernel_rfl⟩
instance : TSz Tryd.prog 60 1 := ⟨by kernel_rfl⟩
instance : TZero Tryd.prog 60 [.nilFunc] := ⟨by kernel_rfl⟩
instance : TOne Tryd.prog 61 := ⟨by kernel_rfl⟩
instance : TSz Tryd.prog 61 1 := ⟨by kernel_rfl⟩
instance : TZero Tryd.prog 61 [.nilFunc] := ⟨by kernel_rfl⟩
instance : TOne Tryd.prog 62 := ⟨by kernel_rfl⟩
instance : TSz Tryd.prog 62 1 := ⟨by kernel_rfl⟩
instance : TZero Tryd.prog 62 [.nilFunc] := ⟨by kernel_rfl⟩
instance : TU Tryd.prog 63 (TypeDesc.slice 23) := ⟨Tryd.underlying63⟩
instance : TSz Tryd.prog 63 1 := ⟨by kernel_rfl⟩
instance : TOne Tryd.prog 63 := ⟨by kernel_rfl⟩
instance : TEl Tryd.prog 63 1 24 := ⟨by kernel_rfl⟩
instance : TNI Tryd.prog 63 := ⟨by kernel_rfl⟩
instance : TZero Tryd.prog 63 [.slice none 0 0] := ⟨by kernel_rfl⟩
instance : TOne Tryd.prog 65 := ⟨by kernel_rfl⟩
instance : TSz Tryd.prog 65 1 := ⟨by kernel_rfl⟩
instance : TZero Tryd.prog 65 [.nilFunc] := ⟨by kernel_rfl⟩
instance : TOne Tryd.prog 66 := ⟨by kernel_rfl⟩
instance : TSz Tryd.prog 66 1 := ⟨by kernel_rfl⟩
instance : TZero Tryd.prog 66 [.nilFunc] := ⟨by kernel_rfl⟩
instance : TOne Tryd.prog 67 := ⟨by kernel_rfl⟩
instance : TSz Tryd.prog 67 1 := ⟨by kernel_rfl⟩
instance : TZero Tryd.prog 67 [.nilFunc] := ⟨by kernel_rfl⟩
instance : TOne Tryd.prog 69 := ⟨by kernel_rfl⟩
instance : TSz Tryd.prog 69 1 := ⟨by kernel_rfl⟩
instance : TZero Tryd.prog 69 [.nilFunc] := ⟨by kernel_rfl⟩
instance : TOne Tryd.prog 70 := ⟨by kernel_rfl⟩
instance : TSz Tryd.prog 70 1 := ⟨by kernel_rfl⟩
instance : TZero Tryd.prog 70 [.nilFunc] := ⟨by kernel_rfl⟩
instance : TOne Tryd.prog 71 := ⟨by kernel_rfl⟩
instance : TSz Tryd.prog 71 1 := ⟨by kernel_rfl⟩
instance : TZero Tryd.prog 71 [.nilFunc] := ⟨by kernel_rfl⟩
instance : TOne Tryd.prog 72 := ⟨by kernel_rfl⟩
instance : TSz Tryd.prog 72 1 := ⟨by kernel_rfl⟩
instance : TZero Tryd.prog 72 [.nilFunc] := ⟨by kernel_rfl⟩
instance : TOne Tryd.prog 73 := ⟨by kernel_rfl⟩
instance : TSz Tryd.prog 73 1 := ⟨by kernel_rfl⟩
instance : TZero Tryd.prog 73 [.nilFunc] := ⟨by kernel_rfl⟩
instance : TOne Tryd.prog 74 := ⟨by kernel_rfl⟩
instance : TSz Tryd.prog 74 1 := ⟨by kernel_rfl⟩
instance : TZero Tryd.prog 74 [.nilFunc] := ⟨by kernel_rfl⟩
instance : TOne Tryd.prog 75 := ⟨by kernel_rfl⟩
instance : TSz Tryd.prog 75 1 := ⟨by kernel_rfl⟩
instance : TZero Tryd.prog 75 [.nilFunc] := ⟨by kernel_rfl⟩
instance : TOne Tryd.prog 76 := ⟨by kernel_rfl⟩
instance : TSz Tryd.prog 76 1 := ⟨by kernel_rfl⟩
instance : TZero Tryd.prog 76 [.nilFunc] := ⟨by kernel_rfl⟩
instance : TOne Tryd.prog 77 := ⟨by kernel_rfl⟩
instance : TSz Tryd.prog 77 1 := ⟨by kernel_rfl⟩
instance : TZero Tryd.prog 77 [.nilFunc] := ⟨by kernel_rfl⟩
instance : TOne Tryd.prog 78 := ⟨by kernel_rfl⟩
instance : TSz Tryd.prog 78 1 := ⟨by kernel_rfl⟩
instance : TZero Tryd.prog 78 [.nilFunc] := ⟨by kernel_rfl⟩
instance : TOne Tryd.prog 80 := ⟨by kernel_rfl⟩
instance : TSz Tryd.prog 80 1 := ⟨by kernel_rfl⟩
instance : TZero Tryd.prog 80 [.nilFunc] := ⟨by kernel_rfl⟩
instance : TU Tryd.prog 81 (TypeDesc.slice 42) := ⟨Tryd.underlying81⟩
instance : TSz Tryd.prog 81 1 := ⟨by kernel_rfl⟩
instance : TOne Tryd.prog 81 := ⟨by kernel_rfl⟩
instance : TEl Tryd.prog 81 1 24 := ⟨by kernel_rfl⟩
instance : TNI Tryd.prog 81 := ⟨by kernel_rfl⟩
instance : TZero Tryd.prog 81 [.slice none 0 0] := ⟨by kernel_rfl⟩
instance : TOne Tryd.prog 83 := ⟨by kernel_rfl⟩
instance : TSz Tryd.prog 83 1 := ⟨by kernel_rfl⟩
instance : TZero Tryd.prog 83 [.nilFunc] := ⟨by kernel_rfl⟩
instance : TU Tryd.prog 84 (TypeDesc.int IntKind.u64) := ⟨Tryd.underlying84⟩
instance : TSz Tryd.prog 84 1 := ⟨by kernel_rfl⟩
instance : TOne Tryd.prog 84 := ⟨by kernel_rfl⟩
instance : TEl Tryd.prog 84 1 8 := ⟨by kernel_rfl⟩
instance : TZero Tryd.prog 84 [.int .u64 0] := ⟨by kernel_rfl⟩
instance : TOne Tryd.prog 86 := ⟨by kernel_rfl⟩
instance : TSz Tryd.prog 86 1 := ⟨by kernel_rfl⟩
instance : TZero Tryd.prog 86 [.nilFunc] := ⟨by kernel_rfl⟩
instance : TOne Tryd.prog 88 := ⟨by kernel_rfl⟩
instance : TSz Tryd.prog 88 1 := ⟨by kernel_rfl⟩
instance : TZero Tryd.prog 88 [.nilFunc] := ⟨by kernel_rfl⟩
instance : TOne Tryd.prog 89 := ⟨by kernel_rfl⟩
instance : TSz Tryd.prog 89 1 := ⟨by kernel_rfl⟩
instance : TZero Tryd.prog 89 [.nilFunc] := ⟨by kernel_rfl⟩
instance : TOne Tryd.prog 90 := ⟨by kernel_rfl⟩
instance : TSz Tryd.prog 90 1 := ⟨by kernel_rfl⟩
instance : TZero Tryd.prog 90 [.nilFunc] := ⟨by kernel_rfl⟩
instance : TOne Tryd.prog 91 := ⟨by kernel_rfl⟩
instance : TSz Tryd.prog 91 1 := ⟨by kernel_rfl⟩
instance : TZero Tryd.prog 91 [.nilFunc] := ⟨by kernel_rfl⟩
instance : TOne Tryd.prog 92 := ⟨by kernel_rfl⟩
instance : TSz Tryd.prog 92 1 := ⟨by kernel_rfl⟩
instance : TZero Tryd.prog 92 [.nilFunc] := ⟨by kernel_rfl⟩
instance : TOne Tryd.prog 93 := ⟨by kernel_rfl⟩
instance : TSz Tryd.prog 93 1 := ⟨by kernel_rfl⟩
instance : TZero Tryd.prog 93 [.nilFunc] := ⟨by kernel_rfl⟩
instance : TSz Tryd.prog 94 2 := ⟨by kernel_rfl⟩
instance : TAgg Tryd.prog 94 2 := ⟨by kernel_rfl⟩
instance : TFldT Tryd.prog 94 0 0 24 := ⟨by kernel_rfl⟩
instance : TFld Tryd.prog 94 0 0 := ⟨by kernel_rfl⟩
instance : TFldT Tryd.prog 94 1 1 3 := ⟨by kernel_rfl⟩
instance : TFld Tryd.prog 94 1 1 := ⟨by kernel_rfl⟩
instance : TLay Tryd.prog 94 [(0, 1), (1, 1)] := ⟨by kernel_rfl⟩
instance : TEl Tryd.prog 94 2 32 := ⟨by kernel_rfl⟩
instance : TZero Tryd.prog 94 [.slice none 0 0, .int .i64 0] := ⟨by kernel_rfl⟩
instance : TSz Tryd.prog 95 2 := ⟨by kernel_rfl⟩
instance : TAgg Tryd.prog 95 2 := ⟨by kernel_rfl⟩
instance : TFldT Tryd.prog 95 0 0 24 := ⟨by kernel_rfl⟩
instance : TFld Tryd.prog 95 0 0 := ⟨by kernel_rfl⟩
instance : TFldT Tryd.prog 95 1 1 3 := ⟨by kernel_rfl⟩
instance : TFld Tryd.prog 95 1 1 := ⟨by kernel_rfl⟩
instance : TLay Tryd.prog 95 [(0, 1), (1, 1)] := ⟨by kernel_rfl⟩
instance : TEl Tryd.prog 95 2 32 := ⟨by kernel_rfl⟩
instance : TZero Tryd.prog 95 [.slice none 0 0, .int .i64 0] := ⟨by kernel_rfl⟩
instance : TOne Tryd.prog 96 := ⟨by kernel_rfl⟩
instance : TSz Tryd.prog 96 1 := ⟨by kernel_rfl⟩
instance : TZero Tryd.prog 96 [.nilFunc] := ⟨by kernel_rfl⟩
instance : TOne Tryd.prog 97 := ⟨by kernel_rfl⟩
instance : TSz Tryd.prog 97 1 := ⟨by kernel_rfl⟩
instance : TZero Tryd.prog 97 [.nilFunc] := ⟨by kernel_rfl⟩
instance : TOne Tryd.prog 98 := ⟨by kernel_rfl⟩
instance : TSz Tryd.prog 98 1 := ⟨by kernel_rfl⟩
instance : TZero Tryd.prog 98 [.nilFunc] := ⟨by kernel_rfl⟩
instance : TOne Tryd.prog 99 := ⟨by kernel_rfl⟩
instance : TSz Tryd.prog 99 1 := ⟨by kernel_rfl⟩
instance : TZero Tryd.prog 99 [.nilFunc] := ⟨by kernel_rfl⟩
instance : TU Tryd.prog 100 (TypeDesc.slice 44) := ⟨Tryd.underlying100⟩
instance : TSz Tryd.prog 100 1 := ⟨by kernel_rfl⟩
instance : TOne Tryd.prog 100 := ⟨by kernel_rfl⟩
instance : TEl Tryd.prog 100 1 24 := ⟨by kernel_rfl⟩
instance : TNI Tryd.prog 100 := ⟨by kernel_rfl⟩
instance : TZero Tryd.prog 100 [.slice none 0 0] := ⟨by kernel_rfl⟩
instance : TOne Tryd.prog 101 := ⟨by kernel_rfl⟩
instance : TSz Tryd.prog 101 1 := ⟨by kernel_rfl⟩
instance : TZero Tryd.prog 101 [.nilFunc] := ⟨by kernel_rfl⟩
instance : TOne Tryd.prog 102 := ⟨by kernel_rfl⟩
instance : TSz Tryd.prog 102 1 := ⟨by kernel_rfl⟩
instance : TZero Tryd.prog 102 [.nilFunc] := ⟨by kernel_rfl⟩
instance : TOne Tryd.prog 103 := ⟨by kernel_rfl⟩
instance : TSz Tryd.prog 103 1 := ⟨by kernel_rfl⟩
instance : TZero Tryd.prog 103 [.nilFunc] := ⟨by kernel_rfl⟩
instance : TOne Tryd.prog 104 := ⟨by kernel_rfl⟩
instance : TSz Tryd.prog 104 1 := ⟨by kernel_rfl⟩
instance : TZero Tryd.prog 104 [.nilFunc] := ⟨by kernel_rfl⟩
instance : TOne Tryd.prog 106 := ⟨by kernel_rfl⟩
instance : TSz Tryd.prog 106 1 := ⟨by kernel_rfl⟩
instance : TZero Tryd.prog 106 [.nilFunc] := ⟨by kernel_rfl⟩
instance : TU Tryd.prog 107 (TypeDesc.array 3 44) := ⟨Tryd.underlying107⟩
instance : TSz Tryd.prog 107 3 := ⟨by kernel_rfl⟩
instance : TAgg Tryd.prog 107 3 := ⟨by kernel_rfl⟩
instance : TLay Tryd.prog 107 [(0, 1), (1, 1), (2, 1)] := ⟨by kernel_rfl⟩
instance : TEl Tryd.prog 107 3 24 := ⟨by kernel_rfl⟩
instance : TEq Tryd.prog 107 [.i .u64, .i .u64, .i .u64] := ⟨by kernel_rfl⟩
instance : TZero Tryd.prog 107 [.int .u64 0, .int .u64 0, .int .u64 0] := ⟨by kernel_rfl⟩
instance : TOne Tryd.prog 108 := ⟨by kernel_rfl⟩
instance : TSz Tryd.prog 108 1 := ⟨by kernel_rfl⟩
instance : TZero Tryd.prog 108 [.nilFunc] := ⟨by kernel_rfl⟩
instance : TOne Tryd.prog 109 := ⟨by kernel_rfl⟩
instance : TSz Tryd.prog 109 1 := ⟨by kernel_rfl⟩
instance : TZero Tryd.prog 109 [.nilFunc] := ⟨by kernel_rfl⟩
instance : TOne Tryd.prog 110 := ⟨by kernel_rfl⟩
instance : TSz Tryd.prog 110 1 := ⟨by kernel_rfl⟩
instance : TZero Tryd.prog 110 [.nilFunc] := ⟨by kernel_rfl⟩
instance : TOne Tryd.prog 112 := ⟨by kernel_rfl⟩
instance : TSz Tryd.prog 112 1 := ⟨by kernel_rfl⟩
instance : TZero Tryd.prog 112 [.nilFunc] := ⟨by kernel_rfl⟩
instance : TOne Tryd.prog 113 := ⟨by kernel_rfl⟩
instance : TSz Tryd.prog 113 1 := ⟨by kernel_rfl⟩
instance : TZero Tryd.prog 113 [.nilFunc] := ⟨by kernel_rfl⟩
instance : TOne Tryd.prog 114 := ⟨by kernel_rfl⟩
instance : TSz Tryd.prog 114 1 := ⟨by kernel_rfl⟩
instance : TZero Tryd.prog 114 [.nilFunc] := ⟨by kernel_rfl⟩
instance : TOne Tryd.prog 115 := ⟨by kernel_rfl⟩
instance : TSz Tryd.prog 115 1 := ⟨by kernel_rfl⟩
instance : TZero Tryd.prog 115 [.nilFunc] := ⟨by kernel_rfl⟩
instance : TOne Tryd.prog 116 := ⟨by kernel_rfl⟩
instance : TSz Tryd.prog 116 1 := ⟨by kernel_rfl⟩
instance : TZero Tryd.prog 116 [.nilFunc] := ⟨by kernel_rfl⟩
instance : TOne Tryd.prog 117 := ⟨by kernel_rfl⟩
instance : TSz Tryd.prog 117 1 := ⟨by kernel_rfl⟩
instance : TZero Tryd.prog 117 [.nilFunc] := ⟨by kernel_rfl⟩
instance : TOne Tryd.prog 118 := ⟨by kernel_rfl⟩
instance : TSz Tryd.prog 118 1 := ⟨by kernel_rfl⟩
instance : TZero Tryd.prog 118 [.nilFunc] := ⟨by kernel_rfl⟩
instance : TU Tryd.prog 119 (TypeDesc.array 24 5) := ⟨Tryd.underlying119⟩
instance : TSz Tryd.prog 119 24 := ⟨by kernel_rfl⟩
instance : TAgg Tryd.prog 119 24 := ⟨by kernel_rfl⟩
instance : TLay Tryd.prog 119 [(0, 1), (1, 1), (2, 1), (3, 1), (4, 1), (5, 1), (6, 1), (7, 1), (8, 1), (9, 1), (10, 1), (11, 1), (12, 1), (13, 1), (14, 1), (15, 1), (16, 1), (17, 1), (18, 1), (19, 1), (20, 1), (21, 1), (22, 1), (23, 1)] := ⟨by kernel_rfl⟩
instance : TEl Tryd.prog 119 24 24 := ⟨by kernel_rfl⟩
instance : TEq Tryd.prog 119 [.i .u8, .i .u8, .i .u8, .i .u8, .i .u8, .i .u8, .i .u8, .i .u8, .i .u8, .i .u8, .i .u8, .i .u8, .i .u8, .i .u8, .i .u8, .i .u8, .i .u8, .i .u8, .i .u8, .i .u8, .i .u8, .i .u8, .i .u8, .i .u8] := ⟨by kernel_rfl⟩
instance : TZero Tryd.prog 119 [.int .u8 0, .int .u8 0, .int .u8 0, .int .u8 0, .int .u8 0, .int .u8 0, .int .u8 0, .int .u8 0, .int .u8 0, .int .u8 0, .int .u8 0, .int .u8 0, .int .u8 0, .int .u8 0, .int .u8 0, .int .u8 0, .int .u8 0, .int .u8 0, .int .u8 0, .int .u8 0, .int .u8 0, .int .u8 0, .int .u8 0, .int .u8 0] := ⟨by kernel_rfl⟩
instance : TOne Tryd.prog 120 := ⟨by kernel_rfl⟩
instance : TSz Tryd.prog 120 1 := ⟨by kernel_rfl⟩
instance : TZero Tryd.prog 120 [.nilFunc] := ⟨by kernel_rfl⟩
instance : TOne Tryd.prog 121 := ⟨by kernel_rfl⟩
instance : TSz Tryd.prog 121 1 := ⟨by kernel_rfl⟩
instance : TZero Tryd.prog 121 [.nilFunc] := ⟨by kernel_rfl⟩
instance : TOne Tryd.prog 123 := ⟨by kernel_rfl⟩
instance : TSz Tryd.prog 123 1 := ⟨by kernel_rfl⟩
instance : TZero Tryd.prog 123 [.nilFunc] := ⟨by kernel_rfl⟩
instance : TOne Tryd.prog 124 := ⟨by kernel_rfl⟩
instance : TSz Tryd.prog 124 1 := ⟨by kernel_rfl⟩
instance : TZero Tryd.prog 124 [.nilFunc] := ⟨by kernel_rfl⟩
instance : TOne Tryd.prog 125 := ⟨by kernel_rfl⟩
instance : TSz Tryd.prog 125 1 := ⟨by kernel_rfl⟩
instance : TZero Tryd.prog 125 [.nilFunc] := ⟨by kernel_rfl⟩
instance : TOne Tryd.prog 126 := ⟨by kernel_rfl⟩
instance : TSz Tryd.prog 126 1 := ⟨by kernel_rfl⟩
instance : TZero Tryd.prog 126 [.nilFunc] := ⟨by kernel_rfl⟩
instance : TOne Tryd.prog 128 := ⟨by kernel_rfl⟩
instance : TSz Tryd.prog 128 1 := ⟨by kernel_rfl⟩
instance : TZero Tryd.prog 128 [.nilFunc] := ⟨by kernel_rfl⟩
instance : TOne Tryd.prog 129 := ⟨by kernel_rfl⟩
instance : TSz Tryd.prog 129 1 := ⟨by kernel_rfl⟩
instance : TZero Tryd.prog 129 [.nilFunc] := ⟨by kernel_rfl⟩
instance : TU Tryd.prog 130 (TypeDesc.array 20 44) := ⟨Tryd.underlying130⟩
instance : TSz Tryd.prog 130 20 := ⟨by kernel_rfl⟩
instance : TAgg Tryd.prog 130 20 := ⟨by kernel_rfl⟩
instance : TLay Tryd.prog 130 [(0, 1), (1, 1), (2, 1), (3, 1), (4, 1), (5, 1), (6, 1), (7, 1), (8, 1), (9, 1), (10, 1), (11, 1), (12, 1), (13, 1), (14, 1), (15, 1), (16, 1), (17, 1), (18, 1), (19, 1)] := ⟨by kernel_rfl⟩
instance : TEl Tryd.prog 130 20 160 := ⟨by kernel_rfl⟩
instance : TEq Tryd.prog 130 [.i .u64, .i .u64, .i .u64, .i .u64, .i .u64, .i .u64, .i .u64, .i .u64, .i .u64, .i .u64, .i .u64, .i .u64, .i .u64, .i .u64, .i .u64, .i .u64, .i .u64, .i .u64, .i .u64, .i .u64] := ⟨by kernel_rfl⟩
instance : TZero Tryd.prog 130 [.int .u64 0, .int .u64 0, .int .u64 0, .int .u64 0, .int .u64 0, .int .u64 0, .int .u64 0, .int .u64 0, .int .u64 0, .int .u64 0, .int .u64 0, .int .u64 0, .int .u64 0, .int .u64 0, .int .u64 0, .int .u64 0, .int .u64 0, .int .u64 0, .int .u64 0, .int .u64 0] := ⟨by kernel_rfl⟩
instance : TU Tryd.prog 131 (TypeDesc.int IntKind.u32) := ⟨Tryd.underlying131⟩
instance : TSz Tryd.prog 131 1 := ⟨by kernel_rfl⟩
instance : TOne Tryd.prog 131 := ⟨by kernel_rfl⟩
instance : TEl Tryd.prog 131 1 4 := ⟨by kernel_rfl⟩
instance : TZero Tryd.prog 131 [.int .u32 0] := ⟨by kernel_rfl⟩
instance : TU Tryd.prog 132 (TypeDesc.array 65 5) := ⟨Tryd.underlying132⟩
instance : TSz Tryd.prog 132 65 := ⟨by kernel_rfl⟩
instance : TAgg Tryd.prog 132 65 := ⟨by kernel_rfl⟩
instance : TEl Tryd.prog 132 65 65 := ⟨by kernel_rfl⟩
instance : TZero Tryd.prog 132 (List.replicate 65 (.int .u8 0)) := ⟨by kernel_rfl⟩
instance : TOne Tryd.prog 133 := ⟨by kernel_rfl⟩
instance : TSz Tryd.prog 133 1 := ⟨by kernel_rfl⟩
instance : TZero Tryd.prog 133 [.nilFunc] := ⟨by kernel_rfl⟩
instance : TOne Tryd.prog 135 := ⟨by kernel_rfl⟩
instance : TSz Tryd.prog 135 1 := ⟨by kernel_rfl⟩
instance : TZero Tryd.prog 135 [.nilFunc] := ⟨by kernel_rfl⟩
instance : TOne Tryd.prog 136 := ⟨by kernel_rfl⟩
instance : TSz Tryd.prog 136 1 := ⟨by kernel_rfl⟩
instance : TZero Tryd.prog 136 [.nilFunc] := ⟨by kernel_rfl⟩
instance : TU Tryd.prog 137 (TypeDesc.array 256 5) := ⟨Tryd.underlying137⟩
instance : TSz Tryd.prog 137 256 := ⟨by kernel_rfl⟩
instance : TAgg Tryd.prog 137 256 := ⟨by kernel_rfl⟩
instance : TEl Tryd.prog 137 256 256 := ⟨by kernel_rfl⟩
instance : TZero Tryd.prog 137 (List.replicate 256 (.int .u8 0)) := ⟨by kernel_rfl⟩
instance : TSz Tryd.prog 138 2 := ⟨by kernel_rfl⟩
instance : TAgg Tryd.prog 138 2 := ⟨by kernel_rfl⟩
instance : TFldT Tryd.prog 138 0 0 5 := ⟨by kernel_rfl⟩
instance : TFld Tryd.prog 138 0 0 := ⟨by kernel_rfl⟩
instance : TFldT Tryd.prog 138 1 1 5 := ⟨by kernel_rfl⟩
instance : TFld Tryd.prog 138 1 1 := ⟨by kernel_rfl⟩
instance : TLay Tryd.prog 138 [(0, 1), (1, 1)] := ⟨by kernel_rfl⟩
instance : TEl Tryd.prog 138 2 2 := ⟨by kernel_rfl⟩
instance : TEq Tryd.prog 138 [.i .u8, .i .u8] := ⟨by kernel_rfl⟩
instance : TZero Tryd.prog 138 [.int .u8 0, .int .u8 0] := ⟨by kernel_rfl⟩
instance : TSz Tryd.prog 139 2 := ⟨by kernel_rfl⟩
instance : TAgg Tryd.prog 139 2 := ⟨by kernel_rfl⟩
instance : TFldT Tryd.prog 139 0 0 5 := ⟨by kernel_rfl⟩
instance : TFld Tryd.prog 139 0 0 := ⟨by kernel_rfl⟩
instance : TFldT Tryd.prog 139 1 1 5 := ⟨by kernel_rfl⟩
instance : TFld Tryd.prog 139 1 1 := ⟨by kernel_rfl⟩
instance : TLay Tryd.prog 139 [(0, 1), (1, 1)] := ⟨by kernel_rfl⟩
instance : TEl Tryd.prog 139 2 2 := ⟨by kernel_rfl⟩
instance : TEq Tryd.prog 139 [.i .u8, .i .u8] := ⟨by kernel_rfl⟩
instance : TZero Tryd.prog 139 [.int .u8 0, .int .u8 0] := ⟨by kernel_rfl⟩
instance : TU Tryd.prog 140 (TypeDesc.array 16 139) := ⟨Tryd.underlying140⟩
instance : TSz Tryd.prog 140 32 := ⟨by kernel_rfl⟩
instance : TAgg Tryd.prog 140 32 := ⟨by kernel_rfl⟩
instance : TLay Tryd.prog 140 [(0, 2), (2, 2), (4, 2), (6, 2), (8, 2), (10, 2), (12, 2), (14, 2), (16, 2), (18, 2), (20, 2), (22, 2), (24, 2), (26, 2), (28, 2), (30, 2)] := ⟨by kernel_rfl⟩
instance : TEl Tryd.prog 140 32 32 := ⟨by kernel_rfl⟩
instance : TEq Tryd.prog 140 [.i .u8, .i .u8, .i .u8, .i .u8, .i .u8, .i .u8, .i .u8, .i .u8, .i .u8, .i .u8, .i .u8, .i .u8, .i .u8, .i .u8, .i .u8, .i .u8, .i .u8, .i .u8, .i .u8, .i .u8, .i .u8, .i .u8, .i .u8, .i .u8, .i .u8, .i .u8, .i .u8, .i .u8, .i .u8, .i .u8, .i .u8, .i .u8] := ⟨by kernel_rfl⟩
instance : TZero Tryd.prog 140 [.int .u8 0, .int .u8 0, .int .u8 0, .int .u8 0, .int .u8 0, .int .u8 0, .int .u8 0, .int .u8 0, .int .u8 0, .int .u8 0, .int .u8 0, .int .u8 0, .int .u8 0, .int .u8 0, .int .u8 0, .int .u8 0, .int .u8 0, .int .u8 0, .int .u8 0, .int .u8 0, .int .u8 0, .int .u8 0, .int .u8 0, .int .u8 0, .int .u8 0, .int .u8 0, .int .u8 0, .int .u8 0, .int .u8 0, .int .u8 0, .int .u8 0, .int .u8 0] := ⟨by kernel_rfl⟩
instance : TU Tryd.prog 141 (TypeDesc.array 32 5) := ⟨Tryd.underlying141⟩
instance : TSz Tryd.prog 141 32 := ⟨by kernel_rfl⟩
instance : TAgg Tryd.prog 141 32 := ⟨by kernel_rfl⟩
instance : TLay Tryd.prog 141 [(0, 1), (1, 1), (2, 1), (3, 1), (4, 1), (5, 1), (6, 1), (7, 1), (8, 1), (9, 1), (10, 1), (11, 1), (12, 1), (13, 1), (14, 1), (15, 1), (16, 1), (17, 1), (18, 1), (19, 1), (20, 1), (21, 1), (22, 1), (23, 1), (24, 1), (25, 1), (26, 1), (27, 1), (28, 1), (29, 1), (30, 1), (31, 1)] := ⟨by kernel_rfl⟩
instance : TEl Tryd.prog 141 32 32 := ⟨by kernel_rfl⟩
instance : TEq Tryd.prog 141 [.i .u8, .i .u8, .i .u8, .i .u8, .i .u8, .i .u8, .i .u8, .i .u8, .i .u8, .i .u8, .i .u8, .i .u8, .i .u8, .i .u8, .i .u8, .i .u8, .i .u8, .i .u8, .i .u8, .i .u8, .i .u8, .i .u8, .i .u8, .i .u8, .i .u8, .i .u8, .i .u8, .i .u8, .i .u8, .i .u8, .i .u8, .i .u8] := ⟨by kernel_rfl⟩
instance : TZero Tryd.prog 141 [.int .u8 0, .int .u8 0, .int .u8 0, .int .u8 0, .int .u8 0, .int .u8 0, .int .u8 0, .int .u8 0, .int .u8 0, .int .u8 0, .int .u8 0, .int .u8 0, .int .u8 0, .int .u8 0, .int .u8 0, .int .u8 0, .int .u8 0, .int .u8 0, .int .u8 0, .int .u8 0, .int .u8 0, .int .u8 0, .int .u8 0, .int .u8 0, .int .u8 0, .int .u8 0, .int .u8 0, .int .u8 0, .int .u8 0, .int .u8 0, .int .u8 0, .int .u8 0] := ⟨by kernel_rfl⟩
instance : TU Tryd.prog 142 (TypeDesc.array 64 5) := ⟨Tryd.underlying142⟩
instance : TSz Tryd.prog 142 64 := ⟨by kernel_rfl⟩
instance : TAgg Tryd.prog 142 64 := ⟨by kernel_rfl⟩
instance : TEl Tryd.prog 142 64 64 := ⟨by kernel_rfl⟩
instance : TZero Tryd.prog 142 (List.replicate 64 (.int .u8 0)) := ⟨by kernel_rfl⟩
instance : TOne Tryd.prog 143 := ⟨by kernel_rfl⟩
instance : TSz Tryd.prog 143 1 := ⟨by kernel_rfl⟩
instance : TZero Tryd.prog 143 [.nilFunc] := ⟨by kernel_rfl⟩
instance : TSz Tryd.prog 144 4 := ⟨by kernel_rfl⟩
instance : TAgg Tryd.prog 144 4 := ⟨by kernel_rfl⟩
instance : TFldT Tryd.prog 144 0 0 17 := ⟨by kernel_rfl⟩
instance : TFld Tryd.prog 144 0 0 := ⟨by kernel_rfl⟩
instance : TFldT Tryd.prog 144 1 1 17 := ⟨by kernel_rfl⟩
instance : TFld Tryd.prog 144 1 1 := ⟨by kernel_rfl⟩
instance : TFldT Tryd.prog 144 2 2 17 := ⟨by kernel_rfl⟩
instance : TFld Tryd.prog 144 2 2 := ⟨by kernel_rfl⟩
instance : TFldT Tryd.prog 144 3 3 9 := ⟨by kernel_rfl⟩
instance : TFld Tryd.prog 144 3 3 := ⟨by kernel_rfl⟩
instance : TLay Tryd.prog 144 [(0, 1), (1, 1), (2, 1), (3, 1)] := ⟨by kernel_rfl⟩
instance : TEl Tryd.prog 144 4 40 := ⟨by kernel_rfl⟩
instance : TZero Tryd.prog 144 [.pointer none, .pointer none, .pointer none, .string .empty] := ⟨by kernel_rfl⟩
instance : TSz Tryd.prog 145 4 := ⟨by kernel_rfl⟩
instance : TAgg Tryd.prog 145 4 := ⟨by kernel_rfl⟩
instance : TFldT Tryd.prog 145 0 0 17 := ⟨by kernel_rfl⟩
instance : TFld Tryd.prog 145 0 0 := ⟨by kernel_rfl⟩
instance : TFldT Tryd.prog 145 1 1 17 := ⟨by kernel_rfl⟩
instance : TFld Tryd.prog 145 1 1 := ⟨by kernel_rfl⟩
instance : TFldT Tryd.prog 145 2 2 17 := ⟨by kernel_rfl⟩
instance : TFld Tryd.prog 145 2 2 := ⟨by kernel_rfl⟩
instance : TFldT Tryd.prog 145 3 3 9 := ⟨by kernel_rfl⟩
instance : TFld Tryd.prog 145 3 3 := ⟨by kernel_rfl⟩
instance : TLay Tryd.prog 145 [(0, 1), (1, 1), (2, 1), (3, 1)] := ⟨by kernel_rfl⟩
instance : TEl Tryd.prog 145 4 40 := ⟨by kernel_rfl⟩
instance : TZero Tryd.prog 145 [.pointer none, .pointer none, .pointer none, .string .empty] := ⟨by kernel_rfl⟩
instance : TU Tryd.prog 146 (TypeDesc.array 0 16) := ⟨Tryd.underlying146⟩
instance : TSz Tryd.prog 146 0 := ⟨by kernel_rfl⟩
instance : TAgg Tryd.prog 146 0 := ⟨by kernel_rfl⟩
instance : TLay Tryd.prog 146 [] := ⟨by kernel_rfl⟩
instance : TEl Tryd.prog 146 0 0 := ⟨by kernel_rfl⟩
instance : TSz Tryd.prog 147 0 := ⟨by kernel_rfl⟩
instance : TAgg Tryd.prog 147 0 := ⟨by kernel_rfl⟩
instance : TFldT Tryd.prog 147 0 0 146 := ⟨by kernel_rfl⟩
instance : TLay Tryd.prog 147 [(0, 0)] := ⟨by kernel_rfl⟩
instance : TEl Tryd.prog 147 0 0 := ⟨by kernel_rfl⟩
instance : TSz Tryd.prog 148 0 := ⟨by kernel_rfl⟩
instance : TAgg Tryd.prog 148 0 := ⟨by kernel_rfl⟩
instance : TFldT Tryd.prog 148 0 0 146 := ⟨by kernel_rfl⟩
instance : TLay Tryd.prog 148 [(0, 0)] := ⟨by kernel_rfl⟩
instance : TEl Tryd.prog 148 0 0 := ⟨by kernel_rfl⟩
instance : TOne Tryd.prog 149 := ⟨by kernel_rfl⟩
instance : TSz Tryd.prog 149 1 := ⟨by kernel_rfl⟩
instance : TZero Tryd.prog 149 [.nilFunc] := ⟨by kernel_rfl⟩
instance : TU Tryd.prog 150 (TypeDesc.int IntKind.u8) := ⟨Tryd.underlying150⟩
instance : TSz Tryd.prog 150 1 := ⟨by kernel_rfl⟩
instance : TOne Tryd.prog 150 := ⟨by kernel_rfl⟩
instance : TEl Tryd.prog 150 1 1 := ⟨by kernel_rfl⟩
instance : TZero Tryd.prog 150 [.int .u8 0] := ⟨by kernel_rfl⟩
instance : TU Tryd.prog 151 (TypeDesc.int IntKind.u8) := ⟨Tryd.underlying151⟩
instance : TSz Tryd.prog 151 1 := ⟨by kernel_rfl⟩
instance : TOne Tryd.prog 151 := ⟨by kernel_rfl⟩
instance : TEl Tryd.prog 151 1 1 := ⟨by kernel_rfl⟩
instance : TZero Tryd.prog 151 [.int .u8 0] := ⟨by kernel_rfl⟩
instance : TOne Tryd.prog 152 := ⟨by kernel_rfl⟩
instance : TSz Tryd.prog 152 1 := ⟨by kernel_rfl⟩
instance : TZero Tryd.prog 152 [.nilFunc] := ⟨by kernel_rfl⟩
instance : TU Tryd.prog 153 (TypeDesc.pointer 5) := ⟨Tryd.underlying153⟩
instance : TSz Tryd.prog 153 1 := ⟨by kernel_rfl⟩
instance : TOne Tryd.prog 153 := ⟨by kernel_rfl⟩
instance : TEl Tryd.prog 153 1 8 := ⟨by kernel_rfl⟩
instance : TZero Tryd.prog 153 [.pointer none] := ⟨by kernel_rfl⟩
instance : TU Tryd.prog 154 (TypeDesc.int IntKind.i32) := ⟨Tryd.underlying154⟩
instance : TSz Tryd.prog 154 1 := ⟨by kernel_rfl⟩
instance : TOne Tryd.prog 154 := ⟨by kernel_rfl⟩
instance : TEl Tryd.prog 154 1 4 := ⟨by kernel_rfl⟩
instance : TZero Tryd.prog 154 [.int .i32 0] := ⟨by kernel_rfl⟩
instance : TU Tryd.prog 155 (TypeDesc.int IntKind.i32) := ⟨Tryd.underlying155⟩
instance : TSz Tryd.prog 155 1 := ⟨by kernel_rfl⟩
instance : TOne Tryd.prog 155 := ⟨by kernel_rfl⟩
instance : TEl Tryd.prog 155 1 4 := ⟨by kernel_rfl⟩
instance : TZero Tryd.prog 155 [.int .i32 0] := ⟨by kernel_rfl⟩
instance : TSz Tryd.prog 156 11 := ⟨by kernel_rfl⟩
instance : TAgg Tryd.prog 156 11 := ⟨by kernel_rfl⟩
instance : TFldT Tryd.prog 156 0 0 12 := ⟨by kernel_rfl⟩
instance : TFld Tryd.prog 156 0 0 := ⟨by kernel_rfl⟩
instance : TFldT Tryd.prog 156 1 1 12 := ⟨by kernel_rfl⟩
instance : TFld Tryd.prog 156 1 1 := ⟨by kernel_rfl⟩
instance : TFldT Tryd.prog 156 2 2 131 := ⟨by kernel_rfl⟩
instance : TFld Tryd.prog 156 2 2 := ⟨by kernel_rfl⟩
instance : TFldT Tryd.prog 156 3 3 150 := ⟨by kernel_rfl⟩
instance : TFld Tryd.prog 156 3 3 := ⟨by kernel_rfl⟩
instance : TFldT Tryd.prog 156 4 4 5 := ⟨by kernel_rfl⟩
instance : TFld Tryd.prog 156 4 4 := ⟨by kernel_rfl⟩
instance : TFldT Tryd.prog 156 5 5 5 := ⟨by kernel_rfl⟩
instance : TFld Tryd.prog 156 5 5 := ⟨by kernel_rfl⟩
instance : TFldT Tryd.prog 156 6 6 151 := ⟨by kernel_rfl⟩
instance : TFld Tryd.prog 156 6 6 := ⟨by kernel_rfl⟩
instance : TFldT Tryd.prog 156 7 7 152 := ⟨by kernel_rfl⟩
instance : TFld Tryd.prog 156 7 7 := ⟨by kernel_rfl⟩
instance : TFldT Tryd.prog 156 8 8 153 := ⟨by kernel_rfl⟩
instance : TFld Tryd.prog 156 8 8 := ⟨by kernel_rfl⟩
instance : TFldT Tryd.prog 156 9 9 154 := ⟨by kernel_rfl⟩
instance : TFld Tryd.prog 156 9 9 := ⟨by kernel_rfl⟩
instance : TFldT Tryd.prog 156 10 10 155 := ⟨by kernel_rfl⟩
instance : TFld Tryd.prog 156 10 10 := ⟨by kernel_rfl⟩
instance : TLay Tryd.prog 156 [(0, 1), (1, 1), (2, 1), (3, 1), (4, 1), (5, 1), (6, 1), (7, 1), (8, 1), (9, 1), (10, 1)] := ⟨by kernel_rfl⟩
instance : TEl Tryd.prog 156 11 48 := ⟨by kernel_rfl⟩
instance : TZero Tryd.prog 156 [.int .u64 0, .int .u64 0, .int .u32 0, .int .u8 0, .int .u8 0, .int .u8 0, .int .u8 0, .nilFunc, .pointer none, .int .i32 0, .int .i32 0] := ⟨by kernel_rfl⟩
instance : TSz Tryd.prog 157 11 := ⟨by kernel_rfl⟩
instance : TAgg Tryd.prog 157 11 := ⟨by kernel_rfl⟩
instance : TFldT Tryd.prog 157 0 0 12 := ⟨by kernel_rfl⟩
instance : TFld Tryd.prog 157 0 0 := ⟨by kernel_rfl⟩
instance : TFldT Tryd.prog 157 1 1 12 := ⟨by kernel_rfl⟩
instance : TFld Tryd.prog 157 1 1 := ⟨by kernel_rfl⟩
instance : TFldT Tryd.prog 157 2 2 131 := ⟨by kernel_rfl⟩
instance : TFld Tryd.prog 157 2 2 := ⟨by kernel_rfl⟩
instance : TFldT Tryd.prog 157 3 3 150 := ⟨by kernel_rfl⟩
instance : TFld Tryd.prog 157 3 3 := ⟨by kernel_rfl⟩
instance : TFldT Tryd.prog 157 4 4 5 := ⟨by kernel_rfl⟩
instance : TFld Tryd.prog 157 4 4 := ⟨by kernel_rfl⟩
instance : TFldT Tryd.prog 157 5 5 5 := ⟨by kernel_rfl⟩
instance : TFld Tryd.prog 157 5 5 := ⟨by kernel_rfl⟩
instance : TFldT Tryd.prog 157 6 6 151 := ⟨by kernel_rfl⟩
instance : TFld Tryd.prog 157 6 6 := ⟨by kernel_rfl⟩
instance : TFldT Tryd.prog 157 7 7 152 := ⟨by kernel_rfl⟩
instance : TFld Tryd.prog 157 7 7 := ⟨by kernel_rfl⟩
instance : TFldT Tryd.prog 157 8 8 153 := ⟨by kernel_rfl⟩
instance : TFld Tryd.prog 157 8 8 := ⟨by kernel_rfl⟩
instance : TFldT Tryd.prog 157 9 9 154 := ⟨by kernel_rfl⟩
instance : TFld Tryd.prog 157 9 9 := ⟨by kernel_rfl⟩
instance : TFldT Tryd.prog 157 10 10 155 := ⟨by kernel_rfl⟩
instance : TFld Tryd.prog 157 10 10 := ⟨by kernel_rfl⟩
instance : TLay Tryd.prog 157 [(0, 1), (1, 1), (2, 1), (3, 1), (4, 1), (5, 1), (6, 1), (7, 1), (8, 1), (9, 1), (10, 1)] := ⟨by kernel_rfl⟩
instance : TEl Tryd.prog 157 11 48 := ⟨by kernel_rfl⟩
instance : TZero Tryd.prog 157 [.int .u64 0, .int .u64 0, .int .u32 0, .int .u8 0, .int .u8 0, .int .u8 0, .int .u8 0, .nilFunc, .pointer none, .int .i32 0, .int .i32 0] := ⟨by kernel_rfl⟩
instance : TU Tryd.prog 158 (TypeDesc.unsafePointer) := ⟨Tryd.underlying158⟩
instance : TSz Tryd.prog 158 1 := ⟨by kernel_rfl⟩
instance : TOne Tryd.prog 158 := ⟨by kernel_rfl⟩
instance : TBody Tryd.prog 3 := ⟨by kernel_rfl⟩
instance : TBody Tryd.prog 4 := ⟨by kernel_rfl⟩
instance : TBody Tryd.prog 5 := ⟨by kernel_rfl⟩
instance : TBody Tryd.prog 6 := ⟨by kernel_rfl⟩
instance : TBody Tryd.prog 7 := ⟨by kernel_rfl⟩
instance : TBody Tryd.prog 8 := ⟨by kernel_rfl⟩
instance : TBody Tryd.prog 9 := ⟨by kernel_rfl⟩
instance : TBody Tryd.prog 10 := ⟨by kernel_rfl⟩
instance : TBody Tryd.prog 11 := ⟨by kernel_rfl⟩
instance : TBody Tryd.prog 12 := ⟨by kernel_rfl⟩
instance : TBody Tryd.prog 13 := ⟨by kernel_rfl⟩
instance : TBody Tryd.prog 14 := ⟨by kernel_rfl⟩
instance : TBody Tryd.prog 15 := ⟨by kernel_rfl⟩
instance : TBody Tryd.prog 16 := ⟨by kernel_rfl⟩
instance : TBody Tryd.prog 17 := ⟨by kernel_rfl⟩
instance : TBody Tryd.prog 18 := ⟨by kernel_rfl⟩
instance : TBody Tryd.prog 19 := ⟨by kernel_rfl⟩
instance : TBody Tryd.prog 20 := ⟨by kernel_rfl⟩
instance : TBody Tryd.prog 21 := ⟨by kernel_rfl⟩
instance : TBody Tryd.prog 22 := ⟨by kernel_rfl⟩
instance : TBody Tryd.prog 23 := ⟨by kernel_rfl⟩
instance : TBody Tryd.prog 24 := ⟨by kernel_rfl⟩
instance : TBody Tryd.prog 25 := ⟨by kernel_rfl⟩
instance : TBody Tryd.prog 26 := ⟨by kernel_rfl⟩
instance : TBody Tryd.prog 27 := ⟨by kernel_rfl⟩
instance : TBody Tryd.prog 28 := ⟨by kernel_rfl⟩
instance : TBody Tryd.prog 29 := ⟨by kernel_rfl⟩
instance : TBody Tryd.prog 30 := ⟨by kernel_rfl⟩
instance : TBody Tryd.prog 31 := ⟨by kernel_rfl⟩
instance : TBody Tryd.prog 32 := ⟨by kernel_rfl⟩
instance : TBody Tryd.prog 33 := ⟨by kernel_rfl⟩
instance : TBody Tryd.prog 34 := ⟨by kernel_rfl⟩
instance : TBody Tryd.prog 35 := ⟨by kernel_rfl⟩
instance : TBody Tryd.prog 36 := ⟨by kernel_rfl⟩
instance : TBody Tryd.prog 37 := ⟨by kernel_rfl⟩
instance : TBody Tryd.prog 38 := ⟨by kernel_rfl⟩
instance : TBody Tryd.prog 39 := ⟨by kernel_rfl⟩
instance : TBody Tryd.prog 40 := ⟨by kernel_rfl⟩
instance : TBody Tryd.prog 41 := ⟨by kernel_rfl⟩
instance : TBody Tryd.prog 42 := ⟨by kernel_rfl⟩
instance : TBody Tryd.prog 43 := ⟨by kernel_rfl⟩
instance : TBody Tryd.prog 44 := ⟨by kernel_rfl⟩
instance : TBody Tryd.prog 45 := ⟨by kernel_rfl⟩
instance : TBody Tryd.prog 46 := ⟨by kernel_rfl⟩
instance : TBody Tryd.prog 47 := ⟨by kernel_rfl⟩
instance : TBody Tryd.prog 48 := ⟨by kernel_rfl⟩
instance : TBody Tryd.prog 49 := ⟨by kernel_rfl⟩
instance : TBody Tryd.prog 50 := ⟨by kernel_rfl⟩
instance : TBody Tryd.prog 51 := ⟨by kernel_rfl⟩
instance : TBody Tryd.prog 52 := ⟨by kernel_rfl⟩
instance : TBody Tryd.prog 53 := ⟨by kernel_rfl⟩
instance : TBody Tryd.prog 54 := ⟨by kernel_rfl⟩
instance : TBody Tryd.prog 55 := ⟨by kernel_rfl⟩
instance : TBody Tryd.prog 56 := ⟨by kernel_rfl⟩
instance : TBody Tryd.prog 57 := ⟨by kernel_rfl⟩
instance : TBody Tryd.prog 58 := ⟨by kernel_rfl⟩
instance : TBody Tryd.prog 59 := ⟨by kernel_rfl⟩
instance : TBody Tryd.prog 60 := ⟨by kernel_rfl⟩
instance : TBody Tryd.prog 61 := ⟨by kernel_rfl⟩
instance : TBody Tryd.prog 62 := ⟨by kernel_rfl⟩
instance : TBody Tryd.prog 63 := ⟨by kernel_rfl⟩
instance : TBody Tryd.prog 64 := ⟨by kernel_rfl⟩
instance : TBody Tryd.prog 65 := ⟨by kernel_rfl⟩
instance : TBody Tryd.prog 66 := ⟨by kernel_rfl⟩
instance : TBody Tryd.prog 67 := ⟨by kernel_rfl⟩
instance : TBody Tryd.prog 68 := ⟨by kernel_rfl⟩
instance : TBody Tryd.prog 69 := ⟨by kernel_rfl⟩
instance : TBody Tryd.prog 70 := ⟨by kernel_rfl⟩
instance : TBody Tryd.prog 71 := ⟨by kernel_rfl⟩
instance : TBody Tryd.prog 72 := ⟨by kernel_rfl⟩
instance : TBody Tryd.prog 73 := ⟨by kernel_rfl⟩
instance : TBody Tryd.prog 74 := ⟨by kernel_rfl⟩
instance : TBody Tryd.prog 75 := ⟨by kernel_rfl⟩
instance : TBody Tryd.prog 76 := ⟨by kernel_rfl⟩
instance : TBody Tryd.prog 77 := ⟨by kernel_rfl⟩
instance : TBody Tryd.prog 78 := ⟨by kernel_rfl⟩
instance : TBody Tryd.prog 79 := ⟨by kernel_rfl⟩
instance : TBody Tryd.prog 80 := ⟨by kernel_rfl⟩
instance : TBody Tryd.prog 81 := ⟨by kernel_rfl⟩
instance : TBody Tryd.prog 82 := ⟨by kernel_rfl⟩
instance : TBody Tryd.prog 83 := ⟨by kernel_rfl⟩
instance : TBody Tryd.prog 84 := ⟨by kernel_rfl⟩
instance : TBody Tryd.prog 85 := ⟨by kernel_rfl⟩
instance : TBody Tryd.prog 86 := ⟨by kernel_rfl⟩
instance : TBody Tryd.prog 87 := ⟨by kernel_rfl⟩
instance : TBody Tryd.prog 88 := ⟨by kernel_rfl⟩
instance : TBody Tryd.prog 89 := ⟨by kernel_rfl⟩
instance : TBody Tryd.prog 90 := ⟨by kernel_rfl⟩
instance : TBody Tryd.prog 91 := ⟨by kernel_rfl⟩
instance : TBody Tryd.prog 92 := ⟨by kernel_rfl⟩
instance : TBody Tryd.prog 93 := ⟨by kernel_rfl⟩
instance : TBody Tryd.prog 94 := ⟨by kernel_rfl⟩
instance : TBody Tryd.prog 95 := ⟨by kernel_rfl⟩
instance : TBody Tryd.prog 96 := ⟨by kernel_rfl⟩
instance : TBody Tryd.prog 97 := ⟨by kernel_rfl⟩
instance : TBody Tryd.prog 98 := ⟨by kernel_rfl⟩
instance : TBody Tryd.prog 99 := ⟨by kernel_rfl⟩
instance : TBody Tryd.prog 101 := ⟨by kernel_rfl⟩
instance : TBody Tryd.prog 102 := ⟨by kernel_rfl⟩
instance : TBody Tryd.prog 103 := ⟨by kernel_rfl⟩
instance : TBody Tryd.prog 104 := ⟨by kernel_rfl⟩
instance : TBody Tryd.prog 105 := ⟨by kernel_rfl⟩
instance : TBody Tryd.prog 106 := ⟨by kernel_rfl⟩
instance : TBody Tryd.prog 107 := ⟨by kernel_rfl⟩
instance : TBody Tryd.prog 108 := ⟨by kernel_rfl⟩
instance : TBody Tryd.prog 109 := ⟨by kernel_rfl⟩
instance : TBody Tryd.prog 110 := ⟨by kernel_rfl⟩
instance : TBody Tryd.prog 112 := ⟨by kernel_rfl⟩
instance : TBody Tryd.prog 113 := ⟨by kernel_rfl⟩
instance : TBody Tryd.prog 114 := ⟨by kernel_rfl⟩
instance : TBody Tryd.prog 115 := ⟨by kernel_rfl⟩
end Go.Proofs.YtadnpidadcgdcaaDoor

/-! P1 -/
/-
  address.digit, address.parseGroup.
-/
namespace Go.Proofs.YtadnpidadcgdcaaDoor
set_option linter.unusedVariables false
set_option linter.unusedSimpArgs false
open Go.RowKit
attribute [local irreducible] OpTo wpListIn Code.wpIn MW Cal

/-- the value of a hexadecimal digit -/
def digV (c : Int) : Option Int := if 48 ≤ c ∧ c ≤ 57 then some (c - 48) else if 97 ≤ c ∧ c ≤ 102 then some (c - 87) else if 65 ≤ c ∧ c ≤ 70 then some (c - 55) else none

set_option maxHeartbeats 400000 in
theorem digit_c (c : Int) (h0 : 0 ≤ c) (h1 : c ≤ 255) (W : World) :
    Cal Tryd.prog 93 [.int .u8 c].toArray W fun v w' => v = .tuple #[.int .u16 ((digV c).getD 0), .bool (digV c).isSome] ∧ Ext [] W w' := by
  have hcase : c < 48 ∨ (48 ≤ c ∧ c ≤ 57) ∨ (57 < c ∧ c < 65) ∨ (65 ≤ c ∧ c ≤ 70) ∨ (70 < c ∧ c < 97) ∨ (97 ≤ c ∧ c ≤ 102) ∨ 102 < c := by omega
  rcases hcase with h | h | h | h | h | h | h
  all_goals
    refine fn_ofM (n := 36) [] Tryd.func93 rfl rfl rfl ?_
    intro a w F M hwW
    repeat (first | (with_reducible refine c_seq ?_) | (with_reducible refine c_region ?_) | (with_reducible refine l_nil ?_) | (with_reducible refine q_then ?_) | (with_reducible refine c_block ?_) | (with_reducible refine c_skip ?_) | (with_reducible refine q_inB ?_) | (with_reducible refine c_ret ?_) | (with_reducible refine q_thenR ?_) | (with_reducible refine q_inBR ?_) | (refine c_true F rfl rfl ?_) | (refine c_false F rfl rfl ?_) | (refine stepD rfl F rfl (o_move (F.ev rfl) ?_); clear F; clear a; intro a F) | (refine stepD rfl F rfl (o_assign (F.ev rfl) ?_); clear F; clear a; intro a F) | (refine stepD rfl F rfl (o_leqT (F.ev rfl) (F.ev rfl) (by omega) ?_); clear F; clear a; intro a F) | (refine stepD rfl F rfl (o_leqF (F.ev rfl) (F.ev rfl) (by omega) ?_); clear F; clear a; intro a F) | (refine stepD rfl F rfl (o_add (F.ev rfl) (F.ev rfl) (w_u16 (by omega) (by omega)) ?_); clear F; clear a; intro a F) | (refine stepD rfl F rfl (o_sub (F.ev rfl) (F.ev rfl) (w_u8 (by omega) (by omega)) ?_); clear F; clear a; intro a F) | (refine stepD rfl F rfl (o_conv (F.ev rfl) (w_u16 (by omega) (by omega)) ?_); clear F; clear a; intro a F) | (refine stepD rfl F rfl (o_pickT (F.ev rfl) (F.ev rfl) ?_); clear F; clear a; intro a F) | (refine stepD rfl F rfl (o_pickF (F.ev rfl) (F.ev rfl) ?_); clear F; clear a; intro a F) | (refine stepOff F rfl rfl rfl rfl ?_; clear F; clear a; intro a F) | (refine stepG rfl F rfl rfl rfl (o_move (F.ev rfl) ?_); clear F; clear a; intro a F) | (refine stepG rfl F rfl rfl rfl (o_leqT (F.ev rfl) (F.ev rfl) (by omega) ?_); clear F; clear a; intro a F) | (refine stepG rfl F rfl rfl rfl (o_leqF (F.ev rfl) (F.ev rfl) (by omega) ?_); clear F; clear a; intro a F))
    refine p_ret F rfl (.cons (.tmp (F.ev rfl)) (.cons (.tmp (F.ev rfl)) .nil)) ⟨?_, M.ext⟩
    simp only [digV, oneOr]
  · rw [if_neg (by omega), if_neg (by omega), if_neg (by omega)]; rfl
  · rw [if_pos (by omega)]; rfl
  · rw [if_neg (by omega), if_neg (by omega), if_neg (by omega)]; rfl
  · rw [if_neg (by omega), if_neg (by omega), if_pos (by omega)]; simp; omega
  · rw [if_neg (by omega), if_neg (by omega), if_neg (by omega)]; rfl
  · rw [if_neg (by omega), if_pos (by omega)]; simp; omega
  · rw [if_neg (by omega), if_neg (by omega), if_neg (by omega)]; rfl

theorem digV_bd {c d : Int} (h : digV c = some d) : 0 ≤ d ∧ d ≤ 15 := by
  unfold digV at h
  split at h
  · simp at h; omega
  · split at h
    · simp at h; omega
    · split at h
      · simp at h; omega
      · cases h
def grpGo : List UInt8 → Int → Option Int
  | [], g => some g
  | c :: cs, g => match digV c.toNat with
    | none => none
    | some d => grpGo cs (16 * g + d)
/-- a group's number -/
def grpV (bs : List UInt8) : Option Int := if bs.length < 1 ∨ 4 < bs.length then none else grpGo bs 0

set_option maxHeartbeats 400000 in
theorem parseGroup_c (bs : List UInt8) (W : World) :
    Cal Tryd.prog 82 [mkS bs].toArray W fun v w' => v = .tuple #[.int .u16 ((grpV bs).getD 0), .bool (grpV bs).isSome] ∧ Ext [] W w' := by
  have hcase : bs.length < 1 ∨ 4 < bs.length ∨ (1 ≤ bs.length ∧ bs.length ≤ 4) := by omega
  rcases hcase with h | h | h
  · refine fn_ofM (n := 36) [] Tryd.func82 rfl rfl rfl ?_
    intro a w F M hwW
    with_reducible refine c_seq ?_
    with_reducible refine c_region ?_
    refine stepD rfl F rfl (o_assign (F.ev rfl) ?_); clear F; clear a; intro a F
    refine stepD rfl F rfl (o_assign (F.ev rfl) ?_); clear F; clear a; intro a F
    with_reducible refine l_nil ?_
    with_reducible refine q_then ?_
    with_reducible refine c_seq ?_
    with_reducible refine c_seq ?_
    with_reducible refine c_region ?_
    refine stepD rfl F rfl (o_move (F.ev rfl) ?_); clear F; clear a; intro a F
    refine stepD rfl F rfl (s_len (F.ev rfl) ?_); clear F; clear a; intro a F
    refine stepD rfl F rfl (o_lssT (F.ev rfl) (F.ev rfl) (by omega) ?_); clear F; clear a; intro a F
    refine stepD rfl F rfl (o_move (F.ev rfl) ?_); clear F; clear a; intro a F
    refine stepOff F rfl rfl rfl rfl ?_; clear F; clear a; intro a F
    refine stepOff F rfl rfl rfl rfl ?_; clear F; clear a; intro a F
    refine stepOff F rfl rfl rfl rfl ?_; clear F; clear a; intro a F
    refine stepD rfl F rfl (o_pickT (F.ev rfl) (F.ev rfl) ?_); clear F; clear a; intro a F
    with_reducible refine l_nil ?_
    with_reducible refine q_then ?_
    refine c_true F rfl rfl ?_
    with_reducible refine c_seq ?_
    with_reducible refine c_region ?_
    refine stepD rfl F rfl (o_assign (F.ev rfl) ?_); clear F; clear a; intro a F
    refine stepD rfl F rfl (o_assign (F.ev rfl) ?_); clear F; clear a; intro a F
    with_reducible refine l_nil ?_
    with_reducible refine q_then ?_
    with_reducible refine c_ret ?_
    with_reducible refine q_thenR ?_
    refine p_ret F rfl (.cons (.tmp (F.ev rfl)) (.cons (.tmp (F.ev rfl)) .nil)) ?_
    exact ⟨by simp [grpV, h, oneOr], M.ext⟩
  · refine fn_ofM (n := 36) [] Tryd.func82 rfl rfl rfl ?_
    intro a w F M hwW
    with_reducible refine c_seq ?_
    with_reducible refine c_region ?_
    refine stepD rfl F rfl (o_assign (F.ev rfl) ?_); clear F; clear a; intro a F
    refine stepD rfl F rfl (o_assign (F.ev rfl) ?_); clear F; clear a; intro a F
    with_reducible refine l_nil ?_
    with_reducible refine q_then ?_
    with_reducible refine c_seq ?_
    with_reducible refine c_seq ?_
    with_reducible refine c_region ?_
    refine stepD rfl F rfl (o_move (F.ev rfl) ?_); clear F; clear a; intro a F
    refine stepD rfl F rfl (s_len (F.ev rfl) ?_); clear F; clear a; intro a F
    refine stepD rfl F rfl (o_lssF (F.ev rfl) (F.ev rfl) (by omega) ?_); clear F; clear a; intro a F
    refine stepD rfl F rfl (o_move (F.ev rfl) ?_); clear F; clear a; intro a F
    refine stepG rfl F rfl rfl rfl (o_move (F.ev rfl) ?_); clear F; clear a; intro a F
    refine stepG rfl F rfl rfl rfl (s_len (F.ev rfl) ?_); clear F; clear a; intro a F
    refine stepG rfl F rfl rfl rfl (o_gtrT (F.ev rfl) (F.ev rfl) (by omega) ?_); clear F; clear a; intro a F
    refine stepD rfl F rfl (o_pickF (F.ev rfl) (F.ev rfl) ?_); clear F; clear a; intro a F
    with_reducible refine l_nil ?_
    with_reducible refine q_then ?_
    refine c_true F rfl rfl ?_
    with_reducible refine c_seq ?_
    with_reducible refine c_region ?_
    refine stepD rfl F rfl (o_assign (F.ev rfl) ?_); clear F; clear a; intro a F
    refine stepD rfl F rfl (o_assign (F.ev rfl) ?_); clear F; clear a; intro a F
    with_reducible refine l_nil ?_
    with_reducible refine q_then ?_
    with_reducible refine c_ret ?_
    with_reducible refine q_thenR ?_
    refine p_ret F rfl (.cons (.tmp (F.ev rfl)) (.cons (.tmp (F.ev rfl)) .nil)) ?_
    exact ⟨by simp [grpV, h, oneOr], M.ext⟩
  · have hg : grpV bs = grpGo bs 0 := by unfold grpV; rw [if_neg (by omega)]
    rw [hg]
    refine fn_ofM (n := 36) [] Tryd.func82 rfl rfl rfl ?_
    intro a w F M hwW
    with_reducible refine c_seq ?_
    with_reducible refine c_region ?_
    refine stepD rfl F rfl (o_assign (F.ev rfl) ?_); clear F; clear a; intro a F
    refine stepD rfl F rfl (o_assign (F.ev rfl) ?_); clear F; clear a; intro a F
    with_reducible refine l_nil ?_
    with_reducible refine q_then ?_
    with_reducible refine c_seq ?_
    with_reducible refine c_seq ?_
    with_reducible refine c_region ?_
    refine stepD rfl F rfl (o_move (F.ev rfl) ?_); clear F; clear a; intro a F
    refine stepD rfl F rfl (s_len (F.ev rfl) ?_); clear F; clear a; intro a F
    refine stepD rfl F rfl (o_lssF (F.ev rfl) (F.ev rfl) (by omega) ?_); clear F; clear a; intro a F
    refine stepD rfl F rfl (o_move (F.ev rfl) ?_); clear F; clear a; intro a F
    refine stepG rfl F rfl rfl rfl (o_move (F.ev rfl) ?_); clear F; clear a; intro a F
    refine stepG rfl F rfl rfl rfl (s_len (F.ev rfl) ?_); clear F; clear a; intro a F
    refine stepG rfl F rfl rfl rfl (o_gtrF (F.ev rfl) (F.ev rfl) (by omega) ?_); clear F; clear a; intro a F
    refine stepD rfl F rfl (o_pickF (F.ev rfl) (F.ev rfl) ?_); clear F; clear a; intro a F
    with_reducible refine l_nil ?_
    with_reducible refine q_then ?_
    refine c_false F rfl rfl ?_
    with_reducible refine c_skip ?_
    with_reducible refine q_then ?_
    with_reducible refine c_seq ?_
    with_reducible refine c_region ?_
    refine stepD rfl F rfl (o_assign (F.ev rfl) ?_); clear F; clear a; intro a F
    with_reducible refine l_nil ?_
    with_reducible refine q_then ?_
    with_reducible refine c_seq ?_
    with_reducible refine c_seq ?_
    with_reducible refine c_region ?_
    refine stepD rfl F rfl (o_move (F.ev rfl) ?_); clear F; clear a; intro a F
    refine stepD rfl F rfl (s_len (F.ev rfl) ?_); clear F; clear a; intro a F
    refine stepD rfl F rfl (o_move (F.ev rfl) ?_); clear F; clear a; intro a F
    with_reducible refine l_nil ?_
    with_reducible refine q_then ?_
    with_reducible refine c_block ?_
    refine c_loop (fun k a w => ∃ (i : Nat) (g : Int), k = bs.length - i ∧ i ≤ bs.length ∧ 0 ≤ g ∧ g < 16 ^ i ∧ grpGo bs 0 = grpGo (bs.drop i) g ∧ Frm a 36 [] [(18, .int .i64 i), (17, .int .i64 bs.length), (4, .int .u16 g), (0, mkS bs)] ∧ Mem [] W w []) bs.length ⟨0, 0, rfl, by omega, by omega, by omega, rfl, F.only [18, 17, 4, 0] rfl, M⟩ ?_
    clear F M
    rintro k a w ⟨i, g, hk, hi, hg0, hg1, hgo, F, M⟩
    by_cases hlt : i < bs.length
    · have hpow : (16 : Int) ^ i ≤ 4096 := by
        have : i ≤ 3 := by omega
        have h3 : i = 0 ∨ i = 1 ∨ i = 2 ∨ i = 3 := by omega
        rcases h3 with rfl | rfl | rfl | rfl <;> decide
      have hdrop : bs.drop i = bs[i] :: bs.drop (i + 1) := List.drop_eq_getElem_cons hlt
      have hb := byte_lt bs[i]
      with_reducible refine c_seq ?_
      with_reducible refine c_region ?_
      refine stepD rfl F rfl (o_lssT (F.ev rfl) (F.ev rfl) (by omega) ?_); clear F; clear a; intro a F
      with_reducible refine l_nil ?_
      with_reducible refine q_then ?_
      with_reducible refine c_seq ?_
      refine c_true F rfl rfl ?_
      with_reducible refine c_skip ?_
      with_reducible refine q_then ?_
      with_reducible refine c_seq ?_
      with_reducible refine c_block ?_
      with_reducible refine c_seq ?_
      with_reducible refine c_region ?_
      refine stepD rfl F rfl (o_move (F.ev rfl) ?_); clear F; clear a; intro a F
      refine stepD rfl F rfl (o_assign (F.ev rfl) ?_); clear F; clear a; intro a F
      with_reducible refine l_nil ?_
      with_reducible refine q_then ?_
      with_reducible refine c_seq ?_
      with_reducible refine c_region ?_
      refine stepD rfl F rfl (o_move (F.ev rfl) ?_); clear F; clear a; intro a F
      refine stepD rfl F rfl (o_move (F.ev rfl) ?_); clear F; clear a; intro a F
      refine stepD rfl F rfl (s_idx (F.ev rfl) (F.ev rfl) rfl (by omega) ?_); clear F; clear a; intro a F
      (refine stepD rfl F rfl (o_call (F.ev rfl) (F.evs rfl) (Cal.mono (digit_c _ hb.1 hb.2 _) ?_)); clear F; clear a; rintro _ w ⟨rfl, hE⟩ a F; replace M := M.later hE; clear hE)
      cases hd : digV (bs[i]).toNat with
      | none =>
        rw [hd] at F
        refine stepD rfl F rfl (o_move (F.ev rfl) ?_); clear F; clear a; intro a F
        refine stepD rfl F rfl (o_extract (F.ev rfl) rfl ?_); clear F; clear a; intro a F
        refine stepD rfl F rfl (o_extract (F.ev rfl) rfl ?_); clear F; clear a; intro a F
        refine stepD rfl F rfl (o_assign (F.ev rfl) ?_); clear F; clear a; intro a F
        refine stepD rfl F rfl (o_assign (F.ev rfl) ?_); clear F; clear a; intro a F
        with_reducible refine l_nil ?_
        with_reducible refine q_then ?_
        with_reducible refine c_seq ?_
        with_reducible refine c_seq ?_
        with_reducible refine c_region ?_
        refine stepD rfl F rfl (o_move (F.ev rfl) ?_); clear F; clear a; intro a F
        refine stepD rfl F rfl (o_not (F.ev rfl) ?_); clear F; clear a; intro a F
        with_reducible refine l_nil ?_
        with_reducible refine q_then ?_
        refine c_true F rfl rfl ?_
        with_reducible refine c_seq ?_
        with_reducible refine c_region ?_
        refine stepD rfl F rfl (o_assign (F.ev rfl) ?_); clear F; clear a; intro a F
        refine stepD rfl F rfl (o_assign (F.ev rfl) ?_); clear F; clear a; intro a F
        with_reducible refine l_nil ?_
        with_reducible refine q_then ?_
        with_reducible refine c_ret ?_
        with_reducible refine q_thenR ?_
        with_reducible refine q_inBR ?_
        with_reducible refine q_thenR ?_
        with_reducible refine q_thenR ?_
        with_reducible refine q_inBR ?_
        with_reducible refine q_thenR ?_
        refine p_ret F rfl (.cons (.tmp (F.ev rfl)) (.cons (.tmp (F.ev rfl)) .nil)) ?_
        refine ⟨?_, M.ext⟩
        rw [hgo, hdrop]; simp [grpGo, hd, oneOr]
      | some dv =>
        rw [hd] at F
        have hdb := digV_bd hd
        refine stepD rfl F rfl (o_move (F.ev rfl) ?_); clear F; clear a; intro a F
        refine stepD rfl F rfl (o_extract (F.ev rfl) rfl ?_); clear F; clear a; intro a F
        refine stepD rfl F rfl (o_extract (F.ev rfl) rfl ?_); clear F; clear a; intro a F
        refine stepD rfl F rfl (o_assign (F.ev rfl) ?_); clear F; clear a; intro a F
        refine stepD rfl F rfl (o_assign (F.ev rfl) ?_); clear F; clear a; intro a F
        with_reducible refine l_nil ?_
        with_reducible refine q_then ?_
        with_reducible refine c_seq ?_
        with_reducible refine c_seq ?_
        with_reducible refine c_region ?_
        refine stepD rfl F rfl (o_move (F.ev rfl) ?_); clear F; clear a; intro a F
        refine stepD rfl F rfl (o_not (F.ev rfl) ?_); clear F; clear a; intro a F
        with_reducible refine l_nil ?_
        with_reducible refine q_then ?_
        refine c_false F rfl rfl ?_
        with_reducible refine c_skip ?_
        with_reducible refine q_then ?_
        with_reducible refine c_region ?_
        refine stepD rfl F rfl (o_move (F.ev rfl) ?_); clear F; clear a; intro a F
        refine stepD rfl F rfl (o_shl (F.ev rfl) (F.ev rfl) (by omega) rfl ?_); clear F; clear a; intro a F
        refine stepD rfl F rfl (o_move (F.ev rfl) ?_); clear F; clear a; intro a F
        refine stepD rfl F rfl (o_or (F.ev rfl) (F.ev rfl) rfl ?_); clear F; clear a; intro a F
        refine stepD rfl F rfl (o_assign (F.ev rfl) ?_); clear F; clear a; intro a F
        with_reducible refine l_nil ?_
        with_reducible refine q_inB ?_
        with_reducible refine q_then ?_
        with_reducible refine c_region ?_
        refine stepD rfl F rfl (o_add (F.ev rfl) (F.ev rfl) (w_i64 (by omega) (by omega)) ?_); clear F; clear a; intro a F
        refine stepD rfl F rfl (o_move (F.ev rfl) ?_); clear F; clear a; intro a F
        with_reducible refine l_nil ?_
        with_reducible refine q_then ?_
        simp only [Option.getD_some] at F
        rw [shl4or hg0 (by omega) hdb.1 hdb.2] at F
        refine ⟨_, by omega, i + 1, 16 * g + dv, rfl, by omega, by omega, by rw [Int.pow_succ]; omega, ?_, F.only [18, 17, 4, 0] rfl, M⟩
        rw [hgo, hdrop]; simp [grpGo, hd]
    · obtain rfl : i = bs.length := by omega
      with_reducible refine c_seq ?_
      with_reducible refine c_region ?_
      refine stepD rfl F rfl (o_lssF (F.ev rfl) (F.ev rfl) (by omega) ?_); clear F; clear a; intro a F
      with_reducible refine l_nil ?_
      with_reducible refine q_then ?_
      with_reducible refine c_seq ?_
      refine c_false F rfl rfl ?_
      with_reducible refine c_exit ?_
      with_reducible refine q_thenX ?_
      with_reducible refine q_thenX ?_
      with_reducible refine q_inBX ?_
      with_reducible refine q_then ?_
      with_reducible refine c_seq ?_
      with_reducible refine c_region ?_
      refine stepD rfl F rfl (o_move (F.ev rfl) ?_); clear F; clear a; intro a F
      refine stepD rfl F rfl (o_assign (F.ev rfl) ?_); clear F; clear a; intro a F
      refine stepD rfl F rfl (o_assign (F.ev rfl) ?_); clear F; clear a; intro a F
      with_reducible refine l_nil ?_
      with_reducible refine q_then ?_
      with_reducible refine c_ret ?_
      refine p_ret F rfl (.cons (.tmp (F.ev rfl)) (.cons (.tmp (F.ev rfl)) .nil)) ?_
      refine ⟨?_, M.ext⟩
      rw [hgo]; simp [grpGo, oneOr]
end Go.Proofs.YtadnpidadcgdcaaDoor

/-! P2 -/
/-
  strings.Index at one byte, strings.SplitSeq at a colon: the iterator's contract.
-/
namespace Go.Proofs.YtadnpidadcgdcaaDoor
set_option linter.unusedVariables false
set_option linter.unusedSimpArgs false
open Go.RowKit
attribute [local irreducible] OpTo wpListIn Code.wpIn MW Cal

theorem index_c (bs : List UInt8) (c : UInt8) (W : World) : Cal Tryd.prog 105 [mkS bs, mkS [c]].toArray W fun v w' => v = .int .i64 (Lib.indexByte bs c) ∧ Ext [] W w' :=
  Cal.of_calls (Tryd.strings_Index_one ⟨bs.toArray⟩ c W) fun e w' ⟨he, hw⟩ => ⟨_, he, by simp, by rw [hw]; exact Ext.refl _ _⟩

/-- the pieces of a text between the colons -/
def splitC : List UInt8 → List (List UInt8)
  | [] => [[]]
  | c :: cs => if c = 58 then [] :: splitC cs else match splitC cs with
    | p :: ps => (c :: p) :: ps
    | [] => [[c]]
theorem splitC_ne (bs : List UInt8) : splitC bs ≠ [] := by
  cases bs with
  | nil => simp [splitC]
  | cons c cs => simp only [splitC]; split <;> (try split) <;> simp
theorem splitC_none : ∀ {bs : List UInt8}, Lib.indexByte bs 58 = -1 → splitC bs = [bs]
  | [], _ => rfl
  | c :: cs, h => by
    simp only [Lib.indexByte] at h
    split at h
    · omega
    · rename_i hc
      have := Lib.indexByte_ge cs 58
      have h' : Lib.indexByte cs 58 = -1 := by
        split at h
        · rename_i h2; simpa using h2
        · omega
      have hne : ¬ c = 58 := by simpa using hc
      simp [splitC, hne, splitC_none h']
theorem splitC_some : ∀ {bs : List UInt8} {i : Nat}, Lib.indexByte bs 58 = i → i < bs.length ∧ splitC bs = bs.take i :: splitC (bs.drop (i + 1))
  | [], i, h => by simp [Lib.indexByte] at h
  | c :: cs, i, h => by
    simp only [Lib.indexByte] at h
    split at h
    · rename_i hc
      obtain rfl : i = 0 := by omega
      have hc' : c = 58 := by simpa using hc
      simp [splitC, hc']
    · rename_i hc
      have hne : ¬ c = 58 := by simpa using hc
      have := Lib.indexByte_ge cs 58
      obtain ⟨j, rfl⟩ : ∃ j, i = j + 1 := by
        refine ⟨i - 1, ?_⟩
        split at h
        · omega
        · rename_i h2
          have : ¬ Lib.indexByte cs 58 = -1 := by simpa using h2
          omega
      have h' : Lib.indexByte cs 58 = (j : Int) := by
        split at h
        · omega
        · omega
      obtain ⟨hl, hs⟩ := splitC_some h'
      exact ⟨by simp; omega, by simp [splitC, hne, hs]⟩

set_option maxHeartbeats 1000000 in
theorem split_iter (s : List UInt8) (hs : s.length ≤ 4611686018427387904) (b1 b2 b3 : Nat) : Iter Tryd.prog 103 [.pointer (some ⟨b2, 0, none⟩), .pointer (some ⟨b1, 0, none⟩), .pointer (some ⟨b3, 0, none⟩)] (fun x : List UInt8 => [mkS x]) (fun pre x => (pre ++ [x]) <+: splitC s)
    [(b1, .cells [mkS s].toArray 9 (0, 0)), (b2, .cells [mkS [58]].toArray 9 (0, 0)), (b3, .cells [Value.int .i64 0].toArray 3 (0, 0))] (fun xs => xs = splitC s) := by
  intro L S W0 w Inv InvX l hY h0 M0
  have M := M0.perm List.perm_append_comm
  clear M0
  refine fn_of (n := 52) Tryd.func103 rfl rfl rfl ?_
  intro a F
  with_reducible refine c_seq ?_
  with_reducible refine c_seq ?_
  with_reducible refine c_region ?_
  refine stepD rfl F rfl (o_load1 M (F.ev rfl) (by repeat (first | exact .here | apply Has.there)) (by first | assumption | rfl) ?_); clear F; clear a; intro a F
  refine stepD rfl F rfl (s_len (F.ev rfl) ?_); clear F; clear a; intro a F
  refine stepD rfl F rfl (o_eql (F.ev rfl) (F.ev rfl) ?_); clear F; clear a; intro a F
  with_reducible refine l_nil ?_
  with_reducible refine q_then ?_
  refine c_false F rfl rfl ?_
  with_reducible refine c_skip ?_
  with_reducible refine q_then ?_
  with_reducible refine c_seq ?_
  with_reducible refine c_block ?_
  refine c_loop (fun k a w => ∃ (pre : List (List UInt8)) (rest : List UInt8) (l : List (Nat × Obj)), k = rest.length ∧ rest.length ≤ s.length ∧ splitC s = pre ++ splitC rest ∧ Inv pre l ∧ Frm a 52 [] [(0, .func (.yield L) #[] #[]), (1, .pointer (some ⟨b2, 0, none⟩)), (2, .pointer (some ⟨b1, 0, none⟩)), (3, .pointer (some ⟨b3, 0, none⟩))] ∧
      Mem S W0 w ((b1, .cells [mkS rest].toArray 9 (0, 0)) :: (b2, .cells [mkS [58]].toArray 9 (0, 0)) :: (b3, .cells [Value.int .i64 0].toArray 3 (0, 0)) :: l)) s.length ⟨[], s, l, rfl, Nat.le_refl _, rfl, h0, F.only [0, 1, 2, 3] rfl, M⟩ ?_
  clear F M h0 l
  rintro k a w ⟨pre, rest, l, hk, hrl, hsp, hI, F, M⟩
  with_reducible refine c_block ?_
  with_reducible refine c_seq ?_
  with_reducible refine c_region ?_
  refine stepD rfl F rfl (o_load1 M (F.ev rfl) (by repeat (first | exact .here | apply Has.there)) (by first | assumption | rfl) ?_); clear F; clear a; intro a F
  refine stepD rfl F rfl (o_load1 M (F.ev rfl) (by repeat (first | exact .here | apply Has.there)) (by first | assumption | rfl) ?_); clear F; clear a; intro a F
  (refine stepD rfl F rfl (o_call (F.ev rfl) (F.evs rfl) (Cal.mono (index_c _ _ _) ?_)); clear F; clear a; rintro _ w ⟨rfl, hE⟩ a F; replace M := M.later hE; clear hE)
  have hge := Lib.indexByte_ge rest 58
  by_cases hno : Lib.indexByte rest 58 = -1
  · rw [hno] at F
    have hone := splitC_none hno
    refine stepD rfl F rfl (o_assign (F.ev rfl) ?_); clear F; clear a; intro a F
    with_reducible refine l_nil ?_
    with_reducible refine q_then ?_
    with_reducible refine c_seq ?_
    with_reducible refine c_seq ?_
    with_reducible refine c_region ?_
    refine stepD rfl F rfl (o_move (F.ev rfl) ?_); clear F; clear a; intro a F
    refine stepD rfl F rfl (o_lssT (F.ev rfl) (F.ev rfl) (by omega) ?_); clear F; clear a; intro a F
    with_reducible refine l_nil ?_
    with_reducible refine q_then ?_
    refine c_true F rfl rfl ?_
    with_reducible refine c_exit ?_
    with_reducible refine q_thenX ?_
    refine q_inBY rfl ?_
    with_reducible refine q_thenX ?_
    with_reducible refine q_inBX ?_
    with_reducible refine q_then ?_
    with_reducible refine c_region ?_
    refine stepD rfl F rfl (o_move (F.ev rfl) ?_); clear F; clear a; intro a F
    refine stepD rfl F rfl (o_load1 M (F.ev rfl) (by repeat (first | exact .here | apply Has.there)) (by first | assumption | rfl) ?_); clear F; clear a; intro a F
    have M' := M.perm (l' := l ++ [(b1, .cells [mkS rest].toArray 9 (0, 0)), (b2, .cells [mkS [58]].toArray 9 (0, 0)), (b3, .cells [Value.int .i64 0].toArray 3 (0, 0))]) (List.perm_append_comm (l₁ := [_, _, _]))
    (refine stepD rfl F rfl (o_yield (F.ev rfl) (F.evs rfl) ((hY pre rest l w _ (by rw [hsp, hone]; exact List.prefix_rfl) hI M').mono ?_)); clear F; clear a)
    rintro v w2 ⟨l2, M2, hor⟩ a F
    with_reducible refine l_nil ?_
    refine p_ret F rfl .nil ?_
    refine ⟨l2, _, M2, ?_⟩
    rcases hor with ⟨_, h1⟩ | ⟨_, h1⟩
    · exact .inl ⟨_, by rw [hsp, hone], h1⟩
    · exact .inr ⟨_, h1⟩
  · obtain ⟨i, hi⟩ := Int.eq_ofNat_of_zero_le (show 0 ≤ Lib.indexByte rest 58 by omega)
    rw [hi] at F
    obtain ⟨hil, hcut⟩ := splitC_some hi
    refine stepD rfl F rfl (o_assign (F.ev rfl) ?_); clear F; clear a; intro a F
    with_reducible refine l_nil ?_
    with_reducible refine q_then ?_
    with_reducible refine c_seq ?_
    with_reducible refine c_seq ?_
    with_reducible refine c_region ?_
    refine stepD rfl F rfl (o_move (F.ev rfl) ?_); clear F; clear a; intro a F
    refine stepD rfl F rfl (o_lssF (F.ev rfl) (F.ev rfl) (by omega) ?_); clear F; clear a; intro a F
    with_reducible refine l_nil ?_
    with_reducible refine q_then ?_
    refine c_false F rfl rfl ?_
    with_reducible refine c_skip ?_
    with_reducible refine q_then ?_
    with_reducible refine c_seq ?_
    with_reducible refine c_region ?_
    refine stepD rfl F rfl (o_load1 M (F.ev rfl) (by repeat (first | exact .here | apply Has.there)) (by first | assumption | rfl) ?_); clear F; clear a; intro a F
    refine stepD rfl F rfl (o_move (F.ev rfl) ?_); clear F; clear a; intro a F
    refine stepD rfl F rfl (o_load1 M (F.ev rfl) (by repeat (first | exact .here | apply Has.there)) (by first | assumption | rfl) ?_); clear F; clear a; intro a F
    refine stepD rfl F rfl (o_add (F.ev rfl) (F.ev rfl) (w_i64 (by omega) (by omega)) ?_); clear F; clear a; intro a F
    (refine stepD rfl F rfl (s_h (q := i) (F.ev rfl) (F.ev rfl) (by omega) (by omega) ?_); clear F; clear a; intro a F)
    refine stepD rfl F rfl (o_assign (F.ev rfl) ?_); clear F; clear a; intro a F
    with_reducible refine l_nil ?_
    with_reducible refine q_then ?_
    with_reducible refine c_seq ?_
    with_reducible refine c_seq ?_
    with_reducible refine c_region ?_
    refine stepD rfl F rfl (o_move (F.ev rfl) ?_); clear F; clear a; intro a F
    refine stepD rfl F rfl (o_move (F.ev rfl) ?_); clear F; clear a; intro a F
    have M' := M.perm (l' := l ++ [(b1, .cells [mkS rest].toArray 9 (0, 0)), (b2, .cells [mkS [58]].toArray 9 (0, 0)), (b3, .cells [Value.int .i64 0].toArray 3 (0, 0))]) (List.perm_append_comm (l₁ := [_, _, _]))
    (refine stepD rfl F rfl (o_yield (F.ev rfl) (F.evs rfl) ((hY pre (rest.take i) l w _ (by rw [hsp, hcut]; exact ⟨splitC (rest.drop (i + 1)), by simp⟩) hI M').mono ?_)); clear F; clear a)
    rintro v w2 ⟨l2, M2, hor⟩ a F
    rcases hor with ⟨rfl, h1⟩ | ⟨rfl, h1⟩
    · replace M := M2.perm List.perm_append_comm
      clear M2 M'
      refine stepD rfl F rfl (o_not (F.ev rfl) ?_); clear F; clear a; intro a F
      with_reducible refine l_nil ?_
      with_reducible refine q_then ?_
      refine c_false F rfl rfl ?_
      with_reducible refine c_skip ?_
      with_reducible refine q_then ?_
      with_reducible refine c_region ?_
      refine stepD rfl F rfl (o_load1 M (F.ev rfl) (by repeat (first | exact .here | apply Has.there)) (by first | assumption | rfl) ?_); clear F; clear a; intro a F
      refine stepD rfl F rfl (o_move (F.ev rfl) ?_); clear F; clear a; intro a F
      refine stepD rfl F rfl (o_load1 M (F.ev rfl) (by repeat (first | exact .here | apply Has.there)) (by first | assumption | rfl) ?_); clear F; clear a; intro a F
      refine stepD rfl F rfl (s_len (F.ev rfl) ?_); clear F; clear a; intro a F
      refine stepD rfl F rfl (o_add (F.ev rfl) (F.ev rfl) rfl ?_); clear F; clear a; intro a F
      (refine stepD rfl F rfl (s_l (p := i + 1) (F.ev rfl) (F.ev rfl) (by simp; exact w_i64 (by omega) (by omega)) (by omega) ?_); clear F; clear a; intro a F)
      (refine stepN rfl F (o_store1 M (F.ev rfl) (F.ev rfl) rfl (by repeat (first | exact .here | apply Has.there)) (by rfl) (by repeat (first | exact .here | apply Upd.there)) ?_); clear F; clear M; intro w M a F)
      with_reducible refine l_nil ?_
      with_reducible refine q_inB ?_
      with_reducible refine q_then ?_
      exact ⟨_, by simp; omega, pre ++ [rest.take i], rest.drop (i + 1), l2, rfl, by simp; omega, by rw [hsp, hcut]; simp, h1, F.only [0, 1, 2, 3] rfl, M⟩
    · refine stepD rfl F rfl (o_not (F.ev rfl) ?_); clear F; clear a; intro a F
      with_reducible refine l_nil ?_
      with_reducible refine q_then ?_
      refine c_true F rfl rfl ?_
      with_reducible refine c_ret ?_
      with_reducible refine q_thenR ?_
      with_reducible refine q_inBR ?_
      with_reducible refine q_thenR ?_
      with_reducible refine q_inBR ?_
      with_reducible refine q_thenR ?_
      refine p_ret F rfl .nil ?_
      exact ⟨l2, _, M2, .inr ⟨_, h1⟩⟩
end Go.Proofs.YtadnpidadcgdcaaDoor

/-! P3 -/
/-
  strings.SplitSeq, address.parseGroups.
-/
namespace Go.Proofs.YtadnpidadcgdcaaDoor
set_option linter.unusedVariables false
set_option linter.unusedSimpArgs false
open Go.RowKit
attribute [local irreducible] OpTo wpListIn Code.wpIn MW Cal

/-- the iterator's own blocks -/
def splitB (s : List UInt8) (b1 b2 b3 : Nat) : List (Nat × Obj) := [(b1, .cells [mkS s].toArray 9 (0, 0)), (b2, .cells [mkS [58]].toArray 9 (0, 0)), (b3, .cells [Value.int .i64 0].toArray 3 (0, 0))]
def splitF (b1 b2 b3 : Nat) : List Value := [.pointer (some ⟨b2, 0, none⟩), .pointer (some ⟨b1, 0, none⟩), .pointer (some ⟨b3, 0, none⟩)]

set_option maxHeartbeats 400000 in
theorem splitSeq0_c (s : List UInt8) (W : World) : Cal Tryd.prog 92 [mkS s, mkS [58], .int .i64 0].toArray W fun v w' => ∃ b1 b2 b3, v = .func (.func 103) #[] (splitF b1 b2 b3).toArray ∧ Mem [] W w' (splitB s b1 b2 b3) := by
  refine fn_ofM (n := 8) [] Tryd.func92 rfl rfl rfl ?_
  intro a w F M hwW
  refine c_seq ?_
  refine c_region ?_
  (refine stepD rfl F rfl (o_box M (F.ev rfl) rfl ?_); clear F; clear M; intro b1 w M a F)
  (refine stepD rfl F rfl (o_box M (F.ev rfl) rfl ?_); clear F; clear M; intro b2 w M a F)
  (refine stepD rfl F rfl (o_box M (F.ev rfl) rfl ?_); clear F; clear M; intro b3 w M a F)
  refine stepD rfl F rfl (o_assign (F.ev rfl) ?_); clear F; clear a; intro a F
  with_reducible refine l_nil ?_
  with_reducible refine q_then ?_
  with_reducible refine c_seq ?_
  with_reducible refine c_region ?_
  (refine stepD rfl F rfl (o_makeFunc (F.evs (xs := []) rfl) (F.evs (xs := [.tmp 4, .tmp 3, .tmp 5]) rfl) ?_); clear F; clear a; intro a F)
  refine stepD rfl F rfl (o_assign (F.ev rfl) ?_); clear F; clear a; intro a F
  with_reducible refine l_nil ?_
  with_reducible refine q_then ?_
  with_reducible refine c_ret ?_
  refine p_ret F rfl (.cons (.tmp (F.ev rfl)) .nil) ?_
  exact ⟨b1, b2, b3, rfl, M.perm (by unfold splitB; exact (List.reverse_perm [_, _, _]).symm)⟩
set_option maxHeartbeats 400000 in
theorem splitSeq_c (s : List UInt8) (W : World) : Cal Tryd.prog 81 [mkS s, mkS [58]].toArray W fun v w' => ∃ b1 b2 b3, v = .func (.func 103) #[] (splitF b1 b2 b3).toArray ∧ Mem [] W w' (splitB s b1 b2 b3) := by
  refine fn_ofM (n := 8) [] Tryd.func81 rfl rfl rfl ?_
  intro a w F M hwW
  with_reducible refine c_seq ?_
  with_reducible refine c_region ?_
  refine stepD rfl F rfl (o_assign (F.ev rfl) ?_); clear F; clear a; intro a F
  with_reducible refine l_nil ?_
  with_reducible refine q_then ?_
  with_reducible refine c_seq ?_
  with_reducible refine c_region ?_
  refine stepD rfl F rfl (o_move (F.ev rfl) ?_); clear F; clear a; intro a F
  refine stepD rfl F rfl (o_move (F.ev rfl) ?_); clear F; clear a; intro a F
  (refine stepD rfl F rfl (o_call (F.ev rfl) (F.evs rfl) (Cal.mono (splitSeq0_c _ _ ) ?_)); clear F; clear a; rintro _ w ⟨b1, b2, b3, rfl, N⟩ a F; replace M := M.joins N; clear N)
  refine stepD rfl F rfl (o_assign (F.ev rfl) ?_); clear F; clear a; intro a F
  with_reducible refine l_nil ?_
  with_reducible refine q_then ?_
  with_reducible refine c_ret ?_
  refine p_ret F rfl (.cons (.tmp (F.ev rfl)) .nil) ?_
  exact ⟨b1, b2, b3, rfl, by simpa using M⟩

def groupsGo : List (List UInt8) → List Int → Option (List Int)
  | [], r => some r
  | p :: ps, r => match grpV p with
    | none => none
    | some g => if r.length = 8 then none else groupsGo ps (r ++ [g])
/-- the groups of a text, at most eight -/
def groupsV (s : List UInt8) : Option (List Int) := if s = [] then some [] else groupsGo (splitC s) []
theorem groupsGo_append : ∀ (a b : List (List UInt8)) (r : List Int), groupsGo (a ++ b) r = (groupsGo a r).bind (groupsGo b)
  | [], b, r => rfl
  | p :: a, b, r => by
    simp only [List.cons_append, groupsGo]
    cases grpV p with
    | none => rfl
    | some g =>
      simp only
      split
      · rfl
      · exact groupsGo_append a b _

set_option maxHeartbeats 1000000 in
theorem parseGroups_c (s : List UInt8) (hs : s.length ≤ 4611686018427387904) (W : World) : Cal Tryd.prog 59 [mkS s].toArray W fun v w' => ∃ sv ent, v = .tuple #[sv, .bool (groupsV s).isSome] ∧ OwnS 42 1 sv ((groupsV s).getD []).length (((groupsV s).getD []).map (Value.int .u16)) ent ∧ Mem [] W w' ent := by
  refine fn_ofM (n := 30) [] Tryd.func59 rfl rfl rfl ?_
  intro a w F M hwW
  refine c_seq ?_
  refine c_region ?_
  (refine stepD rfl F rfl (o_alloc M ?_); clear F; clear M; intro b2 w M a F)
  (refine stepD rfl F rfl (o_alloc M ?_); clear F; clear M; intro b3 w M a F)
  with_reducible refine l_nil ?_
  with_reducible refine q_then ?_
  with_reducible refine c_seq ?_
  with_reducible refine c_seq ?_
  with_reducible refine c_region ?_
  refine stepD rfl F rfl (o_move (F.ev rfl) ?_); clear F; clear a; intro a F
  refine stepD rfl F rfl (s_eql (F.ev rfl) (F.ev rfl) ?_); clear F; clear a; intro a F
  with_reducible refine l_nil ?_
  with_reducible refine q_then ?_
  cases s with
  | nil =>
    refine c_true F rfl rfl ?_
    with_reducible refine c_seq ?_
    with_reducible refine c_region ?_
    (refine stepN rfl F (o_store1 M (F.ev rfl) (F.ev rfl) rfl (by repeat (first | exact .here | apply Has.there)) (by rfl) (by repeat (first | exact .here | apply Upd.there)) ?_); clear F; clear M; intro w M a F)
    (refine stepN rfl F (o_store1 M (F.ev rfl) (F.ev rfl) rfl (by repeat (first | exact .here | apply Has.there)) (by rfl) (by repeat (first | exact .here | apply Upd.there)) ?_); clear F; clear M; intro w M a F)
    with_reducible refine l_nil ?_
    with_reducible refine q_then ?_
    with_reducible refine c_ret ?_
    with_reducible refine q_thenR ?_
    refine p_ret F rfl (.cons (.cell (F.ev rfl) (run_loadVar_one TOne.h (cell_at (M.heap (.there .here)) rfl))) (.cons (.cell (F.ev rfl) (run_loadVar_one TOne.h (cell_at (M.heap .here) rfl))) .nil)) ⟨_, [], rfl, OwnS.nil _ _, M.sub (List.nil_sublist _)⟩
  | cons c0 cs0 =>
    have hgv : groupsV (c0 :: cs0) = groupsGo (splitC (c0 :: cs0)) [] := by simp [groupsV]
    rw [hgv]
    have hne : ((c0 :: cs0) == ([] : List UInt8)) = false := rfl
    rw [hne] at F
    clear hne hgv
    generalize c0 :: cs0 = s at *
    refine c_false F rfl rfl ?_
    with_reducible refine c_skip ?_
    with_reducible refine q_then ?_
    with_reducible refine c_seq ?_
    with_reducible refine c_region ?_
    (refine stepD rfl F rfl (o_alloc M ?_); clear F; clear M; intro b4 w M a F)
    with_reducible refine l_nil ?_
    with_reducible refine q_then ?_
    with_reducible refine c_seq ?_
    with_reducible refine c_seq ?_
    with_reducible refine c_region ?_
    refine stepD rfl F rfl (o_move (F.ev rfl) ?_); clear F; clear a; intro a F
    (refine stepD rfl F rfl (o_call (F.ev rfl) (F.evs rfl) (Cal.mono (splitSeq_c _ _ ) ?_)); clear F; clear a; rintro _ w ⟨c1, c2, c3, rfl, N⟩ a F; replace M := M.joins N; clear N)
    with_reducible refine l_nil ?_
    with_reducible refine q_then ?_
    with_reducible refine c_block ?_
    replace F := F.only [11, 4, 3, 2] rfl
    replace M := M.perm (l' := [(b4, .cells [.slice none 0 0].toArray 81 (0, 0)), (b3, .cells [.bool false].toArray 4 (0, 0)), (b2, .cells [.slice none 0 0].toArray 81 (0, 0))] ++ splitB s c1 c2 c3) List.perm_append_comm
    refine c_range (α := List UInt8) (ps := [12]) F M rfl (split_iter s hs c1 c2 c3) (fun _ => rfl) rfl
      (fun pre l => ∃ gs sv ent, groupsGo pre [] = some gs ∧ gs.length ≤ 8 ∧ OwnS 42 1 sv gs.length (gs.map (Value.int .u16)) ent ∧ l = [(b4, .cells [sv].toArray 81 (0, 0)), (b3, .cells [.bool false].toArray 4 (0, 0)), (b2, .cells [.slice none 0 0].toArray 81 (0, 0))] ++ ent)
      (fun c pre l => c = .ret ∧ groupsGo pre [] = none ∧ pre <+: splitC s ∧ l = [(b3, .cells [.bool false].toArray 4 (0, 0)), (b2, .cells [.slice none 0 0].toArray 81 (0, 0))])
      ⟨[], _, [], rfl, by simp, OwnS.nil _ _, rfl⟩ ?round ?done ?stop
    case round =>
      clear F M
      rintro L pre x _ w p a hok ⟨gs, sv, ent, hgs, hg8, hO, rfl⟩ M F
      with_reducible refine c_region ?_
      refine stepD rfl F rfl (o_assign (F.ev rfl) ?_); clear F; clear a; intro a F
      with_reducible refine l_nil ?_
      with_reducible refine q_then ?_
      refine ⟨_, M, ?_⟩
      clear M
      intro w p M
      obtain ⟨sp, sc, rfl⟩ := hO.slice
      replace M := M.perm (l' := (b4, .cells [.slice sp gs.length sc].toArray 81 (0, 0)) :: (b3, .cells [.bool false].toArray 4 (0, 0)) :: (b2, .cells [.slice none 0 0].toArray 81 (0, 0)) :: (p ++ ent)) (by rw [List.append_assoc]; exact List.Perm.append_left [_, _, _] List.perm_append_comm)
      with_reducible refine c_block ?_
      with_reducible refine c_seq ?_
      with_reducible refine c_region ?_
      refine stepD rfl F rfl (o_move (F.ev rfl) ?_); clear F; clear a; intro a F
      (refine stepD rfl F rfl (o_call (F.ev rfl) (F.evs rfl) (Cal.mono (parseGroup_c _ _) ?_)); clear F; clear a; rintro _ w ⟨rfl, hE⟩ a F; replace M := M.later hE; clear hE)
      have hstep : groupsGo (pre ++ [x]) [] = match grpV x with | none => none | some g => if gs.length = 8 then none else some (gs ++ [g]) := by
        rw [groupsGo_append, hgs]; rfl
      cases hg : grpV x with
      | none =>
        rw [hg] at F hstep
        refine stepD rfl F rfl (o_move (F.ev rfl) ?_); clear F; clear a; intro a F
        refine stepD rfl F rfl (o_extract (F.ev rfl) rfl ?_); clear F; clear a; intro a F
        refine stepD rfl F rfl (o_extract (F.ev rfl) rfl ?_); clear F; clear a; intro a F
        refine stepD rfl F rfl (o_assign (F.ev rfl) ?_); clear F; clear a; intro a F
        refine stepD rfl F rfl (o_assign (F.ev rfl) ?_); clear F; clear a; intro a F
        with_reducible refine l_nil ?_
        with_reducible refine q_then ?_
        with_reducible refine c_seq ?_
        with_reducible refine c_seq ?_
        with_reducible refine c_region ?_
        refine stepD rfl F rfl (o_move (F.ev rfl) ?_); clear F; clear a; intro a F
        refine stepD rfl F rfl (o_not (F.ev rfl) ?_); clear F; clear a; intro a F
        refine stepD rfl F rfl (o_move (F.ev rfl) ?_); clear F; clear a; intro a F
        refine stepOff F rfl rfl rfl rfl ?_; clear F; clear a; intro a F
        refine stepOff F rfl rfl rfl rfl ?_; clear F; clear a; intro a F
        refine stepOff F rfl rfl rfl rfl ?_; clear F; clear a; intro a F
        refine stepD rfl F rfl (o_pickT (F.ev rfl) (F.ev rfl) ?_); clear F; clear a; intro a F
        with_reducible refine l_nil ?_
        with_reducible refine q_then ?_
        refine c_true F rfl rfl ?_
        with_reducible refine c_seq ?_
        with_reducible refine c_region ?_
        (refine stepN rfl F (o_store1 M (F.ev rfl) (F.ev rfl) rfl (by repeat (first | exact .here | apply Has.there)) (by rfl) (by repeat (first | exact .here | apply Upd.there)) ?_); clear F; clear M; intro w M a F)
        (refine stepN rfl F (o_store1 M (F.ev rfl) (F.ev rfl) rfl (by repeat (first | exact .here | apply Has.there)) (by rfl) (by repeat (first | exact .here | apply Upd.there)) ?_); clear F; clear M; intro w M a F)
        with_reducible refine l_nil ?_
        with_reducible refine q_then ?_
        with_reducible refine c_ret ?_
        with_reducible refine q_thenR ?_
        with_reducible refine q_inBR ?_
        exact ⟨_, ⟨rfl, hstep, hok, rfl⟩, (M.sub (l' := [_, _] ++ p) ((List.Sublist.append_left (List.sublist_append_left p ent) [_, _]).trans (List.sublist_cons_self _ _)))⟩
      | some g =>
        rw [hg] at F hstep
        by_cases h8 : gs.length = 8
        · simp only [h8, if_true] at hstep
          refine stepD rfl F rfl (o_move (F.ev rfl) ?_); clear F; clear a; intro a F
          refine stepD rfl F rfl (o_extract (F.ev rfl) rfl ?_); clear F; clear a; intro a F
          refine stepD rfl F rfl (o_extract (F.ev rfl) rfl ?_); clear F; clear a; intro a F
          refine stepD rfl F rfl (o_assign (F.ev rfl) ?_); clear F; clear a; intro a F
          refine stepD rfl F rfl (o_assign (F.ev rfl) ?_); clear F; clear a; intro a F
          with_reducible refine l_nil ?_
          with_reducible refine q_then ?_
          with_reducible refine c_seq ?_
          with_reducible refine c_seq ?_
          with_reducible refine c_region ?_
          refine stepD rfl F rfl (o_move (F.ev rfl) ?_); clear F; clear a; intro a F
          refine stepD rfl F rfl (o_not (F.ev rfl) ?_); clear F; clear a; intro a F
          refine stepD rfl F rfl (o_move (F.ev rfl) ?_); clear F; clear a; intro a F
          refine stepG rfl F rfl rfl rfl (o_load1 M (F.ev rfl) (by repeat (first | exact .here | apply Has.there)) (by first | assumption | rfl) ?_); clear F; clear a; intro a F
          refine stepG rfl F rfl rfl rfl (o_lenSl (F.ev rfl) ?_); clear F; clear a; intro a F
          refine stepG rfl F rfl rfl rfl (o_eqlT (F.ev rfl) (F.ev rfl) (by omega) ?_); clear F; clear a; intro a F
          refine stepD rfl F rfl (o_pickF (F.ev rfl) (F.ev rfl) ?_); clear F; clear a; intro a F
          with_reducible refine l_nil ?_
          with_reducible refine q_then ?_
          refine c_true F rfl rfl ?_
          with_reducible refine c_seq ?_
          with_reducible refine c_region ?_
          (refine stepN rfl F (o_store1 M (F.ev rfl) (F.ev rfl) rfl (by repeat (first | exact .here | apply Has.there)) (by rfl) (by repeat (first | exact .here | apply Upd.there)) ?_); clear F; clear M; intro w M a F)
          (refine stepN rfl F (o_store1 M (F.ev rfl) (F.ev rfl) rfl (by repeat (first | exact .here | apply Has.there)) (by rfl) (by repeat (first | exact .here | apply Upd.there)) ?_); clear F; clear M; intro w M a F)
          with_reducible refine l_nil ?_
          with_reducible refine q_then ?_
          with_reducible refine c_ret ?_
          with_reducible refine q_thenR ?_
          with_reducible refine q_inBR ?_
          exact ⟨_, ⟨rfl, hstep, hok, rfl⟩, (M.sub (l' := [_, _] ++ p) ((List.Sublist.append_left (List.sublist_append_left p ent) [_, _]).trans (List.sublist_cons_self _ _)))⟩
        · simp only [h8, if_false] at hstep
          refine stepD rfl F rfl (o_move (F.ev rfl) ?_); clear F; clear a; intro a F
          refine stepD rfl F rfl (o_extract (F.ev rfl) rfl ?_); clear F; clear a; intro a F
          refine stepD rfl F rfl (o_extract (F.ev rfl) rfl ?_); clear F; clear a; intro a F
          refine stepD rfl F rfl (o_assign (F.ev rfl) ?_); clear F; clear a; intro a F
          refine stepD rfl F rfl (o_assign (F.ev rfl) ?_); clear F; clear a; intro a F
          with_reducible refine l_nil ?_
          with_reducible refine q_then ?_
          with_reducible refine c_seq ?_
          with_reducible refine c_seq ?_
          with_reducible refine c_region ?_
          refine stepD rfl F rfl (o_move (F.ev rfl) ?_); clear F; clear a; intro a F
          refine stepD rfl F rfl (o_not (F.ev rfl) ?_); clear F; clear a; intro a F
          refine stepD rfl F rfl (o_move (F.ev rfl) ?_); clear F; clear a; intro a F
          refine stepG rfl F rfl rfl rfl (o_load1 M (F.ev rfl) (by repeat (first | exact .here | apply Has.there)) (by first | assumption | rfl) ?_); clear F; clear a; intro a F
          refine stepG rfl F rfl rfl rfl (o_lenSl (F.ev rfl) ?_); clear F; clear a; intro a F
          refine stepG rfl F rfl rfl rfl (o_eqlF (F.ev rfl) (F.ev rfl) (by omega) ?_); clear F; clear a; intro a F
          refine stepD rfl F rfl (o_pickF (F.ev rfl) (F.ev rfl) ?_); clear F; clear a; intro a F
          with_reducible refine l_nil ?_
          with_reducible refine q_then ?_
          refine c_false F rfl rfl ?_
          with_reducible refine c_skip ?_
          with_reducible refine q_then ?_
          with_reducible refine c_region ?_
          refine stepD rfl F rfl (o_load1 M (F.ev rfl) (by repeat (first | exact .here | apply Has.there)) (by first | assumption | rfl) ?_); clear F; clear a; intro a F
          refine stepD rfl F rfl (o_move (F.ev rfl) ?_); clear F; clear a; intro a F
          (refine stepD rfl F rfl (o_buildSlice F M rfl rfl rfl rfl ?_); clear F; clear M; intro b5 w M a F)
          (refine stepD rfl F rfl (o_append hO M (.cons (.cons (.cons (.cons (.app .here))))) (F.ev rfl) (F.ev rfl) (SrcOf.cells' (M.heap .here) rfl rfl) (by first | omega | (simp; omega)) (by first | omega | (simp; omega)) ?_); clear F; clear M; clear hO; intro v2 ent2 w hO M a F; (try dsimp only at M))
          obtain ⟨sp2, sc2, rfl⟩ := hO.slice
          (refine stepN rfl F (o_store1 M (F.ev rfl) (F.ev rfl) rfl (by repeat (first | exact .here | apply Has.there)) (by rfl) (by repeat (first | exact .here | apply Upd.there)) ?_); clear F; clear M; intro w M a F)
          with_reducible refine l_nil ?_
          with_reducible refine q_inB ?_
          refine ⟨[(b4, _), (b3, _), (b2, _)] ++ ent2, ⟨gs ++ [g], .slice sp2 (gs.length + 1) sc2, ent2, hstep, by simp; omega, ?_, rfl⟩, ?_⟩
          · simpa using hO
          · exact (M.sub (List.sublist_cons_self _ _)).perm (by rw [List.append_assoc]; exact List.Perm.append_left [_, _, _] List.perm_append_comm)
    case done =>
      clear F M
      rintro D xs _ p w a rfl ⟨gs, sv, ent, hgs, hg8, hO, rfl⟩ M F
      rw [hgs]
      obtain ⟨sp, sc, rfl⟩ := hO.slice
      with_reducible refine q_inB ?_
      with_reducible refine q_then ?_
      with_reducible refine c_seq ?_
      with_reducible refine c_region ?_
      refine stepD rfl F rfl (o_load1 M (F.ev rfl) (by repeat (first | exact .here | apply Has.there)) (by first | assumption | rfl) ?_); clear F; clear a; intro a F
      (refine stepN rfl F (o_store1 M (F.ev rfl) (F.ev rfl) rfl (by repeat (first | exact .here | apply Has.there)) (by rfl) (by repeat (first | exact .here | apply Upd.there)) ?_); clear F; clear M; intro w M a F)
      (refine stepN rfl F (o_store1 M (F.ev rfl) (F.ev rfl) rfl (by repeat (first | exact .here | apply Has.there)) (by rfl) (by repeat (first | exact .here | apply Upd.there)) ?_); clear F; clear M; intro w M a F)
      with_reducible refine l_nil ?_
      with_reducible refine q_then ?_
      with_reducible refine c_ret ?_
      refine p_ret1 F M .here rfl fun w' M' => ⟨.cons (.cell (F.ev rfl) (run_loadVar_one TOne.h (cell_at (M'.heap (.there (.there (.there .here)))) rfl))) (.cons (.cell (F.ev rfl) (run_loadVar_one TOne.h (cell_at (M'.heap (.there (.there .here))) rfl))) .nil), _, ent, rfl, hO, ?_⟩
      exact M'.sub ((List.sublist_append_left ent p).trans (List.sublist_append_right [_, _, _, _] (ent ++ p)))
    case stop =>
      clear F M
      rintro D c pre _ p w a ⟨rfl, hgs, ⟨suf, hsuf⟩, rfl⟩ M F
      have hnone : groupsGo (splitC s) [] = none := by rw [← hsuf, groupsGo_append, hgs]; rfl
      rw [hnone]
      with_reducible refine c_ret ?_
      with_reducible refine q_inBR ?_
      with_reducible refine q_thenR ?_
      refine p_ret1 F M .here rfl fun w' M' => ⟨.cons (.cell (F.ev rfl) (run_loadVar_one TOne.h (cell_at (M'.heap (.there (.there .here))) rfl))) (.cons (.cell (F.ev rfl) (run_loadVar_one TOne.h (cell_at (M'.heap (.there .here)) rfl))) .nil), _, [], rfl, OwnS.nil _ _, M'.sub (List.nil_sublist _)⟩
end Go.Proofs.YtadnpidadcgdcaaDoor

/-! Mask -/

namespace Go.Proofs.YtadnpidadcgdcaaDoor
set_option linter.unusedVariables false
set_option linter.unusedSimpArgs false
open Go.RowKit
attribute [local irreducible] OpTo wpListIn Code.wpIn MW Cal

def ipC (a : List Int) : List Value := a.map (Value.int .u8)
def clampB (b : Int) : Int := if 128 < (if b < 0 then 0 else b) then 128 else (if b < 0 then 0 else b)
def keepN (n i : Int) : Int := if 8 < (if n - 8 * i < 0 then 0 else n - 8 * i) then 8 else (if n - 8 * i < 0 then 0 else n - 8 * i)
/-- byte i of a, of which the first n bits of all stay -/
def maskAt (a : List Int) (n : Int) (i : Nat) : Int := bitsOf .andNot .u8 (a.getD i 0) (Int.fdiv 255 (2 ^ min (keepN n i).toNat 8))
def mrow (a : List Int) (n : Int) (i : Nat) : List Value := (List.range 16).map (fun j => if j < i then .int .u8 (maskAt a n j) else .int .u8 0) ++ [.int .i64 n]
theorem nth_ip {a : List Int} {i : Nat} (h : i < a.length) : nth (ipC a) (0 + (i : Int).toNat * 1) = some (.int .u8 (a.getD i 0)) := by
  rw [nth_spec]; simp [ipC, h]
theorem keepN_le (n i : Int) : 0 ≤ keepN n i := by unfold keepN; split <;> (try split) <;> omega
theorem put1 {xs : List Value} {off q : Nat} (v : Value) (h : off = q) (hq : q < xs.length) : put xs off [v] = some (xs.set q v) := by
  subst h
  rw [put_of _ _ _ (by simp; omega)]
  congr 1
  have := splice_set xs off v [] hq
  simp only [splice, List.length_nil, List.nil_append, Nat.add_zero, List.take_append_drop] at this
  exact this.symm
theorem put_mrow {a : List Int} {n : Int} {i : Nat} (h : i < 16) : put (mrow a n i) (0 + 0 + (i : Int).toNat * 1) [.int .u8 (maskAt a n i)] = some (mrow a n (i + 1)) := by
  rw [put1 (q := i) _ (by omega) (by simp [mrow]; omega)]
  congr 1
  unfold mrow
  rw [List.set_append_left _ _ (by simpa using h)]
  congr 1
  apply List.ext_getElem (by simp)
  intro j h1 h2
  simp only [List.getElem_set, List.getElem_map, List.getElem_range]
  split
  · subst_vars; simp
  · have : j < i ↔ j < i + 1 := by omega
    simp [this]

set_option maxHeartbeats 400000 in
theorem mask_c (a : List Int) (ha : a.length = 16) (bits : Int) (W : World) :
    Cal Tryd.prog 18 [.agg (ipC a).toArray, .int .i64 bits].toArray W fun v w' => v = .agg (mrow a (clampB bits) 16).toArray ∧ Ext [] W w' := by
  obtain ⟨ip, rfl⟩ : ∃ ip, ip = a := ⟨_, rfl⟩
  refine fn_ofM (n := 33) [] Tryd.func18 rfl rfl rfl ?_
  intro a w F M hwW
  refine c_seq ?_
  refine c_region ?_
  (refine stepD rfl F rfl (o_box M (F.ev rfl) rfl ?_); clear F; clear M; intro b1 w M a F)
  (refine stepD rfl F rfl (o_alloc M ?_); clear F; clear M; intro b2 w M a F)
  with_reducible refine l_nil ?_
  with_reducible refine q_then ?_
  with_reducible refine c_seq ?_
  with_reducible refine c_region ?_
  refine stepD rfl F rfl (o_move (F.ev rfl) ?_); clear F; clear a; intro a F
  refine stepD rfl F rfl (o_max (F.ev rfl) (F.ev rfl) ?_); clear F; clear a; intro a F
  refine stepD rfl F rfl (o_min (F.ev rfl) (F.ev rfl) ?_); clear F; clear a; intro a F
  refine stepD rfl F rfl (o_build F rfl rfl ?_); clear F; clear a; intro a F
  (refine stepD rfl F rfl (o_alloc M ?_); clear F; clear M; intro b3 w M a F)
  (refine stepN rfl F (o_storeA M (F.ev rfl) (F.ev rfl) (by rfl) (by rfl) (by repeat (first | exact .here | apply Has.there)) (by rfl) (by repeat (first | exact .here | apply Upd.there)) ?_); clear F; clear M; intro w M a F)
  with_reducible refine l_nil ?_
  with_reducible refine q_then ?_
  with_reducible refine c_seq ?_
  with_reducible refine c_seq ?_
  with_reducible refine c_region ?_
  refine stepD rfl F rfl (o_move (F.ev rfl) ?_); clear F; clear a; intro a F
  with_reducible refine l_nil ?_
  with_reducible refine q_then ?_
  with_reducible refine c_block ?_
  refine c_loop (fun k a w => ∃ i : Nat, k = 16 - i ∧ i ≤ 16 ∧ Frm a 33 [] [(12, .int .i64 i), (5, .pointer (some ⟨b3, 0, none⟩)), (4, .pointer (some ⟨b2, 0, none⟩)), (2, .pointer (some ⟨b1, 0, none⟩))] ∧ Mem [] W w [(b3, .cells (mrow ip (clampB bits) i).toArray 35 (0, 0)), (b2, .cells #[.int .u8 0, .int .u8 0, .int .u8 0, .int .u8 0, .int .u8 0, .int .u8 0, .int .u8 0, .int .u8 0, .int .u8 0, .int .u8 0, .int .u8 0, .int .u8 0, .int .u8 0, .int .u8 0, .int .u8 0, .int .u8 0, .int .i64 0] 35 (0, 0)), (b1, .cells (ipC ip).toArray 23 (0, 0))]) 16 ⟨0, rfl, by omega, F.only [12, 5, 4, 2] rfl, M⟩ ?_
  clear F M
  have hcb : 0 ≤ clampB bits ∧ clampB bits ≤ 128 := by unfold clampB; split <;> (try split) <;> omega
  rintro k a w ⟨i, hk, hi, F, M⟩
  with_reducible refine c_seq ?_
  with_reducible refine c_region ?_
  refine stepD rfl F rfl (o_lss (F.ev rfl) (F.ev rfl) ?_); clear F; clear a; intro a F
  with_reducible refine l_nil ?_
  with_reducible refine q_then ?_
  with_reducible refine c_seq ?_
  refine c_if F rfl (fun hc => ?_) (fun hc => ?_)
  · replace hc := of_decide_eq_true hc
    have hlt : i < 16 := by omega
    with_reducible refine c_skip ?_
    with_reducible refine q_then ?_
    with_reducible refine c_seq ?_
    with_reducible refine c_block ?_
    with_reducible refine c_seq ?_
    with_reducible refine c_region ?_
    refine stepD rfl F rfl (o_move (F.ev rfl) ?_); clear F; clear a; intro a F
    refine stepD rfl F rfl (o_assign (F.ev rfl) ?_); clear F; clear a; intro a F
    with_reducible refine l_nil ?_
    with_reducible refine q_then ?_
    with_reducible refine c_seq ?_
    with_reducible refine c_region ?_
    refine stepD rfl F rfl (o_fieldAddr (F.ev rfl) ?_); clear F; clear a; intro a F
    refine stepD rfl F rfl (o_load1 M (F.ev rfl) (by repeat (first | exact .here | apply Has.there)) (by first | assumption | rfl) ?_); clear F; clear a; intro a F
    refine stepD rfl F rfl (o_move (F.ev rfl) ?_); clear F; clear a; intro a F
    refine stepD rfl F rfl (o_mul (F.ev rfl) (F.ev rfl) (w_i64 (by omega) (by omega)) ?_); clear F; clear a; intro a F
    refine stepD rfl F rfl (o_sub (F.ev rfl) (F.ev rfl) (w_i64 (by omega) (by omega)) ?_); clear F; clear a; intro a F
    refine stepD rfl F rfl (o_max (F.ev rfl) (F.ev rfl) ?_); clear F; clear a; intro a F
    refine stepD rfl F rfl (o_min (F.ev rfl) (F.ev rfl) ?_); clear F; clear a; intro a F
    refine stepD rfl F rfl (o_assign (F.ev rfl) ?_); clear F; clear a; intro a F
    with_reducible refine l_nil ?_
    with_reducible refine q_then ?_
    replace F := F.only [6, 7, 12, 5, 4, 2] rfl
    refine c_draw 9 F (by kernel_rfl) ?_
    intro w1 hE hok
    have M1 := M.later hE
    refine mK hok rfl rfl (fun a' w' F' E' => o_move (F'.ev rfl) ⟨Ext.refl _ _, rfl⟩) ?_
    refine mK hok rfl rfl (fun a' w' F' E' => o_move (F'.ev rfl) ⟨Ext.refl _ _, rfl⟩) ?_
    refine mK hok rfl rfl (fun a' w' F' E' => o_indexArr (F'.ev rfl) (F'.ev rfl) (by omega) (by omega) ⟨Ext.refl _ _, rfl⟩) ?_
    (refine mK hok rfl rfl (fun a' w' F' E' => o_load1 (M1.later E') (F'.ev rfl) (by repeat (first | exact .here | apply Has.there)) (nth_ip (a := ip) (i := i) (by omega)) ⟨Ext.refl _ _, rfl⟩) ?_)
    refine mK hok rfl rfl (fun a' w' F' E' => o_move (F'.ev rfl) ⟨Ext.refl _ _, rfl⟩) ?_
    refine mK hok rfl rfl (fun a' w' F' E' => o_shr (F'.ev rfl) (F'.ev rfl) (by omega) rfl ⟨Ext.refl _ _, rfl⟩) ?_
    refine mK hok rfl rfl (fun a' w' F' E' => o_andNot (F'.ev rfl) (F'.ev rfl) rfl ⟨Ext.refl _ _, rfl⟩) ?_
    refine mK hok rfl rfl (fun a' w' F' E' => o_fieldAddr (F'.ev rfl) ⟨Ext.refl _ _, rfl⟩) ?_
    refine mK hok rfl rfl (fun a' w' F' E' => o_indexArr (F'.ev rfl) (F'.ev rfl) (by omega) (by omega) ⟨Ext.refl _ _, rfl⟩) ?_
    (refine mDone rfl rfl ?_; clear F; clear M; intro a w F hE2 hX hTT hDD hPP; have M := M1.later hE2; clear M1; clear hX; clear hE2; clear hok; clear hE; clear hTT; clear hDD; clear hPP; (try dsimp only at F))
    (refine stepN rfl F (o_store1 M (F.ev rfl) (F.ev rfl) rfl (by repeat (first | exact .here | apply Has.there)) (put_mrow hlt) (by repeat (first | exact .here | apply Upd.there)) ?_); clear F; clear M; intro w M a F)
    with_reducible refine l_nil ?_
    with_reducible refine q_inB ?_
    with_reducible refine q_then ?_
    with_reducible refine c_region ?_
    refine stepD rfl F rfl (o_add (F.ev rfl) (F.ev rfl) (w_i64 (by omega) (by omega)) ?_); clear F; clear a; intro a F
    refine stepD rfl F rfl (o_move (F.ev rfl) ?_); clear F; clear a; intro a F
    with_reducible refine l_nil ?_
    with_reducible refine q_then ?_
    exact ⟨_, by omega, i + 1, rfl, by omega, F.only [12, 5, 4, 2] rfl, M⟩
  · replace hc := of_decide_eq_false hc
    obtain rfl : i = 16 := by omega
    with_reducible refine c_exit ?_
    with_reducible refine q_thenX ?_
    with_reducible refine q_thenX ?_
    with_reducible refine q_inBX ?_
    with_reducible refine q_then ?_
    with_reducible refine c_seq ?_
    with_reducible refine c_region ?_
    refine stepD rfl F rfl (o_loadA M (F.ev rfl) (by repeat (first | exact .here | apply Has.there)) (by first | assumption | rfl) ?_); clear F; clear a; intro a F
    (refine stepN rfl F (o_storeA M (F.ev rfl) (F.ev rfl) (by rfl) (by rfl) (by repeat (first | exact .here | apply Has.there)) (by rfl) (by repeat (first | exact .here | apply Upd.there)) ?_); clear F; clear M; intro w M a F)
    with_reducible refine l_nil ?_
    with_reducible refine q_then ?_
    with_reducible refine c_ret ?_
    refine p_ret (F.only [4] rfl) rfl (.cons (.cell (F.ev rfl) (run_loadVar_agg TAgg.h (M.heap (.there .here)) rfl)) .nil) ⟨rfl, M.ext⟩
end Go.Proofs.YtadnpidadcgdcaaDoor

/-! P4 -/
/-
  strings.Cut at two colons, address.ParseIP.
-/
namespace Go.Proofs.YtadnpidadcgdcaaDoor
set_option linter.unusedVariables false
set_option linter.unusedSimpArgs false
open Go.RowKit
attribute [local irreducible] OpTo wpListIn Code.wpIn MW Cal

/-- the variable that strings.Index looks at holds some number -/
def GM (W : World) : Prop := ∃ m : Int, W.cell? ⟨0, 0, none⟩ = some (.int .i64 m)
theorem GM.later {W w : World} (h : GM W) (e : Ext [] W w) : GM w := by
  obtain ⟨m, hm⟩ := h
  have hlt : 0 < W.heap.size := by
    have := block_lt_of_cell hm
    simpa using this
  exact ⟨m, by rw [World.cell?_of_block (w := W) (e.block 0 hlt (by simp))]; exact hm⟩
theorem cut_c (s : List UInt8) (hs : s.length < 4294967281) (W : World) (hG : GM W) : Cal Tryd.prog 58 [mkS s, mkS [58, 58]].toArray W fun v w' => v = .tuple #[mkS (Lib.cut s [58, 58]).1, mkS (Lib.cut s [58, 58]).2.1, .bool (Lib.cut s [58, 58]).2.2] ∧ Ext [] W w' := by
  obtain ⟨m, hm⟩ := hG
  exact Cal.of_calls (Tryd.strings_Cut ⟨s.toArray⟩ ⟨[58, 58].toArray⟩ m W (by simpa [mkS_size] using hs) hm) fun e w' ⟨he, n, hw⟩ => ⟨_, he, rfl, by rw [hw]; exact Ext.drawn _ _⟩

theorem grpGo_bd : ∀ (bs : List UInt8) (g r : Int) (k : Nat), 0 ≤ g → g < 16 ^ k → grpGo bs g = some r → 0 ≤ r ∧ r < 16 ^ (k + bs.length)
  | [], g, r, k, h0, h1, h => by simp [grpGo] at h; subst h; exact ⟨h0, by simpa using h1⟩
  | c :: cs, g, r, k, h0, h1, h => by
    simp only [grpGo] at h
    cases hd : digV c.toNat with
    | none => simp [hd] at h
    | some d =>
      rw [hd] at h
      have hb := digV_bd hd
      have := grpGo_bd cs (16 * g + d) r (k + 1) (by omega) (by rw [Int.pow_succ]; omega) h
      refine ⟨this.1, ?_⟩
      rw [show k + (c :: cs).length = k + 1 + cs.length by simp; omega]
      exact this.2
theorem grpV_bd {bs : List UInt8} {g : Int} (h : grpV bs = some g) : 0 ≤ g ∧ g ≤ 65535 := by
  unfold grpV at h
  split at h
  · cases h
  · rename_i hn
    have := grpGo_bd bs 0 g 0 (by omega) (by decide) h
    refine ⟨this.1, ?_⟩
    have hl : bs.length ≤ 4 := by omega
    have : (16 : Int) ^ (0 + bs.length) ≤ 65536 := by
      have h4 : bs.length = 0 ∨ bs.length = 1 ∨ bs.length = 2 ∨ bs.length = 3 ∨ bs.length = 4 := by omega
      rcases h4 with e | e | e | e | e <;> rw [e] <;> decide
    omega
theorem groupsGo_bd : ∀ (ps : List (List UInt8)) (r gs : List Int), r.length ≤ 8 → (∀ g ∈ r, 0 ≤ g ∧ g ≤ 65535) → groupsGo ps r = some gs → gs.length ≤ 8 ∧ ∀ g ∈ gs, 0 ≤ g ∧ g ≤ 65535
  | [], r, gs, hl, h, hg => by simp [groupsGo] at hg; subst hg; exact ⟨hl, h⟩
  | p :: ps, r, gs, hl, h, hg => by
    simp only [groupsGo] at hg
    cases hp : grpV p with
    | none => simp [hp] at hg
    | some g =>
      rw [hp] at hg
      simp only at hg
      split at hg
      · cases hg
      · refine groupsGo_bd ps _ gs (by simp; omega) (fun x hx => ?_) hg
        rcases List.mem_append.1 hx with h1 | h1
        · exact h x h1
        · simp at h1; subst h1; exact grpV_bd hp
theorem groupsV_bd {s : List UInt8} {gs : List Int} (h : groupsV s = some gs) : gs.length ≤ 8 ∧ ∀ g ∈ gs, 0 ≤ g ∧ g ≤ 65535 := by
  unfold groupsV at h
  split at h
  · simp at h; subst h; simp
  · exact groupsGo_bd _ [] gs (by simp) (by simp) h

/-- byte j of a list of groups -/
def byteOf (f : List Int) (j : Nat) : Int := if j % 2 = 0 then f.getD (j / 2) 0 / 256 else f.getD (j / 2) 0 % 256
/-- the address after i groups of the second list -/
def rowB (f l : List Int) (i : Nat) : List Int := (List.range 16).map fun j => if j < 2 * f.length then byteOf f j else if 16 - 2 * l.length ≤ j ∧ j < 16 - 2 * l.length + 2 * i then byteOf l (j - (16 - 2 * l.length)) else 0
def rowA (f : List Int) (i : Nat) : List Int := (List.range 16).map fun j => if j < 2 * i then byteOf f j else 0
def badN (short : Bool) (n : Nat) : Prop := (short = true ∧ 7 < n) ∨ (short = false ∧ n ≠ 8)
instance (short : Bool) (n : Nat) : Decidable (badN short n) := by unfold badN; infer_instance
/-- ParseIP -/
def parseIPV (s : List UInt8) : Option (List Int) :=
  match groupsV (Lib.cut s [58, 58]).1 with
  | none => none
  | some f => match groupsV (Lib.cut s [58, 58]).2.1 with
    | none => none
    | some l => if badN (Lib.cut s [58, 58]).2.2 (f.length + l.length) then none else some (rowB f l l.length)

theorem ipC_set (L : List Int) (i : Nat) (x : Int) : ipC (L.set i x) = (ipC L).set i (.int .u8 x) := by simp [ipC, List.map_set]
theorem length_ipC (L : List Int) : (ipC L).length = L.length := by simp [ipC]
theorem rowA_step {f : List Int} {i : Nat} (hi : 2 * i + 1 < 16) : ((rowA f i).set (2 * i) (byteOf f (2 * i))).set (2 * i + 1) (byteOf f (2 * i + 1)) = rowA f (i + 1) := by
  apply List.ext_getElem
  · simp [rowA]
  · intro j h1 h2
    simp only [rowA, List.getElem_set, List.getElem_map, List.getElem_range]
    by_cases e1 : 2 * i + 1 = j
    · subst e1; rw [if_pos rfl, if_pos (by omega)]
    · by_cases e2 : 2 * i = j
      · subst e2; rw [if_neg e1, if_pos rfl, if_pos (by omega)]
      · simp only [e1, e2, if_false]
        by_cases e3 : j < 2 * i
        · rw [if_pos e3, if_pos (by omega)]
        · rw [if_neg e3, if_neg (by omega)]
theorem rowA_B (f l : List Int) : rowA f f.length = rowB f l 0 := by
  simp only [rowA, rowB]
  apply List.map_congr_left
  intro j _
  by_cases e : j < 2 * f.length
  · rw [if_pos e, if_pos e]
  · rw [if_neg e, if_neg e, if_neg (by omega)]
theorem rowB_step {f l : List Int} {i : Nat} (hn : f.length + l.length ≤ 8) (hi : i < l.length) : ((rowB f l i).set (16 - 2 * l.length + 2 * i) (byteOf l (2 * i))).set (16 - 2 * l.length + 2 * i + 1) (byteOf l (2 * i + 1)) = rowB f l (i + 1) := by
  apply List.ext_getElem
  · simp [rowB]
  · intro j h1 h2
    simp only [rowB, List.getElem_set, List.getElem_map, List.getElem_range]
    by_cases e1 : 16 - 2 * l.length + 2 * i + 1 = j
    · subst e1
      rw [if_pos rfl, if_neg (by omega), if_pos (by omega)]
      congr 1; omega
    · by_cases e2 : 16 - 2 * l.length + 2 * i = j
      · subst e2
        rw [if_neg e1, if_pos rfl, if_neg (by omega), if_pos (by omega)]
        congr 1; omega
      · rw [if_neg e1, if_neg e2]
        by_cases e3 : j < 2 * f.length
        · rw [if_pos e3, if_pos e3]
        · rw [if_neg e3, if_neg e3]
          by_cases e4 : 16 - 2 * l.length ≤ j ∧ j < 16 - 2 * l.length + 2 * i
          · rw [if_pos e4, if_pos (by omega)]
          · rw [if_neg e4, if_neg (by omega)]
theorem hiB {g : Int} (h0 : 0 ≤ g) (h1 : g ≤ 65535) : IntKind.u8.wrap (Int.fdiv g (2 ^ min (Int.toNat 8) IntKind.u16.bits)) = g / 256 := by
  have e : Int.fdiv g (2 ^ min (Int.toNat 8) IntKind.u16.bits) = g / 256 := by
    show Int.fdiv g 256 = g / 256
    rw [Int.fdiv_eq_ediv_of_nonneg _ (by omega)]
  rw [e]; exact w_u8 (by omega) (by omega)
theorem loB {g : Int} (h0 : 0 ≤ g) : IntKind.u8.wrap g = g % 256 := by
  simp [IntKind.wrap, IntKind.signed, IntKind.bits]
theorem byteOf_even (f : List Int) (i : Nat) : byteOf f (2 * i) = f.getD i 0 / 256 := by simp [byteOf]
theorem byteOf_odd (f : List Int) (i : Nat) : byteOf f (2 * i + 1) = f.getD i 0 % 256 := by
  have h1 : (2 * i + 1) % 2 = 1 := by omega
  have h2 : (2 * i + 1) / 2 = i := by omega
  simp [byteOf, h1, h2]
end Go.Proofs.YtadnpidadcgdcaaDoor

/-! P5 -/
/-
  address.ParseIP.
-/
namespace Go.Proofs.YtadnpidadcgdcaaDoor
set_option linter.unusedVariables false
set_option linter.unusedSimpArgs false
open Go.RowKit
attribute [local irreducible] OpTo wpListIn Code.wpIn MW Cal

theorem nth_own {xs : List Int} {junk : List Value} {i : Nat} (h : i < xs.length) : nth (xs.map (Value.int .u16) ++ junk) (0 + (i : Int).toNat * 1) = some (.int .u16 (xs.getD i 0)) := by
  rw [nth_spec]; simp [List.getElem?_append, h]

def ip0 : List Int := List.replicate 16 0

set_option maxRecDepth 10000 in
set_option maxHeartbeats 2000000 in
theorem parseIP_c (s : List UInt8) (hs : s.length < 4294967281) (W : World) (hG : GM W) : Cal Tryd.prog 14 [mkS s].toArray W fun v w' => v = .tuple #[.agg (ipC ((parseIPV s).getD ip0)).toArray, .bool (parseIPV s).isSome] ∧ Ext [] W w' := by
  have hc1 : (Lib.cut s [58, 58]).1.length ≤ s.length ∧ (Lib.cut s [58, 58]).2.1.length ≤ s.length := by
    unfold Lib.cut; split <;> simp <;> omega
  refine fn_ofM (n := 104) [] Tryd.func14 rfl rfl rfl ?_
  intro a w F M hwW
  refine c_seq ?_
  refine c_region ?_
  (refine stepD rfl F rfl (o_alloc M ?_); clear F; clear M; intro b2 w M a F)
  refine stepD rfl F rfl (o_assign (F.ev rfl) ?_); clear F; clear a; intro a F
  with_reducible refine l_nil ?_
  with_reducible refine q_then ?_
  with_reducible refine c_seq ?_
  with_reducible refine c_region ?_
  refine stepD rfl F rfl (o_move (F.ev rfl) ?_); clear F; clear a; intro a F
  (refine stepD rfl F rfl (o_call (F.ev rfl) (F.evs rfl) (Cal.mono (cut_c _ hs _ (hG.later M.ext)) ?_)); clear F; clear a; rintro _ w ⟨rfl, hE⟩ a F; replace M := M.later hE; clear hE)
  obtain ⟨⟨h1, t1, short⟩, hq⟩ : ∃ q, Lib.cut s [58, 58] = q := ⟨_, rfl⟩
  rw [hq] at F hc1
  dsimp only at F hc1
  refine stepD rfl F rfl (o_move (F.ev rfl) ?_); clear F; clear a; intro a F
  refine stepD rfl F rfl (o_extract (F.ev rfl) rfl ?_); clear F; clear a; intro a F
  refine stepD rfl F rfl (o_extract (F.ev rfl) rfl ?_); clear F; clear a; intro a F
  refine stepD rfl F rfl (o_extract (F.ev rfl) rfl ?_); clear F; clear a; intro a F
  refine stepD rfl F rfl (o_assign (F.ev rfl) ?_); clear F; clear a; intro a F
  refine stepD rfl F rfl (o_assign (F.ev rfl) ?_); clear F; clear a; intro a F
  refine stepD rfl F rfl (o_assign (F.ev rfl) ?_); clear F; clear a; intro a F
  with_reducible refine l_nil ?_
  with_reducible refine q_then ?_
  with_reducible refine c_seq ?_
  with_reducible refine c_region ?_
  refine stepD rfl F rfl (o_move (F.ev rfl) ?_); clear F; clear a; intro a F
  (refine stepD rfl F rfl (o_call (F.ev rfl) (F.evs rfl) (Cal.mono (parseGroups_c h1 (by omega) _ ) ?_)); clear F; clear a; rintro _ w ⟨sv, ent, rfl, hO, N⟩ a F; replace M := M.joins N; clear N)
  cases hf : groupsV h1 with
  | none =>
    rw [hf] at F hO
    refine stepD rfl F rfl (o_move (F.ev rfl) ?_); clear F; clear a; intro a F
    refine stepD rfl F rfl (o_extract (F.ev rfl) rfl ?_); clear F; clear a; intro a F
    refine stepD rfl F rfl (o_extract (F.ev rfl) rfl ?_); clear F; clear a; intro a F
    refine stepD rfl F rfl (o_assign (F.ev rfl) ?_); clear F; clear a; intro a F
    refine stepD rfl F rfl (o_assign (F.ev rfl) ?_); clear F; clear a; intro a F
    with_reducible refine l_nil ?_
    with_reducible refine q_then ?_
    with_reducible refine c_seq ?_
    with_reducible refine c_seq ?_
    with_reducible refine c_region ?_
    refine stepD rfl F rfl (o_move (F.ev rfl) ?_); clear F; clear a; intro a F
    refine stepD rfl F rfl (o_not (F.ev rfl) ?_); clear F; clear a; intro a F
    with_reducible refine l_nil ?_
    with_reducible refine q_then ?_
    refine c_true F rfl rfl ?_
    with_reducible refine c_seq ?_
    with_reducible refine c_region ?_
    refine stepD rfl F rfl (o_build F rfl rfl ?_); clear F; clear a; intro a F
    replace M := M.perm (l' := (b2, .cells [.int .u8 0, .int .u8 0, .int .u8 0, .int .u8 0, .int .u8 0, .int .u8 0, .int .u8 0, .int .u8 0, .int .u8 0, .int .u8 0, .int .u8 0, .int .u8 0, .int .u8 0, .int .u8 0, .int .u8 0, .int .u8 0].toArray 23 (0, 0)) :: ent) List.perm_append_comm
    (refine stepN rfl F (o_storeA M (F.ev rfl) (F.ev rfl) (by rfl) (by rfl) (by repeat (first | exact .here | apply Has.there)) (by rfl) (by repeat (first | exact .here | apply Upd.there)) ?_); clear F; clear M; intro w M a F)
    refine stepD rfl F rfl (o_assign (F.ev rfl) ?_); clear F; clear a; intro a F
    with_reducible refine l_nil ?_
    with_reducible refine q_then ?_
    with_reducible refine c_ret ?_
    with_reducible refine q_thenR ?_
    refine p_ret F rfl (.cons (.cell (F.ev rfl) (run_loadVar_agg TAgg.h (M.heap .here) rfl)) (.cons (.tmp (F.ev rfl)) .nil)) ⟨by rw [show parseIPV s = none from (by simp [parseIPV, hq, hf])]; rfl, M.ext⟩
  | some f =>
    rw [hf] at F hO
    simp only [Option.getD_some] at hO
    obtain ⟨hfl, hfb⟩ := groupsV_bd hf
    obtain ⟨sp, sc, rfl⟩ := hO.slice
    refine stepD rfl F rfl (o_move (F.ev rfl) ?_); clear F; clear a; intro a F
    refine stepD rfl F rfl (o_extract (F.ev rfl) rfl ?_); clear F; clear a; intro a F
    refine stepD rfl F rfl (o_extract (F.ev rfl) rfl ?_); clear F; clear a; intro a F
    refine stepD rfl F rfl (o_assign (F.ev rfl) ?_); clear F; clear a; intro a F
    refine stepD rfl F rfl (o_assign (F.ev rfl) ?_); clear F; clear a; intro a F
    with_reducible refine l_nil ?_
    with_reducible refine q_then ?_
    with_reducible refine c_seq ?_
    with_reducible refine c_seq ?_
    with_reducible refine c_region ?_
    refine stepD rfl F rfl (o_move (F.ev rfl) ?_); clear F; clear a; intro a F
    refine stepD rfl F rfl (o_not (F.ev rfl) ?_); clear F; clear a; intro a F
    with_reducible refine l_nil ?_
    with_reducible refine q_then ?_
    refine c_false F rfl rfl ?_
    with_reducible refine c_skip ?_
    with_reducible refine q_then ?_
    with_reducible refine c_seq ?_
    with_reducible refine c_region ?_
    refine stepD rfl F rfl (o_move (F.ev rfl) ?_); clear F; clear a; intro a F
    (refine stepD rfl F rfl (o_call (F.ev rfl) (F.evs rfl) (Cal.mono (parseGroups_c t1 (by omega) _ ) ?_)); clear F; clear a; rintro _ w ⟨sv2, ent2, rfl, hO2, N⟩ a F; replace M := M.joins N; clear N)
    cases hl : groupsV t1 with
    | none =>
      rw [hl] at F hO2
      refine stepD rfl F rfl (o_move (F.ev rfl) ?_); clear F; clear a; intro a F
      refine stepD rfl F rfl (o_extract (F.ev rfl) rfl ?_); clear F; clear a; intro a F
      refine stepD rfl F rfl (o_extract (F.ev rfl) rfl ?_); clear F; clear a; intro a F
      refine stepD rfl F rfl (o_assign (F.ev rfl) ?_); clear F; clear a; intro a F
      refine stepD rfl F rfl (o_assign (F.ev rfl) ?_); clear F; clear a; intro a F
      with_reducible refine l_nil ?_
      with_reducible refine q_then ?_
      with_reducible refine c_seq ?_
      with_reducible refine c_seq ?_
      with_reducible refine c_region ?_
      refine stepD rfl F rfl (o_move (F.ev rfl) ?_); clear F; clear a; intro a F
      refine stepD rfl F rfl (o_not (F.ev rfl) ?_); clear F; clear a; intro a F
      with_reducible refine l_nil ?_
      with_reducible refine q_then ?_
      refine c_true F rfl rfl ?_
      with_reducible refine c_seq ?_
      with_reducible refine c_region ?_
      refine stepD rfl F rfl (o_build F rfl rfl ?_); clear F; clear a; intro a F
      replace M := M.perm (l' := (b2, .cells [.int .u8 0, .int .u8 0, .int .u8 0, .int .u8 0, .int .u8 0, .int .u8 0, .int .u8 0, .int .u8 0, .int .u8 0, .int .u8 0, .int .u8 0, .int .u8 0, .int .u8 0, .int .u8 0, .int .u8 0, .int .u8 0].toArray 23 (0, 0)) :: (ent2 ++ ent)) (by rw [← List.append_assoc]; exact List.perm_append_comm)
      (refine stepN rfl F (o_storeA M (F.ev rfl) (F.ev rfl) (by rfl) (by rfl) (by repeat (first | exact .here | apply Has.there)) (by rfl) (by repeat (first | exact .here | apply Upd.there)) ?_); clear F; clear M; intro w M a F)
      refine stepD rfl F rfl (o_assign (F.ev rfl) ?_); clear F; clear a; intro a F
      with_reducible refine l_nil ?_
      with_reducible refine q_then ?_
      with_reducible refine c_ret ?_
      with_reducible refine q_thenR ?_
      refine p_ret F rfl (.cons (.cell (F.ev rfl) (run_loadVar_agg TAgg.h (M.heap .here) rfl)) (.cons (.tmp (F.ev rfl)) .nil)) ⟨by rw [show parseIPV s = none from (by simp [parseIPV, hq, hf, hl])]; rfl, M.ext⟩
    | some l =>
      rw [hl] at F hO2
      simp only [Option.getD_some] at hO2
      obtain ⟨hll, hlb⟩ := groupsV_bd hl
      obtain ⟨sp2, sc2, rfl⟩ := hO2.slice
      replace M := M.perm (l' := (b2, .cells [.int .u8 0, .int .u8 0, .int .u8 0, .int .u8 0, .int .u8 0, .int .u8 0, .int .u8 0, .int .u8 0, .int .u8 0, .int .u8 0, .int .u8 0, .int .u8 0, .int .u8 0, .int .u8 0, .int .u8 0, .int .u8 0].toArray 23 (0, 0)) :: (ent2 ++ ent)) (by rw [← List.append_assoc]; exact List.perm_append_comm)
      simp only [Option.isSome_some] at F
      by_cases hbad : badN short (f.length + l.length)
      · have hb2 := hbad
        rcases hb2 with ⟨rfl, h7⟩ | ⟨rfl, h8⟩
        all_goals
          repeat (first | (with_reducible refine c_seq ?_) | (with_reducible refine c_region ?_) | (with_reducible refine l_nil ?_) | (with_reducible refine q_then ?_) | (with_reducible refine c_skip ?_) | (refine c_true F rfl rfl ?_) | (refine c_false F rfl rfl ?_) | (refine stepD rfl F rfl (o_move (F.ev rfl) ?_); clear F; clear a; intro a F) | (refine stepD rfl F rfl (o_assign (F.ev rfl) ?_); clear F; clear a; intro a F) | (refine stepD rfl F rfl (o_add (F.ev rfl) (F.ev rfl) (w_i64 (by omega) (by omega)) ?_); clear F; clear a; intro a F) | (refine stepD rfl F rfl (o_not (F.ev rfl) ?_); clear F; clear a; intro a F) | (refine stepD rfl F rfl (o_pickT (F.ev rfl) (F.ev rfl) ?_); clear F; clear a; intro a F) | (refine stepD rfl F rfl (o_pickF (F.ev rfl) (F.ev rfl) ?_); clear F; clear a; intro a F) | (refine stepD rfl F rfl (o_lenSl (F.ev rfl) ?_); clear F; clear a; intro a F) | (refine stepD rfl F rfl (o_extract (F.ev rfl) rfl ?_); clear F; clear a; intro a F) | (refine stepD rfl F rfl (o_build F rfl rfl ?_); clear F; clear a; intro a F) | (refine stepOff F rfl rfl rfl rfl ?_; clear F; clear a; intro a F) | (refine stepG rfl F rfl rfl rfl (o_move (F.ev rfl) ?_); clear F; clear a; intro a F) | (refine stepG rfl F rfl rfl rfl (o_gtrT (F.ev rfl) (F.ev rfl) (by omega) ?_); clear F; clear a; intro a F) | (refine stepG rfl F rfl rfl rfl (o_neqT (F.ev rfl) (F.ev rfl) (by omega) ?_); clear F; clear a; intro a F) | (refine stepG rfl F rfl rfl rfl (o_not (F.ev rfl) ?_); clear F; clear a; intro a F) | (refine stepG rfl F rfl rfl rfl (o_pickT (F.ev rfl) (F.ev rfl) ?_); clear F; clear a; intro a F))
          (refine stepN rfl F (o_storeA M (F.ev rfl) (F.ev rfl) (by rfl) (by rfl) (by repeat (first | exact .here | apply Has.there)) (by rfl) (by repeat (first | exact .here | apply Upd.there)) ?_); clear F; clear M; intro w M a F)
          repeat (first | (with_reducible refine l_nil ?_) | (with_reducible refine q_then ?_) | (with_reducible refine c_ret ?_) | (with_reducible refine q_thenR ?_) | (refine stepD rfl F rfl (o_assign (F.ev rfl) ?_); clear F; clear a; intro a F))
          refine p_ret F rfl (.cons (.cell (F.ev rfl) (run_loadVar_agg TAgg.h (M.heap .here) rfl)) (.cons (.tmp (F.ev rfl)) .nil)) ⟨by rw [show parseIPV s = none from (by simp [parseIPV, hq, hf, hl, hbad])]; rfl, M.ext⟩
      · have hP : parseIPV s = some (rowB f l l.length) := by simp [parseIPV, hq, hf, hl, hbad]
        rw [hP]
        have hgood : (short = true ∧ f.length + l.length ≤ 7) ∨ (short = false ∧ f.length + l.length = 8) := by
          cases short
          · exact .inr ⟨rfl, Classical.byContradiction fun h => hbad (.inr ⟨rfl, h⟩)⟩
          · exact .inl ⟨rfl, Nat.le_of_not_lt fun h => hbad (.inl ⟨rfl, h⟩)⟩
        have hn8 : f.length + l.length ≤ 8 := by rcases hgood with h | h <;> omega
        clear hbad
        rcases hgood with ⟨rfl, hgd⟩ | ⟨rfl, hgd⟩
        all_goals
          repeat (first | (with_reducible refine c_seq ?_) | (with_reducible refine c_region ?_) | (with_reducible refine l_nil ?_) | (with_reducible refine q_then ?_) | (with_reducible refine c_skip ?_) | (refine c_false F rfl rfl ?_) | (refine stepD rfl F rfl (o_move (F.ev rfl) ?_); clear F; clear a; intro a F) | (refine stepD rfl F rfl (o_assign (F.ev rfl) ?_); clear F; clear a; intro a F) | (refine stepD rfl F rfl (o_add (F.ev rfl) (F.ev rfl) (w_i64 (by omega) (by omega)) ?_); clear F; clear a; intro a F) | (refine stepD rfl F rfl (o_not (F.ev rfl) ?_); clear F; clear a; intro a F) | (refine stepD rfl F rfl (o_pickT (F.ev rfl) (F.ev rfl) ?_); clear F; clear a; intro a F) | (refine stepD rfl F rfl (o_pickF (F.ev rfl) (F.ev rfl) ?_); clear F; clear a; intro a F) | (refine stepD rfl F rfl (o_lenSl (F.ev rfl) ?_); clear F; clear a; intro a F) | (refine stepD rfl F rfl (o_extract (F.ev rfl) rfl ?_); clear F; clear a; intro a F) | (refine stepOff F rfl rfl rfl rfl ?_; clear F; clear a; intro a F) | (refine stepG rfl F rfl rfl rfl (o_move (F.ev rfl) ?_); clear F; clear a; intro a F) | (refine stepG rfl F rfl rfl rfl (o_gtrF (F.ev rfl) (F.ev rfl) (by omega) ?_); clear F; clear a; intro a F) | (refine stepG rfl F rfl rfl rfl (o_neqF (F.ev rfl) (F.ev rfl) (by omega) ?_); clear F; clear a; intro a F) | (refine stepG rfl F rfl rfl rfl (o_not (F.ev rfl) ?_); clear F; clear a; intro a F) | (refine stepG rfl F rfl rfl rfl (o_pickT (F.ev rfl) (F.ev rfl) ?_); clear F; clear a; intro a F) | (refine stepG rfl F rfl rfl rfl (o_pickF (F.ev rfl) (F.ev rfl) ?_); clear F; clear a; intro a F))
          (refine stepD rfl F rfl (o_alloc M ?_); clear F; clear M; intro b11 w M a F)
          repeat (first | (with_reducible refine c_seq ?_) | (with_reducible refine c_region ?_) | (with_reducible refine l_nil ?_) | (with_reducible refine q_then ?_) | (with_reducible refine c_block ?_) | (refine stepD rfl F rfl (o_move (F.ev rfl) ?_); clear F; clear a; intro a F) | (refine stepD rfl F rfl (o_lenSl (F.ev rfl) ?_); clear F; clear a; intro a F))
          replace M := M.perm (l' := (b11, .cells [.int .u8 0, .int .u8 0, .int .u8 0, .int .u8 0, .int .u8 0, .int .u8 0, .int .u8 0, .int .u8 0, .int .u8 0, .int .u8 0, .int .u8 0, .int .u8 0, .int .u8 0, .int .u8 0, .int .u8 0, .int .u8 0].toArray 23 (0, 0)) :: (b2, .cells [.int .u8 0, .int .u8 0, .int .u8 0, .int .u8 0, .int .u8 0, .int .u8 0, .int .u8 0, .int .u8 0, .int .u8 0, .int .u8 0, .int .u8 0, .int .u8 0, .int .u8 0, .int .u8 0, .int .u8 0, .int .u8 0].toArray 23 (0, 0)) :: (ent ++ ent2)) (List.Perm.append_left [_, _] List.perm_append_comm)
          refine c_loop (fun k a w => ∃ i : Nat, k = f.length - i ∧ i ≤ f.length ∧ Frm a 104 [] [(60, .int .i64 i), (59, .int .i64 f.length), (58, .slice sp f.length sc), (11, .pointer (some ⟨b11, 0, none⟩)), (9, .slice sp2 l.length sc2), (2, .pointer (some ⟨b2, 0, none⟩))] ∧
            Mem [] W w ((b11, .cells (ipC (rowA f i)).toArray 23 (0, 0)) :: (b2, .cells [.int .u8 0, .int .u8 0, .int .u8 0, .int .u8 0, .int .u8 0, .int .u8 0, .int .u8 0, .int .u8 0, .int .u8 0, .int .u8 0, .int .u8 0, .int .u8 0, .int .u8 0, .int .u8 0, .int .u8 0, .int .u8 0].toArray 23 (0, 0)) :: (ent ++ ent2))) f.length ⟨0, rfl, by omega, F.only [60, 59, 58, 11, 9, 2] rfl, M⟩ ?_
          clear F M
          rintro k a w ⟨i, hk, hi, F, M⟩
          by_cases hlt : i < f.length
          · rcases hO with ⟨_, h0, _, _⟩ | ⟨bf, capf, junkf, hv, rfl, hxl, hjl, hcc⟩
            · omega
            cases hv
            have hgi := hfb _ (List.getElem_mem hlt)
            have hgd2 : f.getD i 0 = f[i] := by simp [hlt]
            rw [← hgd2] at hgi
            clear hgd2
            repeat (first | (with_reducible refine c_seq ?_) | (with_reducible refine c_region ?_) | (with_reducible refine l_nil ?_) | (with_reducible refine q_then ?_) | (with_reducible refine c_block ?_) | (with_reducible refine c_skip ?_) | (refine c_true F rfl rfl ?_) | (refine stepD rfl F rfl (o_move (F.ev rfl) ?_); clear F; clear a; intro a F) | (refine stepD rfl F rfl (o_lssT (F.ev rfl) (F.ev rfl) (by omega) ?_); clear F; clear a; intro a F) | (refine stepD rfl F rfl (o_indexSl (F.ev rfl) (F.ev rfl) (by omega) (by omega) ?_); clear F; clear a; intro a F))
            (refine stepD rfl F rfl (o_load1 M (F.ev rfl) (by repeat (first | exact .here | apply Has.there)) (nth_own (i := i) (xs := f) hlt) ?_); clear F; clear a; intro a F)
            repeat (first | (with_reducible refine c_region ?_) | (with_reducible refine l_nil ?_) | (with_reducible refine q_then ?_) | (refine stepD rfl F rfl (o_move (F.ev rfl) ?_); clear F; clear a; intro a F) | (refine stepD rfl F rfl (o_assign (F.ev rfl) ?_); clear F; clear a; intro a F) | (refine stepD rfl F rfl (o_add (F.ev rfl) (F.ev rfl) (w_i64 (by omega) (by omega)) ?_); clear F; clear a; intro a F) | (refine stepD rfl F rfl (o_mul (F.ev rfl) (F.ev rfl) (w_i64 (by omega) (by omega)) ?_); clear F; clear a; intro a F) | (refine stepD rfl F rfl (o_shr (F.ev rfl) (F.ev rfl) (by omega) rfl ?_); clear F; clear a; intro a F) | (refine stepD rfl F rfl (o_conv (F.ev rfl) rfl ?_); clear F; clear a; intro a F) | (refine stepD rfl F rfl (o_indexArr (F.ev rfl) (F.ev rfl) (by omega) (by omega) ?_); clear F; clear a; intro a F))
            (refine stepN rfl F (o_store1 M (F.ev rfl) (F.ev rfl) rfl (by repeat (first | exact .here | apply Has.there)) (put1 (q := 2 * i) _ (by omega) (by simp [length_ipC, rowA]; omega)) (by repeat (first | exact .here | apply Upd.there)) ?_); clear F; clear M; intro w M a F)
            repeat (first | (refine stepD rfl F rfl (o_indexArr (F.ev rfl) (F.ev rfl) (by omega) (by omega) ?_); clear F; clear a; intro a F))
            (refine stepN rfl F (o_store1 M (F.ev rfl) (F.ev rfl) rfl (by repeat (first | exact .here | apply Has.there)) (put1 (q := 2 * i + 1) _ (by omega) (by simp [length_ipC, rowA]; omega)) (by repeat (first | exact .here | apply Upd.there)) ?_); clear F; clear M; intro w M a F)
            rw [hiB hgi.1 hgi.2, loB hgi.1, ← byteOf_even, ← byteOf_odd, ← ipC_set, ← ipC_set, rowA_step (by omega)] at M
            repeat (first | (with_reducible refine c_region ?_) | (with_reducible refine l_nil ?_) | (with_reducible refine q_then ?_) | (with_reducible refine q_inB ?_) | (refine stepD rfl F rfl (o_move (F.ev rfl) ?_); clear F; clear a; intro a F) | (refine stepD rfl F rfl (o_add (F.ev rfl) (F.ev rfl) (w_i64 (by omega) (by omega)) ?_); clear F; clear a; intro a F))
            exact ⟨_, by omega, i + 1, rfl, by omega, F.only [60, 59, 58, 11, 9, 2] rfl, M⟩
          · obtain rfl : i = f.length := by omega
            rw [rowA_B f l] at M
            replace M := M.perm (l' := (b11, .cells (ipC (rowB f l 0)).toArray 23 (0, 0)) :: (b2, .cells [.int .u8 0, .int .u8 0, .int .u8 0, .int .u8 0, .int .u8 0, .int .u8 0, .int .u8 0, .int .u8 0, .int .u8 0, .int .u8 0, .int .u8 0, .int .u8 0, .int .u8 0, .int .u8 0, .int .u8 0, .int .u8 0].toArray 23 (0, 0)) :: (ent2 ++ ent)) (List.Perm.append_left [_, _] List.perm_append_comm)
            repeat (first | (with_reducible refine c_seq ?_) | (with_reducible refine c_region ?_) | (with_reducible refine l_nil ?_) | (with_reducible refine q_then ?_) | (with_reducible refine c_block ?_) | (with_reducible refine c_exit ?_) | (with_reducible refine q_thenX ?_) | (with_reducible refine q_inBX ?_) | (refine c_false F rfl rfl ?_) | (refine stepD rfl F rfl (o_move (F.ev rfl) ?_); clear F; clear a; intro a F) | (refine stepD rfl F rfl (o_lssF (F.ev rfl) (F.ev rfl) (by omega) ?_); clear F; clear a; intro a F) | (refine stepD rfl F rfl (o_lenSl (F.ev rfl) ?_); clear F; clear a; intro a F))
            refine c_loop (fun k a w => ∃ i : Nat, k = l.length - i ∧ i ≤ l.length ∧ Frm a 104 [] [(80, .int .i64 i), (79, .int .i64 l.length), (78, .slice sp2 l.length sc2), (11, .pointer (some ⟨b11, 0, none⟩)), (9, .slice sp2 l.length sc2), (2, .pointer (some ⟨b2, 0, none⟩))] ∧
              Mem [] W w ((b11, .cells (ipC (rowB f l i)).toArray 23 (0, 0)) :: (b2, .cells [.int .u8 0, .int .u8 0, .int .u8 0, .int .u8 0, .int .u8 0, .int .u8 0, .int .u8 0, .int .u8 0, .int .u8 0, .int .u8 0, .int .u8 0, .int .u8 0, .int .u8 0, .int .u8 0, .int .u8 0, .int .u8 0].toArray 23 (0, 0)) :: (ent2 ++ ent))) l.length ⟨0, rfl, by omega, F.only [80, 79, 78, 11, 9, 2] rfl, M⟩ ?_
            clear F M hk hi hlt
            rintro k a w ⟨i, hk, hi, F, M⟩
            by_cases hlt : i < l.length
            · rcases hO2 with ⟨_, h0, _, _⟩ | ⟨bf, capf, junkf, hv, rfl, hxl, hjl, hcc⟩
              · omega
              cases hv
              have hgi := hlb _ (List.getElem_mem hlt)
              have hgd2 : l.getD i 0 = l[i] := by simp [hlt]
              rw [← hgd2] at hgi
              clear hgd2
              repeat (first | (with_reducible refine c_seq ?_) | (with_reducible refine c_region ?_) | (with_reducible refine l_nil ?_) | (with_reducible refine q_then ?_) | (with_reducible refine c_block ?_) | (with_reducible refine c_skip ?_) | (refine c_true F rfl rfl ?_) | (refine stepD rfl F rfl (o_move (F.ev rfl) ?_); clear F; clear a; intro a F) | (refine stepD rfl F rfl (o_lssT (F.ev rfl) (F.ev rfl) (by omega) ?_); clear F; clear a; intro a F) | (refine stepD rfl F rfl (o_indexSl (F.ev rfl) (F.ev rfl) (by omega) (by omega) ?_); clear F; clear a; intro a F))
              (refine stepD rfl F rfl (o_load1 M (F.ev rfl) (by repeat (first | exact .here | apply Has.there)) (nth_own (i := i) (xs := l) hlt) ?_); clear F; clear a; intro a F)
              repeat (first | (with_reducible refine c_seq ?_) | (with_reducible refine c_region ?_) | (with_reducible refine l_nil ?_) | (with_reducible refine q_then ?_) | (refine stepD rfl F rfl (o_move (F.ev rfl) ?_); clear F; clear a; intro a F) | (refine stepD rfl F rfl (o_assign (F.ev rfl) ?_); clear F; clear a; intro a F) | (refine stepD rfl F rfl (o_add (F.ev rfl) (F.ev rfl) (w_i64 (by omega) (by omega)) ?_); clear F; clear a; intro a F) | (refine stepD rfl F rfl (o_sub (F.ev rfl) (F.ev rfl) (w_i64 (by omega) (by omega)) ?_); clear F; clear a; intro a F) | (refine stepD rfl F rfl (o_mul (F.ev rfl) (F.ev rfl) (w_i64 (by omega) (by omega)) ?_); clear F; clear a; intro a F) | (refine stepD rfl F rfl (o_shr (F.ev rfl) (F.ev rfl) (by omega) rfl ?_); clear F; clear a; intro a F) | (refine stepD rfl F rfl (o_conv (F.ev rfl) rfl ?_); clear F; clear a; intro a F) | (refine stepD rfl F rfl (o_lenSl (F.ev rfl) ?_); clear F; clear a; intro a F) | (refine stepD rfl F rfl (o_indexArr (F.ev rfl) (F.ev rfl) (by omega) (by omega) ?_); clear F; clear a; intro a F))
              (refine stepN rfl F (o_store1 M (F.ev rfl) (F.ev rfl) rfl (by repeat (first | exact .here | apply Has.there)) (put1 (q := 16 - 2 * l.length + 2 * i) _ (by omega) (by simp [length_ipC, rowB]; omega)) (by repeat (first | exact .here | apply Upd.there)) ?_); clear F; clear M; intro w M a F)
              repeat (first | (refine stepD rfl F rfl (o_indexArr (F.ev rfl) (F.ev rfl) (by omega) (by omega) ?_); clear F; clear a; intro a F))
              (refine stepN rfl F (o_store1 M (F.ev rfl) (F.ev rfl) rfl (by repeat (first | exact .here | apply Has.there)) (put1 (q := 16 - 2 * l.length + 2 * i + 1) _ (by omega) (by simp [length_ipC, rowB]; omega)) (by repeat (first | exact .here | apply Upd.there)) ?_); clear F; clear M; intro w M a F)
              rw [hiB hgi.1 hgi.2, loB hgi.1, ← byteOf_even, ← byteOf_odd, ← ipC_set, ← ipC_set, rowB_step hn8 hlt] at M
              repeat (first | (with_reducible refine c_region ?_) | (with_reducible refine l_nil ?_) | (with_reducible refine q_then ?_) | (with_reducible refine q_inB ?_) | (refine stepD rfl F rfl (o_move (F.ev rfl) ?_); clear F; clear a; intro a F) | (refine stepD rfl F rfl (o_add (F.ev rfl) (F.ev rfl) (w_i64 (by omega) (by omega)) ?_); clear F; clear a; intro a F))
              exact ⟨_, by omega, i + 1, rfl, by omega, F.only [80, 79, 78, 11, 9, 2] rfl, M⟩
            · obtain rfl : i = l.length := by omega
              have hseg : seg (ipC (rowB f l l.length)) 0 16 = some (ipC (rowB f l l.length)) := by
                have h1 := seg_of [] (ipC (rowB f l l.length)) []
                rw [show (ipC (rowB f l l.length)).length = 16 by simp [length_ipC, rowB]] at h1
                simpa using h1
              repeat (first | (with_reducible refine c_seq ?_) | (with_reducible refine c_region ?_) | (with_reducible refine l_nil ?_) | (with_reducible refine q_then ?_) | (with_reducible refine c_exit ?_) | (with_reducible refine q_thenX ?_) | (with_reducible refine q_inBX ?_) | (refine c_false F rfl rfl ?_) | (refine stepD rfl F rfl (o_lssF (F.ev rfl) (F.ev rfl) (by omega) ?_); clear F; clear a; intro a F) | (refine stepD rfl F rfl (o_loadA M (F.ev rfl) (by repeat (first | exact .here | apply Has.there)) (by first | assumption | rfl) ?_); clear F; clear a; intro a F))
              (refine stepN rfl F (o_storeA M (F.ev rfl) (F.ev rfl) (by rfl) (by rfl) (by repeat (first | exact .here | apply Has.there)) (by rfl) (by repeat (first | exact .here | apply Upd.there)) ?_); clear F; clear M; intro w M a F)
              repeat (first | (with_reducible refine l_nil ?_) | (with_reducible refine q_then ?_) | (with_reducible refine c_ret ?_) | (refine stepD rfl F rfl (o_assign (F.ev rfl) ?_); clear F; clear a; intro a F))
              refine p_ret F rfl (.cons (.cell (F.ev rfl) (run_loadVar_agg TAgg.h (M.heap (.there .here)) rfl)) (.cons (.tmp (F.ev rfl)) .nil)) ⟨rfl, M.ext⟩
end Go.Proofs.YtadnpidadcgdcaaDoor

/-! P6 -/
/-
  address.groups, its iterator, address.zeros.
-/
namespace Go.Proofs.YtadnpidadcgdcaaDoor
set_option linter.unusedVariables false
set_option linter.unusedSimpArgs false
open Go.RowKit
attribute [local irreducible] OpTo wpListIn Code.wpIn MW Cal

structure IsIP (ip : List Int) : Prop where
  len : ip.length = 16
  bd : ∀ x ∈ ip, 0 ≤ x ∧ x < 256
theorem IsIP.at_ {ip : List Int} (h : IsIP ip) (i : Nat) : 0 ≤ ip.getD i 0 ∧ ip.getD i 0 < 256 := by
  rcases Nat.lt_or_ge i ip.length with hl | hl
  · rw [List.getD_eq_getElem?_getD, List.getElem?_eq_getElem hl]; exact h.bd _ (List.getElem_mem hl)
  · rw [List.getD_eq_getElem?_getD, List.getElem?_eq_none hl]; simp
/-- the group i -/
def grpAt (ip : List Int) (i : Nat) : Int := ip.getD (2 * i) 0 * 256 + ip.getD (2 * i + 1) 0
def grps (ip : List Int) : List (Nat × Int) := (List.range 8).map fun i => (i, grpAt ip i)
theorem IsIP.grp {ip : List Int} (h : IsIP ip) (i : Nat) : 0 ≤ grpAt ip i ∧ grpAt ip i < 65536 := by
  have h1 := h.at_ (2 * i)
  have h2 := h.at_ (2 * i + 1)
  unfold grpAt; omega
theorem grps_take {ip : List Int} {i : Nat} (h : i < 8) : (grps ip).take i ++ [(i, grpAt ip i)] = (grps ip).take (i + 1) := by
  rw [List.take_add_one]
  congr 1
  simp [grps, h]

set_option maxHeartbeats 400000 in
theorem groups_c (ip : List Int) (h : IsIP ip) (W : World) : Cal Tryd.prog 62 [.agg (ipC ip).toArray].toArray W fun v w' => ∃ b1, v = .func (.func 84) #[] [Value.pointer (some ⟨b1, 0, none⟩)].toArray ∧ Mem [] W w' [(b1, .cells (ipC ip).toArray 23 (0, 0))] := by
  refine fn_ofM (n := 4) [] Tryd.func62 rfl rfl rfl ?_
  intro a w F M hwW
  refine c_seq ?_
  refine c_region ?_
  (refine stepD rfl F rfl (o_box M (F.ev rfl) rfl ?_); clear F; clear M; intro b1 w M a F)
  refine stepD rfl F rfl (o_assign (F.ev rfl) ?_); clear F; clear a; intro a F
  with_reducible refine l_nil ?_
  with_reducible refine q_then ?_
  with_reducible refine c_seq ?_
  with_reducible refine c_region ?_
  (refine stepD rfl F rfl (o_makeFunc (F.evs (xs := []) rfl) (F.evs (xs := [.tmp 1]) rfl) ?_); clear F; clear a; intro a F)
  refine stepD rfl F rfl (o_assign (F.ev rfl) ?_); clear F; clear a; intro a F
  with_reducible refine l_nil ?_
  with_reducible refine q_then ?_
  with_reducible refine c_ret ?_
  refine p_ret F rfl (.cons (.tmp (F.ev rfl)) .nil) ?_
  exact ⟨b1, rfl, M⟩

theorem nth_ip2 {ip : List Int} (h : IsIP ip) {i n : Nat} (hi : i < 16) (hn : n = i) : nth (ipC ip) n = some (.int .u8 (ip.getD i 0)) := by
  subst hn
  have := h.len
  rw [nth_spec]; simp [ipC, List.getElem?_eq_getElem (show n < ip.length by omega)]
theorem shl8or {g d : Int} (h0 : 0 ≤ g) (h1 : g < 256) (d0 : 0 ≤ d) (d1 : d < 256) : bitsOf .or .u16 (IntKind.u16.wrap (g * 2 ^ min (Int.toNat 8) IntKind.u16.bits)) d = g * 256 + d := by
  obtain ⟨q, rfl⟩ := Int.eq_ofNat_of_zero_le h0
  obtain ⟨n, rfl⟩ := Int.eq_ofNat_of_zero_le d0
  have e : IntKind.u16.wrap ((q : Int) * 2 ^ min (Int.toNat 8) IntKind.u16.bits) = ((2 ^ 8 * q : Nat) : Int) := by
    have : ((q : Int) * 2 ^ min (Int.toNat 8) IntKind.u16.bits) = ((2 ^ 8 * q : Nat) : Int) := by
      show (q : Int) * 256 = _
      omega
    rw [this]
    exact wrap_u rfl (show 2 ^ 8 * q < 65536 by omega)
  rw [e, or_add (k := .u16) rfl 8 q n (by omega) (show 2 ^ 8 * q + n < 65536 by omega)]
  omega

set_option maxHeartbeats 1000000 in
theorem groups_iter (ip : List Int) (h : IsIP ip) (b1 : Nat) : Iter Tryd.prog 84 [.pointer (some ⟨b1, 0, none⟩)] (fun x : Nat × Int => [.int .i64 x.1, .int .u16 x.2]) (fun pre x => (pre ++ [x]) <+: grps ip)
    [(b1, .cells (ipC ip).toArray 23 (0, 0))] (fun xs => xs = grps ip) := by
  intro L S W0 w Inv InvX l hY h0 M0
  have M := M0.perm List.perm_append_comm
  clear M0
  refine fn_of (n := 25) Tryd.func84 rfl rfl rfl ?_
  intro a F
  with_reducible refine c_seq ?_
  with_reducible refine c_region ?_
  refine stepD rfl F rfl (o_move (F.ev rfl) ?_); clear F; clear a; intro a F
  with_reducible refine l_nil ?_
  with_reducible refine q_then ?_
  with_reducible refine c_block ?_
  refine c_loop (fun k a w => ∃ (i : Nat) (l : List (Nat × Obj)), k = 8 - i ∧ i ≤ 8 ∧ Inv ((grps ip).take i) l ∧ Frm a 25 [] [(4, .int .i64 i), (0, .func (.yield L) #[] #[]), (1, .pointer (some ⟨b1, 0, none⟩))] ∧
      Mem S W0 w ((b1, .cells (ipC ip).toArray 23 (0, 0)) :: l)) 8 ⟨0, l, rfl, by omega, h0, F.only [4, 0, 1] rfl, M⟩ ?_
  clear F M h0 l
  rintro k a w ⟨i, l, hk, hi8, hI, F, M⟩
  by_cases hlt : i < 8
  · have hb0 := h.at_ (2 * i)
    have hb1 := h.at_ (2 * i + 1)
    with_reducible refine c_seq ?_
    with_reducible refine c_region ?_
    refine stepD rfl F rfl (o_lssT (F.ev rfl) (F.ev rfl) (by omega) ?_); clear F; clear a; intro a F
    with_reducible refine l_nil ?_
    with_reducible refine q_then ?_
    with_reducible refine c_seq ?_
    refine c_true F rfl rfl ?_
    with_reducible refine c_skip ?_
    with_reducible refine q_then ?_
    with_reducible refine c_seq ?_
    with_reducible refine c_block ?_
    with_reducible refine c_seq ?_
    with_reducible refine c_region ?_
    refine stepD rfl F rfl (o_move (F.ev rfl) ?_); clear F; clear a; intro a F
    refine stepD rfl F rfl (o_assign (F.ev rfl) ?_); clear F; clear a; intro a F
    with_reducible refine l_nil ?_
    with_reducible refine q_then ?_
    with_reducible refine c_seq ?_
    refine c_draw 15 F (by kernel_rfl) ?_
    intro w1 hE hok
    have M1 := M.later hE
    refine mK hok rfl rfl (fun a' w' F' E' => o_move (F'.ev rfl) ⟨Ext.refl _ _, rfl⟩) ?_
    refine mK hok rfl rfl (fun a' w' F' E' => o_move (F'.ev rfl) ⟨Ext.refl _ _, rfl⟩) ?_
    refine mK hok rfl rfl (fun a' w' F' E' => o_move (F'.ev rfl) ⟨Ext.refl _ _, rfl⟩) ?_
    refine mK hok rfl rfl (fun a' w' F' E' => o_mul (F'.ev rfl) (F'.ev rfl) (w_i64 (by omega) (by omega)) ⟨Ext.refl _ _, rfl⟩) ?_
    refine mK hok rfl rfl (fun a' w' F' E' => o_indexArr (F'.ev rfl) (F'.ev rfl) (by omega) (by omega) ⟨Ext.refl _ _, rfl⟩) ?_
    (refine mK hok rfl rfl (fun a' w' F' E' => o_load1 (M1.later E') (F'.ev rfl) (by repeat (first | exact .here | apply Has.there)) (nth_ip2 h (i := 2 * i) (by omega) (by omega)) ⟨Ext.refl _ _, rfl⟩) ?_)
    refine mK hok rfl rfl (fun a' w' F' E' => o_conv (F'.ev rfl) (w_u16 (by omega) (by omega)) ⟨Ext.refl _ _, rfl⟩) ?_
    refine mK hok rfl rfl (fun a' w' F' E' => o_shl (F'.ev rfl) (F'.ev rfl) (by omega) rfl ⟨Ext.refl _ _, rfl⟩) ?_
    refine mK hok rfl rfl (fun a' w' F' E' => o_move (F'.ev rfl) ⟨Ext.refl _ _, rfl⟩) ?_
    refine mK hok rfl rfl (fun a' w' F' E' => o_mul (F'.ev rfl) (F'.ev rfl) (w_i64 (by omega) (by omega)) ⟨Ext.refl _ _, rfl⟩) ?_
    refine mK hok rfl rfl (fun a' w' F' E' => o_add (F'.ev rfl) (F'.ev rfl) (w_i64 (by omega) (by omega)) ⟨Ext.refl _ _, rfl⟩) ?_
    refine mK hok rfl rfl (fun a' w' F' E' => o_indexArr (F'.ev rfl) (F'.ev rfl) (by omega) (by omega) ⟨Ext.refl _ _, rfl⟩) ?_
    (refine mK hok rfl rfl (fun a' w' F' E' => o_load1 (M1.later E') (F'.ev rfl) (by repeat (first | exact .here | apply Has.there)) (nth_ip2 h (i := 2 * i + 1) (by omega) (by omega)) ⟨Ext.refl _ _, rfl⟩) ?_)
    refine mK hok rfl rfl (fun a' w' F' E' => o_conv (F'.ev rfl) (w_u16 (by omega) (by omega)) ⟨Ext.refl _ _, rfl⟩) ?_
    refine mK hok rfl rfl (fun a' w' F' E' => o_or (F'.ev rfl) (F'.ev rfl) rfl ⟨Ext.refl _ _, rfl⟩) ?_
    (refine mDone rfl rfl ?_; clear F; clear M; intro a w F hE2 hX hTT hDD hPP; have M := M1.later hE2; clear M1; clear hX; clear hE2; clear hok; clear hE; clear hTT; clear hDD; clear hPP; (try dsimp only at F))
    rw [shl8or hb0.1 hb0.2 hb1.1 hb1.2] at F
    have M' := M.perm (l' := l ++ [(b1, .cells (ipC ip).toArray 23 (0, 0))]) (List.perm_append_comm (l₁ := [_]))
    (refine stepD rfl F rfl (o_yield (F.ev rfl) (F.evs rfl) ((hY ((grps ip).take i) (i, grpAt ip i) l w _ (by show _ ++ [_] <+: _; rw [grps_take hlt]; exact List.take_prefix _ _) hI M').mono ?_)); clear F; clear a)
    rintro v w2 ⟨l2, M2, hor⟩ a F
    rcases hor with ⟨rfl, h1⟩ | ⟨rfl, h1⟩
    · replace M := M2.perm List.perm_append_comm
      clear M2 M'
      refine stepD rfl F rfl (o_not (F.ev rfl) ?_); clear F; clear a; intro a F
      with_reducible refine l_nil ?_
      with_reducible refine q_then ?_
      refine c_false F rfl rfl ?_
      with_reducible refine c_skip ?_
      with_reducible refine q_inB ?_
      with_reducible refine q_then ?_
      with_reducible refine c_region ?_
      refine stepD rfl F rfl (o_add (F.ev rfl) (F.ev rfl) (w_i64 (by omega) (by omega)) ?_); clear F; clear a; intro a F
      refine stepD rfl F rfl (o_move (F.ev rfl) ?_); clear F; clear a; intro a F
      with_reducible refine l_nil ?_
      with_reducible refine q_then ?_
      exact ⟨_, by omega, i + 1, l2, rfl, by omega, by rw [grps_take hlt] at h1; exact h1, F.only [4, 0, 1] rfl, M⟩
    · refine stepD rfl F rfl (o_not (F.ev rfl) ?_); clear F; clear a; intro a F
      with_reducible refine l_nil ?_
      with_reducible refine q_then ?_
      refine c_true F rfl rfl ?_
      with_reducible refine c_ret ?_
      with_reducible refine q_inBR ?_
      with_reducible refine q_thenR ?_
      with_reducible refine q_thenR ?_
      with_reducible refine q_inBR ?_
      refine p_ret F rfl .nil ?_
      exact ⟨l2, _, M2, .inr ⟨_, h1⟩⟩
  · obtain rfl : i = 8 := by omega
    with_reducible refine c_seq ?_
    with_reducible refine c_region ?_
    refine stepD rfl F rfl (o_lssF (F.ev rfl) (F.ev rfl) (by omega) ?_); clear F; clear a; intro a F
    with_reducible refine l_nil ?_
    with_reducible refine q_then ?_
    with_reducible refine c_seq ?_
    refine c_false F rfl rfl ?_
    with_reducible refine c_exit ?_
    with_reducible refine q_thenX ?_
    with_reducible refine q_thenX ?_
    with_reducible refine q_inBX ?_
    refine p_ret F rfl .nil ?_
    exact ⟨l, _, M.perm (List.perm_append_comm (l₁ := [_])), .inl ⟨_, List.take_of_length_le (by simp [grps]), hI⟩⟩

/-- one group more: the beginning, the length, the present run -/
def zstep (s : Nat × Nat × Nat) (x : Nat × Int) : Nat × Nat × Nat :=
  if x.2 ≠ 0 then (s.1, s.2.1, 0) else if s.2.2 + 1 > s.2.1 then (x.1 + 1 - (s.2.2 + 1), s.2.2 + 1, s.2.2 + 1) else (s.1, s.2.1, s.2.2 + 1)
def zall (xs : List (Nat × Int)) : Nat × Nat × Nat := xs.foldl zstep (0, 0, 0)
theorem pre_at {ip : List Int} {pre : List (Nat × Int)} {x : Nat × Int} (h : (pre ++ [x]) <+: grps ip) : x.1 = pre.length ∧ pre.length < 8 ∧ x.2 = grpAt ip pre.length := by
  obtain ⟨suf, hs⟩ := h
  have hl : pre.length < 8 := by
    have := congrArg List.length hs
    simp [grps] at this; omega
  have h1 : (grps ip)[pre.length]? = some x := by rw [← hs]; simp
  have h2 : (grps ip)[pre.length]? = some (pre.length, grpAt ip pre.length) := by simp [grps, hl]
  rw [h2] at h1
  cases h1
  exact ⟨rfl, hl, rfl⟩

set_option maxHeartbeats 1000000 in
theorem zeros_c (ip : List Int) (h : IsIP ip) (W : World) : Cal Tryd.prog 61 [.agg (ipC ip).toArray].toArray W fun v w' => v = .tuple #[.int .i64 (zall (grps ip)).1, .int .i64 (zall (grps ip)).2.1] ∧ Ext [] W w' := by
  have hl16 : (ipC ip).length = 16 := by rw [length_ipC, h.len]
  have hseg : seg (ipC ip) 0 16 = some (ipC ip) := by
    have h1 := seg_of [] (ipC ip) []
    rw [hl16] at h1
    simpa using h1
  refine fn_ofM (n := 27) [] Tryd.func61 rfl rfl rfl ?_
  intro a w F M hwW
  refine c_seq ?_
  refine c_region ?_
  (refine stepD rfl F rfl (o_box M (F.ev rfl) rfl ?_); clear F; clear M; intro b1 w M a F)
  refine stepD rfl F rfl (o_assign (F.ev rfl) ?_); clear F; clear a; intro a F
  refine stepD rfl F rfl (o_assign (F.ev rfl) ?_); clear F; clear a; intro a F
  with_reducible refine l_nil ?_
  with_reducible refine q_then ?_
  with_reducible refine c_seq ?_
  with_reducible refine c_region ?_
  (refine stepD rfl F rfl (o_alloc M ?_); clear F; clear M; intro b4 w M a F)
  (refine stepD rfl F rfl (o_alloc M ?_); clear F; clear M; intro b5 w M a F)
  (refine stepD rfl F rfl (o_alloc M ?_); clear F; clear M; intro b6 w M a F)
  (refine stepN rfl F (o_store1 M (F.ev rfl) (F.ev rfl) rfl (by repeat (first | exact .here | apply Has.there)) (by rfl) (by repeat (first | exact .here | apply Upd.there)) ?_); clear F; clear M; intro w M a F)
  (refine stepN rfl F (o_store1 M (F.ev rfl) (F.ev rfl) rfl (by repeat (first | exact .here | apply Has.there)) (by rfl) (by repeat (first | exact .here | apply Upd.there)) ?_); clear F; clear M; intro w M a F)
  (refine stepN rfl F (o_store1 M (F.ev rfl) (F.ev rfl) rfl (by repeat (first | exact .here | apply Has.there)) (by rfl) (by repeat (first | exact .here | apply Upd.there)) ?_); clear F; clear M; intro w M a F)
  with_reducible refine l_nil ?_
  with_reducible refine q_then ?_
  with_reducible refine c_seq ?_
  with_reducible refine c_seq ?_
  with_reducible refine c_region ?_
  refine stepD rfl F rfl (o_loadA M (F.ev rfl) (by repeat (first | exact .here | apply Has.there)) (by first | assumption | rfl) ?_); clear F; clear a; intro a F
  (refine stepD rfl F rfl (o_call (F.ev rfl) (F.evs rfl) (Cal.mono (groups_c ip h _ ) ?_)); clear F; clear a; rintro _ w ⟨c1, rfl, N⟩ a F; replace M := M.joins N; clear N)
  with_reducible refine l_nil ?_
  with_reducible refine q_then ?_
  with_reducible refine c_block ?_
  replace F := F.only [10, 6, 5, 4] rfl
  replace M := (M.perm (l' := [(b6, .cells [.int .i64 0].toArray 3 (0, 0)), (b5, .cells [.int .i64 0].toArray 3 (0, 0)), (b4, .cells [.int .i64 0].toArray 3 (0, 0))] ++ ([(b1, .cells (ipC ip).toArray 23 (0, 0))] ++ [(c1, .cells (ipC ip).toArray 23 (0, 0))])) (by rw [← List.append_assoc]; exact List.perm_append_comm)).sub (l' := [(b6, .cells [.int .i64 0].toArray 3 (0, 0)), (b5, .cells [.int .i64 0].toArray 3 (0, 0)), (b4, .cells [.int .i64 0].toArray 3 (0, 0))] ++ [(c1, .cells (ipC ip).toArray 23 (0, 0))]) (List.Sublist.append_left (List.sublist_append_right _ _) _)
  refine c_range (α := Nat × Int) (ps := [11, 12]) F M rfl (groups_iter ip h c1) (fun _ => rfl) rfl
    (fun pre l => (zall pre).1 ≤ pre.length ∧ (zall pre).2.1 ≤ pre.length ∧ (zall pre).2.2 ≤ pre.length ∧ l = [(b6, .cells [.int .i64 (zall pre).2.2].toArray 3 (0, 0)), (b5, .cells [.int .i64 (zall pre).2.1].toArray 3 (0, 0)), (b4, .cells [.int .i64 (zall pre).1].toArray 3 (0, 0))])
    (fun _ _ _ => False) ⟨Nat.le_refl _, Nat.le_refl _, Nat.le_refl _, rfl⟩ ?round ?done ?stop
  case round =>
    clear F M
    rintro L pre x _ w p a hok ⟨hz1, hz2, hz3, rfl⟩ M F
    obtain ⟨hx1, hp8, hx2⟩ := pre_at hok
    with_reducible refine c_seq ?_
    with_reducible refine c_region ?_
    refine stepD rfl F rfl (o_assign (F.ev rfl) ?_); clear F; clear a; intro a F
    with_reducible refine l_nil ?_
    with_reducible refine q_then ?_
    with_reducible refine c_region ?_
    refine stepD rfl F rfl (o_assign (F.ev rfl) ?_); clear F; clear a; intro a F
    with_reducible refine l_nil ?_
    with_reducible refine q_then ?_
    refine ⟨_, M, ?_⟩
    clear M
    intro w p M
    have hz : zall (pre ++ [x]) = zstep (zall pre) x := by simp [zall]
    generalize zall pre = z at *
    obtain ⟨z1, z2, z3⟩ := z
    obtain ⟨x1, x2⟩ := x
    dsimp only at *
    subst hx1
    by_cases hg : x2 = 0
    · subst hg
      have hcond : ((0 : Int) != 0) = false := rfl
      by_cases hr : z3 + 1 > z2
      · have hz' : zall (pre ++ [(pre.length, 0)]) = (pre.length + 1 - (z3 + 1), z3 + 1, z3 + 1) := by rw [hz]; simp [zstep, hr]
        with_reducible refine c_block ?_
        with_reducible refine c_seq ?_
        with_reducible refine c_seq ?_
        with_reducible refine c_region ?_
        refine stepD rfl F rfl (o_move (F.ev rfl) ?_); clear F; clear a; intro a F
        refine stepD rfl F rfl (o_neqF (F.ev rfl) (F.ev rfl) (by omega) ?_); clear F; clear a; intro a F
        with_reducible refine l_nil ?_
        with_reducible refine q_then ?_
        refine c_false F rfl rfl ?_
        with_reducible refine c_skip ?_
        with_reducible refine q_then ?_
        with_reducible refine c_seq ?_
        with_reducible refine c_region ?_
        refine stepD rfl F rfl (o_load1 M (F.ev rfl) (by repeat (first | exact .here | apply Has.there)) (by first | assumption | rfl) ?_); clear F; clear a; intro a F
        refine stepD rfl F rfl (o_add (F.ev rfl) (F.ev rfl) (w_i64 (by omega) (by omega)) ?_); clear F; clear a; intro a F
        (refine stepN rfl F (o_store1 M (F.ev rfl) (F.ev rfl) rfl (by repeat (first | exact .here | apply Has.there)) (by rfl) (by repeat (first | exact .here | apply Upd.there)) ?_); clear F; clear M; intro w M a F)
        with_reducible refine l_nil ?_
        with_reducible refine q_then ?_
        with_reducible refine c_seq ?_
        with_reducible refine c_region ?_
        refine stepD rfl F rfl (o_load1 M (F.ev rfl) (by repeat (first | exact .here | apply Has.there)) (by first | assumption | rfl) ?_); clear F; clear a; intro a F
        refine stepD rfl F rfl (o_load1 M (F.ev rfl) (by repeat (first | exact .here | apply Has.there)) (by first | assumption | rfl) ?_); clear F; clear a; intro a F
        refine stepD rfl F rfl (o_gtrT (F.ev rfl) (F.ev rfl) (by omega) ?_); clear F; clear a; intro a F
        with_reducible refine l_nil ?_
        with_reducible refine q_then ?_
        refine c_true F rfl rfl ?_
        replace M := M.perm (l' := [(b4, .cells [.int .i64 z1].toArray 3 (0, 0)), (b6, .cells [.int .i64 (z3 + 1)].toArray 3 (0, 0)), (b5, .cells [.int .i64 z2].toArray 3 (0, 0))] ++ p) (by exact List.Perm.append_right p (List.perm_append_comm (l₁ := [_, _]) (l₂ := [_])))
        refine c_drawOne M (.cells [.int .i64 ((pre.length : Int) + 1 - (z3 + 1))].toArray 3 (0, 0)) 6 F (by kernel_rfl) ?_
        intro w1 M1 hok
        refine mK hok rfl rfl (fun a' w' F' E' => o_move (F'.ev rfl) ⟨Keep.refl _ _, rfl⟩) ?_
        refine mK hok rfl rfl (fun a' w' F' E' => o_add (F'.ev rfl) (F'.ev rfl) (w_i64 (by omega) (by omega)) ⟨Keep.refl _ _, rfl⟩) ?_
        refine mK hok rfl rfl (fun a' w' F' E' => o_load1 (keepOne.later M1 E') (F'.ev rfl) (by repeat (first | exact .here | apply Has.there)) (by first | assumption | rfl) ⟨Keep.refl _ _, rfl⟩) ?_
        refine mK hok rfl rfl (fun a' w' F' E' => o_sub (F'.ev rfl) (F'.ev rfl) (w_i64 (by omega) (by omega)) ⟨Keep.refl _ _, rfl⟩) ?_
        refine mK hok rfl rfl (fun a' w' F' E' => o_load1 (keepOne.later M1 E') (F'.ev rfl) (by repeat (first | exact .here | apply Has.there)) (by first | assumption | rfl) ⟨Keep.refl _ _, rfl⟩) ?_
        refine mNX hok rfl (keepOne.stays _ _ _ _ _ _) (fun a' w' F' E' => (E'.1.1 M1).elim (fun M2 => o_store1E M2 (F'.ev rfl) (F'.ev rfl) rfl .here (by rfl) .here fun _ hS M3 => keepOne.put hS.size M3) (fun M2 => o_store1E M2 (F'.ev rfl) (F'.ev rfl) rfl .here (by rfl) .here fun _ hS M3 => keepOne.put hS.size M3)) ?_
        skip
        (refine mDone rfl rfl ?_; clear F; clear M; intro a w F hE2 hX hTT hDD hPP; have M := hX 5 _ rfl; clear M1; clear hX; clear hE2; clear hok; clear hTT; clear hDD; clear hPP; (try dsimp only at F); (try dsimp only at M))
        (refine stepN rfl F (o_store1 M (F.ev rfl) (F.ev rfl) rfl (by repeat (first | exact .here | apply Has.there)) (by rfl) (by repeat (first | exact .here | apply Upd.there)) ?_); clear F; clear M; intro w M a F)
        with_reducible refine l_nil ?_
        with_reducible refine q_inB ?_
        replace M := M.perm (List.Perm.append_right p (List.perm_append_comm (l₁ := [(b4, _)]) (l₂ := [(b6, _), (b5, _)])))
        refine ⟨[_, _, _], ?_, M⟩
        show _ ∧ _ ∧ _ ∧ _
        rw [hz']
        refine ⟨by simp; omega, by simp; omega, by simp; omega, ?_⟩
        simp; omega
      · have hz' : zall (pre ++ [(pre.length, 0)]) = (z1, z2, z3 + 1) := by rw [hz]; simp [zstep, hr]
        with_reducible refine c_block ?_
        with_reducible refine c_seq ?_
        with_reducible refine c_seq ?_
        with_reducible refine c_region ?_
        refine stepD rfl F rfl (o_move (F.ev rfl) ?_); clear F; clear a; intro a F
        refine stepD rfl F rfl (o_neqF (F.ev rfl) (F.ev rfl) (by omega) ?_); clear F; clear a; intro a F
        with_reducible refine l_nil ?_
        with_reducible refine q_then ?_
        refine c_false F rfl rfl ?_
        with_reducible refine c_skip ?_
        with_reducible refine q_then ?_
        with_reducible refine c_seq ?_
        with_reducible refine c_region ?_
        refine stepD rfl F rfl (o_load1 M (F.ev rfl) (by repeat (first | exact .here | apply Has.there)) (by first | assumption | rfl) ?_); clear F; clear a; intro a F
        refine stepD rfl F rfl (o_add (F.ev rfl) (F.ev rfl) (w_i64 (by omega) (by omega)) ?_); clear F; clear a; intro a F
        (refine stepN rfl F (o_store1 M (F.ev rfl) (F.ev rfl) rfl (by repeat (first | exact .here | apply Has.there)) (by rfl) (by repeat (first | exact .here | apply Upd.there)) ?_); clear F; clear M; intro w M a F)
        with_reducible refine l_nil ?_
        with_reducible refine q_then ?_
        with_reducible refine c_seq ?_
        with_reducible refine c_region ?_
        refine stepD rfl F rfl (o_load1 M (F.ev rfl) (by repeat (first | exact .here | apply Has.there)) (by first | assumption | rfl) ?_); clear F; clear a; intro a F
        refine stepD rfl F rfl (o_load1 M (F.ev rfl) (by repeat (first | exact .here | apply Has.there)) (by first | assumption | rfl) ?_); clear F; clear a; intro a F
        refine stepD rfl F rfl (o_gtrF (F.ev rfl) (F.ev rfl) (by omega) ?_); clear F; clear a; intro a F
        with_reducible refine l_nil ?_
        with_reducible refine q_then ?_
        refine c_false F rfl rfl ?_
        with_reducible refine c_skip ?_
        with_reducible refine q_inB ?_
        refine ⟨[_, _, _], ?_, M⟩
        show _ ∧ _ ∧ _ ∧ _
        rw [hz']
        exact ⟨by simp; omega, by simp; omega, by simp; omega, rfl⟩
    · have hz' : zall (pre ++ [(pre.length, x2)]) = (z1, z2, 0) := by rw [hz]; simp [zstep, hg]
      with_reducible refine c_block ?_
      with_reducible refine c_seq ?_
      with_reducible refine c_seq ?_
      with_reducible refine c_region ?_
      refine stepD rfl F rfl (o_move (F.ev rfl) ?_); clear F; clear a; intro a F
      refine stepD rfl F rfl (o_neqT (F.ev rfl) (F.ev rfl) (by omega) ?_); clear F; clear a; intro a F
      with_reducible refine l_nil ?_
      with_reducible refine q_then ?_
      refine c_true F rfl rfl ?_
      with_reducible refine c_seq ?_
      with_reducible refine c_region ?_
      (refine stepN rfl F (o_store1 M (F.ev rfl) (F.ev rfl) rfl (by repeat (first | exact .here | apply Has.there)) (by rfl) (by repeat (first | exact .here | apply Upd.there)) ?_); clear F; clear M; intro w M a F)
      with_reducible refine l_nil ?_
      with_reducible refine q_then ?_
      with_reducible refine c_exit ?_
      with_reducible refine q_thenX ?_
      with_reducible refine q_inBX ?_
      refine ⟨[_, _, _], ?_, M⟩
      show _ ∧ _ ∧ _ ∧ _
      rw [hz']
      exact ⟨by simp; omega, by simp; omega, by simp, rfl⟩
  case done =>
    clear F M
    rintro D xs _ p w a rfl ⟨hz1, hz2, hz3, rfl⟩ M F
    with_reducible refine q_inB ?_
    with_reducible refine q_then ?_
    with_reducible refine c_seq ?_
    refine c_draw 4 F (by kernel_rfl) ?_
    intro w1 hE hok
    have M1 := M.later hE
    refine mK hok rfl rfl (fun a' w' F' E' => o_load1 (M1.later E') (F'.ev rfl) (by repeat (first | exact .here | apply Has.there)) (by first | assumption | rfl) ⟨Ext.refl _ _, rfl⟩) ?_
    refine mK hok rfl rfl (fun a' w' F' E' => o_load1 (M1.later E') (F'.ev rfl) (by repeat (first | exact .here | apply Has.there)) (by first | assumption | rfl) ⟨Ext.refl _ _, rfl⟩) ?_
    refine mK hok rfl rfl (fun a' w' F' E' => o_assign (F'.ev rfl) ⟨Ext.refl _ _, rfl⟩) ?_
    refine mK hok rfl rfl (fun a' w' F' E' => o_assign (F'.ev rfl) ⟨Ext.refl _ _, rfl⟩) ?_
    (refine mDone rfl rfl ?_; clear F; clear M; intro a w F hE2 hX hTT hDD hPP; have M := M1.later hE2; clear M1; clear hX; clear hE2; clear hok; clear hE; clear hTT; clear hDD; clear hPP; (try dsimp only at F))
    with_reducible refine l_nil ?_
    with_reducible refine q_then ?_
    with_reducible refine c_ret ?_
    refine p_ret1 F M .here rfl fun w' M' => ⟨.cons (.tmp (F.ev rfl)) (.cons (.tmp (F.ev rfl)) .nil), rfl, M'.ext⟩
  case stop => exact fun _ _ _ _ _ _ _ h => h.elim
end Go.Proofs.YtadnpidadcgdcaaDoor

/-! P7 -/
/-
  strconv.AppendUint at base 16.
-/
namespace Go.Proofs.YtadnpidadcgdcaaDoor
set_option linter.unusedVariables false
set_option linter.unusedSimpArgs false
open Go.RowKit
attribute [local irreducible] OpTo wpListIn Code.wpIn MW Cal

/-- what the table of math/bits holds for 16 -/
def GT (W : World) : Prop := W.cell? ⟨5, 15, none⟩ = some (.int .u8 4)
theorem cell_later {W w : World} {a : Addr} {v : Value} (h : W.cell? a = some v) (e : Ext [] W w) : w.cell? a = some v := by
  have hlt := block_lt_of_cell h
  rw [World.cell?_of_block (w := W) (e.block a.block hlt (by simp))]; exact h
theorem cell_laterS {S : List Nat} {W w : World} {a : Addr} {v : Value} (h : W.cell? a = some v) (e : Ext S W w) (hS : a.block ∉ S) : w.cell? a = some v := by
  have hlt := block_lt_of_cell h
  rw [World.cell?_of_block (w := W) (e.block a.block hlt hS)]; exact h
theorem GT.laterS {S : List Nat} {W w : World} (h : GT W) (e : Ext S W w) (hS : 5 ∉ S) : GT w := cell_laterS h e hS
theorem GT.later {W w : World} (h : GT W) (e : Ext [] W w) : GT w := cell_later h e

set_option maxHeartbeats 400000 in
theorem pow2_c (W : World) : Cal Tryd.prog 109 [.int .i64 16].toArray W fun v w' => v = .bool true ∧ Ext [] W w' := by
  refine fn_ofM (n := 8) [] Tryd.func109 rfl rfl rfl ?_
  intro a w F M hwW
  with_reducible refine c_seq ?_
  with_reducible refine c_region ?_
  refine stepD rfl F rfl (o_assign (F.ev rfl) ?_); clear F; clear a; intro a F
  with_reducible refine l_nil ?_
  with_reducible refine q_then ?_
  with_reducible refine c_seq ?_
  with_reducible refine c_region ?_
  refine stepD rfl F rfl (o_move (F.ev rfl) ?_); clear F; clear a; intro a F
  refine stepD rfl F rfl (o_move (F.ev rfl) ?_); clear F; clear a; intro a F
  refine stepD rfl F rfl (o_sub (F.ev rfl) (F.ev rfl) (w_i64 (by omega) (by omega)) ?_); clear F; clear a; intro a F
  refine stepD rfl F rfl (o_and (F.ev rfl) (F.ev rfl) rfl ?_); clear F; clear a; intro a F
  refine stepD rfl F rfl (o_eql (F.ev rfl) (F.ev rfl) ?_); clear F; clear a; intro a F
  refine stepD rfl F rfl (o_assign (F.ev rfl) ?_); clear F; clear a; intro a F
  with_reducible refine l_nil ?_
  with_reducible refine q_then ?_
  with_reducible refine c_ret ?_
  refine p_ret F rfl (.cons (.tmp (F.ev rfl)) .nil) ?_
  exact ⟨rfl, M.ext⟩
set_option maxHeartbeats 400000 in
theorem tz64_c (W : World) (hG : GT W) : Cal Tryd.prog 115 [.int .u64 16].toArray W fun v w' => v = .int .i64 4 ∧ Ext [] W w' := by
  refine fn_ofM (n := 14) [] Tryd.func115 rfl rfl rfl ?_
  intro a w F M hwW
  with_reducible refine c_seq ?_
  with_reducible refine c_region ?_
  refine stepD rfl F rfl (o_assign (F.ev rfl) ?_); clear F; clear a; intro a F
  with_reducible refine l_nil ?_
  with_reducible refine q_then ?_
  with_reducible refine c_seq ?_
  with_reducible refine c_seq ?_
  with_reducible refine c_region ?_
  refine stepD rfl F rfl (o_move (F.ev rfl) ?_); clear F; clear a; intro a F
  refine stepD rfl F rfl (o_eqlF (F.ev rfl) (F.ev rfl) (by omega) ?_); clear F; clear a; intro a F
  with_reducible refine l_nil ?_
  with_reducible refine q_then ?_
  refine c_false F rfl rfl ?_
  with_reducible refine c_skip ?_
  with_reducible refine q_then ?_
  with_reducible refine c_seq ?_
  with_reducible refine c_region ?_
  refine stepD rfl F rfl (o_move (F.ev rfl) ?_); clear F; clear a; intro a F
  refine stepD rfl F rfl (o_move (F.ev rfl) ?_); clear F; clear a; intro a F
  (refine stepD rfl F rfl (o_neg (s := 18446744073709551600) (F.ev rfl) (by decide) ?_); clear F; clear a; intro a F)
  (refine stepD rfl F rfl (o_and (s := 16) (F.ev rfl) (F.ev rfl) (by decide) ?_); clear F; clear a; intro a F)
  (refine stepD rfl F rfl (o_mul (s := 4573923408821661840) (F.ev rfl) (F.ev rfl) (by decide) ?_); clear F; clear a; intro a F)
  (refine stepD rfl F rfl (o_shr (s := 15) (F.ev rfl) (F.ev rfl) (by omega) (by decide) ?_); clear F; clear a; intro a F)
  (refine stepD rfl F rfl (o_indexArr (F.ev rfl) (F.ev rfl) (by omega) (by omega) ?_); clear F; clear a; intro a F)
  (refine stepD rfl F rfl (o_load (v := .int .u8 4) (F.ev rfl) (run_loadVar_one TOne.h (hG.later M.ext)) ?_); clear F; clear a; intro a F)
  refine stepD rfl F rfl (o_conv (F.ev rfl) (w_i64 (by omega) (by omega)) ?_); clear F; clear a; intro a F
  refine stepD rfl F rfl (o_assign (F.ev rfl) ?_); clear F; clear a; intro a F
  with_reducible refine l_nil ?_
  with_reducible refine q_then ?_
  with_reducible refine c_ret ?_
  refine p_ret F rfl (.cons (.tmp (F.ev rfl)) .nil) ?_
  exact ⟨rfl, M.ext⟩
set_option maxHeartbeats 400000 in
theorem tz_c (W : World) (hG : GT W) : Cal Tryd.prog 110 [.int .u64 16].toArray W fun v w' => v = .int .i64 4 ∧ Ext [] W w' := by
  refine fn_ofM (n := 8) [] Tryd.func110 rfl rfl rfl ?_
  intro a w F M hwW
  with_reducible refine c_seq ?_
  with_reducible refine c_region ?_
  refine stepD rfl F rfl (o_assign (F.ev rfl) ?_); clear F; clear a; intro a F
  with_reducible refine l_nil ?_
  with_reducible refine q_then ?_
  with_reducible refine c_seq ?_
  refine c_false F rfl rfl ?_
  with_reducible refine c_skip ?_
  with_reducible refine q_then ?_
  with_reducible refine c_seq ?_
  with_reducible refine c_region ?_
  refine stepD rfl F rfl (o_move (F.ev rfl) ?_); clear F; clear a; intro a F
  (refine stepD rfl F rfl (o_call (F.ev rfl) (F.evs rfl) (Cal.mono (tz64_c _ (hG.later M.ext)) ?_)); clear F; clear a; rintro _ w ⟨rfl, hE⟩ a F; replace M := M.later hE; clear hE)
  refine stepD rfl F rfl (o_assign (F.ev rfl) ?_); clear F; clear a; intro a F
  with_reducible refine l_nil ?_
  with_reducible refine q_then ?_
  with_reducible refine c_ret ?_
  refine p_ret F rfl (.cons (.tmp (F.ev rfl)) .nil) ?_
  exact ⟨rfl, M.ext⟩

def hexD (d : Int) : Int := if d < 10 then 48 + d else 87 + d
/-- the digits of a number below 65536 -/
def hexI (g : Int) : List Int :=
  if g < 16 then [hexD g] else if g < 256 then [hexD (g / 16), hexD (g % 16)] else if g < 4096 then [hexD (g / 256), hexD (g / 16 % 16), hexD (g % 16)] else [hexD (g / 4096), hexD (g / 256 % 16), hexD (g / 16 % 16), hexD (g % 16)]
theorem hexI_small {u : Int} (h : u < 16) : hexI u = [hexD u] := by simp [hexI, h]
theorem hexI_step {u : Int} (h : 16 ≤ u) (h2 : u < 65536) : hexI u = hexI (u / 16) ++ [hexD (u % 16)] := by
  unfold hexI
  have e1 : u / 16 / 16 = u / 256 := by omega
  have e2 : u / 16 / 256 = u / 4096 := by omega
  rw [if_neg (by omega)]
  by_cases h3 : u < 256
  · rw [if_pos h3, if_pos (by omega)]; rfl
  · rw [if_neg h3]
    by_cases h4 : u < 4096
    · rw [if_pos h4, if_neg (by omega), if_pos (by omega), e1]; rfl
    · rw [if_neg h4, if_neg (by omega), if_neg (by omega), if_pos (by omega), e1, e2]; rfl
theorem hexI_len (u : Int) : 1 ≤ (hexI u).length ∧ (hexI u).length ≤ 4 := by
  unfold hexI; split <;> (try split) <;> (try split) <;> simp
def digs : List UInt8 := [48, 49, 50, 51, 52, 53, 54, 55, 56, 57, 97, 98, 99, 100, 101, 102, 103, 104, 105, 106, 107, 108, 109, 110, 111, 112, 113, 114, 115, 116, 117, 118, 119, 120, 121, 122]
theorem digs_at (q : Nat) (h : q < 16) (h' : q < digs.length) : ((digs[q]).toNat : Int) = hexD q := by
  have hall : ∀ q : Fin 16, ((digs.getD q.1 0).toNat : Int) = hexD q.1 := by decide
  have := hall ⟨q, h⟩
  rw [List.getD_eq_getElem?_getD, List.getElem?_eq_getElem h'] at this
  exact this
theorem and15 {u : Int} (h : 0 ≤ u) (h2 : u < 65536) : bitsOf .and .u64 u 15 = ((u % 16).toNat : Nat) := by
  obtain ⟨n, rfl⟩ := Int.eq_ofNat_of_zero_le h
  have e := bits_and (k := .u64) rfl (m := n) (n := 15) (show n < 18446744073709551616 by omega) (show 15 < 18446744073709551616 by omega)
  rw [show ((15 : Nat) : Int) = 15 from rfl] at e
  rw [e]
  have : n &&& 15 = n % 16 := Nat.and_two_pow_sub_one_eq_mod n 4
  rw [this]; omega
theorem rep_set {z x : Value} (n : Nat) (D : List Value) : (List.replicate (n + 1) z ++ D).set n x = List.replicate n z ++ x :: D := by
  rw [List.replicate_succ', List.append_assoc, List.set_append_right _ _ (by simp)]
  simp
/-- the buffer: i cells that are 0, then the digits -/
def bufC (D : List Int) : List Value := List.replicate (65 - D.length) (.int .u8 0) ++ D.map (Value.int .u8)
theorem put_buf {D : List Int} {x : Int} {off : Nat} (h : D.length < 65) (ho : off = 64 - D.length) : put (bufC D) off [.int .u8 x] = some (bufC (x :: D)) := by
  subst ho
  rw [put1 (q := 64 - D.length) _ rfl (by simp [bufC]; omega)]
  unfold bufC
  rw [show 65 - D.length = (64 - D.length) + 1 by omega, rep_set]
  simp
theorem seg_buf {D : List Int} (h : D.length ≤ 65) : seg (bufC D) (65 - D.length) D.length = some (D.map (Value.int .u8)) := by
  have := seg_of (List.replicate (65 - D.length) (Value.int .u8 0)) (D.map (Value.int .u8)) []
  simpa [bufC] using this

set_option maxRecDepth 10000 in
set_option maxHeartbeats 2000000 in
theorem formatBits_c {S : List Nat} {W0 W : World} {l ent : List (Nat × Obj)} {f : List (Nat × Obj) → List (Nat × Obj)} {v : Value} {n : Nat} {bs : List Int} {g : Int} (hO : OwnS 5 1 v n (bs.map (Value.int .u8)) ent) (M : Mem S W0 W l) (hl : TailAt ent l f) (h0 : 0 ≤ g) (h1 : g < 65536) (hn : n ≤ 1000) (hG : GT W0) (hS : 5 ∉ S) :
    Cal Tryd.prog 97 [v, .int .u64 g, .int .i64 16, .bool false, .bool true].toArray W fun v' w' => ∃ sv ent', v' = .tuple #[sv, mkS []] ∧ OwnS 5 1 sv (n + (hexI g).length) ((bs ++ hexI g).map (Value.int .u8)) ent' ∧ Mem S W0 w' (f ent') := by
  refine fn_of (n := 102) Tryd.func97 rfl rfl rfl ?_
  intro a F
  with_reducible refine c_seq ?_
  with_reducible refine c_region ?_
  refine stepD rfl F rfl (o_assign (F.ev rfl) ?_); clear F; clear a; intro a F
  refine stepD rfl F rfl (o_assign (F.ev rfl) ?_); clear F; clear a; intro a F
  with_reducible refine l_nil ?_
  with_reducible refine q_then ?_
  with_reducible refine c_seq ?_
  with_reducible refine c_seq ?_
  with_reducible refine c_region ?_
  refine stepD rfl F rfl (o_move (F.ev rfl) ?_); clear F; clear a; intro a F
  refine stepD rfl F rfl (o_lssF (F.ev rfl) (F.ev rfl) (by omega) ?_); clear F; clear a; intro a F
  refine stepD rfl F rfl (o_move (F.ev rfl) ?_); clear F; clear a; intro a F
  refine stepG rfl F rfl rfl rfl (o_move (F.ev rfl) ?_); clear F; clear a; intro a F
  refine stepG rfl F rfl rfl rfl (o_eqlF (F.ev rfl) (F.ev rfl) (by omega) ?_); clear F; clear a; intro a F
  refine stepD rfl F rfl (o_pickF (F.ev rfl) (F.ev rfl) ?_); clear F; clear a; intro a F
  refine stepD rfl F rfl (o_move (F.ev rfl) ?_); clear F; clear a; intro a F
  refine stepG rfl F rfl rfl rfl (o_move (F.ev rfl) ?_); clear F; clear a; intro a F
  refine stepG rfl F rfl rfl rfl (o_gtrF (F.ev rfl) (F.ev rfl) (by omega) ?_); clear F; clear a; intro a F
  refine stepD rfl F rfl (o_pickF (F.ev rfl) (F.ev rfl) ?_); clear F; clear a; intro a F
  with_reducible refine l_nil ?_
  with_reducible refine q_then ?_
  refine c_false F rfl rfl ?_
  with_reducible refine c_skip ?_
  with_reducible refine q_then ?_
  with_reducible refine c_seq ?_
  with_reducible refine c_region ?_
  (refine stepD rfl F rfl (o_alloc M ?_); clear F; clear M; intro b12 w M a F)
  with_reducible refine l_nil ?_
  with_reducible refine q_then ?_
  with_reducible refine c_seq ?_
  with_reducible refine c_region ?_
  refine stepD rfl F rfl (o_assign (F.ev rfl) ?_); clear F; clear a; intro a F
  with_reducible refine l_nil ?_
  with_reducible refine q_then ?_
  with_reducible refine c_seq ?_
  with_reducible refine c_seq ?_
  with_reducible refine c_region ?_
  refine stepD rfl F rfl (o_move (F.ev rfl) ?_); clear F; clear a; intro a F
  with_reducible refine l_nil ?_
  with_reducible refine q_then ?_
  refine c_false F rfl rfl ?_
  with_reducible refine c_skip ?_
  with_reducible refine q_then ?_
  with_reducible refine c_seq ?_
  with_reducible refine c_seq ?_
  with_reducible refine c_region ?_
  refine stepD rfl F rfl (o_move (F.ev rfl) ?_); clear F; clear a; intro a F
  (refine stepD rfl F rfl (o_call (F.ev rfl) (F.evs rfl) (Cal.mono (pow2_c _) ?_)); clear F; clear a; rintro _ w ⟨rfl, hE⟩ a F; replace M := M.later hE; clear hE)
  with_reducible refine l_nil ?_
  with_reducible refine q_then ?_
  refine c_true F rfl rfl ?_
  with_reducible refine c_seq ?_
  with_reducible refine c_region ?_
  refine stepD rfl F rfl (o_move (F.ev rfl) ?_); clear F; clear a; intro a F
  refine stepD rfl F rfl (o_conv (F.ev rfl) (w_u64 (by omega) (by omega)) ?_); clear F; clear a; intro a F
  (refine stepD rfl F rfl (o_call (F.ev rfl) (F.evs rfl) (Cal.mono (tz_c _ (hG.laterS M.ext hS)) ?_)); clear F; clear a; rintro _ w ⟨rfl, hE⟩ a F; replace M := M.later hE; clear hE)
  refine stepD rfl F rfl (o_conv (F.ev rfl) (w_u64 (by omega) (by omega)) ?_); clear F; clear a; intro a F
  refine stepD rfl F rfl (o_assign (F.ev rfl) ?_); clear F; clear a; intro a F
  with_reducible refine l_nil ?_
  with_reducible refine q_then ?_
  with_reducible refine c_seq ?_
  with_reducible refine c_region ?_
  refine stepD rfl F rfl (o_move (F.ev rfl) ?_); clear F; clear a; intro a F
  refine stepD rfl F rfl (o_conv (F.ev rfl) (w_u64 (by omega) (by omega)) ?_); clear F; clear a; intro a F
  refine stepD rfl F rfl (o_assign (F.ev rfl) ?_); clear F; clear a; intro a F
  with_reducible refine l_nil ?_
  with_reducible refine q_then ?_
  with_reducible refine c_seq ?_
  with_reducible refine c_region ?_
  refine stepD rfl F rfl (o_move (F.ev rfl) ?_); clear F; clear a; intro a F
  refine stepD rfl F rfl (o_conv (F.ev rfl) (w_u64 (by omega) (by omega)) ?_); clear F; clear a; intro a F
  refine stepD rfl F rfl (o_sub (F.ev rfl) (F.ev rfl) (w_u64 (by omega) (by omega)) ?_); clear F; clear a; intro a F
  refine stepD rfl F rfl (o_assign (F.ev rfl) ?_); clear F; clear a; intro a F
  with_reducible refine l_nil ?_
  with_reducible refine q_then ?_
  with_reducible refine c_seq ?_
  with_reducible refine c_block ?_
  replace M : Mem S W0 w ((b12, .cells (bufC []).toArray 132 (0, 0)) :: l) := M
  refine c_loop (fun k a w => ∃ (u : Int) (D : List Int), k = u.toNat ∧ 0 ≤ u ∧ u < 65536 ∧ hexI g = hexI u ++ D ∧ Frm a 102 [] [(1, .int .u64 u), (13, .int .i64 (65 - (D.length : Int))), (12, .pointer (some ⟨b12, 0, none⟩)), (14, .int .u64 4), (15, .int .u64 16), (16, .int .u64 15), (0, v), (3, .bool false), (4, .bool true), (11, mkS [])] ∧ Mem S W0 w ((b12, .cells (bufC D).toArray 132 (0, 0)) :: l)) g.toNat ⟨g, [], rfl, h0, h1, by simp, F.only [1, 13, 12, 14, 15, 16, 0, 3, 4, 11] rfl, M⟩ ?_
  clear F M
  rintro k a w ⟨u, D, hk, hu0, hu1, hD, F, M⟩
  have hlen := congrArg List.length hD
  have hb1 := hexI_len g
  have hb2 := hexI_len u
  rw [List.length_append] at hlen
  by_cases hge : 16 ≤ u
  · with_reducible refine c_seq ?_
    with_reducible refine c_seq ?_
    with_reducible refine c_region ?_
    refine stepD rfl F rfl (o_move (F.ev rfl) ?_); clear F; clear a; intro a F
    refine stepD rfl F rfl (o_move (F.ev rfl) ?_); clear F; clear a; intro a F
    refine stepD rfl F rfl (o_geqT (F.ev rfl) (F.ev rfl) (by omega) ?_); clear F; clear a; intro a F
    with_reducible refine l_nil ?_
    with_reducible refine q_then ?_
    refine c_true F rfl rfl ?_
    with_reducible refine c_skip ?_
    with_reducible refine q_then ?_
    with_reducible refine c_block ?_
    with_reducible refine c_seq ?_
    with_reducible refine c_region ?_
    refine stepD rfl F rfl (o_move (F.ev rfl) ?_); clear F; clear a; intro a F
    refine stepD rfl F rfl (o_sub (F.ev rfl) (F.ev rfl) (w_i64 (by omega) (by omega)) ?_); clear F; clear a; intro a F
    refine stepD rfl F rfl (o_assign (F.ev rfl) ?_); clear F; clear a; intro a F
    with_reducible refine l_nil ?_
    with_reducible refine q_then ?_
    with_reducible refine c_seq ?_
    with_reducible refine c_region ?_
    refine stepD rfl F rfl (o_move (F.ev rfl) ?_); clear F; clear a; intro a F
    refine stepD rfl F rfl (o_move (F.ev rfl) ?_); clear F; clear a; intro a F
    refine stepD rfl F rfl (o_move (F.ev rfl) ?_); clear F; clear a; intro a F
    refine stepD rfl F rfl (o_and (F.ev rfl) (F.ev rfl) rfl ?_); clear F; clear a; intro a F
    rw [and15 hu0 hu1] at F
    (refine stepD rfl F rfl (s_idx (bs := digs) (q := (u % 16).toNat) (F.ev rfl) (F.ev rfl) rfl (by show _ < 36; omega) ?_); clear F; clear a; intro a F)
    rw [digs_at _ (by omega), show (((u % 16).toNat : Nat) : Int) = u % 16 by omega] at F
    refine stepD rfl F rfl (o_indexArr (F.ev rfl) (F.ev rfl) (by omega) (by omega) ?_); clear F; clear a; intro a F
    (refine stepN rfl F (o_store1 M (F.ev rfl) (F.ev rfl) rfl (by repeat (first | exact .here | apply Has.there)) (put_buf (D := D) (by omega) (by omega)) (by repeat (first | exact .here | apply Upd.there)) ?_); clear F; clear M; intro w M a F)
    with_reducible refine l_nil ?_
    with_reducible refine q_then ?_
    with_reducible refine c_region ?_
    refine stepD rfl F rfl (o_move (F.ev rfl) ?_); clear F; clear a; intro a F
    refine stepD rfl F rfl (o_move (F.ev rfl) ?_); clear F; clear a; intro a F
    refine stepD rfl F rfl (o_shr (F.ev rfl) (F.ev rfl) (by omega) rfl ?_); clear F; clear a; intro a F
    refine stepD rfl F rfl (o_assign (F.ev rfl) ?_); clear F; clear a; intro a F
    with_reducible refine l_nil ?_
    with_reducible refine q_inB ?_
    with_reducible refine q_then ?_
    rw [show u.fdiv (2 ^ min (Int.toNat 4) IntKind.u64.bits) = u / 16 from Int.fdiv_eq_ediv_of_nonneg _ (by decide), show (65 - (D.length : Int) - 1) = 65 - ((hexD (u % 16) :: D).length : Int) by simp; omega] at F
    exact ⟨_, by omega, u / 16, _, rfl, by omega, by omega, by rw [hD, hexI_step hge hu1]; simp, F.only [1, 13, 12, 14, 15, 16, 0, 3, 4, 11] rfl, M⟩
  · with_reducible refine c_seq ?_
    with_reducible refine c_seq ?_
    with_reducible refine c_region ?_
    refine stepD rfl F rfl (o_move (F.ev rfl) ?_); clear F; clear a; intro a F
    refine stepD rfl F rfl (o_move (F.ev rfl) ?_); clear F; clear a; intro a F
    refine stepD rfl F rfl (o_geqF (F.ev rfl) (F.ev rfl) (by omega) ?_); clear F; clear a; intro a F
    with_reducible refine l_nil ?_
    with_reducible refine q_then ?_
    refine c_false F rfl rfl ?_
    with_reducible refine c_exit ?_
    with_reducible refine q_thenX ?_
    with_reducible refine q_thenX ?_
    with_reducible refine q_inBX ?_
    with_reducible refine q_then ?_
    with_reducible refine c_seq ?_
    with_reducible refine c_region ?_
    refine stepD rfl F rfl (o_move (F.ev rfl) ?_); clear F; clear a; intro a F
    refine stepD rfl F rfl (o_sub (F.ev rfl) (F.ev rfl) (w_i64 (by omega) (by omega)) ?_); clear F; clear a; intro a F
    refine stepD rfl F rfl (o_assign (F.ev rfl) ?_); clear F; clear a; intro a F
    with_reducible refine l_nil ?_
    with_reducible refine q_then ?_
    with_reducible refine c_region ?_
    refine stepD rfl F rfl (o_move (F.ev rfl) ?_); clear F; clear a; intro a F
    refine stepD rfl F rfl (o_move (F.ev rfl) ?_); clear F; clear a; intro a F
    (refine stepD rfl F rfl (s_idx (bs := digs) (q := u.toNat) (F.ev rfl) (F.ev rfl) (by omega) (by show _ < 36; omega) ?_); clear F; clear a; intro a F)
    rw [digs_at _ (by omega), show ((u.toNat : Nat) : Int) = u by omega] at F
    refine stepD rfl F rfl (o_indexArr (F.ev rfl) (F.ev rfl) (by omega) (by omega) ?_); clear F; clear a; intro a F
    (refine stepN rfl F (o_store1 M (F.ev rfl) (F.ev rfl) rfl (by repeat (first | exact .here | apply Has.there)) (put_buf (D := D) (by omega) (by omega)) (by repeat (first | exact .here | apply Upd.there)) ?_); clear F; clear M; intro w M a F)
    rw [hexI_small (u := u) (by omega)] at hD
    with_reducible refine l_nil ?_
    with_reducible refine q_then ?_
    with_reducible refine c_seq ?_
    with_reducible refine c_seq ?_
    with_reducible refine c_region ?_
    refine stepD rfl F rfl (o_move (F.ev rfl) ?_); clear F; clear a; intro a F
    with_reducible refine l_nil ?_
    with_reducible refine q_then ?_
    refine c_false F rfl rfl ?_
    with_reducible refine c_skip ?_
    with_reducible refine q_then ?_
    with_reducible refine c_seq ?_
    with_reducible refine c_seq ?_
    with_reducible refine c_region ?_
    refine stepD rfl F rfl (o_move (F.ev rfl) ?_); clear F; clear a; intro a F
    with_reducible refine l_nil ?_
    with_reducible refine q_then ?_
    refine c_true F rfl rfl ?_
    with_reducible refine c_seq ?_
    with_reducible refine c_region ?_
    refine stepD rfl F rfl (o_move (F.ev rfl) ?_); clear F; clear a; intro a F
    refine stepD rfl F rfl (o_move (F.ev rfl) ?_); clear F; clear a; intro a F
    (refine stepD rfl F rfl (o_arrL (F.ev rfl) (F.ev rfl) (by omega) (by omega) ?_); clear F; clear a; intro a F)
    have e1 : 0 + (65 - (D.length : Int) - 1).toNat * 1 = 65 - (hexD u :: D).length := by simp; omega
    have e2 : 65 - (65 - (D.length : Int) - 1).toNat = (hexD u :: D).length := by simp; omega
    rw [e1, e2] at F
    (refine stepD rfl F rfl (o_append hO M (.cons hl) (F.ev rfl) (F.ev rfl) (SrcOf.cells' (M.heap .here) (by rw [Nat.mul_one]; exact seg_buf (D := hexD u :: D) (by simp; omega)) (by simp [Value.oneCell'])) (by first | omega | (simp; omega)) (by first | omega | (simp; omega)) ?_); clear F; clear M; clear hO; intro v2 ent2 w hO M a F; (try dsimp only at M))
    refine stepD rfl F rfl (o_assign (F.ev rfl) ?_); clear F; clear a; intro a F
    with_reducible refine l_nil ?_
    with_reducible refine q_then ?_
    with_reducible refine c_ret ?_
    with_reducible refine q_thenR ?_
    refine p_ret F rfl (.cons (.tmp (F.ev rfl)) (.cons (.tmp (F.ev rfl)) .nil)) ?_
    refine ⟨_, ent2, rfl, ?_, M.sub (List.sublist_cons_self _ _)⟩
    rw [hD, List.map_append]
    exact hO

set_option maxHeartbeats 400000 in
theorem appendUint0_c {S : List Nat} {W0 W : World} {l ent : List (Nat × Obj)} {f : List (Nat × Obj) → List (Nat × Obj)} {v : Value} {n : Nat} {bs : List Int} {g : Int} (hO : OwnS 5 1 v n (bs.map (Value.int .u8)) ent) (M : Mem S W0 W l) (hl : TailAt ent l f) (h0 : 0 ≤ g) (h1 : g < 65536) (hn : n ≤ 1000) (hG : GT W0) (hS : 5 ∉ S) :
    Cal Tryd.prog 85 [v, .int .u64 g, .int .i64 16].toArray W fun sv w' => ∃ ent', OwnS 5 1 sv (n + (hexI g).length) ((bs ++ hexI g).map (Value.int .u8)) ent' ∧ Mem S W0 w' (f ent') := by
  refine fn_of (n := 36) Tryd.func85 rfl rfl rfl ?_
  intro a F
  with_reducible refine c_seq ?_
  with_reducible refine c_region ?_
  refine stepD rfl F rfl (o_assign (F.ev rfl) ?_); clear F; clear a; intro a F
  with_reducible refine l_nil ?_
  with_reducible refine q_then ?_
  with_reducible refine c_seq ?_
  with_reducible refine c_seq ?_
  with_reducible refine c_region ?_
  refine stepD rfl F rfl (o_move (F.ev rfl) ?_); clear F; clear a; intro a F
  refine stepD rfl F rfl (o_eqlF (F.ev rfl) (F.ev rfl) (by omega) ?_); clear F; clear a; intro a F
  with_reducible refine l_nil ?_
  with_reducible refine q_then ?_
  refine c_false F rfl rfl ?_
  with_reducible refine c_skip ?_
  with_reducible refine q_then ?_
  with_reducible refine c_seq ?_
  with_reducible refine c_region ?_
  refine stepD rfl F rfl (o_move (F.ev rfl) ?_); clear F; clear a; intro a F
  refine stepD rfl F rfl (o_move (F.ev rfl) ?_); clear F; clear a; intro a F
  refine stepD rfl F rfl (o_move (F.ev rfl) ?_); clear F; clear a; intro a F
  (refine stepD rfl F rfl (o_call (F.ev rfl) (F.evs rfl) (Cal.mono (formatBits_c hO M hl h0 h1 hn hG hS) ?_)); clear F; clear a; rintro _ w ⟨sv, ent', rfl, hO', M'⟩ a F)
  refine stepD rfl F rfl (o_move (F.ev rfl) ?_); clear F; clear a; intro a F
  refine stepD rfl F rfl (o_extract (F.ev rfl) rfl ?_); clear F; clear a; intro a F
  refine stepD rfl F rfl (o_extract (F.ev rfl) rfl ?_); clear F; clear a; intro a F
  refine stepD rfl F rfl (o_assign (F.ev rfl) ?_); clear F; clear a; intro a F
  with_reducible refine l_nil ?_
  with_reducible refine q_then ?_
  with_reducible refine c_seq ?_
  with_reducible refine c_region ?_
  refine stepD rfl F rfl (o_move (F.ev rfl) ?_); clear F; clear a; intro a F
  refine stepD rfl F rfl (o_assign (F.ev rfl) ?_); clear F; clear a; intro a F
  with_reducible refine l_nil ?_
  with_reducible refine q_then ?_
  with_reducible refine c_ret ?_
  refine p_ret F rfl (.cons (.tmp (F.ev rfl)) .nil) ?_
  exact ⟨ent', hO', M'⟩
set_option maxHeartbeats 400000 in
theorem appendUint_c {S : List Nat} {W0 W : World} {l ent : List (Nat × Obj)} {f : List (Nat × Obj) → List (Nat × Obj)} {v : Value} {n : Nat} {bs : List Int} {g : Int} (hO : OwnS 5 1 v n (bs.map (Value.int .u8)) ent) (M : Mem S W0 W l) (hl : TailAt ent l f) (h0 : 0 ≤ g) (h1 : g < 65536) (hn : n ≤ 1000) (hG : GT W0) (hS : 5 ∉ S) :
    Cal Tryd.prog 63 [v, .int .u64 g, .int .i64 16].toArray W fun sv w' => ∃ ent', OwnS 5 1 sv (n + (hexI g).length) ((bs ++ hexI g).map (Value.int .u8)) ent' ∧ Mem S W0 w' (f ent') := by
  refine fn_of (n := 11) Tryd.func63 rfl rfl rfl ?_
  intro a F
  with_reducible refine c_seq ?_
  with_reducible refine c_region ?_
  refine stepD rfl F rfl (o_assign (F.ev rfl) ?_); clear F; clear a; intro a F
  with_reducible refine l_nil ?_
  with_reducible refine q_then ?_
  with_reducible refine c_seq ?_
  with_reducible refine c_region ?_
  refine stepD rfl F rfl (o_move (F.ev rfl) ?_); clear F; clear a; intro a F
  refine stepD rfl F rfl (o_move (F.ev rfl) ?_); clear F; clear a; intro a F
  refine stepD rfl F rfl (o_move (F.ev rfl) ?_); clear F; clear a; intro a F
  (refine stepD rfl F rfl (o_call (F.ev rfl) (F.evs rfl) (Cal.mono (appendUint0_c hO M hl h0 h1 hn hG hS) ?_)); clear F; clear a; rintro sv w ⟨ent', hO', M'⟩ a F)
  refine stepD rfl F rfl (o_assign (F.ev rfl) ?_); clear F; clear a; intro a F
  with_reducible refine l_nil ?_
  with_reducible refine q_then ?_
  with_reducible refine c_ret ?_
  refine p_ret F rfl (.cons (.tmp (F.ev rfl)) .nil) ?_
  exact ⟨ent', hO', M'⟩
end Go.Proofs.YtadnpidadcgdcaaDoor

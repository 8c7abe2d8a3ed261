/-
  The calculus, part C: the operations.
-/
import Derived.Test.YtadnpidadcgdcaaDoorLibB
namespace Go.Proofs.YtadnpidadcgdcaaDoor
set_option linter.unusedVariables false
set_option linter.unusedSimpArgs false
open Go.RowKit

theorem addr_add (b o k : Nat) : (⟨b, o, none⟩ : Addr).add k = ⟨b, o + k, none⟩ := by
  unfold Addr.add; split <;> simp_all


def zeroC (P : Program) (t : TypeId) : Option (Array Value) := ((P.info? t).bind (·.zero)).map Value.cells
def oneTy (P : Program) (t : TypeId) : Bool := match P.underlying t with | some (.struct _) | some (.array _ _) | none => false | _ => true
def aggTy (P : Program) (t : TypeId) (n : Nat) : Bool := (match P.underlying t with | some (.struct _) | some (.array _ _) => true | _ => false) && ((P.info? t).map (·.size) == some n)
def sizeIs (P : Program) (t : TypeId) (n : Nat) : Bool := (P.info? t).map (·.size) == some n
def fieldAtB (P : Program) (s : TypeId) (i off : Nat) : Bool :=
  match P.underlying s with
  | some (.struct fs) => match fs[i]? with
    | some f => f.offset == off && (match P.info? f.type with | some i => i.size != 0 | none => false)
    | none => false
  | _ => false
def hasBody (P : Program) (f : FuncId) : Bool := match P.funcs[f]? with | some fn => fn.body.isSome && !(fn.name == "runtime.NumGoroutine") | none => false
/-! What is asked of a program's types and functions, found by the elaborator. -/
class TU (P : Program) (t : TypeId) (d : outParam TypeDesc) : Prop where h : P.underlying t = some d
class TSz (P : Program) (t : TypeId) (n : outParam Nat) : Prop where h : sizeIs P t n = true
class TOne (P : Program) (t : TypeId) : Prop where h : oneTy P t = true
class TAgg (P : Program) (t : TypeId) (n : outParam Nat) : Prop where h : aggTy P t n = true
class TZero (P : Program) (t : TypeId) (cs : outParam (List Value)) : Prop where h : zeroC P t = some cs.toArray
class TFld (P : Program) (s : TypeId) (i : Nat) (off : outParam Nat) : Prop where h : fieldAtB P s i off = true
class TBody (P : Program) (f : FuncId) : Prop where h : hasBody P f = true
class TMix (P : Program) : Prop where h : P.follows .mixedOrders = true

/-! ### leaving a function -/
theorem p_leave {P : Program} {fn : Func} {R : Value → World → Prop} {a : Act} {w : World} {n : Nat} {fr : List (Nat × Value)} {rvs : List ResultVar} {vs : List Value} (F : Frm a n [] fr) (hr : fn.results = rvs.toArray) (hv : ResVs P a w rvs vs) (h : R (oneOr vs) w) :
    LeavesInM (FW none) 0 P fn a.tmps (fun e w' => ∃ v, e = .returned v ∧ R v w') a.defers .returning w := by
  rw [F.defers]
  exact ⟨_, run_results hr hv, _, rfl, h⟩
theorem p_ret {P : Program} {fn : Func} {R : Value → World → Prop} {a : Act} {w : World} {n : Nat} {fr : List (Nat × Value)} {rvs : List ResultVar} {vs : List Value} (F : Frm a n [] fr) (hr : fn.results = rvs.toArray) (hv : ResVs P a w rvs vs) (h : R (oneOr vs) w) : Post P fn R .ret a w :=
  p_leave F hr hv h
theorem p_end {P : Program} {fn : Func} {R : Value → World → Prop} {a : Act} {w : World} {n : Nat} {fr : List (Nat × Value)} {rvs : List ResultVar} {vs : List Value} (F : Frm a n [] fr) (hr : fn.results = rvs.toArray) (hv : ResVs P a w rvs vs) (h : R (oneOr vs) w) : Post P fn R .normal a w :=
  p_leave F hr hv h

theorem Ext.putObj (w : World) (b : Nat) (o : Obj) : Ext [b] w (w.putObj b o) :=
  ⟨rfl, rfl, rfl, by simp [World.putObj], fun k _ hs => World.putObj_heap_other (by simpa using hs)⟩

/-- The mark of a loop over an iterator. -/
def markOf (D : Nat) : Deferred := { target := .collected D, args := #[] }
theorem p_leave1 {P : Program} {fn : Func} {R : Value → World → Prop} {a : Act} {w W0 : World} {S : List Nat} {l l' : List (Nat × Obj)} {n D : Nat} {fr : List (Nat × Value)} {rvs : List ResultVar} {vs : List Value} (F : Frm a n [markOf D] fr) (M : Mem S W0 w l)
    (hu : Upd l D (.deferred (some [])) (.deferred none) l') (hr : fn.results = rvs.toArray) (hv : ∀ w', Mem S W0 w' l' → ResVs P a w' rvs vs ∧ R (oneOr vs) w') :
    LeavesInM (FW none) 0 P fn a.tmps (fun e w' => ∃ v, e = .returned v ∧ R v w') a.defers .returning w := by
  rw [F.defers]
  have hD := M.heap hu.has
  have hlt : D < w.heap.size := (Array.getElem?_eq_some_iff.1 hD).1
  obtain ⟨h1, h2⟩ := hv _ (M.turned hu (Ext.putObj w D (.deferred none)) (World.putObj_heap_same hlt))
  exact ⟨by simp, .inl ⟨D, _, rfl, run_takeDeferred hD, _, run_results hr h1, _, rfl, h2⟩⟩
theorem p_ret1 {P : Program} {fn : Func} {R : Value → World → Prop} {a : Act} {w W0 : World} {S : List Nat} {l l' : List (Nat × Obj)} {n D : Nat} {fr : List (Nat × Value)} {rvs : List ResultVar} {vs : List Value} (F : Frm a n [markOf D] fr) (M : Mem S W0 w l)
    (hu : Upd l D (.deferred (some [])) (.deferred none) l') (hr : fn.results = rvs.toArray) (hv : ∀ w', Mem S W0 w' l' → ResVs P a w' rvs vs ∧ R (oneOr vs) w') : Post P fn R .ret a w := p_leave1 F M hu hr hv

section ops
variable {P : Program} {ρ : Operand → Value} {w W0 : World} {S : List Nat} {l l' : List (Nat × Obj)} {R : Value → World → Prop} {d : Option Tmp} {ty : TypeId} {pos : String} {af : Array Edge} {g : Option (Nat × Bool)}

theorem o_move {x : Operand} {v : Value} (hx : ρ x = v) (h : R v w) : OpTo P ⟨d, .move x, ty, pos, af, g⟩ ρ w R := OpTo.val (v := v) (w' := w) (by simp [execOp, hx]) h
theorem o_assign {x : Operand} {v : Value} (hx : ρ x = v) (h : R v w) : OpTo P ⟨d, .assign x, ty, pos, af, g⟩ ρ w R := OpTo.val (v := v) (w' := w) (by simp [execOp, hx]) h
theorem o_pick {c x y : Operand} {b : Bool} {v u : Value} (hc : ρ c = .bool b) (hx : ρ x = v) (hy : ρ y = u) (h : R (if b then v else u) w) : OpTo P ⟨d, .pick c x y, ty, pos, af, g⟩ ρ w R :=
  OpTo.val (v := if b then v else u) (w' := w) (by simp [execOp, hc, hx, hy, asBool]) h
theorem o_pickT {c x y : Operand} {v : Value} (hc : ρ c = .bool true) (hx : ρ x = v) (h : R v w) : OpTo P ⟨d, .pick c x y, ty, pos, af, g⟩ ρ w R :=
  OpTo.val (v := v) (w' := w) (by simp [execOp, hc, hx, asBool]) h
theorem o_pickF {c x y : Operand} {v : Value} (hc : ρ c = .bool false) (hy : ρ y = v) (h : R v w) : OpTo P ⟨d, .pick c x y, ty, pos, af, g⟩ ρ w R :=
  OpTo.val (v := v) (w' := w) (by simp [execOp, hc, hy, asBool]) h

/-! integers -/
theorem o_add {t t' : TypeId} {x y : Operand} {k : IntKind} {m n s : Int} (hx : ρ x = .int k m) (hy : ρ y = .int k n) (hs : k.wrap (m + n) = s) (h : R (.int k s) w) : OpTo P ⟨d, .binOp .add t x y t', ty, pos, af, g⟩ ρ w R :=
  OpTo.val (v := .int k s) (w' := w) (by simp [execOp, eqGuard, binOp, Op.intArith, hx, hy, hs]) h
theorem o_sub {t t' : TypeId} {x y : Operand} {k : IntKind} {m n s : Int} (hx : ρ x = .int k m) (hy : ρ y = .int k n) (hs : k.wrap (m - n) = s) (h : R (.int k s) w) : OpTo P ⟨d, .binOp .sub t x y t', ty, pos, af, g⟩ ρ w R :=
  OpTo.val (v := .int k s) (w' := w) (by simp [execOp, eqGuard, binOp, Op.intArith, hx, hy, hs]) h
theorem o_mul {t t' : TypeId} {x y : Operand} {k : IntKind} {m n s : Int} (hx : ρ x = .int k m) (hy : ρ y = .int k n) (hs : k.wrap (m * n) = s) (h : R (.int k s) w) : OpTo P ⟨d, .binOp .mul t x y t', ty, pos, af, g⟩ ρ w R :=
  OpTo.val (v := .int k s) (w' := w) (by simp [execOp, eqGuard, binOp, Op.intArith, hx, hy, hs]) h
theorem o_quo {t t' : TypeId} {x y : Operand} {k : IntKind} {m n s : Int} (hx : ρ x = .int k m) (hy : ρ y = .int k n) (h0 : n ≠ 0) (hs : k.wrap (m.tdiv n) = s) (h : R (.int k s) w) : OpTo P ⟨d, .binOp .quo t x y t', ty, pos, af, g⟩ ρ w R :=
  OpTo.val (v := .int k s) (w' := w) (by simp [execOp, eqGuard, binOp, Op.intDiv, hx, hy, hs, h0]) h
theorem o_rem {t t' : TypeId} {x y : Operand} {k : IntKind} {m n s : Int} (hx : ρ x = .int k m) (hy : ρ y = .int k n) (h0 : n ≠ 0) (hs : m.tmod n = s) (h : R (.int k s) w) : OpTo P ⟨d, .binOp .rem t x y t', ty, pos, af, g⟩ ρ w R :=
  OpTo.val (v := .int k s) (w' := w) (by simp [execOp, eqGuard, binOp, Op.intDiv, hx, hy, hs, h0]) h
/-- the four operations on bits -/
def bitsOf (op : BinOp) (k : IntKind) (m n : Int) : Int :=
  match op with
  | .and => k.wrap (BitVec.ofInt k.bits m &&& BitVec.ofInt k.bits n).toNat
  | .or => k.wrap (BitVec.ofInt k.bits m ||| BitVec.ofInt k.bits n).toNat
  | .xor => k.wrap (BitVec.ofInt k.bits m ^^^ BitVec.ofInt k.bits n).toNat
  | _ => k.wrap (BitVec.ofInt k.bits m &&& ~~~ BitVec.ofInt k.bits n).toNat
theorem o_and {t t' : TypeId} {x y : Operand} {k : IntKind} {m n s : Int} (hx : ρ x = .int k m) (hy : ρ y = .int k n) (hs : bitsOf .and k m n = s) (h : R (.int k s) w) : OpTo P ⟨d, .binOp .and t x y t', ty, pos, af, g⟩ ρ w R := by
  subst hs; exact OpTo.val (v := .int k _) (w' := w) (by simp [execOp, eqGuard, binOp, Op.intBits, hx, hy, bitsOf]) h
theorem o_or {t t' : TypeId} {x y : Operand} {k : IntKind} {m n s : Int} (hx : ρ x = .int k m) (hy : ρ y = .int k n) (hs : bitsOf .or k m n = s) (h : R (.int k s) w) : OpTo P ⟨d, .binOp .or t x y t', ty, pos, af, g⟩ ρ w R := by
  subst hs; exact OpTo.val (v := .int k _) (w' := w) (by simp [execOp, eqGuard, binOp, Op.intBits, hx, hy, bitsOf]) h
theorem o_xor {t t' : TypeId} {x y : Operand} {k : IntKind} {m n s : Int} (hx : ρ x = .int k m) (hy : ρ y = .int k n) (hs : bitsOf .xor k m n = s) (h : R (.int k s) w) : OpTo P ⟨d, .binOp .xor t x y t', ty, pos, af, g⟩ ρ w R := by
  subst hs; exact OpTo.val (v := .int k _) (w' := w) (by simp [execOp, eqGuard, binOp, Op.intBits, hx, hy, bitsOf]) h
theorem o_andNot {t t' : TypeId} {x y : Operand} {k : IntKind} {m n s : Int} (hx : ρ x = .int k m) (hy : ρ y = .int k n) (hs : bitsOf .andNot k m n = s) (h : R (.int k s) w) : OpTo P ⟨d, .binOp .andNot t x y t', ty, pos, af, g⟩ ρ w R := by
  subst hs; exact OpTo.val (v := .int k _) (w' := w) (by simp [execOp, eqGuard, binOp, Op.intBits, hx, hy, bitsOf]) h
theorem o_shl {t t' : TypeId} {x y : Operand} {k k' : IntKind} {m n s : Int} (hx : ρ x = .int k m) (hy : ρ y = .int k' n) (h0 : 0 ≤ n) (hs : k.wrap (m * 2 ^ min n.toNat k.bits) = s) (h : R (.int k s) w) : OpTo P ⟨d, .binOp .shl t x y t', ty, pos, af, g⟩ ρ w R := by
  have h0' : ¬ n < 0 := by omega
  exact OpTo.val (v := .int k s) (w' := w) (by simp [execOp, eqGuard, binOp, Op.shift, hx, hy, hs, h0']) h
theorem o_shr {t t' : TypeId} {x y : Operand} {k k' : IntKind} {m n s : Int} (hx : ρ x = .int k m) (hy : ρ y = .int k' n) (h0 : 0 ≤ n) (hs : m.fdiv (2 ^ min n.toNat k.bits) = s) (h : R (.int k s) w) : OpTo P ⟨d, .binOp .shr t x y t', ty, pos, af, g⟩ ρ w R := by
  have h0' : ¬ n < 0 := by omega
  exact OpTo.val (v := .int k s) (w' := w) (by simp [execOp, eqGuard, binOp, Op.shift, hx, hy, hs, h0']) h
theorem o_eql {t t' : TypeId} {x y : Operand} {k : IntKind} {m n : Int} (hx : ρ x = .int k m) (hy : ρ y = .int k n) (h : R (.bool (m == n)) w) : OpTo P ⟨d, .binOp .eql t x y t', ty, pos, af, g⟩ ρ w R :=
  OpTo.val (v := .bool (m == n)) (w' := w) (by simp [execOp, eqGuard, binOp, Op.intCmp, hx, hy]) h
theorem o_neq {t t' : TypeId} {x y : Operand} {k : IntKind} {m n : Int} (hx : ρ x = .int k m) (hy : ρ y = .int k n) (h : R (.bool (m != n)) w) : OpTo P ⟨d, .binOp .neq t x y t', ty, pos, af, g⟩ ρ w R :=
  OpTo.val (v := .bool (m != n)) (w' := w) (by simp [execOp, eqGuard, binOp, Op.intCmp, hx, hy]) h
theorem o_lss {t t' : TypeId} {x y : Operand} {k : IntKind} {m n : Int} (hx : ρ x = .int k m) (hy : ρ y = .int k n) (h : R (.bool (decide (m < n))) w) : OpTo P ⟨d, .binOp .lss t x y t', ty, pos, af, g⟩ ρ w R :=
  OpTo.val (v := .bool (decide (m < n))) (w' := w) (by simp [execOp, eqGuard, binOp, Op.intCmp, hx, hy]) h
theorem o_leq {t t' : TypeId} {x y : Operand} {k : IntKind} {m n : Int} (hx : ρ x = .int k m) (hy : ρ y = .int k n) (h : R (.bool (decide (m ≤ n))) w) : OpTo P ⟨d, .binOp .leq t x y t', ty, pos, af, g⟩ ρ w R :=
  OpTo.val (v := .bool (decide (m ≤ n))) (w' := w) (by simp [execOp, eqGuard, binOp, Op.intCmp, hx, hy]) h
theorem o_gtr {t t' : TypeId} {x y : Operand} {k : IntKind} {m n : Int} (hx : ρ x = .int k m) (hy : ρ y = .int k n) (h : R (.bool (decide (n < m))) w) : OpTo P ⟨d, .binOp .gtr t x y t', ty, pos, af, g⟩ ρ w R :=
  OpTo.val (v := .bool (decide (n < m))) (w' := w) (by simp [execOp, eqGuard, binOp, Op.intCmp, hx, hy]) h
theorem o_geq {t t' : TypeId} {x y : Operand} {k : IntKind} {m n : Int} (hx : ρ x = .int k m) (hy : ρ y = .int k n) (h : R (.bool (decide (n ≤ m))) w) : OpTo P ⟨d, .binOp .geq t x y t', ty, pos, af, g⟩ ρ w R :=
  OpTo.val (v := .bool (decide (n ≤ m))) (w' := w) (by simp [execOp, eqGuard, binOp, Op.intCmp, hx, hy]) h
theorem o_not {t : TypeId} {x : Operand} {b : Bool} (hx : ρ x = .bool b) (h : R (.bool !b) w) : OpTo P ⟨d, .unOp .not t x, ty, pos, af, g⟩ ρ w R :=
  OpTo.val (v := .bool !b) (w' := w) (by simp [execOp, Op.unary, hx]) h
theorem o_neg {t : TypeId} {x : Operand} {k : IntKind} {n s : Int} (hx : ρ x = .int k n) (hs : k.wrap (0 - n) = s) (h : R (.int k s) w) : OpTo P ⟨d, .unOp .neg t x, ty, pos, af, g⟩ ρ w R :=
  OpTo.val (v := .int k s) (w' := w) (by simp only [execOp, Op.unary, Op.intArith, hx, hs, Sem.run_bind, Sem.run_pure, Result.andThen_ok]) h
theorem o_compl {t : TypeId} {x : Operand} {k : IntKind} {n s : Int} (hx : ρ x = .int k n) (hs : bitsOf .xor k (if k.signed then -1 else k.max) n = s) (h : R (.int k s) w) : OpTo P ⟨d, .unOp .xor t x, ty, pos, af, g⟩ ρ w R := by
  subst hs; exact OpTo.val (v := .int k _) (w' := w) (by simp only [execOp, Op.unary, Op.intBits, hx, Sem.run_bind, Sem.run_pure, Result.andThen_ok, bitsOf]) h
theorem o_conv {s t : TypeId} {x : Operand} {ds : TypeDesc} {k k' : IntKind} {n m : Int} (hx : ρ x = .int k n) [hs : TU P s ds] [ht : TU P t (.int k')] (hm : k'.wrap n = m) (h : R (.int k' m) w) : OpTo P ⟨d, .convert s t x, ty, pos, af, g⟩ ρ w R :=
  OpTo.val (v := .int k' m) (w' := w) (by cases ds <;> simp [execOp, convert, Conv.intToInt, hx, run_underlying hs.h, run_underlying ht.h, hm]) h
/-- bools -/
theorem o_eqlB {t t' : TypeId} {x y : Operand} {p q : Bool} (hx : ρ x = .bool p) (hy : ρ y = .bool q) [ht : TU P t .bool] (h : R (.bool (p == q)) w) : OpTo P ⟨d, .binOp .eql t x y t', ty, pos, af, g⟩ ρ w R :=
  OpTo.val (v := .bool (p == q)) (w' := w) (by simp [execOp, eqGuard, binOp, Op.equal, Op.maxDepth, hx, hy, run_equalIn_bool' w 9999 t p q ht.h]) h
theorem o_neqB {t t' : TypeId} {x y : Operand} {p q : Bool} (hx : ρ x = .bool p) (hy : ρ y = .bool q) [ht : TU P t .bool] (h : R (.bool !(p == q)) w) : OpTo P ⟨d, .binOp .neq t x y t', ty, pos, af, g⟩ ρ w R :=
  OpTo.val (v := .bool !(p == q)) (w' := w) (by simp [execOp, eqGuard, binOp, Op.equal, Op.maxDepth, hx, hy, run_equalIn_bool' w 9999 t p q ht.h]) h

/-! min, max of two -/
theorem o_min {x y : Operand} {ts : Array TypeId} {k : IntKind} {m n : Int} (hx : ρ x = .int k m) (hy : ρ y = .int k n) (h : R (.int k (if n < m then n else m)) w) : OpTo P ⟨d, .call ⟨.builtin .min, #[x, y], ts⟩, ty, pos, af, g⟩ ρ w R :=
  OpTo.val (v := .int k (if n < m then n else m)) (w' := w) (by simp [execOp, resolve, invoke, builtin, Builtin.min_, Builtin.min2, hx, hy]) h
theorem o_max {x y : Operand} {ts : Array TypeId} {k : IntKind} {m n : Int} (hx : ρ x = .int k m) (hy : ρ y = .int k n) (h : R (.int k (if m < n then n else m)) w) : OpTo P ⟨d, .call ⟨.builtin .max, #[x, y], ts⟩, ty, pos, af, g⟩ ρ w R :=
  OpTo.val (v := .int k (if m < n then n else m)) (w' := w) (by simp [execOp, resolve, invoke, builtin, Builtin.max_, Builtin.max2, hx, hy]) h
/-! len -/
theorem o_lenStr {x : Operand} {t : TypeId} {s : ByteArray} (hx : ρ x = .string s) [ht : TU P t .string] (h : R (.int .i64 s.size) w) : OpTo P ⟨d, .call ⟨.builtin .len, #[x], #[t]⟩, ty, pos, af, g⟩ ρ w R :=
  OpTo.val (v := .int .i64 s.size) (w' := w) (by simp [execOp, resolve, invoke, builtin, Builtin.len_, hx, run_underlying ht.h, goInt]) h
theorem o_lenSl {x : Operand} {t e : TypeId} {p : Option Addr} {n c : Nat} (hx : ρ x = .slice p n c) [ht : TU P t (.slice e)] (h : R (.int .i64 n) w) : OpTo P ⟨d, .call ⟨.builtin .len, #[x], #[t]⟩, ty, pos, af, g⟩ ρ w R :=
  OpTo.val (v := .int .i64 n) (w' := w) (by simp [execOp, resolve, invoke, builtin, Builtin.len_, hx, run_underlying ht.h, goInt]) h

/-! memory -/
theorem run_zeroC {t : TypeId} {cs : Array Value} (h : zeroC P t = some cs) : ∃ z, z.cells = cs ∧ (zeroValue t).run P w = .ok z w := by
  unfold zeroC at h
  cases hi : P.info? t with
  | none => simp [hi] at h
  | some i =>
    cases hz : i.zero with
    | none => simp [hi, hz] at h
    | some z => simp [hi, hz] at h; exact ⟨z, h, by simp [zeroValue, typeInfo, hi, hz]⟩

theorem o_alloc {t : TypeId} {cs : List Value} [hz : TZero P t cs] (M : Mem S W0 w l) (h : ∀ b w', Mem S W0 w' ((b, .cells cs.toArray t (0, 0)) :: l) → R (.pointer (some ⟨b, 0, none⟩)) w') : OpTo P ⟨d, .alloc t, ty, pos, af, g⟩ ρ w R := by
  obtain ⟨z, hzc, hr⟩ := run_zeroC (w := w) hz.h
  rw [← hzc] at h
  exact OpTo.val (v := .pointer (some ⟨w.heap.size, 0, none⟩)) (w' := w.alloc (.cells z.cells t)) (by simp [execOp, Instr.alloc, hr, newVar, newRow]) (h _ _ (M.alloc _))
theorem o_box {t : TypeId} {x : Operand} {v : Value} {cs : List Value} (M : Mem S W0 w l) (hx : ρ x = v) (hv : v.cells = cs.toArray) (h : ∀ b w', Mem S W0 w' ((b, .cells cs.toArray t (0, 0)) :: l) → R (.pointer (some ⟨b, 0, none⟩)) w') : OpTo P ⟨d, .box t x, ty, pos, af, g⟩ ρ w R := by
  rw [← hv] at h
  exact OpTo.val (v := .pointer (some ⟨w.heap.size, 0, none⟩)) (w' := w.alloc (.cells v.cells t)) (by simp [execOp, Instr.box, hx, newVar, newRow]) (h _ _ (M.alloc _))

theorem run_isAgg_one {t : TypeId} (h : oneTy P t = true) : (isAgg t).run P w = .ok false w := by
  unfold oneTy at h
  cases hu : P.underlying t with
  | none => simp [hu] at h
  | some dsc => cases dsc <;> simp [hu] at h <;> simp [isAgg, run_underlying hu]
theorem run_isAgg_agg {t : TypeId} {n : Nat} (h : aggTy P t n = true) : (isAgg t).run P w = .ok true w := by
  unfold aggTy at h
  cases hu : P.underlying t with
  | none => simp [hu] at h
  | some dsc => cases dsc <;> simp [hu] at h <;> simp [isAgg, run_underlying hu]
theorem run_sizeOf_agg {t : TypeId} {n : Nat} (h : aggTy P t n = true) : (sizeOf t).run P w = .ok n w := by
  unfold aggTy at h
  simp only [Bool.and_eq_true, beq_iff_eq] at h
  cases hi : P.info? t with
  | none => simp [hi] at h
  | some i => simp [hi] at h; simp [sizeOf, typeInfo, hi, h.2]

theorem cell_at {b off : Nat} {cs : Array Value} {t : TypeId} {fz : Nat × Nat} {v : Value} (hb : w.heap[b]? = some (.cells cs t fz)) (hv : cs[off]? = some v) : w.cell? ⟨b, off, none⟩ = some v := by
  simp [World.cell?, hb, hv]
theorem run_loadVar_one {t : TypeId} {ad : Addr} {v : Value} (ht : oneTy P t = true) (hc : w.cell? ad = some v) : (loadVar t ad).run P w = .ok v w := by
  simp [loadVar, run_isAgg_one ht, load, Sem.run, hc]

/-- n cells from off on, written in full. -/
def seg : List Value → Nat → Nat → Option (List Value)
  | _, 0, 0 => some []
  | x :: xs, 0, n + 1 => match seg xs 0 n with
    | some ys => some (x :: ys)
    | none => none
  | _ :: xs, off + 1, n => seg xs off n
  | [], _, _ => none
theorem seg_spec : ∀ (xs : List Value) (off n : Nat) (ys : List Value), seg xs off n = some ys → ys.length = n ∧ ∀ j, j < n → xs[off + j]? = ys[j]?
  | xs, 0, 0, ys, h => by cases xs <;> simp [seg] at h <;> subst h <;> simp
  | [], 0, n + 1, ys, h => by simp [seg] at h
  | [], off + 1, n, ys, h => by cases n <;> simp [seg] at h
  | x :: xs, off + 1, n, ys, h => by
    have h' : seg xs off n = some ys := by cases n <;> simpa [seg] using h
    have := seg_spec xs off n ys h'
    refine ⟨this.1, fun j hj => ?_⟩
    rw [show off + 1 + j = (off + j) + 1 by omega, List.getElem?_cons_succ]
    exact this.2 j hj
  | x :: xs, 0, n + 1, ys, h => by
    simp only [seg] at h
    cases hs : seg xs 0 n with
    | none => simp [hs] at h
    | some zs =>
      simp only [hs, Option.some.injEq] at h
      subst h
      have := seg_spec xs 0 n zs hs
      refine ⟨by simp [this.1], fun j hj => ?_⟩
      cases j with
      | zero => simp
      | succ j =>
        have := this.2 j (by omega)
        simpa using this
theorem seg_of (xs ys zs : List Value) : seg (xs ++ (ys ++ zs)) xs.length ys.length = some ys := by
  induction xs with
  | nil =>
    induction ys with
    | nil => cases zs <;> simp [seg]
    | cons y ys ih => simp only [List.nil_append] at ih ⊢; simp only [List.cons_append, List.length_cons, List.length_nil, seg] at ih ⊢; rw [ih]
  | cons x xs ih =>
    simp only [List.cons_append, List.length_cons]
    rw [seg]; exact ih

theorem run_loadVar_agg {t : TypeId} {b off n : Nat} {cs : Array Value} {t' : TypeId} {fz : Nat × Nat} {vs : List Value} (ht : aggTy P t n = true) (hb : w.heap[b]? = some (.cells cs t' fz)) (hv : seg cs.toList off n = some vs) :
    (loadVar t ⟨b, off, none⟩).run P w = .ok (.agg vs.toArray) w := by
  obtain ⟨hl, hat⟩ := seg_spec _ _ _ _ hv
  have := run_loadCells_list (P := P) w ⟨b, off, none⟩ vs (fun j v hj => by
    rw [addr_add]
    refine cell_at hb ?_
    have hlt : j < n := by rw [← hl]; exact (List.getElem?_eq_some_iff.1 hj).1
    have := hat j hlt
    rw [hj] at this
    simpa using this)
  rw [hl] at this
  simp [loadVar, run_isAgg_agg ht, run_sizeOf_agg ht, this]

theorem o_load {t : TypeId} {x : Operand} {ad : Addr} {v : Value} (hx : ρ x = .pointer (some ad)) (hl : (loadVar t ad).run P w = .ok v w) (h : R v w) : OpTo P ⟨d, .load t x, ty, pos, af, g⟩ ρ w R :=
  OpTo.val (v := v) (w' := w) (by simp [execOp, Instr.loadAt, Instr.sureAddr, hx, hl]) h
/-- the i-th of a list, written in full -/
def nth : List Value → Nat → Option Value
  | [], _ => none
  | x :: _, 0 => some x
  | _ :: xs, i + 1 => nth xs i
theorem nth_spec : ∀ (xs : List Value) (i : Nat), nth xs i = xs[i]?
  | [], _ => rfl
  | _ :: _, 0 => rfl
  | _ :: xs, i + 1 => by simpa [nth] using nth_spec xs i
/-- one cell of a block of ours -/
theorem o_load1 {t : TypeId} {x : Operand} {b off : Nat} {cs : List Value} {t' : TypeId} {fz : Nat × Nat} {v : Value} [ht : TOne P t] (M : Mem S W0 w l) (hx : ρ x = .pointer (some ⟨b, off, none⟩)) (hb : Has l b (.cells cs.toArray t' fz)) (hv : nth cs off = some v) (h : R v w) : OpTo P ⟨d, .load t x, ty, pos, af, g⟩ ρ w R :=
  o_load hx (run_loadVar_one ht.h (cell_at (M.heap hb) (by rw [nth_spec] at hv; simpa using hv))) h
theorem o_loadA {t : TypeId} {x : Operand} {b off n : Nat} {cs : List Value} {t' : TypeId} {fz : Nat × Nat} {vs : List Value} [ht : TAgg P t n] (M : Mem S W0 w l) (hx : ρ x = .pointer (some ⟨b, off, none⟩)) (hb : Has l b (.cells cs.toArray t' fz)) (hv : seg cs off n = some vs) (h : R (.agg vs.toArray) w) : OpTo P ⟨d, .load t x, ty, pos, af, g⟩ ρ w R :=
  o_load hx (run_loadVar_agg ht.h (M.heap hb) (by simpa using hv)) h

theorem run_sizeOf {t : TypeId} {n : Nat} (h : sizeIs P t n = true) : (sizeOf t).run P w = .ok n w := by
  unfold sizeIs at h
  cases hi : P.info? t with
  | none => simp [hi] at h
  | some i => simp [hi] at h; simp [sizeOf, typeInfo, hi, h]

/-- ys in the place of what stands from off on, written in full -/
def put : List Value → Nat → List Value → Option (List Value)
  | xs, 0, [] => some xs
  | _ :: xs, 0, y :: ys => match put xs 0 ys with
    | some zs => some (y :: zs)
    | none => none
  | x :: xs, off + 1, ys => match put xs off ys with
    | some zs => some (x :: zs)
    | none => none
  | [], _, _ => none
def splice (xs : List Value) (off : Nat) (ys : List Value) : List Value := xs.take off ++ (ys ++ xs.drop (off + ys.length))
theorem put_splice : ∀ (xs : List Value) (off : Nat) (ys zs : List Value), put xs off ys = some zs → off + ys.length ≤ xs.length ∧ zs = splice xs off ys
  | xs, 0, [], zs, h => by simp [put] at h; subst h; simp [splice]
  | [], 0, y :: ys, zs, h => by simp [put] at h
  | [], off + 1, ys, zs, h => by simp [put] at h
  | x :: xs, 0, y :: ys, zs, h => by
    simp only [put] at h
    cases hp : put xs 0 ys with
    | none => simp [hp] at h
    | some us =>
      simp only [hp, Option.some.injEq] at h
      subst h
      obtain ⟨h1, rfl⟩ := put_splice xs 0 ys us hp
      exact ⟨by simp at h1 ⊢; omega, by simp [splice, Nat.add_comm]⟩
  | x :: xs, off + 1, ys, zs, h => by
    simp only [put] at h
    cases hp : put xs off ys with
    | none => simp [hp] at h
    | some us =>
      simp only [hp, Option.some.injEq] at h
      subst h
      obtain ⟨h1, rfl⟩ := put_splice xs off ys us hp
      exact ⟨by simp at h1 ⊢; omega, by simp [splice, show off + 1 + ys.length = (off + ys.length) + 1 by omega]⟩
theorem put_of : ∀ (xs : List Value) (off : Nat) (ys : List Value), off + ys.length ≤ xs.length → put xs off ys = some (splice xs off ys)
  | xs, 0, [], _ => by simp [put, splice]
  | [], 0, y :: ys, h => by simp at h
  | [], off + 1, ys, h => by simp at h
  | x :: xs, 0, y :: ys, h => by
    simp only [put]
    rw [put_of xs 0 ys (by simp at h ⊢; omega)]
    simp [splice, Nat.add_comm]
  | x :: xs, off + 1, ys, h => by
    simp only [put]
    rw [put_of xs off ys (by simp at h; omega)]
    simp [splice, show off + 1 + ys.length = (off + ys.length) + 1 by omega]
theorem splice_set (xs : List Value) (off : Nat) (v : Value) (ys : List Value) (h : off < xs.length) : splice (xs.set off v) (off + 1) ys = splice xs off (v :: ys) := by
  unfold splice
  have h1 : (xs.set off v).take (off + 1) = xs.take off ++ [v] := by
    rw [List.take_set, List.take_succ_eq_append_getElem h, List.set_append]
    simp [Nat.min_eq_left (Nat.le_of_lt h)]
  have h2 : (xs.set off v).drop (off + 1 + ys.length) = xs.drop (off + 1 + ys.length) := List.drop_set_of_lt (by omega)
  rw [h1, h2]
  simp [show off + 1 + ys.length = off + (ys.length + 1) by omega]

theorem heap_set1 {b off : Nat} {cs : Array Value} {t' : TypeId} {v : Value} (hb : w.heap[b]? = some (.cells cs t' (0, 0))) : (w.setCell ⟨b, off, none⟩ v).heap[b]? = some (.cells (cs.setIfInBounds off v) t' (0, 0)) := by
  simp [World.setCell, Array.getElem?_modify, hb]
theorem run_store1 {b off : Nat} {cs : Array Value} {t' : TypeId} {v : Value} (hb : w.heap[b]? = some (.cells cs t' (0, 0))) (hlt : off < cs.size) (h1 : v.oneCell' = true) : (store ⟨b, off, none⟩ v : Sem Unit).run P w = .ok () (w.setCell ⟨b, off, none⟩ v) := by
  have hc : w.cell? ⟨b, off, none⟩ = some cs[off] := cell_at hb (Array.getElem?_eq_getElem hlt)
  have hf : w.frozen? ⟨b, off, none⟩ = false := by simp [World.frozen?, hb]
  rw [run_store P w _ v _ h1, hc]
  simp [hf]
theorem run_storeRow {b off : Nat} {t' : TypeId} : ∀ (vs : List Value) (i : Nat) (cs : List Value) (w : World), w.heap[b]? = some (.cells cs.toArray t' (0, 0)) → off + i + vs.length ≤ cs.length → (∀ v ∈ vs, v.oneCell' = true) →
    ∃ w', (storeCells ⟨b, off, none⟩ vs i).run P w = .ok () w' ∧ Ext [b] w w' ∧ w'.heap[b]? = some (.cells (splice cs (off + i) vs).toArray t' (0, 0))
  | [], i, cs, w, hb, _, _ => ⟨w, by simp [storeCells], Ext.refl _ _, by simp [splice, hb]⟩
  | v :: vs, i, cs, w, hb, hl, h1 => by
    have hlt : off + i < cs.length := by simp at hl; omega
    have hs := run_store1 (P := P) (off := off + i) hb (by simpa using hlt) (h1 v (by simp))
    have hb' : (w.setCell ⟨b, off + i, none⟩ v).heap[b]? = some (.cells (cs.set (off + i) v).toArray t' (0, 0)) := by
      rw [heap_set1 hb]; simp
    obtain ⟨w', hr, he, hh⟩ := run_storeRow (off := off) vs (i + 1) (cs.set (off + i) v) _ hb' (by simp at hl ⊢; omega) (fun u hu => h1 u (by simp [hu]))
    refine ⟨w', ?_, (Ext.setCell w ⟨b, off + i, none⟩ v).trans he, ?_⟩
    · simp only [storeCells, addr_add, Sem.run_bind, hs, Result.andThen_ok, hr]
    · rw [hh, show off + (i + 1) = off + i + 1 by omega, splice_set _ _ _ _ hlt]

theorem o_store1E {t : TypeId} {x y : Operand} {b off : Nat} {cs cs' : List Value} {t' : TypeId} {v : Value} [hs : TSz P t 1] (M : Mem S W0 w l) (hx : ρ x = .pointer (some ⟨b, off, none⟩)) (hy : ρ y = v) (h1 : v.oneCell' = true) (hb : Has l b (.cells cs.toArray t' (0, 0))) (hp : put cs off [v] = some cs')
    (hu : Upd l b (.cells cs.toArray t' (0, 0)) (.cells cs'.toArray t' (0, 0)) l') (h : ∀ w', Ext [b] w w' → Mem S W0 w' l' → R undef w') : OpTo P ⟨d, .store t x y, ty, pos, af, g⟩ ρ w R := by
  obtain ⟨hle, rfl⟩ := put_splice _ _ _ _ hp
  have hvc : v.cells = #[v] := by cases v <;> simp_all [Value.oneCell', Value.cells]
  obtain ⟨w', hr, he, hh⟩ := run_storeRow (P := P) (off := off) [v] 0 cs w (M.heap hb) (by simpa using hle) (by simpa using h1)
  refine OpTo.skip (w' := w') ?_ (h _ he (M.turned hu he (by simpa using hh)))
  simp only [execOp, Instr.storeAt, Instr.sureAddr, hx, hy, storeVar, Sem.run_bind, Sem.run_pure, Result.andThen_ok, run_sizeOf hs.h, hvc]
  simp [hr]
theorem o_store1 {t : TypeId} {x y : Operand} {b off : Nat} {cs cs' : List Value} {t' : TypeId} {v : Value} [hs : TSz P t 1] (M : Mem S W0 w l) (hx : ρ x = .pointer (some ⟨b, off, none⟩)) (hy : ρ y = v) (h1 : v.oneCell' = true) (hb : Has l b (.cells cs.toArray t' (0, 0))) (hp : put cs off [v] = some cs')
    (hu : Upd l b (.cells cs.toArray t' (0, 0)) (.cells cs'.toArray t' (0, 0)) l') (h : ∀ w', Mem S W0 w' l' → R undef w') : OpTo P ⟨d, .store t x y, ty, pos, af, g⟩ ρ w R :=
  o_store1E M hx hy h1 hb hp hu fun w' _ => h w'
theorem o_storeA {t : TypeId} {x y : Operand} {b off n : Nat} {cs cs' vs : List Value} {t' : TypeId} [hs : TAgg P t n] (M : Mem S W0 w l) (hx : ρ x = .pointer (some ⟨b, off, none⟩)) (hy : ρ y = .agg vs.toArray) (hn : vs.length = n) (h1 : vs.all (·.oneCell') = true) (hb : Has l b (.cells cs.toArray t' (0, 0))) (hp : put cs off vs = some cs')
    (hu : Upd l b (.cells cs.toArray t' (0, 0)) (.cells cs'.toArray t' (0, 0)) l') (h : ∀ w', Mem S W0 w' l' → R undef w') : OpTo P ⟨d, .store t x y, ty, pos, af, g⟩ ρ w R := by
  obtain ⟨hle, rfl⟩ := put_splice _ _ _ _ hp
  obtain ⟨w', hr, he, hh⟩ := run_storeRow (P := P) (off := off) vs 0 cs w (M.heap hb) (by simpa using hle) (fun v hv => List.all_eq_true.1 h1 v hv)
  refine OpTo.skip (w' := w') ?_ (h _ (M.turned hu he (by simpa using hh)))
  simp only [execOp, Instr.storeAt, Instr.sureAddr, hx, hy, storeVar, Sem.run_bind, Sem.run_pure, Result.andThen_ok, run_sizeOf_agg hs.h, Value.cells]
  simp [hr, hn]

/-! addresses -/
theorem o_fieldAddr {s : TypeId} {x : Operand} {i b o off : Nat} (hx : ρ x = .pointer (some ⟨b, o, none⟩)) [hf' : TFld P s i off] (h : R (.pointer (some ⟨b, o + off, none⟩)) w) : OpTo P ⟨d, .fieldAddr s x i, ty, pos, af, g⟩ ρ w R := by
  have hf := hf'.h
  unfold fieldAtB at hf
  split at hf
  · rename_i fs hu
    split at hf
    · rename_i f hfi
      simp only [Bool.and_eq_true, beq_iff_eq] at hf
      obtain ⟨rfl, hf2⟩ := hf
      split at hf2
      · rename_i i0 hi0
        have hz : ¬ i0.size = 0 := by simpa using hf2
        exact OpTo.val (v := .pointer (some ⟨b, o + f.offset, none⟩)) (w' := w) (by simp [execOp, Instr.fieldAt, Instr.sureAddr, hx, run_underlying hu, hfi, fieldPlace, sizeOf, typeInfo, hi0, hz, addr_add]) h
      · cases hf2
    · cases hf
  · cases hf
theorem o_indexArr {t e : TypeId} {x i : Operand} {k : IntKind} {b o len sz : Nat} {j : Int} (hx : ρ x = .pointer (some ⟨b, o, none⟩)) (hi : ρ i = .int k j) [ht : TU P t (.array len e)] [hs : TSz P e sz] (h0 : 0 ≤ j) (h1 : j < len) (h : R (.pointer (some ⟨b, o + j.toNat * sz, none⟩)) w) : OpTo P ⟨d, .indexAddr t x i, ty, pos, af, g⟩ ρ w R :=
  OpTo.val (v := .pointer (some ⟨b, o + j.toNat * sz, none⟩)) (w' := w) (by simp [execOp, Instr.indexAt, Instr.sureAddr, asIntOf, hx, hi, run_underlying ht.h, h0, h1, run_sizeOf hs.h, addr_add]) h
theorem o_indexSl {t e : TypeId} {x i : Operand} {k : IntKind} {b o len cap sz : Nat} {j : Int} (hx : ρ x = .slice (some ⟨b, o, none⟩) len cap) (hi : ρ i = .int k j) [ht : TU P t (.slice e)] [hs : TSz P e sz] (h0 : 0 ≤ j) (h1 : j < len) (h : R (.pointer (some ⟨b, o + j.toNat * sz, none⟩)) w) : OpTo P ⟨d, .indexAddr t x i, ty, pos, af, g⟩ ρ w R :=
  OpTo.val (v := .pointer (some ⟨b, o + j.toNat * sz, none⟩)) (w' := w) (by simp [execOp, Instr.indexAt, asIntOf, hx, hi, run_underlying ht.h, h0, h1, run_sizeOf hs.h, addr_add]) h
def okNil : Value → Bool
  | .pointer (some _) | .bool _ | .int _ _ | .string _ | .slice _ _ _ | .map _ | .agg _ => true
  | .func (.func _) _ _ => true
  | .func (.yield _) _ _ => true
  | _ => false
theorem o_nilCheck {x : Operand} {v : Value} (hx : ρ x = v) (hv : okNil v = true) (h : R v w) : OpTo P ⟨d, .nilCheck x, ty, pos, af, g⟩ ρ w R := by
  refine OpTo.val (v := v) (w' := w) ?_ h
  unfold okNil at hv
  split at hv <;> first | (simp [execOp, hx]; done) | cases hv
theorem o_extract {x : Operand} {vs : List Value} {i : Nat} {v : Value} (hx : ρ x = .tuple vs.toArray) (hv : nth vs i = some v) (h : R v w) : OpTo P ⟨d, .extract x i, ty, pos, af, g⟩ ρ w R := by
  rw [nth_spec] at hv
  exact OpTo.val (v := v) (w' := w) (by simp [execOp, Instr.extract, hx, hv]) h
theorem o_makeFunc {fn : Fn} {first cap : Array Operand} {vs us : Array Value} (h1 : first.map ρ = vs) (h2 : cap.map ρ = us) (h : R (.func fn vs us) w) : OpTo P ⟨d, .makeFunc fn first cap, ty, pos, af, g⟩ ρ w R :=
  OpTo.val (v := .func fn vs us) (w' := w) (by simp [execOp, Instr.makeFunc, h1, h2]) h

/-! calls -/
theorem run_callFunc {f : FuncId} (h : hasBody P f = true) (args : Array Value) (w : World) : (callFunc f args).run P w = .ok (.enter f args) w := by
  unfold hasBody at h
  cases hf : P.funcs[f]? with
  | none => simp [hf] at h
  | some fn =>
    simp only [hf, Bool.and_eq_true, Bool.not_eq_true'] at h
    obtain ⟨c, hc⟩ := Option.isSome_iff_exists.1 h.1
    have hn : ¬ fn.name = "runtime.NumGoroutine" := by simpa using h.2
    simp [callFunc, hf, hn, hc]
theorem o_call {c : Operand} {f : FuncId} {xs : Array Operand} {ts : Array TypeId} {vs : Array Value} (hc : ρ c = .func (.func f) #[] #[]) [hb : TBody P f] (ha : xs.map ρ = vs) (h : Cal P f vs w R) : OpTo P ⟨d, .call ⟨.value c, xs, ts⟩, ty, pos, af, g⟩ ρ w R :=
  OpTo.enter (w' := w) (by simp [execOp, resolve, invoke, Deferred.ofValue, hc, ha, run_callFunc hb.h]) h
/-- a closure: what it has captured comes behind its arguments -/
theorem o_callCl {c : Operand} {f : FuncId} {xs : Array Operand} {ts : Array TypeId} {vs cap us : Array Value} (hc : ρ c = .func (.func f) #[] cap) [hb : TBody P f] (ha : xs.map ρ = vs) (hu : vs ++ cap = us) (h : Cal P f us w R) : OpTo P ⟨d, .call ⟨.value c, xs, ts⟩, ty, pos, af, g⟩ ρ w R :=
  OpTo.enter (w' := w) (by simp [execOp, resolve, invoke, Deferred.ofValue, hc, ha, hu, run_callFunc hb.h]) h
end ops

/-! when an integer fits -/
theorem w_i64 {x : Int} (h1 : -9223372036854775808 ≤ x) (h2 : x ≤ 9223372036854775807) : IntKind.i64.wrap x = x := by simp only [IntKind.wrap, IntKind.signed, IntKind.bits, Bool.true_and, Bool.false_and, decide_eq_true_eq, ge_iff_le, Bool.false_eq_true, if_false]; first | omega | (split <;> omega)
theorem w_u8 {x : Int} (h1 : 0 ≤ x) (h2 : x ≤ 255) : IntKind.u8.wrap x = x := by simp only [IntKind.wrap, IntKind.signed, IntKind.bits, Bool.true_and, Bool.false_and, decide_eq_true_eq, ge_iff_le, Bool.false_eq_true, if_false]; first | omega | (split <;> omega)
theorem w_u16 {x : Int} (h1 : 0 ≤ x) (h2 : x ≤ 65535) : IntKind.u16.wrap x = x := by simp only [IntKind.wrap, IntKind.signed, IntKind.bits, Bool.true_and, Bool.false_and, decide_eq_true_eq, ge_iff_le, Bool.false_eq_true, if_false]; first | omega | (split <;> omega)
theorem w_u32 {x : Int} (h1 : 0 ≤ x) (h2 : x ≤ 4294967295) : IntKind.u32.wrap x = x := by simp only [IntKind.wrap, IntKind.signed, IntKind.bits, Bool.true_and, Bool.false_and, decide_eq_true_eq, ge_iff_le, Bool.false_eq_true, if_false]; first | omega | (split <;> omega)
theorem w_u64 {x : Int} (h1 : 0 ≤ x) (h2 : x ≤ 18446744073709551615) : IntKind.u64.wrap x = x := by simp only [IntKind.wrap, IntKind.signed, IntKind.bits, Bool.true_and, Bool.false_and, decide_eq_true_eq, ge_iff_le, Bool.false_eq_true, if_false]; first | omega | (split <;> omega)
theorem w_i32 {x : Int} (h1 : -2147483648 ≤ x) (h2 : x ≤ 2147483647) : IntKind.i32.wrap x = x := by simp only [IntKind.wrap, IntKind.signed, IntKind.bits, Bool.true_and, Bool.false_and, decide_eq_true_eq, ge_iff_le, Bool.false_eq_true, if_false]; first | omega | (split <;> omega)

theorem fn_ofM {P : Program} {f : FuncId} {fn : Func} {c : Code} {vs : List Value} {W : World} {R : Value → World → Prop} {n : Nat} (S : List Nat)
    (hf : P.funcs[f]? = some fn) (hb : fn.body = some c) (hn : fn.ntmps = n) (hle : Nat.ble vs.length n = true)
    (h : ∀ a w, Frm a n [] (number 0 vs) → Mem S W w [] → w = W → Wp none P c (Post P fn R) a w) : Cal P f vs.toArray W R :=
  fn_of hf hb hn hle fun a F => h a W F (Mem.start S W) rfl

/-! several operands at once -/
def evL (fr : List (Nat × Value)) : List Operand → Option (List Value)
  | [] => some []
  | x :: xs => match Ev fr x, evL fr xs with
    | some v, some vs => some (v :: vs)
    | _, _ => none
theorem Frm.evs {a : Act} {n : Nat} {df : List Deferred} {fr : List (Nat × Value)} (F : Frm a n df fr) : ∀ {xs : List Operand} {vs : List Value}, evL fr xs = some vs → xs.toArray.map a.eval = vs.toArray
  | [], vs, h => by simp [evL] at h; subst h; simp
  | x :: xs, vs, h => by
    simp only [evL] at h
    cases hx : Ev fr x with
    | none => simp [hx] at h
    | some v =>
      cases hr : evL fr xs with
      | none => simp [hx, hr] at h
      | some us =>
        simp only [hx, hr, Option.some.injEq] at h
        subst h
        have := F.evs hr
        simp only [List.map_toArray, List.map_cons, F.ev hx] at this ⊢
        simp_all
end Go.Proofs.YtadnpidadcgdcaaDoor

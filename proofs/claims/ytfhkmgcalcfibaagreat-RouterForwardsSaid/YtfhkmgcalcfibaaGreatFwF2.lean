/-
  Texts joined.
-/
import Derived.Test.YtfhkmgcalcfibaaGreatFwF1
import Derived.Laws.Externs
import Derived.Lib.Overlaps
import Derived.Lib.BytesEntry
import Derived.MapKept
import Derived.Shelf.SlSortCmp.WholeK
import Derived.Shelf.SlSortCmp.NoneTotal
set_option linter.unusedVariables false
set_option linter.unusedSimpArgs false
namespace Go.Proofs.YtfhkmgcalcfibaaGreat
open Go.RowKit
theorem Zmp : ∀ (cs : List Value) (off n : Nat), seg cs off n = if off + n ≤ cs.length then some ((cs.drop off).take n) else none
 | [], 0, 0 => by simp [seg]
 | [], 0, n + 1 => by simp [seg]
 | [], off + 1, n => by simp [seg]
 | x :: xs, 0, 0 => by simp [seg]
 | x :: xs, 0, n + 1 => by
  rw [seg, Zmp xs 0 n]
  by_cases h : n ≤ xs.length
  ·rw [if_pos (by omega), if_pos (by simp;omega)];simp
  ·rw [if_neg (by omega), if_neg (by simp;omega)]
 | x :: xs, off + 1, n => by
  rw [seg, Zmp xs off n]
  by_cases h : off + n ≤ xs.length
  ·rw [if_pos h, if_pos (by simp;omega)];simp
  ·rw [if_neg h, if_neg (by simp;omega)]
theorem ZbP {cs ys zs : List Value} {o n off k q : Nat} (h : seg cs o n = some ys) (h2 : seg ys off k = some zs) (hq : q = o + off) : seg cs q k = some zs := by
 subst hq
 rw [Zmp] at *
 split at h
 ·rename_i h1
  simp only [Option.some.injEq] at h
  subst h
  split at h2
  ·rename_i h3
   simp only [List.length_take, List.length_drop] at h3
   simp only [Option.some.injEq] at h2
   subst h2
   rw [if_pos (by omega)]
   congr 1
   rw [List.drop_take, List.take_take, List.drop_drop]
   congr 1
   omega
  ·cases h2
 ·cases h
theorem Zhe {cs ys : List Value} {o n off q : Nat} {v : Value} (h : seg cs o n = some ys) (h2 : nth ys off = some v) (hq : q = o + off) : nth cs q = some v := by
 subst hq
 obtain ⟨h3, h4⟩ := Zc5 _ _ _ _ h
 rw [ZbG] at *
 have hlt : off < n := by rw [← h3];exact (List.getElem?_eq_some_iff.1 h2).1
 rw [h4 off hlt, h2]
theorem ZfE {xs : List Value} {k : Nat} (h : xs.length = k) : seg xs 0 k = some xs := by
 rw [Zmp, if_pos (by omega)];simp [← h]
def encL {α : Type} (enc : α → List Value) (ls : List α) : List Value := ls.flatMap enc
theorem ZqJ {α : Type} (enc : α → List Value) : encL enc [] = [] := rfl
theorem Zf2 {α : Type} (enc : α → List Value) (xs ys : List α) : encL enc (xs ++ ys) = encL enc xs ++ encL enc ys := by simp [encL]
theorem Zdb {α : Type} (enc : α → List Value) (x : α) (ys : List α) : encL enc (x :: ys) = enc x ++ encL enc ys := by simp [encL]
theorem Zjm {α : Type} (enc : α → List Value) (x : α) : encL enc [x] = enc x := by simp [encL]
theorem Zdy {α : Type} {enc : α → List Value} {sz : Nat} {ls : List α} (h : ∀ x ∈ ls, (enc x).length = sz) : (encL enc ls).length = ls.length * sz := by
 induction ls with
 | nil => simp [encL]
 | cons x ls ih =>
  rw [Zdb, List.length_append, h x (by simp), ih fun y hy => h y (by simp [hy]), List.length_cons, Nat.add_mul];omega
theorem ZoO {α : Type} {enc : α → List Value} {sz : Nat} {ls : List α} (h : ∀ x ∈ ls, (enc x).length = sz) (i : Nat) : (encL enc ls).take (i * sz) = encL enc (ls.take i) := by
 rcases Nat.lt_or_ge i ls.length with hi | hi
 ·conv => lhs;rw [← List.take_append_drop i ls, Zf2]
  have := Zdy (ls := ls.take i) (sz := sz) (enc := enc) fun x hx => h x (List.mem_of_mem_take hx)
  rw [List.length_take, Nat.min_eq_left (by omega)] at this
  rw [← this, List.take_left']
  rfl
 ·rw [List.take_of_length_le hi, List.take_of_length_le]
  rw [Zdy h];exact Nat.mul_le_mul_right _ hi
theorem ZoP {α : Type} {enc : α → List Value} {sz : Nat} {ls : List α} (h : ∀ x ∈ ls, (enc x).length = sz) (i : Nat) : (encL enc ls).drop (i * sz) = encL enc (ls.drop i) := by
 have h1 := List.take_append_drop (i * sz) (encL enc ls)
 have h2 : encL enc (ls.take i) ++ encL enc (ls.drop i) = encL enc ls := by rw [← Zf2, List.take_append_drop]
 rw [ZoO h] at h1
 exact List.append_cancel_left (h1.trans h2.symm)
theorem Zeo {α : Type} {enc : α → List Value} {ls : List α} (h : ∀ x ∈ ls, (enc x).all (·.oneCell') = true) : (encL enc ls).all (·.oneCell') = true := by
 simp only [encL, List.all_eq_true, List.mem_flatMap] at *
 rintro v ⟨x, hx, hv⟩
 exact h x hx v hv
theorem Za0 {α : Type} {enc : α → List Value} {sz : Nat} {ls : List α} (hsz : ∀ x ∈ ls, (enc x).length = sz) {cs : List Value} {o n : Nat} (h : seg cs o (n * sz) = some (encL enc ls)) {i : Nat} (hi : i < ls.length) {q : Nat} (hq : q = o + i * sz) : seg cs q sz = some (enc ls[i]) := by
 refine ZbP h ?_ hq
 have hl := Zdy hsz
 have hi' : i * sz + sz ≤ ls.length * sz := by rw [← Nat.succ_mul];exact Nat.mul_le_mul_right _ hi
 rw [Zmp, if_pos (by omega), ZoP hsz, List.drop_eq_getElem_cons hi, Zdb]
 congr 1
 rw [← hsz ls[i] (List.getElem_mem hi), List.take_left']
 rfl
def SlAt (W : World) (sz : Nat) (v : Value) (n : Nat) (xs : List Value) : Prop :=
 ∃ p cap, v = .slice p n cap ∧ n ≤ cap ∧ (∀ a : Addr, p = some a → True) ∧ xs.length = n * sz ∧ (0 < n → ∃ b o cs t fz, p = some ⟨b, o, none⟩ ∧ W.heap[b]? = some (.cells (List.toArray cs) t fz) ∧ seg cs o (n * sz) = some xs)
theorem SlAt.later {W w : World} {sz : Nat} {v : Value} {n : Nat} {xs : List Value} (h : SlAt W sz v n xs) (E : Ext [] W w) : SlAt w sz v n xs := by
 obtain ⟨p, cap, h1, h2, h3, h4, h5⟩ := h
 refine ⟨p, cap, h1, h2, h3, h4, fun hn => ?_⟩
 obtain ⟨b, o, cs, t, fz, h6, h7, h8⟩ := h5 hn
 exact ⟨b, o, cs, t, fz, h6, by rw [E.block b (Array.getElem?_eq_some_iff.1 h7).1 (by simp)];exact h7, h8⟩
theorem SlAt.nil (W : World) (sz : Nat) : SlAt W sz (.slice none 0 0) 0 [] := ⟨none, 0, rfl, Nat.le_refl _, by simp, by simp, fun h => absurd h (by omega)⟩
theorem OwnS.slAt {e : TypeId} {sz : Nat} {v : Value} {n : Nat} {xs : List Value} {ent : List (Nat × Obj)} (h : OwnS e sz v n xs ent) {S : List Nat} {W0 w : World} {l : List (Nat × Obj)} (M : Mem S W0 w l) (hs : ∀ p ∈ ent, p ∈ l) : SlAt w sz v n xs := by
 rcases h with ⟨rfl, rfl, rfl, rfl⟩ | ⟨b, cap, junk, rfl, rfl, hxl, hjl, hnc⟩
 ·exact SlAt.nil _ _
 ·refine ⟨_, _, rfl, hnc, by simp, hxl, fun _ => ⟨b, 0, xs ++ junk, e, (0, 0), rfl, M.at_ (b, _) (hs _ (by simp)), ?_⟩⟩
  have := Zhf [] xs junk
  simpa [hxl] using this
theorem SlAt.src {P : Program} {W : World} {sz : Nat} {v : Value} {n : Nat} {xs : List Value} (h : SlAt W sz v n xs) (h1 : xs.all (·.oneCell') = true) : Zdo P W v n sz xs := by
 obtain ⟨p, cap, rfl, h2, h3, h4, h5⟩ := h
 rcases Nat.eq_zero_or_pos n with hn | hn
 ·subst hn
  have : xs = [] := List.length_eq_zero_iff.1 (by simpa using h4)
  subst this
  refine ⟨by simp [Builtin.lenOf], fun d => ?_, by simp, by simp⟩
  cases p with
  | none => simp [Builtin.firstCells]
  | some a => exact run_firstCells_some _ sz 0 _ _ _ [] (by simp) (fun j v hj => by simp at hj)
 ·obtain ⟨b, o, cs, t, fz, rfl, h7, h8⟩ := h5 hn
  exact Zdo.cells' h7 h8 h1
section
variable {P : Program} {ρ : Operand → Value} {w W0 : World} {S : List Nat} {l l' : List (Nat × Obj)} {R : Value → World → Prop} {d : Option Tmp} {ty : TypeId} {pos : String} {af : Array Edge} {g : Option (Nat × Bool)}
theorem ZlL {t : TypeId} {x : Operand} {b off n : Nat} {cs : List Value} {t' : TypeId} {fz : Nat × Nat} {vs : List Value} [ht : TAgg P t n] (M : Mem [] W0 w l) (hx : ρ x = .pointer (some ⟨b, off, none⟩)) (hb : W0.heap[b]? = some (.cells cs.toArray t' fz)) (hv : seg cs off n = some vs) (h : R (.agg vs.toArray) w) : OpTo P ⟨d, .load t x, ty, pos, af, g⟩ ρ w R :=
 Zhr hx (ZaP ht.h ((M.ext.block b (Array.getElem?_eq_some_iff.1 hb).1 (by simp)).trans hb) (by simpa using hv)) h
theorem ZnZ {x : Operand} {t e : TypeId} {p : Option Addr} {n c : Nat} (hx : ρ x = .slice p n c) [ht : TU P t (.slice e)] (h : R (.int .i64 c) w) : OpTo P ⟨d, .call ⟨.builtin .cap, #[x], #[t]⟩, ty, pos, af, g⟩ ρ w R :=
 OpTo.val (v := .int .i64 c) (w' := w) (by simp [execOp, resolve, invoke, builtin, hx, Builtin.cap_, run_underlying ht.h, goInt]) h
theorem Zsa {c : Operand} {f : FuncId} {fn : Func} {e : Array Value → Sem Value} {xs : Array Operand} {ts : Array TypeId} {vs : Array Value} {v : Value} (hc : ρ c = .func (.func f) #[] #[]) (hf : P.funcs[f]? = some fn) (hname : (fn.name == "runtime.NumGoroutine") = false)
  (hb : fn.body.isNone = true) (hn : Extern.findNext fn = none) (he : Extern.find fn = some e) (ha : xs.map ρ = vs) (hr : (e vs).run P w = .ok v w) (h : R v w) : OpTo P ⟨d, .call ⟨.value c, xs, ts⟩, ty, pos, af, g⟩ ρ w R := by
 refine OpTo.val (v := v) (w' := w) ?_ h
 have := run_callFunc_extern hf hname hb hn he vs w
 rw [hr] at this
 simp [execOp, resolve, invoke, Deferred.ofValue, hc, ha, this]
end
def cmpL : List Int → List Int → Int
 | [], [] => 0
 | [], _ :: _ => -1
 | _ :: _, [] => 1
 | x :: xs, y :: ys => if x < y then -1 else if y < x then 1 else cmpL xs ys
theorem ZhA (n : Nat) (p : Nat → Bool) : (List.range (n + 1)).find? p = if p 0 then some 0 else ((List.range n).find? fun i => p (i + 1)).map (· + 1) := by
 rw [List.range_succ_eq_map, List.find?_cons]
 cases h : p 0 with
 | true => simp
 | false => simp [List.find?_map];rfl
theorem Zpe (bs : List UInt8) (i : Nat) : (⟨bs.toArray⟩ : ByteArray)[i]! = bs.getD i default := by
 rw [getElem!_def]
 rcases Nat.lt_or_ge i bs.length with h | h
 ·rw [Zsh h];simp [h]
 ·have : (⟨bs.toArray⟩ : ByteArray)[i]? = none := by
   rw [getElem?_neg]
   rw [Zel];omega
  rw [this];simp [h]
theorem Zmc : ∀ (xs ys : List UInt8), Extern.BytealgCompare.cmp ⟨xs.toArray⟩ ⟨ys.toArray⟩ = cmpL (xs.map fun c => (c.toNat : Int)) (ys.map fun c => (c.toNat : Int))
 | [], [] => by decide
 | [], y :: ys => by
  unfold Extern.BytealgCompare.cmp
  rw [Zel, Zel]
  simp [cmpL]
 | x :: xs, [] => by
  unfold Extern.BytealgCompare.cmp
  rw [Zel, Zel]
  simp [cmpL]
 | x :: xs, y :: ys => by
  have ih := Zmc xs ys
  unfold Extern.BytealgCompare.cmp at *
  rw [Zel, Zel] at *
  simp only [List.length_cons] at *
  have hm : min (xs.length + 1) (ys.length + 1) = min xs.length ys.length + 1 := by omega
  rw [hm, ZhA]
  have hg0 : ∀ (z : UInt8) (zs : List UInt8), (⟨(z :: zs).toArray⟩ : ByteArray)[0]! = z := fun z zs => by rw [Zpe];rfl
  have hg1 : ∀ (z : UInt8) (zs : List UInt8) (i : Nat), (⟨(z :: zs).toArray⟩ : ByteArray)[i + 1]! = (⟨zs.toArray⟩ : ByteArray)[i]! := by
   intro z zs i
   rw [Zpe, Zpe];simp
  simp only [hg0, hg1]
  by_cases hxy : x = y
  ·subst hxy
   simp only [bne_self_eq_false, Bool.false_eq_true, if_false, List.map_cons, cmpL, Int.lt_irrefl]
   rw [← ih]
   cases List.find? (fun i => (⟨xs.toArray⟩ : ByteArray)[i]! != (⟨ys.toArray⟩ : ByteArray)[i]!) (List.range (min xs.length ys.length)) with
   | none => simp
   | some i => simp [hg1]
  ·have hne : (x != y) = true := by simpa using hxy
   simp only [hne, if_true, hg0, List.map_cons, cmpL]
   have hnn : x.toNat ≠ y.toNat := fun h => hxy (UInt8.toNat_inj.1 h)
   by_cases hlt : x < y
   ·have : x.toNat < y.toNat := hlt
    rw [if_pos hlt, if_pos (by omega)]
   ·have : ¬ x.toNat < y.toNat := hlt
    rw [if_neg hlt, if_neg (by omega), if_pos (by omega)]
theorem ZhI : ∀ xs : List Int, cmpL xs xs = 0
 | [] => rfl
 | x :: xs => by simp [cmpL, ZhI xs]
theorem Zkm : ∀ xs ys : List Int, cmpL ys xs = - cmpL xs ys
 | [], [] => rfl
 | [], _ :: _ => rfl
 | _ :: _, [] => rfl
 | x :: xs, y :: ys => by
  simp only [cmpL]
  rcases Int.lt_trichotomy x y with h | h | h
  ·rw [if_neg (by omega), if_pos h, if_pos h];rfl
  ·subst h;simp [Zkm xs ys]
  ·rw [if_pos h, if_neg (by omega), if_pos h]
theorem ZhH : ∀ {xs ys : List Int}, cmpL xs ys = 0 → xs = ys
 | [], [], _ => rfl
 | [], _ :: _, h => by simp [cmpL] at h
 | _ :: _, [], h => by simp [cmpL] at h
 | x :: xs, y :: ys, h => by
  simp only [cmpL] at h
  split at h
  ·cases h
  ·split at h
   ·cases h
   ·rw [ZhH h, show x = y by omega]
theorem ZdA : ∀ {xs ys zs : List Int}, cmpL xs ys < 0 → cmpL ys zs < 0 → cmpL xs zs < 0
 | [], [], _, h, _ => by simp [cmpL] at h
 | [], _ :: _, [], _, h => by simp [cmpL] at h
 | [], _ :: _, _ :: _, _, _ => by simp [cmpL]
 | _ :: _, [], _, h, _ => by simp [cmpL] at h
 | _ :: _, _ :: _, [], _, h => by simp [cmpL] at h
 | x :: xs, y :: ys, z :: zs, h, k => by
  simp only [cmpL] at *
  rcases Int.lt_trichotomy x y with h1 | h1 | h1
  ·rcases Int.lt_trichotomy y z with k1 | k1 | k1
   ·rw [if_pos (by omega)];omega
   ·subst k1;rw [if_pos h1];omega
   ·rw [if_neg (by omega), if_pos k1] at k;omega
  ·subst h1
   rw [if_neg (by omega), if_neg (by omega)] at h
   rcases Int.lt_trichotomy x z with k1 | k1 | k1
   ·rw [if_pos k1];omega
   ·subst k1
    rw [if_neg (by omega), if_neg (by omega)] at *
    exact ZdA h k
   ·rw [if_neg (by omega), if_pos k1] at k;omega
  ·rw [if_neg (by omega), if_pos h1] at h;omega
theorem Zhg {P : Program} {w : World} {v : Value} {n : Nat} {xs : List Int} (h : SlAt w 1 v n (xs.map (Value.int .u8))) : (Extern.Bytes.bytesOf v).run P w = .ok ⟨(Lib.bytesOf xs).toArray⟩ w := by
 obtain ⟨p, cap, rfl, h2, h3, h4, h5⟩ := h
 simp only [List.length_map, Nat.mul_one] at h4
 rcases Nat.eq_zero_or_pos n with hn | hn
 ·have : xs = [] := List.length_eq_zero_iff.1 (by omega)
  subst this;subst hn
  cases p with
  | none => simp [Extern.Bytes.bytesOf, Lib.bytesOf];rfl
  | some a => simp [Extern.Bytes.bytesOf, Lib.bytesOf, Extern.Bytes.loadBytes];rfl
 ·obtain ⟨b, o, cs, t, fz, rfl, h7, h8⟩ := h5 hn
  have := Lib.run_loadBytesX (P := P) w xs ⟨b, o, none⟩ .empty (fun j x hj => by
   obtain ⟨h9, h10⟩ := Zc5 _ _ _ _ h8
   have hjl : j < xs.length := (List.getElem?_eq_some_iff.1 hj).1
   have := h10 j (by omega)
   rw [ZbW]
   refine Zes h7 ?_
   simp only [List.getElem?_toArray, this]
   simp [hj])
  simp only [Extern.Bytes.bytesOf, ← h4]
  rw [this]
  simp [ByteArray.empty, ByteArray.emptyWithCapacity]
  rfl
theorem ZiO {xs : List Int} (h : ∀ x ∈ xs, 0 ≤ x ∧ x < 256) : (Lib.bytesOf xs).map (fun c => (c.toNat : Int)) = xs := by
 induction xs with
 | nil => rfl
 | cons x xs ih =>
  have h1 := h x (by simp)
  have e : (Lib.bytesOf (x :: xs)) = x.toNat.toUInt8 :: Lib.bytesOf xs := by simp [Lib.bytesOf]
  rw [e, List.map_cons, ih fun y hy => h y (by simp [hy])]
  congr 1
  simp only [Nat.toUInt8, UInt8.toNat_ofNat']
  omega
theorem Zkz {P : Program} {w : World} {v u : Value} {n m : Nat} {xs ys : List Int} (h : SlAt w 1 v n (xs.map (Value.int .u8))) (k : SlAt w 1 u m (ys.map (Value.int .u8))) (hx : ∀ x ∈ xs, 0 ≤ x ∧ x < 256) (hy : ∀ x ∈ ys, 0 ≤ x ∧ x < 256) :
  (Extern.BytealgCompare.compare #[v, u]).run P w = .ok (.int .i64 (cmpL xs ys)) w := by
 change Sem.run P (do pure (goInt (Extern.BytealgCompare.cmp (← Extern.Bytes.bytesOf v) (← Extern.Bytes.bytesOf u)))) w = _
 simp only [Sem.run_bind, Zhg h, Zhg k, Result.andThen_ok, Sem.run_pure, Zmc, ZiO hx, ZiO hy, goInt]
section
variable {P : Program} {ρ : Operand → Value} {w W0 : World} {S : List Nat} {l l' : List (Nat × Obj)} {R : Value → World → Prop} {d : Option Tmp} {ty : TypeId} {pos : String} {af : Array Edge} {g : Option (Nat × Bool)}
theorem ZnS {t : TypeId} {x y : Operand} {b off n : Nat} {cs cs' vs : List Value} {t' : TypeId} [hs : TAgg P t n] (M : Mem S W0 w l) (hx : ρ x = .pointer (some ⟨b, off, none⟩)) (hy : ρ y = .agg vs.toArray) (hn : vs.length = n) (h1 : vs.all (·.oneCell') = true) (hb : Has l b (.cells cs.toArray t' (0, 0))) (hp : put cs off vs = some cs')
  (hu : Upd l b (.cells cs.toArray t' (0, 0)) (.cells cs'.toArray t' (0, 0)) l') (h : ∀ w', Ext [b] w w' → Mem S W0 w' l' → R undef w') : OpTo P ⟨d, .store t x y, ty, pos, af, g⟩ ρ w R := by
 obtain ⟨hle, rfl⟩ := ZbN _ _ _ _ hp
 obtain ⟨w', hr, he, hh⟩ := ZbZ (P := P) (off := off) vs 0 cs w (M.heap hb) (by simpa using hle) (fun v hv => List.all_eq_true.1 h1 v hv)
 refine OpTo.skip (w' := w') ?_ (h _ he (M.turned hu he (by simpa using hh)))
 simp only [execOp, Instr.storeAt, Instr.sureAddr, hx, hy, storeVar, Sem.run_bind, Sem.run_pure, Result.andThen_ok, Zca hs.h, Value.cells]
 simp [hr, hn]
end
structure Sh (n0 : Nat) (B : List Nat) (w w' : World) : Prop where
 os : w'.os = w.os
 tape : w'.tape = w.tape
 output : w'.output = w.output
 size : w.heap.size ≤ w'.heap.size
 dr : w.drawn ≤ w'.drawn
 old : ∀ k, k < n0 → k < w.heap.size → k ∉ B → w'.heap[k]? = w.heap[k]?
 new : ∀ k cs t, n0 ≤ k → w.heap[k]? = some (.cells cs t (0, 0)) → ∃ cs', w'.heap[k]? = some (.cells cs' t (0, 0)) ∧ cs'.size = cs.size
theorem Sh.of_ext {n0 : Nat} {B : List Nat} {w w' : World} (h : Ext [] w w') : Sh n0 B w w' :=
 ⟨h.os, h.tape, h.output, h.size, h.dr, fun k _ hk _ => h.block k hk (by simp), fun k cs t _ hb => ⟨cs, by rw [h.block k (Array.getElem?_eq_some_iff.1 hb).1 (by simp)];exact hb, rfl⟩⟩
theorem Sh.of_extB {n0 : Nat} {B : List Nat} {w w' : World} (h : Ext B w w') (hB : ∀ k ∈ B, k < n0) : Sh n0 B w w' :=
 ⟨h.os, h.tape, h.output, h.size, h.dr, fun k _ hk hb => h.block k hk hb, fun k cs t hn hb => ⟨cs, by rw [h.block k (Array.getElem?_eq_some_iff.1 hb).1 (fun hm => by have := hB k hm;omega)];exact hb, rfl⟩⟩
theorem Sh.trans {n0 : Nat} {B : List Nat} {a b c : World} (h : Sh n0 B a b) (k : Sh n0 B b c) : Sh n0 B a c :=
 ⟨k.os.trans h.os, k.tape.trans h.tape, k.output.trans h.output, Nat.le_trans h.size k.size, Nat.le_trans h.dr k.dr, fun i hi hs hb => (k.old i hi (Nat.lt_of_lt_of_le hs h.size) hb).trans (h.old i hi hs hb), fun i cs t hn hb => by
  obtain ⟨cs1, h1, h2⟩ := h.new i cs t hn hb
  obtain ⟨cs2, h3, h4⟩ := k.new i cs1 t hn h1
  exact ⟨cs2, h3, h4.trans h2⟩⟩
def Zkc (n0 : Nat) (B : List Nat) : Keep := ⟨Ext [], Sh n0 B, fun w => Ext.refl [] w, Sh.of_ext, Sh.trans, fun h => h.size⟩
theorem Sh.ext {B : List Nat} {w w' : World} (h : Sh w.heap.size B w w') : Ext B w w' := ⟨h.os, h.tape, h.output, h.size, h.dr, fun k hk hb => h.old k hk hk hb⟩
theorem Sh.of_new {n0 b : Nat} {B : List Nat} {w w' : World} {cs cs' : Array Value} {t : TypeId} (h : Ext [b] w w') (hn : n0 ≤ b) (hb : w.heap[b]? = some (.cells cs t (0, 0))) (hb' : w'.heap[b]? = some (.cells cs' t (0, 0))) (hs : cs'.size = cs.size) : Sh n0 B w w' :=
 ⟨h.os, h.tape, h.output, h.size, h.dr, fun k hk hks _ => h.block k hks (by simp only [List.mem_singleton];omega), fun k ds t' _ hk => by
  by_cases e : k = b
  ·subst e
   rw [hb] at hk
   cases hk
   exact ⟨cs', hb', hs⟩
  ·exact ⟨ds, by rw [h.block k (Array.getElem?_eq_some_iff.1 hk).1 (by simpa using e)];exact hk, rfl⟩⟩
def AlS (n0 : Nat) (t : TypeId) (len : Nat) : Pred := fun v w => ∃ b cs, v = ZcR b ∧ n0 ≤ b ∧ w.heap[b]? = some (.cells cs t (0, 0)) ∧ cs.size = len
theorem AlS.stays (n0 : Nat) (B : List Nat) (t : TypeId) (len : Nat) : Zeu (Zkc n0 B) (AlS n0 t len) := fun v w w' ⟨b, cs, h1, h2, h3, h4⟩ h => by
 obtain ⟨cs', h5, h6⟩ := Sh.new h b cs t h2 h3
 exact ⟨b, cs', h1, h2, h5, h6.trans h4⟩
section
variable {c : RC} {fr : List (Nat × Value)} {Vs : List Pred} {T T' : ZeA} {rest : List Oper} {d : Nat} {op : Op} {ty : TypeId} {pos : String} {af : Array Edge} {ix : Nat}
def effX (Ef : List Nat) (Rl : List (Nat × Nat)) (Pp : List ZeB) (n ix : Nat) (op : Op) : Bool := Nat.blt ix n && Ef.contains ix && !isAl op && Pp.isEmpty && ZdF Rl ix
theorem ZeY {Ef : List Nat} {Rl : List (Nat × Nat)} {Pp : List ZeB} {n ix : Nat} {op : Op} (h : effX Ef Rl Pp n ix op = true) : ix < n ∧ ix ∈ Ef ∧ isAl op = false ∧ Pp = [] ∧ ZdF Rl ix = true := by
 simp only [effX, Bool.and_eq_true, Bool.not_eq_true'] at h
 exact ⟨Nat.le_of_ble_eq_true h.1.1.1.1, by simpa using h.1.1.1.2, h.1.1.2, List.isEmpty_iff.1 h.1.2, h.2⟩
theorem xAl {t0 : TypeId} {cs0 : List Value} (hok : ZcZ c.ops c.n = true) (hlt : (Nat.blt ix c.n && !c.Ef.contains ix && (ZdQ c.Pp ix && ZdF c.Rl ix)) = true) (hnd : notIn d fr = true) (hst : Zeu c.K (AlS c.w1.heap.size t0 cs0.length)) (hr : ∀ w, c.K.r w (w.alloc (.cells cs0.toArray t0 (0, 0))))
  (h : ∀ a w, Frm a c.nt c.df fr → c.K.e c.w1 w → (execOp a.eval ⟨some d, op, ty, pos, af, none⟩).run c.P w = .ok (.value (ZcR w.heap.size)) (w.alloc (.cells cs0.toArray t0 (0, 0))))
  (k : MW c (ix + 1) rest fr (Vs ++ [AlS c.w1.heap.size t0 cs0.length]) T) : MW c ix (⟨some d, op, ty, pos, af, none⟩ :: rest) fr Vs T := by
 simp only [Bool.and_eq_true, Bool.not_eq_true'] at hlt
 have h1 : ix < c.n := Nat.le_of_ble_eq_true hlt.1.1
 have h2 : ix ∉ c.Ef := by simpa using hlt.1.2
 rintro rfl hT0 hPK
 refine Zd5 hok h1 hst hT0.1 hT0.2 (fun _ => rfl) hPK (fun hC ho' => Zer (fun d' hd' => by cases hd';exact hnd) hC ho') (fun a w σ F he hdp hT hPp hσ hrel => ?_) (k (by simp) ⟨hT0.1, hT0.2.succ⟩ hPK)
 simp only [Region.wanted, if_true]
 exact OpTo.val (h a w F he) ⟨c.K.re (hr w), ⟨w.heap.size, cs0.toArray, rfl, c.K.size he, heap_alloc_new w _, by simp⟩, fun _ => ⟨rfl, by simp⟩, fun _ _ => hr w, fun hh => absurd hh h2, .flo hlt.2.1 fun _ => Ext.alloc w _, fun q hq e => (Zbp hlt.2.2 q hq e).elim⟩
theorem ZsW (hn : Nat.beq ix c.n = true)
  (h : ∀ a w, Frm a c.nt c.df fr → c.K.e c.w1 w → (∀ (j : Nat) (V : Pred), Vs[j]? = some V → V (Za9 c.ops j a) w) → T (Zdv c.Ef c.X c.ops a) w →
   (∀ i j oi oj, i < c.n → j < c.n → i ≠ j → c.ops[i]? = some oi → c.ops[j]? = some oj → isAl oi.op = true → isAl oj.op = true → Za9 c.ops i a ≠ Za9 c.ops j a) →
   (∀ q ∈ c.Rl, ∃ oq, c.ops[q.1]? = some oq ∧ relV oq.op (Za9 c.ops q.2 a) = some (Za9 c.ops q.1 a)) → wpListIn (FW c.r) 0 c.P c.ops c.Q rest a w) : MW c ix rest fr Vs T := by
 rintro rfl hT0 hPK
 have hn' : Vs.length = c.n := Nat.eq_of_beq_eq_true hn
 intro hdrop hC hle h1
 refine ⟨[], fun _ => T, by simp [hn'], by simp, rfl, fun _ _ => hT0.1, fun _ _ _ => rfl, fun k hk x hx hkx => hT0.2 x hx (by omega), fun Ts' hTs' => ⟨by simp, fun listed a w M hall hT => ?_⟩⟩
 rw [List.append_nil] at M
 rw [hn'] at hdrop
 rw [hdrop]
 rw [hTs' c.n (by omega)] at hT
 refine h a w ⟨M.size, M.defers, fun t v ht => ?_⟩ M.ext (fun j V hV => M.vals j V (by rw [← hn'];exact (List.getElem?_eq_some_iff.1 hV).1) (hall j (by rw [← hn'];exact (List.getElem?_eq_some_iff.1 hV).1)) hV) hT (fun i j oi oj hi hj hne hoi hoj hai haj => M.dist i j oi oj hi hj hne hoi hoj hai haj (hall i hi) (hall j hj)) (fun q hq => by
  have h := List.all_eq_true.1 hPK.1.2 q hq
  simp only [Bool.and_eq_true, decide_eq_true_eq] at h
  exact M.rel q hq (hall q.1 h.1.1))
 rcases hC.c t v ht with ⟨hb, hb2⟩ | ⟨j, oj, hj, hoj, hdj, hV, _⟩
 ·rw [M.base t (fun j oj hj hoj _ => hb j oj (by omega) hoj), hb2]
 ·have h0 := M.vals j _ (by omega) (hall j (by omega)) hV
  unfold Za9 at h0
  rw [hoj] at h0
  simp only [Option.bind_some, hdj] at h0
  exact h0
end
section
variable {P : Program} {ρ : Operand → Value} {w : World} {R : Value → World → Prop} {d : Option Tmp} {ty : TypeId} {pos : String} {af : Array Edge} {g : Option (Nat × Bool)}
theorem Zb4 {t : TypeId} {x : Operand} {b off n : Nat} {cs : List Value} {t' : TypeId} {fz : Nat × Nat} {vs : List Value} [ht : TAgg P t n] (hx : ρ x = .pointer (some ⟨b, off, none⟩)) (hb : w.heap[b]? = some (.cells cs.toArray t' fz)) (hv : seg cs off n = some vs) (h : R (.agg vs.toArray) w) : OpTo P ⟨d, .load t x, ty, pos, af, g⟩ ρ w R :=
 Zhr hx (ZaP ht.h hb (by simpa using hv)) h
theorem Zdw {t : TypeId} {x : Operand} {b off : Nat} {cs : List Value} {t' : TypeId} {fz : Nat × Nat} {v : Value} [ht : TOne P t] (hx : ρ x = .pointer (some ⟨b, off, none⟩)) (hb : w.heap[b]? = some (.cells cs.toArray t' fz)) (hv : nth cs off = some v) (h : R v w) : OpTo P ⟨d, .load t x, ty, pos, af, g⟩ ρ w R :=
 Zhr hx (ZcL ht.h (Zes hb (by rw [ZbG] at hv;simpa using hv))) h
end
theorem Zpa {P : Program} {r : Option Nat} {Q : Exit → Act → World → Prop} {a : Act} {w : World} {nt : Nat} {df : List Deferred} {fr : List (Nat × Value)} {id : Nat} {ol : List Oper} (K : Keep) (Ef X : List Nat) (Rl : List (Nat × Nat)) (T : ZeA) (n : Nat) [hm : TMix P] (F : Frm a nt df fr)
  (hchk : (ZcZ ol.toArray n && Zev ol.toArray n && Nat.ble n ol.length && Zld ol.toArray n nt && Zdc ol.toArray n Ef && xOk ol.toArray n Ef X && ZkK ol.toArray n Rl) = true) (hsT : Zdf K T) (hX0 : ∀ x ∈ X, irrT T x) (hT : ∀ σ d, w.drawn ≤ d → T σ { w with drawn := d })
  (h : ∀ w1, Ext [] w w1 → w1.heap.size = w.heap.size → ZcZ ol.toArray n = true → MW ⟨K, Ef, [], P, r, ol.toArray, n, nt, df, a, w1, Q, X, Rl⟩ 0 ol fr [] T) : Wp r P (.region id ol.toArray true) Q a w := by
 simp only [Bool.and_eq_true] at hchk
 obtain ⟨⟨⟨⟨⟨⟨h1, h2⟩, h3⟩, h4⟩, h6⟩, h7⟩, h8⟩ := hchk
 have hw1 : Ext [] w { w with drawn := w.drawn + 1 } := Ext.drawn w _ (Nat.le_succ _)
 have hpo : Zd2 ol.toArray n Ef [] = true := rfl
 obtain ⟨Us, Ts, hl, hs, hT1, hT2, hT3, hT4, hgt⟩ := h _ hw1 rfl h1 rfl ⟨hsT, fun x hx _ => hX0 x hx⟩ ⟨⟨hpo, h8⟩, fun h => absurd rfl h⟩ (by simp) ⟨fun t v hv => .inl ⟨fun j o hj => absurd hj (by simp), F.at_ t v hv⟩⟩ (Nat.zero_le _) F.size
 simp only [List.nil_append, List.length_nil] at hl hT1 hT2 hT3 hT4 hgt
 obtain ⟨hg, ht⟩ := hgt Ts (fun _ _ => rfl)
 have hst : ∀ k, Zdf K (Ts k) := fun k => by
  rcases Nat.eq_zero_or_pos k with rfl | h
  ·rw [hT1];exact hsT
  ·exact hT2 k h
 refine Zin (K := K) (Pp := []) (Ef := Ef) (X := X) (Rl := Rl) (Ts := Ts) (nt := nt) (df := df) hm.h h1 h2 (by have := Nat.le_of_ble_eq_true h3;simpa using this) hl hs h6 hst (fun k hk => hT3 k (Nat.zero_le _) hk) h7 (fun x hx p hp => hT4 p (Nat.zero_le _) x hx hp) h8 (by rw [hT1];exact hT _ _ (Nat.le_succ _)) hpo (fun h => absurd rfl h) (fun i o d hi ho hd => ?_) F.size F.defers rfl (fun i V hV => by simpa using hg i V hV) (fun listed a w M hall => ?_)
 ·have := List.all_eq_true.1 h4 i (List.mem_range.2 hi)
  rw [ho] at this
  simp only [hd] at this
  simpa using this
 ·obtain ⟨m, _, hm1, hm2⟩ := M.last h6 (fun k hk => hT3 k (Nat.zero_le _) hk) hall
  exact ht listed a w M hall (by rw [← hm2];exact hm1)
structure NewM (n0 : Nat) (w : World) (l : List (Nat × Obj)) : Prop where
 at_ : ∀ p ∈ l, w.heap[p.1]? = some p.2
 nd : (l.map (·.1)).Nodup
 ge : ∀ p ∈ l, n0 ≤ p.1
theorem NewM.lt {n0 : Nat} {w : World} {l : List (Nat × Obj)} (h : NewM n0 w l) {p : Nat × Obj} (hp : p ∈ l) : p.1 < w.heap.size := (Array.getElem?_eq_some_iff.1 (h.at_ p hp)).1
theorem NewM.later {n0 : Nat} {w w' : World} {l : List (Nat × Obj)} (h : NewM n0 w l) (E : Ext [] w w') : NewM n0 w' l :=
 ⟨fun p hp => by rw [E.block _ (h.lt hp) (by simp)];exact h.at_ p hp, h.nd, h.ge⟩
theorem Mem.new {n0 : Nat} {w w' : World} {l : List (Nat × Obj)} (M : Mem [] w w' l) (h : n0 ≤ w.heap.size) : NewM n0 w' l :=
 ⟨M.at_, M.nd, fun p hp => Nat.le_trans h ((M.own p hp).resolve_left (by simp))⟩
theorem NewM.app {n0 : Nat} {w w' : World} {l new : List (Nat × Obj)} (h : NewM n0 w l) (M : Mem [] w w' new) (hn : n0 ≤ w.heap.size) : NewM n0 w' (new ++ l) := by
 have h' := h.later M.ext
 have h2 := M.new hn
 refine ⟨fun p hp => (List.mem_append.1 hp).elim (h2.at_ p) (h'.at_ p), ?_, fun p hp => (List.mem_append.1 hp).elim (h2.ge p) (h'.ge p)⟩
 rw [List.map_append, List.nodup_append]
 refine ⟨h2.nd, h'.nd, ?_⟩
 rintro a ha b hb rfl
 obtain ⟨p, hp, rfl⟩ := List.mem_map.1 ha
 obtain ⟨q, hq, e⟩ := List.mem_map.1 hb
 have h3 := h.lt hq
 have h4 := (M.own p hp).resolve_left (by simp)
 omega
def NewP (n0 : Nat) (Φ : Value → List (Nat × Obj) → Prop) : Pred := fun v w => ∃ ent, Φ v ent ∧ NewM n0 w ent
theorem NewP.stays (n0 : Nat) (Φ : Value → List (Nat × Obj) → Prop) : Zeu Zfv (NewP n0 Φ) := fun _ _ _ ⟨ent, h, N⟩ E => ⟨ent, h, N.later E⟩
theorem Zr0 {e : TypeId} {sz n : Nat} {α : Type} {enc : α → List Value} {ls : List α} {junk : List Value} (h : (encL enc ls).length = n * sz) : seg (encL enc ls ++ junk) 0 (n * sz) = some (encL enc ls) := by
 have := Zhf [] (encL enc ls) junk
 simpa [h] using this
theorem ZfM {sz : Nat} {α : Type} {enc : α → List Value} {ls : List α} (hsz : ∀ x ∈ ls, (enc x).length = sz) (junk : List Value) {i : Nat} (hi : i < ls.length) {q : Nat} (hq : q = i * sz) : seg (encL enc ls ++ junk) q sz = some (enc ls[i]) :=
 Za0 hsz (o := 0) (n := ls.length) (Zr0 (e := 0) (Zdy hsz)) hi (by omega)
def NewV (n0 : Nat) (v : Value) : Prop := ∀ b o s n c, v = .slice (some ⟨b, o, s⟩) n c → n0 ≤ b
theorem NewV.nil (n0 n c : Nat) : NewV n0 (.slice none n c) := fun _ _ _ _ _ h => by cases h
theorem SlAt.laterB {W w : World} {sz : Nat} {v : Value} {n : Nat} {xs : List Value} {B : List Nat} (h : SlAt W sz v n xs) (hn : ∀ b o s k c, v = .slice (some ⟨b, o, s⟩) k c → b ∉ B) (E : Ext B W w) : SlAt w sz v n xs := by
 obtain ⟨p, cap, rfl, h1, h2, h3, h4⟩ := h
 refine ⟨p, cap, rfl, h1, h2, h3, fun h0 => ?_⟩
 obtain ⟨b, o, cs, t, fz, rfl, hb, hs⟩ := h4 h0
 exact ⟨b, o, cs, t, fz, rfl, by rw [E.block b (Array.getElem?_eq_some_iff.1 hb).1 (hn b o none n cap rfl)];exact hb, hs⟩
def Zfx {κ : Type} [DecidableEq κ] (x : κ) : List (κ × Value) → Nat → Option (Nat × Value)
 | [], _ => none
 | p :: m, i => if x = p.1 then some (i, p.2) else Zfx x m (i + 1)
def getA {κ ν : Type} [DecidableEq κ] (x : κ) : List (κ × ν) → Option ν
 | [] => none
 | p :: m => if x = p.1 then some p.2 else getA x m
def putA {κ ν : Type} [DecidableEq κ] (x : κ) (v : ν) : List (κ × ν) → List (κ × ν)
 | [] => [(x, v)]
 | p :: m => if x = p.1 then (x, v) :: m else p :: putA x v m
section plain
variable {κ ν μ : Type} [DecidableEq κ]
theorem Zkj (x : κ) : ∀ (m : List (κ × Value)) (i : Nat), (Zfx x m i).map (·.2) = getA x m
 | [], _ => rfl
 | p :: m, i => by
  unfold Zfx getA
  split
  ·rfl
  ·exact Zkj x m (i + 1)
theorem ZiK {x : κ} {v : Value} : ∀ {m : List (κ × Value)} {i : Nat}, Zfx x m i = none → putA x v m = m ++ [(x, v)]
 | [], _, _ => rfl
 | p :: m, i, h => by
  unfold Zfx at h
  split at h
  ·cases h
  ·rename_i hn
   simp only [putA, hn, if_false, List.cons_append]
   rw [ZiK h]
theorem ZiJ {x : κ} {v u : Value} : ∀ {m : List (κ × Value)} {i j : Nat}, Zfx x m i = some (j, u) → ∃ k, j = i + k ∧ k < m.length ∧ putA x v m = m.set k (x, v) ∧ ∃ y, m[k]? = some (x, y)
 | [], _, _, h => by cases h
 | p :: m, i, j, h => by
  unfold Zfx at h
  split at h
  ·rename_i hx
   simp only [Option.some.injEq, Prod.mk.injEq] at h
   subst hx
   exact ⟨0, by omega, by simp, by simp [putA], p.2, by simp⟩
  ·rename_i hn
   obtain ⟨k, e, hk, hp, y, hy⟩ := ZiJ (v := v) h
   exact ⟨k + 1, by omega, by simpa using hk, by simp [putA, hn, hp], y, by simpa using hy⟩
end plain
structure Zh5 (P : Program) (k : TypeId) {κ : Type} [DecidableEq κ] (kv : κ → Value) (ok : κ → Prop) : Prop where
 check : ∀ (em : Bool) (w : World) (x : κ), ok x → (Instr.checkKey em 10000 k (kv x)).run P w = .ok () w
 find : ∀ (w : World) (x : κ) (m : List (κ × Value)) (es : List MapEntry), ok x → (∀ p ∈ m, ok p.1) → es.map (fun e => (e.key, e.val)) = m.map (fun p => (kv p.1, p.2)) → (Instr.findKey k (kv x) es).run P w = .ok (Zfx x m 0) w
 stays : ∀ (w : World) (x : κ), ok x → (Instr.keyThatStays (kv x) (kv x)).run P w = .ok (kv x) w
theorem ZjL (n : Nat) (q : IntKind) (x : Int) : Instr.sameBits n (.int q x) (.int q x) = true := by
 cases n <;> simp [Instr.sameBits]
theorem Zo8 {P : Program} {k : TypeId} {q : IntKind} (hk : P.underlying k = some (.int q)) (em : Bool) (w : World) (x : Int) (n : Nat) : (Instr.checkKey em (n + 1) k (.int q x)).run P w = .ok () w := by
 simp [Instr.checkKey, run_underlying hk]
theorem Zoi {P : Program} {k : TypeId} {q : IntKind} (hk : P.underlying k = some (.int q)) : Zh5 P k (Value.int q) (fun _ => True) where
 check em w x _ := Zo8 hk em w x 9999
 find w x m es _ _ he := by
  have key : ∀ (m : List (Int × Value)) (es : List MapEntry) (i : Nat), es.map (fun e => (e.key, e.val)) = m.map (fun p => (Value.int q p.1, p.2)) → Instr.findNow (.int q) (.int q x) es i = some (Zfx x m i) := by
   intro m
   induction m with
   | nil =>
    intro es i h
    have : es = [] := by simpa using h
    subst this
    rfl
   | cons p m ih =>
    intro es i h
    cases es with
    | nil => simp at h
    | cons e es =>
     simp only [List.map_cons, List.cons.injEq, Prod.mk.injEq] at h
     obtain ⟨⟨h1, h2⟩, h3⟩ := h
     simp only [Instr.findNow, h1, Instr.sameNow, if_true, Zfx, h2]
     by_cases hx : x = p.1
     ·simp [hx]
     ·have : (x == p.1) = false := by simpa using hx
      rw [this]
      simp only [hx, if_false]
      exact ih es (i + 1) h3
  simp [Instr.findKey, run_underlying hk, key m es 0 he]
 stays w x _ := by
  unfold Instr.keyThatStays
  rw [if_pos (ZjL _ _ _)]
  rfl
theorem ZfG : ∀ {ks : List LK} {xs : List Value}, Za7 ks xs = true → ∀ (n : Nat), ((xs.zip xs).all fun (x, y) => Instr.sameBits n x y) = true
 | [], [], _, _ => rfl
 | k :: ks, x :: xs, h, n => by
  simp only [Za7, Bool.and_eq_true] at h
  simp only [List.zip_cons_cons, List.all_cons, ZfG h.2 n, Bool.and_true]
  cases k <;> cases x <;> simp [fitK] at h <;> cases n <;> simp [Instr.sameBits]
 | [], _ :: _, h, _ => by cases h
 | _ :: _, [], h, _ => by cases h
section
variable {P : Program}
theorem Zgy (em : Bool) : ∀ (d : Nat) (t : TypeId) (ks : List LK), ZcF P d t = some ks → ∀ (e : Nat) (w : World) (xs : List Value), Za7 ks xs = true → (Instr.checkKey em (e + d) t (mkT P t xs)).run P w = .ok () w
 | 0, _, _, h => by simp [ZcF] at h
 | d + 1, t, ks, hk => by
  intro e w xs hx
  unfold ZcF at hk
  cases hu : P.underlying t with
  | none => simp [hu] at hk
  | some dsc =>
   rw [hu] at hk
   cases dsc with
   | int k =>
    simp at hk;subst hk
    obtain ⟨x, rfl⟩ : ∃ x, xs = [.int k x] := by
     match xs, hx with
     | [.int k' x], h => simp [Za7, fitK] at h;subst h;exact ⟨x, rfl⟩
     | .int _ _ :: _ :: _, h => simp [Za7] at h
    simp only [mkT, Zb7, hu, Bool.false_eq_true, if_false, List.headD_cons]
    rw [show e + (d + 1) = (e + d) + 1 by omega]
    simp [Instr.checkKey, run_underlying hu]
   | bool =>
    simp at hk;subst hk
    obtain ⟨x, rfl⟩ : ∃ x, xs = [.bool x] := by
     match xs, hx with
     | [.bool x], _ => exact ⟨x, rfl⟩
    simp only [mkT, Zb7, hu, Bool.false_eq_true, if_false, List.headD_cons]
    rw [show e + (d + 1) = (e + d) + 1 by omega]
    simp [Instr.checkKey, run_underlying hu]
   | array n el =>
    simp only at hk
    cases hke : ZcF P d el with
    | none => simp [hke] at hk
    | some ke =>
     rw [hke] at hk
     simp only at hk
     split at hk
     ·rename_i hc
      simp only [Option.some.injEq] at hk
      subst hk
      obtain ⟨i, hi⟩ := Option.isSome_iff_exists.1 hc.2
      obtain ⟨lx, fx⟩ := ZfY _ _ _ hx
      simp only [mkT, Zb7, hu, if_true]
      have hsz : i.size = ke.length := by rw [← hc.1];simp [Program.cellsOf, hi]
      rw [show e + (d + 1) = (e + d) + 1 by omega, Instr.checkKey]
      simp only [Sem.run_bind, run_underlying hu, Result.andThen_ok]
      simp only [Std.Legacy.Range.forIn_eq_forIn_range', Std.Legacy.Range.size, Nat.sub_zero, Nat.add_one_sub_one, Nat.div_one]
      have each : ∀ j ∈ List.range' 0 n, j < n := fun j hj => by simp [List.mem_range'] at hj;omega
      generalize List.range' 0 n = is at each
      induction is with
      | nil => simp
      | cons j is ih =>
       have hjn := each j (by simp)
       have hmul : j * ke.length + ke.length ≤ n * ke.length := by
        rw [show j * ke.length + ke.length = (j + 1) * ke.length by rw [Nat.add_mul];omega]
        exact Nat.mul_le_mul_right _ (by omega)
       have p1 := ZcY (w := w) hke hc.1 (show j * ke.length + ke.length ≤ xs.length by omega)
       have p2 := Zgy em d el ke hke e w _ (fx j hjn)
       simp only [List.forIn_cons, Sem.run_bind, _root_.Go.run_sizeOf w hi, hc.1, Result.andThen_ok, p1, p2, Sem.run_pure]
       exact ih (fun y hy => each y (by simp [hy]))
     ·cases hk
   | struct fs =>
    simp only at hk
    split at hk
    ·cases hk
    ·simp only [mkT, Zb7, hu, if_true]
     rw [show e + (d + 1) = (e + d) + 1 by omega, Instr.checkKey]
     simp only [Sem.run_bind, run_underlying hu, Result.andThen_ok]
     rw [← Array.forIn_toList]
     have key : ∀ (l : List Field) (off : Nat) (ks : List LK), Zgq P (ZcF P d) l off = some ks → Za7 ks (xs.drop off) = true → off ≤ xs.length →
       (∀ f ∈ l, f.name ≠ "_" ∧ ∃ v, (part f.type xs.toArray f.offset).run P w = .ok v w ∧ (Instr.checkKey em (e + d) f.type v).run P w = .ok () w) := by
      intro l
      induction l with
      | nil => intro _ _ _ _ _ f hf;simp at hf
      | cons f l ih =>
       intro off ks hl hx ox g hg
       simp only [Zgq] at hl
       split at hl
       ·cases hl
       ·rename_i hno
        have hname : f.name ≠ "_" := fun h => hno (.inl h)
        have hoff : f.offset = off := Classical.byContradiction fun h => hno (.inr h)
        cases hkf : ZcF P d f.type with
        | none => simp [hkf] at hl
        | some kf =>
         rw [hkf] at hl
         simp only at hl
         split at hl
         ·rename_i hc
          cases hr : Zgq P (ZcF P d) l (off + kf.length) with
          | none => simp [hr] at hl
          | some kr =>
           simp only [hr, Option.map_some, Option.some.injEq] at hl
           subst hl
           obtain ⟨x1, x2⟩ := Zda hx
           have lx := Zb0 x1
           simp only [List.length_take, List.length_drop] at lx
           rw [List.drop_drop] at x2
           rcases List.mem_cons.1 hg with rfl | hg
           ·exact ⟨hname, _, by rw [hoff];exact ZcY (w := w) hkf hc (show off + kf.length ≤ xs.length by omega), Zgy em d g.type kf hkf e w _ x1⟩
           ·exact ih (off + kf.length) kr hr x2 (by omega) g hg
         ·cases hl
     have each := key fs.toList 0 ks hk (by simpa using hx) (Nat.zero_le _)
     generalize fs.toList = L at each
     induction L with
     | nil => simp
     | cons f L ih =>
      obtain ⟨hn, v, p1, p2⟩ := each f (by simp)
      simp only [List.forIn_cons, Sem.run_bind, hn, ne_eq, not_false_eq_true, if_true, Result.andThen_ok, p1, p2, Sem.run_pure]
      exact ih (fun y hy => each y (by simp [hy]))
   | _ => simp at hk
theorem ZmO {t : TypeId} {ks : List LK} (ht : eqB P t ks = true) {κ : Type} [DecidableEq κ] {ok : κ → Prop} (ec : κ → List Value) (fit : ∀ x, ok x → Za7 ks (ec x) = true) (eq : ∀ x y, ok x → ok y → eqVs (ec x) (ec y) = decide (x = y)) :
  Zh5 P t (fun x : κ => .agg (ec x).toArray) ok := by
 simp only [eqB, Bool.and_eq_true, decide_eq_true_eq, Bool.not_eq_true'] at ht
 obtain ⟨⟨hl, ha⟩, _⟩ := ht
 refine ⟨fun em w x hx => ?_, fun w x m es hx hm he => ?_, fun w x hx => ?_⟩
 ·have := Zgy em 8 t ks hl 9992 w _ (fit x hx)
  simpa [mkT, ha] using this
 ·have hwide : (match P.underlying t with | some (.array _ _) | some (.struct _) => true | _ => false) = true := by
   unfold Zb7 at ha
   cases hu : P.underlying t with
   | none => simp [hu] at ha
   | some dd => cases dd <;> simp [hu] at ha ⊢
  have hfind : (Instr.findKey t (.agg (ec x).toArray) es).run P w = (Instr.findAsking t (.agg (ec x).toArray) es).run P w := by
   cases hu : P.underlying t with
   | none => simp [hu] at hwide
   | some kd =>
    cases es with
    | nil => simp [Instr.findKey, run_underlying hu, Instr.findNow, Instr.findAsking]
    | cons e es => cases kd <;> simp [hu] at hwide <;> simp [Instr.findKey, run_underlying hu, Instr.findNow, Instr.sameNow]
  rw [hfind]
  clear hfind
  have key : ∀ (m : List (κ × Value)) (es : List MapEntry) (i : Nat), (∀ p ∈ m, ok p.1) → es.map (fun e => (e.key, e.val)) = m.map (fun p => (Value.agg (ec p.1).toArray, p.2)) → (Instr.findAsking t (.agg (ec x).toArray) es i).run P w = .ok (Zfx x m i) w := by
   intro m
   induction m with
   | nil =>
    intro es i _ h
    have : es = [] := by simpa using h
    subst this
    simp [Instr.findAsking, Zfx]
   | cons p m ih =>
    intro es i hm h
    cases es with
    | nil => simp at h
    | cons e es =>
     simp only [List.map_cons, List.cons.injEq, Prod.mk.injEq] at h
     obtain ⟨⟨h1, h2⟩, h3⟩ := h
     have hp := hm p List.mem_cons_self
     have heq := Zd7 8 t ks hl 9992 w _ _ (fit x hx) (fit p.1 hp)
     simp only [mkT, ha, if_true, eq x p.1 hx hp] at heq
     simp only [Instr.findAsking, h1, h2, Op.equal, Op.maxDepth, Sem.run_bind, heq, Result.andThen_ok, Zfx]
     by_cases hxp : x = p.1
     ·simp [hxp]
     ·simp only [hxp, decide_false, Bool.false_eq_true, if_false]
      exact ih es (i + 1) (fun q hq => hm q (List.mem_cons_of_mem _ hq)) h3
  exact key m es 0 hm he
 ·have : Instr.sameBits 10000 (.agg (ec x).toArray) (.agg (ec x).toArray) = true := by
   have := ZfG (fit x hx) 9999
   simp [Instr.sameBits, this]
  simp [Instr.keyThatStays, this]
end
def Zlm {κ : Type} (kv : κ → Value) (m : List (κ × Value)) (o : Obj) : Prop := ∃ es clock, o = .map es clock ∧ es.toList.map (fun e => (e.key, e.val)) = m.map fun p => (kv p.1, p.2)
theorem Zlm.empty {κ : Type} (kv : κ → Value) : Zlm kv [] (.map #[] 0) := ⟨#[], 0, rfl, rfl⟩
def Zh4 {κ : Type} (w : World) (kv : κ → Value) (v : Value) (m : List (κ × Value)) : Prop := ∃ b o, v = .map (some b) ∧ w.heap[b]? = some o ∧ Zlm kv m o
theorem Zh4.later {κ : Type} {W w : World} {kv : κ → Value} {v : Value} {m : List (κ × Value)} (h : Zh4 W kv v m) (E : Ext [] W w) : Zh4 w kv v m := by
 obtain ⟨b, o, rfl, hb, h⟩ := h
 exact ⟨b, o, rfl, by rw [E.block b (Array.getElem?_eq_some_iff.1 hb).1 (by simp)];exact hb, h⟩
def OwnM {κ : Type} (kv : κ → Value) (v : Value) (m : List (κ × Value)) (ent : List (Nat × Obj)) : Prop := ∃ b o, v = .map (some b) ∧ ent = [(b, o)] ∧ Zlm kv m o
def Zh8 (P : Program) (t : TypeId) (z : Value) : Prop := (P.info? t).bind (·.zero) = some z
theorem Zmq {P : Program} {t : TypeId} {z : Value} {w : World} (h : Zh8 P t z) : (zeroValue t).run P w = .ok z w := by
 unfold Zh8 at h
 cases hi : P.info? t with
 | none => simp [hi] at h
 | some i =>
  simp [hi] at h
  simp [zeroValue, typeInfo, hi, h]
section
variable {P : Program} {ρ : Operand → Value} {w W0 : World} {S : List Nat} {l l' : List (Nat × Obj)} {R : Value → World → Prop} {d : Option Tmp} {ty : TypeId} {pos : String} {af : Array Edge} {g : Option (Nat × Bool)}
variable {κ : Type} [DecidableEq κ] {kv : κ → Value} {ok : κ → Prop}
theorem ZnU {t k e : TypeId} {x : Operand} {q : IntKind} {n : Int} [ht : TU P t (.map k e)] (M : Mem S W0 w l) (hx : ρ x = .int q n) (h : ∀ b w', Mem S W0 w' ((b, .map #[] 0) :: l) → R (.map (some b)) w') : OpTo P ⟨d, .makeMap t (some x), ty, pos, af, g⟩ ρ w R :=
 OpTo.val (v := .map (some w.heap.size)) (w' := w.alloc (.map #[] 0)) (by simp [execOp, Instr.makeMap, hx, run_underlying ht.h, asInt, asIntOf, Result.andThen]) (h _ _ (M.alloc _))
theorem ZmE {t : TypeId} (M : Mem S W0 w l) (h : ∀ b w', Mem S W0 w' ((b, .map #[] 0) :: l) → R (.map (some b)) w') : OpTo P ⟨d, .makeMap t none, ty, pos, af, g⟩ ρ w R :=
 OpTo.val (v := .map (some w.heap.size)) (w' := w.alloc (.map #[] 0)) (by simp [execOp, Instr.makeMap, Result.andThen]) (h _ _ (M.alloc _))
theorem Zih {t k e : TypeId} {v z : Value} {m : List (κ × Value)} {c : Bool} (ht : P.underlying t = some (.map k e)) (K : Zh5 P k kv ok) (hz : Zh8 P e z) (hM : Zh4 w kv v m) (hm : ∀ p ∈ m, ok p.1) {x : κ} (hx : ok x) :
  (Instr.lookup t v (kv x) c).run P w = .ok (if c then .tuple #[(getA x m).getD z, .bool (getA x m).isSome] else (getA x m).getD z) w := by
 obtain ⟨b, o, rfl, hb, es, clock, rfl, he⟩ := hM
 have hf := K.find w x m es.toList hx hm he
 rw [← Zkj x m 0]
 cases hr : Zfx x m 0 with
 | none => simp [Instr.lookup, run_underlying ht, MapKept.run_getObj_map hb, K.check es.isEmpty w x hx, hf, hr, Zmq hz, Result.andThen]
 | some q => simp [Instr.lookup, run_underlying ht, MapKept.run_getObj_map hb, K.check es.isEmpty w x hx, hf, hr, Result.andThen]
theorem Zj0 {t k e : TypeId} {x y : Operand} {v z : Value} {m : List (κ × Value)} [ht : TU P t (.map k e)] (K : Zh5 P k kv ok) (hz : Zh8 P e z) (hM : Zh4 w kv v m) (hm : ∀ p ∈ m, ok p.1) {a : κ} (ha : ok a) (hx : ρ x = v) (hy : ρ y = kv a)
  (h : R (.tuple [(getA a m).getD z, .bool (getA a m).isSome].toArray) w) : OpTo P ⟨d, .lookup t x y true, ty, pos, af, g⟩ ρ w R :=
 OpTo.val (v := .tuple [(getA a m).getD z, .bool (getA a m).isSome].toArray) (w' := w) (by simp [execOp, hx, hy, Zih (c := true) ht.h K hz hM hm ha]) h
theorem Zj1 {t k e : TypeId} {x y : Operand} {v z : Value} {m : List (κ × Value)} [ht : TU P t (.map k e)] (K : Zh5 P k kv ok) (hz : Zh8 P e z) (hM : Zh4 w kv v m) (hm : ∀ p ∈ m, ok p.1) {a : κ} (ha : ok a) (hx : ρ x = v) (hy : ρ y = kv a)
  (h : R ((getA a m).getD z) w) : OpTo P ⟨d, .lookup t x y false, ty, pos, af, g⟩ ρ w R :=
 OpTo.val (v := (getA a m).getD z) (w' := w) (by simp [execOp, hx, hy, Zih (c := false) ht.h K hz hM hm ha]) h
theorem ZiZ {t k e : TypeId} {b : Nat} {o : Obj} {u : Value} {m : List (κ × Value)} (ht : P.underlying t = some (.map k e)) (K : Zh5 P k kv ok) (hb : w.heap[b]? = some o) (hA : Zlm kv m o) (hm : ∀ p ∈ m, ok p.1) {x : κ} (hx : ok x) :
  ∃ o', Zlm kv (putA x u m) o' ∧ (Instr.mapUpdate t (.map (some b)) (kv x) u).run P w = .ok () (w.putObj b o') := by
 obtain ⟨es, clock, rfl, he⟩ := hA
 have hf := K.find w x m es.toList hx hm he
 have hlen : es.toList.length = m.length := by simpa using congrArg List.length he
 cases hr : Zfx x m 0 with
 | none =>
  refine ⟨.map (es.push { key := kv x, val := u, born := clock }) (clock + 1), ⟨_, _, rfl, ?_⟩, ?_⟩
  ·rw [ZiK hr]
   simp [he]
  ·simp [Instr.mapUpdate, run_underlying ht, MapKept.run_getObj_map hb, K.check false w x hx, hf, hr, MapKept.run_setObj_map _ hb, Result.andThen, World.putObj]
 | some q =>
  obtain ⟨j, y⟩ := q
  obtain ⟨i, e1, hi, hp, y', hy⟩ := ZiJ (v := u) hr
  rw [Nat.zero_add] at e1
  subst e1
  have hil : j < es.toList.length := by omega
  have hkey : (es[j]?).map (·.key) = some (kv x) := by
   have h2 : (es.toList.map fun e => (e.key, e.val))[j]? = (m.map fun p => (kv p.1, p.2))[j]? := by rw [he]
   rw [List.getElem?_map, List.getElem?_map, hy] at h2
   simp only [Option.map_some, Option.map_eq_some_iff, Prod.mk.injEq, Array.getElem?_toList] at h2
   obtain ⟨e0, h3, h4, _⟩ := h2
   rw [h3, Option.map_some, h4]
  refine ⟨.map (es.modify j fun e => { e with key := kv x, val := u }) clock, ⟨_, _, rfl, ?_⟩, ?_⟩
  ·rw [hp]
   apply List.ext_getElem?
   intro n
   have h2 : (es.toList.map fun e => (e.key, e.val))[n]? = (m.map fun p => (kv p.1, p.2))[n]? := by rw [he]
   rw [List.getElem?_map, List.getElem?_map] at h2
   rw [List.getElem?_map, List.getElem?_map, Array.toList_modify, List.getElem?_modify, List.getElem?_set]
   split
   ·rename_i h3
    subst h3
    rw [List.getElem?_eq_getElem hil]
    rfl
   ·simpa using h2
  ·simp [Instr.mapUpdate, run_underlying ht, MapKept.run_getObj_map hb, K.check false w x hx, hf, hr, hkey, K.stays w x hx, MapKept.run_setObj_map _ hb, Result.andThen, World.putObj]
omit [DecidableEq κ] in
theorem OwnM.at_ {v : Value} {m : List (κ × Value)} {ent : List (Nat × Obj)} (h : OwnM kv v m ent) (hb : ∀ p ∈ ent, w.heap[p.1]? = some p.2) : Zh4 w kv v m := by
 obtain ⟨b, o, rfl, rfl, hA⟩ := h
 exact ⟨b, o, rfl, hb (b, o) (by simp), hA⟩
end
end Go.Proofs.YtfhkmgcalcfibaaGreat
namespace Go.Proofs.YtfhkmgcalcfibaaGreat
open Go.RowKit Go.Sort Go.Shelf
theorem ZqF {w w' : World} (h : Ext [] w w') : ∃ q os', w' = grow (w.drewN q) os' := by
 refine ⟨w'.drawn - w.drawn, w'.heap.extract w.heap.size w'.heap.size, ?_⟩
 obtain ⟨hp, tp, dr, os, ou⟩ := w'
 obtain ⟨h1, h2, h3, h4, h5, h6⟩ := h
 simp only at h1 h2 h3 h4 h5 h6
 subst h1 h2 h3
 simp only [grow, World.drewN]
 congr 1
 ·apply Array.ext'
  apply List.ext_getElem?
  intro i
  simp only [Array.getElem?_toList]
  rcases Nat.lt_or_ge i w.heap.size with h | h
  ·rw [Array.getElem?_append_left h]
   exact h6 i h (by simp)
  ·rw [Array.getElem?_append_right h, Array.getElem?_extract]
   split
   ·rename_i h7
    congr 1
    omega
   ·rename_i h7
    exact Array.getElem?_eq_none (by omega)
 ·omega
theorem Zl8 {α : Type} {enc : α → List Value} {k : Nat} (hk : ∀ x, (enc x).length = k) (h0 : 0 < k) : ∀ (ls : List α) (j : Nat), j < ls.length * k → (encL enc ls)[j]? = (ls[j / k]?).bind fun x => (enc x)[j % k]?
 | [], j, h => by simp at h
 | x :: xs, j, h => by
  rw [Zdb]
  rcases Nat.lt_or_ge j k with hj | hj
  ·rw [List.getElem?_append_left (by rw [hk];exact hj), Nat.div_eq_of_lt hj, Nat.mod_eq_of_lt hj]
   rfl
  ·have e1 : j / k = (j - k) / k + 1 := by
    rw [show j = (j - k) + k by omega, Nat.add_div_right _ h0]
    simp
   have e2 : j % k = (j - k) % k := by
    rw [show j = (j - k) + k by omega, Nat.add_mod_right]
    simp
   rw [List.getElem?_append_right (by rw [hk];exact hj), hk, e1, e2, Zl8 hk h0 xs (j - k) (by simp only [List.length_cons, Nat.add_mul] at h;omega)]
   simp
theorem Zl3 {α : Type} [Inhabited α] {enc : α → List Value} {k : Nat} (hk : ∀ x, (enc x).length = k) (h0 : 0 < k) (d : Array α) : (flatK enc k d).toList = encL enc d.toList := by
 have hl : (encL enc d.toList).length = d.size * k := by rw [Zdy (fun x _ => hk x)];simp
 apply List.ext_getElem?
 intro j
 rcases Nat.lt_or_ge j (d.size * k) with h | h
 ·have hd : j / k < d.size := Nat.div_lt_of_lt_mul (by rwa [Nat.mul_comm] at h)
  have hm : j % k < k := Nat.mod_lt _ h0
  rw [Zl8 hk h0 _ _ (by simpa using h)]
  simp only [flatK, Array.toList_map, Array.toList_range]
  rw [List.getElem?_map, List.getElem?_range h]
  simp only [Option.map_some, Array.getElem?_toList]
  rw [Array.getElem?_eq_getElem hd]
  simp only [Option.bind_some]
  rw [getElem!_pos d (j / k) hd, getElem!_pos (enc d[j / k]) (j % k) (by rw [hk];exact hm), List.getElem?_eq_getElem (by rw [hk];exact hm)]
 ·rw [List.getElem?_eq_none (by simpa using h), List.getElem?_eq_none (by omega)]
section
variable {α : Type} [Inhabited α] {P : Program} {ρ : Ren} {enc : α → List Value} {k : Nat}
theorem ZqT {g : Nat} {cf : α → α → Int} {blk off size : Nat} {w : World} (h : ∀ (W : World) (x y : α), Cal P g [.agg (enc x).toArray, .agg (enc y).toArray].toArray W fun v w' => v = .int .i64 (cf x y) ∧ Ext [] W w') : CmpLays P g #[] enc k cf blk off size w := by
 intro m os dk _ x y
 refine ((h (sortWorldK enc k w blk off m dk os) x y).calls).mono ?_
 rintro e w' ⟨v, rfl, rfl, hE⟩
 exact ⟨rfl, ZqF hE⟩
theorem ZpC (L : SlLaysF0.n6 P ρ) (hk : ∀ x, (enc x).length = k) (h0 : 0 < k) (h1 : ∀ x, (enc x).all (·.oneCell') = true) (haE : ZhR P (ρ.t 24) k = true) (cf : α → α → Int) (hO : SWO (ltOf cf)) (hT : ∀ x y, ltOf cf x y = false → ltOf cf y x = false → x = y) {g : Nat} (hg : Zhx P g = true)
  (hcmp : ∀ (W : World) (x y : α), Cal P g [.agg (enc x).toArray, .agg (enc y).toArray].toArray W fun v w' => v = .int .i64 (cf x y) ∧ Ext [] W w')
  {S : List Nat} {W0 w : World} {l : List (Nat × Obj)} {f : List (Nat × Obj) → List (Nat × Obj)} {e : TypeId} {v : Value} (ls : List α) {ent : List (Nat × Obj)} (M : Mem S W0 w l) (hOw : OwnS e k v ls.length (encL enc ls) ent) (hl : Ze3 ent l f) (hsz : ls.length < 4611686018427387904) :
  Cal P (ρ.f 6) [v, .func (.func g) #[] #[]].toArray w fun _ w' => ∃ ent', OwnS e k v ls.length (encL enc (ls.mergeSort fun x y => !(ltOf cf) y x)) ent' ∧ Mem S W0 w' (f ent') := by
 obtain ⟨lr, rfl, hf⟩ := hl.spec
 rcases hOw with ⟨rfl, hn, _, rfl⟩ | ⟨b, cap, junk, rfl, rfl, hxl, hjl, hnc⟩
 ·have hls : ls = [] := List.length_eq_zero_iff.1 hn
  subst hls
  refine Cal.of_calls (AnyF.slices_SortFunc_none L none 0 (.func (.func g) #[] #[]) w) ?_
  rintro e' w' ⟨rfl, rfl⟩
  exact ⟨_, rfl, [], by simpa [encL] using OwnS.nil e k, by rw [hf];exact M⟩
 ·have hb : w.heap[b]? = some (.cells (encL enc ls ++ junk).toArray e (0, 0)) := M.at_ (b, _) (by simp)
  have hlt : b < w.heap.size := (Array.getElem?_eq_some_iff.1 hb).1
  have hH : HoldsK enc k w b 0 ls.toArray := by
   intro j hj
   rw [size_flatK] at hj
   simp only [List.size_toArray] at hj
   have hfl := Zl3 hk h0 ls.toArray
   have hjf : j < (flatK enc k ls.toArray).size := by rw [size_flatK];simpa using hj
   refine ⟨?_, by simp [World.frozen?, hb]⟩
   rw [getElem!_pos _ j hjf]
   simp only [World.cell?, hb, id]
   rw [if_neg (by simp), Nat.zero_add, List.getElem?_toArray, List.getElem?_append_left (by rw [hxl];exact hj)]
   have h2 : (flatK enc k ls.toArray).toList[j]? = (encL enc ls)[j]? := by rw [hfl]
   rw [← h2, Array.getElem?_toList, Array.getElem?_eq_getElem hjf]
  have hagg : ∀ w, (isAgg (ρ.t 24)).run P w = .ok true w := fun w => Zef haE
  have hszo : ∀ w, (sizeOf (ρ.t 24)).run P w = .ok k w := fun w => Zca haE
  have hcon := AnyQ.slices_SortFunc_total L k hagg hszo enc hk (fun x v hv => List.all_eq_true.1 (h1 x) v hv) cf hO g #[] b 0 cap ls.toArray w (fun args w => ZeF hg args w) (ZqT hcmp) hH hlt (by simpa using hsz) hT
  simp only [List.size_toArray] at hcon
  refine Cal.of_calls hcon ?_
  rintro e' w' ⟨rfl, n, os, rfl⟩
  refine ⟨_, rfl, [(b, .cells (encL enc (ls.mergeSort fun x y => !(ltOf cf) y x) ++ junk).toArray e (0, 0))], .inr ⟨b, cap, junk, rfl, rfl, by rw [Zdy (fun x _ => hk x)];simp, hjl, hnc⟩, ?_⟩
  rw [hf]
  obtain ⟨ds, hds⟩ : ∃ ds, ds = ls.mergeSort fun x y => !(ltOf cf) y x := ⟨_, rfl⟩
  rw [← hds]
  have hdl : ds.length = ls.length := by rw [hds];simp
  clear hcon hH
  have hcells : putCells id 0 (flatK enc k ds.toArray) (encL enc ls ++ junk).toArray = (encL enc ds ++ junk).toArray := by
   have hfl := Zl3 hk h0 ds.toArray
   have hfs : (flatK enc k ds.toArray).size = ls.length * k := by rw [size_flatK];simp [hdl]
   have hel : (encL enc ds).length = ls.length * k := by rw [Zdy (fun x _ => hk x), hdl]
   apply Array.ext'
   apply List.ext_getElem?
   intro i
   simp only [putCells, Array.getElem?_toList, Array.getElem?_mapIdx, List.getElem?_toArray]
   rcases Nat.lt_or_ge i (ls.length * k) with hi | hi
   ·rw [List.getElem?_append_left (by omega), List.getElem?_append_left (by omega), List.getElem?_eq_getElem (show i < (encL enc ls).length by omega)]
    simp only [Option.map_some]
    rw [if_pos ⟨Nat.zero_le _, by omega⟩, Nat.sub_zero, getElem!_pos _ i (by omega)]
    have h2 : (flatK enc k ds.toArray).toList[i]? = (encL enc ds)[i]? := by rw [hfl]
    rw [← h2, Array.getElem?_toList, Array.getElem?_eq_getElem (by omega)]
    rfl
   ·rw [List.getElem?_append_right (by omega), List.getElem?_append_right (by omega), hxl, hel]
    cases hjv : junk[i - ls.length * k]? with
    | none => rfl
    | some z =>
     simp only [Option.map_some]
     rw [if_neg (by omega)]
  have hnew : (sortWorldK enc k w b 0 n ds.toArray os).heap[b]? = some (.cells (encL enc ds ++ junk).toArray e (0, 0)) := by
   have hs : b < (putRowK enc k (Go.Sort.ahead w n) b 0 ds.toArray).heap.size := by simpa [putRowK, Go.Sort.ahead] using hlt
   simp only [sortWorldK, grow]
   rw [Array.getElem?_append_left hs]
   simp only [putRowK, putRow, mapBlock, Go.Sort.ahead]
   rw [Array.getElem?_modify]
   simp only [if_true, hb, Option.map_some, onCells, hcells]
  have hext : Ext [b] w (sortWorldK enc k w b 0 n ds.toArray os) := by
   refine ⟨rfl, rfl, rfl, ?_, ?_, fun j hj hne => ?_⟩
   ·simp [sortWorldK, grow, putRowK, putRow, mapBlock, Go.Sort.ahead]
   ·simp [sortWorldK, grow, putRowK, putRow, mapBlock, Go.Sort.ahead]
   ·have hs : j < (putRowK enc k (Go.Sort.ahead w n) b 0 ds.toArray).heap.size := by simpa [putRowK, Go.Sort.ahead] using hj
    simp only [sortWorldK, grow]
    rw [Array.getElem?_append_left hs]
    simp only [putRowK, putRow, mapBlock, Go.Sort.ahead]
    rw [Array.getElem?_modify, if_neg (by intro h;exact hne (by simp [h]))]
  exact M.turned ((Upd.here (l := [])).append lr) hext hnew
end
end Go.Proofs.YtfhkmgcalcfibaaGreat
namespace Go.Proofs.YtfhkmgcalcfibaaGreat
open Go.RowKit
def Chg (w : World) (k : Nat) : Prop := ∃ cs t, w.heap[k]? = some (.cells cs t (0, 0)) ∧ 20 < cs.size
structure BigE (n0 : Nat) (w w' : World) : Prop where
 os : w'.os = w.os
 tape : w'.tape = w.tape
 output : w'.output = w.output
 size : w.heap.size ≤ w'.heap.size
 dr : w.drawn ≤ w'.drawn
 block : ∀ k, k < w.heap.size → (k < n0 ∨ ¬ Chg w k) → w'.heap[k]? = w.heap[k]?
theorem BigE.of_ext {n0 : Nat} {w w' : World} (h : Ext [] w w') : BigE n0 w w' := ⟨h.os, h.tape, h.output, h.size, h.dr, fun k hk _ => h.block k hk (by simp)⟩
theorem BigE.trans {n0 : Nat} {a b c : World} (h : BigE n0 a b) (k : BigE n0 b c) : BigE n0 a c :=
 ⟨k.os.trans h.os, k.tape.trans h.tape, k.output.trans h.output, Nat.le_trans h.size k.size, Nat.le_trans h.dr k.dr, fun i hi hc => by
  have h1 := h.block i hi hc
  rw [k.block i (Nat.lt_of_lt_of_le hi h.size) (hc.imp_right fun hn hx => hn (by
   obtain ⟨cs, t, e, hs⟩ := hx
   exact ⟨cs, t, by rw [← h1];exact e, hs⟩)), h1]⟩
theorem BigE.ext {w w' : World} (h : BigE w.heap.size w w') : Ext [] w w' := ⟨h.os, h.tape, h.output, h.size, h.dr, fun k hk _ => h.block k hk (.inl hk)⟩
section
variable {P : Program} {ρ : Operand → Value} {w W0 : World} {S : List Nat} {l l' : List (Nat × Obj)} {R : Value → World → Prop} {d : Option Tmp} {ty : TypeId} {pos : String} {af : Array Edge} {g : Option (Nat × Bool)}
theorem ZkA {st xt e tyy : TypeId} {sz by_ n m cap : Nat} {base : Option Addr} {xv : Value} {xs ys : List Value} (hst : P.underlying st = some (.slice e)) (hel : elB P e sz by_ = true) (hxt : Zix P xt = true)
  (hV : Zdo P w (.slice base n cap) n sz xs) (hX : Zdo P w xv m sz ys) (hgt : cap < n + m) (hnc' : n ≤ cap) (hbd : (n + m) * by_ ≤ 140737488355328) (hln : n + m ≤ 9223372036854775807) :
  ∃ v' w' ent', (Builtin.append_ #[st, xt] tyy #[.slice base n cap, xv]).run P w = .ok v' w' ∧ OwnS e sz v' (n + m) (xs ++ ys) ent' ∧ Mem [] w w' ent' := by
 obtain ⟨i, z, hi, rfl, rfl, hz, hzs⟩ := Zjn hel
 have hdx := ZdM hxt
 have h48 : ¬ (281474976710656 < Builtin.nextslicecap (n + m) cap * i.bytes) := by
  have := growslice_fits (need := n + m) (old := cap) (bytes := i.bytes) (by omega) hbd
  omega
 have hnc : n + m ≤ grownCap w (n + m) cap e := grownCap_ge w _ _ _
 have hrun := Zew (tyy := tyy) (w := w) hst hi hz hdx hX.len (by omega) hln h48 (hV.cells (w.drawn + 1)) (hX.cells (w.drawn + 1))
 have e1 : (xs.toArray ++ ys.toArray ++ Builtin.zeroCells z.cells (grownCap w (n + m) cap e - (n + m))) = (xs ++ ys ++ (Builtin.zeroCells z.cells (grownCap w (n + m) cap e - (n + m))).toList).toArray := by
  apply Array.ext';rw [Array.toList_append, Array.toList_append]
 rw [e1] at hrun
 exact ⟨_, _, [(w.heap.size, .cells (xs ++ ys ++ (Builtin.zeroCells z.cells (grownCap w (n + m) cap e - (n + m))).toList).toArray e (0, 0))], hrun, .inr ⟨w.heap.size, grownCap w (n + m) cap e, (Builtin.zeroCells z.cells (grownCap w (n + m) cap e - (n + m))).toList, rfl, rfl, by rw [List.length_append, hV.size, hX.size, Nat.add_mul], by rw [Array.length_toList, size_zeroCells, hzs], hnc⟩, ((Mem.start [] w).later (Ext.drawn w (w.drawn + 1) (Nat.le_succ _))).alloc _⟩
end
section
variable {P : Program} {ρ : Operand → Value} {w W0 : World} {S : List Nat} {l l' : List (Nat × Obj)} {R : Value → World → Prop} {d : Option Tmp} {ty : TypeId} {pos : String} {af : Array Edge} {g : Option (Nat × Bool)}
theorem Zp8 {t t' e : TypeId} {x y : Operand} {p : Option Addr} {n c : Nat} (hx : ρ x = .slice p n c) (hy : ρ y = .slice none 0 0) [ht : TU P t (.slice e)] (h : R (.bool p.isNone) w) : OpTo P ⟨d, .binOp .eql t x y t', ty, pos, af, g⟩ ρ w R := by
 have hr0 : ∀ k : Nat, (Op.equalIn (k + 1) t (.slice p n c) (.slice none 0 0)).run P w = .ok p.isNone w := fun k => by
  cases p <;> simp [Op.equalIn, run_underlying ht.h]
 have hr := hr0 9999
 exact OpTo.val (v := .bool p.isNone) (w' := w) (by simp [execOp, eqGuard, binOp, Op.equal, Op.maxDepth, hx, hy, hr]) h
end
theorem Zlk {a : Act} {n : Nat} {df : List Deferred} {fr : List (Nat × Value)} {b : Bool} {p : Prop} (F : Frm a n df fr) (t : Nat) (h : look fr t = some (.bool b)) (ht : b = true → p) (hf : b = false → p) : p := by
 cases b
 ·exact hf rfl
 ·exact ht rfl
theorem ZbE {x y : Int} (h : (x != y) = true) : x ≠ y := bne_iff_ne.1 h
theorem ZaV {x y : Int} (h : (x != y) = false) : x = y := by simpa using h
theorem Zaa {b : Bool} (h : (!b) = true) : b = false := by cases b <;> simp_all
theorem Zac {b : Bool} (h : (!b) = false) : b = true := by cases b <;> simp_all
section
variable {P : Program} {ρ : Operand → Value} {w W0 : World} {S : List Nat} {l l' : List (Nat × Obj)} {R : Value → World → Prop} {d : Option Tmp} {ty : TypeId} {pos : String} {af : Array Edge} {g : Option (Nat × Bool)}
theorem Zj4 {α : Type} {enc : α → List Value} {out : List α} {x0 : α} {st xt e : TypeId} {x y : Operand} {sz by_ : Nat} {v xv : Value} {ent : List (Nat × Obj)} {f : List (Nat × Obj) → List (Nat × Obj)} [hst : TU P st (.slice e)] [hel : TEl P e sz by_] [hxt : TNI P xt] (hO : OwnS e sz v out.length (encL enc out) ent) (M : Mem S W0 w l) (hl : Ze3 ent l f)
  (hx : ρ x = v) (hy : ρ y = xv) (hX : Zdo P w xv 1 sz (enc x0)) (hbd : (out.length + 1) * by_ ≤ 140737488355328)
  (h : ∀ v' ent' w', OwnS e sz v' (out ++ [x0]).length (encL enc (out ++ [x0])) ent' → Mem S W0 w' (f ent') → R v' w') (hln : out.length + 1 ≤ 9223372036854775807 := by first | omega | (simp only [List.length_append, List.length_singleton];omega)) : OpTo P ⟨d, .call ⟨.builtin .append, #[x, y], #[st, xt]⟩, ty, pos, af, g⟩ ρ w R := by
 refine ZlM hO M hl hx hy hX hbd hln fun v' ent' w' hO' M' => h v' ent' w' ?_ M'
 rw [Zf2, Zjm, List.length_append, List.length_singleton]
 exact hO'
theorem ZnX {t t' : TypeId} {x y : Operand} {ks : List LK} {xs ys : List Value} {b : Bool} [ht : TEq P t ks] (hx : ρ x = .agg xs.toArray) (hy : ρ y = .agg ys.toArray) (fx : Za7 ks xs = true) (fy : Za7 ks ys = true) (he : eqVs xs ys = b) (h : R (.bool b) w) : OpTo P ⟨d, .binOp .eql t x y t', ty, pos, af, g⟩ ρ w R := Zj3 hx hy fx fy (by rw [he];exact h)
theorem Zr7 {t t' : TypeId} {x y : Operand} {ks : List LK} {xs ys : List Value} {b : Bool} [ht : TEq P t ks] (hx : ρ x = .agg xs.toArray) (hy : ρ y = .agg ys.toArray) (fx : Za7 ks xs = true) (fy : Za7 ks ys = true) (he : eqVs xs ys = b) (h : R (.bool !b) w) : OpTo P ⟨d, .binOp .neq t x y t', ty, pos, af, g⟩ ρ w R := Zri hx hy fx fy (by rw [he];exact h)
theorem Zp4 {x : Operand} {t e e' : TypeId} {v : Value} {sz n : Nat} {xs : List Value} {ent : List (Nat × Obj)} (hx : ρ x = v) (hO : OwnS e' sz v n xs ent) [ht : TU P t (.slice e)] (h : R (.int .i64 n) w) : OpTo P ⟨d, .call ⟨.builtin .len, #[x], #[t]⟩, ty, pos, af, g⟩ ρ w R := by
 obtain ⟨p, c, rfl⟩ := hO.slice
 exact Zek hx h
end
theorem SlAt.memB {W : World} {sz : Nat} {q : Option Addr} {n cap : Nat} {cs : List Value} (h : SlAt W sz (.slice q n cap) n cs) (S : List Nat) (hn : ∀ b o s, q = some ⟨b, o, s⟩ → b ∉ S) : 0 < n → ∃ b o xs t fz, q = some ⟨b, o, none⟩ ∧ (∀ w', Ext S W w' → w'.heap[b]? = some (.cells (List.toArray xs) t fz)) ∧ seg xs o (n * sz) = some cs := by
 obtain ⟨p, cap', e, _, _, _, h5⟩ := h
 cases e
 intro h0
 obtain ⟨b, o, xs, t, fz, rfl, hb, hs⟩ := h5 h0
 refine ⟨b, o, xs, t, fz, rfl, fun w' E => ?_, hs⟩
 rw [E.block b (Array.getElem?_eq_some_iff.1 hb).1 (hn b o none rfl)]
 exact hb
section
variable {α : Type} (c : α → Int) (x : α)
end
def Zol (P : Program) (t : TypeId) : Bool := match P.underlying t with | some (.slice _) => true | _ => false
structure Cx where
 P : Program
 r : Option Nat
 n : Nat
 df : List Deferred
 S : List Nat
 W : World
 flds : List (Nat × Nat × Nat)
 slcs : List Nat
 hf : (flds.all fun q => Zc7 P q.1 q.2.1 q.2.2) = true
 hs : (slcs.all fun t => Zol P t) = true
inductive KF
 | seq (y : Code)
 | blk (id : Nat)
inductive St
 | code (x : Code)
 | ops (all : Array Oper) (rest : List Oper)
 | ext (e : Exit)
def KQ (c : Cx) (Q : Exit → Act → World → Prop) : List KF → Exit → Act → World → Prop
 | [] => Q
 | .seq y :: ks => Exit.then (Wp c.r c.P y (KQ c Q ks)) (KQ c Q ks)
 | .blk id :: ks => Exit.inBlock id (KQ c Q ks)
def GS (c : Cx) (Q : Exit → Act → World → Prop) (ks : List KF) : St → Act → World → Prop
 | .code x => Wp c.r c.P x (KQ c Q ks)
 | .ops all rest => wpListIn (FW c.r) 0 c.P all (KQ c Q ks) rest
 | .ext e => KQ c Q ks e
abbrev Row := List (List (Nat × Obj))
def G (c : Cx) (Q : Exit → Act → World → Prop) (ks : List KF) (st : St) (fr : List (Nat × Value)) (l : Row) : Prop :=
 ∀ a w, Frm a c.n c.df fr → Mem c.S c.W w l.flatten → GS c Q ks st a w
def ZoF : List (Nat × Nat × Nat) → Nat → Nat → Option Nat
 | [], _, _ => none
 | (s, i, o) :: r, t, j => match Nat.beq s t && Nat.beq i j with
  | true => some o
  | false => ZoF r t j
theorem Zl2 {P : Program} : ∀ {l : List (Nat × Nat × Nat)} {t j o : Nat}, (l.all fun q => Zc7 P q.1 q.2.1 q.2.2) = true → ZoF l t j = some o → Zc7 P t j o = true
 | [], _, _, _, _, h => by simp [ZoF] at h
 | (s, i, q) :: r, t, j, o, ha, h => by
  simp only [List.all_cons, Bool.and_eq_true] at ha
  unfold ZoF at h
  split at h
  ·rename_i hb
   simp only [Bool.and_eq_true] at hb
   obtain rfl := Nat.eq_of_beq_eq_true hb.1
   obtain rfl := Nat.eq_of_beq_eq_true hb.2
   cases h
   exact ha.1
  ·exact Zl2 ha.2 h
def memN : List Nat → Nat → Bool
 | [], _ => false
 | s :: r, t => match Nat.beq s t with
  | true => true
  | false => memN r t
theorem Zn9 : ∀ {l : List Nat} {t : Nat}, memN l t = true → t ∈ l
 | [], _, h => by simp [memN] at h
 | s :: r, t, h => by
  unfold memN at h
  split at h
  ·rename_i hb
   simp [Nat.eq_of_beq_eq_true hb]
  ·exact List.mem_cons_of_mem _ (Zn9 h)
def kEq : IntKind → IntKind → Bool
 | .i8, .i8 | .i16, .i16 | .i32, .i32 | .i64, .i64 | .u8, .u8 | .u16, .u16 | .u32, .u32 | .u64, .u64 => true
 | _, _ => false
theorem ZtF {a b : IntKind} (h : kEq a b = true) : a = b := by
 cases a <;> cases b <;> first | rfl | cases h
def Zt9 : BinOp → Int → Int → Option Bool
 | .lss, m, n => some (decide (m < n))
 | .leq, m, n => some (decide (m ≤ n))
 | .gtr, m, n => some (decide (n < m))
 | .geq, m, n => some (decide (n ≤ m))
 | .eql, m, n => some (m == n)
 | .neq, m, n => some (m != n)
 | _, _, _ => none
def Zsz (b : BinOp) : Value → Value → Option Value
 | .int k m, .int k' n => match kEq k k' with
  | true => match Zt9 b m n with
   | some v => some (.bool v)
   | none => none
  | false => none
 | _, _ => none
def evO (c : Cx) (fr : List (Nat × Value)) : Op → Option Value
 | .move x => Ev fr x
 | .assign x => Ev fr x
 | .extract x i => match Ev fr x with
  | some (.tuple vs) => nth vs.toList i
  | _ => none
 | .fieldAddr s x i => match Ev fr x with
  | some (.pointer (some ⟨b, o, none⟩)) => match ZoF c.flds s i with
   | some off => some (.pointer (some ⟨b, o + off, none⟩))
   | none => none
  | _ => none
 | .unOp .not _ x => match Ev fr x with
  | some (.bool b) => some (.bool (!b))
  | _ => none
 | .binOp b _ x y _ => match Ev fr x with
  | some v => match Ev fr y with
   | some u => Zsz b v u
   | none => none
  | none => none
 | .pick q x y => match Ev fr q with
  | some (.bool true) => match Ev fr y with
   | some _ => Ev fr x
   | none => none
  | some (.bool false) => match Ev fr x with
   | some _ => Ev fr y
   | none => none
  | _ => none
 | .call q => match q.callee with
  | .builtin .len => match q.args.toList with
   | [x] => match q.argTypes.toList with
    | [t] => match Ev fr x with
     | some (.slice _ n _) => match memN c.slcs t with
      | true => some (.int .i64 n)
      | false => none
     | _ => none
    | _ => none
   | _ => none
  | _ => none
 | _ => none
def gOk (all : Array Oper) (fr : List (Nat × Value)) : Option (Nat × Bool) → Option Bool
 | none => some true
 | some (j, b) => match (all[j]?).bind (·.dst) with
  | some t => match look fr t with
   | some (.bool true) => some b
   | some (.bool false) => some (!b)
   | some (.tuple _) => some false
   | _ => none
  | none => none
def run1 (c : Cx) : List KF → St → List (Nat × Value) → Option (List KF × St × List (Nat × Value))
 | ks, .ops all [], fr => some (ks, .ext .normal, fr)
 | ks, .ops all (o :: rest), fr => match o.dst with
  | some d => match Nat.blt d c.n with
   | true => match gOk all fr o.guard with
    | some true => match evO c fr o.op with
     | some v => some (ks, .ops all rest, (d, v) :: fr)
     | none => none
    | some false => some (ks, .ops all rest, (d, undef) :: fr)
    | none => none
   | false => none
  | none => none
 | ks, .code x, fr => match x with
  | .skip => some (ks, .ext .normal, fr)
  | .region _ ops false => some (ks, .ops ops ops.toList, fr)
  | .seq x y => some (.seq y :: ks, .code x, fr)
  | .block id x => some (.blk id :: ks, .code x, fr)
  | .exit id => some (ks, .ext (.exit id), fr)
  | .ret => some (ks, .ext .ret, fr)
  | .cond o x y => match Ev fr o with
   | some (.bool true) => some (ks, .code x, fr)
   | some (.bool false) => some (ks, .code y, fr)
   | _ => none
  | _ => none
 | .seq y :: ks, .ext e, fr => match e with
  | .normal => some (ks, .code y, fr)
  | .exit id => some (ks, .ext (.exit id), fr)
  | .ret => some (ks, .ext .ret, fr)
  | _ => none
 | .blk id :: ks, .ext e, fr => match e with
  | .normal => some (ks, .ext .normal, fr)
  | .exit id' => match Nat.beq id' id with
   | true => some (ks, .ext .normal, fr)
   | false => some (ks, .ext (.exit id'), fr)
  | .ret => some (ks, .ext .ret, fr)
  | _ => none
 | [], .ext _, _ => none
def runN (c : Cx) : Nat → List KF → St → List (Nat × Value) → List KF × St × List (Nat × Value)
 | 0, ks, st, fr => (ks, st, fr)
 | k + 1, ks, st, fr => match run1 c ks st fr with
  | some (ks', st', fr') => runN c k ks' st' fr'
  | none => (ks, st, fr)
theorem ZqG {P : Program} {b : BinOp} {t t' : TypeId} {x y : Operand} {ρ : Operand → Value} {w : World} {R : Value → World → Prop} {d : Option Tmp} {ty : TypeId} {pos : String} {af : Array Edge} {g : Option (Nat × Bool)} {v : Value}
  (h : Zsz b (ρ x) (ρ y) = some v) (hR : R v w) : OpTo P ⟨d, .binOp b t x y t', ty, pos, af, g⟩ ρ w R := by
 unfold Zsz at h
 split at h
 ·rename_i k m k' n hx hy
  split at h
  ·rename_i hk
   obtain rfl := ZtF hk
   split at h
   ·rename_i q hq
    cases h
    cases b <;> simp only [Zt9, Option.some.injEq] at hq <;> first | cases hq | subst hq
    all_goals first | exact ZkV hx hy hR | exact Ztx hx hy hR | exact ZnV hx hy hR | exact ZnW hx hy hR | exact ZmG hx hy hR | exact Zp2 hx hy hR
   ·cases h
  ·cases h
 ·cases h
theorem Zl5 {c : Cx} {fr : List (Nat × Value)} {op : Op} {v : Value} {a : Act} {n : Nat} {df : List Deferred} {w : World} {R : Value → World → Prop} {d : Option Tmp} {ty : TypeId} {pos : String} {af : Array Edge} {g : Option (Nat × Bool)}
  (F : Frm a n df fr) (h : evO c fr op = some v) (hR : R v w) : OpTo c.P ⟨d, op, ty, pos, af, g⟩ a.eval w R := by
 unfold evO at h
 split at h
 ·exact Zaq (F.e h) hR
 ·exact Zau (F.e h) hR
 ·split at h
  ·rename_i vs hx
   exact Zj2 (vs := vs.toList) (by simpa using F.e hx) h hR
  ·cases h
 ·split at h
  ·rename_i b o hx
   split at h
   ·rename_i off hf
    cases h
    haveI : TFld c.P _ _ off := ⟨Zl2 c.hf hf⟩
    exact Zay (F.e hx) hR
   ·cases h
  ·cases h
 ·split at h
  ·rename_i b hx
   cases h
   exact Ztv (F.e hx) hR
  ·cases h
 ·split at h
  ·rename_i v1 hx
   split at h
   ·rename_i v2 hy
    rw [← F.e hx, ← F.e hy] at h
    exact ZqG h hR
   ·cases h
  ·cases h
 ·split at h
  ·rename_i hq
   split at h
   ·rename_i u hy
    exact Zrg (F.e hq) (F.e h) (F.e hy) (by simpa using hR)
   ·cases h
  ·rename_i hq
   split at h
   ·rename_i u hx
    exact Zrg (F.e hq) (F.e hx) (F.e h) (by simpa using hR)
   ·cases h
  ·cases h
 ·rename_i q
  obtain ⟨callee, args, tys⟩ := q
  split at h
  ·rename_i hc
   split at h
   ·rename_i x hx1
    split at h
    ·rename_i t ht1
     split at h
     ·rename_i p k q hx
      split at h
      ·rename_i hm
       cases h
       dsimp only at hc hx1 ht1
       subst hc
       obtain rfl : args = #[x] := by cases args;simp_all
       obtain rfl : tys = #[t] := by cases tys;simp_all
       have h1 := List.all_eq_true.1 c.hs _ (Zn9 hm)
       unfold Zol at h1
       split at h1
       ·rename_i e he
        haveI : TU c.P _ (.slice e) := ⟨he⟩
        exact Zek (F.e hx) hR
       ·cases h1
      ·cases h
     ·cases h
    ·cases h
   ·cases h
  ·cases h
 ·cases h
theorem evO_plain {c : Cx} {fr : List (Nat × Value)} {op : Op} {v : Value} (h : evO c fr op = some v) : ZdJ op = true := by
 cases op <;> first | rfl | (simp [evO] at h)
section
variable {c : Cx} {Q : Exit → Act → World → Prop} {ks ks' : List KF} {st st' : St} {fr fr' : List (Nat × Value)} {l : Row}
theorem Zg0 {all : Array Oper} {g : Option (Nat × Bool)} (h : gOk all fr g = some true) : g = none ∨ ∃ j b t, g = some (j, b) ∧ (all[j]?).bind (·.dst) = some t ∧ look fr t = some (.bool b) := by
 unfold gOk at h
 split at h
 ·exact .inl rfl
 ·rename_i j b
  split at h
  ·rename_i t ht
   split at h
   ·rename_i hl
    cases h
    exact .inr ⟨j, true, t, rfl, ht, hl⟩
   ·rename_i hl
    have : b = false := by cases b <;> simp_all
    subst this
    exact .inr ⟨j, false, t, rfl, ht, hl⟩
   ·cases h
   ·cases h
  ·cases h
theorem ZfV {all : Array Oper} {g : Option (Nat × Bool)} (h : gOk all fr g = some false) : ∃ j b t v, g = some (j, b) ∧ (all[j]?).bind (·.dst) = some t ∧ look fr t = some v ∧ Zfa b v = true := by
 unfold gOk at h
 split at h
 ·cases h
 ·rename_i j b
  split at h
  ·rename_i t ht
   split at h
   ·rename_i hl
    cases h
    exact ⟨j, false, t, _, rfl, ht, hl, rfl⟩
   ·rename_i hl
    have : b = true := by cases b <;> simp_all
    subst this
    exact ⟨j, true, t, _, rfl, ht, hl, rfl⟩
   ·rename_i vs hl
    exact ⟨j, b, t, _, rfl, ht, hl, rfl⟩
   ·cases h
  ·cases h
theorem g_op {all : Array Oper} {d : Nat} {op : Op} {ty : TypeId} {pos : String} {af : Array Edge} {g : Option (Nat × Bool)} {rest : List Oper} (hp : ZdJ op = true) (hd : Nat.blt d c.n = true) (hg : gOk all fr g = some true)
  (h : ∀ a w, Frm a c.n c.df fr → Mem c.S c.W w l.flatten → OpTo c.P ⟨some d, op, ty, pos, af, g⟩ a.eval w fun v w' => ∀ a', Frm a' c.n c.df ((d, v) :: fr) → GS c Q ks (.ops all rest) a' w') :
  G c Q ks (.ops all (⟨some d, op, ty, pos, af, g⟩ :: rest)) fr l := fun a w F M => by
 rcases Zg0 hg with rfl | ⟨j, b, t, rfl, ht, hl⟩
 ·exact Zta hp F hd (h a w F M)
 ·exact Zs9 hp F hd ht hl (h a w F M)
theorem ZrQ (h : run1 c ks st fr = some (ks', st', fr')) (hk : G c Q ks' st' fr' l) : G c Q ks st fr l := by
 unfold run1 at h
 split at h
 ·rename_i all
  cases h
  exact fun a w F M => (ZaF (hk a w F M) : wpListIn (FW c.r) 0 c.P all (KQ c Q ks) [] a w)
 ·rename_i all o rest
  obtain ⟨dst, op, ty, pos, af, g⟩ := o
  cases dst with
  | none => cases h
  | some d =>
   simp only at h
   split at h
   ·rename_i hd
    split at h
    ·rename_i hg
     split at h
     ·rename_i v hv
      cases h
      exact g_op (evO_plain hv) hd hg fun a w F M => Zl5 F hv fun a' F' => hk a' w F' M
     ·cases h
    ·rename_i hg
     cases h
     obtain ⟨j, b, t, v, rfl, ht, hl, ho⟩ := ZfV hg
     exact fun a w F M => Znn F hd ht hl ho fun a' F' => hk a' w F' M
    ·cases h
   ·cases h
 ·split at h
  ·cases h
   exact fun a w F M => ZcQ (hk a w F M)
  ·rename_i id ops
   cases h
   intro a w F M
   have := Zaf (id := id) (hk a w F M)
   simpa [GS] using this
  ·cases h
   exact fun a w F M => ZaB (hk a w F M)
  ·cases h
   exact fun a w F M => ZbT (hk a w F M)
  ·cases h
   exact fun a w F M => Zf6 (hk a w F M)
  ·cases h
   exact fun a w F M => Zb6 (hk a w F M)
  ·split at h
   ·rename_i ho
    cases h
    exact fun a w F M => ZcV F ho rfl (hk a w F M)
   ·rename_i ho
    cases h
    exact fun a w F M => Zcm F ho rfl (hk a w F M)
   ·cases h
  ·cases h
 ·split at h
  ·cases h
   exact fun a w F M => hk a w F M
  ·cases h
   exact fun a w F M => hk a w F M
  ·cases h
   exact fun a w F M => hk a w F M
  ·cases h
 ·split at h
  ·cases h
   exact fun a w F M => hk a w F M
  ·split at h
   ·rename_i hb
    cases h
    obtain rfl := Nat.eq_of_beq_eq_true hb
    exact fun a w F M => ZgD (hk a w F M)
   ·rename_i hb
    cases h
    exact fun a w F M => Zto hb (hk a w F M)
  ·cases h
   exact fun a w F M => hk a w F M
  ·cases h
 ·cases h
theorem Znu : ∀ (k : Nat) {ks ks' : List KF} {st st' : St} {fr fr' : List (Nat × Value)}, runN c k ks st fr = (ks', st', fr') → G c Q ks' st' fr' l → G c Q ks st fr l
 | 0, _, _, _, _, _, _, h, hk => by
  cases h
  exact hk
 | k + 1, ks, ks', st, st', fr, fr', h, hk => by
  unfold runN at h
  split at h
  ·rename_i h1
   exact ZrQ h1 (Znu k h hk)
  ·cases h
   exact hk
theorem gR (k : Nat) (h : runN c k ks st fr = (ks', st', fr')) (hk : G c Q ks' st' fr' l) : G c Q ks st fr l := Znu k h hk
end
theorem bneF {x y : Int} (h : x = y) : (x != y) = false := by simp [h]
theorem notT {b : Bool} (h : b = false) : (!b) = true := by simp [h]
theorem notF {b : Bool} (h : b = true) : (!b) = false := by simp [h]
def nthO {α : Type} : List α → Nat → Option α
 | [], _ => none
 | x :: _, 0 => some x
 | _ :: r, i + 1 => nthO r i
theorem ZlP : ∀ {l : Row} {i : Nat} {e : List (Nat × Obj)}, nthO l i = some e → ∀ x ∈ e, x ∈ l.flatten
 | [], _, _, h => by simp [nthO] at h
 | y :: _, 0, x, h => by
  simp only [nthO, Option.some.injEq] at h
  intro z hz
  simp [h, hz]
 | _ :: r, i + 1, x, h => fun z hz => List.mem_append_right _ (ZlP (l := r) h z hz)
theorem Zae {l : Row} {i : Nat} {x : Nat × Obj} (h : nthO l i = some [x]) : x ∈ l.flatten := ZlP h x (by simp)
def setO : Row → Nat → List (Nat × Obj) → Option Row
 | [], _, _ => none
 | _ :: r, 0, o => some (o :: r)
 | p :: r, i + 1, o => match setO r i o with
  | some q => some (p :: q)
  | none => none
theorem subO {l l' : Row} (h : l.Sublist l') : l.flatten.Sublist l'.flatten := by
 induction h with
 | slnil => exact .refl _
 | cons x h ih => exact ih.trans (List.sublist_append_right _ _)
 | cons_cons x h ih => exact List.Sublist.append (.refl _) ih
theorem Ze6 : ∀ {l l' : Row} {i b : Nat} {o o' : Obj}, nthO l i = some [(b, o)] → setO l i [(b, o')] = some l' → Upd l.flatten b o o' l'.flatten
 | [], _, _, _, _, _, h, _ => by simp [nthO] at h
 | p :: r, l', 0, b, o, o', h, k => by
  simp only [nthO, Option.some.injEq] at h
  simp only [setO, Option.some.injEq] at k
  subst h
  subst k
  exact .here
 | p :: r, l', i + 1, b, o, o', h, k => by
  simp only [nthO] at h
  simp only [setO] at k
  split at k
  ·rename_i q hq
   cases k
   exact (Ze6 h hq).append _
  ·cases k
theorem ZcN : ∀ {l l' : Row} {i : Nat} {e e' : List (Nat × Obj)}, nthO l i = some e → setO l i e' = some l' → ∃ r, l.flatten.Perm (e ++ r) ∧ l'.flatten.Perm (e' ++ r)
 | [], _, _, _, _, h, _ => by simp [nthO] at h
 | p :: r, l', 0, e, e', h, k => by
  simp only [nthO, Option.some.injEq] at h
  simp only [setO, Option.some.injEq] at k
  subst h
  subst k
  exact ⟨r.flatten, .refl _, .refl _⟩
 | p :: r, l', i + 1, e, e', h, k => by
  simp only [nthO] at h
  simp only [setO] at k
  split at k
  ·rename_i q hq
   cases k
   obtain ⟨s, h1, h2⟩ := ZcN h hq
   refine ⟨p ++ s, ?_, ?_⟩
   ·refine (List.Perm.append_left p h1).trans ?_
    rw [← List.append_assoc, ← List.append_assoc]
    exact List.Perm.append_right _ List.perm_append_comm
   ·refine (List.Perm.append_left p h2).trans ?_
    rw [← List.append_assoc, ← List.append_assoc]
    exact List.Perm.append_right _ List.perm_append_comm
  ·cases k
theorem OwnS.nilL {α : Type} (enc : α → List Value) (e : TypeId) (sz : Nat) : OwnS e sz (.slice none 0 0) ([] : List α).length (encL enc []) [] := OwnS.nil _ _
section
variable {c : Cx} {Q : Exit → Act → World → Prop} {ks : List KF} {fr : List (Nat × Value)} {l l' : Row} {all : Array Oper} {rest : List Oper} {d : Nat} {ty : TypeId} {pos : String} {af : Array Edge} {g : Option (Nat × Bool)}
theorem g_v {op : Op} {v : Value} (h : ∀ a w, Frm a c.n c.df fr → Mem c.S c.W w l.flatten → ∀ R : Value → World → Prop, R v w → OpTo c.P ⟨some d, op, ty, pos, af, g⟩ a.eval w R)
  (k : G c Q ks (.ops all rest) ((d, v) :: fr) l) (hp : ZdJ op = true := by rfl) (hd : Nat.blt d c.n = true := by rfl) (hg : gOk all fr g = some true := by rfl) : G c Q ks (.ops all (⟨some d, op, ty, pos, af, g⟩ :: rest)) fr l :=
 g_op hp hd hg fun a w F M => h a w F M _ fun a' F' => k a' w F' M
section arith
variable {t t' : TypeId} {x y : Operand} {k : IntKind} {m n s : Int}
theorem ZaK (hx : Ev fr x = some (.int k m)) (hy : Ev fr y = some (.int k n)) (hs : k.wrap (m + n) = s) (hk : G c Q ks (.ops all rest) ((d, .int k s) :: fr) l) (hd : Nat.blt d c.n = true := by rfl) (hg : gOk all fr g = some true := by rfl) :
  G c Q ks (.ops all (⟨some d, .binOp .add t x y t', ty, pos, af, g⟩ :: rest)) fr l := g_v (fun a w F M R r => ZgN (F.e hx) (F.e hy) hs r) hk rfl hd hg
theorem ZeX (hx : Ev fr x = some (.int k m)) (hy : Ev fr y = some (.int k n)) (hs : k.wrap (m - n) = s) (hk : G c Q ks (.ops all rest) ((d, .int k s) :: fr) l) (hd : Nat.blt d c.n = true := by rfl) (hg : gOk all fr g = some true := by rfl) :
  G c Q ks (.ops all (⟨some d, .binOp .sub t x y t', ty, pos, af, g⟩ :: rest)) fr l := g_v (fun a w F M R r => Zi7 (F.e hx) (F.e hy) hs r) hk rfl hd hg
theorem ZtO (hx : Ev fr x = some (.int k m)) (hy : Ev fr y = some (.int k n)) (hs : k.wrap (m * n) = s) (hk : G c Q ks (.ops all rest) ((d, .int k s) :: fr) l) (hd : Nat.blt d c.n = true := by rfl) (hg : gOk all fr g = some true := by rfl) :
  G c Q ks (.ops all (⟨some d, .binOp .mul t x y t', ty, pos, af, g⟩ :: rest)) fr l := g_v (fun a w F M R r => Zr8 (F.e hx) (F.e hy) hs r) hk rfl hd hg
theorem ZfU {t1 t2 : TypeId} {ds : TypeDesc} {k' : IntKind} (hx : Ev fr x = some (.int k m)) [hs : TU c.P t1 ds] [ht : TU c.P t2 (.int k')] (hm : k'.wrap m = n) (hk : G c Q ks (.ops all rest) ((d, .int k' n) :: fr) l) (hd : Nat.blt d c.n = true := by rfl) (hg : gOk all fr g = some true := by rfl) :
  G c Q ks (.ops all (⟨some d, .convert t1 t2 x, ty, pos, af, g⟩ :: rest)) fr l := g_v (fun a w F M R r => Zey (F.e hx) hm r) hk rfl hd hg
end arith
theorem Zai (i : Nat) {t : TypeId} {x : Operand} {b off : Nat} {cs : List Value} {t' : TypeId} {fz : Nat × Nat} {v : Value} [ht : TOne c.P t] (hx : Ev fr x = some (.pointer (some ⟨b, off, none⟩))) (hl : nthO l i = some [(b, .cells cs.toArray t' fz)]) (hv : nth cs off = some v)
  (hk : G c Q ks (.ops all rest) ((d, v) :: fr) l) (hd : Nat.blt d c.n = true := by rfl) (hg : gOk all fr g = some true := by rfl) : G c Q ks (.ops all (⟨some d, .load t x, ty, pos, af, g⟩ :: rest)) fr l :=
 g_v (fun a w F M R r => Zdw (F.e hx) (M.at_ _ (Zae hl)) hv r) hk rfl hd hg
theorem Zah (i : Nat) {t : TypeId} {x : Operand} {b off n : Nat} {cs : List Value} {t' : TypeId} {fz : Nat × Nat} {vs : List Value} [ht : TAgg c.P t n] (hx : Ev fr x = some (.pointer (some ⟨b, off, none⟩))) (hl : nthO l i = some [(b, .cells cs.toArray t' fz)]) (hv : seg cs off n = some vs)
  (hk : G c Q ks (.ops all rest) ((d, .agg vs.toArray) :: fr) l) (hd : Nat.blt d c.n = true := by rfl) (hg : gOk all fr g = some true := by rfl) : G c Q ks (.ops all (⟨some d, .load t x, ty, pos, af, g⟩ :: rest)) fr l :=
 g_v (fun a w F M R r => Zb4 (F.e hx) (M.at_ _ (Zae hl)) hv r) hk rfl hd hg
theorem Zkg {t : TypeId} {x : Operand} {b off : Nat} {cs : List Value} {t' : TypeId} {fz : Nat × Nat} {v : Value} [ht : TOne c.P t] (hx : Ev fr x = some (.pointer (some ⟨b, off, none⟩))) (hb : ∀ w', Ext c.S c.W w' → w'.heap[b]? = some (.cells cs.toArray t' fz)) (hv : nth cs off = some v)
  (hk : G c Q ks (.ops all rest) ((d, v) :: fr) l) (hd : Nat.blt d c.n = true := by rfl) (hg : gOk all fr g = some true := by rfl) : G c Q ks (.ops all (⟨some d, .load t x, ty, pos, af, g⟩ :: rest)) fr l :=
 g_v (fun a w F M R r => Zdw (F.e hx) (hb w M.ext) hv r) hk rfl hd hg
theorem ZbF {t : TypeId} {x : Operand} {b off n : Nat} {cs : List Value} {t' : TypeId} {fz : Nat × Nat} {vs : List Value} [ht : TAgg c.P t n] (hx : Ev fr x = some (.pointer (some ⟨b, off, none⟩))) (hb : ∀ w', Ext c.S c.W w' → w'.heap[b]? = some (.cells cs.toArray t' fz)) (hv : seg cs off n = some vs)
  (hk : G c Q ks (.ops all rest) ((d, .agg vs.toArray) :: fr) l) (hd : Nat.blt d c.n = true := by rfl) (hg : gOk all fr g = some true := by rfl) : G c Q ks (.ops all (⟨some d, .load t x, ty, pos, af, g⟩ :: rest)) fr l :=
 g_v (fun a w F M R r => Zb4 (F.e hx) (hb w M.ext) hv r) hk rfl hd hg
theorem Zbk {t e : TypeId} {x i : Operand} {k : IntKind} {b o len cap sz : Nat} {j : Int} (hx : Ev fr x = some (.slice (some ⟨b, o, none⟩) len cap)) (hi : Ev fr i = some (.int k j)) [ht : TU c.P t (.slice e)] [hs : TSz c.P e sz] (h0 : 0 ≤ j) (h1 : j < len)
  (hk : G c Q ks (.ops all rest) ((d, .pointer (some ⟨b, o + j.toNat * sz, none⟩)) :: fr) l) (hd : Nat.blt d c.n = true := by rfl) (hg : gOk all fr g = some true := by rfl) : G c Q ks (.ops all (⟨some d, .indexAddr t x i, ty, pos, af, g⟩ :: rest)) fr l :=
 g_v (fun a w F M R r => Zcg (F.e hx) (F.e hi) h0 h1 r) hk rfl hd hg
theorem Zsp {x : Operand} {t e e' : TypeId} {v : Value} {sz n : Nat} {xs : List Value} {ent : List (Nat × Obj)} (hx : Ev fr x = some v) (hO : OwnS e' sz v n xs ent) [ht : TU c.P t (.slice e)]
  (hk : G c Q ks (.ops all rest) ((d, .int .i64 n) :: fr) l) (hd : Nat.blt d c.n = true := by rfl) (hg : gOk all fr g = some true := by rfl) : G c Q ks (.ops all (⟨some d, .call ⟨.builtin .len, #[x], #[t]⟩, ty, pos, af, g⟩ :: rest)) fr l :=
 g_v (fun a w F M R r => Zp4 (F.e hx) hO r) hk rfl hd hg
theorem Zjh {t t' : TypeId} {x y : Operand} {kk : List LK} {xs ys : List Value} {b : Bool} [ht : TEq c.P t kk] (hx : Ev fr x = some (.agg xs.toArray)) (hy : Ev fr y = some (.agg ys.toArray)) (fx : Za7 kk xs = true) (fy : Za7 kk ys = true) (he : eqVs xs ys = b)
  (hk : G c Q ks (.ops all rest) ((d, .bool b) :: fr) l) (hd : Nat.blt d c.n = true := by rfl) (hg : gOk all fr g = some true := by rfl) : G c Q ks (.ops all (⟨some d, .binOp .eql t x y t', ty, pos, af, g⟩ :: rest)) fr l :=
 g_v (fun a w F M R r => ZnX (F.e hx) (F.e hy) fx fy he r) hk rfl hd hg
theorem Zat {t : TypeId} {cs : List Value} [hz : Zcu c.P t cs] (hk : ∀ b, G c Q ks (.ops all rest) ((d, .pointer (some ⟨b, 0, none⟩)) :: fr) ([(b, .cells cs.toArray t (0, 0))] :: l)) (hd : Nat.blt d c.n = true := by rfl) (hg : gOk all fr g = some true := by rfl) :
  G c Q ks (.ops all (⟨some d, .alloc t, ty, pos, af, g⟩ :: rest)) fr l :=
 g_op rfl hd hg fun a w F M => Zdk M fun b w' M' a' F' => hk b a' w' F' M'
theorem ZaA {t : TypeId} {x : Operand} {v : Value} {cs : List Value} (hx : Ev fr x = some v) (hv : v.cells = cs.toArray) (hk : ∀ b, G c Q ks (.ops all rest) ((d, .pointer (some ⟨b, 0, none⟩)) :: fr) ([(b, .cells cs.toArray t (0, 0))] :: l)) (hd : Nat.blt d c.n = true := by rfl) (hg : gOk all fr g = some true := by rfl) :
  G c Q ks (.ops all (⟨some d, .box t x, ty, pos, af, g⟩ :: rest)) fr l :=
 g_op rfl hd hg fun a w F M => Zft M (F.e hx) hv fun b w' M' a' F' => hk b a' w' F' M'
theorem Zb8 (i : Nat) {t : TypeId} {x y : Operand} {b off : Nat} {cs cs' : List Value} {t' : TypeId} {v : Value} [hs : TSz c.P t 1] (hx : Ev fr x = some (.pointer (some ⟨b, off, none⟩))) (hy : Ev fr y = some v) (h1 : v.oneCell' = true) (hl : nthO l i = some [(b, .cells cs.toArray t' (0, 0))]) (hp : put cs off [v] = some cs') (hl' : setO l i [(b, .cells cs'.toArray t' (0, 0))] = some l')
  (hk : G c Q ks (.ops all rest) fr l') : G c Q ks (.ops all (⟨none, .store t x y, ty, pos, af, none⟩ :: rest)) fr l := fun a w F M =>
 ZdT rfl F (Zfb M (F.e hx) (F.e hy) h1 (Ze6 hl hl').has hp (Ze6 hl hl') fun w' M' a' F' => hk a' w' F' M')
theorem Zas (i : Nat) {t : TypeId} {x y : Operand} {b off n : Nat} {cs cs' vs : List Value} {t' : TypeId} [hs : TAgg c.P t n] (hx : Ev fr x = some (.pointer (some ⟨b, off, none⟩))) (hy : Ev fr y = some (.agg vs.toArray)) (hn : vs.length = n) (h1 : vs.all (·.oneCell') = true) (hl : nthO l i = some [(b, .cells cs.toArray t' (0, 0))]) (hp : put cs off vs = some cs') (hl' : setO l i [(b, .cells cs'.toArray t' (0, 0))] = some l')
  (hk : G c Q ks (.ops all rest) fr l') : G c Q ks (.ops all (⟨none, .store t x y, ty, pos, af, none⟩ :: rest)) fr l := fun a w F M =>
 ZdT rfl F (ZbV M (F.e hx) (F.e hy) hn h1 (Ze6 hl hl').has hp (Ze6 hl hl') fun w' M' a' F' => hk a' w' F' M')
theorem Zad {x : Operand} {f : FuncId} {xs : List Operand} {ts : Array TypeId} {vs : List Value} {v : Value} [hb : ZaD c.P f] (hx : Ev fr x = some (.func (.func f) #[] #[])) (ha : evL fr xs = some vs) (hc : ∀ w, Mem c.S c.W w l.flatten → Cal c.P f vs.toArray w fun u w' => u = v ∧ Ext [] w w')
  (hk : G c Q ks (.ops all rest) ((d, v) :: fr) l) (hd : Nat.blt d c.n = true := by rfl) (hg : gOk all fr g = some true := by rfl) : G c Q ks (.ops all (⟨some d, .call ⟨.value x, xs.toArray, ts⟩, ty, pos, af, g⟩ :: rest)) fr l :=
 g_op rfl hd hg fun a w F M => Zbh (F.e hx) (F.evs ha) (Cal.mono (hc w M) fun u w' h a' F' => hk a' w' (h.1 ▸ F') (M.later h.2))
theorem g_if {o : Operand} {x y : Code} {t : Bool} (hx : Ev fr o = some (.bool t)) (ht : t = true → G c Q ks (.code x) fr l) (hf : t = false → G c Q ks (.code y) fr l) : G c Q ks (.code (.cond o x y)) fr l := fun a w F M =>
 c_if F hx (fun h => ht h a w F M) (fun h => hf h a w F M)
theorem Zan (s : Nat) {st : St} {b : Bool} (h : look fr s = some (.bool b)) (ht : b = true → G c Q ks st ((s, .bool true) :: fr) l) (hf : b = false → G c Q ks st ((s, .bool false) :: fr) l) : G c Q ks st fr l := fun a w F M => by
 cases b
 ·exact hf rfl a w (F.know (F.at_ s _ h)) M
 ·exact ht rfl a w (F.know (F.at_ s _ h)) M
theorem Zff {fn : Func} {R : Value → World → Prop} {rvs : List ResultVar} {vs : List Value} {c : Cx} (hdf : c.df = []) (hr : fn.results = rvs.toArray) (hv : ∀ a w, Frm a c.n c.df fr → Mem c.S c.W w l.flatten → Zh2 c.P a w rvs vs) (h : ∀ w, Mem c.S c.W w l.flatten → R (ZcA vs) w) : G c (Post c.P fn R) [] (.ext .ret) fr l := fun a w F M => by
 have F' := F
 rw [hdf] at F'
 exact Zb3 F' hr (hv a w F M) (h w M)
theorem Zab {fn : Func} {R : Value → World → Prop} {t : Nat} {v : Value} {c : Cx} (hdf : c.df = []) (hr : fn.results = [ResultVar.tmp t].toArray) (hv : look fr t = some v) (h : ∀ w, Mem c.S c.W w l.flatten → R v w) : G c (Post c.P fn R) [] (.ext .ret) fr l :=
 Zff hdf hr (fun a w F M => .cons (.tmp (F.e hv)) .nil) h
theorem Zcd {fn : Func} {R : Value → World → Prop} {t t' : Nat} {v v' : Value} {c : Cx} (hdf : c.df = []) (hr : fn.results = [ResultVar.tmp t, ResultVar.tmp t'].toArray) (hv : look fr t = some v) (hv' : look fr t' = some v') (h : ∀ w, Mem c.S c.W w l.flatten → R (.tuple [v, v'].toArray) w) : G c (Post c.P fn R) [] (.ext .ret) fr l :=
 Zff hdf hr (fun a w F M => .cons (.tmp (F.e hv)) (.cons (.tmp (F.e hv')) .nil)) h
theorem ZbB (i : Nat) {fn : Func} {R : Value → World → Prop} {q b off n : Nat} {ty : TypeId} {cs vs : List Value} {t' : TypeId} {fz : Nat × Nat} {c : Cx} [ht : TAgg c.P ty n] (hdf : c.df = []) (hr : fn.results = [ResultVar.cell q ty].toArray) (hq : look fr q = some (.pointer (some ⟨b, off, none⟩))) (hl : nthO l i = some [(b, .cells cs.toArray t' fz)]) (hv : seg cs off n = some vs)
  (h : ∀ w, Mem c.S c.W w l.flatten → R (.agg vs.toArray) w) : G c (Post c.P fn R) [] (.ext .ret) fr l :=
 Zff hdf hr (fun a w F M => .cons (.cell (F.e hq) (ZaP ht.h (M.at_ _ (Zae hl)) (by simpa using hv))) .nil) h
theorem Zby (i : Nat) {fn : Func} {R : Value → World → Prop} {q b off n s : Nat} {u : Value} {ty : TypeId} {cs vs : List Value} {t' : TypeId} {fz : Nat × Nat} {c : Cx} [ht : TAgg c.P ty n] (hdf : c.df = []) (hr : fn.results = [ResultVar.cell q ty, ResultVar.tmp s].toArray) (hq : look fr q = some (.pointer (some ⟨b, off, none⟩))) (hl : nthO l i = some [(b, .cells cs.toArray t' fz)]) (hv : seg cs off n = some vs) (hu : look fr s = some u)
  (h : ∀ w, Mem c.S c.W w l.flatten → R (.tuple [.agg vs.toArray, u].toArray) w) : G c (Post c.P fn R) [] (.ext .ret) fr l :=
 Zff hdf hr (fun a w F M => .cons (.cell (F.e hq) (ZaP ht.h (M.at_ _ (Zae hl)) (by simpa using hv))) (.cons (.tmp (F.e hu)) .nil)) h
theorem Zao {P : Program} {f : FuncId} {fn : Func} {x : Code} {vs : List Value} {W : World} {R : Value → World → Prop} {n : Nat} {S : List Nat} {flds : List (Nat × Nat × Nat)} {slcs : List Nat} (hf : (flds.all fun q => Zc7 P q.1 q.2.1 q.2.2) = true) (hs : (slcs.all fun t => Zol P t) = true)
  (hfn : P.funcs[f]? = some fn) (hb : fn.body = some x) (hn : fn.ntmps = n) (hle : Nat.ble vs.length n = true)
  (h : G ⟨P, none, n, [], S, W, flds, slcs, hf, hs⟩ (Post P fn R) [] (.code x) (ZeS 0 vs) []) : Cal P f vs.toArray W R :=
 ZbU S hfn hb hn hle fun a w F M _ => h a w F M
theorem ZaE {o : Operand} {x y : Code} {t : Bool} (hx : Ev fr o = some (.bool t)) (ht : t = true) (hk : G c Q ks (.code x) fr l) : G c Q ks (.code (.cond o x y)) fr l := fun a w F M => ZcV F hx ht (hk a w F M)
theorem Zav {o : Operand} {x y : Code} {t : Bool} (hx : Ev fr o = some (.bool t)) (ht : t = false) (hk : G c Q ks (.code y) fr l) : G c Q ks (.code (.cond o x y)) fr l := fun a w F M => Zcm F hx ht (hk a w F M)
theorem ZaQ (s : Nat) {st : St} {b b' : Bool} (h : look fr s = some (.bool b)) (hb : b = b') (hk : G c Q ks st ((s, .bool b') :: fr) l) : G c Q ks st fr l := fun a w F M => by
 subst hb
 exact hk a w (F.know (F.at_ s _ h)) M
structure LI (ι : Type) where
 μ : ι → Nat
 p : ι → Prop
 fi : ι → List (Nat × Value)
 li : ι → Row
def LQ {ι : Type} (J : LI ι) (c : Cx) (Q : Exit → Act → World → Prop) (ks : List KF) (i : ι) : Exit → Act → World → Prop
 | .normal, a, w => ∃ j, J.μ j < J.μ i ∧ J.p j ∧ Frm a c.n c.df (J.fi j) ∧ Mem c.S c.W w (J.li j).flatten
 | e, a, w => KQ c Q ks e a w
theorem Za1 {ι : Type} (J : LI ι) (i0 : ι) {x : Code} (h0 : J.p i0) (hfr : ∀ a, Frm a c.n c.df fr → Frm a c.n c.df (J.fi i0)) (hl : (J.li i0).Sublist l)
  (h : ∀ i, J.p i → G c (LQ J c Q ks i) [] (.code x) (J.fi i) (J.li i)) : G c Q ks (.code (.loop x)) fr l := fun a w F M => by
 refine ZgK (fun m a w => ∃ i, m = J.μ i ∧ J.p i ∧ Frm a c.n c.df (J.fi i) ∧ Mem c.S c.W w (J.li i).flatten) (J.μ i0) ⟨i0, rfl, h0, hfr a F, M.sub (subO hl)⟩ ?_
 rintro m a w ⟨i, rfl, hp, F, M⟩
 refine wpIn_mono (h i hp a w F M) fun e a w hq => ?_
 cases e with
 | normal =>
  obtain ⟨j, h1, h2, h3, h4⟩ := hq
  exact ⟨_, h1, j, rfl, h2, h3, h4⟩
 | exit _ => exact hq
 | goto _ => exact hq
 | ret => exact hq
 | panic _ => exact hq
 | outgrown => exact hq
theorem Zar {ι : Type} {J : LI ι} {i : ι} (j : ι) (h2 : J.p j) (h1 : J.μ j < J.μ i) (hfr : ∀ a, Frm a c.n c.df fr → Frm a c.n c.df (J.fi j)) (hl : (J.li j).Sublist l) : G c (LQ J c Q ks i) [] (.ext .normal) fr l := fun a w F M => ⟨j, h1, h2, hfr a F, M.sub (subO hl)⟩
theorem ZaZ {ι : Type} {J : LI ι} {i : ι} {id : Nat} (h : G c Q ks (.ext (.exit id)) fr l) : G c (LQ J c Q ks i) [] (.ext (.exit id)) fr l := h
theorem ZaM {ι : Type} {J : LI ι} {i : ι} (h : G c Q ks (.ext .ret) fr l) : G c (LQ J c Q ks i) [] (.ext .ret) fr l := h
theorem g_bs {t e : TypeId} {len sz : Nat} {xs : List (Nat × Operand)} {parts : List (Nat × List Value)} {zs cs : List Value} [ht : TU c.P t (.slice e)] [hs : TSz c.P e sz] [hz : Zcu c.P e zs] (hv : evP fr xs = some parts)
  (hle : Nat.ble (len * sz) 16777216 = true) (hzl : Nat.beq zs.length sz = true) (hp : Za2 (ZbX len sz) (ZbJ zs (len * sz)) parts = some cs)
  (hk : ∀ b, G c Q ks (.ops all rest) ((d, .slice (some ⟨b, 0, none⟩) len len) :: fr) ([(b, .cells cs.toArray e (0, 0))] :: l)) (hd : Nat.blt d c.n = true := by rfl) (hg : gOk all fr g = some true := by rfl) : G c Q ks (.ops all (⟨some d, .buildSlice t len xs.toArray, ty, pos, af, g⟩ :: rest)) fr l :=
 g_op rfl hd hg fun a w F M => Zch F M hv hle hzl hp fun b w' M' a' F' => hk b a' w' F' M'
theorem ZbI (i j : Nat) {α : Type} {enc : α → List Value} {out : List α} {x0 : α} {st xt e : TypeId} {x y : Operand} {sz by_ bx kx : Nat} {v : Value} {ent : List (Nat × Obj)} {f : List (Nat × Obj) → Row} {t' : TypeId} {fz : Nat × Nat} [hst : TU c.P st (.slice e)] [hel : TEl c.P e sz by_] [hxt : TNI c.P xt]
  (hx : Ev fr x = some v) (hy : Ev fr y = some (.slice (some ⟨bx, 0, none⟩) 1 kx)) (hO : OwnS e sz v out.length (encL enc out) ent) (hi : nthO l i = some ent) (hj : nthO l j = some [(bx, .cells (enc x0).toArray t' fz)]) (hz : (enc x0).length = sz) (hbd : (out.length + 1) * by_ ≤ 140737488355328)
  (hf : ∀ e', setO l i e' = some (f e')) (hk : ∀ v' ent', OwnS e sz v' (out ++ [x0]).length (encL enc (out ++ [x0])) ent' → G c Q ks (.ops all rest) ((d, v') :: fr) (f ent')) (h1 : (enc x0).all (·.oneCell') = true) (hd : Nat.blt d c.n = true := by rfl) (hg : gOk all fr g = some true := by rfl) (hln : out.length + 1 ≤ 9223372036854775807 := by first | omega | (simp only [List.length_nil];omega)) :
  G c Q ks (.ops all (⟨some d, .call ⟨.builtin .append, #[x, y], #[st, xt]⟩, ty, pos, af, g⟩ :: rest)) fr l := by
 refine g_op rfl hd hg fun a w F M => ?_
 obtain ⟨r, p1, _⟩ := ZcN hi (hf ent)
 have hp : ∀ e', (f e').flatten.Perm (e' ++ r) := fun e' => by
  obtain ⟨r', q1, q2⟩ := ZcN hi (hf e')
  exact q2.trans (List.Perm.append_left _ ((List.perm_append_left_iff ent).1 (q1.symm.trans p1)))
 have hX : Zdo c.P w (.slice (some ⟨bx, 0, none⟩) 1 kx) 1 sz (enc x0) := Zdo.cells' (M.at_ _ (Zae hj)) (by rw [Nat.one_mul, ← hz];simpa using Zhf [] (enc x0) []) h1
 refine Zj4 (f := fun e' => r ++ e') hO (M.perm (p1.trans List.perm_append_comm)) ?_ (F.e hx) (F.e hy) hX hbd (fun v' ent' w' hO' M' => ?_) hln
 ·exact .app .here
 ·exact fun a' F' => hk v' ent' hO' a' w' F' (M'.perm (List.perm_append_comm.trans (hp ent').symm))
theorem ZcO {st : St} (hk : G c Q ks st fr ([] :: l)) : G c Q ks st fr l := hk
end
def fldT : List (Nat × Nat × Nat) := [(7, 0, 0), (7, 1, 1), (7, 2, 2), (7, 3, 3), (8, 0, 0), (8, 1, 1), (8, 2, 2), (8, 3, 3), (13, 0, 0), (13, 1, 1), (14, 0, 0), (14, 1, 1), (18, 0, 0), (19, 0, 0), (29, 0, 0), (29, 1, 1), (29, 2, 2), (29, 3, 3), (29, 4, 4), (30, 0, 0), (30, 1, 1), (30, 2, 2), (30, 3, 3), (30, 4, 4), (50, 0, 0), (50, 1, 1), (51, 0, 0), (51, 1, 1), (52, 0, 0), (52, 1, 1), (52, 2, 2), (52, 3, 3), (52, 4, 4), (52, 5, 5), (52, 6, 6), (52, 7, 7), (52, 8, 8), (52, 9, 9), (52, 10, 10), (52, 11, 11), (52, 12, 12), (53, 0, 0), (53, 1, 1), (53, 2, 2), (53, 3, 3), (53, 4, 4), (53, 5, 5), (53, 6, 6), (53, 7, 7), (53, 8, 8), (53, 9, 9), (53, 10, 10), (53, 11, 11), (53, 12, 12), (60, 0, 0), (60, 1, 1), (61, 0, 0), (61, 1, 1), (64, 0, 0), (64, 1, 16), (65, 0, 0), (65, 1, 16), (66, 0, 0), (66, 1, 17), (66, 2, 34), (67, 0, 0), (67, 1, 17), (67, 2, 34), (68, 0, 0), (68, 1, 1), (68, 2, 2), (68, 3, 3), (68, 4, 4), (68, 5, 39), (69, 0, 0), (69, 1, 1), (69, 2, 2), (69, 3, 3), (69, 4, 4), (69, 5, 39), (71, 0, 0), (71, 1, 1), (72, 0, 0), (72, 1, 1), (73, 0, 0), (73, 1, 35), (73, 2, 36), (73, 3, 38), (73, 4, 39), (74, 0, 0), (74, 1, 35), (74, 2, 36), (74, 3, 38), (74, 4, 39), (75, 0, 0), (75, 1, 35), (75, 2, 36), (75, 3, 38), (76, 0, 0), (76, 1, 35), (76, 2, 36), (76, 3, 38), (84, 0, 0), (84, 1, 17), (85, 0, 0), (85, 1, 17), (95, 0, 0), (95, 1, 1), (96, 0, 0), (96, 1, 1), (99, 0, 0), (99, 1, 35), (100, 0, 0), (100, 1, 35), (112, 0, 0), (112, 1, 1), (113, 0, 0), (113, 1, 1), (116, 0, 0), (116, 1, 1), (116, 2, 2), (116, 3, 3), (116, 4, 4), (117, 0, 0), (117, 1, 1), (117, 2, 2), (117, 3, 3), (117, 4, 4), (121, 0, 0), (121, 1, 1), (121, 2, 2), (121, 3, 3), (121, 4, 4), (122, 0, 0), (122, 1, 1), (122, 2, 2), (122, 3, 3), (122, 4, 4), (123, 0, 0), (123, 1, 1), (123, 2, 6), (123, 3, 7), (124, 0, 0), (124, 1, 1), (124, 2, 6), (124, 3, 7), (141, 0, 0), (141, 1, 14), (141, 2, 15), (141, 3, 16), (141, 4, 17), (142, 0, 0), (142, 1, 14), (142, 2, 15), (142, 3, 16), (142, 4, 17), (165, 0, 0), (165, 1, 35), (165, 2, 37), (166, 0, 0), (166, 1, 35), (166, 2, 37), (170, 0, 0), (170, 1, 35), (170, 2, 36), (170, 3, 37), (170, 4, 38), (170, 5, 39), (171, 0, 0), (171, 1, 35), (171, 2, 36), (171, 3, 37), (171, 4, 38), (171, 5, 39), (309, 0, 0), (309, 1, 1), (309, 2, 2), (310, 0, 0), (310, 1, 1), (310, 2, 2), (364, 0, 0), (364, 1, 1), (364, 2, 2), (364, 3, 3), (365, 0, 0), (365, 1, 1), (365, 2, 2), (365, 3, 3), (376, 0, 0), (376, 1, 1), (376, 2, 2), (376, 3, 3), (376, 4, 4), (376, 5, 5), (376, 6, 6), (376, 7, 7), (376, 8, 8), (376, 9, 9), (376, 10, 10), (377, 0, 0), (377, 1, 1), (377, 2, 2), (377, 3, 3), (377, 4, 4), (377, 5, 5), (377, 6, 6), (377, 7, 7), (377, 8, 8), (377, 9, 9), (377, 10, 10)]
def slcT : List Nat := [22, 26, 27, 28, 32, 43, 44, 45, 46, 47, 48, 49, 55, 59, 87, 94, 126, 216, 235]
theorem Zal : (fldT.all fun q => Zc7 Tryz.prog q.1 q.2.1 q.2.2) = true := by kernel_rfl
theorem Zak : (slcT.all fun t => Zol Tryz.prog t) = true := by kernel_rfl
def FD (c : Cx) (Q : Exit → Act → World → Prop) (ks : List KF) (ol : List Oper) (n k : Nat) (rest : List Oper) (fr : List (Nat × Value)) (l : Row) : Prop :=
 ∀ a w Vs, Mem c.S c.W w l.flatten → ZcZ ol.toArray n = true → MW ⟨Zfv, [], [], c.P, c.r, ol.toArray, n, c.n, c.df, a, w, KQ c Q ks, [], []⟩ k rest fr Vs noT
section
variable {c : Cx} {Q : Exit → Act → World → Prop} {ks : List KF} {fr fr' : List (Nat × Value)} {l : Row} {ol rest rest' : List Oper} {n k k' : Nat} {d : Nat} {op : Op} {ty : TypeId} {pos : String} {af : Array Edge} {g : Option (Nat × Bool)}
theorem ZaG {id : Nat} (n nt : Nat) [hm : TMix c.P] (hnt : c.n = nt) (hchk : (ZcZ ol.toArray n && Zev ol.toArray n && Nat.ble n ol.length && Zld ol.toArray n nt && Zdc ol.toArray n []) = true) (h : FD c Q ks ol n 0 ol fr l) : G c Q ks (.code (.region id ol.toArray true)) fr l := fun a w F M =>
 Zfk n F (by rw [hnt];exact hchk) fun w1 hE hok => h a w1 [] (M.later hE) hok
theorem fd_c {v : Value} (h : ∀ a w, Frm a c.n c.df fr → Mem c.S c.W w l.flatten → OpTo c.P ⟨some d, op, ty, pos, af, g⟩ a.eval w fun x w' => Ext [] w w' ∧ x = v)
  (hk : FD c Q ks ol n (k + 1) rest ((d, v) :: fr) l) (hlt : flo [] [] [] n k op = true := by rfl) (hd : Nat.blt d c.n = true := by rfl) (hg : gOk ol.toArray fr g = some true := by rfl) : FD c Q ks ol n k (⟨some d, op, ty, pos, af, g⟩ :: rest) fr l := fun a w Vs M hok => by
 rcases Zg0 hg with rfl | ⟨j, b, t, rfl, ht, hl⟩
 ·exact mK hok hlt hd (fun a' w' F he => h a' w' F (M.later he)) (hk a w _ M hok)
 ·exact mKG hok hlt hd ht hl (fun a' w' F he => h a' w' F (M.later he)) (hk a w _ M hok)
theorem fd_v {v : Value} (h : ∀ a w, Frm a c.n c.df fr → Mem c.S c.W w l.flatten → ∀ R : Value → World → Prop, R v w → OpTo c.P ⟨some d, op, ty, pos, af, g⟩ a.eval w R)
  (hk : FD c Q ks ol n (k + 1) rest ((d, v) :: fr) l) (hlt : flo [] [] [] n k op = true := by rfl) (hd : Nat.blt d c.n = true := by rfl) (hg : gOk ol.toArray fr g = some true := by rfl) : FD c Q ks ol n k (⟨some d, op, ty, pos, af, g⟩ :: rest) fr l :=
 fd_c (fun a w F M => h a w F M _ ⟨Ext.refl _ _, rfl⟩) hk hlt hd hg
theorem ZaH {x : Operand} {f : FuncId} {xs : List Operand} {ts : Array TypeId} {vs : List Value} {v : Value} [hb : ZaD c.P f] (hx : Ev fr x = some (.func (.func f) #[] #[])) (ha : evL fr xs = some vs) (hc : ∀ w, Mem c.S c.W w l.flatten → Cal c.P f vs.toArray w fun u w' => u = v ∧ Ext [] w w')
  (hk : FD c Q ks ol n (k + 1) rest ((d, v) :: fr) l) (hlt : flo [] [] [] n k (.call ⟨.value x, xs.toArray, ts⟩) = true := by rfl) (hd : Nat.blt d c.n = true := by rfl) (hg : gOk ol.toArray fr g = some true := by rfl) : FD c Q ks ol n k (⟨some d, .call ⟨.value x, xs.toArray, ts⟩, ty, pos, af, g⟩ :: rest) fr l :=
 fd_c (fun a w F M => Zbh (F.e hx) (F.evs ha) (Cal.mono (hc w M) fun u w' h => ⟨h.2, h.1⟩)) hk hlt hd hg
theorem ZtY (hk : FD c Q ks ol n (k + 1) rest ((d, undef) :: fr) l) (hlt : flo [] [] [] n k op = true := by rfl) (hd : Nat.blt d c.n = true := by rfl) (hg : gOk ol.toArray fr g = some false := by rfl) : FD c Q ks ol n k (⟨some d, op, ty, pos, af, g⟩ :: rest) fr l := fun a w Vs M hok => by
 obtain ⟨j, b, t, v, rfl, ht, hl, ho⟩ := ZfV hg
 exact mOff hok hlt hd ht hl ho (hk a w _ M hok)
theorem Zap (hn : Nat.beq k n = true) (hef : Zdc ol.toArray n [] = true) (hk : G c Q ks (.ops ol.toArray rest) fr l) : FD c Q ks ol n k rest fr l := fun a w Vs M hok =>
 Zgp hn hef fun a' w' F he _ _ _ _ => hk a' w' F (M.later he)
theorem Zsw (h : ∀ t, look fr' t = look fr t) (hk : FD c Q ks ol n k rest fr' l) : FD c Q ks ol n k rest fr l := fun a w Vs M hok => by
 intro h1 h2 h3 h4 hC
 exact hk a w Vs M hok h1 h2 h3 h4 ⟨fun t v hv => hC.c t v (by rw [← h];exact hv)⟩
theorem Zog {s : Nat} {v : Value} (h : look fr s = some v) (t : Nat) : look ((s, v) :: fr) t = look fr t := by
 cases hb : s.beq t
 ·show (match s.beq t with | true => some v | false => look fr t) = look fr t
  rw [hb]
 ·show (match s.beq t with | true => some v | false => look fr t) = look fr t
  rw [hb, ← Nat.eq_of_beq_eq_true hb, h]
theorem ZaX (s : Nat) {b b' : Bool} (h : look fr s = some (.bool b)) (hb : b = b') (hk : FD c Q ks ol n k rest ((s, .bool b') :: fr) l) : FD c Q ks ol n k rest fr l := by
 subst hb
 exact Zsw (Zog h) hk
theorem ZbQ (s : Nat) {b : Bool} (h : look fr s = some (.bool b)) (ht : b = true → FD c Q ks ol n k rest ((s, .bool true) :: fr) l) (hf : b = false → FD c Q ks ol n k rest ((s, .bool false) :: fr) l) : FD c Q ks ol n k rest fr l := by
 cases b
 ·exact ZaX s h rfl (hf rfl)
 ·exact ZaX s h rfl (ht rfl)
def runF (c : Cx) (all : Array Oper) (n : Nat) : Nat → Nat → List Oper → List (Nat × Value) → Nat × List Oper × List (Nat × Value)
 | m + 1, k, o :: rest, fr => match o.dst with
  | some d => match Nat.blt d c.n && flo [] [] [] n k o.op with
   | true => match gOk all fr o.guard with
    | some true => match evO c fr o.op with
     | some v => runF c all n m (k + 1) rest ((d, v) :: fr)
     | none => (k, o :: rest, fr)
    | some false => runF c all n m (k + 1) rest ((d, undef) :: fr)
    | none => (k, o :: rest, fr)
   | false => (k, o :: rest, fr)
  | none => (k, o :: rest, fr)
 | _, k, rest, fr => (k, rest, fr)
theorem fR : ∀ (m : Nat) {k k' : Nat} {rest rest' : List Oper} {fr fr' : List (Nat × Value)}, runF c ol.toArray n m k rest fr = (k', rest', fr') → FD c Q ks ol n k' rest' fr' l → FD c Q ks ol n k rest fr l
 | 0, k, k', rest, rest', fr, fr', h, hk => by
  cases rest <;> cases h <;> exact hk
 | m + 1, k, k', [], rest', fr, fr', h, hk => by
  cases h
  exact hk
 | m + 1, k, k', o :: rest, rest', fr, fr', h, hk => by
  obtain ⟨dst, op, ty, pos, af, g⟩ := o
  unfold runF at h
  split at h
  ·rename_i d hd0
   dsimp only at hd0
   subst hd0
   split at h
   ·rename_i hb
    simp only [Bool.and_eq_true] at hb
    split at h
    ·rename_i hg
     split at h
     ·rename_i v hv
      exact fd_v (fun a w F M R r => Zl5 F hv r) (fR m h hk) hb.2 hb.1 hg
     ·cases h
      exact hk
    ·rename_i hg
     exact ZtY (fR m h hk) hb.2 hb.1 hg
    ·cases h
     exact hk
   ·cases h
    exact hk
  ·cases h
   exact hk
end
section
variable {c : Cx} {Q : Exit → Act → World → Prop} {ks : List KF} {fr : List (Nat × Value)} {l : Row} {ol rest : List Oper} {nn kx : Nat} {d : Nat} {ty : TypeId} {pos : String} {af : Array Edge} {g : Option (Nat × Bool)}
section arith
variable {t t' : TypeId} {x y : Operand} {k : IntKind} {m n s : Int}
theorem ZdR (hx : Ev fr x = some (.int k m)) (hy : Ev fr y = some (.int k n)) (hs : k.wrap (m - n) = s) (hk : FD c Q ks ol nn (kx + 1) rest ((d, .int k s) :: fr) l) (hlt : flo [] [] [] nn kx (.binOp .sub t x y t') = true := by rfl) (hd : Nat.blt d c.n = true := by rfl) (hg : gOk ol.toArray fr g = some true := by rfl) :
  FD c Q ks ol nn kx (⟨some d, .binOp .sub t x y t', ty, pos, af, g⟩ :: rest) fr l := fd_v (fun a w F M R r => Zi7 (F.e hx) (F.e hy) hs r) hk hlt hd hg
theorem Zsx {t1 t2 : TypeId} {ds : TypeDesc} {k' : IntKind} (hx : Ev fr x = some (.int k m)) [hs : TU c.P t1 ds] [ht : TU c.P t2 (.int k')] (hm : k'.wrap m = n) (hk : FD c Q ks ol nn (kx + 1) rest ((d, .int k' n) :: fr) l) (hlt : flo [] [] [] nn kx (.convert t1 t2 x) = true := by rfl) (hd : Nat.blt d c.n = true := by rfl) (hg : gOk ol.toArray fr g = some true := by rfl) :
  FD c Q ks ol nn kx (⟨some d, .convert t1 t2 x, ty, pos, af, g⟩ :: rest) fr l := fd_v (fun a w F M R r => Zey (F.e hx) hm r) hk hlt hd hg
end arith
theorem ZaW (i : Nat) {t : TypeId} {x : Operand} {b off : Nat} {cs : List Value} {t' : TypeId} {fz : Nat × Nat} {v : Value} [ht : TOne c.P t] (hx : Ev fr x = some (.pointer (some ⟨b, off, none⟩))) (hl : nthO l i = some [(b, .cells cs.toArray t' fz)]) (hv : nth cs off = some v)
  (hk : FD c Q ks ol nn (kx + 1) rest ((d, v) :: fr) l) (hlt : flo [] [] [] nn kx (.load t x) = true := by rfl) (hd : Nat.blt d c.n = true := by rfl) (hg : gOk ol.toArray fr g = some true := by rfl) : FD c Q ks ol nn kx (⟨some d, .load t x, ty, pos, af, g⟩ :: rest) fr l :=
 fd_v (fun a w F M R r => Zdw (F.e hx) (M.at_ _ (Zae hl)) hv r) hk hlt hd hg
theorem ZaN (i : Nat) {t : TypeId} {x : Operand} {b off n : Nat} {cs : List Value} {t' : TypeId} {fz : Nat × Nat} {vs : List Value} [ht : TAgg c.P t n] (hx : Ev fr x = some (.pointer (some ⟨b, off, none⟩))) (hl : nthO l i = some [(b, .cells cs.toArray t' fz)]) (hv : seg cs off n = some vs)
  (hk : FD c Q ks ol nn (kx + 1) rest ((d, .agg vs.toArray) :: fr) l) (hlt : flo [] [] [] nn kx (.load t x) = true := by rfl) (hd : Nat.blt d c.n = true := by rfl) (hg : gOk ol.toArray fr g = some true := by rfl) : FD c Q ks ol nn kx (⟨some d, .load t x, ty, pos, af, g⟩ :: rest) fr l :=
 fd_v (fun a w F M R r => Zb4 (F.e hx) (M.at_ _ (Zae hl)) hv r) hk hlt hd hg
theorem Zrt {t : TypeId} {x : Operand} {b off : Nat} {cs : List Value} {t' : TypeId} {fz : Nat × Nat} {v : Value} [ht : TOne c.P t] (hx : Ev fr x = some (.pointer (some ⟨b, off, none⟩))) (hb : ∀ w', Ext c.S c.W w' → w'.heap[b]? = some (.cells cs.toArray t' fz)) (hv : nth cs off = some v)
  (hk : FD c Q ks ol nn (kx + 1) rest ((d, v) :: fr) l) (hlt : flo [] [] [] nn kx (.load t x) = true := by rfl) (hd : Nat.blt d c.n = true := by rfl) (hg : gOk ol.toArray fr g = some true := by rfl) : FD c Q ks ol nn kx (⟨some d, .load t x, ty, pos, af, g⟩ :: rest) fr l :=
 fd_v (fun a w F M R r => Zdw (F.e hx) (hb w M.ext) hv r) hk hlt hd hg
theorem Zb1 {t : TypeId} {x : Operand} {b off n : Nat} {cs : List Value} {t' : TypeId} {fz : Nat × Nat} {vs : List Value} [ht : TAgg c.P t n] (hx : Ev fr x = some (.pointer (some ⟨b, off, none⟩))) (hb : ∀ w', Ext c.S c.W w' → w'.heap[b]? = some (.cells cs.toArray t' fz)) (hv : seg cs off n = some vs)
  (hk : FD c Q ks ol nn (kx + 1) rest ((d, .agg vs.toArray) :: fr) l) (hlt : flo [] [] [] nn kx (.load t x) = true := by rfl) (hd : Nat.blt d c.n = true := by rfl) (hg : gOk ol.toArray fr g = some true := by rfl) : FD c Q ks ol nn kx (⟨some d, .load t x, ty, pos, af, g⟩ :: rest) fr l :=
 fd_v (fun a w F M R r => Zb4 (F.e hx) (hb w M.ext) hv r) hk hlt hd hg
theorem Zbb {t e : TypeId} {x i : Operand} {k : IntKind} {b o len cap sz : Nat} {j : Int} (hx : Ev fr x = some (.slice (some ⟨b, o, none⟩) len cap)) (hi : Ev fr i = some (.int k j)) [ht : TU c.P t (.slice e)] [hs : TSz c.P e sz] (h0 : 0 ≤ j) (h1 : j < len)
  (hk : FD c Q ks ol nn (kx + 1) rest ((d, .pointer (some ⟨b, o + j.toNat * sz, none⟩)) :: fr) l) (hlt : flo [] [] [] nn kx (.indexAddr t x i) = true := by rfl) (hd : Nat.blt d c.n = true := by rfl) (hg : gOk ol.toArray fr g = some true := by rfl) : FD c Q ks ol nn kx (⟨some d, .indexAddr t x i, ty, pos, af, g⟩ :: rest) fr l :=
 fd_v (fun a w F M R r => Zcg (F.e hx) (F.e hi) h0 h1 r) hk hlt hd hg
theorem Zfi {t t' : TypeId} {x y : Operand} {kk : List LK} {xs ys : List Value} {b : Bool} [ht : TEq c.P t kk] (hx : Ev fr x = some (.agg xs.toArray)) (hy : Ev fr y = some (.agg ys.toArray)) (fx : Za7 kk xs = true) (fy : Za7 kk ys = true) (he : eqVs xs ys = b)
  (hk : FD c Q ks ol nn (kx + 1) rest ((d, .bool b) :: fr) l) (hlt : flo [] [] [] nn kx (.binOp .eql t x y t') = true := by rfl) (hd : Nat.blt d c.n = true := by rfl) (hg : gOk ol.toArray fr g = some true := by rfl) : FD c Q ks ol nn kx (⟨some d, .binOp .eql t x y t', ty, pos, af, g⟩ :: rest) fr l :=
 fd_v (fun a w F M R r => ZnX (F.e hx) (F.e hy) fx fy he r) hk hlt hd hg
end
section
variable {c : Cx} {Q : Exit → Act → World → Prop} {ks : List KF} {st : St} {fr : List (Nat × Value)} {l : Row}
structure LJ (ι : Type) where
 p : ι → Prop
 fi : ι → List (Nat × Value)
 li : ι → Row
def JQ {ι : Type} (J : LJ ι) (c : Cx) (Q : Exit → Act → World → Prop) (ks : List KF) : Exit → Act → World → Prop
 | .normal, a, w => ∃ j, J.p j ∧ Frm a c.n c.df (J.fi j) ∧ Mem c.S c.W w (J.li j).flatten
 | e, a, w => KQ c Q ks e a w
theorem JQ.of {ι : Type} {J : LJ ι} {e : Exit} {a : Act} {w : World} (h : JQ J c Q ks e a w) (hk : ∀ j, J.p j → G c Q ks (.ext .normal) (J.fi j) (J.li j)) : KQ c Q ks e a w := by
 cases e with
 | normal =>
  obtain ⟨j, h2, h3, h4⟩ := h
  exact hk j h2 a w h3 h4
 | exit _ => exact h
 | goto _ => exact h
 | ret => exact h
 | panic _ => exact h
 | outgrown => exact h
theorem ZcD {ι : Type} (J : LJ ι) {x : Code} (h1 : G c (JQ J c Q ks) [] (.code x) fr l) (h2 : ∀ j, J.p j → G c Q ks (.ext .normal) (J.fi j) (J.li j)) : G c Q ks (.code x) fr l := fun a w F M =>
 wpIn_mono (h1 a w F M) fun e a w h => JQ.of h h2
theorem Za6 {ι : Type} {J : LJ ι} (j : ι) (h2 : J.p j) (hfr : ∀ a, Frm a c.n c.df fr → Frm a c.n c.df (J.fi j)) (hl : (J.li j).Sublist l) : G c (JQ J c Q ks) [] (.ext .normal) fr l := fun a w F M => ⟨j, h2, hfr a F, M.sub (subO hl)⟩
theorem g_jX {ι : Type} {J : LJ ι} {id : Nat} (h : G c Q ks (.ext (.exit id)) fr l) : G c (JQ J c Q ks) [] (.ext (.exit id)) fr l := h
theorem g_jR {ι : Type} {J : LJ ι} (h : G c Q ks (.ext .ret) fr l) : G c (JQ J c Q ks) [] (.ext .ret) fr l := h
end
def NwS (n0 len : Nat) (o : Obj) : Pred := fun v w => ∃ b, v = .slice (some ⟨b, 0, none⟩) len len ∧ n0 ≤ b ∧ w.heap[b]? = some o
theorem NwS.stays (n0 len : Nat) (o : Obj) : Zeu Zfv (NwS n0 len o) := fun v w w' ⟨b, h1, h2, h3⟩ h => ⟨b, h1, h2, by
 rw [Ext.block h b (Array.getElem?_eq_some_iff.1 h3).1 (by simp)];exact h3⟩
section
variable {c : Cx} {Q : Exit → Act → World → Prop} {ks : List KF} {fr : List (Nat × Value)} {l : Row} {ol rest : List Oper} {n k : Nat} {d : Nat} {ty : TypeId} {pos : String} {af : Array Edge}
theorem ZmT {t e : TypeId} {len sz : Nat} {xs : List (Nat × Operand)} {parts : List (Nat × List Value)} {zs cs : List Value} [ht : TU c.P t (.slice e)] [hs : TSz c.P e sz] [hz : Zcu c.P e zs] (hv : evP fr xs = some parts)
  (hle : Nat.ble (len * sz) 16777216 = true) (hzl : Nat.beq zs.length sz = true) (hp : Za2 (ZbX len sz) (ZbJ zs (len * sz)) parts = some cs)
  (hk : ∀ b, G c Q ks (.ops ol.toArray rest) ((d, .slice (some ⟨b, 0, none⟩) len len) :: fr) ([(b, .cells cs.toArray e (0, 0))] :: l)) (hn : Nat.beq (k + 1) n = true := by rfl) (hef : Zdc ol.toArray n [] = true := by rfl) (hlt : flo [] [] [] n k (.buildSlice t len xs.toArray) = true := by rfl) (hd : Nat.blt d c.n = true := by rfl) (hnd : notIn d fr = true := by rfl) (hat : (ol[k]?.bind (·.dst)) = some d := by rfl) :
  FD c Q ks ol n k (⟨some d, .buildSlice t len xs.toArray, ty, pos, af, none⟩ :: rest) fr l := fun a w Vs M hok => by
 intro hlen
 refine mX (V := NwS w.heap.size len (.cells cs.toArray e (0, 0))) hok hlt hnd (NwS.stays _ _ _) (fun a' w' F' E' D' => Zch F' (Mem.start [] w') hv hle hzl hp fun b w'' M'' => ⟨M''.ext, b, rfl, Nat.le_trans E'.size ((M''.own _ List.mem_cons_self).resolve_left (by simp)), M''.heap .here⟩) (Zgp hn hef fun a' w' F he hX _ _ _ => ?_) hlen
 obtain ⟨b, h1, h2, h3⟩ := hX k (NwS w.heap.size len (.cells cs.toArray e (0, 0))) (by rw [← hlen];simp)
 have h4 : a'.tmps.getD d undef = .slice (some ⟨b, 0, none⟩) len len := by
  unfold Za9 at h1
  dsimp only at h1
  rw [List.getElem?_toArray, hat] at h1
  exact h1
 exact hk b a' w' (F.know h4) ((M.later he).cons h3 (fun q hq e => by have := M.lt hq;omega) (.inr (Nat.le_trans M.ext.size h2)))
theorem Zsy {t : TypeId} {cs : List Value} [hz : Zcu c.P t cs] (hk : ∀ b, G c Q ks (.ops ol.toArray rest) ((d, .pointer (some ⟨b, 0, none⟩)) :: fr) ([(b, .cells cs.toArray t (0, 0))] :: l)) (hn : Nat.beq (k + 1) n = true := by rfl) (hef : Zdc ol.toArray n [] = true := by rfl) (hlt : (Nat.blt k n && !([] : List Nat).contains k && (ZdQ [] k && ZdF [] k)) = true := by rfl) (hd : Nat.blt d c.n = true := by rfl) (hnd : notIn d fr = true := by rfl) (hat : (ol[k]?.bind (·.dst)) = some d := by rfl) :
  FD c Q ks ol n k (⟨some d, .alloc t, ty, pos, af, none⟩ :: rest) fr l := fun a w Vs M hok => by
 intro hlen
 refine mAl (o0 := .cells cs.toArray t (0, 0)) hok hlt hnd (Al.stays _ _) (fun w => Ext.alloc w _) (fun a' w' F' E' => Zra) (Zgp hn hef fun a' w' F he hX _ _ _ => ?_) hlen
 obtain ⟨b, h1, h2, h3⟩ := hX k (Al w.heap.size (.cells cs.toArray t (0, 0))) (by rw [← hlen];simp)
 have h4 : a'.tmps.getD d undef = .pointer (some ⟨b, 0, none⟩) := by
  unfold Za9 at h1
  dsimp only at h1
  rw [List.getElem?_toArray, hat] at h1
  exact h1
 exact hk b a' w' (F.know h4) ((M.later he).cons h3 (fun q hq e => by have := M.lt hq;omega) (.inr (Nat.le_trans M.ext.size h2)))
end
section
variable {c : Cx} {Q : Exit → Act → World → Prop} {ks : List KF} {fr : List (Nat × Value)} {l : Row} {all rest ol : List Oper} {aa : Array Oper} {nn kx : Nat} {d : Nat} {ty : TypeId} {pos : String} {af : Array Edge} {g : Option (Nat × Bool)}
theorem Zuw {t t' : TypeId} {x y : Operand} {kk : List LK} {xs ys : List Value} {b : Bool} [ht : TEq c.P t kk] (hx : Ev fr x = some (.agg xs.toArray)) (hy : Ev fr y = some (.agg ys.toArray)) (fx : Za7 kk xs = true) (fy : Za7 kk ys = true) (he : eqVs xs ys = b)
  (hk : G c Q ks (.ops aa rest) ((d, .bool !b) :: fr) l) (hd : Nat.blt d c.n = true := by rfl) (hg : gOk aa fr g = some true := by rfl) : G c Q ks (.ops aa (⟨some d, .binOp .neq t x y t', ty, pos, af, g⟩ :: rest)) fr l :=
 g_v (fun a w F M R r => Zr7 (F.e hx) (F.e hy) fx fy he r) hk rfl hd hg
end
section
variable {c : Cx} {Q : Exit → Act → World → Prop} {ks : List KF} {fr : List (Nat × Value)} {l : Row}
end
section
variable {c : Cx} {Q : Exit → Act → World → Prop} {ks : List KF} {fr : List (Nat × Value)} {l : Row} {aa : Array Oper} {rest : List Oper} {d : Nat} {ty : TypeId} {pos : String} {af : Array Edge} {g : Option (Nat × Bool)}
theorem Zct {ι : Type} (val : ι → Value) (p : ι → Prop) (li : ι → Row) {x : Operand} {f : FuncId} {xs : List Operand} {ts : Array TypeId} {vs : List Value} [hb : ZaD c.P f] (hx : Ev fr x = some (.func (.func f) #[] #[])) (ha : evL fr xs = some vs)
  (hc : ∀ w, Mem c.S c.W w l.flatten → Cal c.P f vs.toArray w fun v w' => ∃ i, v = val i ∧ p i ∧ Mem [] w w' (li i).flatten)
  (hk : ∀ i, p i → G c Q ks (.ops aa rest) ((d, val i) :: fr) (li i ++ l)) (hd : Nat.blt d c.n = true := by rfl) (hg : gOk aa fr g = some true := by rfl) : G c Q ks (.ops aa (⟨some d, .call ⟨.value x, xs.toArray, ts⟩, ty, pos, af, g⟩ :: rest)) fr l :=
 g_op rfl hd hg fun a w F M => Zbh (F.e hx) (F.evs ha) (Cal.mono (hc w M) fun u w' h a' F' => by
  obtain ⟨i, rfl, h2, N⟩ := h
  exact hk i h2 a' w' F' (by rw [List.flatten_append];exact M.joins N))
end
theorem Mem.joinB {S : List Nat} {W0 w w' : World} {l0 r new : List (Nat × Obj)} (M : Mem S W0 w (l0 ++ r)) (N : Mem (l0.map (·.1)) w w' new) : Mem S W0 w' (new ++ r) := by
 have hnd := M.nd
 simp only [List.map_append, List.nodup_append] at hnd
 have hE : Ext S W0 w' := (M.ext.mono (S' := S ++ l0.map (·.1)) fun k hk => List.mem_append_left _ hk).trans (N.ext.mono fun k hk => List.mem_append_right _ hk) |>.fresh fun k hk => by
  rcases List.mem_append.1 hk with h | h
  ·exact .inl h
  ·obtain ⟨q, hq, rfl⟩ := List.mem_map.1 h
   exact M.own q (List.mem_append_left _ hq)
 have hr : ∀ p ∈ r, p.1 ∉ l0.map (·.1) := fun p hp hc => hnd.2.2 _ hc _ (List.mem_map.2 ⟨p, hp, rfl⟩) rfl
 refine ⟨hE, fun p hp => ?_, ?_, fun p hp => ?_⟩
 ·rcases List.mem_append.1 hp with h | h
  ·exact N.at_ p h
  ·exact (N.ext.block p.1 (M.lt (List.mem_append_right _ h)) (hr p h)).trans (M.at_ p (List.mem_append_right _ h))
 ·simp only [List.map_append, List.nodup_append]
  refine ⟨N.nd, hnd.2.1, fun a ha b hb e => ?_⟩
  obtain ⟨p, hp, rfl⟩ := List.mem_map.1 ha
  obtain ⟨q, hq, rfl⟩ := List.mem_map.1 hb
  rcases N.own p hp with h | h
  ·exact hr q hq (e ▸ h)
  ·have := M.lt (List.mem_append_right _ hq)
   omega
 ·rcases List.mem_append.1 hp with h | h
  ·rcases N.own p h with h1 | h1
   ·obtain ⟨q, hq, e⟩ := List.mem_map.1 h1
    rw [← e]
    exact M.own q (List.mem_append_left _ hq)
   ·exact .inr (Nat.le_trans M.ext.size h1)
  ·exact M.own p (List.mem_append_right _ h)
theorem NwS.staysBut {n0 len : Nat} {o : Obj} {B : List Nat} (hB : ∀ b ∈ B, b < n0) : Zeu (ZdZ B) (NwS n0 len o) := fun v w w' ⟨b, h1, h2, h3⟩ h => ⟨b, h1, h2, by
 rw [Ext.block h b (Array.getElem?_eq_some_iff.1 h3).1 (fun hb => Nat.lt_irrefl _ (Nat.lt_of_lt_of_le (hB b hb) h2))];exact h3⟩
def IsT2 (v : Value) : Prop := ∃ x y, v = .tuple #[x, y]
inductive XP
 | nw (len : Nat) (o : Obj)
 | t2
 | any
 | pt (off : Nat) (o : Obj)
 | sl (sz n : Nat) (cs : List Value)
def XP.pred (n0 : Nat) : XP → Pred
 | .nw len o => NwS n0 len o
 | .t2 => fun v _ => IsT2 v
 | .any => fun _ _ => True
 | .pt off o => fun v w => ∃ b, v = .pointer (some ⟨b, off, none⟩) ∧ n0 ≤ b ∧ w.heap[b]? = some o
 | .sl sz n cs => fun v w => SlAt w sz v n cs ∧ NewV n0 v
theorem XP.stays {n0 : Nat} {B : List Nat} (hB : ∀ b ∈ B, b < n0) : ∀ x : XP, Zeu (ZdZ B) (x.pred n0)
 | .nw _ _ => NwS.staysBut hB
 | .t2 => fun _ _ _ h _ => h
 | .any => fun _ _ _ h _ => h
 | .pt _ _ => fun v w w' ⟨b, h1, h2, h3⟩ h => ⟨b, h1, h2, by
  rw [Ext.block h b (Array.getElem?_eq_some_iff.1 h3).1 (fun hb => Nat.lt_irrefl _ (Nat.lt_of_lt_of_le (hB b hb) h2))];exact h3⟩
 | .sl _ _ _ => fun v w w' ⟨h1, h2⟩ h => ⟨h1.laterB (fun b o s k c e hb => Nat.lt_irrefl _ (Nat.lt_of_lt_of_le (hB b hb) (h2 b o s k c e))) h, h2⟩
structure RX where
 ol : List Oper
 n : Nat
 B : List Nat
 Ef : List Nat
 Rl : List (Nat × Nat)
 lk : Row
abbrev ESt := List (Nat × Value) → Row → Prop
def ET (c : Cx) (E : ESt) : ZeA := fun σ w => ∃ sl l, E sl l ∧ (∀ q ∈ sl, σ q.1 = q.2) ∧ Mem c.S c.W w l.flatten
def FE (c : Cx) (Q : Exit → Act → World → Prop) (ks : List KF) (x : RX) (k : Nat) (rest : List Oper) (fr : List (Nat × Value)) (xs : List (Nat × XP)) (E : ESt) : Prop :=
 (∀ sl l, E sl l → ∀ q ∈ sl, q.1 < k) → ∀ a w Vs, (∀ w', Ext x.B w w' → Mem c.S c.W w' x.lk.flatten) → (∀ b ∈ x.B, b < w.heap.size) → ZcZ x.ol.toArray x.n = true → (∀ q ∈ xs, Vs[q.1]? = some (q.2.pred w.heap.size)) →
  MW ⟨ZdZ x.B, x.Ef, [], c.P, c.r, x.ol.toArray, x.n, c.n, c.df, a, w, KQ c Q ks, [], x.Rl⟩ k rest fr Vs (ET c E)
theorem Zfy {xs : List (Nat × XP)} {n0 : Nat} {Vs : List Pred} {V : Pred} (h : ∀ q ∈ xs, Vs[q.1]? = some (q.2.pred n0)) : ∀ q ∈ xs, (Vs ++ [V])[q.1]? = some (q.2.pred n0) := fun q hq => by
 have := h q hq
 rw [List.getElem?_append_left (List.getElem?_eq_some_iff.1 this).1, this]
def E0 (l : Row) : ESt := fun sl l' => sl = [] ∧ l' = l
section
variable {c : Cx} {Q : Exit → Act → World → Prop} {ks : List KF} {fr fr' : List (Nat × Value)} {l : Row} {x : RX} {rest rest' : List Oper} {k k' : Nat} {xs : List (Nat × XP)} {E : ESt} {d : Nat} {op : Op} {ty : TypeId} {pos : String} {af : Array Edge} {g : Option (Nat × Bool)}
theorem Zfw {id : Nat} {ol : List Oper} (n nt : Nat) (B Ef : List Nat) (Rl : List (Nat × Nat)) (l0 lk : Row) [hm : TMix c.P] (hnt : c.n = nt) (hchk : (ZcZ ol.toArray n && Zev ol.toArray n && Nat.ble n ol.length && Zld ol.toArray n nt && Zdc ol.toArray n Ef && xOk ol.toArray n Ef [] && ZkK ol.toArray n Rl) = true)
  (hp : l.flatten.Perm (l0.flatten ++ lk.flatten)) (hB : ∀ b ∈ B, b ∈ l0.flatten.map (·.1)) (h : FE c Q ks ⟨ol, n, B, Ef, Rl, lk⟩ 0 ol fr [] (E0 l)) : G c Q ks (.code (.region id ol.toArray true)) fr l := fun a w F M =>
 Zpa (ZdZ B) Ef [] Rl (ET c (E0 l)) n F (by rw [hnt];exact hchk) (fun σ w w' ⟨sl, l', h1, h2, h3⟩ hE => ⟨sl, l', h1, h2, h3.later hE⟩) (by simp) (fun σ d hd => ⟨[], l, ⟨rfl, rfl⟩, by simp, M.later (Ext.drawn w d hd)⟩) fun w1 hE hs hok => by
  have M1 := (M.later hE).perm hp
  refine h (by rintro _ _ ⟨rfl, _⟩ q hq;cases hq) a w1 [] (fun w' hE' => M1.laterBut hE' hB) (fun b hb => ?_) hok (by simp)
  obtain ⟨q, hq, e⟩ := List.mem_map.1 (hB b hb)
  rw [← e]
  exact M1.lt (List.mem_append_left _ hq)
theorem fe_c {v : Value} (h : ∀ a w, Frm a c.n c.df fr → Mem c.S c.W w x.lk.flatten → OpTo c.P ⟨some d, op, ty, pos, af, g⟩ a.eval w fun u w' => Ext [] w w' ∧ u = v)
  (hk : FE c Q ks x (k + 1) rest ((d, v) :: fr) xs E) (hlt : flo x.Ef x.Rl [] x.n k op = true := by rfl) (hd : Nat.blt d c.n = true := by rfl) (hg : gOk x.ol.toArray fr g = some true := by rfl) : FE c Q ks x k (⟨some d, op, ty, pos, af, g⟩ :: rest) fr xs E := fun hE a w Vs hM hB hok hx => by
 have hE' : ∀ sl l, E sl l → ∀ q ∈ sl, q.1 < k + 1 := fun sl l h q hq => Nat.lt_succ_of_lt (hE sl l h q hq)
 rcases Zg0 hg with rfl | ⟨j, b, t, rfl, ht, hl⟩
 ·exact mK hok hlt hd (fun a' w' F he => h a' w' F (hM w' he)) (hk hE' a w _ hM hB hok (Zfy hx))
 ·exact mKG hok hlt hd ht hl (fun a' w' F he => h a' w' F (hM w' he)) (hk hE' a w _ hM hB hok (Zfy hx))
theorem fe_v {v : Value} (h : ∀ a w, Frm a c.n c.df fr → Mem c.S c.W w x.lk.flatten → ∀ R : Value → World → Prop, R v w → OpTo c.P ⟨some d, op, ty, pos, af, g⟩ a.eval w R)
  (hk : FE c Q ks x (k + 1) rest ((d, v) :: fr) xs E) (hlt : flo x.Ef x.Rl [] x.n k op = true := by rfl) (hd : Nat.blt d c.n = true := by rfl) (hg : gOk x.ol.toArray fr g = some true := by rfl) : FE c Q ks x k (⟨some d, op, ty, pos, af, g⟩ :: rest) fr xs E :=
 fe_c (fun a w F M => h a w F M _ ⟨Ext.refl _ _, rfl⟩) hk hlt hd hg
theorem ZtU (hk : FE c Q ks x (k + 1) rest ((d, undef) :: fr) xs E) (hlt : flo x.Ef x.Rl [] x.n k op = true := by rfl) (hd : Nat.blt d c.n = true := by rfl) (hg : gOk x.ol.toArray fr g = some false := by rfl) : FE c Q ks x k (⟨some d, op, ty, pos, af, g⟩ :: rest) fr xs E := fun hE a w Vs hM hB hok hx => by
 obtain ⟨j, b, t, v, rfl, ht, hl, ho⟩ := ZfV hg
 exact mOff hok hlt hd ht hl ho (hk (fun sl l h q hq => Nat.lt_succ_of_lt (hE sl l h q hq)) a w _ hM hB hok (Zfy hx))
def runE (c : Cx) (x : RX) : Nat → Nat → List Oper → List (Nat × Value) → Nat × List Oper × List (Nat × Value)
 | m + 1, k, o :: rest, fr => match o.dst with
  | some d => match Nat.blt d c.n && flo x.Ef x.Rl [] x.n k o.op with
   | true => match gOk x.ol.toArray fr o.guard with
    | some true => match evO c fr o.op with
     | some v => runE c x m (k + 1) rest ((d, v) :: fr)
     | none => (k, o :: rest, fr)
    | some false => runE c x m (k + 1) rest ((d, undef) :: fr)
    | none => (k, o :: rest, fr)
   | false => (k, o :: rest, fr)
  | none => (k, o :: rest, fr)
 | _, k, rest, fr => (k, rest, fr)
theorem ZcE : ∀ (m : Nat) {k k' : Nat} {rest rest' : List Oper} {fr fr' : List (Nat × Value)}, runE c x m k rest fr = (k', rest', fr') → FE c Q ks x k' rest' fr' xs E → FE c Q ks x k rest fr xs E
 | 0, k, k', rest, rest', fr, fr', h, hk => by
  cases rest <;> cases h <;> exact hk
 | m + 1, k, k', [], rest', fr, fr', h, hk => by
  cases h
  exact hk
 | m + 1, k, k', o :: rest, rest', fr, fr', h, hk => by
  obtain ⟨dst, op, ty, pos, af, g⟩ := o
  unfold runE at h
  split at h
  ·rename_i d hd0
   dsimp only at hd0
   subst hd0
   split at h
   ·rename_i hb
    simp only [Bool.and_eq_true] at hb
    split at h
    ·rename_i hg
     split at h
     ·rename_i v hv
      exact fe_v (fun a w F M R r => Zl5 F hv r) (ZcE m h hk) hb.2 hb.1 hg
     ·cases h
      exact hk
    ·rename_i hg
     exact ZtU (ZcE m h hk) hb.2 hb.1 hg
    ·cases h
     exact hk
   ·cases h
    exact hk
  ·cases h
   exact hk
theorem Zuy {t e : TypeId} {len sz : Nat} {ys : List (Nat × Operand)} {parts : List (Nat × List Value)} {zs cs : List Value} [ht : TU c.P t (.slice e)] [hs : TSz c.P e sz] [hz : Zcu c.P e zs] (hv : evP fr ys = some parts)
  (hle : Nat.ble (len * sz) 16777216 = true) (hzl : Nat.beq zs.length sz = true) (hp : Za2 (ZbX len sz) (ZbJ zs (len * sz)) parts = some cs)
  (hk : FE c Q ks x (k + 1) rest fr ((k, .nw len (.cells cs.toArray e (0, 0))) :: xs) E) (hlt : flo x.Ef x.Rl [] x.n k (.buildSlice t len ys.toArray) = true := by rfl) (hnd : notIn d fr = true := by rfl) :
  FE c Q ks x k (⟨some d, .buildSlice t len ys.toArray, ty, pos, af, none⟩ :: rest) fr xs E := fun hE a w Vs hM hB hok hx => by
 intro hlen
 refine mX (V := NwS w.heap.size len (.cells cs.toArray e (0, 0))) hok hlt hnd (NwS.staysBut hB) (fun a' w' F' E' D' => Zch F' (Mem.start [] w') hv hle hzl hp fun b w'' M'' => ⟨M''.ext, b, rfl, Nat.le_trans E'.size ((M''.own _ List.mem_cons_self).resolve_left (by simp)), M''.heap .here⟩) (hk (fun sl l h q hq => Nat.lt_succ_of_lt (hE sl l h q hq)) a w _ hM hB hok fun q hq => ?_) hlen
 rcases List.mem_cons.1 hq with rfl | hq
 ·show (Vs ++ [NwS w.heap.size len (.cells cs.toArray e (0, 0))])[k]? = some (NwS w.heap.size len (.cells cs.toArray e (0, 0)))
  rw [← hlen]
  simp
 ·exact Zfy hx q hq
def OpF (c : Cx) (x : RX) (xs : List (Nat × XP)) (o : Oper) (fr : List (Nat × Value)) (l : Row) (Ψ : Value → Row → Prop) : Prop :=
 ∀ a w, Frm a c.n c.df fr → Mem c.S c.W w l.flatten → (∀ q ∈ xs, q.1 ∈ Za3 o → ∃ n0, q.2.pred n0 (Za9 x.ol.toArray q.1 a) w) → OpTo c.P o a.eval w fun v w' => Ext x.B w w' ∧ ∃ r, Ψ v r ∧ Mem c.S c.W w' r.flatten
def dsFr : List (Nat × Nat) → List (Nat × Value) → List (Nat × Value)
 | [], _ => []
 | p :: r, sl => match look sl p.1 with
  | some v => (p.2, v) :: dsFr r sl
  | none => dsFr r sl
def dsOk (ops : Array Oper) (o : Oper) (Ef : List Nat) (ds : List (Nat × Nat)) : Bool := ds.all fun p => (Za3 o).contains p.1 && Ef.contains p.1 && (match (ops[p.1]?).bind (·.dst) with | some t => Nat.beq t p.2 | none => false)
theorem Zjd : ∀ {sl : List (Nat × Value)} {j : Nat} {v : Value}, look sl j = some v → (j, v) ∈ sl
 | [], _, _, h => by simp [look] at h
 | (t, u) :: r, j, v, h => by
  unfold look at h
  split at h
  ·rename_i hb
   cases h
   simp [Nat.eq_of_beq_eq_true hb]
  ·exact List.mem_cons_of_mem _ (Zjd h)
theorem Zf3 {o : Oper} {a : Act} {sl : List (Nat × Value)} (F : Frm a c.n c.df fr) (hs : ∀ q ∈ sl, q.1 ∈ x.Ef → q.1 ∈ Za3 o → Za9 x.ol.toArray q.1 a = q.2) : ∀ {ds : List (Nat × Nat)}, dsOk x.ol.toArray o x.Ef ds = true → Frm a c.n c.df (dsFr ds sl ++ fr)
 | [], _ => F
 | (j, t) :: r, h => by
  simp only [dsOk, List.all_cons, Bool.and_eq_true] at h
  have ih := Zf3 F hs (ds := r) h.2
  unfold dsFr
  split
  ·rename_i v hv
   refine ih.know ?_
   have h1 := hs _ (Zjd hv) (by simpa using h.1.1.2) (by simpa using h.1.1.1)
   have h2 := h.1.2
   dsimp only at h1 h2
   unfold Za9 at h1
   revert h1 h2
   cases ((x.ol.toArray[j]?).bind (·.dst)) with
   | none => intro _ h2;cases h2
   | some t' => intro h1 h2;rw [← Nat.eq_of_beq_eq_true h2];exact h1
  ·exact ih
theorem ZtX (Ψ : List (Nat × Value) → Row → Value → Row → Prop) (ds : List (Nat × Nat)) (p : XP) (h : ∀ sl l, E sl l → OpF c x xs ⟨some d, op, ty, pos, af, none⟩ (dsFr ds sl ++ fr) l (Ψ sl l)) (hp : ∀ sl l v r, E sl l → Ψ sl l v r → ∀ n0 w, p.pred n0 v w)
  (hk : FE c Q ks x (k + 1) rest fr ((k, p) :: xs) (fun s r => ∃ sl l v, E sl l ∧ Ψ sl l v r ∧ s = (k, v) :: sl))
  (hlt : effX x.Ef x.Rl [] x.n k op = true := by rfl) (hnd : notIn d fr = true := by rfl) (hds : dsOk x.ol.toArray ⟨some d, op, ty, pos, af, none⟩ x.Ef ds = true := by rfl) :
  FE c Q ks x k (⟨some d, op, ty, pos, af, none⟩ :: rest) fr xs E := fun hE a w Vs hM hB hok hx => by
 obtain ⟨h1, h2, h3, h4, hrf⟩ := ZeY hlt
 rintro rfl hT0 hPK
 have hsT : Zdf (ZdZ x.B) (ET c fun s r => ∃ sl l v, E sl l ∧ Ψ sl l v r ∧ s = (Vs.length, v) :: sl) := fun σ w w' ⟨sl, l', q1, q2, q3⟩ hE => ⟨sl, l', q1, q2, q3.later hE⟩
 refine Zd5 hok h1 (XP.stays hB p) hsT hT0.2 (fun hh => absurd h2 hh) hPK (fun hC ho' => Zer (fun d' hd' => by cases hd';exact hnd) hC ho') (fun a' w' σ F he hdp hT hPp hσ hrel => ?_) (hk ?_ a w (Vs ++ [p.pred w.heap.size]) hM hB hok (fun q hq => ?_) (by simp) ⟨hsT, XT.nil rfl⟩ hPK)
 ·simp only [Region.wanted, if_true]
  obtain ⟨sl, l, e1, e2, M⟩ := hT h2
  refine (h sl l e1 a' w' (Zf3 F (fun q hq hf hd => ?_) hds) M (fun q hq hd => ⟨_, hdp q.1 hd _ (hx q hq)⟩)).mono fun v w'' ⟨q1, r, q2, q3⟩ => ⟨q1, hp _ _ _ _ e1 q2 _ _, fun hh => absurd (h3.symm.trans hh) Bool.false_ne_true, fun hh => absurd h2 hh, fun _ => ⟨(Vs.length, v) :: sl, r, ⟨sl, l, v, e1, q2, rfl⟩, ?_, q3⟩, .none h4, fun q hq e => (Zbp hrf q hq e).elim⟩
  ·rw [← hσ q.1 (.inl hf) hd]
   exact e2 q hq
  ·intro q hq
   rcases List.mem_cons.1 hq with rfl | hq
   ·simp [updS]
   ·have := hE sl l e1 q hq
    simp only [updS]
    rw [if_neg (by omega)]
    exact e2 q hq
 ·rintro s r ⟨sl, l, v, e1, _, rfl⟩ q hq
  rcases List.mem_cons.1 hq with rfl | hq
  ·exact Nat.lt_succ_self _
  ·exact Nat.lt_succ_of_lt (hE sl l e1 q hq)
 ·rcases List.mem_cons.1 hq with rfl | hq
  ·simp
  ·exact Zfy hx q hq
theorem Zsu (Ψ : List (Nat × Value) → Row → Row → Prop) (ds : List (Nat × Nat)) (h : ∀ sl l, E sl l → OpF c x xs ⟨none, op, ty, pos, af, none⟩ (dsFr ds sl ++ fr) l (fun _ => Ψ sl l))
  (hk : FE c Q ks x (k + 1) rest fr xs (fun s r => ∃ l, E s l ∧ Ψ s l r))
  (hlt : effX x.Ef x.Rl [] x.n k op = true := by rfl) (hds : dsOk x.ol.toArray ⟨none, op, ty, pos, af, none⟩ x.Ef ds = true := by rfl) :
  FE c Q ks x k (⟨none, op, ty, pos, af, none⟩ :: rest) fr xs E := fun hE a w Vs hM hB hok hx => by
 obtain ⟨h1, h2, h3, h4, hrf⟩ := ZeY hlt
 rintro rfl hT0 hPK
 have hsT : Zdf (ZdZ x.B) (ET c fun s r => ∃ l, E s l ∧ Ψ s l r) := fun σ w w' ⟨sl, l', q1, q2, q3⟩ hE => ⟨sl, l', q1, q2, q3.later hE⟩
 refine Zd5 hok h1 (Kn.stays _ undef) hsT hT0.2 (fun hh => absurd h2 hh) hPK (fun hC ho' => Zer (fun d' hd' => by cases hd') hC ho') (fun a' w' σ F he hdp hT hPp hσ hrel => ?_) (hk ?_ a w (Vs ++ [Kn undef]) hM hB hok (Zfy hx) (by simp) ⟨hsT, XT.nil rfl⟩ hPK)
 ·simp only [Region.wanted, if_true]
  obtain ⟨sl, l, e1, e2, M⟩ := hT h2
  refine (h sl l e1 a' w' (Zf3 F (fun q hq hf hd => ?_) hds) M (fun q hq hd => ⟨_, hdp q.1 hd _ (hx q hq)⟩)).mono fun v w'' ⟨q1, r, q2, q3⟩ => ⟨q1, rfl, fun hh => absurd (h3.symm.trans hh) Bool.false_ne_true, fun hh => absurd h2 hh, fun _ => ⟨sl, r, ⟨l, e1, q2⟩, ?_, q3⟩, .none h4, fun q hq e => (Zbp hrf q hq e).elim⟩
  ·rw [← hσ q.1 (.inl hf) hd]
   exact e2 q hq
  ·intro q hq
   have := hE sl l e1 q hq
   show updS σ Vs.length undef q.1 = q.2
   simp only [updS]
   rw [if_neg (by omega)]
   exact e2 q hq
 ·rintro s r ⟨l, e1, _⟩ q hq
  exact Nat.lt_succ_of_lt (hE s l e1 q hq)
def Zim (ops : Array Oper) : List (Nat × Nat) → List (Nat × Value) → Option (List (Nat × Value))
 | [], sl => some sl
 | q :: r, sl => match look sl q.2 with
  | some u => match ops[q.1]? with
   | some o => match relV o.op u with
    | some v => Zim ops r ((q.1, v) :: sl)
    | none => none
   | none => none
  | none => none
def toFr (ops : Array Oper) : List (Nat × Value) → List (Nat × Value)
 | [] => []
 | (j, v) :: r => match (ops[j]?).bind (·.dst) with
  | some t => (t, v) :: toFr ops r
  | none => toFr ops r
theorem Zhl {ops : Array Oper} {a : Act} : ∀ {Rl : List (Nat × Nat)} {sl sl' : List (Nat × Value)}, (∀ q ∈ Rl, ∃ oq, ops[q.1]? = some oq ∧ relV oq.op (Za9 ops q.2 a) = some (Za9 ops q.1 a)) → (∀ q ∈ sl, Za9 ops q.1 a = q.2) → Zim ops Rl sl = some sl' → ∀ q ∈ sl', Za9 ops q.1 a = q.2
 | [], sl, sl', _, h2, h => by
  cases h
  exact h2
 | p :: r, sl, sl', h1, h2, h => by
  unfold Zim at h
  split at h
  ·rename_i u hu
   split at h
   ·rename_i o ho
    split at h
    ·rename_i v hv
     refine Zhl (fun q hq => h1 q (List.mem_cons_of_mem _ hq)) (fun q hq => ?_) h
     rcases List.mem_cons.1 hq with rfl | hq
     ·obtain ⟨oq, g1, g2⟩ := h1 p List.mem_cons_self
      rw [ho] at g1
      cases g1
      have h3 := h2 _ (Zjd hu)
      dsimp only at h3
      rw [h3, hv] at g2
      injection g2 with g2
      exact g2.symm
     ·exact h2 q hq
    ·cases h
   ·cases h
  ·cases h
theorem ZgS {ops : Array Oper} {a : Act} (F : Frm a c.n c.df fr) : ∀ {sl : List (Nat × Value)}, (∀ q ∈ sl, Za9 ops q.1 a = q.2) → Frm a c.n c.df (toFr ops sl ++ fr)
 | [], _ => F
 | (j, v) :: r, h => by
  have ih := ZgS F fun q hq => h q (List.mem_cons_of_mem _ hq)
  have h1 := h _ List.mem_cons_self
  unfold Za9 at h1
  dsimp only at h1
  unfold toFr
  split
  ·rename_i t ht
   rw [ht] at h1
   exact ih.know h1
  ·exact ih
theorem Zsv (hn : Nat.beq k x.n = true) (hEf : ∀ sl l, E sl l → ∀ q ∈ sl, q.1 ∈ x.Ef) (h : ∀ sl l, E sl l → ∃ s, Zim x.ol.toArray x.Rl sl = some s ∧ G c Q ks (.ops x.ol.toArray rest) (toFr x.ol.toArray s ++ fr) l) : FE c Q ks x k rest fr xs E := fun hE a w Vs hM hB hok hx => by
 refine ZsW hn fun a' w' F he hV hT _ hR => ?_
 obtain ⟨sl, l, e1, e2, M⟩ := hT
 obtain ⟨s, h1, h2⟩ := h sl l e1
 refine h2 a' w' (ZgS F (Zhl hR (fun q hq => ?_) h1)) M
 rw [← e2 q hq]
 simp [Zdv, hEf sl l e1 q hq]
theorem Ztr {o : Oper} {v : Value} (h : ∀ a w, Frm a c.n c.df fr → Mem c.S c.W w l.flatten → ∀ R : Value → World → Prop, R v w → OpTo c.P o a.eval w R) : OpF c x xs o fr l (fun u r => u = v ∧ r = l) := fun a w F M _ =>
 h a w F M _ ⟨Ext.refl _ _, l, ⟨rfl, rfl⟩, M⟩
theorem ZnN {ι : Type} (val : ι → Value) (p : ι → Prop) (li : ι → Row) {y : Operand} {fn : FuncId} {ys : List Operand} {ts : Array TypeId} {vs : List Value} [hb : ZaD c.P fn] (hx : Ev fr y = some (.func (.func fn) #[] #[])) (ha : evL fr ys = some vs)
  (hc : ∀ w, Mem c.S c.W w l.flatten → Cal c.P fn vs.toArray w fun v w' => ∃ i, v = val i ∧ p i ∧ Mem [] w w' (li i).flatten) :
  OpF c x xs ⟨some d, .call ⟨.value y, ys.toArray, ts⟩, ty, pos, af, none⟩ fr l (fun u r => ∃ i, u = val i ∧ p i ∧ r = li i ++ l) := fun a w F M _ =>
 Zbh (F.e hx) (F.evs ha) (Cal.mono (hc w M) fun u w' h => by
  obtain ⟨i, h1, h2, N⟩ := h
  exact ⟨N.ext.any, _, ⟨i, h1, h2, rfl⟩, by rw [List.flatten_append];exact M.joins N⟩)
theorem Zcw {ι : Type} (j : Nat) (val : ι → Value) (p : ι → Prop) (ob : ι → Obj) (li : ι → Row) {f : ι → Row} {b : Nat} {o : Obj} {y : Operand} {fn : FuncId} {ys : List Operand} {ts : Array TypeId} {vs : List Value} [hb : ZaD c.P fn] (hx : Ev fr y = some (.func (.func fn) #[] #[])) (ha : evL fr ys = some vs)
  (hl : nthO l j = some [(b, o)]) (hB : b ∈ x.B) (hc : ∀ w, Mem c.S c.W w l.flatten → Cal c.P fn vs.toArray w fun v w' => ∃ i, v = val i ∧ p i ∧ Mem [b] w w' ((b, ob i) :: (li i).flatten)) (hf : ∀ i, setO l j [(b, ob i)] = some (f i)) :
  OpF c x xs ⟨some d, .call ⟨.value y, ys.toArray, ts⟩, ty, pos, af, none⟩ fr l (fun u r => ∃ i, u = val i ∧ p i ∧ r = li i ++ f i) := fun a w F M _ =>
 Zbh (F.e hx) (F.evs ha) (Cal.mono (hc w M) fun u w' h => by
  obtain ⟨i, h1, h2, N⟩ := h
  refine ⟨N.ext.mono fun k hk => by simp at hk;subst hk;exact hB, _, ⟨i, h1, h2, rfl⟩, ?_⟩
  obtain ⟨r, p1, p2⟩ := ZcN hl (hf i)
  have N' : Mem (([(b, o)] : List (Nat × Obj)).map (·.1)) w w' ((b, ob i) :: (li i).flatten) := N
  refine ((M.perm p1).joinB N').perm ?_
  rw [List.flatten_append]
  refine List.Perm.trans ?_ (List.Perm.append_left _ p2.symm)
  simpa using (List.perm_middle (a := (b, ob i)) (l₁ := (li i).flatten) (l₂ := r)).symm)
def EI {ι : Type} (P : ι → Prop) (sl : ι → List (Nat × Value)) (li : ι → Row) : ESt := fun s r => ∃ i, P i ∧ s = sl i ∧ r = li i
theorem Zen (h : FE c Q ks x k rest fr xs (EI (ι := Unit) (fun _ => True) (fun _ => []) (fun _ => l))) : FE c Q ks x k rest fr xs (E0 l) := by
 have : E0 l = EI (ι := Unit) (fun _ => True) (fun _ => []) (fun _ => l) := by
  funext s r
  simp [E0, EI]
 rw [this]
 exact h
section
variable {ι : Type} {P : ι → Prop} {sl : ι → List (Nat × Value)} {li : ι → Row}
theorem Zgv {κ : Type} (val : ι → κ → Value) (p : ι → κ → Prop) (f : ι → κ → Row) (ds : List (Nat × Nat)) (xp : XP)
  (h : ∀ i, P i → OpF c x xs ⟨some d, op, ty, pos, af, none⟩ (dsFr ds (sl i) ++ fr) (li i) (fun v r => ∃ j, v = val i j ∧ p i j ∧ r = f i j)) (hp : ∀ i j n0 w, xp.pred n0 (val i j) w)
  (hk : FE c Q ks x (k + 1) rest fr ((k, xp) :: xs) (EI (ι := ι × κ) (fun q => P q.1 ∧ p q.1 q.2) (fun q => (k, val q.1 q.2) :: sl q.1) (fun q => f q.1 q.2)))
  (hlt : effX x.Ef x.Rl [] x.n k op = true := by rfl) (hnd : notIn d fr = true := by rfl) (hds : dsOk x.ol.toArray ⟨some d, op, ty, pos, af, none⟩ x.Ef ds = true := by rfl) :
  FE c Q ks x k (⟨some d, op, ty, pos, af, none⟩ :: rest) fr xs (EI P sl li) := by
 refine ZtX (fun s _ v r => ∃ i j, P i ∧ p i j ∧ s = sl i ∧ v = val i j ∧ r = f i j) ds xp ?_ ?_ ?_ hlt hnd hds
 ·rintro _ _ ⟨i, hi, rfl, rfl⟩ a w F M hx
  refine (h i hi a w F M hx).mono fun v w' ⟨q1, r, ⟨j, q2, q3, q4⟩, q5⟩ => ⟨q1, r, ⟨i, j, hi, q3, rfl, q2, q4⟩, q5⟩
 ·rintro s r v r' _ ⟨i, j, _, _, _, rfl, _⟩ n0 w
  exact hp i j n0 w
 ·have : (fun s r => ∃ sl' l v, EI P sl li sl' l ∧ (∃ i j, P i ∧ p i j ∧ sl' = sl i ∧ v = val i j ∧ r = f i j) ∧ s = (k, v) :: sl') = EI (ι := ι × κ) (fun q => P q.1 ∧ p q.1 q.2) (fun q => (k, val q.1 q.2) :: sl q.1) (fun q => f q.1 q.2) := by
   funext s r
   apply propext
   constructor
   ·rintro ⟨sl', l, v, _, ⟨i, j, h1, h2, rfl, rfl, rfl⟩, rfl⟩
    exact ⟨(i, j), ⟨h1, h2⟩, rfl, rfl⟩
   ·rintro ⟨⟨i, j⟩, ⟨h1, h2⟩, rfl, rfl⟩
    exact ⟨sl i, li i, val i j, ⟨i, h1, rfl, rfl⟩, ⟨i, j, h1, h2, rfl, rfl, rfl⟩, rfl⟩
  rw [this]
  exact hk
theorem ZtT {v : Value} (f : ι → Row) (ds : List (Nat × Nat)) (h : ∀ i, P i → OpF c x xs ⟨some d, op, ty, pos, af, none⟩ (dsFr ds (sl i) ++ fr) (li i) (fun u r => u = v ∧ r = f i))
  (hk : FE c Q ks x (k + 1) rest ((d, v) :: fr) xs (EI P sl f))
  (hlt : effX x.Ef x.Rl [] x.n k op = true := by rfl) (hd : Nat.blt d c.n = true := by rfl) (hds : dsOk x.ol.toArray ⟨some d, op, ty, pos, af, none⟩ x.Ef ds = true := by rfl) :
  FE c Q ks x k (⟨some d, op, ty, pos, af, none⟩ :: rest) fr xs (EI P sl li) := fun hE a w Vs hM hB hok hx => by
 obtain ⟨h1, h2, h3, h4, hrf⟩ := ZeY hlt
 rintro rfl hT0 hPK
 have hsT : Zdf (ZdZ x.B) (ET c (EI P sl f)) := fun σ w w' ⟨s, l', q1, q2, q3⟩ hE => ⟨s, l', q1, q2, q3.later hE⟩
 have hlt' : ∀ i, P i → ∀ q ∈ sl i, q.1 < Vs.length := fun i hi q hq => hE _ _ ⟨i, hi, rfl, rfl⟩ q hq
 refine Zd5 hok h1 (Kn.stays _ v) hsT hT0.2 (fun hh => absurd h2 hh) hPK (fun hC ho => Zd8 rfl hd hC ho) (fun a' w' σ F he hdp hT hPp hσ hrel => ?_) (hk ?_ a w (Vs ++ [Kn v]) hM hB hok (Zfy hx) (by simp) ⟨hsT, XT.nil rfl⟩ hPK)
 ·simp only [Region.wanted, if_true]
  obtain ⟨_, _, ⟨i, hi, rfl, rfl⟩, e2, M⟩ := hT h2
  refine (h i hi a' w' (Zf3 F (fun q hq hf hd => ?_) hds) M (fun q hq hd => ⟨_, hdp q.1 hd _ (hx q hq)⟩)).mono fun u w'' ⟨q1, r, ⟨q2, q4⟩, q3⟩ => ⟨q1, q2, fun hh => absurd (h3.symm.trans hh) Bool.false_ne_true, fun hh => absurd h2 hh, fun _ => ⟨sl i, r, ⟨i, hi, rfl, q4⟩, ?_, q3⟩, .none h4, fun q hq e => (Zbp hrf q hq e).elim⟩
  ·rw [← hσ q.1 (.inl hf) hd]
   exact e2 q hq
  ·intro q hq
   have := hlt' i hi q hq
   show updS σ Vs.length u q.1 = q.2
   simp only [updS]
   rw [if_neg (by omega)]
   exact e2 q hq
 ·rintro _ _ ⟨i, hi, rfl, rfl⟩ q hq
  exact Nat.lt_succ_of_lt (hlt' i hi q hq)
theorem Zkk (f : ι → Row) (ds : List (Nat × Nat)) (h : ∀ i, P i → OpF c x xs ⟨none, op, ty, pos, af, none⟩ (dsFr ds (sl i) ++ fr) (li i) (fun _ r => r = f i))
  (hk : FE c Q ks x (k + 1) rest fr xs (EI P sl f))
  (hlt : effX x.Ef x.Rl [] x.n k op = true := by rfl) (hds : dsOk x.ol.toArray ⟨none, op, ty, pos, af, none⟩ x.Ef ds = true := by rfl) :
  FE c Q ks x k (⟨none, op, ty, pos, af, none⟩ :: rest) fr xs (EI P sl li) := by
 refine Zsu (fun s _ r => ∃ i, P i ∧ s = sl i ∧ r = f i) ds ?_ ?_ hlt hds
 ·rintro _ _ ⟨i, hi, rfl, rfl⟩ a w F M hx
  refine (h i hi a w F M hx).mono fun v w' ⟨q1, r, q2, q5⟩ => ⟨q1, r, ⟨i, hi, rfl, q2⟩, q5⟩
 ·have : (fun s r => ∃ l, EI P sl li s l ∧ ∃ i, P i ∧ s = sl i ∧ r = f i) = EI P sl f := by
   funext s r
   apply propext
   constructor
   ·rintro ⟨l, _, h⟩
    exact h
   ·rintro ⟨i, h1, h2, h3⟩
    exact ⟨li i, ⟨i, h1, h2, rfl⟩, i, h1, h2, h3⟩
  rw [this]
  exact hk
theorem ZhC (hn : Nat.beq k x.n = true) (hEf : ∀ i, P i → ∀ q ∈ sl i, q.1 ∈ x.Ef) (h : ∀ i, P i → ∃ s, Zim x.ol.toArray x.Rl (sl i) = some s ∧ G c Q ks (.ops x.ol.toArray rest) (toFr x.ol.toArray s ++ fr) (li i)) : FE c Q ks x k rest fr xs (EI P sl li) :=
 Zsv hn (by rintro _ _ ⟨i, hi, rfl, rfl⟩;exact hEf i hi) (by rintro _ _ ⟨i, hi, rfl, rfl⟩;exact h i hi)
end
theorem ZnO (j : Nat) {v : Value} {o' : Obj} {l' : Row} {b : Nat} {o : Obj} {y : Operand} {fn : FuncId} {ys : List Operand} {ts : Array TypeId} {vs : List Value} [hb : ZaD c.P fn] (hx : Ev fr y = some (.func (.func fn) #[] #[])) (ha : evL fr ys = some vs)
  (hl : nthO l j = some [(b, o)]) (hB : b ∈ x.B) (hc : ∀ w, Mem c.S c.W w l.flatten → Cal c.P fn vs.toArray w fun u w' => u = v ∧ Mem [b] w w' [(b, o')]) (hf : setO l j [(b, o')] = some l') :
  OpF c x xs ⟨some d, .call ⟨.value y, ys.toArray, ts⟩, ty, pos, af, none⟩ fr l (fun u r => u = v ∧ r = l') := fun a w F M hX =>
 (Zcw (ι := Unit) j (fun _ => v) (fun _ => True) (fun _ => o') (fun _ => []) hx ha hl hB (fun w M => Cal.mono (hc w M) fun u w' h => ⟨(), h.1, trivial, by simpa using h.2⟩) (fun _ => hf) a w F M hX).mono fun u w' ⟨q1, r, ⟨_, q2, _, q3⟩, q4⟩ => ⟨q1, r, ⟨q2, q3⟩, q4⟩
theorem Za8 {ι : Type} (i : Nat) (val : ι → Value) (p : ι → Prop) (ob : ι → Obj) (li : ι → Row) {f : ι → Row} {b : Nat} {o : Obj} {aa : Array Oper} {y : Operand} {fn : FuncId} {ys : List Operand} {ts : Array TypeId} {vs : List Value} [hb : ZaD c.P fn] (hx : Ev fr y = some (.func (.func fn) #[] #[])) (ha : evL fr ys = some vs)
  (hl : nthO l i = some [(b, o)]) (hc : ∀ w, Mem c.S c.W w l.flatten → Cal c.P fn vs.toArray w fun v w' => ∃ j, v = val j ∧ p j ∧ Mem [b] w w' ((b, ob j) :: (li j).flatten)) (hf : ∀ j, setO l i [(b, ob j)] = some (f j))
  (hk : ∀ j, p j → G c Q ks (.ops aa rest) ((d, val j) :: fr) (li j ++ f j)) (hd : Nat.blt d c.n = true := by rfl) (hg : gOk aa fr g = some true := by rfl) : G c Q ks (.ops aa (⟨some d, .call ⟨.value y, ys.toArray, ts⟩, ty, pos, af, g⟩ :: rest)) fr l :=
 g_op rfl hd hg fun a w F M => Zbh (F.e hx) (F.evs ha) (Cal.mono (hc w M) fun u w' h a' F' => by
  obtain ⟨j, rfl, h2, N⟩ := h
  obtain ⟨r, p1, p2⟩ := ZcN hl (hf j)
  have N' : Mem (([(b, o)] : List (Nat × Obj)).map (·.1)) w w' ((b, ob j) :: (li j).flatten) := N
  refine hk j h2 a' w' F' (((M.perm p1).joinB N').perm ?_)
  rw [List.flatten_append]
  refine List.Perm.trans ?_ (List.Perm.append_left _ p2.symm)
  simpa using (List.perm_middle (a := (b, ob j)) (l₁ := (li j).flatten) (l₂ := r)).symm)
theorem ZaS (i : Nat) {v : Value} {o' : Obj} {b : Nat} {o : Obj} {l' : Row} {aa : Array Oper} {y : Operand} {fn : FuncId} {ys : List Operand} {ts : Array TypeId} {vs : List Value} [hb : ZaD c.P fn] (hx : Ev fr y = some (.func (.func fn) #[] #[])) (ha : evL fr ys = some vs)
  (hl : nthO l i = some [(b, o)]) (hc : ∀ w, Mem c.S c.W w l.flatten → Cal c.P fn vs.toArray w fun u w' => u = v ∧ Mem [b] w w' [(b, o')]) (hf : setO l i [(b, o')] = some l')
  (hk : G c Q ks (.ops aa rest) ((d, v) :: fr) l') (hd : Nat.blt d c.n = true := by rfl) (hg : gOk aa fr g = some true := by rfl) : G c Q ks (.ops aa (⟨some d, .call ⟨.value y, ys.toArray, ts⟩, ty, pos, af, g⟩ :: rest)) fr l :=
 Za8 (ι := Unit) i (fun _ => v) (fun _ => True) (fun _ => o') (fun _ => []) hx ha hl (fun w M => Cal.mono (hc w M) fun u w' h => ⟨(), h.1, trivial, by simpa using h.2⟩) (fun _ => hf) (fun _ _ => hk) hd hg
end
theorem Zcp {P : Program} {f : FuncId} {fn : Func} {x : Code} {vs : List Value} {W : World} {R : Value → World → Prop} {n : Nat} (S : List Nat) {b : Nat} {o : Obj} {flds : List (Nat × Nat × Nat)} {slcs : List Nat} (hb : W.heap[b]? = some o) (hbS : b ∈ S) (hf : (flds.all fun q => Zc7 P q.1 q.2.1 q.2.2) = true) (hs : (slcs.all fun t => Zol P t) = true)
  (hfn : P.funcs[f]? = some fn) (hx : fn.body = some x) (hn : fn.ntmps = n) (hle : Nat.ble vs.length n = true)
  (h : G ⟨P, none, n, [], S, W, flds, slcs, hf, hs⟩ (Post P fn R) [] (.code x) (ZeS 0 vs) [[(b, o)]]) : Cal P f vs.toArray W R :=
 ZbU S hfn hx hn hle fun a w F M hw => h a w F (M.came hw hb hbS (by simp))
end Go.Proofs.YtfhkmgcalcfibaaGreat
